/- Layer 3: what the reference's Text answers. -/
import Derived.Test.YtcakgmnhipbmhaaWireRef3
namespace Go.Proofs.Ytcakgmnhipbmhaa
open Go.RowKit

theorem refText_any (s : ByteArray) (most : Int) (w : World) (hsz : s.size ≤ 140737488351232) (hm : most ≤ 9223372036854775807) (hm0 : -9223372036854775808 ≤ most) :
    Calls Try.prog 45 #[.string s, .int .i64 most] w fun e w' =>
      e = .returned (.tuple #[.string (str (rtext s.data.toList 0 0 most).1), .int .i64 ((rtext s.data.toList 0 0 most).2.1 : Nat), .int .i64 (rtext s.data.toList 0 0 most).2.2]) ∧ ∃ n, w' = w.drewN n := by
  have hfew := refFew_any s w hsz
  obtain ⟨h1, h2, h3⟩ := rvar_facts s.data.toList 0 0 (Nat.zero_le _)
  obtain ⟨r, hv⟩ : ∃ r, r = rvar s.data.toList 0 0 := ⟨_, rfl⟩
  rw [← hv] at hfew h1 h2 h3
  obtain ⟨x, q, e⟩ := r
  dsimp only at *
  rw [dlen] at h1
  have Hf := Lib.hid hfew
  have H3 := Lib.hid h3
  clear hfew h3
  by_cases he : e = 0
  · subst he
    have hne : ((0 : Int) != 0) = false := rfl
    by_cases hb : most < 0 ∨ most < (x : Int)
    · have hr : rtext s.data.toList 0 0 most = ([], 0, 12) := by simp [rtext, rint, ← hv, hb, rtake]
      rw [hr]
      clear hr hv
      by_cases hb0 : most < 0
      · go_enter Try.func45, Try.ntmps45
        go_wp2_with (go_at_call 44; (with_reducible refine Hf.out.mono ?_); rintro e w1 ⟨rfl, n1, rfl⟩)
        go_ret3
        exact ⟨rfl, _, rfl⟩
      · obtain ⟨m, rfl⟩ : ∃ m : Nat, most = m := ⟨most.toNat, by omega⟩
        have hb1 : (m : Int) < (x : Int) := by omega
        clear hb
        go_enter Try.func45, Try.ntmps45
        go_wp2_with (go_at_call 44; (with_reducible refine Hf.out.mono ?_); rintro e w1 ⟨rfl, n1, rfl⟩)
        go_ret3
        exact ⟨rfl, _, rfl⟩
    · obtain ⟨m, rfl⟩ : ∃ m : Nat, most = m := ⟨most.toNat, by omega⟩
      have hxm : (x : Int) ≤ (m : Int) := by omega
      by_cases hs : s.size - q < x
      · have hr : rtext s.data.toList 0 0 m = ([], 0, 10) := by simp [rtext, rint, ← hv, show ¬((m : Int) < 0 ∨ m < x) by omega, rtake, hs]
        rw [hr]
        have hs' : ((s.size : Int) - (q : Int)) < (x : Int) := by omega
        clear hr hv hb hs
        go_enter Try.func45, Try.ntmps45
        go_wp2_with (go_at_call 44; (with_reducible refine Hf.out.mono ?_); rintro e w1 ⟨rfl, n1, rfl⟩)
        go_ret3
        exact ⟨rfl, _, rfl⟩
      · have hr : rtext s.data.toList 0 0 m = ((s.data.toList.drop q).take x, q + x, 0) := by simp [rtext, rint, ← hv, show ¬((m : Int) < 0 ∨ m < x) by omega, rtake, hs]
        rw [hr]
        have hs' : (x : Int) ≤ ((s.size : Int) - (q : Int)) := by omega
        have hex : str ((s.data.toList.drop q).take x) = s.extract q (q + x) := by rw [str_extract, Nat.add_sub_cancel_left]
        dsimp only
        rw [hex]
        clear hr hv hb hs hex
        go_enter Try.func45, Try.ntmps45
        go_wp2_with (go_at_call 44; (with_reducible refine Hf.out.mono ?_); rintro e w1 ⟨rfl, n1, rfl⟩)
        go_ret3
        exact ⟨rfl, _, rfl⟩
  · have hne : (e != 0) = true := by simpa using he
    obtain ⟨rfl, rfl⟩ := H3.out he
    have hr : rtext s.data.toList 0 0 most = ([], 0, e) := by simp [rtext, rint, ← hv, he, rtake]
    rw [hr]
    clear hr hv
    go_enter Try.func45, Try.ntmps45
    go_wp2_with (go_at_call 44; (with_reducible refine Hf.out.mono ?_); rintro e w1 ⟨rfl, n1, rfl⟩)
    go_ret3
    exact ⟨rfl, _, rfl⟩

end Go.Proofs.Ytcakgmnhipbmhaa
