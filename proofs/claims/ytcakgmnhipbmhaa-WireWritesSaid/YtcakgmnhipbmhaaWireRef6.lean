/- Layer 3: what the laws' asked answers. -/
import Derived.Test.YtcakgmnhipbmhaaWireRef5
namespace Go.Proofs.Ytcakgmnhipbmhaa
open Go.RowKit

theorem results_tmp4 {fn : Func} {t u v x : Tmp} (h : fn.results = #[.tmp t, .tmp u, .tmp v, .tmp x]) (tmps : Array Value) (P : Program) (w : World) :
    (results fn tmps).run P w = .ok (.tuple #[tmps.getD t undef, tmps.getD u undef, tmps.getD v undef, tmps.getD x undef]) w := by
  simp [results, h]

set_option maxHeartbeats 1000000 in
theorem asked_any (s : ByteArray) (o : OpR) (w : World) (hg : o.good) (hsz : s.size ≤ 140737488351232) :
    Calls Try.prog 25 #[.string s, o.agg] w fun e w' =>
      e = .returned (.tuple #[.int .u64 (rop s.data.toList 0 0 o).1, .string (str (rop s.data.toList 0 0 o).2.1), .int .i64 ((rop s.data.toList 0 0 o).2.2.1 : Nat), .int .i64 (rop s.data.toList 0 0 o).2.2.2]) ∧ Keeps [] w w' := by
  obtain ⟨kind, x, t, n⟩ := o
  have hn0 := hg.n0
  have hn1 := hg.n1
  have hk : Keeps [] w (w.alloc (.cells #[.int .i64 kind, .int .u64 x, .string t, .int .i64 n] 46)) := (Keeps.refl [] w).alloc _
  have Hk := Lib.hid hk
  clear hk hg
  unfold OpR.agg rop
  dsimp only at *
  by_cases k0 : kind = 0
  · subst k0
    have e0 : ((0 : Int) == 0) = true := rfl
    rw [if_pos rfl]
    dsimp only
    have hc := refNumber_any s n (w.alloc (.cells #[.int .i64 0, .int .u64 x, .string t, .int .i64 n] 46)) hsz
    generalize rfixed s.data.toList 0 0 n = r at *
    have Hc := Lib.hid hc
    clear hc
    go_enter Try.func25, Try.ntmps25
    go_wp2_with (go_at_call 43; (with_reducible refine Hc.out.mono ?_); rintro e w1 ⟨rfl, rfl⟩)
    all_goals ((try simp only [Exit.inBlock, Exit.then]); refine bodyPost_ret (results_tmp4 rfl _ _ _) rfl ?_; exact ⟨rfl, Hk.out⟩)
  · have e0 : (kind == 0) = false := by simpa using k0
    rw [if_neg k0]
    by_cases k1 : kind = 1
    · subst k1
      rw [if_pos rfl]
      dsimp only
      have hc := refFew_any s (w.alloc (.cells #[.int .i64 1, .int .u64 x, .string t, .int .i64 n] 46)) hsz
      generalize rvar s.data.toList 0 0 = r at *
      have Hc := Lib.hid hc
      clear hc
      go_enter Try.func25, Try.ntmps25
      go_wp2_with (go_at_call 44; (with_reducible refine Hc.out.mono ?_); rintro e w1 ⟨rfl, n1, rfl⟩)
      all_goals ((try simp only [Exit.inBlock, Exit.then]); refine bodyPost_ret (results_tmp4 rfl _ _ _) rfl ?_; exact ⟨rfl, Hk.out.drewN _⟩)
    · have e1 : (kind == 1) = false := by simpa using k1
      rw [if_neg k1]
      by_cases k2 : kind = 2
      · subst k2
        rw [if_pos rfl]
        dsimp only
        have hc := refText_any s n (w.alloc (.cells #[.int .i64 2, .int .u64 x, .string t, .int .i64 n] 46)) hsz hn1 hn0
        generalize rtext s.data.toList 0 0 n = r at *
        have Hc := Lib.hid hc
        clear hc
        go_enter Try.func25, Try.ntmps25
        go_wp2_with (go_at_call 45; (with_reducible refine Hc.out.mono ?_); rintro e w1 ⟨rfl, n1, rfl⟩)
        all_goals ((try simp only [Exit.inBlock, Exit.then]); refine bodyPost_ret (results_tmp4 rfl _ _ _) rfl ?_; exact ⟨rfl, Hk.out.drewN _⟩)
      · have e2 : (kind == 2) = false := by simpa using k2
        rw [if_neg k2]
        by_cases k4 : kind = 4
        · subst k4
          rw [if_pos rfl]
          dsimp only
          have hc := refFew_any s (w.alloc (.cells #[.int .i64 4, .int .u64 x, .string t, .int .i64 n] 46)) hsz
          obtain ⟨r, hv⟩ : ∃ r, r = rvar s.data.toList 0 0 := ⟨_, rfl⟩
          unfold rint
          rw [← hv] at hc ⊢
          dsimp only
          obtain ⟨r, q, e⟩ := r
          dsimp only at *
          have Hc := Lib.hid hc
          clear hc hv
          by_cases hb : e = 0 ∧ (n < 0 ∨ n < (r : Int))
          · rw [if_pos hb]
            obtain ⟨rfl, hb⟩ := hb
            have hb2 : (if decide (n < 0) = true then true else decide ((r : Int) > n)) = true := by rcases hb with hb | hb <;> simp [hb]
            go_enter Try.func25, Try.ntmps25
            go_wp2_with (go_at_call 44; (with_reducible refine Hc.out.mono ?_); rintro e w1 ⟨rfl, n1, rfl⟩)
            all_goals ((try simp only [Exit.inBlock, Exit.then]); refine bodyPost_ret (results_tmp4 rfl _ _ _) rfl ?_; exact ⟨rfl, Hk.out.drewN _⟩)
          · rw [if_neg hb]
            by_cases he : e = 0
            · subst he
              have hb2 : (if decide (n < 0) = true then true else decide ((r : Int) > n)) = false := by
                have h1 : ¬ n < 0 := fun h => hb ⟨rfl, .inl h⟩
                have h2 : ¬ (r : Int) > n := fun h => hb ⟨rfl, .inr h⟩
                simp [h1]; omega
              have h1 : ¬ n < 0 := fun h => hb ⟨rfl, .inl h⟩
              have h2 : ¬ (r : Int) > n := fun h => hb ⟨rfl, .inr h⟩
              obtain ⟨m, rfl⟩ : ∃ m : Nat, n = m := ⟨n.toNat, by omega⟩
              have hrm : (r : Int) ≤ (m : Int) := by omega
              clear h1 h2
              clear hb
              go_enter Try.func25, Try.ntmps25
              go_wp2_with (go_at_call 44; (with_reducible refine Hc.out.mono ?_); rintro e w1 ⟨rfl, n1, rfl⟩)
              all_goals ((try simp only [Exit.inBlock, Exit.then]); refine bodyPost_ret (results_tmp4 rfl _ _ _) rfl ?_; exact ⟨rfl, Hk.out.drewN _⟩)
            · have he2 : (e == 0) = false := by simpa using he
              clear hb
              go_enter Try.func25, Try.ntmps25
              go_wp2_with (go_at_call 44; (with_reducible refine Hc.out.mono ?_); rintro e w1 ⟨rfl, n1, rfl⟩)
              all_goals ((try simp only [Exit.inBlock, Exit.then]); refine bodyPost_ret (results_tmp4 rfl _ _ _) rfl ?_; exact ⟨rfl, Hk.out.drewN _⟩)
        · have e4 : (kind == 4) = false := by simpa using k4
          rw [if_neg k4]
          by_cases hb : n < 0
          · have hr : rraw s.data.toList 0 0 n = ([], 0, 1) := by simp [rraw, hb]
            rw [hr]
            clear hr
            go_enter Try.func25, Try.ntmps25
            go_wp2_with fail
            (try simp only [Exit.inBlock, Exit.then])
            refine bodyPost_ret (results_tmp4 rfl _ _ _) rfl ?_
            exact ⟨rfl, Hk.out⟩
          · obtain ⟨m, rfl⟩ : ∃ m : Nat, n = m := ⟨n.toNat, by omega⟩
            by_cases hs : s.size < m
            · have hr : rraw s.data.toList 0 0 m = ([], 0, 10) := by simp [rraw, rtake, hs]
              rw [hr]
              have hs' : (s.size : Int) < (m : Int) := by omega
              clear hr hs hb
              go_enter Try.func25, Try.ntmps25
              go_wp2_with fail
              (try simp only [Exit.inBlock, Exit.then])
              refine bodyPost_ret (results_tmp4 rfl _ _ _) rfl ?_
              exact ⟨rfl, Hk.out⟩
            · have hr : rraw s.data.toList 0 0 m = (s.data.toList.take m, m, 0) := by simp [rraw, rtake, hs]
              rw [hr]
              have hs' : (m : Int) ≤ (s.size : Int) := by omega
              have hex : str (s.data.toList.take m) = s.extract 0 m := by rw [str_extract, Nat.sub_zero, List.drop_zero]
              dsimp only
              rw [hex]
              clear hr hs hb hex
              go_enter Try.func25, Try.ntmps25
              go_wp2_with fail
              go_quiet (fail)
              go_wp2_with fail
              (try simp only [Exit.inBlock, Exit.then])
              refine bodyPost_ret (results_tmp4 rfl _ _ _) rfl ?_
              exact ⟨rfl, Hk.out.drewN _⟩
end Go.Proofs.Ytcakgmnhipbmhaa
