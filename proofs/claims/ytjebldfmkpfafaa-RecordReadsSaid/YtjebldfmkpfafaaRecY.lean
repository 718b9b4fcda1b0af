/- Layer 10: the law's Same and none, where they say yes. -/
import Derived.Test.YtjebldfmkpfafaaRecF
import Derived.Test.YtjebldfmkpfafaaRecR
namespace Go.Proofs.Ytjebldfmkpfafaa
open Go.RowKit
set_option maxRecDepth 100000

set_option maxHeartbeats 4000000 in
theorem rsame_any (l : List Sp) (hn : l.length ≤ 9223372036854775807) (v1 v2 : Value) (G1 G2 : List Nat) (w : World) (h1 : SpAt w v1 l G1) (h2 : SpAt w v2 l G2) :
    Calls Try.prog 39 #[v1, v2] w fun e w' => e = .returned (.bool true) ∧ Keeps [] w w' := by
  have H1 := Lib.hid h1
  have H2 := Lib.hid h2
  obtain ⟨ad1, cap1, rfl, _⟩ := h1
  obtain ⟨ad2, cap2, rfl, _⟩ := h2
  go_enter Try.func39, Try.ntmps39
  go_wp2
  go_loopw [5] (fun iv wr => ∃ k : Nat, k ≤ l.length ∧ iv = .int .i64 k ∧ Keeps [] w wr) (fun iv _ => l.length - (intOf iv).toNat)
  case atStart => exact ⟨0, Nat.zero_le _, rfl, Keeps.refl [] _⟩
  case round =>
    obtain ⟨k, hk, rfl, kk⟩ := hrel
    by_cases hlt : k < l.length
    · obtain ⟨s, hs⟩ : ∃ s, l[k]? = some s := ⟨l[k], by simp [hlt]⟩
      obtain ⟨b1, o1, rfl, _, hc1⟩ := H1.out.at hs
      obtain ⟨b2, o2, rfl, _, hc2⟩ := H2.out.at hs
      have c0 : wr.cell? ⟨b1, o1 + k * 2, none⟩ = some (.int .i64 s.1) := kk.cell0 (hc1 0 _ rfl)
      have c1 : wr.cell? ⟨b1, o1 + k * 2 + 1, none⟩ = some (.int .i64 s.2) := kk.cell0 (hc1 1 _ rfl)
      have c2 : wr.cell? ⟨b2, o2 + k * 2, none⟩ = some (.int .i64 s.1) := kk.cell0 (hc2 0 _ rfl)
      have c3 : wr.cell? ⟨b2, o2 + k * 2 + 1, none⟩ = some (.int .i64 s.2) := kk.cell0 (hc2 1 _ rfl)
      have hki : (k : Int) < (l.length : Int) := by omega
      have hki0 : (0 : Int) ≤ (k : Int) := by omega
      have Kk := Lib.hid kk
      clear hc1 hc2 hs kk
      go_wp2
      go_quiet (fail)
      go_wp2
      go_roundw
      case rel => exact ⟨k + 1, by omega, by go_num, by first | exact Kk.out | exact Kk.out.drew | exact Kk.out.drewN _⟩
      case measure => simp [intOf]; omega
    · obtain rfl : k = l.length := by omega
      go_wp2
      go_ret
      exact ⟨rfl, kk⟩

set_option maxHeartbeats 4000000 in
theorem same_any (r : Rc) (v1 v2 : Value) (G1 G2 : List Nat) (w : World) (h1 : r.good w v1 G1) (h2 : r.good w v2 G2) :
    Calls Try.prog 23 #[r.val v1, r.val v2] w fun e w' => e = .returned (.bool true) ∧ Keeps [] w w' := by
  have K1 := Lib.hid (((Keeps.refl [] w).alloc (rbox r v1)).alloc (qbox r v2))
  have Sm := Lib.hid (fun w' (k : Keeps [] w w') => rsame_any r.sp h1.sl v1 v2 G1 G2 w' (h1.newer k).at_ (h2.newer k).at_)
  have CB := Lib.hid (fun w' (k : Keeps [] ((w.alloc (rbox r v1)).alloc (qbox r v2)) w') => two_new k)
  unfold Rc.val at *
  unfold rbox qbox at *
  obtain ⟨ad1, cap1, rfl, _⟩ := h1.at_
  obtain ⟨ad2, cap2, rfl, _⟩ := h2.at_
  clear h1 h2
  go_enter Try.func23, Try.ntmps23
  go_wp2_with (first
    | (go_at_call 39; (with_reducible refine (Sm.out _ K1.out).mono ?_); rintro e w1 ⟨rfl, k1⟩; obtain ⟨hb1, hb2⟩ := CB.out _ k1; obtain ⟨⟨a0, a1, a2, a3, a4, a5⟩, _⟩ := cells6 hb1; obtain ⟨⟨d0, d1, d2, d3, d4, d5⟩, _⟩ := cells6 hb2; have Kx := Lib.hid (K1.out.trans k1 (by simp)); clear hb1 hb2 k1))
  go_ret
  exact ⟨rfl, Kx.out⟩

set_option maxHeartbeats 4000000 in
theorem none_any (v : Value) (G : List Nat) (w : World) (h : Rc.zero.good w v G) :
    Calls Try.prog 19 #[Rc.zero.val v] w fun e w' => e = .returned (.bool true) ∧ Keeps [] w w' := by
  have K1 := Lib.hid ((Keeps.refl [] w).alloc (rbox Rc.zero v))
  have Sm := Lib.hid (fun w' (k : Keeps [] w w') => same_any Rc.zero v (.slice none 0 0) G [] w' (h.newer k) (zero_good w'))
  unfold Rc.val at *
  unfold rbox at *
  obtain ⟨ad1, cap1, rfl, _⟩ := h.at_
  have e1 : Rc.zero.ep = 0 := rfl
  have e2 : Rc.zero.nr = 0 := rfl
  have e3 : Rc.zero.kd = 0 := rfl
  have e4 : Rc.zero.dt = [] := rfl
  have e5 : Rc.zero.tx = [] := rfl
  have e6 : Rc.zero.sp.length = 0 := rfl
  simp only [e1, e2, e3, e4, e5, e6] at Sm K1 ⊢
  have hz := str_empty
  clear h e1 e2 e3 e4 e5 e6
  go_enter Try.func19, Try.ntmps19
  go_wp2_with (first
    | (go_at_call 23; (with_reducible refine (Sm.out _ K1.out).mono ?_); rintro e w1 ⟨rfl, k1⟩))

  go_ret
  exact ⟨rfl, K1.out.trans k1 (by simp)⟩
end Go.Proofs.Ytjebldfmkpfafaa
