/- Layer 10: getSpans. -/
import Derived.Test.YtjebldfmkpfafaaRecM
namespace Go.Proofs.Ytjebldfmkpfafaa
open Go.RowKit
set_option maxRecDepth 100000

theorem own_neS {w : World} {b : Nat} {cs : Array Value} {v : Value} {n size : Nat} {xs : List Value} {t e : TypeId} (hb : w.heap[b]? = some (.cells cs t (0, 0))) (hown : w.ownsRow 0 e size v n xs) (hne : e ≠ t) : b ∉ v.ownBlock.toList := by
  intro hm
  rcases hown.2 with ⟨rfl, _⟩ | ⟨g, cap, cur, rfl, _, hg, _⟩
  · simp [Value.ownBlock] at hm
  · simp only [Value.ownBlock, Option.toList, List.mem_singleton] at hm
    subst hm
    rw [hb] at hg
    simp only [Option.some.injEq, Obj.cells.injEq] at hg
    exact hne hg.2.1.symm

/-- A span more. -/
theorem RecAt.more {w w' : World} {c g cap : Nat} {r : Rc} {sv : Value} {s : Sp} (h1 : w.heap[c]? = some (.cells #[.int .i64 r.ep, .int .i64 r.nr, .int .i64 r.kd, sv, .string (str r.dt), .string (str r.tx)] 24 (0, 0)))
    (h2 : w.ownsRow 0 39 2 sv r.sp.length (r.sp.flatMap spV)) (h3 : w'.ownsRow 0 39 2 (.slice (some ⟨g, 0, none⟩) (r.sp.length + 1) cap) (r.sp.length + 1) (r.sp.flatMap spV ++ spV s)) (hc : Chg sv.ownBlock.toList [g] w w') :
    w'.heap[c]? = some (.cells #[.int .i64 r.ep, .int .i64 r.nr, .int .i64 r.kd, sv, .string (str r.dt), .string (str r.tx)] 24 (0, 0)) ∧
    RecAt (w'.setCell ⟨c, 3, none⟩ (.slice (some ⟨g, 0, none⟩) (r.sp.length + 1) cap)) c { r with sp := r.sp ++ [s] } [c, g] ∧ Chg (c :: sv.ownBlock.toList) [c, g] w (w'.setCell ⟨c, 3, none⟩ (.slice (some ⟨g, 0, none⟩) (r.sp.length + 1) cap)) := by
  have hn := own_neS h1 h2 (by decide)
  have hb := hc.keeps.some h1 hn
  have hn2 := own_neS hb h3 (by decide)
  have hcg : c ≠ g := by simpa [Value.ownBlock] using hn2
  have hk : Keeps [c] w' (w'.setCell ⟨c, 3, none⟩ (.slice (some ⟨g, 0, none⟩) (r.sp.length + 1) cap)) := (Keeps.refl [c] w').setCell (.inl (by simp)) _
  refine ⟨hb, ⟨.slice (some ⟨g, 0, none⟩) (r.sp.length + 1) cap, heap_setCell hb 3 _, by simp [Value.ownBlock], ?_⟩, ⟨?_, fun k hk' => ?_⟩⟩
  · have h4 := own_keep h3 hk (fun x hx => by simp [Value.ownBlock] at hx; subst hx; simpa using hcg.symm)
    simpa using h4
  · refine (hc.keeps.mono (F' := c :: sv.ownBlock.toList) (fun x hx => by simp at hx ⊢; exact .inr hx)).trans hk (fun x hx => .inl (by simp at hx; subst hx; simp))
  · rcases List.mem_cons.1 hk' with rfl | hk'
    · exact .inl (by simp)
    · rcases hc.fresh k hk' with h | h
      · exact .inl (by simp at h ⊢; exact .inr h)
      · exact .inr h

set_option maxHeartbeats 4000000 in
theorem getSpans_any (b c : Nat) (s : List UInt8) (p : Nat) (er : Int) (r : Rc) (F : List Nat) (w : World) (hi : InAt w b (str s) p er) (hr : RecAt w c r F) (hp : p ≤ s.length) (hs : s.length ≤ 100000) (hb : b ∉ F) (h0 : r.sp = []) :
    Calls Try.prog 52 #[.pointer (some ⟨b, 0, none⟩), .pointer (some ⟨c, 0, none⟩)] w fun e w' => e = .returned (.int .u32 0) ∧ ∃ F', InAt w' b (str s) (rspK s (rint s p er 64).2.1 (rint s p er 64).2.2 (rint s p er 64).1).2.1 (rspK s (rint s p er 64).2.1 (rint s p er 64).2.2 (rint s p er 64).1).2.2 ∧
      RecAt w' c { r with sp := (rspK s (rint s p er 64).2.1 (rint s p er 64).2.2 (rint s p er 64).1).1 } F' ∧ b ∉ F' ∧ (∀ x, x ∈ F' → x ∈ F ∨ w.heap.size ≤ x) ∧ Keeps (b :: F) w w' := by
  have I0 := inInt_any b (str s) p er w hi (by simpa using hp) (by simp; omega) 64 (by decide) (by decide)
  rw [str_data] at I0
  have hm := rint_most s p er 64 hp (by decide)
  have hq := (rint_facts s p er 64 hp).1
  generalize rint s p er 64 = N at *
  obtain ⟨cnt, q0, e0⟩ := N
  dsimp only at *
  have Ic := Lib.hid I0
  have Hr := Lib.hid hr
  have HbF := Lib.hid hb
  have Hlt := Lib.hid hr.lt
  have Hil := Lib.hid hi.lt
  clear I0 hi hr hb
  go_enter Try.func52, Try.ntmps52
  go_wp2_with (go_at_call 77; (with_reducible refine Ic.out.mono ?_); rintro e w1 ⟨rfl, hi1, k1⟩; have Hi1 := Lib.hid hi1; have K1 := Lib.hid k1; have Hr1 := Lib.hid (Hr.out.keep k1 (fun x hx hx' => by rw [List.mem_singleton] at hx'; subst hx'; exact HbF.out hx)); clear hi1 k1)
  go_loopw [9] (fun iv wr => ∃ (k : Nat) (F1 : List Nat), k ≤ cnt ∧ iv = .int .i64 k ∧ Hid (InAt wr b (str s) (rspK s q0 e0 k).2.1 (rspK s q0 e0 k).2.2) ∧ Hid (RecAt wr c { r with sp := (rspK s q0 e0 k).1 } F1) ∧ Hid (b ∉ F1) ∧ Hid (∀ x, x ∈ F1 → x ∈ F ∨ w.heap.size ≤ x) ∧ Hid (Keeps (b :: F) w wr)) (fun iv _ => cnt - (intOf iv).toNat)
  case atStart => exact ⟨0, F, Nat.zero_le _, rfl, Hi1, by unfold Hid; rw [rspK, ← h0]; exact Hr1.out, HbF, fun x hx => .inl hx, K1.out.mono (fun x hx => by simp at hx; simp [hx])⟩
  case round =>
    obtain ⟨k, F1, hk, rfl, Hi2, Hr2, Hb2, Hf2, K2⟩ := hrel
    by_cases hlt : k < cnt
    · have hle := rspK_le s q0 e0 hq k
      have hlen := rspK_len s q0 e0 k
      have hnx : rspK s q0 e0 (k + 1) = ((rspK s q0 e0 k).1 ++ [(((rint s (rspK s q0 e0 k).2.1 (rspK s q0 e0 k).2.2 65536).1 : Int), ((rint s (rint s (rspK s q0 e0 k).2.1 (rspK s q0 e0 k).2.2 65536).2.1 (rint s (rspK s q0 e0 k).2.1 (rspK s q0 e0 k).2.2 65536).2.2 65536).1 : Int))],
        (rint s (rint s (rspK s q0 e0 k).2.1 (rspK s q0 e0 k).2.2 65536).2.1 (rint s (rspK s q0 e0 k).2.1 (rspK s q0 e0 k).2.2 65536).2.2 65536).2) := rfl
      generalize rspK s q0 e0 k = T at *
      obtain ⟨L, q, e⟩ := T
      dsimp only at *
      have Ia := Lib.hid (fun w' (h : InAt w' b (str s) q e) => inInt_any b (str s) q e w' h (by simpa using hle) (by simp; omega) 65536 (by decide) (by decide))
      rw [str_data] at Ia
      have hqa := (rint_facts s q e 65536 hle).1
      have hma := rint_most s q e 65536 hle (by decide)
      generalize rint s q e 65536 = A at *
      obtain ⟨av, qa, ea⟩ := A
      dsimp only at *
      have Ib := Lib.hid (fun w' (h : InAt w' b (str s) qa ea) => inInt_any b (str s) qa ea w' h (by simpa using hqa) (by simp; omega) 65536 (by decide) (by decide))
      rw [str_data] at Ib
      have hmb := rint_most s qa ea 65536 hqa (by decide)
      generalize rint s qa ea 65536 = B at *
      obtain ⟨bv, qb, eb⟩ := B
      dsimp only at *
      have hki : (k : Int) < (cnt : Int) := by omega
      have hki0 : (0 : Int) ≤ (k : Int) := by omega
      have Hnx := Lib.hid hnx
      clear hnx Hi1 Hr1 K1
      go_wp2_with (first
        | (go_at_call 77; (with_reducible refine (Ia.out _ Hi2.out).mono ?_); rintro e w3 ⟨rfl, hi3, k3⟩; have Hr3 := Hr2.out.keep k3 (fun x hx hx' => by rw [List.mem_singleton] at hx'; subst hx'; exact Hb2.out hx); have K3 := K2.out.trans k3 (fun x hx => .inl (by simp at hx; simp [hx])); clear k3)
        | (go_at_call 77; (with_reducible refine (Ib.out _ hi3).mono ?_); rintro e w4 ⟨rfl, hi4, k4⟩; have Hr4 := Hr3.keep k4 (fun x hx hx' => by rw [List.mem_singleton] at hx'; subst hx'; exact Hb2.out hx); have K4 := K3.trans k4 (fun x hx => .inl (by simp at hx; simp [hx])); clear k4; obtain ⟨sv, hb4, hF4, hown4⟩ := Hr4; have Hfull := Lib.hid hown4; dsimp only at hown4; rw [hlen] at hown4; have c3 := cell_of_heap hb4 3; have Hb4 := Lib.hid hb4; have HF4 := Lib.hid hF4; have Hown4 := Lib.hid hown4; obtain ⟨oad, ocap, rfl⟩ := ownsRow_shape hown4; have Hi4 := Lib.hid hi4; have Kd4 := Lib.hid K4; clear hb4 hF4 hown4 hi4 K4 K3 Hr3 hi3)
        | (at_builtin; refine wpList_app1 tySps rfl (.tmp 19) (.tmp 23) rfl _ _ _ rfl rfl Hown4.out rfl ?c1 ?c2 ?c3 ?c4)
        | go_in)
      case c1 => exact ⟨rfl, rfl⟩
      case c2 => omega
      case c3 => unfold maxLen; omega
      case c4 =>
      intro g' cap' w' hown' hc'
      have hmo := RecAt.more (r := { r with sp := L }) (s := ((av : Int), (bv : Int))) Hb4.out Hfull.out (g := g') (cap := cap') (w' := w') (by
        show w'.ownsRow 0 39 2 (.slice (some ⟨g', 0, none⟩) (L.length + 1) cap') (L.length + 1) (L.flatMap spV ++ spV ((av : Int), (bv : Int)))
        rw [hlen]
        exact hown') hc'
      dsimp only at hmo
      rw [hlen] at hmo
      obtain ⟨hbn, hrn, hcn⟩ := hmo
      have c3' := cell_of_heap hbn 3
      have f3' := free_of_heap hbn 3
      have Hrn := Lib.hid hrn
      have Hcn := Lib.hid hcn
      clear hown' hc' hbn hrn hcn c3
      go_wp2
      go_roundw
      case rel =>
        have hbx : ∀ x, x ∈ [c, g'] → x ∈ F1 ∨ w4.heap.size ≤ x := fun x hx => by rw [HF4.out]; exact Hcn.out.fresh x hx
        refine ⟨k + 1, [c, g'], by omega, by go_num, by unfold Hid; rw [Hnx.out]; exact Hi4.out.keep Hcn.out.keeps (by rw [← HF4.out]; exact Hb2.out), by unfold Hid; rw [Hnx.out]; exact Hrn.out, fun h => ?_, fun x hx => ?_, Kd4.out.trans Hcn.out.keeps (fun x hx => ?_)⟩
        · rcases hbx b h with h1 | h1
          · exact Hb2.out h1
          · have := Hi4.out.lt; omega
        · rcases hbx x hx with h1 | h1
          · exact Hf2.out x h1
          · right; have := Kd4.out.size; omega
        · rw [← HF4.out] at hx
          rcases Hf2.out x hx with h1 | h1
          · exact .inl (by simp [h1])
          · exact .inr h1
      case measure => simp [intOf]; omega
    · obtain rfl : k = cnt := by omega
      go_wp2
      go_ret
      exact ⟨rfl, F1, Hi2.out, Hr2.out, Hb2.out, Hf2.out, K2.out⟩
end Go.Proofs.Ytjebldfmkpfafaa
