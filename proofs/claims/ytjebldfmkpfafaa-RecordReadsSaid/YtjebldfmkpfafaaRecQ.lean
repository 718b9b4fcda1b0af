/- Layer 10: what is read of a record: spans. -/
import Derived.Test.YtjebldfmkpfafaaRecC
import Derived.Test.YtjebldfmkpfafaaWireH
import Derived.Test.YtjebldfmkpfafaaRecD
namespace Go.Proofs.Ytjebldfmkpfafaa
open Go.RowKit
set_option maxRecDepth 100000

theorem tySps : SlTy Try.prog 22 39 2 16 (.agg #[.int .i64 0, .int .i64 0]) := SlTy.mk' Try.underlying22 (by kernel_rfl) rfl (by decide)

/-- So many spans are read. -/
def rspK (l : List UInt8) (p : Nat) (er : Int) : Nat → List Sp × Nat × Int
  | 0 => ([], p, er)
  | k + 1 => ((rspK l p er k).1 ++ [(((rint l (rspK l p er k).2.1 (rspK l p er k).2.2 65536).1 : Int), ((rint l (rint l (rspK l p er k).2.1 (rspK l p er k).2.2 65536).2.1 (rint l (rspK l p er k).2.1 (rspK l p er k).2.2 65536).2.2 65536).1 : Int))],
      (rint l (rint l (rspK l p er k).2.1 (rspK l p er k).2.2 65536).2.1 (rint l (rspK l p er k).2.1 (rspK l p er k).2.2 65536).2.2 65536).2)
theorem rspK_len (l : List UInt8) (p : Nat) (er : Int) : ∀ k, (rspK l p er k).1.length = k
  | 0 => rfl
  | k + 1 => by rw [rspK, List.length_append, rspK_len l p er k]; rfl
theorem rspK_le (l : List UInt8) (p : Nat) (er : Int) (hp : p ≤ l.length) : ∀ k, (rspK l p er k).2.1 ≤ l.length
  | 0 => hp
  | k + 1 => by
    have h := rspK_le l p er hp k
    have h1 := (rint_facts l _ (rspK l p er k).2.2 65536 h).1
    exact (rint_facts l _ (rint l (rspK l p er k).2.1 (rspK l p er k).2.2 65536).2.2 65536 h1).1
theorem rint_most (l : List UInt8) (p : Nat) (er most : Int) (hp : p ≤ l.length) (hm : 0 ≤ most) : ((rint l p er most).1 : Int) ≤ most := by
  obtain ⟨_, h2, h3⟩ := rint_facts l p er most hp
  by_cases h : (rint l p er most).2.2 = 0
  · exact (h3 h).2
  · rw [(h2 h).1]; omega
theorem rspK_bd (l : List UInt8) (p : Nat) (er : Int) (hp : p ≤ l.length) : ∀ k, ∀ s, s ∈ (rspK l p er k).1 → 0 ≤ s.1 ∧ s.1 ≤ 65536 ∧ 0 ≤ s.2 ∧ s.2 ≤ 65536
  | 0, s, h => by simp [rspK] at h
  | k + 1, s, h => by
    rw [rspK, List.mem_append, List.mem_singleton] at h
    rcases h with h | h
    · exact rspK_bd l p er hp k s h
    · have h0 := rspK_le l p er hp k
      have h1 := rint_most l _ (rspK l p er k).2.2 65536 h0 (by decide)
      have h2 := rint_most l _ (rint l (rspK l p er k).2.1 (rspK l p er k).2.2 65536).2.2 65536 (rint_facts l _ (rspK l p er k).2.2 65536 h0).1 (by decide)
      rw [h]
      dsimp only
      omega

theorem own_lt {w : World} {e : TypeId} {size n : Nat} {v : Value} {xs : List Value} (h : w.ownsRow 0 e size v n xs) : ∀ x, x ∈ v.ownBlock.toList → x < w.heap.size := by
  intro x hx
  rcases h.2 with ⟨rfl, _⟩ | ⟨g, cap, cur, rfl, _, hg, _⟩
  · simp [Value.ownBlock] at hx
  · simp [Value.ownBlock] at hx
    subst hx
    exact (Array.getElem?_eq_some_iff.1 hg).1

/-- The record that is being read, at block c, its spans its own. -/
def RecAt (w : World) (c : Nat) (r : Rc) (F : List Nat) : Prop :=
  ∃ sv, w.heap[c]? = some (.cells #[.int .i64 r.ep, .int .i64 r.nr, .int .i64 r.kd, sv, .string (str r.dt), .string (str r.tx)] 24 (0, 0)) ∧ F = c :: sv.ownBlock.toList ∧ w.ownsRow 0 39 2 sv r.sp.length (r.sp.flatMap spV)
theorem RecAt.keep {w w' : World} {c : Nat} {r : Rc} {F G : List Nat} (h : RecAt w c r F) (k : Keeps G w w') (hd : ∀ x, x ∈ F → x ∉ G) : RecAt w' c r F := by
  obtain ⟨sv, h1, rfl, h2⟩ := h
  exact ⟨sv, k.some h1 (hd c (by simp)), rfl, own_keep h2 k (fun x hx => hd x (by simp [hx]))⟩
theorem RecAt.lt {w : World} {c : Nat} {r : Rc} {F : List Nat} (h : RecAt w c r F) : ∀ x, x ∈ F → x < w.heap.size := by
  obtain ⟨sv, h1, rfl, h2⟩ := h
  intro x hx
  rcases List.mem_cons.1 hx with rfl | hx
  · exact (Array.getElem?_eq_some_iff.1 h1).1
  · exact own_lt h2 x hx
end Go.Proofs.Ytjebldfmkpfafaa

/- Layer 10: getSpans. -/
namespace Go.Proofs.Ytjebldfmkpfafaa
open Go.RowKit
set_option maxRecDepth 100000

theorem own_neS {w : World} {b : Nat} {cs : Array Value} {v : Value} {n size : Nat} {xs : List Value} {t e : TypeId} (hb : w.heap[b]? = some (.cells cs t (0, 0))) (hown : w.ownsRow 0 e size v n xs) (hne : e ≠ t) : b ∉ v.ownBlock.toList := by
  intro hm
  rcases hown.2 with ⟨rfl, _⟩ | ⟨g, cap, cur, rfl, _, hg, _⟩
  · simp [Value.ownBlock] at hm
  · simp only [Value.ownBlock, Option.toList, List.mem_singleton] at hm
    subst hm
    rw [hb] at hg
    simp only [Option.some.injEq, Obj.cells.injEq] at hg
    exact hne hg.2.1.symm

/-- A span more. -/
theorem RecAt.more {w w' : World} {c g cap : Nat} {r : Rc} {sv : Value} {s : Sp} (h1 : w.heap[c]? = some (.cells #[.int .i64 r.ep, .int .i64 r.nr, .int .i64 r.kd, sv, .string (str r.dt), .string (str r.tx)] 24 (0, 0)))
    (h2 : w.ownsRow 0 39 2 sv r.sp.length (r.sp.flatMap spV)) (h3 : w'.ownsRow 0 39 2 (.slice (some ⟨g, 0, none⟩) (r.sp.length + 1) cap) (r.sp.length + 1) (r.sp.flatMap spV ++ spV s)) (hc : Chg sv.ownBlock.toList [g] w w') :
    w'.heap[c]? = some (.cells #[.int .i64 r.ep, .int .i64 r.nr, .int .i64 r.kd, sv, .string (str r.dt), .string (str r.tx)] 24 (0, 0)) ∧
    RecAt (w'.setCell ⟨c, 3, none⟩ (.slice (some ⟨g, 0, none⟩) (r.sp.length + 1) cap)) c { r with sp := r.sp ++ [s] } [c, g] ∧ Chg (c :: sv.ownBlock.toList) [c, g] w (w'.setCell ⟨c, 3, none⟩ (.slice (some ⟨g, 0, none⟩) (r.sp.length + 1) cap)) := by
  have hn := own_neS h1 h2 (by decide)
  have hb := hc.keeps.some h1 hn
  have hn2 := own_neS hb h3 (by decide)
  have hcg : c ≠ g := by simpa [Value.ownBlock] using hn2
  have hk : Keeps [c] w' (w'.setCell ⟨c, 3, none⟩ (.slice (some ⟨g, 0, none⟩) (r.sp.length + 1) cap)) := (Keeps.refl [c] w').setCell (.inl (by simp)) _
  refine ⟨hb, ⟨.slice (some ⟨g, 0, none⟩) (r.sp.length + 1) cap, heap_setCell hb 3 _, by simp [Value.ownBlock], ?_⟩, ⟨?_, fun k hk' => ?_⟩⟩
  · have h4 := own_keep h3 hk (fun x hx => by simp [Value.ownBlock] at hx; subst hx; simpa using hcg.symm)
    simpa using h4
  · refine (hc.keeps.mono (F' := c :: sv.ownBlock.toList) (fun x hx => by simp at hx ⊢; exact .inr hx)).trans hk (fun x hx => .inl (by simp at hx; subst hx; simp))
  · rcases List.mem_cons.1 hk' with rfl | hk'
    · exact .inl (by simp)
    · rcases hc.fresh k hk' with h | h
      · exact .inl (by simp at h ⊢; exact .inr h)
      · exact .inr h

set_option maxHeartbeats 4000000 in
theorem getSpans_any (b c : Nat) (s : List UInt8) (p : Nat) (er : Int) (r : Rc) (F : List Nat) (w : World) (hi : InAt w b (str s) p er) (hr : RecAt w c r F) (hp : p ≤ s.length) (hs : s.length ≤ 100000) (hb : b ∉ F) (h0 : r.sp = []) :
    Calls Try.prog 52 #[.pointer (some ⟨b, 0, none⟩), .pointer (some ⟨c, 0, none⟩)] w fun e w' => e = .returned (.int .u32 0) ∧ ∃ F', InAt w' b (str s) (rspK s (rint s p er 64).2.1 (rint s p er 64).2.2 (rint s p er 64).1).2.1 (rspK s (rint s p er 64).2.1 (rint s p er 64).2.2 (rint s p er 64).1).2.2 ∧
      RecAt w' c { r with sp := (rspK s (rint s p er 64).2.1 (rint s p er 64).2.2 (rint s p er 64).1).1 } F' ∧ b ∉ F' ∧ (∀ x, x ∈ F' → x ∈ F ∨ w.heap.size ≤ x) ∧ Keeps (b :: F) w w' := by
  have I0 := inInt_any b (str s) p er w hi (by simpa using hp) (by simp; omega) 64 (by decide) (by decide)
  rw [str_data] at I0
  have hm := rint_most s p er 64 hp (by decide)
  have hq := (rint_facts s p er 64 hp).1
  generalize rint s p er 64 = N at *
  obtain ⟨cnt, q0, e0⟩ := N
  dsimp only at *
  have Ic := Lib.hid I0
  have Hr := Lib.hid hr
  have HbF := Lib.hid hb
  have Hlt := Lib.hid hr.lt
  have Hil := Lib.hid hi.lt
  clear I0 hi hr hb
  go_enter Try.func52, Try.ntmps52
  go_wp2_with (go_at_call 77; (with_reducible refine Ic.out.mono ?_); rintro e w1 ⟨rfl, hi1, k1⟩; have Hi1 := Lib.hid hi1; have K1 := Lib.hid k1; have Hr1 := Lib.hid (Hr.out.keep k1 (fun x hx hx' => by rw [List.mem_singleton] at hx'; subst hx'; exact HbF.out hx)); clear hi1 k1)
  go_loopw [9] (fun iv wr => ∃ (k : Nat) (F1 : List Nat), k ≤ cnt ∧ iv = .int .i64 k ∧ Hid (InAt wr b (str s) (rspK s q0 e0 k).2.1 (rspK s q0 e0 k).2.2) ∧ Hid (RecAt wr c { r with sp := (rspK s q0 e0 k).1 } F1) ∧ Hid (b ∉ F1) ∧ Hid (∀ x, x ∈ F1 → x ∈ F ∨ w.heap.size ≤ x) ∧ Hid (Keeps (b :: F) w wr)) (fun iv _ => cnt - (intOf iv).toNat)
  case atStart => exact ⟨0, F, Nat.zero_le _, rfl, Hi1, by unfold Hid; rw [rspK, ← h0]; exact Hr1.out, HbF, fun x hx => .inl hx, K1.out.mono (fun x hx => by simp at hx; simp [hx])⟩
  case round =>
    obtain ⟨k, F1, hk, rfl, Hi2, Hr2, Hb2, Hf2, K2⟩ := hrel
    by_cases hlt : k < cnt
    · have hle := rspK_le s q0 e0 hq k
      have hlen := rspK_len s q0 e0 k
      have hnx : rspK s q0 e0 (k + 1) = ((rspK s q0 e0 k).1 ++ [(((rint s (rspK s q0 e0 k).2.1 (rspK s q0 e0 k).2.2 65536).1 : Int), ((rint s (rint s (rspK s q0 e0 k).2.1 (rspK s q0 e0 k).2.2 65536).2.1 (rint s (rspK s q0 e0 k).2.1 (rspK s q0 e0 k).2.2 65536).2.2 65536).1 : Int))],
        (rint s (rint s (rspK s q0 e0 k).2.1 (rspK s q0 e0 k).2.2 65536).2.1 (rint s (rspK s q0 e0 k).2.1 (rspK s q0 e0 k).2.2 65536).2.2 65536).2) := rfl
      generalize rspK s q0 e0 k = T at *
      obtain ⟨L, q, e⟩ := T
      dsimp only at *
      have Ia := Lib.hid (fun w' (h : InAt w' b (str s) q e) => inInt_any b (str s) q e w' h (by simpa using hle) (by simp; omega) 65536 (by decide) (by decide))
      rw [str_data] at Ia
      have hqa := (rint_facts s q e 65536 hle).1
      have hma := rint_most s q e 65536 hle (by decide)
      generalize rint s q e 65536 = A at *
      obtain ⟨av, qa, ea⟩ := A
      dsimp only at *
      have Ib := Lib.hid (fun w' (h : InAt w' b (str s) qa ea) => inInt_any b (str s) qa ea w' h (by simpa using hqa) (by simp; omega) 65536 (by decide) (by decide))
      rw [str_data] at Ib
      have hmb := rint_most s qa ea 65536 hqa (by decide)
      generalize rint s qa ea 65536 = B at *
      obtain ⟨bv, qb, eb⟩ := B
      dsimp only at *
      have hki : (k : Int) < (cnt : Int) := by omega
      have hki0 : (0 : Int) ≤ (k : Int) := by omega
      have Hnx := Lib.hid hnx
      clear hnx Hi1 Hr1 K1
      go_wp2_with (first
        | (go_at_call 77; (with_reducible refine (Ia.out _ Hi2.out).mono ?_); rintro e w3 ⟨rfl, hi3, k3⟩; have Hr3 := Hr2.out.keep k3 (fun x hx hx' => by rw [List.mem_singleton] at hx'; subst hx'; exact Hb2.out hx); have K3 := K2.out.trans k3 (fun x hx => .inl (by simp at hx; simp [hx])); clear k3)
        | (go_at_call 77; (with_reducible refine (Ib.out _ hi3).mono ?_); rintro e w4 ⟨rfl, hi4, k4⟩; have Hr4 := Hr3.keep k4 (fun x hx hx' => by rw [List.mem_singleton] at hx'; subst hx'; exact Hb2.out hx); have K4 := K3.trans k4 (fun x hx => .inl (by simp at hx; simp [hx])); clear k4; obtain ⟨sv, hb4, hF4, hown4⟩ := Hr4; have Hfull := Lib.hid hown4; dsimp only at hown4; rw [hlen] at hown4; have c3 := cell_of_heap hb4 3; have Hb4 := Lib.hid hb4; have HF4 := Lib.hid hF4; have Hown4 := Lib.hid hown4; obtain ⟨oad, ocap, rfl⟩ := ownsRow_shape hown4; have Hi4 := Lib.hid hi4; have Kd4 := Lib.hid K4; clear hb4 hF4 hown4 hi4 K4 K3 Hr3 hi3)
        | (at_builtin; refine wpList_app1 tySps rfl (.tmp 19) (.tmp 23) rfl _ _ _ rfl rfl Hown4.out rfl ?c1 ?c2 ?c3 ?c4)
        | go_in)
      case c1 => exact ⟨rfl, rfl⟩
      case c2 => omega
      case c3 => unfold maxLen; omega
      case c4 =>
      intro g' cap' w' hown' hc'
      have hmo := RecAt.more (r := { r with sp := L }) (s := ((av : Int), (bv : Int))) Hb4.out Hfull.out (g := g') (cap := cap') (w' := w') (by
        show w'.ownsRow 0 39 2 (.slice (some ⟨g', 0, none⟩) (L.length + 1) cap') (L.length + 1) (L.flatMap spV ++ spV ((av : Int), (bv : Int)))
        rw [hlen]
        exact hown') hc'
      dsimp only at hmo
      rw [hlen] at hmo
      obtain ⟨hbn, hrn, hcn⟩ := hmo
      have c3' := cell_of_heap hbn 3
      have f3' := free_of_heap hbn 3
      have Hrn := Lib.hid hrn
      have Hcn := Lib.hid hcn
      clear hown' hc' hbn hrn hcn c3
      go_wp2
      go_roundw
      case rel =>
        have hbx : ∀ x, x ∈ [c, g'] → x ∈ F1 ∨ w4.heap.size ≤ x := fun x hx => by rw [HF4.out]; exact Hcn.out.fresh x hx
        refine ⟨k + 1, [c, g'], by omega, by go_num, by unfold Hid; rw [Hnx.out]; exact Hi4.out.keep Hcn.out.keeps (by rw [← HF4.out]; exact Hb2.out), by unfold Hid; rw [Hnx.out]; exact Hrn.out, fun h => ?_, fun x hx => ?_, Kd4.out.trans Hcn.out.keeps (fun x hx => ?_)⟩
        · rcases hbx b h with h1 | h1
          · exact Hb2.out h1
          · have := Hi4.out.lt; omega
        · rcases hbx x hx with h1 | h1
          · exact Hf2.out x h1
          · right; have := Kd4.out.size; omega
        · rw [← HF4.out] at hx
          rcases Hf2.out x hx with h1 | h1
          · exact .inl (by simp [h1])
          · exact .inr h1
      case measure => simp [intOf]; omega
    · obtain rfl : k = cnt := by omega
      go_wp2
      go_ret
      exact ⟨rfl, F1, Hi2.out, Hr2.out, Hb2.out, Hf2.out, K2.out⟩
end Go.Proofs.Ytjebldfmkpfafaa

/- Layer 10: what is read of a record, kind by kind; data. -/
namespace Go.Proofs.Ytjebldfmkpfafaa
open Go.RowKit
set_option maxRecDepth 100000

theorem num_lt4 (l : List UInt8) : num l < 256 ^ l.length := by
  induction l with
  | nil => simp [num]
  | cons c l ih =>
    rw [num_cons, List.length_cons, Nat.pow_succ]
    have := c.toNat_lt
    have h2 : c.toNat * 256 ^ l.length ≤ 255 * 256 ^ l.length := Nat.mul_le_mul_right _ (by omega)
    omega
theorem rfixed_bd (l : List UInt8) (p : Nat) (er : Int) : (rfixed l p er 4).1 < 4294967296 := by
  unfold rfixed
  rw [if_neg (by omega)]
  dsimp only
  have h1 := num_lt4 (rtake l p er (Int.toNat 4)).1
  have h2 : (rtake l p er (Int.toNat 4)).1.length ≤ 4 := by
    unfold rtake
    split
    · simp
    · split
      · simp
      · rw [List.length_take]; exact Nat.min_le_left _ _
  have h3 : 256 ^ (rtake l p er (Int.toNat 4)).1.length ≤ 256 ^ 4 := Nat.pow_le_pow_right (by decide) h2
  exact Nat.lt_of_lt_of_le h1 h3

/-- The spans of a record, and where the reader stands behind them. -/
def rspA (s : List UInt8) (p : Nat) (er : Int) : List Sp × Nat × Int := rspK s (rint s p er 64).2.1 (rint s p er 64).2.2 (rint s p er 64).1
theorem rspA_le (s : List UInt8) (p : Nat) (er : Int) (hp : p ≤ s.length) : (rspA s p er).2.1 ≤ s.length := rspK_le s _ _ (rint_facts s p er 64 hp).1 _
theorem rspA_len (s : List UInt8) (p : Nat) (er : Int) (hp : p ≤ s.length) : (rspA s p er).1.length ≤ 64 := by
  unfold rspA
  rw [rspK_len]
  have := rint_most s p er 64 hp (by decide)
  omega
theorem rspA_bd (s : List UInt8) (p : Nat) (er : Int) (hp : p ≤ s.length) : ∀ x, x ∈ (rspA s p er).1 → 0 ≤ x.1 ∧ x.1 ≤ 65536 ∧ 0 ≤ x.2 ∧ x.2 ≤ 65536 := rspK_bd s _ _ (rint_facts s p er 64 hp).1 _

/-- What reading a record's kind does: the sum, the record, the reader's place. -/
def GetOf (f : Nat) (rd : List UInt8 → Nat → Int → Rc → Nat × Rc × Nat × Int) : Prop :=
  ∀ (b c : Nat) (s : List UInt8) (p : Nat) (er : Int) (r : Rc) (F : List Nat) (w : World), InAt w b (str s) p er → RecAt w c r F → p ≤ s.length → s.length ≤ 100000 → b ∉ F → r.sp = [] →
    Calls Try.prog f #[.pointer (some ⟨b, 0, none⟩), .pointer (some ⟨c, 0, none⟩)] w fun e w' => e = .returned (.int .u32 (rd s p er r).1) ∧ ∃ F', InAt w' b (str s) (rd s p er r).2.2.1 (rd s p er r).2.2.2 ∧
      RecAt w' c (rd s p er r).2.1 F' ∧ b ∉ F' ∧ (∀ x, x ∈ F' → x ∈ F ∨ w.heap.size ≤ x) ∧ Keeps (b :: F) w w'
def rd2 (s : List UInt8) (p : Nat) (er : Int) (r : Rc) : Nat × Rc × Nat × Int := (0, { r with sp := (rspA s p er).1 }, (rspA s p er).2)
def rd1 (s : List UInt8) (p : Nat) (er : Int) (r : Rc) : Nat × Rc × Nat × Int := ((rfixed s (rspA s p er).2.1 (rspA s p er).2.2 4).1, { r with sp := (rspA s p er).1 }, (rfixed s (rspA s p er).2.1 (rspA s p er).2.2 4).2)
def rd3 (s : List UInt8) (p : Nat) (er : Int) (r : Rc) : Nat × Rc × Nat × Int := (0, { r with tx := (rtext s p er 512).1 }, (rtext s p er 512).2)

theorem get2 : GetOf 52 rd2 := fun b c s p er r F w hi hr hp hs hb h0 => getSpans_any b c s p er r F w hi hr hp hs hb h0

theorem get1 : GetOf 51 rd1 := fun b c s p er r F w hi hr hp hs hb h0 => by
  have G := Lib.hid (getSpans_any b c s p er r F w hi hr hp hs hb h0)
  have hle := rspA_le s p er hp
  unfold rd1
  unfold rspA at *
  generalize rspK s (rint s p er 64).2.1 (rint s p er 64).2.2 (rint s p er 64).1 = Q at *
  obtain ⟨L, q, e⟩ := Q
  dsimp only at *
  have Fx := Lib.hid (fun w' (h : InAt w' b (str s) q e) => inFixed_any b (str s) q e w' h (by simpa using hle) (by simp; omega) 4)
  rw [str_data] at Fx
  have hbd := rfixed_bd s q e
  generalize rfixed s q e 4 = T at *
  obtain ⟨X, q2, e2⟩ := T
  dsimp only at *
  have hwX : IntKind.u32.wrap (X : Int) = X := IntWalk.u32_in _ ⟨by omega, by omega⟩
  clear hi hr hb h0
  go_enter Try.func51, Try.ntmps51
  go_wp2_with (first
    | (go_at_call 52; (with_reducible refine G.out.mono ?_); rintro e w1 ⟨rfl, F1, hi1, hr1, hb1, hf1, k1⟩)
    | (go_at_call 53; (with_reducible refine (Fx.out _ hi1).mono ?_); rintro e w2 ⟨rfl, hi2, k2⟩))
  go_ret
  exact ⟨rfl, F1, hi2, hr1.keep k2 (fun x hx hx' => by rw [List.mem_singleton] at hx'; subst hx'; exact hb1 hx), hb1, hf1, k1.trans k2 (fun x hx => .inl (by simp at hx; simp [hx]))⟩

theorem get3 : GetOf 58 rd3 := fun b c s p er r F w hi hr hp hs hb h0 => by
  have Tx := Lib.hid (inText_any b (str s) p er w hi (by simpa using hp) (by simp; omega) 512 (by decide) (by decide))
  rw [str_data] at Tx
  unfold rd3
  generalize rtext s p er 512 = T at *
  obtain ⟨X, q2, e2⟩ := T
  dsimp only at *
  have Hr := Lib.hid hr
  have Hb := Lib.hid hb
  clear hi hr hb h0 hp hs
  go_enter Try.func58, Try.ntmps58
  go_wp2_with (first
    | (go_at_call 59; (with_reducible refine Tx.out.mono ?_); rintro e w1 ⟨rfl, hi1, k1⟩; obtain ⟨sv, hb1, hF1, hown1⟩ := Hr.out.keep k1 (fun x hx hx' => by rw [List.mem_singleton] at hx'; subst hx'; exact Hb.out hx); have c5 := cell_of_heap hb1 5; have f5 := free_of_heap hb1 5; have Hb1 := Lib.hid hb1; have HF1 := Lib.hid hF1; have Hown1 := Lib.hid hown1; have Hi1 := Lib.hid hi1; have Kd1 := Lib.hid k1; clear hb1 hF1 hown1 hi1 k1))
  go_ret
  have hk : Keeps [c] w1 (w1.setCell ⟨c, 5, none⟩ (.string (str X))) := (Keeps.refl [c] w1).setCell (.inl (by simp)) _
  have hn := own_neS Hb1.out Hown1.out (by decide)
  have hcF : c ∈ F := by rw [HF1.out]; simp
  have hbc : b ∉ [c] := fun h => by rw [List.mem_singleton] at h; subst h; exact Hb.out hcF
  refine ⟨rfl, F, Hi1.out.keep hk hbc, ⟨sv, heap_setCell Hb1.out 5 _, HF1.out, own_keep Hown1.out hk (fun x hx hx' => by rw [List.mem_singleton] at hx'; subst hx'; exact hn hx)⟩, Hb.out, fun x hx => .inl hx, (Kd1.out.mono (fun x hx => by simp at hx; simp [hx])).trans hk (fun x hx => .inl (by simp at hx; subst hx; simp [hcF]))⟩
end Go.Proofs.Ytjebldfmkpfafaa

/- Layer 10: the record that a head tells, plain; data. -/
namespace Go.Proofs.Ytjebldfmkpfafaa
open Go.RowKit
set_option maxRecDepth 100000

/-- A record that was read. -/
structure Fit (r : Rc) : Prop where
  e0 : 0 ≤ r.ep
  e1 : r.ep ≤ 4294967295
  n0 : 0 ≤ r.nr
  n1 : r.nr ≤ 1099511627775
  k0 : 0 ≤ r.kd
  k1 : r.kd ≤ 3
  sl : r.sp.length ≤ 64
  sb : ∀ x, x ∈ r.sp → 0 ≤ x.1 ∧ x.1 ≤ 65536 ∧ 0 ≤ x.2 ∧ x.2 ≤ 65536
  tl : r.tx.length ≤ 100000
  dl : r.dt.length ≤ 40000

theorem rtext_len (s : List UInt8) (p : Nat) (er most : Int) : (rtext s p er most).1.length ≤ s.length := by
  unfold rtext
  dsimp only
  split
  · simp
  · unfold rtake
    split
    · simp
    · split
      · simp
      · rw [List.length_take, List.length_drop]; omega

def Rc.zero : Rc := ⟨0, 0, 0, [], [], []⟩
/-- How many sectors of data a record has. -/
def Rc.sects (r : Rc) : Int := if r.kd = 1 then totS r.sp else 0
def Rc.full (r : Rc) : Rc := if 0 < r.sects ∧ r.sects ≤ 512 then { r with dt := List.replicate (r.sects.toNat * 64) 0 } else r
def bodyOfH (s : List UInt8) : List UInt8 := (s.drop 4).take (s.length - 8)
def rdE (b : List UInt8) := rint b 0 0 4294967295
def rdN (b : List UInt8) := rint b (rdE b).2.1 (rdE b).2.2 1099511627775
def rdK (b : List UInt8) := rint b (rdN b).2.1 (rdN b).2.2 3
def rec0 (b : List UInt8) : Rc := ⟨((rdE b).1 : Int), ((rdN b).1 : Int), ((rdK b).1 : Int), [], [], []⟩
def rdR (b : List UInt8) : Nat × Rc × Nat × Int := if (rdK b).1 = 1 then rd1 b (rdK b).2.1 (rdK b).2.2 (rec0 b) else if (rdK b).1 = 2 then rd2 b (rdK b).2.1 (rdK b).2.2 (rec0 b) else rd3 b (rdK b).2.1 (rdK b).2.2 (rec0 b)
def toldP (s : List UInt8) : Option (Rc × Nat) :=
  if (rdK (bodyOfH s)).2.2 ≠ 0 ∨ (rdK (bodyOfH s)).1 = 0 then none
  else if (rdR (bodyOfH s)).2.2.2 ≠ 0 then none
  else if (rdR (bodyOfH s)).2.1.full.check ≠ 0 then none
  else if (rdR (bodyOfH s)).2.1.headB (rdR (bodyOfH s)).1 ≠ s then none
  else some ((rdR (bodyOfH s)).2.1, (rdR (bodyOfH s)).1)
def toldV (s : List UInt8) : Rc × Nat × Int := match toldP s with | some (r, x) => (r, x, 0) | none => (Rc.zero, 0, 12)

theorem rdE_le (b : List UInt8) : (rdE b).2.1 ≤ b.length := (rint_facts b 0 0 _ (Nat.zero_le _)).1
theorem rdN_le (b : List UInt8) : (rdN b).2.1 ≤ b.length := (rint_facts b _ (rdE b).2.2 _ (rdE_le b)).1
theorem rdK_le (b : List UInt8) : (rdK b).2.1 ≤ b.length := (rint_facts b _ (rdN b).2.2 _ (rdN_le b)).1
theorem rec0_fit (b : List UInt8) : Fit (rec0 b) := by
  have h1 := rint_most b 0 0 4294967295 (Nat.zero_le _) (by decide)
  have h2 := rint_most b _ (rdE b).2.2 1099511627775 (rdE_le b) (by decide)
  have h3 := rint_most b _ (rdN b).2.2 3 (rdN_le b) (by decide)
  exact ⟨Int.natCast_nonneg _, h1, Int.natCast_nonneg _, h2, Int.natCast_nonneg _, h3, by simp [rec0], by simp [rec0], by simp [rec0], by simp [rec0]⟩
theorem rd1_fit {b : List UInt8} {p : Nat} {er : Int} {r : Rc} (hp : p ≤ b.length) (h : Fit r) : Fit (rd1 b p er r).2.1 := ⟨h.e0, h.e1, h.n0, h.n1, h.k0, h.k1, rspA_len b p er hp, rspA_bd b p er hp, h.tl, h.dl⟩
theorem rd2_fit {b : List UInt8} {p : Nat} {er : Int} {r : Rc} (hp : p ≤ b.length) (h : Fit r) : Fit (rd2 b p er r).2.1 := ⟨h.e0, h.e1, h.n0, h.n1, h.k0, h.k1, rspA_len b p er hp, rspA_bd b p er hp, h.tl, h.dl⟩
theorem rd3_fit {b : List UInt8} {p : Nat} {er : Int} {r : Rc} (hb : b.length ≤ 100000) (h : Fit r) : Fit (rd3 b p er r).2.1 := ⟨h.e0, h.e1, h.n0, h.n1, h.k0, h.k1, h.sl, h.sb, Nat.le_trans (rtext_len _ _ _ _) hb, h.dl⟩

theorem RecAt.good {w : World} {c : Nat} {r : Rc} {F : List Nat} (h : RecAt w c r F) (hf : Fit r) :
    ∃ sv, w.heap[c]? = some (.cells #[.int .i64 r.ep, .int .i64 r.nr, .int .i64 r.kd, sv, .string (str r.dt), .string (str r.tx)] 24 (0, 0)) ∧ F = c :: sv.ownBlock.toList ∧ r.good w sv sv.ownBlock.toList := by
  obtain ⟨sv, h1, h2, h3⟩ := h
  have hl : ∀ x, x ∈ r.sp → (spV x).length = 2 := fun _ _ => rfl
  refine ⟨sv, h1, h2, ⟨?_, ?_, ?_, ?_, fun x hx => ?_, by have := hf.sl; omega, by have := hf.dl; omega, by have := hf.tl; omega⟩⟩
  · have := hf.e0; have := hf.e1; unfold i64R; omega
  · have := hf.n0; have := hf.n1; unfold i64R; omega
  · have := hf.k0; have := hf.k1; unfold i64R; omega
  · obtain ⟨ad, cap, rfl⟩ := ownsRow_shape h3
    refine ⟨ad, cap, rfl, fun h0 => ?_⟩
    obtain ⟨x0, hx0⟩ : ∃ x0, r.sp[0]? = some x0 := by
      cases hq : r.sp with
      | nil => exact absurd hq h0
      | cons a l => exact ⟨a, rfl⟩
    obtain ⟨g, cap', e1, _, _, _⟩ := own_elem h3 hl rfl hx0
    injection e1 with e2 _ _
    subst e2
    refine ⟨g, 0, rfl, by simp [Value.ownBlock], fun i a hi j u hj => ?_⟩
    obtain ⟨g', cap'', e3, hr, _, _⟩ := own_elem h3 hl rfl hi
    injection e3 with e4 _ _
    injection e4 with e5
    injection e5 with e6 _ _
    subst e6
    rw [Nat.zero_add]
    exact hr j u hj
  · have := hf.sb x hx
    exact ⟨⟨by omega, by omega⟩, by omega, by omega⟩

set_option maxHeartbeats 2000000 in
theorem data_any (r : Rc) (sv : Value) (G : List Nat) (w : World) (hr : r.good w sv G) (hf : Fit r) :
    Calls Try.prog 35 #[r.val sv] w fun e w' => e = .returned (.int .i64 r.sects) ∧ Keeps [] w w' := by
  have K0 := Lib.hid ((Keeps.refl [] w).alloc (rbox r sv))
  have To := Lib.hid (fun w' (k : Keeps [] w w') => total_any r.sp (fun s hs => by have := hf.sb s hs; omega) (by have := hf.sl; omega) sv G w' (hr.newer k).at_)
  have hse : r.sects = if r.kd = 1 then totS r.sp else 0 := rfl
  unfold Rc.val at *
  unfold rbox at *
  obtain ⟨ad, cap, rfl, _⟩ := hr.at_
  clear hr hf
  by_cases hk : r.kd = 1
  · have hb : (r.kd != 1) = false := by rw [hk]; rfl
    rw [if_pos hk] at hse
    rw [hse]
    generalize totS r.sp = T at *
    clear hse hk
    go_enter Try.func35, Try.ntmps35
    go_wp2_with (first
      | (go_at_call 65; (with_reducible refine (To.out _ K0.out).mono ?_); rintro e w1 ⟨rfl, k1⟩))
    go_ret
    exact ⟨rfl, K0.out.trans k1 (by simp)⟩
  · have hb : (r.kd != 1) = true := bne_iff_ne.2 hk
    rw [if_neg hk] at hse
    rw [hse]
    clear hse hk
    go_enter Try.func35, Try.ntmps35
    go_wp2
    go_ret
    exact ⟨rfl, K0.out⟩
end Go.Proofs.Ytjebldfmkpfafaa

