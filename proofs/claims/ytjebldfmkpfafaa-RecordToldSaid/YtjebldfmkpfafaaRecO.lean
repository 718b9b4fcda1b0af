/- Layer 10: what is read of a record, kind by kind; data. -/
import Derived.Test.YtjebldfmkpfafaaRecN
namespace Go.Proofs.Ytjebldfmkpfafaa
open Go.RowKit
set_option maxRecDepth 100000

theorem num_lt4 (l : List UInt8) : num l < 256 ^ l.length := by
  induction l with
  | nil => simp [num]
  | cons c l ih =>
    rw [num_cons, List.length_cons, Nat.pow_succ]
    have := c.toNat_lt
    have h2 : c.toNat * 256 ^ l.length ≤ 255 * 256 ^ l.length := Nat.mul_le_mul_right _ (by omega)
    omega
theorem rfixed_bd (l : List UInt8) (p : Nat) (er : Int) : (rfixed l p er 4).1 < 4294967296 := by
  unfold rfixed
  rw [if_neg (by omega)]
  dsimp only
  have h1 := num_lt4 (rtake l p er (Int.toNat 4)).1
  have h2 : (rtake l p er (Int.toNat 4)).1.length ≤ 4 := by
    unfold rtake
    split
    · simp
    · split
      · simp
      · rw [List.length_take]; exact Nat.min_le_left _ _
  have h3 : 256 ^ (rtake l p er (Int.toNat 4)).1.length ≤ 256 ^ 4 := Nat.pow_le_pow_right (by decide) h2
  exact Nat.lt_of_lt_of_le h1 h3

/-- The spans of a record, and where the reader stands behind them. -/
def rspA (s : List UInt8) (p : Nat) (er : Int) : List Sp × Nat × Int := rspK s (rint s p er 64).2.1 (rint s p er 64).2.2 (rint s p er 64).1
theorem rspA_le (s : List UInt8) (p : Nat) (er : Int) (hp : p ≤ s.length) : (rspA s p er).2.1 ≤ s.length := rspK_le s _ _ (rint_facts s p er 64 hp).1 _
theorem rspA_len (s : List UInt8) (p : Nat) (er : Int) (hp : p ≤ s.length) : (rspA s p er).1.length ≤ 64 := by
  unfold rspA
  rw [rspK_len]
  have := rint_most s p er 64 hp (by decide)
  omega
theorem rspA_bd (s : List UInt8) (p : Nat) (er : Int) (hp : p ≤ s.length) : ∀ x, x ∈ (rspA s p er).1 → 0 ≤ x.1 ∧ x.1 ≤ 65536 ∧ 0 ≤ x.2 ∧ x.2 ≤ 65536 := rspK_bd s _ _ (rint_facts s p er 64 hp).1 _

/-- What reading a record's kind does: the sum, the record, the reader's place. -/
def GetOf (f : Nat) (rd : List UInt8 → Nat → Int → Rc → Nat × Rc × Nat × Int) : Prop :=
  ∀ (b c : Nat) (s : List UInt8) (p : Nat) (er : Int) (r : Rc) (F : List Nat) (w : World), InAt w b (str s) p er → RecAt w c r F → p ≤ s.length → s.length ≤ 100000 → b ∉ F → r.sp = [] →
    Calls Try.prog f #[.pointer (some ⟨b, 0, none⟩), .pointer (some ⟨c, 0, none⟩)] w fun e w' => e = .returned (.int .u32 (rd s p er r).1) ∧ ∃ F', InAt w' b (str s) (rd s p er r).2.2.1 (rd s p er r).2.2.2 ∧
      RecAt w' c (rd s p er r).2.1 F' ∧ b ∉ F' ∧ (∀ x, x ∈ F' → x ∈ F ∨ w.heap.size ≤ x) ∧ Keeps (b :: F) w w'
def rd2 (s : List UInt8) (p : Nat) (er : Int) (r : Rc) : Nat × Rc × Nat × Int := (0, { r with sp := (rspA s p er).1 }, (rspA s p er).2)
def rd1 (s : List UInt8) (p : Nat) (er : Int) (r : Rc) : Nat × Rc × Nat × Int := ((rfixed s (rspA s p er).2.1 (rspA s p er).2.2 4).1, { r with sp := (rspA s p er).1 }, (rfixed s (rspA s p er).2.1 (rspA s p er).2.2 4).2)
def rd3 (s : List UInt8) (p : Nat) (er : Int) (r : Rc) : Nat × Rc × Nat × Int := (0, { r with tx := (rtext s p er 512).1 }, (rtext s p er 512).2)

theorem get2 : GetOf 52 rd2 := fun b c s p er r F w hi hr hp hs hb h0 => getSpans_any b c s p er r F w hi hr hp hs hb h0

theorem get1 : GetOf 51 rd1 := fun b c s p er r F w hi hr hp hs hb h0 => by
  have G := Lib.hid (getSpans_any b c s p er r F w hi hr hp hs hb h0)
  have hle := rspA_le s p er hp
  unfold rd1
  unfold rspA at *
  generalize rspK s (rint s p er 64).2.1 (rint s p er 64).2.2 (rint s p er 64).1 = Q at *
  obtain ⟨L, q, e⟩ := Q
  dsimp only at *
  have Fx := Lib.hid (fun w' (h : InAt w' b (str s) q e) => inFixed_any b (str s) q e w' h (by simpa using hle) (by simp; omega) 4)
  rw [str_data] at Fx
  have hbd := rfixed_bd s q e
  generalize rfixed s q e 4 = T at *
  obtain ⟨X, q2, e2⟩ := T
  dsimp only at *
  have hwX : IntKind.u32.wrap (X : Int) = X := IntWalk.u32_in _ ⟨by omega, by omega⟩
  clear hi hr hb h0
  go_enter Try.func51, Try.ntmps51
  go_wp2_with (first
    | (go_at_call 52; (with_reducible refine G.out.mono ?_); rintro e w1 ⟨rfl, F1, hi1, hr1, hb1, hf1, k1⟩)
    | (go_at_call 53; (with_reducible refine (Fx.out _ hi1).mono ?_); rintro e w2 ⟨rfl, hi2, k2⟩))
  go_ret
  exact ⟨rfl, F1, hi2, hr1.keep k2 (fun x hx hx' => by rw [List.mem_singleton] at hx'; subst hx'; exact hb1 hx), hb1, hf1, k1.trans k2 (fun x hx => .inl (by simp at hx; simp [hx]))⟩

theorem get3 : GetOf 58 rd3 := fun b c s p er r F w hi hr hp hs hb h0 => by
  have Tx := Lib.hid (inText_any b (str s) p er w hi (by simpa using hp) (by simp; omega) 512 (by decide) (by decide))
  rw [str_data] at Tx
  unfold rd3
  generalize rtext s p er 512 = T at *
  obtain ⟨X, q2, e2⟩ := T
  dsimp only at *
  have Hr := Lib.hid hr
  have Hb := Lib.hid hb
  clear hi hr hb h0 hp hs
  go_enter Try.func58, Try.ntmps58
  go_wp2_with (first
    | (go_at_call 59; (with_reducible refine Tx.out.mono ?_); rintro e w1 ⟨rfl, hi1, k1⟩; obtain ⟨sv, hb1, hF1, hown1⟩ := Hr.out.keep k1 (fun x hx hx' => by rw [List.mem_singleton] at hx'; subst hx'; exact Hb.out hx); have c5 := cell_of_heap hb1 5; have f5 := free_of_heap hb1 5; have Hb1 := Lib.hid hb1; have HF1 := Lib.hid hF1; have Hown1 := Lib.hid hown1; have Hi1 := Lib.hid hi1; have Kd1 := Lib.hid k1; clear hb1 hF1 hown1 hi1 k1))
  go_ret
  have hk : Keeps [c] w1 (w1.setCell ⟨c, 5, none⟩ (.string (str X))) := (Keeps.refl [c] w1).setCell (.inl (by simp)) _
  have hn := own_neS Hb1.out Hown1.out (by decide)
  have hcF : c ∈ F := by rw [HF1.out]; simp
  have hbc : b ∉ [c] := fun h => by rw [List.mem_singleton] at h; subst h; exact Hb.out hcF
  refine ⟨rfl, F, Hi1.out.keep hk hbc, ⟨sv, heap_setCell Hb1.out 5 _, HF1.out, own_keep Hown1.out hk (fun x hx hx' => by rw [List.mem_singleton] at hx'; subst hx'; exact hn hx)⟩, Hb.out, fun x hx => .inl hx, (Kd1.out.mono (fun x hx => by simp at hx; simp [hx])).trans hk (fun x hx => .inl (by simp at hx; subst hx; simp [hcF]))⟩
end Go.Proofs.Ytjebldfmkpfafaa
