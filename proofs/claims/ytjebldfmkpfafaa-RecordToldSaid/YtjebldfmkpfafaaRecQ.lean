/- Layer 10: the record that a head tells, plain; data. -/
import Derived.Test.YtjebldfmkpfafaaRecO
import Derived.Test.YtjebldfmkpfafaaRecD
namespace Go.Proofs.Ytjebldfmkpfafaa
open Go.RowKit
set_option maxRecDepth 100000

/-- A record that was read. -/
structure Fit (r : Rc) : Prop where
  e0 : 0 ≤ r.ep
  e1 : r.ep ≤ 4294967295
  n0 : 0 ≤ r.nr
  n1 : r.nr ≤ 1099511627775
  k0 : 0 ≤ r.kd
  k1 : r.kd ≤ 3
  sl : r.sp.length ≤ 64
  sb : ∀ x, x ∈ r.sp → 0 ≤ x.1 ∧ x.1 ≤ 65536 ∧ 0 ≤ x.2 ∧ x.2 ≤ 65536
  tl : r.tx.length ≤ 100000
  dl : r.dt.length ≤ 40000

theorem rtext_len (s : List UInt8) (p : Nat) (er most : Int) : (rtext s p er most).1.length ≤ s.length := by
  unfold rtext
  dsimp only
  split
  · simp
  · unfold rtake
    split
    · simp
    · split
      · simp
      · rw [List.length_take, List.length_drop]; omega

def Rc.zero : Rc := ⟨0, 0, 0, [], [], []⟩
/-- How many sectors of data a record has. -/
def Rc.sects (r : Rc) : Int := if r.kd = 1 then totS r.sp else 0
def Rc.full (r : Rc) : Rc := if 0 < r.sects ∧ r.sects ≤ 512 then { r with dt := List.replicate (r.sects.toNat * 64) 0 } else r
def bodyOfH (s : List UInt8) : List UInt8 := (s.drop 4).take (s.length - 8)
def rdE (b : List UInt8) := rint b 0 0 4294967295
def rdN (b : List UInt8) := rint b (rdE b).2.1 (rdE b).2.2 1099511627775
def rdK (b : List UInt8) := rint b (rdN b).2.1 (rdN b).2.2 3
def rec0 (b : List UInt8) : Rc := ⟨((rdE b).1 : Int), ((rdN b).1 : Int), ((rdK b).1 : Int), [], [], []⟩
def rdR (b : List UInt8) : Nat × Rc × Nat × Int := if (rdK b).1 = 1 then rd1 b (rdK b).2.1 (rdK b).2.2 (rec0 b) else if (rdK b).1 = 2 then rd2 b (rdK b).2.1 (rdK b).2.2 (rec0 b) else rd3 b (rdK b).2.1 (rdK b).2.2 (rec0 b)
def toldP (s : List UInt8) : Option (Rc × Nat) :=
  if (rdK (bodyOfH s)).2.2 ≠ 0 ∨ (rdK (bodyOfH s)).1 = 0 then none
  else if (rdR (bodyOfH s)).2.2.2 ≠ 0 then none
  else if (rdR (bodyOfH s)).2.1.full.check ≠ 0 then none
  else if (rdR (bodyOfH s)).2.1.headB (rdR (bodyOfH s)).1 ≠ s then none
  else some ((rdR (bodyOfH s)).2.1, (rdR (bodyOfH s)).1)
def toldV (s : List UInt8) : Rc × Nat × Int := match toldP s with | some (r, x) => (r, x, 0) | none => (Rc.zero, 0, 12)

theorem rdE_le (b : List UInt8) : (rdE b).2.1 ≤ b.length := (rint_facts b 0 0 _ (Nat.zero_le _)).1
theorem rdN_le (b : List UInt8) : (rdN b).2.1 ≤ b.length := (rint_facts b _ (rdE b).2.2 _ (rdE_le b)).1
theorem rdK_le (b : List UInt8) : (rdK b).2.1 ≤ b.length := (rint_facts b _ (rdN b).2.2 _ (rdN_le b)).1
theorem rec0_fit (b : List UInt8) : Fit (rec0 b) := by
  have h1 := rint_most b 0 0 4294967295 (Nat.zero_le _) (by decide)
  have h2 := rint_most b _ (rdE b).2.2 1099511627775 (rdE_le b) (by decide)
  have h3 := rint_most b _ (rdN b).2.2 3 (rdN_le b) (by decide)
  exact ⟨Int.natCast_nonneg _, h1, Int.natCast_nonneg _, h2, Int.natCast_nonneg _, h3, by simp [rec0], by simp [rec0], by simp [rec0], by simp [rec0]⟩
theorem rd1_fit {b : List UInt8} {p : Nat} {er : Int} {r : Rc} (hp : p ≤ b.length) (h : Fit r) : Fit (rd1 b p er r).2.1 := ⟨h.e0, h.e1, h.n0, h.n1, h.k0, h.k1, rspA_len b p er hp, rspA_bd b p er hp, h.tl, h.dl⟩
theorem rd2_fit {b : List UInt8} {p : Nat} {er : Int} {r : Rc} (hp : p ≤ b.length) (h : Fit r) : Fit (rd2 b p er r).2.1 := ⟨h.e0, h.e1, h.n0, h.n1, h.k0, h.k1, rspA_len b p er hp, rspA_bd b p er hp, h.tl, h.dl⟩
theorem rd3_fit {b : List UInt8} {p : Nat} {er : Int} {r : Rc} (hb : b.length ≤ 100000) (h : Fit r) : Fit (rd3 b p er r).2.1 := ⟨h.e0, h.e1, h.n0, h.n1, h.k0, h.k1, h.sl, h.sb, Nat.le_trans (rtext_len _ _ _ _) hb, h.dl⟩

theorem RecAt.good {w : World} {c : Nat} {r : Rc} {F : List Nat} (h : RecAt w c r F) (hf : Fit r) :
    ∃ sv, w.heap[c]? = some (.cells #[.int .i64 r.ep, .int .i64 r.nr, .int .i64 r.kd, sv, .string (str r.dt), .string (str r.tx)] 24 (0, 0)) ∧ F = c :: sv.ownBlock.toList ∧ r.good w sv sv.ownBlock.toList := by
  obtain ⟨sv, h1, h2, h3⟩ := h
  have hl : ∀ x, x ∈ r.sp → (spV x).length = 2 := fun _ _ => rfl
  refine ⟨sv, h1, h2, ⟨?_, ?_, ?_, ?_, fun x hx => ?_, by have := hf.sl; omega, by have := hf.dl; omega, by have := hf.tl; omega⟩⟩
  · have := hf.e0; have := hf.e1; unfold i64R; omega
  · have := hf.n0; have := hf.n1; unfold i64R; omega
  · have := hf.k0; have := hf.k1; unfold i64R; omega
  · obtain ⟨ad, cap, rfl⟩ := ownsRow_shape h3
    refine ⟨ad, cap, rfl, fun h0 => ?_⟩
    obtain ⟨x0, hx0⟩ : ∃ x0, r.sp[0]? = some x0 := by
      cases hq : r.sp with
      | nil => exact absurd hq h0
      | cons a l => exact ⟨a, rfl⟩
    obtain ⟨g, cap', e1, _, _, _⟩ := own_elem h3 hl rfl hx0
    injection e1 with e2 _ _
    subst e2
    refine ⟨g, 0, rfl, by simp [Value.ownBlock], fun i a hi j u hj => ?_⟩
    obtain ⟨g', cap'', e3, hr, _, _⟩ := own_elem h3 hl rfl hi
    injection e3 with e4 _ _
    injection e4 with e5
    injection e5 with e6 _ _
    subst e6
    rw [Nat.zero_add]
    exact hr j u hj
  · have := hf.sb x hx
    exact ⟨⟨by omega, by omega⟩, by omega, by omega⟩

set_option maxHeartbeats 2000000 in
theorem data_any (r : Rc) (sv : Value) (G : List Nat) (w : World) (hr : r.good w sv G) (hf : Fit r) :
    Calls Try.prog 35 #[r.val sv] w fun e w' => e = .returned (.int .i64 r.sects) ∧ Keeps [] w w' := by
  have K0 := Lib.hid ((Keeps.refl [] w).alloc (rbox r sv))
  have To := Lib.hid (fun w' (k : Keeps [] w w') => total_any r.sp (fun s hs => by have := hf.sb s hs; omega) (by have := hf.sl; omega) sv G w' (hr.newer k).at_)
  have hse : r.sects = if r.kd = 1 then totS r.sp else 0 := rfl
  unfold Rc.val at *
  unfold rbox at *
  obtain ⟨ad, cap, rfl, _⟩ := hr.at_
  clear hr hf
  by_cases hk : r.kd = 1
  · have hb : (r.kd != 1) = false := by rw [hk]; rfl
    rw [if_pos hk] at hse
    rw [hse]
    generalize totS r.sp = T at *
    clear hse hk
    go_enter Try.func35, Try.ntmps35
    go_wp2_with (first
      | (go_at_call 65; (with_reducible refine (To.out _ K0.out).mono ?_); rintro e w1 ⟨rfl, k1⟩))
    go_ret
    exact ⟨rfl, K0.out.trans k1 (by simp)⟩
  · have hb : (r.kd != 1) = true := bne_iff_ne.2 hk
    rw [if_neg hk] at hse
    rw [hse]
    clear hse hk
    go_enter Try.func35, Try.ntmps35
    go_wp2
    go_ret
    exact ⟨rfl, K0.out⟩
end Go.Proofs.Ytjebldfmkpfafaa
