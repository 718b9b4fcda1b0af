/- Layer 10: Head and Decode. -/
import Derived.Test.YtjebldfmkpfafaaRecU
import Derived.Test.YtjebldfmkpfafaaRecSum
namespace Go.Proofs.Ytjebldfmkpfafaa
open Go.RowKit
set_option maxRecDepth 100000

theorem zero_fit : Fit Rc.zero := ⟨by decide, by decide, by decide, by decide, by decide, by decide, by decide, by simp [Rc.zero], by decide, by decide⟩
theorem rdR_fit (b : List UInt8) (hb : b.length ≤ 100000) : Fit (rdR b).2.1 := by
  unfold rdR
  split
  · exact rd1_fit (rdK_le b) (rec0_fit b)
  · split
    · exact rd2_fit (rdK_le b) (rec0_fit b)
    · exact rd3_fit hb (rec0_fit b)
theorem bodyOfH_len (s : List UInt8) : (bodyOfH s).length ≤ s.length := by unfold bodyOfH; rw [List.length_take, List.length_drop]; omega
theorem toldV_fit (s : List UInt8) (hs : s.length ≤ 100000) : Fit (toldV s).1 := by
  unfold toldV
  cases h : toldP s with
  | none => exact zero_fit
  | some p =>
    obtain ⟨r, x⟩ := p
    have hf := rdR_fit (bodyOfH s) (Nat.le_trans (bodyOfH_len s) hs)
    unfold toldP at h
    split at h
    · cases h
    · split at h
      · cases h
      · split at h
        · cases h
        · split at h
          · cases h
          · simp only [Option.some.injEq, Prod.mk.injEq] at h
            rw [← h.1]
            exact hf
theorem openV_fit (s : List UInt8) (hs : s.length ≤ 100000) : Fit (openV s).1 := by
  have h := toldV_fit (s.take (nOf s * 64)) (by rw [List.length_take]; omega)
  unfold openV
  repeat' split
  all_goals first | exact zero_fit | exact h
theorem sects_bd {r : Rc} (h : Fit r) : 0 ≤ r.sects ∧ r.sects ≤ 4194304 := by
  have h1 := totS_bd r.sp (fun x hx => by have := h.sb x hx; omega)
  have h2 := h.sl
  unfold Rc.sects
  split <;> omega
theorem openV_n (s : List UInt8) : (openV s).2.1 ≤ 40 := by
  unfold openV
  repeat' split
  all_goals first | (show (0 : Nat) ≤ 40; omega) | (rename_i h _ _ _; show nOf s ≤ 40; by_cases hh : 40 < nOf s; exact absurd (.inr (.inr hh)) h; omega)
theorem toldP_x (s : List UInt8) : (toldV s).2.1 < 4294967296 := by
  unfold toldV
  cases h : toldP s with
  | none => show (0 : Nat) < 4294967296; decide
  | some p =>
    obtain ⟨r, x⟩ := p
    unfold toldP at h
    split at h
    · cases h
    · split at h
      · cases h
      · split at h
        · cases h
        · split at h
          · cases h
          · simp only [Option.some.injEq, Prod.mk.injEq] at h
            show x < 4294967296
            rw [← h.2]
            unfold rdR
            split
            · exact rfixed_bd _ _ _
            · split <;> exact (show (0 : Nat) < 4294967296 by decide)
theorem openV_x (s : List UInt8) : (openV s).2.2.1 < 4294967296 := by
  have h := toldP_x (s.take (nOf s * 64))
  unfold openV
  repeat' split
  all_goals first | (show (0 : Nat) < 4294967296; decide) | exact h

def headV (s : List UInt8) : Rc × Nat × Int × Int := ((openV s).1, (openV s).2.1, (openV s).1.sects, (openV s).2.2.2)
def decV (s : List UInt8) : Rc × Int × Int :=
  if (openV s).2.2.2 ≠ 0 then (Rc.zero, 0, (openV s).2.2.2)
  else if (s.length : Int) < ((openV s).2.1 + (openV s).1.sects) * 64 then (Rc.zero, 0, 10)
  else if (openV s).1.kd = 1 then
    (if crcMore 0 ((s.drop ((openV s).2.1 * 64)).take ((openV s).1.sects.toNat * 64)) ≠ (openV s).2.2.1 then (Rc.zero, 0, 13)
     else ({ (openV s).1 with dt := (s.drop ((openV s).2.1 * 64)).take ((openV s).1.sects.toNat * 64) }, (openV s).2.1 + (openV s).1.sects, 0))
  else ((openV s).1, (openV s).2.1 + (openV s).1.sects, 0)
theorem Rc.good.withD {w : World} {r : Rc} {sv : Value} {G : List Nat} (h : r.good w sv G) {d : List UInt8} (hd : d.length ≤ 9223372036854775807) : ({ r with dt := d } : Rc).good w sv G := ⟨h.ep, h.nr, h.kd, h.at_, h.sg, h.sl, hd, h.tx⟩
theorem set6_other {w : World} {b c : Nat} {x : Obj} (h : w.heap[b]? = some x) (hne : b ≠ c) (v0 v1 v2 v3 v4 v5 : Value) :
    ((((((w.setCell ⟨c, 0, none⟩ v0).setCell ⟨c, 1, none⟩ v1).setCell ⟨c, 2, none⟩ v2).setCell ⟨c, 3, none⟩ v3).setCell ⟨c, 4, none⟩ v4).setCell ⟨c, 5, none⟩ v5).heap[b]? = some x :=
  heap_ne (heap_ne (heap_ne (heap_ne (heap_ne (heap_ne h hne) hne) hne) hne) hne) hne
def HeadPost (w : World) (R : Rc × Nat × Int × Int) (e : Ending) (w' : World) : Prop :=
  ∃ sv G, e = .returned (.tuple #[R.1.val sv, .int .i64 R.2.1, .int .i64 R.2.2.1, .int .i64 R.2.2.2]) ∧ R.1.good w' sv G ∧ (∀ x, x ∈ G → w.heap.size ≤ x ∧ x < w'.heap.size) ∧ Keeps [] w w'
def DecPost (w : World) (R : Rc × Int × Int) (e : Ending) (w' : World) : Prop :=
  ∃ sv G, e = .returned (.tuple #[R.1.val sv, .int .i64 R.2.1, .int .i64 R.2.2]) ∧ R.1.good w' sv G ∧ (∀ x, x ∈ G → w.heap.size ≤ x ∧ x < w'.heap.size) ∧ Keeps [] w w'

set_option maxHeartbeats 4000000 in
theorem head_all (s : List UInt8) (w : World) (hs : s.length ≤ 100000)  :
    Calls Try.prog 20 #[.string (str s)] w (HeadPost w (headV s)) := by
  have hz := str_empty
  have K0 := Lib.hid ((Keeps.refl [] w).alloc zbox)
  have Zc : Hid (∀ w', Keeps [] (w.alloc zbox) w' → w'.heap[w.heap.size]? = some zbox) := fun w' k => zcells k
  have Kz := Lib.hid (Keeps.refl [] (w.alloc zbox))
  have Opn := Lib.hid (fun w => open_all s w hs)
  have hfit := openV_fit s hs
  have hN := openV_n s
  have hX := openV_x s
  unfold zbox at *
  unfold headV
  generalize openV s = TT at *
  obtain ⟨R, N, X, te⟩ := TT
  dsimp only at *
  have hsb := sects_bd hfit
  have Da := Lib.hid (fun (w' : World) sv G (h : R.good w' sv G) => data_any R sv G w' h hfit)
  unfold OpenPost Rc.val at Opn
  unfold Rc.val at Da
  dsimp only at *
  clear hfit
  generalize R.sects = SX at *
  go_enter Try.func20, Try.ntmps20
  go_wp2_with (first
    | (go_at_call 34; (with_reducible refine (Opn.out _).mono ?_); rintro e w1 ⟨sv, G, rfl, hg, hGb, k1⟩; have KA := Lib.hid (Kz.out.trans k1 (by simp)); clear k1; obtain ⟨ad, cap, rfl, _⟩ := hg.at_; have Hg := Lib.hid hg; have HGb := Lib.hid hGb; clear hg hGb; have Kb := Lib.hid (KA.out.alloc (.cells #[.int .i64 R.ep, .int .i64 R.nr, .int .i64 R.kd, .slice ad R.sp.length cap, .string (str R.dt), .string (str R.tx)] 24)); have HR := Lib.hid (Zc.out _ Kb.out); obtain ⟨⟨q0, q1, q2, q3, q4, q5⟩, f0, f1, f2, f3, f4, f5⟩ := cells6 HR.out))
  have Kf0 := Keeps.refl [] (w1.alloc (.cells #[.int .i64 R.ep, .int .i64 R.nr, .int .i64 R.kd, .slice ad R.sp.length cap, .string (str R.dt), .string (str R.tx)] 24))
  have Kf := (Keeps.refl [] (w1.alloc (.cells #[.int .i64 R.ep, .int .i64 R.nr, .int .i64 R.kd, .slice ad R.sp.length cap, .string (str R.dt), .string (str R.tx)] 24))).drew
  have CB := Lib.hid (fun w' (k : Keeps [] (w1.alloc (.cells #[.int .i64 R.ep, .int .i64 R.nr, .int .i64 R.kd, .slice ad R.sp.length cap, .string (str R.dt), .string (str R.tx)] 24)) w') => (cells6 (k.some (heap_at (w := w1) (k := w1.heap.size) (o := (.cells #[.int .i64 R.ep, .int .i64 R.nr, .int .i64 R.kd, .slice ad R.sp.length cap, .string (str R.dt), .string (str R.tx)] 24)) rfl) (by simp))).1)
  have CH := Lib.hid (fun (w' : World) (k : w'.heap[w1.heap.size]? = some (.cells #[.int .i64 R.ep, .int .i64 R.nr, .int .i64 R.kd, .slice ad R.sp.length cap, .string (str R.dt), .string (str R.tx)] 24)) => (cells6 k).1)
  have hne2 : w1.heap.size ≠ w.heap.size := by have h := KA.out.size; simp at h; omega
  go_region_held3 (fun w' => w'.cell? ⟨w1.heap.size, 0, none⟩ = some (.int .i64 R.ep) ∧ w'.cell? ⟨w1.heap.size, 1, none⟩ = some (.int .i64 R.nr) ∧ w'.cell? ⟨w1.heap.size, 2, none⟩ = some (.int .i64 R.kd) ∧ w'.cell? ⟨w1.heap.size, 3, none⟩ = some (.slice ad R.sp.length cap) ∧ w'.cell? ⟨w1.heap.size, 4, none⟩ = some (.string (str R.dt)) ∧ w'.cell? ⟨w1.heap.size, 5, none⟩ = some (.string (str R.tx))) (first | (with_reducible exact CB.out _ Kf0) | (with_reducible exact CB.out _ Kf) | (with_reducible exact CB.out _ Kg) | (with_reducible exact CH.out _ (set6_other hB2 hne2 _ _ _ _ _ _))) (first
    | (go_at_call 35; (with_reducible refine (Da.out _ _ _ (Hg.out.newer (((Keeps.refl [] w1).alloc (.cells #[.int .i64 R.ep, .int .i64 R.nr, .int .i64 R.kd, .slice ad R.sp.length cap, .string (str R.dt), .string (str R.tx)] 24)).drew))).mono ?_); rintro e w2 ⟨rfl, k2⟩; have K8 := (((Keeps.refl [] w1).alloc (.cells #[.int .i64 R.ep, .int .i64 R.nr, .int .i64 R.kd, .slice ad R.sp.length cap, .string (str R.dt), .string (str R.tx)] 24)).drew).trans k2 (by simp); have Kg := Kf.trans k2 (by simp); have hB2 := Kg.some (heap_at (w := w1) (k := w1.heap.size) (o := (.cells #[.int .i64 R.ep, .int .i64 R.nr, .int .i64 R.kd, .slice ad R.sp.length cap, .string (str R.dt), .string (str R.tx)] 24)) rfl) (by simp); replace Kb := Lib.hid (Kb.out.drew.trans k2 (by simp)); clear HR q0 q1 q2 q3 q4 q5 f0 f1 f2 f3 f4 f5; have HR := Lib.hid (Zc.out _ Kb.out); obtain ⟨⟨q0, q1, q2, q3, q4, q5⟩, f0, f1, f2, f3, f4, f5⟩ := cells6 HR.out))
  go_wp2
  refine bodyPost_ret (results_row_tmp3 rfl rfl (heap_set6 HR.out _ _ _ _ _ _) Try.underlying24 rfl (by kernel_rfl)) rfl ⟨.slice ad R.sp.length cap, G, rfl, (Hg.out.newer K8).kept (keeps_at6 _ w.heap.size _ _ _ _ _ _) (fun x hx => ?_), fun x hx => ?_, keeps_set6 (K0.out.trans Kb.out (by simp)) (Nat.le_refl _) _ _ _ _ _ _⟩
  · have h1 := (HGb.out x hx).1
    simp at h1 ⊢
    omega
  · have h1 := HGb.out x hx
    have h2 := K8.size
    simp at h1 h2 ⊢
    omega
set_option maxHeartbeats 4000000 in
theorem dec_err (s : List UInt8) (w : World) (hs : s.length ≤ 100000) (h : (openV s).2.2.2 ≠ 0) :
    Calls Try.prog 18 #[.string (str s)] w (DecPost w (decV s)) := by
  have hz := str_empty
  have K0 := Lib.hid ((Keeps.refl [] w).alloc zbox)
  have Zc : Hid (∀ w', Keeps [] (w.alloc zbox) w' → w'.heap[w.heap.size]? = some zbox) := fun w' k => zcells k
  have Kz := Lib.hid (Keeps.refl [] (w.alloc zbox))
  have Opn := Lib.hid (fun w => open_all s w hs)
  have hfit := openV_fit s hs
  have hN := openV_n s
  have hX := openV_x s
  unfold zbox at *
  have hv : decV s = (Rc.zero, 0, (openV s).2.2.2) := by unfold decV; rw [if_pos h]
  rw [hv]
  generalize openV s = TT at *
  obtain ⟨R, N, X, te⟩ := TT
  dsimp only at *
  have hsb := sects_bd hfit
  have Da := Lib.hid (fun (w' : World) sv G (h : R.good w' sv G) => data_any R sv G w' h hfit)
  unfold OpenPost Rc.val at Opn
  unfold Rc.val at Da
  dsimp only at *
  clear hfit
  have hb : (te != 0) = true := bne_iff_ne.2 h
  clear hv h
  go_enter Try.func18, Try.ntmps18
  go_wp2_with (first
    | (go_at_call 34; (with_reducible refine (Opn.out _).mono ?_); rintro e w1 ⟨sv, G, rfl, hg, hGb, k1⟩; have KA := Lib.hid (Kz.out.trans k1 (by simp)); clear k1; obtain ⟨ad, cap, rfl, _⟩ := hg.at_; have Hg := Lib.hid hg; have HGb := Lib.hid hGb; clear hg hGb; have Kb := Lib.hid (KA.out.alloc (.cells #[.int .i64 R.ep, .int .i64 R.nr, .int .i64 R.kd, .slice ad R.sp.length cap, .string (str R.dt), .string (str R.tx)] 24)); have HR := Lib.hid (Zc.out _ Kb.out); obtain ⟨⟨q0, q1, q2, q3, q4, q5⟩, f0, f1, f2, f3, f4, f5⟩ := cells6 HR.out))
  refine bodyPost_ret (results_row_tmp2 rfl rfl (heap_set6 HR.out _ _ _ _ _ _) Try.underlying24 rfl (by kernel_rfl)) rfl ⟨.slice none 0 0, [], rfl, zero_good _, by simp, keeps_set6 (K0.out.trans Kb.out (by simp)) (Nat.le_refl _) _ _ _ _ _ _⟩
set_option maxHeartbeats 4000000 in
theorem dec_cut (s : List UInt8) (w : World) (hs : s.length ≤ 100000) (h : (openV s).2.2.2 = 0) (hl : (s.length : Int) < ((openV s).2.1 + (openV s).1.sects) * 64) :
    Calls Try.prog 18 #[.string (str s)] w (DecPost w (decV s)) := by
  have hz := str_empty
  have K0 := Lib.hid ((Keeps.refl [] w).alloc zbox)
  have Zc : Hid (∀ w', Keeps [] (w.alloc zbox) w' → w'.heap[w.heap.size]? = some zbox) := fun w' k => zcells k
  have Kz := Lib.hid (Keeps.refl [] (w.alloc zbox))
  have Opn := Lib.hid (fun w => open_all s w hs)
  have hfit := openV_fit s hs
  have hN := openV_n s
  have hX := openV_x s
  unfold zbox at *
  have hv : decV s = (Rc.zero, 0, 10) := by unfold decV; rw [if_neg (fun hh => hh h), if_pos hl]
  rw [hv]
  generalize openV s = TT at *
  obtain ⟨R, N, X, te⟩ := TT
  dsimp only at *
  have hsb := sects_bd hfit
  have Da := Lib.hid (fun (w' : World) sv G (h : R.good w' sv G) => data_any R sv G w' h hfit)
  unfold OpenPost Rc.val at Opn
  unfold Rc.val at Da
  dsimp only at *
  clear hfit
  subst h
  have hwk : IntKind.i64.wrap ((N : Int) + R.sects) = (N : Int) + R.sects := IntWalk.i64_in _ ⟨by omega, by omega⟩
  have hwk2 : IntKind.i64.wrap (((N : Int) + R.sects) * 64) = ((N : Int) + R.sects) * 64 := IntWalk.i64_in _ ⟨by omega, by omega⟩
  have h6 : decide ((s.length : Int) < ((N : Int) + R.sects) * 64) = true := decide_eq_true hl
  generalize R.sects = SX at *
  clear hv hl
  go_enter Try.func18, Try.ntmps18
  go_wp2_with (first
    | (go_at_call 34; (with_reducible refine (Opn.out _).mono ?_); rintro e w1 ⟨sv, G, rfl, hg, hGb, k1⟩; have KA := Lib.hid (Kz.out.trans k1 (by simp)); clear k1; obtain ⟨ad, cap, rfl, _⟩ := hg.at_; have Hg := Lib.hid hg; have HGb := Lib.hid hGb; clear hg hGb; have Kb := Lib.hid (KA.out.alloc (.cells #[.int .i64 R.ep, .int .i64 R.nr, .int .i64 R.kd, .slice ad R.sp.length cap, .string (str R.dt), .string (str R.tx)] 24)); have HR := Lib.hid (Zc.out _ Kb.out); obtain ⟨⟨q0, q1, q2, q3, q4, q5⟩, f0, f1, f2, f3, f4, f5⟩ := cells6 HR.out)
    | (go_at_call 35; (with_reducible refine (Da.out _ _ _ (Hg.out.newer ((Keeps.refl [] w1).alloc (.cells #[.int .i64 R.ep, .int .i64 R.nr, .int .i64 R.kd, .slice ad R.sp.length cap, .string (str R.dt), .string (str R.tx)] 24)))).mono ?_); rintro e w2 ⟨rfl, k2⟩; have K8 := ((Keeps.refl [] w1).alloc (.cells #[.int .i64 R.ep, .int .i64 R.nr, .int .i64 R.kd, .slice ad R.sp.length cap, .string (str R.dt), .string (str R.tx)] 24)).trans k2 (by simp); replace Kb := Lib.hid (Kb.out.trans k2 (by simp)); have hB := k2.some (heap_at (w := w1) (k := w1.heap.size) (o := (.cells #[.int .i64 R.ep, .int .i64 R.nr, .int .i64 R.kd, .slice ad R.sp.length cap, .string (str R.dt), .string (str R.tx)] 24)) rfl) (by simp); obtain ⟨⟨r0, r1, r2, r3, r4, r5⟩, x0, x1, x2, x3, x4, x5⟩ := cells6 hB; clear HR q0 q1 q2 q3 q4 q5 f0 f1 f2 f3 f4 f5; have HR := Lib.hid (Zc.out _ Kb.out); obtain ⟨⟨q0, q1, q2, q3, q4, q5⟩, f0, f1, f2, f3, f4, f5⟩ := cells6 HR.out))
  refine bodyPost_ret (results_row_tmp2 rfl rfl (heap_set6 HR.out _ _ _ _ _ _) Try.underlying24 rfl (by kernel_rfl)) rfl ⟨.slice none 0 0, [], rfl, zero_good _, by simp, keeps_set6 (K0.out.trans Kb.out (by simp)) (Nat.le_refl _) _ _ _ _ _ _⟩
set_option maxHeartbeats 4000000 in
theorem dec_other (s : List UInt8) (w : World) (hs : s.length ≤ 100000) (h : (openV s).2.2.2 = 0) (hl : ¬ (s.length : Int) < ((openV s).2.1 + (openV s).1.sects) * 64) (hk : (openV s).1.kd ≠ 1) :
    Calls Try.prog 18 #[.string (str s)] w (DecPost w (decV s)) := by
  have hz := str_empty
  have K0 := Lib.hid ((Keeps.refl [] w).alloc zbox)
  have Zc : Hid (∀ w', Keeps [] (w.alloc zbox) w' → w'.heap[w.heap.size]? = some zbox) := fun w' k => zcells k
  have Kz := Lib.hid (Keeps.refl [] (w.alloc zbox))
  have Opn := Lib.hid (fun w => open_all s w hs)
  have hfit := openV_fit s hs
  have hN := openV_n s
  have hX := openV_x s
  unfold zbox at *
  have hv : decV s = ((openV s).1, (openV s).2.1 + (openV s).1.sects, 0) := by unfold decV; rw [if_neg (fun hh => hh h), if_neg hl, if_neg hk]
  rw [hv]
  generalize openV s = TT at *
  obtain ⟨R, N, X, te⟩ := TT
  dsimp only at *
  have hsb := sects_bd hfit
  have Da := Lib.hid (fun (w' : World) sv G (h : R.good w' sv G) => data_any R sv G w' h hfit)
  unfold OpenPost Rc.val at Opn
  unfold Rc.val at Da
  dsimp only at *
  clear hfit
  subst h
  have hwk : IntKind.i64.wrap ((N : Int) + R.sects) = (N : Int) + R.sects := IntWalk.i64_in _ ⟨by omega, by omega⟩
  have hwk2 : IntKind.i64.wrap (((N : Int) + R.sects) * 64) = ((N : Int) + R.sects) * 64 := IntWalk.i64_in _ ⟨by omega, by omega⟩
  have h6 : decide ((s.length : Int) < ((N : Int) + R.sects) * 64) = false := decide_eq_false hl
  have hkb : (R.kd == 1) = false := beq_eq_false_iff_ne.2 hk
  generalize R.sects = SX at *
  clear hv hl
  go_enter Try.func18, Try.ntmps18
  go_wp2_with (first
    | (go_at_call 34; (with_reducible refine (Opn.out _).mono ?_); rintro e w1 ⟨sv, G, rfl, hg, hGb, k1⟩; have KA := Lib.hid (Kz.out.trans k1 (by simp)); clear k1; obtain ⟨ad, cap, rfl, _⟩ := hg.at_; have Hg := Lib.hid hg; have HGb := Lib.hid hGb; clear hg hGb; have Kb := Lib.hid (KA.out.alloc (.cells #[.int .i64 R.ep, .int .i64 R.nr, .int .i64 R.kd, .slice ad R.sp.length cap, .string (str R.dt), .string (str R.tx)] 24)); have HR := Lib.hid (Zc.out _ Kb.out); obtain ⟨⟨q0, q1, q2, q3, q4, q5⟩, f0, f1, f2, f3, f4, f5⟩ := cells6 HR.out)
    | (go_at_call 35; (with_reducible refine (Da.out _ _ _ (Hg.out.newer ((Keeps.refl [] w1).alloc (.cells #[.int .i64 R.ep, .int .i64 R.nr, .int .i64 R.kd, .slice ad R.sp.length cap, .string (str R.dt), .string (str R.tx)] 24)))).mono ?_); rintro e w2 ⟨rfl, k2⟩; have K8 := ((Keeps.refl [] w1).alloc (.cells #[.int .i64 R.ep, .int .i64 R.nr, .int .i64 R.kd, .slice ad R.sp.length cap, .string (str R.dt), .string (str R.tx)] 24)).trans k2 (by simp); replace Kb := Lib.hid (Kb.out.trans k2 (by simp)); have hB := k2.some (heap_at (w := w1) (k := w1.heap.size) (o := (.cells #[.int .i64 R.ep, .int .i64 R.nr, .int .i64 R.kd, .slice ad R.sp.length cap, .string (str R.dt), .string (str R.tx)] 24)) rfl) (by simp); obtain ⟨⟨r0, r1, r2, r3, r4, r5⟩, x0, x1, x2, x3, x4, x5⟩ := cells6 hB; clear HR q0 q1 q2 q3 q4 q5 f0 f1 f2 f3 f4 f5; have HR := Lib.hid (Zc.out _ Kb.out); obtain ⟨⟨q0, q1, q2, q3, q4, q5⟩, f0, f1, f2, f3, f4, f5⟩ := cells6 HR.out))
  refine bodyPost_ret (results_row_tmp2 rfl rfl (heap_set6 HR.out _ _ _ _ _ _) Try.underlying24 rfl (by kernel_rfl)) rfl ⟨.slice ad R.sp.length cap, G, rfl, (Hg.out.newer K8).kept (keeps_at6 _ w.heap.size _ _ _ _ _ _) (fun x hx => ?_), fun x hx => ?_, keeps_set6 (K0.out.trans Kb.out (by simp)) (Nat.le_refl _) _ _ _ _ _ _⟩
  · have h1 := (HGb.out x hx).1
    simp at h1 ⊢
    omega
  · have h1 := HGb.out x hx
    have h2 := K8.size
    simp at h1 h2 ⊢
    omega
set_option maxHeartbeats 4000000 in
theorem dec_bad (s : List UInt8) (w : World) (hs : s.length ≤ 100000) (h : (openV s).2.2.2 = 0) (hl : ¬ (s.length : Int) < ((openV s).2.1 + (openV s).1.sects) * 64) (hk : (openV s).1.kd = 1) (hc : crcMore 0 ((s.drop ((openV s).2.1 * 64)).take ((openV s).1.sects.toNat * 64)) ≠ (openV s).2.2.1) :
    Calls Try.prog 18 #[.string (str s)] w (DecPost w (decV s)) := by
  have hz := str_empty
  have K0 := Lib.hid ((Keeps.refl [] w).alloc zbox)
  have Zc : Hid (∀ w', Keeps [] (w.alloc zbox) w' → w'.heap[w.heap.size]? = some zbox) := fun w' k => zcells k
  have Kz := Lib.hid (Keeps.refl [] (w.alloc zbox))
  have Opn := Lib.hid (fun w => open_all s w hs)
  have hfit := openV_fit s hs
  have hN := openV_n s
  have hX := openV_x s
  unfold zbox at *
  have hv : decV s = (Rc.zero, 0, 13) := by unfold decV; rw [if_neg (fun hh => hh h), if_neg hl, if_pos hk, if_pos hc]
  rw [hv]
  clear hv
  generalize openV s = TT at *
  obtain ⟨R, N, X, te⟩ := TT
  dsimp only at *
  have hsb := sects_bd hfit
  have Da := Lib.hid (fun (w' : World) sv G (h : R.good w' sv G) => data_any R sv G w' h hfit)
  unfold OpenPost Rc.val at Opn
  unfold Rc.val at Da
  dsimp only at *
  clear hfit
  subst h
  have hwk : IntKind.i64.wrap ((N : Int) + R.sects) = (N : Int) + R.sects := IntWalk.i64_in _ ⟨by omega, by omega⟩
  have hwk2 : IntKind.i64.wrap (((N : Int) + R.sects) * 64) = ((N : Int) + R.sects) * 64 := IntWalk.i64_in _ ⟨by omega, by omega⟩
  have h6 : decide ((s.length : Int) < ((N : Int) + R.sects) * 64) = false := decide_eq_false hl
  have hkb : (R.kd == 1) = true := by rw [hk]; rfl
  generalize R.sects = SX at *
  obtain ⟨T, rfl⟩ := Int.eq_ofNat_of_zero_le hsb.1
  simp only [Int.toNat_natCast] at *
  obtain ⟨a, ha⟩ : ∃ a, N * 64 = a := ⟨_, rfl⟩
  obtain ⟨b, hb⟩ : ∃ b, N * 64 + T * 64 = b := ⟨_, rfl⟩
  have hwa : IntKind.i64.wrap ((N : Int) * 64) = (a : Int) := by rw [IntWalk.i64_in _ ⟨by omega, by omega⟩]; omega
  have hcut : (str s).extract a b = str ((s.drop (N * 64)).take (T * 64)) := by rw [← ha, ← hb, str_extract, str_data, Nat.add_sub_cancel_left]
  have hlD : ((s.drop (N * 64)).take (T * 64)).length ≤ 100000 := by rw [List.length_take, List.length_drop]; omega
  have Sm := Lib.hid (fun w k hh => sum1_any ((s.drop (N * 64)).take (T * 64)) w k (by omega) hh)
  generalize (s.drop (N * 64)).take (T * 64) = D at *
  have hb1 : (a : Int) ≤ (b : Int) := by omega
  have hb2 : (b : Int) ≤ (s.length : Int) := by omega
  have hb3 : a ≤ b := by omega
  have hb4 : b ≤ s.length := by omega
  have hwb : IntKind.i64.wrap (((N : Int) + (T : Int)) * 64) = (b : Int) := by rw [hwk2]; omega
  have hlb : decide ((s.length : Int) < (b : Int)) = false := decide_eq_false (by omega)
  have hlb2 : decide (s.length < b) = false := decide_eq_false (by omega)
  clear hwk2 h6 hl hk
  have hcb : ((crcMore 0 D : Int) != (X : Int)) = true := bne_nat_ne hc
  clear hc
  generalize crcMore 0 D = Y at *
  go_enter Try.func18, Try.ntmps18
  go_wp2_with (first
    | (go_at_call 34; (with_reducible refine (Opn.out _).mono ?_); rintro e w1 ⟨sv, G, rfl, hg, hGb, k1⟩; have KA := Lib.hid (Kz.out.trans k1 (by simp)); clear k1; obtain ⟨ad, cap, rfl, _⟩ := hg.at_; have Hg := Lib.hid hg; have HGb := Lib.hid hGb; clear hg hGb; have Kb := Lib.hid (KA.out.alloc (.cells #[.int .i64 R.ep, .int .i64 R.nr, .int .i64 R.kd, .slice ad R.sp.length cap, .string (str R.dt), .string (str R.tx)] 24)); have HR := Lib.hid (Zc.out _ Kb.out); obtain ⟨⟨q0, q1, q2, q3, q4, q5⟩, f0, f1, f2, f3, f4, f5⟩ := cells6 HR.out)
    | (go_at_call 35; (with_reducible refine (Da.out _ _ _ (Hg.out.newer ((Keeps.refl [] w1).alloc (.cells #[.int .i64 R.ep, .int .i64 R.nr, .int .i64 R.kd, .slice ad R.sp.length cap, .string (str R.dt), .string (str R.tx)] 24)))).mono ?_); rintro e w2 ⟨rfl, k2⟩; have K8 := ((Keeps.refl [] w1).alloc (.cells #[.int .i64 R.ep, .int .i64 R.nr, .int .i64 R.kd, .slice ad R.sp.length cap, .string (str R.dt), .string (str R.tx)] 24)).trans k2 (by simp); replace Kb := Lib.hid (Kb.out.trans k2 (by simp)); have hB := k2.some (heap_at (w := w1) (k := w1.heap.size) (o := (.cells #[.int .i64 R.ep, .int .i64 R.nr, .int .i64 R.kd, .slice ad R.sp.length cap, .string (str R.dt), .string (str R.tx)] 24)) rfl) (by simp); obtain ⟨⟨r0, r1, r2, r3, r4, r5⟩, x0, x1, x2, x3, x4, x5⟩ := cells6 hB; clear HR q0 q1 q2 q3 q4 q5 f0 f1 f2 f3 f4 f5; have HR := Lib.hid (Zc.out _ Kb.out); obtain ⟨⟨q0, q1, q2, q3, q4, q5⟩, f0, f1, f2, f3, f4, f5⟩ := cells6 HR.out)
    | (go_at_call 27; (with_reducible refine (Sm.out _ _ ?hp).mono ?_); (case hp => exact heap_at (by simp)); rintro e w3 ⟨rfl, rfl⟩; have hB5 : ((w2.setCell ⟨w1.heap.size, 4, none⟩ (.string (str D))).alloc (.cells #[.string (str D)] 9)).heap[w1.heap.size]? = some (.cells #[.int .i64 R.ep, .int .i64 R.nr, .int .i64 R.kd, .slice ad R.sp.length cap, .string (str D), .string (str R.tx)] 24 (0, 0)) := heap_was (heap_setCell hB 4 (.string (str D))); obtain ⟨⟨s0, s1, s2, s3, s4, s5⟩, _⟩ := cells6 hB5; replace Kb := Lib.hid ((Kb.out.setK w1.heap.size 4 (.string (str D)) KA.out.size).alloc (.cells #[.string (str D)] 9)); have K9 := (K8.setK w1.heap.size 4 (.string (str D)) (Nat.le_refl _)).alloc (.cells #[.string (str D)] 9); clear HR q0 q1 q2 q3 q4 q5 f0 f1 f2 f3 f4 f5; have HR := Lib.hid (Zc.out _ Kb.out); obtain ⟨⟨q0, q1, q2, q3, q4, q5⟩, f0, f1, f2, f3, f4, f5⟩ := cells6 HR.out))
  refine bodyPost_ret (results_row_tmp2 rfl rfl (heap_set6 HR.out _ _ _ _ _ _) Try.underlying24 rfl (by kernel_rfl)) rfl ⟨.slice none 0 0, [], rfl, zero_good _, by simp, keeps_set6 (K0.out.trans Kb.out (by simp)) (Nat.le_refl _) _ _ _ _ _ _⟩
set_option maxHeartbeats 4000000 in
theorem dec_good (s : List UInt8) (w : World) (hs : s.length ≤ 100000) (h : (openV s).2.2.2 = 0) (hl : ¬ (s.length : Int) < ((openV s).2.1 + (openV s).1.sects) * 64) (hk : (openV s).1.kd = 1) (hc : crcMore 0 ((s.drop ((openV s).2.1 * 64)).take ((openV s).1.sects.toNat * 64)) = (openV s).2.2.1) :
    Calls Try.prog 18 #[.string (str s)] w (DecPost w (decV s)) := by
  have hz := str_empty
  have K0 := Lib.hid ((Keeps.refl [] w).alloc zbox)
  have Zc : Hid (∀ w', Keeps [] (w.alloc zbox) w' → w'.heap[w.heap.size]? = some zbox) := fun w' k => zcells k
  have Kz := Lib.hid (Keeps.refl [] (w.alloc zbox))
  have Opn := Lib.hid (fun w => open_all s w hs)
  have hfit := openV_fit s hs
  have hN := openV_n s
  have hX := openV_x s
  unfold zbox at *
  have hv : decV s = ({ (openV s).1 with dt := (s.drop ((openV s).2.1 * 64)).take ((openV s).1.sects.toNat * 64) }, (openV s).2.1 + (openV s).1.sects, 0) := by unfold decV; rw [if_neg (fun hh => hh h), if_neg hl, if_pos hk, if_neg (fun hh => hh hc)]
  rw [hv]
  clear hv
  generalize openV s = TT at *
  obtain ⟨R, N, X, te⟩ := TT
  dsimp only at *
  have hsb := sects_bd hfit
  have Da := Lib.hid (fun (w' : World) sv G (h : R.good w' sv G) => data_any R sv G w' h hfit)
  unfold OpenPost Rc.val at Opn
  unfold Rc.val at Da
  dsimp only at *
  clear hfit
  subst h
  have hwk : IntKind.i64.wrap ((N : Int) + R.sects) = (N : Int) + R.sects := IntWalk.i64_in _ ⟨by omega, by omega⟩
  have hwk2 : IntKind.i64.wrap (((N : Int) + R.sects) * 64) = ((N : Int) + R.sects) * 64 := IntWalk.i64_in _ ⟨by omega, by omega⟩
  have h6 : decide ((s.length : Int) < ((N : Int) + R.sects) * 64) = false := decide_eq_false hl
  have hkb : (R.kd == 1) = true := by rw [hk]; rfl
  generalize R.sects = SX at *
  obtain ⟨T, rfl⟩ := Int.eq_ofNat_of_zero_le hsb.1
  simp only [Int.toNat_natCast] at *
  obtain ⟨a, ha⟩ : ∃ a, N * 64 = a := ⟨_, rfl⟩
  obtain ⟨b, hb⟩ : ∃ b, N * 64 + T * 64 = b := ⟨_, rfl⟩
  have hwa : IntKind.i64.wrap ((N : Int) * 64) = (a : Int) := by rw [IntWalk.i64_in _ ⟨by omega, by omega⟩]; omega
  have hcut : (str s).extract a b = str ((s.drop (N * 64)).take (T * 64)) := by rw [← ha, ← hb, str_extract, str_data, Nat.add_sub_cancel_left]
  have hlD : ((s.drop (N * 64)).take (T * 64)).length ≤ 100000 := by rw [List.length_take, List.length_drop]; omega
  have Sm := Lib.hid (fun w k hh => sum1_any ((s.drop (N * 64)).take (T * 64)) w k (by omega) hh)
  generalize (s.drop (N * 64)).take (T * 64) = D at *
  have hb1 : (a : Int) ≤ (b : Int) := by omega
  have hb2 : (b : Int) ≤ (s.length : Int) := by omega
  have hb3 : a ≤ b := by omega
  have hb4 : b ≤ s.length := by omega
  have hwb : IntKind.i64.wrap (((N : Int) + (T : Int)) * 64) = (b : Int) := by rw [hwk2]; omega
  have hlb : decide ((s.length : Int) < (b : Int)) = false := decide_eq_false (by omega)
  have hlb2 : decide (s.length < b) = false := decide_eq_false (by omega)
  clear hwk2 h6 hl hk
  have hcb : ((crcMore 0 D : Int) != (X : Int)) = false := bne_nat_eq hc
  clear hc
  generalize crcMore 0 D = Y at *
  go_enter Try.func18, Try.ntmps18
  go_wp2_with (first
    | (go_at_call 34; (with_reducible refine (Opn.out _).mono ?_); rintro e w1 ⟨sv, G, rfl, hg, hGb, k1⟩; have KA := Lib.hid (Kz.out.trans k1 (by simp)); clear k1; obtain ⟨ad, cap, rfl, _⟩ := hg.at_; have Hg := Lib.hid hg; have HGb := Lib.hid hGb; clear hg hGb; have Kb := Lib.hid (KA.out.alloc (.cells #[.int .i64 R.ep, .int .i64 R.nr, .int .i64 R.kd, .slice ad R.sp.length cap, .string (str R.dt), .string (str R.tx)] 24)); have HR := Lib.hid (Zc.out _ Kb.out); obtain ⟨⟨q0, q1, q2, q3, q4, q5⟩, f0, f1, f2, f3, f4, f5⟩ := cells6 HR.out)
    | (go_at_call 35; (with_reducible refine (Da.out _ _ _ (Hg.out.newer ((Keeps.refl [] w1).alloc (.cells #[.int .i64 R.ep, .int .i64 R.nr, .int .i64 R.kd, .slice ad R.sp.length cap, .string (str R.dt), .string (str R.tx)] 24)))).mono ?_); rintro e w2 ⟨rfl, k2⟩; have K8 := ((Keeps.refl [] w1).alloc (.cells #[.int .i64 R.ep, .int .i64 R.nr, .int .i64 R.kd, .slice ad R.sp.length cap, .string (str R.dt), .string (str R.tx)] 24)).trans k2 (by simp); replace Kb := Lib.hid (Kb.out.trans k2 (by simp)); have hB := k2.some (heap_at (w := w1) (k := w1.heap.size) (o := (.cells #[.int .i64 R.ep, .int .i64 R.nr, .int .i64 R.kd, .slice ad R.sp.length cap, .string (str R.dt), .string (str R.tx)] 24)) rfl) (by simp); obtain ⟨⟨r0, r1, r2, r3, r4, r5⟩, x0, x1, x2, x3, x4, x5⟩ := cells6 hB; clear HR q0 q1 q2 q3 q4 q5 f0 f1 f2 f3 f4 f5; have HR := Lib.hid (Zc.out _ Kb.out); obtain ⟨⟨q0, q1, q2, q3, q4, q5⟩, f0, f1, f2, f3, f4, f5⟩ := cells6 HR.out)
    | (go_at_call 27; (with_reducible refine (Sm.out _ _ ?hp).mono ?_); (case hp => exact heap_at (by simp)); rintro e w3 ⟨rfl, rfl⟩; have hB5 : ((w2.setCell ⟨w1.heap.size, 4, none⟩ (.string (str D))).alloc (.cells #[.string (str D)] 9)).heap[w1.heap.size]? = some (.cells #[.int .i64 R.ep, .int .i64 R.nr, .int .i64 R.kd, .slice ad R.sp.length cap, .string (str D), .string (str R.tx)] 24 (0, 0)) := heap_was (heap_setCell hB 4 (.string (str D))); obtain ⟨⟨s0, s1, s2, s3, s4, s5⟩, _⟩ := cells6 hB5; replace Kb := Lib.hid ((Kb.out.setK w1.heap.size 4 (.string (str D)) KA.out.size).alloc (.cells #[.string (str D)] 9)); have K9 := (K8.setK w1.heap.size 4 (.string (str D)) (Nat.le_refl _)).alloc (.cells #[.string (str D)] 9); clear HR q0 q1 q2 q3 q4 q5 f0 f1 f2 f3 f4 f5; have HR := Lib.hid (Zc.out _ Kb.out); obtain ⟨⟨q0, q1, q2, q3, q4, q5⟩, f0, f1, f2, f3, f4, f5⟩ := cells6 HR.out))
  refine bodyPost_ret (results_row_tmp2 rfl rfl (heap_set6 HR.out _ _ _ _ _ _) Try.underlying24 rfl (by kernel_rfl)) rfl ⟨.slice ad R.sp.length cap, G, rfl, (Rc.good.withD (Hg.out.newer K9) (Nat.le_trans hlD (by decide))).kept (keeps_at6 _ w.heap.size _ _ _ _ _ _) (fun x hx => ?_), fun x hx => ?_, keeps_set6 (K0.out.trans Kb.out (by simp)) (Nat.le_refl _) _ _ _ _ _ _⟩
  · have h1 := (HGb.out x hx).1
    simp at h1 ⊢
    omega
  · have h1 := HGb.out x hx
    have h2 := K9.size
    simp at h1 h2 ⊢
    omega

theorem dec_all (s : List UInt8) (w : World) (hs : s.length ≤ 100000) : Calls Try.prog 18 #[.string (str s)] w (DecPost w (decV s)) := by
  by_cases h : (openV s).2.2.2 = 0
  · by_cases hl : (s.length : Int) < ((openV s).2.1 + (openV s).1.sects) * 64
    · exact dec_cut s w hs h hl
    · by_cases hk : (openV s).1.kd = 1
      · by_cases hc : crcMore 0 ((s.drop ((openV s).2.1 * 64)).take ((openV s).1.sects.toNat * 64)) = (openV s).2.2.1
        · exact dec_good s w hs h hl hk hc
        · exact dec_bad s w hs h hl hk hc
      · exact dec_other s w hs h hl hk
  · exact dec_err s w hs h
end Go.Proofs.Ytjebldfmkpfafaa
