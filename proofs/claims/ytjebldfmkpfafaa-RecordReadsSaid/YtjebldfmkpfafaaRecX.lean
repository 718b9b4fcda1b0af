/- Layer 10, plain: what is encoded is decoded. -/
import Derived.Test.YtjebldfmkpfafaaRecW
namespace Go.Proofs.Ytjebldfmkpfafaa
open Go.RowKit
set_option maxRecDepth 100000

theorem withD_self {r : Rc} (h : r.dt = []) : ({ r with dt := [] } : Rc) = r := by rw [← h]
theorem headB_len (r : Rc) (X : Nat) (h : r.hok) : (r.headB X).length = Rc.secs (r.bodyB X).length * 64 := by
  have h1 := secs_bd (h.len X)
  unfold Rc.headB Rc.foreB
  simp only [List.length_append, be_length, List.length_replicate, List.length_cons, List.length_nil, four]
  omega
theorem headB_shape (r : Rc) (X : Nat) : r.headB X = [76, 82] ++ (be (Rc.secs (r.bodyB X).length) 2 ++ (r.bodyB X ++ (List.replicate (Rc.secs (r.bodyB X).length * 64 - 8 - (r.bodyB X).length) 0 ++ four (crcMore 0 (Rc.foreB (r.bodyB X)))))) := by
  unfold Rc.headB Rc.foreB; simp
theorem body_of_head (r : Rc) (X : Nat) (h : r.hok) : bodyOfH (r.headB X) = r.bodyB X ++ List.replicate (Rc.secs (r.bodyB X).length * 64 - 8 - (r.bodyB X).length) 0 := by
  have h1 := secs_bd (h.len X)
  have hl := headB_len r X h
  unfold bodyOfH
  rw [hl, headB_shape]
  have e2 : (be (Rc.secs (r.bodyB X).length) 2).length = 2 := be_length _ _
  generalize be (Rc.secs (r.bodyB X).length) 2 = b2 at *
  generalize four (crcMore 0 (Rc.foreB (r.bodyB X))) = ff at *
  rw [show ([76, 82] ++ (b2 ++ (r.bodyB X ++ (List.replicate (Rc.secs (r.bodyB X).length * 64 - 8 - (r.bodyB X).length) 0 ++ ff))) : List UInt8) = ([76, 82] ++ b2) ++ ((r.bodyB X ++ List.replicate (Rc.secs (r.bodyB X).length * 64 - 8 - (r.bodyB X).length) 0) ++ ff) by simp]
  rw [List.drop_append_of_le_length (by simp [e2]), List.drop_of_length_le (by simp [e2]), List.nil_append]
  rw [List.take_append_of_le_length (by simp only [List.length_append, List.length_replicate]; omega), List.take_of_length_le (by simp only [List.length_append, List.length_replicate]; omega)]

/-- A record that may be, and its head without its data. -/
theorem full_ok {r : Rc} (hc : r.check = 0) : ({ r with dt := [] } : Rc).full.check = 0 ∧ (r.kd = 1 → (r.dt.length : Int) = ({ r with dt := [] } : Rc).sects * 64) ∧ 0 ≤ ({ r with dt := [] } : Rc).sects ∧ ({ r with dt := [] } : Rc).sects ≤ 512 ∧ (r.kd ≠ 1 → ({ r with dt := [] } : Rc).sects = 0) := by
  obtain ⟨hok, h1, h2, h3, h4, h5⟩ := Rc.check_ok hc
  have hkk := hok.k
  by_cases hk : r.kd = 1
  · obtain ⟨h6, h7⟩ := h3 hk
    obtain ⟨h8, h9⟩ := h4 (by omega)
    obtain ⟨g1, g2, g3, g4⟩ := Rc.spok_spec h8
    have g5 := totS_pos g1 g4
    have hs : ({ r with dt := [] } : Rc).sects = totS r.sp := by unfold Rc.sects; rw [if_pos hk]
    refine ⟨?_, fun _ => by rw [hs]; exact h6, by omega, by omega, fun h => absurd hk h⟩
    unfold Rc.full
    rw [if_pos ⟨by omega, by omega⟩, hs]
    have hn : ({ r with dt := List.replicate ((totS r.sp).toNat * 64) 0 } : Rc).nums := ⟨hok.e0, hok.e1, hok.n0, hok.n1⟩
    have hsp : ({ r with dt := List.replicate ((totS r.sp).toNat * 64) 0 } : Rc).spok = true := h8
    unfold Rc.check
    rw [if_pos hn, if_pos hk]
    unfold Rc.written
    rw [if_neg (show ¬ (({ r with dt := List.replicate ((totS r.sp).toNat * 64) 0 } : Rc).spok = false ∨ 512 < totS r.sp) from fun h => h.elim (fun h => by rw [hsp] at h; cases h) (fun h => by omega))]
    rw [if_neg (show ¬ (((List.replicate ((totS r.sp).toNat * 64) (0 : UInt8)).length : Int) ≠ totS r.sp * 64) from fun h => h (by rw [List.length_replicate]; omega))]
  · have hs : ({ r with dt := [] } : Rc).sects = 0 := by unfold Rc.sects; rw [if_neg hk]
    have hr : ({ r with dt := [] } : Rc) = r := withD_self (h2 hk)
    refine ⟨?_, fun h => absurd h hk, by omega, by omega, fun _ => hs⟩
    unfold Rc.full
    rw [if_neg (by omega), hr]
    exact hc

theorem headB_sumOf (r : Rc) (X : Nat) (d : List UInt8) : ({ r with dt := d } : Rc).headB (r.sumOf X) = r.headB X := by
  have hb : ({ r with dt := d } : Rc).bodyB (r.sumOf X) = r.bodyB X := by
    unfold Rc.bodyB Rc.sumOf
    dsimp only
    by_cases hk : r.kd = 1
    · simp only [if_pos hk]
    · simp only [if_neg hk]
  unfold Rc.headB
  rw [hb]

/-- The head of a record tells it. -/
theorem told_back {r : Rc} (hc : r.check = 0) {X : Nat} (hX : X < 4294967296) : toldV (r.headB X) = ({ r with dt := [] }, r.sumOf X, 0) := by
  obtain ⟨hok, h1, h2, h3, h4, h5⟩ := Rc.check_ok hc
  obtain ⟨g1, g2, g3, g4, g5⟩ := rdR_back hok (fun h => (h4 h).2) h5 hX (body_of_head r X hok)
  rw [toldV_of g1 g2 rfl, if_neg (fun h => h g3), g4, g5, if_neg (fun h => h (full_ok hc).1), if_neg (fun h => h (headB_sumOf r X [])), ]

theorem crc_ok (b : List UInt8) : crcOpen (b ++ four (crcMore 0 b)) = (b, 0) := by
  unfold crcOpen
  have hl : (b ++ four (crcMore 0 b)).length = b.length + 4 := by simp [four]
  rw [hl, if_neg (by omega), Nat.add_sub_cancel, List.take_left, if_pos rfl]

/-- Sectors that begin with a record's head. -/
theorem open_back {r : Rc} (hc : r.check = 0) {X : Nat} (hX : X < 4294967296) (rest : List UInt8) :
    openV (r.headB X ++ rest) = ({ r with dt := [] }, Rc.secs (r.bodyB X).length, r.sumOf X, 0) := by
  obtain ⟨hok, _⟩ := Rc.check_ok hc
  have hb := secs_bd (hok.len X)
  have hl := headB_len r X hok
  have hs1 : 1 ≤ Rc.secs (r.bodyB X).length := by unfold Rc.secs; omega
  have hn : nOf (r.headB X ++ rest) = Rc.secs (r.bodyB X).length := by
    rw [headB_shape]
    unfold nOf
    show (UInt8.ofNat (Rc.secs (r.bodyB X).length / 256 ^ 1)).toNat * 256 + (UInt8.ofNat (Rc.secs (r.bodyB X).length / 256 ^ 0)).toNat = _
    rw [UInt8.toNat_ofNat', UInt8.toNat_ofNat']
    omega
  have hp : [76, 82].isPrefixOf (r.headB X ++ rest) = true := by rw [headB_shape]; rfl
  have ht : (r.headB X ++ rest).take (Rc.secs (r.bodyB X).length * 64) = r.headB X := by rw [List.take_append_of_le_length (by omega), List.take_of_length_le (by omega)]
  have hcr : crcOpen (r.headB X) = (Rc.foreB (r.bodyB X), 0) := crc_ok _
  unfold openV
  rw [hn, ht, hcr, told_back hc hX, if_neg (by rw [List.length_append]; omega), if_neg (show ¬ ([76, 82].isPrefixOf (r.headB X ++ rest) = false ∨ _ ∨ _) from fun h => h.elim (fun h => by rw [hp] at h; cases h) (fun h => h.elim (fun h => by omega) (fun h => by omega))), if_neg (by rw [List.length_append]; omega), if_neg (fun h => h rfl), if_neg (fun h => h rfl)]

theorem enc_shape {r : Rc} (hc : r.check = 0) : r.encV = (r.headB (crcMore 0 r.dt) ++ r.dt, 0) := by unfold Rc.encV; rw [if_pos hc]; rfl
/-- How many sectors a record has. -/
def Rc.allS (r : Rc) : Nat := Rc.secs (r.bodyB (crcMore 0 r.dt)).length + r.dt.length / 64
theorem data_len {r : Rc} (hc : r.check = 0) : r.dt.length = r.dt.length / 64 * 64 ∧ ((r.dt.length / 64 : Nat) : Int) = ({ r with dt := [] } : Rc).sects := by
  obtain ⟨hok, h1, h2, h3, h4, h5⟩ := Rc.check_ok hc
  obtain ⟨f1, f2, f3, f4, f5⟩ := full_ok hc
  by_cases hk : r.kd = 1
  · have h6 := f2 hk
    omega
  · have h6 := f5 hk
    rw [h2 hk, h6]
    exact ⟨rfl, rfl⟩
theorem head_back {r : Rc} (hc : r.check = 0) (rest : List UInt8) : headV (r.encV.1 ++ rest) = ({ r with dt := [] }, Rc.secs (r.bodyB (crcMore 0 r.dt)).length, ((r.dt.length / 64 : Nat) : Int), 0) := by
  rw [enc_shape hc]
  unfold headV
  rw [List.append_assoc, open_back hc (crcMore_lt 0 r.dt), (data_len hc).2]
theorem dec_back {r : Rc} (hc : r.check = 0) (rest : List UInt8) : decV (r.encV.1 ++ rest) = (r, (r.allS : Int), 0) := by
  obtain ⟨hok, h1, h2, h3, h4, h5⟩ := Rc.check_ok hc
  have hl := headB_len r (crcMore 0 r.dt) hok
  obtain ⟨d1, d2⟩ := data_len hc
  rw [enc_shape hc]
  unfold decV
  rw [List.append_assoc, open_back hc (crcMore_lt 0 r.dt)]
  dsimp only
  rw [← d2, if_neg (fun h => h rfl), if_neg (by rw [List.length_append, List.length_append]; omega)]
  have hdrop : (r.headB (crcMore 0 r.dt) ++ (r.dt ++ rest)).drop (Rc.secs (r.bodyB (crcMore 0 r.dt)).length * 64) = r.dt ++ rest := by rw [← hl, List.drop_left]
  rw [hdrop, Int.toNat_natCast, ← d1, List.take_left]
  unfold Rc.allS
  by_cases hk : r.kd = 1
  · rw [if_pos hk, if_neg (fun h => h (by unfold Rc.sumOf; rw [if_pos hk]))]
    refine Prod.ext rfl (Prod.ext ?_ rfl)
    dsimp only
    omega
  · rw [if_neg hk]
    refine Prod.ext ?_ (Prod.ext ?_ rfl)
    · exact withD_self (h2 hk)
    · dsimp only
      omega
theorem enc_allS {r : Rc} (hc : r.check = 0) : r.encV.1.length = 64 * r.allS := by
  obtain ⟨hok, _⟩ := Rc.check_ok hc
  have hl := headB_len r (crcMore 0 r.dt) hok
  have d1 := (data_len hc).1
  rw [enc_shape hc, List.length_append]
  unfold Rc.allS
  omega
end Go.Proofs.Ytjebldfmkpfafaa
