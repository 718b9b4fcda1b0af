/- Layer 11, plain: a superblock's sector, what a sector says, which one is picked; a sector that is turned, or torn. -/
import Derived.Test.YtcbpkplmaglpcaaSupB
import Derived.Test.YtcbpkplmaglpcaaCrcC
namespace Go.Proofs.Ytcbpkplmaglpcaa

/-- A sector ahead of its check sum. -/
def Sup.body (s : Sup) : List UInt8 :=
  [76, 83, 85, 80] ++ be s.key 8 ++ be s.epoch.toNat 4 ++ be s.size.toNat 4 ++ be s.serial.toNat 8 ++ be s.tail.toNat 8 ++ be s.number.toNat 8 ++ List.replicate 8 0 ++ be s.serial.toNat 8
def Sup.sector (s : Sup) : List UInt8 := s.body ++ four (crcMore 0 s.body)

def Sup.nil : Sup := ⟨0, 0, 0, 0, 0, 0⟩
/-- A number of eight bytes; -1: it is too great. -/
def snum (x : Nat) : Int := if 1099511627776 ≤ x then -1 else (x : Int)
/-- What the bytes ahead of the check sum say. -/
def supOf (t : List UInt8) : Sup :=
  ⟨num ((t.drop 4).take 8), num ((t.drop 12).take 4), snum (num ((t.drop 20).take 8)), num ((t.drop 16).take 4), snum (num ((t.drop 28).take 8)), snum (num ((t.drop 36).take 8))⟩
def Sup.fits (x : Sup) (s : List UInt8) : Bool := decide (x.check = 0 ∧ x.sector = s)
def supDecode (s : List UInt8) : Sup × Int :=
  if s.length ≠ 64 then (.nil, 30) else if (crcOpen s).2 ≠ 0 then (.nil, (crcOpen s).2) else if (supOf (crcOpen s).1).fits s then (supOf (crcOpen s).1, 0) else (.nil, 12)

theorem four_length (x : Nat) : (four x).length = 4 := rfl
theorem body_length (s : Sup) : s.body.length = 60 := by unfold Sup.body; simp [be_length]
theorem sector_length (s : Sup) : s.sector.length = 64 := by unfold Sup.sector; rw [List.length_append, body_length, four_length]

theorem crcOpen_seal (l : List UInt8) : crcOpen (l ++ four (crcMore 0 l)) = (l, 0) := by
  unfold crcOpen
  rw [List.length_append, four_length, if_neg (by omega), Nat.add_sub_cancel, List.take_left', if_pos rfl]
  rfl

theorem check_le (s : Sup) (h : s.check = 0) : (0 ≤ s.epoch ∧ s.epoch < 4294967296) ∧ (0 ≤ s.serial ∧ s.serial < 1099511627776) ∧ (0 ≤ s.number ∧ s.number < 1099511627776) ∧ 1 ≤ s.size ∧ s.size ≤ 65536 ∧ 0 ≤ s.tail ∧ s.tail < 1099511627776 := by
  unfold Sup.check at h
  by_cases h1 : s.inRange
  · rw [if_pos h1] at h
    by_cases h2 : s.inRing
    · obtain ⟨a, b, c⟩ := h1
      obtain ⟨d, e, f, g⟩ := h2
      exact ⟨a, b, c, d, e, f, g⟩
    · rw [if_neg h2] at h; omega
  · rw [if_neg h1] at h; omega

/-- Parts of fixed length, cut out again. -/
theorem cut_at {a b c : List UInt8} {n m : Nat} (ha : a.length = n) (hb : b.length = m) : ((a ++ b ++ c).drop n).take m = b := by
  subst ha; subst hb
  rw [List.append_assoc, List.drop_left, List.take_left]

theorem cut_eq {l : List UInt8} {n m : Nat} (a b c : List UInt8) (h : l = a ++ b ++ c) (ha : a.length = n) (hb : b.length = m) : (l.drop n).take m = b := by
  rw [h]; exact cut_at ha hb

theorem snum_of {x : Int} (h0 : 0 ≤ x) (h1 : x < 1099511627776) : snum (num (be x.toNat 8)) = x := by
  rw [bnum_be_lt (by omega)]
  unfold snum
  rw [if_neg (by omega)]
  omega

theorem supOf_body (s : Sup) (hk : s.key < 18446744073709551616) (h : s.check = 0) : supOf s.body = s := by
  obtain ⟨⟨e0, e1⟩, ⟨s0, s1⟩, ⟨n0, n1⟩, z0, z1, t0, t1⟩ := check_le s h
  obtain ⟨key, epoch, serial, size, tail, number⟩ := s
  unfold Sup.body supOf
  dsimp only at *
  have a1 : (([76, 83, 85, 80] ++ be key 8 ++ be epoch.toNat 4 ++ be size.toNat 4 ++ be serial.toNat 8 ++ be tail.toNat 8 ++ be number.toNat 8 ++ List.replicate 8 0 ++ be serial.toNat 8).drop 4).take 8 = be key 8 := by
    exact cut_eq ([76, 83, 85, 80]) (be key 8) (be epoch.toNat 4 ++ be size.toNat 4 ++ be serial.toNat 8 ++ be tail.toNat 8 ++ be number.toNat 8 ++ List.replicate 8 0 ++ be serial.toNat 8) (by simp only [List.append_assoc]) rfl (be_length _ _)
  have a2 : (([76, 83, 85, 80] ++ be key 8 ++ be epoch.toNat 4 ++ be size.toNat 4 ++ be serial.toNat 8 ++ be tail.toNat 8 ++ be number.toNat 8 ++ List.replicate 8 0 ++ be serial.toNat 8).drop 12).take 4 = be epoch.toNat 4 := by
    exact cut_eq ([76, 83, 85, 80] ++ be key 8) (be epoch.toNat 4) (be size.toNat 4 ++ be serial.toNat 8 ++ be tail.toNat 8 ++ be number.toNat 8 ++ List.replicate 8 0 ++ be serial.toNat 8) (by simp only [List.append_assoc]) (by simp [be_length]) (be_length _ _)
  have a3 : (([76, 83, 85, 80] ++ be key 8 ++ be epoch.toNat 4 ++ be size.toNat 4 ++ be serial.toNat 8 ++ be tail.toNat 8 ++ be number.toNat 8 ++ List.replicate 8 0 ++ be serial.toNat 8).drop 16).take 4 = be size.toNat 4 := by
    exact cut_eq ([76, 83, 85, 80] ++ be key 8 ++ be epoch.toNat 4) (be size.toNat 4) (be serial.toNat 8 ++ be tail.toNat 8 ++ be number.toNat 8 ++ List.replicate 8 0 ++ be serial.toNat 8) (by simp only [List.append_assoc]) (by simp [be_length]) (be_length _ _)
  have a4 : (([76, 83, 85, 80] ++ be key 8 ++ be epoch.toNat 4 ++ be size.toNat 4 ++ be serial.toNat 8 ++ be tail.toNat 8 ++ be number.toNat 8 ++ List.replicate 8 0 ++ be serial.toNat 8).drop 20).take 8 = be serial.toNat 8 := by
    exact cut_eq ([76, 83, 85, 80] ++ be key 8 ++ be epoch.toNat 4 ++ be size.toNat 4) (be serial.toNat 8) (be tail.toNat 8 ++ be number.toNat 8 ++ List.replicate 8 0 ++ be serial.toNat 8) (by simp only [List.append_assoc]) (by simp [be_length]) (be_length _ _)
  have a5 : (([76, 83, 85, 80] ++ be key 8 ++ be epoch.toNat 4 ++ be size.toNat 4 ++ be serial.toNat 8 ++ be tail.toNat 8 ++ be number.toNat 8 ++ List.replicate 8 0 ++ be serial.toNat 8).drop 28).take 8 = be tail.toNat 8 := by
    exact cut_eq ([76, 83, 85, 80] ++ be key 8 ++ be epoch.toNat 4 ++ be size.toNat 4 ++ be serial.toNat 8) (be tail.toNat 8) (be number.toNat 8 ++ List.replicate 8 0 ++ be serial.toNat 8) (by simp only [List.append_assoc]) (by simp [be_length]) (be_length _ _)
  have a6 : (([76, 83, 85, 80] ++ be key 8 ++ be epoch.toNat 4 ++ be size.toNat 4 ++ be serial.toNat 8 ++ be tail.toNat 8 ++ be number.toNat 8 ++ List.replicate 8 0 ++ be serial.toNat 8).drop 36).take 8 = be number.toNat 8 := by
    exact cut_eq ([76, 83, 85, 80] ++ be key 8 ++ be epoch.toNat 4 ++ be size.toNat 4 ++ be serial.toNat 8 ++ be tail.toNat 8) (be number.toNat 8) (List.replicate 8 0 ++ be serial.toNat 8) (by simp only [List.append_assoc]) (by simp [be_length]) (be_length _ _)
  rw [a1, a2, a3, a4, a5, a6, bnum_be_lt (by omega), bnum_be_lt (by omega), bnum_be_lt (x := size.toNat) (by omega), snum_of s0 s1, snum_of t0 t1, snum_of n0 n1]
  congr 1 <;> omega

theorem decode_sector (s : Sup) (hk : s.key < 18446744073709551616) (h : s.check = 0) : supDecode s.sector = (s, 0) := by
  unfold supDecode
  rw [if_neg (by simp [sector_length])]
  have ho : crcOpen s.sector = (s.body, 0) := crcOpen_seal _
  rw [ho, if_neg (by simp)]
  dsimp only
  rw [supOf_body s hk h, if_pos (by unfold Sup.fits; simp [h])]

/-- What is decoded is encoded as the same sector. -/
theorem decode_ok {t : List UInt8} (h : (supDecode t).2 = 0) : (supDecode t).1.check = 0 ∧ (supDecode t).1.sector = t := by
  unfold supDecode at h ⊢
  by_cases h1 : t.length ≠ 64
  · rw [if_pos h1] at h; simp at h
  · rw [if_neg h1] at h ⊢
    by_cases h2 : (crcOpen t).2 ≠ 0
    · rw [if_pos h2] at h; exact absurd h h2
    · rw [if_neg h2] at h ⊢
      cases h3 : (supOf (crcOpen t).1).fits t
      · rw [h3] at h; simp at h
      · simp only [if_true]
        unfold Sup.fits at h3
        simpa using h3

/-- One byte is turned: it is no sector. -/
theorem turned_body (l m : List UInt8) {c d : UInt8} (hcd : c ≠ d) (s : Sup) (h : s.body = l ++ c :: m) : supDecode (l ++ d :: m ++ four (crcMore 0 s.body)) = (.nil, 13) := by
  have hl : (l ++ d :: m).length = 60 := by rw [← body_length s, h]; simp
  unfold supDecode
  rw [if_neg (by rw [List.length_append, hl, four_length]; simp)]
  have ho : crcOpen (l ++ d :: m ++ four (crcMore 0 s.body)) = ([], 13) := by
    unfold crcOpen
    rw [List.length_append, hl, four_length, if_neg (by omega), show 60 + 4 - 4 = 60 by rfl, List.take_left' hl, if_neg]
    intro he
    have h1 := four_inj (crcMore_lt _ _) (crcMore_lt _ _) (List.append_cancel_left he)
    rw [h] at h1
    exact crcMore_turned (by omega) l m hcd h1.symm
  rw [ho, if_pos (by simp)]

theorem turned_sum (f : List UInt8) (hf : f.length = 4) (s : Sup) (h : f ≠ four (crcMore 0 s.body)) : supDecode (s.body ++ f) = (.nil, 13) := by
  unfold supDecode
  rw [if_neg (by rw [List.length_append, body_length, hf]; simp)]
  have ho : crcOpen (s.body ++ f) = ([], 13) := by
    unfold crcOpen
    rw [List.length_append, body_length, hf, if_neg (by omega), show 60 + 4 - 4 = 60 by rfl, List.take_left' (body_length s), if_neg]
    intro he
    exact h (List.append_cancel_left he).symm
  rw [ho, if_pos (by simp)]

/-- Of which one byte is turned. -/
theorem turned (s : Sup) (k : Nat) (c d : UInt8) (hc : s.sector[k]? = some c) (hcd : c ≠ d) : supDecode (s.sector.set k d) = (.nil, 13) := by
  have hk : k < 64 := by rw [← sector_length s]; exact (List.getElem?_eq_some_iff.1 hc).1
  unfold Sup.sector at hc ⊢
  by_cases h : k < 60
  · rw [List.getElem?_append_left (by rw [body_length]; exact h)] at hc
    rw [List.set_append_left _ _ (by rw [body_length]; exact h)]
    obtain ⟨h1, h2⟩ := List.getElem?_eq_some_iff.1 hc
    have e1 : s.body = s.body.take k ++ c :: s.body.drop (k + 1) := by
      rw [← h2, ← List.drop_eq_getElem_cons h1, List.take_append_drop]
    have e2 : s.body.set k d = s.body.take k ++ d :: s.body.drop (k + 1) := by
      rw [List.set_eq_take_append_cons_drop, if_pos h1]
    rw [e2]
    exact turned_body _ _ hcd s e1
  · rw [List.getElem?_append_right (by rw [body_length]; omega), body_length] at hc
    rw [List.set_append_right _ _ (by rw [body_length]; omega), body_length]
    refine turned_sum _ (by rw [List.length_set, four_length]) s (fun he => ?_)
    have : ((four (crcMore 0 s.body)).set (k - 60) d)[k - 60]? = some c := by rw [he]; exact hc
    rw [List.getElem?_set_self (by rw [four_length]; omega)] at this
    exact hcd (by simpa using this.symm)

/-- The two serials of a sector. -/
theorem serial_in (s : Sup) : (s.sector.drop 20).take 8 = be s.serial.toNat 8 ∧ (s.sector.drop 52).take 8 = be s.serial.toNat 8 := by
  unfold Sup.sector
  generalize hF : four (crcMore 0 s.body) = F
  clear hF
  unfold Sup.body
  constructor
  · exact cut_eq ([76, 83, 85, 80] ++ be s.key 8 ++ be s.epoch.toNat 4 ++ be s.size.toNat 4) (be s.serial.toNat 8) (be s.tail.toNat 8 ++ be s.number.toNat 8 ++ List.replicate 8 0 ++ be s.serial.toNat 8 ++ F) (by simp only [List.append_assoc]) (by simp [be_length]) (be_length _ _)
  · exact cut_eq ([76, 83, 85, 80] ++ be s.key 8 ++ be s.epoch.toNat 4 ++ be s.size.toNat 4 ++ be s.serial.toNat 8 ++ be s.tail.toNat 8 ++ be s.number.toNat 8 ++ List.replicate 8 0) (be s.serial.toNat 8) F (by simp only [List.append_assoc]) (by simp [be_length]) (be_length _ _)

theorem be_inj {x y n : Nat} (hx : x < 256 ^ n) (hy : y < 256 ^ n) (h : be x n = be y n) : x = y := by
  rw [← bnum_be_lt hx, ← bnum_be_lt hy, h]

/-- A sector whose halves bear two serials is none. -/
theorem torn {t : List UInt8} (h : (t.drop 20).take 8 ≠ (t.drop 52).take 8) : (supDecode t).2 ≠ 0 := by
  intro h0
  have h1 := (decode_ok h0).2
  rw [← h1] at h
  exact h ((serial_in _).1.trans (serial_in _).2.symm)

/-- Which one of two is picked. -/
def supPick (a b : List UInt8) : Sup × Int × Int :=
  let x := supDecode a
  let y := supDecode b
  let first := decide (x.2 = 0 ∧ x.1.serial % 2 = 0)
  let second := decide (y.2 = 0 ∧ y.1.serial % 2 = 1)
  if first && (!second || decide (y.1.serial < x.1.serial)) then (x.1, 0, 0) else if second then (y.1, 1, 0) else (.nil, 0, 15)
end Go.Proofs.Ytcbpkplmaglpcaa
