/- Layer 11, plain: what is picked behind a Next, whatever became of its sector. -/
import Derived.Test.YtcbpkplmaglpcaaSupU
namespace Go.Proofs.Ytcbpkplmaglpcaa

/-- What stands in the other slot is none, or an elder one: s is picked. -/
theorem pick_keep {old was : List UInt8} {s : Sup} (ho : supDecode old = (s, 0)) (hw : (supDecode was).2 ≠ 0 ∨ (supDecode was).1.serial < s.serial) :
    (s.serial % 2 = 0 → pickAt old was 2 = (s, 0, 0)) ∧ (s.serial % 2 = 1 → pickAt was old 2 = (s, 1, 0)) := by
  constructor
  · intro h
    show pickOne 1 (supDecode was) (pickOne 0 (supDecode old) (.nil, 0, 15)) = _
    rw [ho]
    generalize supDecode was = B at *
    obtain ⟨b, e⟩ := B
    dsimp only at *
    have h1 : pickOne 0 (s, 0) (Sup.nil, 0, 15) = (s, 0, 0) := by unfold pickOne pickNo; simp [h]
    rw [h1]
    unfold pickOne pickNo
    by_cases he : e = 0
    · have hl : b.serial < s.serial := hw.resolve_left (fun h => h he)
      simp [he, hl]
    · simp [he]
  · intro h
    show pickOne 1 (supDecode old) (pickOne 0 (supDecode was) (.nil, 0, 15)) = _
    rw [ho]
    generalize supDecode was = B at *
    obtain ⟨b, e⟩ := B
    dsimp only at *
    by_cases hn : pickNo 0 (b, e) (Sup.nil, 0, 15) = true
    · have h1 : pickOne 0 (b, e) (Sup.nil, 0, 15) = (Sup.nil, 0, 15) := by unfold pickOne; rw [if_pos hn]
      rw [h1]
      unfold pickOne pickNo
      simp [h]
    · have h1 : pickOne 0 (b, e) (Sup.nil, 0, 15) = (b, 0, 0) := by unfold pickOne; rw [if_neg hn]
      rw [h1]
      unfold pickNo at hn
      simp only [decide_eq_true_eq, not_or, ne_eq, Classical.not_not] at hn
      have hl : b.serial < s.serial := hw.resolve_left (fun h => h hn.1)
      unfold pickOne pickNo
      have : ¬ s.serial < b.serial := by omega
      simp [h, this]

/-- The Next stands whole in the other slot: it is picked. -/
theorem pick_next {old fresh : List UInt8} {s n : Sup} (ho : supDecode old = (s, 0)) (hf : supDecode fresh = (n, 0)) (hn : n.serial = s.serial + 1) :
    (s.serial % 2 = 0 → pickAt old fresh 2 = (n, 1, 0)) ∧ (s.serial % 2 = 1 → pickAt fresh old 2 = (n, 0, 0)) := by
  constructor
  · intro h
    show pickOne 1 (supDecode fresh) (pickOne 0 (supDecode old) (.nil, 0, 15)) = _
    rw [ho, hf]
    have h1 : pickOne 0 (s, 0) (Sup.nil, 0, 15) = (s, 0, 0) := by unfold pickOne pickNo; simp [h]
    rw [h1]
    unfold pickOne pickNo
    have h2 : n.serial % 2 = 1 := by omega
    have h3 : ¬ n.serial < s.serial := by omega
    simp [h2, h3]
  · intro h
    show pickOne 1 (supDecode old) (pickOne 0 (supDecode fresh) (.nil, 0, 15)) = _
    rw [ho, hf]
    have h2 : n.serial % 2 = 0 := by omega
    have h1 : pickOne 0 (n, 0) (Sup.nil, 0, 15) = (n, 0, 0) := by unfold pickOne pickNo; simp [h2]
    rw [h1]
    unfold pickOne pickNo
    have h3 : s.serial < n.serial := by omega
    simp [h3]

theorem torn_none {fresh was : List UInt8} (hf : fresh.length = 64) (h : (fresh.drop 20).take 8 ≠ (was.drop 52).take 8) : (supDecode (fresh.take 32 ++ was.drop 32)).2 ≠ 0 := by
  refine torn ?_
  have e1 : ((fresh.take 32 ++ was.drop 32).drop 20).take 8 = (fresh.drop 20).take 8 := by
    rw [List.drop_append_of_le_length (by rw [List.length_take]; omega), List.take_append_of_le_length (by rw [List.length_drop, List.length_take]; omega), List.drop_take, List.take_take]
    congr 1
  have e2 : ((fresh.take 32 ++ was.drop 32).drop 52).take 8 = (was.drop 52).take 8 := by
    have h32 : (fresh.take 32).length = 32 := by rw [List.length_take]; omega
    rw [List.drop_append, h32, List.drop_of_length_le (by rw [h32]; omega), List.nil_append, List.drop_drop]
  rw [e1, e2]
  exact h

/-- The one ahead. -/
def Sup.ahead (s : Sup) : Sup := ⟨s.key, s.epoch, s.serial - 1, s.size, s.tail, s.number⟩
theorem ahead_check {s : Sup} (h : s.check = 0) (h0 : 0 < s.serial) : s.ahead.check = 0 := by
  obtain ⟨a, b, c, d1, d2, d3, d4⟩ := check_le s h
  unfold Sup.check
  rw [if_pos (show s.ahead.inRange from ⟨a, ⟨by show 0 ≤ s.serial - 1; omega, by show s.serial - 1 < _; omega⟩, c⟩), if_pos (show s.ahead.inRing from ⟨d1, d2, d3, d4⟩)]

theorem serial_ne {a b : Sup} (ha : a.check = 0) (hb : b.check = 0) (h : a.serial ≠ b.serial) : (a.sector.drop 20).take 8 ≠ (b.sector.drop 52).take 8 := by
  rw [(serial_in a).1, (serial_in b).2]
  intro he
  have h1 := (check_le a ha).2.1
  have h2 := (check_le b hb).2.1
  have := be_inj (n := 8) (by show _ < 18446744073709551616; omega) (by show _ < 18446744073709551616; omega) he
  omega
theorem serial_ne0 {a : Sup} (ha : a.check = 0) (h : a.serial ≠ 0) : (a.sector.drop 20).take 8 ≠ ((List.replicate 64 (0 : UInt8)).drop 52).take 8 := by
  rw [(serial_in a).1]
  intro he
  have h1 := (check_le a ha).2.1
  have e0 : ((List.replicate 64 (0 : UInt8)).drop 52).take 8 = be 0 8 := by decide
  rw [e0] at he
  have := be_inj (n := 8) (by show _ < 18446744073709551616; omega) (by omega) he
  omega

/-- What stands in the other slot, by what became of the Next's sector. -/
def tornW (n : Sup) (was : List UInt8) (how : Int) : List UInt8 := if how = 1 then n.sector else if how = 2 then n.sector.take 32 ++ was.drop 32 else was
def tornX (s n : Sup) (how : Int) : Sup := if how = 1 then n else s

theorem torn_pick {s n : Sup} (hk : s.key < 18446744073709551616) (hkn : n.key < 18446744073709551616) (hc : s.check = 0) (hn : n.check = 0) (hs : n.serial = s.serial + 1) {was : List UInt8}
    (hw : (0 < s.serial ∧ was = s.ahead.sector) ∨ (s.serial = 0 ∧ was = List.replicate 64 0)) (how : Int) :
    (s.serial % 2 = 0 → pickAt s.sector (tornW n was how) 2 = (tornX s n how, (tornX s n how).serial % 2, 0)) ∧ (s.serial % 2 = 1 → pickAt (tornW n was how) s.sector 2 = (tornX s n how, (tornX s n how).serial % 2, 0)) := by
  have ho := decode_sector s hk hc
  have hf := decode_sector n hkn hn
  unfold tornW tornX
  by_cases h1 : how = 1
  · rw [if_pos h1, if_pos h1]
    obtain ⟨a, b⟩ := pick_next ho hf hs
    exact ⟨fun h => by rw [a h]; have h9 : n.serial % 2 = 1 := (by omega); rw [h9], fun h => by rw [b h]; have h9 : n.serial % 2 = 0 := (by omega); rw [h9]⟩
  · rw [if_neg h1, if_neg h1]
    have key : ∀ W, ((supDecode W).2 ≠ 0 ∨ (supDecode W).1.serial < s.serial) → (s.serial % 2 = 0 → pickAt s.sector W 2 = (s, s.serial % 2, 0)) ∧ (s.serial % 2 = 1 → pickAt W s.sector 2 = (s, s.serial % 2, 0)) := by
      intro W hW
      obtain ⟨a, b⟩ := pick_keep ho hW
      exact ⟨fun h => by rw [a h, h], fun h => by rw [b h, h]⟩
    refine key _ ?_
    by_cases h2 : how = 2
    · rw [if_pos h2]
      left
      refine torn_none (sector_length n) ?_
      rcases hw with ⟨h0, rfl⟩ | ⟨h0, rfl⟩
      · exact serial_ne hn (ahead_check hc h0) (by show n.serial ≠ s.serial - 1; omega)
      · exact serial_ne0 hn (by omega)
    · rw [if_neg h2]
      rcases hw with ⟨h0, rfl⟩ | ⟨h0, rfl⟩
      · right
        rw [decode_sector s.ahead hk (ahead_check hc h0)]
        show s.serial - 1 < s.serial
        omega
      · left
        have : supDecode (List.replicate 64 0) = (.nil, 13) := by
          have h : (crcOpen (List.replicate 64 0)).2 = 13 := by
            refine (open_sum (by simp)).2 ?_
            have e1 : (List.replicate 64 (0 : UInt8)).take 60 = List.replicate 60 0 := by simp
            have e2 : (List.replicate 64 (0 : UInt8)).drop 60 = List.replicate 4 0 := by simp
            rw [e1, e2]
            decide +kernel
          unfold supDecode
          rw [if_neg (by simp), h]
          rfl
        rw [this]
        simp
end Go.Proofs.Ytcbpkplmaglpcaa
