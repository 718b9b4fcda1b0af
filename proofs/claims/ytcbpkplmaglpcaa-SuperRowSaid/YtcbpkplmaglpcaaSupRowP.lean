/- Layer 11, plain: a row of Nexts. -/
import Derived.Test.YtcbpkplmaglpcaaSupTornP
namespace Go.Proofs.Ytcbpkplmaglpcaa

/-- What stands in the two slots behind s: s itself, and none or an elder one. -/
def weak (X : List UInt8) (s : Sup) : Prop := (supDecode X).2 ≠ 0 ∨ (supDecode X).1.serial < s.serial
structure SlotsOk (s : Sup) (A B : List UInt8) : Prop where
  even : s.serial % 2 = 0 → A = s.sector ∧ weak B s
  odd : s.serial % 2 = 1 → B = s.sector ∧ weak A s
  la : A.length ≤ 64
  lb : B.length ≤ 64

theorem weak_nil (s : Sup) : weak [] s := .inl (by decide)
theorem weak_old {s n : Sup} (hk : s.key < 18446744073709551616) (hc : s.check = 0) (hn : n.serial = s.serial + 1) : weak s.sector n := by
  right
  rw [decode_sector s hk hc]
  show s.serial < n.serial
  omega

theorem slots_even {s n : Sup} {A B : List UInt8} (h : SlotsOk s A B) (hk : s.key < 18446744073709551616) (hkn : n.key < 18446744073709551616) (hc : s.check = 0) (hcn : n.check = 0) (hn : n.serial = s.serial + 1) (hp : s.serial % 2 = 0) :
    SlotsOk n A n.sector ∧ pickAt A n.sector 2 = (n, 1, 0) := by
  obtain ⟨rfl, _⟩ := h.even hp
  exact ⟨⟨fun h2 => by omega, fun _ => ⟨rfl, weak_old hk hc hn⟩, h.la, by rw [sector_length]; omega⟩, (pick_next (decode_sector s hk hc) (decode_sector n hkn hcn) hn).1 hp⟩
theorem slots_odd {s n : Sup} {A B : List UInt8} (h : SlotsOk s A B) (hk : s.key < 18446744073709551616) (hkn : n.key < 18446744073709551616) (hc : s.check = 0) (hcn : n.check = 0) (hn : n.serial = s.serial + 1) (hp : s.serial % 2 = 1) :
    SlotsOk n n.sector B ∧ pickAt n.sector B 2 = (n, 0, 0) := by
  obtain ⟨rfl, _⟩ := h.odd hp
  exact ⟨⟨fun _ => ⟨rfl, weak_old hk hc hn⟩, fun h2 => by omega, by rw [sector_length]; omega, h.lb⟩, (pick_next (decode_sector s hk hc) (decode_sector n hkn hcn) hn).2 hp⟩

/-- Why there is no Next. -/
theorem next_why {s : Sup} (hc : s.check = 0) {t n : Int} (ht : s.tail ≤ t) (hn : s.number ≤ n) (h : (s.next t n).2 ≠ 0) : 1099511627775 ≤ s.serial ∨ 1099511627776 ≤ t ∨ 1099511627776 ≤ n := by
  obtain ⟨a, b, c, d1, d2, d3, d4⟩ := check_le s hc
  unfold Sup.next at h
  rw [if_neg (by simp [hc]), if_neg (by omega)] at h
  by_cases h1 : 1099511627775 ≤ s.serial
  · exact .inl h1
  · by_cases h2 : 1099511627776 ≤ t
    · exact .inr (.inl h2)
    · by_cases h3 : 1099511627776 ≤ n
      · exact .inr (.inr h3)
      · exfalso
        have : (s.behind t n).check = 0 := by
          unfold Sup.check
          rw [if_pos (show (s.behind t n).inRange from ⟨a, ⟨by show 0 ≤ s.serial + 1; omega, by show s.serial + 1 < _; omega⟩, by show 0 ≤ n; omega, by show n < _; omega⟩), if_pos (show (s.behind t n).inRing from ⟨d1, d2, by show 0 ≤ t; omega, by show t < _; omega⟩)]
        rw [if_neg (by simp [this])] at h
        exact h rfl
theorem next_ok {s : Sup} {t n : Int} (hc : s.check = 0) (h : (s.next t n).2 = 0) : s.next t n = (s.behind t n, 0) ∧ (s.behind t n).check = 0 := by
  unfold Sup.next at h ⊢
  rw [if_neg (by simp [hc])] at h ⊢
  by_cases h1 : t < s.tail ∨ n < s.number
  · rw [if_pos h1] at h; simp at h
  · rw [if_neg h1] at h ⊢
    by_cases h2 : (s.behind t n).check ≠ 0
    · rw [if_pos h2] at h; exact absurd h h2
    · rw [if_neg h2]; exact ⟨rfl, Classical.not_not.1 h2⟩
theorem slots_next {s n : Sup} {A B : List UInt8} (h : SlotsOk s A B) (hk : s.key < 18446744073709551616) (hkn : n.key < 18446744073709551616) (hc : s.check = 0) (hcn : n.check = 0) (hn : n.serial = s.serial + 1) {q : Nat} (hq : n.serial % 2 = (q : Int)) :
    SlotsOk n (if q = 0 then n.sector else A) (if q = 0 then B else n.sector) ∧ pickAt (if q = 0 then n.sector else A) (if q = 0 then B else n.sector) 2 = (n, (q : Int), 0) := by
  rcases (show q = 0 ∨ q = 1 by omega) with rfl | rfl
  · exact slots_odd h hk hkn hc hcn hn (by omega)
  · exact slots_even h hk hkn hc hcn hn (by omega)
theorem slots_first {s : Sup} {q : Nat} (hq : s.serial % 2 = (q : Int)) : SlotsOk s (if q = 0 then s.sector else []) (if q = 0 then [] else s.sector) := by
  rcases (show q = 0 ∨ q = 1 by omega) with rfl | rfl
  · exact ⟨fun _ => ⟨rfl, weak_nil s⟩, fun h => by omega, by simp [sector_length], by simp⟩
  · exact ⟨fun h => by omega, fun _ => ⟨rfl, weak_nil s⟩, by simp, by simp [sector_length]⟩
end Go.Proofs.Ytcbpkplmaglpcaa
