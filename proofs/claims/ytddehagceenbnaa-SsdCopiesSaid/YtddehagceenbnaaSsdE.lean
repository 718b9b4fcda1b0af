/- Layer 4, the device: Write. -/
import Derived.Test.YtddehagceenbnaaSsdD
import Derived.Lib.LazyBuf
namespace Go.Proofs.Ytddehagceenbnaa
open Go.RowKit

/-- copy(dst, s), s a string that is at least as long as dst. -/
theorem run_copy_long {P : Program} (w : World) (dT sT ty elem : TypeId) (b o dLen dCap : Nat) (t : ByteArray)
    (hu : P.underlying dT = some (.slice elem)) (hz : (P.info? elem).map (·.size) = some 1) (hle : dLen ≤ t.size)
    (ht : w.there b o dLen) :
    (Builtin.copy_ #[dT, sT] ty #[.slice (some ⟨b, o, none⟩) dLen dCap, .string t]).run P w = .ok (goInt dLen) (w.setCells b o ((t.data.toList.take dLen).map u8v)) := by
  have hmin : Nat.min t.size dLen = dLen := Nat.min_eq_right hle
  have hl : ((t.data.toList.take dLen).map u8v).length = dLen := by rw [List.length_map, List.length_take, dlen]; omega
  have hst := run_storeCells_cells (P := P) b o ((t.data.toList.take dLen).map u8v) 0 w (by rw [hl]; intro j hj; simpa using (ht j hj).1) (by rw [hl]; intro j hj; simpa using (ht j hj).2) (by
    intro v hv
    obtain ⟨x, _, rfl⟩ := List.mem_map.1 hv
    rfl)
  cases hq : P.info? elem with
  | none => simp [hq] at hz
  | some i =>
    have hi : i.size = 1 := by simpa [hq] using hz
    simp [Builtin.copy_, run_underlying hu, Builtin.lenOf, Builtin.firstCells, sizeOf, typeInfo, hq, hmin]
    rw [List.map_take, Nat.add_zero] at hst
    have e : (t.data.toList.map fun b => Value.int .u8 (b.toNat : Int)) = t.data.toList.map u8v := rfl
    rw [e, hst]
    rfl

/-- The sector k of bytes. -/
def chunk (l : List UInt8) (k : Nat) : List UInt8 := (l.drop (64 * k)).take 64
/-- One sector is written. -/
def Dev.put1 (d : Dev) (i : Nat) (s : List UInt8) : Dev := { d with now := d.now.set i s, pend := d.pend ++ [(i, s)] }
/-- The first k sectors of bytes are written from a place on. -/
def Dev.putN (d : Dev) (a : Nat) (l : List UInt8) : Nat → Dev
  | 0 => d
  | k + 1 => (d.putN a l k).put1 (a + k) (chunk l k)

theorem Dev.putN_len (d : Dev) (a : Nat) (l : List UInt8) : ∀ k, (d.putN a l k).now.length = d.now.length ∧ (d.putN a l k).last = d.last ∧ (d.putN a l k).pend.length = d.pend.length + k ∧ (d.putN a l k).lost = d.lost ∧ (d.putN a l k).stops = d.stops ∧ (d.putN a l k).left = d.left
  | 0 => ⟨rfl, rfl, rfl, rfl, rfl, rfl⟩
  | k + 1 => by
    obtain ⟨h1, h2, h3, h4, h5, h6⟩ := Dev.putN_len d a l k
    refine ⟨?_, h2, ?_, h4, h5, h6⟩
    · show ((d.putN a l k).now.set _ _).length = _
      rw [List.length_set, h1]
    · show ((d.putN a l k).pend ++ [_]).length = _
      rw [List.length_append, h3, List.length_singleton]; omega

theorem chunk_len {l : List UInt8} {k : Nat} (h : 64 * (k + 1) ≤ l.length) : (chunk l k).length = 64 := by
  unfold chunk; rw [List.length_take, List.length_drop]; omega

theorem Dev.ok.put1 {d : Dev} (h : d.ok) {i : Nat} {s : List UInt8} (hi : i < d.now.length) (hs : s.length = 64) : (d.put1 i s).ok := by
  refine ⟨by show (d.now.set _ _).length = _; rw [List.length_set]; exact h.same, h.pos, h.few, h.l64, ?_, ?_, h.stp, h.left0, h.left1⟩
  · intro x hx
    rcases List.mem_or_eq_of_mem_set hx with h1 | h1
    · exact h.n64 x h1
    · subst h1; exact hs
  · intro p hp
    rcases List.mem_append.1 hp with h1 | h1
    · exact h.p64 p h1
    · simp at h1; subst h1; exact ⟨by show i < d.last.length; rw [← h.same]; exact hi, hs⟩

theorem Dev.ok.putN {d : Dev} (h : d.ok) {a : Nat} {l : List UInt8} : ∀ k, a + k ≤ d.now.length → 64 * k ≤ l.length → (d.putN a l k).ok
  | 0, _, _ => h
  | k + 1, h1, h2 => (Dev.ok.putN h k (by omega) (by omega)).put1 (by rw [(d.putN_len a l k).1]; omega) (chunk_len h2)
end Go.Proofs.Ytddehagceenbnaa
