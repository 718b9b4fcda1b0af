/- Layer 6: plain, Volume, letter, Prefix: the program's, and the answer's. -/
import Derived.Test.YtdjhlnkkbpmfmaaDoorNamP
import Derived.Test.YtdjhlnkkbpmfmaaDoorRow
import Derived.Test.YtdjhlnkkbpmfmaaDoorShelf
import Derived.Laws.RangeAny
import Derived.Lib.OthersKept
namespace Go.Proofs.YtdjhlnkkbpmfmaaDoor
open Go.RowKit

def plainR (r : Int) : Bool := (decide (97 ≤ r) && decide (r ≤ 122)) || (decide (48 ≤ r) && decide (r ≤ 57)) || decide (r = 45)
theorem plainB_R (b : UInt8) : plainB b = plainR (b.toNat : Int) := by
  unfold plainB plainR
  rw [Bool.eq_iff_iff]
  simp only [Bool.or_eq_true, Bool.and_eq_true, decide_eq_true_eq]
  omega
theorem plainR_high {r : Int} (h : 128 ≤ r) : plainR r = false := by
  unfold plainR
  rw [Bool.eq_false_iff]
  simp only [ne_eq, Bool.or_eq_true, Bool.and_eq_true, decide_eq_true_eq]
  omega

set_option maxRecDepth 100000 in
theorem plain_any (r : Int) (w : World) : Calls Tryd.prog 27 #[.int .i32 r] w fun e w' => e = .returned (.bool (plainR r)) ∧ w' = w := by
  by_cases h1 : 97 ≤ r <;> by_cases h2 : r ≤ 122 <;> by_cases h3 : 48 ≤ r <;> by_cases h4 : r ≤ 57 <;> cases b5 : (r == 45) <;> cases hp : plainR r
  all_goals have h5 := b5
  all_goals first | rw [beq_iff_eq] at h5 | rw [beq_eq_false_iff_ne] at h5
  all_goals first
    | (exfalso; omega)
    | (exfalso; simp [plainR, h1, h2, h3, h4, h5] at hp; done)
    | (clear hp; go_enter Tryd.func27, Tryd.ntmps27; go_wp2; go_ret; exact ⟨rfl, rfl⟩)

theorem letter_any (k : Int) (w : World) : Calls Tryd.prog 26 #[.int .i64 k] w fun e w' => e = .returned (.string (str [letterOf k])) ∧ w' = w := by
  by_cases h1 : k = 1
  · subst h1
    go_enter Tryd.func26, Tryd.ntmps26
    go_wp2
    go_ret
    exact ⟨rfl, rfl⟩
  by_cases h2 : k = 2
  · subst h2
    go_enter Tryd.func26, Tryd.ntmps26
    go_wp2
    go_ret
    exact ⟨rfl, rfl⟩
  by_cases h3 : k = 3
  · subst h3
    go_enter Tryd.func26, Tryd.ntmps26
    go_wp2
    go_ret
    exact ⟨rfl, rfl⟩
  have hl : letterOf k = 101 := by unfold letterOf; rw [if_neg h1, if_neg h2, if_neg h3]
  rw [hl]
  have b1 : (k == 1) = false := by rw [beq_eq_false_iff_ne]; exact h1
  have b2 : (k == 2) = false := by rw [beq_eq_false_iff_ne]; exact h2
  have b3 : (k == 3) = false := by rw [beq_eq_false_iff_ne]; exact h3
  go_enter Tryd.func26, Tryd.ntmps26
  go_wp2
  go_ret
  exact ⟨rfl, rfl⟩

theorem str_beq (a b : List UInt8) : (str a == str b) = (a == b) := by
  show ((str a).data == (str b).data) = (a == b)
  rw [Bool.eq_iff_iff, beq_iff_eq, beq_iff_eq]
  unfold str
  simp
theorem str_nil_beq (s : List UInt8) (h : s ≠ []) : (str s == ByteArray.mk #[]) = false := by
  have e : ByteArray.mk #[] = str [] := rfl
  rw [e, str_beq, beq_eq_false_iff_ne]
  exact h

theorem volOk_long {s : List UInt8} (h : 32 < s.length) : volOk s = false := by
  unfold volOk
  rw [show (decide (1 ≤ s.length ∧ s.length ≤ 32)) = false from decide_eq_false (by omega)]
  rfl
theorem volOk_nil : volOk [] = false := rfl
theorem volOk_bad {s : List UInt8} {k : Nat} (hk : k < s.length) (h : plainB s[k] = false) : volOk s = false := by
  unfold volOk
  rw [show s.all plainB = false from by rw [List.all_eq_false]; exact ⟨s[k], List.getElem_mem hk, by rw [h]; decide⟩, Bool.and_false]
theorem volOk_all {s : List UInt8} (h1 : 1 ≤ s.length) (h2 : s.length ≤ 32) (h : ∀ k (hk : k < s.length), plainB s[k] = true) : volOk s = true := by
  unfold volOk
  rw [decide_eq_true ⟨h1, h2⟩, Bool.true_and, List.all_eq_true]
  intro b hb
  obtain ⟨k, hk, rfl⟩ := List.getElem_of_mem hb
  exact h k hk

set_option maxHeartbeats 2000000 in
set_option maxRecDepth 100000 in
theorem nvolume_any (s : List UInt8) (w : World) (hs : s.length ≤ 140737488351232) : Calls Tryd.prog 15 #[.string (str s)] w fun e w' => e = .returned (.int .i64 (if volOk s = true then 0 else 1)) ∧ Keeps [] w w' := by
  by_cases h0 : s = []
  · subst h0
    go_enter Tryd.func15, Tryd.ntmps15
    go_wp2
    go_ret
    exact ⟨rfl, Keeps.refl [] w⟩
  have hb : s.isEmpty = false := by cases s with | nil => exact absurd rfl h0 | cons => rfl
  have h1 : 1 ≤ s.length := List.length_pos_iff.2 h0
  by_cases h32 : 32 < s.length
  · rw [volOk_long h32]
    have hi : (32 : Int) < (s.length : Int) := by omega
    clear h0
    go_enter Tryd.func15, Tryd.ntmps15
    go_wp2
    go_ret
    exact ⟨rfl, Keeps.refl [] w⟩
  have hi : ¬ (32 : Int) < (s.length : Int) := by omega
  have hle : s.length ≤ 32 := by omega
  clear h0 h32
  obtain ⟨v, hv⟩ : ∃ v : Int, (if volOk s = true then (0 : Int) else 1) = v := ⟨_, rfl⟩
  rw [hv]
  have Hv := Lib.hid hv
  clear hv
  go_enter Tryd.func15, Tryd.ntmps15
  go_wp2
  go_loopw [] (fun wr => ∃ pos : Nat, wr.heap[w.heap.size]? = some (.stringIter (str s) pos) ∧ Keeps [] w wr ∧ Hid (∀ k (hk : k < s.length), k < pos → plainB s[k] = true)) (fun wr => s.length - wr.iterPos w.heap.size)
  case atStart =>
    refine ⟨0, ?_, ?_, fun k hk h => by omega⟩
    · have := World.iter_heap w (str s) 0
      simpa using this
    · exact (Keeps.refl [] w).alloc _
  case round =>
    obtain ⟨pos, hit, hk, hall⟩ := hrel
    by_cases hp : pos < (str s).size
    · have hps : pos < s.length := by rw [str_size] at hp; exact hp
      have hsp : (str s)[pos]'hp = s[pos]'hps := rfl
      by_cases ha : ((str s)[pos]'hp).toNat < 128
      · have hnx : ∀ ty, (Instr.next (.pointer (some ⟨w.heap.size, 0, none⟩)) true ty).run Tryd.prog wr = _ := fun ty => Lib.run_next_ascii_at wr w.heap.size (str s) pos ty hit hp ha
        have hit2 := Lib.iterAt_heap wr w.heap.size (str s) pos (pos + 1) hit
        have hkk := Keeps.of_below (Lib.below_iterAt hk.below (k := w.heap.size) (Nat.le_refl _) (str s) (pos + 1))
        have hmeas : (wr.iterAt w.heap.size (str s) (pos + 1)).iterPos w.heap.size = pos + 1 := by simp [World.iterPos, hit2]
        have hmeas0 : wr.iterPos w.heap.size = pos := by simp [World.iterPos, hit]
        have hB := plainB_R (s[pos]'hps)
        rw [← hsp] at hB
        have Hit2 := Lib.hid hit2
        have Hkk := Lib.hid hkk
        have Hm := Lib.hid hmeas
        have Hm0 := Lib.hid hmeas0
        have HB := Lib.hid hB
        have Hsp := Lib.hid hsp
        clear hit2 hkk hmeas hmeas0 hit hk hB hsp
        by_cases hpl : plainR (((str s)[pos]'hp).toNat : Int) = true
        · have Hpl := Lib.hid hpl
          go_wp2_with (go_at_call 27; (with_reducible refine (plain_any _ _).mono ?_); rintro e w1 ⟨rfl, rfl⟩)
          go_roundw
          case rel =>
            refine ⟨pos + 1, Hit2.out, Hkk.out, fun k hk hkp => ?_⟩
            by_cases hkp2 : k < pos
            · exact hall.out k hk hkp2
            · obtain rfl : k = pos := by omega
              rw [← Hsp.out, HB.out, Hpl.out]
          case measure =>
            rw [Hm.out, Hm0.out]
            omega
        · have hpl : plainR (((str s)[pos]'hp).toNat : Int) = false := by simpa using hpl
          have hvo : v = 1 := by
            rw [← Hv.out, volOk_bad hps (by rw [← Hsp.out, HB.out, hpl])]
            rfl
          subst hvo
          go_wp2_with (go_at_call 27; (with_reducible refine (plain_any _ _).mono ?_); rintro e w1 ⟨rfl, rfl⟩)
          go_ret
          exact ⟨rfl, Hkk.out⟩
      · have hnx : ∀ ty, (Instr.next (.pointer (some ⟨w.heap.size, 0, none⟩)) true ty).run Tryd.prog wr = _ := fun ty => Lib.run_next_any_at wr w.heap.size (str s) pos ty hit hp
        have hkk := Keeps.of_below (Lib.below_iterAt hk.below (k := w.heap.size) (Nat.le_refl _) (str s) (pos + (Utf8.decode (str s) pos).2))
        have hhi := (decode_high (str s) pos hp (by omega)).1
        have hle2 := decode_le (str s) pos
        have hpl : plainR ((Utf8.decode (str s) pos).1 : Int) = false := plainR_high (by omega)
        have hvo : v = 1 := by
          rw [← Hv.out, volOk_bad hps (by rw [plainB_R, ← hsp]; exact plainR_high (by omega))]
          rfl
        subst hvo
        have Hkk := Lib.hid hkk
        clear hkk hit hk hsp
        go_wp2_with (go_at_call 27; (with_reducible refine (plain_any _ _).mono ?_); rintro e w1 ⟨rfl, rfl⟩)
        go_ret
        exact ⟨rfl, Hkk.out⟩
    · have hnx : ∀ ty, (Instr.next (.pointer (some ⟨w.heap.size, 0, none⟩)) true ty).run Tryd.prog wr = _ := fun ty => Lib.run_next_end_at wr w.heap.size (str s) pos ty hit hp
      have hvo : v = 0 := by
        rw [str_size] at hp
        rw [← Hv.out, volOk_all h1 hle (fun k hk => hall.out k hk (by omega))]
        rfl
      subst hvo
      have Hk := Lib.hid hk
      clear hit hk
      go_wp2
      go_ret
      exact ⟨rfl, Hk.out⟩
end Go.Proofs.YtdjhlnkkbpmfmaaDoor
