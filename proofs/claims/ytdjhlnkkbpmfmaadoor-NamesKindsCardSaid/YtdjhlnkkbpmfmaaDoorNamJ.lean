/- Layer 6: number, the program's and the answer's. -/
import Derived.Test.YtdjhlnkkbpmfmaaDoorNamI
import Derived.Laws.BitsAllLaws
namespace Go.Proofs.YtdjhlnkkbpmfmaaDoor
open Go.RowKit

def numGo : Nat → List UInt8 → Option Nat
  | a, [] => some a
  | a, c :: l => if hexval c.toNat < 0 then none else numGo (a * 16 + (hexval c.toNat).toNat) l
def numI (l : List UInt8) : Int := match numGo 0 l with | some n => (n : Int) | none => -1
theorem numGo_lt : ∀ (l : List UInt8) (a n : Nat), numGo a l = some n → n < (a + 1) * 16 ^ l.length
  | [], a, n, h => by
    obtain rfl : a = n := by simpa [numGo] using h
    simp
  | c :: l, a, n, h => by
    rw [numGo] at h
    split at h
    · simp at h
    · have h1 := numGo_lt l _ n h
      have h2 := hexval_lt c.toNat
      have h3 : (a * 16 + (hexval c.toNat).toNat + 1) * 16 ^ l.length ≤ ((a + 1) * 16) * 16 ^ l.length := Nat.mul_le_mul_right _ (by omega)
      rw [List.length_cons, Nat.pow_succ, Nat.mul_comm (16 ^ l.length) 16, ← Nat.mul_assoc]
      omega
theorem hexval_high {c : Nat} (h : 128 ≤ c) : hexval c < 0 := by unfold hexval; rw [if_neg (by omega), if_neg (by omega)]; decide
theorem ascii_index (c : UInt8) : Lib.indexByte hexL ((c.toNat : Int).toNat.toUInt8) = hexval c.toNat := by
  have h := hexval_at ⟨c.toNat, c.toNat_lt⟩
  have e : ((c.toNat : Int).toNat.toUInt8) = UInt8.ofNat c.toNat := by simp
  rw [e]
  exact h
theorem i64_or_nat (a b : Nat) (ha : a < 9223372036854775808) (hb : b < 9223372036854775808) : bits .or .i64 (a : Int) (b : Int) = ((a ||| b : Nat) : Int) := by
  have h1 : (BitVec.ofInt 64 (a : Int)).toNat = a := by rw [BitVec.toNat_ofInt]; omega
  have h2 : (BitVec.ofInt 64 (b : Int)).toNat = b := by rw [BitVec.toNat_ofInt]; omega
  have h3 : a ||| b < 2 ^ 63 := Nat.or_lt_two_pow ha hb
  show IntKind.i64.wrap ((BitVec.ofInt 64 (a : Int) ||| BitVec.ofInt 64 (b : Int)).toNat : Nat) = _
  rw [BitVec.toNat_or, h1, h2, IntKind.wrap_i64]
  omega
theorem shl_or (N d : Nat) (hN : N < 576460752303423488) (hd : d < 16) : bits BinOp.or IntKind.i64 ((N : Int) * 16) (d : Int) = ((N * 16 + d : Nat) : Int) := by
  have h := i64_or_nat (N * 16) d (by omega) (by omega)
  have e : N * 16 ||| d = N * 16 + d := by
    have := Nat.two_pow_add_eq_or_of_lt (i := 4) (b := d) (by omega) N
    rw [show N * 16 = 2 ^ 4 * N by omega]
    exact this.symm
  rw [e] at h
  rw [show (N : Int) * 16 = ((N * 16 : Nat) : Int) by omega]
  exact h

set_option maxHeartbeats 4000000 in
set_option maxRecDepth 100000 in
theorem nnumber_any (s : List UInt8) (w : World) (hs : s.length ≤ 10) : Calls Tryd.prog 29 #[.string (str s)] w fun e w' => e = .returned (.tuple #[.int .i64 ((numGo 0 s).getD 0 : Nat), .bool (numGo 0 s).isSome]) ∧ Keeps [] w w' := by
  obtain ⟨R, hR⟩ : ∃ R, numGo 0 s = R := ⟨_, rfl⟩
  rw [hR]
  have HR := Lib.hid hR
  clear hR
  have hhex : ByteArray.mk #[48, 49, 50, 51, 52, 53, 54, 55, 56, 57, 97, 98, 99, 100, 101, 102] = str hexL := rfl
  go_enter Tryd.func29, Tryd.ntmps29
  go_wp2_with fail
  go_loopw [4] (fun nv wr => ∃ pos N : Nat, pos ≤ s.length ∧ nv = .int .i64 N ∧ N < 16 ^ pos ∧ wr.heap[w.heap.size]? = some (.stringIter (str s) pos) ∧ Hid (numGo 0 s = numGo N (s.drop pos)) ∧ Keeps [] w wr) (fun _ wr => s.length - wr.iterPos w.heap.size)
  case atStart =>
    refine ⟨0, 0, Nat.zero_le _, rfl, by simp, ?_, rfl, (Keeps.refl [] w).alloc _⟩
    have := World.iter_heap w (str s) 0
    simpa using this
  case round =>
    obtain ⟨pos, N, hps0, rfl, hN, hit, hgo, hk⟩ := hrel
    by_cases hp : pos < (str s).size
    · have hps : pos < s.length := by rw [str_size] at hp; exact hp
      have hsp : (str s)[pos]'hp = s[pos]'hps := rfl
      have hdr : s.drop pos = ((str s)[pos]'hp) :: s.drop (pos + 1) := by rw [hsp]; exact List.drop_eq_getElem_cons hps
      have hN10 : N < 1099511627776 := Nat.lt_of_lt_of_le hN (by
        have := Nat.pow_le_pow_right (show 0 < 16 by omega) (show pos ≤ 10 by omega)
        have e : (16 : Nat) ^ 10 = 1099511627776 := by decide
        omega)
      have hmeas0 : wr.iterPos w.heap.size = pos := by simp [World.iterPos, hit]
      by_cases ha : ((str s)[pos]'hp).toNat < 128
      · have hnx : ∀ ty, (Instr.next (.pointer (some ⟨w.heap.size, 0, none⟩)) true ty).run Tryd.prog wr = _ := fun ty => Lib.run_next_ascii_at wr w.heap.size (str s) pos ty hit hp ha
        have hit2 := Lib.iterAt_heap wr w.heap.size (str s) pos (pos + 1) hit
        have hkk := Keeps.of_below (Lib.below_iterAt hk.below (k := w.heap.size) (Nat.le_refl _) (str s) (pos + 1))
        have hmeas : (wr.iterAt w.heap.size (str s) (pos + 1)).iterPos w.heap.size = pos + 1 := by simp [World.iterPos, hit2]
        have Ix : Hid (∀ w', Calls Tryd.prog 41 #[.string (str hexL), .int .i32 (((str s)[pos]'hp).toNat : Int)] w' fun e w2 => e = .returned (.int .i64 (hexval ((str s)[pos]'hp).toNat)) ∧ w2 = w') := fun w' => by
          have h := Tryd.strings_IndexRune_ascii (str hexL) (((str s)[pos]'hp).toNat : Int) w' (by omega) (by omega)
          rw [str_data, ascii_index] at h
          exact h
        have Hgo := hgo.out
        rw [hdr, numGo] at Hgo
        have Hgo := Lib.hid Hgo
        have hv16 := hexval_lt ((str s)[pos]'hp).toNat
        have Hit2 := Lib.hid hit2
        have Hkk := Lib.hid hkk
        have Hm := Lib.hid hmeas
        have Hm0 := Lib.hid hmeas0
        have HN := Lib.hid hN
        clear hit2 hkk hmeas hmeas0 hit hk hsp hdr hgo hN
        by_cases hneg : hexval ((str s)[pos]'hp).toNat < 0
        · have Hgo2 := Hgo.out
          rw [if_pos hneg] at Hgo2
          obtain rfl : R = none := by rw [← HR.out]; exact Hgo2
          clear Hgo2
          generalize hexval ((str s)[pos]'hp).toNat = D at *
          go_wp2_with (go_at_call 41; (with_reducible refine (Ix.out _).mono ?_); rintro e w1 ⟨rfl, rfl⟩)
          go_ret2
          exact ⟨rfl, Hkk.out⟩
        · have Hgo2 := Hgo.out
          rw [if_neg hneg] at Hgo2
          obtain ⟨d, hd⟩ : ∃ d : Nat, hexval ((str s)[pos]'hp).toNat = (d : Int) := ⟨(hexval ((str s)[pos]'hp).toNat).toNat, by omega⟩
          rw [hd] at Ix Hgo2 hv16
          rw [Int.toNat_natCast] at Hgo2
          have Hgo3 := Lib.hid Hgo2
          have hd16 : d < 16 := by omega
          have hso := shl_or N d (by omega) hd16
          have hw1 : IntKind.i64.wrap ((N : Int) * 16) = (N : Int) * 16 := IntWalk.i64_in _ ⟨by omega, by omega⟩
          have hd0 : ¬ (d : Int) < 0 := by omega
          have Hd16 := Lib.hid hd16
          clear Hgo Hgo2 hneg hd hv16 hd16
          go_wp2_with (go_at_call 41; (with_reducible refine (Ix.out _).mono ?_); rintro e w1 ⟨rfl, rfl⟩)
          go_roundw
          case rel =>
            refine ⟨pos + 1, N * 16 + d, by omega, by first | rfl | go_num, ?_, Hit2.out, Hgo3.out, Hkk.out⟩
            rw [Nat.pow_succ]
            have := HN.out
            have := Hd16.out
            omega
          case measure =>
            rw [Hm.out, Hm0.out]
            omega
      · have hnx : ∀ ty, (Instr.next (.pointer (some ⟨w.heap.size, 0, none⟩)) true ty).run Tryd.prog wr = _ := fun ty => Lib.run_next_any_at wr w.heap.size (str s) pos ty hit hp
        have hkk := Keeps.of_below (Lib.below_iterAt hk.below (k := w.heap.size) (Nat.le_refl _) (str s) (pos + (Utf8.decode (str s) pos).2))
        have hhi := (decode_high (str s) pos hp (by omega)).1
        have hle2 := decode_le (str s) pos
        have Ix := Lib.hid (fun w' => irune_any ((Utf8.decode (str s) pos).1 : Int) (by omega) w')
        have Hgo := hgo.out
        rw [hdr, numGo, if_pos (hexval_high (by omega))] at Hgo
        obtain rfl : R = none := by rw [← HR.out]; exact Hgo
        have Hkk := Lib.hid hkk
        clear hkk hit hk hsp hmeas0 hdr Hgo
        go_wp2_with (go_at_call 41; (with_reducible refine (Ix.out _).mono ?_); rintro e w1 ⟨rfl, k1⟩)
        go_ret2
        exact ⟨rfl, KT Hkk.out k1⟩
    · have hnx : ∀ ty, (Instr.next (.pointer (some ⟨w.heap.size, 0, none⟩)) true ty).run Tryd.prog wr = _ := fun ty => Lib.run_next_end_at wr w.heap.size (str s) pos ty hit hp
      have Hgo := hgo.out
      rw [str_size] at hp
      rw [List.drop_of_length_le (by omega), numGo] at Hgo
      obtain rfl : R = some N := by rw [← HR.out]; exact Hgo
      have Hk := Lib.hid hk
      clear hit hk Hgo
      go_wp2_with fail
      go_ret2
      exact ⟨rfl, Hk.out⟩
end Go.Proofs.YtdjhlnkkbpmfmaaDoor
