/- Layer 2: what More, Sum, Seal, Open do. -/
import Derived.Test.YtjebldfmkpfafaaCrcA
import Derived.Test.YtjebldfmkpfafaaStep
namespace Go.Proofs.Ytjebldfmkpfafaa
open Go.RowKit
set_option maxRecDepth 100000

def strV (s : List UInt8) : Value := .string (str s)

theorem run_snoc_byte (x : Nat) (l : List UInt8) (c : UInt8) : crcRun x (l ++ [c]) = crcByte (crcRun x l) c := by rw [crcRun_append]; rfl

theorem u32_not {x : Nat} (h : x < 4294967296) : bits .xor .u32 IntKind.u32.max (x : Int) = ((4294967295 - x : Nat) : Int) := by
  have h1 := u32_xor_nat 4294967295 x (by omega) h
  rw [not_xor h] at h1
  exact h1

set_option maxHeartbeats 2000000 in
theorem more_any (x : Nat) (ss : List (List UInt8)) (v : Value) (G : List Nat) (w : World) (hx : x < 4294967296) (hv : SlAt w v (ss.map strV) G) (hs : ∀ s, s ∈ ss → s.length ≤ 9223372036854775807) (hl : ss.length ≤ 9223372036854775807) :
    Calls Try.prog 47 #[.int .u32 x, v] w fun e w' => e = .returned (.int .u32 (crcMore x ss.flatten)) ∧ w = w' := by
  obtain ⟨ad, cap, rfl, hc⟩ := hv
  rw [List.length_map]
  have Hc := Lib.hid hc
  have Hs := Lib.hid hs
  have hnot := u32_not hx
  unfold crcMore
  have hx0 : 4294967295 - x < 4294967296 := by omega
  generalize 4294967295 - x = X at *
  have hsg : IntKind.u32.signed = false := rfl
  have hslen : (ss.length : Int) ≤ 9223372036854775807 := by omega
  clear hc hs
  go_enter Try.func47, Try.ntmps47
  go_wp2
  go_loop [5, 13] (fun xv iv => ∃ k z : Nat, k ≤ ss.length ∧ iv = .int .i64 k ∧ xv = .int .u32 z ∧ Hid (z = crcRun X (ss.take k).flatten)) (fun _ iv => ss.length - (intOf iv).toNat)
  case atStart => exact ⟨0, X, Nat.zero_le _, rfl, by first | rfl | rw [hnot], rfl⟩
  case round =>
    obtain ⟨k, z, hk, rfl, rfl, Hz⟩ := hrel
    have hzl : z < 4294967296 := by rw [Hz.out]; exact crcRun_lt _ hx0
    by_cases hlt : k < ss.length
    · obtain ⟨s, hsk⟩ : ∃ s, ss[k]? = some s := ⟨ss[k], by simp [hlt]⟩
      obtain ⟨b, off, rfl, _, hcell⟩ := Hc.out (by intro h0; rw [List.map_eq_nil_iff] at h0; rw [h0] at hlt; simp at hlt)
      have c0 := hcell k (strV s) (by rw [List.getElem?_map, hsk]; rfl)
      unfold strV at c0
      have hsl := Hs.out s (List.mem_of_getElem? hsk)
      have hst : (ss.take (k + 1)).flatten = (ss.take k).flatten ++ s := by rw [List.take_add_one, hsk]; simp
      have hki : (k : Int) < (ss.length : Int) := by omega
      have hki0 : (0 : Int) ≤ (k : Int) := by omega
      have Hst := Lib.hid hst
      have Hcell := Lib.hid hcell
      have Hsk := Lib.hid hsk
      clear hst hcell hsk
      go_wp2
      go_loop [5, 19] (fun xv iv => ∃ j y : Nat, j ≤ s.length ∧ iv = .int .i64 j ∧ xv = .int .u32 y ∧ Hid (y = crcRun z (s.take j))) (fun _ iv => s.length - (intOf iv).toNat)
      case atStart => exact ⟨0, z, Nat.zero_le _, rfl, rfl, rfl⟩
      case round =>
        obtain ⟨j, y, hj, rfl, rfl, Hy⟩ := hrel
        have hyl : y < 4294967296 := by rw [Hy.out]; exact crcRun_lt _ hzl
        by_cases hltj : j < s.length
        · have hji : (j : Int) < (s.length : Int) := by omega
          have hji0 : (0 : Int) ≤ (j : Int) := by omega
          have hsz : j < (str s).size := by rw [str_size]; exact hltj
          have hsj : s.take (j + 1) = s.take j ++ [(str s)[j]'hsz] := List.take_succ_eq_append_getElem hltj
          have Hsj := Lib.hid hsj
          clear hsj
          go_wp2_with (go_at_call 75; (with_reducible refine (byted_any y ((str s)[j]'hsz) _ hyl).mono ?_); rintro e w1 ⟨rfl, rfl⟩)
          go_round
          case rel => exact ⟨j + 1, crcByte y ((str s)[j]'hsz), by omega, by go_num, rfl, by unfold Hid; rw [Hsj.out, run_snoc_byte, ← Hy.out]⟩
          case measure => simp [intOf]; omega
        · obtain rfl : j = s.length := by omega
          go_wp2
          go_round
          case rel => exact ⟨k + 1, y, by omega, by go_num, rfl, by unfold Hid; rw [Hst.out, crcRun_append, ← Hz.out, Hy.out, List.take_length]⟩
          case measure => simp [intOf]; omega
    · obtain rfl : k = ss.length := by omega
      have hn2 := u32_not hzl
      go_wp2
      go_ret
      rw [List.take_length] at Hz
      rw [← Hz.out]
      exact ⟨by first | rfl | rw [hn2], rfl⟩

theorem sum_any (ss : List (List UInt8)) (v : Value) (G : List Nat) (w : World) (hv : SlAt w v (ss.map strV) G) (hs : ∀ s, s ∈ ss → s.length ≤ 9223372036854775807) (hl : ss.length ≤ 9223372036854775807) :
    Calls Try.prog 27 #[v] w fun e w' => e = .returned (.int .u32 (crcMore 0 ss.flatten)) ∧ w = w' := by
  have hm := more_any 0 ss v G w (by omega) hv hs hl
  rw [Int.natCast_zero] at hm
  obtain ⟨ad, cap, rfl, _⟩ := hv
  simp only [List.length_map] at hm ⊢
  have Hm := Lib.hid hm
  clear hm
  go_enter Try.func27, Try.ntmps27
  go_wp2_with (go_at_call 47; (with_reducible refine Hm.out.mono ?_); rintro e w1 ⟨rfl, rfl⟩)
  go_ret
  exact ⟨rfl, rfl⟩

theorem four_cells (X : Nat) (hX : X < 4294967296) : (four X).map u8v = [.int .u8 ((X : Int) % 256), .int .u8 ((X : Int) / 256 % 256), .int .u8 ((X : Int) / 65536 % 256), .int .u8 ((X : Int) / 16777216)] := by
  unfold four u8v
  simp only [List.map_cons, List.map_nil, UInt8.toNat_ofNat', List.cons.injEq, Value.int.injEq, true_and, and_true]
  omega

set_option maxHeartbeats 1000000 in
set_option maxRecDepth 100000 in
theorem seal_any (s : List UInt8) (w : World) (hs : s.length ≤ 140737488351232) :
    Calls Try.prog 46 #[.string (str s)] w fun e w' => e = .returned (.string (str (s ++ four (crcMore 0 s)))) ∧ Keeps [] w w' := by
  have hsum := sum_any [s] (.slice (some ⟨w.heap.size, 0, none⟩) 1 1) [w.heap.size] (w.alloc (.cells #[.string (str s)] 9)) (SlAt.lit w [strV s] _ 1 rfl) (fun t ht => by simp at ht; subst ht; omega) (by simp)
  rw [show [s].flatten = s by simp] at hsum
  have hX := crcMore_lt 0 s
  generalize crcMore 0 s = X at *
  have hW := heap_alloc_self (w.alloc (.cells #[.string (str s)] 9)) (.cells #[.int .u8 ((X : Int) % 256), .int .u8 ((X : Int) / 256 % 256), .int .u8 ((X : Int) / 65536 % 256), .int .u8 ((X : Int) / 16777216)] 5)
  rw [show (w.alloc (.cells #[.string (str s)] 9)).heap.size = w.heap.size + 1 by simp] at hW
  have hcv := own_string (P := Try.prog) (src := 41) (w := (w.alloc (.cells #[.string (str s)] 9)).alloc (.cells #[.int .u8 ((X : Int) % 256), .int .u8 ((X : Int) / 256 % 256), .int .u8 ((X : Int) / 65536 % 256), .int .u8 ((X : Int) / 16777216)] 5)) Try.underlying41 Try.underlying5 Try.underlying9 (v := .slice (some ⟨w.heap.size + 1, 0, none⟩) 4 4) (n := 4) (l := four X)
    ⟨by rw [four_cells X hX]; rfl, .inr ⟨w.heap.size + 1, 4, _, rfl, Nat.zero_le _, hW, Nat.le_refl _, by unfold maxLen; omega, rfl, by rw [four_cells X hX]; rfl⟩⟩
  have hcat : ¬ (9223372036854775807 < s.length + 4) := by omega
  have hf4 : (four X).length = 4 := rfl
  have Hsum := Lib.hid hsum
  clear hsum hW
  go_enter Try.func46, Try.ntmps46
  go_wp2_with (go_at_call 27; (with_reducible refine Hsum.out.mono ?_); rintro e w1 ⟨rfl, rfl⟩)
  go_ret
  exact ⟨rfl, ((Keeps.refl [] w).alloc _).alloc _⟩
end Go.Proofs.Ytjebldfmkpfafaa
