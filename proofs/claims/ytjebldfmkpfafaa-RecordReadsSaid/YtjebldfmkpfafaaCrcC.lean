/- Layer 2: what Open does. -/
import Derived.Test.YtjebldfmkpfafaaRecP
namespace Go.Proofs.Ytjebldfmkpfafaa
open Go.RowKit
set_option maxRecDepth 100000

/-- Sealed bytes without their check sum, and what is wrong. -/
def crcOpen (s : List UInt8) : List UInt8 × Int :=
  if s.length < 4 then ([], 10) else if s.take (s.length - 4) ++ four (crcMore 0 (s.take (s.length - 4))) = s then (s.take (s.length - 4), 0) else ([], 13)

set_option maxHeartbeats 1000000 in
theorem open_any (s : List UInt8) (w : World) (hs : s.length ≤ 140737488351232) :
    Calls Try.prog 63 #[.string (str s)] w fun e w' => e = .returned (.tuple #[.string (str (crcOpen s).1), .int .i64 (crcOpen s).2]) ∧ Keeps [] w w' := by
  unfold crcOpen
  by_cases h4 : s.length < 4
  · rw [if_pos h4]
    have h4i : (s.length : Int) < 4 := by omega
    go_enter Try.func63, Try.ntmps63
    go_wp2
    go_ret2
    exact ⟨rfl, Keeps.refl _ _⟩
  · rw [if_neg h4]
    obtain ⟨n, hn⟩ : ∃ n, s.length = n + 4 := ⟨s.length - 4, by omega⟩
    have e4 : s.length - 4 = n := by omega
    rw [e4]
    have hex : (str s).extract 0 n = str (s.take n) := by rw [str_extract, str_data, List.drop_zero, Nat.sub_zero]
    have hsl := seal_any (s.take n) w (by rw [List.length_take]; omega)
    have hli : ¬ (s.length : Int) < 4 := by omega
    have hl1 : (s.length : Int) - 4 = (n : Int) := by omega
    have Hsl := Lib.hid hsl
    clear hsl
    by_cases he : s.take n ++ four (crcMore 0 (s.take n)) = s
    · rw [if_pos he]
      have hb : (s.take n ++ four (crcMore 0 (s.take n)) == s) = true := by rw [beq_iff_eq]; exact he
      clear he e4
      go_enter Try.func63, Try.ntmps63
      go_wp2_with (go_at_call 46; (with_reducible refine Hsl.out.mono ?_); rintro e w1 ⟨rfl, hk1⟩)
      go_ret2
      exact ⟨rfl, hk1⟩
    · rw [if_neg he]
      have hb : (s.take n ++ four (crcMore 0 (s.take n)) == s) = false := by rw [beq_eq_false_iff_ne]; exact he
      clear he e4
      go_enter Try.func63, Try.ntmps63
      go_wp2_with (go_at_call 46; (with_reducible refine Hsl.out.mono ?_); rintro e w1 ⟨rfl, hk1⟩)
      go_ret2
      exact ⟨rfl, hk1⟩
end Go.Proofs.Ytjebldfmkpfafaa
