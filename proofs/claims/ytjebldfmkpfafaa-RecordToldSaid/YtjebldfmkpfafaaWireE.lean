/- Layer 3, the reader: what Var does. -/
import Derived.Test.YtjebldfmkpfafaaWireD
namespace Go.Proofs.Ytjebldfmkpfafaa
open Go.RowKit
set_option maxRecDepth 100000

theorem bits_not8 (c : UInt8) : bits .xor .u8 IntKind.u8.max (c.toNat : Int) = ((255 - c.toNat : Nat) : Int) := by
  have h : ∀ n : Fin 256, bits .xor .u8 IntKind.u8.max ((n.val : Nat) : Int) = ((255 - n.val : Nat) : Int) := by decide +kernel
  exact h ⟨c.toNat, c.toNat_lt⟩

theorem vlead_bd (c : UInt8) : 1 ≤ vlead c ∧ vlead c ≤ 9 := by
  have := Lib.bitLen_le8 ⟨255 - c.toNat, by omega⟩
  unfold vlead; simp at this; omega

theorem lz_any (c : UInt8) (w : World) : Calls Try.prog 101 #[.int .u8 (bits .xor .u8 IntKind.u8.max (c.toNat : Int))] w fun e w' => e = .returned (.int .i64 ((vlead c : Int) - 1)) ∧ w = w' := by
  rw [bits_not8]
  have hb := Lib.bitLen_le8 ⟨255 - c.toNat, by omega⟩
  refine (Try.bits_LeadingZeros8 ((255 - c.toNat : Nat) : Int) w (by omega) (by omega)).mono ?_
  rintro e w' ⟨rfl, rfl⟩
  refine ⟨ret_int ?_, rfl⟩
  simp only [Int.toNat_natCast]
  unfold vlead; simp at hb; omega

theorem andNot_tab : ∀ (n : Fin 9) (c : Fin 256), 0 < n.val → bits .andNot .u8 ((c.val : Nat) : Int) ((vhd n.val : Nat) : Int) = ((c.val % 2 ^ (9 - n.val) : Nat) : Int) := by decide +kernel

theorem or_shift (a y i : Nat) (ha : a < 2 ^ i) (hi : i ≤ 56) (hy : y * 2 ^ i < 144115188075855872) : bits .or .u64 (a : Int) ((y * 2 ^ i : Nat) : Int) = ((y * 2 ^ i + a : Nat) : Int) := by
  have h56 : 2 ^ i ≤ 2 ^ 56 := Nat.pow_le_pow_right (by omega) hi
  rw [bits_or_u64_nat a (y * 2 ^ i) (by omega) (by omega), Nat.or_comm, ← Nat.shiftLeft_eq, ← Nat.shiftLeft_add_eq_or_of_lt ha]

theorem var_word (t : ByteArray) (n : Nat) (h1 : 1 ≤ n) (h2 : n < 9) (hts : t.size = n) (hp : 0 < t.size) :
    bits BinOp.or IntKind.u64 ((num (List.take (t.size - 1) t.data.toList.tail) : Nat) : Int) (IntKind.u64.wrap (IntKind.u64.wrap (bits BinOp.andNot IntKind.u8 ((t[0].toNat : Nat) : Int) ((vhd n : Nat) : Int)) * 2 ^ (8 * (n - 1)))) = ((vval t.data.toList : Nat) : Int) := by
  have hl : t.data.toList.length = n := by simpa using hts
  obtain ⟨c, l, hcl⟩ : ∃ c l, t.data.toList = c :: l := by
    cases h : t.data.toList with
    | nil => rw [h] at hl; simp at hl; omega
    | cons c l => exact ⟨c, l, rfl⟩
  have h0 : t[0] = c := by
    have : t[0] = t.data.toList[0]'(by omega) := rfl
    rw [this]; simp [hcl]
  have hll : l.length = n - 1 := by rw [hcl] at hl; simp at hl; omega
  rw [h0, hcl, hts]
  simp only [List.tail_cons]
  rw [List.take_of_length_le (by omega), andNot_tab ⟨n, h2⟩ ⟨c.toNat, c.toNat_lt⟩ h1]
  simp only []
  have hy : c.toNat % 2 ^ (9 - n) < 2 ^ (9 - n) := Nat.mod_lt _ (Nat.pow_pos (by omega))
  have hle : 2 ^ (9 - n) * 2 ^ (8 * (n - 1)) ≤ 2 ^ 57 := by rw [← Nat.pow_add]; exact Nat.pow_le_pow_right (by omega) (by omega)
  have hlt : c.toNat % 2 ^ (9 - n) * 2 ^ (8 * (n - 1)) < 2 ^ 57 := Nat.lt_of_lt_of_le (Nat.mul_lt_mul_of_pos_right hy (Nat.pow_pos (by omega))) hle
  have hc := c.toNat_lt
  have hsm : c.toNat % 2 ^ (9 - n) ≤ c.toNat := Nat.mod_le _ _
  rw [IntWalk.u64_in ((c.toNat % 2 ^ (9 - n) : Nat) : Int) ⟨by omega, by omega⟩]
  have e : ((c.toNat % 2 ^ (9 - n) : Nat) : Int) * 2 ^ (8 * (n - 1)) = ((c.toNat % 2 ^ (9 - n) * 2 ^ (8 * (n - 1)) : Nat) : Int) := by simp
  rw [e, IntWalk.u64_in _ ⟨by omega, by omega⟩]
  have hnum := num_lt l
  rw [hll, show (256 : Nat) = 2 ^ 8 from rfl, ← Nat.pow_mul] at hnum
  rw [or_shift _ _ _ hnum (by omega) (by omega)]
  congr 1
  unfold vval
  rw [if_pos (by simp [hll]; omega)]
  simp only [List.headD_cons, List.tail_cons, List.length_cons, hll]
  rw [show (256 : Nat) = 2 ^ 8 from rfl, ← Nat.pow_mul, show n - 1 + 1 = n by omega]

theorem vval_lt (l : List UInt8) (h : l.length ≤ 9) : vval l ≤ 18446744073709551615 := by
  have h1 := num_lt l.tail
  have h2 : 256 ^ l.tail.length ≤ 256 ^ 8 := Nat.pow_le_pow_right (by omega) (by simp; omega)
  unfold vval
  split
  · rename_i h3
    have hy : (l.headD 0).toNat % 2 ^ (9 - l.length) < 2 ^ (9 - l.length) := Nat.mod_lt _ (Nat.pow_pos (by omega))
    have h4 : (l.headD 0).toNat % 2 ^ (9 - l.length) * 256 ^ (l.length - 1) ≤ 255 * 256 ^ (l.length - 1) := Nat.mul_le_mul_right _ (by have := Nat.mod_le (l.headD 0).toNat (2 ^ (9 - l.length)); have := (l.headD 0).toNat_lt; omega)
    have h5 : 256 ^ (l.length - 1) ≤ 256 ^ 7 := Nat.pow_le_pow_right (by omega) (by omega)
    have h6 : 256 ^ l.tail.length ≤ 256 ^ 7 := Nat.pow_le_pow_right (by omega) (by simp; omega)
    omega
  · omega

section
variable (b : Nat) (s : ByteArray) (p : Nat) (er : Int) (w : World) (hi : InAt w b s p er) (hp : p ≤ s.size) (hs : s.size ≤ 140737488351232)
include hi

theorem inVar_dead (he : er ≠ 0) : Calls Try.prog 96 #[.pointer (some ⟨b, 0, none⟩)] w fun e w' =>
    e = .returned (.int .u64 0) ∧ w = w' := by
  have h1 : (er == 0) = false := by simpa using he
  have H := Lib.hid hi
  clear hi
  go_enter Try.func96, Try.ntmps96
  go_wp2_with (first | (go_at_call 78; refine (inReady_any _ _ _ _ _ H.out).mono ?_; rintro e w' ⟨rfl, rfl⟩))
  go_ret
  exact ⟨rfl, rfl⟩
end
section
variable (b : Nat) (s : ByteArray) (p : Nat) (w : World) (hi : InAt w b s p 0) (hp : p ≤ s.size) (hs : s.size ≤ 140737488351232)
include hi hp hs

theorem inVar_end (he : s.size ≤ p) : Calls Try.prog 96 #[.pointer (some ⟨b, 0, none⟩)] w fun e w' =>
    e = .returned (.int .u64 0) ∧ InTo w w' b s (p, 10) := by
  have h1 : ((0 : Int) == 0) = true := rfl
  have h2 : (((s.size - p : Nat) : Int) == 0) = true := by simp; omega
  have hc0 := cell_of_heap hi 0
  have H := Lib.hid hi
  clear hi
  go_enter Try.func96, Try.ntmps96
  go_wp2_with (first | (go_at_call 78; refine (inReady_any _ _ _ _ _ H.out).mono ?_; rintro e w' ⟨rfl, rfl⟩) | (go_at_call 100; refine (inLeft_any _ _ _ _ _ H.out hp hs).mono ?_; rintro e w' ⟨rfl, n, rfl⟩) | (go_at_call 79; refine (stand_any b s p 0 _ (H.out.drewN _).1 _ _).mono ?_; rintro e w' ⟨rfl, hto⟩))
  go_ret
  exact ⟨rfl, (H.out.drewN _).trans hto⟩

theorem inVar_short (hp' : p < s.size) (hn : s.size - p < vlead s[p]) : Calls Try.prog 96 #[.pointer (some ⟨b, 0, none⟩)] w fun e w' =>
    e = .returned (.int .u64 0) ∧ InTo w w' b s (p, 10) := by
  have h1 : ((0 : Int) == 0) = true := rfl
  have h2 : (((s.size - p : Nat) : Int) == 0) = false := by simp; omega
  have h3 : ((10 : Int) != 0) = true := rfl
  obtain ⟨h4, h5⟩ := vlead_bd s[p]
  have hc0 := cell_of_heap hi 0
  have hc2 := cell_of_heap hi 2
  have H := Lib.hid hi
  clear hi
  go_enter Try.func96, Try.ntmps96
  go_wp2_with (first | (go_at_call 78; refine (inReady_any _ _ _ _ _ H.out).mono ?_; rintro e w' ⟨rfl, rfl⟩) | (go_at_call 100; refine (inLeft_any _ _ _ _ _ H.out hp hs).mono ?_; rintro e w' ⟨rfl, n, rfl⟩) | (go_at_call 101; refine (lz_any _ _).mono ?_; rintro e w' ⟨rfl, rfl⟩) | (go_at_call 81; refine (take_short b s p _ (H.out.drewN _).1 hp hs _ (by omega)).mono ?_; rintro e w' ⟨rfl, hto⟩; have hc1' := cell_of_heap hto.1 1))
  go_ret
  exact ⟨rfl, (H.out.drewN _).trans hto⟩

set_option maxHeartbeats 1600000 in
theorem inVar_go (hp' : p < s.size) (hn : vlead s[p] ≤ s.size - p) : Calls Try.prog 96 #[.pointer (some ⟨b, 0, none⟩)] w fun e w' =>
    e = .returned (.int .u64 (if vsz (vval ((s.data.toList.drop p).take (vlead s[p]))) = vlead s[p] then vval ((s.data.toList.drop p).take (vlead s[p])) else 0)) ∧
      InTo w w' b s (if vsz (vval ((s.data.toList.drop p).take (vlead s[p]))) = vlead s[p] then (p + vlead s[p], 0) else (p, 12)) := by
  have h1 : ((0 : Int) == 0) = true := rfl
  have h2 : (((s.size - p : Nat) : Int) == 0) = false := by simp; omega
  have h3 : ((0 : Int) != 0) = false := rfl
  obtain ⟨h4, h5⟩ := vlead_bd s[p]
  have hc0 := cell_of_heap hi 0
  have hc2 := cell_of_heap hi 2
  have H := Lib.hid hi
  clear hi
  obtain ⟨t, ht⟩ : ∃ t, t = s.extract p (p + vlead s[p]) := ⟨_, rfl⟩
  have hts : t.size = vlead s[p] := by rw [ht]; simp; omega
  have hl : (s.data.toList.drop p).take (vlead s[p]) = t.data.toList := by rw [ht, Lib.extract_data]; simp
  rw [hl]
  have Ht := Lib.hid ht
  have Hts := Lib.hid hts
  clear ht hl hts
  have h9 : (t.extract 1 t.size).size ≤ 8 := by have := Hts.out; simp; omega
  have hpos : 0 < t.size := by have := Hts.out; omega
  obtain ⟨n, hn'⟩ : ∃ n, n = vlead s[p] := ⟨_, rfl⟩
  have Hn := Lib.hid hn'
  have hv := vval_lt t.data.toList (by have := Hts.out; simp; omega)
  by_cases hn9 : vlead s[p] < 9 <;> by_cases hq : vsz (vval t.data.toList) = vlead s[p]
  · have hq' : (((vsz (vval t.data.toList) : Nat) : Int) != ((vlead s[p] : Nat) : Int)) = false := bne_nat_eq hq
    rw [if_pos hq, if_pos hq]
    have Hq := Lib.hid hq
    clear hq hn'
    go_enter Try.func96, Try.ntmps96
    go_wp2_with (first | (go_at_call 78; refine (inReady_any _ _ _ _ _ H.out).mono ?_; rintro e w' ⟨rfl, rfl⟩) | (go_at_call 100; refine (inLeft_any _ _ _ _ _ H.out hp hs).mono ?_; rintro e w' ⟨rfl, n, rfl⟩) | (go_at_call 101; refine (lz_any _ _).mono ?_; rintro e w' ⟨rfl, rfl⟩) | (go_at_call 81; refine (take_ok b s p _ (H.out.drewN _).1 hp hs _ (by omega)).mono ?_; rintro e w' ⟨rfl, hto⟩; have hc1' := cell_of_heap hto.1 1; rw [← Ht.out]) | (go_at_call 80; refine (number_any _ _ h9).mono ?_; rintro e w' ⟨rfl, rfl⟩))
    go_quiet ((go_at_call 69; exact Calls.quiet_of_same (Calls_flip (head_any _ _ (by omega) (by omega)))))
    go_wp2_with (first | (go_at_call 67; rw [var_word t (vlead s[p]) h4 hn9 Hts.out hpos]; refine (size_any _ _ hv).mono ?_; rintro e w'' ⟨rfl, rfl⟩) | (go_at_call 79; refine (stand_any b s _ _ _ (hto.1.drewN _).1 _ _).mono ?_; rintro e w'' ⟨rfl, hto2⟩))
    go_ret
    exact ⟨rfl, ((H.out.drewN _).trans hto).trans (hto.1.drewN _)⟩
  · have hq' : (((vsz (vval t.data.toList) : Nat) : Int) != ((vlead s[p] : Nat) : Int)) = true := bne_nat_ne hq
    rw [if_neg hq, if_neg hq]
    have Hq := Lib.hid hq
    clear hq hn'
    go_enter Try.func96, Try.ntmps96
    go_wp2_with (first | (go_at_call 78; refine (inReady_any _ _ _ _ _ H.out).mono ?_; rintro e w' ⟨rfl, rfl⟩) | (go_at_call 100; refine (inLeft_any _ _ _ _ _ H.out hp hs).mono ?_; rintro e w' ⟨rfl, n, rfl⟩) | (go_at_call 101; refine (lz_any _ _).mono ?_; rintro e w' ⟨rfl, rfl⟩) | (go_at_call 81; refine (take_ok b s p _ (H.out.drewN _).1 hp hs _ (by omega)).mono ?_; rintro e w' ⟨rfl, hto⟩; have hc1' := cell_of_heap hto.1 1; rw [← Ht.out]) | (go_at_call 80; refine (number_any _ _ h9).mono ?_; rintro e w' ⟨rfl, rfl⟩))
    go_quiet ((go_at_call 69; exact Calls.quiet_of_same (Calls_flip (head_any _ _ (by omega) (by omega)))))
    go_wp2_with (first | (go_at_call 67; rw [var_word t (vlead s[p]) h4 hn9 Hts.out hpos]; refine (size_any _ _ hv).mono ?_; rintro e w'' ⟨rfl, rfl⟩) | (go_at_call 79; refine (stand_any b s _ _ _ (hto.1.drewN _).1 _ _).mono ?_; rintro e w'' ⟨rfl, hto2⟩))
    go_ret
    exact ⟨rfl, ((H.out.drewN _).trans hto).trans ((hto.1.drewN _).trans hto2)⟩
  · have hw9 : num (List.take (t.size - 1) t.data.toList.tail) = vval t.data.toList := by
      have := Hts.out
      rw [List.take_of_length_le (by simp)]
      unfold vval; rw [if_neg (by simp; omega)]
    have hq' : (((vsz (vval t.data.toList) : Nat) : Int) != ((vlead s[p] : Nat) : Int)) = false := bne_nat_eq hq
    rw [if_pos hq, if_pos hq]
    have Hq := Lib.hid hq
    clear hq hn'
    go_enter Try.func96, Try.ntmps96
    go_wp2_with (first | (go_at_call 78; refine (inReady_any _ _ _ _ _ H.out).mono ?_; rintro e w' ⟨rfl, rfl⟩) | (go_at_call 100; refine (inLeft_any _ _ _ _ _ H.out hp hs).mono ?_; rintro e w' ⟨rfl, n, rfl⟩) | (go_at_call 101; refine (lz_any _ _).mono ?_; rintro e w' ⟨rfl, rfl⟩) | (go_at_call 81; refine (take_ok b s p _ (H.out.drewN _).1 hp hs _ (by omega)).mono ?_; rintro e w' ⟨rfl, hto⟩; have hc1' := cell_of_heap hto.1 1; rw [← Ht.out]) | (go_at_call 80; refine (number_any _ _ h9).mono ?_; rintro e w' ⟨rfl, rfl⟩) | (go_at_call 67; refine (size_any _ _ hv).mono ?_; rintro e w'' ⟨rfl, rfl⟩) | (go_at_call 79; refine (stand_any b s _ _ _ hto.1 _ _).mono ?_; rintro e w'' ⟨rfl, hto2⟩))
    go_ret
    exact ⟨rfl, (H.out.drewN _).trans hto⟩
  · have hw9 : num (List.take (t.size - 1) t.data.toList.tail) = vval t.data.toList := by
      have := Hts.out
      rw [List.take_of_length_le (by simp)]
      unfold vval; rw [if_neg (by simp; omega)]
    have hq' : (((vsz (vval t.data.toList) : Nat) : Int) != ((vlead s[p] : Nat) : Int)) = true := bne_nat_ne hq
    rw [if_neg hq, if_neg hq]
    have Hq := Lib.hid hq
    clear hq hn'
    go_enter Try.func96, Try.ntmps96
    go_wp2_with (first | (go_at_call 78; refine (inReady_any _ _ _ _ _ H.out).mono ?_; rintro e w' ⟨rfl, rfl⟩) | (go_at_call 100; refine (inLeft_any _ _ _ _ _ H.out hp hs).mono ?_; rintro e w' ⟨rfl, n, rfl⟩) | (go_at_call 101; refine (lz_any _ _).mono ?_; rintro e w' ⟨rfl, rfl⟩) | (go_at_call 81; refine (take_ok b s p _ (H.out.drewN _).1 hp hs _ (by omega)).mono ?_; rintro e w' ⟨rfl, hto⟩; have hc1' := cell_of_heap hto.1 1; rw [← Ht.out]) | (go_at_call 80; refine (number_any _ _ h9).mono ?_; rintro e w' ⟨rfl, rfl⟩) | (go_at_call 67; refine (size_any _ _ hv).mono ?_; rintro e w'' ⟨rfl, rfl⟩) | (go_at_call 79; refine (stand_any b s _ _ _ hto.1 _ _).mono ?_; rintro e w'' ⟨rfl, hto2⟩))
    go_ret
    exact ⟨rfl, ((H.out.drewN _).trans hto).trans hto2⟩
end
end Go.Proofs.Ytjebldfmkpfafaa
