/- Layer 11: bytes and take. -/
import Derived.Test.YtcbpkplmaglpcaaRun
import Derived.Test.YtcbpkplmaglpcaaNum
import Derived.Test.YtcbpkplmaglpcaaCrcB
namespace Go.Proofs.Ytcbpkplmaglpcaa
open Go.RowKit

theorem tyBytes : SlTy Try.prog 47 5 1 1 (.int .u8 0) := SlTy.mk' Try.underlying47 (by kernel_rfl) rfl (by decide)

/-- append(s, nil...). -/
theorem wpList_app0 {P : Program} {t e : TypeId} {size bytes : Nat} {z : Value} (T : SlTy P t e size bytes z) {ops : Array Oper} {rest : List Oper} {o : Oper} {a : Act} {Q : Exit → Act → World → Prop} {w : World} (hgd : o.guard = none) (s x : Operand)
    (ho : o.op = .call { callee := .builtin .append, args := #[s, x], argTypes := #[t, t] }) (v : Value) (n : Nat) (xs : List Value) (hs : a.eval s = v) (hx : a.eval x = .slice none 0 0) (hown : w.ownsRow 0 e size v n xs)
    (h : wpList P ops Q rest (a.put o.dst v) w) : wpList P ops Q (o :: rest) a w := by
  obtain ⟨hu, ⟨i, hi, hz, hsz, hby⟩, hzs, hp⟩ := T
  have hr := run_append_owned_none (P := P) (w := w) 0 t o.type e i size hu hi v n xs hown
  refine wpList_run hgd v ?_ h
  unfold execOp
  simp only [ho, resolve, invoke, builtin, Sem.run_bind, Sem.run_pure, Result.andThen_ok, List.map_toArray, List.map_cons, List.map_nil, hs, hx, hr]

theorem keeps_lit {w wr w' : World} {o : Obj} {L : List Nat} (hk : Keeps [] w wr) (h : Keeps L (wr.alloc o) w') (hL : ∀ x, x ∈ L → x = wr.heap.size) : Keeps [] w w' :=
  (hk.alloc o).trans h (fun x hx => .inr (by rw [hL x hx]; exact hk.size))

set_option maxHeartbeats 1000000 in
theorem bytes64_any (x : Nat) (w : World) (hx : x < 18446744073709551616) :
    Calls Try.prog 35 #[.int .u64 x] w fun e w' => e = .returned (.string (str (be x 8))) ∧ Keeps [] w w' := by
  go_enter Try.func35, Try.ntmps35
  go_wp2
  go_loopw [0, 3, 4] (fun xv ov rv wr => ∃ k X R : Nat, k ≤ 8 ∧ xv = .int .u64 X ∧ X < 18446744073709551616 ∧ rv = .int .u64 R ∧ R < 18446744073709551616 ∧ Hid (X = x / 256 ^ k) ∧ Hid (R = 18446744073709551615 / 256 ^ k) ∧ (k = 0 → ov = .slice none 0 0) ∧ wr.ownsRow 0 5 1 ov k ((be x k).map u8v) ∧ Keeps [] w wr) (fun _ _ rv _ => (intOf rv).toNat)
  case atStart => exact ⟨0, x, 18446744073709551615, by omega, rfl, hx, by first | rfl | decide, by omega, by simp [Hid], by simp [Hid], fun _ => rfl, World.ownsRow_nil _ _ _ _, Keeps.refl _ _⟩
  case round =>
    obtain ⟨k, X, R, hk, rfl, hX, rfl, hR, HX, HR, h0, hown, hkp⟩ := hrel
    by_cases hlt : k < 8
    · have hR1 : 255 ≤ R := by
        have h1 : 18446744073709551615 / 256 ^ 7 ≤ 18446744073709551615 / 256 ^ k := Nat.div_le_div_left (Nat.pow_le_pow_right (by omega) (by omega)) (Nat.pow_pos (by omega))
        rw [← HR.out, show 18446744073709551615 / 256 ^ 7 = 255 by decide] at h1
        exact h1
      have hRb : ((R : Int) != 0) = true := by rw [bne_iff_ne]; omega
      have hbe : be x (k + 1) = UInt8.ofNat (x / 256 ^ k) :: be x k := rfl
      have hc1 := byte_of HX.out
      have hlit := World.ownsRow_lit (base := 0) (e := 5) (size := 1) wr #[.int .u8 ((X : Int) % 256)] 1 (Nat.zero_le _) (by unfold maxLen; omega) rfl
      have HX' : Hid (X / 256 = x / 256 ^ (k + 1)) := by unfold Hid; rw [HX.out, Nat.div_div_eq_div_mul, Nat.pow_succ]
      have HR' : Hid (R / 256 = 18446744073709551615 / 256 ^ (k + 1)) := by unfold Hid; rw [HR.out, Nat.div_div_eq_div_mul, Nat.pow_succ]
      have Hc1 := Lib.hid hc1
      have Hbe := Lib.hid hbe
      have Hlit := Lib.hid hlit
      clear hc1 hbe hlit
      by_cases hk0 : k = 0
      · subst hk0
        obtain rfl := h0 rfl
        clear h0 hown
        go_wp2_with (at_builtin; refine wpList_app0 tyBytes rfl (.tmp 14) (.tmp 15) rfl _ 1 _ rfl rfl Hlit.out ?_)
        go_roundw
        case rel => exact ⟨1, X / 256, R / 256, by omega, by go_num, by omega, by go_num, by omega, HX', HR', fun h => absurd h (by omega), by rw [Hbe.out, List.map_cons, ← Hc1.out]; exact Hlit.out, hkp.alloc _⟩
        case measure => simp [intOf] <;> omega
      · rcases hown.2 with ⟨_, h1⟩ | ⟨g, cap, cur, rfl, hrest⟩
        · omega
        have hownA := hown.alloc (.cells #[.int .u8 ((X : Int) % 256)] 5)
        have holds := hownA.cells (g := g) rfl
        have hlen : ((be x k).map u8v).length = k * 1 := by rw [List.length_map, be_length, Nat.mul_one]
        have Holds := Lib.hid holds
        have Hlen := Lib.hid hlen
        clear hrest hown hownA holds hlen h0
        go_wp2_with (at_builtin; refine wpList_appN tyBytes rfl (.tmp 14) (.tmp 15) rfl _ 1 _ rfl ⟨g, 0, none⟩ k cap _ rfl Hlen.out Holds.out Hlit.out (u8v_one _) ?c2 ?c3 ?c4)
        case c2 => omega
        case c3 => unfold maxLen; omega
        case c4 =>
        intro ad' cap' w' hown' hc'
        have hown2 : w'.ownsRow 0 5 1 (.slice ad' (1 + k) cap') (k + 1) ((be x (k + 1)).map u8v) := by
          rw [Hbe.out, List.map_cons, ← Hc1.out, Nat.add_comm k 1]; exact hown'
        have hkp' := keeps_lit hkp hc'.keeps (fun x hx => by simpa [Value.ownBlock] using hx)
        have Hown2 := Lib.hid hown2
        have Hkp' := Lib.hid hkp'
        clear hown' hown2 hc' hkp'
        go_wp2
        go_roundw
        case rel => exact ⟨k + 1, X / 256, R / 256, by omega, by go_num, by omega, by go_num, by omega, HX', HR', fun h => absurd h (by omega), Hown2.out, Hkp'.out⟩
        case measure => simp [intOf] <;> omega
    · obtain rfl : k = 8 := by omega
      have hR0 : R = 0 := by rw [HR.out]
      subst hR0
      have hcv := own_string (P := Try.prog) Try.underlying47 Try.underlying5 Try.underlying9 hown
      obtain ⟨ad, cap, rfl⟩ := ownsRow_shape hown
      clear hown h0
      go_wp2
      go_ret
      exact ⟨rfl, hkp⟩

theorem or64 (X c : Nat) (hX : X < 72057594037927936) (hc : c < 256) : bits .or .u64 ((X : Int) * 128 * 2) (c : Int) = ((X * 256 + c : Nat) : Int) := by
  have h := bits_or_u64_nat (X * 256) c (by omega) (by omega)
  have e : ((X * 256 : Nat) : Int) = (X : Int) * 128 * 2 := by omega
  rw [e] at h
  refine h.trans ?_
  congr 1
  rw [show (256 : Nat) = 2 ^ 8 from rfl, ← Nat.shiftLeft_eq, ← Nat.shiftLeft_add_eq_or_of_lt (by omega), Nat.shiftLeft_eq]

set_option maxHeartbeats 1000000 in
theorem take64_any (s : List UInt8) (w : World) (h8 : 8 ≤ s.length) (hs : s.length ≤ 1000) :
    Calls Try.prog 22 #[.string (str s)] w fun e w' => e = .returned (.tuple #[.int .u64 (num (s.take 8)), .string (str (s.drop 8))]) ∧ Keeps [] w w' := by
  have hb0 := bytes64_any 0 w (by omega)
  rw [Int.natCast_zero] at hb0
  have hbl : (be 0 8).length = 8 := be_length 0 8
  have hex : (str s).extract 8 s.length = str (s.drop 8) := by rw [str_extract, str_data, List.take_of_length_le (by rw [List.length_drop]; omega)]
  have Hb0 := Lib.hid hb0
  clear hb0
  go_enter Try.func22, Try.ntmps22
  go_wp2_with (go_at_call 35; (with_reducible refine Hb0.out.mono ?_); rintro e w1 ⟨rfl, hk1⟩)
  go_loop [4, 11] (fun xv iv => ∃ k X : Nat, k ≤ 8 ∧ iv = .int .i64 k ∧ xv = .int .u64 X ∧ Hid (X = num (s.take k))) (fun _ iv => 8 - (intOf iv).toNat)
  case atStart => exact ⟨0, 0, Nat.zero_le _, rfl, rfl, rfl⟩
  case round =>
    obtain ⟨k, X, hk, rfl, rfl, HX⟩ := hrel
    by_cases hlt : k < 8
    · have hks : k < s.length := by omega
      have hki : (k : Int) < (s.length : Int) := by omega
      have hki0 : (0 : Int) ≤ (k : Int) := by omega
      have hki8 : (k : Int) < 8 := by omega
      have hsz : k < (str s).size := by rw [str_size]; exact hks
      have hX : X < 72057594037927936 := by rw [HX.out]; exact bnum_lt' (n := 7) (by rw [List.length_take]; omega)
      have hc := ((str s)[k]'hsz).toNat_lt
      have hst : s.take (k + 1) = s.take k ++ [(str s)[k]'hsz] := List.take_succ_eq_append_getElem hks
      have Hst := Lib.hid hst
      clear hst
      have hor := or64 X ((str s)[k]'hsz).toNat hX (by omega)
      go_wp2
      go_round
      case rel => exact ⟨k + 1, X * 256 + ((str s)[k]'hsz).toNat, by omega, by go_num, by first | rfl | go_num, by unfold Hid; rw [Hst.out, bnum_snoc, ← HX.out]⟩
      case measure => simp [intOf] <;> omega
    · obtain rfl : k = 8 := by omega
      go_wp2
      go_quiet (fail)
      go_wp2
      go_ret2
      exact ⟨by rw [← HX.out]; rfl, hk1.drewN _⟩

set_option maxHeartbeats 1000000 in
theorem bytes32_any (x : Nat) (w : World) (hx : x < 4294967296) :
    Calls Try.prog 36 #[.int .u32 x] w fun e w' => e = .returned (.string (str (be x 4))) ∧ Keeps [] w w' := by
  go_enter Try.func36, Try.ntmps36
  go_wp2
  go_loopw [0, 3, 4] (fun xv ov rv wr => ∃ k X R : Nat, k ≤ 4 ∧ xv = .int .u32 X ∧ X < 4294967296 ∧ rv = .int .u32 R ∧ R < 4294967296 ∧ Hid (X = x / 256 ^ k) ∧ Hid (R = 4294967295 / 256 ^ k) ∧ (k = 0 → ov = .slice none 0 0) ∧ wr.ownsRow 0 5 1 ov k ((be x k).map u8v) ∧ Keeps [] w wr) (fun _ _ rv _ => (intOf rv).toNat)
  case atStart => exact ⟨0, x, 4294967295, by omega, rfl, hx, by first | rfl | decide, by omega, by simp [Hid], by simp [Hid], fun _ => rfl, World.ownsRow_nil _ _ _ _, Keeps.refl _ _⟩
  case round =>
    obtain ⟨k, X, R, hk, rfl, hX, rfl, hR, HX, HR, h0, hown, hkp⟩ := hrel
    by_cases hlt : k < 4
    · have hR1 : 255 ≤ R := by
        have h1 : 4294967295 / 256 ^ 3 ≤ 4294967295 / 256 ^ k := Nat.div_le_div_left (Nat.pow_le_pow_right (by omega) (by omega)) (Nat.pow_pos (by omega))
        rw [← HR.out, show 4294967295 / 256 ^ 3 = 255 by decide] at h1
        exact h1
      have hRb : ((R : Int) != 0) = true := by rw [bne_iff_ne]; omega
      have hbe : be x (k + 1) = UInt8.ofNat (x / 256 ^ k) :: be x k := rfl
      have hc1 := byte_of HX.out
      have hlit := World.ownsRow_lit (base := 0) (e := 5) (size := 1) wr #[.int .u8 ((X : Int) % 256)] 1 (Nat.zero_le _) (by unfold maxLen; omega) rfl
      have HX' : Hid (X / 256 = x / 256 ^ (k + 1)) := by unfold Hid; rw [HX.out, Nat.div_div_eq_div_mul, Nat.pow_succ]
      have HR' : Hid (R / 256 = 4294967295 / 256 ^ (k + 1)) := by unfold Hid; rw [HR.out, Nat.div_div_eq_div_mul, Nat.pow_succ]
      have Hc1 := Lib.hid hc1
      have Hbe := Lib.hid hbe
      have Hlit := Lib.hid hlit
      clear hc1 hbe hlit
      by_cases hk0 : k = 0
      · subst hk0
        obtain rfl := h0 rfl
        clear h0 hown
        go_wp2_with (at_builtin; refine wpList_app0 tyBytes rfl (.tmp 14) (.tmp 15) rfl _ 1 _ rfl rfl Hlit.out ?_)
        go_roundw
        case rel => exact ⟨1, X / 256, R / 256, by omega, by go_num, by omega, by go_num, by omega, HX', HR', fun h => absurd h (by omega), by rw [Hbe.out, List.map_cons, ← Hc1.out]; exact Hlit.out, hkp.alloc _⟩
        case measure => simp [intOf] <;> omega
      · rcases hown.2 with ⟨_, h1⟩ | ⟨g, cap, cur, rfl, hrest⟩
        · omega
        have hownA := hown.alloc (.cells #[.int .u8 ((X : Int) % 256)] 5)
        have holds := hownA.cells (g := g) rfl
        have hlen : ((be x k).map u8v).length = k * 1 := by rw [List.length_map, be_length, Nat.mul_one]
        have Holds := Lib.hid holds
        have Hlen := Lib.hid hlen
        clear hrest hown hownA holds hlen h0
        go_wp2_with (at_builtin; refine wpList_appN tyBytes rfl (.tmp 14) (.tmp 15) rfl _ 1 _ rfl ⟨g, 0, none⟩ k cap _ rfl Hlen.out Holds.out Hlit.out (u8v_one _) ?c2 ?c3 ?c4)
        case c2 => omega
        case c3 => unfold maxLen; omega
        case c4 =>
        intro ad' cap' w' hown' hc'
        have hown2 : w'.ownsRow 0 5 1 (.slice ad' (1 + k) cap') (k + 1) ((be x (k + 1)).map u8v) := by
          rw [Hbe.out, List.map_cons, ← Hc1.out, Nat.add_comm k 1]; exact hown'
        have hkp' := keeps_lit hkp hc'.keeps (fun x hx => by simpa [Value.ownBlock] using hx)
        have Hown2 := Lib.hid hown2
        have Hkp' := Lib.hid hkp'
        clear hown' hown2 hc' hkp'
        go_wp2
        go_roundw
        case rel => exact ⟨k + 1, X / 256, R / 256, by omega, by go_num, by omega, by go_num, by omega, HX', HR', fun h => absurd h (by omega), Hown2.out, Hkp'.out⟩
        case measure => simp [intOf] <;> omega
    · obtain rfl : k = 4 := by omega
      have hR0 : R = 0 := by rw [HR.out]
      subst hR0
      have hcv := own_string (P := Try.prog) Try.underlying47 Try.underlying5 Try.underlying9 hown
      obtain ⟨ad, cap, rfl⟩ := ownsRow_shape hown
      clear hown h0
      go_wp2
      go_ret
      exact ⟨rfl, hkp⟩

theorem or32 (X c : Nat) (hX : X < 16777216) (hc : c < 256) : bits .or .u32 ((X : Int) * 128 * 2) (c : Int) = ((X * 256 + c : Nat) : Int) := by
  have h := u32_or_nat (X * 256) c (by omega) (by omega)
  have e : ((X * 256 : Nat) : Int) = (X : Int) * 128 * 2 := by omega
  rw [e] at h
  refine h.trans ?_
  congr 1
  rw [show (256 : Nat) = 2 ^ 8 from rfl, ← Nat.shiftLeft_eq, ← Nat.shiftLeft_add_eq_or_of_lt (by omega), Nat.shiftLeft_eq]

set_option maxHeartbeats 1000000 in
theorem take32_any (s : List UInt8) (w : World) (h8 : 4 ≤ s.length) (hs : s.length ≤ 1000) :
    Calls Try.prog 23 #[.string (str s)] w fun e w' => e = .returned (.tuple #[.int .u32 (num (s.take 4)), .string (str (s.drop 4))]) ∧ Keeps [] w w' := by
  have hb0 := bytes32_any 0 w (by omega)
  rw [Int.natCast_zero] at hb0
  have hbl : (be 0 4).length = 4 := be_length 0 4
  have hex : (str s).extract 4 s.length = str (s.drop 4) := by rw [str_extract, str_data, List.take_of_length_le (by rw [List.length_drop]; omega)]
  have Hb0 := Lib.hid hb0
  clear hb0
  go_enter Try.func23, Try.ntmps23
  go_wp2_with (go_at_call 36; (with_reducible refine Hb0.out.mono ?_); rintro e w1 ⟨rfl, hk1⟩)
  go_loop [4, 11] (fun xv iv => ∃ k X : Nat, k ≤ 4 ∧ iv = .int .i64 k ∧ xv = .int .u32 X ∧ Hid (X = num (s.take k))) (fun _ iv => 4 - (intOf iv).toNat)
  case atStart => exact ⟨0, 0, Nat.zero_le _, rfl, rfl, rfl⟩
  case round =>
    obtain ⟨k, X, hk, rfl, rfl, HX⟩ := hrel
    by_cases hlt : k < 4
    · have hks : k < s.length := by omega
      have hki : (k : Int) < (s.length : Int) := by omega
      have hki0 : (0 : Int) ≤ (k : Int) := by omega
      have hki8 : (k : Int) < 4 := by omega
      have hsz : k < (str s).size := by rw [str_size]; exact hks
      have hX : X < 16777216 := by rw [HX.out]; exact bnum_lt' (n := 3) (by rw [List.length_take]; omega)
      have hc := ((str s)[k]'hsz).toNat_lt
      have hst : s.take (k + 1) = s.take k ++ [(str s)[k]'hsz] := List.take_succ_eq_append_getElem hks
      have Hst := Lib.hid hst
      clear hst
      have hor := or32 X ((str s)[k]'hsz).toNat hX (by omega)
      go_wp2
      go_round
      case rel => exact ⟨k + 1, X * 256 + ((str s)[k]'hsz).toNat, by omega, by go_num, by first | rfl | go_num, by unfold Hid; rw [Hst.out, bnum_snoc, ← HX.out]⟩
      case measure => simp [intOf] <;> omega
    · obtain rfl : k = 4 := by omega
      go_wp2
      go_quiet (fail)
      go_wp2
      go_ret2
      exact ⟨by rw [← HX.out]; rfl, hk1.drewN _⟩
end Go.Proofs.Ytcbpkplmaglpcaa
