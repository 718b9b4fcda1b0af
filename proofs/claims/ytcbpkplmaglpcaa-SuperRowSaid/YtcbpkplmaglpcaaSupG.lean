/- Layer 11: Decode. -/
import Derived.Test.YtcbpkplmaglpcaaSupF
namespace Go.Proofs.Ytcbpkplmaglpcaa
open Go.RowKit

/-- What Decode has in memory: its result, the superblock that it reads, four bytes' numbers, eight bytes' numbers. -/
structure DecSt (w wr : World) (B C D key a c x y z : Nat) : Prop where
  res : wr.heap[w.heap.size]? = some (.cells #[.int .u64 0, .int .i64 0, .int .i64 0, .int .i64 0, .int .i64 0, .int .i64 0] 25 (0, 0))
  sup : wr.heap[B]? = some (.cells #[.int .u64 key, .int .i64 0, .int .i64 0, .int .i64 0, .int .i64 0, .int .i64 0] 25 (0, 0))
  small : wr.heap[C]? = some (.cells #[.int .u32 a, .int .u32 c] 56 (0, 0))
  great : wr.heap[D]? = some (.cells #[.int .u64 x, .int .u64 y, .int .u64 z] 57 (0, 0))
  lo : w.heap.size < B
  bc : B < C
  cd : C < D
  keeps : Keeps [] w wr

theorem DecSt.kept {w wr w' : World} {B C D key a c x y z : Nat} (h : DecSt w wr B C D key a c x y z) (k : Keeps [] wr w') : DecSt w w' B C D key a c x y z :=
  ⟨k.some h.res (by simp), k.some h.sup (by simp), k.some h.small (by simp), k.some h.great (by simp), h.lo, h.bc, h.cd, KT h.keeps k⟩
theorem DecSt.hi {w wr : World} {B C D key a c x y z : Nat} (h : DecSt w wr B C D key a c x y z) : D < wr.heap.size := (Array.getElem?_eq_some_iff.1 h.great).1
theorem DecSt.setSmall {w wr : World} {B C D key a c x y z : Nat} (h : DecSt w wr B C D key a c x y z) (u : Nat) : DecSt w (wr.setCell ⟨C, 0, none⟩ (.int .u32 u)) B C D key u c x y z ∧ DecSt w (wr.setCell ⟨C, 1, none⟩ (.int .u32 u)) B C D key a u x y z := by
  have := h.lo; have := h.bc; have := h.cd
  exact ⟨⟨heap_ne h.res (by omega), heap_ne h.sup (by omega), heap_setCell h.small 0 _, heap_ne h.great (by omega), h.lo, h.bc, h.cd, h.keeps.setK _ _ _ (by omega)⟩,
    ⟨heap_ne h.res (by omega), heap_ne h.sup (by omega), heap_setCell h.small 1 _, heap_ne h.great (by omega), h.lo, h.bc, h.cd, h.keeps.setK _ _ _ (by omega)⟩⟩
theorem DecSt.setGreat {w wr : World} {B C D key a c x y z : Nat} (h : DecSt w wr B C D key a c x y z) (u : Nat) : DecSt w (wr.setCell ⟨D, 0, none⟩ (.int .u64 u)) B C D key a c u y z ∧ DecSt w (wr.setCell ⟨D, 1, none⟩ (.int .u64 u)) B C D key a c x u z ∧
    DecSt w (wr.setCell ⟨D, 2, none⟩ (.int .u64 u)) B C D key a c x y u := by
  have := h.lo; have := h.bc; have := h.cd
  exact ⟨⟨heap_ne h.res (by omega), heap_ne h.sup (by omega), heap_ne h.small (by omega), heap_setCell h.great 0 _, h.lo, h.bc, h.cd, h.keeps.setK _ _ _ (by omega)⟩,
    ⟨heap_ne h.res (by omega), heap_ne h.sup (by omega), heap_ne h.small (by omega), heap_setCell h.great 1 _, h.lo, h.bc, h.cd, h.keeps.setK _ _ _ (by omega)⟩,
    ⟨heap_ne h.res (by omega), heap_ne h.sup (by omega), heap_ne h.small (by omega), heap_setCell h.great 2 _, h.lo, h.bc, h.cd, h.keeps.setK _ _ _ (by omega)⟩⟩

theorem DecSt.setKey {w wr : World} {B C D key a c x y z : Nat} (h : DecSt w wr B C D key a c x y z) (u : Nat) : DecSt w (wr.setCell ⟨B, 0, none⟩ (.int .u64 u)) B C D u a c x y z := by
  have := h.lo; have := h.bc; have := h.cd
  exact ⟨heap_ne h.res (by omega), heap_setCell h.sup 0 _, heap_ne h.small (by omega), heap_ne h.great (by omega), h.lo, h.bc, h.cd, h.keeps.setK _ _ _ (by omega)⟩

theorem DecSt.first {w w1 w2 : World} {o1 o2 o3 : Obj} (h1 : o1 = .cells #[.int .u64 0, .int .i64 0, .int .i64 0, .int .i64 0, .int .i64 0, .int .i64 0] 25) (h2 : o2 = .cells #[.int .u32 0, .int .u32 0] 56) (h3 : o3 = .cells #[.int .u64 0, .int .u64 0, .int .u64 0] 57)
    (k1 : Keeps [] (w.alloc (.cells #[.int .u64 0, .int .i64 0, .int .i64 0, .int .i64 0, .int .i64 0, .int .i64 0] 25)) w1)
    (k2 : Keeps [] (((w1.alloc o1).alloc o2).alloc o3) w2) : DecSt w w2 w1.heap.size (w1.heap.size + 1) (w1.heap.size + 1 + 1) 0 0 0 0 0 0 := by
  subst h1; subst h2; subst h3
  exact ⟨k2.some (heap_was (heap_was (heap_was (k1.some (heap_at rfl) (by simp))))) (by simp), k2.some (heap_was (heap_was (heap_at rfl))) (by simp), k2.some (heap_was (heap_at (by simp))) (by simp), k2.some (heap_at (by simp)) (by simp),
    by have := k1.size; simp at this; omega, by omega, by omega, KT ((((KT ((Keeps.refl [] w).alloc _) k1).alloc _).alloc _).alloc _) k2⟩

def LoopA (w wr : World) (B C D key : Nat) (U : List UInt8) (tv iv : Value) : Prop :=
  (iv = .int .i64 0 ∧ tv = .string (str U) ∧ DecSt w wr B C D key 0 0 0 0 0) ∨
  (iv = .int .i64 1 ∧ tv = .string (str (U.drop 4)) ∧ DecSt w wr B C D key (num (U.take 4)) 0 0 0 0) ∨
  (iv = .int .i64 2 ∧ tv = .string (str (U.drop 8)) ∧ DecSt w wr B C D key (num (U.take 4)) (num ((U.drop 4).take 4)) 0 0 0)
def LoopB (w wr : World) (B C D key a c : Nat) (U : List UInt8) (tv iv : Value) : Prop :=
  (iv = .int .i64 0 ∧ tv = .string (str U) ∧ DecSt w wr B C D key a c 0 0 0) ∨
  (iv = .int .i64 1 ∧ tv = .string (str (U.drop 8)) ∧ DecSt w wr B C D key a c (num (U.take 8)) 0 0) ∨
  (iv = .int .i64 2 ∧ tv = .string (str (U.drop 16)) ∧ DecSt w wr B C D key a c (num (U.take 8)) (num ((U.drop 8).take 8)) 0) ∨
  (iv = .int .i64 3 ∧ DecSt w wr B C D key a c (num (U.take 8)) (num ((U.drop 8).take 8)) (num ((U.drop 16).take 8)))

set_option maxHeartbeats 1000000 in
set_option maxRecDepth 100000 in
theorem decode_len (s : List UInt8) (w : World) (h : s.length ≠ 64) : Calls Try.prog 10 #[.string (str s)] w fun e w' => e = .returned (.tuple #[Sup.nil.agg, .int .i64 30]) ∧ Keeps [] w w' := by
  rw [nil_agg]
  have hb : ((s.length : Int) != 64) = true := by rw [bne_iff_ne]; omega
  have hRES := heap_at (w := w) (o := .cells #[.int .u64 0, .int .i64 0, .int .i64 0, .int .i64 0, .int .i64 0, .int .i64 0] 25 (0, 0)) rfl
  have HR := Lib.hid hRES
  clear hRES h
  go_enter Try.func10, Try.ntmps10
  go_wp2
  refine bodyPost_ret (results_row_tmp rfl rfl HR.out Try.underlying25 rfl (by kernel_rfl)) rfl ⟨rfl, ?_⟩
  exact (Keeps.refl [] w).alloc _

set_option maxHeartbeats 1000000 in
set_option maxRecDepth 100000 in
theorem decode_sum (s : List UInt8) (w : World) (h : s.length = 64) (h0 : (crcOpen s).2 ≠ 0) : Calls Try.prog 10 #[.string (str s)] w fun e w' => e = .returned (.tuple #[Sup.nil.agg, .int .i64 (crcOpen s).2]) ∧ Keeps [] w w' := by
  rw [nil_agg]
  have hb : ((crcOpen s).2 != 0) = true := by rw [bne_iff_ne]; exact h0
  have Ho := Lib.hid (fun w => open_any s w (by omega))
  generalize crcOpen s = O at *
  clear h0
  obtain ⟨O1, O2⟩ := O
  dsimp only at *
  go_enter Try.func10, Try.ntmps10
  go_wp2_with (first
    | (go_at_call 21; (with_reducible refine (Ho.out _).mono ?_); rintro e w1 ⟨rfl, k1⟩; have hRES := k1.some (heap_at rfl) (by simp); obtain ⟨⟨d0, d1, d2, d3, d4, d5⟩, g0, g1, g2, g3, g4, g5⟩ := cells6 hRES; have HR := Lib.hid hRES; clear hRES))
  refine bodyPost_ret (results_row_tmp rfl rfl (heap_set6 HR.out _ _ _ _ _ _) Try.underlying25 rfl (by kernel_rfl)) rfl ⟨rfl, ?_⟩
  exact keeps_set6 (KT ((Keeps.refl [] w).alloc _) k1) (by omega) _ _ _ _ _ _

set_option maxHeartbeats 4000000 in
set_option maxRecDepth 100000 in
theorem decode_go (s : List UInt8) (w : World) (h : s.length = 64) (h0 : (crcOpen s).2 = 0) : Calls Try.prog 10 #[.string (str s)] w fun e w' => e = .returned (.tuple #[(supDecode s).1.agg, .int .i64 (supDecode s).2]) ∧ Keeps [] w w' := by
  have Ho := Lib.hid (fun w => open_any s w (by omega))
  have hT : crcOpen s = (s.take 60, 0) := by
    unfold crcOpen at h0 ⊢
    rw [if_neg (by omega)] at h0 ⊢
    rw [h, show 64 - 4 = 60 by rfl] at h0 ⊢
    split at h0
    · rename_i he; rw [if_pos he]
    · simp at h0
  have hdec : supDecode s = if (supOf (s.take 60)).fits s then (supOf (s.take 60), 0) else (.nil, 12) := by
    unfold supDecode
    rw [if_neg (by simp [h]), hT]
    simp
  rw [hdec]
  rw [hT] at Ho
  clear hT hdec h0
  obtain ⟨T, hTT⟩ : ∃ T, T = s.take 60 := ⟨_, rfl⟩
  rw [← hTT] at Ho ⊢
  have lT : T.length = 60 := by rw [hTT, List.length_take]; omega
  clear hTT
  dsimp only at Ho
  obtain ⟨U, hU⟩ : ∃ U, U = T.drop 4 := ⟨_, rfl⟩
  have lU : U.length = 56 := by rw [hU, List.length_drop]; omega
  have hex : (str T).extract 4 60 = str U := by rw [str_extract, str_data, hU, List.take_of_length_le (by rw [List.length_drop]; omega)]
  have TK := Lib.hid (fun w => take64_any U w (by omega) (by omega))
  obtain ⟨V, hV⟩ : ∃ V, V = U.drop 8 := ⟨_, rfl⟩
  have lV : V.length = 48 := by rw [hV, List.length_drop]; omega
  rw [← hV] at TK
  have TA := Lib.hid (fun w => take32_any V w (by omega) (by omega))
  have TB := Lib.hid (fun w => take32_any (V.drop 4) w (by rw [List.length_drop]; omega) (by rw [List.length_drop]; omega))
  rw [List.drop_drop] at TB
  obtain ⟨X, hX⟩ : ∃ X, X = V.drop 8 := ⟨_, rfl⟩
  have lX : X.length = 40 := by rw [hX, List.length_drop]; omega
  have T0 := Lib.hid (fun w => take64_any X w (by omega) (by omega))
  have T1 := Lib.hid (fun w => take64_any (X.drop 8) w (by rw [List.length_drop]; omega) (by rw [List.length_drop]; omega))
  have T2 := Lib.hid (fun w => take64_any (X.drop 16) w (by rw [List.length_drop]; omega) (by rw [List.length_drop]; omega))
  rw [List.drop_drop] at T1 T2
  have hsup : supOf T = ⟨num (U.take 8), num (V.take 4), snum (num (X.take 8)), num ((V.drop 4).take 4), snum (num ((X.drop 8).take 8)), snum (num ((X.drop 16).take 8))⟩ := by
    unfold supOf
    rw [hX, hV, hU]
    simp only [List.drop_drop]
  have Hex := Lib.hid hex
  have HlT := Lib.hid lT
  have hxV : str (V.drop 8) = str X := by rw [hX]
  have HxV := Lib.hid hxV
  clear hU hV hX hex hxV
  generalize hR : (if (supOf T).fits s = true then (supOf T, (0 : Int)) else (Sup.nil, 12)) = R
  have HR := Lib.hid hR
  have Hsup := Lib.hid hsup
  clear hR hsup lU lV lX
  have hb : ((s.length : Int) != 64) = false := by rw [h]; rfl
  have hexa := Hex.out
  have hlTa := HlT.out
  go_enter Try.func10, Try.ntmps10
  go_wp2_with (first
    | (go_at_call 21; (with_reducible refine (Ho.out _).mono ?_); rintro e w1 ⟨rfl, k1⟩)
    | (go_at_call 22; (with_reducible refine (TK.out _).mono ?_); rintro e w2 ⟨rfl, k2⟩; have hD := DecSt.first rfl rfl rfl k1 k2; obtain ⟨⟨c0, _⟩, f0, _⟩ := cells6 hD.sup; have HD := Lib.hid (hD.setKey (num (U.take 8))); clear hD))
  clear k1 k2 c0 f0 hexa hlTa
  generalize w1.heap.size + 1 + 1 = D at *
  generalize w1.heap.size + 1 = C at *
  generalize w1.heap.size = B at *
  generalize hKey : num (U.take 8) = key at *
  have HKey := Lib.hid hKey
  clear hKey
  generalize w2.setCell ⟨B, 0, none⟩ (.int .u64 key) = w3 at *
  go_loopw [4, 31] (fun tv iv wr => LoopA w wr B C D key V tv iv) (fun _ iv _ => 2 - (intOf iv).toNat)
  case atStart => exact .inl ⟨rfl, rfl, HD.out⟩
  case round =>
    unfold LoopA at hrel
    rcases hrel with ⟨rfl, rfl, hD⟩ | ⟨rfl, rfl, hD⟩ | ⟨rfl, rfl, hD⟩
    · have Hd := Lib.hid hD
      clear hD
      go_wp2_with (first
        | (go_at_call 23; (with_reducible refine (TA.out _).mono ?_); rintro e w4 ⟨rfl, k4⟩; have hd := Hd.out.kept k4; have c0 := cell_of_heap hd.small 0; have f0 := free_of_heap hd.small 0; have Hn := Lib.hid (hd.setSmall (num (V.take 4))).1; clear hd))
      go_roundw
      case rel => exact .inr (.inl ⟨rfl, rfl, Hn.out⟩)
      case measure => simp [intOf]
    · have Hd := Lib.hid hD
      clear hD
      go_wp2_with (first
        | (go_at_call 23; (with_reducible refine (TB.out _).mono ?_); rintro e w4 ⟨rfl, k4⟩; have hd := Hd.out.kept k4; have c0 := cell_of_heap hd.small 1; have f0 := free_of_heap hd.small 1; have Hn := Lib.hid (hd.setSmall (num ((V.drop 4).take 4))).2; clear hd))
      go_roundw
      case rel => exact .inr (.inr ⟨rfl, rfl, Hn.out⟩)
      case measure => simp [intOf]
    · rw [HxV.out]
      have Hd := Lib.hid hD
      clear hD
      generalize hA4 : num (V.take 4) = A4 at *
      generalize hC4 : num ((V.drop 4).take 4) = C4 at *
      have HA4 := Lib.hid hA4
      have HC4 := Lib.hid hC4
      clear hA4 hC4
      go_wp2
      obtain ⟨wo, rfl⟩ : ∃ wo : World, wo = wr := ⟨_, rfl⟩
      go_loopw [4, 42] (fun tv iv wr => LoopB w wr B C D key A4 C4 X tv iv) (fun _ iv _ => 3 - (intOf iv).toNat)
      case atStart => exact .inl ⟨rfl, rfl, Hd.out⟩
      case round =>
        unfold LoopB at hrel
        clear Hd
        rcases hrel with ⟨rfl, rfl, hD⟩ | ⟨rfl, rfl, hD⟩ | ⟨rfl, rfl, hD⟩ | ⟨rfl, hD⟩
        · have Hd := Lib.hid hD
          clear hD
          go_wp2_with (first
            | (go_at_call 22; (with_reducible refine (T0.out _).mono ?_); rintro e w4 ⟨rfl, k4⟩; have hd := Hd.out.kept k4; have c0 := cell_of_heap hd.great 0; have f0 := free_of_heap hd.great 0; have Hn := Lib.hid (hd.setGreat (num (X.take 8))).1; clear hd))
          go_roundw
          case rel => exact .inr (.inl ⟨rfl, rfl, Hn.out⟩)
          case measure => simp [intOf]
        · have Hd := Lib.hid hD
          clear hD
          go_wp2_with (first
            | (go_at_call 22; (with_reducible refine (T1.out _).mono ?_); rintro e w4 ⟨rfl, k4⟩; have hd := Hd.out.kept k4; have c0 := cell_of_heap hd.great 1; have f0 := free_of_heap hd.great 1; have Hn := Lib.hid (hd.setGreat (num ((X.drop 8).take 8))).2.1; clear hd))
          go_roundw
          case rel => exact .inr (.inr (.inl ⟨rfl, rfl, Hn.out⟩))
          case measure => simp [intOf]
        · have Hd := Lib.hid hD
          clear hD
          go_wp2_with (first
            | (go_at_call 22; (with_reducible refine (T2.out _).mono ?_); rintro e w4 ⟨rfl, k4⟩; have hd := Hd.out.kept k4; have c0 := cell_of_heap hd.great 2; have f0 := free_of_heap hd.great 2; have Hn := Lib.hid (hd.setGreat (num ((X.drop 16).take 8))).2.2; clear hd))
          go_roundw
          case rel => exact .inr (.inr (.inr ⟨rfl, Hn.out⟩))
          case measure => simp [intOf]
        · have Hd := Lib.hid hD
          clear hD T0 T1 T2 TA TB TK HD
          generalize hx1 : num (X.take 8) = x1 at *
          have Hx1 := Lib.hid hx1
          clear hx1
          generalize hx2 : num ((X.drop 8).take 8) = x2 at *
          have Hx2 := Lib.hid hx2
          clear hx2
          generalize hx3 : num ((X.drop 16).take 8) = x3 at *
          have Hx3 := Lib.hid hx3
          clear hx3
          have c0 := cell_of_heap Hd.out.small 0
          have c1 := cell_of_heap Hd.out.small 1
          obtain ⟨⟨d0, d1, d2, d3, d4, d5⟩, f0, f1, f2, f3, f4, f5⟩ := cells6 Hd.out.sup
          go_wp2
          have n1 : ¬ B = C := by have := Hd.out.bc; omega
          have n2 : ¬ C = B := by have := Hd.out.bc; omega
          have n3 : ¬ B = D := by have := Hd.out.bc; have := Hd.out.cd; omega
          have n4 : ¬ D = B := by have := Hd.out.bc; have := Hd.out.cd; omega
          have hA4 : A4 < 4294967296 := by rw [← HA4.out]; exact bnum_lt' (n := 4) (List.length_take_le _ _)
          have hC4 : C4 < 4294967296 := by rw [← HC4.out]; exact bnum_lt' (n := 4) (List.length_take_le _ _)
          have wA : wrap64 (A4 : Int) = A4 := by unfold wrap64; omega
          have wC : wrap64 (C4 : Int) = C4 := by unfold wrap64; omega
          have wA2 : IntKind.i64.wrap (A4 : Int) = A4 := IntWalk.i64_in _ ⟨by omega, by omega⟩
          have wC2 : IntKind.i64.wrap (C4 : Int) = C4 := IntWalk.i64_in _ ⟨by omega, by omega⟩
          go_region_held3 (fun w' => w'.cell? ⟨C, 0, none⟩ = some (.int .u32 A4) ∧ w'.cell? ⟨C, 1, none⟩ = some (.int .u32 C4)) (go_keep) (fail)
          have e0 := cell_of_heap Hd.out.great 0
          have e1 := cell_of_heap Hd.out.great 1
          have e2 := cell_of_heap Hd.out.great 2
          clear c0 c1 wA wC wA2 wC2 hA4 hC4
          have HX1 : x1 < 18446744073709551616 := by rw [← Hx1.out]; exact bnum_lt' (n := 8) (List.length_take_le _ _)
          have HX2 : x2 < 18446744073709551616 := by rw [← Hx2.out]; exact bnum_lt' (n := 8) (List.length_take_le _ _)
          have HX3 : x3 < 18446744073709551616 := by rw [← Hx3.out]; exact bnum_lt' (n := 8) (List.length_take_le _ _)
          have N1 := Lib.hid (fun w => number_any x1 w HX1)
          have N2 := Lib.hid (fun w => number_any x2 w HX2)
          have N3 := Lib.hid (fun w => number_any x3 w HX3)
          generalize hS1 : (if 1099511627776 ≤ x1 then (-1 : Int) else (x1 : Int)) = S1 at *
          generalize hS2 : (if 1099511627776 ≤ x2 then (-1 : Int) else (x2 : Int)) = S2 at *
          generalize hS3 : (if 1099511627776 ≤ x3 then (-1 : Int) else (x3 : Int)) = S3 at *
          have HS1 := Lib.hid hS1
          have HS2 := Lib.hid hS2
          have HS3 := Lib.hid hS3
          clear hS1 hS2 hS3 HX1 HX2 HX3
          go_wp2
          go_region_held3 (fun w' => w'.cell? ⟨D, 0, none⟩ = some (.int .u64 x1) ∧ w'.cell? ⟨D, 1, none⟩ = some (.int .u64 x2) ∧ w'.cell? ⟨D, 2, none⟩ = some (.int .u64 x3)) (go_keep)
            (first
              | (go_at_call 24; (with_reducible refine (N1.out _).mono ?_); rintro e w1 ⟨rfl, rfl⟩)
              | (go_at_call 24; (with_reducible refine (N2.out _).mono ?_); rintro e w1 ⟨rfl, rfl⟩)
              | (go_at_call 24; (with_reducible refine (N3.out _).mono ?_); rintro e w1 ⟨rfl, rfl⟩))
          have hq : supOf T = ⟨key, A4, S1, C4, S2, S3⟩ := by
            rw [Hsup.out, ← HS1.out, ← HS2.out, ← HS3.out]; rfl
          have b1 : -1 ≤ S1 ∧ S1 < 1099511627776 := by rw [← HS1.out]; split <;> omega
          have b2 : -1 ≤ S2 ∧ S2 < 1099511627776 := by rw [← HS2.out]; split <;> omega
          have b3 : -1 ≤ S3 ∧ S3 < 1099511627776 := by rw [← HS3.out]; split <;> omega
          have hA4 : A4 < 4294967296 := by rw [← HA4.out]; exact bnum_lt' (n := 4) (List.length_take_le _ _)
          have hC4 : C4 < 4294967296 := by rw [← HC4.out]; exact bnum_lt' (n := 4) (List.length_take_le _ _)
          have hK : key < 18446744073709551616 := by rw [← HKey.out]; exact bnum_lt' (n := 8) (List.length_take_le _ _)
          have hg : (⟨key, A4, S1, C4, S2, S3⟩ : Sup).good := ⟨hK, by show _ ≤ (A4 : Int); omega, by show (A4 : Int) ≤ _; omega, by show _ ≤ S1; omega, by show S1 ≤ _; omega, by show _ ≤ (C4 : Int); omega, by show (C4 : Int) ≤ _; omega, by show _ ≤ S2; omega, by show S2 ≤ _; omega, by show _ ≤ S3; omega, by show S3 ≤ _; omega⟩
          have lo := Hd.out.lo
          have hres := heap_ne (o := 5) (v := .int .i64 S3) (heap_ne (o := 4) (v := .int .i64 S2) (heap_ne (o := 2) (v := .int .i64 S1) (heap_ne (o := 3) (v := .int .i64 C4) (heap_ne (o := 1) (v := .int .i64 A4) Hd.out.res (show w.heap.size ≠ B by omega)) (show w.heap.size ≠ B by omega)) (show w.heap.size ≠ B by omega)) (show w.heap.size ≠ B by omega)) (show w.heap.size ≠ B by omega)
          have hsup : ((((((wr.setCell ⟨B, 1, none⟩ (.int .i64 A4)).setCell ⟨B, 3, none⟩ (.int .i64 C4)).setCell ⟨B, 2, none⟩ (.int .i64 S1)).setCell ⟨B, 4, none⟩ (.int .i64 S2)).setCell ⟨B, 5, none⟩ (.int .i64 S3)).drew.drew).heap[B]? = some (.cells #[.int .u64 key, .int .i64 A4, .int .i64 S1, .int .i64 C4, .int .i64 S2, .int .i64 S3] 25 (0, 0)) :=
            heap_setCell (heap_setCell (heap_setCell (heap_setCell (heap_setCell Hd.out.sup 1 _) 3 _) 2 _) 4 _) 5 _
          have hres' : ((((((wr.setCell ⟨B, 1, none⟩ (.int .i64 A4)).setCell ⟨B, 3, none⟩ (.int .i64 C4)).setCell ⟨B, 2, none⟩ (.int .i64 S1)).setCell ⟨B, 4, none⟩ (.int .i64 S2)).setCell ⟨B, 5, none⟩ (.int .i64 S3)).drew.drew).heap[w.heap.size]? = some (.cells #[.int .u64 0, .int .i64 0, .int .i64 0, .int .i64 0, .int .i64 0, .int .i64 0] 25 (0, 0)) := hres
          have hk5 : Keeps [] w ((((((wr.setCell ⟨B, 1, none⟩ (.int .i64 A4)).setCell ⟨B, 3, none⟩ (.int .i64 C4)).setCell ⟨B, 2, none⟩ (.int .i64 S1)).setCell ⟨B, 4, none⟩ (.int .i64 S2)).setCell ⟨B, 5, none⟩ (.int .i64 S3)).drew.drew) :=
            ((((((Hd.out.keeps.setK _ _ _ (by omega)).setK _ _ _ (by omega)).setK _ _ _ (by omega)).setK _ _ _ (by omega)).setK _ _ _ (by omega)).drew).drew
          clear hres d0 d1 d2 d3 d4 d5 f0 f1 f2 f3 f4 f5 e0 e1 e2 Hd
          generalize ((((((wr.setCell ⟨B, 1, none⟩ (.int .i64 A4)).setCell ⟨B, 3, none⟩ (.int .i64 C4)).setCell ⟨B, 2, none⟩ (.int .i64 S1)).setCell ⟨B, 4, none⟩ (.int .i64 S2)).setCell ⟨B, 5, none⟩ (.int .i64 S3)).drew.drew) = w5 at *
          obtain ⟨⟨c0, c1, c2, c3, c4, c5⟩, _⟩ := cells6 hsup
          obtain ⟨⟨d0, d1, d2, d3, d4, d5⟩, f0, f1, f2, f3, f4, f5⟩ := cells6 hres'
          have Hsup5 := Lib.hid hsup
          have Hres5 := Lib.hid hres'
          have Hck := Lib.hid (fun w => check_any ⟨key, A4, S1, C4, S2, S3⟩ hg w)
          clear hg b1 b2 b3 hA4 hC4 hsup hres' n1 n2 n3 n4
          unfold Sup.agg at Hck
          dsimp only at Hck
          by_cases hc : (⟨key, A4, S1, C4, S2, S3⟩ : Sup).check = 0
          · have Hse := Lib.hid (fun w => sector_any ⟨key, A4, S1, C4, S2, S3⟩ hK hc w)
            unfold Sup.agg at Hse
            dsimp only at Hse
            rw [hc] at Hck
            by_cases hf : (⟨key, A4, S1, C4, S2, S3⟩ : Sup).sector = s
            · have hR : R = (⟨key, A4, S1, C4, S2, S3⟩, 0) := by rw [← HR.out, hq, if_pos (by unfold Sup.fits; exact decide_eq_true ⟨hc, hf⟩)]
              subst hR
              rw [hf] at Hse
              clear hc hf hq hK HR
              go_wp2_with (first
                | (go_at_call 18; (with_reducible refine (Hck.out _).mono ?_); rintro e w6 ⟨rfl, k6⟩; clear c0 c1 c2 c3 c4 c5 d0 d1 d2 d3 d4 d5 f0 f1 f2 f3 f4 f5; obtain ⟨⟨c0, c1, c2, c3, c4, c5⟩, _⟩ := cells6 (k6.some Hsup5.out (by simp)); obtain ⟨⟨d0, d1, d2, d3, d4, d5⟩, f0, f1, f2, f3, f4, f5⟩ := cells6 (k6.some Hres5.out (by simp)))
                | (go_at_call 25; (with_reducible refine (Hse.out _).mono ?_); rintro e w7 ⟨rfl, k7⟩; clear c0 c1 c2 c3 c4 c5 d0 d1 d2 d3 d4 d5 f0 f1 f2 f3 f4 f5; obtain ⟨⟨c0, c1, c2, c3, c4, c5⟩, _⟩ := cells6 ((KT k6 k7).some Hsup5.out (by simp)); obtain ⟨⟨d0, d1, d2, d3, d4, d5⟩, f0, f1, f2, f3, f4, f5⟩ := cells6 ((KT k6 k7).some Hres5.out (by simp))))
              refine bodyPost_ret (results_row_tmp rfl rfl (heap_set6 ((KT k6 k7).some Hres5.out (by simp)) _ _ _ _ _ _) Try.underlying25 rfl (by kernel_rfl)) rfl ⟨rfl, ?_⟩
              exact keeps_set6 (KT hk5 (KT k6 k7)) (by omega) _ _ _ _ _ _
            · have hR : R = (Sup.nil, 12) := by rw [← HR.out, hq, if_neg (by unfold Sup.fits; simp [hf])]
              subst hR
              have hb1 : ((⟨key, A4, S1, C4, S2, S3⟩ : Sup).sector == s) = false := by rw [beq_eq_false_iff_ne]; exact hf
              have hb2 : ((⟨key, A4, S1, C4, S2, S3⟩ : Sup).sector != s) = true := by rw [bne_iff_ne]; exact hf
              generalize (⟨key, A4, S1, C4, S2, S3⟩ : Sup).sector = SE at *
              clear hc hf hq hK HR
              go_wp2_with (first
                | (go_at_call 18; (with_reducible refine (Hck.out _).mono ?_); rintro e w6 ⟨rfl, k6⟩; clear c0 c1 c2 c3 c4 c5 d0 d1 d2 d3 d4 d5 f0 f1 f2 f3 f4 f5; obtain ⟨⟨c0, c1, c2, c3, c4, c5⟩, _⟩ := cells6 (k6.some Hsup5.out (by simp)); obtain ⟨⟨d0, d1, d2, d3, d4, d5⟩, f0, f1, f2, f3, f4, f5⟩ := cells6 (k6.some Hres5.out (by simp)))
                | (go_at_call 25; (with_reducible refine (Hse.out _).mono ?_); rintro e w7 ⟨rfl, k7⟩; clear c0 c1 c2 c3 c4 c5 d0 d1 d2 d3 d4 d5 f0 f1 f2 f3 f4 f5; obtain ⟨⟨c0, c1, c2, c3, c4, c5⟩, _⟩ := cells6 ((KT k6 k7).some Hsup5.out (by simp)); obtain ⟨⟨d0, d1, d2, d3, d4, d5⟩, f0, f1, f2, f3, f4, f5⟩ := cells6 ((KT k6 k7).some Hres5.out (by simp))))
              refine bodyPost_ret (results_row_tmp rfl rfl (heap_set6 ((KT k6 k7).some Hres5.out (by simp)) _ _ _ _ _ _) Try.underlying25 rfl (by kernel_rfl)) rfl ⟨rfl, ?_⟩
              exact keeps_set6 (KT hk5 (KT k6 k7)) (by omega) _ _ _ _ _ _
          · have hR : R = (Sup.nil, 12) := by rw [← HR.out, hq, if_neg (by unfold Sup.fits; simp [hc])]
            subst hR
            have hb1 : ((⟨key, A4, S1, C4, S2, S3⟩ : Sup).check != 0) = true := by rw [bne_iff_ne]; exact hc
            generalize (⟨key, A4, S1, C4, S2, S3⟩ : Sup).check = CK at *
            clear hc hq hK HR
            go_wp2_with (first
              | (go_at_call 18; (with_reducible refine (Hck.out _).mono ?_); rintro e w6 ⟨rfl, k6⟩; clear c0 c1 c2 c3 c4 c5 d0 d1 d2 d3 d4 d5 f0 f1 f2 f3 f4 f5; obtain ⟨⟨c0, c1, c2, c3, c4, c5⟩, _⟩ := cells6 (k6.some Hsup5.out (by simp)); obtain ⟨⟨d0, d1, d2, d3, d4, d5⟩, f0, f1, f2, f3, f4, f5⟩ := cells6 (k6.some Hres5.out (by simp))))
            refine bodyPost_ret (results_row_tmp rfl rfl (heap_set6 (k6.some Hres5.out (by simp)) _ _ _ _ _ _) Try.underlying25 rfl (by kernel_rfl)) rfl ⟨rfl, ?_⟩
            exact keeps_set6 (KT hk5 k6) (by omega) _ _ _ _ _ _

theorem decode_any (s : List UInt8) (w : World) (_hs : s.length ≤ 140737488351232) : Calls Try.prog 10 #[.string (str s)] w fun e w' => e = .returned (.tuple #[(supDecode s).1.agg, .int .i64 (supDecode s).2]) ∧ Keeps [] w w' := by
  by_cases h : s.length = 64
  · by_cases h0 : (crcOpen s).2 = 0
    · exact decode_go s w h h0
    · have hd : supDecode s = (.nil, (crcOpen s).2) := by unfold supDecode; rw [if_neg (by simp [h]), if_pos h0]
      rw [hd]
      exact decode_sum s w h h0
  · have hd : supDecode s = (.nil, 30) := by unfold supDecode; rw [if_pos h]
    rw [hd]
    exact decode_len s w h
end Go.Proofs.Ytcbpkplmaglpcaa
