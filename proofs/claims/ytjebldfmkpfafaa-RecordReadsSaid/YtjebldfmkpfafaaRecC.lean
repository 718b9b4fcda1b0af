/- Layer 10: what is written of a record. -/
import Derived.Test.YtjebldfmkpfafaaRecB
import Derived.Test.YtjebldfmkpfafaaWireI
namespace Go.Proofs.Ytjebldfmkpfafaa
open Go.RowKit
set_option maxRecDepth 100000

/-- Var on numbers that were just laid. -/
theorem varL_any {b : Nat} {F : List Nat} {l : List UInt8} {W : World} (xs : List Nat) (n : Nat) (hn : xs.length = n) {k : Nat} (hk : k = W.heap.size) (ho : OutAt W b l F) (hl : l.length + 9 * xs.length ≤ 1000000000) (hx : ∀ x, x ∈ xs → x < 18446744073709551616) :
    Calls Try.prog 41 #[.pointer (some ⟨b, 0, none⟩), .slice (some ⟨k, 0, none⟩) n n] (W.alloc (.cells (xs.map u64v).toArray 68)) fun e w' => e = .returned (.tuple #[]) ∧ ∃ F', OutAt w' b (l ++ xs.flatMap vby) F' ∧ Chg F F' W w' := by
  subst hk
  exact (outVar_any b F l xs _ hl hx (ho.keep ((Keeps.refl [] _).alloc _) (by simp)) _ [W.heap.size] (SlAt.lit W (xs.map u64v) 68 n (by simpa using hn)) (fun x hx hx' => by have := ho.lt x hx'; simp at hx; omega) (by simp)).mono
    fun e w' ⟨he, F', h1, h2⟩ => ⟨he, F', h1, h2.alloc⟩
theorem var1_any {b : Nat} {F : List Nat} {l : List UInt8} {W : World} (x : Nat) {k : Nat} (hk : k = W.heap.size) (ho : OutAt W b l F) (hl : l.length ≤ 999999000) (hx : x < 18446744073709551616) :
    Calls Try.prog 41 #[.pointer (some ⟨b, 0, none⟩), .slice (some ⟨k, 0, none⟩) 1 1] (W.alloc (.cells #[.int .u64 (x : Int)] 68)) fun e w' => e = .returned (.tuple #[]) ∧ ∃ F', OutAt w' b (l ++ vby x) F' ∧ Chg F F' W w' :=
  (varL_any [x] 1 rfl hk ho (by simp; omega) (by simpa using hx)).mono fun e w' ⟨he, F', h1, h2⟩ => ⟨he, F', by simpa using h1, h2⟩
theorem var2_any {b : Nat} {F : List Nat} {l : List UInt8} {W : World} (x y : Nat) {k : Nat} (hk : k = W.heap.size) (ho : OutAt W b l F) (hl : l.length ≤ 999999000) (hx : x < 18446744073709551616) (hy : y < 18446744073709551616) :
    Calls Try.prog 41 #[.pointer (some ⟨b, 0, none⟩), .slice (some ⟨k, 0, none⟩) 2 2] (W.alloc (.cells #[.int .u64 (x : Int), .int .u64 (y : Int)] 68)) fun e w' => e = .returned (.tuple #[]) ∧ ∃ F', OutAt w' b (l ++ (vby x ++ vby y)) F' ∧ Chg F F' W w' :=
  (varL_any [x, y] 2 rfl hk ho (by simp; omega) (by simp [hx, hy])).mono fun e w' ⟨he, F', h1, h2⟩ => ⟨he, F', by simpa using h1, h2⟩
theorem var3_any {b : Nat} {F : List Nat} {l : List UInt8} {W : World} (x y z : Nat) {zv : Int} (hzv : zv = (z : Int)) {k : Nat} (hk : k = W.heap.size) (ho : OutAt W b l F) (hl : l.length ≤ 999999000) (hx : x < 18446744073709551616) (hy : y < 18446744073709551616) (hz : z < 18446744073709551616) :
    Calls Try.prog 41 #[.pointer (some ⟨b, 0, none⟩), .slice (some ⟨k, 0, none⟩) 3 3] (W.alloc (.cells #[.int .u64 (x : Int), .int .u64 (y : Int), .int .u64 zv] 68)) fun e w' => e = .returned (.tuple #[]) ∧ ∃ F', OutAt w' b (l ++ (vby x ++ vby y ++ vby z)) F' ∧ Chg F F' W w' := by
  subst hzv
  exact (varL_any [x, y, z] 3 rfl hk ho (by simp; omega) (by simp [hx, hy, hz])).mono fun e w' ⟨he, F', h1, h2⟩ => ⟨he, F', by simpa using h1, h2⟩
theorem raw1_any {b : Nat} {F : List Nat} {l : List UInt8} {W : World} (s : List UInt8) {k : Nat} (hk : k = W.heap.size) (ho : OutAt W b l F) (hl : l.length + s.length ≤ 1000000000) :
    Calls Try.prog 43 #[.pointer (some ⟨b, 0, none⟩), .slice (some ⟨k, 0, none⟩) 1 1] (W.alloc (.cells #[.string (str s)] 9)) fun e w' => e = .returned (.tuple #[]) ∧ ∃ F', OutAt w' b (l ++ s) F' ∧ Chg F F' W w' := by
  subst hk
  exact (outRaw_any b F l [str s] _ (by simp [raws]; omega) (by simp) (ho.keep ((Keeps.refl [] _).alloc _) (by simp)) _ [W.heap.size] (SlAt.lit W [.string (str s)] 9 1 rfl) (fun x hx hx' => by have := ho.lt x hx'; simp at hx; omega) (by simp)).mono
    fun e w' ⟨he, F', h1, h2⟩ => ⟨he, F', by simpa [raws] using h1, h2.alloc⟩
theorem raw2_any {b : Nat} {F : List Nat} {l : List UInt8} {W : World} (s t : List UInt8) {k : Nat} (hk : k = W.heap.size) (ho : OutAt W b l F) (hl : l.length + s.length + t.length ≤ 1000000000) :
    Calls Try.prog 43 #[.pointer (some ⟨b, 0, none⟩), .slice (some ⟨k, 0, none⟩) 2 2] (W.alloc (.cells #[.string (str s), .string (str t)] 9)) fun e w' => e = .returned (.tuple #[]) ∧ ∃ F', OutAt w' b (l ++ s ++ t) F' ∧ Chg F F' W w' := by
  subst hk
  exact (outRaw_any b F l [str s, str t] _ (by simp [raws]; omega) (by simp) (ho.keep ((Keeps.refl [] _).alloc _) (by simp)) _ [W.heap.size] (SlAt.lit W [.string (str s), .string (str t)] 9 2 rfl) (fun x hx hx' => by have := ho.lt x hx'; simp at hx; omega) (by simp)).mono
    fun e w' ⟨he, F', h1, h2⟩ => ⟨he, F', by simpa [raws] using h1, h2.alloc⟩
theorem text1_any {b : Nat} {F : List Nat} {l : List UInt8} {W : World} (s : List UInt8) {k : Nat} (hk : k = W.heap.size) (ho : OutAt W b l F) (hl : l.length + s.length ≤ 800000000) :
    Calls Try.prog 57 #[.pointer (some ⟨b, 0, none⟩), .slice (some ⟨k, 0, none⟩) 1 1] (W.alloc (.cells #[.string (str s)] 9)) fun e w' => e = .returned (.tuple #[]) ∧ ∃ F', OutAt w' b (l ++ (vby s.length ++ s)) F' ∧ Chg F F' W w' := by
  subst hk
  have hb := (vsz_bd s.length).2
  exact (outText_any b F l [str s] _ (by simp [txts, vby_length]; omega) (by simp) (ho.keep ((Keeps.refl [] _).alloc _) (by simp)) _ [W.heap.size] (SlAt.lit W [.string (str s)] 9 1 rfl) (fun x hx hx' => by have := ho.lt x hx'; simp at hx; omega) (by simp)).mono
    fun e w' ⟨he, F', h1, h2⟩ => ⟨he, F', by simpa [txts] using h1, h2.alloc⟩

theorem spB_snoc (l : List Sp) (s : Sp) : Rc.spB (l ++ [s]) = Rc.spB l ++ (vby s.1.toNat ++ vby s.2.toNat) := by unfold Rc.spB; simp
theorem vby_le (x : Nat) : (vby x).length ≤ 9 := by rw [vby_length]; exact (vsz_bd x).2
theorem spB_len : ∀ (l : List Sp), (Rc.spB l).length ≤ 18 * l.length
  | [] => Nat.le_refl _
  | s :: r => by
    have h := spB_len r
    have h1 := vby_le s.1.toNat
    have h2 := vby_le s.2.toNat
    show (List.flatMap _ (s :: r)).length ≤ _
    rw [List.flatMap_cons, List.length_append, List.length_append]
    change (vby s.1.toNat).length + (vby s.2.toNat).length + (Rc.spB r).length ≤ 18 * (r.length + 1)
    omega

set_option maxHeartbeats 1000000 in
theorem putSpans_any (r : Rc) (sv : Value) (G : List Nat) (x : Int) (b : Nat) (F : List Nat) (l : List UInt8) (w : World) (hr : r.good w sv G) (hsp : ∀ s, s ∈ r.sp → maySp s = true) (hn : r.sp.length ≤ 64)
    (ho : OutAt w b l F) (hl : l.length ≤ 1000000) (hG : ∀ k, k ∈ G → k < w.heap.size) (hd : ∀ k, k ∈ G → k ∉ F) :
    Calls Try.prog 50 #[.pointer (some ⟨b, 0, none⟩), r.val sv, .int .u32 x] w fun e w' => e = .returned (.tuple #[]) ∧ ∃ F', OutAt w' b (l ++ (vby r.sp.length ++ Rc.spB r.sp)) F' ∧ Chg F F' w w' := by
  have K0 := Lib.hid ((Keeps.refl [] w).alloc (rbox r sv))
  have BX := Lib.hid (fun w' (k : Keeps [] (w.alloc (rbox r sv)) w') => (boxed_new k).2.2.2.1)
  have BF := Lib.hid (heap_alloc_self w (rbox r sv))
  have Hv := Lib.hid hr.at_
  have hFw := ho.lt
  have Ho := Lib.hid (ho.keep ((Keeps.refl [] w).alloc (rbox r sv)) (by simp))
  unfold Rc.val
  unfold rbox at *
  obtain ⟨ad, cap, rfl, _⟩ := hr.at_
  have Hsp := Lib.hid hsp
  have HG := Lib.hid hG
  have Hd := Lib.hid hd
  have HFw := Lib.hid hFw
  have hc3 := BX.out _ (Keeps.refl [] _)
  clear hr hsp hG hd hFw ho
  have hlen : (r.sp.length : Int) ≤ 64 := by omega
  have hlen0 : (0 : Int) ≤ (r.sp.length : Int) := by omega
  go_enter Try.func50, Try.ntmps50
  go_wp2_with (go_at_call 41; (with_reducible refine (var1_any r.sp.length (by simp) Ho.out (by omega) (by omega)).mono ?_); rintro e w1 ⟨rfl, F1, ho1, hch1⟩; have hb3 : w1.cell? ⟨w.heap.size, 3, none⟩ = some (.slice ad r.sp.length cap) := cell_of_heap (hch1.keeps.some BF.out (fun h => by have := HFw.out _ h; omega)) 3; have Ho1 := Lib.hid ho1; have Hch1 := Lib.hid hch1.alloc; clear ho1 hch1 BX BF Ho K0 hc3)
  go_loopw [18] (fun iv wr => ∃ (k : Nat) (F2 : List Nat), k ≤ r.sp.length ∧ iv = .int .i64 k ∧ Hid (OutAt wr b (l ++ vby r.sp.length ++ Rc.spB (r.sp.take k)) F2) ∧ Hid (Chg F F2 w wr)) (fun iv _ => r.sp.length - (intOf iv).toNat)
  case atStart => exact ⟨0, F1, Nat.zero_le _, rfl, by simpa [Rc.spB, Hid] using Ho1.out, Hch1⟩
  case round =>
    obtain ⟨k, F2, hk, rfl, Ho2, Hch2⟩ := hrel
    clear Ho1 Hch1
    by_cases hlt : k < r.sp.length
    · obtain ⟨s, hs⟩ : ∃ s, r.sp[k]? = some s := ⟨r.sp[k], by simp [hlt]⟩
      obtain ⟨kb, off, rfl, _, hc⟩ := (Hv.out.keep Hch2.out.keeps Hd.out).at hs
      have c0 : wr.cell? ⟨kb, off + k * 2, none⟩ = some (.int .i64 s.1) := hc 0 _ rfl
      have c1 : wr.cell? ⟨kb, off + k * 2 + 1, none⟩ = some (.int .i64 s.2) := hc 1 _ rfl
      have hst : r.sp.take (k + 1) = r.sp.take k ++ [s] := by rw [List.take_add_one, hs]; rfl
      have hnx : l ++ vby r.sp.length ++ Rc.spB (r.sp.take (k + 1)) = l ++ vby r.sp.length ++ Rc.spB (r.sp.take k) ++ (vby s.1.toNat ++ vby s.2.toNat) := by rw [hst, spB_snoc]; simp
      have hlb := spB_len (r.sp.take k)
      rw [List.length_take] at hlb
      have hvl := vby_le r.sp.length
      have hcl : (l ++ vby r.sp.length ++ Rc.spB (r.sp.take k)).length ≤ 999999000 := by simp only [List.length_append]; omega
      have hm := maySp_bd (Hsp.out s (List.mem_of_getElem? hs))
      generalize (l ++ vby r.sp.length ++ Rc.spB (r.sp.take k)) = C at *
      obtain ⟨sa, sn⟩ := s
      dsimp only at hm c0 c1 hnx
      obtain ⟨m0, m1, m2, m3, _⟩ := hm
      obtain ⟨a, rfl⟩ := Int.eq_ofNat_of_zero_le m0
      obtain ⟨n, rfl⟩ := Int.eq_ofNat_of_zero_le (show 0 ≤ sn by omega)
      rw [Int.toNat_natCast, Int.toNat_natCast] at hnx
      have hki : (k : Int) < (r.sp.length : Int) := by omega
      have hki0 : (0 : Int) ≤ (k : Int) := by omega
      have Hnx := Lib.hid hnx
      have Ho3 := Lib.hid (Ho2.out.keep ((Keeps.refl [] wr).alloc (.cells #[.int .i64 a, .int .i64 n] 39)) (by simp))
      clear hc hst hnx hs hlb hvl
      go_wp2_with (go_at_call 41; (with_reducible refine (var2_any a n (by simp) Ho3.out hcl (by omega) (by omega)).mono ?_); rintro e w3 ⟨rfl, F3, ho3, hch3⟩)
      go_roundw
      case rel => exact ⟨k + 1, F3, by omega, by go_num, by unfold Hid; rw [Hnx.out]; exact ho3, Hch2.out.trans hch3.alloc⟩
      case measure => simp [intOf]; omega
    · obtain rfl : k = r.sp.length := by omega
      rw [List.take_length, List.append_assoc] at Ho2
      go_wp2
      go_end0
      exact ⟨rfl, F2, Ho2.out, Hch2.out⟩

theorem wput_any (r : Rc) (sv : Value) (G : List Nat) (x : Nat) (b : Nat) (F : List Nat) (l : List UInt8) (w : World) (hr : r.good w sv G) (hsp : ∀ s, s ∈ r.sp → maySp s = true) (hn : r.sp.length ≤ 64)
    (ho : OutAt w b l F) (hl : l.length ≤ 1000000) (hG : ∀ k, k ∈ G → k < w.heap.size) (hd : ∀ k, k ∈ G → k ∉ F) (hx : x < 4294967296) :
    Calls Try.prog 49 #[.pointer (some ⟨b, 0, none⟩), r.val sv, .int .u32 x] w fun e w' => e = .returned (.tuple #[]) ∧ ∃ F', OutAt w' b (l ++ (vby r.sp.length ++ Rc.spB r.sp) ++ be x 4) F' ∧ Chg F F' w w' := by
  have P := Lib.hid (putSpans_any r sv G x b F l _ (hr.newer ((Keeps.refl [] w).alloc (rbox r sv))) hsp hn (ho.keep ((Keeps.refl [] w).alloc (rbox r sv)) (by simp)) hl (fun k hk => by have := hG k hk; simp; omega) hd)
  have hlb := spB_len r.sp
  have hvl := vby_le r.sp.length
  have hL : (l ++ (vby r.sp.length ++ Rc.spB r.sp)).length ≤ 999999000 := by simp only [List.length_append]; omega
  generalize vby r.sp.length ++ Rc.spB r.sp = C at *
  unfold Rc.val at *
  unfold rbox at P
  obtain ⟨ad, cap, rfl, _⟩ := hr.at_
  clear hr hsp ho hG hd hlb hvl
  go_enter Try.func49, Try.ntmps49
  go_wp2_with (first
    | (go_at_call 50; (with_reducible refine P.out.mono ?_); rintro e w1 ⟨rfl, F1, ho1, hch1⟩; have Fx := Lib.hid (outFixed_any b F1 (l ++ C) x 4 w1 (by omega) ho1))
    | (go_at_call 44; (with_reducible refine Fx.out.mono ?_); rintro e w2 ⟨rfl, F2, ho2, hch2⟩))
  go_end0
  exact ⟨rfl, F2, by simpa using ho2, hch1.alloc.trans hch2⟩

theorem nput_any (r : Rc) (sv : Value) (G : List Nat) (x : Int) (b : Nat) (F : List Nat) (l : List UInt8) (w : World) (hr : r.good w sv G) (hn : r.tx.length ≤ 512)
    (ho : OutAt w b l F) (hl : l.length ≤ 1000000) :
    Calls Try.prog 56 #[.pointer (some ⟨b, 0, none⟩), r.val sv, .int .u32 x] w fun e w' => e = .returned (.tuple #[]) ∧ ∃ F', OutAt w' b (l ++ (vby r.tx.length ++ r.tx)) F' ∧ Chg F F' w w' := by
  have Ho := Lib.hid (ho.keep ((Keeps.refl [] w).alloc (rbox r sv)) (by simp))
  unfold Rc.val
  unfold rbox at Ho
  obtain ⟨ad, cap, rfl, _⟩ := hr.at_
  clear hr ho
  go_enter Try.func56, Try.ntmps56
  go_wp2_with (first
    | (go_at_call 57; (with_reducible refine (text1_any r.tx (by simp) Ho.out (by omega)).mono ?_); rintro e w1 ⟨rfl, F1, ho1, hch1⟩))
  go_end0
  exact ⟨rfl, F1, ho1, hch1.alloc⟩

theorem zeros_any (n : Nat) (hn : n ≤ 1000000) (w : World) : Calls Try.prog 45 #[.string ⟨#[0]⟩, .int .i64 n] w fun e w' => e = .returned (.string (str (List.replicate n 0))) ∧ Keeps [] w w' := by
  have h := Try.strings_Repeat ⟨#[0]⟩ n w (by omega) (by simp [ByteArray.size]; omega)
  refine h.mono fun e w' ⟨he, hb⟩ => ⟨?_, Keeps.of_below hb⟩
  rw [he]
  have hrep : ∀ m : Nat, Lib.repeatL [(0 : UInt8)] m = List.replicate m 0 := by
    intro m
    induction m with
    | zero => rfl
    | succ n ih => rw [Lib.repeatL, ih]; rfl
  show Ending.returned (.string ⟨(Lib.repeatL [0] n).toArray⟩) = _
  rw [hrep]
  rfl

theorem cat_run (a b : List UInt8) (h : a.length + b.length ≤ 9223372036854775807) (w : World) : (Op.stringOp .add (str a) (str b)).run Try.prog w = .ok (.string (str (a ++ b))) w := by
  go_simp

/-- A head can be made of it. -/
structure Rc.hok (r : Rc) : Prop where
  e0 : 0 ≤ r.ep
  e1 : r.ep < 4294967296
  n0 : 0 ≤ r.nr
  n1 : r.nr < 1099511627776
  k : r.kd = 1 ∨ r.kd = 2 ∨ r.kd = 3
  s1 : r.kd ≠ 3 → r.sp.length ≤ 64
  s2 : r.kd ≠ 3 → ∀ s, s ∈ r.sp → maySp s = true
  t : r.kd = 3 → r.tx.length ≤ 512

/-- The numbers of it. -/
def Rc.partB (r : Rc) (sum : Nat) : List UInt8 := (if r.kd = 3 then vby r.tx.length ++ r.tx else vby r.sp.length ++ Rc.spB r.sp) ++ (if r.kd = 1 then be sum 4 else [])
theorem Rc.bodyB_eq (r : Rc) (sum : Nat) : r.bodyB sum = vby r.ep.toNat ++ vby r.nr.toNat ++ vby r.kd.toNat ++ r.partB sum := by
  unfold Rc.bodyB Rc.partB; simp
theorem Rc.hok.len {r : Rc} (h : r.hok) (sum : Nat) : (r.bodyB sum).length ≤ 1800 := by
  have h1 := vby_le r.ep.toNat
  have h2 := vby_le r.nr.toNat
  have h3 := vby_le r.kd.toNat
  have h4 := vby_le r.sp.length
  have h5 := vby_le r.tx.length
  have h6 := spB_len r.sp
  have h7 := be_length sum 4
  unfold Rc.bodyB
  by_cases hk : r.kd = 3
  · have := h.t hk
    rw [if_pos hk, if_neg (show ¬ r.kd = 1 by omega)]
    simp only [List.length_append, List.length_nil]
    omega
  · have := h.s1 hk
    rw [if_neg hk]
    split
    all_goals
      simp only [List.length_append, List.length_nil]
      omega
end Go.Proofs.Ytjebldfmkpfafaa
