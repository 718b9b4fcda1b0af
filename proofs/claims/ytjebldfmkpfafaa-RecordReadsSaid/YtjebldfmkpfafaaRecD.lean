/- Layer 10: a record's head; Encode, Size. -/
import Derived.Test.YtjebldfmkpfafaaRecC
import Derived.Test.YtjebldfmkpfafaaRecSum
namespace Go.Proofs.Ytjebldfmkpfafaa
open Go.RowKit
set_option maxRecDepth 100000

theorem out_apart {F F' : List Nat} {w w1 w2 : World} (h : Chg F F' w1 w2) (hF : ∀ k, k ∈ F → w.heap.size ≤ k) (hk : w.heap.size ≤ w1.heap.size) : ∀ k, k ∈ F' → w.heap.size ≤ k := fun k hk' => by
  rcases h.fresh k hk' with h1 | h1
  · exact hF k h1
  · omega

theorem Chg.same {F : List Nat} {w w1 : World} (k : Keeps [] w w1) : Chg F F w w1 := ⟨k.mono (by simp), fun _ h => .inl h⟩

/-- What a record's kind writes. -/
def PutOf (w : World) (r : Rc) (sv : Value) (sum f : Nat) : Prop :=
  ∀ (b : Nat) (F : List Nat) (l : List UInt8) (W : World), Keeps [] w W → OutAt W b l F → (∀ k, k ∈ F → w.heap.size ≤ k) → l.length ≤ 1000 →
    Calls Try.prog f #[.pointer (some ⟨b, 0, none⟩), r.val sv, .int .u32 sum] W fun e w' => e = .returned (.tuple #[]) ∧ ∃ F', OutAt w' b (l ++ r.partB sum) F' ∧ Chg F F' W w'
theorem put1 {r : Rc} {sv : Value} {G : List Nat} {w : World} (hr : r.good w sv G) (h : r.hok) (hG : ∀ k, k ∈ G → k < w.heap.size) (sum : Nat) (hs : sum < 4294967296) (hk : r.kd = 1) : PutOf w r sv sum 49 := fun b F l W kk ho hF hl => by
  refine (wput_any r sv G sum b F l W (hr.newer kk) (h.s2 (by omega)) (h.s1 (by omega)) ho (by omega) (fun k hk => by have := hG k hk; have := kk.size; omega) (fun k hk hk' => by have := hG k hk; have := hF k hk'; omega) hs).mono fun e w' ⟨h1, F', h2, h3⟩ => ⟨h1, F', ?_, h3⟩
  unfold Rc.partB
  rw [if_neg (show ¬ r.kd = 3 by omega), if_pos hk, ← List.append_assoc]
  exact h2
theorem put2 {r : Rc} {sv : Value} {G : List Nat} {w : World} (hr : r.good w sv G) (h : r.hok) (hG : ∀ k, k ∈ G → k < w.heap.size) (sum : Nat) (hk : r.kd = 2) : PutOf w r sv sum 50 := fun b F l W kk ho hF hl => by
  refine (putSpans_any r sv G sum b F l W (hr.newer kk) (h.s2 (by omega)) (h.s1 (by omega)) ho (by omega) (fun k hk => by have := hG k hk; have := kk.size; omega) (fun k hk hk' => by have := hG k hk; have := hF k hk'; omega)).mono fun e w' ⟨h1, F', h2, h3⟩ => ⟨h1, F', ?_, h3⟩
  unfold Rc.partB
  rw [if_neg (show ¬ r.kd = 3 by omega), if_neg (show ¬ r.kd = 1 by omega), List.append_nil]
  exact h2
theorem put3 {r : Rc} {sv : Value} {G : List Nat} {w : World} (hr : r.good w sv G) (h : r.hok) (sum : Nat) (hk : r.kd = 3) : PutOf w r sv sum 56 := fun b F l W kk ho hF hl => by
  refine (nput_any r sv G sum b F l W (hr.newer kk) (h.t hk) ho (by omega)).mono fun e w' ⟨h1, F', h2, h3⟩ => ⟨h1, F', ?_, h3⟩
  unfold Rc.partB
  rw [if_pos hk, if_neg (show ¬ r.kd = 1 by omega), List.append_nil]
  exact h2

theorem secs_bd {n : Nat} (h : n ≤ 1800) : n + 8 ≤ Rc.secs n * 64 ∧ Rc.secs n ≤ 29 := by unfold Rc.secs; omega

set_option maxHeartbeats 2000000 in
theorem head1_any (r : Rc) (sv : Value) (G : List Nat) (w : World) (hr : r.good w sv G) (h : r.hok) (hG : ∀ k, k ∈ G → k < w.heap.size) (sum : Nat) (hs : sum < 4294967296) (hk : r.kd = 1) :
    Calls Try.prog 26 #[r.val sv, .int .u32 sum] w fun e w' => e = .returned (.string (str (r.headB sum))) ∧ Keeps [] w w' := by
  have Pu := Lib.hid (put1 hr h hG sum hs hk)
  have K1 := Lib.hid ((Keeps.refl [] w).alloc (rbox r sv))
  have CB := Lib.hid (fun w' (k : Keeps [] (w.alloc (rbox r sv)) w') => boxed_new k)
  have Ki := Lib.hid (fun w => kinds_any w)
  have Ix := fun w => kidx1 w
  have If := fun a b c w => kfld1 a b c w
  have Ho : Hid (OutAt ((w.alloc (rbox r sv)).alloc (.cells #[.slice none 0 0] 82)) (w.heap.size + 1) [] [w.heap.size + 1]) := OutAt.new' (by simp)
  have KO := Lib.hid ((Keeps.refl [] (w.alloc (rbox r sv))).alloc (.cells #[.slice none 0 0] 82))
  have hlen := h.len sum
  have hbody := r.bodyB_eq sum
  have hres : r.headB sum = ([76, 82] ++ be (Rc.secs (r.bodyB sum).length) 2 ++ r.bodyB sum ++ List.replicate (Rc.secs (r.bodyB sum).length * 64 - 8 - (r.bodyB sum).length) 0) ++ four (crcMore 0 ([76, 82] ++ be (Rc.secs (r.bodyB sum).length) 2 ++ r.bodyB sum ++ List.replicate (Rc.secs (r.bodyB sum).length * 64 - 8 - (r.bodyB sum).length) 0)) := rfl
  obtain ⟨e0, e1, n0, n1, _, _, _, _⟩ := h
  unfold PutOf at Pu
  unfold kindsV fnF at Ki
  unfold Rc.val at *
  unfold boxed at CB
  unfold rbox at *
  generalize r.bodyB sum = B at *
  generalize r.partB sum = C at *
  generalize r.headB sum = R at *
  have hB := secs_bd hlen
  have hq0 : (4 + (B.length : Int) + 4 + 64 - 1) = ((B.length + 71 : Nat) : Int) := by omega
  have hq : (4 + (B.length : Int) + 4 + 64 - 1).tdiv 64 = (Rc.secs B.length : Int) := by rw [hq0]; rfl
  clear hq0
  obtain ⟨M, hM⟩ : ∃ M, Rc.secs B.length = M := ⟨_, rfl⟩
  rw [hM] at hB hq hres
  have hz : (M : Int) * 64 - 4 - B.length - 4 = ((M * 64 - 8 - B.length : Nat) : Int) := by omega
  have Ze := Lib.hid (fun w => zeros_any (M * 64 - 8 - B.length) (by omega) w)
  have hrl : (List.replicate (M * 64 - 8 - B.length) (0 : UInt8)).length = M * 64 - 8 - B.length := List.length_replicate
  generalize List.replicate (M * 64 - 8 - B.length) (0 : UInt8) = Z at *
  have hrl2 : Z.length ≤ 2000 := by omega
  obtain ⟨ad, cap, rfl, _⟩ := hr.at_
  obtain ⟨ep, nr, kd, sp, dt, tx⟩ := r
  dsimp only at *
  obtain ⟨E, rfl⟩ := Int.eq_ofNat_of_zero_le e0
  obtain ⟨N, rfl⟩ := Int.eq_ofNat_of_zero_le n0
  subst hk
  simp only [Int.toNat_natCast] at hbody
  rw [show Int.toNat 1 = 1 from rfl] at hbody
  generalize str dt = D at *
  generalize str tx = T at *
  generalize sp.length = ns at *
  have Hres := Lib.hid hres
  have Hbody := Lib.hid hbody
  have hb2 := be_length M 2
  have hmag : (ByteArray.mk #[76, 82]) = str [76, 82] := rfl
  have hle3 : (vby E ++ vby N ++ vby 1).length ≤ 100 := by have := vby_le E; have := vby_le N; have := vby_le 1; simp only [List.length_append]; omega
  clear hr hG hres hM hbody
  go_enter Try.func26, Try.ntmps26
  go_wp2_with (first
    | (go_at_call 41; (with_reducible refine (var3_any E N 1 ?hz ?hk Ho.out (by simp) (by omega) (by omega) (by omega)).mono ?_); (case hz => rfl); (case hk => simp); rintro e w1 ⟨rfl, F1, ho1, hch1⟩; have kw1 := (KO.out.trans hch1.keeps (by simp)).drew; have hF1 := out_apart hch1 (w := w.alloc (.cells #[.int .i64 E, .int .i64 N, .int .i64 1, .slice ad ns cap, .string D, .string T] 24)) (by simp) (by simp); have kv1 := (K1.out.trans kw1 (by simp)); clear Ho KO K1))
  go_region_held3 (fun w' => w'.cell? ⟨w.heap.size, 0, none⟩ = some (.int .i64 E) ∧ w'.cell? ⟨w.heap.size, 1, none⟩ = some (.int .i64 N) ∧ w'.cell? ⟨w.heap.size, 2, none⟩ = some (.int .i64 1) ∧ w'.cell? ⟨w.heap.size, 3, none⟩ = some (.slice ad ns cap) ∧ w'.cell? ⟨w.heap.size, 4, none⟩ = some (.string D) ∧ w'.cell? ⟨w.heap.size, 5, none⟩ = some (.string T)) (first | exact CB.out _ kw1 | exact CB.out _ kw2 | exact CB.out _ kw3) (first
    | (go_at_call 29; (with_reducible refine (Ki.out _).mono ?_); rintro e w2 ⟨rfl, k2⟩; have kw2 := kw1.trans k2 (by simp); have kv2 := kv1.trans k2 (by simp); have ho2 := (ho1.keep (Keeps.refl [] w1).drew (by simp)).keep k2 (by simp))
    | (go_at_call 49; (with_reducible refine (Pu.out _ F1 _ w2 kv2 ho2 (fun k hk => by have := hF1 k hk; simp at this; omega) (by simp only [List.nil_append]; omega)).mono ?_); rintro e w3 ⟨rfl, F3, ho3, hch3⟩; have kw3 := kw2.trans hch3.keeps (fun x hx => .inr (hF1 x hx)); have kv3 := kv2.trans hch3.keeps (fun x hx => .inr (by have := hF1 x hx; simp at this; omega))))
  rw [List.nil_append, ← Hbody.out] at ho3
  clear Ki Ix If Pu CB kw1 kw2 kw3 kv1 kv2 ho1 hch1 ho2 k2 hch3
  have On := Lib.hid (OutAt.new w3)
  have Kn := Lib.hid kv3
  have Cn := Lib.hid (Chg.new w3 (.cells #[.slice none 0 0] 82))
  clear kv3
  go_wp2_with (first
    | (go_at_call 42; (with_reducible refine (outString_any _ _ _ _ ho3).mono ?_); rintro e w4 ⟨rfl, rfl⟩; clear ho3)
    | (go_at_call 43; (with_reducible refine (raw1_any [76, 82] ?hk On.out (by simp)).mono ?_); (case hk => simp); rintro e w5 ⟨rfl, F5, ho5, hch5⟩; have C5 := Cn.out.trans hch5)
    | (go_at_call 44; (with_reducible refine (outFixed_any _ _ _ M 2 _ (by simp) ho5).mono ?_); rintro e w6 ⟨rfl, F6, ho6, hch6⟩; replace ho6 : OutAt w6 w3.heap.size ([76, 82] ++ be M 2) F6 := ho6; have C6 := C5.trans hch6)
    | (go_at_call 45; (with_reducible refine (Ze.out _).mono ?_); rintro e w7 ⟨rfl, k7⟩; have ho7 := ho6.keep k7 (by simp); have C7 := C6.trans (Chg.same k7))
    | (go_at_call 43; (with_reducible refine (raw2_any B Z ?hk ho7 ?hl).mono ?_); (case hk => simp); (case hl => simp only [List.length_append, List.length_cons, List.length_nil]; omega); rintro e w8 ⟨rfl, F8, ho8, hch8⟩; have C8 := C7.trans hch8)
    | (go_at_call 42; (with_reducible refine (outString_any _ _ _ _ ho8).mono ?_); rintro e w9 ⟨rfl, rfl⟩)
    | (go_at_call 46; (with_reducible refine (seal_any _ _ ?_).mono ?_); (simp only [List.length_append, List.length_cons]; omega); rintro e w10 ⟨rfl, k10⟩))
  go_ret
  refine ⟨?_, Kn.out.trans (C8.keeps.trans k10 (by simp)) (by simp)⟩
  rw [Hres.out]
  simp
set_option maxHeartbeats 2000000 in
theorem head2_any (r : Rc) (sv : Value) (G : List Nat) (w : World) (hr : r.good w sv G) (h : r.hok) (hG : ∀ k, k ∈ G → k < w.heap.size) (sum : Nat) (_hs : sum < 4294967296) (hk : r.kd = 2) :
    Calls Try.prog 26 #[r.val sv, .int .u32 sum] w fun e w' => e = .returned (.string (str (r.headB sum))) ∧ Keeps [] w w' := by
  have Pu := Lib.hid (put2 hr h hG sum hk)
  have K1 := Lib.hid ((Keeps.refl [] w).alloc (rbox r sv))
  have CB := Lib.hid (fun w' (k : Keeps [] (w.alloc (rbox r sv)) w') => boxed_new k)
  have Ki := Lib.hid (fun w => kinds_any w)
  have Ix := fun w => kidx2 w
  have If := fun a b c w => kfld1 a b c w
  have Ho : Hid (OutAt ((w.alloc (rbox r sv)).alloc (.cells #[.slice none 0 0] 82)) (w.heap.size + 1) [] [w.heap.size + 1]) := OutAt.new' (by simp)
  have KO := Lib.hid ((Keeps.refl [] (w.alloc (rbox r sv))).alloc (.cells #[.slice none 0 0] 82))
  have hlen := h.len sum
  have hbody := r.bodyB_eq sum
  have hres : r.headB sum = ([76, 82] ++ be (Rc.secs (r.bodyB sum).length) 2 ++ r.bodyB sum ++ List.replicate (Rc.secs (r.bodyB sum).length * 64 - 8 - (r.bodyB sum).length) 0) ++ four (crcMore 0 ([76, 82] ++ be (Rc.secs (r.bodyB sum).length) 2 ++ r.bodyB sum ++ List.replicate (Rc.secs (r.bodyB sum).length * 64 - 8 - (r.bodyB sum).length) 0)) := rfl
  obtain ⟨e0, e1, n0, n1, _, _, _, _⟩ := h
  unfold PutOf at Pu
  unfold kindsV fnF at Ki
  unfold Rc.val at *
  unfold boxed at CB
  unfold rbox at *
  generalize r.bodyB sum = B at *
  generalize r.partB sum = C at *
  generalize r.headB sum = R at *
  have hB := secs_bd hlen
  have hq0 : (4 + (B.length : Int) + 4 + 64 - 1) = ((B.length + 71 : Nat) : Int) := by omega
  have hq : (4 + (B.length : Int) + 4 + 64 - 1).tdiv 64 = (Rc.secs B.length : Int) := by rw [hq0]; rfl
  clear hq0
  obtain ⟨M, hM⟩ : ∃ M, Rc.secs B.length = M := ⟨_, rfl⟩
  rw [hM] at hB hq hres
  have hz : (M : Int) * 64 - 4 - B.length - 4 = ((M * 64 - 8 - B.length : Nat) : Int) := by omega
  have Ze := Lib.hid (fun w => zeros_any (M * 64 - 8 - B.length) (by omega) w)
  have hrl : (List.replicate (M * 64 - 8 - B.length) (0 : UInt8)).length = M * 64 - 8 - B.length := List.length_replicate
  generalize List.replicate (M * 64 - 8 - B.length) (0 : UInt8) = Z at *
  have hrl2 : Z.length ≤ 2000 := by omega
  obtain ⟨ad, cap, rfl, _⟩ := hr.at_
  obtain ⟨ep, nr, kd, sp, dt, tx⟩ := r
  dsimp only at *
  obtain ⟨E, rfl⟩ := Int.eq_ofNat_of_zero_le e0
  obtain ⟨N, rfl⟩ := Int.eq_ofNat_of_zero_le n0
  subst hk
  simp only [Int.toNat_natCast] at hbody
  rw [show Int.toNat 2 = 2 from rfl] at hbody
  generalize str dt = D at *
  generalize str tx = T at *
  generalize sp.length = ns at *
  have Hres := Lib.hid hres
  have Hbody := Lib.hid hbody
  have hb2 := be_length M 2
  have hmag : (ByteArray.mk #[76, 82]) = str [76, 82] := rfl
  have hle3 : (vby E ++ vby N ++ vby 2).length ≤ 100 := by have := vby_le E; have := vby_le N; have := vby_le 2; simp only [List.length_append]; omega
  clear hr hG hres hM hbody
  go_enter Try.func26, Try.ntmps26
  go_wp2_with (first
    | (go_at_call 41; (with_reducible refine (var3_any E N 2 ?hz ?hk Ho.out (by simp) (by omega) (by omega) (by omega)).mono ?_); (case hz => rfl); (case hk => simp); rintro e w1 ⟨rfl, F1, ho1, hch1⟩; have kw1 := (KO.out.trans hch1.keeps (by simp)).drew; have hF1 := out_apart hch1 (w := w.alloc (.cells #[.int .i64 E, .int .i64 N, .int .i64 2, .slice ad ns cap, .string D, .string T] 24)) (by simp) (by simp); have kv1 := (K1.out.trans kw1 (by simp)); clear Ho KO K1))
  go_region_held3 (fun w' => w'.cell? ⟨w.heap.size, 0, none⟩ = some (.int .i64 E) ∧ w'.cell? ⟨w.heap.size, 1, none⟩ = some (.int .i64 N) ∧ w'.cell? ⟨w.heap.size, 2, none⟩ = some (.int .i64 2) ∧ w'.cell? ⟨w.heap.size, 3, none⟩ = some (.slice ad ns cap) ∧ w'.cell? ⟨w.heap.size, 4, none⟩ = some (.string D) ∧ w'.cell? ⟨w.heap.size, 5, none⟩ = some (.string T)) (first | exact CB.out _ kw1 | exact CB.out _ kw2 | exact CB.out _ kw3) (first
    | (go_at_call 29; (with_reducible refine (Ki.out _).mono ?_); rintro e w2 ⟨rfl, k2⟩; have kw2 := kw1.trans k2 (by simp); have kv2 := kv1.trans k2 (by simp); have ho2 := (ho1.keep (Keeps.refl [] w1).drew (by simp)).keep k2 (by simp))
    | (go_at_call 50; (with_reducible refine (Pu.out _ F1 _ w2 kv2 ho2 (fun k hk => by have := hF1 k hk; simp at this; omega) (by simp only [List.nil_append]; omega)).mono ?_); rintro e w3 ⟨rfl, F3, ho3, hch3⟩; have kw3 := kw2.trans hch3.keeps (fun x hx => .inr (hF1 x hx)); have kv3 := kv2.trans hch3.keeps (fun x hx => .inr (by have := hF1 x hx; simp at this; omega))))
  rw [List.nil_append, ← Hbody.out] at ho3
  clear Ki Ix If Pu CB kw1 kw2 kw3 kv1 kv2 ho1 hch1 ho2 k2 hch3
  have On := Lib.hid (OutAt.new w3)
  have Kn := Lib.hid kv3
  have Cn := Lib.hid (Chg.new w3 (.cells #[.slice none 0 0] 82))
  clear kv3
  go_wp2_with (first
    | (go_at_call 42; (with_reducible refine (outString_any _ _ _ _ ho3).mono ?_); rintro e w4 ⟨rfl, rfl⟩; clear ho3)
    | (go_at_call 43; (with_reducible refine (raw1_any [76, 82] ?hk On.out (by simp)).mono ?_); (case hk => simp); rintro e w5 ⟨rfl, F5, ho5, hch5⟩; have C5 := Cn.out.trans hch5)
    | (go_at_call 44; (with_reducible refine (outFixed_any _ _ _ M 2 _ (by simp) ho5).mono ?_); rintro e w6 ⟨rfl, F6, ho6, hch6⟩; replace ho6 : OutAt w6 w3.heap.size ([76, 82] ++ be M 2) F6 := ho6; have C6 := C5.trans hch6)
    | (go_at_call 45; (with_reducible refine (Ze.out _).mono ?_); rintro e w7 ⟨rfl, k7⟩; have ho7 := ho6.keep k7 (by simp); have C7 := C6.trans (Chg.same k7))
    | (go_at_call 43; (with_reducible refine (raw2_any B Z ?hk ho7 ?hl).mono ?_); (case hk => simp); (case hl => simp only [List.length_append, List.length_cons, List.length_nil]; omega); rintro e w8 ⟨rfl, F8, ho8, hch8⟩; have C8 := C7.trans hch8)
    | (go_at_call 42; (with_reducible refine (outString_any _ _ _ _ ho8).mono ?_); rintro e w9 ⟨rfl, rfl⟩)
    | (go_at_call 46; (with_reducible refine (seal_any _ _ ?_).mono ?_); (simp only [List.length_append, List.length_cons]; omega); rintro e w10 ⟨rfl, k10⟩))
  go_ret
  refine ⟨?_, Kn.out.trans (C8.keeps.trans k10 (by simp)) (by simp)⟩
  rw [Hres.out]
  simp
set_option maxHeartbeats 2000000 in
theorem head3_any (r : Rc) (sv : Value) (G : List Nat) (w : World) (hr : r.good w sv G) (h : r.hok) (_hG : ∀ k, k ∈ G → k < w.heap.size) (sum : Nat) (_hs : sum < 4294967296) (hk : r.kd = 3) :
    Calls Try.prog 26 #[r.val sv, .int .u32 sum] w fun e w' => e = .returned (.string (str (r.headB sum))) ∧ Keeps [] w w' := by
  have Pu := Lib.hid (put3 hr h sum hk)
  have K1 := Lib.hid ((Keeps.refl [] w).alloc (rbox r sv))
  have CB := Lib.hid (fun w' (k : Keeps [] (w.alloc (rbox r sv)) w') => boxed_new k)
  have Ki := Lib.hid (fun w => kinds_any w)
  have Ix := fun w => kidx3 w
  have If := fun a b c w => kfld1 a b c w
  have Ho : Hid (OutAt ((w.alloc (rbox r sv)).alloc (.cells #[.slice none 0 0] 82)) (w.heap.size + 1) [] [w.heap.size + 1]) := OutAt.new' (by simp)
  have KO := Lib.hid ((Keeps.refl [] (w.alloc (rbox r sv))).alloc (.cells #[.slice none 0 0] 82))
  have hlen := h.len sum
  have hbody := r.bodyB_eq sum
  have hres : r.headB sum = ([76, 82] ++ be (Rc.secs (r.bodyB sum).length) 2 ++ r.bodyB sum ++ List.replicate (Rc.secs (r.bodyB sum).length * 64 - 8 - (r.bodyB sum).length) 0) ++ four (crcMore 0 ([76, 82] ++ be (Rc.secs (r.bodyB sum).length) 2 ++ r.bodyB sum ++ List.replicate (Rc.secs (r.bodyB sum).length * 64 - 8 - (r.bodyB sum).length) 0)) := rfl
  obtain ⟨e0, e1, n0, n1, _, _, _, _⟩ := h
  unfold PutOf at Pu
  unfold kindsV fnF at Ki
  unfold Rc.val at *
  unfold boxed at CB
  unfold rbox at *
  generalize r.bodyB sum = B at *
  generalize r.partB sum = C at *
  generalize r.headB sum = R at *
  have hB := secs_bd hlen
  have hq0 : (4 + (B.length : Int) + 4 + 64 - 1) = ((B.length + 71 : Nat) : Int) := by omega
  have hq : (4 + (B.length : Int) + 4 + 64 - 1).tdiv 64 = (Rc.secs B.length : Int) := by rw [hq0]; rfl
  clear hq0
  obtain ⟨M, hM⟩ : ∃ M, Rc.secs B.length = M := ⟨_, rfl⟩
  rw [hM] at hB hq hres
  have hz : (M : Int) * 64 - 4 - B.length - 4 = ((M * 64 - 8 - B.length : Nat) : Int) := by omega
  have Ze := Lib.hid (fun w => zeros_any (M * 64 - 8 - B.length) (by omega) w)
  have hrl : (List.replicate (M * 64 - 8 - B.length) (0 : UInt8)).length = M * 64 - 8 - B.length := List.length_replicate
  generalize List.replicate (M * 64 - 8 - B.length) (0 : UInt8) = Z at *
  have hrl2 : Z.length ≤ 2000 := by omega
  obtain ⟨ad, cap, rfl, _⟩ := hr.at_
  obtain ⟨ep, nr, kd, sp, dt, tx⟩ := r
  dsimp only at *
  obtain ⟨E, rfl⟩ := Int.eq_ofNat_of_zero_le e0
  obtain ⟨N, rfl⟩ := Int.eq_ofNat_of_zero_le n0
  subst hk
  simp only [Int.toNat_natCast] at hbody
  rw [show Int.toNat 3 = 3 from rfl] at hbody
  generalize str dt = D at *
  generalize str tx = T at *
  generalize sp.length = ns at *
  have Hres := Lib.hid hres
  have Hbody := Lib.hid hbody
  have hb2 := be_length M 2
  have hmag : (ByteArray.mk #[76, 82]) = str [76, 82] := rfl
  have hle3 : (vby E ++ vby N ++ vby 3).length ≤ 100 := by have := vby_le E; have := vby_le N; have := vby_le 3; simp only [List.length_append]; omega
  clear hr hres hM hbody
  go_enter Try.func26, Try.ntmps26
  go_wp2_with (first
    | (go_at_call 41; (with_reducible refine (var3_any E N 3 ?hz ?hk Ho.out (by simp) (by omega) (by omega) (by omega)).mono ?_); (case hz => rfl); (case hk => simp); rintro e w1 ⟨rfl, F1, ho1, hch1⟩; have kw1 := (KO.out.trans hch1.keeps (by simp)).drew; have hF1 := out_apart hch1 (w := w.alloc (.cells #[.int .i64 E, .int .i64 N, .int .i64 3, .slice ad ns cap, .string D, .string T] 24)) (by simp) (by simp); have kv1 := (K1.out.trans kw1 (by simp)); clear Ho KO K1))
  go_region_held3 (fun w' => w'.cell? ⟨w.heap.size, 0, none⟩ = some (.int .i64 E) ∧ w'.cell? ⟨w.heap.size, 1, none⟩ = some (.int .i64 N) ∧ w'.cell? ⟨w.heap.size, 2, none⟩ = some (.int .i64 3) ∧ w'.cell? ⟨w.heap.size, 3, none⟩ = some (.slice ad ns cap) ∧ w'.cell? ⟨w.heap.size, 4, none⟩ = some (.string D) ∧ w'.cell? ⟨w.heap.size, 5, none⟩ = some (.string T)) (first | exact CB.out _ kw1 | exact CB.out _ kw2 | exact CB.out _ kw3) (first
    | (go_at_call 29; (with_reducible refine (Ki.out _).mono ?_); rintro e w2 ⟨rfl, k2⟩; have kw2 := kw1.trans k2 (by simp); have kv2 := kv1.trans k2 (by simp); have ho2 := (ho1.keep (Keeps.refl [] w1).drew (by simp)).keep k2 (by simp))
    | (go_at_call 56; (with_reducible refine (Pu.out _ F1 _ w2 kv2 ho2 (fun k hk => by have := hF1 k hk; simp at this; omega) (by simp only [List.nil_append]; omega)).mono ?_); rintro e w3 ⟨rfl, F3, ho3, hch3⟩; have kw3 := kw2.trans hch3.keeps (fun x hx => .inr (hF1 x hx)); have kv3 := kv2.trans hch3.keeps (fun x hx => .inr (by have := hF1 x hx; simp at this; omega))))
  rw [List.nil_append, ← Hbody.out] at ho3
  clear Ki Ix If Pu CB kw1 kw2 kw3 kv1 kv2 ho1 hch1 ho2 k2 hch3
  have On := Lib.hid (OutAt.new w3)
  have Kn := Lib.hid kv3
  have Cn := Lib.hid (Chg.new w3 (.cells #[.slice none 0 0] 82))
  clear kv3
  go_wp2_with (first
    | (go_at_call 42; (with_reducible refine (outString_any _ _ _ _ ho3).mono ?_); rintro e w4 ⟨rfl, rfl⟩; clear ho3)
    | (go_at_call 43; (with_reducible refine (raw1_any [76, 82] ?hk On.out (by simp)).mono ?_); (case hk => simp); rintro e w5 ⟨rfl, F5, ho5, hch5⟩; have C5 := Cn.out.trans hch5)
    | (go_at_call 44; (with_reducible refine (outFixed_any _ _ _ M 2 _ (by simp) ho5).mono ?_); rintro e w6 ⟨rfl, F6, ho6, hch6⟩; replace ho6 : OutAt w6 w3.heap.size ([76, 82] ++ be M 2) F6 := ho6; have C6 := C5.trans hch6)
    | (go_at_call 45; (with_reducible refine (Ze.out _).mono ?_); rintro e w7 ⟨rfl, k7⟩; have ho7 := ho6.keep k7 (by simp); have C7 := C6.trans (Chg.same k7))
    | (go_at_call 43; (with_reducible refine (raw2_any B Z ?hk ho7 ?hl).mono ?_); (case hk => simp); (case hl => simp only [List.length_append, List.length_cons, List.length_nil]; omega); rintro e w8 ⟨rfl, F8, ho8, hch8⟩; have C8 := C7.trans hch8)
    | (go_at_call 42; (with_reducible refine (outString_any _ _ _ _ ho8).mono ?_); rintro e w9 ⟨rfl, rfl⟩)
    | (go_at_call 46; (with_reducible refine (seal_any _ _ ?_).mono ?_); (simp only [List.length_append, List.length_cons]; omega); rintro e w10 ⟨rfl, k10⟩))
  go_ret
  refine ⟨?_, Kn.out.trans (C8.keeps.trans k10 (by simp)) (by simp)⟩
  rw [Hres.out]
  simp

theorem rhead_any (r : Rc) (sv : Value) (G : List Nat) (w : World) (hr : r.good w sv G) (h : r.hok) (hG : ∀ k, k ∈ G → k < w.heap.size) (sum : Nat) (hs : sum < 4294967296) :
    Calls Try.prog 26 #[r.val sv, .int .u32 sum] w fun e w' => e = .returned (.string (str (r.headB sum))) ∧ Keeps [] w w' := by
  rcases h.k with hk | hk | hk
  · exact head1_any r sv G w hr h hG sum hs hk
  · exact head2_any r sv G w hr h hG sum hs hk
  · exact head3_any r sv G w hr h hG sum hs hk

/-- What is encoded. -/
def Rc.encV (r : Rc) : List UInt8 × Int := if r.check = 0 then (r.enc, 0) else ([], r.check)
theorem Rc.check_ok {r : Rc} (h : r.check = 0) : r.hok ∧ r.dt.length ≤ 32768 ∧ (r.kd ≠ 1 → r.dt = []) ∧ (r.kd = 1 → (r.dt.length : Int) = totS r.sp * 64 ∧ totS r.sp ≤ 512) ∧ (r.kd ≠ 3 → r.spok = true ∧ r.tx = []) ∧ (r.kd = 3 → r.sp = []) := by
  unfold Rc.check at h
  split at h
  case isFalse => omega
  rename_i hn
  obtain ⟨n1, n2, n3, n4⟩ := hn
  split at h
  · rename_i hk
    unfold Rc.written at h
    split at h
    · omega
    · rename_i h1
      split at h
      · omega
      · rename_i h2
        rw [not_or] at h1
        have hs : r.spok = true := by simpa using h1.1
        obtain ⟨s1, s2, s3, s4⟩ := Rc.spok_spec hs
        have h3 : (r.dt.length : Int) = totS r.sp * 64 := by simpa using h2
        have h4 : totS r.sp ≤ 512 := by omega
        exact ⟨⟨n1, n2, n3, n4, .inl hk, fun _ => s2, fun _ => s4, fun h => by omega⟩, by omega, fun h => absurd hk h, fun _ => ⟨h3, h4⟩, fun _ => ⟨hs, s3⟩, fun h => by omega⟩
  · rename_i hk1
    split at h
    · rename_i hk
      unfold Rc.trimmed at h
      split at h
      · omega
      · rename_i h1
        rw [not_or] at h1
        have hs : r.spok = true := by simpa using h1.1
        have hd : r.dt = [] := by simpa using h1.2
        obtain ⟨s1, s2, s3, s4⟩ := Rc.spok_spec hs
        exact ⟨⟨n1, n2, n3, n4, .inr (.inl hk), fun _ => s2, fun _ => s4, fun h => by omega⟩, by simp [hd], fun _ => hd, fun h => by omega, fun _ => ⟨hs, s3⟩, fun h => by omega⟩
    · split at h
      · rename_i hk
        unfold Rc.noted at h
        split at h
        · omega
        · rename_i h1
          rw [not_or, not_or] at h1
          have hd : r.dt = [] := by simpa using h1.2.1
          have hsp : r.sp = [] := by simpa using h1.1
          exact ⟨⟨n1, n2, n3, n4, .inr (.inr hk), fun h => absurd hk h, fun h => absurd hk h, fun _ => by omega⟩, by simp [hd], fun _ => hd, fun h => by omega, fun h => absurd hk h, fun _ => hsp⟩
      · omega

set_option maxHeartbeats 2000000 in
theorem encode_any (r : Rc) (sv : Value) (G : List Nat) (w : World) (hr : r.good w sv G) (hG : ∀ k, k ∈ G → k < w.heap.size) :
    Calls Try.prog 13 #[r.val sv] w fun e w' => e = .returned (.tuple #[.string (str r.encV.1), .int .i64 r.encV.2]) ∧ Keeps [] w w' := by
  have Ck := Lib.hid (check_any r sv G _ (hr.newer ((Keeps.refl [] w).alloc (rbox r sv))))
  have K0 := Lib.hid ((Keeps.refl [] w).alloc (rbox r sv))
  have CB := Lib.hid (fun w' (k : Keeps [] (w.alloc (rbox r sv)) w') => boxed_new k)
  by_cases hc : r.check = 0
  · obtain ⟨hok, hdl, _⟩ := Rc.check_ok hc
    have hX := crcMore_lt 0 r.dt
    have hres : r.encV = (r.headB (crcMore 0 r.dt) ++ r.dt, 0) := by unfold Rc.encV; rw [if_pos hc]; rfl
    rw [hres]
    have Hd := Lib.hid (fun w' (k : Keeps [] w w') => rhead_any r sv G w' (hr.newer k) hok (fun x hx => by have := hG x hx; have := k.size; omega) (crcMore 0 r.dt) hX)
    have Sm := Lib.hid (fun w k h => sum1_any r.dt w k (by omega) h)
    have hlen : (r.headB (crcMore 0 r.dt) ++ r.dt).length ≤ 40000 := by
      have h1 := secs_bd (hok.len (crcMore 0 r.dt))
      unfold Rc.headB Rc.foreB
      simp only [List.length_append, be_length, List.length_replicate, List.length_cons, List.length_nil, four]
      have := hok.len (crcMore 0 r.dt)
      omega
    rw [List.length_append] at hlen
    rw [hc] at Ck
    unfold Rc.val at *
    unfold boxed at CB
    unfold rbox at *
    clear hres hok hc
    generalize r.headB (crcMore 0 r.dt) = H at *
    generalize crcMore 0 r.dt = X at *
    have A1 := fun w => cat_run H r.dt (by omega) w
    obtain ⟨ad, cap, rfl, _⟩ := hr.at_
    clear hr hG
    go_enter Try.func13, Try.ntmps13
    go_wp2_with (first
      | (go_at_call 14; (with_reducible refine Ck.out.mono ?_); rintro e w1 ⟨rfl, k1⟩; have kw1 := k1; have kv1 := K0.out.trans kw1 (by simp)))
    go_region_held3 (fun w' => w'.cell? ⟨w.heap.size, 0, none⟩ = some (.int .i64 r.ep) ∧ w'.cell? ⟨w.heap.size, 1, none⟩ = some (.int .i64 r.nr) ∧ w'.cell? ⟨w.heap.size, 2, none⟩ = some (.int .i64 r.kd) ∧ w'.cell? ⟨w.heap.size, 3, none⟩ = some (.slice ad r.sp.length cap) ∧ w'.cell? ⟨w.heap.size, 4, none⟩ = some (.string (str r.dt)) ∧ w'.cell? ⟨w.heap.size, 5, none⟩ = some (.string (str r.tx))) (first | exact CB.out _ kw1 | exact CB.out _ kw1.drew | exact CB.out _ (kw1.drew.alloc _) | exact CB.out _ (kw1.alloc _) | exact CB.out _ (kw1.alloc _).drew | exact CB.out _ kw3) (first
      | (go_at_call 27; (with_reducible refine (Sm.out _ _ ?hp).mono ?_); (case hp => exact heap_at rfl); rintro e w2 ⟨rfl, rfl⟩)
      | (go_at_call 26; (with_reducible refine (Hd.out _ (kv1.alloc _).drew).mono ?_); rintro e w3 ⟨rfl, k3⟩; have kw3 := (kw1.alloc _).drew.trans k3 (by simp); have kv3 := (kv1.alloc _).drew.trans k3 (by simp)))
    go_wp2
    go_ret2
    exact ⟨rfl, kv3⟩
  · have hres : r.encV = ([], r.check) := by unfold Rc.encV; rw [if_neg hc]
    have hb : (r.check != 0) = true := bne_iff_ne.2 hc
    rw [hres]
    generalize r.check = V at *
    unfold Rc.val at *
    unfold rbox at *
    obtain ⟨ad, cap, rfl, _⟩ := hr.at_
    clear hr hG hres
    go_enter Try.func13, Try.ntmps13
    go_wp2_with (first
      | (go_at_call 14; (with_reducible refine Ck.out.mono ?_); rintro e w1 ⟨rfl, k1⟩))
    go_ret2
    exact ⟨rfl, K0.out.trans k1 (by simp)⟩
end Go.Proofs.Ytjebldfmkpfafaa
