/- Layer 10: told, a record of kind 3. -/
import Derived.Test.YtjebldfmkpfafaaRecR
namespace Go.Proofs.Ytjebldfmkpfafaa
open Go.RowKit
set_option maxRecDepth 100000

set_option maxHeartbeats 4000000 in
theorem told_3err (s : List UInt8) (w : World) (h8 : 8 ≤ s.length) (hs : s.length ≤ 4000) (hf : (rdK (bodyOfH s)).2.2 = 0) (hk : (rdK (bodyOfH s)).1 = 3) (h4 : (rd3 (bodyOfH s) (rdK (bodyOfH s)).2.1 0 (rec0 (bodyOfH s))).2.2.2 ≠ 0) (hv : toldV s = (Rc.zero, 0, 12)) :
    Calls Try.prog 64 #[.string (str s)] w (ToldPost s w (toldV s)) := by
  have hcut : (str s).extract 4 (s.length - 4) = str (bodyOfH s) := by rw [str_extract, str_data]; unfold bodyOfH; rw [show s.length - 4 - 4 = s.length - 8 by omega]
  have hlb : (bodyOfH s).length ≤ 4000 := by unfold bodyOfH; rw [List.length_take]; omega
  have hw1 : IntKind.i64.wrap ((s.length : Int) - 4) = ((s.length - 4 : Nat) : Int) := by rw [IntWalk.i64_in _ ⟨by omega, by omega⟩]; omega
  have hz := str_empty
  have hn1 : (4 : Int) ≤ ((s.length - 4 : Nat) : Int) := by omega
  have hn2 : ((s.length - 4 : Nat) : Int) ≤ (s.length : Int) := by omega
  have hn3 : 4 ≤ s.length - 4 := by omega
  have hn4 : s.length - 4 ≤ s.length := by omega
  rw [hv]
  have Rd := Lib.hid (fun w => read_any (str (bodyOfH s)) w)
  have IE := Lib.hid (fun (w : World) b (h : InAt w b (str (bodyOfH s)) 0 0) => inInt_any b (str (bodyOfH s)) 0 0 w h (Nat.zero_le _) (by simp; omega) 4294967295 (by decide) (by decide))
  rw [str_data] at IE
  have IN := Lib.hid (fun (w : World) b (h : InAt w b (str (bodyOfH s)) (rdE (bodyOfH s)).2.1 (rdE (bodyOfH s)).2.2) => inInt_any b (str (bodyOfH s)) _ _ w h (by simpa using rdE_le (bodyOfH s)) (by simp; omega) 1099511627775 (by decide) (by decide))
  rw [str_data] at IN
  have IK := Lib.hid (fun (w : World) b (h : InAt w b (str (bodyOfH s)) (rdN (bodyOfH s)).2.1 (rdN (bodyOfH s)).2.2) => inInt_any b (str (bodyOfH s)) _ _ w h (by simpa using rdN_le (bodyOfH s)) (by simp; omega) 3 (by decide) (by decide))
  rw [str_data] at IK
  have hk3 := rint_most (bodyOfH s) _ (rdN (bodyOfH s)).2.2 3 (rdN_le _) (by decide)
  change Hid (∀ w b, _ → Calls _ _ _ _ fun e w' => e = .returned (.int .i64 (rdE (bodyOfH s)).1) ∧ InTo w w' b (str (bodyOfH s)) (rdE (bodyOfH s)).2) at IE
  change Hid (∀ w b, _ → Calls _ _ _ _ fun e w' => e = .returned (.int .i64 (rdN (bodyOfH s)).1) ∧ InTo w w' b (str (bodyOfH s)) (rdN (bodyOfH s)).2) at IN
  change Hid (∀ w b, _ → Calls _ _ _ _ fun e w' => e = .returned (.int .i64 (rdK (bodyOfH s)).1) ∧ InTo w w' b (str (bodyOfH s)) (rdK (bodyOfH s)).2) at IK
  change ((rdK (bodyOfH s)).1 : Int) ≤ 3 at hk3
  have Is := Lib.hid (fun n w => is_any n w)
  have K0 := Lib.hid ((Keeps.refl [] w).alloc zbox)
  have Zc : Hid (∀ w', Keeps [] (w.alloc zbox) w' → w'.heap[w.heap.size]? = some zbox) := fun w' k => zcells k
  have KW := Lib.hid (Keeps.refl [] (w.alloc zbox))
  unfold zbox at *
  have Gt := Lib.hid (get3)
  have hple := rdK_le (bodyOfH s)
  have hfit : Fit (rd3 (bodyOfH s) (rdK (bodyOfH s)).2.1 0 (rec0 (bodyOfH s))).2.1 := rd3_fit (by omega) (rec0_fit _)
  have hXb : (rd3 (bodyOfH s) (rdK (bodyOfH s)).2.1 0 (rec0 (bodyOfH s))).1 < 4294967296 := (show (0 : Nat) < 4294967296 by decide)
  have hkd : (rd3 (bodyOfH s) (rdK (bodyOfH s)).2.1 0 (rec0 (bodyOfH s))).2.1.kd = ((rdK (bodyOfH s)).1 : Int) := rfl
  unfold rec0 at *
  generalize rdE (bodyOfH s) = TE at *
  generalize rdN (bodyOfH s) = TN at *
  generalize rdK (bodyOfH s) = TK at *
  obtain ⟨ev, p1, e1⟩ := TE
  obtain ⟨nv, p2, e2⟩ := TN
  obtain ⟨kv, p3, e3⟩ := TK
  dsimp only at *
  have Er := Lib.hid (fun (w : World) b (h : InAt w b (str (bodyOfH s)) p3 e3) => inErr_any b (str (bodyOfH s)) p3 e3 w h)
  subst hk
  subst hf
  have hb0 : ((0 : Int) != 0) = false := rfl
  have Bz := Lib.hid hv
  clear hv
  have hGr := fun (w' : World) c F (h1 : InAt w' (w.heap.size + 1) (str (bodyOfH s)) p3 0) (h2 : RecAt w' c ⟨(ev : Int), (nv : Int), ((3 : Nat) : Int), [], [], []⟩ F) (h3 : w.heap.size + 1 ∉ F) => Gt.out (w.heap.size + 1) c (bodyOfH s) p3 0 ⟨(ev : Int), (nv : Int), ((3 : Nat) : Int), [], [], []⟩ F w' h1 h2 hple (by omega) h3 rfl
  have Gr := Lib.hid hGr
  clear hGr Gt
  generalize rd3 (bodyOfH s) p3 0 ⟨(ev : Int), (nv : Int), ((3 : Nat) : Int), [], [], []⟩ = TT at *
  obtain ⟨X, R, q4, e4⟩ := TT
  dsimp only at *
  have Er2 := Lib.hid (fun (w : World) b (h : InAt w b (str (bodyOfH s)) q4 e4) => inErr_any b (str (bodyOfH s)) q4 e4 w h)
  have Ki := Lib.hid (fun w => kinds_any w)
  have Ix := fun w => kidx3 w
  have If := fun a b c w => kfld2 a b c w
  unfold kindsV fnF at Ki
  have hkd2 : R.kd = 3 := hkd
  clear hkd
  have hb : (e4 != 0) = true := bne_iff_ne.2 h4
  obtain ⟨rep, rnr, rkd, rsp, rdt, rtx⟩ := R
  dsimp only at *
  subst hkd2
  have Fit' := Lib.hid hfit
  clear hfit
  generalize bodyOfH s = B at *
  go_enter Try.func64, Try.ntmps64
  go_wp2_with (first
    | (go_at_call 84; (with_reducible refine (Rd.out _).mono ?_); rintro e w1 ⟨rfl, hi1, k1⟩; have Hi1 := Lib.hid (hi1.at (b' := w.heap.size + 1) (by simp)); replace KW := Lib.hid (KW.out.trans k1 (by simp)); clear hi1 k1)
    | (go_at_call 77; (with_reducible refine (IE.out _ _ Hi1.out).mono ?_); rintro e w2 ⟨rfl, hi2, k2⟩; have Hi2 := Lib.hid hi2; replace KW := Lib.hid (reader_new KW.out k2 (by simp)); clear hi2 k2 Hi1)
    | (go_at_call 77; (with_reducible refine (IN.out _ _ Hi2.out).mono ?_); rintro e w3 ⟨rfl, hi3, k3⟩; have Hi3 := Lib.hid hi3; replace KW := Lib.hid (reader_new KW.out k3 (by simp)); clear hi3 k3 Hi2)
    | (go_at_call 77; (with_reducible refine (IK.out _ _ Hi3.out).mono ?_); rintro e w4 ⟨rfl, hi4, k4⟩; have Hi4 := Lib.hid hi4; replace KW := Lib.hid (reader_new KW.out k4 (by simp)); clear hi4 k4 Hi3)
    | (go_at_call 85; (with_reducible refine (Er.out _ _ ?hi).mono ?_); (case hi => exact Hi4.out.keep ((Keeps.refl [] _).alloc _) (by simp)); rintro e w5 ⟨rfl, rfl⟩; have KA := Lib.hid (KW.out.alloc (.cells #[.int .i64 ev, .int .i64 nv, .int .i64 3, .slice none 0 0, .string (str []), .string (str [])] 24)); have HR := Lib.hid (Zc.out _ KA.out); obtain ⟨⟨q0, q1, q2, q3, q4, q5⟩, f0, f1, f2, f3, f4, f5⟩ := cells6 HR.out)
    | (go_at_call 28; (with_reducible refine (Is.out _ _).mono ?_); rintro e w6 ⟨rfl, rfl⟩))
  have c2 : (w4.alloc (.cells #[.int .i64 ev, .int .i64 nv, .int .i64 3, .slice none 0 0, .string (str []), .string (str [])] 24)).cell? ⟨w4.heap.size, 2, none⟩ = some (.int .i64 3) := cell_new rfl _ _ 2
  have hra : RecAt (w4.alloc (.cells #[.int .i64 ev, .int .i64 nv, .int .i64 3, .slice none 0 0, .string (str []), .string (str [])] 24)).drew w4.heap.size ⟨(ev : Int), (nv : Int), 3, [], [], []⟩ [w4.heap.size] := ⟨.slice none 0 0, heap_alloc_self w4 _, rfl, World.ownsRow_nil _ _ _ _⟩
  have hia := Hi4.out.keep ((Keeps.refl [] _).alloc (.cells #[.int .i64 ev, .int .i64 nv, .int .i64 3, .slice none 0 0, .string (str []), .string (str [])] 24)).drew (by simp)
  have hbs : w.heap.size + 1 < w4.heap.size := Hi4.out.lt
  have KD := KA.out.drew
  go_region_held3 (fun w' => w'.cell? ⟨w4.heap.size, 2, none⟩ = some (.int .i64 3)) (first | exact c2 | exact c2b | exact c2c) (first
    | (go_at_call 29; (with_reducible refine (Ki.out _).mono ?_); rintro e w7 ⟨rfl, k7⟩; have hrb := hra.keep k7 (by simp); have hib := hia.keep k7 (by simp); have KE := KD.trans k7 (by simp); have k7s : w4.heap.size + 1 ≤ w7.heap.size := (by have := k7.size; simp at this; exact this); have c2b : w7.cell? ⟨w4.heap.size, 2, none⟩ = some (.int .i64 3) := k7.cell0 c2; clear hra hia)
    | (go_at_call 58; (with_reducible refine (Gr.out _ _ _ hib hrb ?hbn).mono ?_); (case hbn => simp; omega); rintro e w8 ⟨rfl, F8, hi8, hr8, hb8, hf8, k8⟩; have KG := KE.trans k8 (fun x hx => .inr (by simp at hx; rcases hx with rfl | rfl <;> simp <;> omega)); obtain ⟨sv, hh8, hF8, hgood⟩ := hr8.good Fit'.out; dsimp only at hh8; have c2c : w8.cell? ⟨w4.heap.size, 2, none⟩ = some (.int .i64 3) := cell_of_heap hh8 2))
  clear KA HR q0 q1 q2 q3 q4 q5 f0 f1 f2 f3 f4 f5 c2 KD KE c2b c2c hrb hib
  have KA := Lib.hid KG
  have HR := Lib.hid (Zc.out _ KA.out)
  obtain ⟨⟨q0, q1, q2, q3, q4, q5⟩, f0, f1, f2, f3, f4, f5⟩ := cells6 HR.out
  go_wp2_with (first | (go_at_call 85; (with_reducible refine (Er2.out _ _ hi8).mono ?_); rintro e w9 ⟨rfl, rfl⟩))
  refine bodyPost_ret (results_row_tmp2 rfl rfl (heap_set6 HR.out _ _ _ _ _ _) Try.underlying24 rfl (by kernel_rfl)) rfl ⟨.slice none 0 0, [], rfl, zero_good _, by simp, keeps_set6 (K0.out.trans KA.out (by simp)) (Nat.le_refl _) _ _ _ _ _ _, rfl⟩
set_option maxHeartbeats 4000000 in
theorem told_3zerobad (s : List UInt8) (w : World) (h8 : 8 ≤ s.length) (hs : s.length ≤ 4000) (hf : (rdK (bodyOfH s)).2.2 = 0) (hk : (rdK (bodyOfH s)).1 = 3) (h4 : (rd3 (bodyOfH s) (rdK (bodyOfH s)).2.1 0 (rec0 (bodyOfH s))).2.2.2 = 0) (hc : (rd3 (bodyOfH s) (rdK (bodyOfH s)).2.1 0 (rec0 (bodyOfH s))).2.1.full.check ≠ 0) (hT1 : ¬ 0 < (rd3 (bodyOfH s) (rdK (bodyOfH s)).2.1 0 (rec0 (bodyOfH s))).2.1.sects) (hv : toldV s = (Rc.zero, 0, 12)) :
    Calls Try.prog 64 #[.string (str s)] w (ToldPost s w (toldV s)) := by
  have hcut : (str s).extract 4 (s.length - 4) = str (bodyOfH s) := by rw [str_extract, str_data]; unfold bodyOfH; rw [show s.length - 4 - 4 = s.length - 8 by omega]
  have hlb : (bodyOfH s).length ≤ 4000 := by unfold bodyOfH; rw [List.length_take]; omega
  have hw1 : IntKind.i64.wrap ((s.length : Int) - 4) = ((s.length - 4 : Nat) : Int) := by rw [IntWalk.i64_in _ ⟨by omega, by omega⟩]; omega
  have hz := str_empty
  have hn1 : (4 : Int) ≤ ((s.length - 4 : Nat) : Int) := by omega
  have hn2 : ((s.length - 4 : Nat) : Int) ≤ (s.length : Int) := by omega
  have hn3 : 4 ≤ s.length - 4 := by omega
  have hn4 : s.length - 4 ≤ s.length := by omega
  rw [hv]
  have Rd := Lib.hid (fun w => read_any (str (bodyOfH s)) w)
  have IE := Lib.hid (fun (w : World) b (h : InAt w b (str (bodyOfH s)) 0 0) => inInt_any b (str (bodyOfH s)) 0 0 w h (Nat.zero_le _) (by simp; omega) 4294967295 (by decide) (by decide))
  rw [str_data] at IE
  have IN := Lib.hid (fun (w : World) b (h : InAt w b (str (bodyOfH s)) (rdE (bodyOfH s)).2.1 (rdE (bodyOfH s)).2.2) => inInt_any b (str (bodyOfH s)) _ _ w h (by simpa using rdE_le (bodyOfH s)) (by simp; omega) 1099511627775 (by decide) (by decide))
  rw [str_data] at IN
  have IK := Lib.hid (fun (w : World) b (h : InAt w b (str (bodyOfH s)) (rdN (bodyOfH s)).2.1 (rdN (bodyOfH s)).2.2) => inInt_any b (str (bodyOfH s)) _ _ w h (by simpa using rdN_le (bodyOfH s)) (by simp; omega) 3 (by decide) (by decide))
  rw [str_data] at IK
  have hk3 := rint_most (bodyOfH s) _ (rdN (bodyOfH s)).2.2 3 (rdN_le _) (by decide)
  change Hid (∀ w b, _ → Calls _ _ _ _ fun e w' => e = .returned (.int .i64 (rdE (bodyOfH s)).1) ∧ InTo w w' b (str (bodyOfH s)) (rdE (bodyOfH s)).2) at IE
  change Hid (∀ w b, _ → Calls _ _ _ _ fun e w' => e = .returned (.int .i64 (rdN (bodyOfH s)).1) ∧ InTo w w' b (str (bodyOfH s)) (rdN (bodyOfH s)).2) at IN
  change Hid (∀ w b, _ → Calls _ _ _ _ fun e w' => e = .returned (.int .i64 (rdK (bodyOfH s)).1) ∧ InTo w w' b (str (bodyOfH s)) (rdK (bodyOfH s)).2) at IK
  change ((rdK (bodyOfH s)).1 : Int) ≤ 3 at hk3
  have Is := Lib.hid (fun n w => is_any n w)
  have K0 := Lib.hid ((Keeps.refl [] w).alloc zbox)
  have Zc : Hid (∀ w', Keeps [] (w.alloc zbox) w' → w'.heap[w.heap.size]? = some zbox) := fun w' k => zcells k
  have KW := Lib.hid (Keeps.refl [] (w.alloc zbox))
  unfold zbox at *
  have Gt := Lib.hid (get3)
  have hple := rdK_le (bodyOfH s)
  have hfit : Fit (rd3 (bodyOfH s) (rdK (bodyOfH s)).2.1 0 (rec0 (bodyOfH s))).2.1 := rd3_fit (by omega) (rec0_fit _)
  have hXb : (rd3 (bodyOfH s) (rdK (bodyOfH s)).2.1 0 (rec0 (bodyOfH s))).1 < 4294967296 := (show (0 : Nat) < 4294967296 by decide)
  have hkd : (rd3 (bodyOfH s) (rdK (bodyOfH s)).2.1 0 (rec0 (bodyOfH s))).2.1.kd = ((rdK (bodyOfH s)).1 : Int) := rfl
  unfold rec0 at *
  generalize rdE (bodyOfH s) = TE at *
  generalize rdN (bodyOfH s) = TN at *
  generalize rdK (bodyOfH s) = TK at *
  obtain ⟨ev, p1, e1⟩ := TE
  obtain ⟨nv, p2, e2⟩ := TN
  obtain ⟨kv, p3, e3⟩ := TK
  dsimp only at *
  have Er := Lib.hid (fun (w : World) b (h : InAt w b (str (bodyOfH s)) p3 e3) => inErr_any b (str (bodyOfH s)) p3 e3 w h)
  subst hk
  subst hf
  have hb0 : ((0 : Int) != 0) = false := rfl
  have Bz := Lib.hid hv
  clear hv
  have hGr := fun (w' : World) c F (h1 : InAt w' (w.heap.size + 1) (str (bodyOfH s)) p3 0) (h2 : RecAt w' c ⟨(ev : Int), (nv : Int), ((3 : Nat) : Int), [], [], []⟩ F) (h3 : w.heap.size + 1 ∉ F) => Gt.out (w.heap.size + 1) c (bodyOfH s) p3 0 ⟨(ev : Int), (nv : Int), ((3 : Nat) : Int), [], [], []⟩ F w' h1 h2 hple (by omega) h3 rfl
  have Gr := Lib.hid hGr
  clear hGr Gt
  generalize rd3 (bodyOfH s) p3 0 ⟨(ev : Int), (nv : Int), ((3 : Nat) : Int), [], [], []⟩ = TT at *
  obtain ⟨X, R, q4, e4⟩ := TT
  dsimp only at *
  have Er2 := Lib.hid (fun (w : World) b (h : InAt w b (str (bodyOfH s)) q4 e4) => inErr_any b (str (bodyOfH s)) q4 e4 w h)
  have Ki := Lib.hid (fun w => kinds_any w)
  have Ix := fun w => kidx3 w
  have If := fun a b c w => kfld2 a b c w
  unfold kindsV fnF at Ki
  have hkd2 : R.kd = 3 := hkd
  clear hkd
  subst h4
  have Da := Lib.hid (fun (w' : World) sv G (h : R.good w' sv G) => data_any R sv G w' h hfit)
  have hful : R.full = R := by unfold Rc.full; rw [if_neg (fun h => hT1 h.1)]
  rw [hful] at hc
  have d1 : decide (0 < R.sects) = false := decide_eq_false hT1
  have Ck := Lib.hid (fun (w' : World) sv G (h : R.good w' sv G) => check_any R sv G w' h)
  have hb : (R.check != 0) = true := bne_iff_ne.2 hc
  generalize R.check = V at *
  unfold Rc.val at Da Ck
  clear hful
  generalize R.sects = SX at *
  obtain ⟨rep, rnr, rkd, rsp, rdt, rtx⟩ := R
  dsimp only at *
  subst hkd2
  have Fit' := Lib.hid hfit
  clear hfit
  generalize bodyOfH s = B at *
  go_enter Try.func64, Try.ntmps64
  go_wp2_with (first
    | (go_at_call 84; (with_reducible refine (Rd.out _).mono ?_); rintro e w1 ⟨rfl, hi1, k1⟩; have Hi1 := Lib.hid (hi1.at (b' := w.heap.size + 1) (by simp)); replace KW := Lib.hid (KW.out.trans k1 (by simp)); clear hi1 k1)
    | (go_at_call 77; (with_reducible refine (IE.out _ _ Hi1.out).mono ?_); rintro e w2 ⟨rfl, hi2, k2⟩; have Hi2 := Lib.hid hi2; replace KW := Lib.hid (reader_new KW.out k2 (by simp)); clear hi2 k2 Hi1)
    | (go_at_call 77; (with_reducible refine (IN.out _ _ Hi2.out).mono ?_); rintro e w3 ⟨rfl, hi3, k3⟩; have Hi3 := Lib.hid hi3; replace KW := Lib.hid (reader_new KW.out k3 (by simp)); clear hi3 k3 Hi2)
    | (go_at_call 77; (with_reducible refine (IK.out _ _ Hi3.out).mono ?_); rintro e w4 ⟨rfl, hi4, k4⟩; have Hi4 := Lib.hid hi4; replace KW := Lib.hid (reader_new KW.out k4 (by simp)); clear hi4 k4 Hi3)
    | (go_at_call 85; (with_reducible refine (Er.out _ _ ?hi).mono ?_); (case hi => exact Hi4.out.keep ((Keeps.refl [] _).alloc _) (by simp)); rintro e w5 ⟨rfl, rfl⟩; have KA := Lib.hid (KW.out.alloc (.cells #[.int .i64 ev, .int .i64 nv, .int .i64 3, .slice none 0 0, .string (str []), .string (str [])] 24)); have HR := Lib.hid (Zc.out _ KA.out); obtain ⟨⟨q0, q1, q2, q3, q4, q5⟩, f0, f1, f2, f3, f4, f5⟩ := cells6 HR.out)
    | (go_at_call 28; (with_reducible refine (Is.out _ _).mono ?_); rintro e w6 ⟨rfl, rfl⟩))
  have c2 : (w4.alloc (.cells #[.int .i64 ev, .int .i64 nv, .int .i64 3, .slice none 0 0, .string (str []), .string (str [])] 24)).cell? ⟨w4.heap.size, 2, none⟩ = some (.int .i64 3) := cell_new rfl _ _ 2
  have hra : RecAt (w4.alloc (.cells #[.int .i64 ev, .int .i64 nv, .int .i64 3, .slice none 0 0, .string (str []), .string (str [])] 24)).drew w4.heap.size ⟨(ev : Int), (nv : Int), 3, [], [], []⟩ [w4.heap.size] := ⟨.slice none 0 0, heap_alloc_self w4 _, rfl, World.ownsRow_nil _ _ _ _⟩
  have hia := Hi4.out.keep ((Keeps.refl [] _).alloc (.cells #[.int .i64 ev, .int .i64 nv, .int .i64 3, .slice none 0 0, .string (str []), .string (str [])] 24)).drew (by simp)
  have hbs : w.heap.size + 1 < w4.heap.size := Hi4.out.lt
  have KD := KA.out.drew
  go_region_held3 (fun w' => w'.cell? ⟨w4.heap.size, 2, none⟩ = some (.int .i64 3)) (first | exact c2 | exact c2b | exact c2c) (first
    | (go_at_call 29; (with_reducible refine (Ki.out _).mono ?_); rintro e w7 ⟨rfl, k7⟩; have hrb := hra.keep k7 (by simp); have hib := hia.keep k7 (by simp); have KE := KD.trans k7 (by simp); have k7s : w4.heap.size + 1 ≤ w7.heap.size := (by have := k7.size; simp at this; exact this); have c2b : w7.cell? ⟨w4.heap.size, 2, none⟩ = some (.int .i64 3) := k7.cell0 c2; clear hra hia)
    | (go_at_call 58; (with_reducible refine (Gr.out _ _ _ hib hrb ?hbn).mono ?_); (case hbn => simp; omega); rintro e w8 ⟨rfl, F8, hi8, hr8, hb8, hf8, k8⟩; have KG := KE.trans k8 (fun x hx => .inr (by simp at hx; rcases hx with rfl | rfl <;> simp <;> omega)); obtain ⟨sv, hh8, hF8, hgood⟩ := hr8.good Fit'.out; dsimp only at hh8; have c2c : w8.cell? ⟨w4.heap.size, 2, none⟩ = some (.int .i64 3) := cell_of_heap hh8 2))
  clear KA HR q0 q1 q2 q3 q4 q5 f0 f1 f2 f3 f4 f5 c2 KD KE c2b c2c hrb hib
  obtain ⟨ad, cap, rfl, _⟩ := hgood.at_
  dsimp only at *
  have Hgood := Lib.hid hgood
  have HF8 := Lib.hid hF8
  have Hf8 := Lib.hid hf8
  have Hhr8 := Lib.hid hr8.lt
  clear hgood hF8 hf8 hr8
  have Hh8 := Lib.hid hh8
  obtain ⟨⟨r0, r1, r2, r3, r4, r5⟩, _⟩ := cells6 hh8
  obtain ⟨⟨s0, s1, s2, s3, s4, s5⟩, _⟩ := cells6_was hh8
  go_wp2_with (first
    | (go_at_call 85; (with_reducible refine (Er2.out _ _ hi8).mono ?_); rintro e w9 ⟨rfl, rfl⟩)
    | (go_at_call 35; (with_reducible refine (Da.out _ _ _ (Hgood.out.newer ((Keeps.refl [] w8).alloc (.cells #[.int .i64 rep, .int .i64 rnr, .int .i64 3, .slice ad rsp.length cap, .string (str rdt), .string (str rtx)] 24)))).mono ?_); rintro e w9 ⟨rfl, k9⟩; have K8 := ((Keeps.refl [] w8).alloc (.cells #[.int .i64 rep, .int .i64 rnr, .int .i64 3, .slice ad rsp.length cap, .string (str rdt), .string (str rtx)] 24)).trans k9 (by simp); have hfl := k9.some (heap_at (w := w8) (k := w8.heap.size) (o := (.cells #[.int .i64 rep, .int .i64 rnr, .int .i64 3, .slice ad rsp.length cap, .string (str rdt), .string (str rtx)] 24)) rfl) (by simp); clear s0 s1 s2 s3 s4 s5; (try clear r0 r1 r2 r3 r4 r5); obtain ⟨⟨r0, r1, r2, r3, r4, r5⟩, _⟩ := cells6 (K8.some hh8 (by simp)); (try clear g0 g1 g2 g3 g4 g5 x0 x1 x2 x3 x4 x5); obtain ⟨⟨g0, g1, g2, g3, g4, g5⟩, x0, x1, x2, x3, x4, x5⟩ := cells6 hfl)
    | (go_at_call 14; (with_reducible refine (Ck.out _ _ _ (Hgood.out.newer K8)).mono ?_); rintro e wB ⟨rfl, kB⟩; replace K8 := KT K8 kB; clear hfl; (try clear g0 g1 g2 g3 g4 g5 x0 x1 x2 x3 x4 x5); (try clear r0 r1 r2 r3 r4 r5); obtain ⟨⟨r0, r1, r2, r3, r4, r5⟩, _⟩ := cells6 (K8.some hh8 (by simp)); have KA := Lib.hid (KG.trans K8 (by simp)); have HR := Lib.hid (Zc.out _ KA.out); obtain ⟨⟨q0, q1, q2, q3, q4, q5⟩, f0, f1, f2, f3, f4, f5⟩ := cells6 HR.out))
  refine bodyPost_ret (results_row_tmp2 rfl rfl (heap_set6 HR.out _ _ _ _ _ _) Try.underlying24 rfl (by kernel_rfl)) rfl ⟨.slice none 0 0, [], rfl, zero_good _, by simp, keeps_set6 (K0.out.trans KA.out (by simp)) (Nat.le_refl _) _ _ _ _ _ _, rfl⟩
set_option maxHeartbeats 4000000 in
theorem told_3zerohead (s : List UInt8) (w : World) (h8 : 8 ≤ s.length) (hs : s.length ≤ 4000) (hf : (rdK (bodyOfH s)).2.2 = 0) (hk : (rdK (bodyOfH s)).1 = 3) (h4 : (rd3 (bodyOfH s) (rdK (bodyOfH s)).2.1 0 (rec0 (bodyOfH s))).2.2.2 = 0) (hc : (rd3 (bodyOfH s) (rdK (bodyOfH s)).2.1 0 (rec0 (bodyOfH s))).2.1.full.check = 0) (hT1 : ¬ 0 < (rd3 (bodyOfH s) (rdK (bodyOfH s)).2.1 0 (rec0 (bodyOfH s))).2.1.sects) (hh : (rd3 (bodyOfH s) (rdK (bodyOfH s)).2.1 0 (rec0 (bodyOfH s))).2.1.headB (rd3 (bodyOfH s) (rdK (bodyOfH s)).2.1 0 (rec0 (bodyOfH s))).1 ≠ s) (hv : toldV s = (Rc.zero, 0, 12)) :
    Calls Try.prog 64 #[.string (str s)] w (ToldPost s w (toldV s)) := by
  have hcut : (str s).extract 4 (s.length - 4) = str (bodyOfH s) := by rw [str_extract, str_data]; unfold bodyOfH; rw [show s.length - 4 - 4 = s.length - 8 by omega]
  have hlb : (bodyOfH s).length ≤ 4000 := by unfold bodyOfH; rw [List.length_take]; omega
  have hw1 : IntKind.i64.wrap ((s.length : Int) - 4) = ((s.length - 4 : Nat) : Int) := by rw [IntWalk.i64_in _ ⟨by omega, by omega⟩]; omega
  have hz := str_empty
  have hn1 : (4 : Int) ≤ ((s.length - 4 : Nat) : Int) := by omega
  have hn2 : ((s.length - 4 : Nat) : Int) ≤ (s.length : Int) := by omega
  have hn3 : 4 ≤ s.length - 4 := by omega
  have hn4 : s.length - 4 ≤ s.length := by omega
  rw [hv]
  have Rd := Lib.hid (fun w => read_any (str (bodyOfH s)) w)
  have IE := Lib.hid (fun (w : World) b (h : InAt w b (str (bodyOfH s)) 0 0) => inInt_any b (str (bodyOfH s)) 0 0 w h (Nat.zero_le _) (by simp; omega) 4294967295 (by decide) (by decide))
  rw [str_data] at IE
  have IN := Lib.hid (fun (w : World) b (h : InAt w b (str (bodyOfH s)) (rdE (bodyOfH s)).2.1 (rdE (bodyOfH s)).2.2) => inInt_any b (str (bodyOfH s)) _ _ w h (by simpa using rdE_le (bodyOfH s)) (by simp; omega) 1099511627775 (by decide) (by decide))
  rw [str_data] at IN
  have IK := Lib.hid (fun (w : World) b (h : InAt w b (str (bodyOfH s)) (rdN (bodyOfH s)).2.1 (rdN (bodyOfH s)).2.2) => inInt_any b (str (bodyOfH s)) _ _ w h (by simpa using rdN_le (bodyOfH s)) (by simp; omega) 3 (by decide) (by decide))
  rw [str_data] at IK
  have hk3 := rint_most (bodyOfH s) _ (rdN (bodyOfH s)).2.2 3 (rdN_le _) (by decide)
  change Hid (∀ w b, _ → Calls _ _ _ _ fun e w' => e = .returned (.int .i64 (rdE (bodyOfH s)).1) ∧ InTo w w' b (str (bodyOfH s)) (rdE (bodyOfH s)).2) at IE
  change Hid (∀ w b, _ → Calls _ _ _ _ fun e w' => e = .returned (.int .i64 (rdN (bodyOfH s)).1) ∧ InTo w w' b (str (bodyOfH s)) (rdN (bodyOfH s)).2) at IN
  change Hid (∀ w b, _ → Calls _ _ _ _ fun e w' => e = .returned (.int .i64 (rdK (bodyOfH s)).1) ∧ InTo w w' b (str (bodyOfH s)) (rdK (bodyOfH s)).2) at IK
  change ((rdK (bodyOfH s)).1 : Int) ≤ 3 at hk3
  have Is := Lib.hid (fun n w => is_any n w)
  have K0 := Lib.hid ((Keeps.refl [] w).alloc zbox)
  have Zc : Hid (∀ w', Keeps [] (w.alloc zbox) w' → w'.heap[w.heap.size]? = some zbox) := fun w' k => zcells k
  have KW := Lib.hid (Keeps.refl [] (w.alloc zbox))
  unfold zbox at *
  have Gt := Lib.hid (get3)
  have hple := rdK_le (bodyOfH s)
  have hfit : Fit (rd3 (bodyOfH s) (rdK (bodyOfH s)).2.1 0 (rec0 (bodyOfH s))).2.1 := rd3_fit (by omega) (rec0_fit _)
  have hXb : (rd3 (bodyOfH s) (rdK (bodyOfH s)).2.1 0 (rec0 (bodyOfH s))).1 < 4294967296 := (show (0 : Nat) < 4294967296 by decide)
  have hkd : (rd3 (bodyOfH s) (rdK (bodyOfH s)).2.1 0 (rec0 (bodyOfH s))).2.1.kd = ((rdK (bodyOfH s)).1 : Int) := rfl
  unfold rec0 at *
  generalize rdE (bodyOfH s) = TE at *
  generalize rdN (bodyOfH s) = TN at *
  generalize rdK (bodyOfH s) = TK at *
  obtain ⟨ev, p1, e1⟩ := TE
  obtain ⟨nv, p2, e2⟩ := TN
  obtain ⟨kv, p3, e3⟩ := TK
  dsimp only at *
  have Er := Lib.hid (fun (w : World) b (h : InAt w b (str (bodyOfH s)) p3 e3) => inErr_any b (str (bodyOfH s)) p3 e3 w h)
  subst hk
  subst hf
  have hb0 : ((0 : Int) != 0) = false := rfl
  have Bz := Lib.hid hv
  clear hv
  have hGr := fun (w' : World) c F (h1 : InAt w' (w.heap.size + 1) (str (bodyOfH s)) p3 0) (h2 : RecAt w' c ⟨(ev : Int), (nv : Int), ((3 : Nat) : Int), [], [], []⟩ F) (h3 : w.heap.size + 1 ∉ F) => Gt.out (w.heap.size + 1) c (bodyOfH s) p3 0 ⟨(ev : Int), (nv : Int), ((3 : Nat) : Int), [], [], []⟩ F w' h1 h2 hple (by omega) h3 rfl
  have Gr := Lib.hid hGr
  clear hGr Gt
  generalize rd3 (bodyOfH s) p3 0 ⟨(ev : Int), (nv : Int), ((3 : Nat) : Int), [], [], []⟩ = TT at *
  obtain ⟨X, R, q4, e4⟩ := TT
  dsimp only at *
  have Er2 := Lib.hid (fun (w : World) b (h : InAt w b (str (bodyOfH s)) q4 e4) => inErr_any b (str (bodyOfH s)) q4 e4 w h)
  have Ki := Lib.hid (fun w => kinds_any w)
  have Ix := fun w => kidx3 w
  have If := fun a b c w => kfld2 a b c w
  unfold kindsV fnF at Ki
  have hkd2 : R.kd = 3 := hkd
  clear hkd
  subst h4
  have Da := Lib.hid (fun (w' : World) sv G (h : R.good w' sv G) => data_any R sv G w' h hfit)
  have hful : R.full = R := by unfold Rc.full; rw [if_neg (fun h => hT1 h.1)]
  rw [hful] at hc
  have d1 : decide (0 < R.sects) = false := decide_eq_false hT1
  have Ck := Lib.hid (fun (w' : World) sv G (h : R.good w' sv G) => check_any R sv G w' h)
  have hok : R.hok := (Rc.check_ok hc).1
  have Hd := Lib.hid (fun (w' : World) sv G (h : R.good w' sv G) hG => rhead_any R sv G w' h hok hG X hXb)
  rw [hc] at Ck
  have hne : (R.headB X == s) = false := beq_eq_false_iff_ne.2 hh
  generalize R.headB X = HB at *
  clear hok hc
  unfold Rc.val at Da Ck Hd
  clear hful
  generalize R.sects = SX at *
  obtain ⟨rep, rnr, rkd, rsp, rdt, rtx⟩ := R
  dsimp only at *
  subst hkd2
  have Fit' := Lib.hid hfit
  clear hfit
  generalize bodyOfH s = B at *
  go_enter Try.func64, Try.ntmps64
  go_wp2_with (first
    | (go_at_call 84; (with_reducible refine (Rd.out _).mono ?_); rintro e w1 ⟨rfl, hi1, k1⟩; have Hi1 := Lib.hid (hi1.at (b' := w.heap.size + 1) (by simp)); replace KW := Lib.hid (KW.out.trans k1 (by simp)); clear hi1 k1)
    | (go_at_call 77; (with_reducible refine (IE.out _ _ Hi1.out).mono ?_); rintro e w2 ⟨rfl, hi2, k2⟩; have Hi2 := Lib.hid hi2; replace KW := Lib.hid (reader_new KW.out k2 (by simp)); clear hi2 k2 Hi1)
    | (go_at_call 77; (with_reducible refine (IN.out _ _ Hi2.out).mono ?_); rintro e w3 ⟨rfl, hi3, k3⟩; have Hi3 := Lib.hid hi3; replace KW := Lib.hid (reader_new KW.out k3 (by simp)); clear hi3 k3 Hi2)
    | (go_at_call 77; (with_reducible refine (IK.out _ _ Hi3.out).mono ?_); rintro e w4 ⟨rfl, hi4, k4⟩; have Hi4 := Lib.hid hi4; replace KW := Lib.hid (reader_new KW.out k4 (by simp)); clear hi4 k4 Hi3)
    | (go_at_call 85; (with_reducible refine (Er.out _ _ ?hi).mono ?_); (case hi => exact Hi4.out.keep ((Keeps.refl [] _).alloc _) (by simp)); rintro e w5 ⟨rfl, rfl⟩; have KA := Lib.hid (KW.out.alloc (.cells #[.int .i64 ev, .int .i64 nv, .int .i64 3, .slice none 0 0, .string (str []), .string (str [])] 24)); have HR := Lib.hid (Zc.out _ KA.out); obtain ⟨⟨q0, q1, q2, q3, q4, q5⟩, f0, f1, f2, f3, f4, f5⟩ := cells6 HR.out)
    | (go_at_call 28; (with_reducible refine (Is.out _ _).mono ?_); rintro e w6 ⟨rfl, rfl⟩))
  have c2 : (w4.alloc (.cells #[.int .i64 ev, .int .i64 nv, .int .i64 3, .slice none 0 0, .string (str []), .string (str [])] 24)).cell? ⟨w4.heap.size, 2, none⟩ = some (.int .i64 3) := cell_new rfl _ _ 2
  have hra : RecAt (w4.alloc (.cells #[.int .i64 ev, .int .i64 nv, .int .i64 3, .slice none 0 0, .string (str []), .string (str [])] 24)).drew w4.heap.size ⟨(ev : Int), (nv : Int), 3, [], [], []⟩ [w4.heap.size] := ⟨.slice none 0 0, heap_alloc_self w4 _, rfl, World.ownsRow_nil _ _ _ _⟩
  have hia := Hi4.out.keep ((Keeps.refl [] _).alloc (.cells #[.int .i64 ev, .int .i64 nv, .int .i64 3, .slice none 0 0, .string (str []), .string (str [])] 24)).drew (by simp)
  have hbs : w.heap.size + 1 < w4.heap.size := Hi4.out.lt
  have KD := KA.out.drew
  go_region_held3 (fun w' => w'.cell? ⟨w4.heap.size, 2, none⟩ = some (.int .i64 3)) (first | exact c2 | exact c2b | exact c2c) (first
    | (go_at_call 29; (with_reducible refine (Ki.out _).mono ?_); rintro e w7 ⟨rfl, k7⟩; have hrb := hra.keep k7 (by simp); have hib := hia.keep k7 (by simp); have KE := KD.trans k7 (by simp); have k7s : w4.heap.size + 1 ≤ w7.heap.size := (by have := k7.size; simp at this; exact this); have c2b : w7.cell? ⟨w4.heap.size, 2, none⟩ = some (.int .i64 3) := k7.cell0 c2; clear hra hia)
    | (go_at_call 58; (with_reducible refine (Gr.out _ _ _ hib hrb ?hbn).mono ?_); (case hbn => simp; omega); rintro e w8 ⟨rfl, F8, hi8, hr8, hb8, hf8, k8⟩; have KG := KE.trans k8 (fun x hx => .inr (by simp at hx; rcases hx with rfl | rfl <;> simp <;> omega)); obtain ⟨sv, hh8, hF8, hgood⟩ := hr8.good Fit'.out; dsimp only at hh8; have c2c : w8.cell? ⟨w4.heap.size, 2, none⟩ = some (.int .i64 3) := cell_of_heap hh8 2))
  clear KA HR q0 q1 q2 q3 q4 q5 f0 f1 f2 f3 f4 f5 c2 KD KE c2b c2c hrb hib
  obtain ⟨ad, cap, rfl, _⟩ := hgood.at_
  dsimp only at *
  have Hgood := Lib.hid hgood
  have HF8 := Lib.hid hF8
  have Hf8 := Lib.hid hf8
  have Hhr8 := Lib.hid hr8.lt
  clear hgood hF8 hf8 hr8
  have Hh8 := Lib.hid hh8
  obtain ⟨⟨r0, r1, r2, r3, r4, r5⟩, _⟩ := cells6 hh8
  obtain ⟨⟨s0, s1, s2, s3, s4, s5⟩, _⟩ := cells6_was hh8
  go_wp2_with (first
    | (go_at_call 85; (with_reducible refine (Er2.out _ _ hi8).mono ?_); rintro e w9 ⟨rfl, rfl⟩)
    | (go_at_call 35; (with_reducible refine (Da.out _ _ _ (Hgood.out.newer ((Keeps.refl [] w8).alloc (.cells #[.int .i64 rep, .int .i64 rnr, .int .i64 3, .slice ad rsp.length cap, .string (str rdt), .string (str rtx)] 24)))).mono ?_); rintro e w9 ⟨rfl, k9⟩; have K8 := ((Keeps.refl [] w8).alloc (.cells #[.int .i64 rep, .int .i64 rnr, .int .i64 3, .slice ad rsp.length cap, .string (str rdt), .string (str rtx)] 24)).trans k9 (by simp); have hfl := k9.some (heap_at (w := w8) (k := w8.heap.size) (o := (.cells #[.int .i64 rep, .int .i64 rnr, .int .i64 3, .slice ad rsp.length cap, .string (str rdt), .string (str rtx)] 24)) rfl) (by simp); clear s0 s1 s2 s3 s4 s5; (try clear r0 r1 r2 r3 r4 r5); obtain ⟨⟨r0, r1, r2, r3, r4, r5⟩, _⟩ := cells6 (K8.some hh8 (by simp)); (try clear g0 g1 g2 g3 g4 g5 x0 x1 x2 x3 x4 x5); obtain ⟨⟨g0, g1, g2, g3, g4, g5⟩, x0, x1, x2, x3, x4, x5⟩ := cells6 hfl)
    | (go_at_call 14; (with_reducible refine (Ck.out _ _ _ (Hgood.out.newer K8)).mono ?_); rintro e wB ⟨rfl, kB⟩; replace K8 := KT K8 kB; clear hfl; (try clear g0 g1 g2 g3 g4 g5 x0 x1 x2 x3 x4 x5); (try clear r0 r1 r2 r3 r4 r5); obtain ⟨⟨r0, r1, r2, r3, r4, r5⟩, _⟩ := cells6 (K8.some hh8 (by simp)))
    | (go_at_call 26; (with_reducible refine (Hd.out _ _ _ (Hgood.out.newer K8) ?hgl).mono ?_); (case hgl => intro x hx; have := Hhr8.out x (by rw [HF8.out]; exact List.mem_cons_of_mem _ hx); have := K8.size; omega); rintro e wC ⟨rfl, kC⟩; replace K8 := KT K8 kC; (try clear r0 r1 r2 r3 r4 r5); obtain ⟨⟨r0, r1, r2, r3, r4, r5⟩, _⟩ := cells6 (K8.some hh8 (by simp)); have KA := Lib.hid (KG.trans K8 (by simp)); have HR := Lib.hid (Zc.out _ KA.out); obtain ⟨⟨q0, q1, q2, q3, q4, q5⟩, f0, f1, f2, f3, f4, f5⟩ := cells6 HR.out))
  refine bodyPost_ret (results_row_tmp2 rfl rfl (heap_set6 HR.out _ _ _ _ _ _) Try.underlying24 rfl (by kernel_rfl)) rfl ⟨.slice none 0 0, [], rfl, zero_good _, by simp, keeps_set6 (K0.out.trans KA.out (by simp)) (Nat.le_refl _) _ _ _ _ _ _, rfl⟩
set_option maxHeartbeats 4000000 in
theorem told_3zerook (s : List UInt8) (w : World) (h8 : 8 ≤ s.length) (hs : s.length ≤ 4000) (hf : (rdK (bodyOfH s)).2.2 = 0) (hk : (rdK (bodyOfH s)).1 = 3) (h4 : (rd3 (bodyOfH s) (rdK (bodyOfH s)).2.1 0 (rec0 (bodyOfH s))).2.2.2 = 0) (hc : (rd3 (bodyOfH s) (rdK (bodyOfH s)).2.1 0 (rec0 (bodyOfH s))).2.1.full.check = 0) (hT1 : ¬ 0 < (rd3 (bodyOfH s) (rdK (bodyOfH s)).2.1 0 (rec0 (bodyOfH s))).2.1.sects) (hh : (rd3 (bodyOfH s) (rdK (bodyOfH s)).2.1 0 (rec0 (bodyOfH s))).2.1.headB (rd3 (bodyOfH s) (rdK (bodyOfH s)).2.1 0 (rec0 (bodyOfH s))).1 = s) (hv : toldV s = ((rd3 (bodyOfH s) (rdK (bodyOfH s)).2.1 0 (rec0 (bodyOfH s))).2.1, (rd3 (bodyOfH s) (rdK (bodyOfH s)).2.1 0 (rec0 (bodyOfH s))).1, 0)) :
    Calls Try.prog 64 #[.string (str s)] w (ToldPost s w (toldV s)) := by
  have hcut : (str s).extract 4 (s.length - 4) = str (bodyOfH s) := by rw [str_extract, str_data]; unfold bodyOfH; rw [show s.length - 4 - 4 = s.length - 8 by omega]
  have hlb : (bodyOfH s).length ≤ 4000 := by unfold bodyOfH; rw [List.length_take]; omega
  have hw1 : IntKind.i64.wrap ((s.length : Int) - 4) = ((s.length - 4 : Nat) : Int) := by rw [IntWalk.i64_in _ ⟨by omega, by omega⟩]; omega
  have hz := str_empty
  have hn1 : (4 : Int) ≤ ((s.length - 4 : Nat) : Int) := by omega
  have hn2 : ((s.length - 4 : Nat) : Int) ≤ (s.length : Int) := by omega
  have hn3 : 4 ≤ s.length - 4 := by omega
  have hn4 : s.length - 4 ≤ s.length := by omega
  rw [hv]
  have Rd := Lib.hid (fun w => read_any (str (bodyOfH s)) w)
  have IE := Lib.hid (fun (w : World) b (h : InAt w b (str (bodyOfH s)) 0 0) => inInt_any b (str (bodyOfH s)) 0 0 w h (Nat.zero_le _) (by simp; omega) 4294967295 (by decide) (by decide))
  rw [str_data] at IE
  have IN := Lib.hid (fun (w : World) b (h : InAt w b (str (bodyOfH s)) (rdE (bodyOfH s)).2.1 (rdE (bodyOfH s)).2.2) => inInt_any b (str (bodyOfH s)) _ _ w h (by simpa using rdE_le (bodyOfH s)) (by simp; omega) 1099511627775 (by decide) (by decide))
  rw [str_data] at IN
  have IK := Lib.hid (fun (w : World) b (h : InAt w b (str (bodyOfH s)) (rdN (bodyOfH s)).2.1 (rdN (bodyOfH s)).2.2) => inInt_any b (str (bodyOfH s)) _ _ w h (by simpa using rdN_le (bodyOfH s)) (by simp; omega) 3 (by decide) (by decide))
  rw [str_data] at IK
  have hk3 := rint_most (bodyOfH s) _ (rdN (bodyOfH s)).2.2 3 (rdN_le _) (by decide)
  change Hid (∀ w b, _ → Calls _ _ _ _ fun e w' => e = .returned (.int .i64 (rdE (bodyOfH s)).1) ∧ InTo w w' b (str (bodyOfH s)) (rdE (bodyOfH s)).2) at IE
  change Hid (∀ w b, _ → Calls _ _ _ _ fun e w' => e = .returned (.int .i64 (rdN (bodyOfH s)).1) ∧ InTo w w' b (str (bodyOfH s)) (rdN (bodyOfH s)).2) at IN
  change Hid (∀ w b, _ → Calls _ _ _ _ fun e w' => e = .returned (.int .i64 (rdK (bodyOfH s)).1) ∧ InTo w w' b (str (bodyOfH s)) (rdK (bodyOfH s)).2) at IK
  change ((rdK (bodyOfH s)).1 : Int) ≤ 3 at hk3
  have Is := Lib.hid (fun n w => is_any n w)
  have K0 := Lib.hid ((Keeps.refl [] w).alloc zbox)
  have Zc : Hid (∀ w', Keeps [] (w.alloc zbox) w' → w'.heap[w.heap.size]? = some zbox) := fun w' k => zcells k
  have KW := Lib.hid (Keeps.refl [] (w.alloc zbox))
  unfold zbox at *
  have Gt := Lib.hid (get3)
  have hple := rdK_le (bodyOfH s)
  have hfit : Fit (rd3 (bodyOfH s) (rdK (bodyOfH s)).2.1 0 (rec0 (bodyOfH s))).2.1 := rd3_fit (by omega) (rec0_fit _)
  have hXb : (rd3 (bodyOfH s) (rdK (bodyOfH s)).2.1 0 (rec0 (bodyOfH s))).1 < 4294967296 := (show (0 : Nat) < 4294967296 by decide)
  have hkd : (rd3 (bodyOfH s) (rdK (bodyOfH s)).2.1 0 (rec0 (bodyOfH s))).2.1.kd = ((rdK (bodyOfH s)).1 : Int) := rfl
  unfold rec0 at *
  generalize rdE (bodyOfH s) = TE at *
  generalize rdN (bodyOfH s) = TN at *
  generalize rdK (bodyOfH s) = TK at *
  obtain ⟨ev, p1, e1⟩ := TE
  obtain ⟨nv, p2, e2⟩ := TN
  obtain ⟨kv, p3, e3⟩ := TK
  dsimp only at *
  have Er := Lib.hid (fun (w : World) b (h : InAt w b (str (bodyOfH s)) p3 e3) => inErr_any b (str (bodyOfH s)) p3 e3 w h)
  subst hk
  subst hf
  have hb0 : ((0 : Int) != 0) = false := rfl
  have Bz := Lib.hid hv
  clear hv
  have hGr := fun (w' : World) c F (h1 : InAt w' (w.heap.size + 1) (str (bodyOfH s)) p3 0) (h2 : RecAt w' c ⟨(ev : Int), (nv : Int), ((3 : Nat) : Int), [], [], []⟩ F) (h3 : w.heap.size + 1 ∉ F) => Gt.out (w.heap.size + 1) c (bodyOfH s) p3 0 ⟨(ev : Int), (nv : Int), ((3 : Nat) : Int), [], [], []⟩ F w' h1 h2 hple (by omega) h3 rfl
  have Gr := Lib.hid hGr
  clear hGr Gt
  generalize rd3 (bodyOfH s) p3 0 ⟨(ev : Int), (nv : Int), ((3 : Nat) : Int), [], [], []⟩ = TT at *
  obtain ⟨X, R, q4, e4⟩ := TT
  dsimp only at *
  have Er2 := Lib.hid (fun (w : World) b (h : InAt w b (str (bodyOfH s)) q4 e4) => inErr_any b (str (bodyOfH s)) q4 e4 w h)
  have Ki := Lib.hid (fun w => kinds_any w)
  have Ix := fun w => kidx3 w
  have If := fun a b c w => kfld2 a b c w
  unfold kindsV fnF at Ki
  have hkd2 : R.kd = 3 := hkd
  clear hkd
  subst h4
  have Da := Lib.hid (fun (w' : World) sv G (h : R.good w' sv G) => data_any R sv G w' h hfit)
  have hful : R.full = R := by unfold Rc.full; rw [if_neg (fun h => hT1 h.1)]
  rw [hful] at hc
  have d1 : decide (0 < R.sects) = false := decide_eq_false hT1
  have Ck := Lib.hid (fun (w' : World) sv G (h : R.good w' sv G) => check_any R sv G w' h)
  have hok : R.hok := (Rc.check_ok hc).1
  have Hd := Lib.hid (fun (w' : World) sv G (h : R.good w' sv G) hG => rhead_any R sv G w' h hok hG X hXb)
  rw [hc] at Ck
  rw [hh] at Hd
  clear hok hc
  unfold Rc.val at Da Ck Hd
  clear hful
  generalize R.sects = SX at *
  obtain ⟨rep, rnr, rkd, rsp, rdt, rtx⟩ := R
  dsimp only at *
  subst hkd2
  have Fit' := Lib.hid hfit
  clear hfit
  generalize bodyOfH s = B at *
  go_enter Try.func64, Try.ntmps64
  go_wp2_with (first
    | (go_at_call 84; (with_reducible refine (Rd.out _).mono ?_); rintro e w1 ⟨rfl, hi1, k1⟩; have Hi1 := Lib.hid (hi1.at (b' := w.heap.size + 1) (by simp)); replace KW := Lib.hid (KW.out.trans k1 (by simp)); clear hi1 k1)
    | (go_at_call 77; (with_reducible refine (IE.out _ _ Hi1.out).mono ?_); rintro e w2 ⟨rfl, hi2, k2⟩; have Hi2 := Lib.hid hi2; replace KW := Lib.hid (reader_new KW.out k2 (by simp)); clear hi2 k2 Hi1)
    | (go_at_call 77; (with_reducible refine (IN.out _ _ Hi2.out).mono ?_); rintro e w3 ⟨rfl, hi3, k3⟩; have Hi3 := Lib.hid hi3; replace KW := Lib.hid (reader_new KW.out k3 (by simp)); clear hi3 k3 Hi2)
    | (go_at_call 77; (with_reducible refine (IK.out _ _ Hi3.out).mono ?_); rintro e w4 ⟨rfl, hi4, k4⟩; have Hi4 := Lib.hid hi4; replace KW := Lib.hid (reader_new KW.out k4 (by simp)); clear hi4 k4 Hi3)
    | (go_at_call 85; (with_reducible refine (Er.out _ _ ?hi).mono ?_); (case hi => exact Hi4.out.keep ((Keeps.refl [] _).alloc _) (by simp)); rintro e w5 ⟨rfl, rfl⟩; have KA := Lib.hid (KW.out.alloc (.cells #[.int .i64 ev, .int .i64 nv, .int .i64 3, .slice none 0 0, .string (str []), .string (str [])] 24)); have HR := Lib.hid (Zc.out _ KA.out); obtain ⟨⟨q0, q1, q2, q3, q4, q5⟩, f0, f1, f2, f3, f4, f5⟩ := cells6 HR.out)
    | (go_at_call 28; (with_reducible refine (Is.out _ _).mono ?_); rintro e w6 ⟨rfl, rfl⟩))
  have c2 : (w4.alloc (.cells #[.int .i64 ev, .int .i64 nv, .int .i64 3, .slice none 0 0, .string (str []), .string (str [])] 24)).cell? ⟨w4.heap.size, 2, none⟩ = some (.int .i64 3) := cell_new rfl _ _ 2
  have hra : RecAt (w4.alloc (.cells #[.int .i64 ev, .int .i64 nv, .int .i64 3, .slice none 0 0, .string (str []), .string (str [])] 24)).drew w4.heap.size ⟨(ev : Int), (nv : Int), 3, [], [], []⟩ [w4.heap.size] := ⟨.slice none 0 0, heap_alloc_self w4 _, rfl, World.ownsRow_nil _ _ _ _⟩
  have hia := Hi4.out.keep ((Keeps.refl [] _).alloc (.cells #[.int .i64 ev, .int .i64 nv, .int .i64 3, .slice none 0 0, .string (str []), .string (str [])] 24)).drew (by simp)
  have hbs : w.heap.size + 1 < w4.heap.size := Hi4.out.lt
  have KD := KA.out.drew
  go_region_held3 (fun w' => w'.cell? ⟨w4.heap.size, 2, none⟩ = some (.int .i64 3)) (first | exact c2 | exact c2b | exact c2c) (first
    | (go_at_call 29; (with_reducible refine (Ki.out _).mono ?_); rintro e w7 ⟨rfl, k7⟩; have hrb := hra.keep k7 (by simp); have hib := hia.keep k7 (by simp); have KE := KD.trans k7 (by simp); have k7s : w4.heap.size + 1 ≤ w7.heap.size := (by have := k7.size; simp at this; exact this); have c2b : w7.cell? ⟨w4.heap.size, 2, none⟩ = some (.int .i64 3) := k7.cell0 c2; clear hra hia)
    | (go_at_call 58; (with_reducible refine (Gr.out _ _ _ hib hrb ?hbn).mono ?_); (case hbn => simp; omega); rintro e w8 ⟨rfl, F8, hi8, hr8, hb8, hf8, k8⟩; have KG := KE.trans k8 (fun x hx => .inr (by simp at hx; rcases hx with rfl | rfl <;> simp <;> omega)); obtain ⟨sv, hh8, hF8, hgood⟩ := hr8.good Fit'.out; dsimp only at hh8; have c2c : w8.cell? ⟨w4.heap.size, 2, none⟩ = some (.int .i64 3) := cell_of_heap hh8 2))
  clear KA HR q0 q1 q2 q3 q4 q5 f0 f1 f2 f3 f4 f5 c2 KD KE c2b c2c hrb hib
  obtain ⟨ad, cap, rfl, _⟩ := hgood.at_
  dsimp only at *
  have Hgood := Lib.hid hgood
  have HF8 := Lib.hid hF8
  have Hf8 := Lib.hid hf8
  have Hhr8 := Lib.hid hr8.lt
  clear hgood hF8 hf8 hr8
  have Hh8 := Lib.hid hh8
  obtain ⟨⟨r0, r1, r2, r3, r4, r5⟩, _⟩ := cells6 hh8
  obtain ⟨⟨s0, s1, s2, s3, s4, s5⟩, _⟩ := cells6_was hh8
  go_wp2_with (first
    | (go_at_call 85; (with_reducible refine (Er2.out _ _ hi8).mono ?_); rintro e w9 ⟨rfl, rfl⟩)
    | (go_at_call 35; (with_reducible refine (Da.out _ _ _ (Hgood.out.newer ((Keeps.refl [] w8).alloc (.cells #[.int .i64 rep, .int .i64 rnr, .int .i64 3, .slice ad rsp.length cap, .string (str rdt), .string (str rtx)] 24)))).mono ?_); rintro e w9 ⟨rfl, k9⟩; have K8 := ((Keeps.refl [] w8).alloc (.cells #[.int .i64 rep, .int .i64 rnr, .int .i64 3, .slice ad rsp.length cap, .string (str rdt), .string (str rtx)] 24)).trans k9 (by simp); have hfl := k9.some (heap_at (w := w8) (k := w8.heap.size) (o := (.cells #[.int .i64 rep, .int .i64 rnr, .int .i64 3, .slice ad rsp.length cap, .string (str rdt), .string (str rtx)] 24)) rfl) (by simp); clear s0 s1 s2 s3 s4 s5; (try clear r0 r1 r2 r3 r4 r5); obtain ⟨⟨r0, r1, r2, r3, r4, r5⟩, _⟩ := cells6 (K8.some hh8 (by simp)); (try clear g0 g1 g2 g3 g4 g5 x0 x1 x2 x3 x4 x5); obtain ⟨⟨g0, g1, g2, g3, g4, g5⟩, x0, x1, x2, x3, x4, x5⟩ := cells6 hfl)
    | (go_at_call 14; (with_reducible refine (Ck.out _ _ _ (Hgood.out.newer K8)).mono ?_); rintro e wB ⟨rfl, kB⟩; replace K8 := KT K8 kB; clear hfl; (try clear g0 g1 g2 g3 g4 g5 x0 x1 x2 x3 x4 x5); (try clear r0 r1 r2 r3 r4 r5); obtain ⟨⟨r0, r1, r2, r3, r4, r5⟩, _⟩ := cells6 (K8.some hh8 (by simp)))
    | (go_at_call 26; (with_reducible refine (Hd.out _ _ _ (Hgood.out.newer K8) ?hgl).mono ?_); (case hgl => intro x hx; have := Hhr8.out x (by rw [HF8.out]; exact List.mem_cons_of_mem _ hx); have := K8.size; omega); rintro e wC ⟨rfl, kC⟩; replace K8 := KT K8 kC; (try clear r0 r1 r2 r3 r4 r5); obtain ⟨⟨r0, r1, r2, r3, r4, r5⟩, _⟩ := cells6 (K8.some hh8 (by simp)); have KA := Lib.hid (KG.trans K8 (by simp)); have HR := Lib.hid (Zc.out _ KA.out); obtain ⟨⟨q0, q1, q2, q3, q4, q5⟩, f0, f1, f2, f3, f4, f5⟩ := cells6 HR.out))
  refine bodyPost_ret (results_row_tmp2 rfl rfl (heap_set6 HR.out _ _ _ _ _ _) Try.underlying24 rfl (by kernel_rfl)) rfl ⟨.slice ad rsp.length cap, _, rfl, (Hgood.out.newer K8).kept (keeps_at6 _ w.heap.size _ _ _ _ _ _) (fun x hx => ?_), fun x hx => ?_, keeps_set6 (K0.out.trans KA.out (by simp)) (Nat.le_refl _) _ _ _ _ _ _, rfl⟩
  · rw [List.mem_singleton]
    have h1 := Hf8.out x (by rw [HF8.out]; exact List.mem_cons_of_mem _ hx)
    have h2 := hbs
    rcases h1 with h1 | h1
    · simp at h1; omega
    · have h3 := k7s; omega
  · have h1 := Hf8.out x (by rw [HF8.out]; exact List.mem_cons_of_mem _ hx)
    have h4 := Hhr8.out x (by rw [HF8.out]; exact List.mem_cons_of_mem _ hx)
    have h5 := K8.size
    refine ⟨?_, ?_⟩
    · rcases h1 with h1 | h1
      · simp at h1; omega
      · have h3 := k7s; omega
    · simp only [World.size_setCell]; omega
end Go.Proofs.Ytjebldfmkpfafaa
