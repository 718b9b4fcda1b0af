/- Layer 10: told. -/
import Derived.Test.YtjebldfmkpfafaaRecQ
namespace Go.Proofs.Ytjebldfmkpfafaa
open Go.RowKit
set_option maxRecDepth 100000

def zbox : Obj := .cells #[.int .i64 0, .int .i64 0, .int .i64 0, .slice none 0 0, .string (str []), .string (str [])] 24
/-- What told gives back. -/
def ToldPost (s : List UInt8) (w : World) (R : Rc × Nat × Int) (e : Ending) (w' : World) : Prop :=
  ∃ sv G, e = .returned (.tuple #[R.1.val sv, .int .u32 R.2.1, .int .i64 R.2.2]) ∧ R.1.good w' sv G ∧ (∀ x, x ∈ G → w.heap.size ≤ x ∧ x < w'.heap.size) ∧ Keeps [] w w' ∧ s.length = s.length
theorem zero_good (w : World) : Rc.zero.good w (.slice none 0 0) [] := ⟨by unfold i64R Rc.zero; dsimp only; omega, by unfold i64R Rc.zero; dsimp only; omega, by unfold i64R Rc.zero; dsimp only; omega, ⟨none, 0, rfl, fun h => absurd rfl h⟩, by simp [Rc.zero], by simp [Rc.zero], by simp [Rc.zero], by simp [Rc.zero]⟩
/-- The result's block, told again and again. -/
theorem zcells {w w' : World} (k : Keeps [] (w.alloc zbox) w') : w'.heap[w.heap.size]? = some zbox := k.some (heap_alloc_self w _) (by simp)
theorem Rc.good.kept {w w' : World} {r : Rc} {sv : Value} {F G : List Nat} (h : r.good w sv G) (k : Keeps F w w') (hd : ∀ x, x ∈ G → x ∉ F) : r.good w' sv G := ⟨h.ep, h.nr, h.kd, h.at_.keep k hd, h.sg, h.sl, h.dt, h.tx⟩
theorem keeps_at6 (w : World) (b : Nat) (v0 v1 v2 v3 v4 v5 : Value) : Keeps [b] w ((((((w.setCell ⟨b, 0, none⟩ v0).setCell ⟨b, 1, none⟩ v1).setCell ⟨b, 2, none⟩ v2).setCell ⟨b, 3, none⟩ v3).setCell ⟨b, 4, none⟩ v4).setCell ⟨b, 5, none⟩ v5) :=
  ((((((Keeps.refl [b] w).setCell (p := ⟨b, 0, none⟩) (.inl (by simp)) v0).setCell (p := ⟨b, 1, none⟩) (.inl (by simp)) v1).setCell (p := ⟨b, 2, none⟩) (.inl (by simp)) v2).setCell (p := ⟨b, 3, none⟩) (.inl (by simp)) v3).setCell (p := ⟨b, 4, none⟩) (.inl (by simp)) v4).setCell (p := ⟨b, 5, none⟩) (.inl (by simp)) v5
theorem InAt.at {w : World} {b b' : Nat} {s : ByteArray} {p : Nat} {er : Int} (h : InAt w b s p er) (e : b = b') : InAt w b' s p er := e ▸ h
theorem reader_new {w w0 w1 : World} {b : Nat} (h : Keeps [] w0 w) (k : Keeps [b] w w1) (hb : w0.heap.size ≤ b) : Keeps [] w0 w1 := h.trans k (fun x hx => .inr (by rw [List.mem_singleton] at hx; subst hx; exact hb))

set_option maxHeartbeats 4000000 in
theorem told_a (s : List UInt8) (w : World) (h8 : 8 ≤ s.length) (hs : s.length ≤ 4000) (hf : (rdK (bodyOfH s)).2.2 ≠ 0) :
    Calls Try.prog 64 #[.string (str s)] w (ToldPost s w (toldV s)) := by
  have hcut : (str s).extract 4 (s.length - 4) = str (bodyOfH s) := by rw [str_extract, str_data]; unfold bodyOfH; rw [show s.length - 4 - 4 = s.length - 8 by omega]
  have hlb : (bodyOfH s).length ≤ 4000 := by unfold bodyOfH; rw [List.length_take]; omega
  have hw1 : IntKind.i64.wrap ((s.length : Int) - 4) = ((s.length - 4 : Nat) : Int) := by rw [IntWalk.i64_in _ ⟨by omega, by omega⟩]; omega
  have hz := str_empty
  have hn1 : (4 : Int) ≤ ((s.length - 4 : Nat) : Int) := by omega
  have hn2 : ((s.length - 4 : Nat) : Int) ≤ (s.length : Int) := by omega
  have hn3 : 4 ≤ s.length - 4 := by omega
  have hn4 : s.length - 4 ≤ s.length := by omega
  have hv : toldV s = (Rc.zero, 0, 12) := by unfold toldV toldP; rw [if_pos (.inl hf)]
  rw [hv]
  have Rd := Lib.hid (fun w => read_any (str (bodyOfH s)) w)
  have IE := Lib.hid (fun (w : World) b (h : InAt w b (str (bodyOfH s)) 0 0) => inInt_any b (str (bodyOfH s)) 0 0 w h (Nat.zero_le _) (by simp; omega) 4294967295 (by decide) (by decide))
  rw [str_data] at IE
  have IN := Lib.hid (fun (w : World) b (h : InAt w b (str (bodyOfH s)) (rdE (bodyOfH s)).2.1 (rdE (bodyOfH s)).2.2) => inInt_any b (str (bodyOfH s)) _ _ w h (by simpa using rdE_le (bodyOfH s)) (by simp; omega) 1099511627775 (by decide) (by decide))
  rw [str_data] at IN
  have IK := Lib.hid (fun (w : World) b (h : InAt w b (str (bodyOfH s)) (rdN (bodyOfH s)).2.1 (rdN (bodyOfH s)).2.2) => inInt_any b (str (bodyOfH s)) _ _ w h (by simpa using rdN_le (bodyOfH s)) (by simp; omega) 3 (by decide) (by decide))
  rw [str_data] at IK
  have hk3 := rint_most (bodyOfH s) _ (rdN (bodyOfH s)).2.2 3 (rdN_le _) (by decide)
  change Hid (∀ w b, _ → Calls _ _ _ _ fun e w' => e = .returned (.int .i64 (rdE (bodyOfH s)).1) ∧ InTo w w' b (str (bodyOfH s)) (rdE (bodyOfH s)).2) at IE
  change Hid (∀ w b, _ → Calls _ _ _ _ fun e w' => e = .returned (.int .i64 (rdN (bodyOfH s)).1) ∧ InTo w w' b (str (bodyOfH s)) (rdN (bodyOfH s)).2) at IN
  change Hid (∀ w b, _ → Calls _ _ _ _ fun e w' => e = .returned (.int .i64 (rdK (bodyOfH s)).1) ∧ InTo w w' b (str (bodyOfH s)) (rdK (bodyOfH s)).2) at IK
  change ((rdK (bodyOfH s)).1 : Int) ≤ 3 at hk3
  have Is := Lib.hid (fun n w => is_any n w)
  have K0 := Lib.hid ((Keeps.refl [] w).alloc zbox)
  have Zc : Hid (∀ w', Keeps [] (w.alloc zbox) w' → w'.heap[w.heap.size]? = some zbox) := fun w' k => zcells k
  have KW := Lib.hid (Keeps.refl [] (w.alloc zbox))
  unfold zbox at *
  generalize rdE (bodyOfH s) = TE at *
  generalize rdN (bodyOfH s) = TN at *
  generalize rdK (bodyOfH s) = TK at *
  obtain ⟨ev, p1, e1⟩ := TE
  obtain ⟨nv, p2, e2⟩ := TN
  obtain ⟨kv, p3, e3⟩ := TK
  dsimp only at *
  have Er := Lib.hid (fun (w : World) b (h : InAt w b (str (bodyOfH s)) p3 e3) => inErr_any b (str (bodyOfH s)) p3 e3 w h)
  have hb : (e3 != 0) = true := bne_iff_ne.2 hf
  clear hv hf
  generalize bodyOfH s = B at *
  go_enter Try.func64, Try.ntmps64
  go_wp2_with (first
    | (go_at_call 84; (with_reducible refine (Rd.out _).mono ?_); rintro e w1 ⟨rfl, hi1, k1⟩; have Hi1 := Lib.hid (hi1.at (b' := w.heap.size + 1) (by simp)); replace KW := Lib.hid (KW.out.trans k1 (by simp)); clear hi1 k1)
    | (go_at_call 77; (with_reducible refine (IE.out _ _ Hi1.out).mono ?_); rintro e w2 ⟨rfl, hi2, k2⟩; have Hi2 := Lib.hid hi2; replace KW := Lib.hid (reader_new KW.out k2 (by simp)); clear hi2 k2 Hi1)
    | (go_at_call 77; (with_reducible refine (IN.out _ _ Hi2.out).mono ?_); rintro e w3 ⟨rfl, hi3, k3⟩; have Hi3 := Lib.hid hi3; replace KW := Lib.hid (reader_new KW.out k3 (by simp)); clear hi3 k3 Hi2)
    | (go_at_call 77; (with_reducible refine (IK.out _ _ Hi3.out).mono ?_); rintro e w4 ⟨rfl, hi4, k4⟩; have Hi4 := Lib.hid hi4; replace KW := Lib.hid (reader_new KW.out k4 (by simp)); clear hi4 k4 Hi3)
    | (go_at_call 85; (with_reducible refine (Er.out _ _ ?hi).mono ?_); (case hi => exact Hi4.out.keep ((Keeps.refl [] _).alloc _) (by simp)); rintro e w5 ⟨rfl, rfl⟩; have KA := Lib.hid (KW.out.alloc (.cells #[.int .i64 ev, .int .i64 nv, .int .i64 kv, .slice none 0 0, .string (str []), .string (str [])] 24)); have HR := Lib.hid (Zc.out _ KA.out); obtain ⟨⟨q0, q1, q2, q3, q4, q5⟩, f0, f1, f2, f3, f4, f5⟩ := cells6 HR.out))
  refine bodyPost_ret (results_row_tmp2 rfl rfl (heap_set6 HR.out _ _ _ _ _ _) Try.underlying24 rfl (by kernel_rfl)) rfl ⟨.slice none 0 0, [], rfl, zero_good _, by simp, keeps_set6 (K0.out.trans KA.out (by simp)) (Nat.le_refl _) _ _ _ _ _ _, rfl⟩
set_option maxHeartbeats 4000000 in
theorem told_b (s : List UInt8) (w : World) (h8 : 8 ≤ s.length) (hs : s.length ≤ 4000) (hf : (rdK (bodyOfH s)).2.2 = 0) (hk : (rdK (bodyOfH s)).1 = 0) :
    Calls Try.prog 64 #[.string (str s)] w (ToldPost s w (toldV s)) := by
  have hcut : (str s).extract 4 (s.length - 4) = str (bodyOfH s) := by rw [str_extract, str_data]; unfold bodyOfH; rw [show s.length - 4 - 4 = s.length - 8 by omega]
  have hlb : (bodyOfH s).length ≤ 4000 := by unfold bodyOfH; rw [List.length_take]; omega
  have hw1 : IntKind.i64.wrap ((s.length : Int) - 4) = ((s.length - 4 : Nat) : Int) := by rw [IntWalk.i64_in _ ⟨by omega, by omega⟩]; omega
  have hz := str_empty
  have hn1 : (4 : Int) ≤ ((s.length - 4 : Nat) : Int) := by omega
  have hn2 : ((s.length - 4 : Nat) : Int) ≤ (s.length : Int) := by omega
  have hn3 : 4 ≤ s.length - 4 := by omega
  have hn4 : s.length - 4 ≤ s.length := by omega
  have hv : toldV s = (Rc.zero, 0, 12) := by unfold toldV toldP; rw [if_pos (.inr hk)]
  rw [hv]
  have Rd := Lib.hid (fun w => read_any (str (bodyOfH s)) w)
  have IE := Lib.hid (fun (w : World) b (h : InAt w b (str (bodyOfH s)) 0 0) => inInt_any b (str (bodyOfH s)) 0 0 w h (Nat.zero_le _) (by simp; omega) 4294967295 (by decide) (by decide))
  rw [str_data] at IE
  have IN := Lib.hid (fun (w : World) b (h : InAt w b (str (bodyOfH s)) (rdE (bodyOfH s)).2.1 (rdE (bodyOfH s)).2.2) => inInt_any b (str (bodyOfH s)) _ _ w h (by simpa using rdE_le (bodyOfH s)) (by simp; omega) 1099511627775 (by decide) (by decide))
  rw [str_data] at IN
  have IK := Lib.hid (fun (w : World) b (h : InAt w b (str (bodyOfH s)) (rdN (bodyOfH s)).2.1 (rdN (bodyOfH s)).2.2) => inInt_any b (str (bodyOfH s)) _ _ w h (by simpa using rdN_le (bodyOfH s)) (by simp; omega) 3 (by decide) (by decide))
  rw [str_data] at IK
  have hk3 := rint_most (bodyOfH s) _ (rdN (bodyOfH s)).2.2 3 (rdN_le _) (by decide)
  change Hid (∀ w b, _ → Calls _ _ _ _ fun e w' => e = .returned (.int .i64 (rdE (bodyOfH s)).1) ∧ InTo w w' b (str (bodyOfH s)) (rdE (bodyOfH s)).2) at IE
  change Hid (∀ w b, _ → Calls _ _ _ _ fun e w' => e = .returned (.int .i64 (rdN (bodyOfH s)).1) ∧ InTo w w' b (str (bodyOfH s)) (rdN (bodyOfH s)).2) at IN
  change Hid (∀ w b, _ → Calls _ _ _ _ fun e w' => e = .returned (.int .i64 (rdK (bodyOfH s)).1) ∧ InTo w w' b (str (bodyOfH s)) (rdK (bodyOfH s)).2) at IK
  change ((rdK (bodyOfH s)).1 : Int) ≤ 3 at hk3
  have Is := Lib.hid (fun n w => is_any n w)
  have K0 := Lib.hid ((Keeps.refl [] w).alloc zbox)
  have Zc : Hid (∀ w', Keeps [] (w.alloc zbox) w' → w'.heap[w.heap.size]? = some zbox) := fun w' k => zcells k
  have KW := Lib.hid (Keeps.refl [] (w.alloc zbox))
  unfold zbox at *
  generalize rdE (bodyOfH s) = TE at *
  generalize rdN (bodyOfH s) = TN at *
  generalize rdK (bodyOfH s) = TK at *
  obtain ⟨ev, p1, e1⟩ := TE
  obtain ⟨nv, p2, e2⟩ := TN
  obtain ⟨kv, p3, e3⟩ := TK
  dsimp only at *
  have Er := Lib.hid (fun (w : World) b (h : InAt w b (str (bodyOfH s)) p3 e3) => inErr_any b (str (bodyOfH s)) p3 e3 w h)
  subst hk
  subst hf
  have hb : ((0 : Int) != 0) = false := rfl
  clear hv
  generalize bodyOfH s = B at *
  go_enter Try.func64, Try.ntmps64
  go_wp2_with (first
    | (go_at_call 84; (with_reducible refine (Rd.out _).mono ?_); rintro e w1 ⟨rfl, hi1, k1⟩; have Hi1 := Lib.hid (hi1.at (b' := w.heap.size + 1) (by simp)); replace KW := Lib.hid (KW.out.trans k1 (by simp)); clear hi1 k1)
    | (go_at_call 77; (with_reducible refine (IE.out _ _ Hi1.out).mono ?_); rintro e w2 ⟨rfl, hi2, k2⟩; have Hi2 := Lib.hid hi2; replace KW := Lib.hid (reader_new KW.out k2 (by simp)); clear hi2 k2 Hi1)
    | (go_at_call 77; (with_reducible refine (IN.out _ _ Hi2.out).mono ?_); rintro e w3 ⟨rfl, hi3, k3⟩; have Hi3 := Lib.hid hi3; replace KW := Lib.hid (reader_new KW.out k3 (by simp)); clear hi3 k3 Hi2)
    | (go_at_call 77; (with_reducible refine (IK.out _ _ Hi3.out).mono ?_); rintro e w4 ⟨rfl, hi4, k4⟩; have Hi4 := Lib.hid hi4; replace KW := Lib.hid (reader_new KW.out k4 (by simp)); clear hi4 k4 Hi3)
    | (go_at_call 85; (with_reducible refine (Er.out _ _ ?hi).mono ?_); (case hi => exact Hi4.out.keep ((Keeps.refl [] _).alloc _) (by simp)); rintro e w5 ⟨rfl, rfl⟩; have KA := Lib.hid (KW.out.alloc (.cells #[.int .i64 ev, .int .i64 nv, .int .i64 0, .slice none 0 0, .string (str []), .string (str [])] 24)); have HR := Lib.hid (Zc.out _ KA.out); obtain ⟨⟨q0, q1, q2, q3, q4, q5⟩, f0, f1, f2, f3, f4, f5⟩ := cells6 HR.out)
    | (go_at_call 28; (with_reducible refine (Is.out _ _).mono ?_); rintro e w6 ⟨rfl, rfl⟩))
  refine bodyPost_ret (results_row_tmp2 rfl rfl (heap_set6 HR.out _ _ _ _ _ _) Try.underlying24 rfl (by kernel_rfl)) rfl ⟨.slice none 0 0, [], rfl, zero_good _, by simp, keeps_set6 (K0.out.trans KA.out (by simp)) (Nat.le_refl _) _ _ _ _ _ _, rfl⟩
end Go.Proofs.Ytjebldfmkpfafaa
