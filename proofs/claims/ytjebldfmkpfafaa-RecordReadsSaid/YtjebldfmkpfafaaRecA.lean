/- Layer 10: spans. -/
import Derived.Test.YtjebldfmkpfafaaRecP
import Derived.Test.YtjebldfmkpfafaaBytesOf
namespace Go.Proofs.Ytjebldfmkpfafaa
open Go.RowKit
set_option maxRecDepth 100000

def i64R (x : Int) : Prop := -9223372036854775808 ≤ x ∧ x ≤ 9223372036854775807
def spV (s : Sp) : List Value := [.int .i64 s.1, .int .i64 s.2]
def spG (s : Sp) : Prop := i64R s.1 ∧ i64R s.2
abbrev SpAt (w : World) (v : Value) (l : List Sp) (G : List Nat) : Prop := SlRows w v spV 2 l G

theorem SlRows.at {α : Type} {w : World} {ad : Option Addr} {f : α → List Value} {c n cap : Nat} {xs : List α} {G : List Nat} (h : SlRows w (.slice ad n cap) f c xs G) {k : Nat} {a : α} (hk : xs[k]? = some a) :
    ∃ b off, ad = some ⟨b, off, none⟩ ∧ n = xs.length ∧ ∀ j u, (f a)[j]? = some u → w.cell? ⟨b, off + k * c + j, none⟩ = some u := by
  obtain ⟨ad', cap', e1, h2⟩ := h
  obtain ⟨b, off, e2, _, hc⟩ := h2 (by intro h0; rw [h0] at hk; simp at hk)
  injection e1 with e3 e4 _
  exact ⟨b, off, by rw [e3]; exact e2, e4, fun j u hj => hc k a hk j u hj⟩

set_option maxHeartbeats 4000000 in
theorem may_any (s : Sp) (hs : spG s) (w : World) : Calls Try.prog 94 #[.agg #[.int .i64 s.1, .int .i64 s.2]] w fun e w' => e = .returned (.int .i64 (if maySp s then 0 else 1)) ∧ Keeps [] w w' := by
  obtain ⟨a, n⟩ := s
  obtain ⟨⟨ha0, ha1⟩, hn0, hn1⟩ := hs
  dsimp only at *
  have K0 := Lib.hid ((Keeps.refl [] w).alloc (.cells #[.int .i64 a, .int .i64 n] 39))
  rcases (show a < 0 ∨ (0 ≤ a ∧ 65536 < a) ∨ (0 ≤ a ∧ a ≤ 65536 ∧ n < 1) ∨ (0 ≤ a ∧ a ≤ 65536 ∧ 1 ≤ n ∧ 65536 - a < n) ∨ (0 ≤ a ∧ a ≤ 65536 ∧ 1 ≤ n ∧ n ≤ 65536 - a) by omega) with hq | hq | hq | hq | hq
  all_goals
    first
      | (have hm : maySp (a, n) = false := by unfold maySp; simp; omega
         rw [hm])
      | (have hm : maySp (a, n) = true := by unfold maySp; simp; omega
         rw [hm])
    clear hm
  · have h1 : decide (a < 0) = true := decide_eq_true (by omega)
    go_enter Try.func94, Try.ntmps94
    go_wp2
    go_ret
    exact ⟨rfl, K0.out⟩
  · have h1 : decide (a < 0) = false := decide_eq_false (by omega)
    have h2 : decide (65536 < a) = true := decide_eq_true (by omega)
    go_enter Try.func94, Try.ntmps94
    go_wp2
    go_ret
    exact ⟨rfl, K0.out⟩
  · have h1 : decide (a < 0) = false := decide_eq_false (by omega)
    have h2 : decide (65536 < a) = false := decide_eq_false (by omega)
    have h3 : decide (n < 1) = true := decide_eq_true (by omega)
    go_enter Try.func94, Try.ntmps94
    go_wp2
    go_ret
    exact ⟨rfl, K0.out⟩
  · have h1 : decide (a < 0) = false := decide_eq_false (by omega)
    have h2 : decide (65536 < a) = false := decide_eq_false (by omega)
    have h3 : decide (n < 1) = false := decide_eq_false (by omega)
    have h4 : decide (65536 - a < n) = true := decide_eq_true (by omega)
    go_enter Try.func94, Try.ntmps94
    go_wp2
    go_ret
    exact ⟨rfl, K0.out⟩
  · have h1 : decide (a < 0) = false := decide_eq_false (by omega)
    have h2 : decide (65536 < a) = false := decide_eq_false (by omega)
    have h3 : decide (n < 1) = false := decide_eq_false (by omega)
    have h4 : decide (65536 - a < n) = false := decide_eq_false (by omega)
    go_enter Try.func94, Try.ntmps94
    go_wp2
    go_ret
    exact ⟨rfl, K0.out⟩

theorem wrong_any (s : Sp) (hs : spG s) (w : World) : Calls Try.prog 93 #[.agg #[.int .i64 s.1, .int .i64 s.2]] w fun e w' => e = .returned (.bool (!maySp s)) ∧ Keeps [] w w' := by
  have M := Lib.hid (fun w => may_any s hs w)
  have K0 := Lib.hid ((Keeps.refl [] w).alloc (.cells #[.int .i64 s.1, .int .i64 s.2] 39))
  clear hs
  generalize maySp s = b at *
  have hb : ((if b = true then (0 : Int) else 1) != 0) = !b := by cases b <;> rfl
  generalize (if b = true then (0 : Int) else 1) = x at *
  go_enter Try.func93, Try.ntmps93
  go_wp2_with (go_at_call 94; (with_reducible refine (M.out _).mono ?_); rintro e w1 ⟨rfl, k1⟩)
  go_ret
  exact ⟨rfl, K0.out.trans k1 (by simp)⟩

set_option maxHeartbeats 4000000 in
theorem total_any (l : List Sp) (hl : ∀ s, s ∈ l → 0 ≤ s.2 ∧ s.2 ≤ 65536) (hn : l.length ≤ 100) (v : Value) (G : List Nat) (w : World) (hv : SpAt w v l G) :
    Calls Try.prog 65 #[v] w fun e w' => e = .returned (.int .i64 (totS l)) ∧ Keeps [] w w' := by
  have Hv := Lib.hid hv
  obtain ⟨ad, cap, rfl, _⟩ := hv
  have Hl := Lib.hid hl
  clear hl
  go_enter Try.func65, Try.ntmps65
  go_wp2
  go_loopw [3, 8] (fun sv iv wr => ∃ k : Nat, k ≤ l.length ∧ iv = .int .i64 k ∧ sv = .int .i64 (totS (l.take k)) ∧ Keeps [] w wr) (fun _ iv _ => l.length - (intOf iv).toNat)
  case atStart => exact ⟨0, Nat.zero_le _, rfl, rfl, Keeps.refl [] _⟩
  case round =>
    obtain ⟨k, hk, rfl, rfl, kk⟩ := hrel
    by_cases hlt : k < l.length
    · obtain ⟨s, hs⟩ : ∃ s, l[k]? = some s := ⟨l[k], by simp [hlt]⟩
      obtain ⟨b, off, rfl, _, hc⟩ := Hv.out.at hs
      have c0 : wr.cell? ⟨b, off + k * 2, none⟩ = some (.int .i64 s.1) := kk.cell0 (hc 0 _ rfl)
      have c1 : wr.cell? ⟨b, off + k * 2 + 1, none⟩ = some (.int .i64 s.2) := kk.cell0 (hc 1 _ rfl)
      have hst : l.take (k + 1) = l.take k ++ [s] := by rw [List.take_add_one, hs]; rfl
      have hbd := totS_bd (l.take k) (fun s hs => Hl.out s (List.mem_of_mem_take hs))
      rw [List.length_take] at hbd
      have hsb := Hl.out s (List.mem_of_getElem? hs)
      have hnx : totS (l.take (k + 1)) = totS (l.take k) + s.2 := by rw [hst, totS_snoc]
      have hmin : min k l.length = k := by omega
      rw [hmin] at hbd
      generalize totS (l.take k) = T at *
      have Hnx := Lib.hid hnx
      have hki : (k : Int) < (l.length : Int) := by omega
      have hki0 : (0 : Int) ≤ (k : Int) := by omega
      obtain ⟨hT0, hT1⟩ := hbd
      obtain ⟨hs0, hs1⟩ := hsb
      obtain ⟨sa, sn⟩ := s
      dsimp only at hs0 hs1 c0 c1 Hnx
      have hw : IntKind.i64.wrap (T + sn) = T + sn := IntWalk.i64_in _ ⟨by omega, by omega⟩
      have Kk := Lib.hid kk
      clear hc hst hnx hs hmin
      go_wp2
      go_roundw
      case rel => exact ⟨k + 1, by omega, by go_num, by rw [Hnx.out], by first | exact Kk.out.alloc _ | exact (Kk.out.alloc _).alloc _ | exact Kk.out⟩
      case measure => simp [intOf]; omega
    · obtain rfl : k = l.length := by omega
      rw [List.take_length]
      go_wp2
      go_ret
      exact ⟨rfl, kk⟩

def fnW : Value := .func (.func 93) #[] #[]

set_option maxHeartbeats 4000000 in
theorem index_any (l : List Sp) (hl : ∀ s, s ∈ l → spG s) (hn : l.length ≤ 9223372036854775807) (v : Value) (G : List Nat) (w : World) (hv : SpAt w v l G) :
    Calls Try.prog 99 #[v, fnW] w fun e w' => (∃ r : Int, e = .returned (.int .i64 r) ∧ decide (0 ≤ r) = !l.all maySp) ∧ Keeps [] w w' := by
  have Hv := Lib.hid hv
  obtain ⟨ad, cap, rfl, _⟩ := hv
  have Hl := Lib.hid hl
  clear hl
  unfold fnW
  go_enter Try.func99, Try.ntmps99
  go_wp2
  go_loopw [8] (fun iv wr => ∃ k : Nat, k ≤ l.length ∧ iv = .int .i64 k ∧ Hid ((l.take k).all maySp = true) ∧ Keeps [] w wr) (fun iv _ => l.length - (intOf iv).toNat)
  case atStart => exact ⟨0, Nat.zero_le _, rfl, rfl, Keeps.refl [] _⟩
  case round =>
    obtain ⟨k, hk, rfl, hall, kk⟩ := hrel
    by_cases hlt : k < l.length
    · obtain ⟨s, hs⟩ : ∃ s, l[k]? = some s := ⟨l[k], by simp [hlt]⟩
      obtain ⟨b, off, rfl, _, hc⟩ := Hv.out.at hs
      have c0 : wr.cell? ⟨b, off + k * 2, none⟩ = some (.int .i64 s.1) := kk.cell0 (hc 0 _ rfl)
      have c1 : wr.cell? ⟨b, off + k * 2 + 1, none⟩ = some (.int .i64 s.2) := kk.cell0 (hc 1 _ rfl)
      have hst : l.take (k + 1) = l.take k ++ [s] := by rw [List.take_add_one, hs]; rfl
      have Wr := Lib.hid (fun w => wrong_any s (Hl.out s (List.mem_of_getElem? hs)) w)
      have hmem := List.mem_of_getElem? hs
      have hki : (k : Int) < (l.length : Int) := by omega
      have hki0 : (0 : Int) ≤ (k : Int) := by omega
      have Kk := Lib.hid kk
      have Hst := Lib.hid hst
      have Hmem := Lib.hid hmem
      clear hc hs hst hmem kk
      by_cases hm : maySp s = true
      · have Hm := Lib.hid hm
        rw [hm] at Wr
        clear hm
        go_wp2_with (go_at_call 93; (with_reducible refine (Wr.out _).mono ?_); rintro e w1 ⟨rfl, k1⟩)
        go_roundw
        case rel => exact ⟨k + 1, by omega, by go_num, by show (l.take (k + 1)).all maySp = true; rw [Hst.out, List.all_append, hall.out]; simp [Hm.out], Kk.out.trans k1 (by simp)⟩
        case measure => simp [intOf]; omega
      · rw [Bool.eq_false_iff.2 hm] at Wr
        have Hm := Lib.hid hm
        clear hm
        go_wp2_with (go_at_call 93; (with_reducible refine (Wr.out _).mono ?_); rintro e w1 ⟨rfl, k1⟩)
        go_ret
        have hall2 : l.all maySp = false := by rw [List.all_eq_false]; exact ⟨s, Hmem.out, Hm.out⟩
        refine ⟨⟨_, rfl, ?_⟩, Kk.out.trans k1 (by simp)⟩
        rw [hall2]
        exact decide_eq_true hki0
    · obtain rfl : k = l.length := by omega
      rw [List.take_length] at hall
      go_wp2
      go_ret
      exact ⟨⟨_, rfl, by rw [hall.out]; rfl⟩, kk⟩

theorem contains_any (l : List Sp) (hl : ∀ s, s ∈ l → spG s) (hn : l.length ≤ 9223372036854775807) (v : Value) (G : List Nat) (w : World) (hv : SpAt w v l G) :
    Calls Try.prog 95 #[v, fnW] w fun e w' => e = .returned (.bool (!l.all maySp)) ∧ Keeps [] w w' := by
  have Ix := Lib.hid (index_any l hl hn v G w hv)
  clear hl hn hv
  generalize (!l.all maySp) = b at *
  generalize hf : fnW = fv at *
  go_enter Try.func95, Try.ntmps95
  go_wp2_with (go_at_call 99; (with_reducible refine (Ix.out).mono ?_); rintro e w1 ⟨⟨r, rfl, hr⟩, k1⟩)
  go_ret
  exact ⟨rfl, k1⟩

/-- A record's value. -/
def Rc.val (r : Rc) (sv : Value) : Value := .agg #[.int .i64 r.ep, .int .i64 r.nr, .int .i64 r.kd, sv, .string (str r.dt), .string (str r.tx)]
/-- A record as it is read. -/
structure Rc.good (w : World) (r : Rc) (sv : Value) (G : List Nat) : Prop where
  ep : i64R r.ep
  nr : i64R r.nr
  kd : i64R r.kd
  at_ : SpAt w sv r.sp G
  sg : ∀ s, s ∈ r.sp → spG s
  sl : r.sp.length ≤ 9223372036854775807
  dt : r.dt.length ≤ 9223372036854775807
  tx : r.tx.length ≤ 9223372036854775807
theorem Rc.good.newer {w w' : World} {r : Rc} {sv : Value} {G : List Nat} (h : r.good w sv G) (k : Keeps [] w w') : r.good w' sv G := ⟨h.ep, h.nr, h.kd, h.at_.keep k (by simp), h.sg, h.sl, h.dt, h.tx⟩


theorem str_empty : ByteArray.mk #[] = str [] := rfl

set_option maxHeartbeats 8000000 in
theorem spans_any (r : Rc) (sv : Value) (G : List Nat) (w : World) (hr : r.good w sv G) :
    Calls Try.prog 76 #[r.val sv] w fun e w' => e = .returned (.int .i64 (if r.spok then 0 else 1)) ∧ Keeps [] w w' := by
  have K0 := Lib.hid ((Keeps.refl [] w).alloc (.cells #[.int .i64 r.ep, .int .i64 r.nr, .int .i64 r.kd, sv, .string (str r.dt), .string (str r.tx)] 24))
  have Co := Lib.hid (fun w' (k : Keeps [] w w') => contains_any r.sp hr.sg hr.sl sv G w' (hr.newer k).at_)
  have hsl := hr.sl
  unfold Rc.val
  obtain ⟨ad, cap, rfl, _⟩ := hr.at_
  have hn : (r.sp.length : Int) ≤ 9223372036854775807 := by omega
  have hfin : ∀ x : Bool, x = r.spok → (if r.spok = true then (0 : Int) else 1) = if x = true then 0 else 1 := fun x h => by rw [h]
  unfold fnW at Co
  rcases (show r.sp.length < 1 ∨ (1 ≤ r.sp.length ∧ 64 < r.sp.length) ∨ (1 ≤ r.sp.length ∧ r.sp.length ≤ 64 ∧ r.tx ≠ []) ∨ (1 ≤ r.sp.length ∧ r.sp.length ≤ 64 ∧ r.tx = []) by
    by_cases h : r.tx = []
    · by_cases h2 : 64 < r.sp.length
      · omega
      · by_cases h3 : r.sp.length < 1
        · omega
        · exact .inr (.inr (.inr ⟨by omega, by omega, h⟩))
    · by_cases h2 : 64 < r.sp.length
      · omega
      · by_cases h3 : r.sp.length < 1
        · omega
        · exact .inr (.inr (.inl ⟨by omega, by omega, h⟩))) with hq | hq | hq | hq
  · have hs : r.spok = false := by unfold Rc.spok; simp; omega
    have h1 : decide ((r.sp.length : Int) < 1) = true := decide_eq_true (by omega)
    rw [hs]
    clear hfin hr hs
    go_enter Try.func76, Try.ntmps76
    go_wp2
    go_ret
    exact ⟨rfl, K0.out⟩
  · have hs : r.spok = false := by unfold Rc.spok; simp; omega
    have h1 : decide ((r.sp.length : Int) < 1) = false := decide_eq_false (by omega)
    have h2 : decide (64 < (r.sp.length : Int)) = true := decide_eq_true (by omega)
    rw [hs]
    clear hfin hr hs
    go_enter Try.func76, Try.ntmps76
    go_wp2
    go_ret
    exact ⟨rfl, K0.out⟩
  · obtain ⟨q1, q2, q3⟩ := hq
    have hs : r.spok = false := by unfold Rc.spok; simp [q3]
    have h1 : decide ((r.sp.length : Int) < 1) = false := decide_eq_false (by omega)
    have h2 : decide (64 < (r.sp.length : Int)) = false := decide_eq_false (by omega)
    have q4 : r.tx.isEmpty = false := by simpa using q3
    have hz := str_empty
    rw [hs]
    clear hfin hr hs q3
    go_enter Try.func76, Try.ntmps76
    go_wp2
    go_ret
    exact ⟨rfl, K0.out⟩
  · obtain ⟨q1, q2, q3⟩ := hq
    have hs : r.spok = r.sp.all maySp := by unfold Rc.spok; simp [q3, q1, q2]
    have h1 : decide ((r.sp.length : Int) < 1) = false := decide_eq_false (by omega)
    have h2 : decide (64 < (r.sp.length : Int)) = false := decide_eq_false (by omega)
    have q4 : r.tx.isEmpty = true := by simpa using q3
    have hz := str_empty
    rw [hs]
    clear hfin hr hs q3
    generalize r.sp.all maySp = b at *
    cases b
    all_goals
      go_enter Try.func76, Try.ntmps76
      go_wp2_with (go_at_call 95; (with_reducible refine (Co.out _ K0.out).mono ?_); rintro e w1 ⟨rfl, k1⟩)
      go_ret
      exact ⟨rfl, K0.out.trans k1 (by simp)⟩
end Go.Proofs.Ytjebldfmkpfafaa
