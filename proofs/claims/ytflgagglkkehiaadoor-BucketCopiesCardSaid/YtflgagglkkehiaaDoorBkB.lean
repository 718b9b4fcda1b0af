/- Layer 5: fails, put, remove, find. -/
import Derived.Test.YtflgagglkkehiaaDoorBkA
namespace Go.Proofs.YtflgagglkkehiaaDoor
open Go.RowKit Go.Maps

theorem zeroStr (w : World) : (zeroValue 9).run Tryd.prog w = .ok (.string (str [])) w := by kernel_rfl

theorem elemStr (v : Bs) (h : v.length ≤ maxLen) : plainElem (H := Unit) Tryd.prog 9 (.string (str v)) = some (.lit (.string v), []) :=
  (plainElem_string (P := Tryd.prog) Tryd.underlying9 (s := str v) (by rw [str_size]; exact h)).trans (by rw [str_data])

theorem elemNil : plainElem (H := Unit) Tryd.prog 9 (.string (str [])) = some (.lit (.string []), []) := elemStr [] (by simp)
theorem Chg.drew0 (F : List Nat) (w : World) (n : Nat) : Chg F F w (w.drewN n) := ⟨(Keeps.refl F w).drewN n, fun _ h => .inl h⟩
theorem BkC.drew {w : World} {p mb : Nat} {b : Bk} {F Gf Gl : List Nat} {fv lv : Value} (h : BkC w p b F mb fv lv Gf Gl) (n : Nat) : BkC (w.drewN n) p b F mb fv lv Gf Gl := h.keep ((Keeps.refl [] w).drewN n) (by simp)
theorem keepsT {w w' : World} {mb : Nat} (h : w.mapTurned w' mb) : Keeps [mb] w w' := (Keeps.refl [mb] w).grown h.grown (fun k hk => by cases hk; simp)

/-- v, ok := objects[name]. -/
theorem wpList_look {m : Ob} {mb n : Nat} {w : World} {ops : Array Oper} {rest : List Oper} {o : Oper} {a : Act} {Q : Exit → Act → World → Prop}
    (hown : w.ownsMap Tryd.prog 9 (plainElem Tryd.prog 9) mb n (datO m)) (k : Bs) (hk : k.length ≤ 64) (hg : o.guard = none) (ma x : Operand) (hop : o.op = Op.lookup 66 ma x true)
    (hm : a.eval ma = .map (some mb)) (hx : a.eval x = .string (str k))
    (h : wpList Tryd.prog ops Q rest (a.put o.dst (.tuple #[.string (str ((getO m k).getD [])), .bool (getO m k).isSome])) w) : wpList Tryd.prog ops Q (o :: rest) a w := by
  have h0 := @wpList_lookup_own_ok Unit Tryd.prog w ops rest o a Q hg ma x 66 hop 9 9 (string_keyed Tryd.underlying9) Tryd.underlying66 (plainElem Tryd.prog 9) (.string (str [])) (zeroStr w)
  refine h0 (.lit (.string [])) [] elemNil mb n _ hm hown _ _ hx (keyStr hk) ?_
  intro v ps hv
  rw [dat_at] at hv
  obtain ⟨s, rfl, h1, _⟩ := plainElem_string_inv Tryd.underlying9 hv
  rw [dat_has]
  have h2 : s = str ((getO m k).getD []) := by
    simp only [Prod.mk.injEq, DataW.lit.injEq, Lit.string.injEq] at h1
    rw [h1.1]
    exact (str_self s).symm
  rw [h2]
  exact h

set_option maxHeartbeats 1000000 in
set_option maxRecDepth 100000 in
theorem fails_any (p : Nat) (b : Bk) (F : List Nat) (w : World) (hb : BkAt w p b F) (h64 : ∀ x, x ∈ b.f → i64R x) :
    Calls Tryd.prog 40 #[.pointer (some ⟨p, 0, none⟩)] w fun e w' => e = .returned (.bool (decide (b.fate ≠ 0))) ∧ BkAt w' p b.tick F ∧ Chg F F w w' := by
  have h := next_any p b F w hb h64
  generalize b.fate = f at *
  have Hh := Lib.hid h
  clear h hb h64
  go_enter Tryd.func40, Tryd.ntmps40
  go_wp2_with (go_at_call 52; (with_reducible refine (Hh.out).mono ?_); rintro e w1 ⟨rfl, h1, h2⟩)
  go_ret
  exact ⟨by simp; rfl, h1, h2⟩

set_option maxHeartbeats 1000000 in
set_option maxRecDepth 100000 in
theorem find_any (p : Nat) (b : Bk) (F : List Nat) (w : World) (hb : BkAt w p b F) (k : Bs) (hk : k.length ≤ 64) (h64 : ∀ x, x ∈ b.f → i64R x) :
    Calls Tryd.prog 35 #[.pointer (some ⟨p, 0, none⟩), .string (str k)] w fun e w' => e = .returned (.tuple #[.string (str (b.look k).1), .int .i64 (b.look k).2]) ∧ BkAt w' p b.tick F ∧ Chg F F w w' := by
  have h := fails_any p b F w hb h64
  obtain ⟨r, hr⟩ : ∃ r, b.look k = r := ⟨_, rfl⟩
  rw [hr]
  have Hh := Lib.hid h
  have Hr := Lib.hid hr
  have hz := str_empty
  clear h hr hb h64
  by_cases hf : b.fate = 0
  · have hd : decide (b.fate ≠ 0) = false := by simp [hf]
    rw [hd] at Hh
    cases hg : getO b.m k with
    | none =>
      obtain rfl : r = ([], 15) := by rw [← Hr.out]; unfold Bk.look; rw [if_pos hf, hg]
      have hg1 : (getO b.tick.m k).isSome = false := by show (getO b.m k).isSome = false; rw [hg]; rfl
      clear hf hd hg
      go_enter Tryd.func35, Tryd.ntmps35
      go_wp2_with (first
        | (go_at_call 40; (with_reducible refine (Hh.out).mono ?_); rintro e w1 ⟨rfl, ⟨mb, fv, lv, Gf, Gl, hc⟩, h2⟩; have c0 := cell_of_heap hc.cells 0; have Ho := Lib.hid hc.own; have Hc := Lib.hid hc; clear hc)
        | (at_lookup; (with_reducible refine wpList_look Ho.out k hk rfl _ _ rfl rfl rfl ?_); rw [hg1]))
      go_ret2
      exact ⟨rfl, ⟨_, _, _, _, _, Hc.out⟩, h2⟩
    | some v =>
      obtain rfl : r = (v, 0) := by rw [← Hr.out]; unfold Bk.look; rw [if_pos hf, hg]
      have hg1 : getO b.tick.m k = some v := hg
      clear hf hd hg
      go_enter Tryd.func35, Tryd.ntmps35
      go_wp2_with (first
        | (go_at_call 40; (with_reducible refine (Hh.out).mono ?_); rintro e w1 ⟨rfl, ⟨mb, fv, lv, Gf, Gl, hc⟩, h2⟩; have c0 := cell_of_heap hc.cells 0; have Ho := Lib.hid hc.own; have Hc := Lib.hid hc; clear hc)
        | (at_lookup; (with_reducible refine wpList_look Ho.out k hk rfl _ _ rfl rfl rfl ?_); rw [hg1, Option.getD_some, Option.isSome_some]))
      go_ret2
      exact ⟨rfl, ⟨_, _, _, _, _, Hc.out⟩, h2⟩
  · have hd : decide (b.fate ≠ 0) = true := by simp [hf]
    rw [hd] at Hh
    obtain rfl : r = ([], 34) := by rw [← Hr.out]; unfold Bk.look; rw [if_neg hf]
    clear hf hd
    go_enter Tryd.func35, Tryd.ntmps35
    go_wp2_with (go_at_call 40; (with_reducible refine (Hh.out).mono ?_); rintro e w1 ⟨rfl, h1, h2⟩)
    go_ret2
    exact ⟨rfl, h1, h2⟩

set_option maxHeartbeats 1000000 in
set_option maxRecDepth 100000 in
theorem put_c (p : Nat) (b : Bk) (F : List Nat) (w : World) (mb : Nat) (fv lv : Value) (Gf Gl : List Nat) (hc : BkC w p b F mb fv lv Gf Gl) (N : Nat) (hok : b.ok N) (hN : N ≤ 1000000) (k v : Bs) (hk : k.length ≤ 64) (hv : v.length ≤ 65536) :
    Calls Tryd.prog 33 #[.pointer (some ⟨p, 0, none⟩), .string (str k), .string (str v)] w fun e w' => e = .returned (.int .i64 (b.put k v).1) ∧ BkC w' p (b.put k v).2 F mb fv lv Gf Gl ∧ Keeps [p, mb] w w' := by
  have c0 := cell_of_heap hc.cells 0
  have c1 := cell_of_heap hc.cells 1
  have c2 := cell_of_heap hc.cells 2
  have f2 := free_of_heap hc.cells 2
  have Ho := Lib.hid hc.own
  have Hc := Lib.hid hc
  clear hc
  cases hg : getO b.m k with
  | some x =>
    have hput : b.put k v = (16, b) := by unfold Bk.put; rw [hg]; rfl
    rw [hput]
    have hg1 : (getO b.m k).isSome = true := by rw [hg]; rfl
    clear hg hok hput
    go_enter Tryd.func33, Tryd.ntmps33
    go_wp2_with (at_lookup; (with_reducible refine wpList_look Ho.out k hk rfl _ _ rfl rfl rfl ?_); rw [hg1])
    go_ret
    exact ⟨rfl, Hc.out, Keeps.refl _ _⟩
  | none =>
    have hg1 : (getO b.m k).isSome = false := by rw [hg]; rfl
    have hq := hok.q63
    have hfit := hok.fits
    have hw1 : IntKind.i64.wrap ((b.q : Int) - (usedO b.m : Int)) = (b.q : Int) - (usedO b.m : Int) := by rw [IntWalk.i64_in _ ⟨by omega, by omega⟩]
    by_cases hr : b.q < usedO b.m + v.length
    · have hput : b.put k v = (33, b) := by unfold Bk.put; rw [if_neg (by rw [hg1]; simp), if_pos hr]
      rw [hput]
      have hd : decide ((b.q : Int) - (usedO b.m : Int) < (v.length : Int)) = true := decide_eq_true (by omega)
      clear hg hok hput hr hq hfit
      go_enter Tryd.func33, Tryd.ntmps33
      go_wp2_with (at_lookup; (with_reducible refine wpList_look Ho.out k hk rfl _ _ rfl rfl rfl ?_); rw [hg1])
      go_quiet (fail)
      go_wp2
      go_ret
      exact ⟨rfl, Hc.out.drew _, (Keeps.refl _ _).drewN _⟩
    · have hput : b.put k v = (0, { b with m := putO b.m k v }) := by unfold Bk.put; rw [if_neg (by rw [hg1]; simp), if_neg hr]
      rw [hput]
      have hd : decide ((b.q : Int) - (usedO b.m : Int) < (v.length : Int)) = false := decide_eq_false (by omega)
      have hlen : b.m.length < maxLen := by have := hok.few; unfold maxLen; omega
      have hus : usedO (putO b.m k v) = usedO b.m + v.length := put_used v hg
      have hw2 : IntKind.i64.wrap ((usedO b.m : Int) + (v.length : Int)) = (usedO b.m : Int) + (v.length : Int) := by rw [IntWalk.i64_in _ ⟨by omega, by omega⟩]
      have Hlen := Lib.hid hlen
      have Hus := Lib.hid hus
      clear hg hok hput hr hq hfit hlen hus
      go_enter Tryd.func33, Tryd.ntmps33
      go_wp2_with (at_lookup; (with_reducible refine wpList_look Ho.out k hk rfl _ _ rfl rfl rfl ?_); rw [hg1])
      go_quiet (fail)
      have Hd := Lib.hid (Hc.out.drew nq)
      have e0 := cell_of_heap Hd.out.cells 0
      have Hkey := Lib.hid (keyStr hk)
      have Hel := Lib.hid (elemStr v (by unfold maxLen; omega))
      go_wp2_with (first
        | (at_mapUpdate; (refine wpList_mapUpdate_in _ rfl _ _ _ 66 rfl 9 9 (string_keyed Tryd.underlying9) Tryd.underlying66 _ mb b.m.length _ rfl Hd.out.own Hlen.out _ _ _ rfl rfl Hkey.out _ [] Hel.out ?_); intro w1 hown1 hturn1; have hk1 := Lib.hid (keepsT hturn1); have hcs := hk1.out.some Hd.out.cells (by simpa using Hc.out.pm); have d2 := cell_of_heap hcs 2; have g2 := free_of_heap hcs 2)
        | go_in)
      go_ret
      have hk2 : Keeps [p, mb] w (w1.setCell ⟨p, 2, none⟩ (.int .i64 ((usedO b.m : Int) + (v.length : Int)))) :=
        (((Keeps.refl [p, mb] w).drewN nq).trans (F' := [mb]) hk1.out (fun x hx => .inl (by simp at hx; simp [hx]))).setCell (p := ⟨p, 2, none⟩) (.inl (by simp)) _
      have hcell := heap_setCell hcs 2 (.int .i64 ((usedO b.m : Int) + (v.length : Int)))
      have hown2 : (w1.setCell ⟨p, 2, none⟩ (.int .i64 ((usedO b.m : Int) + (v.length : Int)))).ownsMap Tryd.prog 9 (plainElem Tryd.prog 9) mb (b.m.length + 1) (datO (putO b.m k v)) := by
        rw [← dat_put]
        exact hown1.setCell (a := ⟨p, 2, none⟩) (fun e => Hc.out.pm e.symm) _
      have hcell2 : (w1.setCell ⟨p, 2, none⟩ (.int .i64 ((usedO b.m : Int) + (v.length : Int)))).heap[p]? = some (.cells #[.map (some mb), .int .i64 b.q, .int .i64 (usedO (putO b.m k v)), fv, lv] 69) := by
        rw [Hus.out]
        exact hcell
      obtain ⟨r1, _⟩ := Hc.out.turn hk2 hcell2 hown2
      exact ⟨rfl, r1, hk2⟩

set_option maxHeartbeats 1000000 in
set_option maxRecDepth 100000 in
theorem rem_c (p : Nat) (b : Bk) (F : List Nat) (w : World) (mb : Nat) (fv lv : Value) (Gf Gl : List Nat) (hc : BkC w p b F mb fv lv Gf Gl) (N : Nat) (hok : b.ok N) (k : Bs) (x : ByteArray) (hk : k.length ≤ 64) :
    Calls Tryd.prog 53 #[.pointer (some ⟨p, 0, none⟩), .string (str k), .string x] w fun e w' => e = .returned (.int .i64 (b.rem k).1) ∧ BkC w' p (b.rem k).2 F mb fv lv Gf Gl ∧ Keeps [p, mb] w w' := by
  have c0 := cell_of_heap hc.cells 0
  have c2 := cell_of_heap hc.cells 2
  have f2 := free_of_heap hc.cells 2
  have Ho := Lib.hid hc.own
  have Hc := Lib.hid hc
  clear hc
  cases hg : getO b.m k with
  | none =>
    have hput : b.rem k = (15, b) := by unfold Bk.rem; rw [hg]; rfl
    rw [hput]
    have hg1 : (getO b.m k).isSome = false := by rw [hg]; rfl
    clear hg hok hput
    go_enter Tryd.func53, Tryd.ntmps53
    go_wp2_with (at_lookup; (with_reducible refine wpList_look Ho.out k hk rfl _ _ rfl rfl rfl ?_); rw [hg1])
    go_ret
    exact ⟨rfl, Hc.out, Keeps.refl _ _⟩
  | some v =>
    have hput : b.rem k = (0, { b with m := delO b.m k }) := by unfold Bk.rem; rw [hg]; rfl
    rw [hput]
    have hdu := del_used hok.srt hg
    have hq := hok.q63
    have hfit := hok.fits
    have hw2 : IntKind.i64.wrap ((usedO b.m : Int) - (v.length : Int)) = (usedO (delO b.m k) : Int) := by rw [IntWalk.i64_in _ ⟨by omega, by omega⟩]; omega
    have hg1 : getO b.m k = some v := hg
    clear hg hok hput hq hfit hdu
    have Hkey := Lib.hid (keyStr hk)
    go_enter Tryd.func53, Tryd.ntmps53
    go_wp2_with (first
      | (at_lookup; (with_reducible refine wpList_look Ho.out k hk rfl _ _ rfl rfl rfl ?_); rw [hg1, Option.getD_some, Option.isSome_some])
      | (at_delete; (refine wpList_delete_own _ rfl _ _ 66 9 rfl 9 (string_keyed Tryd.underlying9) Tryd.underlying66 _ mb b.m.length _ rfl Ho.out _ _ rfl Hkey.out ?_); intro w1 hown1 hturn1; have hk1 := Lib.hid (keepsT hturn1); have hcs := hk1.out.some Hc.out.cells (by simpa using Hc.out.pm); have d2 := cell_of_heap hcs 2; have g2 := free_of_heap hcs 2)
      | go_in)
    go_ret
    have hk2 : Keeps [p, mb] w (w1.setCell ⟨p, 2, none⟩ (.int .i64 (usedO (delO b.m k) : Int))) :=
      ((Keeps.refl [p, mb] w).trans (F' := [mb]) hk1.out (fun x hx => .inl (by simp at hx; simp [hx]))).setCell (p := ⟨p, 2, none⟩) (.inl (by simp)) _
    have hcell := heap_setCell hcs 2 (.int .i64 (usedO (delO b.m k) : Int))
    have hown2 : (w1.setCell ⟨p, 2, none⟩ (.int .i64 (usedO (delO b.m k) : Int))).ownsMap Tryd.prog 9 (plainElem Tryd.prog 9) mb b.m.length (datO (delO b.m k)) := by
      rw [← dat_del]
      exact hown1.setCell (a := ⟨p, 2, none⟩) (fun e => Hc.out.pm e.symm) _
    obtain ⟨r1, _⟩ := Hc.out.turn hk2 hcell hown2
    exact ⟨rfl, r1, hk2⟩

/-- A call's function. -/
theorem act_c (p : Nat) (b : Bk) (F : List Nat) (w : World) (mb : Nat) (fv lv : Value) (Gf Gl : List Nat) (hc : BkC w p b F mb fv lv Gf Gl) (N : Nat) (hok : b.ok N) (hN : N ≤ 1000000) (c : Cl) (hk : c.2.1.length ≤ 64) (hv : c.2.2.length ≤ 65536) :
    Calls Tryd.prog (if c.1 then 33 else 53) #[.pointer (some ⟨p, 0, none⟩), .string (str c.2.1), .string (str c.2.2)] w fun e w' => e = .returned (.int .i64 (b.act c).1) ∧ BkC w' p (b.act c).2 F mb fv lv Gf Gl ∧ Keeps [p, mb] w w' := by
  obtain ⟨t, k, v⟩ := c
  cases t
  · exact rem_c p b F w mb fv lv Gf Gl hc N hok k (str v) hk
  · exact put_c p b F w mb fv lv Gf Gl hc N hok hN k v hk hv
theorem act_any (p : Nat) (b : Bk) (F : List Nat) (w : World) (hb : BkAt w p b F) (N : Nat) (hok : b.ok N) (hN : N ≤ 1000000) (c : Cl) (hk : c.2.1.length ≤ 64) (hv : c.2.2.length ≤ 65536) :
    Calls Tryd.prog (if c.1 then 33 else 53) #[.pointer (some ⟨p, 0, none⟩), .string (str c.2.1), .string (str c.2.2)] w fun e w' => e = .returned (.int .i64 (b.act c).1) ∧ BkAt w' p (b.act c).2 F ∧ Chg F F w w' := by
  obtain ⟨mb, fv, lv, Gf, Gl, hc⟩ := hb
  refine (act_c p b F w mb fv lv Gf Gl hc N hok hN c hk hv).mono ?_
  rintro e w' ⟨rfl, h1, h2⟩
  refine ⟨rfl, ⟨_, _, _, _, _, h1⟩, h2.mono (fun x hx => ?_), fun x hx => .inl hx⟩
  rw [hc.foot]
  simp only [List.mem_cons, List.not_mem_nil, or_false] at hx
  rcases hx with rfl | rfl <;> simp
end Go.Proofs.YtflgagglkkehiaaDoor
