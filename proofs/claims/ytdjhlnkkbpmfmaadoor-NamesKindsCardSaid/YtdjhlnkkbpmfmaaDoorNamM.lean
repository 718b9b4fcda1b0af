/- Layer 6: Run. -/
import Derived.Test.YtdjhlnkkbpmfmaaDoorNamG
import Derived.Test.YtdjhlnkkbpmfmaaDoorOpen
import Derived.Maps.OwnOps
import Derived.Maps.OwnSet
namespace Go.Proofs.YtdjhlnkkbpmfmaaDoor
open Go.RowKit Go.Maps

/-! ## plain -/

/-- So many numbers one behind the other are all on the list: there are no more of them than it is long. -/
theorem run_le : ∀ (m : Nat) (l : List Int) (a : Int), (∀ j : Nat, j < m → a + (j : Int) ∈ l) → m ≤ l.length
  | 0, _, _, _ => Nat.zero_le _
  | m + 1, l, a, h => by
    have hm := h m (by omega)
    have hlen := List.length_erase_of_mem hm
    have hpos : 0 < l.length := List.length_pos_of_mem hm
    have := run_le m (l.erase (a + (m : Int))) a (fun j hj => by
      rw [List.mem_erase_of_ne (by omega)]
      exact h j (by omega))
    omega
/-- How long it is, is told. -/
theorem run_same {l : List Int} {a : Int} {m n : Nat} (h1 : ∀ j : Nat, j < m → a + (j : Int) ∈ l) (h2 : a + (m : Int) ∉ l) (g1 : ∀ j : Nat, j < n → a + (j : Int) ∈ l) (g2 : a + (n : Int) ∉ l) : m = n := by
  rcases Nat.lt_trichotomy m n with h | h | h
  · exact absurd (g1 m h) h2
  · exact h
  · exact absurd (h1 n h) g2
def intV (x : Int) : Value := .int .i64 x
def runL (a : Int) (m : Nat) : List Int := (List.range m).map fun (j : Nat) => a + (j : Int)
theorem runL_succ (a : Int) (m : Nat) : runL a (m + 1) = runL a m ++ [a + (m : Int)] := by
  unfold runL
  rw [List.range_succ, List.map_append]
  rfl
theorem runL_length (a : Int) (m : Nat) : (runL a m).length = m := by simp [runL]

/-- What the map says. -/
def Cnt (D : DataW Unit) (l : List Int) : Prop := ∀ x : Int, D.atKey (.int .i64 x) (.lit (.int .i64 0)) = .lit (.int .i64 (l.count x))
theorem cnt_nil : Cnt (.map []) [] := fun _ => rfl
theorem cnt_snoc {D : DataW Unit} {l : List Int} {x : Int} (hD : IsMap D) (hw : (Lit.int .i64 x).wf = true) (h : Cnt D l) : Cnt (D.put (.int .i64 x) (.lit (.int .i64 ((l.count x : Int) + 1)))) (l ++ [x]) := by
  intro y
  by_cases hy : y = x
  · subst hy
    rw [atKey_put_same hD ?_]
    · rw [List.count_append]
      simp
    · trivial
  · rw [atKey_put_other (by intro e; injection e with _ e; exact hy e), h y, List.count_append, List.count_singleton]
    rw [if_neg (by simpa using fun e => hy e.symm)]
    simp
theorem ownsMap_heap {H : Type} {w w' : World} {P : Program} {k : TypeId} {R : Value → Option (DataW H × List MemPlace)} {b n : Nat} {D : DataW H} (h : w.ownsMap P k R b n D) (e : w'.heap[b]? = w.heap[b]?) : w'.ownsMap P k R b n D := by
  obtain ⟨es, clock, h1, h2, h3, h4⟩ := h
  exact ⟨es, clock, by rw [e]; exact h1, h2, h3, h4⟩
theorem tyInts : SlTy Tryd.prog 33 3 1 8 (.int .i64 0) := SlTy.mk' Tryd.underlying33 (by kernel_rfl) rfl (by decide)
theorem lawInt : Keyed Tryd.prog 3 := int_keyed Tryd.underlying3
theorem zeroInt (w : World) : (zeroValue 3).run Tryd.prog w = .ok (.int .i64 0) w := by kernel_rfl
theorem runV_succ (a : Int) (m : Nat) : (runL a (m + 1)).map intV = (runL a m).map intV ++ [.int .i64 (a + (m : Int))] := by rw [runL_succ, List.map_append]; rfl
theorem wf_i64' {x : Int} (h0 : -9223372036854775808 ≤ x) (h1 : x ≤ 9223372036854775807) : (Lit.int .i64 x).wf = true := WalkArith.wf_i64 (by omega)
def i64R (x : Int) : Prop := -9223372036854775808 ≤ x ∧ x ≤ 9223372036854775807

set_option maxHeartbeats 4000000 in
set_option maxRecDepth 100000 in
theorem run_any (l : List Int) (v : Value) (G : List Nat) (a : Int) (w : World) (hv : SlAt w v (l.map intV) G) (hl : l.length ≤ 1000) (ha0 : -9223372036854775808 ≤ a) (ha1 : a ≤ 1152921504606846976) (hw : ∀ x, x ∈ l → i64R x) :
    Calls Tryd.prog 18 #[v, .int .i64 a] w fun e w' => ∃ (v' : Value) (m : Nat), e = .returned v' ∧ (∀ j : Nat, j < m → a + (j : Int) ∈ l) ∧ a + (m : Int) ∉ l ∧ w'.ownsRow 0 3 1 v' m ((runL a m).map intV) ∧ (∀ x, x ∈ v'.ownBlock.toList → w.heap.size ≤ x) ∧ Keeps [] w w' := by
  have Hv := Lib.hid hv
  obtain ⟨ad, cap, rfl, _⟩ := hv
  have Hw := Lib.hid hw
  rw [List.length_map]
  have hli : (l.length : Int) ≤ 1000 := by omega
  have hmm := @run_makeMap Tryd.prog
  have K0 := Lib.hid fun o => (Keeps.refl [] w).alloc o
  have Hl := Lib.hid hl
  clear hw hl
  go_enter Tryd.func18, Tryd.ntmps18
  go_wp2
  go_loopw [12] (fun iv wr => ∃ k : Nat, k ≤ l.length ∧ iv = .int .i64 k ∧ (∃ D : DataW Unit, wr.ownsMap Tryd.prog 3 (plainElem Tryd.prog 3) w.heap.size k D ∧ Hid (Cnt D (l.take k))) ∧ Keeps [] w wr) (fun iv _ => l.length - (intOf iv).toNat)
  case atStart => exact ⟨0, Nat.zero_le _, rfl, ⟨_, World.ownsMap_made _ _ _ _, cnt_nil⟩, K0.out _⟩
  case round =>
    obtain ⟨k, hk, rfl, ⟨D, hown, hcnt⟩, hkk⟩ := hrel
    by_cases hlt : k < l.length
    · have hki : (k : Int) < (l.length : Int) := by omega
      have hki0 : (0 : Int) ≤ (k : Int) := by omega
      obtain ⟨x, hx⟩ : ∃ x, l[k]? = some x := ⟨l[k], by simp [hlt]⟩
      obtain ⟨ad', cap', e1, hc⟩ := Hv.out
      obtain ⟨b, off, rfl, _, hcell⟩ := hc (by intro h0; rw [List.map_eq_nil_iff] at h0; rw [h0] at hlt; simp at hlt)
      obtain rfl : ad = some ⟨b, off, none⟩ := by injection e1
      have c0 := hkk.cell0 (hcell k (intV x) (by rw [List.getElem?_map, hx]; rfl))
      unfold intV at c0
      have hxr := Hw.out x (List.mem_of_getElem? hx)
      have hwf := wf_i64' hxr.1 hxr.2
      have hkey : keyOf Tryd.prog 3 (.int .i64 x) = some (.int .i64 x) := keyOf_int_mk Tryd.underlying3 hwf
      have hcx := hcnt.out x
      have hst : l.take (k + 1) = l.take k ++ [x] := by rw [List.take_add_one, hx]; rfl
      have hcl : (l.take k).count x ≤ 1000 := by
        have h1 := List.count_le_length (a := x) (l := l.take k)
        have h2 := Hl.out
        rw [List.length_take] at h1
        omega
      have hb1 : IntKind.i64.wrap (((l.take k).count x : Int) + 1) = ((l.take k).count x : Int) + 1 := IntWalk.i64_in _ ⟨by omega, by omega⟩
      have hnx : Hid (Cnt (D.put (.int .i64 x) (.lit (.int .i64 (((l.take k).count x : Int) + 1)))) (l.take (k + 1))) := by
        rw [hst]
        exact cnt_snoc hown.isMap hwf hcnt.out
      have hwf2 : (Lit.int .i64 (((l.take k).count x : Int) + 1)).wf = true := wf_i64' (by omega) (by omega)
      have hkm : k < maxLen := by have := Hl.out; unfold maxLen; omega
      have Hown := Lib.hid hown
      have Hkey := Lib.hid hkey
      have Hkk := Lib.hid hkk
      have Hcx := Lib.hid hcx
      have Hwf2 := Lib.hid hwf2
      have Hkm := Lib.hid hkm
      generalize ((l.take k).count x : Int) = c at *
      clear hown hkey hkk hcx hwf2 hkm hcell hc e1 hst hx hcl hwf hxr hcnt
      go_wp2_with (first
        | (at_lookup; refine wpList_lookup_own_int _ rfl _ _ 53 rfl 3 3 .i64 lawInt Tryd.underlying53 Tryd.underlying3 (zeroInt _) w.heap.size k _ rfl Hown.out _ _ rfl Hkey.out ?_; intro c2 hat hwc; obtain rfl : c2 = c := by (have := Hcx.out.symm.trans hat; injection this with this; injection this with _ this; exact this.symm))
        | (at_mapUpdate; refine wpList_mapUpdate_own _ rfl _ _ _ 53 rfl 3 3 lawInt Tryd.underlying53 _ w.heap.size k _ rfl Hown.out Hkm.out _ _ _ rfl rfl Hkey.out _ [] (plainElem_int Tryd.underlying3 Hwf2.out) ?_; intro w1 hown1 hgrow1)
        | go_in)
      have Hown1 := Lib.hid hown1
      have Hk1 : Hid (Keeps [] w w1) := Hkk.out.grown hgrow1 (fun k hk => by cases hk; exact .inr (Nat.le_refl _))
      clear hown1 hgrow1
      go_roundw
      case rel => exact ⟨k + 1, by omega, by go_num, ⟨_, Hown1.out, hnx⟩, Hk1.out⟩
      case measure => simp [intOf]; omega
    · obtain rfl : k = l.length := by omega
      rw [List.take_length] at hcnt
      have hko := hkk
      have hlm : w.heap.size < wr.heap.size := by
        obtain ⟨es, clock, h1, _⟩ := hown
        exact (Array.getElem?_eq_some_iff.1 h1).1
      obtain ⟨wo, hwo⟩ : ∃ wo : World, wo = wr := ⟨_, rfl⟩
      rw [← hwo] at hown hkk hlm
      have Hown := Lib.hid hown
      have Hkk := Lib.hid hkk
      have Hlm := Lib.hid hlm
      clear hown hkk hlm hko
      go_wp2
      rw [← hwo]
      clear hwo
      go_loopw [1, 8] (fun fv ov wr => ∃ m : Nat, fv = .int .i64 (a + (m : Int)) ∧ Hid (∀ j : Nat, j < m → a + (j : Int) ∈ l) ∧ wr.ownsRow 0 3 1 ov m ((runL a m).map intV) ∧ (∀ x, x ∈ ov.ownBlock.toList → wo.heap.size ≤ x) ∧ Keeps [] wo wr) (fun fv _ _ => l.length + 1 - (intOf fv - a).toNat)
      case atStart => exact ⟨0, by simp, fun j hj => by omega, World.ownsRow_nil _ _ _ _, by simp [Value.ownBlock], Keeps.refl [] _⟩
      case round =>
        obtain ⟨m, rfl, hall, hrow, hfr, hk2⟩ := hrel
        have hml2 := run_le m l a hall.out
        have hml : m ≤ 1000 := Nat.le_trans hml2 Hl.out
        have hown2 : wr.ownsMap Tryd.prog 3 (plainElem Tryd.prog 3) w.heap.size l.length D := ownsMap_heap Hown.out (hk2.block _ Hlm.out (by simp))
        have hkey : keyOf Tryd.prog 3 (.int .i64 (a + (m : Int))) = some (.int .i64 (a + (m : Int))) := keyOf_int_mk Tryd.underlying3 (wf_i64' (by omega) (by omega))
        have hcx := hcnt.out (a + (m : Int))
        obtain ⟨ad2, cap2, rfl⟩ := ownsRow_shape hrow
        have Hrow := Lib.hid hrow
        have Hown2 := Lib.hid hown2
        have Hkey := Lib.hid hkey
        have Hcx := Lib.hid hcx
        have Hfr := Lib.hid hfr
        have Hk2 := Lib.hid hk2
        have hb1 : IntKind.i64.wrap (a + (m : Int) + 1) = a + ((m + 1 : Nat) : Int) := by rw [IntWalk.i64_in _ ⟨by omega, by omega⟩]; omega
        clear hown2 hkey hcx hfr hk2 hrow
        by_cases hin : a + (m : Int) ∈ l
        · have hc0 : (0 : Int) < ((l.count (a + (m : Int)) : Nat) : Int) := by have := List.count_pos_iff.2 hin; omega
          have Hin := Lib.hid hin
          generalize ((l.count (a + (m : Int)) : Nat) : Int) = c at *
          clear hin
          go_wp2_with (first
            | (at_lookup; refine wpList_lookup_own_int _ rfl _ _ 53 rfl 3 3 .i64 lawInt Tryd.underlying53 Tryd.underlying3 (zeroInt _) w.heap.size l.length _ rfl Hown2.out _ _ rfl Hkey.out ?_; intro c2 hat hwc; obtain rfl : c2 = c := by (have := Hcx.out.symm.trans hat; injection this with this; injection this with _ this; exact this.symm))
            | (at_builtin; refine wpList_app1 tyInts rfl (.tmp 25) (.tmp 27) rfl _ _ _ rfl rfl Hrow.out rfl ?c1 ?c2 ?c3 ?c4)
            | go_in)
          case c1 => rfl
          case c2 => omega
          case c3 => unfold maxLen; omega
          case c4 =>
          intro g' cap' w' hown' hc'
          have Hown3 : Hid (w'.ownsRow 0 3 1 (.slice (some ⟨g', 0, none⟩) (m + 1) cap') (m + 1) ((runL a (m + 1)).map intV)) := by
            rw [runV_succ]
            exact hown'
          have Hc := Lib.hid hc'
          clear hown' hc'
          go_wp2
          go_roundw
          case rel =>
            refine ⟨m + 1, rfl, fun j hj => ?_, Hown3.out, fun x hx => (Hc.out.fresh x hx).elim (Hfr.out x) (fun h => Nat.le_trans Hk2.out.size h), Hk2.out.trans Hc.out.keeps (fun x hx => .inr (Hfr.out x hx))⟩
            by_cases hjm : j < m
            · exact hall.out j hjm
            · obtain rfl : j = m := by omega
              exact Hin.out
          case measure => simp [intOf]; omega
        · have hc0 : ¬ (0 : Int) < ((l.count (a + (m : Int)) : Nat) : Int) := by have := List.count_eq_zero.2 hin; omega
          have Hin := Lib.hid hin
          generalize ((l.count (a + (m : Int)) : Nat) : Int) = c at *
          clear hin
          go_wp2_with (first
            | (at_lookup; refine wpList_lookup_own_int _ rfl _ _ 53 rfl 3 3 .i64 lawInt Tryd.underlying53 Tryd.underlying3 (zeroInt _) w.heap.size l.length _ rfl Hown2.out _ _ rfl Hkey.out ?_; intro c2 hat hwc; obtain rfl : c2 = c := by (have := Hcx.out.symm.trans hat; injection this with this; injection this with _ this; exact this.symm))
            | go_in)
          go_ret
          exact ⟨_, rfl, m, hall.out, Hin.out, Hrow.out, fun x hx => Nat.le_trans (Nat.le_of_lt Hlm.out) (Hfr.out x (by simpa using hx)), KT Hkk.out Hk2.out⟩
end Go.Proofs.YtdjhlnkkbpmfmaaDoor
