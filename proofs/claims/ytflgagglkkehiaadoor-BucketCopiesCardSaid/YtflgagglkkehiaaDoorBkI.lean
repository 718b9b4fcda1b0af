/- Layer 5: Names, List. -/
import Derived.Test.YtflgagglkkehiaaDoorBkH
import Derived.Test.YtflgagglkkehiaaDoorIter
namespace Go.Proofs.YtflgagglkkehiaaDoor
open Go.RowKit Go.Maps Go.Sort Go.Shelf

theorem SlAt.own' {w : World} {e : TypeId} {v : Value} {n : Nat} {xs : List Value} (h : w.ownsRow 0 e 1 v n xs) : SlAt w v xs v.ownBlock.toList := by
  obtain ⟨hl, h2⟩ := h
  rw [Nat.mul_one] at hl
  rcases h2 with ⟨rfl, rfl⟩ | ⟨g, cap, cur, rfl, _, hh, hnc, _, hsz, ht⟩
  · exact ⟨none, 0, by rw [hl], fun h0 => absurd (List.length_eq_zero_iff.1 hl) h0⟩
  · refine ⟨_, cap, by rw [hl], fun _ => ⟨g, 0, rfl, by simp [Value.ownBlock], fun j u hj => ?_⟩⟩
    rw [Nat.zero_add, cell_of_heap hh]
    rw [← ht, Nat.mul_one] at hj
    have hjl : j < n := by
      have := (List.getElem?_eq_some_iff.1 hj).1
      rw [List.length_take] at this
      omega
    rw [List.getElem?_take_of_lt hjl] at hj
    simpa using hj
def strV (k : Bs) : Value := .string (str k)
theorem encStr_strV (k : Bs) : encStr k = strV k := rfl
def keysO (m : Ob) : List Bs := m.map (·.1)

set_option maxHeartbeats 1000000 in
theorem names_any (p : Nat) (b : Bk) (F : List Nat) (w : World) (hb : BkAt w p b F) (hs : Srt b.m) (hl : b.m.length ≤ 1000000) :
    Calls Tryd.prog 22 #[.pointer (some ⟨p, 0, none⟩)] w fun e w' => ∃ v, e = .returned v ∧ w'.ownsRow 0 9 1 v b.m.length ((keysO b.m).map strV) ∧ (∀ x, x ∈ v.ownBlock.toList → w.heap.size ≤ x) ∧ Keeps [] w w' := by
  obtain ⟨mb, fv, lv, Gf, Gl, hc⟩ := hb
  have c0 := cell_of_heap hc.cells 0
  have hown := hc.own
  have hmax : Maps.size (datO b.m) ≤ maxLen := by rw [dat_size]; unfold maxLen; omega
  have hbytes : Maps.size (datO b.m) * 16 ≤ 140737488355328 := by rw [dat_size]; omega
  clear hc
  refine (callsIn_wide (n := 6)).1 ?_
  have hfK : Fence.wide.fn 39 := trivial
  have hfS : Fence.wide.fn 38 := trivial
  refine callsIn_of_wp Tryd.func22 rfl trivial ?_ rfl
  simp only [Tryd.ntmps22, List.size_toArray, List.length_cons, List.length_nil, Nat.reduceAdd, Nat.reduceSub, Array.replicate_succ, Array.replicate_zero, List.push_toArray, List.append_toArray, List.nil_append, List.cons_append]
  gi_wp2_with (first
    | (gi_at_call 39; refine (Tryd.maps_Keys_39 _ _).mono ?_; rintro e w' ⟨rfl, rfl⟩)
    | (gi_at_call 38; refine (Tryd.slices_Sorted_keys_38_39 mb b.m.length (datO b.m) (plainElem Tryd.prog 9) w hown hmax hbytes).mono ?_; rintro e w' ⟨v, ss, rfl, hS, hrow, hnil, hb⟩))
  go_ret
  have hlen : ss.length = b.m.length := by rw [hS.length_eq, dat_keys, List.length_map]
  rw [keys_sorted hs hS, hlen] at hrow
  refine ⟨v, rfl, World.ownsRow.mono hrow (Nat.zero_le _), fun x hx => ?_, (ofBelow (w := w) ?_)⟩
  · rcases hrow.2 with ⟨rfl, _⟩ | ⟨g, cap, cur, rfl, hb', _⟩
    · simp [Value.ownBlock] at hx
    · simp [Value.ownBlock] at hx
      simp at hb'
      omega
  · exact ((Below.refl _ w).alloc (Nat.le_refl _) _).trans (hb.mono (by simp))

theorem tyStrs : SlTy Tryd.prog 43 9 1 16 (.string ⟨#[]⟩) := SlTy.mk' Tryd.underlying43 (by kernel_rfl) rfl (by decide)
theorem pre_any (s t : Bs) (w : World) : Calls Tryd.prog 41 #[.string (str s), .string (str t)] w fun e w' => e = .returned (.bool (t.isPrefixOf s)) ∧ w' = w := by
  have h := Tryd.strings_HasPrefix (str s) (str t) w
  rw [str_data, str_data] at h
  exact h
def Bk.list (b : Bk) (t : Bs) : List Bs × Int := if b.fate = 0 then ((keysO b.m).filter (fun s => t.isPrefixOf s), 0) else ([], 34)

set_option maxHeartbeats 2000000 in
set_option maxRecDepth 100000 in
theorem blist_any (p : Nat) (b : Bk) (F : List Nat) (w : World) (hb : BkAt w p b F) (N : Nat) (hok : b.ok N) (hN : N ≤ 1000000) (t : Bs) :
    Calls Tryd.prog 23 #[.pointer (some ⟨p, 0, none⟩), .string (str t)] w fun e w' => ∃ v, e = .returned (.tuple #[v, .int .i64 (b.list t).2]) ∧ w'.ownsRow 0 9 1 v (b.list t).1.length ((b.list t).1.map strV) ∧ (∀ x, x ∈ v.ownBlock.toList → w.heap.size ≤ x) ∧ BkAt w' p b.tick F ∧ Chg F F w w' := by
  have hfa := fails_any p b F w hb hok.f64
  have Hfa := Lib.hid hfa
  have hsize := hb.lt
  clear hfa hb
  by_cases hf : b.fate = 0
  · have hl : b.list t = ((keysO b.m).filter (fun s => t.isPrefixOf s), 0) := by unfold Bk.list; rw [if_pos hf]
    have hd : decide (b.fate ≠ 0) = false := by simp [hf]
    rw [hl]
    rw [hd] at Hfa
    have hml : b.m.length ≤ 1000000 := by have := hok.few; omega
    have hna := fun w' (h : BkAt w' p b.tick F) => names_any p b.tick F w' h hok.srt hml
    have hna2 : ∀ w', BkAt w' p b.tick F → Calls Tryd.prog 22 #[.pointer (some ⟨p, 0, none⟩)] w' fun e w2 => ∃ v, e = .returned v ∧ w2.ownsRow 0 9 1 v b.m.length ((keysO b.m).map strV) ∧ (∀ x, x ∈ v.ownBlock.toList → w'.heap.size ≤ x) ∧ Keeps [] w' w2 := hna
    have Hna := Lib.hid hna2
    have hKl : (keysO b.m).length = b.m.length := by unfold keysO; rw [List.length_map]
    generalize keysO b.m = K at *
    generalize b.tick = b1 at *
    have HKl := Lib.hid hKl
    have Hml := Lib.hid hml
    have hK6 : K.length ≤ 1000000 := by omega
    clear hna hna2 hl hd hf hok
    rw [← hKl] at Hna
    clear hKl hml
    go_enter Tryd.func23, Tryd.ntmps23
    go_wp2_with (first
      | (go_at_call 40; (with_reducible refine (Hfa.out).mono ?_); rintro e w1 ⟨rfl, h1, q1⟩)
      | (go_at_call 22; (with_reducible refine (Hna.out _ h1).mono ?_); rintro e w2 ⟨v, rfl, hr2, hn2, q2⟩; obtain ⟨vad, vcap, rfl⟩ := ownsRow_shape hr2))
    have h2 := h1.newer q2
    have hch : Chg F F w w2 := ⟨q1.keeps.trans q2 (by simp), fun k hk => .inl hk⟩
    have hw2s : w.heap.size ≤ w2.heap.size := hch.keeps.size
    have hF2 := h2.lt
    have Hr2 := Lib.hid (SlAt.own' hr2)
    have Hn2 := Lib.hid hn2
    have H2 := Lib.hid h2
    have Hch := Lib.hid hch
    clear h1 q1 q2 h2 hch hr2 hn2
    go_loopw [18, 6] (fun iv ov wr => ∃ k : Nat, k ≤ K.length ∧ iv = .int .i64 k ∧ wr.ownsRow 0 9 1 ov ((K.take k).filter (fun s => t.isPrefixOf s)).length (((K.take k).filter (fun s => t.isPrefixOf s)).map strV) ∧ (∀ x, x ∈ ov.ownBlock.toList → w2.heap.size ≤ x) ∧ Keeps [] w2 wr) (fun iv _ _ => K.length - (intOf iv).toNat)
    case atStart => exact ⟨0, Nat.zero_le _, rfl, World.ownsRow_nil _ _ _ _, by simp [Value.ownBlock], Keeps.refl [] _⟩
    case round =>
      obtain ⟨k, hk, rfl, hrow, hfr, hkk⟩ := hrel
      by_cases hlt : k < K.length
      · obtain ⟨s, hs⟩ : ∃ s, K[k]? = some s := ⟨K[k], by simp [hlt]⟩
        have hst : K.take (k + 1) = K.take k ++ [s] := by rw [List.take_add_one, hs]; rfl
        obtain ⟨ad', cap', e1, hc⟩ := Hr2.out
        obtain ⟨g, off, rfl, _, hcell⟩ := hc (by intro h0; rw [List.map_eq_nil_iff] at h0; rw [h0] at hlt; simp at hlt)
        obtain rfl : vad = some ⟨g, off, none⟩ := by injection e1
        have c0 := hkk.cell0 (hcell k (strV s) (by rw [List.getElem?_map, hs]; rfl))
        unfold strV at c0
        have hki : (k : Int) < (K.length : Int) := by omega
        have hki0 : (0 : Int) ≤ (k : Int) := by omega
        have hfl : ((K.take k).filter (fun s => t.isPrefixOf s)).length ≤ 1000000 := by
          have h1 := List.length_filter_le (fun s => t.isPrefixOf s) (K.take k)
          rw [List.length_take] at h1
          have := HKl.out
          have := Hml.out
          omega
        have hnx : (K.take (k + 1)).filter (fun s => t.isPrefixOf s) = (K.take k).filter (fun s => t.isPrefixOf s) ++ (if t.isPrefixOf s then [s] else []) := by
          rw [hst, List.filter_append]
          congr 1
          by_cases hp : t.isPrefixOf s = true <;> simp [hp]
        have hpr := pre_any s t wr
        have Hpr := Lib.hid hpr
        obtain ⟨oad, ocap, rfl⟩ := ownsRow_shape hrow
        generalize (K.take k).filter (fun s => t.isPrefixOf s) = L at *
        have Hrow := Lib.hid hrow
        have Hfr := Lib.hid hfr
        have Hkk := Lib.hid hkk
        have Hfl := Lib.hid hfl
        have Hnx := Lib.hid hnx
        clear hrow hfr hkk hfl hnx hpr hst hs hc hcell e1
        by_cases hp : t.isPrefixOf s = true
        · rw [hp] at Hpr
          rw [if_pos hp] at Hnx
          clear hp
          go_wp2_with (first
            | (go_at_call 41; (with_reducible refine (Hpr.out).mono ?_); rintro e w3 ⟨rfl, rfl⟩)
            | (at_builtin; refine wpList_app1 tyStrs rfl (.tmp 25) (.tmp 27) rfl _ _ _ rfl rfl Hrow.out rfl ?c1 ?c2 ?c3 ?c4)
            | go_in)
          case c1 => rfl
          case c2 => have := Hfl.out; omega
          case c3 => have := Hfl.out; unfold maxLen; omega
          case c4 =>
          intro g' cap' w' hown' hc'
          have Hown3 : Hid (w'.ownsRow 0 9 1 (.slice (some ⟨g', 0, none⟩) (L.length + 1) cap') (L ++ [s]).length ((L ++ [s]).map strV)) := by
            rw [List.length_append, List.length_singleton, List.map_append]
            exact hown'
          have Hc := Lib.hid hc'
          clear hown' hc'
          go_wp2
          go_roundw
          case rel =>
            refine ⟨k + 1, by omega, by go_num, by rw [Hnx.out]; exact Hown3.out, fun x hx => (Hc.out.fresh x hx).elim (Hfr.out x) (fun h => Nat.le_trans Hkk.out.size h), Hkk.out.trans Hc.out.keeps (fun x hx => .inr (Hfr.out x hx))⟩
          case measure => simp [intOf]; omega
        · have hp2 : t.isPrefixOf s = false := Bool.eq_false_iff.2 hp
          rw [hp2] at Hpr
          rw [if_neg hp, List.append_nil] at Hnx
          clear hp hp2
          go_wp2_with (go_at_call 41; (with_reducible refine (Hpr.out).mono ?_); rintro e w3 ⟨rfl, rfl⟩)
          go_roundw
          case rel => exact ⟨k + 1, by omega, by go_num, by rw [Hnx.out]; exact Hrow.out, Hfr.out, Hkk.out⟩
          case measure => simp [intOf]; omega
      · obtain rfl : k = K.length := by omega
        rw [List.take_length] at hrow
        obtain ⟨oad, ocap, rfl⟩ := ownsRow_shape hrow
        have Hrow := Lib.hid hrow
        have Hfr := Lib.hid hfr
        have Hkk := Lib.hid hkk
        clear hrow hfr hkk
        go_wp2
        go_ret2
        exact ⟨_, rfl, Hrow.out, fun x hx => Nat.le_trans hw2s (Hfr.out x hx), H2.out.newer Hkk.out, ⟨Hch.out.keeps.trans Hkk.out (by simp), fun k hk => .inl hk⟩⟩
  · have hl : b.list t = ([], 34) := by unfold Bk.list; rw [if_neg hf]
    have hd : decide (b.fate ≠ 0) = true := by simp [hf]
    rw [hl]
    rw [hd] at Hfa
    clear hl hd hf hok
    go_enter Tryd.func23, Tryd.ntmps23
    go_wp2_with (go_at_call 40; (with_reducible refine (Hfa.out).mono ?_); rintro e w1 ⟨rfl, h1, q1⟩)
    go_ret2
    exact ⟨_, rfl, World.ownsRow_nil _ _ _ _, by simp [Value.ownBlock], h1, q1⟩
end Go.Proofs.YtflgagglkkehiaaDoor
