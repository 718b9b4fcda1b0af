/- Layer 6: slices.Sort and slices.Compact on a slice that the call owns; Sift. -/
import Derived.Test.YtdjhlnkkbpmfmaaDoorNamN
import Derived.Test.YtdjhlnkkbpmfmaaDoorNamS
import Derived.Test.YtdjhlnkkbpmfmaaDoorNamT
import Derived.Test.YtdjhlnkkbpmfmaaDoorNamLD
import Derived.Test.YtdjhlnkkbpmfmaaDoorArr
import Derived.Lib.RowBridge
import Derived.Sort.Grow
namespace Go.Proofs.YtdjhlnkkbpmfmaaDoor
open Go.RowKit Go.Sort

theorem keeps_mapBlock {w w0 : World} {b : Nat} (f : Array Value → Array Value) (h : Keeps [b] w0 w) : Keeps [b] w0 (mapBlock w b f) := by
  refine ⟨h.os, h.tape, h.output, by simpa [mapBlock] using h.size, fun k hk hn => ?_⟩
  rw [← h.block k hk hn]
  have hkb : ¬ b = k := fun e => hn (by simp [e])
  simp [mapBlock, Array.getElem?_modify, hkb]
theorem keeps_grow {w w0 : World} {F : List Nat} (os : Array Obj) (h : Keeps F w0 w) : Keeps F w0 (grow w os) := by
  refine ⟨h.os, h.tape, h.output, by simp [grow]; have := h.size; omega, fun k hk hn => ?_⟩
  rw [heap_grow_old w os (Nat.lt_of_lt_of_le hk h.size)]
  exact h.block k hk hn
theorem keeps_ahead {w w0 : World} {F : List Nat} (n : Nat) (h : Keeps F w0 w) : Keeps F w0 (Sort.ahead w n) := ⟨h.os, h.tape, h.output, h.size, h.block⟩

theorem own_holds {w : World} {g n cap : Nat} {zs : List Int} (h : w.ownsRow 0 3 1 (.slice (some ⟨g, 0, none⟩) n cap) n (zs.map intV)) : Holds (Value.int .i64) w g 0 zs.toArray ∧ g < w.heap.size ∧ zs.length = n ∧ n ≤ cap := by
  obtain ⟨hl, h2⟩ := h
  rw [Nat.mul_one, List.length_map] at hl
  rcases h2 with ⟨e, _⟩ | ⟨g', cap', cur, e, _, hh, hnc, _, hsz, ht⟩
  · cases e
  · cases e
    refine ⟨fun j hj => ?_, (Array.getElem?_eq_some_iff.1 hh).1, hl, hnc⟩
    have hjl : j < zs.length := by simpa using hj
    refine ⟨?_, free_of_heap hh _⟩
    rw [Nat.zero_add, cell_of_heap hh]
    have e1 : (cur.toList.take (n * 1))[j]? = some (intV zs[j]) := by rw [ht, List.getElem?_map, List.getElem?_eq_getElem hjl]; rfl
    rw [Nat.mul_one, List.getElem?_take_of_lt (by omega)] at e1
    have e2 : cur[j]? = some (intV zs[j]) := by simpa using e1
    rw [e2]
    simp [intV, hjl]

theorem put_get {cs : Array Value} {vs : List Value} {j : Nat} {u : Value} (h : vs.length ≤ cs.size) (hj : vs[j]? = some u) : (put cs 0 vs)[j]? = some u := by
  have hp := put_toList vs cs 0 (by omega)
  have e : (put cs 0 vs)[j]? = (put cs 0 vs).toList[j]? := by simp
  rw [e, hp, List.take_zero, List.nil_append, List.getElem?_append_left (List.getElem?_eq_some_iff.1 hj).1]
  exact hj

/-- Sorted, then compacted. -/
theorem sorted_any (zs : List Int) (g n cap : Nat) (w : World) (hz : 0 < zs.length) (hl : zs.length ≤ 1000) (h : w.ownsRow 0 3 1 (.slice (some ⟨g, 0, none⟩) n cap) n (zs.map intV)) :
    Calls Tryd.prog 32 #[.slice (some ⟨g, 0, none⟩) n cap] w fun e w1 => e = .returned (.tuple #[]) ∧ Keeps [g] w w1 ∧ (∀ w2, Keeps [] w1 w2 → Calls Tryd.prog 33 #[.slice (some ⟨g, 0, none⟩) n cap] w2 fun e w3 =>
      ∃ m, e = .returned (.slice (some ⟨g, 0, none⟩) m cap) ∧ Keeps [g] w2 w3 ∧ SlAt w3 (.slice (some ⟨g, 0, none⟩) m cap) ((Lib.compact (zs.mergeSort fun x y => decide (x ≤ y))).map intV) [g]) := by
  obtain ⟨hH, hg, hn, hcap⟩ := own_holds h
  subst hn
  refine (Tryd.slices_Sort_int g 0 cap zs w hH hg (by omega)).mono ?_
  rintro e w1 ⟨rfl, q, os, rfl⟩
  obtain ⟨ys, hys⟩ : ∃ ys, (zs.mergeSort fun x y => decide (x ≤ y)) = ys := ⟨_, rfl⟩
  rw [hys]
  have hyl : ys.length = zs.length := by rw [← hys, List.length_mergeSort]
  have hk1 : Keeps [g] w (grow (putRow (Value.int .i64) (Sort.ahead w q) g 0 ys.toArray) os) := keeps_grow os (keeps_mapBlock _ (keeps_ahead q (Keeps.refl [g] w)))
  have hH1 : Holds (Value.int .i64) (grow (putRow (Value.int .i64) (Sort.ahead w q) g 0 ys.toArray) os) g 0 ys.toArray :=
    holds_grow _ _ _ _ _ _ (by simpa using hg) (holds_putRow _ _ _ _ _ _ (holds_ahead _ _ _ _ _ _ hH) (by simp [hyl]))
  refine ⟨rfl, hk1, fun w2 k2 => ?_⟩
  generalize grow (putRow (Value.int .i64) (Sort.ahead w q) g 0 ys.toArray) os = w1 at *
  have hg1 : g < w1.heap.size := Nat.lt_of_lt_of_le hg hk1.size
  have hc2 : ∀ j, j < ys.length → w2.cell? ⟨g, 0 + j, none⟩ = some (.int .i64 (ys.getD j 0)) := fun j hj => by
    have h1 := (hH1 j (by simpa using hj)).1
    rw [k2.cell0 h1]
    simp [List.getD, hj]
  have hf2 : ∀ j, j < zs.length → w2.frozen? ⟨g, 0 + j, none⟩ = false := fun j hj => by
    have h1 := (hH1 j (by simp [hyl]; omega)).2
    have h2 := k2.block g hg1 (by simp)
    simp only [World.frozen?, h2] at h1 ⊢
    exact h1
  have hC := Tryd.slices_Compact_int_cells g 0 zs.length cap ys w2 (by omega) (by omega) hcap hc2 hf2
  rw [List.take_of_length_le (by omega)] at hC
  refine hC.mono ?_
  rintro e w3 ⟨rfl, q2, rfl⟩
  have hcl := Lib.compact_length_le ys
  refine ⟨_, rfl, ?_, ?_⟩
  · have h1 := keeps_setCells (b := g) ((Lib.compact ys ++ List.replicate (zs.length - (Lib.compact ys).length) 0).map (Value.int .i64)) 0 (w2.drewN q2)
    exact h1.ofDrewN
  · have hfirst := hc2 0 (by omega)
    obtain ⟨cs, t, fr, hh, _⟩ := cells_of_cell? hfirst
    have hcs : ∀ j, j < ys.length → j < cs.size := fun j hj => by
      have h1 := hc2 j hj
      have h2 : w2.cell? ⟨g, 0 + j, none⟩ = cs[0 + j]? := cell_of_heap hh _
      rw [h2, Nat.zero_add] at h1
      exact (Array.getElem?_eq_some_iff.1 h1).1
    have hsz : zs.length ≤ cs.size := by
      have := hcs (ys.length - 1) (by omega)
      omega
    have hh2 := heap_setCells ((Lib.compact ys ++ List.replicate (zs.length - (Lib.compact ys).length) 0).map (Value.int .i64)) 0 (w2.drewN q2) cs hh
    refine ⟨_, cap, by rw [List.length_map], fun _ => ⟨g, 0, rfl, by simp, fun j u hj => ?_⟩⟩
    rw [cell_of_heap hh2, Nat.zero_add]
    refine put_get (by simp; omega) ?_
    have hj' : ((Lib.compact ys).map (Value.int .i64))[j]? = some u := hj
    rw [List.map_append, List.getElem?_append_left (List.getElem?_eq_some_iff.1 hj').1]
    exact hj'

theorem of_some {s u : List UInt8} {k : Int} (h : 0 ≤ ofI s u k) : 14 ≤ s.length ∧ volOk u = true ∧ 1 ≤ k ∧ k ≤ 4 ∧ s.take u.length = u ∧ s.length = u.length + 13 := by
  unfold ofI at h
  split at h
  · omega
  · rename_i h1
    simp only [not_or, Classical.not_not] at h1
    obtain ⟨h2, h3, h4⟩ := h1
    obtain ⟨a1, a2, a3, a4⟩ := preOf_ok h2
    have hv := (volOk_le a1).1
    rw [a4] at h3 h4
    have e : (u ++ [47, letterOf k, 47]).length = u.length + 3 := by simp
    rw [e] at h3 h4
    refine ⟨by omega, a1, a2, a3, ?_, by omega⟩
    have h5 := congrArg (List.take u.length) h4
    rw [List.take_take, Nat.min_eq_left (by omega), List.take_left] at h5
    exact h5

/-- What Parse answers of a text, and the answer's Of at a volume and a kind. -/
inductive Sel (S : ByteArray) (u : List UInt8) (k : Int) : Prop where
  | none (Np : Hid (∀ w' : World, Calls Tryd.prog 19 #[.string S] w' fun e w2 => e = .returned (.tuple #[.agg #[.string (str []), .int .i64 0, .int .i64 0], .int .i64 12]) ∧ Keeps [] w' w2)) (h : ofI S.data.toList u k < 0)
  | some (v : List UInt8) (j : Int) (m : Nat) (Np : Hid (∀ w' : World, Calls Tryd.prog 19 #[.string S] w' fun e w2 => e = .returned (.tuple #[.agg #[.string (str v), .int .i64 j, .int .i64 m], .int .i64 0]) ∧ Keeps [] w' w2)) (h : (v = u ∧ j = k → ofI S.data.toList u k = m) ∧ (¬ (v = u ∧ j = k) → ofI S.data.toList u k < 0))
theorem sel_any (s : ByteArray) (u : List UInt8) (k : Int) (hs : s.size ≤ 100) : Sel s u k := by
  by_cases h13 : s.size ≤ 13
  · refine .none (fun w' => nparse_short s w' h13) ?_
    by_cases h : 0 ≤ ofI s.data.toList u k
    · have := (of_some h).1
      rw [dlen] at this
      omega
    · omega
  obtain ⟨v, c1, c2, c3, d, he, hv, hd⟩ := lawNamesParses.parts (l := s.data.toList) (by rw [dlen]; omega)
  rw [dlen] at hv
  have Np := fun w' => nparse_any v d c1 c2 c3 w' (by omega) (by omega) hd
  rw [← he, str_self] at Np
  have hvu : 0 ≤ ofI s.data.toList u k → v = u ∧ 1 ≤ k ∧ k ≤ 4 := fun h => by
    obtain ⟨_, _, h1, h2, h3, h4⟩ := of_some h
    rw [dlen] at h4
    have : v.length = u.length := by omega
    rw [he, ← this, List.take_left] at h3
    exact ⟨h3, h1, h2⟩
  cases hP : parseP v c1 c2 c3 d with
  | none =>
    rw [hP] at Np
    refine .none Np ?_
    by_cases h : 0 ≤ ofI s.data.toList u k
    · obtain ⟨rfl, h1, h2⟩ := hvu h
      rw [he, ofI_parts v d c1 c2 c3 hd h1 h2, hP] at h
      simp at h
    · omega
  | some kn =>
    obtain ⟨j, m⟩ := kn
    rw [hP] at Np
    refine .some v j m Np ⟨?_, ?_⟩
    · rintro ⟨rfl, rfl⟩
      have hjr : 1 ≤ j ∧ j ≤ 4 := by
        unfold parseP at hP
        split at hP
        · rename_i h2
          cases hn : numGo 0 d with
          | none => rw [hn] at hP; simp at hP
          | some m2 =>
            rw [hn] at hP
            simp at hP
            exact ⟨by omega, by have := (kidx_letter h2.2.2.2).2; omega⟩
        · simp at hP
      rw [he, ofI_parts v d c1 c2 c3 hd hjr.1 hjr.2, hP]
      simp
    · intro hne
      by_cases h : 0 ≤ ofI s.data.toList u k
      · obtain ⟨rfl, h1, h2⟩ := hvu h
        rw [he, ofI_parts v d c1 c2 c3 hd h1 h2, hP] at h
        dsimp only at h
        rw [if_neg (fun e => hne ⟨rfl, e.symm⟩)] at h
        omega
      · omega

/-- The numbers of a volume's texts of a kind. -/
def selL (l : List ByteArray) (u : List UInt8) (k : Int) : List Int := l.filterMap fun s => if 0 ≤ ofI s.data.toList u k then some (ofI s.data.toList u k) else none
theorem selL_snoc (l : List ByteArray) (s : ByteArray) (u : List UInt8) (k : Int) : selL (l ++ [s]) u k = selL l u k ++ (if 0 ≤ ofI s.data.toList u k then [ofI s.data.toList u k] else []) := by
  unfold selL
  rw [List.filterMap_append]
  congr 1
  by_cases h : 0 ≤ ofI s.data.toList u k <;> simp [h]
theorem selL_le (l : List ByteArray) (u : List UInt8) (k : Int) : (selL l u k).length ≤ l.length := List.length_filterMap_le _ _

set_option maxHeartbeats 8000000 in
set_option maxRecDepth 100000 in
theorem sift_any (l : List ByteArray) (v : Value) (G : List Nat) (u : List UInt8) (k : Int) (w : World) (hv : SlAt w v (l.map Value.string) G) (hl : l.length ≤ 1000) (hs : ∀ s, s ∈ l → s.size ≤ 100) :
    Calls Tryd.prog 22 #[v, .string (str u), .int .i64 k] w fun e w' => ∃ (v' : Value) (F : List Nat), e = .returned v' ∧ SlAt w' v' ((Lib.compact ((selL l u k).mergeSort fun x y => decide (x ≤ y))).map intV) F ∧ (∀ x, x ∈ F → w.heap.size ≤ x) ∧ Keeps [] w w' := by
  have Hv := Lib.hid hv
  obtain ⟨ad, cap, rfl, _⟩ := hv
  have Hs := Lib.hid hs
  rw [List.length_map]
  have hli : (l.length : Int) ≤ 1000 := by omega
  have Hl := Lib.hid hl
  have CA : Hid (∀ (a b c : Value) (w : World) (g : Nat), g = w.heap.size → (w.alloc (.cells #[a, b, c] 23)).cell? ⟨g, 0, none⟩ = some a ∧ (w.alloc (.cells #[a, b, c] 23)).cell? ⟨g, 1, none⟩ = some b ∧ (w.alloc (.cells #[a, b, c] 23)).cell? ⟨g, 2, none⟩ = some c) :=
    fun a b c w g h => ⟨cell_of_heap (heap_at h) 0, cell_of_heap (heap_at h) 1, cell_of_heap (heap_at h) 2⟩
  have KA : Hid (∀ (w0 w1 : World) (o : Obj), Keeps [] w0 w1 → Keeps [] w0 (w1.alloc o)) := fun w0 w1 o h => h.alloc o
  clear hs hl
  go_enter Tryd.func22, Tryd.ntmps22
  go_wp2_with fail
  go_loopw [7, 14] (fun ov iv wr => ∃ (i n : Nat), i ≤ l.length ∧ iv = .int .i64 i ∧ Hid (n = (selL (l.take i) u k).length) ∧ Hid (wr.ownsRow 0 3 1 ov n ((selL (l.take i) u k).map intV)) ∧ Hid (∀ x, x ∈ ov.ownBlock.toList → w.heap.size ≤ x) ∧ Keeps [] w wr) (fun _ iv _ => l.length - (intOf iv).toNat)
  case atStart => exact ⟨0, 0, Nat.zero_le _, rfl, rfl, World.ownsRow_nil _ _ _ _, by simp [Hid, Value.ownBlock], Keeps.refl [] _⟩
  case round =>
    obtain ⟨i, n, hi, rfl, Hn, Hrow, Hfr, hkk⟩ := hrel
    obtain ⟨ad2, cap2, rfl⟩ := ownsRow_shape Hrow.out
    by_cases hlt : i < l.length
    · have hki : (i : Int) < (l.length : Int) := by omega
      have hki0 : (0 : Int) ≤ (i : Int) := by omega
      obtain ⟨s, hsx⟩ : ∃ s, l[i]? = some s := ⟨l[i], by simp [hlt]⟩
      obtain ⟨ad', cap', e1, hc⟩ := Hv.out
      obtain ⟨b, off, rfl, _, hcell⟩ := hc (by intro h0; rw [List.map_eq_nil_iff] at h0; rw [h0] at hlt; simp at hlt)
      obtain rfl : ad = some ⟨b, off, none⟩ := by injection e1
      have c0 := hkk.cell0 (hcell i (.string s) (by rw [List.getElem?_map, hsx]; rfl))
      have hst : l.take (i + 1) = l.take i ++ [s] := by rw [List.take_add_one, hsx]; rfl
      have hsl := selL_snoc (l.take i) s u k
      rw [← hst] at hsl
      have Sl := sel_any s u k (Hs.out s (List.mem_of_getElem? hsx))
      have hnl : n ≤ 1000 := by
        have h1 := selL_le (l.take i) u k
        have h2 := Hl.out
        have h3 := Hn.out
        rw [List.length_take] at h1
        omega
      have Hkk := Lib.hid hkk
      clear hkk hcell hc e1 hsx hst
      have skip : ofI s.data.toList u k < 0 → Hid (selL (l.take (i + 1)) u k = selL (l.take i) u k) := fun h => by
        rw [if_neg (by omega), List.append_nil] at hsl
        exact hsl
      have take : ∀ m : Nat, ofI s.data.toList u k = (m : Int) → Hid (selL (l.take (i + 1)) u k = selL (l.take i) u k ++ [(m : Int)]) := fun m h => by
        rw [if_pos (by omega), h] at hsl
        exact hsl
      cases Sl with
      | none Np h =>
        have HZ := skip h
        clear skip take hsl h
        go_wp2_with (go_at_call 19; (with_reducible refine (Np.out _).mono ?_); rintro e w1 ⟨rfl, k1⟩; have K1 := KA.out _ _ (.cells #[.string (str []), .int .i64 0, .int .i64 0] 23) k1)
        go_roundw
        case rel =>
          have hz := HZ.out
          refine ⟨i + 1, n, by omega, by first | rfl | go_num, by rw [hz]; exact Hn.out, ?_, Hfr.out, KT Hkk.out K1⟩
          rw [hz]
          exact own_keep Hrow.out K1 (by simp)
        case measure => simp [intOf]; omega
      | some v j m Np h =>
        by_cases hvk : v = u ∧ j = k
        · have HZ := take m (h.1 hvk)
          obtain ⟨rfl, rfl⟩ := hvk
          have hr := Lib.hid (fun (w2 : World) (k2 : Keeps [] wr w2) => own_keep Hrow.out k2 (by simp))
          clear skip take hsl h
          go_upto_region 7 with (go_at_call 19; (with_reducible refine (Np.out _).mono ?_); rintro e w1 ⟨rfl, k1⟩; have K1 := KA.out _ _ (.cells #[.string (str v), .int .i64 j, .int .i64 m] 23) k1; obtain ⟨f0, f1, f2⟩ := CA.out (.string (str v)) (.int .i64 j) (.int .i64 m) w1 _ rfl)
          have Hr1 := Lib.hid (hr.out _ K1)
          clear hr
          generalize w1.alloc (.cells #[.string (str v), .int .i64 j, .int .i64 m] 23) = wp at *
          go_wp2_with (at_builtin; refine wpList_app1 tyInts rfl (.tmp 37) (.tmp 40) rfl _ _ _ rfl rfl Hr1.out rfl ?c1 ?c2 ?c3 ?c4)
          case c1 => rfl
          case c2 => omega
          case c3 => unfold maxLen; omega
          case c4 =>
          intro g' cap3 w' hown' hc'
          have Hown := Lib.hid hown'
          have Hc := Lib.hid hc'
          clear hown' hc' f0 f1 f2
          go_wp2_with fail
          go_roundw
          case rel =>
            have hz := HZ.out
            refine ⟨i + 1, n + 1, by omega, by first | rfl | go_num, ?_, ?_, fun x hx => (Hc.out.fresh x hx).elim (Hfr.out x) (fun h => Nat.le_trans (Nat.le_trans Hkk.out.size K1.size) h), (KT Hkk.out K1).trans Hc.out.keeps (fun x hx => .inr (Hfr.out x hx))⟩
            · rw [hz, List.length_append, ← Hn.out]; rfl
            · rw [hz, List.map_append]
              exact Hown.out
          case measure => simp [intOf]; omega
        · have HZ := skip (h.2 hvk)
          have hw : (v == u) = false ∨ ((v == u) = true ∧ (j == k) = false) := by
            by_cases h1 : v = u
            · right
              exact ⟨by rw [h1]; exact beq_self_eq_true u, by rw [beq_eq_false_iff_ne]; exact fun h2 => hvk ⟨h1, h2⟩⟩
            · left
              rw [beq_eq_false_iff_ne]
              exact h1
          clear skip take hsl h hvk
          rcases hw with hw | ⟨hw, hjk⟩
          all_goals
            go_wp2_with (go_at_call 19; (with_reducible refine (Np.out _).mono ?_); rintro e w1 ⟨rfl, k1⟩; have K1 := KA.out _ _ (.cells #[.string (str v), .int .i64 j, .int .i64 m] 23) k1; obtain ⟨f0, f1, f2⟩ := CA.out (.string (str v)) (.int .i64 j) (.int .i64 m) w1 _ rfl)
            go_roundw
            case rel =>
              have hz := HZ.out
              refine ⟨i + 1, n, by omega, by first | rfl | go_num, by rw [hz]; exact Hn.out, ?_, Hfr.out, KT Hkk.out K1⟩
              rw [hz]
              exact own_keep Hrow.out K1 (by simp)
            case measure => simp [intOf]; omega
    · obtain rfl : i = l.length := by omega
      have hn := Hn.out
      have hrow := Hrow.out
      rw [List.take_length] at hn hrow
      have hzl : (selL l u k).length ≤ 1000 := Nat.le_trans (selL_le l u k) Hl.out
      have Hkk := Lib.hid hkk
      clear hkk
      by_cases h0 : n = 0
      · subst h0
        have hz : selL l u k = [] := List.length_eq_zero_iff.1 hn.symm
        have hcm : Lib.compact ((selL l u k).mergeSort fun x y => decide (x ≤ y)) = [] := by rw [hz]; simp [Lib.compact, Lib.compactUpTo]
        have Hcm := Lib.hid hcm
        have So := Lib.hid (fun w => Tryd.slices_Sort_int_none ad2 cap2 w)
        have Co := Lib.hid (fun w => Tryd.slices_Compact_int_empty ad2 cap2 w)
        clear hrow hn hz hcm hzl
        go_wp2_with (first
          | (go_at_call 32; (with_reducible refine (So.out _).mono ?_); rintro e w1 ⟨rfl, rfl⟩)
          | (go_at_call 33; (with_reducible refine (Co.out _).mono ?_); rintro e w2 ⟨rfl, rfl⟩))
        go_ret
        exact ⟨_, [], rfl, by rw [Hcm.out]; exact ⟨ad2, cap2, rfl, fun h => absurd rfl h⟩, by simp, Hkk.out⟩
      · obtain ⟨g, rfl⟩ : ∃ g, ad2 = some ⟨g, 0, none⟩ := by
          rcases hrow.2 with ⟨_, e⟩ | ⟨g, cap3, cur, e, _⟩
          · exact absurd e h0
          · injection e with e; exact ⟨g, e⟩
        have So := Lib.hid (sorted_any (selL l u k) g n cap2 wr (by omega) hzl hrow)
        have hgf : w.heap.size ≤ g := Hfr.out g (by simp [Value.ownBlock])
        have Hgf := Lib.hid hgf
        clear hrow hn hzl h0 hgf
        go_wp2_with (first
          | (go_at_call 32; (with_reducible refine So.out.mono ?_); rintro e w1 ⟨rfl, k1, hco⟩; have Hco := Lib.hid hco; clear hco)
          | (go_at_call 33; (with_reducible refine (Hco.out _ (Keeps.refl [] _)).mono ?_); rintro e w2 ⟨m, rfl, k2, h2⟩))
        go_ret
        exact ⟨_, [g], rfl, h2, fun x hx => by rw [List.mem_singleton] at hx; rw [hx]; exact Hgf.out, (Hkk.out.trans k1 (fun x hx => .inr (by rw [List.mem_singleton] at hx; rw [hx]; exact Hgf.out))).trans k2 (fun x hx => .inr (by rw [List.mem_singleton] at hx; rw [hx]; exact Hgf.out))⟩
end Go.Proofs.YtdjhlnkkbpmfmaaDoor
