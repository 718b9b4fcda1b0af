/- Layer 5, the document's answer: List. -/
import Derived.Test.YtflgagglkkehiaaDoorBkZ
namespace Go.Proofs.YtflgagglkkehiaaDoor
open Go.RowKit Go.Maps

section
set_option maxHeartbeats 8000000
set_option maxRecDepth 100000

theorem rlist_any (p : Nat) (b : Bk) (F : List Nat) (w : World) (hb : RfAt w p b F) (N : Nat) (hok : b.ok N) (hN : N ≤ 1000000) (t : Bs) (_ht : t.length ≤ maxLen) :
    Calls Tryd.prog 45 #[.pointer (some ⟨p, 0, none⟩), .string (str t)] w fun e w' => ∃ v, e = .returned (.tuple #[v, .int .i64 (b.list t).2]) ∧ w'.ownsRow 0 9 1 v (b.list t).1.length ((b.list t).1.map strV) ∧ (∀ x, x ∈ v.ownBlock.toList → w.heap.size ≤ x) ∧ RfAt w' p b.tick F ∧ Chg F F w w' := by
  have Nx := Lib.hid (rnext_any p b F w hb hok.f64)
  by_cases hf : b.fate = 0
  · have hl : b.list t = ((keysO b.m).filter (fun s => t.isPrefixOf s), 0) := by unfold Bk.list; rw [if_pos hf]
    rw [hl]
    rw [hf] at Nx
    have hml : b.m.length ≤ 1000000 := by have := hok.few; omega
    have hsz : ∀ w', RfAt w' p b.tick F → ∃ ad cap, w'.cell? ⟨p, 0, none⟩ = some (.slice ad b.m.length cap) ∧ (∀ j x, b.m[j]? = some x → ∃ g off, ad = some ⟨g, off, none⟩ ∧ w'.cell? ⟨g, off + j * 2, none⟩ = some (.string (str x.1))) := fun w' ⟨ov, fv, lv, Go', Gf, Gl, h⟩ => by
      obtain ⟨ad, cap, rfl, hle, _, hao⟩ := h.obj.shape
      refine ⟨ad, cap, cell_of_heap h.cells 0, fun j x hx => ?_⟩
      have hlx := (List.getElem?_eq_some_iff.1 hx).1
      have hle' : b.m.length ≤ cap := hle
      obtain ⟨g, off, rfl⟩ := hao (by omega)
      have := h.obj.cell (by omega) _ _ (objV_at b.tick.m j x hx 0 _ rfl)
      rw [Nat.add_zero] at this
      exact ⟨g, off, rfl, this⟩
    have Hsz := Lib.hid hsz
    have hkf : ∀ j, (keysO b.m).take j = keysO (b.m.take j) := fun j => by unfold keysO; rw [List.map_take]
    have Hkf := Lib.hid hkf
    have hK6 : b.m.length ≤ 1000000 := hml
    clear hl hf hok hb hsz hkf
    go_enter Tryd.func45, Tryd.ntmps45
    go_wp2_with (go_at_call 60; (with_reducible refine (Nx.out).mono ?_); rintro e w2 ⟨rfl, h1, h2⟩)
    have H1 := Lib.hid h1
    have H2 := Lib.hid h2
    clear h1 h2
    go_loopw [7, 6] (fun iv ov wr => ∃ j : Nat, j ≤ b.m.length ∧ iv = .int .i64 j ∧ wr.ownsRow 0 9 1 ov ((keysO (b.m.take j)).filter (fun s => t.isPrefixOf s)).length (((keysO (b.m.take j)).filter (fun s => t.isPrefixOf s)).map strV) ∧ (∀ x, x ∈ ov.ownBlock.toList → w2.heap.size ≤ x) ∧ Keeps [] w2 wr) (fun iv _ _ => b.m.length - (intOf iv).toNat)
    case atStart => exact ⟨0, Nat.zero_le _, rfl, World.ownsRow_nil _ _ _ _, by simp [Value.ownBlock], Keeps.refl [] _⟩
    case round =>
      obtain ⟨j, hj, rfl, hrow, hfr, hkk⟩ := hrel
      obtain ⟨ad, cap, c0, hobj⟩ := Hsz.out _ (H1.out.newer hkk)
      by_cases hlt : j < b.m.length
      · obtain ⟨x, hx⟩ : ∃ x, b.m[j]? = some x := ⟨b.m[j], by simp [hlt]⟩
        obtain ⟨g, off, rfl, hcx⟩ := hobj j x hx
        have hst : keysO (b.m.take (j + 1)) = keysO (b.m.take j) ++ [x.1] := by rw [List.take_add_one, hx]; unfold keysO; simp
        have hji : (j : Int) < (b.m.length : Int) := by omega
        have hji0 : (0 : Int) ≤ (j : Int) := by omega
        have hfl : ((keysO (b.m.take j)).filter (fun s => t.isPrefixOf s)).length ≤ 1000000 := Nat.le_trans (List.length_filter_le _ _) (by unfold keysO; rw [List.length_map, List.length_take]; omega)
        have hnx : (keysO (b.m.take (j + 1))).filter (fun s => t.isPrefixOf s) = (keysO (b.m.take j)).filter (fun s => t.isPrefixOf s) ++ (if t.isPrefixOf x.1 then [x.1] else []) := by
          rw [hst, List.filter_append]
          congr 1
          by_cases hp : t.isPrefixOf x.1 = true <;> simp [hp]
        obtain ⟨oad, ocap, rfl⟩ := ownsRow_shape hrow
        generalize (keysO (b.m.take j)).filter (fun s => t.isPrefixOf s) = Lx at *
        generalize x.1 = s at *
        have Hrow := Lib.hid hrow
        have Hfr := Lib.hid hfr
        have Hkk := Lib.hid hkk
        have Hfl := Lib.hid hfl
        have Hnx := Lib.hid hnx
        clear hrow hfr hkk hfl hnx hst hx hobj
        rcases (show s.length < t.length ∨ (t.length ≤ s.length ∧ s.take t.length = t) ∨ (t.length ≤ s.length ∧ ¬ s.take t.length = t) by by_cases h : s.take t.length = t <;> simp [h] <;> omega) with hq | ⟨hq, hq2⟩ | ⟨hq, hq2⟩
        · have hge : decide ((t.length : Int) ≤ (s.length : Int)) = false := decide_eq_false (by omega)
          have hge2 : decide (t.length ≤ s.length) = false := decide_eq_false (by omega)
          have hp : t.isPrefixOf s = false := Bool.eq_false_iff.2 (fun h => by have := (List.isPrefixOf_iff_prefix.1 h).length_le; omega)
          rw [hp, if_neg (by simp), List.append_nil] at Hnx
          clear hp
          go_wp2
          go_roundw
          case rel => exact ⟨j + 1, by omega, by go_num, by rw [Hnx.out]; exact Hrow.out, Hfr.out, Hkk.out⟩
          case measure => simp [intOf]; omega
        · have hge : decide ((t.length : Int) ≤ (s.length : Int)) = true := decide_eq_true (by omega)
          have hge2 : decide (t.length ≤ s.length) = true := decide_eq_true (by omega)
          have hp : t.isPrefixOf s = true := List.isPrefixOf_iff_prefix.2 (List.prefix_iff_eq_take.2 hq2.symm)
          have hex : (str s).extract 0 t.length = str t := by rw [str_extract, str_data, List.drop_zero, Nat.sub_zero, hq2]
          rw [hp, if_pos rfl] at Hnx
          clear hp hq2
          go_wp2_with (first
            | (at_builtin; refine wpList_app1 tyStrs rfl (.tmp 42) (.tmp 44) rfl _ _ _ rfl rfl Hrow.out rfl ?c1 ?c2 ?c3 ?c4)
            | go_in)
          case c1 => rfl
          case c2 => have := Hfl.out; omega
          case c3 => have := Hfl.out; unfold maxLen; omega
          case c4 =>
          intro g' cap' w' hown' hc'
          have Hown3 : Hid (w'.ownsRow 0 9 1 (.slice (some ⟨g', 0, none⟩) (Lx.length + 1) cap') (Lx ++ [s]).length ((Lx ++ [s]).map strV)) := by
            rw [List.length_append, List.length_singleton, List.map_append]
            exact hown'
          have hk' : Keeps [] w2 w' := Hkk.out.trans hc'.keeps (fun x hx => .inr (Hfr.out x hx))
          have Hfr' : Hid (∀ x, x ∈ (Value.slice (some ⟨g', 0, none⟩) (Lx.length + 1) cap').ownBlock.toList → w2.heap.size ≤ x) := fun x hx => (hc'.fresh x hx).elim (Hfr.out x) (fun h => Nat.le_trans Hkk.out.size h)
          have Hk' := Lib.hid hk'
          clear hown' hc' hk'
          go_wp2
          go_roundw
          case rel => exact ⟨j + 1, by omega, by go_num, by rw [Hnx.out]; exact Hown3.out, Hfr'.out, Hk'.out⟩
          case measure => simp [intOf]; omega
        · have hge : decide ((t.length : Int) ≤ (s.length : Int)) = true := decide_eq_true (by omega)
          have hge2 : decide (t.length ≤ s.length) = true := decide_eq_true (by omega)
          have hp : t.isPrefixOf s = false := Bool.eq_false_iff.2 (fun h => hq2 (List.prefix_iff_eq_take.1 (List.isPrefixOf_iff_prefix.1 h)).symm)
          have hex : (str s).extract 0 t.length = str (s.take t.length) := by rw [str_extract, str_data, List.drop_zero, Nat.sub_zero]
          have hne : (s.take t.length == t) = false := beq_eq_false_iff_ne.2 hq2
          rw [hp, if_neg (by simp), List.append_nil] at Hnx
          clear hp
          go_wp2
          go_roundw
          case rel => exact ⟨j + 1, by omega, by go_num, by rw [Hnx.out]; exact Hrow.out, Hfr.out, Hkk.out⟩
          case measure => simp [intOf]; omega
      · obtain rfl : j = b.m.length := by omega
        rw [List.take_length] at hrow
        obtain ⟨oad, ocap, rfl⟩ := ownsRow_shape hrow
        have Hrow := Lib.hid hrow
        have Hfr := Lib.hid hfr
        have Hkk := Lib.hid hkk
        clear hrow hfr hkk hobj
        go_wp2
        go_ret2
        exact ⟨_, rfl, Hrow.out, fun x hx => Nat.le_trans H2.out.keeps.size (Hfr.out x hx), H1.out.newer Hkk.out, ⟨H2.out.keeps.trans Hkk.out (by simp), fun k hk => .inl hk⟩⟩
  · have hl : b.list t = ([], 34) := by unfold Bk.list; rw [if_neg hf]
    rw [hl]
    have hne : (b.fate != 0) = true := bne_iff_ne.2 hf
    generalize b.fate = f at *
    clear hl hf hok
    go_enter Tryd.func45, Tryd.ntmps45
    go_wp2_with (go_at_call 60; (with_reducible refine (Nx.out).mono ?_); rintro e w2 ⟨rfl, h1, h2⟩)
    go_ret2
    exact ⟨_, rfl, World.ownsRow_nil _ _ _ _, by simp [Value.ownBlock], h1, h2⟩
end
end Go.Proofs.YtflgagglkkehiaaDoor
