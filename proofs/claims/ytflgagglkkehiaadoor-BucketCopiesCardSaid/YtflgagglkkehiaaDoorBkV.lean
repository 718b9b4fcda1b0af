/- Layer 5, the document's answer: call, Put, Delete, Size, Get. -/
import Derived.Test.YtflgagglkkehiaaDoorBkU
import Derived.Test.YtflgagglkkehiaaDoorBkS
namespace Go.Proofs.YtflgagglkkehiaaDoor
open Go.RowKit Go.Maps

/-- A call as a struct. -/
def rcA (c : Cl) : Value := .agg #[.bool c.1, .string (str c.2.1), .string (str c.2.2)]
theorem ract_any (p : Nat) (b : Bk) (F : List Nat) (w : World) (hb : RfAt w p b F) (N : Nat) (hok : b.ok N) (hN : N ≤ 1000000) (c : Cl) (hk : c.2.1.length ≤ 64) (hv : c.2.2.length ≤ 65536) :
    Calls Tryd.prog 62 #[.pointer (some ⟨p, 0, none⟩), rcA c] w fun e w' => e = .returned (.int .i64 (b.act c).1) ∧ ∃ F', RfAt w' p (b.act c).2 F' ∧ Chg F F' w w' := by
  obtain ⟨t, k, v⟩ := c
  cases t
  · exact rrem_any p b F w hb N hok hN k v
  · exact rput_any p b F w hb N hok hN k v hk hv

theorem tyRc : SlTy Tryd.prog 56 94 3 40 (.agg #[.bool false, .string ⟨#[]⟩, .string ⟨#[]⟩]) := SlTy.mk' Tryd.underlying56 (by kernel_rfl) rfl (by decide)
theorem sizeRc : (Tryd.prog.info? 94).map (·.size) = some 3 := by kernel_rfl

section
set_option maxHeartbeats 4000000
set_option maxRecDepth 100000

theorem rcall_act (p : Nat) (b : Bk) (F : List Nat) (w : World) (hb : RfAt w p b F) (N : Nat) (hok : b.ok N) (hN : N ≤ 1000000) (c : Cl) (hk : c.2.1.length ≤ 64) (hv : c.2.2.length ≤ 65536) (f : Int) (hf : b.fate = f) (hf2 : f = 0 ∨ f = 2) :
    Calls Tryd.prog 59 #[.pointer (some ⟨p, 0, none⟩), rcA c] w fun e w' => e = .returned (.int .i64 (if f = 0 then (b.tick.act c).1 else 34)) ∧ ∃ F', RfAt w' p (b.tick.act c).2 F' ∧ Chg F F' w w' := by
  obtain ⟨B, hB⟩ : ∃ B, w.heap.size = B := ⟨_, rfl⟩
  have hbF := hb.lt
  have hnew : Keeps [] w (w.alloc (.cells #[.bool c.1, .string (str c.2.1), .string (str c.2.2)] 94)) := (Keeps.refl [] w).alloc _
  have hn := rnext_any p b F (w.alloc (.cells #[.bool c.1, .string (str c.2.1), .string (str c.2.2)] 94)) (hb.newer hnew) hok.f64
  rw [hf] at hn
  have hcells := heap_alloc_self w (.cells #[.bool c.1, .string (str c.2.1), .string (str c.2.2)] 94)
  have hact := fun w' F' (h : RfAt w' p b.tick F') => ract_any p b.tick F' w' h N hok.tick hN c hk hv
  have Hn := Lib.hid hn
  have Hact := Lib.hid hact
  have HbF := Lib.hid hbF
  have Hcells := Lib.hid hcells
  have Hnew := Lib.hid hnew
  have hBF : B ∉ F := fun h => by have := HbF.out B h; omega
  rw [hB] at Hcells
  clear hn hact hbF hcells hnew hok hb
  obtain ⟨t, k, v⟩ := c
  unfold rcA at *
  dsimp only at *
  rcases hf2 with rfl | rfl
  · rw [if_pos rfl]
    go_enter Tryd.func59, Tryd.ntmps59
    go_wp2_with (first
      | (go_at_call 60; (with_reducible refine (Hn.out).mono ?_); rintro e w1 ⟨rfl, h1, h2⟩; have hx := h2.keeps.some Hcells.out hBF; have d0 := cell_of_heap hx 0; have d1 := cell_of_heap hx 1; have d2 := cell_of_heap hx 2; have hra : Hid (w1.rangeAt B 0 [.bool t, .string (str k), .string (str v)]) := (fun j u hj => by rw [Nat.zero_add, cell_of_heap hx]; simpa using hj))
      | ((with_reducible refine wpList_run (w' := w1) (o := ⟨some 10, _, _, _, _, _⟩) ?_ (.agg #[.bool t, .string (str k), .string (str v)]) ?_ ?_); exact rfl; exact exec_load w1 94 B 0 [.bool t, .string (str k), .string (str v)] _ hra.out Tryd.underlying94 rfl sizeRc _ _ (.tmp 3) rfl rfl)
      | (go_at_call 62; (with_reducible refine (Hact.out _ _ h1).mono ?_); rintro e w2 ⟨rfl, F', h3, h4⟩))
    go_ret
    exact ⟨rfl, F', h3, Chg.old Hnew.out (h2.trans h4)⟩
  · rw [if_neg (by omega)]
    go_enter Tryd.func59, Tryd.ntmps59
    go_wp2_with (first
      | (go_at_call 60; (with_reducible refine (Hn.out).mono ?_); rintro e w1 ⟨rfl, h1, h2⟩; have hx := h2.keeps.some Hcells.out hBF; have d0 := cell_of_heap hx 0; have d1 := cell_of_heap hx 1; have d2 := cell_of_heap hx 2; have hra : Hid (w1.rangeAt B 0 [.bool t, .string (str k), .string (str v)]) := (fun j u hj => by rw [Nat.zero_add, cell_of_heap hx]; simpa using hj))
      | ((with_reducible refine wpList_run (w' := w1) (o := ⟨some 15, _, _, _, _, _⟩) ?_ (.agg #[.bool t, .string (str k), .string (str v)]) ?_ ?_); exact rfl; exact exec_load w1 94 B 0 [.bool t, .string (str k), .string (str v)] _ hra.out Tryd.underlying94 rfl sizeRc _ _ (.tmp 3) rfl rfl)
      | (go_at_call 62; (with_reducible refine (Hact.out _ _ h1).mono ?_); rintro e w2 ⟨rfl, F', h3, h4⟩))
    go_ret
    exact ⟨rfl, F', h3, Chg.old Hnew.out (h2.trans h4)⟩

theorem rcall_1 (p : Nat) (b : Bk) (F : List Nat) (w : World) (hb : RfAt w p b F) (N : Nat) (hok : b.ok N) (c : Cl) (hf : b.fate = 1) :
    Calls Tryd.prog 59 #[.pointer (some ⟨p, 0, none⟩), rcA c] w fun e w' => e = .returned (.int .i64 34) ∧ ∃ F', RfAt w' p b.tick F' ∧ Chg F F' w w' := by
  have hnew : Keeps [] w (w.alloc (.cells #[.bool c.1, .string (str c.2.1), .string (str c.2.2)] 94)) := (Keeps.refl [] w).alloc _
  have hn := rnext_any p b F (w.alloc (.cells #[.bool c.1, .string (str c.2.1), .string (str c.2.2)] 94)) (hb.newer hnew) hok.f64
  rw [hf] at hn
  have Hn := Lib.hid hn
  have Hnew := Lib.hid hnew
  clear hn hnew hok hb
  obtain ⟨t, k, v⟩ := c
  unfold rcA at *
  dsimp only at *
  go_enter Tryd.func59, Tryd.ntmps59
  go_wp2_with (go_at_call 60; (with_reducible refine (Hn.out).mono ?_); rintro e w1 ⟨rfl, h1, h2⟩)
  go_ret
  exact ⟨rfl, F, h1, Chg.old Hnew.out h2⟩

theorem rsize_any (p : Nat) (b : Bk) (F : List Nat) (w : World) (hb : RfAt w p b F) (N : Nat) (hok : b.ok N) (hN : N ≤ 1000000) (k : Bs) (hk : k.length ≤ maxLen) :
    Calls Tryd.prog 44 #[.pointer (some ⟨p, 0, none⟩), .string (str k)] w fun e w' => e = .returned (.tuple #[.int .i64 (b.size k).1, .int .i64 (b.size k).2]) ∧ RfAt w' p (b.size2 k) F ∧ Chg F F w w' := by
  have Nm := Lib.hid (rname_any k w hk)
  have Nx := Lib.hid (rnext_any p b F w hb hok.f64)
  have Fi := Lib.hid (fun w' (h : RfAt w' p b.tick F) => rfind_any p b.tick F w' h k (by have := hok.few; show b.m.length ≤ _; omega))
  have hml : b.m.length ≤ 1000000 := by have := hok.few; omega
  by_cases hc : nameB k = true
  · have hp : b.size k = (((b.look k).1.length : Int), (b.look k).2) := by unfold Bk.size; rw [if_pos hc]
    have hp2 : b.size2 k = b.tick := by unfold Bk.size2; rw [if_pos hc]
    rw [hp, hp2]
    rw [hc] at Nm
    unfold Bk.look
    by_cases hf : b.fate = 0
    · rw [if_pos hf]
      rw [hf] at Nx
      cases hg : getO b.m k with
      | none =>
        have hfi : findI b.tick.m k = -1 := by unfold findI; rw [show getO b.tick.m k = none from hg]; rfl
        rw [hfi] at Fi
        clear hp hp2 hc hf hfi hok hb
        go_enter Tryd.func44, Tryd.ntmps44
        go_wp2_with (first
          | (go_at_call 58; (with_reducible refine (Nm.out).mono ?_); rintro e w1 ⟨rfl, hw1⟩; rw [hw1]; clear hw1)
          | (go_at_call 60; (with_reducible refine (Nx.out).mono ?_); rintro e w2 ⟨rfl, h1, h2⟩)
          | (go_at_call 61; (with_reducible refine (Fi.out _ h1).mono ?_); rintro e w3 ⟨rfl, hw3⟩; rw [hw3]; clear hw3))
        go_ret2
        exact ⟨rfl, h1, h2⟩
      | some v =>
        have hgs : (getO b.tick.m k).isSome = true := by rw [show getO b.tick.m k = some v from hg]; rfl
        obtain ⟨hP1, hP2, hP3⟩ := pos_spec (m := b.tick.m) (k := k)
        have hPl := hP2.2 hgs
        have hfi : findI b.tick.m k = (posO b.tick.m k : Int) := by unfold findI; rw [if_pos hgs]
        rw [hfi] at Fi
        obtain ⟨x, hx⟩ : ∃ x, b.tick.m[posO b.tick.m k]? = some x := ⟨b.tick.m[posO b.tick.m k], by simp [hPl]⟩
        have hxv : x.2 = v := by
          have h9 := (hP3 x hx).2
          rw [show getO b.tick.m k = some v from hg] at h9
          injection h9 with h9
          exact h9.symm
        generalize posO b.tick.m k = P at *
        have hcx : ∀ w', RfAt w' p b.tick F → ∃ g off n c, w'.cell? ⟨p, 0, none⟩ = some (.slice (some ⟨g, off, none⟩) n c) ∧ P < n ∧ w'.cell? ⟨g, off + P * 2 + 1, none⟩ = some (.string (str v)) := fun w' ⟨ov, fv, lv, Go', Gf, Gl, h⟩ => by
          obtain ⟨ad, cap, rfl, hle, _, hao⟩ := h.obj.shape
          obtain ⟨g, off, rfl⟩ := hao (by omega)
          refine ⟨g, off, _, _, cell_of_heap h.cells 0, hPl, ?_⟩
          have := h.obj.cell (by omega) _ _ (objV_at b.tick.m P x hx 1 _ rfl)
          rwa [← Nat.add_assoc, hxv] at this
        have Hcx := Lib.hid hcx
        have hP0 : (0 : Int) ≤ (P : Int) := by omega
        clear hp hp2 hc hf hfi hok hb hcx hP1 hP2 hP3 hx hxv hgs
        go_enter Tryd.func44, Tryd.ntmps44
        go_wp2_with (first
          | (go_at_call 58; (with_reducible refine (Nm.out).mono ?_); rintro e w1 ⟨rfl, hw1⟩; rw [hw1]; clear hw1)
          | (go_at_call 60; (with_reducible refine (Nx.out).mono ?_); rintro e w2 ⟨rfl, h1, h2⟩; obtain ⟨g, off, n9, c9, hc0, hPn, hc1⟩ := Hcx.out _ h1; have hPi : (P : Int) < (n9 : Int) := (by omega))
          | (go_at_call 61; (with_reducible refine (Fi.out _ h1).mono ?_); rintro e w3 ⟨rfl, hw3⟩; rw [hw3]; clear hw3))
        go_ret2
        exact ⟨rfl, h1, h2⟩
    · rw [if_neg hf]
      have hne : (b.fate != 0) = true := bne_iff_ne.2 hf
      generalize b.fate = f at *
      clear hp hp2 hc hf hok hb
      go_enter Tryd.func44, Tryd.ntmps44
      go_wp2_with (first
        | (go_at_call 58; (with_reducible refine (Nm.out).mono ?_); rintro e w1 ⟨rfl, hw1⟩; rw [hw1]; clear hw1)
        | (go_at_call 60; (with_reducible refine (Nx.out).mono ?_); rintro e w2 ⟨rfl, h1, h2⟩))
      go_ret2
      exact ⟨rfl, h1, h2⟩
  · have hp : b.size k = (0, 1) := by unfold Bk.size; rw [if_neg hc]
    have hp2 : b.size2 k = b := by unfold Bk.size2; rw [if_neg hc]
    rw [hp, hp2]
    rw [Bool.eq_false_iff.2 hc] at Nm
    clear hp hc hp2
    go_enter Tryd.func44, Tryd.ntmps44
    go_wp2_with (go_at_call 58; (with_reducible refine (Nm.out).mono ?_); rintro e w1 ⟨rfl, hw1⟩; rw [hw1]; clear hw1)
    go_ret2
    exact ⟨rfl, hb, Chg.refl _ _⟩
end
end Go.Proofs.YtflgagglkkehiaaDoor
