/- Layer 5: first; Waits, Used, Quota; New. -/
import Derived.Test.YtflgagglkkehiaaDoorBkC
namespace Go.Proofs.YtflgagglkkehiaaDoor
open Go.RowKit Go.Maps

theorem does_any (p : Nat) (b : Bk) (F : List Nat) (w : World) (hb : BkAt w p b F) (N : Nat) (hok : b.ok N) (hN : N ≤ 1000000) (c : Cl) (hk : c.2.1.length ≤ 64) (hv : c.2.2.length ≤ 65536) :
    Calls Tryd.prog 32 #[.pointer (some ⟨p, 0, none⟩), callA c] w fun e w' => e = .returned (.int .i64 (b.does c).1) ∧ ∃ F', BkAt w' p (b.does c).2 F' ∧ Chg F F' w w' := by
  have hr : 0 ≤ b.fate ∧ b.fate < 4 := by
    unfold Bk.fate
    cases b.f with
    | nil => simp
    | cons x r => show 0 ≤ x % 4 ∧ x % 4 < 4; omega
  rcases (show b.fate = 0 ∨ b.fate = 1 ∨ b.fate = 2 ∨ b.fate = 3 by omega) with h | h | h | h
  · have hd : b.does c = b.tick.act c := by unfold Bk.does; rw [if_pos h]
    rw [hd]
    exact (does_0 p b F w hb N hok hN c hk hv h).mono fun e w' ⟨h1, h2, h3⟩ => ⟨h1, F, h2, h3⟩
  · have hd : b.does c = (34, b.tick) := by unfold Bk.does; rw [if_neg (by omega), if_neg (by omega), if_neg (by omega)]
    rw [hd]
    exact (does_1 p b F w hb N hok hN c hk hv h).mono fun e w' ⟨h1, h2, h3⟩ => ⟨h1, F, h2, h3⟩
  · have hd : b.does c = (34, (b.tick.act c).2) := by unfold Bk.does; rw [if_neg (by omega), if_pos h]
    rw [hd]
    exact (does_2 p b F w hb N hok hN c hk hv h).mono fun e w' ⟨h1, h2, h3⟩ => ⟨h1, F, h2, h3⟩
  · have hd : b.does c = (34, { b.tick with l := b.l ++ [c] }) := by unfold Bk.does; rw [if_neg (by omega), if_neg (by omega), if_pos h]
    rw [hd]
    exact does_3 p b F w hb N hok hN c hk hv h

set_option maxHeartbeats 1000000 in
set_option maxRecDepth 100000 in
theorem waits_any (p : Nat) (b : Bk) (F : List Nat) (w : World) (hb : BkAt w p b F) :
    Calls Tryd.prog 15 #[.pointer (some ⟨p, 0, none⟩)] w fun e w' => e = .returned (.int .i64 b.l.length) ∧ w' = w := by
  obtain ⟨mb, fv, lv, Gf, Gl, hc⟩ := hb
  obtain ⟨ad, cap, rfl, _⟩ := hc.row.shape
  have c4 := cell_of_heap hc.cells 4
  clear hc
  go_enter Tryd.func15, Tryd.ntmps15
  go_wp2
  go_ret
  exact ⟨rfl, rfl⟩

set_option maxHeartbeats 1000000 in
set_option maxRecDepth 100000 in
theorem used_any (p : Nat) (b : Bk) (F : List Nat) (w : World) (hb : BkAt w p b F) :
    Calls Tryd.prog 19 #[.pointer (some ⟨p, 0, none⟩)] w fun e w' => e = .returned (.int .i64 (usedO b.m)) ∧ w' = w := by
  obtain ⟨mb, fv, lv, Gf, Gl, hc⟩ := hb
  have c4 := cell_of_heap hc.cells 2
  clear hc
  go_enter Tryd.func19, Tryd.ntmps19
  go_wp2
  go_ret
  exact ⟨rfl, rfl⟩

set_option maxHeartbeats 1000000 in
set_option maxRecDepth 100000 in
theorem quota_any (p : Nat) (b : Bk) (F : List Nat) (w : World) (hb : BkAt w p b F) :
    Calls Tryd.prog 29 #[.pointer (some ⟨p, 0, none⟩)] w fun e w' => e = .returned (.int .i64 b.q) ∧ w' = w := by
  obtain ⟨mb, fv, lv, Gf, Gl, hc⟩ := hb
  have c4 := cell_of_heap hc.cells 1
  clear hc
  go_enter Tryd.func29, Tryd.ntmps29
  go_wp2
  go_ret
  exact ⟨rfl, rfl⟩

def newB (q : Nat) : Bk := ⟨[], q, [], []⟩
set_option maxHeartbeats 1000000 in
set_option maxRecDepth 100000 in
theorem new_any (q : Nat) (w : World) (_hq : q ≤ 9223372036854775807) :
    Calls Tryd.prog 11 #[.int .i64 q] w fun e w' => ∃ p F, e = .returned (.tuple #[.pointer (some ⟨p, 0, none⟩), .int .i64 0]) ∧ BkAt w' p (newB q) F ∧ (∀ x, x ∈ F → w.heap.size ≤ x) ∧ Keeps [] w w' := by
  have hn : ¬ ((q : Int) < 0) := by omega
  have hmm := @run_makeMap Tryd.prog
  have K0 := Lib.hid fun o => (Keeps.refl [] w).alloc o
  go_enter Tryd.func11, Tryd.ntmps11
  go_wp2
  go_ret2
  have hm := World.ownsMap_made w (P := Tryd.prog) 9 (plainElem (H := Unit) Tryd.prog 9)
  have hlt := ownsMap_lt hm
  have hk : Keeps [] w ((w.alloc (.map #[] 0)).alloc (.cells #[.map (some w.heap.size), .int .i64 q, .int .i64 0, .slice none 0 0, .slice none 0 0] 69)) := (K0.out _).alloc _
  have hc0 := heap_alloc_self (w.alloc (.map #[] 0)) (.cells #[.map (some w.heap.size), .int .i64 q, .int .i64 0, .slice none 0 0, .slice none 0 0] 69)
  have hs : (w.alloc (.map #[] 0)).heap.size = w.heap.size + 1 := by simp
  rw [hs] at hc0
  refine ⟨w.heap.size + 1, rfl, [w.heap.size + 1, w.heap.size], ⟨w.heap.size, .slice none 0 0, .slice none 0 0, [], [], ?_⟩, ?_, hk⟩
  · exact ⟨hc0, ownsMap_heap hm (World.heap_alloc_lt _ _ _ hlt), RowAt.none', RowAt.none', rfl, by omega, by simp, by simp, by simp, by simp, by simp⟩
  · intro x hx
    simp only [List.mem_cons, List.not_mem_nil, or_false] at hx
    omega

set_option maxHeartbeats 1000000 in
set_option maxRecDepth 100000 in
theorem new_neg (q : Int) (w : World) (hq : q < 0) :
    Calls Tryd.prog 11 #[.int .i64 q] w fun e w' => e = .returned (.tuple #[.pointer none, .int .i64 1]) ∧ w' = w := by
  go_enter Tryd.func11, Tryd.ntmps11
  go_wp2
  go_ret2
  exact ⟨rfl, rfl⟩

set_option maxHeartbeats 1000000 in
set_option maxRecDepth 100000 in
theorem first_any (p : Nat) (b : Bk) (F : List Nat) (w : World) (hb : BkAt w p b F) (n : Int) (hl : b.l.length ≤ 1000000) :
    Calls Tryd.prog 34 #[.pointer (some ⟨p, 0, none⟩), .int .i64 n] w fun e w' => ∃ v mb fv lv Gf Gl, e = .returned v ∧ RowAt w' 3 v (b.cut n) ((b.l.take (b.cut n)).flatMap callV) Gl ∧ BkC w' p (b.drop n) F mb fv lv Gf Gl ∧ Chg F F w w' := by
  obtain ⟨mb, fv, lv, Gf, Gl, hc⟩ := hb
  obtain ⟨ad, cap, rfl, hle, hcm, hao⟩ := hc.row.shape
  have c4 := cell_of_heap hc.cells 4
  have f4 := free_of_heap hc.cells 4
  obtain ⟨K, hK⟩ : ∃ K, b.cut n = K := ⟨_, rfl⟩
  rw [hK]
  have hKl : K ≤ b.l.length := by rw [← hK]; unfold Bk.cut; omega
  have hmin : min (max n 0) (b.l.length : Int) = (K : Int) := by rw [← hK]; unfold Bk.cut; omega
  have hll : b.l.length ≤ 1000000 := hl
  have hfl : (b.l.take K).flatMap callV = (b.l.flatMap callV).take (K * 3) := by
    have h3 : ∀ (l : List Cl) (j : Nat), (l.take j).flatMap callV = (l.flatMap callV).take (j * 3) := by
      intro l
      induction l with
      | nil => intro j; simp
      | cons y r ih =>
        intro j
        cases j with
        | zero => simp
        | succ j =>
          rw [List.take_succ_cons, List.flatMap_cons, List.flatMap_cons, ih j, show (j + 1) * 3 = (callV y).length + j * 3 by show _ = 3 + j * 3; omega, List.take_length_add_append]
    exact h3 _ _
  have hdl : (b.l.drop K).flatMap callV = (b.l.flatMap callV).drop (K * 3) := by
    have h3 : ∀ (l : List Cl) (j : Nat), (l.drop j).flatMap callV = (l.flatMap callV).drop (j * 3) := by
      intro l
      induction l with
      | nil => intro j; simp
      | cons y r ih =>
        intro j
        cases j with
        | zero => simp
        | succ j =>
          rw [List.drop_succ_cons, List.flatMap_cons, ih j, show (j + 1) * 3 = (callV y).length + j * 3 by show _ = 3 + j * 3; omega, List.drop_length_add_append]
    exact h3 _ _
  have hdd : b.drop n = { b with l := b.l.drop K } := by unfold Bk.drop; rw [hK]
  rw [hfl, hdd]
  have htake := hc.row.take K hKl
  have Hc := Lib.hid hc
  have Hdl := Lib.hid hdl
  have Htake := Lib.hid htake
  have HKl := Lib.hid hKl
  have hrow := hc.row
  have Hrow := Lib.hid hrow
  have Hcm := Lib.hid hcm
  have HFe := Lib.hid hc.foot
  have fin : ∀ lv', RowAt w 3 lv' (b.l.drop K).length ((b.l.drop K).flatMap callV) Gl → BkC (w.setCell ⟨p, 4, none⟩ lv') p { b with l := b.l.drop K } F mb fv lv' Gf Gl ∧ Chg F F w (w.setCell ⟨p, 4, none⟩ lv') ∧ RowAt (w.setCell ⟨p, 4, none⟩ lv') 3 (.slice ad K K) K ((b.l.flatMap callV).take (K * 3)) Gl := fun lv' h => by
    obtain ⟨h1, h2⟩ := Hc.out.setL (l' := b.l.drop K) h Hc.out.pl Hc.out.ml Hc.out.dj
    rw [← HFe.out] at h1
    exact ⟨h1, ⟨h2.mono (by intro z hz; rw [List.mem_singleton] at hz; rw [hz, HFe.out]; simp), fun k hk => .inl hk⟩, Htake.out.keep h2 (fun x hx => by rw [List.mem_singleton]; rintro rfl; exact Hc.out.pl hx)⟩
  have Fin := Lib.hid fin
  clear hc hdl htake hrow hcm hfl hdd fin hl
  by_cases hcK : cap = K
  · subst hcK
    have hlK : b.l.length = cap := by omega
    have hf0 := Fin.out (.slice ad 0 0) (by rw [Hdl.out, List.length_drop, show b.l.length - cap = 0 by omega, show (b.l.flatMap callV).drop (cap * 3) = [] from List.drop_eq_nil_of_le (by have := Hrow.out; obtain ⟨_, _, _, h, _⟩ := this; omega)]; exact Hrow.out.cut)
    rw [hlK] at hmin c4 hll hle
    clear hK hao hlK hKl
    go_enter Tryd.func34, Tryd.ntmps34
    go_wp2
    go_ret
    exact ⟨_, _, _, _, _, _, rfl, hf0.2.2, hf0.1, hf0.2.1⟩
  · obtain ⟨g, off, rfl⟩ := hao (by omega)
    have hf0 := Fin.out (.slice (some ⟨g, off + K * 3, none⟩) (b.l.length - K) (cap - K)) (by rw [Hdl.out, List.length_drop]; exact Hrow.out.drop K (by omega) (by omega))
    clear hK hao
    go_enter Tryd.func34, Tryd.ntmps34
    go_wp2
    go_ret
    exact ⟨_, _, _, _, _, _, rfl, hf0.2.2, hf0.1, hf0.2.1⟩
end Go.Proofs.YtflgagglkkehiaaDoor
