/- lighterlaw05.BucketRoom, whatever its input: true, and the input reads as it did. There are never more bytes than the quota, and what is refused turns nothing. Conditions: the tied card's. -/
import Derived.Test.YtflgagglkkehiaaDoorBkL
import Derived.Test.YtflgagglkkehiaaDoorBkX
import Derived.Test.YtflgagglkkehiaaDoorCards
import Derived.Test.YtflgagglkkehiaaDoorTie
import Derived.SevenTiedAt
namespace Go.Proofs.YtflgagglkkehiaaDoor.lawBucketRoom
open Go.ChangeShapes Go.WideShapes Go.ChangeAt Go.RowKit

def Refused (e : Int) : Prop := e = 33 ∨ e = 16 ∨ e = 15 ∨ e = 1 ∨ e = 31

theorem act_ref (b : Bk) (c : Cl) (h : Refused (b.act c).1) : (b.act c).2.m = b.m ∧ ((b.act c).1 = 33 → c.1 = true ∧ b.q < usedO b.m + c.2.2.length) := by
  unfold Bk.act Bk.put Bk.rem at *
  unfold Refused at h
  by_cases hc : c.1 = true
  · rw [if_pos hc] at h ⊢
    by_cases h1 : (getO b.m c.2.1).isSome = true
    · rw [if_pos h1]; exact ⟨rfl, fun h => by cases h⟩
    · rw [if_neg h1] at h ⊢
      by_cases h2 : b.q < usedO b.m + c.2.2.length
      · rw [if_pos h2]; exact ⟨rfl, fun _ => ⟨hc, h2⟩⟩
      · rw [if_neg h2] at h; simp at h
  · rw [if_neg hc] at h ⊢
    by_cases h1 : (getO b.m c.2.1).isSome = true
    · rw [if_pos h1] at h; simp at h
    · rw [if_neg h1]; exact ⟨rfl, fun h => by cases h⟩
theorem does_ref (b : Bk) (c : Cl) (h : Refused (b.does c).1) : (b.does c).2.m = b.m ∧ ((b.does c).1 = 33 → c.1 = true ∧ b.q < usedO b.m + c.2.2.length) := by
  unfold Bk.does at *
  by_cases h0 : b.fate = 0
  · rw [if_pos h0] at h ⊢
    exact act_ref b.tick c h
  rw [if_neg h0] at h ⊢
  by_cases h2 : b.fate = 2
  · rw [if_pos h2] at h; unfold Refused at h; simp at h
  rw [if_neg h2] at h ⊢
  by_cases h3 : b.fate = 3
  · rw [if_pos h3] at h; unfold Refused at h; simp at h
  · rw [if_neg h3] at h; unfold Refused at h; simp at h
theorem doO_ref (b : Bk) (o : OpR) (h : Refused (b.doO o).1.e) : (b.doO o).2.m = b.m ∧ ((b.doO o).1.e = 33 → b.q < usedO b.m + o.data.length ∧ o.data.length ≤ 65536) := by
  unfold Bk.doO at *
  by_cases h0 : o.ask = 0
  · rw [if_pos h0] at h ⊢
    show (b.put' _ _).2.m = b.m ∧ ((b.put' _ _).1 = 33 → _)
    replace h : Refused (b.put' o.name o.data).1 := h
    unfold Bk.put' at *
    split at h
    · rename_i hc
      rw [if_pos hc]
      obtain ⟨h1, h2⟩ := does_ref b _ h
      rw [Bool.and_eq_true, decide_eq_true_eq] at hc
      exact ⟨h1, fun h => ⟨(h2 h).2, hc.2⟩⟩
    · rename_i hc
      rw [if_neg hc]
      exact ⟨rfl, fun h => by cases h⟩
  rw [if_neg h0] at h ⊢
  by_cases h1 : o.ask = 1
  · rw [if_pos h1] at h ⊢
    refine ⟨?_, fun h => ?_⟩
    · show (b.get2 _ _ _).m = b.m
      unfold Bk.get2
      split <;> rfl
    · exfalso
      replace h : (b.get o.name o.at_ o.n).2 = 33 := h
      unfold Bk.get Bk.look at h
      repeat' split at h
      all_goals simp at h
  rw [if_neg h1] at h ⊢
  by_cases h2 : o.ask = 2
  · rw [if_pos h2] at h ⊢
    refine ⟨?_, fun h => ?_⟩
    · show (b.size2 _).m = b.m
      unfold Bk.size2
      split <;> rfl
    · exfalso
      replace h : (b.size o.name).2 = 33 := h
      unfold Bk.size Bk.look at h
      repeat' split at h
      all_goals simp at h
  rw [if_neg h2] at h ⊢
  by_cases h3 : o.ask = 3
  · rw [if_pos h3] at h ⊢
    refine ⟨rfl, fun h => ?_⟩
    exfalso
    replace h : (b.list o.name).2 = 33 := h
    unfold Bk.list at h
    split at h <;> simp at h
  rw [if_neg h3] at h ⊢
  by_cases h4 : o.ask = 4
  · rw [if_pos h4] at h ⊢
    show (b.del' _).2.m = b.m ∧ ((b.del' _).1 = 33 → _)
    replace h : Refused (b.del' o.name).1 := h
    unfold Bk.del' at *
    split at h
    · rename_i hc
      rw [if_pos hc]
      obtain ⟨h1, h2⟩ := does_ref b _ h
      exact ⟨h1, fun h => by have := (h2 h).1; cases this⟩
    · rename_i hc
      rw [if_neg hc]
      exact ⟨rfl, fun h => by cases h⟩
  rw [if_neg h4] at h ⊢
  by_cases h5 : o.ask = 5
  · rw [if_pos h5]; exact ⟨rfl, fun h => by cases h⟩
  rw [if_neg h5] at h ⊢
  by_cases h6 : o.ask = 6
  · rw [if_pos h6] at h; unfold Refused at h; simp at h
  · rw [if_neg h6] at h; unfold Refused at h; simp at h
def runA (b : Bk) (l : List OpR) : Bk := l.foldl (fun b o => (b.doO o).2) b
theorem runA_snoc (b : Bk) (l : List OpR) (o : OpR) : runA b (l ++ [o]) = ((runA b l).doO o).2 := by
  unfold runA
  rw [List.foldl_append]
  rfl
theorem act_q (b : Bk) (c : Cl) : (b.act c).2.q = b.q := Bk.act_q b c
theorem landF_q : ∀ (l : List Cl) (b : Bk), (landF b l).q = b.q
  | [], _ => rfl
  | c :: r, b => by
    show (landF (b.act c).2 r).q = _
    rw [landF_q r, Bk.act_q]
theorem does_q (b : Bk) (c : Cl) : (b.does c).2.q = b.q := by
  unfold Bk.does
  repeat' split
  · rw [act_q]; rfl
  · show (b.tick.act c).2.q = b.q; rw [act_q]; rfl
  · rfl
  · rfl
theorem doO_q (b : Bk) (o : OpR) : (b.doO o).2.q = b.q := by
  unfold Bk.doO
  split
  · show (b.put' _ _).2.q = b.q
    unfold Bk.put'
    split
    · exact does_q _ _
    · rfl
  split
  · show (b.get2 _ _ _).q = b.q
    unfold Bk.get2
    split <;> rfl
  split
  · show (b.size2 _).q = b.q
    unfold Bk.size2
    split <;> rfl
  split
  · rfl
  split
  · show (b.del' _).2.q = b.q
    unfold Bk.del'
    split
    · exact does_q _ _
    · rfl
  split
  · rfl
  split
  · exact landF_q _ _
  · rfl
theorem runA_from : ∀ (l : List OpR) (b : Bk) (N : Nat), b.ok N → (∀ o, o ∈ l → o.L.length ≤ 20 ∧ ∀ x, x ∈ o.L → i64R x) → (runA b l).ok (N + l.length) ∧ (runA b l).q = b.q
  | [], b, N, h2, _ => ⟨h2, rfl⟩
  | o :: r, b, N, h2, h => by
    have ho := h o (by simp)
    have := runA_from r (b.doO o).2 (N + 1) (h2.doO o ho.1 ho.2) (fun o hx => h o (List.mem_cons_of_mem _ hx))
    show (runA (b.doO o).2 r).ok (N + (r.length + 1)) ∧ (runA (b.doO o).2 r).q = b.q
    rw [show N + (r.length + 1) = (N + 1) + r.length by omega]
    exact ⟨this.1, by rw [this.2, doO_q]⟩

theorem m_names {w0 w : World} {p : Nat} {b : Bk} (h : Mine w0 w p b) {N : Nat} (hok : b.ok N) (hN : N ≤ 1000000) :
    Calls Tryd.prog 22 #[.pointer (some ⟨p, 0, none⟩)] w fun e w' => ∃ a c, e = .returned (.slice a b.m.length c) ∧ Mine w0 w' p b ∧ Keeps [] w w' := by
  have hm := h
  obtain ⟨F, h1, h2, h3⟩ := h
  refine (names_any p b F w h1 hok.srt (by have := hok.few; omega)).mono ?_
  rintro e w' ⟨v, rfl, hr, _, hk⟩
  obtain ⟨a, c, rfl⟩ := ownsRow_shape hr
  exact ⟨a, c, rfl, hm.newer hk, hk⟩
theorem Mine.lt {w0 w : World} {p : Nat} {b : Bk} (h : Mine w0 w p b) : w0.heap.size ≤ w.heap.size := h.keeps.size

set_option maxHeartbeats 4000000 in
set_option maxRecDepth 100000 in
theorem walk_out (l : List OpR) (v : Value) (G : List Nat) (q : Int) (w : World) (hv : SlRows w v OpR.vals 6 l G) (hg : ∀ o, o ∈ l → o.good w) (hl : l.length ≤ 9223372036854775807) (hq : q ≤ 9223372036854775807) (h : ¬ (0 ≤ q ∧ q ≤ 1000 ∧ few l = true)) :
    Calls Tryd.prog 7 #[.int .i64 q, v] w fun e w' => e = .returned (.bool true) ∧ Keeps [] w w' := by
  have Aw := Lib.hid awake_any
  have Fe := Lib.hid (show ∀ w', Keeps [] w w' → _ from fun w' k => few_any l v G w' (hv.keep k (by simp)) (fun o ho => (hg o ho).newer k) hl)
  clear hv hg
  by_cases h0 : q < 0
  · have Nn := Lib.hid (new_neg q w h0)
    clear h h0
    go_enter Tryd.func7, Tryd.ntmps7
    go_wp2_with (first
      | (go_at_call 11; (with_reducible refine (Nn.out).mono ?_); rintro e w1 ⟨rfl, rfl⟩)
      | (go_at_call 12; (with_reducible refine (Aw.out _).mono ?_); rintro e w9 ⟨rfl, k9⟩))
    go_ret
    exact ⟨rfl, k9⟩
  · obtain ⟨qn, rfl⟩ : ∃ qn : Nat, q = qn := ⟨q.toNat, by omega⟩
    have N := Lib.hid (m_new (w0 := w) (w := w) qn (by omega) (Keeps.refl _ _))
    clear h0
    by_cases h1 : (qn : Int) ≤ 1000
    · have h2 : few l = false := Bool.eq_false_iff.2 (fun h2 => h ⟨by omega, h1, h2⟩)
      have hlt : decide ((1000 : Int) < (qn : Int)) = false := decide_eq_false (by omega)
      rw [h2] at Fe
      clear h h1 h2
      go_enter Tryd.func7, Tryd.ntmps7
      go_wp2_with (first
        | (go_at_call 11; (with_reducible refine (N.out).mono ?_); rintro e w1 ⟨p, rfl, m1⟩)
        | (go_at_call 20; (with_reducible refine (Fe.out _ m1.keeps).mono ?_); rintro e w2 ⟨rfl, k2⟩)
        | (go_at_call 12; (with_reducible refine (Aw.out _).mono ?_); rintro e w9 ⟨rfl, k9⟩))
      go_ret
      exact ⟨rfl, m1.keeps.trans (k2.trans k9 (by simp)) (by simp)⟩
    · have hlt : decide ((1000 : Int) < (qn : Int)) = true := decide_eq_true (by omega)
      clear h h1
      go_enter Tryd.func7, Tryd.ntmps7
      go_wp2_with (first
        | (go_at_call 11; (with_reducible refine (N.out).mono ?_); rintro e w1 ⟨p, rfl, m1⟩)
        | (go_at_call 12; (with_reducible refine (Aw.out _).mono ?_); rintro e w9 ⟨rfl, k9⟩))
      go_ret
      exact ⟨rfl, m1.keeps.trans k9 (by simp)⟩

set_option maxHeartbeats 16000000 in
set_option maxRecDepth 100000 in
theorem walk (l : List OpR) (v : Value) (G : List Nat) (q : Nat) (w : World) (hv : SlRows w v OpR.vals 6 l G) (hg : ∀ o, o ∈ l → o.good w) (hfew : few l = true) (hq : q ≤ 1000) :
    Calls Tryd.prog 7 #[.int .i64 q, v] w fun e w' => e = .returned (.bool true) ∧ Keeps [] w w' := by
  obtain ⟨hl60, hsp⟩ := few_spec hfew
  have N := Lib.hid (m_new (w0 := w) (w := w) q (by omega) (Keeps.refl _ _))
  have Aw := Lib.hid awake_any
  have Fe := Lib.hid (show ∀ w', Keeps [] w w' → _ from fun w' k => few_any l v G w' (hv.keep k (by simp)) (fun o ho => (hg o ho).newer k) (by omega))
  rw [hfew] at Fe
  have Hrk := Lib.hid (fun k => runA_from (l.take k) (newB q) 0 (newB_ok q (by omega) 0) (fun o ho => ⟨(hsp o (List.mem_of_mem_take ho)).2.2, (hg o (List.mem_of_mem_take ho)).L⟩))
  have Hv := Lib.hid hv
  have Hg := Lib.hid hg
  have Hsp := Lib.hid hsp
  obtain ⟨ad, cap, rfl, _⟩ := hv
  have hlt : decide ((1000 : Int) < (q : Int)) = false := decide_eq_false (by omega)
  clear hg hfew hsp
  go_enter Tryd.func7, Tryd.ntmps7
  go_wp2_with (first
    | (go_at_call 11; (with_reducible refine (N.out).mono ?_); rintro e w1 ⟨p, rfl, m1⟩)
    | (go_at_call 20; (with_reducible refine (Fe.out _ m1.keeps).mono ?_); rintro e w2 ⟨rfl, k2⟩; have m2 := m1.newer k2))
  clear m1 k2
  go_loopw [7] (fun iv wr => ∃ k : Nat, k ≤ l.length ∧ iv = .int .i64 k ∧ Mine w wr p (runA (newB q) (l.take k))) (fun iv _ => l.length - (intOf iv).toNat)
  case atStart => exact ⟨0, Nat.zero_le _, rfl, m2⟩
  case round =>
    obtain ⟨k, hk, rfl, mk⟩ := hrel
    clear m2
    have hkk := mk.keeps
    by_cases hlk : k < l.length
    · obtain ⟨o, ho⟩ : ∃ o, l[k]? = some o := ⟨l[k], by simp [hlk]⟩
      obtain ⟨b, off, rfl, _, hc⟩ := Hv.out.at ho
      have hmem := List.mem_of_getElem? ho
      have hgd := Hg.out o hmem
      have hra : w.rangeAt b (off + k * 6) o.vals := fun j u hj => hc j u hj
      have hc2 : w.cell? ⟨b, off + k * 6 + 2, none⟩ = some (.string (str o.data)) := hra 2 _ rfl
      have hst : l.take (k + 1) = l.take k ++ [o] := by rw [List.take_add_one, ho]; rfl
      obtain ⟨hok1, hq1⟩ := Hrk.out k
      have hok := hok1.mono (M := 60) (by rw [List.length_take]; omega)
      have hnx := runA_snoc (newB q) (l.take k) o
      rw [← hst] at hnx
      have hqq : (newB q).q = q := rfl
      rw [hqq] at hq1
      generalize runA (newB q) (l.take k) = bk at *
      have hok2 := hok.doO o (Hsp.out o hmem).2.2 hgd.L
      have hq2 := doO_q bk o
      have href := doO_ref bk o
      have Hdo := Lib.hid (show ∀ w1, Mine w w1 p bk → _ from fun w1 h => m_do h hok (by omega) o (hgd.newer h.keeps) (Hsp.out o hmem).2.2)
      have Us1 := Lib.hid (show ∀ w1, Mine w w1 p bk → _ from fun w1 h => m_used h)
      have Na1 := Lib.hid (show ∀ w1, Mine w w1 p bk → _ from fun w1 h => m_names h hok (by omega))
      have hus1 : usedO bk.m ≤ 1000 := by have := hok.fits; omega
      have hfit2 : usedO (bk.doO o).2.m ≤ q := by have := hok2.fits; omega
      generalize (bk.doO o).1 = g at *
      obtain ⟨gs, gn, gl, ge⟩ := g
      dsimp only at href Hdo
      have hok2' := Lib.hid hok2
      generalize (bk.doO o).2 = b2 at *
      have Us2 := Lib.hid (show ∀ w1, Mine w w1 p b2 → _ from fun w1 h => m_used h)
      have Na2 := Lib.hid (show ∀ w1, Mine w w1 p b2 → _ from fun w1 h => m_names h hok2'.out (by omega))
      have hki : (k : Int) < (l.length : Int) := by omega
      have hki0 : (0 : Int) ≤ (k : Int) := by omega
      have hso : (Tryd.prog.info? 42).map (·.size) = some o.vals.length := sizeOp
      have Hso := Lib.hid hso
      have Hra := Lib.hid (show ∀ w1, Mine w w1 p bk → w1.rangeAt b (off + k * 6) o.vals from fun w1 h j u hj => h.keeps.cell0 (hra j u hj))
      have Hc2 := Lib.hid hc2
      have Hnx := Lib.hid hnx
      have Mk := Lib.hid mk
      have u1 : ¬ ((q : Int) < (usedO b2.m : Int)) := by omega
      have u2 : ¬ ((usedO b2.m : Int) < 0) := by omega
      clear hc hra hso hnx mk hok hok1 hok2 hst ho hgd hkk hc2
      by_cases hR : Refused ge
      · obtain ⟨hm, h33⟩ := href hR
        have hlen2 : b2.m.length = bk.m.length := by rw [hm]
        rw [hlen2] at Na2
        rw [hm] at Us2
        have u1' : ¬ ((q : Int) < (usedO bk.m : Int)) := by rw [← hm]; exact u1
        have u2' : ¬ ((usedO bk.m : Int) < 0) := by omega
        have hb1 : ((usedO bk.m : Int) != (usedO bk.m : Int)) = false := by simp
        have hb2 : ((bk.m.length : Int) != (bk.m.length : Int)) = false := by simp
        have hqq2 : bk.q = q := hq1
        rcases hR with rfl | rfl | rfl | rfl | rfl
        · obtain ⟨h5, h6⟩ := h33 rfl
          have hw : IntKind.i64.wrap ((usedO bk.m : Int) + (o.data.length : Int)) = (usedO bk.m : Int) + (o.data.length : Int) := by rw [IntWalk.i64_in _ ⟨by omega, by omega⟩]
          have u3 : decide ((usedO bk.m : Int) + (o.data.length : Int) ≤ (q : Int)) = false := decide_eq_false (by omega)
          clear href h33 hm hlen2 u1 u2
          go_wp2_with (first
            | (go_at_call 19; (with_reducible refine (Us2.out _ (m3.newer ((Keeps.refl [] w3).alloc _))).mono ?_); rintro e w5 ⟨rfl, rfl⟩)
            | (go_at_call 19; (with_reducible refine (Us1.out _ Mk.out).mono ?_); rintro e w5 ⟨rfl, rfl⟩)
            | (go_at_call 22; (with_reducible refine (Na2.out _ (m3.newer ((Keeps.refl [] w3).alloc _))).mono ?_); rintro e w4 ⟨a4, c4, rfl, m4, k4⟩; have x3 := k4.cell0 (cell_of_heap (heap_alloc_self w3 _) 3); have d4 := m4.keeps.cell0 Hc2.out)
            | (go_at_call 22; (with_reducible refine (Na1.out _ Mk.out).mono ?_); rintro e w1 ⟨a1, c1, rfl, m1, k1⟩; have Hr1 := Lib.hid (Hra.out _ m1))
            | ((with_reducible refine wpList_run (w' := w1) (o := ⟨some 54, _, _, _, _, _⟩) ?_ (.agg o.vals.toArray) ?_ ?_); exact rfl; exact exec_load w1 42 b (off + k * 6) o.vals _ Hr1.out Tryd.underlying42 rfl Hso.out _ _ (.tmp 53) rfl rfl)
            | (go_at_call 21; (with_reducible refine (Hdo.out _ m1).mono ?_); rintro e w3 ⟨lv, rfl, ⟨la, ln, lc, rfl⟩, m3⟩; have d2 : ∀ ob, (w3.alloc ob).cell? ⟨b, off + k * 6 + 2, none⟩ = some (.string (str o.data)) := fun ob => ((Keeps.refl [] w3).alloc ob).cell0 (m3.keeps.cell0 Hc2.out)))
          go_roundw
          case rel => exact ⟨k + 1, by omega, by go_num, by rw [Hnx.out]; exact m4⟩
          case measure => simp [intOf]; omega
        · clear href h33 hm hlen2 u1 u2
          go_wp2_with (first
            | (go_at_call 19; (with_reducible refine (Us2.out _ (m3.newer ((Keeps.refl [] w3).alloc _))).mono ?_); rintro e w5 ⟨rfl, rfl⟩)
            | (go_at_call 19; (with_reducible refine (Us1.out _ Mk.out).mono ?_); rintro e w5 ⟨rfl, rfl⟩)
            | (go_at_call 22; (with_reducible refine (Na2.out _ (m3.newer ((Keeps.refl [] w3).alloc _))).mono ?_); rintro e w4 ⟨a4, c4, rfl, m4, k4⟩; have x3 := k4.cell0 (cell_of_heap (heap_alloc_self w3 _) 3); have d4 := m4.keeps.cell0 Hc2.out)
            | (go_at_call 22; (with_reducible refine (Na1.out _ Mk.out).mono ?_); rintro e w1 ⟨a1, c1, rfl, m1, k1⟩; have Hr1 := Lib.hid (Hra.out _ m1))
            | ((with_reducible refine wpList_run (w' := w1) (o := ⟨some 54, _, _, _, _, _⟩) ?_ (.agg o.vals.toArray) ?_ ?_); exact rfl; exact exec_load w1 42 b (off + k * 6) o.vals _ Hr1.out Tryd.underlying42 rfl Hso.out _ _ (.tmp 53) rfl rfl)
            | (go_at_call 21; (with_reducible refine (Hdo.out _ m1).mono ?_); rintro e w3 ⟨lv, rfl, ⟨la, ln, lc, rfl⟩, m3⟩; have d2 : ∀ ob, (w3.alloc ob).cell? ⟨b, off + k * 6 + 2, none⟩ = some (.string (str o.data)) := fun ob => ((Keeps.refl [] w3).alloc ob).cell0 (m3.keeps.cell0 Hc2.out)))
          go_roundw
          case rel => exact ⟨k + 1, by omega, by go_num, by rw [Hnx.out]; exact m4⟩
          case measure => simp [intOf]; omega
        · clear href h33 hm hlen2 u1 u2
          go_wp2_with (first
            | (go_at_call 19; (with_reducible refine (Us2.out _ (m3.newer ((Keeps.refl [] w3).alloc _))).mono ?_); rintro e w5 ⟨rfl, rfl⟩)
            | (go_at_call 19; (with_reducible refine (Us1.out _ Mk.out).mono ?_); rintro e w5 ⟨rfl, rfl⟩)
            | (go_at_call 22; (with_reducible refine (Na2.out _ (m3.newer ((Keeps.refl [] w3).alloc _))).mono ?_); rintro e w4 ⟨a4, c4, rfl, m4, k4⟩; have x3 := k4.cell0 (cell_of_heap (heap_alloc_self w3 _) 3); have d4 := m4.keeps.cell0 Hc2.out)
            | (go_at_call 22; (with_reducible refine (Na1.out _ Mk.out).mono ?_); rintro e w1 ⟨a1, c1, rfl, m1, k1⟩; have Hr1 := Lib.hid (Hra.out _ m1))
            | ((with_reducible refine wpList_run (w' := w1) (o := ⟨some 54, _, _, _, _, _⟩) ?_ (.agg o.vals.toArray) ?_ ?_); exact rfl; exact exec_load w1 42 b (off + k * 6) o.vals _ Hr1.out Tryd.underlying42 rfl Hso.out _ _ (.tmp 53) rfl rfl)
            | (go_at_call 21; (with_reducible refine (Hdo.out _ m1).mono ?_); rintro e w3 ⟨lv, rfl, ⟨la, ln, lc, rfl⟩, m3⟩; have d2 : ∀ ob, (w3.alloc ob).cell? ⟨b, off + k * 6 + 2, none⟩ = some (.string (str o.data)) := fun ob => ((Keeps.refl [] w3).alloc ob).cell0 (m3.keeps.cell0 Hc2.out)))
          go_roundw
          case rel => exact ⟨k + 1, by omega, by go_num, by rw [Hnx.out]; exact m4⟩
          case measure => simp [intOf]; omega
        · clear href h33 hm hlen2 u1 u2
          go_wp2_with (first
            | (go_at_call 19; (with_reducible refine (Us2.out _ (m3.newer ((Keeps.refl [] w3).alloc _))).mono ?_); rintro e w5 ⟨rfl, rfl⟩)
            | (go_at_call 19; (with_reducible refine (Us1.out _ Mk.out).mono ?_); rintro e w5 ⟨rfl, rfl⟩)
            | (go_at_call 22; (with_reducible refine (Na2.out _ (m3.newer ((Keeps.refl [] w3).alloc _))).mono ?_); rintro e w4 ⟨a4, c4, rfl, m4, k4⟩; have x3 := k4.cell0 (cell_of_heap (heap_alloc_self w3 _) 3); have d4 := m4.keeps.cell0 Hc2.out)
            | (go_at_call 22; (with_reducible refine (Na1.out _ Mk.out).mono ?_); rintro e w1 ⟨a1, c1, rfl, m1, k1⟩; have Hr1 := Lib.hid (Hra.out _ m1))
            | ((with_reducible refine wpList_run (w' := w1) (o := ⟨some 54, _, _, _, _, _⟩) ?_ (.agg o.vals.toArray) ?_ ?_); exact rfl; exact exec_load w1 42 b (off + k * 6) o.vals _ Hr1.out Tryd.underlying42 rfl Hso.out _ _ (.tmp 53) rfl rfl)
            | (go_at_call 21; (with_reducible refine (Hdo.out _ m1).mono ?_); rintro e w3 ⟨lv, rfl, ⟨la, ln, lc, rfl⟩, m3⟩; have d2 : ∀ ob, (w3.alloc ob).cell? ⟨b, off + k * 6 + 2, none⟩ = some (.string (str o.data)) := fun ob => ((Keeps.refl [] w3).alloc ob).cell0 (m3.keeps.cell0 Hc2.out)))
          go_roundw
          case rel => exact ⟨k + 1, by omega, by go_num, by rw [Hnx.out]; exact m4⟩
          case measure => simp [intOf]; omega
        · clear href h33 hm hlen2 u1 u2
          go_wp2_with (first
            | (go_at_call 19; (with_reducible refine (Us2.out _ (m3.newer ((Keeps.refl [] w3).alloc _))).mono ?_); rintro e w5 ⟨rfl, rfl⟩)
            | (go_at_call 19; (with_reducible refine (Us1.out _ Mk.out).mono ?_); rintro e w5 ⟨rfl, rfl⟩)
            | (go_at_call 22; (with_reducible refine (Na2.out _ (m3.newer ((Keeps.refl [] w3).alloc _))).mono ?_); rintro e w4 ⟨a4, c4, rfl, m4, k4⟩; have x3 := k4.cell0 (cell_of_heap (heap_alloc_self w3 _) 3); have d4 := m4.keeps.cell0 Hc2.out)
            | (go_at_call 22; (with_reducible refine (Na1.out _ Mk.out).mono ?_); rintro e w1 ⟨a1, c1, rfl, m1, k1⟩; have Hr1 := Lib.hid (Hra.out _ m1))
            | ((with_reducible refine wpList_run (w' := w1) (o := ⟨some 54, _, _, _, _, _⟩) ?_ (.agg o.vals.toArray) ?_ ?_); exact rfl; exact exec_load w1 42 b (off + k * 6) o.vals _ Hr1.out Tryd.underlying42 rfl Hso.out _ _ (.tmp 53) rfl rfl)
            | (go_at_call 21; (with_reducible refine (Hdo.out _ m1).mono ?_); rintro e w3 ⟨lv, rfl, ⟨la, ln, lc, rfl⟩, m3⟩; have d2 : ∀ ob, (w3.alloc ob).cell? ⟨b, off + k * 6 + 2, none⟩ = some (.string (str o.data)) := fun ob => ((Keeps.refl [] w3).alloc ob).cell0 (m3.keeps.cell0 Hc2.out)))
          go_roundw
          case rel => exact ⟨k + 1, by omega, by go_num, by rw [Hnx.out]; exact m4⟩
          case measure => simp [intOf]; omega
      · have e33 : (ge == 33) = false := beq_eq_false_iff_ne.2 (fun h => hR (Or.inl h))
        have e16 : (ge == 16) = false := beq_eq_false_iff_ne.2 (fun h => hR (Or.inr (Or.inl h)))
        have e15 : (ge == 15) = false := beq_eq_false_iff_ne.2 (fun h => hR (Or.inr (Or.inr (Or.inl h))))
        have e1 : (ge == 1) = false := beq_eq_false_iff_ne.2 (fun h => hR (Or.inr (Or.inr (Or.inr (Or.inl h)))))
        have e31 : (ge == 31) = false := beq_eq_false_iff_ne.2 (fun h => hR (Or.inr (Or.inr (Or.inr (Or.inr h)))))
        clear href hR
        go_wp2_with (first
          | (go_at_call 19; (with_reducible refine (Us2.out _ (m3.newer ((Keeps.refl [] w3).alloc _))).mono ?_); rintro e w5 ⟨rfl, rfl⟩)
          | (go_at_call 19; (with_reducible refine (Us1.out _ Mk.out).mono ?_); rintro e w5 ⟨rfl, rfl⟩)
          | (go_at_call 22; (with_reducible refine (Na2.out _ (m3.newer ((Keeps.refl [] w3).alloc _))).mono ?_); rintro e w4 ⟨a4, c4, rfl, m4, k4⟩; have x3 := k4.cell0 (cell_of_heap (heap_alloc_self w3 _) 3); have d4 := m4.keeps.cell0 Hc2.out)
          | (go_at_call 22; (with_reducible refine (Na1.out _ Mk.out).mono ?_); rintro e w1 ⟨a1, c1, rfl, m1, k1⟩; have Hr1 := Lib.hid (Hra.out _ m1))
          | ((with_reducible refine wpList_run (w' := w1) (o := ⟨some 54, _, _, _, _, _⟩) ?_ (.agg o.vals.toArray) ?_ ?_); exact rfl; exact exec_load w1 42 b (off + k * 6) o.vals _ Hr1.out Tryd.underlying42 rfl Hso.out _ _ (.tmp 53) rfl rfl)
          | (go_at_call 21; (with_reducible refine (Hdo.out _ m1).mono ?_); rintro e w3 ⟨lv, rfl, ⟨la, ln, lc, rfl⟩, m3⟩; have d2 : ∀ ob, (w3.alloc ob).cell? ⟨b, off + k * 6 + 2, none⟩ = some (.string (str o.data)) := fun ob => ((Keeps.refl [] w3).alloc ob).cell0 (m3.keeps.cell0 Hc2.out)))
        go_roundw
        case rel => exact ⟨k + 1, by omega, by go_num, by rw [Hnx.out]; exact (m3.newer ((Keeps.refl [] w3).alloc _))⟩
        case measure => simp [intOf]; omega
    · obtain rfl : k = l.length := by omega
      clear hk hlk
      go_wp2_with (go_at_call 12; (with_reducible refine (Aw.out _).mono ?_); rintro e w15 ⟨rfl, k15⟩)
      go_ret
      exact ⟨rfl, hkk.trans k15 (by simp)⟩

theorem walk_any (l : List OpR) (v : Value) (G : List Nat) (q : Int) (W : World) (hv : SlRows W v OpR.vals 6 l G) (hg : ∀ o, o ∈ l → o.good W) (hl : l.length ≤ 9223372036854775807) (hq : q ≤ 9223372036854775807) :
    Calls Tryd.prog 7 #[.int .i64 q, v] W fun e w' => e = .returned (.bool true) ∧ Keeps [] W w' := by
  by_cases h : 0 ≤ q ∧ q ≤ 1000 ∧ few l = true
  · obtain ⟨h0, h1, h2⟩ := h
    obtain ⟨qn, rfl⟩ : ∃ qn : Nat, q = qn := ⟨q.toNat, by omega⟩
    exact walk l v G qn W hv hg h2 (by omega)
  · exact walk_out l v G q W hv hg hl hq h

-- ROWEND
set_option maxRecDepth 100000 in
theorem lifted (os : Os) (started : os.Started) (H : Type) (enc : TypeId × Value → H) :
    ReturnsInHanded {} Tryd.checked os 7 .any (fun w args => (Rows.bucketRoomSpec.pre enc Tryd.prog Tryd.f7 [] false w args ∧ laidMetH Tryd.prog laidU w) ∧ sizedMet enc Tryd.prog Tryd.f7 (OpenSpec.ofChange Rows.bucketRoomSpec) false w args)
      (Rows.bucketRoomSpec.post enc Tryd.prog Tryd.f7 false true false false) := by
  refine returnsInHanded_of_change_and (C := Tryd.checked) (X := fun w _ => laidMetH Tryd.prog laidU w) (fun _ _ _ hh h => h.of_heap hh) Tryd.own started (by kernel_rfl) Tryd.func7
    (ChangeSpec.witness_shaped (enc := enc) (C := Tryd.checked) (os := os) (X := fun w _ => laidMetH Tryd.prog laidU w) false (World.laidAll Tryd.prog os laidU) #[.int .i64 0, .slice none 0 0] 8 (World.laidAll_os _ _ _) (World.shaped_of_ZipB (by kernel_rfl) (by kernel_rfl)) (by kernel_rfl) (by kernel_rfl) (by kernel_rfl) (by rw [MakeChecks.laidMetH_plain _ _ _ (by kernel_rfl)]; exact laidMet_laidAll _ (by kernel_rfl) (by kernel_rfl))) ?_
  intro W base args ds gs before hval0 hW _ _ hL _
  have hval : ∀ (j : Nat) t v, Tryd.f7.params[j]? = some t → args[j]? = some v → Value.okWide Tryd.prog W .any base t v := hval0
  have hW' := hW
  obtain ⟨p, q, hA0, hV, rfl, hfz, hnd⟩ := hW
  have hA : DataW.TrodAll enc Tryd.prog W 0 (fun _ => true) true Tryd.f7.params.toList args.toList ds p := hA0
  rw [Tryd.params7] at hA hval
  obtain ⟨v0, vs0, d0, ds0, p0, q0, hargs, rfl, rfl, h0, r0⟩ := trodAll_cons hA
  obtain ⟨v1, vs1, d1, ds1, p1, q1, rfl, rfl, rfl, h1, r1⟩ := trodAll_cons r0
  obtain ⟨rfl, rfl, rfl⟩ := trodAll_nil r1
  obtain rfl : args = #[v0, v1] := by cases args; simp_all
  obtain ⟨q, rfl, rfl, rfl, wq⟩ := open_int Tryd.underlying3 (hval 0 3 v0 rfl rfl) h0
  obtain ⟨wq0, wq1⟩ := wf_i64 wq
  obtain ⟨l, Gl, hl, gl, bl, ll⟩ := open_rows OpR.vals (OpR.good W) 6 (by kernel_rfl) (by decide) Tryd.underlying38 (hval 1 38 v1 rfl rfl) (fun _ _ _ h => elem_op h) h1
  refine (walk_any l v1 Gl q W hl gl ll wq1).mono fun e W' ⟨he, hk⟩ => ?_
  subst he
  exact ⟨_, rfl, law_end Tryd.laidOut (by kernel_rfl) rfl rfl Tryd.underlying4 hW' rfl hk⟩

theorem row_holds : Rows.BucketRoomSaid :=
  OpenClaim.holds_of_wide 7 Tryd.f7 rfl rfl rfl rfl rfl rfl rfl ⟨rfl, rfl, rfl, rfl, rfl⟩ rfl rfl rfl rfl rfl (by kernel_rfl) Tryd.func7 (by kernel_rfl)
    (of_decide_eq_true (by kernel_rfl)) (by unfold Func.isWrapper; first | (rw [if_pos (by decide +kernel)]; kernel_rfl) | (rw [if_neg (by decide +kernel)]; exact ⟨rfl, rfl⟩))
    (fun os started H enc _ => lifted os started H enc)
theorem proved : Rows.BucketRoomCardSaid :=
  Claim7.holds_tied_plain_at .later [] [.data, .pinned] true (true, "e4129f4e5938461e8878458e06df438afec1d99629e799e21c52c19d7c204c58") true
    row_holds (fun _ h => by cases h) (by kernel_rfl) (fun _ h => by cases h) bucketRoom_row_tie rfl ⟨rfl, rfl⟩ (by kernel_rfl) rfl
    (fun f fn hf hfn => by
      obtain rfl : f = 7 := Option.some.inj ((show Tryd.prog.funcNamed "lighter/lighterlaw05.BucketRoom" = some 7 by kernel_rfl).symm.trans hf) |>.symm
      obtain rfl : fn = Tryd.f7 := (Option.some.inj (Tryd.func7.symm.trans hfn)).symm
      exact ⟨by kernel_rfl, fun j t ht => by
        rw [Tryd.params7] at ht
        have hm : t ∈ [3, 38] := by simpa using Array.mem_of_getElem? ht
        have hall : ([3, 38].all fun u => !Tryd.prog.wantsStandIn u) = true := by kernel_rfl
        exact (show Tryd.prog.wantsStandIn t = false by simpa using List.all_eq_true.1 hall t hm)⟩)
    (by kernel_rfl)
end Go.Proofs.YtflgagglkkehiaaDoor.lawBucketRoom
