/- lighterlaw05.BucketOnce, whatever its input: true, and the input reads as it did. An object is as it was put, as long as it is there: no call turns it. Conditions: the tied card's. -/
import Derived.Test.YtflgagglkkehiaaDoorBkL
import Derived.Test.YtflgagglkkehiaaDoorBkX
import Derived.Test.YtflgagglkkehiaaDoorCards
import Derived.Test.YtflgagglkkehiaaDoorTie
import Derived.SevenTiedAt
namespace Go.Proofs.YtflgagglkkehiaaDoor.lawBucketOnce
open Go.ChangeShapes Go.WideShapes Go.ChangeAt Go.RowKit
open Go.ChangeMaps (open_string shut_string)

def kept : Bs := [107, 101, 112, 116]
/-- It is there, and nothing late takes it away. -/
structure Safe (b : Bk) (v : Bs) : Prop where
  has : getO b.m kept = some v
  late : ∀ c, c ∈ b.l → ¬ (c.1 = false ∧ c.2.1 = kept)

theorem Safe.act {b : Bk} {v : Bs} (h : Safe b v) (c : Cl) (hc : ¬ (c.1 = false ∧ c.2.1 = kept)) : Safe (b.act c).2 v := by
  refine ⟨?_, by rw [Bk.act_l]; exact h.late⟩
  unfold Bk.act
  by_cases h1 : c.1 = true
  · rw [if_pos h1]
    unfold Bk.put
    by_cases h2 : (getO b.m c.2.1).isSome = true
    · rw [if_pos h2]; exact h.has
    · rw [if_neg h2]
      split
      · exact h.has
      · have hne : c.2.1 ≠ kept := fun e => h2 (by rw [e, h.has]; rfl)
        show getO (putO b.m c.2.1 c.2.2) kept = some v
        rw [get_put_other _ hne]; exact h.has
  · rw [if_neg h1]
    have hne : c.2.1 ≠ kept := fun e => hc ⟨by simpa using h1, e⟩
    unfold Bk.rem
    split
    · show getO (delO b.m c.2.1) kept = some v
      rw [get_del_other hne]; exact h.has
    · exact h.has
theorem Safe.tick {b : Bk} {v : Bs} (h : Safe b v) : Safe b.tick v := ⟨h.has, h.late⟩
theorem Safe.does {b : Bk} {v : Bs} (h : Safe b v) (c : Cl) (hc : ¬ (c.1 = false ∧ c.2.1 = kept)) : Safe (b.does c).2 v := by
  unfold Bk.does
  split
  · exact h.tick.act c hc
  split
  · exact h.tick.act c hc
  split
  · refine ⟨h.has, fun x hx => ?_⟩
    rcases List.mem_append.1 hx with hx | hx
    · exact h.late x hx
    · rw [List.mem_singleton.1 hx]; exact hc
  · exact h.tick
theorem Safe.landF {v : Bs} : ∀ (l : List Cl) (b : Bk), Safe b v → (∀ c, c ∈ l → ¬ (c.1 = false ∧ c.2.1 = kept)) → Safe (landF b l) v
  | [], _, h, _ => h
  | c :: r, b, h, hl => Safe.landF r _ (h.act c (hl c (by simp))) (fun c hc => hl c (List.mem_cons_of_mem _ hc))
theorem Safe.drop {b : Bk} {v : Bs} (h : Safe b v) (n : Int) : Safe (b.drop n) v := ⟨h.has, fun c hc => h.late c (List.mem_of_mem_drop hc)⟩
theorem Safe.land {b : Bk} {v : Bs} (h : Safe b v) (n : Int) : Safe (b.land n) v := Safe.landF _ _ (h.drop n) (fun c hc => h.late c (List.mem_of_mem_take hc))
theorem Safe.doO {b : Bk} {v : Bs} (h : Safe b v) (o : OpR) (ho : ¬ (o.ask = 4 ∧ o.name = kept)) : Safe (b.doO o).2 v := by
  unfold Bk.doO
  by_cases h0 : o.ask = 0
  · rw [if_pos h0]
    show Safe (b.put' _ _).2 v
    unfold Bk.put'
    split
    · exact h.does _ (by rintro ⟨h1, _⟩; cases h1)
    · exact h
  rw [if_neg h0]
  by_cases h1 : o.ask = 1
  · rw [if_pos h1]
    show Safe (b.get2 _ _ _) v
    unfold Bk.get2
    split
    · exact h.tick
    · exact h
  rw [if_neg h1]
  by_cases h2 : o.ask = 2
  · rw [if_pos h2]
    show Safe (b.size2 _) v
    unfold Bk.size2
    split
    · exact h.tick
    · exact h
  rw [if_neg h2]
  by_cases h3 : o.ask = 3
  · rw [if_pos h3]; exact h.tick
  rw [if_neg h3]
  by_cases h4 : o.ask = 4
  · rw [if_pos h4]
    show Safe (b.del' _).2 v
    unfold Bk.del'
    split
    · exact h.does _ (fun ⟨_, h2⟩ => ho ⟨h4, h2⟩)
    · exact h
  rw [if_neg h4]
  by_cases h5 : o.ask = 5
  · rw [if_pos h5]; exact ⟨h.has, h.late⟩
  rw [if_neg h5]
  by_cases h6 : o.ask = 6
  · rw [if_pos h6]; exact h.land _
  · rw [if_neg h6]; exact h.drop _
def skips (o : OpR) : Bool := decide (o.ask = 4 ∧ o.name = kept)
def runO (b : Bk) (l : List OpR) : Bk := l.foldl (fun b o => if skips o then b else (b.doO o).2) b
theorem runO_snoc (b : Bk) (l : List OpR) (o : OpR) : runO b (l ++ [o]) = if skips o then runO b l else ((runO b l).doO o).2 := by
  unfold runO
  rw [List.foldl_append]
  rfl
theorem runO_from {v : Bs} : ∀ (l : List OpR) (b : Bk) (N : Nat), Safe b v → b.ok N → (∀ o, o ∈ l → o.L.length ≤ 20 ∧ ∀ x, x ∈ o.L → i64R x) → Safe (runO b l) v ∧ (runO b l).ok (N + l.length)
  | [], b, N, h1, h2, _ => ⟨h1, h2⟩
  | o :: r, b, N, h1, h2, h => by
    have ho := h o (by simp)
    have hr : ∀ o, o ∈ r → o.L.length ≤ 20 ∧ ∀ x, x ∈ o.L → i64R x := fun o hx => h o (List.mem_cons_of_mem _ hx)
    show Safe (runO (if skips o then b else (b.doO o).2) r) v ∧ (runO (if skips o then b else (b.doO o).2) r).ok (N + (r.length + 1))
    rw [show N + (r.length + 1) = (N + 1) + r.length by omega]
    by_cases h5 : skips o = true
    · rw [if_pos h5]; exact runO_from r b (N + 1) h1 (h2.mono (by omega)) hr
    · rw [if_neg h5]
      have h6 : ¬ (o.ask = 4 ∧ o.name = kept) := by unfold skips at h5; simpa using h5
      exact runO_from r _ (N + 1) (h1.doO o h6) (h2.doO o ho.1 ho.2) hr
def b0 (v : Bs) : Bk := ⟨[(kept, v)], 1048576, [], []⟩
theorem put0 (v : Bs) (hv : v.length ≤ 200) : (newB 1048576).put' kept v = (0, b0 v) := by
  have h : (nameB kept && decide (v.length ≤ 65536)) = true := by rw [decide_eq_true (by omega)]; rfl
  unfold Bk.put'
  rw [if_pos h]
  have h2 : (newB 1048576).does (true, kept, v) = (newB 1048576).put kept v := rfl
  rw [h2]
  unfold Bk.put
  rw [if_neg (by show ¬ false = true; decide), if_neg (by show ¬ 1048576 < 0 + v.length; omega)]
  rfl
theorem safe0 (v : Bs) : Safe (b0 v) v := ⟨rfl, by intro c hc; cases hc⟩
def tickN (b : Bk) (k : Nat) : Bk := { b with f := b.f.drop k }
theorem tickN_succ (b : Bk) (k : Nat) : (tickN b k).size2 kept = tickN b (k + 1) := by
  show (tickN b k).tick = _
  unfold tickN Bk.tick
  simp only [List.drop_drop]
theorem tickN_ok {b : Bk} {N : Nat} (h : b.ok N) (k : Nat) : (tickN b k).ok N :=
  ⟨h.srt, h.fits, h.q63, h.few, by have := h.fl; show (b.f.drop k).length ≤ _; rw [List.length_drop]; omega, fun x hx => h.f64 x (List.mem_of_mem_drop hx), h.nm, h.ln⟩
theorem land_fs (l : List Cl) : ∀ b : Bk, (landF b l).f = b.f := by
  induction l with
  | nil => intro b; rfl
  | cons c r ih => intro b; show (landF (b.act c).2 r).f = _; rw [ih, Bk.act_fates]
/-- What is there at last. -/
structure Last (b : Bk) (v : Bs) : Prop where
  safe : Safe b v
  f0 : b.f = []
theorem Last.look {b : Bk} {v : Bs} (h : Last b v) : b.look kept = (v, 0) := by
  unfold Bk.look Bk.fate
  rw [h.f0, h.safe.has]
  rfl
theorem Last.tick {b : Bk} {v : Bs} (h : Last b v) : Last b.tick v := ⟨h.safe.tick, by show b.f.drop 1 = []; rw [h.f0]; rfl⟩
theorem nk : nameB kept = true := by decide
theorem Last.get {b : Bk} {v : Bs} (h : Last b v) (hv : v.length ≤ 200) : b.get kept 0 1000 = (v, 0) := by
  unfold Bk.get
  rw [if_pos (by rw [nk]; decide), h.look, if_pos rfl, if_neg (by show ¬ ((v.length : Int) < 0); omega)]
  show (List.take 1000 (v.drop 0), (0 : Int)) = _
  rw [List.drop_zero, List.take_of_length_le (by omega)]
theorem Last.far {b : Bk} {v : Bs} (h : Last b v) : b.get kept ((v.length : Int) + 1) 1 = ([], 31) := by
  unfold Bk.get
  rw [if_pos (by rw [nk, decide_eq_true (show (0 : Int) ≤ (v.length : Int) + 1 by omega)]; rfl), h.look, if_pos rfl, if_pos (by show (v.length : Int) < (v.length : Int) + 1; omega)]
theorem Last.size {b : Bk} {v : Bs} (h : Last b v) : b.size kept = ((v.length : Int), 0) := by
  unfold Bk.size
  rw [if_pos nk, h.look]
theorem get2_tick (b : Bk) (A n : Int) (hA : 0 ≤ A) (hn : 0 ≤ n) : b.get2 kept A n = b.tick := by
  unfold Bk.get2
  rw [if_pos (by rw [nk, decide_eq_true hA, decide_eq_true hn]; rfl)]
theorem Last.put {b : Bk} {v : Bs} (h : Last b v) (u : Bs) (hu : u.length ≤ 65536) : (b.put' kept u).1 = 16 := by
  unfold Bk.put'
  rw [if_pos (by rw [nk, decide_eq_true hu]; rfl)]
  unfold Bk.does
  have hf : b.fate = 0 := by unfold Bk.fate; rw [h.f0]
  rw [if_pos hf]
  show (b.tick.put kept u).1 = 16
  unfold Bk.put
  rw [if_pos (by rw [h.tick.safe.has]; rfl)]

set_option maxHeartbeats 4000000 in
set_option maxRecDepth 100000 in
theorem walk_out (l : List OpR) (v : Value) (G : List Nat) (t : Bs) (w : World) (hv : SlRows w v OpR.vals 6 l G) (hg : ∀ o, o ∈ l → o.good w) (hl : l.length ≤ 9223372036854775807) (h : ¬ (few l = true ∧ t.length ≤ 200)) :
    Calls Tryd.prog 5 #[.string (str t), v] w fun e w' => e = .returned (.bool true) ∧ Keeps [] w w' := by
  have N : Hid (Calls Tryd.prog 11 #[.int .i64 1048576] w fun e w' => ∃ p, e = .returned (.tuple #[.pointer (some ⟨p, 0, none⟩), .int .i64 0]) ∧ Mine w w' p (newB 1048576)) := m_new (w0 := w) (w := w) 1048576 (by omega) (Keeps.refl _ _)
  have Aw := Lib.hid awake_any
  have Fe := Lib.hid (show ∀ w', Keeps [] w w' → _ from fun w' k => few_any l v G w' (hv.keep k (by simp)) (fun o ho => (hg o ho).newer k) hl)
  clear hv hg
  by_cases h1 : t.length ≤ 200
  · have h2 : few l = false := Bool.eq_false_iff.2 (fun h2 => h ⟨h2, h1⟩)
    have hlt : decide ((200 : Int) < (t.length : Int)) = false := decide_eq_false (by omega)
    rw [h2] at Fe
    clear h h1 h2
    go_enter Tryd.func5, Tryd.ntmps5
    go_wp2_with (first
      | (go_at_call 11; (with_reducible refine (N.out).mono ?_); rintro e w1 ⟨p, rfl, m1⟩)
      | (go_at_call 20; (with_reducible refine (Fe.out _ m1.keeps).mono ?_); rintro e w2 ⟨rfl, k2⟩)
      | (go_at_call 12; (with_reducible refine (Aw.out _).mono ?_); rintro e w9 ⟨rfl, k9⟩))
    go_ret
    exact ⟨rfl, m1.keeps.trans (k2.trans k9 (by simp)) (by simp)⟩
  · have hlt : decide ((200 : Int) < (t.length : Int)) = true := decide_eq_true (by omega)
    clear h h1
    go_enter Tryd.func5, Tryd.ntmps5
    go_wp2_with (first
      | (go_at_call 11; (with_reducible refine (N.out).mono ?_); rintro e w1 ⟨p, rfl, m1⟩)
      | (go_at_call 12; (with_reducible refine (Aw.out _).mono ?_); rintro e w9 ⟨rfl, k9⟩))
    go_ret
    exact ⟨rfl, m1.keeps.trans k9 (by simp)⟩

set_option maxHeartbeats 8000000 in
set_option maxRecDepth 100000 in
theorem walk (l : List OpR) (v : Value) (G : List Nat) (t : Bs) (w : World) (hv : SlRows w v OpR.vals 6 l G) (hg : ∀ o, o ∈ l → o.good w) (hfew : few l = true) (ht : t.length ≤ 200) :
    Calls Tryd.prog 5 #[.string (str t), v] w fun e w' => e = .returned (.bool true) ∧ Keeps [] w w' := by
  have sk : ByteArray.mk #[107, 101, 112, 116] = str kept := rfl
  have so : ByteArray.mk #[111, 116, 104, 101, 114] = str [111, 116, 104, 101, 114] := rfl
  obtain ⟨hl60, hsp⟩ := few_spec hfew
  have N : Hid (Calls Tryd.prog 11 #[.int .i64 1048576] w fun e w' => ∃ p, e = .returned (.tuple #[.pointer (some ⟨p, 0, none⟩), .int .i64 0]) ∧ Mine w w' p (newB 1048576)) := m_new (w0 := w) (w := w) 1048576 (by omega) (Keeps.refl _ _)
  have Aw := Lib.hid awake_any
  have Fe := Lib.hid (show ∀ w', Keeps [] w w' → _ from fun w' k => few_any l v G w' (hv.keep k (by simp)) (fun o ho => (hg o ho).newer k) (by omega))
  rw [hfew] at Fe
  have hok0 : (b0 t).ok 1 := by
    have := (newB_ok 1048576 (by omega) 0).put' kept t
    rw [put0 t ht] at this
    exact this
  have P0 : Hid (∀ (w1 : World) (p : Nat), Mine w w1 p (newB 1048576) → Calls Tryd.prog 14 #[.pointer (some ⟨p, 0, none⟩), .string (str kept), .string (str t)] w1 fun e w' => e = .returned (.int .i64 0) ∧ Mine w w' p (b0 t)) :=
    fun w1 p h => by have := m_put h (newB_ok 1048576 (by omega) 0) (by omega) kept t (by decide); rw [put0 t ht] at this; exact this
  have Hrs := Lib.hid (runO_from l (b0 t) 1 (safe0 t) hok0 (fun o ho => ⟨(hsp o ho).2.2, (hg o ho).L⟩))
  have Hrk := Lib.hid (fun k => (runO_from (l.take k) (b0 t) 1 (safe0 t) hok0 (fun o ho => ⟨(hsp o (List.mem_of_mem_take ho)).2.2, (hg o (List.mem_of_mem_take ho)).L⟩)).2)
  have Hv := Lib.hid hv
  have Hg := Lib.hid hg
  have Hsp := Lib.hid hsp
  obtain ⟨ad, cap, rfl, _⟩ := hv
  have hlt : decide ((200 : Int) < (t.length : Int)) = false := decide_eq_false (by omega)
  clear hg hfew hsp hok0
  go_enter Tryd.func5, Tryd.ntmps5
  go_wp2_with (first
    | (go_at_call 11; (with_reducible refine (N.out).mono ?_); rintro e w1 ⟨p, rfl, m1⟩)
    | (go_at_call 20; (with_reducible refine (Fe.out _ m1.keeps).mono ?_); rintro e w2 ⟨rfl, k2⟩; have m2 := m1.newer k2)
    | (go_at_call 14; (with_reducible refine (P0.out _ _ m2).mono ?_); rintro e w3 ⟨rfl, m3⟩))
  clear m1 k2 m2
  go_loopw [7] (fun iv wr => ∃ k : Nat, k ≤ l.length ∧ iv = .int .i64 k ∧ Mine w wr p (runO (b0 t) (l.take k))) (fun iv _ => l.length - (intOf iv).toNat)
  case atStart => exact ⟨0, Nat.zero_le _, rfl, m3⟩
  case round =>
    obtain ⟨k, hk, rfl, mk⟩ := hrel
    clear m3
    have hkk := mk.keeps
    by_cases hlk : k < l.length
    · obtain ⟨o, ho⟩ : ∃ o, l[k]? = some o := ⟨l[k], by simp [hlk]⟩
      obtain ⟨b, off, rfl, _, hc⟩ := Hv.out.at ho
      have hmem := List.mem_of_getElem? ho
      have hgd := (Hg.out o hmem).newer hkk
      have hra : wr.rangeAt b (off + k * 6) o.vals := fun j u hj => hkk.cell0 (hc j u hj)
      have hc0 : wr.cell? ⟨b, off + k * 6, none⟩ = some (.int .i64 o.ask) := hra 0 _ rfl
      have hc1 : wr.cell? ⟨b, off + k * 6 + 1, none⟩ = some (.string (str o.name)) := hra 1 _ rfl
      have hst : l.take (k + 1) = l.take k ++ [o] := by rw [List.take_add_one, ho]; rfl
      have hok := (Hrk.out k).mono (M := 61) (by rw [List.length_take]; omega)
      have hnx := runO_snoc (b0 t) (l.take k) o
      rw [← hst] at hnx
      generalize runO (b0 t) (l.take k) = bk at *
      have Hdo := Lib.hid (m_do mk hok (by omega) o hgd (Hsp.out o hmem).2.2)
      have hki : (k : Int) < (l.length : Int) := by omega
      have hki0 : (0 : Int) ≤ (k : Int) := by omega
      have hso : (Tryd.prog.info? 42).map (·.size) = some o.vals.length := sizeOp
      have Hso := Lib.hid hso
      have Hra := Lib.hid hra
      have Hnx := Lib.hid hnx
      have Mk := Lib.hid mk
      clear hc hra hso hnx mk hok hst ho hgd hkk
      by_cases h4 : o.ask = 4
      · have hb4 : (o.ask == 4) = true := beq_iff_eq.2 h4
        by_cases hn : o.name = kept
        · have hbn : (o.name == kept) = true := beq_iff_eq.2 hn
          have hsk : skips o = true := by unfold skips; simp [h4, hn]
          rw [if_pos hsk] at Hnx
          clear h4 hn hsk
          go_wp2
          go_roundw
          case rel => exact ⟨k + 1, by omega, by go_num, by rw [Hnx.out]; exact Mk.out⟩
          case measure => simp [intOf]; omega
        · have hbn : (o.name == kept) = false := beq_eq_false_iff_ne.2 hn
          have hsk : ¬ skips o = true := by unfold skips; simp [hn]
          rw [if_neg hsk] at Hnx
          clear h4 hn hsk
          go_wp2_with (first
            | ((with_reducible refine wpList_run (w' := wr) (o := ⟨some 72, _, _, _, _, _⟩) ?_ (.agg o.vals.toArray) ?_ ?_); exact rfl; exact exec_load wr 42 b (off + k * 6) o.vals _ Hra.out Tryd.underlying42 rfl Hso.out _ _ (.tmp 71) rfl rfl)
            | (go_at_call 21; (with_reducible refine (Hdo.out).mono ?_); rintro e w4 ⟨lv, rfl, _, m4⟩))
          go_roundw
          case rel => exact ⟨k + 1, by omega, by go_num, by rw [Hnx.out]; exact m4⟩
          case measure => simp [intOf]; omega
      · have hb4 : (o.ask == 4) = false := beq_eq_false_iff_ne.2 h4
        have hsk : ¬ skips o = true := by unfold skips; simp [h4]
        rw [if_neg hsk] at Hnx
        clear h4 hsk
        go_wp2_with (first
          | ((with_reducible refine wpList_run (w' := wr) (o := ⟨some 72, _, _, _, _, _⟩) ?_ (.agg o.vals.toArray) ?_ ?_); exact rfl; exact exec_load wr 42 b (off + k * 6) o.vals _ Hra.out Tryd.underlying42 rfl Hso.out _ _ (.tmp 71) rfl rfl)
          | (go_at_call 21; (with_reducible refine (Hdo.out).mono ?_); rintro e w4 ⟨lv, rfl, _, m4⟩))
        go_roundw
        case rel => exact ⟨k + 1, by omega, by go_num, by rw [Hnx.out]; exact m4⟩
        case measure => simp [intOf]; omega
    · obtain rfl : k = l.length := by omega
      rw [List.take_length] at mk
      obtain ⟨hsf, hok⟩ := Hrs.out
      have hok' := hok.mono (M := 61) (by omega)
      generalize runO (b0 t) l = bk at *
      have hok'' := Lib.hid hok'
      have Hsf := Lib.hid hsf
      have Mk := Lib.hid mk
      have Si : Hid (∀ (w1 : World) (k : Nat), Mine w w1 p (tickN bk k) → Calls Tryd.prog 18 #[.pointer (some ⟨p, 0, none⟩), .string (str kept)] w1 fun e w' => e = .returned (.tuple #[.int .i64 ((tickN bk k).size kept).1, .int .i64 ((tickN bk k).size kept).2]) ∧ Mine w w' p (tickN bk (k + 1))) :=
        fun w1 k h => by have := m_size h (tickN_ok hok' k) kept (by decide); rw [tickN_succ] at this; exact this
      clear hok hok' hsf mk hkk hlk hk
      go_wp2
      go_loopw [8] (fun iv wr => ∃ k : Nat, k ≤ 1300 ∧ iv = .int .i64 k ∧ Mine w wr p (tickN bk k)) (fun iv _ => 1300 - (intOf iv).toNat)
      case atStart => exact ⟨0, Nat.zero_le _, rfl, Mk.out⟩
      case round =>
        obtain ⟨k, hk, rfl, m5⟩ := hrel
        by_cases hlk : k < 1300
        · have hki : (k : Int) < 1300 := by omega
          have Hsi := Lib.hid (Si.out _ _ m5)
          clear m5
          go_wp2_with (go_at_call 18; (with_reducible refine (Hsi.out).mono ?_); rintro e w6 ⟨rfl, m6⟩)
          go_roundw
          case rel => exact ⟨k + 1, by omega, by go_num, m6⟩
          case measure => simp [intOf]; omega
        · obtain rfl : k = 1300 := by omega
          have hl0 : Last (tickN bk 1300) t := ⟨⟨Hsf.out.has, Hsf.out.late⟩, List.drop_eq_nil_of_le (by have := hok''.out.fl; omega)⟩
          have ho5 := tickN_ok hok''.out 1300
          generalize tickN bk 1300 = b5 at *
          have hl6 : Last (b5.land 1000) t := ⟨hl0.safe.land 1000, by unfold Bk.land; exact (land_fs _ _).trans hl0.f0⟩
          have ho6 := ho5.land 1000
          have La := Lib.hid (m_land m5 ho5 (by omega) 1000)
          generalize b5.land 1000 = b6 at *
          have Ge := Lib.hid (show ∀ w1, Mine w w1 p b6 → _ from fun w1 h => by
            have := m_get h ho6 kept (by decide) 0 1000 (by unfold i64R; omega) (by unfold i64R; omega)
            rw [hl6.get ht, get2_tick _ _ _ (by omega) (by omega)] at this
            exact this)
          have ho7 := ho6.tick
          have hl7 := hl6.tick
          generalize b6.tick = b7 at *
          have Sz := Lib.hid (show ∀ w1, Mine w w1 p b7 → _ from fun w1 h => by
            have := m_size h ho7 kept (by decide)
            rw [hl7.size, show b7.size2 kept = b7.tick from by unfold Bk.size2; rw [if_pos nk]] at this
            exact this)
          have ho8 := ho7.tick
          have hl8 := hl7.tick
          generalize b7.tick = b8 at *
          have Gf := Lib.hid (show ∀ w1, Mine w w1 p b8 → _ from fun w1 h => by
            have := m_get h ho8 kept (by decide) ((t.length : Int) + 1) 1 (by unfold i64R; omega) (by unfold i64R; omega)
            rw [hl8.far, get2_tick _ _ _ (by omega) (by omega)] at this
            exact this)
          have ho9 := ho8.tick
          have hl9 := hl8.tick
          generalize b8.tick = b9 at *
          have Pu := Lib.hid (show ∀ w1, Mine w w1 p b9 → _ from fun w1 h => by
            have := m_put h ho9 (by omega) kept [111, 116, 104, 101, 114] (by decide)
            rw [hl9.put _ (by decide)] at this
            exact this)
          have hw : IntKind.i64.wrap ((t.length : Int) + 1) = (t.length : Int) + 1 := by rw [IntWalk.i64_in _ ⟨by omega, by omega⟩]
          have htt : (t == t) = true := by simp
          clear hl0 ho5 hl6 ho6 ho7 hl7 ho8 hl8 ho9 hl9 m5 hk hlk
          go_wp2_with (first
            | (go_at_call 16; (with_reducible refine (La.out).mono ?_); rintro e w10 ⟨rfl, m10⟩)
            | (go_at_call 17; (with_reducible refine (Gf.out _ m12).mono ?_); rintro e w13 ⟨rfl, m13⟩)
            | (go_at_call 17; (with_reducible refine (Ge.out _ m10).mono ?_); rintro e w11 ⟨rfl, m11⟩)
            | (go_at_call 18; (with_reducible refine (Sz.out _ m11).mono ?_); rintro e w12 ⟨rfl, m12⟩)
            | (go_at_call 14; (with_reducible refine (Pu.out _ m13).mono ?_); rintro e w14 ⟨rfl, m14⟩)
            | (go_at_call 12; (with_reducible refine (Aw.out _).mono ?_); rintro e w15 ⟨rfl, k15⟩))
          go_ret
          exact ⟨rfl, m14.keeps.trans k15 (by simp)⟩

theorem walk_any (l : List OpR) (v : Value) (G : List Nat) (t : ByteArray) (W : World) (hv : SlRows W v OpR.vals 6 l G) (hg : ∀ o, o ∈ l → o.good W) (hl : l.length ≤ 9223372036854775807) :
    Calls Tryd.prog 5 #[.string t, v] W fun e w' => e = .returned (.bool true) ∧ Keeps [] W w' := by
  rw [← str_self t]
  by_cases h : few l = true ∧ t.data.toList.length ≤ 200
  · exact walk l v G _ W hv hg h.1 h.2
  · exact walk_out l v G _ W hv hg hl h

-- ROWEND
set_option maxRecDepth 100000 in
theorem lifted (os : Os) (started : os.Started) (H : Type) (enc : TypeId × Value → H) :
    ReturnsInHanded {} Tryd.checked os 5 .any (fun w args => (Rows.bucketOnceSpec.pre enc Tryd.prog Tryd.f5 [] false w args ∧ laidMetH Tryd.prog laidU w) ∧ sizedMet enc Tryd.prog Tryd.f5 (OpenSpec.ofChange Rows.bucketOnceSpec) false w args)
      (Rows.bucketOnceSpec.post enc Tryd.prog Tryd.f5 false true false false) := by
  refine returnsInHanded_of_change_and (C := Tryd.checked) (X := fun w _ => laidMetH Tryd.prog laidU w) (fun _ _ _ hh h => h.of_heap hh) Tryd.own started (by kernel_rfl) Tryd.func5
    (ChangeSpec.witness_shaped (enc := enc) (C := Tryd.checked) (os := os) (X := fun w _ => laidMetH Tryd.prog laidU w) false (World.laidAll Tryd.prog os laidU) #[.string .empty, .slice none 0 0] 8 (World.laidAll_os _ _ _) (World.shaped_of_ZipB (by kernel_rfl) (by kernel_rfl)) (by kernel_rfl) (by kernel_rfl) (by kernel_rfl) (by rw [MakeChecks.laidMetH_plain _ _ _ (by kernel_rfl)]; exact laidMet_laidAll _ (by kernel_rfl) (by kernel_rfl))) ?_
  intro W base args ds gs before hval0 hW _ _ hL _
  have hval : ∀ (j : Nat) t v, Tryd.f5.params[j]? = some t → args[j]? = some v → Value.okWide Tryd.prog W .any base t v := hval0
  have hW' := hW
  obtain ⟨p, q, hA0, hV, rfl, hfz, hnd⟩ := hW
  have hA : DataW.TrodAll enc Tryd.prog W 0 (fun _ => true) true Tryd.f5.params.toList args.toList ds p := hA0
  rw [Tryd.params5] at hA hval
  obtain ⟨v0, vs0, d0, ds0, p0, q0, hargs, rfl, rfl, h0, r0⟩ := trodAll_cons hA
  obtain ⟨v1, vs1, d1, ds1, p1, q1, rfl, rfl, rfl, h1, r1⟩ := trodAll_cons r0
  obtain ⟨rfl, rfl, rfl⟩ := trodAll_nil r1
  obtain rfl : args = #[v0, v1] := by cases args; simp_all
  obtain ⟨t, rfl, rfl, rfl, wt⟩ := open_string Tryd.underlying9 (hval 0 9 v0 rfl rfl) h0
  unfold maxLen at wt
  obtain ⟨l, Gl, hl, gl, bl, ll⟩ := open_rows OpR.vals (OpR.good W) 6 (by kernel_rfl) (by decide) Tryd.underlying38 (hval 1 38 v1 rfl rfl) (fun _ _ _ h => elem_op h) h1
  refine (walk_any l v1 Gl t W hl gl ll).mono fun e W' ⟨he, hk⟩ => ?_
  subst he
  exact ⟨_, rfl, law_end Tryd.laidOut (by kernel_rfl) rfl rfl Tryd.underlying4 hW' rfl hk⟩

theorem row_holds : Rows.BucketOnceSaid :=
  OpenClaim.holds_of_wide 5 Tryd.f5 rfl rfl rfl rfl rfl rfl rfl ⟨rfl, rfl, rfl, rfl, rfl⟩ rfl rfl rfl rfl rfl (by kernel_rfl) Tryd.func5 (by kernel_rfl)
    (of_decide_eq_true (by kernel_rfl)) (by unfold Func.isWrapper; first | (rw [if_pos (by decide +kernel)]; kernel_rfl) | (rw [if_neg (by decide +kernel)]; exact ⟨rfl, rfl⟩))
    (fun os started H enc _ => lifted os started H enc)
theorem proved : Rows.BucketOnceCardSaid :=
  Claim7.holds_tied_plain_at .later [] [.data, .pinned] true (true, "e4129f4e5938461e8878458e06df438afec1d99629e799e21c52c19d7c204c58") true
    row_holds (fun _ h => by cases h) (by kernel_rfl) (fun _ h => by cases h) bucketOnce_row_tie rfl ⟨rfl, rfl⟩ (by kernel_rfl) rfl
    (fun f fn hf hfn => by
      obtain rfl : f = 5 := Option.some.inj ((show Tryd.prog.funcNamed "lighter/lighterlaw05.BucketOnce" = some 5 by kernel_rfl).symm.trans hf) |>.symm
      obtain rfl : fn = Tryd.f5 := (Option.some.inj (Tryd.func5.symm.trans hfn)).symm
      exact ⟨by kernel_rfl, fun j t ht => by
        rw [Tryd.params5] at ht
        have hm : t ∈ [9, 38] := by simpa using Array.mem_of_getElem? ht
        have hall : ([9, 38].all fun u => !Tryd.prog.wantsStandIn u) = true := by kernel_rfl
        exact (show Tryd.prog.wantsStandIn t = false by simpa using List.all_eq_true.1 hall t hm)⟩)
    (by kernel_rfl)
end Go.Proofs.YtflgagglkkehiaaDoor.lawBucketOnce
