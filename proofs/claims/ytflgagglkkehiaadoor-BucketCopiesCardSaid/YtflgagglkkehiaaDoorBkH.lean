/- Layer 5: a bucket of the law's own; the chapter's example. -/
import Derived.Test.YtflgagglkkehiaaDoorBkG
namespace Go.Proofs.YtflgagglkkehiaaDoor
open Go.RowKit Go.Maps

/-- A bucket that was made behind w0: nothing older is turned. -/
def Mine (w0 w : World) (p : Nat) (b : Bk) : Prop := ∃ F, BkAt w p b F ∧ (∀ x, x ∈ F → w0.heap.size ≤ x) ∧ Keeps [] w0 w

section
variable {w0 w w' : World} {p : Nat} {b b' : Bk} {F F' : List Nat}
theorem Mine.step (h1 : ∀ x, x ∈ F → w0.heap.size ≤ x) (h2 : Keeps [] w0 w) (h : BkAt w' p b' F') (k : Chg F F' w w') : Mine w0 w' p b' :=
  ⟨F', h, fun x hx => (k.fresh x hx).elim (h1 x) (fun h => Nat.le_trans h2.size h), h2.trans k.keeps (fun x hx => .inr (h1 x hx))⟩
theorem Mine.newer (h : Mine w0 w p b) (k : Keeps [] w w') : Mine w0 w' p b := by
  obtain ⟨F, h1, h2, h3⟩ := h
  exact ⟨F, h1.newer k, h2, h3.trans k (by simp)⟩
theorem Mine.keeps (h : Mine w0 w p b) : Keeps [] w0 w := h.choose_spec.2.2

theorem m_new (q : Nat) (hq : q ≤ 9223372036854775807) (k : Keeps [] w0 w) :
    Calls Tryd.prog 11 #[.int .i64 q] w fun e w' => ∃ p, e = .returned (.tuple #[.pointer (some ⟨p, 0, none⟩), .int .i64 0]) ∧ Mine w0 w' p (newB q) := by
  refine (new_any q w hq).mono ?_
  rintro e w' ⟨p, F, rfl, h1, h2, h3⟩
  exact ⟨p, rfl, F, h1, fun x hx => Nat.le_trans k.size (h2 x hx), k.trans h3 (by simp)⟩
theorem m_put (h : Mine w0 w p b) {N : Nat} (hok : b.ok N) (hN : N ≤ 1000000) (k v : Bs) (hk : k.length ≤ maxLen) :
    Calls Tryd.prog 14 #[.pointer (some ⟨p, 0, none⟩), .string (str k), .string (str v)] w fun e w' => e = .returned (.int .i64 (b.put' k v).1) ∧ Mine w0 w' p (b.put' k v).2 := by
  obtain ⟨F, h1, h2, h3⟩ := h
  refine (bput_any p b F w h1 N hok hN k v hk).mono ?_
  rintro e w' ⟨rfl, F', h4, h5⟩
  exact ⟨rfl, Mine.step h2 h3 h4 h5⟩
theorem m_del (h : Mine w0 w p b) {N : Nat} (hok : b.ok N) (hN : N ≤ 1000000) (k : Bs) (hk : k.length ≤ maxLen) :
    Calls Tryd.prog 36 #[.pointer (some ⟨p, 0, none⟩), .string (str k)] w fun e w' => e = .returned (.int .i64 (b.del' k).1) ∧ Mine w0 w' p (b.del' k).2 := by
  obtain ⟨F, h1, h2, h3⟩ := h
  refine (bdel_any p b F w h1 N hok hN k hk).mono ?_
  rintro e w' ⟨rfl, F', h4, h5⟩
  exact ⟨rfl, Mine.step h2 h3 h4 h5⟩
theorem m_size (h : Mine w0 w p b) {N : Nat} (hok : b.ok N) (k : Bs) (hk : k.length ≤ maxLen) :
    Calls Tryd.prog 18 #[.pointer (some ⟨p, 0, none⟩), .string (str k)] w fun e w' => e = .returned (.tuple #[.int .i64 (b.size k).1, .int .i64 (b.size k).2]) ∧ Mine w0 w' p (b.size2 k) := by
  obtain ⟨F, h1, h2, h3⟩ := h
  refine (bsize_any p b F w h1 k hk hok.f64).mono ?_
  rintro e w' ⟨rfl, h4, h5⟩
  exact ⟨rfl, Mine.step h2 h3 h4 h5⟩
theorem m_get (h : Mine w0 w p b) {N : Nat} (hok : b.ok N) (k : Bs) (hk : k.length ≤ maxLen) (A n : Int) (hA : i64R A) (hn : i64R n) :
    Calls Tryd.prog 17 #[.pointer (some ⟨p, 0, none⟩), .string (str k), .int .i64 A, .int .i64 n] w fun e w' => e = .returned (.tuple #[.string (str (b.get k A n).1), .int .i64 (b.get k A n).2]) ∧ Mine w0 w' p (b.get2 k A n) := by
  obtain ⟨F, h1, h2, h3⟩ := h
  refine (bget_any p b F w h1 N hok k hk A n hA hn).mono ?_
  rintro e w' ⟨rfl, h4, h5⟩
  exact ⟨rfl, Mine.step h2 h3 h4 h5⟩
theorem m_drop (h : Mine w0 w p b) {N : Nat} (hok : b.ok N) (hN : N ≤ 1000000) (n : Int) :
    Calls Tryd.prog 37 #[.pointer (some ⟨p, 0, none⟩), .int .i64 n] w fun e w' => e = .returned (.int .i64 (b.cut n)) ∧ Mine w0 w' p (b.drop n) := by
  obtain ⟨F, h1, h2, h3⟩ := h
  refine (bdrop_any p b F w h1 n (by have := hok.few; omega)).mono ?_
  rintro e w' ⟨rfl, h4, h5⟩
  exact ⟨rfl, Mine.step h2 h3 h4 h5⟩
theorem m_land (h : Mine w0 w p b) {N : Nat} (hok : b.ok N) (hN : N ≤ 1000000) (n : Int) :
    Calls Tryd.prog 16 #[.pointer (some ⟨p, 0, none⟩), .int .i64 n] w fun e w' => e = .returned (.int .i64 (b.cut n)) ∧ Mine w0 w' p (b.land n) := by
  obtain ⟨F, h1, h2, h3⟩ := h
  refine (bland_any p b F w h1 N hok hN n).mono ?_
  rintro e w' ⟨rfl, h4, h5⟩
  exact ⟨rfl, Mine.step h2 h3 h4 h5⟩
theorem m_fates (h : Mine w0 w p b) {N : Nat} (hok : b.ok N) (hN : N ≤ 1000000) (vl : Value) (L : List Int) (hL : SlSrc w vl (L.map intV)) (hl : L.length ≤ 20) :
    Calls Tryd.prog 13 #[.pointer (some ⟨p, 0, none⟩), vl] w fun e w' => e = .returned (.tuple #[]) ∧ Mine w0 w' p (b.fates L) := by
  obtain ⟨F, h1, h2, h3⟩ := h
  refine (fates_any p b F w h1 vl L hL (by have := hok.fl; omega) hl).mono ?_
  rintro e w' ⟨rfl, F', h4, h5⟩
  exact ⟨rfl, Mine.step h2 h3 h4 h5⟩
theorem m_waits (h : Mine w0 w p b) : Calls Tryd.prog 15 #[.pointer (some ⟨p, 0, none⟩)] w fun e w' => e = .returned (.int .i64 b.l.length) ∧ w' = w := by
  obtain ⟨F, h1, h2, h3⟩ := h
  exact waits_any p b F w h1
theorem m_used (h : Mine w0 w p b) : Calls Tryd.prog 19 #[.pointer (some ⟨p, 0, none⟩)] w fun e w' => e = .returned (.int .i64 (usedO b.m)) ∧ w' = w := by
  obtain ⟨F, h1, h2, h3⟩ := h
  exact used_any p b F w h1
theorem newB_ok (q : Nat) (hq : q ≤ 9223372036854775807) (N : Nat) : (newB q).ok N :=
  ⟨List.Pairwise.nil, Nat.zero_le _, hq, by show 0 + 0 ≤ N; omega, by show 0 ≤ 20 * N; omega, (by intro x hx; cases hx), (by intro x hx; cases hx), (by intro x hx; cases hx)⟩
end

theorem SlSrc.lit (w : World) (us : List Value) (t : TypeId) (n : Nat) (hn : us.length = n) : SlSrc (w.alloc (.cells us.toArray t)) (.slice (some ⟨w.heap.size, 0, none⟩) n n) us := by
  subst hn
  refine .inr ⟨_, _, rfl, fun j u hj => ?_⟩
  have e : ((⟨w.heap.size, 0, none⟩ : Addr).add j) = ⟨w.heap.size, j, none⟩ := by unfold Addr.add; split <;> simp_all
  rw [e, cell_of_heap (heap_alloc_self w _)]
  simpa using hj

def aw1 : Bk := (newB 100).fates [3]
def aw2 : Bk := (aw1.put' [97] [120, 121]).2
def aw3 : Bk := aw2.get2 [97] 0 9
def aw4 : Bk := aw3.land 1
def aw5 : Bk := aw4.get2 [97] 0 9
theorem aw_put : (aw1.put' [97] [120, 121]).1 = 34 := by decide
theorem aw_get : aw2.get [97] 0 9 = ([], 15) := by decide
theorem aw_cut : aw3.cut 1 = 1 := by decide
theorem aw_get2 : aw4.get [97] 0 9 = ([120, 121], 0) := by decide
theorem aw_put2 : (aw5.put' [97] [122]).1 = 16 := by decide
theorem aw1_ok : aw1.ok 1 := (newB_ok 100 (by omega) 0).fates [3] (by simp) (by intro x hx; rw [List.mem_singleton] at hx; subst hx; unfold i64R; omega)
theorem Bk.ok.get2 {b : Bk} {N : Nat} (h : b.ok N) (k : Bs) (A n : Int) : (b.get2 k A n).ok N := by
  unfold Bk.get2
  split
  · exact h.tick
  · exact h
theorem Bk.ok.size2 {b : Bk} {N : Nat} (h : b.ok N) (k : Bs) : (b.size2 k).ok N := by
  unfold Bk.size2
  split
  · exact h.tick
  · exact h
theorem Bk.act_l (b : Bk) (c : Cl) : (b.act c).2.l = b.l := by
  unfold Bk.act Bk.put Bk.rem
  repeat' split
  all_goals rfl
theorem Bk.act_q (b : Bk) (c : Cl) : (b.act c).2.q = b.q := by
  unfold Bk.act Bk.put Bk.rem
  repeat' split
  all_goals rfl
theorem landF_l : ∀ (l : List Cl) (b : Bk), (landF b l).l = b.l
  | [], _ => rfl
  | c :: r, b => by
    show (landF (b.act c).2 r).l = _
    rw [landF_l r, Bk.act_l]
theorem Bk.land_l (b : Bk) (n : Int) : (b.land n).l = b.l.drop (b.cut n) := landF_l _ _
theorem Bk.ok.land {b : Bk} {N : Nat} (h : b.ok N) (n : Int) : (b.land n).ok N := by
  have key : ∀ (l : List Cl) (b0 : Bk), b0.ok N → b0.m.length + b0.l.length + l.length ≤ N → (∀ c, c ∈ l → c.2.2.length ≤ 65536) → (l.foldl (fun b c => (b.act c).2) b0).ok N := by
    intro l
    induction l with
    | nil => intro b0 h0 _ _; exact h0
    | cons c r ih =>
      intro b0 h0 hl hn
      rw [List.length_cons] at hl
      have := b0.act_len c
      exact ih _ (h0.actF c (hn c (by simp)) (by omega)) (by show (b0.act c).2.m.length + (b0.act c).2.l.length + r.length ≤ N; omega) (fun c hc => hn c (List.mem_cons_of_mem _ hc))
  refine key _ _ (h.drop n) ?_ (fun c hc => (h.nm c (List.mem_of_mem_take hc)).2)
  have := h.few
  show b.m.length + (b.l.drop (b.cut n)).length + (b.l.take (b.cut n)).length ≤ N
  rw [List.length_drop, List.length_take]
  unfold Bk.cut
  omega

set_option maxHeartbeats 4000000 in
set_option maxRecDepth 100000 in
theorem awake_any (w : World) : Calls Tryd.prog 12 #[] w fun e w' => e = .returned (.bool true) ∧ Keeps [] w w' := by
  have s0 := str_empty
  have sa : ByteArray.mk #[97] = str [97] := rfl
  have sxy : ByteArray.mk #[120, 121] = str [120, 121] := rfl
  have sz : ByteArray.mk #[122] = str [122] := rfl
  have o1 := aw1_ok
  have o2 : aw2.ok 2 := o1.put' _ _
  have o3 : aw3.ok 2 := o2.get2 _ _ _
  have o4 : aw4.ok 2 := o3.land _
  have o5 : aw5.ok 2 := o4.get2 _ _ _
  have N : Hid (Calls Tryd.prog 11 #[.int .i64 100] w fun e w' => ∃ p, e = .returned (.tuple #[.pointer (some ⟨p, 0, none⟩), .int .i64 0]) ∧ Mine w w' p (newB 100)) := m_new (w0 := w) (w := w) 100 (by omega) (Keeps.refl _ _)
  have Fa : Hid (∀ (w1 : World) (p : Nat), Mine w w1 p (newB 100) → Calls Tryd.prog 13 #[.pointer (some ⟨p, 0, none⟩), .slice (some ⟨w1.heap.size, 0, none⟩) 1 1] (w1.alloc (.cells #[.int .i64 3] 3)) fun e w' => e = .returned (.tuple #[]) ∧ Mine w w' p aw1) :=
    fun w1 p h => m_fates (h.newer ((Keeps.refl [] w1).alloc _)) (newB_ok 100 (by omega) 0) (by omega) _ [3] (SlSrc.lit w1 [.int .i64 3] 3 1 rfl) (by simp)
  have Pu : Hid (∀ (w1 : World) (p : Nat), Mine w w1 p aw1 → Calls Tryd.prog 14 #[.pointer (some ⟨p, 0, none⟩), .string (str [97]), .string (str [120, 121])] w1 fun e w' => e = .returned (.int .i64 34) ∧ Mine w w' p aw2) :=
    fun w1 p h => by have := m_put h o1 (by omega) [97] [120, 121] (by decide); rw [aw_put] at this; exact this
  have Ge : Hid (∀ (w1 : World) (p : Nat), Mine w w1 p aw2 → Calls Tryd.prog 17 #[.pointer (some ⟨p, 0, none⟩), .string (str [97]), .int .i64 0, .int .i64 9] w1 fun e w' => e = .returned (.tuple #[.string (str []), .int .i64 15]) ∧ Mine w w' p aw3) :=
    fun w1 p h => by have := m_get h o2 [97] (by decide) 0 9 (by unfold i64R; omega) (by unfold i64R; omega); rw [aw_get] at this; exact this
  have La : Hid (∀ (w1 : World) (p : Nat), Mine w w1 p aw3 → Calls Tryd.prog 16 #[.pointer (some ⟨p, 0, none⟩), .int .i64 1] w1 fun e w' => e = .returned (.int .i64 1) ∧ Mine w w' p aw4) :=
    fun w1 p h => by have := m_land h o3 (by omega) 1; rw [aw_cut] at this; exact this
  have Ge2 : Hid (∀ (w1 : World) (p : Nat), Mine w w1 p aw4 → Calls Tryd.prog 17 #[.pointer (some ⟨p, 0, none⟩), .string (str [97]), .int .i64 0, .int .i64 9] w1 fun e w' => e = .returned (.tuple #[.string (str [120, 121]), .int .i64 0]) ∧ Mine w w' p aw5) :=
    fun w1 p h => by have := m_get h o4 [97] (by decide) 0 9 (by unfold i64R; omega) (by unfold i64R; omega); rw [aw_get2] at this; exact this
  have Pu2 : Hid (∀ (w1 : World) (p : Nat), Mine w w1 p aw5 → Calls Tryd.prog 14 #[.pointer (some ⟨p, 0, none⟩), .string (str [97]), .string (str [122])] w1 fun e w' => e = .returned (.int .i64 16) ∧ Keeps [] w w') :=
    fun w1 p h => by
      refine (m_put h o5 (by omega) [97] [122] (by decide)).mono ?_
      rw [aw_put2]
      rintro e w' ⟨rfl, h⟩
      exact ⟨rfl, h.keeps⟩
  clear o1 o2 o3 o4 o5
  go_enter Tryd.func12, Tryd.ntmps12
  go_wp2_with (first
    | (go_at_call 11; (with_reducible refine (N.out).mono ?_); rintro e w1 ⟨p, rfl, h1⟩)
    | (go_at_call 13; (with_reducible refine (Fa.out _ _ h1).mono ?_); rintro e w2 ⟨rfl, h2⟩)
    | (go_at_call 14; (with_reducible refine (Pu.out _ _ h2).mono ?_); rintro e w3 ⟨rfl, h3⟩)
    | (go_at_call 17; (with_reducible refine (Ge2.out _ _ h5).mono ?_); rintro e w6 ⟨rfl, h6⟩)
    | (go_at_call 17; (with_reducible refine (Ge.out _ _ h3).mono ?_); rintro e w4 ⟨rfl, h4⟩)
    | (go_at_call 16; (with_reducible refine (La.out _ _ h4).mono ?_); rintro e w5 ⟨rfl, h5⟩)
    | (go_at_call 14; (with_reducible refine (Pu2.out _ _ h6).mono ?_); rintro e w7 ⟨rfl, h7⟩))
  go_ret
  exact ⟨rfl, h7⟩
end Go.Proofs.YtflgagglkkehiaaDoor
