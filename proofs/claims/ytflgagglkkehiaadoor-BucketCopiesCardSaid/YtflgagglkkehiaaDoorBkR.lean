/- Layer 5, the document's answer in memory: next, Find, Used, Name. -/
import Derived.Test.YtflgagglkkehiaaDoorBkL
import Derived.Test.YtflgagglkkehiaaDoorBkQ
namespace Go.Proofs.YtflgagglkkehiaaDoor
open Go.RowKit Go.Maps

def objV (x : Bs × Bs) : List Value := [.string (str x.1), .string (str x.2)]
def rcV (c : Cl) : List Value := [.bool c.1, .string (str c.2.1), .string (str c.2.2)]

structure RfC (w : World) (p : Nat) (b : Bk) (F : List Nat) (ov fv lv : Value) (Go' Gf Gl : List Nat) : Prop where
  cells : w.heap[p]? = some (.cells #[ov, .int .i64 b.q, fv, lv] 58)
  obj : RowAt w 2 ov b.m.length (b.m.flatMap objV) Go'
  fat : RowAt w 1 fv b.f.length (b.f.map intV) Gf
  row : RowAt w 3 lv b.l.length (b.l.flatMap rcV) Gl
  foot : F = p :: (Go' ++ (Gf ++ Gl))
  po : p ∉ Go'
  pf : p ∉ Gf
  pl : p ∉ Gl
  of : ∀ x, x ∈ Gf → x ∉ Go'
  ol : ∀ x, x ∈ Gl → x ∉ Go'
  fl : ∀ x, x ∈ Gf → x ∉ Gl
def RfAt (w : World) (p : Nat) (b : Bk) (F : List Nat) : Prop := ∃ ov fv lv Go' Gf Gl, RfC w p b F ov fv lv Go' Gf Gl

namespace RfC
variable {w w' : World} {p : Nat} {b : Bk} {F Go' Gf Gl : List Nat} {ov fv lv : Value}
theorem lt (h : RfC w p b F ov fv lv Go' Gf Gl) : ∀ x, x ∈ F → x < w.heap.size := by
  intro x hx
  rw [h.foot] at hx
  simp only [List.mem_cons, List.mem_append] at hx
  rcases hx with rfl | hx | hx | hx
  · exact (Array.getElem?_eq_some_iff.1 h.cells).1
  · exact h.obj.lt x hx
  · exact h.fat.lt x hx
  · exact h.row.lt x hx
theorem keep {G : List Nat} (h : RfC w p b F ov fv lv Go' Gf Gl) (k : Keeps G w w') (hd : ∀ x, x ∈ F → x ∉ G) : RfC w' p b F ov fv lv Go' Gf Gl := by
  have hF := h.foot
  exact ⟨k.some h.cells (hd p (by rw [hF]; simp)), h.obj.keep k (fun x hx => hd x (by rw [hF]; simp [hx])), h.fat.keep k (fun x hx => hd x (by rw [hF]; simp [hx])), h.row.keep k (fun x hx => hd x (by rw [hF]; simp [hx])), hF, h.po, h.pf, h.pl, h.of, h.ol, h.fl⟩
theorem newer (h : RfC w p b F ov fv lv Go' Gf Gl) (k : Keeps [] w w') : RfC w' p b F ov fv lv Go' Gf Gl := h.keep k (by simp)
/-- The fates have turned. -/
theorem setF (h : RfC w p b F ov fv lv Go' Gf Gl) {fv' : Value} {f' : List Int} {Gf' : List Nat} (hf : RowAt w 1 fv' f'.length (f'.map intV) Gf') (hp : p ∉ Gf') (ho : ∀ x, x ∈ Gf' → x ∉ Go') (hl : ∀ x, x ∈ Gf' → x ∉ Gl) :
    RfC (w.setCell ⟨p, 2, none⟩ fv') p { b with f := f' } (p :: (Go' ++ (Gf' ++ Gl))) ov fv' lv Go' Gf' Gl ∧ Keeps [p] w (w.setCell ⟨p, 2, none⟩ fv') := by
  have k : Keeps [p] w (w.setCell ⟨p, 2, none⟩ fv') := (Keeps.refl [p] w).setCell (p := ⟨p, 2, none⟩) (by simp) fv'
  have ap : ∀ {G : List Nat}, p ∉ G → ∀ x, x ∈ G → x ∉ [p] := fun hn x hx => by rw [List.mem_singleton]; rintro rfl; exact hn hx
  exact ⟨⟨heap_setCell h.cells 2 fv', h.obj.keep k (ap h.po), hf.keep k (ap hp), h.row.keep k (ap h.pl), rfl, h.po, hp, h.pl, ho, h.ol, hl⟩, k⟩
theorem setL (h : RfC w p b F ov fv lv Go' Gf Gl) {lv' : Value} {l' : List Cl} {Gl' : List Nat} (hf : RowAt w 3 lv' l'.length (l'.flatMap rcV) Gl') (hp : p ∉ Gl') (ho : ∀ x, x ∈ Gl' → x ∉ Go') (hl : ∀ x, x ∈ Gf → x ∉ Gl') :
    RfC (w.setCell ⟨p, 3, none⟩ lv') p { b with l := l' } (p :: (Go' ++ (Gf ++ Gl'))) ov fv lv' Go' Gf Gl' ∧ Keeps [p] w (w.setCell ⟨p, 3, none⟩ lv') := by
  have k : Keeps [p] w (w.setCell ⟨p, 3, none⟩ lv') := (Keeps.refl [p] w).setCell (p := ⟨p, 3, none⟩) (by simp) lv'
  have ap : ∀ {G : List Nat}, p ∉ G → ∀ x, x ∈ G → x ∉ [p] := fun hn x hx => by rw [List.mem_singleton]; rintro rfl; exact hn hx
  exact ⟨⟨heap_setCell h.cells 3 lv', h.obj.keep k (ap h.po), h.fat.keep k (ap h.pf), hf.keep k (ap hp), rfl, h.po, h.pf, hp, h.of, ho, hl⟩, k⟩
theorem setO (h : RfC w p b F ov fv lv Go' Gf Gl) {ov' : Value} {m' : Ob} {Go2 : List Nat} (hf : RowAt w 2 ov' m'.length (m'.flatMap objV) Go2) (hp : p ∉ Go2) (ho : ∀ x, x ∈ Gf → x ∉ Go2) (hl : ∀ x, x ∈ Gl → x ∉ Go2) :
    RfC (w.setCell ⟨p, 0, none⟩ ov') p { b with m := m' } (p :: (Go2 ++ (Gf ++ Gl))) ov' fv lv Go2 Gf Gl ∧ Keeps [p] w (w.setCell ⟨p, 0, none⟩ ov') := by
  have k : Keeps [p] w (w.setCell ⟨p, 0, none⟩ ov') := (Keeps.refl [p] w).setCell (p := ⟨p, 0, none⟩) (by simp) ov'
  have ap : ∀ {G : List Nat}, p ∉ G → ∀ x, x ∈ G → x ∉ [p] := fun hn x hx => by rw [List.mem_singleton]; rintro rfl; exact hn hx
  exact ⟨⟨heap_setCell h.cells 0 ov', hf.keep k (ap hp), h.fat.keep k (ap h.pf), h.row.keep k (ap h.pl), rfl, hp, h.pf, h.pl, ho, hl, h.fl⟩, k⟩
end RfC
theorem RfAt.keep {w w' : World} {p : Nat} {b : Bk} {F G : List Nat} (h : RfAt w p b F) (k : Keeps G w w') (hd : ∀ x, x ∈ F → x ∉ G) : RfAt w' p b F := by
  obtain ⟨ov, fv, lv, Go', Gf, Gl, hc⟩ := h
  exact ⟨ov, fv, lv, Go', Gf, Gl, hc.keep k hd⟩
theorem RfAt.newer {w w' : World} {p : Nat} {b : Bk} {F : List Nat} (h : RfAt w p b F) (k : Keeps [] w w') : RfAt w' p b F := h.keep k (by simp)
theorem RfAt.lt {w : World} {p : Nat} {b : Bk} {F : List Nat} (h : RfAt w p b F) : ∀ x, x ∈ F → x < w.heap.size := by
  obtain ⟨ov, fv, lv, Go', Gf, Gl, hc⟩ := h
  exact hc.lt

theorem objV_at : ∀ (l : Ob) (k : Nat) (c : Bs × Bs), l[k]? = some c → ∀ j u, (objV c)[j]? = some u → (l.flatMap objV)[k * 2 + j]? = some u
  | [], k, c, h, _, _, _ => by simp at h
  | y :: r, 0, c, h, j, u, hj => by
    simp at h
    subst h
    rw [List.flatMap_cons, Nat.zero_mul, Nat.zero_add, List.getElem?_append_left (List.getElem?_eq_some_iff.1 hj).1]
    exact hj
  | y :: r, k + 1, c, h, j, u, hj => by
    rw [List.getElem?_cons_succ] at h
    have := objV_at r k c h j u hj
    rw [List.flatMap_cons, List.getElem?_append_right (by show 2 ≤ _; omega), show (k + 1) * 2 + j - (objV y).length = k * 2 + j by show _ - 2 = _; omega]
    exact this

set_option maxHeartbeats 1000000 in
set_option maxRecDepth 100000 in
theorem rnext_any (p : Nat) (b : Bk) (F : List Nat) (w : World) (hb : RfAt w p b F) (h64 : ∀ x, x ∈ b.f → i64R x) :
    Calls Tryd.prog 60 #[.pointer (some ⟨p, 0, none⟩)] w fun e w' => e = .returned (.int .i64 b.fate) ∧ RfAt w' p b.tick F ∧ Chg F F w w' := by
  obtain ⟨ov, fv, lv, Go', Gf, Gl, hc⟩ := hb
  obtain ⟨ad, cap, rfl, hle, hcm, hao⟩ := hc.fat.shape
  have c3 := cell_of_heap hc.cells 2
  have f3 := free_of_heap hc.cells 2
  have hpF : p ∈ F := by rw [hc.foot]; simp
  have hFe := hc.foot
  have Hc := Lib.hid hc
  have HpF := Lib.hid hpF
  have HF := Lib.hid hFe
  have Hcm := Lib.hid hcm
  clear hFe hpF
  rcases hf : b.f with _ | ⟨x, r⟩
  · have hfate : b.fate = 0 := by unfold Bk.fate; rw [hf]
    have htick : b.tick = b := by unfold Bk.tick; rw [hf]; cases b; simp at hf; subst hf; rfl
    rw [hfate, htick]
    rw [hf] at c3
    clear hc hf hle hao hcm f3 h64
    go_enter Tryd.func60, Tryd.ntmps60
    go_wp2
    go_ret
    exact ⟨rfl, ⟨_, _, _, _, _, _, Hc.out⟩, Chg.refl _ _⟩
  · have hfate : b.fate = x % 4 := by unfold Bk.fate; rw [hf]
    have hx : i64R x := h64 x (by rw [hf]; simp)
    rw [hf] at hle
    simp only [List.length_cons] at hle
    obtain ⟨g, off, rfl⟩ := hao (by omega)
    have cx := hc.fat.cell (by omega) 0 (intV x) (by rw [hf]; rfl)
    rw [Nat.add_zero] at cx
    have hfl : b.f.length = r.length + 1 := by rw [hf]; rfl
    have htf : b.tick.f = r := by unfold Bk.tick; rw [hf]; rfl
    rw [hfate]
    unfold intV at cx
    rw [hfl] at c3
    obtain ⟨y, hy⟩ : ∃ y, x % 4 = y := ⟨_, rfl⟩
    rw [hy]
    have hm0 := tmod4 x
    obtain ⟨t, ht⟩ : ∃ t, x.tmod 4 = t := ⟨_, rfl⟩
    rw [ht] at hm0
    have hm1 : (t + 4).tmod 4 = y := by rw [Int.tmod_eq_emod_of_nonneg (by omega)]; omega
    have hm2 : IntKind.i64.wrap t = t := by rw [IntWalk.i64_in _ ⟨by omega, by omega⟩]
    have hm3 : IntKind.i64.wrap (t + 4) = t + 4 := by rw [IntWalk.i64_in _ ⟨by omega, by omega⟩]
    have hm4 : IntKind.i64.wrap y = y := by rw [IntWalk.i64_in _ ⟨by omega, by omega⟩]
    have hrl : (r.length : Int) + 1 ≠ 0 := by omega
    have hrl0 : (((r.length : Int) + 1) == 0) = false := by rw [beq_eq_false_iff_ne]; omega
    have hfp : ∀ {fv' : Value}, RowAt w 1 fv' b.tick.f.length (b.tick.f.map intV) Gf → RfAt (w.setCell ⟨p, 2, none⟩ fv') p b.tick F ∧ Chg F F w (w.setCell ⟨p, 2, none⟩ fv') := fun h => by
      obtain ⟨h1, h2⟩ := hc.setF (f' := b.tick.f) h hc.pf hc.of hc.fl
      rw [← HF.out] at h1
      exact ⟨⟨_, _, _, _, _, _, h1⟩, h2.mono (by intro z hz; rw [List.mem_singleton] at hz; rw [hz]; exact HpF.out), fun k hk => .inl hk⟩
    have hrow := hc.fat
    by_cases hc1 : cap = 1
    · have hr0 : r = [] := List.length_eq_zero_iff.1 (by omega)
      subst hr0
      subst hc1
      have hrow2 := hfp (fv' := .slice (some ⟨g, off, none⟩) 0 0) (by rw [htf]; exact hrow.cut)
      clear hfp hrow hc hao
      go_enter Tryd.func60, Tryd.ntmps60
      go_wp2
      go_ret
      exact ⟨rfl, hrow2⟩
    · have hrow2 := hfp (fv' := .slice (some ⟨g, off + 1, none⟩) r.length (cap - 1)) (by
        have := hrow.drop 1 (by omega) (by omega)
        rw [htf]
        rw [hfl, hf] at this
        simpa using this)
      clear hfp hrow hc hao
      go_enter Tryd.func60, Tryd.ntmps60
      go_wp2
      go_ret
      exact ⟨rfl, hrow2⟩

def posO (m : Ob) (k : Bs) : Nat := m.findIdx (fun x => x.1 == k)
def findI (m : Ob) (k : Bs) : Int := if (getO m k).isSome then (posO m k : Int) else -1
theorem pos_spec {m : Ob} {k : Bs} : (∀ j x, j < posO m k → m[j]? = some x → x.1 ≠ k) ∧ (posO m k < m.length ↔ (getO m k).isSome = true) ∧ (∀ x, m[posO m k]? = some x → x.1 = k ∧ getO m k = some x.2) := by
  unfold posO getO
  induction m with
  | nil => simp
  | cons y r ih =>
    obtain ⟨h1, h2, h3⟩ := ih
    by_cases hy : y.1 = k
    · have hb : (y.1 == k) = true := beq_iff_eq.2 hy
      simp [List.findIdx_cons, hy]
    · have hb : (y.1 == k) = false := beq_eq_false_iff_ne.2 hy
      rw [List.findIdx_cons, List.find?_cons, hb]
      simp only [cond_false]
      refine ⟨fun j x hj hx => ?_, ?_, fun x hx => ?_⟩
      · cases j with
        | zero => simp at hx; rw [← hx]; exact hy
        | succ j => exact h1 j x (by omega) (by simpa using hx)
      · rw [List.length_cons, Nat.add_lt_add_iff_right]; exact h2
      · exact h3 x (by simpa using hx)

set_option maxHeartbeats 2000000 in
set_option maxRecDepth 100000 in
theorem rfind_any (p : Nat) (b : Bk) (F : List Nat) (w : World) (hb : RfAt w p b F) (k : Bs) (hl : b.m.length ≤ 1000000) :
    Calls Tryd.prog 61 #[.pointer (some ⟨p, 0, none⟩), .string (str k)] w fun e w' => e = .returned (.int .i64 (findI b.m k)) ∧ w' = w := by
  obtain ⟨ov, fv, lv, Go', Gf, Gl, hc⟩ := hb
  obtain ⟨ad, cap, rfl, hle, hcm, hao⟩ := hc.obj.shape
  have c0 := cell_of_heap hc.cells 0
  have Ho := Lib.hid hc.obj
  have Hle := Lib.hid hle
  obtain ⟨h1, h2, h3⟩ := pos_spec (m := b.m) (k := k)
  obtain ⟨r, hr⟩ : ∃ r, findI b.m k = r := ⟨_, rfl⟩
  rw [hr]
  unfold findI at hr
  generalize b.m = m at *
  generalize posO m k = P at *
  have Hao := Lib.hid hao
  have Hr := Lib.hid hr
  have Hm1 := Lib.hid h1
  have Hm2 := Lib.hid h2
  have Hm3 := Lib.hid h3
  clear hc hao hr h1 h2 h3 hle
  go_enter Tryd.func61, Tryd.ntmps61
  go_wp2
  go_loopw [5] (fun iv wr => ∃ j : Nat, j ≤ m.length ∧ j ≤ P ∧ iv = .int .i64 j ∧ wr = w) (fun iv _ => m.length - (intOf iv).toNat)
  case atStart => exact ⟨0, Nat.zero_le _, Nat.zero_le _, rfl, rfl⟩
  case round =>
    obtain ⟨j, hj, hjP, rfl, rfl⟩ := hrel
    by_cases hlt : j < m.length
    · obtain ⟨x, hx⟩ : ∃ x, m[j]? = some x := ⟨m[j], by simp [hlt]⟩
      obtain ⟨g, off, rfl⟩ := Hao.out (by have := Hle.out; omega)
      have hcx := Ho.out.cell (by have := Hle.out; omega) _ _ (objV_at m j x hx 0 _ rfl)
      rw [Nat.add_zero] at hcx
      have hji : (j : Int) < (m.length : Int) := by omega
      have hji0 : (0 : Int) ≤ (j : Int) := by omega
      have Hx := Lib.hid hx
      clear hx
      by_cases hk : x.1 = k
      · have hb : (x.1 == k) = true := beq_iff_eq.2 hk
        have hPj : P = j := by
          by_cases h : j < P
          · exact absurd hk (Hm1.out j x h Hx.out)
          · omega
        subst hPj
        have hre : (P : Int) = r := by
          rw [← Hr.out, if_pos (Hm2.out.1 hlt)]
        have Hre := Lib.hid hre
        clear hk hre
        go_wp2
        go_ret
        exact ⟨by rw [← Hre.out]; rfl, rfl⟩
      · have hb : (x.1 == k) = false := beq_eq_false_iff_ne.2 hk
        have hjP2 : j < P := by
          by_cases h : j < P
          · exact h
          · obtain rfl : j = P := by omega
            exact absurd (Hm3.out x Hx.out).1 hk
        clear hk
        go_wp2
        go_roundw
        case rel => exact ⟨j + 1, by omega, by omega, by go_num, (by first | trivial | rfl)⟩
        case measure => simp [intOf]; omega
    · obtain rfl : j = m.length := by omega
      have hre : r = -1 := by
        rw [← Hr.out, if_neg (fun h => by have := Hm2.out.2 h; omega)]
      subst hre
      go_wp2
      go_ret
      exact ⟨rfl, rfl⟩

theorem used_take (m : Ob) (k : Nat) : usedO (m.take k) ≤ usedO m := by
  unfold usedO
  induction m generalizing k with
  | nil => simp
  | cons y r ih =>
    cases k with
    | zero => simp
    | succ k =>
      have := ih k
      simp only [List.take_succ_cons, List.map_cons, List.sum_cons]
      omega
theorem used_snoc (l : Ob) (x : Bs × Bs) : usedO (l ++ [x]) = usedO l + x.2.length := by unfold usedO; simp

set_option maxHeartbeats 2000000 in
set_option maxRecDepth 100000 in
theorem rused_any (p : Nat) (b : Bk) (F : List Nat) (w : World) (hb : RfAt w p b F) (hl : b.m.length ≤ 1000000) (hu : usedO b.m ≤ 9223372036854775807) :
    Calls Tryd.prog 48 #[.pointer (some ⟨p, 0, none⟩)] w fun e w' => e = .returned (.int .i64 (usedO b.m)) ∧ w' = w := by
  obtain ⟨ov, fv, lv, Go', Gf, Gl, hc⟩ := hb
  obtain ⟨ad, cap, rfl, hle, hcm, hao⟩ := hc.obj.shape
  have c0 := cell_of_heap hc.cells 0
  have Ho := Lib.hid hc.obj
  have Hle := Lib.hid hle
  generalize b.m = m at *
  have Hao := Lib.hid hao
  have Hu := Lib.hid hu
  clear hc hao hle hu
  go_enter Tryd.func48, Tryd.ntmps48
  go_wp2
  go_loopw [4, 3] (fun iv sv wr => ∃ j : Nat, j ≤ m.length ∧ iv = .int .i64 j ∧ sv = .int .i64 (usedO (m.take j)) ∧ wr = w) (fun iv _ _ => m.length - (intOf iv).toNat)
  case atStart => exact ⟨0, Nat.zero_le _, rfl, rfl, rfl⟩
  case round =>
    obtain ⟨j, hj, rfl, rfl, rfl⟩ := hrel
    by_cases hlt : j < m.length
    · obtain ⟨x, hx⟩ : ∃ x, m[j]? = some x := ⟨m[j], by simp [hlt]⟩
      obtain ⟨g, off, rfl⟩ := Hao.out (by have := Hle.out; omega)
      have hcx := Ho.out.cell (by have := Hle.out; omega) _ _ (objV_at m j x hx 1 _ rfl)
      rw [← Nat.add_assoc] at hcx
      have hst : usedO (m.take (j + 1)) = usedO (m.take j) + x.2.length := by rw [List.take_add_one, hx]; exact used_snoc _ _
      have hle2 := used_take m (j + 1)
      have hu := Hu.out
      have hw : IntKind.i64.wrap ((usedO (m.take j) : Int) + (x.2.length : Int)) = (usedO (m.take (j + 1)) : Int) := by rw [IntWalk.i64_in _ ⟨by omega, by omega⟩]; omega
      have hji : (j : Int) < (m.length : Int) := by omega
      have hji0 : (0 : Int) ≤ (j : Int) := by omega
      obtain ⟨U, hU⟩ : ∃ U, usedO (m.take (j + 1)) = U := ⟨_, rfl⟩
      rw [hU] at hw
      have HU := Lib.hid hU
      clear hx hst hle2 hu hU
      go_wp2
      go_roundw
      case rel => exact ⟨j + 1, by omega, by go_num, by rw [HU.out], (by first | trivial | rfl)⟩
      case measure => simp [intOf]; omega
    · obtain rfl : j = m.length := by omega
      rw [List.take_length]
      go_wp2
      go_ret
      exact ⟨rfl, rfl⟩
end Go.Proofs.YtflgagglkkehiaaDoor
