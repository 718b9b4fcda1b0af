/- Layer 5, plain: objects by rising names as a map's datum; what each call of a bucket answers. -/
import Derived.Test.YtflgagglkkehiaaDoorBase
import Derived.Maps.OwnSet
import Derived.Maps.StringElems
import Derived.Sort.KeysCollected
import Derived.Lib.SlTrimSet
namespace Go.Proofs.YtflgagglkkehiaaDoor
open Go.RowKit Go.Maps

abbrev Bs := List UInt8
abbrev Ob := List (Bs × Bs)

def datE (p : Bs × Bs) : Lit × DataW Unit := (.string p.1, .lit (.string p.2))
def datO (m : Ob) : DataW Unit := .map (m.map datE)
def getO (m : Ob) (k : Bs) : Option Bs := (m.find? (fun p => p.1 == k)).map (·.2)
def delO (m : Ob) (k : Bs) : Ob := m.filter (fun p => !(p.1 == k))
def insO (x : Bs × Bs) : Ob → Ob
  | [] => [x]
  | y :: r => if bytesBefore x.1 y.1 then x :: y :: r else y :: insO x r
def putO (m : Ob) (k v : Bs) : Ob := insO (k, v) (delO m k)
def usedO (m : Ob) : Nat := (m.map (·.2.length)).sum
def Srt (m : Ob) : Prop := m.Pairwise (fun p q => bytesBefore p.1 q.1 = true)

theorem bb_lt : ∀ (a b : Bs), bytesBefore a b = decide (a < b)
  | [], [] => by simp [bytesBefore]
  | [], _ :: _ => by simp [bytesBefore]
  | _ :: _, [] => by simp [bytesBefore]
  | a :: r, b :: s => by
    have ih := bb_lt r s
    simp only [bytesBefore, ih, List.cons_lt_cons_iff]
    by_cases h : a < b <;> by_cases h2 : a = b <;> simp [h, h2]

theorem ins_dat (x : Bs × Bs) : ∀ m : Ob, DataW.insert (datE x) (m.map datE) = (insO x m).map datE
  | [] => rfl
  | y :: r => by
    show (if bytesBefore x.1 y.1 then _ else _) = _
    unfold insO
    split
    · rfl
    · rw [List.map_cons, ← ins_dat x r]
theorem filt_dat (m : Ob) (k : Bs) : (m.map datE).filter (fun p => !p.1.sameKey (.string k)) = (delO m k).map datE := by
  unfold delO
  rw [List.filter_map]
  rfl
theorem dat_put (m : Ob) (k v : Bs) : (datO m).put (.string k) (.lit (.string v)) = datO (putO m k v) := by
  show DataW.map (DataW.insert (datE (k, v)) ((m.map datE).filter _)) = _
  rw [filt_dat, ins_dat]
  rfl
theorem dat_del (m : Ob) (k : Bs) : (datO m).del (.string k) = datO (delO m k) := by
  show DataW.map ((m.map datE).filter _) = _
  rw [filt_dat]
  rfl
theorem find_dat (k : Bs) : ∀ m : Ob, (m.map datE).find? (fun p => p.1.sameKey (.string k)) = (m.find? (fun p => p.1 == k)).map datE
  | [] => rfl
  | y :: r => by
    rw [List.map_cons, List.find?_cons, List.find?_cons]
    have : (datE y).1.sameKey (.string k) = (y.1 == k) := rfl
    rw [this, find_dat k r]
    cases (y.1 == k) <;> rfl
theorem dat_at (m : Ob) (k : Bs) : (datO m).atKey (.string k) (.lit (.string [])) = .lit (.string ((getO m k).getD [])) := by
  unfold datO DataW.atKey getO
  simp only [find_dat]
  cases m.find? (fun p => p.1 == k) <;> rfl
theorem dat_has (m : Ob) (k : Bs) : Maps.has (datO m) (.string k) = (getO m k).isSome := by
  unfold datO getO
  rw [has_eq, Option.isSome_map, List.any_map]
  induction m with
  | nil => rfl
  | cons y r ih =>
    rw [List.any_cons, List.find?_cons, ih]
    have : ((fun p : Lit × DataW Unit => p.1.sameKey (.string k)) ∘ datE) y = (y.1 == k) := rfl
    rw [this]
    cases (y.1 == k) <;> simp
theorem dat_size (m : Ob) : Maps.size (datO m) = m.length := by simp [datO, Maps.size]
theorem dat_keys (m : Ob) : strKeys (datO m) = m.map (·.1) := by
  show (m.map datE).map (fun p => strOf p.1) = _
  rw [List.map_map]
  rfl

/-! ## the keys rise -/

theorem mem_delO {m : Ob} {k : Bs} {p : Bs × Bs} : p ∈ delO m k ↔ p ∈ m ∧ p.1 ≠ k := by
  unfold delO
  rw [List.mem_filter]
  simp
theorem mem_insO {x p : Bs × Bs} : ∀ {m : Ob}, p ∈ insO x m ↔ p = x ∨ p ∈ m
  | [] => by simp [insO]
  | y :: r => by
    unfold insO
    split
    · simp
    · rw [List.mem_cons, mem_insO, List.mem_cons]
      constructor
      · rintro (h | h | h) <;> simp [h]
      · rintro (h | h | h) <;> simp [h]
theorem srt_del {m : Ob} (h : Srt m) (k : Bs) : Srt (delO m k) := List.Pairwise.filter _ h
theorem srt_ins {x : Bs × Bs} : ∀ {m : Ob}, Srt m → (∀ p, p ∈ m → p.1 ≠ x.1) → Srt (insO x m)
  | [], _, _ => by unfold insO Srt; simp
  | y :: r, h, hx => by
    unfold Srt at h ⊢
    rw [List.pairwise_cons] at h
    unfold insO
    by_cases hb : bytesBefore x.1 y.1 = true
    · rw [if_pos hb, List.pairwise_cons]
      refine ⟨fun q hq => ?_, List.pairwise_cons.2 h⟩
      rw [List.mem_cons] at hq
      rcases hq with rfl | hq
      · exact hb
      · have h2 := h.1 q hq
        rw [bb_lt, decide_eq_true_eq] at *
        exact List.lt_trans hb h2
    · rw [if_neg hb, List.pairwise_cons]
      refine ⟨fun q hq => ?_, srt_ins h.2 (fun p hp => hx p (List.mem_cons_of_mem _ hp))⟩
      rw [mem_insO] at hq
      rcases hq with rfl | hq
      · rw [bb_lt, decide_eq_true_eq] at *
        have hne := hx y (by simp)
        exact Classical.byContradiction fun h3 => hne (List.le_antisymm (List.not_lt.1 hb) (List.not_lt.1 h3))
      · exact h.1 q hq
theorem srt_put {m : Ob} (h : Srt m) (k v : Bs) : Srt (putO m k v) := srt_ins (srt_del h k) (fun _ hp => (mem_delO.1 hp).2)

/-! ## finding, lengths -/

theorem get_none {m : Ob} {k : Bs} : getO m k = none ↔ ∀ p, p ∈ m → p.1 ≠ k := by
  unfold getO
  rw [Option.map_eq_none_iff, List.find?_eq_none]
  simp
theorem get_mem {m : Ob} {k v : Bs} (h : getO m k = some v) : (k, v) ∈ m := by
  unfold getO at h
  rw [Option.map_eq_some_iff] at h
  obtain ⟨p, h1, rfl⟩ := h
  have h2 := List.find?_some h1
  have h3 := List.mem_of_find?_eq_some h1
  obtain ⟨a, b⟩ := p
  simp at h2
  subst h2
  exact h3
theorem del_none {m : Ob} {k : Bs} (h : getO m k = none) : delO m k = m := by
  rw [get_none] at h
  unfold delO
  rw [List.filter_eq_self]
  intro p hp
  simpa using h p hp
theorem ins_length (x : Bs × Bs) : ∀ m : Ob, (insO x m).length = m.length + 1
  | [] => rfl
  | y :: r => by
    unfold insO
    split
    · rfl
    · simp [ins_length x r]
theorem ins_used (x : Bs × Bs) : ∀ m : Ob, usedO (insO x m) = usedO m + x.2.length
  | [] => by simp [insO, usedO]
  | y :: r => by
    unfold insO
    split
    · simp [usedO]; omega
    · have := ins_used x r
      unfold usedO at *
      simp only [List.map_cons, List.sum_cons]
      omega
theorem put_length {m : Ob} {k : Bs} (v : Bs) (h : getO m k = none) : (putO m k v).length = m.length + 1 := by
  unfold putO
  rw [ins_length, del_none h]
theorem put_used {m : Ob} {k : Bs} (v : Bs) (h : getO m k = none) : usedO (putO m k v) = usedO m + v.length := by
  unfold putO
  rw [ins_used, del_none h]
theorem del_length (m : Ob) (k : Bs) : (delO m k).length ≤ m.length := List.length_filter_le _ _
theorem del_used {m : Ob} (h : Srt m) {k v : Bs} (hg : getO m k = some v) : usedO (delO m k) + v.length = usedO m := by
  induction m with
  | nil => simp [getO] at hg
  | cons y r ih =>
    unfold Srt at h
    rw [List.pairwise_cons] at h
    by_cases hy : y.1 = k
    · have hn : getO r k = none := by
        rw [get_none]
        intro p hp e
        have := h.1 p hp
        rw [bb_lt, decide_eq_true_eq, hy, e] at this
        exact List.lt_irrefl _ this
      have hv : y.2 = v := by
        unfold getO at hg
        rw [List.find?_cons_of_pos (by simpa using hy)] at hg
        simpa using hg
      have hd : delO (y :: r) k = delO r k := by
        unfold delO
        rw [List.filter_cons_of_neg (by simpa using hy)]
      rw [hd, del_none hn, ← hv]
      unfold usedO
      simp only [List.map_cons, List.sum_cons]
      omega
    · have hg' : getO r k = some v := by
        unfold getO at hg ⊢
        rwa [List.find?_cons_of_neg (by simpa using hy)] at hg
      have hd : delO (y :: r) k = y :: delO r k := by
        unfold delO
        rw [List.filter_cons_of_pos (by simpa using hy)]
      have := ih h.2 hg'
      rw [hd]
      unfold usedO at *
      simp only [List.map_cons, List.sum_cons]
      omega
theorem get_used {m : Ob} {k v : Bs} (h : getO m k = some v) : v.length ≤ usedO m := by
  have := get_mem h
  unfold usedO
  clear h
  induction m with
  | nil => cases this
  | cons y r ih =>
    rw [List.map_cons, List.sum_cons]
    rcases List.mem_cons.1 this with e | h
    · rw [← e]; simp
    · have := ih h; omega
theorem get_put {m : Ob} (k v : Bs) : getO (putO m k v) k = some v := by
  have : ∀ r : Ob, (∀ p, p ∈ r → p.1 ≠ k) → getO (insO (k, v) r) k = some v := by
    intro r
    induction r with
    | nil => intro _; simp [insO, getO]
    | cons y s ih =>
      intro hr
      unfold insO
      split
      · simp [getO]
      · have hy := hr y (by simp)
        unfold getO
        rw [List.find?_cons_of_neg (by simpa using hy)]
        exact ih (fun p hp => hr p (List.mem_cons_of_mem _ hp))
  exact this _ (fun p hp => (mem_delO.1 hp).2)
theorem get_put_other {m : Ob} {k j : Bs} (v : Bs) (hne : k ≠ j) : getO (putO m k v) j = getO m j := by
  have h1 : ∀ r : Ob, getO (insO (k, v) r) j = getO r j := by
    intro r
    induction r with
    | nil => simp [insO, getO, hne]
    | cons y s ih =>
      unfold insO
      split
      · unfold getO
        rw [List.find?_cons_of_neg (by simpa using hne)]
      · unfold getO at ih ⊢
        by_cases hy : y.1 = j
        · rw [List.find?_cons_of_pos (by simpa using hy), List.find?_cons_of_pos (by simpa using hy)]
        · rw [List.find?_cons_of_neg (by simpa using hy), List.find?_cons_of_neg (by simpa using hy)]
          exact ih
  unfold putO
  rw [h1]
  unfold getO delO
  rw [List.find?_filter]
  congr 2
  funext p
  by_cases hp : p.1 = j
  · simp [hp, Ne.symm hne]
  · simp [hp]
theorem get_del_other {m : Ob} {k j : Bs} (hne : k ≠ j) : getO (delO m k) j = getO m j := by
  unfold getO delO
  rw [List.find?_filter]
  congr 2
  funext p
  by_cases hp : p.1 = j
  · simp [hp, Ne.symm hne]
  · simp [hp]
theorem get_del (m : Ob) (k : Bs) : getO (delO m k) k = none := get_none.2 fun _ hp => (mem_delO.1 hp).2
theorem keys_sorted {m : Ob} (h : Srt m) {ss : List Bs} (hp : ss.Perm (strKeys (datO m))) : ss.mergeSort (fun x y => decide (x ≤ y)) = m.map (·.1) := by
  have h1 := mergeSort_of_perm hp
  unfold leB at h1
  rw [h1, dat_keys]
  refine List.mergeSort_of_pairwise ?_
  rw [List.pairwise_map]
  refine List.Pairwise.imp ?_ h
  intro a b hab
  rw [bb_lt, decide_eq_true_eq] at hab
  rw [decide_eq_true_eq]
  exact List.le_of_lt hab

/-! ## a name -/
def alph : Bs := [97, 98, 99, 100, 101, 102, 103, 104, 105, 106, 107, 108, 109, 110, 111, 112, 113, 114, 115, 116, 117, 118, 119, 120, 121, 122, 48, 49, 50, 51, 52, 53, 54, 55, 56, 57, 46, 45, 95, 47]
def nameB (s : Bs) : Bool := decide (s ≠ []) && decide (s.length ≤ 64) && s.all (alph.contains ·)
theorem dw_nil {f : UInt8 → Bool} : ∀ {l : Bs}, l.dropWhile f = [] ↔ ∀ x, x ∈ l → f x = true
  | [] => by simp
  | y :: r => by
    rw [List.dropWhile_cons]
    by_cases h : f y = true
    · rw [if_pos h, dw_nil]
      simp [h]
    · rw [if_neg h]
      simp [h]
theorem dw_head {f : UInt8 → Bool} : ∀ {l : Bs} {x : UInt8} {r : Bs}, l.dropWhile f = x :: r → ¬ f x = true
  | [], _, _, h => by simp at h
  | y :: s, x, r, h => by
    rw [List.dropWhile_cons] at h
    by_cases hy : f y = true
    · rw [if_pos hy] at h
      exact dw_head h
    · rw [if_neg hy] at h
      injection h with h1 _
      rwa [← h1]
theorem trim_all (l cs : Bs) : Lib.trimS l cs = [] ↔ l.all (cs.contains ·) = true := by
  unfold Lib.trimS Lib.trimLeftS Lib.trimRightS
  rw [dw_nil, List.all_eq_true]
  constructor
  · intro h
    by_cases hne : l.reverse.dropWhile (cs.contains ·) = []
    · rw [dw_nil] at hne
      exact fun x hx => hne x (List.mem_reverse.2 hx)
    · exfalso
      obtain ⟨x, r, hx⟩ := List.exists_cons_of_ne_nil hne
      exact dw_head hx (h x (by rw [hx]; simp))
  · intro h x hx
    rw [List.mem_reverse] at hx
    exact h x (by simpa using (List.dropWhile_sublist _).mem hx)
end Go.Proofs.YtflgagglkkehiaaDoor
