/- Layer 6: Print at a volume however long; the texts of names. -/
import Derived.Test.YtdjhlnkkbpmfmaaDoorNamLE
import Derived.Test.YtdjhlnkkbpmfmaaDoorNamU
import Derived.Test.YtdjhlnkkbpmfmaaDoorNamX
namespace Go.Proofs.YtdjhlnkkbpmfmaaDoor
open Go.RowKit

set_option maxRecDepth 100000 in
theorem nvolume_long (s : ByteArray) (w : World) (hs : 32 < s.size) : Calls Tryd.prog 15 #[.string s] w fun e w' => e = .returned (.int .i64 1) ∧ w' = w := by
  obtain ⟨L, rfl⟩ : ∃ L, s = str L := ⟨s.data.toList, (str_self s).symm⟩
  rw [str_size] at hs
  have hi : (32 : Int) < (L.length : Int) := by omega
  have hb2 : L.isEmpty = false := by
    cases L with
    | nil => simp at hs
    | cons => rfl
  clear hs
  go_enter Tryd.func15, Tryd.ntmps15
  go_wp2_with fail
  go_ret
  exact ⟨rfl, rfl⟩
set_option maxRecDepth 100000 in
theorem nprefix_long (s : ByteArray) (k : Int) (w : World) (hs : 32 < s.size) : Calls Tryd.prog 13 #[.string s, .int .i64 k] w fun e w' => e = .returned (.tuple #[.string (str []), .int .i64 1]) ∧ w' = w := by
  have Vo := Lib.hid (fun w => nvolume_long s w hs)
  clear hs
  go_enter Tryd.func13, Tryd.ntmps13
  go_wp2_with (go_at_call 15; (with_reducible refine (Vo.out _).mono ?_); rintro e w1 ⟨rfl, rfl⟩)
  go_ret2
  exact ⟨rfl, rfl⟩
set_option maxRecDepth 100000 in
theorem nprint_long (s : ByteArray) (k n : Int) (w : World) (hs : 32 < s.size) : Calls Tryd.prog 11 #[.agg #[.string s, .int .i64 k, .int .i64 n]] w fun e w' => e = .returned (.tuple #[.string (str []), .int .i64 1]) ∧ Keeps [] w w' := by
  have Pr := Lib.hid (fun w => nprefix_long s k w hs)
  have HO := Lib.hid (heap_at (w := w) (o := .cells #[.string s, .int .i64 k, .int .i64 n] 23 (0, 0)) rfl)
  have c0 := cell_of_heap HO.out 0
  have c1 := cell_of_heap HO.out 1
  have K0 := Lib.hid ((Keeps.refl [] w).alloc (.cells #[.string s, .int .i64 k, .int .i64 n] 23 (0, 0)))
  clear hs
  go_enter Tryd.func11, Tryd.ntmps11
  go_wp2_with (go_at_call 13; (with_reducible refine (Pr.out _).mono ?_); rintro e w1 ⟨rfl, rfl⟩)
  go_ret2
  exact ⟨rfl, K0.out⟩

def NameR.pr (r : NameR) : List UInt8 × Int := prtOf r.v.data.toList r.k r.n
theorem nprintR (r : NameR) (w : World) (hT : TabC w) : Calls Tryd.prog 11 #[.agg #[.string r.v, .int .i64 r.k, .int .i64 r.n]] w fun e w' => e = .returned (.tuple #[.string (str r.pr.1), .int .i64 r.pr.2]) ∧ Keeps [] w w' := by
  unfold NameR.pr
  by_cases h : 32 < r.v.size
  · have e : prtOf r.v.data.toList r.k r.n = ([], 1) := by
      unfold prtOf preOf
      rw [volOk_long (by rw [dlen]; exact h)]
      rfl
    rw [e]
    exact nprint_long r.v r.k r.n w h
  · have h := nprint_any r.v.data.toList r.k r.n w (by rw [dlen]; omega) hT
    unfold nameV at h
    rw [str_self] at h
    exact h

theorem ofI_back {v u : List UInt8} {k j n : Int} (h : (prtOf v k n).2 = 0) : (0 ≤ ofI (prtOf v k n).1 u j ↔ v = u ∧ k = j) ∧ (v = u → k = j → ofI (prtOf v k n).1 u j = n) := by
  obtain ⟨h0, h1, h2, h3, h4⟩ := lawNamesBack.back h
  have hk : 1 ≤ k ∧ k ≤ 4 := by
    unfold prtOf at h
    by_cases g : (preOf v k).2 ≠ 0
    · rw [if_pos g] at h; exact absurd h g
    · obtain ⟨_, a2, a3, _⟩ := preOf_ok (Classical.not_not.1 g)
      exact ⟨a2, a3⟩
  have hp : ∀ j, 1 ≤ j → j ≤ 4 → ofI (prtOf v k n).1 v j = if j = k then n else -1 := fun j j1 j4 => by
    rw [h3, ofI_parts v _ _ _ _ (hexm_length 10 _) j1 j4, h4]
    dsimp only
    rw [show ((n.toNat : Nat) : Int) = n by omega]
  refine ⟨⟨fun hh => ?_, ?_⟩, ?_⟩
  · obtain ⟨_, _, j1, j4, t1, t2⟩ := of_some hh
    have hl : (prtOf v k n).1.length = v.length + 13 := by rw [h3]; simp [hexm_length]
    have hvl : v.length = u.length := by omega
    have hvu : v = u := by rw [h3, ← hvl, List.take_left] at t1; exact t1
    subst hvu
    rw [hp j j1 j4] at hh
    by_cases e : j = k
    · exact ⟨rfl, e.symm⟩
    · rw [if_neg e] at hh; omega
  · rintro ⟨rfl, rfl⟩
    rw [hp k hk.1 hk.2, if_pos rfl]
    exact h0
  · rintro rfl rfl
    rw [hp k hk.1 hk.2, if_pos rfl]

/-- The texts of those that have one. -/
def txt (l : List NameR) : List ByteArray := l.filterMap fun r => if r.pr.2 = 0 then some (str r.pr.1) else none
theorem txt_snoc (l : List NameR) (r : NameR) : txt (l ++ [r]) = txt l ++ (if r.pr.2 = 0 then [str r.pr.1] else []) := by
  unfold txt
  rw [List.filterMap_append]
  congr 1
  by_cases h : r.pr.2 = 0 <;> simp [h]
theorem txt_le (l : List NameR) : (txt l).length ≤ l.length := List.length_filterMap_le _ _
theorem txt_small (l : List NameR) : ∀ s, s ∈ txt l → s.size ≤ 100 := fun s hs => by
  unfold txt at hs
  obtain ⟨r, _, h⟩ := List.mem_filterMap.1 hs
  split at h
  · injection h with h
    rw [← h, str_size]
    have := prtOf_length r.v.data.toList r.k r.n
    unfold NameR.pr
    omega
  · cases h
/-- Is a number there, of a volume and a kind? -/
def Want (l : List NameR) (u : List UInt8) (k n : Int) : Prop := ∃ r, r ∈ l ∧ r.pr.2 = 0 ∧ r.v.data.toList = u ∧ r.k = k ∧ r.n = n
theorem sel_txt (l : List NameR) (u : List UInt8) (k x : Int) : x ∈ selL (txt l) u k ↔ Want l u k x := by
  unfold selL txt Want
  rw [List.mem_filterMap]
  constructor
  · rintro ⟨s, hs, hx⟩
    obtain ⟨r, hr, h⟩ := List.mem_filterMap.1 hs
    split at h
    · rename_i h0
      injection h with h
      subst h
      split at hx
      · rename_i h1
        injection hx with hx
        rw [str_data] at h1 hx
        have hb := ofI_back (u := u) (j := k) h0
        obtain ⟨e1, e2⟩ := hb.1.1 h1
        exact ⟨r, hr, h0, e1, e2, by rw [← hx]; exact (hb.2 e1 e2).symm⟩
      · cases hx
    · cases h
  · rintro ⟨r, hr, h0, h1, h2, h3⟩
    have hb := ofI_back (u := u) (j := k) h0
    refine ⟨str r.pr.1, List.mem_filterMap.2 ⟨r, hr, by rw [if_pos h0]⟩, ?_⟩
    rw [str_data]
    have h5 : ofI r.pr.1 u k = r.n := hb.2 h1 h2
    have h6 : 0 ≤ ofI r.pr.1 u k := hb.1.2 ⟨h1, h2⟩
    rw [if_pos h6, h5, h3]
/-- What Sift gives of them: rising, and those that are wanted. -/
theorem sift_txt (l : List NameR) (u : List UInt8) (k : Int) : Rises (Lib.compact ((selL (txt l) u k).mergeSort fun x y => decide (x ≤ y))) ∧ ∀ x, x ∈ Lib.compact ((selL (txt l) u k).mergeSort fun x y => decide (x ≤ y)) ↔ Want l u k x := by
  obtain ⟨h1, h2⟩ := compact_rises _ (sort_falls (selL (txt l) u k))
  exact ⟨h1, fun x => by rw [h2, List.mem_mergeSort, sel_txt]⟩
theorem tyStrs : SlTy Tryd.prog 43 9 1 16 (.string ⟨#[]⟩) := SlTy.mk' Tryd.underlying43 (by kernel_rfl) rfl (by decide)
end Go.Proofs.YtdjhlnkkbpmfmaaDoor
