/- Layer 4, the device: Clone; what becomes of a pending write. -/
import Derived.Test.YtddehagceenbnaaSsdJ
namespace Go.Proofs.Ytddehagceenbnaa
open Go.RowKit

theorem tySector : SlTy Try.prog 55 61 64 64 (.agg (List.replicate 64 (.int .u8 0)).toArray) := SlTy.mk' Try.underlying55 (by kernel_rfl) (by simp [Value.cells]) (by decide)

/-- What Clone does with a slice that is owned. -/
def Cloned (e : TypeId) (size n : Nat) (xs : List Value) (w : World) (r : Ending) (w' : World) : Prop :=
  ∃ v', r = .returned v' ∧ w'.ownsRow 0 e size v' n xs ∧ Keeps [] w w' ∧ ∀ x, x ∈ v'.ownBlock.toList → w.heap.size ≤ x

theorem own_cells {w : World} {e : TypeId} {size n : Nat} {g cap : Nat} {xs : List Value} (h : w.ownsRow 0 e size (.slice (some ⟨g, 0, none⟩) n cap) n xs) : ∀ j u, xs[j]? = some u → w.cell? ((⟨g, 0, none⟩ : Addr).add j) = some u := by
  intro j u hj
  rw [Addr.add_mid]
  rcases h.2 with ⟨h0, _⟩ | ⟨g', cap', cur, hv, _, hg, _, _, _, ht⟩
  · cases h0
  · injection hv with h1 h2 h3
    simp only [Option.some.injEq, Addr.mk.injEq] at h1
    obtain ⟨rfl, _⟩ := h1
    rw [Nat.zero_add, cell_of_heap hg, ← Array.getElem?_toList]
    rw [← ht] at hj
    rw [List.getElem?_take] at hj
    split at hj
    · exact hj
    · cases hj

theorem cloneSec_any (v : Value) (n : Nat) (xs : List Value) (w : World) (h : w.ownsRow 0 61 64 v n xs) (hn : n ≤ 1000000000) (h1 : ∀ u ∈ xs, u.oneCell' = true) :
    Calls Try.prog 30 #[v] w (Cloned 61 64 n xs w) := by
  have H := Lib.hid h
  have H1 := Lib.hid h1
  have he := fun (w : World) a l c => Go.run_eql_slice_nil (P := Try.prog) w 55 61 a l c Try.underlying55
  clear h1
  rcases h.2 with ⟨rfl, rfl⟩ | ⟨g, cap, cur, rfl, _, _, _⟩
  · clear h
    go_enter Try.func30, Try.ntmps30
    go_wp2
    go_ret
    exact ⟨_, rfl, H.out, Keeps.refl _ _, by simp [Value.ownBlock]⟩
  · clear h
    go_enter Try.func30, Try.ntmps30
    go_wp2_with (at_builtin; refine wpList_appN tySector rfl (.tmp 5) (.tmp 6) rfl _ 0 [] rfl ⟨g, 0, none⟩ n cap xs rfl H.out.1 (own_cells (own_keep H.out ((Keeps.refl [] w).alloc _) (by simp))) (World.ownsRow_made w #[] 0 (Nat.zero_le _) (by unfold maxLen; omega) rfl) H1.out (by omega) (by unfold maxLen; omega) ?_; intro ad' cap' w' hown hchg)
    have hown' : w'.ownsRow 0 61 64 (.slice ad' (0 + n) cap') n xs := by
      rw [Nat.zero_add, List.nil_append] at hown
      rw [Nat.zero_add]
      exact hown
    rw [Nat.zero_add] at hchg hown'
    have Hown := Lib.hid hown'
    have Hchg := Lib.hid hchg
    clear hown hown' hchg
    go_wp2
    go_ret
    refine ⟨.slice ad' n cap', rfl, Hown.out, ((Keeps.refl [] w).alloc _).trans Hchg.out.keeps ?_, ?_⟩
    · intro x hx
      have hx' : x ∈ [w.heap.size] := hx
      rw [List.mem_singleton] at hx'
      exact .inr (by omega)
    · intro x hx
      rcases Hchg.out.fresh x hx with h | h
      · have hx' : x ∈ [w.heap.size] := h
        rw [List.mem_singleton] at hx'
        omega
      · simp at h
        omega

theorem cloneWr_any (v : Value) (n : Nat) (xs : List Value) (w : World) (h : w.ownsRow 0 63 65 v n xs) (hn : n ≤ 1000000000) (h1 : ∀ u ∈ xs, u.oneCell' = true) :
    Calls Try.prog 37 #[v] w (Cloned 63 65 n xs w) := by
  have H := Lib.hid h
  have H1 := Lib.hid h1
  have he := fun (w : World) a l c => Go.run_eql_slice_nil (P := Try.prog) w 56 63 a l c Try.underlying56
  clear h1
  rcases h.2 with ⟨rfl, rfl⟩ | ⟨g, cap, cur, rfl, _, _, _⟩
  · clear h
    go_enter Try.func37, Try.ntmps37
    go_wp2
    go_ret
    exact ⟨_, rfl, H.out, Keeps.refl _ _, by simp [Value.ownBlock]⟩
  · clear h
    go_enter Try.func37, Try.ntmps37
    go_wp2_with (at_builtin; refine wpList_appN tyWrite rfl (.tmp 5) (.tmp 6) rfl _ 0 [] rfl ⟨g, 0, none⟩ n cap xs rfl H.out.1 (own_cells (own_keep H.out ((Keeps.refl [] w).alloc _) (by simp))) (World.ownsRow_made w #[] 0 (Nat.zero_le _) (by unfold maxLen; omega) rfl) H1.out (by omega) (by unfold maxLen; omega) ?_; intro ad' cap' w' hown hchg)
    have hown' : w'.ownsRow 0 63 65 (.slice ad' (0 + n) cap') n xs := by
      rw [Nat.zero_add, List.nil_append] at hown
      rw [Nat.zero_add]
      exact hown
    rw [Nat.zero_add] at hchg hown'
    have Hown := Lib.hid hown'
    have Hchg := Lib.hid hchg
    clear hown hown' hchg
    go_wp2
    go_ret
    refine ⟨.slice ad' n cap', rfl, Hown.out, ((Keeps.refl [] w).alloc _).trans Hchg.out.keeps ?_, ?_⟩
    · intro x hx
      have hx' : x ∈ [w.heap.size] := hx
      rw [List.mem_singleton] at hx'
      exact .inr (by omega)
    · intro x hx
      rcases Hchg.out.fresh x hx with h | h
      · have hx' : x ∈ [w.heap.size] := h
        rw [List.mem_singleton] at hx'
        omega
      · simp at h
        omega

end Go.Proofs.Ytddehagceenbnaa
