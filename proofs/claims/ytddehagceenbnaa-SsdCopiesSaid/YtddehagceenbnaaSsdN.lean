/- Layer 4, the device: New. -/
import Derived.Test.YtddehagceenbnaaSsdM
import Derived.Deep.RegionHeld3
import Derived.Laws.OwnMore
namespace Go.Proofs.Ytddehagceenbnaa
open Go.RowKit

theorem zeros_flat : ∀ n : Nat, (List.replicate n (List.replicate 64 (0 : UInt8))).flatMap secv = List.replicate (n * 64) (.int .u8 0)
  | 0 => by simp
  | n + 1 => by
    rw [List.replicate_succ, List.flatMap_cons, zeros_flat n]
    have e : secv (List.replicate 64 (0 : UInt8)) = List.replicate 64 (.int .u8 0) := by unfold secv; rw [List.map_replicate]; rfl
    rw [e, List.replicate_append_replicate]
    congr 1
    omega

theorem made_same (m : Nat) (c : Value) (h0 : 0 < m) (n : Nat) : (madeCells (List.replicate m c).toArray n).toList = List.replicate n c := by
  apply List.ext_getElem (by simp [madeCells])
  intro i h1 h2
  have hm : i % m < m := Nat.mod_lt _ h0
  simp [madeCells, hm]

theorem heap_alloc_at {w : World} {o : Obj} {k : Nat} (hk : k = w.heap.size) : (w.alloc o).heap[k]? = some o := by subst hk; exact heap_alloc_self w o

theorem makeSec (n : Nat) (h2 : n ≤ 65536) : ∃ Z : Array Value, Z.size = n * 64 ∧ Z.toList = (List.replicate n (List.replicate 64 (0 : UInt8))).flatMap secv ∧
    ∀ w, (Instr.makeSlice 55 (.int .i64 n) (.int .i64 n)).run Try.prog w = .ok (.slice (some ⟨w.heap.size, 0, none⟩) n n) (w.alloc (.cells Z 61)) := by
  obtain ⟨hu, ⟨i, hi, hz, hsz, hby⟩, hzs, hp⟩ := tySector
  have hr := fun w => run_make (P := Try.prog) w 55 61 i _ hu hi hz .i64 .i64 n n (by omega) (by omega) (by rw [hby]; omega) (by omega)
  simp only [Int.toNat_natCast] at hr
  refine ⟨_, ?_, ?_, hr⟩
  · rw [size_madeCells, hsz]
  · rw [zeros_flat, hsz]; exact made_same 64 (.int .u8 0) (by decide) _

/-- A new device. -/
def Dev.new (n : Nat) : Dev := { last := List.replicate n (List.replicate 64 0), now := List.replicate n (List.replicate 64 0), pend := [], lost := false, stops := false, left := 0 }

/-- What New answers. -/
def Newly (n : Nat) (w : World) (e : Ending) (w' : World) : Prop :=
  ∃ b F, e = .returned (.tuple #[.pointer (some ⟨b, 0, none⟩), .int .i64 0]) ∧ DevAt w' b (Dev.new n) F ∧ Keeps [] w w' ∧ ∀ x, x ∈ F → w.heap.size ≤ x

theorem newly_of {n : Nat} {w w' : World} (hn : n ≤ 65536) {Z : Array Value} (hZ : Z.size = n * 64) (hZl : Z.toList = (List.replicate n (List.replicate 64 (0 : UInt8))).flatMap secv) (g1 g2 b : Nat) (h12 : g1 ≠ g2)
    (hb : w'.heap[b]? = some (.cells #[.slice (some ⟨g1, 0, none⟩) n n, .slice (some ⟨g2, 0, none⟩) n n, .slice none 0 0, .bool false, .bool false, .int .i64 0] 58 (0, 0)))
    (h1 : w'.heap[g1]? = some (.cells Z 61 (0, 0))) (h2 : w'.heap[g2]? = some (.cells Z 61 (0, 0))) (hk : Keeps [] w w') (f1 : w.heap.size ≤ g1) (f2 : w.heap.size ≤ g2) (fb : w.heap.size ≤ b) :
    Newly n w (.returned (.tuple #[.pointer (some ⟨b, 0, none⟩), .int .i64 0])) w' := by
  have own : ∀ g, w'.heap[g]? = some (.cells Z 61 (0, 0)) → w'.ownsRow 0 61 64 (.slice (some ⟨g, 0, none⟩) n n) (List.replicate n (List.replicate 64 (0 : UInt8))).length ((List.replicate n (List.replicate 64 (0 : UInt8))).flatMap secv) := by
    intro g hg
    rw [List.length_replicate]
    refine ⟨by rw [← hZl, Array.length_toList, hZ], .inr ⟨g, n, Z, rfl, Nat.zero_le _, hg, Nat.le_refl _, by unfold maxLen; omega, hZ, ?_⟩⟩
    rw [List.take_of_length_le (by rw [Array.length_toList, hZ]; exact Nat.le_refl _), hZl]
  refine ⟨b, _, rfl, (DevIs.mk (d := Dev.new n) hb ?_ (own g1 h1) (own g2 h2) ⟨rfl, .inl ⟨rfl, rfl⟩⟩).at, hk, ?_⟩
  · intro x hx hx'
    have e1 : x ∈ [g1] := hx
    have e2 : x ∈ [g2] := hx'
    rw [List.mem_singleton] at e1 e2
    exact h12 (e1.symm.trans e2)
  · intro x hx
    have e : x ∈ b :: ([g1] ++ [g2] ++ []) := hx
    simp only [List.mem_cons, List.mem_append, List.not_mem_nil, or_false] at e
    rcases e with h | h | h <;> (rw [h]; assumption)

theorem new_in (n : Nat) (w : World) (h1 : 1 ≤ n) (h2 : n ≤ 65536) :
    Calls Try.prog 10 #[.int .i64 n] w (Newly n w) := by
  have a1 : (1 : Int) ≤ (n : Int) := by omega
  have a2 : (n : Int) ≤ 65536 := by omega
  obtain ⟨Z, hZ, hZl, hmk⟩ := makeSec n h2
  have HZ := Lib.hid hZ
  have HZl := Lib.hid hZl
  clear hZ hZl
  go_enter Try.func10, Try.ntmps10
  go_wp2
  go_region_held3 (fun _ => True) (trivial) (fail)
  · go_wp2
    go_ret2
    exact newly_of h2 HZ.out HZl.out w.heap.size (w.heap.size + 1) (w.heap.size + 1 + 1) (by omega) ((Keeps.refl [] _).drew.some (heap_alloc_at (by simp)) (by simp))
      ((((Keeps.refl [] (w.alloc (.cells Z 61))).alloc _).alloc _).drew.some (heap_alloc_at rfl) (by simp)) (((Keeps.refl [] _).alloc _).drew.some (heap_alloc_at (w := w.alloc (.cells Z 61)) (by simp)) (by simp))
      ((((Keeps.refl [] w).alloc _).alloc _).alloc _).drew (by omega) (by omega) (by omega)
  · go_wp2
    go_ret2
    exact newly_of h2 HZ.out HZl.out (w.heap.size + 1) w.heap.size (w.heap.size + 1 + 1) (by omega) ((Keeps.refl [] _).drew.some (heap_alloc_at (by simp)) (by simp))
      (((Keeps.refl [] _).alloc _).drew.some (heap_alloc_at (w := w.alloc (.cells Z 61)) (by simp)) (by simp)) ((((Keeps.refl [] (w.alloc (.cells Z 61))).alloc _).alloc _).drew.some (heap_alloc_at rfl) (by simp))
      ((((Keeps.refl [] w).alloc _).alloc _).alloc _).drew (by omega) (by omega) (by omega)

theorem new_no (n : Int) (w : World) (h : n < 1 ∨ 65536 < n) :
    Calls Try.prog 10 #[.int .i64 n] w fun e w' => e = .returned (.tuple #[.pointer none, .int .i64 1]) ∧ w = w' := by
  rcases h with h | h
  · go_enter Try.func10, Try.ntmps10
    go_wp2
    go_ret2
    exact ⟨rfl, rfl⟩
  · have h1 : ¬ n < 1 := by omega
    go_enter Try.func10, Try.ntmps10
    go_wp2
    go_ret2
    exact ⟨rfl, rfl⟩
end Go.Proofs.Ytddehagceenbnaa
