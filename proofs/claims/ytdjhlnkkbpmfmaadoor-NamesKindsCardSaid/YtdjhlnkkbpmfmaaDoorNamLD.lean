/- NamesParses, walked. -/
import Derived.Test.YtdjhlnkkbpmfmaaDoorNamN
import Derived.Test.YtdjhlnkkbpmfmaaDoorNamS
namespace Go.Proofs.YtdjhlnkkbpmfmaaDoor.lawNamesParses
open Go.RowKit

set_option maxHeartbeats 4000000 in
set_option maxRecDepth 100000 in
theorem walk_long (s : ByteArray) (hs : 100 < s.size) (W : World) (hT : TabC W) : Calls Tryd.prog 6 #[.string s] W fun e w' => e = .returned (.bool true) ∧ Keeps [] W w' := by
  have Aw := Lib.hid (awake_any W hT)
  have hi : (100 : Int) < (s.size : Int) := by omega
  clear hT hs
  go_enter Tryd.func6, Tryd.ntmps6
  go_wp2_with (go_at_call 10; (with_reducible refine Aw.out.mono ?_); rintro e w1 ⟨rfl, k1⟩)
  go_ret
  exact ⟨rfl, k1⟩

set_option maxHeartbeats 4000000 in
set_option maxRecDepth 100000 in
theorem walk_none (s : ByteArray) (hs : s.size ≤ 100) (Np : Hid (∀ w' : World, Calls Tryd.prog 19 #[.string s] w' fun e w2 => e = .returned (.tuple #[.agg #[.string (str []), .int .i64 0, .int .i64 0], .int .i64 12]) ∧ Keeps [] w' w2))
    (Rp : Hid (∀ w' : World, Calls Tryd.prog 20 #[.string s] w' fun e w2 => e = .returned (.tuple #[.string (str []), .int .i64 0, .int .i64 0, .bool false]) ∧ w2 = w')) (W : World) (hT : TabC W) :
    Calls Tryd.prog 6 #[.string s] W fun e w' => e = .returned (.bool true) ∧ Keeps [] W w' := by
  have Aw := Lib.hid (fun (w' : World) (k : Keeps [] W w') => awake_any w' (hT.kept k))
  have hi : ¬ (100 : Int) < (s.size : Int) := by omega
  have KA := Lib.hid (fun (w' : World) (k : Keeps [] W w') => k.alloc (.cells #[.string (str []), .int .i64 0, .int .i64 0] 23))
  have CA : ∀ (w : World) (k : Nat), k = w.heap.size → (w.alloc (.cells #[.string (str []), .int .i64 0, .int .i64 0] 23)).cell? ⟨k, 0, none⟩ = some (.string (str [])) ∧ (w.alloc (.cells #[.string (str []), .int .i64 0, .int .i64 0] 23)).cell? ⟨k, 1, none⟩ = some (.int .i64 0) ∧ (w.alloc (.cells #[.string (str []), .int .i64 0, .int .i64 0] 23)).cell? ⟨k, 2, none⟩ = some (.int .i64 0) := fun w k h => ⟨cell_of_heap (heap_at h) 0, cell_of_heap (heap_at h) 1, cell_of_heap (heap_at h) 2⟩
  have HC := Lib.hid CA
  have hemp : ByteArray.mk #[] = str [] := rfl
  clear hT hs CA
  go_enter Tryd.func6, Tryd.ntmps6
  go_wp2_with (first
    | (go_at_call 19; (with_reducible refine (Np.out _).mono ?_); rintro e w1 ⟨rfl, k1⟩; obtain ⟨c0, c1, c2⟩ := HC.out w1 _ rfl)
    | (go_at_call 20; (with_reducible refine (Rp.out _).mono ?_); rintro e w2 ⟨rfl, rfl⟩)
    | (go_at_call 10; (with_reducible refine (Aw.out _ (KA.out _ k1)).mono ?_); rintro e w3 ⟨rfl, k3⟩))
  go_ret
  exact ⟨rfl, KT (KA.out _ k1) k3⟩

set_option maxHeartbeats 4000000 in
set_option maxRecDepth 100000 in
theorem walk_some (s : ByteArray) (v : List UInt8) (k n : Int) (hs : s.size ≤ 100) (Np : Hid (∀ w' : World, Calls Tryd.prog 19 #[.string s] w' fun e w2 => e = .returned (.tuple #[.agg #[.string (str v), .int .i64 k, .int .i64 n], .int .i64 0]) ∧ Keeps [] w' w2))
    (Rp : Hid (∀ w' : World, Calls Tryd.prog 20 #[.string s] w' fun e w2 => e = .returned (.tuple #[.string (str v), .int .i64 k, .int .i64 n, .bool true]) ∧ w2 = w')) (W : World) (hT : TabC W) :
    Calls Tryd.prog 6 #[.string s] W fun e w' => e = .returned (.bool true) ∧ Keeps [] W w' := by
  have Aw := Lib.hid (fun (w' : World) (k : Keeps [] W w') => awake_any w' (hT.kept k))
  have hi : ¬ (100 : Int) < (s.size : Int) := by omega
  have KA := Lib.hid (fun (w' : World) (kk : Keeps [] W w') => kk.alloc (.cells #[.string (str v), .int .i64 k, .int .i64 n] 23))
  have CA : ∀ (w : World) (b : Nat), b = w.heap.size → (w.alloc (.cells #[.string (str v), .int .i64 k, .int .i64 n] 23)).cell? ⟨b, 0, none⟩ = some (.string (str v)) ∧ (w.alloc (.cells #[.string (str v), .int .i64 k, .int .i64 n] 23)).cell? ⟨b, 1, none⟩ = some (.int .i64 k) ∧ (w.alloc (.cells #[.string (str v), .int .i64 k, .int .i64 n] 23)).cell? ⟨b, 2, none⟩ = some (.int .i64 n) := fun w b h => ⟨cell_of_heap (heap_at h) 0, cell_of_heap (heap_at h) 1, cell_of_heap (heap_at h) 2⟩
  have HC := Lib.hid CA
  clear hT hs CA
  go_enter Tryd.func6, Tryd.ntmps6
  go_wp2_with (first
    | (go_at_call 19; (with_reducible refine (Np.out _).mono ?_); rintro e w1 ⟨rfl, k1⟩; obtain ⟨c0, c1, c2⟩ := HC.out w1 _ rfl)
    | (go_at_call 20; (with_reducible refine (Rp.out _).mono ?_); rintro e w2 ⟨rfl, rfl⟩)
    | (go_at_call 10; (with_reducible refine (Aw.out _ (KA.out _ k1)).mono ?_); rintro e w3 ⟨rfl, k3⟩))
  go_ret
  exact ⟨rfl, KT (KA.out _ k1) k3⟩

/-- A text of 14 bytes or more, in its parts. -/
theorem parts {l : List UInt8} (h : 14 ≤ l.length) : ∃ v c1 c2 c3 d, l = v ++ c1 :: c2 :: c3 :: d ∧ v.length = l.length - 13 ∧ d.length = 10 := by
  have h1 : l.length - 13 < l.length := by omega
  have h2 : l.length - 13 + 1 < l.length := by omega
  have h3 : l.length - 13 + 1 + 1 < l.length := by omega
  refine ⟨l.take (l.length - 13), l[l.length - 13], l[l.length - 13 + 1], l[l.length - 13 + 1 + 1], l.drop (l.length - 13 + 1 + 1 + 1), ?_, by rw [List.length_take]; omega, by rw [List.length_drop]; omega⟩
  rw [← List.drop_eq_getElem_cons h3, ← List.drop_eq_getElem_cons h2, ← List.drop_eq_getElem_cons h1, List.take_append_drop]

theorem walk_any (s : ByteArray) (W : World) (hT : TabC W) : Calls Tryd.prog 6 #[.string s] W fun e w' => e = .returned (.bool true) ∧ Keeps [] W w' := by
  by_cases hl : 100 < s.size
  · exact walk_long s hl W hT
  by_cases hs : s.size ≤ 13
  · exact walk_none s (by omega) (fun w' => nparse_short s w' hs) (fun w' => rparse_short s w' hs) W hT
  obtain ⟨v, c1, c2, c3, d, he, hv, hd⟩ := parts (l := s.data.toList) (by rw [dlen]; omega)
  rw [dlen] at hv
  have Np := fun w' => nparse_any v d c1 c2 c3 w' (by omega) (by omega) hd
  have Rp := fun w' => rparse_any v d c1 c2 c3 w' (by omega) (by omega) hd
  rw [← he, str_self] at Np Rp
  cases hP : parseP v c1 c2 c3 d with
  | none =>
    rw [hP] at Np Rp
    exact walk_none s (by omega) Np Rp W hT
  | some kn =>
    obtain ⟨k, n⟩ := kn
    rw [hP] at Np Rp
    exact walk_some s v k n (by omega) Np Rp W hT
end Go.Proofs.YtdjhlnkkbpmfmaaDoor.lawNamesParses
