/- NamesPrints, walked. -/
import Derived.Test.YtdjhlnkkbpmfmaaDoorNamN
import Derived.Deep.RegionHeld3
import Derived.Deep.DeepCutAuto
namespace Go.Proofs.YtdjhlnkkbpmfmaaDoor.lawNamesPrints
open Go.RowKit

set_option maxHeartbeats 4000000 in
set_option maxRecDepth 100000 in
theorem walk_long (s : ByteArray) (k n : Int) (hs : 100 < s.size) (W : World) (hT : TabC W) : Calls Tryd.prog 3 #[.agg #[.string s, .int .i64 k, .int .i64 n]] W fun e w' => e = .returned (.bool true) ∧ Keeps [] W w' := by
  have Aw := Lib.hid (fun (w' : World) (k : Keeps [] W w') => awake_any w' (hT.kept k))
  have hi : (100 : Int) < (s.size : Int) := by omega
  have HO := Lib.hid (heap_at (w := W) (o := .cells #[.string s, .int .i64 k, .int .i64 n] 23 (0, 0)) rfl)
  have c0 := cell_of_heap HO.out 0
  have K0 := Lib.hid ((Keeps.refl [] W).alloc (.cells #[.string s, .int .i64 k, .int .i64 n] 23 (0, 0)))
  clear hT hs
  go_enter Tryd.func3, Tryd.ntmps3
  go_wp2_with (go_at_call 10; (with_reducible refine (Aw.out _ K0.out).mono ?_); rintro e w1 ⟨rfl, k1⟩)
  go_ret
  exact ⟨rfl, KT K0.out k1⟩

set_option maxHeartbeats 4000000 in
set_option maxRecDepth 100000 in
theorem walk (v : List UInt8) (k n : Int) (hv : v.length ≤ 100) (W : World) (hT : TabC W) : Calls Tryd.prog 3 #[.agg #[.string (str v), .int .i64 k, .int .i64 n]] W fun e w' => e = .returned (.bool true) ∧ Keeps [] W w' := by
  have Aw := Lib.hid (fun (w' : World) (k : Keeps [] W w') => awake_any w' (hT.kept k))
  have Np : Hid (∀ w' : World, Keeps [] W w' → Calls Tryd.prog 11 #[.agg #[.string (str v), .int .i64 k, .int .i64 n]] w' fun e w2 => e = .returned (.tuple #[.string (str (prtOf v k n).1), .int .i64 (prtOf v k n).2]) ∧ Keeps [] w' w2) := fun w' kk => nprint_any v k n w' (by omega) (hT.kept kk)
  have Rp := Lib.hid (fun w' => rprint_any v k n w' (by omega))
  have Nx := Lib.hid (fun w' => nprefix_any v k w' (by omega))
  have Rx := Lib.hid (fun w' => rprefix_any v k w' (by omega))
  have Nv := Lib.hid (fun w' => nvolume_any v w' (by omega))
  have Rv := Lib.hid (fun w' => rvolume_any v w' (by omega))
  have l1 := prtOf_length v k n
  have l2 := preOf_length v k
  generalize prtOf v k n = P at *
  generalize preOf v k = X at *
  obtain ⟨p, pe⟩ := P
  obtain ⟨x, xe⟩ := X
  dsimp only at Np Rp Nx Rx l1 l2
  have hi : ¬ (100 : Int) < (v.length : Int) := by omega
  have HO := Lib.hid (heap_at (w := W) (o := .cells #[.string (str v), .int .i64 k, .int .i64 n] 23 (0, 0)) rfl)
  have K0 := Lib.hid ((Keeps.refl [] W).alloc (.cells #[.string (str v), .int .i64 k, .int .i64 n] 23 (0, 0)))
  have KC : Hid (∀ w', Keeps [] (W.alloc (.cells #[.string (str v), .int .i64 k, .int .i64 n] 23)) w' → w'.cell? ⟨W.heap.size, 0, none⟩ = some (.string (str v)) ∧ w'.cell? ⟨W.heap.size, 1, none⟩ = some (.int .i64 k) ∧ w'.cell? ⟨W.heap.size, 2, none⟩ = some (.int .i64 n)) :=
    fun w' kk => ⟨cell_of_heap (kk.some HO.out (by simp)) 0, cell_of_heap (kk.some HO.out (by simp)) 1, cell_of_heap (kk.some HO.out (by simp)) 2⟩
  obtain ⟨c0, c1, c2⟩ := KC.out _ (Keeps.refl [] _)
  have ve : ∃ b, volOk v = b := ⟨_, rfl⟩
  obtain ⟨vo, hvo⟩ := ve
  rw [hvo] at Nv Rv
  clear hT hv hvo
  obtain ⟨z, hz, hzb⟩ : ∃ z : Int, (if vo = true then (0 : Int) else 1) = z ∧ (z == 0) = vo := ⟨_, rfl, by cases vo <;> rfl⟩
  rw [hz] at Nv
  clear hz
  go_enter Tryd.func3, Tryd.ntmps3
  go_upto_region 7 with (first
    | (go_at_call 11; (with_reducible refine (Np.out _ K0.out).mono ?_); rintro e w1 ⟨rfl, k1⟩; clear c0 c1 c2; obtain ⟨c0, c1, c2⟩ := KC.out _ k1)
    | (go_at_call 12; (with_reducible refine (Rp.out _).mono ?_); rintro e w2 ⟨rfl, k2⟩; have K2 := KT k1 k2; clear c0 c1 c2; obtain ⟨c0, c1, c2⟩ := KC.out _ K2)
    | (go_at_call 13; (with_reducible refine (Nx.out _).mono ?_); rintro e w3 ⟨rfl, k3⟩; have K3 := KT K2 k3; clear c0 c1 c2; obtain ⟨c0, c1, c2⟩ := KC.out _ K3)
    | (go_at_call 14; (with_reducible refine (Rx.out _).mono ?_); rintro e w4 ⟨rfl, rfl⟩))
  have K3d := Lib.hid K3.drew
  have K3h := Lib.hid K3
  clear c0 c1 c2
  go_region_held3 (fun w' => w'.cell? ⟨W.heap.size, 0, none⟩ = some (.string (str v)))
    (first | (with_reducible exact (KC.out _ K6).1) | (with_reducible exact (KC.out _ K5).1) | (with_reducible exact (KC.out _ K3d.out).1) | (with_reducible exact (KC.out _ K3h.out).1))
    (first
      | (go_at_call 15; (with_reducible refine (Nv.out _).mono ?_); rintro e w5 ⟨rfl, k5⟩; have K5 := KT K3h.out k5.ofDrew)
      | (go_at_call 16; (with_reducible refine (Rv.out _).mono ?_); rintro e w8 ⟨rfl, rfl⟩)
      | (go_at_call 10; (with_reducible refine (Aw.out _ (KT K0.out K5)).mono ?_); rintro e w6 ⟨rfl, k6⟩; have K6 := KT K5 k6))
  all_goals
    go_wp2_with fail
    go_ret
    exact ⟨rfl, KT K0.out K6⟩
end Go.Proofs.YtdjhlnkkbpmfmaaDoor.lawNamesPrints
