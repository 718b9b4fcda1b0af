/- SuperTorn's walks. -/
import Derived.Test.YtcbpkplmaglpcaaSupW
import Derived.Test.YtcbpkplmaglpcaaSupTornP
import Derived.Test.YtcbpkplmaglpcaaBytesOf
import Derived.Test.YtcbpkplmaglpcaaTornL
namespace Go.Proofs.Ytcbpkplmaglpcaa
open Go.RowKit

set_option maxHeartbeats 8000000 in
set_option maxRecDepth 100000 in
theorem torn_zero_else_0 (s : Sup) (hg : s.good) (hc : s.check = 0) (a b : Int) (ha0 : -9223372036854775808 ≤ a) (ha1 : a ≤ 9223372036854775807) (hb0 : -9223372036854775808 ≤ b) (hb1 : b ≤ 9223372036854775807) (hx : s.next a b = (s.behind a b, 0)) (hn : (s.behind a b).check = 0)
    (h0 : s.serial = 0) (hp : s.serial % 2 = 0) (how : Int) (g1 : ¬ how = 1) (g2 : ¬ how = 2) (W : World) :
    Calls Try.prog 7 #[s.agg, .agg #[.int .i64 a, .int .i64 b], .int .i64 how] W fun e w' => e = .returned (.bool true) ∧ Keeps [] W w' := by
  have hgn : (s.behind a b).good := by
    have hs := (check_le s hc).2.1
    exact ⟨hg.key, hg.e0, hg.e1, by show _ ≤ s.serial + 1; omega, by show s.serial + 1 ≤ _; omega, hg.z0, hg.z1, ha0, ha1, hb0, hb1⟩
  have C2 := Lib.hid (fun w => refCheck_any s hg w)
  have Pl := Lib.hid (fun w => plain_any s w)
  have Nx := Lib.hid (fun w => next_any s hg a b ha0 ha1 hb0 hb1 w)
  have E1 := Lib.hid (fun w => encode_any s hg w)
  have E2 := Lib.hid (fun w => encode_any (s.behind a b) hgn w)
  have L1 := Lib.hid (fun w => slot_any s w)
  have L2 := Lib.hid (fun w => slot_any (s.behind a b) w)
  have he1 : s.encode = (s.sector, 0) := if_pos hc
  have he2 : (s.behind a b).encode = ((s.behind a b).sector, 0) := if_pos hn
  have hp2 : (s.behind a b).serial % 2 = 1 := by show (s.serial + 1) % 2 = _; omega
  rw [hx] at Nx
  rw [hc] at C2
  rw [he1] at E1
  rw [he2] at E2
  rw [hp] at L1
  rw [hp2] at L2
  have hpk := torn_pick hg.key hgn.key hc hn rfl (was := List.replicate 64 0) (.inr ⟨h0, rfl⟩) how
  obtain ⟨Z, hmk, hcv⟩ := make_zeros 64 (by omega)
  have lB : (List.replicate 64 (0 : UInt8)).length = 64 := by simp
  generalize List.replicate 64 (0 : UInt8) = BF at *
  have hpw := hpk.1 hp
  have lF := sector_length (s.behind a b)
  have lO := sector_length s
  have hWv : tornW (s.behind a b) BF how = BF := by unfold tornW; rw [if_neg g1, if_neg g2]
  have hXv : tornX s (s.behind a b) how = s := if_neg g1
  rw [hWv, hXv, hp] at hpw
  have Pk := Lib.hid (fun w => pick_any (s.sector) (BF) w (by omega) (by omega))
  rw [hpw] at Pk
  generalize (s.behind a b).sector = FR at *
  generalize s.sector = OLD at *
  have q1 : (how == 1) = false := by rw [beq_eq_false_iff_ne]; exact g1
  have q2 : (how == 2) = false := by rw [beq_eq_false_iff_ne]; exact g2
  have hss := (check_le s hc).2.1
  have HS := Lib.hid (heap_was (o := .cells #[.int .i64 a, .int .i64 b] 49 (0, 0)) (heap_at (w := W) (o := .cells #[.int .u64 s.key, .int .i64 s.epoch, .int .i64 s.serial, .int .i64 s.size, .int .i64 s.tail, .int .i64 s.number] 25 (0, 0)) rfl))
  have HT := Lib.hid (heap_at (w := W.alloc (.cells #[.int .u64 s.key, .int .i64 s.epoch, .int .i64 s.serial, .int .i64 s.size, .int .i64 s.tail, .int .i64 s.number] 25)) (o := .cells #[.int .i64 a, .int .i64 b] 49 (0, 0)) (k := W.heap.size + 1) (by simp))
  have hmk' : ∀ w, (Instr.makeSlice 47 (.int .i64 64) (.int .i64 64)).run Try.prog w = .ok (.slice (some ⟨w.heap.size, 0, none⟩) 64 64) (w.alloc (.cells Z 5)) := hmk
  have hcv' : ∀ (w : World) (k : Nat), k = w.heap.size → (convert 47 9 (.slice (some ⟨k, 0, none⟩) 64 64)).run Try.prog (w.alloc (.cells Z 5)) = .ok (.string (str BF)) (w.alloc (.cells Z 5)) := by
    rintro w k rfl
    exact hcv w _ (Keeps.refl [] _)
  clear hmk hcv hpk hpw hWv hXv hx hc hn hg hgn he1 he2 hp2 ha0 ha1 hb0 hb1 g1 g2 hp
  obtain ⟨key, epoch, serial, size, tail, number⟩ := s
  unfold Sup.behind Sup.agg at *
  dsimp only at *
  subst h0
  simp only [Int.zero_add] at Nx E2 L2 Pk
  go_enter Try.func7, Try.ntmps7
  go_upto_region 8 with (first
    | (go_at_call 12; (with_reducible refine (Pl.out _).mono ?_); rintro e w1 ⟨rfl, k1⟩)
    | (go_at_call 16; (with_reducible refine (C2.out _).mono ?_); rintro e w2 ⟨rfl, k2⟩; have K2 := KT k1 k2; obtain ⟨⟨c0, c1, c2, c3, c4, c5⟩, _⟩ := cells6 (K2.some HS.out (by simp)); have t0 := cell_of_heap (K2.some HT.out (by simp)) 0; have t1 := cell_of_heap (K2.some HT.out (by simp)) 1)
    | (go_at_call 15; (with_reducible refine (Nx.out _).mono ?_); rintro e w3 ⟨rfl, k3⟩; have K3 := KT K2 k3; clear c0 c1 c2 c3 c4 c5 t0 t1; obtain ⟨⟨c0, c1, c2, c3, c4, c5⟩, _⟩ := cells6_was (K3.some HS.out (by simp)))
    | (go_at_call 17; (with_reducible refine (E1.out _).mono ?_); rintro e w4 ⟨rfl, k4⟩; obtain ⟨⟨d0, d1, d2, d3, d4, d5⟩, _⟩ := cells6 (k4.some (heap_at rfl) (by simp)))
    | (go_at_call 17; (with_reducible refine (E2.out _).mono ?_); rintro e w5 ⟨rfl, k5⟩; have KN := KT k4 k5))
  have K5 := KT (KT K3 ((Keeps.refl [] w3).alloc (.cells #[.int .u64 key, .int .i64 epoch, .int .i64 1, .int .i64 size, .int .i64 a, .int .i64 b] 25))) KN
  have KS : Hid (∀ w', Keeps [] w5 w' → (w'.cell? ⟨W.heap.size, 0, none⟩ = some (.int .u64 key) ∧ w'.cell? ⟨W.heap.size, 1, none⟩ = some (.int .i64 epoch) ∧ w'.cell? ⟨W.heap.size, 2, none⟩ = some (.int .i64 0) ∧ w'.cell? ⟨W.heap.size, 3, none⟩ = some (.int .i64 size) ∧ w'.cell? ⟨W.heap.size, 4, none⟩ = some (.int .i64 tail) ∧ w'.cell? ⟨W.heap.size, 5, none⟩ = some (.int .i64 number)) ∧ w'.cell? ⟨w3.heap.size, 0, none⟩ = some (.int .u64 key) ∧ w'.cell? ⟨w3.heap.size, 1, none⟩ = some (.int .i64 epoch) ∧ w'.cell? ⟨w3.heap.size, 2, none⟩ = some (.int .i64 1) ∧ w'.cell? ⟨w3.heap.size, 3, none⟩ = some (.int .i64 size) ∧ w'.cell? ⟨w3.heap.size, 4, none⟩ = some (.int .i64 a) ∧ w'.cell? ⟨w3.heap.size, 5, none⟩ = some (.int .i64 b)) := fun w' k => ⟨(cells6 ((KT K5 k).some HS.out (by simp))).1, (cells6 ((KT KN k).some (heap_at rfl) (by simp))).1⟩
  have K5d : Keeps [] w5 w5.drew := (Keeps.refl [] w5).drew
  clear c0 c1 c2 c3 c4 c5 d0 d1 d2 d3 d4 d5
  go_region_held3 (fun w' => (w'.cell? ⟨W.heap.size, 0, none⟩ = some (.int .u64 key) ∧ w'.cell? ⟨W.heap.size, 1, none⟩ = some (.int .i64 epoch) ∧ w'.cell? ⟨W.heap.size, 2, none⟩ = some (.int .i64 0) ∧ w'.cell? ⟨W.heap.size, 3, none⟩ = some (.int .i64 size) ∧ w'.cell? ⟨W.heap.size, 4, none⟩ = some (.int .i64 tail) ∧ w'.cell? ⟨W.heap.size, 5, none⟩ = some (.int .i64 number)) ∧ w'.cell? ⟨w3.heap.size, 0, none⟩ = some (.int .u64 key) ∧ w'.cell? ⟨w3.heap.size, 1, none⟩ = some (.int .i64 epoch) ∧ w'.cell? ⟨w3.heap.size, 2, none⟩ = some (.int .i64 1) ∧ w'.cell? ⟨w3.heap.size, 3, none⟩ = some (.int .i64 size) ∧ w'.cell? ⟨w3.heap.size, 4, none⟩ = some (.int .i64 a) ∧ w'.cell? ⟨w3.heap.size, 5, none⟩ = some (.int .i64 b))
    (exact KS.out _ (by assumption))
    (first
      | (go_at_call 20; (with_reducible refine (L1.out _).mono ?_); rintro e w6 ⟨rfl, k6⟩; have k6' := KT (by assumption) k6; clear k6)
      | (go_at_call 20; (with_reducible refine (L2.out _).mono ?_); rintro e w6 ⟨rfl, k6⟩; have k6' := KT (by assumption) k6; clear k6))
  have K6 := KT K5 (by assumption : Keeps [] w5 w6)
  have k56 : Keeps [] w5 w6 := by assumption
  obtain ⟨⟨c0, c1, c2, c3, c4, c5⟩, _⟩ := cells6_was (K6.some HS.out (by simp))
  obtain ⟨d0, d1, d2, d3, d4, d5⟩ := cells6_was2 (K6.some HS.out (by simp))
  go_upto_region 27 with (first
    | (go_at_call 20; (with_reducible refine (L1.out _).mono ?_); rintro e w8 ⟨rfl, k8⟩))
  have KV : Keeps [] w5 (w8.alloc (.cells #[.string (str OLD), .string (str BF)] 9)) := (KT k56 (KT (((Keeps.refl [] w6).alloc _).alloc _) k8)).alloc _
  have HL : Hid ((w8.alloc (.cells #[.string (str OLD), .string (str BF)] 9)).heap[w8.heap.size]? = some (.cells #[.string (str OLD), .string (str BF)] 9 (0, 0))) := heap_at rfl
  have KL : Hid (∀ w', Keeps [] (w8.alloc (.cells #[.string (str OLD), .string (str BF)] 9)) w' → w'.cell? ⟨w8.heap.size, 0, none⟩ = some (.string (str OLD)) ∧ w'.cell? ⟨w8.heap.size, 1, none⟩ = some (.string (str BF))) := fun w' k => ⟨cell_of_heap (k.some HL.out (by simp)) 0, cell_of_heap (k.some HL.out (by simp)) 1⟩
  have KVd : Keeps [] (w8.alloc (.cells #[.string (str OLD), .string (str BF)] 9)) (w8.alloc (.cells #[.string (str OLD), .string (str BF)] 9)).drew := (Keeps.refl [] _).drew
  clear c0 c1 c2 c3 c4 c5 d0 d1 d2 d3 d4 d5
  go_cut [18, 19, 20] (fun s18 s19 s20 wx => ∃ g, s18 = .pointer (some ⟨g, 0, none⟩) ∧ s19 = .int .i64 0 ∧ s20 = .int .i64 0 ∧ wx.heap[g]? = some (.cells #[.int .u64 key, .int .i64 epoch, .int .i64 0, .int .i64 size, .int .i64 tail, .int .i64 number] 25 (0, 0)) ∧ Keeps [] (w8.alloc (.cells #[.string (str OLD), .string (str BF)] 9)) wx)
  case first =>
    have z0 : ∀ w : World, (w.alloc (.cells #[.int .u64 0, .int .i64 0, .int .i64 0, .int .i64 0, .int .i64 0, .int .i64 0] 25)).cell? ⟨w.heap.size, 0, none⟩ = some (.int .u64 0) := fun w => cell_of_heap (heap_at rfl) 0
    have y0 : ∀ w : World, (w.alloc (.cells #[.int .u64 0, .int .i64 0, .int .i64 0, .int .i64 0, .int .i64 0, .int .i64 0] 25)).frozen? ⟨w.heap.size, 0, none⟩ = false := fun w => free_of_heap (heap_at rfl) 0
    have z1 : ∀ w : World, (w.alloc (.cells #[.int .u64 0, .int .i64 0, .int .i64 0, .int .i64 0, .int .i64 0, .int .i64 0] 25)).cell? ⟨w.heap.size, 1, none⟩ = some (.int .i64 0) := fun w => cell_of_heap (heap_at rfl) 1
    have y1 : ∀ w : World, (w.alloc (.cells #[.int .u64 0, .int .i64 0, .int .i64 0, .int .i64 0, .int .i64 0, .int .i64 0] 25)).frozen? ⟨w.heap.size, 1, none⟩ = false := fun w => free_of_heap (heap_at rfl) 1
    have z2 : ∀ w : World, (w.alloc (.cells #[.int .u64 0, .int .i64 0, .int .i64 0, .int .i64 0, .int .i64 0, .int .i64 0] 25)).cell? ⟨w.heap.size, 2, none⟩ = some (.int .i64 0) := fun w => cell_of_heap (heap_at rfl) 2
    have y2 : ∀ w : World, (w.alloc (.cells #[.int .u64 0, .int .i64 0, .int .i64 0, .int .i64 0, .int .i64 0, .int .i64 0] 25)).frozen? ⟨w.heap.size, 2, none⟩ = false := fun w => free_of_heap (heap_at rfl) 2
    have z3 : ∀ w : World, (w.alloc (.cells #[.int .u64 0, .int .i64 0, .int .i64 0, .int .i64 0, .int .i64 0, .int .i64 0] 25)).cell? ⟨w.heap.size, 3, none⟩ = some (.int .i64 0) := fun w => cell_of_heap (heap_at rfl) 3
    have y3 : ∀ w : World, (w.alloc (.cells #[.int .u64 0, .int .i64 0, .int .i64 0, .int .i64 0, .int .i64 0, .int .i64 0] 25)).frozen? ⟨w.heap.size, 3, none⟩ = false := fun w => free_of_heap (heap_at rfl) 3
    have z4 : ∀ w : World, (w.alloc (.cells #[.int .u64 0, .int .i64 0, .int .i64 0, .int .i64 0, .int .i64 0, .int .i64 0] 25)).cell? ⟨w.heap.size, 4, none⟩ = some (.int .i64 0) := fun w => cell_of_heap (heap_at rfl) 4
    have y4 : ∀ w : World, (w.alloc (.cells #[.int .u64 0, .int .i64 0, .int .i64 0, .int .i64 0, .int .i64 0, .int .i64 0] 25)).frozen? ⟨w.heap.size, 4, none⟩ = false := fun w => free_of_heap (heap_at rfl) 4
    have z5 : ∀ w : World, (w.alloc (.cells #[.int .u64 0, .int .i64 0, .int .i64 0, .int .i64 0, .int .i64 0, .int .i64 0] 25)).cell? ⟨w.heap.size, 5, none⟩ = some (.int .i64 0) := fun w => cell_of_heap (heap_at rfl) 5
    have y5 : ∀ w : World, (w.alloc (.cells #[.int .u64 0, .int .i64 0, .int .i64 0, .int .i64 0, .int .i64 0, .int .i64 0] 25)).frozen? ⟨w.heap.size, 5, none⟩ = false := fun w => free_of_heap (heap_at rfl) 5
    have l0 : ∀ o : Obj, ((w8.alloc (.cells #[.string (str OLD), .string (str BF)] 9)).alloc o).cell? ⟨w8.heap.size, 0, none⟩ = some (.string (str OLD)) := fun o => cell_of_heap (heap_was HL.out) 0
    have l1 : ∀ o : Obj, ((w8.alloc (.cells #[.string (str OLD), .string (str BF)] 9)).alloc o).cell? ⟨w8.heap.size, 1, none⟩ = some (.string (str BF)) := fun o => cell_of_heap (heap_was HL.out) 1
    have l2 : (w8.alloc (.cells #[.string (str OLD), .string (str BF)] 9)).cell? ⟨w8.heap.size, 0, none⟩ = some (.string (str OLD)) := cell_of_heap HL.out 0
    have l3 : (w8.alloc (.cells #[.string (str OLD), .string (str BF)] 9)).cell? ⟨w8.heap.size, 1, none⟩ = some (.string (str BF)) := cell_of_heap HL.out 1
    clear KL KS K5d KV
    go_region_with (first
        | (go_at_call 13; (with_reducible refine (Pk.out _).mono ?_); rintro e w9 ⟨rfl, k9⟩; (first | (have hx9 := k9.ofDrew.some (heap_at (k := w8.heap.size + 1) (by simp)) (by simp); obtain ⟨⟨a0, a1, a2, a3, a4, a5⟩, b0, b1, b2, b3, b4, b5⟩ := cells6 hx9; have HX9 := Lib.hid hx9; clear hx9) | skip)))
    all_goals
      go_wp2_with fail
      go_meet
      refine ⟨_, rfl, rfl, rfl, ?_, ?_⟩
      · first
          | (with_reducible exact heap_at rfl)
          | (with_reducible exact heap_set6 HX9.out _ _ _ _ _ _)
      · first
          | (with_reducible refine Keeps.alloc ?_ _; with_reducible exact KT KVd k9)
          | (with_reducible refine keeps_set6 ?_ (by simp) _ _ _ _ _ _; with_reducible exact KT (Keeps.drew (Keeps.alloc (Keeps.refl [] _) _)) k9)
  case rest =>
    obtain ⟨g, rfl, rfl, rfl, hgx, kx⟩ := hcut

    have KX := KT KV kx
    have Hgx := Lib.hid hgx
    obtain ⟨⟨c0, c1, c2, c3, c4, c5⟩, d0, d1, d2, d3, d4, d5⟩ := KS.out _ KX
    obtain ⟨⟨x0, x1, x2, x3, x4, x5⟩, _⟩ := cells6 hgx
    clear hgx HL KL KVd
    go_wp2_with (first
      | (go_at_call 20; (with_reducible refine (L1.out _).mono ?_); rintro e w10 ⟨rfl, k10⟩; clear c0 c1 c2 c3 c4 c5 d0 d1 d2 d3 d4 d5 x0 x1 x2 x3 x4 x5; obtain ⟨⟨c0, c1, c2, c3, c4, c5⟩, d0, d1, d2, d3, d4, d5⟩ := KS.out _ (KT KX k10); obtain ⟨⟨x0, x1, x2, x3, x4, x5⟩, _⟩ := cells6 (k10.some Hgx.out (by simp)))
      | (go_at_call 9; (with_reducible refine (awake_any _).mono ?_); rintro e w11 ⟨rfl, k11⟩))
    go_ret
    exact ⟨rfl, KT (KT (KT (KT (((Keeps.refl [] W).alloc _).alloc _) K5) KX) k10) k11⟩

end Go.Proofs.Ytcbpkplmaglpcaa
