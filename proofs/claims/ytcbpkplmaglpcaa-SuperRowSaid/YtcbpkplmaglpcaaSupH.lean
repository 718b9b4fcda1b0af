/- Layer 11: Pick. -/
import Derived.Test.YtcbpkplmaglpcaaSupG
namespace Go.Proofs.Ytcbpkplmaglpcaa
open Go.RowKit

/-- Whether a sector's one is passed over, of what was picked by then. -/
def pickNo (i : Int) (x : Sup × Int) (p : Sup × Int × Int) : Bool := decide (x.2 ≠ 0 ∨ x.1.serial % 2 ≠ i ∨ (p.2.2 = 0 ∧ x.1.serial < p.1.serial))
def pickOne (i : Int) (x : Sup × Int) (p : Sup × Int × Int) : Sup × Int × Int := if pickNo i x p then p else (x.1, i, 0)
def pickAt (a b : List UInt8) : Nat → Sup × Int × Int
  | 0 => (.nil, 0, 15)
  | 1 => pickOne 0 (supDecode a) (.nil, 0, 15)
  | _ => pickOne 1 (supDecode b) (pickOne 0 (supDecode a) (.nil, 0, 15))
def pickS (a b : List UInt8) (k : Nat) : List UInt8 := if k = 0 then a else b
theorem pickAt_succ (a b : List UInt8) {k : Nat} (hk : k < 2) : pickAt a b (k + 1) = pickOne k (supDecode (pickS a b k)) (pickAt a b k) := by
  rcases (show k = 0 ∨ k = 1 by omega) with rfl | rfl <;> rfl

structure PickSt (w wr : World) (a b : List UInt8) (best : Sup) : Prop where
  res : wr.heap[w.heap.size]? = some (.cells #[.int .u64 0, .int .i64 0, .int .i64 0, .int .i64 0, .int .i64 0, .int .i64 0] 25 (0, 0))
  best : wr.heap[w.heap.size + 1]? = some (.cells #[.int .u64 best.key, .int .i64 best.epoch, .int .i64 best.serial, .int .i64 best.size, .int .i64 best.tail, .int .i64 best.number] 25 (0, 0))
  lits : wr.heap[w.heap.size + 1 + 1]? = some (.cells #[.string (str a), .string (str b)] 9 (0, 0))
  keeps : Keeps [] w wr
theorem PickSt.kept {w wr w' : World} {a b : List UInt8} {s : Sup} (h : PickSt w wr a b s) (k : Keeps [] wr w') : PickSt w w' a b s :=
  ⟨k.some h.res (by simp), k.some h.best (by simp), k.some h.lits (by simp), KT h.keeps k⟩
theorem PickSt.set {w wr : World} {a b : List UInt8} {s : Sup} (h : PickSt w wr a b s) (x : Sup) : PickSt w ((((((wr.setCell ⟨w.heap.size + 1, 0, none⟩ (.int .u64 x.key)).setCell ⟨w.heap.size + 1, 1, none⟩ (.int .i64 x.epoch)).setCell ⟨w.heap.size + 1, 2, none⟩ (.int .i64 x.serial)).setCell ⟨w.heap.size + 1, 3, none⟩ (.int .i64 x.size)).setCell ⟨w.heap.size + 1, 4, none⟩ (.int .i64 x.tail)).setCell ⟨w.heap.size + 1, 5, none⟩ (.int .i64 x.number)) a b x :=
  ⟨heap_ne (heap_ne (heap_ne (heap_ne (heap_ne (heap_ne h.res (by omega)) (by omega)) (by omega)) (by omega)) (by omega)) (by omega), heap_set6 h.best _ _ _ _ _ _,
   heap_ne (heap_ne (heap_ne (heap_ne (heap_ne (heap_ne h.lits (by omega)) (by omega)) (by omega)) (by omega)) (by omega)) (by omega), keeps_set6 h.keeps (by omega) _ _ _ _ _ _⟩

def LoopP (w wr : World) (a b : List UInt8) (av ev iv : Value) : Prop :=
  ∃ k : Nat, k ≤ 2 ∧ iv = .int .i64 k ∧ ∃ s at' e, pickAt a b k = (s, at', e) ∧ av = .int .i64 at' ∧ ev = .int .i64 e ∧ PickSt w wr a b s

set_option maxHeartbeats 4000000 in
set_option maxRecDepth 100000 in
theorem pick_any (a b : List UInt8) (w : World) (ha : a.length ≤ 140737488351232) (hb : b.length ≤ 140737488351232) :
    Calls Try.prog 13 #[.string (str a), .string (str b)] w fun e w' => e = .returned (.tuple #[(pickAt a b 2).1.agg, .int .i64 (pickAt a b 2).2.1, .int .i64 (pickAt a b 2).2.2]) ∧ Keeps [] w w' := by
  generalize hR : pickAt a b 2 = R
  have HR := Lib.hid hR
  have Hd := Lib.hid (fun (k : Nat) w => decode_any (pickS a b k) w (by unfold pickS; split <;> assumption))
  have Hst : Hid (PickSt w (((w.alloc (.cells #[.int .u64 0, .int .i64 0, .int .i64 0, .int .i64 0, .int .i64 0, .int .i64 0] 25)).alloc (.cells #[.int .u64 0, .int .i64 0, .int .i64 0, .int .i64 0, .int .i64 0, .int .i64 0] 25)).alloc (.cells #[.string (str a), .string (str b)] 9)) a b .nil) :=
    ⟨heap_was (heap_was (heap_at rfl)), heap_was (heap_at (by simp)), heap_at (by simp), (((Keeps.refl [] w).alloc _).alloc _).alloc _⟩
  clear hR ha hb
  go_enter Try.func13, Try.ntmps13
  go_wp2
  go_loopw [8, 9, 18] (fun av ev iv wr => LoopP w wr a b av ev iv) (fun _ _ iv _ => 2 - (intOf iv).toNat)
  case atStart => exact ⟨0, by omega, rfl, _, _, _, rfl, rfl, rfl, Hst.out⟩
  case round =>
    obtain ⟨k, hk, rfl, s, at', e, hp, rfl, rfl, hs⟩ := hrel
    by_cases hlt : k < 2
    · have hnx := pickAt_succ a b hlt
      rw [hp] at hnx
      have hcell : wr.cell? ⟨w.heap.size + 1 + 1, k, none⟩ = some (.string (str (pickS a b k))) := by
        rcases (show k = 0 ∨ k = 1 by omega) with rfl | rfl
        · exact cell_of_heap hs.lits 0
        · exact cell_of_heap hs.lits 1
      have hdk := fun w => Hd.out k w
      have hkl : (k : Int) < 2 := by omega
      have hk0 : (0 : Int) ≤ (k : Int) := by omega
      generalize pickS a b k = S at *
      generalize supDecode S = X at *
      obtain ⟨x, xe⟩ := X
      have Hdk := Lib.hid hdk
      have Hp := Lib.hid hp
      have Hs := Lib.hid hs
      have Hnx := Lib.hid hnx
      clear hdk hp hs hnx Hst Hd
      by_cases h1 : xe = 0
      · subst h1
        have Hsl := Lib.hid (fun w => slot_any x w)
        unfold Sup.agg at Hdk Hsl
        dsimp only at Hdk Hsl
        by_cases h2 : x.serial % 2 = k
        · rw [h2] at Hsl
          by_cases h3 : e = 0 ∧ x.serial < s.serial
          · have hno : Hid (pickAt a b (k + 1) = (s, at', e)) := by
              unfold Hid; rw [Hnx.out, pickOne, if_pos]; unfold pickNo; simp [h3]
            obtain ⟨rfl, h4⟩ := h3
            clear Hnx h2
            go_wp2_with (first
              | (go_at_call 10; (with_reducible refine (Hdk.out _).mono ?_); rintro e1 w1 ⟨rfl, k1⟩)
              | (go_at_call 20; (with_reducible refine (Hsl.out _).mono ?_); rintro e2 w2 ⟨rfl, k2⟩; obtain ⟨⟨c0, c1, c2, c3, c4, c5⟩, _⟩ := cells6 (k2.some (heap_at rfl) (by simp)); have hs2 := ((Hs.out.kept k1).kept ((Keeps.refl [] _).alloc _)).kept k2; obtain ⟨⟨d0, d1, d2, d3, d4, d5⟩, f0, f1, f2, f3, f4, f5⟩ := cells6 hs2.best; have Hs2 := Lib.hid hs2; clear hs2))
            go_roundw
            case rel => exact ⟨k + 1, by omega, by go_num, s, at', 0, hno.out, rfl, rfl, Hs2.out⟩
            case measure => simp [intOf] <;> omega
          · have hno : Hid (pickAt a b (k + 1) = (x, (k : Int), 0)) := by
              unfold Hid; rw [Hnx.out, pickOne, if_neg]; unfold pickNo; simpa [h2] using h3
            rcases (show (e = 0 ∧ ¬ x.serial < s.serial) ∨ ¬ e = 0 by
              by_cases he : e = 0
              · exact .inl ⟨he, fun h => h3 ⟨he, h⟩⟩
              · exact .inr he) with ⟨rfl, h4⟩ | h4
            · clear Hnx h2 h3
              go_wp2_with (first
                | (go_at_call 10; (with_reducible refine (Hdk.out _).mono ?_); rintro e1 w1 ⟨rfl, k1⟩)
                | (go_at_call 20; (with_reducible refine (Hsl.out _).mono ?_); rintro e2 w2 ⟨rfl, k2⟩; obtain ⟨⟨c0, c1, c2, c3, c4, c5⟩, _⟩ := cells6 (k2.some (heap_at rfl) (by simp)); have hs2 := ((Hs.out.kept k1).kept ((Keeps.refl [] _).alloc _)).kept k2; obtain ⟨⟨d0, d1, d2, d3, d4, d5⟩, f0, f1, f2, f3, f4, f5⟩ := cells6 hs2.best; have Hs2 := Lib.hid hs2; clear hs2))
              go_roundw
              case rel => exact ⟨k + 1, by omega, by go_num, x, k, 0, hno.out, rfl, rfl, Hs2.out.set x⟩
              case measure => simp [intOf] <;> omega
            · have h5 : (e == 0) = false := by rw [beq_eq_false_iff_ne]; exact h4
              clear Hnx h2 h3 h4
              go_wp2_with (first
                | (go_at_call 10; (with_reducible refine (Hdk.out _).mono ?_); rintro e1 w1 ⟨rfl, k1⟩)
                | (go_at_call 20; (with_reducible refine (Hsl.out _).mono ?_); rintro e2 w2 ⟨rfl, k2⟩; obtain ⟨⟨c0, c1, c2, c3, c4, c5⟩, _⟩ := cells6 (k2.some (heap_at rfl) (by simp)); have hs2 := ((Hs.out.kept k1).kept ((Keeps.refl [] _).alloc _)).kept k2; obtain ⟨⟨d0, d1, d2, d3, d4, d5⟩, f0, f1, f2, f3, f4, f5⟩ := cells6 hs2.best; have Hs2 := Lib.hid hs2; clear hs2))
              go_roundw
              case rel => exact ⟨k + 1, by omega, by go_num, x, k, 0, hno.out, rfl, rfl, Hs2.out.set x⟩
              case measure => simp [intOf] <;> omega
        · have hno : Hid (pickAt a b (k + 1) = (s, at', e)) := by
            unfold Hid; rw [Hnx.out, pickOne, if_pos]; unfold pickNo; simp [h2]
          have h4 : (x.serial % 2 != (k : Int)) = true := by rw [bne_iff_ne]; exact h2
          generalize x.serial % 2 = M at *
          clear Hnx h2
          go_wp2_with (first
            | (go_at_call 10; (with_reducible refine (Hdk.out _).mono ?_); rintro e1 w1 ⟨rfl, k1⟩)
            | (go_at_call 20; (with_reducible refine (Hsl.out _).mono ?_); rintro e2 w2 ⟨rfl, k2⟩; obtain ⟨⟨c0, c1, c2, c3, c4, c5⟩, _⟩ := cells6 (k2.some (heap_at rfl) (by simp)); have hs2 := ((Hs.out.kept k1).kept ((Keeps.refl [] _).alloc _)).kept k2; obtain ⟨⟨d0, d1, d2, d3, d4, d5⟩, f0, f1, f2, f3, f4, f5⟩ := cells6 hs2.best; have Hs2 := Lib.hid hs2; clear hs2))
          go_roundw
          case rel => exact ⟨k + 1, by omega, by go_num, s, at', e, hno.out, rfl, rfl, Hs2.out⟩
          case measure => simp [intOf] <;> omega
      · have hx : (xe != 0) = true := by rw [bne_iff_ne]; exact h1
        have hno : Hid (pickAt a b (k + 1) = (s, at', e)) := by
          unfold Hid; rw [Hnx.out, pickOne, if_pos]; unfold pickNo; simp [h1]
        clear h1 Hnx
        unfold Sup.agg at Hdk
        dsimp only at Hdk
        go_wp2_with (first
          | (go_at_call 10; (with_reducible refine (Hdk.out _).mono ?_); rintro e1 w1 ⟨rfl, k1⟩))
        go_roundw
        case rel => exact ⟨k + 1, by omega, by go_num, s, at', e, hno.out, rfl, rfl, (Hs.out.kept k1).kept ((Keeps.refl [] _).alloc _)⟩
        case measure => simp [intOf] <;> omega
    · obtain rfl : k = 2 := by omega
      rw [HR.out] at hp
      subst hp
      have h6 := hs.best
      have h7 := hs.res
      have hk7 := hs.keeps
      obtain ⟨⟨c0, c1, c2, c3, c4, c5⟩, _⟩ := cells6 h6
      obtain ⟨⟨d0, d1, d2, d3, d4, d5⟩, f0, f1, f2, f3, f4, f5⟩ := cells6 h7
      have Hk7 := Lib.hid hk7
      have H7 := Lib.hid h7
      clear h6 h7 hs hk7 HR
      go_wp2
      refine bodyPost_ret (results_row_tmp2 rfl rfl (heap_set6 H7.out _ _ _ _ _ _) Try.underlying25 rfl (by kernel_rfl)) rfl ⟨rfl, ?_⟩
      exact keeps_set6 Hk7.out (by omega) _ _ _ _ _ _
end Go.Proofs.Ytcbpkplmaglpcaa
