/- Layer 4, the device: Read. -/
import Derived.Test.YtddehagceenbnaaSsdC
import Derived.OwnWalk
namespace Go.Proofs.Ytddehagceenbnaa
open Go.RowKit

/-- What Read answers. -/
def Dev.read (d : Dev) (a n : Int) : List UInt8 × Int :=
  if d.lost then ([], 17) else if insideE d.now.length a n ≠ 0 then ([], insideE d.now.length a n) else (((d.now.drop a.toNat).take n.toNat).flatten, 0)

theorem tyBytes : SlTy Try.prog 22 5 1 1 (.int .u8 0) := SlTy.mk' Try.underlying22 (by kernel_rfl) rfl (by decide)

set_option maxHeartbeats 1000000 in
set_option maxRecDepth 100000 in
theorem read_any (b : Nat) (d : Dev) (F : List Nat) (w : World) (hd : DevAt w b d F) (hok : d.ok) (a n : Int) (ha : a ≤ 9223372036854775807) :
    Calls Try.prog 17 #[.pointer (some ⟨b, 0, none⟩), .int .i64 a, .int .i64 n] w fun e w' =>
      e = .returned (.tuple #[.string (str (d.read a n).1), .int .i64 (d.read a n).2]) ∧ Keeps [] w w' := by
  have Hin := Lib.hid (inside_any b d F w hd (by have := hok.same; have := hok.few; omega) a n ha)
  have Hd := Lib.hid hd
  obtain ⟨vl, vn, vp, hb, hF, _, _, h2, _⟩ := hd
  have c3 := cell_of_heap hb 3
  have c1 := cell_of_heap hb 1
  clear hF
  unfold Dev.read
  cases hl : d.lost
  · rw [hl] at c3
    simp only [Bool.false_eq_true, if_false]
    by_cases he : insideE d.now.length a n ≠ 0
    · rw [if_pos he]
      have he2 : (insideE d.now.length a n != 0) = true := by simpa using he
      generalize insideE d.now.length a n = E at *
      clear hb h2
      go_enter Try.func17, Try.ntmps17
      go_wp2_with (go_at_call 28; (with_reducible refine Hin.out.mono ?_); rintro e w1 ⟨rfl, rfl⟩)
      go_ret2
      exact ⟨rfl, Keeps.refl _ _⟩
    · rw [if_neg he]
      have he0 : insideE d.now.length a n = 0 := by simpa using he
      rw [he0] at Hin
      have hfew : d.now.length ≤ 65536 := by have := hok.same; have := hok.few; omega
      have hin : 0 ≤ a ∧ 0 ≤ n ∧ a + n ≤ (d.now.length : Int) := by
        unfold insideE at he0
        split at he0
        · cases he0
        · split at he0
          · cases he0
          · omega
      obtain ⟨A, rfl⟩ : ∃ A : Nat, a = A := ⟨a.toNat, by omega⟩
      obtain ⟨N, rfl⟩ : ∃ N : Nat, n = N := ⟨n.toNat, by omega⟩
      have hAN : A + N ≤ d.now.length := by omega
      have hw1 : IntKind.i64.wrap ((N : Int) * 64) = ((N * 64 : Nat) : Int) := by rw [IntWalk.i64_in _ ⟨by omega, by omega⟩]; omega
      have hw2 : IntKind.i64.wrap ((A : Int) + (N : Int)) = ((A + N : Nat) : Int) := by rw [IntWalk.i64_in _ ⟨by omega, by omega⟩]; omega
      simp only [Int.toNat_natCast]
      clear he he0 hin
      go_enter Try.func17, Try.ntmps17
      obtain ⟨i0, hi, hz0, hz1, hz2⟩ := tyBytes.info
      go_wp2_with (first | (go_at_call 28; (with_reducible refine Hin.out.mono ?_); rintro e w1 ⟨rfl, rfl⟩) | (at_make; refine wpList_make_own _ rfl _ _ 22 rfl 0 5 i0 (.int .u8 0) 1 Try.underlying22 hi hz0 hz1 .i64 .i64 _ (N * 64) rfl rfl (by omega) (by rw [hz2]; omega) (by unfold maxLen; omega) (Nat.zero_le _) ?_; intro w0 hown0 hgrow0))
      have hk0 : Keeps [] w w0 := (Keeps.refl [] w).grown hgrow0 (by simp)
      clear hgrow0
      go_loopw [9, 10] (fun ov iv wr => ∃ (k J : Nat) (l : List UInt8), k ≤ N ∧ iv = .int .i64 J ∧ Hid (J = A + k) ∧ wr.ownsRow 0 5 1 ov l.length (l.map u8v) ∧ Hid (l = ((d.now.drop A).take k).flatten) ∧ l.length = 64 * k ∧ (∀ x, x ∈ ov.ownBlock.toList → w.heap.size ≤ x) ∧ Keeps [] w wr) (fun _ iv _ => A + N - (intOf iv).toNat)
      case atStart => exact ⟨0, A, [], Nat.zero_le _, rfl, rfl, hown0, by show [] = _; simp, rfl, by simp [Value.ownBlock], hk0⟩
      case round =>
        obtain ⟨k, J, l, hk, rfl, HJ, hown, Hl, hll, hfr, hkk⟩ := hrel
        by_cases hlt : k < N
        · obtain ⟨s, hs⟩ : ∃ s, d.now[A + k]? = some s := ⟨d.now[A + k]'(by omega), by simp⟩
          have hc64 : ∀ x, x ∈ d.now → (secv x).length = 64 := fun x hx => by unfold secv; rw [List.length_map]; exact hok.n64 x hx
          obtain ⟨g, cap, hv, hra, _, _⟩ := own_elem h2 hc64 rfl hs
          subst hv
          have hs64 := hok.n64 s (List.mem_of_getElem? hs)
          have hsl : (secv s).length = 64 := by unfold secv; rw [List.length_map]; exact hs64
          have Hsl := Lib.hid hsl
          clear hsl
          have hlt2 : (J : Int) < (d.now.length : Int) := by have := HJ.out; omega
          have hlt3 : (J : Int) < ((A + N : Nat) : Int) := by have := HJ.out; omega
          have hst : ((d.now.drop A).take (k + 1)).flatten = ((d.now.drop A).take k).flatten ++ s := by
            rw [List.take_add_one, List.getElem?_drop, hs]; simp
          have c1' : wr.cell? ⟨b, 1, none⟩ = _ := hkk.cell0 c1
          have hra' : wr.rangeAt g (J * 64) (secv s) := by rw [HJ.out]; exact fun j v hj => hkk.cell0 (hra j v hj)
          have Hra := Lib.hid hra'
          have Hst := Lib.hid hst
          have Hs := Lib.hid hs
          have Hown := Lib.hid hown
          clear hra hra' hst hs hown hc64 h2 hb c1 c3 hk0 hown0 hs64
          have hJ0 : (0 : Int) ≤ (J : Int) := by omega
          go_wp2_with (at_builtin; refine wpList_appN tyBytes rfl (.tmp 37) (.tmp 44) rfl _ _ _ rfl ⟨g, J * 64, none⟩ 64 64 (secv s) rfl ?c1 ?c2 Hown.out ?c3 ?c4 ?c5 ?c6)
          case c1 => rw [Hsl.out]
          case c2 => intro j u hj; rw [Addr.add_mid]; exact Hra.out j u hj
          case c3 => intro u hu; unfold secv at hu; obtain ⟨c, _, rfl⟩ := List.mem_map.1 hu; rfl
          case c4 => omega
          case c5 => unfold maxLen; omega
          case c6 =>
          intro ad' cap' w' hown' hc'
          have hls : (l ++ s).length = 64 * k + 64 := by have := Hsl.out; unfold secv at this; rw [List.length_map] at this; rw [List.length_append]; omega
          have hown2 : w'.ownsRow 0 5 1 (.slice ad' (64 * k + 64) cap') (l ++ s).length ((l ++ s).map u8v) := by rw [hls, List.map_append]; exact hown'
          have hfr2 : ∀ x, x ∈ (Value.slice ad' (64 * k + 64) cap').ownBlock.toList → w.heap.size ≤ x := fun x hx => (hc'.fresh x hx).elim (hfr x) (fun h => Nat.le_trans hkk.size h)
          have hkk2 : Keeps [] w w' := hkk.trans hc'.keeps (fun x hx => .inr (hfr x hx))
          have Hown2 := Lib.hid hown2
          have Hfr2 := Lib.hid hfr2
          have Hls := Lib.hid hls
          clear hown' hc' hown2 hfr2 hls
          go_wp2
          go_roundw
          case rel => exact ⟨k + 1, J + 1, l ++ s, by omega, by go_num, by show J + 1 = A + (k + 1); rw [HJ.out]; omega, Hown2.out, by show l ++ s = _; rw [Hst.out, ← Hl.out], by rw [Hls.out]; omega, Hfr2.out, hkk2⟩
          case measure => simp [intOf]; omega
        · obtain rfl : k = N := by omega
          have hcv := own_string (P := Try.prog) Try.underlying22 Try.underlying5 Try.underlying9 hown
          have hJ2 : J = A + k := HJ.out
          clear hown h2 hb c1 c3 hk0 hown0 hll
          subst hJ2
          go_wp2
          go_ret2
          have hl3 : l = ((d.now.drop A).take k).flatten := Hl.out
          subst hl3
          exact ⟨rfl, hkk⟩
  · rw [hl] at c3
    simp only [if_true]
    clear hb h2
    go_enter Try.func17, Try.ntmps17
    go_wp2
    go_ret2
    exact ⟨rfl, Keeps.refl _ _⟩
end Go.Proofs.Ytddehagceenbnaa
