/- strings.IndexRune in the hexadecimal digits; number, the program's and the answer's. -/
import Derived.Test.YtdjhlnkkbpmfmaaDoorNamC
import Derived.Scope
import Derived.Deep.DeepCutAuto
namespace Go.Proofs.YtdjhlnkkbpmfmaaDoor
open Go.RowKit
attribute [local go_sem] Exit.noGoto

def hexL : List UInt8 := [48, 49, 50, 51, 52, 53, 54, 55, 56, 57, 97, 98, 99, 100, 101, 102]
/-- A digit's number; -1: it is none. -/
def hexval (c : Nat) : Int := if 48 ≤ c ∧ c ≤ 57 then c - 48 else if 97 ≤ c ∧ c ≤ 102 then c - 87 else -1
theorem hexval_at : ∀ c : Fin 256, Lib.indexByte hexL (UInt8.ofNat c.val) = hexval c.val := by decide +kernel
theorem hexval_lt (c : Nat) : hexval c < 16 := by unfold hexval; split <;> (try split) <;> omega

/-- A rune that is no ASCII: its last byte is none either. -/
theorem encode_high (r : Int) (h : 128 ≤ r) : ∃ (L : List UInt8) (c : UInt8), Utf8.encode r = str (L ++ [c]) ∧ 1 ≤ L.length ∧ L.length ≤ 3 ∧ 128 ≤ c.toNat := by
  unfold Utf8.encode
  have hc : 128 ≤ (if Utf8.valid r then r.toNat else Utf8.runeError) := by
    split
    · omega
    · decide
  generalize (if Utf8.valid r then r.toNat else Utf8.runeError) = c at *
  dsimp only
  rw [if_neg (by omega)]
  split
  · exact ⟨[_], _, rfl, by simp, by simp, by simp only [UInt8.toNat_ofNat']; omega⟩
  · split
    · exact ⟨[_, _], _, rfl, by simp, by simp, by simp only [UInt8.toNat_ofNat']; omega⟩
    · exact ⟨[_, _, _], _, rfl, by simp, by simp, by simp only [UInt8.toNat_ofNat']; omega⟩
theorem index_none (l : List UInt8) (c : UInt8) (h : c ∉ l) : Lib.indexByte l c = -1 := by
  induction l with
  | nil => rfl
  | cons b l ih =>
    have h1 : b ≠ c := fun e => h (by rw [e]; simp)
    have h2 := ih (fun e => h (by simp [e]))
    rw [Lib.indexByte, if_neg (by simpa using h1), h2]
    rfl
theorem hexL_ascii {c : UInt8} (h : 128 ≤ c.toNat) : c ∉ hexL := fun hm => by
  have : ∀ x ∈ hexL, x.toNat < 128 := by decide
  have := this c hm
  omega

set_option maxHeartbeats 4000000 in
set_option maxRecDepth 100000 in
theorem irune_bad (w : World) : Calls Tryd.prog 41 #[.string (str hexL), .int .i32 65533] w fun e w' => e = .returned (.int .i64 (-1)) ∧ Keeps [] w w' := by
  have hlen : (str hexL).size = 16 := by decide
  have Hl : ∀ (p : Nat) (h : p < (str hexL).size), ((str hexL)[p]'h).toNat < 128 := by decide
  generalize str hexL = S at *
  have HL := Lib.hid Hl
  clear Hl
  go_enter Tryd.func41, Tryd.ntmps41
  go_wp2
  go_loopw [] (fun wr => ∃ pos : Nat, wr.heap[w.heap.size]? = some (.stringIter S pos) ∧ Keeps [] w wr) (fun wr => 16 - wr.iterPos w.heap.size)
  case atStart =>
    refine ⟨0, ?_, ?_⟩
    · have := World.iter_heap w S 0
      simpa using this
    · exact (Keeps.refl [] w).alloc _
  case round =>
    obtain ⟨pos, hit, hk⟩ := hrel
    by_cases hp : pos < S.size
    · have ha := HL.out pos hp
      have hnx : ∀ ty, (Instr.next (.pointer (some ⟨w.heap.size, 0, none⟩)) true ty).run Tryd.prog wr = _ := fun ty => Lib.run_next_ascii_at wr w.heap.size S pos ty hit hp ha
      have hit2 := Lib.iterAt_heap wr w.heap.size S pos (pos + 1) hit
      have hkk := Keeps.of_below (Lib.below_iterAt hk.below (k := w.heap.size) (Nat.le_refl _) S (pos + 1))
      have hmeas : (wr.iterAt w.heap.size S (pos + 1)).iterPos w.heap.size = pos + 1 := by simp [World.iterPos, hit2]
      have hmeas0 : wr.iterPos w.heap.size = pos := by simp [World.iterPos, hit]
      have hne : (((S[pos]'hp).toNat : Int) == 65533) = false := by rw [beq_eq_false_iff_ne]; omega
      have Hit2 := Lib.hid hit2
      have Hkk := Lib.hid hkk
      have Hm := Lib.hid hmeas
      have Hm0 := Lib.hid hmeas0
      clear hit2 hkk hmeas hmeas0 hit hk ha
      go_wp2
      go_roundw
      case rel => exact ⟨pos + 1, Hit2.out, Hkk.out⟩
      case measure =>
        rw [Hm.out, Hm0.out]
        omega
    · have hnx : ∀ ty, (Instr.next (.pointer (some ⟨w.heap.size, 0, none⟩)) true ty).run Tryd.prog wr = _ := fun ty => Lib.run_next_end_at wr w.heap.size S pos ty hit hp
      have Hk := Lib.hid hk
      clear hit hk
      go_wp2
      go_ret
      exact ⟨rfl, Hk.out⟩

set_option maxHeartbeats 4000000 in
set_option maxRecDepth 100000 in
theorem irune_any (r : Int) (h128 : 128 ≤ r) (w : World) : Calls Tryd.prog 41 #[.string (str hexL), .int .i32 r] w fun e w' => e = .returned (.int .i64 (-1)) ∧ Keeps [] w w' := by
  by_cases hbad : r = 65533
  · rw [hbad]
    exact irune_bad w
  have Va := Lib.hid (fun w => Tryd.utf8_ValidRune r w)
  have n1 : ¬ r < 128 := by omega
  have n0 : 0 ≤ r := by omega
  have n2 : (r == 65533) = false := by rw [beq_eq_false_iff_ne]; exact hbad
  cases hval : Lib.validRune r
  · rw [hval] at Va
    clear hbad h128
    go_enter Tryd.func41, Tryd.ntmps41
    go_wp2_with (go_at_call 54; (with_reducible refine (Va.out _).mono ?_); rintro e w1 ⟨rfl, rfl⟩)
    go_ret
    exact ⟨rfl, Keeps.refl [] _⟩
  · rw [hval] at Va
    obtain ⟨L, c, he, l1, l3, hc⟩ := encode_high r h128
    have hcv : ∀ w : World, (convert 21 9 (.int .i32 r)).run Tryd.prog w = .ok (.string (str (L ++ [c]))) w := fun w => by
      rw [← he]
      rfl
    obtain ⟨p, hp⟩ : ∃ p, L.length = p := ⟨_, rfl⟩
    rw [hp] at l1 l3
    have hTs : (str (L ++ [c])).size = p + 1 := by rw [str_size, List.length_append, hp]; rfl
    have hTp : ∀ h, (str (L ++ [c]))[p]'h = c := fun h => by
      have h' : p < (L ++ [c]).length := by rw [List.length_append, hp]; simp
      have e : (L ++ [c])[p]'h' = c := by
        rw [List.getElem_append_right (by omega)]
        simp [hp]
      exact e
    have hSs : (str hexL).size = 16 := by decide
    have hSn : ∀ h, ((((str hexL)[p]'h).toNat : Int) != (c.toNat : Int)) = true := fun h => by
      rw [bne_iff_ne]
      intro e
      have h2 : (str hexL)[p]'h = c := UInt8.toNat_inj.1 (by omega)
      apply hexL_ascii hc
      rw [← h2]
      exact List.getElem_mem (l := hexL) _
    have Ib : Hid (∀ w : World, Calls Tryd.prog 28 #[.string ((str hexL).extract (p + 1) 16), .int .u8 (c.toNat : Int)] w fun e w' => e = .returned (.int .i64 (-1)) ∧ w' = w) := fun w => by
      have h := Tryd.strings_IndexByte ((str hexL).extract (p + 1) 16) (c.toNat : Int) w
      rw [index_none _ _ ?_] at h
      · exact h
      · rw [str_extract, str_data, str_data]
        have e : (c.toNat : Int).toNat.toUInt8 = c := by simp
        rw [e]
        intro hm
        exact hexL_ascii hc (List.mem_of_mem_drop (List.mem_of_mem_take hm))
    generalize str hexL = S at *
    generalize str (L ++ [c]) = T at *
    have hcl : (c.toNat : Int) < 256 := by have := c.toNat_lt; omega
    clear hbad h128 he hp hc
    have b1 : IntKind.i64.wrap (((p + 1 : Nat) : Int) - 1) = (p : Int) := by rw [IntWalk.i64_in _ ⟨by omega, by omega⟩]; omega
    have b2 : IntKind.i64.wrap ((p : Int) + 1) = ((p + 1 : Nat) : Int) := by rw [IntWalk.i64_in _ ⟨by omega, by omega⟩]; omega
    have i1 : (p : Int) < 16 := by omega
    have i2 : (0 : Int) ≤ (p : Int) := by omega
    have i3 : (p : Int) < ((p + 1 : Nat) : Int) := by omega
    have i4 : ((p + 1 : Nat) : Int) ≤ 16 := by omega
    have i5 : p < T.size := by omega
    have i6 : (p : Int) < (p : Int) + 1 := by omega
    have j1 : (0 : Int) ≤ (p : Int) + 1 := by omega
    have j2 : (p : Int) + 1 ≤ 16 := by omega
    have j3 : ((p : Int) + 1).toNat = p + 1 := by omega
    go_enter Tryd.func41, Tryd.ntmps41
    go_wp2_with (go_at_call 54; (with_reducible refine (Va.out _).mono ?_); rintro e w1 ⟨rfl, rfl⟩)
    refine wp_scope_straight ?_
    go_wp2
    refine wp_loop_rounds 1 ?_
    rw [rounds_succ]
    go_wp2
    refine wp_scope_straight ?_
    go_upto_region 6 with (fail)
    go_quiet (fail)
    go_upto_region 7 with (fail)
    go_region_with ((go_at_call 28; (with_reducible refine (Ib.out _).mono ?_); rintro e w2 ⟨rfl, rfl⟩))
    all_goals
      go_wp2
      simp only [Exit.noGoto, Exit.inBlock, Exit.then]
      go_ret
      exact ⟨rfl, by first | exact Keeps.refl [] _ | exact (Keeps.refl [] _).drewN _ | exact ((Keeps.refl [] _).drewN _).drew | exact ((Keeps.refl [] _).drewN _).drewN _⟩
end Go.Proofs.YtdjhlnkkbpmfmaaDoor
