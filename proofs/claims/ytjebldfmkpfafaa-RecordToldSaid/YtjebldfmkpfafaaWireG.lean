/- Layer 3, the writer: what Raw and Text do; the reader: what Text does. -/
import Derived.Test.YtjebldfmkpfafaaWireA
import Derived.Test.YtjebldfmkpfafaaWireF
namespace Go.Proofs.Ytjebldfmkpfafaa
open Go.RowKit
set_option maxRecDepth 100000

/-- The bytes of texts, one behind the other. -/
def raws (ss : List ByteArray) : List UInt8 := ss.flatMap fun s => s.data.toList
/-- The bytes of texts, each behind how many it has. -/
def txts (ss : List ByteArray) : List UInt8 := ss.flatMap fun s => vby s.size ++ s.data.toList

theorem raws_one (s : ByteArray) : raws [s] = s.data.toList := by simp [raws]

theorem raws_take {ss : List ByteArray} {k : Nat} {s : ByteArray} (h : ss[k]? = some s) : raws (ss.take (k + 1)) = raws (ss.take k) ++ s.data.toList := by
  unfold raws; rw [List.take_add_one, h]; simp
theorem txts_take {ss : List ByteArray} {k : Nat} {s : ByteArray} (h : ss[k]? = some s) : txts (ss.take (k + 1)) = txts (ss.take k) ++ (vby s.size ++ s.data.toList) := by
  unfold txts; rw [List.take_add_one, h]; simp
theorem raws_le {ss : List ByteArray} {k : Nat} : (raws (ss.take k)).length ≤ (raws ss).length := by
  have : raws ss = raws (ss.take k) ++ raws (ss.drop k) := by unfold raws; rw [← List.flatMap_append, List.take_append_drop]
  rw [this, List.length_append]; omega
theorem txts_le {ss : List ByteArray} {k : Nat} : (txts (ss.take k)).length ≤ (txts ss).length := by
  have : txts ss = txts (ss.take k) ++ txts (ss.drop k) := by unfold txts; rw [← List.flatMap_append, List.take_append_drop]
  rw [this, List.length_append]; omega

set_option maxHeartbeats 800000 in
theorem outRaw_any (b : Nat) (F : List Nat) (l : List UInt8) (ss : List ByteArray) (w : World) (hl : (l ++ raws ss).length ≤ 1000000000) (hn : ss.length ≤ 1000000000) (ho : OutAt w b l F)
    (v : Value) (G : List Nat) (hv : SlAt w v (ss.map Value.string) G) (hd : ∀ k, k ∈ G → k ∉ F) (hG : ∀ k, k ∈ G → k < w.heap.size) :
    Calls Try.prog 43 #[.pointer (some ⟨b, 0, none⟩), v] w fun e w' =>
      e = .returned (.tuple #[]) ∧ ∃ F', OutAt w' b (l ++ raws ss) F' ∧ Chg F F' w w' := by
  obtain ⟨ad, cap, rfl, hcs⟩ := hv
  have Hcs := Lib.hid hcs
  have Ho := Lib.hid ho
  have Hd := Lib.hid hd
  have HG := Lib.hid hG
  clear hcs ho hd hG
  rw [List.length_map]
  by_cases h0 : ss = []
  · subst h0
    go_enter Try.func43, Try.ntmps43
    go_wp2
    refine wp_loop_rounds 1 ?_
    rw [rounds_succ]
    go_wp2
    go_end0
    exact ⟨rfl, F, by simpa [raws] using Ho.out, Chg.refl _ _⟩
  obtain ⟨kb, off, rfl, hkb, hcell⟩ := Hcs.out (by simpa using h0)
  have Hcell := Lib.hid hcell
  clear hcell h0
  go_enter Try.func43, Try.ntmps43
  go_wp2
  go_loopw [10] (fun i wr => ∃ (k : Nat) (F1 : List Nat), k ≤ ss.length ∧ i = .int .i64 k ∧ OutAt wr b (l ++ raws (ss.take k)) F1 ∧ Chg F F1 w wr) (fun i _ => ss.length - (intOf i).toNat)
  case atStart => exact ⟨0, F, Nat.zero_le _, rfl, by simpa [raws] using Ho.out, Chg.refl _ _⟩
  case round =>
    obtain ⟨k, F1, hk, rfl, ho1, hch⟩ := hrel
    by_cases hlt : k < ss.length
    · obtain ⟨s, hsk⟩ : ∃ s, ss[k]? = some s := ⟨ss[k], by simp [hlt]⟩
      have hx0 : wr.cell? ⟨kb, off + k, none⟩ = some (.string s) := by
        have h1 := Hcell.out k (.string s) (by simp [hsk])
        rw [← h1]
        exact hch.keeps.cell (HG.out _ hkb) (Hd.out _ hkb)
      have hnx := raws_take hsk
      have hle := raws_le (ss := ss) (k := k + 1)
      rw [hnx] at hle
      have hcl : (l ++ raws (ss.take k)).length + s.size ≤ 1000000000 := by
        simp only [List.length_append, Array.length_toList, ByteArray.size] at hl hle ⊢; omega
      obtain ⟨c, hc⟩ : ∃ c, c = l ++ raws (ss.take k) := ⟨_, rfl⟩
      rw [← hc] at ho1 hcl
      have Hc := Lib.hid hc
      have Hnx := Lib.hid hnx
      have Hch := Lib.hid hch
      clear hc hnx hsk hch hle
      obtain ⟨v, hb, hF, hown⟩ := ho1
      obtain ⟨ad0, cap0, rfl⟩ := ownsRow_shape hown
      have hc0 : wr.cell? ⟨b, 0, none⟩ = some (.slice ad0 c.length cap0) := cell_of_heap hb 0
      have Hb := Lib.hid hb
      have HF := Lib.hid hF
      have Hown := Lib.hid hown
      clear hb hF hown
      go_wp2_with (at_builtin; refine wpList_appStr tyOut Try.underlying9 rfl (.tmp 18) (.tmp 19) rfl _ _ _ rfl s rfl Hown.out ?c1 ?c2)
      case c1 => omega
      case c2 =>
      intro ad' cap' w' hown' hc'
      have R := outApp (l := c ++ s.data.toList) (v' := .slice ad' (c.length + s.size) cap') Hb.out Hown.out (by rw [List.length_append, List.map_append, Array.length_toList, ByteArray.size_data]; exact hown') hc'
      have hb2 := hc'.keeps.some Hb.out (own_ne Hb.out Hown.out (by decide))
      have hf2 := free_of_heap hb2 0
      have hc2 := cell_of_heap hb2 0
      have HR := Lib.hid R
      clear hc0 hb2 hown' R hx0
      go_wp2
      go_roundw
      case rel => exact ⟨k + 1, _, by omega, by go_num, by rw [Hnx.out, ← List.append_assoc, ← Hc.out]; exact HR.out.1, Hch.out.trans (HF.out ▸ HR.out.2)⟩
      case measure => simp [intOf]; omega
    · go_wp2
      go_end0
      exact ⟨rfl, F1, by rw [← List.take_of_length_le (l := ss) (i := k) (by omega)]; exact ho1, hch⟩

set_option maxHeartbeats 800000 in
theorem outText_any (b : Nat) (F : List Nat) (l : List UInt8) (ss : List ByteArray) (w : World) (hl : (l ++ txts ss).length ≤ 900000000) (hn : ss.length ≤ 1000000000) (ho : OutAt w b l F)
    (v : Value) (G : List Nat) (hv : SlAt w v (ss.map Value.string) G) (hd : ∀ k, k ∈ G → k ∉ F) (hG : ∀ k, k ∈ G → k < w.heap.size) :
    Calls Try.prog 57 #[.pointer (some ⟨b, 0, none⟩), v] w fun e w' =>
      e = .returned (.tuple #[]) ∧ ∃ F', OutAt w' b (l ++ txts ss) F' ∧ Chg F F' w w' := by
  obtain ⟨ad, cap, rfl, hcs⟩ := hv
  have Hcs := Lib.hid hcs
  have Ho := Lib.hid ho
  have Hd := Lib.hid hd
  have HG := Lib.hid hG
  clear hcs ho hd hG
  rw [List.length_map]
  by_cases h0 : ss = []
  · subst h0
    go_enter Try.func57, Try.ntmps57
    go_wp2
    refine wp_loop_rounds 1 ?_
    rw [rounds_succ]
    go_wp2
    go_end0
    exact ⟨rfl, F, by simpa [txts] using Ho.out, Chg.refl _ _⟩
  obtain ⟨kb, off, rfl, hkb, hcell⟩ := Hcs.out (by simpa using h0)
  have Hcell := Lib.hid hcell
  clear hcell h0
  go_enter Try.func57, Try.ntmps57
  go_wp2
  go_loopw [8] (fun i wr => ∃ (k : Nat) (F1 : List Nat), k ≤ ss.length ∧ i = .int .i64 k ∧ OutAt wr b (l ++ txts (ss.take k)) F1 ∧ Chg F F1 w wr) (fun i _ => ss.length - (intOf i).toNat)
  case atStart => exact ⟨0, F, Nat.zero_le _, rfl, by simpa [txts] using Ho.out, Chg.refl _ _⟩
  case round =>
    obtain ⟨k, F1, hk, rfl, ho1, hch⟩ := hrel
    by_cases hlt : k < ss.length
    · obtain ⟨s, hsk⟩ : ∃ s, ss[k]? = some s := ⟨ss[k], by simp [hlt]⟩
      have hx0 : wr.cell? ⟨kb, off + k, none⟩ = some (.string s) := by
        have h1 := Hcell.out k (.string s) (by simp [hsk])
        rw [← h1]
        exact hch.keeps.cell (HG.out _ hkb) (Hd.out _ hkb)
      have hnx := txts_take hsk
      have hle := txts_le (ss := ss) (k := k + 1)
      rw [hnx] at hle
      have hcl : (l ++ txts (ss.take k)).length + s.size ≤ 900000000 := by
        simp only [List.length_append, Array.length_toList, ByteArray.size] at hl hle ⊢; omega
      obtain ⟨c, hc⟩ : ∃ c, c = l ++ txts (ss.take k) := ⟨_, rfl⟩
      rw [← hc] at ho1 hcl
      have hlt1 := ho1.lt
      have Hlt1 := Lib.hid hlt1
      have Hc := Lib.hid hc
      have Hnx := Lib.hid hnx
      have Hch := Lib.hid hch
      have Ho1 := Lib.hid ho1
      have hvs := vsz_bd s.size
      clear hc hnx hsk hch hle ho1 hlt1
      go_wp2_with (go_at_call 41; refine (outVar_any b F1 c [s.size] _ (by simp; omega) (by simp; omega) (Ho1.out.keep ((Keeps.refl [] _).alloc _) (by simp)) _ [wr.heap.size] (SlAt.lit wr [u64v s.size] 68 1 rfl) (fun x hx hx' => by have := Hlt1.out x hx'; simp at hx; omega) (by simp)).mono ?_; rintro e w1 ⟨rfl, F2, ho2, hch2⟩)
      have hlt2 := Lib.hid ho2.lt
      have hcl2 : (c ++ List.flatMap vby [s.size]).length + s.size ≤ 1000000000 := by simp [vby_length]; omega
      go_wp2_with (go_at_call 43; refine (outRaw_any b F2 (c ++ List.flatMap vby [s.size]) [s] _ (by rw [raws_one, List.length_append, Array.length_toList, ByteArray.size_data]; exact hcl2) (by simp) (ho2.keep ((Keeps.refl [] _).alloc _) (by simp)) _ [w1.heap.size] (SlAt.lit w1 [Value.string s] 9 1 rfl) (fun x hx hx' => by have := hlt2.out x hx'; simp at hx; omega) (by simp)).mono ?_; rintro e w2 ⟨rfl, F3, ho3, hch3⟩)
      have e1 : c ++ List.flatMap vby [s.size] ++ raws [s] = l ++ txts (List.take (k + 1) ss) := by rw [Hnx.out, Hc.out]; simp [raws]
      rw [e1] at ho3
      have hch4 := (Hch.out.trans ((Chg.alloc hch2))).trans (Chg.alloc hch3)
      clear e1 hch2 hch3
      go_roundw
      case rel => exact ⟨k + 1, _, by omega, by go_num, ho3, hch4⟩
      case measure => simp [intOf]; omega
    · go_wp2
      go_end0
      exact ⟨rfl, F1, by rw [← List.take_of_length_le (l := ss) (i := k) (by omega)]; exact ho1, hch⟩
end Go.Proofs.Ytjebldfmkpfafaa
