/- Layer 3, the writer: what put, head, Size, Fixed, Var, Raw, Text, String do. -/
import Derived.Test.YtjebldfmkpfafaaBase
import Derived.Test.YtjebldfmkpfafaaWirePure
import Derived.Test.YtjebldfmkpfafaaShelf
import Derived.Test.YtjebldfmkpfafaaWireC
namespace Go.Proofs.Ytjebldfmkpfafaa
open Go.RowKit
set_option maxRecDepth 100000

/-- The struct Out at block b holds the bytes l; F: the blocks that it has. -/
def OutAt (w : World) (b : Nat) (l : List UInt8) (F : List Nat) : Prop :=
  ∃ v, w.heap[b]? = some (.cells #[v] 82 (0, 0)) ∧ F = b :: v.ownBlock.toList ∧ w.ownsRow 0 5 1 v l.length (l.map u8v)

theorem Try.infoU8 : (Try.prog.info? 5).map (fun i => (i.zero, i.size, i.bytes)) = some (some (.int .u8 0), 1, 1) := by kernel_rfl

theorem OutAt.keep {w w' : World} {b : Nat} {l : List UInt8} {F G : List Nat} (h : OutAt w b l F) (k : Keeps G w w') (hd : ∀ x, x ∈ F → x ∉ G) : OutAt w' b l F := by
  obtain ⟨v, hb, rfl, hown⟩ := h
  refine ⟨v, k.some hb (hd _ (by simp)), rfl, hown.1, ?_⟩
  rcases hown.2 with hn | ⟨g, cap, cur, rfl, hbg, hg, r⟩
  · exact .inl hn
  · exact .inr ⟨g, cap, cur, rfl, hbg, k.some hg (hd _ (by simp [Value.ownBlock])), r⟩

theorem OutAt.lt {w : World} {b : Nat} {l : List UInt8} {F : List Nat} (h : OutAt w b l F) : ∀ k, k ∈ F → k < w.heap.size := by
  obtain ⟨v, hb, rfl, hown⟩ := h
  intro k hk
  rcases List.mem_cons.1 hk with rfl | hk
  · exact (Array.getElem?_eq_some_iff.1 hb).1
  · exact (hown.lt k (by simpa using hk)).2

theorem be_byte (x m : Nat) : (Value.int .u8 ((x : Int) / 2 ^ (8 * m) % 256)) = u8v (UInt8.ofNat (x / 256 ^ m)) := by
  unfold u8v
  congr 1
  rw [show (256 : Nat) = 2 ^ 8 from rfl, ← Nat.pow_mul]
  simp

theorem tyOut : SlTy Try.prog 41 5 1 1 (.int .u8 0) := SlTy.mk' Try.underlying41 (by kernel_rfl) rfl (by decide)

theorem own_ne {w : World} {b : Nat} {v u : Value} {n : Nat} {xs : List Value} {t e : TypeId} (hb : w.heap[b]? = some (.cells #[u] t (0, 0))) (hown : w.ownsRow 0 e 1 v n xs) (hne : e ≠ t) : b ∉ v.ownBlock.toList := by
  intro hm
  rcases hown.2 with ⟨rfl, _⟩ | ⟨g, cap, cur, rfl, _, hg, _⟩
  · simp [Value.ownBlock] at hm
  · simp only [Value.ownBlock, Option.toList, List.mem_singleton] at hm
    subst hm
    rw [hb] at hg
    simp only [Option.some.injEq, Obj.cells.injEq] at hg
    exact hne hg.2.1.symm

theorem ownsRow_setOther {w : World} {b o : Nat} {v x : Value} {n size : Nat} {xs : List Value} {e : TypeId} (hown : w.ownsRow 0 e size v n xs) (hne : b ∉ v.ownBlock.toList) : (w.setCell ⟨b, o, none⟩ x).ownsRow 0 e size v n xs := by
  refine ⟨hown.1, ?_⟩
  rcases hown.2 with hn | ⟨g, cap, cur, rfl, hbg, hg, r⟩
  · exact .inl hn
  · refine .inr ⟨g, cap, cur, rfl, hbg, ?_, r⟩
    rw [Below.heap_setCell _ _ _ _ (by simpa [Value.ownBlock, eq_comm] using hne)]
    exact hg

/-- Behind 'o.l = append(o.l, ..)'. -/
theorem outApp {w w2 : World} {b : Nat} {l : List UInt8} {v v' : Value} {n : Nat} {xs : List Value}
    (hb : w.heap[b]? = some (.cells #[v] 82 (0, 0))) (hown : w.ownsRow 0 5 1 v n xs)
    (hown' : w2.ownsRow 0 5 1 v' l.length (l.map u8v)) (hc : Chg v.ownBlock.toList v'.ownBlock.toList w w2) :
    OutAt (w2.setCell ⟨b, 0, none⟩ v') b l (b :: v'.ownBlock.toList) ∧ Chg (b :: v.ownBlock.toList) (b :: v'.ownBlock.toList) w (w2.setCell ⟨b, 0, none⟩ v') := by
  have hnb := own_ne hb hown (by decide)
  have hb2 : w2.heap[b]? = some (.cells #[v] 82 (0, 0)) := hc.keeps.some hb hnb
  have hnb' := own_ne hb2 hown' (by decide)
  refine ⟨⟨v', heap_setCell hb2 0 v', rfl, ownsRow_setOther hown' hnb'⟩, (hc.keeps.mono (by intro x hx; simp [hx])).setCell (by simp) _, ?_⟩
  intro k hk
  rcases List.mem_cons.1 hk with rfl | hk
  · simp
  · exact (hc.fresh k hk).imp (fun h => by simp [h]) id

set_option maxHeartbeats 400000 in
theorem put_any (b : Nat) (F : List Nat) (l : List UInt8) (x : Nat) (n : Nat) (w : World) (hn : n ≤ 8) (hl : l.length ≤ 1000000000) (ho : OutAt w b l F) :
    Calls Try.prog 68 #[.pointer (some ⟨b, 0, none⟩), .int .u64 x, .int .i64 n] w fun e w' =>
      e = .returned (.tuple #[]) ∧ ∃ F', OutAt w' b (l ++ be x n) F' ∧ Chg F F' w w' := by
  go_enter Try.func68, Try.ntmps68
  go_wp
  go_loopw [6] (fun i wr => ∃ (m : Nat) (c : List UInt8) (F1 : List Nat), m ≤ n ∧ i = .int .i64 ((m : Int) - 1) ∧ OutAt wr b c F1 ∧ Chg F F1 w wr ∧ c ++ be x m = l ++ be x n ∧ c.length ≤ l.length + n - m) (fun i _ => (intOf i + 1).toNat)
  case atStart => exact ⟨n, l, F, Nat.le_refl _, rfl, ho, Chg.refl _ _, rfl, by omega⟩
  case round =>
    obtain ⟨m, c, F1, hm, rfl, ho, hch, he, hcl⟩ := hrel
    have He := Lib.hid he
    clear he
    by_cases hm0 : m = 0
    · subst hm0
      go_wp2
      go_end0
      refine ⟨rfl, F1, ?_, hch⟩
      rw [← He.out]
      simpa [be] using ho
    · obtain ⟨v, hb, hF, hown⟩ := ho
      have hc0 : wr.cell? ⟨b, 0, none⟩ = some v := cell_of_heap hb 0
      have Hb := Lib.hid hb
      have HF := Lib.hid hF
      have Hown := Lib.hid hown
      clear hb hF hown
      go_wp2_with (at_builtin; refine wpList_app1 tyOut rfl (.tmp 17) (.tmp 24) rfl _ _ _ rfl rfl Hown.out rfl ?c1 ?c2 ?c3 ?c4)
      case c1 => rfl
      case c2 => omega
      case c3 => unfold maxLen; omega
      case c4 =>
      intro g' cap' w' hown' hc'
      obtain ⟨q, rfl⟩ : ∃ q, m = q + 1 := ⟨m - 1, by omega⟩
      rw [Nat.add_sub_cancel, be_byte] at hown'
      have R := outApp (l := c ++ [UInt8.ofNat (x / 256 ^ q)]) (v' := .slice (some ⟨g', 0, none⟩) (c.length + 1) cap') Hb.out Hown.out (by simpa using hown') hc'
      have hb2 := hc'.keeps.some Hb.out (own_ne Hb.out Hown.out (by decide))
      have hf2 := free_of_heap hb2 0
      have hc2 := cell_of_heap hb2 0
      clear hc0 hb2 hown'
      go_wp2
      go_roundw
      case rel => exact ⟨q, _, _, by omega, by go_num, R.1, hch.trans (HF.out ▸ R.2), by rw [← He.out]; simp [be], by simp; omega⟩
      case measure => simp [intOf]

theorem outString_any (b : Nat) (F : List Nat) (l : List UInt8) (w : World) (ho : OutAt w b l F) :
    Calls Try.prog 42 #[.pointer (some ⟨b, 0, none⟩)] w fun e w' => e = .returned (.string (str l)) ∧ w = w' := by
  obtain ⟨v, hb, hF, hown⟩ := ho
  have hc0 : w.cell? ⟨b, 0, none⟩ = some v := cell_of_heap hb 0
  have hcv := own_string (P := Try.prog) Try.underlying41 Try.underlying5 Try.underlying9 hown
  clear hb hF hown
  go_enter Try.func42, Try.ntmps42
  go_wp2
  go_ret
  exact ⟨rfl, rfl⟩

theorem outFixed_any (b : Nat) (F : List Nat) (l : List UInt8) (x : Nat) (n : Int) (w : World) (hl : l.length ≤ 1000000000) (ho : OutAt w b l F) :
    Calls Try.prog 44 #[.pointer (some ⟨b, 0, none⟩), .int .u64 x, .int .i64 n] w fun e w' =>
      e = .returned (.int .i64 (if n < 1 ∨ 8 < n then 1 else 0)) ∧ ∃ F', OutAt w' b (l ++ if n < 1 ∨ 8 < n then [] else be x n.toNat) F' ∧ Chg F F' w w' := by
  by_cases h : n < 1 ∨ 8 < n
  · rw [if_pos h, if_pos h]
    have H := Lib.hid ho
    clear ho
    rcases h with h | h
    all_goals
      go_enter Try.func44, Try.ntmps44
      go_wp2
      go_ret
      exact ⟨rfl, F, by simpa using H.out, Chg.refl _ _⟩
  · rw [if_neg h, if_neg h]
    obtain ⟨m, rfl⟩ : ∃ m : Nat, n = m := ⟨n.toNat, by omega⟩
    have hm1 : 1 ≤ (m : Int) := by omega
    have hm2 : (m : Int) ≤ 8 := by omega
    have H := Lib.hid ho
    clear ho h
    go_enter Try.func44, Try.ntmps44
    go_wp2_with (go_at_call 68; refine (put_any b F l x m w (by omega) hl H.out).mono ?_; rintro e w' ⟨rfl, F', ho', hch⟩)
    go_ret
    exact ⟨rfl, F', ho', hch⟩

theorem or_tab : ∀ (n : Fin 9) (c : Fin 256), 0 < n.val → c.val < 2 ^ (8 - n.val) → bits .or .u8 ((c.val : Nat) : Int) ((vhd n.val : Nat) : Int) = ((c.val + vhd n.val : Nat) : Int) := by decide +kernel

theorem or_small {y n : Nat} (hy : y < 2 ^ (8 - (n + 1))) (hn : n < 8) : (UInt8.ofNat (y + vhd (n + 1))).toNat = y + vhd (n + 1) := by
  have h : ∀ n : Fin 8, 2 ^ (8 - (n.val + 1)) + vhd (n.val + 1) ≤ 256 := by decide
  have := h ⟨n, hn⟩
  simp only [UInt8.toNat_ofNat'] at *
  omega

/-- Behind 'o.l[j] = c'. -/
theorem outStore {w : World} {b g M cap j n : Nat} {l : List UInt8} {c' : UInt8} (hb : w.heap[b]? = some (.cells #[.slice (some ⟨g, 0, none⟩) M cap] 82 (0, 0)))
    (hown : w.ownsRow 0 5 1 (.slice (some ⟨g, 0, none⟩) M cap) M (l.map u8v)) (hl : l.length = M) :
    OutAt ((w.drewN n).setCell ⟨g, j, none⟩ (u8v c')) b (l.set j c') (b :: (Value.slice (some ⟨g, 0, none⟩) M cap).ownBlock.toList) ∧
      Chg (b :: (Value.slice (some ⟨g, 0, none⟩) M cap).ownBlock.toList) (b :: (Value.slice (some ⟨g, 0, none⟩) M cap).ownBlock.toList) w ((w.drewN n).setCell ⟨g, j, none⟩ (u8v c')) := by
  have hne := own_ne hb hown (by decide)
  have hne' : b ≠ g := by simpa [Value.ownBlock] using hne
  have h1 := (hown.stored j (u8v c')).1
  refine ⟨⟨_, ?_, rfl, ?_⟩, (((Keeps.refl _ w).drewN n).setCell (by simp [Value.ownBlock]) _), fun k hk => .inl hk⟩
  · rw [Below.heap_setCell _ _ _ _ hne']
    exact hb
  · rw [List.length_set, List.map_set, hl]
    exact h1

/-- The cells of a list of numbers. -/
def u64v (x : Nat) : Value := .int .u64 x

theorem vby_nine {x : Nat} (h : vsz x = 9) : vby x = 255 :: be x 8 := by unfold vby; rw [if_pos h]
theorem vby_less {x n : Nat} (h : vsz x = n + 1) (hn : n < 8) : vby x = UInt8.ofNat (x / 256 ^ n + vhd (n + 1)) :: be x n := by
  unfold vby; rw [if_neg (by omega), h, Nat.add_sub_cancel]
/-- The first byte is small enough for its head's bits. -/
theorem first_lt {x n : Nat} (hx : x < 2 ^ 64) (h : vsz x = n + 1) (hn : n < 8) : x / 256 ^ n < 2 ^ (8 - (n + 1)) := by
  have h1 := vsz_lt hx (by omega)
  rw [Nat.div_lt_iff_lt_mul (Nat.pow_pos (by omega)), show (256 : Nat) = 2 ^ 8 from rfl, ← Nat.pow_mul, ← Nat.pow_add]
  rw [h] at h1
  exact Nat.lt_of_lt_of_le h1 (Nat.pow_le_pow_right (by omega) (by omega))

set_option maxHeartbeats 1600000 in
theorem outVar_any (b : Nat) (F : List Nat) (l : List UInt8) (xs : List Nat) (w : World) (hl : l.length + 9 * xs.length ≤ 1000000000) (hx : ∀ x, x ∈ xs → x < 18446744073709551616) (ho : OutAt w b l F)
    (v : Value) (G : List Nat) (hv : SlAt w v (xs.map u64v) G) (hd : ∀ k, k ∈ G → k ∉ F) (hG : ∀ k, k ∈ G → k < w.heap.size) :
    Calls Try.prog 41 #[.pointer (some ⟨b, 0, none⟩), v] w fun e w' =>
      e = .returned (.tuple #[]) ∧ ∃ F', OutAt w' b (l ++ xs.flatMap vby) F' ∧ Chg F F' w w' := by
  obtain ⟨ad, cap, rfl, hcs⟩ := hv
  have Hcs := Lib.hid hcs
  have Ho := Lib.hid ho
  have Hd := Lib.hid hd
  have HG := Lib.hid hG
  have Hx := Lib.hid hx
  clear hcs ho hd hG hx
  rw [List.length_map]
  by_cases h0 : xs = []
  · subst h0
    go_enter Try.func41, Try.ntmps41
    go_wp2
    refine wp_loop_rounds 1 ?_
    rw [rounds_succ]
    go_wp2
    go_end0
    exact ⟨rfl, F, by simpa using Ho.out, Chg.refl _ _⟩
  obtain ⟨kb, off, rfl, hkb, hcell⟩ := Hcs.out (by simpa using h0)
  have Hcell := Lib.hid hcell
  clear hcell h0
  go_enter Try.func41, Try.ntmps41
  go_wp2
  go_loopw [12] (fun i wr => ∃ (k : Nat) (F1 : List Nat), k ≤ xs.length ∧ i = .int .i64 k ∧ OutAt wr b (l ++ (xs.take k).flatMap vby) F1 ∧ Chg F F1 w wr ∧ (l ++ (xs.take k).flatMap vby).length ≤ l.length + 9 * k) (fun i _ => xs.length - (intOf i).toNat)
  case atStart => exact ⟨0, F, Nat.zero_le _, rfl, by simpa using Ho.out, Chg.refl _ _, by simp⟩
  case round =>
    obtain ⟨k, F1, hk, rfl, ho1, hch, hlen⟩ := hrel
    by_cases hlt : k < xs.length
    · obtain ⟨x, hxk⟩ : ∃ x, xs[k]? = some x := ⟨xs[k], by simp [hlt]⟩
      have hx0 : wr.cell? ⟨kb, off + k, none⟩ = some (u64v x) := by
        have h1 := Hcell.out k (u64v x) (by simp [hxk])
        rw [← h1]
        exact hch.keeps.cell (HG.out _ hkb) (Hd.out _ hkb)
      have hxl : x < 18446744073709551616 := Hx.out x (List.mem_of_getElem? hxk)
      have hnx : (xs.take (k + 1)).flatMap vby = (xs.take k).flatMap vby ++ vby x := by
        rw [List.take_add_one, hxk]; simp
      obtain ⟨c, hc⟩ : ∃ c, c = l ++ (xs.take k).flatMap vby := ⟨_, rfl⟩
      rw [← hc] at ho1 hlen
      have hcl : c.length ≤ 1000000000 := by omega
      have hvl := vby_length x
      have hvb := vsz_bd x
      have Hc := Lib.hid hc
      have Hnx := Lib.hid hnx
      have Hvl := Lib.hid hvl
      have Hch := Lib.hid hch
      clear hc hnx hxk hvl hch
      unfold u64v at hx0
      obtain ⟨v, hb, hF, hown⟩ := ho1
      obtain ⟨ad0, cap0, rfl⟩ := ownsRow_shape hown
      have hc0 : wr.cell? ⟨b, 0, none⟩ = some (.slice ad0 c.length cap0) := cell_of_heap hb 0
      have Hb := Lib.hid hb
      have HF := Lib.hid hF
      have Hown := Lib.hid hown
      clear hb hF hown
      by_cases h9 : vsz x = 9
      · have h9b : ((vsz x : Int) == 9) = true := beq_nat_eq h9
        have h9v := Lib.hid (vby_nine h9)
        have H9 := Lib.hid h9
        clear h9
        go_wp2_with (first | (go_at_call 67; refine (size_any x _ (by omega)).mono ?_; rintro e w' ⟨rfl, rfl⟩) | (at_builtin; refine wpList_app1 tyOut rfl (.tmp 24) (.tmp 25) rfl _ _ _ rfl rfl Hown.out rfl ?c1 ?c2 ?c3 ?c4))
        case c1 => rfl
        case c2 => omega
        case c3 => unfold maxLen; omega
        case c4 =>
        intro g' cap' w' hown' hc'
        have R := outApp (l := c ++ [255]) (v' := .slice (some ⟨g', 0, none⟩) (c.length + 1) cap') Hb.out Hown.out (by simpa [u8v] using hown') hc'
        have hb2 := hc'.keeps.some Hb.out (own_ne Hb.out Hown.out (by decide))
        have hf2 := free_of_heap hb2 0
        have hc2 := cell_of_heap hb2 0
        have HR := Lib.hid R
        clear hc0 hb2 hown' R hx0
        go_wp2_with (go_at_call 68; refine (put_any b _ (c ++ [255]) x 8 _ (by omega) (by simp; omega) HR.out.1).mono ?_; rintro e w2 ⟨rfl, F2, ho2, hch2⟩)
        go_roundw
        case rel => exact ⟨k + 1, F2, by omega, by go_num, by rw [Hnx.out, h9v.out, ← List.append_assoc, ← Hc.out]; simpa using ho2, (Hch.out.trans (HF.out ▸ HR.out.2)).trans hch2, by rw [Hnx.out, ← List.append_assoc, ← Hc.out, List.length_append, Hvl.out]; omega⟩
        case measure => simp [intOf]; omega
      · have h9b : ((vsz x : Int) == 9) = false := beq_nat_ne h9
        obtain ⟨n, hn⟩ : ∃ n, vsz x = n + 1 := ⟨vsz x - 1, by omega⟩
        have h9v := Lib.hid (vby_less hn (by omega))
        have h10 := first_lt hxl hn (by omega)
        have H10 := Lib.hid h10
        have hn8 : n < 8 := by omega
        have Hn := Lib.hid hn
        clear hn h9 h10
        go_wp2_with (first | (go_at_call 67; refine (size_any x _ (by omega)).mono ?_; rintro e w' ⟨rfl, rfl⟩) | (go_at_call 68; refine (put_any b _ c x (vsz x) _ (by have := Hn.out; omega) (by omega) ⟨_, Hb.out, HF.out, Hown.out⟩).mono ?_; rintro e w2 ⟨rfl, F2, ho2, hch2⟩))
        obtain ⟨v2, hb2, hF2, hown2⟩ := ho2
        obtain ⟨M, hM, hMe⟩ : ∃ M, c.length < M ∧ (c ++ be x (vsz x)).length = M := ⟨_, by rw [List.length_append, be_length]; omega, rfl⟩
        rw [hMe] at hown2
        obtain ⟨g2, cap2, rfl⟩ : ∃ g cap, v2 = .slice (some ⟨g, 0, none⟩) M cap := by
          rcases hown2.2 with ⟨_, h0⟩ | ⟨g, cap, _, rfl, _⟩
          · omega
          · exact ⟨g, cap, rfl⟩
        have hbe : be x (vsz x) = UInt8.ofNat (x / 256 ^ n) :: be x n := by rw [Hn.out]; rfl
        have hy : (UInt8.ofNat (x / 256 ^ n)).toNat = x / 256 ^ n := by
          have h1 := H10.out
          have h2 : 2 ^ (8 - (n + 1)) ≤ 2 ^ 7 := Nat.pow_le_pow_right (by omega) (by omega)
          simp only [UInt8.toNat_ofNat']
          generalize x / 256 ^ n = y at *
          omega
        have hB : w2.cell? ⟨g2, c.length, none⟩ = some (.int .u8 ((x / 256 ^ n : Nat) : Int)) := by
          rw [hown2.cellAt c.length (by omega), hbe, List.map_append, List.getElem?_append_right (by simp)]
          simp [u8v, hy]
        have hC := hown2.frozenAt c.length
        have hA := cell_of_heap hb2 0
        have hor := or_tab ⟨n + 1, by omega⟩ ⟨x / 256 ^ n, by have h1 := H10.out; have h2 : 2 ^ (8 - (n + 1)) ≤ 2 ^ 7 := Nat.pow_le_pow_right (by omega) (by omega); omega⟩ (by simp) H10.out
        have S := outStore (j := c.length) (n := 1) (c' := UInt8.ofNat (x / 256 ^ n + vhd (n + 1))) hb2 hown2 hMe
        have Hb2 := Lib.hid hb2
        have HF2 := Lib.hid hF2
        have Hown2 := Lib.hid hown2
        have HMe := Lib.hid hMe
        have Hbe := Lib.hid hbe
        have Hor := Lib.hid hor
        have HS := Lib.hid S
        clear hb2 hF2 hown2 hMe hbe hy hor hc0 hx0 S
        refine region_tail 11 (by kernel_rfl) (by kernel_rfl) ?_
        simp only [List.take_succ_cons, List.take_zero, List.drop_succ_cons, List.drop_zero]
        repeat (first | still_step | still_call (Calls_flip (head_any _ _ (by omega) (by omega))))
        refine wpStill_nil ?_
        go_wp2
        have hval : Value.int .u8 (bits .or .u8 ((x : Int) / 256 ^ n) ((vhd (vsz x) : Nat) : Int)) = u8v (UInt8.ofNat (x / 256 ^ n + vhd (n + 1))) := by
          have h1 := Hor.out
          simp only [Int.natCast_ediv, Int.natCast_pow] at h1
          rw [Hn.out, u8v]
          congr 1
          refine h1.trans ?_
          rw [or_small H10.out hn8]
        rw [hval]
        go_roundw
        case rel => exact ⟨k + 1, _, by omega, by go_num, by rw [Hnx.out, h9v.out, ← List.append_assoc, ← Hc.out]; have h1 := HS.out.1; rw [Hbe.out, List.set_append_right _ _ (Nat.le_refl _), Nat.sub_self] at h1; rw [HF2.out]; exact h1, (Hch.out.trans (HF.out ▸ hch2)).trans (HF2.out ▸ HS.out.2), by rw [Hnx.out, ← List.append_assoc, ← Hc.out, List.length_append, Hvl.out]; omega⟩
        case measure => simp [intOf]; omega
    · go_wp2
      go_end0
      exact ⟨rfl, F1, by rw [← List.take_of_length_le (l := xs) (i := k) (by omega)]; exact ho1, hch⟩

end Go.Proofs.Ytjebldfmkpfafaa
