/- Layer 4, the device: Crash. -/
import Derived.Test.YtddehagceenbnaaSsdL
namespace Go.Proofs.Ytddehagceenbnaa
open Go.RowKit

def fall1 (l : List (List UInt8)) (q : (Nat × List UInt8) × Int) : List (List UInt8) := l.set q.1.1 (fell q.2 q.1.2 (l.getD q.1.1 []))
/-- What lasts behind a crash. -/
def fallAll (last : List (List UInt8)) (pend : List (Nat × List UInt8)) (keep : List Int) : List (List UInt8) := (pend.zip keep).foldl fall1 last
def Dev.crash (d : Dev) (keep : List Int) : Dev := { d with last := fallAll d.last d.pend keep, now := fallAll d.last d.pend keep, pend := [], stops := false }

theorem fall_ok (qs : List ((Nat × List UInt8) × Int)) : ∀ (last : List (List UInt8)) (n : Nat), last.length = n → (∀ s, s ∈ last → s.length = 64) → (∀ q, q ∈ qs → q.1.1 < n ∧ q.1.2.length = 64) →
    (qs.foldl fall1 last).length = n ∧ ∀ s, s ∈ qs.foldl fall1 last → s.length = 64 := by
  induction qs with
  | nil => intro last n h1 h2 _; exact ⟨h1, h2⟩
  | cons q r ih =>
    intro last n h1 h2 h3
    rw [List.foldl_cons]
    obtain ⟨h4, h5⟩ := h3 q (by simp)
    refine ih _ n (by unfold fall1; rw [List.length_set]; exact h1) (fun s hs => ?_) (fun q hq => h3 q (by simp [hq]))
    unfold fall1 at hs
    rcases List.mem_or_eq_of_mem_set hs with h | h
    · exact h2 s h
    · rw [h]
      refine fell_len h5 ?_
      rw [List.getD_eq_getElem?_getD, List.getElem?_eq_getElem (by omega)]
      exact h2 _ (List.getElem_mem _)

theorem intv_one (l : List Int) : ∀ u ∈ l.map (Value.int .i64), u.oneCell' = true := by
  intro u hu
  obtain ⟨c, _, rfl⟩ := List.mem_map.1 hu
  rfl

set_option maxHeartbeats 2000000 in
set_option maxRecDepth 100000 in
theorem crash_any (b : Nat) (d : Dev) (F : List Nat) (w : World) (hd : DevAt w b d F) (hok : d.ok) (hp : d.pend.length ≤ 1000000000) (kv : Value) (keep : List Int) (G : List Nat) (hkv : SlAt w kv (keep.map (Value.int .i64)) G)
    (hG : ∀ k, k ∈ G → k < w.heap.size) (hGF : ∀ k, k ∈ G → k ∉ F) :
    Calls Try.prog 16 #[.pointer (some ⟨b, 0, none⟩), kv] w fun e w' =>
      e = .returned (.tuple #[]) ∧ ∃ F', DevAt w' b (d.crash keep) F' ∧ Chg F F' w w' := by
  obtain ⟨vl, vn, vp, hi0, hF⟩ := hd.is
  obtain ⟨ap, cp, hvp⟩ := ownsRow_shape hi0.pend
  subst hvp
  have hc2 := cell_of_heap hi0.hb 2
  obtain ⟨ka, kc, rfl, hkc⟩ := hkv
  rw [List.length_map]
  have HF := Lib.hid hF
  have Hok := Lib.hid hok
  have HG := Lib.hid hG
  have HGF := Lib.hid hGF
  have Hkc := Lib.hid hkc
  have Hi0 := Lib.hid hi0
  clear hF hok hG hGF hkc hd hi0
  go_enter Try.func16, Try.ntmps16
  go_wp2
  clear hc2
  go_loopw [13] (fun iv wr => ∃ k : Nat, k ≤ d.pend.length ∧ iv = .int .i64 k ∧ DevIs wr b { d with last := ((d.pend.zip keep).take k).foldl fall1 d.last } vl vn (.slice ap d.pend.length cp) ∧ Keeps vl.ownBlock.toList w wr) (fun iv _ => d.pend.length - (intOf iv).toNat)
  case atStart => exact ⟨0, Nat.zero_le _, rfl, by simpa using Hi0.out, Keeps.refl _ _⟩
  case round =>
    obtain ⟨k, hk, rfl, hd2, hkk⟩ := hrel
    by_cases hlt : k < d.pend.length
    · obtain ⟨p, hpk⟩ : ∃ p, d.pend[k]? = some p := ⟨d.pend[k]'hlt, by simp [hlt]⟩
      obtain ⟨hp1, hp2⟩ := Hok.out.p64 p (List.mem_of_getElem? hpk)
      have hso := fall_ok ((d.pend.zip keep).take k) d.last _ rfl Hok.out.l64 (fun q hq => Hok.out.p64 q.1 (List.of_mem_zip (List.mem_of_mem_take hq)).1)
      obtain ⟨gp, capp, hvp, hra, _, _⟩ := own_elem hd2.pend (putv_len Hok.out.p64) rfl hpk
      injection hvp with hv1 _ hv2
      subst hv1 hv2
      have hpl : (putv p).length = 65 := putv_len Hok.out.p64 p (List.mem_of_getElem? hpk)
      obtain ⟨z, hz, hzero⟩ := zero_any (P := Try.prog) (e := 63) (n := 65) (by kernel_rfl)
      have hi65 : (Try.prog.info? 63).map (·.size) = some (putv p).length := by rw [hpl]; exact Try.sizeWrite
      have hk0 : (0 : Int) ≤ (k : Int) := by omega
      have hk1 : (k : Int) < (d.pend.length : Int) := by omega
      have Hra := Lib.hid hra
      have Hpl := Lib.hid hpl
      have Hz := Lib.hid hz
      have Hzero := Lib.hid hzero
      have Hi65 := Lib.hid hi65
      have Hso := Lib.hid hso
      have Hpk := Lib.hid hpk
      have Hp2 := Lib.hid hp2
      clear hra hpl hz hzero hi65 hso hpk hp2
      have hd3 := hd2.kept ((Keeps.refl [] wr).alloc (.cells (putv p).toArray 63))
      have hkk3 := hkk.alloc (.cells (putv p).toArray 63)
      have hn3 := heap_alloc_self wr (.cells (putv p).toArray 63)
      have Hd3 := Lib.hid hd3
      have Hn3 := Lib.hid hn3
      clear hd3 hn3
      by_cases hkp : k < keep.length
      · obtain ⟨h, hkh⟩ : ∃ h, keep[k]? = some h := ⟨keep[k]'hkp, by simp [hkp]⟩
        obtain ⟨kb, off, hka, hkb, hkcell⟩ := Hkc.out (by intro h0; rw [List.map_eq_nil_iff] at h0; rw [h0] at hkp; simp at hkp)
        subst hka
        have hvF : ∀ x, x ∈ vl.ownBlock.toList → x ∈ F := fun x hx => by rw [HF.out]; simp [devF, hx]
        have ck := hkk3.cell (p := ⟨kb, off + k, none⟩) (HG.out kb hkb) (fun hm => HGF.out kb hkb (hvF kb hm))
        rw [hkcell k (.int .i64 h) (by rw [List.getElem?_map, hkh]; rfl)] at ck
        have hkp1 : (k : Int) < (keep.length : Int) := by omega
        obtain ⟨old, hold⟩ : ∃ old, (((d.pend.zip keep).take k).foldl fall1 d.last)[p.1]? = some old := ⟨_, List.getElem?_eq_getElem (by rw [Hso.out.1]; exact hp1)⟩
        have hnx : ((d.pend.zip keep).take (k + 1)).foldl fall1 d.last = (((d.pend.zip keep).take k).foldl fall1 d.last).set p.1 (fell h p.2 old) := by
          have e : (d.pend.zip keep)[k]? = some (p, h) := by rw [List.getElem?_zip_eq_some]; exact ⟨Hpk.out, hkh⟩
          rw [List.take_add_one, e, Option.toList_some, List.foldl_append, List.foldl_cons, List.foldl_nil]
          show List.set _ _ (fell _ _ (List.getD _ _ _)) = _
          rw [List.getD_eq_getElem?_getD, hold]
          rfl
        have hfall := fun w' hw' => falls_any b { d with last := ((d.pend.zip keep).take k).foldl fall1 d.last } vl vn (.slice (some ⟨gp, 0, none⟩) d.pend.length cp) w' hw' Hso.out.2 p old hold Hp2.out h
        have hra0 : (wr.alloc (.cells (putv p).toArray 63)).rangeAt wr.heap.size 0 (putv p) := by
          intro j v hj
          rw [cell_of_heap Hn3.out, Nat.zero_add]
          simpa using hj
        have Hnx := Lib.hid hnx
        have Hfall := Lib.hid hfall
        have Hkcell := Lib.hid hkcell
        have Hkh := Lib.hid hkh
        have Hold := Lib.hid hold
        have Hra0 := Lib.hid hra0
        have hkoff : (0 : Int) ≤ (k : Int) := by omega
        clear hnx hfall hkcell hkh hold hra0
        go_wp2_with (first
          | ((with_reducible refine wpList_run (w' := wr) (o := ⟨some 17, _, _, _, _, _⟩) ?_ (.agg (putv p).toArray) ?_ ?_); exact rfl; exact exec_load wr 63 gp (k * 65) (putv p) _ Hra.out Try.underlying63 rfl Hi65.out _ _ (.tmp 16) rfl rfl)
          | ((with_reducible refine wpList_run (w' := wr.alloc (.cells z.cells 63)) (o := ⟨some 5, _, _, _, _, _⟩) ?_ (.pointer (some ⟨wr.heap.size, 0, none⟩)) ?_ ?_); exact rfl; exact exec_alloc _ 63 _ _ rfl z Hzero.out)
          | ((with_reducible refine wpList_runS (w' := wr.alloc (.cells (putv p).toArray 63)) (o := ⟨none, .store 63 _ _, _, _, _, _⟩) ?_ ?_ ?_); exact rfl; exact exec_storeNew wr 63 z.cells (putv p) Hi65.out (by rw [Hz.out, Hpl.out]) (putv_one p) _ _ (.tmp 5) (.tmp 17) rfl rfl rfl))
        refine region_tail 6 (by kernel_rfl) (by kernel_rfl) ?_
        simp only [List.take_succ_cons, List.take_zero, List.drop_succ_cons, List.drop_zero]
        still_step
        refine still_load_mid rfl 63 (.tmp 5) rfl wr.heap.size 0 (by rfl) (putv p) _ Hra0.out Try.underlying63 rfl Hi65.out ?_
        iterate 4 still_step
        refine wpStill_nil ?_
        go_wp2_with (go_at_call 29; (with_reducible refine (Hfall.out _ (Hd3.out.kept ((Keeps.refl [] _).drewN 1))).mono ?_); rintro e w4 ⟨rfl, hd4, hk4⟩)
        go_roundw
        case rel => exact ⟨k + 1, by omega, by go_num, by rw [Hnx.out]; exact hd4, hkk3.trans hk4.ofDrewN (fun _ h => .inl h)⟩
        case measure => simp [intOf]; omega
      · have hkp1 : (keep.length : Int) ≤ (k : Int) := by omega
        have hnx : (d.pend.zip keep).take (k + 1) = (d.pend.zip keep).take k := by
          rw [List.take_of_length_le (by rw [List.length_zip]; omega), List.take_of_length_le (by rw [List.length_zip]; omega)]
        have Hnx := Lib.hid hnx
        clear hnx
        go_wp2_with (first
          | ((with_reducible refine wpList_run (w' := wr) (o := ⟨some 17, _, _, _, _, _⟩) ?_ (.agg (putv p).toArray) ?_ ?_); exact rfl; exact exec_load wr 63 gp (k * 65) (putv p) _ Hra.out Try.underlying63 rfl Hi65.out _ _ (.tmp 16) rfl rfl)
          | ((with_reducible refine wpList_run (w' := wr.alloc (.cells z.cells 63)) (o := ⟨some 5, _, _, _, _, _⟩) ?_ (.pointer (some ⟨wr.heap.size, 0, none⟩)) ?_ ?_); exact rfl; exact exec_alloc _ 63 _ _ rfl z Hzero.out)
          | ((with_reducible refine wpList_runS (w' := wr.alloc (.cells (putv p).toArray 63)) (o := ⟨none, .store 63 _ _, _, _, _, _⟩) ?_ ?_ ?_); exact rfl; exact exec_storeNew wr 63 z.cells (putv p) Hi65.out (by rw [Hz.out, Hpl.out]) (putv_one p) _ _ (.tmp 5) (.tmp 17) rfl rfl rfl))
        go_roundw
        case rel => exact ⟨k + 1, by omega, by go_num, by rw [Hnx.out]; exact Hd3.out, hkk3⟩
        case measure => simp [intOf]; omega
    · obtain rfl : k = d.pend.length := by omega
      have hz : (d.pend.zip keep).take d.pend.length = d.pend.zip keep := List.take_of_length_le (by rw [List.length_zip]; omega)
      rw [hz] at hd2
      have hfo := fall_ok (d.pend.zip keep) d.last _ rfl Hok.out.l64 (fun q hq => Hok.out.p64 q.1 (List.of_mem_zip hq).1)
      have hL : (d.pend.zip keep).foldl fall1 d.last = fallAll d.last d.pend keep := rfl
      rw [hL] at hd2 hfo
      have hc0 := cell_of_heap hd2.hb 0
      have hc1 := cell_of_heap hd2.hb 1
      have Hd2 := Lib.hid hd2
      have Hfo := Lib.hid hfo
      clear hd2 hz hL hfo
      generalize hL2 : fallAll d.last d.pend keep = L at *
      have HL := Lib.hid hL2
      clear hL2
      have hcl := fun w' hw' => cloneSec_any vl L.length (L.flatMap secv) w' hw' (by rw [Hfo.out.1]; have := Hok.out.few; omega) (fun u hu => by obtain ⟨s, _, hs⟩ := List.mem_flatMap.1 hu; unfold secv at hs; exact u8v_one _ u hs)
      have Hcl := Lib.hid hcl
      clear hcl
      have hown := Hd2.out.last
      have Hown := Lib.hid hown
      clear hown
      go_wp2_with (go_at_call 30; (with_reducible refine (Hcl.out _ Hown.out).mono ?_); rintro e w5 ⟨v5, rfl, hown5, hk5, hfr5⟩; obtain ⟨a5, c5, hv5⟩ := ownsRow_shape hown5; subst hv5; have q1 := free_of_heap (hk5.some Hd2.out.hb (by simp)) 1; have q2 := free_of_heap (hk5.some Hd2.out.hb (by simp)) 2; have q4 := free_of_heap (hk5.some Hd2.out.hb (by simp)) 4; have p1 := cell_of_heap (hk5.some Hd2.out.hb (by simp)) 1; have p2 := cell_of_heap (hk5.some Hd2.out.hb (by simp)) 2; have p4 := cell_of_heap (hk5.some Hd2.out.hb (by simp)) 4)
      go_end0
      have hb5 := hk5.some Hd2.out.hb (by simp)
      have e : d.crash keep = { d with last := L, now := L, pend := [], stops := false } := by unfold Dev.crash; rw [HL.out]
      rw [e]
      have hbl := own_ne Hd2.out.hb Hown.out (by decide)
      have hb5n := own_ne hb5 hown5 (by decide)
      have kk : Keeps [b] w5 (((w5.setCell ⟨b, 1, none⟩ (.slice a5 L.length c5)).setCell ⟨b, 2, none⟩ (.slice none 0 0)).setCell ⟨b, 4, none⟩ (.bool false)) :=
        (((Keeps.refl [b] w5).setCell (p := ⟨b, 1, none⟩) (by simp) _).setCell (p := ⟨b, 2, none⟩) (by simp) _).setCell (p := ⟨b, 4, none⟩) (by simp) _
      have one : ∀ {v : Value}, b ∉ v.ownBlock.toList → ∀ x, x ∈ v.ownBlock.toList → x ∉ [b] := by
        intro v hv x hx hx'
        rw [List.mem_singleton] at hx'
        subst hx'
        exact hv hx
      have hvF : ∀ x, x ∈ vl.ownBlock.toList → x ∈ F := fun x hx => by rw [HF.out]; simp [devF, hx]
      have hbF : b ∈ F := by rw [HF.out]; simp [devF]
      refine ⟨rfl, devF b vl (.slice a5 L.length c5) (.slice none 0 0), (DevIs.mk (d := { d with last := L, now := L, pend := [], stops := false }) (heap_setCell (heap_setCell (heap_setCell hb5 1 _) 2 _) 4 _) ?_ (own_keep (own_keep Hown.out hk5 (by simp)) kk (one hbl)) (own_keep hown5 kk (one hb5n)) ⟨rfl, .inl ⟨rfl, rfl⟩⟩).at, ⟨((hkk.mono hvF).trans (F' := F) (hk5.mono (by simp)) (fun _ h => .inl h)).trans (F' := [b]) kk (fun x hx => .inl (by rw [List.mem_singleton] at hx; rw [hx]; exact hbF)), ?_⟩⟩
      · intro x hx hx'
        have h1 := hfr5 x hx'
        have h2 := (Hown.out.lt x (by simpa using hx)).2
        omega
      · intro x hx
        have hx2 := devF_nil (.slice a5 L.length c5) x hx
        simp only [devF, List.mem_cons, List.mem_append] at hx2
        have e0 : (Value.slice none 0 0).ownBlock.toList = [] := rfl
        unfold devF at hx
        rw [e0, List.append_nil, List.mem_cons, List.mem_append] at hx
        rcases hx with h | h | h
        · subst h; exact .inl hbF
        · exact .inl (hvF x h)
        · exact .inr (Nat.le_trans hkk.size (hfr5 x h))
end Go.Proofs.Ytddehagceenbnaa
