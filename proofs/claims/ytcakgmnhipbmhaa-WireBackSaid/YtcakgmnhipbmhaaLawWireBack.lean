/- What was written is read again, in order, and nothing is left: WireBack answers true at all inputs; without conditions. -/
import Derived.Test.YtcakgmnhipbmhaaWireBk
import Derived.Deep.RegionHeld3
namespace Go.Proofs.Ytcakgmnhipbmhaa.lawWireBack
open Go.ChangeShapes Go.WideShapes Go.ChangeAt Go.RowKit

theorem walk_nil (ad : Option Addr) (cap : Nat) (G : List Nat) (w : World) (h : OpsAt w (.slice ad 0 cap) [] G) :
    Calls Try.prog 8 #[.slice ad 0 cap] w fun e w' => e = .returned (.bool true) ∧ Keeps [] w w' := by
  have Hf := Lib.hid (few_any [] w _ G h (by simp))
  have hdn : rdone ([] : List UInt8) 0 0 = 0 := by decide
  clear h
  go_enter Try.func8, Try.ntmps8
  go_wp2_with (go_at_call 20; (with_reducible refine Hf.out.mono ?_); rintro e w1 ⟨rfl, rfl⟩; rw [show fewB [] = true from rfl])
  refine wp_loop_rounds 1 ?_
  rw [rounds_succ]
  go_wp2_with (first | (go_at_call 12; (with_reducible refine (outString_any _ _ _ _ (OutAt.new w)).mono ?_); rintro e w2 ⟨rfl, rfl⟩) | (go_at_call 14; (with_reducible refine (read_any _ _).mono ?_); rintro e w3 ⟨rfl, hi3, hk3⟩))
  have hi4 : InAt w3 (w.heap.size + 1) (str []) 0 0 := by simpa using hi3
  have hd := inDone_any _ _ _ _ _ hi4 (by simp) (by simp)
  rw [str_data, hdn] at hd
  have Hd := Lib.hid hd
  clear hi3 hi4 hd
  refine wp_loop_rounds 1 ?_
  rw [rounds_succ]
  go_wp2_with (first | (go_at_call 27; (with_reducible refine Hd.out.mono ?_); rintro e w5 ⟨rfl, n5, rfl⟩) | (go_at_call 10; (with_reducible refine (awake_any _).mono ?_); rintro e w6 ⟨rfl, hk6⟩))
  go_ret
  exact ⟨rfl, (((Keeps.refl [] w).alloc _).trans hk3 (by simp)).drewN _ |>.trans hk6 (by simp)⟩

set_option maxHeartbeats 4000000 in
set_option maxRecDepth 100000 in
theorem walk (l : List OpR) (v : Value) (G : List Nat) (w : World) (hg : ∀ o, o ∈ l → o.good) (h : OpsAt w v l G) (hG : ∀ k, k ∈ G → k < w.heap.size) (hf : fewB l = true) :
    Calls Try.prog 8 #[v] w fun e w' => e = .returned (.bool true) ∧ Keeps [] w w' := by
  have hf2 := hf
  unfold fewB at hf2
  simp only [Bool.and_eq_true, List.all_eq_true, decide_eq_true_eq] at hf2
  obtain ⟨hsz, hlen⟩ := hf2
  have hwl := wall_bound l hsz
  have Hg := Lib.hid hg
  have Hsz := Lib.hid hsz
  have Hh := Lib.hid h
  have HG := Lib.hid hG
  have Hf := Lib.hid hf
  obtain ⟨ad, cap, rfl, h2⟩ := h
  clear hg hsz hG hf
  by_cases h0 : l = []
  · subst h0
    exact walk_nil ad cap G w Hh.out
  obtain ⟨b, off, rfl, _, _⟩ := h2 h0
  clear h2 h0
  go_enter Try.func8, Try.ntmps8
  go_wp2_with (go_at_call 20; (with_reducible refine (few_any l _ _ G Hh.out (by omega)).mono ?_); rintro e w1 ⟨rfl, rfl⟩; rw [Hf.out])
  go_loopw [4] (fun i wr => ∃ (k : Nat) (F1 : List Nat), k ≤ l.length ∧ i = .int .i64 k ∧ OutAt wr w.heap.size (wall (l.take k)) F1 ∧ Chg [] F1 w wr) (fun i _ => l.length - (intOf i).toNat)
  case atStart => exact ⟨0, [w.heap.size], Nat.zero_le _, rfl, OutAt.new w, Chg.new w _⟩
  case round =>
    obtain ⟨k, F1, hk, rfl, ho1, hk1⟩ := hrel
    by_cases hlt : k < l.length
    · obtain ⟨o, ho⟩ : ∃ o, l[k]? = some o := ⟨l[k], by simp [hlt]⟩
      obtain ⟨c0, c1, c2, c3⟩ := (Hh.out.keep hk1.keeps (by simp)).cells _ _ _ _ ho rfl
      have hgo := Hg.out o (List.mem_of_getElem? ho)
      have hso := Hsz.out o (List.mem_of_getElem? ho)
      have Hwt := Lib.hid (wall_take ho)
      have hwk := wall_le (l := l) k
      have Hgo := Lib.hid hgo
      have Ho1 := Lib.hid ho1
      clear hgo ho ho1
      go_wp2_with (go_at_call 21; (with_reducible refine (write_any w.heap.size F1 _ o _ Hgo.out (by omega) (by omega) Ho1.out).mono ?_); rintro e w1 ⟨rfl, F2, ho2, hch2⟩)
      go_roundw
      case rel => exact ⟨k + 1, F2, by omega, by go_num, by rw [Hwt.out]; exact ho2, hk1.trans hch2⟩
      case measure => simp [intOf]; omega
    · have hta : l.take k = l := List.take_of_length_le (by omega)
      rw [hta] at ho1
      clear hta
      have Hs1 := Lib.hid (outString_any _ _ _ _ ho1)
      have hk1' := hk1.keeps
      have hge := hk1.keeps.size
      clear ho1 hk1
      obtain ⟨s, hs⟩ : ∃ s, s = str (wall l) := ⟨_, rfl⟩
      rw [← hs] at Hs1
      have hsd : s.data.toList = wall l := by rw [hs, str_data]
      have hss : s.size = (wall l).length := by rw [hs, str_size]
      have Hsd := Lib.hid hsd
      have Hss := Lib.hid hss
      have hsm : s.size ≤ 140737488351232 := by omega
      clear hs hsd hss
      go_wp2_with (first | (go_at_call 12; (with_reducible refine Hs1.out.mono ?_); rintro e w2 ⟨rfl, rfl⟩) | (go_at_call 14; (with_reducible refine (read_any s _).mono ?_); rintro e w3 ⟨rfl, hi3, hk3⟩))
      have hkk : Keeps [] w w3 := hk1'.trans hk3 (by simp)
      clear Hs1 hk1' hk3
      obtain ⟨wo, rfl⟩ : ∃ wo : World, wo = wr := ⟨_, rfl⟩
      go_loopw [6] (fun i wr => ∃ (q : Nat), q ≤ l.length ∧ i = .int .i64 q ∧ InAt wr wo.heap.size s (wall (l.take q)).length 0 ∧ Keeps [] w wr) (fun i _ => l.length - (intOf i).toNat)
      case atStart => exact ⟨0, Nat.zero_le _, rfl, hi3, hkk⟩
      case round =>
        obtain ⟨q, hq, rfl, hi, hkq⟩ := hrel
        by_cases hqt : q < l.length
        · obtain ⟨o, ho⟩ : ∃ o, l[q]? = some o := ⟨l[q], by simp [hqt]⟩
          obtain ⟨c0, c1, c2, c3⟩ := (Hh.out.keep hkq (by simp)).cells _ _ _ _ ho rfl
          have hgo := Hg.out o (List.mem_of_getElem? ho)
          have hso := Hsz.out o (List.mem_of_getElem? ho)
          have hwt := congrArg List.length (wall_take ho)
          rw [List.length_append] at hwt
          have hdr := wall_drop ho
          rw [← Hsd.out] at hdr
          have hpl := wall_le (l := l) q
          have hge2 := hi.lt
          generalize (wall (l.take q)).length = P at *
          have hPs : P ≤ s.size := by have := Hss.out; omega
          have hgood := rback_good (l := s.data.toList) (p := P) (o := o) (r := wall (l.drop (q + 1))) hgo.x0 (by omega)
          have Hgood := Lib.hid hgood
          have Hdr := Lib.hid hdr
          have Hwt := Lib.hid hwt
          have hx0 := hgo.x0
          have hi2 : InAt (wr.alloc (.cells #[.int .i64 o.kind, .int .u64 o.x, .string o.s, .int .i64 o.n] 46)) wo.heap.size s P 0 := hi.keep ((Keeps.refl [] _).alloc _) (by simp)
          have hk2 : ∀ w', Keeps [wo.heap.size] (wr.alloc (.cells #[.int .i64 o.kind, .int .u64 o.x, .string o.s, .int .i64 o.n] 46)) w' → Keeps [] w w' := fun w' h => (hkq.trans ((Keeps.refl [] _).alloc _) (by simp)).trans h (fun x hx => .inr (by rw [List.mem_singleton] at hx; omega))
          have Hi2 := Lib.hid hi2
          have Hk2 := Lib.hid hk2
          clear hgo ho hwt hdr hgood hi hi2 hk2 hkq hpl
          obtain ⟨kind, x, t, n⟩ := o
          dsimp only at *
          by_cases k0 : kind = 0
          · subst k0
            have e0 : ((0 : Int) == 0) = true := rfl
            by_cases hb : n < 1 ∨ 8 < n
            · have hwb : (wby ⟨0, x, t, n⟩).length = 0 := by simp [wby, hb]
              have Hwb := Lib.hid hwb
              clear hwb
              have hb2 : (if decide (n < 1) = true then true else decide (8 < n)) = true := by rcases hb with hb | hb <;> simp [hb]
              rcases hb with hb | hb
              all_goals
                go_wp2
                go_roundw
                case rel => exact ⟨q + 1, by omega, by go_num, by rw [Hwt.out, Hwb.out, Nat.add_zero]; exact Hi2.out, Hk2.out _ (Keeps.refl _ _)⟩
                case measure => simp [intOf]; omega
            · obtain ⟨m, rfl⟩ : ∃ m : Nat, n = m := ⟨n.toNat, by omega⟩
              have hm1 : 1 ≤ m := by omega
              have hm8 : m ≤ 8 := by omega
              have hwb : wby ⟨0, x, t, (m : Int)⟩ = be x m := by simp [wby, hb]
              have hfx := rfixed_be hm1 hm8 (hwb ▸ Hdr.out) (by rw [dlen]; exact hPs)
              have hwl2 : (wby ⟨0, x, t, (m : Int)⟩).length = m := by rw [hwb, be_length]
              have hfc := inFixed_any wo.heap.size s P 0 _ Hi2.out hPs hsm (m : Int)
              obtain ⟨Y, hY⟩ : ∃ Y, Y = x % 256 ^ m := ⟨_, rfl⟩
              rw [hfx, ← hY] at hfc
              have HY := Lib.hid hY
              have Hfc := Lib.hid hfc
              have Hwl2 := Lib.hid hwl2
              have hca : ∀ w', Keeps [wo.heap.size] (wr.alloc (.cells #[.int .i64 0, .int .u64 x, .string t, .int .i64 m] 46)) w' → w'.cell? ⟨wr.heap.size, 1, none⟩ = some (.int .u64 x) ∧ w'.cell? ⟨wr.heap.size, 3, none⟩ = some (.int .i64 m) := by
                intro w' h
                have h1 := h.some (heap_alloc_self wr _) (by simp; omega)
                exact ⟨cell_of_heap h1 1, cell_of_heap h1 3⟩
              have Hca := Lib.hid hca
              clear hb hwb hfx hfc hwl2 hca hY
              go_wp2_with (go_at_call 28; (with_reducible refine Hfc.out.mono ?_); rintro e w4 ⟨rfl, hi4, hk4⟩; obtain ⟨d1, d3⟩ := Hca.out _ hk4)
              by_cases hm : m < 8
              · go_loop [9, 10] (fun u j => ∃ i U : Nat, i ≤ m ∧ j = .int .i64 i ∧ u = .int .u64 (U : Int) ∧ Hid (U = 256 ^ i)) (fun _ j => m - (intOf j).toNat)
                case atStart => exact ⟨0, 1, by omega, rfl, rfl, rfl⟩
                case round =>
                  obtain ⟨i, U, hi, rfl, rfl, HU⟩ := hrel
                  by_cases him : i < m
                  · have hpw : 256 ^ i ≤ 256 ^ 6 := Nat.pow_le_pow_right (by omega) (by omega)
                    rw [← HU.out] at hpw
                    go_wp2
                    go_round
                    case rel => exact ⟨i + 1, 256 * U, by omega, by go_num, by go_num, by rw [HU.out, Nat.pow_succ, Nat.mul_comm]; rfl⟩
                    case measure => simp [intOf]; omega
                  · have hUm : U = 256 ^ m := by rw [HU.out, show i = m by omega]
                    have hU1 : 1 ≤ U := by rw [hUm]; exact Nat.pow_pos (by omega)
                    have hUz : ((U : Int) == 0) = false := by simp; omega
                    have hcmp : ((Y : Int) != (x : Int) % (U : Int)) = false := by rw [HY.out, hUm]; simp
                    clear hUm
                    go_wp2_with (go_at_call 16; (with_reducible refine (inErr_any _ _ _ _ _ hi4).mono ?_); rintro e w5 ⟨rfl, rfl⟩)
                    go_roundw
                    case rel => exact ⟨q + 1, by omega, by go_num, by rw [Hwt.out, Hwl2.out]; exact hi4, Hk2.out _ hk4⟩
                    case measure => simp [intOf]; omega
              · obtain rfl : m = 8 := by omega
                have hcmp : ((Y : Int) != (x : Int)) = false := by rw [HY.out, Nat.mod_eq_of_lt (by omega)]; simp
                refine wp_loop_rounds 1 ?_
                rw [rounds_succ]
                go_wp2_with (go_at_call 16; (with_reducible refine (inErr_any _ _ _ _ _ hi4).mono ?_); rintro e w5 ⟨rfl, rfl⟩)
                go_roundw
                case rel => exact ⟨q + 1, by omega, by go_num, by rw [Hwt.out, Hwl2.out]; exact hi4, Hk2.out _ hk4⟩
                case measure => simp [intOf]; omega
          · have e0 : (kind == 0) = false := by simpa using k0
            have hca : ∀ w', Keeps [wo.heap.size] (wr.alloc (.cells #[.int .i64 kind, .int .u64 x, .string t, .int .i64 n] 46)) w' → w'.cell? ⟨wr.heap.size, 1, none⟩ = some (.int .u64 x) ∧ w'.cell? ⟨wr.heap.size, 2, none⟩ = some (.string t) := by
              intro w' h
              have h1 := h.some (heap_alloc_self wr _) (by simp; omega)
              exact ⟨cell_of_heap h1 1, cell_of_heap h1 2⟩
            have Hca := Lib.hid hca
            clear hca
            by_cases k1 : kind = 1 ∨ kind = 4
            · have hwb : wby ⟨kind, x, t, n⟩ = vby x := by unfold wby; rw [if_neg k0, if_pos k1]
              have hfx := rvar_vby (by omega) (hwb ▸ Hdr.out)
              have hwl2 : (wby ⟨kind, x, t, n⟩).length = vsz x := by rw [hwb, vby_length]
              have hfc := fun w' hi' => inVar_any wo.heap.size s P 0 w' hi' hPs hsm
              rw [hfx] at hfc
              have Hfc := Lib.hid hfc
              have Hwl2 := Lib.hid hwl2
              have Hz1 := Lib.hid (Hca.out _ (Keeps.refl _ _)).1
              clear hwb hfx hfc hwl2
              rcases k1 with rfl | rfl
              all_goals
                go_wp2_with fail
                go_region_held3 (fun w' => w'.cell? ⟨wr.heap.size, 1, none⟩ = some (.int .u64 x)) (first | exact Hz1.out | exact d1) (first | (go_at_call 15; refine (Hfc.out _ (by exact Hi2.out)).mono ?_; rintro e w4 ⟨rfl, hi4, hk4⟩; obtain ⟨d1, d2⟩ := Hca.out _ hk4.ofDrew))
                go_wp2_with (go_at_call 16; (with_reducible refine (inErr_any _ _ _ _ _ hi4).mono ?_); rintro e w5 ⟨rfl, rfl⟩)
                go_roundw
                case rel => exact ⟨q + 1, by omega, by go_num, by rw [Hwt.out, Hwl2.out]; exact hi4, Hk2.out _ hk4.ofDrew⟩
                case measure => simp [intOf]; omega
            · have e1 : (kind == 1) = false := by simp; omega
              have e4 : (kind == 4) = false := by simp; omega
              by_cases k2 : kind = 2
              · subst k2
                have hwb : wby ⟨2, x, t, n⟩ = vby t.data.toList.length ++ t.data.toList := by simp [wby]
                have hfx := rtext_txt (t := t.data.toList) (by rw [dlen]; omega) (hwb ▸ Hdr.out)
                have hfc := fun w' hi' => inText_any wo.heap.size s P 0 w' hi' hPs hsm t.data.toList.length (by rw [dlen]; omega) (by omega)
                rw [hfx] at hfc
                rw [← hwb, dlen] at hfc
                simp only [str_self] at hfc
                have Hfc := Lib.hid hfc
                have Hz1 := Lib.hid (Hca.out _ (Keeps.refl _ _)).2
                clear hwb hfx hfc
                go_wp2_with fail
                go_region_held3 (fun w' => w'.cell? ⟨wr.heap.size, 2, none⟩ = some (.string t)) (first | exact Hz1.out | exact d2) (first | (go_at_call 29; refine (Hfc.out _ (by exact Hi2.out)).mono ?_; rintro e w4 ⟨rfl, hi4, hk4⟩; obtain ⟨d1, d2⟩ := Hca.out _ hk4.ofDrew))
                go_wp2_with (go_at_call 16; (with_reducible refine (inErr_any _ _ _ _ _ hi4).mono ?_); rintro e w5 ⟨rfl, rfl⟩)
                go_roundw
                case rel => exact ⟨q + 1, by omega, by go_num, by rw [Hwt.out]; exact hi4, Hk2.out _ hk4.ofDrew⟩
                case measure => simp [intOf]; omega
              · have e2 : (kind == 2) = false := by simpa using k2
                have hwb : wby ⟨kind, x, t, n⟩ = t.data.toList := by unfold wby; rw [if_neg k0, if_neg k1, if_neg k2]
                have hfx := rraw_good (hwb ▸ Hdr.out) (by rw [dlen]; exact hPs)
                have hfc := fun w' hi' => inRaw_any wo.heap.size s P 0 w' hi' hPs hsm t.data.toList.length
                rw [hfx] at hfc
                rw [dlen] at hfc
                simp only [str_self] at hfc
                have hwl2 : (wby ⟨kind, x, t, n⟩).length = t.size := by rw [hwb, dlen]
                have Hwl2 := Lib.hid hwl2
                have Hfc := Lib.hid hfc
                have Hz1 := Lib.hid (Hca.out _ (Keeps.refl _ _)).2
                clear hwb hfx hfc hwl2
                go_wp2_with fail
                go_region_held3 (fun w' => w'.cell? ⟨wr.heap.size, 2, none⟩ = some (.string t)) (first | exact Hz1.out | exact d2) (first | (go_at_call 30; refine (Hfc.out _ (by exact Hi2.out)).mono ?_; rintro e w4 ⟨rfl, hi4, hk4⟩; obtain ⟨d1, d2⟩ := Hca.out _ hk4.ofDrew))
                go_wp2_with (go_at_call 16; (with_reducible refine (inErr_any _ _ _ _ _ hi4).mono ?_); rintro e w5 ⟨rfl, rfl⟩)
                go_roundw
                case rel => exact ⟨q + 1, by omega, by go_num, by rw [Hwt.out, Hwl2.out]; exact hi4, Hk2.out _ hk4.ofDrew⟩
                case measure => simp [intOf]; omega
        · have hta : l.take q = l := List.take_of_length_le (by omega)
          rw [hta] at hi
          have hdn : rdone s.data.toList (wall l).length 0 = 0 := by unfold rdone; rw [if_neg (by simp), if_neg (by rw [Hsd.out]; omega)]
          have hd := inDone_any wo.heap.size s _ 0 wr hi (by rw [Hss.out]; exact Nat.le_refl _) hsm
          rw [hdn] at hd
          have Hd := Lib.hid hd
          clear hta hi hdn hd
          go_wp2_with (first | (go_at_call 27; (with_reducible refine Hd.out.mono ?_); rintro e w5 ⟨rfl, n5, rfl⟩) | (go_at_call 10; (with_reducible refine (awake_any _).mono ?_); rintro e w6 ⟨rfl, hk6⟩))
          go_ret
          exact ⟨rfl, (hkq.drewN _).trans hk6 (by simp)⟩

theorem walk_any (l : List OpR) (v : Value) (G : List Nat) (w : World) (hg : ∀ o, o ∈ l → o.good) (h : OpsAt w v l G) (hG : ∀ k, k ∈ G → k < w.heap.size) (hl : l.length ≤ 9223372036854775807) :
    Calls Try.prog 8 #[v] w fun e w' => e = .returned (.bool true) ∧ Keeps [] w w' := by
  cases hf : fewB l
  · have Hf := Lib.hid (few_any l w v G h hl)
    rw [hf] at Hf
    clear h hf
    go_enter Try.func8, Try.ntmps8
    go_wp2_with (first | (go_at_call 20; (with_reducible refine Hf.out.mono ?_); rintro e w5 ⟨rfl, rfl⟩) | (go_at_call 10; (with_reducible refine (awake_any _).mono ?_); rintro e w6 ⟨rfl, hk6⟩))
    go_ret
    exact ⟨rfl, hk6⟩
  · exact walk l v G w hg h hG hf

set_option maxRecDepth 100000 in
theorem lifted (os : Os) (started : os.Started) (H : Type) (enc : TypeId × Value → H) :
    ReturnsInHanded {} Try.checked os 8 .any (Rows.wireBackSpec.pre6 enc Try.prog Try.f8 Rows.wireBackRow.domain false) (Rows.wireBackSpec.post enc Try.prog Try.f8 false true false false) := by
  refine returnsInHanded_of_change (C := Try.checked) Try.own started (by kernel_rfl) Try.func8
    (ChangeSpec.witness6 (enc := enc) (C := Try.checked) false ⟨#[], #[.slice none 0 0], []⟩ 8 (by kernel_rfl) (by kernel_rfl) (by kernel_rfl) (by kernel_rfl)) ?_
  intro W base args ds gs before hval0 hW _ _
  have hval : ∀ (j : Nat) t v, Try.f8.params[j]? = some t → args[j]? = some v → Value.okWide Try.prog W .any base t v := hval0
  have hW' := hW
  obtain ⟨p, q, hA0, hV, rfl, hfz, hnd⟩ := hW
  have hA : DataW.TrodAll enc Try.prog W 0 (fun _ => true) true Try.f8.params.toList args.toList ds p := hA0
  rw [Try.params8] at hA hval
  obtain ⟨v0, vs0, d0, ds0, p0, q0, hargs, rfl, rfl, h0, r0⟩ := trodAll_cons hA
  obtain ⟨rfl, rfl, rfl⟩ := trodAll_nil r0
  obtain rfl : args = #[v0] := by cases args; simp_all
  obtain ⟨l, G, hl, hg, hG, hlen⟩ := open_rows OpR.vals OpR.good 4 (by kernel_rfl) (by decide) Try.underlying41 (hval 0 41 v0 rfl rfl) (fun _ _ _ h => elem_op h) h0
  refine (walk_any l v0 G W hg hl hG hlen).mono fun e W' ⟨he, hk⟩ => ?_
  subst he
  exact ⟨_, rfl, law_end Try.laidOut (by kernel_rfl) rfl rfl Try.underlying4 hW' rfl hk⟩

theorem proved : Rows.WireBackSaid :=
  OpenClaim.holds_of_wide 8 Try.f8 rfl rfl rfl rfl rfl rfl rfl ⟨rfl, rfl, rfl, rfl, rfl⟩ rfl rfl rfl rfl rfl (by kernel_rfl) Try.func8 (by kernel_rfl)
    (of_decide_eq_true (by kernel_rfl)) (by unfold Func.isWrapper; first | (rw [if_pos (by decide +kernel)]; kernel_rfl) | (rw [if_neg (by decide +kernel)]; exact ⟨rfl, rfl⟩))
    (fun os started H enc _ => lifted os started H enc)
end Go.Proofs.Ytcakgmnhipbmhaa.lawWireBack
