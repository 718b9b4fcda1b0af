/- Of a beginning of what was written all is read that is there whole, and the first call of which bytes are missing is ErrShort: WireCut answers true at all inputs. -/
import Derived.Test.YtcakgmnhipbmhaaWireBk
import Derived.Deep.RegionHeld3
namespace Go.Proofs.Ytcakgmnhipbmhaa.lawWireCut
open Go.ChangeShapes Go.WideShapes Go.ChangeAt Go.RowKit

theorem own_keep {w w' : World} {e : TypeId} {size n : Nat} {v : Value} {xs : List Value} {G : List Nat} (h : w.ownsRow 0 e size v n xs) (k : Keeps G w w') (hd : ∀ x, x ∈ v.ownBlock.toList → x ∉ G) : w'.ownsRow 0 e size v n xs := by
  refine ⟨h.1, ?_⟩
  rcases h.2 with hn | ⟨g, cap, cur, rfl, hbg, hg, r⟩
  · exact .inl hn
  · exact .inr ⟨g, cap, cur, rfl, hbg, k.some hg (hd _ (by simp [Value.ownBlock])), r⟩

theorem own_cell {w : World} {e : TypeId} {n : Nat} {v : Value} {xs : List Value} (h : w.ownsRow 0 e 1 v n xs) {j : Nat} {u : Value} (hj : xs[j]? = some u) : ∃ g cap, v = .slice (some ⟨g, 0, none⟩) n cap ∧ w.cell? ⟨g, j, none⟩ = some u := by
  have hl : j < xs.length := (List.getElem?_eq_some_iff.1 hj).1
  rcases h.2 with ⟨rfl, rfl⟩ | ⟨g, cap, cur, rfl, hbg, hg, h1, h2, h3, h4⟩
  · have := h.1; omega
  · refine ⟨g, cap, rfl, ?_⟩
    rw [cell_of_heap hg]
    rw [← h4, List.getElem?_take_of_lt (by have := h.1; omega)] at hj
    simpa using hj

theorem chg_left {F F' E : List Nat} {w w' : World} (h : Chg F F' w w') : Chg (F ++ E) (F' ++ E) w w' :=
  ⟨h.keeps.mono (by intro x hx; simp [hx]), fun k hk => by
    rcases List.mem_append.1 hk with hk | hk
    · exact (h.fresh k hk).imp (fun h => by simp [h]) id
    · exact .inl (by simp [hk])⟩
theorem chg_right {F F' E : List Nat} {w w' : World} (h : Chg F F' w w') : Chg (E ++ F) (E ++ F') w w' :=
  ⟨h.keeps.mono (by intro x hx; simp [hx]), fun k hk => by
    rcases List.mem_append.1 hk with hk | hk
    · exact .inl (by simp [hk])
    · exact (h.fresh k hk).imp (fun h => by simp [h]) id⟩

/-- Where the calls end, as values. -/
def ends (l : List OpR) (k : Nat) : List Value := (List.range k).map (fun j => Value.int .i64 ((wall (l.take (j + 1))).length : Nat))
theorem ends_succ (l : List OpR) (k : Nat) : ends l (k + 1) = ends l k ++ [.int .i64 ((wall (l.take (k + 1))).length : Nat)] := by simp [ends, List.range_succ]
theorem ends_get (l : List OpR) {k q : Nat} (h : q < k) : (ends l k)[q]? = some (.int .i64 ((wall (l.take (q + 1))).length : Nat)) := by simp [ends, h]

theorem tyInts : SlTy Try.prog 53 3 1 8 (.int .i64 0) := SlTy.mk' Try.underlying53 (by kernel_rfl) rfl (by decide)

def OpR.fit (o : OpR) : Prop := o.kind = 0 → 1 ≤ o.n ∧ o.n ≤ 8

set_option maxHeartbeats 4000000 in
set_option maxRecDepth 100000 in
theorem walk (l : List OpR) (cut : Int) (v : Value) (G : List Nat) (w : World) (hg : ∀ o, o ∈ l → o.good) (h : OpsAt w v l G) (hG : ∀ k, k ∈ G → k < w.heap.size) (hf : fewB l = true) :
    Calls Try.prog 7 #[v, .int .i64 cut] w fun e w' => e = .returned (.bool true) ∧ Keeps [] w w' := by
  have hf2 := hf
  unfold fewB at hf2
  simp only [Bool.and_eq_true, List.all_eq_true, decide_eq_true_eq] at hf2
  obtain ⟨hsz, hlen⟩ := hf2
  have hwl := wall_bound l hsz
  have Hg := Lib.hid hg
  have Hsz := Lib.hid hsz
  have Hh := Lib.hid h
  have HG := Lib.hid hG
  have Hf := Lib.hid (few_any l w v G h (by omega))
  rw [hf] at Hf
  obtain ⟨ad, cap, rfl, h2⟩ := h
  clear hg hsz hG hf
  go_enter Try.func7, Try.ntmps7
  go_wp2_with (go_at_call 20; (with_reducible refine Hf.out.mono ?_); rintro e w1 ⟨rfl, rfl⟩)
  obtain ⟨wo, rfl⟩ : ∃ wo : World, wo = w := ⟨_, rfl⟩
  go_loopw [6, 7] (fun ev iv wr => ∃ (k : Nat) (F1 : List Nat), k ≤ l.length ∧ iv = .int .i64 k ∧ (∀ o, o ∈ l.take k → OpR.fit o) ∧ OutAt wr wo.heap.size (wall (l.take k)) F1 ∧ wr.ownsRow 0 3 1 ev k (ends l k) ∧ (∀ x, x ∈ ev.ownBlock.toList → x ∉ F1) ∧ Chg [] (F1 ++ ev.ownBlock.toList) wo wr) (fun _ iv _ => l.length - (intOf iv).toNat)
  case atStart => exact ⟨0, [wo.heap.size], Nat.zero_le _, rfl, by simp, OutAt.new wo, ⟨rfl, .inl ⟨rfl, rfl⟩⟩, by simp [Value.ownBlock], by simpa [Value.ownBlock] using Chg.new wo _⟩
  case round =>
    obtain ⟨k, F1, hk, rfl, hfit, ho1, hown, hdj, hk1⟩ := hrel
    by_cases hlt : k < l.length
    · obtain ⟨o, ho⟩ : ∃ o, l[k]? = some o := ⟨l[k], by simp [hlt]⟩
      have h0 : l ≠ [] := by intro h; subst h; simp at hlt
      obtain ⟨b, off, had, _, _⟩ := h2 h0
      subst had
      have hcell := fun w' (hk : Keeps [] wo w') => (Hh.out.keep hk (by simp)).cells _ _ _ _ ho rfl
      obtain ⟨c0, c1, c2, c3⟩ := hcell wr hk1.keeps
      have hgo := Hg.out o (List.mem_of_getElem? ho)
      have hso := Hsz.out o (List.mem_of_getElem? ho)
      have Hwt := Lib.hid (wall_take ho)
      have hwk := wall_le (l := l) k
      have hwk1 := wall_le (l := l) (k + 1)
      have hwr := write_any wo.heap.size F1 (wall (l.take k)) o wr hgo (by omega) (by omega) ho1
      rw [← Hwt.out] at hwr
      have Hwr := Lib.hid hwr
      have hft1 : OpR.fit o → ∀ o, o ∈ l.take (k + 1) → OpR.fit o := by
        intro h1 o' ho'
        rw [List.take_add_one, ho] at ho'
        rcases List.mem_append.1 ho' with h | h
        · exact hfit o' h
        · simp at h; subst h; exact h1
      have Hft := Lib.hid hft1
      have Hown := Lib.hid hown
      have Hdj := Lib.hid hdj
      obtain ⟨ead, ecap, rfl⟩ := ownsRow_shape hown
      clear hcell ho hgo h2 h0 hwr hso hft1 hfit hown hdj
      by_cases hb : o.kind = 0 ∧ (o.n < 1 ∨ 8 < o.n)
      · have e0 : (o.kind == 0) = true := by simpa using hb.1
        rcases hb.2 with hb1 | hb1
        all_goals
          clear hb
          go_wp2_with (go_at_call 10; (with_reducible refine (awake_any _).mono ?_); rintro e w6 ⟨rfl, hk6⟩)
          go_ret
          exact ⟨rfl, hk1.keeps.trans hk6 (by simp)⟩
      · have hfo : OpR.fit o := fun h => by have h2 : ¬ (o.n < 1 ∨ 8 < o.n) := fun h' => hb ⟨h, h'⟩
                                            omega
        by_cases k0 : o.kind = 0
        · have e0 : (o.kind == 0) = true := by simpa using k0
          obtain ⟨h1, h8⟩ := hfo k0
          have Hfo := Lib.hid hfo
          clear hb k0 hfo
          have Hk1 := Lib.hid hk1
          clear hk1
          go_wp2_with (first | (go_at_call 21; (with_reducible refine Hwr.out.mono ?_); rintro e w1 ⟨rfl, F2, ho2, hch2⟩; have hown2 := own_keep Hown.out hch2.keeps Hdj.out; have hap := hch2.apart (fun x hx => (Hown.out.lt x (by simpa using hx)).2) Hdj.out) | (go_at_call 12; (with_reducible refine (outString_any _ _ _ _ ho2).mono ?_); rintro e w2 ⟨rfl, rfl⟩) | (at_builtin; refine wpList_app1 tyInts rfl (.tmp 50) (.tmp 53) rfl _ _ _ rfl rfl hown2 rfl ?c1 ?c2 ?c3 ?c4))
          case c1 => rfl
          case c2 => omega
          case c3 => unfold maxLen; omega
          case c4 =>
          intro g' cap' w' hown' hc'
          have ho3 := ho2.keep hc'.keeps (fun x hx hx' => hap x hx' hx)
          have hdj2 : ∀ x, x ∈ [g'] → x ∉ F2 := by
            intro x hx hx2
            rcases hc'.fresh x hx with h | h
            · exact hap _ h hx2
            · have := ho2.lt _ hx2
              omega
          have hch3 := (Hk1.out.trans (chg_left hch2)).trans (chg_right hc')
          rw [← ends_succ] at hown'
          have Hown' := Lib.hid hown'
          have Hch3 := Lib.hid hch3
          have Hdj2 := Lib.hid hdj2
          have Ho3 := Lib.hid ho3
          clear hown' hch3 hdj2 ho3 hc' hap hown2 hch2
          go_wp2
          go_roundw
          case rel => exact ⟨k + 1, F2, by omega, by go_num, Hft.out Hfo.out, Ho3.out, Hown'.out, Hdj2.out, Hch3.out⟩
          case measure => simp [intOf]; omega
        · have e0 : (o.kind == 0) = false := by simpa using k0
          have Hfo := Lib.hid hfo
          clear hb k0 hfo
          have Hk1 := Lib.hid hk1
          clear hk1
          go_wp2_with (first | (go_at_call 21; (with_reducible refine Hwr.out.mono ?_); rintro e w1 ⟨rfl, F2, ho2, hch2⟩; have hown2 := own_keep Hown.out hch2.keeps Hdj.out; have hap := hch2.apart (fun x hx => (Hown.out.lt x (by simpa using hx)).2) Hdj.out) | (go_at_call 12; (with_reducible refine (outString_any _ _ _ _ ho2).mono ?_); rintro e w2 ⟨rfl, rfl⟩) | (at_builtin; refine wpList_app1 tyInts rfl (.tmp 50) (.tmp 53) rfl _ _ _ rfl rfl hown2 rfl ?c1 ?c2 ?c3 ?c4))
          case c1 => rfl
          case c2 => omega
          case c3 => unfold maxLen; omega
          case c4 =>
          intro g' cap' w' hown' hc'
          have ho3 := ho2.keep hc'.keeps (fun x hx hx' => hap x hx' hx)
          have hdj2 : ∀ x, x ∈ [g'] → x ∉ F2 := by
            intro x hx hx2
            rcases hc'.fresh x hx with h | h
            · exact hap _ h hx2
            · have := ho2.lt _ hx2
              omega
          have hch3 := (Hk1.out.trans (chg_left hch2)).trans (chg_right hc')
          rw [← ends_succ] at hown'
          have Hown' := Lib.hid hown'
          have Hch3 := Lib.hid hch3
          have Hdj2 := Lib.hid hdj2
          have Ho3 := Lib.hid ho3
          clear hown' hch3 hdj2 ho3 hc' hap hown2 hch2
          go_wp2
          go_roundw
          case rel => exact ⟨k + 1, F2, by omega, by go_num, Hft.out Hfo.out, Ho3.out, Hown'.out, Hdj2.out, Hch3.out⟩
          case measure => simp [intOf]; omega
    · have hta : l.take k = l := List.take_of_length_le (by omega)
      rw [hta] at ho1 hfit
      obtain ⟨ead, ecap, rfl⟩ := ownsRow_shape hown
      obtain rfl : k = l.length := by omega
      clear hta
      have Hs1 := Lib.hid (outString_any _ _ _ _ ho1)
      obtain ⟨s, hs⟩ : ∃ s, s = str (wall l) := ⟨_, rfl⟩
      rw [← hs] at Hs1
      have hsd : s.data.toList = wall l := by rw [hs, str_data]
      have hss : s.size = (wall l).length := by rw [hs, str_size]
      have Hsd := Lib.hid hsd
      have Hss := Lib.hid hss
      have Hfit := Lib.hid hfit
      have hkk := hk1.keeps
      have hge := hk1.keeps.size
      have Hown := Lib.hid hown
      have hsm : s.size ≤ 140737488351232 := by omega
      have holt : ∀ x, x ∈ (Value.slice ead l.length ecap).ownBlock.toList → x < wr.heap.size := fun x hx => (hown.lt x (by simpa using hx)).2
      have Holt := Lib.hid holt
      clear hs hsd hss ho1 hk1 hfit hdj hown holt
      by_cases hcut : cut < 0 ∨ (s.size : Int) < cut
      · rcases hcut with hcut | hcut
        all_goals
          go_wp2_with (first | (go_at_call 12; (with_reducible refine Hs1.out.mono ?_); rintro e w2 ⟨rfl, rfl⟩) | (go_at_call 10; (with_reducible refine (awake_any _).mono ?_); rintro e w6 ⟨rfl, hk6⟩))
          go_ret
          exact ⟨rfl, hkk.trans hk6 (by simp)⟩
      · obtain ⟨c, rfl⟩ : ∃ c : Nat, cut = c := ⟨cut.toNat, by omega⟩
        have hcs : (c : Int) ≤ (s.size : Int) := by omega
        clear hcut
        obtain ⟨sc, hsc⟩ : ∃ sc, sc = s.extract 0 c := ⟨_, rfl⟩
        have hrd := read_any sc wr
        rw [hsc] at hrd
        have Hrd := Lib.hid hrd
        clear hrd
        go_wp2_with (first | (go_at_call 12; (with_reducible refine Hs1.out.mono ?_); rintro e w2 ⟨rfl, rfl⟩) | (go_at_call 14; (with_reducible refine Hrd.out.mono ?_); rintro e w3 ⟨rfl, hi3, hk3⟩))
        have hkb : Keeps [] wr w3 := hk3
        have hgb := hk3.size
        obtain ⟨wb, rfl⟩ : ∃ wb : World, wb = wr := ⟨_, rfl⟩
        have hscd : sc.data.toList = (wall l).take c := by rw [hsc, Lib.extract_data, Hsd.out, List.drop_zero, Nat.sub_zero]
        have hscs : sc.size = c := by rw [← dlen, hscd, List.length_take]; have := Hss.out; omega
        have Hscd := Lib.hid hscd
        have Hscs := Lib.hid hscs
        rw [← hsc] at hi3
        have hcm : c ≤ s.size := by omega
        have Hkk := Lib.hid hkk
        clear hsc hscd hscs Hs1 Hrd hkk hk3
        go_loopw [10] (fun i wr => ∃ (q : Nat), q ≤ l.length ∧ i = .int .i64 q ∧ InAt wr wb.heap.size sc (wall (l.take q)).length 0 ∧ (wall (l.take q)).length ≤ c ∧ Keeps [] wb wr) (fun i _ => l.length - (intOf i).toNat)
        case atStart => exact ⟨0, Nat.zero_le _, rfl, hi3, Nat.zero_le _, hkb⟩
        case round =>
          obtain ⟨q, hq, rfl, hi, hPc, hkq⟩ := hrel
          have hge2 := hi.lt
          by_cases hqt : q < l.length
          · obtain ⟨o, ho⟩ : ∃ o, l[q]? = some o := ⟨l[q], by simp [hqt]⟩
            have h0 : l ≠ [] := by intro h; subst h; simp at hqt
            obtain ⟨b, off, had, _, _⟩ := h2 h0
            subst had
            obtain ⟨c0, c1, c2, c3⟩ := (Hh.out.keep (Hkk.out.trans hkq (by simp)) (by simp)).cells _ _ _ _ ho rfl
            obtain ⟨g, cap0, hv, _⟩ := own_cell Hown.out (ends_get l hqt)
            have hv1 : ead = some ⟨g, 0, none⟩ ∧ ecap = cap0 := by simpa using hv
            have hv2 := hv1.1
            subst hv2
            clear hv1
            have hcE : ∀ w', Keeps [] wb w' → w'.cell? ⟨g, q, none⟩ = some (.int .i64 ((wall (l.take (q + 1))).length : Nat)) := by
              intro w' hk
              obtain ⟨g', cap', hv', hc'⟩ := own_cell (own_keep Hown.out hk (by simp)) (ends_get l hqt)
              obtain ⟨rfl, _⟩ : g = g' ∧ ecap = cap' := by simpa using hv'
              exact hc'
            have hgo := Hg.out o (List.mem_of_getElem? ho)
            have hso := Hsz.out o (List.mem_of_getElem? ho)
            have hfo : OpR.fit o := Hfit.out o (List.mem_of_getElem? ho)
            have hwt := congrArg List.length (wall_take ho)
            rw [List.length_append] at hwt
            have hdr := wall_drop ho
            have hle := wall_le (l := l) (q + 1)
            generalize (wall (l.take q)).length = P at *
            generalize hE : (wall (l.take (q + 1))).length = E at *
            have HE := Lib.hid hE
            clear hE
            have hcd : sc.data.toList.drop P = (wby o ++ wall (l.drop (q + 1))).take (c - P) := by rw [Hscd.out, ← hdr, List.drop_take]
            have hx0 := hgo.x0
            have hn0 := hgo.n0
            have hn1 := hgo.n1
            have hsc9 := Hscs.out
            have hPs : P ≤ sc.size := by omega
            have hscm : sc.size ≤ 140737488351232 := by omega
            have hi2 : InAt (wr.alloc (.cells #[.int .i64 o.kind, .int .u64 o.x, .string o.s, .int .i64 o.n] 46)) wb.heap.size sc P 0 := hi.keep ((Keeps.refl [] _).alloc _) (by simp)
            have hk2 : ∀ w', Keeps [wb.heap.size] (wr.alloc (.cells #[.int .i64 o.kind, .int .u64 o.x, .string o.s, .int .i64 o.n] 46)) w' → Keeps [] wb w' := fun w' h => (hkq.trans ((Keeps.refl [] _).alloc _) (by simp)).trans h (fun x hx => .inr (by rw [List.mem_singleton] at hx; omega))
            have Hi2 := Lib.hid hi2
            have Hk2 := Lib.hid hk2
            have HcE := Lib.hid hcE
            by_cases hEc : c < E
            · have hres : (rback sc.data.toList P 0 o).2 = 10 := by
                refine rback_part (r := (wby o).drop (c - P)) (by omega) (by omega) hfo ?_ ?_
                · rw [hcd, List.take_append_of_le_length (by omega), List.take_append_drop]
                · intro h
                  have := congrArg List.length h
                  rw [List.length_drop, List.length_nil] at this
                  omega
              have hEc' : (c : Int) < (E : Int) := by omega
              clear hgo ho hwt hdr hcd hi hi2 hk2 hkq hle hcE hv h0 h2 hsc9
              obtain ⟨kind, x, t, n⟩ := o
              dsimp only at *
              unfold rback OpR.fit at *
              dsimp only at *
              by_cases k0 : kind = 0
              · subst k0
                have e0 : ((0 : Int) == 0) = true := rfl
                rw [if_pos rfl] at hres
                have hfc := fun w' hi' => inFixed_any wb.heap.size sc P 0 w' hi' hPs hscm n
                generalize rfixed sc.data.toList P 0 n = R at *
                obtain ⟨rx, rp, re⟩ := R
                dsimp only at *
                obtain rfl : re = 10 := hres
                have Hfc := Lib.hid hfc
                clear hfc
                go_wp2_with (first | (go_at_call 28; (with_reducible refine (Hfc.out _ Hi2.out).mono ?_); rintro e w4 ⟨rfl, hi4, hk4⟩; have hk5 := Hk2.out _ hk4; have hc5 := HcE.out _ hk5) | (go_at_call 16; (with_reducible refine (inErr_any _ _ _ _ _ hi4).mono ?_); rintro e w5 ⟨rfl, rfl⟩) | (go_at_call 10; (with_reducible refine (awake_any _).mono ?_); rintro e w6 ⟨rfl, hk6⟩))
                go_ret
                exact ⟨rfl, (Hkk.out.trans hk5 (by simp)).trans hk6 (by simp)⟩
              · have e0 : (kind == 0) = false := by simpa using k0
                rw [if_neg k0] at hres
                by_cases k1 : kind = 1 ∨ kind = 4
                · rw [if_pos k1] at hres
                  have hfc := fun w' hi' => inVar_any wb.heap.size sc P 0 w' hi' hPs hscm
                  generalize rvar sc.data.toList P 0 = R at *
                  obtain ⟨rx, rp, re⟩ := R
                  dsimp only at *
                  obtain rfl : re = 10 := hres
                  have Hfc := Lib.hid hfc
                  clear hfc
                  rcases k1 with rfl | rfl
                  all_goals
                    go_wp2_with (first | (go_at_call 15; (with_reducible refine (Hfc.out _ Hi2.out).mono ?_); rintro e w4 ⟨rfl, hi4, hk4⟩; have hk5 := Hk2.out _ hk4; have hc5 := HcE.out _ hk5) | (go_at_call 16; (with_reducible refine (inErr_any _ _ _ _ _ hi4).mono ?_); rintro e w5 ⟨rfl, rfl⟩) | (go_at_call 10; (with_reducible refine (awake_any _).mono ?_); rintro e w6 ⟨rfl, hk6⟩))
                    go_ret
                    exact ⟨rfl, (Hkk.out.trans hk5 (by simp)).trans hk6 (by simp)⟩
                · have e1 : (kind == 1) = false := by simp; omega
                  have e4 : (kind == 4) = false := by simp; omega
                  rw [if_neg k1] at hres
                  by_cases k2 : kind = 2
                  · subst k2
                    rw [if_pos rfl] at hres
                    have hfc := fun w' hi' => inText_any wb.heap.size sc P 0 w' hi' hPs hscm t.size (by omega) (by omega)
                    generalize rtext sc.data.toList P 0 t.size = R at *
                    obtain ⟨rx, rp, re⟩ := R
                    dsimp only at *
                    obtain rfl : re = 10 := hres
                    have Hfc := Lib.hid hfc
                    clear hfc
                    go_wp2_with (first | (go_at_call 29; (with_reducible refine (Hfc.out _ Hi2.out).mono ?_); rintro e w4 ⟨rfl, hi4, hk4⟩; have hk5 := Hk2.out _ hk4; have hc5 := HcE.out _ hk5) | (go_at_call 16; (with_reducible refine (inErr_any _ _ _ _ _ hi4).mono ?_); rintro e w5 ⟨rfl, rfl⟩) | (go_at_call 10; (with_reducible refine (awake_any _).mono ?_); rintro e w6 ⟨rfl, hk6⟩))
                    go_ret
                    exact ⟨rfl, (Hkk.out.trans hk5 (by simp)).trans hk6 (by simp)⟩
                  · have e2 : (kind == 2) = false := by simpa using k2
                    rw [if_neg k2] at hres
                    have hfc := fun w' hi' => inRaw_any wb.heap.size sc P 0 w' hi' hPs hscm t.size
                    generalize rraw sc.data.toList P 0 t.size = R at *
                    obtain ⟨rx, rp, re⟩ := R
                    dsimp only at *
                    obtain rfl : re = 10 := hres
                    have Hfc := Lib.hid hfc
                    clear hfc
                    go_wp2_with (first | (go_at_call 30; (with_reducible refine (Hfc.out _ Hi2.out).mono ?_); rintro e w4 ⟨rfl, hi4, hk4⟩; have hk5 := Hk2.out _ hk4; have hc5 := HcE.out _ hk5) | (go_at_call 16; (with_reducible refine (inErr_any _ _ _ _ _ hi4).mono ?_); rintro e w5 ⟨rfl, rfl⟩) | (go_at_call 10; (with_reducible refine (awake_any _).mono ?_); rintro e w6 ⟨rfl, hk6⟩))
                    go_ret
                    exact ⟨rfl, (Hkk.out.trans hk5 (by simp)).trans hk6 (by simp)⟩
            · have hres : rback sc.data.toList P 0 o = (E, 0) := by
                rw [hwt]
                refine rback_good (r := (wall (l.drop (q + 1))).take (c - P - (wby o).length)) (by omega) (by omega) hfo (by rw [dlen]; omega) ?_
                rw [hcd, List.take_append, List.take_of_length_le (by omega)]
              have hEc' : (E : Int) ≤ (c : Int) := by omega
              have hEc2 : E ≤ c := by omega
              clear hgo ho hwt hdr hcd hi hi2 hk2 hkq hle hcE hv h0 h2 hsc9 hEc
              obtain ⟨kind, x, t, n⟩ := o
              dsimp only at *
              unfold rback OpR.fit at *
              dsimp only at *
              by_cases k0 : kind = 0
              · subst k0
                have e0 : ((0 : Int) == 0) = true := rfl
                rw [if_pos rfl] at hres
                have hfc := fun w' hi' => inFixed_any wb.heap.size sc P 0 w' hi' hPs hscm n
                generalize rfixed sc.data.toList P 0 n = R at *
                obtain ⟨rx, rp, re⟩ := R
                dsimp only at *
                obtain ⟨rfl, rfl⟩ : rp = E ∧ re = 0 := by simpa using hres
                have Hfc := Lib.hid hfc
                clear hfc
                go_wp2_with (first | (go_at_call 28; (with_reducible refine (Hfc.out _ Hi2.out).mono ?_); rintro e w4 ⟨rfl, hi4, hk4⟩; have hk5 := Hk2.out _ hk4; have hc5 := HcE.out _ hk5))
                have hI : ∀ n, InAt (w4.drewN n) wb.heap.size sc rp 0 := fun n => hi4.keep ((Keeps.refl [] _).drewN n) (by simp)
                go_quiet (first | (go_at_call 16; exact Calls.quiet_of_same (Calls_flip (inErr_any _ _ _ _ _ (hI _)))) | (go_at_call 17; exact Calls.quiet_of_same (Calls_flip (inAt_any _ _ _ _ _ (hI _)))))
                go_wp2_with fail
                go_roundw
                case rel => exact ⟨q + 1, by omega, by go_num, by rw [HE.out]; exact hI _, by rw [HE.out]; exact hEc2, hk5.drewN _⟩
                case measure => simp [intOf]; omega
              · have e0 : (kind == 0) = false := by simpa using k0
                rw [if_neg k0] at hres
                by_cases k1 : kind = 1 ∨ kind = 4
                · rw [if_pos k1] at hres
                  have hfc := fun w' hi' => inVar_any wb.heap.size sc P 0 w' hi' hPs hscm
                  generalize rvar sc.data.toList P 0 = R at *
                  obtain ⟨rx, rp, re⟩ := R
                  dsimp only at *
                  obtain ⟨rfl, rfl⟩ : rp = E ∧ re = 0 := by simpa using hres
                  have Hfc := Lib.hid hfc
                  clear hfc
                  rcases k1 with rfl | rfl
                  all_goals
                    go_wp2_with (first | (go_at_call 15; (with_reducible refine (Hfc.out _ Hi2.out).mono ?_); rintro e w4 ⟨rfl, hi4, hk4⟩; have hk5 := Hk2.out _ hk4; have hc5 := HcE.out _ hk5))
                    have hI : ∀ n, InAt (w4.drewN n) wb.heap.size sc rp 0 := fun n => hi4.keep ((Keeps.refl [] _).drewN n) (by simp)
                    go_quiet (first | (go_at_call 16; exact Calls.quiet_of_same (Calls_flip (inErr_any _ _ _ _ _ (hI _)))) | (go_at_call 17; exact Calls.quiet_of_same (Calls_flip (inAt_any _ _ _ _ _ (hI _)))))
                    go_wp2_with fail
                    go_roundw
                    case rel => exact ⟨q + 1, by omega, by go_num, by rw [HE.out]; exact hI _, by rw [HE.out]; exact hEc2, hk5.drewN _⟩
                    case measure => simp [intOf]; omega
                · have e1 : (kind == 1) = false := by simp; omega
                  have e4 : (kind == 4) = false := by simp; omega
                  rw [if_neg k1] at hres
                  by_cases k2 : kind = 2
                  · subst k2
                    rw [if_pos rfl] at hres
                    have hfc := fun w' hi' => inText_any wb.heap.size sc P 0 w' hi' hPs hscm t.size (by omega) (by omega)
                    generalize rtext sc.data.toList P 0 t.size = R at *
                    obtain ⟨rx, rp, re⟩ := R
                    dsimp only at *
                    obtain ⟨rfl, rfl⟩ : rp = E ∧ re = 0 := by simpa using hres
                    have Hfc := Lib.hid hfc
                    clear hfc
                    go_wp2_with (first | (go_at_call 29; (with_reducible refine (Hfc.out _ Hi2.out).mono ?_); rintro e w4 ⟨rfl, hi4, hk4⟩; have hk5 := Hk2.out _ hk4; have hc5 := HcE.out _ hk5))
                    have hI : ∀ n, InAt (w4.drewN n) wb.heap.size sc rp 0 := fun n => hi4.keep ((Keeps.refl [] _).drewN n) (by simp)
                    go_quiet (first | (go_at_call 16; exact Calls.quiet_of_same (Calls_flip (inErr_any _ _ _ _ _ (hI _)))) | (go_at_call 17; exact Calls.quiet_of_same (Calls_flip (inAt_any _ _ _ _ _ (hI _)))))
                    go_wp2_with fail
                    go_roundw
                    case rel => exact ⟨q + 1, by omega, by go_num, by rw [HE.out]; exact hI _, by rw [HE.out]; exact hEc2, hk5.drewN _⟩
                    case measure => simp [intOf]; omega
                  · have e2 : (kind == 2) = false := by simpa using k2
                    rw [if_neg k2] at hres
                    have hfc := fun w' hi' => inRaw_any wb.heap.size sc P 0 w' hi' hPs hscm t.size
                    generalize rraw sc.data.toList P 0 t.size = R at *
                    obtain ⟨rx, rp, re⟩ := R
                    dsimp only at *
                    obtain ⟨rfl, rfl⟩ : rp = E ∧ re = 0 := by simpa using hres
                    have Hfc := Lib.hid hfc
                    clear hfc
                    go_wp2_with (first | (go_at_call 30; (with_reducible refine (Hfc.out _ Hi2.out).mono ?_); rintro e w4 ⟨rfl, hi4, hk4⟩; have hk5 := Hk2.out _ hk4; have hc5 := HcE.out _ hk5))
                    have hI : ∀ n, InAt (w4.drewN n) wb.heap.size sc rp 0 := fun n => hi4.keep ((Keeps.refl [] _).drewN n) (by simp)
                    go_quiet (first | (go_at_call 16; exact Calls.quiet_of_same (Calls_flip (inErr_any _ _ _ _ _ (hI _)))) | (go_at_call 17; exact Calls.quiet_of_same (Calls_flip (inAt_any _ _ _ _ _ (hI _)))))
                    go_wp2_with fail
                    go_roundw
                    case rel => exact ⟨q + 1, by omega, by go_num, by rw [HE.out]; exact hI _, by rw [HE.out]; exact hEc2, hk5.drewN _⟩
                    case measure => simp [intOf]; omega
          · have hta : l.take q = l := List.take_of_length_le (by omega)
            rw [hta] at hi hPc
            clear hta
            have hge2 := hi.lt
            generalize (wall l).length = P at *
            have hscs := Hscs.out
            have hw : IntKind.i64.wrap ((c : Int) - (P : Int)) = ((c - P : Nat) : Int) := by rw [IntWalk.i64_in _ ⟨by omega, by omega⟩]; omega
            have hlf := inLeft_any wb.heap.size sc P 0 wr hi (by omega) (by omega)
            rw [hscs] at hlf
            have Hlf := Lib.hid hlf
            have hI : ∀ n, InAt (wr.drewN n) wb.heap.size sc P 0 := fun n => hi.keep ((Keeps.refl [] _).drewN n) (by simp)
            clear hlf hscs
            go_wp2_with (first | (go_at_call 26; (with_reducible refine Hlf.out.mono ?_); rintro e w5 ⟨rfl, n5, rfl⟩) | (go_at_call 17; (with_reducible refine (inAt_any _ _ _ _ _ (hI _)).mono ?_); rintro e w5 ⟨rfl, rfl⟩) | (go_at_call 10; (with_reducible refine (awake_any _).mono ?_); rintro e w6 ⟨rfl, hk6⟩))
            go_ret
            exact ⟨rfl, ((Hkk.out.trans hkq (by simp)).drewN _).trans hk6 (by simp)⟩

theorem walk_any (l : List OpR) (cut : Int) (v : Value) (G : List Nat) (w : World) (hg : ∀ o, o ∈ l → o.good) (h : OpsAt w v l G) (hG : ∀ k, k ∈ G → k < w.heap.size) (hl : l.length ≤ 9223372036854775807) :
    Calls Try.prog 7 #[v, .int .i64 cut] w fun e w' => e = .returned (.bool true) ∧ Keeps [] w w' := by
  cases hf : fewB l
  · have Hf := Lib.hid (few_any l w v G h hl)
    rw [hf] at Hf
    clear h hf
    go_enter Try.func7, Try.ntmps7
    go_wp2_with (first | (go_at_call 20; (with_reducible refine Hf.out.mono ?_); rintro e w5 ⟨rfl, rfl⟩) | (go_at_call 10; (with_reducible refine (awake_any _).mono ?_); rintro e w6 ⟨rfl, hk6⟩))
    go_ret
    exact ⟨rfl, hk6⟩
  · exact walk l cut v G w hg h hG hf
-- ROWEND
set_option maxRecDepth 100000 in
theorem lifted (os : Os) (started : os.Started) (H : Type) (enc : TypeId × Value → H) :
    ReturnsInHanded {} Try.checked os 7 .any (Rows.wireCutSpec.pre6 enc Try.prog Try.f7 Rows.wireCutRow.domain false) (Rows.wireCutSpec.post enc Try.prog Try.f7 false true false false) := by
  refine returnsInHanded_of_change (C := Try.checked) Try.own started (by kernel_rfl) Try.func7
    (ChangeSpec.witness6 (enc := enc) (C := Try.checked) false ⟨#[], #[.slice none 0 0, .int .i64 0], []⟩ 8 (by kernel_rfl) (by kernel_rfl) (by kernel_rfl) (by kernel_rfl)) ?_
  intro W base args ds gs before hval0 hW _ _
  have hval : ∀ (j : Nat) t v, Try.f7.params[j]? = some t → args[j]? = some v → Value.okWide Try.prog W .any base t v := hval0
  have hW' := hW
  obtain ⟨p, q, hA0, hV, rfl, hfz, hnd⟩ := hW
  have hA : DataW.TrodAll enc Try.prog W 0 (fun _ => true) true Try.f7.params.toList args.toList ds p := hA0
  rw [Try.params7] at hA hval
  obtain ⟨v0, vs0, d0, ds0, p0, q0, hargs, rfl, rfl, h0, r0⟩ := trodAll_cons hA
  obtain ⟨v1, vs1, d1, ds1, p1, q1, rfl, rfl, rfl, h1, r1⟩ := trodAll_cons r0
  obtain ⟨rfl, rfl, rfl⟩ := trodAll_nil r1
  obtain rfl : args = #[v0, v1] := by cases args; simp_all
  obtain ⟨l, Gl, hl, gl, bl, ll⟩ := open_rows OpR.vals OpR.good 4 (by kernel_rfl) (by decide) Try.underlying41 (hval 0 41 v0 rfl rfl) (fun _ _ _ h => elem_op h) h0
  obtain ⟨c, rfl, rfl, rfl, wc⟩ := open_int Try.underlying3 (hval 1 3 v1 rfl rfl) h1
  obtain ⟨wc0, wc1⟩ := wf_i64 wc
  refine (walk_any l c v0 Gl W gl hl bl ll).mono fun e W' ⟨he, hk⟩ => ?_
  subst he
  exact ⟨_, rfl, law_end Try.laidOut (by kernel_rfl) rfl rfl Try.underlying4 hW' rfl hk⟩

theorem proved : Rows.WireCutSaid :=
  OpenClaim.holds_of_wide 7 Try.f7 rfl rfl rfl rfl rfl rfl rfl ⟨rfl, rfl, rfl, rfl, rfl⟩ rfl rfl rfl rfl rfl (by kernel_rfl) Try.func7 (by kernel_rfl)
    (of_decide_eq_true (by kernel_rfl)) (by unfold Func.isWrapper; first | (rw [if_pos (by decide +kernel)]; kernel_rfl) | (rw [if_neg (by decide +kernel)]; exact ⟨rfl, rfl⟩))
    (fun os started H enc _ => lifted os started H enc)
end Go.Proofs.Ytcakgmnhipbmhaa.lawWireCut
