/- lighterlaw05.BucketLists, whatever its input: true, and the input reads as it did. List of what names begin with is those of all names that do. Conditions: the tied card's. -/
import Derived.Test.YtflgagglkkehiaaDoorBkL
import Derived.Test.YtflgagglkkehiaaDoorBkX
import Derived.Sort.Walk0
import Derived.Laws.Cover1
import Derived.Test.YtflgagglkkehiaaDoorCards
import Derived.Test.YtflgagglkkehiaaDoorTie
import Derived.SevenTiedAt
namespace Go.Proofs.YtflgagglkkehiaaDoor.lawBucketLists
open Go.ChangeShapes Go.WideShapes Go.ChangeAt Go.RowKit
open Go.ChangeMaps (open_string shut_string)

def runL (b : Bk) (l : List OpR) : Bk := l.foldl (fun b o => if o.ask = 5 then b else (b.doO o).2) b
theorem runL_snoc (b : Bk) (l : List OpR) (o : OpR) : runL b (l ++ [o]) = if o.ask = 5 then runL b l else ((runL b l).doO o).2 := by
  unfold runL
  rw [List.foldl_append]
  rfl
theorem act_f0 (b : Bk) (c : Cl) (h : b.f = []) : (b.act c).2.f = [] := by rw [Bk.act_fates]; exact h
theorem does_f0 (b : Bk) (c : Cl) (h : b.f = []) : (b.does c).2.f = [] := by
  have ht : b.tick.f = [] := by unfold Bk.tick; rw [h]; rfl
  unfold Bk.does
  repeat' split
  · exact act_f0 _ _ ht
  · exact act_f0 _ _ ht
  · exact ht
  · exact ht
theorem land_f0 (l : List Cl) : ∀ b : Bk, b.f = [] → (landF b l).f = [] := by
  induction l with
  | nil => intro b h; exact h
  | cons c r ih => intro b h; exact ih _ (act_f0 b c h)
theorem doO_f0 (b : Bk) (o : OpR) (h : b.f = []) (ho : o.ask ≠ 5) : (b.doO o).2.f = [] := by
  have ht : b.tick.f = [] := by unfold Bk.tick; rw [h]; rfl
  unfold Bk.doO
  split
  · show (b.put' _ _).2.f = []
    unfold Bk.put'
    split
    · exact does_f0 _ _ h
    · exact h
  split
  · show (b.get2 _ _ _).f = []
    unfold Bk.get2
    split
    · exact ht
    · exact h
  split
  · show (b.size2 _).f = []
    unfold Bk.size2
    split
    · exact ht
    · exact h
  split
  · exact ht
  split
  · show (b.del' _).2.f = []
    unfold Bk.del'
    split
    · exact does_f0 _ _ h
    · exact h
  split
  · exact land_f0 _ _ h
  · exact h
theorem runL_from : ∀ (l : List OpR) (b : Bk) (N : Nat), b.f = [] → b.ok N → (∀ o, o ∈ l → o.L.length ≤ 20 ∧ ∀ x, x ∈ o.L → i64R x) → (runL b l).f = [] ∧ (runL b l).ok (N + l.length)
  | [], b, N, h1, h2, _ => ⟨h1, h2⟩
  | o :: r, b, N, h1, h2, h => by
    have ho := h o (by simp)
    have hr : ∀ o, o ∈ r → o.L.length ≤ 20 ∧ ∀ x, x ∈ o.L → i64R x := fun o hx => h o (List.mem_cons_of_mem _ hx)
    show (runL (if o.ask = 5 then b else (b.doO o).2) r).f = [] ∧ (runL (if o.ask = 5 then b else (b.doO o).2) r).ok (N + (r.length + 1))
    rw [show N + (r.length + 1) = (N + 1) + r.length by omega]
    by_cases h5 : o.ask = 5
    · rw [if_pos h5]; exact runL_from r b (N + 1) h1 (h2.mono (by omega)) hr
    · rw [if_neg h5]; exact runL_from r _ (N + 1) (doO_f0 b o h1 h5) (h2.doO o ho.1 ho.2) hr
theorem runL_spec (q : Nat) (hq : q ≤ 9223372036854775807) (l : List OpR) (h : ∀ o, o ∈ l → o.L.length ≤ 20 ∧ ∀ x, x ∈ o.L → i64R x) : (runL (newB q) l).f = [] ∧ (runL (newB q) l).ok l.length := by
  have := runL_from l (newB q) 0 rfl (newB_ok q hq 0) h
  rwa [Nat.zero_add] at this
theorem tick_f0 (b : Bk) (h : b.f = []) : b.tick = b := by unfold Bk.tick; rw [h]; cases b; simp at h; subst h; rfl
theorem list_f0 (b : Bk) (h : b.f = []) (t : Bs) : b.list t = ((keysO b.m).filter (fun s => t.isPrefixOf s), 0) := by
  unfold Bk.list Bk.fate
  rw [h]
  rfl

set_option maxHeartbeats 4000000 in
set_option maxRecDepth 100000 in
theorem walk_out (l : List OpR) (v : Value) (G : List Nat) (t : Bs) (w : World) (hv : SlRows w v OpR.vals 6 l G) (hg : ∀ o, o ∈ l → o.good w) (hl : l.length ≤ 9223372036854775807) (h : ¬ (few l = true ∧ t.length ≤ 70)) :
    Calls Tryd.prog 6 #[v, .string (str t)] w fun e w' => e = .returned (.bool true) ∧ Keeps [] w w' := by
  have N : Hid (Calls Tryd.prog 11 #[.int .i64 2000] w fun e w' => ∃ p, e = .returned (.tuple #[.pointer (some ⟨p, 0, none⟩), .int .i64 0]) ∧ Mine w w' p (newB 2000)) := m_new (w0 := w) (w := w) 2000 (by omega) (Keeps.refl _ _)
  have Aw := Lib.hid awake_any
  have Fe := Lib.hid (show ∀ w', Keeps [] w w' → _ from fun w' k => few_any l v G w' (hv.keep k (by simp)) (fun o ho => (hg o ho).newer k) hl)
  clear hv hg
  by_cases h1 : few l = true
  · have hlt : decide ((70 : Int) < (t.length : Int)) = true := decide_eq_true (by
      by_cases h2 : t.length ≤ 70
      · exact absurd ⟨h1, h2⟩ h
      · omega)
    rw [h1] at Fe
    clear h h1
    go_enter Tryd.func6, Tryd.ntmps6
    go_wp2_with (first
      | (go_at_call 11; (with_reducible refine (N.out).mono ?_); rintro e w1 ⟨p, rfl, m1⟩)
      | (go_at_call 20; (with_reducible refine (Fe.out _ m1.keeps).mono ?_); rintro e w2 ⟨rfl, k2⟩)
      | (go_at_call 12; (with_reducible refine (Aw.out _).mono ?_); rintro e w9 ⟨rfl, k9⟩))
    go_ret
    exact ⟨rfl, m1.keeps.trans (k2.trans k9 (by simp)) (by simp)⟩
  · have h2 : few l = false := Bool.eq_false_iff.2 h1
    rw [h2] at Fe
    clear h h1 h2
    go_enter Tryd.func6, Tryd.ntmps6
    go_wp2_with (first
      | (go_at_call 11; (with_reducible refine (N.out).mono ?_); rintro e w1 ⟨p, rfl, m1⟩)
      | (go_at_call 20; (with_reducible refine (Fe.out _ m1.keeps).mono ?_); rintro e w2 ⟨rfl, k2⟩)
      | (go_at_call 12; (with_reducible refine (Aw.out _).mono ?_); rintro e w9 ⟨rfl, k9⟩))
    go_ret
    exact ⟨rfl, m1.keeps.trans (k2.trans k9 (by simp)) (by simp)⟩

set_option maxHeartbeats 8000000 in
set_option maxRecDepth 100000 in
theorem walk (l : List OpR) (v : Value) (G : List Nat) (t : Bs) (w : World) (hv : SlRows w v OpR.vals 6 l G) (hg : ∀ o, o ∈ l → o.good w) (hfew : few l = true) (ht : t.length ≤ 70) :
    Calls Tryd.prog 6 #[v, .string (str t)] w fun e w' => e = .returned (.bool true) ∧ Keeps [] w w' := by
  have hz := str_empty
  obtain ⟨hl60, hsp⟩ := few_spec hfew
  have N : Hid (Calls Tryd.prog 11 #[.int .i64 2000] w fun e w' => ∃ p, e = .returned (.tuple #[.pointer (some ⟨p, 0, none⟩), .int .i64 0]) ∧ Mine w w' p (newB 2000)) := m_new (w0 := w) (w := w) 2000 (by omega) (Keeps.refl _ _)
  have Aw := Lib.hid awake_any
  have Fe := Lib.hid (show ∀ w', Keeps [] w w' → _ from fun w' k => few_any l v G w' (hv.keep k (by simp)) (fun o ho => (hg o ho).newer k) (by omega))
  rw [hfew] at Fe
  have Hrs := Lib.hid (runL_spec 2000 (by omega) l (fun o ho => ⟨(hsp o ho).2.2, (hg o ho).L⟩))
  have Hrk := Lib.hid (fun k => runL_spec 2000 (by omega) (l.take k) (fun o ho => ⟨(hsp o (List.mem_of_mem_take ho)).2.2, (hg o (List.mem_of_mem_take ho)).L⟩))
  have Hv := Lib.hid hv
  have Hg := Lib.hid hg
  have Hsp := Lib.hid hsp
  obtain ⟨ad, cap, rfl, _⟩ := hv
  have hlt : decide ((70 : Int) < (t.length : Int)) = false := decide_eq_false (by omega)
  clear hg hfew hsp
  go_enter Tryd.func6, Tryd.ntmps6
  go_wp2_with (first
    | (go_at_call 11; (with_reducible refine (N.out).mono ?_); rintro e w1 ⟨p, rfl, m1⟩)
    | (go_at_call 20; (with_reducible refine (Fe.out _ m1.keeps).mono ?_); rintro e w2 ⟨rfl, k2⟩))
  have m2 := m1.newer k2
  clear m1 k2
  go_loopw [7] (fun iv wr => ∃ k : Nat, k ≤ l.length ∧ iv = .int .i64 k ∧ Mine w wr p (runL (newB 2000) (l.take k))) (fun iv _ => l.length - (intOf iv).toNat)
  case atStart => exact ⟨0, Nat.zero_le _, rfl, m2⟩
  case round =>
    obtain ⟨k, hk, rfl, mk⟩ := hrel
    clear m2
    have hkk := mk.keeps
    by_cases hlk : k < l.length
    · obtain ⟨o, ho⟩ : ∃ o, l[k]? = some o := ⟨l[k], by simp [hlk]⟩
      obtain ⟨b, off, rfl, _, hc⟩ := Hv.out.at ho
      have hmem := List.mem_of_getElem? ho
      have hgd := (Hg.out o hmem).newer hkk
      have hra : wr.rangeAt b (off + k * 6) o.vals := fun j u hj => hkk.cell0 (hc j u hj)
      have hc0 : wr.cell? ⟨b, off + k * 6, none⟩ = some (.int .i64 o.ask) := hra 0 _ rfl
      have hst : l.take (k + 1) = l.take k ++ [o] := by rw [List.take_add_one, ho]; rfl
      have hok := (Hrk.out k).2.mono (M := 60) (by rw [List.length_take]; omega)
      have hnx := runL_snoc (newB 2000) (l.take k) o
      rw [← hst] at hnx
      generalize runL (newB 2000) (l.take k) = bk at *
      have Hdo := Lib.hid (m_do mk hok (by omega) o hgd (Hsp.out o hmem).2.2)
      have hki : (k : Int) < (l.length : Int) := by omega
      have hki0 : (0 : Int) ≤ (k : Int) := by omega
      have hso : (Tryd.prog.info? 42).map (·.size) = some o.vals.length := sizeOp
      have Hso := Lib.hid hso
      have Hra := Lib.hid hra
      have Hnx := Lib.hid hnx
      have Mk := Lib.hid mk
      clear hc hra hso hnx mk hok hst ho hgd hkk
      by_cases h5 : o.ask = 5
      · rw [if_pos h5] at Hnx
        have hb5 : (o.ask != 5) = false := by rw [h5]; rfl
        go_wp2
        go_roundw
        case rel => exact ⟨k + 1, by omega, by go_num, by rw [Hnx.out]; exact Mk.out⟩
        case measure => simp [intOf]; omega
      · rw [if_neg h5] at Hnx
        have hb5 : (o.ask != 5) = true := bne_iff_ne.2 h5
        go_wp2_with (first
          | ((with_reducible refine wpList_run (w' := wr) (o := ⟨some 60, _, _, _, _, _⟩) ?_ (.agg o.vals.toArray) ?_ ?_); exact rfl; exact exec_load wr 42 b (off + k * 6) o.vals _ Hra.out Tryd.underlying42 rfl Hso.out _ _ (.tmp 59) rfl rfl)
          | (go_at_call 21; (with_reducible refine (Hdo.out).mono ?_); rintro e w3 ⟨lv, rfl, _, m3⟩))
        go_roundw
        case rel => exact ⟨k + 1, by omega, by go_num, by rw [Hnx.out]; exact m3⟩
        case measure => simp [intOf]; omega
    · obtain rfl : k = l.length := by omega
      rw [List.take_length] at mk
      obtain ⟨hf0, hok⟩ := Hrs.out
      have hls : ∀ t, (runL (newB 2000) l).list t = ((keysO (runL (newB 2000) l).m).filter (fun s => t.isPrefixOf s), 0) := fun t => list_f0 _ hf0 t
      have htk := tick_f0 _ hf0
      have hkl : (keysO (runL (newB 2000) l).m).length ≤ 60 := by have := hok.few; unfold keysO; rw [List.length_map]; omega
      have hsrt := hok.srt
      generalize runL (newB 2000) l = bk at *
      obtain ⟨F, hb, hF, hkw⟩ := mk
      have Hna := Lib.hid (names_any p bk F wr hb hok.srt (by have := hok.few; omega))
      have hl1 := fun w' (h : BkAt w' p bk F) => blist_any p bk F w' h l.length hok (by omega) []
      have hl2 := fun w' (h : BkAt w' p bk F) => blist_any p bk F w' h l.length hok (by omega) t
      rw [hls, htk] at hl1 hl2
      have hall : (keysO bk.m).filter (fun s => ([] : Bs).isPrefixOf s) = keysO bk.m := by
        rw [List.filter_eq_self]
        intro a _
        rfl
      rw [hall] at hl1
      have hKs : (keysO bk.m).Pairwise (fun a b => bytesBefore a b = true) := by
        unfold keysO
        rw [List.pairwise_map]
        exact hsrt
      have hml : bk.m.length = (keysO bk.m).length := by unfold keysO; rw [List.length_map]
      rw [hml] at Hna
      generalize keysO bk.m = K at *
      have Hl1 := Lib.hid hl1
      have Hl2 := Lib.hid hl2
      have Hb := Lib.hid hb
      have HKs := Lib.hid hKs
      have HF := Lib.hid hF
      have Hkw := Lib.hid hkw
      have hlt' := hb.lt
      have Hlt := Lib.hid hlt'
      clear hl1 hl2 hb hKs hF hkw hls htk hok hf0 hall hml hsrt hkk hlk hlt'
      go_wp2_with (first
        | (go_at_call 22; (with_reducible refine (Hna.out).mono ?_); rintro e w8 ⟨v8, rfl, hr8, hn8, k8⟩; obtain ⟨a8, c8, rfl⟩ := ownsRow_shape hr8; have hb8 := Hb.out.newer k8)
        | (go_at_call 23; (with_reducible refine (Hl2.out _ hb9).mono ?_); rintro e w4 ⟨v11, rfl, hr11, hn11, hb11, k11⟩; obtain ⟨a11, c11, rfl⟩ := ownsRow_shape hr11)
        | (go_at_call 23; (with_reducible refine (Hl1.out _ hb8).mono ?_); rintro e w9 ⟨v9, rfl, hr9, hn9, hb9, k9⟩; obtain ⟨a9, c9, rfl⟩ := ownsRow_shape hr9))
      have hd8 : ∀ x, x ∈ (Value.slice a8 K.length c8).ownBlock.toList → x ∉ F := fun x hx h => by have := hn8 x hx; have := Hlt.out x h; omega
      have hd9 : ∀ x, x ∈ (Value.slice a9 K.length c9).ownBlock.toList → x ∉ F := fun x hx h => by have := hn9 x hx; have := Hlt.out x h; have := k8.size; omega
      have s8 := ((SlAt.own' hr8).keep k9.keeps hd8).keep k11.keeps hd8
      have s9 := (SlAt.own' hr9).keep k11.keeps hd9
      have s11 := SlAt.own' hr11
      have k4 : Keeps [] w w4 := ((Hkw.out.trans k8 (by simp)).trans k9.keeps (fun x hx => .inr (HF.out x hx))).trans k11.keeps (fun x hx => .inr (HF.out x hx))
      have S8 := Lib.hid s8
      have S9 := Lib.hid s9
      have S11 := Lib.hid s11
      have K4 := Lib.hid k4
      clear hr8 hn8 k8 hb8 hr9 hn9 hb9 k9 hr11 hn11 hb11 k11 s8 s9 s11 k4 hd8 hd9
      go_loopw [14, 13] (fun iv ov wr => ∃ k : Nat, k ≤ K.length ∧ iv = .int .i64 k ∧ wr.ownsRow 0 9 1 ov ((K.take k).filter (fun s => t.isPrefixOf s)).length (((K.take k).filter (fun s => t.isPrefixOf s)).map strV) ∧ (∀ x, x ∈ ov.ownBlock.toList → w4.heap.size ≤ x) ∧ Keeps [] w4 wr) (fun iv _ _ => K.length - (intOf iv).toNat)
      case atStart => exact ⟨0, Nat.zero_le _, rfl, World.ownsRow_nil _ _ _ _, by simp [Value.ownBlock], Keeps.refl [] _⟩
      case round =>
        obtain ⟨k, hk, rfl, hrow, hfr, hkk⟩ := hrel
        obtain ⟨wz, hwz⟩ : ∃ wz : World, wz = wr := ⟨_, rfl⟩
        by_cases hlk : k < K.length
        · obtain ⟨s, hs⟩ : ∃ s, K[k]? = some s := ⟨K[k], by simp [hlk]⟩
          obtain ⟨ad', cap', e1, hc⟩ := S8.out
          obtain ⟨g, off, rfl, _, hcell⟩ := hc (by intro h0; rw [List.map_eq_nil_iff] at h0; rw [h0] at hlk; simp at hlk)
          obtain rfl : a8 = some ⟨g, off, none⟩ := by injection e1
          have hs8 : (K.map strV)[k]? = some (strV s) := by rw [List.getElem?_map, hs]; rfl
          have c0 := hkk.cell0 (hcell k (strV s) hs8)
          unfold strV at c0
          have hst : K.take (k + 1) = K.take k ++ [s] := by rw [List.take_add_one, hs]; rfl
          have hki : (k : Int) < (K.length : Int) := by omega
          have hki0 : (0 : Int) ≤ (k : Int) := by omega
          have hfl : ((K.take k).filter (fun s => t.isPrefixOf s)).length ≤ 60 := Nat.le_trans (List.length_filter_le _ _) (by rw [List.length_take]; omega)
          have hnx : (K.take (k + 1)).filter (fun s => t.isPrefixOf s) = (K.take k).filter (fun s => t.isPrefixOf s) ++ (if t.isPrefixOf s then [s] else []) := by
            rw [hst, List.filter_append]
            congr 1
            by_cases hp : t.isPrefixOf s = true <;> simp [hp]
          obtain ⟨oad, ocap, rfl⟩ := ownsRow_shape hrow
          generalize (K.take k).filter (fun s => t.isPrefixOf s) = Lx at *
          have Hrow := Lib.hid hrow
          have Hfr := Lib.hid hfr
          have Hkk := Lib.hid hkk
          have Hfl := Lib.hid hfl
          have Hnx := Lib.hid hnx
          have Hc8 := Lib.hid hcell
          have Hs8 := Lib.hid hs8
          have Hs := Lib.hid hs
          clear hrow hfr hfl hnx hst hs hc hcell e1 hs8
          rcases Nat.eq_zero_or_pos k with hk0 | hk0
          · have hpos : decide ((0 : Int) < (k : Int)) = false := decide_eq_false (by omega)
            have hpos2 : decide (0 < k) = false := decide_eq_false (by omega)
            clear hkk hk0
            rcases (show s.length < t.length ∨ (t.length ≤ s.length ∧ s.take t.length = t) ∨ (t.length ≤ s.length ∧ ¬ s.take t.length = t) by by_cases h : s.take t.length = t <;> simp [h] <;> omega) with hq | ⟨hq, hq2⟩ | ⟨hq, hq2⟩
            · have hge : decide ((t.length : Int) ≤ (s.length : Int)) = false := decide_eq_false (by omega)
              have hge2 : decide (t.length ≤ s.length) = false := decide_eq_false (by omega)
              have hp : t.isPrefixOf s = false := Bool.eq_false_iff.2 (fun h => by have := (List.isPrefixOf_iff_prefix.1 h).length_le; omega)
              rw [hp] at Hnx
              rw [if_neg (by simp), List.append_nil] at Hnx
              clear hp
              go_wp2
              go_quiet (fail)
              go_wp2
              go_roundw
              case rel => exact ⟨k + 1, by omega, by go_num, by rw [Hnx.out]; exact Hrow.out, Hfr.out, (by first | exact Hkk.out | exact Hkk.out.drew | exact Hkk.out.drewN _)⟩
              case measure => simp [intOf]; omega
            · have hge : decide ((t.length : Int) ≤ (s.length : Int)) = true := decide_eq_true (by omega)
              have hge2 : decide (t.length ≤ s.length) = true := decide_eq_true (by omega)
              have hp : t.isPrefixOf s = true := List.isPrefixOf_iff_prefix.2 (List.prefix_iff_eq_take.2 hq2.symm)
              have hex : (str s).extract 0 t.length = str t := by rw [str_extract, str_data, List.drop_zero, Nat.sub_zero, hq2]
              rw [hp] at Hnx
              rw [if_pos rfl] at Hnx
              clear hp hq2
              go_wp2_with (first
                | (at_builtin; refine wpList_app1 tyStrs rfl (.tmp 100) (.tmp 105) rfl _ _ _ rfl rfl Hrow.out rfl ?c1 ?c2 ?c3 ?c4)
                | go_in)
              case c1 => rfl
              case c2 => have := Hfl.out; omega
              case c3 => have := Hfl.out; unfold maxLen; omega
              case c4 =>
              intro g' cap' w' hown' hc'
              have Hown3 : Hid (w'.ownsRow 0 9 1 (.slice (some ⟨g', 0, none⟩) (Lx.length + 1) cap') (Lx ++ [s]).length ((Lx ++ [s]).map strV)) := by
                rw [List.length_append, List.length_singleton, List.map_append]
                exact hown'
              have hk' : Keeps [] w4 w' := Hkk.out.trans hc'.keeps (fun x hx => .inr (Hfr.out x hx))
              have Hfr' : Hid (∀ x, x ∈ (Value.slice (some ⟨g', 0, none⟩) (Lx.length + 1) cap').ownBlock.toList → w4.heap.size ≤ x) := fun x hx => (hc'.fresh x hx).elim (Hfr.out x) (fun h => Nat.le_trans Hkk.out.size h)
              have Hk' := Lib.hid hk'
              have d0 := hk'.cell0 (Hc8.out k (strV s) Hs8.out)
              unfold strV at d0
              clear hown' hc' hk'
              go_wp2
              go_quiet (fail)
              go_wp2
              go_roundw
              case rel => exact ⟨k + 1, by omega, by go_num, by rw [Hnx.out]; exact Hown3.out, Hfr'.out, (by first | exact Hk'.out | exact Hk'.out.drew | exact Hk'.out.drewN _)⟩
              case measure => simp [intOf]; omega
            · have hge : decide ((t.length : Int) ≤ (s.length : Int)) = true := decide_eq_true (by omega)
              have hge2 : decide (t.length ≤ s.length) = true := decide_eq_true (by omega)
              have hp : t.isPrefixOf s = false := Bool.eq_false_iff.2 (fun h => hq2 (List.prefix_iff_eq_take.1 (List.isPrefixOf_iff_prefix.1 h)).symm)
              have hex : (str s).extract 0 t.length = str (s.take t.length) := by rw [str_extract, str_data, List.drop_zero, Nat.sub_zero]
              have hne : (s.take t.length == t) = false := beq_eq_false_iff_ne.2 hq2
              rw [hp] at Hnx
              rw [if_neg (by simp), List.append_nil] at Hnx
              clear hp
              go_wp2
              go_quiet (fail)
              go_wp2
              go_roundw
              case rel => exact ⟨k + 1, by omega, by go_num, by rw [Hnx.out]; exact Hrow.out, Hfr.out, (by first | exact Hkk.out | exact Hkk.out.drew | exact Hkk.out.drewN _)⟩
              case measure => simp [intOf]; omega
          · obtain ⟨j, hj⟩ : ∃ j, k = j + 1 := ⟨k - 1, by omega⟩
            obtain ⟨s0, hs0⟩ : ∃ s0, K[j]? = some s0 := ⟨K[j]'(by omega), by simp⟩
            have hj8 : (K.map strV)[j]? = some (strV s0) := by rw [List.getElem?_map, hs0]; rfl
            have cj := hkk.cell0 (Hc8.out j (strV s0) hj8)
            unfold strV at cj
            have hpos : decide ((0 : Int) < (k : Int)) = true := decide_eq_true (by omega)
            have hpos2 : decide (0 < k) = true := decide_eq_true (by omega)
            have hw : IntKind.i64.wrap ((k : Int) - 1) = (j : Int) := by rw [IntWalk.i64_in _ ⟨by omega, by omega⟩]; omega
            have hji : (j : Int) < (K.length : Int) := by omega
            have hji0 : (0 : Int) ≤ (j : Int) := by omega
            have hless : Op.bytesLess s0 s = true := by
              have h1 := List.pairwise_iff_getElem.1 HKs.out j k (by omega) hlk (by omega)
              rw [bb_lt] at h1
              rw [bytesLess_eq]
              have e1 : K[j]'(by omega) = s0 := (List.getElem?_eq_some_iff.1 hs0).2
              have e2 : K[k]'hlk = s := (List.getElem?_eq_some_iff.1 Hs.out).2
              rw [e1, e2] at h1
              exact h1
            have Hj8 := Lib.hid hj8
            have Hj := Lib.hid hj
            clear hkk hj8 hs0 hj hk0
            rcases (show s.length < t.length ∨ (t.length ≤ s.length ∧ s.take t.length = t) ∨ (t.length ≤ s.length ∧ ¬ s.take t.length = t) by by_cases h : s.take t.length = t <;> simp [h] <;> omega) with hq | ⟨hq, hq2⟩ | ⟨hq, hq2⟩
            · have hge : decide ((t.length : Int) ≤ (s.length : Int)) = false := decide_eq_false (by omega)
              have hge2 : decide (t.length ≤ s.length) = false := decide_eq_false (by omega)
              have hp : t.isPrefixOf s = false := Bool.eq_false_iff.2 (fun h => by have := (List.isPrefixOf_iff_prefix.1 h).length_le; omega)
              rw [hp] at Hnx
              rw [if_neg (by simp), List.append_nil] at Hnx
              clear hp
              go_wp2
              go_quiet (fail)
              go_wp2
              go_roundw
              case rel => exact ⟨k + 1, by omega, by go_num, by rw [Hnx.out]; exact Hrow.out, Hfr.out, (by first | exact Hkk.out | exact Hkk.out.drew | exact Hkk.out.drewN _)⟩
              case measure => simp [intOf]; omega
            · have hge : decide ((t.length : Int) ≤ (s.length : Int)) = true := decide_eq_true (by omega)
              have hge2 : decide (t.length ≤ s.length) = true := decide_eq_true (by omega)
              have hp : t.isPrefixOf s = true := List.isPrefixOf_iff_prefix.2 (List.prefix_iff_eq_take.2 hq2.symm)
              have hex : (str s).extract 0 t.length = str t := by rw [str_extract, str_data, List.drop_zero, Nat.sub_zero, hq2]
              rw [hp] at Hnx
              rw [if_pos rfl] at Hnx
              clear hp hq2
              go_wp2_with (first
                | (at_builtin; refine wpList_app1 tyStrs rfl (.tmp 100) (.tmp 105) rfl _ _ _ rfl rfl Hrow.out rfl ?c1 ?c2 ?c3 ?c4)
                | go_in)
              case c1 => rfl
              case c2 => have := Hfl.out; omega
              case c3 => have := Hfl.out; unfold maxLen; omega
              case c4 =>
              intro g' cap' w' hown' hc'
              have Hown3 : Hid (w'.ownsRow 0 9 1 (.slice (some ⟨g', 0, none⟩) (Lx.length + 1) cap') (Lx ++ [s]).length ((Lx ++ [s]).map strV)) := by
                rw [List.length_append, List.length_singleton, List.map_append]
                exact hown'
              have hk' : Keeps [] w4 w' := Hkk.out.trans hc'.keeps (fun x hx => .inr (Hfr.out x hx))
              have Hfr' : Hid (∀ x, x ∈ (Value.slice (some ⟨g', 0, none⟩) (Lx.length + 1) cap').ownBlock.toList → w4.heap.size ≤ x) := fun x hx => (hc'.fresh x hx).elim (Hfr.out x) (fun h => Nat.le_trans Hkk.out.size h)
              have Hk' := Lib.hid hk'
              have d0 := hk'.cell0 (Hc8.out k (strV s) Hs8.out)
              unfold strV at d0
              have dj := hk'.cell0 (Hc8.out j (strV s0) Hj8.out)
              unfold strV at dj
              clear hown' hc' hk'
              go_wp2
              go_quiet (fail)
              go_wp2
              go_roundw
              case rel => exact ⟨k + 1, by omega, by go_num, by rw [Hnx.out]; exact Hown3.out, Hfr'.out, (by first | exact Hk'.out | exact Hk'.out.drew | exact Hk'.out.drewN _)⟩
              case measure => simp [intOf]; omega
            · have hge : decide ((t.length : Int) ≤ (s.length : Int)) = true := decide_eq_true (by omega)
              have hge2 : decide (t.length ≤ s.length) = true := decide_eq_true (by omega)
              have hp : t.isPrefixOf s = false := Bool.eq_false_iff.2 (fun h => hq2 (List.prefix_iff_eq_take.1 (List.isPrefixOf_iff_prefix.1 h)).symm)
              have hex : (str s).extract 0 t.length = str (s.take t.length) := by rw [str_extract, str_data, List.drop_zero, Nat.sub_zero]
              have hne : (s.take t.length == t) = false := beq_eq_false_iff_ne.2 hq2
              rw [hp] at Hnx
              rw [if_neg (by simp), List.append_nil] at Hnx
              clear hp
              go_wp2
              go_quiet (fail)
              go_wp2
              go_roundw
              case rel => exact ⟨k + 1, by omega, by go_num, by rw [Hnx.out]; exact Hrow.out, Hfr.out, (by first | exact Hkk.out | exact Hkk.out.drew | exact Hkk.out.drewN _)⟩
              case measure => simp [intOf]; omega
        · obtain rfl : k = K.length := by omega
          rw [List.take_length] at hrow
          have hrs := SlAt.own' hrow
          obtain ⟨oad, ocap, rfl⟩ := ownsRow_shape hrow
          have Ta := Lib.hid (texts_any K K _ _ _ _ wr (S9.out.keep hkk (by simp)) (S8.out.keep hkk (by simp)) (by omega) (by omega))
          have htb := fun w' (h : Keeps [] wr w') => texts_any (K.filter (fun s => t.isPrefixOf s)) (K.filter (fun s => t.isPrefixOf s)) _ _ _ _ w' ((S11.out.keep hkk (by simp)).keep h (by simp)) (hrs.keep h (by simp)) (Nat.le_trans (List.length_filter_le _ _) (by omega)) (Nat.le_trans (List.length_filter_le _ _) (by omega))
          have htr : ∀ L : List Bs, decide (L = L) = true := fun L => by simp
          rw [htr] at Ta
          rw [htr] at htb
          have Tb := Lib.hid htb
          have Hkk := Lib.hid hkk
          clear hrow hfr hkk hrs htb
          generalize K.filter (fun s => t.isPrefixOf s) = Y at *
          go_wp2_with (first
            | (go_at_call 24; (with_reducible refine (Ta.out).mono ?_); rintro e w5 ⟨rfl, k5⟩)
            | (go_at_call 24; (with_reducible refine (Tb.out _ k5).mono ?_); rintro e w6 ⟨rfl, k6⟩)
            | (go_at_call 12; (with_reducible refine (Aw.out _).mono ?_); rintro e w7 ⟨rfl, k7⟩))
          go_ret
          exact ⟨rfl, (((K4.out.trans Hkk.out (by simp)).trans k5 (by simp)).trans k6 (by simp)).trans k7 (by simp)⟩

theorem walk_any (l : List OpR) (v : Value) (G : List Nat) (t : ByteArray) (W : World) (hv : SlRows W v OpR.vals 6 l G) (hg : ∀ o, o ∈ l → o.good W) (hl : l.length ≤ 9223372036854775807) :
    Calls Tryd.prog 6 #[v, .string t] W fun e w' => e = .returned (.bool true) ∧ Keeps [] W w' := by
  rw [← str_self t]
  by_cases h : few l = true ∧ t.data.toList.length ≤ 70
  · exact walk l v G _ W hv hg h.1 h.2
  · exact walk_out l v G _ W hv hg hl h

-- ROWEND
set_option maxRecDepth 100000 in
theorem lifted (os : Os) (started : os.Started) (H : Type) (enc : TypeId × Value → H) :
    ReturnsInHanded {} Tryd.checked os 6 .any (fun w args => (Rows.bucketListsSpec.pre enc Tryd.prog Tryd.f6 [] false w args ∧ laidMetH Tryd.prog laidU w) ∧ sizedMet enc Tryd.prog Tryd.f6 (OpenSpec.ofChange Rows.bucketListsSpec) false w args)
      (Rows.bucketListsSpec.post enc Tryd.prog Tryd.f6 false true false false) := by
  refine returnsInHanded_of_change_and (C := Tryd.checked) (X := fun w _ => laidMetH Tryd.prog laidU w) (fun _ _ _ hh h => h.of_heap hh) Tryd.own started (by kernel_rfl) Tryd.func6
    (ChangeSpec.witness_shaped (enc := enc) (C := Tryd.checked) (os := os) (X := fun w _ => laidMetH Tryd.prog laidU w) false (World.laidAll Tryd.prog os laidU) #[.slice none 0 0, .string .empty] 8 (World.laidAll_os _ _ _) (World.shaped_of_ZipB (by kernel_rfl) (by kernel_rfl)) (by kernel_rfl) (by kernel_rfl) (by kernel_rfl) (by rw [MakeChecks.laidMetH_plain _ _ _ (by kernel_rfl)]; exact laidMet_laidAll _ (by kernel_rfl) (by kernel_rfl))) ?_
  intro W base args ds gs before hval0 hW _ _ hL _
  have hval : ∀ (j : Nat) t v, Tryd.f6.params[j]? = some t → args[j]? = some v → Value.okWide Tryd.prog W .any base t v := hval0
  have hW' := hW
  obtain ⟨p, q, hA0, hV, rfl, hfz, hnd⟩ := hW
  have hA : DataW.TrodAll enc Tryd.prog W 0 (fun _ => true) true Tryd.f6.params.toList args.toList ds p := hA0
  rw [Tryd.params6] at hA hval
  obtain ⟨v0, vs0, d0, ds0, p0, q0, hargs, rfl, rfl, h0, r0⟩ := trodAll_cons hA
  obtain ⟨v1, vs1, d1, ds1, p1, q1, rfl, rfl, rfl, h1, r1⟩ := trodAll_cons r0
  obtain ⟨rfl, rfl, rfl⟩ := trodAll_nil r1
  obtain rfl : args = #[v0, v1] := by cases args; simp_all
  obtain ⟨l, Gl, hl, gl, bl, ll⟩ := open_rows OpR.vals (OpR.good W) 6 (by kernel_rfl) (by decide) Tryd.underlying38 (hval 0 38 v0 rfl rfl) (fun _ _ _ h => elem_op h) h0
  obtain ⟨t, rfl, rfl, rfl, wt⟩ := open_string Tryd.underlying9 (hval 1 9 v1 rfl rfl) h1
  unfold maxLen at wt
  refine (walk_any l v0 Gl t W hl gl ll).mono fun e W' ⟨he, hk⟩ => ?_
  subst he
  exact ⟨_, rfl, law_end Tryd.laidOut (by kernel_rfl) rfl rfl Tryd.underlying4 hW' rfl hk⟩

theorem row_holds : Rows.BucketListsSaid :=
  OpenClaim.holds_of_wide 6 Tryd.f6 rfl rfl rfl rfl rfl rfl rfl ⟨rfl, rfl, rfl, rfl, rfl⟩ rfl rfl rfl rfl rfl (by kernel_rfl) Tryd.func6 (by kernel_rfl)
    (of_decide_eq_true (by kernel_rfl)) (by unfold Func.isWrapper; first | (rw [if_pos (by decide +kernel)]; kernel_rfl) | (rw [if_neg (by decide +kernel)]; exact ⟨rfl, rfl⟩))
    (fun os started H enc _ => lifted os started H enc)
theorem proved : Rows.BucketListsCardSaid :=
  Claim7.holds_tied_plain_at .later [] [.data, .pinned] true (true, "e4129f4e5938461e8878458e06df438afec1d99629e799e21c52c19d7c204c58") true
    row_holds (fun _ h => by cases h) (by kernel_rfl) (fun _ h => by cases h) bucketLists_row_tie rfl ⟨rfl, rfl⟩ (by kernel_rfl) rfl
    (fun f fn hf hfn => by
      obtain rfl : f = 6 := Option.some.inj ((show Tryd.prog.funcNamed "lighter/lighterlaw05.BucketLists" = some 6 by kernel_rfl).symm.trans hf) |>.symm
      obtain rfl : fn = Tryd.f6 := (Option.some.inj (Tryd.func6.symm.trans hfn)).symm
      exact ⟨by kernel_rfl, fun j t ht => by
        rw [Tryd.params6] at ht
        have hm : t ∈ [38, 9] := by simpa using Array.mem_of_getElem? ht
        have hall : ([38, 9].all fun u => !Tryd.prog.wantsStandIn u) = true := by kernel_rfl
        exact (show Tryd.prog.wantsStandIn t = false by simpa using List.all_eq_true.1 hall t hm)⟩)
    (by kernel_rfl)
end Go.Proofs.YtflgagglkkehiaaDoor.lawBucketLists
