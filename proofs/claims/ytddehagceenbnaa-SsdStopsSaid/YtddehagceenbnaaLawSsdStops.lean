/- Behind so many writes and barriers nothing is done any more, until a crash: SsdStops answers true at all inputs; without conditions. -/
import Derived.Test.YtddehagceenbnaaSsdR
import Derived.Test.YtddehagceenbnaaSsdX
namespace Go.Proofs.Ytddehagceenbnaa.lawSsdStops
open Go.ChangeShapes Go.WideShapes Go.ChangeAt Go.RowKit

/-- The device d, that stops behind m calls. -/
def stopsA (d : Dev) (m : Int) : Dev := { d with stops := true, left := m }

theorem putN_with (d : Dev) (m : Int) (a : Nat) (l : List UInt8) : ∀ k, (stopsA d m).putN a l k = stopsA (d.putN a l k) m
  | 0 => rfl
  | k + 1 => by
    show ((stopsA d m).putN a l k).put1 _ _ = _
    rw [putN_with d m a l k]
    rfl

theorem does_stopped (d : Dev) (o : OpS) (ho : o.ask = 0 ∨ o.ask = 1) : (stopsA d 0).does o = (stopsA d 0, [], 17) := by
  have hd : (stopsA d 0).dead = true := by simp [Dev.dead, stopsA]
  unfold Dev.does
  rcases ho with h | h
  · rw [if_pos h]
    unfold Dev.write
    rw [hd]
    rfl
  · rw [if_neg (by omega), if_pos h]
    unfold Dev.barrier
    rw [hd]
    rfl

theorem does_stops (d : Dev) (o : OpS) (m : Int) (hm : 0 < m) (hl : d.lost = false) (hs : d.stops = false) (ho : o.ask = 0 ∨ o.ask = 1) :
    (stopsA d m).does o = (stopsA (d.does o).1 (m - 1), (d.does o).2) ∧ (d.does o).1.lost = false ∧ (d.does o).1.stops = false := by
  have hd : (stopsA d m).dead = false := by simp [Dev.dead, stopsA, hl]; omega
  have hd2 : d.dead = false := by simp [Dev.dead, hl, hs]
  have ht : (stopsA d m).tick = stopsA d (m - 1) := rfl
  have ht2 : d.tick = d := by simp [Dev.tick, hs]
  unfold Dev.does
  rcases ho with h | h
  · rw [if_pos h, if_pos h]
    unfold Dev.write
    rw [hd, hd2, ht, ht2, putN_with]
    simp only [Bool.false_eq_true, if_false]
    split
    · exact ⟨rfl, hl, hs⟩
    · split
      · exact ⟨rfl, hl, hs⟩
      · have e : (stopsA d m).now = d.now := rfl
        rw [e]
        split
        · exact ⟨rfl, hl, hs⟩
        · obtain ⟨_, _, _, p4, p5, _⟩ := d.putN_len o.pos.toNat o.data.data.toList (o.data.data.toList.length / 64)
          exact ⟨rfl, p4.trans hl, p5.trans hs⟩
  · rw [if_neg (by omega), if_pos h, if_neg (by omega), if_pos h]
    unfold Dev.barrier
    rw [hd, hd2, ht, ht2]
    exact ⟨rfl, hl, hs⟩

/-- How many calls are left. -/
def leftOf (n : Int) (k : Nat) : Int := if (k : Int) ≤ n then n - k else 0

theorem crash_with (d : Dev) (m : Int) (keep : List Int) : (stopsA d m).crash keep = { d.crash keep with left := m } := rfl

/-- Calls that are writes and barriers. -/
def okB (o : OpS) : Bool := o.ask == 0 || o.ask == 1

theorem stops_end (d : Dev) (m : Int) (keep : List Int) (hl : d.lost = false) (hn : d.last.length = 20) (hok : d.ok) : ∃ X, ((stopsA d m).crash keep).read 0 20 = (X, 0) ∧ (d.crash keep).read 0 20 = (X, 0) ∧ ((stopsA d m).crash keep).barrier.2 = 0 := by
  have hlen : (d.crash keep).now.length = 20 := by
    obtain ⟨h5, _⟩ := fall_ok (d.pend.zip keep) d.last _ rfl hok.l64 (fun q hq => hok.p64 q.1 (List.of_mem_zip hq).1)
    exact h5.trans hn
  refine ⟨_, Dev.read_fit (d := (stopsA d m).crash keep) (a := 0) (n := 20) hl (by rw [crash_with]; show 0 + 20 ≤ (d.crash keep).now.length; omega), Dev.read_fit (d := d.crash keep) (a := 0) (n := 20) hl (by omega), ?_⟩
  unfold Dev.barrier
  have : ((stopsA d m).crash keep).dead = false := by simp [Dev.dead, Dev.crash, stopsA, hl]
  rw [this]
  rfl

theorem does_last (d : Dev) (o : OpS) (ho : o.ask = 0 ∨ o.ask = 1) (hok : d.ok) : (d.does o).1.last.length = d.last.length := by
  unfold Dev.does
  rcases ho with h | h
  · rw [if_pos h]
    unfold Dev.write
    split
    · rfl
    · have e : d.tick.last = d.last := by unfold Dev.tick; split <;> rfl
      split
      · rw [e]
      · split
        · rw [e]
        · split
          · rw [e]
          · show (d.tick.putN _ _ _).last.length = _
            rw [(d.tick.putN_len _ _ _).2.1, e]
  · rw [if_neg (by omega), if_pos h]
    unfold Dev.barrier
    split
    · rfl
    · exact (Dev.settle_ok d.pend d.last _ rfl hok.l64 hok.p64).1

set_option maxHeartbeats 4000000 in
set_option maxRecDepth 100000 in
theorem walk_no (l : List OpS) (n : Int) (v : Value) (G : List Nat) (W : World) (hv : OpsAt W v l G) (hl : l.length ≤ 9223372036854775807) (hg : ∀ o, o ∈ l → o.good W) (h : fewB l = false ∨ (fewB l = true ∧ n < 0)) :
    Calls Try.prog 5 #[v, .int .i64 n] W fun e w' => e = .returned (.bool true) ∧ Keeps [] W w' := by
  have Hf : Hid (∀ w', Keeps [] W w' → Calls Try.prog 18 #[v] w' fun e w'' => e = .returned (.bool (fewB l)) ∧ w' = w'') := fun w' k => few_any l w' v G (hv.keep k (by simp)) W hl hg
  obtain ⟨ad, cap, rfl, _⟩ := hv
  rcases h with h | ⟨h1, h2⟩
  all_goals
    first | rw [h] at Hf | rw [h1] at Hf
    try clear h
    try clear h1
    clear hg
    go_enter Try.func5, Try.ntmps5
    go_wp2_with fail
    (with_reducible refine (hasNew 20 _ (by omega) _ (by omega) (by omega)).mono ?_)
    rintro e w1 ⟨ba, Fa, rfl, ha1, k1, f1⟩
    go_wp2_with fail
    (with_reducible refine (hasNew 20 _ (by omega) _ (by omega) (by omega)).mono ?_)
    rintro e w2 ⟨bb, Fb, rfl, hb2, k2, f2⟩
    have k12 := KT k1 k2
    clear ha1 hb2 k1 k2 f1 f2
    go_wp2_with (first | (go_at_call 18; (with_reducible refine (Hf.out _ (by assumption)).mono ?_); rintro e w3 ⟨rfl, rfl⟩) | (go_at_call 11; (with_reducible refine (awake_any _).mono ?_); rintro e w6 ⟨rfl, hk6⟩))
    go_ret
    exact ⟨rfl, KT k12 hk6⟩

set_option maxHeartbeats 8000000 in
set_option maxRecDepth 100000 in
theorem walk_yes (l : List OpS) (n : Int) (v : Value) (G : List Nat) (W : World) (hv : OpsAt W v l G) (hg : ∀ o, o ∈ l → o.good W) (hf : fewB l = true) (hn0 : 0 ≤ n) (hn1 : n ≤ 9223372036854775807) :
    Calls Try.prog 5 #[v, .int .i64 n] W fun e w' => e = .returned (.bool true) ∧ Keeps [] W w' := by
  have hf2 := hf
  unfold fewB at hf2
  simp only [Bool.and_eq_true, List.all_eq_true, decide_eq_true_eq] at hf2
  obtain ⟨hsm, hlen⟩ := hf2
  have Hf : Hid (∀ w', Keeps [] W w' → Calls Try.prog 18 #[v] w' fun e w'' => e = .returned (.bool (fewB l)) ∧ w' = w'') := fun w' k => few_any l w' v G (hv.keep k (by simp)) W (by omega) hg
  rw [hf] at Hf
  have Hv : Hid (∀ w', Keeps [] W w' → OpsAt w' v l G) := fun w' k => hv.keep k (by simp)
  obtain ⟨ad, cap, rfl, hcs⟩ := hv
  have Hcs : Hid (l ≠ [] → ∃ b off, ad = some ⟨b, off, none⟩) := fun h => by obtain ⟨b, off, h1, _⟩ := hcs h; exact ⟨b, off, h1⟩
  have Hg := Lib.hid hg
  have Hsm := Lib.hid hsm
  have hl50 : (l.length : Int) ≤ 50 := by omega
  clear hg hsm hf hcs
  go_enter Try.func5, Try.ntmps5
  go_wp2_with fail
  (with_reducible refine (hasNew 20 _ (by omega) _ (by omega) (by omega)).mono ?_)
  rintro e w1 ⟨ba, Fa, rfl, ha1, k1, f1⟩
  go_wp2_with fail
  (with_reducible refine (hasNew 20 _ (by omega) _ (by omega) (by omega)).mono ?_)
  rintro e w2 ⟨bb, Fb, rfl, hb2, k2, f2⟩
  have ha2 := ha1.kept k2
  have na2 := ((New.refl W).add k1 f1).step k2
  have nb2 := ((New.refl W).add k1 f1).add k2 f2
  have hdj : ∀ x, x ∈ Fb → x ∉ Fa := fun x hx hx' => by have := f2 x hx; have := ha1.lt x hx'; omega
  clear k1 k2 f1 f2 ha1
  have Kw := Lib.hid na2.keeps
  go_wp2_with (go_at_call 18; (with_reducible refine (Hf.out _ Kw.out).mono ?_); rintro e w3 ⟨rfl, rfl⟩)
  go_loop [9] (fun iv => ∃ k : Nat, k ≤ l.length ∧ iv = .int .i64 k ∧ (l.take k).all okB = true) (fun iv => l.length - (intOf iv).toNat)
  case atStart => exact ⟨0, Nat.zero_le _, rfl, rfl⟩
  case round =>
    obtain ⟨k, hk, rfl, hall⟩ := hrel
    have Hall := Lib.hid hall
    clear hall
    by_cases hlt : k < l.length
    · obtain ⟨o, ho⟩ : ∃ o, l[k]? = some o := ⟨l[k], by simp [hlt]⟩
      obtain ⟨b, off, rfl⟩ := Hcs.out (by intro h0; rw [h0] at hlt; simp at hlt)
      obtain ⟨c0, _, _, _, _⟩ := (Hv.out _ Kw.out).cells _ _ _ _ ho rfl
      have hta : l.take (k + 1) = l.take k ++ [o] := by rw [List.take_add_one, ho]; rfl
      have Hta := Lib.hid hta
      have hki : (k : Int) < (l.length : Int) := by omega
      have hki0 : (0 : Int) ≤ (k : Int) := by omega
      have H1 := Lib.hid ha2
      have H2 := Lib.hid hb2
      clear hta ho ha2 hb2 na2 nb2 hdj
      by_cases e0 : o.ask = 0
      · rw [e0] at c0
        go_wp2
        go_round
        case rel => exact ⟨k + 1, by omega, by go_num, by rw [Hta.out, List.all_append, Hall.out]; simp [okB, e0]⟩
        case measure => simp [intOf]; omega
      · have b0 : (o.ask != 0) = true := by simpa using e0
        by_cases e1 : o.ask = 1
        · rw [e1] at c0
          clear b0 e0
          go_wp2
          go_round
          case rel => exact ⟨k + 1, by omega, by go_num, by rw [Hta.out, List.all_append, Hall.out]; simp [okB, e1]⟩
          case measure => simp [intOf]; omega
        · have b1 : (o.ask != 1) = true := by simpa using e1
          clear e0 e1
          go_wp2_with (go_at_call 11; (with_reducible refine (awake_any _).mono ?_); rintro e w6 ⟨rfl, hk6⟩)
          go_ret
          exact ⟨rfl, KT Kw.out hk6⟩
    · have hallo : ∀ o, o ∈ l → o.ask = 0 ∨ o.ask = 1 := by
        intro o ho
        have h := Hall.out
        rw [List.take_of_length_le (by omega)] at h
        have h1 := List.all_eq_true.1 h o ho
        simpa [okB] using h1
      have Hallo := Lib.hid hallo
      have hstop := hasStop ha2 n (by omega) hn1
      have estop : (Dev.new 20).stop n = stopsA (Dev.new 20) n := by unfold Dev.stop stopsA; simp [hn0]
      rw [estop] at hstop
      have Hst := Lib.hid hstop
      clear hallo hstop estop Hall ha2
      go_wp2_with (go_at_call 19; (with_reducible refine Hst.out.mono ?_); rintro e w3 ⟨rfl, ha3, ca3⟩)
      have na3 := na2.chg ca3
      have nb3 := nb2.other na2 ca3
      have hb3 := hb2.apart ca3 hdj
      clear na2 nb2 hb2 ca3
      have Kw2 := Lib.hid na3.keeps
      obtain ⟨wo, rfl⟩ : ∃ wo : World, wo = w2 := ⟨_, rfl⟩
      go_loopw [10] (fun iv wr => ∃ (k : Nat) (d : Dev) (F1 F2 : List Nat), k ≤ l.length ∧ iv = .int .i64 k ∧ Has wr ba (stopsA d (leftOf n k)) F1 (10 * k) ∧ Has wr bb d F2 (10 * k) ∧ New W wr F1 ∧ New W wr F2 ∧ (∀ x, x ∈ F2 → x ∉ F1) ∧ Hid (d.lost = false) ∧ Hid (d.stops = false) ∧ Hid (d.last.length = 20)) (fun iv _ => l.length - (intOf iv).toNat)
      case atStart => exact ⟨0, Dev.new 20, Fa, Fb, Nat.zero_le _, rfl, by unfold leftOf; rw [if_pos (by omega), Int.natCast_zero, Int.sub_zero]; exact ha3, hb3, na3, nb3, hdj, rfl, rfl, rfl⟩
      case round =>
        obtain ⟨k, d, F1, F2, hk, rfl, ha, hb, na, nb, hdj2, Hlo, Hso, Hla⟩ := hrel
        clear ha3 hb3 na3 nb3 hdj
        by_cases hlt : k < l.length
        · obtain ⟨o, ho⟩ : ∃ o, l[k]? = some o := ⟨l[k], by simp [hlt]⟩
          have hom := List.mem_of_getElem? ho
          have hgo := Hg.out o hom
          have hsz := Hsm.out o hom
          have hask := Hallo.out o hom
          obtain ⟨b, off, rfl⟩ := Hcs.out (by intro h0; rw [h0] at hlt; simp at hlt)
          obtain ⟨c0, c1, c2, c3, c4⟩ := (Hv.out _ na.keeps).cells _ _ _ _ ho rfl
          unfold smallB at hsz
          rw [Bool.and_eq_true, decide_eq_true_eq] at hsz
          have hkv : ∃ ka kc, o.kv = .slice ka o.keep.length kc := by obtain ⟨_, ⟨ka, kc, h, _⟩, _⟩ := hgo.k0; exact ⟨ka, kc, by rw [h, List.length_map]⟩
          have hda := does_any W wr ba _ F1 (10 * k) na ha (by omega) o hgo hsz.1
          have hki : (k : Int) < (l.length : Int) := by omega
          have hki0 : (0 : Int) ≤ (k : Int) := by omega
          have hcells : Hid (∀ w', Keeps [] W w' → OpsAt w' (.slice (some ⟨b, off, none⟩) l.length cap) l G) := Hv
          have Ho := Lib.hid ho
          have Hgo := Lib.hid hgo
          obtain ⟨ka, kc, hkv1⟩ := hkv
          rw [hkv1] at c4
          have Hkv2 := Lib.hid hkv1
          have hsz1' := hsz.1
          have hoa : o.agg = .agg #[.int .i64 o.ask, .int .i64 o.pos, .int .i64 o.n, .string o.data, .slice ka o.keep.length kc] := by unfold OpS.agg; rw [hkv1]
          unfold OpS.agg at hda
          rw [hkv1] at hda
          obtain ⟨s3, l3⟩ : (d.does o).1.last.length = 20 ∧ True := ⟨(does_last d o hask hb.ok).trans Hla.out, trivial⟩
          have Hs3 := Lib.hid s3
          have Hoa := Lib.hid hoa
          have Hask := Lib.hid hask
          have Hhb := Lib.hid hb
          have Hnb := Lib.hid nb
          have Hna := Lib.hid na
          have Hdj := Lib.hid hdj2
          clear hom hgo hsz hkv1 hoa s3 l3 hask hcells hb nb ha ho hdj2
          have hend : ∀ (w1 w2 : World) (F1' F2' : List Nat) (d' : Dev) (m : Int), Has w1 ba (stopsA d' m) F1' (10 * k + 10) → Has w2 bb d' F2' (10 * k + 10) → Chg F1 F1' wr w1 → Chg F2 F2' w1 w2 → Has w2 ba (stopsA d' m) F1' (10 * k + 10) ∧ New W w2 F1' ∧ New W w2 F2' ∧ ∀ x, x ∈ F2' → x ∉ F1' := by
            intro w1 w2 F1' F2' d' m h1 h2 c1 c2
            have hdj1 : ∀ x, x ∈ F1' → x ∉ F2 := fun x hx hx' => c1.apart (fun k hk => Hhb.out.lt k hk) Hdj.out x hx' hx
            have n1 := Hna.out.chg c1
            have n2 := Hnb.out.other Hna.out c1
            exact ⟨h1.apart c2 hdj1, n1.other n2 c2, n2.chg c2, fun x hx hx' => c2.apart (fun k hk => h1.lt k hk) hdj1 x hx' hx⟩
          have Hend := Lib.hid hend
          clear hend
          by_cases hkn : (k : Int) < n
          · have hlo : leftOf n k = n - k := by unfold leftOf; rw [if_pos (by omega)]
            have hlo2 : leftOf n (k + 1) = n - k - 1 := by unfold leftOf; rw [if_pos (by omega)]; omega
            obtain ⟨q1, q2, q3⟩ := does_stops d o (n - k) (by omega) Hlo.out Hso.out Hask.out
            rw [hlo, q1] at hda
            have Hlo2 := Lib.hid hlo2
            have Hq2 := Lib.hid q2
            have Hq3 := Lib.hid q3
            clear hlo hlo2 q1 q2 q3
            go_wp2_with fail
            (with_reducible refine hda.mono ?_)
            rintro e w3 ⟨rfl, F1', ha3, ca3⟩
            have hb3 := Hhb.out.apart ca3 Hdj.out
            have nb3 := Hnb.out.other Hna.out ca3
            have hdb := does_any W w3 bb d F2 (10 * k) nb3 hb3 (by omega) o Hgo.out hsz1'
            rw [Hoa.out] at hdb
            obtain ⟨d0, d1, d2, d3, d4⟩ := (Hv.out _ (Hna.out.chg ca3).keeps).cells _ _ _ _ Ho.out rfl
            rw [Hkv2.out] at d4
            have Hha3 := Lib.hid ha3
            have Hca3 := Lib.hid ca3
            clear hda hb3 nb3 ha3 ca3
            go_wp2_with fail
            (with_reducible refine hdb.mono ?_)
            rintro e w4 ⟨rfl, F2', hb4, cb4⟩
            obtain ⟨r1, r2, r3, r4⟩ := Hend.out _ _ _ _ _ _ Hha3.out hb4 Hca3.out cb4
            clear hdb d0 d1 d2 d3 d4 cb4
            go_wp2
            go_roundw
            case rel => exact ⟨k + 1, (d.does o).1, F1', F2', by omega, by go_num, by rw [Hlo2.out]; exact r1.le (by omega), hb4.le (by omega), r2, r3, r4, Hq2.out, Hq3.out, Hs3.out⟩
            case measure => simp [intOf]; omega
          · have hlo : leftOf n k = 0 := by unfold leftOf; split <;> omega
            have hlo2 : leftOf n (k + 1) = 0 := by unfold leftOf; rw [if_neg (by omega)]
            rw [hlo, does_stopped d o Hask.out] at hda
            have Hlo2 := Lib.hid hlo2
            clear hlo hlo2
            go_wp2_with fail
            (with_reducible refine hda.mono ?_)
            rintro e w3 ⟨rfl, F1', ha3, ca3⟩
            have hb5 := Hhb.out.apart ca3 Hdj.out
            obtain ⟨r1, r2, r3, r4⟩ := Hend.out _ _ _ _ _ _ ha3 (hb5.le (by omega)) ca3 (Chg.refl F2 w3)
            clear hda ha3 ca3
            go_wp2
            go_roundw
            case rel => exact ⟨k + 1, d, F1', F2, by omega, by go_num, by rw [Hlo2.out]; exact r1.le (by omega), hb5.le (by omega), r2, r3, r4, Hlo.out, Hso.out, Hla.out⟩
            case measure => simp [intOf]; omega
        · obtain ⟨X, x1, x2, x3⟩ := stops_end d (leftOf n k) [1, 2, 0, 1] Hlo.out Hla.out hb.ok
          have hend : (l.length : Int) ≤ (k : Int) := by omega
          have hB : 10 * k ≤ 500 := by omega
          have ha' := ha.le hB
          have hb' := hb.le hB
          generalize stopsA d (leftOf n k) = A at *
          clear ha hb
          generalize hA1 : A.crash [1, 2, 0, 1] = A1 at *
          generalize hB1 : d.crash [1, 2, 0, 1] = B1 at *
          have HA1 := Lib.hid hA1
          have HB1 := Lib.hid hB1
          have X1 := Lib.hid x1
          have X2 := Lib.hid x2
          have X3 := Lib.hid x3
          clear hA1 hB1 x1 x2 x3
          go_wp2_with fail
          (with_reducible refine (hasCrash (ha'.kept ((Keeps.refl [] _).alloc _)) (by omega) _ [1, 2, 0, 1] [wr.heap.size] (SlAt.lit wr [.int .i64 1, .int .i64 2, .int .i64 0, .int .i64 1] _ 4 rfl) (one_lt (by simp)) (one_any (fun k hk => ha'.lt k hk) (Nat.le_refl _))).mono ?_)
          rintro e w3 ⟨rfl, F3, h3, c3⟩
          rw [HA1.out] at h3
          have hb3 := (hb'.kept ((Keeps.refl [] wr).alloc _)).apart c3 hdj2
          have n3 := (na.step ((Keeps.refl [] wr).alloc _)).chg c3
          have nb3 := (nb.step ((Keeps.refl [] wr).alloc _)).other (na.step ((Keeps.refl [] wr).alloc _)) c3
          have hdj3 : ∀ x, x ∈ F3 → x ∉ F2 := fun x hx hx' => c3.apart (fun k hk => (hb'.kept ((Keeps.refl [] wr).alloc _)).lt k hk) hdj2 x hx' hx
          clear ha' hb' c3 na nb hdj2
          go_wp2_with fail
          (with_reducible refine (hasCrash (hb3.kept ((Keeps.refl [] _).alloc _)) (by omega) _ [1, 2, 0, 1] [w3.heap.size] (SlAt.lit w3 [.int .i64 1, .int .i64 2, .int .i64 0, .int .i64 1] _ 4 rfl) (one_lt (by simp)) (one_any (fun k hk => hb3.lt k hk) (Nat.le_refl _))).mono ?_)
          rintro e w4 ⟨rfl, F4, h4, c4⟩
          rw [HB1.out] at h4
          have ha4 := (h3.kept ((Keeps.refl [] w3).alloc _)).apart c4 hdj3
          have n4 := (n3.step ((Keeps.refl [] w3).alloc _)).other (nb3.step ((Keeps.refl [] w3).alloc _)) c4
          clear h3 hb3 c4 n3 nb3 hdj3
          have hra := hasRead ha4 0 20 (by omega)
          rw [X1.out] at hra
          go_wp2_with fail
          (with_reducible refine hra.mono ?_)
          rintro e w5 ⟨rfl, k5⟩
          have hrb := hasRead (h4.kept k5) 0 20 (by omega)
          rw [X2.out] at hrb
          have ha5 := ha4.kept k5
          have n5 := n4.step k5
          clear hra ha4 n4 k5 h4
          go_wp2_with fail
          (with_reducible refine hrb.mono ?_)
          rintro e w6 ⟨rfl, k6⟩
          have hba := hasBarrier (ha5.kept k6) (by omega)
          rw [X3.out] at hba
          have n6 := n5.step k6
          clear hrb ha5 n5 k6
          go_wp2_with (first | (go_at_call 14; (with_reducible refine hba.mono ?_); rintro e w7 ⟨rfl, F7, h7, c7⟩) | (go_at_call 11; (with_reducible refine (awake_any _).mono ?_); rintro e w8 ⟨rfl, k8⟩))
          go_ret
          exact ⟨rfl, KT (n6.chg c7).keeps k8⟩

theorem walk_any (l : List OpS) (n : Int) (v : Value) (G : List Nat) (W : World) (hv : OpsAt W v l G) (hl : l.length ≤ 9223372036854775807) (hg : ∀ o, o ∈ l → o.good W) (hn1 : n ≤ 9223372036854775807) :
    Calls Try.prog 5 #[v, .int .i64 n] W fun e w' => e = .returned (.bool true) ∧ Keeps [] W w' := by
  cases hf : fewB l
  · exact walk_no l n v G W hv hl hg (.inl hf)
  · by_cases hn : n < 0
    · exact walk_no l n v G W hv hl hg (.inr ⟨hf, hn⟩)
    · exact walk_yes l n v G W hv hg hf (by omega) hn1
-- ROWEND
set_option maxRecDepth 100000 in
theorem lifted (os : Os) (started : os.Started) (H : Type) (enc : TypeId × Value → H) :
    ReturnsInHanded {} Try.checked os 5 .any (Rows.ssdStopsSpec.pre6 enc Try.prog Try.f5 Rows.ssdStopsRow.domain false) (Rows.ssdStopsSpec.post enc Try.prog Try.f5 false true false false) := by
  refine returnsInHanded_of_change (C := Try.checked) Try.own started (by kernel_rfl) Try.func5
    (ChangeSpec.witness6 (enc := enc) (C := Try.checked) false ⟨#[], #[.slice none 0 0, .int .i64 0], []⟩ 8 (by kernel_rfl) (by kernel_rfl) (by kernel_rfl) (by kernel_rfl)) ?_
  intro W base args ds gs before hval0 hW _ _
  have hval : ∀ (j : Nat) t v, Try.f5.params[j]? = some t → args[j]? = some v → Value.okWide Try.prog W .any base t v := hval0
  have hW' := hW
  obtain ⟨p, q, hA0, hV, rfl, hfz, hnd⟩ := hW
  have hA : DataW.TrodAll enc Try.prog W 0 (fun _ => true) true Try.f5.params.toList args.toList ds p := hA0
  rw [Try.params5] at hA hval
  obtain ⟨v0, vs0, d0, ds0, p0, q0, hargs, rfl, rfl, h0, r0⟩ := trodAll_cons hA
  obtain ⟨v1, vs1, d1, ds1, p1, q1, rfl, rfl, rfl, h1, r1⟩ := trodAll_cons r0
  obtain ⟨rfl, rfl, rfl⟩ := trodAll_nil r1
  obtain rfl : args = #[v0, v1] := by cases args; simp_all
  obtain ⟨l, Gl, hl, gl, bl, ll⟩ := open_rows OpS.vals (OpS.good W) 5 (by kernel_rfl) (by decide) Try.underlying38 (hval 0 38 v0 rfl rfl) (fun _ _ _ h => elem_op h) h0
  obtain ⟨n, rfl, rfl, rfl, wn⟩ := open_int Try.underlying3 (hval 1 3 v1 rfl rfl) h1
  obtain ⟨wn0, wn1⟩ := wf_i64 wn
  refine (walk_any l n v0 Gl W hl ll gl wn1).mono fun e W' ⟨he, hk⟩ => ?_
  subst he
  exact ⟨_, rfl, law_end Try.laidOut (by kernel_rfl) rfl rfl Try.underlying4 hW' rfl hk⟩

theorem proved : Rows.SsdStopsSaid :=
  OpenClaim.holds_of_wide 5 Try.f5 rfl rfl rfl rfl rfl rfl rfl ⟨rfl, rfl, rfl, rfl, rfl⟩ rfl rfl rfl rfl rfl (by kernel_rfl) Try.func5 (by kernel_rfl)
    (of_decide_eq_true (by kernel_rfl)) (by unfold Func.isWrapper; first | (rw [if_pos (by decide +kernel)]; kernel_rfl) | (rw [if_neg (by decide +kernel)]; exact ⟨rfl, rfl⟩))
    (fun os started H enc _ => lifted os started H enc)
end Go.Proofs.Ytddehagceenbnaa.lawSsdStops
