/- A copy is the same, goes its own way, and comes to the same by the same calls: SsdCopies answers true at all inputs; without conditions. -/
import Derived.Test.YtddehagceenbnaaLawSsdPlays
namespace Go.Proofs.Ytddehagceenbnaa.lawSsdCopies
open Go.ChangeShapes Go.WideShapes Go.ChangeAt Go.RowKit
open Go.Proofs.Ytddehagceenbnaa.lawSsdPlays (refNew few_sound)

/-- What a device is behind calls. -/
def run (d : Dev) (l : List OpS) : Dev := l.foldl (fun d o => (d.does o).1) d
theorem run_snoc (d : Dev) (l : List OpS) (o : OpS) : run d (l ++ [o]) = ((run d l).does o).1 := by unfold run; rw [List.foldl_append]; rfl
theorem run_inv {d : Dev} (h : Inv d) : ∀ l : List OpS, Inv (run d l) := by
  intro l
  induction l generalizing d with
  | nil => exact h
  | cons o r ih => exact ih (inv_does h o)

theorem list_part (l : List OpS) : ∀ (k : Nat) (o : OpS), l[k]? = some o → l.take (k + 1) = l.take k ++ [o] := fun k o h => by rw [List.take_add_one, h]; rfl

set_option maxHeartbeats 4000000 in
set_option maxRecDepth 100000 in
theorem walk_no (l m : List OpS) (v v2 : Value) (G G2 : List Nat) (W : World) (hv : OpsAt W v l G) (hv2 : OpsAt W v2 m G2) (hl : l.length ≤ 9223372036854775807) (hm : m.length ≤ 9223372036854775807) (hg : ∀ o, o ∈ l → o.good W) (hg2 : ∀ o, o ∈ m → o.good W)
    (h : fewB l = false ∨ (fewB l = true ∧ fewB m = false)) : Calls Try.prog 8 #[v, v2] W fun e w' => e = .returned (.bool true) ∧ Keeps [] W w' := by
  have Hf : Hid (∀ w', Keeps [] W w' → Calls Try.prog 18 #[v] w' fun e w'' => e = .returned (.bool (fewB l)) ∧ w' = w'') := fun w' k => few_any l w' v G (hv.keep k (by simp)) W hl hg
  have Hf2 : Hid (∀ w', Keeps [] W w' → Calls Try.prog 18 #[v2] w' fun e w'' => e = .returned (.bool (fewB m)) ∧ w' = w'') := fun w' k => few_any m w' v2 G2 (hv2.keep k (by simp)) W hm hg2
  obtain ⟨ad, cap, rfl, _⟩ := hv
  obtain ⟨ad2, cap2, rfl, _⟩ := hv2
  clear hg hg2
  rcases h with h | ⟨h1, h2⟩
  · rw [h] at Hf
    clear h
    go_enter Try.func8, Try.ntmps8
    go_wp2_with fail
    (with_reducible refine (hasNew 20 _ (by omega) _ (by omega) (by omega)).mono ?_)
    rintro e w1 ⟨ba, Fa, rfl, ha1, k1, f1⟩
    clear ha1 f1
    go_wp2_with (first | (go_at_call 18; (with_reducible refine (Hf.out _ k1).mono ?_); rintro e w3 ⟨rfl, rfl⟩) | (go_at_call 11; (with_reducible refine (awake_any _).mono ?_); rintro e w6 ⟨rfl, hk6⟩))
    go_ret
    exact ⟨rfl, KT k1 hk6⟩
  · rw [h1] at Hf
    rw [h2] at Hf2
    clear h1 h2
    go_enter Try.func8, Try.ntmps8
    go_wp2_with fail
    (with_reducible refine (hasNew 20 _ (by omega) _ (by omega) (by omega)).mono ?_)
    rintro e w1 ⟨ba, Fa, rfl, ha1, k1, f1⟩
    clear ha1 f1
    go_wp2_with (first | (go_at_call 18; (with_reducible refine (Hf.out _ k1).mono ?_); rintro e w3 ⟨rfl, rfl⟩) | (go_at_call 18; (with_reducible refine (Hf2.out _ k1).mono ?_); rintro e w3 ⟨rfl, rfl⟩) | (go_at_call 11; (with_reducible refine (awake_any _).mono ?_); rintro e w6 ⟨rfl, hk6⟩))
    go_ret
    exact ⟨rfl, KT k1 hk6⟩

/-- What a round needs of the list of calls. -/
theorem op_at {W : World} {l : List OpS} {v : Value} {G : List Nat} (hv : OpsAt W v l G) (hg : ∀ o, o ∈ l → o.good W) (hs : ∀ o, o ∈ l → o.data.size ≤ 640) {k : Nat} (hk : k < l.length) {ad : Option Addr} {cap : Nat} (he : v = .slice ad l.length cap) :
    ∃ (o : OpS) (b off : Nat) (ka : Option Addr) (kc : Nat), ad = some ⟨b, off, none⟩ ∧ l[k]? = some o ∧ o.good W ∧ o.data.size ≤ 640 ∧ o.agg = .agg #[.int .i64 o.ask, .int .i64 o.pos, .int .i64 o.n, .string o.data, .slice ka o.keep.length kc] ∧
      ∀ w', Keeps [] W w' → w'.cell? ⟨b, off + k * 5, none⟩ = some (.int .i64 o.ask) ∧ w'.cell? ⟨b, off + k * 5 + 1, none⟩ = some (.int .i64 o.pos) ∧ w'.cell? ⟨b, off + k * 5 + 2, none⟩ = some (.int .i64 o.n) ∧ w'.cell? ⟨b, off + k * 5 + 3, none⟩ = some (.string o.data) ∧ w'.cell? ⟨b, off + k * 5 + 4, none⟩ = some (.slice ka o.keep.length kc) := by
  obtain ⟨o, ho⟩ : ∃ o, l[k]? = some o := ⟨l[k], by simp [hk]⟩
  have hom := List.mem_of_getElem? ho
  have hgo := hg o hom
  obtain ⟨_, ⟨ka, kc, hkv, _⟩, _⟩ := hgo.k0
  rw [List.length_map] at hkv
  have hv2 := hv
  obtain ⟨ad', cap', he', hcs⟩ := hv
  rw [he] at he'
  injection he' with e1 _ e2
  subst e1 e2
  obtain ⟨b, off, had, _, _⟩ := hcs (by intro h0; rw [h0] at hk; simp at hk)
  refine ⟨o, b, off, ka, kc, had, ho, hgo, hs o hom, by unfold OpS.agg; rw [hkv], fun w' kk => ?_⟩
  have := (hv2.keep kk (by simp)).cells _ _ _ _ ho (he.trans (by rw [had]))
  rw [hkv] at this
  exact this

set_option maxHeartbeats 16000000 in
set_option maxRecDepth 100000 in
theorem walk_yes (l m : List OpS) (v v2 : Value) (G G2 : List Nat) (W : World) (hv : OpsAt W v l G) (hv2 : OpsAt W v2 m G2) (hg : ∀ o, o ∈ l → o.good W) (hg2 : ∀ o, o ∈ m → o.good W) (hf : fewB l = true) (hf2 : fewB m = true) :
    Calls Try.prog 8 #[v, v2] W fun e w' => e = .returned (.bool true) ∧ Keeps [] W w' := by
  obtain ⟨hsm, hlen⟩ := few_sound hf
  obtain ⟨hsm2, hlen2⟩ := few_sound hf2
  have Hf : Hid (∀ w', Keeps [] W w' → Calls Try.prog 18 #[v] w' fun e w'' => e = .returned (.bool (fewB l)) ∧ w' = w'') := fun w' k => few_any l w' v G (hv.keep k (by simp)) W (by omega) hg
  have Hf2 : Hid (∀ w', Keeps [] W w' → Calls Try.prog 18 #[v2] w' fun e w'' => e = .returned (.bool (fewB m)) ∧ w' = w'') := fun w' k => few_any m w' v2 G2 (hv2.keep k (by simp)) W (by omega) hg2
  rw [hf] at Hf
  rw [hf2] at Hf2
  obtain ⟨ad, cap, he, _⟩ := id hv
  obtain ⟨ad2, cap2, he2, _⟩ := id hv2
  have Op : Hid (∀ k, k < l.length → _) := fun k hk => op_at hv hg hsm (k := k) hk he
  have Op2 : Hid (∀ k, k < m.length → _) := fun k hk => op_at hv2 hg2 hsm2 (k := k) hk he2
  have hl50 : (l.length : Int) ≤ 50 := by omega
  have hm50 : (m.length : Int) ≤ 50 := by omega
  subst he he2
  clear hg hg2 hsm hsm2 hf hf2 hv hv2
  go_enter Try.func8, Try.ntmps8
  go_wp2_with fail
  (with_reducible refine (hasNew 20 _ (by omega) _ (by omega) (by omega)).mono ?_)
  rintro e w1 ⟨b, F, rfl, ha1, k1, f1⟩
  have na1 := (New.refl W).add k1 f1
  have K1 := Lib.hid k1
  clear k1 f1
  go_wp2_with (first | (go_at_call 18; (with_reducible refine (Hf.out _ K1.out).mono ?_); rintro e w3 ⟨rfl, rfl⟩) | (go_at_call 18; (with_reducible refine (Hf2.out _ K1.out).mono ?_); rintro e w3 ⟨rfl, rfl⟩))
  (with_reducible refine (refNew 20 _ (by omega) _ (by omega) (by omega)).mono ?_)
  rintro e w2 ⟨r, F2, rfl, hr2, k2, f2⟩
  have ha2 := ha1.kept k2
  have na2 := na1.step k2
  have nr2 := na1.add k2 f2
  have hdj : ∀ x, x ∈ F2 → x ∉ F := fun x hx hx' => by have := f2 x hx; have := ha1.lt x hx'; omega
  have hi : Inv (Dev.new 20) := rfl
  have Hi := Lib.hid (run_inv hi)
  generalize Dev.new 20 = D at *
  clear k2 f2 ha1 na1 hi
  go_wp2
  obtain ⟨wo, rfl⟩ : ∃ wo : World, wo = W := ⟨_, rfl⟩
  go_loopw [8] (fun iv wr => ∃ (k : Nat) (F1 F2 : List Nat), k ≤ l.length ∧ iv = .int .i64 k ∧ Has wr b (run D (l.take k)) F1 (10 * k) ∧ Ref wr r (run D (l.take k)) F2 (10 * k) ∧ New wo wr F1 ∧ New wo wr F2 ∧ (∀ x, x ∈ F2 → x ∉ F1)) (fun iv _ => l.length - (intOf iv).toNat)
  case atStart => exact ⟨0, F, F2, Nat.zero_le _, rfl, ha2, hr2, na2, nr2, hdj⟩
  case round =>
    obtain ⟨k, F1, F2', hk, rfl, ha, hr, na, nr, hdj2⟩ := hrel
    clear ha2 hr2 na2 nr2 hdj
    by_cases hlt : k < l.length
    · obtain ⟨o, bo, off, ka, kc, rfl, ho, hgo, hsz, hoa, hcell⟩ := Op.out k hlt
      obtain ⟨c0, c1, c2, c3, c4⟩ := hcell _ na.keeps
      have hki : (k : Int) < (l.length : Int) := by omega
      have hki0 : (0 : Int) ≤ (k : Int) := by omega
      have hdo := does_any wo wr b _ F1 (10 * k) na ha (by omega) o hgo hsz
      have has := fun w' (n' : New wo w' F2') (r' : Ref w' r (run D (l.take k)) F2' (10 * k)) => asked_any wo w' r _ F2' (10 * k) n' r' (Hi.out _) (by omega) o hgo hsz
      have hnx : run D (l.take (k + 1)) = ((run D (l.take k)).does o).1 := by rw [list_part l k o ho, run_snoc]
      rw [hoa] at hdo has
      generalize (run D (l.take k)).does o = R at *
      obtain ⟨d', R1, R2⟩ := R
      dsimp only at hdo has hnx
      have Hcell := Lib.hid hcell
      have Has := Lib.hid has
      have Hnx := Lib.hid hnx
      have Hr := Lib.hid hr
      have Na := Lib.hid na
      have Nr := Lib.hid nr
      have Hdj := Lib.hid hdj2
      clear ho hgo hsz hcell hoa has hnx hr na nr hdj2
      go_wp2_with fail
      (with_reducible refine hdo.mono ?_)
      rintro e w4 ⟨rfl, F4, ha4, ca4⟩
      have hr4 := Hr.out.apart ca4 Hdj.out
      have na4 := Na.out.chg ca4
      have nr4 := Nr.out.other Na.out ca4
      have hdj4 : ∀ x, x ∈ F4 → x ∉ F2' := fun x hx hx' => ca4.apart (fun k hk => Hr.out.lt k hk) Hdj.out x hx' hx
      have hask := Has.out w4 nr4 hr4
      obtain ⟨q0, q1, q2, q3, q4⟩ := Hcell.out _ na4.keeps
      clear hdo ca4 ha
      go_wp2_with fail
      (with_reducible refine hask.mono ?_)
      rintro e w5 ⟨rfl, F5, hr5, cr5⟩
      have ha5 := ha4.apart cr5 hdj4
      have na5 := na4.other nr4 cr5
      have nr5 := nr4.chg cr5
      have hdj5 : ∀ x, x ∈ F5 → x ∉ F4 := fun x hx hx' => cr5.apart (fun k hk => ha4.lt k hk) hdj4 x hx' hx
      clear hask q0 q1 q2 q3 q4 c0 c1 c2 c3 c4 hr4 na4 nr4 hdj4 cr5 ha4
      go_wp2
      go_roundw
      case rel => exact ⟨k + 1, F4, F5, by omega, by go_num, by rw [Hnx.out]; exact ha5.le (by omega), by rw [Hnx.out]; exact hr5.le (by omega), na5, nr5, hdj5⟩
      case measure => simp [intOf]; omega
    · have hend : (l.length : Int) ≤ (k : Int) := by omega
      have hik := Hi.out (l.take k)
      have hik2 := Lib.hid (run_inv hik)
      have haB := ha.le (show 10 * k ≤ 500 by omega)
      have hrB := hr.le (show 10 * k ≤ 500 by omega)
      generalize run D (l.take k) = d1 at *
      clear ha hr Hi
      go_wp2_with fail
      (with_reducible refine (hasCopy haB (by omega)).mono ?_)
      rintro e w4 ⟨c, F3, rfl, hc4, k4, f4⟩
      have ha4 := haB.kept k4
      have hr4 := hrB.kept k4
      have na4 := na.step k4
      have nr4 := nr.step k4
      have nc4 := na.add k4 f4
      have dca : ∀ x, x ∈ F3 → x ∉ F1 := fun x hx hx' => by have := f4 x hx; have := haB.lt x hx'; omega
      have dcr : ∀ x, x ∈ F3 → x ∉ F2' := fun x hx hx' => by have := f4 x hx; have := hrB.lt x hx'; omega
      have hs4 := same_any c r d1 F3 F2' 500 _ hc4 hr4 hik (by omega)
      have Hik := Lib.hid hik
      have Hdj2 := Lib.hid hdj2
      clear haB hrB na nr k4 f4 hdj2 hik
      go_wp2_with fail
      (with_reducible refine hs4.mono ?_)
      rintro e w5 ⟨rfl, k5⟩
      have ha5 := ha4.kept k5
      have hr5 := hr4.kept k5
      have hc5 := hc4.kept k5
      have na5 := na4.step k5
      have nr5 := nr4.step k5
      have nc5 := nc4.step k5
      clear hs4 ha4 hr4 hc4 na4 nr4 nc4 k5
      go_wp2
      obtain ⟨wz, rfl⟩ : ∃ wz : World, wz = wr := ⟨_, rfl⟩
      go_loopw [10] (fun iv wr => ∃ (j : Nat) (F3' : List Nat), j ≤ m.length ∧ iv = .int .i64 j ∧ Has wr c (run d1 (m.take j)) F3' (10 * j + 500) ∧ Has wr b d1 F1 500 ∧ Ref wr r d1 F2' 500 ∧ New wo wr F3' ∧ New wo wr F1 ∧ New wo wr F2' ∧ (∀ x, x ∈ F3' → x ∉ F1) ∧ (∀ x, x ∈ F3' → x ∉ F2')) (fun iv _ => m.length - (intOf iv).toNat)
      case atStart => exact ⟨0, F3, Nat.zero_le _, rfl, hc5.le (by omega), ha5, hr5, nc5, na5, nr5, dca, dcr⟩
      case round =>
        obtain ⟨j, F3', hj, rfl, hc, ha, hr, nc, na, nr, dca', dcr'⟩ := hrel
        clear hc5 ha5 hr5 nc5 na5 nr5 dca dcr
        by_cases hltj : j < m.length
        · obtain ⟨o, bo, off, ka, kc, rfl, ho, hgo, hsz, hoa, hcell⟩ := Op2.out j hltj
          obtain ⟨c0, c1, c2, c3, c4⟩ := hcell _ na.keeps
          have hji : (j : Int) < (m.length : Int) := by omega
          have hji0 : (0 : Int) ≤ (j : Int) := by omega
          have hdo := does_any wo wr c _ F3' (10 * j + 500) nc hc (by omega) o hgo hsz
          have hnx : run d1 (m.take (j + 1)) = ((run d1 (m.take j)).does o).1 := by rw [list_part m j o ho, run_snoc]
          rw [hoa] at hdo
          generalize (run d1 (m.take j)).does o = R at *
          obtain ⟨d', R1, R2⟩ := R
          dsimp only at hdo hnx
          have Hnx := Lib.hid hnx
          have Hha := Lib.hid ha
          have Hhr := Lib.hid hr
          have Hnc := Lib.hid nc
          have Hna := Lib.hid na
          have Hnr := Lib.hid nr
          have Hda := Lib.hid dca'
          have Hdr := Lib.hid dcr'
          clear ho hgo hsz hcell hoa hnx hc ha hr nc na nr dca' dcr'
          go_wp2_with fail
          (with_reducible refine hdo.mono ?_)
          rintro e w6 ⟨rfl, F6, hc6, cc6⟩
          have ha6 := Hha.out.apart cc6 (fun x hx hx' => Hda.out x hx' hx)
          have hr6 := Hhr.out.apart cc6 (fun x hx hx' => Hdr.out x hx' hx)
          have nc6 := Hnc.out.chg cc6
          have na6 := Hna.out.other Hnc.out cc6
          have nr6 := Hnr.out.other Hnc.out cc6
          have da6 : ∀ x, x ∈ F6 → x ∉ F1 := fun x hx hx' => cc6.apart (fun k hk => Hha.out.lt k hk) (fun y hy hy' => Hda.out y hy' hy) x hx' hx
          have dr6 : ∀ x, x ∈ F6 → x ∉ F2' := fun x hx hx' => cc6.apart (fun k hk => Hhr.out.lt k hk) (fun y hy hy' => Hdr.out y hy' hy) x hx' hx
          clear hdo cc6 c0 c1 c2 c3 c4
          go_wp2
          go_roundw
          case rel => exact ⟨j + 1, F6, by omega, by go_num, by rw [Hnx.out]; exact hc6.le (by omega), ha6, hr6, nc6, na6, nr6, da6, dr6⟩
          case measure => simp [intOf]; omega
        · have hendj : (m.length : Int) ≤ (j : Int) := by omega
          have htj : m.take j = m := List.take_of_length_le (by omega)
          rw [htj] at hc
          have hcB := hc.le (show 10 * j + 500 ≤ 1000 by omega)
          have hs6 := same_any b r d1 F1 F2' 500 _ ha hr Hik.out (by omega)
          clear hc htj
          go_wp2_with fail
          (with_reducible refine hs6.mono ?_)
          rintro e w7 ⟨rfl, k7⟩
          have ha7 := ha.kept k7
          have hr7 := hr.kept k7
          have hc7 := hcB.kept k7
          have na7 := na.step k7
          have nr7 := nr.step k7
          have nc7 := nc.step k7
          clear hs6 ha hr hcB na nr nc k7
          go_wp2
          obtain ⟨wy, rfl⟩ : ∃ wy : World, wy = wr := ⟨_, rfl⟩
          go_loopw [11] (fun iv wr => ∃ (i : Nat) (Fa Fr : List Nat), i ≤ m.length ∧ iv = .int .i64 i ∧ Has wr b (run d1 (m.take i)) Fa (10 * i + 500) ∧ Ref wr r (run d1 (m.take i)) Fr (10 * i + 500) ∧ Has wr c (run d1 m) F3' 1000 ∧ New wo wr Fa ∧ New wo wr Fr ∧ New wo wr F3' ∧ (∀ x, x ∈ Fr → x ∉ Fa) ∧ (∀ x, x ∈ F3' → x ∉ Fa) ∧ (∀ x, x ∈ F3' → x ∉ Fr)) (fun iv _ => m.length - (intOf iv).toNat)
          case atStart => exact ⟨0, F1, F2', Nat.zero_le _, rfl, ha7.le (by omega), hr7.le (by omega), hc7, na7, nr7, nc7, Hdj2.out, dca', dcr'⟩
          case round =>
            obtain ⟨i, Fa, Fr, hi, rfl, ha, hr, hc, na, nr, nc, dra, dca, dcr⟩ := hrel
            clear ha7 hr7 hc7 na7 nr7 nc7 dca' dcr'
            by_cases hlti : i < m.length
            · obtain ⟨o, bo, off, ka, kc, rfl, ho, hgo, hsz, hoa, hcell⟩ := Op2.out i hlti
              obtain ⟨c0, c1, c2, c3, c4⟩ := hcell _ na.keeps
              have hii : (i : Int) < (m.length : Int) := by omega
              have hii0 : (0 : Int) ≤ (i : Int) := by omega
              have hdo := does_any wo wr b _ Fa (10 * i + 500) na ha (by omega) o hgo hsz
              have has := fun w' (n' : New wo w' Fr) (r' : Ref w' r (run d1 (m.take i)) Fr (10 * i + 500)) => asked_any wo w' r _ Fr (10 * i + 500) n' r' (hik2.out _) (by omega) o hgo hsz
              have hnx : run d1 (m.take (i + 1)) = ((run d1 (m.take i)).does o).1 := by rw [list_part m i o ho, run_snoc]
              rw [hoa] at hdo has
              generalize (run d1 (m.take i)).does o = R at *
              obtain ⟨d', R1, R2⟩ := R
              dsimp only at hdo has hnx
              have Hcell := Lib.hid hcell
              have Has := Lib.hid has
              have Hnx := Lib.hid hnx
              have Hr := Lib.hid hr
              have Hc := Lib.hid hc
              have Na := Lib.hid na
              have Nr := Lib.hid nr
              have Nc := Lib.hid nc
              have Hra := Lib.hid dra
              have Hca := Lib.hid dca
              have Hcr := Lib.hid dcr
              clear ho hgo hsz hcell hoa has hnx hr hc na nr nc dra dca dcr
              go_wp2_with fail
              (with_reducible refine hdo.mono ?_)
              rintro e w8 ⟨rfl, F8, ha8, ca8⟩
              have hr8 := Hr.out.apart ca8 Hra.out
              have hc8 := Hc.out.apart ca8 Hca.out
              have na8 := Na.out.chg ca8
              have nr8 := Nr.out.other Na.out ca8
              have nc8 := Nc.out.other Na.out ca8
              have dar8 : ∀ x, x ∈ F8 → x ∉ Fr := fun x hx hx' => ca8.apart (fun k hk => Hr.out.lt k hk) Hra.out x hx' hx
              have dac8 : ∀ x, x ∈ F8 → x ∉ F3' := fun x hx hx' => ca8.apart (fun k hk => Hc.out.lt k hk) Hca.out x hx' hx
              have hask := Has.out w8 nr8 hr8
              obtain ⟨q0, q1, q2, q3, q4⟩ := Hcell.out _ na8.keeps
              clear hdo ca8 ha
              go_wp2_with fail
              (with_reducible refine hask.mono ?_)
              rintro e w9 ⟨rfl, F9, hr9, cr9⟩
              have ha9 := ha8.apart cr9 dar8
              have hc9 := hc8.apart cr9 Hcr.out
              have na9 := na8.other nr8 cr9
              have nc9 := nc8.other nr8 cr9
              have nr9 := nr8.chg cr9
              have dra9 : ∀ x, x ∈ F9 → x ∉ F8 := fun x hx hx' => cr9.apart (fun k hk => ha8.lt k hk) dar8 x hx' hx
              have dcr9 : ∀ x, x ∈ F3' → x ∉ F9 := fun x hx hx' => cr9.apart (fun k hk => hc8.lt k hk) Hcr.out x hx hx'
              clear hask q0 q1 q2 q3 q4 c0 c1 c2 c3 c4 hr8 na8 nr8 nc8 hc8 dar8 cr9 ha8
              go_wp2
              go_roundw
              case rel => exact ⟨i + 1, F8, F9, by omega, by go_num, by rw [Hnx.out]; exact ha9.le (by omega), by rw [Hnx.out]; exact hr9.le (by omega), hc9, na9, nr9, nc9, dra9, fun x hx hx' => dac8 x hx' hx, dcr9⟩
              case measure => simp [intOf]; omega
            · have hendi : (m.length : Int) ≤ (i : Int) := by omega
              have hti : m.take i = m := List.take_of_length_le (by omega)
              have hinv := hik2.out m
              rw [hti] at ha hr
              have haB := ha.le (show 10 * i + 500 ≤ 1000 by omega)
              have hrB := hr.le (show 10 * i + 500 ≤ 1000 by omega)
              generalize run d1 m = d2 at *
              have hs8 := same_any b r d2 Fa Fr 1000 _ haB hrB hinv (by omega)
              have hs9 : Hid (∀ w', Keeps [] wr w' → Calls Try.prog 22 #[.pointer (some ⟨c, 0, none⟩), .pointer (some ⟨r, 0, none⟩)] w' fun e w'' => e = .returned (.bool true) ∧ Keeps [] w' w'') := fun w' k => same_any c r d2 F3' Fr 1000 _ (hc.kept k) (hrB.kept k) hinv (by omega)
              have Kn := Lib.hid na.keeps
              clear ha hr hc haB hrB na nr nc dra dca dcr hti hinv
              go_wp2_with fail
              (with_reducible refine hs8.mono ?_)
              rintro e wa ⟨rfl, ka⟩
              clear hs8
              go_wp2_with (first | (go_at_call 22; (with_reducible refine (hs9.out _ ka).mono ?_); rintro e wb ⟨rfl, kb⟩) | (go_at_call 11; (with_reducible refine (awake_any _).mono ?_); rintro e wc ⟨rfl, kc⟩))
              go_ret
              exact ⟨rfl, KT (KT (KT Kn.out ka) kb) kc⟩

theorem walk_any (l m : List OpS) (v v2 : Value) (G G2 : List Nat) (W : World) (hv : OpsAt W v l G) (hv2 : OpsAt W v2 m G2) (hl : l.length ≤ 9223372036854775807) (hm : m.length ≤ 9223372036854775807) (hg : ∀ o, o ∈ l → o.good W) (hg2 : ∀ o, o ∈ m → o.good W) :
    Calls Try.prog 8 #[v, v2] W fun e w' => e = .returned (.bool true) ∧ Keeps [] W w' := by
  cases hf : fewB l
  · exact walk_no l m v v2 G G2 W hv hv2 hl hm hg hg2 (.inl hf)
  · cases hf2 : fewB m
    · exact walk_no l m v v2 G G2 W hv hv2 hl hm hg hg2 (.inr ⟨hf, hf2⟩)
    · exact walk_yes l m v v2 G G2 W hv hv2 hg hg2 hf hf2
-- ROWEND
set_option maxRecDepth 100000 in
theorem lifted (os : Os) (started : os.Started) (H : Type) (enc : TypeId × Value → H) :
    ReturnsInHanded {} Try.checked os 8 .any (Rows.ssdCopiesSpec.pre6 enc Try.prog Try.f8 Rows.ssdCopiesRow.domain false) (Rows.ssdCopiesSpec.post enc Try.prog Try.f8 false true false false) := by
  refine returnsInHanded_of_change (C := Try.checked) Try.own started (by kernel_rfl) Try.func8
    (ChangeSpec.witness6 (enc := enc) (C := Try.checked) false ⟨#[], #[.slice none 0 0, .slice none 0 0], []⟩ 8 (by kernel_rfl) (by kernel_rfl) (by kernel_rfl) (by kernel_rfl)) ?_
  intro W base args ds gs before hval0 hW _ _
  have hval : ∀ (j : Nat) t v, Try.f8.params[j]? = some t → args[j]? = some v → Value.okWide Try.prog W .any base t v := hval0
  have hW' := hW
  obtain ⟨p, q, hA0, hV, rfl, hfz, hnd⟩ := hW
  have hA : DataW.TrodAll enc Try.prog W 0 (fun _ => true) true Try.f8.params.toList args.toList ds p := hA0
  rw [Try.params8] at hA hval
  obtain ⟨v0, vs0, d0, ds0, p0, q0, hargs, rfl, rfl, h0, r0⟩ := trodAll_cons hA
  obtain ⟨v1, vs1, d1, ds1, p1, q1, rfl, rfl, rfl, h1, r1⟩ := trodAll_cons r0
  obtain ⟨rfl, rfl, rfl⟩ := trodAll_nil r1
  obtain rfl : args = #[v0, v1] := by cases args; simp_all
  obtain ⟨l, Gl, hl, gl, bl, ll⟩ := open_rows OpS.vals (OpS.good W) 5 (by kernel_rfl) (by decide) Try.underlying38 (hval 0 38 v0 rfl rfl) (fun _ _ _ h => elem_op h) h0
  obtain ⟨m, Gm, hm, gm, bm, lm⟩ := open_rows OpS.vals (OpS.good W) 5 (by kernel_rfl) (by decide) Try.underlying38 (hval 1 38 v1 rfl rfl) (fun _ _ _ h => elem_op h) h1
  refine (walk_any l m v0 v1 Gl Gm W hl hm ll lm gl gm).mono fun e W' ⟨he, hk⟩ => ?_
  subst he
  exact ⟨_, rfl, law_end Try.laidOut (by kernel_rfl) rfl rfl Try.underlying4 hW' rfl hk⟩

theorem proved : Rows.SsdCopiesSaid :=
  OpenClaim.holds_of_wide 8 Try.f8 rfl rfl rfl rfl rfl rfl rfl ⟨rfl, rfl, rfl, rfl, rfl⟩ rfl rfl rfl rfl rfl (by kernel_rfl) Try.func8 (by kernel_rfl)
    (of_decide_eq_true (by kernel_rfl)) (by unfold Func.isWrapper; first | (rw [if_pos (by decide +kernel)]; kernel_rfl) | (rw [if_neg (by decide +kernel)]; exact ⟨rfl, rfl⟩))
    (fun os started H enc _ => lifted os started H enc)
end Go.Proofs.Ytddehagceenbnaa.lawSsdCopies
