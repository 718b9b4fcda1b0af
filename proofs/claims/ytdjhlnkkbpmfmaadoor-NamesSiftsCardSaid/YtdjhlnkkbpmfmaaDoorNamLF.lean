/- NamesSifts, walked. -/
import Derived.Test.YtdjhlnkkbpmfmaaDoorNamV
namespace Go.Proofs.YtdjhlnkkbpmfmaaDoor.lawNamesSifts
open Go.RowKit

theorem wpList_appSlN {P : Program} {t e : TypeId} {bytes : Nat} {z : Value} (T : SlTy P t e 1 bytes z) {ops : Array Oper} {rest : List Oper} {o : Oper} {a : Act} {Q : Exit → Act → World → Prop} {w : World} (hgd : o.guard = none) (s x : Operand)
    (ho : o.op = .call { callee := .builtin .append, args := #[s, x], argTypes := #[t, t] }) (v : Value) (n : Nat) (xs : List Value) (hs : a.eval s = v) (xv : Value) (hx : a.eval x = xv) (news : List Value) (N : Nat) (hN : n + news.length = N) (hsrc : SlSrc w xv news)
    (hown : w.ownsRow 0 e 1 v n xs) (h1 : ∀ u ∈ news, u.oneCell' = true) (hlen : N * bytes ≤ 140737488355328) (h63 : N ≤ maxLen)
    (h : ∀ ad' cap w', w'.ownsRow 0 e 1 (.slice ad' N cap) N (xs ++ news) → Chg v.ownBlock.toList (Value.slice ad' N cap).ownBlock.toList w w' → wpList P ops Q rest (a.put o.dst (.slice ad' N cap)) w') :
    wpList P ops Q (o :: rest) a w := by
  subst hN
  exact wpList_appSl T hgd s x ho v n xs hs xv hx news hsrc hown h1 hlen h63 h

set_option maxHeartbeats 16000000 in
set_option maxRecDepth 100000 in
theorem walk (l : List ByteArray) (v : Value) (G : List Nat) (u : List UInt8) (k : Int) (W : World) (hv : SlAt W v (l.map Value.string) G) (hl : ¬ 40 < l.length) (hu : u.length ≤ 100) (hT : TabC W) :
    Calls Tryd.prog 8 #[v, .string (str u), .int .i64 k] W fun e w' => e = .returned (.bool true) ∧ Keeps [] W w' := by
  have Aw := Lib.hid (fun (w' : World) (k : Keeps [] W w') => awake_any w' (hT.kept k))
  have Hv := Lib.hid hv
  have Sf := Lib.hid (fun (w' : World) (kk : Keeps [] W w') (hs : ∀ s, s ∈ l → s.size ≤ 100) => sift_any l v G u k w' (hv.keep kk (by simp)) (by omega) hs)
  have Of := Lib.hid (fun (s : ByteArray) (hs : s.size ≤ 100) (w' : World) => of_any s.data.toList u k w' (by rw [dlen]; omega) (by omega))
  obtain ⟨ad, cap, rfl, _⟩ := hv
  rw [List.length_map] at Sf ⊢
  have Hl : Hid (l.length ≤ 40) := by unfold Hid; omega
  have hi : ¬ (40 : Int) < (l.length : Int) := by omega
  have hj : ¬ (100 : Int) < (u.length : Int) := by omega
  clear hT hl hu
  go_enter Tryd.func8, Tryd.ntmps8
  go_wp2_with fail
  go_loopw [7, 8] (fun ov iv wr => ∃ (i : Nat) (V : List Int), i ≤ l.length ∧ iv = .int .i64 i ∧ Hid (Got l u k i V) ∧ Hid (wr.ownsRow 0 3 1 ov V.length (V.map intV)) ∧ Hid (∀ x, x ∈ ov.ownBlock.toList → W.heap.size ≤ x) ∧ Keeps [] W wr) (fun _ iv _ => l.length - (intOf iv).toNat)
  case atStart => exact ⟨0, [], Nat.zero_le _, rfl, Got.start l u k, World.ownsRow_nil _ _ _ _, by simp [Hid, Value.ownBlock], Keeps.refl [] _⟩
  case round =>
    obtain ⟨i, V, hil, rfl, Hg, Hrow, Hfr, hkk⟩ := hrel
    obtain ⟨ad2, cap2, rfl⟩ := ownsRow_shape Hrow.out
    have Hkk := Lib.hid hkk
    have hVl := Hg.out.le
    by_cases hlt : i < l.length
    · have hki : (i : Int) < (l.length : Int) := by omega
      have hki0 : (0 : Int) ≤ (i : Int) := by omega
      obtain ⟨s, hsx⟩ : ∃ s, l[i]? = some s := ⟨l[i], by simp [hlt]⟩
      obtain ⟨ad', cap', e1, hc⟩ := Hv.out
      obtain ⟨b, off, rfl, _, hcell⟩ := hc (by intro h0; rw [List.map_eq_nil_iff] at h0; rw [h0] at hlt; simp at hlt)
      obtain rfl : ad = some ⟨b, off, none⟩ := by injection e1
      have c0 := hkk.cell0 (hcell i (.string s) (by rw [List.getElem?_map, hsx]; rfl))
      have Hsx := Lib.hid hsx
      clear hcell hc e1 hsx hkk
      by_cases hz : 100 < s.size
      · have hzi : (100 : Int) < (s.size : Int) := by omega
        clear hz
        go_wp2_with (go_at_call 10; (with_reducible refine (Aw.out _ Hkk.out).mono ?_); rintro e w1 ⟨rfl, k1⟩)
        go_ret
        exact ⟨rfl, KT Hkk.out k1⟩
      have hzi : ¬ (100 : Int) < (s.size : Int) := by omega
      have hz2 : s.size ≤ 100 := by omega
      have Hz := Lib.hid hz2
      have Of1 := Lib.hid (Of.out s hz2)
      rw [str_self] at Of1
      obtain ⟨n, hn⟩ : ∃ n, ofI s.data.toList u k = n := ⟨_, rfl⟩
      rw [hn] at Of1
      have Hn := Lib.hid hn
      obtain ⟨m, hm⟩ : ∃ m, V.length = m := ⟨_, rfl⟩
      rw [hm] at Hrow Hfr hVl
      rw [hm]
      have Hm := Lib.hid hm
      have Hrk := Lib.hid (fun (w' : World) (kk : Keeps [] wr w') => own_keep Hrow.out kk (by simp))
      have hm40 : m ≤ 40 := by have := Hl.out; omega
      clear hz hz2 hn hm hVl
      go_wp2_with (go_at_call 21; (with_reducible refine (Of1.out _).mono ?_); rintro e w1 ⟨rfl, hww⟩; have hww2 := hww.symm; subst hww2; clear hww)
      go_loop [10] (fun pv => ∃ p : Nat, p ≤ m ∧ pv = .int .i64 p ∧ Hid (∀ x, x ∈ V.take p → x < n)) (fun pv => m - (intOf pv).toNat)
      case atStart => exact ⟨0, Nat.zero_le _, rfl, by simp [Hid]⟩
      case round =>
        obtain ⟨p, hpm, rfl, Hp⟩ := hrel
        by_cases hp : p < m
        · obtain ⟨g, rfl⟩ : ∃ g, ad2 = some ⟨g, 0, none⟩ := by
            rcases Hrow.out.2 with ⟨_, e⟩ | ⟨g, cap3, cur, e, _⟩
            · omega
            · injection e with e; exact ⟨g, e⟩
          have hpi : (p : Int) < (m : Int) := by omega
          have hpi0 : (0 : Int) ≤ (p : Int) := by omega
          obtain ⟨x, hx⟩ : ∃ x, V[p]? = some x := by
            have := Hm.out
            exact ⟨V[p]'(by omega), List.getElem?_eq_getElem (by omega)⟩
          have c1 := (own_cells Hrow.out).2 p x hx
          have hst : V.take (p + 1) = V.take p ++ [x] := by rw [List.take_add_one, hx]; rfl
          have Hst := Lib.hid hst
          have Hx := Lib.hid hx
          clear hst hx
          by_cases hxn : x < n
          · have Hxn := Lib.hid hxn
            go_wp2_with fail
            go_round
            case rel =>
              refine ⟨p + 1, by omega, by go_num, fun y hy => ?_⟩
              rw [Hst.out, List.mem_append, List.mem_singleton] at hy
              rcases hy with hy | hy
              · exact Hp.out y hy
              · rw [hy]; exact Hxn.out
            case measure => simp [intOf]; omega
          · by_cases hn0 : n < 0
            · have Hn0 := Lib.hid hn0
              go_wp2_with fail
              go_roundw
              case rel => exact ⟨i + 1, V, by omega, by go_num, Hg.out.skip Hsx.out Hz.out (.inl (by rw [Hn.out]; exact Hn0.out)), by rw [Hm.out]; exact Hrow.out, Hfr.out, Hkk.out⟩
              case measure => simp [intOf]; omega
            · by_cases hxe : x = n
              · have hb : (x == n) = true := by rw [hxe]; exact beq_self_eq_true n
                have Hxe := Lib.hid hxe
                clear hxe
                go_wp2_with fail
                go_roundw
                case rel => exact ⟨i + 1, V, by omega, by go_num, Hg.out.skip Hsx.out Hz.out (.inr (by rw [Hn.out, ← Hxe.out]; exact List.mem_of_getElem? Hx.out)), by rw [Hm.out]; exact Hrow.out, Hfr.out, Hkk.out⟩
                case measure => simp [intOf]; omega
              · have hb : (x == n) = false := by rw [beq_eq_false_iff_ne]; exact hxe
                have Hgo := Lib.hid (Hg.out.put (p := p) Hsx.out Hz.out (by rw [Hn.out]; omega) (by rw [Hn.out]; exact Hp.out) (fun y hy => by rw [Hx.out] at hy; rw [Hn.out]; injection hy with hy; omega))
                clear hxe
                have hcap := (own_holds Hrow.out).2.2.2
                have q1 : (p : Int) ≤ (cap2 : Int) := by omega
                have q2 : (p : Int) ≤ (m : Int) := by omega
                have z1 : ¬ cap2 = p := by omega
                have z2 : ¬ p = cap2 := by omega
                have z3 : ¬ cap2 - p = 0 := by omega
                have z4 : ¬ cap2 ≤ p := by omega
                have z5 : p < cap2 := by omega
                have SRC1 := Lib.hid (src_take Hrow.out hpm cap2)
                have SRC2 := Lib.hid (fun (w' : World) (kk : Keeps [] wr w') => src_drop (Hrk.out w' kk) hpm (cap2 - p))
                have hVm := Hm.out
                have E1 : Hid (0 + ((V.take p).map intV).length = p) := by unfold Hid; rw [List.length_map, List.length_take]; omega
                have E2 : Hid (p + 1 + ((V.drop p).map intV).length = m + 1) := by unfold Hid; rw [List.length_map, List.length_drop]; omega
                clear hVm hcap
                go_wp2_with (first
                  | (at_builtin; refine wpList_appSlN tyInts rfl (.tmp 71) (.tmp 74) rfl (.slice none 0 0) 0 [] rfl _ rfl _ p E1.out SRC1.out (World.ownsRow_nil _ _ _ _) (one_cell_ints _) (by omega) (by unfold maxLen; omega) ?_; intro a1 cp1 w1 ho1 hc1; have Ho1 := Lib.hid ho1; have Hc1 := Lib.hid hc1; clear ho1 hc1)
                  | (at_builtin; refine wpList_app1 tyInts rfl (.tmp 76) (.tmp 78) rfl _ _ _ rfl rfl Ho1.out rfl (by intro u hu; simp at hu; subst hu; rfl) (by omega) (by unfold maxLen; omega) ?_; intro g2 cp2 w2 ho2 hc2; have Ho2 := Lib.hid ho2; have Hc2 := Lib.hid (Hc1.out.trans hc2); have K2 : Hid (Keeps [] wr w2) := Hc2.out.keeps; clear ho2 hc2)
                  | (at_builtin; refine wpList_appSlN tyInts rfl (.tmp 80) (.tmp 83) rfl _ _ _ rfl _ rfl _ (m + 1) E2.out (SRC2.out _ K2.out) Ho2.out (one_cell_ints _) (by omega) (by unfold maxLen; omega) ?_; intro a3 cp3 w3 ho3 hc3; have Ho3 := Lib.hid ho3; have Hc3 := Lib.hid (Hc2.out.trans hc3); clear ho3 hc3))
                go_roundw
                case rel =>
                  refine ⟨i + 1, insertR V n p, by omega, by go_num, by have h := Hgo.out; rw [Hn.out] at h; exact h, ?_, fun x hx => (Hc3.out.fresh x hx).elim (fun h => by cases h) (fun h => Nat.le_trans Hkk.out.size h), KT Hkk.out Hc3.out.keeps⟩
                  rw [insertR_length, Hm.out]
                  have e : (insertR V n p).map intV = (V.take p).map intV ++ [.int .i64 n] ++ (V.drop p).map intV := by unfold insertR; rw [List.map_append, List.map_append]; rfl
                  rw [e]
                  exact Ho3.out
                case measure => simp [intOf]; omega
        · obtain rfl : p = m := by omega
          have hpi : ¬ (p : Int) < (p : Int) := by omega
          by_cases hn0 : n < 0
          · have Hn0 := Lib.hid hn0
            go_wp2_with fail
            go_roundw
            case rel => exact ⟨i + 1, V, by omega, by go_num, Hg.out.skip Hsx.out Hz.out (.inl (by rw [Hn.out]; exact Hn0.out)), by rw [Hm.out]; exact Hrow.out, Hfr.out, Hkk.out⟩
            case measure => simp [intOf]; omega
          · have Hgo := Lib.hid (Hg.out.put (p := p) Hsx.out Hz.out (by rw [Hn.out]; omega) (by rw [Hn.out]; exact Hp.out) (fun y hy => by rw [List.getElem?_eq_none (by have := Hm.out; omega)] at hy; cases hy))
            cases ad2 with
            | none =>
              obtain ⟨hp0, hc0⟩ : p = 0 ∧ cap2 = 0 := by
                rcases Hrow.out.2 with ⟨e, e2⟩ | ⟨g, cap3, cur, e, _⟩
                · injection e with _ e3 e4
                  exact ⟨e2, e4⟩
                · injection e with e
                  cases e
              subst hp0 hc0
              have hV0 : V = [] := List.length_eq_zero_iff.1 Hm.out
              have SRC1 : Hid (SlSrc wr (.slice none 0 0) (([] : List Int).map intV)) := .inl ⟨rfl, rfl⟩
              have SRC2 : Hid (∀ w' : World, Keeps [] wr w' → SlSrc w' (.slice none 0 0) (([] : List Int).map intV)) := fun _ _ => .inl ⟨rfl, rfl⟩
              have E1 : Hid (0 + (([] : List Int).map intV).length = 0) := rfl
              have E2 : Hid (0 + 1 + (([] : List Int).map intV).length = 1) := rfl
              have HV0 := Lib.hid hV0
              clear hV0
              go_wp2_with (first
                | (at_builtin; refine wpList_appSlN tyInts rfl (.tmp 71) (.tmp 74) rfl (.slice none 0 0) 0 [] rfl _ rfl _ 0 E1.out SRC1.out (World.ownsRow_nil _ _ _ _) (one_cell_ints _) (by omega) (by unfold maxLen; omega) ?_; intro a1 cp1 w1 ho1 hc1; have Ho1 := Lib.hid ho1; have Hc1 := Lib.hid hc1; clear ho1 hc1)
                | (at_builtin; refine wpList_app1 tyInts rfl (.tmp 76) (.tmp 78) rfl _ _ _ rfl rfl Ho1.out rfl (by intro u hu; simp at hu; subst hu; rfl) (by omega) (by unfold maxLen; omega) ?_; intro g2 cp2 w2 ho2 hc2; have Ho2 := Lib.hid ho2; have Hc2 := Lib.hid (Hc1.out.trans hc2); have K2 : Hid (Keeps [] wr w2) := Hc2.out.keeps; clear ho2 hc2)
                | (at_builtin; refine wpList_appSlN tyInts rfl (.tmp 80) (.tmp 83) rfl _ _ _ rfl _ rfl _ 1 E2.out (SRC2.out _ K2.out) Ho2.out (one_cell_ints _) (by omega) (by unfold maxLen; omega) ?_; intro a3 cp3 w3 ho3 hc3; have Ho3 := Lib.hid ho3; have Hc3 := Lib.hid (Hc2.out.trans hc3); clear ho3 hc3))
              go_roundw
              case rel =>
                refine ⟨i + 1, insertR V n 0, by omega, by go_num, by have h := Hgo.out; rw [Hn.out] at h; exact h, ?_, fun x hx => (Hc3.out.fresh x hx).elim (fun h => by cases h) (fun h => Nat.le_trans Hkk.out.size h), KT Hkk.out Hc3.out.keeps⟩
                rw [insertR_length, Hm.out]
                have e : (insertR V n 0).map intV = (V.take 0).map intV ++ [.int .i64 n] ++ (V.drop 0).map intV := by unfold insertR; rw [List.map_append, List.map_append]; rfl
                rw [e]
                rw [HV0.out]
                exact Ho3.out
              case measure => simp [intOf]; omega
            | some ad3 =>
              obtain ⟨g, rfl⟩ : ∃ g, ad3 = ⟨g, 0, none⟩ := by
                rcases Hrow.out.2 with ⟨e, _⟩ | ⟨g, cap3, cur, e, _⟩
                · cases e
                · injection e with e
                  injection e with e
                  exact ⟨g, e⟩
              have hcap := (own_holds Hrow.out).2.2.2
              have q1 : (p : Int) ≤ (cap2 : Int) := by omega
              have SRC1 := Lib.hid (src_take Hrow.out (Nat.le_refl p) cap2)
              have hVm := Hm.out
              have SRC2 : Hid (∀ (w' : World) (ad : Addr) (c : Nat), SlSrc w' (.slice (some ad) 0 c) ((V.drop p).map intV)) := fun w' ad c => by
                rw [List.drop_of_length_le (by omega)]
                exact .inr ⟨ad, c, rfl, fun j u hj => by simp at hj⟩
              have E1 : Hid (0 + ((V.take p).map intV).length = p) := by unfold Hid; rw [List.length_map, List.length_take]; omega
              have E2 : Hid (p + 1 + ((V.drop p).map intV).length = p + 1) := by unfold Hid; rw [List.length_map, List.length_drop]; omega
              by_cases hcp : cap2 = p
              · subst hcp
                clear hVm hcap
                go_wp2_with (first
                  | (at_builtin; refine wpList_appSlN tyInts rfl (.tmp 71) (.tmp 74) rfl (.slice none 0 0) 0 [] rfl _ rfl _ cap2 E1.out SRC1.out (World.ownsRow_nil _ _ _ _) (one_cell_ints _) (by omega) (by unfold maxLen; omega) ?_; intro a1 cp1 w1 ho1 hc1; have Ho1 := Lib.hid ho1; have Hc1 := Lib.hid hc1; clear ho1 hc1)
                  | (at_builtin; refine wpList_app1 tyInts rfl (.tmp 76) (.tmp 78) rfl _ _ _ rfl rfl Ho1.out rfl (by intro u hu; simp at hu; subst hu; rfl) (by omega) (by unfold maxLen; omega) ?_; intro g2 cp2 w2 ho2 hc2; have Ho2 := Lib.hid ho2; have Hc2 := Lib.hid (Hc1.out.trans hc2); have K2 : Hid (Keeps [] wr w2) := Hc2.out.keeps; clear ho2 hc2)
                  | (at_builtin; refine wpList_appSlN tyInts rfl (.tmp 80) (.tmp 83) rfl _ _ _ rfl _ rfl _ (cap2 + 1) E2.out (SRC2.out _ _ _) Ho2.out (one_cell_ints _) (by omega) (by unfold maxLen; omega) ?_; intro a3 cp3 w3 ho3 hc3; have Ho3 := Lib.hid ho3; have Hc3 := Lib.hid (Hc2.out.trans hc3); clear ho3 hc3))
                go_roundw
                case rel =>
                  refine ⟨i + 1, insertR V n cap2, by omega, by go_num, by have h := Hgo.out; rw [Hn.out] at h; exact h, ?_, fun x hx => (Hc3.out.fresh x hx).elim (fun h => by cases h) (fun h => Nat.le_trans Hkk.out.size h), KT Hkk.out Hc3.out.keeps⟩
                  rw [insertR_length, Hm.out]
                  have e : (insertR V n cap2).map intV = (V.take cap2).map intV ++ [.int .i64 n] ++ (V.drop cap2).map intV := by unfold insertR; rw [List.map_append, List.map_append]; rfl
                  rw [e]
                  exact Ho3.out
                case measure => simp [intOf]; omega
              · have z1 : ¬ cap2 = p := by omega
                have z2 : ¬ p = cap2 := by omega
                have z3 : ¬ cap2 - p = 0 := by omega
                have z4 : ¬ cap2 ≤ p := by omega
                have z5 : p < cap2 := by omega
                clear hVm hcap hcp
                go_wp2_with (first
                  | (at_builtin; refine wpList_appSlN tyInts rfl (.tmp 71) (.tmp 74) rfl (.slice none 0 0) 0 [] rfl _ rfl _ p E1.out SRC1.out (World.ownsRow_nil _ _ _ _) (one_cell_ints _) (by omega) (by unfold maxLen; omega) ?_; intro a1 cp1 w1 ho1 hc1; have Ho1 := Lib.hid ho1; have Hc1 := Lib.hid hc1; clear ho1 hc1)
                  | (at_builtin; refine wpList_app1 tyInts rfl (.tmp 76) (.tmp 78) rfl _ _ _ rfl rfl Ho1.out rfl (by intro u hu; simp at hu; subst hu; rfl) (by omega) (by unfold maxLen; omega) ?_; intro g2 cp2 w2 ho2 hc2; have Ho2 := Lib.hid ho2; have Hc2 := Lib.hid (Hc1.out.trans hc2); have K2 : Hid (Keeps [] wr w2) := Hc2.out.keeps; clear ho2 hc2)
                  | (at_builtin; refine wpList_appSlN tyInts rfl (.tmp 80) (.tmp 83) rfl _ _ _ rfl _ rfl _ (p + 1) E2.out (SRC2.out _ _ _) Ho2.out (one_cell_ints _) (by omega) (by unfold maxLen; omega) ?_; intro a3 cp3 w3 ho3 hc3; have Ho3 := Lib.hid ho3; have Hc3 := Lib.hid (Hc2.out.trans hc3); clear ho3 hc3))
                go_roundw
                case rel =>
                  refine ⟨i + 1, insertR V n p, by omega, by go_num, by have h := Hgo.out; rw [Hn.out] at h; exact h, ?_, fun x hx => (Hc3.out.fresh x hx).elim (fun h => by cases h) (fun h => Nat.le_trans Hkk.out.size h), KT Hkk.out Hc3.out.keeps⟩
                  rw [insertR_length, Hm.out]
                  have e : (insertR V n p).map intV = (V.take p).map intV ++ [.int .i64 n] ++ (V.drop p).map intV := by unfold insertR; rw [List.map_append, List.map_append]; rfl
                  rw [e]
                  exact Ho3.out
                case measure => simp [intOf]; omega
    · obtain rfl : i = l.length := by omega
      have hg := Hg.out
      have hsm : ∀ s, s ∈ l → s.size ≤ 100 := fun s hs => hg.small s (by rw [List.take_length]; exact hs)
      have hmem := hg.mem
      rw [List.take_length] at hmem
      have hcm := sorted_rises (selL l u k) V hg.rises hmem
      have Sf1 : Hid (∀ w', Keeps [] W w' → Calls Tryd.prog 22 #[.slice ad l.length cap, .string (str u), .int .i64 k] w' fun e w2 => ∃ (v' : Value) (F : List Nat), e = .returned v' ∧ SlAt w2 v' (V.map intV) F ∧ (∀ x, x ∈ F → w'.heap.size ≤ x) ∧ Keeps [] w' w2) := fun w' kk => by
        have h := Sf.out w' kk hsm
        rw [hcm] at h
        exact h
      have Hl2 := Hl.out
      have It : Hid (∀ (w2 : World) (v' : Value) (F : List Nat), Keeps [] wr w2 → SlAt w2 v' (V.map intV) F → Calls Tryd.prog 17 #[v', .slice ad2 V.length cap2] w2 fun e w3 => e = .returned (.bool true) ∧ Keeps [] w2 w3) := fun w2 v' F kk h => by
        have h1 := ints_any V V v' (.slice ad2 V.length cap2) _ _ w2 h ((SlAt.own Hrow.out).keep kk (by simp)) (by omega) (by omega)
        rw [decide_eq_true rfl] at h1
        exact h1
      clear hg hsm hmem hcm hkk hVl Hl2
      go_wp2_with (first
        | (go_at_call 22; (with_reducible refine (Sf1.out _ Hkk.out).mono ?_); rintro e w4 ⟨v', F, rfl, h3, _, k4⟩)
        | (go_at_call 17; (with_reducible refine (It.out _ _ F k4 h3).mono ?_); rintro e w5 ⟨rfl, k5⟩)
        | (go_at_call 10; (with_reducible refine (Aw.out _ (KT Hkk.out (KT k4 k5))).mono ?_); rintro e w6 ⟨rfl, k6⟩))
      go_ret
      exact ⟨rfl, KT (KT Hkk.out (KT k4 k5)) k6⟩
end Go.Proofs.YtdjhlnkkbpmfmaaDoor.lawNamesSifts
