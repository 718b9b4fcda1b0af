/- Layer 4, the reference: a call is asked of it; it is compared. -/
import Derived.Test.YtddehagceenbnaaSsdRefF
namespace Go.Proofs.Ytddehagceenbnaa
open Go.RowKit

/-- What it has now is what lasts, and what is pending, one behind the other. -/
def Inv (d : Dev) : Prop := d.now = d.nows

theorem inv_putN {d : Dev} (h : Inv d) (a : Nat) (l : List UInt8) : ∀ k, Inv (d.putN a l k)
  | 0 => h
  | k + 1 => by
    have h' := inv_putN h a l k
    show (d.putN a l k).now.set _ _ = Dev.settle (d.putN a l k).last ((d.putN a l k).pend ++ [_])
    rw [Dev.settle_snoc]
    have e : (d.putN a l k).now = Dev.settle (d.putN a l k).last (d.putN a l k).pend := h'
    rw [e]

theorem inv_tick {d : Dev} (h : Inv d) : Inv d.tick := by unfold Dev.tick; split <;> exact h

theorem inv_does {d : Dev} (h : Inv d) (o : OpS) : Inv (d.does o).1 := by
  unfold Dev.does
  split
  · show Inv (d.write _ _).1
    unfold Dev.write
    split
    · exact h
    · split
      · exact inv_tick h
      · split
        · exact inv_tick h
        · split
          · exact inv_tick h
          · exact inv_putN (inv_tick h) _ _ _
  · split
    · show Inv d.barrier.1
      unfold Dev.barrier
      split
      · exact h
      · show d.tick.now = Dev.settle (Dev.settle d.last d.pend) []
        have e : d.tick.now = d.now := by unfold Dev.tick; split <;> rfl
        rw [e]
        exact h
    · split
      · exact rfl
      · split
        · exact h
        · split
          · exact h
          · exact h

theorem does_ok {d : Dev} (h : d.ok) (o : OpS) (h0 : -9223372036854775808 ≤ o.n) (h1 : o.n ≤ 9223372036854775807) : (d.does o).1.ok ∧ (d.does o).1.pend.length ≤ d.pend.length + o.data.size / 64 := by
  unfold Dev.does
  split
  · have := Dev.write_ok h o.pos o.data.data.toList
    rw [dlen] at this
    exact this
  · split
    · exact ⟨(Dev.barrier_ok h).1, Nat.le_trans (Dev.barrier_ok h).2 (Nat.le_add_right _ _)⟩
    · split
      · exact ⟨(Dev.crash_ok h _).1, by rw [(Dev.crash_ok h _).2]; omega⟩
      · split
        · exact ⟨Dev.stop_ok h h0 h1, Nat.le_add_right _ _⟩
        · split
          · exact ⟨Dev.lose_ok h, Nat.le_add_right _ _⟩
          · exact ⟨h, Nat.le_add_right _ _⟩

theorem inv_read {d : Dev} (h : Inv d) (a n : Int) : d.readR a n = d.read a n := by
  unfold Dev.readR
  have e : { d with now := d.nows } = d := by rw [← show d.now = d.nows from h]
  rw [e]

theorem refLose {w : World} {b : Nat} {d : Dev} {vL vP : Value} (h : RefIs w b d vL vP) : RefIs (w.setCell ⟨b, 2, none⟩ (.bool true)) b d.lose vL vP ∧ Keeps [b] w (w.setCell ⟨b, 2, none⟩ (.bool true)) := by
  have hk : Keeps [b] w (w.setCell ⟨b, 2, none⟩ (.bool true)) := (Keeps.refl [b] w).setCell (p := ⟨b, 2, none⟩) (by simp) _
  exact ⟨⟨heap_setCell h.hb 2 _, own_keep h.last hk (one_not (own_ne h.hb h.last (by decide))), own_keep h.pend hk (one_not (own_ne h.hb h.pend (by decide)))⟩, hk⟩

set_option maxHeartbeats 2000000 in
theorem asked_any (W w : World) (b : Nat) (d : Dev) (F : List Nat) (B : Nat) (hn : New W w F) (h : Ref w b d F B) (hi : Inv d) (hB : B + 10 ≤ 1000000000) (o : OpS) (hg : o.good W) (hd : o.data.size ≤ 640) :
    Calls Try.prog 23 #[.pointer (some ⟨b, 0, none⟩), o.agg] w fun e w' =>
      e = .returned (.tuple #[.string (str (d.does o).2.1), .int .i64 (d.does o).2.2]) ∧ ∃ F', Ref w' b (d.does o).1 F' (B + 10) ∧ Chg F F' w w' := by
  have hdk := does_ok h.ok o hg.n0 hg.n1
  obtain ⟨a0, a1, p0, p1, n0, n1, s0, ⟨G, hkv, hG⟩, k1⟩ := hg
  obtain ⟨ask, pos, n, data, kv, keep⟩ := o
  dsimp only [OpS.agg] at *
  have hkv2 := hkv
  obtain ⟨ka, kc, rfl, _⟩ := hkv
  simp only [List.length_map] at *
  have Hkv := Lib.hid hkv2
  obtain ⟨⟨vL, vP, hR, rfl⟩, hok, hfew⟩ := h
  have hk : Keeps [] w (w.alloc (.cells #[.int .i64 ask, .int .i64 pos, .int .i64 n, .string data, .slice ka keep.length kc] 41)) := (Keeps.refl [] w).alloc _
  have h' := hR.kept hk
  have Hk := Lib.hid hk
  have end1 : ∀ (w1 w2 : World) (d' : Dev) (vP' : Value), Keeps [] w w1 → RefIs w2 b d' vL vP' → Chg (refF b vL vP) (refF b vL vP') w1 w2 → d'.ok → d'.pend.length ≤ d.pend.length + data.size / 64 → ∃ F', Ref w2 b d' F' (B + 10) ∧ Chg (refF b vL vP) F' w w2 := fun w1 w2 d' vP' k h c h1 h2 =>
    ⟨_, ⟨⟨vL, vP', h, rfl⟩, h1, by omega⟩, ⟨(k.mono (by simp)).trans c.keeps (fun _ h => .inl h), fun x hx => (c.fresh x hx).imp id (fun h => Nat.le_trans k.size h)⟩⟩
  have End := Lib.hid end1
  have hp9 : d.pend.length ≤ 1000000000 := by omega
  have Wr := Lib.hid (refWrite_any b d vL vP _ h' hok pos data hp9 (by omega) (by omega))
  have Ba := Lib.hid (refBarrier_any b d vL vP _ h' hok hp9)
  have Cr := Lib.hid (refCrash_any b d vL vP _ h' hok hp9 _ keep G ((Hkv.out.keep hn.keeps (by simp)).keep hk (by simp)) (fun k hk2 => Nat.lt_of_lt_of_le (hG k hk2) (Nat.le_trans hn.keeps.size hk.size)) (fun k hk2 hk' => by have := hn.fresh k hk'; have := hG k hk2; omega))
  have St := Lib.hid (refStop_any b d vL vP _ h' n)
  have hre := refRead_any b d vL vP _ h' hok hp9 pos n (by omega)
  rw [inv_read hi] at hre
  have Re := Lib.hid hre
  have Lo := Lib.hid (refLose h')
  have c2 := cell_of_heap h'.hb 2
  have f2 := free_of_heap h'.hb 2
  have Hh' := Lib.hid h'
  have Hdk := Lib.hid hdk
  unfold Dev.does at Hdk ⊢
  dsimp only at Hdk ⊢
  clear hn hR hkv2 hG hk h' end1 hre hdk hok hi
  rcases ask_of ask with rfl | rfl | rfl | rfl | rfl | ⟨e0, e1, e2, e3, e4⟩
  · simp only [if_true] at Hdk ⊢
    clear c2 f2
    go_enter Try.func23, Try.ntmps23
    go_wp2_with (go_at_call 33; (with_reducible refine Wr.out.mono ?_); rintro e w1 ⟨rfl, v1, h1, c1⟩)
    go_ret2
    exact ⟨rfl, End.out _ _ _ _ Hk.out h1 c1 Hdk.out.1 Hdk.out.2⟩
  · simp only [if_true, show ¬ ((1 : Int) = 0) by decide, if_false] at Hdk ⊢
    clear c2 f2
    go_enter Try.func23, Try.ntmps23
    go_wp2_with (go_at_call 34; (with_reducible refine Ba.out.mono ?_); rintro e w1 ⟨rfl, v1, h1, c1⟩)
    go_ret2
    exact ⟨rfl, End.out _ _ _ _ Hk.out h1 c1 Hdk.out.1 Hdk.out.2⟩
  · simp only [if_true, show ¬ ((2 : Int) = 0) by decide, show ¬ ((2 : Int) = 1) by decide, if_false] at Hdk ⊢
    clear c2 f2
    go_enter Try.func23, Try.ntmps23
    go_wp2_with (go_at_call 35; (with_reducible refine Cr.out.mono ?_); rintro e w1 ⟨rfl, v1, h1, c1⟩)
    go_ret2
    exact ⟨rfl, End.out _ _ _ _ Hk.out h1 c1 Hdk.out.1 Hdk.out.2⟩
  · simp only [if_true, show ¬ ((3 : Int) = 0) by decide, show ¬ ((3 : Int) = 1) by decide, show ¬ ((3 : Int) = 2) by decide, if_false] at Hdk ⊢
    clear c2 f2
    go_enter Try.func23, Try.ntmps23
    go_wp2_with (go_at_call 36; (with_reducible refine St.out.mono ?_); rintro e w1 ⟨rfl, h1, c1⟩)
    go_ret2
    exact ⟨rfl, End.out _ _ _ _ Hk.out h1 (refF_chg c1) Hdk.out.1 Hdk.out.2⟩
  · simp only [if_true, show ¬ ((4 : Int) = 0) by decide, show ¬ ((4 : Int) = 1) by decide, show ¬ ((4 : Int) = 2) by decide, show ¬ ((4 : Int) = 3) by decide, if_false] at Hdk ⊢
    go_enter Try.func23, Try.ntmps23
    go_wp2
    go_ret2
    exact ⟨rfl, End.out _ _ _ _ Hk.out Lo.out.1 (refF_chg Lo.out.2) Hdk.out.1 Hdk.out.2⟩
  · have z : ¬ ask = 0 ∧ ¬ ask = 1 ∧ ¬ ask = 2 ∧ ¬ ask = 3 ∧ ¬ ask = 4 := by simp only [beq_eq_false_iff_ne] at e0 e1 e2 e3 e4; exact ⟨e0, e1, e2, e3, e4⟩
    rw [if_neg z.1, if_neg z.2.1, if_neg z.2.2.1, if_neg z.2.2.2.1, if_neg z.2.2.2.2] at Hdk ⊢
    clear z c2 f2
    go_enter Try.func23, Try.ntmps23
    go_wp2_with (go_at_call 32; (with_reducible refine Re.out.mono ?_); rintro e w1 ⟨rfl, rfl⟩)
    go_ret2
    exact ⟨rfl, End.out _ _ _ vP Hk.out Hh'.out (Chg.refl _ _) Hdk.out.1 Hdk.out.2⟩

set_option maxHeartbeats 2000000 in
theorem same_any (b r : Nat) (d : Dev) (F F2 : List Nat) (B : Nat) (w : World) (h : Has w b d F B) (hr : Ref w r d F2 B) (hi : Inv d) (hB : B ≤ 1000000000) :
    Calls Try.prog 22 #[.pointer (some ⟨b, 0, none⟩), .pointer (some ⟨r, 0, none⟩)] w fun e w' => e = .returned (.bool true) ∧ Keeps [] w w' := by
  obtain ⟨⟨vL, vP, hR, rfl⟩, hok, hfew⟩ := hr
  obtain ⟨aL, cL, hvL⟩ := ownsRow_shape hR.last
  subst hvL
  obtain ⟨aP, cP, hvP⟩ := ownsRow_shape hR.pend
  subst hvP
  have Re : Hid (∀ w', Keeps [] w w' → Calls Try.prog 17 #[.pointer (some ⟨b, 0, none⟩), .int .i64 0, .int .i64 d.last.length] w' fun e w'' => e = .returned (.tuple #[.string (str (d.read 0 d.last.length).1), .int .i64 (d.read 0 d.last.length).2]) ∧ Keeps [] w' w'') := fun w' k => hasRead (h.kept k) 0 d.last.length (by omega)
  have Rr : Hid (∀ w', Keeps [] w w' → Calls Try.prog 32 #[.pointer (some ⟨r, 0, none⟩), .int .i64 0, .int .i64 d.last.length] w' fun e w'' => e = .returned (.tuple #[.string (str (d.read 0 d.last.length).1), .int .i64 (d.read 0 d.last.length).2]) ∧ w' = w'') := fun w' k => by
    have := refRead_any r d _ _ w' (hR.kept k) hok (by omega) 0 d.last.length (by omega)
    rwa [inv_read hi] at this
  have Se : Hid (∀ w', Keeps [] w w' → Calls Try.prog 25 #[.pointer (some ⟨b, 0, none⟩)] w' fun e w'' => e = .returned (.int .i64 d.last.length) ∧ w' = w'') := fun w' k => by
    have := sectors_any b d F w' (h.kept k).at'
    rwa [hok.same] at this
  have Pe : Hid (∀ w', Keeps [] w w' → Calls Try.prog 15 #[.pointer (some ⟨b, 0, none⟩)] w' fun e w'' => e = .returned (.int .i64 d.pend.length) ∧ w' = w'') := fun w' k => pending_any b d F w' (h.kept k).at'
  have Lo : Hid (∀ w', Keeps [] w w' → Calls Try.prog 26 #[.pointer (some ⟨b, 0, none⟩)] w' fun e w'' => e = .returned (.bool d.lost) ∧ w' = w'') := fun w' k => lost_any b d F w' (h.kept k).at'
  have KS : Hid (∀ w', Keeps [] w w' → (w'.cell? ⟨r, 0, none⟩ = some (.slice aL d.last.length cL) ∧ w'.cell? ⟨r, 1, none⟩ = some (.slice aP d.pend.length cP) ∧ w'.cell? ⟨r, 2, none⟩ = some (.bool d.lost))) := fun w' k =>
    ⟨k.cell0 (cell_of_heap hR.hb 0), k.cell0 (cell_of_heap hR.hb 1), k.cell0 (cell_of_heap hR.hb 2)⟩
  obtain ⟨c0, c1, c2⟩ := KS.out w (Keeps.refl _ _)
  clear h hR hok hfew hi
  generalize d.read 0 d.last.length = R at *
  obtain ⟨R1, R2⟩ := R
  dsimp only at *
  go_enter Try.func22, Try.ntmps22
  go_wp2_with fail
  (with_reducible refine (Re.out _ (Keeps.refl _ _)).mono ?_)
  rintro e w1 ⟨rfl, k1⟩
  obtain ⟨d0, d1, d2⟩ := KS.out w1 k1
  clear c0 c1 c2
  go_wp2_with fail
  (with_reducible refine (Rr.out _ k1).mono ?_)
  rintro e w2 ⟨rfl, rfl⟩
  clear d0 d1 d2
  have K1 := Lib.hid k1
  have k2 : Keeps [] w w1.drew := k1.drew
  go_wp2
  go_region_held3 (fun w' => w'.cell? ⟨r, 0, none⟩ = some (.slice aL d.last.length cL) ∧ w'.cell? ⟨r, 1, none⟩ = some (.slice aP d.pend.length cP) ∧ w'.cell? ⟨r, 2, none⟩ = some (.bool d.lost))
    (exact KS.out _ (by assumption))
    (first | (go_at_call 25; (with_reducible refine (Se.out _ (by assumption)).mono ?_); rintro e w3 ⟨rfl, rfl⟩) | (go_at_call 15; (with_reducible refine (Pe.out _ (by assumption)).mono ?_); rintro e w3 ⟨rfl, rfl⟩) | (go_at_call 26; (with_reducible refine (Lo.out _ (by assumption)).mono ?_); rintro e w3 ⟨rfl, rfl⟩))
  go_wp2
  go_ret
  exact ⟨rfl, k2⟩
end Go.Proofs.Ytddehagceenbnaa
