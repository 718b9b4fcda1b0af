/- Layer 4, the reference: New, Write. -/
import Derived.Test.YtddehagceenbnaaSsdRefB
namespace Go.Proofs.Ytddehagceenbnaa
open Go.RowKit

theorem exec_makeSlice {P : Program} {w w' : World} {t : TypeId} {u v r : Value} (ev : Operand → Value) (o : Oper) (x y : Operand) (ho : o.op = .makeSlice t x y) (hx : ev x = u) (hy : ev y = v) (hr : (Instr.makeSlice t u v).run P w = .ok r w') : (execOp ev o).run P w = .ok (.value r) w' := by
  unfold execOp
  simp only [ho, hx, hy, Sem.run_bind, hr, Result.andThen_ok]
  rfl
theorem exec_convert {P : Program} {w : World} {s t : TypeId} {u r : Value} (ev : Operand → Value) (o : Oper) (x : Operand) (ho : o.op = .convert s t x) (hx : ev x = u) (hr : (convert s t u).run P w = .ok r w) : (execOp ev o).run P w = .ok (.value r) w := by
  unfold execOp
  simp only [ho, hx, Sem.run_bind, hr, Result.andThen_ok]
  rfl

theorem tyStr : SlTy Try.prog 66 9 1 16 (.string .empty) := SlTy.mk' Try.underlying66 (by kernel_rfl) rfl (by decide)
theorem tyPut : SlTy Try.prog 67 75 2 24 (.agg #[.int .i64 0, .string .empty]) := SlTy.mk' Try.underlying67 (by kernel_rfl) rfl (by decide)

theorem one_not {b : Nat} {v : Value} (h : b ∉ v.ownBlock.toList) : ∀ x, x ∈ v.ownBlock.toList → x ∉ [b] := fun x hx hx' => by
  rw [List.mem_singleton] at hx'
  subst hx'
  exact h hx

theorem own_apart {w : World} {e e' : TypeId} {s s' n n' : Nat} {v v' : Value} {xs xs' : List Value} (h : w.ownsRow 0 e s v n xs) (h' : w.ownsRow 0 e' s' v' n' xs') (hne : e ≠ e') : ∀ x, x ∈ v.ownBlock.toList → x ∉ v'.ownBlock.toList := by
  intro x hx hx'
  rcases h.2 with ⟨rfl, _⟩ | ⟨g, cap, cur, rfl, _, hg, _⟩
  · simp [Value.ownBlock] at hx
  · have e1 : x ∈ [g] := hx
    rw [List.mem_singleton] at e1
    subst e1
    exact own_ne hg h' (Ne.symm hne) hx'

/-- What is pending has grown. -/
theorem RefIs.setPend {w w2 : World} {b : Nat} {d : Dev} {vL vP vP' : Value} (h : RefIs w b d vL vP) {q : List (Nat × List UInt8)}
    (h4 : w2.ownsRow 0 75 2 vP' q.length (q.flatMap rputv)) (hc : Chg vP.ownBlock.toList vP'.ownBlock.toList w w2) :
    RefIs (w2.setCell ⟨b, 1, none⟩ vP') b { d with pend := q } vL vP' ∧ Chg (refF b vL vP) (refF b vL vP') w (w2.setCell ⟨b, 1, none⟩ vP') := by
  have hb2 : w2.heap[b]? = _ := hc.keeps.some h.hb (own_ne h.hb h.pend (by decide))
  have hL2 := own_keep h.last hc.keeps (own_apart h.last h.pend (by decide))
  have hk : Keeps [b] w2 (w2.setCell ⟨b, 1, none⟩ vP') := (Keeps.refl [b] w2).setCell (p := ⟨b, 1, none⟩) (by simp) _
  refine ⟨⟨heap_setCell hb2 1 vP', own_keep hL2 hk (one_not (own_ne hb2 hL2 (by decide))), own_keep h4 hk (one_not (own_ne hb2 h4 (by decide)))⟩, (hc.keeps.mono (by intro x hx; simp [refF, hx])).setCell (p := ⟨b, 1, none⟩) (by simp [refF]) _, ?_⟩
  intro k hk
  simp only [refF, List.mem_cons, List.mem_append] at hk ⊢
  rcases hk with h | h | h
  · exact .inl (.inl h)
  · exact .inl (.inr (.inl h))
  · exact (hc.fresh k h).imp (fun h => .inr (.inr h)) id
theorem RefIs.setLast {w w2 : World} {b : Nat} {d : Dev} {vL vP vL' : Value} (h : RefIs w b d vL vP) {q : List (List UInt8)}
    (h4 : w2.ownsRow 0 9 1 vL' q.length (q.map strv)) (hc : Chg vL.ownBlock.toList vL'.ownBlock.toList w w2) :
    RefIs (w2.setCell ⟨b, 0, none⟩ vL') b { d with last := q } vL' vP ∧ Chg (refF b vL vP) (refF b vL' vP) w (w2.setCell ⟨b, 0, none⟩ vL') := by
  have hb2 : w2.heap[b]? = _ := hc.keeps.some h.hb (own_ne h.hb h.last (by decide))
  have hP2 := own_keep h.pend hc.keeps (own_apart h.pend h.last (by decide))
  have hk : Keeps [b] w2 (w2.setCell ⟨b, 0, none⟩ vL') := (Keeps.refl [b] w2).setCell (p := ⟨b, 0, none⟩) (by simp) _
  refine ⟨⟨heap_setCell hb2 0 vL', own_keep h4 hk (one_not (own_ne hb2 h4 (by decide))), own_keep hP2 hk (one_not (own_ne hb2 hP2 (by decide)))⟩, (hc.keeps.mono (by intro x hx; simp [refF, hx])).setCell (p := ⟨b, 0, none⟩) (by simp [refF]) _, ?_⟩
  intro k hk
  simp only [refF, List.mem_cons, List.mem_append] at hk ⊢
  rcases hk with h | h | h
  · exact .inl (.inl h)
  · exact (hc.fresh k h).imp (fun h => .inr (.inl h)) id
  · exact .inl (.inr (.inr h))

theorem make64 : ∃ Z : Array Value, Z = ((List.replicate 64 (0 : UInt8)).map u8v).toArray ∧
    ∀ w, (Instr.makeSlice 22 (.int .i64 64) (.int .i64 64)).run Try.prog w = .ok (.slice (some ⟨w.heap.size, 0, none⟩) 64 64) (w.alloc (.cells Z 5)) := by
  obtain ⟨hu, ⟨i, hi, hz, hsz, hby⟩, _, _⟩ := tyBytes
  have hr := fun w => run_make (P := Try.prog) w 22 5 i _ hu hi hz .i64 .i64 64 64 (by omega) (by omega) (by rw [hby]; omega) (by omega)
  refine ⟨_, ?_, hr⟩
  apply Array.toList_inj.1
  rw [hsz, List.map_replicate]
  exact made_same 1 (.int .u8 0) (by decide) 64

/-- A new reference. -/
def Dev.newR (n : Nat) : Dev := { last := List.replicate n (List.replicate 64 0), now := [], pend := [], lost := false, stops := false, left := 0 }

set_option maxHeartbeats 2000000 in
set_option maxRecDepth 100000 in
theorem refNew_any (n : Nat) (w : World) (hn : n ≤ 65536) :
    Calls Try.prog 21 #[.int .i64 n] w fun e w' => ∃ b vL vP, e = .returned (.pointer (some ⟨b, 0, none⟩)) ∧ RefIs w' b (Dev.newR n) vL vP ∧ New w w' (refF b vL vP) := by
  obtain ⟨Z, hZ, hmk⟩ := make64
  have HZ := Lib.hid hZ
  have Hmk := Lib.hid hmk
  have hnn : (n : Int) ≤ 65536 := by omega
  clear hZ hmk
  go_enter Try.func21, Try.ntmps21
  go_wp2
  have hb0 := heap_alloc_self w (.cells #[.slice none 0 0, .slice none 0 0, .bool false, .bool false, .int .i64 0] 69)
  have n0 : New w (w.alloc (.cells #[.slice none 0 0, .slice none 0 0, .bool false, .bool false, .int .i64 0] 69)) (refF w.heap.size (.slice none 0 0) (.slice none 0 0)) := ⟨(Keeps.refl [] w).alloc _, fun x hx => by
    have e : x ∈ [w.heap.size] := hx
    rw [List.mem_singleton] at e
    omega⟩
  have Hb0 := Lib.hid hb0
  have N0 := Lib.hid n0
  clear hb0 n0
  go_loopw [4] (fun iv wr => ∃ (k : Nat) (vL : Value), k ≤ n ∧ iv = .int .i64 k ∧ RefIs wr w.heap.size (Dev.newR k) vL (.slice none 0 0) ∧ New w wr (refF w.heap.size vL (.slice none 0 0))) (fun iv _ => n - (intOf iv).toNat)
  case atStart => exact ⟨0, .slice none 0 0, Nat.zero_le _, rfl, ⟨Hb0.out, ⟨rfl, .inl ⟨rfl, rfl⟩⟩, ⟨rfl, .inl ⟨rfl, rfl⟩⟩⟩, N0.out⟩
  case round =>
    obtain ⟨k, vL, hk, rfl, hR, hN⟩ := hrel
    by_cases hlt : k < n
    · have hki : (k : Int) < (n : Int) := by omega
      have HR := Lib.hid hR
      have HN := Lib.hid hN
      obtain ⟨aL, cL, hvL⟩ := ownsRow_shape hR.last
      subst hvL
      have hlen : (Dev.newR k).last.length = k := by simp [Dev.newR]
      have hl := hR.last
      have c0 := cell_of_heap hR.hb 0
      have f0 := free_of_heap hR.hb 0
      rw [hlen] at hl c0
      have hnb := own_ne hR.hb hR.last (by decide)
      rw [hlen] at hnb
      generalize hB : w.heap.size = B at *
      -- the worlds
      have hW1 := heap_alloc_self (wr.drewN 1) (.cells Z 5)
      have hcv : (convert 22 9 (.slice (some ⟨wr.heap.size, 0, none⟩) 64 64)).run Try.prog ((wr.drewN 1).alloc (.cells Z 5)) = .ok (.string (str (List.replicate 64 0))) ((wr.drewN 1).alloc (.cells Z 5)) :=
        own_string (P := Try.prog) Try.underlying22 Try.underlying5 Try.underlying9 (n := 64) (l := List.replicate 64 0) ⟨by simp, .inr ⟨wr.heap.size, 64, Z, rfl, Nat.zero_le _, hW1, Nat.le_refl _, by unfold maxLen; omega, by rw [HZ.out]; simp, by rw [HZ.out, List.take_of_length_le (by simp)]⟩⟩
      have hkA : Keeps [] (wr.drewN 1) (((wr.drewN 1).alloc (.cells Z 5)).alloc (.cells #[.string (str (List.replicate 64 0))] 9)) := ((Keeps.refl [] _).alloc _).alloc _
      obtain ⟨gq, cq, wq, hrun, hownq, hchq⟩ := exec_app1 (P := Try.prog) tyStr 66 (.slice aL k cL) _ _ (wr.drewN 1) (((wr.drewN 1).alloc (.cells Z 5)).alloc (.cells #[.string (str (List.replicate 64 0))] 9)) (wr.heap.size + 1) _ hkA (heap_alloc_at (by simp)) hl rfl (by simp [Value.oneCell']) (by omega) (by unfold maxLen; omega)
      obtain ⟨Ws, hW0, hWA, hWB, hWC, hWD, hWE⟩ : ∃ Ws : Nat → World, Ws 0 = wr.drewN 1 ∧ Ws 1 = (wr.drewN 1).alloc (.cells Z 5) ∧ Ws 2 = (wr.drewN 1).alloc (.cells Z 5) ∧ Ws 3 = ((wr.drewN 1).alloc (.cells Z 5)).alloc (.cells #[.string (str (List.replicate 64 0))] 9) ∧ Ws 4 = wq ∧ wq.setCell ⟨B, 0, none⟩ (.slice (some ⟨gq, 0, none⟩) (k + 1) cq) = Ws 5 := ⟨fun | 0 => _ | 1 => _ | 2 => _ | 3 => _ | 4 => _ | _ => _, rfl, rfl, rfl, rfl, rfl, rfl⟩
      have q0 : (Ws 0).cell? ⟨B, 0, none⟩ = some (.slice aL k cL) := by rw [hW0]; exact c0
      have q1 : (Ws 1).cell? ⟨B, 0, none⟩ = some (.slice aL k cL) := by rw [hWA]; exact ((Keeps.refl [] (wr.drewN 1)).alloc _).cell0 c0
      have q2 : (Ws 2).cell? ⟨B, 0, none⟩ = some (.slice aL k cL) := by rw [hWB]; exact ((Keeps.refl [] (wr.drewN 1)).alloc _).cell0 c0
      have q3 : (Ws 3).cell? ⟨B, 0, none⟩ = some (.slice aL k cL) := by rw [hWC]; exact hkA.cell0 c0
      have hq4 := hchq.keeps.some (w := wr.drewN 1) HR.out.hb hnb
      have q4 : (Ws 4).cell? ⟨B, 0, none⟩ = some (.slice aL k cL) := by rw [hWD, ← hlen]; exact cell_of_heap hq4 0
      have f4 : (Ws 4).frozen? ⟨B, 0, none⟩ = false := by rw [hWD]; exact free_of_heap hq4 0
      have r1 := Hmk.out (Ws 0)
      rw [show (Ws 0).heap.size = wr.heap.size by rw [hW0]; rfl, show (Ws 0).alloc (.cells Z 5) = Ws 1 by rw [hW0, hWA]] at r1
      have r2 := hcv
      rw [← hWB] at r2
      have r3 := fun ev o x h h' => exec_buildOne (P := Try.prog) (Ws 2) 66 9 [.string (str (List.replicate 64 0))] Try.underlying66 (by kernel_rfl) (by kernel_rfl) (by simp) (by simp) ev o x h h'
      rw [show (Ws 2).heap.size = wr.heap.size + 1 by rw [hWB]; simp, show (Ws 2).alloc (.cells [Value.string (str (List.replicate 64 0))].toArray 9) = Ws 3 by rw [hWB, hWC]] at r3
      have r4 := hrun
      rw [← hWC, ← hWD] at r4
      rw [← hWD] at hWE
      have h12 : Ws 1 = Ws 2 := by rw [hWA, hWB]
      have R1 := Lib.hid r1
      have R2 := Lib.hid r2
      have R3 := Lib.hid r3
      have R4 := Lib.hid r4
      have HW0 := Lib.hid hW0
      have HWD := Lib.hid hWD
      have H12 := Lib.hid h12
      have HB := Lib.hid hB
      have Hlen := Lib.hid hlen
      clear hW0 hWA hWB hWC hWD hrun r1 r2 r3 r4 h12 hq4 hkA hcv hW1 hl hR hN c0 f0 hB hlen
      go_wp2
      refine region_at Ws [5, 6, 7, 8, 11] (by kernel_rfl) (by kernel_rfl) HW0.out.symm ?_
      (refine atP (by rfl) (fun K hK => ?_); go_simp; refine hK _ ?_; clear hK K)
      (refine atP (by rfl) (fun K hK => ?_); go_simp; refine hK _ ?_; clear hK K)
      (refine atP (by rfl) (fun K hK => ?_); go_simp; refine hK _ ?_; clear hK K)
      (refine atP (by rfl) (fun K hK => ?_); go_simp; refine hK _ ?_; clear hK K)
      (refine atR [0, 1, 2, 3] (by kernel_rfl) (fun K hK => ?_); go_simp; refine hK _ ?_; clear hK K)
      refine atW 0 rfl (by decide) rfl _ (exec_makeSlice _ _ _ _ rfl (by rfl) (by rfl) R1.out) ?_
      refine atW 1 rfl (by decide) rfl _ (by rw [H12.out]; exact exec_convert _ _ (.tmp 17) rfl (by rfl) R2.out) ?_
      refine atW 2 rfl (by decide) rfl _ (R3.out _ _ (.tmp 18) rfl (by rfl)) ?_
      refine atW 3 rfl (by decide) rfl _ (R4.out _ _ (.tmp 16) (.tmp 19) rfl rfl (by rfl) (by rfl)) ?_
      (refine atP (by rfl) (fun K hK => ?_); go_simp; refine hK _ ?_; clear hK K)
      (refine atP (by rfl) (fun K hK => ?_); go_simp; refine hK _ ?_; clear hK K)
      refine atS 4 rfl (by decide) rfl (by go_simp) ?_
      refine wpAt_nil ?_
      go_wp2
      go_roundw
      case rel =>
        have hq : wq.ownsRow 0 9 1 (.slice (some ⟨gq, 0, none⟩) (k + 1) cq) (List.replicate (k + 1) (List.replicate 64 (0 : UInt8))).length ((List.replicate (k + 1) (List.replicate 64 (0 : UInt8))).map strv) := by
          rw [List.length_replicate, List.replicate_succ', List.map_append]
          exact hownq
        have hsl := (HR.out.kept ((Keeps.refl [] wr).drewN 1)).setLast hq (by rw [Hlen.out]; exact hchq)
        rw [← HWD.out, hWE] at hsl
        have hn' : New w (wr.drewN 1) _ := HN.out.step ((Keeps.refl [] wr).drewN 1)
        refine ⟨k + 1, .slice (some ⟨gq, 0, none⟩) (k + 1) cq, by omega, by go_num, ?_, ?_⟩
        · exact hsl.1
        · rw [Hlen.out] at hsl hn'
          exact hn'.chg hsl.2
      case measure => simp [intOf]; omega
    · obtain rfl : k = n := by omega
      have HR := Lib.hid hR
      have HN := Lib.hid hN
      clear hR hN
      go_wp2
      go_ret
      exact ⟨_, vL, _, rfl, HR.out, HN.out⟩
end Go.Proofs.Ytddehagceenbnaa
