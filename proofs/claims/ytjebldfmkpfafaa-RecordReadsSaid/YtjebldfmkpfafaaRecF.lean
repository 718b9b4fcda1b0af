/- Layer 10: the reference: Check. -/
import Derived.Test.YtjebldfmkpfafaaRecE
import Derived.Deep.DeepCutAuto
import Derived.StillTailTactics
namespace Go.Proofs.Ytjebldfmkpfafaa
open Go.RowKit
set_option maxRecDepth 100000

theorem still_skip {P : Program} {ops : Array Oper} {w : World} {Q : Act → Prop} {a : Act} {o : Oper} {rest : List Oper} (hw : Region.wanted o (yielded ops a.tmps) = false) (h : wpStill P ops w Q rest (a.put o.dst undef)) : wpStill P ops w Q (o :: rest) a :=
  wpStill_step (fun K hK => by rw [if_neg (by rw [hw]; decide)]; exact hK _ h)

/-- The box of a record as the document's answer has it. -/
def qbox (r : Rc) (sv : Value) : Obj := .cells #[.int .i64 r.ep, .int .i64 r.nr, .int .i64 r.kd, sv, .string (str r.dt), .string (str r.tx)] 29
theorem boxed_newQ {w w' : World} {r : Rc} {sv : Value} (k : Keeps [] (w.alloc (qbox r sv)) w') : boxed w' w.heap.size r sv :=
  ⟨k.cell0 (cell_new rfl _ _ 0), k.cell0 (cell_new rfl _ _ 1), k.cell0 (cell_new rfl _ _ 2), k.cell0 (cell_new rfl _ _ 3), k.cell0 (cell_new rfl _ _ 4), k.cell0 (cell_new rfl _ _ 5)⟩

set_option maxHeartbeats 8000000 in
theorem rcheck_any (r : Rc) (sv : Value) (G : List Nat) (w : World) (hr : r.good w sv G) :
    Calls Try.prog 11 #[r.val sv] w fun e w' => e = .returned (.int .i64 r.check) ∧ Keeps [] w w' := by
  have K0 := Lib.hid ((Keeps.refl [] w).alloc (qbox r sv))
  have CB := Lib.hid (fun w' (k : Keeps [] (w.alloc (qbox r sv)) w') => (⟨(boxed_newQ k).2.2.1, (boxed_newQ k).2.2.2.1, (boxed_newQ k).2.2.2.2.1⟩ : w'.cell? ⟨w.heap.size, 2, none⟩ = some (.int .i64 r.kd) ∧ w'.cell? ⟨w.heap.size, 3, none⟩ = some sv ∧ w'.cell? ⟨w.heap.size, 4, none⟩ = some (.string (str r.dt))))
  have Al := Lib.hid (fun w' (k : Keeps [] w w') => rall_any r.sp hr.sg hr.sl sv G w' (hr.newer k).at_)
  have To : Hid (r.sp.length ≤ 64 → r.sp.all maySp = true → ∀ w', Keeps [] w w' → Calls Try.prog 25 #[sv] w' fun e w'' => e = .returned (.int .i64 (totS r.sp)) ∧ Keeps [] w' w'') := fun h1 h2 w' k => rtotal_any r.sp (fun s hs => by have := maySp_bd (List.all_eq_true.1 h2 s hs); omega) (by omega) sv G w' (hr.newer k).at_
  have hTb : r.sp.length ≤ 64 → r.sp.all maySp = true → 0 ≤ totS r.sp ∧ totS r.sp ≤ 65536 * r.sp.length := fun _ h2 => totS_bd r.sp (fun s hs => by have := maySp_bd (List.all_eq_true.1 h2 s hs); omega)
  have hck : r.check = if r.nums then (if r.kd = 1 then r.written else if r.kd = 2 then r.trimmed else if r.kd = 3 then r.noted else 14) else 31 := rfl
  unfold Rc.nums Rc.written Rc.trimmed Rc.noted Rc.spok at hck
  unfold Rc.val at *
  unfold qbox at *
  have hsl := hr.sl
  have hdl := hr.dt
  have htl := hr.tx
  have hz := str_empty
  obtain ⟨ad, cap, rfl, _⟩ := hr.at_
  clear hr
  generalize r.check = V at *
  obtain ⟨ep, nr, kd, sp, dt, tx⟩ := r
  dsimp only at *
  generalize hA : sp.all maySp = A at *
  generalize totS sp = T at *
  generalize hns : sp.length = ns at *
  have hn : (ns : Int) ≤ 9223372036854775807 := by omega
  have hn0 : (0 : Int) ≤ (ns : Int) := by omega
  rcases (show ep < 0 ∨ (0 ≤ ep ∧ 4294967296 ≤ ep) ∨ (0 ≤ ep ∧ ep < 4294967296 ∧ nr < 0) ∨ (0 ≤ ep ∧ ep < 4294967296 ∧ 0 ≤ nr ∧ 1099511627776 ≤ nr) ∨ (0 ≤ ep ∧ ep < 4294967296 ∧ 0 ≤ nr ∧ nr < 1099511627776) by omega) with hq | hq | hq | hq | hq
  · have h1 : decide (ep < 0) = true := decide_eq_true (by omega)
    obtain rfl : V = 31 := by rw [hck]; exact if_neg (show ¬ (0 ≤ ep ∧ ep < 4294967296 ∧ 0 ≤ nr ∧ nr < 1099511627776) by omega)
    clear hck
    try clear ht
    try clear hd
    go_enter Try.func11, Try.ntmps11
    go_wp2
    go_ret
    exact ⟨rfl, K0.out⟩
  · have h1 : decide (ep < 0) = false := decide_eq_false (by omega)
    have h2 : decide (4294967296 ≤ ep) = true := decide_eq_true (by omega)
    obtain rfl : V = 31 := by rw [hck]; exact if_neg (show ¬ (0 ≤ ep ∧ ep < 4294967296 ∧ 0 ≤ nr ∧ nr < 1099511627776) by omega)
    clear hck
    try clear ht
    try clear hd
    go_enter Try.func11, Try.ntmps11
    go_wp2
    go_ret
    exact ⟨rfl, K0.out⟩
  · have h1 : decide (ep < 0) = false := decide_eq_false (by omega)
    have h2 : decide (4294967296 ≤ ep) = false := decide_eq_false (by omega)
    have h3 : decide (nr < 0) = true := decide_eq_true (by omega)
    obtain rfl : V = 31 := by rw [hck]; exact if_neg (show ¬ (0 ≤ ep ∧ ep < 4294967296 ∧ 0 ≤ nr ∧ nr < 1099511627776) by omega)
    clear hck
    try clear ht
    try clear hd
    go_enter Try.func11, Try.ntmps11
    go_wp2
    go_ret
    exact ⟨rfl, K0.out⟩
  · have h1 : decide (ep < 0) = false := decide_eq_false (by omega)
    have h2 : decide (4294967296 ≤ ep) = false := decide_eq_false (by omega)
    have h3 : decide (nr < 0) = false := decide_eq_false (by omega)
    have h4 : decide (1099511627776 ≤ nr) = true := decide_eq_true (by omega)
    obtain rfl : V = 31 := by rw [hck]; exact if_neg (show ¬ (0 ≤ ep ∧ ep < 4294967296 ∧ 0 ≤ nr ∧ nr < 1099511627776) by omega)
    clear hck
    try clear ht
    try clear hd
    go_enter Try.func11, Try.ntmps11
    go_wp2
    go_ret
    exact ⟨rfl, K0.out⟩
  · have h1 : decide (ep < 0) = false := decide_eq_false (by omega)
    have h2 : decide (4294967296 ≤ ep) = false := decide_eq_false (by omega)
    have h3 : decide (nr < 0) = false := decide_eq_false (by omega)
    have h4 : decide (1099511627776 ≤ nr) = false := decide_eq_false (by omega)
    replace hck := hck.trans (if_pos (show 0 ≤ ep ∧ ep < 4294967296 ∧ 0 ≤ nr ∧ nr < 1099511627776 by omega))
    clear hq
    rcases (show kd < 1 ∨ (1 ≤ kd ∧ 3 < kd) ∨ kd = 1 ∨ kd = 2 ∨ kd = 3 by omega) with hq | hq | rfl | rfl | rfl
    · have h5 : decide (kd < 1) = true := decide_eq_true (by omega)
      obtain rfl : V = 14 := by rw [hck]; rw [if_neg (show ¬ kd = 1 by omega), if_neg (show ¬ kd = 2 by omega), if_neg (show ¬ kd = 3 by omega)]
      clear hck
      try clear ht
      try clear hd
      go_enter Try.func11, Try.ntmps11
      go_wp2
      go_ret
      exact ⟨rfl, K0.out⟩
    · have h5 : decide (kd < 1) = false := decide_eq_false (by omega)
      have h6 : decide (3 < kd) = true := decide_eq_true (by omega)
      obtain rfl : V = 14 := by rw [hck]; rw [if_neg (show ¬ kd = 1 by omega), if_neg (show ¬ kd = 2 by omega), if_neg (show ¬ kd = 3 by omega)]
      clear hck
      try clear ht
      try clear hd
      go_enter Try.func11, Try.ntmps11
      go_wp2
      go_ret
      exact ⟨rfl, K0.out⟩
    · simp only [if_true] at hck
      rcases (show ns < 1 ∨ (1 ≤ ns ∧ 64 < ns) ∨ (1 ≤ ns ∧ ns ≤ 64) by omega) with hq | hq | hq
      · have h5 : decide ((ns : Int) < 1) = true := decide_eq_true (by omega)
        obtain rfl : V = 1 := by rw [hck]; rw [if_pos (.inl (by simp; omega))]
        clear hck
        try clear ht
        try clear hd
        go_enter Try.func11, Try.ntmps11
        go_wp2
        go_ret
        exact ⟨rfl, K0.out⟩
      · have h5 : decide ((ns : Int) < 1) = false := decide_eq_false (by omega)
        have h6 : decide (64 < (ns : Int)) = true := decide_eq_true (by omega)
        obtain rfl : V = 1 := by rw [hck]; rw [if_pos (.inl (by simp; omega))]
        clear hck
        try clear ht
        try clear hd
        go_enter Try.func11, Try.ntmps11
        go_wp2
        go_ret
        exact ⟨rfl, K0.out⟩
      · have h5 : decide ((ns : Int) < 1) = false := decide_eq_false (by omega)
        have h6 : decide (64 < (ns : Int)) = false := decide_eq_false (by omega)
        have q1 : decide (1 ≤ ns) = true := decide_eq_true (by omega)
        have q2 : decide (ns ≤ 64) = true := decide_eq_true (by omega)
        rw [q1, q2] at hck
        by_cases ht : tx = []
        · have ht2 : tx.isEmpty = true := by rw [ht]; rfl
          by_cases hA1 : A = true
          · subst hA1
            obtain ⟨hT0, hT1⟩ := hTb hq.2 rfl
            replace To := Lib.hid (To.out hq.2 rfl)
            have hw : IntKind.i64.wrap (64 * T) = 64 * T := IntWalk.i64_in _ ⟨by omega, by omega⟩
            have hck2 : V = if 512 < T then 1 else if (dt.length : Int) ≠ T * 64 then 30 else 0 := by rw [hck, ht]; simp
            clear hck
            rcases (show 512 < T ∨ (T ≤ 512 ∧ (dt.length : Int) ≠ 64 * T) ∨ (T ≤ 512 ∧ (dt.length : Int) = 64 * T) by omega) with h7 | h7 | h7
            · have hck := hck2
              clear hck2
              have h8 : decide (512 < T) = true := decide_eq_true (by omega)
              obtain rfl : V = 1 := by rw [hck]; rw [if_pos (by omega)]
              clear hck
              try clear ht
              try clear hd
              go_enter Try.func11, Try.ntmps11
              go_wp2_with (first
                | (go_at_call 24; (with_reducible refine (Al.out _ K0.out).mono ?_); rintro e w1 ⟨rfl, k1⟩; obtain ⟨b2, b3, b4⟩ := CB.out _ k1; have kv1 := K0.out.trans k1 (by simp))
                | (go_at_call 25; (with_reducible refine (To.out _ kv1).mono ?_); rintro e w2 ⟨rfl, k2⟩; have kw2 := (k1.trans k2 (by simp)).drew; have kv2 := (kv1.trans k2 (by simp)).drew))
              go_ret
              exact ⟨rfl, by first | exact kv2 | exact kv1.trans k2 (by simp)⟩
            · have hck := hck2
              clear hck2
              have h8 : decide (512 < T) = false := decide_eq_false (by omega)
              have h9 : ((dt.length : Int) != 64 * T) = true := bne_iff_ne.2 h7.2
              obtain rfl : V = 30 := by rw [hck]; rw [if_neg (by omega), if_pos (by omega)]
              clear hck
              try clear ht
              try clear hd
              go_enter Try.func11, Try.ntmps11
              go_wp2_with (first
                | (go_at_call 24; (with_reducible refine (Al.out _ K0.out).mono ?_); rintro e w1 ⟨rfl, k1⟩; obtain ⟨b2, b3, b4⟩ := CB.out _ k1; have kv1 := K0.out.trans k1 (by simp))
                | (go_at_call 25; (with_reducible refine (To.out _ kv1).mono ?_); rintro e w2 ⟨rfl, k2⟩; have kw2 := (k1.trans k2 (by simp)).drew; have kv2 := (kv1.trans k2 (by simp)).drew))
              go_region_held3 (fun w' => w'.cell? ⟨w.heap.size, 2, none⟩ = some (.int .i64 1) ∧ w'.cell? ⟨w.heap.size, 3, none⟩ = some (.slice ad ns cap) ∧ w'.cell? ⟨w.heap.size, 4, none⟩ = some (.string (str dt))) (first | exact CB.out _ kw2 | exact CB.out _ kw3) (first
                | (go_at_call 25; (with_reducible refine (To.out _ kv2).mono ?_); rintro e w3 ⟨rfl, k3⟩; have kw3 := kw2.trans k3 (by simp); have kv3 := kv2.trans k3 (by simp)))
              go_wp2
              go_ret
              exact ⟨rfl, kv3⟩
            · have hck := hck2
              clear hck2
              have h8 : decide (512 < T) = false := decide_eq_false (by omega)
              have h9 : ((dt.length : Int) != 64 * T) = false := by simpa using h7.2
              obtain rfl : V = 0 := by rw [hck]; rw [if_neg (by omega), if_neg (by omega)]
              clear hck
              try clear ht
              try clear hd
              go_enter Try.func11, Try.ntmps11
              go_wp2_with (first
                | (go_at_call 24; (with_reducible refine (Al.out _ K0.out).mono ?_); rintro e w1 ⟨rfl, k1⟩; obtain ⟨b2, b3, b4⟩ := CB.out _ k1; have kv1 := K0.out.trans k1 (by simp))
                | (go_at_call 25; (with_reducible refine (To.out _ kv1).mono ?_); rintro e w2 ⟨rfl, k2⟩; have kw2 := (k1.trans k2 (by simp)).drew; have kv2 := (kv1.trans k2 (by simp)).drew))
              go_region_held3 (fun w' => w'.cell? ⟨w.heap.size, 2, none⟩ = some (.int .i64 1) ∧ w'.cell? ⟨w.heap.size, 3, none⟩ = some (.slice ad ns cap) ∧ w'.cell? ⟨w.heap.size, 4, none⟩ = some (.string (str dt))) (first | exact CB.out _ kw2 | exact CB.out _ kw3) (first
                | (go_at_call 25; (with_reducible refine (To.out _ kv2).mono ?_); rintro e w3 ⟨rfl, k3⟩; have kw3 := kw2.trans k3 (by simp); have kv3 := kv2.trans k3 (by simp)))
              go_wp2
              go_ret
              exact ⟨rfl, kv3⟩
          · obtain rfl : A = false := by simpa using hA1
            obtain rfl : V = 1 := by rw [hck]; rw [if_pos (.inl (by simp))]
            clear hck
            try clear ht
            try clear hd
            go_enter Try.func11, Try.ntmps11
            go_wp2_with (first
              | (go_at_call 24; (with_reducible refine (Al.out _ K0.out).mono ?_); rintro e w1 ⟨rfl, k1⟩; obtain ⟨b2, b3, b4⟩ := CB.out _ k1; have kv1 := K0.out.trans k1 (by simp)))
            go_ret
            exact ⟨rfl, kv1⟩
        · have ht2 : tx.isEmpty = false := by simpa using ht
          obtain rfl : V = 1 := by rw [hck]; rw [if_pos (.inl (by simp [ht]))]
          clear hck
          try clear ht
          try clear hd
          go_enter Try.func11, Try.ntmps11
          go_wp2
          go_ret
          exact ⟨rfl, K0.out⟩
    · simp only [show ¬ ((2 : Int) = 1) by decide, if_false, if_true] at hck
      rcases (show ns < 1 ∨ (1 ≤ ns ∧ 64 < ns) ∨ (1 ≤ ns ∧ ns ≤ 64) by omega) with hq | hq | hq
      · have h5 : decide ((ns : Int) < 1) = true := decide_eq_true (by omega)
        obtain rfl : V = 1 := by rw [hck]; rw [if_pos (.inl (by simp; omega))]
        clear hck
        try clear ht
        try clear hd
        go_enter Try.func11, Try.ntmps11
        go_wp2
        go_ret
        exact ⟨rfl, K0.out⟩
      · have h5 : decide ((ns : Int) < 1) = false := decide_eq_false (by omega)
        have h6 : decide (64 < (ns : Int)) = true := decide_eq_true (by omega)
        obtain rfl : V = 1 := by rw [hck]; rw [if_pos (.inl (by simp; omega))]
        clear hck
        try clear ht
        try clear hd
        go_enter Try.func11, Try.ntmps11
        go_wp2
        go_ret
        exact ⟨rfl, K0.out⟩
      · have h5 : decide ((ns : Int) < 1) = false := decide_eq_false (by omega)
        have h6 : decide (64 < (ns : Int)) = false := decide_eq_false (by omega)
        have q1 : decide (1 ≤ ns) = true := decide_eq_true (by omega)
        have q2 : decide (ns ≤ 64) = true := decide_eq_true (by omega)
        rw [q1, q2] at hck
        by_cases ht : tx = []
        · have ht2 : tx.isEmpty = true := by rw [ht]; rfl
          by_cases hd : dt = []
          · have hd2 : dt.isEmpty = true := by rw [hd]; rfl
            by_cases hA1 : A = true
            · subst hA1
              obtain ⟨hT0, hT1⟩ := hTb hq.2 rfl
              replace To := Lib.hid (To.out hq.2 rfl)
              have hw : IntKind.i64.wrap (64 * T) = 64 * T := IntWalk.i64_in _ ⟨by omega, by omega⟩
              · skip
                obtain rfl : V = 0 := by rw [hck]; rw [ht, hd]; simp
                clear hck
                try clear ht
                try clear hd
                go_enter Try.func11, Try.ntmps11
                go_wp2_with (first
                  | (go_at_call 24; (with_reducible refine (Al.out _ K0.out).mono ?_); rintro e w1 ⟨rfl, k1⟩; obtain ⟨b2, b3, b4⟩ := CB.out _ k1; have kv1 := K0.out.trans k1 (by simp)))
                go_upto_region 11 with (fail)
                have b2' : (w1.drewN 1).cell? ⟨w.heap.size, 2, none⟩ = some (.int .i64 2) := b2
                refine region_tail 12 (by kernel_rfl) (by kernel_rfl) ?_
                simp only [List.take_succ_cons, List.take_zero, List.drop_succ_cons, List.drop_zero]
                refine wpStill_step (fun K hK => ?_)
                go_simp
                generalize hA : Act.mk _ _ = A
                refine hK A ?_
                clear hK K
                subst hA
                refine wpStill_step (fun K hK => ?_)
                go_simp
                generalize hA : Act.mk _ _ = A
                refine hK A ?_
                clear hK K
                subst hA
                refine wpStill_step (fun K hK => ?_)
                go_simp
                generalize hA : Act.mk _ _ = A
                refine hK A ?_
                clear hK K
                subst hA
                refine wpStill_step (fun K hK => ?_)
                go_simp
                generalize hA : Act.mk _ _ = A
                refine hK A ?_
                clear hK K
                refine still_skip ?_ ?_
                · rw [← hA]
                  kernel_rfl
                generalize hB : Act.put A _ _ = B
                rw [← hA] at hB
                simp only [Act.put, List.setIfInBounds_toArray, List.set_cons_zero, List.set_cons_succ] at hB
                clear hA
                clear A
                obtain ⟨A, hA2⟩ : ∃ A, A = B := ⟨_, rfl⟩
                subst hA2
                have hA := hB
                clear hB
                refine still_skip ?_ ?_
                · rw [← hA]
                  kernel_rfl
                generalize hB : Act.put A _ _ = B
                rw [← hA] at hB
                simp only [Act.put, List.setIfInBounds_toArray, List.set_cons_zero, List.set_cons_succ] at hB
                clear hA
                clear A
                obtain ⟨A, hA2⟩ : ∃ A, A = B := ⟨_, rfl⟩
                subst hA2
                have hA := hB
                clear hB
                refine still_skip ?_ ?_
                · rw [← hA]
                  kernel_rfl
                generalize hB : Act.put A _ _ = B
                rw [← hA] at hB
                simp only [Act.put, List.setIfInBounds_toArray, List.set_cons_zero, List.set_cons_succ] at hB
                clear hA
                clear A
                obtain ⟨A, hA2⟩ : ∃ A, A = B := ⟨_, rfl⟩
                subst hA2
                have hA := hB
                clear hB
                refine still_skip ?_ ?_
                · rw [← hA]
                  kernel_rfl
                generalize hB : Act.put A _ _ = B
                rw [← hA] at hB
                simp only [Act.put, List.setIfInBounds_toArray, List.set_cons_zero, List.set_cons_succ] at hB
                clear hA
                clear A
                obtain ⟨A, hA2⟩ : ∃ A, A = B := ⟨_, rfl⟩
                subst hA2
                have hA := hB
                clear hB
                refine still_skip ?_ ?_
                · rw [← hA]
                  kernel_rfl
                generalize hB : Act.put A _ _ = B
                rw [← hA] at hB
                simp only [Act.put, List.setIfInBounds_toArray, List.set_cons_zero, List.set_cons_succ] at hB
                clear hA
                clear A
                obtain ⟨A, hA2⟩ : ∃ A, A = B := ⟨_, rfl⟩
                subst hA2
                have hA := hB
                clear hB
                refine still_skip ?_ ?_
                · rw [← hA]
                  kernel_rfl
                generalize hB : Act.put A _ _ = B
                rw [← hA] at hB
                simp only [Act.put, List.setIfInBounds_toArray, List.set_cons_zero, List.set_cons_succ] at hB
                clear hA
                clear A
                obtain ⟨A, hA2⟩ : ∃ A, A = B := ⟨_, rfl⟩
                subst hA2
                have hA := hB
                clear hB
                refine still_skip ?_ ?_
                · rw [← hA]
                  kernel_rfl
                generalize hB : Act.put A _ _ = B
                rw [← hA] at hB
                simp only [Act.put, List.setIfInBounds_toArray, List.set_cons_zero, List.set_cons_succ] at hB
                clear hA
                clear A
                obtain ⟨A, hA2⟩ : ∃ A, A = B := ⟨_, rfl⟩
                subst hA2
                have hA := hB
                clear hB
                refine still_skip ?_ ?_
                · rw [← hA]
                  kernel_rfl
                generalize hB : Act.put A _ _ = B
                rw [← hA] at hB
                simp only [Act.put, List.setIfInBounds_toArray, List.set_cons_zero, List.set_cons_succ] at hB
                clear hA
                clear A
                obtain ⟨A, hA2⟩ : ∃ A, A = B := ⟨_, rfl⟩
                subst hA2
                have hA := hB
                clear hB
                subst hA
                refine wpStill_nil ?_
                go_wp2
                go_ret
                exact ⟨rfl, kv1.drewN 1⟩
            · obtain rfl : A = false := by simpa using hA1
              obtain rfl : V = 1 := by rw [hck]; rw [if_pos (.inl (by simp))]
              clear hck
              try clear ht
              try clear hd
              go_enter Try.func11, Try.ntmps11
              go_wp2_with (first
                | (go_at_call 24; (with_reducible refine (Al.out _ K0.out).mono ?_); rintro e w1 ⟨rfl, k1⟩; obtain ⟨b2, b3, b4⟩ := CB.out _ k1; have kv1 := K0.out.trans k1 (by simp)))
              go_ret
              exact ⟨rfl, kv1⟩
          · have hd2 : dt.isEmpty = false := by simpa using hd
            obtain rfl : V = 1 := by rw [hck]; rw [if_pos (.inr hd)]
            clear hck
            try clear ht
            try clear hd
            go_enter Try.func11, Try.ntmps11
            go_wp2
            go_ret
            exact ⟨rfl, K0.out⟩
        · have ht2 : tx.isEmpty = false := by simpa using ht
          obtain rfl : V = 1 := by rw [hck]; rw [if_pos (.inl (by simp [ht]))]
          clear hck
          try clear ht
          try clear hd
          go_enter Try.func11, Try.ntmps11
          go_wp2
          go_ret
          exact ⟨rfl, K0.out⟩
    · simp only [show ¬ ((3 : Int) = 1) by decide, show ¬ ((3 : Int) = 2) by decide, if_false, if_true] at hck
      by_cases h5 : decide (0 < ns) = true
      · have h5' := of_decide_eq_true h5
        obtain rfl : V = 1 := by rw [hck]; rw [if_pos (.inl h5')]
        clear hck
        try clear ht
        try clear hd
        go_enter Try.func11, Try.ntmps11
        go_wp2
        go_ret
        exact ⟨rfl, K0.out⟩
      · rw [Bool.not_eq_true] at h5
        have h5' := of_decide_eq_false h5
        by_cases hd : dt = []
        · have hd2 : dt.isEmpty = true := by rw [hd]; rfl
          by_cases h6 : decide (512 < (tx.length : Int)) = true
          · have h6' := of_decide_eq_true h6
            obtain rfl : V = 1 := by rw [hck]; rw [if_pos (.inr (.inr (by omega)))]
            clear hck
            try clear ht
            try clear hd
            go_enter Try.func11, Try.ntmps11
            go_wp2
            go_ret
            exact ⟨rfl, K0.out⟩
          · rw [Bool.not_eq_true] at h6
            have h6' := of_decide_eq_false h6
            obtain rfl : V = 0 := by rw [hck]; rw [if_neg (by rintro (h | h | h); exact h5' h; exact h hd; omega)]
            clear hck
            try clear ht
            try clear hd
            go_enter Try.func11, Try.ntmps11
            go_wp2
            go_ret
            exact ⟨rfl, K0.out⟩
        · have hd2 : dt.isEmpty = false := by simpa using hd
          obtain rfl : V = 1 := by rw [hck]; rw [if_pos (.inr (.inl hd))]
          clear hck
          try clear ht
          try clear hd
          go_enter Try.func11, Try.ntmps11
          go_wp2
          go_ret
          exact ⟨rfl, K0.out⟩
end Go.Proofs.Ytjebldfmkpfafaa
