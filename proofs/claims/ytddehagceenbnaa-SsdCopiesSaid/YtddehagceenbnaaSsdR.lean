/- Layer 4, the laws' own: the list of calls as an argument; a call is done. -/
import Derived.Test.YtddehagceenbnaaSsdQ
import Derived.Test.YtddehagceenbnaaOpenS
namespace Go.Proofs.Ytddehagceenbnaa
open Go.ChangeShapes Go.WideShapes Go.ChangeAt Go.RowKit Go.Deep

/-- One call. -/
structure OpS where
  ask : Int
  pos : Int
  n : Int
  data : ByteArray
  kv : Value
  keep : List Int

def OpS.vals (o : OpS) : List Value := [.int .i64 o.ask, .int .i64 o.pos, .int .i64 o.n, .string o.data, o.kv]
def OpS.agg (o : OpS) : Value := .agg #[.int .i64 o.ask, .int .i64 o.pos, .int .i64 o.n, .string o.data, o.kv]
structure OpS.good (W : World) (o : OpS) : Prop where
  a0 : -9223372036854775808 ≤ o.ask
  a1 : o.ask ≤ 9223372036854775807
  p0 : -9223372036854775808 ≤ o.pos
  p1 : o.pos ≤ 9223372036854775807
  n0 : -9223372036854775808 ≤ o.n
  n1 : o.n ≤ 9223372036854775807
  s0 : o.data.size ≤ 9223372036854775807
  k0 : ∃ G, SlAt W o.kv (o.keep.map (Value.int .i64)) G ∧ (∀ k, k ∈ G → k < W.heap.size)
  k1 : o.keep.length ≤ 9223372036854775807

theorem elem_op {H : Type} {enc : TypeId × Value → H} {W : World} {n : Nat} {cs : List Value} {x : DataW H × List MemPlace} (h : DataW.trod enc Try.prog W 0 (fun _ => true) true n 41 cs = some x) :
    ∃ o : OpS, cs = o.vals ∧ o.good W := by
  obtain ⟨m, hl, hf⟩ := elem_fields Try.underlying41 (by kernel_rfl) (by kernel_rfl) h
  match cs, hl with
  | [c0, c1, c2, c3, c4], _ =>
    obtain ⟨y0, h0⟩ := hf 0 _ c0 rfl rfl
    obtain ⟨y1, h1⟩ := hf 1 _ c1 rfl rfl
    obtain ⟨y2, h2⟩ := hf 2 _ c2 rfl rfl
    obtain ⟨y3, h3⟩ := hf 3 _ c3 rfl rfl
    obtain ⟨y4, h4⟩ := hf 4 _ c4 rfl rfl
    obtain ⟨a, e0, a0, a1⟩ := elem_i64 Try.underlying3 h0
    obtain ⟨p, e1, p0, p1⟩ := elem_i64 Try.underlying3 h1
    obtain ⟨n, e2, n0, n1⟩ := elem_i64 Try.underlying3 h2
    obtain ⟨s, e3, s0⟩ := elem_string Try.underlying9 h3
    obtain ⟨keep, G, hs, _, hG, hk⟩ := open_inner (fun a : Int => [.int .i64 a]) (fun _ => True) 1 (by kernel_rfl) (by decide) Try.underlying23 (fun _ _ _ h => by obtain ⟨a, h1, _⟩ := elem_int Try.underlying3 h; exact ⟨a, h1, trivial⟩) h4
    simp only [List.cons.injEq, and_true] at e0 e1 e2 e3
    subst e0 e1 e2 e3
    exact ⟨⟨a, p, n, s, c4, keep⟩, rfl, ⟨a0, a1, p0, p1, n0, n1, s0, ⟨G, hs.slAt, hG⟩, hk⟩⟩

/-- The list of calls. -/
def OpsAt (w : World) (v : Value) (l : List OpS) (G : List Nat) : Prop := SlRows w v OpS.vals 5 l G
theorem OpsAt.keep {w w' : World} {v : Value} {l : List OpS} {F G : List Nat} (h : OpsAt w v l G) (k : Keeps F w w') (hd : ∀ x, x ∈ G → x ∉ F) : OpsAt w' v l G := SlRows.keep h k hd

/-- Is a call not too great? -/
def smallB (o : OpS) : Bool := decide (o.data.size ≤ 640) && decide (o.keep.length ≤ 200)
/-- Are calls not too many? -/
def fewB (l : List OpS) : Bool := l.all smallB && decide (l.length ≤ 50)

section
variable (l : List OpS) (w : World) (v : Value) (G : List Nat) (h : OpsAt w v l G)
include h

/-- The cells of one call. -/
theorem OpsAt.cells {k : Nat} {o : OpS} (hk : l[k]? = some o) {b off cap : Nat} (hv : v = .slice (some ⟨b, off, none⟩) l.length cap) :
    w.cell? ⟨b, off + k * 5, none⟩ = some (.int .i64 o.ask) ∧ w.cell? ⟨b, off + k * 5 + 1, none⟩ = some (.int .i64 o.pos) ∧ w.cell? ⟨b, off + k * 5 + 2, none⟩ = some (.int .i64 o.n) ∧ w.cell? ⟨b, off + k * 5 + 3, none⟩ = some (.string o.data) ∧ w.cell? ⟨b, off + k * 5 + 4, none⟩ = some o.kv := by
  obtain ⟨ad, cap', rfl, h2⟩ := h
  obtain ⟨b', off', rfl, _, hc⟩ := h2 (by intro h0; subst h0; simp at hk)
  simp only [Value.slice.injEq, Option.some.injEq, Addr.mk.injEq, and_true, true_and] at hv
  obtain ⟨⟨rfl, rfl⟩, _⟩ := hv
  exact ⟨hc k o hk 0 _ rfl, hc k o hk 1 _ rfl, hc k o hk 2 _ rfl, hc k o hk 3 _ rfl, hc k o hk 4 _ rfl⟩

theorem few_any (W : World) (hl : l.length ≤ 9223372036854775807) (hg : ∀ o, o ∈ l → o.good W) : Calls Try.prog 18 #[v] w fun e w' => e = .returned (.bool (fewB l)) ∧ w = w' := by
  have Hh := Lib.hid h
  have Hg := Lib.hid hg
  obtain ⟨ad, cap, rfl, h2⟩ := h
  by_cases h0 : l = []
  · subst h0
    clear hg
    go_enter Try.func18, Try.ntmps18
    go_wp2
    refine wp_loop_rounds 1 ?_
    rw [rounds_succ]
    go_wp2
    go_ret
    exact ⟨rfl, rfl⟩
  obtain ⟨b, off, rfl, _, _⟩ := h2 h0
  clear h2 hg
  go_enter Try.func18, Try.ntmps18
  go_wp2
  go_loop [3] (fun i => ∃ k : Nat, k ≤ l.length ∧ i = .int .i64 k ∧ (l.take k).all smallB = true) (fun i => l.length - (intOf i).toNat)
  case atStart => exact ⟨0, Nat.zero_le _, rfl, rfl⟩
  case round =>
    obtain ⟨k, hk, rfl, hall⟩ := hrel
    have Hall := Lib.hid hall
    clear hall
    by_cases hlt : k < l.length
    · obtain ⟨o, ho⟩ : ∃ o, l[k]? = some o := ⟨l[k], by simp [hlt]⟩
      obtain ⟨c0, c1, c2, c3, c4⟩ := Hh.out.cells _ _ _ _ ho rfl
      obtain ⟨Gk, ⟨ak, ck, hkv, _⟩, _⟩ := (Hg.out o (List.mem_of_getElem? ho)).k0
      rw [hkv, List.length_map] at c4
      have hta : l.take (k + 1) = l.take k ++ [o] := by rw [List.take_add_one, ho]; rfl
      have hbad : smallB o = false → fewB l = false := by
        intro h
        unfold fewB
        rw [Bool.and_eq_false_iff]; left
        rw [List.all_eq_false]
        exact ⟨o, List.mem_of_getElem? ho, by simp [h]⟩
      have Hta := Lib.hid hta
      have Hbad := Lib.hid hbad
      clear hta ho c0 c1 c2 hkv hbad
      by_cases h3 : o.data.size ≤ 640
      · have e3 : decide (640 < (o.data.size : Int)) = false := by simp; omega
        by_cases h4 : o.keep.length ≤ 200
        · have e4 : decide (200 < (o.keep.length : Int)) = false := by simp; omega
          go_wp2
          go_round
          case rel => exact ⟨k + 1, by omega, by go_num, by rw [Hta.out, List.all_append, Hall.out]; simp [smallB, h3, h4]⟩
          case measure => simp [intOf]; omega
        · have e4 : decide (200 < (o.keep.length : Int)) = true := by simp; omega
          go_wp2
          go_ret
          rw [Hbad.out (by simp [smallB, h4])]
          exact ⟨rfl, rfl⟩
      · have e3 : decide (640 < (o.data.size : Int)) = true := by simp; omega
        go_wp2
        go_ret
        rw [Hbad.out (by simp [smallB, h3])]
        exact ⟨rfl, rfl⟩
    · have hta : l.take k = l := List.take_of_length_le (by omega)
      have hfb : fewB l = decide (l.length ≤ 50) := by
        have := Hall.out
        rw [hta] at this
        unfold fewB; rw [this]; simp
      have Hfb := Lib.hid hfb
      clear hta hfb
      go_wp2
      go_ret
      rw [Hfb.out]
      exact ⟨ret_bool (by rw [decide_eq_decide]; omega), rfl⟩
end

/-- What a call does, and answers. -/
def Dev.does (d : Dev) (o : OpS) : Dev × List UInt8 × Int :=
  if o.ask = 0 then ((d.write o.pos o.data.data.toList).1, [], (d.write o.pos o.data.data.toList).2)
  else if o.ask = 1 then (d.barrier.1, [], d.barrier.2)
  else if o.ask = 2 then (d.crash o.keep, [], 0)
  else if o.ask = 3 then (d.stop o.n, [], 0)
  else if o.ask = 4 then (d.lose, [], 0)
  else (d, (d.read o.pos o.n).1, (d.read o.pos o.n).2)

theorem ask_of (a : Int) : a = 0 ∨ a = 1 ∨ a = 2 ∨ a = 3 ∨ a = 4 ∨ ((a == 0) = false ∧ (a == 1) = false ∧ (a == 2) = false ∧ (a == 3) = false ∧ (a == 4) = false) := by
  simp only [beq_eq_false_iff_ne]
  omega

set_option maxHeartbeats 2000000 in
theorem does_any (W w : World) (b : Nat) (d : Dev) (F : List Nat) (B : Nat) (hn : New W w F) (h : Has w b d F B) (hB : B + 10 ≤ 1000000000) (o : OpS) (hg : o.good W) (hd : o.data.size ≤ 640) :
    Calls Try.prog 20 #[.pointer (some ⟨b, 0, none⟩), o.agg] w fun e w' =>
      e = .returned (.tuple #[.string (str (d.does o).2.1), .int .i64 (d.does o).2.2]) ∧ ∃ F', Has w' b (d.does o).1 F' (B + 10) ∧ Chg F F' w w' := by
  obtain ⟨a0, a1, p0, p1, n0, n1, s0, ⟨G, hkv, hG⟩, k1⟩ := hg
  obtain ⟨ask, pos, n, data, kv, keep⟩ := o
  dsimp only [OpS.agg] at *
  have hkv2 := hkv
  obtain ⟨ka, kc, rfl, _⟩ := hkv
  simp only [List.length_map] at *
  have Hkv := Lib.hid hkv2
  have hk : Keeps [] w (w.alloc (.cells #[.int .i64 ask, .int .i64 pos, .int .i64 n, .string data, .slice ka keep.length kc] 41)) := (Keeps.refl [] w).alloc _
  have h' := h.kept hk
  have Hk := Lib.hid hk
  have end1 : ∀ (w1 w2 : World) (d' : Dev) (F' : List Nat), Keeps [] w w1 → Has w2 b d' F' (B + 10) → Chg F F' w1 w2 → ∃ F', Has w2 b d' F' (B + 10) ∧ Chg F F' w w2 := fun w1 w2 d' F' k h c =>
    ⟨F', h, ⟨(k.mono (by simp)).trans c.keeps (fun _ h => .inl h), fun x hx => (c.fresh x hx).imp id (fun h => Nat.le_trans k.size h)⟩⟩
  have End := Lib.hid end1
  have Wr := Lib.hid (hasWrite h' (by omega) pos data (by omega) (by omega))
  have Ba := Lib.hid (hasBarrier h' (by omega))
  have Cr := Lib.hid (hasCrash h' (by omega) _ keep G ((Hkv.out.keep hn.keeps (by simp)).keep hk (by simp)) (fun k hk2 => Nat.lt_of_lt_of_le (hG k hk2) (Nat.le_trans hn.keeps.size hk.size)) (fun k hk2 hk' => by have := hn.fresh k hk'; have := hG k hk2; omega))
  have St := Lib.hid (hasStop h' n n0 n1)
  have Lo := Lib.hid (hasLose h')
  have Re := Lib.hid (hasRead h' pos n (by omega))
  have Hh' := Lib.hid h'
  have hds : data.size / 64 ≤ 10 := by omega
  clear hn h hkv2 hG hk h' end1
  unfold Dev.does
  dsimp only
  rcases ask_of ask with rfl | rfl | rfl | rfl | rfl | ⟨e0, e1, e2, e3, e4⟩
  · simp only [if_true]
    go_enter Try.func20, Try.ntmps20
    go_wp2_with (go_at_call 12; (with_reducible refine Wr.out.mono ?_); rintro e w1 ⟨rfl, F1, h1, c1⟩)
    go_ret2
    exact ⟨rfl, End.out _ _ _ _ Hk.out (h1.le (by omega)) c1⟩
  · simp only [if_true, show ¬ ((1 : Int) = 0) by decide, if_false]
    go_enter Try.func20, Try.ntmps20
    go_wp2_with (go_at_call 14; (with_reducible refine Ba.out.mono ?_); rintro e w1 ⟨rfl, F1, h1, c1⟩)
    go_ret2
    exact ⟨rfl, End.out _ _ _ _ Hk.out (h1.le (by omega)) c1⟩
  · simp only [if_true, show ¬ ((2 : Int) = 0) by decide, show ¬ ((2 : Int) = 1) by decide, if_false]
    go_enter Try.func20, Try.ntmps20
    go_wp2_with (go_at_call 16; (with_reducible refine Cr.out.mono ?_); rintro e w1 ⟨rfl, F1, h1, c1⟩)
    go_ret2
    exact ⟨rfl, End.out _ _ _ _ Hk.out (h1.le (by omega)) c1⟩
  · simp only [if_true, show ¬ ((3 : Int) = 0) by decide, show ¬ ((3 : Int) = 1) by decide, show ¬ ((3 : Int) = 2) by decide, if_false]
    go_enter Try.func20, Try.ntmps20
    go_wp2_with (go_at_call 19; (with_reducible refine St.out.mono ?_); rintro e w1 ⟨rfl, h1, c1⟩)
    go_ret2
    exact ⟨rfl, End.out _ _ _ _ Hk.out (h1.le (by omega)) c1⟩
  · simp only [if_true, show ¬ ((4 : Int) = 0) by decide, show ¬ ((4 : Int) = 1) by decide, show ¬ ((4 : Int) = 2) by decide, show ¬ ((4 : Int) = 3) by decide, if_false]
    go_enter Try.func20, Try.ntmps20
    go_wp2_with (go_at_call 31; (with_reducible refine Lo.out.mono ?_); rintro e w1 ⟨rfl, h1, c1⟩)
    go_ret2
    exact ⟨rfl, End.out _ _ _ _ Hk.out (h1.le (by omega)) c1⟩
  · have z : ¬ ask = 0 ∧ ¬ ask = 1 ∧ ¬ ask = 2 ∧ ¬ ask = 3 ∧ ¬ ask = 4 := by simp only [beq_eq_false_iff_ne] at e0 e1 e2 e3 e4; exact ⟨e0, e1, e2, e3, e4⟩
    rw [if_neg z.1, if_neg z.2.1, if_neg z.2.2.1, if_neg z.2.2.2.1, if_neg z.2.2.2.2]
    clear z
    go_enter Try.func20, Try.ntmps20
    go_wp2_with (go_at_call 17; (with_reducible refine Re.out.mono ?_); rintro e w1 ⟨rfl, k1'⟩)
    go_ret2
    exact ⟨rfl, End.out _ _ _ F (KT Hk.out k1') ((Hh'.out.kept k1').le (by omega)) (Chg.refl _ _)⟩
end Go.Proofs.Ytddehagceenbnaa
