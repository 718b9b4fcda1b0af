/- Layer 3, the laws' own: what write and read do. -/
import Derived.Test.YtcakgmnhipbmhaaWireOps
namespace Go.Proofs.Ytcakgmnhipbmhaa
open Go.RowKit

/-- The bytes that a call writes. -/
def wby (o : OpR) : List UInt8 :=
  if o.kind = 0 then (if o.n < 1 ∨ 8 < o.n then [] else be o.x o.n.toNat)
  else if o.kind = 1 ∨ o.kind = 4 then vby o.x
  else if o.kind = 2 then vby o.s.size ++ o.s.data.toList
  else o.s.data.toList
/-- What is wrong with it. -/
def werr (o : OpR) : Int := if o.kind = 0 ∧ (o.n < 1 ∨ 8 < o.n) then 1 else 0

abbrev OpR.agg (o : OpR) : Value := .agg #[.int .i64 o.kind, .int .u64 o.x, .string o.s, .int .i64 o.n]

theorem wby_le (o : OpR) : (wby o).length ≤ o.s.size + 17 := by
  have h1 := vsz_bd o.x
  have h2 := vsz_bd o.s.size
  unfold wby
  split
  · split
    · simp
    · rw [be_length]; omega
  · split
    · rw [vby_length]; omega
    · split
      · simp [vby_length]; omega
      · simp

set_option maxHeartbeats 800000 in
theorem write_any (b : Nat) (F : List Nat) (l : List UInt8) (o : OpR) (w : World) (hg : o.good) (hs : o.s.size ≤ 100000000) (hl : l.length ≤ 500000000) (ho : OutAt w b l F) :
    Calls Try.prog 21 #[.pointer (some ⟨b, 0, none⟩), o.agg] w fun e w' =>
      e = .returned (.int .i64 (werr o)) ∧ ∃ F', OutAt w' b (l ++ wby o) F' ∧ Chg F F' w w' := by
  obtain ⟨kind, x, s, n⟩ := o
  have hx := hg.x0
  have hlt := ho.lt
  have Hlt := Lib.hid hlt
  have Ho := Lib.hid ho
  have Ho1 := Lib.hid (ho.keep ((Keeps.refl [] _).alloc (.cells #[.int .i64 kind, .int .u64 x, .string s, .int .i64 n] 46)) (by simp))
  clear hlt ho
  unfold OpR.agg wby werr
  dsimp only at *
  by_cases k0 : kind = 0
  · subst k0
    have e0 : ((0 : Int) == 0) = true := rfl
    rw [if_pos rfl]
    have hfix := outFixed_any b F l x n _ (by omega) Ho1.out
    have hv : ∃ (ev : Int) (bs : List UInt8), ev = (if n < 1 ∨ 8 < n then 1 else 0) ∧ bs = if n < 1 ∨ 8 < n then [] else be x n.toNat := ⟨_, _, rfl, rfl⟩
    obtain ⟨ev, bs, hev, hbs⟩ := hv
    rw [← hev, ← hbs] at hfix
    simp only [true_and]
    rw [← hev, ← hbs]
    have Hfix := Lib.hid hfix
    clear hfix hev hbs
    go_enter Try.func21, Try.ntmps21
    go_wp2_with (go_at_call 39; (with_reducible refine Hfix.out.mono ?_); rintro e w1 ⟨rfl, F1, ho1, hch1⟩)
    go_ret
    exact ⟨rfl, F1, ho1, hch1.alloc⟩
  · have e0 : (kind == 0) = false := by simpa using k0
    rw [if_neg k0]
    by_cases k1 : kind = 1 ∨ kind = 4
    · rw [if_pos k1]
      rcases k1 with rfl | rfl
      all_goals
        go_enter Try.func21, Try.ntmps21
        go_wp2_with fail
        refine (outVar_any b F l [x] _ (by simp; omega) (by simpa using hx) (Ho1.out.keep ((Keeps.refl [] _).alloc _) (by simp)) _ [w.heap.size + 1] (SlAt.lit' [u64v x] 22 (by simp) rfl) (one_any Hlt.out (by omega)) (one_lt (by simp))).mono ?_
        rintro e w1 ⟨rfl, F1, ho1, hch1⟩
        go_wp2
        go_ret
        exact ⟨ret_int (by simp), F1, by simpa using ho1, hch1.alloc.alloc⟩
    · have e1 : (kind == 1) = false := by simp; omega
      have e4 : (kind == 4) = false := by simp; omega
      rw [if_neg k1]
      by_cases k2 : kind = 2
      · subst k2
        rw [if_pos rfl]
        go_enter Try.func21, Try.ntmps21
        go_wp2_with fail
        have hv := vsz_bd s.size
        refine (outText_any b F l [s] _ (by simp [txts, vby_length]; omega) (by simp) (Ho1.out.keep ((Keeps.refl [] _).alloc _) (by simp)) _ [w.heap.size + 1] (SlAt.lit' [Value.string s] 9 (by simp) rfl) (one_any Hlt.out (by omega)) (one_lt (by simp))).mono ?_
        rintro e w1 ⟨rfl, F1, ho1, hch1⟩
        go_wp2
        go_ret
        exact ⟨ret_int (by simp), F1, by simpa [txts] using ho1, hch1.alloc.alloc⟩
      · have e2 : (kind == 2) = false := by simpa using k2
        rw [if_neg k2]
        go_enter Try.func21, Try.ntmps21
        go_wp2_with fail
        refine (outRaw_any b F l [s] _ (by rw [raws_one, List.length_append, dlen]; omega) (by simp) (Ho1.out.keep ((Keeps.refl [] _).alloc _) (by simp)) _ [w.heap.size + 1] (SlAt.lit' [Value.string s] 9 (by simp) rfl) (one_any Hlt.out (by omega)) (one_lt (by simp))).mono ?_
        rintro e w1 ⟨rfl, F1, ho1, hch1⟩
        go_wp2
        go_ret
        exact ⟨ret_int (by simp), F1, by rw [raws_one] at ho1; exact ho1, hch1.alloc.alloc⟩

/-- What a call reads: the number, the text, where the reader stands then, and what is wrong. -/
def rop (l : List UInt8) (p : Nat) (er : Int) (o : OpR) : Nat × List UInt8 × Nat × Int :=
  if o.kind = 0 then ((rfixed l p er o.n).1, [], (rfixed l p er o.n).2)
  else if o.kind = 1 then ((rvar l p er).1, [], (rvar l p er).2)
  else if o.kind = 2 then (0, (rtext l p er o.n).1, (rtext l p er o.n).2)
  else if o.kind = 4 then ((rint l p er o.n).1, [], (rint l p er o.n).2)
  else (0, (rraw l p er o.n).1, (rraw l p er o.n).2)

set_option maxHeartbeats 800000 in
theorem read_op (b : Nat) (s : ByteArray) (p : Nat) (er : Int) (w : World) (hi : InAt w b s p er) (hp : p ≤ s.size) (hs : s.size ≤ 140737488351232) (o : OpR) (hg : o.good) :
    Calls Try.prog 24 #[.pointer (some ⟨b, 0, none⟩), o.agg] w fun e w' =>
      e = .returned (.tuple #[.int .u64 (rop s.data.toList p er o).1, .string (str (rop s.data.toList p er o).2.1)]) ∧ InAt w' b s (rop s.data.toList p er o).2.2.1 (rop s.data.toList p er o).2.2.2 ∧ Keeps [b] w w' := by
  obtain ⟨kind, x, t, n⟩ := o
  have hn0 := hg.n0
  have hn1 := hg.n1
  have Hi1 := Lib.hid (hi.keep ((Keeps.refl [] _).alloc (.cells #[.int .i64 kind, .int .u64 x, .string t, .int .i64 n] 46)) (by simp))
  have hk : ∀ w', Keeps [b] (w.alloc (.cells #[.int .i64 kind, .int .u64 x, .string t, .int .i64 n] 46)) w' → Keeps [b] w w' := fun w' h => ((Keeps.refl [] w).alloc _ |>.mono (by simp)).trans h (fun _ h => .inl h)
  have Hk := Lib.hid hk
  clear hk hi
  unfold OpR.agg rop
  dsimp only at *
  by_cases k0 : kind = 0
  · subst k0
    have e0 : ((0 : Int) == 0) = true := rfl
    rw [if_pos rfl]
    go_enter Try.func24, Try.ntmps24
    go_wp2_with (go_at_call 28; (with_reducible refine (inFixed_any b s p er _ Hi1.out hp hs n).mono ?_); rintro e w1 ⟨rfl, hi1, hk1⟩)
    go_ret2
    exact ⟨rfl, hi1, Hk.out _ hk1⟩
  · have e0 : (kind == 0) = false := by simpa using k0
    rw [if_neg k0]
    by_cases k1 : kind = 1
    · subst k1
      rw [if_pos rfl]
      go_enter Try.func24, Try.ntmps24
      go_wp2_with (go_at_call 15; (with_reducible refine (inVar_any b s p er _ Hi1.out hp hs).mono ?_); rintro e w1 ⟨rfl, hi1, hk1⟩)
      go_ret2
      exact ⟨rfl, hi1, Hk.out _ hk1⟩
    · have e1 : (kind == 1) = false := by simpa using k1
      rw [if_neg k1]
      by_cases k2 : kind = 2
      · subst k2
        rw [if_pos rfl]
        go_enter Try.func24, Try.ntmps24
        go_wp2_with (go_at_call 29; (with_reducible refine (inText_any b s p er _ Hi1.out hp hs n hn1 hn0).mono ?_); rintro e w1 ⟨rfl, hi1, hk1⟩)
        go_ret2
        exact ⟨rfl, hi1, Hk.out _ hk1⟩
      · have e2 : (kind == 2) = false := by simpa using k2
        rw [if_neg k2]
        by_cases k4 : kind = 4
        · subst k4
          rw [if_pos rfl]
          obtain ⟨_, hr2, hr3⟩ := rint_facts s.data.toList p er n (by simpa using hp)
          have hr : (rint s.data.toList p er n).1 ≤ 9223372036854775807 := by
            by_cases he : (rint s.data.toList p er n).2.2 = 0
            · have := hr3 he; omega
            · have := (hr2 he).1; omega
          clear hr2 hr3
          go_enter Try.func24, Try.ntmps24
          go_wp2_with (go_at_call 42; (with_reducible refine (inInt_any b s p er _ Hi1.out hp hs n hn1 hn0).mono ?_); rintro e w1 ⟨rfl, hi1, hk1⟩)
          go_ret2
          exact ⟨rfl, hi1, Hk.out _ hk1⟩
        · have e4 : (kind == 4) = false := by simpa using k4
          rw [if_neg k4]
          go_enter Try.func24, Try.ntmps24
          go_wp2_with (go_at_call 30; (with_reducible refine (inRaw_any b s p er _ Hi1.out hp hs n).mono ?_); rintro e w1 ⟨rfl, hi1, hk1⟩)
          go_ret2
          exact ⟨rfl, hi1, Hk.out _ hk1⟩
end Go.Proofs.Ytcakgmnhipbmhaa
