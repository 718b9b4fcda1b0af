/- Layer 3, the reader: what ready, stand, take, number, At, Left, Err, Done do. -/
import Derived.Test.YtjebldfmkpfafaaBase
import Derived.Test.YtjebldfmkpfafaaWirePure
namespace Go.Proofs.Ytjebldfmkpfafaa
open Go.RowKit
set_option maxRecDepth 100000

/-- The struct In at block b stands at p in s; what is wrong is er. -/
def InAt (w : World) (b : Nat) (s : ByteArray) (p : Nat) (er : Int) : Prop :=
  w.heap[b]? = some (.cells #[.int .i64 p, .int .i64 er, .string s] 123 (0, 0))

theorem InAt.keep {w w' : World} {b : Nat} {s : ByteArray} {p : Nat} {er : Int} {F : List Nat} (h : InAt w b s p er) (k : Keeps F w w') (hd : b ∉ F) : InAt w' b s p er := k.some h hd
theorem InAt.lt {w : World} {b : Nat} {s : ByteArray} {p : Nat} {er : Int} (h : InAt w b s p er) : b < w.heap.size := (Array.getElem?_eq_some_iff.1 h).1

/-- From w to w' the reader at b has moved, and nothing else. -/
def InTo (w w' : World) (b : Nat) (s : ByteArray) (r : Nat × Int) : Prop := InAt w' b s r.1 r.2 ∧ Keeps [b] w w'

theorem InAt.same {w : World} {b : Nat} {s : ByteArray} {p : Nat} {er : Int} (h : InAt w b s p er) : InTo w w b s (p, er) := ⟨h, Keeps.refl _ _⟩
theorem InAt.drewN {w : World} {b : Nat} {s : ByteArray} {p : Nat} {er : Int} (n : Nat) (h : InAt w b s p er) : InTo w (w.drewN n) b s (p, er) := ⟨h, (Keeps.refl _ _).drewN n⟩
theorem InTo.trans {w w1 w2 : World} {b : Nat} {s : ByteArray} {r r' : Nat × Int} (h : InTo w w1 b s r) (k : InTo w1 w2 b s r') : InTo w w2 b s r' := ⟨k.1, h.2.trans k.2 (fun _ h => .inl h)⟩
theorem InAt.moved {w w' : World} {b : Nat} {s : ByteArray} {p : Nat} {er : Int} (h : InAt w b s p er) (q : Nat) (e : Int)
   (hw : w'.heap = ((w.setCell ⟨b, 0, none⟩ (.int .i64 q)).setCell ⟨b, 1, none⟩ (.int .i64 e)).heap) (h1 : w'.os = w.os) (h2 : w'.tape = w.tape) (h3 : w'.output = w.output) : InTo w w' b s (q, e) := by
  have k := ((Keeps.refl [b] w).setCell (p := ⟨b, 0, none⟩) (by simp) (.int .i64 q)).setCell (p := ⟨b, 1, none⟩) (by simp) (.int .i64 e)
  refine ⟨?_, ⟨h1, h2, h3, by rw [hw]; exact k.size, fun i hi hn => by rw [hw]; exact k.block i hi hn⟩⟩
  have := heap_setCell (heap_setCell h 0 (.int .i64 q)) 1 (.int .i64 e)
  unfold InAt
  rw [hw, this]
  rfl

theorem InAt.movedAt {w w' : World} {b : Nat} {s : ByteArray} {p : Nat} {er : Int} (h : InAt w b s p er) (q : Nat)
   (hw : w'.heap = (w.setCell ⟨b, 0, none⟩ (.int .i64 q)).heap) (h1 : w'.os = w.os) (h2 : w'.tape = w.tape) (h3 : w'.output = w.output) : InTo w w' b s (q, er) := by
  have k := (Keeps.refl [b] w).setCell (p := ⟨b, 0, none⟩) (by simp) (.int .i64 q)
  refine ⟨?_, ⟨h1, h2, h3, by rw [hw]; exact k.size, fun i hi hn => by rw [hw]; exact k.block i hi hn⟩⟩
  unfold InAt
  rw [hw, heap_setCell h 0 (.int .i64 q)]
  rfl

section
variable (b : Nat) (s : ByteArray) (p : Nat) (er : Int) (w : World) (hi : InAt w b s p er) (hp : p ≤ s.size) (hs : s.size ≤ 140737488351232)
include hi

theorem inAt_any : Calls Try.prog 82 #[.pointer (some ⟨b, 0, none⟩)] w fun e w' => e = .returned (.int .i64 p) ∧ w = w' := by
  have hc0 := cell_of_heap hi 0
  clear hi
  go_enter Try.func82, Try.ntmps82
  go_wp2
  go_ret
  exact ⟨rfl, rfl⟩

theorem inErr_any : Calls Try.prog 85 #[.pointer (some ⟨b, 0, none⟩)] w fun e w' => e = .returned (.int .i64 er) ∧ w = w' := by
  have hc0 := cell_of_heap hi 1
  clear hi
  go_enter Try.func85, Try.ntmps85
  go_wp2
  go_ret
  exact ⟨rfl, rfl⟩

theorem inReady_any : Calls Try.prog 78 #[.pointer (some ⟨b, 0, none⟩)] w fun e w' => e = .returned (.bool (er == 0)) ∧ w = w' := by
  have hc0 := cell_of_heap hi 1
  clear hi
  go_enter Try.func78, Try.ntmps78
  go_wp2
  go_ret
  exact ⟨rfl, rfl⟩

include hp hs
theorem inLeft_any : Calls Try.prog 100 #[.pointer (some ⟨b, 0, none⟩)] w fun e w' => e = .returned (.int .i64 ((s.size - p : Nat) : Int)) ∧ ∃ n, w' = w.drewN n := by
  have hc0 := cell_of_heap hi 0
  have hc2 := cell_of_heap hi 2
  clear hi
  go_enter Try.func100, Try.ntmps100
  go_wp2
  go_quiet (fail)
  go_wp2
  go_ret
  exact ⟨ret_int (by omega), nq, rfl⟩
end

theorem stand_any (b : Nat) (s : ByteArray) (p : Nat) (er : Int) (w : World) (hi : InAt w b s p er) (q : Nat) (e : Int) :
    Calls Try.prog 79 #[.pointer (some ⟨b, 0, none⟩), .int .i64 q, .int .i64 e] w fun r w' => r = .returned (.tuple #[]) ∧ InTo w w' b s (q, e) := by
  have hc0 := cell_of_heap hi 0
  have hc1 := cell_of_heap hi 1
  have hf0 := free_of_heap hi 0
  have hf1 := free_of_heap hi 1
  have Hi := Lib.hid hi
  clear hi
  go_enter Try.func79, Try.ntmps79
  go_wp2
  go_end0
  exact ⟨rfl, Hi.out.moved q e rfl rfl rfl rfl⟩

theorem take_dead (b : Nat) (s : ByteArray) (p : Nat) (er : Int) (w : World) (hi : InAt w b s p er) (n : Int) (he : er ≠ 0) :
    Calls Try.prog 81 #[.pointer (some ⟨b, 0, none⟩), .int .i64 n] w fun r w' => r = .returned (.string ⟨#[]⟩) ∧ w = w' := by
  have h1 : (er == 0) = false := by simpa using he
  have H := Lib.hid hi
  clear hi
  go_enter Try.func81, Try.ntmps81
  go_wp2_with (go_at_call 78; refine (inReady_any _ _ _ _ _ H.out).mono ?_; rintro e w' ⟨rfl, rfl⟩)
  go_ret
  exact ⟨rfl, rfl⟩

theorem take_short (b : Nat) (s : ByteArray) (p : Nat) (w : World) (hi : InAt w b s p 0) (hp : p ≤ s.size) (hs : s.size ≤ 140737488351232) (n : Int) (hn : ((s.size : Int) - p) < n) :
    Calls Try.prog 81 #[.pointer (some ⟨b, 0, none⟩), .int .i64 n] w fun r w' => r = .returned (.string ⟨#[]⟩) ∧ InTo w w' b s (p, 10) := by
  have hc0 := cell_of_heap hi 0
  have hc2 := cell_of_heap hi 2
  have H := Lib.hid hi
  clear hi
  go_enter Try.func81, Try.ntmps81
  go_wp2_with (go_at_call 78; refine (inReady_any _ _ _ _ _ H.out).mono ?_; rintro e w' ⟨rfl, rfl⟩)
  go_quiet (fail)
  go_wp2
  refine region_tail 8 (by kernel_rfl) (by kernel_rfl) ?_
  simp only [List.take_succ_cons, List.take_zero, List.drop_succ_cons, List.drop_zero]
  repeat still_step
  refine wpStill_nil ?_
  go_wp2_with (go_at_call 79; refine (stand_any b s p 0 _ (H.out.drewN _).1 _ _).mono ?_; rintro e w' ⟨rfl, hto⟩)
  go_ret
  exact ⟨rfl, (H.out.drewN _).trans hto⟩

theorem take_ok (b : Nat) (s : ByteArray) (p : Nat) (w : World) (hi : InAt w b s p 0) (hp : p ≤ s.size) (hs : s.size ≤ 140737488351232) (n : Nat) (hn : n ≤ s.size - p) :
    Calls Try.prog 81 #[.pointer (some ⟨b, 0, none⟩), .int .i64 n] w fun r w' => r = .returned (.string (s.extract p (p + n))) ∧ InTo w w' b s (p + n, 0) := by
  have hc0 := cell_of_heap hi 0
  have hc2 := cell_of_heap hi 2
  have hf0 := free_of_heap hi 0
  have hn' : ((n : Int) ≤ (s.size : Int) - p) := by omega
  have H := Lib.hid hi
  clear hi
  go_enter Try.func81, Try.ntmps81
  go_wp2_with (go_at_call 78; refine (inReady_any _ _ _ _ _ H.out).mono ?_; rintro e w' ⟨rfl, rfl⟩)
  go_quiet (fail)
  go_wp2
  go_quiet (fail)
  go_wp2
  go_ret
  exact ⟨rfl, H.out.movedAt (p + n) rfl rfl rfl rfl⟩

theorem num_snoc (l : List UInt8) (c : UInt8) : num (l ++ [c]) = num l * 256 + c.toNat := by simp [num, List.foldl_append]
theorem num_lt (l : List UInt8) : num l < 256 ^ l.length := by
  suffices h : ∀ n (l : List UInt8), l.length = n → num l < 256 ^ n from h _ l rfl
  intro n
  induction n with
  | zero => intro l hl; rw [List.eq_nil_of_length_eq_zero hl]; simp [num]
  | succ n ih =>
    intro l hl
    obtain ⟨l', c, rfl⟩ : ∃ l' c, l = l' ++ [c] := ⟨l.dropLast, l.getLast (by intro h; simp [h] at hl), (List.dropLast_concat_getLast _).symm⟩
    rw [num_snoc, Nat.pow_succ]
    have := ih l' (by simpa using hl)
    have := c.toNat_lt
    omega

theorem wrap_byte (c : UInt8) : IntKind.u64.wrap (c.toNat : Int) = (c.toNat : Int) := by
  have := c.toNat_lt
  exact IntWalk.u64_in _ ⟨by omega, by omega⟩

theorem bits_or_shift (a c : Nat) (ha : a < 72057594037927936) (hc : c < 256) : bits .or .u64 ((a : Int) * 256) (c : Int) = ((a * 256 + c : Nat) : Int) := by
  have h := bits_or_u64_nat (a * 256) c (by omega) (by omega)
  rw [Int.natCast_mul] at h
  refine h.trans ?_
  congr 1
  rw [show (256 : Nat) = 2 ^ 8 from rfl, ← Nat.shiftLeft_eq, ← Nat.shiftLeft_add_eq_or_of_lt (by omega), Nat.shiftLeft_eq]

theorem number_any (s : ByteArray) (w : World) (hs : s.size ≤ 8) :
    Calls Try.prog 80 #[.string s] w fun r w' => r = .returned (.int .u64 (num s.data.toList)) ∧ w = w' := by
  go_enter Try.func80, Try.ntmps80
  go_wp2
  go_loop [3, 7] (fun x i => ∃ k : Nat, k ≤ s.size ∧ i = .int .i64 k ∧ x = .int .u64 (num (s.data.toList.take k))) (fun _ i => s.size - (intOf i).toNat)
  case atStart => exact ⟨0, Nat.zero_le _, rfl, rfl⟩
  case round =>
    obtain ⟨k, hk, rfl, rfl⟩ := hrel
    by_cases hlt : k < s.size
    · have h1 := num_lt (s.data.toList.take k)
      have h2 : 256 ^ (s.data.toList.take k).length ≤ 256 ^ 7 := Nat.pow_le_pow_right (by omega) (by have := List.length_take_le k s.data.toList; omega)
      have h3 : num (s.data.toList.take k) < 72057594037927936 := by omega
      have h4 := bits_or_shift _ (s[k].toNat) h3 s[k].toNat_lt
      have H4 := Lib.hid h4
      clear h1 h2 h4
      go_wp2
      go_round
      case rel => exact ⟨k + 1, by omega, by go_num, by rw [wrap_byte, H4.out, List.take_succ_eq_append_getElem (by simpa using hlt), num_snoc]; rfl⟩
      case measure => simp [intOf]; omega
    · go_wp2
      go_ret
      exact ⟨ret_int (by rw [List.take_of_length_le (by simp; omega)]), rfl⟩
theorem take_any (b : Nat) (s : ByteArray) (p : Nat) (er : Int) (w : World) (hi : InAt w b s p er) (hp : p ≤ s.size) (hs : s.size ≤ 140737488351232) (n : Int) (hn : er = 0 → 0 ≤ n) :
    Calls Try.prog 81 #[.pointer (some ⟨b, 0, none⟩), .int .i64 n] w fun r w' => r = .returned (.string (str (rtake s.data.toList p er n.toNat).1)) ∧ InTo w w' b s (rtake s.data.toList p er n.toNat).2 := by
  by_cases he : er = 0
  · subst he
    obtain ⟨m, rfl⟩ : ∃ m : Nat, n = m := ⟨n.toNat, by have := hn rfl; omega⟩
    have hl : s.data.toList.length = s.size := by simp
    by_cases h : s.size - p < m
    · refine (take_short b s p w hi hp hs m (by omega)).mono ?_
      rintro e w' ⟨rfl, h2⟩
      simp only [rtake, ne_eq, not_true_eq_false, if_false, hl, Int.toNat_natCast, if_pos h]
      exact ⟨rfl, h2⟩
    · refine (take_ok b s p w hi hp hs m (by omega)).mono ?_
      rintro e w' ⟨rfl, h2⟩
      simp only [rtake, ne_eq, not_true_eq_false, if_false, hl, Int.toNat_natCast, if_neg h]
      exact ⟨by rw [str_extract]; simp, h2⟩
  · refine (take_dead b s p er w hi n he).mono ?_
    rintro e w' ⟨rfl, rfl⟩
    simp only [rtake, ne_eq, he, not_false_eq_true, if_true]
    exact ⟨rfl, hi.same⟩

theorem rtake_len (l : List UInt8) (p : Nat) (er : Int) (n : Nat) : (rtake l p er n).1.length ≤ n := by
  unfold rtake; split
  · simp
  · split
    · simp
    · simp; omega
theorem rtake_pos (l : List UInt8) (p : Nat) (er : Int) (n : Nat) (hp : p ≤ l.length) : (rtake l p er n).2.1 ≤ l.length := by
  unfold rtake; split
  · exact hp
  · split
    · exact hp
    · simp; omega

end Go.Proofs.Ytjebldfmkpfafaa
