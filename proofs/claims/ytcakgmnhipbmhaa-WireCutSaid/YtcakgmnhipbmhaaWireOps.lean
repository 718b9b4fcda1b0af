/- Layer 3, the laws' own: the list of calls as an argument. -/
import Derived.Test.YtcakgmnhipbmhaaOpen
import Derived.Test.YtcakgmnhipbmhaaWireI
namespace Go.Proofs.Ytcakgmnhipbmhaa
open Go.ChangeShapes Go.WideShapes Go.ChangeAt Go.RowKit Go.Deep
open Go.ChangeMaps (open_string shut_string)

/-- One call. -/
structure OpR where
  kind : Int
  x : Nat
  s : ByteArray
  n : Int

def OpR.vals (o : OpR) : List Value := [.int .i64 o.kind, .int .u64 o.x, .string o.s, .int .i64 o.n]
structure OpR.good (o : OpR) : Prop where
  k0 : -9223372036854775808 ≤ o.kind
  k1 : o.kind ≤ 9223372036854775807
  x0 : o.x < 18446744073709551616
  s0 : o.s.size ≤ 9223372036854775807
  n0 : -9223372036854775808 ≤ o.n
  n1 : o.n ≤ 9223372036854775807

theorem elem_op {H : Type} {enc : TypeId × Value → H} {W : World} {n : Nat} {cs : List Value} {x : DataW H × List MemPlace} (h : DataW.trod enc Try.prog W 0 (fun _ => true) true n 46 cs = some x) :
    ∃ o : OpR, cs = o.vals ∧ o.good := by
  obtain ⟨m, hl, hf⟩ := elem_fields Try.underlying46 (by kernel_rfl) (by kernel_rfl) h
  match cs, hl with
  | [c0, c1, c2, c3], _ =>
    obtain ⟨y0, h0⟩ := hf 0 _ c0 rfl rfl
    obtain ⟨y1, h1⟩ := hf 1 _ c1 rfl rfl
    obtain ⟨y2, h2⟩ := hf 2 _ c2 rfl rfl
    obtain ⟨y3, h3⟩ := hf 3 _ c3 rfl rfl
    obtain ⟨a, e0, a0, a1⟩ := elem_i64 Try.underlying3 h0
    obtain ⟨x, e1, x0⟩ := elem_u64 Try.underlying22 h1
    obtain ⟨s, e2, s0⟩ := elem_string Try.underlying9 h2
    obtain ⟨n, e3, n0, n1⟩ := elem_i64 Try.underlying3 h3
    simp only [List.cons.injEq, and_true] at e0 e1 e2 e3
    subst e0 e1 e2 e3
    exact ⟨⟨a, x, s, n⟩, rfl, ⟨a0, a1, x0, s0, n0, n1⟩⟩

/-- The list of calls. -/
def OpsAt (w : World) (v : Value) (l : List OpR) (G : List Nat) : Prop := SlRows w v OpR.vals 4 l G

theorem OpsAt.keep {w w' : World} {v : Value} {l : List OpR} {F G : List Nat} (h : OpsAt w v l G) (k : Keeps F w w') (hd : ∀ x, x ∈ G → x ∉ F) : OpsAt w' v l G := SlRows.keep h k hd

/-- Are calls not too many? -/
def fewB (l : List OpR) : Bool := l.all (fun o => decide (o.s.size ≤ 300)) && decide (l.length ≤ 60)

section
variable (l : List OpR) (w : World) (v : Value) (G : List Nat) (h : OpsAt w v l G) (hl : l.length ≤ 9223372036854775807)
include h

/-- The cells of one call. -/
theorem OpsAt.cells {k : Nat} {o : OpR} (hk : l[k]? = some o) {b off cap : Nat} (hv : v = .slice (some ⟨b, off, none⟩) l.length cap) :
    w.cell? ⟨b, off + k * 4, none⟩ = some (.int .i64 o.kind) ∧ w.cell? ⟨b, off + k * 4 + 1, none⟩ = some (.int .u64 o.x) ∧ w.cell? ⟨b, off + k * 4 + 2, none⟩ = some (.string o.s) ∧ w.cell? ⟨b, off + k * 4 + 3, none⟩ = some (.int .i64 o.n) := by
  obtain ⟨ad, cap', rfl, h2⟩ := h
  obtain ⟨b', off', rfl, _, hc⟩ := h2 (by intro h0; subst h0; simp at hk)
  simp only [Value.slice.injEq, Option.some.injEq, Addr.mk.injEq, and_true, true_and] at hv
  obtain ⟨⟨rfl, rfl⟩, _⟩ := hv
  exact ⟨hc k o hk 0 _ rfl, hc k o hk 1 _ rfl, hc k o hk 2 _ rfl, hc k o hk 3 _ rfl⟩

include hl
theorem few_any : Calls Try.prog 20 #[v] w fun e w' => e = .returned (.bool (fewB l)) ∧ w = w' := by
  have Hh := Lib.hid h
  obtain ⟨ad, cap, rfl, h2⟩ := h
  by_cases h0 : l = []
  · subst h0
    go_enter Try.func20, Try.ntmps20
    go_wp2
    refine wp_loop_rounds 1 ?_
    rw [rounds_succ]
    go_wp2
    go_ret
    exact ⟨rfl, rfl⟩
  obtain ⟨b, off, rfl, _, _⟩ := h2 h0
  clear h2
  go_enter Try.func20, Try.ntmps20
  go_wp2
  go_loop [3] (fun i => ∃ k : Nat, k ≤ l.length ∧ i = .int .i64 k ∧ (l.take k).all (fun o => decide (o.s.size ≤ 300)) = true) (fun i => l.length - (intOf i).toNat)
  case atStart => exact ⟨0, Nat.zero_le _, rfl, rfl⟩
  case round =>
    obtain ⟨k, hk, rfl, hall⟩ := hrel
    have Hall := Lib.hid hall
    clear hall
    by_cases hlt : k < l.length
    · obtain ⟨o, ho⟩ : ∃ o, l[k]? = some o := ⟨l[k], by simp [hlt]⟩
      obtain ⟨c0, c1, c2, c3⟩ := Hh.out.cells _ _ _ _ ho rfl
      have hta : l.take (k + 1) = l.take k ++ [o] := by rw [List.take_add_one, ho]; rfl
      have Hta := Lib.hid hta
      have Ho := Lib.hid ho
      clear hta ho c0 c1 c3
      by_cases h3 : o.s.size ≤ 300
      · go_wp2
        go_round
        case rel => exact ⟨k + 1, by omega, by go_num, by rw [Hta.out, List.all_append, Hall.out]; simp [h3]⟩
        case measure => simp [intOf]; omega
      · go_wp2
        go_ret
        have : fewB l = false := by
          unfold fewB
          rw [Bool.and_eq_false_iff]; left
          rw [List.all_eq_false]
          exact ⟨o, List.mem_of_getElem? Ho.out, by simpa using h3⟩
        rw [this]
        exact ⟨rfl, rfl⟩
    · have hta : l.take k = l := List.take_of_length_le (by omega)
      have hfb : fewB l = decide (l.length ≤ 60) := by
        have := Hall.out
        rw [hta] at this
        unfold fewB; rw [this]; simp
      have Hfb := Lib.hid hfb
      clear hta hfb
      go_wp2
      go_ret
      rw [Hfb.out]
      exact ⟨ret_bool (by rw [decide_eq_decide]; omega), rfl⟩
end
end Go.Proofs.Ytcakgmnhipbmhaa
