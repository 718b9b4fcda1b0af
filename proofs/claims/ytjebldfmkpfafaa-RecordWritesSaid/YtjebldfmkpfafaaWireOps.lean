/- Layer 3, the laws' own: the list of calls as an argument. -/
import Derived.Test.YtjebldfmkpfafaaOpen
import Derived.Test.YtjebldfmkpfafaaWireI
namespace Go.Proofs.Ytjebldfmkpfafaa
open Go.ChangeShapes Go.WideShapes Go.ChangeAt Go.RowKit Go.Deep
set_option maxRecDepth 100000
open Go.ChangeMaps (open_string shut_string)

/-- One call. -/
structure OpR where
  kind : Int
  x : Nat
  s : ByteArray
  n : Int

def OpR.vals (o : OpR) : List Value := [.int .i64 o.kind, .int .u64 o.x, .string o.s, .int .i64 o.n]
structure OpR.good (o : OpR) : Prop where
  k0 : -9223372036854775808 ≤ o.kind
  k1 : o.kind ≤ 9223372036854775807
  x0 : o.x < 18446744073709551616
  s0 : o.s.size ≤ 9223372036854775807
  n0 : -9223372036854775808 ≤ o.n
  n1 : o.n ≤ 9223372036854775807

/-- The list of calls. -/
def OpsAt (w : World) (v : Value) (l : List OpR) (G : List Nat) : Prop := SlRows w v OpR.vals 4 l G

theorem OpsAt.keep {w w' : World} {v : Value} {l : List OpR} {F G : List Nat} (h : OpsAt w v l G) (k : Keeps F w w') (hd : ∀ x, x ∈ G → x ∉ F) : OpsAt w' v l G := SlRows.keep h k hd

/-- Are calls not too many? -/
def fewB (l : List OpR) : Bool := l.all (fun o => decide (o.s.size ≤ 300)) && decide (l.length ≤ 60)

section
variable (l : List OpR) (w : World) (v : Value) (G : List Nat) (h : OpsAt w v l G) (hl : l.length ≤ 9223372036854775807)
include h

/-- The cells of one call. -/
theorem OpsAt.cells {k : Nat} {o : OpR} (hk : l[k]? = some o) {b off cap : Nat} (hv : v = .slice (some ⟨b, off, none⟩) l.length cap) :
    w.cell? ⟨b, off + k * 4, none⟩ = some (.int .i64 o.kind) ∧ w.cell? ⟨b, off + k * 4 + 1, none⟩ = some (.int .u64 o.x) ∧ w.cell? ⟨b, off + k * 4 + 2, none⟩ = some (.string o.s) ∧ w.cell? ⟨b, off + k * 4 + 3, none⟩ = some (.int .i64 o.n) := by
  obtain ⟨ad, cap', rfl, h2⟩ := h
  obtain ⟨b', off', rfl, _, hc⟩ := h2 (by intro h0; subst h0; simp at hk)
  simp only [Value.slice.injEq, Option.some.injEq, Addr.mk.injEq, and_true, true_and] at hv
  obtain ⟨⟨rfl, rfl⟩, _⟩ := hv
  exact ⟨hc k o hk 0 _ rfl, hc k o hk 1 _ rfl, hc k o hk 2 _ rfl, hc k o hk 3 _ rfl⟩

include hl
end
end Go.Proofs.Ytjebldfmkpfafaa
