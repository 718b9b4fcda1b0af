/- Layer 4, the device: Write. -/
import Derived.Test.YtddehagceenbnaaSsdE
namespace Go.Proofs.Ytddehagceenbnaa
open Go.RowKit

theorem wpList_copyLong {P : Program} {ops : Array Oper} {rest : List Oper} {o : Oper} {a : Act} {w : World} {Q : Exit → Act → World → Prop} (hgd : o.guard = none) (d x : Operand) (dT sT elem : TypeId)
    (hop : o.op = .call { callee := .builtin .copy, args := #[d, x], argTypes := #[dT, sT] }) (hu : P.underlying dT = some (.slice elem)) (hz : (P.info? elem).map (·.size) = some 1)
    (b off dLen dCap : Nat) (hd : a.eval d = .slice (some ⟨b, off, none⟩) dLen dCap) (t : ByteArray) (hx : a.eval x = .string t) (hle : dLen ≤ t.size) (ht : w.there b off dLen)
    (h : wpList P ops Q rest (a.put o.dst (goInt dLen)) (w.setCells b off ((t.data.toList.take dLen).map u8v))) : wpList P ops Q (o :: rest) a w := by
  refine wpList_plain hgd fun K hK' => ?_
  have hrun := run_copy_long (P := P) w dT sT o.type elem b off dLen dCap t hu hz hle ht
  unfold Oper.wp
  simp [execOp, hop, resolve, invoke, builtin, hd, hx, hrun, Result.andThen]
  rw [← List.map_take]
  exact hK' _ _ h

/-- What Write does and answers. -/
def Dev.write (d : Dev) (a : Int) (s : List UInt8) : Dev × Int :=
  if d.dead then (d, 17) else if a < 0 then (d.tick, 1) else if s.length % 64 ≠ 0 then (d.tick, 30) else
  if insideE d.now.length a (s.length / 64 : Nat) ≠ 0 then (d.tick, insideE d.now.length a (s.length / 64 : Nat)) else (d.tick.putN a.toNat s (s.length / 64), 0)

theorem Dev.tick_ok {d : Dev} (h : d.ok) (hd : d.dead = false) : d.tick.ok ∧ d.tick.now = d.now ∧ d.tick.last = d.last ∧ d.tick.pend = d.pend := by
  unfold Dev.tick
  cases hs : d.stops
  · exact ⟨h, rfl, rfl, rfl⟩
  · refine ⟨⟨h.same, h.pos, h.few, h.l64, h.n64, h.p64, fun _ => ?_, ?_, ?_⟩, rfl, rfl, rfl⟩
    all_goals
      have h1 := h.stp hs
      have h2 := h.left1
      have h3 : d.left ≠ 0 := by intro h0; unfold Dev.dead at hd; rw [hs, h0] at hd; simp at hd
      rw [if_pos rfl]
      show _ ≤ _
      simp only
      omega
end Go.Proofs.Ytddehagceenbnaa
