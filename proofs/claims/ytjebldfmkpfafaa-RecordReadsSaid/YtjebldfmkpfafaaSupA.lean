/- Layer 11: bytes and take. -/
import Derived.Test.YtjebldfmkpfafaaBytesOf
import Derived.Test.YtjebldfmkpfafaaNum
import Derived.Test.YtjebldfmkpfafaaRecP
namespace Go.Proofs.Ytjebldfmkpfafaa
open Go.RowKit
set_option maxRecDepth 100000

theorem tyBytes : SlTy Try.prog 41 5 1 1 (.int .u8 0) := SlTy.mk' Try.underlying41 (by kernel_rfl) rfl (by decide)

/-- append(s, nil...). -/
theorem wpList_app0 {P : Program} {t e : TypeId} {size bytes : Nat} {z : Value} (T : SlTy P t e size bytes z) {ops : Array Oper} {rest : List Oper} {o : Oper} {a : Act} {Q : Exit → Act → World → Prop} {w : World} (hgd : o.guard = none) (s x : Operand)
    (ho : o.op = .call { callee := .builtin .append, args := #[s, x], argTypes := #[t, t] }) (v : Value) (n : Nat) (xs : List Value) (hs : a.eval s = v) (hx : a.eval x = .slice none 0 0) (hown : w.ownsRow 0 e size v n xs)
    (h : wpList P ops Q rest (a.put o.dst v) w) : wpList P ops Q (o :: rest) a w := by
  obtain ⟨hu, ⟨i, hi, hz, hsz, hby⟩, hzs, hp⟩ := T
  have hr := run_append_owned_none (P := P) (w := w) 0 t o.type e i size hu hi v n xs hown
  refine wpList_run hgd v ?_ h
  unfold execOp
  simp only [ho, resolve, invoke, builtin, Sem.run_bind, Sem.run_pure, Result.andThen_ok, List.map_toArray, List.map_cons, List.map_nil, hs, hx, hr]

theorem keeps_lit {w wr w' : World} {o : Obj} {L : List Nat} (hk : Keeps [] w wr) (h : Keeps L (wr.alloc o) w') (hL : ∀ x, x ∈ L → x = wr.heap.size) : Keeps [] w w' :=
  (hk.alloc o).trans h (fun x hx => .inr (by rw [hL x hx]; exact hk.size))

theorem or64 (X c : Nat) (hX : X < 72057594037927936) (hc : c < 256) : bits .or .u64 ((X : Int) * 128 * 2) (c : Int) = ((X * 256 + c : Nat) : Int) := by
  have h := bits_or_u64_nat (X * 256) c (by omega) (by omega)
  have e : ((X * 256 : Nat) : Int) = (X : Int) * 128 * 2 := by omega
  rw [e] at h
  refine h.trans ?_
  congr 1
  rw [show (256 : Nat) = 2 ^ 8 from rfl, ← Nat.shiftLeft_eq, ← Nat.shiftLeft_add_eq_or_of_lt (by omega), Nat.shiftLeft_eq]

theorem or32 (X c : Nat) (hX : X < 16777216) (hc : c < 256) : bits .or .u32 ((X : Int) * 128 * 2) (c : Int) = ((X * 256 + c : Nat) : Int) := by
  have h := u32_or_nat (X * 256) c (by omega) (by omega)
  have e : ((X * 256 : Nat) : Int) = (X : Int) * 128 * 2 := by omega
  rw [e] at h
  refine h.trans ?_
  congr 1
  rw [show (256 : Nat) = 2 ^ 8 from rfl, ← Nat.shiftLeft_eq, ← Nat.shiftLeft_add_eq_or_of_lt (by omega), Nat.shiftLeft_eq]

end Go.Proofs.Ytjebldfmkpfafaa
