/- The end of a law's row: it returns true, and what was handed in reads as it did. -/
import Derived.Test.YtjebldfmkpfafaaRecP
import Derived.ProofKit
import Derived.SizedLaws
import Derived.OpenShut
import Derived.JoinedCond
import Derived.Deep.Slices
import Derived.Deep.Fields
import Derived.Test.YtjebldfmkpfafaaRows
import Derived.WalkKit
import Derived.StillTail
import Derived.Deep.Quiet
import Derived.BigQuiet
import Derived.Deep.WholeRow
import Derived.Laws.Rows
import Derived.Laws.ResultCell
import Derived.Lib.ConvBytes
namespace Go.Proofs.Ytjebldfmkpfafaa
open Go.ChangeShapes Go.WideShapes Go.ChangeAt Go.RowKit
set_option maxRecDepth 100000

theorem Try.own : ownKnob Try.prog.godebug = none := by kernel_rfl
theorem Try.laidOut : laidOutB Try.prog = true := by kernel_rfl

theorem trodAll_below {H : Type} {enc : TypeId × Value → H} {P : Program} (hl : laidOutB P = true) {W W' : World} (hb : Below W.heap.size W W') : ∀ (ts : List TypeId) (vs : List Value) (ds : List (DataW H)) (ps : List MemPlace),
    ts.all (fun t => P.readableRec t && decide (t < P.types.size)) = true → DataW.TrodAll enc P W 0 (fun _ => true) true ts vs ds ps → (∀ x ∈ ps, x.block < W.heap.size) →
    DataW.TrodAll enc P W' 0 (fun b => decide (b < W.heap.size)) true ts vs ds ps
  | [], [], [], _, _, h, _ => h
  | t :: ts, v :: vs, d :: ds, ps, hr, h, hlt => by
    obtain ⟨p, q, h1, h2, rfl⟩ := h
    simp only [List.all_cons, Bool.and_eq_true, decide_eq_true_eq] at hr
    exact ⟨p, q, Below.trod hl hr.1.1 hr.1.2 h1 hb (fun x hx => hlt x (by simp [hx])), trodAll_below hl hb ts vs ds q hr.2 h2 (fun x hx => hlt x (by simp [hx])), rfl⟩
  | [], _ :: _, _, _, _, h, _ => h.elim
  | [], [], _ :: _, _, _, h, _ => h.elim
  | _ :: _, [], _, _, _, h, _ => h.elim
  | _ :: _, _ :: _, [], _, _, h, _ => h.elim

theorem law_end {H : Type} {enc : TypeId × Value → H} {P : Program} {f : Func} {s : ChangeSpec} {W W' : World} {args : Array Value} {ds gs : List (DataW H)} {before : List MemPlace} {tb : TypeId} (hl : laidOutB P = true)
    (hr : f.params.toList.all (fun t => P.readableRec t && decide (t < P.types.size)) = true) (hv : s.vars = []) (hrt : f.resultTypes = #[tb]) (ht : P.underlying tb = some .bool)
    (hW : DataW.Whole enc P f.params.toList s.vars false W args.toList ds gs before) (hs : s.fn H ds = { results := [.lit (.bool true)], args := ds }) (hk : Keeps [] W W') :
    s.post enc P f false true false false W args (.bool true) W' := by
  have hb := hk.below
  have hW' := hW
  obtain ⟨p, q, hA, hV, rfl, hfz, hnd⟩ := hW
  rw [hv] at hV
  obtain ⟨rfl, rfl⟩ := trodVars_none hV
  have hlt : ∀ x ∈ p, x.block < W.heap.size := fun x hx => hW'.lt x (by simp [hx])
  have hargs := trodAll_below hl hb _ _ _ _ hr hA hlt
  refine ⟨ds, [], p ++ [], [], p, [], hW', ?_, ?_, ?_, hb.frame _, fun h => by cases h⟩
  · rw [List.append_nil, hs, hrt]
    exact trodAll_mk1 (shut_bool ht _)
  · rw [List.append_nil, hs]
    exact hargs
  · rw [hv, List.append_nil, hs]
    rfl

theorem wf_u64 {a : Int} (h : (Lit.int .u64 a).wf = true) : ∃ n : Nat, a = n ∧ n < 18446744073709551616 := by
  simp [Lit.wf, IntKind.min, IntKind.max, IntKind.signed, IntKind.bits] at h
  exact ⟨a.toNat, by omega, by omega⟩
theorem wf_i64 {a : Int} (h : (Lit.int .i64 a).wf = true) : -9223372036854775808 ≤ a ∧ a ≤ 9223372036854775807 := by
  simp [Lit.wf, IntKind.min, IntKind.max, IntKind.signed, IntKind.bits] at h
  omega

end Go.Proofs.Ytjebldfmkpfafaa

/- Arguments that are slices, opened: each element's cells. -/
namespace Go.Proofs.Ytjebldfmkpfafaa
open Go.ChangeShapes Go.WideShapes Go.ChangeAt Go.RowKit Go.Deep
set_option maxRecDepth 100000
open Go.ChangeMaps (open_string shut_string)

theorem ret_bool {a b : Bool} (h : a = b) : Ending.returned (.bool a) = .returned (.bool b) := by rw [h]

/-- The slice value v has elements xs; each has the cells f x, c of them; G: the block that they lie in. -/
def SlRows {α : Type} (w : World) (v : Value) (f : α → List Value) (c : Nat) (xs : List α) (G : List Nat) : Prop :=
  ∃ ad cap, v = .slice ad xs.length cap ∧ (xs ≠ [] → ∃ k off, ad = some ⟨k, off, none⟩ ∧ k ∈ G ∧ ∀ i a, xs[i]? = some a → ∀ j u, (f a)[j]? = some u → w.cell? ⟨k, off + i * c + j, none⟩ = some u)

theorem SlRows.keep {α : Type} {w w' : World} {v : Value} {f : α → List Value} {c : Nat} {xs : List α} {F G : List Nat} (h : SlRows w v f c xs G) (k : Keeps F w w') (hd : ∀ x, x ∈ G → x ∉ F) : SlRows w' v f c xs G := by
  obtain ⟨ad, cap, rfl, h2⟩ := h
  refine ⟨ad, cap, rfl, fun h0 => ?_⟩
  obtain ⟨b, off, rfl, hb, hc⟩ := h2 h0
  refine ⟨b, off, rfl, hb, fun i a hi j u hj => ?_⟩
  have := hc i a hi j u hj
  rw [← this]
  exact k.cell (World.block_lt_of_cell? w _ this) (hd _ hb)

/-- Elements of one cell each. -/
theorem SlRows.slAt {α : Type} {w : World} {v : Value} {f : α → Value} {xs : List α} {G : List Nat} (h : SlRows w v (fun a => [f a]) 1 xs G) : SlAt w v (xs.map f) G := by
  obtain ⟨ad, cap, rfl, h2⟩ := h
  refine ⟨ad, cap, by rw [List.length_map], fun h0 => ?_⟩
  obtain ⟨b, off, rfl, hb, hc⟩ := h2 (by simpa using h0)
  refine ⟨b, off, rfl, hb, fun j u hj => ?_⟩
  rw [List.getElem?_map] at hj
  obtain ⟨a, ha, rfl⟩ := Option.map_eq_some_iff.1 hj
  have := hc j a ha 0 (f a) rfl
  rwa [Nat.mul_one, Nat.add_zero] at this

theorem list_of {α : Type} {Q : Nat → α → Prop} : ∀ n : Nat, (∀ i, i < n → ∃ a, Q i a) → ∃ xs : List α, xs.length = n ∧ ∀ i a, xs[i]? = some a → Q i a
  | 0, _ => ⟨[], rfl, fun i a h => by simp at h⟩
  | n + 1, h => by
    obtain ⟨xs, hl, hx⟩ := list_of n (fun i hi => h i (by omega))
    obtain ⟨a, ha⟩ := h n (by omega)
    refine ⟨xs ++ [a], by simp [hl], fun i b hb => ?_⟩
    by_cases hi : i < n
    · rw [List.getElem?_append_left (by omega)] at hb
      exact hx i b hb
    · rw [List.getElem?_append_right (by omega), hl] at hb
      have : i - n = 0 := by
        rcases Nat.eq_zero_or_pos (i - n) with h0 | h0
        · exact h0
        · rw [List.getElem?_eq_none (by simp; omega)] at hb; cases hb
      rw [this] at hb
      have hin : i = n := by omega
      simp at hb
      subst hb; subst hin
      exact ha

theorem open_agg {H : Type} {enc : TypeId × Value → H} {P : Program} {W : World} {t : TypeId} {fs : Array Field} {v : Value} {d : DataW H} {p : List MemPlace} {r : Reach} {b0 : Nat}
    (ht : P.underlying t = some (.struct fs)) (hok : Value.okWide P W r b0 t v) (h : DataW.Trod enc P W 0 (fun _ => true) true t v d p) :
    ∃ cs n x, v = .agg cs ∧ DataW.trod enc P W 0 (fun _ => true) true n t cs.toList = some x := by
  obtain ⟨cs, rfl, _⟩ := okWide_struct ht hok
  obtain ⟨n, hn⟩ := h
  exact ⟨cs, n, _, rfl, hn⟩

theorem open_rows {α H : Type} {enc : TypeId × Value → H} {P : Program} {W : World} {t e : TypeId} {v : Value} {d : DataW H} {p : List MemPlace} {r : Reach} {b0 : Nat} (f : α → List Value) (good : α → Prop) (c : Nat) (hc : P.cellsOf e = c) (hc0 : 0 < c)
    (ht : P.underlying t = some (.slice e)) (hok : Value.okWide P W r b0 t v)
    (hel : ∀ n cs' x, DataW.trod enc P W 0 (fun _ => true) true n e cs' = some x → ∃ a, cs' = f a ∧ good a)
    (h : DataW.Trod enc P W 0 (fun _ => true) true t v d p) :
    ∃ (xs : List α) (G : List Nat), SlRows W v f c xs G ∧ (∀ a, a ∈ xs → good a) ∧ (∀ k, k ∈ G → k < W.heap.size) ∧ xs.length ≤ 9223372036854775807 := by
  obtain ⟨a0, len, cap, rfl⟩ := okWide_slice ht hok
  obtain ⟨fuel, hf⟩ := h
  rcases open_slice ht hf with ⟨hcs, _⟩ | ⟨a, len', cap', m, n, D, Pl, hcs, _, hl, hcm, hm, _, hi⟩
  · simp [Value.cells] at hcs
    obtain ⟨rfl, rfl, rfl⟩ := hcs
    exact ⟨[], [], ⟨_, _, rfl, fun h => absurd rfl h⟩, by simp, by simp, by simp⟩
  · simp [Value.cells] at hcs
    obtain ⟨rfl, rfl, rfl⟩ := hcs
    simp only [if_true] at hm
    obtain ⟨xs, hxl, hxs⟩ := list_of (Q := fun i (x : α) => W.cells? 0 (a.add (i * c)) c = some (f x) ∧ good x) len (fun i hil => by
      obtain ⟨cs', h1, h2⟩ := hi i (by omega)
      obtain ⟨x, rfl, hg⟩ := hel _ _ _ h2
      exact ⟨x, by rw [← hc]; exact h1, hg⟩)
    have hgood : ∀ x, x ∈ xs → good x := fun x hx => by
      obtain ⟨i, hi'⟩ := List.mem_iff_getElem?.1 hx
      exact (hxs i x hi').2
    by_cases h0 : xs = []
    · exact ⟨xs, [], ⟨_, _, by rw [hxl], fun h => absurd h0 h⟩, hgood, by simp, by unfold maxLen at hcm; omega⟩
    · obtain ⟨x0, hx0⟩ : ∃ x, xs[0]? = some x := ⟨xs[0]'(List.length_pos_iff.2 h0), by simp⟩
      obtain ⟨hb, hlen, hcell⟩ := World.cells?_some (hxs 0 x0 hx0).1
      have hc1 := hcell 0 hc0
      rw [List.getElem?_eq_getElem (by omega), Nat.zero_mul] at hc1
      obtain ⟨k, off, spot⟩ := a
      have hspot : spot = none := by simpa [Addr.add] using World.cell?_spot hc1
      subst hspot
      have hk : k < W.heap.size := by simpa [Addr.add] using World.block_lt_of_cell? W _ hc1
      refine ⟨xs, [k], ⟨_, _, by rw [hxl], fun _ => ⟨k, off, rfl, by simp, fun i x hix j u hj => ?_⟩⟩, hgood, one_lt hk, by unfold maxLen at hcm; omega⟩
      obtain ⟨_, hlen, hcell⟩ := World.cells?_some (hxs i x hix).1
      have hjl : j < c := by
        have := (List.getElem?_eq_some_iff.1 hj).1
        omega
      have h2 := hcell j hjl
      rw [hj] at h2
      rwa [add_plain, add_plain] at h2

section
variable {H : Type} {enc : TypeId × Value → H} {P : Program} {W : World} {n : Nat} {cs : List Value} {x : DataW H × List MemPlace} {e : TypeId}
/-- A struct of one-cell fields, read field by field. -/
theorem elem_fields {fs : Array Field} (ht : P.underlying e = some (.struct fs)) (hone : oneCellFields P fs = true) (hC : P.cellsOf e = fs.size) (h : DataW.trod enc P W 0 (fun _ => true) true n e cs = some x) :
    ∃ m, cs.length = fs.size ∧ ∀ (j : Nat) (f : Field) (v : Value), fs[j]? = some f → cs[j]? = some v → ∃ y, DataW.trod enc P W 0 (fun _ => true) true m f.type [v] = some y := by
  obtain ⟨xs, m, _, _, hcl, hxl, hf⟩ := DataW.trod_struct ht h
  refine ⟨m, by rw [hcl, hC], fun j f v hj hv => ?_⟩
  obtain ⟨ho, hk⟩ := hone_of hone j f hj
  have h1 := hf j f hj
  rw [ho, hk] at h1
  have hjl : j < fs.size := (Array.getElem?_eq_some_iff.1 hj).1
  obtain ⟨hjc, rfl⟩ := List.getElem?_eq_some_iff.1 hv
  rw [List.drop_eq_getElem_cons hjc, List.take_succ_cons, List.take_zero, List.getElem?_eq_getElem (by omega)] at h1
  exact ⟨_, h1⟩
theorem elem_u64 (he : P.underlying e = some (.int .u64)) (h : DataW.trod enc P W 0 (fun _ => true) true n e cs = some x) : ∃ a : Nat, cs = [.int .u64 a] ∧ a < 18446744073709551616 := by
  obtain ⟨a, rfl, _, hw⟩ := DataW.trod_int he h
  obtain ⟨m, rfl, hm⟩ := wf_u64 hw
  exact ⟨m, rfl, hm⟩
theorem elem_i64 (he : P.underlying e = some (.int .i64)) (h : DataW.trod enc P W 0 (fun _ => true) true n e cs = some x) : ∃ a : Int, cs = [.int .i64 a] ∧ -9223372036854775808 ≤ a ∧ a ≤ 9223372036854775807 := by
  obtain ⟨a, rfl, _, hw⟩ := DataW.trod_int he h
  exact ⟨a, rfl, wf_i64 hw⟩
theorem elem_string (he : P.underlying e = some .string) (h : DataW.trod enc P W 0 (fun _ => true) true n e cs = some x) : ∃ s : ByteArray, cs = [.string s] ∧ s.size ≤ 9223372036854775807 := by
  obtain ⟨s, rfl, _, hw⟩ := DataW.trod_string he h
  exact ⟨s, rfl, by unfold maxLen at hw; omega⟩
end
end Go.Proofs.Ytjebldfmkpfafaa

/- Arguments of bytes and of whole numbers, opened. -/
namespace Go.Proofs.Ytjebldfmkpfafaa
open Go.ChangeShapes Go.WideShapes Go.ChangeAt Go.RowKit Go.Deep
set_option maxRecDepth 100000

theorem wf_u8 {a : Int} (h : (Lit.int .u8 a).wf = true) : 0 ≤ a ∧ a ≤ 255 := by
  simp [Lit.wf, IntKind.min, IntKind.max, IntKind.signed, IntKind.bits] at h
  omega

theorem elem_u8 {H : Type} {enc : TypeId × Value → H} {P : Program} {W : World} {n : Nat} {cs : List Value} {x : DataW H × List MemPlace} {e : TypeId} (he : P.underlying e = some (.int .u8)) (h : DataW.trod enc P W 0 (fun _ => true) true n e cs = some x) : ∃ c : UInt8, cs = [u8v c] ∧ True := by
  obtain ⟨a, rfl, _, hw⟩ := DataW.trod_int he h
  obtain ⟨h0, h1⟩ := wf_u8 hw
  refine ⟨UInt8.ofNat a.toNat, ?_, trivial⟩
  unfold u8v
  congr 2
  simp only [UInt8.toNat_ofNat']
  omega

theorem elem_int {H : Type} {enc : TypeId × Value → H} {P : Program} {W : World} {n : Nat} {cs : List Value} {x : DataW H × List MemPlace} {e : TypeId} (he : P.underlying e = some (.int .i64)) (h : DataW.trod enc P W 0 (fun _ => true) true n e cs = some x) : ∃ a : Int, cs = [.int .i64 a] ∧ -9223372036854775808 ≤ a ∧ a ≤ 9223372036854775807 := by
  obtain ⟨a, h1, h2⟩ := elem_i64 he h
  exact ⟨a, h1, h2⟩

/-- A slice that is an element's part, opened. -/
theorem open_inner {α H : Type} {enc : TypeId × Value → H} {P : Program} {W : World} {t e : TypeId} {v : Value} {m : Nat} {y : DataW H × List MemPlace} (f : α → List Value) (good : α → Prop) (c : Nat) (hc : P.cellsOf e = c) (hc0 : 0 < c)
    (ht : P.underlying t = some (.slice e))
    (hel : ∀ n cs' x, DataW.trod enc P W 0 (fun _ => true) true n e cs' = some x → ∃ a, cs' = f a ∧ good a)
    (hf : DataW.trod enc P W 0 (fun _ => true) true m t [v] = some y) :
    ∃ (xs : List α) (G : List Nat), SlRows W v f c xs G ∧ (∀ a, a ∈ xs → good a) ∧ (∀ k, k ∈ G → k < W.heap.size) ∧ xs.length ≤ 9223372036854775807 := by
  rcases open_slice ht hf with ⟨hcs, _⟩ | ⟨a, len', cap', m, n, D, Pl, hcs, _, hl, hcm, hm, _, hi⟩
  · simp at hcs
    subst hcs
    exact ⟨[], [], ⟨_, _, rfl, fun h => absurd rfl h⟩, by simp, by simp, by simp⟩
  · simp at hcs
    subst hcs
    simp only [if_true] at hm
    obtain ⟨xs, hxl, hxs⟩ := list_of (Q := fun i (x : α) => W.cells? 0 (a.add (i * c)) c = some (f x) ∧ good x) len' (fun i hil => by
      obtain ⟨cs', h1, h2⟩ := hi i (by omega)
      obtain ⟨x, rfl, hg⟩ := hel _ _ _ h2
      exact ⟨x, by rw [← hc]; exact h1, hg⟩)
    have hgood : ∀ x, x ∈ xs → good x := fun x hx => by
      obtain ⟨i, hi'⟩ := List.mem_iff_getElem?.1 hx
      exact (hxs i x hi').2
    by_cases h0 : xs = []
    · exact ⟨xs, [], ⟨_, _, by rw [hxl], fun h => absurd h0 h⟩, hgood, by simp, by unfold maxLen at hcm; omega⟩
    · obtain ⟨x0, hx0⟩ : ∃ x, xs[0]? = some x := ⟨xs[0]'(List.length_pos_iff.2 h0), by simp⟩
      obtain ⟨hb, hlen, hcell⟩ := World.cells?_some (hxs 0 x0 hx0).1
      have hc1 := hcell 0 hc0
      rw [List.getElem?_eq_getElem (by omega), Nat.zero_mul] at hc1
      obtain ⟨k, off, spot⟩ := a
      have hspot : spot = none := by simpa [Addr.add] using World.cell?_spot hc1
      subst hspot
      have hk : k < W.heap.size := by simpa [Addr.add] using World.block_lt_of_cell? W _ hc1
      refine ⟨xs, [k], ⟨_, _, by rw [hxl], fun _ => ⟨k, off, rfl, by simp, fun i x hix j u hj => ?_⟩⟩, hgood, one_lt hk, by unfold maxLen at hcm; omega⟩
      obtain ⟨_, hlen, hcell⟩ := World.cells?_some (hxs i x hix).1
      have hjl : j < c := by
        have := (List.getElem?_eq_some_iff.1 hj).1
        omega
      have h2 := hcell j hjl
      rw [hj] at h2
      rwa [add_plain, add_plain] at h2
end Go.Proofs.Ytjebldfmkpfafaa

/- A region that draws its order, whose operations that turn the world stand in one forced order, each world known by then; all others yield the same in each world in which they may come: one walk of the text's order serves every order. -/
namespace Go.Proofs.Ytjebldfmkpfafaa
set_option maxRecDepth 100000

section
variable {P : Program} {ops : Array Oper} {md : Region.Mode} {D : Nat → World → Prop} {ws : List Nat}

/-- What an operation waits for, straight. -/
def depsOf (md : Region.Mode) (ops : Array Oper) (j : Nat) : List Nat :=
  match ops[j]? with
  | some o => (o.after.toList.filter (fun e => Region.binds md e)).map (fun e => e.on)
  | none => []
def closeL (md : Region.Mode) (ops : Array Oper) : Nat → List Nat → List Nat
  | 0, l => l
  | m + 1, l => closeL md ops m (if l.contains m then l ++ depsOf md ops m else l)
/-- What an operation waits for, through others too. -/
def needs (md : Region.Mode) (ops : Array Oper) (j : Nat) : List Nat := closeL md ops ops.size (depsOf md ops j)

theorem closeL_sound {S : Nat → Prop} (hS : ∀ j, S j → ∀ m, m ∈ depsOf md ops j → S m) : ∀ (n : Nat) (l : List Nat), (∀ x, x ∈ l → S x) → ∀ x, x ∈ closeL md ops n l → S x
  | 0, _, h, x, hx => h x hx
  | m + 1, l, h, x, hx => by
    refine closeL_sound hS m _ (fun y hy => ?_) x hx
    split at hy
    · rename_i hc
      rcases List.mem_append.1 hy with h1 | h1
      · exact h y h1
      · exact hS m (h m (by simpa using hc)) y h1
    · exact h y hy

/-- What an operation has yielded: v, in a world of the class C. -/
def upS (P : Program) (C : World → Prop) (v : Value) : Result Next → Prop
  | .ok (.value u) w' => C w' ∧ u = v
  | .ok .skip w' => C w' ∧ v = undef
  | .ok (.enter f args) w' => Calls P f args w' (fun e w'' => e = .returned v ∧ C w'')
  | _ => False

/-- Operation j may come when k of the turning ones are done. -/
def mayS (md : Region.Mode) (ops : Array Oper) (ws : List Nat) (j k : Nat) : Prop :=
  ((ws.take k).all fun i => !(needs md ops i).contains j) = true ∧ ((ws.drop k).all fun i => !(needs md ops j).contains i) = true

/-- Operation number i leaves v in its temporary, whenever it may come: a turning one takes the class k to the class k + 1, each other one stays in it. -/
def yieldsS (P : Program) (md : Region.Mode) (ops : Array Oper) (D : Nat → World → Prop) (ws : List Nat) (i : Nat) (o : Oper) (v : Value) (a : Act) : Prop :=
  (Region.wanted o (yielded ops a.tmps) = true ∧
    ((∀ k w, ws[k]? = some i → D k w → upS P (D (k + 1)) v ((execOp a.eval o).run P w)) ∧
     (i ∉ ws → ∀ k w, k ≤ ws.length → mayS md ops ws i k → D k w → upS P (D k) v ((execOp a.eval o).run P w)))) ∨
  (Region.wanted o (yielded ops a.tmps) = false ∧ v = undef ∧ ∀ k w, ws[k]? = some i → D k w → D (k + 1) w)

def wpSeqS (P : Program) (md : Region.Mode) (ops : Array Oper) (D : Nat → World → Prop) (ws : List Nat) (Q : Act → Prop) : Nat → List Oper → Act → Prop
  | _, [], a => Q a
  | i, o :: rest, a => ∃ v, yieldsS P md ops D ws i o v a ∧ wpSeqS P md ops D ws Q (i + 1) rest (a.put o.dst v)

def sOp (P : Program) (md : Region.Mode) (ops : Array Oper) (D : Nat → World → Prop) (ws : List Nat) (i : Nat) (K : Act → Prop) (a : Act) : Prop :=
  ∃ o v, ops[i]? = some o ∧ yieldsS P md ops D ws i o v a ∧ K (a.put o.dst v)

theorem sOp_mono {i : Nat} {a : Act} {K K' : Act → Prop} (h : ∀ a, K a → K' a) (hh : sOp P md ops D ws i K a) : sOp P md ops D ws i K' a := by
  obtain ⟨o, v, h1, h2, h3⟩ := hh
  exact ⟨o, v, h1, h2, h _ h3⟩

def wpAnyS (P : Program) (md : Region.Mode) (ops : Array Oper) (D : Nat → World → Prop) (ws : List Nat) (Q : Act → Prop) : Nat → Array Bool → Act → Prop
  | 0, listed, a => Region.ready md ops listed = [] ∧ Q a
  | fuel + 1, listed, a => (Region.ready md ops listed = [] → Q a) ∧ ∀ i ∈ Region.ready md ops listed, sOp P md ops D ws i (wpAnyS P md ops D ws Q fuel (listed.setIfInBounds i true)) a

theorem yieldsS_same {i : Nat} {o : Oper} {v : Value} {a a' : Act} (hy : yieldsS P md ops D ws i o v a) (he : execOp a'.eval o = execOp a.eval o)
    (hw : Region.wanted o (yielded ops a'.tmps) = Region.wanted o (yielded ops a.tmps)) : yieldsS P md ops D ws i o v a' := by
  unfold yieldsS at *
  rw [he, hw]
  exact hy

theorem sOp_put {i j : Nat} {oi oj : Oper} {v : Value} (hj : ops[j]? = some oj) (hap : oi.apart ops oj = true)
    (hsi : ∀ cs b, oi.op ≠ .select cs b) (hsj : ∀ cs b, oj.op ≠ .select cs b) {K : Act → Prop} {a : Act}
    (hy : yieldsS P md ops D ws i oi v a) (h : sOp P md ops D ws j K (a.put oi.dst v)) :
    sOp P md ops D ws j (fun a' => yieldsS P md ops D ws i oi v a' ∧ K (a'.put oi.dst v)) a := by
  obtain ⟨h1, h2, h3⟩ := Oper.apart_spec hap
  obtain ⟨o, u, ho, hu, hn⟩ := h
  obtain rfl : oj = o := Option.some.inj (hj.symm.trans ho)
  refine ⟨oj, u, hj, yieldsS_same hu (execOp_put oj hsj a oi.dst v h1).symm (wanted_put oj a oi.dst v h1).symm, ?_, by rw [← Act.put_comm a v u h2]; exact hn⟩
  exact yieldsS_same hy (execOp_put oi hsi a oj.dst u h3) (wanted_put oi a oj.dst u h3)

theorem wpAnyS_first {Q : Act → Prop} {i : Nat} {oi : Oper} {v : Value} (hi : ops[i]? = some oi) (hsel : ∀ (j : Nat) (o : Oper) cs b, ops[j]? = some o → o.op ≠ .select cs b) :
    ∀ (fuel : Nat) (listed : Array Bool) (a : Act),
      (∀ j oj, ops[j]? = some oj → j ≠ i → listed.getD j true = false → (∀ e ∈ oj.after, Region.binds md e = true → e.on ≠ i) → oi.apart ops oj = true) →
      i ∈ Region.ready md ops listed → yieldsS P md ops D ws i oi v a →
      wpAnyS P md ops D ws Q fuel (listed.setIfInBounds i true) (a.put oi.dst v) → wpAnyS P md ops D ws Q (fuel + 1) listed a := by
  intro fuel
  induction fuel with
  | zero =>
    intro listed a _ hr hy H
    refine ⟨fun h => (by rw [h] at hr; cases hr), fun j hj => ?_⟩
    by_cases hji : j = i
    · subst hji; exact ⟨oi, v, hi, hy, H⟩
    · have := ready_mono hj hji
      rw [H.1] at this
      cases this
  | succ fuel ih =>
    intro listed a hfree hr hy H
    refine ⟨fun h => (by rw [h] at hr; cases hr), fun j hj => ?_⟩
    by_cases hji : j = i
    · subst hji; exact ⟨oi, v, hi, hy, H⟩
    · have h1 := H.2 j (ready_mono hj hji)
      obtain ⟨hjun, oj, hoj, hall⟩ := mem_ready.1 hj
      have hnot : ∀ e ∈ oj.after, Region.binds md e = true → e.on ≠ i := fun e he hb heq => by
        have h1 := hall e he hb
        have h0 := (mem_ready.1 hr).1
        rw [heq] at h1
        rw [getD_both h0] at h1
        cases h1
      have h2 := sOp_put hoj (hfree j oj hoj hji hjun hnot) (fun cs b => hsel i oi cs b hi) (fun cs b => hsel j oj cs b hoj) hy h1
      have hfree' : ∀ k ok, ops[k]? = some ok → k ≠ i → (listed.setIfInBounds j true).getD k true = false →
          (∀ e ∈ ok.after, Region.binds md e = true → e.on ≠ i) → oi.apart ops ok = true := fun k ok hk hki hun hno => by
        refine hfree k ok hk hki ?_ hno
        by_cases hjk : j = k
        · subst hjk; exact hjun
        · rw [getD_set_ne true hjk] at hun; exact hun
      refine sOp_mono (fun a' h3 => ih (listed.setIfInBounds j true) a' hfree' (ready_mono hr (Ne.symm hji)) h3.1 ?_) h2
      rw [Array.setIfInBounds_comm _ _ hji]
      exact h3.2

theorem wpAnyS_lex {Q : Act → Prop} (hs : Region.noSelect ops = true) : ∀ (l : List Oper) (k : Nat) (listed : Array Bool) (a : Act), (∀ j, l[j]? = ops[k + j]?) →
    Region.lexFrom md ops l.length k listed = true → wpSeqS P md ops D ws Q k l a → wpAnyS P md ops D ws Q l.length listed a
  | [], _, _, _, _, hB, h => ⟨by simpa [Region.lexFrom] using hB, h⟩
  | o :: l, k, listed, a, hl, hB, h => by
    have h0 : ops[k]? = some o := by simpa using (hl 0).symm
    simp only [List.length_cons, Region.lexFrom, Bool.and_eq_true] at hB
    obtain ⟨⟨hr, hf⟩, hB'⟩ := hB
    obtain ⟨v, hy, hK⟩ := h
    exact wpAnyS_first h0 (Region.noSelect_spec hs) l.length listed a (Region.free_spec h0 hf) (by simpa using hr) hy
      (wpAnyS_lex hs l (k + 1) _ _ (fun j => by have := hl (j + 1); simpa [Nat.add_assoc, Nat.add_comm 1 j] using this) hB' hK)

/-- What is listed, when k turning operations are done. -/
structure InvS (md : Region.Mode) (ops : Array Oper) (ws : List Nat) (listed : Array Bool) (k : Nat) : Prop where
  closed : ∀ j oj, ops[j]? = some oj → listed.getD j false = true → ∀ e ∈ oj.after, Region.binds md e = true → listed.getD e.on false = true
  wr : ∀ (m i : Nat), ws[m]? = some i → (listed.getD i false = true ↔ m < k)
  le : k ≤ ws.length

/-- The turning operations wait for one another. -/
def chainS (md : Region.Mode) (ops : Array Oper) (ws : List Nat) : Bool :=
  decide ws.Nodup && (List.range ws.length).all fun m => m == 0 || match ws[m]?, ws[m - 1]? with | some x, some y => Region.waitsFor md ops x y | _, _ => false

theorem chainS_spec (h : chainS md ops ws = true) : ws.Nodup ∧ ∀ (m x y : Nat), ws[m + 1]? = some x → ws[m]? = some y → Region.waitsFor md ops x y = true := by
  unfold chainS at h
  rw [Bool.and_eq_true, decide_eq_true_eq, List.all_eq_true] at h
  refine ⟨h.1, fun m x y hx hy => ?_⟩
  have h1 := h.2 (m + 1) (List.mem_range.2 (List.getElem?_eq_some_iff.1 hx).1)
  simpa [hx, hy] using h1

theorem wpAny_of_seqS {Q : Act → Prop} {Q' : Exit → Act → World → Prop} (hc : chainS md ops ws = true) (hQ : ∀ a w, D ws.length w → Q a → Q' .normal a w)
    (hall : ∀ listed k, listed.size = ops.size → InvS md ops ws listed k → Region.ready md ops listed = [] → k = ws.length) :
    ∀ (fuel : Nat) (listed : Array Bool) (k : Nat) (a : Act) (w : World), listed.size = ops.size → InvS md ops ws listed k → D k w →
    wpAnyS P md ops D ws Q fuel listed a → wpAny P md ops Q' fuel listed a w
  | 0, listed, k, a, w, hsz, inv, hD, h => ⟨h.1, hQ _ _ (by rw [← hall listed k hsz inv h.1]; exact hD) h.2⟩
  | fuel + 1, listed, k, a, w, hsz, inv, hD, h => by
    refine ⟨fun h0 => hQ _ _ (by rw [← hall listed k hsz inv h0]; exact hD) (h.1 h0), fun i hi => ?_⟩
    obtain ⟨o, v, ho, hy, hK⟩ := h.2 i hi
    obtain ⟨hun, oi, hoi, hdeps⟩ := mem_ready.1 hi
    obtain rfl : o = oi := Option.some.inj (ho.symm.trans hoi)
    obtain ⟨hnd, hch⟩ := chainS_spec hc
    have hisz : i < listed.size := by rw [hsz]; exact (Array.getElem?_eq_some_iff.1 ho).1
    have hclosed' : ∀ j oj, ops[j]? = some oj → (listed.setIfInBounds i true).getD j false = true → ∀ e ∈ oj.after, Region.binds md e = true → (listed.setIfInBounds i true).getD e.on false = true := by
      intro j oj hoj hl e he hb
      by_cases hij : i = j
      · subst hij
        obtain rfl : oj = o := Option.some.inj (hoj.symm.trans ho)
        exact getD_set_true (hdeps e he hb)
      · rw [getD_set_ne false hij] at hl
        exact getD_set_true (inv.closed j oj hoj hl e he hb)
    -- a turning operation that is ready is the next one
    have hnext : ∀ m : Nat, ws[m]? = some i → m = k := by
      intro m hm
      have h1 : ¬ m < k := fun h2 => by
        have := (inv.wr m i hm).2 h2
        rw [getD_both hun] at this
        cases this
      rcases Nat.lt_or_ge k m with h2 | h2
      · obtain ⟨m', rfl⟩ : ∃ m', m = m' + 1 := ⟨m - 1, by omega⟩
        have hlt : m' < ws.length := by have := (List.getElem?_eq_some_iff.1 hm).1; omega
        have hw := hch m' i ws[m'] hm (List.getElem?_eq_getElem hlt)
        obtain ⟨oj, hoj, e, he, hb, hon⟩ := Region.waitsFor_spec hw
        obtain rfl : oj = o := Option.some.inj (hoj.symm.trans ho)
        have := hdeps e he hb
        rw [hon] at this
        have := (inv.wr m' _ (List.getElem?_eq_getElem hlt)).1 this
        omega
      · omega
    have invS : ∀ m : Nat, ws[m]? = some i → InvS md ops ws (listed.setIfInBounds i true) (k + 1) := by
      intro m hm
      obtain rfl := hnext m hm
      refine ⟨hclosed', fun m' i' hm' => ?_, by have := (List.getElem?_eq_some_iff.1 hm).1; omega⟩
      by_cases hii : i = i'
      · subst hii
        have hmm : m' = m := List.getElem?_inj (List.getElem?_eq_some_iff.1 hm').1 hnd |>.1 (hm'.trans hm.symm)
        subst hmm
        simp [hisz]
      · rw [getD_set_ne false hii, inv.wr m' i' hm']
        constructor
        · omega
        · intro h3
          rcases Nat.lt_or_ge m' m with h4 | h4
          · exact h4
          · have : m' = m := by omega
            subst this
            exact absurd (Option.some.inj (hm.symm.trans hm')) hii
    have invR : i ∉ ws → InvS md ops ws (listed.setIfInBounds i true) k := by
      intro hni
      refine ⟨hclosed', fun m' i' hm' => ?_, inv.le⟩
      have hii : i ≠ i' := fun h => hni (by rw [h]; exact List.mem_of_getElem? hm')
      rw [getD_set_ne false hii]
      exact inv.wr m' i' hm'
    have hS : ∀ j, listed.getD j false = true → ∀ m, m ∈ depsOf md ops j → listed.getD m false = true := by
      intro j hj m hm
      unfold depsOf at hm
      split at hm
      · rename_i oj hoj
        obtain ⟨e, he, rfl⟩ := List.mem_map.1 hm
        obtain ⟨he1, he2⟩ := List.mem_filter.1 he
        exact inv.closed j oj hoj hj e (by simpa using he1) (by simpa using he2)
      · cases hm
    have hneed : ∀ j, listed.getD j false = true → ∀ m, m ∈ needs md ops j → listed.getD m false = true := fun j hj m hm =>
      closeL_sound hS _ _ (hS j hj) m hm
    have hneedi : ∀ m, m ∈ needs md ops i → listed.getD m false = true := by
      refine closeL_sound hS _ _ (fun m hm => ?_)
      unfold depsOf at hm
      rw [ho] at hm
      obtain ⟨e, he, rfl⟩ := List.mem_map.1 hm
      obtain ⟨he1, he2⟩ := List.mem_filter.1 he
      exact hdeps e (by simpa using he1) (by simpa using he2)
    have hmay : i ∉ ws → mayS md ops ws i k := by
      intro hni
      refine ⟨?_, ?_⟩
      · rw [List.all_eq_true]
        intro x hx
        obtain ⟨m, hm⟩ := List.mem_iff_getElem?.1 hx
        rw [List.getElem?_take] at hm
        split at hm
        · rename_i hmk
          rw [Bool.not_eq_true']
          cases hw : (needs md ops x).contains i with
          | false => rfl
          | true =>
            have h1 := hneed x ((inv.wr m x hm).2 hmk) i (by simpa using hw)
            rw [getD_both hun] at h1
            cases h1
        · cases hm
      · rw [List.all_eq_true]
        intro x hx
        obtain ⟨m, hm⟩ := List.mem_iff_getElem?.1 hx
        rw [List.getElem?_drop] at hm
        rw [Bool.not_eq_true']
        cases hw : (needs md ops i).contains x with
        | false => rfl
        | true =>
          have := (inv.wr _ x hm).1 (hneedi x (by simpa using hw))
          omega
    unfold wpOp
    simp only [ho]
    have hsz' : (listed.setIfInBounds i true).size = ops.size := by simpa using hsz
    rcases hy with ⟨hw, hy1, hy2⟩ | ⟨hw, rfl, hy⟩
    · rw [if_pos hw]
      left
      by_cases hin : i ∈ ws
      · obtain ⟨m, hm⟩ := List.mem_iff_getElem?.1 hin
        obtain rfl := hnext m hm
        have hu := hy1 m w hm hD
        unfold Oper.wp
        generalize (execOp a.eval o).run P w = r at *
        cases r with
        | ok n w' =>
          cases n <;> simp only [upS] at hu <;> simp only [Oper.upon]
          case value u => rw [hu.2]; exact wpAny_of_seqS hc hQ hall fuel _ _ _ _ hsz' (invS m hm) hu.1 hK
          case skip => rw [← hu.2]; exact wpAny_of_seqS hc hQ hall fuel _ _ _ _ hsz' (invS m hm) hu.1 hK
          case enter f args => exact hu.mono fun e w'' ⟨he, hw''⟩ => by subst he; exact wpAny_of_seqS hc hQ hall fuel _ _ _ _ hsz' (invS m hm) hw'' hK
        | halt x w' => simp only [upS] at hu
      · have hu := hy2 hin k w inv.le (hmay hin) hD
        unfold Oper.wp
        generalize (execOp a.eval o).run P w = r at *
        cases r with
        | ok n w' =>
          cases n <;> simp only [upS] at hu <;> simp only [Oper.upon]
          case value u => rw [hu.2]; exact wpAny_of_seqS hc hQ hall fuel _ _ _ _ hsz' (invR hin) hu.1 hK
          case skip => rw [← hu.2]; exact wpAny_of_seqS hc hQ hall fuel _ _ _ _ hsz' (invR hin) hu.1 hK
          case enter f args => exact hu.mono fun e w'' ⟨he, hw''⟩ => by subst he; exact wpAny_of_seqS hc hQ hall fuel _ _ _ _ hsz' (invR hin) hw'' hK
        | halt x w' => simp only [upS] at hu
    · rw [if_neg (by rw [hw]; decide)]
      by_cases hin : i ∈ ws
      · obtain ⟨m, hm⟩ := List.mem_iff_getElem?.1 hin
        obtain rfl := hnext m hm
        exact wpAny_of_seqS hc hQ hall fuel _ _ _ _ hsz' (invS m hm) (hy m w hm hD) hK
      · exact wpAny_of_seqS hc hQ hall fuel _ _ _ _ hsz' (invR hin) hD hK

theorem lex_depsS : ∀ (fuel k : Nat) (listed : Array Bool), (∀ x, listed.getD x false = true → x < k) → Region.lexFrom md ops fuel k listed = true →
    ∀ (j : Nat) (o : Oper), k ≤ j → j < k + fuel → ops[j]? = some o → ∀ e ∈ o.after, Region.binds md e = true → e.on < j
  | 0, k, listed, _, _, j, o, h1, h2, _, _, _, _ => by omega
  | fuel + 1, k, listed, hl, hB, j, o, h1, h2, ho, e, he, hb => by
    simp only [Region.lexFrom, Bool.and_eq_true] at hB
    obtain ⟨⟨hr, _⟩, hB'⟩ := hB
    rcases Nat.lt_or_ge k j with h3 | h3
    · refine lex_depsS fuel (k + 1) (listed.setIfInBounds k true) (fun x hx => ?_) hB' j o (by omega) (by omega) ho e he hb
      by_cases hkx : k = x
      · omega
      · rw [getD_set_ne false hkx] at hx
        have := hl x hx
        omega
    · obtain rfl : j = k := by omega
      have hmem : j ∈ Region.ready md ops listed := by simpa using hr
      obtain ⟨_, o', ho', hdeps⟩ := mem_ready.1 hmem
      obtain rfl : o = o' := Option.some.inj (ho.symm.trans ho')
      exact hl _ (hdeps e he hb)

/-- What is checked of a region: its text's order is one that may be, and the turning operations wait for one another. -/
def seqBB (md : Region.Mode) (ops : Array Oper) (ws : List Nat) : Bool := Region.lexB md ops && chainS md ops ws && ws.all fun i => decide (i < ops.size)

theorem all_listedS (hB : Region.lexFrom md ops ops.size 0 (Array.replicate ops.size false) = true) {listed : Array Bool} (hsz : listed.size = ops.size) (hr : Region.ready md ops listed = []) :
    ∀ j, j < ops.size → listed.getD j false = true := by
  intro j
  induction j using Nat.strongRecOn with
  | _ j ih =>
    intro hj
    cases hl : listed.getD j true with
    | true => simpa [hsz, hj] using hl
    | false =>
      have hmem : j ∈ Region.ready md ops listed := mem_ready.2 ⟨hl, ops[j], Array.getElem?_eq_getElem hj, fun e he hb => by
        have h1 := lex_depsS ops.size 0 _ (fun x hx => by rw [getD_replicate_false] at hx; cases hx) hB j _ (Nat.zero_le _) (by omega) (Array.getElem?_eq_getElem hj) e he hb
        exact ih _ h1 (by omega)⟩
      rw [hr] at hmem
      cases hmem

end

/-- **A region that draws**: the lexical walk, the turning operations ws. -/
theorem region_seqS {P : Program} {id : Nat} {Q : Exit → Act → World → Prop} {a : Act} {w : World} {l : List Oper} (D : Nat → World → Prop) (ws : List Nat) (hm : P.follows .mixedOrders = true) (hB : seqBB .any l.toArray ws = true)
    (hD : D 0 (w.drewN 1)) (h : wpSeqS P .any l.toArray D ws (fun a' => ∀ w', D ws.length w' → Q .normal a' w') 0 l a) : (Code.region id l.toArray true).wp P Q a w := by
  unfold seqBB at hB
  rw [Bool.and_eq_true, Bool.and_eq_true] at hB
  obtain ⟨⟨hB1, hB2⟩, hB3⟩ := hB
  have hlex := hB1
  simp only [Region.lexB, Bool.and_eq_true] at hlex
  refine wp_region_any hm (wpAny_of_seqS (ws := ws) (D := D) (Q := fun a' => ∀ w', D ws.length w' → Q .normal a' w') hB2 (fun a w' hw' hq => hq w' hw') (fun listed k hsz inv hr => ?_) _ _ 0 _ _ (by simp) ⟨?_, ?_, Nat.zero_le _⟩ hD ?_)
  · have hal := all_listedS hlex.2 hsz hr
    apply Nat.le_antisymm inv.le
    apply Nat.le_of_not_lt
    intro hlt
    have h1 := List.all_eq_true.1 hB3 ws[k] (List.getElem_mem hlt)
    have h2 := (inv.wr k ws[k] (List.getElem?_eq_getElem hlt)).1 (hal _ (of_decide_eq_true h1))
    omega
  · intro j oj _ hl
    rw [getD_replicate_false] at hl
    cases hl
  · intro m i hm
    rw [getD_replicate_false]
    simp
  · have := wpAnyS_lex (P := P) (D := D) (ws := ws) (md := .any) hlex.1 l 0 (Array.replicate l.toArray.size false) a (by simp) (by simpa using hlex.2) h
    simpa using this


/-! ## the worlds known -/

section
variable {P : Program} {ops : Array Oper} {Ws : Nat → World} {ws : List Nat} {i : Nat} {o : Oper} {rest : List Oper} {a : Act} {Q : Act → Prop}

/-- The walk: operation by operation, in the text's order. -/
def wpAt (P : Program) (ops : Array Oper) (Ws : Nat → World) (ws : List Nat) (Q : Act → Prop) (i : Nat) (l : List Oper) (a : Act) : Prop := wpSeqS P .any ops (fun k w => w = Ws k) ws Q i l a

theorem wpAt_nil (h : Q a) : wpAt P ops Ws ws Q i [] a := h

/-- Where a reading operation may come. -/
def placesB (ops : Array Oper) (ws : List Nat) (i : Nat) (ks : List Nat) : Bool :=
  !ws.contains i && (List.range (ws.length + 1)).all fun k => ks.contains k || !(((ws.take k).all fun j => !(needs .any ops j).contains i) && ((ws.drop k).all fun j => !(needs .any ops i).contains j))

/-- In all these worlds the operation yields v. -/
def runsAt (P : Program) (Ws : Nat → World) (x : Sem Next) (v : Value) : List Nat → Prop
  | [] => True
  | k :: ks => x.run P (Ws k) = .ok (.value v) (Ws k) ∧ runsAt P Ws x v ks

theorem runsAt_mem {x : Sem Next} {v : Value} : ∀ {ks : List Nat}, runsAt P Ws x v ks → ∀ k, k ∈ ks → x.run P (Ws k) = .ok (.value v) (Ws k)
  | _ :: _, h, k, hk => by
    rcases List.mem_cons.1 hk with rfl | hk
    · exact h.1
    · exact runsAt_mem h.2 k hk
  | [], _, _, hk => by cases hk

theorem places_spec {ks : List Nat} (h : placesB ops ws i ks = true) : i ∉ ws ∧ ∀ k, k ≤ ws.length → mayS .any ops ws i k → k ∈ ks := by
  unfold placesB at h
  rw [Bool.and_eq_true, List.all_eq_true] at h
  refine ⟨by simpa using h.1, fun k hk hm => ?_⟩
  have h1 := h.2 k (List.mem_range.2 (by omega))
  rw [hm.1, hm.2] at h1
  simpa using h1

/-- A reading operation. -/
theorem atR (ks : List Nat) (hks : placesB ops ws i ks = true) (h : ∀ K : Act → Prop, (∀ a, wpAt P ops Ws ws Q (i + 1) rest a → K a) →
      if Region.wanted o (yielded ops a.tmps) then ∃ v, runsAt P Ws (execOp a.eval o) v ks ∧ K (a.put o.dst v) else K (a.put o.dst undef)) :
    wpAt P ops Ws ws Q i (o :: rest) a := by
  obtain ⟨hni, hpl⟩ := places_spec hks
  have h1 := h _ (fun _ h => h)
  split at h1
  · rename_i hw
    obtain ⟨v, h2, h3⟩ := h1
    refine ⟨v, .inl ⟨hw, fun k w hk _ => absurd (List.mem_of_getElem? hk) hni, fun _ k w hk hmay hD => ?_⟩, h3⟩
    subst hD
    rw [runsAt_mem h2 k (hpl k hk hmay)]
    exact ⟨rfl, rfl⟩
  · rename_i hw
    exact ⟨undef, .inr ⟨by simpa using hw, rfl, fun k w hk _ => absurd (List.mem_of_getElem? hk) hni⟩, h1⟩

/-- The same, the value given. -/
theorem atV (ks : List Nat) (hks : placesB ops ws i ks = true) (hgd : o.guard = none) (v : Value) (hr : runsAt P Ws (execOp a.eval o) v ks) (h : wpAt P ops Ws ws Q (i + 1) rest (a.put o.dst v)) : wpAt P ops Ws ws Q i (o :: rest) a :=
  atR ks hks fun K hK => by
    have hw : Region.wanted o (yielded ops a.tmps) = true := by simp [Region.wanted, hgd]
    rw [if_pos hw]
    exact ⟨v, hr, hK _ h⟩

/-- An operation that asks nothing of the world. -/
theorem atP (hni : ws.contains i = false) (h : ∀ K : Act → Prop, (∀ a, wpAt P ops Ws ws Q (i + 1) rest a → K a) →
      if Region.wanted o (yielded ops a.tmps) then ∃ v, (∀ w, (execOp a.eval o).run P w = .ok (.value v) w) ∧ K (a.put o.dst v) else K (a.put o.dst undef)) :
    wpAt P ops Ws ws Q i (o :: rest) a := by
  have hni' : i ∉ ws := by simpa using hni
  have h1 := h _ (fun _ h => h)
  split at h1
  · rename_i hw
    obtain ⟨v, h2, h3⟩ := h1
    refine ⟨v, .inl ⟨hw, fun k w hk _ => absurd (List.mem_of_getElem? hk) hni', fun _ k w hk hmay hD => ?_⟩, h3⟩
    rw [h2]
    exact ⟨hD, rfl⟩
  · rename_i hw
    exact ⟨undef, .inr ⟨by simpa using hw, rfl, fun k w hk _ => absurd (List.mem_of_getElem? hk) hni'⟩, h1⟩

/-- A turning operation: it takes the world k to the world k + 1. -/
theorem atW (k : Nat) (hk : ws[k]? = some i) (hnd : ws.Nodup) (hgd : o.guard = none) (v : Value) (hr : (execOp a.eval o).run P (Ws k) = .ok (.value v) (Ws (k + 1))) (h : wpAt P ops Ws ws Q (i + 1) rest (a.put o.dst v)) : wpAt P ops Ws ws Q i (o :: rest) a := by
  have hw : Region.wanted o (yielded ops a.tmps) = true := by simp [Region.wanted, hgd]
  refine ⟨v, .inl ⟨hw, fun k' w hk' hD => ?_, fun hn => absurd (List.mem_of_getElem? hk) hn⟩, h⟩
  have : k' = k := (List.getElem?_inj (List.getElem?_eq_some_iff.1 hk').1 hnd).1 (hk'.trans hk.symm)
  subst this
  subst hD
  rw [hr]
  exact ⟨rfl, rfl⟩

/-- A turning operation that stores nothing that is read: a store has no value. -/
theorem atS (k : Nat) (hk : ws[k]? = some i) (hnd : ws.Nodup) (hgd : o.guard = none) (hr : (execOp a.eval o).run P (Ws k) = .ok .skip (Ws (k + 1))) (h : wpAt P ops Ws ws Q (i + 1) rest (a.put o.dst undef)) : wpAt P ops Ws ws Q i (o :: rest) a := by
  have hw : Region.wanted o (yielded ops a.tmps) = true := by simp [Region.wanted, hgd]
  refine ⟨undef, .inl ⟨hw, fun k' w hk' hD => ?_, fun hn => absurd (List.mem_of_getElem? hk) hn⟩, h⟩
  have : k' = k := (List.getElem?_inj (List.getElem?_eq_some_iff.1 hk').1 hnd).1 (hk'.trans hk.symm)
  subst this
  subst hD
  rw [hr]
  exact ⟨rfl, rfl⟩
end

attribute [go_sem] runsAt

/-- **A region that draws its order**, the worlds of its turning operations known: one walk. -/
theorem region_at {P : Program} {id : Nat} {Q : Exit → Act → World → Prop} {a : Act} {w : World} {l : List Oper} (Ws : Nat → World) (ws : List Nat) (hm : P.follows .mixedOrders = true) (hB : seqBB .any l.toArray ws = true)
    (h0 : w.drewN 1 = Ws 0) (h : wpAt P l.toArray Ws ws (fun a' => Q .normal a' (Ws ws.length)) 0 l a) : (Code.region id l.toArray true).wp P Q a w := by
  refine region_seqS (fun k w => w = Ws k) ws hm hB h0 ?_
  have e : (fun a' => ∀ w', (fun k w => w = Ws k) ws.length w' → Q .normal a' w') = (fun a' => Q .normal a' (Ws ws.length)) := by
    funext a'
    apply propext
    exact ⟨fun h => h _ rfl, fun h w' hw' => by subst hw'; exact h⟩
  show wpSeqS P .any l.toArray (fun k w => w = Ws k) ws _ 0 l a
  rw [e]
  exact h

end Go.Proofs.Ytjebldfmkpfafaa

/- Runs of operations that turn the world: append of one element, a literal of one element. -/
namespace Go.Proofs.Ytjebldfmkpfafaa
open Go.RowKit
set_option maxRecDepth 100000

/-- An operation of a plain list, its run given. -/
theorem wpList_run {P : Program} {ops : Array Oper} {rest : List Oper} {o : Oper} {a : Act} {w w' : World} {Q : Exit → Act → World → Prop} (hgd : o.guard = none) (v : Value) (hr : (execOp a.eval o).run P w = .ok (.value v) w') (h : wpList P ops Q rest (a.put o.dst v) w') : wpList P ops Q (o :: rest) a w :=
  wpList_plain hgd fun K hK => by
    unfold Oper.wp
    rw [hr]
    exact hK _ _ h
theorem wpList_runS {P : Program} {ops : Array Oper} {rest : List Oper} {o : Oper} {a : Act} {w w' : World} {Q : Exit → Act → World → Prop} (hgd : o.guard = none) (hr : (execOp a.eval o).run P w = .ok .skip w') (h : wpList P ops Q rest (a.put o.dst undef) w') : wpList P ops Q (o :: rest) a w :=
  wpList_plain hgd fun K hK => by
    unfold Oper.wp
    rw [hr]
    exact hK _ _ h

/-- A new variable of many cells. -/
theorem exec_alloc {P : Program} (w : World) (e : TypeId) (ev : Operand → Value) (o : Oper) (ho : o.op = .alloc e) (z : Value) (hz : ∀ w, (zeroValue e).run P w = .ok z w) :
    (execOp ev o).run P w = .ok (.value (.pointer (some ⟨w.heap.size, 0, none⟩))) (w.alloc (.cells z.cells e)) := by
  unfold execOp
  simp [ho, Instr.alloc, hz, newVar, newRow]

theorem zero_any {P : Program} {e : TypeId} {n : Nat} (h : ((P.info? e).bind (·.zero)).map (·.cells.size) = some n) : ∃ z : Value, z.cells.size = n ∧ ∀ w, (zeroValue e).run P w = .ok z w := by
  cases hi : P.info? e with
  | none => simp [hi] at h
  | some it =>
    cases hz : it.zero with
    | none => simp [hi, hz] at h
    | some z => exact ⟨z, by simpa [hi, hz] using h, fun w => by simp [zeroValue, typeInfo, hi, hz]⟩

/-- It is written whole. -/
theorem exec_storeNew {P : Program} (w : World) (e : TypeId) (c : Array Value) (cs : List Value) (hi : (P.info? e).map (·.size) = some cs.length) (hl : c.size = cs.length) (h1 : ∀ v ∈ cs, v.oneCell' = true)
    (ev : Operand → Value) (o : Oper) (p x : Operand) (ho : o.op = .store e p x) (hp : ev p = .pointer (some ⟨w.heap.size, 0, none⟩)) (hx : ev x = .agg cs.toArray) : (execOp ev o).run P (w.alloc (.cells c e)) = .ok .skip (w.alloc (.cells cs.toArray e)) := by
  have hr := run_storeAt_new (P := P) w e c cs.toArray (by simpa using hi) (by simpa using hl) (by simpa using h1)
  unfold execOp
  simp only [ho, hp, hx, Sem.run_bind, hr, Result.andThen_ok]
  rfl

/-- append(s, x), x laid into the block B by then. -/
theorem exec_app1 {P : Program} {t e : TypeId} {size bytes : Nat} {z : Value} (T : SlTy P t e size bytes z) (ty : TypeId) (v : Value) (n : Nat) (xs : List Value) (W w : World) (B : Nat) (us : Array Value)
    (hk : Keeps [] W w) (hn : w.heap[B]? = some (.cells us e))
    (hown : W.ownsRow 0 e size v n xs) (hus : us.size = size) (h1 : ∀ u ∈ us.toList, u.oneCell' = true) (hlen : (n + 1) * bytes ≤ 140737488355328) (h63 : n + 1 ≤ maxLen) :
    ∃ g cap w', (∀ (ev : Operand → Value) (o : Oper) (s x : Operand), o.op = .call { callee := .builtin .append, args := #[s, x], argTypes := #[t, t] } → o.type = ty → ev s = v → ev x = .slice (some ⟨B, 0, none⟩) 1 1 →
        (execOp ev o).run P w = .ok (.value (.slice (some ⟨g, 0, none⟩) (n + 1) cap)) w') ∧
      w'.ownsRow 0 e size (.slice (some ⟨g, 0, none⟩) (n + 1) cap) (n + 1) (xs ++ us.toList) ∧ Chg v.ownBlock.toList [g] W w' := by
  obtain ⟨hu, ⟨i, hi, hz, hsz, hby⟩, hzs, hp⟩ := T
  obtain ⟨g, cap, w', hr, h2, h3, h4, _⟩ := run_append_lies (P := P) w t ty 0 e i z size bytes hu hi hz hsz hby hzs hp v n xs (own_keep hown hk (by simp)) ⟨B, 0, none⟩ 1 1 us.toList (by simp [hus]) (World.news_of_block hn) h1 (by omega) h63 hlen (Nat.zero_le _) w.heap.size rfl
  refine ⟨g, cap, w', ?_, h2, ⟨(hk.mono (F' := v.ownBlock.toList) (by simp)).trans (F' := v.ownBlock.toList) ⟨h3.os, h3.tape, h3.output, h3.size, fun k hk hn => h3.block k hk (fun e => hn (by simp [← e]))⟩ (fun x h => .inl h), fun k hk' => ?_⟩⟩
  · intro ev o s x ho hty hs hx
    subst hty
    unfold execOp
    simp only [ho, resolve, invoke, builtin, Sem.run_bind, Sem.run_pure, Result.andThen_ok, List.map_toArray, List.map_cons, List.map_nil, hs, hx, hr]
  · rw [List.mem_singleton] at hk'
    subst hk'
    rcases h4 with h4 | h4
    · exact .inl (by rw [h4]; simp)
    · exact .inr (by rw [h4]; exact hk.size)

/-- []T{x}. -/
theorem exec_buildOne {P : Program} (w : World) (t e : TypeId) (us : List Value) (hu : P.underlying t = some (.slice e)) (hsz : (P.info? e).map (·.size) = some us.length) (hz : ((P.info? e).bind (·.zero)).isSome = true) (h0 : 0 < us.length) (hsmall : us.length ≤ 2 ^ 24)
    (ev : Operand → Value) (o : Oper) (x : Operand) (ho : o.op = .buildSlice t 1 #[(0, x)]) (hx : (ev x).cells = us.toArray) :
    (execOp ev o).run P w = .ok (.value (.slice (some ⟨w.heap.size, 0, none⟩) 1 1)) (w.alloc (.cells us.toArray e)) := by
  cases hie : P.info? e with
  | none => simp [hie] at hsz
  | some ie =>
    simp only [hie, Option.map_some, Option.some.injEq, Option.bind_some] at hsz hz
    obtain ⟨z, hzz⟩ := Option.isSome_iff_exists.1 hz
    have hr : (Instr.buildSlice t 1 #[(0, ev x)]).run P w = .ok (.slice (some ⟨w.heap.size, 0, none⟩) 1 1) (w.alloc (.cells us.toArray e)) := by
      refine run_buildSlice w t e 1 _ _ ie z hu hie hzz (by rw [hsz]; omega) (by rw [hsz]; omega) ?_
      have h5 := fold_put us 0 0 ((Array.range (1 * us.length)).map (z.cells[· % z.cells.size]!))
      rw [Nat.add_zero, put_all (by simp)] at h5
      simp only [hsz, Instr.fill, hx]
      simp
      rw [← h5]
      simp
    unfold execOp
    simp only [ho, List.map_toArray, List.map_cons, List.map_nil, Sem.run_bind, hr, Result.andThen_ok]
    rfl

/-- A whole array or struct is read. -/
theorem exec_load {P : Program} (w : World) (ty : TypeId) (b off : Nat) (cs : List Value) (d : TypeDesc) (hc : w.rangeAt b off cs) (hu : P.underlying ty = some d) (hd : d.isRow = true) (hi : (P.info? ty).map (·.size) = some cs.length)
    (ev : Operand → Value) (o : Oper) (x : Operand) (ho : o.op = .load ty x) (hx : ev x = .pointer (some ⟨b, off, none⟩)) : (execOp ev o).run P w = .ok (.value (.agg cs.toArray)) w := by
  unfold execOp
  simp only [ho, hx, Sem.run_bind, run_loadAt_mid w b off ty cs d hc hu hd hi, Result.andThen_ok]
  rfl

/-- A struct or an array is built. -/
theorem exec_build {P : Program} (w : World) (t : TypeId) (cells : Array Value) (ev : Operand → Value) (o : Oper) (parts : Array (Nat × Operand)) (ho : o.op = .build t parts)
    (hb : P.built t (parts.map fun (i, x) => (i, ev x)).toList = some cells) : (execOp ev o).run P w = .ok (.value (.agg cells)) w := by
  unfold execOp
  simp only [ho, Sem.run_bind, run_build w t _ cells hb, Result.andThen_ok]
  rfl

theorem exec_build2 {P : Program} (w : World) (t : TypeId) (cells : Array Value) (ev : Operand → Value) (o : Oper) (i j : Nat) (x y : Operand) (ho : o.op = .build t #[(i, x), (j, y)]) (u v : Value) (hx : ev x = u) (hy : ev y = v)
    (hb : P.built t [(i, u), (j, v)] = some cells) : (execOp ev o).run P w = .ok (.value (.agg cells)) w :=
  exec_build w t cells ev o _ ho (by simpa [hx, hy] using hb)

/-- A whole array or struct is stored. -/
theorem exec_storeMid {P : Program} (w : World) (ty : TypeId) (b off : Nat) (cs : List Value) (ht : w.there b off cs.length) (hi : (P.info? ty).map (·.size) = some cs.length) (h1 : ∀ v ∈ cs, v.oneCell' = true)
    (ev : Operand → Value) (o : Oper) (p x : Operand) (ho : o.op = .store ty p x) (hp : ev p = .pointer (some ⟨b, off, none⟩)) (hx : ev x = .agg cs.toArray) : (execOp ev o).run P w = .ok .skip (w.setCells b off cs) := by
  have hr := run_storeAt_mid (P := P) w b off ty cs.toArray (by simpa using ht) (by simpa using hi) (by simpa using h1)
  unfold execOp
  simp only [ho, hp, hx, Sem.run_bind, hr, Result.andThen_ok]
  rfl

/-- copy(d, s): both of the same length, elements of one cell. -/
theorem exec_copyCells {P : Program} (w : World) (dT sT elem : TypeId) (hu : P.underlying dT = some (.slice elem)) (hz : (P.info? elem).map (·.size) = some 1) (b off n dCap : Nat) (kb ko sCap : Nat) (cs : List Value) (hl : cs.length = n)
    (hs : w.rangeAt kb ko cs) (h1 : ∀ v ∈ cs, v.oneCell' = true) (ht : w.there b off n)
    (ev : Operand → Value) (o : Oper) (d x : Operand) (ho : o.op = .call { callee := .builtin .copy, args := #[d, x], argTypes := #[dT, sT] }) (hd : ev d = .slice (some ⟨b, off, none⟩) n dCap) (hx : ev x = .slice (some ⟨kb, ko, none⟩) n sCap) :
    (execOp ev o).run P w = .ok (.value (goInt n)) (w.setCells b off cs) := by
  subst hl
  have hst := run_storeCells_cells (P := P) b off cs 0 w (by intro j hj; simpa using (ht j hj).1) (by intro j hj; simpa using (ht j hj).2) h1
  have hfc := run_firstCells_some (P := P) (w := w) 1 cs.length ⟨kb, ko, none⟩ cs.length sCap cs (by simp) (fun j v hj => by rw [Addr.add_mid]; exact hs j v hj)
  have hr : (Builtin.copy_ #[dT, sT] o.type #[.slice (some ⟨b, off, none⟩) cs.length dCap, .slice (some ⟨kb, ko, none⟩) cs.length sCap]).run P w = .ok (goInt cs.length) (w.setCells b off cs) := by
    cases hq : P.info? elem with
    | none => simp [hq] at hz
    | some i =>
      have hi : i.size = 1 := by simpa [hq] using hz
      have hm : Nat.min cs.length cs.length = cs.length := Nat.min_self _
      simp [Builtin.copy_, run_underlying hu, Builtin.lenOf, sizeOf, typeInfo, hq, hi, hm, hfc]
      rw [Nat.add_zero] at hst
      rw [hst]
      rfl
  unfold execOp
  simp only [ho, resolve, invoke, builtin, Sem.run_bind, Sem.run_pure, Result.andThen_ok, List.map_toArray, List.map_cons, List.map_nil, hd, hx, hr]
end Go.Proofs.Ytjebldfmkpfafaa

/- Results that lie in a block of cells (a struct by value); a block of six cells. -/
namespace Go.Proofs.Ytjebldfmkpfafaa
open Go.RowKit
set_option maxRecDepth 100000

theorem KT {a b c : World} (h : Keeps [] a b) (k : Keeps [] b c) : Keeps [] a c := h.trans k (by simp)
theorem Keeps.setK {w w' : World} (h : Keeps [] w w') (b o : Nat) (u : Value) (hb : w.heap.size ≤ b) : Keeps [] w (w'.setCell ⟨b, o, none⟩ u) := h.setCell (.inr hb) u

section
variable {P : Program} {fn : Func} {p u u2 : Tmp} {ty : TypeId} {tmps : Array Value} {w : World} {g : Nat} {t : TypeId} {cs : Array Value} {fr : Nat × Nat} {d : TypeDesc}
theorem results_row (h : fn.results = #[.cell p ty]) (hp : tmps.getD p undef = .pointer (some ⟨g, 0, none⟩)) (hg : w.heap[g]? = some (.cells cs t fr))
    (hu : P.underlying ty = some d) (hd : (match d with | .struct _ | .array _ _ => true | _ => false) = true) (hi : (P.info? ty).map (·.size) = some cs.size) : (results fn tmps).run P w = .ok (.agg cs) w :=
  results_cell_row h tmps w g t cs fr d hp hg hu hd hi
theorem results_row_tmp (h : fn.results = #[.cell p ty, .tmp u]) (hp : tmps.getD p undef = .pointer (some ⟨g, 0, none⟩)) (hg : w.heap[g]? = some (.cells cs t fr))
    (hu : P.underlying ty = some d) (hd : (match d with | .struct _ | .array _ _ => true | _ => false) = true) (hi : (P.info? ty).map (·.size) = some cs.size) :
    (results fn tmps).run P w = .ok (.tuple #[.agg cs, tmps.getD u undef]) w := by
  have hp' : tmps[p]?.getD undef = .pointer (some ⟨g, 0, none⟩) := by simpa using hp
  simp [results, h, hp', asAddr, run_loadVar_row w g t ty cs fr d hg hu hd hi]
theorem results_row_tmp2 (h : fn.results = #[.cell p ty, .tmp u, .tmp u2]) (hp : tmps.getD p undef = .pointer (some ⟨g, 0, none⟩)) (hg : w.heap[g]? = some (.cells cs t fr))
    (hu : P.underlying ty = some d) (hd : (match d with | .struct _ | .array _ _ => true | _ => false) = true) (hi : (P.info? ty).map (·.size) = some cs.size) :
    (results fn tmps).run P w = .ok (.tuple #[.agg cs, tmps.getD u undef, tmps.getD u2 undef]) w := by
  have hp' : tmps[p]?.getD undef = .pointer (some ⟨g, 0, none⟩) := by simpa using hp
  simp [results, h, hp', asAddr, run_loadVar_row w g t ty cs fr d hg hu hd hi]
end

/-- A block of six cells: what each one is. -/
theorem cells6 {w : World} {b : Nat} {a0 a1 a2 a3 a4 a5 : Value} {t : TypeId} (h : w.heap[b]? = some (.cells #[a0, a1, a2, a3, a4, a5] t (0, 0))) :
    (w.cell? ⟨b, 0, none⟩ = some a0 ∧ w.cell? ⟨b, 1, none⟩ = some a1 ∧ w.cell? ⟨b, 2, none⟩ = some a2 ∧ w.cell? ⟨b, 3, none⟩ = some a3 ∧ w.cell? ⟨b, 4, none⟩ = some a4 ∧ w.cell? ⟨b, 5, none⟩ = some a5) ∧
    (w.frozen? ⟨b, 0, none⟩ = false ∧ w.frozen? ⟨b, 1, none⟩ = false ∧ w.frozen? ⟨b, 2, none⟩ = false ∧ w.frozen? ⟨b, 3, none⟩ = false ∧ w.frozen? ⟨b, 4, none⟩ = false ∧ w.frozen? ⟨b, 5, none⟩ = false) :=
  ⟨⟨cell_of_heap h 0, cell_of_heap h 1, cell_of_heap h 2, cell_of_heap h 3, cell_of_heap h 4, cell_of_heap h 5⟩, ⟨free_of_heap h 0, free_of_heap h 1, free_of_heap h 2, free_of_heap h 3, free_of_heap h 4, free_of_heap h 5⟩⟩
/-- It is written whole. -/
theorem heap_set6 {w : World} {b : Nat} {a0 a1 a2 a3 a4 a5 : Value} {t : TypeId} (h : w.heap[b]? = some (.cells #[a0, a1, a2, a3, a4, a5] t (0, 0))) (v0 v1 v2 v3 v4 v5 : Value) :
    ((((((w.setCell ⟨b, 0, none⟩ v0).setCell ⟨b, 1, none⟩ v1).setCell ⟨b, 2, none⟩ v2).setCell ⟨b, 3, none⟩ v3).setCell ⟨b, 4, none⟩ v4).setCell ⟨b, 5, none⟩ v5).heap[b]? = some (.cells #[v0, v1, v2, v3, v4, v5] t (0, 0)) :=
  heap_setCell (heap_setCell (heap_setCell (heap_setCell (heap_setCell (heap_setCell h 0 v0) 1 v1) 2 v2) 3 v3) 4 v4) 5 v5
theorem keeps_set6 {w0 w : World} (h : Keeps [] w0 w) {b : Nat} (hb : w0.heap.size ≤ b) (v0 v1 v2 v3 v4 v5 : Value) :
    Keeps [] w0 ((((((w.setCell ⟨b, 0, none⟩ v0).setCell ⟨b, 1, none⟩ v1).setCell ⟨b, 2, none⟩ v2).setCell ⟨b, 3, none⟩ v3).setCell ⟨b, 4, none⟩ v4).setCell ⟨b, 5, none⟩ v5) :=
  (((((h.setK b 0 v0 hb).setK b 1 v1 hb).setK b 2 v2 hb).setK b 3 v3 hb).setK b 4 v4 hb).setK b 5 v5 hb
theorem heap_ne {w : World} {b c o : Nat} {v : Value} {x : Obj} (h : w.heap[b]? = some x) (hne : b ≠ c) : (w.setCell ⟨c, o, none⟩ v).heap[b]? = some x := (Below.heap_setCell _ _ _ _ (by simpa using hne)).trans h
theorem heap_at {w : World} {o : Obj} {k : Nat} (h : k = w.heap.size) : (w.alloc o).heap[k]? = some o := by subst h; exact heap_alloc_self w o
theorem heap_was {w : World} {o x : Obj} {k : Nat} (h : w.heap[k]? = some x) : (w.alloc o).heap[k]? = some x := (World.heap_alloc_lt _ _ _ (Array.getElem?_eq_some_iff.1 h).1).trans h
/-- What two new blocks hold, behind a call that keeps them. -/
theorem two_new {w w1 : World} {o1 o2 : Obj} (k : Keeps [] ((w.alloc o1).alloc o2) w1) : w1.heap[w.heap.size]? = some o1 ∧ w1.heap[w.heap.size + 1]? = some o2 :=
  ⟨k.some (heap_was (heap_at rfl)) (by simp), k.some (heap_at (by simp)) (by simp)⟩
/-- The same, said of the world behind one new block more. -/
theorem cells6_was {w : World} {b : Nat} {a0 a1 a2 a3 a4 a5 : Value} {t : TypeId} (h : w.heap[b]? = some (.cells #[a0, a1, a2, a3, a4, a5] t (0, 0))) :
    ((∀ o, (w.alloc o).cell? ⟨b, 0, none⟩ = some a0) ∧ (∀ o, (w.alloc o).cell? ⟨b, 1, none⟩ = some a1) ∧ (∀ o, (w.alloc o).cell? ⟨b, 2, none⟩ = some a2) ∧ (∀ o, (w.alloc o).cell? ⟨b, 3, none⟩ = some a3) ∧ (∀ o, (w.alloc o).cell? ⟨b, 4, none⟩ = some a4) ∧ (∀ o, (w.alloc o).cell? ⟨b, 5, none⟩ = some a5) ) ∧
    ((∀ o, (w.alloc o).frozen? ⟨b, 0, none⟩ = false) ∧ (∀ o, (w.alloc o).frozen? ⟨b, 1, none⟩ = false) ∧ (∀ o, (w.alloc o).frozen? ⟨b, 2, none⟩ = false) ∧ (∀ o, (w.alloc o).frozen? ⟨b, 3, none⟩ = false) ∧ (∀ o, (w.alloc o).frozen? ⟨b, 4, none⟩ = false) ∧ (∀ o, (w.alloc o).frozen? ⟨b, 5, none⟩ = false) ) :=
  ⟨⟨fun _ => cell_of_heap (heap_was h) 0, fun _ => cell_of_heap (heap_was h) 1, fun _ => cell_of_heap (heap_was h) 2, fun _ => cell_of_heap (heap_was h) 3, fun _ => cell_of_heap (heap_was h) 4, fun _ => cell_of_heap (heap_was h) 5⟩,
   ⟨fun _ => free_of_heap (heap_was h) 0, fun _ => free_of_heap (heap_was h) 1, fun _ => free_of_heap (heap_was h) 2, fun _ => free_of_heap (heap_was h) 3, fun _ => free_of_heap (heap_was h) 4, fun _ => free_of_heap (heap_was h) 5⟩⟩
end Go.Proofs.Ytjebldfmkpfafaa

/- []byte(s), a byte of it turned, and string(b). -/
namespace Go.Proofs.Ytjebldfmkpfafaa
open Go.RowKit
set_option maxRecDepth 100000

theorem bytes_of (l : List UInt8) : ∃ (capf : World → Nat) (Wf : World → World),
    (∀ w : World, (convert 9 41 (.string (str l))).run Try.prog w = .ok (.slice (some ⟨w.heap.size, 0, none⟩) l.length (capf w)) (Wf w)) ∧
    (∀ w : World, Keeps [] w (Wf w)) ∧ (∀ w : World, (Wf w).heap.size = w.heap.size + 1) ∧
    (∀ (w : World) j c, l[j]? = some c → (Wf w).cell? ⟨w.heap.size, j, none⟩ = some (u8v c)) ∧ (∀ (w : World) j, j < l.length → (Wf w).frozen? ⟨w.heap.size, j, none⟩ = false) := by
  refine ⟨fun w => grownCap w (str l).size 0 5, fun w => Lib.bytesWorld w 5 (str l), fun w => ?_, fun w => ?_, fun w => Lib.bytesWorld_size w _ _, fun w j c hj => ?_, fun w j hj => ?_⟩
  · have h := Lib.run_convert_string_bytes (P := Try.prog) w 9 41 5 (str l) Try.underlying9 Try.underlying41 Try.underlying5
    rw [str_size] at h
    exact h
  · exact ⟨rfl, rfl, rfl, by rw [Lib.bytesWorld_size]; omega, fun k hk _ => Lib.bytesWorld_at_old w _ _ k hk⟩
  · have hjl : j < l.length := (List.getElem?_eq_some_iff.1 hj).1
    rw [Lib.bytesWorld_cell w _ _ j (by rw [str_size]; exact hjl), str_data, List.getD_eq_getElem?_getD, hj]
    rfl
  · have hh := Lib.bytesWorld_at_new w 5 (str l)
    have hsz : l.length ≤ (Lib.bytesCells w 5 (str l)).size := by
      simp only [Lib.bytesCells, Array.size_append, Array.size_map, Array.size_replicate]
      have : (str l).data.size = l.length := by simp [str]
      omega
    simp only [World.frozen?, hh]
    simp
    omega

/-- string(b), the cells known. -/
theorem string_back (w : World) (b n cap : Nat) (l : List UInt8) (hl : l.length = n) (hc : ∀ j c, l[j]? = some c → w.cell? ⟨b, j, none⟩ = some (u8v c)) :
    (convert 41 9 (.slice (some ⟨b, 0, none⟩) n cap)).run Try.prog w = .ok (.string (str l)) w := by
  refine (run_convert_bytes_arg (P := Try.prog) w 41 5 Try.underlying41 Try.underlying5 b 0 n cap (l.map fun c => (c.toNat : Int)) (by simpa using hl) (fun i hi => ?_) 9 Try.underlying9).trans ?_
  · have hil : i < l.length := by omega
    rw [Nat.zero_add, hc i l[i] (List.getElem?_eq_getElem hil)]
    simp [List.getElem?_eq_getElem hil, u8v, List.getD_eq_getElem?_getD]
  · congr 2
    unfold str strOfNums
    congr 2
    rw [List.map_map]
    simp [Function.comp_def]

/-- One byte of them is turned. -/
theorem string_turned (w W : World) (b n cap k : Nat) (l : List UInt8) (d : UInt8) (hl : l.length = n) (hW : W = w.setCell ⟨b, k, none⟩ (u8v d)) (hc : ∀ j c, l[j]? = some c → w.cell? ⟨b, j, none⟩ = some (u8v c)) :
    (convert 41 9 (.slice (some ⟨b, 0, none⟩) n cap)).run Try.prog W = .ok (.string (str (l.set k d))) W := by
  subst hW
  refine string_back _ b n cap (l.set k d) (by rw [List.length_set]; exact hl) (fun j c hj => ?_)
  by_cases hjk : j = k
  · subst hjk
    have hjl : j < l.length := by
      have := (List.getElem?_eq_some_iff.1 hj).1
      rwa [List.length_set] at this
    rw [List.getElem?_set_self hjl] at hj
    obtain rfl : d = c := by simpa using hj
    have h1 := hc j l[j] (List.getElem?_eq_getElem hjl)
    exact World.cell?_setCell_same _ _ _ h1
  · rw [List.getElem?_set_ne (fun h => hjk h.symm)] at hj
    rw [← hc j c hj]
    exact World.cell?_setCell_other _ _ _ _ (by intro h; injection h with _ h2 _; exact hjk h2.symm)
end Go.Proofs.Ytjebldfmkpfafaa

