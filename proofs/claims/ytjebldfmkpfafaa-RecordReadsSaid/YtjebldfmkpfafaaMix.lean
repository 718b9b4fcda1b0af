/- A region that draws its order, whose operations that turn the world stand in one forced order, and all others yield the same whenever they may come: one walk of the text's order serves every order. -/
import Derived.Test.YtjebldfmkpfafaaRows
import Derived.WalkKit
import Derived.StillTail
import Derived.Deep.Quiet
import Derived.BigQuiet
namespace Go.Proofs.Ytjebldfmkpfafaa
set_option maxRecDepth 100000

section
variable {P : Program} {ops : Array Oper} {md : Region.Mode} {D : Nat → World → Prop} {ws : List Nat}

/-- What an operation has yielded: v, in a world of the class C. -/
def upM (P : Program) (C : World → Prop) (v : Value) : Result Next → Prop
  | .ok (.value u) w' => C w' ∧ u = v
  | .ok .skip w' => C w' ∧ v = undef
  | .ok (.enter f args) w' => Calls P f args w' (fun e w'' => e = .returned v ∧ C w'')
  | _ => False

/-- Operation j may come when k of the turning ones are done. -/
def mayM (md : Region.Mode) (ops : Array Oper) (ws : List Nat) (j k : Nat) : Prop :=
  ((ws.take k).all fun i => !Region.waitsFor md ops i j) = true ∧ ((ws.drop k).all fun i => !Region.waitsFor md ops j i) = true

/-- Operation number i leaves v in its temporary, whenever it may come: a turning one takes the class k to the class k + 1, each other one stays in it. -/
def yieldsM (P : Program) (md : Region.Mode) (ops : Array Oper) (D : Nat → World → Prop) (ws : List Nat) (i : Nat) (o : Oper) (v : Value) (a : Act) : Prop :=
  (Region.wanted o (yielded ops a.tmps) = true ∧
    ((∀ k w, ws[k]? = some i → D k w → upM P (D (k + 1)) v ((execOp a.eval o).run P w)) ∧
     (i ∉ ws → ∀ k w, k ≤ ws.length → mayM md ops ws i k → D k w → upM P (D k) v ((execOp a.eval o).run P w)))) ∨
  (Region.wanted o (yielded ops a.tmps) = false ∧ v = undef ∧ ∀ k w, ws[k]? = some i → D k w → D (k + 1) w)

def wpMix (P : Program) (md : Region.Mode) (ops : Array Oper) (D : Nat → World → Prop) (ws : List Nat) (Q : Act → Prop) : Nat → List Oper → Act → Prop
  | _, [], a => Q a
  | i, o :: rest, a => ∃ v, yieldsM P md ops D ws i o v a ∧ wpMix P md ops D ws Q (i + 1) rest (a.put o.dst v)

def mOp (P : Program) (md : Region.Mode) (ops : Array Oper) (D : Nat → World → Prop) (ws : List Nat) (i : Nat) (K : Act → Prop) (a : Act) : Prop :=
  ∃ o v, ops[i]? = some o ∧ yieldsM P md ops D ws i o v a ∧ K (a.put o.dst v)

theorem mOp_mono {i : Nat} {a : Act} {K K' : Act → Prop} (h : ∀ a, K a → K' a) (hh : mOp P md ops D ws i K a) : mOp P md ops D ws i K' a := by
  obtain ⟨o, v, h1, h2, h3⟩ := hh
  exact ⟨o, v, h1, h2, h _ h3⟩

def wpAnyM (P : Program) (md : Region.Mode) (ops : Array Oper) (D : Nat → World → Prop) (ws : List Nat) (Q : Act → Prop) : Nat → Array Bool → Act → Prop
  | 0, listed, a => Region.ready md ops listed = [] ∧ Q a
  | fuel + 1, listed, a => (Region.ready md ops listed = [] → Q a) ∧ ∀ i ∈ Region.ready md ops listed, mOp P md ops D ws i (wpAnyM P md ops D ws Q fuel (listed.setIfInBounds i true)) a

theorem yieldsM_same {i : Nat} {o : Oper} {v : Value} {a a' : Act} (hy : yieldsM P md ops D ws i o v a) (he : execOp a'.eval o = execOp a.eval o)
    (hw : Region.wanted o (yielded ops a'.tmps) = Region.wanted o (yielded ops a.tmps)) : yieldsM P md ops D ws i o v a' := by
  unfold yieldsM at *
  rw [he, hw]
  exact hy

theorem mOp_put {i j : Nat} {oi oj : Oper} {v : Value} (hj : ops[j]? = some oj) (hap : oi.apart ops oj = true)
    (hsi : ∀ cs b, oi.op ≠ .select cs b) (hsj : ∀ cs b, oj.op ≠ .select cs b) {K : Act → Prop} {a : Act}
    (hy : yieldsM P md ops D ws i oi v a) (h : mOp P md ops D ws j K (a.put oi.dst v)) :
    mOp P md ops D ws j (fun a' => yieldsM P md ops D ws i oi v a' ∧ K (a'.put oi.dst v)) a := by
  obtain ⟨h1, h2, h3⟩ := Oper.apart_spec hap
  obtain ⟨o, u, ho, hu, hn⟩ := h
  obtain rfl : oj = o := Option.some.inj (hj.symm.trans ho)
  refine ⟨oj, u, hj, yieldsM_same hu (execOp_put oj hsj a oi.dst v h1).symm (wanted_put oj a oi.dst v h1).symm, ?_, by rw [← Act.put_comm a v u h2]; exact hn⟩
  exact yieldsM_same hy (execOp_put oi hsi a oj.dst u h3) (wanted_put oi a oj.dst u h3)

theorem wpAnyM_first {Q : Act → Prop} {i : Nat} {oi : Oper} {v : Value} (hi : ops[i]? = some oi) (hsel : ∀ (j : Nat) (o : Oper) cs b, ops[j]? = some o → o.op ≠ .select cs b) :
    ∀ (fuel : Nat) (listed : Array Bool) (a : Act),
      (∀ j oj, ops[j]? = some oj → j ≠ i → listed.getD j true = false → (∀ e ∈ oj.after, Region.binds md e = true → e.on ≠ i) → oi.apart ops oj = true) →
      i ∈ Region.ready md ops listed → yieldsM P md ops D ws i oi v a →
      wpAnyM P md ops D ws Q fuel (listed.setIfInBounds i true) (a.put oi.dst v) → wpAnyM P md ops D ws Q (fuel + 1) listed a := by
  intro fuel
  induction fuel with
  | zero =>
    intro listed a _ hr hy H
    refine ⟨fun h => (by rw [h] at hr; cases hr), fun j hj => ?_⟩
    by_cases hji : j = i
    · subst hji; exact ⟨oi, v, hi, hy, H⟩
    · have := ready_mono hj hji
      rw [H.1] at this
      cases this
  | succ fuel ih =>
    intro listed a hfree hr hy H
    refine ⟨fun h => (by rw [h] at hr; cases hr), fun j hj => ?_⟩
    by_cases hji : j = i
    · subst hji; exact ⟨oi, v, hi, hy, H⟩
    · have h1 := H.2 j (ready_mono hj hji)
      obtain ⟨hjun, oj, hoj, hall⟩ := mem_ready.1 hj
      have hnot : ∀ e ∈ oj.after, Region.binds md e = true → e.on ≠ i := fun e he hb heq => by
        have h1 := hall e he hb
        have h0 := (mem_ready.1 hr).1
        rw [heq] at h1
        rw [getD_both h0] at h1
        cases h1
      have h2 := mOp_put hoj (hfree j oj hoj hji hjun hnot) (fun cs b => hsel i oi cs b hi) (fun cs b => hsel j oj cs b hoj) hy h1
      have hfree' : ∀ k ok, ops[k]? = some ok → k ≠ i → (listed.setIfInBounds j true).getD k true = false →
          (∀ e ∈ ok.after, Region.binds md e = true → e.on ≠ i) → oi.apart ops ok = true := fun k ok hk hki hun hno => by
        refine hfree k ok hk hki ?_ hno
        by_cases hjk : j = k
        · subst hjk; exact hjun
        · rw [getD_set_ne true hjk] at hun; exact hun
      refine mOp_mono (fun a' h3 => ih (listed.setIfInBounds j true) a' hfree' (ready_mono hr (Ne.symm hji)) h3.1 ?_) h2
      rw [Array.setIfInBounds_comm _ _ hji]
      exact h3.2

theorem wpAnyM_lex {Q : Act → Prop} (hs : Region.noSelect ops = true) : ∀ (l : List Oper) (k : Nat) (listed : Array Bool) (a : Act), (∀ j, l[j]? = ops[k + j]?) →
    Region.lexFrom md ops l.length k listed = true → wpMix P md ops D ws Q k l a → wpAnyM P md ops D ws Q l.length listed a
  | [], _, _, _, _, hB, h => ⟨by simpa [Region.lexFrom] using hB, h⟩
  | o :: l, k, listed, a, hl, hB, h => by
    have h0 : ops[k]? = some o := by simpa using (hl 0).symm
    simp only [List.length_cons, Region.lexFrom, Bool.and_eq_true] at hB
    obtain ⟨⟨hr, hf⟩, hB'⟩ := hB
    obtain ⟨v, hy, hK⟩ := h
    exact wpAnyM_first h0 (Region.noSelect_spec hs) l.length listed a (Region.free_spec h0 hf) (by simpa using hr) hy
      (wpAnyM_lex hs l (k + 1) _ _ (fun j => by have := hl (j + 1); simpa [Nat.add_assoc, Nat.add_comm 1 j] using this) hB' hK)

/-- What is listed, when k turning operations are done. -/
structure InvM (md : Region.Mode) (ops : Array Oper) (ws : List Nat) (listed : Array Bool) (k : Nat) : Prop where
  closed : ∀ j oj, ops[j]? = some oj → listed.getD j false = true → ∀ e ∈ oj.after, Region.binds md e = true → listed.getD e.on false = true
  wr : ∀ (m i : Nat), ws[m]? = some i → (listed.getD i false = true ↔ m < k)
  le : k ≤ ws.length

/-- The turning operations wait for one another. -/
def chainM (md : Region.Mode) (ops : Array Oper) (ws : List Nat) : Bool :=
  decide ws.Nodup && (List.range ws.length).all fun m => m == 0 || match ws[m]?, ws[m - 1]? with | some x, some y => Region.waitsFor md ops x y | _, _ => false

theorem chainM_spec (h : chainM md ops ws = true) : ws.Nodup ∧ ∀ (m x y : Nat), ws[m + 1]? = some x → ws[m]? = some y → Region.waitsFor md ops x y = true := by
  unfold chainM at h
  rw [Bool.and_eq_true, decide_eq_true_eq, List.all_eq_true] at h
  refine ⟨h.1, fun m x y hx hy => ?_⟩
  have h1 := h.2 (m + 1) (List.mem_range.2 (List.getElem?_eq_some_iff.1 hx).1)
  simpa [hx, hy] using h1

theorem wpAny_of_mix {Q : Act → Prop} {Q' : Exit → Act → World → Prop} (hc : chainM md ops ws = true) (hQ : ∀ a w, D ws.length w → Q a → Q' .normal a w)
    (hall : ∀ listed k, listed.size = ops.size → InvM md ops ws listed k → Region.ready md ops listed = [] → k = ws.length) :
    ∀ (fuel : Nat) (listed : Array Bool) (k : Nat) (a : Act) (w : World), listed.size = ops.size → InvM md ops ws listed k → D k w →
    wpAnyM P md ops D ws Q fuel listed a → wpAny P md ops Q' fuel listed a w
  | 0, listed, k, a, w, hsz, inv, hD, h => ⟨h.1, hQ _ _ (by rw [← hall listed k hsz inv h.1]; exact hD) h.2⟩
  | fuel + 1, listed, k, a, w, hsz, inv, hD, h => by
    refine ⟨fun h0 => hQ _ _ (by rw [← hall listed k hsz inv h0]; exact hD) (h.1 h0), fun i hi => ?_⟩
    obtain ⟨o, v, ho, hy, hK⟩ := h.2 i hi
    obtain ⟨hun, oi, hoi, hdeps⟩ := mem_ready.1 hi
    obtain rfl : o = oi := Option.some.inj (ho.symm.trans hoi)
    obtain ⟨hnd, hch⟩ := chainM_spec hc
    have hisz : i < listed.size := by rw [hsz]; exact (Array.getElem?_eq_some_iff.1 ho).1
    have hclosed' : ∀ j oj, ops[j]? = some oj → (listed.setIfInBounds i true).getD j false = true → ∀ e ∈ oj.after, Region.binds md e = true → (listed.setIfInBounds i true).getD e.on false = true := by
      intro j oj hoj hl e he hb
      by_cases hij : i = j
      · subst hij
        obtain rfl : oj = o := Option.some.inj (hoj.symm.trans ho)
        exact getD_set_true (hdeps e he hb)
      · rw [getD_set_ne false hij] at hl
        exact getD_set_true (inv.closed j oj hoj hl e he hb)
    -- a turning operation that is ready is the next one
    have hnext : ∀ m : Nat, ws[m]? = some i → m = k := by
      intro m hm
      have h1 : ¬ m < k := fun h2 => by
        have := (inv.wr m i hm).2 h2
        rw [getD_both hun] at this
        cases this
      rcases Nat.lt_or_ge k m with h2 | h2
      · obtain ⟨m', rfl⟩ : ∃ m', m = m' + 1 := ⟨m - 1, by omega⟩
        have hlt : m' < ws.length := by have := (List.getElem?_eq_some_iff.1 hm).1; omega
        have hw := hch m' i ws[m'] hm (List.getElem?_eq_getElem hlt)
        obtain ⟨oj, hoj, e, he, hb, hon⟩ := Region.waitsFor_spec hw
        obtain rfl : oj = o := Option.some.inj (hoj.symm.trans ho)
        have := hdeps e he hb
        rw [hon] at this
        have := (inv.wr m' _ (List.getElem?_eq_getElem hlt)).1 this
        omega
      · omega
    have invS : ∀ m : Nat, ws[m]? = some i → InvM md ops ws (listed.setIfInBounds i true) (k + 1) := by
      intro m hm
      obtain rfl := hnext m hm
      refine ⟨hclosed', fun m' i' hm' => ?_, by have := (List.getElem?_eq_some_iff.1 hm).1; omega⟩
      by_cases hii : i = i'
      · subst hii
        have hmm : m' = m := List.getElem?_inj (List.getElem?_eq_some_iff.1 hm').1 hnd |>.1 (hm'.trans hm.symm)
        subst hmm
        simp [hisz]
      · rw [getD_set_ne false hii, inv.wr m' i' hm']
        constructor
        · omega
        · intro h3
          rcases Nat.lt_or_ge m' m with h4 | h4
          · exact h4
          · have : m' = m := by omega
            subst this
            exact absurd (Option.some.inj (hm.symm.trans hm')) hii
    have invR : i ∉ ws → InvM md ops ws (listed.setIfInBounds i true) k := by
      intro hni
      refine ⟨hclosed', fun m' i' hm' => ?_, inv.le⟩
      have hii : i ≠ i' := fun h => hni (by rw [h]; exact List.mem_of_getElem? hm')
      rw [getD_set_ne false hii]
      exact inv.wr m' i' hm'
    have hmay : i ∉ ws → mayM md ops ws i k := by
      intro hni
      refine ⟨?_, ?_⟩
      · rw [List.all_eq_true]
        intro x hx
        obtain ⟨m, hm⟩ := List.mem_iff_getElem?.1 hx
        rw [List.getElem?_take] at hm
        split at hm
        · rename_i hmk
          rw [Bool.not_eq_true']
          cases hw : Region.waitsFor md ops x i with
          | false => rfl
          | true =>
            obtain ⟨oj, hoj, e, he, hb, hon⟩ := Region.waitsFor_spec hw
            have h1 := inv.closed x oj hoj ((inv.wr m x hm).2 hmk) e he hb
            rw [hon, getD_both hun] at h1
            cases h1
        · cases hm
      · rw [List.all_eq_true]
        intro x hx
        obtain ⟨m, hm⟩ := List.mem_iff_getElem?.1 hx
        rw [List.getElem?_drop] at hm
        rw [Bool.not_eq_true']
        cases hw : Region.waitsFor md ops i x with
        | false => rfl
        | true =>
          obtain ⟨oj, hoj, e, he, hb, hon⟩ := Region.waitsFor_spec hw
          obtain rfl : oj = o := Option.some.inj (hoj.symm.trans ho)
          have h1 := hdeps e he hb
          rw [hon] at h1
          have := (inv.wr _ x hm).1 h1
          omega
    unfold wpOp
    simp only [ho]
    have hsz' : (listed.setIfInBounds i true).size = ops.size := by simpa using hsz
    rcases hy with ⟨hw, hy1, hy2⟩ | ⟨hw, rfl, hy⟩
    · rw [if_pos hw]
      left
      by_cases hin : i ∈ ws
      · obtain ⟨m, hm⟩ := List.mem_iff_getElem?.1 hin
        obtain rfl := hnext m hm
        have hu := hy1 m w hm hD
        unfold Oper.wp
        generalize (execOp a.eval o).run P w = r at *
        cases r with
        | ok n w' =>
          cases n <;> simp only [upM] at hu <;> simp only [Oper.upon]
          case value u => rw [hu.2]; exact wpAny_of_mix hc hQ hall fuel _ _ _ _ hsz' (invS m hm) hu.1 hK
          case skip => rw [← hu.2]; exact wpAny_of_mix hc hQ hall fuel _ _ _ _ hsz' (invS m hm) hu.1 hK
          case enter f args => exact hu.mono fun e w'' ⟨he, hw''⟩ => by subst he; exact wpAny_of_mix hc hQ hall fuel _ _ _ _ hsz' (invS m hm) hw'' hK
        | halt x w' => simp only [upM] at hu
      · have hu := hy2 hin k w inv.le (hmay hin) hD
        unfold Oper.wp
        generalize (execOp a.eval o).run P w = r at *
        cases r with
        | ok n w' =>
          cases n <;> simp only [upM] at hu <;> simp only [Oper.upon]
          case value u => rw [hu.2]; exact wpAny_of_mix hc hQ hall fuel _ _ _ _ hsz' (invR hin) hu.1 hK
          case skip => rw [← hu.2]; exact wpAny_of_mix hc hQ hall fuel _ _ _ _ hsz' (invR hin) hu.1 hK
          case enter f args => exact hu.mono fun e w'' ⟨he, hw''⟩ => by subst he; exact wpAny_of_mix hc hQ hall fuel _ _ _ _ hsz' (invR hin) hw'' hK
        | halt x w' => simp only [upM] at hu
    · rw [if_neg (by rw [hw]; decide)]
      by_cases hin : i ∈ ws
      · obtain ⟨m, hm⟩ := List.mem_iff_getElem?.1 hin
        obtain rfl := hnext m hm
        exact wpAny_of_mix hc hQ hall fuel _ _ _ _ hsz' (invS m hm) (hy m w hm hD) hK
      · exact wpAny_of_mix hc hQ hall fuel _ _ _ _ hsz' (invR hin) hD hK

theorem lex_deps : ∀ (fuel k : Nat) (listed : Array Bool), (∀ x, listed.getD x false = true → x < k) → Region.lexFrom md ops fuel k listed = true →
    ∀ (j : Nat) (o : Oper), k ≤ j → j < k + fuel → ops[j]? = some o → ∀ e ∈ o.after, Region.binds md e = true → e.on < j
  | 0, k, listed, _, _, j, o, h1, h2, _, _, _, _ => by omega
  | fuel + 1, k, listed, hl, hB, j, o, h1, h2, ho, e, he, hb => by
    simp only [Region.lexFrom, Bool.and_eq_true] at hB
    obtain ⟨⟨hr, _⟩, hB'⟩ := hB
    rcases Nat.lt_or_ge k j with h3 | h3
    · refine lex_deps fuel (k + 1) (listed.setIfInBounds k true) (fun x hx => ?_) hB' j o (by omega) (by omega) ho e he hb
      by_cases hkx : k = x
      · omega
      · rw [getD_set_ne false hkx] at hx
        have := hl x hx
        omega
    · obtain rfl : j = k := by omega
      have hmem : j ∈ Region.ready md ops listed := by simpa using hr
      obtain ⟨_, o', ho', hdeps⟩ := mem_ready.1 hmem
      obtain rfl : o = o' := Option.some.inj (ho.symm.trans ho')
      exact hl _ (hdeps e he hb)

/-- What is checked of a region: its text's order is one that may be, and the turning operations wait for one another. -/
def mixB (md : Region.Mode) (ops : Array Oper) (ws : List Nat) : Bool := Region.lexB md ops && chainM md ops ws && ws.all fun i => decide (i < ops.size)

theorem all_listed (hB : Region.lexFrom md ops ops.size 0 (Array.replicate ops.size false) = true) {listed : Array Bool} (hsz : listed.size = ops.size) (hr : Region.ready md ops listed = []) :
    ∀ j, j < ops.size → listed.getD j false = true := by
  intro j
  induction j using Nat.strongRecOn with
  | _ j ih =>
    intro hj
    cases hl : listed.getD j true with
    | true => simpa [hsz, hj] using hl
    | false =>
      have hmem : j ∈ Region.ready md ops listed := mem_ready.2 ⟨hl, ops[j], Array.getElem?_eq_getElem hj, fun e he hb => by
        have h1 := lex_deps ops.size 0 _ (fun x hx => by rw [getD_replicate_false] at hx; cases hx) hB j _ (Nat.zero_le _) (by omega) (Array.getElem?_eq_getElem hj) e he hb
        exact ih _ h1 (by omega)⟩
      rw [hr] at hmem
      cases hmem

end

/-- **A region that draws**: the lexical walk, the turning operations ws. -/
theorem region_mix {P : Program} {id : Nat} {Q : Exit → Act → World → Prop} {a : Act} {w : World} {l : List Oper} (D : Nat → World → Prop) (ws : List Nat) (hm : P.follows .mixedOrders = true) (hB : mixB .any l.toArray ws = true)
    (hD : D 0 (w.drewN 1)) (h : wpMix P .any l.toArray D ws (fun a' => ∀ w', D ws.length w' → Q .normal a' w') 0 l a) : (Code.region id l.toArray true).wp P Q a w := by
  unfold mixB at hB
  rw [Bool.and_eq_true, Bool.and_eq_true] at hB
  obtain ⟨⟨hB1, hB2⟩, hB3⟩ := hB
  have hlex := hB1
  simp only [Region.lexB, Bool.and_eq_true] at hlex
  refine wp_region_any hm (wpAny_of_mix (ws := ws) (D := D) (Q := fun a' => ∀ w', D ws.length w' → Q .normal a' w') hB2 (fun a w' hw' hq => hq w' hw') (fun listed k hsz inv hr => ?_) _ _ 0 _ _ (by simp) ⟨?_, ?_, Nat.zero_le _⟩ hD ?_)
  · have hal := all_listed hlex.2 hsz hr
    apply Nat.le_antisymm inv.le
    apply Nat.le_of_not_lt
    intro hlt
    have h1 := List.all_eq_true.1 hB3 ws[k] (List.getElem_mem hlt)
    have h2 := (inv.wr k ws[k] (List.getElem?_eq_getElem hlt)).1 (hal _ (of_decide_eq_true h1))
    omega
  · intro j oj _ hl
    rw [getD_replicate_false] at hl
    cases hl
  · intro m i hm
    rw [getD_replicate_false]
    simp
  · have := wpAnyM_lex (P := P) (D := D) (ws := ws) (md := .any) hlex.1 l 0 (Array.replicate l.toArray.size false) a (by simp) (by simpa using hlex.2) h
    simpa using this

/-! ## one turning operation -/

/-- The two classes: ahead of it, behind it. -/
def two (D0 D1 : World → Prop) : Nat → World → Prop
  | 0 => D0
  | _ => D1

section
variable {P : Program} {ops : Array Oper} {D0 D1 : World → Prop} {ω i : Nat} {o : Oper} {rest : List Oper} {a : Act} {Q : Act → Prop}

theorem up_of_quiet {C : World → Prop} {w : World} {v : Value} {r : Result Next} (hC : C w) (h : Oper.quietUpon P C w v r) : upM P C v r := by
  cases r with
  | ok n w' =>
    cases n <;> simp only [Oper.quietUpon] at h <;> simp only [upM]
    case value u => exact ⟨by rw [h.1]; exact hC, h.2⟩
    case skip => exact ⟨by rw [h.1]; exact hC, h.2⟩
    case enter f args => rw [h.1]; exact h.2
  | halt x w' => simp only [Oper.quietUpon] at h

/-- An operation that may come ahead of it and behind it. -/
theorem mixC (hi : i ≠ ω) (h : ∀ K : Act → Prop, (∀ a, wpMix P .any ops (two D0 D1) [ω] Q (i + 1) rest a → K a) →
      if Region.wanted o (yielded ops a.tmps) then ∃ v, (∀ w, D0 w → Oper.quietUpon P D0 w v ((execOp a.eval o).run P w)) ∧ (∀ w, D1 w → Oper.quietUpon P D1 w v ((execOp a.eval o).run P w)) ∧ K (a.put o.dst v) else K (a.put o.dst undef)) :
    wpMix P .any ops (two D0 D1) [ω] Q i (o :: rest) a := by
  have h1 := h _ (fun _ h => h)
  split at h1
  · rename_i hw
    obtain ⟨v, h2, h3, h4⟩ := h1
    refine ⟨v, .inl ⟨hw, fun k w hk _ => ?_, fun _ k w hk _ hD => ?_⟩, h4⟩
    · match k, hk with
      | 0, hk => exact absurd (by simpa using hk) (Ne.symm hi)
      | k + 1, hk => simp at hk
    · match k, hk with
      | 0, _ => exact up_of_quiet hD (h2 w hD)
      | k + 1, _ => exact up_of_quiet hD (h3 w hD)
  · rename_i hw
    refine ⟨undef, .inr ⟨by simpa using hw, rfl, fun k w hk _ => ?_⟩, h1⟩
    match k, hk with
    | 0, hk => exact absurd (by simpa using hk) (Ne.symm hi)
    | k + 1, hk => simp at hk

/-- An operation that comes behind it. -/
theorem mixB' (hi : i ≠ ω) (hd : Region.waitsFor .any ops i ω = true) (h : ∀ K : Act → Prop, (∀ a, wpMix P .any ops (two D0 D1) [ω] Q (i + 1) rest a → K a) →
      if Region.wanted o (yielded ops a.tmps) then ∃ v, (∀ w, D1 w → Oper.quietUpon P D1 w v ((execOp a.eval o).run P w)) ∧ K (a.put o.dst v) else K (a.put o.dst undef)) :
    wpMix P .any ops (two D0 D1) [ω] Q i (o :: rest) a := by
  have h1 := h _ (fun _ h => h)
  split at h1
  · rename_i hw
    obtain ⟨v, h3, h4⟩ := h1
    refine ⟨v, .inl ⟨hw, fun k w hk _ => ?_, fun _ k w hk hmay hD => ?_⟩, h4⟩
    · match k, hk with
      | 0, hk => exact absurd (by simpa using hk) (Ne.symm hi)
      | k + 1, hk => simp at hk
    · match k, hk with
      | 0, _ =>
        have := hmay.2
        simp [hd] at this
      | k + 1, _ => exact up_of_quiet hD (h3 w hD)
  · rename_i hw
    refine ⟨undef, .inr ⟨by simpa using hw, rfl, fun k w hk _ => ?_⟩, h1⟩
    match k, hk with
    | 0, hk => exact absurd (by simpa using hk) (Ne.symm hi)
    | k + 1, hk => simp at hk

/-- An operation that comes ahead of it. -/
theorem mixA (hi : i ≠ ω) (hd : Region.waitsFor .any ops ω i = true) (h : ∀ K : Act → Prop, (∀ a, wpMix P .any ops (two D0 D1) [ω] Q (i + 1) rest a → K a) →
      if Region.wanted o (yielded ops a.tmps) then ∃ v, (∀ w, D0 w → Oper.quietUpon P D0 w v ((execOp a.eval o).run P w)) ∧ K (a.put o.dst v) else K (a.put o.dst undef)) :
    wpMix P .any ops (two D0 D1) [ω] Q i (o :: rest) a := by
  have h1 := h _ (fun _ h => h)
  split at h1
  · rename_i hw
    obtain ⟨v, h3, h4⟩ := h1
    refine ⟨v, .inl ⟨hw, fun k w hk _ => ?_, fun _ k w hk hmay hD => ?_⟩, h4⟩
    · match k, hk with
      | 0, hk => exact absurd (by simpa using hk) (Ne.symm hi)
      | k + 1, hk => simp at hk
    · match k, hk with
      | 0, _ => exact up_of_quiet hD (h3 w hD)
      | k + 1, hk =>
        have := hmay.1
        obtain rfl : k = 0 := by simpa using hk
        simp [hd] at this
  · rename_i hw
    refine ⟨undef, .inr ⟨by simpa using hw, rfl, fun k w hk _ => ?_⟩, h1⟩
    match k, hk with
    | 0, hk => exact absurd (by simpa using hk) (Ne.symm hi)
    | k + 1, hk => simp at hk

/-- The turning operation itself. -/
theorem mixW (hw : Region.wanted o (yielded ops a.tmps) = true) (h : ∃ v, (∀ w, D0 w → upM P D1 v ((execOp a.eval o).run P w)) ∧ wpMix P .any ops (two D0 D1) [ω] Q (ω + 1) rest (a.put o.dst v)) :
    wpMix P .any ops (two D0 D1) [ω] Q ω (o :: rest) a := by
  obtain ⟨v, h1, h2⟩ := h
  refine ⟨v, .inl ⟨hw, fun k w hk hD => ?_, fun hn => absurd (by simp) hn⟩, h2⟩
  match k, hk with
  | 0, _ => exact h1 w hD
  | k + 1, hk => simp at hk

end

attribute [go_sem] upM

theorem region_mix1 {P : Program} {id : Nat} {Q : Exit → Act → World → Prop} {a : Act} {w : World} {l : List Oper} (D0 D1 : World → Prop) (ω : Nat) (hm : P.follows .mixedOrders = true) (hB : mixB .any l.toArray [ω] = true)
    (hD : D0 (w.drewN 1)) (h : wpMix P .any l.toArray (two D0 D1) [ω] (fun a' => ∀ w', D1 w' → Q .normal a' w') 0 l a) : (Code.region id l.toArray true).wp P Q a w :=
  region_mix (two D0 D1) [ω] hm hB hD h

end Go.Proofs.Ytjebldfmkpfafaa
