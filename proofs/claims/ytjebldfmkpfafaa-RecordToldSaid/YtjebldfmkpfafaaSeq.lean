/- A region that draws its order, whose operations that turn the world stand in one forced order, each world known by then; all others yield the same in each world in which they may come: one walk of the text's order serves every order. -/
import Derived.Test.YtjebldfmkpfafaaRows
import Derived.WalkKit
import Derived.StillTail
import Derived.Deep.Quiet
import Derived.BigQuiet
namespace Go.Proofs.Ytjebldfmkpfafaa
set_option maxRecDepth 100000

section
variable {P : Program} {ops : Array Oper} {md : Region.Mode} {D : Nat → World → Prop} {ws : List Nat}

/-- What an operation waits for, straight. -/
def depsOf (md : Region.Mode) (ops : Array Oper) (j : Nat) : List Nat :=
  match ops[j]? with
  | some o => (o.after.toList.filter (fun e => Region.binds md e)).map (fun e => e.on)
  | none => []
def closeL (md : Region.Mode) (ops : Array Oper) : Nat → List Nat → List Nat
  | 0, l => l
  | m + 1, l => closeL md ops m (if l.contains m then l ++ depsOf md ops m else l)
/-- What an operation waits for, through others too. -/
def needs (md : Region.Mode) (ops : Array Oper) (j : Nat) : List Nat := closeL md ops ops.size (depsOf md ops j)

theorem closeL_sound {S : Nat → Prop} (hS : ∀ j, S j → ∀ m, m ∈ depsOf md ops j → S m) : ∀ (n : Nat) (l : List Nat), (∀ x, x ∈ l → S x) → ∀ x, x ∈ closeL md ops n l → S x
  | 0, _, h, x, hx => h x hx
  | m + 1, l, h, x, hx => by
    refine closeL_sound hS m _ (fun y hy => ?_) x hx
    split at hy
    · rename_i hc
      rcases List.mem_append.1 hy with h1 | h1
      · exact h y h1
      · exact hS m (h m (by simpa using hc)) y h1
    · exact h y hy

/-- What an operation has yielded: v, in a world of the class C. -/
def upS (P : Program) (C : World → Prop) (v : Value) : Result Next → Prop
  | .ok (.value u) w' => C w' ∧ u = v
  | .ok .skip w' => C w' ∧ v = undef
  | .ok (.enter f args) w' => Calls P f args w' (fun e w'' => e = .returned v ∧ C w'')
  | _ => False

/-- Operation j may come when k of the turning ones are done. -/
def mayS (md : Region.Mode) (ops : Array Oper) (ws : List Nat) (j k : Nat) : Prop :=
  ((ws.take k).all fun i => !(needs md ops i).contains j) = true ∧ ((ws.drop k).all fun i => !(needs md ops j).contains i) = true

/-- Operation number i leaves v in its temporary, whenever it may come: a turning one takes the class k to the class k + 1, each other one stays in it. -/
def yieldsS (P : Program) (md : Region.Mode) (ops : Array Oper) (D : Nat → World → Prop) (ws : List Nat) (i : Nat) (o : Oper) (v : Value) (a : Act) : Prop :=
  (Region.wanted o (yielded ops a.tmps) = true ∧
    ((∀ k w, ws[k]? = some i → D k w → upS P (D (k + 1)) v ((execOp a.eval o).run P w)) ∧
     (i ∉ ws → ∀ k w, k ≤ ws.length → mayS md ops ws i k → D k w → upS P (D k) v ((execOp a.eval o).run P w)))) ∨
  (Region.wanted o (yielded ops a.tmps) = false ∧ v = undef ∧ ∀ k w, ws[k]? = some i → D k w → D (k + 1) w)

def wpSeqS (P : Program) (md : Region.Mode) (ops : Array Oper) (D : Nat → World → Prop) (ws : List Nat) (Q : Act → Prop) : Nat → List Oper → Act → Prop
  | _, [], a => Q a
  | i, o :: rest, a => ∃ v, yieldsS P md ops D ws i o v a ∧ wpSeqS P md ops D ws Q (i + 1) rest (a.put o.dst v)

def sOp (P : Program) (md : Region.Mode) (ops : Array Oper) (D : Nat → World → Prop) (ws : List Nat) (i : Nat) (K : Act → Prop) (a : Act) : Prop :=
  ∃ o v, ops[i]? = some o ∧ yieldsS P md ops D ws i o v a ∧ K (a.put o.dst v)

theorem sOp_mono {i : Nat} {a : Act} {K K' : Act → Prop} (h : ∀ a, K a → K' a) (hh : sOp P md ops D ws i K a) : sOp P md ops D ws i K' a := by
  obtain ⟨o, v, h1, h2, h3⟩ := hh
  exact ⟨o, v, h1, h2, h _ h3⟩

def wpAnyS (P : Program) (md : Region.Mode) (ops : Array Oper) (D : Nat → World → Prop) (ws : List Nat) (Q : Act → Prop) : Nat → Array Bool → Act → Prop
  | 0, listed, a => Region.ready md ops listed = [] ∧ Q a
  | fuel + 1, listed, a => (Region.ready md ops listed = [] → Q a) ∧ ∀ i ∈ Region.ready md ops listed, sOp P md ops D ws i (wpAnyS P md ops D ws Q fuel (listed.setIfInBounds i true)) a

theorem yieldsS_same {i : Nat} {o : Oper} {v : Value} {a a' : Act} (hy : yieldsS P md ops D ws i o v a) (he : execOp a'.eval o = execOp a.eval o)
    (hw : Region.wanted o (yielded ops a'.tmps) = Region.wanted o (yielded ops a.tmps)) : yieldsS P md ops D ws i o v a' := by
  unfold yieldsS at *
  rw [he, hw]
  exact hy

theorem sOp_put {i j : Nat} {oi oj : Oper} {v : Value} (hj : ops[j]? = some oj) (hap : oi.apart ops oj = true)
    (hsi : ∀ cs b, oi.op ≠ .select cs b) (hsj : ∀ cs b, oj.op ≠ .select cs b) {K : Act → Prop} {a : Act}
    (hy : yieldsS P md ops D ws i oi v a) (h : sOp P md ops D ws j K (a.put oi.dst v)) :
    sOp P md ops D ws j (fun a' => yieldsS P md ops D ws i oi v a' ∧ K (a'.put oi.dst v)) a := by
  obtain ⟨h1, h2, h3⟩ := Oper.apart_spec hap
  obtain ⟨o, u, ho, hu, hn⟩ := h
  obtain rfl : oj = o := Option.some.inj (hj.symm.trans ho)
  refine ⟨oj, u, hj, yieldsS_same hu (execOp_put oj hsj a oi.dst v h1).symm (wanted_put oj a oi.dst v h1).symm, ?_, by rw [← Act.put_comm a v u h2]; exact hn⟩
  exact yieldsS_same hy (execOp_put oi hsi a oj.dst u h3) (wanted_put oi a oj.dst u h3)

theorem wpAnyS_first {Q : Act → Prop} {i : Nat} {oi : Oper} {v : Value} (hi : ops[i]? = some oi) (hsel : ∀ (j : Nat) (o : Oper) cs b, ops[j]? = some o → o.op ≠ .select cs b) :
    ∀ (fuel : Nat) (listed : Array Bool) (a : Act),
      (∀ j oj, ops[j]? = some oj → j ≠ i → listed.getD j true = false → (∀ e ∈ oj.after, Region.binds md e = true → e.on ≠ i) → oi.apart ops oj = true) →
      i ∈ Region.ready md ops listed → yieldsS P md ops D ws i oi v a →
      wpAnyS P md ops D ws Q fuel (listed.setIfInBounds i true) (a.put oi.dst v) → wpAnyS P md ops D ws Q (fuel + 1) listed a := by
  intro fuel
  induction fuel with
  | zero =>
    intro listed a _ hr hy H
    refine ⟨fun h => (by rw [h] at hr; cases hr), fun j hj => ?_⟩
    by_cases hji : j = i
    · subst hji; exact ⟨oi, v, hi, hy, H⟩
    · have := ready_mono hj hji
      rw [H.1] at this
      cases this
  | succ fuel ih =>
    intro listed a hfree hr hy H
    refine ⟨fun h => (by rw [h] at hr; cases hr), fun j hj => ?_⟩
    by_cases hji : j = i
    · subst hji; exact ⟨oi, v, hi, hy, H⟩
    · have h1 := H.2 j (ready_mono hj hji)
      obtain ⟨hjun, oj, hoj, hall⟩ := mem_ready.1 hj
      have hnot : ∀ e ∈ oj.after, Region.binds md e = true → e.on ≠ i := fun e he hb heq => by
        have h1 := hall e he hb
        have h0 := (mem_ready.1 hr).1
        rw [heq] at h1
        rw [getD_both h0] at h1
        cases h1
      have h2 := sOp_put hoj (hfree j oj hoj hji hjun hnot) (fun cs b => hsel i oi cs b hi) (fun cs b => hsel j oj cs b hoj) hy h1
      have hfree' : ∀ k ok, ops[k]? = some ok → k ≠ i → (listed.setIfInBounds j true).getD k true = false →
          (∀ e ∈ ok.after, Region.binds md e = true → e.on ≠ i) → oi.apart ops ok = true := fun k ok hk hki hun hno => by
        refine hfree k ok hk hki ?_ hno
        by_cases hjk : j = k
        · subst hjk; exact hjun
        · rw [getD_set_ne true hjk] at hun; exact hun
      refine sOp_mono (fun a' h3 => ih (listed.setIfInBounds j true) a' hfree' (ready_mono hr (Ne.symm hji)) h3.1 ?_) h2
      rw [Array.setIfInBounds_comm _ _ hji]
      exact h3.2

theorem wpAnyS_lex {Q : Act → Prop} (hs : Region.noSelect ops = true) : ∀ (l : List Oper) (k : Nat) (listed : Array Bool) (a : Act), (∀ j, l[j]? = ops[k + j]?) →
    Region.lexFrom md ops l.length k listed = true → wpSeqS P md ops D ws Q k l a → wpAnyS P md ops D ws Q l.length listed a
  | [], _, _, _, _, hB, h => ⟨by simpa [Region.lexFrom] using hB, h⟩
  | o :: l, k, listed, a, hl, hB, h => by
    have h0 : ops[k]? = some o := by simpa using (hl 0).symm
    simp only [List.length_cons, Region.lexFrom, Bool.and_eq_true] at hB
    obtain ⟨⟨hr, hf⟩, hB'⟩ := hB
    obtain ⟨v, hy, hK⟩ := h
    exact wpAnyS_first h0 (Region.noSelect_spec hs) l.length listed a (Region.free_spec h0 hf) (by simpa using hr) hy
      (wpAnyS_lex hs l (k + 1) _ _ (fun j => by have := hl (j + 1); simpa [Nat.add_assoc, Nat.add_comm 1 j] using this) hB' hK)

/-- What is listed, when k turning operations are done. -/
structure InvS (md : Region.Mode) (ops : Array Oper) (ws : List Nat) (listed : Array Bool) (k : Nat) : Prop where
  closed : ∀ j oj, ops[j]? = some oj → listed.getD j false = true → ∀ e ∈ oj.after, Region.binds md e = true → listed.getD e.on false = true
  wr : ∀ (m i : Nat), ws[m]? = some i → (listed.getD i false = true ↔ m < k)
  le : k ≤ ws.length

/-- The turning operations wait for one another. -/
def chainS (md : Region.Mode) (ops : Array Oper) (ws : List Nat) : Bool :=
  decide ws.Nodup && (List.range ws.length).all fun m => m == 0 || match ws[m]?, ws[m - 1]? with | some x, some y => Region.waitsFor md ops x y | _, _ => false

theorem chainS_spec (h : chainS md ops ws = true) : ws.Nodup ∧ ∀ (m x y : Nat), ws[m + 1]? = some x → ws[m]? = some y → Region.waitsFor md ops x y = true := by
  unfold chainS at h
  rw [Bool.and_eq_true, decide_eq_true_eq, List.all_eq_true] at h
  refine ⟨h.1, fun m x y hx hy => ?_⟩
  have h1 := h.2 (m + 1) (List.mem_range.2 (List.getElem?_eq_some_iff.1 hx).1)
  simpa [hx, hy] using h1

theorem wpAny_of_seqS {Q : Act → Prop} {Q' : Exit → Act → World → Prop} (hc : chainS md ops ws = true) (hQ : ∀ a w, D ws.length w → Q a → Q' .normal a w)
    (hall : ∀ listed k, listed.size = ops.size → InvS md ops ws listed k → Region.ready md ops listed = [] → k = ws.length) :
    ∀ (fuel : Nat) (listed : Array Bool) (k : Nat) (a : Act) (w : World), listed.size = ops.size → InvS md ops ws listed k → D k w →
    wpAnyS P md ops D ws Q fuel listed a → wpAny P md ops Q' fuel listed a w
  | 0, listed, k, a, w, hsz, inv, hD, h => ⟨h.1, hQ _ _ (by rw [← hall listed k hsz inv h.1]; exact hD) h.2⟩
  | fuel + 1, listed, k, a, w, hsz, inv, hD, h => by
    refine ⟨fun h0 => hQ _ _ (by rw [← hall listed k hsz inv h0]; exact hD) (h.1 h0), fun i hi => ?_⟩
    obtain ⟨o, v, ho, hy, hK⟩ := h.2 i hi
    obtain ⟨hun, oi, hoi, hdeps⟩ := mem_ready.1 hi
    obtain rfl : o = oi := Option.some.inj (ho.symm.trans hoi)
    obtain ⟨hnd, hch⟩ := chainS_spec hc
    have hisz : i < listed.size := by rw [hsz]; exact (Array.getElem?_eq_some_iff.1 ho).1
    have hclosed' : ∀ j oj, ops[j]? = some oj → (listed.setIfInBounds i true).getD j false = true → ∀ e ∈ oj.after, Region.binds md e = true → (listed.setIfInBounds i true).getD e.on false = true := by
      intro j oj hoj hl e he hb
      by_cases hij : i = j
      · subst hij
        obtain rfl : oj = o := Option.some.inj (hoj.symm.trans ho)
        exact getD_set_true (hdeps e he hb)
      · rw [getD_set_ne false hij] at hl
        exact getD_set_true (inv.closed j oj hoj hl e he hb)
    -- a turning operation that is ready is the next one
    have hnext : ∀ m : Nat, ws[m]? = some i → m = k := by
      intro m hm
      have h1 : ¬ m < k := fun h2 => by
        have := (inv.wr m i hm).2 h2
        rw [getD_both hun] at this
        cases this
      rcases Nat.lt_or_ge k m with h2 | h2
      · obtain ⟨m', rfl⟩ : ∃ m', m = m' + 1 := ⟨m - 1, by omega⟩
        have hlt : m' < ws.length := by have := (List.getElem?_eq_some_iff.1 hm).1; omega
        have hw := hch m' i ws[m'] hm (List.getElem?_eq_getElem hlt)
        obtain ⟨oj, hoj, e, he, hb, hon⟩ := Region.waitsFor_spec hw
        obtain rfl : oj = o := Option.some.inj (hoj.symm.trans ho)
        have := hdeps e he hb
        rw [hon] at this
        have := (inv.wr m' _ (List.getElem?_eq_getElem hlt)).1 this
        omega
      · omega
    have invS : ∀ m : Nat, ws[m]? = some i → InvS md ops ws (listed.setIfInBounds i true) (k + 1) := by
      intro m hm
      obtain rfl := hnext m hm
      refine ⟨hclosed', fun m' i' hm' => ?_, by have := (List.getElem?_eq_some_iff.1 hm).1; omega⟩
      by_cases hii : i = i'
      · subst hii
        have hmm : m' = m := List.getElem?_inj (List.getElem?_eq_some_iff.1 hm').1 hnd |>.1 (hm'.trans hm.symm)
        subst hmm
        simp [hisz]
      · rw [getD_set_ne false hii, inv.wr m' i' hm']
        constructor
        · omega
        · intro h3
          rcases Nat.lt_or_ge m' m with h4 | h4
          · exact h4
          · have : m' = m := by omega
            subst this
            exact absurd (Option.some.inj (hm.symm.trans hm')) hii
    have invR : i ∉ ws → InvS md ops ws (listed.setIfInBounds i true) k := by
      intro hni
      refine ⟨hclosed', fun m' i' hm' => ?_, inv.le⟩
      have hii : i ≠ i' := fun h => hni (by rw [h]; exact List.mem_of_getElem? hm')
      rw [getD_set_ne false hii]
      exact inv.wr m' i' hm'
    have hS : ∀ j, listed.getD j false = true → ∀ m, m ∈ depsOf md ops j → listed.getD m false = true := by
      intro j hj m hm
      unfold depsOf at hm
      split at hm
      · rename_i oj hoj
        obtain ⟨e, he, rfl⟩ := List.mem_map.1 hm
        obtain ⟨he1, he2⟩ := List.mem_filter.1 he
        exact inv.closed j oj hoj hj e (by simpa using he1) (by simpa using he2)
      · cases hm
    have hneed : ∀ j, listed.getD j false = true → ∀ m, m ∈ needs md ops j → listed.getD m false = true := fun j hj m hm =>
      closeL_sound hS _ _ (hS j hj) m hm
    have hneedi : ∀ m, m ∈ needs md ops i → listed.getD m false = true := by
      refine closeL_sound hS _ _ (fun m hm => ?_)
      unfold depsOf at hm
      rw [ho] at hm
      obtain ⟨e, he, rfl⟩ := List.mem_map.1 hm
      obtain ⟨he1, he2⟩ := List.mem_filter.1 he
      exact hdeps e (by simpa using he1) (by simpa using he2)
    have hmay : i ∉ ws → mayS md ops ws i k := by
      intro hni
      refine ⟨?_, ?_⟩
      · rw [List.all_eq_true]
        intro x hx
        obtain ⟨m, hm⟩ := List.mem_iff_getElem?.1 hx
        rw [List.getElem?_take] at hm
        split at hm
        · rename_i hmk
          rw [Bool.not_eq_true']
          cases hw : (needs md ops x).contains i with
          | false => rfl
          | true =>
            have h1 := hneed x ((inv.wr m x hm).2 hmk) i (by simpa using hw)
            rw [getD_both hun] at h1
            cases h1
        · cases hm
      · rw [List.all_eq_true]
        intro x hx
        obtain ⟨m, hm⟩ := List.mem_iff_getElem?.1 hx
        rw [List.getElem?_drop] at hm
        rw [Bool.not_eq_true']
        cases hw : (needs md ops i).contains x with
        | false => rfl
        | true =>
          have := (inv.wr _ x hm).1 (hneedi x (by simpa using hw))
          omega
    unfold wpOp
    simp only [ho]
    have hsz' : (listed.setIfInBounds i true).size = ops.size := by simpa using hsz
    rcases hy with ⟨hw, hy1, hy2⟩ | ⟨hw, rfl, hy⟩
    · rw [if_pos hw]
      left
      by_cases hin : i ∈ ws
      · obtain ⟨m, hm⟩ := List.mem_iff_getElem?.1 hin
        obtain rfl := hnext m hm
        have hu := hy1 m w hm hD
        unfold Oper.wp
        generalize (execOp a.eval o).run P w = r at *
        cases r with
        | ok n w' =>
          cases n <;> simp only [upS] at hu <;> simp only [Oper.upon]
          case value u => rw [hu.2]; exact wpAny_of_seqS hc hQ hall fuel _ _ _ _ hsz' (invS m hm) hu.1 hK
          case skip => rw [← hu.2]; exact wpAny_of_seqS hc hQ hall fuel _ _ _ _ hsz' (invS m hm) hu.1 hK
          case enter f args => exact hu.mono fun e w'' ⟨he, hw''⟩ => by subst he; exact wpAny_of_seqS hc hQ hall fuel _ _ _ _ hsz' (invS m hm) hw'' hK
        | halt x w' => simp only [upS] at hu
      · have hu := hy2 hin k w inv.le (hmay hin) hD
        unfold Oper.wp
        generalize (execOp a.eval o).run P w = r at *
        cases r with
        | ok n w' =>
          cases n <;> simp only [upS] at hu <;> simp only [Oper.upon]
          case value u => rw [hu.2]; exact wpAny_of_seqS hc hQ hall fuel _ _ _ _ hsz' (invR hin) hu.1 hK
          case skip => rw [← hu.2]; exact wpAny_of_seqS hc hQ hall fuel _ _ _ _ hsz' (invR hin) hu.1 hK
          case enter f args => exact hu.mono fun e w'' ⟨he, hw''⟩ => by subst he; exact wpAny_of_seqS hc hQ hall fuel _ _ _ _ hsz' (invR hin) hw'' hK
        | halt x w' => simp only [upS] at hu
    · rw [if_neg (by rw [hw]; decide)]
      by_cases hin : i ∈ ws
      · obtain ⟨m, hm⟩ := List.mem_iff_getElem?.1 hin
        obtain rfl := hnext m hm
        exact wpAny_of_seqS hc hQ hall fuel _ _ _ _ hsz' (invS m hm) (hy m w hm hD) hK
      · exact wpAny_of_seqS hc hQ hall fuel _ _ _ _ hsz' (invR hin) hD hK

theorem lex_depsS : ∀ (fuel k : Nat) (listed : Array Bool), (∀ x, listed.getD x false = true → x < k) → Region.lexFrom md ops fuel k listed = true →
    ∀ (j : Nat) (o : Oper), k ≤ j → j < k + fuel → ops[j]? = some o → ∀ e ∈ o.after, Region.binds md e = true → e.on < j
  | 0, k, listed, _, _, j, o, h1, h2, _, _, _, _ => by omega
  | fuel + 1, k, listed, hl, hB, j, o, h1, h2, ho, e, he, hb => by
    simp only [Region.lexFrom, Bool.and_eq_true] at hB
    obtain ⟨⟨hr, _⟩, hB'⟩ := hB
    rcases Nat.lt_or_ge k j with h3 | h3
    · refine lex_depsS fuel (k + 1) (listed.setIfInBounds k true) (fun x hx => ?_) hB' j o (by omega) (by omega) ho e he hb
      by_cases hkx : k = x
      · omega
      · rw [getD_set_ne false hkx] at hx
        have := hl x hx
        omega
    · obtain rfl : j = k := by omega
      have hmem : j ∈ Region.ready md ops listed := by simpa using hr
      obtain ⟨_, o', ho', hdeps⟩ := mem_ready.1 hmem
      obtain rfl : o = o' := Option.some.inj (ho.symm.trans ho')
      exact hl _ (hdeps e he hb)

/-- What is checked of a region: its text's order is one that may be, and the turning operations wait for one another. -/
def seqBB (md : Region.Mode) (ops : Array Oper) (ws : List Nat) : Bool := Region.lexB md ops && chainS md ops ws && ws.all fun i => decide (i < ops.size)

theorem all_listedS (hB : Region.lexFrom md ops ops.size 0 (Array.replicate ops.size false) = true) {listed : Array Bool} (hsz : listed.size = ops.size) (hr : Region.ready md ops listed = []) :
    ∀ j, j < ops.size → listed.getD j false = true := by
  intro j
  induction j using Nat.strongRecOn with
  | _ j ih =>
    intro hj
    cases hl : listed.getD j true with
    | true => simpa [hsz, hj] using hl
    | false =>
      have hmem : j ∈ Region.ready md ops listed := mem_ready.2 ⟨hl, ops[j], Array.getElem?_eq_getElem hj, fun e he hb => by
        have h1 := lex_depsS ops.size 0 _ (fun x hx => by rw [getD_replicate_false] at hx; cases hx) hB j _ (Nat.zero_le _) (by omega) (Array.getElem?_eq_getElem hj) e he hb
        exact ih _ h1 (by omega)⟩
      rw [hr] at hmem
      cases hmem

end

/-- **A region that draws**: the lexical walk, the turning operations ws. -/
theorem region_seqS {P : Program} {id : Nat} {Q : Exit → Act → World → Prop} {a : Act} {w : World} {l : List Oper} (D : Nat → World → Prop) (ws : List Nat) (hm : P.follows .mixedOrders = true) (hB : seqBB .any l.toArray ws = true)
    (hD : D 0 (w.drewN 1)) (h : wpSeqS P .any l.toArray D ws (fun a' => ∀ w', D ws.length w' → Q .normal a' w') 0 l a) : (Code.region id l.toArray true).wp P Q a w := by
  unfold seqBB at hB
  rw [Bool.and_eq_true, Bool.and_eq_true] at hB
  obtain ⟨⟨hB1, hB2⟩, hB3⟩ := hB
  have hlex := hB1
  simp only [Region.lexB, Bool.and_eq_true] at hlex
  refine wp_region_any hm (wpAny_of_seqS (ws := ws) (D := D) (Q := fun a' => ∀ w', D ws.length w' → Q .normal a' w') hB2 (fun a w' hw' hq => hq w' hw') (fun listed k hsz inv hr => ?_) _ _ 0 _ _ (by simp) ⟨?_, ?_, Nat.zero_le _⟩ hD ?_)
  · have hal := all_listedS hlex.2 hsz hr
    apply Nat.le_antisymm inv.le
    apply Nat.le_of_not_lt
    intro hlt
    have h1 := List.all_eq_true.1 hB3 ws[k] (List.getElem_mem hlt)
    have h2 := (inv.wr k ws[k] (List.getElem?_eq_getElem hlt)).1 (hal _ (of_decide_eq_true h1))
    omega
  · intro j oj _ hl
    rw [getD_replicate_false] at hl
    cases hl
  · intro m i hm
    rw [getD_replicate_false]
    simp
  · have := wpAnyS_lex (P := P) (D := D) (ws := ws) (md := .any) hlex.1 l 0 (Array.replicate l.toArray.size false) a (by simp) (by simpa using hlex.2) h
    simpa using this


/-! ## the worlds known -/

section
variable {P : Program} {ops : Array Oper} {Ws : Nat → World} {ws : List Nat} {i : Nat} {o : Oper} {rest : List Oper} {a : Act} {Q : Act → Prop}

/-- The walk: operation by operation, in the text's order. -/
def wpAt (P : Program) (ops : Array Oper) (Ws : Nat → World) (ws : List Nat) (Q : Act → Prop) (i : Nat) (l : List Oper) (a : Act) : Prop := wpSeqS P .any ops (fun k w => w = Ws k) ws Q i l a

theorem wpAt_nil (h : Q a) : wpAt P ops Ws ws Q i [] a := h

/-- Where a reading operation may come. -/
def placesB (ops : Array Oper) (ws : List Nat) (i : Nat) (ks : List Nat) : Bool :=
  !ws.contains i && (List.range (ws.length + 1)).all fun k => ks.contains k || !(((ws.take k).all fun j => !(needs .any ops j).contains i) && ((ws.drop k).all fun j => !(needs .any ops i).contains j))

/-- In all these worlds the operation yields v. -/
def runsAt (P : Program) (Ws : Nat → World) (x : Sem Next) (v : Value) : List Nat → Prop
  | [] => True
  | k :: ks => x.run P (Ws k) = .ok (.value v) (Ws k) ∧ runsAt P Ws x v ks

theorem runsAt_mem {x : Sem Next} {v : Value} : ∀ {ks : List Nat}, runsAt P Ws x v ks → ∀ k, k ∈ ks → x.run P (Ws k) = .ok (.value v) (Ws k)
  | _ :: _, h, k, hk => by
    rcases List.mem_cons.1 hk with rfl | hk
    · exact h.1
    · exact runsAt_mem h.2 k hk
  | [], _, _, hk => by cases hk

theorem places_spec {ks : List Nat} (h : placesB ops ws i ks = true) : i ∉ ws ∧ ∀ k, k ≤ ws.length → mayS .any ops ws i k → k ∈ ks := by
  unfold placesB at h
  rw [Bool.and_eq_true, List.all_eq_true] at h
  refine ⟨by simpa using h.1, fun k hk hm => ?_⟩
  have h1 := h.2 k (List.mem_range.2 (by omega))
  rw [hm.1, hm.2] at h1
  simpa using h1

/-- A reading operation. -/
theorem atR (ks : List Nat) (hks : placesB ops ws i ks = true) (h : ∀ K : Act → Prop, (∀ a, wpAt P ops Ws ws Q (i + 1) rest a → K a) →
      if Region.wanted o (yielded ops a.tmps) then ∃ v, runsAt P Ws (execOp a.eval o) v ks ∧ K (a.put o.dst v) else K (a.put o.dst undef)) :
    wpAt P ops Ws ws Q i (o :: rest) a := by
  obtain ⟨hni, hpl⟩ := places_spec hks
  have h1 := h _ (fun _ h => h)
  split at h1
  · rename_i hw
    obtain ⟨v, h2, h3⟩ := h1
    refine ⟨v, .inl ⟨hw, fun k w hk _ => absurd (List.mem_of_getElem? hk) hni, fun _ k w hk hmay hD => ?_⟩, h3⟩
    subst hD
    rw [runsAt_mem h2 k (hpl k hk hmay)]
    exact ⟨rfl, rfl⟩
  · rename_i hw
    exact ⟨undef, .inr ⟨by simpa using hw, rfl, fun k w hk _ => absurd (List.mem_of_getElem? hk) hni⟩, h1⟩

/-- The same, the value given. -/
theorem atV (ks : List Nat) (hks : placesB ops ws i ks = true) (hgd : o.guard = none) (v : Value) (hr : runsAt P Ws (execOp a.eval o) v ks) (h : wpAt P ops Ws ws Q (i + 1) rest (a.put o.dst v)) : wpAt P ops Ws ws Q i (o :: rest) a :=
  atR ks hks fun K hK => by
    have hw : Region.wanted o (yielded ops a.tmps) = true := by simp [Region.wanted, hgd]
    rw [if_pos hw]
    exact ⟨v, hr, hK _ h⟩

/-- An operation that asks nothing of the world. -/
theorem atP (hni : ws.contains i = false) (h : ∀ K : Act → Prop, (∀ a, wpAt P ops Ws ws Q (i + 1) rest a → K a) →
      if Region.wanted o (yielded ops a.tmps) then ∃ v, (∀ w, (execOp a.eval o).run P w = .ok (.value v) w) ∧ K (a.put o.dst v) else K (a.put o.dst undef)) :
    wpAt P ops Ws ws Q i (o :: rest) a := by
  have hni' : i ∉ ws := by simpa using hni
  have h1 := h _ (fun _ h => h)
  split at h1
  · rename_i hw
    obtain ⟨v, h2, h3⟩ := h1
    refine ⟨v, .inl ⟨hw, fun k w hk _ => absurd (List.mem_of_getElem? hk) hni', fun _ k w hk hmay hD => ?_⟩, h3⟩
    rw [h2]
    exact ⟨hD, rfl⟩
  · rename_i hw
    exact ⟨undef, .inr ⟨by simpa using hw, rfl, fun k w hk _ => absurd (List.mem_of_getElem? hk) hni'⟩, h1⟩

/-- A turning operation: it takes the world k to the world k + 1. -/
theorem atW (k : Nat) (hk : ws[k]? = some i) (hnd : ws.Nodup) (hgd : o.guard = none) (v : Value) (hr : (execOp a.eval o).run P (Ws k) = .ok (.value v) (Ws (k + 1))) (h : wpAt P ops Ws ws Q (i + 1) rest (a.put o.dst v)) : wpAt P ops Ws ws Q i (o :: rest) a := by
  have hw : Region.wanted o (yielded ops a.tmps) = true := by simp [Region.wanted, hgd]
  refine ⟨v, .inl ⟨hw, fun k' w hk' hD => ?_, fun hn => absurd (List.mem_of_getElem? hk) hn⟩, h⟩
  have : k' = k := (List.getElem?_inj (List.getElem?_eq_some_iff.1 hk').1 hnd).1 (hk'.trans hk.symm)
  subst this
  subst hD
  rw [hr]
  exact ⟨rfl, rfl⟩

/-- A turning operation that stores nothing that is read: a store has no value. -/
theorem atS (k : Nat) (hk : ws[k]? = some i) (hnd : ws.Nodup) (hgd : o.guard = none) (hr : (execOp a.eval o).run P (Ws k) = .ok .skip (Ws (k + 1))) (h : wpAt P ops Ws ws Q (i + 1) rest (a.put o.dst undef)) : wpAt P ops Ws ws Q i (o :: rest) a := by
  have hw : Region.wanted o (yielded ops a.tmps) = true := by simp [Region.wanted, hgd]
  refine ⟨undef, .inl ⟨hw, fun k' w hk' hD => ?_, fun hn => absurd (List.mem_of_getElem? hk) hn⟩, h⟩
  have : k' = k := (List.getElem?_inj (List.getElem?_eq_some_iff.1 hk').1 hnd).1 (hk'.trans hk.symm)
  subst this
  subst hD
  rw [hr]
  exact ⟨rfl, rfl⟩
end

attribute [go_sem] runsAt

/-- **A region that draws its order**, the worlds of its turning operations known: one walk. -/
theorem region_at {P : Program} {id : Nat} {Q : Exit → Act → World → Prop} {a : Act} {w : World} {l : List Oper} (Ws : Nat → World) (ws : List Nat) (hm : P.follows .mixedOrders = true) (hB : seqBB .any l.toArray ws = true)
    (h0 : w.drewN 1 = Ws 0) (h : wpAt P l.toArray Ws ws (fun a' => Q .normal a' (Ws ws.length)) 0 l a) : (Code.region id l.toArray true).wp P Q a w := by
  refine region_seqS (fun k w => w = Ws k) ws hm hB h0 ?_
  have e : (fun a' => ∀ w', (fun k w => w = Ws k) ws.length w' → Q .normal a' w') = (fun a' => Q .normal a' (Ws ws.length)) := by
    funext a'
    apply propext
    exact ⟨fun h => h _ rfl, fun h w' hw' => by subst hw'; exact h⟩
  show wpSeqS P .any l.toArray (fun k w => w = Ws k) ws _ 0 l a
  rw [e]
  exact h

end Go.Proofs.Ytjebldfmkpfafaa
