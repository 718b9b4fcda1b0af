/- Layer 4, the device: Copy. -/
import Derived.Test.YtddehagceenbnaaSsdN
namespace Go.Proofs.Ytddehagceenbnaa
open Go.RowKit

/-- A copy of a device. -/
def Copied (d : Dev) (w : World) (e : Ending) (w' : World) : Prop :=
  ∃ c F', e = .returned (.pointer (some ⟨c, 0, none⟩)) ∧ DevAt w' c d F' ∧ Keeps [] w w' ∧ ∀ x, x ∈ F' → w.heap.size ≤ x

theorem KT {a b c : World} (h : Keeps [] a b) (k : Keeps [] b c) : Keeps [] a c := h.trans k (by simp)

theorem copied_of {w w' wl wn wp wL wN wP : World} {d : Dev} {vl vn vp : Value} {c : Nat} (hb : w'.heap[c]? = some (.cells #[vl, vn, vp, .bool d.lost, .bool d.stops, .int .i64 d.left] 58 (0, 0)))
    (hl : wL.ownsRow 0 61 64 vl d.last.length (d.last.flatMap secv)) (hn : wN.ownsRow 0 61 64 vn d.now.length (d.now.flatMap secv)) (hp : wP.ownsRow 0 63 65 vp d.pend.length (d.pend.flatMap putv))
    (kl : Keeps [] wL w') (kn : Keeps [] wN w') (kp : Keeps [] wP w') (hk : Keeps [] w w') (jl : Keeps [] w wl) (jn : Keeps [] w wn) (jp : Keeps [] w wp)
    (fl : ∀ x, x ∈ vl.ownBlock.toList → wl.heap.size ≤ x) (fn : ∀ x, x ∈ vn.ownBlock.toList → wn.heap.size ≤ x) (fp : ∀ x, x ∈ vp.ownBlock.toList → wp.heap.size ≤ x) (fc : w.heap.size ≤ c)
    (ho : Keeps [] wL wn ∨ Keeps [] wN wl) : Copied d w (.returned (.pointer (some ⟨c, 0, none⟩))) w' := by
  refine ⟨c, devF c vl vn vp, rfl, (DevIs.mk hb ?_ (own_keep hl kl (by simp)) (own_keep hn kn (by simp)) (own_keep hp kp (by simp))).at, hk, ?_⟩
  · intro x hx hx'
    have h1 := fl x hx
    have h2 := fn x hx'
    have h3 := (hl.lt x (by simpa using hx)).2
    have h4 := (hn.lt x (by simpa using hx')).2
    rcases ho with h | h
    · have := h.size; omega
    · have := h.size; omega
  · intro x hx
    simp only [devF, List.mem_cons, List.mem_append] at hx
    rcases hx with h | (h | h) | h
    · rw [h]; exact fc
    · exact Nat.le_trans jl.size (fl x h)
    · exact Nat.le_trans jn.size (fn x h)
    · exact Nat.le_trans jp.size (fp x h)

set_option maxHeartbeats 4000000 in
theorem copy_any (b : Nat) (d : Dev) (F : List Nat) (w : World) (hd : DevAt w b d F) (hok : d.ok) (hp : d.pend.length ≤ 1000000000) :
    Calls Try.prog 24 #[.pointer (some ⟨b, 0, none⟩)] w (Copied d w) := by
  obtain ⟨vl, vn, vp, hi, _⟩ := hd.is
  obtain ⟨al, cl, rfl⟩ := ownsRow_shape hi.last
  obtain ⟨an, cn, rfl⟩ := ownsRow_shape hi.now
  obtain ⟨ap, cp, rfl⟩ := ownsRow_shape hi.pend
  have secs : ∀ (l : List (List UInt8)), ∀ u ∈ l.flatMap secv, u.oneCell' = true := fun l u hu => by obtain ⟨s, _, hs⟩ := List.mem_flatMap.1 hu; unfold secv at hs; exact u8v_one _ u hs
  have puts : ∀ u ∈ d.pend.flatMap putv, u.oneCell' = true := fun u hu => by obtain ⟨s, _, hs⟩ := List.mem_flatMap.1 hu; exact putv_one s u hs
  have HL : Hid (∀ w', Keeps [] w w' → Calls Try.prog 30 #[.slice al d.last.length cl] w' (Cloned 61 64 d.last.length (d.last.flatMap secv) w')) :=
    fun w' k => cloneSec_any _ _ _ w' (own_keep hi.last k (by simp)) (by have := hok.few; omega) (secs _)
  have HN : Hid (∀ w', Keeps [] w w' → Calls Try.prog 30 #[.slice an d.now.length cn] w' (Cloned 61 64 d.now.length (d.now.flatMap secv) w')) :=
    fun w' k => cloneSec_any _ _ _ w' (own_keep hi.now k (by simp)) (by have := hok.few; have := hok.same; omega) (secs _)
  have HP : Hid (∀ w', Keeps [] w w' → Calls Try.prog 37 #[.slice ap d.pend.length cp] w' (Cloned 63 65 d.pend.length (d.pend.flatMap putv) w')) :=
    fun w' k => cloneWr_any _ _ _ w' (own_keep hi.pend k (by simp)) hp puts
  have c0 := cell_of_heap hi.hb 0
  have c1 := cell_of_heap hi.hb 1
  have c2 := cell_of_heap hi.hb 2
  have c3 := cell_of_heap hi.hb 3
  have c4 := cell_of_heap hi.hb 4
  have c5 := cell_of_heap hi.hb 5
  have KS : Hid (∀ w', Keeps [] w w' → (w'.cell? ⟨b, 0, none⟩ = some (.slice al d.last.length cl) ∧ w'.cell? ⟨b, 1, none⟩ = some (.slice an d.now.length cn) ∧ w'.cell? ⟨b, 2, none⟩ = some (.slice ap d.pend.length cp) ∧ w'.cell? ⟨b, 3, none⟩ = some (.bool d.lost) ∧ w'.cell? ⟨b, 4, none⟩ = some (.bool d.stops) ∧ w'.cell? ⟨b, 5, none⟩ = some (.int .i64 d.left))) :=
    fun w' k => ⟨k.cell0 c0, k.cell0 c1, k.cell0 c2, k.cell0 c3, k.cell0 c4, k.cell0 c5⟩
  have K0 : Keeps [] w w.drew := (Keeps.refl [] w).drew
  have KA : Hid (∀ (w' : World) (o : Obj), Keeps [] w w' → Keeps [] w (w'.alloc o)) := fun _ o k => k.alloc o
  clear c0 c1 c2 c3 c4 c5 hi secs puts hd hok
  go_enter Try.func24, Try.ntmps24
  go_wp2
  go_region_held3 (fun w' => w'.cell? ⟨b, 0, none⟩ = some (.slice al d.last.length cl) ∧ w'.cell? ⟨b, 1, none⟩ = some (.slice an d.now.length cn) ∧ w'.cell? ⟨b, 2, none⟩ = some (.slice ap d.pend.length cp) ∧ w'.cell? ⟨b, 3, none⟩ = some (.bool d.lost) ∧ w'.cell? ⟨b, 4, none⟩ = some (.bool d.stops) ∧ w'.cell? ⟨b, 5, none⟩ = some (.int .i64 d.left))
    (first | exact KS.out _ (by assumption) | exact KS.out _ (KA.out _ _ (by assumption)) | exact KS.out _ (KA.out _ _ (by assumption)).drew)
    (first
      | (go_at_call 30; (with_reducible refine (HL.out _ (by assumption)).mono ?_); rintro eL wL ⟨vL, rfl, hownL, hkL, hfrL⟩; have hKL := KT (by assumption) hkL; obtain ⟨aL, cL, hvL⟩ := ownsRow_shape hownL; subst hvL)
      | (go_at_call 30; (with_reducible refine (HN.out _ (by assumption)).mono ?_); rintro eN wN ⟨vN, rfl, hownN, hkN, hfrN⟩; have hKN := KT (by assumption) hkN; obtain ⟨aN, cN, hvN⟩ := ownsRow_shape hownN; subst hvN)
      | (go_at_call 37; (with_reducible refine (HP.out _ (by assumption)).mono ?_); rintro eP wP ⟨vP, rfl, hownP, hkP, hfrP⟩; have hKP := KT (by assumption) hkP; obtain ⟨aP, cP, hvP⟩ := ownsRow_shape hownP; subst hvP))
  go_wp2
  go_ret
  exact copied_of (wl := w.drew) (wn := wL) (wp := wN) (wL := wL) (wN := wN) (wP := wP) (heap_alloc_self wP _) hownL hownN hownP (KT (KT hkN hkP) ((Keeps.refl [] wP).alloc _)) (KT hkP ((Keeps.refl [] wP).alloc _)) ((Keeps.refl [] wP).alloc _) (hKP.alloc _) K0 hKL hKN hfrL hfrN hfrP hKP.size (.inl (Keeps.refl _ _))
end Go.Proofs.Ytddehagceenbnaa
