/- Layer 4, the device: Write. -/
import Derived.Test.YtddehagceenbnaaSsdF
import Derived.Test.YtddehagceenbnaaRun
namespace Go.Proofs.Ytddehagceenbnaa
open Go.RowKit

theorem secv_len {d : List (List UInt8)} (h : ∀ s, s ∈ d → s.length = 64) : ∀ x, x ∈ d → (secv x).length = 64 := fun x hx => by unfold secv; rw [List.length_map]; exact h x hx
theorem putv_len {d : List (Nat × List UInt8)} {n : Nat} (h : ∀ p, p ∈ d → p.1 < n ∧ p.2.length = 64) : ∀ x, x ∈ d → (putv x).length = 65 := fun x hx => by unfold putv; rw [List.length_cons, List.length_map, (h x hx).2]

/-- A sector of what a device has is written. -/
theorem DevAt.setNow {w : World} {b : Nat} {d : Dev} {vl vn vp : Value} (hb : w.heap[b]? = some (.cells #[vl, vn, vp, .bool d.lost, .bool d.stops, .int .i64 d.left] 58 (0, 0)))
    (hdj : ∀ x, x ∈ vl.ownBlock.toList → x ∉ vn.ownBlock.toList) (h1 : w.ownsRow 0 61 64 vl d.last.length (d.last.flatMap secv)) (h2 : w.ownsRow 0 61 64 vn d.now.length (d.now.flatMap secv))
    (h3 : w.ownsRow 0 63 65 vp d.pend.length (d.pend.flatMap putv)) (hn : ∀ s, s ∈ d.now → s.length = 64) {i : Nat} {x : List UInt8} (hi : d.now[i]? = some x) :
    ∃ g cap, vn = .slice (some ⟨g, 0, none⟩) d.now.length cap ∧ w.rangeAt g (i * 64) (secv x) ∧ w.there g (i * 64) 64 ∧ ∀ y, y.length = 64 →
      (w.setCells g (i * 64) (secv y)).heap[b]? = some (.cells #[vl, vn, vp, .bool d.lost, .bool d.stops, .int .i64 d.left] 58 (0, 0)) ∧
      (w.setCells g (i * 64) (secv y)).ownsRow 0 61 64 vl d.last.length (d.last.flatMap secv) ∧ (w.setCells g (i * 64) (secv y)).ownsRow 0 61 64 vn (d.now.set i y).length ((d.now.set i y).flatMap secv) ∧
      (w.setCells g (i * 64) (secv y)).ownsRow 0 63 65 vp d.pend.length (d.pend.flatMap putv) ∧ Keeps [g] w (w.setCells g (i * 64) (secv y)) := by
  obtain ⟨g, cap, rfl, hr, ht, hs⟩ := own_elem h2 (secv_len hn) rfl hi
  refine ⟨g, cap, rfl, hr, ht, fun y hy => ?_⟩
  have hk : Keeps [g] w (w.setCells g (i * 64) (secv y)) := keeps_setCells _ _ _
  have hbg : b ≠ g := by
    have := own_ne hb h2 (by decide)
    simpa [Value.ownBlock] using this
  have hty : ∀ k, k ∈ vp.ownBlock.toList → k ∉ [g] := by
    intro k hk hk'
    rw [List.mem_singleton] at hk'
    subst hk'
    rcases h3.2 with ⟨rfl, _⟩ | ⟨g', cap', cur, rfl, _, hg, _⟩
    · simp [Value.ownBlock] at hk
    · simp [Value.ownBlock] at hk
      subst hk
      have := own_ne hg h2 (by decide)
      simp [Value.ownBlock] at this
  refine ⟨hk.some hb (by simpa using hbg), own_keep h1 hk (fun x hx hx' => hdj x hx (by rw [List.mem_singleton] at hx'; subst hx'; simp [Value.ownBlock])), ?_, own_keep h3 hk hty, hk⟩
  rw [List.length_set]
  exact hs y (by unfold secv; rw [List.length_map]; exact hy)

/-- What is pending has grown. -/
theorem DevAt.setPend {w w2 : World} {b : Nat} {d : Dev} {vl vn vp vp' : Value} (hb : w.heap[b]? = some (.cells #[vl, vn, vp, .bool d.lost, .bool d.stops, .int .i64 d.left] 58 (0, 0)))
    (hdj : ∀ x, x ∈ vl.ownBlock.toList → x ∉ vn.ownBlock.toList) (h1 : w.ownsRow 0 61 64 vl d.last.length (d.last.flatMap secv)) (h2 : w.ownsRow 0 61 64 vn d.now.length (d.now.flatMap secv))
    (h3 : w.ownsRow 0 63 65 vp d.pend.length (d.pend.flatMap putv)) {q : List (Nat × List UInt8)}
    (h4 : w2.ownsRow 0 63 65 vp' q.length (q.flatMap putv)) (hc : Chg vp.ownBlock.toList vp'.ownBlock.toList w w2) :
    DevAt (w2.setCell ⟨b, 2, none⟩ vp') b { d with pend := q } (b :: (vl.ownBlock.toList ++ vn.ownBlock.toList ++ vp'.ownBlock.toList)) ∧
      Chg (b :: (vl.ownBlock.toList ++ vn.ownBlock.toList ++ vp.ownBlock.toList)) (b :: (vl.ownBlock.toList ++ vn.ownBlock.toList ++ vp'.ownBlock.toList)) w (w2.setCell ⟨b, 2, none⟩ vp') := by
  have hbp := own_ne hb h3 (by decide)
  have hbl := own_ne hb h1 (by decide)
  have hbn := own_ne hb h2 (by decide)
  have apart : ∀ {v : Value} {n : Nat} {xs : List Value}, w.ownsRow 0 61 64 v n xs → ∀ x, x ∈ v.ownBlock.toList → x ∉ vp.ownBlock.toList := by
    intro v n xs hv x hx
    rcases hv.2 with ⟨rfl, _⟩ | ⟨g', cap', cur, rfl, _, hg, _⟩
    · simp [Value.ownBlock] at hx
    · simp [Value.ownBlock] at hx
      subst hx
      exact own_ne hg h3 (by decide)
  have hb2 : w2.heap[b]? = _ := hc.keeps.some hb hbp
  have hbp' := own_ne hb2 h4 (by decide)
  have h1' := own_keep h1 hc.keeps (apart h1)
  have h2' := own_keep h2 hc.keeps (apart h2)
  have hk : Keeps [b] w2 (w2.setCell ⟨b, 2, none⟩ vp') := (Keeps.refl [b] w2).setCell (p := ⟨b, 2, none⟩) (by simp) _
  have one : ∀ {v : Value}, b ∉ v.ownBlock.toList → ∀ x, x ∈ v.ownBlock.toList → x ∉ [b] := by
    intro v hv x hx hx'
    rw [List.mem_singleton] at hx'
    subst hx'
    exact hv hx
  refine ⟨⟨vl, vn, vp', heap_setCell hb2 2 vp', rfl, hdj, own_keep h1' hk (one hbl), own_keep h2' hk (one hbn), own_keep h4 hk (one hbp')⟩, (hc.keeps.mono (by intro x hx; simp [hx])).setCell (by simp) _, ?_⟩
  intro k hk
  simp only [List.mem_cons, List.mem_append] at hk ⊢
  rcases hk with rfl | (hk | hk) | hk
  · exact .inl (.inl rfl)
  · exact .inl (.inr (.inl (.inl hk)))
  · exact .inl (.inr (.inl (.inr hk)))
  · rcases hc.fresh k hk with h | h
    · exact .inl (.inr (.inr h))
    · exact .inr h

theorem tyWrite : SlTy Try.prog 56 63 65 72 (.agg (((.int .i64 0) :: List.replicate 64 (.int .u8 0)).toArray)) := SlTy.mk' Try.underlying56 (by kernel_rfl) (by simp [Value.cells]) (by decide)
theorem Try.sizeSector : (Try.prog.info? 61).map (·.size) = some 64 := by kernel_rfl
theorem Try.sizeWrite : (Try.prog.info? 63).map (·.size) = some 65 := by kernel_rfl
theorem Try.sizeU8 : (Try.prog.info? 5).map (·.size) = some 1 := by kernel_rfl

theorem builtWrite (x : Value) (hx : x.cells = #[x]) (sc : List Value) (hs : sc.length = 64) : Try.prog.built 63 [(0, x), (1, .agg sc.toArray)] = some (x :: sc).toArray :=
  built_two Try.underlying63 (by kernel_rfl) (by kernel_rfl) x hx sc hs
end Go.Proofs.Ytddehagceenbnaa
