/- Layer 4, plain: what lasts. -/
import Derived.Test.YtddehagceenbnaaSsdX
namespace Go.Proofs.Ytddehagceenbnaa

/-- Three sectors of one byte, of which the middle one was written again and again. -/
def lastsD (f : UInt8) (l : List UInt8) : Dev :=
  { last := [fullL f, fullL f, fullL f], now := [fullL f, (l.getLast?.map fullL).getD (fullL f), fullL f], pend := l.map (fun c => (1, fullL c)), lost := false, stops := false, left := 0 }

theorem chunk_full (c : UInt8) : chunk (fullL c) 0 = fullL c := by unfold chunk; rw [Nat.mul_zero, List.drop_zero, List.take_of_length_le (by rw [fullL_len]; omega)]

theorem lasts_step (f : UInt8) (l : List UInt8) (c : UInt8) : (lastsD f l).write 1 (fullL c) = (lastsD f (l ++ [c]), 0) := by
  have h := Dev.write_fit (d := lastsD f l) (a := 1) (n := 1) rfl (fullL_len c) (by simp [lastsD])
  refine h.trans ?_
  have e : (lastsD f l).tick = lastsD f l := rfl
  rw [e]
  simp only [Dev.putN, Dev.put1, Nat.add_zero, chunk_full]
  simp [lastsD]

theorem lasts_start (f : UInt8) : ((Dev.new 3).write 0 (fullL f ++ fullL f ++ fullL f)).2 = 0 ∧ ((Dev.new 3).write 0 (fullL f ++ fullL f ++ fullL f)).1.barrier = (lastsD f [], 0) ∧ (lastsD f []).barrier = (lastsD f [], 0) := by
  have hl : (fullL f ++ fullL f ++ fullL f).length = 64 * 3 := by simp [fullL_len]
  have h := Dev.write_fit (d := Dev.new 3) (a := 0) (n := 3) rfl hl (by simp [Dev.new])
  have e : (Dev.new 3).tick = Dev.new 3 := rfl
  rw [e] at h
  have c0 : chunk (fullL f ++ fullL f ++ fullL f) 0 = fullL f := by
    unfold chunk; rw [Nat.mul_zero, List.drop_zero, List.append_assoc, List.take_append_of_le_length (by rw [fullL_len]; omega), List.take_of_length_le (by rw [fullL_len]; omega)]
  have c1 : chunk (fullL f ++ fullL f ++ fullL f) 1 = fullL f := by
    unfold chunk
    rw [List.append_assoc, List.drop_left' (fullL_len f), List.take_append_of_le_length (by rw [fullL_len]; omega), List.take_of_length_le (by rw [fullL_len]; omega)]
  have c2 : chunk (fullL f ++ fullL f ++ fullL f) 2 = fullL f := by
    unfold chunk
    rw [List.drop_left' (by rw [List.length_append, fullL_len]), List.take_of_length_le (by rw [fullL_len]; omega)]
  have h' : (Dev.new 3).write 0 (fullL f ++ fullL f ++ fullL f) = _ := h
  rw [h']
  refine ⟨rfl, ?_, rfl⟩
  simp only [Dev.putN, Dev.put1, Nat.zero_add, c0, c1, c2]
  rfl

/-- What the middle sector may be. -/
def Torn (f : UInt8) (l : List UInt8) (x : List UInt8) : Prop := x.length = 64 ∧ (∃ c, c ∈ f :: l ∧ x.take 32 = (fullL c).take 32) ∧ (∃ c, c ∈ f :: l ∧ x.drop 32 = (fullL c).take 32)

theorem full_half (c : UInt8) : (fullL c).drop 32 = (fullL c).take 32 := by simp [fullL]

theorem torn_fold (f : UInt8) (l : List UInt8) : ∀ (qs : List ((Nat × List UInt8) × Int)) (x : List UInt8), (∀ q, q ∈ qs → ∃ c, c ∈ l ∧ q.1 = (1, fullL c)) → Torn f l x → ∃ x', qs.foldl fall1 [fullL f, x, fullL f] = [fullL f, x', fullL f] ∧ Torn f l x'
  | [], x, _, h => ⟨x, rfl, h⟩
  | q :: r, x, hq, h => by
    obtain ⟨c, hc, hq1⟩ := hq q (by simp)
    have e : fall1 [fullL f, x, fullL f] q = [fullL f, fell q.2 (fullL c) x, fullL f] := by
      unfold fall1
      rw [hq1]
      rfl
    rw [List.foldl_cons, e]
    refine torn_fold f l r _ (fun q' hq' => hq q' (by simp [hq'])) ?_
    obtain ⟨h1, h2, h3⟩ := h
    refine ⟨fell_len (fullL_len c) h1, ?_, ?_⟩
    · unfold fell
      split
      · exact ⟨c, by simp [hc], rfl⟩
      · split
        · refine ⟨c, by simp [hc], ?_⟩
          rw [List.take_append_of_le_length (by rw [List.length_take, fullL_len]; omega), List.take_take]
          rfl
        · exact h2
    · unfold fell
      split
      · exact ⟨c, by simp [hc], full_half c⟩
      · split
        · obtain ⟨c', hc', h4⟩ := h3
          refine ⟨c', hc', ?_⟩
          rw [List.drop_left' (by rw [List.length_take, fullL_len]; rfl), h4]
        · exact h3

theorem lasts_plain (f : UInt8) (l : List UInt8) (keep : List Int) : ∃ (S H T : List UInt8), ((lastsD f l).crash keep).read 0 3 = (S, 0) ∧ (((lastsD f l).crash keep).crash [1, 1, 1]).read 0 3 = (S, 0) ∧ S.length = 192 ∧
    S.take 64 = fullL f ∧ S.drop 128 = fullL f ∧ (S.drop 64).take 32 = H ∧ (S.drop 96).take 32 = T ∧ (∃ c, c ∈ f :: l ∧ H = (fullL c).take 32) ∧ (∃ c, c ∈ f :: l ∧ T = (fullL c).take 32) ∧ (((lastsD f l).crash keep).crash [1, 1, 1]).pend.length = 0 := by
  obtain ⟨x, hx, h1, h2, h3⟩ := torn_fold f l ((lastsD f l).pend.zip keep) (fullL f) (fun q hq => by
    have h := (List.of_mem_zip hq).1
    obtain ⟨c, hc, he⟩ := List.mem_map.1 h
    exact ⟨c, hc, he.symm⟩) ⟨fullL_len f, ⟨f, by simp, rfl⟩, ⟨f, by simp, full_half f⟩⟩
  have hfa : fallAll (lastsD f l).last (lastsD f l).pend keep = [fullL f, x, fullL f] := hx
  have hc : (lastsD f l).crash keep = { last := [fullL f, x, fullL f], now := [fullL f, x, fullL f], pend := [], lost := false, stops := false, left := 0 } := by
    unfold Dev.crash
    rw [hfa]
    rfl
  rw [hc]
  have hr : ∀ d : Dev, d.lost = false → d.now = [fullL f, x, fullL f] → d.read 0 3 = (fullL f ++ (x ++ fullL f), 0) := by
    intro d hl hn
    have := Dev.read_fit (d := d) (a := 0) (n := 3) hl (by rw [hn]; simp)
    rw [hn] at this
    simpa using this
  have hfl := fullL_len f
  refine ⟨fullL f ++ (x ++ fullL f), _, _, hr _ rfl rfl, hr _ rfl rfl, by simp [fullL_len, h1], ?_, ?_, rfl, rfl, ?_, ?_, rfl⟩
  · rw [List.take_append_of_le_length (by omega), List.take_of_length_le (by omega)]
  · rw [List.drop_append, List.drop_of_length_le (by omega), List.nil_append, hfl, List.drop_append, List.drop_of_length_le (by omega), List.nil_append, h1, List.drop_zero]
  · rw [List.drop_left' hfl, List.take_append_of_le_length (by omega)]
    exact h2
  · rw [List.drop_append, List.drop_of_length_le (by omega), List.nil_append, hfl, List.drop_append, h1, List.take_append_of_le_length (by rw [List.length_drop]; omega), List.take_of_length_le (by rw [List.length_drop]; omega)]
    exact h3
end Go.Proofs.Ytddehagceenbnaa
