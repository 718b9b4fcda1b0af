/- Layer 4, the device: its calls, all ways, and what they keep. -/
import Derived.Test.YtddehagceenbnaaSsdO
namespace Go.Proofs.Ytddehagceenbnaa
open Go.RowKit

/-- The device d lies at block b, is one, and has at most so many pending writes. -/
structure Has (w : World) (b : Nat) (d : Dev) (F : List Nat) (B : Nat) : Prop where
  at' : DevAt w b d F
  ok : d.ok
  few : d.pend.length ≤ B

theorem Has.keep {w w' : World} {b : Nat} {d : Dev} {F G : List Nat} {B : Nat} (h : Has w b d F B) (k : Keeps G w w') (hd : ∀ x, x ∈ F → x ∉ G) : Has w' b d F B := ⟨h.at'.keep k hd, h.ok, h.few⟩
theorem Has.kept {w w' : World} {b : Nat} {d : Dev} {F : List Nat} {B : Nat} (h : Has w b d F B) (k : Keeps [] w w') : Has w' b d F B := h.keep k (by simp)
theorem Has.apart {w w' : World} {b : Nat} {d : Dev} {F G G' : List Nat} {B : Nat} (h : Has w b d F B) (k : Chg G G' w w') (hd : ∀ x, x ∈ F → x ∉ G) : Has w' b d F B := h.keep k.keeps hd
theorem Has.lt {w : World} {b : Nat} {d : Dev} {F : List Nat} {B : Nat} (h : Has w b d F B) : ∀ k, k ∈ F → k < w.heap.size := h.at'.lt
theorem Has.le {w : World} {b : Nat} {d : Dev} {F : List Nat} {B B' : Nat} (h : Has w b d F B) (hb : B ≤ B') : Has w b d F B' := ⟨h.at', h.ok, Nat.le_trans h.few hb⟩

/-- From w0 to w nothing that was is turned, and F is new. -/
structure New (w0 w : World) (F : List Nat) : Prop where
  keeps : Keeps [] w0 w
  fresh : ∀ x, x ∈ F → w0.heap.size ≤ x
theorem New.refl (w : World) : New w w [] := ⟨Keeps.refl _ _, by simp⟩
theorem New.step {w0 w w' : World} {F : List Nat} (h : New w0 w F) (k : Keeps [] w w') : New w0 w' F := ⟨h.keeps.trans k (by simp), h.fresh⟩
theorem New.chg {w0 w w' : World} {F F' : List Nat} (h : New w0 w F) (c : Chg F F' w w') : New w0 w' F' :=
  ⟨h.keeps.trans c.keeps (fun x hx => .inr (h.fresh x hx)), fun x hx => (c.fresh x hx).elim (h.fresh x) (fun hb => Nat.le_trans h.keeps.size hb)⟩
theorem New.other {w0 w w' : World} {F F' G : List Nat} (h : New w0 w G) (n : New w0 w F) (c : Chg F F' w w') : New w0 w' G := ⟨(n.chg c).keeps, h.fresh⟩
theorem New.add {w0 w w' : World} {F G : List Nat} (h : New w0 w F) (k : Keeps [] w w') (f : ∀ x, x ∈ G → w.heap.size ≤ x) : New w0 w' G := ⟨(h.step k).keeps, fun x hx => Nat.le_trans h.keeps.size (f x hx)⟩

theorem Dev.write_ok {d : Dev} (h : d.ok) (a : Int) (s : List UInt8) : (d.write a s).1.ok ∧ (d.write a s).1.pend.length ≤ d.pend.length + s.length / 64 := by
  unfold Dev.write
  split
  · exact ⟨h, by show d.pend.length ≤ _; omega⟩
  · rename_i hd
    obtain ⟨h1, h2, h3, h4⟩ := Dev.tick_ok h (by simpa using hd)
    have h5 : d.tick.pend.length ≤ d.pend.length + s.length / 64 := by rw [h4]; omega
    split
    · exact ⟨h1, h5⟩
    · rename_i ha
      split
      · exact ⟨h1, h5⟩
      · split
        · exact ⟨h1, h5⟩
        · rename_i hs hin
          have hin' : insideE d.now.length a ((s.length / 64 : Nat) : Int) = 0 := by
            cases Decidable.em (insideE d.now.length a ((s.length / 64 : Nat) : Int) = 0) with
            | inl h => exact h
            | inr h => exact absurd h hin
          have : a.toNat + s.length / 64 ≤ d.tick.now.length := by
            rw [h2]
            unfold insideE at hin'
            split at hin'
            · cases hin'
            · split at hin'
              · cases hin'
              · omega
          exact ⟨Dev.ok.putN h1 _ this (by omega), by have := (d.tick.putN_len a.toNat s (s.length / 64)).2.2.1; rw [this, h4]; omega⟩

theorem Dev.barrier_ok {d : Dev} (h : d.ok) : d.barrier.1.ok ∧ d.barrier.1.pend.length ≤ d.pend.length := by
  unfold Dev.barrier
  split
  · exact ⟨h, Nat.le_refl _⟩
  · rename_i hd
    obtain ⟨h1, h2, h3, h4⟩ := Dev.tick_ok h (by simpa using hd)
    obtain ⟨h5, h6⟩ := Dev.settle_ok d.pend d.last _ rfl h.l64 h.p64
    refine ⟨⟨?_, ?_, ?_, h6, ?_, by simp, h1.stp, h1.left0, h1.left1⟩, Nat.zero_le _⟩
    · show d.tick.now.length = (Dev.settle d.last d.pend).length
      rw [h2, h5]; exact h.same
    · show 1 ≤ (Dev.settle d.last d.pend).length
      rw [h5]; exact h.pos
    · show (Dev.settle d.last d.pend).length ≤ _
      rw [h5]; exact h.few
    · show ∀ s, s ∈ d.tick.now → _
      rw [h2]; exact h.n64

theorem Dev.crash_ok {d : Dev} (h : d.ok) (keep : List Int) : (d.crash keep).ok ∧ (d.crash keep).pend.length = 0 := by
  obtain ⟨h5, h6⟩ := fall_ok (d.pend.zip keep) d.last _ rfl h.l64 (fun q hq => h.p64 q.1 (List.of_mem_zip hq).1)
  refine ⟨⟨rfl, ?_, ?_, h6, h6, by simp [Dev.crash], by simp [Dev.crash], h.left0, h.left1⟩, rfl⟩
  · show 1 ≤ (fallAll d.last d.pend keep).length
    have : (fallAll d.last d.pend keep).length = d.last.length := h5
    rw [this]; exact h.pos
  · show (fallAll d.last d.pend keep).length ≤ _
    have : (fallAll d.last d.pend keep).length = d.last.length := h5
    rw [this]; exact h.few

def Dev.stop (d : Dev) (n : Int) : Dev := { d with stops := decide (0 ≤ n), left := n }
def Dev.lose (d : Dev) : Dev := { d with lost := true }
theorem Dev.stop_ok {d : Dev} (h : d.ok) {n : Int} (h0 : -9223372036854775808 ≤ n) (h1 : n ≤ 9223372036854775807) : (d.stop n).ok :=
  ⟨h.same, h.pos, h.few, h.l64, h.n64, h.p64, fun hs => by simpa [Dev.stop] using hs, h0, h1⟩
theorem Dev.lose_ok {d : Dev} (h : d.ok) : d.lose.ok := ⟨h.same, h.pos, h.few, h.l64, h.n64, h.p64, h.stp, h.left0, h.left1⟩
theorem Dev.new_ok {n : Nat} (h1 : 1 ≤ n) (h2 : n ≤ 65536) : (Dev.new n).ok :=
  ⟨by simp [Dev.new], by simpa [Dev.new] using h1, by simpa [Dev.new] using h2, fun s hs => by rw [(List.mem_replicate.1 hs).2]; simp, fun s hs => by rw [(List.mem_replicate.1 hs).2]; simp, by simp [Dev.new], by simp [Dev.new], by simp [Dev.new], by simp [Dev.new]⟩

section
variable {w : World} {b : Nat} {d : Dev} {F : List Nat} {B : Nat}

theorem hasNew (n : Nat) (i : Int) (hi : i = n) (w : World) (h1 : 1 ≤ n) (h2 : n ≤ 65536) :
    Calls Try.prog 10 #[.int .i64 i] w fun e w' => ∃ b F, e = .returned (.tuple #[.pointer (some ⟨b, 0, none⟩), .int .i64 0]) ∧ Has w' b (Dev.new n) F 0 ∧ Keeps [] w w' ∧ ∀ x, x ∈ F → w.heap.size ≤ x :=
  hi ▸ (new_in n w h1 h2).mono fun _ _ ⟨b, F, he, hd, hk, hf⟩ => ⟨b, F, he, ⟨hd, Dev.new_ok h1 h2, Nat.le_refl _⟩, hk, hf⟩

theorem hasWrite (h : Has w b d F B) (hB : B ≤ 1000000000) (a : Int) (s : ByteArray) (hs : s.size ≤ 140737488351232) (ha : a ≤ 9223372036854775807) :
    Calls Try.prog 12 #[.pointer (some ⟨b, 0, none⟩), .int .i64 a, .string s] w fun e w' =>
      e = .returned (.int .i64 (d.write a s.data.toList).2) ∧ ∃ F', Has w' b (d.write a s.data.toList).1 F' (B + s.size / 64) ∧ Chg F F' w w' :=
  (write_any b d F w h.at' h.ok a s (Nat.le_trans h.few hB) hs ha).mono fun _ _ ⟨he, F', hd, hc⟩ => ⟨he, F', ⟨hd, (Dev.write_ok h.ok a _).1, by have h1 := (Dev.write_ok h.ok a s.data.toList).2; have h2 := h.few; rw [dlen] at h1; omega⟩, hc⟩

theorem hasBarrier (h : Has w b d F B) (hB : B ≤ 1000000000) :
    Calls Try.prog 14 #[.pointer (some ⟨b, 0, none⟩)] w fun e w' =>
      e = .returned (.int .i64 d.barrier.2) ∧ ∃ F', Has w' b d.barrier.1 F' B ∧ Chg F F' w w' := by
  have hok := Dev.barrier_ok h.ok
  have hfew := h.few
  cases hdd : d.dead
  · have hb : d.barrier = ({ d.tick with last := Dev.settle d.last d.pend, pend := [] }, 0) := by unfold Dev.barrier; rw [hdd]; rfl
    rw [hb] at hok ⊢
    exact (barrier_in b d F w h.at' h.ok (Nat.le_trans h.few hB) hdd).mono fun _ _ ⟨he, F', hd, hc⟩ => ⟨he, F', ⟨hd, hok.1, Nat.zero_le _⟩, hc⟩
  · have hb : d.barrier = (d, 17) := by unfold Dev.barrier; rw [hdd]; rfl
    rw [hb]
    have hre := ready_any b d F w h.at' h.ok
    rw [hdd] at hre
    simp only [if_true] at hre
    have Hre := Lib.hid hre
    have HdF := Lib.hid (fun w' => h.at'.chg (w' := w'))
    have Hh := Lib.hid h
    clear hre h hdd hok hb
    go_enter Try.func14, Try.ntmps14
    go_wp2_with (go_at_call 27; (with_reducible refine Hre.out.mono ?_); rintro e w1 ⟨rfl, hd1, hk1⟩)
    go_ret
    exact ⟨rfl, F, ⟨hd1, Hh.out.ok, Hh.out.few⟩, HdF.out _ hk1⟩

theorem hasCrash (h : Has w b d F B) (hB : B ≤ 1000000000) (kv : Value) (keep : List Int) (G : List Nat) (hkv : SlAt w kv (keep.map (Value.int .i64)) G) (hG : ∀ k, k ∈ G → k < w.heap.size) (hGF : ∀ k, k ∈ G → k ∉ F) :
    Calls Try.prog 16 #[.pointer (some ⟨b, 0, none⟩), kv] w fun e w' => e = .returned (.tuple #[]) ∧ ∃ F', Has w' b (d.crash keep) F' 0 ∧ Chg F F' w w' :=
  (crash_any b d F w h.at' h.ok (Nat.le_trans h.few hB) kv keep G hkv hG hGF).mono fun _ _ ⟨he, F', hd, hc⟩ => ⟨he, F', ⟨hd, (Dev.crash_ok h.ok keep).1, by rw [(Dev.crash_ok h.ok keep).2]; exact Nat.le_refl _⟩, hc⟩

theorem hasStop (h : Has w b d F B) (n : Int) (h0 : -9223372036854775808 ≤ n) (h1 : n ≤ 9223372036854775807) :
    Calls Try.prog 19 #[.pointer (some ⟨b, 0, none⟩), .int .i64 n] w fun e w' => e = .returned (.tuple #[]) ∧ Has w' b (d.stop n) F B ∧ Chg F F w w' :=
  (stop_any b d F w h.at' n).mono fun _ _ ⟨he, hd, hk⟩ => ⟨he, ⟨hd, Dev.stop_ok h.ok h0 h1, h.few⟩, h.at'.chg hk⟩

theorem hasLose (h : Has w b d F B) :
    Calls Try.prog 31 #[.pointer (some ⟨b, 0, none⟩)] w fun e w' => e = .returned (.tuple #[]) ∧ Has w' b d.lose F B ∧ Chg F F w w' :=
  (lose_any b d F w h.at').mono fun _ _ ⟨he, hd, hk⟩ => ⟨he, ⟨hd, Dev.lose_ok h.ok, h.few⟩, h.at'.chg hk⟩

theorem hasRead (h : Has w b d F B) (a n : Int) (ha : a ≤ 9223372036854775807) :
    Calls Try.prog 17 #[.pointer (some ⟨b, 0, none⟩), .int .i64 a, .int .i64 n] w fun e w' => e = .returned (.tuple #[.string (str (d.read a n).1), .int .i64 (d.read a n).2]) ∧ Keeps [] w w' :=
  read_any b d F w h.at' h.ok a n ha

theorem hasCopy (h : Has w b d F B) (hB : B ≤ 1000000000) :
    Calls Try.prog 24 #[.pointer (some ⟨b, 0, none⟩)] w fun e w' => ∃ c F', e = .returned (.pointer (some ⟨c, 0, none⟩)) ∧ Has w' c d F' B ∧ Keeps [] w w' ∧ ∀ x, x ∈ F' → w.heap.size ≤ x :=
  (copy_any b d F w h.at' h.ok (Nat.le_trans h.few hB)).mono fun _ _ ⟨c, F', he, hd, hk, hf⟩ => ⟨c, F', he, ⟨hd, h.ok, h.few⟩, hk, hf⟩
end

theorem SlAt.nil (w : World) (G : List Nat) : SlAt w (.slice none 0 0) [] G := ⟨none, 0, rfl, fun h => absurd rfl h⟩

/-- A sector of one byte. -/
def fullL (c : UInt8) : List UInt8 := List.replicate 64 c

theorem fullL_len (c : UInt8) : (fullL c).length = 64 := by simp [fullL]
theorem full_take (c : UInt8) (n : Nat) : (str (fullL c)).extract 0 n = str ((fullL c).take n) := by rw [str_extract, str_data, List.drop_zero, Nat.sub_zero]
theorem full_drop (c : UInt8) (n : Nat) : (str (fullL c)).extract n 64 = str ((fullL c).drop n) := by
  rw [str_extract, str_data, List.take_of_length_le (by rw [List.length_drop, fullL_len]; omega)]

set_option maxHeartbeats 1000000 in
theorem full_any (c : UInt8) (w : World) : Calls Try.prog 13 #[.int .u8 c.toNat] w fun e w' => e = .returned (.string (str (fullL c))) ∧ Keeps [] w w' := by
  generalize hC : c.toNat = C
  have HC := Lib.hid hC
  clear hC
  go_enter Try.func13, Try.ntmps13
  go_wp2
  go_loopw [3, 4] (fun ov iv wr => ∃ k : Nat, k ≤ 64 ∧ iv = .int .i64 k ∧ wr.ownsRow 0 5 1 ov k ((List.replicate k c).map u8v) ∧ (∀ x, x ∈ ov.ownBlock.toList → w.heap.size ≤ x) ∧ Keeps [] w wr) (fun _ iv _ => 64 - (intOf iv).toNat)
  case atStart => exact ⟨0, by omega, rfl, World.ownsRow_nil _ _ _ _, by simp [Value.ownBlock], Keeps.refl _ _⟩
  case round =>
    obtain ⟨k, hk, rfl, hown, hfr, hkk⟩ := hrel
    by_cases hlt : k < 64
    · obtain ⟨ad, cap, hv⟩ := ownsRow_shape hown
      subst hv
      have Hown := Lib.hid hown
      clear hown
      go_wp2_with (at_builtin; refine wpList_app1 tyBytes rfl (.tmp 9) (.tmp 11) rfl _ _ _ rfl rfl Hown.out rfl ?c1 ?c2 ?c3 ?c4)
      case c1 => rfl
      case c2 => omega
      case c3 => unfold maxLen; omega
      case c4 =>
      intro g' cap' w' hown' hc'
      have hown2 : w'.ownsRow 0 5 1 (.slice (some ⟨g', 0, none⟩) (k + 1) cap') (k + 1) ((List.replicate (k + 1) c).map u8v) := by
        rw [List.replicate_succ', List.map_append]
        have e : ([c].map u8v) = #[Value.int .u8 (C : Int)].toList := by rw [← HC.out]; rfl
        rw [e, List.map_replicate]
        exact hown'
      have Hown2 := Lib.hid hown2
      have Hc := Lib.hid hc'
      clear hown' hown2 hc'
      go_wp2
      go_roundw
      case rel => exact ⟨k + 1, by omega, by go_num, Hown2.out, fun x hx => (Hc.out.fresh x hx).elim (hfr x) (fun h => Nat.le_trans hkk.size h), hkk.trans Hc.out.keeps (fun x hx => .inr (hfr x hx))⟩
      case measure => simp [intOf]; omega
    · obtain rfl : k = 64 := by omega
      have hcv := own_string (P := Try.prog) Try.underlying22 Try.underlying5 Try.underlying9 hown
      have Hcv := Lib.hid hown
      clear hown
      go_wp2
      go_ret
      exact ⟨rfl, hkk⟩
end Go.Proofs.Ytddehagceenbnaa
