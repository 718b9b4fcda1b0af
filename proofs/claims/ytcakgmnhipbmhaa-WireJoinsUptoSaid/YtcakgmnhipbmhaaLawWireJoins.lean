/- Numbers and texts that are written in one call are written as one by one: WireJoins answers true where what it reads is of bulk at most 1048576. -/
import Derived.Test.YtcakgmnhipbmhaaWireI
import Derived.Test.YtcakgmnhipbmhaaOpenB
import Derived.Test.YtcakgmnhipbmhaaWireG
namespace Go.Proofs.Ytcakgmnhipbmhaa.lawWireJoins
open Go.ChangeShapes Go.WideShapes Go.ChangeAt Go.RowKit

/-- Two writers apart, both newer than w. -/
structure Two (w wr : World) (A B : Nat) (la lb : List UInt8) (Fa Fb : List Nat) : Prop where
  a : OutAt wr A la Fa
  b : OutAt wr B lb Fb
  fa : ∀ x, x ∈ Fa → w.heap.size ≤ x
  fb : ∀ x, x ∈ Fb → w.heap.size ≤ x
  ab : ∀ x, x ∈ Fa → x ∉ Fb
  k : Keeps [] w wr

theorem Two.keep {w wr w' : World} {A B : Nat} {la lb : List UInt8} {Fa Fb : List Nat} (h : Two w wr A B la lb Fa Fb) (k : Keeps [] wr w') : Two w w' A B la lb Fa Fb :=
  ⟨h.a.keep k (by simp), h.b.keep k (by simp), h.fa, h.fb, h.ab, h.k.trans k (by simp)⟩

theorem Two.stepA {w wr w' : World} {A B : Nat} {la lb la' : List UInt8} {Fa Fb Fa' : List Nat} (h : Two w wr A B la lb Fa Fb) (ha : OutAt w' A la' Fa') (c : Chg Fa Fa' wr w') : Two w w' A B la' lb Fa' Fb := by
  have hab := c.apart h.b.lt (fun x hx hx' => h.ab x hx' hx)
  refine ⟨ha, h.b.keep c.keeps (fun x hx hx' => h.ab x hx' hx), fun x hx => ?_, h.fb, fun x hx hx' => hab x hx' hx, h.k.trans c.keeps (fun x hx => .inr (h.fa x hx))⟩
  rcases c.fresh x hx with h1 | h1
  · exact h.fa x h1
  · exact Nat.le_trans h.k.size h1

theorem Two.stepB {w wr w' : World} {A B : Nat} {la lb lb' : List UInt8} {Fa Fb Fb' : List Nat} (h : Two w wr A B la lb Fa Fb) (hb : OutAt w' B lb' Fb') (c : Chg Fb Fb' wr w') : Two w w' A B la lb' Fa Fb' := by
  have hab := c.apart h.a.lt h.ab
  refine ⟨h.a.keep c.keeps h.ab, hb, h.fa, fun x hx => ?_, hab, h.k.trans c.keeps (fun x hx => .inr (h.fb x hx))⟩
  rcases c.fresh x hx with h1 | h1
  · exact h.fb x h1
  · exact Nat.le_trans h.k.size h1

theorem vby_sum (l : List Nat) : (l.flatMap vby).length ≤ 9 * l.length := by
  induction l with
  | nil => simp
  | cons x r ih => have := vsz_bd x; simp only [List.flatMap_cons, List.length_append, vby_length, List.length_cons]; omega
theorem raws_len (m : List ByteArray) : (raws m).length = (m.map ByteArray.size).sum := by
  induction m with
  | nil => rfl
  | cons x r ih => unfold raws at *; simp [ih]
theorem txts_len (m : List ByteArray) : (txts m).length ≤ (m.map ByteArray.size).sum + 9 * m.length := by
  induction m with
  | nil => simp [txts]
  | cons x r ih =>
    have := vsz_bd x.size
    unfold txts at *
    simp only [List.flatMap_cons, List.length_append, vby_length, List.map_cons, List.sum_cons, List.length_cons, dlen]
    omega
theorem sum_take (m : List ByteArray) (k : Nat) : ((m.take k).map ByteArray.size).sum ≤ (m.map ByteArray.size).sum := by
  conv => rhs; rw [← List.take_append_drop k m]
  rw [List.map_append, List.sum_append]
  omega
theorem flat_step {α : Type} (f : α → List UInt8) {l : List α} {k : Nat} {x : α} (h : l[k]? = some x) : (l.take (k + 1)).flatMap f = (l.take k).flatMap f ++ f x := by
  rw [List.take_add_one, h]; simp

set_option maxHeartbeats 4000000 in
set_option maxRecDepth 100000 in
theorem walk (l : List Nat) (m : List ByteArray) (v u : Value) (Gl Gm : List Nat) (w : World) (hl : ∀ x, x ∈ l → x < 18446744073709551616) (hv : SlAt w v (l.map u64v) Gl) (hGl : ∀ k, k ∈ Gl → k < w.heap.size)
    (hu : SlAt w u (m.map Value.string) Gm) (hGm : ∀ k, k ∈ Gm → k < w.heap.size) (hl3 : l.length ≤ 30) (hm3 : m.length ≤ 30) (hsum : (m.map ByteArray.size).sum ≤ 1048576) :
    Calls Try.prog 4 #[v, u] w fun e w' => e = .returned (.bool true) ∧ Keeps [] w w' := by
  have hV := vby_sum l
  have hR := raws_len m
  have hT := txts_len m
  have Hl := Lib.hid hl
  have Hv := Lib.hid hv
  have Hu := Lib.hid hu
  have HGl := Lib.hid hGl
  have HGm := Lib.hid hGm
  have HR := Lib.hid hR
  obtain ⟨ad, cap, rfl, h2⟩ := hv
  obtain ⟨au, cau, rfl, g2⟩ := hu
  rw [List.length_map] at *
  have hl3' : (l.length : Int) ≤ 30 := by omega
  have hm3' : (m.length : Int) ≤ 30 := by omega
  clear hl hGl hGm hR
  go_enter Try.func4, Try.ntmps4
  have T0 : Two w ((w.alloc (.cells #[.slice none 0 0] 26)).alloc (.cells #[.slice none 0 0] 26)) w.heap.size (w.heap.size + 1) [] [] [w.heap.size] [w.heap.size + 1] :=
    ⟨(OutAt.new w).keep ((Keeps.refl [] _).alloc _) (by simp), OutAt.new' (by simp), by simp, by simp, one_apart (by omega), ((Keeps.refl [] w).alloc _).alloc _⟩
  have HT0 := Lib.hid T0
  clear T0
  go_wp2_with (go_at_call 11; (with_reducible refine (outVar_any w.heap.size [w.heap.size] [] l _ (by simp; omega) Hl.out HT0.out.a _ Gl (Hv.out.keep HT0.out.k (by simp)) (any_apart HGl.out (Nat.le_refl _)) (fun k hk => Nat.lt_of_lt_of_le (HGl.out k hk) HT0.out.k.size)).mono ?_); rintro e w1 ⟨rfl, Fa, ho1, hch1⟩)
  rw [List.nil_append] at ho1
  have T1 := HT0.out.stepA ho1 hch1
  have HT1 := Lib.hid T1
  clear ho1 hch1 T1 HT0
  go_loopw [7, 8] (fun nv iv wr => ∃ (k N : Nat) (Fb : List Nat), k ≤ l.length ∧ iv = .int .i64 k ∧ nv = .int .i64 N ∧ N ≤ 270 ∧ Hid (N = ((l.take k).flatMap vby).length) ∧ Two w wr w.heap.size (w.heap.size + 1) (l.flatMap vby) ((l.take k).flatMap vby) Fa Fb) (fun _ iv _ => l.length - (intOf iv).toNat)
  case atStart => exact ⟨0, 0, [w.heap.size + 1], Nat.zero_le _, rfl, rfl, by omega, rfl, HT1.out⟩
  case round =>
    obtain ⟨k, N, Fb, hk, rfl, rfl, hN, HN, hT2⟩ := hrel
    by_cases hlt : k < l.length
    · obtain ⟨x, hx⟩ : ∃ x, l[k]? = some x := ⟨l[k], by simp [hlt]⟩
      have h0 : l.map u64v ≠ [] := by intro h; simp at h; subst h; simp at hlt
      obtain ⟨b, off, had, hbG, hcs⟩ := h2 h0
      subst had
      have hc0 : w.cell? ⟨b, off + k, none⟩ = some (.int .u64 x) := hcs k _ (by rw [List.getElem?_map, hx]; rfl)
      have hcell : ∀ w', Keeps [] w w' → w'.cell? ⟨b, off + k, none⟩ = some (.int .u64 x) := fun w' hk => by rw [← hc0]; exact hk.cell (HGl.out b hbG) (by simp)
      have c0 := hcell _ hT2.k
      have hx1 := Hl.out x (List.mem_of_getElem? hx)
      have Hst := Lib.hid (flat_step vby hx)
      have hlen2 : ((l.take k).flatMap vby).length ≤ 270 := by rw [← HN.out]; exact hN
      have HT2 := Lib.hid hT2
      have Hcell := Lib.hid hcell
      have hvz := vsz_bd x
      have hNl : N + vsz x ≤ 270 := by
        have h1 := vby_sum (l.take (k + 1))
        rw [Hst.out, List.length_append, vby_length, ← HN.out, List.length_take] at h1
        omega
      have hw : IntKind.i64.wrap ((N : Int) + (vsz x : Int)) = ((N + vsz x : Nat) : Int) := by rw [IntWalk.i64_in _ ⟨by omega, by omega⟩]; omega
      generalize hZ : vsz x = Z at *
      have HZ := Lib.hid hZ
      have hsz : ∀ w, Calls Try.prog 13 #[.int .u64 x] w fun r w' => r = .returned (.int .i64 Z) ∧ w = w' := fun w => by rw [← HZ.out]; exact size_any x w (by omega)
      have Hsz := Lib.hid hsz
      clear hx h0 hbG hcs hc0 hcell hT2 h2 hZ hsz
      go_wp2_with fail
      refine (outVar_any (w.heap.size + 1) Fb ((l.take k).flatMap vby) [x] _ (by rw [List.length_singleton]; omega) (by simpa using hx1) (HT2.out.b.keep ((Keeps.refl [] _).alloc _) (by simp)) _ [wr.heap.size] (SlAt.lit' [u64v x] 22 (by simp) rfl) (one_any HT2.out.b.lt (Nat.le_refl _)) (one_lt (by simp))).mono ?_
      rintro e w2 ⟨rfl, Fb2, ho2, hch2⟩
      rw [show [x].flatMap vby = vby x by simp, ← Hst.out] at ho2
      have T3 := HT2.out.stepB ho2 hch2.alloc
      have d0 := Hcell.out _ T3.k
      have HT3 := Lib.hid T3
      clear ho2 hch2 T3
      go_wp2_with (go_at_call 13; (with_reducible refine (Hsz.out _).mono ?_); rintro e w3 ⟨rfl, rfl⟩)
      go_roundw
      case rel => exact ⟨k + 1, N + Z, Fb2, by omega, by go_num, by go_num, by omega, by rw [Hst.out, List.length_append, vby_length, HZ.out, ← HN.out]; rfl, HT3.out⟩
      case measure => simp [intOf]; omega
    · obtain rfl : k = l.length := by omega
      rw [List.take_length] at HN hT2
      have Hg2 := Lib.hid g2
      have HT2 := Lib.hid hT2
      have hLl : (l.flatMap vby ++ txts m).length ≤ 2000000 := by rw [List.length_append]; omega
      have hLm : (l.flatMap vby ++ txts m ++ raws m).length ≤ 3200000 := by rw [List.length_append, HR.out]; omega
      clear h2 g2 hT2 hlt
      have hdm : ∀ (F : List Nat), (∀ x, x ∈ F → w.heap.size ≤ x) → ∀ k, k ∈ Gm → k ∉ F := fun F hF k hk hk' => Nat.lt_irrefl _ (Nat.lt_of_lt_of_le (HGm.out k hk) (hF k hk'))
      have hgm : ∀ w', Keeps [] w w' → ∀ k, k ∈ Gm → k < w'.heap.size := fun w' h k hk => Nat.lt_of_lt_of_le (HGm.out k hk) h.size
      go_wp2_with fail
      refine (outText_any w.heap.size Fa (l.flatMap vby) m _ (by omega) (by omega) HT2.out.a _ Gm (Hu.out.keep HT2.out.k (by simp)) (hdm _ HT2.out.fa) (hgm _ HT2.out.k)).mono ?_
      rintro e w2 ⟨rfl, Fa2, ho2, hch2⟩
      have HT3 := Lib.hid (HT2.out.stepA ho2 hch2)
      go_wp2_with fail
      refine (outRaw_any w.heap.size Fa2 (l.flatMap vby ++ txts m) m _ (by omega) (by omega) HT3.out.a _ Gm (Hu.out.keep HT3.out.k (by simp)) (hdm _ HT3.out.fa) (hgm _ HT3.out.k)).mono ?_
      rintro e w3 ⟨rfl, Fa3, ho3, hch3⟩
      have HT4 := Lib.hid (HT3.out.stepA ho3 hch3)
      go_wp2_with fail
      clear HT2 HT3 ho2 hch2 ho3 hch3
      obtain ⟨wo, rfl⟩ : ∃ wo : World, wo = wr := ⟨_, rfl⟩
      obtain ⟨V, hV0⟩ : ∃ V, V = l.flatMap vby := ⟨_, rfl⟩
      rw [← hV0] at HT4 HN hLl hLm hV
      have HV := Lib.hid hV0
      clear hV0
      go_loopw [7, 9] (fun nv iv wr => ∃ (k M : Nat) (Fb : List Nat), k ≤ m.length ∧ iv = .int .i64 k ∧ nv = .int .i64 M ∧ M ≤ 270 + 3200000 ∧ Hid (M = V.length + (txts (m.take k)).length + (raws (m.take k)).length) ∧ Two w wr w.heap.size (w.heap.size + 1) (V ++ txts m ++ raws m) (V ++ txts (m.take k)) Fa3 Fb) (fun _ iv _ => m.length - (intOf iv).toNat)
      case atStart => exact ⟨0, N, Fb, Nat.zero_le _, rfl, rfl, by omega, by show N = _; rw [HN.out]; simp [txts, raws], by simpa [txts] using HT4.out⟩
      case round =>
        obtain ⟨k, M, Fc, hk, rfl, rfl, hM, HM, hT5⟩ := hrel
        by_cases hlt : k < m.length
        · obtain ⟨s, hs⟩ : ∃ s, m[k]? = some s := ⟨m[k], by simp [hlt]⟩
          have h0 : m.map Value.string ≠ [] := by intro h; simp at h; subst h; simp at hlt
          obtain ⟨b, off, had, hbG, hcs⟩ := Hg2.out h0
          subst had
          have hc0 : w.cell? ⟨b, off + k, none⟩ = some (.string s) := hcs k _ (by rw [List.getElem?_map, hs]; rfl)
          have hcell : ∀ w', Keeps [] w w' → w'.cell? ⟨b, off + k, none⟩ = some (.string s) := fun w' hk => by rw [← hc0]; exact hk.cell (HGm.out b hbG) (by simp)
          have c0 := hcell _ hT5.k
          have Hcell := Lib.hid hcell
          have HT5 := Lib.hid hT5
          clear h0 hbG hcs hc0 hcell hT5
          by_cases hs2 : (200 : Int) < (s.size : Int)
          · clear hs
            go_wp2_with (go_at_call 10; (with_reducible refine (awake_any _).mono ?_); rintro e w6 ⟨rfl, hk6⟩)
            go_ret
            exact ⟨rfl, HT5.out.k.trans hk6 (by simp)⟩
          · have hs3 : (s.size : Int) ≤ 200 := by omega
            have hst : txts (m.take (k + 1)) = txts (m.take k) ++ (vby s.size ++ s.data.toList) := flat_step _ hs
            have hsr : raws (m.take (k + 1)) = raws (m.take k) ++ s.data.toList := flat_step _ hs
            have htl := txts_len (m.take (k + 1))
            have hrl := raws_len (m.take (k + 1))
            have hsk := sum_take m (k + 1)
            rw [hst, List.length_append, List.length_append, vby_length, dlen, List.length_take] at htl
            rw [hsr, List.length_append, dlen] at hrl
            have hM0 := HM.out
            have hvz := vsz_bd s.size
            have hLc : (V ++ txts (m.take k)).length ≤ 2000000 := by rw [List.length_append]; omega
            have hone : txts [s] = vby s.size ++ s.data.toList := by simp [txts]
            have hM2 : M + vsz s.size + 2 * s.size = V.length + (txts (m.take (k + 1))).length + (raws (m.take (k + 1))).length := by
              rw [hst, hsr, List.length_append, List.length_append, List.length_append, vby_length, dlen]; omega
            have hM3 : M + vsz s.size + 2 * s.size ≤ 270 + 3200000 := by omega
            have hw1 : IntKind.u64.wrap (s.size : Int) = s.size := IntWalk.u64_in _ ⟨by omega, by omega⟩
            have hw2 : IntKind.i64.wrap ((M : Int) + (vsz s.size : Int)) = ((M + vsz s.size : Nat) : Int) := by rw [IntWalk.i64_in _ ⟨by omega, by omega⟩]; omega
            have hw3 : IntKind.i64.wrap (2 * (s.size : Int)) = ((2 * s.size : Nat) : Int) := by rw [IntWalk.i64_in _ ⟨by omega, by omega⟩]; omega
            have hw4 : IntKind.i64.wrap (((M + vsz s.size : Nat) : Int) + ((2 * s.size : Nat) : Int)) = ((M + vsz s.size + 2 * s.size : Nat) : Int) := by rw [IntWalk.i64_in _ ⟨by omega, by omega⟩]; omega
            have hsz : ∀ w, Calls Try.prog 13 #[.int .u64 s.size] w fun r w' => r = .returned (.int .i64 (vsz s.size)) ∧ w = w' := fun w => size_any s.size w (by omega)
            have hlone : (V ++ txts (m.take k) ++ txts [s]).length ≤ 900000000 := by rw [List.length_append] at hLc; rw [hone]; simp only [List.length_append, vby_length, dlen]; omega
            have Hst := Lib.hid hst
            have Hone := Lib.hid hone
            have HM2 := Lib.hid hM2
            generalize vsz s.size = Z at *
            generalize hQ : 2 * s.size = Q at *
            generalize hY : M + Z = Y at *
            generalize hX : Y + Q = X at *
            have Hsz := Lib.hid hsz
            clear hs hst hsr htl hrl hsk hM0 hvz hone hM2 hsz hQ hY hX HM
            go_wp2_with fail
            refine (outText_any (w.heap.size + 1) Fc (V ++ txts (m.take k)) [s] _ hlone (by simp) (HT5.out.b.keep ((Keeps.refl [] _).alloc _) (by simp)) _ [wr.heap.size] (SlAt.lit' [Value.string s] 9 (by simp) rfl) (one_any HT5.out.b.lt (Nat.le_refl _)) (one_lt (by simp))).mono ?_
            rintro e w2 ⟨rfl, Fd, ho2, hch2⟩
            rw [List.append_assoc, Hone.out, ← Hst.out] at ho2
            have HT6 := Lib.hid (HT5.out.stepB ho2 hch2.alloc)
            have d0 := Hcell.out _ HT6.out.k
            clear ho2 hch2
            go_wp2_with fail
            go_quiet ((go_at_call 13; exact Calls.quiet_of_same (Calls_flip (Hsz.out _))))
            go_wp2_with fail
            go_roundw
            case rel => exact ⟨k + 1, X, Fd, by omega, by go_num, by go_num, by omega, HM2.out, HT6.out.keep ((Keeps.refl [] _).drewN _)⟩
            case measure => simp [intOf]; omega
        · obtain rfl : k = m.length := by omega
          rw [List.take_length] at HM hT5
          have HT5 := Lib.hid hT5
          clear hT5 hlt
          go_wp2_with fail
          obtain ⟨wp, rfl⟩ : ∃ wp : World, wp = wr := ⟨_, rfl⟩
          go_loopw [10] (fun iv wr => ∃ (k : Nat) (Fb : List Nat), k ≤ m.length ∧ iv = .int .i64 k ∧ Two w wr w.heap.size (w.heap.size + 1) (V ++ txts m ++ raws m) (V ++ txts m ++ raws (m.take k)) Fa3 Fb) (fun iv _ => m.length - (intOf iv).toNat)
          case atStart => exact ⟨0, Fc, Nat.zero_le _, rfl, by simpa [raws] using HT5.out⟩
          case round =>
            obtain ⟨k, Fe, hk, rfl, hT7⟩ := hrel
            by_cases hlt : k < m.length
            · obtain ⟨s, hs⟩ : ∃ s, m[k]? = some s := ⟨m[k], by simp [hlt]⟩
              have h0 : m.map Value.string ≠ [] := by intro h; simp at h; subst h; simp at hlt
              obtain ⟨b, off, had, hbG, hcs⟩ := Hg2.out h0
              subst had
              have hc0 : w.cell? ⟨b, off + k, none⟩ = some (.string s) := hcs k _ (by rw [List.getElem?_map, hs]; rfl)
              have hcell : ∀ w', Keeps [] w w' → w'.cell? ⟨b, off + k, none⟩ = some (.string s) := fun w' hk => by rw [← hc0]; exact hk.cell (HGm.out b hbG) (by simp)
              have c0 := hcell _ hT7.k
              have hsr : raws (m.take (k + 1)) = raws (m.take k) ++ s.data.toList := flat_step _ hs
              have hrl := raws_len (m.take (k + 1))
              have hsk := sum_take m (k + 1)
              rw [hsr, List.length_append, dlen] at hrl
              have hlone : (V ++ txts m ++ raws (m.take k) ++ raws [s]).length ≤ 1000000000 := by rw [List.length_append] at hLl; rw [raws_one]; simp only [List.length_append, dlen]; omega
              have Hsr := Lib.hid hsr
              have HT8 := Lib.hid hT7
              clear h0 hbG hcs hc0 hcell hT7 hs hsr hrl hsk
              go_wp2_with fail
              refine (outRaw_any (w.heap.size + 1) Fe (V ++ txts m ++ raws (m.take k)) [s] _ hlone (by simp) (HT8.out.b.keep ((Keeps.refl [] _).alloc _) (by simp)) _ [wr.heap.size] (SlAt.lit' [Value.string s] 9 (by simp) rfl) (one_any HT8.out.b.lt (Nat.le_refl _)) (one_lt (by simp))).mono ?_
              rintro e w2 ⟨rfl, Fd, ho2, hch2⟩
              rw [raws_one, List.append_assoc, ← Hsr.out] at ho2
              have HT9 := Lib.hid (HT8.out.stepB ho2 hch2.alloc)
              clear ho2 hch2
              go_wp2_with fail
              go_roundw
              case rel => exact ⟨k + 1, Fd, by omega, by go_num, HT9.out⟩
              case measure => simp [intOf]; omega
            · obtain rfl : k = m.length := by omega
              rw [List.take_length] at hT7
              have hsa := outString_any _ _ _ _ hT7.a
              have hsb := outString_any _ _ _ _ hT7.b
              have hsl : (str (V ++ txts m ++ raws m)).size = M := by rw [str_size, List.length_append, List.length_append, HM.out]
              generalize str (V ++ txts m ++ raws m) = S at *
              have hsm : ((S.size : Int) == (M : Int)) = true := by rw [hsl]; simp
              have hss : (S.toList == S.toList) = true := by simp
              have Hsa := Lib.hid hsa
              have Hsb := Lib.hid hsb
              have HT8 := Lib.hid hT7
              clear hsa hsb hT7 hsl
              go_wp2_with (first | (go_at_call 12; (with_reducible first | (refine Hsa.out.mono ?_) | (refine Hsb.out.mono ?_)); rintro e w5 ⟨rfl, rfl⟩) | (go_at_call 10; (with_reducible refine (awake_any _).mono ?_); rintro e w6 ⟨rfl, hk6⟩))
              go_ret
              exact ⟨rfl, HT8.out.k.trans hk6 (by simp)⟩

theorem walk_any (l : List Nat) (m : List ByteArray) (v u : Value) (Gl Gm : List Nat) (w : World) (hl : ∀ x, x ∈ l → x < 18446744073709551616) (hv : SlAt w v (l.map u64v) Gl) (hGl : ∀ k, k ∈ Gl → k < w.heap.size)
    (hu : SlAt w u (m.map Value.string) Gm) (hGm : ∀ k, k ∈ Gm → k < w.heap.size) (hsum : (m.map ByteArray.size).sum ≤ 1048576) (hll : l.length ≤ 9223372036854775807) (hml : m.length ≤ 9223372036854775807) :
    Calls Try.prog 4 #[v, u] w fun e w' => e = .returned (.bool true) ∧ Keeps [] w w' := by
  by_cases hl3 : l.length ≤ 30
  · by_cases hm3 : m.length ≤ 30
    · exact walk l m v u Gl Gm w hl hv hGl hu hGm hl3 hm3 hsum
    · obtain ⟨ad, cap, rfl, h2⟩ := hv
      obtain ⟨au, cau, rfl, g2⟩ := hu
      rw [List.length_map] at *
      have h1 : (l.length : Int) ≤ 30 := by omega
      have h3 : (30 : Int) < (m.length : Int) := by omega
      clear h2 g2 hl
      go_enter Try.func4, Try.ntmps4
      go_wp2_with (go_at_call 10; (with_reducible refine (awake_any _).mono ?_); rintro e w6 ⟨rfl, hk6⟩)
      go_ret
      exact ⟨rfl, hk6⟩
  · obtain ⟨ad, cap, rfl, h2⟩ := hv
    obtain ⟨au, cau, rfl, g2⟩ := hu
    rw [List.length_map] at *
    have h1 : (30 : Int) < (l.length : Int) := by omega
    clear h2 g2 hl
    go_enter Try.func4, Try.ntmps4
    go_wp2_with (go_at_call 10; (with_reducible refine (awake_any _).mono ?_); rintro e w6 ⟨rfl, hk6⟩)
    go_ret
    exact ⟨rfl, hk6⟩
-- ROWEND
set_option maxRecDepth 100000 in
theorem lifted (os : Os) (started : os.Started) (H : Type) (enc : TypeId × Value → H) (F : Stop.Interp) :
    ReturnsInHanded {} Try.checked os 4 .any ((Rows.OpenSpec.upto Rows.wireJoinsSpec).pre6 enc Try.prog Try.f4 Rows.wireJoinsUptoRow.domain false) (((Rows.OpenSpec.upto Rows.wireJoinsSpec).at F).post enc Try.prog Try.f4 false true false false) := by
  refine returnsInHanded_of_cond (C := Try.checked) (s := Rows.OpenSpec.upto Rows.wireJoinsSpec) (k := Rows.uptoSmall) rfl Try.own started (by kernel_rfl) Try.func4
    (OpenSpec.witness (enc := enc) (C := Try.checked) (s := Rows.OpenSpec.upto Rows.wireJoinsSpec) (k := Rows.uptoSmall) rfl false ⟨#[], #[.slice none 0 0, .slice none 0 0], []⟩ 8 (by kernel_rfl) (by kernel_rfl) (by kernel_rfl)
      (x := ([.nil, .nil], [], [])) (by kernel_rfl) rfl (by kernel_rfl)) ?_
  intro W base args ds gs before hval0 hW _ hbulk _
  have hval : ∀ (j : Nat) t v, Try.f4.params[j]? = some t → args[j]? = some v → Value.okWide Try.prog W .any base t v := hval0
  have hW' := hW
  obtain ⟨p, q, hA0, hV, rfl, hfz, hnd⟩ := hW
  have hA : DataW.TrodAll enc Try.prog W 0 (fun _ => true) true Try.f4.params.toList args.toList ds p := hA0
  rw [Try.params4] at hA hval
  obtain ⟨v0, vs0, d0, ds0, p0, q0, hargs, rfl, rfl, h0, r0⟩ := trodAll_cons hA
  obtain ⟨v1, vs1, d1, ds1, p1, q1, rfl, rfl, rfl, h1, r1⟩ := trodAll_cons r0
  obtain ⟨rfl, rfl, rfl⟩ := trodAll_nil r1
  obtain rfl : args = #[v0, v1] := by cases args; simp_all
  obtain ⟨rfl, rfl⟩ := trodVars_none hV
  have hbk := hbulk
  obtain ⟨l, Gl, hl, gl, bl, ll⟩ := open_rows (fun a => [u64v a]) (fun a => a < 18446744073709551616) 1 (by kernel_rfl) (by decide) Try.underlying37 (hval 0 37 v0 rfl rfl) (fun _ _ _ h => elem_u64 Try.underlying22 h) h0
  obtain ⟨m, Gm, hm, gm, bm, lm, sm⟩ := open_rowsB (fun s => [Value.string s]) (fun _ => True) 1 (by kernel_rfl) (by decide) ByteArray.size Rows.uptoBulk bulk_slice Try.underlying38 (hval 1 38 v1 rfl rfl) (fun _ _ _ h => (by obtain ⟨s, h1, h2, h3⟩ := elem_stringB Try.underlying9 h; exact ⟨s, h1, trivial, h3⟩)) h1
  refine (walk_any l m v0 v1 Gl Gm W gl hl.slAt bl hm.slAt bm (by simp [Rows.uptoSmall, Rows.uptoBulkAll] at hbk; omega) ll lm).mono fun e W' ⟨he, hk⟩ => ?_
  subst he
  exact ⟨_, rfl, law_end Try.laidOut (by kernel_rfl) rfl rfl Try.underlying4 hW' rfl hk⟩

theorem proved : Rows.WireJoinsUptoSaid :=
  OpenClaim.holds_of_cond 4 Try.f4 rfl rfl rfl rfl rfl rfl rfl ⟨rfl, rfl, rfl, rfl, rfl⟩ rfl rfl rfl rfl rfl (by kernel_rfl) Try.func4 (by kernel_rfl)
    (of_decide_eq_true (by kernel_rfl)) (by unfold Func.isWrapper; first | (rw [if_pos (by decide +kernel)]; kernel_rfl) | (rw [if_neg (by decide +kernel)]; exact ⟨rfl, rfl⟩))
    (fun os started H enc _ F => lifted os started H enc F)
end Go.Proofs.Ytcakgmnhipbmhaa.lawWireJoins
