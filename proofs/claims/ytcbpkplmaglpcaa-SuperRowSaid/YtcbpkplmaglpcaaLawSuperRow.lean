/- Of a row of Nexts, each written into its slot, Pick answers the last one: SuperRow answers true at all inputs; without conditions. -/
import Derived.Test.YtcbpkplmaglpcaaRowA
import Derived.Test.YtcbpkplmaglpcaaSupW
import Derived.Test.YtcbpkplmaglpcaaSupRowP
import Derived.Test.YtcbpkplmaglpcaaOpenP
namespace Go.Proofs.Ytcbpkplmaglpcaa.lawSuperRow
open Go.ChangeShapes Go.WideShapes Go.ChangeAt Go.RowKit
open Go.ChangeMaps (open_string shut_string)

set_option maxHeartbeats 8000000 in
set_option maxRecDepth 100000 in
theorem walk_main (s : Sup) (hg : s.good) (hc : s.check = 0) (l : List (Int × Int)) (v : Value) (G : List Nat) (W : World) (hv : SlRows W v pairv 2 l G) (hl : l.length ≤ 20) (hgl : ∀ p, p ∈ l → goodPair p) :
    Calls Try.prog 8 #[s.agg, v] W fun e w' => e = .returned (.bool true) ∧ Keeps [] W w' := by
  have Hv := Lib.hid hv
  obtain ⟨ad, cap, rfl, _⟩ := hv
  have C2 := Lib.hid (fun w => refCheck_any s hg w)
  have Pl := Lib.hid (fun w => plain_any s w)
  have En := Lib.hid (fun w => encode_any s hg w)
  have he : s.encode = (s.sector, 0) := if_pos hc
  rw [he] at En
  rw [hc] at C2
  have hs0 := (check_le s hc).2.1.1
  have HS := Lib.hid (heap_at (w := W) (o := .cells #[.int .u64 s.key, .int .i64 s.epoch, .int .i64 s.serial, .int .i64 s.size, .int .i64 s.tail, .int .i64 s.number] 25 (0, 0)) rfl)
  have ht : s.serial.tmod 2 = s.serial % 2 := Int.tmod_eq_emod_of_nonneg hs0
  have Hgl := Lib.hid hgl
  have hli : (l.length : Int) ≤ 20 := by omega
  have hstr : ByteArray.mk #[] = str [] := rfl
  clear he hgl
  have hsv : ∀ x : Sup, x.agg = .agg #[.int .u64 x.key, .int .i64 x.epoch, .int .i64 x.serial, .int .i64 x.size, .int .i64 x.tail, .int .i64 x.number] := fun _ => rfl
  rw [hsv] at C2 Pl En ⊢
  obtain ⟨q, hq2, hq⟩ : ∃ q : Nat, q < 2 ∧ s.serial % 2 = (q : Int) := ⟨(s.serial % 2).toNat, by omega, by omega⟩
  have Hso := Lib.hid (slots_first hq)
  rw [hq] at ht
  have hqi : (q : Int) < 2 := by omega
  have HQ := Lib.hid hq2
  have zq : ∀ (w : World) (k : Nat), k = w.heap.size → (w.alloc (.cells #[.string (str []), .string (str [])] 9)).cell? ⟨k, q, none⟩ = some (.string (str [])) := fun w k h => (two_new_str HQ.out h).1
  have yq : ∀ (w : World) (k : Nat), k = w.heap.size → (w.alloc (.cells #[.string (str []), .string (str [])] 9)).frozen? ⟨k, q, none⟩ = false := fun w k h => (two_new_str HQ.out h).2
  have Hcore := Lib.hid (And.intro hg hc)
  clear hc hg hsv hq hs0
  go_enter Try.func8, Try.ntmps8
  go_wp2_with (first
    | (go_at_call 12; (with_reducible refine (Pl.out _).mono ?_); rintro e w1 ⟨rfl, k1⟩)
    | (go_at_call 16; (with_reducible refine (C2.out _).mono ?_); rintro e w2 ⟨rfl, k2⟩; have K2 := KT k1 k2; obtain ⟨⟨c0, c1, c2, c3, c4, c5⟩, _⟩ := cells6 (K2.some HS.out (by simp)))
    | (go_at_call 17; (with_reducible refine (En.out _).mono ?_); rintro e w3 ⟨rfl, k3⟩; have K3 := KT K2 k3; clear c0 c1 c2 c3 c4 c5; obtain ⟨⟨c0, c1, c2, c3, c4, c5⟩, _⟩ := cells6_was (K3.some HS.out (by simp))))
  have hlo : W.heap.size < w3.heap.size := by have := K3.size; simp at this; omega
  have Hst : Hid (RowSt W (w3.alloc (.cells ([.string (str []), .string (str [])].set q (.string (str s.sector))).toArray 9)) w3.heap.size s (if q = 0 then s.sector else []) (if q = 0 then [] else s.sector)) := by
    rcases (show q = 0 ∨ q = 1 by have := HQ.out; omega) with rfl | rfl
    · rw [if_pos rfl, if_pos rfl]
      exact ⟨heap_was (K3.some HS.out (by simp)), heap_at rfl, hlo, (KT ((Keeps.refl [] W).alloc _) K3).alloc _⟩
    · rw [if_neg (by decide), if_neg (by decide)]
      exact ⟨heap_was (K3.some HS.out (by simp)), heap_at rfl, hlo, (KT ((Keeps.refl [] W).alloc _) K3).alloc _⟩
  clear c0 c1 c2 c3 c4 c5 k1 k2 k3 K2 K3 C2 Pl En ht hlo zq yq hqi hstr
  generalize w3.heap.size = b at *
  go_loopw [8] (fun iv wr => LoopR W wr b l.length iv) (fun iv _ => l.length - (intOf iv).toNat)
  case atStart => exact ⟨0, s, _, _, Nat.zero_le _, rfl, Hcore.out.1, Hcore.out.2, Hso.out, Hst.out⟩
  case round =>
    clear Hcore Hso Hst HQ
    obtain ⟨k, x, A, B, hk, rfl, hgx, hcx, hso, hst⟩ := hrel
    by_cases hlt : k < l.length
    · obtain ⟨p, hpk⟩ : ∃ p, l[k]? = some p := ⟨l[k], by simp [hlt]⟩
      obtain ⟨⟨p0, p1⟩, q0, q1⟩ := Hgl.out p (List.mem_of_getElem? hpk)
      obtain ⟨ad', cap', hvv, hcells⟩ := Hv.out
      obtain ⟨lb, off, rfl, _, hcell⟩ := hcells (by intro h0; rw [h0] at hlt; simp at hlt)
      obtain rfl : ad = some ⟨lb, off, none⟩ := by injection hvv
      have l0 := hcell k p hpk 0 (.int .i64 p.1) rfl
      have l1 := hcell k p hpk 1 (.int .i64 p.2) rfl
      rw [Nat.add_zero] at l0
      have KL : Hid (∀ w', Keeps [] W w' → w'.cell? ⟨lb, off + k * 2, none⟩ = some (.int .i64 p.1) ∧ w'.cell? ⟨lb, off + k * 2 + 1, none⟩ = some (.int .i64 p.2)) := fun w' k' => ⟨k'.cell0 l0, k'.cell0 l1⟩
      obtain ⟨e0, e1⟩ := KL.out _ hst.keeps
      have hki : (k : Int) < (l.length : Int) := by omega
      have hki0 : (0 : Int) ≤ (k : Int) := by omega
      obtain ⟨a, c⟩ := p
      dsimp only at *
      clear hcell hcells hpk hvv l0 l1
      have Hst := Lib.hid hst
      have Hso := Lib.hid hso
      have Hx := Lib.hid (And.intro hgx hcx)
      have hck := check_le x hcx
      clear hst hso hgx hcx
      by_cases hout : a < 0 ∨ 1000 < a ∨ c < 0 ∨ 1000 < c
      · rcases (show a < 0 ∨ (¬ a < 0 ∧ 1000 < a) ∨ (¬ a < 0 ∧ ¬ 1000 < a ∧ c < 0) ∨ (¬ a < 0 ∧ ¬ 1000 < a ∧ ¬ c < 0 ∧ 1000 < c) by omega) with g1 | ⟨g1, g2⟩ | ⟨g1, g2, g3⟩ | ⟨g1, g2, g3, g4⟩
        all_goals
          clear hout hck
          go_wp2_with (go_at_call 9; (with_reducible refine (awake_any _).mono ?_); rintro e w5 ⟨rfl, k5⟩)
          go_ret
          exact ⟨rfl, KT Hst.out.keeps k5⟩
      · have g1 : 0 ≤ a := by omega
        have g2 : a ≤ 1000 := by omega
        have g3 : 0 ≤ c := by omega
        have g4 : c ≤ 1000 := by omega
        clear hout
        have w1 : IntKind.i64.wrap (x.tail + a) = x.tail + a := IntWalk.i64_in _ ⟨by omega, by omega⟩
        have w2 : IntKind.i64.wrap (x.number + c) = x.number + c := IntWalk.i64_in _ ⟨by omega, by omega⟩
        have Nx := Lib.hid (fun w => next_any x Hx.out.1 (x.tail + a) (x.number + c) (by omega) (by omega) (by omega) (by omega) w)
        have KX : Hid (∀ w', Keeps [] wr w' → (w'.cell? ⟨W.heap.size, 0, none⟩ = some (.int .u64 x.key) ∧ w'.cell? ⟨W.heap.size, 1, none⟩ = some (.int .i64 x.epoch) ∧ w'.cell? ⟨W.heap.size, 2, none⟩ = some (.int .i64 x.serial) ∧ w'.cell? ⟨W.heap.size, 3, none⟩ = some (.int .i64 x.size) ∧ w'.cell? ⟨W.heap.size, 4, none⟩ = some (.int .i64 x.tail) ∧ w'.cell? ⟨W.heap.size, 5, none⟩ = some (.int .i64 x.number)) ∧ w'.cell? ⟨lb, off + k * 2, none⟩ = some (.int .i64 a) ∧ w'.cell? ⟨lb, off + k * 2 + 1, none⟩ = some (.int .i64 c)) :=
          fun w' k' => ⟨(cells6 (Hst.out.kept k').sup).1, KL.out _ (KT Hst.out.keeps k')⟩
        obtain ⟨n, e, hne⟩ : ∃ n e, x.next (x.tail + a) (x.number + c) = (n, e) := ⟨_, _, rfl⟩
        rw [hne] at Nx
        have Hne := Lib.hid hne
        clear hne
        unfold Sup.agg at Nx
        dsimp only at Nx
        go_upto_region 13 with (fail)
        clear e0 e1
        go_cut [9, 10] (fun s9 s10 wx => ∃ g, s9 = .pointer (some ⟨g, 0, none⟩) ∧ s10 = .int .i64 e ∧ wx.heap[g]? = some (.cells #[.int .u64 n.key, .int .i64 n.epoch, .int .i64 n.serial, .int .i64 n.size, .int .i64 n.tail, .int .i64 n.number] 25 (0, 0)) ∧ Keeps [] wr wx ∧ wr.heap.size ≤ g)
        case first =>
          have z0 : ∀ (w : World) (k : Nat), k = w.heap.size → (w.alloc (.cells #[.int .u64 0, .int .i64 0, .int .i64 0, .int .i64 0, .int .i64 0, .int .i64 0] 25)).cell? ⟨k, 0, none⟩ = some (.int .u64 0) := fun w k h => cell_of_heap (heap_at h) 0
          have y0 : ∀ (w : World) (k : Nat), k = w.heap.size → (w.alloc (.cells #[.int .u64 0, .int .i64 0, .int .i64 0, .int .i64 0, .int .i64 0, .int .i64 0] 25)).frozen? ⟨k, 0, none⟩ = false := fun w k h => free_of_heap (heap_at h) 0
          have z1 : ∀ (w : World) (k : Nat), k = w.heap.size → (w.alloc (.cells #[.int .u64 0, .int .i64 0, .int .i64 0, .int .i64 0, .int .i64 0, .int .i64 0] 25)).cell? ⟨k, 1, none⟩ = some (.int .i64 0) := fun w k h => cell_of_heap (heap_at h) 1
          have y1 : ∀ (w : World) (k : Nat), k = w.heap.size → (w.alloc (.cells #[.int .u64 0, .int .i64 0, .int .i64 0, .int .i64 0, .int .i64 0, .int .i64 0] 25)).frozen? ⟨k, 1, none⟩ = false := fun w k h => free_of_heap (heap_at h) 1
          have z2 : ∀ (w : World) (k : Nat), k = w.heap.size → (w.alloc (.cells #[.int .u64 0, .int .i64 0, .int .i64 0, .int .i64 0, .int .i64 0, .int .i64 0] 25)).cell? ⟨k, 2, none⟩ = some (.int .i64 0) := fun w k h => cell_of_heap (heap_at h) 2
          have y2 : ∀ (w : World) (k : Nat), k = w.heap.size → (w.alloc (.cells #[.int .u64 0, .int .i64 0, .int .i64 0, .int .i64 0, .int .i64 0, .int .i64 0] 25)).frozen? ⟨k, 2, none⟩ = false := fun w k h => free_of_heap (heap_at h) 2
          have z3 : ∀ (w : World) (k : Nat), k = w.heap.size → (w.alloc (.cells #[.int .u64 0, .int .i64 0, .int .i64 0, .int .i64 0, .int .i64 0, .int .i64 0] 25)).cell? ⟨k, 3, none⟩ = some (.int .i64 0) := fun w k h => cell_of_heap (heap_at h) 3
          have y3 : ∀ (w : World) (k : Nat), k = w.heap.size → (w.alloc (.cells #[.int .u64 0, .int .i64 0, .int .i64 0, .int .i64 0, .int .i64 0, .int .i64 0] 25)).frozen? ⟨k, 3, none⟩ = false := fun w k h => free_of_heap (heap_at h) 3
          have z4 : ∀ (w : World) (k : Nat), k = w.heap.size → (w.alloc (.cells #[.int .u64 0, .int .i64 0, .int .i64 0, .int .i64 0, .int .i64 0, .int .i64 0] 25)).cell? ⟨k, 4, none⟩ = some (.int .i64 0) := fun w k h => cell_of_heap (heap_at h) 4
          have y4 : ∀ (w : World) (k : Nat), k = w.heap.size → (w.alloc (.cells #[.int .u64 0, .int .i64 0, .int .i64 0, .int .i64 0, .int .i64 0, .int .i64 0] 25)).frozen? ⟨k, 4, none⟩ = false := fun w k h => free_of_heap (heap_at h) 4
          have z5 : ∀ (w : World) (k : Nat), k = w.heap.size → (w.alloc (.cells #[.int .u64 0, .int .i64 0, .int .i64 0, .int .i64 0, .int .i64 0, .int .i64 0] 25)).cell? ⟨k, 5, none⟩ = some (.int .i64 0) := fun w k h => cell_of_heap (heap_at h) 5
          have y5 : ∀ (w : World) (k : Nat), k = w.heap.size → (w.alloc (.cells #[.int .u64 0, .int .i64 0, .int .i64 0, .int .i64 0, .int .i64 0, .int .i64 0] 25)).frozen? ⟨k, 5, none⟩ = false := fun w k h => free_of_heap (heap_at h) 5
          have Kd : Keeps [] wr wr.drew := (Keeps.refl [] wr).drew
          have Kn := Lib.hid (fun o => Keeps.alloc (Keeps.refl [] wr) o)
          go_region_held3 (fun w' => (w'.cell? ⟨W.heap.size, 0, none⟩ = some (.int .u64 x.key) ∧ w'.cell? ⟨W.heap.size, 1, none⟩ = some (.int .i64 x.epoch) ∧ w'.cell? ⟨W.heap.size, 2, none⟩ = some (.int .i64 x.serial) ∧ w'.cell? ⟨W.heap.size, 3, none⟩ = some (.int .i64 x.size) ∧ w'.cell? ⟨W.heap.size, 4, none⟩ = some (.int .i64 x.tail) ∧ w'.cell? ⟨W.heap.size, 5, none⟩ = some (.int .i64 x.number)) ∧ w'.cell? ⟨lb, off + k * 2, none⟩ = some (.int .i64 a) ∧ w'.cell? ⟨lb, off + k * 2 + 1, none⟩ = some (.int .i64 c))
            (first | (with_reducible exact KX.out _ k9') | (with_reducible exact KX.out _ Kd) | (with_reducible exact KX.out _ (Kn.out _)) | (with_reducible exact KX.out _ (Keeps.refl [] wr)) | (with_reducible exact KX.out _ (Keeps.drew (Kn.out _))) | (with_reducible exact KX.out _ (Keeps.alloc k9' _)) | (with_reducible exact KX.out _ (Keeps.alloc Kd _)) | (with_reducible exact KX.out _ (K96.out _ _ _ _ _ _)))
            (first
              | (go_at_call 15; (with_reducible refine (Nx.out _).mono ?_); rintro e9 w9 ⟨rfl, k9⟩; have k9' : Keeps [] wr w9 := (by first | (with_reducible exact KT Kd k9) | (with_reducible exact KT (Keeps.drew (Keeps.alloc (Keeps.refl [] wr) _)) k9)); (first | (have hx9 := k9.ofDrew.some (heap_at (w := wr) (o := .cells #[.int .u64 0, .int .i64 0, .int .i64 0, .int .i64 0, .int .i64 0, .int .i64 0] 25 (0, 0)) rfl) (by simp); obtain ⟨⟨a0, a1, a2, a3, a4, a5⟩, b0, b1, b2, b3, b4, b5⟩ := cells6 hx9; have HX9 := Lib.hid hx9; have K96 := Lib.hid (fun y0 y1 y2 y3 y4 y5 => keeps_set6 k9' (Nat.le_refl wr.heap.size) y0 y1 y2 y3 y4 y5); clear hx9) | skip)))
          all_goals
            go_wp2_with fail
            go_meet
            refine ⟨_, rfl, rfl, ?_, ?_, ?_⟩
            · first
                | (with_reducible exact heap_at rfl)
                | (with_reducible exact heap_set6 HX9.out _ _ _ _ _ _)
            · first
                | (with_reducible exact Keeps.alloc k9' _)
                | (with_reducible exact K96.out _ _ _ _ _ _)
            · first
                | exact Nat.le_refl _
                | exact k9'.size
        case rest =>
          obtain ⟨wx, rfl⟩ : ∃ wx : World, wx = wc := ⟨_, rfl⟩
          obtain ⟨g, rfl, rfl, hgx, kx, hge⟩ := hcut
          have Hgx := Lib.hid hgx
          have Kwx := Lib.hid kx
          have Kwd := Keeps.drew kx
          by_cases he : e = 0
          · obtain ⟨hnx, hcn⟩ := next_ok Hx.out.2 (t := x.tail + a) (n := x.number + c) (by rw [Hne.out]; exact he)
            have hnb : n = x.behind (x.tail + a) (x.number + c) := by rw [Hne.out] at hnx; exact (Prod.mk.inj hnx).1
            rw [← hnb] at hcn
            have hgn : n.good := by
              have hgx' := Hx.out.1
              rw [hnb]
              exact ⟨hgx'.key, hgx'.e0, hgx'.e1, by show _ ≤ x.serial + 1; omega, by show x.serial + 1 ≤ _; omega, hgx'.z0, hgx'.z1, by show _ ≤ x.tail + a; omega, by show x.tail + a ≤ _; omega, by show _ ≤ x.number + c; omega, by show x.number + c ≤ _; omega⟩
            have hns : n.serial = x.serial + 1 := by rw [hnb]; rfl
            obtain ⟨q, hq2, hq⟩ : ∃ q : Nat, q < 2 ∧ n.serial % 2 = (q : Int) := ⟨(n.serial % 2).toNat, by omega, by omega⟩
            obtain ⟨r, hr, hqr⟩ : ∃ r : Int, x.serial % 2 = r ∧ ¬ (q : Int) = r := ⟨_, rfl, by omega⟩
            have w3 : IntKind.i64.wrap (x.serial + 1) = x.serial + 1 := IntWalk.i64_in _ ⟨by omega, by omega⟩
            obtain ⟨hso2, hpk⟩ := slots_next Hso.out Hx.out.1.key hgn.key Hx.out.2 hcn hns hq
            have hla := hso2.la
            have hlb := hso2.lb
            have En : Hid (∀ w, Calls Try.prog 17 #[.agg #[.int .u64 n.key, .int .i64 n.epoch, .int .i64 n.serial, .int .i64 n.size, .int .i64 n.tail, .int .i64 n.number]] w fun e w' => e = .returned (.tuple #[.string (str n.sector), .int .i64 0]) ∧ Keeps [] w w') := fun w => by
              have h := encode_any n hgn w
              rw [show n.encode = (n.sector, 0) from if_pos hcn] at h
              exact h
            have Ln : Hid (∀ w, Calls Try.prog 20 #[.agg #[.int .u64 n.key, .int .i64 n.epoch, .int .i64 n.serial, .int .i64 n.size, .int .i64 n.tail, .int .i64 n.number]] w fun e w' => e = .returned (.int .i64 (q : Int)) ∧ Keeps [] w w') := fun w => by
              have h := slot_any n w
              rw [hq] at h
              exact h
            have Lx : Hid (∀ w, Calls Try.prog 20 #[.agg #[.int .u64 x.key, .int .i64 x.epoch, .int .i64 x.serial, .int .i64 x.size, .int .i64 x.tail, .int .i64 x.number]] w fun e w' => e = .returned (.int .i64 r) ∧ Keeps [] w w') := fun w => by
              have h := slot_any x w
              rw [hr] at h
              exact h
            have Qs : Hid (∀ w' : World, RowSt W w' b x A B → RowSt W (w'.setCell ⟨b, q, none⟩ (.string (str n.sector))) b x (if q = 0 then n.sector else A) (if q = 0 then B else n.sector)) := fun w' h => h.setQ q hq2 n.sector
            generalize (if q = 0 then n.sector else A) = A2 at *
            generalize (if q = 0 then B else n.sector) = B2 at *
            have Pk : Hid (∀ w, Calls Try.prog 13 #[.string (str A2), .string (str B2)] w fun e w' => e = .returned (.tuple #[.agg #[.int .u64 n.key, .int .i64 n.epoch, .int .i64 n.serial, .int .i64 n.size, .int .i64 n.tail, .int .i64 n.number], .int .i64 (q : Int), .int .i64 0]) ∧ Keeps [] w w') := fun w => by
              have h := pick_any A2 B2 w (by omega) (by omega)
              rw [hpk] at h
              exact h
            generalize n.sector = sec at *
            have Hso2 := Lib.hid hso2
            have HQ2 := Lib.hid hq2
            have Hns := Lib.hid hns
            have Hgn := Lib.hid (And.intro hgn hcn)
            have hqi : (q : Int) < 2 := by omega
            have hq0 : ¬ (q : Int) < 0 := by omega
            have hq1 : ¬ (1 : Int) < (q : Int) := by omega
            have hqb : ((q : Int) == r) = false := by rw [beq_eq_false_iff_ne]; exact hqr
            have hbl : b < wr.heap.size := (Array.getElem?_eq_some_iff.1 Hst.out.slots).1
            have hlo := Hst.out.lo
            have Hsx := Lib.hid (Hst.out.kept kx)
            have Hgb := Lib.hid (show g ≠ b by omega)
            have Hgs := Lib.hid (show g ≠ W.heap.size by omega)
            rw [hns] at En Ln Hgx Pk
            subst he
            have KW : Hid (∀ w', Keeps [] wx w' → (w'.cell? ⟨W.heap.size, 0, none⟩ = some (.int .u64 x.key) ∧ w'.cell? ⟨W.heap.size, 1, none⟩ = some (.int .i64 x.epoch) ∧ w'.cell? ⟨W.heap.size, 2, none⟩ = some (.int .i64 x.serial) ∧ w'.cell? ⟨W.heap.size, 3, none⟩ = some (.int .i64 x.size) ∧ w'.cell? ⟨W.heap.size, 4, none⟩ = some (.int .i64 x.tail) ∧ w'.cell? ⟨W.heap.size, 5, none⟩ = some (.int .i64 x.number)) ∧ w'.cell? ⟨g, 0, none⟩ = some (.int .u64 n.key) ∧ w'.cell? ⟨g, 1, none⟩ = some (.int .i64 n.epoch) ∧ w'.cell? ⟨g, 2, none⟩ = some (.int .i64 (x.serial + 1)) ∧ w'.cell? ⟨g, 3, none⟩ = some (.int .i64 n.size) ∧ w'.cell? ⟨g, 4, none⟩ = some (.int .i64 n.tail) ∧ w'.cell? ⟨g, 5, none⟩ = some (.int .i64 n.number)) := fun w' k' => ⟨(cells6 (Hsx.out.kept k').sup).1, (cells6 (k'.some Hgx.out (by simp))).1⟩
            obtain ⟨⟨c0, c1, c2, c3, c4, c5⟩, ⟨n0, n1, n2, n3, n4, n5⟩⟩ := KW.out _ (Keeps.refl [] wx)
            clear hnx hcn hnb hgn hns hso2 hpk hla hlb hq hq2 hr hbl hlo hgx hge Nx hck KX KL
            go_upto_region 21 with (first
              | (go_at_call 17; (with_reducible refine (En.out _).mono ?_); rintro e9 w10 ⟨rfl, k10⟩; clear c0 c1 c2 c3 c4 c5 n0 n1 n2 n3 n4 n5; obtain ⟨⟨c0, c1, c2, c3, c4, c5⟩, ⟨n0, n1, n2, n3, n4, n5⟩⟩ := KW.out _ k10)
              | (go_at_call 20; (with_reducible refine (Ln.out _).mono ?_); rintro e9 w11 ⟨rfl, k11⟩; have k11' := KT k10 k11; clear c0 c1 c2 c3 c4 c5 n0 n1 n2 n3 n4 n5; obtain ⟨⟨c0, c1, c2, c3, c4, c5⟩, ⟨n0, n1, n2, n3, n4, n5⟩⟩ := KW.out _ k11')
              | (go_at_call 20; (with_reducible refine (Lx.out _).mono ?_); rintro e9 w12 ⟨rfl, k12⟩; have k12' := KT k11' k12; clear c0 c1 c2 c3 c4 c5 n0 n1 n2 n3 n4 n5; obtain ⟨⟨c0, c1, c2, c3, c4, c5⟩, ⟨n0, n1, n2, n3, n4, n5⟩⟩ := KW.out _ k12'; obtain ⟨sq, fq⟩ := (Hsx.out.kept k12').cellQ q HQ2.out))
            have HV := Lib.hid (Qs.out _ (Hsx.out.kept k12'))
            have HgV := Lib.hid (heap_ne (o := q) (v := .string (str sec)) (k12'.some Hgx.out (by simp)) Hgb.out)
            clear c0 c1 c2 c3 c4 c5 n0 n1 n2 n3 n4 n5 sq fq KW Qs k10 k11 k12 k11' k12' En Ln Lx
            generalize w12.setCell ⟨b, q, none⟩ (.string (str sec)) = V at *
            go_cut [14, 15, 16] (fun s14 s15 s16 wy => ∃ g2, s14 = .pointer (some ⟨g2, 0, none⟩) ∧ s15 = .int .i64 (q : Int) ∧ s16 = .int .i64 0 ∧ wy.heap[g2]? = some (.cells #[.int .u64 n.key, .int .i64 n.epoch, .int .i64 (x.serial + 1), .int .i64 n.size, .int .i64 n.tail, .int .i64 n.number] 25 (0, 0)) ∧ Keeps [] V wy)
            case first =>
              have KVd : Keeps [] V V.drew := (Keeps.refl [] _).drew
              have z0 : ∀ w : World, (w.alloc (.cells #[.int .u64 0, .int .i64 0, .int .i64 0, .int .i64 0, .int .i64 0, .int .i64 0] 25)).cell? ⟨w.heap.size, 0, none⟩ = some (.int .u64 0) := fun w => cell_of_heap (heap_at rfl) 0
              have y0 : ∀ w : World, (w.alloc (.cells #[.int .u64 0, .int .i64 0, .int .i64 0, .int .i64 0, .int .i64 0, .int .i64 0] 25)).frozen? ⟨w.heap.size, 0, none⟩ = false := fun w => free_of_heap (heap_at rfl) 0
              have z1 : ∀ w : World, (w.alloc (.cells #[.int .u64 0, .int .i64 0, .int .i64 0, .int .i64 0, .int .i64 0, .int .i64 0] 25)).cell? ⟨w.heap.size, 1, none⟩ = some (.int .i64 0) := fun w => cell_of_heap (heap_at rfl) 1
              have y1 : ∀ w : World, (w.alloc (.cells #[.int .u64 0, .int .i64 0, .int .i64 0, .int .i64 0, .int .i64 0, .int .i64 0] 25)).frozen? ⟨w.heap.size, 1, none⟩ = false := fun w => free_of_heap (heap_at rfl) 1
              have z2 : ∀ w : World, (w.alloc (.cells #[.int .u64 0, .int .i64 0, .int .i64 0, .int .i64 0, .int .i64 0, .int .i64 0] 25)).cell? ⟨w.heap.size, 2, none⟩ = some (.int .i64 0) := fun w => cell_of_heap (heap_at rfl) 2
              have y2 : ∀ w : World, (w.alloc (.cells #[.int .u64 0, .int .i64 0, .int .i64 0, .int .i64 0, .int .i64 0, .int .i64 0] 25)).frozen? ⟨w.heap.size, 2, none⟩ = false := fun w => free_of_heap (heap_at rfl) 2
              have z3 : ∀ w : World, (w.alloc (.cells #[.int .u64 0, .int .i64 0, .int .i64 0, .int .i64 0, .int .i64 0, .int .i64 0] 25)).cell? ⟨w.heap.size, 3, none⟩ = some (.int .i64 0) := fun w => cell_of_heap (heap_at rfl) 3
              have y3 : ∀ w : World, (w.alloc (.cells #[.int .u64 0, .int .i64 0, .int .i64 0, .int .i64 0, .int .i64 0, .int .i64 0] 25)).frozen? ⟨w.heap.size, 3, none⟩ = false := fun w => free_of_heap (heap_at rfl) 3
              have z4 : ∀ w : World, (w.alloc (.cells #[.int .u64 0, .int .i64 0, .int .i64 0, .int .i64 0, .int .i64 0, .int .i64 0] 25)).cell? ⟨w.heap.size, 4, none⟩ = some (.int .i64 0) := fun w => cell_of_heap (heap_at rfl) 4
              have y4 : ∀ w : World, (w.alloc (.cells #[.int .u64 0, .int .i64 0, .int .i64 0, .int .i64 0, .int .i64 0, .int .i64 0] 25)).frozen? ⟨w.heap.size, 4, none⟩ = false := fun w => free_of_heap (heap_at rfl) 4
              have z5 : ∀ w : World, (w.alloc (.cells #[.int .u64 0, .int .i64 0, .int .i64 0, .int .i64 0, .int .i64 0, .int .i64 0] 25)).cell? ⟨w.heap.size, 5, none⟩ = some (.int .i64 0) := fun w => cell_of_heap (heap_at rfl) 5
              have y5 : ∀ w : World, (w.alloc (.cells #[.int .u64 0, .int .i64 0, .int .i64 0, .int .i64 0, .int .i64 0, .int .i64 0] 25)).frozen? ⟨w.heap.size, 5, none⟩ = false := fun w => free_of_heap (heap_at rfl) 5
              have l0 : ∀ o : Obj, (V.alloc o).cell? ⟨b, 0, none⟩ = some (.string (str A2)) := fun o => cell_of_heap (heap_was HV.out.slots) 0
              have l1 : ∀ o : Obj, (V.alloc o).cell? ⟨b, 1, none⟩ = some (.string (str B2)) := fun o => cell_of_heap (heap_was HV.out.slots) 1
              have l2 : V.cell? ⟨b, 0, none⟩ = some (.string (str A2)) := cell_of_heap HV.out.slots 0
              have l3 : V.cell? ⟨b, 1, none⟩ = some (.string (str B2)) := cell_of_heap HV.out.slots 1
              go_region_with (first
                  | (go_at_call 13; (with_reducible refine (Pk.out _).mono ?_); rintro e9 w9 ⟨rfl, k9⟩; (first | (have hx9 := k9.ofDrew.some (heap_at (k := V.heap.size) rfl) (by simp); obtain ⟨⟨a0, a1, a2, a3, a4, a5⟩, b0, b1, b2, b3, b4, b5⟩ := cells6 hx9; have HX9 := Lib.hid hx9; clear hx9) | skip)))
              all_goals
                go_wp2_with fail
                go_meet
                refine ⟨_, rfl, rfl, rfl, ?_, ?_⟩
                · first
                    | (with_reducible exact heap_at rfl)
                    | (with_reducible exact heap_set6 HX9.out _ _ _ _ _ _)
                · first
                    | (with_reducible refine Keeps.alloc ?_ _; with_reducible exact KT KVd k9)
                    | (with_reducible refine keeps_set6 ?_ (by simp) _ _ _ _ _ _; with_reducible exact KT (Keeps.drew (Keeps.alloc (Keeps.refl [] _) _)) k9)
            case rest =>
              obtain ⟨g2, rfl, rfl, rfl, hg2, ky⟩ := hcut
              have Hsy := Lib.hid (HV.out.kept ky)
              obtain ⟨⟨c0, c1, c2, c3, c4, c5⟩, ⟨u0, u1, u2, u3, u4, u5⟩⟩ := cells6 (Hsy.out).sup
              obtain ⟨⟨n0, n1, n2, n3, n4, n5⟩, _⟩ := cells6 (ky.some HgV.out (by simp))
              obtain ⟨⟨m0, m1, m2, m3, m4, m5⟩, _⟩ := cells6 hg2
              have Hsn := Lib.hid (Hsy.out.setS n)
              rw [Hns.out] at Hsn
              clear hg2 HV HgV ky
              go_wp2_with fail
              go_roundw
              case rel => exact ⟨k + 1, n, A2, B2, by omega, by go_num, Hgn.out.1, Hgn.out.2, Hso2.out, Hsn.out⟩
              case measure => simp [intOf]; omega
          · have hb : (e != 0) = true := bne_iff_ne.2 he
            have hw := next_why Hx.out.2 (t := x.tail + a) (n := x.number + c) (by omega) (by omega) (by rw [Hne.out]; exact he)
            obtain ⟨⟨c0, c1, c2, c3, c4, c5⟩, e0, e1⟩ := KX.out _ kx
            clear hck hgx Nx he
            have hw' : (decide (1099511627775 ≤ x.serial) = true) ∨ (decide (1099511627775 ≤ x.serial) = false ∧ decide (1099511627776 ≤ x.tail + a) = true) ∨ (decide (1099511627775 ≤ x.serial) = false ∧ decide (1099511627776 ≤ x.tail + a) = false ∧ decide (1099511627776 ≤ x.number + c) = true) := by
              simp only [decide_eq_true_eq, decide_eq_false_iff_not]
              omega
            clear hw
            rcases hw' with f1 | ⟨f1, f2⟩ | ⟨f1, f2, f3⟩
            · go_upto_region 15 with (fail)
              have Kst := Lib.hid (Hst.out.keeps)
              clear KX KL HS Hgx Hgl Hso Hne Hx Hv Hst c0 c1 c3
              refine region_tail 26 (by kernel_rfl) (by kernel_rfl) ?_
              simp only [List.take_succ_cons, List.take_zero, List.drop_succ_cons, List.drop_zero]
              refine wpStill_step (fun K hK => ?_)
              go_simp
              generalize hA : Act.mk _ _ = A
              refine hK A ?_
              clear hK K
              subst hA
              refine wpStill_step (fun K hK => ?_)
              go_simp
              generalize hA : Act.mk _ _ = A
              refine hK A ?_
              clear hK K
              subst hA
              refine wpStill_step (fun K hK => ?_)
              go_simp
              generalize hA : Act.mk _ _ = A
              refine hK A ?_
              clear hK K
              subst hA
              refine wpStill_step (fun K hK => ?_)
              go_simp
              generalize hA : Act.mk _ _ = A
              refine hK A ?_
              clear hK K
              refine still_skip ?_ ?_
              · rw [← hA]
                kernel_rfl
              generalize hB : Act.put A _ _ = B
              rw [← hA] at hB
              simp only [Act.put, List.setIfInBounds_toArray, List.set_cons_zero, List.set_cons_succ] at hB
              clear hA
              clear A
              obtain ⟨A, hA2⟩ : ∃ A, A = B := ⟨_, rfl⟩
              subst hA2
              have hA := hB
              clear hB
              refine still_skip ?_ ?_
              · rw [← hA]
                kernel_rfl
              generalize hB : Act.put A _ _ = B
              rw [← hA] at hB
              simp only [Act.put, List.setIfInBounds_toArray, List.set_cons_zero, List.set_cons_succ] at hB
              clear hA
              clear A
              obtain ⟨A, hA2⟩ : ∃ A, A = B := ⟨_, rfl⟩
              subst hA2
              have hA := hB
              clear hB
              refine still_skip ?_ ?_
              · rw [← hA]
                kernel_rfl
              generalize hB : Act.put A _ _ = B
              rw [← hA] at hB
              simp only [Act.put, List.setIfInBounds_toArray, List.set_cons_zero, List.set_cons_succ] at hB
              clear hA
              clear A
              obtain ⟨A, hA2⟩ : ∃ A, A = B := ⟨_, rfl⟩
              subst hA2
              have hA := hB
              clear hB
              refine still_skip ?_ ?_
              · rw [← hA]
                kernel_rfl
              generalize hB : Act.put A _ _ = B
              rw [← hA] at hB
              simp only [Act.put, List.setIfInBounds_toArray, List.set_cons_zero, List.set_cons_succ] at hB
              clear hA
              clear A
              obtain ⟨A, hA2⟩ : ∃ A, A = B := ⟨_, rfl⟩
              subst hA2
              have hA := hB
              clear hB
              refine still_skip ?_ ?_
              · rw [← hA]
                kernel_rfl
              generalize hB : Act.put A _ _ = B
              rw [← hA] at hB
              simp only [Act.put, List.setIfInBounds_toArray, List.set_cons_zero, List.set_cons_succ] at hB
              clear hA
              clear A
              obtain ⟨A, hA2⟩ : ∃ A, A = B := ⟨_, rfl⟩
              subst hA2
              have hA := hB
              clear hB
              refine still_skip ?_ ?_
              · rw [← hA]
                kernel_rfl
              generalize hB : Act.put A _ _ = B
              rw [← hA] at hB
              simp only [Act.put, List.setIfInBounds_toArray, List.set_cons_zero, List.set_cons_succ] at hB
              clear hA
              clear A
              obtain ⟨A, hA2⟩ : ∃ A, A = B := ⟨_, rfl⟩
              subst hA2
              have hA := hB
              clear hB
              refine still_skip ?_ ?_
              · rw [← hA]
                kernel_rfl
              generalize hB : Act.put A _ _ = B
              rw [← hA] at hB
              simp only [Act.put, List.setIfInBounds_toArray, List.set_cons_zero, List.set_cons_succ] at hB
              clear hA
              clear A
              obtain ⟨A, hA2⟩ : ∃ A, A = B := ⟨_, rfl⟩
              subst hA2
              have hA := hB
              clear hB
              refine still_skip ?_ ?_
              · rw [← hA]
                kernel_rfl
              generalize hB : Act.put A _ _ = B
              rw [← hA] at hB
              simp only [Act.put, List.setIfInBounds_toArray, List.set_cons_zero, List.set_cons_succ] at hB
              clear hA
              clear A
              obtain ⟨A, hA2⟩ : ∃ A, A = B := ⟨_, rfl⟩
              subst hA2
              have hA := hB
              clear hB
              refine still_skip ?_ ?_
              · rw [← hA]
                kernel_rfl
              generalize hB : Act.put A _ _ = B
              rw [← hA] at hB
              simp only [Act.put, List.setIfInBounds_toArray, List.set_cons_zero, List.set_cons_succ] at hB
              clear hA
              clear A
              obtain ⟨A, hA2⟩ : ∃ A, A = B := ⟨_, rfl⟩
              subst hA2
              have hA := hB
              clear hB
              subst hA
              refine wpStill_step (fun K hK => ?_)
              go_simp
              generalize hA : Act.mk _ _ = A
              refine hK A ?_
              clear hK K
              subst hA
              refine wpStill_step (fun K hK => ?_)
              go_simp
              generalize hA : Act.mk _ _ = A
              refine hK A ?_
              clear hK K
              refine still_skip ?_ ?_
              · rw [← hA]
                kernel_rfl
              generalize hB : Act.put A _ _ = B
              rw [← hA] at hB
              simp only [Act.put, List.setIfInBounds_toArray, List.set_cons_zero, List.set_cons_succ] at hB
              clear hA
              clear A
              obtain ⟨A, hA2⟩ : ∃ A, A = B := ⟨_, rfl⟩
              subst hA2
              have hA := hB
              clear hB
              refine still_skip ?_ ?_
              · rw [← hA]
                kernel_rfl
              generalize hB : Act.put A _ _ = B
              rw [← hA] at hB
              simp only [Act.put, List.setIfInBounds_toArray, List.set_cons_zero, List.set_cons_succ] at hB
              clear hA
              clear A
              obtain ⟨A, hA2⟩ : ∃ A, A = B := ⟨_, rfl⟩
              subst hA2
              have hA := hB
              clear hB
              refine still_skip ?_ ?_
              · rw [← hA]
                kernel_rfl
              generalize hB : Act.put A _ _ = B
              rw [← hA] at hB
              simp only [Act.put, List.setIfInBounds_toArray, List.set_cons_zero, List.set_cons_succ] at hB
              clear hA
              clear A
              obtain ⟨A, hA2⟩ : ∃ A, A = B := ⟨_, rfl⟩
              subst hA2
              have hA := hB
              clear hB
              refine still_skip ?_ ?_
              · rw [← hA]
                kernel_rfl
              generalize hB : Act.put A _ _ = B
              rw [← hA] at hB
              simp only [Act.put, List.setIfInBounds_toArray, List.set_cons_zero, List.set_cons_succ] at hB
              clear hA
              clear A
              obtain ⟨A, hA2⟩ : ∃ A, A = B := ⟨_, rfl⟩
              subst hA2
              have hA := hB
              clear hB
              refine still_skip ?_ ?_
              · rw [← hA]
                kernel_rfl
              generalize hB : Act.put A _ _ = B
              rw [← hA] at hB
              simp only [Act.put, List.setIfInBounds_toArray, List.set_cons_zero, List.set_cons_succ] at hB
              clear hA
              clear A
              obtain ⟨A, hA2⟩ : ∃ A, A = B := ⟨_, rfl⟩
              subst hA2
              have hA := hB
              clear hB
              refine still_skip ?_ ?_
              · rw [← hA]
                kernel_rfl
              generalize hB : Act.put A _ _ = B
              rw [← hA] at hB
              simp only [Act.put, List.setIfInBounds_toArray, List.set_cons_zero, List.set_cons_succ] at hB
              clear hA
              clear A
              obtain ⟨A, hA2⟩ : ∃ A, A = B := ⟨_, rfl⟩
              subst hA2
              have hA := hB
              clear hB
              refine still_skip ?_ ?_
              · rw [← hA]
                kernel_rfl
              generalize hB : Act.put A _ _ = B
              rw [← hA] at hB
              simp only [Act.put, List.setIfInBounds_toArray, List.set_cons_zero, List.set_cons_succ] at hB
              clear hA
              clear A
              obtain ⟨A, hA2⟩ : ∃ A, A = B := ⟨_, rfl⟩
              subst hA2
              have hA := hB
              clear hB
              refine still_skip ?_ ?_
              · rw [← hA]
                kernel_rfl
              generalize hB : Act.put A _ _ = B
              rw [← hA] at hB
              simp only [Act.put, List.setIfInBounds_toArray, List.set_cons_zero, List.set_cons_succ] at hB
              clear hA
              clear A
              obtain ⟨A, hA2⟩ : ∃ A, A = B := ⟨_, rfl⟩
              subst hA2
              have hA := hB
              clear hB
              refine still_skip ?_ ?_
              · rw [← hA]
                kernel_rfl
              generalize hB : Act.put A _ _ = B
              rw [← hA] at hB
              simp only [Act.put, List.setIfInBounds_toArray, List.set_cons_zero, List.set_cons_succ] at hB
              clear hA
              clear A
              obtain ⟨A, hA2⟩ : ∃ A, A = B := ⟨_, rfl⟩
              subst hA2
              have hA := hB
              clear hB
              subst hA
              refine wpStill_step (fun K hK => ?_)
              go_simp
              generalize hA : Act.mk _ _ = A
              refine hK A ?_
              clear hK K
              subst hA
              refine wpStill_step (fun K hK => ?_)
              go_simp
              generalize hA : Act.mk _ _ = A
              refine hK A ?_
              clear hK K
              subst hA
              refine wpStill_nil ?_
              go_wp2_with (go_at_call 9; (with_reducible refine (awake_any _).mono ?_); rintro e9 w9 ⟨rfl, k9⟩)
              have k9' : Keeps [] wr w9 := KT Kwx.out (by first | (with_reducible exact k9) | (with_reducible exact k9.ofDrew))
              go_ret
              exact ⟨rfl, KT Kst.out k9'⟩
            · go_upto_region 15 with (fail)
              have Kst := Lib.hid (Hst.out.keeps)
              clear KX KL HS Hgx Hgl Hso Hne Hx Hv Hst c0 c1 c3
              refine region_tail 26 (by kernel_rfl) (by kernel_rfl) ?_
              simp only [List.take_succ_cons, List.take_zero, List.drop_succ_cons, List.drop_zero]
              refine wpStill_step (fun K hK => ?_)
              go_simp
              generalize hA : Act.mk _ _ = A
              refine hK A ?_
              clear hK K
              subst hA
              refine wpStill_step (fun K hK => ?_)
              go_simp
              generalize hA : Act.mk _ _ = A
              refine hK A ?_
              clear hK K
              subst hA
              refine wpStill_step (fun K hK => ?_)
              go_simp
              generalize hA : Act.mk _ _ = A
              refine hK A ?_
              clear hK K
              subst hA
              refine wpStill_step (fun K hK => ?_)
              go_simp
              generalize hA : Act.mk _ _ = A
              refine hK A ?_
              clear hK K
              subst hA
              refine wpStill_step (fun K hK => ?_)
              go_simp
              generalize hA : Act.mk _ _ = A
              refine hK A ?_
              clear hK K
              subst hA
              refine wpStill_step (fun K hK => ?_)
              go_simp
              generalize hA : Act.mk _ _ = A
              refine hK A ?_
              clear hK K
              subst hA
              refine wpStill_step (fun K hK => ?_)
              go_simp
              generalize hA : Act.mk _ _ = A
              refine hK A ?_
              clear hK K
              subst hA
              refine wpStill_step (fun K hK => ?_)
              go_simp
              generalize hA : Act.mk _ _ = A
              refine hK A ?_
              clear hK K
              subst hA
              refine wpStill_step (fun K hK => ?_)
              go_simp
              generalize hA : Act.mk _ _ = A
              refine hK A ?_
              clear hK K
              subst hA
              refine wpStill_step (fun K hK => ?_)
              go_simp
              generalize hA : Act.mk _ _ = A
              refine hK A ?_
              clear hK K
              subst hA
              refine wpStill_step (fun K hK => ?_)
              go_simp
              generalize hA : Act.mk _ _ = A
              refine hK A ?_
              clear hK K
              subst hA
              refine wpStill_step (fun K hK => ?_)
              go_simp
              generalize hA : Act.mk _ _ = A
              refine hK A ?_
              clear hK K
              subst hA
              refine wpStill_step (fun K hK => ?_)
              go_simp
              generalize hA : Act.mk _ _ = A
              refine hK A ?_
              clear hK K
              subst hA
              refine wpStill_step (fun K hK => ?_)
              go_simp
              generalize hA : Act.mk _ _ = A
              refine hK A ?_
              clear hK K
              subst hA
              refine wpStill_step (fun K hK => ?_)
              go_simp
              generalize hA : Act.mk _ _ = A
              refine hK A ?_
              clear hK K
              refine still_skip ?_ ?_
              · rw [← hA]
                kernel_rfl
              generalize hB : Act.put A _ _ = B
              rw [← hA] at hB
              simp only [Act.put, List.setIfInBounds_toArray, List.set_cons_zero, List.set_cons_succ] at hB
              clear hA
              clear A
              obtain ⟨A, hA2⟩ : ∃ A, A = B := ⟨_, rfl⟩
              subst hA2
              have hA := hB
              clear hB
              refine still_skip ?_ ?_
              · rw [← hA]
                kernel_rfl
              generalize hB : Act.put A _ _ = B
              rw [← hA] at hB
              simp only [Act.put, List.setIfInBounds_toArray, List.set_cons_zero, List.set_cons_succ] at hB
              clear hA
              clear A
              obtain ⟨A, hA2⟩ : ∃ A, A = B := ⟨_, rfl⟩
              subst hA2
              have hA := hB
              clear hB
              refine still_skip ?_ ?_
              · rw [← hA]
                kernel_rfl
              generalize hB : Act.put A _ _ = B
              rw [← hA] at hB
              simp only [Act.put, List.setIfInBounds_toArray, List.set_cons_zero, List.set_cons_succ] at hB
              clear hA
              clear A
              obtain ⟨A, hA2⟩ : ∃ A, A = B := ⟨_, rfl⟩
              subst hA2
              have hA := hB
              clear hB
              refine still_skip ?_ ?_
              · rw [← hA]
                kernel_rfl
              generalize hB : Act.put A _ _ = B
              rw [← hA] at hB
              simp only [Act.put, List.setIfInBounds_toArray, List.set_cons_zero, List.set_cons_succ] at hB
              clear hA
              clear A
              obtain ⟨A, hA2⟩ : ∃ A, A = B := ⟨_, rfl⟩
              subst hA2
              have hA := hB
              clear hB
              refine still_skip ?_ ?_
              · rw [← hA]
                kernel_rfl
              generalize hB : Act.put A _ _ = B
              rw [← hA] at hB
              simp only [Act.put, List.setIfInBounds_toArray, List.set_cons_zero, List.set_cons_succ] at hB
              clear hA
              clear A
              obtain ⟨A, hA2⟩ : ∃ A, A = B := ⟨_, rfl⟩
              subst hA2
              have hA := hB
              clear hB
              refine still_skip ?_ ?_
              · rw [← hA]
                kernel_rfl
              generalize hB : Act.put A _ _ = B
              rw [← hA] at hB
              simp only [Act.put, List.setIfInBounds_toArray, List.set_cons_zero, List.set_cons_succ] at hB
              clear hA
              clear A
              obtain ⟨A, hA2⟩ : ∃ A, A = B := ⟨_, rfl⟩
              subst hA2
              have hA := hB
              clear hB
              refine still_skip ?_ ?_
              · rw [← hA]
                kernel_rfl
              generalize hB : Act.put A _ _ = B
              rw [← hA] at hB
              simp only [Act.put, List.setIfInBounds_toArray, List.set_cons_zero, List.set_cons_succ] at hB
              clear hA
              clear A
              obtain ⟨A, hA2⟩ : ∃ A, A = B := ⟨_, rfl⟩
              subst hA2
              have hA := hB
              clear hB
              refine still_skip ?_ ?_
              · rw [← hA]
                kernel_rfl
              generalize hB : Act.put A _ _ = B
              rw [← hA] at hB
              simp only [Act.put, List.setIfInBounds_toArray, List.set_cons_zero, List.set_cons_succ] at hB
              clear hA
              clear A
              obtain ⟨A, hA2⟩ : ∃ A, A = B := ⟨_, rfl⟩
              subst hA2
              have hA := hB
              clear hB
              refine still_skip ?_ ?_
              · rw [← hA]
                kernel_rfl
              generalize hB : Act.put A _ _ = B
              rw [← hA] at hB
              simp only [Act.put, List.setIfInBounds_toArray, List.set_cons_zero, List.set_cons_succ] at hB
              clear hA
              clear A
              obtain ⟨A, hA2⟩ : ∃ A, A = B := ⟨_, rfl⟩
              subst hA2
              have hA := hB
              clear hB
              subst hA
              refine wpStill_step (fun K hK => ?_)
              go_simp
              generalize hA : Act.mk _ _ = A
              refine hK A ?_
              clear hK K
              subst hA
              refine wpStill_step (fun K hK => ?_)
              go_simp
              generalize hA : Act.mk _ _ = A
              refine hK A ?_
              clear hK K
              subst hA
              refine wpStill_nil ?_
              go_wp2_with (go_at_call 9; (with_reducible refine (awake_any _).mono ?_); rintro e9 w9 ⟨rfl, k9⟩)
              have k9' : Keeps [] wr w9 := KT Kwx.out (by first | (with_reducible exact k9) | (with_reducible exact k9.ofDrew))
              go_ret
              exact ⟨rfl, KT Kst.out k9'⟩
            · go_upto_region 15 with (fail)
              have Kst := Lib.hid (Hst.out.keeps)
              clear KX KL HS Hgx Hgl Hso Hne Hx Hv Hst c0 c1 c3
              refine region_tail 26 (by kernel_rfl) (by kernel_rfl) ?_
              simp only [List.take_succ_cons, List.take_zero, List.drop_succ_cons, List.drop_zero]
              refine wpStill_step (fun K hK => ?_)
              go_simp
              generalize hA : Act.mk _ _ = A
              refine hK A ?_
              clear hK K
              subst hA
              refine wpStill_step (fun K hK => ?_)
              go_simp
              generalize hA : Act.mk _ _ = A
              refine hK A ?_
              clear hK K
              subst hA
              refine wpStill_step (fun K hK => ?_)
              go_simp
              generalize hA : Act.mk _ _ = A
              refine hK A ?_
              clear hK K
              subst hA
              refine wpStill_step (fun K hK => ?_)
              go_simp
              generalize hA : Act.mk _ _ = A
              refine hK A ?_
              clear hK K
              subst hA
              refine wpStill_step (fun K hK => ?_)
              go_simp
              generalize hA : Act.mk _ _ = A
              refine hK A ?_
              clear hK K
              subst hA
              refine wpStill_step (fun K hK => ?_)
              go_simp
              generalize hA : Act.mk _ _ = A
              refine hK A ?_
              clear hK K
              subst hA
              refine wpStill_step (fun K hK => ?_)
              go_simp
              generalize hA : Act.mk _ _ = A
              refine hK A ?_
              clear hK K
              subst hA
              refine wpStill_step (fun K hK => ?_)
              go_simp
              generalize hA : Act.mk _ _ = A
              refine hK A ?_
              clear hK K
              subst hA
              refine wpStill_step (fun K hK => ?_)
              go_simp
              generalize hA : Act.mk _ _ = A
              refine hK A ?_
              clear hK K
              subst hA
              refine wpStill_step (fun K hK => ?_)
              go_simp
              generalize hA : Act.mk _ _ = A
              refine hK A ?_
              clear hK K
              subst hA
              refine wpStill_step (fun K hK => ?_)
              go_simp
              generalize hA : Act.mk _ _ = A
              refine hK A ?_
              clear hK K
              subst hA
              refine wpStill_step (fun K hK => ?_)
              go_simp
              generalize hA : Act.mk _ _ = A
              refine hK A ?_
              clear hK K
              subst hA
              refine wpStill_step (fun K hK => ?_)
              go_simp
              generalize hA : Act.mk _ _ = A
              refine hK A ?_
              clear hK K
              subst hA
              refine wpStill_step (fun K hK => ?_)
              go_simp
              generalize hA : Act.mk _ _ = A
              refine hK A ?_
              clear hK K
              subst hA
              refine wpStill_step (fun K hK => ?_)
              go_simp
              generalize hA : Act.mk _ _ = A
              refine hK A ?_
              clear hK K
              subst hA
              refine wpStill_step (fun K hK => ?_)
              go_simp
              generalize hA : Act.mk _ _ = A
              refine hK A ?_
              clear hK K
              subst hA
              refine wpStill_step (fun K hK => ?_)
              go_simp
              generalize hA : Act.mk _ _ = A
              refine hK A ?_
              clear hK K
              subst hA
              refine wpStill_step (fun K hK => ?_)
              go_simp
              generalize hA : Act.mk _ _ = A
              refine hK A ?_
              clear hK K
              subst hA
              refine wpStill_step (fun K hK => ?_)
              go_simp
              generalize hA : Act.mk _ _ = A
              refine hK A ?_
              clear hK K
              subst hA
              refine wpStill_step (fun K hK => ?_)
              go_simp
              generalize hA : Act.mk _ _ = A
              refine hK A ?_
              clear hK K
              subst hA
              refine wpStill_step (fun K hK => ?_)
              go_simp
              generalize hA : Act.mk _ _ = A
              refine hK A ?_
              clear hK K
              subst hA
              refine wpStill_step (fun K hK => ?_)
              go_simp
              generalize hA : Act.mk _ _ = A
              refine hK A ?_
              clear hK K
              subst hA
              refine wpStill_step (fun K hK => ?_)
              go_simp
              generalize hA : Act.mk _ _ = A
              refine hK A ?_
              clear hK K
              subst hA
              refine wpStill_step (fun K hK => ?_)
              go_simp
              generalize hA : Act.mk _ _ = A
              refine hK A ?_
              clear hK K
              subst hA
              refine wpStill_step (fun K hK => ?_)
              go_simp
              generalize hA : Act.mk _ _ = A
              refine hK A ?_
              clear hK K
              subst hA
              refine wpStill_step (fun K hK => ?_)
              go_simp
              generalize hA : Act.mk _ _ = A
              refine hK A ?_
              clear hK K
              subst hA
              refine wpStill_nil ?_
              go_wp2_with (go_at_call 9; (with_reducible refine (awake_any _).mono ?_); rintro e9 w9 ⟨rfl, k9⟩)
              have k9' : Keeps [] wr w9 := KT Kwx.out (by first | (with_reducible exact k9) | (with_reducible exact k9.ofDrew))
              go_ret
              exact ⟨rfl, KT Kst.out k9'⟩
    · have hend : ¬ (k : Int) < (l.length : Int) := by omega
      have Kn := Lib.hid hst.keeps
      clear hso hst hgx hcx
      go_wp2_with (go_at_call 9; (with_reducible refine (awake_any _).mono ?_); rintro e w5 ⟨rfl, k5⟩)
      go_ret
      exact ⟨rfl, KT Kn.out k5⟩

theorem walk_any (s : Sup) (hg : s.good) (l : List (Int × Int)) (v : Value) (G : List Nat) (W : World) (hv : SlRows W v pairv 2 l G) (hgl : ∀ p, p ∈ l → goodPair p) :
    Calls Try.prog 8 #[s.agg, v] W fun e w' => e = .returned (.bool true) ∧ Keeps [] W w' := by
  by_cases hc : s.check = 0
  · by_cases hl : l.length ≤ 20
    · exact walk_main s hg hc l v G W hv hl hgl
    · obtain ⟨ad, cap, rfl, _⟩ := hv
      exact walk_long s hg hc ad l.length cap (by omega) W
  · exact walk_bad s hg hc v W

-- ROWEND
set_option maxRecDepth 100000 in
theorem lifted (os : Os) (started : os.Started) (H : Type) (enc : TypeId × Value → H) :
    ReturnsInHanded {} Try.checked os 8 .any (Rows.superRowSpec.pre6 enc Try.prog Try.f8 Rows.superRowRow.domain false) (Rows.superRowSpec.post enc Try.prog Try.f8 false true false false) := by
  refine returnsInHanded_of_change (C := Try.checked) Try.own started (by kernel_rfl) Try.func8
    (ChangeSpec.witness6 (enc := enc) (C := Try.checked) false ⟨#[], #[.agg #[.int .u64 0, .int .i64 0, .int .i64 0, .int .i64 0, .int .i64 0, .int .i64 0], .slice none 0 0], []⟩ 8 (by kernel_rfl) (by kernel_rfl) (by kernel_rfl) (by kernel_rfl)) ?_
  intro W base args ds gs before hval0 hW _ _
  have hval : ∀ (j : Nat) t v, Try.f8.params[j]? = some t → args[j]? = some v → Value.okWide Try.prog W .any base t v := hval0
  have hW' := hW
  obtain ⟨p, q, hA0, hV, rfl, hfz, hnd⟩ := hW
  have hA : DataW.TrodAll enc Try.prog W 0 (fun _ => true) true Try.f8.params.toList args.toList ds p := hA0
  rw [Try.params8] at hA hval
  obtain ⟨v0, vs0, d0, ds0, p0, q0, hargs, rfl, rfl, h0, r0⟩ := trodAll_cons hA
  obtain ⟨v1, vs1, d1, ds1, p1, q1, rfl, rfl, rfl, h1, r1⟩ := trodAll_cons r0
  obtain ⟨rfl, rfl, rfl⟩ := trodAll_nil r1
  obtain rfl : args = #[v0, v1] := by cases args; simp_all
  obtain ⟨cs0, n0, x0, rfl, e0⟩ := open_agg Try.underlying25 (hval 0 25 v0 rfl rfl) h0
  obtain ⟨s, c0, gs⟩ := elem_sup e0
  obtain rfl : cs0 = (s.vals).toArray := by rw [← c0]
  obtain ⟨l, Gl, hl, gl, bl, ll⟩ := open_rows pairv goodPair 2 (by kernel_rfl) (by decide) Try.underlying52 (hval 1 52 v1 rfl rfl) (fun _ _ _ h => elem_pair (by kernel_rfl) (by kernel_rfl) Try.underlying49 Try.underlying3 h) h1
  refine (walk_any s gs l v1 Gl W hl gl).mono fun e W' ⟨he, hk⟩ => ?_
  subst he
  exact ⟨_, rfl, law_end Try.laidOut (by kernel_rfl) rfl rfl Try.underlying4 hW' rfl hk⟩

theorem proved : Rows.SuperRowSaid :=
  OpenClaim.holds_of_wide 8 Try.f8 rfl rfl rfl rfl rfl rfl rfl ⟨rfl, rfl, rfl, rfl, rfl⟩ rfl rfl rfl rfl rfl (by kernel_rfl) Try.func8 (by kernel_rfl)
    (of_decide_eq_true (by kernel_rfl)) (by unfold Func.isWrapper; first | (rw [if_pos (by decide +kernel)]; kernel_rfl) | (rw [if_neg (by decide +kernel)]; exact ⟨rfl, rfl⟩))
    (fun os started H enc _ => lifted os started H enc)
end Go.Proofs.Ytcbpkplmaglpcaa.lawSuperRow
