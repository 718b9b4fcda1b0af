/- Layer 10: Parts; the law's Few and Plain. -/
import Derived.Test.YtjebldfmkpfafaaRecF
namespace Go.Proofs.Ytjebldfmkpfafaa
open Go.RowKit
set_option maxRecDepth 100000

theorem tyStrs : SlTy Try.prog 35 9 1 16 (.string ⟨#[]⟩) := SlTy.mk' Try.underlying35 (by kernel_rfl) rfl (by decide)

/-- Where the data of a span begin; they; all up to one. -/
def atK (l : List Sp) (k : Nat) : Nat := (totS (l.take k)).toNat * 64
def pieceK (d : List UInt8) (l : List Sp) (k : Nat) : List UInt8 := (d.drop (atK l k)).take (((l[k]?).getD (0, 0)).2.toNat * 64)
def partsK (d : List UInt8) (l : List Sp) : Nat → List (List UInt8)
  | 0 => []
  | k + 1 => partsK d l k ++ [pieceK d l k]
theorem partsK_length (d : List UInt8) (l : List Sp) : ∀ k, (partsK d l k).length = k
  | 0 => rfl
  | k + 1 => by rw [partsK, List.length_append, partsK_length d l k]; rfl
theorem partsK_get (d : List UInt8) (l : List Sp) : ∀ n k, k < n → (partsK d l n)[k]? = some (pieceK d l k)
  | 0, k, h => by omega
  | n + 1, k, h => by
    rw [partsK]
    by_cases hk : k < n
    · rw [List.getElem?_append_left (by rw [partsK_length]; exact hk), partsK_get d l n k hk]
    · obtain rfl : k = n := by omega
      rw [List.getElem?_append_right (by rw [partsK_length]; exact Nat.le_refl _), partsK_length, Nat.sub_self]; rfl
def Rc.parts (r : Rc) : List (List UInt8) := if r.check = 0 ∧ r.kd = 1 then partsK r.dt r.sp r.sp.length else []

theorem totS_take_le (l : List Sp) (h : ∀ s, s ∈ l → 0 ≤ s.2 ∧ s.2 ≤ 65536) (k : Nat) : 0 ≤ totS (l.take k) ∧ totS (l.take k) ≤ totS l := by
  have e : totS l = totS (l.take k) + totS (l.drop k) := by
    clear h
    induction l generalizing k with
    | nil => simp [totS]
    | cons s r ih =>
      cases k with
      | zero => simp [totS]
      | succ k => show s.2 + totS r = s.2 + totS (r.take k) + totS (r.drop k); rw [ih k]; omega
  have h1 := totS_bd (l.take k) (fun s hs => h s (List.mem_of_mem_take hs))
  have h2 := totS_bd (l.drop k) (fun s hs => h s (List.mem_of_mem_drop hs))
  omega

set_option maxHeartbeats 4000000 in
theorem few_any (r : Rc) (sv : Value) (G : List Nat) (w : World) (hr : r.good w sv G) :
    Calls Try.prog 9 #[r.val sv] w fun e w' => e = .returned (.bool (decide ((r.sp.length : Int) ≤ 80) && (decide ((r.dt.length : Int) ≤ 2000) || (decide (32768 < (r.dt.length : Int)) && decide ((r.dt.length : Int) < 40000))) && decide ((r.tx.length : Int) ≤ 600))) ∧ Keeps [] w w' := by
  have K0 := Lib.hid ((Keeps.refl [] w).alloc (rbox r sv))
  unfold rbox at K0
  unfold Rc.val at *
  have hsl := hr.sl
  have hdl := hr.dt
  have htl := hr.tx
  obtain ⟨ad, cap, rfl, _⟩ := hr.at_
  clear hr
  have hn : (r.sp.length : Int) ≤ 9223372036854775807 := by omega
  have hn2 : (r.dt.length : Int) ≤ 9223372036854775807 := by omega
  have hn3 : (r.tx.length : Int) ≤ 9223372036854775807 := by omega
  cases h1 : decide ((r.sp.length : Int) ≤ 80)
  · go_enter Try.func9, Try.ntmps9
    go_wp2
    go_ret
    exact ⟨rfl, K0.out⟩
  · cases h5 : decide ((r.tx.length : Int) ≤ 600)
    all_goals
      cases h2 : decide ((r.dt.length : Int) ≤ 2000)
      · cases h3 : decide (32768 < (r.dt.length : Int))
        · go_enter Try.func9, Try.ntmps9
          go_wp2
          go_ret
          exact ⟨rfl, K0.out⟩
        · cases h4 : decide ((r.dt.length : Int) < 40000)
          all_goals
            go_enter Try.func9, Try.ntmps9
            go_wp2
            go_ret
            exact ⟨rfl, K0.out⟩
      · go_enter Try.func9, Try.ntmps9
        go_wp2
        go_ret
        exact ⟨rfl, K0.out⟩

set_option maxHeartbeats 4000000 in
theorem plain_any (r : Rc) (sv : Value) (G : List Nat) (w : World) (hr : r.good w sv G) :
    Calls Try.prog 12 #[r.val sv] w fun e w' => e = .returned (r.val sv) ∧ Keeps [] w w' := by
  have K0 := Lib.hid (fun o2 => ((Keeps.refl [] w).alloc (rbox r sv)).alloc o2)
  unfold rbox at K0
  unfold Rc.val at *
  obtain ⟨ad, cap, rfl, _⟩ := hr.at_
  clear hr
  go_enter Try.func12, Try.ntmps12
  go_wp2
  refine bodyPost_ret (results_row rfl rfl (heap_at (by simp)) Try.underlying29 rfl (by kernel_rfl)) rfl ⟨rfl, K0.out _⟩
end Go.Proofs.Ytjebldfmkpfafaa
