/- Layer 4, the laws: the chapter's example. -/
import Derived.Test.YtddehagceenbnaaSsdP
namespace Go.Proofs.Ytddehagceenbnaa
open Go.RowKit

def awD1 : Dev := ((Dev.new 1).write 0 (fullL 97)).1
def awD3 : Dev := ((awD1.barrier).1.write 0 (fullL 98)).1

theorem aw1 : ((awD3.crash [2]).read 0 1) = ((fullL 98).take 32 ++ (fullL 97).drop 32, 0) := by decide +kernel
theorem aw2 : ((awD3.crash []).read 0 1) = (fullL 97, 0) := by decide +kernel

set_option maxHeartbeats 2000000 in
theorem awake_any (w : World) : Calls Try.prog 11 #[] w fun e w' => e = .returned (.bool true) ∧ Keeps [] w w' := by
  have fa : ∀ w, Calls Try.prog 13 #[.int .u8 97] w fun e w' => e = .returned (.string (str (fullL 97))) ∧ Keeps [] w w' := fun w => full_any 97 w
  have fb : ∀ w, Calls Try.prog 13 #[.int .u8 98] w fun e w' => e = .returned (.string (str (fullL 98))) ∧ Keeps [] w w' := fun w => full_any 98 w
  have Fa := Lib.hid fa
  have Fb := Lib.hid fb
  have hl : ∀ c, (str (fullL c)).size ≤ 140737488351232 := fun c => by simp [fullL]
  have Hl := Lib.hid hl
  clear fa fb hl
  go_enter Try.func11, Try.ntmps11
  go_wp2_with fail
  (with_reducible refine (hasNew 1 _ (by omega) _ (by omega) (by omega)).mono ?_)
  rintro e w1 ⟨b, F, rfl, h1, k1, f1⟩
  go_wp2_with fail
  (with_reducible refine (Fa.out _).mono ?_)
  rintro e w2 ⟨rfl, k2⟩
  go_wp2_with fail
  (with_reducible refine (hasWrite (h1.kept k2) (by omega) 0 (str (fullL 97)) (Hl.out _) (by omega)).mono ?_)
  rintro e w3 ⟨rfl, F3, h3, c3⟩
  go_wp2_with fail
  (with_reducible refine (hasBarrier h3 (by simp [fullL])).mono ?_)
  rintro e w4 ⟨rfl, F4, h4, c4⟩
  go_wp2_with fail
  (with_reducible refine (Fb.out _).mono ?_)
  rintro e w5 ⟨rfl, k5⟩
  go_wp2_with fail
  (with_reducible refine (hasWrite (h4.kept k5) (by simp [fullL]) 0 (str (fullL 98)) (Hl.out _) (by omega)).mono ?_)
  rintro e w6 ⟨rfl, F6, h6, c6⟩
  go_wp2_with fail
  (with_reducible refine (hasCopy h6 (by simp [fullL])).mono ?_)
  rintro e w7 ⟨c, G, rfl, h7, k7, f7⟩
  have h6' : Has w6 b awD3 F6 2 := h6.le (by simp [fullL])
  have h7' : Has w7 c awD3 G 2 := h7.le (by simp [fullL])
  have hdj : ∀ x, x ∈ G → x ∉ F6 := fun x hx hx' => by have := f7 x hx; have := h6.lt x hx'; omega
  have n6 : New w w6 F6 := (((((New.refl w).add k1 f1).step k2).chg c3).chg c4 |>.step k5).chg c6
  have n7 : New w w7 G := n6.add k7 f7
  have n7' : New w w7 F6 := n6.step k7
  have hk7 := h6'.kept k7
  clear h6 h7 h1 h3 h4 k1 k2 c3 c4 k5 c6 k7 f1 f7 n6 h6'
  go_wp2_with fail
  (with_reducible refine (hasCrash (hk7.kept ((Keeps.refl [] _).alloc _)) (by omega) _ [2] [w7.heap.size] (SlAt.lit w7 [.int .i64 2] _ 1 rfl) (one_lt (by simp)) (one_any (fun k hk => hk7.lt k hk) (Nat.le_refl _))).mono ?_)
  rintro e w8 ⟨rfl, F8, h8, c8⟩
  have n8 := (n7'.step ((Keeps.refl [] _).alloc _)).chg c8
  have h8' := (h7'.kept ((Keeps.refl [] _).alloc _)).apart c8 hdj
  have n8' := (n7.step ((Keeps.refl [] _).alloc _)).other (n7'.step ((Keeps.refl [] _).alloc _)) c8
  have hdj8 : ∀ x, x ∈ F8 → x ∉ G := fun x hx hx' => c8.apart (fun k hk => (h7'.kept ((Keeps.refl [] _).alloc _)).lt k hk) hdj x hx' hx
  go_wp2_with fail
  (with_reducible refine (hasCrash h8' (by omega) (.slice none 0 0) [] [] (SlAt.nil _ _) (by simp) (by simp)).mono ?_)
  rintro e w9 ⟨rfl, G9, h9, c9⟩
  have h9' := h8.apart c9 hdj8
  have n9 := n8'.chg c9
  have hr1 := hasRead h9' 0 1 (by omega)
  rw [aw1] at hr1
  go_wp2_with fail
  (with_reducible refine hr1.mono ?_)
  rintro e wa ⟨rfl, ka⟩
  have hr2 := hasRead (h9.kept ka) 0 1 (by omega)
  rw [aw2] at hr2
  have na := n9.step ka
  go_wp2_with fail
  (with_reducible refine hr2.mono ?_)
  rintro e wb ⟨rfl, kb⟩
  have nb := na.step kb
  have Hkb := Lib.hid nb.keeps
  clear h8 h9 h9' c8 c9 n8 n8' n9 h8' hdj hdj8 n7 n7' h7' hk7 hr1 hr2 ka kb na nb
  have x1 := full_take 98 32
  have x2 := full_drop 97 32
  have x3 := fullL_len 97
  have x4 := fullL_len 98
  go_wp2
  go_region_held3 (fun w' => Keeps [] wb w') (first | exact (Keeps.refl [] wb).drew | (exact Keeps.trans (by assumption) (by assumption) (by simp)))
    (first | (go_at_call 13; (with_reducible refine (Fb.out _).mono ?_); rintro e wc ⟨rfl, kc⟩) | (go_at_call 13; (with_reducible refine (Fa.out _).mono ?_); rintro e wd ⟨rfl, kd⟩))
  go_wp2
  go_ret
  exact ⟨rfl, Hkb.out.trans (by assumption) (by simp)⟩
end Go.Proofs.Ytddehagceenbnaa
