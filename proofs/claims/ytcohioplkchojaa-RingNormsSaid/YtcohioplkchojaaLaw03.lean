/- merestonelaw03.answers: true. -/
/- The rings' laws' own words: a ring of its own. -/
import Derived.Test.YtcohioplkchojaaCheck
import Derived.Test.YtcohioplkchojaaCollect
namespace Go.Proofs.Ytcohioplkchojaa
open Go.RowKit
def sqR : List Pt := [⟨0, 0⟩, ⟨4, 0⟩, ⟨4, 4⟩, ⟨0, 4⟩]
theorem sq_area : areaE sqR = 0 ∧ areaZ sqR = 32 := by decide
theorem sq_pairs : PairsOK sqR := fun i j hij hj => by
  have hj' : j < 4 := hj
  have h : ∀ i j : Nat, i < j → j < 4 → pairOK sqR i j = true := by
    intro i j h1 h2
    have hi : i = 0 ∨ i = 1 ∨ i = 2 := by omega
    have hj : j = 1 ∨ j = 2 ∨ j = 3 := by omega
    rcases hi with rfl | rfl | rfl <;> rcases hj with rfl | rfl | rfl <;> first | omega | decide
  exact h i j hij hj'
theorem sq_check : checkI sqR = 0 := checkI_ok sq_area.1 (by decide) (by rw [sq_area.2]; decide) sq_pairs
theorem sq_side : sideI sqR ⟨2, 2⟩ = 1 := by
  rw [sideI_off, if_pos (by decide)]
  intro i hi
  have hi' : i < 4 := hi
  have h : i = 0 ∨ i = 1 ∨ i = 2 ∨ i = 3 := by omega
  rcases h with rfl | rfl | rfl | rfl <;> decide
theorem sq_sideW : sideV sqR ⟨2, 2⟩ = 1 ∧ sideE sqR ⟨2, 2⟩ = 0 := by
  have hg : good ⟨2, 2⟩ = true := by decide
  constructor
  · unfold sideV; rw [if_neg (by rw [sq_check]; decide), if_pos hg]; exact sq_side
  · unfold sideE; rw [if_neg (by rw [sq_check]; decide), if_pos hg]
set_option maxRecDepth 100000 in
theorem ans03_any (w : World) : Calls Try.prog 18 #[] w fun e w' => e = .returned (.bool true) ∧ Below w.heap.size w w' := by
  have hb0 := (Below.refl w.heap.size w).alloc (Nat.le_refl _) (.cells #[.int .i64 0, .int .i64 0, .int .i64 4, .int .i64 0, .int .i64 4, .int .i64 4, .int .i64 0, .int .i64 4] 35)
  have hr : Reads (w.alloc (.cells #[.int .i64 0, .int .i64 0, .int .i64 4, .int .i64 0, .int .i64 4, .int .i64 4, .int .i64 0, .int .i64 4] 35)) (w.alloc (.cells #[.int .i64 0, .int .i64 0, .int .i64 4, .int .i64 0, .int .i64 4, .int .i64 4, .int .i64 0, .int .i64 4] 35)).heap.size 2 (some ⟨w.heap.size, 0, none⟩) 4 (ptsV sqR) := Reads.made w _ _ _ 2 4 _ rfl rfl
  have HK := Lib.hid (sideW_any sqR ⟨2, 2⟩ _ 4 4 _ hr (by omega) (by intro p hp; simp [sqR] at hp; rcases hp with rfl | rfl | rfl | rfl <;> (unfold Pt.inI; simp)) (by unfold Pt.inI; simp))
  have HB := Lib.hid hb0
  clear hr hb0
  rw [sq_sideW.1, sq_sideW.2] at HK
  unfold ptV at HK
  go_enter Try.func18, Try.ntmps18
  go_wp2_with fail
  with_reducible refine HK.out.mono ?_
  rintro e w1 ⟨rfl, hb1⟩
  have hB1 := below_on HB.out (Nat.le_refl _) hb1
  clear hb1 HK HB
  go_wp2_with fail
  go_ret
  exact ⟨rfl, hB1⟩
end Go.Proofs.Ytcohioplkchojaa
namespace Go.Proofs.Ytcohioplkchojaa
open Go.RowKit
set_option maxHeartbeats 400000 in
theorem own03_any (xs : List Pt) (A : Option Addr) (n cap : Nat) (w : World) (hr : Reads w w.heap.size 2 A n (ptsV xs)) (hn : n ≤ 8796093022208) :
    Calls Try.prog 16 #[.slice A n cap] w fun e w' => ∃ A' c, e = .returned (.slice A' n c) ∧ w'.ownsRow w.heap.size 35 2 (.slice A' n c) n (ptsV xs) ∧ Below w.heap.size w w' := by
  obtain ⟨i0, hi0, hz0, hz1, hz2⟩ := info_parts info_pt
  have hb1 := (Below.refl w.heap.size w).alloc (Nat.le_refl _) (.cells #[] 35)
  have hown1 : (w.alloc (.cells #[] 35)).ownsRow w.heap.size 35 2 (.slice (some ⟨w.heap.size, 0, none⟩) 0 0) 0 [] :=
    ⟨by simp, .inr ⟨w.heap.size, 0, #[], rfl, Nat.le_refl _, Blk.new w _ _, Nat.le_refl _, by simp [maxLen], by simp, by simp⟩⟩
  have hrd := hr.below hb1
  go_enter Try.func16, Try.ntmps16
  go_wp2_with (at_builtin; refine wpList_append_any _ rfl (.tmp 3) (.tmp 4) _ rfl w.heap.size 35 i0 _ 2 16 Try.underlying23 hi0 hz0 hz1 hz2 rfl (by omega) (.slice (some ⟨w.heap.size, 0, none⟩) 0 0) 0 [] rfl hown1 w.heap.size A n cap (ptsV xs) rfl hrd (ptsV_one xs) (by simp only [maxLen]; omega) (by omega) (by simp) ?_
               intro v2 w2 hown2 hg2 hat2)
  go_ret
  rw [Nat.zero_add, List.nil_append] at hown2
  have hb2 : Below w.heap.size w w2 := hb1.grown hg2 hb1.size (by intro k hk; simp [Value.ownBlock] at hk; omega)
  obtain ⟨A2, c2, rfl⟩ := own_form hown2
  exact ⟨_, _, rfl, hown2, hb2⟩
end Go.Proofs.Ytcohioplkchojaa
