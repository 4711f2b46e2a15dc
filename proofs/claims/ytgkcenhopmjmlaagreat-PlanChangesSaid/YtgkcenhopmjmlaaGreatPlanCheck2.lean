/- What lies beside PlanCheck. -/
import Derived.Test.YtgkcenhopmjmlaaGreatBegin2
import Derived.Test.YtgkcenhopmjmlaaGreatPlanCheck
namespace Go.Proofs.YtgkcenhopmjmlaaGreat
open Go.RowKit
end Go.Proofs.YtgkcenhopmjmlaaGreat
namespace Go.Proofs.YtgkcenhopmjmlaaGreat
open Go.RowKit
abbrev sqS : ByteArray := ⟨#[65]⟩
def sqP : Plan := ⟨sqR, [⟨1, sqR, sqS⟩]⟩
theorem sq_allE : allE sqP.parcels = edgesOf sqR := by unfold allE sqP; simp
theorem sq_listed : listedB sqP = true := by decide
theorem sq_match : MatchP sqP := by
  unfold MatchP
  rw [sq_allE]
  exact ⟨by decide, fun e h => h, by decide⟩
theorem sq_sound : SoundP sqP := by
  refine ⟨sq_listed, sq_norm, fun x hx => ?_, sq_match, by rw [sq_allE]; exact sq_pairsE, by decide⟩
  have : x = ⟨1, sqR, sqS⟩ := by simpa [sqP] using hx
  rw [this]
  exact sq_norm
theorem sq_begin : beginE sqR 1 sqS = 0 ∧ beginP sqR 1 sqS = sqP := by
  have h : beginE sqR 1 sqS = 0 := by
    unfold beginE
    rw [if_pos sq_check, if_pos (by decide)]
  refine ⟨h, ?_⟩
  unfold beginP
  rw [if_pos h, show sqR.length = 4 from rfl, sq_rot]
  rfl
set_option maxRecDepth 100000 in
theorem ans05_any (w : World) : Calls Tryz.prog 34 #[] w fun e w' => e = .returned (.bool true) ∧ Below w.heap.size w w' := by
  have hb0 := (Below.refl w.heap.size w).alloc (Nat.le_refl _) (.cells #[.int .i64 0, .int .i64 0, .int .i64 4, .int .i64 0, .int .i64 4, .int .i64 4, .int .i64 0, .int .i64 4] 53)
  have hr := Reads.made w #[.int .i64 0, .int .i64 0, .int .i64 4, .int .i64 0, .int .i64 4, .int .i64 4, .int .i64 0, .int .i64 4] 53 (0, 0) 2 4 (ptsV sqR) rfl rfl
  have kB := begin_any sqR _ 4 4 1 sqS _ hr (by omega) (by omega) (by intro p hp; simp [sqR] at hp; rcases hp with rfl | rfl | rfl | rfl <;> (unfold Pt.inI; simp)) (by unfold inI; simp) (by decide)
  unfold BeginPost at kB
  rw [sq_begin.1, sq_begin.2] at kB
  have KB := Lib.hid kB
  have HB := Lib.hid hb0
  clear hr hb0 kB
  go_enter Tryz.func34, Tryz.ntmps34
  go_wp2_with fail
  with_reducible refine KB.out.mono ?_
  rintro e w1 ⟨A, n, c, A', n', c', rfl, hP, hb1⟩
  have hB1 := below_on HB.out (Nat.le_refl _) hb1
  have hn' : n' = 1 := hP.lens.2.1.symm
  subst hn'
  have hBa : Below w1.heap.size w1 (w1.alloc (.cells #[.slice A n c, .slice A' 1 c'] 26)) := (Below.refl _ _).alloc (Nat.le_refl _) _
  have kC := checkPl_any sqP A A' n c 1 c' _ (hP.on hBa)
  rw [planE_ok sq_sound] at kC
  have hK := PlK.new w1 A n c A' 1 c'
  obtain ⟨q1, q2, -⟩ := hK.facts
  have KC := Lib.hid kC
  have HK := Lib.hid (And.intro (below_on hB1 (Nat.le_refl _) hBa) hK)
  clear hB1 hBa kC hK hP hb1 HB KB
  go_wp2_with fail
  refine KC.out.mono ?_
  rintro e w2 ⟨rfl, hb2⟩
  obtain ⟨q1, q2, -⟩ := (HK.out.2.on hb2).facts
  have HZ := Lib.hid (below_on HK.out.1 (Nat.le_refl _) hb2)
  clear hb2 HK KC
  go_wp2_with fail
  go_ret
  exact ⟨rfl, HZ.out⟩
end Go.Proofs.YtgkcenhopmjmlaaGreat
namespace Go.Proofs.YtgkcenhopmjmlaaGreat
open Go.RowKit Go.Lib
end Go.Proofs.YtgkcenhopmjmlaaGreat
