/- merestonelaw08.answers: true. -/
import Derived.Test.YtglnklfhgdjccaaGreatBendMark
import Derived.Test.YtglnklfhgdjccaaGreatFindLaw
namespace Go.Proofs.YtglnklfhgdjccaaGreat
open Go.RowKit Go.Lib
abbrev nulS : ByteArray := ⟨#[]⟩
def sqO : Plan := ⟨sqR, [⟨1, sqR, nulS⟩]⟩
def sq5 : List Pt := [⟨0, 0⟩, ⟨2, 0⟩, ⟨4, 0⟩, ⟨4, 4⟩, ⟨0, 4⟩]
def sqM : Plan := ⟨sq5, [⟨1, sq5, nulS⟩]⟩
theorem sqO_allE : allE sqO.parcels = edgesOf sqR := by unfold allE sqO; simp
theorem sqO_sound : SoundP sqO := by
  refine ⟨by decide, sq_norm, fun x hx => ?_, ?_, by rw [sqO_allE]; exact sq_pairsE, by decide⟩
  · have : x = ⟨1, sqR, nulS⟩ := by simpa [sqO] using hx
    rw [this]
    exact sq_norm
  · unfold MatchP
    rw [sqO_allE]
    exact ⟨by decide, fun e h => h, by decide⟩
theorem sq5_area : areaE sq5 = 0 ∧ areaZ sq5 = 32 := by decide
theorem five {P : Nat → Nat → Prop} (h01 : P 0 1) (h02 : P 0 2) (h03 : P 0 3) (h04 : P 0 4) (h12 : P 1 2) (h13 : P 1 3) (h14 : P 1 4) (h23 : P 2 3) (h24 : P 2 4) (h34 : P 3 4) : ∀ i j, i < j → j < 5 → P i j := by
  intro i j h1 h2
  have hi : i = 0 ∨ i = 1 ∨ i = 2 ∨ i = 3 := by omega
  have hj : j = 1 ∨ j = 2 ∨ j = 3 ∨ j = 4 := by omega
  rcases hi with rfl | rfl | rfl | rfl <;> rcases hj with rfl | rfl | rfl | rfl <;> first | omega | assumption
theorem sq5_pairs : PairsOK sq5 := fun i j hij hj => five (P := fun i j => pairOK sq5 i j = true) (by decide) (by decide) (by decide) (by decide) (by decide) (by decide) (by decide) (by decide) (by decide) (by decide) i j hij hj
theorem sq5_check : checkI sq5 = 0 := checkI_ok sq5_area.1 (by decide) (by rw [sq5_area.2]; decide) sq5_pairs
theorem sq5_lst : lst sq5 = sq5 := by decide
theorem sq5_norm : NormedP sq5 := ⟨sq5_check, sq5_lst.symm⟩
theorem sq5_pairsE : PairsE (edgesOf sq5) := by
  have h := five (P := fun i j => okR (edAt (edgesOf sq5) i) (edAt (edgesOf sq5) j) = true) (by decide) (by decide) (by decide) (by decide) (by decide) (by decide) (by decide) (by decide) (by decide) (by decide)
  intro i j hi hj hij
  have := h i j hij hj
  rw [edAt_lt hi, edAt_lt hj] at this
  exact this
theorem sqM_allE : allE sqM.parcels = edgesOf sq5 := by unfold allE sqM; simp
theorem sqM_sound : SoundP sqM := by
  refine ⟨by decide, sq5_norm, fun x hx => ?_, ?_, by rw [sqM_allE]; exact sq5_pairsE, by decide⟩
  · have : x = ⟨1, sq5, nulS⟩ := by simpa [sqM] using hx
    rw [this]
    exact sq5_norm
  · unfold MatchP
    rw [sqM_allE]
    exact ⟨by decide, fun e h => h, by decide⟩
theorem sq_ins : insG ⟨2, 0⟩ sqR = sq5 := by decide
theorem sqO_each : eachP (insG ⟨2, 0⟩) sqO = sqM := by
  unfold eachP sqO sqM eachX
  simp only [List.map_cons, List.map_nil, sq_ins, sq5_lst]
theorem sqO_mark : markE sqO ⟨2, 0⟩ = 0 ∧ markP sqO ⟨2, 0⟩ = sqM := by
  have h : markE sqO ⟨2, 0⟩ = 0 := by
    unfold markE
    rw [if_pos (planB_of sqO_sound), if_pos (by decide), if_neg (by decide), sqO_each, if_pos (by decide), if_pos (planB_of sqM_sound)]
  exact ⟨h, by unfold markP; rw [if_pos h, sqO_each]⟩
set_option maxRecDepth 100000 in
set_option maxHeartbeats 800000 in
theorem ans08_any (w : World) : Calls Tryz.prog 30 #[] w fun e w' => e = .returned (.bool true) ∧ Below w.heap.size w w' := by
  obtain ⟨wa, hwa⟩ : ∃ wa : World, wa = (w.alloc (.cells #[.int .i64 0, .int .i64 0, .int .i64 4, .int .i64 0, .int .i64 4, .int .i64 4, .int .i64 0, .int .i64 4] 43)).alloc (.cells #[.int .i64 1, .slice (some ⟨w.heap.size, 0, none⟩) 4 4, .string nulS] 40) := ⟨_, rfl⟩
  have hb1 := (Below.refl w.heap.size w).alloc (Nat.le_refl _) (.cells #[.int .i64 0, .int .i64 0, .int .i64 4, .int .i64 0, .int .i64 4, .int .i64 4, .int .i64 0, .int .i64 4] 43)
  have hr := Reads.made w #[.int .i64 0, .int .i64 0, .int .i64 4, .int .i64 0, .int .i64 4, .int .i64 4, .int .i64 0, .int .i64 4] 43 (0, 0) 2 4 (ptsV sqR) rfl rfl
  have hb0 : Below w.heap.size w wa := by rw [hwa]; exact hb1.alloc hb1.size _
  have hr0 : Reads wa wa.heap.size 2 (some ⟨w.heap.size, 0, none⟩) 4 (ptsV sqR) := by rw [hwa]; exact hr.on ((Below.refl _ _).alloc (Nat.le_refl _) _)
  have hN : Blk wa (w.heap.size + 1) 40 #[.int .i64 1, .slice (some ⟨w.heap.size, 0, none⟩) 4 4, .string nulS] := by
    have := Blk.new (w.alloc (.cells #[.int .i64 0, .int .i64 0, .int .i64 4, .int .i64 0, .int .i64 4, .int .i64 4, .int .i64 0, .int .i64 4] 43)) 40 #[.int .i64 1, .slice (some ⟨w.heap.size, 0, none⟩) 4 4, .string nulS]
    rw [World.size_alloc] at this
    rw [hwa]
    exact this
  have hin : ∀ p ∈ sqR, p.inI := by intro p hp; simp [sqR] at hp; rcases hp with rfl | rfl | rfl | rfl <;> (unfold Pt.inI; simp)
  have hP : PlanAt wa wa.heap.size (some ⟨w.heap.size, 0, none⟩) 4 4 (some ⟨w.heap.size + 1, 0, none⟩) 1 1 sqO := by
    refine ⟨hr0, pIn_one (x := ⟨1, sqR, nulS⟩) hN hr0 (Nat.le_refl _) (by omega) (Blk.lt hN), ⟨Nat.le_refl _, by omega⟩, ⟨Nat.le_refl _, by omega⟩, ⟨⟨by decide, hin⟩, by decide, fun x hx => ?_⟩⟩
    have : x = ⟨1, sqR, nulS⟩ := by simpa [sqO] using hx
    rw [this]
    exact ⟨by decide, hin, by unfold inI; simp, by decide⟩
  have kM := mark_any sqO ⟨2, 0⟩ _ _ 4 4 1 1 wa hP (by unfold Pt.inI; simp)
  rw [sqO_mark.1, sqO_mark.2] at kM
  have KM := Lib.hid kM
  have HB := Lib.hid hb0
  clear hb1 hr hb0 hr0 hN hin hP kM
  go_enter Tryz.func30, Tryz.ntmps30
  go_wp2_with fail
  rw [← hwa]
  clear hwa
  with_reducible refine KM.out.mono ?_
  rintro e w1 ⟨A, n, c, A', n', c', hs, rfl, hpo, hb1⟩
  have hP := hpo.at_
  have hn : n = 5 := hP.lens.1.symm
  subst hn
  have hK := PlK.new w1 A 5 c A' n' c'
  obtain ⟨q1, q2, -⟩ := hK.facts
  have HZ := Lib.hid ((below_on HB.out (Nat.le_refl _) hb1).alloc (below_on HB.out (Nat.le_refl _) hb1).size (.cells #[.slice A 5 c, .slice A' n' c'] 26))
  clear hP hpo hb1 HB KM hK
  go_wp2_with fail
  go_ret
  exact ⟨rfl, HZ.out⟩
end Go.Proofs.YtglnklfhgdjccaaGreat
