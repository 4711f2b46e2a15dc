/- GridSteps: the walk: true, and older memory is as it was. -/
import Derived.Test.YtfdagmlfaklcbaaLawGridAt
namespace Go.Proofs.Ytfdagmlfaklcbaa
open Go.RowKit
theorem steps_plain (x y k : Int) (h : good ⟨x, y⟩ = true) (hk0 : 0 ≤ k) (hk : k < 268435456) : ∃ ax ay : Int, -4 ≤ ax ∧ ax ≤ 4 ∧ -4 ≤ ay ∧ ay ≤ 4 ∧ atV ⟨x, y⟩ = (⟨ax, ay⟩, 0) ∧ (atV ⟨x + 268435456, y⟩ = (⟨ax + 1, ay⟩, 0) ∨ atV ⟨x + 268435456, y⟩ = (⟨0, 0⟩, 3)) ∧
    (atV ⟨x, y + k⟩ = (⟨ax, ay⟩, 0) ∨ atV ⟨x, y + k⟩ = (⟨ax, ay + 1⟩, 0) ∨ atV ⟨x, y + k⟩ = (⟨0, 0⟩, 3)) := by
  have hg := (good_iff _).1 h
  simp only at hg
  refine ⟨x / 268435456, y / 268435456, by omega, by omega, by omega, by omega, ?_, ?_, ?_⟩
  · unfold atV; rw [if_pos h]; rfl
  · unfold atV
    by_cases h2 : good ⟨x + 268435456, y⟩ = true
    · left
      rw [if_pos h2]
      unfold cellOf
      simp only
      rw [show (x + 268435456) / 268435456 = x / 268435456 + 1 from by omega]
    · right; rw [if_neg h2]
  · unfold atV
    by_cases h2 : good ⟨x, y + k⟩ = true
    · rw [if_pos h2]
      unfold cellOf
      simp only
      by_cases h3 : (y + k) / 268435456 = y / 268435456
      · left; rw [h3]
      · right; left; rw [show (y + k) / 268435456 = y / 268435456 + 1 from by omega]
    · right; right; rw [if_neg h2]
set_option maxRecDepth 100000 in
set_option maxHeartbeats 800000 in
theorem gridSteps_no (p : Pt) (d : Int) (w : World) (hp : p.inI) (hd0 : 0 ≤ d) (hg : good p = false) :
    Calls Try.prog 4 #[ptV p, .int .u32 d] w fun e w' => e = .returned (.bool true) ∧ Below w.heap.size w w' := by
  have hpI := hp
  have hgl : goodL [p] = good p := by simp [goodL]
  rw [hg] at hgl
  have HG := Lib.hid hgl
  clear hg hgl
  obtain ⟨⟨i1, i2⟩, i3, i4⟩ := hp
  unfold ptV
  go_enter Try.func4, Try.ntmps4
  go_wp2_with fail
  generalize hW : World.alloc (World.alloc (World.alloc w _) _) _ = W
  have hP : HasPt W w.heap.size p := by
    rw [← hW]
    exact ((HasPt.new w p 23).alloc _).alloc _
  have hB : Below w.heap.size w W := by
    rw [← hW]
    exact (((Below.refl _ _).alloc (Nat.le_refl _) _).alloc (by simp) _).alloc (by simp; omega) _
  clear hW
  refine (ans09_any _).mono ?_
  rintro e w1 ⟨rfl, hb1⟩
  have hp1 := hP.on hb1
  have hx1 := hp1.1
  have hy1 := hp1.2.1
  have hB1 := hB.trans (hb1.mono hB.size)
  clear hb1 hB hP hp1
  go_wp2_with fail
  refine (goodR_any [p] _ 1 1 _ ?hq (by omega) (by simpa using hpI)).mono ?_
  case hq => exact Reads.new_pt' _ p.x p.y _ _ _ rfl
  rintro e w2 ⟨rfl, hb2⟩
  rw [HG.out]
  have hB2 := (hB1.alloc hB1.size _).trans (hb2.mono (by simp; have := hB1.size; omega))
  clear hb2 hB1 hx1 hy1
  go_wp2_with fail
  refine (ans09_any _).mono ?_
  rintro e w3 ⟨rfl, hb3⟩
  go_wp2
  go_ret
  exact ⟨rfl, hB2.trans (hb3.mono hB2.size)⟩
set_option maxRecDepth 100000 in
set_option maxHeartbeats 3200000 in
theorem gridSteps_yes (x y d : Int) (w : World) (hpI : Pt.inI ⟨x, y⟩) (hd0 : 0 ≤ d) (hg : good ⟨x, y⟩ = true) :
    Calls Try.prog 4 #[ptV ⟨x, y⟩, .int .u32 d] w fun e w' => e = .returned (.bool true) ∧ Below w.heap.size w w' := by
  have hgl : goodL [⟨x, y⟩] = good ⟨x, y⟩ := by simp [goodL]
  have hgb := (good_iff _).1 hg
  simp only at hgb
  obtain ⟨k, hk⟩ : ∃ k, k = d % 268435456 := ⟨_, rfl⟩
  have hk0 : 0 ≤ k := by omega
  have hk1 : k < 268435456 := by omega
  obtain ⟨ax, ay, a1, a2, a3, a4, hva, hvb, hvc⟩ := steps_plain x y k hg hk0 hk1
  rw [hg] at hgl
  have HG := Lib.hid hgl
  have HA := Lib.hid hva
  have hkk : d % 268435456 = k := hk.symm
  obtain ⟨g1, g2, g3, g4⟩ := hgb
  clear hg hgl hva hk
  unfold ptV
  go_enter Try.func4, Try.ntmps4
  go_wp2_with fail
  generalize hW : World.alloc (World.alloc (World.alloc w _) _) _ = W
  have hP : HasPt W w.heap.size ⟨x, y⟩ := by
    rw [← hW]
    exact ((HasPt.new w ⟨x, y⟩ 23).alloc _).alloc _
  have hX : HasPt W (w.heap.size + 1) ⟨x + 268435456, y⟩ := by
    rw [← hW]
    have := (HasPt.new (w.alloc (.cells #[.int .i64 x, .int .i64 y] 23)) ⟨x + 268435456, y⟩ 23)
    rw [World.size_alloc] at this
    exact this.alloc _
  have hY : HasPt W (w.heap.size + 1 + 1) ⟨x, y + k⟩ := by
    rw [← hW]
    have := (HasPt.new ((w.alloc (.cells #[.int .i64 x, .int .i64 y] 23)).alloc (.cells #[.int .i64 (x + 268435456), .int .i64 y] 23)) ⟨x, y + k⟩ 23)
    rw [World.size_alloc, World.size_alloc] at this
    exact this
  have hB : Below w.heap.size w W := by
    rw [← hW]
    exact (((Below.refl _ _).alloc (Nat.le_refl _) _).alloc (by simp) _).alloc (by simp; omega) _
  clear hW hkk
  refine (ans09_any _).mono ?_
  rintro e w1 ⟨rfl, hb1⟩
  have hp1 := hP.on hb1
  have hxx1 := hX.on hb1
  have hyy1 := hY.on hb1
  have hx1 : w1.cell? ⟨w.heap.size, 0, none⟩ = some (.int .i64 x) := hp1.1
  have hy1 : w1.cell? ⟨w.heap.size, 1, none⟩ = some (.int .i64 y) := hp1.2.1
  have hB1 := hB.trans (hb1.mono hB.size)
  clear hb1 hB hP hX hY
  go_wp2_with fail
  refine (goodR_any [⟨x, y⟩] _ 1 1 _ ?hq (by omega) (by simpa using hpI)).mono ?_
  case hq => exact Reads.new_pt' _ x y _ _ _ rfl
  rintro e w2 ⟨rfl, hb2⟩
  rw [HG.out]
  have hp2 := (hp1.alloc _).on hb2
  have hxx2 := (hxx1.alloc _).on hb2
  have hyy2 := (hyy1.alloc _).on hb2
  have hx2 : w2.cell? ⟨w.heap.size, 0, none⟩ = some (.int .i64 x) := hp2.1
  have hy2 : w2.cell? ⟨w.heap.size, 1, none⟩ = some (.int .i64 y) := hp2.2.1
  have hB2 := (hB1.alloc hB1.size _).trans (hb2.mono (by simp; have := hB1.size; omega))
  clear hb2 hB1 hx1 hy1 hp1 hxx1 hyy1
  go_wp2_with fail
  refine (at_any ⟨x, y⟩ _ hpI).mono ?_
  rw [HA.out]
  unfold ptV
  rintro e w3 ⟨rfl, hb3⟩
  have hxx3 := hxx2.on hb3
  have hyy3 := (hyy2.on hb3).alloc (.cells #[.int .i64 ax, .int .i64 ay] 24)
  have haa3 := HasPt.new w3 ⟨ax, ay⟩ 24
  have hl3 := hxx3.2.2
  have hxc : (w3.alloc (.cells #[.int .i64 ax, .int .i64 ay] 24)).cell? ⟨w.heap.size + 1, 0, none⟩ = some (.int .i64 (x + 268435456)) := (hxx3.alloc _).1
  have hyc : (w3.alloc (.cells #[.int .i64 ax, .int .i64 ay] 24)).cell? ⟨w.heap.size + 1, 1, none⟩ = some (.int .i64 y) := (hxx3.alloc _).2.1
  have hB3 := (hB2.trans (hb3.mono hB2.size)).alloc (Nat.le_trans hB2.size hb3.size) (.cells #[.int .i64 ax, .int .i64 ay] 24)
  clear hb3 hB2 hx2 hy2 hp2 hxx2 hyy2 hxx3
  go_wp2_with fail
  rcases hvb with hvb | hvb
  all_goals
    have HVB := Lib.hid hvb
    clear hvb
    refine (at_any ⟨x + 268435456, y⟩ _ (by unfold Pt.inI; simp only; omega)).mono ?_
    rw [HVB.out]
    unfold ptV
    rintro e w4 ⟨rfl, hb4⟩
    have hyy4 := hyy3.on hb4
    have haa4 := haa3.on hb4
    have hl4 := hyy4.2.2
    have hl4' := haa4.2.2
    have hB4 := hB3.trans (hb4.mono hB3.size)
    have hBB := hB4.alloc hB4.size (.cells #[.int .i64 (ax + 1), .int .i64 ay] 24)
    have hB0 := hB4.alloc hB4.size (.cells #[.int .i64 0, .int .i64 0] 24)
    have hyx := hyy4.1
    have hyy := hyy4.2.1
    have hax := haa4.1
    have hay := haa4.2.1
    simp only at hyx hyy hax hay
    have hbn1 : HasPt (w4.alloc (.cells #[.int .i64 (ax + 1), .int .i64 ay] 24)) w4.heap.size ⟨ax + 1, ay⟩ := HasPt.new w4 ⟨ax + 1, ay⟩ 24
    have hbn0 : HasPt (w4.alloc (.cells #[.int .i64 0, .int .i64 0] 24)) w4.heap.size ⟨0, 0⟩ := HasPt.new w4 ⟨0, 0⟩ 24
    have HN1 := Lib.hid (And.intro hbn1 (And.intro (haa4.alloc (.cells #[.int .i64 (ax + 1), .int .i64 ay] 24)) hBB))
    have HN0 := Lib.hid (And.intro hbn0 (And.intro (haa4.alloc (.cells #[.int .i64 0, .int .i64 0] 24)) hB0))
    clear hb4 hyy4 hyy3 haa3 haa4 hB3 hxc hyc hB4 hBB hB0 hbn1 hbn0
    go_wp2_with fail
    rcases hvc with hvc | hvc | hvc
    all_goals
      have HVC := Lib.hid hvc
      clear hvc
      refine (at_any ⟨x, y + k⟩ _ (by unfold Pt.inI; simp only; omega)).mono ?_
      rw [HVC.out]
      unfold ptV
      rintro e w5 ⟨rfl, hb5⟩
      clear hyx hyy hax hay
      first
      | (have hb5' : Below (w4.alloc (.cells #[.int .i64 (ax + 1), .int .i64 ay] 24)).heap.size (w4.alloc (.cells #[.int .i64 (ax + 1), .int .i64 ay] 24)) w5 := hb5
         obtain ⟨n1, n2, n3⟩ := HN1.out
         have hbx := (n1.on hb5').1
         have hby := (n1.on hb5').2.1
         have hbz := (n1.on hb5').2.2
         have hax := (n2.on hb5').1
         have hay := (n2.on hb5').2.1
         have haz := (n2.on hb5').2.2
         have hB5 := n3.trans (hb5'.mono n3.size))
      | (have hb5' : Below (w4.alloc (.cells #[.int .i64 0, .int .i64 0] 24)).heap.size (w4.alloc (.cells #[.int .i64 0, .int .i64 0] 24)) w5 := hb5
         obtain ⟨n1, n2, n3⟩ := HN0.out
         have hbx := (n1.on hb5').1
         have hby := (n1.on hb5').2.1
         have hbz := (n1.on hb5').2.2
         have hax := (n2.on hb5').1
         have hay := (n2.on hb5').2.1
         have haz := (n2.on hb5').2.2
         have hB5 := n3.trans (hb5'.mono n3.size))
      simp only at hbx hby hax hay
      have hne : (ay + 1 == ay) = false := by simp; omega
      clear hb5 hb5' n1 n2 n3 HN1 HN0
      go_wp2
      go_ret
      exact ⟨rfl, hB5.alloc hB5.size _⟩
theorem gridSteps_any (p : Pt) (d : Int) (w : World) (hp : p.inI) (hd0 : 0 ≤ d) :
    Calls Try.prog 4 #[ptV p, .int .u32 d] w fun e w' => e = .returned (.bool true) ∧ Below w.heap.size w w' := by
  rcases hg : good p with _ | _
  · exact gridSteps_no p d w hp hd0 hg
  · obtain ⟨x, y⟩ := p
    exact gridSteps_yes x y d w hp hd0 hg
end Go.Proofs.Ytfdagmlfaklcbaa
