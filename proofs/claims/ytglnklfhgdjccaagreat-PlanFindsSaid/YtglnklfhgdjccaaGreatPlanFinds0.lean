/- merestonelaw05.PlanFinds: the walk. -/
import Derived.Deep.DeepCutAuto
import Derived.Test.YtglnklfhgdjccaaGreatFindLaw
import Derived.Test.YtglnklfhgdjccaaGreatCheckPR
namespace Go.Proofs.YtglnklfhgdjccaaGreat
open Go.RowKit
set_option maxRecDepth 100000 in
set_option maxHeartbeats 6400000 in
theorem planFinds_any (p : Plan) (id : Int) (q : Pt) (ed : Ed) (A A' : Option Addr) (n c n' c' : Nat) (w : World) (h : PlanAt w w.heap.size A n c A' n' c' p) (hq : q.inI) :
    Calls Tryz.prog 7 #[planV A n c A' n' c', .int .i64 id, .agg #[.int .i64 q.x, .int .i64 q.y], .agg #[.int .i64 ed.a.x, .int .i64 ed.a.y, .int .i64 ed.b.x, .int .i64 ed.b.y]] w fun e w' => e = .returned (.bool true) ∧ Below w.heap.size w w' := by
  obtain ⟨wa, hwa⟩ : ∃ wa : World, wa = ((w.alloc (.cells #[.slice A n c, .slice A' n' c'] 26)).alloc (.cells #[.int .i64 q.x, .int .i64 q.y] 43)).alloc (.cells #[.int .i64 ed.a.x, .int .i64 ed.a.y, .int .i64 ed.b.x, .int .i64 ed.b.y] 45) := ⟨_, rfl⟩
  have hF : FB p q ed A n c A' n' c' w wa := by
    have hB0 : Below w.heap.size w wa := by rw [hwa]; exact (((Below.refl _ _).alloc (Nat.le_refl _) _).alloc (by simp) _).alloc (by simp; omega) _
    refine ⟨hB0, by rw [hwa]; exact Blk.alloc (Blk.alloc (PlK.new w A n c A' n' c') _) _, ?_, ?_, h.on hB0⟩
    · have := PtK.new (w.alloc (.cells #[.slice A n c, .slice A' n' c'] 26)) q
      rw [World.size_alloc] at this
      rw [hwa]
      exact Blk.alloc this _
    · have := Blk.new ((w.alloc (.cells #[.slice A n c, .slice A' n' c'] 26)).alloc (.cells #[.int .i64 q.x, .int .i64 q.y] 43)) 45 #[.int .i64 ed.a.x, .int .i64 ed.a.y, .int .i64 ed.b.x, .int .i64 ed.b.y]
      rw [World.size_alloc, World.size_alloc] at this
      rw [hwa]
      exact this
  have H0 := Lib.hid hF
  have HQ := Lib.hid hq
  clear hF h hq
  go_enter Tryz.func7, Tryz.ntmps7
  go_upto_region 1 with fail
  rw [← hwa]
  clear hwa
  go_wp2_with (go_at_call 15; (with_reducible refine (ans05_any _).mono ?_); rintro e w1 ⟨rfl, hb1⟩; have H1 := Lib.hid (H0.out.on hb1); obtain ⟨q1, q2⟩ := H1.out.plan; clear hb1 H0)
  refine (small_any p A A' n c n' c' w1 H1.out.2.2.2.2).mono ?_
  rintro e w2 ⟨b, rfl, hsm, hb2⟩
  have H2 := Lib.hid (H1.out.on hb2)
  clear hb2 q1 q2 H1
  rcases b with _ | _
  · clear hsm
    go_wp2_with fail
    refine (ans05_any _).mono ?_
    rintro e w3 ⟨rfl, hb3⟩
    have HB := Lib.hid (below_on H2.out.1 (Nat.le_refl _) hb3)
    clear hb3 H2
    go_wp2_with fail
    go_ret
    exact ⟨rfl, HB.out⟩
  have hn' : n' ≤ 1048576 := by have := (hsm rfl).1; omega
  clear hsm
  have kO := ownPl_any p A A' n c n' c' w2 H2.out.2.2.2.2 hn'
  have HN := Lib.hid hn'
  have KO := Lib.hid kO
  obtain ⟨q1, q2⟩ := H2.out.plan
  clear kO
  go_wp2_with fail
  refine KO.out.mono ?_
  rintro e w3 ⟨A1, n1, c1, A2, n2, c2, rfl, hP3, hb3⟩
  have KF := Lib.hid (find_any p id A1 A2 n1 c1 n2 c2 w3 hP3)
  have H3 := Lib.hid (H2.out.on hb3)
  clear hP3 hb3 H2 KO q1 q2
  go_wp2_with fail
  refine KF.out.mono ?_
  rintro e w4 ⟨Ax, nx, cx, rfl, ⟨hrx, hnx⟩, hb4⟩
  obtain ⟨x, hx⟩ : ∃ x, x = findX p id := ⟨_, rfl⟩
  obtain ⟨ef, hef⟩ : ∃ ef, ef = findE p id := ⟨_, rfl⟩
  rw [← hx] at hrx
  have HX := Lib.hid (And.intro hx hef)
  obtain ⟨w5, hw5⟩ : ∃ w5, w5 = w4.alloc (.cells #[.int .i64 x.id, .slice Ax nx cx, .string x.owner] 40) := ⟨_, rfl⟩
  have hba : Below w4.heap.size w4 w5 := by rw [hw5]; exact (Below.refl _ _).alloc (Nat.le_refl _) _
  have hG : PcK w5 w4.heap.size x Ax nx cx := by rw [hw5]; exact PcK.new w4 x Ax nx cx
  have H5 := Lib.hid (And.intro ((H3.out.on hb4).on hba) (And.intro hG (hrx.on hba)))
  have HNX := Lib.hid hnx
  clear hrx hnx hb4 H3 KF hG hba
  rw [← hx, ← hef]
  clear hx hef
  go_upto_region 4 with fail
  rw [← hw5]
  obtain ⟨Bx, hBx⟩ : ∃ Bx, Bx = w4.heap.size := ⟨_, rfl⟩
  rw [← hBx] at H5
  rw [← hBx]
  clear hw5 hBx
  obtain ⟨yes, hyes⟩ : ∃ yes, yes = cornerV p q := ⟨_, rfl⟩
  obtain ⟨ec, hec⟩ : ∃ ec, ec = cornerE p q := ⟨_, rfl⟩
  have kO := ownPl_any p A A' n c n' c' w5.drew (H5.out.1.on (Below.refl _ _).drew).2.2.2.2 HN.out
  have kC := fun A n c A' n' c' V hV => corner_any p q A A' n c n' c' V hV HQ.out
  rw [← hyes, ← hec] at kC
  have HC := Lib.hid (And.intro hyes hec)
  clear hyes hec
  obtain ⟨q1, q2⟩ := H5.out.1.plan
  obtain ⟨r1, r2⟩ := H5.out.1.pt
  have hP0 : w5.drew.cell? ⟨w.heap.size, 0, none⟩ = some (.slice A n c) ∧ w5.drew.cell? ⟨w.heap.size, 1, none⟩ = some (.slice A' n' c') ∧ w5.drew.cell? ⟨w.heap.size + 1, 0, none⟩ = some (.int .i64 q.x) ∧ w5.drew.cell? ⟨w.heap.size + 1, 1, none⟩ = some (.int .i64 q.y) ∧ Below w5.heap.size w5 w5.drew := ⟨q1, q2, r1, r2, (Below.refl _ _).drew⟩
  have hh : (⟨w.heap.size, 0, none⟩ : Addr).block < w5.heap.size ∧ (⟨w.heap.size, 1, none⟩ : Addr).block < w5.heap.size ∧ (⟨w.heap.size + 1, 0, none⟩ : Addr).block < w5.heap.size ∧ (⟨w.heap.size + 1, 1, none⟩ : Addr).block < w5.heap.size := by have := H5.out.1.lts; exact ⟨this.1, this.1, this.2.1, this.2.1⟩
  clear q1 q2 r1 r2
  refine wp_region_held_drew (S := fun V => V.cell? ⟨w.heap.size, 0, none⟩ = some (.slice A n c) ∧ V.cell? ⟨w.heap.size, 1, none⟩ = some (.slice A' n' c') ∧ V.cell? ⟨w.heap.size + 1, 0, none⟩ = some (.int .i64 q.x) ∧ V.cell? ⟨w.heap.size + 1, 1, none⟩ = some (.int .i64 q.y) ∧ Below w5.heap.size w5 V) (by kernel_rfl) ?_ (fun hHeld => ?_)
  · exact hP0
  refine wpAnyH_take (i := 0) (v := ?_) rfl (by kernel_rfl) (by kernel_rfl) (by kernel_rfl) (fun _ _ _ h => h) (Or.inl ⟨by rfl, ?_⟩) (by assumption) ?_
  rotate_left
  · intro w hSw; (try dsimp only at hSw); go_simp; try with_reducible rfl
  simp only [Act.put, List.setIfInBounds_toArray, List.set_cons_zero, List.set_cons_succ, List.getElem_toArray, List.getElem_cons_zero]
  refine wpAnyH_take (i := 2) (v := ?_) rfl (by kernel_rfl) (by kernel_rfl) (by kernel_rfl) (fun _ _ _ h => h) (Or.inl ⟨by rfl, ?_⟩) (by assumption) ?_
  rotate_left
  · intro w hSw; (try dsimp only at hSw); go_simp; try with_reducible rfl
  simp only [Act.put, List.setIfInBounds_toArray, List.set_cons_zero, List.set_cons_succ, List.getElem_toArray, List.getElem_cons_zero, List.getElem_cons_succ]
  refine wpAnyH_ready (rs := [1]) (by kernel_rfl) (by simp) ?_
  refine AllReadyH.cons rfl (fun K hK => ?_) AllReadyH.nil
  go_simp
  go_at_call 18
  (with_reducible refine (kO).mono ?_)
  rintro e wo ⟨A1, n1, c1, A2, n2, c2, rfl, hP1, hb'⟩
  try dsimp only
  refine hK.out _ _ ?_ (fun hHeld => ?_)
  · exact hld4 hh hP0 hb'
  clear hK K
  try simp only [Act.put, List.setIfInBounds_toArray, List.set_cons_zero, List.set_cons_succ]
  refine wpAnyH_ready (rs := [3]) (by kernel_rfl) (by simp) ?_
  refine AllReadyH.cons rfl (fun K hK => ?_) AllReadyH.nil
  go_simp
  go_at_call 28
  (with_reducible refine (kC _ _ _ _ _ _ _ hP1).mono ?_)
  rintro e w6 ⟨rfl, hb''⟩
  try dsimp only
  refine hK.out _ _ ?_ (fun hHeld => ?_)
  · exact hld4 hh hHeld hb''
  clear hK K
  try simp only [Act.put, List.setIfInBounds_toArray, List.set_cons_zero, List.set_cons_succ]
  refine wpAnyH_take (i := 4) (v := ?_) rfl (by kernel_rfl) (by kernel_rfl) (by kernel_rfl) (fun _ _ _ h => h) (Or.inl ⟨by rfl, ?_⟩) (by assumption) ?_
  rotate_left
  · intro w hSw; (try dsimp only at hSw); go_simp; try with_reducible rfl
  simp only [Act.put, List.setIfInBounds_toArray, List.set_cons_zero, List.set_cons_succ, List.getElem_toArray, List.getElem_cons_zero, List.getElem_cons_succ]
  refine wpAnyH_take (i := 5) (v := ?_) rfl (by kernel_rfl) (by kernel_rfl) (by kernel_rfl) (fun _ _ _ h => h) (Or.inl ⟨by rfl, ?_⟩) (by assumption) ?_
  rotate_left
  · intro w hSw; (try dsimp only at hSw); go_simp; try with_reducible rfl
  simp only [Act.put, List.setIfInBounds_toArray, List.set_cons_zero, List.set_cons_succ, List.getElem_toArray, List.getElem_cons_zero, List.getElem_cons_succ]
  refine wpAnyH_take (i := 6) (v := ?_) rfl (by kernel_rfl) (by kernel_rfl) (by kernel_rfl) (fun _ _ _ h => h) (Or.inl ⟨by rfl, ?_⟩) (by assumption) ?_
  rotate_left
  · intro w hSw; (try dsimp only at hSw); go_simp; try with_reducible rfl
  simp only [Act.put, List.setIfInBounds_toArray, List.set_cons_zero, List.set_cons_succ, List.getElem_toArray, List.getElem_cons_zero, List.getElem_cons_succ]
  refine wpAnyH_take (i := 7) (v := ?_) rfl (by kernel_rfl) (by kernel_rfl) (by kernel_rfl) (fun _ _ _ h => h) (Or.inl ⟨by rfl, ?_⟩) (by assumption) ?_
  rotate_left
  · intro w hSw; (try dsimp only at hSw); go_simp; try with_reducible rfl
  simp only [Act.put, List.setIfInBounds_toArray, List.set_cons_zero, List.set_cons_succ, List.getElem_toArray, List.getElem_cons_zero, List.getElem_cons_succ]
  refine wpAnyH_take (i := 8) (v := ?_) rfl (by kernel_rfl) (by kernel_rfl) (by kernel_rfl) (fun _ _ _ h => h) (Or.inl ⟨by rfl, ?_⟩) (by assumption) ?_
  rotate_left
  · intro w hSw; (try dsimp only at hSw); go_simp; try with_reducible rfl
  simp only [Act.put, List.setIfInBounds_toArray, List.set_cons_zero, List.set_cons_succ, List.getElem_toArray, List.getElem_cons_zero, List.getElem_cons_succ]
  refine wpAnyH_done (by kernel_rfl) ?_ _
  have hbV := hHeld.2.2.2.2
  clear hP0
  have H6 := Lib.hid (And.intro (H5.out.1.on hbV) (And.intro (H5.out.2.1.on hbV) (H5.out.2.2.on hbV)))
  clear hbV H5 hh kO kC
  obtain ⟨l, hl⟩ : ∃ l, l = leftI p ed := ⟨_, rfl⟩
  obtain ⟨el, hel⟩ : ∃ el, el = leftE p ed := ⟨_, rfl⟩
  have kO := ownPl_any p A A' n c n' c' w6.drew (H6.out.1.on (Below.refl _ _).drew).2.2.2.2 HN.out
  have kC := fun A n c A' n' c' V hV => left_any p ed A A' n c n' c' V hV
  rw [← hl, ← hel] at kC
  have HL := Lib.hid (And.intro hl hel)
  clear hl hel
  obtain ⟨q1, q2⟩ := H6.out.1.plan
  obtain ⟨y1, y2, y3, y4⟩ := H6.out.1.edge
  have hP0 : w6.drew.cell? ⟨w.heap.size, 0, none⟩ = some (.slice A n c) ∧ w6.drew.cell? ⟨w.heap.size, 1, none⟩ = some (.slice A' n' c') ∧ w6.drew.cell? ⟨w.heap.size + 1 + 1, 0, none⟩ = some (.int .i64 ed.a.x) ∧ w6.drew.cell? ⟨w.heap.size + 1 + 1, 1, none⟩ = some (.int .i64 ed.a.y) ∧ w6.drew.cell? ⟨w.heap.size + 1 + 1, 2, none⟩ = some (.int .i64 ed.b.x) ∧ w6.drew.cell? ⟨w.heap.size + 1 + 1, 3, none⟩ = some (.int .i64 ed.b.y) ∧ Below w6.heap.size w6 w6.drew := ⟨q1, q2, y1, y2, y3, y4, (Below.refl _ _).drew⟩
  have hh : (⟨w.heap.size, 0, none⟩ : Addr).block < w6.heap.size ∧ (⟨w.heap.size, 1, none⟩ : Addr).block < w6.heap.size ∧ (⟨w.heap.size + 1 + 1, 0, none⟩ : Addr).block < w6.heap.size ∧ (⟨w.heap.size + 1 + 1, 1, none⟩ : Addr).block < w6.heap.size ∧ (⟨w.heap.size + 1 + 1, 2, none⟩ : Addr).block < w6.heap.size ∧ (⟨w.heap.size + 1 + 1, 3, none⟩ : Addr).block < w6.heap.size := by have := H6.out.1.lts; exact ⟨this.1, this.1, this.2.2, this.2.2, this.2.2, this.2.2⟩
  clear q1 q2 y1 y2 y3 y4
  go_upto_region 5 with fail
  refine wp_region_held_drew (S := fun V => V.cell? ⟨w.heap.size, 0, none⟩ = some (.slice A n c) ∧ V.cell? ⟨w.heap.size, 1, none⟩ = some (.slice A' n' c') ∧ V.cell? ⟨w.heap.size + 1 + 1, 0, none⟩ = some (.int .i64 ed.a.x) ∧ V.cell? ⟨w.heap.size + 1 + 1, 1, none⟩ = some (.int .i64 ed.a.y) ∧ V.cell? ⟨w.heap.size + 1 + 1, 2, none⟩ = some (.int .i64 ed.b.x) ∧ V.cell? ⟨w.heap.size + 1 + 1, 3, none⟩ = some (.int .i64 ed.b.y) ∧ Below w6.heap.size w6 V) (by kernel_rfl) ?_ (fun hHeld => ?_)
  · exact hP0
  refine wpAnyH_take (i := 0) (v := ?_) rfl (by kernel_rfl) (by kernel_rfl) (by kernel_rfl) (fun _ _ _ h => h) (Or.inl ⟨by rfl, ?_⟩) (by assumption) ?_
  rotate_left
  · intro w hSw; (try dsimp only at hSw); go_simp; try with_reducible rfl
  simp only [Act.put, List.setIfInBounds_toArray, List.set_cons_zero, List.set_cons_succ, List.getElem_toArray, List.getElem_cons_zero]
  refine wpAnyH_take (i := 2) (v := ?_) rfl (by kernel_rfl) (by kernel_rfl) (by kernel_rfl) (fun _ _ _ h => h) (Or.inl ⟨by rfl, ?_⟩) (by assumption) ?_
  rotate_left
  · intro w hSw; (try dsimp only at hSw); go_simp; try with_reducible rfl
  simp only [Act.put, List.setIfInBounds_toArray, List.set_cons_zero, List.set_cons_succ, List.getElem_toArray, List.getElem_cons_zero, List.getElem_cons_succ]
  refine wpAnyH_ready (rs := [1]) (by kernel_rfl) (by simp) ?_
  refine AllReadyH.cons rfl (fun K hK => ?_) AllReadyH.nil
  go_simp
  go_at_call 18
  (with_reducible refine (kO).mono ?_)
  rintro e wo ⟨A1, n1, c1, A2, n2, c2, rfl, hP1, hb'⟩
  try dsimp only
  refine hK.out _ _ ?_ (fun hHeld => ?_)
  · exact hld6 hh hP0 hb'
  clear hK K
  try simp only [Act.put, List.setIfInBounds_toArray, List.set_cons_zero, List.set_cons_succ]
  refine wpAnyH_ready (rs := [3]) (by kernel_rfl) (by simp) ?_
  refine AllReadyH.cons rfl (fun K hK => ?_) AllReadyH.nil
  go_simp
  go_at_call 27
  (with_reducible refine (kC _ _ _ _ _ _ _ hP1).mono ?_)
  rintro e w7 ⟨rfl, hb''⟩
  try dsimp only
  refine hK.out _ _ ?_ (fun hHeld => ?_)
  · exact hld6 hh hHeld hb''
  clear hK K
  try simp only [Act.put, List.setIfInBounds_toArray, List.set_cons_zero, List.set_cons_succ]
  refine wpAnyH_take (i := 4) (v := ?_) rfl (by kernel_rfl) (by kernel_rfl) (by kernel_rfl) (fun _ _ _ h => h) (Or.inl ⟨by rfl, ?_⟩) (by assumption) ?_
  rotate_left
  · intro w hSw; (try dsimp only at hSw); go_simp; try with_reducible rfl
  simp only [Act.put, List.setIfInBounds_toArray, List.set_cons_zero, List.set_cons_succ, List.getElem_toArray, List.getElem_cons_zero, List.getElem_cons_succ]
  refine wpAnyH_take (i := 5) (v := ?_) rfl (by kernel_rfl) (by kernel_rfl) (by kernel_rfl) (fun _ _ _ h => h) (Or.inl ⟨by rfl, ?_⟩) (by assumption) ?_
  rotate_left
  · intro w hSw; (try dsimp only at hSw); go_simp; try with_reducible rfl
  simp only [Act.put, List.setIfInBounds_toArray, List.set_cons_zero, List.set_cons_succ, List.getElem_toArray, List.getElem_cons_zero, List.getElem_cons_succ]
  refine wpAnyH_take (i := 6) (v := ?_) rfl (by kernel_rfl) (by kernel_rfl) (by kernel_rfl) (fun _ _ _ h => h) (Or.inl ⟨by rfl, ?_⟩) (by assumption) ?_
  rotate_left
  · intro w hSw; (try dsimp only at hSw); go_simp; try with_reducible rfl
  simp only [Act.put, List.setIfInBounds_toArray, List.set_cons_zero, List.set_cons_succ, List.getElem_toArray, List.getElem_cons_zero, List.getElem_cons_succ]
  refine wpAnyH_take (i := 7) (v := ?_) rfl (by kernel_rfl) (by kernel_rfl) (by kernel_rfl) (fun _ _ _ h => h) (Or.inl ⟨by rfl, ?_⟩) (by assumption) ?_
  rotate_left
  · intro w hSw; (try dsimp only at hSw); go_simp; try with_reducible rfl
  simp only [Act.put, List.setIfInBounds_toArray, List.set_cons_zero, List.set_cons_succ, List.getElem_toArray, List.getElem_cons_zero, List.getElem_cons_succ]
  refine wpAnyH_take (i := 8) (v := ?_) rfl (by kernel_rfl) (by kernel_rfl) (by kernel_rfl) (fun _ _ _ h => h) (Or.inl ⟨by rfl, ?_⟩) (by assumption) ?_
  rotate_left
  · intro w hSw; (try dsimp only at hSw); go_simp; try with_reducible rfl
  simp only [Act.put, List.setIfInBounds_toArray, List.set_cons_zero, List.set_cons_succ, List.getElem_toArray, List.getElem_cons_zero, List.getElem_cons_succ]
  refine wpAnyH_done (by kernel_rfl) ?_ _
  have hbV := hHeld.2.2.2.2.2.2
  clear hP0
  have H7 := Lib.hid (And.intro (H6.out.1.on hbV) (And.intro (H6.out.2.1.on hbV) (H6.out.2.2.on hbV)))
  clear hbV H6 hh kO kC
  obtain ⟨q1, q2⟩ := H7.out.1.plan
  have KR := Lib.hid (checkPR_any p A A' n c n' c' w7 H7.out.1.2.2.2.2)
  go_wp2_with fail
  refine KR.out.mono ?_
  rintro e w8 ⟨rfl, hb8⟩
  have H8 := Lib.hid (And.intro (H7.out.1.on hb8) (And.intro (H7.out.2.1.on hb8) (H7.out.2.2.on hb8)))
  clear hb8 H7 KR q1 q2
  rcases hb : planB p with _ | _
  · have hE2 : findE p id = 2 := by unfold findE; rw [hb]; rfl
    have hx2 : x = ⟨0, [], ⟨#[]⟩⟩ := by rw [HX.out.1]; exact findX_no hE2 (by decide)
    obtain rfl : ef = 2 := HX.out.2.trans hE2
    obtain rfl : yes = false := HC.out.1.trans (by unfold cornerV; rw [hb]; rfl)
    obtain rfl : ec = 2 := HC.out.2.trans (by unfold cornerE; rw [hb]; rfl)
    obtain rfl : l = 0 := HL.out.1.trans (by unfold leftI; rw [hb]; rfl)
    obtain rfl : el = 2 := HL.out.2.trans (by unfold leftE; rw [hb]; rfl)
    clear hE2 HX HC HL hb
    subst hx2
    obtain ⟨x1, x2, x3, -⟩ := H8.out.2.1.facts
    have kF := samePc_any ⟨0, [], ⟨#[]⟩⟩ ⟨0, [], ⟨#[]⟩⟩ Ax none nx 0 cx 0 w8 H8.out.2.2 Reads.none_ (by have := HNX.out; omega) (by omega)
    rw [pcEq_self] at kF
    have KF := Lib.hid kF
    have HB := Lib.hid H8.out.1.1
    clear kF H8
    go_wp2_with fail
    refine KF.out.mono ?_
    rintro e w9 ⟨rfl, hb9⟩
    have HB9 := Lib.hid (below_on HB.out (Nat.le_refl _) hb9)
    clear hb9 HB KF x1 x2 x3
    go_wp2_with fail
    go_ret
    exact ⟨rfl, HB9.out⟩
  have HS := Lib.hid (planB_sound hb)
  have HBB := Lib.hid hb
  clear hb
  obtain ⟨q1, q2⟩ := H8.out.1.plan
  obtain ⟨kz, hkz⟩ : ∃ kz, kz = atP p.parcels id := ⟨_, rfl⟩
  have kA := atR_any p id A A' n c n' c' w8 H8.out.1.2.2.2.2
  rw [← hkz] at kA
  have KA := Lib.hid kA
  have HKZ := Lib.hid hkz
  clear kA hkz
  go_wp2_with fail
  refine KA.out.mono ?_
  rintro e w9 ⟨rfl, hb9⟩
  have H9 := Lib.hid (And.intro (H8.out.1.on hb9) (And.intro (H8.out.2.1.on hb9) (H8.out.2.2.on hb9)))
  clear hb9 H8 KA q1 q2
  obtain ⟨W, hW⟩ : ∃ W, W = w9 := ⟨_, rfl⟩
  rw [← hW] at H9
  rw [← hW]
  clear hW
  have hlen : p.parcels.length = n' := H9.out.1.2.2.2.2.lens.2.1
  have HLN := Lib.hid hlen
  go_upto_region 9 with fail
  go_cut [105] (fun s wx => s = .bool false ∧ Below W.heap.size W wx)
  case first =>
    rcases atP_cases p.parcels id with ⟨ha, -⟩ | ⟨k, hk, ha, -⟩
    · have hE : findE p id = 5 := by unfold findE; rw [if_pos HBB.out, ha]; rfl
      have hx2 : x = ⟨0, [], ⟨#[]⟩⟩ := by rw [HX.out.1]; exact findX_no hE (by decide)
      obtain rfl : ef = 5 := HX.out.2.trans hE
      obtain rfl : kz = -1 := HKZ.out.trans ha
      subst hx2
      clear HX hE ha hlen HKZ
      obtain ⟨x1, x2, x3, x4⟩ := H9.out.2.1.facts
      have kF := samePc_any ⟨0, [], ⟨#[]⟩⟩ ⟨0, [], ⟨#[]⟩⟩ Ax none nx 0 cx 0 W.drew (H9.out.2.2.on (Below.refl _ _).drew) Reads.none_ (by have := HNX.out; omega) (by omega)
      rw [pcEq_self] at kF
      have hP0 : W.drew.cell? ⟨Bx, 0, none⟩ = some (.int .i64 0) ∧ W.drew.cell? ⟨Bx, 1, none⟩ = some (.slice Ax nx cx) ∧ W.drew.cell? ⟨Bx, 2, none⟩ = some (.string ⟨#[]⟩) ∧ Below W.heap.size W W.drew := ⟨x1, x2, x3, (Below.refl _ _).drew⟩
      have hh : (⟨Bx, 0, none⟩ : Addr).block < W.heap.size ∧ (⟨Bx, 1, none⟩ : Addr).block < W.heap.size ∧ (⟨Bx, 2, none⟩ : Addr).block < W.heap.size := ⟨x4, x4, x4⟩
      clear x1 x2 x3 x4
      refine wp_region_held_drew (S := fun V => V.cell? ⟨Bx, 0, none⟩ = some (.int .i64 0) ∧ V.cell? ⟨Bx, 1, none⟩ = some (.slice Ax nx cx) ∧ V.cell? ⟨Bx, 2, none⟩ = some (.string ⟨#[]⟩) ∧ Below W.heap.size W V) (by kernel_rfl) ?_ (fun hHeld => ?_)
      · exact hP0
      refine wpAnyH_take (i := 0) (v := ?_) rfl (by kernel_rfl) (by kernel_rfl) (by kernel_rfl) (fun _ _ _ h => h) (Or.inl ⟨by rfl, ?_⟩) (by assumption) ?_
      rotate_left
      · intro w hSw; (try dsimp only at hSw); go_simp; try with_reducible rfl
      simp only [Act.put, List.setIfInBounds_toArray, List.set_cons_zero, List.set_cons_succ, List.getElem_toArray, List.getElem_cons_zero]
      refine wpAnyH_take (i := 1) (v := ?_) rfl (by kernel_rfl) (by kernel_rfl) (by kernel_rfl) (fun _ _ _ h => h) (Or.inl ⟨by rfl, ?_⟩) (by assumption) ?_
      rotate_left
      · intro w hSw; (try dsimp only at hSw); go_simp; try with_reducible rfl
      simp only [Act.put, List.setIfInBounds_toArray, List.set_cons_zero, List.set_cons_succ, List.getElem_toArray, List.getElem_cons_zero, List.getElem_cons_succ]
      refine wpAnyH_take (i := 2) (v := ?_) rfl (by kernel_rfl) (by kernel_rfl) (by kernel_rfl) (fun _ _ _ h => h) (Or.inl ⟨by rfl, ?_⟩) (by assumption) ?_
      rotate_left
      · intro w hSw; (try dsimp only at hSw); go_simp; try with_reducible rfl
      simp only [Act.put, List.setIfInBounds_toArray, List.set_cons_zero, List.set_cons_succ, List.getElem_toArray, List.getElem_cons_zero, List.getElem_cons_succ]
      refine wpAnyH_take (i := 3) (v := undef) rfl (by kernel_rfl) (by kernel_rfl) (by kernel_rfl) (fun _ _ _ h => h) (Or.inr ⟨by first | kernel_rfl | rfl, rfl⟩) (by assumption) ?_
      simp only [Act.put, List.setIfInBounds_toArray]
      refine wpAnyH_take (i := 4) (v := undef) rfl (by kernel_rfl) (by kernel_rfl) (by kernel_rfl) (fun _ _ _ h => h) (Or.inr ⟨by first | kernel_rfl | rfl, rfl⟩) (by assumption) ?_
      simp only [Act.put]
      refine wpAnyH_take (i := 5) (v := undef) rfl (by kernel_rfl) (by kernel_rfl) (by kernel_rfl) (fun _ _ _ h => h) (Or.inr ⟨by first | kernel_rfl | rfl, rfl⟩) (by assumption) ?_
      simp only [Act.put]
      refine wpAnyH_take (i := 6) (v := undef) rfl (by kernel_rfl) (by kernel_rfl) (by kernel_rfl) (fun _ _ _ h => h) (Or.inr ⟨by first | kernel_rfl | rfl, rfl⟩) (by assumption) ?_
      simp only [Act.put]
      refine wpAnyH_take (i := 7) (v := undef) rfl (by kernel_rfl) (by kernel_rfl) (by kernel_rfl) (fun _ _ _ h => h) (Or.inr ⟨by first | kernel_rfl | rfl, rfl⟩) (by assumption) ?_
      simp only [Act.put]
      refine wpAnyH_take (i := 8) (v := undef) rfl (by kernel_rfl) (by kernel_rfl) (by kernel_rfl) (fun _ _ _ h => h) (Or.inr ⟨by first | kernel_rfl | rfl, rfl⟩) (by assumption) ?_
      simp only [Act.put]
      refine wpAnyH_take (i := 9) (v := undef) rfl (by kernel_rfl) (by kernel_rfl) (by kernel_rfl) (fun _ _ _ h => h) (Or.inr ⟨by first | kernel_rfl | rfl, rfl⟩) (by assumption) ?_
      simp only [Act.put]
      refine wpAnyH_take (i := 10) (v := undef) rfl (by kernel_rfl) (by kernel_rfl) (by kernel_rfl) (fun _ _ _ h => h) (Or.inr ⟨by first | kernel_rfl | rfl, rfl⟩) (by assumption) ?_
      simp only [Act.put]
      refine wpAnyH_take (i := 11) (v := undef) rfl (by kernel_rfl) (by kernel_rfl) (by kernel_rfl) (fun _ _ _ h => h) (Or.inr ⟨by first | kernel_rfl | rfl, rfl⟩) (by assumption) ?_
      simp only [Act.put]
      refine wpAnyH_take (i := 12) (v := undef) rfl (by kernel_rfl) (by kernel_rfl) (by kernel_rfl) (fun _ _ _ h => h) (Or.inr ⟨by first | kernel_rfl | rfl, rfl⟩) (by assumption) ?_
      simp only [Act.put]
      refine wpAnyH_take (i := 13) (v := undef) rfl (by kernel_rfl) (by kernel_rfl) (by kernel_rfl) (fun _ _ _ h => h) (Or.inr ⟨by first | kernel_rfl | rfl, rfl⟩) (by assumption) ?_
      simp only [Act.put]
      refine wpAnyH_take (i := 14) (v := undef) rfl (by kernel_rfl) (by kernel_rfl) (by kernel_rfl) (fun _ _ _ h => h) (Or.inr ⟨by first | kernel_rfl | rfl, rfl⟩) (by assumption) ?_
      simp only [Act.put]
      refine wpAnyH_take (i := 15) (v := ?_) rfl (by kernel_rfl) (by kernel_rfl) (by kernel_rfl) (fun _ _ _ h => h) (Or.inl ⟨by rfl, ?_⟩) (by assumption) ?_
      rotate_left
      · intro w hSw; (try dsimp only at hSw); go_simp; try with_reducible rfl
      simp only [Act.put, List.setIfInBounds_toArray, List.set_cons_zero, List.set_cons_succ, List.getElem_toArray, List.getElem_cons_zero, List.getElem_cons_succ]
      refine wpAnyH_take (i := 16) (v := ?_) rfl (by kernel_rfl) (by kernel_rfl) (by kernel_rfl) (fun _ _ _ h => h) (Or.inl ⟨by rfl, ?_⟩) (by assumption) ?_
      rotate_left
      · intro w hSw; (try dsimp only at hSw); go_simp; try with_reducible rfl
      simp only [Act.put, List.setIfInBounds_toArray, List.set_cons_zero, List.set_cons_succ, List.getElem_toArray, List.getElem_cons_zero, List.getElem_cons_succ]
      refine wpAnyH_take (i := 17) (v := ?_) rfl (by kernel_rfl) (by kernel_rfl) (by kernel_rfl) (fun _ _ _ h => h) (Or.inl ⟨by rfl, ?_⟩) (by assumption) ?_
      rotate_left
      · intro w hSw; (try dsimp only at hSw); go_simp; try with_reducible rfl
      simp only [Act.put, List.setIfInBounds_toArray, List.set_cons_zero, List.set_cons_succ, List.getElem_toArray, List.getElem_cons_zero, List.getElem_cons_succ]
      refine wpAnyH_take (i := 18) (v := ?_) rfl (by kernel_rfl) (by kernel_rfl) (by kernel_rfl) (fun _ _ _ h => h) (Or.inl ⟨by rfl, ?_⟩) (by assumption) ?_
      rotate_left
      · intro w hSw; (try dsimp only at hSw); go_simp; try with_reducible rfl
      simp only [Act.put, List.setIfInBounds_toArray, List.set_cons_zero, List.set_cons_succ, List.getElem_toArray, List.getElem_cons_zero, List.getElem_cons_succ]
      refine wpAnyH_take (i := 19) (v := ?_) rfl (by kernel_rfl) (by kernel_rfl) (by kernel_rfl) (fun _ _ _ h => h) (Or.inl ⟨by rfl, ?_⟩) (by assumption) ?_
      rotate_left
      · intro w hSw; (try dsimp only at hSw); go_simp; try with_reducible rfl
      simp only [Act.put, List.setIfInBounds_toArray, List.set_cons_zero, List.set_cons_succ, List.getElem_toArray, List.getElem_cons_zero, List.getElem_cons_succ]
      refine wpAnyH_take (i := 20) (v := ?_) rfl (by kernel_rfl) (by kernel_rfl) (by kernel_rfl) (fun _ _ _ h => h) (Or.inl ⟨by rfl, ?_⟩) (by assumption) ?_
      rotate_left
      · intro w hSw; (try dsimp only at hSw); go_simp; try with_reducible rfl
      simp only [Act.put, List.setIfInBounds_toArray, List.set_cons_zero, List.set_cons_succ, List.getElem_toArray, List.getElem_cons_zero, List.getElem_cons_succ]
      refine wpAnyH_take (i := 21) (v := ?_) rfl (by kernel_rfl) (by kernel_rfl) (by kernel_rfl) (fun _ _ _ h => h) (Or.inl ⟨by rfl, ?_⟩) (by assumption) ?_
      rotate_left
      · intro w hSw; (try dsimp only at hSw); go_simp; try with_reducible rfl
      simp only [Act.put, List.setIfInBounds_toArray, List.set_cons_zero, List.set_cons_succ, List.getElem_toArray, List.getElem_cons_zero, List.getElem_cons_succ]
      refine wpAnyH_take (i := 22) (v := ?_) rfl (by kernel_rfl) (by kernel_rfl) (by kernel_rfl) (fun _ _ _ h => h) (Or.inl ⟨by rfl, ?_⟩) (by assumption) ?_
      rotate_left
      · intro w hSw; (try dsimp only at hSw); go_simp; try with_reducible rfl
      simp only [Act.put, List.setIfInBounds_toArray, List.set_cons_zero, List.set_cons_succ, List.getElem_toArray, List.getElem_cons_zero, List.getElem_cons_succ]
      refine wpAnyH_take (i := 23) (v := ?_) rfl (by kernel_rfl) (by kernel_rfl) (by kernel_rfl) (fun _ _ _ h => h) (Or.inl ⟨by rfl, ?_⟩) (by assumption) ?_
      rotate_left
      · intro w hSw; (try dsimp only at hSw); go_simp; try with_reducible rfl
      simp only [Act.put, List.setIfInBounds_toArray, List.set_cons_zero, List.set_cons_succ, List.getElem_toArray, List.getElem_cons_zero, List.getElem_cons_succ]
      refine wpAnyH_take (i := 24) (v := ?_) rfl (by kernel_rfl) (by kernel_rfl) (by kernel_rfl) (fun _ _ _ h => h) (Or.inl ⟨by rfl, ?_⟩) (by assumption) ?_
      rotate_left
      · intro w hSw; (try dsimp only at hSw); go_simp; try with_reducible rfl
      simp only [Act.put, List.setIfInBounds_toArray, List.set_cons_zero, List.set_cons_succ, List.getElem_toArray, List.getElem_cons_zero, List.getElem_cons_succ]
      refine wpAnyH_ready (rs := [25]) (by kernel_rfl) (by simp) ?_
      refine AllReadyH.cons rfl (fun K hK => ?_) AllReadyH.nil
      go_simp
      go_at_call 35
      (with_reducible refine kF.mono ?_)
      rintro e w10 ⟨rfl, hb'⟩
      try dsimp only
      refine hK.out _ _ ?_ (fun hHeld => ?_)
      · exact hld3 hh (by assumption) hb'
      clear hK K
      try simp only [Act.put, List.setIfInBounds_toArray, List.set_cons_zero, List.set_cons_succ]
      refine wpAnyH_take (i := 26) (v := ?_) rfl (by kernel_rfl) (by kernel_rfl) (by kernel_rfl) (fun _ _ _ h => h) (Or.inl ⟨by rfl, ?_⟩) (by assumption) ?_
      rotate_left
      · intro w hSw; (try dsimp only at hSw); go_simp; try with_reducible rfl
      simp only [Act.put, List.setIfInBounds_toArray, List.set_cons_zero, List.set_cons_succ, List.getElem_toArray, List.getElem_cons_zero, List.getElem_cons_succ]
      refine wpAnyH_take (i := 27) (v := ?_) rfl (by kernel_rfl) (by kernel_rfl) (by kernel_rfl) (fun _ _ _ h => h) (Or.inl ⟨by rfl, ?_⟩) (by assumption) ?_
      rotate_left
      · intro w hSw; (try dsimp only at hSw); go_simp; try with_reducible rfl
      simp only [Act.put, List.setIfInBounds_toArray, List.set_cons_zero, List.set_cons_succ, List.getElem_toArray, List.getElem_cons_zero, List.getElem_cons_succ]
      refine wpAnyH_take (i := 28) (v := ?_) rfl (by kernel_rfl) (by kernel_rfl) (by kernel_rfl) (fun _ _ _ h => h) (Or.inl ⟨by rfl, ?_⟩) (by assumption) ?_
      rotate_left
      · intro w hSw; (try dsimp only at hSw); go_simp; try with_reducible rfl
      simp only [Act.put, List.setIfInBounds_toArray, List.set_cons_zero, List.set_cons_succ, List.getElem_toArray, List.getElem_cons_zero, List.getElem_cons_succ]
      refine wpAnyH_take (i := 29) (v := ?_) rfl (by kernel_rfl) (by kernel_rfl) (by kernel_rfl) (fun _ _ _ h => h) (Or.inl ⟨by rfl, ?_⟩) (by assumption) ?_
      rotate_left
      · intro w hSw; (try dsimp only at hSw); go_simp; try with_reducible rfl
      simp only [Act.put, List.setIfInBounds_toArray, List.set_cons_zero, List.set_cons_succ, List.getElem_toArray, List.getElem_cons_zero, List.getElem_cons_succ]
      refine wpAnyH_done (by kernel_rfl) ?_ _
      have hbV := hHeld.2.2.2
      clear hP0
      go_wp2_with fail
      go_meet
      exact ⟨by first | rfl | simp, hbV⟩
    · have hkn : k < n' := by omega
      have hk0 : ¬ (k : Int) < 0 := by omega
      have hk0' : 0 ≤ (k : Int) := by omega
      have hkn' : (k : Int) < (n' : Int) := by omega
      have hE : findE p id = 0 := by unfold findE; rw [if_pos HBB.out, ha, if_neg hk0]
      have hx2 : x = pcAt p.parcels k := by rw [HX.out.1]; unfold findX; rw [if_pos hE, ha]; rfl
      obtain rfl : ef = 0 := HX.out.2.trans hE
      obtain rfl : kz = (k : Int) := HKZ.out.trans ha
      clear HX hE ha hlen hk HKZ
      obtain ⟨x1, x2, x3, x4⟩ := H9.out.2.1.facts
      obtain ⟨q1, q2⟩ := H9.out.1.plan
      obtain ⟨ad, rfl⟩ := H9.out.1.2.2.2.2.parcs.some_ (by omega)
      obtain ⟨hb1, p1, ⟨Ay, ny, cy, p2, hry, hy1, hy2⟩, p3⟩ := H9.out.1.2.2.2.2.parcs.at_ hkn
      rw [← hx2] at p1 p3 hry
      have hny : ny ≤ 9223372036854775807 := by omega
      have kF := samePc_any x x Ax Ay nx ny cx cy W.drew (H9.out.2.2.on (Below.refl _ _).drew) (hry.on (Below.refl _ _).drew) (by have := HNX.out; omega) hny
      rw [pcEq_self] at kF
      have HX2 := Lib.hid hx2
      clear hx2 hry hny hy1 hy2
      obtain ⟨y, hy⟩ : ∃ y, y = x := ⟨_, rfl⟩
      rw [← hy] at x1 x3 p1 p3 kF H9 HX2
      clear hy
      have hP0 : W.drew.cell? ⟨w.heap.size, 1, none⟩ = some (.slice (some ad) n' c') ∧ W.drew.cell? (ad.add (k * 3)) = some (.int .i64 y.id) ∧ W.drew.cell? ⟨(ad.add (k * 3)).block, (ad.add (k * 3)).off + 1, none⟩ = some (.slice Ay ny cy) ∧ W.drew.cell? ⟨(ad.add (k * 3)).block, (ad.add (k * 3)).off + 2, none⟩ = some (.string y.owner) ∧ W.drew.cell? ⟨Bx, 0, none⟩ = some (.int .i64 y.id) ∧ W.drew.cell? ⟨Bx, 1, none⟩ = some (.slice Ax nx cx) ∧ W.drew.cell? ⟨Bx, 2, none⟩ = some (.string y.owner) ∧ Below W.heap.size W W.drew := ⟨q2, p1, p2, p3, x1, x2, x3, (Below.refl _ _).drew⟩
      have hh : (⟨w.heap.size, 1, none⟩ : Addr).block < W.heap.size ∧ (ad.add (k * 3)).block < W.heap.size ∧ (⟨(ad.add (k * 3)).block, (ad.add (k * 3)).off + 1, none⟩ : Addr).block < W.heap.size ∧ (⟨(ad.add (k * 3)).block, (ad.add (k * 3)).off + 2, none⟩ : Addr).block < W.heap.size ∧ (⟨Bx, 0, none⟩ : Addr).block < W.heap.size ∧ (⟨Bx, 1, none⟩ : Addr).block < W.heap.size ∧ (⟨Bx, 2, none⟩ : Addr).block < W.heap.size := by
        have h1 := H9.out.1.lts.1
        simp only [block_of_add]
        exact ⟨h1, hb1, hb1, hb1, x4, x4, x4⟩
      clear x1 x2 x3 x4 q1 q2 p1 p2 p3 hb1
      refine wp_region_held_drew (S := fun V => V.cell? ⟨w.heap.size, 1, none⟩ = some (.slice (some ad) n' c') ∧ V.cell? (ad.add (k * 3)) = some (.int .i64 y.id) ∧ V.cell? ⟨(ad.add (k * 3)).block, (ad.add (k * 3)).off + 1, none⟩ = some (.slice Ay ny cy) ∧ V.cell? ⟨(ad.add (k * 3)).block, (ad.add (k * 3)).off + 2, none⟩ = some (.string y.owner) ∧ V.cell? ⟨Bx, 0, none⟩ = some (.int .i64 y.id) ∧ V.cell? ⟨Bx, 1, none⟩ = some (.slice Ax nx cx) ∧ V.cell? ⟨Bx, 2, none⟩ = some (.string y.owner) ∧ Below W.heap.size W V) (by kernel_rfl) ?_ (fun hHeld => ?_)
      · exact hP0
      refine wpAnyH_take (i := 0) (v := ?_) rfl (by kernel_rfl) (by kernel_rfl) (by kernel_rfl) (fun _ _ _ h => h) (Or.inl ⟨by rfl, ?_⟩) (by assumption) ?_
      rotate_left
      · intro w hSw; (try dsimp only at hSw); go_simp; try with_reducible rfl
      simp only [Act.put, List.setIfInBounds_toArray, List.set_cons_zero, List.set_cons_succ, List.getElem_toArray, List.getElem_cons_zero]
      refine wpAnyH_take (i := 1) (v := ?_) rfl (by kernel_rfl) (by kernel_rfl) (by kernel_rfl) (fun _ _ _ h => h) (Or.inl ⟨by rfl, ?_⟩) (by assumption) ?_
      rotate_left
      · intro w hSw; (try dsimp only at hSw); go_simp; try with_reducible rfl
      simp only [Act.put, List.setIfInBounds_toArray, List.set_cons_zero, List.set_cons_succ, List.getElem_toArray, List.getElem_cons_zero, List.getElem_cons_succ]
      refine wpAnyH_take (i := 2) (v := ?_) rfl (by kernel_rfl) (by kernel_rfl) (by kernel_rfl) (fun _ _ _ h => h) (Or.inl ⟨by rfl, ?_⟩) (by assumption) ?_
      rotate_left
      · intro w hSw; (try dsimp only at hSw); go_simp; try with_reducible rfl
      simp only [Act.put, List.setIfInBounds_toArray, List.set_cons_zero, List.set_cons_succ, List.getElem_toArray, List.getElem_cons_zero, List.getElem_cons_succ]
      refine wpAnyH_take (i := 3) (v := ?_) rfl (by kernel_rfl) (by kernel_rfl) (by kernel_rfl) (fun _ _ _ h => h) (Or.inl ⟨by rfl, ?_⟩) (by assumption) ?_
      rotate_left
      · intro w hSw; (try dsimp only at hSw); go_simp; try with_reducible rfl
      simp only [Act.put, List.setIfInBounds_toArray, List.set_cons_zero, List.set_cons_succ, List.getElem_toArray, List.getElem_cons_zero, List.getElem_cons_succ]
      refine wpAnyH_take (i := 4) (v := ?_) rfl (by kernel_rfl) (by kernel_rfl) (by kernel_rfl) (fun _ _ _ h => h) (Or.inl ⟨by rfl, ?_⟩) (by assumption) ?_
      rotate_left
      · intro w hSw; (try dsimp only at hSw); go_simp; try with_reducible rfl
      simp only [Act.put, List.setIfInBounds_toArray, List.set_cons_zero, List.set_cons_succ, List.getElem_toArray, List.getElem_cons_zero, List.getElem_cons_succ]
      refine wpAnyH_take (i := 5) (v := ?_) rfl (by kernel_rfl) (by kernel_rfl) (by kernel_rfl) (fun _ _ _ h => h) (Or.inl ⟨by rfl, ?_⟩) (by assumption) ?_
      rotate_left
      · intro w hSw; (try dsimp only at hSw); go_simp; try with_reducible rfl
      simp only [Act.put, List.setIfInBounds_toArray, List.set_cons_zero, List.set_cons_succ, List.getElem_toArray, List.getElem_cons_zero, List.getElem_cons_succ]
      refine wpAnyH_take (i := 6) (v := ?_) rfl (by kernel_rfl) (by kernel_rfl) (by kernel_rfl) (fun _ _ _ h => h) (Or.inl ⟨by rfl, ?_⟩) (by assumption) ?_
      rotate_left
      · intro w hSw; (try dsimp only at hSw); go_simp; try with_reducible rfl
      simp only [Act.put, List.setIfInBounds_toArray, List.set_cons_zero, List.set_cons_succ, List.getElem_toArray, List.getElem_cons_zero, List.getElem_cons_succ]
      refine wpAnyH_take (i := 7) (v := ?_) rfl (by kernel_rfl) (by kernel_rfl) (by kernel_rfl) (fun _ _ _ h => h) (Or.inl ⟨by rfl, ?_⟩) (by assumption) ?_
      rotate_left
      · intro w hSw; (try dsimp only at hSw); go_simp; try with_reducible rfl
      simp only [Act.put, List.setIfInBounds_toArray, List.set_cons_zero, List.set_cons_succ, List.getElem_toArray, List.getElem_cons_zero, List.getElem_cons_succ]
      refine wpAnyH_take (i := 8) (v := ?_) rfl (by kernel_rfl) (by kernel_rfl) (by kernel_rfl) (fun _ _ _ h => h) (Or.inl ⟨by rfl, ?_⟩) (by assumption) ?_
      rotate_left
      · intro w hSw; (try dsimp only at hSw); go_simp; try with_reducible rfl
      simp only [Act.put, List.setIfInBounds_toArray, List.set_cons_zero, List.set_cons_succ, List.getElem_toArray, List.getElem_cons_zero, List.getElem_cons_succ]
      refine wpAnyH_take (i := 9) (v := ?_) rfl (by kernel_rfl) (by kernel_rfl) (by kernel_rfl) (fun _ _ _ h => h) (Or.inl ⟨by rfl, ?_⟩) (by assumption) ?_
      rotate_left
      · intro w hSw; (try dsimp only at hSw); go_simp; try with_reducible rfl
      simp only [Act.put, List.setIfInBounds_toArray, List.set_cons_zero, List.set_cons_succ, List.getElem_toArray, List.getElem_cons_zero, List.getElem_cons_succ]
      refine wpAnyH_take (i := 10) (v := ?_) rfl (by kernel_rfl) (by kernel_rfl) (by kernel_rfl) (fun _ _ _ h => h) (Or.inl ⟨by rfl, ?_⟩) (by assumption) ?_
      rotate_left
      · intro w hSw; (try dsimp only at hSw); go_simp; try with_reducible rfl
      simp only [Act.put, List.setIfInBounds_toArray, List.set_cons_zero, List.set_cons_succ, List.getElem_toArray, List.getElem_cons_zero, List.getElem_cons_succ]
      refine wpAnyH_take (i := 11) (v := ?_) rfl (by kernel_rfl) (by kernel_rfl) (by kernel_rfl) (fun _ _ _ h => h) (Or.inl ⟨by rfl, ?_⟩) (by assumption) ?_
      rotate_left
      · intro w hSw; (try dsimp only at hSw); go_simp; try with_reducible rfl
      simp only [Act.put, List.setIfInBounds_toArray, List.set_cons_zero, List.set_cons_succ, List.getElem_toArray, List.getElem_cons_zero, List.getElem_cons_succ]
      refine wpAnyH_ready (rs := [12]) (by kernel_rfl) (by simp) ?_
      refine AllReadyH.cons rfl (fun K hK => ?_) AllReadyH.nil
      go_simp
      go_at_call 35
      (with_reducible refine kF.mono ?_)
      rintro e w10 ⟨rfl, hb'⟩
      try dsimp only
      refine hK.out _ _ ?_ (fun hHeld => ?_)
      · exact hld7 hh (by assumption) hb'
      clear hK K
      try simp only [Act.put, List.setIfInBounds_toArray, List.set_cons_zero, List.set_cons_succ]
      refine wpAnyH_take (i := 13) (v := ?_) rfl (by kernel_rfl) (by kernel_rfl) (by kernel_rfl) (fun _ _ _ h => h) (Or.inl ⟨by rfl, ?_⟩) (by assumption) ?_
      rotate_left
      · intro w hSw; (try dsimp only at hSw); go_simp; try with_reducible rfl
      simp only [Act.put, List.setIfInBounds_toArray, List.set_cons_zero, List.set_cons_succ, List.getElem_toArray, List.getElem_cons_zero, List.getElem_cons_succ]
      refine wpAnyH_take (i := 14) (v := ?_) rfl (by kernel_rfl) (by kernel_rfl) (by kernel_rfl) (fun _ _ _ h => h) (Or.inl ⟨by rfl, ?_⟩) (by assumption) ?_
      rotate_left
      · intro w hSw; (try dsimp only at hSw); go_simp; try with_reducible rfl
      simp only [Act.put, List.setIfInBounds_toArray, List.set_cons_zero, List.set_cons_succ, List.getElem_toArray, List.getElem_cons_zero, List.getElem_cons_succ]
      refine wpAnyH_take (i := 15) (v := ?_) rfl (by kernel_rfl) (by kernel_rfl) (by kernel_rfl) (fun _ _ _ h => h) (Or.inl ⟨by rfl, ?_⟩) (by assumption) ?_
      rotate_left
      · intro w hSw; (try dsimp only at hSw); go_simp; try with_reducible rfl
      simp only [Act.put, List.setIfInBounds_toArray, List.set_cons_zero, List.set_cons_succ, List.getElem_toArray, List.getElem_cons_zero, List.getElem_cons_succ]
      refine wpAnyH_take (i := 16) (v := ?_) rfl (by kernel_rfl) (by kernel_rfl) (by kernel_rfl) (fun _ _ _ h => h) (Or.inl ⟨by rfl, ?_⟩) (by assumption) ?_
      rotate_left
      · intro w hSw; (try dsimp only at hSw); go_simp; try with_reducible rfl
      simp only [Act.put, List.setIfInBounds_toArray, List.set_cons_zero, List.set_cons_succ, List.getElem_toArray, List.getElem_cons_zero, List.getElem_cons_succ]
      refine wpAnyH_take (i := 17) (v := ?_) rfl (by kernel_rfl) (by kernel_rfl) (by kernel_rfl) (fun _ _ _ h => h) (Or.inl ⟨by rfl, ?_⟩) (by assumption) ?_
      rotate_left
      · intro w hSw; (try dsimp only at hSw); go_simp; try with_reducible rfl
      simp only [Act.put, List.setIfInBounds_toArray, List.set_cons_zero, List.set_cons_succ, List.getElem_toArray, List.getElem_cons_zero, List.getElem_cons_succ]
      refine wpAnyH_take (i := 18) (v := ?_) rfl (by kernel_rfl) (by kernel_rfl) (by kernel_rfl) (fun _ _ _ h => h) (Or.inl ⟨by rfl, ?_⟩) (by assumption) ?_
      rotate_left
      · intro w hSw; (try dsimp only at hSw); go_simp; try with_reducible rfl
      simp only [Act.put, List.setIfInBounds_toArray, List.set_cons_zero, List.set_cons_succ, List.getElem_toArray, List.getElem_cons_zero, List.getElem_cons_succ]
      refine wpAnyH_take (i := 19) (v := ?_) rfl (by kernel_rfl) (by kernel_rfl) (by kernel_rfl) (fun _ _ _ h => h) (Or.inl ⟨by rfl, ?_⟩) (by assumption) ?_
      rotate_left
      · intro w hSw; (try dsimp only at hSw); go_simp; try with_reducible rfl
      simp only [Act.put, List.setIfInBounds_toArray, List.set_cons_zero, List.set_cons_succ, List.getElem_toArray, List.getElem_cons_zero, List.getElem_cons_succ]
      refine wpAnyH_take (i := 20) (v := undef) rfl (by kernel_rfl) (by kernel_rfl) (by kernel_rfl) (fun _ _ _ h => h) (Or.inr ⟨by first | kernel_rfl | rfl, rfl⟩) (by assumption) ?_
      simp only [Act.put, List.setIfInBounds_toArray]
      refine wpAnyH_take (i := 21) (v := undef) rfl (by kernel_rfl) (by kernel_rfl) (by kernel_rfl) (fun _ _ _ h => h) (Or.inr ⟨by first | kernel_rfl | rfl, rfl⟩) (by assumption) ?_
      simp only [Act.put]
      refine wpAnyH_take (i := 22) (v := undef) rfl (by kernel_rfl) (by kernel_rfl) (by kernel_rfl) (fun _ _ _ h => h) (Or.inr ⟨by first | kernel_rfl | rfl, rfl⟩) (by assumption) ?_
      simp only [Act.put]
      refine wpAnyH_take (i := 23) (v := undef) rfl (by kernel_rfl) (by kernel_rfl) (by kernel_rfl) (fun _ _ _ h => h) (Or.inr ⟨by first | kernel_rfl | rfl, rfl⟩) (by assumption) ?_
      simp only [Act.put]
      refine wpAnyH_take (i := 24) (v := undef) rfl (by kernel_rfl) (by kernel_rfl) (by kernel_rfl) (fun _ _ _ h => h) (Or.inr ⟨by first | kernel_rfl | rfl, rfl⟩) (by assumption) ?_
      simp only [Act.put]
      refine wpAnyH_take (i := 25) (v := undef) rfl (by kernel_rfl) (by kernel_rfl) (by kernel_rfl) (fun _ _ _ h => h) (Or.inr ⟨by first | kernel_rfl | rfl, rfl⟩) (by assumption) ?_
      simp only [Act.put]
      refine wpAnyH_take (i := 26) (v := undef) rfl (by kernel_rfl) (by kernel_rfl) (by kernel_rfl) (fun _ _ _ h => h) (Or.inr ⟨by first | kernel_rfl | rfl, rfl⟩) (by assumption) ?_
      simp only [Act.put]
      refine wpAnyH_take (i := 27) (v := undef) rfl (by kernel_rfl) (by kernel_rfl) (by kernel_rfl) (fun _ _ _ h => h) (Or.inr ⟨by first | kernel_rfl | rfl, rfl⟩) (by assumption) ?_
      simp only [Act.put]
      refine wpAnyH_take (i := 28) (v := ?_) rfl (by kernel_rfl) (by kernel_rfl) (by kernel_rfl) (fun _ _ _ h => h) (Or.inl ⟨by first | kernel_rfl | rfl, ?_⟩) (by assumption) ?_
      rotate_left
      · intro w hSw; (try dsimp only at hSw); go_simp; try with_reducible rfl
      simp only [Act.put, List.setIfInBounds_toArray, List.set_cons_zero, List.set_cons_succ, List.getElem_toArray, List.getElem_cons_zero, List.getElem_cons_succ]
      refine wpAnyH_take (i := 29) (v := ?_) rfl (by kernel_rfl) (by kernel_rfl) (by kernel_rfl) (fun _ _ _ h => h) (Or.inl ⟨by rfl, ?_⟩) (by assumption) ?_
      rotate_left
      · intro w hSw; (try dsimp only at hSw); go_simp; try with_reducible rfl
      simp only [Act.put, List.setIfInBounds_toArray, List.set_cons_zero, List.set_cons_succ, List.getElem_toArray, List.getElem_cons_zero, List.getElem_cons_succ]
      refine wpAnyH_done (by kernel_rfl) ?_ _
      have hbV := hHeld.2.2.2.2.2.2.2
      clear hP0
      go_wp2_with fail
      go_meet
      exact ⟨by first | rfl | simp, hbV⟩
  case rest =>
    obtain ⟨rfl, hb10⟩ := hcut
    have hF10 := H9.out.1.on hb10
    have hba : Below wc.heap.size wc (wc.alloc (.cells #[.int .i64 q.x, .int .i64 q.y] 43)) := (Below.refl _ _).alloc (Nat.le_refl _) _
    have kG := goodR_any [q] (some ⟨wc.heap.size, 0, none⟩) 1 1 _ (Reads.made wc #[.int .i64 q.x, .int .i64 q.y] 43 (0, 0) 2 1 (ptsV [q]) rfl rfl) (by omega) (fun p hp => by rw [List.mem_singleton] at hp; rw [hp]; exact HQ.out)
    rw [goodL_one] at kG
    have KG := Lib.hid kG
    have H11 := Lib.hid (hF10.on hba)
    obtain ⟨r1, r2⟩ := hF10.pt
    clear hb10 hF10 hba kG H9 hlen
    go_wp2_with fail
    refine KG.out.mono ?_
    rintro e w12 ⟨rfl, hb12⟩
    have H12 := Lib.hid (H11.out.on hb12)
    clear hb12 H11 KG r1 r2
    have KT : Hid (∀ V, FB p q ed A n c A' n' c' w V → FB p q ed A n c A' n' c' w V) := fun V h => h
    rcases hg : good q with _ | _
    · obtain rfl : ec = 3 := HC.out.2.trans (by unfold cornerE; rw [if_pos HBB.out, if_neg (by rw [hg]; decide)])
      obtain rfl : yes = false := HC.out.1.trans (by unfold cornerV; rw [hg]; simp)
      clear HC hg
      go_wp2_with fail
      obtain ⟨wl, hwl⟩ : ∃ wl : World, wl = w12 := ⟨_, rfl⟩
      rw [← hwl] at H12
      rw [← hwl]
      clear hwl
      go_loopw [16, 17] (fun s i wr => ∃ k : Nat, k ≤ n' ∧ i = .int .i64 (k : Int) ∧ s = .int .i64 (whoTo p.parcels ed k) ∧ Hid (FB p q ed A n c A' n' c' w wr)) (fun _ i _ => n' - (intOf i).toNat)
      case atStart => exact ⟨0, Nat.zero_le _, rfl, rfl, H12⟩
      case round =>
        clear H12
        obtain ⟨k, hk, rfl, rfl, HW⟩ := hrel
        obtain ⟨-, q2⟩ := HW.out.plan
        by_cases hlt : k < n'
        · have hlt' : (k : Int) < (n' : Int) := by omega
          have hw1 : IntKind.i64.wrap ((k : Int) + 1) = (k : Int) + 1 := by rw [IntKind.wrap_i64]; omega
          obtain ⟨ad, rfl⟩ := HW.out.2.2.2.2.parcs.some_ (by omega)
          obtain ⟨hb1, p1, ⟨Ak, nk, ck, p2, hrk, hk1, hk2⟩, -⟩ := HW.out.2.2.2.2.parcs.at_ hlt
          obtain ⟨y1, y2, y3, y4⟩ := HW.out.edge
          obtain ⟨x, hx⟩ : ∃ x, x = pcAt p.parcels k := ⟨_, rfl⟩
          rw [← hx] at p1 hrk
          have hxm : x ∈ p.parcels := by rw [hx, pcAt_lt (by have := HLN.out; omega)]; exact List.getElem_mem _
          have hnk : nk ≤ 128 := by have := ring_le HS.out hxm; have := hrk.lenPt; omega
          have hnxt : Hid (whoTo p.parcels ed (k + 1) = if ed ∈ edgesOf x.ring then x.id else whoTo p.parcels ed k) := by show _ = _; rw [hx]; rfl
          have kE := edgesR_any x.ring Ak nk ck wr.drew (hrk.on (Below.refl _ _).drew) (by omega)
          have kP := fun A c V (hV : Reads V V.heap.size 4 A nk (edsV (edgesOf x.ring))) => place2 (edgesOf x.ring) ed A nk c V hV (by omega)
          have hP0 : wr.drew.cell? ⟨w.heap.size, 1, none⟩ = some (.slice (some ad) n' c') ∧ wr.drew.cell? (ad.add (k * 3)) = some (.int .i64 x.id) ∧ wr.drew.cell? ⟨(ad.add (k * 3)).block, (ad.add (k * 3)).off + 1, none⟩ = some (.slice Ak nk ck) ∧ wr.drew.cell? ⟨w.heap.size + 1 + 1, 0, none⟩ = some (.int .i64 ed.a.x) ∧ wr.drew.cell? ⟨w.heap.size + 1 + 1, 1, none⟩ = some (.int .i64 ed.a.y) ∧ wr.drew.cell? ⟨w.heap.size + 1 + 1, 2, none⟩ = some (.int .i64 ed.b.x) ∧ wr.drew.cell? ⟨w.heap.size + 1 + 1, 3, none⟩ = some (.int .i64 ed.b.y) ∧ Below wr.heap.size wr wr.drew := ⟨q2, p1, p2, y1, y2, y3, y4, (Below.refl _ _).drew⟩
          have hh : (⟨w.heap.size, 1, none⟩ : Addr).block < wr.heap.size ∧ (ad.add (k * 3)).block < wr.heap.size ∧ (⟨(ad.add (k * 3)).block, (ad.add (k * 3)).off + 1, none⟩ : Addr).block < wr.heap.size ∧ (⟨w.heap.size + 1 + 1, 0, none⟩ : Addr).block < wr.heap.size ∧ (⟨w.heap.size + 1 + 1, 1, none⟩ : Addr).block < wr.heap.size ∧ (⟨w.heap.size + 1 + 1, 2, none⟩ : Addr).block < wr.heap.size ∧ (⟨w.heap.size + 1 + 1, 3, none⟩ : Addr).block < wr.heap.size := by
            have h1 := HW.out.lts
            simp only [block_of_add]
            exact ⟨h1.1, hb1, hb1, h1.2.2, h1.2.2, h1.2.2, h1.2.2⟩
          have HX := Lib.hid hx
          clear p1 p2 y1 y2 y3 y4 hrk hk1 hk2 hnk hxm hb1 hx
          go_upto_region 20 with fail
          clear q2
          refine wp_region_held_drew (S := fun V => V.cell? ⟨w.heap.size, 1, none⟩ = some (.slice (some ad) n' c') ∧ V.cell? (ad.add (k * 3)) = some (.int .i64 x.id) ∧ V.cell? ⟨(ad.add (k * 3)).block, (ad.add (k * 3)).off + 1, none⟩ = some (.slice Ak nk ck) ∧ V.cell? ⟨w.heap.size + 1 + 1, 0, none⟩ = some (.int .i64 ed.a.x) ∧ V.cell? ⟨w.heap.size + 1 + 1, 1, none⟩ = some (.int .i64 ed.a.y) ∧ V.cell? ⟨w.heap.size + 1 + 1, 2, none⟩ = some (.int .i64 ed.b.x) ∧ V.cell? ⟨w.heap.size + 1 + 1, 3, none⟩ = some (.int .i64 ed.b.y) ∧ Below wr.heap.size wr V) (by kernel_rfl) ?_ (fun hHeld => ?_)
          · exact hP0
          refine wpAnyH_take (i := 0) (v := ?_) rfl (by kernel_rfl) (by kernel_rfl) (by kernel_rfl) (fun _ _ _ h => h) (Or.inl ⟨by rfl, ?_⟩) (by assumption) ?_
          rotate_left
          · intro w hSw; (try dsimp only at hSw); go_simp; try with_reducible rfl
          simp only [Act.put, List.setIfInBounds_toArray, List.set_cons_zero, List.set_cons_succ, List.getElem_toArray, List.getElem_cons_zero]
          refine wpAnyH_take (i := 1) (v := ?_) rfl (by kernel_rfl) (by kernel_rfl) (by kernel_rfl) (fun _ _ _ h => h) (Or.inl ⟨by rfl, ?_⟩) (by assumption) ?_
          rotate_left
          · intro w hSw; (try dsimp only at hSw); go_simp; try with_reducible rfl
          simp only [Act.put, List.setIfInBounds_toArray, List.set_cons_zero, List.set_cons_succ, List.getElem_toArray, List.getElem_cons_zero, List.getElem_cons_succ]
          refine wpAnyH_take (i := 2) (v := ?_) rfl (by kernel_rfl) (by kernel_rfl) (by kernel_rfl) (fun _ _ _ h => h) (Or.inl ⟨by rfl, ?_⟩) (by assumption) ?_
          rotate_left
          · intro w hSw; (try dsimp only at hSw); go_simp; try with_reducible rfl
          simp only [Act.put, List.setIfInBounds_toArray, List.set_cons_zero, List.set_cons_succ, List.getElem_toArray, List.getElem_cons_zero, List.getElem_cons_succ]
          refine wpAnyH_take (i := 3) (v := ?_) rfl (by kernel_rfl) (by kernel_rfl) (by kernel_rfl) (fun _ _ _ h => h) (Or.inl ⟨by rfl, ?_⟩) (by assumption) ?_
          rotate_left
          · intro w hSw; (try dsimp only at hSw); go_simp; try with_reducible rfl
          simp only [Act.put, List.setIfInBounds_toArray, List.set_cons_zero, List.set_cons_succ, List.getElem_toArray, List.getElem_cons_zero, List.getElem_cons_succ]
          refine wpAnyH_take (i := 4) (v := ?_) rfl (by kernel_rfl) (by kernel_rfl) (by kernel_rfl) (fun _ _ _ h => h) (Or.inl ⟨by rfl, ?_⟩) (by assumption) ?_
          rotate_left
          · intro w hSw; (try dsimp only at hSw); go_simp; try with_reducible rfl
          simp only [Act.put, List.setIfInBounds_toArray, List.set_cons_zero, List.set_cons_succ, List.getElem_toArray, List.getElem_cons_zero, List.getElem_cons_succ]
          refine wpAnyH_take (i := 5) (v := ?_) rfl (by kernel_rfl) (by kernel_rfl) (by kernel_rfl) (fun _ _ _ h => h) (Or.inl ⟨by rfl, ?_⟩) (by assumption) ?_
          rotate_left
          · intro w hSw; (try dsimp only at hSw); go_simp; try with_reducible rfl
          simp only [Act.put, List.setIfInBounds_toArray, List.set_cons_zero, List.set_cons_succ, List.getElem_toArray, List.getElem_cons_zero, List.getElem_cons_succ]
          refine wpAnyH_take (i := 7) (v := ?_) rfl (by kernel_rfl) (by kernel_rfl) (by kernel_rfl) (fun _ _ _ h => h) (Or.inl ⟨by rfl, ?_⟩) (by assumption) ?_
          rotate_left
          · intro w hSw; (try dsimp only at hSw); go_simp; try with_reducible rfl
          simp only [Act.put, List.setIfInBounds_toArray, List.set_cons_zero, List.set_cons_succ, List.getElem_toArray, List.getElem_cons_zero, List.getElem_cons_succ]
          refine wpAnyH_ready (rs := [6]) (by kernel_rfl) (by simp) ?_
          refine AllReadyH.cons rfl (fun K hK => ?_) AllReadyH.nil
          go_simp
          go_at_call 26
          (with_reducible refine (kE).mono ?_)
          rintro e w7x ⟨A7, c7, rfl, ho7, hb'⟩
          try dsimp only
          refine hK.out _ _ ?_ (fun hHeld => ?_)
          · exact hld7 hh hP0 hb'
          clear hK K
          try simp only [Act.put, List.setIfInBounds_toArray, List.set_cons_zero, List.set_cons_succ]
          refine wpAnyH_ready (rs := [8]) (by kernel_rfl) (by simp) ?_
          refine AllReadyH.cons rfl (fun K hK => ?_) AllReadyH.nil
          go_simp
          go_at_call 29
          (with_reducible refine (kP _ _ _ (Reads.of_own ho7)).mono ?_)
          rintro e w20 ⟨i, rfl, ⟨hi, -⟩, hb''⟩
          have HI := Lib.hid hi
          clear hi
          try dsimp only
          refine hK.out _ _ ?_ (fun hHeld => ?_)
          · exact hld7 hh hHeld hb''
          clear hK K
          try simp only [Act.put, List.setIfInBounds_toArray, List.set_cons_zero, List.set_cons_succ]
          refine wpAnyH_take (i := 9) (v := ?_) rfl (by kernel_rfl) (by kernel_rfl) (by kernel_rfl) (fun _ _ _ h => h) (Or.inl ⟨by rfl, ?_⟩) (by assumption) ?_
          rotate_left
          · intro w hSw; (try dsimp only at hSw); go_simp; try with_reducible rfl
          simp only [Act.put, List.setIfInBounds_toArray, List.set_cons_zero, List.set_cons_succ, List.getElem_toArray, List.getElem_cons_zero, List.getElem_cons_succ]
          refine wpAnyH_done (by kernel_rfl) ?_ _
          have hbV := hHeld.2.2.2.2.2.2.2
          clear hP0
          have HV := Lib.hid (HW.out.on hbV)
          obtain ⟨-, q2⟩ := HV.out.plan
          obtain ⟨-, p1, -, -⟩ := HV.out.2.2.2.2.parcs.at_ hlt
          rw [← HX.out] at p1
          by_cases hin : ed ∈ edgesOf x.ring
          · have hge : 0 ≤ i := HI.out.2 hin
            have HD : Hid (whoTo p.parcels ed (k + 1) = x.id) := by show _ = _; rw [hnxt.out, if_pos hin]
            clear hin hbV
            go_wp2_with fail
            go_roundw
            case rel => exact ⟨k + 1, by omega, by go_num, by rw [HD.out], HV⟩
            case measure => simp [intOf]; omega
          · have hge : ¬ 0 ≤ i := fun h => hin (HI.out.1 h)
            have HD : Hid (whoTo p.parcels ed (k + 1) = whoTo p.parcels ed k) := by show _ = _; rw [hnxt.out, if_neg hin]
            clear hin hbV q2 p1
            go_wp2_with fail
            go_roundw
            case rel => exact ⟨k + 1, by omega, by go_num, by rw [HD.out], HV⟩
            case measure => simp [intOf]; omega
        · have hkn : k = n' := by omega
          subst hkn
          have hwho : whoTo p.parcels ed k = whoE p.parcels ed := by rw [← HLN.out]; exact whoTo_all HS.out.2.2.2.1.1
          rw [hwho]
          have hlI : l = whoE p.parcels ed := HL.out.1.trans (by unfold leftI; rw [if_pos HBB.out])
          rw [← hlI]
          have HB := Lib.hid HW.out.1
          by_cases he : ed ∈ allE p.parcels
          · have hp := whoE_pos HS.out he
            rw [← hlI] at hp
            obtain rfl : el = 0 := HL.out.2.trans (by unfold leftE; rw [if_pos HBB.out, if_pos he])
            clear hwho hlI he
            go_wp2_with fail
            go_ret
            exact ⟨by first | rfl | simp [hp], HB.out⟩
          · obtain rfl : el = 5 := HL.out.2.trans (by unfold leftE; rw [if_pos HBB.out, if_neg he])
            obtain rfl : l = 0 := hlI.trans (whoE_out he)
            clear hwho hlI he
            go_wp2_with fail
            go_ret
            exact ⟨by first | rfl | simp, HB.out⟩
    · obtain rfl : ec = 0 := HC.out.2.trans (by unfold cornerE; rw [if_pos HBB.out, if_pos hg])
      obtain rfl : yes = hasC p.parcels q := HC.out.1.trans (by unfold cornerV; rw [HBB.out, hg]; simp)
      obtain ⟨q1, q2⟩ := H12.out.plan
      obtain ⟨r1, r2⟩ := H12.out.pt
      have KC2 := Lib.hid (cornerR_any p q A A' n c n' c' w12 H12.out.2.2.2.2)
      clear HC hg
      go_wp2_with fail
      refine KC2.out.mono ?_
      rintro e w13 ⟨rfl, hb13⟩
      have H13 := Lib.hid (H12.out.on hb13)
      clear hb13 H12 KC2 q1 q2 r1 r2
      go_wp2_with fail
      obtain ⟨wl, hwl⟩ : ∃ wl : World, wl = w13 := ⟨_, rfl⟩
      rw [← hwl] at H13
      rw [← hwl]
      clear hwl
      go_loopw [16, 17] (fun s i wr => ∃ k : Nat, k ≤ n' ∧ i = .int .i64 (k : Int) ∧ s = .int .i64 (whoTo p.parcels ed k) ∧ Hid (FB p q ed A n c A' n' c' w wr)) (fun _ i _ => n' - (intOf i).toNat)
      case atStart => exact ⟨0, Nat.zero_le _, rfl, rfl, H13⟩
      case round =>
        clear H13
        obtain ⟨k, hk, rfl, rfl, HW⟩ := hrel
        obtain ⟨-, q2⟩ := HW.out.plan
        by_cases hlt : k < n'
        · have hlt' : (k : Int) < (n' : Int) := by omega
          have hw1 : IntKind.i64.wrap ((k : Int) + 1) = (k : Int) + 1 := by rw [IntKind.wrap_i64]; omega
          obtain ⟨ad, rfl⟩ := HW.out.2.2.2.2.parcs.some_ (by omega)
          obtain ⟨hb1, p1, ⟨Ak, nk, ck, p2, hrk, hk1, hk2⟩, -⟩ := HW.out.2.2.2.2.parcs.at_ hlt
          obtain ⟨y1, y2, y3, y4⟩ := HW.out.edge
          obtain ⟨x, hx⟩ : ∃ x, x = pcAt p.parcels k := ⟨_, rfl⟩
          rw [← hx] at p1 hrk
          have hxm : x ∈ p.parcels := by rw [hx, pcAt_lt (by have := HLN.out; omega)]; exact List.getElem_mem _
          have hnk : nk ≤ 128 := by have := ring_le HS.out hxm; have := hrk.lenPt; omega
          have hnxt : Hid (whoTo p.parcels ed (k + 1) = if ed ∈ edgesOf x.ring then x.id else whoTo p.parcels ed k) := by show _ = _; rw [hx]; rfl
          have kE := edgesR_any x.ring Ak nk ck wr.drew (hrk.on (Below.refl _ _).drew) (by omega)
          have kP := fun A c V (hV : Reads V V.heap.size 4 A nk (edsV (edgesOf x.ring))) => place2 (edgesOf x.ring) ed A nk c V hV (by omega)
          have hP0 : wr.drew.cell? ⟨w.heap.size, 1, none⟩ = some (.slice (some ad) n' c') ∧ wr.drew.cell? (ad.add (k * 3)) = some (.int .i64 x.id) ∧ wr.drew.cell? ⟨(ad.add (k * 3)).block, (ad.add (k * 3)).off + 1, none⟩ = some (.slice Ak nk ck) ∧ wr.drew.cell? ⟨w.heap.size + 1 + 1, 0, none⟩ = some (.int .i64 ed.a.x) ∧ wr.drew.cell? ⟨w.heap.size + 1 + 1, 1, none⟩ = some (.int .i64 ed.a.y) ∧ wr.drew.cell? ⟨w.heap.size + 1 + 1, 2, none⟩ = some (.int .i64 ed.b.x) ∧ wr.drew.cell? ⟨w.heap.size + 1 + 1, 3, none⟩ = some (.int .i64 ed.b.y) ∧ Below wr.heap.size wr wr.drew := ⟨q2, p1, p2, y1, y2, y3, y4, (Below.refl _ _).drew⟩
          have hh : (⟨w.heap.size, 1, none⟩ : Addr).block < wr.heap.size ∧ (ad.add (k * 3)).block < wr.heap.size ∧ (⟨(ad.add (k * 3)).block, (ad.add (k * 3)).off + 1, none⟩ : Addr).block < wr.heap.size ∧ (⟨w.heap.size + 1 + 1, 0, none⟩ : Addr).block < wr.heap.size ∧ (⟨w.heap.size + 1 + 1, 1, none⟩ : Addr).block < wr.heap.size ∧ (⟨w.heap.size + 1 + 1, 2, none⟩ : Addr).block < wr.heap.size ∧ (⟨w.heap.size + 1 + 1, 3, none⟩ : Addr).block < wr.heap.size := by
            have h1 := HW.out.lts
            simp only [block_of_add]
            exact ⟨h1.1, hb1, hb1, h1.2.2, h1.2.2, h1.2.2, h1.2.2⟩
          have HX := Lib.hid hx
          clear p1 p2 y1 y2 y3 y4 hrk hk1 hk2 hnk hxm hb1 hx
          go_upto_region 20 with fail
          clear q2
          refine wp_region_held_drew (S := fun V => V.cell? ⟨w.heap.size, 1, none⟩ = some (.slice (some ad) n' c') ∧ V.cell? (ad.add (k * 3)) = some (.int .i64 x.id) ∧ V.cell? ⟨(ad.add (k * 3)).block, (ad.add (k * 3)).off + 1, none⟩ = some (.slice Ak nk ck) ∧ V.cell? ⟨w.heap.size + 1 + 1, 0, none⟩ = some (.int .i64 ed.a.x) ∧ V.cell? ⟨w.heap.size + 1 + 1, 1, none⟩ = some (.int .i64 ed.a.y) ∧ V.cell? ⟨w.heap.size + 1 + 1, 2, none⟩ = some (.int .i64 ed.b.x) ∧ V.cell? ⟨w.heap.size + 1 + 1, 3, none⟩ = some (.int .i64 ed.b.y) ∧ Below wr.heap.size wr V) (by kernel_rfl) ?_ (fun hHeld => ?_)
          · exact hP0
          refine wpAnyH_take (i := 0) (v := ?_) rfl (by kernel_rfl) (by kernel_rfl) (by kernel_rfl) (fun _ _ _ h => h) (Or.inl ⟨by rfl, ?_⟩) (by assumption) ?_
          rotate_left
          · intro w hSw; (try dsimp only at hSw); go_simp; try with_reducible rfl
          simp only [Act.put, List.setIfInBounds_toArray, List.set_cons_zero, List.set_cons_succ, List.getElem_toArray, List.getElem_cons_zero]
          refine wpAnyH_take (i := 1) (v := ?_) rfl (by kernel_rfl) (by kernel_rfl) (by kernel_rfl) (fun _ _ _ h => h) (Or.inl ⟨by rfl, ?_⟩) (by assumption) ?_
          rotate_left
          · intro w hSw; (try dsimp only at hSw); go_simp; try with_reducible rfl
          simp only [Act.put, List.setIfInBounds_toArray, List.set_cons_zero, List.set_cons_succ, List.getElem_toArray, List.getElem_cons_zero, List.getElem_cons_succ]
          refine wpAnyH_take (i := 2) (v := ?_) rfl (by kernel_rfl) (by kernel_rfl) (by kernel_rfl) (fun _ _ _ h => h) (Or.inl ⟨by rfl, ?_⟩) (by assumption) ?_
          rotate_left
          · intro w hSw; (try dsimp only at hSw); go_simp; try with_reducible rfl
          simp only [Act.put, List.setIfInBounds_toArray, List.set_cons_zero, List.set_cons_succ, List.getElem_toArray, List.getElem_cons_zero, List.getElem_cons_succ]
          refine wpAnyH_take (i := 3) (v := ?_) rfl (by kernel_rfl) (by kernel_rfl) (by kernel_rfl) (fun _ _ _ h => h) (Or.inl ⟨by rfl, ?_⟩) (by assumption) ?_
          rotate_left
          · intro w hSw; (try dsimp only at hSw); go_simp; try with_reducible rfl
          simp only [Act.put, List.setIfInBounds_toArray, List.set_cons_zero, List.set_cons_succ, List.getElem_toArray, List.getElem_cons_zero, List.getElem_cons_succ]
          refine wpAnyH_take (i := 4) (v := ?_) rfl (by kernel_rfl) (by kernel_rfl) (by kernel_rfl) (fun _ _ _ h => h) (Or.inl ⟨by rfl, ?_⟩) (by assumption) ?_
          rotate_left
          · intro w hSw; (try dsimp only at hSw); go_simp; try with_reducible rfl
          simp only [Act.put, List.setIfInBounds_toArray, List.set_cons_zero, List.set_cons_succ, List.getElem_toArray, List.getElem_cons_zero, List.getElem_cons_succ]
          refine wpAnyH_take (i := 5) (v := ?_) rfl (by kernel_rfl) (by kernel_rfl) (by kernel_rfl) (fun _ _ _ h => h) (Or.inl ⟨by rfl, ?_⟩) (by assumption) ?_
          rotate_left
          · intro w hSw; (try dsimp only at hSw); go_simp; try with_reducible rfl
          simp only [Act.put, List.setIfInBounds_toArray, List.set_cons_zero, List.set_cons_succ, List.getElem_toArray, List.getElem_cons_zero, List.getElem_cons_succ]
          refine wpAnyH_take (i := 7) (v := ?_) rfl (by kernel_rfl) (by kernel_rfl) (by kernel_rfl) (fun _ _ _ h => h) (Or.inl ⟨by rfl, ?_⟩) (by assumption) ?_
          rotate_left
          · intro w hSw; (try dsimp only at hSw); go_simp; try with_reducible rfl
          simp only [Act.put, List.setIfInBounds_toArray, List.set_cons_zero, List.set_cons_succ, List.getElem_toArray, List.getElem_cons_zero, List.getElem_cons_succ]
          refine wpAnyH_ready (rs := [6]) (by kernel_rfl) (by simp) ?_
          refine AllReadyH.cons rfl (fun K hK => ?_) AllReadyH.nil
          go_simp
          go_at_call 26
          (with_reducible refine (kE).mono ?_)
          rintro e w7x ⟨A7, c7, rfl, ho7, hb'⟩
          try dsimp only
          refine hK.out _ _ ?_ (fun hHeld => ?_)
          · exact hld7 hh hP0 hb'
          clear hK K
          try simp only [Act.put, List.setIfInBounds_toArray, List.set_cons_zero, List.set_cons_succ]
          refine wpAnyH_ready (rs := [8]) (by kernel_rfl) (by simp) ?_
          refine AllReadyH.cons rfl (fun K hK => ?_) AllReadyH.nil
          go_simp
          go_at_call 29
          (with_reducible refine (kP _ _ _ (Reads.of_own ho7)).mono ?_)
          rintro e w20 ⟨i, rfl, ⟨hi, -⟩, hb''⟩
          have HI := Lib.hid hi
          clear hi
          try dsimp only
          refine hK.out _ _ ?_ (fun hHeld => ?_)
          · exact hld7 hh hHeld hb''
          clear hK K
          try simp only [Act.put, List.setIfInBounds_toArray, List.set_cons_zero, List.set_cons_succ]
          refine wpAnyH_take (i := 9) (v := ?_) rfl (by kernel_rfl) (by kernel_rfl) (by kernel_rfl) (fun _ _ _ h => h) (Or.inl ⟨by rfl, ?_⟩) (by assumption) ?_
          rotate_left
          · intro w hSw; (try dsimp only at hSw); go_simp; try with_reducible rfl
          simp only [Act.put, List.setIfInBounds_toArray, List.set_cons_zero, List.set_cons_succ, List.getElem_toArray, List.getElem_cons_zero, List.getElem_cons_succ]
          refine wpAnyH_done (by kernel_rfl) ?_ _
          have hbV := hHeld.2.2.2.2.2.2.2
          clear hP0
          have HV := Lib.hid (HW.out.on hbV)
          obtain ⟨-, q2⟩ := HV.out.plan
          obtain ⟨-, p1, -, -⟩ := HV.out.2.2.2.2.parcs.at_ hlt
          rw [← HX.out] at p1
          by_cases hin : ed ∈ edgesOf x.ring
          · have hge : 0 ≤ i := HI.out.2 hin
            have HD : Hid (whoTo p.parcels ed (k + 1) = x.id) := by show _ = _; rw [hnxt.out, if_pos hin]
            clear hin hbV
            go_wp2_with fail
            go_roundw
            case rel => exact ⟨k + 1, by omega, by go_num, by rw [HD.out], HV⟩
            case measure => simp [intOf]; omega
          · have hge : ¬ 0 ≤ i := fun h => hin (HI.out.1 h)
            have HD : Hid (whoTo p.parcels ed (k + 1) = whoTo p.parcels ed k) := by show _ = _; rw [hnxt.out, if_neg hin]
            clear hin hbV q2 p1
            go_wp2_with fail
            go_roundw
            case rel => exact ⟨k + 1, by omega, by go_num, by rw [HD.out], HV⟩
            case measure => simp [intOf]; omega
        · have hkn : k = n' := by omega
          subst hkn
          have hwho : whoTo p.parcels ed k = whoE p.parcels ed := by rw [← HLN.out]; exact whoTo_all HS.out.2.2.2.1.1
          rw [hwho]
          have hlI : l = whoE p.parcels ed := HL.out.1.trans (by unfold leftI; rw [if_pos HBB.out])
          rw [← hlI]
          have HB := Lib.hid HW.out.1
          by_cases he : ed ∈ allE p.parcels
          · have hp := whoE_pos HS.out he
            rw [← hlI] at hp
            obtain rfl : el = 0 := HL.out.2.trans (by unfold leftE; rw [if_pos HBB.out, if_pos he])
            clear hwho hlI he
            go_wp2_with fail
            go_ret
            exact ⟨by first | rfl | simp [hp], HB.out⟩
          · obtain rfl : el = 5 := HL.out.2.trans (by unfold leftE; rw [if_pos HBB.out, if_neg he])
            obtain rfl : l = 0 := hlI.trans (whoE_out he)
            clear hwho hlI he
            go_wp2_with fail
            go_ret
            exact ⟨by first | rfl | simp, HB.out⟩
end Go.Proofs.YtglnklfhgdjccaaGreat
