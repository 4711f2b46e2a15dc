/- merestonelaw05.PlanChanges: the walk. -/
import Derived.Deep.DeepCutAuto
import Derived.Test.YtgkcenhopmjmlaaGreatOwned2
import Derived.Test.YtgkcenhopmjmlaaGreatPlanCheck2
import Derived.Test.YtgkcenhopmjmlaaGreatChgLaw
namespace Go.Proofs.YtgkcenhopmjmlaaGreat
open Go.RowKit Go.Lib
def RdI (l : List Int) (o : Value) (W : World) : Prop := ∃ A c, o = .slice A l.length c ∧ Reads W W.heap.size 1 A l.length (intsV l)
theorem RdI.on {l : List Int} {o : Value} {W W' : World} (h : RdI l o W) (hb : Below W.heap.size W W') : RdI l o W' := by
  obtain ⟨A, c, h1, h2⟩ := h
  exact ⟨A, c, h1, h2.on hb⟩
theorem rdI_of {w W : World} {l : List Int} {o : Value} (h : OwI w l o W) : RdI l o W := by
  obtain ⟨A, n, c, h1, rfl, h3⟩ := h
  exact ⟨A, c, h1, Reads.of_own h3⟩
def ChgL (p q : Plan) (l : List Int) : Prop := l.Nodup ∧ l.Pairwise (· ≤ ·) ∧ l.length ≤ 2097152 ∧ ∀ z, z ∈ l ↔ chM p q z
theorem chgL_len {p q : Plan} {l : List Int} (h : l.Nodup) (hm : ∀ z, z ∈ l ↔ chM p q z) (hp : p.parcels.length ≤ 1048576) (hq : q.parcels.length ≤ 1048576) : l.length ≤ 2097152 := by
  have := h.length_le_of_subset (l₂ := p.parcels.map (·.id) ++ q.parcels.map (·.id)) (fun z hz => by
    have hk : ∀ ps : List Parc, 0 ≤ atP ps z → z ∈ ps.map (·.id) := fun ps h0 => by
      obtain ⟨j, hj, -, h4⟩ := atP_has h0
      exact List.mem_map.2 ⟨pcAt ps j, by rw [pcAt_lt hj]; exact List.getElem_mem hj, h4⟩
    rcases (hm z).1 hz with h1 | h1
    · exact List.mem_append_left _ (hk _ h1.1)
    · exact List.mem_append_right _ (hk _ h1.1))
  simp at this
  omega
theorem hldC4 {W V V' : World} {a0 a1 a2 a3 : Addr} {v0 v1 v2 v3 : Value} (hh : a0.block < W.heap.size ∧ a1.block < W.heap.size ∧ a2.block < W.heap.size ∧ a3.block < W.heap.size) (hs : V.cell? a0 = some v0 ∧ V.cell? a1 = some v1 ∧ V.cell? a2 = some v2 ∧ V.cell? a3 = some v3 ∧ Below W.heap.size W V) (hb : Below V.heap.size V V') :
    V'.cell? a0 = some v0 ∧ V'.cell? a1 = some v1 ∧ V'.cell? a2 = some v2 ∧ V'.cell? a3 = some v3 ∧ Below W.heap.size W V' := by
  obtain ⟨h0, h1, h2, h3⟩ := hh
  obtain ⟨c0, c1, c2, c3, cb⟩ := hs
  have := cb.size
  have k : ∀ {a : Addr} {v : Value}, a.block < W.heap.size → V.cell? a = some v → V'.cell? a = some v := fun {a v} ha hv => (hb.cell (p := a) (by omega)).trans hv
  exact ⟨k h0 c0, k h1 c1, k h2 c2, k h3 c3, below_on cb (Nat.le_refl _) hb⟩
set_option maxRecDepth 100000 in
set_option maxHeartbeats 6400000 in
theorem planChanges_any (p q : Plan) (A A' B B' : Option Addr) (n c n' c' m d m' d' : Nat) (w : World) (hp : PlanAt w w.heap.size A n c A' n' c' p) (hq : PlanAt w w.heap.size B m d B' m' d' q) :
    Calls Tryz.prog 12 #[planV A n c A' n' c', planV B m d B' m' d'] w fun e w' => e = .returned (.bool true) ∧ Below w.heap.size w w' := by
  obtain ⟨W, hwa⟩ : ∃ wa : World, wa = (w.alloc (.cells #[.slice A n c, .slice A' n' c'] 26)).alloc (.cells #[.slice B m d, .slice B' m' d'] 26) := ⟨_, rfl⟩
  have hB0 : Below w.heap.size w W := by rw [hwa]; exact ((Below.refl _ _).alloc (Nat.le_refl _) _).alloc (by simp) _
  have hF : CgF p A n c A' n' c' q B m d B' m' d' w W := by
    refine ⟨hB0, by rw [hwa]; simp, by rw [hwa]; exact Blk.alloc (PlK.new w A n c A' n' c') _, ?_, hp.below hB0, hq.below hB0⟩
    have := PlK.new (w.alloc (.cells #[.slice A n c, .slice A' n' c'] 26)) B m d B' m' d'
    rw [World.size_alloc] at this
    rw [hwa]
    exact this
  have H0 := Lib.hid hF
  have HL := Lib.hid (And.intro hp.lens.2.1 hq.lens.2.1)
  clear hF hp hq hB0
  go_enter Tryz.func12, Tryz.ntmps12
  go_upto_region 1 with fail
  rw [← hwa]
  clear hwa
  go_wp2_with fail
  refine (ans05_any _).mono ?_
  rintro e w1 ⟨rfl, hb⟩
  have H1 := Lib.hid (H0.out.to hb)
  clear hb H0
  obtain ⟨q1, q2, -⟩ := H1.out.2.2.1.facts
  go_wp2_with fail
  refine (small_any p A A' n c n' c' w1 H1.out.one).mono ?_
  rintro e w2 ⟨b, rfl, hsm, hb⟩
  have H2 := Lib.hid (H1.out.to hb)
  clear hb H1 q1 q2
  rcases b with _ | _
  · clear hsm
    go_wp2_with fail
    refine (ans05_any _).mono ?_
    rintro e w3 ⟨rfl, hb⟩
    have hB := (H2.out.to hb).1
    clear hb H2
    go_wp2_with fail
    go_ret
    exact ⟨rfl, hB⟩
  have hlp : p.parcels.length ≤ 1048576 := by have := (hsm rfl).1; have := HL.out.1; omega
  have hnp : n' ≤ 1048576 := by have := (hsm rfl).1; omega
  clear hsm
  obtain ⟨q1, q2, -⟩ := H2.out.2.2.2.1.facts
  go_wp2_with fail
  refine (small_any q B B' m d m' d' w2 H2.out.two).mono ?_
  rintro e w3 ⟨b, rfl, hsm, hb⟩
  have H3 := Lib.hid (H2.out.to hb)
  clear hb H2 q1 q2
  rcases b with _ | _
  · clear hsm
    go_wp2_with fail
    refine (ans05_any _).mono ?_
    rintro e w4 ⟨rfl, hb⟩
    have hB := (H3.out.to hb).1
    clear hb H3
    go_wp2_with fail
    go_ret
    exact ⟨rfl, hB⟩
  have hlq : q.parcels.length ≤ 1048576 := by have := (hsm rfl).1; have := HL.out.2; omega
  have hmq : m' ≤ 1048576 := by have := (hsm rfl).1; omega
  clear hsm
  obtain ⟨W, rfl⟩ : ∃ X, X = w3 := ⟨_, rfl⟩
  have kP := fun V (hV : Below W.heap.size W V) => ownPl_any p A A' n c n' c' V (H3.out.to hV).one (by omega)
  have kQ := fun V (hV : Below W.heap.size W V) => ownPl_any q B B' m d m' d' V (H3.out.to hV).two (by omega)
  obtain ⟨q1, q2, q3⟩ := H3.out.2.2.1.facts
  obtain ⟨z1, z2, z3⟩ := H3.out.2.2.2.1.facts
  have hP0 : W.drew.cell? ⟨w.heap.size, 0, none⟩ = some (.slice A n c) ∧ W.drew.cell? ⟨w.heap.size, 1, none⟩ = some (.slice A' n' c') ∧ W.drew.cell? ⟨w.heap.size + 1, 0, none⟩ = some (.slice B m d) ∧ W.drew.cell? ⟨w.heap.size + 1, 1, none⟩ = some (.slice B' m' d') ∧ Below W.heap.size W W.drew := ⟨q1, q2, z1, z2, (Below.refl _ _).drew⟩
  have hh : (⟨w.heap.size, 0, none⟩ : Addr).block < W.heap.size ∧ (⟨w.heap.size, 1, none⟩ : Addr).block < W.heap.size ∧ (⟨w.heap.size + 1, 0, none⟩ : Addr).block < W.heap.size ∧ (⟨w.heap.size + 1, 1, none⟩ : Addr).block < W.heap.size := ⟨q3, q3, z3, z3⟩
  clear q1 q2 q3 z1 z2 z3
  go_upto_region 3 with fail
  go_cut [5] (fun o wx => ∃ l, RdI l o wx ∧ ChgL p q l ∧ Below W.heap.size W wx)
  case first =>
    refine wp_region_held_drew (S := fun V => V.cell? ⟨w.heap.size, 0, none⟩ = some (.slice A n c) ∧ V.cell? ⟨w.heap.size, 1, none⟩ = some (.slice A' n' c') ∧ V.cell? ⟨w.heap.size + 1, 0, none⟩ = some (.slice B m d) ∧ V.cell? ⟨w.heap.size + 1, 1, none⟩ = some (.slice B' m' d') ∧ Below W.heap.size W V) (by kernel_rfl) ?_ (fun hHeld => ?_)
    · exact hP0
    refine tk 0 ?_
    refine tk 2 ?_
    refine wpAnyH_ready (rs := [1]) (by kernel_rfl) (by simp) ?_
    refine AllReadyH.cons rfl (fun K hK => ?_) AllReadyH.nil
    go_simp
    go_at_call 17
    (with_reducible refine (kP _ (Below.refl _ _).drew).mono ?_)
    rintro e w1 ⟨A1, n1, c1, A2, n2, c2, rfl, hP1, hb1⟩
    have hn2 : n2 ≤ 1048576 := by have := hP1.lens.2.1; omega
    try dsimp only
    refine hK.out _ _ ?_ (fun hHeld => ?_)
    · exact hldC4 hh hHeld hb1
    clear hK K
    try simp only [Act.put, List.setIfInBounds_toArray, List.set_cons_zero, List.set_cons_succ]
    refine wpAnyH_ready (rs := [3]) (by kernel_rfl) (by simp) ?_
    refine AllReadyH.cons rfl (fun K hK => ?_) AllReadyH.nil
    go_simp
    go_at_call 17
    (with_reducible refine (kQ _ hHeld.2.2.2.2).mono ?_)
    rintro e w2 ⟨A3, n3, c3, A4, n4, c4, rfl, hP2, hb2⟩
    have hn4 : n4 ≤ 1048576 := by have := hP2.lens.2.1; omega
    try dsimp only
    refine hK.out _ _ ?_ (fun hHeld => ?_)
    · exact hldC4 hh hHeld hb2
    clear hK K
    try simp only [Act.put, List.setIfInBounds_toArray, List.set_cons_zero, List.set_cons_succ]
    refine wpAnyH_ready (rs := [4]) (by kernel_rfl) (by simp) ?_
    refine AllReadyH.cons rfl (fun K hK => ?_) AllReadyH.nil
    go_simp
    go_at_call 36
    (with_reducible refine (changedP_any p q A1 A2 A3 A4 n1 c1 n2 c2 n3 c3 n4 c4 _ (hP1.on hb2) hP2 hn2 hn4).mono ?_)
    rintro e w3 ⟨D, l, rfl, hO, hnd, hsd, hmm, hb3⟩
    try dsimp only
    refine hK.out _ _ ?_ (fun hHeld => ?_)
    · exact hldC4 hh hHeld hb3
    clear hK K
    try simp only [Act.put, List.setIfInBounds_toArray, List.set_cons_zero, List.set_cons_succ]
    refine tk 5 ?_
    refine wpAnyH_done (by kernel_rfl) ?_ _
    go_wp2_with fail
    go_meet
    exact ⟨l, rdI_of hO, ⟨hnd, hsd, chgL_len hnd hmm (by omega) (by omega), hmm⟩, hHeld.2.2.2.2⟩
  case rest =>
    obtain ⟨X4, rfl⟩ : ∃ X, X = wc := ⟨_, rfl⟩
    obtain ⟨la, hra, hca, hbc⟩ := hcut
    have H4 := Lib.hid (And.intro (H3.out.to hbc) (And.intro hra hca))
    clear kP kQ hP0 hh hbc hra hca H3
    obtain ⟨W, rfl⟩ : ∃ X, X = X4 := ⟨_, rfl⟩
    have kP := fun V (hV : Below W.heap.size W V) => ownPl_any p A A' n c n' c' V (H4.out.1.to hV).one (by omega)
    have kQ := fun V (hV : Below W.heap.size W V) => ownPl_any q B B' m d m' d' V (H4.out.1.to hV).two (by omega)
    obtain ⟨q1, q2, q3⟩ := H4.out.1.2.2.1.facts
    obtain ⟨z1, z2, z3⟩ := H4.out.1.2.2.2.1.facts
    have hP0 : W.drew.cell? ⟨w.heap.size, 0, none⟩ = some (.slice A n c) ∧ W.drew.cell? ⟨w.heap.size, 1, none⟩ = some (.slice A' n' c') ∧ W.drew.cell? ⟨w.heap.size + 1, 0, none⟩ = some (.slice B m d) ∧ W.drew.cell? ⟨w.heap.size + 1, 1, none⟩ = some (.slice B' m' d') ∧ Below W.heap.size W W.drew := ⟨q1, q2, z1, z2, (Below.refl _ _).drew⟩
    have hh : (⟨w.heap.size, 0, none⟩ : Addr).block < W.heap.size ∧ (⟨w.heap.size, 1, none⟩ : Addr).block < W.heap.size ∧ (⟨w.heap.size + 1, 0, none⟩ : Addr).block < W.heap.size ∧ (⟨w.heap.size + 1, 1, none⟩ : Addr).block < W.heap.size := ⟨q3, q3, z3, z3⟩
    clear q1 q2 q3 z1 z2 z3
    go_upto_region 4 with fail
    go_cut [6] (fun o wx => ∃ l, RdI l o wx ∧ ChgL q p l ∧ Below W.heap.size W wx)
    case first =>
      refine wp_region_held_drew (S := fun V => V.cell? ⟨w.heap.size, 0, none⟩ = some (.slice A n c) ∧ V.cell? ⟨w.heap.size, 1, none⟩ = some (.slice A' n' c') ∧ V.cell? ⟨w.heap.size + 1, 0, none⟩ = some (.slice B m d) ∧ V.cell? ⟨w.heap.size + 1, 1, none⟩ = some (.slice B' m' d') ∧ Below W.heap.size W V) (by kernel_rfl) ?_ (fun hHeld => ?_)
      · exact hP0
      refine tk 0 ?_
      refine tk 2 ?_
      refine wpAnyH_ready (rs := [1]) (by kernel_rfl) (by simp) ?_
      refine AllReadyH.cons rfl (fun K hK => ?_) AllReadyH.nil
      go_simp
      go_at_call 17
      (with_reducible refine (kQ _ (Below.refl _ _).drew).mono ?_)
      rintro e w1 ⟨A1, n1, c1, A2, n2, c2, rfl, hP1, hb1⟩
      have hn2 : n2 ≤ 1048576 := by have := hP1.lens.2.1; omega
      try dsimp only
      refine hK.out _ _ ?_ (fun hHeld => ?_)
      · exact hldC4 hh hHeld hb1
      clear hK K
      try simp only [Act.put, List.setIfInBounds_toArray, List.set_cons_zero, List.set_cons_succ]
      refine wpAnyH_ready (rs := [3]) (by kernel_rfl) (by simp) ?_
      refine AllReadyH.cons rfl (fun K hK => ?_) AllReadyH.nil
      go_simp
      go_at_call 17
      (with_reducible refine (kP _ hHeld.2.2.2.2).mono ?_)
      rintro e w2 ⟨A3, n3, c3, A4, n4, c4, rfl, hP2, hb2⟩
      have hn4 : n4 ≤ 1048576 := by have := hP2.lens.2.1; omega
      try dsimp only
      refine hK.out _ _ ?_ (fun hHeld => ?_)
      · exact hldC4 hh hHeld hb2
      clear hK K
      try simp only [Act.put, List.setIfInBounds_toArray, List.set_cons_zero, List.set_cons_succ]
      refine wpAnyH_ready (rs := [4]) (by kernel_rfl) (by simp) ?_
      refine AllReadyH.cons rfl (fun K hK => ?_) AllReadyH.nil
      go_simp
      go_at_call 36
      (with_reducible refine (changedP_any q p A1 A2 A3 A4 n1 c1 n2 c2 n3 c3 n4 c4 _ (hP1.on hb2) hP2 hn2 hn4).mono ?_)
      rintro e w3 ⟨D, l, rfl, hO, hnd, hsd, hmm, hb3⟩
      try dsimp only
      refine hK.out _ _ ?_ (fun hHeld => ?_)
      · exact hldC4 hh hHeld hb3
      clear hK K
      try simp only [Act.put, List.setIfInBounds_toArray, List.set_cons_zero, List.set_cons_succ]
      refine tk 5 ?_
      refine wpAnyH_done (by kernel_rfl) ?_ _
      go_wp2_with fail
      go_meet
      exact ⟨l, rdI_of hO, ⟨hnd, hsd, chgL_len hnd hmm (by omega) (by omega), hmm⟩, hHeld.2.2.2.2⟩
    case rest =>
      obtain ⟨X5, rfl⟩ : ∃ X, X = wc := ⟨_, rfl⟩
      obtain ⟨lb, hrb, hcb, hbc⟩ := hcut
      have H5 := Lib.hid (And.intro (H4.out.1.to hbc) (And.intro (And.intro (H4.out.2.1.on hbc) H4.out.2.2) (And.intro hrb hcb)))
      clear kP kQ hP0 hh hbc hrb hcb H4
      obtain ⟨W, rfl⟩ : ∃ X, X = X5 := ⟨_, rfl⟩
      have kP := fun V (hV : Below W.heap.size W V) => ownPl_any p A A' n c n' c' V (H5.out.1.to hV).one (by omega)
      have kQ := fun V (hV : Below W.heap.size W V) => ownPl_any q B B' m d m' d' V (H5.out.1.to hV).two (by omega)
      obtain ⟨q1, q2, q3⟩ := H5.out.1.2.2.1.facts
      obtain ⟨z1, z2, z3⟩ := H5.out.1.2.2.2.1.facts
      have hP0 : W.drew.cell? ⟨w.heap.size, 0, none⟩ = some (.slice A n c) ∧ W.drew.cell? ⟨w.heap.size, 1, none⟩ = some (.slice A' n' c') ∧ W.drew.cell? ⟨w.heap.size + 1, 0, none⟩ = some (.slice B m d) ∧ W.drew.cell? ⟨w.heap.size + 1, 1, none⟩ = some (.slice B' m' d') ∧ Below W.heap.size W W.drew := ⟨q1, q2, z1, z2, (Below.refl _ _).drew⟩
      have hh : (⟨w.heap.size, 0, none⟩ : Addr).block < W.heap.size ∧ (⟨w.heap.size, 1, none⟩ : Addr).block < W.heap.size ∧ (⟨w.heap.size + 1, 0, none⟩ : Addr).block < W.heap.size ∧ (⟨w.heap.size + 1, 1, none⟩ : Addr).block < W.heap.size := ⟨q3, q3, z3, z3⟩
      clear q1 q2 q3 z1 z2 z3
      go_upto_region 5 with fail
      go_cut [7] (fun o wx => ∃ l, RdI l o wx ∧ ChgL p p l ∧ Below W.heap.size W wx)
      case first =>
        refine wp_region_held_drew (S := fun V => V.cell? ⟨w.heap.size, 0, none⟩ = some (.slice A n c) ∧ V.cell? ⟨w.heap.size, 1, none⟩ = some (.slice A' n' c') ∧ V.cell? ⟨w.heap.size + 1, 0, none⟩ = some (.slice B m d) ∧ V.cell? ⟨w.heap.size + 1, 1, none⟩ = some (.slice B' m' d') ∧ Below W.heap.size W V) (by kernel_rfl) ?_ (fun hHeld => ?_)
        · exact hP0
        refine tk 0 ?_
        refine tk 2 ?_
        refine wpAnyH_ready (rs := [1]) (by kernel_rfl) (by simp) ?_
        refine AllReadyH.cons rfl (fun K hK => ?_) AllReadyH.nil
        go_simp
        go_at_call 17
        (with_reducible refine (kP _ (Below.refl _ _).drew).mono ?_)
        rintro e w1 ⟨A1, n1, c1, A2, n2, c2, rfl, hP1, hb1⟩
        have hn2 : n2 ≤ 1048576 := by have := hP1.lens.2.1; omega
        try dsimp only
        refine hK.out _ _ ?_ (fun hHeld => ?_)
        · exact hldC4 hh hHeld hb1
        clear hK K
        try simp only [Act.put, List.setIfInBounds_toArray, List.set_cons_zero, List.set_cons_succ]
        refine wpAnyH_ready (rs := [3]) (by kernel_rfl) (by simp) ?_
        refine AllReadyH.cons rfl (fun K hK => ?_) AllReadyH.nil
        go_simp
        go_at_call 17
        (with_reducible refine (kP _ hHeld.2.2.2.2).mono ?_)
        rintro e w2 ⟨A3, n3, c3, A4, n4, c4, rfl, hP2, hb2⟩
        have hn4 : n4 ≤ 1048576 := by have := hP2.lens.2.1; omega
        try dsimp only
        refine hK.out _ _ ?_ (fun hHeld => ?_)
        · exact hldC4 hh hHeld hb2
        clear hK K
        try simp only [Act.put, List.setIfInBounds_toArray, List.set_cons_zero, List.set_cons_succ]
        refine wpAnyH_ready (rs := [4]) (by kernel_rfl) (by simp) ?_
        refine AllReadyH.cons rfl (fun K hK => ?_) AllReadyH.nil
        go_simp
        go_at_call 36
        (with_reducible refine (changedP_any p p A1 A2 A3 A4 n1 c1 n2 c2 n3 c3 n4 c4 _ (hP1.on hb2) hP2 hn2 hn4).mono ?_)
        rintro e w3 ⟨D, l, rfl, hO, hnd, hsd, hmm, hb3⟩
        try dsimp only
        refine hK.out _ _ ?_ (fun hHeld => ?_)
        · exact hldC4 hh hHeld hb3
        clear hK K
        try simp only [Act.put, List.setIfInBounds_toArray, List.set_cons_zero, List.set_cons_succ]
        refine tk 5 ?_
        refine wpAnyH_done (by kernel_rfl) ?_ _
        go_wp2_with fail
        go_meet
        exact ⟨l, rdI_of hO, ⟨hnd, hsd, chgL_len hnd hmm (by omega) (by omega), hmm⟩, hHeld.2.2.2.2⟩
      case rest =>
        obtain ⟨X6, rfl⟩ : ∃ X, X = wc := ⟨_, rfl⟩
        obtain ⟨lc, hrc, hcc, hbc⟩ := hcut
        have hc0 : lc = [] := List.eq_nil_iff_forall_not_mem.2 fun z hz => chM_self p z ((hcc.2.2.2 z).1 hz)
        subst hc0
        obtain ⟨Ac, cc, rfl, -⟩ := hrc
        have hra := H5.out.2.1.1.on hbc
        have hrb := H5.out.2.2.1.on hbc
        have hab : lb = la := sort_uniq H5.out.2.2.2.1 H5.out.2.1.2.1 H5.out.2.2.2.2.1 H5.out.2.1.2.2.1 fun z => by rw [H5.out.2.2.2.2.2.2, H5.out.2.1.2.2.2.2]; exact chM_swap q p z
        subst hab
        obtain ⟨Aa, ca, rfl, hra⟩ := hra
        obtain ⟨Ab, cb, rfl, hrb⟩ := hrb
        have H6 := Lib.hid (And.intro (H5.out.1.to hbc) (And.intro hra (And.intro hrb H5.out.2.1.2)))
        clear kP kQ hP0 hh hbc hra hrb hcc H5
        obtain ⟨q1, q2, -⟩ := H6.out.1.2.2.1.facts
        obtain ⟨z1, z2, -⟩ := H6.out.1.2.2.2.1.facts
        have KC := Lib.hid (changedR_any p q A A' B B' n c n' c' m d m' d' X6 H6.out.1.one H6.out.1.two hnp hmq)
        go_wp2_with fail
        refine KC.out.mono ?_
        rintro e w7 ⟨D, lr, rfl, hO, hlp1, hls, hb7⟩
        obtain ⟨Ar, cr, rfl, hrr⟩ := rdI_of hO
        have hcl := chL_mem p q
        have har : lb = lr := sort_uniq H6.out.2.2.2.1 (hlp1.nodup_iff.2 hcl.1) H6.out.2.2.2.2.1 hls fun z => by rw [H6.out.2.2.2.2.2.2, hlp1.mem_iff, hcl.2]
        subst har
        have kS := sameInts_any lb lb Aa Ar lb.length ca lb.length cr w7 (H6.out.2.1.on hb7) hrr (by have := H6.out.2.2.2.2.2.1; omega)
        rw [decide_eq_true rfl] at kS
        have KS := Lib.hid kS
        have H7 := Lib.hid (And.intro (H6.out.1.to hb7) (And.intro (H6.out.2.1.on hb7) (And.intro (H6.out.2.2.1.on hb7) H6.out.2.2.2.2.2.1)))
        clear KC kS hO hlp1 hls hb7 hrr hcl H6 q1 q2 z1 z2
        go_wp2_with fail
        refine KS.out.mono ?_
        rintro e w8 ⟨rfl, hb8⟩
        have kS := sameInts_any lb lb Aa Ab lb.length ca lb.length cb w8 (H7.out.2.1.on hb8) (H7.out.2.2.1.on hb8) (by have := H7.out.2.2.2; omega)
        rw [decide_eq_true rfl] at kS
        have KT := Lib.hid kS
        have H8 := Lib.hid (H7.out.1.to hb8)
        clear KS kS hb8 H7
        go_wp2_with fail
        refine KT.out.mono ?_
        rintro e w9 ⟨rfl, hb9⟩
        have HB := Lib.hid (H8.out.to hb9).1
        clear KT H8 hb9
        go_wp2_with fail
        go_ret
        exact ⟨by first | rfl | simp, HB.out⟩
end Go.Proofs.YtgkcenhopmjmlaaGreat
