/- slices.Index and slices.Contains of points, ref05.In, plan.Has, plan.At, ref05.At, ref05.Corner: the walks. -/
import Derived.Test.YtgkcenhopmjmlaaGreatPlanIn
namespace Go.Proofs.YtgkcenhopmjmlaaGreat
open Go.RowKit
def idxPt (xs : List Pt) (q : Pt) : Int := if q ∈ xs then (xs.findIdx (fun p => decide (p = q)) : Int) else -1
theorem idx_none {xs : List Pt} {q : Pt} (h : ∀ j, j < xs.length → ptAt xs j ≠ q) : idxPt xs q = -1 := by
  unfold idxPt
  rw [if_neg]
  intro hq
  obtain ⟨j, hj, rfl⟩ := List.getElem_of_mem hq
  exact h j hj (ptAt_lt hj)
theorem idx_at {xs : List Pt} {q : Pt} {k : Nat} (hk : k < xs.length) (h1 : ptAt xs k = q) (h2 : ∀ j, j < k → ptAt xs j ≠ q) : idxPt xs q = (k : Int) := by
  unfold idxPt
  rw [if_pos (by rw [← h1, ptAt_lt hk]; exact List.getElem_mem hk)]
  congr 1
  rw [List.findIdx_eq hk]
  refine ⟨by rw [← ptAt_lt hk]; simpa using h1, fun j hj => ?_⟩
  rw [← ptAt_lt (by omega)]
  simpa using h2 j hj
theorem idx_nonneg {xs : List Pt} {q : Pt} : 0 ≤ idxPt xs q ↔ q ∈ xs := by
  unfold idxPt
  split
  · rename_i h; exact ⟨fun _ => h, fun _ => by omega⟩
  · rename_i h; exact ⟨fun h' => absurd h' (by omega), fun h' => absurd h' h⟩
theorem idx_lt {xs : List Pt} {q : Pt} (h : q ∈ xs) : ∃ k : Nat, k < xs.length ∧ idxPt xs q = (k : Int) ∧ ptAt xs k = q ∧ ∀ j, j < k → ptAt xs j ≠ q := by
  have hl : xs.findIdx (fun p => decide (p = q)) < xs.length := List.findIdx_lt_length_of_exists ⟨q, h, by simp⟩
  refine ⟨_, hl, by unfold idxPt; rw [if_pos h], ?_, fun j hj => ?_⟩
  · rw [ptAt_lt hl]
    have := List.findIdx_getElem (w := hl)
    simpa using this
  · rw [ptAt_lt (by omega)]
    have := List.not_of_lt_findIdx hj
    simpa using this
def hasC (ps : List Parc) (q : Pt) : Bool := ps.any fun x => decide (q ∈ x.ring)
theorem hasC_iff {ps : List Parc} {q : Pt} : hasC ps q = true ↔ ∃ x ∈ ps, q ∈ x.ring := by unfold hasC; simp
set_option maxHeartbeats 1600000 in
theorem indexQ_any (xs : List Pt) (Q : Pt) (A : Option Addr) (n cap : Nat) (w : World) (hr : Reads w w.heap.size 2 A n (ptsV xs)) (hn : n ≤ 8796093022208) :
    Calls Tryz.prog 124 #[.slice A n cap, .agg #[.int .i64 Q.x, .int .i64 Q.y]] w fun e w' => e = .returned (.int .i64 (idxPt xs Q)) ∧ Below w.heap.size w w' := by
  have hl := hr.lenPt
  have hB0 := (Below.refl w.heap.size w).alloc (Nat.le_refl _) (.cells #[.int .i64 Q.x, .int .i64 Q.y] 53)
  have hP0 : PtK (w.alloc (.cells #[.int .i64 Q.x, .int .i64 Q.y] 53)) w.heap.size Q := PtK.new w Q
  have H0 := Lib.hid (And.intro hB0 hP0)
  clear hB0 hP0
  go_enter Tryz.func124, Tryz.ntmps124
  go_wp2
  go_loopw [8] (fun i wr => ∃ m : Nat, m ≤ n ∧ i = .int .i64 (m : Int) ∧ Hid (∀ j, j < m → ptAt xs j ≠ Q) ∧ Below w.heap.size w wr ∧ PtK wr w.heap.size Q) (fun i _ => n - (intOf i).toNat)
  case atStart => exact ⟨0, Nat.zero_le _, rfl, fun j hj => absurd hj (Nat.not_lt_zero _), H0.out⟩
  case round =>
    clear H0
    obtain ⟨m, hm, rfl, HF, hbel, hK⟩ := hrel
    by_cases hmn : m < n
    · have hmn' : (m : Int) < (n : Int) := by omega
      have hw1 : IntKind.i64.wrap ((m : Int) + 1) = (m : Int) + 1 := by rw [IntKind.wrap_i64]; omega
      obtain ⟨ad, rfl, -, -, -, -⟩ := hr.pt hmn
      obtain ⟨-, p1, p2⟩ := (hr.below hbel).ptA hmn
      obtain ⟨q1, q2, -, -, -⟩ := hK.facts
      have HI := Lib.hid (idx_at (xs := xs) (q := Q) (k := m) (by omega))
      have he := fun W => (eqPt_runs Q (ptAt xs m) .eql (.tmp 0) (.tmp 0) W).1
      have hg := fun op a b W => (eqPt_runs Q (ptAt xs m) op a b W).2
      obtain ⟨P, hP⟩ : ∃ P, P = ptAt xs m := ⟨_, rfl⟩
      rw [← hP] at p1 p2 he hg
      have HP := Lib.hid hP
      have HB := Lib.hid (And.intro hbel hK)
      clear hbel hK hr hP
      by_cases hpq : P = Q
      · rw [decide_eq_true (hpq.symm)] at he
        have HE := Lib.hid hpq
        clear hpq
        go_wp2
        go_quiet (fail)
        go_wp2
        go_ret
        exact ⟨by rw [HI.out (by rw [← HP.out]; exact HE.out) HF.out]; rfl, below_drewN HB.out.1 _⟩
      · rw [decide_eq_false (fun h => hpq h.symm)] at he
        have HE : Hid (∀ j, j < m + 1 → ptAt xs j ≠ Q) := fun j hj => by
          by_cases h : j = m
          · rw [h, ← HP.out]; exact hpq
          · exact HF.out j (by omega)
        clear hpq
        go_wp2
        go_quiet (fail)
        go_wp2
        go_roundw
        case rel => exact ⟨m + 1, by omega, by go_num, HE.out, below_drewN HB.out.1 _, HB.out.2⟩
        case measure => simp [intOf]; omega
    · have hmn' : m = n := by omega
      subst hmn'
      have HB := Lib.hid hbel
      have HN := Lib.hid (idx_none (xs := xs) (q := Q) (fun j hj => HF.out j (by omega)))
      clear hbel hK
      go_wp2
      go_ret
      exact ⟨by rw [HN.out]; rfl, HB.out⟩
set_option maxHeartbeats 1600000 in
theorem inR_any (xs : List Pt) (Q : Pt) (A : Option Addr) (n cap : Nat) (w : World) (hr : Reads w w.heap.size 2 A n (ptsV xs)) (hn : n ≤ 8796093022208) :
    Calls Tryz.prog 69 #[.slice A n cap, .agg #[.int .i64 Q.x, .int .i64 Q.y]] w fun e w' => e = .returned (.int .i64 (idxPt xs Q)) ∧ Below w.heap.size w w' := by
  have hl := hr.lenPt
  have hB0 := (Below.refl w.heap.size w).alloc (Nat.le_refl _) (.cells #[.int .i64 Q.x, .int .i64 Q.y] 53)
  have hP0 : PtK (w.alloc (.cells #[.int .i64 Q.x, .int .i64 Q.y] 53)) w.heap.size Q := PtK.new w Q
  have H0 := Lib.hid (And.intro hB0 hP0)
  clear hB0 hP0
  go_enter Tryz.func69, Tryz.ntmps69
  go_wp2
  go_loopw [5] (fun i wr => ∃ m : Nat, m ≤ n ∧ i = .int .i64 (m : Int) ∧ Hid (∀ j, j < m → ptAt xs j ≠ Q) ∧ Below w.heap.size w wr ∧ PtK wr w.heap.size Q) (fun i _ => n - (intOf i).toNat)
  case atStart => exact ⟨0, Nat.zero_le _, rfl, fun j hj => absurd hj (Nat.not_lt_zero _), H0.out⟩
  case round =>
    clear H0
    obtain ⟨m, hm, rfl, HF, hbel, hK⟩ := hrel
    by_cases hmn : m < n
    · have hmn' : (m : Int) < (n : Int) := by omega
      have hw1 : IntKind.i64.wrap ((m : Int) + 1) = (m : Int) + 1 := by rw [IntKind.wrap_i64]; omega
      obtain ⟨ad, rfl, -, -, -, -⟩ := hr.pt hmn
      obtain ⟨-, p1, p2⟩ := (hr.below hbel).ptA hmn
      obtain ⟨q1, q2, -, -, -⟩ := hK.facts
      have HI := Lib.hid (idx_at (xs := xs) (q := Q) (k := m) (by omega))
      have he := fun W => (eqPt_runs (ptAt xs m) Q .eql (.tmp 0) (.tmp 0) W).1
      have hg := fun op a b W => (eqPt_runs (ptAt xs m) Q op a b W).2
      obtain ⟨P, hP⟩ : ∃ P, P = ptAt xs m := ⟨_, rfl⟩
      rw [← hP] at p1 p2 he hg
      have HP := Lib.hid hP
      have HB := Lib.hid (And.intro hbel hK)
      clear hbel hK hr hP
      by_cases hpq : P = Q
      · rw [decide_eq_true (hpq)] at he
        have HE := Lib.hid hpq
        clear hpq
        go_wp2
        go_quiet (fail)
        go_wp2
        go_ret
        exact ⟨by rw [HI.out (by rw [← HP.out]; exact HE.out) HF.out]; rfl, below_drewN HB.out.1 _⟩
      · rw [decide_eq_false hpq] at he
        have HE : Hid (∀ j, j < m + 1 → ptAt xs j ≠ Q) := fun j hj => by
          by_cases h : j = m
          · rw [h, ← HP.out]; exact hpq
          · exact HF.out j (by omega)
        clear hpq
        go_wp2
        go_quiet (fail)
        go_wp2
        go_roundw
        case rel => exact ⟨m + 1, by omega, by go_num, HE.out, below_drewN HB.out.1 _, HB.out.2⟩
        case measure => simp [intOf]; omega
    · have hmn' : m = n := by omega
      subst hmn'
      have HB := Lib.hid hbel
      have HN := Lib.hid (idx_none (xs := xs) (q := Q) (fun j hj => HF.out j (by omega)))
      clear hbel hK
      go_wp2
      go_ret
      exact ⟨by rw [HN.out]; rfl, HB.out⟩
set_option maxHeartbeats 800000 in
theorem containsPt_any (xs : List Pt) (Q : Pt) (A : Option Addr) (n cap : Nat) (w : World) (hr : Reads w w.heap.size 2 A n (ptsV xs)) (hn : n ≤ 8796093022208) :
    Calls Tryz.prog 138 #[.slice A n cap, .agg #[.int .i64 Q.x, .int .i64 Q.y]] w fun e w' => e = .returned (.bool (decide (Q ∈ xs))) ∧ Below w.heap.size w w' := by
  have hB0 := (Below.refl w.heap.size w).alloc (Nat.le_refl _) (.cells #[.int .i64 Q.x, .int .i64 Q.y] 53)
  have hP0 : PtK (w.alloc (.cells #[.int .i64 Q.x, .int .i64 Q.y] 53)) w.heap.size Q := PtK.new w Q
  have kI := Lib.hid (indexQ_any xs Q A n cap _ (hr.on hB0) hn)
  have HB := Lib.hid hB0
  have hd : Hid (decide (Q ∈ xs) = decide (0 ≤ idxPt xs Q)) := by show _ = _; rw [decide_eq_decide]; exact idx_nonneg.symm
  obtain ⟨q1, q2, -, -, -⟩ := hP0.facts
  clear hB0 hP0 hr
  go_enter Tryz.func138, Tryz.ntmps138
  go_wp2_with fail
  refine kI.out.mono ?_
  rintro e w1 ⟨rfl, hb1⟩
  have HB1 := Lib.hid (below_on HB.out (Nat.le_refl _) hb1)
  clear hb1 HB kI q1 q2
  go_wp2_with fail
  go_ret
  exact ⟨by rw [hd.out]; rfl, HB1.out⟩
set_option maxHeartbeats 800000 in
theorem has1_any (x : Parc) (q : Pt) (A : Option Addr) (n c g : Nat) (w : World) (hr : Reads w w.heap.size 2 A n (ptsV x.ring)) (hq : PtK w g q) (hn : n ≤ 8796093022208) :
    Calls Tryz.prog 184 #[.agg #[.int .i64 x.id, .slice A n c, .string x.owner], .pointer (some ⟨g, 0, none⟩)] w fun e w' => e = .returned (.bool (decide (q ∈ x.ring))) ∧ Below w.heap.size w w' := by
  have hb0 := (Below.refl w.heap.size w).alloc (Nat.le_refl _) (.cells #[.int .i64 x.id, .slice A n c, .string x.owner] 38)
  have hK := PcK.new w x A n c
  have hq0 : PtK (w.alloc (.cells #[.int .i64 x.id, .slice A n c, .string x.owner] 38)) g q := Blk.below hq hb0 (Blk.lt hq)
  have kN := Lib.hid (containsPt_any x.ring q A n c (w.alloc (.cells #[.int .i64 x.id, .slice A n c, .string x.owner] 38)) (hr.on hb0) hn)
  have HB := Lib.hid hb0
  obtain ⟨q1, q2, q3, -⟩ := hK.facts
  obtain ⟨r1, r2, -, -, -⟩ := hq0.facts
  clear hb0 hr hK hq hq0
  go_enter Tryz.func184, Tryz.ntmps184
  go_wp2_with fail
  refine kN.out.mono ?_
  rintro e w1 ⟨rfl, hb1⟩
  have HB2 := Lib.hid (below_on HB.out (Nat.le_refl _) hb1)
  clear hb1 HB kN q1 q2 q3 r1 r2
  go_wp2_with fail
  go_ret
  exact ⟨rfl, HB2.out⟩
set_option maxHeartbeats 1600000 in
theorem indexHas_any (q : Pt) (g : Nat) (ps : List Parc) (A : Option Addr) (n cap : Nat) (w : World) (hr : PIn w w.heap.size A n ps) (hn : n ≤ 8796093022208) (hK : PtK w g q ∧ ∀ x ∈ ps, x.fits) :
    Calls Tryz.prog 107 #[.slice A n cap, .func (.func 184) #[] #[.pointer (some ⟨g, 0, none⟩)]] w fun e w' => ∃ i : Int, e = .returned (.int .i64 i) ∧ ((i = -1 ∧ ∀ k, k < n → (fun x => decide (q ∈ x.ring)) (pcAt ps k) = false) ∨ ∃ k : Nat, k < n ∧ i = (k : Int) ∧ (fun x => decide (q ∈ x.ring)) (pcAt ps k) = true ∧ ∀ j, j < k → (fun x => decide (q ∈ x.ring)) (pcAt ps j) = false) ∧ Below w.heap.size w w' := by
  have HR := Lib.hid (And.intro hr hK)
  clear hr hK
  go_enter Tryz.func107, Tryz.ntmps107
  go_wp2_with fail
  go_loopw [8] (fun i wr => ∃ k : Nat, k ≤ n ∧ i = .int .i64 (k : Int) ∧ Hid (∀ j, j < k → (fun x => decide (q ∈ x.ring)) (pcAt ps j) = false) ∧ Below w.heap.size w wr) (fun i _ => n - (intOf i).toNat)
  case atStart => exact ⟨0, Nat.zero_le _, rfl, fun j hj => absurd hj (Nat.not_lt_zero _), Below.refl _ _⟩
  case round =>
    obtain ⟨k, hk, rfl, HA, hbel⟩ := hrel
    by_cases hlt : k < n
    · have hlt' : (k : Int) < (n : Int) := by omega
      have hw1 : IntKind.i64.wrap ((k : Int) + 1) = (k : Int) + 1 := by rw [IntKind.wrap_i64]; omega
      obtain ⟨ad, rfl⟩ := HR.out.1.some_ (by omega)
      obtain ⟨-, p1, ⟨Ak, nk, ck, p2, hrk, hk1, hk2⟩, p3⟩ := (HR.out.1.below hbel).at_ hlt
      have kF : Calls Tryz.prog 184 #[.agg #[.int .i64 (pcAt ps k).id, .slice Ak nk ck, .string (pcAt ps k).owner], .pointer (some ⟨g, 0, none⟩)] wr fun e w' => e = .returned (.bool ((fun x => decide (q ∈ x.ring)) (pcAt ps k))) ∧ Below wr.heap.size wr w' := has1_any (pcAt ps k) q Ak nk ck g wr (hrk.more hbel.size) (Blk.below HR.out.2.1 hbel (Blk.lt HR.out.2.1)) (by have h1 := hrk.lenPt; have h2 := (HR.out.2.2 (pcAt ps k) (by rw [pcAt_lt (by have := HR.out.1.1; omega)]; exact List.getElem_mem _)).1; omega)
      obtain ⟨x, hx⟩ : ∃ x, x = pcAt ps k := ⟨_, rfl⟩
      rw [← hx] at p1 p3 kF
      have HX := Lib.hid hx
      have HB := Lib.hid hbel
      clear hx hbel hrk
      obtain ⟨b, hb⟩ : ∃ b, b = (fun x => decide (q ∈ x.ring)) x := ⟨_, rfl⟩
      rw [← hb] at kF
      have HBB := Lib.hid hb
      clear hb
      rcases b with _ | _
      · go_wp2_with (go_at_call 184; (with_reducible refine kF.mono ?_); rintro e w' ⟨rfl, hb'⟩)
        go_roundw
        case rel =>
          refine ⟨k + 1, by omega, by go_num, (fun j hj => ?_ : ∀ j, j < k + 1 → _), below_on HB.out (Nat.le_refl _) (by assumption)⟩
          by_cases e : j = k
          · rw [e, ← HX.out]; exact HBB.out.symm
          · exact HA.out j (by omega)
        case measure => simp [intOf]; omega
      · go_wp2_with (go_at_call 184; (with_reducible refine kF.mono ?_); rintro e w' ⟨rfl, hb'⟩)
        go_ret
        exact ⟨k, rfl, .inr ⟨k, hlt, rfl, by rw [← HX.out]; exact HBB.out.symm, HA.out⟩, below_on HB.out (Nat.le_refl _) (by assumption)⟩
    · have hkn : k = n := by omega
      subst hkn
      have HB := Lib.hid hbel
      clear hbel
      go_wp2_with fail
      go_ret
      exact ⟨-1, rfl, .inl ⟨rfl, fun j hj => by have := HA.out j hj; simpa using this⟩, HB.out⟩
theorem containsHas_any (q : Pt) (g : Nat) (ps : List Parc) (A : Option Addr) (n cap : Nat) (w : World) (hr : PIn w w.heap.size A n ps) (hn : n ≤ 8796093022208) (hK : PtK w g q ∧ ∀ x ∈ ps, x.fits) :
    Calls Tryz.prog 102 #[.slice A n cap, .func (.func 184) #[] #[.pointer (some ⟨g, 0, none⟩)]] w fun e w' => e = .returned (.bool (ps.any (fun x => decide (q ∈ x.ring)))) ∧ Below w.heap.size w w' := by
  have hl := hr.1
  have kI := Lib.hid (indexHas_any q g ps A n cap w hr hn hK)
  clear hr hK
  go_enter Tryz.func102, Tryz.ntmps102
  go_wp2_with fail
  refine kI.out.mono ?_
  rintro e w1 ⟨i, rfl, hi, hb⟩
  have hany : Hid (ps.any (fun x => decide (q ∈ x.ring)) = decide (0 ≤ i)) := by
    show _ = _
    rcases hi with ⟨rfl, h⟩ | ⟨k, hk, rfl, h, -⟩
    · rw [decide_eq_false (by omega), List.any_eq_false]
      intro x hx
      obtain ⟨k, hk, rfl⟩ := List.getElem_of_mem hx
      have := h k (by omega)
      rw [pcAt_lt hk] at this
      rw [this]; decide
    · rw [decide_eq_true (by omega), List.any_eq_true]
      exact ⟨ps[k]'(by omega), List.getElem_mem _, by rw [pcAt_lt (by omega)] at h; exact h⟩
  have HB := Lib.hid hb
  clear hb hi kI
  go_wp2_with fail
  go_ret
  exact ⟨by rw [hany.out]; rfl, HB.out⟩
set_option maxHeartbeats 800000 in
theorem has_any (p : Plan) (q : Pt) (A A' : Option Addr) (n c n' c' : Nat) (w : World) (h : PlanAt w w.heap.size A n c A' n' c' p) :
    Calls Tryz.prog 137 #[planV A n c A' n' c', .agg #[.int .i64 q.x, .int .i64 q.y]] w fun e w' => e = .returned (.bool (hasC p.parcels q)) ∧ Below w.heap.size w w' := by
  obtain ⟨wa, hwa⟩ : ∃ wa : World, wa = (w.alloc (.cells #[.slice A n c, .slice A' n' c'] 26)).alloc (.cells #[.int .i64 q.x, .int .i64 q.y] 53) := ⟨_, rfl⟩
  have hB0 : Below w.heap.size w wa := by rw [hwa]; exact ((Below.refl _ _).alloc (Nat.le_refl _) _).alloc (by simp) _
  have hX : PlK wa w.heap.size A n c A' n' c' := by rw [hwa]; exact Blk.alloc (PlK.new w A n c A' n' c') _
  have hY : PtK wa (w.heap.size + 1) q := by
    rw [hwa]
    have := PtK.new (w.alloc (.cells #[.slice A n c, .slice A' n' c'] 26)) q
    rw [World.size_alloc] at this
    exact this
  have hP := h.on hB0
  have kC := Lib.hid (containsHas_any q (w.heap.size + 1) p.parcels A' n' c' wa hP.parcs (hP.lens.2.2.2) ⟨hY, hP.fits.2.2⟩)
  obtain ⟨q1, q2, q3⟩ := hX.facts
  have HB := Lib.hid hB0
  clear hX hY hB0 h hP
  go_enter Tryz.func137, Tryz.ntmps137
  go_upto_region 1 with fail
  rw [← hwa]
  clear hwa
  go_wp2_with fail
  refine kC.out.mono ?_
  rintro e w1 ⟨rfl, hb1⟩
  have HB1 := Lib.hid (below_on HB.out (Nat.le_refl _) hb1)
  clear hb1 HB kC q1 q2 q3
  go_wp2_with fail
  go_ret
  exact ⟨rfl, HB1.out⟩
abbrev HoldCq (W V : World) (b1 b2 : Nat) (a1 : Addr) (v1 v2 v3 v4 v5 : Value) : Prop := V.cell? ⟨b1, 1, none⟩ = some v1 ∧ V.cell? a1 = some v2 ∧ V.cell? ⟨a1.block, a1.off + 1, none⟩ = some v3 ∧ V.cell? ⟨b2, 0, none⟩ = some v4 ∧ V.cell? ⟨b2, 1, none⟩ = some v5 ∧ Below W.heap.size W V
theorem heldCq {W V V' : World} {b1 b2 : Nat} {a1 : Addr} {v1 v2 v3 v4 v5 : Value} (hh : b1 < W.heap.size ∧ b2 < W.heap.size ∧ a1.block < W.heap.size) (hs : V.cell? ⟨b1, 1, none⟩ = some v1 ∧ V.cell? a1 = some v2 ∧ V.cell? ⟨a1.block, a1.off + 1, none⟩ = some v3 ∧ V.cell? ⟨b2, 0, none⟩ = some v4 ∧ V.cell? ⟨b2, 1, none⟩ = some v5 ∧ Below W.heap.size W V) (hb : Below V.heap.size V V') :
    V'.cell? ⟨b1, 1, none⟩ = some v1 ∧ V'.cell? a1 = some v2 ∧ V'.cell? ⟨a1.block, a1.off + 1, none⟩ = some v3 ∧ V'.cell? ⟨b2, 0, none⟩ = some v4 ∧ V'.cell? ⟨b2, 1, none⟩ = some v5 ∧ Below W.heap.size W V' := by
  obtain ⟨h1, h2, h3⟩ := hh
  obtain ⟨c1, c2, c3, c4, c5, c9⟩ := hs
  have := c9.size
  have k : ∀ {a : Addr} {v : Value}, a.block < W.heap.size → V.cell? a = some v → V'.cell? a = some v := fun {a v} ha hv => (hb.cell (p := a) (by omega)).trans hv
  exact ⟨k h1 c1, k h3 c2, k h3 c3, k h2 c4, k h2 c5, below_on c9 (Nat.le_refl _) hb⟩
set_option maxRecDepth 100000 in
set_option maxHeartbeats 1600000 in
theorem cornerR_any (p : Plan) (q : Pt) (A A' : Option Addr) (n c n' c' : Nat) (w : World) (h : PlanAt w w.heap.size A n c A' n' c' p) :
    Calls Tryz.prog 145 #[planV A n c A' n' c', .agg #[.int .i64 q.x, .int .i64 q.y]] w fun e w' => e = .returned (.bool (hasC p.parcels q)) ∧ Below w.heap.size w w' := by
  obtain ⟨hl1, hl2, hl3, hl4⟩ := h.lens
  obtain ⟨wa, hwa⟩ : ∃ wa : World, wa = (w.alloc (.cells #[.slice A n c, .slice A' n' c'] 26)).alloc (.cells #[.int .i64 q.x, .int .i64 q.y] 53) := ⟨_, rfl⟩
  have hB0 : Below w.heap.size w wa := by rw [hwa]; exact ((Below.refl _ _).alloc (Nat.le_refl _) _).alloc (by simp) _
  have hX : PlK wa w.heap.size A n c A' n' c' := by rw [hwa]; exact Blk.alloc (PlK.new w A n c A' n' c') _
  have hY : PtK wa (w.heap.size + 1) q := by
    rw [hwa]
    have := PtK.new (w.alloc (.cells #[.slice A n c, .slice A' n' c'] 26)) q
    rw [World.size_alloc] at this
    exact this
  have H0 := Lib.hid (And.intro hB0 (And.intro hX hY))
  have HP := Lib.hid (And.intro h.parcs h.fits.2.2)
  have HL := Lib.hid hl2
  clear hB0 hX hY h hl1 hl2 hl3
  go_enter Tryz.func145, Tryz.ntmps145
  go_upto_region 1 with fail
  rw [← hwa]
  clear hwa
  go_wp2_with fail
  go_loopw [5] (fun i wr => ∃ m : Nat, m ≤ n' ∧ i = .int .i64 (m : Int) ∧ Hid (∀ j, j < m → q ∉ (pcAt p.parcels j).ring) ∧ Hid (Below w.heap.size w wr ∧ PlK wr w.heap.size A n c A' n' c' ∧ PtK wr (w.heap.size + 1) q)) (fun i _ => n' - (intOf i).toNat)
  case atStart => exact ⟨0, Nat.zero_le _, rfl, fun j hj => absurd hj (Nat.not_lt_zero _), H0⟩
  case round =>
    clear H0
    obtain ⟨m, hm, rfl, HF, HW⟩ := hrel
    obtain ⟨q1, q2, q3⟩ := HW.out.2.1.facts
    obtain ⟨r1, r2, -, -, -⟩ := HW.out.2.2.facts
    by_cases hmn : m < n'
    · have hmn' : (m : Int) < (n' : Int) := by omega
      have hw1 : IntKind.i64.wrap ((m : Int) + 1) = (m : Int) + 1 := by rw [IntKind.wrap_i64]; omega
      obtain ⟨ad, rfl⟩ := HP.out.1.some_ (by omega)
      obtain ⟨hb1, p1, ⟨Ak, nk, ck, p2, hrk, hk1, hk2⟩, -⟩ := (HP.out.1.below HW.out.1).at_ hmn
      have hsz := HW.out.1.size
      have hlt := Blk.lt HW.out.2.2
      have hh : w.heap.size < wr.heap.size ∧ w.heap.size + 1 < wr.heap.size ∧ (ad.add (m * 3)).block < wr.heap.size := by
        simp only [block_of_add]
        exact ⟨q3, hlt, by omega⟩
      have hnk : nk ≤ 8796093022208 := by
        have h1 := hrk.lenPt
        have h2 := (HP.out.2 (pcAt p.parcels m) (by rw [pcAt_lt (by have := HL.out; omega)]; exact List.getElem_mem _)).1
        omega
      have kF := inR_any (pcAt p.parcels m).ring q Ak nk ck wr.drew ((hrk.more hsz).drewN _) hnk
      obtain ⟨x, hx⟩ : ∃ x, x = pcAt p.parcels m := ⟨_, rfl⟩
      rw [← hx] at p1 kF
      have HX := Lib.hid hx
      have hP0 : HoldCq wr wr.drew w.heap.size (w.heap.size + 1) (ad.add (m * 3)) (.slice (some ad) n' c') (.int .i64 x.id) (.slice Ak nk ck) (.int .i64 q.x) (.int .i64 q.y) := ⟨q2, p1, p2, r1, r2, (Below.refl _ _).drew⟩
      have hnn := Lib.hid (idx_nonneg (xs := x.ring) (q := q))
      generalize idxPt x.ring q = ix at *
      clear hx hrk hk1 hk2 hnk hsz hlt hb1 q1 q3 p1 p2 r1 r2
      by_cases hge : 0 ≤ ix
      all_goals
        go_upto_region 4 with fail
        clear q2
        go_region_held3 (fun V => V.cell? ⟨w.heap.size, 1, none⟩ = some (.slice (some ad) n' c') ∧ V.cell? (ad.add (m * 3)) = some (.int .i64 x.id) ∧ V.cell? ⟨(ad.add (m * 3)).block, (ad.add (m * 3)).off + 1, none⟩ = some (.slice Ak nk ck) ∧ V.cell? ⟨w.heap.size + 1, 0, none⟩ = some (.int .i64 q.x) ∧ V.cell? ⟨w.heap.size + 1, 1, none⟩ = some (.int .i64 q.y) ∧ Below wr.heap.size wr V)
          (first | with_reducible exact hP0 | with_reducible exact heldCq hh (by assumption) (by assumption))
          (first
            | (go_simp; go_at_call 69; (with_reducible refine kF.mono ?_); rintro e w' ⟨rfl, hb'⟩; try dsimp only))
        clear hP0
        obtain ⟨-, -, -, -, -, hbV⟩ := (by assumption : HoldCq wr _ w.heap.size (w.heap.size + 1) (ad.add (m * 3)) (.slice (some ad) n' c') (.int .i64 x.id) (.slice Ak nk ck) (.int .i64 q.x) (.int .i64 q.y))
        have HV := Lib.hid (And.intro (below_on HW.out.1 (Nat.le_refl _) hbV) (And.intro (HW.out.2.1.on hbV) (Blk.below HW.out.2.2 hbV (Blk.lt HW.out.2.2))))
        clear hbV HW
        go_wp2_with fail
      · have HE : Hid (hasC p.parcels q = true) := hasC_iff.2 ⟨pcAt p.parcels m, by rw [pcAt_lt (by have := HL.out; omega)]; exact List.getElem_mem _, by rw [← HX.out]; exact hnn.out.1 hge⟩
        go_ret
        exact ⟨by rw [HE.out]; rfl, HV.out.1⟩
      · have HE : Hid (∀ j, j < m + 1 → q ∉ (pcAt p.parcels j).ring) := fun j hj => by
          by_cases h : j = m
          · rw [h, ← HX.out]; exact fun h' => hge (hnn.out.2 h')
          · exact HF.out j (by omega)
        go_roundw
        case rel => exact ⟨m + 1, by omega, by go_num, HE.out, HV⟩
        case measure => simp [intOf]; omega
    · have hmn' : m = n' := by omega
      subst hmn'
      have HN : Hid (hasC p.parcels q = false) := by
        show _ = _
        rw [Bool.eq_false_iff]
        intro h
        obtain ⟨x, hx, hq⟩ := hasC_iff.1 h
        obtain ⟨j, hj, rfl⟩ := List.getElem_of_mem hx
        exact HF.out j (by have := HL.out; omega) (by rw [pcAt_lt hj]; exact hq)
      go_wp2_with fail
      go_ret
      exact ⟨by rw [HN.out]; rfl, HW.out.1⟩
end Go.Proofs.YtgkcenhopmjmlaaGreat
