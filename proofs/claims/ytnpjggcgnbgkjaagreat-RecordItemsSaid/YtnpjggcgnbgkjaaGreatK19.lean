/- slices.Equal, plan.normed, the document's normed, and slices.ContainsFunc of them: the walks; grid.Cells: the walk. -/
import Derived.Test.YtnpjggcgnbgkjaaGreatK01
import Derived.Test.YtnpjggcgnbgkjaaGreatK04
import Derived.Test.YtnpjggcgnbgkjaaGreatK14
import Derived.Test.YtnpjggcgnbgkjaaGreatK15
import Derived.Test.YtnpjggcgnbgkjaaGreatK18
namespace Go.Proofs.YtnpjggcgnbgkjaaGreat
open Go.RowKit
open Classical in
noncomputable def normB (xs : List Pt) : Bool := decide (NormedP xs)
set_option maxHeartbeats 800000 in
theorem equalPt_any (xs ys : List Pt) (A B : Option Addr) (n m ca cb : Nat) (w : World) (hr : Reads w w.heap.size 2 A n (ptsV xs)) (hs : Reads w w.heap.size 2 B m (ptsV ys)) (hn : n ≤ 9223372036854775807) (hm : m ≤ 9223372036854775807) :
    Calls Tryz.prog 210 #[.slice A n ca, .slice B m cb] w fun e w' => e = .returned (.bool (decide (xs = ys))) ∧ Below w.heap.size w w' := by
  have HL := Lib.hid (And.intro hr.lenPt hs.lenPt)
  by_cases hnm : n = m
  case neg =>
    have hf : Hid (decide (xs = ys) = false) := by
      apply decide_eq_false
      rintro rfl
      have := HL.out
      omega
    have hb : ((n : Int) != (m : Int)) = true := by simp; omega
    clear hnm
    go_enter Tryz.func210, Tryz.ntmps210
    go_wp2
    go_ret
    exact ⟨by rw [hf.out]; rfl, Below.refl _ _⟩
  subst hnm
  go_enter Tryz.func210, Tryz.ntmps210
  go_wp2
  go_loopw [13] (fun i wr => ∃ k : Nat, k ≤ n ∧ Hid (xs.take k = ys.take k) ∧ i = .int .i64 (k : Int) ∧ Below w.heap.size w wr) (fun i _ => n - (intOf i).toNat)
  case atStart => exact ⟨0, Nat.zero_le _, rfl, rfl, Below.refl _ _⟩
  case round =>
    obtain ⟨k, hk, hg, rfl, hbel⟩ := hrel
    by_cases hlt : k < n
    · have hw1 : IntKind.i64.wrap ((k : Int) + 1) = (k : Int) + 1 := by rw [IntKind.wrap_i64]; omega
      have hlt' : (k : Int) < (n : Int) := by omega
      obtain ⟨ad, rfl, hb, hkl, hcx, hcy⟩ := (hr.below hbel).pt hlt
      obtain ⟨bd, rfl, hb', hkl', hdx, hdy⟩ := (hs.below hbel).pt hlt
      have HE1 := Lib.hid (take_same hg.out hkl hkl')
      have HE2 := Lib.hid (not_same hkl hkl')
      obtain ⟨⟨x, y⟩, hp⟩ : ∃ p, p = xs[k] := ⟨_, rfl⟩
      obtain ⟨⟨x', y'⟩, hq⟩ : ∃ p, p = ys[k] := ⟨_, rfl⟩
      rw [← hp] at hcx hcy
      rw [← hq] at hdx hdy
      have HP := Lib.hid (And.intro hp hq)
      simp only at hcx hcy hdx hdy
      clear hp hq hr hs
      by_cases hx : x = x'
      · by_cases hy : y = y'
        · subst hx hy
          have HE := Lib.hid (HE1.out (HP.out.1.symm.trans HP.out.2))
          clear HE1 HE2 HP
          go_wp2
          go_quiet (fail)
          go_wp2
          go_roundw
          case rel => exact ⟨k + 1, by omega, HE, by go_num, below_drewN hbel _⟩
          case measure => simp [intOf]; omega
        · have HE := Lib.hid (HE2.out (by rw [← HP.out.1, ← HP.out.2]; simp [hy]))
          subst hx
          have hy' : (y != y') = true := by simpa using hy
          clear HE1 HE2 HP
          go_wp2
          go_quiet (fail)
          go_wp2
          go_ret
          exact ⟨by rw [HE.out]; rfl, below_drewN hbel _⟩
      · have HE := Lib.hid (HE2.out (by rw [← HP.out.1, ← HP.out.2]; simp [hx]))
        have hx' : (x != x') = true := by simpa using hx
        clear HE1 HE2 HP
        go_wp2
        go_quiet (fail)
        go_wp2
        go_ret
        exact ⟨by rw [HE.out]; rfl, below_drewN hbel _⟩
    · have hkn : k = n := by omega
      subst hkn
      have HF : Hid (decide (xs = ys) = true) := by
        show _ = _
        rw [decide_eq_true_iff]
        have h1 := hg.out
        have := HL.out
        rw [List.take_of_length_le (by omega), List.take_of_length_le (by omega)] at h1
        exact h1
      have hlt' : ¬ (k : Int) < (k : Int) := by omega
      go_wp2
      go_ret
      exact ⟨by rw [HF.out]; rfl, hbel⟩
set_option maxHeartbeats 800000 in
theorem normed_any (xs : List Pt) (A : Option Addr) (n cap : Nat) (w : World) (hr : Reads w w.heap.size 2 A n (ptsV xs)) (hc : n ≤ cap) (hn : n ≤ 8796093022208) (hx : ∀ p ∈ xs, p.inI) :
    Calls Tryz.prog 145 #[.slice A n cap] w fun e w' => e = .returned (.bool (normB xs)) ∧ Below w.heap.size w w' := by
  have hl : xs.length = n := hr.lenPt
  have hb : normB xs = (decide (checkI xs = 0) && decide (xs = rot (leastN xs n) xs)) := by
    unfold normB NormedP
    rw [hl, Bool.eq_iff_iff]
    simp
  rw [hb]
  clear hb
  have hL : checkI xs = 0 → n ≤ 128 := fun h => by
    obtain ⟨h1, h2, h3, -⟩ := checkI_zero h
    omega
  have kC := Lib.hid (check_any xs A n cap w hr (by omega) hx)
  have HR := Lib.hid (And.intro hr (And.intro hL hc))
  clear hr hL hx hl hc
  generalize checkI xs = e0 at *
  by_cases he : e0 = 0
  · subst he
    rw [decide_eq_true rfl]
    have h128 := HR.out.2.1 rfl
    go_enter Tryz.func145, Tryz.ntmps145
    go_wp2_with fail
    refine kC.out.mono ?_
    rintro e w1 ⟨rfl, hb1⟩
    have kL := Lib.hid (leastP_any xs A n cap w1 (HR.out.1.on hb1) HR.out.2.2 (by omega))
    have HB := Lib.hid hb1
    clear hb1 kC
    go_wp2_with fail
    refine kL.out.mono ?_
    rintro e w2 ⟨A', c', rfl, ho, hb2⟩
    have kS := Lib.hid (equalPt_any xs (rot (leastN xs n) xs) A A' n n cap c' w2 ((HR.out.1.on HB.out).on hb2) (Reads.of_own ho) (by omega) (by omega))
    have HB2 := Lib.hid (below_on HB.out (Nat.le_refl _) hb2)
    clear ho hb2 HB kL
    go_wp2_with fail
    refine kS.out.mono ?_
    rintro e w3 ⟨rfl, hb3⟩
    have HB3 := Lib.hid (below_on HB2.out (Nat.le_refl _) hb3)
    clear hb3 HB2 kS
    go_wp2_with fail
    go_ret
    exact ⟨by rw [Bool.true_and]; rfl, HB3.out⟩
  · rw [decide_eq_false he]
    have he' : (e0 == 0) = false := by simpa using he
    go_enter Tryz.func145, Tryz.ntmps145
    go_wp2_with fail
    refine kC.out.mono ?_
    rintro e w1 ⟨rfl, hb1⟩
    have HB := Lib.hid hb1
    clear hb1 kC
    go_wp2_with fail
    go_ret
    exact ⟨rfl, HB.out⟩
set_option maxHeartbeats 800000 in
theorem normedR_any (xs : List Pt) (A : Option Addr) (n cap : Nat) (w : World) (hr : Reads w w.heap.size 2 A n (ptsV xs)) (hc : n ≤ cap) (hn : n ≤ 8796093022208) (hx : ∀ p ∈ xs, p.inI) :
    Calls Tryz.prog 63 #[.slice A n cap] w fun e w' => e = .returned (.bool (normB xs)) ∧ Below w.heap.size w w' := by
  have hl : xs.length = n := hr.lenPt
  have hb : normB xs = (decide (checkI xs = 0) && decide (xs = rot (leastN xs n) xs)) := by
    unfold normB NormedP
    rw [hl, Bool.eq_iff_iff]
    simp
  rw [hb]
  clear hb
  have hL : checkI xs = 0 → n ≤ 128 := fun h => by
    obtain ⟨h1, h2, h3, -⟩ := checkI_zero h
    omega
  have kC := Lib.hid (checkR_any xs A n cap w hr (by omega) hx)
  have HR := Lib.hid (And.intro hr (And.intro hL hc))
  clear hr hL hx hl hc
  generalize checkI xs = e0 at *
  by_cases he : e0 = 0
  · subst he
    rw [decide_eq_true rfl]
    have h128 := HR.out.2.1 rfl
    go_enter Tryz.func63, Tryz.ntmps63
    go_wp2_with fail
    refine kC.out.mono ?_
    rintro e w1 ⟨rfl, hb1⟩
    have kL := Lib.hid (leastR_any xs A n cap w1 (HR.out.1.on hb1) h128)
    have HB := Lib.hid hb1
    clear hb1 kC
    go_wp2_with fail
    refine kL.out.mono ?_
    rintro e w2 ⟨A', c', rfl, ho, hb2⟩
    have kS := Lib.hid (sameR_any xs (rot (leastN xs n) xs) A A' n n cap c' w2 ((HR.out.1.on HB.out).on hb2) (Reads.of_own ho) (by omega) (by omega))
    have HB2 := Lib.hid (below_on HB.out (Nat.le_refl _) hb2)
    clear ho hb2 HB kL
    go_wp2_with fail
    refine kS.out.mono ?_
    rintro e w3 ⟨rfl, hb3⟩
    have HB3 := Lib.hid (below_on HB2.out (Nat.le_refl _) hb3)
    clear hb3 HB2 kS
    go_wp2_with fail
    go_ret
    exact ⟨by rw [Bool.true_and]; rfl, HB3.out⟩
  · rw [decide_eq_false he]
    have he' : (e0 == 0) = false := by simpa using he
    go_enter Tryz.func63, Tryz.ntmps63
    go_wp2_with fail
    refine kC.out.mono ?_
    rintro e w1 ⟨rfl, hb1⟩
    have HB := Lib.hid hb1
    clear hb1 kC
    go_wp2_with fail
    go_ret
    exact ⟨rfl, HB.out⟩
set_option maxHeartbeats 800000 in
theorem check1_any (x : Parc) (A : Option Addr) (n c : Nat) (w : World) (hr : Reads w w.heap.size 2 A n (ptsV x.ring)) (hc : n ≤ c) (hf : x.fits) :
    Calls Tryz.prog 147 #[.agg #[.int .i64 x.id, .slice A n c, .string x.owner]] w fun e w' => e = .returned (.bool (!normB x.ring)) ∧ Below w.heap.size w w' := by
  obtain ⟨f1, f2, -, -⟩ := hf
  have hb0 := (Below.refl w.heap.size w).alloc (Nat.le_refl _) (.cells #[.int .i64 x.id, .slice A n c, .string x.owner] 37)
  have hK := PcK.new w x A n c
  have kN := Lib.hid (normed_any x.ring A n c (w.alloc (.cells #[.int .i64 x.id, .slice A n c, .string x.owner] 37)) (hr.on hb0) hc (by have := hr.lenPt; omega) f2)
  have HB := Lib.hid hb0
  obtain ⟨q1, q2, q3, -⟩ := hK.facts
  clear hb0 hr f2 hK
  generalize normB x.ring = b at *
  go_enter Tryz.func147, Tryz.ntmps147
  go_wp2_with fail
  refine kN.out.mono ?_
  rintro e w1 ⟨rfl, hb1⟩
  have HB2 := Lib.hid (below_on HB.out (Nat.le_refl _) hb1)
  clear hb1 HB kN
  go_wp2_with fail
  go_ret
  exact ⟨rfl, HB2.out⟩
set_option maxHeartbeats 1600000 in
theorem indexC1_any (ps : List Parc) (A : Option Addr) (n cap : Nat) (w : World) (hr : PIn w w.heap.size A n ps) (hn : n ≤ 8796093022208) (hK : ∀ x ∈ ps, x.fits) :
    Calls Tryz.prog 199 #[.slice A n cap, .func (.func 147) #[] #[]] w fun e w' => ∃ i : Int, e = .returned (.int .i64 i) ∧ ((i = -1 ∧ ∀ k, k < n → (fun x => !normB x.ring) (pcAt ps k) = false) ∨ ∃ k : Nat, k < n ∧ i = (k : Int) ∧ (fun x => !normB x.ring) (pcAt ps k) = true ∧ ∀ j, j < k → (fun x => !normB x.ring) (pcAt ps j) = false) ∧ Below w.heap.size w w' := by
  have HR := Lib.hid (And.intro hr hK)
  clear hr hK
  go_enter Tryz.func199, Tryz.ntmps199
  go_wp2_with fail
  go_loopw [8] (fun i wr => ∃ k : Nat, k ≤ n ∧ i = .int .i64 (k : Int) ∧ Hid (∀ j, j < k → (fun x => !normB x.ring) (pcAt ps j) = false) ∧ Below w.heap.size w wr) (fun i _ => n - (intOf i).toNat)
  case atStart => exact ⟨0, Nat.zero_le _, rfl, fun j hj => absurd hj (Nat.not_lt_zero _), Below.refl _ _⟩
  case round =>
    obtain ⟨k, hk, rfl, HA, hbel⟩ := hrel
    by_cases hlt : k < n
    · have hlt' : (k : Int) < (n : Int) := by omega
      have hw1 : IntKind.i64.wrap ((k : Int) + 1) = (k : Int) + 1 := by rw [IntKind.wrap_i64]; omega
      obtain ⟨ad, rfl⟩ := HR.out.1.some_ (by omega)
      obtain ⟨-, p1, ⟨Ak, nk, ck, p2, hrk, hk1, hk2⟩, p3⟩ := (HR.out.1.below hbel).at_ hlt
      have kF : Calls Tryz.prog 147 #[.agg #[.int .i64 (pcAt ps k).id, .slice Ak nk ck, .string (pcAt ps k).owner]] wr fun e w' => e = .returned (.bool ((fun x => !normB x.ring) (pcAt ps k))) ∧ Below wr.heap.size wr w' := check1_any (pcAt ps k) Ak nk ck wr (hrk.more hbel.size) hk1 (by rw [pcAt_lt (by have := HR.out.1.1; omega)]; exact HR.out.2 _ (List.getElem_mem _))
      obtain ⟨x, hx⟩ : ∃ x, x = pcAt ps k := ⟨_, rfl⟩
      rw [← hx] at p1 p3 kF
      have HX := Lib.hid hx
      have HB := Lib.hid hbel
      clear hx hbel hrk
      obtain ⟨b, hb⟩ : ∃ b, b = (fun x => !normB x.ring) x := ⟨_, rfl⟩
      rw [← hb] at kF
      have HBB := Lib.hid hb
      clear hb
      rcases b with _ | _
      · go_wp2_with (go_at_call 147; (with_reducible refine kF.mono ?_); rintro e w' ⟨rfl, hb'⟩)
        go_roundw
        case rel =>
          refine ⟨k + 1, by omega, by go_num, (fun j hj => ?_ : ∀ j, j < k + 1 → _), below_on HB.out (Nat.le_refl _) (by assumption)⟩
          by_cases e : j = k
          · rw [e, ← HX.out]; exact HBB.out.symm
          · exact HA.out j (by omega)
        case measure => simp [intOf]; omega
      · go_wp2_with (go_at_call 147; (with_reducible refine kF.mono ?_); rintro e w' ⟨rfl, hb'⟩)
        go_ret
        exact ⟨k, rfl, .inr ⟨k, hlt, rfl, by rw [← HX.out]; exact HBB.out.symm, HA.out⟩, below_on HB.out (Nat.le_refl _) (by assumption)⟩
    · have hkn : k = n := by omega
      subst hkn
      have HB := Lib.hid hbel
      clear hbel
      go_wp2_with fail
      go_ret
      exact ⟨-1, rfl, .inl ⟨rfl, fun j hj => by have := HA.out j hj; simpa using this⟩, HB.out⟩
theorem containsC1_any (ps : List Parc) (A : Option Addr) (n cap : Nat) (w : World) (hr : PIn w w.heap.size A n ps) (hn : n ≤ 8796093022208) (hK : ∀ x ∈ ps, x.fits) :
    Calls Tryz.prog 146 #[.slice A n cap, .func (.func 147) #[] #[]] w fun e w' => e = .returned (.bool (ps.any (fun x => !normB x.ring))) ∧ Below w.heap.size w w' := by
  have hl := hr.1
  have kI := Lib.hid (indexC1_any ps A n cap w hr hn hK)
  clear hr hK
  go_enter Tryz.func146, Tryz.ntmps146
  go_wp2_with fail
  refine kI.out.mono ?_
  rintro e w1 ⟨i, rfl, hi, hb⟩
  have hany : Hid (ps.any (fun x => !normB x.ring) = decide (0 ≤ i)) := by
    show _ = _
    rcases hi with ⟨rfl, h⟩ | ⟨k, hk, rfl, h, -⟩
    · rw [decide_eq_false (by omega), List.any_eq_false]
      intro x hx
      obtain ⟨k, hk, rfl⟩ := List.getElem_of_mem hx
      have := h k (by omega)
      rw [pcAt_lt hk] at this
      rw [this]; decide
    · rw [decide_eq_true (by omega), List.any_eq_true]
      exact ⟨ps[k]'(by omega), List.getElem_mem _, by rw [pcAt_lt (by omega)] at h; exact h⟩
  have HB := Lib.hid hb
  clear hb hi kI
  go_wp2_with fail
  go_ret
  exact ⟨by rw [hany.out]; rfl, HB.out⟩
end Go.Proofs.YtnpjggcgnbgkjaaGreat
namespace Go.Proofs.YtnpjggcgnbgkjaaGreat
open Go.RowKit
theorem aroW_ok {xs : List Pt} (hg : goodL xs = true) (k : Nat) : good (aroW xs k).low = true ∧ good (aroW xs k).high = true ∧ (aroW xs k).lx ≤ (aroW xs k).hx ∧ (aroW xs k).ly ≤ (aroW xs k).hy := by
  induction k with
  | zero =>
    have h := ptAt_good hg 0
    exact ⟨h, h, Int.le_refl _, Int.le_refl _⟩
  | succ k ih =>
    have h := ptAt_good hg k
    obtain ⟨h1, h2, h3, h4⟩ := ih
    rw [good_iff] at h h1 h2 ⊢
    rw [good_iff]
    simp only [Win.low, Win.high] at h1 h2 ⊢
    show ((_ : Int) ≤ mn _ _ ∧ _) ∧ _
    simp only [aroW, mn, mx]
    refine ⟨?_, ?_, ?_, ?_⟩
    · refine ⟨?_, ?_, ?_, ?_⟩ <;> split <;> omega
    · refine ⟨?_, ?_, ?_, ?_⟩ <;> split <;> omega
    · split <;> split <;> omega
    · split <;> split <;> omega
theorem aroW_win {xs : List Pt} (hg : goodL xs = true) (k : Nat) : winE (aroW xs k) = 0 ∧ (aroW xs k).inI := by
  obtain ⟨h1, h2, h3, h4⟩ := aroW_ok hg k
  refine ⟨?_, good_in' h1, good_in' h2⟩
  unfold winE
  rw [if_pos (by simp [goodL, h1, h2]), if_neg (by omega)]
theorem ref_span2 {v : Win} (h : winE v = 0) : refW v 9 = spanC v := by
  obtain ⟨⟨g1, g2, g3⟩, g4, g5, g6⟩ := win_good h
  unfold refW spanC
  rw [if_pos h]
  unfold spanW nRow nCol
  exact spanF_eq _ _ _ _ (by omega) (by omega) (by omega) (by omega) (by omega) (by omega)
noncomputable def cellsL (xs : List Pt) : List Pt := if checkI xs = 0 then spanC (aroW xs xs.length) else []
set_option maxHeartbeats 800000 in
theorem cells_any (xs : List Pt) (A : Option Addr) (n cap : Nat) (w : World) (hr : Reads w w.heap.size 2 A n (ptsV xs)) (hn : n ≤ 9223372036854775807) (hx : ∀ p ∈ xs, p.inI) :
    Calls Tryz.prog 154 #[.slice A n cap] w fun e w' => ∃ A' c, e = .returned (.tuple #[.slice A' (cellsL xs).length c, .int .i64 (checkI xs)]) ∧ w'.ownsRow w.heap.size 122 2 (.slice A' (cellsL xs).length c) (cellsL xs).length (ptsV (cellsL xs)) ∧ Below w.heap.size w w' := by
  have hl : xs.length = n := hr.lenPt
  have kC := check_any xs A n cap w hr hn hx
  have hcl : cellsL xs = if checkI xs = 0 then spanC (aroW xs xs.length) else [] := rfl
  by_cases hE : checkI xs = 0
  · obtain ⟨h1, h2, h3, -⟩ := checkI_zero hE
    obtain ⟨hw1, hw2⟩ := aroW_win h2 xs.length
    rw [if_pos hE] at hcl
    rw [hE] at kC
    have kA : ∀ V, Below w.heap.size w V → Calls Tryz.prog 220 #[.slice A n cap] V fun e V' => e = .returned (winV (aroW xs xs.length)) ∧ Below V.heap.size V V' := fun V hV => by
      rw [hl]
      exact around_any xs A n cap V ((hr.below hV).more hV.size) (by omega) (by omega)
    have kS := fun V => span_any (aroW xs xs.length) V hw2
    rw [hcl, hE]
    unfold winV at kA kS
    unfold SpanPost at kS
    rw [hw1] at kS
    generalize spanC (aroW xs xs.length) = cs at *
    generalize aroW xs xs.length = v at *
    have HK := Lib.hid (And.intro kC (And.intro kA kS))
    clear kC kA kS hw1 hw2 h1 h2 h3 hE hcl hx hr hn hl
    go_enter Tryz.func154, Tryz.ntmps154
    go_wp2_with fail
    with_reducible refine HK.out.1.mono ?_
    rintro e w1 ⟨rfl, hb1⟩
    have H1 := Lib.hid hb1
    clear hb1
    go_wp2_with fail
    with_reducible refine (HK.out.2.1 _ H1.out).mono ?_
    rintro e w2 ⟨rfl, hb2⟩
    have H2 := Lib.hid (below_on H1.out (Nat.le_refl _) hb2)
    clear hb2 H1
    go_wp2_with fail
    with_reducible refine (HK.out.2.2 _).mono ?_
    rintro e w3 ⟨A3, c3, rfl, ho3, hb3⟩
    have H3 := Lib.hid (And.intro (own_mono ho3 H2.out.size) (below_on H2.out (Nat.le_refl _) hb3))
    clear hb3 ho3 H2
    go_wp2_with fail
    exact bodyPost_ret (v := .tuple #[.slice A3 cs.length c3, .int .i64 0]) (by simp [results, Tryz.results154, go_sem]) rfl ⟨A3, c3, rfl, H3.out⟩
  · rw [if_neg hE] at hcl
    rw [hcl]
    have hne : (checkI xs != 0) = true := by simpa using hE
    generalize checkI xs = ce at *
    have HK := Lib.hid kC
    clear kC hE hcl hx hr hn hl
    go_enter Tryz.func154, Tryz.ntmps154
    go_wp2_with fail
    with_reducible refine HK.out.mono ?_
    rintro e w1 ⟨rfl, hb1⟩
    clear HK
    go_wp2_with fail
    exact bodyPost_ret (v := .tuple #[.slice none 0 0, .int .i64 ce]) (by simp [results, Tryz.results154, go_sem]) rfl ⟨none, 0, rfl, World.ownsRow_nil _ _ _ _, hb1⟩
end Go.Proofs.YtnpjggcgnbgkjaaGreat
