/- slices.Equal, plan.normed, the document's normed, and slices.ContainsFunc of them: the walks; What lies beside PlanLaw; What plan.Find, Corner and Left answer of a sound plan: the plain law; words for the walks of the laws of it. -/
import Derived.Laws.IdiomCopy
import Derived.Laws.IdiomStrings
import Derived.Lib.EndianMore
import Derived.Test.YtmegmokjjlelgaaGreatK13
import Derived.Test.YtmegmokjjlelgaaGreatK14
import Derived.Test.YtmegmokjjlelgaaGreatK15
import Derived.Test.YtmegmokjjlelgaaGreatK16
import Derived.Test.YtmegmokjjlelgaaGreatK18
namespace Go.Proofs.YtmegmokjjlelgaaGreat
open Go.RowKit
open Classical in
noncomputable def normB (xs : List Pt) : Bool := decide (NormedP xs)
set_option maxHeartbeats 800000 in
theorem equalPt_any (xs ys : List Pt) (A B : Option Addr) (n m ca cb : Nat) (w : World) (hr : Reads w w.heap.size 2 A n (ptsV xs)) (hs : Reads w w.heap.size 2 B m (ptsV ys)) (hn : n ≤ 9223372036854775807) (hm : m ≤ 9223372036854775807) :
    Calls Tryz.prog 153 #[.slice A n ca, .slice B m cb] w fun e w' => e = .returned (.bool (decide (xs = ys))) ∧ Below w.heap.size w w' := by
  have HL := Lib.hid (And.intro hr.lenPt hs.lenPt)
  by_cases hnm : n = m
  case neg =>
    have hf : Hid (decide (xs = ys) = false) := by
      apply decide_eq_false
      rintro rfl
      have := HL.out
      omega
    have hb : ((n : Int) != (m : Int)) = true := by simp; omega
    clear hnm
    go_enter Tryz.func153, Tryz.ntmps153
    go_wp2
    go_ret
    exact ⟨by rw [hf.out]; rfl, Below.refl _ _⟩
  subst hnm
  go_enter Tryz.func153, Tryz.ntmps153
  go_wp2
  go_loopw [13] (fun i wr => ∃ k : Nat, k ≤ n ∧ Hid (xs.take k = ys.take k) ∧ i = .int .i64 (k : Int) ∧ Below w.heap.size w wr) (fun i _ => n - (intOf i).toNat)
  case atStart => exact ⟨0, Nat.zero_le _, rfl, rfl, Below.refl _ _⟩
  case round =>
    obtain ⟨k, hk, hg, rfl, hbel⟩ := hrel
    by_cases hlt : k < n
    · have hw1 : IntKind.i64.wrap ((k : Int) + 1) = (k : Int) + 1 := by rw [IntKind.wrap_i64]; omega
      have hlt' : (k : Int) < (n : Int) := by omega
      obtain ⟨ad, rfl, hb, hkl, hcx, hcy⟩ := (hr.below hbel).pt hlt
      obtain ⟨bd, rfl, hb', hkl', hdx, hdy⟩ := (hs.below hbel).pt hlt
      have HE1 := Lib.hid (take_same hg.out hkl hkl')
      have HE2 := Lib.hid (not_same hkl hkl')
      obtain ⟨⟨x, y⟩, hp⟩ : ∃ p, p = xs[k] := ⟨_, rfl⟩
      obtain ⟨⟨x', y'⟩, hq⟩ : ∃ p, p = ys[k] := ⟨_, rfl⟩
      rw [← hp] at hcx hcy
      rw [← hq] at hdx hdy
      have HP := Lib.hid (And.intro hp hq)
      simp only at hcx hcy hdx hdy
      clear hp hq hr hs
      by_cases hx : x = x'
      · by_cases hy : y = y'
        · subst hx hy
          have HE := Lib.hid (HE1.out (HP.out.1.symm.trans HP.out.2))
          clear HE1 HE2 HP
          go_wp2
          go_quiet (fail)
          go_wp2
          go_roundw
          case rel => exact ⟨k + 1, by omega, HE, by go_num, below_drewN hbel _⟩
          case measure => simp [intOf]; omega
        · have HE := Lib.hid (HE2.out (by rw [← HP.out.1, ← HP.out.2]; simp [hy]))
          subst hx
          have hy' : (y != y') = true := by simpa using hy
          clear HE1 HE2 HP
          go_wp2
          go_quiet (fail)
          go_wp2
          go_ret
          exact ⟨by rw [HE.out]; rfl, below_drewN hbel _⟩
      · have HE := Lib.hid (HE2.out (by rw [← HP.out.1, ← HP.out.2]; simp [hx]))
        have hx' : (x != x') = true := by simpa using hx
        clear HE1 HE2 HP
        go_wp2
        go_quiet (fail)
        go_wp2
        go_ret
        exact ⟨by rw [HE.out]; rfl, below_drewN hbel _⟩
    · have hkn : k = n := by omega
      subst hkn
      have HF : Hid (decide (xs = ys) = true) := by
        show _ = _
        rw [decide_eq_true_iff]
        have h1 := hg.out
        have := HL.out
        rw [List.take_of_length_le (by omega), List.take_of_length_le (by omega)] at h1
        exact h1
      have hlt' : ¬ (k : Int) < (k : Int) := by omega
      go_wp2
      go_ret
      exact ⟨by rw [HF.out]; rfl, hbel⟩
set_option maxHeartbeats 800000 in
theorem normed_any (xs : List Pt) (A : Option Addr) (n cap : Nat) (w : World) (hr : Reads w w.heap.size 2 A n (ptsV xs)) (hc : n ≤ cap) (hn : n ≤ 8796093022208) (hx : ∀ p ∈ xs, p.inI) :
    Calls Tryz.prog 118 #[.slice A n cap] w fun e w' => e = .returned (.bool (normB xs)) ∧ Below w.heap.size w w' := by
  have hl : xs.length = n := hr.lenPt
  have hb : normB xs = (decide (checkI xs = 0) && decide (xs = rot (leastN xs n) xs)) := by
    unfold normB NormedP
    rw [hl, Bool.eq_iff_iff]
    simp
  rw [hb]
  clear hb
  have hL : checkI xs = 0 → n ≤ 128 := fun h => by
    obtain ⟨h1, h2, h3, -⟩ := checkI_zero h
    omega
  have kC := Lib.hid (check_any xs A n cap w hr (by omega) hx)
  have HR := Lib.hid (And.intro hr (And.intro hL hc))
  clear hr hL hx hl hc
  generalize checkI xs = e0 at *
  by_cases he : e0 = 0
  · subst he
    rw [decide_eq_true rfl]
    have h128 := HR.out.2.1 rfl
    go_enter Tryz.func118, Tryz.ntmps118
    go_wp2_with fail
    refine kC.out.mono ?_
    rintro e w1 ⟨rfl, hb1⟩
    have kL := Lib.hid (leastP_any xs A n cap w1 (HR.out.1.on hb1) HR.out.2.2 (by omega))
    have HB := Lib.hid hb1
    clear hb1 kC
    go_wp2_with fail
    refine kL.out.mono ?_
    rintro e w2 ⟨A', c', rfl, ho, hb2⟩
    have kS := Lib.hid (equalPt_any xs (rot (leastN xs n) xs) A A' n n cap c' w2 ((HR.out.1.on HB.out).on hb2) (Reads.of_own ho) (by omega) (by omega))
    have HB2 := Lib.hid (below_on HB.out (Nat.le_refl _) hb2)
    clear ho hb2 HB kL
    go_wp2_with fail
    refine kS.out.mono ?_
    rintro e w3 ⟨rfl, hb3⟩
    have HB3 := Lib.hid (below_on HB2.out (Nat.le_refl _) hb3)
    clear hb3 HB2 kS
    go_wp2_with fail
    go_ret
    exact ⟨by rw [Bool.true_and]; rfl, HB3.out⟩
  · rw [decide_eq_false he]
    have he' : (e0 == 0) = false := by simpa using he
    go_enter Tryz.func118, Tryz.ntmps118
    go_wp2_with fail
    refine kC.out.mono ?_
    rintro e w1 ⟨rfl, hb1⟩
    have HB := Lib.hid hb1
    clear hb1 kC
    go_wp2_with fail
    go_ret
    exact ⟨rfl, HB.out⟩
set_option maxHeartbeats 800000 in
theorem normedR_any (xs : List Pt) (A : Option Addr) (n cap : Nat) (w : World) (hr : Reads w w.heap.size 2 A n (ptsV xs)) (hc : n ≤ cap) (hn : n ≤ 8796093022208) (hx : ∀ p ∈ xs, p.inI) :
    Calls Tryz.prog 53 #[.slice A n cap] w fun e w' => e = .returned (.bool (normB xs)) ∧ Below w.heap.size w w' := by
  have hl : xs.length = n := hr.lenPt
  have hb : normB xs = (decide (checkI xs = 0) && decide (xs = rot (leastN xs n) xs)) := by
    unfold normB NormedP
    rw [hl, Bool.eq_iff_iff]
    simp
  rw [hb]
  clear hb
  have hL : checkI xs = 0 → n ≤ 128 := fun h => by
    obtain ⟨h1, h2, h3, -⟩ := checkI_zero h
    omega
  have kC := Lib.hid (checkR_any xs A n cap w hr (by omega) hx)
  have HR := Lib.hid (And.intro hr (And.intro hL hc))
  clear hr hL hx hl hc
  generalize checkI xs = e0 at *
  by_cases he : e0 = 0
  · subst he
    rw [decide_eq_true rfl]
    have h128 := HR.out.2.1 rfl
    go_enter Tryz.func53, Tryz.ntmps53
    go_wp2_with fail
    refine kC.out.mono ?_
    rintro e w1 ⟨rfl, hb1⟩
    have kL := Lib.hid (leastR_any xs A n cap w1 (HR.out.1.on hb1) h128)
    have HB := Lib.hid hb1
    clear hb1 kC
    go_wp2_with fail
    refine kL.out.mono ?_
    rintro e w2 ⟨A', c', rfl, ho, hb2⟩
    have kS := Lib.hid (sameR_any xs (rot (leastN xs n) xs) A A' n n cap c' w2 ((HR.out.1.on HB.out).on hb2) (Reads.of_own ho) (by omega) (by omega))
    have HB2 := Lib.hid (below_on HB.out (Nat.le_refl _) hb2)
    clear ho hb2 HB kL
    go_wp2_with fail
    refine kS.out.mono ?_
    rintro e w3 ⟨rfl, hb3⟩
    have HB3 := Lib.hid (below_on HB2.out (Nat.le_refl _) hb3)
    clear hb3 HB2 kS
    go_wp2_with fail
    go_ret
    exact ⟨by rw [Bool.true_and]; rfl, HB3.out⟩
  · rw [decide_eq_false he]
    have he' : (e0 == 0) = false := by simpa using he
    go_enter Tryz.func53, Tryz.ntmps53
    go_wp2_with fail
    refine kC.out.mono ?_
    rintro e w1 ⟨rfl, hb1⟩
    have HB := Lib.hid hb1
    clear hb1 kC
    go_wp2_with fail
    go_ret
    exact ⟨rfl, HB.out⟩
set_option maxHeartbeats 800000 in
theorem check1_any (x : Parc) (A : Option Addr) (n c : Nat) (w : World) (hr : Reads w w.heap.size 2 A n (ptsV x.ring)) (hc : n ≤ c) (hf : x.fits) :
    Calls Tryz.prog 120 #[.agg #[.int .i64 x.id, .slice A n c, .string x.owner]] w fun e w' => e = .returned (.bool (!normB x.ring)) ∧ Below w.heap.size w w' := by
  obtain ⟨f1, f2, -, -⟩ := hf
  have hb0 := (Below.refl w.heap.size w).alloc (Nat.le_refl _) (.cells #[.int .i64 x.id, .slice A n c, .string x.owner] 40)
  have hK := PcK.new w x A n c
  have kN := Lib.hid (normed_any x.ring A n c (w.alloc (.cells #[.int .i64 x.id, .slice A n c, .string x.owner] 40)) (hr.on hb0) hc (by have := hr.lenPt; omega) f2)
  have HB := Lib.hid hb0
  obtain ⟨q1, q2, q3, -⟩ := hK.facts
  clear hb0 hr f2 hK
  generalize normB x.ring = b at *
  go_enter Tryz.func120, Tryz.ntmps120
  go_wp2_with fail
  refine kN.out.mono ?_
  rintro e w1 ⟨rfl, hb1⟩
  have HB2 := Lib.hid (below_on HB.out (Nat.le_refl _) hb1)
  clear hb1 HB kN
  go_wp2_with fail
  go_ret
  exact ⟨rfl, HB2.out⟩
set_option maxHeartbeats 1600000 in
theorem indexC1_any (ps : List Parc) (A : Option Addr) (n cap : Nat) (w : World) (hr : PIn w w.heap.size A n ps) (hn : n ≤ 8796093022208) (hK : ∀ x ∈ ps, x.fits) :
    Calls Tryz.prog 106 #[.slice A n cap, .func (.func 120) #[] #[]] w fun e w' => ∃ i : Int, e = .returned (.int .i64 i) ∧ ((i = -1 ∧ ∀ k, k < n → (fun x => !normB x.ring) (pcAt ps k) = false) ∨ ∃ k : Nat, k < n ∧ i = (k : Int) ∧ (fun x => !normB x.ring) (pcAt ps k) = true ∧ ∀ j, j < k → (fun x => !normB x.ring) (pcAt ps j) = false) ∧ Below w.heap.size w w' := by
  have HR := Lib.hid (And.intro hr hK)
  clear hr hK
  go_enter Tryz.func106, Tryz.ntmps106
  go_wp2_with fail
  go_loopw [8] (fun i wr => ∃ k : Nat, k ≤ n ∧ i = .int .i64 (k : Int) ∧ Hid (∀ j, j < k → (fun x => !normB x.ring) (pcAt ps j) = false) ∧ Below w.heap.size w wr) (fun i _ => n - (intOf i).toNat)
  case atStart => exact ⟨0, Nat.zero_le _, rfl, fun j hj => absurd hj (Nat.not_lt_zero _), Below.refl _ _⟩
  case round =>
    obtain ⟨k, hk, rfl, HA, hbel⟩ := hrel
    by_cases hlt : k < n
    · have hlt' : (k : Int) < (n : Int) := by omega
      have hw1 : IntKind.i64.wrap ((k : Int) + 1) = (k : Int) + 1 := by rw [IntKind.wrap_i64]; omega
      obtain ⟨ad, rfl⟩ := HR.out.1.some_ (by omega)
      obtain ⟨-, p1, ⟨Ak, nk, ck, p2, hrk, hk1, hk2⟩, p3⟩ := (HR.out.1.below hbel).at_ hlt
      have kF : Calls Tryz.prog 120 #[.agg #[.int .i64 (pcAt ps k).id, .slice Ak nk ck, .string (pcAt ps k).owner]] wr fun e w' => e = .returned (.bool ((fun x => !normB x.ring) (pcAt ps k))) ∧ Below wr.heap.size wr w' := check1_any (pcAt ps k) Ak nk ck wr (hrk.more hbel.size) hk1 (by rw [pcAt_lt (by have := HR.out.1.1; omega)]; exact HR.out.2 _ (List.getElem_mem _))
      obtain ⟨x, hx⟩ : ∃ x, x = pcAt ps k := ⟨_, rfl⟩
      rw [← hx] at p1 p3 kF
      have HX := Lib.hid hx
      have HB := Lib.hid hbel
      clear hx hbel hrk
      obtain ⟨b, hb⟩ : ∃ b, b = (fun x => !normB x.ring) x := ⟨_, rfl⟩
      rw [← hb] at kF
      have HBB := Lib.hid hb
      clear hb
      rcases b with _ | _
      · go_wp2_with (go_at_call 120; (with_reducible refine kF.mono ?_); rintro e w' ⟨rfl, hb'⟩)
        go_roundw
        case rel =>
          refine ⟨k + 1, by omega, by go_num, (fun j hj => ?_ : ∀ j, j < k + 1 → _), below_on HB.out (Nat.le_refl _) (by assumption)⟩
          by_cases e : j = k
          · rw [e, ← HX.out]; exact HBB.out.symm
          · exact HA.out j (by omega)
        case measure => simp [intOf]; omega
      · go_wp2_with (go_at_call 120; (with_reducible refine kF.mono ?_); rintro e w' ⟨rfl, hb'⟩)
        go_ret
        exact ⟨k, rfl, .inr ⟨k, hlt, rfl, by rw [← HX.out]; exact HBB.out.symm, HA.out⟩, below_on HB.out (Nat.le_refl _) (by assumption)⟩
    · have hkn : k = n := by omega
      subst hkn
      have HB := Lib.hid hbel
      clear hbel
      go_wp2_with fail
      go_ret
      exact ⟨-1, rfl, .inl ⟨rfl, fun j hj => by have := HA.out j hj; simpa using this⟩, HB.out⟩
theorem containsC1_any (ps : List Parc) (A : Option Addr) (n cap : Nat) (w : World) (hr : PIn w w.heap.size A n ps) (hn : n ≤ 8796093022208) (hK : ∀ x ∈ ps, x.fits) :
    Calls Tryz.prog 119 #[.slice A n cap, .func (.func 120) #[] #[]] w fun e w' => e = .returned (.bool (ps.any (fun x => !normB x.ring))) ∧ Below w.heap.size w w' := by
  have hl := hr.1
  have kI := Lib.hid (indexC1_any ps A n cap w hr hn hK)
  clear hr hK
  go_enter Tryz.func119, Tryz.ntmps119
  go_wp2_with fail
  refine kI.out.mono ?_
  rintro e w1 ⟨i, rfl, hi, hb⟩
  have hany : Hid (ps.any (fun x => !normB x.ring) = decide (0 ≤ i)) := by
    show _ = _
    rcases hi with ⟨rfl, h⟩ | ⟨k, hk, rfl, h, -⟩
    · rw [decide_eq_false (by omega), List.any_eq_false]
      intro x hx
      obtain ⟨k, hk, rfl⟩ := List.getElem_of_mem hx
      have := h k (by omega)
      rw [pcAt_lt hk] at this
      rw [this]; decide
    · rw [decide_eq_true (by omega), List.any_eq_true]
      exact ⟨ps[k]'(by omega), List.getElem_mem _, by rw [pcAt_lt (by omega)] at h; exact h⟩
  have HB := Lib.hid hb
  clear hb hi kI
  go_wp2_with fail
  go_ret
  exact ⟨by rw [hany.out]; rfl, HB.out⟩
end Go.Proofs.YtmegmokjjlelgaaGreat
namespace Go.Proofs.YtmegmokjjlelgaaGreat
end Go.Proofs.YtmegmokjjlelgaaGreat
namespace Go.Proofs.YtmegmokjjlelgaaGreat
theorem smul {u v : Int} (hu : 0 < u) : (0 < u * v ↔ 0 < v) ∧ (u * v < 0 ↔ v < 0) := by
  have := pos_sgn (N := u) (x := v) (y := u * v) hu rfl
  exact ⟨this.1.symm, this.2.1.symm⟩
theorem Off.swap {a b : Pt} {X y1 y2 : Int} (hy : y1 < y2) (h : ¬ Touch a b ⟨X, y1⟩ ⟨X, y2⟩) : ¬ Touch b a ⟨X, y1⟩ ⟨X, y2⟩ := by
  obtain ⟨h1, h2, h3, h4, h5⟩ := not_touch h
  rintro (g | g | g | g | g)
  · rw [h2] at g; cases g
  · rw [h1] at g; cases g
  · rw [onB_swap, h3] at g; cases g
  · rw [onB_swap, h4] at g; cases g
  · have : prB a b ⟨X, y1⟩ ⟨X, y2⟩ = true := by
      rw [pr_up hy] at g ⊢
      rw [cr_swapT, cr_swapT a b] at g
      omega
    rw [h5] at this
    cases this
end Go.Proofs.YtmegmokjjlelgaaGreat
namespace Go.Proofs.YtmegmokjjlelgaaGreat
theorem ptAt_rot1 {k i : Nat} {xs : List Pt} (h : k < xs.length) : ptAt (rot k xs) ((i + 1) % xs.length) = ptAt xs (((k + i) % xs.length + 1) % xs.length) := by
  rw [ptAt_rot h (Nat.mod_lt _ (by omega))]
  congr 1
  rw [Nat.add_mod_mod, Nat.mod_add_mod, Nat.add_assoc]
def adjB (n i j : Nat) : Bool := decide ((i + 1) % n = j) || decide ((j + 1) % n = i)
theorem next_adj {n i j : Nat} (hi : i < j) (hj : j < n) : nextB n i j = adjB n i j := by
  unfold nextB adjB
  rw [Nat.mod_eq_of_lt (by omega : i + 1 < n)]
  by_cases h : j + 1 = n
  · rw [h, Nat.mod_self]
    rw [Bool.eq_iff_iff]
    simp only [Bool.or_eq_true, Bool.and_eq_true, decide_eq_true_eq]
    omega
  · rw [Nat.mod_eq_of_lt (by omega : j + 1 < n)]
    rw [Bool.eq_iff_iff]
    simp only [Bool.or_eq_true, Bool.and_eq_true, decide_eq_true_eq]
    omega
def pairS (xs : List Pt) (i j : Nat) : Prop := ptAt xs i ≠ ptAt xs j ∧ meetOf xs i j = if adjB xs.length i j = true then 1 else 0
theorem pairS_comm {xs : List Pt} {i j : Nat} (h : pairS xs i j) : pairS xs j i := by
  unfold pairS meetOf at *
  refine ⟨fun e => h.1 e.symm, ?_⟩
  rw [meetR_comm, h.2]
  unfold adjB
  rw [Bool.or_comm]
theorem pairs_iff (xs : List Pt) : PairsOK xs ↔ ∀ i j, i < xs.length → j < xs.length → i ≠ j → pairS xs i j := by
  have key : ∀ i j, i < j → j < xs.length → (pairOK xs i j = true ↔ pairS xs i j) := fun i j hi hj => by
    unfold pairOK pairS
    rw [next_adj hi hj, Bool.and_eq_true, decide_eq_true_eq, decide_eq_true_eq]
  constructor
  · intro h i j hi hj hne
    rcases Nat.lt_or_gt_of_ne hne with hlt | hlt
    · exact (key i j hlt hj).1 (h i j hlt hj)
    · exact pairS_comm ((key j i hlt hi).1 (h j i hlt hi))
  · intro h i j hi hj
    exact (key i j hi hj).2 (h i j (by omega) hj (by omega))
end Go.Proofs.YtmegmokjjlelgaaGreat
namespace Go.Proofs.YtmegmokjjlelgaaGreat
theorem onB_key {a b p : Pt} (ha : good a = true) (hb : good b = true) (hp : good p = true) : onB a b p = true ↔ cr a b p = 0 ∧ ((key a ≤ key p ∧ key p ≤ key b) ∨ (key b ≤ key p ∧ key p ≤ key a)) := by
  rw [← onP_eq ha hb hp]
  exact onP_key ha hb hp
theorem on_conv {a b c : Pt} {N t : Int} (hN : 0 < N) (h0 : 0 ≤ t) (h1 : t ≤ N) (hx : (N - t) * a.x + t * b.x = N * c.x) (hy : (N - t) * a.y + t * b.y = N * c.y) : onB a b c = true := by
  rw [onB_iff]
  refine ⟨?_, ?_, ?_⟩
  · have : N * cr a b c = 0 := by unfold cr; grind
    exact line_zero (by omega) this
  · have := conv_btw (x := a.x) (y := b.x) h0 h1
    rw [hx, mul_le hN, mul_le hN, mul_le hN, mul_le hN] at this
    exact this
  · have := conv_btw (x := a.y) (y := b.y) h0 h1
    rw [hy, mul_le hN, mul_le hN, mul_le hN, mul_le hN] at this
    exact this
theorem com_sum {a b c d : Pt} {N t A B : Int} (h : Com a b c d N t A B) : A * cr a b c + B * cr a b d = 0 := by
  obtain ⟨h1, h2, h3, h4, h5, h6, h7, h8⟩ := h
  unfold cr
  grind
theorem signs {A B C D : Int} (hA : 0 ≤ A) (hB : 0 ≤ B) (hN : 0 < A + B) (h : A * C + B * D = 0) : (C = 0 ∧ D = 0) ∨ (C < 0 ∧ 0 < D) ∨ (D < 0 ∧ 0 < C) ∨ A = 0 ∨ B = 0 := by
  by_cases h1 : A = 0
  · simp [h1]
  · by_cases h2 : B = 0
    · simp [h2]
    · have hA' : 0 < A := by omega
      have hB' : 0 < B := by omega
      have m1 := smul (u := A) (v := C) hA'
      have m2 := smul (u := B) (v := D) hB'
      omega
theorem touch_of_com {a b c d : Pt} (ha : good a = true) (hb : good b = true) (hc : good c = true) (hd : good d = true) {N t A B : Int} (h : Com a b c d N t A B) : Touch a b c d := by
  have k1 := com_sum h
  have k2 := com_sum h.other
  obtain ⟨h1, h2, h3, h4, h5, h6, h7, h8⟩ := h
  have s1 := signs h4 h5 (by omega) k1
  have s2 := signs (by omega : 0 ≤ N - t) h2 (by omega) k2
  by_cases eA : A = 0
  · exact .inr (.inr (.inr (.inl (on_conv h1 h2 h3 (by rw [h7, eA]; rw [show B = N by omega]; grind) (by rw [h8, eA]; rw [show B = N by omega]; grind)))))
  by_cases eB : B = 0
  · exact .inr (.inr (.inl (on_conv h1 h2 h3 (by rw [h7, eB]; rw [show A = N by omega]; grind) (by rw [h8, eB]; rw [show A = N by omega]; grind))))
  by_cases e0 : N - t = 0
  · exact .inr (.inl (on_conv h1 h5 (by omega) (by rw [show N - B = A by omega, ← h7, e0, show t = N by omega]; grind) (by rw [show N - B = A by omega, ← h8, e0, show t = N by omega]; grind)))
  by_cases e1 : t = 0
  · exact .inl (on_conv h1 h5 (by omega) (by rw [show N - B = A by omega, ← h7, e1]; grind) (by rw [show N - B = A by omega, ← h8, e1]; grind))
  by_cases hz : cr a b c = 0 ∧ cr a b d = 0 ∧ cr c d a = 0 ∧ cr c d b = 0
  · obtain ⟨z1, z2, z3, z4⟩ := hz
    have hk : (N - t) * key a + t * key b = A * key c + B * key d := by unfold key; grind
    have c1 := conv_btw (N := N) (t := t) (x := key a) (y := key b) h2 h3
    have c2 := conv_btw (N := N) (t := B) (x := key c) (y := key d) h5 (by omega)
    rw [show N - B = A by omega] at c2
    rw [← hk] at c2
    generalize (N - t) * key a + t * key b = X at *
    have m : ∀ x y : Int, N * x ≤ N * y → x ≤ y := fun x y h => (mul_le h1).1 h
    have mm : ∀ x y : Int, N * x ≤ X → X ≤ N * y → x ≤ y := fun x y p q => m x y (by omega)
    have g1 := onB_key hc hd ha
    have g2 := onB_key hc hd hb
    have g3 := onB_key ha hb hc
    have g4 := onB_key ha hb hd
    unfold Touch
    rw [g1, g2, g3, g4]
    simp only [z1, z2, z3, z4, true_and]
    rcases c1 with ⟨c11, c12⟩ | ⟨c11, c12⟩ <;> rcases c2 with ⟨c21, c22⟩ | ⟨c21, c22⟩
    · have := mm _ _ c11 c22; have := mm _ _ c21 c12; have := mm _ _ c11 c12; have := mm _ _ c21 c22; omega
    · have := mm _ _ c11 c22; have := mm _ _ c21 c12; have := mm _ _ c11 c12; have := mm _ _ c21 c22; omega
    · have := mm _ _ c11 c22; have := mm _ _ c21 c12; have := mm _ _ c11 c12; have := mm _ _ c21 c22; omega
    · have := mm _ _ c11 c22; have := mm _ _ c21 c12; have := mm _ _ c11 c12; have := mm _ _ c21 c22; omega
  · right; right; right; right
    rw [prB_iff]
    have p1 : (cr a b c = 0 ∧ cr a b d = 0) → (cr c d a = 0 ∧ cr c d b = 0) → False := fun q1 q2 => hz ⟨q1.1, q1.2, q2⟩
    have p2 : cr a b d - cr a b c = cr c d a - cr c d b := by unfold cr; grind
    omega
theorem meetR_nn (a b c d : Pt) : 0 ≤ meetR a b c d := by
  unfold meetR
  split <;> (try split) <;> (try split) <;> omega
theorem meet_zero {a b c d : Pt} : meetR a b c d = 0 ↔ ¬ Touch a b c d := by
  have := meetR_nn a b c d
  rw [← touch_iff]
  omega
/-- Two stretches with one end in common and no other point. -/
theorem one_iff {a b d : Pt} : meetR a b b d = 1 ↔ (onB b d a = true → a = b) ∧ (onB a b d = true → d = b) := by
  have hb1 := (onB_self b d).1
  have hb2 := (onB_self a b).2
  have hne : endsL a b b d ≠ [] := by unfold endsL; rw [hb1, hb2]; simp
  have hd : difB (endsL a b b d) = true ↔ ¬ ((onB b d a = true → a = b) ∧ (onB a b d = true → d = b)) := by
    rw [difB_iff]
    have hmem : ∀ e, e ∈ endsL a b b d ↔ e = b ∨ (onB b d a = true ∧ e = a) ∨ (onB a b d = true ∧ e = d) := fun e => by
      unfold endsL
      rw [hb1, hb2]
      rcases q1 : onB b d a with _ | _ <;> rcases q2 : onB a b d with _ | _ <;> simp <;> grind
    constructor
    · rintro ⟨p, q, hp, hq, hne⟩ ⟨g1, g2⟩
      have e : ∀ e, e ∈ endsL a b b d → e = b := fun e he => by
        rcases (hmem e).1 he with h | ⟨h, h'⟩ | ⟨h, h'⟩
        · exact h
        · rw [h', g1 h]
        · rw [h', g2 h]
      exact hne ((e p hp).trans (e q hq).symm)
    · intro h
      by_cases q1 : onB b d a = true ∧ a ≠ b
      · exact ⟨a, b, (hmem a).2 (.inr (.inl ⟨q1.1, rfl⟩)), (hmem b).2 (.inl rfl), q1.2⟩
      · by_cases q2 : onB a b d = true ∧ d ≠ b
        · exact ⟨d, b, (hmem d).2 (.inr (.inr ⟨q2.1, rfl⟩)), (hmem b).2 (.inl rfl), q2.2⟩
        · exact absurd ⟨fun h1 => Classical.byContradiction fun h2 => q1 ⟨h1, h2⟩, fun h1 => Classical.byContradiction fun h2 => q2 ⟨h1, h2⟩⟩ h
  unfold meetR
  by_cases hD : difB (endsL a b b d) = true
  · rw [if_pos hD]
    constructor
    · intro h; omega
    · intro h; exact absurd h (hd.1 hD)
  · rw [if_neg hD, if_pos hne]
    constructor
    · intro _
      exact Classical.byContradiction fun h => hD (hd.2 h)
    · intro _; rfl
end Go.Proofs.YtmegmokjjlelgaaGreat
namespace Go.Proofs.YtmegmokjjlelgaaGreat
end Go.Proofs.YtmegmokjjlelgaaGreat
namespace Go.Proofs.YtmegmokjjlelgaaGreat
end Go.Proofs.YtmegmokjjlelgaaGreat
namespace Go.Proofs.YtmegmokjjlelgaaGreat
open Go.RowKit
def FB (p : Plan) (q : Pt) (ed : Ed) (A : Option Addr) (n c : Nat) (A' : Option Addr) (n' c' : Nat) (w W : World) : Prop := Below w.heap.size w W ∧ PlK W w.heap.size A n c A' n' c' ∧ PtK W (w.heap.size + 1) q ∧ Blk W (w.heap.size + 1 + 1) 92 #[.int .i64 ed.a.x, .int .i64 ed.a.y, .int .i64 ed.b.x, .int .i64 ed.b.y] ∧ PlanAt W W.heap.size A n c A' n' c' p
theorem FB.on {p : Plan} {q : Pt} {ed : Ed} {A A' : Option Addr} {n c n' c' : Nat} {w W W' : World} (h : FB p q ed A n c A' n' c' w W) (hb : Below W.heap.size W W') : FB p q ed A n c A' n' c' w W' :=
  ⟨below_on h.1 (Nat.le_refl _) hb, h.2.1.on hb, Blk.below h.2.2.1 hb (Blk.lt h.2.2.1), Blk.below h.2.2.2.1 hb (Blk.lt h.2.2.2.1), h.2.2.2.2.on hb⟩
theorem FB.plan {p : Plan} {q : Pt} {ed : Ed} {A A' : Option Addr} {n c n' c' : Nat} {w W : World} (h : FB p q ed A n c A' n' c' w W) : W.cell? ⟨w.heap.size, 0, none⟩ = some (.slice A n c) ∧ W.cell? ⟨w.heap.size, 1, none⟩ = some (.slice A' n' c') := ⟨h.2.1.facts.1, h.2.1.facts.2.1⟩
theorem FB.pt {p : Plan} {q : Pt} {ed : Ed} {A A' : Option Addr} {n c n' c' : Nat} {w W : World} (h : FB p q ed A n c A' n' c' w W) : W.cell? ⟨w.heap.size + 1, 0, none⟩ = some (.int .i64 q.x) ∧ W.cell? ⟨w.heap.size + 1, 1, none⟩ = some (.int .i64 q.y) := ⟨h.2.2.1.facts.1, h.2.2.1.facts.2.1⟩
theorem FB.edge {p : Plan} {q : Pt} {ed : Ed} {A A' : Option Addr} {n c n' c' : Nat} {w W : World} (h : FB p q ed A n c A' n' c' w W) : W.cell? ⟨w.heap.size + 1 + 1, 0, none⟩ = some (.int .i64 ed.a.x) ∧ W.cell? ⟨w.heap.size + 1 + 1, 1, none⟩ = some (.int .i64 ed.a.y) ∧ W.cell? ⟨w.heap.size + 1 + 1, 2, none⟩ = some (.int .i64 ed.b.x) ∧ W.cell? ⟨w.heap.size + 1 + 1, 3, none⟩ = some (.int .i64 ed.b.y) :=
  ⟨by rw [Blk.cell h.2.2.2.1 0]; rfl, by rw [Blk.cell h.2.2.2.1 1]; rfl, by rw [Blk.cell h.2.2.2.1 2]; rfl, by rw [Blk.cell h.2.2.2.1 3]; rfl⟩
end Go.Proofs.YtmegmokjjlelgaaGreat
