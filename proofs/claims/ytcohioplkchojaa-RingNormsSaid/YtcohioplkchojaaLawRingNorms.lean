/- merestonelaw03.RingNorms: the walk. -/
import Derived.Test.YtcohioplkchojaaLeastP
import Derived.Test.YtcohioplkchojaaTurned
import Derived.Test.YtcohioplkchojaaSameR
import Derived.Test.YtcohioplkchojaaLeastR
import Derived.Test.YtcohioplkchojaaLaw03
import Derived.Test.YtcohioplkchojaaCheckR
namespace Go.Proofs.Ytcohioplkchojaa
open Go.RowKit
theorem ptAt_reverse {xs : List Pt} {k n : Nat} (hl : xs.length = n) (hk : k < n) : ptAt xs.reverse k = ptAt xs (n - 1 - k) := by
  rw [ptAt_lt (by simp; omega), ptAt_lt (by omega), List.getElem_reverse]
  congr 1
  omega
set_option maxRecDepth 100000 in
set_option maxHeartbeats 1600000 in
theorem ringNorms_any (xs : List Pt) (A : Option Addr) (n cap : Nat) (w : World) (hr : Reads w w.heap.size 2 A n (ptsV xs)) (hn : n ≤ 8796093022208) (hx : ∀ p ∈ xs, p.inI) :
    Calls Try.prog 14 #[.slice A n cap] w fun e w' => e = .returned (.bool true) ∧ Below w.heap.size w w' := by
  have hl : xs.length = n := hr.lenPt
  have hL : checkI xs = 0 → n ≤ 128 := fun h => by
    obtain ⟨h1, h2, h3, -⟩ := checkI_zero h
    omega
  have kO : ∀ V, Below w.heap.size w V → Calls Try.prog 16 #[.slice A n cap] V fun e V' => ∃ A' c, e = .returned (.slice A' n c) ∧ (Reads V' V'.heap.size 2 A' n (ptsV xs) ∧ n ≤ c ∧ c ≤ 9223372036854775807) ∧ Below V.heap.size V V' := fun V hV =>
    (own03_any xs A n cap V ((hr.below hV).more hV.size) hn).mono fun e V' ⟨A', c, h1, h2, h3⟩ => ⟨A', c, h1, ⟨Reads.of_own h2, own_cap h2⟩, h3⟩
  have kN : ∀ V A' c, (Reads V V.heap.size 2 A' n (ptsV xs) ∧ n ≤ c ∧ c ≤ 9223372036854775807) → Calls Try.prog 44 #[.slice A' n c] V fun e V' => ∃ A'' c' m, e = .returned (.tuple #[.slice A'' m c', .int .i64 (checkI xs)]) ∧ Reads V' V'.heap.size 2 A'' m (ptsV (if checkI xs = 0 then rot (leastN xs n) xs else [])) ∧ Below V.heap.size V V' := fun V A' c h => norm_any xs A' n c V h.1 h.2.1 h.2.2 hx (fun h => by have := hL h; omega)
  have kT : ∀ V A' c, (Reads V V.heap.size 2 A' n (ptsV xs) ∧ n ≤ c ∧ c ≤ 9223372036854775807) → Calls Try.prog 35 #[.slice A' n c] V fun e V' => ∃ A'' c', e = .returned (.slice A'' n c') ∧ Reads V' V'.heap.size 2 A'' n (ptsV xs.reverse) ∧ Below V.heap.size V V' := fun V A' c h => turned_any xs A' n c V h.1 hn
  have kD : ∀ V, Below w.heap.size w V → Calls Try.prog 20 #[.slice A n cap] V fun e V' => e = .returned (.int .i64 (checkI xs)) ∧ Below V.heap.size V V' := fun V hV => checkR_any xs A n cap V ((hr.below hV).more hV.size) (by omega) hx
  have kL : ∀ V, Below w.heap.size w V → checkI xs = 0 → Calls Try.prog 46 #[.slice A n cap] V fun e V' => ∃ A' c, e = .returned (.slice A' n c) ∧ Reads V' V'.heap.size 2 A' n (ptsV (rot (leastN xs n) xs)) ∧ Below V.heap.size V V' := fun V hV h0 =>
    (leastR_any xs A n cap V ((hr.below hV).more hV.size) (hL h0)).mono fun e V' ⟨A', c, h1, h2, h3⟩ => ⟨A', c, h1, Reads.of_own h2, h3⟩
  have kI : n ≤ 9223372036854775807 := by omega
  generalize hce : checkI xs = ce at *
  have HK := Lib.hid (And.intro kO (And.intro kN (And.intro kT (And.intro kD (And.intro kL (And.intro hr hl))))))
  clear kO kN kT kD kL hr hx hL hce hl
  go_enter Try.func14, Try.ntmps14
  go_wp2_with fail
  refine (HK.out.1 _ (Below.refl _ _)).mono ?_
  rintro e w1 ⟨A1, c1, rfl, hr1, hb1⟩
  have H1 := Lib.hid (And.intro hb1 hr1)
  clear hb1 hr1
  go_wp2_with fail
  refine (HK.out.2.1 _ _ _ H1.out.2).mono ?_
  rintro e w2 ⟨A2, c2, m, rfl, hr2, hb2⟩
  have H2 := Lib.hid (And.intro (below_on H1.out.1 (Nat.le_refl _) hb2) hr2)
  clear hb2 hr2 H1
  go_wp2_with fail
  refine (HK.out.1 _ H2.out.1).mono ?_
  rintro e w3 ⟨A3, c3, rfl, hr3, hb3⟩
  have H3 := Lib.hid (And.intro (And.intro (below_on H2.out.1 (Nat.le_refl _) hb3) (H2.out.2.on hb3)) hr3)
  clear hb3 hr3 H2
  go_wp2_with fail
  refine (HK.out.2.2.1 _ _ _ H3.out.2).mono ?_
  rintro e w4 ⟨A4, c4, rfl, hr4, hb4⟩
  have H4 := Lib.hid (And.intro (And.intro (below_on H3.out.1.1 (Nat.le_refl _) hb4) (H3.out.1.2.on hb4)) hr4)
  clear hb4 hr4 H3
  go_wp2_with fail
  refine (ans03_any _).mono ?_
  rintro e w5 ⟨rfl, hb5⟩
  have H5 := Lib.hid (And.intro (And.intro (below_on H4.out.1.1 (Nat.le_refl _) hb5) (H4.out.1.2.on hb5)) (H4.out.2.on hb5))
  clear hb5 H4
  go_wp2_with fail
  obtain ⟨wo, hwo⟩ : ∃ wo : World, wo = w5 := ⟨_, rfl⟩
  rw [← hwo] at H5
  rw [← hwo]
  clear hwo
  go_loopw [6] (fun i wr => ∃ k : Nat, k ≤ n ∧ i = .int .i64 (k : Int) ∧ (Below w.heap.size w wr ∧ Reads wr wr.heap.size 2 A2 m (ptsV (if ce = 0 then rot (leastN xs n) xs else []))) ∧ Reads wr wr.heap.size 2 A4 n (ptsV xs.reverse)) (fun i _ => n - (intOf i).toNat)
  case atStart => exact ⟨0, Nat.zero_le _, rfl, H5.out⟩
  case round =>
    clear H5
    obtain ⟨k, hk, rfl, hbr, hrt⟩ := hrel
    by_cases hlt : k < n
    · have hlt' : (k : Int) < (n : Int) := by omega
      have hw1 : IntKind.i64.wrap ((k : Int) + 1) = (k : Int) + 1 := IntWalk.i64_in _ (by omega)
      have hw2 : IntKind.i64.wrap ((n : Int) - 1) = (n : Int) - 1 := IntWalk.i64_in _ (by omega)
      have hw3 : IntKind.i64.wrap ((n : Int) - 1 - (k : Int)) = ((n - 1 - k : Nat) : Int) := (IntWalk.i64_in _ (by omega)).trans (by omega)
      have hrl : n - 1 - k < n := by omega
      obtain ⟨ad, rfl, -, -, -, -⟩ := hrt.pt hlt
      obtain ⟨bd, rfl, -, -, -, -⟩ := HK.out.2.2.2.2.2.1.pt hlt
      obtain ⟨-, p1, p2⟩ := hrt.ptA hlt
      obtain ⟨-, q1, q2⟩ := ((HK.out.2.2.2.2.2.1.below hbr.1)).ptA hrl
      rw [ptAt_reverse HK.out.2.2.2.2.2.2 hlt] at p1 p2
      have hz : ((n - 1 - k : Nat) : Int) < (n : Int) := by omega
      have HB := Lib.hid (And.intro hbr hrt)
      clear hbr hrt
      generalize n - 1 - k = j at *
      generalize ptAt xs j = P at *
      go_wp2
      go_quiet (fail)
      go_wp2
      go_roundw
      case rel => exact ⟨k + 1, by omega, by go_num, ⟨below_drewN HB.out.1.1 _, HB.out.1.2.drewN _⟩, HB.out.2.drewN _⟩
      case measure => simp [intOf]; omega
    · have hkn : k = n := by omega
      subst hkn
      have HB := Lib.hid hbr
      clear hbr hrt
      go_wp2_with fail
      refine (HK.out.2.2.2.1 _ HB.out.1).mono ?_
      rintro e w6 ⟨rfl, hb6⟩
      have H6 := Lib.hid (And.intro (below_on HB.out.1 (Nat.le_refl _) hb6) (HB.out.2.on hb6))
      clear hb6 HB
      by_cases he : ce = 0
      · subst he
        have h6r := H6.out.2
        rw [if_pos rfl] at h6r
        have H6' := Lib.hid (And.intro H6.out.1 h6r)
        clear H6 h6r
        have kL' := Lib.hid (HK.out.2.2.2.2.1 w6 H6'.out.1 rfl)
        clear HK
        go_wp2_with fail
        refine kL'.out.mono ?_
        rintro e w7 ⟨A7, c7, rfl, hr7, hb7⟩
        have hm : m = k := H6'.out.2.lenPt.symm.trans hr7.lenPt
        subst hm
        have kS := sameR_any (rot (leastN xs m) xs) (rot (leastN xs m) xs) A2 A7 m m c2 c7 w7 (H6'.out.2.on hb7) hr7 kI kI
        rw [decide_eq_true rfl] at kS
        have H7 := Lib.hid (below_on H6'.out.1 (Nat.le_refl _) hb7)
        clear hb7 hr7 H6' kL'
        go_wp2_with fail
        refine kS.mono ?_
        rintro e w8 ⟨rfl, hb8⟩
        have H8 := Lib.hid (below_on H7.out (Nat.le_refl _) hb8)
        clear hb8 H7 kS
        go_wp2_with fail
        go_ret
        exact ⟨rfl, H8.out⟩
      · have he' : (ce != 0) = true := by simpa using he
        have hm : m = 0 := by
          have h1 := H6.out.2.lenPt
          rw [if_neg he] at h1
          simpa using h1.symm
        subst hm
        have HC := Lib.hid H6.out.1
        clear H6
        go_wp2_with fail
        go_ret
        exact ⟨rfl, HC.out⟩
end Go.Proofs.Ytcohioplkchojaa
