/- ring.Least and ring.Norm: the walks. -/
import Derived.Test.YtcohioplkchojaaPick
import Derived.Test.YtcohioplkchojaaMinPt
import Derived.Test.YtcohioplkchojaaCheck
namespace Go.Proofs.Ytcohioplkchojaa
open Go.RowKit
theorem ordI_neg {a b : Pt} : ordI a b < 0 ↔ a.x < b.x ∨ (a.x = b.x ∧ a.y < b.y) := by
  unfold ordI orI
  rcases cmpI_cases a.x b.x with ⟨h, e⟩ | ⟨h, e⟩ | ⟨h, e⟩ <;> rcases cmpI_cases a.y b.y with ⟨h', e'⟩ | ⟨h', e'⟩ | ⟨h', e'⟩ <;> rw [e, e'] <;> simp <;> omega
theorem leastN_first (xs : List Pt) (m : Nat) : (∀ j, j < m → ¬ ordI (ptAt xs j) (ptAt xs (leastN xs m)) < 0) ∧ ∀ j, j < leastN xs m → ptAt xs j ≠ ptAt xs (leastN xs m) := by
  induction m with
  | zero => exact ⟨fun j hj => absurd hj (Nat.not_lt_zero _), fun j hj => absurd hj (Nat.not_lt_zero _)⟩
  | succ m ih =>
    obtain ⟨i1, i2⟩ := ih
    have hst : leastN xs (m + 1) = if ordI (ptAt xs m) (ptAt xs (leastN xs m)) < 0 then m else leastN xs m := rfl
    by_cases h : ordI (ptAt xs m) (ptAt xs (leastN xs m)) < 0
    · rw [if_pos h] at hst
      rw [hst]
      refine ⟨fun j hj => ?_, fun j hj he => ?_⟩
      · by_cases e : j = m
        · subst e; rw [ordI_neg]; omega
        · have := i1 j (by omega)
          rw [ordI_neg] at this h ⊢
          omega
      · exact i1 j hj (by rw [he]; exact h)
    · rw [if_neg h] at hst
      rw [hst]
      refine ⟨fun j hj => ?_, i2⟩
      by_cases e : j = m
      · subst e; exact h
      · exact i1 j (by omega)
theorem Reads.takeP {w : World} {B n k : Nat} {A : Option Addr} {xs : List Pt} (h : Reads w B 2 A n (ptsV xs)) (hk : k ≤ n) : Reads w B 2 A k (ptsV (xs.take k)) := by
  have hl := h.lenPt
  refine ⟨by rw [ptsV_length, List.length_take]; omega, fun hp => ?_⟩
  obtain ⟨ad, e, hb, hc⟩ := h.2 (by omega)
  refine ⟨ad, e, hb, fun j u hu => hc j u ?_⟩
  rw [← List.take_append_drop k xs, ptsV_append, List.getElem?_append_left (by have := (List.getElem?_eq_some_iff.1 hu).1; exact this)]
  exact hu
theorem drop_ptsV (xs : List Pt) (k : Nat) : (ptsV xs).drop (k * 2) = ptsV (xs.drop k) := by
  by_cases h : k ≤ xs.length
  · have e : ptsV xs = ptsV (xs.take k) ++ ptsV (xs.drop k) := by rw [← ptsV_append, List.take_append_drop]
    rw [e, List.drop_left' (by rw [ptsV_length, List.length_take]; omega)]
  · rw [List.drop_eq_nil_of_le (by omega : xs.length ≤ k), List.drop_eq_nil_of_le (by rw [ptsV_length]; omega)]
    rfl
theorem Reads.dropP {w : World} {B n k cap : Nat} {ad : Addr} {xs : List Pt} (h : Reads w B 2 (some ad) n (ptsV xs)) (hk : k ≤ n) (hc : n ≤ cap) (hne : ¬ cap = k) : Reads w B 2 (some (ad.add (k * 2))) (n - k) (ptsV (xs.drop k)) := by
  have := h.cut hk hc
  rw [drop_ptsV, if_neg hne] at this
  exact this
set_option maxRecDepth 100000 in
set_option maxHeartbeats 1600000 in
theorem leastP_any (xs : List Pt) (A : Option Addr) (n cap : Nat) (w : World) (hr : Reads w w.heap.size 2 A n (ptsV xs)) (hc : n ≤ cap) (hn : n ≤ 1048576) :
    Calls Try.prog 73 #[.slice A n cap] w fun e w' => ∃ A' c, e = .returned (.slice A' n c) ∧ w'.ownsRow w.heap.size 35 2 (.slice A' n c) n (ptsV (rot (leastN xs n) xs)) ∧ Below w.heap.size w w' := by
  have hl : xs.length = n := hr.lenPt
  by_cases h0 : n = 0
  · subst h0
    obtain rfl := List.eq_nil_of_length_eq_zero hl
    clear hr
    go_enter Try.func73, Try.ntmps73
    go_wp2_with fail
    go_ret
    exact ⟨none, 0, rfl, by simp [rot, ptsV, World.ownsRow_nil], Below.refl _ _⟩
  · have h0' : ¬ (n : Int) = 0 := by omega
    have hkn := leastN_lt xs (m := n) (by omega)
    have kM := Lib.hid (minPt_any xs A n cap w hr (by omega) (by omega))
    have kF := Lib.hid (leastN_first xs n).2
    obtain ⟨k, hk⟩ : ∃ k, k = leastN xs n := ⟨_, rfl⟩
    rw [← hk] at kM kF hkn ⊢
    clear hk
    obtain ⟨ad, rfl, -, -, -, -⟩ := hr.pt (k := 0) (by omega)
    have HR := Lib.hid (And.intro hr hl)
    clear hr hl
    go_enter Try.func73, Try.ntmps73
    go_wp2_with fail
    refine kM.out.mono ?_
    rintro e w1 ⟨rfl, hb1⟩
    have kI := Lib.hid (indexPt_any xs (some ad) n cap k w1 (HR.out.1.on hb1) hkn kF.out (by omega))
    clear kM kF
    have HB := Lib.hid hb1
    clear hb1
    go_wp2_with fail
    refine kI.out.mono ?_
    rintro e w2 ⟨rfl, hb2⟩
    have HB2 := Lib.hid (below_on HB.out (Nat.le_refl _) hb2)
    clear HB hb2 kI
    have e1 : (k : Int) ≤ (n : Int) := by omega
    have e2 : (n : Int) ≤ (cap : Int) := by omega
    have e3 : ¬ cap = k := by omega
    have e4 : (k : Int) ≤ (cap : Int) := by omega
    have e5 : ¬ (k : Int) < 0 := by omega
    have e6 : k ≤ n := by omega
    have e7 : k ≤ cap := by omega
    go_wp2_with fail
    have hP0 : Below w2.heap.size w2 w2.drew := (Below.refl _ _).drew
    have hSA : Below w2.heap.size w2 (World.drew (w2.alloc (.cells #[.slice (some (ad.add (k * 2))) (n - k) (cap - k), .slice (some ad) k cap] 23))) := ((Below.refl _ _).alloc (Nat.le_refl _) _).drew
    have hRx : Reads w2 w2.heap.size 2 (some ad) n (ptsV xs) := HR.out.1.on HB2.out
    have kC := concatPt_any (xs.drop k) (xs.take k) (some (ad.add (k * 2))) (some ad) (n - k) k (cap - k) cap w2.heap.size 2 (World.drew (w2.alloc (.cells #[.slice (some (ad.add (k * 2))) (n - k) (cap - k), .slice (some ad) k cap] 23)))
      ((hRx.dropP e6 hc e3).on hSA) ((hRx.takeP e6).on hSA) (by simp) (Blk.cell (Blk.new w2 _ _) 0) (Blk.cell (Blk.new w2 _ _) 1) (by omega) (by omega)
    rw [show n - k + k = n by omega] at kC
    have kC := Lib.hid kC
    clear hRx
    go_region_held3 (fun V => Below w2.heap.size w2 V)
      (first | with_reducible exact hP0 | with_reducible exact hSA | with_reducible exact hSB)
      (first
        | (go_simp; go_at_call 93; (with_reducible refine (kC.out).mono ?_); rintro e w' ⟨A', c', rfl, ho', hb'⟩; have hSB := below_on hSA (Nat.le_refl _) hb'; try dsimp only))
    all_goals
      clear hP0 hSA
      have HF := Lib.hid (And.intro (own_mono ho' (Nat.le_trans HB2.out.size (by simp))) (below_on HB2.out (Nat.le_refl _) hSB))
      clear ho' hb' hSB HB2 kC
      go_wp2_with fail
      go_ret
      exact ⟨A', c', rfl, HF.out⟩
set_option maxHeartbeats 800000 in
theorem norm_any (xs : List Pt) (A : Option Addr) (n cap : Nat) (w : World) (hr : Reads w w.heap.size 2 A n (ptsV xs)) (hc : n ≤ cap) (hcap : cap ≤ 9223372036854775807) (hx : ∀ p ∈ xs, p.inI) (hL : checkI xs = 0 → n ≤ 1048576) :
    Calls Try.prog 44 #[.slice A n cap] w fun e w' => ∃ A' c m, e = .returned (.tuple #[.slice A' m c, .int .i64 (checkI xs)]) ∧ Reads w' w'.heap.size 2 A' m (ptsV (if checkI xs = 0 then rot (leastN xs n) xs else [])) ∧ Below w.heap.size w w' := by
  have kC := Lib.hid (check_any xs A n cap w hr (by omega) hx)
  have HR := Lib.hid hr
  have HL := Lib.hid hL
  clear hr hL
  generalize checkI xs = e0 at *
  go_enter Try.func44, Try.ntmps44
  go_wp2_with fail
  refine kC.out.mono ?_
  rintro e w1 ⟨rfl, hb1⟩
  clear kC
  by_cases he : e0 = 0
  · subst he
    have kL := Lib.hid (leastP_any xs A n cap w1 (HR.out.on hb1) hc (HL.out rfl))
    have HB := Lib.hid hb1
    clear hb1
    go_wp2_with fail
    refine kL.out.mono ?_
    rintro e w2 ⟨A', c', rfl, ho, hb⟩
    have HF := Lib.hid (And.intro (Reads.of_own ho) (below_on HB.out (Nat.le_refl _) hb))
    clear ho hb HB
    go_wp2_with fail
    exact bodyPost_ret (v := .tuple #[.slice A' n c', .int .i64 0]) (by simp [results, Try.results44, go_sem]) rfl ⟨A', c', n, rfl, HF.out⟩
  · have he' : (e0 != 0) = true := by simpa using he
    have HB := Lib.hid hb1
    clear hb1
    go_wp2_with fail
    exact bodyPost_ret (v := .tuple #[.slice none 0 0, .int .i64 e0]) (by simp [results, Try.results44, go_sem]) rfl ⟨none, 0, 0, rfl, Reads.none_, HB.out⟩
end Go.Proofs.Ytcohioplkchojaa
