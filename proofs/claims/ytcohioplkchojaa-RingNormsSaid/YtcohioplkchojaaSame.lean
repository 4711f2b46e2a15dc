/- merestonelaw09.same: the walk. -/
import Derived.Test.YtcohioplkchojaaPtW
namespace Go.Proofs.Ytcohioplkchojaa
open Go.RowKit
theorem take_same {xs ys : List Pt} {k : Nat} (h : xs.take k = ys.take k) (hx : k < xs.length) (hy : k < ys.length) (he : xs[k] = ys[k]) : xs.take (k + 1) = ys.take (k + 1) := by
  rw [List.take_succ_eq_append_getElem hx, List.take_succ_eq_append_getElem hy, h, he]
theorem not_same {xs ys : List Pt} {k : Nat} (hx : k < xs.length) (hy : k < ys.length) (he : xs[k] ≠ ys[k]) : decide (xs = ys) = false := by
  apply decide_eq_false
  rintro rfl
  exact he rfl
theorem beq_int (k m : Nat) : ((k : Int) == (m : Int)) = decide (k = m) := by
  rw [Bool.eq_iff_iff]
  simp
  omega
set_option maxHeartbeats 800000 in
theorem same_any (xs ys : List Pt) (A B : Option Addr) (n m ca cb : Nat) (w : World) (hr : Reads w w.heap.size 2 A n (ptsV xs)) (hs : Reads w w.heap.size 2 B m (ptsV ys)) (hn : n ≤ 9223372036854775807) (hm : m ≤ 9223372036854775807) :
    Calls Try.prog 28 #[.slice A n ca, .slice B m cb] w fun e w' => e = .returned (.bool (decide (xs = ys))) ∧ Below w.heap.size w w' := by
  have HL := Lib.hid (And.intro hr.lenPt hs.lenPt)
  go_enter Try.func28, Try.ntmps28
  go_wp2
  go_loopw [5] (fun i wr => ∃ k : Nat, k ≤ n ∧ k ≤ m ∧ Hid (xs.take k = ys.take k) ∧ i = .int .i64 (k : Int) ∧ Below w.heap.size w wr) (fun i _ => n - (intOf i).toNat)
  case atStart => exact ⟨0, Nat.zero_le _, Nat.zero_le _, rfl, rfl, Below.refl _ _⟩
  case round =>
    obtain ⟨k, hk, hkm, hg, rfl, hbel⟩ := hrel
    by_cases hlt : k < n
    · by_cases hlt2 : k < m
      · obtain ⟨ad, rfl, hb, hkl, hcx, hcy⟩ := (hr.below hbel).pt hlt
        obtain ⟨bd, rfl, hb', hkl', hdx, hdy⟩ := (hs.below hbel).pt hlt2
        have HE1 := Lib.hid (take_same hg.out hkl hkl')
        have HE2 := Lib.hid (not_same hkl hkl')
        obtain ⟨⟨x, y⟩, hp⟩ : ∃ p, p = xs[k] := ⟨_, rfl⟩
        obtain ⟨⟨x', y'⟩, hq⟩ : ∃ p, p = ys[k] := ⟨_, rfl⟩
        rw [← hp] at hcx hcy
        rw [← hq] at hdx hdy
        have HP := Lib.hid (And.intro hp hq)
        simp only at hcx hcy hdx hdy
        clear hp hq hr hs
        by_cases hx : x = x'
        · by_cases hy : y = y'
          · subst hx hy
            have HE := Lib.hid (HE1.out (HP.out.1.symm.trans HP.out.2))
            clear HE1 HE2 HP
            go_wp2
            go_quiet (fail)
            go_wp2
            go_roundw
            case rel => exact ⟨k + 1, by omega, by omega, HE, by go_num, below_drewN hbel _⟩
            case measure => simp [intOf]; omega
          · have HE := Lib.hid (HE2.out (by rw [← HP.out.1, ← HP.out.2]; simp [hy]))
            subst hx
            have hy' : (y != y') = true := by simpa using hy
            clear HE1 HE2 HP
            go_wp2
            go_quiet (fail)
            go_wp2
            go_ret
            exact ⟨by rw [HE.out]; rfl, below_drewN hbel _⟩
        · have HE := Lib.hid (HE2.out (by rw [← HP.out.1, ← HP.out.2]; simp [hx]))
          have hx' : (x != x') = true := by simpa using hx
          clear HE1 HE2 HP
          go_wp2
          go_quiet (fail)
          go_wp2
          go_ret
          exact ⟨by rw [HE.out]; rfl, below_drewN hbel _⟩
      · have hne : ¬ (n = m) := by omega
        have hf : decide (xs = ys) = false := by
          apply decide_eq_false
          rintro rfl
          have := HL.out
          omega
        have HF := Lib.hid hf
        have hnm : ((n : Int) == (m : Int)) = false := by simp; omega
        clear hf hne
        go_wp2
        go_ret
        exact ⟨by rw [HF.out]; rfl, hbel⟩
    · have hkn : k = n := by omega
      subst hkn
      have HF : Hid (decide (k = m) = decide (xs = ys)) := by
        show _ = _
        congr 1
        refine propext ⟨fun h => ?_, fun h => ?_⟩
        · subst h
          have h1 := hg.out
          have := HL.out
          rw [List.take_of_length_le (by omega), List.take_of_length_le (by omega)] at h1
          exact h1
        · subst h
          have := HL.out
          omega
      go_wp2
      go_ret
      exact ⟨by show Ending.returned (.bool ((k : Int) == (m : Int))) = _; rw [← HF.out, beq_int], hbel⟩
end Go.Proofs.Ytcohioplkchojaa
