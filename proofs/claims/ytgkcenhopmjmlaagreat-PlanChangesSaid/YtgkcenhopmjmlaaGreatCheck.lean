/- ring.Check: the walk. -/
/- ring.Side: the walk. -/
/- merestonelaw03.answers: true. -/
/- The rings' laws' own words: a ring of its own. -/
import Derived.Test.YtgkcenhopmjmlaaGreatTwice
import Derived.Test.YtgkcenhopmjmlaaGreatSimple
import Derived.Test.YtgkcenhopmjmlaaGreatRefArea
namespace Go.Proofs.YtgkcenhopmjmlaaGreat
open Go.RowKit
set_option maxRecDepth 100000 in
set_option maxHeartbeats 1600000 in
theorem check_any (xs : List Pt) (A : Option Addr) (n cap : Nat) (w : World) (hr : Reads w w.heap.size 2 A n (ptsV xs)) (hn : n ≤ 9223372036854775807) (hx : ∀ p ∈ xs, p.inI) :
    Calls Tryz.prog 147 #[.slice A n cap] w fun e w' => e = .returned (.int .i64 (checkI xs)) ∧ Below w.heap.size w w' := by
  have hl : xs.length = n := hr.lenPt
  have ka := area_any xs A n cap w hr hn hx
  obtain ⟨res, hres⟩ : ∃ r, r = checkI xs := ⟨_, rfl⟩
  rw [← hres]
  by_cases hE : areaE xs = 0
  · obtain ⟨hl128, hg⟩ := areaE_zero hE
    rw [hE, areaV_ok hE] at ka
    have hsm : small (areaZ xs) := by
      have := areaS_bd hg xs.length
      rw [areaS_all] at this
      unfold small
      omega
    have hn128 : n ≤ 128 := by omega
    have ks : ∀ W, Calls Tryz.prog 186 #[i128 (areaZ xs)] W fun e w' => e = .returned (.int .i64 (sgI (areaZ xs))) ∧ Below W.heap.size W w' := fun W => sign_any _ W hsm
    have kt : ∀ W, 1 ≤ n → Below w.heap.size w W → Calls Tryz.prog 185 #[.slice A n cap] W fun e w' => ∃ t, e = .returned (.bool t) ∧ (t = true → ¬ xs.Nodup) ∧ Below W.heap.size W w' := fun W h1 hW => twice_any xs A n cap W ((hr.below hW).more hW.size) h1 hn128
    have kp : ∀ W, Below w.heap.size w W → Calls Tryz.prog 187 #[.slice A n cap] W fun e w' => e = .returned (.bool (simpleB xs)) ∧ Below W.heap.size W w' := fun W hW => simple_any xs A n cap W ((hr.below hW).more hW.size) hn128 hg
    unfold i128 at ka ks
    have HP := Lib.hid (fun (t : Bool) (ht : t = true → ¬ xs.Nodup) => check_plain hE ht)
    obtain ⟨z, hz⟩ : ∃ z, z = areaZ xs := ⟨_, rfl⟩
    rw [← hz] at ka ks HP
    rw [hl, ← hres] at HP
    obtain ⟨sb, hsb⟩ : ∃ b, b = simpleB xs := ⟨_, rfl⟩
    rw [← hsb] at kp HP
    have HK := Lib.hid (And.intro ka (And.intro ks (And.intro kt kp)))
    clear hres hE hg hz hl hr ka ks kt kp hsm hx hl128 hn hsb
    go_enter Tryz.func147, Tryz.ntmps147
    go_wp2_with fail
    with_reducible refine HK.out.1.mono ?_
    rintro e w1 ⟨rfl, hb1⟩
    have hb2 := hb1.alloc hb1.size (.cells #[.int .i64 (z / 18446744073709551616), .int .u64 (z % 18446744073709551616)] 41)
    have hz1 := hb1.size
    by_cases h3 : n < 3
    · have H4 : Hid (res = 4) := (HP.out false (fun h => by cases h)).2 (fun h => by have := h.1; omega)
      have hd3 : decide ((n : Int) < 3) = true := decide_eq_true (by omega)
      go_wp2_with fail
      go_ret
      exact ⟨by rw [H4.out]; rfl, hb2⟩
    · have hd3 : decide ((n : Int) < 3) = false := decide_eq_false (by omega)
      have HB := Lib.hid hb2
      go_wp2_with fail
      have bZ := (Blk.new w1 41 #[.int .i64 (z / 18446744073709551616), .int .u64 (z % 18446744073709551616)])
      generalize hW : w1.alloc (.cells #[.int .i64 (z / 18446744073709551616), .int .u64 (z % 18446744073709551616)] 41) = W at *
      clear hW hb1 hb2
      with_reducible refine (HK.out.2.2.1 _ (by omega) HB.out).mono ?_
      rintro e w2 ⟨t, rfl, ht, hb3⟩
      rcases t with _ | _
      · have hB3 := below_on HB.out (Nat.le_refl _) hb3
        have bZ3 := bZ.below hb3 bZ.lt
        have HT := HP.out false ht
        have HR := Lib.hid HT
        clear HT HP ht hb3 HB
        have HB := Lib.hid hB3
        obtain ⟨z1, z2, -, -⟩ := blk_two bZ3
        clear hB3
        go_wp2_with fail
        with_reducible refine (HK.out.2.1 _).mono ?_
        rintro e w3 ⟨rfl, hb4⟩
        have hB4 := below_on HB.out (Nat.le_refl _) hb4
        clear hb4 HB bZ3 z1 z2
        have hs1 : (0 < z ∧ sgI z = 1) ∨ (¬ 0 < z ∧ (sgI z = -1 ∨ sgI z = 0)) := by unfold sgI; split <;> (try split) <;> omega
        rcases hs1 with ⟨hz, hs⟩ | ⟨hz, hs⟩
        · rw [hs]
          have HZ := Lib.hid hz
          clear hs hz
          have HB := Lib.hid hB4
          clear hB4
          go_wp2_with fail
          with_reducible refine (HK.out.2.2.2 _ HB.out).mono ?_
          rintro e w5 ⟨rfl, hb5⟩
          have hB5 := below_on HB.out (Nat.le_refl _) hb5
          clear hb5 HB
          rcases sb with _ | _
          · have H4 : Hid (res = 4) := HR.out.2 (fun h => by have := h.2.2.2; cases this)
            go_wp2_with fail
            go_ret
            exact ⟨by rw [H4.out]; rfl, hB5⟩
          · have H0 : Hid (res = 0) := HR.out.1 (by have := HZ.out; simp; omega)
            go_wp2_with fail
            go_ret
            exact ⟨by rw [H0.out]; rfl, hB5⟩
        · have H4 : Hid (res = 4) := HR.out.2 (fun h => hz h.2.2.1)
          clear hz
          rcases hs with hs | hs
          all_goals
            rw [hs]
            clear hs
            go_wp2_with fail
            go_ret
            exact ⟨by rw [H4.out]; rfl, hB4⟩
      · have hB3 := below_on HB.out (Nat.le_refl _) hb3
        have H4 : Hid (res = 4) := (HP.out true ht).2 (fun h => by have := h.2.1; cases this)
        clear HP ht hb3 HB
        go_wp2_with fail
        go_ret
        exact ⟨by rw [H4.out]; rfl, hB3⟩
  · have he : res = areaE xs := by rw [hres, checkI_err hE]
    have hv : areaV xs = 0 := if_neg hE
    rw [hv, i128_zero, ← he] at ka
    have hne : (res != 0) = true := by rw [he]; simpa using hE
    clear hr hn hx hl hres hE he hv
    go_enter Tryz.func147, Tryz.ntmps147
    go_wp2_with fail
    refine ka.mono ?_
    rintro e w1 ⟨rfl, hb1⟩
    go_wp2_with fail
    go_ret
    exact ⟨rfl, hb1.alloc hb1.size _⟩
end Go.Proofs.YtgkcenhopmjmlaaGreat
namespace Go.Proofs.YtgkcenhopmjmlaaGreat
open Go.RowKit
end Go.Proofs.YtgkcenhopmjmlaaGreat
namespace Go.Proofs.YtgkcenhopmjmlaaGreat
open Go.RowKit
def sqR : List Pt := [⟨0, 0⟩, ⟨4, 0⟩, ⟨4, 4⟩, ⟨0, 4⟩]
theorem sq_area : areaE sqR = 0 ∧ areaZ sqR = 32 := by decide
theorem sq_pairs : PairsOK sqR := fun i j hij hj => by
  have hj' : j < 4 := hj
  have h : ∀ i j : Nat, i < j → j < 4 → pairOK sqR i j = true := by
    intro i j h1 h2
    have hi : i = 0 ∨ i = 1 ∨ i = 2 := by omega
    have hj : j = 1 ∨ j = 2 ∨ j = 3 := by omega
    rcases hi with rfl | rfl | rfl <;> rcases hj with rfl | rfl | rfl <;> first | omega | decide
  exact h i j hij hj'
theorem sq_check : checkI sqR = 0 := checkI_ok sq_area.1 (by decide) (by rw [sq_area.2]; decide) sq_pairs
end Go.Proofs.YtgkcenhopmjmlaaGreat
namespace Go.Proofs.YtgkcenhopmjmlaaGreat
open Go.RowKit
end Go.Proofs.YtgkcenhopmjmlaaGreat
