/- ring.Check: the walk. -/
/- ring.Side: the walk. -/
import Derived.Test.YtcohioplkchojaaTwice
import Derived.Test.YtcohioplkchojaaSimple
import Derived.Test.YtcohioplkchojaaRefArea
import Derived.Test.YtcohioplkchojaaSide
namespace Go.Proofs.Ytcohioplkchojaa
open Go.RowKit
set_option maxRecDepth 100000 in
set_option maxHeartbeats 1600000 in
theorem check_any (xs : List Pt) (A : Option Addr) (n cap : Nat) (w : World) (hr : Reads w w.heap.size 2 A n (ptsV xs)) (hn : n ≤ 9223372036854775807) (hx : ∀ p ∈ xs, p.inI) :
    Calls Try.prog 19 #[.slice A n cap] w fun e w' => e = .returned (.int .i64 (checkI xs)) ∧ Below w.heap.size w w' := by
  have hl : xs.length = n := hr.lenPt
  have ka := area_any xs A n cap w hr hn hx
  obtain ⟨res, hres⟩ : ∃ r, r = checkI xs := ⟨_, rfl⟩
  rw [← hres]
  by_cases hE : areaE xs = 0
  · obtain ⟨hl128, hg⟩ := areaE_zero hE
    rw [hE, areaV_ok hE] at ka
    have hsm : small (areaZ xs) := by
      have := areaS_bd hg xs.length
      rw [areaS_all] at this
      unfold small
      omega
    have hn128 : n ≤ 128 := by omega
    have ks : ∀ W, Calls Try.prog 55 #[i128 (areaZ xs)] W fun e w' => e = .returned (.int .i64 (sgI (areaZ xs))) ∧ Below W.heap.size W w' := fun W => sign_any _ W hsm
    have kt : ∀ W, 1 ≤ n → Below w.heap.size w W → Calls Try.prog 54 #[.slice A n cap] W fun e w' => ∃ t, e = .returned (.bool t) ∧ (t = true → ¬ xs.Nodup) ∧ Below W.heap.size W w' := fun W h1 hW => twice_any xs A n cap W ((hr.below hW).more hW.size) h1 hn128
    have kp : ∀ W, Below w.heap.size w W → Calls Try.prog 56 #[.slice A n cap] W fun e w' => e = .returned (.bool (simpleB xs)) ∧ Below W.heap.size W w' := fun W hW => simple_any xs A n cap W ((hr.below hW).more hW.size) hn128 hg
    unfold i128 at ka ks
    have HP := Lib.hid (fun (t : Bool) (ht : t = true → ¬ xs.Nodup) => check_plain hE ht)
    obtain ⟨z, hz⟩ : ∃ z, z = areaZ xs := ⟨_, rfl⟩
    rw [← hz] at ka ks HP
    rw [hl, ← hres] at HP
    obtain ⟨sb, hsb⟩ : ∃ b, b = simpleB xs := ⟨_, rfl⟩
    rw [← hsb] at kp HP
    have HK := Lib.hid (And.intro ka (And.intro ks (And.intro kt kp)))
    clear hres hE hg hz hl hr ka ks kt kp hsm hx hl128 hn hsb
    go_enter Try.func19, Try.ntmps19
    go_wp2_with fail
    with_reducible refine HK.out.1.mono ?_
    rintro e w1 ⟨rfl, hb1⟩
    have hb2 := hb1.alloc hb1.size (.cells #[.int .i64 (z / 18446744073709551616), .int .u64 (z % 18446744073709551616)] 26)
    have hz1 := hb1.size
    by_cases h3 : n < 3
    · have H4 : Hid (res = 4) := (HP.out false (fun h => by cases h)).2 (fun h => by have := h.1; omega)
      have hd3 : decide ((n : Int) < 3) = true := decide_eq_true (by omega)
      go_wp2_with fail
      go_ret
      exact ⟨by rw [H4.out]; rfl, hb2⟩
    · have hd3 : decide ((n : Int) < 3) = false := decide_eq_false (by omega)
      have HB := Lib.hid hb2
      go_wp2_with fail
      have bZ := (Blk.new w1 26 #[.int .i64 (z / 18446744073709551616), .int .u64 (z % 18446744073709551616)])
      generalize hW : w1.alloc (.cells #[.int .i64 (z / 18446744073709551616), .int .u64 (z % 18446744073709551616)] 26) = W at *
      clear hW hb1 hb2
      with_reducible refine (HK.out.2.2.1 _ (by omega) HB.out).mono ?_
      rintro e w2 ⟨t, rfl, ht, hb3⟩
      rcases t with _ | _
      · have hB3 := below_on HB.out (Nat.le_refl _) hb3
        have bZ3 := bZ.below hb3 bZ.lt
        have HT := HP.out false ht
        have HR := Lib.hid HT
        clear HT HP ht hb3 HB
        have HB := Lib.hid hB3
        obtain ⟨z1, z2, -, -⟩ := blk_two bZ3
        clear hB3
        go_wp2_with fail
        with_reducible refine (HK.out.2.1 _).mono ?_
        rintro e w3 ⟨rfl, hb4⟩
        have hB4 := below_on HB.out (Nat.le_refl _) hb4
        clear hb4 HB bZ3 z1 z2
        have hs1 : (0 < z ∧ sgI z = 1) ∨ (¬ 0 < z ∧ (sgI z = -1 ∨ sgI z = 0)) := by unfold sgI; split <;> (try split) <;> omega
        rcases hs1 with ⟨hz, hs⟩ | ⟨hz, hs⟩
        · rw [hs]
          have HZ := Lib.hid hz
          clear hs hz
          have HB := Lib.hid hB4
          clear hB4
          go_wp2_with fail
          with_reducible refine (HK.out.2.2.2 _ HB.out).mono ?_
          rintro e w5 ⟨rfl, hb5⟩
          have hB5 := below_on HB.out (Nat.le_refl _) hb5
          clear hb5 HB
          rcases sb with _ | _
          · have H4 : Hid (res = 4) := HR.out.2 (fun h => by have := h.2.2.2; cases this)
            go_wp2_with fail
            go_ret
            exact ⟨by rw [H4.out]; rfl, hB5⟩
          · have H0 : Hid (res = 0) := HR.out.1 (by have := HZ.out; simp; omega)
            go_wp2_with fail
            go_ret
            exact ⟨by rw [H0.out]; rfl, hB5⟩
        · have H4 : Hid (res = 4) := HR.out.2 (fun h => hz h.2.2.1)
          clear hz
          rcases hs with hs | hs
          all_goals
            rw [hs]
            clear hs
            go_wp2_with fail
            go_ret
            exact ⟨by rw [H4.out]; rfl, hB4⟩
      · have hB3 := below_on HB.out (Nat.le_refl _) hb3
        have H4 : Hid (res = 4) := (HP.out true ht).2 (fun h => by have := h.2.1; cases this)
        clear HP ht hb3 HB
        go_wp2_with fail
        go_ret
        exact ⟨by rw [H4.out]; rfl, hB3⟩
  · have he : res = areaE xs := by rw [hres, checkI_err hE]
    have hv : areaV xs = 0 := if_neg hE
    rw [hv, i128_zero, ← he] at ka
    have hne : (res != 0) = true := by rw [he]; simpa using hE
    clear hr hn hx hl hres hE he hv
    go_enter Try.func19, Try.ntmps19
    go_wp2_with fail
    refine ka.mono ?_
    rintro e w1 ⟨rfl, hb1⟩
    go_wp2_with fail
    go_ret
    exact ⟨rfl, hb1.alloc hb1.size _⟩
end Go.Proofs.Ytcohioplkchojaa
namespace Go.Proofs.Ytcohioplkchojaa
open Go.RowKit
noncomputable def sideE (xs : List Pt) (p : Pt) : Int := if checkI xs ≠ 0 then checkI xs else if good p = true then 0 else 3
noncomputable def sideV (xs : List Pt) (p : Pt) : Int := if checkI xs ≠ 0 then 0 else if good p = true then sideI xs p else 0
theorem reads_onePt (w : World) (p : Pt) (k : Nat) (hk : k = w.heap.size) : Reads (w.alloc (.cells #[.int .i64 p.x, .int .i64 p.y] 35)) (w.alloc (.cells #[.int .i64 p.x, .int .i64 p.y] 35)).heap.size 2 (some ⟨k, 0, none⟩) 1 (ptsV [p]) := by
  subst hk
  exact Reads.made w _ _ _ 2 1 _ rfl rfl
set_option maxRecDepth 100000 in
set_option maxHeartbeats 1600000 in
theorem sideW_any (xs : List Pt) (p : Pt) (A : Option Addr) (n cap : Nat) (w : World) (hr : Reads w w.heap.size 2 A n (ptsV xs)) (hn : n ≤ 9223372036854775807) (hx : ∀ p ∈ xs, p.inI) (hp : p.inI) :
    Calls Try.prog 21 #[.slice A n cap, ptV p] w fun e w' => e = .returned (.tuple #[.int .i64 (sideV xs p), .int .i64 (sideE xs p)]) ∧ Below w.heap.size w w' := by
  have hl : xs.length = n := hr.lenPt
  have hb0 := (Below.refl w.heap.size w).alloc (Nat.le_refl _) (.cells #[.int .i64 p.x, .int .i64 p.y] 35)
  have hk := check_any xs A n cap (w.alloc (.cells #[.int .i64 p.x, .int .i64 p.y] 35)) ((hr.below hb0).more hb0.size) hn hx
  have hP := PtK.new w p
  obtain ⟨r, hrr⟩ : ∃ r, r = checkI xs := ⟨_, rfl⟩
  rw [← hrr] at hk
  have HK := Lib.hid hk
  have HB := Lib.hid (And.intro hb0 hP)
  clear hk hb0 hP
  by_cases hE : r = 0
  · have hz := checkI_zero (hrr.symm.trans hE)
    have hE' := hrr.symm.trans hE
    have hs : ∀ W, Below w.heap.size w W → good p = true → Calls Try.prog 59 #[.slice A n cap, .agg #[.int .i64 p.x, .int .i64 p.y]] W fun e w' => e = .returned (.int .i64 (sideI xs p)) ∧ Below W.heap.size W w' := fun W hW hg => side_any xs p A n cap W ((hr.below hW).more hW.size) (by omega) hz.2.1 hg
    have HS := Lib.hid hs
    subst hE
    rcases hg : good p with _ | _
    · have e1 : sideE xs p = 3 := by unfold sideE; rw [if_neg (by rw [hE']; simp), if_neg (by rw [hg]; simp)]
      have e2 : sideV xs p = 0 := by unfold sideV; rw [if_neg (by rw [hE']; simp), if_neg (by rw [hg]; simp)]
      rw [e1, e2]
      have HG := Lib.hid (And.intro hg hp)
      clear hs hz hg e1 e2 hrr hE' hr hx hp hl HS
      unfold ptV
      go_enter Try.func21, Try.ntmps21
      go_wp2_with fail
      with_reducible refine HK.out.mono ?_
      rintro e w1 ⟨rfl, hb1⟩
      have hB1 := below_on HB.out.1 (Nat.le_refl _) hb1
      obtain ⟨p1, p2, -, -, -⟩ := (HB.out.2.on hb1).facts
      clear hb1 HK HB
      go_wp2_with fail
      refine (good_any [p] _ 1 1 _ (reads_onePt w1 p _ rfl) (by omega) (fun q hq => by simp at hq; subst hq; exact HG.out.2)).mono ?_
      rintro e w2 ⟨rfl, hb2⟩
      have hgl : goodL [p] = false := by simp [goodL, HG.out.1]
      rw [hgl]
      have hB2 := below_on (hB1.alloc hB1.size (.cells #[.int .i64 p.x, .int .i64 p.y] 35)) (Nat.le_refl _) hb2
      clear hgl hb2 p1 p2 hB1
      go_wp2_with fail
      exact bodyPost_ret (v := .tuple #[.int .i64 0, .int .i64 3]) (by simp [results, Try.results21, go_sem]) rfl ⟨rfl, hB2⟩
    · have e1 : sideE xs p = 0 := by unfold sideE; rw [if_neg (by rw [hE']; simp), if_pos hg]
      have e2 : sideV xs p = sideI xs p := by unfold sideV; rw [if_neg (by rw [hE']; simp), if_pos hg]
      rw [e1, e2]
      have HG := Lib.hid (And.intro hg hp)
      obtain ⟨z, hz2⟩ : ∃ z, z = sideI xs p := ⟨_, rfl⟩
      rw [← hz2] at HS
      rw [← hz2]
      clear hs hz hg e1 e2 hrr hE' hr hx hp hl hz2
      unfold ptV
      go_enter Try.func21, Try.ntmps21
      go_wp2_with fail
      with_reducible refine HK.out.mono ?_
      rintro e w1 ⟨rfl, hb1⟩
      have hB1 := below_on HB.out.1 (Nat.le_refl _) hb1
      have hP1 := HB.out.2.on hb1
      obtain ⟨p1, p2, -, -, -⟩ := hP1.facts
      clear hb1 HK HB
      go_wp2_with fail
      refine (good_any [p] _ 1 1 _ (reads_onePt w1 p _ rfl) (by omega) (fun q hq => by simp at hq; subst hq; exact HG.out.2)).mono ?_
      rintro e w2 ⟨rfl, hb2⟩
      have hgl : goodL [p] = true := by simp [goodL, HG.out.1]
      rw [hgl]
      have hB2 := below_on (hB1.alloc hB1.size (.cells #[.int .i64 p.x, .int .i64 p.y] 35)) (Nat.le_refl _) hb2
      obtain ⟨q1, q2, -, -, -⟩ := ((hP1.alloc (.cells #[.int .i64 p.x, .int .i64 p.y] 35)).on hb2).facts
      clear hgl hb2 p1 p2 hB1 hP1
      have HB2 := Lib.hid hB2
      clear hB2
      go_wp2_with fail
      with_reducible refine (HS.out _ HB2.out HG.out.1).mono ?_
      rintro e w3 ⟨rfl, hb3⟩
      have hB3 := below_on HB2.out (Nat.le_refl _) hb3
      clear hb3 q1 q2
      go_wp2_with fail
      exact bodyPost_ret (v := .tuple #[.int .i64 z, .int .i64 0]) (by simp [results, Try.results21, go_sem]) rfl ⟨rfl, hB3⟩
  · have e1 : sideE xs p = r := by unfold sideE; rw [← hrr, if_pos hE]
    have e2 : sideV xs p = 0 := by unfold sideV; rw [← hrr, if_pos hE]
    rw [e1, e2]
    have hne : (r != 0) = true := by simpa using hE
    clear e1 e2 hrr hr hx hp hl hE
    unfold ptV
    go_enter Try.func21, Try.ntmps21
    go_wp2_with fail
    with_reducible refine HK.out.mono ?_
    rintro e w1 ⟨rfl, hb1⟩
    have hB1 := below_on HB.out.1 (Nat.le_refl _) hb1
    clear hb1 HK HB
    go_wp2_with fail
    exact bodyPost_ret (v := .tuple #[.int .i64 0, .int .i64 r]) (by simp [results, Try.results21, go_sem]) rfl ⟨rfl, hB1⟩
end Go.Proofs.Ytcohioplkchojaa
