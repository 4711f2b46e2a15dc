/- window.Meets and merestoneref02.Meets: the walks. -/
import Derived.Test.YtcohioplkchojaaTouches
import Derived.Test.YtcohioplkchojaaCheck
import Derived.Test.YtcohioplkchojaaCutsR
import Derived.Test.YtcohioplkchojaaCheckR
import Derived.Test.YtcohioplkchojaaWinHas
namespace Go.Proofs.Ytcohioplkchojaa
open Go.RowKit
noncomputable def meetE (v : Win) (xs : List Pt) : Int := if winE v ≠ 0 then winE v else checkI xs
noncomputable def meetV (v : Win) (xs : List Pt) : Bool := if meetE v xs = 0 then meetsB v xs else false
theorem meet_cases (v : Win) (xs : List Pt) : (winE v ≠ 0 ∧ meetE v xs = winE v ∧ meetV v xs = false) ∨ (winE v = 0 ∧ checkI xs ≠ 0 ∧ meetE v xs = checkI xs ∧ meetV v xs = false) ∨ (winE v = 0 ∧ checkI xs = 0 ∧ meetE v xs = 0 ∧ meetV v xs = meetsB v xs) := by
  have e1 : meetE v xs = if winE v ≠ 0 then winE v else checkI xs := rfl
  have e2 : meetV v xs = if meetE v xs = 0 then meetsB v xs else false := rfl
  by_cases h1 : winE v = 0
  · rw [if_neg (fun h => h h1)] at e1
    by_cases h2 : checkI xs = 0
    · exact .inr (.inr ⟨h1, h2, e1.trans h2, by rw [e2, if_pos (e1.trans h2)]⟩)
    · exact .inr (.inl ⟨h1, h2, e1, by rw [e2, if_neg (by rw [e1]; exact h2)]⟩)
  · rw [if_pos h1] at e1
    exact .inl ⟨h1, e1, by rw [e2, if_neg (by rw [e1]; exact h1)]⟩
set_option maxRecDepth 100000 in
set_option maxHeartbeats 1600000 in
theorem wmeets_any (v : Win) (xs : List Pt) (A : Option Addr) (n cap : Nat) (w : World) (hr : Reads w w.heap.size 2 A n (ptsV xs)) (hn : n ≤ 9223372036854775807) (hx : ∀ p ∈ xs, p.inI) (hv : v.inI) :
    Calls Try.prog 38 #[winV v, .slice A n cap] w fun e w' => e = .returned (.tuple #[.bool (meetV v xs), .int .i64 (meetE v xs)]) ∧ Below w.heap.size w w' := by
  have hl : xs.length = n := hr.lenPt
  have kW : ∀ V, Calls Try.prog 65 #[.agg #[.int .i64 v.lx, .int .i64 v.ly, .int .i64 v.hx, .int .i64 v.hy]] V fun e V' => e = .returned (.int .i64 (winE v)) ∧ Below V.heap.size V V' := fun V => wcheck_any v V hv
  have kC : ∀ V, Below w.heap.size w V → Calls Try.prog 19 #[.slice A n cap] V fun e V' => e = .returned (.int .i64 (checkI xs)) ∧ Below V.heap.size V V' := fun V hV => check_any xs A n cap V ((hr.below hV).more hV.size) hn hx
  have kT : ∀ V, Below w.heap.size w V → winE v = 0 → checkI xs = 0 → Calls Try.prog 69 #[.agg #[.int .i64 v.lx, .int .i64 v.ly, .int .i64 v.hx, .int .i64 v.hy], .slice A n cap] V fun e V' => e = .returned (.bool (meetsB v xs)) ∧ Below V.heap.size V V' := fun V hV h1 h2 => by
    obtain ⟨h3, h4, -⟩ := checkI_zero h2
    exact touches_any v xs A n cap V ((hr.below hV).more hV.size) (by omega) h4 h1
  have hc := meet_cases v xs
  generalize meetV v xs = mv at *
  generalize meetE v xs = me at *
  generalize meetsB v xs = mb at *
  generalize checkI xs = ce at *
  generalize winE v = we at *
  have HK := Lib.hid (And.intro kW (And.intro kC kT))
  have hB := (Below.refl w.heap.size w).alloc (Nat.le_refl _) (.cells #[.int .i64 v.lx, .int .i64 v.ly, .int .i64 v.hx, .int .i64 v.hy] 52)
  have hW := HasWin.new w v 52
  have HB := Lib.hid (And.intro hB hW)
  clear kW kC kT hr hx hn hl hB hW hv
  unfold winV
  rcases hc with ⟨h1, rfl, rfl⟩ | ⟨rfl, h2, rfl, rfl⟩ | ⟨rfl, rfl, rfl, rfl⟩
  · have hne : (me != 0) = true := by simpa using h1
    clear h1
    go_enter Try.func38, Try.ntmps38
    go_wp2_with fail
    with_reducible refine (HK.out.1 _).mono ?_
    rintro e w1 ⟨rfl, hb1⟩
    have hB1 := below_on HB.out.1 (Nat.le_refl _) hb1
    clear hb1 HK HB
    go_wp2_with fail
    exact bodyPost_ret (v := .tuple #[.bool false, .int .i64 me]) (by simp [results, Try.results38, go_sem]) rfl ⟨rfl, hB1⟩
  · have hne : (me != 0) = true := by simpa using h2
    clear h2
    go_enter Try.func38, Try.ntmps38
    go_wp2_with fail
    with_reducible refine (HK.out.1 _).mono ?_
    rintro e w1 ⟨rfl, hb1⟩
    have hB1 := below_on HB.out.1 (Nat.le_refl _) hb1
    have HB1 := Lib.hid hB1
    clear hb1 HB hB1
    go_wp2_with fail
    with_reducible refine (HK.out.2.1 _ HB1.out).mono ?_
    rintro e w2 ⟨rfl, hb2⟩
    have hB2 := below_on HB1.out (Nat.le_refl _) hb2
    clear hb2 HK HB1
    go_wp2_with fail
    exact bodyPost_ret (v := .tuple #[.bool false, .int .i64 me]) (by simp [results, Try.results38, go_sem]) rfl ⟨rfl, hB2⟩
  · go_enter Try.func38, Try.ntmps38
    go_wp2_with fail
    with_reducible refine (HK.out.1 _).mono ?_
    rintro e w1 ⟨rfl, hb1⟩
    have hB1 := below_on HB.out.1 (Nat.le_refl _) hb1
    have HB1 := Lib.hid (And.intro hB1 (HB.out.2.on hb1))
    clear hb1 HB hB1
    go_wp2_with fail
    with_reducible refine (HK.out.2.1 _ HB1.out.1).mono ?_
    rintro e w2 ⟨rfl, hb2⟩
    have hB2 := below_on HB1.out.1 (Nat.le_refl _) hb2
    obtain ⟨k1, k2, k3, k4, k5⟩ := HB1.out.2.on hb2
    have HB2 := Lib.hid hB2
    clear hb2 hB2 HB1
    go_wp2_with fail
    with_reducible refine (HK.out.2.2 _ HB2.out (by trivial) (by trivial)).mono ?_
    rintro e w3 ⟨rfl, hb3⟩
    have hB3 := below_on HB2.out (Nat.le_refl _) hb3
    clear hb3 HK HB2 k1 k2 k3 k4 k5
    go_wp2_with fail
    exact bodyPost_ret (v := .tuple #[.bool mv, .int .i64 0]) (by simp [results, Try.results38, go_sem]) rfl ⟨rfl, hB3⟩
abbrev HoldW (W V : World) (h : Nat) (a b : Addr) (x1 x2 x3 x4 x5 x6 x7 x8 : Value) : Prop := V.cell? ⟨h, 0, none⟩ = some x1 ∧ V.cell? ⟨h, 1, none⟩ = some x2 ∧ V.cell? ⟨h, 2, none⟩ = some x3 ∧ V.cell? ⟨h, 3, none⟩ = some x4 ∧ V.cell? a = some x5 ∧ V.cell? ⟨a.block, a.off + 1, none⟩ = some x6 ∧ V.cell? b = some x7 ∧ V.cell? ⟨b.block, b.off + 1, none⟩ = some x8 ∧ Below W.heap.size W V
theorem heldW {W V V' : World} {h : Nat} {a b : Addr} {x1 x2 x3 x4 x5 x6 x7 x8 : Value} (hh : h < W.heap.size ∧ a.block < W.heap.size ∧ b.block < W.heap.size)
    (hs : V.cell? ⟨h, 0, none⟩ = some x1 ∧ V.cell? ⟨h, 1, none⟩ = some x2 ∧ V.cell? ⟨h, 2, none⟩ = some x3 ∧ V.cell? ⟨h, 3, none⟩ = some x4 ∧ V.cell? a = some x5 ∧ V.cell? ⟨a.block, a.off + 1, none⟩ = some x6 ∧ V.cell? b = some x7 ∧ V.cell? ⟨b.block, b.off + 1, none⟩ = some x8 ∧ Below W.heap.size W V) (hb : Below V.heap.size V V') :
    V'.cell? ⟨h, 0, none⟩ = some x1 ∧ V'.cell? ⟨h, 1, none⟩ = some x2 ∧ V'.cell? ⟨h, 2, none⟩ = some x3 ∧ V'.cell? ⟨h, 3, none⟩ = some x4 ∧ V'.cell? a = some x5 ∧ V'.cell? ⟨a.block, a.off + 1, none⟩ = some x6 ∧ V'.cell? b = some x7 ∧ V'.cell? ⟨b.block, b.off + 1, none⟩ = some x8 ∧ Below W.heap.size W V' := by
  obtain ⟨h1, h2, h3, h4, h5, h6, h7, h8, h9⟩ := hs
  have := h9.size
  exact ⟨(hb.cell (by simp only; omega)).trans h1, (hb.cell (by simp only; omega)).trans h2, (hb.cell (by simp only; omega)).trans h3, (hb.cell (by simp only; omega)).trans h4, (hb.cell (by omega)).trans h5, (hb.cell (by simp only; omega)).trans h6, (hb.cell (by omega)).trans h7, (hb.cell (by simp only; omega)).trans h8, below_on h9 (Nat.le_refl _) hb⟩
set_option maxRecDepth 100000 in
set_option maxHeartbeats 1600000 in
theorem meetsR_any (v : Win) (xs : List Pt) (A : Option Addr) (n cap : Nat) (w : World) (hr : Reads w w.heap.size 2 A n (ptsV xs)) (hn : n ≤ 128) (hg : goodL xs = true) (hv : winE v = 0) :
    Calls Try.prog 41 #[winV v, .slice A n cap] w fun e w' => e = .returned (.bool (meetsB v xs)) ∧ Below w.heap.size w w' := by
  have hlow : good v.low = true := (cor_good hv).1
  have hB0 := (Below.refl w.heap.size w).alloc (Nat.le_refl _) (.cells #[.int .i64 v.lx, .int .i64 v.ly, .int .i64 v.hx, .int .i64 v.hy] 52)
  have hW0 := HasWin.new w v 52
  obtain ⟨res, hres⟩ : ∃ r, r = meetsB v xs := ⟨_, rfl⟩
  rw [← hres]
  have HR := Lib.hid hres
  have HL := Lib.hid (hr.lenPt)
  have HG := Lib.hid (And.intro hg (And.intro hv hlow))
  have HRD := Lib.hid hr
  clear hres hg hv hlow hr
  unfold winV
  go_enter Try.func41, Try.ntmps41
  go_wp2_with fail
  go_loopw [5] (fun i wr => ∃ k : Nat, k ≤ n ∧ Hid (∀ j, j < k → cutN v xs j = false) ∧ i = .int .i64 (k : Int) ∧ Below w.heap.size w wr ∧ HasWin wr w.heap.size v) (fun i _ => n - (intOf i).toNat)
  case atStart => exact ⟨0, Nat.zero_le _, (fun j hj => absurd hj (by omega)), rfl, hB0, hW0⟩
  case round =>
    clear hB0 hW0
    obtain ⟨k, hk, hnone, rfl, hbel, hW⟩ := hrel
    by_cases hlt : k < n
    · have hA := HRD.out.below hbel
      obtain ⟨ad, rfl, hbd, -, -, -⟩ := hA.pt hlt
      obtain ⟨m, hm⟩ : ∃ m, m = (k + 1) % n := ⟨_, rfl⟩
      have hl1 : m < n := by rw [hm]; exact Nat.mod_lt _ (by omega)
      have ht1 : ((k : Int) + 1).tmod (n : Int) = (m : Int) := by rw [mod_tmod, ← hm]
      have hw1 : IntKind.i64.wrap ((k : Int) + 1) = (k : Int) + 1 := by rw [IntKind.wrap_i64]; omega
      have hl1' : (m : Int) < (n : Int) := by omega
      have hlt' : (k : Int) < (n : Int) := by omega
      have hn0 : ¬ (n = 0) := by omega
      have hn0' : ¬ ((n : Int) = 0) := by omega
      obtain ⟨-, r1, r2⟩ := hA.ptA hlt
      obtain ⟨-, t1, t2⟩ := hA.ptA hl1
      have hpg := ptAt_good HG.out.1 k
      have hqg := ptAt_good HG.out.1 m
      have hcu : cutN v xs k = cutsR v (ptAt xs k) (ptAt xs m) := by unfold cutN; rw [HL.out, ← hm]
      have kC : ∀ V, Calls Try.prog 70 #[.agg #[.int .i64 v.lx, .int .i64 v.ly, .int .i64 v.hx, .int .i64 v.hy], .agg #[.int .i64 (ptAt xs k).x, .int .i64 (ptAt xs k).y], .agg #[.int .i64 (ptAt xs m).x, .int .i64 (ptAt xs m).y]] V fun e w' => e = .returned (.bool (cutN v xs k)) ∧ Below V.heap.size V w' := fun V => by
        rw [hcu]
        exact cutsR_any v (ptAt xs k) (ptAt xs m) V HG.out.2.1 hpg hqg
      obtain ⟨cu, hcc⟩ : ∃ b, b = cutN v xs k := ⟨_, rfl⟩
      rw [← hcc] at kC
      generalize (ptAt xs k).x = ax at *
      generalize (ptAt xs k).y = ay at *
      generalize (ptAt xs m).x = bx at *
      generalize (ptAt xs m).y = b_y at *
      have HC := Lib.hid kC
      have HCC := Lib.hid hcc
      have hP : w.heap.size < wr.heap.size ∧ (ad.add (k * 2)).block < wr.heap.size ∧ (ad.add (m * 2)).block < wr.heap.size := ⟨hW.2.2.2.2, by rw [block_of_add]; have := hbel.size; omega, by rw [block_of_add]; have := hbel.size; omega⟩
      have hH0 : wr.drew.cell? ⟨w.heap.size, 0, none⟩ = some (.int .i64 v.lx) ∧ wr.drew.cell? ⟨w.heap.size, 1, none⟩ = some (.int .i64 v.ly) ∧ wr.drew.cell? ⟨w.heap.size, 2, none⟩ = some (.int .i64 v.hx) ∧ wr.drew.cell? ⟨w.heap.size, 3, none⟩ = some (.int .i64 v.hy) ∧ wr.drew.cell? (ad.add (k * 2)) = some (.int .i64 ax) ∧ wr.drew.cell? ⟨(ad.add (k * 2)).block, (ad.add (k * 2)).off + 1, none⟩ = some (.int .i64 ay) ∧ wr.drew.cell? (ad.add (m * 2)) = some (.int .i64 bx) ∧ wr.drew.cell? ⟨(ad.add (m * 2)).block, (ad.add (m * 2)).off + 1, none⟩ = some (.int .i64 b_y) ∧ Below wr.heap.size wr wr.drew := ⟨hW.1, hW.2.1, hW.2.2.1, hW.2.2.2.1, r1, r2, t1, t2, (Below.refl _ _).drew⟩
      have HB := Lib.hid (And.intro hbel hW)
      clear hcu hcc kC hpg hqg hm hA hbd r1 r2 t1 t2 hbel hW
      go_wp2_with fail
      go_region_held3 (fun V => V.cell? ⟨w.heap.size, 0, none⟩ = some (.int .i64 v.lx) ∧ V.cell? ⟨w.heap.size, 1, none⟩ = some (.int .i64 v.ly) ∧ V.cell? ⟨w.heap.size, 2, none⟩ = some (.int .i64 v.hx) ∧ V.cell? ⟨w.heap.size, 3, none⟩ = some (.int .i64 v.hy) ∧ V.cell? (ad.add (k * 2)) = some (.int .i64 ax) ∧ V.cell? ⟨(ad.add (k * 2)).block, (ad.add (k * 2)).off + 1, none⟩ = some (.int .i64 ay) ∧ V.cell? (ad.add (m * 2)) = some (.int .i64 bx) ∧ V.cell? ⟨(ad.add (m * 2)).block, (ad.add (m * 2)).off + 1, none⟩ = some (.int .i64 b_y) ∧ Below wr.heap.size wr V)
        (first | with_reducible exact hH0 | with_reducible exact heldW hP (by assumption) (by assumption))
        (first
          | (go_simp; go_at_call 70; (with_reducible refine (HC.out _).mono ?_); rintro e w' ⟨rfl, hb'⟩; try dsimp only))
      clear hH0
      obtain ⟨-, -, -, -, -, -, -, -, hbV⟩ := (by assumption : HoldW wr _ w.heap.size (ad.add (k * 2)) (ad.add (m * 2)) (.int .i64 v.lx) (.int .i64 v.ly) (.int .i64 v.hx) (.int .i64 v.hy) (.int .i64 ax) (.int .i64 ay) (.int .i64 bx) (.int .i64 b_y))
      have hB1 := below_on HB.out.1 (Nat.le_refl _) hbV
      have hW1 := HB.out.2.on hbV
      clear hbV HB
      rcases cu with _ | _
      · have hn2 : Hid (∀ j, j < k + 1 → cutN v xs j = false) := fun j hj => by
          rcases Nat.lt_succ_iff_lt_or_eq.1 hj with h3 | h3
          · exact hnone.out j h3
          · subst h3; exact HCC.out.symm
        go_wp2_with fail
        go_roundw
        case rel => exact ⟨k + 1, by omega, hn2, by go_num, hB1, hW1⟩
        case measure => simp [intOf]; omega
      · have H4 : Hid (res = true) := by show _ = _; rw [HR.out]; exact meetsB_true (.inl ⟨k, by rw [HL.out]; exact hlt, HCC.out.symm⟩)
        go_wp2_with fail
        go_ret
        exact ⟨by rw [H4.out]; rfl, hB1⟩
    · have hkn : k = n := by omega
      subst hkn
      have hs : res = decide (0 ≤ sideI xs v.low) := by rw [HR.out]; exact meetsB_none fun j hj => hnone.out j (by rw [← HL.out]; exact hj)
      have kS : Calls Try.prog 23 #[.slice A k cap, .agg #[.int .i64 v.lx, .int .i64 v.ly]] wr fun e w' => e = .returned (.int .i64 (sideI xs v.low)) ∧ Below wr.heap.size wr w' := sideR_any xs v.low A k cap wr ((HRD.out.below hbel).more hbel.size) hn HG.out.1 HG.out.2.2
      generalize sideI xs v.low = z at *
      have HS := Lib.hid (And.intro hs kS)
      have HB := Lib.hid hbel
      obtain ⟨k1, k2, k3, k4, k5⟩ := hW
      clear hs kS hnone hbel
      go_wp2_with fail
      with_reducible refine HS.out.2.mono ?_
      rintro e w2 ⟨rfl, hb2⟩
      have hB2 := below_on HB.out (Nat.le_refl _) hb2
      clear hb2 HB k1 k2 k3 k4 k5
      go_wp2_with fail
      go_ret
      exact ⟨by rw [HS.out.1]; rfl, hB2⟩
end Go.Proofs.Ytcohioplkchojaa
