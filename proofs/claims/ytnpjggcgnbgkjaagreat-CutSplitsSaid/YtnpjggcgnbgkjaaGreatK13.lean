/- merestoneref02.Check: the walk; What lies beside Side. -/
import Derived.Deep.DeepCutAuto
import Derived.Test.YtnpjggcgnbgkjaaGreatK07
import Derived.Test.YtnpjggcgnbgkjaaGreatK10
import Derived.Test.YtnpjggcgnbgkjaaGreatK11
namespace Go.Proofs.YtnpjggcgnbgkjaaGreat
open Go.RowKit
/-- Eight cells below W's end, as they are in V; and V is W but for new blocks. -/
abbrev Hold8 (W V : World) (p q r s : Addr) (px py qx qy rx ry sx sy : Int) : Prop :=
  V.cell? p = some (.int .i64 px) ∧ V.cell? ⟨p.block, p.off + 1, none⟩ = some (.int .i64 py) ∧ V.cell? q = some (.int .i64 qx) ∧ V.cell? ⟨q.block, q.off + 1, none⟩ = some (.int .i64 qy) ∧
  V.cell? r = some (.int .i64 rx) ∧ V.cell? ⟨r.block, r.off + 1, none⟩ = some (.int .i64 ry) ∧ V.cell? s = some (.int .i64 sx) ∧ V.cell? ⟨s.block, s.off + 1, none⟩ = some (.int .i64 sy) ∧ Below W.heap.size W V
theorem hold8 {W V V' : World} {p q r s : Addr} {px py qx qy rx ry sx sy : Int} (hp : p.block < W.heap.size ∧ q.block < W.heap.size ∧ r.block < W.heap.size ∧ s.block < W.heap.size) (h : Hold8 W V p q r s px py qx qy rx ry sx sy) (hb : Below V.heap.size V V') : Hold8 W V' p q r s px py qx qy rx ry sx sy := by
  obtain ⟨h1, h2, h3, h4, h5, h6, h7, h8, h9⟩ := h
  have := h9.size
  exact ⟨(hb.cell (by omega)).trans h1, (hb.cell (by simp only; omega)).trans h2, (hb.cell (by omega)).trans h3, (hb.cell (by simp only; omega)).trans h4, (hb.cell (by omega)).trans h5, (hb.cell (by simp only; omega)).trans h6, (hb.cell (by omega)).trans h7, (hb.cell (by simp only; omega)).trans h8, below_on h9 (Nat.le_refl _) hb⟩
theorem pt_ext (p q : Pt) : decide (p ≠ q) = decide (¬ (p.x = q.x ∧ p.y = q.y)) := by
  obtain ⟨a, b⟩ := p
  obtain ⟨c, d⟩ := q
  simp
theorem signN {z : Int} (h : 0 < z) : sgI z = 1 := by unfold sgI; rw [if_neg (by omega), if_neg (by omega)]
set_option maxRecDepth 100000 in
set_option maxHeartbeats 3200000 in
theorem checkR_any (xs : List Pt) (A : Option Addr) (n cap : Nat) (w : World) (hr : Reads w w.heap.size 2 A n (ptsV xs)) (hn : n ≤ 9223372036854775807) (hx : ∀ p ∈ xs, p.inI) :
    Calls Tryz.prog 142 #[.slice A n cap] w fun e w' => e = .returned (.int .i64 (checkI xs)) ∧ Below w.heap.size w w' := by
  have hl : xs.length = n := hr.lenPt
  have ka := areaR_any xs A n cap w hr hn hx
  obtain ⟨res, hres⟩ : ∃ r, r = checkI xs := ⟨_, rfl⟩
  rw [← hres]
  by_cases hE : areaE xs = 0
  · obtain ⟨hl128, hg⟩ := areaE_zero hE
    rw [hE, areaV_ok hE] at ka
    have hsm : small (areaZ xs) := by
      have := areaS_bd hg xs.length
      rw [areaS_all] at this
      unfold small
      omega
    have ks : ∀ W, Calls Tryz.prog 206 #[i128 (areaZ xs)] W fun e w' => e = .returned (.int .i64 (sgI (areaZ xs))) ∧ Below W.heap.size W w' := fun W => signR_any _ W hsm
    unfold i128 at ka ks
    obtain ⟨z, hz⟩ : ∃ z, z = areaZ xs := ⟨_, rfl⟩
    rw [← hz] at ka ks
    have HR : Hid ((¬ (3 ≤ xs.length ∧ 0 < areaZ xs ∧ PairsOK xs) → res = 4) ∧ (3 ≤ xs.length ∧ 0 < areaZ xs ∧ PairsOK xs → res = 0)) := ⟨fun h => by rw [hres, checkI_no hE h], fun h => by rw [hres, checkI_ok hE h.1 h.2.1 h.2.2]⟩
    have HZ := Lib.hid hz
    have HL := Lib.hid hl
    have HG := Lib.hid hg
    have HRD := Lib.hid hr
    have HK := Lib.hid (And.intro ka ks)
    have hn128 : n ≤ 128 := by omega
    clear hres hE hg hz hl hr ka ks hsm hx hl128 hn
    go_enter Tryz.func142, Tryz.ntmps142
    go_wp2_with fail
    with_reducible refine HK.out.1.mono ?_
    rintro e w1 ⟨rfl, hb1⟩
    by_cases h3 : n < 3
    · have H4 : Hid (res = 4) := HR.out.1 fun h => by have := h.1; rw [HL.out] at this; omega
      have hd3 : decide ((n : Int) < 3) = true := decide_eq_true (by omega)
      go_wp2_with fail
      go_ret
      exact ⟨by rw [H4.out]; rfl, hb1.alloc hb1.size _⟩
    · have hd3 : decide ((n : Int) < 3) = false := decide_eq_false (by omega)
      by_cases hzp : 0 < z
      · have hs1 := signN hzp
        have HZP := Lib.hid hzp
        clear hzp
        go_wp2_with fail
        with_reducible refine (HK.out.2 _).mono ?_
        rintro e w2 ⟨rfl, hb2⟩
        rw [hs1]
        have hb0 := below_on (hb1.alloc hb1.size (.cells #[.int .i64 (z / 18446744073709551616), .int .u64 (z % 18446744073709551616)] 40)) (Nat.le_refl _) hb2
        clear hb1 hb2 hs1
        go_wp2_with fail
        go_loopw [6] (fun i wr => ∃ k : Nat, k ≤ n ∧ Hid (∀ i j, i < k → i < j → j < n → pairOK xs i j = true) ∧ i = .int .i64 (k : Int) ∧ Below w.heap.size w wr) (fun i _ => n - (intOf i).toNat)
        case atStart => exact ⟨0, Nat.zero_le _, (fun i j hi => absurd hi (by omega)), rfl, hb0⟩
        case round =>
          clear hb0
          obtain ⟨k, hk, hall, rfl, hbel⟩ := hrel
          by_cases hlt : k < n
          · have hw1 : IntKind.i64.wrap ((k : Int) + 1) = (k : Int) + 1 := by rw [IntKind.wrap_i64]; omega
            go_wp2_with fail
            go_loopw [7] (fun j wr => ∃ j' : Nat, k < j' ∧ j' ≤ n ∧ Hid (∀ j, k < j → j < j' → pairOK xs k j = true) ∧ j = .int .i64 (j' : Int) ∧ Below w.heap.size w wr) (fun j _ => n - (intOf j).toNat)
            case atStart => exact ⟨k + 1, by omega, by omega, (fun j h1 h2 => absurd h2 (by omega)), by go_num, hbel⟩
            case round =>
              clear hbel
              obtain ⟨j, hkj, hj, hallj, rfl, hbel⟩ := hrel
              by_cases hltj : j < n
              · have hA := (HRD.out.below hbel)
                obtain ⟨ad, rfl, hbd, -, -, -⟩ := hA.pt hlt
                obtain ⟨m1, hm1⟩ : ∃ m, m = (k + 1) % n := ⟨_, rfl⟩
                obtain ⟨m2, hm2⟩ : ∃ m, m = (j + 1) % n := ⟨_, rfl⟩
                have hl1 : m1 < n := by rw [hm1]; exact Nat.mod_lt _ (by omega)
                have hl2 : m2 < n := by rw [hm2]; exact Nat.mod_lt _ (by omega)
                have ht1 : ((k : Int) + 1).tmod (n : Int) = (m1 : Int) := by rw [mod_tmod, ← hm1]
                have ht2 : ((j : Int) + 1).tmod (n : Int) = (m2 : Int) := by rw [mod_tmod, ← hm2]
                have hw2 : IntKind.i64.wrap ((j : Int) + 1) = (j : Int) + 1 := by rw [IntKind.wrap_i64]; omega
                have hl1' : (m1 : Int) < (n : Int) := by omega
                have hl2' : (m2 : Int) < (n : Int) := by omega
                have hltj' : (j : Int) < (n : Int) := by omega
                have hlt' : (k : Int) < (n : Int) := by omega
                obtain ⟨-, p1, p2⟩ := hA.ptA hlt
                obtain ⟨-, q1, q2⟩ := hA.ptA hl1
                obtain ⟨-, r1, r2⟩ := hA.ptA hltj
                obtain ⟨-, t1, t2⟩ := hA.ptA hl2
                have kM := fun W => meetR8 (ptAt xs k).x (ptAt xs k).y (ptAt xs m1).x (ptAt xs m1).y (ptAt xs j).x (ptAt xs j).y (ptAt xs m2).x (ptAt xs m2).y W (ptAt_good HG.out k) (ptAt_good HG.out m1) (ptAt_good HG.out j) (ptAt_good HG.out m2)
                have hMM : meetR ⟨(ptAt xs k).x, (ptAt xs k).y⟩ ⟨(ptAt xs m1).x, (ptAt xs m1).y⟩ ⟨(ptAt xs j).x, (ptAt xs j).y⟩ ⟨(ptAt xs m2).x, (ptAt xs m2).y⟩ = meetOf xs k j := by unfold meetOf; rw [HL.out, ← hm1, ← hm2]
                obtain ⟨M, hM⟩ : ∃ M, M = meetOf xs k j := ⟨_, rfl⟩
                rw [hMM, ← hM] at kM
                have hpk : pairOK xs k j = (decide (¬ ((ptAt xs k).x = (ptAt xs j).x ∧ (ptAt xs k).y = (ptAt xs j).y)) && decide (M = if nextB n k j = true then 1 else 0)) := by
                  unfold pairOK
                  rw [HL.out, ← hM, pt_ext]
                have HP : Hid (∀ b, pairOK xs k j = b → (b = true → ∀ j', k < j' → j' < j + 1 → pairOK xs k j' = true) ∧ (b = false → res = 4)) := fun b hb => by
                  refine ⟨fun h j' h1 h2 => ?_, fun h => ?_⟩
                  · rcases Nat.lt_succ_iff_lt_or_eq.1 h2 with h3 | h3
                    · exact hallj.out j' h1 h3
                    · subst h3; rw [hb, h]
                  · refine HR.out.1 fun h4 => ?_
                    have := h4.2.2 k j hkj (by rw [HL.out]; exact hltj)
                    rw [hb, h] at this
                    cases this
                rw [hpk] at HP
                generalize (ptAt xs k).x = px at *
                generalize (ptAt xs k).y = py at *
                generalize (ptAt xs m1).x = qx at *
                generalize (ptAt xs m1).y = qy at *
                generalize (ptAt xs j).x = rx at *
                generalize (ptAt xs j).y = ry at *
                generalize (ptAt xs m2).x = tx at *
                generalize (ptAt xs m2).y = ty at *
                obtain ⟨nx, hnx⟩ : ∃ b, b = nextB n k j := ⟨_, rfl⟩
                rw [← hnx] at HP
                have HM := Lib.hid kM
                have hbds : ad.block < wr.heap.size := Nat.lt_of_lt_of_le hbd hbel.size
                have HNX := Lib.hid hnx
                have HBL := Lib.hid (And.intro hbel hbds)
                clear hM hMM hpk kM hnx hm1 hm2 hA hbd hallj hbel hbds
                by_cases hxe : px = rx ∧ py = ry
                · obtain ⟨rfl, rfl⟩ := hxe
                  have H4 : Hid (res = 4) := (HP.out false (by simp)).2 rfl
                  clear HP
                  go_wp2_with fail
                  go_quiet (fail)
                  go_wp2_with fail
                  go_ret
                  exact ⟨by rw [H4.out]; rfl, below_drewN HBL.out.1 _⟩
                · have hne : ((px == rx) = true ∧ (py == ry) = false) ∨ (px == rx) = false := by
                    by_cases h1 : px = rx
                    · by_cases h2 : py = ry
                      · exact absurd ⟨h1, h2⟩ hxe
                      · exact .inl ⟨by simpa using h1, by simpa using h2⟩
                    · exact .inr (by simpa using h1)
                  have HXE := Lib.hid hxe
                  clear hxe
                  go_wp2_with fail
                  go_cut [47] (fun s47 wx => s47 = .bool false ∧ ∃ nq, wx = wr.drewN nq)
                  case first =>
                    rcases hne with ⟨h1, h2⟩ | h1
                    · go_quiet (fail)
                      go_wp2_with fail
                      go_meet
                      exact ⟨rfl, _, rfl⟩
                    · go_quiet (fail)
                      go_wp2_with fail
                      go_meet
                      exact ⟨rfl, _, rfl⟩
                  case rest =>
                    obtain ⟨rfl, nq, rfl⟩ := hcut
                    clear hne
                    obtain ⟨W, hW⟩ : ∃ W, W = wr.drewN nq := ⟨_, rfl⟩
                    have hbW : Below w.heap.size w W := by rw [hW]; exact below_drewN HBL.out.1 _
                    have hdW : ad.block < W.heap.size := by rw [hW]; exact HBL.out.2
                    have hH0 : W.drew.cell? (ad.add (k * 2)) = some (.int .i64 px) ∧ W.drew.cell? ⟨(ad.add (k * 2)).block, (ad.add (k * 2)).off + 1, none⟩ = some (.int .i64 py) ∧ W.drew.cell? (ad.add (m1 * 2)) = some (.int .i64 qx) ∧ W.drew.cell? ⟨(ad.add (m1 * 2)).block, (ad.add (m1 * 2)).off + 1, none⟩ = some (.int .i64 qy) ∧ W.drew.cell? (ad.add (j * 2)) = some (.int .i64 rx) ∧ W.drew.cell? ⟨(ad.add (j * 2)).block, (ad.add (j * 2)).off + 1, none⟩ = some (.int .i64 ry) ∧ W.drew.cell? (ad.add (m2 * 2)) = some (.int .i64 tx) ∧ W.drew.cell? ⟨(ad.add (m2 * 2)).block, (ad.add (m2 * 2)).off + 1, none⟩ = some (.int .i64 ty) ∧ Below W.heap.size W W.drew := by
                      rw [hW]
                      exact ⟨p1, p2, q1, q2, r1, r2, t1, t2, (Below.refl _ _).drew⟩
                    have hP : (ad.add (k * 2)).block < W.heap.size ∧ (ad.add (m1 * 2)).block < W.heap.size ∧ (ad.add (j * 2)).block < W.heap.size ∧ (ad.add (m2 * 2)).block < W.heap.size := by
                      simp only [block_of_add]
                      exact ⟨hdW, hdW, hdW, hdW⟩
                    rw [← hW]
                    have HBW := Lib.hid hbW
                    have hn0 : ¬ (n = 0) := by omega
                    have hn0' : ¬ ((n : Int) = 0) := by omega
                    clear hW hbW hdW HBL p1 p2 q1 q2 r1 r2 t1 t2
                    go_wp2_with fail
                    go_cut [8] (fun s8 wx => s8 = .int .i64 M ∧ Below W.heap.size W wx)
                    case first =>
                      go_region_held3 (fun V => V.cell? (ad.add (k * 2)) = some (.int .i64 px) ∧ V.cell? ⟨(ad.add (k * 2)).block, (ad.add (k * 2)).off + 1, none⟩ = some (.int .i64 py) ∧ V.cell? (ad.add (m1 * 2)) = some (.int .i64 qx) ∧ V.cell? ⟨(ad.add (m1 * 2)).block, (ad.add (m1 * 2)).off + 1, none⟩ = some (.int .i64 qy) ∧ V.cell? (ad.add (j * 2)) = some (.int .i64 rx) ∧ V.cell? ⟨(ad.add (j * 2)).block, (ad.add (j * 2)).off + 1, none⟩ = some (.int .i64 ry) ∧ V.cell? (ad.add (m2 * 2)) = some (.int .i64 tx) ∧ V.cell? ⟨(ad.add (m2 * 2)).block, (ad.add (m2 * 2)).off + 1, none⟩ = some (.int .i64 ty) ∧ Below W.heap.size W V)
                        (first | with_reducible exact hH0 | with_reducible exact hold8 hP (by assumption) (by assumption))
                        (first
                        | (go_simp; go_at_call 68; (with_reducible refine (HM.out _).mono ?_); rintro e w' ⟨rfl, hb'⟩; try dsimp only))
                      all_goals
                        clear hH0
                        obtain ⟨-, -, -, -, -, -, -, -, hbV⟩ := (by assumption : Hold8 W _ (ad.add (k * 2)) (ad.add (m1 * 2)) (ad.add (j * 2)) (ad.add (m2 * 2)) px py qx qy rx ry tx ty)
                        go_wp2_with fail
                        go_meet
                        exact ⟨rfl, hbV⟩
                    case rest =>
                      obtain ⟨rfl, hbV⟩ := hcut
                      have hB5 := Lib.hid (below_on HBW.out (Nat.le_refl _) hbV)
                      clear hbV hH0 hP HBW HM
                      go_upto_region 16 with fail
                      go_cut [9] (fun s9 wx => s9 = .bool nx ∧ wx = wc)
                      case first =>
                        have hw3 : IntKind.i64.wrap ((n : Int) - 1) = (n : Int) - 1 := by rw [IntKind.wrap_i64]; omega
                        clear HP HXE
                        by_cases c1 : j = k + 1
                        · have e1 : ((j : Int) == (k : Int) + 1) = true := beq_iff_eq.mpr (by omega)
                          have ex : Hid (nx = true) := by show _ = _; rw [HNX.out]; unfold nextB; simp [c1]
                          clear c1 HNX
                          go_wp2_with fail
                          go_meet
                          exact ⟨by rw [ex.out], rfl⟩
                        · have e1 : ((j : Int) == (k : Int) + 1) = false := beq_eq_false_iff_ne.mpr (by omega)
                          by_cases c2 : k = 0
                          · have e2 : ((k : Int) == 0) = true := beq_iff_eq.mpr (by omega)
                            by_cases c3 : j = n - 1
                            · have e3 : ((j : Int) == (n : Int) - 1) = true := beq_iff_eq.mpr (by omega)
                              have ex : Hid (nx = true) := by show _ = _; rw [HNX.out]; unfold nextB; rw [decide_eq_false c1, decide_eq_true c2, decide_eq_true c3]; rfl
                              clear c1 c2 c3 HNX
                              go_wp2_with fail
                              go_meet
                              exact ⟨by rw [ex.out], rfl⟩
                            · have e3 : ((j : Int) == (n : Int) - 1) = false := beq_eq_false_iff_ne.mpr (by omega)
                              have ex : Hid (nx = false) := by show _ = _; rw [HNX.out]; unfold nextB; rw [decide_eq_false c1, decide_eq_true c2, decide_eq_false c3]; rfl
                              clear c1 c2 c3 HNX
                              go_wp2_with fail
                              go_meet
                              exact ⟨by rw [ex.out], rfl⟩
                          · have e2 : ((k : Int) == 0) = false := beq_eq_false_iff_ne.mpr (by omega)
                            have ex : Hid (nx = false) := by show _ = _; rw [HNX.out]; unfold nextB; rw [decide_eq_false c1, decide_eq_false c2]; rfl
                            clear c1 c2 HNX
                            go_wp2_with fail
                            go_meet
                            exact ⟨by rw [ex.out], rfl⟩
                      case rest =>
                        obtain ⟨rfl, rfl⟩ := hcut
                        clear HNX
                        rcases nx with _ | _
                        · by_cases m : M = 0
                          · have f0 : (M != 0) = false := by rw [m]; rfl
                            have HN := Lib.hid ((HP.out true (by simp [HXE.out, m])).1 rfl)
                            clear m HP HXE
                            go_wp2_with fail
                            go_roundw
                            case rel => exact ⟨j + 1, by omega, by omega, HN.out, by go_num, hB5.out⟩
                            case measure => simp [intOf]; omega
                          · have f0 : (M != 0) = true := by simpa using m
                            have H4 : Hid (res = 4) := (HP.out false (by simp [m])).2 rfl
                            clear m HP HXE
                            go_wp2_with fail
                            go_ret
                            exact ⟨by rw [H4.out]; rfl, hB5.out⟩
                        · by_cases m : M = 1
                          · have f0 : (M != 1) = false := by rw [m]; rfl
                            have HN := Lib.hid ((HP.out true (by simp [HXE.out, m])).1 rfl)
                            clear m HP HXE
                            go_wp2_with fail
                            go_roundw
                            case rel => exact ⟨j + 1, by omega, by omega, HN.out, by go_num, hB5.out⟩
                            case measure => simp [intOf]; omega
                          · have f0 : (M != 1) = true := by simpa using m
                            have H4 : Hid (res = 4) := (HP.out false (by simp [m])).2 rfl
                            clear m HP HXE
                            go_wp2_with fail
                            go_ret
                            exact ⟨by rw [H4.out]; rfl, hB5.out⟩
              · have hjn : j = n := by omega
                subst hjn
                have HN2 : Hid (∀ i j', i < k + 1 → i < j' → j' < j → pairOK xs i j' = true) := fun i j' h1 h2 h3 => by
                  rcases Nat.lt_succ_iff_lt_or_eq.1 h1 with h4 | h4
                  · exact hall.out i j' h4 h2 h3
                  · subst h4; exact hallj.out j' h2 h3
                clear hall hallj
                go_wp2_with fail
                go_roundw
                case rel => exact ⟨k + 1, by omega, HN2, by go_num, hbel⟩
                case measure => simp [intOf]; omega
          · have hkn : k = n := by omega
            subst hkn
            have H0 : Hid (res = 0) := HR.out.2 ⟨by rw [HL.out]; omega, by rw [← HZ.out]; exact HZP.out, fun i j h1 h2 => hall.out i j (by rw [HL.out] at h2; omega) h1 (by rw [← HL.out]; exact h2)⟩
            clear hall
            go_wp2_with fail
            go_ret
            exact ⟨by rw [H0.out]; rfl, hbel⟩
      · have H4 : Hid (res = 4) := HR.out.1 fun h => by have := h.2.1; rw [← HZ.out] at this; omega
        have hs1 : sgI z = -1 ∨ sgI z = 0 := by unfold sgI; split <;> (try split) <;> omega
        clear hzp
        go_wp2_with fail
        with_reducible refine (HK.out.2 _).mono ?_
        rintro e w2 ⟨rfl, hb2⟩
        have hb0 := below_on (hb1.alloc hb1.size (.cells #[.int .i64 (z / 18446744073709551616), .int .u64 (z % 18446744073709551616)] 40)) (Nat.le_refl _) hb2
        clear hb1 hb2
        rcases hs1 with hs1 | hs1
        all_goals
          rw [hs1]
          clear hs1
          go_wp2_with fail
          go_ret
          exact ⟨by rw [H4.out]; rfl, hb0⟩
  · have he : res = areaE xs := by rw [hres, checkI_err hE]
    have hv : areaV xs = 0 := if_neg hE
    rw [hv, i128_zero, ← he] at ka
    have hne : (res != 0) = true := by rw [he]; simpa using hE
    clear hr hn hx hl hres hE he hv
    go_enter Tryz.func142, Tryz.ntmps142
    go_wp2_with fail
    refine ka.mono ?_
    rintro e w1 ⟨rfl, hb1⟩
    go_wp2_with fail
    go_ret
    exact ⟨rfl, hb1.alloc hb1.size _⟩
end Go.Proofs.YtnpjggcgnbgkjaaGreat
namespace Go.Proofs.YtnpjggcgnbgkjaaGreat
open Go.RowKit
end Go.Proofs.YtnpjggcgnbgkjaaGreat
namespace Go.Proofs.YtnpjggcgnbgkjaaGreat
open Go.RowKit Go.Shelf
attribute [local go_sem] Oper.semAt_some
def oddL (xs : List Pt) (p : Pt) (l : List Nat) : Bool := l.foldl (fun o k => xor o (crE xs p k)) false
theorem oddL_snoc (xs : List Pt) (p : Pt) (l : List Nat) (k : Nat) : oddL xs p (l ++ [k]) = xor (oddL xs p l) (crE xs p k) := by simp [oddL]
theorem oddL_range (xs : List Pt) (p : Pt) (n : Nat) : oddL xs p (List.range n) = oddN xs p n := by
  induction n with
  | zero => rfl
  | succ n ih => rw [List.range_succ, oddL_snoc, ih]; rfl
set_option maxRecDepth 100000 in
set_option maxHeartbeats 1600000 in
theorem side_any (xs : List Pt) (p : Pt) (A : Option Addr) (n cap : Nat) (w : World) (hr : Reads w w.heap.size 2 A n (ptsV xs)) (hn : n ≤ 128) (hg : goodL xs = true) (hp : good p = true) :
    Calls Tryz.prog 189 #[.slice A n cap, ptV p] w fun e w' => e = .returned (.int .i64 (sideI xs p)) ∧ Below w.heap.size w w' := by
  have HG := Lib.hid (And.intro hg hp)
  clear hg hp
  have hbp := PtK.new w p
  unfold ptV
  refine (callsIn_wide (n := 3)).1 ?_
  refine callsIn_of_wp_marks Tryz.func189 rfl trivial ?_ rfl
  simp only [Tryz.ntmps189, List.size_toArray, List.length_cons, List.length_nil, Nat.reduceAdd, Nat.reduceSub, Array.replicate_succ, Array.replicate_zero, List.push_toArray, List.append_toArray, List.nil_append, List.cons_append]
  gi_wp2_with fail
  refine ⟨trivial, ?_⟩
  refine (callsIn_wide.2 (edges_any A n cap _)).mono ?_
  rintro e w3 ⟨rfl, rfl⟩
  gi_wp2_with fail
  have bP := ((hbp.alloc (.cells #[.int .i64 0] 3)).alloc (.cells #[.int .i64 (-1)] 3)).alloc (.cells #[.slice A n cap] 23)
  have bR := ((Boxed.new (w.alloc (.cells #[.int .i64 p.x, .int .i64 p.y] 35)) 3 (.int .i64 0)).alloc (.cells #[.int .i64 (-1)] 3)).alloc (.cells #[.slice A n cap] 23)
  have bI := (Boxed.new ((w.alloc (.cells #[.int .i64 p.x, .int .i64 p.y] 35)).alloc (.cells #[.int .i64 0] 3)) 3 (.int .i64 (-1))).alloc (.cells #[.slice A n cap] 23)
  have bE := Boxed.new (((w.alloc (.cells #[.int .i64 p.x, .int .i64 p.y] 35)).alloc (.cells #[.int .i64 0] 3)).alloc (.cells #[.int .i64 (-1)] 3)) 23 (.slice A n cap)
  simp only [World.size_alloc] at bR bI bE
  have hB0 := ((((Below.refl w.heap.size w).alloc (Nat.le_refl _) (.cells #[.int .i64 p.x, .int .i64 p.y] 35)).alloc (by simp) (.cells #[.int .i64 0] 3)).alloc (by simp; omega) (.cells #[.int .i64 (-1)] 3)).alloc (by simp; omega) (.cells #[.slice A n cap] 23)
  have hr0 := hr.below hB0
  have hz0 : ((((w.alloc (.cells #[.int .i64 p.x, .int .i64 p.y] 35)).alloc (.cells #[.int .i64 0] 3)).alloc (.cells #[.int .i64 (-1)] 3)).alloc (.cells #[.slice A n cap] 23)).heap.size = w.heap.size + 4 := by simp
  generalize (((w.alloc (.cells #[.int .i64 p.x, .int .i64 p.y] 35)).alloc (.cells #[.int .i64 0] 3)).alloc (.cells #[.int .i64 (-1)] 3)).alloc (.cells #[.slice A n cap] 23) = w0 at *
  refine wpIn_rangeFunc_ownH rfl (by omega) (gf := 191) (lb := #[.pointer (some ⟨w.heap.size + 1 + 1 + 1, 0, none⟩)]) rfl trivial (enters_of Tryz.func191 (by kernel_rfl) rfl)
    (edges_stops 2 (by omega) w.heap.size (w.heap.size + 1 + 1 + 1) cap n A xs (by omega) w0 (by omega) (by omega) bE.cell hr0) (fun h k => h.trans k)
    (fun W l o o' hl h _ _ => ⟨by simp, fun i hi => World.putObj_heap_other (by omega)⟩) (Below.refl _ _) (fun _ => rfl)
    (fun pre W => (PtK W w.heap.size p ∧ Boxed W (w.heap.size + 1) 3 (.int .i64 0) ∧ Boxed W (w.heap.size + 1 + 1) 3 (.int .i64 (if oddL xs p pre = true then 1 else -1)) ∧ Boxed W (w.heap.size + 1 + 1 + 1) 23 (.slice A n cap) ∧ ∀ y ∈ pre, onE xs p y = false) ∧ Below w.heap.size w W)
    (fun c pre W => (c = .ret ∧ (∃ y ∈ pre, onE xs p y = true) ∧ Boxed W (w.heap.size + 1) 3 (.int .i64 0)) ∧ Below w.heap.size w W)
    (OwnFrom.and (Own.from (fun s X Y row hs hg hrow => ⟨blk_own _ _ (fun _ : Unit => _) () X Y row hs.1 hg hrow, boxed_own _ _ (fun _ : Unit => _) () X Y row hs.2.1 hg hrow, boxed_own _ _ (fun _ : Unit => _) () X Y row hs.2.2.1 hg hrow, boxed_own _ _ (fun _ : Unit => _) () X Y row hs.2.2.2.1 hg hrow, hs.2.2.2.2⟩) _) (ownFrom_below (Nat.le_refl _) (by omega)))
    (fun c => OwnFrom.and (Own.from (fun s X Y row hs hg hrow => ⟨hs.1, hs.2.1, boxed_own _ _ (fun _ : Unit => _) () X Y row hs.2.2 hg hrow⟩) _) (ownFrom_below (Nat.le_refl _) (by omega)))
    ⟨⟨bP, bR, bI, bE, by simp⟩, hB0⟩
    (fun x a' W => ∃ Bx, Blk W Bx 108 #[.int .i64 (ptAt xs x).x, .int .i64 (ptAt xs x).y, .int .i64 (ptAt xs ((x + 1) % xs.length)).x, .int .i64 (ptAt xs ((x + 1) % xs.length)).y] ∧
      a' = { tmps := #[.slice A n cap, .agg #[.int .i64 p.x, .int .i64 p.y], undef, .pointer (some ⟨w.heap.size, 0, none⟩), .pointer (some ⟨w.heap.size + 1, 0, none⟩), .pointer (some ⟨w.heap.size + 1 + 1, 0, none⟩), undef, .pointer (some ⟨Bx, 0, none⟩), undef, undef, undef, undef, undef, .slice A n cap, .func (.func 191) #[] #[.pointer (some ⟨w.heap.size + 1 + 1 + 1, 0, none⟩)], .int .i64 (x : Int), edgeV (ptAt xs x) (ptAt xs ((x + 1) % xs.length)), undef, undef, undef, undef, undef, undef, undef, undef, undef, undef, undef, undef, undef, undef, undef, undef, undef, undef, undef, undef, undef, undef, undef, undef, undef, undef, undef, undef, undef, undef, undef, undef, undef, undef, undef, undef, undef, undef, undef, undef], defers := [] })
    (fun x a' => fun s X Y row ⟨Bx, hs, e⟩ hg hrow => ⟨Bx, blk_own Bx _ (fun _ : Unit => _) () X Y row hs hg (fun r hr => (hrow r hr).2), e⟩) ?assign ?body ?done ?stop
  case assign =>
    rintro l pre x W K ⟨⟨bP', bR', bI', bE', hne⟩, hB'⟩ hK
    unfold edgeAt edgeV
    gi_wp2
    have hsz := hB'.size
    have hlt := bE'.lt
    refine hK _ _ ((KeepsOthers.alloc _ _).from _) (KeepE.alloc (by omega) hlt _) ⟨⟨bP'.alloc _, bR'.alloc _, bI'.alloc _, bE'.alloc _, hne⟩, hB'.alloc hB'.size _⟩ ⟨W.heap.size, Blk.new W _ _, rfl⟩
  case body =>
    rintro l pre x a' W hl ⟨r, hrr⟩ ⟨⟨bP', bR', bI', bE', hne⟩, hB'⟩ ⟨Bx, hBx, rfl⟩ hlen
    have hon : onE xs p x = onB (ptAt xs x) (ptAt xs ((x + 1) % xs.length)) p := rfl
    have hcr : crE xs p x = crB (ptAt xs x) (ptAt xs ((x + 1) % xs.length)) p := rfl
    have hpg := ptAt_good HG.out.1 x
    have hqg := ptAt_good HG.out.1 ((x + 1) % xs.length)
    have hsn : oddL xs p (pre ++ [x]) = xor (oddL xs p pre) (crE xs p x) := oddL_snoc xs p pre x
    obtain ⟨a, ha⟩ : ∃ a, a = ptAt xs x := ⟨_, rfl⟩
    obtain ⟨b, hb⟩ : ∃ b, b = ptAt xs ((x + 1) % xs.length) := ⟨_, rfl⟩
    rw [← ha, ← hb] at hBx hon hcr
    rw [← ha] at hpg
    rw [← hb] at hqg
    rw [← ha, ← hb]
    clear ha hb
    unfold edgeV
    have kO : ∀ V, Calls Tryz.prog 179 #[.agg #[.int .i64 a.x, .int .i64 a.y], .agg #[.int .i64 b.x, .int .i64 b.y], .agg #[.int .i64 p.x, .int .i64 p.y]] V fun e w' => e = .returned (.tuple #[.bool (onB a b p), .int .i64 0]) ∧ Below V.heap.size V w' := fun V => onW_any a b p V hpg hqg HG.out.2
    have kT : ∀ V, Calls Tryz.prog 245 #[.agg #[.int .i64 a.x, .int .i64 a.y], .agg #[.int .i64 b.x, .int .i64 b.y], .agg #[.int .i64 p.x, .int .i64 p.y]] V fun e w' => e = .returned (.tuple #[.int .i64 (sgn (cr a b p)), .int .i64 0]) ∧ Below V.heap.size V w' := fun V => turnW_any a b p V hpg hqg HG.out.2
    have HK := Lib.hid (And.intro kO (And.intro kT (And.intro hon (And.intro hcr hsn))))
    have hlt := bE'.lt
    have x1 : W.cell? ⟨Bx, 0, none⟩ = some (.int .i64 a.x) := by rw [Blk.cell hBx 0]; rfl
    have x2 : W.cell? ⟨Bx, 1, none⟩ = some (.int .i64 a.y) := by rw [Blk.cell hBx 1]; rfl
    have x3 : W.cell? ⟨Bx, 2, none⟩ = some (.int .i64 b.x) := by rw [Blk.cell hBx 2]; rfl
    have x4 : W.cell? ⟨Bx, 3, none⟩ = some (.int .i64 b.y) := by rw [Blk.cell hBx 3]; rfl
    obtain ⟨p1, p2, -, -, -⟩ := bP'.facts
    clear kO kT hon hcr hsn hpg hqg
    gi_wp2_with fail
    refine ⟨trivial, ?_⟩
    refine (CallsIn.inRound l (callsIn_wide.2 (HK.out.1 W))).mono ?_
    rintro e W1 ⟨rfl, hb1⟩
    have bP1 : PtK W1 w.heap.size p := bP'.on hb1
    have bR1 : Boxed W1 (w.heap.size + 1) 3 (.int .i64 0) := Blk.below bR' hb1 bR'.lt
    have bI1 : Boxed W1 (w.heap.size + 1 + 1) 3 (.int .i64 (if oddL xs p pre = true then 1 else -1)) := Blk.below bI' hb1 bI'.lt
    have bE1 : Boxed W1 (w.heap.size + 1 + 1 + 1) 23 (.slice A n cap) := Blk.below bE' hb1 bE'.lt
    have hBx1 := Blk.below hBx hb1 (Blk.lt hBx)
    have hB1 := below_on hB' (Nat.le_refl _) hb1
    have hE1 : KeepE w.heap.size (w.heap.size + 1 + 1 + 1) W W1 := KeepE.below hb1 (by omega) bE'.lt
    have Hk := Lib.hid (And.intro (keeps_below hb1) (And.intro hE1 (And.intro hB1 hne)))
    clear hE1 hb1 x1 x2 x3 x4 p1 p2 hBx bP' bR' bI' bE' hB' hrr hB1 hne
    rcases hob : onB a b p with _ | _
    · have hfl := Lib.hid ((flip_eq hob).symm.trans (by unfold flipB; rw [decide_eq_decide.mpr (sgn_gt (z := cr a b p)).symm] : flipB a b p = ((decide (p.y < a.y) != decide (p.y < b.y)) && (decide (0 < sgn (cr a b p)) == decide (p.y < b.y)))))
      have HO := Lib.hid hob
      clear hob
      obtain ⟨t, ht⟩ : ∃ t, t = sgn (cr a b p) := ⟨_, rfl⟩
      rw [← ht] at hfl HK
      clear ht
      have x1 : W1.cell? ⟨Bx, 0, none⟩ = some (.int .i64 a.x) := by rw [Blk.cell hBx1 0]; rfl
      have x2 : W1.cell? ⟨Bx, 1, none⟩ = some (.int .i64 a.y) := by rw [Blk.cell hBx1 1]; rfl
      have x3 : W1.cell? ⟨Bx, 2, none⟩ = some (.int .i64 b.x) := by rw [Blk.cell hBx1 2]; rfl
      have x4 : W1.cell? ⟨Bx, 3, none⟩ = some (.int .i64 b.y) := by rw [Blk.cell hBx1 3]; rfl
      obtain ⟨p1, p2, -, -, -⟩ := bP1.facts
      rcases d1 : decide (p.y < b.y) with _ | _
      · rcases d2 : decide (p.y < a.y) with _ | _
        · have hc : Hid (crE xs p x = false) := by show _ = _; rw [HK.out.2.2.2.1, hfl.out, d1, d2]; rfl
          clear hfl
          gi_wp2_with fail
          refine ⟨Hk.out.1.from _, Hk.out.2.1, ⟨bP1, bR1, by rw [HK.out.2.2.2.2, hc.out, Bool.xor_false]; exact bI1, bE1, fun y hy => (List.mem_append.1 hy).elim (Hk.out.2.2.2 y) (fun e => by simp at e; subst e; rw [HK.out.2.2.1, HO.out])⟩, Hk.out.2.2.1⟩
        · gi_wp2_with fail
          refine ⟨trivial, ?_⟩
          refine (CallsIn.inRound l (callsIn_wide.2 (HK.out.2.1 W1))).mono ?_
          rintro e W2 ⟨rfl, hb2⟩
          have bP2 : PtK W2 w.heap.size p := bP1.on hb2
          have bR2 : Boxed W2 (w.heap.size + 1) 3 (.int .i64 0) := Blk.below bR1 hb2 bR1.lt
          have bI2 : Boxed W2 (w.heap.size + 1 + 1) 3 (.int .i64 (if oddL xs p pre = true then 1 else -1)) := Blk.below bI1 hb2 bI1.lt
          have bE2 : Boxed W2 (w.heap.size + 1 + 1 + 1) 23 (.slice A n cap) := Blk.below bE1 hb2 bE1.lt
          have hB2 := below_on Hk.out.2.2.1 (Nat.le_refl _) hb2
          have hE2 : KeepE w.heap.size (w.heap.size + 1 + 1 + 1) W1 W2 := KeepE.below hb2 (by have := bE1.lt; omega) bE1.lt
          have Hk2 := Lib.hid (And.intro (Hk.out.1.trans (keeps_below hb2)) (And.intro (Hk.out.2.1.trans hE2) (And.intro hB2 Hk.out.2.2.2)))
          clear hE2 hb2 x1 x2 x3 x4 p1 p2 hBx1 bP1 bR1 bI1 bE1 hB2 Hk
          rcases d3 : decide (0 < t) with _ | _
          · have hc : Hid (crE xs p x = true) := by show _ = _; rw [HK.out.2.2.2.1, hfl.out, d1, d2, d3]; rfl
            clear hfl
            have i1 := bI2.cell
            have i2 := bI2.frozen
            rcases ho : oddL xs p pre with _ | _
            · rw [ho] at i1
              have hn2 : Hid ((if oddL xs p (pre ++ [x]) = true then (1 : Int) else -1) = 1) := by show _ = _; rw [HK.out.2.2.2.2, hc.out, ho]; rfl
              clear ho
              simp only [if_false, Bool.false_eq_true] at i1
              gi_wp2_with fail
              refine ⟨(Hk2.out.1.trans (KeepsOthers.setCell _ _ _)).from _, Hk2.out.2.1.trans ⟨by simp, fun i hi => Below.heap_setCell _ _ _ i (by simp only; omega)⟩, ⟨Blk.far bP2 (by simp only; omega) _, Blk.far bR2 (by simp only; omega) _, by rw [hn2.out]; exact bI2.set _, Blk.far bE2 (by simp only; omega) _, fun y hy => (List.mem_append.1 hy).elim (Hk2.out.2.2.2 y) (fun e => by simp at e; subst e; rw [HK.out.2.2.1, HO.out])⟩, Hk2.out.2.2.1.setCell (p := ⟨w.heap.size + 1 + 1, 0, none⟩) (by simp only; omega) _⟩
            · rw [ho] at i1
              have hn2 : Hid ((if oddL xs p (pre ++ [x]) = true then (1 : Int) else -1) = -1) := by show _ = _; rw [HK.out.2.2.2.2, hc.out, ho]; rfl
              clear ho
              simp only [if_true] at i1
              gi_wp2_with fail
              refine ⟨(Hk2.out.1.trans (KeepsOthers.setCell _ _ _)).from _, Hk2.out.2.1.trans ⟨by simp, fun i hi => Below.heap_setCell _ _ _ i (by simp only; omega)⟩, ⟨Blk.far bP2 (by simp only; omega) _, Blk.far bR2 (by simp only; omega) _, by rw [hn2.out]; exact bI2.set _, Blk.far bE2 (by simp only; omega) _, fun y hy => (List.mem_append.1 hy).elim (Hk2.out.2.2.2 y) (fun e => by simp at e; subst e; rw [HK.out.2.2.1, HO.out])⟩, Hk2.out.2.2.1.setCell (p := ⟨w.heap.size + 1 + 1, 0, none⟩) (by simp only; omega) _⟩
          · have hc : Hid (crE xs p x = false) := by show _ = _; rw [HK.out.2.2.2.1, hfl.out, d1, d2, d3]; rfl
            clear hfl
            gi_wp2_with fail
            refine ⟨Hk2.out.1.from _, Hk2.out.2.1, ⟨bP2, bR2, by rw [HK.out.2.2.2.2, hc.out, Bool.xor_false]; exact bI2, bE2, fun y hy => (List.mem_append.1 hy).elim (Hk2.out.2.2.2 y) (fun e => by simp at e; subst e; rw [HK.out.2.2.1, HO.out])⟩, Hk2.out.2.2.1⟩
      · rcases d2 : decide (p.y < a.y) with _ | _
        · gi_wp2_with fail
          refine ⟨trivial, ?_⟩
          refine (CallsIn.inRound l (callsIn_wide.2 (HK.out.2.1 W1))).mono ?_
          rintro e W2 ⟨rfl, hb2⟩
          have bP2 : PtK W2 w.heap.size p := bP1.on hb2
          have bR2 : Boxed W2 (w.heap.size + 1) 3 (.int .i64 0) := Blk.below bR1 hb2 bR1.lt
          have bI2 : Boxed W2 (w.heap.size + 1 + 1) 3 (.int .i64 (if oddL xs p pre = true then 1 else -1)) := Blk.below bI1 hb2 bI1.lt
          have bE2 : Boxed W2 (w.heap.size + 1 + 1 + 1) 23 (.slice A n cap) := Blk.below bE1 hb2 bE1.lt
          have hB2 := below_on Hk.out.2.2.1 (Nat.le_refl _) hb2
          have hE2 : KeepE w.heap.size (w.heap.size + 1 + 1 + 1) W1 W2 := KeepE.below hb2 (by have := bE1.lt; omega) bE1.lt
          have Hk2 := Lib.hid (And.intro (Hk.out.1.trans (keeps_below hb2)) (And.intro (Hk.out.2.1.trans hE2) (And.intro hB2 Hk.out.2.2.2)))
          clear hE2 hb2 x1 x2 x3 x4 p1 p2 hBx1 bP1 bR1 bI1 bE1 hB2 Hk
          rcases d3 : decide (0 < t) with _ | _
          · have hc : Hid (crE xs p x = false) := by show _ = _; rw [HK.out.2.2.2.1, hfl.out, d1, d2, d3]; rfl
            clear hfl
            gi_wp2_with fail
            refine ⟨Hk2.out.1.from _, Hk2.out.2.1, ⟨bP2, bR2, by rw [HK.out.2.2.2.2, hc.out, Bool.xor_false]; exact bI2, bE2, fun y hy => (List.mem_append.1 hy).elim (Hk2.out.2.2.2 y) (fun e => by simp at e; subst e; rw [HK.out.2.2.1, HO.out])⟩, Hk2.out.2.2.1⟩
          · have hc : Hid (crE xs p x = true) := by show _ = _; rw [HK.out.2.2.2.1, hfl.out, d1, d2, d3]; rfl
            clear hfl
            have i1 := bI2.cell
            have i2 := bI2.frozen
            rcases ho : oddL xs p pre with _ | _
            · rw [ho] at i1
              have hn2 : Hid ((if oddL xs p (pre ++ [x]) = true then (1 : Int) else -1) = 1) := by show _ = _; rw [HK.out.2.2.2.2, hc.out, ho]; rfl
              clear ho
              simp only [if_false, Bool.false_eq_true] at i1
              gi_wp2_with fail
              refine ⟨(Hk2.out.1.trans (KeepsOthers.setCell _ _ _)).from _, Hk2.out.2.1.trans ⟨by simp, fun i hi => Below.heap_setCell _ _ _ i (by simp only; omega)⟩, ⟨Blk.far bP2 (by simp only; omega) _, Blk.far bR2 (by simp only; omega) _, by rw [hn2.out]; exact bI2.set _, Blk.far bE2 (by simp only; omega) _, fun y hy => (List.mem_append.1 hy).elim (Hk2.out.2.2.2 y) (fun e => by simp at e; subst e; rw [HK.out.2.2.1, HO.out])⟩, Hk2.out.2.2.1.setCell (p := ⟨w.heap.size + 1 + 1, 0, none⟩) (by simp only; omega) _⟩
            · rw [ho] at i1
              have hn2 : Hid ((if oddL xs p (pre ++ [x]) = true then (1 : Int) else -1) = -1) := by show _ = _; rw [HK.out.2.2.2.2, hc.out, ho]; rfl
              clear ho
              simp only [if_true] at i1
              gi_wp2_with fail
              refine ⟨(Hk2.out.1.trans (KeepsOthers.setCell _ _ _)).from _, Hk2.out.2.1.trans ⟨by simp, fun i hi => Below.heap_setCell _ _ _ i (by simp only; omega)⟩, ⟨Blk.far bP2 (by simp only; omega) _, Blk.far bR2 (by simp only; omega) _, by rw [hn2.out]; exact bI2.set _, Blk.far bE2 (by simp only; omega) _, fun y hy => (List.mem_append.1 hy).elim (Hk2.out.2.2.2 y) (fun e => by simp at e; subst e; rw [HK.out.2.2.1, HO.out])⟩, Hk2.out.2.2.1.setCell (p := ⟨w.heap.size + 1 + 1, 0, none⟩) (by simp only; omega) _⟩
        · have hc : Hid (crE xs p x = false) := by show _ = _; rw [HK.out.2.2.2.1, hfl.out, d1, d2]; rfl
          clear hfl
          gi_wp2_with fail
          refine ⟨Hk.out.1.from _, Hk.out.2.1, ⟨bP1, bR1, by rw [HK.out.2.2.2.2, hc.out, Bool.xor_false]; exact bI1, bE1, fun y hy => (List.mem_append.1 hy).elim (Hk.out.2.2.2 y) (fun e => by simp at e; subst e; rw [HK.out.2.2.1, HO.out])⟩, Hk.out.2.2.1⟩
    · have i1 := bR1.cell
      have i2 := bR1.frozen
      clear hBx1 bP1 bI1
      gi_wp2_with fail
      refine ⟨(Hk.out.1.trans (KeepsOthers.setCell _ _ _)).from _, ⟨rfl, ⟨x, by simp, by rw [HK.out.2.2.1, hob]⟩, bR1.set _⟩, Hk.out.2.2.1.setCell (p := ⟨w.heap.size + 1, 0, none⟩) (by simp) _⟩
  case done =>
    rintro D ys W hD rfl ⟨⟨bP', bR', bI', bE', hne⟩, hB'⟩ hK
    have hl : xs.length = n := hr.lenPt
    have hs : sideI xs p = if oddL xs p (List.range n) = true then 1 else -1 := by
      rw [sideI_off (fun y hy => hne y (List.mem_range.2 (by omega))), hl, oddL_range]
    obtain ⟨z, hz⟩ : ∃ z : Int, z = if oddL xs p (List.range n) = true then 1 else -1 := ⟨_, rfl⟩
    rw [← hz] at hs bI'
    have HS := Lib.hid hs
    have i1 := bI'.cell
    have i2 := bR'.frozen
    have i3 := bR'.cell
    clear hz hs hne hl
    gi_wp2_with fail
    have hK' := (KeepsOthers.setCell W ⟨w.heap.size + 1, 0, none⟩ (.int .i64 z)).same D _ hK rfl
    refine ⟨by simp, .inl ⟨_, _, rfl, run_takeDeferred hK', ?_⟩⟩
    have hc5 := cell_kept (bR'.set (.int .i64 z)).cell (grownBy_putObj' _ D (.deferred none)) (fun r e => by cases e; exact ⟨_, hK', rfl⟩)
    refine ⟨.int .i64 z, ?_, by rw [HS.out], (hB'.setCell (p := ⟨w.heap.size + 1, 0, none⟩) (by simp) _).trans (belowK_b (w := w) (Nat.le_refl _) _ D _ _ (by omega) hK' rfl rfl)⟩
    simp [results, Tryz.results189, go_sem, hc5]
  case stop =>
    rintro D c pre W hD ⟨k, hk, rfl⟩ ⟨⟨rfl, ⟨y, hy, hon⟩, bR'⟩, hB'⟩ hK
    have hl : xs.length = n := hr.lenPt
    have hs : sideI xs p = 0 := sideI_on (k := y) (by rw [List.mem_range] at hy; omega) hon
    have i3 := bR'.cell
    gi_wp2
    refine ⟨by simp, .inl ⟨_, _, rfl, run_takeDeferred hK, ?_⟩⟩
    have hc5 := cell_kept i3 (grownBy_putObj' _ D (.deferred none)) (fun r e => by cases e; exact ⟨_, hK, rfl⟩)
    refine ⟨.int .i64 0, ?_, by rw [hs], hB'.trans (belowK_b (w := w) (Nat.le_refl _) W D _ _ (by omega) hK rfl rfl)⟩
    simp [results, Tryz.results189, go_sem, hc5]
end Go.Proofs.YtnpjggcgnbgkjaaGreat
