/- What lies beside CheckR. -/
import Derived.BigRegion
import Derived.KernelRfl
import Derived.Test.YtglnklfhgdjccaaGreatGeoHit
import Derived.Test.YtglnklfhgdjccaaGreatArea2
namespace Go.Proofs.YtglnklfhgdjccaaGreat
open Go.RowKit
end Go.Proofs.YtglnklfhgdjccaaGreat
namespace Go.Proofs.YtglnklfhgdjccaaGreat
open Go.RowKit
set_option maxRecDepth 100000 in
set_option maxHeartbeats 3200000 in
theorem sideR_any (xs : List Pt) (p : Pt) (A : Option Addr) (n cap : Nat) (w : World) (hr : Reads w w.heap.size 2 A n (ptsV xs)) (hn : n ≤ 128) (hg : goodL xs = true) (hp : good p = true) :
    Calls Tryz.prog 50 #[.slice A n cap, ptV p] w fun e w' => e = .returned (.int .i64 (sideI xs p)) ∧ Below w.heap.size w w' := by
  have hl : xs.length = n := hr.lenPt
  obtain ⟨res, hres⟩ : ∃ r, r = sideI xs p := ⟨_, rfl⟩
  rw [← hres]
  have HR := Lib.hid hres
  have HL := Lib.hid hl
  have HG := Lib.hid (And.intro hg hp)
  have HRD := Lib.hid hr
  clear hres hg hp hl hr
  unfold ptV
  go_enter Tryz.func50, Tryz.ntmps50
  go_wp2_with fail
  have hb0 := (Below.refl w.heap.size w).alloc (Nat.le_refl _) (.cells #[.int .i64 p.x, .int .i64 p.y] 43)
  have hP0 := PtK.new w p
  go_loopw [5, 6] (fun o i wr => ∃ k : Nat, k ≤ n ∧ Hid (noneN xs p k) ∧ o = .bool (oddN xs p k) ∧ i = .int .i64 (k : Int) ∧ Below w.heap.size w wr ∧ PtK wr w.heap.size p) (fun _ i _ => n - (intOf i).toNat)
  case atStart => exact ⟨0, Nat.zero_le _, (fun i hi => absurd hi (by omega)), rfl, rfl, hb0, hP0⟩
  case round =>
    clear hb0 hP0
    obtain ⟨k, hk, hnone, rfl, rfl, hbel, hP⟩ := hrel
    by_cases hlt : k < n
    · have hA := HRD.out.below hbel
      obtain ⟨ad, rfl, hbd, -, -, -⟩ := hA.pt hlt
      obtain ⟨m, hm⟩ : ∃ m, m = (k + 1) % n := ⟨_, rfl⟩
      have hl1 : m < n := by rw [hm]; exact Nat.mod_lt _ (by omega)
      have ht1 : ((k : Int) + 1).tmod (n : Int) = (m : Int) := by rw [mod_tmod, ← hm]
      have hw1 : IntKind.i64.wrap ((k : Int) + 1) = (k : Int) + 1 := by rw [IntKind.wrap_i64]; omega
      have hl1' : (m : Int) < (n : Int) := by omega
      have hlt' : (k : Int) < (n : Int) := by omega
      obtain ⟨-, p1, p2⟩ := hA.ptA hlt
      obtain ⟨-, q1, q2⟩ := (HRD.out.below (hbel.alloc hbel.size (.cells #[.int .i64 (ptAt xs k).x, .int .i64 (ptAt xs k).y] 43))).ptA hl1
      have hpg := ptAt_good HG.out.1 k
      have hqg := ptAt_good HG.out.1 m
      have hon : onE xs p k = onB (ptAt xs k) (ptAt xs m) p := by unfold onE; rw [HL.out, ← hm]
      have hcr : crE xs p k = crB (ptAt xs k) (ptAt xs m) p := by unfold crE; rw [HL.out, ← hm]
      have hodd : oddN xs p (k + 1) = xor (oddN xs p k) (crE xs p k) := rfl
      rw [hcr] at hodd
      have HO := Lib.hid (And.intro hon hodd)
      have hbds : ad.block < wr.heap.size := Nat.lt_of_lt_of_le hbd hbel.size
      have HN := Lib.hid hnone
      clear hon hodd hcr hm hA hnone hbd
      obtain ⟨a, ha⟩ : ∃ a, a = ptAt xs k := ⟨_, rfl⟩
      obtain ⟨b, hb⟩ : ∃ b, b = ptAt xs m := ⟨_, rfl⟩
      rw [← ha] at p1 p2 q1 q2 hpg HO
      rw [← hb] at q1 q2 hqg HO
      clear ha hb
      have HPQ := Lib.hid (And.intro hpg hqg)
      have hA1 := PtK.new wr a
      have hB1 := PtK.new (wr.alloc (.cells #[.int .i64 a.x, .int .i64 a.y] 43)) b
      have HAB := Lib.hid (And.intro ((hA1).alloc (.cells #[.int .i64 b.x, .int .i64 b.y] 43)) (And.intro hB1 (And.intro ((hP.alloc (.cells #[.int .i64 a.x, .int .i64 a.y] 43)).alloc (.cells #[.int .i64 b.x, .int .i64 b.y] 43)) ((hbel.alloc hbel.size (.cells #[.int .i64 a.x, .int .i64 a.y] 43)).alloc (by have := hbel.size; simp; omega) (.cells #[.int .i64 b.x, .int .i64 b.y] 43)))))
      have hlt2 : w.heap.size < wr.heap.size := (Blk.lt hP)
      clear hA1 hB1 hpg hqg hP hbel
      generalize hodd0 : oddN xs p k = o at *
      clear hodd0
      go_upto_region 7 with fail
      obtain ⟨kA, kB, kP, kW⟩ := HAB.out
      rw [World.size_alloc] at kB
      clear HAB p1 p2 q1 q2
      generalize (wr.alloc (.cells #[.int .i64 a.x, .int .i64 a.y] 43)).alloc (.cells #[.int .i64 b.x, .int .i64 b.y] 43) = W at *
      have kO : Calls Tryz.prog 94 #[.agg #[.int .i64 a.x, .int .i64 a.y], .agg #[.int .i64 b.x, .int .i64 b.y], .agg #[.int .i64 p.x, .int .i64 p.y]] W fun e w' => e = .returned (.bool (onB a b p)) ∧ Below W.heap.size W w' := onR6 a.x a.y b.x b.y p.x p.y W HPQ.out.1 HPQ.out.2 HG.out.2
      have HC := Lib.hid kO
      have kc : 0 < cr a b p ∨ ¬ 0 < cr a b p := by omega
      clear kO
      obtain ⟨a1, a2, -, -, -⟩ := kA.facts
      obtain ⟨b1, b2, -, -, -⟩ := kB.facts
      obtain ⟨p1, p2, -, -, -⟩ := kP.facts
      go_wp2_with fail
      with_reducible refine HC.out.mono ?_
      rintro e W1 ⟨rfl, hb1⟩
      replace kA : PtK W1 wr.heap.size a := kA.on hb1
      replace kB : PtK W1 (wr.heap.size + 1) b := kB.on hb1
      replace kP : PtK W1 w.heap.size p := kP.on hb1
      have kW1 := below_on kW (Nat.le_refl _) hb1
      clear HC hb1 kW a1 a2 b1 b2 p1 p2
      rcases hob : onB a b p with _ | _
      · have HN1 : Hid (noneN xs p (k + 1)) := noneN_succ HN.out.out (by rw [HO.out.1, hob])
        have HO2 := Lib.hid HO.out.2
        have hfl := Lib.hid hob
        clear HN HO hob
        have kz : wr.heap.size + 1 < W1.heap.size := Blk.lt kB
        obtain ⟨lo, hlo⟩ : ∃ l, l = if b.y < a.y then b else a := ⟨_, rfl⟩
        obtain ⟨hi, hhi⟩ : ∃ l, l = if b.y < a.y then a else b := ⟨_, rfl⟩
        have HLH := Lib.hid (And.intro hlo hhi)
        have HK := Lib.hid (And.intro kA (And.intro kB (And.intro kP kW1)))
        clear hlo hhi
        obtain ⟨a1, a2, -, -, a3⟩ := kA.facts
        obtain ⟨b1, b2, -, -, b3⟩ := kB.facts
        go_upto_if 36 with fail
        clear a1 a2 a3 b1 b2 b3 kA kB kP kW1
        go_cut [9] (fun s9 wx => PtK wx wr.heap.size lo ∧ PtK wx (wr.heap.size + 1) hi ∧ PtK wx w.heap.size p ∧ Below w.heap.size w wx)
        case first =>
          by_cases hsw : b.y < a.y
          · have hl1 : Hid (lo = b ∧ hi = a) := ⟨by rw [HLH.out.1, if_pos hsw], by rw [HLH.out.2, if_pos hsw]⟩
            clear HLH
            obtain ⟨kA, kB, kP, kW1⟩ := HK.out
            obtain ⟨a1, a2, a4, a5, a3⟩ := kA.facts
            obtain ⟨b1, b2, b4, b5, b3⟩ := kB.facts
            clear kA kB kP kW1
            go_wp2_with fail
            go_meet
            obtain ⟨kA, kB, kP, kW1⟩ := HK.out
            rw [hl1.out.1, hl1.out.2]
            refine ⟨PtK.alloc (((kA.put b).far (by simp only; omega) _).far (by simp only; omega) _) _, PtK.alloc (((kB.far (by simp only; omega) _).far (by simp only; omega) _).put a) _, PtK.alloc ((((kP.far (by simp only; omega) _).far (by simp only; omega) _).far (by simp only; omega) _).far (by simp only; omega) _) _, (below_put2 (below_put2 kW1 (by omega) _ _) (by omega) _ _).alloc (by simp; omega) _⟩
          · have hl1 : Hid (lo = a ∧ hi = b) := ⟨by rw [HLH.out.1, if_neg hsw], by rw [HLH.out.2, if_neg hsw]⟩
            clear HLH
            go_wp2_with fail
            go_meet
            rw [hl1.out.1, hl1.out.2]
            exact HK.out
        case rest =>
          obtain ⟨kA, kB, kP, kW1⟩ := hcut
          have hcb : crB a b p = (decide (lo.y ≤ p.y) && (decide (p.y < hi.y) && decide (0 < cr lo hi p))) := by
            rw [HLH.out.1, HLH.out.2]
            unfold crB
            split <;> rfl
          have hgl : good lo = true := by rw [HLH.out.1]; split; exact HPQ.out.2; exact HPQ.out.1
          have hgh : good hi = true := by rw [HLH.out.2]; split; exact HPQ.out.1; exact HPQ.out.2
          obtain ⟨t, ht⟩ : ∃ t, t = sgn (cr lo hi p) := ⟨_, rfl⟩
          have kT : Calls Tryz.prog 95 #[.agg #[.int .i64 lo.x, .int .i64 lo.y], .agg #[.int .i64 hi.x, .int .i64 hi.y], .agg #[.int .i64 p.x, .int .i64 p.y]] wc fun e w' => e = .returned (.int .i64 t) ∧ Below wc.heap.size wc w' := by rw [ht]; exact turnR6 lo.x lo.y hi.x hi.y p.x p.y wc hgl hgh HG.out.2
          have hct : decide (0 < cr lo hi p) = decide (0 < t) := by rw [ht]; exact decide_eq_decide.mpr sgn_gt.symm
          rw [hct] at hcb
          have HC := Lib.hid (And.intro kT hcb)
          have HK2 := Lib.hid (And.intro kP kW1)
          clear HLH HK hfl kc hgl hgh ht kT hct hcb kz
          obtain ⟨a1, a2, -, -, -⟩ := kA.facts
          obtain ⟨b1, b2, -, -, -⟩ := kB.facts
          obtain ⟨p1, p2, -, -, -⟩ := kP.facts
          clear kA kB kP kW1
          by_cases c1 : lo.y ≤ p.y
          · by_cases c2 : p.y < hi.y
            · go_wp2_with fail
              with_reducible refine HC.out.1.mono ?_
              rintro e W2 ⟨rfl, hb2⟩
              have HP2 := Lib.hid (And.intro (HK2.out.1.on hb2) (below_on HK2.out.2 (Nat.le_refl _) hb2))
              clear hb2 a1 a2 b1 b2 p1 p2
              by_cases c3 : 0 < t
              · have ho : Hid (oddN xs p (k + 1) = !o) := by show _ = _; rw [HO2.out, HC.out.2, decide_eq_true c1, decide_eq_true c2, decide_eq_true c3]; cases o <;> rfl
                have hw9 := hw1
                go_wp2_with fail
                go_roundw
                case rel => exact ⟨k + 1, by omega, HN1, by rw [ho.out], by go_num, HP2.out.2, HP2.out.1⟩
                case measure => simp [intOf]; omega
              · have ho : Hid (oddN xs p (k + 1) = o) := by show _ = _; rw [HO2.out, HC.out.2, decide_eq_true c1, decide_eq_true c2, decide_eq_false c3]; cases o <;> rfl
                go_wp2_with fail
                go_roundw
                case rel => exact ⟨k + 1, by omega, HN1, by rw [ho.out], by go_num, HP2.out.2, HP2.out.1⟩
                case measure => simp [intOf]; omega
            · have ho : Hid (oddN xs p (k + 1) = o) := by show _ = _; rw [HO2.out, HC.out.2, decide_eq_false c2, Bool.false_and, Bool.and_false]; cases o <;> rfl
              go_wp2_with fail
              go_roundw
              case rel => exact ⟨k + 1, by omega, HN1, by rw [ho.out], by go_num, HK2.out.2, HK2.out.1⟩
              case measure => simp [intOf]; omega
          · have ho : Hid (oddN xs p (k + 1) = o) := by show _ = _; rw [HO2.out, HC.out.2, decide_eq_false c1, Bool.false_and]; cases o <;> rfl
            go_wp2_with fail
            go_roundw
            case rel => exact ⟨k + 1, by omega, HN1, by rw [ho.out], by go_num, HK2.out.2, HK2.out.1⟩
            case measure => simp [intOf]; omega
      · have H4 : Hid (res = 0) := by show _ = _; rw [HR.out]; exact sideI_on (by rw [HL.out]; exact hlt) (by rw [HO.out.1, hob])
        clear hob
        go_wp2_with fail
        go_ret
        exact ⟨by rw [H4.out]; rfl, kW1⟩
    · have hkn : k = n := by omega
      subst hkn
      have HN := Lib.hid hnone
      clear hnone
      rcases hod : oddN xs p k with _ | _
      · have H4 : Hid (res = -1) := by show _ = _; rw [HR.out, sideI_off (by rw [HL.out]; exact HN.out), HL.out, hod]; rfl
        clear hod
        go_wp2_with fail
        go_ret
        exact ⟨by rw [H4.out]; rfl, hbel⟩
      · have H4 : Hid (res = 1) := by show _ = _; rw [HR.out, sideI_off (by rw [HL.out]; exact HN.out), HL.out, hod]; rfl
        clear hod
        go_wp2_with fail
        go_ret
        exact ⟨by rw [H4.out]; rfl, hbel⟩
end Go.Proofs.YtglnklfhgdjccaaGreat
