/- slices.Clone, slices.Reverse at a ring, and ring.Turned; What lies beside CheckR. -/
import Derived.Shelf.SlicesQ.Reverse
import Derived.Lib.SliceRun
import Derived.BigRegion
import Derived.KernelRfl
import Derived.Test.YtnpjggcgnbgkjaaGreatK07
import Derived.Test.YtnpjggcgnbgkjaaGreatK08
import Derived.Test.YtnpjggcgnbgkjaaGreatK10
namespace Go.Proofs.YtnpjggcgnbgkjaaGreat
open Go.RowKit Go.Shelf Go.Sort
def revPt_ren : Go.Shelf.Ren := ⟨fun | 35 => 204 | n => n, fun | 0 => 0 | 3 => 3 | 4 => 4 | 22 => 23 | 23 => 35 | n => n, fun | n => n⟩
theorem revPt : Go.Proofs.SlLaysE0.n35 Tryz.prog revPt_ren := {
  mixed := by kernel_rfl
  f35 := ⟨Tryz.f204.name, by decide, Tryz.func204.trans (congrArg some (by kernel_rfl))⟩
  t0 := Tryz.underlying0
  a0 := Tryz.isAgg0
  z0 := Tryz.sizeOf0
  v0 := Tryz.zeroValue0
  t3 := Tryz.underlying3
  a3 := Tryz.isAgg3
  z3 := Tryz.sizeOf3
  v3 := Tryz.zeroValue3
  t4 := Tryz.underlying4
  a4 := Tryz.isAgg4
  z4 := Tryz.sizeOf4
  v4 := Tryz.zeroValue4
  t22 := Tryz.underlying23
  a22 := Tryz.isAgg23
  z22 := Tryz.sizeOf23
  v22 := Tryz.zeroValue23
}
theorem cloneT_any (xs : List Pt) (A : Option Addr) (n cap : Nat) (w : World) (hr : Reads w w.heap.size 2 A n (ptsV xs)) (hn : n ≤ 8796093022208) :
    Calls Tryz.prog 174 #[.slice A n cap] w fun e w' => ∃ A' c, e = .returned (.slice A' n c) ∧ w'.ownsRow w.heap.size 35 2 (.slice A' n c) n (ptsV xs) ∧ Below w.heap.size w w' := by
  obtain ⟨i0, hi0, hz0, hz1, hz2⟩ := info_parts info_pt
  have hl : xs.length = n := hr.lenPt
  rcases A with _ | a
  · have h0 : n = 0 := by
      rcases Nat.eq_zero_or_pos n with h0 | h0
      · exact h0
      · obtain ⟨ad, h, _⟩ := hr.2 h0; cases h
    subst h0
    obtain rfl := List.eq_nil_of_length_eq_zero hl
    have heq := fun (W : World) => Lib.run_eql_slice_nil (P := Tryz.prog) W 23 35 none 0 cap 0 0 Tryz.underlying23
    clear hr
    go_enter Tryz.func174, Tryz.ntmps174
    go_wp2_with fail
    go_ret
    exact ⟨none, 0, rfl, World.ownsRow_nil _ _ _ _, Below.refl _ _⟩
  · have heq := fun (W : World) => Lib.run_eql_slice_nil (P := Tryz.prog) W 23 35 (some a) n cap 0 0 Tryz.underlying23
    have hown0 := World.ownsRow_made (base := w.heap.size) (e := 35) (size := 2) w #[] 0 (Nat.le_refl _) (by simp [maxLen]) rfl
    have hb0 : Below w.heap.size w (w.alloc (.cells #[] 35)) := (Below.refl _ _).alloc (Nat.le_refl _) _
    have hrd := hr.below hb0
    clear hr
    go_enter Tryz.func174, Tryz.ntmps174
    go_wp2_with (at_builtin; refine wpList_append_any _ rfl (.tmp 5) (.tmp 6) _ rfl w.heap.size 35 i0 _ 2 16 Tryz.underlying23 hi0 hz0 hz1 hz2 rfl (by omega) (.slice (some ⟨w.heap.size, 0, none⟩) 0 0) 0 [] rfl hown0 w.heap.size (some a) n cap (ptsV xs) rfl hrd (ptsV_one xs) (by simp only [maxLen]; omega) (by omega) (by simp) ?_
                 intro v2 w2 hown2 hg2 hat2)
    go_ret
    rw [Nat.zero_add, List.nil_append] at hown2
    have hb2 : Below w.heap.size w w2 := hb0.grown hg2 hb0.size (by intro k hk; simp [Value.ownBlock] at hk; omega)
    obtain ⟨A2, c2, rfl⟩ := own_form hown2
    exact ⟨_, _, rfl, hown2, hb2⟩
theorem revPt_any (d : List Pt) (A : Option Addr) (n cap base : Nat) (w : World) (hown : w.ownsRow base 35 2 (.slice A n cap) n (ptsV d)) (hn : n ≤ 8796093022208) :
    Calls Tryz.prog 204 #[.slice A n cap] w fun e w' => e = .returned (.tuple #[]) ∧ Reads w' w'.heap.size 2 A n (ptsV d.reverse) ∧ ∀ b, b ≤ base → b ≤ w.heap.size → Below b w w' := by
  have hl : d.length = n := by have h := hown.1; rw [ptsV_length] at h; omega
  rcases hown.2 with ⟨hA, h0⟩ | ⟨g, c, cur, hA, hbase, -⟩
  · subst h0
    injection hA with hA
    subst hA
    obtain rfl := List.eq_nil_of_length_eq_zero hl
    refine (AnyQ.slices_Reverse_empty revPt none cap w).mono ?_
    rintro e w' ⟨rfl, rfl⟩
    exact ⟨rfl, Reads.of_own hown, fun b _ _ => Below.refl _ _⟩
  · injection hA with hA
    subst hA
    have hg : g < w.heap.size := (hown.lt g rfl).2
    have hH := holdsK_own hown
    have hcon := AnyQ.slices_Reverse revPt 2 Tryz.isAgg35 Tryz.sizeOf35 encPt (fun _ => rfl) (fun x v hv => by simp [encPt] at hv; rcases hv with rfl | rfl <;> rfl) g 0 cap d.toArray w hH (by simp; omega)
    change Calls Tryz.prog 204 _ _ _ at hcon
    rw [List.size_toArray, hl] at hcon
    refine hcon.mono ?_
    rintro e w' ⟨rfl, m, rfl⟩
    have hHm : HoldsK encPt 2 (Sort.ahead w m) g 0 d.toArray := holdsK_ahead encPt 2 w m g 0 d.toArray hH
    have hH' := holdsK_putRowK (enc := encPt) (k := 2) (Sort.ahead w m) g 0 d.toArray d.toArray.reverse hHm (by simp)
    have hsz : (putRowK encPt 2 (Sort.ahead w m) g 0 d.toArray.reverse).heap.size = w.heap.size := by simp [putRowK, putRow, mapBlock, Sort.ahead]
    refine ⟨rfl, ?_, ?_⟩
    · rw [show n = d.reverse.length by simp; omega]
      exact reads_holdsK (by rw [hsz]; exact hg) (by simpa using hH')
    · intro b hb1 hb2
      have hgr : w.grownBy (putRowK encPt 2 (Sort.ahead w m) g 0 d.toArray.reverse) (some g) := by
        refine ⟨rfl, rfl, rfl, by rw [hsz]; exact Nat.le_refl _, fun k hk hne => ?_⟩
        have : g ≠ k := fun e => hne (by rw [e])
        simp [putRowK, putRow, mapBlock, Sort.ahead, Array.getElem?_modify, this]
      exact (Below.refl _ _).grown hgr hb2 (fun k e => by cases e; omega)
theorem turned_any (xs : List Pt) (A : Option Addr) (n cap : Nat) (w : World) (hr : Reads w w.heap.size 2 A n (ptsV xs)) (hn : n ≤ 8796093022208) :
    Calls Tryz.prog 132 #[.slice A n cap] w fun e w' => ∃ A' c, e = .returned (.slice A' n c) ∧ Reads w' w'.heap.size 2 A' n (ptsV xs.reverse) ∧ Below w.heap.size w w' := by
  have HK := Lib.hid (cloneT_any xs A n cap w hr hn)
  clear hr
  go_enter Tryz.func132, Tryz.ntmps132
  go_wp2_with fail
  refine HK.out.mono ?_
  rintro e w1 ⟨A1, c1, rfl, ho, hb⟩
  have HB := Lib.hid hb
  have HR := Lib.hid (revPt_any xs A1 n c1 w.heap.size w1 ho hn)
  clear ho hb HK
  go_wp2_with fail
  refine HR.out.mono ?_
  rintro e w2 ⟨rfl, hrd, hb2⟩
  have HD := Lib.hid (And.intro hrd (HB.out.trans (hb2 _ (Nat.le_refl _) HB.out.size)))
  clear hrd hb2 HB HR
  go_wp2_with fail
  go_ret
  exact ⟨A1, c1, rfl, HD.out⟩
end Go.Proofs.YtnpjggcgnbgkjaaGreat
namespace Go.Proofs.YtnpjggcgnbgkjaaGreat
open Go.RowKit
end Go.Proofs.YtnpjggcgnbgkjaaGreat
namespace Go.Proofs.YtnpjggcgnbgkjaaGreat
open Go.RowKit
set_option maxRecDepth 100000 in
set_option maxHeartbeats 3200000 in
theorem sideR_any (xs : List Pt) (p : Pt) (A : Option Addr) (n cap : Nat) (w : World) (hr : Reads w w.heap.size 2 A n (ptsV xs)) (hn : n ≤ 128) (hg : goodL xs = true) (hp : good p = true) :
    Calls Tryz.prog 44 #[.slice A n cap, ptV p] w fun e w' => e = .returned (.int .i64 (sideI xs p)) ∧ Below w.heap.size w w' := by
  have hl : xs.length = n := hr.lenPt
  obtain ⟨res, hres⟩ : ∃ r, r = sideI xs p := ⟨_, rfl⟩
  rw [← hres]
  have HR := Lib.hid hres
  have HL := Lib.hid hl
  have HG := Lib.hid (And.intro hg hp)
  have HRD := Lib.hid hr
  clear hres hg hp hl hr
  unfold ptV
  go_enter Tryz.func44, Tryz.ntmps44
  go_wp2_with fail
  have hb0 := (Below.refl w.heap.size w).alloc (Nat.le_refl _) (.cells #[.int .i64 p.x, .int .i64 p.y] 35)
  have hP0 := PtK.new w p
  go_loopw [5, 6] (fun o i wr => ∃ k : Nat, k ≤ n ∧ Hid (noneN xs p k) ∧ o = .bool (oddN xs p k) ∧ i = .int .i64 (k : Int) ∧ Below w.heap.size w wr ∧ PtK wr w.heap.size p) (fun _ i _ => n - (intOf i).toNat)
  case atStart => exact ⟨0, Nat.zero_le _, (fun i hi => absurd hi (by omega)), rfl, rfl, hb0, hP0⟩
  case round =>
    clear hb0 hP0
    obtain ⟨k, hk, hnone, rfl, rfl, hbel, hP⟩ := hrel
    by_cases hlt : k < n
    · have hA := HRD.out.below hbel
      obtain ⟨ad, rfl, hbd, -, -, -⟩ := hA.pt hlt
      obtain ⟨m, hm⟩ : ∃ m, m = (k + 1) % n := ⟨_, rfl⟩
      have hl1 : m < n := by rw [hm]; exact Nat.mod_lt _ (by omega)
      have ht1 : ((k : Int) + 1).tmod (n : Int) = (m : Int) := by rw [mod_tmod, ← hm]
      have hw1 : IntKind.i64.wrap ((k : Int) + 1) = (k : Int) + 1 := by rw [IntKind.wrap_i64]; omega
      have hl1' : (m : Int) < (n : Int) := by omega
      have hlt' : (k : Int) < (n : Int) := by omega
      obtain ⟨-, p1, p2⟩ := hA.ptA hlt
      obtain ⟨-, q1, q2⟩ := (HRD.out.below (hbel.alloc hbel.size (.cells #[.int .i64 (ptAt xs k).x, .int .i64 (ptAt xs k).y] 35))).ptA hl1
      have hpg := ptAt_good HG.out.1 k
      have hqg := ptAt_good HG.out.1 m
      have hon : onE xs p k = onB (ptAt xs k) (ptAt xs m) p := by unfold onE; rw [HL.out, ← hm]
      have hcr : crE xs p k = crB (ptAt xs k) (ptAt xs m) p := by unfold crE; rw [HL.out, ← hm]
      have hodd : oddN xs p (k + 1) = xor (oddN xs p k) (crE xs p k) := rfl
      rw [hcr] at hodd
      have HO := Lib.hid (And.intro hon hodd)
      have hbds : ad.block < wr.heap.size := Nat.lt_of_lt_of_le hbd hbel.size
      have HN := Lib.hid hnone
      clear hon hodd hcr hm hA hnone hbd
      obtain ⟨a, ha⟩ : ∃ a, a = ptAt xs k := ⟨_, rfl⟩
      obtain ⟨b, hb⟩ : ∃ b, b = ptAt xs m := ⟨_, rfl⟩
      rw [← ha] at p1 p2 q1 q2 hpg HO
      rw [← hb] at q1 q2 hqg HO
      clear ha hb
      have HPQ := Lib.hid (And.intro hpg hqg)
      have hA1 := PtK.new wr a
      have hB1 := PtK.new (wr.alloc (.cells #[.int .i64 a.x, .int .i64 a.y] 35)) b
      have HAB := Lib.hid (And.intro ((hA1).alloc (.cells #[.int .i64 b.x, .int .i64 b.y] 35)) (And.intro hB1 (And.intro ((hP.alloc (.cells #[.int .i64 a.x, .int .i64 a.y] 35)).alloc (.cells #[.int .i64 b.x, .int .i64 b.y] 35)) ((hbel.alloc hbel.size (.cells #[.int .i64 a.x, .int .i64 a.y] 35)).alloc (by have := hbel.size; simp; omega) (.cells #[.int .i64 b.x, .int .i64 b.y] 35)))))
      have hlt2 : w.heap.size < wr.heap.size := (Blk.lt hP)
      clear hA1 hB1 hpg hqg hP hbel
      generalize hodd0 : oddN xs p k = o at *
      clear hodd0
      go_upto_region 7 with fail
      obtain ⟨kA, kB, kP, kW⟩ := HAB.out
      rw [World.size_alloc] at kB
      clear HAB p1 p2 q1 q2
      generalize (wr.alloc (.cells #[.int .i64 a.x, .int .i64 a.y] 35)).alloc (.cells #[.int .i64 b.x, .int .i64 b.y] 35) = W at *
      have kO : Calls Tryz.prog 116 #[.agg #[.int .i64 a.x, .int .i64 a.y], .agg #[.int .i64 b.x, .int .i64 b.y], .agg #[.int .i64 p.x, .int .i64 p.y]] W fun e w' => e = .returned (.bool (onB a b p)) ∧ Below W.heap.size W w' := onR6 a.x a.y b.x b.y p.x p.y W HPQ.out.1 HPQ.out.2 HG.out.2
      have HC := Lib.hid kO
      have kc : 0 < cr a b p ∨ ¬ 0 < cr a b p := by omega
      clear kO
      obtain ⟨a1, a2, -, -, -⟩ := kA.facts
      obtain ⟨b1, b2, -, -, -⟩ := kB.facts
      obtain ⟨p1, p2, -, -, -⟩ := kP.facts
      go_wp2_with fail
      with_reducible refine HC.out.mono ?_
      rintro e W1 ⟨rfl, hb1⟩
      replace kA : PtK W1 wr.heap.size a := kA.on hb1
      replace kB : PtK W1 (wr.heap.size + 1) b := kB.on hb1
      replace kP : PtK W1 w.heap.size p := kP.on hb1
      have kW1 := below_on kW (Nat.le_refl _) hb1
      clear HC hb1 kW a1 a2 b1 b2 p1 p2
      rcases hob : onB a b p with _ | _
      · have HN1 : Hid (noneN xs p (k + 1)) := noneN_succ HN.out.out (by rw [HO.out.1, hob])
        have HO2 := Lib.hid HO.out.2
        have hfl := Lib.hid hob
        clear HN HO hob
        have kz : wr.heap.size + 1 < W1.heap.size := Blk.lt kB
        obtain ⟨lo, hlo⟩ : ∃ l, l = if b.y < a.y then b else a := ⟨_, rfl⟩
        obtain ⟨hi, hhi⟩ : ∃ l, l = if b.y < a.y then a else b := ⟨_, rfl⟩
        have HLH := Lib.hid (And.intro hlo hhi)
        have HK := Lib.hid (And.intro kA (And.intro kB (And.intro kP kW1)))
        clear hlo hhi
        obtain ⟨a1, a2, -, -, a3⟩ := kA.facts
        obtain ⟨b1, b2, -, -, b3⟩ := kB.facts
        go_upto_if 36 with fail
        clear a1 a2 a3 b1 b2 b3 kA kB kP kW1
        go_cut [9] (fun s9 wx => PtK wx wr.heap.size lo ∧ PtK wx (wr.heap.size + 1) hi ∧ PtK wx w.heap.size p ∧ Below w.heap.size w wx)
        case first =>
          by_cases hsw : b.y < a.y
          · have hl1 : Hid (lo = b ∧ hi = a) := ⟨by rw [HLH.out.1, if_pos hsw], by rw [HLH.out.2, if_pos hsw]⟩
            clear HLH
            obtain ⟨kA, kB, kP, kW1⟩ := HK.out
            obtain ⟨a1, a2, a4, a5, a3⟩ := kA.facts
            obtain ⟨b1, b2, b4, b5, b3⟩ := kB.facts
            clear kA kB kP kW1
            go_wp2_with fail
            go_meet
            obtain ⟨kA, kB, kP, kW1⟩ := HK.out
            rw [hl1.out.1, hl1.out.2]
            refine ⟨PtK.alloc (((kA.put b).far (by simp only; omega) _).far (by simp only; omega) _) _, PtK.alloc (((kB.far (by simp only; omega) _).far (by simp only; omega) _).put a) _, PtK.alloc ((((kP.far (by simp only; omega) _).far (by simp only; omega) _).far (by simp only; omega) _).far (by simp only; omega) _) _, (below_put2 (below_put2 kW1 (by omega) _ _) (by omega) _ _).alloc (by simp; omega) _⟩
          · have hl1 : Hid (lo = a ∧ hi = b) := ⟨by rw [HLH.out.1, if_neg hsw], by rw [HLH.out.2, if_neg hsw]⟩
            clear HLH
            go_wp2_with fail
            go_meet
            rw [hl1.out.1, hl1.out.2]
            exact HK.out
        case rest =>
          obtain ⟨kA, kB, kP, kW1⟩ := hcut
          have hcb : crB a b p = (decide (lo.y ≤ p.y) && (decide (p.y < hi.y) && decide (0 < cr lo hi p))) := by
            rw [HLH.out.1, HLH.out.2]
            unfold crB
            split <;> rfl
          have hgl : good lo = true := by rw [HLH.out.1]; split; exact HPQ.out.2; exact HPQ.out.1
          have hgh : good hi = true := by rw [HLH.out.2]; split; exact HPQ.out.1; exact HPQ.out.2
          obtain ⟨t, ht⟩ : ∃ t, t = sgn (cr lo hi p) := ⟨_, rfl⟩
          have kT : Calls Tryz.prog 117 #[.agg #[.int .i64 lo.x, .int .i64 lo.y], .agg #[.int .i64 hi.x, .int .i64 hi.y], .agg #[.int .i64 p.x, .int .i64 p.y]] wc fun e w' => e = .returned (.int .i64 t) ∧ Below wc.heap.size wc w' := by rw [ht]; exact turnR6 lo.x lo.y hi.x hi.y p.x p.y wc hgl hgh HG.out.2
          have hct : decide (0 < cr lo hi p) = decide (0 < t) := by rw [ht]; exact decide_eq_decide.mpr sgn_gt.symm
          rw [hct] at hcb
          have HC := Lib.hid (And.intro kT hcb)
          have HK2 := Lib.hid (And.intro kP kW1)
          clear HLH HK hfl kc hgl hgh ht kT hct hcb kz
          obtain ⟨a1, a2, -, -, -⟩ := kA.facts
          obtain ⟨b1, b2, -, -, -⟩ := kB.facts
          obtain ⟨p1, p2, -, -, -⟩ := kP.facts
          clear kA kB kP kW1
          by_cases c1 : lo.y ≤ p.y
          · by_cases c2 : p.y < hi.y
            · go_wp2_with fail
              with_reducible refine HC.out.1.mono ?_
              rintro e W2 ⟨rfl, hb2⟩
              have HP2 := Lib.hid (And.intro (HK2.out.1.on hb2) (below_on HK2.out.2 (Nat.le_refl _) hb2))
              clear hb2 a1 a2 b1 b2 p1 p2
              by_cases c3 : 0 < t
              · have ho : Hid (oddN xs p (k + 1) = !o) := by show _ = _; rw [HO2.out, HC.out.2, decide_eq_true c1, decide_eq_true c2, decide_eq_true c3]; cases o <;> rfl
                have hw9 := hw1
                go_wp2_with fail
                go_roundw
                case rel => exact ⟨k + 1, by omega, HN1, by rw [ho.out], by go_num, HP2.out.2, HP2.out.1⟩
                case measure => simp [intOf]; omega
              · have ho : Hid (oddN xs p (k + 1) = o) := by show _ = _; rw [HO2.out, HC.out.2, decide_eq_true c1, decide_eq_true c2, decide_eq_false c3]; cases o <;> rfl
                go_wp2_with fail
                go_roundw
                case rel => exact ⟨k + 1, by omega, HN1, by rw [ho.out], by go_num, HP2.out.2, HP2.out.1⟩
                case measure => simp [intOf]; omega
            · have ho : Hid (oddN xs p (k + 1) = o) := by show _ = _; rw [HO2.out, HC.out.2, decide_eq_false c2, Bool.false_and, Bool.and_false]; cases o <;> rfl
              go_wp2_with fail
              go_roundw
              case rel => exact ⟨k + 1, by omega, HN1, by rw [ho.out], by go_num, HK2.out.2, HK2.out.1⟩
              case measure => simp [intOf]; omega
          · have ho : Hid (oddN xs p (k + 1) = o) := by show _ = _; rw [HO2.out, HC.out.2, decide_eq_false c1, Bool.false_and]; cases o <;> rfl
            go_wp2_with fail
            go_roundw
            case rel => exact ⟨k + 1, by omega, HN1, by rw [ho.out], by go_num, HK2.out.2, HK2.out.1⟩
            case measure => simp [intOf]; omega
      · have H4 : Hid (res = 0) := by show _ = _; rw [HR.out]; exact sideI_on (by rw [HL.out]; exact hlt) (by rw [HO.out.1, hob])
        clear hob
        go_wp2_with fail
        go_ret
        exact ⟨by rw [H4.out]; rfl, kW1⟩
    · have hkn : k = n := by omega
      subst hkn
      have HN := Lib.hid hnone
      clear hnone
      rcases hod : oddN xs p k with _ | _
      · have H4 : Hid (res = -1) := by show _ = _; rw [HR.out, sideI_off (by rw [HL.out]; exact HN.out), HL.out, hod]; rfl
        clear hod
        go_wp2_with fail
        go_ret
        exact ⟨by rw [H4.out]; rfl, hbel⟩
      · have H4 : Hid (res = 1) := by show _ = _; rw [HR.out, sideI_off (by rw [HL.out]; exact HN.out), HL.out, hod]; rfl
        clear hod
        go_wp2_with fail
        go_ret
        exact ⟨by rw [H4.out]; rfl, hbel⟩
end Go.Proofs.YtnpjggcgnbgkjaaGreat
