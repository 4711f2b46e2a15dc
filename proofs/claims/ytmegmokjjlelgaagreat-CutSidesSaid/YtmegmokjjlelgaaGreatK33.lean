/- merestonelaw06.split: the walk; merestonelaw06.CutSides: the walk. -/
import Derived.Deep.CutBlock
import Derived.Deep.DeepCutAuto
import Derived.Test.YtmegmokjjlelgaaGreatK02
import Derived.Test.YtmegmokjjlelgaaGreatK31
import Derived.Test.YtmegmokjjlelgaaGreatK32
namespace Go.Proofs.YtmegmokjjlelgaaGreat
open Go.RowKit Go.Lib
set_option maxRecDepth 100000 in
set_option maxHeartbeats 3200000 in
theorem split6_any (p : Plan) (id fresh : Int) (path : List Pt) (A A' B : Option Addr) (n c n' c' m cb : Nat) (w : World) (h : PlanAt w w.heap.size A n c A' n' c' p) (hr : Reads w w.heap.size 2 B m (ptsV path)) (hx : ∀ q ∈ path, q.inI) (hn : n' ≤ 1048576) (hm : m ≤ 1048576) :
    Calls Tryz.prog 17 #[planV A n c A' n' c', .int .i64 id, .slice B m cb, .int .i64 fresh] w (ResPostS (spP p id path fresh) (spE p id path fresh) w) := by
  obtain ⟨i0, hi0, hz0, hz1, hz2⟩ := info_parts info_pt
  obtain ⟨wa, hwa⟩ : ∃ wa : World, wa = (w.alloc (.cells #[.slice A n c, .slice A' n' c'] 26)).alloc (.cells #[.slice none 0 0, .slice none 0 0] 26) := ⟨_, rfl⟩
  have hF : SpF p path A n c A' n' c' B m w wa := by
    have hB0 : Below w.heap.size w wa := by rw [hwa]; exact ((Below.refl _ _).alloc (Nat.le_refl _) _).alloc (by simp) _
    refine ⟨hB0, by rw [hwa]; exact Blk.alloc (PlK.new w A n c A' n' c') _, ?_, h.on hB0, hr.on hB0⟩
    have := PlK.new (w.alloc (.cells #[.slice A n c, .slice A' n' c'] 26)) none 0 0 none 0 0
    rw [World.size_alloc] at this
    rw [hwa]
    exact this
  have KO := Lib.hid (ownPlS_any p A A' n c n' c' wa hF.2.2.2.1 hn)
  have H0 := Lib.hid hF
  have HX := Lib.hid hx
  obtain ⟨q1, q2, q3⟩ := hF.2.1.facts
  clear hF h hr hx
  go_enter Tryz.func17, Tryz.ntmps17
  go_upto_region 1 with fail
  rw [← hwa]
  clear hwa
  go_wp2_with fail
  refine KO.out.mono ?_
  rintro e w1 ⟨A1, n1, c1, A2, n2, c2, hs, rfl, hpo, hb1⟩
  have H1 := Lib.hid (H0.out.on hb1)
  have hba : Below w1.heap.size w1 (w1.alloc (.cells #[] 44)) := (Below.refl _ _).alloc (Nat.le_refl _) _
  have hown0 : (w1.alloc (.cells #[] 44)).ownsRow w1.heap.size 44 2 (.slice (some ⟨w1.heap.size, 0, none⟩) 0 0) 0 [] := World.ownsRow_made (base := w1.heap.size) (e := 44) (size := 2) w1 #[] 0 (Nat.le_refl _) (by simp [maxLen]) rfl
  have H2 := Lib.hid (And.intro hown0 (And.intro (H1.out.on hba).2.2.2.2 (And.intro hpo (And.intro (show 0 + m ≤ maxLen by simp only [maxLen]; omega) (And.intro (show (0 + m) * 16 ≤ 140737488355328 by omega) (show w1.heap.size ≤ (w1.alloc (.cells #[] 44)).heap.size by simp))))))
  clear hb1 hba hown0 hpo q1 q2 q3 KO H0
  go_wp2_with (at_builtin; refine wpList_append_any _ rfl (.tmp 13) (.tmp 14) _ rfl w1.heap.size 44 i0 _ 2 16 Tryz.underlying23 hi0 hz0 hz1 hz2 rfl (Nat.zero_lt_succ _) (.slice (some ⟨w1.heap.size, 0, none⟩) 0 0) 0 [] rfl H2.out.1 _ B m cb (ptsV path) rfl H2.out.2.1 (ptsV_one _) H2.out.2.2.2.1 H2.out.2.2.2.2.1 H2.out.2.2.2.2.2 ?_
               intro v6 w6 hown6 hg6 hat6
               simp only [Nat.zero_add, List.nil_append] at hown6
               obtain ⟨A6, c6, rfl⟩ := own_form hown6
               have hb6 : Below w1.heap.size w1 w6 := Below.grown ((Below.refl _ _).alloc (Nat.le_refl _) _) hg6 (by simp) (fun g e => by simp [Value.ownBlock] at e; omega)
               have KS := Lib.hid (spP_any p id fresh path A1 A2 A6 n1 c1 n2 c2 m c6 w6 (H2.out.2.2.1.at_.on hb6) (Reads.of_own hown6) HX.out (by omega))
               have H3 := Lib.hid (H1.out.on hb6)
               clear hown6 hg6 hat6 hb6 H2 H1)
  refine KS.out.mono ?_
  rintro e w7 ⟨A3, n3, c3, A4, n4, c4, hs4, rfl, hpo, hb7⟩
  obtain ⟨hb8, hR8⟩ := (H3.out.on hb7).res
  obtain ⟨V, hV, r1, r2, hbV⟩ := res_store (g := w.heap.size + 1) hb8 (by omega) hR8 (.slice A3 n3 c3) (.slice A4 n4 c4)
  obtain ⟨s1, s2, f1, f2⟩ := plk_facts4 hR8
  have hpoV := ((hpo.mono H3.out.1.size).store hR8 (by decide) (by decide) 0 (.slice A3 n3 c3)).store (Blk.set_ hR8 0 (.slice A3 n3 c3)) (by decide) (by decide) 1 (.slice A4 n4 c4)
  rw [← hV] at hpoV
  have HV := Lib.hid hV
  have HRR := Lib.hid (And.intro r1 (And.intro r2 (And.intro hbV hpoV)))
  obtain ⟨z, hz⟩ : ∃ z, z = spE p id path fresh := ⟨_, rfl⟩
  rw [← hz]
  have HZ := Lib.hid hz
  clear hV r1 r2 hbV hpoV hpo hb7 hb8 hR8 KS H3 hz
  go_wp2_with fail
  rw [← HV.out]
  obtain ⟨r1, r2, hbV, hpoV⟩ := HRR.out
  refine bodyPost_ret (v := .tuple #[planV A3 n3 c3 A4 n4 c4, .int .i64 z]) ?_ rfl ⟨A3, n3, c3, A4, n4, c4, _, by rw [HZ.out], hpoV, hbV⟩
  simp [results, Tryz.results17, go_sem, r1, r2]
end Go.Proofs.YtmegmokjjlelgaaGreat
namespace Go.Proofs.YtmegmokjjlelgaaGreat
open Go.RowKit Go.Lib
def CtF (p : Plan) (path : List Pt) (A : Option Addr) (n c : Nat) (A' : Option Addr) (n' c' : Nat) (B : Option Addr) (m : Nat) (w W : World) : Prop := Below w.heap.size w W ∧ PlK W w.heap.size A n c A' n' c' ∧ PlanAt W W.heap.size A n c A' n' c' p ∧ Reads W W.heap.size 2 B m (ptsV path)
theorem CtF.on {p : Plan} {path : List Pt} {A A' B : Option Addr} {n c n' c' m : Nat} {w W W' : World} (h : CtF p path A n c A' n' c' B m w W) (hb : Below W.heap.size W W') : CtF p path A n c A' n' c' B m w W' :=
  ⟨below_on h.1 (Nat.le_refl _) hb, h.2.1.on hb, h.2.2.1.on hb, h.2.2.2.on hb⟩
theorem hldI2 {W V V' : World} {a0 a1 : Addr} {v0 v1 : Value} (hh : a0.block < W.heap.size ∧ a1.block < W.heap.size) (hs : V.cell? a0 = some v0 ∧ V.cell? a1 = some v1 ∧ Below W.heap.size W V) (hb : Below V.heap.size V V') : V'.cell? a0 = some v0 ∧ V'.cell? a1 = some v1 ∧ Below W.heap.size W V' := by
  obtain ⟨h0, h1⟩ := hh
  obtain ⟨c0, c1, cb⟩ := hs
  have := cb.size
  have k : ∀ {a : Addr} {v : Value}, a.block < W.heap.size → V.cell? a = some v → V'.cell? a = some v := fun {a v} ha hv => (hb.cell (p := a) (by omega)).trans hv
  exact ⟨k h0 c0, k h1 c1, below_on cb (Nat.le_refl _) hb⟩
theorem hldI8 {W V V' : World} {a0 a1 a2 a3 a4 a5 a6 a7 : Addr} {v0 v1 v2 v3 v4 v5 v6 v7 : Value} (hh : a0.block < W.heap.size ∧ a1.block < W.heap.size ∧ a2.block < W.heap.size ∧ a3.block < W.heap.size ∧ a4.block < W.heap.size ∧ a5.block < W.heap.size ∧ a6.block < W.heap.size ∧ a7.block < W.heap.size) (hs : V.cell? a0 = some v0 ∧ V.cell? a1 = some v1 ∧ V.cell? a2 = some v2 ∧ V.cell? a3 = some v3 ∧ V.cell? a4 = some v4 ∧ V.cell? a5 = some v5 ∧ V.cell? a6 = some v6 ∧ V.cell? a7 = some v7 ∧ Below W.heap.size W V) (hb : Below V.heap.size V V') : V'.cell? a0 = some v0 ∧ V'.cell? a1 = some v1 ∧ V'.cell? a2 = some v2 ∧ V'.cell? a3 = some v3 ∧ V'.cell? a4 = some v4 ∧ V'.cell? a5 = some v5 ∧ V'.cell? a6 = some v6 ∧ V'.cell? a7 = some v7 ∧ Below W.heap.size W V' := by
  obtain ⟨h0, h1, h2, h3, h4, h5, h6, h7⟩ := hh
  obtain ⟨c0, c1, c2, c3, c4, c5, c6, c7, cb⟩ := hs
  have := cb.size
  have k : ∀ {a : Addr} {v : Value}, a.block < W.heap.size → V.cell? a = some v → V'.cell? a = some v := fun {a v} ha hv => (hb.cell (p := a) (by omega)).trans hv
  exact ⟨k h0 c0, k h1 c1, k h2 c2, k h3 c3, k h4 c4, k h5 c5, k h6 c6, k h7 c7, below_on cb (Nat.le_refl _) hb⟩
set_option maxRecDepth 100000 in
set_option maxHeartbeats 6400000 in
theorem cutSides_any (p : Plan) (id fresh : Int) (path : List Pt) (A A' B : Option Addr) (n c n' c' m cb : Nat) (w : World) (h : PlanAt w w.heap.size A n c A' n' c' p) (hr : Reads w w.heap.size 2 B m (ptsV path)) (hx : ∀ q ∈ path, q.inI) :
    Calls Tryz.prog 5 #[planV A n c A' n' c', .int .i64 id, .slice B m cb, .int .i64 fresh] w fun e w' => e = .returned (.bool true) ∧ Below w.heap.size w w' := by
  obtain ⟨wa, hwa⟩ : ∃ wa : World, wa = w.alloc (.cells #[.slice A n c, .slice A' n' c'] 26) := ⟨_, rfl⟩
  have hF : CtF p path A n c A' n' c' B m w wa := by
    have hB0 : Below w.heap.size w wa := by rw [hwa]; exact (Below.refl _ _).alloc (Nat.le_refl _) _
    exact ⟨hB0, by rw [hwa]; exact PlK.new w A n c A' n' c', h.on hB0, hr.on hB0⟩
  have H0 := Lib.hid hF
  have HX := Lib.hid hx
  clear hF h hr hx
  go_enter Tryz.func5, Tryz.ntmps5
  go_upto_region 1 with fail
  rw [← hwa]
  clear hwa
  go_wp2_with (go_at_call 15; (with_reducible refine (ans06_any _).mono ?_); rintro e w1 ⟨rfl, hb1⟩; have H1 := Lib.hid (H0.out.on hb1); obtain ⟨q1, q2, q3⟩ := H1.out.2.1.facts; clear hb1 H0)
  refine (few6_any p A A' n c n' c' w1 H1.out.2.2.1).mono ?_
  rintro e w2 ⟨fb, rfl, hsm, hb2⟩
  have H2 := Lib.hid (H1.out.on hb2)
  clear hb2 q1 q2 q3 H1
  rcases fb with _ | _
  · clear hsm
    go_wp2_with fail
    refine (ans06_any _).mono ?_
    rintro e w3 ⟨rfl, hb3⟩
    have HB := Lib.hid (below_on H2.out.1 (Nat.le_refl _) hb3)
    clear hb3 H2
    go_wp2_with fail
    go_ret
    exact ⟨rfl, HB.out⟩
  have hn' : n' ≤ 80 := (hsm rfl).1
  clear hsm
  by_cases hm : 150 < m
  · have hm' : (150 : Int) < (m : Int) := by omega
    go_wp2_with fail
    refine (ans06_any _).mono ?_
    rintro e w3 ⟨rfl, hb3⟩
    have HB := Lib.hid (below_on H2.out.1 (Nat.le_refl _) hb3)
    clear hb3 H2 hm hm'
    go_wp2_with fail
    go_ret
    exact ⟨rfl, HB.out⟩
  have hm' : ¬ (150 : Int) < (m : Int) := by omega
  obtain ⟨i0, hi0, hz0, hz1, hz2⟩ := info_parts info_pt
  have HM := Lib.hid (show m ≤ 150 by omega)
  have hlm := H2.out.2.2.2.lenPt
  have HL := Lib.hid hlm
  have hw0 : IntKind.i64.wrap ((m : Int) - 1) = (m : Int) - 1 := by rw [IntKind.wrap_i64]; omega
  clear hm hlm
  go_upto_region 3 with fail
  clear hm'
  go_wp2_with fail
  obtain ⟨wo, hwo⟩ : ∃ wo, wo = w2 := ⟨_, rfl⟩
  rw [← hwo] at H2
  rw [← hwo]
  clear hwo w2
  have H2s := Lib.hid (show w.heap.size < wo.heap.size from (H2.out.2.1.facts).2.2)
  go_loopw [9, 10] (fun s i wr => ∃ (j : Nat) (A9 : Option Addr) (c9 : Nat), j ≤ m ∧ i = .int .i64 ((m : Int) - 1 - (j : Int)) ∧ s = .slice A9 j c9 ∧ Hid (wr.ownsRow wo.heap.size 44 2 (.slice A9 j c9) j (ptsV (path.reverse.take j)) ∧ Below wo.heap.size wo wr)) (fun _ i _ => (intOf i + 1).toNat)
  case atStart => exact ⟨0, none, 0, Nat.zero_le _, by simp, rfl, World.ownsRow_nil _ _ _ _, Below.refl _ _⟩
  case round =>
    obtain ⟨j, A9, c9, hj, rfl, rfl, HW⟩ := hrel
    obtain ⟨W, rfl⟩ : ∃ W, W = wr := ⟨_, rfl⟩
    by_cases hlt : j < m
    · have g1 : (0 : Int) ≤ (m : Int) - 1 - (j : Int) := by omega
      obtain ⟨M, hM⟩ : ∃ M, M = m - 1 - j := ⟨_, rfl⟩
      have hMi : (m : Int) - 1 - (j : Int) = (M : Int) := by omega
      have hMn : M < m := by omega
      have hMn' : (M : Int) < (m : Int) := by omega
      have hw1 : IntKind.i64.wrap ((M : Int) - 1) = (m : Int) - 1 - ((j + 1 : Nat) : Int) := by rw [IntKind.wrap_i64]; omega
      have hrd := (H2.out.on HW.out.2).2.2.2
      obtain ⟨ad, rfl, -, -, -, -⟩ := hrd.pt hMn
      obtain ⟨-, p1, p2⟩ := hrd.ptA hMn
      have HW1 := Lib.hid (And.intro hw1 (And.intro hMi hlt))
      clear hw1
      obtain ⟨R, hR⟩ : ∃ R, R = ptAt path M := ⟨_, rfl⟩
      rw [← hR] at p1 p2
      have hts : path.reverse.take (j + 1) = path.reverse.take j ++ [R] := by
        have hl := HL.out
        rw [List.take_succ_eq_append_getElem (by rw [List.length_reverse]; omega), hR, ← ptAt_lt, ptAt_rev (by omega)]
        congr 3
        omega
      have HT := Lib.hid hts
      have hown := HW.out.1
      have HB := Lib.hid HW.out.2
      rw [hMi]
      clear hM hMi hR hts HW hrd
      go_wp2_with (at_builtin; refine wpList_append_any _ rfl (.tmp 39) (.tmp 44) _ rfl wo.heap.size 44 i0 _ 2 16 Tryz.underlying23 hi0 hz0 hz1 hz2 rfl (by omega) (.slice A9 j c9) j _ rfl (hown.alloc _) (W.alloc (.cells #[.int .i64 R.x, .int .i64 R.y] 44)).heap.size (some ⟨W.heap.size, 0, none⟩) 1 1 (ptsV [R]) rfl (Reads.made W _ _ _ 2 1 _ rfl rfl) (ptsV_one _) (by have := HM.out; simp only [maxLen]; omega) (by have := HM.out; omega) (by have := HB.out.size; simp; omega) ?_; intro v6 w6 hown6 hg6 hat6; have hB6 := (HB.out.alloc HB.out.size _).grown hg6 (by have := HB.out.size; simp; omega) (fun g hg => by have := (hown.lt g hg).1; omega); rw [← ptsV_append, ← HT.out] at hown6; obtain ⟨A10, c10, rfl⟩ := own_form hown6; have H6 := Lib.hid (And.intro hown6 hB6); clear hown6 hB6 hg6 hat6 hown)
      go_roundw
      case rel => exact ⟨j + 1, A10, c10, by have := HW1.out.2.2; omega, congrArg (Value.int .i64) (by have := HW1.out.2.1; omega), rfl, H6.out⟩
      case measure => simp [intOf]
    · obtain rfl : j = m := by omega
      have g1 : ¬ (0 : Int) ≤ (j : Int) - 1 - (j : Int) := by omega
      have hrow := HW.out.1
      rw [List.take_of_length_le (by rw [List.length_reverse]; exact Nat.le_of_eq HL.out)] at hrow
      have H3 := Lib.hid (And.intro (H2.out.on HW.out.2) (Reads.of_own hrow))
      clear HW hrow
      have KS := Lib.hid (split6_any p id fresh path A A' B n c n' c' j cb W H3.out.1.2.2.1 H3.out.1.2.2.2 HX.out (by omega) (by have := HM.out; omega))
      obtain ⟨z, hz⟩ : ∃ z, z = spE p id path fresh := ⟨_, rfl⟩
      obtain ⟨Q, hQ⟩ : ∃ Q, Q = spP p id path fresh := ⟨_, rfl⟩
      rw [← hz, ← hQ] at KS
      have hz2' : spE p id path.reverse fresh = z := by rw [spE_rev, hz]
      have HZ := Lib.hid (And.intro hz (And.intro hQ hz2'))
      clear hz hQ hz2'
      obtain ⟨q1, q2, q3⟩ := H3.out.1.2.1.facts
      go_upto_region 8 with fail
      clear g1
      go_wp2_with fail
      refine KS.out.mono ?_
      rintro e w3 ⟨A1, n1, c1, A2, n2, c2, hs, rfl, hpo, hb3⟩
      obtain ⟨X, hX⟩ : ∃ X, X = w3.alloc (.cells #[.slice A1 n1 c1, .slice A2 n2 c2] 26) := ⟨_, rfl⟩
      have hba : Below w3.heap.size w3 X := by rw [hX]; exact (Below.refl _ _).alloc (Nat.le_refl _) _
      have hK : PlK X w3.heap.size A1 n1 c1 A2 n2 c2 := by rw [hX]; exact PlK.new w3 A1 n1 c1 A2 n2 c2
      obtain ⟨B1, hB1⟩ : ∃ B1, B1 = w3.heap.size := ⟨_, rfl⟩
      rw [← hB1] at hK
      have hb3' := below_on hb3 (Nat.le_refl _) hba
      have H4 := Lib.hid (And.intro (H3.out.1.on hb3') (And.intro (H3.out.2.on hb3') (And.intro hK (hpo.at_.on hba))))
      clear hb3 hb3' hba hK hpo H3 KS q1 q2 q3
      go_upto_region 9 with fail
      rw [← hX, ← hB1]
      clear hX hB1
      obtain ⟨q1, q2, q3⟩ := H4.out.1.2.1.facts
      have kS := split6_any p id fresh path.reverse A A' A9 n c n' c' j c9 X H4.out.1.2.2.1 H4.out.2.1 (fun q hq => HX.out q (List.mem_reverse.1 hq)) (by omega) (by have := HM.out; omega)
      obtain ⟨R, hR⟩ : ∃ R, R = spP p id path.reverse fresh := ⟨_, rfl⟩
      rw [HZ.out.2.2, ← hR] at kS
      have KS := Lib.hid kS
      have HR := Lib.hid hR
      clear kS hR
      go_wp2_with fail
      refine KS.out.mono ?_
      rintro e w5 ⟨A3, n3, c3, A4, n4, c4, hs, rfl, hpo, hb5⟩
      obtain ⟨Y, hY⟩ : ∃ Y, Y = w5.alloc (.cells #[.slice A3 n3 c3, .slice A4 n4 c4] 26) := ⟨_, rfl⟩
      have hba : Below w5.heap.size w5 Y := by rw [hY]; exact (Below.refl _ _).alloc (Nat.le_refl _) _
      have hK : PlK Y w5.heap.size A3 n3 c3 A4 n4 c4 := by rw [hY]; exact PlK.new w5 A3 n3 c3 A4 n4 c4
      obtain ⟨B2, hB2⟩ : ∃ B2, B2 = w5.heap.size := ⟨_, rfl⟩
      rw [← hB2] at hK
      have hb5' := below_on hb5 (Nat.le_refl _) hba
      have H5 := Lib.hid (And.intro (H4.out.1.on hb5').1 (And.intro (And.intro (H4.out.2.2.1.on hb5') (H4.out.2.2.2.on hb5')) (And.intro hK (hpo.at_.on hba))))
      clear hb5 hb5' hba hK hpo H4 KS q1 q2 q3
      go_upto_region 10 with fail
      rw [← hY, ← hB2]
      clear hY hB2
      by_cases hz0 : z = 0
      case neg =>
        have hne : (z != 0) = true := by simpa using hz0
        have HB := Lib.hid H5.out.1
        clear H5
        go_wp2_with fail
        go_ret
        exact ⟨by simp, HB.out⟩
      subst hz0
      obtain ⟨i1, j1, k1, l1, ⟨hi1, hj1, hk1, hl1⟩, ai, aj, ak, al, r1, r2, r3⟩ := sides_law HZ.out.1.symm
      rw [← HZ.out.2.1] at hi1 hj1 ai aj r1 r2 r3
      rw [← HR.out] at hk1 hl1 ak al r1 r2 r3
      have HI := Lib.hid (And.intro (And.intro hi1 (And.intro hj1 (And.intro hk1 hl1))) (And.intro r1 (And.intro r2 r3)))
      have kA := fun V (hV : Below Y.heap.size Y V) => atR_any Q id A1 A2 n1 c1 n2 c2 V (H5.out.2.1.2.on hV)
      have kB := fun V (hV : Below Y.heap.size Y V) => atR_any Q fresh A1 A2 n1 c1 n2 c2 V (H5.out.2.1.2.on hV)
      rw [ai] at kA
      rw [aj] at kB
      have HAK := Lib.hid (And.intro ak al)
      obtain ⟨q1, q2, q3⟩ := H5.out.2.1.1.facts
      have hP0 : Y.drew.cell? ⟨B1, 0, none⟩ = some (.slice A1 n1 c1) ∧ Y.drew.cell? ⟨B1, 1, none⟩ = some (.slice A2 n2 c2) ∧ Below Y.heap.size Y Y.drew := ⟨q1, q2, (Below.refl _ _).drew⟩
      have hh : (⟨B1, 0, none⟩ : Addr).block < Y.heap.size ∧ (⟨B1, 1, none⟩ : Addr).block < Y.heap.size := ⟨q3, q3⟩
      clear hi1 hj1 hk1 hl1 r1 r2 r3 q1 q2 q3 ai aj ak al
      go_upto_region 12 with fail
      go_cut [15, 16] (fun x y wx => x = .int .i64 (i1 : Int) ∧ y = .int .i64 (j1 : Int) ∧ Below Y.heap.size Y wx)
      case first =>
        refine wp_region_held_drew (S := fun V => V.cell? ⟨B1, 0, none⟩ = some (.slice A1 n1 c1) ∧ V.cell? ⟨B1, 1, none⟩ = some (.slice A2 n2 c2) ∧ Below Y.heap.size Y V) (by kernel_rfl) ?_ (fun hHeld => ?_)
        · exact hP0
        refine tk 0 ?_
        refine tk 1 ?_
        refine tk 3 ?_
        refine tk 4 ?_
        refine wpAnyH_ready (rs := [2]) (by kernel_rfl) (by simp) ?_
        refine AllReadyH.cons rfl (fun K hK => ?_) AllReadyH.nil
        go_simp
        go_at_call 21
        (with_reducible refine (kA _ (Below.refl _ _).drew).mono ?_)
        rintro e w7 ⟨rfl, hb1⟩
        try dsimp only
        refine hK.out _ _ ?_ (fun hHeld => ?_)
        · exact hldI2 hh hHeld hb1
        clear hK K
        try simp only [Act.put, List.setIfInBounds_toArray, List.set_cons_zero, List.set_cons_succ]
        refine wpAnyH_ready (rs := [5]) (by kernel_rfl) (by simp) ?_
        refine AllReadyH.cons rfl (fun K hK => ?_) AllReadyH.nil
        go_simp
        go_at_call 21
        (with_reducible refine (kB _ hHeld.2.2).mono ?_)
        rintro e w8 ⟨rfl, hb2⟩
        try dsimp only
        refine hK.out _ _ ?_ (fun hHeld => ?_)
        · exact hldI2 hh hHeld hb2
        clear hK K
        try simp only [Act.put, List.setIfInBounds_toArray, List.set_cons_zero, List.set_cons_succ]
        refine tk 6 ?_
        refine tk 7 ?_
        refine wpAnyH_done (by kernel_rfl) ?_ _
        go_wp2_with fail
        go_meet
        exact ⟨rfl, rfl, hHeld.2.2⟩
      case rest =>
        obtain ⟨Z, rfl⟩ : ∃ Z, Z = wc := ⟨_, rfl⟩
        obtain ⟨rfl, rfl, hbc⟩ := hcut
        have H6 := Lib.hid (And.intro (below_on H5.out.1 (Nat.le_refl _) hbc) (And.intro (And.intro (H5.out.2.1.1.on hbc) (H5.out.2.1.2.on hbc)) (And.intro (H5.out.2.2.1.on hbc) (H5.out.2.2.2.on hbc))))
        clear hbc H5 hP0 hh kA kB
        have kA := fun V (hV : Below Z.heap.size Z V) => atR_any R id A3 A4 n3 c3 n4 c4 V (H6.out.2.2.2.on hV)
        have kB := fun V (hV : Below Z.heap.size Z V) => atR_any R fresh A3 A4 n3 c3 n4 c4 V (H6.out.2.2.2.on hV)
        rw [HAK.out.1] at kA
        rw [HAK.out.2] at kB
        obtain ⟨q1, q2, q3⟩ := H6.out.2.2.1.facts
        have hP0 : Z.drew.cell? ⟨B2, 0, none⟩ = some (.slice A3 n3 c3) ∧ Z.drew.cell? ⟨B2, 1, none⟩ = some (.slice A4 n4 c4) ∧ Below Z.heap.size Z Z.drew := ⟨q1, q2, (Below.refl _ _).drew⟩
        have hh : (⟨B2, 0, none⟩ : Addr).block < Z.heap.size ∧ (⟨B2, 1, none⟩ : Addr).block < Z.heap.size := ⟨q3, q3⟩
        clear q1 q2 q3
        go_upto_region 13 with fail
        go_cut [17, 18] (fun x y wx => x = .int .i64 (k1 : Int) ∧ y = .int .i64 (l1 : Int) ∧ Below Z.heap.size Z wx)
        case first =>
          refine wp_region_held_drew (S := fun V => V.cell? ⟨B2, 0, none⟩ = some (.slice A3 n3 c3) ∧ V.cell? ⟨B2, 1, none⟩ = some (.slice A4 n4 c4) ∧ Below Z.heap.size Z V) (by kernel_rfl) ?_ (fun hHeld => ?_)
          · exact hP0
          refine tk 0 ?_
          refine tk 1 ?_
          refine tk 3 ?_
          refine tk 4 ?_
          refine wpAnyH_ready (rs := [2]) (by kernel_rfl) (by simp) ?_
          refine AllReadyH.cons rfl (fun K hK => ?_) AllReadyH.nil
          go_simp
          go_at_call 21
          (with_reducible refine (kA _ (Below.refl _ _).drew).mono ?_)
          rintro e w7 ⟨rfl, hb1⟩
          try dsimp only
          refine hK.out _ _ ?_ (fun hHeld => ?_)
          · exact hldI2 hh hHeld hb1
          clear hK K
          try simp only [Act.put, List.setIfInBounds_toArray, List.set_cons_zero, List.set_cons_succ]
          refine wpAnyH_ready (rs := [5]) (by kernel_rfl) (by simp) ?_
          refine AllReadyH.cons rfl (fun K hK => ?_) AllReadyH.nil
          go_simp
          go_at_call 21
          (with_reducible refine (kB _ hHeld.2.2).mono ?_)
          rintro e w8 ⟨rfl, hb2⟩
          try dsimp only
          refine hK.out _ _ ?_ (fun hHeld => ?_)
          · exact hldI2 hh hHeld hb2
          clear hK K
          try simp only [Act.put, List.setIfInBounds_toArray, List.set_cons_zero, List.set_cons_succ]
          refine tk 6 ?_
          refine tk 7 ?_
          refine wpAnyH_done (by kernel_rfl) ?_ _
          go_wp2_with fail
          go_meet
          exact ⟨rfl, rfl, hHeld.2.2⟩
        case rest =>
          obtain ⟨T, rfl⟩ : ∃ T, T = wc := ⟨_, rfl⟩
          obtain ⟨rfl, rfl, hbc⟩ := hcut
          have H7 := Lib.hid (And.intro (below_on H6.out.1 (Nat.le_refl _) hbc) (And.intro (And.intro (H6.out.2.1.1.on hbc) (H6.out.2.1.2.on hbc)) (And.intro (H6.out.2.2.1.on hbc) (H6.out.2.2.2.on hbc))))
          clear hbc H6 hP0 hh kA kB
          obtain ⟨⟨hi1, hj1, hk1, hl1⟩, r1, r2, r3⟩ := HI.out
          have hn2 := H7.out.2.1.2.lens.2.1
          have hn4 := H7.out.2.2.2.lens.2.1
          rw [hn2] at hi1 hj1
          rw [hn4] at hk1 hl1
          have gi : (i1 : Int) < (n2 : Int) := by omega
          have gj : (j1 : Int) < (n2 : Int) := by omega
          have gk : (k1 : Int) < (n4 : Int) := by omega
          have gl : (l1 : Int) < (n4 : Int) := by omega
          obtain ⟨a2, rfl⟩ := H7.out.2.1.2.parcs.some_ (by omega)
          obtain ⟨a4, rfl⟩ := H7.out.2.2.2.parcs.some_ (by omega)
          obtain ⟨h2b, -, ⟨Ai, ni, ci, pi, ri, -, -⟩, -⟩ := H7.out.2.1.2.parcs.at_ hi1
          obtain ⟨-, -, ⟨Aj, nj, cj, pj, rj, -, -⟩, -⟩ := H7.out.2.1.2.parcs.at_ hj1
          obtain ⟨h4b, -, ⟨Ak, nk, ck, pk, rk, -, -⟩, -⟩ := H7.out.2.2.2.parcs.at_ hk1
          obtain ⟨-, -, ⟨Al, nl, cl, pl, rl, -, -⟩, -⟩ := H7.out.2.2.2.parcs.at_ hl1
          have bi := (H7.out.2.1.2.fits.pc (k := i1) (by omega)).1
          have bj := (H7.out.2.1.2.fits.pc (k := j1) (by omega)).1
          have bk := (H7.out.2.2.2.fits.pc (k := k1) (by omega)).1
          have bl := (H7.out.2.2.2.fits.pc (k := l1) (by omega)).1
          rw [ri.lenPt] at bi
          rw [rj.lenPt] at bj
          rw [rk.lenPt] at bk
          rw [rl.lenPt] at bl
          have kR := fun V (hV : Below T.heap.size T V) => sameR_any _ _ Ai Al ni nl ci cl V (ri.on hV) (rl.on hV) (by omega) (by omega)
          have kU := fun V (hV : Below T.heap.size T V) => sameR_any _ _ Aj Ak nj nk cj ck V (rj.on hV) (rk.on hV) (by omega) (by omega)
          have kO := fun V (hV : Below T.heap.size T V) => sameR_any _ _ A1 A3 n1 n3 c1 c3 V (H7.out.2.1.2.on hV).outer (H7.out.2.2.2.on hV).outer (by have := H7.out.2.1.2.lens.2.2.1; omega) (by have := H7.out.2.2.2.lens.2.2.1; omega)
          rw [decide_eq_true r1] at kR
          rw [decide_eq_true r2] at kU
          rw [decide_eq_true r3] at kO
          obtain ⟨q1, q2, q3⟩ := H7.out.2.1.1.facts
          obtain ⟨q4, q5, q6⟩ := H7.out.2.2.1.facts
          have hP0 : T.drew.cell? ⟨B1, 0, none⟩ = some (.slice A1 n1 c1) ∧ T.drew.cell? ⟨B1, 1, none⟩ = some (.slice (some a2) n2 c2) ∧ T.drew.cell? ⟨B2, 0, none⟩ = some (.slice A3 n3 c3) ∧ T.drew.cell? ⟨B2, 1, none⟩ = some (.slice (some a4) n4 c4) ∧ T.drew.cell? ⟨(a2.add (i1 * 3)).block, (a2.add (i1 * 3)).off + 1, none⟩ = some (.slice Ai ni ci) ∧ T.drew.cell? ⟨(a2.add (j1 * 3)).block, (a2.add (j1 * 3)).off + 1, none⟩ = some (.slice Aj nj cj) ∧ T.drew.cell? ⟨(a4.add (k1 * 3)).block, (a4.add (k1 * 3)).off + 1, none⟩ = some (.slice Ak nk ck) ∧ T.drew.cell? ⟨(a4.add (l1 * 3)).block, (a4.add (l1 * 3)).off + 1, none⟩ = some (.slice Al nl cl) ∧ Below T.heap.size T T.drew := ⟨q1, q2, q4, q5, pi, pj, pk, pl, (Below.refl _ _).drew⟩
          have hh : (⟨B1, 0, none⟩ : Addr).block < T.heap.size ∧ (⟨B1, 1, none⟩ : Addr).block < T.heap.size ∧ (⟨B2, 0, none⟩ : Addr).block < T.heap.size ∧ (⟨B2, 1, none⟩ : Addr).block < T.heap.size ∧ (⟨(a2.add (i1 * 3)).block, (a2.add (i1 * 3)).off + 1, none⟩ : Addr).block < T.heap.size ∧ (⟨(a2.add (j1 * 3)).block, (a2.add (j1 * 3)).off + 1, none⟩ : Addr).block < T.heap.size ∧ (⟨(a4.add (k1 * 3)).block, (a4.add (k1 * 3)).off + 1, none⟩ : Addr).block < T.heap.size ∧ (⟨(a4.add (l1 * 3)).block, (a4.add (l1 * 3)).off + 1, none⟩ : Addr).block < T.heap.size := by simp only [block_of_add]; exact ⟨q3, q3, q6, q6, h2b, h2b, h4b, h4b⟩
          have HB := Lib.hid H7.out.1
          have ci1 : i1 < n2 := hi1
          go_upto_region 14 with fail
          clear H7 q1 q2 q3 q4 q5 q6 pi pj pk pl ri rj rk rl bi bj bk bl r1 r2 r3 hn2 hn4 h2b h4b
          refine wp_region_held_drew (S := fun V => V.cell? ⟨B1, 0, none⟩ = some (.slice A1 n1 c1) ∧ V.cell? ⟨B1, 1, none⟩ = some (.slice (some a2) n2 c2) ∧ V.cell? ⟨B2, 0, none⟩ = some (.slice A3 n3 c3) ∧ V.cell? ⟨B2, 1, none⟩ = some (.slice (some a4) n4 c4) ∧ V.cell? ⟨(a2.add (i1 * 3)).block, (a2.add (i1 * 3)).off + 1, none⟩ = some (.slice Ai ni ci) ∧ V.cell? ⟨(a2.add (j1 * 3)).block, (a2.add (j1 * 3)).off + 1, none⟩ = some (.slice Aj nj cj) ∧ V.cell? ⟨(a4.add (k1 * 3)).block, (a4.add (k1 * 3)).off + 1, none⟩ = some (.slice Ak nk ck) ∧ V.cell? ⟨(a4.add (l1 * 3)).block, (a4.add (l1 * 3)).off + 1, none⟩ = some (.slice Al nl cl) ∧ Below T.heap.size T V) (by kernel_rfl) ?_ (fun hHeld => ?_)
          · exact hP0
          refine tk 0 ?_
          refine tk 1 ?_
          refine tk 2 ?_
          refine tk 3 ?_
          refine tk 4 ?_
          refine tk 5 ?_
          refine tk 6 ?_
          refine tk 7 ?_
          refine tk 8 ?_
          refine tk 9 ?_
          refine tk 10 ?_
          refine tk 11 ?_
          refine tk 12 ?_
          refine tk 13 ?_
          refine tk 14 ?_
          refine tk 15 ?_
          refine tk 16 ?_
          refine tk 17 ?_
          refine tk 18 ?_
          refine tk 19 ?_
          refine tk 20 ?_
          refine tk 21 ?_
          refine tk 22 ?_
          refine tk 23 ?_
          refine tk 24 ?_
          refine tk 25 ?_
          refine tk 26 ?_
          refine wpAnyH_ready (rs := [27]) (by kernel_rfl) (by simp) ?_
          refine AllReadyH.cons rfl (fun K hK => ?_) AllReadyH.nil
          go_simp
          go_at_call 24
          (with_reducible refine (kR _ (Below.refl _ _).drew).mono ?_)
          rintro e w7 ⟨rfl, hb1⟩
          try dsimp only
          refine hK.out _ _ ?_ (fun hHeld => ?_)
          · exact hldI8 hh hHeld hb1
          clear hK K
          try simp only [Act.put, List.setIfInBounds_toArray, List.set_cons_zero, List.set_cons_succ]
          refine tk 28 ?_
          refine tk 29 ?_
          refine tk 30 ?_
          refine tk 31 ?_
          refine tk 32 ?_
          refine tk 33 ?_
          refine tk 34 ?_
          refine tk 35 ?_
          refine tk 36 ?_
          refine tk 37 ?_
          refine tk 38 ?_
          refine tk 39 ?_
          refine tk 40 ?_
          refine tk 41 ?_
          refine wpAnyH_ready (rs := [42]) (by kernel_rfl) (by simp) ?_
          refine AllReadyH.cons rfl (fun K hK => ?_) AllReadyH.nil
          go_simp
          go_at_call 24
          (with_reducible refine (kU _ hHeld.2.2.2.2.2.2.2.2).mono ?_)
          rintro e w8 ⟨rfl, hb2⟩
          try dsimp only
          refine hK.out _ _ ?_ (fun hHeld => ?_)
          · exact hldI8 hh hHeld hb2
          clear hK K
          try simp only [Act.put, List.setIfInBounds_toArray, List.set_cons_zero, List.set_cons_succ]
          refine tk 43 ?_
          refine tk 44 ?_
          refine tk 45 ?_
          refine tk 46 ?_
          refine tk 47 ?_
          refine tk 48 ?_
          refine wpAnyH_ready (rs := [49]) (by kernel_rfl) (by simp) ?_
          refine AllReadyH.cons rfl (fun K hK => ?_) AllReadyH.nil
          go_simp
          go_at_call 24
          (with_reducible refine (kO _ hHeld.2.2.2.2.2.2.2.2).mono ?_)
          rintro e w9 ⟨rfl, hb3⟩
          try dsimp only
          refine hK.out _ _ ?_ (fun hHeld => ?_)
          · exact hldI8 hh hHeld hb3
          clear hK K
          try simp only [Act.put, List.setIfInBounds_toArray, List.set_cons_zero, List.set_cons_succ]
          refine tk 50 ?_
          refine tk 51 ?_
          refine wpAnyH_done (by kernel_rfl) ?_ _
          go_wp2_with fail
          go_ret
          exact ⟨rfl, below_on HB.out (Nat.le_refl _) hHeld.2.2.2.2.2.2.2.2⟩
end Go.Proofs.YtmegmokjjlelgaaGreat
