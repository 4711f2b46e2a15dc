/- Plain law: the areas, and the numbers that changed. -/
/- merestonelaw07.JoinAreas: the walk. -/
import Derived.Deep.DeepCutAuto
import Derived.Test.YtgkcenhopmjmlaaGreatEitherLaw
import Derived.Test.YtgkcenhopmjmlaaGreatChanged
import Derived.Test.YtgkcenhopmjmlaaGreatAns07
import Derived.Test.YtgkcenhopmjmlaaGreatRefAdd
import Derived.Test.YtgkcenhopmjmlaaGreatRefArea
import Derived.Test.YtgkcenhopmjmlaaGreatCheckPR
namespace Go.Proofs.YtgkcenhopmjmlaaGreat
open Go.RowKit
theorem mem_once {l : List Int} {v z : Int} : z ∈ onceL l v ↔ z ∈ l ∨ z = v := by
  unfold onceL
  split
  · rename_i h
    exact ⟨.inl, fun h' => h'.elim id (fun e => e ▸ h)⟩
  · simp
theorem nd_once {l : List Int} {v : Int} (h : l.Nodup) : (onceL l v).Nodup := by
  unfold onceL
  split
  · exact h
  · rename_i hv
    rw [List.nodup_append]
    exact ⟨h, by simp, fun x hx y hy => by rintro rfl; simp at hy; exact hv (hy ▸ hx)⟩
theorem nd_ch1 (ps qs : List Parc) (m : Nat) : (ch1 ps qs m).Nodup := by
  induction m with
  | zero => exact List.nodup_nil
  | succ m ih =>
    unfold ch1
    split
    · exact nd_once ih
    · exact ih
theorem mem_ch1 {ps qs : List Parc} {m : Nat} {z : Int} : z ∈ ch1 ps qs m ↔ ∃ j, j < m ∧ chgB ps qs j = true ∧ (fstP ps j).id = z := by
  induction m with
  | zero => simp [ch1]
  | succ m ih =>
    unfold ch1
    split
    · rename_i h
      rw [mem_once, ih]
      constructor
      · rintro (⟨j, h1, h2⟩ | rfl)
        · exact ⟨j, by omega, h2⟩
        · exact ⟨m, by omega, h, rfl⟩
      · rintro ⟨j, h1, h2, h3⟩
        by_cases e : j = m
        · subst e; exact .inr h3.symm
        · exact .inl ⟨j, by omega, h2, h3⟩
    · rename_i h
      rw [ih]
      constructor
      · rintro ⟨j, h1, h2⟩
        exact ⟨j, by omega, h2⟩
      · rintro ⟨j, h1, h2, h3⟩
        by_cases e : j = m
        · subst e; exact absurd h2 h
        · exact ⟨j, by omega, h2, h3⟩
theorem ch2_same {ps qs : List Parc} {l : List Int} {m : Nat} (h : ∀ j, j < m → ¬ atP ps (pcAt qs j).id < 0) : ch2 ps qs l m = l := by
  induction m with
  | zero => rfl
  | succ m ih =>
    unfold ch2
    rw [if_neg (h m (by omega))]
    exact ih (fun j hj => h j (by omega))
theorem two_of {l : List Int} {a b : Int} (hne : a ≠ b) (hn : l.Nodup) (hm : ∀ z, z ∈ l ↔ z = a ∨ z = b) (hs : l.Pairwise (· ≤ ·)) : l = if b < a then [b, a] else [a, b] := by
  have hp : l.Perm [a, b] := (List.perm_ext_iff_of_nodup hn (by simp [hne])).2 (fun z => by rw [hm]; simp)
  have hl := hp.length_eq
  match l, hl with
  | [x, y], _ =>
    have h1 := (hm x).1 (by simp)
    have h2 := (hm y).1 (by simp)
    simp at hn hs
    rcases h1 with rfl | rfl <;> rcases h2 with rfl | rfl
    · exact absurd rfl hn
    · rw [if_neg (by omega)]
    · rw [if_pos (by omega)]
    · exact absurd rfl hn
theorem areas_law {p : Plan} {a b : Int} (h : joinE p a b = 0) : ∃ (i k n : Nat), SoundP p ∧ SoundP (joinP p a b) ∧ i < p.parcels.length ∧ k < p.parcels.length ∧ n < (joinP p a b).parcels.length ∧ atP p.parcels a = (i : Int) ∧ atP p.parcels b = (k : Int) ∧ atP (joinP p a b).parcels a = (n : Int) ∧ atP (joinP p a b).parcels b = -1 ∧ (joinP p a b).outer = p.outer ∧ (pcAt (joinP p a b).parcels n).owner = (pcAt p.parcels i).owner ∧
    areaZ (pcAt (joinP p a b).parcels n).ring = areaZ (pcAt p.parcels i).ring + areaZ (pcAt p.parcels k).ring ∧ ∀ l : List Int, l.Perm (chL p (joinP p a b)) → l.Pairwise (· ≤ ·) → l = if b < a then [b, a] else [a, b] := by
  obtain ⟨i, k, r, hs, hi, hk, hne, hai, hbk, ha, hb, hr, hp, hq⟩ := joinP_ok h
  obtain ⟨n, hn, hn1, hn2⟩ := atP_one hq.1 (joinQ_mem hi hne)
  have hpm := joinQ_perm (r := r) hi hk hne
  have hPi : pcAt p.parcels i ∈ p.parcels := by rw [pcAt_lt hi]; exact List.getElem_mem hi
  have hPk : pcAt p.parcels k ∈ p.parcels := by rw [pcAt_lt hk]; exact List.getElem_mem hk
  have hab : a ≠ b := fun e => hne (by rw [e] at ha; rw [ha] at hb; omega)
  obtain ⟨R, hR⟩ : ∃ R, R = joinQ p i k r := ⟨_, rfl⟩
  rw [hp]
  rw [← hR] at hn hn1 hn2 hpm hq ⊢
  have hnew : (⟨(pcAt p.parcels i).id, r, (pcAt p.parcels i).owner⟩ : Parc) ∈ R.parcels := by rw [hR]; exact joinQ_mem hi hne
  have hO : R.outer = p.outer := by rw [hR]; rfl
  have hA : areaZ r = areaZ (pcAt p.parcels i).ring + areaZ (pcAt p.parcels k).ring := by
    have e := areasL_perm hpm
    rw [areasL_cons, areasL_cons, areasL_cons, hq.2.2.2.2.2, hs.2.2.2.2.2, hO] at e
    simp only at e
    omega
  have hBp := (checkI_zero (hs.2.2.1 _ hPk).1).2.2.2.1
  have hids : (b :: R.parcels.map (·.id)).Perm (p.parcels.map (·.id)) := by
    have e := hpm.map (·.id)
    simp only [List.map_cons, hai, hbk] at e
    exact (List.perm_cons _).1 e
  have hndp : (p.parcels.map (·.id)).Nodup := by
    have hl0 := hs.1
    unfold listedB at hl0
    simp only [Bool.and_eq_true, decide_eq_true_eq] at hl0
    have := List.pairwise_map.2 (listN_all hl0.1).2
    exact this.imp (fun h => by omega)
  have hbR : ∀ y ∈ R.parcels, y.id ≠ b := fun y hy e => by
    have := hids.nodup_iff.2 hndp
    rw [List.nodup_cons] at this
    exact this.1 (List.mem_map.2 ⟨y, hy, e⟩)
  have hRb : atP R.parcels b = -1 := by
    rcases atP_cases R.parcels b with ⟨e, -⟩ | ⟨j, hj, -, e⟩
    · exact e
    · exact absurd e (hbR _ (by rw [pcAt_lt hj]; exact List.getElem_mem hj))
  refine ⟨i, k, n, hs, hq, hi, hk, hn, ha, hb, by rw [← hai]; exact hn1, hRb, hO, by rw [hn2], by rw [hn2]; exact hA, fun l hl hls => ?_⟩
  have hfst : ∀ m, m < p.parcels.length → fstP p.parcels m = pcAt p.parcels m := fun m hm => by
    obtain ⟨j, -, h1, h2⟩ := atP_one hs.1 (show pcAt p.parcels m ∈ p.parcels by rw [pcAt_lt hm]; exact List.getElem_mem hm)
    unfold fstP
    rw [h1]
    exact h2
  have hin : ∀ y ∈ R.parcels, ∃ x ∈ p.parcels, x.id = y.id := fun y hy => by
    rw [hR] at hy
    rcases joinQ_pc hy with h | rfl
    · exact ⟨y, h, rfl⟩
    · exact ⟨_, hPi, rfl⟩
  have hch2 : chL p R = ch1 p.parcels R.parcels p.parcels.length := by
    unfold chL
    refine ch2_same fun j hj => ?_
    obtain ⟨x, hx, e⟩ := hin (pcAt R.parcels j) (by rw [pcAt_lt hj]; exact List.getElem_mem hj)
    obtain ⟨t, -, ht, -⟩ := atP_one hs.1 hx
    rw [← e, ht]
    omega
  rw [hch2] at hl
  refine two_of hab (hl.nodup_iff.2 (nd_ch1 _ _ _)) (fun z => ?_) hls
  rw [hl.mem_iff, mem_ch1]
  constructor
  · rintro ⟨m, hm, hc, rfl⟩
    rw [hfst m hm]
    by_cases e1 : (pcAt p.parcels m).id = a
    · exact .inl e1
    by_cases e2 : (pcAt p.parcels m).id = b
    · exact .inr e2
    exfalso
    have hxR : pcAt p.parcels m ∈ R.parcels := by
      have hx : pcAt p.parcels m ∈ p.parcels := by rw [pcAt_lt hm]; exact List.getElem_mem hm
      have := hpm.mem_iff.2 (List.mem_cons_of_mem _ hx)
      rcases List.mem_cons.1 this with e | h'
      · exact absurd (by rw [e]; exact hai) e1
      rcases List.mem_cons.1 h' with e | h''
      · exact absurd (by rw [e]; exact hbk) e2
      · exact h''
    obtain ⟨j, -, h1, h2⟩ := atP_one hq.1 hxR
    unfold chgB at hc
    rw [hfst m hm, h1, Int.toNat_natCast, h2, pcEq_self] at hc
    simp at hc
    omega
  · rintro (rfl | rfl)
    · refine ⟨i, hi, ?_, by rw [hfst i hi]; exact hai⟩
      unfold chgB
      rw [hfst i hi, hn1, Int.toNat_natCast, hn2]
      have : pcEq (pcAt p.parcels i) ⟨(pcAt p.parcels i).id, r, (pcAt p.parcels i).owner⟩ = false := by
        rw [Bool.eq_false_iff]
        intro e
        have e := pcEq_iff.1 e
        have e2 : areaZ (pcAt p.parcels i).ring = areaZ r := by rw [e]
        omega
      rw [this]
      simp
    · refine ⟨k, hk, ?_, by rw [hfst k hk]; exact hbk⟩
      unfold chgB
      rw [hfst k hk, hbk]
      simp [hRb]
end Go.Proofs.YtgkcenhopmjmlaaGreat
namespace Go.Proofs.YtgkcenhopmjmlaaGreat
open Go.RowKit Go.Lib
def JeF (p : Plan) (A : Option Addr) (n c : Nat) (A' : Option Addr) (n' c' : Nat) (w W : World) : Prop := Below w.heap.size w W ∧ PlK W w.heap.size A n c A' n' c' ∧ PlanAt W W.heap.size A n c A' n' c' p
theorem JeF.on {p : Plan} {A A' : Option Addr} {n c n' c' : Nat} {w W W' : World} (h : JeF p A n c A' n' c' w W) (hb : Below W.heap.size W W') : JeF p A n c A' n' c' w W' := ⟨below_on h.1 (Nat.le_refl _) hb, h.2.1.on hb, h.2.2.on hb⟩
def BxF (R : Plan) (B : Nat) (A : Option Addr) (n c : Nat) (A' : Option Addr) (n' c' : Nat) (W : World) : Prop := PlK W B A n c A' n' c' ∧ PlanAt W W.heap.size A n c A' n' c' R
theorem BxF.on {R : Plan} {B : Nat} {A A' : Option Addr} {n c n' c' : Nat} {W W' : World} (h : BxF R B A n c A' n' c' W) (hb : Below W.heap.size W W') : BxF R B A n c A' n' c' W' := ⟨h.1.on hb, h.2.on hb⟩
def BW (W : World) (g : Nat) (h l : Int) : Prop := Blk W g 41 #[.int .i64 h, .int .u64 l]
theorem BW.on {W W' : World} {g : Nat} {h l : Int} (k : BW W g h l) (hb : Below W.heap.size W W') : BW W' g h l := Blk.below k hb (Blk.lt k)
theorem BW.facts {W : World} {g : Nat} {h l : Int} (k : BW W g h l) : W.cell? ⟨g, 0, none⟩ = some (.int .i64 h) ∧ W.cell? ⟨g, 1, none⟩ = some (.int .u64 l) := ⟨Blk.cell k 0, Blk.cell k 1⟩
theorem BW.new (W : World) (h l : Int) : BW (W.alloc (.cells #[.int .i64 h, .int .u64 l] 41)) W.heap.size h l := Blk.new W _ _
def srt2 (a b : Int) : List Int := if b < a then [b, a] else [a, b]
set_option maxRecDepth 100000 in
theorem sorted_any (a b : Int) (w : World) : Calls Tryz.prog 27 #[.int .i64 a, .int .i64 b] w fun e w' => ∃ A, e = .returned (.slice A 2 2) ∧ Reads w' w'.heap.size 1 A 2 (intsV (srt2 a b)) ∧ Below w.heap.size w w' := by
  go_enter Tryz.func27, Tryz.ntmps27
  unfold srt2
  by_cases h : b < a
  · rw [if_pos h]
    have hr := Reads.made w #[.int .i64 b, .int .i64 a] 3 (0, 0) 1 2 (intsV [b, a]) rfl rfl
    have HR := Lib.hid hr
    clear hr
    go_wp2_with fail
    go_ret
    exact ⟨_, rfl, HR.out, (Below.refl _ _).alloc (Nat.le_refl _) _⟩
  · rw [if_neg h]
    have hr := Reads.made w #[.int .i64 a, .int .i64 b] 3 (0, 0) 1 2 (intsV [a, b]) rfl rfl
    have HR := Lib.hid hr
    clear hr
    go_wp2_with fail
    go_ret
    exact ⟨_, rfl, HR.out, (Below.refl _ _).alloc (Nat.le_refl _) _⟩
theorem area_facts {p : Plan} {W : World} {A A' : Option Addr} {n c n' c' i : Nat} (h : PlanAt W W.heap.size A n c A' n' c' p) (hs : SoundP p) (hi : i < p.parcels.length) :
    (∀ Ar nr cr (V : World), Reads V V.heap.size 2 Ar nr (ptsV (pcAt p.parcels i).ring) → Calls Tryz.prog 23 #[.slice Ar nr cr] V fun e w' => e = .returned (.tuple #[i128 (areaZ (pcAt p.parcels i).ring), .int .i64 0]) ∧ Below V.heap.size V w') ∧ (-1180591620717411303424 ≤ areaZ (pcAt p.parcels i).ring ∧ areaZ (pcAt p.parcels i).ring ≤ 1180591620717411303424) ∧ (pcAt p.parcels i) ∈ p.parcels := by
  have hm : pcAt p.parcels i ∈ p.parcels := by rw [pcAt_lt hi]; exact List.getElem_mem hi
  have hA := norm_area (hs.2.2.1 _ hm)
  have hf := h.fits.2.2 _ hm
  refine ⟨fun Ar nr cr V hr => ?_, areaZ_bd hA, hm⟩
  have k := areaR_any _ Ar nr cr V hr (by have := hr.lenPt; have := hf.1; omega) hf.2.1
  rwa [areaV_ok hA, hA] at k
theorem hldE4 {W V V' : World} {a0 a1 a2 a3 : Addr} {v0 v1 v2 v3 : Value} (hh : a0.block < W.heap.size ∧ a1.block < W.heap.size ∧ a2.block < W.heap.size ∧ a3.block < W.heap.size) (hs : V.cell? a0 = some v0 ∧ V.cell? a1 = some v1 ∧ V.cell? a2 = some v2 ∧ V.cell? a3 = some v3 ∧ Below W.heap.size W V) (hb : Below V.heap.size V V') :
    V'.cell? a0 = some v0 ∧ V'.cell? a1 = some v1 ∧ V'.cell? a2 = some v2 ∧ V'.cell? a3 = some v3 ∧ Below W.heap.size W V' := by
  obtain ⟨h0, h1, h2, h3⟩ := hh
  obtain ⟨c0, c1, c2, c3, cb⟩ := hs
  have := cb.size
  have k : ∀ {a : Addr} {v : Value}, a.block < W.heap.size → V.cell? a = some v → V'.cell? a = some v := fun {a v} ha hv => (hb.cell (p := a) (by omega)).trans hv
  exact ⟨k h0 c0, k h1 c1, k h2 c2, k h3 c3, below_on cb (Nat.le_refl _) hb⟩
theorem hldE6 {W V V' : World} {a0 a1 a2 a3 a4 a5 : Addr} {v0 v1 v2 v3 v4 v5 : Value} (hh : a0.block < W.heap.size ∧ a1.block < W.heap.size ∧ a2.block < W.heap.size ∧ a3.block < W.heap.size ∧ a4.block < W.heap.size ∧ a5.block < W.heap.size) (hs : V.cell? a0 = some v0 ∧ V.cell? a1 = some v1 ∧ V.cell? a2 = some v2 ∧ V.cell? a3 = some v3 ∧ V.cell? a4 = some v4 ∧ V.cell? a5 = some v5 ∧ Below W.heap.size W V) (hb : Below V.heap.size V V') :
    V'.cell? a0 = some v0 ∧ V'.cell? a1 = some v1 ∧ V'.cell? a2 = some v2 ∧ V'.cell? a3 = some v3 ∧ V'.cell? a4 = some v4 ∧ V'.cell? a5 = some v5 ∧ Below W.heap.size W V' := by
  obtain ⟨h0, h1, h2, h3, h4, h5⟩ := hh
  obtain ⟨c0, c1, c2, c3, c4, c5, cb⟩ := hs
  have := cb.size
  have k : ∀ {a : Addr} {v : Value}, a.block < W.heap.size → V.cell? a = some v → V'.cell? a = some v := fun {a v} ha hv => (hb.cell (p := a) (by omega)).trans hv
  exact ⟨k h0 c0, k h1 c1, k h2 c2, k h3 c3, k h4 c4, k h5 c5, below_on cb (Nat.le_refl _) hb⟩
set_option maxRecDepth 100000 in
set_option maxHeartbeats 3200000 in
theorem joinAreas_any (p : Plan) (a b : Int) (A A' : Option Addr) (n c n' c' : Nat) (w : World) (h : PlanAt w w.heap.size A n c A' n' c' p) :
    Calls Tryz.prog 4 #[planV A n c A' n' c', .int .i64 a, .int .i64 b] w fun e w' => e = .returned (.bool true) ∧ Below w.heap.size w w' := by
  obtain ⟨wa, hwa⟩ : ∃ wa : World, wa = w.alloc (.cells #[.slice A n c, .slice A' n' c'] 26) := ⟨_, rfl⟩
  have hF : JeF p A n c A' n' c' w wa := by
    have hB0 : Below w.heap.size w wa := by rw [hwa]; exact (Below.refl _ _).alloc (Nat.le_refl _) _
    exact ⟨hB0, by rw [hwa]; exact PlK.new w A n c A' n' c', h.on hB0⟩
  have H0 := Lib.hid hF
  clear hF h
  go_enter Tryz.func4, Tryz.ntmps4
  go_upto_region 1 with fail
  rw [← hwa]
  clear hwa
  go_wp2_with (go_at_call 14; (with_reducible refine (ans07_any _).mono ?_); rintro e w1 ⟨rfl, hb1⟩; have H1 := Lib.hid (H0.out.on hb1); obtain ⟨q1, q2, q3⟩ := H1.out.2.1.facts; clear hb1 H0)
  refine (few7_any p A A' n c n' c' w1 H1.out.2.2).mono ?_
  rintro e w2 ⟨fb, rfl, hsm, hb2⟩
  have H2 := Lib.hid (H1.out.on hb2)
  clear hb2 q1 q2 q3 H1
  rcases fb with _ | _
  · clear hsm
    go_wp2_with fail
    refine (ans07_any _).mono ?_
    rintro e w3 ⟨rfl, hb3⟩
    have HB := Lib.hid (below_on H2.out.1 (Nat.le_refl _) hb3)
    clear hb3 H2
    go_wp2_with fail
    go_ret
    exact ⟨rfl, HB.out⟩
  have hn' : n' ≤ 1048576 := by have := (hsm rfl).1; omega
  clear hsm
  have KO := Lib.hid (ownPl_any p A A' n c n' c' w2 H2.out.2.2 hn')
  obtain ⟨z, hz⟩ : ∃ z, z = joinE p a b := ⟨_, rfl⟩
  obtain ⟨R, hR⟩ : ∃ R, R = joinP p a b := ⟨_, rfl⟩
  have HZ := Lib.hid (And.intro hz hR)
  clear hz hR
  obtain ⟨q1, q2, q3⟩ := H2.out.2.1.facts
  go_wp2_with fail
  refine KO.out.mono ?_
  rintro e w3 ⟨A1, n1, c1, A2, n2, c2, rfl, hP3, hb3⟩
  have kM := mergeP_any p a b A1 A2 n1 c1 n2 c2 w3 hP3
  rw [← HZ.out.1, ← HZ.out.2] at kM
  have KM := Lib.hid kM
  have H3 := Lib.hid (H2.out.on hb3)
  clear hP3 hb3 kM KO H2 q1 q2 q3
  go_wp2_with fail
  refine KM.out.mono ?_
  rintro e w4 ⟨A3, n3, c3, A4, n4, c4, hs, rfl, hpo, hb4⟩
  have hba : Below w4.heap.size w4 (w4.alloc (.cells #[.slice A3 n3 c3, .slice A4 n4 c4] 26)) := (Below.refl _ _).alloc (Nat.le_refl _) _
  have H5 := Lib.hid (And.intro ((H3.out.on hb4).on hba) (show BxF R w4.heap.size A3 n3 c3 A4 n4 c4 _ from ⟨PlK.new w4 A3 n3 c3 A4 n4 c4, (hpo.below hba).at_⟩))
  obtain ⟨W, hw5⟩ : ∃ w5, w5 = w4.alloc (.cells #[.slice A3 n3 c3, .slice A4 n4 c4] 26) := ⟨_, rfl⟩
  obtain ⟨B5, hB5⟩ : ∃ B, B = w4.heap.size := ⟨_, rfl⟩
  rw [← hw5, ← hB5] at H5
  clear hba hpo hb4 KM H3
  go_upto_region 4 with fail
  rw [← hw5, ← hB5]
  clear hw5 hB5
  by_cases hz0 : z = 0
  case neg =>
    have hz1 : (z == 0) = false := by rw [beq_eq_false_iff_ne]; exact hz0
    have hR0 : R = ⟨[], []⟩ := by rw [HZ.out.2]; exact joinP_no HZ.out.1.symm hz0
    have kS := samePl_any R ⟨[], []⟩ A3 A4 none none n3 c3 n4 c4 0 0 0 0 W H5.out.2.2 (planAt_nil W)
    rw [← hR0, plEq_self] at kS
    have KS := Lib.hid kS
    obtain ⟨x1, x2, x3⟩ := H5.out.2.1.facts
    clear hR0 kS
    go_wp2_with fail
    refine KS.out.mono ?_
    rintro e w8 ⟨rfl, hb8⟩
    have HB := Lib.hid (below_on H5.out.1.1 (Nat.le_refl _) hb8)
    clear hb8 H5 KS x1 x2 x3
    go_wp2_with fail
    go_ret
    exact ⟨by first | rfl | simp, HB.out⟩
  have HE := Lib.hid (areas_law (p := p) (a := a) (b := b) (by rw [← HZ.out.1]; exact hz0))
  subst hz0
  obtain ⟨q1, q2, q3⟩ := H5.out.1.2.1.facts
  obtain ⟨x1, x2, x3⟩ := H5.out.2.1.facts
  obtain ⟨za, hza⟩ : ∃ z, z = atP p.parcels a := ⟨_, rfl⟩
  obtain ⟨zb, hzb⟩ : ∃ z, z = atP p.parcels b := ⟨_, rfl⟩
  obtain ⟨zc, hzc⟩ : ∃ z, z = atP R.parcels a := ⟨_, rfl⟩
  have kA := fun V (hV : Below W.heap.size W V) => atR_any p a A A' n c n' c' V (H5.out.1.on hV).2.2
  have kB := fun V (hV : Below W.heap.size W V) => atR_any p b A A' n c n' c' V (H5.out.1.on hV).2.2
  have kC := fun V (hV : Below W.heap.size W V) => atR_any R a A3 A4 n3 c3 n4 c4 V (H5.out.2.on hV).2
  rw [← hza] at kA
  rw [← hzb] at kB
  rw [← hzc] at kC
  have HAB := Lib.hid (And.intro hza (And.intro hzb hzc))
  have hP0 : W.drew.cell? ⟨w.heap.size, 0, none⟩ = some (.slice A n c) ∧ W.drew.cell? ⟨w.heap.size, 1, none⟩ = some (.slice A' n' c') ∧ W.drew.cell? ⟨B5, 0, none⟩ = some (.slice A3 n3 c3) ∧ W.drew.cell? ⟨B5, 1, none⟩ = some (.slice A4 n4 c4) ∧ Below W.heap.size W W.drew := ⟨q1, q2, x1, x2, (Below.refl _ _).drew⟩
  have hh : (⟨w.heap.size, 0, none⟩ : Addr).block < W.heap.size ∧ (⟨w.heap.size, 1, none⟩ : Addr).block < W.heap.size ∧ (⟨B5, 0, none⟩ : Addr).block < W.heap.size ∧ (⟨B5, 1, none⟩ : Addr).block < W.heap.size := ⟨q3, q3, x3, x3⟩
  clear hza hzb hzc q1 q2 q3 x1 x2 x3
  go_upto_region 6 with fail
  go_cut [9, 10, 11] (fun x y v wx => x = .int .i64 za ∧ y = .int .i64 zb ∧ v = .int .i64 zc ∧ Below W.heap.size W wx)
  case first =>
    refine wp_region_held_drew (S := fun V => V.cell? ⟨w.heap.size, 0, none⟩ = some (.slice A n c) ∧ V.cell? ⟨w.heap.size, 1, none⟩ = some (.slice A' n' c') ∧ V.cell? ⟨B5, 0, none⟩ = some (.slice A3 n3 c3) ∧ V.cell? ⟨B5, 1, none⟩ = some (.slice A4 n4 c4) ∧ Below W.heap.size W V) (by kernel_rfl) ?_ (fun hHeld => ?_)
    · exact hP0
    refine tk 0 ?_
    refine tk 1 ?_
    refine tk 3 ?_
    refine tk 4 ?_
    refine tk 6 ?_
    refine tk 7 ?_
    refine wpAnyH_ready (rs := [2]) (by kernel_rfl) (by simp) ?_
    refine AllReadyH.cons rfl (fun K hK => ?_) AllReadyH.nil
    go_simp
    go_at_call 20
    (with_reducible refine (kA _ ((Below.refl _ _).drew)).mono ?_)
    rintro e v2 ⟨rfl, hb2⟩
    try dsimp only
    refine hK.out _ _ ?_ (fun hHeld => ?_)
    · exact hldE4 hh hHeld hb2
    clear hK K
    try simp only [Act.put, List.setIfInBounds_toArray, List.set_cons_zero, List.set_cons_succ]
    refine wpAnyH_ready (rs := [5]) (by kernel_rfl) (by simp) ?_
    refine AllReadyH.cons rfl (fun K hK => ?_) AllReadyH.nil
    go_simp
    go_at_call 20
    (with_reducible refine (kB _ (hHeld.2.2.2.2)).mono ?_)
    rintro e v5 ⟨rfl, hb5⟩
    try dsimp only
    refine hK.out _ _ ?_ (fun hHeld => ?_)
    · exact hldE4 hh hHeld hb5
    clear hK K
    try simp only [Act.put, List.setIfInBounds_toArray, List.set_cons_zero, List.set_cons_succ]
    refine wpAnyH_ready (rs := [8]) (by kernel_rfl) (by simp) ?_
    refine AllReadyH.cons rfl (fun K hK => ?_) AllReadyH.nil
    go_simp
    go_at_call 20
    (with_reducible refine (kC _ (hHeld.2.2.2.2)).mono ?_)
    rintro e v8 ⟨rfl, hb8⟩
    try dsimp only
    refine hK.out _ _ ?_ (fun hHeld => ?_)
    · exact hldE4 hh hHeld hb8
    clear hK K
    try simp only [Act.put, List.setIfInBounds_toArray, List.set_cons_zero, List.set_cons_succ]
    refine tk 9 ?_
    refine tk 10 ?_
    refine tk 11 ?_
    refine wpAnyH_done (by kernel_rfl) ?_ _
    go_wp2_with fail
    go_meet
    exact ⟨rfl, rfl, rfl, hHeld.2.2.2.2⟩
  case rest =>
    obtain ⟨rfl, rfl, rfl, hbc⟩ := hcut
    obtain ⟨i, k, l, hs, hsR, hi, hk, hl, ea, eb, ec, ed, eo, ew, ear, ech⟩ := HE.out
    rw [← HZ.out.2] at hsR hl ec ed eo ew ear ech
    have hza : za = (i : Int) := HAB.out.1.trans ea
    have hzb : zb = (k : Int) := HAB.out.2.1.trans eb
    have hzc : zc = (l : Int) := HAB.out.2.2.trans ec
    subst hza hzb hzc
    obtain ⟨X, rfl⟩ : ∃ X, X = wc := ⟨_, rfl⟩
    have HX := Lib.hid (And.intro (H5.out.1.on hbc) (H5.out.2.on hbc))
    clear kA kB kC hP0 hh hbc H5 HE HAB ea eb ec
    obtain ⟨q1, q2, q3⟩ := HX.out.1.2.1.facts
    obtain ⟨x1, x2, x3⟩ := HX.out.2.1.facts
    have hlp := HX.out.1.2.2.lens
    have hlr := HX.out.2.2.lens
    have hi' : i < n' := by omega
    have hk' : k < n' := by omega
    have hl' : l < n4 := by omega
    have hii : (i : Int) < (n' : Int) := by omega
    have hki : (k : Int) < (n' : Int) := by omega
    have hli : (l : Int) < (n4 : Int) := by omega
    have hn4 : n4 ≤ 1048576 := by have := (listed_bd hsR.1).2.1; omega
    obtain ⟨ad, rfl⟩ := HX.out.1.2.2.parcs.some_ (show 0 < n' by omega)
    obtain ⟨a4, rfl⟩ := HX.out.2.2.parcs.some_ (show 0 < n4 by omega)
    obtain ⟨had, -, -, pw⟩ := HX.out.1.2.2.parcs.at_ hi'
    obtain ⟨ha4, -, -, rw_⟩ := HX.out.2.2.parcs.at_ hl'
    rw [ew] at rw_
    obtain ⟨ow, how⟩ : ∃ s, s = (pcAt p.parcels i).owner := ⟨_, rfl⟩
    rw [← how] at pw rw_
    have ho3 := HX.out.1.2.2.outer
    have ho7 := HX.out.2.2.outer
    rw [eo] at ho7
    have kA := fun V (hV : Below X.heap.size X V) => atR_any R b A3 (some a4) n3 c3 n4 c4 V (HX.out.2.on hV).2
    rw [ed] at kA
    have kC := fun V (hV : Below X.heap.size X V) => checkPR_any R A3 (some a4) n3 c3 n4 c4 V (HX.out.2.on hV).2
    rw [planB_of hsR] at kC
    have kO := fun V (hV : Below X.heap.size X V) => sameR_any _ _ A3 A n3 n c3 c V (ho7.on hV) (ho3.on hV) (by omega) (by omega)
    simp only [decide_true] at kO
    have hP0 : X.drew.cell? ⟨w.heap.size, 0, none⟩ = some (.slice A n c) ∧ X.drew.cell? ⟨w.heap.size, 1, none⟩ = some (.slice (some ad) n' c') ∧ X.drew.cell? ⟨B5, 0, none⟩ = some (.slice A3 n3 c3) ∧ X.drew.cell? ⟨B5, 1, none⟩ = some (.slice (some a4) n4 c4) ∧ X.drew.cell? ⟨(ad.add (i * 3)).block, (ad.add (i * 3)).off + 2, none⟩ = some (.string ow) ∧ X.drew.cell? ⟨(a4.add (l * 3)).block, (a4.add (l * 3)).off + 2, none⟩ = some (.string ow) ∧ Below X.heap.size X X.drew := ⟨q1, q2, x1, x2, pw, rw_, (Below.refl _ _).drew⟩
    have hh : (⟨w.heap.size, 0, none⟩ : Addr).block < X.heap.size ∧ (⟨w.heap.size, 1, none⟩ : Addr).block < X.heap.size ∧ (⟨B5, 0, none⟩ : Addr).block < X.heap.size ∧ (⟨B5, 1, none⟩ : Addr).block < X.heap.size ∧ (⟨(ad.add (i * 3)).block, (ad.add (i * 3)).off + 2, none⟩ : Addr).block < X.heap.size ∧ (⟨(a4.add (l * 3)).block, (a4.add (l * 3)).off + 2, none⟩ : Addr).block < X.heap.size := ⟨q3, q3, x3, x3, by simp only [block_of_add]; exact had, by simp only [block_of_add]; exact ha4⟩
    have HS := Lib.hid (And.intro hs (And.intro hsR (And.intro hi (And.intro hk (And.intro hl (And.intro ear ech))))))
    clear q1 q2 q3 x1 x2 x3 pw rw_ had ha4 how ho3 ho7 eo ew ed hs hsR hi hk hl hlp hlr ear ech
    go_upto_region 7 with fail
    go_cut [93] (fun s wx => s = .bool false ∧ Below X.heap.size X wx)
    case first =>
      refine wp_region_held_drew (S := fun V => V.cell? ⟨w.heap.size, 0, none⟩ = some (.slice A n c) ∧ V.cell? ⟨w.heap.size, 1, none⟩ = some (.slice (some ad) n' c') ∧ V.cell? ⟨B5, 0, none⟩ = some (.slice A3 n3 c3) ∧ V.cell? ⟨B5, 1, none⟩ = some (.slice (some a4) n4 c4) ∧ V.cell? ⟨(ad.add (i * 3)).block, (ad.add (i * 3)).off + 2, none⟩ = some (.string ow) ∧ V.cell? ⟨(a4.add (l * 3)).block, (a4.add (l * 3)).off + 2, none⟩ = some (.string ow) ∧ Below X.heap.size X V) (by kernel_rfl) ?_ (fun hHeld => ?_)
      · exact hP0
      refine tk 0 ?_
      refine tk 1 ?_
      refine tk 2 ?_
      refine tk 3 ?_
      refine tk 4 ?_
      refine tk 5 ?_
      refine tk 6 ?_
      refine tk 7 ?_
      refine tk 8 ?_
      refine tk 9 ?_
      refine tk 10 ?_
      refine tk 11 ?_
      refine tk 12 ?_
      refine wpAnyH_ready (rs := [13]) (by kernel_rfl) (by simp) ?_
      refine AllReadyH.cons rfl (fun K hK => ?_) AllReadyH.nil
      go_simp
      go_at_call 20
      (with_reducible refine (kA _ (Below.refl _ _).drew).mono ?_)
      rintro e v1 ⟨rfl, hb1⟩
      try dsimp only
      refine hK.out _ _ ?_ (fun hHeld => ?_)
      · exact hldE6 hh hHeld hb1
      clear hK K
      try simp only [Act.put, List.setIfInBounds_toArray, List.set_cons_zero, List.set_cons_succ]
      refine tk 14 ?_
      refine tk 15 ?_
      refine tk 16 ?_
      refine tk 17 ?_
      refine wpAnyH_ready (rs := [18]) (by kernel_rfl) (by simp) ?_
      refine AllReadyH.cons rfl (fun K hK => ?_) AllReadyH.nil
      go_simp
      go_at_call 21
      (with_reducible refine (kC _ hHeld.2.2.2.2.2.2).mono ?_)
      rintro e v2 ⟨rfl, hb2⟩
      try dsimp only
      refine hK.out _ _ ?_ (fun hHeld => ?_)
      · exact hldE6 hh hHeld hb2
      clear hK K
      try simp only [Act.put, List.setIfInBounds_toArray, List.set_cons_zero, List.set_cons_succ]
      refine tk 19 ?_
      refine tk 20 ?_
      refine tk 21 ?_
      refine tk 22 ?_
      refine tk 23 ?_
      refine tk 24 ?_
      refine tk 25 ?_
      refine wpAnyH_ready (rs := [26]) (by kernel_rfl) (by simp) ?_
      refine AllReadyH.cons rfl (fun K hK => ?_) AllReadyH.nil
      go_simp
      go_at_call 22
      (with_reducible refine (kO _ hHeld.2.2.2.2.2.2).mono ?_)
      rintro e v3 ⟨rfl, hb3⟩
      try dsimp only
      refine hK.out _ _ ?_ (fun hHeld => ?_)
      · exact hldE6 hh hHeld hb3
      clear hK K
      try simp only [Act.put, List.setIfInBounds_toArray, List.set_cons_zero, List.set_cons_succ]
      refine tk 27 ?_
      refine tk 28 ?_
      refine tk 29 ?_
      refine tk 30 ?_
      refine tk 31 ?_
      refine tk 32 ?_
      refine tk 33 ?_
      refine tk 34 ?_
      refine tk 35 ?_
      refine tk 36 ?_
      refine tk 37 ?_
      refine tk 38 ?_
      refine tk 39 ?_
      refine tk 40 ?_
      refine tk 41 ?_
      refine tk 42 ?_
      refine tk 43 ?_
      refine wpAnyH_done (by kernel_rfl) ?_ _
      go_wp2_with fail
      go_meet
      exact ⟨rfl, hHeld.2.2.2.2.2.2⟩
    case rest =>
      obtain ⟨rfl, hbc⟩ := hcut
      have HY := Lib.hid (And.intro (HX.out.1.on hbc) (HX.out.2.on hbc))
      clear kA kC kO hP0 hh hbc HX
      obtain ⟨X, rfl⟩ : ∃ X, X = wc := ⟨_, rfl⟩
      obtain ⟨i1, i2, i3⟩ := area_facts HY.out.1.2.2 HS.out.1 HS.out.2.2.1
      obtain ⟨k1, k2, k3⟩ := area_facts HY.out.1.2.2 HS.out.1 HS.out.2.2.2.1
      obtain ⟨l1, l2, l3⟩ := area_facts HY.out.2.2 HS.out.2.1 HS.out.2.2.2.2.1
      obtain ⟨z1, hz1⟩ : ∃ z, z = areaZ (pcAt p.parcels i).ring := ⟨_, rfl⟩
      obtain ⟨z2, hz2⟩ : ∃ z, z = areaZ (pcAt p.parcels k).ring := ⟨_, rfl⟩
      obtain ⟨z3, hz3⟩ : ∃ z, z = areaZ (pcAt R.parcels l).ring := ⟨_, rfl⟩
      have h123 : z3 = z1 + z2 := by rw [hz1, hz2, hz3]; exact HS.out.2.2.2.2.2.1
      rw [← hz1] at i1 i2
      rw [← hz2] at k1 k2
      rw [← hz3] at l1 l2
      have kP := fun V => addR_any z1 z2 V (by unfold small; omega) (by unfold small; omega) (by unfold small; omega)
      rw [← h123] at kP
      clear h123 hz1 hz2 hz3 i2 k2 l2
      unfold i128 at i1 k1 l1 kP
      generalize z1 / 18446744073709551616 = u1 at *
      generalize z1 % 18446744073709551616 = v1 at *
      generalize z2 / 18446744073709551616 = u2 at *
      generalize z2 % 18446744073709551616 = v2 at *
      generalize z3 / 18446744073709551616 = u3 at *
      generalize z3 % 18446744073709551616 = v3 at *
      have KI := Lib.hid (And.intro i1 (And.intro k1 l1))
      have KP := Lib.hid kP
      clear i1 i3 k1 k3 l1 l3 kP
      obtain ⟨q1, q2, -⟩ := HY.out.1.2.1.facts
      obtain ⟨-, -, ⟨Ar, nr, cr, p4, hr4, -, -⟩, -⟩ := HY.out.1.2.2.parcs.at_ hi'
      have KA := Lib.hid (KI.out.1 Ar nr cr X hr4)
      clear hr4
      go_wp2_with fail
      refine KA.out.mono ?_
      rintro e w9 ⟨rfl, hb9⟩
      clear KA q1 q2 p4
      have hba : Below w9.heap.size w9 (w9.alloc (.cells #[.int .i64 u1, .int .u64 v1] 41)) := (Below.refl _ _).alloc (Nat.le_refl _) _
      have H1 := Lib.hid (And.intro (And.intro ((HY.out.1.on hb9).on hba) ((HY.out.2.on hb9).on hba)) (BW.new w9 u1 v1))
      obtain ⟨X9, hX9⟩ : ∃ X, X = w9.alloc (.cells #[.int .i64 u1, .int .u64 v1] 41) := ⟨_, rfl⟩
      obtain ⟨G1, hG1⟩ : ∃ g, g = w9.heap.size := ⟨_, rfl⟩
      rw [← hX9, ← hG1] at H1
      clear hba hb9 HY
      go_upto_region 10 with fail
      rw [← hX9, ← hG1]
      clear hX9 hG1
      obtain ⟨X, rfl⟩ : ∃ X, X = X9 := ⟨_, rfl⟩
      obtain ⟨q1, q2, -⟩ := H1.out.1.1.2.1.facts
      obtain ⟨-, -, ⟨Ar, nr, cr, p4, hr4, -, -⟩, -⟩ := H1.out.1.1.2.2.parcs.at_ hk'
      have KA := Lib.hid (KI.out.2.1 Ar nr cr X hr4)
      clear hr4
      go_wp2_with fail
      refine KA.out.mono ?_
      rintro e w9 ⟨rfl, hb9⟩
      clear KA q1 q2 p4
      have hba : Below w9.heap.size w9 (w9.alloc (.cells #[.int .i64 u2, .int .u64 v2] 41)) := (Below.refl _ _).alloc (Nat.le_refl _) _
      have H2 := Lib.hid (And.intro (And.intro ((H1.out.1.1.on hb9).on hba) ((H1.out.1.2.on hb9).on hba)) (And.intro ((H1.out.2.on hb9).on hba) (BW.new w9 u2 v2)))
      obtain ⟨X9, hX9⟩ : ∃ X, X = w9.alloc (.cells #[.int .i64 u2, .int .u64 v2] 41) := ⟨_, rfl⟩
      obtain ⟨G2, hG2⟩ : ∃ g, g = w9.heap.size := ⟨_, rfl⟩
      rw [← hX9, ← hG2] at H2
      clear hba hb9 H1
      go_upto_region 11 with fail
      rw [← hX9, ← hG2]
      clear hX9 hG2
      obtain ⟨X, rfl⟩ : ∃ X, X = X9 := ⟨_, rfl⟩
      obtain ⟨q1, q2, -⟩ := H2.out.1.2.1.facts
      obtain ⟨-, -, ⟨Ar, nr, cr, p4, hr4, -, -⟩, -⟩ := H2.out.1.2.2.parcs.at_ hl'
      have KA := Lib.hid (KI.out.2.2 Ar nr cr X hr4)
      clear hr4
      go_wp2_with fail
      refine KA.out.mono ?_
      rintro e w9 ⟨rfl, hb9⟩
      clear KA q1 q2 p4
      have hba : Below w9.heap.size w9 (w9.alloc (.cells #[.int .i64 u3, .int .u64 v3] 41)) := (Below.refl _ _).alloc (Nat.le_refl _) _
      have H3 := Lib.hid (And.intro (And.intro ((H2.out.1.1.on hb9).on hba) ((H2.out.1.2.on hb9).on hba)) (And.intro ((H2.out.2.1.on hb9).on hba) (And.intro ((H2.out.2.2.on hb9).on hba) (BW.new w9 u3 v3))))
      obtain ⟨X9, hX9⟩ : ∃ X, X = w9.alloc (.cells #[.int .i64 u3, .int .u64 v3] 41) := ⟨_, rfl⟩
      obtain ⟨G3, hG3⟩ : ∃ g, g = w9.heap.size := ⟨_, rfl⟩
      rw [← hX9, ← hG3] at H3
      clear hba hb9 H2
      go_upto_region 12 with fail
      rw [← hX9, ← hG3]
      clear hX9 hG3
      obtain ⟨X, rfl⟩ : ∃ X, X = X9 := ⟨_, rfl⟩
      obtain ⟨g1, g2⟩ := H3.out.2.1.facts
      obtain ⟨g3, g4⟩ := H3.out.2.2.1.facts
      have KP := Lib.hid (KP.out X)
      go_wp2_with fail
      refine KP.out.mono ?_
      rintro e w9 ⟨rfl, hb9⟩
      clear KP g1 g2 g3 g4
      have hba : Below w9.heap.size w9 (w9.alloc (.cells #[.int .i64 u3, .int .u64 v3] 41)) := (Below.refl _ _).alloc (Nat.le_refl _) _
      have H4 := Lib.hid (And.intro (And.intro ((H3.out.1.1.on hb9).on hba) ((H3.out.1.2.on hb9).on hba)) (And.intro ((H3.out.2.2.2.on hb9).on hba) (BW.new w9 u3 v3)))
      obtain ⟨X9, hX9⟩ : ∃ X, X = w9.alloc (.cells #[.int .i64 u3, .int .u64 v3] 41) := ⟨_, rfl⟩
      obtain ⟨G4, hG4⟩ : ∃ g, g = w9.heap.size := ⟨_, rfl⟩
      rw [← hX9, ← hG4] at H4
      clear hba hb9 H3
      go_upto_region 13 with fail
      rw [← hX9, ← hG4]
      clear hX9 hG4
      obtain ⟨X, rfl⟩ : ∃ X, X = X9 := ⟨_, rfl⟩
      obtain ⟨g1, g2⟩ := H4.out.2.1.facts
      obtain ⟨g3, g4⟩ := H4.out.2.2.facts
      obtain ⟨q1, q2, -⟩ := H4.out.1.1.2.1.facts
      obtain ⟨x1, x2, -⟩ := H4.out.1.2.1.facts
      have KC := Lib.hid (changedR_any p R A (some ad) A3 (some a4) n c n' c' n3 c3 n4 c4 X H4.out.1.1.2.2 H4.out.1.2.2 hn' hn4)
      go_wp2_with fail
      refine KC.out.mono ?_
      rintro e w5 ⟨D, L, rfl, ⟨Ao, no, co, rfl, hno, hown⟩, hL1, hL2, hb5⟩
      have hLs := HS.out.2.2.2.2.2.2 L hL1 hL2
      have HO := Lib.hid (And.intro hno (And.intro (Reads.of_own hown) (And.intro hLs (below_on H4.out.1.1.1 (Nat.le_refl _) hb5))))
      clear hno hown hL1 hL2 hLs hb5 KC H4 g1 g2 g3 g4 q1 q2 x1 x2
      go_wp2_with fail
      refine (sorted_any a b w5).mono ?_
      rintro e w6 ⟨As, rfl, hrs, hb6⟩
      have hN8 : no ≤ 8796093022208 := by rw [HO.out.1, HO.out.2.2.1]; split <;> simp
      have kI := sameInts_any L (srt2 a b) Ao As no co 2 2 w6 (HO.out.2.1.on hb6) hrs hN8
      rw [decide_eq_true (show L = srt2 a b from HO.out.2.2.1)] at kI
      have KI := Lib.hid kI
      have HB := Lib.hid (below_on HO.out.2.2.2 (Nat.le_refl _) hb6)
      clear hrs hb6 kI HO hN8
      go_wp2_with fail
      refine KI.out.mono ?_
      rintro e w7 ⟨rfl, hb7⟩
      have HB := Lib.hid (below_on HB.out (Nat.le_refl _) hb7)
      clear hb7 KI
      go_wp2_with fail
      go_ret
      exact ⟨by first | rfl | simp, HB.out⟩
end Go.Proofs.YtgkcenhopmjmlaaGreat
