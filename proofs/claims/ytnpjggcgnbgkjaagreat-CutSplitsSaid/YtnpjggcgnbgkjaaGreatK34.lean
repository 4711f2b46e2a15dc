/- cut.Split: the walk. -/
import Derived.Deep.RegionLaw
import Derived.Deep.CutBlock
import Derived.Deep.DeepCutAuto
import Derived.Test.YtnpjggcgnbgkjaaGreatK01
import Derived.Test.YtnpjggcgnbgkjaaGreatK14
import Derived.Test.YtnpjggcgnbgkjaaGreatK31
import Derived.Test.YtnpjggcgnbgkjaaGreatK33
namespace Go.Proofs.YtnpjggcgnbgkjaaGreat
open Go.RowKit Go.Lib
def SpF (p : Plan) (path : List Pt) (A : Option Addr) (n c : Nat) (A' : Option Addr) (n' c' : Nat) (B : Option Addr) (m : Nat) (w W : World) : Prop := Below w.heap.size w W ∧ PlK W w.heap.size A n c A' n' c' ∧ PlK W (w.heap.size + 1) none 0 0 none 0 0 ∧ PlanAt W W.heap.size A n c A' n' c' p ∧ Reads W W.heap.size 2 B m (ptsV path)
def SplQ (p : Plan) (path : List Pt) (A : Option Addr) (n c : Nat) (A' : Option Addr) (n' c' : Nat) (B : Option Addr) (m : Nat) (a b : Pt) (g1 g2 Bq : Nat) (A1 : Option Addr) (n1 c1 : Nat) (A2 : Option Addr) (n2 c2 : Nat) (q : Plan) (hs : List Hd) (w W : World) : Prop :=
  SpF p path A n c A' n' c' B m w W ∧ PtK W g1 a ∧ PtK W g2 b ∧ PlK W Bq A1 n1 c1 A2 n2 c2 ∧ PlanOwn w.heap.size W A1 n1 c1 A2 n2 c2 q hs
theorem concNew {xs ys : List Pt} {A B : Option Addr} {n m ca cb : Nat} {t : TypeId} {w : World} (hr : Reads w w.heap.size 2 A n (ptsV xs)) (hs : Reads w w.heap.size 2 B m (ptsV ys)) (h1 : 1 ≤ n + m) (hn : n + m ≤ 1048576) :
    Calls Tryz.prog 131 #[.slice (some ⟨w.heap.size, 0, none⟩) 2 2] (w.alloc (.cells #[.slice A n ca, .slice B m cb] t)) fun e w' => ∃ A' c', e = .returned (.slice A' (n + m) c') ∧ w'.ownsRow (w.alloc (.cells #[.slice A n ca, .slice B m cb] t)).heap.size 35 2 (.slice A' (n + m) c') (n + m) (ptsV (xs ++ ys)) ∧ Below (w.alloc (.cells #[.slice A n ca, .slice B m cb] t)).heap.size (w.alloc (.cells #[.slice A n ca, .slice B m cb] t)) w' := by
  have hb : Below w.heap.size w (w.alloc (.cells #[.slice A n ca, .slice B m cb] t)) := (Below.refl _ _).alloc (Nat.le_refl _) _
  have hk := Blk.new w t #[.slice A n ca, .slice B m cb]
  exact concatPt_any xs ys A B n m ca cb w.heap.size 2 _ (hr.on hb) (hs.on hb) (Blk.lt hk) (by rw [Blk.cell hk]; rfl) (by rw [Blk.cell hk]; rfl) h1 hn
theorem SpF.on {p : Plan} {path : List Pt} {A A' B : Option Addr} {n c n' c' m : Nat} {w W W' : World} (h : SpF p path A n c A' n' c' B m w W) (hb : Below W.heap.size W W') : SpF p path A n c A' n' c' B m w W' :=
  ⟨below_on h.1 (Nat.le_refl _) hb, h.2.1.on hb, h.2.2.1.on hb, h.2.2.2.1.on hb, h.2.2.2.2.on hb⟩
theorem SpF.far {p : Plan} {path : List Pt} {A A' B : Option Addr} {n c n' c' m : Nat} {w W : World} (h : SpF p path A n c A' n' c' B m w W) (h0 : PlanAt w w.heap.size A n c A' n' c' p ∧ Reads w w.heap.size 2 B m (ptsV path)) {q : Addr} (hq : w.heap.size + 1 < q.block) (v : Value) : SpF p path A n c A' n' c' B m w (W.setCell q v) := by
  have hb := h.1.setCell (p := q) (by omega) v
  exact ⟨hb, Blk.far h.2.1 (by omega) v, Blk.far h.2.2.1 (by omega) v, (h0.1.below hb).more hb.size, (h0.2.below hb).more hb.size⟩
theorem pcV_one (x : Parc) (h : Hd) : ∀ u ∈ pcV x h, u.oneCell' = true := fun u hu => by
  simp [pcV] at hu
  rcases hu with rfl | rfl | rfl <;> rfl
theorem SpF.res {p : Plan} {path : List Pt} {A A' B : Option Addr} {n c n' c' m : Nat} {w W : World} (h : SpF p path A n c A' n' c' B m w W) : Below w.heap.size w W ∧ PlK W (w.heap.size + 1) none 0 0 none 0 0 := ⟨h.1, h.2.2.1⟩
theorem hldZ6 {V V' : World} {N : Nat} {a0 a1 a2 a3 a4 a5 : Addr} {v0 v1 v2 v3 v4 v5 : Value} (hh : a0.block < N ∧ a1.block < N ∧ a2.block < N ∧ a3.block < N ∧ a4.block < N ∧ a5.block < N) (hs : V.cell? a0 = some v0 ∧ V.cell? a1 = some v1 ∧ V.cell? a2 = some v2 ∧ V.cell? a3 = some v3 ∧ V.cell? a4 = some v4 ∧ V.cell? a5 = some v5 ∧ N ≤ V.heap.size) (hb : Below V.heap.size V V') : V'.cell? a0 = some v0 ∧ V'.cell? a1 = some v1 ∧ V'.cell? a2 = some v2 ∧ V'.cell? a3 = some v3 ∧ V'.cell? a4 = some v4 ∧ V'.cell? a5 = some v5 ∧ N ≤ V'.heap.size := by
  obtain ⟨h0, h1, h2, h3, h4, h5⟩ := hh
  obtain ⟨c0, c1, c2, c3, c4, c5, cz⟩ := hs
  have hz := hb.size
  have k : ∀ {a : Addr} {v : Value}, a.block < N → V.cell? a = some v → V'.cell? a = some v := fun {a v} ha hv => (hb.cell (p := a) (by omega)).trans hv
  exact ⟨k h0 c0, k h1 c1, k h2 c2, k h3 c3, k h4 c4, k h5 c5, by omega⟩
theorem hldZ6c {V : World} {N : Nat} {p : Addr} {u : Value} {a0 a1 a2 a3 a4 a5 : Addr} {v0 v1 v2 v3 v4 v5 : Value} (hh : a0 ≠ p ∧ a1 ≠ p ∧ a2 ≠ p ∧ a3 ≠ p ∧ a4 ≠ p ∧ a5 ≠ p) (hs : V.cell? a0 = some v0 ∧ V.cell? a1 = some v1 ∧ V.cell? a2 = some v2 ∧ V.cell? a3 = some v3 ∧ V.cell? a4 = some v4 ∧ V.cell? a5 = some v5 ∧ N ≤ V.heap.size) : (V.setCell p u).cell? a0 = some v0 ∧ (V.setCell p u).cell? a1 = some v1 ∧ (V.setCell p u).cell? a2 = some v2 ∧ (V.setCell p u).cell? a3 = some v3 ∧ (V.setCell p u).cell? a4 = some v4 ∧ (V.setCell p u).cell? a5 = some v5 ∧ N ≤ (V.setCell p u).heap.size := by
  obtain ⟨h0, h1, h2, h3, h4, h5⟩ := hh
  obtain ⟨c0, c1, c2, c3, c4, c5, cz⟩ := hs
  have k : ∀ {a : Addr} {v : Value}, a ≠ p → V.cell? a = some v → (V.setCell p u).cell? a = some v := fun {a v} ha hv => (World.cell?_setCell_other _ _ _ _ (Ne.symm ha)).trans hv
  exact ⟨k h0 c0, k h1 c1, k h2 c2, k h3 c3, k h4 c4, k h5 c5, by rw [World.size_setCell]; exact cz⟩
theorem hldZ6g {V V' : World} {N : Nat} {row : Option Nat} {a0 a1 a2 a3 a4 a5 : Addr} {v0 v1 v2 v3 v4 v5 : Value} (hh : a0.block < N ∧ a1.block < N ∧ a2.block < N ∧ a3.block < N ∧ a4.block < N ∧ a5.block < N) (hs : V.cell? a0 = some v0 ∧ V.cell? a1 = some v1 ∧ V.cell? a2 = some v2 ∧ V.cell? a3 = some v3 ∧ V.cell? a4 = some v4 ∧ V.cell? a5 = some v5 ∧ N ≤ V.heap.size) (hg : V.grownBy V' row) (n0 : row ≠ some a0.block) (n1 : row ≠ some a1.block) (n2 : row ≠ some a2.block) (n3 : row ≠ some a3.block) (n4 : row ≠ some a4.block) (n5 : row ≠ some a5.block) : V'.cell? a0 = some v0 ∧ V'.cell? a1 = some v1 ∧ V'.cell? a2 = some v2 ∧ V'.cell? a3 = some v3 ∧ V'.cell? a4 = some v4 ∧ V'.cell? a5 = some v5 ∧ N ≤ V'.heap.size := by
  obtain ⟨h0, h1, h2, h3, h4, h5⟩ := hh
  obtain ⟨c0, c1, c2, c3, c4, c5, cz⟩ := hs
  have hz := hg.size
  have k : ∀ {a : Addr} {v : Value}, a.block < N → row ≠ some a.block → V.cell? a = some v → V'.cell? a = some v := fun {a v} ha hn hv => (World.cell?_of_block (hg.block a.block (by omega) (Ne.symm hn))).trans hv
  exact ⟨k h0 n0 c0, k h1 n1 c1, k h2 n2 c2, k h3 n3 c3, k h4 n4 c4, k h5 n5 c5, by omega⟩
/-- What comes of the parcel that is appended. -/
theorem spl_end {p q : Plan} {path : List Pt} {A A' B Ak A1 A5 D : Option Addr} {adq : Addr} {n c n' c' m g1 g2 Bq Bo nk ck n1 c1 n2 c2 mD cD c5 : Nat} {a b : Pt} {x y : Parc} {r : List Pt} {hs : List Hd} {w Z V W' : World}
    (H : SpF p path A n c A' n' c' B m w Z ∧ PtK Z g1 a ∧ PtK Z g2 b ∧ PlK Z Bq A1 n1 c1 (some adq) n2 c2 ∧ PlanOwn w.heap.size Z A1 n1 c1 (some adq) n2 c2 q hs ∧ PcK Z Bo x Ak nk ck ∧ Z.ownsRow w.heap.size 35 2 (.slice Ak nk ck) nk (ptsV r))
    (hf : (⟨q.outer, q.parcels ++ [y]⟩ : Plan).fits) (hbo : adq.block < Bo) (hbq : w.heap.size + 1 < Bq) (hV : Below Z.heap.size Z V) (rD : V.ownsRow w.heap.size 35 2 (.slice D mD cD) mD (ptsV y.ring))
    (hown : W'.ownsRow w.heap.size 37 3 (.slice A5 (n2 + 1) c5) (n2 + 1) (rowPV q.parcels hs ++ pcV y (D, mD, cD))) (hg : V.grownBy W' (Value.slice (some adq) n2 c2).ownBlock) :
    (∀ u0 u1 u2 u3 u4 u5, V.cell? ⟨Bo, 1, none⟩ = some u0 ∧ V.cell? ⟨Bo, 2, none⟩ = some u1 ∧ V.cell? ⟨g1, 0, none⟩ = some u2 ∧ V.cell? ⟨g1, 1, none⟩ = some u3 ∧ V.cell? ⟨g2, 0, none⟩ = some u4 ∧ V.cell? ⟨g2, 1, none⟩ = some u5 ∧ Z.heap.size ≤ V.heap.size → W'.cell? ⟨Bo, 1, none⟩ = some u0 ∧ W'.cell? ⟨Bo, 2, none⟩ = some u1 ∧ W'.cell? ⟨g1, 0, none⟩ = some u2 ∧ W'.cell? ⟨g1, 1, none⟩ = some u3 ∧ W'.cell? ⟨g2, 0, none⟩ = some u4 ∧ W'.cell? ⟨g2, 1, none⟩ = some u5 ∧ Z.heap.size ≤ W'.heap.size) ∧ W'.cell? ⟨Bq, 1, none⟩ = some (.slice (some adq) n2 c2) ∧ W'.frozen? ⟨Bq, 1, none⟩ = false ∧
    ∃ (A6 : Option Addr) (c6 : Nat) (hs5 : List Hd), Below w.heap.size w (W'.setCell ⟨Bq, 1, none⟩ (.slice A5 (n2 + 1) c5)) ∧ PlK (W'.setCell ⟨Bq, 1, none⟩ (.slice A5 (n2 + 1) c5)) (w.heap.size + 1) none 0 0 none 0 0 ∧ PlK (W'.setCell ⟨Bq, 1, none⟩ (.slice A5 (n2 + 1) c5)) Bq A1 n1 c1 A6 (n2 + 1) c6 ∧ PlanOwn w.heap.size (W'.setCell ⟨Bq, 1, none⟩ (.slice A5 (n2 + 1) c5)) A1 n1 c1 A6 (n2 + 1) c6 ⟨q.outer, q.parcels ++ [y]⟩ hs5 := by
  obtain ⟨hF, k1, k2, hQ, hpo, hBo, -⟩ := H
  have hF1 := hF.on hV
  have hQ1 := hQ.on hV
  have hpo1 := hpo.below hV
  have n1 := own_blk_ne hpo1.row hQ1 (by decide)
  have hQ2 : PlK W' Bq A1 _ c1 (some adq) n2 c2 := (hg.block _ (Blk.lt hQ1) (fun e => n1 e.symm)).trans hQ1
  have hR2 : PlK W' (w.heap.size + 1) none 0 0 none 0 0 := (hg.block _ (Blk.lt hF1.2.2.1) (fun e => own_blk_ne hpo1.row hF1.2.2.1 (by decide) e.symm)).trans hF1.2.2.1
  have hB2 := hF1.1.grown hg hF1.1.size (fun j e => (hpo1.row.lt j e).1)
  have hpo2 := hpo1.snoc rD hown hg hf
  have hpo3 := hpo2.store hQ2 (by decide) (by decide) 1 (.slice A5 (n2 + 1) c5)
  have hQ3 := Blk.set_ hQ2 1 (.slice A5 (n2 + 1) c5)
  simp only [List.setIfInBounds_toArray, List.set_cons_zero, List.set_cons_succ] at hQ3
  have nb : (Value.slice (some adq) n2 c2).ownBlock ≠ some Bo := fun e => by simp [Value.ownBlock] at e; omega
  have lb := hBo.facts.2.2.2
  refine ⟨fun u0 u1 u2 u3 u4 u5 hs => ?_, (hQ2.facts).2.1, Blk.frozen hQ2 1, A5, c5, _, hB2.setCell (p := ⟨Bq, 1, none⟩) (by simp only; omega) _, Blk.far hR2 (by simp only; omega) _, hQ3, hpo3⟩
  exact hldZ6g (a0 := ⟨Bo, 1, none⟩) (a1 := ⟨Bo, 2, none⟩) (a2 := ⟨g1, 0, none⟩) (a3 := ⟨g1, 1, none⟩) (a4 := ⟨g2, 0, none⟩) (a5 := ⟨g2, 1, none⟩) ⟨lb, lb, Blk.lt k1, Blk.lt k1, Blk.lt k2, Blk.lt k2⟩ hs hg nb nb (own_blk_ne hpo1.row (Blk.below k1 hV (Blk.lt k1)) (by decide)) (own_blk_ne hpo1.row (Blk.below k1 hV (Blk.lt k1)) (by decide)) (own_blk_ne hpo1.row (Blk.below k2 hV (Blk.lt k2)) (by decide)) (own_blk_ne hpo1.row (Blk.below k2 hV (Blk.lt k2)) (by decide))
set_option maxRecDepth 100000 in
set_option maxHeartbeats 6400000 in
theorem spP_any (p : Plan) (id fresh : Int) (path : List Pt) (A A' B : Option Addr) (n c n' c' m cb : Nat) (w : World) (h : PlanAt w w.heap.size A n c A' n' c' p) (hr : Reads w w.heap.size 2 B m (ptsV path)) (hx : ∀ q ∈ path, q.inI) (hm : m ≤ 8796093022208) :
    Calls Tryz.prog 51 #[planV A n c A' n' c', .int .i64 id, .slice B m cb, .int .i64 fresh] w (ResPostS (spP p id path fresh) (spE p id path fresh) w) := by
  obtain ⟨wa, hwa⟩ : ∃ wa : World, wa = (w.alloc (.cells #[.slice A n c, .slice A' n' c'] 26)).alloc (.cells #[.slice none 0 0, .slice none 0 0] 26) := ⟨_, rfl⟩
  have hF : SpF p path A n c A' n' c' B m w wa := by
    have hB0 : Below w.heap.size w wa := by rw [hwa]; exact ((Below.refl _ _).alloc (Nat.le_refl _) _).alloc (by simp) _
    refine ⟨hB0, by rw [hwa]; exact Blk.alloc (PlK.new w A n c A' n' c') _, ?_, h.on hB0, hr.on hB0⟩
    have := PlK.new (w.alloc (.cells #[.slice A n c, .slice A' n' c'] 26)) none 0 0 none 0 0
    rw [World.size_alloc] at this
    rw [hwa]
    exact this
  have KF := Lib.hid (fault_any p id fresh path A A' B n c n' c' m cb wa hF.2.2.2.1 hF.2.2.2.2 hx hm)
  have H0 := Lib.hid hF
  have HL := Lib.hid hr.lenPt
  have HPR := Lib.hid (And.intro h hr)
  obtain ⟨q1, q2, q3⟩ := hF.2.1.facts
  clear hF h hr hx
  go_enter Tryz.func51, Tryz.ntmps51
  go_upto_region 1 with fail
  rw [← hwa]
  clear hwa
  go_wp2_with fail
  refine KF.out.mono ?_
  rintro e w1 ⟨rfl, hb1⟩
  have H1 := Lib.hid (H0.out.on hb1)
  clear hb1 H0 KF q1 q2 q3
  obtain ⟨z, hz⟩ : ∃ z, z = faultI p id path fresh := ⟨_, rfl⟩
  rw [← hz]
  have HZ := Lib.hid hz
  clear hz
  by_cases hz0 : z = 0
  case neg =>
    have HM := Lib.hid (And.intro (spE_fault HZ.out.symm hz0) hz0)
    have HR := Lib.hid H1.out.res
    have hne : (z != 0) = true := by simpa using hz0
    clear H1
    obtain ⟨V, hV, r1, r2, hbV⟩ := res_store (g := w.heap.size + 1) HR.out.1 (by omega) HR.out.2 (.slice none 0 0) (.slice none 0 0)
    obtain ⟨s1, s2, f1, f2⟩ := plk_facts4 HR.out.2
    have HV := Lib.hid hV
    have HRR := Lib.hid (And.intro r1 (And.intro r2 hbV))
    clear hV r1 r2 hbV
    go_wp2_with fail
    rw [← HV.out]
    obtain ⟨r1, r2, hbV⟩ := HRR.out
    refine bodyPost_ret (v := .tuple #[planV none 0 0 none 0 0, .int .i64 z]) ?_ rfl (by rw [HM.out.1]; exact resPostS_no (spP_no HM.out.1 HM.out.2) hbV)
    simp [results, Tryz.results51, go_sem, r1, r2]
  subst hz0
  have hE : spE p id path fresh = if planB (spQ p (atP p.parcels id).toNat path fresh) = true then 0 else 8 := by unfold spE; rw [← HZ.out, if_neg (by simp)]
  obtain ⟨hs, ⟨k, hk, hat, hid, s0, s1⟩, hf, l1, l2, hno, hg, hne⟩ := faultI_zero HZ.out.symm
  have hP : spE p id path fresh = 0 → spP p id path fresh = spQ p (atP p.parcels id).toNat path fresh := fun e => by unfold spP; rw [if_pos e]
  rw [hat, Int.toNat_natCast] at hE hP
  obtain ⟨a, ha⟩ : ∃ a, a = path0 path := ⟨_, rfl⟩
  obtain ⟨b, hb⟩ : ∃ b, b = path1 path := ⟨_, rfl⟩
  have ga : good a = true := by rw [ha]; exact goodL_mem hg (path0_mem l1).1
  have gb : good b = true := by rw [hb]; exact goodL_mem hg (path0_mem l1).2
  have hab := cut_has hs hk (a := path0 path) (b := path1 path) (goodL_mem hg (path0_mem l1).1) (goodL_mem hg (path0_mem l1).2) s0 s1
  have hpf := part_fits hs hk hg l2 hab.1 (goodL_mem hg (path0_mem l1).1) (goodL_mem hg (path0_mem l1).2)
  rw [HL.out] at l1 l2
  obtain ⟨ad, rfl, -, -, -, -⟩ := H1.out.2.2.2.2.pt (k := 0) (by omega)
  obtain ⟨had, p1, p2⟩ := H1.out.2.2.2.2.ptA (k := 0) (by omega)
  obtain ⟨m1, hm1⟩ : ∃ m1, m1 = m - 1 := ⟨_, rfl⟩
  obtain ⟨-, p3, p4⟩ := H1.out.2.2.2.2.ptA (k := m1) (by omega)
  have e0 : ptAt path 0 = a := ha.symm
  have e1 : ptAt path m1 = b := by rw [hb, hm1, ← HL.out]; rfl
  rw [e0] at p1 p2
  rw [e1] at p3 p4
  have HK := Lib.hid (And.intro hs (And.intro hk (And.intro hat (And.intro hid (And.intro ha (And.intro hb (And.intro ga gb)))))))
  have HA := Lib.hid (And.intro hab hpf)
  have HE := Lib.hid (And.intro hE hP)
  have HG := Lib.hid (And.intro hf (And.intro hno (And.intro hg hne)))
  have hmi : IntKind.i64.wrap ((m : Int) - 1) = (m1 : Int) := by rw [IntKind.wrap_i64]; omega
  have hm0 : (0 : Int) < (m : Int) := by omega
  have hm2 : (m1 : Int) < (m : Int) := by omega
  clear hs hk hat hid s0 s1 hf hno hg hne hE hP ha hb ga gb hab hpf e0 e1
  go_upto_region 4 with fail
  obtain ⟨W, hW⟩ : ∃ W, W = w1 := ⟨_, rfl⟩
  rw [← hW] at H1 had p1 p2 p3 p4
  rw [← hW]
  clear hW w1
  rw [show ad.add (0 * 2) = ad by simp [Addr.add]] at p1 p2
  have hm3 : m1 < m := by omega
  have HM1 := Lib.hid hm1
  clear hm1
  have hm00 : 0 < m := by omega
  have hh : ad.block < W.heap.size ∧ (⟨ad.block, ad.off + 1, none⟩ : Addr).block < W.heap.size ∧ (ad.add (m1 * 2)).block < W.heap.size ∧ (⟨(ad.add (m1 * 2)).block, (ad.add (m1 * 2)).off + 1, none⟩ : Addr).block < W.heap.size := by simp only [block_of_add]; exact ⟨had, had, had, had⟩
  have hP0 : W.drew.cell? ad = some (.int .i64 a.x) ∧ W.drew.cell? ⟨ad.block, ad.off + 1, none⟩ = some (.int .i64 a.y) ∧ W.drew.cell? (ad.add (m1 * 2)) = some (.int .i64 b.x) ∧ W.drew.cell? ⟨(ad.add (m1 * 2)).block, (ad.add (m1 * 2)).off + 1, none⟩ = some (.int .i64 b.y) ∧ Below W.heap.size W W.drew := ⟨p1, p2, p3, p4, (Below.refl _ _).drew⟩
  clear p1 p2 p3 p4 had
  go_cut [11, 12] (fun x y wx => TwoB W wx x y a b)
  case first =>
    refine wp_region_held_drew (S := fun V => V.cell? ad = some (.int .i64 a.x) ∧ V.cell? ⟨ad.block, ad.off + 1, none⟩ = some (.int .i64 a.y) ∧ V.cell? (ad.add (m1 * 2)) = some (.int .i64 b.x) ∧ V.cell? ⟨(ad.add (m1 * 2)).block, (ad.add (m1 * 2)).off + 1, none⟩ = some (.int .i64 b.y) ∧ Below W.heap.size W V) (by kernel_rfl) ?_ (fun hHeld => ?_)
    · exact hP0
    refine tk 0 ?_
    refine tk 1 ?_
    refine tk 2 ?_
    refine tk 3 ?_
    refine tk 4 ?_
    refine tk 5 ?_
    refine tk 6 ?_
    refine tk 7 ?_
    refine tk 8 ?_
    refine wpAnyH_ready (rs := [9, 10]) (by kernel_rfl) (by simp) ?_
    refine AllReadyH.cons rfl (fun K hK => ?_) (AllReadyH.cons rfl (fun K hK => ?_) AllReadyH.nil)
    · go_simp
      refine hK.out _ _ ?_ (fun hHeld => ?_)
      · exact hldF hh hP0 ((Below.refl _ _).alloc (Nat.le_refl _) _)
      clear hK K
      try simp only [Act.put, List.setIfInBounds_toArray, List.set_cons_zero, List.set_cons_succ]
      refine wpAnyH_ready (rs := [10]) (by kernel_rfl) (by simp) ?_
      refine AllReadyH.cons rfl (fun K hK => ?_) AllReadyH.nil
      go_simp
      refine hK.out _ _ ?_ (fun hHeld => ?_)
      · exact hldF hh hHeld ((Below.refl _ _).alloc (Nat.le_refl _) _)
      clear hK K
      try simp only [Act.put, List.setIfInBounds_toArray, List.set_cons_zero, List.set_cons_succ]
      refine wpAnyH_ready (rs := [11]) (by kernel_rfl) (by simp) ?_
      refine AllReadyH.cons rfl (fun K hK => ?_) AllReadyH.nil
      go_simp
      refine hK.out _ _ ?_ (fun hHeld => ?_)
      · exact hldF hh hP0 (show Below W.drew.heap.size W.drew (World.drew _) from ((Below.refl W.drew.heap.size W.drew).alloc (Nat.le_refl _) _).alloc (by simp) _)
      clear hK K
      try simp only [Act.put, List.setIfInBounds_toArray, List.set_cons_zero, List.set_cons_succ]
      refine wpAnyH_ready (rs := [12]) (by kernel_rfl) (by simp) ?_
      refine AllReadyH.cons rfl (fun K hK => ?_) AllReadyH.nil
      go_simp
      refine hK.out _ _ ?_ (fun hHeld => ?_)
      · exact hldF hh hP0 (show Below W.drew.heap.size W.drew (World.drew _) from ((Below.refl W.drew.heap.size W.drew).alloc (Nat.le_refl _) _).alloc (by simp) _)
      clear hK K
      try simp only [Act.put, List.setIfInBounds_toArray, List.set_cons_zero, List.set_cons_succ]
      refine wpAnyH_done (by kernel_rfl) ?_ _
      go_wp2_with fail
      go_meet
      exact twoB_1
    · go_simp
      refine hK.out _ _ ?_ (fun hHeld => ?_)
      · exact hldF hh hP0 ((Below.refl _ _).alloc (Nat.le_refl _) _)
      clear hK K
      try simp only [Act.put, List.setIfInBounds_toArray, List.set_cons_zero, List.set_cons_succ]
      refine wpAnyH_ready (rs := [9]) (by kernel_rfl) (by simp) ?_
      refine AllReadyH.cons rfl (fun K hK => ?_) AllReadyH.nil
      go_simp
      refine hK.out _ _ ?_ (fun hHeld => ?_)
      · exact hldF hh hHeld ((Below.refl _ _).alloc (Nat.le_refl _) _)
      clear hK K
      try simp only [Act.put, List.setIfInBounds_toArray, List.set_cons_zero, List.set_cons_succ]
      refine wpAnyH_ready (rs := [11]) (by kernel_rfl) (by simp) ?_
      refine AllReadyH.cons rfl (fun K hK => ?_) AllReadyH.nil
      go_simp
      refine hK.out _ _ ?_ (fun hHeld => ?_)
      · exact hldF hh hP0 (show Below W.drew.heap.size W.drew (World.drew _) from ((Below.refl W.drew.heap.size W.drew).alloc (Nat.le_refl _) _).alloc (by simp) _)
      clear hK K
      try simp only [Act.put, List.setIfInBounds_toArray, List.set_cons_zero, List.set_cons_succ]
      refine wpAnyH_ready (rs := [12]) (by kernel_rfl) (by simp) ?_
      refine AllReadyH.cons rfl (fun K hK => ?_) AllReadyH.nil
      go_simp
      refine hK.out _ _ ?_ (fun hHeld => ?_)
      · exact hldF hh hP0 (show Below W.drew.heap.size W.drew (World.drew _) from ((Below.refl W.drew.heap.size W.drew).alloc (Nat.le_refl _) _).alloc (by simp) _)
      clear hK K
      try simp only [Act.put, List.setIfInBounds_toArray, List.set_cons_zero, List.set_cons_succ]
      refine wpAnyH_done (by kernel_rfl) ?_ _
      go_wp2_with fail
      go_meet
      exact twoB_2
  case rest =>
    obtain ⟨g1, g2, rfl, rfl, k1, k2, hbc⟩ := hcut
    obtain ⟨U, rfl⟩ : ∃ V, V = wc := ⟨_, rfl⟩
    have H2 := Lib.hid (And.intro (H1.out.on hbc) (And.intro k1 k2))
    clear k1 k2 hbc H1 hP0 hh hmi hm0 hm2 hm3 hm00
    obtain ⟨q1, q2, q3⟩ := H2.out.1.2.1.facts
    obtain ⟨r1, r2, -, -, l1⟩ := H2.out.2.1.facts
    obtain ⟨r3, r4, -, -, l2⟩ := H2.out.2.2.facts
    obtain ⟨l1, l2⟩ : g1 < U.heap.size ∧ g2 < U.heap.size := ⟨Blk.lt H2.out.2.1, Blk.lt H2.out.2.2⟩
    have hwU : w.heap.size ≤ U.heap.size := H2.out.1.1.size
    have kI1 := fun V (hV : Below U.heap.size U V) => insertW_any p a A A' n c n' c' V (H2.out.1.on hV).2.2.2.1 (sound_rings HK.out.1) (by have := (listed_bd HK.out.1.1).2.1; have := H2.out.1.2.2.2.1.lens.2.1; omega) HK.out.2.2.2.2.2.2.1
    have kI2 := fun V (hV : Below U.heap.size U V) A1 n1 c1 A2 n2 c2 (hp1 : PlanAt V V.heap.size A1 n1 c1 A2 n2 c2 (eachP (insG a) p)) => insertW_any (eachP (insG a) p) b A1 A2 n1 c1 n2 c2 V hp1 (fun xs hx => by obtain ⟨h1, h2⟩ := cut_rings1 HK.out.1 HK.out.2.2.2.2.2.2.1 xs hx; exact ⟨h1, by omega⟩) (by have := (listed_bd HK.out.1.1).2.1; have := hp1.lens.2.1; rw [each_len] at this; omega) HK.out.2.2.2.2.2.2.2
    have hSP : eachP (insG b) (eachP (insG a) p) = spB p a b := rfl
    rw [hSP] at kI2
    clear hSP
    go_upto_region 5 with fail
    have hh : (⟨w.heap.size, 0, none⟩ : Addr).block < U.heap.size ∧ (⟨w.heap.size, 1, none⟩ : Addr).block < U.heap.size ∧ (⟨g1, 0, none⟩ : Addr).block < U.heap.size ∧ (⟨g1, 1, none⟩ : Addr).block < U.heap.size ∧ (⟨g2, 0, none⟩ : Addr).block < U.heap.size ∧ (⟨g2, 1, none⟩ : Addr).block < U.heap.size := ⟨q3, q3, l1, l1, l2, l2⟩
    have hP0 : U.drew.cell? ⟨w.heap.size, 0, none⟩ = some (.slice A n c) ∧ U.drew.cell? ⟨w.heap.size, 1, none⟩ = some (.slice A' n' c') ∧ U.drew.cell? ⟨g1, 0, none⟩ = some (.int .i64 a.x) ∧ U.drew.cell? ⟨g1, 1, none⟩ = some (.int .i64 a.y) ∧ U.drew.cell? ⟨g2, 0, none⟩ = some (.int .i64 b.x) ∧ U.drew.cell? ⟨g2, 1, none⟩ = some (.int .i64 b.y) ∧ U.heap.size ≤ U.drew.heap.size := ⟨q1, q2, r1, r2, r3, r4, Nat.le_refl _⟩
    have hbd : Below U.heap.size U U.drew := (Below.refl _ _).drew
    clear q1 q2 r1 r2 r3 r4
    go_cut [13] (fun x wx => QBox w.heap.size U wx (spB p a b) x)
    case first =>
      refine wp_region_held_drew (S := fun V => V.cell? ⟨w.heap.size, 0, none⟩ = some (.slice A n c) ∧ V.cell? ⟨w.heap.size, 1, none⟩ = some (.slice A' n' c') ∧ V.cell? ⟨g1, 0, none⟩ = some (.int .i64 a.x) ∧ V.cell? ⟨g1, 1, none⟩ = some (.int .i64 a.y) ∧ V.cell? ⟨g2, 0, none⟩ = some (.int .i64 b.x) ∧ V.cell? ⟨g2, 1, none⟩ = some (.int .i64 b.y) ∧ U.heap.size ≤ V.heap.size) (by kernel_rfl) ?_ (fun hHeld => ?_)
      · exact hP0
      refine tk 0 ?_
      refine tk 1 ?_
      refine tk 3 ?_
      refine wpAnyH_ready (rs := [2, 5]) (by kernel_rfl) (by simp) ?_
      refine AllReadyH.cons rfl (fun K hK => ?_) (AllReadyH.cons rfl (fun K hK => ?_) AllReadyH.nil)
      · go_simp
        go_at_call 128
        (with_reducible refine (kI1 _ hbd).mono ?_)
        rintro e w5 ⟨A1, n1, c1, A2, n2, c2, hs1, rfl, hpo1, hb5⟩
        have hbU := hbd.trans hb5
        try dsimp only
        refine hK.out _ _ ?_ (fun hHeld => ?_)
        · exact hldZ6 hh hP0 hb5
        clear hK K
        try simp only [Act.put, List.setIfInBounds_toArray, List.set_cons_zero, List.set_cons_succ]
        refine wpAnyH_ready (rs := [4, 5]) (by kernel_rfl) (by simp) ?_
        refine AllReadyH.cons rfl (fun K hK => ?_) (AllReadyH.cons rfl (fun K hK => ?_) AllReadyH.nil)
        · go_simp
          go_at_call 128
          (with_reducible refine (kI2 w5 hbU _ _ _ _ _ _ hpo1.at_).mono ?_)
          rintro e w6 ⟨A3, n3, c3, A4, n4, c4, hs2, rfl, hpo2, hb6⟩
          have hbU6 := below_on hbU (Nat.le_refl _) hb6
          try dsimp only
          refine hK.out _ _ ?_ (fun hHeld => ?_)
          · exact hldZ6 hh hHeld hb6
          clear hK K
          try simp only [Act.put, List.setIfInBounds_toArray, List.set_cons_zero, List.set_cons_succ]
          have hH6 := hHeld
          refine wpAnyH_ready (rs := [5]) (by kernel_rfl) (by simp) ?_
          refine AllReadyH.cons rfl (fun K hK => ?_) AllReadyH.nil
          go_simp
          refine hK.out _ _ ?_ (fun hHeld => ?_)
          · exact hldZ6 hh hHeld ((Below.refl _ _).alloc (Nat.le_refl _) _)
          clear hK K
          try simp only [Act.put, List.setIfInBounds_toArray, List.set_cons_zero, List.set_cons_succ]
          refine wpAnyH_ready (rs := [6]) (by kernel_rfl) (by simp) ?_
          refine AllReadyH.cons rfl (fun K hK => ?_) AllReadyH.nil
          go_simp
          refine hK.out _ _ ?_ (fun hHeld => ?_)
          · exact hldZ6 hh hH6 ((Below.refl _ _).alloc (Nat.le_refl _) _)
          clear hK K
          try simp only [Act.put, List.setIfInBounds_toArray, List.set_cons_zero, List.set_cons_succ]
          refine wpAnyH_done (by kernel_rfl) ?_ _
          go_wp2_with fail
          go_meet
          exact qbox_1 hbU6 (hpo2.mono (Nat.le_trans hwU hbU.size))
        · go_simp
          refine hK.out _ _ ?_ (fun hHeld => ?_)
          · exact hldZ6 hh hHeld ((Below.refl _ _).alloc (Nat.le_refl _) _)
          clear hK K
          try simp only [Act.put, List.setIfInBounds_toArray, List.set_cons_zero, List.set_cons_succ]
          refine wpAnyH_ready (rs := [4]) (by kernel_rfl) (by simp) ?_
          refine AllReadyH.cons rfl (fun K hK => ?_) AllReadyH.nil
          go_simp
          go_at_call 128
          (with_reducible refine (kI2 _ (hbU.alloc hbU.size _) _ _ _ _ _ _ (hpo1.at_.on ((Below.refl _ _).alloc (Nat.le_refl _) _))).mono ?_)
          rintro e w6 ⟨A3, n3, c3, A4, n4, c4, hs2, rfl, hpo2, hb6⟩
          have hk6 := (PlK.new w5 none 0 0 none 0 0).on hb6
          obtain ⟨y1, y2, f1, f2⟩ := plk_facts4 hk6
          have hbU6 := below_on (hbU.alloc hbU.size _) (Nat.le_refl _) hb6
          try dsimp only
          refine hK.out _ _ ?_ (fun hHeld => ?_)
          · exact hldZ6 hh hHeld hb6
          clear hK K
          try simp only [Act.put, List.setIfInBounds_toArray, List.set_cons_zero, List.set_cons_succ]
          refine wpAnyH_ready (rs := [6]) (by kernel_rfl) (by simp) ?_
          refine AllReadyH.cons rfl (fun K hK => ?_) AllReadyH.nil
          have hs7 := hHeld
          have hsz := hbU.size
          go_simp
          refine hK.out _ _ ?_ (fun hHeld => ?_)
          · exact hldZ6c ⟨fun e => by have := congrArg Addr.block e; simp only at this; omega, fun e => by have := congrArg Addr.block e; simp only at this; omega, fun e => by have := congrArg Addr.block e; simp only at this; omega, fun e => by have := congrArg Addr.block e; simp only at this; omega, fun e => by have := congrArg Addr.block e; simp only at this; omega, fun e => by have := congrArg Addr.block e; simp only at this; omega⟩ (hldZ6c ⟨fun e => by have := congrArg Addr.block e; simp only at this; omega, fun e => by have := congrArg Addr.block e; simp only at this; omega, fun e => by have := congrArg Addr.block e; simp only at this; omega, fun e => by have := congrArg Addr.block e; simp only at this; omega, fun e => by have := congrArg Addr.block e; simp only at this; omega, fun e => by have := congrArg Addr.block e; simp only at this; omega⟩ hs7)
          clear hK K
          try simp only [Act.put, List.setIfInBounds_toArray, List.set_cons_zero, List.set_cons_succ]
          refine wpAnyH_done (by kernel_rfl) ?_ _
          go_wp2_with fail
          go_meet
          exact qbox_2 hbU6 hbU.size hk6 (hpo2.mono (Nat.le_trans hwU (by have := hbU.size; simp; omega)))
      · go_simp
        refine hK.out _ _ ?_ (fun hHeld => ?_)
        · exact hldZ6 hh hP0 (show Below U.drew.heap.size U.drew (World.drew _) from (Below.refl U.drew.heap.size U.drew).alloc (Nat.le_refl _) _)
        clear hK K
        try simp only [Act.put, List.setIfInBounds_toArray, List.set_cons_zero, List.set_cons_succ]
        have hbz : Below U.heap.size U (World.drew (U.alloc (.cells #[.slice none 0 0, .slice none 0 0] 26))) := ((Below.refl _ _).alloc (Nat.le_refl _) _).drew
        refine wpAnyH_ready (rs := [2]) (by kernel_rfl) (by simp) ?_
        refine AllReadyH.cons rfl (fun K hK => ?_) AllReadyH.nil
        go_simp
        go_at_call 128
        (with_reducible refine (kI1 _ hbz).mono ?_)
        rintro e w5 ⟨A1, n1, c1, A2, n2, c2, hs1, rfl, hpo1, hb5⟩
        have hk5 : PlK w5 U.heap.size none 0 0 none 0 0 := Blk.below (Blk.drew (PlK.new U none 0 0 none 0 0)) hb5 (by simp)
        have hbU := below_on hbz (Nat.le_refl _) hb5
        try dsimp only
        refine hK.out _ _ ?_ (fun hHeld => ?_)
        · exact hldZ6 hh hHeld hb5
        clear hK K
        try simp only [Act.put, List.setIfInBounds_toArray, List.set_cons_zero, List.set_cons_succ]
        refine wpAnyH_ready (rs := [4]) (by kernel_rfl) (by simp) ?_
        refine AllReadyH.cons rfl (fun K hK => ?_) AllReadyH.nil
        go_simp
        go_at_call 128
        (with_reducible refine (kI2 w5 hbU _ _ _ _ _ _ hpo1.at_).mono ?_)
        rintro e w6 ⟨A3, n3, c3, A4, n4, c4, hs2, rfl, hpo2, hb6⟩
        have hk6 := hk5.on hb6
        obtain ⟨y1, y2, f1, f2⟩ := plk_facts4 hk6
        have hbU6 := below_on hbU (Nat.le_refl _) hb6
        try dsimp only
        refine hK.out _ _ ?_ (fun hHeld => ?_)
        · exact hldZ6 hh hHeld hb6
        clear hK K
        try simp only [Act.put, List.setIfInBounds_toArray, List.set_cons_zero, List.set_cons_succ]
        refine wpAnyH_ready (rs := [6]) (by kernel_rfl) (by simp) ?_
        refine AllReadyH.cons rfl (fun K hK => ?_) AllReadyH.nil
        have hs7 := hHeld
        go_simp
        refine hK.out _ _ ?_ (fun hHeld => ?_)
        · exact hldZ6c ⟨fun e => by have := congrArg Addr.block e; simp only at this; omega, fun e => by have := congrArg Addr.block e; simp only at this; omega, fun e => by have := congrArg Addr.block e; simp only at this; omega, fun e => by have := congrArg Addr.block e; simp only at this; omega, fun e => by have := congrArg Addr.block e; simp only at this; omega, fun e => by have := congrArg Addr.block e; simp only at this; omega⟩ (hldZ6c ⟨fun e => by have := congrArg Addr.block e; simp only at this; omega, fun e => by have := congrArg Addr.block e; simp only at this; omega, fun e => by have := congrArg Addr.block e; simp only at this; omega, fun e => by have := congrArg Addr.block e; simp only at this; omega, fun e => by have := congrArg Addr.block e; simp only at this; omega, fun e => by have := congrArg Addr.block e; simp only at this; omega⟩ hs7)
        clear hK K
        try simp only [Act.put, List.setIfInBounds_toArray, List.set_cons_zero, List.set_cons_succ]
        refine wpAnyH_done (by kernel_rfl) ?_ _
        go_wp2_with fail
        go_meet
        exact qbox_2 hbU6 (Nat.le_refl _) hk6 (hpo2.mono (Nat.le_trans hwU hbU.size))
    case rest =>
      obtain ⟨Bq, A1, n1, c1, A2, n2, c2, hs, rfl, hBq, hQ, hpo, hbc⟩ := hcut
      obtain ⟨X, rfl⟩ : ∃ V, V = wc := ⟨_, rfl⟩
      have hgq : w.heap.size + 1 < Bq ∧ g1 < Bq ∧ g2 < Bq := ⟨by have := Blk.lt H2.out.1.2.2.1; omega, by omega, by omega⟩
      have H3 := Lib.hid (And.intro (H2.out.1.on hbc) (And.intro (show PtK X g1 a from Blk.below H2.out.2.1 hbc l1) (And.intro (show PtK X g2 b from Blk.below H2.out.2.2 hbc l2) (And.intro hQ hpo))))
      have kA := at_any (spB p a b) id A1 A2 n1 c1 n2 c2 X hpo.at_
      rw [atP_spB, HK.out.2.2.1] at kA
      have KA := Lib.hid kA
      have HGQ := Lib.hid hgq
      obtain ⟨q1, q2, q3⟩ := hQ.facts
      clear hBq hQ hpo hbc H2 hP0 hh hbd kI1 kI2 kA hgq l1 l2 hwU
      go_wp2_with fail
      refine KA.out.mono ?_
      rintro e w6 ⟨rfl, hb6⟩
      have H4 := Lib.hid (And.intro (H3.out.1.on hb6) (And.intro (show PtK w6 g1 a from Blk.below H3.out.2.1 hb6 (Blk.lt H3.out.2.1)) (And.intro (show PtK w6 g2 b from Blk.below H3.out.2.2.1 hb6 (Blk.lt H3.out.2.2.1)) (And.intro (H3.out.2.2.2.1.on hb6) (H3.out.2.2.2.2.below hb6)))))
      clear hb6 H3 KA q1 q2 q3
      obtain ⟨q1, q2, q3⟩ := H4.out.2.2.2.1.facts
      have hk2 : k < n2 := by have := H4.out.2.2.2.2.lenp; rw [spB_len] at this; have := HK.out.2.1; omega
      have hk2' : (k : Int) < (n2 : Int) := by omega
      obtain ⟨adq, rfl⟩ := H4.out.2.2.2.2.at_.parcs.some_ (by omega)
      obtain ⟨hadq, s1, -, s3⟩ := H4.out.2.2.2.2.at_.parcs.at_ hk2
      have s2 := H4.out.2.2.2.2.hdC hk2
      have hro := H4.out.2.2.2.2.rings k hk2
      obtain ⟨⟨Ak, nk, ck⟩, hhd⟩ : ∃ h, h = hdAt hs k := ⟨_, rfl⟩
      rw [← hhd] at s2 hro
      obtain ⟨x, hx⟩ : ∃ x, x = pcAt (spB p a b).parcels k := ⟨_, rfl⟩
      rw [← hx] at s1 s3 hro
      simp only at s2 hro
      have hxr : x.ring = cutRing p k a b := by rw [hx]; rfl
      have hxo : x.owner = (pcAt p.parcels k).owner := by rw [hx, pcAt_spB HK.out.2.1]
      obtain ⟨r, hr⟩ : ∃ r, r = cutRing p k a b := ⟨_, rfl⟩
      rw [hxr, ← hr] at hro
      have HX := Lib.hid (And.intro hxo hr)
      have hrl : r.length ≤ 512 := by rw [hr]; exact (cut_rings HK.out.1 HK.out.2.2.2.2.2.2.1 HK.out.2.2.2.2.2.2.2 _ (cutRing_of HK.out.2.1)).2
      have har : a ∈ r ∧ b ∈ r := by
        have h := HA.out.1
        rw [← HK.out.2.2.2.2.1, ← HK.out.2.2.2.2.2.1, ← hr] at h
        exact h
      obtain ⟨Y, hY⟩ : ∃ Y, Y = w6.alloc (.cells #[.int .i64 x.id, .slice Ak nk ck, .string x.owner] 37) := ⟨_, rfl⟩
      have hba : Below w6.heap.size w6 Y := by rw [hY]; exact (Below.refl _ _).alloc (Nat.le_refl _) _
      have hBo : PcK Y w6.heap.size x Ak nk ck := by rw [hY]; exact PcK.new w6 x Ak nk ck
      obtain ⟨Bo, hBe⟩ : ∃ Bo, Bo = w6.heap.size := ⟨_, rfl⟩
      rw [← hBe] at hBo
      have H5 := Lib.hid (And.intro (H4.out.1.on hba) (And.intro (show PtK Y g1 a from Blk.below H4.out.2.1 hba (Blk.lt H4.out.2.1)) (And.intro (show PtK Y g2 b from Blk.below H4.out.2.2.1 hba (Blk.lt H4.out.2.2.1)) (And.intro (H4.out.2.2.2.1.on hba) (And.intro (H4.out.2.2.2.2.below hba) (And.intro hBo (own_below hro hba)))))))
      have hrn : nk = r.length := (Reads.of_own hro).lenPt.symm
      have HR := Lib.hid (And.intro hrl (And.intro har hrn))
      have HBO : Hid (Bq < Bo ∧ adq.block < Bo) := by show _ ∧ _; rw [hBe]; exact ⟨Blk.lt H4.out.2.2.2.1, hadq⟩
      clear hrn hrl har hxr hr hxo hx hhd hba hBo hro hadq
      go_upto_region 8 with fail
      rw [← hY, ← hBe]
      clear hY hBe s1 s2 s3 q1 q2 q3 H4 hk2'
      obtain ⟨q1, q2, q3⟩ := H5.out.2.2.2.1.facts
      obtain ⟨r1, r2, -, -, -⟩ := H5.out.2.1.facts
      obtain ⟨r3, r4, -, -, -⟩ := H5.out.2.2.1.facts
      obtain ⟨-, t1, t2, t3⟩ := H5.out.2.2.2.2.2.1.facts
      obtain ⟨l1, l2⟩ : g1 < Y.heap.size ∧ g2 < Y.heap.size := ⟨Blk.lt H5.out.2.1, Blk.lt H5.out.2.2.1⟩
      have hk2' : (k : Int) < (n2 : Int) := by omega
      have hh : (⟨Bq, 1, none⟩ : Addr).block < Y.heap.size ∧ (⟨Bo, 1, none⟩ : Addr).block < Y.heap.size ∧ (⟨g1, 0, none⟩ : Addr).block < Y.heap.size ∧ (⟨g1, 1, none⟩ : Addr).block < Y.heap.size ∧ (⟨g2, 0, none⟩ : Addr).block < Y.heap.size ∧ (⟨g2, 1, none⟩ : Addr).block < Y.heap.size := ⟨q3, t3, l1, l1, l2, l2⟩
      have hP0 : Y.drew.cell? ⟨Bq, 1, none⟩ = some (.slice (some adq) n2 c2) ∧ Y.drew.cell? ⟨Bo, 1, none⟩ = some (.slice Ak nk ck) ∧ Y.drew.cell? ⟨g1, 0, none⟩ = some (.int .i64 a.x) ∧ Y.drew.cell? ⟨g1, 1, none⟩ = some (.int .i64 a.y) ∧ Y.drew.cell? ⟨g2, 0, none⟩ = some (.int .i64 b.x) ∧ Y.drew.cell? ⟨g2, 1, none⟩ = some (.int .i64 b.y) ∧ Y.heap.size ≤ Y.drew.heap.size := ⟨q2, t1, r1, r2, r3, r4, Nat.le_refl _⟩
      have hbd : Below Y.heap.size Y Y.drew := (Below.refl _ _).drew
      have kT := fun V (hV : Below Y.heap.size Y V) => turned_any path (some ad) m cb V (H5.out.1.on hV).2.2.2.2 hm
      have kW := fun V (hV : Below Y.heap.size Y V) => cutWayI_any r a b Ak nk ck V ((Reads.of_own H5.out.2.2.2.2.2.2).on hV) HR.out.2.1.1 HR.out.2.1.2 (by have := HR.out.2.2; have := HR.out.1; omega)
      obtain ⟨wy, hwy⟩ : ∃ z, z = wayI r a b := ⟨_, rfl⟩
      rw [← hwy] at kW
      have hwl : wy.length ≤ 512 := by rw [hwy]; exact Nat.le_trans (wayI_le _ _ _) HR.out.1
      have HWY := Lib.hid hwy
      obtain ⟨L, hL⟩ : ∃ L, L = wy.length := ⟨_, rfl⟩
      rw [← hL] at kW hwl
      have HLL := Lib.hid hL
      clear hL
      have hfz := fun V (hV : Below Y.heap.size Y V) => PlanOwn.frzC (H5.out.2.2.2.2.1.below hV) hk2
      have hcl := fun V (hV : Below Y.heap.size Y V) => (H5.out.2.2.2.2.1.below hV).hdC hk2
      have hrl : path.reverse.length = m := by rw [List.length_reverse, HL.out]
      have hneq := HBO.out
      have hngq := HGQ.out
      have hgr1 := own_blk_ne H5.out.2.2.2.2.1.row H5.out.2.1 (by decide)
      have hgr2 := own_blk_ne H5.out.2.2.2.2.1.row H5.out.2.2.1 (by decide)
      have hgr3 := own_blk_ne H5.out.2.2.2.2.1.row H5.out.2.2.2.1 (by decide)
      obtain ⟨hne1, hne2, hne3⟩ : adq.block ≠ g1 ∧ adq.block ≠ g2 ∧ adq.block ≠ Bq := ⟨fun e => hgr1 (by rw [← e]; rfl), fun e => hgr2 (by rw [← e]; rfl), fun e => hgr3 (by rw [← e]; rfl)⟩
      have hpa : lst (path.reverse ++ wy) = partA (cutRing p k (path0 path) (path1 path)) path := by unfold partA; rw [hwy, HX.out.2, HK.out.2.2.2.2.1, HK.out.2.2.2.2.2.1]
      have hfB := spB_fits HK.out.1 HPR.out.1.fits HK.out.2.2.2.2.2.2.1 HK.out.2.2.2.2.2.2.2
      have hfA : (setR (spB p a b) k (lst (path.reverse ++ wy))).fits := by rw [hpa]; exact setR_fits hfB (by rw [spB_len]; exact HK.out.2.1) (by have := HA.out.2.2.1; omega) (fun q hq => good_in2 (HA.out.2.1 q hq))
      have HFA := Lib.hid (And.intro hfA hpa)
      clear hfB hfA hpa
      clear q1 q2 r1 r2 r3 r4 t1 t2 hwy hgr1 hgr2 hgr3
      go_cut [] (fun wx => ∃ (adr : Option Addr) (mr cr : Nat), SplQ p path A n c A' n' c' (some ad) m a b g1 g2 Bq A1 n1 c1 (some adq) n2 c2 (setR (spB p a b) k (lst (path.reverse ++ wy))) (hs.set k (adr, mr, cr)) w wx ∧ PcK wx Bo x Ak nk ck ∧ wx.ownsRow w.heap.size 35 2 (.slice Ak nk ck) nk (ptsV r))
      case first =>
        refine wp_region_held_drew (S := fun V => V.cell? ⟨Bq, 1, none⟩ = some (.slice (some adq) n2 c2) ∧ V.cell? ⟨Bo, 1, none⟩ = some (.slice Ak nk ck) ∧ V.cell? ⟨g1, 0, none⟩ = some (.int .i64 a.x) ∧ V.cell? ⟨g1, 1, none⟩ = some (.int .i64 a.y) ∧ V.cell? ⟨g2, 0, none⟩ = some (.int .i64 b.x) ∧ V.cell? ⟨g2, 1, none⟩ = some (.int .i64 b.y) ∧ Y.heap.size ≤ V.heap.size) (by kernel_rfl) ?_ (fun hHeld => ?_)
        · exact hP0
        refine tk 0 ?_
        refine tk 1 ?_
        refine tk 2 ?_
        refine tk 3 ?_
        refine tk 5 ?_
        refine tk 6 ?_
        refine tk 7 ?_
        refine tk 8 ?_
        refine wpAnyH_ready (rs := [4]) (by kernel_rfl) (by simp) ?_
        refine AllReadyH.cons rfl (fun K hK => ?_) AllReadyH.nil
        go_simp
        go_at_call 132
        (with_reducible refine (kT _ hbd).mono ?_)
        rintro e w7 ⟨T1, cT, rfl, rT, hb7⟩
        have hB7 := hbd.trans hb7
        try dsimp only
        refine hK.out _ _ ?_ (fun hHeld => ?_)
        · exact hldZ6 hh hP0 hb7
        clear hK K
        try simp only [Act.put, List.setIfInBounds_toArray, List.set_cons_zero, List.set_cons_succ]
        refine wpAnyH_ready (rs := [9]) (by kernel_rfl) (by simp) ?_
        refine AllReadyH.cons rfl (fun K hK => ?_) AllReadyH.nil
        go_simp
        go_at_call 133
        (with_reducible refine (kW w7 hB7).mono ?_)
        rintro e w8 ⟨W1, cW, rfl, rW, hb8⟩
        have hB8 := below_on hB7 (Nat.le_refl _) hb8
        have rT8 := rT.on hb8
        have rW8 := Reads.of_own rW
        try dsimp only
        refine hK.out _ _ ?_ (fun hHeld => ?_)
        · exact hldZ6 hh hHeld hb8
        clear hK K
        try simp only [Act.put, List.setIfInBounds_toArray, List.set_cons_zero, List.set_cons_succ]
        refine wpAnyH_ready (rs := [10]) (by kernel_rfl) (by simp) ?_
        refine AllReadyH.cons rfl (fun K hK => ?_) AllReadyH.nil
        go_simp
        refine hK.out _ _ ?_ (fun hHeld => ?_)
        · exact hldZ6 hh hHeld ((Below.refl _ _).alloc (Nat.le_refl _) _)
        clear hK K
        try simp only [Act.put, List.setIfInBounds_toArray, List.set_cons_zero, List.set_cons_succ]
        refine wpAnyH_ready (rs := [11]) (by kernel_rfl) (by simp) ?_
        refine AllReadyH.cons rfl (fun K hK => ?_) AllReadyH.nil
        go_simp
        go_at_call 131
        (with_reducible refine (concNew rT8 rW8 (by omega) (by omega)).mono ?_)
        rintro e w9 ⟨C1, cC, rfl, rC, hb9⟩
        have hB9 := below_on (hB8.alloc hB8.size _) (Nat.le_refl _) hb9
        try dsimp only
        refine hK.out _ _ ?_ (fun hHeld => ?_)
        · exact hldZ6 hh hHeld hb9
        clear hK K
        try simp only [Act.put, List.setIfInBounds_toArray, List.set_cons_zero, List.set_cons_succ]
        refine wpAnyH_ready (rs := [12]) (by kernel_rfl) (by simp) ?_
        refine AllReadyH.cons rfl (fun K hK => ?_) AllReadyH.nil
        go_simp
        go_at_call 130
        (with_reducible refine (leastP_any (path.reverse ++ wy) C1 (m + L) cC w9 (Reads.of_own rC) (own_cap rC).1 (by omega)).mono ?_)
        rintro e w10 ⟨D1, cD, rfl, rD, hb10⟩
        have hB10 := below_on hB9 (Nat.le_refl _) hb10
        have hf10 := hfz w10 hB10
        have hc10 := hcl w10 hB10
        try dsimp only
        refine hK.out _ _ ?_ (fun hHeld => ?_)
        · exact hldZ6 hh hHeld hb10
        clear hK K
        try simp only [Act.put, List.setIfInBounds_toArray, List.set_cons_zero, List.set_cons_succ]
        have hHS := hHeld
        refine tk 13 ?_
        refine tk 14 ?_
        refine wpAnyH_ready (rs := [15]) (by kernel_rfl) (by simp) ?_
        refine AllReadyH.cons rfl (fun K hK => ?_) AllReadyH.nil
        go_simp
        refine hK.out _ _ ?_ (fun hHeld => ?_)
        · exact hldZ6c ⟨fun e => by have := congrArg Addr.block e; simp only [block_of_add] at this; omega, fun e => by have := congrArg Addr.block e; simp only [block_of_add] at this; omega, fun e => by have := congrArg Addr.block e; simp only [block_of_add] at this; omega, fun e => by have := congrArg Addr.block e; simp only [block_of_add] at this; omega, fun e => by have := congrArg Addr.block e; simp only [block_of_add] at this; omega, fun e => by have := congrArg Addr.block e; simp only [block_of_add] at this; omega⟩ hHS
        clear hK K
        try simp only [Act.put, List.setIfInBounds_toArray, List.set_cons_zero, List.set_cons_succ]
        refine wpAnyH_done (by kernel_rfl) ?_ _
        go_wp2_with fail
        go_meet
        have hxl : (path.reverse ++ wy).length = m + L := by rw [List.length_append, hrl, ← HLL.out]
        have elst : rot (leastN (path.reverse ++ wy) (m + L)) (path.reverse ++ wy) = lst (path.reverse ++ wy) := by unfold lst; rw [hxl]
        rw [elst] at rD
        have hpo10 := H5.out.2.2.2.2.1.below hB10
        have hw9 : w.heap.size ≤ w9.heap.size := Nat.le_trans H5.out.1.1.size hB9.size
        obtain ⟨hpo11, -, hbq⟩ := hpo10.setRing hk2 (own_mono rD hw9) HFA.out.1
        have haq : w.heap.size + 1 < adq.block := by have h1 := own_blk_ne H5.out.2.2.2.2.1.row H5.out.1.2.2.1 (by decide); have h2 := own_blk_ne H5.out.2.2.2.2.1.row H5.out.1.2.1 (by decide); have h3 : adq.block ≠ w.heap.size + 1 := fun e => h1 (by rw [← e]; rfl); have h4 : adq.block ≠ w.heap.size := fun e => h2 (by rw [← e]; rfl); omega
        refine ⟨D1, m + L, cD, ⟨(H5.out.1.on hB10).far HPR.out (by rw [block_of_add]; exact haq) _, ?_, ?_, ?_, hpo11⟩, ?_, ?_⟩
        · exact Blk.far (Blk.below H5.out.2.1 hB10 (Blk.lt H5.out.2.1)) (by rw [block_of_add]; exact fun e => hne1 e.symm) _
        · exact Blk.far (Blk.below H5.out.2.2.1 hB10 (Blk.lt H5.out.2.2.1)) (by rw [block_of_add]; exact fun e => hne2 e.symm) _
        · exact Blk.far (H5.out.2.2.2.1.on hB10) (by rw [block_of_add]; exact fun e => hne3 e.symm) _
        · exact Blk.far (H5.out.2.2.2.2.2.1.on hB10) (by rw [block_of_add]; omega) _
        · exact own_heap (own_below H5.out.2.2.2.2.2.2 hB10) fun g hg => Below.heap_setCell _ _ _ g (by rw [block_of_add]; exact fun e => own_own_ne H5.out.2.2.2.2.1.row H5.out.2.2.2.2.2.2 (by decide) (g := g) (by rw [e]; rfl) hg)
      case rest =>
        obtain ⟨adr, mr, cr, ⟨hF, k1, k2, hQ, hpo⟩, hBo, hro⟩ := hcut
        obtain ⟨Z, rfl⟩ : ∃ V, V = wc := ⟨_, rfl⟩
        obtain ⟨Q1, hQ1⟩ : ∃ q, q = setR (spB p a b) k (lst (path.reverse ++ wy)) := ⟨_, rfl⟩
        rw [← hQ1] at hpo
        have HQ1 := Lib.hid hQ1
        obtain ⟨hs2, hhs2⟩ : ∃ z, z = hs.set k (adr, mr, cr) := ⟨_, rfl⟩
        rw [← hhs2] at hpo
        have H6 := Lib.hid (And.intro hF (And.intro k1 (And.intro k2 (And.intro hQ (And.intro hpo (And.intro hBo hro))))))
        clear hF k1 k2 hQ hpo hBo hro hQ1 hhs2 H5 hP0 hh hbd kT kW hfz hcl hrl hneq hngq hne1 hne2 hne3 l1 l2 q3 t3
        obtain ⟨q1, q2, q3⟩ := H6.out.2.2.2.1.facts
        obtain ⟨r1, r2, -, -, -⟩ := H6.out.2.1.facts
        obtain ⟨r3, r4, -, -, -⟩ := H6.out.2.2.1.facts
        obtain ⟨-, t1, t2, t3⟩ := H6.out.2.2.2.2.2.1.facts
        obtain ⟨l1, l2⟩ : g1 < Z.heap.size ∧ g2 < Z.heap.size := ⟨Blk.lt H6.out.2.1, Blk.lt H6.out.2.2.1⟩
        have hh : (⟨Bo, 1, none⟩ : Addr).block < Z.heap.size ∧ (⟨Bo, 2, none⟩ : Addr).block < Z.heap.size ∧ (⟨g1, 0, none⟩ : Addr).block < Z.heap.size ∧ (⟨g1, 1, none⟩ : Addr).block < Z.heap.size ∧ (⟨g2, 0, none⟩ : Addr).block < Z.heap.size ∧ (⟨g2, 1, none⟩ : Addr).block < Z.heap.size := ⟨t3, t3, l1, l1, l2, l2⟩
        have hP0 : Z.drew.cell? ⟨Bo, 1, none⟩ = some (.slice Ak nk ck) ∧ Z.drew.cell? ⟨Bo, 2, none⟩ = some (.string x.owner) ∧ Z.drew.cell? ⟨g1, 0, none⟩ = some (.int .i64 a.x) ∧ Z.drew.cell? ⟨g1, 1, none⟩ = some (.int .i64 a.y) ∧ Z.drew.cell? ⟨g2, 0, none⟩ = some (.int .i64 b.x) ∧ Z.drew.cell? ⟨g2, 1, none⟩ = some (.int .i64 b.y) ∧ Z.heap.size ≤ Z.drew.heap.size := ⟨t1, t2, r1, r2, r3, r4, Nat.le_refl _⟩
        have hbd : Below Z.heap.size Z Z.drew := (Below.refl _ _).drew
        have hcq := fun V (hV : Below Z.heap.size Z V) => (hV.cell (p := ⟨Bq, 1, none⟩) q3).trans q2
        have kW := fun V (hV : Below Z.heap.size Z V) => cutWayI_any r b a Ak nk ck V ((Reads.of_own H6.out.2.2.2.2.2.2).on hV) HR.out.2.1.2 HR.out.2.1.1 (by have := HR.out.2.2; have := HR.out.1; omega)
        obtain ⟨wz, hwz⟩ : ∃ z, z = wayI r b a := ⟨_, rfl⟩
        rw [← hwz] at kW
        have hzl : wz.length ≤ 512 := by rw [hwz]; exact Nat.le_trans (wayI_le _ _ _) HR.out.1
        obtain ⟨L2, hL2⟩ : ∃ L, L = wz.length := ⟨_, rfl⟩
        rw [← hL2] at kW hzl
        have hpb : lst (path ++ wz) = partB (cutRing p k (path0 path) (path1 path)) path := by unfold partB; rw [hwz, HX.out.2, HK.out.2.2.2.2.1, HK.out.2.2.2.2.2.1]
        have hn64 : n2 ≤ 64 := by have h1 := (listed_bd HK.out.1.1).2.1; have h2 := H6.out.2.2.2.2.1.lenp; have h3 : Q1.parcels.length = p.parcels.length := (by rw [HQ1.out]; show (List.set _ _ _).length = _; rw [List.length_set, spB_len]); omega
        have hfS : (⟨Q1.outer, Q1.parcels ++ [⟨fresh, lst (path ++ wz), x.owner⟩]⟩ : Plan).fits := by rw [hpb]; exact snoc_fits H6.out.2.2.2.2.1.fits (by have := H6.out.2.2.2.2.1.lenp; omega) ⟨by have := HA.out.2.2.2.2; show (partB _ _).length ≤ _; omega, fun q hq => good_in2 (HA.out.2.2.2.1 q hq), by have := HG.out.1; unfold idB at this; simp at this; show inI fresh; unfold inI; omega, by rw [HX.out.1]; exact (HPR.out.1.fits.pc HK.out.2.1).2.2.2⟩
        have hxl : (path ++ wz).length = m + L2 := by rw [List.length_append, HL.out, ← hL2]
        have hls : rot (leastN (path ++ wz) (m + L2)) (path ++ wz) = lst (path ++ wz) := by unfold lst; rw [hxl]
        have kL := fun V C1 cC (hrC : Reads V V.heap.size 2 C1 (m + L2) (ptsV (path ++ wz))) (hc : m + L2 ≤ cC) => leastP_any (path ++ wz) C1 (m + L2) cC V hrC hc (by omega)
        rw [hls] at kL
        have HWZ := Lib.hid hwz
        have hap : n2 + 1 ≤ maxLen ∧ (n2 + 1) * 48 ≤ 140737488355328 := ⟨by simp only [maxLen]; omega, by omega⟩
        have HAL := Lib.hid hap
        have kE := fun V (hV : Below Z.heap.size Z V) D cD (rD : V.ownsRow w.heap.size 35 2 (.slice D (m + L2) cD) (m + L2) (ptsV (lst (path ++ wz)))) A5 c5 W' hown hg => spl_end (W' := W') (A5 := A5) (c5 := c5) H6.out hfS HBO.out.2 HGQ.out.1 hV rD hown hg
        obtain ⟨i1, hi1, hy0, hy1, hy2⟩ := info_parts info_pc
        have HKE := Lib.hid kE
        have HN64 := Lib.hid hn64
        have hwZ : w.heap.size ≤ Z.heap.size := H6.out.1.1.size
        clear q1 q2 r1 r2 r3 r4 t1 t2 hwz hL2 hpb hfS hxl hls hap kE hn64
        go_upto_region 9 with fail
        go_cut [] (fun wx => ∃ (A5 : Option Addr) (c5 : Nat) (hs5 : List Hd), Below w.heap.size w wx ∧ PlK wx (w.heap.size + 1) none 0 0 none 0 0 ∧ PlK wx Bq A1 n1 c1 A5 (n2 + 1) c5 ∧ PlanOwn w.heap.size wx A1 n1 c1 A5 (n2 + 1) c5 ⟨Q1.outer, Q1.parcels ++ [⟨fresh, lst (path ++ wz), x.owner⟩]⟩ hs5)
        case first =>
          refine wp_region_held_drew (S := fun V => V.cell? ⟨Bo, 1, none⟩ = some (.slice Ak nk ck) ∧ V.cell? ⟨Bo, 2, none⟩ = some (.string x.owner) ∧ V.cell? ⟨g1, 0, none⟩ = some (.int .i64 a.x) ∧ V.cell? ⟨g1, 1, none⟩ = some (.int .i64 a.y) ∧ V.cell? ⟨g2, 0, none⟩ = some (.int .i64 b.x) ∧ V.cell? ⟨g2, 1, none⟩ = some (.int .i64 b.y) ∧ Z.heap.size ≤ V.heap.size) (by kernel_rfl) ?_ (fun hHeld => ?_)
          · exact hP0
          refine tk 0 ?_
          refine tk 2 ?_
          refine tk 3 ?_
          refine tk 4 ?_
          refine tk 5 ?_
          refine tk 6 ?_
          refine tk 7 ?_
          refine tk 12 ?_
          refine tk 13 ?_
          refine wpAnyH_ready (rs := [1, 8]) (by kernel_rfl) (by simp) ?_
          refine AllReadyH.cons rfl (fun K hK => ?_) (AllReadyH.cons rfl (fun K hK => ?_) AllReadyH.nil)
          · have LW := hcq _ hbd
            go_simp
            refine hK.out _ _ ?_ (fun hHeld => ?_)
            · first | exact hHeld | exact hP0
            clear LW
            clear hK K
            try simp only [Act.put, List.setIfInBounds_toArray, List.set_cons_zero, List.set_cons_succ]
            refine wpAnyH_ready (rs := [8]) (by kernel_rfl) (by simp) ?_
            refine AllReadyH.cons rfl (fun K hK => ?_) AllReadyH.nil
            go_simp
            go_at_call 133
            (with_reducible refine (kW _ hbd).mono ?_)
            rintro e w8 ⟨W1, cW, rfl, rW, hb8⟩
            have hB8 := hbd.trans hb8
            have rP8 := (H6.out.1.on hB8).2.2.2.2
            have rW8 := Reads.of_own rW
            try dsimp only
            refine hK.out _ _ ?_ (fun hHeld => ?_)
            · exact hldZ6 hh hP0 hb8
            clear hK K
            try simp only [Act.put, List.setIfInBounds_toArray, List.set_cons_zero, List.set_cons_succ]
            refine wpAnyH_ready (rs := [9]) (by kernel_rfl) (by simp) ?_
            refine AllReadyH.cons rfl (fun K hK => ?_) AllReadyH.nil
            go_simp
            refine hK.out _ _ ?_ (fun hHeld => ?_)
            · exact hldZ6 hh hHeld ((Below.refl _ _).alloc (Nat.le_refl _) _)
            clear hK K
            try simp only [Act.put, List.setIfInBounds_toArray, List.set_cons_zero, List.set_cons_succ]
            have hBa := hB8.alloc hB8.size (.cells #[.slice (some ad) m cb, .slice W1 L2 cW] 23)
            refine wpAnyH_ready (rs := [10]) (by kernel_rfl) (by simp) ?_
            refine AllReadyH.cons rfl (fun K hK => ?_) AllReadyH.nil
            go_simp
            go_at_call 131
            (with_reducible refine (concNew rP8 rW8 (by omega) (by omega)).mono ?_)
            rintro e w9 ⟨C1, cC, rfl, rC, hb9⟩
            have hB9 := below_on (hB8.alloc hB8.size _) (Nat.le_refl _) hb9
            try dsimp only
            refine hK.out _ _ ?_ (fun hHeld => ?_)
            · exact hldZ6 hh hHeld hb9
            clear hK K
            try simp only [Act.put, List.setIfInBounds_toArray, List.set_cons_zero, List.set_cons_succ]
            refine wpAnyH_ready (rs := [11]) (by kernel_rfl) (by simp) ?_
            refine AllReadyH.cons rfl (fun K hK => ?_) AllReadyH.nil
            go_simp
            go_at_call 130
            (with_reducible refine (kL w9 C1 cC (Reads.of_own rC) (own_cap rC).1).mono ?_)
            rintro e w10 ⟨D1, cD, rfl, rD, hb10⟩
            have hB10 := below_on hB9 (Nat.le_refl _) hb10
            try dsimp only
            refine hK.out _ _ ?_ (fun hHeld => ?_)
            · exact hldZ6 hh hHeld hb10
            clear hK K
            try simp only [Act.put, List.setIfInBounds_toArray, List.set_cons_zero, List.set_cons_succ]
            refine tk 14 ?_
            refine wpAnyH_ready (rs := [15]) (by kernel_rfl) (by simp) ?_
            refine AllReadyH.cons rfl (fun K hK => ?_) AllReadyH.nil
            go_simp
            refine hK.out _ _ ?_ (fun hHeld => ?_)
            · exact hldZ6 hh hHeld ((Below.refl _ _).alloc (Nat.le_refl _) _)
            clear hK K
            try simp only [Act.put, List.setIfInBounds_toArray, List.set_cons_zero, List.set_cons_succ]
            have hB11 := hB10.alloc hB10.size (.cells #[.int .i64 fresh, .slice D1 (m + L2) cD, .string x.owner] 37)
            have hnew := own_below (own_mono rD (Nat.le_trans hwZ hB9.size)) (show Below w10.heap.size w10 (w10.alloc (.cells #[.int .i64 fresh, .slice D1 (m + L2) cD, .string x.owner] 37)) from (Below.refl _ _).alloc (Nat.le_refl _) _)
            have HAP := Lib.hid (And.intro (H6.out.2.2.2.2.1.below hB11).row (And.intro (Reads.made w10 #[.int .i64 fresh, .slice D1 (m + L2) cD, .string x.owner] 37 (0, 0) 3 1 (pcV ⟨fresh, lst (path ++ wz), x.owner⟩ (D1, m + L2, cD)) rfl rfl) (And.intro HAL.out.1 (And.intro HAL.out.2 (Nat.le_trans hwZ hB11.size)))))
            refine wpAnyH_ready (rs := [16]) (by kernel_rfl) (by simp) ?_
            refine AllReadyH.cons rfl (fun K hK => ?_) AllReadyH.nil
            refine step_append_any _ (by rfl) (.tmp 63) (.tmp 77) _ (by rfl) w.heap.size 37 i1 _ 3 48 Tryz.underlying24 hi1 hy0 hy1 hy2 (by rfl) (Nat.zero_lt_succ _) (.slice (some adq) n2 c2) n2 _ (by rfl) HAP.out.1 _ (some ⟨_, 0, none⟩) 1 1 _ (by rfl) HAP.out.2.1 (pcV_one _ _) HAP.out.2.2.1 HAP.out.2.2.2.1 HAP.out.2.2.2.2 ?_
            intro v2 w12 hown2 hg2 hat2
            obtain ⟨A5, c5, rfl⟩ := own_form hown2
            obtain ⟨hS12, z1, z2, hZ12⟩ := HKE.out _ hB11 _ _ hnew _ _ _ hown2 hg2
            have HZ12 := Lib.hid hZ12
            clear hown2 hg2 hat2 hnew rD HAP hZ12
            try dsimp only
            refine hK.out _ _ ?_ (fun hHeld => ?_)
            · exact hS12 _ _ _ _ _ _ hHeld
            clear hK K hS12
            try simp only [Act.put, List.setIfInBounds_toArray]
            refine tk 17 ?_
            refine wpAnyH_ready (rs := [18]) (by kernel_rfl) (by simp) ?_
            refine AllReadyH.cons rfl (fun K hK => ?_) AllReadyH.nil
            go_simp
            refine hK.out _ _ ?_ (fun hHeld => ?_)
            · exact hldZ6c ⟨fun e => by have := congrArg Addr.block e; simp only at this; have := HBO.out; have := HGQ.out; omega, fun e => by have := congrArg Addr.block e; simp only at this; have := HBO.out; have := HGQ.out; omega, fun e => by have := congrArg Addr.block e; simp only at this; have := HBO.out; have := HGQ.out; omega, fun e => by have := congrArg Addr.block e; simp only at this; have := HBO.out; have := HGQ.out; omega, fun e => by have := congrArg Addr.block e; simp only at this; have := HBO.out; have := HGQ.out; omega, fun e => by have := congrArg Addr.block e; simp only at this; have := HBO.out; have := HGQ.out; omega⟩ hHeld
            clear hK K
            try simp only [Act.put, List.setIfInBounds_toArray, List.set_cons_zero, List.set_cons_succ]
            refine wpAnyH_done (by kernel_rfl) ?_ _
            go_wp2_with fail
            go_meet
            exact HZ12.out
          · go_simp
            go_at_call 133
            (with_reducible refine (kW _ hbd).mono ?_)
            rintro e w8 ⟨W1, cW, rfl, rW, hb8⟩
            have hB8 := hbd.trans hb8
            have rP8 := (H6.out.1.on hB8).2.2.2.2
            have rW8 := Reads.of_own rW
            try dsimp only
            refine hK.out _ _ ?_ (fun hHeld => ?_)
            · exact hldZ6 hh hP0 hb8
            clear hK K
            try simp only [Act.put, List.setIfInBounds_toArray, List.set_cons_zero, List.set_cons_succ]
            refine wpAnyH_ready (rs := [1, 9]) (by kernel_rfl) (by simp) ?_
            refine AllReadyH.cons rfl (fun K hK => ?_) (AllReadyH.cons rfl (fun K hK => ?_) AllReadyH.nil)
            · have LW := hcq _ hB8
              go_simp
              refine hK.out _ _ ?_ (fun hHeld => ?_)
              · first | exact hHeld | exact hP0
              clear LW
              clear hK K
              try simp only [Act.put, List.setIfInBounds_toArray, List.set_cons_zero, List.set_cons_succ]
              refine wpAnyH_ready (rs := [9]) (by kernel_rfl) (by simp) ?_
              refine AllReadyH.cons rfl (fun K hK => ?_) AllReadyH.nil
              go_simp
              refine hK.out _ _ ?_ (fun hHeld => ?_)
              · exact hldZ6 hh hHeld ((Below.refl _ _).alloc (Nat.le_refl _) _)
              clear hK K
              try simp only [Act.put, List.setIfInBounds_toArray, List.set_cons_zero, List.set_cons_succ]
              have hBa := hB8.alloc hB8.size (.cells #[.slice (some ad) m cb, .slice W1 L2 cW] 23)
              refine wpAnyH_ready (rs := [10]) (by kernel_rfl) (by simp) ?_
              refine AllReadyH.cons rfl (fun K hK => ?_) AllReadyH.nil
              go_simp
              go_at_call 131
              (with_reducible refine (concNew rP8 rW8 (by omega) (by omega)).mono ?_)
              rintro e w9 ⟨C1, cC, rfl, rC, hb9⟩
              have hB9 := below_on (hB8.alloc hB8.size _) (Nat.le_refl _) hb9
              try dsimp only
              refine hK.out _ _ ?_ (fun hHeld => ?_)
              · exact hldZ6 hh hHeld hb9
              clear hK K
              try simp only [Act.put, List.setIfInBounds_toArray, List.set_cons_zero, List.set_cons_succ]
              refine wpAnyH_ready (rs := [11]) (by kernel_rfl) (by simp) ?_
              refine AllReadyH.cons rfl (fun K hK => ?_) AllReadyH.nil
              go_simp
              go_at_call 130
              (with_reducible refine (kL w9 C1 cC (Reads.of_own rC) (own_cap rC).1).mono ?_)
              rintro e w10 ⟨D1, cD, rfl, rD, hb10⟩
              have hB10 := below_on hB9 (Nat.le_refl _) hb10
              try dsimp only
              refine hK.out _ _ ?_ (fun hHeld => ?_)
              · exact hldZ6 hh hHeld hb10
              clear hK K
              try simp only [Act.put, List.setIfInBounds_toArray, List.set_cons_zero, List.set_cons_succ]
              refine tk 14 ?_
              refine wpAnyH_ready (rs := [15]) (by kernel_rfl) (by simp) ?_
              refine AllReadyH.cons rfl (fun K hK => ?_) AllReadyH.nil
              go_simp
              refine hK.out _ _ ?_ (fun hHeld => ?_)
              · exact hldZ6 hh hHeld ((Below.refl _ _).alloc (Nat.le_refl _) _)
              clear hK K
              try simp only [Act.put, List.setIfInBounds_toArray, List.set_cons_zero, List.set_cons_succ]
              have hB11 := hB10.alloc hB10.size (.cells #[.int .i64 fresh, .slice D1 (m + L2) cD, .string x.owner] 37)
              have hnew := own_below (own_mono rD (Nat.le_trans hwZ hB9.size)) (show Below w10.heap.size w10 (w10.alloc (.cells #[.int .i64 fresh, .slice D1 (m + L2) cD, .string x.owner] 37)) from (Below.refl _ _).alloc (Nat.le_refl _) _)
              have HAP := Lib.hid (And.intro (H6.out.2.2.2.2.1.below hB11).row (And.intro (Reads.made w10 #[.int .i64 fresh, .slice D1 (m + L2) cD, .string x.owner] 37 (0, 0) 3 1 (pcV ⟨fresh, lst (path ++ wz), x.owner⟩ (D1, m + L2, cD)) rfl rfl) (And.intro HAL.out.1 (And.intro HAL.out.2 (Nat.le_trans hwZ hB11.size)))))
              refine wpAnyH_ready (rs := [16]) (by kernel_rfl) (by simp) ?_
              refine AllReadyH.cons rfl (fun K hK => ?_) AllReadyH.nil
              refine step_append_any _ (by rfl) (.tmp 63) (.tmp 77) _ (by rfl) w.heap.size 37 i1 _ 3 48 Tryz.underlying24 hi1 hy0 hy1 hy2 (by rfl) (Nat.zero_lt_succ _) (.slice (some adq) n2 c2) n2 _ (by rfl) HAP.out.1 _ (some ⟨_, 0, none⟩) 1 1 _ (by rfl) HAP.out.2.1 (pcV_one _ _) HAP.out.2.2.1 HAP.out.2.2.2.1 HAP.out.2.2.2.2 ?_
              intro v2 w12 hown2 hg2 hat2
              obtain ⟨A5, c5, rfl⟩ := own_form hown2
              obtain ⟨hS12, z1, z2, hZ12⟩ := HKE.out _ hB11 _ _ hnew _ _ _ hown2 hg2
              have HZ12 := Lib.hid hZ12
              clear hown2 hg2 hat2 hnew rD HAP hZ12
              try dsimp only
              refine hK.out _ _ ?_ (fun hHeld => ?_)
              · exact hS12 _ _ _ _ _ _ hHeld
              clear hK K hS12
              try simp only [Act.put, List.setIfInBounds_toArray]
              refine tk 17 ?_
              refine wpAnyH_ready (rs := [18]) (by kernel_rfl) (by simp) ?_
              refine AllReadyH.cons rfl (fun K hK => ?_) AllReadyH.nil
              go_simp
              refine hK.out _ _ ?_ (fun hHeld => ?_)
              · exact hldZ6c ⟨fun e => by have := congrArg Addr.block e; simp only at this; have := HBO.out; have := HGQ.out; omega, fun e => by have := congrArg Addr.block e; simp only at this; have := HBO.out; have := HGQ.out; omega, fun e => by have := congrArg Addr.block e; simp only at this; have := HBO.out; have := HGQ.out; omega, fun e => by have := congrArg Addr.block e; simp only at this; have := HBO.out; have := HGQ.out; omega, fun e => by have := congrArg Addr.block e; simp only at this; have := HBO.out; have := HGQ.out; omega, fun e => by have := congrArg Addr.block e; simp only at this; have := HBO.out; have := HGQ.out; omega⟩ hHeld
              clear hK K
              try simp only [Act.put, List.setIfInBounds_toArray, List.set_cons_zero, List.set_cons_succ]
              refine wpAnyH_done (by kernel_rfl) ?_ _
              go_wp2_with fail
              go_meet
              exact HZ12.out
            · go_simp
              refine hK.out _ _ ?_ (fun hHeld => ?_)
              · exact hldZ6 hh hHeld ((Below.refl _ _).alloc (Nat.le_refl _) _)
              clear hK K
              try simp only [Act.put, List.setIfInBounds_toArray, List.set_cons_zero, List.set_cons_succ]
              have hBa := hB8.alloc hB8.size (.cells #[.slice (some ad) m cb, .slice W1 L2 cW] 23)
              refine wpAnyH_ready (rs := [1, 10]) (by kernel_rfl) (by simp) ?_
              refine AllReadyH.cons rfl (fun K hK => ?_) (AllReadyH.cons rfl (fun K hK => ?_) AllReadyH.nil)
              · have LW := hcq _ hBa
                go_simp
                refine hK.out _ _ ?_ (fun hHeld => ?_)
                · first | exact hHeld | exact hP0
                clear LW
                clear hK K
                try simp only [Act.put, List.setIfInBounds_toArray, List.set_cons_zero, List.set_cons_succ]
                refine wpAnyH_ready (rs := [10]) (by kernel_rfl) (by simp) ?_
                refine AllReadyH.cons rfl (fun K hK => ?_) AllReadyH.nil
                go_simp
                go_at_call 131
                (with_reducible refine (concNew rP8 rW8 (by omega) (by omega)).mono ?_)
                rintro e w9 ⟨C1, cC, rfl, rC, hb9⟩
                have hB9 := below_on (hB8.alloc hB8.size _) (Nat.le_refl _) hb9
                try dsimp only
                refine hK.out _ _ ?_ (fun hHeld => ?_)
                · exact hldZ6 hh hHeld hb9
                clear hK K
                try simp only [Act.put, List.setIfInBounds_toArray, List.set_cons_zero, List.set_cons_succ]
                refine wpAnyH_ready (rs := [11]) (by kernel_rfl) (by simp) ?_
                refine AllReadyH.cons rfl (fun K hK => ?_) AllReadyH.nil
                go_simp
                go_at_call 130
                (with_reducible refine (kL w9 C1 cC (Reads.of_own rC) (own_cap rC).1).mono ?_)
                rintro e w10 ⟨D1, cD, rfl, rD, hb10⟩
                have hB10 := below_on hB9 (Nat.le_refl _) hb10
                try dsimp only
                refine hK.out _ _ ?_ (fun hHeld => ?_)
                · exact hldZ6 hh hHeld hb10
                clear hK K
                try simp only [Act.put, List.setIfInBounds_toArray, List.set_cons_zero, List.set_cons_succ]
                refine tk 14 ?_
                refine wpAnyH_ready (rs := [15]) (by kernel_rfl) (by simp) ?_
                refine AllReadyH.cons rfl (fun K hK => ?_) AllReadyH.nil
                go_simp
                refine hK.out _ _ ?_ (fun hHeld => ?_)
                · exact hldZ6 hh hHeld ((Below.refl _ _).alloc (Nat.le_refl _) _)
                clear hK K
                try simp only [Act.put, List.setIfInBounds_toArray, List.set_cons_zero, List.set_cons_succ]
                have hB11 := hB10.alloc hB10.size (.cells #[.int .i64 fresh, .slice D1 (m + L2) cD, .string x.owner] 37)
                have hnew := own_below (own_mono rD (Nat.le_trans hwZ hB9.size)) (show Below w10.heap.size w10 (w10.alloc (.cells #[.int .i64 fresh, .slice D1 (m + L2) cD, .string x.owner] 37)) from (Below.refl _ _).alloc (Nat.le_refl _) _)
                have HAP := Lib.hid (And.intro (H6.out.2.2.2.2.1.below hB11).row (And.intro (Reads.made w10 #[.int .i64 fresh, .slice D1 (m + L2) cD, .string x.owner] 37 (0, 0) 3 1 (pcV ⟨fresh, lst (path ++ wz), x.owner⟩ (D1, m + L2, cD)) rfl rfl) (And.intro HAL.out.1 (And.intro HAL.out.2 (Nat.le_trans hwZ hB11.size)))))
                refine wpAnyH_ready (rs := [16]) (by kernel_rfl) (by simp) ?_
                refine AllReadyH.cons rfl (fun K hK => ?_) AllReadyH.nil
                refine step_append_any _ (by rfl) (.tmp 63) (.tmp 77) _ (by rfl) w.heap.size 37 i1 _ 3 48 Tryz.underlying24 hi1 hy0 hy1 hy2 (by rfl) (Nat.zero_lt_succ _) (.slice (some adq) n2 c2) n2 _ (by rfl) HAP.out.1 _ (some ⟨_, 0, none⟩) 1 1 _ (by rfl) HAP.out.2.1 (pcV_one _ _) HAP.out.2.2.1 HAP.out.2.2.2.1 HAP.out.2.2.2.2 ?_
                intro v2 w12 hown2 hg2 hat2
                obtain ⟨A5, c5, rfl⟩ := own_form hown2
                obtain ⟨hS12, z1, z2, hZ12⟩ := HKE.out _ hB11 _ _ hnew _ _ _ hown2 hg2
                have HZ12 := Lib.hid hZ12
                clear hown2 hg2 hat2 hnew rD HAP hZ12
                try dsimp only
                refine hK.out _ _ ?_ (fun hHeld => ?_)
                · exact hS12 _ _ _ _ _ _ hHeld
                clear hK K hS12
                try simp only [Act.put, List.setIfInBounds_toArray]
                refine tk 17 ?_
                refine wpAnyH_ready (rs := [18]) (by kernel_rfl) (by simp) ?_
                refine AllReadyH.cons rfl (fun K hK => ?_) AllReadyH.nil
                go_simp
                refine hK.out _ _ ?_ (fun hHeld => ?_)
                · exact hldZ6c ⟨fun e => by have := congrArg Addr.block e; simp only at this; have := HBO.out; have := HGQ.out; omega, fun e => by have := congrArg Addr.block e; simp only at this; have := HBO.out; have := HGQ.out; omega, fun e => by have := congrArg Addr.block e; simp only at this; have := HBO.out; have := HGQ.out; omega, fun e => by have := congrArg Addr.block e; simp only at this; have := HBO.out; have := HGQ.out; omega, fun e => by have := congrArg Addr.block e; simp only at this; have := HBO.out; have := HGQ.out; omega, fun e => by have := congrArg Addr.block e; simp only at this; have := HBO.out; have := HGQ.out; omega⟩ hHeld
                clear hK K
                try simp only [Act.put, List.setIfInBounds_toArray, List.set_cons_zero, List.set_cons_succ]
                refine wpAnyH_done (by kernel_rfl) ?_ _
                go_wp2_with fail
                go_meet
                exact HZ12.out
              · go_simp
                go_at_call 131
                (with_reducible refine (concNew rP8 rW8 (by omega) (by omega)).mono ?_)
                rintro e w9 ⟨C1, cC, rfl, rC, hb9⟩
                have hB9 := below_on (hB8.alloc hB8.size _) (Nat.le_refl _) hb9
                try dsimp only
                refine hK.out _ _ ?_ (fun hHeld => ?_)
                · exact hldZ6 hh hHeld hb9
                clear hK K
                try simp only [Act.put, List.setIfInBounds_toArray, List.set_cons_zero, List.set_cons_succ]
                refine wpAnyH_ready (rs := [1, 11]) (by kernel_rfl) (by simp) ?_
                refine AllReadyH.cons rfl (fun K hK => ?_) (AllReadyH.cons rfl (fun K hK => ?_) AllReadyH.nil)
                · have LW := hcq _ hB9
                  go_simp
                  refine hK.out _ _ ?_ (fun hHeld => ?_)
                  · first | exact hHeld | exact hP0
                  clear LW
                  clear hK K
                  try simp only [Act.put, List.setIfInBounds_toArray, List.set_cons_zero, List.set_cons_succ]
                  refine wpAnyH_ready (rs := [11]) (by kernel_rfl) (by simp) ?_
                  refine AllReadyH.cons rfl (fun K hK => ?_) AllReadyH.nil
                  go_simp
                  go_at_call 130
                  (with_reducible refine (kL w9 C1 cC (Reads.of_own rC) (own_cap rC).1).mono ?_)
                  rintro e w10 ⟨D1, cD, rfl, rD, hb10⟩
                  have hB10 := below_on hB9 (Nat.le_refl _) hb10
                  try dsimp only
                  refine hK.out _ _ ?_ (fun hHeld => ?_)
                  · exact hldZ6 hh hHeld hb10
                  clear hK K
                  try simp only [Act.put, List.setIfInBounds_toArray, List.set_cons_zero, List.set_cons_succ]
                  refine tk 14 ?_
                  refine wpAnyH_ready (rs := [15]) (by kernel_rfl) (by simp) ?_
                  refine AllReadyH.cons rfl (fun K hK => ?_) AllReadyH.nil
                  go_simp
                  refine hK.out _ _ ?_ (fun hHeld => ?_)
                  · exact hldZ6 hh hHeld ((Below.refl _ _).alloc (Nat.le_refl _) _)
                  clear hK K
                  try simp only [Act.put, List.setIfInBounds_toArray, List.set_cons_zero, List.set_cons_succ]
                  have hB11 := hB10.alloc hB10.size (.cells #[.int .i64 fresh, .slice D1 (m + L2) cD, .string x.owner] 37)
                  have hnew := own_below (own_mono rD (Nat.le_trans hwZ hB9.size)) (show Below w10.heap.size w10 (w10.alloc (.cells #[.int .i64 fresh, .slice D1 (m + L2) cD, .string x.owner] 37)) from (Below.refl _ _).alloc (Nat.le_refl _) _)
                  have HAP := Lib.hid (And.intro (H6.out.2.2.2.2.1.below hB11).row (And.intro (Reads.made w10 #[.int .i64 fresh, .slice D1 (m + L2) cD, .string x.owner] 37 (0, 0) 3 1 (pcV ⟨fresh, lst (path ++ wz), x.owner⟩ (D1, m + L2, cD)) rfl rfl) (And.intro HAL.out.1 (And.intro HAL.out.2 (Nat.le_trans hwZ hB11.size)))))
                  refine wpAnyH_ready (rs := [16]) (by kernel_rfl) (by simp) ?_
                  refine AllReadyH.cons rfl (fun K hK => ?_) AllReadyH.nil
                  refine step_append_any _ (by rfl) (.tmp 63) (.tmp 77) _ (by rfl) w.heap.size 37 i1 _ 3 48 Tryz.underlying24 hi1 hy0 hy1 hy2 (by rfl) (Nat.zero_lt_succ _) (.slice (some adq) n2 c2) n2 _ (by rfl) HAP.out.1 _ (some ⟨_, 0, none⟩) 1 1 _ (by rfl) HAP.out.2.1 (pcV_one _ _) HAP.out.2.2.1 HAP.out.2.2.2.1 HAP.out.2.2.2.2 ?_
                  intro v2 w12 hown2 hg2 hat2
                  obtain ⟨A5, c5, rfl⟩ := own_form hown2
                  obtain ⟨hS12, z1, z2, hZ12⟩ := HKE.out _ hB11 _ _ hnew _ _ _ hown2 hg2
                  have HZ12 := Lib.hid hZ12
                  clear hown2 hg2 hat2 hnew rD HAP hZ12
                  try dsimp only
                  refine hK.out _ _ ?_ (fun hHeld => ?_)
                  · exact hS12 _ _ _ _ _ _ hHeld
                  clear hK K hS12
                  try simp only [Act.put, List.setIfInBounds_toArray]
                  refine tk 17 ?_
                  refine wpAnyH_ready (rs := [18]) (by kernel_rfl) (by simp) ?_
                  refine AllReadyH.cons rfl (fun K hK => ?_) AllReadyH.nil
                  go_simp
                  refine hK.out _ _ ?_ (fun hHeld => ?_)
                  · exact hldZ6c ⟨fun e => by have := congrArg Addr.block e; simp only at this; have := HBO.out; have := HGQ.out; omega, fun e => by have := congrArg Addr.block e; simp only at this; have := HBO.out; have := HGQ.out; omega, fun e => by have := congrArg Addr.block e; simp only at this; have := HBO.out; have := HGQ.out; omega, fun e => by have := congrArg Addr.block e; simp only at this; have := HBO.out; have := HGQ.out; omega, fun e => by have := congrArg Addr.block e; simp only at this; have := HBO.out; have := HGQ.out; omega, fun e => by have := congrArg Addr.block e; simp only at this; have := HBO.out; have := HGQ.out; omega⟩ hHeld
                  clear hK K
                  try simp only [Act.put, List.setIfInBounds_toArray, List.set_cons_zero, List.set_cons_succ]
                  refine wpAnyH_done (by kernel_rfl) ?_ _
                  go_wp2_with fail
                  go_meet
                  exact HZ12.out
                · go_simp
                  go_at_call 130
                  (with_reducible refine (kL w9 C1 cC (Reads.of_own rC) (own_cap rC).1).mono ?_)
                  rintro e w10 ⟨D1, cD, rfl, rD, hb10⟩
                  have hB10 := below_on hB9 (Nat.le_refl _) hb10
                  try dsimp only
                  refine hK.out _ _ ?_ (fun hHeld => ?_)
                  · exact hldZ6 hh hHeld hb10
                  clear hK K
                  try simp only [Act.put, List.setIfInBounds_toArray, List.set_cons_zero, List.set_cons_succ]
                  refine tk 14 ?_
                  refine wpAnyH_ready (rs := [1, 15]) (by kernel_rfl) (by simp) ?_
                  refine AllReadyH.cons rfl (fun K hK => ?_) (AllReadyH.cons rfl (fun K hK => ?_) AllReadyH.nil)
                  · have LW := hcq _ hB10
                    go_simp
                    refine hK.out _ _ ?_ (fun hHeld => ?_)
                    · first | exact hHeld | exact hP0
                    clear LW
                    clear hK K
                    try simp only [Act.put, List.setIfInBounds_toArray, List.set_cons_zero, List.set_cons_succ]
                    refine wpAnyH_ready (rs := [15]) (by kernel_rfl) (by simp) ?_
                    refine AllReadyH.cons rfl (fun K hK => ?_) AllReadyH.nil
                    go_simp
                    refine hK.out _ _ ?_ (fun hHeld => ?_)
                    · exact hldZ6 hh hHeld ((Below.refl _ _).alloc (Nat.le_refl _) _)
                    clear hK K
                    try simp only [Act.put, List.setIfInBounds_toArray, List.set_cons_zero, List.set_cons_succ]
                    have hB11 := hB10.alloc hB10.size (.cells #[.int .i64 fresh, .slice D1 (m + L2) cD, .string x.owner] 37)
                    have hnew := own_below (own_mono rD (Nat.le_trans hwZ hB9.size)) (show Below w10.heap.size w10 (w10.alloc (.cells #[.int .i64 fresh, .slice D1 (m + L2) cD, .string x.owner] 37)) from (Below.refl _ _).alloc (Nat.le_refl _) _)
                    have HAP := Lib.hid (And.intro (H6.out.2.2.2.2.1.below hB11).row (And.intro (Reads.made w10 #[.int .i64 fresh, .slice D1 (m + L2) cD, .string x.owner] 37 (0, 0) 3 1 (pcV ⟨fresh, lst (path ++ wz), x.owner⟩ (D1, m + L2, cD)) rfl rfl) (And.intro HAL.out.1 (And.intro HAL.out.2 (Nat.le_trans hwZ hB11.size)))))
                    refine wpAnyH_ready (rs := [16]) (by kernel_rfl) (by simp) ?_
                    refine AllReadyH.cons rfl (fun K hK => ?_) AllReadyH.nil
                    refine step_append_any _ (by rfl) (.tmp 63) (.tmp 77) _ (by rfl) w.heap.size 37 i1 _ 3 48 Tryz.underlying24 hi1 hy0 hy1 hy2 (by rfl) (Nat.zero_lt_succ _) (.slice (some adq) n2 c2) n2 _ (by rfl) HAP.out.1 _ (some ⟨_, 0, none⟩) 1 1 _ (by rfl) HAP.out.2.1 (pcV_one _ _) HAP.out.2.2.1 HAP.out.2.2.2.1 HAP.out.2.2.2.2 ?_
                    intro v2 w12 hown2 hg2 hat2
                    obtain ⟨A5, c5, rfl⟩ := own_form hown2
                    obtain ⟨hS12, z1, z2, hZ12⟩ := HKE.out _ hB11 _ _ hnew _ _ _ hown2 hg2
                    have HZ12 := Lib.hid hZ12
                    clear hown2 hg2 hat2 hnew rD HAP hZ12
                    try dsimp only
                    refine hK.out _ _ ?_ (fun hHeld => ?_)
                    · exact hS12 _ _ _ _ _ _ hHeld
                    clear hK K hS12
                    try simp only [Act.put, List.setIfInBounds_toArray]
                    refine tk 17 ?_
                    refine wpAnyH_ready (rs := [18]) (by kernel_rfl) (by simp) ?_
                    refine AllReadyH.cons rfl (fun K hK => ?_) AllReadyH.nil
                    go_simp
                    refine hK.out _ _ ?_ (fun hHeld => ?_)
                    · exact hldZ6c ⟨fun e => by have := congrArg Addr.block e; simp only at this; have := HBO.out; have := HGQ.out; omega, fun e => by have := congrArg Addr.block e; simp only at this; have := HBO.out; have := HGQ.out; omega, fun e => by have := congrArg Addr.block e; simp only at this; have := HBO.out; have := HGQ.out; omega, fun e => by have := congrArg Addr.block e; simp only at this; have := HBO.out; have := HGQ.out; omega, fun e => by have := congrArg Addr.block e; simp only at this; have := HBO.out; have := HGQ.out; omega, fun e => by have := congrArg Addr.block e; simp only at this; have := HBO.out; have := HGQ.out; omega⟩ hHeld
                    clear hK K
                    try simp only [Act.put, List.setIfInBounds_toArray, List.set_cons_zero, List.set_cons_succ]
                    refine wpAnyH_done (by kernel_rfl) ?_ _
                    go_wp2_with fail
                    go_meet
                    exact HZ12.out
                  · go_simp
                    refine hK.out _ _ ?_ (fun hHeld => ?_)
                    · exact hldZ6 hh hHeld ((Below.refl _ _).alloc (Nat.le_refl _) _)
                    clear hK K
                    try simp only [Act.put, List.setIfInBounds_toArray, List.set_cons_zero, List.set_cons_succ]
                    have hB11 := hB10.alloc hB10.size (.cells #[.int .i64 fresh, .slice D1 (m + L2) cD, .string x.owner] 37)
                    have hnew := own_below (own_mono rD (Nat.le_trans hwZ hB9.size)) (show Below w10.heap.size w10 (w10.alloc (.cells #[.int .i64 fresh, .slice D1 (m + L2) cD, .string x.owner] 37)) from (Below.refl _ _).alloc (Nat.le_refl _) _)
                    have HAP := Lib.hid (And.intro (H6.out.2.2.2.2.1.below hB11).row (And.intro (Reads.made w10 #[.int .i64 fresh, .slice D1 (m + L2) cD, .string x.owner] 37 (0, 0) 3 1 (pcV ⟨fresh, lst (path ++ wz), x.owner⟩ (D1, m + L2, cD)) rfl rfl) (And.intro HAL.out.1 (And.intro HAL.out.2 (Nat.le_trans hwZ hB11.size)))))
                    refine wpAnyH_ready (rs := [1]) (by kernel_rfl) (by simp) ?_
                    refine AllReadyH.cons rfl (fun K hK => ?_) AllReadyH.nil
                    have LW := hcq _ hB11
                    go_simp
                    refine hK.out _ _ ?_ (fun hHeld => ?_)
                    · first | exact hHeld | exact hP0
                    clear LW
                    clear hK K
                    try simp only [Act.put, List.setIfInBounds_toArray, List.set_cons_zero, List.set_cons_succ]
                    refine wpAnyH_ready (rs := [16]) (by kernel_rfl) (by simp) ?_
                    refine AllReadyH.cons rfl (fun K hK => ?_) AllReadyH.nil
                    refine step_append_any _ (by rfl) (.tmp 63) (.tmp 77) _ (by rfl) w.heap.size 37 i1 _ 3 48 Tryz.underlying24 hi1 hy0 hy1 hy2 (by rfl) (Nat.zero_lt_succ _) (.slice (some adq) n2 c2) n2 _ (by rfl) HAP.out.1 _ (some ⟨_, 0, none⟩) 1 1 _ (by rfl) HAP.out.2.1 (pcV_one _ _) HAP.out.2.2.1 HAP.out.2.2.2.1 HAP.out.2.2.2.2 ?_
                    intro v2 w12 hown2 hg2 hat2
                    obtain ⟨A5, c5, rfl⟩ := own_form hown2
                    obtain ⟨hS12, z1, z2, hZ12⟩ := HKE.out _ hB11 _ _ hnew _ _ _ hown2 hg2
                    have HZ12 := Lib.hid hZ12
                    clear hown2 hg2 hat2 hnew rD HAP hZ12
                    try dsimp only
                    refine hK.out _ _ ?_ (fun hHeld => ?_)
                    · exact hS12 _ _ _ _ _ _ hHeld
                    clear hK K hS12
                    try simp only [Act.put, List.setIfInBounds_toArray]
                    refine tk 17 ?_
                    refine wpAnyH_ready (rs := [18]) (by kernel_rfl) (by simp) ?_
                    refine AllReadyH.cons rfl (fun K hK => ?_) AllReadyH.nil
                    go_simp
                    refine hK.out _ _ ?_ (fun hHeld => ?_)
                    · exact hldZ6c ⟨fun e => by have := congrArg Addr.block e; simp only at this; have := HBO.out; have := HGQ.out; omega, fun e => by have := congrArg Addr.block e; simp only at this; have := HBO.out; have := HGQ.out; omega, fun e => by have := congrArg Addr.block e; simp only at this; have := HBO.out; have := HGQ.out; omega, fun e => by have := congrArg Addr.block e; simp only at this; have := HBO.out; have := HGQ.out; omega, fun e => by have := congrArg Addr.block e; simp only at this; have := HBO.out; have := HGQ.out; omega, fun e => by have := congrArg Addr.block e; simp only at this; have := HBO.out; have := HGQ.out; omega⟩ hHeld
                    clear hK K
                    try simp only [Act.put, List.setIfInBounds_toArray, List.set_cons_zero, List.set_cons_succ]
                    refine wpAnyH_done (by kernel_rfl) ?_ _
                    go_wp2_with fail
                    go_meet
                    exact HZ12.out
        case rest =>
          obtain ⟨A5, c5, hs5, hbW, hres, hQ, hpo⟩ := hcut
          obtain ⟨T, rfl⟩ : ∃ V, V = wc := ⟨_, rfl⟩
          obtain ⟨ps, hps⟩ : ∃ ps, ps = Q1.parcels ++ [⟨fresh, lst (path ++ wz), x.owner⟩] := ⟨_, rfl⟩
          rw [← hps] at hpo
          have HPS := Lib.hid hps
          clear hps H6 hP0 hh hbd kW l1 l2 q3 t3
          obtain ⟨g, cg, eg, hgB, hgl⟩ := hpo.row.form (by omega)
          obtain rfl : A5 = some ⟨g, 0, none⟩ := by cases eg; rfl
          obtain ⟨q1, q2, q3⟩ := hQ.facts
          have hrow := hpo.row
          simp only at hrow
          rw [rowPV_pch (by rw [hpo.len, hpo.lenp])] at hrow
          have KS := Lib.hid (sortPc_any (ps.zip hs5) g (n2 + 1) c5 w.heap.size T hrow (by have := HN64.out; omega))
          have hgq : g ≠ Bq := fun e => own_blk_ne hpo.row hQ (by decide) (by rw [← e]; rfl)
          have hgr : g ≠ w.heap.size + 1 := fun e => own_blk_ne hpo.row hres (by decide) (by rw [← e]; rfl)
          have H7 := Lib.hid (And.intro hbW (And.intro hres (And.intro hQ (And.intro hpo (And.intro hgB (And.intro hgq hgr))))))
          clear hbW hres hQ hpo hrow eg hgB hgl hgq hgr
          go_wp2_with fail
          refine KS.out.mono ?_
          rintro e w11 ⟨rfl, d, hdp, hds, hrow2, hg2⟩
          obtain ⟨hbW, hres, hQ, hpo, hgB, hgq, hgr⟩ := H7.out
          have hQ11 : PlK w11 Bq A1 n1 c1 (some ⟨g, 0, none⟩) (n2 + 1) c5 := (hg2.block _ (Blk.lt hQ) (fun e => hgq (by cases e; rfl))).trans hQ
          have hR11 : PlK w11 (w.heap.size + 1) none 0 0 none 0 0 := (hg2.block _ (Blk.lt hres) (fun e => hgr (by cases e; rfl))).trans hres
          have hB11 := hbW.grown hg2 hbW.size (fun j e => by cases e; exact hgB)
          have hpo11 := hpo.sorted hdp hrow2 hg2
          have hpw := listed_pw HK.out.1.1
          have hids : (Q1.parcels).map (·.id) = p.parcels.map (·.id) := by rw [HQ1.out, setR_ids]; unfold spB; rw [each_ids, each_ids]
          have hmapd : d.map (·.1) = putId ⟨fresh, lst (path ++ wz), x.owner⟩ Q1.parcels := by
            have h1 := hdp.map (·.1)
            rw [List.map_fst_zip (by rw [hpo.len]; exact Nat.le_of_eq hpo.lenp), HPS.out] at h1
            refine put_uniq (pw_ids hids hpw) (no_ids hids HG.out.2.1) h1 ?_
            rw [List.pairwise_map]
            refine hds.imp fun {e f} h hlt => ?_
            have := cmpPH_neg.2 hlt
            omega
          have hspq : (⟨Q1.outer, d.map (·.1)⟩ : Plan) = spQ p k path fresh := by
            rw [hmapd]
            unfold spQ
            rw [← HK.out.2.2.2.2.1, ← HK.out.2.2.2.2.2.1, ← HX.out.2, HQ1.out]
            have e1 : lst (path.reverse ++ wy) = partA r path := by unfold partA; rw [HWY.out, HK.out.2.2.2.2.1, HK.out.2.2.2.2.2.1]
            have e2 : lst (path ++ wz) = partB r path := by unfold partB; rw [HWZ.out, HK.out.2.2.2.2.1, HK.out.2.2.2.2.2.1]
            rw [e1, e2, HX.out.1]
            rfl
          obtain ⟨Q, hQe⟩ : ∃ Q, Q = spQ p k path fresh := ⟨_, rfl⟩
          rw [hspq, ← hQe] at hpo11
          have kC := checkPl_any Q A1 (some ⟨g, 0, none⟩) n1 c1 (n2 + 1) c5 w11 hpo11.at_
          have hE := HE.out.1
          have hPE := HE.out.2
          rw [← hQe] at hE hPE
          have H8 := Lib.hid (And.intro hB11 (And.intro hR11 (And.intro hQ11 hpo11)))
          clear hbW hres hQ hpo hgB hgq hgr H7 KS hdp hds hrow2 hg2 hpw hids hmapd hspq hQ11 hR11 hB11 hpo11 hQe q1 q2 q3 HE
          obtain ⟨q1, q2, q3⟩ := H8.out.2.2.1.facts
          rcases hpb : planB Q with _ | _
          · rw [planE_b0 hpb] at kC
            have KC2 := Lib.hid kC
            rw [hpb, if_neg (by decide)] at hE
            have HM := Lib.hid (And.intro hE (by decide : (8 : Int) ≠ 0))
            clear kC hE hPE hpb
            go_wp2_with fail
            refine KC2.out.mono ?_
            rintro e w12 ⟨rfl, hb12⟩
            have HR := Lib.hid (And.intro (below_on H8.out.1 (Nat.le_refl _) hb12) (H8.out.2.1.on hb12))
            clear hb12 H8 KC2 q1 q2 q3
            obtain ⟨V, hV, r1, r2, hbV⟩ := res_store (g := w.heap.size + 1) HR.out.1 (by omega) HR.out.2 (.slice none 0 0) (.slice none 0 0)
            obtain ⟨s1, s2, f1, f2⟩ := plk_facts4 HR.out.2
            have HV := Lib.hid hV
            have HRR := Lib.hid (And.intro r1 (And.intro r2 hbV))
            clear hV r1 r2 hbV
            go_wp2_with fail
            rw [← HV.out]
            obtain ⟨r1, r2, hbV⟩ := HRR.out
            refine bodyPost_ret (v := .tuple #[planV none 0 0 none 0 0, .int .i64 8]) ?_ rfl (by rw [HM.out.1]; exact resPostS_no (spP_no HM.out.1 HM.out.2) hbV)
            simp [results, Tryz.results51, go_sem, r1, r2]
          · rw [planE_b1 hpb] at kC
            have KC2 := Lib.hid kC
            rw [hpb, if_pos rfl] at hE
            have HM := Lib.hid (And.intro hE (hPE hE))
            clear kC hE hPE hpb
            go_wp2_with fail
            refine KC2.out.mono ?_
            rintro e w12 ⟨rfl, hb12⟩
            have hQ10 : PlK w12 Bq A1 n1 c1 (some ⟨g, 0, none⟩) (n2 + 1) c5 := H8.out.2.2.1.on hb12
            have hR10 := H8.out.2.1.on hb12
            have hpo10 := H8.out.2.2.2.below hb12
            have hB10 := below_on H8.out.1 (Nat.le_refl _) hb12
            obtain ⟨V, hV, r1, r2, hbV⟩ := res_store (g := w.heap.size + 1) hB10 (by omega) hR10 (.slice A1 n1 c1) (.slice (some ⟨g, 0, none⟩) (n2 + 1) c5)
            obtain ⟨s1, s2, f1, f2⟩ := plk_facts4 hR10
            have hpoV := (hpo10.store hR10 (by decide) (by decide) 0 (.slice A1 n1 c1)).store (Blk.set_ hR10 0 (.slice A1 n1 c1)) (by decide) (by decide) 1 (.slice (some ⟨g, 0, none⟩) (n2 + 1) c5)
            rw [← hV] at hpoV
            clear q1 q2 q3
            obtain ⟨q1, q2, -⟩ := hQ10.facts
            have HV := Lib.hid hV
            have HRR := Lib.hid (And.intro r1 (And.intro r2 (And.intro hbV hpoV)))
            clear hV r1 r2 hbV hpoV hpo10 hB10 hR10 hQ10 hb12 H8 KC2
            go_wp2_with fail
            rw [← HV.out]
            obtain ⟨r1, r2, hbV, hpoV⟩ := HRR.out
            refine bodyPost_ret (v := .tuple #[planV A1 n1 c1 (some ⟨g, 0, none⟩) (n2 + 1) c5, .int .i64 0]) ?_ rfl ⟨A1, n1, c1, some ⟨g, 0, none⟩, n2 + 1, c5, _, by rw [HM.out.1], by rw [HM.out.2]; exact hpoV, hbV⟩
            simp [results, Tryz.results51, go_sem, r1, r2]
end Go.Proofs.YtnpjggcgnbgkjaaGreat
