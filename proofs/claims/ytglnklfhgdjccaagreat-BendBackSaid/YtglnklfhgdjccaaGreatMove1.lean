/- bend.Move's closure; plan.Each with it: the walks. -/
import Derived.Test.YtglnklfhgdjccaaGreatCorn
import Derived.Test.YtglnklfhgdjccaaGreatEach
namespace Go.Proofs.YtglnklfhgdjccaaGreat
open Go.RowKit Go.Lib
def movG (f t : Pt) (xs : List Pt) : List Pt := if f ∈ xs then xs.set (xs.findIdx fun p => decide (p = f)) t else xs
theorem movG_len (f t : Pt) (xs : List Pt) : (movG f t xs).length = xs.length := by unfold movG; split <;> simp
theorem movG_out {f t : Pt} {xs : List Pt} (h : f ∉ xs) : movG f t xs = xs := by unfold movG; rw [if_neg h]
theorem movG_at {f t : Pt} {xs : List Pt} {k : Nat} (h : idxPt xs f = (k : Int)) : k < xs.length ∧ movG f t xs = xs.set k t := by
  unfold idxPt at h
  by_cases hf : f ∈ xs
  · rw [if_pos hf] at h
    have hl : xs.findIdx (fun p => decide (p = f)) < xs.length := List.findIdx_lt_length_of_exists ⟨f, hf, by simp⟩
    have hk : xs.findIdx (fun p => decide (p = f)) = k := by omega
    rw [hk] at hl
    refine ⟨hl, ?_⟩
    unfold movG
    rw [if_pos hf, hk]
  · rw [if_neg hf] at h
    omega
theorem movG_mem {f t : Pt} {xs : List Pt} {r : Pt} (h : r ∈ movG f t xs) : r ∈ xs ∨ r = t := by
  unfold movG at h
  split at h
  · exact (List.mem_or_eq_of_mem_set h)
  · exact .inl h
theorem ptsV_set {xs : List Pt} {k : Nat} (hk : k < xs.length) (t : Pt) : ptsV (xs.set k t) = ((ptsV xs).set (k * 2) (.int .i64 t.x)).set (k * 2 + 1) (.int .i64 t.y) := by
  induction xs generalizing k with
  | nil => simp at hk
  | cons y xs ih =>
    rcases k with _ | k
    · rfl
    · have h1 := ih (k := k) (by simpa using hk)
      show .int .i64 y.x :: .int .i64 y.y :: ptsV (xs.set k t) = _
      rw [h1, show (k + 1) * 2 = k * 2 + 1 + 1 by omega]
      rfl
theorem own_put_pt {W : World} {B n c k : Nat} {ad : Addr} {xs : List Pt} (h : W.ownsRow B 43 2 (.slice (some ad) n c) n (ptsV xs)) (hk : k < n) (t : Pt) :
    ((W.setCell (ad.add (k * 2)) (.int .i64 t.x)).setCell ⟨(ad.add (k * 2)).block, (ad.add (k * 2)).off + 1, none⟩ (.int .i64 t.y)).ownsRow B 43 2 (.slice (some ad) n c) n (ptsV (xs.set k t)) ∧
    W.frozen? (ad.add (k * 2)) = false ∧ W.frozen? ⟨(ad.add (k * 2)).block, (ad.add (k * 2)).off + 1, none⟩ = false ∧ B ≤ ad.block ∧ ad.block < W.heap.size ∧
    (W.setCell (ad.add (k * 2)) (.int .i64 t.x)).frozen? ⟨(ad.add (k * 2)).block, (ad.add (k * 2)).off + 1, none⟩ = false ∧ (W.setCell (ad.add (k * 2)) (.int .i64 t.x)).cell? ⟨(ad.add (k * 2)).block, (ad.add (k * 2)).off + 1, none⟩ = W.cell? ⟨(ad.add (k * 2)).block, (ad.add (k * 2)).off + 1, none⟩ := by
  obtain ⟨g, cap, e, hb, hlt⟩ := h.form (by omega)
  have e1 : ad = ⟨g, 0, none⟩ := by cases e; rfl
  have e2 : cap = c := by cases e; rfl
  subst e1 e2
  have hl : xs.length = n := (Reads.of_own h).lenPt
  have ha : (⟨g, 0, none⟩ : Addr).add (k * 2) = ⟨g, k * 2, none⟩ := by
    unfold Addr.add
    split
    · rename_i h0; rw [h0]
    · simp
  rw [ha]
  have h1 := (h.stored (k * 2) (.int .i64 t.x)).1
  have h2 := (h1.stored (k * 2 + 1) (.int .i64 t.y)).1
  rw [← ptsV_set (by omega) t] at h2
  exact ⟨h2, h.frozenAt _, h.frozenAt _, hb, hlt, h1.frozenAt _, World.cell?_setCell_other _ _ _ _ (fun e => by have := congrArg Addr.off e; simp at this)⟩
set_option maxRecDepth 100000 in
set_option maxHeartbeats 1600000 in
theorem move1_any (bf bt : Nat) (f t : Pt) (xs : List Pt) (A : Option Addr) (n cap : Nat) (w : World) (hr : Reads w w.heap.size 2 A n (ptsV xs)) (hn : n ≤ 1048576) (hf : PtK w bf f) (ht : PtK w bt t) :
    Calls Tryz.prog 80 #[.slice A n cap, .pointer (some ⟨bf, 0, none⟩), .pointer (some ⟨bt, 0, none⟩)] w fun e w' => ∃ A' c', e = .returned (.slice A' (movG f t xs).length c') ∧ (Reads w' w'.heap.size 2 A' (movG f t xs).length (ptsV (movG f t xs)) ∧ (movG f t xs).length ≤ c' ∧ c' ≤ 9223372036854775807) ∧ Below w.heap.size w w' := by
  have hl : xs.length = n := hr.lenPt
  have kC := Lib.hid (clonePt_any xs A n cap w hr hn)
  have HP := Lib.hid (And.intro hf ht)
  have HL := Lib.hid hl
  clear hr hl hf ht
  go_enter Tryz.func80, Tryz.ntmps80
  go_wp2_with fail
  refine kC.out.mono ?_
  rintro e w1 ⟨A1, c1, rfl, ho1, hb1⟩
  have hf1 : PtK w1 bf f := Blk.below HP.out.1 hb1 (Blk.lt HP.out.1)
  obtain ⟨q1, q2, -, -, -⟩ := hf1.facts
  have KI := Lib.hid (indexQ_any xs f A1 n c1 w1 (Reads.of_own ho1) (by omega))
  have H1 := Lib.hid (And.intro ho1 hb1)
  clear ho1 hb1 hf1 kC
  go_wp2_with fail
  refine KI.out.mono ?_
  rintro e w2 ⟨rfl, hb2⟩
  have H2 := Lib.hid (And.intro (own_below H1.out.1 hb2) (below_on H1.out.2 (Nat.le_refl _) hb2))
  clear hb2 H1 KI q1 q2
  by_cases hin : f ∈ xs
  · obtain ⟨k, hk, hix, -, -⟩ := idx_lt hin
    obtain ⟨-, hmv⟩ := movG_at (t := t) hix
    rw [hix]
    have hkn : k < n := by have := HL.out; omega
    have hk' : (k : Int) < (n : Int) := by omega
    have hk0 : 0 ≤ (k : Int) := by omega
    obtain ⟨g, cap', e, -, -⟩ := H2.out.1.form (by omega)
    obtain ⟨ad, rfl⟩ : ∃ ad, A1 = some ad := by cases e; exact ⟨_, rfl⟩
    obtain ⟨hown, f1, f2, hB, hlt, f3, p3⟩ := own_put_pt H2.out.1 hkn t
    obtain ⟨-, p1, p2⟩ := (Reads.of_own H2.out.1).ptA hkn
    rw [p2] at p3
    have ht2 : PtK w2 bt t := Blk.below HP.out.2 H2.out.2 (Blk.lt HP.out.2)
    obtain ⟨q1, q2, -, -, -⟩ := ht2.facts
    have hbV := (H2.out.2.setCell (p := ad.add (k * 2)) (by rw [block_of_add]; exact hB) (.int .i64 t.x)).setCell (p := ⟨(ad.add (k * 2)).block, (ad.add (k * 2)).off + 1, none⟩) (by simp only [block_of_add]; exact hB) (.int .i64 t.y)
    obtain ⟨V, hV⟩ : ∃ V, V = (w2.setCell (ad.add (k * 2)) (.int .i64 t.x)).setCell ⟨(ad.add (k * 2)).block, (ad.add (k * 2)).off + 1, none⟩ (.int .i64 t.y) := ⟨_, rfl⟩
    rw [← hV] at hown hbV
    rw [← hmv] at hown
    have hV2 := hV.symm
    have HV := Lib.hid (And.intro hown hbV)
    have HM := Lib.hid (show (movG f t xs).length = n by rw [movG_len]; exact HL.out)
    clear hown hbV hV hix hmv hin e hB hlt ht2
    generalize ptAt xs k = pk at *
    go_wp2_with fail
    go_ret
    have h2 := HV.out.1
    refine ⟨some ad, c1, by rw [HM.out]; rfl, ?_, HV.out.2⟩
    rw [HM.out]
    exact ⟨Reads.of_own h2, own_cap h2⟩
  · have hix : idxPt xs f = -1 := by unfold idxPt; rw [if_neg hin]
    rw [hix]
    have hmv := movG_out (t := t) hin
    have HM := Lib.hid (And.intro hmv (show (movG f t xs).length = n by rw [movG_len]; exact HL.out))
    clear hmv hin hix
    go_wp2_with fail
    go_ret
    refine ⟨A1, c1, by rw [HM.out.2]; rfl, ?_, H2.out.2⟩
    rw [HM.out.2, HM.out.1]
    exact ⟨Reads.of_own H2.out.1, own_cap H2.out.1⟩
set_option maxRecDepth 100000 in
set_option maxHeartbeats 3200000 in
theorem eachMov_any (bf bt : Nat) (g : List Pt → List Pt) (p : Plan) (A A' : Option Addr) (n c n' c' : Nat) (w : World) (h : PlanAt w w.heap.size A n c A' n' c' p) (hfit : (eachP g p).fits) (hgl : ∀ xs, ringOf p xs → (g xs).length ≤ 1048576) (hsm : n' ≤ 1048576)
    (hG : ∀ (V : World) (xs : List Pt) (A : Option Addr) (m cap : Nat), Below w.heap.size w V → Reads V V.heap.size 2 A m (ptsV xs) → m ≤ cap → cap ≤ 9223372036854775807 → ringOf p xs →
      Calls Tryz.prog 80 #[.slice A m cap, .pointer (some ⟨bf, 0, none⟩), .pointer (some ⟨bt, 0, none⟩)] V fun e V' => ∃ A' c', e = .returned (.slice A' (g xs).length c') ∧ (Reads V' V'.heap.size 2 A' (g xs).length (ptsV (g xs)) ∧ (g xs).length ≤ c' ∧ c' ≤ 9223372036854775807) ∧ Below V.heap.size V V') :
    Calls Tryz.prog 79 #[planV A n c A' n' c', .func (.func 80) #[] #[.pointer (some ⟨bf, 0, none⟩), .pointer (some ⟨bt, 0, none⟩)]] w (OwnPostS (eachP g p) w) := by
  obtain ⟨hl1, hl2, hl3, hl4⟩ := h.lens
  obtain ⟨i1, hi1, hy0, hy1, hy2⟩ := info_parts info_pc
  obtain ⟨wa, hwa⟩ : ∃ wa : World, wa = (w.alloc (.cells #[.slice A n c, .slice A' n' c'] 26)).alloc (.cells #[.slice none 0 0, .slice none 0 0] 26) := ⟨_, rfl⟩
  have hsa : wa.heap.size = w.heap.size + 1 + 1 := by rw [hwa]; simp
  have hB0 : Below w.heap.size w wa := by rw [hwa]; exact ((Below.refl _ _).alloc (Nat.le_refl _) _).alloc (by simp) _
  have hK0 : PlK wa w.heap.size A n c A' n' c' := by rw [hwa]; exact Blk.alloc (PlK.new w A n c A' n' c') _
  have hR0 : PlK wa (w.heap.size + 1) none 0 0 none 0 0 := by
    rw [hwa]
    have := PlK.new (w.alloc (.cells #[.slice A n c, .slice A' n' c'] 26)) none 0 0 none 0 0
    rw [World.size_alloc] at this
    exact this
  have KG := Lib.hid (hG wa p.outer A n c hB0 (h.on hB0).outer h.oc.1 h.oc.2 (.inl rfl))
  have H0 := Lib.hid (And.intro hB0 (And.intro hK0 (And.intro hR0 hsa)))
  have HP := Lib.hid h
  have HL := Lib.hid (And.intro hl2 (And.intro hfit (And.intro hgl hG)))
  obtain ⟨q1, q2, -⟩ := hK0.facts
  clear h hl1 hl2 hB0 hK0 hR0 hsa hfit hgl hG
  go_enter Tryz.func79, Tryz.ntmps79
  go_upto_region 1 with fail
  rw [← hwa]
  clear hwa
  go_wp2_with fail
  refine KG.out.mono ?_
  rintro e w1 ⟨A1, c1, rfl, ⟨hr1, hc1, hc1'⟩, hb1⟩
  have KL := Lib.hid (leastP_any (g p.outer) A1 _ c1 w1 hr1 hc1 (HL.out.2.2.1 _ (.inl rfl)))
  have HB1 := Lib.hid hb1
  obtain ⟨no, hno⟩ : ∃ no, no = (g p.outer).length := ⟨_, rfl⟩
  rw [← hno] at KL
  rw [← hno]
  have HNO := Lib.hid hno
  clear hno
  clear hr1 hc1 hc1' hb1 KG q1 q2
  go_wp2_with fail
  refine KL.out.mono ?_
  rintro e w2 ⟨Ao, co, rfl, ho2, hb2⟩
  have hb2' : Below wa.heap.size wa w2 := HB1.out.trans (hb2.mono HB1.out.size)
  have hF0 : EachF w (w2.alloc (.cells #[.slice Ao no co, .slice none 0 0] 26)) w2.heap.size (eachP g p) A n c A' n' c' 0 Ao no co none 0 [] := by
    have hba : Below w2.heap.size w2 (w2.alloc (.cells #[.slice Ao no co, .slice none 0 0] 26)) := (Below.refl _ _).alloc (Nat.le_refl _) _
    have h1 := H0.out.2.2.2
    have h2 := hb2'.size
    have h3 := HB1.out.size
    have hx : (eachP g p).outer = rot (leastN (g p.outer) no) (g p.outer) := by rw [each_outer]; unfold lst; rw [HNO.out]
    have hrow : (w2.alloc (.cells #[.slice Ao no co, .slice none 0 0] 26)).ownsRow w.heap.size 43 2 (.slice Ao no co) no (ptsV (eachP g p).outer) := by
      rw [hx]
      exact own_below (own_mono ho2 (by omega)) hba
    have e1 := below_on (below_on H0.out.1 (Nat.le_refl _) hb2') (Nat.le_refl _) hba
    have e2 := (H0.out.2.1.on hb2').on hba
    have e3 := (H0.out.2.2.1.on hb2').on hba
    have e4 : w.heap.size + 1 < w2.heap.size := by omega
    exact ⟨e1, e2, e3, PlK.new w2 Ao no co none 0 0, e4, hrow, World.ownsRow_nil _ _ _ _, rfl, fun j hj => absurd hj (Nat.not_lt_zero _)⟩
  obtain ⟨Bq, hBq⟩ : ∃ Bq, Bq = w2.heap.size := ⟨_, rfl⟩
  obtain ⟨wq, hwq⟩ : ∃ wq, wq = w2.alloc (.cells #[.slice Ao no co, .slice none 0 0] 26) := ⟨_, rfl⟩
  rw [← hBq, ← hwq] at hF0
  have HF0 := Lib.hid hF0
  obtain ⟨q1, q2, -⟩ := hF0.pbox.facts
  clear hF0 hb2' hb2 ho2 KL HB1 H0 HNO
  go_upto_region 2 with fail
  rw [← hBq, ← hwq]
  clear hBq hwq
  go_wp2_with fail
  clear q1 q2
  go_loopw [17] (fun i wr => ∃ (k : Nat) (Ap : Option Addr) (cp : Nat) (hs : List Hd), k ≤ n' ∧ i = .int .i64 (k : Int) ∧ EachF w wr Bq (eachP g p) A n c A' n' c' k Ao no co Ap cp hs) (fun i _ => n' - (intOf i).toNat)
  case atStart => exact ⟨0, none, 0, [], Nat.zero_le _, rfl, HF0.out⟩
  case round =>
    clear HF0
    obtain ⟨k, Ap, cp, hs, hk, rfl, hF⟩ := hrel
    by_cases hlt : k < n'
    · have hlt' : (k : Int) < (n' : Int) := by omega
      have hw1 : IntKind.i64.wrap ((k : Int) + 1) = (k : Int) + 1 := by rw [IntKind.wrap_i64]; omega
      obtain ⟨ad, rfl⟩ := HP.out.parcs.some_ (by omega)
      obtain ⟨had, p1, ⟨Ak, nk, ck, p2, hrk, hk1, hk2⟩, p3⟩ := (HP.out.parcs.below hF.bel).at_ hlt
      have hlk : k < p.parcels.length := by have := HL.out.1; omega
      obtain ⟨x, hx⟩ : ∃ x, x = pcAt p.parcels k := ⟨_, rfl⟩
      have hpx : pcAt (eachP g p).parcels k = eachX g x := by rw [pcAt_each hlk, hx]
      rw [← hx] at p1 p3 hrk
      have hxr : ringOf p x.ring := .inr ⟨x, by rw [hx, pcAt_lt hlk]; exact List.getElem_mem _, rfl⟩
      obtain ⟨wb, hwb⟩ : ∃ wb, wb = wr.alloc (.cells #[.int .i64 x.id, .slice Ak nk ck, .string x.owner] 40) := ⟨_, rfl⟩
      have hbb : Below wr.heap.size wr wb := by rw [hwb]; exact (Below.refl _ _).alloc (Nat.le_refl _) _
      have hsb : wb.heap.size = wr.heap.size + 1 := by rw [hwb]; simp
      have hX : PcK wb wr.heap.size x Ak nk ck := by rw [hwb]; exact PcK.new wr x Ak nk ck
      have KG := Lib.hid (HL.out.2.2.2 wb x.ring Ak nk ck (below_on hF.bel (Nat.le_refl _) hbb) ((hrk.more hF.bel.size).on hbb) hk1 hk2 hxr)
      have hgm := HL.out.2.2.1 _ hxr
      have HF := Lib.hid (And.intro hF (And.intro hpx hwb))
      have HG := Lib.hid (And.intro hgm hsb)
      obtain ⟨-, x1, -, -⟩ := hX.facts
      clear hF hpx hrk hlk hxr hbb hX hgm hsb hx hk1 hk2
      go_upto_region 5 with fail
      rw [← hwb]
      clear hwb p1 p2 p3 had
      obtain ⟨Bx, hBx⟩ : ∃ Bx, Bx = wr.heap.size := ⟨_, rfl⟩
      rw [← hBx] at x1
      rw [← hBx]
      have HBx := Lib.hid hBx
      clear hBx
      go_wp2_with fail
      refine KG.out.mono ?_
      rintro e w2 ⟨A2, c2, rfl, ⟨hr2, hc2, hc2'⟩, hb2⟩
      have KL := Lib.hid (leastP_any (g x.ring) A2 _ c2 w2 hr2 hc2 HG.out.1)
      have HB2 := Lib.hid hb2
      obtain ⟨m, hm⟩ : ∃ m, m = (g x.ring).length := ⟨_, rfl⟩
      rw [← hm] at KL
      rw [← hm]
      have HM := Lib.hid hm
      clear hr2 hc2 hc2' hb2 KG x1 hm
      go_wp2_with fail
      refine KL.out.mono ?_
      rintro e w3 ⟨A3, c3, rfl, ho3, hb3⟩
      have hbw : Below (wr.heap.size + 1) (wr.alloc (.cells #[.int .i64 x.id, .slice Ak nk ck, .string x.owner] 40)) w3 := by
        rw [← HF.out.2.2, ← HG.out.2]
        exact HB2.out.trans (hb3.mono HB2.out.size)
      have hrr : eachX g x = ⟨x.id, rot (leastN (g x.ring) m) (g x.ring), x.owner⟩ := by unfold eachX lst; rw [HM.out]
      obtain ⟨z0, hF3, hx3, hr3⟩ := eachStepA HF.out.1 hbw ho3 (by have := HB2.out.size; have := HG.out.2; omega)
      rw [← HBx.out] at z0 hF3 hx3 hr3
      have z1 : w3.cell? ⟨Bx, 1, none⟩ = some (.slice Ak nk ck) := by rw [Blk.cell z0]; rfl
      have z2 := Blk.frozen z0 1
      obtain ⟨V3, hV3⟩ : ∃ V, V = w3.setCell ⟨Bx, 1, none⟩ (.slice A3 m c3) := ⟨_, rfl⟩
      rw [← hV3] at hF3 hx3 hr3
      have hV4 := hV3.symm
      have y1 : V3.cell? ⟨Bq, 1, none⟩ = some (.slice Ap k cp) := hF3.qbox.facts.2.1
      have y2 : V3.cell? ⟨Bx, 0, none⟩ = some (.int .i64 x.id) := by rw [Blk.cell hx3]; rfl
      have y3 : V3.cell? ⟨Bx, 1, none⟩ = some (.slice A3 m c3) := by rw [Blk.cell hx3]; rfl
      have y4 : V3.cell? ⟨Bx, 2, none⟩ = some (.string x.owner) := by rw [Blk.cell hx3]; rfl
      have HF3 := Lib.hid (And.intro hF3 (And.intro hr3 (And.intro HF.out.2.1 hrr)))
      clear hF3 hr3 hx3 z0 hV3 hrr hbw hb3 ho3 KL HB2
      go_wp2_with (at_builtin
                   refine wpList_append_any _ rfl (.tmp 28) (.tmp 30) _ rfl w.heap.size 40 i1 _ 3 48 Tryz.underlying24 hi1 hy0 hy1 hy2 rfl (by omega) (.slice Ap k cp) k _ rfl (HF3.out.1.on (W' := V3.alloc (.cells #[.int .i64 x.id, .slice A3 m c3, .string x.owner] 40)) ((Below.refl _ _).alloc (Nat.le_refl _) _)).row _ (some ⟨V3.heap.size, 0, none⟩) 1 1 (pcV x (A3, m, c3)) rfl (Reads.made V3 #[.int .i64 x.id, .slice A3 m c3, .string x.owner] 40 (0, 0) 3 1 (pcV x (A3, m, c3)) rfl rfl) (by intro u hu; simp [pcV] at hu; rcases hu with rfl | rfl | rfl <;> rfl) (by simp only [maxLen]; omega) (by omega) (by have := HF3.out.1.bel.size; rw [World.size_alloc]; omega) ?_
                   intro v5 w5 hown5 hg5 hat5
                   obtain ⟨Ap', cp', rfl⟩ := own_form hown5
                   have hr3 := HF3.out.2.1
                   have hpx := HF3.out.2.2.1.trans HF3.out.2.2.2
                   have hpv : pcV x (A3, m, c3) = pcV (pcAt (eachP g p).parcels k) (A3, m, c3) := (by rw [hpx]; rfl)
                   have hri : rot (leastN (g x.ring) m) (g x.ring) = (pcAt (eachP g p).parcels k).ring := (by rw [hpx])
                   rw [hpv] at hown5
                   rw [hri] at hr3
                   have hba : Below V3.heap.size V3 (V3.alloc (.cells #[.int .i64 x.id, .slice A3 m c3, .string x.owner] 40)) := (Below.refl _ _).alloc (Nat.le_refl _) _
                   obtain ⟨zq, hF5⟩ := EachF.next (HF3.out.1.on hba) (by rw [each_len]; have := HL.out.1; omega) (own_below hr3 hba) hown5 hg5
                   have y5 : w5.cell? ⟨Bq, 1, none⟩ = some (.slice Ap k cp) := zq.facts.2.1
                   have y6 := Blk.frozen zq 1
                   have HF5 := Lib.hid hF5
                   clear hr3 hba zq hF5 hown5 hg5 hat5 hpx hpv hri)
      go_roundw
      case rel => exact ⟨k + 1, Ap', cp', hs ++ [(A3, m, c3)], by omega, by go_num, HF5.out⟩
      case measure => simp [intOf]; omega
    · have hkn : k = n' := by omega
      subst hkn
      obtain ⟨y1, y2, -⟩ := hF.qbox.facts
      obtain ⟨y3, y4, -⟩ := hF.rbox.facts
      have f1 := Blk.frozen hF.rbox 0
      have f2 := Blk.frozen hF.rbox 1
      have hpo := ((hF.own (by rw [each_len]; exact HL.out.1) HL.out.2.1).store hF.rbox (by decide) (by decide) 0 (.slice Ao no co)).store (Blk.set_ hF.rbox 0 (.slice Ao no co)) (by decide) (by decide) 1 (.slice Ap k cp)
      have hB5 := (hF.bel.setCell (p := ⟨w.heap.size + 1, 0, none⟩) (by simp) (.slice Ao no co)).setCell (p := ⟨w.heap.size + 1, 1, none⟩) (by simp) (.slice Ap k cp)
      have hR5 := Blk.set_ (Blk.set_ hF.rbox 0 (.slice Ao no co)) 1 (.slice Ap k cp)
      have HZ := Lib.hid (And.intro hpo (And.intro hB5 hR5))
      clear hpo hB5 hR5 hF
      go_wp2_with fail
      obtain ⟨hpo, hB5, hR5⟩ := HZ.out
      clear y1 y2 y3 y4 f1 f2 HZ
      generalize (wr.setCell ⟨w.heap.size + 1, 0, none⟩ (.slice Ao no co)).setCell ⟨w.heap.size + 1, 1, none⟩ (.slice Ap k cp) = V at *
      have r1 : V.cell? ⟨w.heap.size + 1, 0, none⟩ = some (.slice Ao no co) := by rw [Blk.cell hR5]; rfl
      have r2 : V.cell? ⟨w.heap.size + 1, 1, none⟩ = some (.slice Ap k cp) := by rw [Blk.cell hR5]; rfl
      refine bodyPost_ret (v := planV Ao no co Ap k cp) ?_ rfl ⟨Ao, no, co, Ap, k, cp, hs, rfl, hpo, hB5⟩
      simp [results, Tryz.results79, go_sem, r1, r2]
end Go.Proofs.YtglnklfhgdjccaaGreat
