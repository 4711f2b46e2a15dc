/- plan.Each: words, and the plain law of it. -/
import Derived.Test.YtmegmokjjlelgaaGreatK30
namespace Go.Proofs.YtmegmokjjlelgaaGreat
open Go.RowKit Go.Lib
def lst (xs : List Pt) : List Pt := rot (leastN xs xs.length) xs
def eachX (g : List Pt → List Pt) (x : Parc) : Parc := ⟨x.id, lst (g x.ring), x.owner⟩
def eachP (g : List Pt → List Pt) (p : Plan) : Plan := ⟨lst (g p.outer), p.parcels.map (eachX g)⟩
def ringOf (p : Plan) (xs : List Pt) : Prop := xs = p.outer ∨ ∃ x ∈ p.parcels, xs = x.ring
theorem pcAt_each {g : List Pt → List Pt} {p : Plan} {k : Nat} (hk : k < p.parcels.length) : pcAt (eachP g p).parcels k = eachX g (pcAt p.parcels k) := by
  unfold eachP
  rw [pcAt_lt (by simpa using hk), pcAt_lt hk]
  simp
theorem each_outer (g : List Pt → List Pt) (p : Plan) : (eachP g p).outer = lst (g p.outer) := rfl
theorem each_len {g : List Pt → List Pt} {p : Plan} : (eachP g p).parcels.length = p.parcels.length := by unfold eachP; simp
structure EachF (w W : World) (Bq : Nat) (p : Plan) (A : Option Addr) (n c : Nat) (A' : Option Addr) (n' c' k : Nat) (Ao : Option Addr) (no co : Nat) (Ap : Option Addr) (cp : Nat) (hs : List Hd) : Prop where
  bel : Below w.heap.size w W
  pbox : PlK W w.heap.size A n c A' n' c'
  rbox : PlK W (w.heap.size + 1) none 0 0 none 0 0
  qbox : PlK W Bq Ao no co Ap k cp
  hB : w.heap.size + 1 < Bq
  out : W.ownsRow w.heap.size 44 2 (.slice Ao no co) no (ptsV p.outer)
  row : W.ownsRow w.heap.size 40 3 (.slice Ap k cp) k (rowPV (p.parcels.take k) hs)
  len : hs.length = k
  rings : ∀ j, j < k → W.ownsRow w.heap.size 44 2 (.slice (hdAt hs j).1 (hdAt hs j).2.1 (hdAt hs j).2.2) (hdAt hs j).2.1 (ptsV (pcAt p.parcels j).ring)
theorem EachF.on {w W W' : World} {Bq : Nat} {p : Plan} {A A' Ao Ap : Option Addr} {n c n' c' k no co cp : Nat} {hs : List Hd} (h : EachF w W Bq p A n c A' n' c' k Ao no co Ap cp hs) (hb : Below W.heap.size W W') : EachF w W' Bq p A n c A' n' c' k Ao no co Ap cp hs :=
  ⟨below_on h.bel (Nat.le_refl _) hb, h.pbox.on hb, h.rbox.on hb, h.qbox.on hb, h.hB, own_below h.out hb, own_below h.row hb, h.len, fun j hj => own_below (h.rings j hj) hb⟩
theorem EachF.next {w W W' : World} {Bq : Nat} {p : Plan} {A A' Ao Ap A3 Ap' : Option Addr} {n c n' c' k no co cp nk c3 cp' : Nat} {hs : List Hd} (h : EachF w W Bq p A n c A' n' c' k Ao no co Ap cp hs) (hk : k < p.parcels.length)
    (hnew : W.ownsRow w.heap.size 44 2 (.slice A3 nk c3) nk (ptsV (pcAt p.parcels k).ring))
    (hown : W'.ownsRow w.heap.size 40 3 (.slice Ap' (k + 1) cp') (k + 1) (rowPV (p.parcels.take k) hs ++ pcV (pcAt p.parcels k) (A3, nk, c3)))
    (hg : W.grownBy W' (Value.slice Ap k cp).ownBlock) :
    (PlK W' Bq Ao no co Ap k cp) ∧ EachF w (W'.setCell ⟨Bq, 1, none⟩ (.slice Ap' (k + 1) cp')) Bq p A n c A' n' c' (k + 1) Ao no co Ap' cp' (hs ++ [(A3, nk, c3)]) := by
  have hq : PlK W' Bq Ao no co Ap k cp := (hg.block _ (Blk.lt h.qbox) (fun e => own_blk_ne h.row h.qbox (by decide) e.symm)).trans h.qbox
  have hp : PlK W' w.heap.size A n c A' n' c' := (hg.block _ (Blk.lt h.pbox) (fun e => own_blk_ne h.row h.pbox (by decide) e.symm)).trans h.pbox
  have hr : PlK W' (w.heap.size + 1) none 0 0 none 0 0 := (hg.block _ (Blk.lt h.rbox) (fun e => own_blk_ne h.row h.rbox (by decide) e.symm)).trans h.rbox
  have hkeep : ∀ {v : Value} {m : Nat} {xs : List Value}, W.ownsRow w.heap.size 44 2 v m xs → (W'.setCell ⟨Bq, 1, none⟩ (.slice Ap' (k + 1) cp')).ownsRow w.heap.size 44 2 v m xs := fun {v m xs} ho => by
    refine own_heap ho fun g hg' => ?_
    have h1 : g ≠ Bq := fun e => own_blk_ne ho h.qbox (by decide) (by rw [hg', e])
    rw [Below.heap_setCell _ _ _ g h1]
    exact hg.block g (ho.lt g hg').2 (fun e => own_own_ne ho h.row (by decide) hg' e.symm)
  have hB := h.hB
  have hbel : Below w.heap.size w W' := h.bel.grown hg h.bel.size (fun g e => (h.row.lt g e).1)
  refine ⟨hq, ⟨hbel.setCell (p := ⟨Bq, 1, none⟩) (by simp only; omega) _, Blk.far hp (by simp only; omega) _, Blk.far hr (by simp only; omega) _, ?_, hB, hkeep h.out, ?_, by rw [List.length_append, h.len]; rfl, fun j hj => ?_⟩⟩
  · have := Blk.set_ hq 1 (.slice Ap' (k + 1) cp')
    simp only [List.setIfInBounds_toArray, List.set_cons_zero, List.set_cons_succ] at this
    exact this
  · rw [List.take_succ_eq_append_getElem hk, rowPV_snoc _ _ (by rw [h.len, List.length_take]; omega), ← pcAt_lt hk]
    refine own_heap hown fun g hg' => Below.heap_setCell _ _ _ g (fun e => own_blk_ne hown hq (by decide) (by rw [hg', e]))
  · by_cases hjk : j < k
    · rw [hdAt_snoc_lt (by rw [h.len]; exact hjk)]
      exact hkeep (h.rings j hjk)
    · obtain rfl : j = hs.length := by rw [h.len]; omega
      rw [hdAt_snoc_eq, h.len]
      exact hkeep hnew
theorem EachF.own {w W : World} {Bq : Nat} {p : Plan} {A A' Ao Ap : Option Addr} {n c n' c' no co cp : Nat} {hs : List Hd} (h : EachF w W Bq p A n c A' n' c' n' Ao no co Ap cp hs) (hl : p.parcels.length = n') (hf : p.fits) : PlanOwn w.heap.size W Ao no co Ap n' cp p hs := by
  have hrow := h.row
  rw [List.take_of_length_le (by omega)] at hrow
  exact ⟨h.out, hrow, h.len, hl, h.rings, hf⟩
theorem eachStepA {w wr w3 : World} {Bq B3 : Nat} {p : Plan} {A A' Ao Ap A3 Ak : Option Addr} {n c n' c' k no co cp nk ck m c3 : Nat} {hs : List Hd} {x : Parc} {ys : List Pt} (h : EachF w wr Bq p A n c A' n' c' k Ao no co Ap cp hs)
    (hb : Below (wr.heap.size + 1) (wr.alloc (.cells #[.int .i64 x.id, .slice Ak nk ck, .string x.owner] 40)) w3) (hown : w3.ownsRow B3 44 2 (.slice A3 m c3) m (ptsV ys)) (hB : wr.heap.size + 1 ≤ B3) :
    Blk w3 wr.heap.size 40 #[.int .i64 x.id, .slice Ak nk ck, .string x.owner] ∧ EachF w (w3.setCell ⟨wr.heap.size, 1, none⟩ (.slice A3 m c3)) Bq p A n c A' n' c' k Ao no co Ap cp hs ∧ Blk (w3.setCell ⟨wr.heap.size, 1, none⟩ (.slice A3 m c3)) wr.heap.size 40 #[.int .i64 x.id, .slice A3 m c3, .string x.owner] ∧
    (w3.setCell ⟨wr.heap.size, 1, none⟩ (.slice A3 m c3)).ownsRow w.heap.size 44 2 (.slice A3 m c3) m (ptsV ys) := by
  have hx0 := Blk.new wr 40 #[.int .i64 x.id, .slice Ak nk ck, .string x.owner]
  have hx3 : Blk w3 wr.heap.size 40 #[.int .i64 x.id, .slice Ak nk ck, .string x.owner] := hx0.below hb (by omega)
  have hb1 : Below wr.heap.size wr w3 := ((Below.refl _ _).alloc (Nat.le_refl _) _).trans (hb.mono (by omega))
  have hb2 : Below wr.heap.size wr (w3.setCell ⟨wr.heap.size, 1, none⟩ (.slice A3 m c3)) := hb1.setCell (p := ⟨wr.heap.size, 1, none⟩) (Nat.le_refl _) _
  have hx4 := Blk.set_ hx3 1 (.slice A3 m c3)
  simp only [List.setIfInBounds_toArray, List.set_cons_zero, List.set_cons_succ] at hx4
  refine ⟨hx3, h.on hb2, hx4, own_heap (own_mono hown ?_) fun g hg' => Below.heap_setCell _ _ _ g (fun e => own_blk_ne hown hx3 (by decide) (by rw [hg', e]))⟩
  have := h.bel.size
  omega
set_option maxRecDepth 100000 in
set_option maxHeartbeats 3200000 in
theorem eachIns_any (gb : Nat) (g : List Pt → List Pt) (p : Plan) (A A' : Option Addr) (n c n' c' : Nat) (w : World) (h : PlanAt w w.heap.size A n c A' n' c' p) (hfit : (eachP g p).fits) (hgl : ∀ xs, ringOf p xs → (g xs).length ≤ 1048576) (hsm : n' ≤ 1048576)
    (hG : ∀ (V : World) (xs : List Pt) (A : Option Addr) (m cap : Nat), Below w.heap.size w V → Reads V V.heap.size 2 A m (ptsV xs) → m ≤ cap → cap ≤ 9223372036854775807 → ringOf p xs →
      Calls Tryz.prog 102 #[.slice A m cap, .pointer (some ⟨gb, 0, none⟩)] V fun e V' => ∃ A' c', e = .returned (.slice A' (g xs).length c') ∧ (Reads V' V'.heap.size 2 A' (g xs).length (ptsV (g xs)) ∧ (g xs).length ≤ c' ∧ c' ≤ 9223372036854775807) ∧ Below V.heap.size V V') :
    Calls Tryz.prog 105 #[planV A n c A' n' c', .func (.func 102) #[] #[.pointer (some ⟨gb, 0, none⟩)]] w (OwnPostS (eachP g p) w) := by
  obtain ⟨hl1, hl2, hl3, hl4⟩ := h.lens
  obtain ⟨i1, hi1, hy0, hy1, hy2⟩ := info_parts info_pc
  obtain ⟨wa, hwa⟩ : ∃ wa : World, wa = (w.alloc (.cells #[.slice A n c, .slice A' n' c'] 26)).alloc (.cells #[.slice none 0 0, .slice none 0 0] 26) := ⟨_, rfl⟩
  have hsa : wa.heap.size = w.heap.size + 1 + 1 := by rw [hwa]; simp
  have hB0 : Below w.heap.size w wa := by rw [hwa]; exact ((Below.refl _ _).alloc (Nat.le_refl _) _).alloc (by simp) _
  have hK0 : PlK wa w.heap.size A n c A' n' c' := by rw [hwa]; exact Blk.alloc (PlK.new w A n c A' n' c') _
  have hR0 : PlK wa (w.heap.size + 1) none 0 0 none 0 0 := by
    rw [hwa]
    have := PlK.new (w.alloc (.cells #[.slice A n c, .slice A' n' c'] 26)) none 0 0 none 0 0
    rw [World.size_alloc] at this
    exact this
  have KG := Lib.hid (hG wa p.outer A n c hB0 (h.on hB0).outer h.oc.1 h.oc.2 (.inl rfl))
  have H0 := Lib.hid (And.intro hB0 (And.intro hK0 (And.intro hR0 hsa)))
  have HP := Lib.hid h
  have HL := Lib.hid (And.intro hl2 (And.intro hfit (And.intro hgl hG)))
  obtain ⟨q1, q2, -⟩ := hK0.facts
  clear h hl1 hl2 hB0 hK0 hR0 hsa hfit hgl hG
  go_enter Tryz.func105, Tryz.ntmps105
  go_upto_region 1 with fail
  rw [← hwa]
  clear hwa
  go_wp2_with fail
  refine KG.out.mono ?_
  rintro e w1 ⟨A1, c1, rfl, ⟨hr1, hc1, hc1'⟩, hb1⟩
  have KL := Lib.hid (leastP_any (g p.outer) A1 _ c1 w1 hr1 hc1 (HL.out.2.2.1 _ (.inl rfl)))
  have HB1 := Lib.hid hb1
  obtain ⟨no, hno⟩ : ∃ no, no = (g p.outer).length := ⟨_, rfl⟩
  rw [← hno] at KL
  rw [← hno]
  have HNO := Lib.hid hno
  clear hno
  clear hr1 hc1 hc1' hb1 KG q1 q2
  go_wp2_with fail
  refine KL.out.mono ?_
  rintro e w2 ⟨Ao, co, rfl, ho2, hb2⟩
  have hb2' : Below wa.heap.size wa w2 := HB1.out.trans (hb2.mono HB1.out.size)
  have hF0 : EachF w (w2.alloc (.cells #[.slice Ao no co, .slice none 0 0] 26)) w2.heap.size (eachP g p) A n c A' n' c' 0 Ao no co none 0 [] := by
    have hba : Below w2.heap.size w2 (w2.alloc (.cells #[.slice Ao no co, .slice none 0 0] 26)) := (Below.refl _ _).alloc (Nat.le_refl _) _
    have h1 := H0.out.2.2.2
    have h2 := hb2'.size
    have h3 := HB1.out.size
    have hx : (eachP g p).outer = rot (leastN (g p.outer) no) (g p.outer) := by rw [each_outer]; unfold lst; rw [HNO.out]
    have hrow : (w2.alloc (.cells #[.slice Ao no co, .slice none 0 0] 26)).ownsRow w.heap.size 44 2 (.slice Ao no co) no (ptsV (eachP g p).outer) := by
      rw [hx]
      exact own_below (own_mono ho2 (by omega)) hba
    have e1 := below_on (below_on H0.out.1 (Nat.le_refl _) hb2') (Nat.le_refl _) hba
    have e2 := (H0.out.2.1.on hb2').on hba
    have e3 := (H0.out.2.2.1.on hb2').on hba
    have e4 : w.heap.size + 1 < w2.heap.size := by omega
    exact ⟨e1, e2, e3, PlK.new w2 Ao no co none 0 0, e4, hrow, World.ownsRow_nil _ _ _ _, rfl, fun j hj => absurd hj (Nat.not_lt_zero _)⟩
  obtain ⟨Bq, hBq⟩ : ∃ Bq, Bq = w2.heap.size := ⟨_, rfl⟩
  obtain ⟨wq, hwq⟩ : ∃ wq, wq = w2.alloc (.cells #[.slice Ao no co, .slice none 0 0] 26) := ⟨_, rfl⟩
  rw [← hBq, ← hwq] at hF0
  have HF0 := Lib.hid hF0
  obtain ⟨q1, q2, -⟩ := hF0.pbox.facts
  clear hF0 hb2' hb2 ho2 KL HB1 H0 HNO
  go_upto_region 2 with fail
  rw [← hBq, ← hwq]
  clear hBq hwq
  go_wp2_with fail
  clear q1 q2
  go_loopw [17] (fun i wr => ∃ (k : Nat) (Ap : Option Addr) (cp : Nat) (hs : List Hd), k ≤ n' ∧ i = .int .i64 (k : Int) ∧ EachF w wr Bq (eachP g p) A n c A' n' c' k Ao no co Ap cp hs) (fun i _ => n' - (intOf i).toNat)
  case atStart => exact ⟨0, none, 0, [], Nat.zero_le _, rfl, HF0.out⟩
  case round =>
    clear HF0
    obtain ⟨k, Ap, cp, hs, hk, rfl, hF⟩ := hrel
    by_cases hlt : k < n'
    · have hlt' : (k : Int) < (n' : Int) := by omega
      have hw1 : IntKind.i64.wrap ((k : Int) + 1) = (k : Int) + 1 := by rw [IntKind.wrap_i64]; omega
      obtain ⟨ad, rfl⟩ := HP.out.parcs.some_ (by omega)
      obtain ⟨had, p1, ⟨Ak, nk, ck, p2, hrk, hk1, hk2⟩, p3⟩ := (HP.out.parcs.below hF.bel).at_ hlt
      have hlk : k < p.parcels.length := by have := HL.out.1; omega
      obtain ⟨x, hx⟩ : ∃ x, x = pcAt p.parcels k := ⟨_, rfl⟩
      have hpx : pcAt (eachP g p).parcels k = eachX g x := by rw [pcAt_each hlk, hx]
      rw [← hx] at p1 p3 hrk
      have hxr : ringOf p x.ring := .inr ⟨x, by rw [hx, pcAt_lt hlk]; exact List.getElem_mem _, rfl⟩
      obtain ⟨wb, hwb⟩ : ∃ wb, wb = wr.alloc (.cells #[.int .i64 x.id, .slice Ak nk ck, .string x.owner] 40) := ⟨_, rfl⟩
      have hbb : Below wr.heap.size wr wb := by rw [hwb]; exact (Below.refl _ _).alloc (Nat.le_refl _) _
      have hsb : wb.heap.size = wr.heap.size + 1 := by rw [hwb]; simp
      have hX : PcK wb wr.heap.size x Ak nk ck := by rw [hwb]; exact PcK.new wr x Ak nk ck
      have KG := Lib.hid (HL.out.2.2.2 wb x.ring Ak nk ck (below_on hF.bel (Nat.le_refl _) hbb) ((hrk.more hF.bel.size).on hbb) hk1 hk2 hxr)
      have hgm := HL.out.2.2.1 _ hxr
      have HF := Lib.hid (And.intro hF (And.intro hpx hwb))
      have HG := Lib.hid (And.intro hgm hsb)
      obtain ⟨-, x1, -, -⟩ := hX.facts
      clear hF hpx hrk hlk hxr hbb hX hgm hsb hx hk1 hk2
      go_upto_region 5 with fail
      rw [← hwb]
      clear hwb p1 p2 p3 had
      obtain ⟨Bx, hBx⟩ : ∃ Bx, Bx = wr.heap.size := ⟨_, rfl⟩
      rw [← hBx] at x1
      rw [← hBx]
      have HBx := Lib.hid hBx
      clear hBx
      go_wp2_with fail
      refine KG.out.mono ?_
      rintro e w2 ⟨A2, c2, rfl, ⟨hr2, hc2, hc2'⟩, hb2⟩
      have KL := Lib.hid (leastP_any (g x.ring) A2 _ c2 w2 hr2 hc2 HG.out.1)
      have HB2 := Lib.hid hb2
      obtain ⟨m, hm⟩ : ∃ m, m = (g x.ring).length := ⟨_, rfl⟩
      rw [← hm] at KL
      rw [← hm]
      have HM := Lib.hid hm
      clear hr2 hc2 hc2' hb2 KG x1 hm
      go_wp2_with fail
      refine KL.out.mono ?_
      rintro e w3 ⟨A3, c3, rfl, ho3, hb3⟩
      have hbw : Below (wr.heap.size + 1) (wr.alloc (.cells #[.int .i64 x.id, .slice Ak nk ck, .string x.owner] 40)) w3 := by
        rw [← HF.out.2.2, ← HG.out.2]
        exact HB2.out.trans (hb3.mono HB2.out.size)
      have hrr : eachX g x = ⟨x.id, rot (leastN (g x.ring) m) (g x.ring), x.owner⟩ := by unfold eachX lst; rw [HM.out]
      obtain ⟨z0, hF3, hx3, hr3⟩ := eachStepA HF.out.1 hbw ho3 (by have := HB2.out.size; have := HG.out.2; omega)
      rw [← HBx.out] at z0 hF3 hx3 hr3
      have z1 : w3.cell? ⟨Bx, 1, none⟩ = some (.slice Ak nk ck) := by rw [Blk.cell z0]; rfl
      have z2 := Blk.frozen z0 1
      obtain ⟨V3, hV3⟩ : ∃ V, V = w3.setCell ⟨Bx, 1, none⟩ (.slice A3 m c3) := ⟨_, rfl⟩
      rw [← hV3] at hF3 hx3 hr3
      have hV4 := hV3.symm
      have y1 : V3.cell? ⟨Bq, 1, none⟩ = some (.slice Ap k cp) := hF3.qbox.facts.2.1
      have y2 : V3.cell? ⟨Bx, 0, none⟩ = some (.int .i64 x.id) := by rw [Blk.cell hx3]; rfl
      have y3 : V3.cell? ⟨Bx, 1, none⟩ = some (.slice A3 m c3) := by rw [Blk.cell hx3]; rfl
      have y4 : V3.cell? ⟨Bx, 2, none⟩ = some (.string x.owner) := by rw [Blk.cell hx3]; rfl
      have HF3 := Lib.hid (And.intro hF3 (And.intro hr3 (And.intro HF.out.2.1 hrr)))
      clear hF3 hr3 hx3 z0 hV3 hrr hbw hb3 ho3 KL HB2
      go_wp2_with (at_builtin
                   refine wpList_append_any _ rfl (.tmp 28) (.tmp 30) _ rfl w.heap.size 40 i1 _ 3 48 Tryz.underlying24 hi1 hy0 hy1 hy2 rfl (by omega) (.slice Ap k cp) k _ rfl (HF3.out.1.on (W' := V3.alloc (.cells #[.int .i64 x.id, .slice A3 m c3, .string x.owner] 40)) ((Below.refl _ _).alloc (Nat.le_refl _) _)).row _ (some ⟨V3.heap.size, 0, none⟩) 1 1 (pcV x (A3, m, c3)) rfl (Reads.made V3 #[.int .i64 x.id, .slice A3 m c3, .string x.owner] 40 (0, 0) 3 1 (pcV x (A3, m, c3)) rfl rfl) (by intro u hu; simp [pcV] at hu; rcases hu with rfl | rfl | rfl <;> rfl) (by simp only [maxLen]; omega) (by omega) (by have := HF3.out.1.bel.size; rw [World.size_alloc]; omega) ?_
                   intro v5 w5 hown5 hg5 hat5
                   obtain ⟨Ap', cp', rfl⟩ := own_form hown5
                   have hr3 := HF3.out.2.1
                   have hpx := HF3.out.2.2.1.trans HF3.out.2.2.2
                   have hpv : pcV x (A3, m, c3) = pcV (pcAt (eachP g p).parcels k) (A3, m, c3) := (by rw [hpx]; rfl)
                   have hri : rot (leastN (g x.ring) m) (g x.ring) = (pcAt (eachP g p).parcels k).ring := (by rw [hpx])
                   rw [hpv] at hown5
                   rw [hri] at hr3
                   have hba : Below V3.heap.size V3 (V3.alloc (.cells #[.int .i64 x.id, .slice A3 m c3, .string x.owner] 40)) := (Below.refl _ _).alloc (Nat.le_refl _) _
                   obtain ⟨zq, hF5⟩ := EachF.next (HF3.out.1.on hba) (by rw [each_len]; have := HL.out.1; omega) (own_below hr3 hba) hown5 hg5
                   have y5 : w5.cell? ⟨Bq, 1, none⟩ = some (.slice Ap k cp) := zq.facts.2.1
                   have y6 := Blk.frozen zq 1
                   have HF5 := Lib.hid hF5
                   clear hr3 hba zq hF5 hown5 hg5 hat5 hpx hpv hri)
      go_roundw
      case rel => exact ⟨k + 1, Ap', cp', hs ++ [(A3, m, c3)], by omega, by go_num, HF5.out⟩
      case measure => simp [intOf]; omega
    · have hkn : k = n' := by omega
      subst hkn
      obtain ⟨y1, y2, -⟩ := hF.qbox.facts
      obtain ⟨y3, y4, -⟩ := hF.rbox.facts
      have f1 := Blk.frozen hF.rbox 0
      have f2 := Blk.frozen hF.rbox 1
      have hpo := ((hF.own (by rw [each_len]; exact HL.out.1) HL.out.2.1).store hF.rbox (by decide) (by decide) 0 (.slice Ao no co)).store (Blk.set_ hF.rbox 0 (.slice Ao no co)) (by decide) (by decide) 1 (.slice Ap k cp)
      have hB5 := (hF.bel.setCell (p := ⟨w.heap.size + 1, 0, none⟩) (by simp) (.slice Ao no co)).setCell (p := ⟨w.heap.size + 1, 1, none⟩) (by simp) (.slice Ap k cp)
      have hR5 := Blk.set_ (Blk.set_ hF.rbox 0 (.slice Ao no co)) 1 (.slice Ap k cp)
      have HZ := Lib.hid (And.intro hpo (And.intro hB5 hR5))
      clear hpo hB5 hR5 hF
      go_wp2_with fail
      obtain ⟨hpo, hB5, hR5⟩ := HZ.out
      clear y1 y2 y3 y4 f1 f2 HZ
      generalize (wr.setCell ⟨w.heap.size + 1, 0, none⟩ (.slice Ao no co)).setCell ⟨w.heap.size + 1, 1, none⟩ (.slice Ap k cp) = V at *
      have r1 : V.cell? ⟨w.heap.size + 1, 0, none⟩ = some (.slice Ao no co) := by rw [Blk.cell hR5]; rfl
      have r2 : V.cell? ⟨w.heap.size + 1, 1, none⟩ = some (.slice Ap k cp) := by rw [Blk.cell hR5]; rfl
      refine bodyPost_ret (v := planV Ao no co Ap k cp) ?_ rfl ⟨Ao, no, co, Ap, k, cp, hs, rfl, hpo, hB5⟩
      simp [results, Tryz.results105, go_sem, r1, r2]
end Go.Proofs.YtmegmokjjlelgaaGreat
