/- ref05.Clear: the walk. -/
import Derived.Test.YtglnklfhgdjccaaGreatBendClear
import Derived.Test.YtglnklfhgdjccaaGreatCleared
import Derived.Test.YtglnklfhgdjccaaGreatRefMark
namespace Go.Proofs.YtglnklfhgdjccaaGreat
open Go.RowKit Go.Lib
def clrTo (g : List Pt → List Pt) (p : Plan) (m : Nat) : Plan := if m = 0 then p else mapTo g p (m - 1)
def ringM (p : Plan) (m : Nat) : List Pt := if m = 0 then p.outer else (pcAt p.parcels (m - 1)).ring
def seenM (f : List Pt → List Ed) (p : Plan) (m : Nat) : List Ed := if m = 0 then [] else seenK f p (m - 1)
theorem seenM_succ {f : List Pt → List Ed} {p : Plan} {m : Nat} (hm : m ≤ p.parcels.length) : seenM f p (m + 1) = seenM f p m ++ f (ringM p m) := by
  rcases m with _ | k
  · simp [seenM, ringM, seenK_zero]
  · simp only [seenM, ringM, Nat.add_eq_zero_iff, Nat.one_ne_zero, and_false, if_false, Nat.add_sub_cancel]
    exact seenK_succ (by omega)
theorem ringM_of {p : Plan} {m : Nat} (hm : m ≤ p.parcels.length) : ringOf p (ringM p m) := by
  rcases m with _ | k
  · exact .inl rfl
  · refine .inr ⟨pcAt p.parcels k, ?_, rfl⟩
    rw [pcAt_lt (by omega)]
    exact List.getElem_mem _
theorem setR_same' {q : Plan} {k : Nat} (hk : k < q.parcels.length) : setR q k (pcAt q.parcels k).ring = q := by
  unfold setR
  have : (⟨(pcAt q.parcels k).id, (pcAt q.parcels k).ring, (pcAt q.parcels k).owner⟩ : Parc) = q.parcels[k] := by rw [pcAt_lt hk]
  rw [this, List.set_getElem_self]
theorem clrTo_same {g : List Pt → List Pt} {p : Plan} {m : Nat} (hm : m ≤ p.parcels.length) (hg : g (ringM p m) = ringM p m) : clrTo g p (m + 1) = clrTo g p m := by
  rcases m with _ | k
  · show mapTo g p 0 = p
    rw [mapTo_zero, show g p.outer = p.outer from hg]
  · show mapTo g p (k + 1) = mapTo g p k
    have hg' : g (pcAt p.parcels k).ring = (pcAt p.parcels k).ring := hg
    rw [← mapTo_next (by omega), hg']
    have h1 := setR_same' (q := mapTo g p k) (k := k) (by rw [mapTo_len (by omega)]; omega)
    rw [mapTo_at (by omega)] at h1
    exact h1
theorem PlanOwn.grownE {B n c n' c' : Nat} {W W' : World} {A A' : Option Addr} {p : Plan} {hs : List Hd} (h : PlanOwn B W A n c A' n' c' p hs) {b m s : Nat} {v : Value} {xs : List Value} (ho : W.ownsRow b 45 s v m xs) (hg : W.grownBy W' v.ownBlock) : PlanOwn B W' A n c A' n' c' p hs := by
  have hkeep : ∀ {e : TypeId} {s m : Nat} {x : Value} {xs : List Value}, e ≠ 45 → W.ownsRow B e s x m xs → W'.ownsRow B e s x m xs := fun {e s m x xs} hne hx =>
    own_heap hx fun k hk => hg.block k (hx.lt k hk).2 (fun e' => own_own_ne hx ho hne hk e'.symm)
  exact ⟨hkeep (by decide) h.out, hkeep (by decide) h.row, h.len, h.lenp, fun j hj => hkeep (by decide) (h.rings j hj), h.fits⟩
theorem PlanOwn.headC {B n c n' c' k : Nat} {W : World} {A A' : Option Addr} {p : Plan} {hs : List Hd} (h : PlanOwn B W A n c A' n' c' p hs) (hk : k < n') : ∃ ad, A' = some ad ∧ ad.block < W.heap.size ∧ B ≤ ad.block ∧ W.cell? ⟨(ad.add (k * 3)).block, (ad.add (k * 3)).off + 1, none⟩ = some (.slice (hdAt hs k).1 (hdAt hs k).2.1 (hdAt hs k).2.2) := by
  obtain ⟨ad, e, hb, hc⟩ := (Reads.of_own h.row).2 (by omega)
  subst e
  obtain ⟨-, g2, -⟩ := rowPV_at (hs := hs) (ps := p.parcels) (by rw [h.len, h.lenp]) (k := k) (by rw [h.lenp]; exact hk)
  exact ⟨ad, rfl, hb, (h.row.lt ad.block rfl).1, by rw [add_off3 _ _ _ (by omega)]; exact hc _ _ g2⟩
/-- What stands at the head of a round. -/
structure RC (w : World) (Bq B5 : Nat) (p : Plan) (q : Pt) (A2 : Option Addr) (n2 c2 m : Nat) (es : List Ed) (W : World) (Ao : Option Addr) (no co : Nat) (hs : List Hd) (As : Option Addr) (ns cs : Nat) : Prop where
  bel : Below w.heap.size w W
  res : PlK W (w.heap.size + 1 + 1) none 0 0 none 0 0
  pt : PtK W (w.heap.size + 1) q
  box : PlK W Bq Ao no co A2 n2 c2
  own : PlanOwn B5 W Ao no co A2 n2 c2 (clrTo (clrG q) p m) hs
  seen : W.ownsRow B5 45 4 (.slice As ns cs) ns (edsV es)
  base : w.heap.size + 1 + 1 < B5
  qbase : w.heap.size + 1 + 1 < Bq
  b5 : B5 ≤ W.heap.size
theorem RC.on {w W W' : World} {Bq B5 : Nat} {p : Plan} {q : Pt} {A2 Ao As : Option Addr} {n2 c2 m no co ns cs : Nat} {es : List Ed} {hs : List Hd} (h : RC w Bq B5 p q A2 n2 c2 m es W Ao no co hs As ns cs) (hb : Below W.heap.size W W') : RC w Bq B5 p q A2 n2 c2 m es W' Ao no co hs As ns cs :=
  ⟨below_on h.bel (Nat.le_refl _) hb, h.res.on hb, Blk.below h.pt hb (Blk.lt h.pt), h.box.on hb, h.own.below hb, own_below h.seen hb, h.base, h.qbase, Nat.le_trans h.b5 hb.size⟩
theorem RC.app {w W W' : World} {Bq B5 : Nat} {p : Plan} {q : Pt} {A2 Ao As A' : Option Addr} {n2 c2 m no co ns cs n' c' : Nat} {es es' : List Ed} {hs : List Hd} (h : RC w Bq B5 p q A2 n2 c2 m es W Ao no co hs As ns cs) (ho : W'.ownsRow B5 45 4 (.slice A' n' c') n' (edsV es')) (hg : W.grownBy W' (Value.slice As ns cs).ownBlock) : RC w Bq B5 p q A2 n2 c2 m es' W' Ao no co hs A' n' c' :=
  ⟨h.bel.grown hg h.bel.size (fun g e => by have := (h.seen.lt g e).1; have := h.base; omega), Blk.grown h.res hg (fun e => own_blk_ne h.seen h.res (by decide) e.symm), Blk.grown h.pt hg (fun e => own_blk_ne h.seen h.pt (by decide) e.symm), Blk.grown h.box hg (fun e => own_blk_ne h.seen h.box (by decide) e.symm), h.own.grownE h.seen hg, ho, h.base, h.qbase, Nat.le_trans h.b5 hg.size⟩
theorem RC.setOut {w W : World} {Bq B5 : Nat} {p : Plan} {q : Pt} {A2 Ao As A3 : Option Addr} {n2 c2 no co ns cs m3 c3 : Nat} {es : List Ed} {hs : List Hd} (h : RC w Bq B5 p q A2 n2 c2 0 es W Ao no co hs As ns cs) (hnew : W.ownsRow B5 43 2 (.slice A3 m3 c3) m3 (ptsV (clrG q p.outer))) (hf : (clrTo (clrG q) p 1).fits) :
    RC w Bq B5 p q A2 n2 c2 1 es (W.setCell ⟨Bq, 0, none⟩ (.slice A3 m3 c3)) A3 m3 c3 hs As ns cs := by
  have hbx := h.box
  have hq := h.qbase
  have hpo : PlanOwn B5 W A3 m3 c3 A2 n2 c2 (clrTo (clrG q) p 1) hs := by
    have h1 := h.own
    have h2 : clrTo (clrG q) p 1 = ⟨clrG q p.outer, p.parcels⟩ := by show mapTo _ _ 0 = _; rw [mapTo_zero]
    rw [h2] at hf ⊢
    exact PlanOwn.outR (p := p) h1 hnew hf
  refine ⟨h.bel.setCell (p := ⟨Bq, 0, none⟩) (by simp only; omega) _, Blk.far h.res (by simp only; omega) _, Blk.far h.pt (by simp only; omega) _, ?_, hpo.store h.box (by decide) (by decide) 0 _, own_heap h.seen fun g hg => Below.heap_setCell _ _ _ g (fun e => own_blk_ne h.seen h.box (by decide) (by rw [hg, e])), h.base, h.qbase, by simpa using h.b5⟩
  have := Blk.set_ hbx 0 (.slice A3 m3 c3)
  simp only [List.setIfInBounds_toArray, List.set_cons_zero] at this
  exact this
theorem RC.setPar {w W : World} {Bq B5 : Nat} {p : Plan} {q : Pt} {Ao As A3 : Option Addr} {ad : Addr} {n2 c2 no co ns cs m3 c3 k : Nat} {es : List Ed} {hs : List Hd} (h : RC w Bq B5 p q (some ad) n2 c2 (k + 1) es W Ao no co hs As ns cs) (hk : k < p.parcels.length) (hn2 : p.parcels.length = n2) (hnew : W.ownsRow B5 43 2 (.slice A3 m3 c3) m3 (ptsV (clrG q (pcAt p.parcels k).ring))) (hf : (clrTo (clrG q) p (k + 2)).fits) :
    RC w Bq B5 p q (some ad) n2 c2 (k + 2) es (W.setCell ⟨(ad.add (k * 3)).block, (ad.add (k * 3)).off + 1, none⟩ (.slice A3 m3 c3)) Ao no co (hs.set k (A3, m3, c3)) As ns cs := by
  have hst : setR (clrTo (clrG q) p (k + 1)) k (clrG q (pcAt p.parcels k).ring) = clrTo (clrG q) p (k + 2) := mapTo_next hk
  obtain ⟨hpo, hlt, hB⟩ := PlanOwn.setRing h.own (k := k) (by omega) hnew (by rw [hst]; exact hf)
  rw [hst] at hpo
  have hb := h.base
  have hrow := h.own.row
  have hne : ∀ {g : Nat} {t : TypeId} {cs : Array Value}, Blk W g t cs → 40 ≠ t → g ≠ ad.block := fun {g t cs} hx ht e => own_blk_ne hrow hx ht (by rw [e]; rfl)
  have hbk : (⟨(ad.add (k * 3)).block, (ad.add (k * 3)).off + 1, none⟩ : Addr).block = ad.block := by simp only [block_of_add]
  refine ⟨h.bel.setCell (by rw [hbk]; omega) _, Blk.far h.res (by rw [hbk]; exact hne h.res (by decide)) _, Blk.far h.pt (by rw [hbk]; exact hne h.pt (by decide)) _, Blk.far h.box (by rw [hbk]; exact hne h.box (by decide)) _, hpo, own_heap h.seen fun g hg => Below.heap_setCell _ _ _ g (fun e => own_own_ne h.seen hrow (by decide) hg (by rw [e, hbk]; rfl)), h.base, h.qbase, by simpa using h.b5⟩
theorem seen_app2 {B5 ns cs : Nat} {As : Option Addr} {es : List Ed} {e : Ed} {W : World} (ho : W.ownsRow B5 45 4 (.slice As ns cs) ns (edsV es)) (hB : B5 ≤ W.heap.size) (hes : es.length ≤ 1048577) :
    (W.alloc (.cells #[.int .i64 e.a.x, .int .i64 e.a.y, .int .i64 e.b.x, .int .i64 e.b.y] 45)).ownsRow B5 45 4 (.slice As ns cs) ns (edsV es) ∧ Reads (W.alloc (.cells #[.int .i64 e.a.x, .int .i64 e.a.y, .int .i64 e.b.x, .int .i64 e.b.y] 45)) (W.alloc (.cells #[.int .i64 e.a.x, .int .i64 e.a.y, .int .i64 e.b.x, .int .i64 e.b.y] 45)).heap.size 4 (some ⟨W.heap.size, 0, none⟩) 1 (edsV [e]) ∧ ns + 1 ≤ maxLen ∧ (ns + 1) * 32 ≤ 140737488355328 ∧ B5 ≤ (W.alloc (.cells #[.int .i64 e.a.x, .int .i64 e.a.y, .int .i64 e.b.x, .int .i64 e.b.y] 45)).heap.size := by
  have hba : Below W.heap.size W (W.alloc (.cells #[.int .i64 e.a.x, .int .i64 e.a.y, .int .i64 e.b.x, .int .i64 e.b.y] 45)) := (Below.refl _ _).alloc (Nat.le_refl _) _
  have hl : es.length = ns := (Reads.of_own ho).lenEd
  refine ⟨own_below ho hba, Reads.made W #[.int .i64 e.a.x, .int .i64 e.a.y, .int .i64 e.b.x, .int .i64 e.b.y] 45 (0, 0) 4 1 (edsV [e]) rfl rfl, by simp only [maxLen]; omega, by omega, by rw [World.size_alloc]; omega⟩
theorem seenM_len {f : List Pt → List Ed} {p : Plan} (hf : ∀ xs, (f xs).length ≤ 1) (m : Nat) : (seenM f p m).length ≤ m := by
  rcases m with _ | k
  · simp [seenM]
  · exact seenK_len hf k
def okE (q : Pt) (es : List Ed) (j : Nat) : Prop := onB (edAt es j).a (edAt es j).b q = true ∧ edAt es j = edAt es 0
theorem edAt_snoc_lt {es : List Ed} {e : Ed} {j : Nat} (h : j < es.length) : edAt (es ++ [e]) j = edAt es j := by unfold edAt; rw [List.getElem?_append_left h]
theorem edAt_snoc_eq {es : List Ed} {e : Ed} : edAt (es ++ [e]) es.length = e := by unfold edAt; simp
theorem okE_snoc {q : Pt} {es : List Ed} {e : Ed} (h : ∀ j, j < es.length → okE q es j) (h1 : onB e.a e.b q = true) (h2 : edAt (es ++ [e]) 0 = e) : ∀ j, j < (es ++ [e]).length → okE q (es ++ [e]) j := fun j hj => by
  rw [List.length_append, List.length_singleton] at hj
  by_cases e' : j = es.length
  · subst e'
    unfold okE
    rw [edAt_snoc_eq, h2]
    exact ⟨h1, rfl⟩
  · have h3 : j < es.length := by omega
    unfold okE
    rw [edAt_snoc_lt h3, edAt_snoc_lt (by omega)]
    exact h j h3
theorem onB_norm (e : Ed) (q : Pt) : onB e.norm.a e.norm.b q = onB e.a e.b q := by
  unfold Ed.norm Ed.back
  split
  · exact onB_swap _ _ _
  · rfl
theorem seenM_pre {f : List Pt → List Ed} {p : Plan} {m : Nat} (hm : m ≤ p.parcels.length + 1) : ∃ t, seenM f p (p.parcels.length + 1) = seenM f p m ++ t := by
  obtain ⟨d, hd⟩ : ∃ d, p.parcels.length + 1 = m + d := ⟨p.parcels.length + 1 - m, by omega⟩
  rw [hd]
  have : ∀ d, m + d ≤ p.parcels.length + 1 → ∃ t, seenM f p (m + d) = seenM f p m ++ t := fun d => by
    induction d with
    | zero => intro _; exact ⟨[], by simp⟩
    | succ d ih =>
      intro h
      obtain ⟨t, ht⟩ := ih (by omega)
      exact ⟨t ++ f (ringM p (m + d)), by rw [← Nat.add_assoc, seenM_succ (by omega), ht, List.append_assoc]⟩
  exact this d (by omega)
/-- One that does not fit: what is collected in the end does not, either. -/
theorem seen_bad {p : Plan} {q : Pt} {m : Nat} {e : Ed} {es : List Ed} (hm : m ≤ p.parcels.length) (hes : es = seenM (clrF q) p m) (he : clrF q (ringM p m) = [e]) (h : ¬ (onB e.a e.b q = true ∧ edAt (es ++ [e]) 0 = e)) : ¬ seenOK q (seenK (clrF q) p p.parcels.length) := fun hs => by
  obtain ⟨t, ht⟩ := seenM_pre (f := clrF q) (p := p) (m := m + 1) (by omega)
  rw [seenM_succ hm, he, ← hes] at ht
  have ht' : seenK (clrF q) p p.parcels.length = es ++ [e] ++ t := ht
  rw [ht'] at hs
  have h1 := hs es.length (by simp)
  have e1 : edAt (es ++ [e] ++ t) es.length = e := by unfold edAt; simp
  have e2 : edAt (es ++ [e] ++ t) 0 = edAt (es ++ [e]) 0 := by
    unfold edAt
    rw [List.getElem?_append_left (by simp)]
  rw [e1, e2] at h1
  exact h ⟨h1.1, h1.2.symm⟩
theorem clrTo_fits {g : List Pt → List Pt} {p : Plan} (h : p.fits) (hg : ∀ xs, ringOf p xs → (g xs).length ≤ 1048576 ∧ ∀ r ∈ g xs, r.inI) {m : Nat} (hm : m ≤ p.parcels.length + 1) : (clrTo g p m).fits := by
  rcases m with _ | k
  · exact h
  · exact mapTo_fits h hg (by omega)
set_option maxRecDepth 100000 in
set_option maxHeartbeats 3200000 in
theorem refClear_any (p : Plan) (q : Pt) (A A' : Option Addr) (n c n' c' : Nat) (w : World) (h : PlanAt w w.heap.size A n c A' n' c' p) (hq : q.inI) :
    Calls Tryz.prog 49 #[planV A n c A' n' c', .agg #[.int .i64 q.x, .int .i64 q.y]] w (ResPostS (clearP p q) (clearE p q) w) := by
  obtain ⟨i0, hi0, hz0, hz1, hz2⟩ := info_parts info_ed
  obtain ⟨wa, hwa⟩ : ∃ wa : World, wa = ((w.alloc (.cells #[.slice A n c, .slice A' n' c'] 26)).alloc (.cells #[.int .i64 q.x, .int .i64 q.y] 43)).alloc (.cells #[.slice none 0 0, .slice none 0 0] 26) := ⟨_, rfl⟩
  have hB0 : Below w.heap.size w wa := by rw [hwa]; exact (((Below.refl _ _).alloc (Nat.le_refl _) _).alloc (by simp) _).alloc (by simp; omega) _
  have hX : PlK wa w.heap.size A n c A' n' c' := by rw [hwa]; exact Blk.alloc (Blk.alloc (PlK.new w A n c A' n' c') _) _
  have hY : PtK wa (w.heap.size + 1) q := by
    have := PtK.new (w.alloc (.cells #[.slice A n c, .slice A' n' c'] 26)) q
    rw [World.size_alloc] at this
    rw [hwa]
    exact Blk.alloc this _
  have hZ : PlK wa (w.heap.size + 1 + 1) none 0 0 none 0 0 := by
    have := PlK.new ((w.alloc (.cells #[.slice A n c, .slice A' n' c'] 26)).alloc (.cells #[.int .i64 q.x, .int .i64 q.y] 43)) none 0 0 none 0 0
    rw [World.size_alloc, World.size_alloc] at this
    rw [hwa]
    exact this
  have hP := h.on hB0
  have KB := Lib.hid (checkPR_any p A A' n c n' c' wa hP)
  obtain ⟨q1, q2, q3⟩ := hX.facts
  have H := Lib.hid (And.intro (And.intro hB0 hZ) (And.intro hX (And.intro hY hP)))
  have HE : Hid (clearE p q = if planB p = true then (if good q = true then (if hasC p.parcels q = true then (if seenOK q (seenK (clrF q) p p.parcels.length) then (if planB (eachP (clrG q) p) = true then 0 else 8) else 7) else 5) else 3) else 2) := by show _ = _; unfold clearE; rfl
  have HI := Lib.hid hq
  clear hB0 hX hY hZ hP h hq
  go_enter Tryz.func49, Tryz.ntmps49
  go_upto_region 1 with fail
  rw [← hwa]
  clear hwa
  go_wp2_with fail
  refine KB.out.mono ?_
  rintro e w1 ⟨rfl, hb⟩
  have H' := Lib.hid (And.intro (And.intro (below_on H.out.1.1 (Nat.le_refl _) hb) (H.out.1.2.on hb)) (And.intro (H.out.2.1.on hb) (And.intro (show PtK w1 (w.heap.size + 1) q from Blk.below H.out.2.2.1 hb (Blk.lt H.out.2.2.1)) (H.out.2.2.2.on hb))))
  have HR := Lib.hid H'.out.1
  clear hb H
  have H := H'
  clear H'
  clear KB q1 q2 q3
  rcases hpb : planB p with _ | _
  · rw [hpb] at HE
    have hme : clearE p q = 2 := HE.out
    have HM := Lib.hid hme
    clear HE hme hpb H
    obtain ⟨V, hV, r1, r2, hbV⟩ := res_store (g := w.heap.size + 1 + 1) HR.out.1 (by omega) HR.out.2 (.slice none 0 0) (.slice none 0 0)
    obtain ⟨s1, s2, f1, f2⟩ := plk_facts4 HR.out.2
    have HV := Lib.hid hV
    have HR := Lib.hid (And.intro r1 (And.intro r2 hbV))
    clear hV r1 r2 hbV
    go_wp2_with fail
    rw [← HV.out]
    obtain ⟨r1, r2, hbV⟩ := HR.out
    refine bodyPost_ret (v := .tuple #[planV none 0 0 none 0 0, .int .i64 2]) ?_ rfl (by rw [HM.out]; exact resPostS_no (clearP_no HM.out (by decide)) hbV)
    simp [results, Tryz.results49, go_sem, r1, r2]
  rw [hpb, if_pos rfl] at HE
  have HS := Lib.hid (planB_sound hpb)
  clear hpb HR
  obtain ⟨r1, r2, -, -, -⟩ := PtK.facts H.out.2.2.1
  have hb : Below w1.heap.size w1 (w1.alloc (.cells #[.int .i64 q.x, .int .i64 q.y] 43)) := (Below.refl _ _).alloc (Nat.le_refl _) _
  have KG := Lib.hid (goodR_any [q] (some ⟨w1.heap.size, 0, none⟩) 1 1 _ (Reads.made w1 #[.int .i64 q.x, .int .i64 q.y] 43 (0, 0) 2 1 (ptsV [q]) rfl rfl) (by omega) (fun r hr => by rw [List.mem_singleton] at hr; rw [hr]; exact HI.out))
  have H' := Lib.hid (And.intro (And.intro (below_on H.out.1.1 (Nat.le_refl _) hb) (H.out.1.2.on hb)) (And.intro (H.out.2.1.on hb) (And.intro (show PtK _ (w.heap.size + 1) q from Blk.below H.out.2.2.1 hb (Blk.lt H.out.2.2.1)) (H.out.2.2.2.on hb))))
  have HR := Lib.hid H'.out.1
  clear hb H
  have H := H'
  clear H'
  go_wp2_with fail
  refine KG.out.mono ?_
  rintro e w2 ⟨rfl, hb⟩
  clear HR
  have H' := Lib.hid (And.intro (And.intro (below_on H.out.1.1 (Nat.le_refl _) hb) (H.out.1.2.on hb)) (And.intro (H.out.2.1.on hb) (And.intro (show PtK w2 (w.heap.size + 1) q from Blk.below H.out.2.2.1 hb (Blk.lt H.out.2.2.1)) (H.out.2.2.2.on hb))))
  have HR := Lib.hid H'.out.1
  clear hb H
  have H := H'
  clear H'
  clear KG r1 r2
  rw [goodL_one']
  rcases hgd : good q with _ | _
  · rw [hgd] at HE
    have hme : clearE p q = 3 := HE.out
    have HM := Lib.hid hme
    clear HE hme hgd H
    obtain ⟨V, hV, r1, r2, hbV⟩ := res_store (g := w.heap.size + 1 + 1) HR.out.1 (by omega) HR.out.2 (.slice none 0 0) (.slice none 0 0)
    obtain ⟨s1, s2, f1, f2⟩ := plk_facts4 HR.out.2
    have HV := Lib.hid hV
    have HR := Lib.hid (And.intro r1 (And.intro r2 hbV))
    clear hV r1 r2 hbV
    go_wp2_with fail
    rw [← HV.out]
    obtain ⟨r1, r2, hbV⟩ := HR.out
    refine bodyPost_ret (v := .tuple #[planV none 0 0 none 0 0, .int .i64 3]) ?_ rfl (by rw [HM.out]; exact resPostS_no (clearP_no HM.out (by decide)) hbV)
    simp [results, Tryz.results49, go_sem, r1, r2]
  rw [hgd, if_pos rfl] at HE
  have HG := Lib.hid hgd
  clear hgd
  obtain ⟨q1, q2, q3⟩ := H.out.2.1.facts
  obtain ⟨r1, r2, -, -, -⟩ := PtK.facts H.out.2.2.1
  have KH := Lib.hid (cornerR_any p q A A' n c n' c' w2 H.out.2.2.2)
  go_wp2_with fail
  refine KH.out.mono ?_
  rintro e w3 ⟨rfl, hb⟩
  clear HR
  have H' := Lib.hid (And.intro (And.intro (below_on H.out.1.1 (Nat.le_refl _) hb) (H.out.1.2.on hb)) (And.intro (H.out.2.1.on hb) (And.intro (show PtK w3 (w.heap.size + 1) q from Blk.below H.out.2.2.1 hb (Blk.lt H.out.2.2.1)) (H.out.2.2.2.on hb))))
  have HR := Lib.hid H'.out.1
  clear hb H
  have H := H'
  clear H'
  clear KH q1 q2 q3 r1 r2
  rcases hh1 : hasC p.parcels q with _ | _
  · rw [hh1] at HE
    have hme : clearE p q = 5 := HE.out
    have HM := Lib.hid hme
    clear HE hme hh1 H
    obtain ⟨V, hV, r1, r2, hbV⟩ := res_store (g := w.heap.size + 1 + 1) HR.out.1 (by omega) HR.out.2 (.slice none 0 0) (.slice none 0 0)
    obtain ⟨s1, s2, f1, f2⟩ := plk_facts4 HR.out.2
    have HV := Lib.hid hV
    have HR := Lib.hid (And.intro r1 (And.intro r2 hbV))
    clear hV r1 r2 hbV
    go_wp2_with fail
    rw [← HV.out]
    obtain ⟨r1, r2, hbV⟩ := HR.out
    refine bodyPost_ret (v := .tuple #[planV none 0 0 none 0 0, .int .i64 5]) ?_ rfl (by rw [HM.out]; exact resPostS_no (clearP_no HM.out (by decide)) hbV)
    simp [results, Tryz.results49, go_sem, r1, r2]
  rw [hh1, if_pos rfl] at HE
  clear hh1 HR
  obtain ⟨q1, q2, q3⟩ := H.out.2.1.facts
  have hsm : n' ≤ 64 := by have := (listed_bd HS.out.1).2.1; have := H.out.2.2.2.lens.2.1; omega
  have KO := Lib.hid (ownPlS_any p A A' n c n' c' w3 H.out.2.2.2 (by omega))
  have HLF : Hid (∀ k, k ≤ p.parcels.length + 1 → (clrTo (clrG q) p k).fits) := fun k hk => clrTo_fits H.out.2.2.2.fits (fun xs hx => ⟨by have := (clr_ok HS.out (q := q) xs hx).1; omega, (clr_ok HS.out xs hx).2⟩) hk
  go_wp2_with fail
  refine KO.out.mono ?_
  rintro e w6 ⟨A1, n1, c1, A2, n2, c2, hs, rfl, hpo, hb6⟩
  obtain ⟨w8, hw8⟩ : ∃ w8, w8 = w6.alloc (.cells #[.slice A1 n1 c1, .slice A2 n2 c2] 26) := ⟨_, rfl⟩
  have hba : Below w6.heap.size w6 w8 := by rw [hw8]; exact (Below.refl _ _).alloc (Nat.le_refl _) _
  have hQ : PlK w8 w6.heap.size A1 n1 c1 A2 n2 c2 := by rw [hw8]; exact PlK.new w6 A1 n1 c1 A2 n2 c2
  have hB5 : w.heap.size + 1 + 1 < w3.heap.size := Blk.lt H.out.1.2
  have hq5 : w.heap.size + 1 + 1 < w6.heap.size := by have := hb6.size; omega
  obtain ⟨Bq, hBq⟩ : ∃ Bq, Bq = w6.heap.size := ⟨_, rfl⟩
  rw [← hBq] at hQ hq5
  have hb := below_on hb6 (Nat.le_refl _) hba
  obtain ⟨B5, hB5e⟩ : ∃ B5, B5 = w3.heap.size := ⟨_, rfl⟩
  rw [← hB5e] at hpo hB5
  have hb5s : B5 ≤ w8.heap.size := by rw [hB5e]; exact hb.size
  have hn2 : p.parcels.length = n2 := hpo.lenp
  have hn64 : n2 ≤ 64 := by have := H.out.2.2.2.lens.2.1; omega
  have H8 : RC w Bq B5 p q A2 n2 c2 0 [] w8 A1 n1 c1 hs none 0 0 :=
    ⟨below_on H.out.1.1 (Nat.le_refl _) hb, H.out.1.2.on hb, Blk.below H.out.2.2.1 hb (Blk.lt H.out.2.2.1), hQ, hpo.below hba, World.ownsRow_nil _ _ _ _, hB5, hq5, hb5s⟩
  have H8 := Lib.hid H8
  have HN := Lib.hid hn2
  clear hpo hb6 hba hQ hb hb5s hB5 hB5e hn2 H KO q1 q2 q3 hq5 hsm
  go_upto_region 8 with fail
  rw [← hw8, ← hBq]
  clear hw8 hBq
  go_wp2_with fail
  go_loopw [7, 8] (fun s i wr => ∃ (m : Nat) (z : Int) (Ao : Option Addr) (no co : Nat) (hs : List Hd) (As : Option Addr) (ns cs : Nat), m ≤ n2 + 1 ∧ z = (m : Int) - 1 ∧ i = .int .i64 z ∧ s = .slice As ns cs ∧ (∀ j, j < (seenM (clrF q) p m).length → okE q (seenM (clrF q) p m) j) ∧ Hid (RC w Bq B5 p q A2 n2 c2 m (seenM (clrF q) p m) wr Ao no co hs As ns cs)) (fun _ i _ => n2 + 1 - (intOf i + 1).toNat)
  case atStart => exact ⟨0, -1, A1, n1, c1, hs, none, 0, 0, Nat.zero_le _, by omega, rfl, rfl, fun j hj => absurd hj (by simp [seenM]), H8⟩
  case round =>
    clear H8
    obtain ⟨m, z, Ao, no, co, hs, As, ns, cs, hm, hz, rfl, rfl, hdone, HW⟩ := hrel
    obtain ⟨q1, q2, q3⟩ := HW.out.box.facts
    by_cases hlt : m < n2 + 1
    · have hlt' : z < (n2 : Int) := by omega
      have hw1 : IntKind.i64.wrap (z + 1) = z + 1 := by rw [IntKind.wrap_i64]; omega
      have hml : m ≤ p.parcels.length := by have := HN.out; omega
      have HDN := Lib.hid hdone
      have HZ := Lib.hid (And.intro hz hml)
      clear hdone
      go_upto_if 40 with fail
      go_cut [9] (fun s wx => ∃ Ar nr cr, s = .slice Ar nr cr ∧ wr = wx ∧ wr.ownsRow B5 43 2 (.slice Ar nr cr) nr (ptsV (ringM p m)))
      case first =>
        rcases m with _ | k
        · have hneg : z < 0 := by omega
          clear hz
          go_wp2_with fail
          go_meet
          exact ⟨Ao, no, co, rfl, rfl, HW.out.own.out⟩
        · obtain rfl : z = (k : Int) := by omega
          have hge : 0 ≤ (k : Int) := by omega
          have hk2 : k < n2 := by omega
          have hk3 : (k : Int) < (n2 : Int) := by omega
          obtain ⟨ad, rfl, hbd, hbB, p2⟩ := HW.out.own.headC hk2
          have hring := HW.out.own.rings k hk2
          rw [show pcAt (clrTo (clrG q) p (k + 1)).parcels k = pcAt p.parcels k from mapTo_at (by have := HN.out; omega)] at hring
          obtain ⟨⟨Ar, nr, cr⟩, hhd⟩ : ∃ z, z = hdAt hs k := ⟨_, rfl⟩
          rw [← hhd] at p2 hring
          simp only at p2 hring
          have HRG := Lib.hid hring
          clear hz hring hhd
          go_wp2_with fail
          go_meet
          exact ⟨Ar, nr, cr, rfl, rfl, HRG.out⟩
      case rest =>
        obtain ⟨Ar, nr, cr, rfl, rfl, hring⟩ := hcut
        have hxr : ringOf p (ringM p m) := ringM_of hml
        obtain ⟨x, hx⟩ : ∃ x, x = ringM p m := ⟨_, rfl⟩
        rw [← hx] at hring hxr
        obtain ⟨hgx, hx128, hx3, -⟩ := sound_ring HS.out hxr
        have hlx : x.length = nr := (Reads.of_own hring).lenPt
        have kI := Lib.hid (inR_any x q Ar nr cr wr (Reads.of_own hring) (by omega))
        obtain ⟨r1, r2, -, -, -⟩ := PtK.facts HW.out.pt
        have HX := Lib.hid (And.intro hx (And.intro hgx (And.intro hx128 hlx)))
        have HRG := Lib.hid hring
        clear hring hxr hgx hx128 hx3 hlx hx q1 q2 q3
        go_wp2_with fail
        refine kI.out.mono ?_
        rintro e w7 ⟨rfl, hb7⟩
        have H7 := Lib.hid (HW.out.on hb7)
        have hrg7 := own_below HRG.out hb7
        clear hb7 kI r1 r2 HRG HW
        by_cases hin : q ∈ x
        · obtain ⟨j, hjl, hix, hjq, -⟩ := idx_lt hin
          obtain ⟨-, hcg, hcf⟩ := clr_at hix
          rw [hix]
          have hge : 0 ≤ (j : Int) := by omega
          have hng : ¬ (j : Int) < 0 := by omega
          have hlx := HX.out.2.2.2
          have kC := cleared_any x Ar nr cr j w7 (Reads.of_own hrg7) (by omega) (by have := HX.out.2.2.1; omega) (own_cap hrg7).1 HX.out.2.1
          rw [hjq] at kC
          obtain ⟨e, he⟩ : ∃ e, e = (besD x j).norm := ⟨_, rfl⟩
          obtain ⟨ok, hok⟩ : ∃ b, b = onB (besD x j).a (besD x j).b q := ⟨_, rfl⟩
          rw [← he, ← hok, ← hcg] at kC
          obtain ⟨N8, hN8⟩ : ∃ N8, N8 = nr - 1 := ⟨_, rfl⟩
          rw [← hN8] at kC
          unfold edC at kC
          rw [← he] at hcf
          rw [← onB_norm, ← he] at hok
          have KC := Lib.hid kC
          have HY := Lib.hid (And.intro hcg (And.intro hcf hok))
          clear hin hix hjq hcg hcf hok kC he hrg7 hlx hjl hN8
          go_wp2_with fail
          refine KC.out.mono ?_
          rintro r w8 ⟨A8, c8, rfl, ho8, hb8⟩
          clear KC
          obtain ⟨w9, hw9⟩ : ∃ w9 : World, w9 = w8.alloc (.cells #[.int .i64 e.a.x, .int .i64 e.a.y, .int .i64 e.b.x, .int .i64 e.b.y] 45) := ⟨_, rfl⟩
          have hb9 : Below w8.heap.size w8 w9 := by rw [hw9]; exact (Below.refl _ _).alloc (Nat.le_refl _) _
          have hEb : Blk w9 w8.heap.size 45 #[.int .i64 e.a.x, .int .i64 e.a.y, .int .i64 e.b.x, .int .i64 e.b.y] := by rw [hw9]; exact Blk.new _ _ _
          obtain ⟨Be, hBe⟩ : ∃ Be, Be = w8.heap.size := ⟨_, rfl⟩
          rw [← hBe] at hEb
          have H9 := Lib.hid ((H7.out.on hb8).on hb9)
          have hbl : ∀ g, (Value.slice As ns cs).ownBlock = some g → g ≠ Be := fun g hg => by have h1 := (H7.out.seen.lt g hg).2; have h2 := hb8.size; omega
          have ho9 := own_below (own_mono ho8 H7.out.b5) hb9
          have HO9 := Lib.hid (And.intro ho9 (And.intro hEb hbl))
          clear ho8 hb8 hb9 hEb ho9 H7 hbl
          go_upto_region 18 with fail
          rw [← hw9, ← hBe]
          clear hw9 hBe
          have hel := seenM_len (p := p) (fun xs => clrF_len q xs) m
          have HA := Lib.hid (seen_app2 (e := e) H9.out.seen H9.out.b5 (by omega))
          have e0 := Blk.cell HO9.out.2.1 0
          have e1 := Blk.cell HO9.out.2.1 1
          have e2 := Blk.cell HO9.out.2.1 2
          have e3 := Blk.cell HO9.out.2.1 3
          simp only [List.getElem?_toArray, List.getElem?_cons_zero, List.getElem?_cons_succ] at e0 e1 e2 e3
          clear hel
          go_upto_region 19 with (at_builtin; refine wpList_append_any _ rfl (.tmp 59) (.tmp 61) _ rfl B5 45 i0 _ 4 32 Tryz.underlying46 hi0 hz0 hz1 hz2 rfl (Nat.zero_lt_succ _) (.slice As ns cs) ns _ rfl HA.out.1 _ (some ⟨w9.heap.size, 0, none⟩) 1 1 (edsV [e]) rfl HA.out.2.1 (edsV_one _) HA.out.2.2.1 HA.out.2.2.2.1 HA.out.2.2.2.2 ?_; intro v2 w10 hown2 hg2 hat2)
          clear e0 e1 e2 e3
          have hba : Below w9.heap.size w9 (w9.alloc (.cells #[.int .i64 e.a.x, .int .i64 e.a.y, .int .i64 e.b.x, .int .i64 e.b.y] 45)) := (Below.refl _ _).alloc (Nat.le_refl _) _
          have h9a := H9.out.on hba
          rw [← edsV_append] at hown2
          obtain ⟨As2, c2s, rfl⟩ := own_form hown2
          have hEa : Blk (w9.alloc (.cells #[.int .i64 e.a.x, .int .i64 e.a.y, .int .i64 e.b.x, .int .i64 e.b.y] 45)) Be 45 #[.int .i64 e.a.x, .int .i64 e.a.y, .int .i64 e.b.x, .int .i64 e.b.y] := Blk.alloc HO9.out.2.1 _
          have hE10 : Blk w10 Be 45 #[.int .i64 e.a.x, .int .i64 e.a.y, .int .i64 e.b.x, .int .i64 e.b.y] := Blk.grown hEa hg2 (fun e' => HO9.out.2.2 Be e'.symm rfl)
          have hoa := own_below HO9.out.1 hba
          have ho10 := own_heap hoa fun g hg => hg2.block g (hoa.lt g hg).2 (fun e' => own_own_ne hoa h9a.seen (by decide) hg e'.symm)
          obtain ⟨ad2, e', hadb, -⟩ := (Reads.of_own hown2).2 (by omega)
          subst e'
          obtain ⟨_, e1, -, p1, p2, p3, p4⟩ := (Reads.of_own hown2).edA (show 0 < ns + 1 by omega)
          cases e1
          obtain ⟨f, hf⟩ : ∃ f, f = edAt (seenM (clrF q) p m ++ [e]) 0 := ⟨_, rfl⟩
          rw [← hf] at p1 p2 p3 p4
          rw [Nat.zero_mul, addr_zero] at p1 p2 p3 p4
          have hP0 : w10.drew.cell? ⟨Be, 0, none⟩ = some (.int .i64 e.a.x) ∧ w10.drew.cell? ⟨Be, 1, none⟩ = some (.int .i64 e.a.y) ∧ w10.drew.cell? ⟨Be, 2, none⟩ = some (.int .i64 e.b.x) ∧ w10.drew.cell? ⟨Be, 3, none⟩ = some (.int .i64 e.b.y) ∧ w10.drew.cell? ad2 = some (.int .i64 f.a.x) ∧ w10.drew.cell? ⟨ad2.block, ad2.off + 1, none⟩ = some (.int .i64 f.a.y) ∧ w10.drew.cell? ⟨ad2.block, ad2.off + 2, none⟩ = some (.int .i64 f.b.x) ∧ w10.drew.cell? ⟨ad2.block, ad2.off + 3, none⟩ = some (.int .i64 f.b.y) := by
            have g1 := Blk.cell hE10 0
            have g2 := Blk.cell hE10 1
            have g3 := Blk.cell hE10 2
            have g4 := Blk.cell hE10 3
            exact ⟨g1, g2, g3, g4, p1, p2, p3, p4⟩
          have hdr : Below w10.heap.size w10 w10.drew := (Below.refl _ _).drew
          have hR10 := (h9a.app hown2 hg2).on hdr
          have HR := Lib.hid (And.intro hR10.bel hR10.res)
          have H10 := Lib.hid (And.intro hR10 (own_below ho10 hdr))
          have HF := Lib.hid hf
          have hns1 : (0 : Int) < ((ns + 1 : Nat) : Int) := by omega
          have hns0 : 0 < ns + 1 := by omega
          clear hown2 hg2 hat2 hba h9a hEa hE10 hoa ho10 hadb p1 p2 p3 p4 hdr hR10 hf HA H9 HO9
          have hbad : ¬ (onB e.a e.b q = true ∧ edAt (seenM (clrF q) p m ++ [e]) 0 = e) → clearE p q = 7 := fun hb => by
            rw [HE.out, if_neg (seen_bad HZ.out.2 rfl (by rw [← HX.out.1]; exact HY.out.2.1) hb)]
          have HBD := Lib.hid hbad
          clear hbad
          rcases ok with _ | _
          · have HM := Lib.hid (HBD.out (fun h => by rw [← HY.out.2.2] at h; cases h.1))
            clear HE HBD
            refine wp_region_held_drew (S := fun V => V.cell? ⟨Be, 0, none⟩ = some (.int .i64 e.a.x) ∧ V.cell? ⟨Be, 1, none⟩ = some (.int .i64 e.a.y) ∧ V.cell? ⟨Be, 2, none⟩ = some (.int .i64 e.b.x) ∧ V.cell? ⟨Be, 3, none⟩ = some (.int .i64 e.b.y) ∧ V.cell? ad2 = some (.int .i64 f.a.x) ∧ V.cell? ⟨ad2.block, ad2.off + 1, none⟩ = some (.int .i64 f.a.y) ∧ V.cell? ⟨ad2.block, ad2.off + 2, none⟩ = some (.int .i64 f.b.x) ∧ V.cell? ⟨ad2.block, ad2.off + 3, none⟩ = some (.int .i64 f.b.y)) (by kernel_rfl) ?_ (fun hHeld => ?_)
            · exact hP0
            refine tk 0 ?_
            refine tk 1 ?_
            refine tk 2 ?_
            refine tu 3 ?_
            refine tu 4 ?_
            refine tu 5 ?_
            refine tu 6 ?_
            refine tu 7 ?_
            refine tk 8 ?_
            refine wpAnyH_done (by kernel_rfl) ?_ _
            obtain ⟨w11, hw11⟩ : ∃ V, V = w10.drew := ⟨_, rfl⟩
            rw [← hw11] at HR H10 ⊢
            clear hP0 hHeld hw11
            obtain ⟨V, hV, r1, r2, hbV⟩ := res_store (g := w.heap.size + 1 + 1) HR.out.1 (by omega) HR.out.2 (.slice none 0 0) (.slice none 0 0)
            obtain ⟨s1, s2, f1, f2⟩ := plk_facts4 HR.out.2
            have HV := Lib.hid hV
            have HR := Lib.hid (And.intro r1 (And.intro r2 hbV))
            clear hV r1 r2 hbV
            go_wp2_with fail
            rw [← HV.out]
            obtain ⟨r1, r2, hbV⟩ := HR.out
            refine bodyPost_ret (v := .tuple #[planV none 0 0 none 0 0, .int .i64 7]) ?_ rfl (by rw [HM.out]; exact resPostS_no (clearP_no HM.out (by decide)) hbV)
            simp [results, Tryz.results49, go_sem, r1, r2]
          · have hnr := neqEd_runs f e
            unfold encE at hnr
            refine wp_region_held_drew (S := fun V => V.cell? ⟨Be, 0, none⟩ = some (.int .i64 e.a.x) ∧ V.cell? ⟨Be, 1, none⟩ = some (.int .i64 e.a.y) ∧ V.cell? ⟨Be, 2, none⟩ = some (.int .i64 e.b.x) ∧ V.cell? ⟨Be, 3, none⟩ = some (.int .i64 e.b.y) ∧ V.cell? ad2 = some (.int .i64 f.a.x) ∧ V.cell? ⟨ad2.block, ad2.off + 1, none⟩ = some (.int .i64 f.a.y) ∧ V.cell? ⟨ad2.block, ad2.off + 2, none⟩ = some (.int .i64 f.b.x) ∧ V.cell? ⟨ad2.block, ad2.off + 3, none⟩ = some (.int .i64 f.b.y)) (by kernel_rfl) ?_ (fun hHeld => ?_)
            · exact hP0
            refine tk 0 ?_
            refine tk 1 ?_
            refine tk 2 ?_
            refine tk 3 ?_
            refine tk 4 ?_
            refine tk 5 ?_
            refine tk 6 ?_
            refine tk 7 ?_
            refine tk 8 ?_
            refine wpAnyH_done (by kernel_rfl) ?_ _
            obtain ⟨w11, hw11⟩ : ∃ V, V = w10.drew := ⟨_, rfl⟩
            rw [← hw11] at HR H10 ⊢
            clear hP0 hHeld hnr hw11
            by_cases hef : f = e
            case neg =>
              rw [decide_eq_false hef]
              have HM := Lib.hid (HBD.out (fun h => hef (HF.out.trans h.2)))
              clear HE HBD hef
              obtain ⟨V, hV, r1, r2, hbV⟩ := res_store (g := w.heap.size + 1 + 1) HR.out.1 (by omega) HR.out.2 (.slice none 0 0) (.slice none 0 0)
              obtain ⟨s1, s2, f1, f2⟩ := plk_facts4 HR.out.2
              have HV := Lib.hid hV
              have HR := Lib.hid (And.intro r1 (And.intro r2 hbV))
              clear hV r1 r2 hbV
              go_wp2_with fail
              rw [← HV.out]
              obtain ⟨r1, r2, hbV⟩ := HR.out
              refine bodyPost_ret (v := .tuple #[planV none 0 0 none 0 0, .int .i64 7]) ?_ rfl (by rw [HM.out]; exact resPostS_no (clearP_no HM.out (by decide)) hbV)
              simp [results, Tryz.results49, go_sem, r1, r2]
            case pos =>
              rw [decide_eq_true hef]
              have hnx : seenM (clrF q) p (m + 1) = seenM (clrF q) p m ++ [e] := by rw [seenM_succ HZ.out.2, ← HX.out.1, HY.out.2.1]
              have hall : ∀ j, j < (seenM (clrF q) p (m + 1)).length → okE q (seenM (clrF q) p (m + 1)) j := by
                rw [hnx]
                exact okE_snoc HDN.out HY.out.2.2.symm (HF.out.symm.trans hef)
              have HNX := Lib.hid (And.intro hnx hall)
              clear hnx hall hef HBD HDN HF HY hz
              rcases m with _ | k
              · have hneg : ¬ 0 ≤ z := by have := HZ.out.1; omega
                have hst := RC.setOut H10.out.1 (by have := H10.out.2; rw [HX.out.1] at this; exact this) (HLF.out 1 (by omega))
                obtain ⟨q1, q2, q3⟩ := H10.out.1.box.facts
                have f1 := Blk.frozen H10.out.1.box 0
                rw [← HNX.out.1] at hst
                obtain ⟨V, hV⟩ : ∃ V, V = w11.setCell ⟨Bq, 0, none⟩ (.slice A8 N8 c8) := ⟨_, rfl⟩
                rw [← hV] at hst
                have HST := Lib.hid hst
                have hV2 := hV.symm
                clear hst hV
                go_wp2_with fail
                go_roundw
                case rel => exact ⟨1, 0, A8, N8, c8, hs, some ad2, ns + 1, c2s, by omega, by have := HZ.out.1; omega, rfl, rfl, HNX.out.2, HST⟩
                case measure => simp [intOf]; omega
              · have hge2 : 0 ≤ z := by have := HZ.out.1; omega
                obtain rfl : z = (k : Int) := by have := HZ.out.1; omega
                have hk2 : k < n2 := by omega
                have hk3 : (k : Int) < (n2 : Int) := by omega
                obtain ⟨ad, rfl, hbd, hbB, p2⟩ := H10.out.1.own.headC hk2
                have hst := RC.setPar H10.out.1 (by have := HN.out; omega) HN.out (by have := H10.out.2; rw [HX.out.1] at this; exact this) (HLF.out (k + 2) (by have := HN.out; omega))
                obtain ⟨q1, q2, q3⟩ := H10.out.1.box.facts
                have f1 := PlanOwn.frz H10.out.1.own hk2
                rw [← HNX.out.1] at hst
                obtain ⟨V, hV⟩ : ∃ V, V = w11.setCell ⟨(ad.add (k * 3)).block, (ad.add (k * 3)).off + 1, none⟩ (.slice A8 N8 c8) := ⟨_, rfl⟩
                rw [← hV] at hst
                have HST := Lib.hid hst
                have hV2 := hV.symm
                clear hst hV
                go_wp2_with fail
                go_roundw
                case rel => exact ⟨k + 2, (k : Int) + 1, Ao, no, co, hs.set k (A8, N8, c8), some ad2, ns + 1, c2s, by omega, by omega, rfl, rfl, HNX.out.2, HST⟩
                case measure => simp [intOf]; omega
        · have hix : idxPt x q = -1 := by unfold idxPt; rw [if_neg hin]
          rw [hix]
          obtain ⟨hcg, hcf⟩ := clr_out hin
          have hnx : seenM (clrF q) p (m + 1) = seenM (clrF q) p m := by rw [seenM_succ hml, ← HX.out.1, hcf, List.append_nil]
          have hct : clrTo (clrG q) p (m + 1) = clrTo (clrG q) p m := clrTo_same hml (by rw [← HX.out.1]; exact hcg)
          have hnew : RC w Bq B5 p q A2 n2 c2 (m + 1) (seenM (clrF q) p (m + 1)) w7 Ao no co hs As ns cs := by
            have h := H7.out
            rw [hnx]
            exact ⟨h.bel, h.res, h.pt, h.box, by rw [hct]; exact h.own, h.seen, h.base, h.qbase, h.b5⟩
          have hall : ∀ j, j < (seenM (clrF q) p (m + 1)).length → okE q (seenM (clrF q) p (m + 1)) j := by
            rw [hnx]
            exact HDN.out
          have HST := Lib.hid (And.intro hnew hall)
          clear hnx hct hnew hall hcg hcf hin hix hrg7
          go_wp2_with fail
          go_roundw
          case rel => exact ⟨m + 1, (m : Int), Ao, no, co, hs, As, ns, cs, by omega, by omega, rfl, rfl, HST.out.2, HST.out.1⟩
          case measure => simp [intOf]; omega
    · obtain rfl : m = n2 + 1 := by omega
      have hnlt : ¬ z < (n2 : Int) := by omega
      have hso : seenOK q (seenK (clrF q) p p.parcels.length) := by
        have h : seenM (clrF q) p (n2 + 1) = seenK (clrF q) p p.parcels.length := by rw [HN.out]; rfl
        rw [h] at hdone
        exact hdone
      rw [if_pos hso] at HE
      have hpo := HW.out.own
      have hall : clrTo (clrG q) p (n2 + 1) = mapG (clrG q) p := by rw [← HN.out]; exact mapTo_all
      rw [hall] at hpo
      have kD := refDone_any (mapG (clrG q) p) Ao A2 no co n2 c2 wr hpo.at_ (by omega) (fun xs hx => by
        rcases hx with rfl | ⟨y, hy, rfl⟩
        · have := (clr_ok HS.out (q := q) p.outer (.inl rfl)).1; show (clrG q p.outer).length ≤ _; omega
        · obtain ⟨z, hz, rfl⟩ := List.mem_map.1 hy
          have := (clr_ok HS.out (q := q) z.ring (.inr ⟨z, hz, rfl⟩)).1; show (clrG q z.ring).length ≤ _; omega)
      rw [each_map] at kD
      obtain ⟨P, hP⟩ : ∃ P, P = eachP (clrG q) p := ⟨_, rfl⟩
      rw [← hP] at kD HE
      have hmz : clearE p q = doneE P ∧ clearP p q = doneP P := by
        have h1 : clearE p q = doneE P := by rw [HE.out]; rfl
        refine ⟨h1, ?_⟩
        unfold clearP doneP
        rw [h1, ← hP]
        unfold doneE
        rcases planB P with _ | _
        · rfl
        · rfl
      have HM := Lib.hid hmz
      have KD := Lib.hid kD
      have HZW : Hid (w.heap.size ≤ wr.heap.size) := HW.out.bel.size
      clear hall hpo kD hP hmz HE hso hdone
      go_wp2_with fail
      refine KD.out.mono ?_
      rintro e w7 ⟨A3, n3, c3, A4, n4, c4, hs7, rfl, hpo7, hb7⟩
      have hR7 := HW.out.res.on hb7
      obtain ⟨V, hV, r1, r2, hbV⟩ := res_store (g := w.heap.size + 1 + 1) (below_on HW.out.bel (Nat.le_refl _) hb7) (by omega) hR7 (.slice A3 n3 c3) (.slice A4 n4 c4)
      obtain ⟨s1, s2, f1, f2⟩ := plk_facts4 hR7
      have hpo := ((hpo7.mono HZW.out).store hR7 (by decide) (by decide) 0 (.slice A3 n3 c3)).store (Blk.set_ hR7 0 (.slice A3 n3 c3)) (by decide) (by decide) 1 (.slice A4 n4 c4)
      rw [← hV] at hpo
      have HV := Lib.hid hV
      have HR := Lib.hid (And.intro r1 (And.intro r2 (And.intro hbV hpo)))
      clear hV r1 r2 hbV hpo hpo7 hb7 hR7 HW KD q1 q2 q3
      go_wp2_with fail
      rw [← HV.out]
      obtain ⟨r1, r2, hbV, hpo⟩ := HR.out
      refine bodyPost_ret (v := .tuple #[planV A3 n3 c3 A4 n4 c4, .int .i64 (doneE P)]) ?_ rfl ⟨A3, n3, c3, A4, n4, c4, hs7, by rw [HM.out.1], by rw [HM.out.2]; exact hpo, hbV⟩
      simp [results, Tryz.results49, go_sem, r1, r2]
end Go.Proofs.YtglnklfhgdjccaaGreat
