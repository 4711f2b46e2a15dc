/- ref05.Own once more: no two of its rings share a block; a point stored into a ring of such a plan. -/
import Derived.Test.YtglnklfhgdjccaaGreatBendMove
namespace Go.Proofs.YtglnklfhgdjccaaGreat
open Go.RowKit Go.Lib
def DistH (Ao : Option Addr) (hs : List Hd) : Prop := (∀ j, j < hs.length → ∀ a b : Addr, Ao = some a → (hdAt hs j).1 = some b → a.block ≠ b.block) ∧ ∀ i j, i < hs.length → j < hs.length → i ≠ j → ∀ a b : Addr, (hdAt hs i).1 = some a → (hdAt hs j).1 = some b → a.block ≠ b.block
theorem DistH.nil (Ao : Option Addr) : DistH Ao [] := ⟨fun _ hj => absurd hj (Nat.not_lt_zero _), fun _ _ hi => absurd hi (Nat.not_lt_zero _)⟩
theorem DistH.next {Ao A3 : Option Addr} {hs : List Hd} {nk c3 N : Nat} (h : DistH Ao hs) (hlt : (∀ a : Addr, Ao = some a → a.block < N) ∧ ∀ j, j < hs.length → ∀ b : Addr, (hdAt hs j).1 = some b → b.block < N) (hnew : ∀ a : Addr, A3 = some a → N ≤ a.block) : DistH Ao (hs ++ [(A3, nk, c3)]) := by
  have hcase : ∀ j, j < (hs ++ [(A3, nk, c3)]).length → (j < hs.length ∧ hdAt (hs ++ [(A3, nk, c3)]) j = hdAt hs j) ∨ (j = hs.length ∧ hdAt (hs ++ [(A3, nk, c3)]) j = (A3, nk, c3)) := fun j hj => by
    rw [List.length_append, List.length_singleton] at hj
    by_cases e : j = hs.length
    · exact .inr ⟨e, by rw [e]; exact hdAt_snoc_eq⟩
    · exact .inl ⟨by omega, hdAt_snoc_lt (by omega)⟩
  refine ⟨fun j hj a b ha hb => ?_, fun i j hi hj hij a b ha hb => ?_⟩
  · rcases hcase j hj with ⟨h1, h2⟩ | ⟨h1, h2⟩
    · rw [h2] at hb; exact h.1 j h1 a b ha hb
    · rw [h2] at hb
      have := hlt.1 a ha
      have := hnew b hb
      omega
  · rcases hcase i hi with ⟨h1, h2⟩ | ⟨h1, h2⟩ <;> rcases hcase j hj with ⟨h3, h4⟩ | ⟨h3, h4⟩
    · rw [h2] at ha; rw [h4] at hb; exact h.2 i j h1 h3 hij a b ha hb
    · rw [h2] at ha; rw [h4] at hb
      have := hlt.2 i h1 a ha
      have := hnew b hb
      omega
    · rw [h2] at ha; rw [h4] at hb
      have := hlt.2 j h3 b hb
      have := hnew a ha
      omega
    · omega
theorem OwnF.lts {w W : World} {Bq : Nat} {p : Plan} {A A' Ao Ap : Option Addr} {n c n' c' k co cp : Nat} {hs : List Hd} (h : OwnF w W Bq p A n c A' n' c' k Ao co Ap cp hs) : (∀ a : Addr, Ao = some a → a.block < W.heap.size) ∧ ∀ j, j < hs.length → ∀ b : Addr, (hdAt hs j).1 = some b → b.block < W.heap.size :=
  ⟨fun a ha => (h.out.lt a.block (by rw [ha]; rfl)).2, fun j hj b hb => ((h.rings j (by rw [h.len] at hj; exact hj)).lt b.block (by rw [hb]; rfl)).2⟩
def OwnPostD (p : Plan) (w : World) (e : Ending) (w' : World) : Prop := ∃ A n c A' n' c' hs, e = .returned (planV A n c A' n' c') ∧ PlanOwn w.heap.size w' A n c A' n' c' p hs ∧ DistH A hs ∧ Below w.heap.size w w'
theorem PlanOwn.setPoint {B n c n' c' k j m cr : Nat} {W : World} {A A' : Option Addr} {rd : Addr} {p : Plan} {hs : List Hd} (h : PlanOwn B W A n c A' n' c' p hs) (hd : DistH A hs) (hk : k < n') (hh : hdAt hs k = (some rd, m, cr)) (hj : j < m) (t : Pt) (hf : (setR p k ((pcAt p.parcels k).ring.set j t)).fits) :
    PlanOwn B ((W.setCell (rd.add (j * 2)) (.int .i64 t.x)).setCell ⟨(rd.add (j * 2)).block, (rd.add (j * 2)).off + 1, none⟩ (.int .i64 t.y)) A n c A' n' c' (setR p k ((pcAt p.parcels k).ring.set j t)) hs := by
  have hr := h.rings k hk
  rw [hh] at hr
  simp only at hr
  obtain ⟨hown, -, -, hB, hlt, -, -⟩ := own_put_pt hr hj t
  have hkeep : ∀ {e : TypeId} {s l : Nat} {v : Value} {xs : List Value}, v.ownBlock ≠ some rd.block → W.ownsRow B e s v l xs → ((W.setCell (rd.add (j * 2)) (.int .i64 t.x)).setCell ⟨(rd.add (j * 2)).block, (rd.add (j * 2)).off + 1, none⟩ (.int .i64 t.y)).ownsRow B e s v l xs := fun {e s l v xs} hne ho =>
    ownsRow_setCell_other (ownsRow_setCell_other ho (by rw [block_of_add]; exact hne) _) (by simp only [block_of_add]; exact hne) _
  have hkl : k < p.parcels.length := by rw [h.lenp]; exact hk
  refine ⟨hkeep ?_ h.out, ?_, h.len, by show (List.set _ _ _).length = _; rw [List.length_set]; exact h.lenp, fun i hi => ?_, hf⟩
  · rcases A with _ | a
    · simp [Value.ownBlock]
    · have := hd.1 k (by rw [h.len]; exact hk) a rd rfl (by rw [hh])
      simp [Value.ownBlock]
      exact this
  · show World.ownsRow _ _ _ _ _ _ (rowPV (p.parcels.set k _) hs)
    have e1 : hs = hs.set k (hdAt hs k) := by
      refine List.ext_getElem? fun i => ?_
      rw [List.getElem?_set]
      by_cases e : k = i
      · rw [if_pos e, if_pos (by rw [h.len]; exact hk)]
        subst e
        unfold hdAt
        rw [List.getElem?_eq_getElem (by rw [h.len]; exact hk)]
        rfl
      · rw [if_neg e]
    have e2 := rowPV_set (ps := p.parcels) (hs := hs) (by rw [h.len, h.lenp]) hkl ((pcAt p.parcels k).ring.set j t) (hdAt hs k)
    rw [← e1] at e2
    have e3 : (rowPV p.parcels hs).set (k * 3 + 1) (.slice (hdAt hs k).1 (hdAt hs k).2.1 (hdAt hs k).2.2) = rowPV p.parcels hs := by
      refine List.ext_getElem? fun i => ?_
      rw [List.getElem?_set]
      by_cases e : k * 3 + 1 = i
      · have h2 := (rowPV_at (ps := p.parcels) (hs := hs) (by rw [h.len, h.lenp]) (k := k) hkl).2.1
        rw [if_pos e, ← e, h2, if_pos (List.getElem?_eq_some_iff.1 h2).1]
      · rw [if_neg e]
    rw [e2, e3]
    exact hkeep (fun e => own_own_ne hr h.row (by decide) (g := rd.block) rfl e) h.row
  · show World.ownsRow _ _ _ _ _ _ (ptsV (pcAt (p.parcels.set k _) i).ring)
    rw [pcAt_set hkl]
    by_cases e' : i = k
    · rw [if_pos e', e', hh]
      exact hown
    · rw [if_neg e']
      refine hkeep ?_ (h.rings i hi)
      rcases hb : (hdAt hs i).1 with _ | b
      · simp [Value.ownBlock]
      · have := hd.2 i k (by rw [h.len]; exact hi) (by rw [h.len]; exact hk) e' b rd hb (by rw [hh])
        simp [Value.ownBlock]
        exact this
set_option maxRecDepth 100000 in
set_option maxHeartbeats 3200000 in
theorem ownPlD_any (p : Plan) (A A' : Option Addr) (n c n' c' : Nat) (w : World) (h : PlanAt w w.heap.size A n c A' n' c' p) (hsm : n' ≤ 1048576) :
    Calls Tryz.prog 18 #[planV A n c A' n' c'] w (OwnPostD p w) := by
  obtain ⟨hl1, hl2, hl3, hl4⟩ := h.lens
  obtain ⟨i0, hi0, hz0, hz1, hz2⟩ := info_parts info_point
  obtain ⟨i1, hi1, hy0, hy1, hy2⟩ := info_parts info_pc
  obtain ⟨wa, hwa⟩ : ∃ wa : World, wa = (w.alloc (.cells #[.slice A n c, .slice A' n' c'] 26)).alloc (.cells #[.slice none 0 0, .slice none 0 0] 26) := ⟨_, rfl⟩
  have hsa : wa.heap.size = w.heap.size + 1 + 1 := by rw [hwa]; simp
  have hB0 : Below w.heap.size w wa := by rw [hwa]; exact ((Below.refl _ _).alloc (Nat.le_refl _) _).alloc (by simp) _
  have hK0 : PlK wa w.heap.size A n c A' n' c' := by rw [hwa]; exact Blk.alloc (PlK.new w A n c A' n' c') _
  have hR0 : PlK wa (w.heap.size + 1) none 0 0 none 0 0 := by
    rw [hwa]
    have := PlK.new (w.alloc (.cells #[.slice A n c, .slice A' n' c'] 26)) none 0 0 none 0 0
    rw [World.size_alloc] at this
    exact this
  have hown0 : (wa.alloc (.cells #[] 43)).ownsRow (w.heap.size + 1 + 1) 43 2 (.slice (some ⟨w.heap.size + 1 + 1, 0, none⟩) 0 0) 0 [] := by
    have := World.ownsRow_made (base := w.heap.size + 1 + 1) (e := 43) (size := 2) wa #[] 0 (by omega) (by simp [maxLen]) rfl
    rw [hsa] at this
    exact this
  have hBa : Below wa.heap.size wa (wa.alloc (.cells #[] 43)) := (Below.refl _ _).alloc (Nat.le_refl _) _
  have hrd := (h.on (below_on hB0 (Nat.le_refl _) hBa)).outer
  have q1 : (wa.alloc (.cells #[] 43)).cell? ⟨w.heap.size, 0, none⟩ = some (.slice A n c) := ((hK0.on hBa).facts).1
  have H0 := Lib.hid (And.intro hB0 (And.intro hK0 (And.intro hR0 (And.intro hBa (And.intro hown0 (And.intro hrd hsa))))))
  have HP := Lib.hid h
  have HL := Lib.hid hl2
  clear h hl1 hl2 hB0 hK0 hR0 hBa hown0 hrd hsa
  go_enter Tryz.func18, Tryz.ntmps18
  go_upto_region 1 with fail
  rw [← hwa]
  have HSA := Lib.hid (H0.out.2.2.2.2.2.2)
  have eqA : (⟨wa.heap.size, 0, none⟩ : Addr) = ⟨w.heap.size + 1 + 1, 0, none⟩ := by rw [HSA.out]
  clear hwa
  go_wp2_with (at_builtin; refine wpList_append_any _ rfl (.tmp 6) (.tmp 8) _ rfl (w.heap.size + 1 + 1) 43 i0 _ 2 16 Tryz.underlying23 hi0 hz0 hz1 hz2 rfl (by omega) (.slice (some ⟨w.heap.size + 1 + 1, 0, none⟩) 0 0) 0 [] (by first | rfl | (show Value.slice (some ⟨wa.heap.size, 0, none⟩) 0 0 = _; rw [HSA.out])) H0.out.2.2.2.2.1 _ A n c (ptsV p.outer) rfl H0.out.2.2.2.2.2.1 (ptsV_one _) (by simp only [maxLen]; omega) (by omega) (by rw [World.size_alloc, HSA.out]; omega) ?_
               intro v2 w2 hown2 hg2 hat2
               simp only [Nat.zero_add, List.nil_append] at hown2
               obtain ⟨Ao, co, rfl⟩ := own_form hown2)
  have hlt2 : wa.heap.size < w2.heap.size := by have := hg2.size; rw [World.size_alloc] at this; omega
  have hb2 : Below wa.heap.size wa w2 := H0.out.2.2.2.1.grown hg2 (by rw [World.size_alloc]; omega) (fun g e => by have := HSA.out; simp [Value.ownBlock] at e; omega)
  have hF0 : OwnF w (w2.alloc (.cells #[.slice Ao n co, .slice none 0 0] 26)) w2.heap.size p A n c A' n' c' 0 Ao co none 0 [] := by
    have hba : Below w2.heap.size w2 (w2.alloc (.cells #[.slice Ao n co, .slice none 0 0] 26)) := (Below.refl _ _).alloc (Nat.le_refl _) _
    have h1 := HSA.out
    exact ⟨below_on (below_on H0.out.1 (Nat.le_refl _) hb2) (Nat.le_refl _) hba, (H0.out.2.1.on hb2).on hba, (H0.out.2.2.1.on hb2).on hba, PlK.new w2 Ao n co none 0 0, by omega, own_below (own_mono hown2 (by omega)) hba, World.ownsRow_nil _ _ _ _, rfl, fun j hj => absurd hj (Nat.not_lt_zero _)⟩
  obtain ⟨Bq, hBq⟩ : ∃ Bq, Bq = w2.heap.size := ⟨_, rfl⟩
  have eqB : (⟨w2.heap.size, 0, none⟩ : Addr) = ⟨Bq, 0, none⟩ := by rw [hBq]
  rw [← hBq] at hF0
  have HF0 := Lib.hid hF0
  clear hF0 hlt2 hb2 hg2 hat2 hown2 q1 H0
  generalize w2.alloc (.cells #[.slice Ao n co, .slice none 0 0] 26) = wq at *
  rw [← hBq]
  clear hBq eqB eqA HSA
  go_loopw [4] (fun i wr => ∃ (k : Nat) (Ap : Option Addr) (cp : Nat) (hs : List Hd), k ≤ n' ∧ i = .int .i64 (k : Int) ∧ OwnF w wr Bq p A n c A' n' c' k Ao co Ap cp hs ∧ DistH Ao hs) (fun i _ => n' - (intOf i).toNat)
  case atStart => exact ⟨0, none, 0, [], Nat.zero_le _, rfl, HF0.out, DistH.nil _⟩
  case round =>
    clear HF0
    obtain ⟨k, Ap, cp, hs, hk, rfl, hF, hD⟩ := hrel
    have HDD := Lib.hid hD
    clear hD
    obtain ⟨-, q2, -⟩ := hF.pbox.facts
    by_cases hlt : k < n'
    · have hlt' : (k : Int) < (n' : Int) := by omega
      have hw1 : IntKind.i64.wrap ((k : Int) + 1) = (k : Int) + 1 := by rw [IntKind.wrap_i64]; omega
      obtain ⟨ad, rfl⟩ := HP.out.parcs.some_ (by omega)
      obtain ⟨had, p1, ⟨Ak, nk, ck, p2, hrk, hk1, hk2⟩, p3⟩ := (HP.out.parcs.below hF.bel).at_ hlt
      have hlk : k < p.parcels.length := by have := HL.out; omega
      have hfx := HP.out.fits.2.2 (pcAt p.parcels k) (by rw [pcAt_lt hlk]; exact List.getElem_mem _)
      have hnk : nk ≤ 8796093022208 := by have := hrk.lenPt; have := hfx.1; omega
      obtain ⟨x, hx⟩ : ∃ x, x = pcAt p.parcels k := ⟨_, rfl⟩
      rw [← hx] at p1 p3 hrk
      have hbb : Below wr.heap.size wr ((wr.alloc (.cells #[.int .i64 x.id, .slice Ak nk ck, .string x.owner] 40)).alloc (.cells #[] 43)) := ((Below.refl _ _).alloc (Nat.le_refl _) _).alloc (by simp) _
      have hrd := (hrk.more hF.bel.size).on hbb
      have hown0 : ((wr.alloc (.cells #[.int .i64 x.id, .slice Ak nk ck, .string x.owner] 40)).alloc (.cells #[] 43)).ownsRow (wr.heap.size + 1) 43 2 (.slice (some ⟨wr.heap.size + 1, 0, none⟩) 0 0) 0 [] := by
        have := World.ownsRow_made (base := wr.heap.size + 1) (e := 43) (size := 2) (wr.alloc (.cells #[.int .i64 x.id, .slice Ak nk ck, .string x.owner] 40)) #[] 0 (by simp) (by simp [maxLen]) rfl
        rw [World.size_alloc] at this
        exact this
      have hx0 := Blk.alloc (Blk.new wr 40 #[.int .i64 x.id, .slice Ak nk ck, .string x.owner]) (.cells #[] 43)
      have x1 : ((wr.alloc (.cells #[.int .i64 x.id, .slice Ak nk ck, .string x.owner] 40)).alloc (.cells #[] 43)).cell? ⟨wr.heap.size, 1, none⟩ = some (.slice Ak nk ck) := by rw [Blk.cell hx0]; rfl
      have HF := Lib.hid (And.intro hF (And.intro hrd (And.intro hown0 hx)))
      have HNK := Lib.hid hnk
      clear hrd hown0 hx hbb hF hrk hnk hfx hlk hx0
      go_wp2_with (first
        | (at_builtin
           refine wpList_append_any _ rfl (.tmp 23) (.tmp 25) _ rfl (wr.heap.size + 1) 43 i0 _ 2 16 Tryz.underlying23 hi0 hz0 hz1 hz2 rfl (by omega) (.slice (some ⟨wr.heap.size + 1, 0, none⟩) 0 0) 0 [] rfl HF.out.2.2.1 _ Ak nk ck (ptsV x.ring) rfl HF.out.2.1 (ptsV_one _) (by have := HNK.out; simp only [maxLen]; omega) (by have := HNK.out; omega) (by simp) ?_
           intro v3 w3 hown3 hg3 hat3
           simp only [Nat.zero_add, List.nil_append] at hown3
           obtain ⟨A3, c3, rfl⟩ := own_form hown3
           have HD3 := Lib.hid (own_base hown3)
           obtain ⟨z0, hF3, hx3, hr3⟩ := ownStepA HF.out.1 hg3 hown3
           have z1 : w3.cell? ⟨wr.heap.size, 1, none⟩ = some (.slice Ak nk ck) := (by rw [Blk.cell z0]; rfl)
           have z2 := Blk.frozen z0 1
           obtain ⟨V3, hV3⟩ : ∃ V, V = w3.setCell ⟨wr.heap.size, 1, none⟩ (.slice A3 nk c3) := ⟨_, rfl⟩
           rw [← hV3] at hF3 hx3 hr3
           have hV4 := hV3.symm
           have y1 : V3.cell? ⟨Bq, 1, none⟩ = some (.slice Ap k cp) := hF3.qbox.facts.2.1
           have y2 : V3.cell? ⟨wr.heap.size, 0, none⟩ = some (.int .i64 x.id) := (by rw [Blk.cell hx3]; rfl)
           have y3 : V3.cell? ⟨wr.heap.size, 1, none⟩ = some (.slice A3 nk c3) := (by rw [Blk.cell hx3]; rfl)
           have y4 : V3.cell? ⟨wr.heap.size, 2, none⟩ = some (.string x.owner) := (by rw [Blk.cell hx3]; rfl)
           have HF3 := Lib.hid (And.intro hF3 hr3)
           clear hF3 hr3 hx3 z0 hg3 hown3 hat3 hV3)
        | (at_builtin
           refine wpList_append_any _ rfl (.tmp 29) (.tmp 31) _ rfl w.heap.size 40 i1 _ 3 48 Tryz.underlying24 hi1 hy0 hy1 hy2 rfl (by omega) (.slice Ap k cp) k _ rfl (HF3.out.1.on (W' := V3.alloc (.cells #[.int .i64 x.id, .slice A3 nk c3, .string x.owner] 40)) ((Below.refl _ _).alloc (Nat.le_refl _) _)).row _ (some ⟨V3.heap.size, 0, none⟩) 1 1 (pcV x (A3, nk, c3)) rfl (Reads.made V3 #[.int .i64 x.id, .slice A3 nk c3, .string x.owner] 40 (0, 0) 3 1 (pcV x (A3, nk, c3)) rfl rfl) (by intro u hu; simp [pcV] at hu; rcases hu with rfl | rfl | rfl <;> rfl) (by simp only [maxLen]; omega) (by omega) (by have := HF3.out.1.bel.size; simp; omega) ?_
           intro v5 w5 hown5 hg5 hat5
           obtain ⟨Ap', cp', rfl⟩ := own_form hown5
           have hx := HF.out.2.2.2
           have hr3 := HF3.out.2
           rw [hx] at hown5 hg5 hr3
           have hba : Below V3.heap.size V3 (V3.alloc (.cells #[.int .i64 (pcAt p.parcels k).id, .slice A3 nk c3, .string (pcAt p.parcels k).owner] 40)) := (Below.refl _ _).alloc (Nat.le_refl _) _
           obtain ⟨zq, hF5⟩ := OwnF.next (HF3.out.1.on hba) (by have := HL.out; omega) (own_below hr3 hba) hown5 hg5
           have y5 : w5.cell? ⟨Bq, 1, none⟩ = some (.slice Ap k cp) := zq.facts.2.1
           have y6 := Blk.frozen zq 1
           have HF5 := Lib.hid hF5
           clear hx hr3 hba zq hF5 hown5 hg5 hat5))
      go_roundw
      case rel => exact ⟨k + 1, Ap', cp', hs ++ [(A3, nk, c3)], by omega, by go_num, HF5.out, DistH.next HDD.out HF.out.1.lts (fun a h => Nat.le_of_succ_le (HD3.out a h))⟩
      case measure => simp [intOf]; omega
    · have hkn : k = n' := by omega
      subst hkn
      obtain ⟨y1, y2, -⟩ := hF.qbox.facts
      obtain ⟨y3, y4, -⟩ := hF.rbox.facts
      have f1 := Blk.frozen hF.rbox 0
      have f2 := Blk.frozen hF.rbox 1
      have hpo := ((hF.own HL.out HP.out.fits).store hF.rbox (by decide) (by decide) 0 (.slice Ao n co)).store (Blk.set_ hF.rbox 0 (.slice Ao n co)) (by decide) (by decide) 1 (.slice Ap k cp)
      have hB5 := (hF.bel.setCell (p := ⟨w.heap.size + 1, 0, none⟩) (by simp) (.slice Ao n co)).setCell (p := ⟨w.heap.size + 1, 1, none⟩) (by simp) (.slice Ap k cp)
      have hR5 := Blk.set_ (Blk.set_ hF.rbox 0 (.slice Ao n co)) 1 (.slice Ap k cp)
      have HZ := Lib.hid (And.intro hpo (And.intro hB5 hR5))
      clear hpo hB5 hR5 hF
      go_wp2_with fail
      obtain ⟨hpo, hB5, hR5⟩ := HZ.out
      clear y1 y2 y3 y4 f1 f2 HZ q2
      generalize (wr.setCell ⟨w.heap.size + 1, 0, none⟩ (.slice Ao n co)).setCell ⟨w.heap.size + 1, 1, none⟩ (.slice Ap k cp) = V at *
      have r1 : V.cell? ⟨w.heap.size + 1, 0, none⟩ = some (.slice Ao n co) := by rw [Blk.cell hR5]; rfl
      have r2 : V.cell? ⟨w.heap.size + 1, 1, none⟩ = some (.slice Ap k cp) := by rw [Blk.cell hR5]; rfl
      refine bodyPost_ret (v := planV Ao n co Ap k cp) ?_ rfl ⟨Ao, n, co, Ap, k, cp, hs, rfl, hpo, HDD.out, hB5⟩
      simp [results, Tryz.results18, go_sem, r1, r2]
end Go.Proofs.YtglnklfhgdjccaaGreat
