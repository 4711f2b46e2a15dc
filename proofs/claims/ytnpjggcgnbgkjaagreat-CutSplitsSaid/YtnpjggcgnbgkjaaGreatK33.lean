/- What a cut does to a plan of the call's own: frames; A cut's two parts; no second cut by the same path: plain law. -/
import Derived.Test.YtnpjggcgnbgkjaaGreatK28
import Derived.Test.YtnpjggcgnbgkjaaGreatK30
import Derived.Test.YtnpjggcgnbgkjaaGreatK32
namespace Go.Proofs.YtnpjggcgnbgkjaaGreat
open Go.RowKit Go.Lib
theorem atP_each {g : List Pt → List Pt} {p : Plan} {id : Int} : atP (eachP g p).parcels id = atP p.parcels id := by
  unfold atP eachP
  simp only [List.any_map, List.findIdx_map]
  rfl
theorem atP_spB {p : Plan} {a b : Pt} {id : Int} : atP (spB p a b).parcels id = atP p.parcels id := by unfold spB; rw [atP_each, atP_each]
theorem PlanOwn.snoc {B n c n' c' m c3 cp' : Nat} {W W' : World} {A A' A3 Ap' : Option Addr} {p : Plan} {hs : List Hd} {x : Parc} (h : PlanOwn B W A n c A' n' c' p hs) (hnew : W.ownsRow B 35 2 (.slice A3 m c3) m (ptsV x.ring))
    (hown : W'.ownsRow B 37 3 (.slice Ap' (n' + 1) cp') (n' + 1) (rowPV p.parcels hs ++ pcV x (A3, m, c3))) (hg : W.grownBy W' (Value.slice A' n' c').ownBlock) (hf : (⟨p.outer, p.parcels ++ [x]⟩ : Plan).fits) :
    PlanOwn B W' A n c Ap' (n' + 1) cp' ⟨p.outer, p.parcels ++ [x]⟩ (hs ++ [(A3, m, c3)]) := by
  have hkeep : ∀ {v : Value} {j : Nat} {xs : List Value}, W.ownsRow B 35 2 v j xs → W'.ownsRow B 35 2 v j xs := fun {v j xs} ho => by
    refine own_heap ho fun i hi => hg.block i (ho.lt i hi).2 (fun e => ?_)
    exact own_own_ne h.row ho (by decide) (g := i) e.symm hi
  have hl := h.lenp
  have hl2 := h.len
  refine ⟨hkeep h.out, ?_, by simp [hl2], by simp [hl], fun j hj => ?_, hf⟩
  · show World.ownsRow _ _ _ _ _ _ (rowPV (p.parcels ++ [x]) _)
    rw [rowPV_snoc _ _ (by omega)]
    exact hown
  · by_cases hjn : j < n'
    · rw [hdAt_snoc_lt (by omega)]
      have e : pcAt (p.parcels ++ [x]) j = pcAt p.parcels j := by unfold pcAt; rw [List.getElem?_append_left (by omega)]
      show World.ownsRow _ _ _ _ _ _ (ptsV (pcAt (p.parcels ++ [x]) j).ring)
      rw [e]
      exact hkeep (h.rings j hjn)
    · obtain rfl : j = hs.length := by omega
      rw [hdAt_snoc_eq]
      have e : pcAt (p.parcels ++ [x]) hs.length = x := by unfold pcAt; rw [hl2, ← hl]; simp
      show World.ownsRow _ _ _ _ _ _ (ptsV (pcAt (p.parcels ++ [x]) hs.length).ring)
      rw [e]
      exact hkeep hnew
theorem fits_perm {o : List Pt} {ps qs : List Parc} (hp : qs.Perm ps) (h : (⟨o, ps⟩ : Plan).fits) : (⟨o, qs⟩ : Plan).fits := ⟨h.1, by show qs.length ≤ _; rw [hp.length_eq]; exact h.2.1, fun x hx => h.2.2 x (hp.mem_iff.1 hx)⟩
theorem PlanOwn.sorted {B n c n' cp g : Nat} {W W' : World} {A : Option Addr} {p : Plan} {hs : List Hd} {d : List PcH} (h : PlanOwn B W A n c (some ⟨g, 0, none⟩) n' cp p hs) (hd : d.Perm (p.parcels.zip hs))
    (hown : W'.ownsRow B 37 3 (.slice (some ⟨g, 0, none⟩) n' cp) n' (pchV d)) (hg : W.grownBy W' (some g)) : PlanOwn B W' A n c (some ⟨g, 0, none⟩) n' cp ⟨p.outer, d.map (·.1)⟩ (d.map (·.2)) := by
  have hkeep : ∀ {v : Value} {j : Nat} {xs : List Value}, W.ownsRow B 35 2 v j xs → W'.ownsRow B 35 2 v j xs := fun {v j xs} ho => by
    refine own_heap ho fun i hi => hg.block i (ho.lt i hi).2 (fun e => ?_)
    exact own_own_ne h.row ho (by decide) (g := i) e.symm hi
  have hl := h.lenp
  have hl2 := h.len
  have hdl : d.length = n' := by rw [hd.length_eq, List.length_zip, hl, hl2, Nat.min_self]
  have hmap : (d.map (·.1)).Perm p.parcels := by
    have := hd.map (·.1)
    rwa [List.map_fst_zip (by omega)] at this
  refine ⟨hkeep h.out, by rw [← pch_rowPV]; exact hown, by simp [hdl], by simp [hdl], fun j hj => ?_, fits_perm hmap h.fits⟩
  have hjd : j < d.length := by omega
  have hm : d[j] ∈ p.parcels.zip hs := hd.mem_iff.1 (List.getElem_mem hjd)
  obtain ⟨i, hi, he⟩ := List.getElem_of_mem hm
  rw [List.length_zip] at hi
  have hi1 : i < p.parcels.length := by omega
  have hi2 : i < hs.length := by omega
  rw [List.getElem_zip] at he
  have e1 : hdAt (d.map (·.2)) j = hdAt hs i := by
    unfold hdAt
    rw [List.getElem?_map, List.getElem?_eq_getElem hjd, List.getElem?_eq_getElem hi2, ← he]
    rfl
  have e2 : pcAt (d.map (·.1)) j = pcAt p.parcels i := by
    unfold pcAt
    rw [List.getElem?_map, List.getElem?_eq_getElem hjd, List.getElem?_eq_getElem hi1, ← he]
    rfl
  show World.ownsRow _ _ _ _ _ _ (ptsV (pcAt (d.map (·.1)) j).ring)
  rw [e1, e2]
  exact hkeep (h.rings i (by omega))
theorem PlanOwn.hdC {B n c n' c' k : Nat} {W : World} {A : Option Addr} {ad : Addr} {p : Plan} {hs : List Hd} (h : PlanOwn B W A n c (some ad) n' c' p hs) (hk : k < n') : W.cell? ⟨(ad.add (k * 3)).block, (ad.add (k * 3)).off + 1, none⟩ = some (.slice (hdAt hs k).1 (hdAt hs k).2.1 (hdAt hs k).2.2) := by
  obtain ⟨ad', e, hb, hc⟩ := (Reads.of_own h.row).2 (by omega)
  cases e
  obtain ⟨-, g2, -⟩ := rowPV_at (hs := hs) (ps := p.parcels) (by rw [h.len, h.lenp]) (k := k) (by rw [h.lenp]; exact hk)
  rw [add_off3 _ _ _ (by omega)]
  exact hc _ _ g2
theorem PlanOwn.frzC {B n c n' c' k : Nat} {W : World} {A : Option Addr} {ad : Addr} {p : Plan} {hs : List Hd} (h : PlanOwn B W A n c (some ad) n' c' p hs) (hk : k < n') : W.frozen? ⟨(ad.add (k * 3)).block, (ad.add (k * 3)).off + 1, none⟩ = false := by
  obtain ⟨g, cap, e, hb, hlt⟩ := h.row.form (by omega)
  have e1 : ad = ⟨g, 0, none⟩ := by cases e; rfl
  have e2 : cap = c' := by cases e; rfl
  subst e1 e2
  have hadr : (⟨((⟨g, 0, none⟩ : Addr).add (k * 3)).block, ((⟨g, 0, none⟩ : Addr).add (k * 3)).off + 1, none⟩ : Addr) = ⟨g, k * 3 + 1, none⟩ := by rw [add_off3 _ _ _ (by omega)]; simp [Addr.add]
  rw [hadr]
  exact h.row.frozenAt _
/-- A box with a plan of the call's own. -/
def QBox (B : Nat) (W V : World) (q : Plan) (x : Value) : Prop := ∃ (Bq : Nat) (A1 : Option Addr) (n1 c1 : Nat) (A2 : Option Addr) (n2 c2 : Nat) (hs : List Hd), x = .pointer (some ⟨Bq, 0, none⟩) ∧ W.heap.size ≤ Bq ∧ PlK V Bq A1 n1 c1 A2 n2 c2 ∧ PlanOwn B V A1 n1 c1 A2 n2 c2 q hs ∧ Below W.heap.size W V
theorem qbox_1 {B n1 c1 n2 c2 : Nat} {W V : World} {A1 A2 : Option Addr} {q : Plan} {hs : List Hd} (hb : Below W.heap.size W V) (hpo : PlanOwn B V A1 n1 c1 A2 n2 c2 q hs) : QBox B W (V.alloc (.cells #[.slice A1 n1 c1, .slice A2 n2 c2] 26)) q (.pointer (some ⟨V.heap.size, 0, none⟩)) := by
  have hba : Below V.heap.size V (V.alloc (.cells #[.slice A1 n1 c1, .slice A2 n2 c2] 26)) := (Below.refl _ _).alloc (Nat.le_refl _) _
  exact ⟨_, A1, n1, c1, A2, n2, c2, hs, rfl, hb.size, PlK.new V A1 n1 c1 A2 n2 c2, hpo.below hba, below_on hb (Nat.le_refl _) hba⟩
theorem qbox_2 {B n1 c1 n2 c2 g : Nat} {W V : World} {A1 A2 : Option Addr} {q : Plan} {hs : List Hd} (hb : Below W.heap.size W V) (hg : W.heap.size ≤ g) (hk : PlK V g none 0 0 none 0 0) (hpo : PlanOwn B V A1 n1 c1 A2 n2 c2 q hs) : QBox B W ((V.setCell ⟨g, 0, none⟩ (.slice A1 n1 c1)).setCell ⟨g, 1, none⟩ (.slice A2 n2 c2)) q (.pointer (some ⟨g, 0, none⟩)) := by
  have hk2 := Blk.set_ (Blk.set_ hk 0 (.slice A1 n1 c1)) 1 (.slice A2 n2 c2)
  simp only [List.setIfInBounds_toArray, List.set_cons_zero, List.set_cons_succ] at hk2
  exact ⟨g, A1, n1, c1, A2, n2, c2, hs, rfl, hg, hk2, (hpo.store hk (by decide) (by decide) 0 _).store (Blk.set_ hk 0 _) (by decide) (by decide) 1 _, (hb.setCell (p := ⟨g, 0, none⟩) hg _).setCell (p := ⟨g, 1, none⟩) hg _⟩
theorem cutWayI_any (xs : List Pt) (f t : Pt) (A : Option Addr) (n c : Nat) (w : World) (hr : Reads w w.heap.size 2 A n (ptsV xs)) (hf : f ∈ xs) (ht : t ∈ xs) (hn : n ≤ 1048576) :
    Calls Tryz.prog 133 #[.slice A n c, .agg #[.int .i64 f.x, .int .i64 f.y], .agg #[.int .i64 t.x, .int .i64 t.y]] w fun e w' => ∃ A' c', e = .returned (.slice A' (wayI xs f t).length c') ∧ w'.ownsRow w.heap.size 35 2 (.slice A' (wayI xs f t).length c') (wayI xs f t).length (ptsV (wayI xs f t)) ∧ Below w.heap.size w w' := by
  have hl := hr.lenPt
  refine (cutWay_any xs f t A n c w hr hf ht hn).mono ?_
  rintro e w' ⟨A', c', i, K, rfl, hi, hin, hK, h1, h2, ho, hb⟩
  have e1 : wayI xs f t = wayL xs (i + 1) K := wayI_eq hi (by omega) (by rw [hl]; exact h1) (fun j hj => by rw [hl]; exact h2 j hj)
  rw [e1, wayL_len]
  exact ⟨A', c', rfl, ho, hb⟩
theorem setR_fits {p : Plan} {k : Nat} {ys : List Pt} (h : p.fits) (hk : k < p.parcels.length) (hl : ys.length ≤ 8796093022208) (hy : ∀ q ∈ ys, q.inI) : (setR p k ys).fits := by
  refine ⟨h.1, by show (List.set _ _ _).length ≤ _; rw [List.length_set]; exact h.2.1, fun x hx => ?_⟩
  rcases List.mem_or_eq_of_mem_set hx with h1 | rfl
  · exact h.2.2 x h1
  · exact ⟨hl, hy, (h.pc hk).2.2.1, (h.pc hk).2.2.2⟩
theorem snoc_fits {p : Plan} {x : Parc} (h : p.fits) (hl : p.parcels.length ≤ 1048576) (hx : x.fits) : (⟨p.outer, p.parcels ++ [x]⟩ : Plan).fits := by
  refine ⟨h.1, by show (p.parcels ++ [x]).length ≤ _; rw [List.length_append]; simp; omega, fun y hy => ?_⟩
  rcases List.mem_append.1 hy with h1 | h1
  · exact h.2.2 y h1
  · rw [List.mem_singleton.1 h1]; exact hx
theorem spB_fits {p : Plan} {a b : Pt} (hs : SoundP p) (hf : p.fits) (ha : good a = true) (hb : good b = true) : (spB p a b).fits :=
  insW_fits (fun xs hx => by obtain ⟨h1, h2⟩ := cut_rings1 hs ha xs hx; exact ⟨h1, by omega⟩) (ins_fits hs hf ha) hb
theorem setR_ids {p : Plan} {k : Nat} {ys : List Pt} : (setR p k ys).parcels.map (·.id) = p.parcels.map (·.id) := by
  refine List.ext_getElem (by simp [setR]) fun i h1 h2 => ?_
  simp only [setR, List.getElem_map, List.getElem_set]
  split
  · rename_i e
    subst e
    rw [pcAt_lt (by simpa using h2)]
  · rfl
theorem each_ids {g : List Pt → List Pt} {p : Plan} : (eachP g p).parcels.map (·.id) = p.parcels.map (·.id) := by simp [eachP, eachX]
theorem pw_ids {ps qs : List Parc} (h : qs.map (·.id) = ps.map (·.id)) (hp : ps.Pairwise (fun x y => x.id < y.id)) : qs.Pairwise (fun x y => x.id < y.id) := by
  have h1 : (ps.map (·.id)).Pairwise (fun x y => x < y) := List.pairwise_map.2 hp
  rw [← h] at h1
  exact List.pairwise_map.1 h1
theorem no_ids {ps qs : List Parc} {id : Int} (h : qs.map (·.id) = ps.map (·.id)) (hno : atP ps id < 0) : ∀ y ∈ qs, y.id ≠ id := fun y hy e => by
  have : y.id ∈ ps.map (·.id) := by rw [← h]; exact List.mem_map.2 ⟨y, hy, rfl⟩
  obtain ⟨x, hx, hxe⟩ := List.mem_map.1 this
  exact atP_no hno hx (by rw [hxe, e])
end Go.Proofs.YtnpjggcgnbgkjaaGreat
namespace Go.Proofs.YtnpjggcgnbgkjaaGreat
theorem sound_len {p : Plan} {xs : List Pt} (hs : SoundP p) (h : ringOf p xs) : 3 ≤ xs.length ∧ xs.Nodup ∧ lst xs = xs ∧ checkI xs = 0 := ⟨(sound_ring hs h).2.2.1, (sound_nodup hs h).1, (sound_nodup hs h).2.1, (sound_ring hs h).2.2.2⟩
/-- A corner of a sound ring is within none of its edges. -/
theorem corner_out {xs : List Pt} {q : Pt} (hc : checkI xs = 0) (hq : q ∈ xs) : insG q xs = xs := by
  obtain ⟨-, hg, h3, -, hp⟩ := checkI_zero hc
  refine ins_none fun k hk hin => ?_
  obtain ⟨i, hi, hx⟩ := List.getElem_of_mem hq
  rw [← ptAt_lt hi] at hx
  have hik : i ≠ k := fun e => hin.2.1 (by rw [← hx, e])
  have hik2 : i ≠ (k + 1) % xs.length := fun e => hin.2.2 (by rw [← hx, e])
  have ht : meetR (ptAt xs i) (ptAt xs ((i + 1) % xs.length)) (ptAt xs k) (ptAt xs ((k + 1) % xs.length)) ≠ 0 := fun e => by
    have h1 := meetR_pos (ptAt xs i) (ptAt xs ((i + 1) % xs.length)) (ptAt xs k) (ptAt xs ((k + 1) % xs.length))
    rw [e] at h1
    have hm : ptAt xs i ∈ endsL (ptAt xs i) (ptAt xs ((i + 1) % xs.length)) (ptAt xs k) (ptAt xs ((k + 1) % xs.length)) := by
      unfold endsL
      rw [show onB (ptAt xs k) (ptAt xs ((k + 1) % xs.length)) (ptAt xs i) = true by rw [hx]; exact hin.1]
      simp
    exact absurd (h1.2 (.inl fun e2 => by rw [e2] at hm; exact List.not_mem_nil hm)) (by decide)
  have hcase : k = (i + 1) % xs.length ∧ meetR (ptAt xs i) (ptAt xs ((i + 1) % xs.length)) (ptAt xs k) (ptAt xs ((k + 1) % xs.length)) = 1 := by
    have hor : i < k ∨ k < i := by omega
    rcases hor with h | h
    · have h1 := hp i k h hk
      unfold pairOK at h1
      rw [Bool.and_eq_true, decide_eq_true_eq, decide_eq_true_eq] at h1
      have h2 := h1.2
      unfold meetOf at h2
      by_cases hnx : nextB xs.length i k = true
      · rw [if_pos hnx] at h2
        refine ⟨?_, h2⟩
        unfold nextB at hnx
        simp at hnx
        rcases hnx with e | ⟨e1, e2⟩
        · rw [Nat.mod_eq_of_lt (by omega)]; exact e
        · exfalso
          apply hik2
          rw [e2, show xs.length - 1 + 1 = xs.length by omega, Nat.mod_self]
          exact e1
      · rw [if_neg hnx] at h2
        exact absurd h2 ht
    · have h1 := hp k i h hi
      unfold pairOK at h1
      rw [Bool.and_eq_true, decide_eq_true_eq, decide_eq_true_eq] at h1
      have h2 := h1.2
      unfold meetOf at h2
      rw [meetR_comm] at h2
      by_cases hnx : nextB xs.length k i = true
      · rw [if_pos hnx] at h2
        refine ⟨?_, h2⟩
        unfold nextB at hnx
        simp at hnx
        rcases hnx with e | ⟨e1, e2⟩
        · exfalso
          apply hik2
          rw [Nat.mod_eq_of_lt (by omega)]; exact e
        · rw [e2, show xs.length - 1 + 1 = xs.length by omega, Nat.mod_self]
          exact e1
      · rw [if_neg hnx] at h2
        exact absurd h2 ht
  obtain ⟨hk2, h1⟩ := hcase
  rw [← hk2] at h1
  have h2 := (one_iff.1 h1).1 (by rw [hx]; exact hin.1)
  exact hin.2.1 (by rw [← hx, h2])
theorem planB_yes {p : Plan} (h : SoundP p) : planB p = true := by unfold planB; simpa using h
end Go.Proofs.YtnpjggcgnbgkjaaGreat
