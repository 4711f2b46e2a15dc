/- Rings stored into an own plan; ref02.Least at longer rings; least twice is least. -/
import Derived.Test.YtgkcenhopmjmlaaEach
namespace Go.Proofs.Ytgkcenhopmjmlaa
open Go.RowKit Go.Lib
theorem rowPV_set {ps : List Parc} {hs : List Hd} (hl : hs.length = ps.length) {k : Nat} (hk : k < ps.length) (ys : List Pt) (h : Hd) :
    rowPV (ps.set k ⟨(pcAt ps k).id, ys, (pcAt ps k).owner⟩) (hs.set k h) = (rowPV ps hs).set (k * 3 + 1) (.slice h.1 h.2.1 h.2.2) := by
  induction ps generalizing hs k with
  | nil => simp at hk
  | cons y ps ih =>
    rcases hs with _ | ⟨g, hs⟩
    · simp at hl
    · rcases k with _ | k
      · rfl
      · have h1 := ih (hs := hs) (by simpa using hl) (k := k) (by simpa using hk)
        have h2 : pcAt (y :: ps) (k + 1) = pcAt ps k := by unfold pcAt; simp
        rw [h2]
        show pcV y g ++ rowPV (ps.set k _) (hs.set k h) = _
        rw [h1, show (k + 1) * 3 + 1 = k * 3 + 1 + 1 + 1 + 1 by omega]
        rfl
def setR (p : Plan) (k : Nat) (ys : List Pt) : Plan := ⟨p.outer, p.parcels.set k ⟨(pcAt p.parcels k).id, ys, (pcAt p.parcels k).owner⟩⟩
theorem hdAt_set {hs : List Hd} {k j : Nat} {h : Hd} (hk : k < hs.length) : hdAt (hs.set k h) j = if j = k then h else hdAt hs j := by
  unfold hdAt
  rw [List.getElem?_set]
  by_cases e : k = j
  · rw [if_pos e, if_pos e.symm, if_pos (by omega)]; rfl
  · rw [if_neg e, if_neg (fun h => e h.symm)]
theorem pcAt_set {ps : List Parc} {k j : Nat} {x : Parc} (hk : k < ps.length) : pcAt (ps.set k x) j = if j = k then x else pcAt ps j := by
  unfold pcAt
  rw [List.getElem?_set]
  by_cases e : k = j
  · rw [if_pos e, if_pos e.symm, if_pos (by omega)]; rfl
  · rw [if_neg e, if_neg (fun h => e h.symm)]
theorem PlanOwn.setRing {B n c n' c' k m c3 : Nat} {W : World} {A A3 : Option Addr} {ad : Addr} {p : Plan} {hs : List Hd} {ys : List Pt} (h : PlanOwn B W A n c (some ad) n' c' p hs) (hk : k < n')
    (hnew : W.ownsRow B 39 2 (.slice A3 m c3) m (ptsV ys)) (hf : (setR p k ys).fits) :
    PlanOwn B (W.setCell ⟨(ad.add (k * 3)).block, (ad.add (k * 3)).off + 1, none⟩ (.slice A3 m c3)) A n c (some ad) n' c' (setR p k ys) (hs.set k (A3, m, c3)) ∧ ad.block < W.heap.size ∧ B ≤ ad.block := by
  obtain ⟨g, cap, e, hb, hlt⟩ := h.row.form (by omega)
  have e1 : ad = ⟨g, 0, none⟩ := by cases e; rfl
  have e2 : cap = c' := by cases e; rfl
  subst e1 e2
  have hrow := (h.row.stored (k * 3 + 1) (.slice A3 m c3)).1
  have hadr : (⟨((⟨g, 0, none⟩ : Addr).add (k * 3)).block, ((⟨g, 0, none⟩ : Addr).add (k * 3)).off + 1, none⟩ : Addr) = ⟨g, k * 3 + 1, none⟩ := by rw [add_off3 _ _ _ (by omega)]; simp [Addr.add]
  rw [hadr]
  have hkeep : ∀ {v : Value} {j : Nat} {xs : List Value}, W.ownsRow B 39 2 v j xs → (W.setCell ⟨g, k * 3 + 1, none⟩ (.slice A3 m c3)).ownsRow B 39 2 v j xs := fun {v j xs} ho =>
    ownsRow_setCell_other ho (fun e' => own_own_ne h.row ho (by decide) (g := g) rfl e') _
  have hkl : k < p.parcels.length := by rw [h.lenp]; exact hk
  refine ⟨⟨hkeep h.out, ?_, by rw [List.length_set]; exact h.len, by show (List.set _ _ _).length = _; rw [List.length_set]; exact h.lenp, fun j hj => ?_, hf⟩, hlt, hb⟩
  · show World.ownsRow _ _ _ _ _ _ (rowPV (p.parcels.set k _) _)
    rw [rowPV_set (by rw [h.len, h.lenp]) hkl]
    exact hrow
  · show World.ownsRow _ _ _ _ _ _ (ptsV (pcAt (p.parcels.set k _) j).ring)
    rw [hdAt_set (by rw [h.len]; exact hk), pcAt_set hkl]
    by_cases e' : j = k
    · rw [if_pos e', if_pos e']
      exact hkeep hnew
    · rw [if_neg e', if_neg e']
      exact hkeep (h.rings j hj)
def mapX (g : List Pt → List Pt) (x : Parc) : Parc := ⟨x.id, g x.ring, x.owner⟩
def mapG (g : List Pt → List Pt) (p : Plan) : Plan := ⟨g p.outer, p.parcels.map (mapX g)⟩
def mapTo (g : List Pt → List Pt) (p : Plan) (k : Nat) : Plan := ⟨g p.outer, (p.parcels.take k).map (mapX g) ++ p.parcels.drop k⟩
theorem mapTo_len {g : List Pt → List Pt} {p : Plan} {k : Nat} (hk : k ≤ p.parcels.length) : (mapTo g p k).parcels.length = p.parcels.length := by unfold mapTo; simp; omega
theorem mapTo_at {g : List Pt → List Pt} {p : Plan} {k : Nat} (hk : k < p.parcels.length) : pcAt (mapTo g p k).parcels k = pcAt p.parcels k := by
  unfold mapTo pcAt
  simp only
  rw [List.getElem?_append_right (by simp; omega)]
  simp [List.length_take, Nat.min_eq_left (Nat.le_of_lt hk)]
theorem mapTo_next {g : List Pt → List Pt} {p : Plan} {k : Nat} (hk : k < p.parcels.length) : setR (mapTo g p k) k (g (pcAt p.parcels k).ring) = mapTo g p (k + 1) := by
  unfold setR
  rw [mapTo_at hk]
  unfold mapTo
  simp only [Plan.mk.injEq, true_and]
  rw [List.set_append_right _ _ (by simp; omega), List.drop_eq_getElem_cons hk, List.take_succ_eq_append_getElem hk, List.map_append, List.append_assoc]
  congr 1
  rw [show k - ((p.parcels.take k).map (mapX g)).length = 0 by simp; omega, List.set_cons_zero]
  rw [pcAt_lt hk]
  rfl
theorem mapTo_all {g : List Pt → List Pt} {p : Plan} : mapTo g p p.parcels.length = mapG g p := by unfold mapTo mapG; simp
theorem mapTo_zero {g : List Pt → List Pt} {p : Plan} : mapTo g p 0 = ⟨g p.outer, p.parcels⟩ := by unfold mapTo; simp
theorem mapTo_fits {g : List Pt → List Pt} {p : Plan} (h : p.fits) (hg : ∀ xs, ringOf p xs → (g xs).length ≤ 1048576 ∧ ∀ r ∈ g xs, r.inI) {k : Nat} (hk : k ≤ p.parcels.length) : (mapTo g p k).fits := by
  have h0 := hg _ (.inl rfl)
  refine ⟨⟨by show (g p.outer).length ≤ _; omega, h0.2⟩, by rw [mapTo_len hk]; exact h.2.1, fun x hx => ?_⟩
  rcases List.mem_append.1 hx with hx | hx
  · obtain ⟨y, hy, rfl⟩ := List.mem_map.1 hx
    have hy := List.mem_of_mem_take hy
    have hy1 := hg _ (.inr ⟨y, hy, rfl⟩)
    have hy2 := h.2.2 y hy
    exact ⟨by show (g y.ring).length ≤ _; omega, hy1.2, hy2.2.2.1, hy2.2.2.2⟩
  · exact h.2.2 x (List.mem_of_mem_drop hx)
theorem each_map (g : List Pt → List Pt) (p : Plan) : mapG lst (mapG g p) = eachP g p := by
  unfold mapG eachP
  simp only [List.map_map]
  rfl
theorem PlanOwn.outR {B n c n' c' m c3 : Nat} {W : World} {A A' A3 : Option Addr} {p : Plan} {hs : List Hd} {ys : List Pt} (h : PlanOwn B W A n c A' n' c' p hs) (hnew : W.ownsRow B 39 2 (.slice A3 m c3) m (ptsV ys)) (hf : (⟨ys, p.parcels⟩ : Plan).fits) :
    PlanOwn B W A3 m c3 A' n' c' ⟨ys, p.parcels⟩ hs := ⟨hnew, h.row, h.len, h.lenp, h.rings, hf⟩
end Go.Proofs.Ytgkcenhopmjmlaa
