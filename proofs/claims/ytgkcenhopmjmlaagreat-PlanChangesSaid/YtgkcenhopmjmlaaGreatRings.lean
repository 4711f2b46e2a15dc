/- Rings stored into an own plan; ref02.Least at longer rings; least twice is least. -/
import Derived.Test.YtgkcenhopmjmlaaGreatEach
namespace Go.Proofs.YtgkcenhopmjmlaaGreat
open Go.RowKit Go.Lib
set_option maxRecDepth 100000 in
set_option maxHeartbeats 1600000 in
theorem leastR2_any (xs : List Pt) (A : Option Addr) (n cap : Nat) (w : World) (hr : Reads w w.heap.size 2 A n (ptsV xs)) (hn : n ≤ 1048576) :
    Calls Tryz.prog 111 #[.slice A n cap] w fun e w' => ∃ A' c, e = .returned (.slice A' n c) ∧ w'.ownsRow w.heap.size 53 2 (.slice A' n c) n (ptsV (rot (leastN xs n) xs)) ∧ Below w.heap.size w w' := by
  obtain ⟨i0, hi0, hz0, hz1, hz2⟩ := info_parts info_pt
  have hl : xs.length = n := hr.lenPt
  have HR := Lib.hid (And.intro hr hl)
  clear hr hl
  go_enter Tryz.func111, Tryz.ntmps111
  go_wp2_with fail
  go_loopw [3, 4] (fun kv i wr => ∃ m : Nat, m ≤ n ∧ i = .int .i64 (m : Int) ∧ kv = .int .i64 (leastN xs m : Int) ∧ Below w.heap.size w wr) (fun _ i _ => n - (intOf i).toNat)
  case atStart => exact ⟨0, Nat.zero_le _, rfl, rfl, Below.refl _ _⟩
  case round =>
    obtain ⟨m, hm, rfl, rfl, hbel⟩ := hrel
    by_cases hlt : m < n
    · have hlt' : (m : Int) < (n : Int) := by omega
      have hkn : leastN xs m < n := by have := leastN_le xs m; omega
      have hw1 : IntKind.i64.wrap ((m : Int) + 1) = (m : Int) + 1 := by rw [IntKind.wrap_i64]; omega
      have hst := leastN_step (xs := xs) (m := m)
      generalize leastN xs m = k at *
      have hkn' : (k : Int) < (n : Int) := by omega
      obtain ⟨ad, rfl, -, -, -, -⟩ := HR.out.1.pt hlt
      obtain ⟨hbd, p1, p2⟩ := ((HR.out.1.below hbel).more hbel.size).ptA hlt
      obtain ⟨-, q1, q2⟩ := ((HR.out.1.below hbel).more hbel.size).ptA hkn
      have kL := fun V => lessR6 (ptAt xs m).x (ptAt xs m).y (ptAt xs k).x (ptAt xs k).y V
      have hP0 : Hold22 wr wr.drew (ad.add (m * 2)) (ad.add (k * 2)) (ptAt xs m) (ptAt xs k) := ⟨p1, p2, q1, q2, (Below.refl _ _).drew⟩
      have hltM : (ad.add (m * 2)).block < wr.heap.size ∧ (ad.add (k * 2)).block < wr.heap.size := by simp only [block_of_add]; exact ⟨hbd, hbd⟩
      have HB := Lib.hid hbel
      generalize ptAt xs m = P at *
      generalize ptAt xs k = Q at *
      have kL' : ∀ V, Calls Tryz.prog 158 #[.agg #[.int .i64 P.x, .int .i64 P.y], .agg #[.int .i64 Q.x, .int .i64 Q.y]] V fun e w' => e = .returned (.bool (lessB P Q)) ∧ Below V.heap.size V w' := kL
      clear kL hbel p1 p2 q1 q2 hbd
      generalize lessB P Q = lb at *
      rcases lb with _ | _
      all_goals
        have HST := Lib.hid hst
        clear hst
        go_wp2_with fail
        go_region_held3 (fun V => V.cell? (ad.add (m * 2)) = some (.int .i64 P.x) ∧ V.cell? ⟨(ad.add (m * 2)).block, (ad.add (m * 2)).off + 1, none⟩ = some (.int .i64 P.y) ∧ V.cell? (ad.add (k * 2)) = some (.int .i64 Q.x) ∧ V.cell? ⟨(ad.add (k * 2)).block, (ad.add (k * 2)).off + 1, none⟩ = some (.int .i64 Q.y) ∧ Below wr.heap.size wr V)
          (first | with_reducible exact hP0 | with_reducible exact held22 hltM (by assumption) (by assumption))
          (first
            | (go_simp; go_at_call 158; (with_reducible refine (kL' _).mono ?_); rintro e w' ⟨rfl, hb'⟩; try dsimp only))
        clear hP0
        obtain ⟨-, -, -, -, hbV⟩ := (by assumption : Hold22 wr _ (ad.add (m * 2)) (ad.add (k * 2)) P Q)
        have HV := Lib.hid (below_on HB.out (Nat.le_refl _) hbV)
        clear hbV
        go_wp2_with fail
        go_roundw
        case rel => exact ⟨m + 1, by omega, by go_num, by rw [HST.out]; rfl, HV.out⟩
        case measure => simp [intOf]; omega
    · have hmn : m = n := by omega
      subst hmn
      have hkm : 0 < m → leastN xs m < m := fun h => leastN_lt xs h
      generalize hke : leastN xs m = k at *
      have HKE := Lib.hid hke
      clear hke
      have HB := Lib.hid hbel
      have hown0 : wr.ownsRow w.heap.size 53 2 (.slice none 0 0) 0 (ptsV ((rot k xs).take 0)) := by simp [ptsV, World.ownsRow_nil]
      clear hbel
      go_wp2_with fail
      obtain ⟨wo, hwo⟩ : ∃ wo : World, wo = wr := ⟨_, rfl⟩
      rw [← hwo] at HB hown0
      rw [← hwo]
      clear hwo
      go_loopw [5, 6] (fun s i wx => ∃ j : Nat, j ≤ m ∧ i = .int .i64 (j : Int) ∧ (∃ A' c, s = .slice A' j c ∧ wx.ownsRow w.heap.size 53 2 (.slice A' j c) j (ptsV ((rot k xs).take j))) ∧ Below w.heap.size w wx) (fun _ i _ => m - (intOf i).toNat)
      case atStart => exact ⟨0, Nat.zero_le _, rfl, ⟨none, 0, rfl, hown0⟩, HB.out⟩
      case round =>
        clear hown0
        obtain ⟨j, hj, rfl, ⟨A', c, rfl, hown⟩, hbel⟩ := hrel
        by_cases hlt2 : j < m
        · have hlt' : (j : Int) < (m : Int) := by omega
          have hkm' := hkm (by omega)
          have hw1 : IntKind.i64.wrap ((j : Int) + 1) = (j : Int) + 1 := by rw [IntKind.wrap_i64]; omega
          have hw2 : IntKind.i64.wrap ((k : Int) + (j : Int)) = (k : Int) + (j : Int) := IntWalk.i64_in _ (by omega)
          have hm0 : ¬ m = 0 := by omega
          have hm1 : ¬ (m : Int) = 0 := by omega
          have htm : ((k : Int) + (j : Int)).tmod (m : Int) = (((k + j) % m : Nat) : Int) := by
            rw [show (k : Int) + (j : Int) = ((k + j : Nat) : Int) by omega]
            rfl
          have hrl : (k + j) % m < m := Nat.mod_lt _ (by omega)
          have htk : (rot k xs).take (j + 1) = (rot k xs).take j ++ [ptAt xs ((k + j) % m)] := by
            have hrL : (rot k xs).length = m := by rw [rot_len (by have := HR.out.2; omega)]; exact HR.out.2
            rw [List.take_succ_eq_append_getElem (by omega), ← ptAt_lt (by omega), ptAt_rot (by have := HR.out.2; omega) (by have := HR.out.2; omega), HR.out.2]
          generalize (k + j) % m = r at *
          have hrl' : (r : Int) < (m : Int) := by omega
          have hwr : IntKind.i64.wrap (r : Int) = (r : Int) := IntWalk.i64_in _ (by omega)
          obtain ⟨ad, rfl, -, -, -, -⟩ := HR.out.1.pt hlt2
          obtain ⟨-, p1, p2⟩ := ((HR.out.1.below hbel).more hbel.size).ptA hrl
          generalize ptAt xs r = P at *
          have HT := Lib.hid htk
          clear htk
          go_wp2_with (at_builtin; refine wpList_append_any _ rfl (.tmp 29) (.tmp 39) _ rfl w.heap.size 53 i0 _ 2 16 Tryz.underlying23 hi0 hz0 hz1 hz2 rfl (by omega) (.slice A' j c) j _ rfl (hown.alloc _) (wr.alloc (.cells #[.int .i64 P.x, .int .i64 P.y] 53)).heap.size (some ⟨wr.heap.size, 0, none⟩) 1 1 (ptsV [P]) rfl (Reads.made wr _ _ _ 2 1 _ rfl rfl) (ptsV_one _) (by simp only [maxLen]; omega) (by omega) (by simp; have := hbel.size; omega) ?_
                       intro v6 w6 hown6 hg6 hat6)
          have hB6 : Below w.heap.size w w6 := (hbel.alloc hbel.size _).grown hg6 (by simp; have := hbel.size; omega) (fun g hg => (hown.lt g hg).1)
          rw [← ptsV_append, ← HT.out] at hown6
          obtain ⟨A6, c6, rfl⟩ := own_form hown6
          have H6 := Lib.hid (And.intro hown6 hB6)
          clear hown6 hB6 hg6 hat6 hown hbel p1 p2
          go_wp2_with fail
          go_roundw
          case rel => exact ⟨j + 1, by omega, by go_num, ⟨A6, c6, rfl, H6.out.1⟩, H6.out.2⟩
          case measure => simp [intOf]; omega
        · have hjm : j = m := by omega
          subst hjm
          have hrL : (rot k xs).length = j := by
            rcases Nat.eq_zero_or_pos j with h | h
            · have h2 := HR.out.2
              rw [h] at h2
              rw [List.eq_nil_of_length_eq_zero h2, h]
              simp [rot]
            · rw [rot_len (by have := HR.out.2; have := hkm h; omega)]; exact HR.out.2
          rw [List.take_of_length_le (by omega)] at hown
          have H7 := Lib.hid (And.intro hown hbel)
          clear hown hbel
          go_wp2_with fail
          go_ret
          exact ⟨A', c, rfl, by rw [HKE.out]; exact H7.out⟩
theorem rowPV_set {ps : List Parc} {hs : List Hd} (hl : hs.length = ps.length) {k : Nat} (hk : k < ps.length) (ys : List Pt) (h : Hd) :
    rowPV (ps.set k ⟨(pcAt ps k).id, ys, (pcAt ps k).owner⟩) (hs.set k h) = (rowPV ps hs).set (k * 3 + 1) (.slice h.1 h.2.1 h.2.2) := by
  induction ps generalizing hs k with
  | nil => simp at hk
  | cons y ps ih =>
    rcases hs with _ | ⟨g, hs⟩
    · simp at hl
    · rcases k with _ | k
      · rfl
      · have h1 := ih (hs := hs) (by simpa using hl) (k := k) (by simpa using hk)
        have h2 : pcAt (y :: ps) (k + 1) = pcAt ps k := by unfold pcAt; simp
        rw [h2]
        show pcV y g ++ rowPV (ps.set k _) (hs.set k h) = _
        rw [h1, show (k + 1) * 3 + 1 = k * 3 + 1 + 1 + 1 + 1 by omega]
        rfl
def setR (p : Plan) (k : Nat) (ys : List Pt) : Plan := ⟨p.outer, p.parcels.set k ⟨(pcAt p.parcels k).id, ys, (pcAt p.parcels k).owner⟩⟩
theorem hdAt_set {hs : List Hd} {k j : Nat} {h : Hd} (hk : k < hs.length) : hdAt (hs.set k h) j = if j = k then h else hdAt hs j := by
  unfold hdAt
  rw [List.getElem?_set]
  by_cases e : k = j
  · rw [if_pos e, if_pos e.symm, if_pos (by omega)]; rfl
  · rw [if_neg e, if_neg (fun h => e h.symm)]
theorem pcAt_set {ps : List Parc} {k j : Nat} {x : Parc} (hk : k < ps.length) : pcAt (ps.set k x) j = if j = k then x else pcAt ps j := by
  unfold pcAt
  rw [List.getElem?_set]
  by_cases e : k = j
  · rw [if_pos e, if_pos e.symm, if_pos (by omega)]; rfl
  · rw [if_neg e, if_neg (fun h => e h.symm)]
theorem PlanOwn.setRing {B n c n' c' k m c3 : Nat} {W : World} {A A3 : Option Addr} {ad : Addr} {p : Plan} {hs : List Hd} {ys : List Pt} (h : PlanOwn B W A n c (some ad) n' c' p hs) (hk : k < n')
    (hnew : W.ownsRow B 53 2 (.slice A3 m c3) m (ptsV ys)) (hf : (setR p k ys).fits) :
    PlanOwn B (W.setCell ⟨(ad.add (k * 3)).block, (ad.add (k * 3)).off + 1, none⟩ (.slice A3 m c3)) A n c (some ad) n' c' (setR p k ys) (hs.set k (A3, m, c3)) ∧ ad.block < W.heap.size ∧ B ≤ ad.block := by
  obtain ⟨g, cap, e, hb, hlt⟩ := h.row.form (by omega)
  have e1 : ad = ⟨g, 0, none⟩ := by cases e; rfl
  have e2 : cap = c' := by cases e; rfl
  subst e1 e2
  have hrow := (h.row.stored (k * 3 + 1) (.slice A3 m c3)).1
  have hadr : (⟨((⟨g, 0, none⟩ : Addr).add (k * 3)).block, ((⟨g, 0, none⟩ : Addr).add (k * 3)).off + 1, none⟩ : Addr) = ⟨g, k * 3 + 1, none⟩ := by rw [add_off3 _ _ _ (by omega)]; simp [Addr.add]
  rw [hadr]
  have hkeep : ∀ {v : Value} {j : Nat} {xs : List Value}, W.ownsRow B 53 2 v j xs → (W.setCell ⟨g, k * 3 + 1, none⟩ (.slice A3 m c3)).ownsRow B 53 2 v j xs := fun {v j xs} ho =>
    ownsRow_setCell_other ho (fun e' => own_own_ne h.row ho (by decide) (g := g) rfl e') _
  have hkl : k < p.parcels.length := by rw [h.lenp]; exact hk
  refine ⟨⟨hkeep h.out, ?_, by rw [List.length_set]; exact h.len, by show (List.set _ _ _).length = _; rw [List.length_set]; exact h.lenp, fun j hj => ?_, hf⟩, hlt, hb⟩
  · show World.ownsRow _ _ _ _ _ _ (rowPV (p.parcels.set k _) _)
    rw [rowPV_set (by rw [h.len, h.lenp]) hkl]
    exact hrow
  · show World.ownsRow _ _ _ _ _ _ (ptsV (pcAt (p.parcels.set k _) j).ring)
    rw [hdAt_set (by rw [h.len]; exact hk), pcAt_set hkl]
    by_cases e' : j = k
    · rw [if_pos e', if_pos e']
      exact hkeep hnew
    · rw [if_neg e', if_neg e']
      exact hkeep (h.rings j hj)
def mapX (g : List Pt → List Pt) (x : Parc) : Parc := ⟨x.id, g x.ring, x.owner⟩
def mapG (g : List Pt → List Pt) (p : Plan) : Plan := ⟨g p.outer, p.parcels.map (mapX g)⟩
def mapTo (g : List Pt → List Pt) (p : Plan) (k : Nat) : Plan := ⟨g p.outer, (p.parcels.take k).map (mapX g) ++ p.parcels.drop k⟩
theorem mapTo_len {g : List Pt → List Pt} {p : Plan} {k : Nat} (hk : k ≤ p.parcels.length) : (mapTo g p k).parcels.length = p.parcels.length := by unfold mapTo; simp; omega
theorem mapTo_at {g : List Pt → List Pt} {p : Plan} {k : Nat} (hk : k < p.parcels.length) : pcAt (mapTo g p k).parcels k = pcAt p.parcels k := by
  unfold mapTo pcAt
  simp only
  rw [List.getElem?_append_right (by simp; omega)]
  simp [List.length_take, Nat.min_eq_left (Nat.le_of_lt hk)]
theorem mapTo_next {g : List Pt → List Pt} {p : Plan} {k : Nat} (hk : k < p.parcels.length) : setR (mapTo g p k) k (g (pcAt p.parcels k).ring) = mapTo g p (k + 1) := by
  unfold setR
  rw [mapTo_at hk]
  unfold mapTo
  simp only [Plan.mk.injEq, true_and]
  rw [List.set_append_right _ _ (by simp; omega), List.drop_eq_getElem_cons hk, List.take_succ_eq_append_getElem hk, List.map_append, List.append_assoc]
  congr 1
  rw [show k - ((p.parcels.take k).map (mapX g)).length = 0 by simp; omega, List.set_cons_zero]
  rw [pcAt_lt hk]
  rfl
theorem mapTo_all {g : List Pt → List Pt} {p : Plan} : mapTo g p p.parcels.length = mapG g p := by unfold mapTo mapG; simp
theorem mapTo_zero {g : List Pt → List Pt} {p : Plan} : mapTo g p 0 = ⟨g p.outer, p.parcels⟩ := by unfold mapTo; simp
theorem mapTo_fits {g : List Pt → List Pt} {p : Plan} (h : p.fits) (hg : ∀ xs, ringOf p xs → (g xs).length ≤ 1048576 ∧ ∀ r ∈ g xs, r.inI) {k : Nat} (hk : k ≤ p.parcels.length) : (mapTo g p k).fits := by
  have h0 := hg _ (.inl rfl)
  refine ⟨⟨by show (g p.outer).length ≤ _; omega, h0.2⟩, by rw [mapTo_len hk]; exact h.2.1, fun x hx => ?_⟩
  rcases List.mem_append.1 hx with hx | hx
  · obtain ⟨y, hy, rfl⟩ := List.mem_map.1 hx
    have hy := List.mem_of_mem_take hy
    have hy1 := hg _ (.inr ⟨y, hy, rfl⟩)
    have hy2 := h.2.2 y hy
    exact ⟨by show (g y.ring).length ≤ _; omega, hy1.2, hy2.2.2.1, hy2.2.2.2⟩
  · exact h.2.2 x (List.mem_of_mem_drop hx)
theorem each_map (g : List Pt → List Pt) (p : Plan) : mapG lst (mapG g p) = eachP g p := by
  unfold mapG eachP
  simp only [List.map_map]
  rfl
theorem PlanOwn.outR {B n c n' c' m c3 : Nat} {W : World} {A A' A3 : Option Addr} {p : Plan} {hs : List Hd} {ys : List Pt} (h : PlanOwn B W A n c A' n' c' p hs) (hnew : W.ownsRow B 53 2 (.slice A3 m c3) m (ptsV ys)) (hf : (⟨ys, p.parcels⟩ : Plan).fits) :
    PlanOwn B W A3 m c3 A' n' c' ⟨ys, p.parcels⟩ hs := ⟨hnew, h.row, h.len, h.lenp, h.rings, hf⟩
end Go.Proofs.YtgkcenhopmjmlaaGreat
