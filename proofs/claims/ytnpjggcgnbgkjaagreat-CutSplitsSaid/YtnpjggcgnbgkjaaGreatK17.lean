/- window.Touches: the walk; What lies beside Corn; slices.Index and slices.Contains of points, ref05.In, plan.Has, plan.At, ref05.At, ref05.Corner: the walks. -/
import Derived.Below
import Derived.BigQuiet
import Derived.Calls
import Derived.ChangeSame
import Derived.Deep.AppendLies
import Derived.Deep.DeepCutAuto
import Derived.Deep.Draws
import Derived.Deep.Fields
import Derived.Deep.OwnRows
import Derived.Deep.QuietTactic
import Derived.Deep.RegionHeld3
import Derived.Deep.SlicePairs
import Derived.Deep.Slices
import Derived.IntWalk
import Derived.Laws.AppendOwn
import Derived.Laws.BitsAllLaws
import Derived.Laws.BitsLemmas
import Derived.Laws.Entries
import Derived.Laws.Externs
import Derived.Laws.MakeOwn
import Derived.Laws.OwnMore
import Derived.Laws.Rows
import Derived.Lib.Hide
import Derived.Lib.SmallJoins
import Derived.LoopIn
import Derived.LoopNIn
import Derived.Maps.AppendAt
import Derived.Outline
import Derived.OwnWalk
import Derived.OwnWalkIn
import Derived.ProofKit
import Derived.RangeFuncBound
import Derived.RangeFuncBox
import Derived.RangeFuncCalls
import Derived.RangeFuncLeaves
import Derived.RangeFuncNested
import Derived.RegionTactic
import Derived.Shelf.Abstract
import Derived.Shelf.RegionOpen
import Derived.SizedLaws
import Derived.Sort.CutIn
import Derived.StillTailTactics
import Derived.Stop.RegionWithIn
import Derived.TacticsInMore
import Derived.WalkKit
import Derived.WalkLawsBesides
import Derived.WalkSpells
import Derived.Test.YtnpjggcgnbgkjaaGreatK11
import Derived.Test.YtnpjggcgnbgkjaaGreatK13
import Derived.Test.YtnpjggcgnbgkjaaGreatK15
namespace Go.Proofs.YtnpjggcgnbgkjaaGreat
open Go.RowKit Go.Shelf
theorem within_any (xs : List Pt) (p : Pt) (A : Option Addr) (n cap : Nat) (w : World) (hr : Reads w w.heap.size 2 A n (ptsV xs)) (hn : n ≤ 128) (hg : goodL xs = true) (hp : good p = true) :
    Calls Tryz.prog 115 #[.slice A n cap, .agg #[.int .i64 p.x, .int .i64 p.y]] w fun e w' => e = .returned (.int .i64 (sideI xs p)) ∧ Below w.heap.size w w' := by
  have hb0 := (Below.refl w.heap.size w).alloc (Nat.le_refl _) (.cells #[.int .i64 p.x, .int .i64 p.y] 35)
  have hk : Calls Tryz.prog 189 #[.slice A n cap, .agg #[.int .i64 p.x, .int .i64 p.y]] (w.alloc (.cells #[.int .i64 p.x, .int .i64 p.y] 35)) fun e w' => e = .returned (.int .i64 (sideI xs p)) ∧ Below (w.alloc (.cells #[.int .i64 p.x, .int .i64 p.y] 35)).heap.size (w.alloc (.cells #[.int .i64 p.x, .int .i64 p.y] 35)) w' := side_any xs p A n cap _ ((hr.below hb0).more hb0.size) hn hg hp
  generalize sideI xs p = z at *
  have HK := Lib.hid (And.intro hk hb0)
  clear hk hb0 hr hg hp
  go_enter Tryz.func115, Tryz.ntmps115
  go_wp2_with fail
  with_reducible refine HK.out.1.mono ?_
  rintro e w1 ⟨rfl, hb1⟩
  have hB1 := below_on HK.out.2 (Nat.le_refl _) hb1
  clear hb1 HK
  go_wp2_with fail
  go_ret
  exact ⟨rfl, hB1⟩
end Go.Proofs.YtnpjggcgnbgkjaaGreat
namespace Go.Proofs.YtnpjggcgnbgkjaaGreat
open Go.RowKit
def atP (ps : List Parc) (id : Int) : Int := if ps.any (fun x => decide (x.id = id)) then (ps.findIdx (fun x => decide (x.id = id)) : Int) else -1
theorem atP_none {ps : List Parc} {id : Int} (h : ∀ j, j < ps.length → (pcAt ps j).id ≠ id) : atP ps id = -1 := by
  unfold atP
  rw [if_neg]
  rw [List.any_eq_true]
  rintro ⟨x, hx, he⟩
  obtain ⟨j, hj, rfl⟩ := List.getElem_of_mem hx
  exact h j hj (by rw [pcAt_lt hj]; simpa using he)
theorem atP_at {ps : List Parc} {id : Int} {k : Nat} (hk : k < ps.length) (h1 : (pcAt ps k).id = id) (h2 : ∀ j, j < k → (pcAt ps j).id ≠ id) : atP ps id = (k : Int) := by
  unfold atP
  rw [if_pos (by rw [List.any_eq_true]; exact ⟨_, List.getElem_mem hk, by rw [pcAt_lt hk] at h1; simpa using h1⟩)]
  congr 1
  rw [List.findIdx_eq hk]
  refine ⟨by rw [← pcAt_lt hk]; simpa using h1, fun j hj => ?_⟩
  rw [← pcAt_lt (by omega)]
  simpa using h2 j hj
theorem atP_cases (ps : List Parc) (id : Int) : (atP ps id = -1 ∧ ∀ j, j < ps.length → (pcAt ps j).id ≠ id) ∨ ∃ k : Nat, k < ps.length ∧ atP ps id = (k : Int) ∧ (pcAt ps k).id = id := by
  by_cases h : ∃ k, k < ps.length ∧ (pcAt ps k).id = id
  · refine .inr ?_
    have hl : ps.findIdx (fun x => decide (x.id = id)) < ps.length := by
      obtain ⟨k, hk, he⟩ := h
      rw [pcAt_lt hk] at he
      exact List.findIdx_lt_length_of_exists ⟨_, List.getElem_mem hk, by simpa using he⟩
    refine ⟨_, hl, ?_, ?_⟩
    · unfold atP
      rw [if_pos]
      rw [List.any_eq_true]
      obtain ⟨k, hk, he⟩ := h
      rw [pcAt_lt hk] at he
      exact ⟨_, List.getElem_mem hk, by simpa using he⟩
    · rw [pcAt_lt hl]
      have := List.findIdx_getElem (w := hl)
      simpa using this
  · exact .inl ⟨atP_none fun j hj he => h ⟨j, hj, he⟩, fun j hj he => h ⟨j, hj, he⟩⟩
set_option maxHeartbeats 800000 in
theorem at1_any (x : Parc) (id : Int) (A : Option Addr) (n c g : Nat) (w : World) (hq : Blk w g 3 #[.int .i64 id]) :
    Calls Tryz.prog 200 #[.agg #[.int .i64 x.id, .slice A n c, .string x.owner], .pointer (some ⟨g, 0, none⟩)] w fun e w' => e = .returned (.bool (decide (x.id = id))) ∧ Below w.heap.size w w' := by
  have hb0 := (Below.refl w.heap.size w).alloc (Nat.le_refl _) (.cells #[.int .i64 x.id, .slice A n c, .string x.owner] 37)
  have hK := PcK.new w x A n c
  have hq0 : Blk (w.alloc (.cells #[.int .i64 x.id, .slice A n c, .string x.owner] 37)) g 3 #[.int .i64 id] := Blk.below hq hb0 (Blk.lt hq)
  have HB := Lib.hid hb0
  obtain ⟨q1, q2, q3, -⟩ := hK.facts
  have r1 : (w.alloc (.cells #[.int .i64 x.id, .slice A n c, .string x.owner] 37)).cell? ⟨g, 0, none⟩ = some (.int .i64 id) := by rw [Blk.cell hq0 0]; rfl
  clear hb0 hK hq hq0
  go_enter Tryz.func200, Tryz.ntmps200
  go_wp2_with fail
  go_ret
  exact ⟨rfl, HB.out⟩
set_option maxHeartbeats 1600000 in
theorem indexAt_any (id : Int) (g : Nat) (ps : List Parc) (A : Option Addr) (n cap : Nat) (w : World) (hr : PIn w w.heap.size A n ps) (hn : n ≤ 8796093022208) (hK : Blk w g 3 #[.int .i64 id]) :
    Calls Tryz.prog 199 #[.slice A n cap, .func (.func 200) #[] #[.pointer (some ⟨g, 0, none⟩)]] w fun e w' => ∃ i : Int, e = .returned (.int .i64 i) ∧ ((i = -1 ∧ ∀ k, k < n → (fun x => decide (x.id = id)) (pcAt ps k) = false) ∨ ∃ k : Nat, k < n ∧ i = (k : Int) ∧ (fun x => decide (x.id = id)) (pcAt ps k) = true ∧ ∀ j, j < k → (fun x => decide (x.id = id)) (pcAt ps j) = false) ∧ Below w.heap.size w w' := by
  have HR := Lib.hid (And.intro hr hK)
  clear hr hK
  go_enter Tryz.func199, Tryz.ntmps199
  go_wp2_with fail
  go_loopw [8] (fun i wr => ∃ k : Nat, k ≤ n ∧ i = .int .i64 (k : Int) ∧ Hid (∀ j, j < k → (fun x => decide (x.id = id)) (pcAt ps j) = false) ∧ Below w.heap.size w wr) (fun i _ => n - (intOf i).toNat)
  case atStart => exact ⟨0, Nat.zero_le _, rfl, fun j hj => absurd hj (Nat.not_lt_zero _), Below.refl _ _⟩
  case round =>
    obtain ⟨k, hk, rfl, HA, hbel⟩ := hrel
    by_cases hlt : k < n
    · have hlt' : (k : Int) < (n : Int) := by omega
      have hw1 : IntKind.i64.wrap ((k : Int) + 1) = (k : Int) + 1 := by rw [IntKind.wrap_i64]; omega
      obtain ⟨ad, rfl⟩ := HR.out.1.some_ (by omega)
      obtain ⟨-, p1, ⟨Ak, nk, ck, p2, hrk, hk1, hk2⟩, p3⟩ := (HR.out.1.below hbel).at_ hlt
      have kF : Calls Tryz.prog 200 #[.agg #[.int .i64 (pcAt ps k).id, .slice Ak nk ck, .string (pcAt ps k).owner], .pointer (some ⟨g, 0, none⟩)] wr fun e w' => e = .returned (.bool ((fun x => decide (x.id = id)) (pcAt ps k))) ∧ Below wr.heap.size wr w' := at1_any (pcAt ps k) id Ak nk ck g wr (Blk.below HR.out.2 hbel (Blk.lt HR.out.2))
      obtain ⟨x, hx⟩ : ∃ x, x = pcAt ps k := ⟨_, rfl⟩
      rw [← hx] at p1 p3 kF
      have HX := Lib.hid hx
      have HB := Lib.hid hbel
      clear hx hbel hrk
      obtain ⟨b, hb⟩ : ∃ b, b = (fun x => decide (x.id = id)) x := ⟨_, rfl⟩
      rw [← hb] at kF
      have HBB := Lib.hid hb
      clear hb
      rcases b with _ | _
      · go_wp2_with (go_at_call 200; (with_reducible refine kF.mono ?_); rintro e w' ⟨rfl, hb'⟩)
        go_roundw
        case rel =>
          refine ⟨k + 1, by omega, by go_num, (fun j hj => ?_ : ∀ j, j < k + 1 → _), below_on HB.out (Nat.le_refl _) (by assumption)⟩
          by_cases e : j = k
          · rw [e, ← HX.out]; exact HBB.out.symm
          · exact HA.out j (by omega)
        case measure => simp [intOf]; omega
      · go_wp2_with (go_at_call 200; (with_reducible refine kF.mono ?_); rintro e w' ⟨rfl, hb'⟩)
        go_ret
        exact ⟨k, rfl, .inr ⟨k, hlt, rfl, by rw [← HX.out]; exact HBB.out.symm, HA.out⟩, below_on HB.out (Nat.le_refl _) (by assumption)⟩
    · have hkn : k = n := by omega
      subst hkn
      have HB := Lib.hid hbel
      clear hbel
      go_wp2_with fail
      go_ret
      exact ⟨-1, rfl, .inl ⟨rfl, fun j hj => by have := HA.out j hj; simpa using this⟩, HB.out⟩
set_option maxHeartbeats 800000 in
theorem at_any (p : Plan) (id : Int) (A A' : Option Addr) (n c n' c' : Nat) (w : World) (h : PlanAt w w.heap.size A n c A' n' c' p) :
    Calls Tryz.prog 129 #[planV A n c A' n' c', .int .i64 id] w fun e w' => e = .returned (.int .i64 (atP p.parcels id)) ∧ Below w.heap.size w w' := by
  obtain ⟨wa, hwa⟩ : ∃ wa : World, wa = (w.alloc (.cells #[.slice A n c, .slice A' n' c'] 26)).alloc (.cells #[.int .i64 id] 3) := ⟨_, rfl⟩
  have hB0 : Below w.heap.size w wa := by rw [hwa]; exact ((Below.refl _ _).alloc (Nat.le_refl _) _).alloc (by simp) _
  have hX : PlK wa w.heap.size A n c A' n' c' := by rw [hwa]; exact Blk.alloc (PlK.new w A n c A' n' c') _
  have hY : Blk wa (w.heap.size + 1) 3 #[.int .i64 id] := by
    rw [hwa]
    have := Blk.new (w.alloc (.cells #[.slice A n c, .slice A' n' c'] 26)) 3 #[.int .i64 id]
    rw [World.size_alloc] at this
    exact this
  have hP := h.on hB0
  have kC := Lib.hid (indexAt_any id (w.heap.size + 1) p.parcels A' n' c' wa hP.parcs (hP.lens.2.2.2) hY)
  have HL := Lib.hid hP.lens.2.1
  obtain ⟨q1, q2, q3⟩ := hX.facts
  have HB := Lib.hid hB0
  clear hX hY hB0 h hP
  go_enter Tryz.func129, Tryz.ntmps129
  go_upto_region 1 with fail
  rw [← hwa]
  clear hwa
  go_wp2_with fail
  refine kC.out.mono ?_
  rintro e w1 ⟨i, rfl, hi, hb1⟩
  have HI : Hid (atP p.parcels id = i) := by
    show _ = _
    rcases hi with ⟨rfl, h⟩ | ⟨k, hk, rfl, h, h2⟩
    · exact atP_none fun j hj => by simpa using h j (by have := HL.out; omega)
    · exact atP_at (by have := HL.out; omega) (by simpa using h) fun j hj => by simpa using h2 j hj
  have HB1 := Lib.hid (below_on HB.out (Nat.le_refl _) hb1)
  clear hb1 HB kC q1 q2 q3 hi
  go_wp2_with fail
  go_ret
  exact ⟨by rw [HI.out]; rfl, HB1.out⟩
set_option maxHeartbeats 1600000 in
theorem atR_any (p : Plan) (id : Int) (A A' : Option Addr) (n c n' c' : Nat) (w : World) (h : PlanAt w w.heap.size A n c A' n' c' p) :
    Calls Tryz.prog 52 #[planV A n c A' n' c', .int .i64 id] w fun e w' => e = .returned (.int .i64 (atP p.parcels id)) ∧ Below w.heap.size w w' := by
  obtain ⟨hl1, hl2, hl3, hl4⟩ := h.lens
  have hB0 := (Below.refl w.heap.size w).alloc (Nat.le_refl _) (.cells #[.slice A n c, .slice A' n' c'] 26)
  have hK0 := PlK.new w A n c A' n' c'
  have H0 := Lib.hid (And.intro hB0 hK0)
  have HP := Lib.hid h.parcs
  have HL := Lib.hid hl2
  clear hB0 hK0 h hl1 hl2 hl3
  go_enter Tryz.func52, Tryz.ntmps52
  go_wp2_with fail
  go_loopw [5] (fun i wr => ∃ m : Nat, m ≤ n' ∧ i = .int .i64 (m : Int) ∧ Hid (∀ j, j < m → (pcAt p.parcels j).id ≠ id) ∧ Hid (Below w.heap.size w wr ∧ PlK wr w.heap.size A n c A' n' c')) (fun i _ => n' - (intOf i).toNat)
  case atStart => exact ⟨0, Nat.zero_le _, rfl, fun j hj => absurd hj (Nat.not_lt_zero _), H0⟩
  case round =>
    clear H0
    obtain ⟨m, hm, rfl, HF, HW⟩ := hrel
    obtain ⟨q1, q2, q3⟩ := HW.out.2.facts
    by_cases hmn : m < n'
    · have hmn' : (m : Int) < (n' : Int) := by omega
      have hw1 : IntKind.i64.wrap ((m : Int) + 1) = (m : Int) + 1 := by rw [IntKind.wrap_i64]; omega
      obtain ⟨ad, rfl⟩ := HP.out.some_ (by omega)
      obtain ⟨-, p1, -, -⟩ := (HP.out.below HW.out.1).at_ hmn
      have HI := Lib.hid (atP_at (ps := p.parcels) (id := id) (k := m) (by have := HL.out; omega))
      obtain ⟨i, hi⟩ : ∃ i, i = (pcAt p.parcels m).id := ⟨_, rfl⟩
      rw [← hi] at p1
      have HX := Lib.hid hi
      clear hi
      by_cases he : i = id
      · have HE := Lib.hid (HI.out (by rw [← HX.out]; exact he) HF.out)
        subst he
        go_wp2_with fail
        go_ret
        exact ⟨by rw [HE.out]; rfl, HW.out.1⟩
      · have he' : (i == id) = false := by simpa using he
        have HE : Hid (∀ j, j < m + 1 → (pcAt p.parcels j).id ≠ id) := fun j hj => by
          by_cases h : j = m
          · rw [h, ← HX.out]; exact he
          · exact HF.out j (by omega)
        go_wp2_with fail
        go_roundw
        case rel => exact ⟨m + 1, by omega, by go_num, HE.out, HW⟩
        case measure => simp [intOf]; omega
    · have hmn' : m = n' := by omega
      subst hmn'
      have HN := Lib.hid (atP_none (ps := p.parcels) (id := id) (fun j hj => HF.out j (by have := HL.out; omega)))
      go_wp2_with fail
      go_ret
      exact ⟨by rw [HN.out]; rfl, HW.out.1⟩
end Go.Proofs.YtnpjggcgnbgkjaaGreat
namespace Go.Proofs.YtnpjggcgnbgkjaaGreat
open Go.RowKit
def idxPt (xs : List Pt) (q : Pt) : Int := if q ∈ xs then (xs.findIdx (fun p => decide (p = q)) : Int) else -1
theorem idx_none {xs : List Pt} {q : Pt} (h : ∀ j, j < xs.length → ptAt xs j ≠ q) : idxPt xs q = -1 := by
  unfold idxPt
  rw [if_neg]
  intro hq
  obtain ⟨j, hj, rfl⟩ := List.getElem_of_mem hq
  exact h j hj (ptAt_lt hj)
theorem idx_at {xs : List Pt} {q : Pt} {k : Nat} (hk : k < xs.length) (h1 : ptAt xs k = q) (h2 : ∀ j, j < k → ptAt xs j ≠ q) : idxPt xs q = (k : Int) := by
  unfold idxPt
  rw [if_pos (by rw [← h1, ptAt_lt hk]; exact List.getElem_mem hk)]
  congr 1
  rw [List.findIdx_eq hk]
  refine ⟨by rw [← ptAt_lt hk]; simpa using h1, fun j hj => ?_⟩
  rw [← ptAt_lt (by omega)]
  simpa using h2 j hj
theorem idx_nonneg {xs : List Pt} {q : Pt} : 0 ≤ idxPt xs q ↔ q ∈ xs := by
  unfold idxPt
  split
  · rename_i h; exact ⟨fun _ => h, fun _ => by omega⟩
  · rename_i h; exact ⟨fun h' => absurd h' (by omega), fun h' => absurd h' h⟩
theorem idx_lt {xs : List Pt} {q : Pt} (h : q ∈ xs) : ∃ k : Nat, k < xs.length ∧ idxPt xs q = (k : Int) ∧ ptAt xs k = q ∧ ∀ j, j < k → ptAt xs j ≠ q := by
  have hl : xs.findIdx (fun p => decide (p = q)) < xs.length := List.findIdx_lt_length_of_exists ⟨q, h, by simp⟩
  refine ⟨_, hl, by unfold idxPt; rw [if_pos h], ?_, fun j hj => ?_⟩
  · rw [ptAt_lt hl]
    have := List.findIdx_getElem (w := hl)
    simpa using this
  · rw [ptAt_lt (by omega)]
    have := List.not_of_lt_findIdx hj
    simpa using this
set_option maxHeartbeats 1600000 in
theorem indexQ_any (xs : List Pt) (Q : Pt) (A : Option Addr) (n cap : Nat) (w : World) (hr : Reads w w.heap.size 2 A n (ptsV xs)) (hn : n ≤ 8796093022208) :
    Calls Tryz.prog 175 #[.slice A n cap, .agg #[.int .i64 Q.x, .int .i64 Q.y]] w fun e w' => e = .returned (.int .i64 (idxPt xs Q)) ∧ Below w.heap.size w w' := by
  have hl := hr.lenPt
  have hB0 := (Below.refl w.heap.size w).alloc (Nat.le_refl _) (.cells #[.int .i64 Q.x, .int .i64 Q.y] 35)
  have hP0 : PtK (w.alloc (.cells #[.int .i64 Q.x, .int .i64 Q.y] 35)) w.heap.size Q := PtK.new w Q
  have H0 := Lib.hid (And.intro hB0 hP0)
  clear hB0 hP0
  go_enter Tryz.func175, Tryz.ntmps175
  go_wp2
  go_loopw [8] (fun i wr => ∃ m : Nat, m ≤ n ∧ i = .int .i64 (m : Int) ∧ Hid (∀ j, j < m → ptAt xs j ≠ Q) ∧ Below w.heap.size w wr ∧ PtK wr w.heap.size Q) (fun i _ => n - (intOf i).toNat)
  case atStart => exact ⟨0, Nat.zero_le _, rfl, fun j hj => absurd hj (Nat.not_lt_zero _), H0.out⟩
  case round =>
    clear H0
    obtain ⟨m, hm, rfl, HF, hbel, hK⟩ := hrel
    by_cases hmn : m < n
    · have hmn' : (m : Int) < (n : Int) := by omega
      have hw1 : IntKind.i64.wrap ((m : Int) + 1) = (m : Int) + 1 := by rw [IntKind.wrap_i64]; omega
      obtain ⟨ad, rfl, -, -, -, -⟩ := hr.pt hmn
      obtain ⟨-, p1, p2⟩ := (hr.below hbel).ptA hmn
      obtain ⟨q1, q2, -, -, -⟩ := hK.facts
      have HI := Lib.hid (idx_at (xs := xs) (q := Q) (k := m) (by omega))
      have he := fun W => (eqPt_runs Q (ptAt xs m) .eql (.tmp 0) (.tmp 0) W).1
      have hg := fun op a b W => (eqPt_runs Q (ptAt xs m) op a b W).2
      obtain ⟨P, hP⟩ : ∃ P, P = ptAt xs m := ⟨_, rfl⟩
      rw [← hP] at p1 p2 he hg
      have HP := Lib.hid hP
      have HB := Lib.hid (And.intro hbel hK)
      clear hbel hK hr hP
      by_cases hpq : P = Q
      · rw [decide_eq_true (hpq.symm)] at he
        have HE := Lib.hid hpq
        clear hpq
        go_wp2
        go_quiet (fail)
        go_wp2
        go_ret
        exact ⟨by rw [HI.out (by rw [← HP.out]; exact HE.out) HF.out]; rfl, below_drewN HB.out.1 _⟩
      · rw [decide_eq_false (fun h => hpq h.symm)] at he
        have HE : Hid (∀ j, j < m + 1 → ptAt xs j ≠ Q) := fun j hj => by
          by_cases h : j = m
          · rw [h, ← HP.out]; exact hpq
          · exact HF.out j (by omega)
        clear hpq
        go_wp2
        go_quiet (fail)
        go_wp2
        go_roundw
        case rel => exact ⟨m + 1, by omega, by go_num, HE.out, below_drewN HB.out.1 _, HB.out.2⟩
        case measure => simp [intOf]; omega
    · have hmn' : m = n := by omega
      subst hmn'
      have HB := Lib.hid hbel
      have HN := Lib.hid (idx_none (xs := xs) (q := Q) (fun j hj => HF.out j (by omega)))
      clear hbel hK
      go_wp2
      go_ret
      exact ⟨by rw [HN.out]; rfl, HB.out⟩
set_option maxHeartbeats 1600000 in
theorem inR_any (xs : List Pt) (Q : Pt) (A : Option Addr) (n cap : Nat) (w : World) (hr : Reads w w.heap.size 2 A n (ptsV xs)) (hn : n ≤ 8796093022208) :
    Calls Tryz.prog 55 #[.slice A n cap, .agg #[.int .i64 Q.x, .int .i64 Q.y]] w fun e w' => e = .returned (.int .i64 (idxPt xs Q)) ∧ Below w.heap.size w w' := by
  have hl := hr.lenPt
  have hB0 := (Below.refl w.heap.size w).alloc (Nat.le_refl _) (.cells #[.int .i64 Q.x, .int .i64 Q.y] 35)
  have hP0 : PtK (w.alloc (.cells #[.int .i64 Q.x, .int .i64 Q.y] 35)) w.heap.size Q := PtK.new w Q
  have H0 := Lib.hid (And.intro hB0 hP0)
  clear hB0 hP0
  go_enter Tryz.func55, Tryz.ntmps55
  go_wp2
  go_loopw [5] (fun i wr => ∃ m : Nat, m ≤ n ∧ i = .int .i64 (m : Int) ∧ Hid (∀ j, j < m → ptAt xs j ≠ Q) ∧ Below w.heap.size w wr ∧ PtK wr w.heap.size Q) (fun i _ => n - (intOf i).toNat)
  case atStart => exact ⟨0, Nat.zero_le _, rfl, fun j hj => absurd hj (Nat.not_lt_zero _), H0.out⟩
  case round =>
    clear H0
    obtain ⟨m, hm, rfl, HF, hbel, hK⟩ := hrel
    by_cases hmn : m < n
    · have hmn' : (m : Int) < (n : Int) := by omega
      have hw1 : IntKind.i64.wrap ((m : Int) + 1) = (m : Int) + 1 := by rw [IntKind.wrap_i64]; omega
      obtain ⟨ad, rfl, -, -, -, -⟩ := hr.pt hmn
      obtain ⟨-, p1, p2⟩ := (hr.below hbel).ptA hmn
      obtain ⟨q1, q2, -, -, -⟩ := hK.facts
      have HI := Lib.hid (idx_at (xs := xs) (q := Q) (k := m) (by omega))
      have he := fun W => (eqPt_runs (ptAt xs m) Q .eql (.tmp 0) (.tmp 0) W).1
      have hg := fun op a b W => (eqPt_runs (ptAt xs m) Q op a b W).2
      obtain ⟨P, hP⟩ : ∃ P, P = ptAt xs m := ⟨_, rfl⟩
      rw [← hP] at p1 p2 he hg
      have HP := Lib.hid hP
      have HB := Lib.hid (And.intro hbel hK)
      clear hbel hK hr hP
      by_cases hpq : P = Q
      · rw [decide_eq_true (hpq)] at he
        have HE := Lib.hid hpq
        clear hpq
        go_wp2
        go_quiet (fail)
        go_wp2
        go_ret
        exact ⟨by rw [HI.out (by rw [← HP.out]; exact HE.out) HF.out]; rfl, below_drewN HB.out.1 _⟩
      · rw [decide_eq_false hpq] at he
        have HE : Hid (∀ j, j < m + 1 → ptAt xs j ≠ Q) := fun j hj => by
          by_cases h : j = m
          · rw [h, ← HP.out]; exact hpq
          · exact HF.out j (by omega)
        clear hpq
        go_wp2
        go_quiet (fail)
        go_wp2
        go_roundw
        case rel => exact ⟨m + 1, by omega, by go_num, HE.out, below_drewN HB.out.1 _, HB.out.2⟩
        case measure => simp [intOf]; omega
    · have hmn' : m = n := by omega
      subst hmn'
      have HB := Lib.hid hbel
      have HN := Lib.hid (idx_none (xs := xs) (q := Q) (fun j hj => HF.out j (by omega)))
      clear hbel hK
      go_wp2
      go_ret
      exact ⟨by rw [HN.out]; rfl, HB.out⟩
end Go.Proofs.YtnpjggcgnbgkjaaGreat
