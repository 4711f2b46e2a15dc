/- What lies beside Side; window.frame's corners and cuts, window.Cuts: the walks; window.Touches: the walk; cut.fault: the walk. -/
import Derived.Deep.RegionHeld3
import Derived.IntWalk
import Derived.Below
import Derived.BigQuiet
import Derived.Calls
import Derived.ChangeSame
import Derived.Deep.AppendLies
import Derived.Deep.DeepCutAuto
import Derived.Deep.Draws
import Derived.Deep.Fields
import Derived.Deep.OwnRows
import Derived.Deep.QuietTactic
import Derived.Deep.SlicePairs
import Derived.Deep.Slices
import Derived.Laws.AppendOwn
import Derived.Laws.BitsAllLaws
import Derived.Laws.BitsLemmas
import Derived.Laws.Entries
import Derived.Laws.Externs
import Derived.Laws.MakeOwn
import Derived.Laws.OwnMore
import Derived.Laws.Rows
import Derived.Lib.Hide
import Derived.Lib.SmallJoins
import Derived.LoopIn
import Derived.LoopNIn
import Derived.Maps.AppendAt
import Derived.Outline
import Derived.OwnWalk
import Derived.OwnWalkIn
import Derived.ProofKit
import Derived.RangeFuncBound
import Derived.RangeFuncBox
import Derived.RangeFuncCalls
import Derived.RangeFuncLeaves
import Derived.RangeFuncNested
import Derived.RegionTactic
import Derived.Shelf.Abstract
import Derived.Shelf.RegionOpen
import Derived.SizedLaws
import Derived.Sort.CutIn
import Derived.StillTailTactics
import Derived.Stop.RegionWithIn
import Derived.TacticsInMore
import Derived.WalkKit
import Derived.WalkLawsBesides
import Derived.WalkSpells
import Derived.Deep.CutBlock
import Derived.Test.YtmegmokjjlelgaaGreatK01
import Derived.Test.YtmegmokjjlelgaaGreatK03
import Derived.Test.YtmegmokjjlelgaaGreatK04
import Derived.Test.YtmegmokjjlelgaaGreatK09
import Derived.Test.YtmegmokjjlelgaaGreatK10
import Derived.Test.YtmegmokjjlelgaaGreatK15
import Derived.Test.YtmegmokjjlelgaaGreatK17
import Derived.Test.YtmegmokjjlelgaaGreatK18
namespace Go.Proofs.YtmegmokjjlelgaaGreat
open Go.RowKit Go.Shelf
attribute [local go_sem] Oper.semAt_some
def oddL (xs : List Pt) (p : Pt) (l : List Nat) : Bool := l.foldl (fun o k => xor o (crE xs p k)) false
theorem oddL_snoc (xs : List Pt) (p : Pt) (l : List Nat) (k : Nat) : oddL xs p (l ++ [k]) = xor (oddL xs p l) (crE xs p k) := by simp [oddL]
theorem oddL_range (xs : List Pt) (p : Pt) (n : Nat) : oddL xs p (List.range n) = oddN xs p n := by
  induction n with
  | zero => rfl
  | succ n ih => rw [List.range_succ, oddL_snoc, ih]; rfl
set_option maxRecDepth 100000 in
set_option maxHeartbeats 1600000 in
theorem side_any (xs : List Pt) (p : Pt) (A : Option Addr) (n cap : Nat) (w : World) (hr : Reads w w.heap.size 2 A n (ptsV xs)) (hn : n ≤ 128) (hg : goodL xs = true) (hp : good p = true) :
    Calls Tryz.prog 137 #[.slice A n cap, ptV p] w fun e w' => e = .returned (.int .i64 (sideI xs p)) ∧ Below w.heap.size w w' := by
  have HG := Lib.hid (And.intro hg hp)
  clear hg hp
  have hbp := PtK.new w p
  unfold ptV
  refine (callsIn_wide (n := 3)).1 ?_
  refine callsIn_of_wp_marks Tryz.func137 rfl trivial ?_ rfl
  simp only [Tryz.ntmps137, List.size_toArray, List.length_cons, List.length_nil, Nat.reduceAdd, Nat.reduceSub, Array.replicate_succ, Array.replicate_zero, List.push_toArray, List.append_toArray, List.nil_append, List.cons_append]
  gi_wp2_with fail
  refine ⟨trivial, ?_⟩
  refine (callsIn_wide.2 (edges_any A n cap _)).mono ?_
  rintro e w3 ⟨rfl, rfl⟩
  gi_wp2_with fail
  have bP := ((hbp.alloc (.cells #[.int .i64 0] 3)).alloc (.cells #[.int .i64 (-1)] 3)).alloc (.cells #[.slice A n cap] 23)
  have bR := ((Boxed.new (w.alloc (.cells #[.int .i64 p.x, .int .i64 p.y] 44)) 3 (.int .i64 0)).alloc (.cells #[.int .i64 (-1)] 3)).alloc (.cells #[.slice A n cap] 23)
  have bI := (Boxed.new ((w.alloc (.cells #[.int .i64 p.x, .int .i64 p.y] 44)).alloc (.cells #[.int .i64 0] 3)) 3 (.int .i64 (-1))).alloc (.cells #[.slice A n cap] 23)
  have bE := Boxed.new (((w.alloc (.cells #[.int .i64 p.x, .int .i64 p.y] 44)).alloc (.cells #[.int .i64 0] 3)).alloc (.cells #[.int .i64 (-1)] 3)) 23 (.slice A n cap)
  simp only [World.size_alloc] at bR bI bE
  have hB0 := ((((Below.refl w.heap.size w).alloc (Nat.le_refl _) (.cells #[.int .i64 p.x, .int .i64 p.y] 44)).alloc (by simp) (.cells #[.int .i64 0] 3)).alloc (by simp; omega) (.cells #[.int .i64 (-1)] 3)).alloc (by simp; omega) (.cells #[.slice A n cap] 23)
  have hr0 := hr.below hB0
  have hz0 : ((((w.alloc (.cells #[.int .i64 p.x, .int .i64 p.y] 44)).alloc (.cells #[.int .i64 0] 3)).alloc (.cells #[.int .i64 (-1)] 3)).alloc (.cells #[.slice A n cap] 23)).heap.size = w.heap.size + 4 := by simp
  generalize (((w.alloc (.cells #[.int .i64 p.x, .int .i64 p.y] 44)).alloc (.cells #[.int .i64 0] 3)).alloc (.cells #[.int .i64 (-1)] 3)).alloc (.cells #[.slice A n cap] 23) = w0 at *
  refine wpIn_rangeFunc_ownH rfl (by omega) (gf := 138) (lb := #[.pointer (some ⟨w.heap.size + 1 + 1 + 1, 0, none⟩)]) rfl trivial (enters_of Tryz.func138 (by kernel_rfl) rfl)
    (edges_stops 2 (by omega) w.heap.size (w.heap.size + 1 + 1 + 1) cap n A xs (by omega) w0 (by omega) (by omega) bE.cell hr0) (fun h k => h.trans k)
    (fun W l o o' hl h _ _ => ⟨by simp, fun i hi => World.putObj_heap_other (by omega)⟩) (Below.refl _ _) (fun _ => rfl)
    (fun pre W => (PtK W w.heap.size p ∧ Boxed W (w.heap.size + 1) 3 (.int .i64 0) ∧ Boxed W (w.heap.size + 1 + 1) 3 (.int .i64 (if oddL xs p pre = true then 1 else -1)) ∧ Boxed W (w.heap.size + 1 + 1 + 1) 23 (.slice A n cap) ∧ ∀ y ∈ pre, onE xs p y = false) ∧ Below w.heap.size w W)
    (fun c pre W => (c = .ret ∧ (∃ y ∈ pre, onE xs p y = true) ∧ Boxed W (w.heap.size + 1) 3 (.int .i64 0)) ∧ Below w.heap.size w W)
    (OwnFrom.and (Own.from (fun s X Y row hs hg hrow => ⟨blk_own _ _ (fun _ : Unit => _) () X Y row hs.1 hg hrow, boxed_own _ _ (fun _ : Unit => _) () X Y row hs.2.1 hg hrow, boxed_own _ _ (fun _ : Unit => _) () X Y row hs.2.2.1 hg hrow, boxed_own _ _ (fun _ : Unit => _) () X Y row hs.2.2.2.1 hg hrow, hs.2.2.2.2⟩) _) (ownFrom_below (Nat.le_refl _) (by omega)))
    (fun c => OwnFrom.and (Own.from (fun s X Y row hs hg hrow => ⟨hs.1, hs.2.1, boxed_own _ _ (fun _ : Unit => _) () X Y row hs.2.2 hg hrow⟩) _) (ownFrom_below (Nat.le_refl _) (by omega)))
    ⟨⟨bP, bR, bI, bE, by simp⟩, hB0⟩
    (fun x a' W => ∃ Bx, Blk W Bx 92 #[.int .i64 (ptAt xs x).x, .int .i64 (ptAt xs x).y, .int .i64 (ptAt xs ((x + 1) % xs.length)).x, .int .i64 (ptAt xs ((x + 1) % xs.length)).y] ∧
      a' = { tmps := #[.slice A n cap, .agg #[.int .i64 p.x, .int .i64 p.y], undef, .pointer (some ⟨w.heap.size, 0, none⟩), .pointer (some ⟨w.heap.size + 1, 0, none⟩), .pointer (some ⟨w.heap.size + 1 + 1, 0, none⟩), undef, .pointer (some ⟨Bx, 0, none⟩), undef, undef, undef, undef, undef, .slice A n cap, .func (.func 138) #[] #[.pointer (some ⟨w.heap.size + 1 + 1 + 1, 0, none⟩)], .int .i64 (x : Int), edgeV (ptAt xs x) (ptAt xs ((x + 1) % xs.length)), undef, undef, undef, undef, undef, undef, undef, undef, undef, undef, undef, undef, undef, undef, undef, undef, undef, undef, undef, undef, undef, undef, undef, undef, undef, undef, undef, undef, undef, undef, undef, undef, undef, undef, undef, undef, undef, undef, undef, undef], defers := [] })
    (fun x a' => fun s X Y row ⟨Bx, hs, e⟩ hg hrow => ⟨Bx, blk_own Bx _ (fun _ : Unit => _) () X Y row hs hg (fun r hr => (hrow r hr).2), e⟩) ?assign ?body ?done ?stop
  case assign =>
    rintro l pre x W K ⟨⟨bP', bR', bI', bE', hne⟩, hB'⟩ hK
    unfold edgeAt edgeV
    gi_wp2
    have hsz := hB'.size
    have hlt := bE'.lt
    refine hK _ _ ((KeepsOthers.alloc _ _).from _) (KeepE.alloc (by omega) hlt _) ⟨⟨bP'.alloc _, bR'.alloc _, bI'.alloc _, bE'.alloc _, hne⟩, hB'.alloc hB'.size _⟩ ⟨W.heap.size, Blk.new W _ _, rfl⟩
  case body =>
    rintro l pre x a' W hl ⟨r, hrr⟩ ⟨⟨bP', bR', bI', bE', hne⟩, hB'⟩ ⟨Bx, hBx, rfl⟩ hlen
    have hon : onE xs p x = onB (ptAt xs x) (ptAt xs ((x + 1) % xs.length)) p := rfl
    have hcr : crE xs p x = crB (ptAt xs x) (ptAt xs ((x + 1) % xs.length)) p := rfl
    have hpg := ptAt_good HG.out.1 x
    have hqg := ptAt_good HG.out.1 ((x + 1) % xs.length)
    have hsn : oddL xs p (pre ++ [x]) = xor (oddL xs p pre) (crE xs p x) := oddL_snoc xs p pre x
    obtain ⟨a, ha⟩ : ∃ a, a = ptAt xs x := ⟨_, rfl⟩
    obtain ⟨b, hb⟩ : ∃ b, b = ptAt xs ((x + 1) % xs.length) := ⟨_, rfl⟩
    rw [← ha, ← hb] at hBx hon hcr
    rw [← ha] at hpg
    rw [← hb] at hqg
    rw [← ha, ← hb]
    clear ha hb
    unfold edgeV
    have kO : ∀ V, Calls Tryz.prog 104 #[.agg #[.int .i64 a.x, .int .i64 a.y], .agg #[.int .i64 b.x, .int .i64 b.y], .agg #[.int .i64 p.x, .int .i64 p.y]] V fun e w' => e = .returned (.tuple #[.bool (onB a b p), .int .i64 0]) ∧ Below V.heap.size V w' := fun V => onW_any a b p V hpg hqg HG.out.2
    have kT : ∀ V, Calls Tryz.prog 182 #[.agg #[.int .i64 a.x, .int .i64 a.y], .agg #[.int .i64 b.x, .int .i64 b.y], .agg #[.int .i64 p.x, .int .i64 p.y]] V fun e w' => e = .returned (.tuple #[.int .i64 (sgn (cr a b p)), .int .i64 0]) ∧ Below V.heap.size V w' := fun V => turnW_any a b p V hpg hqg HG.out.2
    have HK := Lib.hid (And.intro kO (And.intro kT (And.intro hon (And.intro hcr hsn))))
    have hlt := bE'.lt
    have x1 : W.cell? ⟨Bx, 0, none⟩ = some (.int .i64 a.x) := by rw [Blk.cell hBx 0]; rfl
    have x2 : W.cell? ⟨Bx, 1, none⟩ = some (.int .i64 a.y) := by rw [Blk.cell hBx 1]; rfl
    have x3 : W.cell? ⟨Bx, 2, none⟩ = some (.int .i64 b.x) := by rw [Blk.cell hBx 2]; rfl
    have x4 : W.cell? ⟨Bx, 3, none⟩ = some (.int .i64 b.y) := by rw [Blk.cell hBx 3]; rfl
    obtain ⟨p1, p2, -, -, -⟩ := bP'.facts
    clear kO kT hon hcr hsn hpg hqg
    gi_wp2_with fail
    refine ⟨trivial, ?_⟩
    refine (CallsIn.inRound l (callsIn_wide.2 (HK.out.1 W))).mono ?_
    rintro e W1 ⟨rfl, hb1⟩
    have bP1 : PtK W1 w.heap.size p := bP'.on hb1
    have bR1 : Boxed W1 (w.heap.size + 1) 3 (.int .i64 0) := Blk.below bR' hb1 bR'.lt
    have bI1 : Boxed W1 (w.heap.size + 1 + 1) 3 (.int .i64 (if oddL xs p pre = true then 1 else -1)) := Blk.below bI' hb1 bI'.lt
    have bE1 : Boxed W1 (w.heap.size + 1 + 1 + 1) 23 (.slice A n cap) := Blk.below bE' hb1 bE'.lt
    have hBx1 := Blk.below hBx hb1 (Blk.lt hBx)
    have hB1 := below_on hB' (Nat.le_refl _) hb1
    have hE1 : KeepE w.heap.size (w.heap.size + 1 + 1 + 1) W W1 := KeepE.below hb1 (by omega) bE'.lt
    have Hk := Lib.hid (And.intro (keeps_below hb1) (And.intro hE1 (And.intro hB1 hne)))
    clear hE1 hb1 x1 x2 x3 x4 p1 p2 hBx bP' bR' bI' bE' hB' hrr hB1 hne
    rcases hob : onB a b p with _ | _
    · have hfl := Lib.hid ((flip_eq hob).symm.trans (by unfold flipB; rw [decide_eq_decide.mpr (sgn_gt (z := cr a b p)).symm] : flipB a b p = ((decide (p.y < a.y) != decide (p.y < b.y)) && (decide (0 < sgn (cr a b p)) == decide (p.y < b.y)))))
      have HO := Lib.hid hob
      clear hob
      obtain ⟨t, ht⟩ : ∃ t, t = sgn (cr a b p) := ⟨_, rfl⟩
      rw [← ht] at hfl HK
      clear ht
      have x1 : W1.cell? ⟨Bx, 0, none⟩ = some (.int .i64 a.x) := by rw [Blk.cell hBx1 0]; rfl
      have x2 : W1.cell? ⟨Bx, 1, none⟩ = some (.int .i64 a.y) := by rw [Blk.cell hBx1 1]; rfl
      have x3 : W1.cell? ⟨Bx, 2, none⟩ = some (.int .i64 b.x) := by rw [Blk.cell hBx1 2]; rfl
      have x4 : W1.cell? ⟨Bx, 3, none⟩ = some (.int .i64 b.y) := by rw [Blk.cell hBx1 3]; rfl
      obtain ⟨p1, p2, -, -, -⟩ := bP1.facts
      rcases d1 : decide (p.y < b.y) with _ | _
      · rcases d2 : decide (p.y < a.y) with _ | _
        · have hc : Hid (crE xs p x = false) := by show _ = _; rw [HK.out.2.2.2.1, hfl.out, d1, d2]; rfl
          clear hfl
          gi_wp2_with fail
          refine ⟨Hk.out.1.from _, Hk.out.2.1, ⟨bP1, bR1, by rw [HK.out.2.2.2.2, hc.out, Bool.xor_false]; exact bI1, bE1, fun y hy => (List.mem_append.1 hy).elim (Hk.out.2.2.2 y) (fun e => by simp at e; subst e; rw [HK.out.2.2.1, HO.out])⟩, Hk.out.2.2.1⟩
        · gi_wp2_with fail
          refine ⟨trivial, ?_⟩
          refine (CallsIn.inRound l (callsIn_wide.2 (HK.out.2.1 W1))).mono ?_
          rintro e W2 ⟨rfl, hb2⟩
          have bP2 : PtK W2 w.heap.size p := bP1.on hb2
          have bR2 : Boxed W2 (w.heap.size + 1) 3 (.int .i64 0) := Blk.below bR1 hb2 bR1.lt
          have bI2 : Boxed W2 (w.heap.size + 1 + 1) 3 (.int .i64 (if oddL xs p pre = true then 1 else -1)) := Blk.below bI1 hb2 bI1.lt
          have bE2 : Boxed W2 (w.heap.size + 1 + 1 + 1) 23 (.slice A n cap) := Blk.below bE1 hb2 bE1.lt
          have hB2 := below_on Hk.out.2.2.1 (Nat.le_refl _) hb2
          have hE2 : KeepE w.heap.size (w.heap.size + 1 + 1 + 1) W1 W2 := KeepE.below hb2 (by have := bE1.lt; omega) bE1.lt
          have Hk2 := Lib.hid (And.intro (Hk.out.1.trans (keeps_below hb2)) (And.intro (Hk.out.2.1.trans hE2) (And.intro hB2 Hk.out.2.2.2)))
          clear hE2 hb2 x1 x2 x3 x4 p1 p2 hBx1 bP1 bR1 bI1 bE1 hB2 Hk
          rcases d3 : decide (0 < t) with _ | _
          · have hc : Hid (crE xs p x = true) := by show _ = _; rw [HK.out.2.2.2.1, hfl.out, d1, d2, d3]; rfl
            clear hfl
            have i1 := bI2.cell
            have i2 := bI2.frozen
            rcases ho : oddL xs p pre with _ | _
            · rw [ho] at i1
              have hn2 : Hid ((if oddL xs p (pre ++ [x]) = true then (1 : Int) else -1) = 1) := by show _ = _; rw [HK.out.2.2.2.2, hc.out, ho]; rfl
              clear ho
              simp only [if_false, Bool.false_eq_true] at i1
              gi_wp2_with fail
              refine ⟨(Hk2.out.1.trans (KeepsOthers.setCell _ _ _)).from _, Hk2.out.2.1.trans ⟨by simp, fun i hi => Below.heap_setCell _ _ _ i (by simp only; omega)⟩, ⟨Blk.far bP2 (by simp only; omega) _, Blk.far bR2 (by simp only; omega) _, by rw [hn2.out]; exact bI2.set _, Blk.far bE2 (by simp only; omega) _, fun y hy => (List.mem_append.1 hy).elim (Hk2.out.2.2.2 y) (fun e => by simp at e; subst e; rw [HK.out.2.2.1, HO.out])⟩, Hk2.out.2.2.1.setCell (p := ⟨w.heap.size + 1 + 1, 0, none⟩) (by simp only; omega) _⟩
            · rw [ho] at i1
              have hn2 : Hid ((if oddL xs p (pre ++ [x]) = true then (1 : Int) else -1) = -1) := by show _ = _; rw [HK.out.2.2.2.2, hc.out, ho]; rfl
              clear ho
              simp only [if_true] at i1
              gi_wp2_with fail
              refine ⟨(Hk2.out.1.trans (KeepsOthers.setCell _ _ _)).from _, Hk2.out.2.1.trans ⟨by simp, fun i hi => Below.heap_setCell _ _ _ i (by simp only; omega)⟩, ⟨Blk.far bP2 (by simp only; omega) _, Blk.far bR2 (by simp only; omega) _, by rw [hn2.out]; exact bI2.set _, Blk.far bE2 (by simp only; omega) _, fun y hy => (List.mem_append.1 hy).elim (Hk2.out.2.2.2 y) (fun e => by simp at e; subst e; rw [HK.out.2.2.1, HO.out])⟩, Hk2.out.2.2.1.setCell (p := ⟨w.heap.size + 1 + 1, 0, none⟩) (by simp only; omega) _⟩
          · have hc : Hid (crE xs p x = false) := by show _ = _; rw [HK.out.2.2.2.1, hfl.out, d1, d2, d3]; rfl
            clear hfl
            gi_wp2_with fail
            refine ⟨Hk2.out.1.from _, Hk2.out.2.1, ⟨bP2, bR2, by rw [HK.out.2.2.2.2, hc.out, Bool.xor_false]; exact bI2, bE2, fun y hy => (List.mem_append.1 hy).elim (Hk2.out.2.2.2 y) (fun e => by simp at e; subst e; rw [HK.out.2.2.1, HO.out])⟩, Hk2.out.2.2.1⟩
      · rcases d2 : decide (p.y < a.y) with _ | _
        · gi_wp2_with fail
          refine ⟨trivial, ?_⟩
          refine (CallsIn.inRound l (callsIn_wide.2 (HK.out.2.1 W1))).mono ?_
          rintro e W2 ⟨rfl, hb2⟩
          have bP2 : PtK W2 w.heap.size p := bP1.on hb2
          have bR2 : Boxed W2 (w.heap.size + 1) 3 (.int .i64 0) := Blk.below bR1 hb2 bR1.lt
          have bI2 : Boxed W2 (w.heap.size + 1 + 1) 3 (.int .i64 (if oddL xs p pre = true then 1 else -1)) := Blk.below bI1 hb2 bI1.lt
          have bE2 : Boxed W2 (w.heap.size + 1 + 1 + 1) 23 (.slice A n cap) := Blk.below bE1 hb2 bE1.lt
          have hB2 := below_on Hk.out.2.2.1 (Nat.le_refl _) hb2
          have hE2 : KeepE w.heap.size (w.heap.size + 1 + 1 + 1) W1 W2 := KeepE.below hb2 (by have := bE1.lt; omega) bE1.lt
          have Hk2 := Lib.hid (And.intro (Hk.out.1.trans (keeps_below hb2)) (And.intro (Hk.out.2.1.trans hE2) (And.intro hB2 Hk.out.2.2.2)))
          clear hE2 hb2 x1 x2 x3 x4 p1 p2 hBx1 bP1 bR1 bI1 bE1 hB2 Hk
          rcases d3 : decide (0 < t) with _ | _
          · have hc : Hid (crE xs p x = false) := by show _ = _; rw [HK.out.2.2.2.1, hfl.out, d1, d2, d3]; rfl
            clear hfl
            gi_wp2_with fail
            refine ⟨Hk2.out.1.from _, Hk2.out.2.1, ⟨bP2, bR2, by rw [HK.out.2.2.2.2, hc.out, Bool.xor_false]; exact bI2, bE2, fun y hy => (List.mem_append.1 hy).elim (Hk2.out.2.2.2 y) (fun e => by simp at e; subst e; rw [HK.out.2.2.1, HO.out])⟩, Hk2.out.2.2.1⟩
          · have hc : Hid (crE xs p x = true) := by show _ = _; rw [HK.out.2.2.2.1, hfl.out, d1, d2, d3]; rfl
            clear hfl
            have i1 := bI2.cell
            have i2 := bI2.frozen
            rcases ho : oddL xs p pre with _ | _
            · rw [ho] at i1
              have hn2 : Hid ((if oddL xs p (pre ++ [x]) = true then (1 : Int) else -1) = 1) := by show _ = _; rw [HK.out.2.2.2.2, hc.out, ho]; rfl
              clear ho
              simp only [if_false, Bool.false_eq_true] at i1
              gi_wp2_with fail
              refine ⟨(Hk2.out.1.trans (KeepsOthers.setCell _ _ _)).from _, Hk2.out.2.1.trans ⟨by simp, fun i hi => Below.heap_setCell _ _ _ i (by simp only; omega)⟩, ⟨Blk.far bP2 (by simp only; omega) _, Blk.far bR2 (by simp only; omega) _, by rw [hn2.out]; exact bI2.set _, Blk.far bE2 (by simp only; omega) _, fun y hy => (List.mem_append.1 hy).elim (Hk2.out.2.2.2 y) (fun e => by simp at e; subst e; rw [HK.out.2.2.1, HO.out])⟩, Hk2.out.2.2.1.setCell (p := ⟨w.heap.size + 1 + 1, 0, none⟩) (by simp only; omega) _⟩
            · rw [ho] at i1
              have hn2 : Hid ((if oddL xs p (pre ++ [x]) = true then (1 : Int) else -1) = -1) := by show _ = _; rw [HK.out.2.2.2.2, hc.out, ho]; rfl
              clear ho
              simp only [if_true] at i1
              gi_wp2_with fail
              refine ⟨(Hk2.out.1.trans (KeepsOthers.setCell _ _ _)).from _, Hk2.out.2.1.trans ⟨by simp, fun i hi => Below.heap_setCell _ _ _ i (by simp only; omega)⟩, ⟨Blk.far bP2 (by simp only; omega) _, Blk.far bR2 (by simp only; omega) _, by rw [hn2.out]; exact bI2.set _, Blk.far bE2 (by simp only; omega) _, fun y hy => (List.mem_append.1 hy).elim (Hk2.out.2.2.2 y) (fun e => by simp at e; subst e; rw [HK.out.2.2.1, HO.out])⟩, Hk2.out.2.2.1.setCell (p := ⟨w.heap.size + 1 + 1, 0, none⟩) (by simp only; omega) _⟩
        · have hc : Hid (crE xs p x = false) := by show _ = _; rw [HK.out.2.2.2.1, hfl.out, d1, d2]; rfl
          clear hfl
          gi_wp2_with fail
          refine ⟨Hk.out.1.from _, Hk.out.2.1, ⟨bP1, bR1, by rw [HK.out.2.2.2.2, hc.out, Bool.xor_false]; exact bI1, bE1, fun y hy => (List.mem_append.1 hy).elim (Hk.out.2.2.2 y) (fun e => by simp at e; subst e; rw [HK.out.2.2.1, HO.out])⟩, Hk.out.2.2.1⟩
    · have i1 := bR1.cell
      have i2 := bR1.frozen
      clear hBx1 bP1 bI1
      gi_wp2_with fail
      refine ⟨(Hk.out.1.trans (KeepsOthers.setCell _ _ _)).from _, ⟨rfl, ⟨x, by simp, by rw [HK.out.2.2.1, hob]⟩, bR1.set _⟩, Hk.out.2.2.1.setCell (p := ⟨w.heap.size + 1, 0, none⟩) (by simp) _⟩
  case done =>
    rintro D ys W hD rfl ⟨⟨bP', bR', bI', bE', hne⟩, hB'⟩ hK
    have hl : xs.length = n := hr.lenPt
    have hs : sideI xs p = if oddL xs p (List.range n) = true then 1 else -1 := by
      rw [sideI_off (fun y hy => hne y (List.mem_range.2 (by omega))), hl, oddL_range]
    obtain ⟨z, hz⟩ : ∃ z : Int, z = if oddL xs p (List.range n) = true then 1 else -1 := ⟨_, rfl⟩
    rw [← hz] at hs bI'
    have HS := Lib.hid hs
    have i1 := bI'.cell
    have i2 := bR'.frozen
    have i3 := bR'.cell
    clear hz hs hne hl
    gi_wp2_with fail
    have hK' := (KeepsOthers.setCell W ⟨w.heap.size + 1, 0, none⟩ (.int .i64 z)).same D _ hK rfl
    refine ⟨by simp, .inl ⟨_, _, rfl, run_takeDeferred hK', ?_⟩⟩
    have hc5 := cell_kept (bR'.set (.int .i64 z)).cell (grownBy_putObj' _ D (.deferred none)) (fun r e => by cases e; exact ⟨_, hK', rfl⟩)
    refine ⟨.int .i64 z, ?_, by rw [HS.out], (hB'.setCell (p := ⟨w.heap.size + 1, 0, none⟩) (by simp) _).trans (belowK_b (w := w) (Nat.le_refl _) _ D _ _ (by omega) hK' rfl rfl)⟩
    simp [results, Tryz.results137, go_sem, hc5]
  case stop =>
    rintro D c pre W hD ⟨k, hk, rfl⟩ ⟨⟨rfl, ⟨y, hy, hon⟩, bR'⟩, hB'⟩ hK
    have hl : xs.length = n := hr.lenPt
    have hs : sideI xs p = 0 := sideI_on (k := y) (by rw [List.mem_range] at hy; omega) hon
    have i3 := bR'.cell
    gi_wp2
    refine ⟨by simp, .inl ⟨_, _, rfl, run_takeDeferred hK, ?_⟩⟩
    have hc5 := cell_kept i3 (grownBy_putObj' _ D (.deferred none)) (fun r e => by cases e; exact ⟨_, hK, rfl⟩)
    refine ⟨.int .i64 0, ?_, by rw [hs], hB'.trans (belowK_b (w := w) (Nat.le_refl _) W D _ _ (by omega) hK rfl rfl)⟩
    simp [results, Tryz.results137, go_sem, hc5]
end Go.Proofs.YtmegmokjjlelgaaGreat
namespace Go.Proofs.YtmegmokjjlelgaaGreat
open Go.RowKit
/-- A block that holds the four corners. -/
def HasCor (w : World) (g : Nat) (v : Win) : Prop := w.cell? ⟨g, 0, none⟩ = some (.int .i64 v.lx) ∧ w.cell? ⟨g, 1, none⟩ = some (.int .i64 v.ly) ∧ w.cell? ⟨g, 2, none⟩ = some (.int .i64 v.hx) ∧ w.cell? ⟨g, 3, none⟩ = some (.int .i64 v.ly) ∧ w.cell? ⟨g, 4, none⟩ = some (.int .i64 v.hx) ∧ w.cell? ⟨g, 5, none⟩ = some (.int .i64 v.hy) ∧ w.cell? ⟨g, 6, none⟩ = some (.int .i64 v.lx) ∧ w.cell? ⟨g, 7, none⟩ = some (.int .i64 v.hy) ∧ g < w.heap.size
theorem HasCor.on {w w' : World} {g : Nat} {v : Win} (h : HasCor w g v) (hb : Below w.heap.size w w') : HasCor w' g v := by
  obtain ⟨h0, h1, h2, h3, h4, h5, h6, h7, hg⟩ := h
  exact ⟨(hb.cell (p := ⟨g, 0, none⟩) hg).trans h0, (hb.cell (p := ⟨g, 1, none⟩) hg).trans h1, (hb.cell (p := ⟨g, 2, none⟩) hg).trans h2, (hb.cell (p := ⟨g, 3, none⟩) hg).trans h3, (hb.cell (p := ⟨g, 4, none⟩) hg).trans h4, (hb.cell (p := ⟨g, 5, none⟩) hg).trans h5, (hb.cell (p := ⟨g, 6, none⟩) hg).trans h6, (hb.cell (p := ⟨g, 7, none⟩) hg).trans h7, Nat.lt_of_lt_of_le hg hb.size⟩
end Go.Proofs.YtmegmokjjlelgaaGreat
namespace Go.Proofs.YtmegmokjjlelgaaGreat
open Go.RowKit Go.Shelf
theorem within_any (xs : List Pt) (p : Pt) (A : Option Addr) (n cap : Nat) (w : World) (hr : Reads w w.heap.size 2 A n (ptsV xs)) (hn : n ≤ 128) (hg : goodL xs = true) (hp : good p = true) :
    Calls Tryz.prog 101 #[.slice A n cap, .agg #[.int .i64 p.x, .int .i64 p.y]] w fun e w' => e = .returned (.int .i64 (sideI xs p)) ∧ Below w.heap.size w w' := by
  have hb0 := (Below.refl w.heap.size w).alloc (Nat.le_refl _) (.cells #[.int .i64 p.x, .int .i64 p.y] 44)
  have hk : Calls Tryz.prog 137 #[.slice A n cap, .agg #[.int .i64 p.x, .int .i64 p.y]] (w.alloc (.cells #[.int .i64 p.x, .int .i64 p.y] 44)) fun e w' => e = .returned (.int .i64 (sideI xs p)) ∧ Below (w.alloc (.cells #[.int .i64 p.x, .int .i64 p.y] 44)).heap.size (w.alloc (.cells #[.int .i64 p.x, .int .i64 p.y] 44)) w' := side_any xs p A n cap _ ((hr.below hb0).more hb0.size) hn hg hp
  generalize sideI xs p = z at *
  have HK := Lib.hid (And.intro hk hb0)
  clear hk hb0 hr hg hp
  go_enter Tryz.func101, Tryz.ntmps101
  go_wp2_with fail
  with_reducible refine HK.out.1.mono ?_
  rintro e w1 ⟨rfl, hb1⟩
  have hB1 := below_on HK.out.2 (Nat.le_refl _) hb1
  clear hb1 HK
  go_wp2_with fail
  go_ret
  exact ⟨rfl, hB1⟩
end Go.Proofs.YtmegmokjjlelgaaGreat
namespace Go.Proofs.YtmegmokjjlelgaaGreat
open Go.RowKit Go.Lib
def TwoB (W V : World) (x y : Value) (a b : Pt) : Prop := ∃ g1 g2, x = .pointer (some ⟨g1, 0, none⟩) ∧ y = .pointer (some ⟨g2, 0, none⟩) ∧ PtK V g1 a ∧ PtK V g2 b ∧ Below W.heap.size W V
theorem twoB_1 {W : World} {a b : Pt} : TwoB W ((W.alloc (.cells #[.int .i64 a.x, .int .i64 a.y] 44)).alloc (.cells #[.int .i64 b.x, .int .i64 b.y] 44)).drew (.pointer (some ⟨W.heap.size, 0, none⟩)) (.pointer (some ⟨W.heap.size + 1, 0, none⟩)) a b := by
  refine ⟨_, _, rfl, rfl, Blk.drew (Blk.alloc (PtK.new W a) _), ?_, (((Below.refl W.heap.size W).alloc (Nat.le_refl _) _).alloc (by simp) _).drew⟩
  have := PtK.new (W.alloc (.cells #[.int .i64 a.x, .int .i64 a.y] 44)) b
  rw [World.size_alloc] at this
  exact Blk.drew this
theorem twoB_2 {W : World} {a b : Pt} : TwoB W ((W.alloc (.cells #[.int .i64 b.x, .int .i64 b.y] 44)).alloc (.cells #[.int .i64 a.x, .int .i64 a.y] 44)).drew (.pointer (some ⟨W.heap.size + 1, 0, none⟩)) (.pointer (some ⟨W.heap.size, 0, none⟩)) a b := by
  obtain ⟨g1, g2, h1, h2, k1, k2, hb⟩ := twoB_1 (W := W) (a := b) (b := a)
  exact ⟨g2, g1, h2, h1, k2, k1, hb⟩
def FtF (p : Plan) (path : List Pt) (A : Option Addr) (n c : Nat) (A' : Option Addr) (n' c' : Nat) (B : Option Addr) (m : Nat) (w W : World) : Prop := Below w.heap.size w W ∧ PlK W w.heap.size A n c A' n' c' ∧ PlanAt W W.heap.size A n c A' n' c' p ∧ Reads W W.heap.size 2 B m (ptsV path)
theorem FtF.on {p : Plan} {path : List Pt} {A A' B : Option Addr} {n c n' c' m : Nat} {w W W' : World} (h : FtF p path A n c A' n' c' B m w W) (hb : Below W.heap.size W W') : FtF p path A n c A' n' c' B m w W' :=
  ⟨below_on h.1 (Nat.le_refl _) hb, h.2.1.on hb, h.2.2.1.on hb, h.2.2.2.on hb⟩
theorem fault_2 {p : Plan} {id fresh : Int} {path : List Pt} (h : planB p = false) : faultI p id path fresh = 2 := by unfold faultI; rw [if_pos h]
theorem fault_5 {p : Plan} {id fresh : Int} {path : List Pt} (h : planB p = true) (h1 : atP p.parcels id < 0) : faultI p id path fresh = 5 := by unfold faultI; rw [if_neg (by rw [h]; decide), if_pos h1]
theorem fault_rest {p : Plan} {id fresh : Int} {path : List Pt} (h : planB p = true) (h1 : ¬ atP p.parcels id < 0) : faultI p id path fresh = if idB fresh = false ∨ path.length < 2 ∨ 128 < path.length then 1 else if 0 ≤ atP p.parcels fresh then 6 else if goodL path = false then 3 else
  if ptAt path 0 = ptAt path (path.length - 1) ∨ sideI (pcAt p.parcels (atP p.parcels id).toNat).ring (ptAt path 0) ≠ 0 ∨ sideI (pcAt p.parcels (atP p.parcels id).toNat).ring (ptAt path (path.length - 1)) ≠ 0 then 7 else 0 := by unfold faultI; rw [if_neg (by rw [h]; decide), if_neg h1]
theorem hldF {W V V' : World} {a0 a1 a2 a3 : Addr} {v0 v1 v2 v3 : Value} (hh : a0.block < W.heap.size ∧ a1.block < W.heap.size ∧ a2.block < W.heap.size ∧ a3.block < W.heap.size) (hs : V.cell? a0 = some v0 ∧ V.cell? a1 = some v1 ∧ V.cell? a2 = some v2 ∧ V.cell? a3 = some v3 ∧ Below W.heap.size W V) (hb : Below V.heap.size V V') :
    V'.cell? a0 = some v0 ∧ V'.cell? a1 = some v1 ∧ V'.cell? a2 = some v2 ∧ V'.cell? a3 = some v3 ∧ Below W.heap.size W V' := by
  obtain ⟨h0, h1, h2, h3⟩ := hh
  obtain ⟨c0, c1, c2, c3, cb⟩ := hs
  have := cb.size
  have k : ∀ {a : Addr} {v : Value}, a.block < W.heap.size → V.cell? a = some v → V'.cell? a = some v := fun {a v} ha hv => (hb.cell (p := a) (by omega)).trans hv
  exact ⟨k h0 c0, k h1 c1, k h2 c2, k h3 c3, below_on cb (Nat.le_refl _) hb⟩
set_option maxRecDepth 100000 in
set_option maxHeartbeats 6400000 in
theorem fault_any (p : Plan) (id fresh : Int) (path : List Pt) (A A' B : Option Addr) (n c n' c' m cb : Nat) (w : World) (h : PlanAt w w.heap.size A n c A' n' c' p) (hr : Reads w w.heap.size 2 B m (ptsV path)) (hx : ∀ q ∈ path, q.inI) (hm : m ≤ 8796093022208) :
    Calls Tryz.prog 59 #[planV A n c A' n' c', .int .i64 id, .slice B m cb, .int .i64 fresh] w fun e w' => e = .returned (.int .i64 (faultI p id path fresh)) ∧ Below w.heap.size w w' := by
  obtain ⟨wa, hwa⟩ : ∃ wa : World, wa = w.alloc (.cells #[.slice A n c, .slice A' n' c'] 26) := ⟨_, rfl⟩
  have hF : FtF p path A n c A' n' c' B m w wa := by
    have hB0 : Below w.heap.size w wa := by rw [hwa]; exact (Below.refl _ _).alloc (Nat.le_refl _) _
    exact ⟨hB0, by rw [hwa]; exact PlK.new w A n c A' n' c', h.on hB0, hr.on hB0⟩
  have hl := hr.lenPt
  have H0 := Lib.hid hF
  have HX := Lib.hid (And.intro hl hx)
  have KA := Lib.hid (at_any p id A A' n c n' c' wa hF.2.2.1)
  obtain ⟨q1, q2, q3⟩ := hF.2.1.facts
  clear hF h hr hl hx
  go_enter Tryz.func59, Tryz.ntmps59
  go_upto_region 1 with fail
  rw [← hwa]
  clear hwa
  go_wp2_with fail
  refine KA.out.mono ?_
  rintro e w1 ⟨rfl, hb1⟩
  have H1 := Lib.hid (H0.out.on hb1)
  obtain ⟨z, hz⟩ : ∃ z, z = atP p.parcels id := ⟨_, rfl⟩
  rw [← hz]
  have HZ := Lib.hid hz
  have kC := checkPl_any p A A' n c n' c' w1 H1.out.2.2.1
  clear hb1 H0 KA q1 q2 q3 hz
  obtain ⟨q1, q2, q3⟩ := H1.out.2.1.facts
  rcases hpb : planB p with _ | _
  · have hme := fault_2 (id := id) (fresh := fresh) (path := path) hpb
    have HM := Lib.hid hme
    rw [planE_b0 hpb] at kC
    have KC := Lib.hid kC
    clear kC hme hpb
    go_wp2_with fail
    refine KC.out.mono ?_
    rintro e w2 ⟨rfl, hb2⟩
    have HB := Lib.hid (H1.out.on hb2).1
    clear hb2 H1 KC q1 q2 q3
    go_wp2_with fail
    go_ret
    exact ⟨by rw [HM.out]; rfl, HB.out⟩
  rw [planE_b1 hpb] at kC
  have KC := Lib.hid kC
  have HS := Lib.hid (planB_sound hpb)
  have HPB := Lib.hid hpb
  clear kC hpb
  by_cases hz0 : z < 0
  · have HM := Lib.hid (fault_5 (id := id) (fresh := fresh) (path := path) HPB.out (by rw [← HZ.out]; exact hz0))
    go_wp2_with fail
    refine KC.out.mono ?_
    rintro e w2 ⟨rfl, hb2⟩
    have HB := Lib.hid (H1.out.on hb2).1
    clear hb2 H1 KC q1 q2 q3
    go_wp2_with fail
    go_ret
    exact ⟨by rw [HM.out]; rfl, HB.out⟩
  obtain ⟨k, hk, rfl⟩ : ∃ k : Nat, k < p.parcels.length ∧ z = (k : Int) := by
    rcases atP_cases p.parcels id with ⟨e, -⟩ | ⟨k, hk, e, -⟩
    · have := HZ.out; omega
    · exact ⟨k, hk, HZ.out.trans e⟩
  have hE := fault_rest (id := id) (fresh := fresh) (path := path) HPB.out (by rw [← HZ.out]; exact hz0)
  rw [← HZ.out, Int.toNat_natCast, HX.out.1] at hE
  have HE := Lib.hid hE
  have HK := Lib.hid hk
  clear hE hk
  have hE1 : (idB fresh = false ∨ m < 2 ∨ 128 < m) → faultI p id path fresh = 1 := fun h => by rw [HE.out, if_pos h]
  have hE2 : ¬ (idB fresh = false ∨ m < 2 ∨ 128 < m) → faultI p id path fresh = if 0 ≤ atP p.parcels fresh then 6 else if goodL path = false then 3 else if ptAt path 0 = ptAt path (m - 1) ∨ sideI (pcAt p.parcels k).ring (ptAt path 0) ≠ 0 ∨ sideI (pcAt p.parcels k).ring (ptAt path (m - 1)) ≠ 0 then 7 else 0 := fun h => by rw [HE.out, if_neg h]
  go_upto_region 2 with fail
  go_wp2_with fail
  refine KC.out.mono ?_
  rintro e w2 ⟨rfl, hb2⟩
  have H2 := Lib.hid (H1.out.on hb2)
  clear hb2 H1 KC q1 q2 q3 HE
  have kI := fun V => idP_any fresh V
  obtain ⟨bi, hbi⟩ : ∃ b, b = idB fresh := ⟨_, rfl⟩
  rw [← hbi] at kI hE1 hE2
  have HB2 := Lib.hid H2.out.1
  rcases bi with _ | _
  · have HM := Lib.hid (hE1 (.inl rfl))
    clear hE1 hE2 hbi H2
    go_wp2_with fail
    refine (kI _).mono ?_
    rintro e w3 ⟨rfl, rfl⟩
    clear kI
    go_wp2_with fail
    go_ret
    exact ⟨by rw [HM.out]; rfl, HB2.out⟩
  by_cases h2 : m < 2
  · have HM := Lib.hid (hE1 (.inr (.inl h2)))
    have h2' : (m : Int) < 2 := by omega
    clear hE1 hE2 hbi H2
    go_wp2_with fail
    refine (kI _).mono ?_
    rintro e w3 ⟨rfl, rfl⟩
    clear kI
    go_wp2_with fail
    go_ret
    exact ⟨by rw [HM.out]; rfl, HB2.out⟩
  have h2' : ¬ (m : Int) < 2 := by omega
  by_cases h3 : 128 < m
  · have HM := Lib.hid (hE1 (.inr (.inr h3)))
    have h3' : (128 : Int) < (m : Int) := by omega
    clear hE1 hE2 hbi H2
    go_wp2_with fail
    refine (kI _).mono ?_
    rintro e w3 ⟨rfl, rfl⟩
    clear kI
    go_wp2_with fail
    go_ret
    exact ⟨by rw [HM.out]; rfl, HB2.out⟩
  have h3' : ¬ (128 : Int) < (m : Int) := by omega
  have HE := Lib.hid (hE2 (by simp [h2, h3]))
  clear hE1 hE2 hbi
  go_wp2_with fail
  refine (kI _).mono ?_
  rintro e w3 ⟨rfl, rfl⟩
  clear kI
  go_upto_region 8 with fail
  clear h2' h3'
  obtain ⟨q1, q2, q3⟩ := H2.out.2.1.facts
  have kF := at_any p fresh A A' n c n' c' w2 H2.out.2.2.1
  obtain ⟨zf, hzf⟩ : ∃ z, z = atP p.parcels fresh := ⟨_, rfl⟩
  have hE := HE.out
  rw [← hzf] at kF hE
  have KF := Lib.hid kF
  clear kF HE hzf
  by_cases h4 : 0 ≤ zf
  · rw [if_pos h4] at hE
    have HM := Lib.hid hE
    clear hE
    go_wp2_with fail
    refine KF.out.mono ?_
    rintro e w3 ⟨rfl, hb3⟩
    have HB := Lib.hid (H2.out.on hb3).1
    clear hb3 H2 KF q1 q2 q3
    go_wp2_with fail
    go_ret
    exact ⟨by rw [HM.out]; rfl, HB.out⟩
  rw [if_neg h4] at hE
  have HE := Lib.hid hE
  clear hE
  go_wp2_with fail
  refine KF.out.mono ?_
  rintro e w3 ⟨rfl, hb3⟩
  have H3 := Lib.hid (H2.out.on hb3)
  have HB3 := Lib.hid H3.out.1
  clear hb3 H2 KF q1 q2 q3 HB2
  go_upto_region 10 with fail
  clear h4
  have kG := good_any path B m cb w3 H3.out.2.2.2 (by omega) HX.out.2
  have hE := HE.out
  rcases hgd : goodL path with _ | _
  · rw [hgd] at kG hE
    have KG := Lib.hid kG
    have HM := Lib.hid (hE.trans (if_pos rfl))
    clear kG hE hgd
    go_wp2_with fail
    refine KG.out.mono ?_
    rintro e w4 ⟨rfl, hb4⟩
    have HB := Lib.hid (H3.out.on hb4).1
    clear hb4 H3 KG
    go_wp2_with fail
    go_ret
    exact ⟨by rw [HM.out]; rfl, HB.out⟩
  rw [hgd] at kG hE
  have KG := Lib.hid kG
  rw [if_neg (by decide)] at hE
  have HG := Lib.hid hgd
  clear kG hgd HE
  have e0 := goodL_mem HG.out (show ptAt path 0 ∈ path from ptAt_mem (by have := HX.out.1; omega))
  have e1 := goodL_mem HG.out (show ptAt path (m - 1) ∈ path from ptAt_mem (by have := HX.out.1; omega))
  obtain ⟨a, ha⟩ : ∃ a, a = ptAt path 0 := ⟨_, rfl⟩
  obtain ⟨b, hb⟩ : ∃ b, b = ptAt path (m - 1) := ⟨_, rfl⟩
  rw [← ha, ← hb] at hE
  rw [← ha] at e0
  rw [← hb] at e1
  have HE := Lib.hid hE
  have HAB := Lib.hid (And.intro ha (And.intro hb (And.intro e0 e1)))
  clear ha hb e0 e1 hE
  go_wp2_with fail
  refine KG.out.mono ?_
  rintro e w4 ⟨rfl, hb4⟩
  have H4 := Lib.hid (H3.out.on hb4)
  clear hb4 H3 KG HB3
  obtain ⟨W, hW⟩ : ∃ W, W = w4 := ⟨_, rfl⟩
  rw [← hW] at H4
  go_upto_region 12 with fail
  rw [← hW]
  clear hW w4
  obtain ⟨q1, q2, q3⟩ := H4.out.2.1.facts
  have hkn : k < n' := by have := H4.out.2.2.1.lens.2.1; have := HK.out; omega
  have hkn' : (k : Int) < (n' : Int) := by omega
  obtain ⟨ad', rfl⟩ := H4.out.2.2.1.parcs.some_ (by omega)
  obtain ⟨-, -, ⟨Ak, nk, ck, p5, hrk, -, -⟩, -⟩ := H4.out.2.2.1.parcs.at_ hkn
  obtain ⟨rr, hrr⟩ : ∃ rr, rr = (pcAt p.parcels k).ring := ⟨_, rfl⟩
  have hsr := sound_ring HS.out (xs := rr) (.inr ⟨pcAt p.parcels k, by rw [pcAt_lt HK.out]; exact List.getElem_mem _, hrr⟩)
  have hE := HE.out
  rw [← hrr] at hrk hE
  have hrl := hrk.lenPt
  have HR := Lib.hid (And.intro hrk (And.intro (by omega : nk ≤ 128) hsr.1))
  have HE := Lib.hid hE
  clear hrk hrr hsr hrl hE
  obtain ⟨ad, rfl, -, -, -, -⟩ := H4.out.2.2.2.pt (k := 0) (by omega)
  obtain ⟨had, p1, p2⟩ := H4.out.2.2.2.ptA (k := 0) (by omega)
  obtain ⟨m1, hm1⟩ : ∃ m1, m1 = m - 1 := ⟨_, rfl⟩
  obtain ⟨-, p3, p4⟩ := H4.out.2.2.2.ptA (k := m1) (by omega)
  rw [show ptAt path 0 = a from HAB.out.1.symm, show ad.add (0 * 2) = ad by simp [Addr.add]] at p1 p2
  rw [show ptAt path m1 = b by rw [hm1]; exact HAB.out.2.1.symm] at p3 p4
  have hmi : IntKind.i64.wrap ((m : Int) - 1) = (m1 : Int) := by rw [IntKind.wrap_i64]; omega
  have hm0 : (0 : Int) < (m : Int) := by omega
  have hm2 : (m1 : Int) < (m : Int) := by omega
  have hk0 : ¬ (k : Int) < 0 := by omega
  have hm3 : m1 < m := by omega
  have HM1 := Lib.hid hm1
  clear hm1
  go_upto_region 13 with fail
  clear q1 q2 p5 hkn' hk0 hz0
  have hm00 : 0 < m := by omega
  have hh : ad.block < W.heap.size ∧ (⟨ad.block, ad.off + 1, none⟩ : Addr).block < W.heap.size ∧ (ad.add (m1 * 2)).block < W.heap.size ∧ (⟨(ad.add (m1 * 2)).block, (ad.add (m1 * 2)).off + 1, none⟩ : Addr).block < W.heap.size := by simp only [block_of_add]; exact ⟨had, had, had, had⟩
  have hP0 : W.drew.cell? ad = some (.int .i64 a.x) ∧ W.drew.cell? ⟨ad.block, ad.off + 1, none⟩ = some (.int .i64 a.y) ∧ W.drew.cell? (ad.add (m1 * 2)) = some (.int .i64 b.x) ∧ W.drew.cell? ⟨(ad.add (m1 * 2)).block, (ad.add (m1 * 2)).off + 1, none⟩ = some (.int .i64 b.y) ∧ Below W.heap.size W W.drew := ⟨p1, p2, p3, p4, (Below.refl _ _).drew⟩
  clear p1 p2 p3 p4 had
  go_cut [11, 12] (fun x y wx => TwoB W wx x y a b)
  case first =>
    refine wp_region_held_drew (S := fun V => V.cell? ad = some (.int .i64 a.x) ∧ V.cell? ⟨ad.block, ad.off + 1, none⟩ = some (.int .i64 a.y) ∧ V.cell? (ad.add (m1 * 2)) = some (.int .i64 b.x) ∧ V.cell? ⟨(ad.add (m1 * 2)).block, (ad.add (m1 * 2)).off + 1, none⟩ = some (.int .i64 b.y) ∧ Below W.heap.size W V) (by kernel_rfl) ?_ (fun hHeld => ?_)
    · exact hP0
    refine tk 0 ?_
    refine tk 1 ?_
    refine tk 2 ?_
    refine tk 3 ?_
    refine tk 4 ?_
    refine tk 5 ?_
    refine tk 6 ?_
    refine tk 7 ?_
    refine tk 8 ?_
    refine wpAnyH_ready (rs := [9, 10]) (by kernel_rfl) (by simp) ?_
    refine AllReadyH.cons rfl (fun K hK => ?_) (AllReadyH.cons rfl (fun K hK => ?_) AllReadyH.nil)
    · go_simp
      refine hK.out _ _ ?_ (fun hHeld => ?_)
      · exact hldF hh hP0 ((Below.refl _ _).alloc (Nat.le_refl _) _)
      clear hK K
      try simp only [Act.put, List.setIfInBounds_toArray, List.set_cons_zero, List.set_cons_succ]
      refine wpAnyH_ready (rs := [10]) (by kernel_rfl) (by simp) ?_
      refine AllReadyH.cons rfl (fun K hK => ?_) AllReadyH.nil
      go_simp
      refine hK.out _ _ ?_ (fun hHeld => ?_)
      · exact hldF hh hHeld ((Below.refl _ _).alloc (Nat.le_refl _) _)
      clear hK K
      try simp only [Act.put, List.setIfInBounds_toArray, List.set_cons_zero, List.set_cons_succ]
      refine wpAnyH_ready (rs := [11]) (by kernel_rfl) (by simp) ?_
      refine AllReadyH.cons rfl (fun K hK => ?_) AllReadyH.nil
      go_simp
      refine hK.out _ _ ?_ (fun hHeld => ?_)
      · exact hldF hh hP0 (show Below W.drew.heap.size W.drew (World.drew _) from ((Below.refl W.drew.heap.size W.drew).alloc (Nat.le_refl _) _).alloc (by simp) _)
      clear hK K
      try simp only [Act.put, List.setIfInBounds_toArray, List.set_cons_zero, List.set_cons_succ]
      refine wpAnyH_ready (rs := [12]) (by kernel_rfl) (by simp) ?_
      refine AllReadyH.cons rfl (fun K hK => ?_) AllReadyH.nil
      go_simp
      refine hK.out _ _ ?_ (fun hHeld => ?_)
      · exact hldF hh hP0 (show Below W.drew.heap.size W.drew (World.drew _) from ((Below.refl W.drew.heap.size W.drew).alloc (Nat.le_refl _) _).alloc (by simp) _)
      clear hK K
      try simp only [Act.put, List.setIfInBounds_toArray, List.set_cons_zero, List.set_cons_succ]
      refine wpAnyH_done (by kernel_rfl) ?_ _
      go_wp2_with fail
      go_meet
      exact twoB_1
    · go_simp
      refine hK.out _ _ ?_ (fun hHeld => ?_)
      · exact hldF hh hP0 ((Below.refl _ _).alloc (Nat.le_refl _) _)
      clear hK K
      try simp only [Act.put, List.setIfInBounds_toArray, List.set_cons_zero, List.set_cons_succ]
      refine wpAnyH_ready (rs := [9]) (by kernel_rfl) (by simp) ?_
      refine AllReadyH.cons rfl (fun K hK => ?_) AllReadyH.nil
      go_simp
      refine hK.out _ _ ?_ (fun hHeld => ?_)
      · exact hldF hh hHeld ((Below.refl _ _).alloc (Nat.le_refl _) _)
      clear hK K
      try simp only [Act.put, List.setIfInBounds_toArray, List.set_cons_zero, List.set_cons_succ]
      refine wpAnyH_ready (rs := [11]) (by kernel_rfl) (by simp) ?_
      refine AllReadyH.cons rfl (fun K hK => ?_) AllReadyH.nil
      go_simp
      refine hK.out _ _ ?_ (fun hHeld => ?_)
      · exact hldF hh hP0 (show Below W.drew.heap.size W.drew (World.drew _) from ((Below.refl W.drew.heap.size W.drew).alloc (Nat.le_refl _) _).alloc (by simp) _)
      clear hK K
      try simp only [Act.put, List.setIfInBounds_toArray, List.set_cons_zero, List.set_cons_succ]
      refine wpAnyH_ready (rs := [12]) (by kernel_rfl) (by simp) ?_
      refine AllReadyH.cons rfl (fun K hK => ?_) AllReadyH.nil
      go_simp
      refine hK.out _ _ ?_ (fun hHeld => ?_)
      · exact hldF hh hP0 (show Below W.drew.heap.size W.drew (World.drew _) from ((Below.refl W.drew.heap.size W.drew).alloc (Nat.le_refl _) _).alloc (by simp) _)
      clear hK K
      try simp only [Act.put, List.setIfInBounds_toArray, List.set_cons_zero, List.set_cons_succ]
      refine wpAnyH_done (by kernel_rfl) ?_ _
      go_wp2_with fail
      go_meet
      exact twoB_2
  case rest =>
    obtain ⟨g1, g2, rfl, rfl, k1, k2, hbc⟩ := hcut
    obtain ⟨V, rfl⟩ : ∃ V, V = wc := ⟨_, rfl⟩
    obtain ⟨r1, r2, -, -, -⟩ := k1.facts
    obtain ⟨r3, r4, r5, -, -⟩ := k2.facts
    have H5 := Lib.hid (H4.out.on hbc)
    have HR5 := Lib.hid (HR.out.1.on hbc)
    have HK2 := Lib.hid k2
    clear k1 k2 hbc hP0 hh H4 hm00 hm0 hm2 hm3 hmi
    have he := fun V => (eqPt_runs a b .eql (.tmp 0) (.tmp 0) V).1
    have hg := fun op x y V => (eqPt_runs a b op x y V).2
    have HB5 := Lib.hid H5.out.1
    by_cases hab : a = b
    · have HM := Lib.hid (HE.out.trans (if_pos (.inl hab)))
      rw [decide_eq_true hab] at he
      clear hab HE HAB
      go_wp2_with fail
      go_ret
      exact ⟨by rw [HM.out]; rfl, HB5.out⟩
    rw [decide_eq_false hab] at he
    have kW1 := within_any rr a Ak nk ck V HR5.out HR.out.2.1 HR.out.2.2 HAB.out.2.2.1
    obtain ⟨y1, hy1⟩ : ∃ y, y = sideI rr a := ⟨_, rfl⟩
    obtain ⟨y2, hy2⟩ : ∃ y, y = sideI rr b := ⟨_, rfl⟩
    have hE := HE.out
    rw [← hy1, ← hy2] at hE
    rw [← hy1] at kW1
    have KW1 := Lib.hid kW1
    have HY2 := Lib.hid hy2
    clear hy1 hy2 HE kW1
    by_cases h6 : y1 = 0
    case neg =>
      have HM := Lib.hid (hE.trans (if_pos (.inr (.inl h6))))
      clear hE hab
      go_wp2_with fail
      refine KW1.out.mono ?_
      rintro e w6 ⟨rfl, hb6⟩
      have HB := Lib.hid (H5.out.on hb6).1
      clear hb6 H5 KW1 r1 r2 r3 r4 r5 he hg HAB HK2 HB5
      go_wp2_with fail
      go_ret
      exact ⟨by rw [HM.out]; rfl, HB.out⟩
    subst h6
    have HE := Lib.hid hE
    have HNE := Lib.hid hab
    clear hE hab
    go_wp2_with fail
    refine KW1.out.mono ?_
    rintro e w6 ⟨rfl, hb6⟩
    have H6 := Lib.hid (H5.out.on hb6)
    obtain ⟨r3, r4, -, -, -⟩ := PtK.facts (show PtK w6 g2 b from Blk.below HK2.out hb6 (Blk.lt HK2.out))
    have kW2 := within_any rr b Ak nk ck w6 (HR5.out.on hb6) HR.out.2.1 HR.out.2.2 HAB.out.2.2.2
    rw [← HY2.out] at kW2
    have KW2 := Lib.hid kW2
    have hE := HE.out
    clear hb6 H5 KW1 r1 r2 r5 he hg HAB HK2 HB5 kW2 HE
    by_cases h7 : y2 = 0
    case neg =>
      have HM := Lib.hid (hE.trans (if_pos (.inr (.inr h7))))
      clear hE
      go_wp2_with fail
      refine KW2.out.mono ?_
      rintro e w7 ⟨rfl, hb7⟩
      have HB := Lib.hid (H6.out.on hb7).1
      clear hb7 H6 KW2 r3 r4
      go_wp2_with fail
      go_ret
      exact ⟨by rw [HM.out]; rfl, HB.out⟩
    subst h7
    have HM := Lib.hid (hE.trans (if_neg (by simp [HNE.out])))
    clear hE
    go_wp2_with fail
    refine KW2.out.mono ?_
    rintro e w7 ⟨rfl, hb7⟩
    have HB := Lib.hid (H6.out.on hb7).1
    clear hb7 H6 KW2 r3 r4
    go_wp2_with fail
    go_ret
    exact ⟨by rw [HM.out]; rfl, HB.out⟩

end Go.Proofs.YtmegmokjjlelgaaGreat
