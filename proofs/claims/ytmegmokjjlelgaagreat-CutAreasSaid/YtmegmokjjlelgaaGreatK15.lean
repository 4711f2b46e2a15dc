/- What lies beside Side; slices.Clone, slices.Reverse at a ring, and ring.Turned. -/
import Derived.Shelf.SlicesQ.Reverse
import Derived.Lib.SliceRun
import Derived.Test.YtmegmokjjlelgaaGreatK07
import Derived.Test.YtmegmokjjlelgaaGreatK09
import Derived.Test.YtmegmokjjlelgaaGreatK11
namespace Go.Proofs.YtmegmokjjlelgaaGreat
open Go.RowKit Go.Shelf
attribute [local go_sem] Oper.semAt_some
def oddL (xs : List Pt) (p : Pt) (l : List Nat) : Bool := l.foldl (fun o k => xor o (crE xs p k)) false
theorem oddL_snoc (xs : List Pt) (p : Pt) (l : List Nat) (k : Nat) : oddL xs p (l ++ [k]) = xor (oddL xs p l) (crE xs p k) := by simp [oddL]
theorem oddL_range (xs : List Pt) (p : Pt) (n : Nat) : oddL xs p (List.range n) = oddN xs p n := by
  induction n with
  | zero => rfl
  | succ n ih => rw [List.range_succ, oddL_snoc, ih]; rfl
set_option maxRecDepth 100000 in
set_option maxHeartbeats 1600000 in
theorem side_any (xs : List Pt) (p : Pt) (A : Option Addr) (n cap : Nat) (w : World) (hr : Reads w w.heap.size 2 A n (ptsV xs)) (hn : n ≤ 128) (hg : goodL xs = true) (hp : good p = true) :
    Calls Tryz.prog 137 #[.slice A n cap, ptV p] w fun e w' => e = .returned (.int .i64 (sideI xs p)) ∧ Below w.heap.size w w' := by
  have HG := Lib.hid (And.intro hg hp)
  clear hg hp
  have hbp := PtK.new w p
  unfold ptV
  refine (callsIn_wide (n := 3)).1 ?_
  refine callsIn_of_wp_marks Tryz.func137 rfl trivial ?_ rfl
  simp only [Tryz.ntmps137, List.size_toArray, List.length_cons, List.length_nil, Nat.reduceAdd, Nat.reduceSub, Array.replicate_succ, Array.replicate_zero, List.push_toArray, List.append_toArray, List.nil_append, List.cons_append]
  gi_wp2_with fail
  refine ⟨trivial, ?_⟩
  refine (callsIn_wide.2 (edges_any A n cap _)).mono ?_
  rintro e w3 ⟨rfl, rfl⟩
  gi_wp2_with fail
  have bP := ((hbp.alloc (.cells #[.int .i64 0] 3)).alloc (.cells #[.int .i64 (-1)] 3)).alloc (.cells #[.slice A n cap] 23)
  have bR := ((Boxed.new (w.alloc (.cells #[.int .i64 p.x, .int .i64 p.y] 44)) 3 (.int .i64 0)).alloc (.cells #[.int .i64 (-1)] 3)).alloc (.cells #[.slice A n cap] 23)
  have bI := (Boxed.new ((w.alloc (.cells #[.int .i64 p.x, .int .i64 p.y] 44)).alloc (.cells #[.int .i64 0] 3)) 3 (.int .i64 (-1))).alloc (.cells #[.slice A n cap] 23)
  have bE := Boxed.new (((w.alloc (.cells #[.int .i64 p.x, .int .i64 p.y] 44)).alloc (.cells #[.int .i64 0] 3)).alloc (.cells #[.int .i64 (-1)] 3)) 23 (.slice A n cap)
  simp only [World.size_alloc] at bR bI bE
  have hB0 := ((((Below.refl w.heap.size w).alloc (Nat.le_refl _) (.cells #[.int .i64 p.x, .int .i64 p.y] 44)).alloc (by simp) (.cells #[.int .i64 0] 3)).alloc (by simp; omega) (.cells #[.int .i64 (-1)] 3)).alloc (by simp; omega) (.cells #[.slice A n cap] 23)
  have hr0 := hr.below hB0
  have hz0 : ((((w.alloc (.cells #[.int .i64 p.x, .int .i64 p.y] 44)).alloc (.cells #[.int .i64 0] 3)).alloc (.cells #[.int .i64 (-1)] 3)).alloc (.cells #[.slice A n cap] 23)).heap.size = w.heap.size + 4 := by simp
  generalize (((w.alloc (.cells #[.int .i64 p.x, .int .i64 p.y] 44)).alloc (.cells #[.int .i64 0] 3)).alloc (.cells #[.int .i64 (-1)] 3)).alloc (.cells #[.slice A n cap] 23) = w0 at *
  refine wpIn_rangeFunc_ownH rfl (by omega) (gf := 138) (lb := #[.pointer (some ⟨w.heap.size + 1 + 1 + 1, 0, none⟩)]) rfl trivial (enters_of Tryz.func138 (by kernel_rfl) rfl)
    (edges_stops 2 (by omega) w.heap.size (w.heap.size + 1 + 1 + 1) cap n A xs (by omega) w0 (by omega) (by omega) bE.cell hr0) (fun h k => h.trans k)
    (fun W l o o' hl h _ _ => ⟨by simp, fun i hi => World.putObj_heap_other (by omega)⟩) (Below.refl _ _) (fun _ => rfl)
    (fun pre W => (PtK W w.heap.size p ∧ Boxed W (w.heap.size + 1) 3 (.int .i64 0) ∧ Boxed W (w.heap.size + 1 + 1) 3 (.int .i64 (if oddL xs p pre = true then 1 else -1)) ∧ Boxed W (w.heap.size + 1 + 1 + 1) 23 (.slice A n cap) ∧ ∀ y ∈ pre, onE xs p y = false) ∧ Below w.heap.size w W)
    (fun c pre W => (c = .ret ∧ (∃ y ∈ pre, onE xs p y = true) ∧ Boxed W (w.heap.size + 1) 3 (.int .i64 0)) ∧ Below w.heap.size w W)
    (OwnFrom.and (Own.from (fun s X Y row hs hg hrow => ⟨blk_own _ _ (fun _ : Unit => _) () X Y row hs.1 hg hrow, boxed_own _ _ (fun _ : Unit => _) () X Y row hs.2.1 hg hrow, boxed_own _ _ (fun _ : Unit => _) () X Y row hs.2.2.1 hg hrow, boxed_own _ _ (fun _ : Unit => _) () X Y row hs.2.2.2.1 hg hrow, hs.2.2.2.2⟩) _) (ownFrom_below (Nat.le_refl _) (by omega)))
    (fun c => OwnFrom.and (Own.from (fun s X Y row hs hg hrow => ⟨hs.1, hs.2.1, boxed_own _ _ (fun _ : Unit => _) () X Y row hs.2.2 hg hrow⟩) _) (ownFrom_below (Nat.le_refl _) (by omega)))
    ⟨⟨bP, bR, bI, bE, by simp⟩, hB0⟩
    (fun x a' W => ∃ Bx, Blk W Bx 92 #[.int .i64 (ptAt xs x).x, .int .i64 (ptAt xs x).y, .int .i64 (ptAt xs ((x + 1) % xs.length)).x, .int .i64 (ptAt xs ((x + 1) % xs.length)).y] ∧
      a' = { tmps := #[.slice A n cap, .agg #[.int .i64 p.x, .int .i64 p.y], undef, .pointer (some ⟨w.heap.size, 0, none⟩), .pointer (some ⟨w.heap.size + 1, 0, none⟩), .pointer (some ⟨w.heap.size + 1 + 1, 0, none⟩), undef, .pointer (some ⟨Bx, 0, none⟩), undef, undef, undef, undef, undef, .slice A n cap, .func (.func 138) #[] #[.pointer (some ⟨w.heap.size + 1 + 1 + 1, 0, none⟩)], .int .i64 (x : Int), edgeV (ptAt xs x) (ptAt xs ((x + 1) % xs.length)), undef, undef, undef, undef, undef, undef, undef, undef, undef, undef, undef, undef, undef, undef, undef, undef, undef, undef, undef, undef, undef, undef, undef, undef, undef, undef, undef, undef, undef, undef, undef, undef, undef, undef, undef, undef, undef, undef, undef, undef], defers := [] })
    (fun x a' => fun s X Y row ⟨Bx, hs, e⟩ hg hrow => ⟨Bx, blk_own Bx _ (fun _ : Unit => _) () X Y row hs hg (fun r hr => (hrow r hr).2), e⟩) ?assign ?body ?done ?stop
  case assign =>
    rintro l pre x W K ⟨⟨bP', bR', bI', bE', hne⟩, hB'⟩ hK
    unfold edgeAt edgeV
    gi_wp2
    have hsz := hB'.size
    have hlt := bE'.lt
    refine hK _ _ ((KeepsOthers.alloc _ _).from _) (KeepE.alloc (by omega) hlt _) ⟨⟨bP'.alloc _, bR'.alloc _, bI'.alloc _, bE'.alloc _, hne⟩, hB'.alloc hB'.size _⟩ ⟨W.heap.size, Blk.new W _ _, rfl⟩
  case body =>
    rintro l pre x a' W hl ⟨r, hrr⟩ ⟨⟨bP', bR', bI', bE', hne⟩, hB'⟩ ⟨Bx, hBx, rfl⟩ hlen
    have hon : onE xs p x = onB (ptAt xs x) (ptAt xs ((x + 1) % xs.length)) p := rfl
    have hcr : crE xs p x = crB (ptAt xs x) (ptAt xs ((x + 1) % xs.length)) p := rfl
    have hpg := ptAt_good HG.out.1 x
    have hqg := ptAt_good HG.out.1 ((x + 1) % xs.length)
    have hsn : oddL xs p (pre ++ [x]) = xor (oddL xs p pre) (crE xs p x) := oddL_snoc xs p pre x
    obtain ⟨a, ha⟩ : ∃ a, a = ptAt xs x := ⟨_, rfl⟩
    obtain ⟨b, hb⟩ : ∃ b, b = ptAt xs ((x + 1) % xs.length) := ⟨_, rfl⟩
    rw [← ha, ← hb] at hBx hon hcr
    rw [← ha] at hpg
    rw [← hb] at hqg
    rw [← ha, ← hb]
    clear ha hb
    unfold edgeV
    have kO : ∀ V, Calls Tryz.prog 104 #[.agg #[.int .i64 a.x, .int .i64 a.y], .agg #[.int .i64 b.x, .int .i64 b.y], .agg #[.int .i64 p.x, .int .i64 p.y]] V fun e w' => e = .returned (.tuple #[.bool (onB a b p), .int .i64 0]) ∧ Below V.heap.size V w' := fun V => onW_any a b p V hpg hqg HG.out.2
    have kT : ∀ V, Calls Tryz.prog 182 #[.agg #[.int .i64 a.x, .int .i64 a.y], .agg #[.int .i64 b.x, .int .i64 b.y], .agg #[.int .i64 p.x, .int .i64 p.y]] V fun e w' => e = .returned (.tuple #[.int .i64 (sgn (cr a b p)), .int .i64 0]) ∧ Below V.heap.size V w' := fun V => turnW_any a b p V hpg hqg HG.out.2
    have HK := Lib.hid (And.intro kO (And.intro kT (And.intro hon (And.intro hcr hsn))))
    have hlt := bE'.lt
    have x1 : W.cell? ⟨Bx, 0, none⟩ = some (.int .i64 a.x) := by rw [Blk.cell hBx 0]; rfl
    have x2 : W.cell? ⟨Bx, 1, none⟩ = some (.int .i64 a.y) := by rw [Blk.cell hBx 1]; rfl
    have x3 : W.cell? ⟨Bx, 2, none⟩ = some (.int .i64 b.x) := by rw [Blk.cell hBx 2]; rfl
    have x4 : W.cell? ⟨Bx, 3, none⟩ = some (.int .i64 b.y) := by rw [Blk.cell hBx 3]; rfl
    obtain ⟨p1, p2, -, -, -⟩ := bP'.facts
    clear kO kT hon hcr hsn hpg hqg
    gi_wp2_with fail
    refine ⟨trivial, ?_⟩
    refine (CallsIn.inRound l (callsIn_wide.2 (HK.out.1 W))).mono ?_
    rintro e W1 ⟨rfl, hb1⟩
    have bP1 : PtK W1 w.heap.size p := bP'.on hb1
    have bR1 : Boxed W1 (w.heap.size + 1) 3 (.int .i64 0) := Blk.below bR' hb1 bR'.lt
    have bI1 : Boxed W1 (w.heap.size + 1 + 1) 3 (.int .i64 (if oddL xs p pre = true then 1 else -1)) := Blk.below bI' hb1 bI'.lt
    have bE1 : Boxed W1 (w.heap.size + 1 + 1 + 1) 23 (.slice A n cap) := Blk.below bE' hb1 bE'.lt
    have hBx1 := Blk.below hBx hb1 (Blk.lt hBx)
    have hB1 := below_on hB' (Nat.le_refl _) hb1
    have hE1 : KeepE w.heap.size (w.heap.size + 1 + 1 + 1) W W1 := KeepE.below hb1 (by omega) bE'.lt
    have Hk := Lib.hid (And.intro (keeps_below hb1) (And.intro hE1 (And.intro hB1 hne)))
    clear hE1 hb1 x1 x2 x3 x4 p1 p2 hBx bP' bR' bI' bE' hB' hrr hB1 hne
    rcases hob : onB a b p with _ | _
    · have hfl := Lib.hid ((flip_eq hob).symm.trans (by unfold flipB; rw [decide_eq_decide.mpr (sgn_gt (z := cr a b p)).symm] : flipB a b p = ((decide (p.y < a.y) != decide (p.y < b.y)) && (decide (0 < sgn (cr a b p)) == decide (p.y < b.y)))))
      have HO := Lib.hid hob
      clear hob
      obtain ⟨t, ht⟩ : ∃ t, t = sgn (cr a b p) := ⟨_, rfl⟩
      rw [← ht] at hfl HK
      clear ht
      have x1 : W1.cell? ⟨Bx, 0, none⟩ = some (.int .i64 a.x) := by rw [Blk.cell hBx1 0]; rfl
      have x2 : W1.cell? ⟨Bx, 1, none⟩ = some (.int .i64 a.y) := by rw [Blk.cell hBx1 1]; rfl
      have x3 : W1.cell? ⟨Bx, 2, none⟩ = some (.int .i64 b.x) := by rw [Blk.cell hBx1 2]; rfl
      have x4 : W1.cell? ⟨Bx, 3, none⟩ = some (.int .i64 b.y) := by rw [Blk.cell hBx1 3]; rfl
      obtain ⟨p1, p2, -, -, -⟩ := bP1.facts
      rcases d1 : decide (p.y < b.y) with _ | _
      · rcases d2 : decide (p.y < a.y) with _ | _
        · have hc : Hid (crE xs p x = false) := by show _ = _; rw [HK.out.2.2.2.1, hfl.out, d1, d2]; rfl
          clear hfl
          gi_wp2_with fail
          refine ⟨Hk.out.1.from _, Hk.out.2.1, ⟨bP1, bR1, by rw [HK.out.2.2.2.2, hc.out, Bool.xor_false]; exact bI1, bE1, fun y hy => (List.mem_append.1 hy).elim (Hk.out.2.2.2 y) (fun e => by simp at e; subst e; rw [HK.out.2.2.1, HO.out])⟩, Hk.out.2.2.1⟩
        · gi_wp2_with fail
          refine ⟨trivial, ?_⟩
          refine (CallsIn.inRound l (callsIn_wide.2 (HK.out.2.1 W1))).mono ?_
          rintro e W2 ⟨rfl, hb2⟩
          have bP2 : PtK W2 w.heap.size p := bP1.on hb2
          have bR2 : Boxed W2 (w.heap.size + 1) 3 (.int .i64 0) := Blk.below bR1 hb2 bR1.lt
          have bI2 : Boxed W2 (w.heap.size + 1 + 1) 3 (.int .i64 (if oddL xs p pre = true then 1 else -1)) := Blk.below bI1 hb2 bI1.lt
          have bE2 : Boxed W2 (w.heap.size + 1 + 1 + 1) 23 (.slice A n cap) := Blk.below bE1 hb2 bE1.lt
          have hB2 := below_on Hk.out.2.2.1 (Nat.le_refl _) hb2
          have hE2 : KeepE w.heap.size (w.heap.size + 1 + 1 + 1) W1 W2 := KeepE.below hb2 (by have := bE1.lt; omega) bE1.lt
          have Hk2 := Lib.hid (And.intro (Hk.out.1.trans (keeps_below hb2)) (And.intro (Hk.out.2.1.trans hE2) (And.intro hB2 Hk.out.2.2.2)))
          clear hE2 hb2 x1 x2 x3 x4 p1 p2 hBx1 bP1 bR1 bI1 bE1 hB2 Hk
          rcases d3 : decide (0 < t) with _ | _
          · have hc : Hid (crE xs p x = true) := by show _ = _; rw [HK.out.2.2.2.1, hfl.out, d1, d2, d3]; rfl
            clear hfl
            have i1 := bI2.cell
            have i2 := bI2.frozen
            rcases ho : oddL xs p pre with _ | _
            · rw [ho] at i1
              have hn2 : Hid ((if oddL xs p (pre ++ [x]) = true then (1 : Int) else -1) = 1) := by show _ = _; rw [HK.out.2.2.2.2, hc.out, ho]; rfl
              clear ho
              simp only [if_false, Bool.false_eq_true] at i1
              gi_wp2_with fail
              refine ⟨(Hk2.out.1.trans (KeepsOthers.setCell _ _ _)).from _, Hk2.out.2.1.trans ⟨by simp, fun i hi => Below.heap_setCell _ _ _ i (by simp only; omega)⟩, ⟨Blk.far bP2 (by simp only; omega) _, Blk.far bR2 (by simp only; omega) _, by rw [hn2.out]; exact bI2.set _, Blk.far bE2 (by simp only; omega) _, fun y hy => (List.mem_append.1 hy).elim (Hk2.out.2.2.2 y) (fun e => by simp at e; subst e; rw [HK.out.2.2.1, HO.out])⟩, Hk2.out.2.2.1.setCell (p := ⟨w.heap.size + 1 + 1, 0, none⟩) (by simp only; omega) _⟩
            · rw [ho] at i1
              have hn2 : Hid ((if oddL xs p (pre ++ [x]) = true then (1 : Int) else -1) = -1) := by show _ = _; rw [HK.out.2.2.2.2, hc.out, ho]; rfl
              clear ho
              simp only [if_true] at i1
              gi_wp2_with fail
              refine ⟨(Hk2.out.1.trans (KeepsOthers.setCell _ _ _)).from _, Hk2.out.2.1.trans ⟨by simp, fun i hi => Below.heap_setCell _ _ _ i (by simp only; omega)⟩, ⟨Blk.far bP2 (by simp only; omega) _, Blk.far bR2 (by simp only; omega) _, by rw [hn2.out]; exact bI2.set _, Blk.far bE2 (by simp only; omega) _, fun y hy => (List.mem_append.1 hy).elim (Hk2.out.2.2.2 y) (fun e => by simp at e; subst e; rw [HK.out.2.2.1, HO.out])⟩, Hk2.out.2.2.1.setCell (p := ⟨w.heap.size + 1 + 1, 0, none⟩) (by simp only; omega) _⟩
          · have hc : Hid (crE xs p x = false) := by show _ = _; rw [HK.out.2.2.2.1, hfl.out, d1, d2, d3]; rfl
            clear hfl
            gi_wp2_with fail
            refine ⟨Hk2.out.1.from _, Hk2.out.2.1, ⟨bP2, bR2, by rw [HK.out.2.2.2.2, hc.out, Bool.xor_false]; exact bI2, bE2, fun y hy => (List.mem_append.1 hy).elim (Hk2.out.2.2.2 y) (fun e => by simp at e; subst e; rw [HK.out.2.2.1, HO.out])⟩, Hk2.out.2.2.1⟩
      · rcases d2 : decide (p.y < a.y) with _ | _
        · gi_wp2_with fail
          refine ⟨trivial, ?_⟩
          refine (CallsIn.inRound l (callsIn_wide.2 (HK.out.2.1 W1))).mono ?_
          rintro e W2 ⟨rfl, hb2⟩
          have bP2 : PtK W2 w.heap.size p := bP1.on hb2
          have bR2 : Boxed W2 (w.heap.size + 1) 3 (.int .i64 0) := Blk.below bR1 hb2 bR1.lt
          have bI2 : Boxed W2 (w.heap.size + 1 + 1) 3 (.int .i64 (if oddL xs p pre = true then 1 else -1)) := Blk.below bI1 hb2 bI1.lt
          have bE2 : Boxed W2 (w.heap.size + 1 + 1 + 1) 23 (.slice A n cap) := Blk.below bE1 hb2 bE1.lt
          have hB2 := below_on Hk.out.2.2.1 (Nat.le_refl _) hb2
          have hE2 : KeepE w.heap.size (w.heap.size + 1 + 1 + 1) W1 W2 := KeepE.below hb2 (by have := bE1.lt; omega) bE1.lt
          have Hk2 := Lib.hid (And.intro (Hk.out.1.trans (keeps_below hb2)) (And.intro (Hk.out.2.1.trans hE2) (And.intro hB2 Hk.out.2.2.2)))
          clear hE2 hb2 x1 x2 x3 x4 p1 p2 hBx1 bP1 bR1 bI1 bE1 hB2 Hk
          rcases d3 : decide (0 < t) with _ | _
          · have hc : Hid (crE xs p x = false) := by show _ = _; rw [HK.out.2.2.2.1, hfl.out, d1, d2, d3]; rfl
            clear hfl
            gi_wp2_with fail
            refine ⟨Hk2.out.1.from _, Hk2.out.2.1, ⟨bP2, bR2, by rw [HK.out.2.2.2.2, hc.out, Bool.xor_false]; exact bI2, bE2, fun y hy => (List.mem_append.1 hy).elim (Hk2.out.2.2.2 y) (fun e => by simp at e; subst e; rw [HK.out.2.2.1, HO.out])⟩, Hk2.out.2.2.1⟩
          · have hc : Hid (crE xs p x = true) := by show _ = _; rw [HK.out.2.2.2.1, hfl.out, d1, d2, d3]; rfl
            clear hfl
            have i1 := bI2.cell
            have i2 := bI2.frozen
            rcases ho : oddL xs p pre with _ | _
            · rw [ho] at i1
              have hn2 : Hid ((if oddL xs p (pre ++ [x]) = true then (1 : Int) else -1) = 1) := by show _ = _; rw [HK.out.2.2.2.2, hc.out, ho]; rfl
              clear ho
              simp only [if_false, Bool.false_eq_true] at i1
              gi_wp2_with fail
              refine ⟨(Hk2.out.1.trans (KeepsOthers.setCell _ _ _)).from _, Hk2.out.2.1.trans ⟨by simp, fun i hi => Below.heap_setCell _ _ _ i (by simp only; omega)⟩, ⟨Blk.far bP2 (by simp only; omega) _, Blk.far bR2 (by simp only; omega) _, by rw [hn2.out]; exact bI2.set _, Blk.far bE2 (by simp only; omega) _, fun y hy => (List.mem_append.1 hy).elim (Hk2.out.2.2.2 y) (fun e => by simp at e; subst e; rw [HK.out.2.2.1, HO.out])⟩, Hk2.out.2.2.1.setCell (p := ⟨w.heap.size + 1 + 1, 0, none⟩) (by simp only; omega) _⟩
            · rw [ho] at i1
              have hn2 : Hid ((if oddL xs p (pre ++ [x]) = true then (1 : Int) else -1) = -1) := by show _ = _; rw [HK.out.2.2.2.2, hc.out, ho]; rfl
              clear ho
              simp only [if_true] at i1
              gi_wp2_with fail
              refine ⟨(Hk2.out.1.trans (KeepsOthers.setCell _ _ _)).from _, Hk2.out.2.1.trans ⟨by simp, fun i hi => Below.heap_setCell _ _ _ i (by simp only; omega)⟩, ⟨Blk.far bP2 (by simp only; omega) _, Blk.far bR2 (by simp only; omega) _, by rw [hn2.out]; exact bI2.set _, Blk.far bE2 (by simp only; omega) _, fun y hy => (List.mem_append.1 hy).elim (Hk2.out.2.2.2 y) (fun e => by simp at e; subst e; rw [HK.out.2.2.1, HO.out])⟩, Hk2.out.2.2.1.setCell (p := ⟨w.heap.size + 1 + 1, 0, none⟩) (by simp only; omega) _⟩
        · have hc : Hid (crE xs p x = false) := by show _ = _; rw [HK.out.2.2.2.1, hfl.out, d1, d2]; rfl
          clear hfl
          gi_wp2_with fail
          refine ⟨Hk.out.1.from _, Hk.out.2.1, ⟨bP1, bR1, by rw [HK.out.2.2.2.2, hc.out, Bool.xor_false]; exact bI1, bE1, fun y hy => (List.mem_append.1 hy).elim (Hk.out.2.2.2 y) (fun e => by simp at e; subst e; rw [HK.out.2.2.1, HO.out])⟩, Hk.out.2.2.1⟩
    · have i1 := bR1.cell
      have i2 := bR1.frozen
      clear hBx1 bP1 bI1
      gi_wp2_with fail
      refine ⟨(Hk.out.1.trans (KeepsOthers.setCell _ _ _)).from _, ⟨rfl, ⟨x, by simp, by rw [HK.out.2.2.1, hob]⟩, bR1.set _⟩, Hk.out.2.2.1.setCell (p := ⟨w.heap.size + 1, 0, none⟩) (by simp) _⟩
  case done =>
    rintro D ys W hD rfl ⟨⟨bP', bR', bI', bE', hne⟩, hB'⟩ hK
    have hl : xs.length = n := hr.lenPt
    have hs : sideI xs p = if oddL xs p (List.range n) = true then 1 else -1 := by
      rw [sideI_off (fun y hy => hne y (List.mem_range.2 (by omega))), hl, oddL_range]
    obtain ⟨z, hz⟩ : ∃ z : Int, z = if oddL xs p (List.range n) = true then 1 else -1 := ⟨_, rfl⟩
    rw [← hz] at hs bI'
    have HS := Lib.hid hs
    have i1 := bI'.cell
    have i2 := bR'.frozen
    have i3 := bR'.cell
    clear hz hs hne hl
    gi_wp2_with fail
    have hK' := (KeepsOthers.setCell W ⟨w.heap.size + 1, 0, none⟩ (.int .i64 z)).same D _ hK rfl
    refine ⟨by simp, .inl ⟨_, _, rfl, run_takeDeferred hK', ?_⟩⟩
    have hc5 := cell_kept (bR'.set (.int .i64 z)).cell (grownBy_putObj' _ D (.deferred none)) (fun r e => by cases e; exact ⟨_, hK', rfl⟩)
    refine ⟨.int .i64 z, ?_, by rw [HS.out], (hB'.setCell (p := ⟨w.heap.size + 1, 0, none⟩) (by simp) _).trans (belowK_b (w := w) (Nat.le_refl _) _ D _ _ (by omega) hK' rfl rfl)⟩
    simp [results, Tryz.results137, go_sem, hc5]
  case stop =>
    rintro D c pre W hD ⟨k, hk, rfl⟩ ⟨⟨rfl, ⟨y, hy, hon⟩, bR'⟩, hB'⟩ hK
    have hl : xs.length = n := hr.lenPt
    have hs : sideI xs p = 0 := sideI_on (k := y) (by rw [List.mem_range] at hy; omega) hon
    have i3 := bR'.cell
    gi_wp2
    refine ⟨by simp, .inl ⟨_, _, rfl, run_takeDeferred hK, ?_⟩⟩
    have hc5 := cell_kept i3 (grownBy_putObj' _ D (.deferred none)) (fun r e => by cases e; exact ⟨_, hK, rfl⟩)
    refine ⟨.int .i64 0, ?_, by rw [hs], hB'.trans (belowK_b (w := w) (Nat.le_refl _) W D _ _ (by omega) hK rfl rfl)⟩
    simp [results, Tryz.results137, go_sem, hc5]
end Go.Proofs.YtmegmokjjlelgaaGreat
namespace Go.Proofs.YtmegmokjjlelgaaGreat
open Go.RowKit Go.Shelf Go.Sort
def revPt_ren : Go.Shelf.Ren := ⟨fun | 35 => 113 | n => n, fun | 0 => 0 | 3 => 3 | 4 => 4 | 22 => 23 | 23 => 44 | n => n, fun | n => n⟩
theorem revPt : Go.Proofs.SlLaysE0.n35 Tryz.prog revPt_ren := {
  mixed := by kernel_rfl
  f35 := ⟨Tryz.f113.name, by decide, Tryz.func113.trans (congrArg some (by kernel_rfl))⟩
  t0 := Tryz.underlying0
  a0 := Tryz.isAgg0
  z0 := Tryz.sizeOf0
  v0 := Tryz.zeroValue0
  t3 := Tryz.underlying3
  a3 := Tryz.isAgg3
  z3 := Tryz.sizeOf3
  v3 := Tryz.zeroValue3
  t4 := Tryz.underlying4
  a4 := Tryz.isAgg4
  z4 := Tryz.sizeOf4
  v4 := Tryz.zeroValue4
  t22 := Tryz.underlying23
  a22 := Tryz.isAgg23
  z22 := Tryz.sizeOf23
  v22 := Tryz.zeroValue23
}
theorem cloneT_any (xs : List Pt) (A : Option Addr) (n cap : Nat) (w : World) (hr : Reads w w.heap.size 2 A n (ptsV xs)) (hn : n ≤ 8796093022208) :
    Calls Tryz.prog 112 #[.slice A n cap] w fun e w' => ∃ A' c, e = .returned (.slice A' n c) ∧ w'.ownsRow w.heap.size 44 2 (.slice A' n c) n (ptsV xs) ∧ Below w.heap.size w w' := by
  obtain ⟨i0, hi0, hz0, hz1, hz2⟩ := info_parts info_pt
  have hl : xs.length = n := hr.lenPt
  rcases A with _ | a
  · have h0 : n = 0 := by
      rcases Nat.eq_zero_or_pos n with h0 | h0
      · exact h0
      · obtain ⟨ad, h, _⟩ := hr.2 h0; cases h
    subst h0
    obtain rfl := List.eq_nil_of_length_eq_zero hl
    have heq := fun (W : World) => Lib.run_eql_slice_nil (P := Tryz.prog) W 23 44 none 0 cap 0 0 Tryz.underlying23
    clear hr
    go_enter Tryz.func112, Tryz.ntmps112
    go_wp2_with fail
    go_ret
    exact ⟨none, 0, rfl, World.ownsRow_nil _ _ _ _, Below.refl _ _⟩
  · have heq := fun (W : World) => Lib.run_eql_slice_nil (P := Tryz.prog) W 23 44 (some a) n cap 0 0 Tryz.underlying23
    have hown0 := World.ownsRow_made (base := w.heap.size) (e := 44) (size := 2) w #[] 0 (Nat.le_refl _) (by simp [maxLen]) rfl
    have hb0 : Below w.heap.size w (w.alloc (.cells #[] 44)) := (Below.refl _ _).alloc (Nat.le_refl _) _
    have hrd := hr.below hb0
    clear hr
    go_enter Tryz.func112, Tryz.ntmps112
    go_wp2_with (at_builtin; refine wpList_append_any _ rfl (.tmp 5) (.tmp 6) _ rfl w.heap.size 44 i0 _ 2 16 Tryz.underlying23 hi0 hz0 hz1 hz2 rfl (by omega) (.slice (some ⟨w.heap.size, 0, none⟩) 0 0) 0 [] rfl hown0 w.heap.size (some a) n cap (ptsV xs) rfl hrd (ptsV_one xs) (by simp only [maxLen]; omega) (by omega) (by simp) ?_
                 intro v2 w2 hown2 hg2 hat2)
    go_ret
    rw [Nat.zero_add, List.nil_append] at hown2
    have hb2 : Below w.heap.size w w2 := hb0.grown hg2 hb0.size (by intro k hk; simp [Value.ownBlock] at hk; omega)
    obtain ⟨A2, c2, rfl⟩ := own_form hown2
    exact ⟨_, _, rfl, hown2, hb2⟩
theorem revPt_any (d : List Pt) (A : Option Addr) (n cap base : Nat) (w : World) (hown : w.ownsRow base 44 2 (.slice A n cap) n (ptsV d)) (hn : n ≤ 8796093022208) :
    Calls Tryz.prog 113 #[.slice A n cap] w fun e w' => e = .returned (.tuple #[]) ∧ Reads w' w'.heap.size 2 A n (ptsV d.reverse) ∧ ∀ b, b ≤ base → b ≤ w.heap.size → Below b w w' := by
  have hl : d.length = n := by have h := hown.1; rw [ptsV_length] at h; omega
  rcases hown.2 with ⟨hA, h0⟩ | ⟨g, c, cur, hA, hbase, -⟩
  · subst h0
    injection hA with hA
    subst hA
    obtain rfl := List.eq_nil_of_length_eq_zero hl
    refine (AnyQ.slices_Reverse_empty revPt none cap w).mono ?_
    rintro e w' ⟨rfl, rfl⟩
    exact ⟨rfl, Reads.of_own hown, fun b _ _ => Below.refl _ _⟩
  · injection hA with hA
    subst hA
    have hg : g < w.heap.size := (hown.lt g rfl).2
    have hH := holdsK_own hown
    have hcon := AnyQ.slices_Reverse revPt 2 Tryz.isAgg44 Tryz.sizeOf44 encPt (fun _ => rfl) (fun x v hv => by simp [encPt] at hv; rcases hv with rfl | rfl <;> rfl) g 0 cap d.toArray w hH (by simp; omega)
    change Calls Tryz.prog 113 _ _ _ at hcon
    rw [List.size_toArray, hl] at hcon
    refine hcon.mono ?_
    rintro e w' ⟨rfl, m, rfl⟩
    have hHm : HoldsK encPt 2 (Sort.ahead w m) g 0 d.toArray := holdsK_ahead encPt 2 w m g 0 d.toArray hH
    have hH' := holdsK_putRowK (enc := encPt) (k := 2) (Sort.ahead w m) g 0 d.toArray d.toArray.reverse hHm (by simp)
    have hsz : (putRowK encPt 2 (Sort.ahead w m) g 0 d.toArray.reverse).heap.size = w.heap.size := by simp [putRowK, putRow, mapBlock, Sort.ahead]
    refine ⟨rfl, ?_, ?_⟩
    · rw [show n = d.reverse.length by simp; omega]
      exact reads_holdsK (by rw [hsz]; exact hg) (by simpa using hH')
    · intro b hb1 hb2
      have hgr : w.grownBy (putRowK encPt 2 (Sort.ahead w m) g 0 d.toArray.reverse) (some g) := by
        refine ⟨rfl, rfl, rfl, by rw [hsz]; exact Nat.le_refl _, fun k hk hne => ?_⟩
        have : g ≠ k := fun e => hne (by rw [e])
        simp [putRowK, putRow, mapBlock, Sort.ahead, Array.getElem?_modify, this]
      exact (Below.refl _ _).grown hgr hb2 (fun k e => by cases e; omega)
theorem turned_any (xs : List Pt) (A : Option Addr) (n cap : Nat) (w : World) (hr : Reads w w.heap.size 2 A n (ptsV xs)) (hn : n ≤ 8796093022208) :
    Calls Tryz.prog 64 #[.slice A n cap] w fun e w' => ∃ A' c, e = .returned (.slice A' n c) ∧ Reads w' w'.heap.size 2 A' n (ptsV xs.reverse) ∧ Below w.heap.size w w' := by
  have HK := Lib.hid (cloneT_any xs A n cap w hr hn)
  clear hr
  go_enter Tryz.func64, Tryz.ntmps64
  go_wp2_with fail
  refine HK.out.mono ?_
  rintro e w1 ⟨A1, c1, rfl, ho, hb⟩
  have HB := Lib.hid hb
  have HR := Lib.hid (revPt_any xs A1 n c1 w.heap.size w1 ho hn)
  clear ho hb HK
  go_wp2_with fail
  refine HR.out.mono ?_
  rintro e w2 ⟨rfl, hrd, hb2⟩
  have HD := Lib.hid (And.intro hrd (HB.out.trans (hb2 _ (Nat.le_refl _) HB.out.size)))
  clear hrd hb2 HB HR
  go_wp2_with fail
  go_ret
  exact ⟨A1, c1, rfl, HD.out⟩
end Go.Proofs.YtmegmokjjlelgaaGreat
