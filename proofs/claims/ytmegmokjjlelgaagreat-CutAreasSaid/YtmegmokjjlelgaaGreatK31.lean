/- plan.Insert's closure: a corner more in each stretch that has it within: the walk. -/
import Derived.Test.YtmegmokjjlelgaaGreatK30
namespace Go.Proofs.YtmegmokjjlelgaaGreat
open Go.RowKit Go.Shelf
attribute [local go_sem] Go.Oper.semAt_some
theorem neqPt_runs (p q : Pt) (w : World) : Sem.run Tryz.prog (binOp .neq 44 (.agg #[.int .i64 p.x, .int .i64 p.y]) (.agg #[.int .i64 q.x, .int .i64 q.y])) w = .ok (.bool (!decide (p = q))) w := by
  have u3 := Tryz.underlying3
  have a3 := Tryz.isAgg3
  have z3 := Tryz.sizeOf3
  have hS : Tryz.prog.underlying 44 = some (.struct (Tryz.prog.fieldsOf 44)) := by kernel_rfl
  have hp : Tryz.prog.stoodInHeld 44 = false := by kernel_rfl
  obtain ⟨x1, x2⟩ := p
  obtain ⟨y1, y2⟩ := q
  rw [run_neq_struct, show (10000 : Nat) = 9999 + 1 from rfl, run_equalIn_agg w 9999 44 _ _ hS hp]
  simp only [Program.fieldsOf, Tryz.underlying44]
  go_simp
  by_cases h1 : x1 = y1 <;> by_cases h2 : x2 = y2 <;> simp [h1, h2]
def insK (xs : List Pt) (q : Pt) (k : Nat) : List Pt := ptAt xs k :: (if (onB (ptAt xs k) (ptAt xs ((k + 1) % xs.length)) q && (!decide (q = ptAt xs k) && !decide (q = ptAt xs ((k + 1) % xs.length)))) = true then [q] else [])
def insL (xs : List Pt) (q : Pt) (l : List Nat) : List Pt := l.flatMap (insK xs q)
def insG (q : Pt) (xs : List Pt) : List Pt := insL xs q (List.range xs.length)
theorem insK_len (xs : List Pt) (q : Pt) (k : Nat) : 1 ≤ (insK xs q k).length ∧ (insK xs q k).length ≤ 2 := by unfold insK; split <;> simp
theorem insL_len (xs : List Pt) (q : Pt) (l : List Nat) : (insL xs q l).length ≤ 2 * l.length := by
  induction l with
  | nil => simp [insL]
  | cons a l ih =>
    have h1 := (insK_len xs q a).2
    have h2 : insL xs q (a :: l) = insK xs q a ++ insL xs q l := by simp [insL]
    rw [h2, List.length_append, List.length_cons]
    omega
theorem insL_snoc (xs : List Pt) (q : Pt) (l : List Nat) (k : Nat) : insL xs q (l ++ [k]) = insL xs q l ++ insK xs q k := by simp [insL]
theorem insG_len (q : Pt) (xs : List Pt) : (insG q xs).length ≤ 2 * xs.length := by have := insL_len xs q (List.range xs.length); rw [List.length_range] at this; exact this
set_option maxHeartbeats 800000 in
theorem ins_append {w W V w3 : World} {S bs k m Bx : Nat} {v v' rv : Value} {xs ys : List Value} {tmp : Obj} {C : Array Value}
    (h1 : KeepsOthers W V) (h2 : KeepE S bs W V) (bv : Boxed V S 23 v) (ho : V.ownsRow S 44 2 v k xs) (dr : Boxed V bs 23 rv)
    (dX : Blk V Bx 92 C) (hX : Bx ≠ S) (dB : Below S w V) (hbs : bs ≠ S) (hown' : w3.ownsRow S 44 2 v' m ys) (hgrow : (V.alloc tmp).grownBy w3 v.ownBlock) :
    KeepsOthers W (w3.setCell ⟨S, 0, none⟩ v') ∧ KeepE S bs W (w3.setCell ⟨S, 0, none⟩ v') ∧ (Boxed (w3.setCell ⟨S, 0, none⟩ v') S 23 v' ∧ (w3.setCell ⟨S, 0, none⟩ v').ownsRow S 44 2 v' m ys) ∧
    Boxed (w3.setCell ⟨S, 0, none⟩ v') bs 23 rv ∧ Blk (w3.setCell ⟨S, 0, none⟩ v') Bx 92 C ∧ Below S w (w3.setCell ⟨S, 0, none⟩ v') ∧ w3.cell? ⟨S, 0, none⟩ = some v ∧ w3.frozen? ⟨S, 0, none⟩ = false := by
  have hlt := bv.lt
  obtain ⟨q1, q2, q3, q4, q5⟩ := Boxed.appended bv (by decide) ho (by omega) (Nat.le_refl _) hown' hgrow
  have r1 : Boxed (w3.setCell ⟨S, 0, none⟩ v') bs 23 rv := ((dr.alloc tmp).kept hgrow (dr.not_row (by decide) ho)).other (B' := S) hbs v'
  refine ⟨h1.trans q4, ⟨Nat.le_trans h2.1 q4.size, fun i hi => ?_⟩, ⟨q2, q3⟩, r1, ?_, dB.trans q5, q1.cell, q1.frozen⟩
  · rw [← h2.2 i hi]
    rcases hi with hi | rfl
    · exact q5.block i hi
    · exact (show _ = _ from r1).trans (show _ = _ from dr).symm
  · exact Blk.far (Blk.grown (Blk.alloc dX tmp) hgrow (blk_row dX (by decide) ho)) hX _
set_option maxRecDepth 100000 in
set_option maxHeartbeats 3200000 in
theorem insert1_any (gb : Nat) (q : Pt) (xs : List Pt) (A : Option Addr) (n cap : Nat) (w : World) (hr : Reads w w.heap.size 2 A n (ptsV xs)) (hn : n ≤ 1048576) (hg : goodL xs = true) (hq : good q = true) (hb : PtK w gb q) :
    Calls Tryz.prog 102 #[.slice A n cap, .pointer (some ⟨gb, 0, none⟩)] w fun e w' => ∃ A' c', e = .returned (.slice A' (insG q xs).length c') ∧ (Reads w' w'.heap.size 2 A' (insG q xs).length (ptsV (insG q xs)) ∧ (insG q xs).length ≤ c' ∧ c' ≤ 9223372036854775807) ∧ Below w.heap.size w w' := by
  have HG := Go.Lib.hid hg
  have HQ := Go.Lib.hid hq
  have hl : xs.length = n := hr.lenPt
  have HL := Go.Lib.hid hl
  clear hg hq hl
  refine (callsIn_wide (n := 3)).1 ?_
  refine callsIn_of_wp_marks Tryz.func102 rfl trivial ?_ rfl
  simp only [Tryz.ntmps102, List.size_toArray, List.length_cons, List.length_nil, Nat.reduceAdd, Nat.reduceSub, Array.replicate_succ, Array.replicate_zero, List.push_toArray, List.append_toArray, List.nil_append, List.cons_append]
  have hb1 := Go.Lib.hid (And.intro hr hb)
  clear hr hb
  gi_wp2_with fail
  refine ⟨trivial, ?_⟩
  refine (callsIn_wide.2 (edges_any A n cap _)).mono ?_
  rintro e w3 ⟨rfl, rfl⟩
  gi_wp2_with fail
  have bL := Boxed.new w 23 (.slice none 0 0)
  have bE := Boxed.new (w.alloc (.cells #[.slice none 0 0] 23)) 23 (.slice A n cap)
  rw [World.size_alloc] at bE
  replace bL := bL.alloc (.cells #[.slice A n cap] 23)
  have hB0 := ((Below.refl w.heap.size w).alloc (Nat.le_refl _) (.cells #[.slice none 0 0] 23)).alloc (by simp) (.cells #[.slice A n cap] 23)
  have hr0 := (hb1.out.1.alloc (Nat.le_refl _) (.cells #[.slice none 0 0] 23)).alloc (by simp) (.cells #[.slice A n cap] 23)
  have hz0 : ((w.alloc (.cells #[.slice none 0 0] 23)).alloc (.cells #[.slice A n cap] 23)).heap.size = w.heap.size + 2 := by simp
  generalize (w.alloc (.cells #[.slice none 0 0] 23)).alloc (.cells #[.slice A n cap] 23) = w0 at *
  have hblt : gb < w.heap.size := Blk.lt hb1.out.2
  have KB := hb1.out.2
  have HKB := Go.Lib.hid KB
  clear KB hb1
  refine wpIn_rangeFunc_ownH rfl (by omega) (gf := 138) (lb := #[.pointer (some ⟨w.heap.size + 1, 0, none⟩)]) rfl trivial (enters_of Tryz.func138 (by kernel_rfl) rfl)
    (edges_stops 2 (by omega) w.heap.size (w.heap.size + 1) cap n A xs (by omega) w0 (by omega) (by omega) bE.cell hr0) (fun h k => h.trans k)
    (fun W l o o' hl h _ _ => ⟨by simp, fun i hi => World.putObj_heap_other (by omega)⟩) (Below.refl _ _) (fun _ => rfl)
    (fun pre W => (∃ v, Boxed W w.heap.size 23 v ∧ W.ownsRow w.heap.size 44 2 v (insL xs q pre).length (ptsV (insL xs q pre)) ∧ True) ∧ Boxed W (w.heap.size + 1) 23 (.slice A n cap) ∧ Below w.heap.size w W)
    (fun _ _ _ => False)
    (OwnFrom.and (Own.from (holdsRow_own w.heap.size w.heap.size _ _ 2 (fun pre : List Nat => (insL xs q pre).length) (fun pre => ptsV (insL xs q pre)) (fun _ _ => True)) _)
      (OwnFrom.and (Own.from (boxed_own _ _ _) _) (ownFrom_below (Nat.le_refl _) (by omega))))
    (fun _ _ _ _ _ hs _ _ => hs)
    ⟨⟨_, bL, World.ownsRow_nil _ _ _ _, trivial⟩, bE, hB0⟩
    (fun x a' W => ∃ Bx, (Blk W Bx 92 #[.int .i64 (ptAt xs x).x, .int .i64 (ptAt xs x).y, .int .i64 (ptAt xs ((x + 1) % xs.length)).x, .int .i64 (ptAt xs ((x + 1) % xs.length)).y] ∧ Bx ≠ w.heap.size) ∧
      a' = { tmps := #[.slice A n cap, .pointer (some ⟨gb, 0, none⟩), undef, .slice none 0 0, .pointer (some ⟨w.heap.size, 0, none⟩), undef, .pointer (some ⟨Bx, 0, none⟩), undef, undef, .slice A n cap, .func (.func 138) #[] #[.pointer (some ⟨w.heap.size + 1, 0, none⟩)], .int .i64 (x : Int), .agg #[.int .i64 (ptAt xs x).x, .int .i64 (ptAt xs x).y, .int .i64 (ptAt xs ((x + 1) % xs.length)).x, .int .i64 (ptAt xs ((x + 1) % xs.length)).y], undef, undef, undef, undef, undef, undef, undef, undef, undef, undef, undef, undef, undef, undef, undef, undef, undef, undef, undef, undef, undef, undef, undef, undef, undef, undef, undef, undef, undef, undef, undef, undef], defers := [] })
    (fun x a' => fun s X Y row ⟨Bx, ⟨hs, hne⟩, e⟩ hg hrow => ⟨Bx, ⟨blk_own Bx _ (fun _ : Unit => _) () X Y row hs hg (fun r hr => (hrow r hr).2), hne⟩, e⟩) ?assign ?body ?done ?stop
  case assign =>
    rintro l pre x W K ⟨⟨v, bv, hown, _⟩, bE', hB'⟩ hK
    unfold edgeAt edgeV
    gi_wp2
    have hsz := hB'.size
    have hlt := bE'.lt
    have hltv := bv.lt
    refine hK _ _ ((KeepsOthers.alloc _ _).from _) (KeepE.alloc (by omega) hlt _) ⟨⟨v, bv.alloc _, hown.alloc _, trivial⟩, bE'.alloc _, hB'.alloc hB'.size _⟩ ⟨W.heap.size, ⟨Blk.new W _ _, by omega⟩, rfl⟩
  case body =>
    rintro l pre x a' W hl ⟨r, hrr⟩ ⟨⟨v, bv, hown, _⟩, bE', hB'⟩ ⟨Bx, ⟨hBx, hne⟩, rfl⟩ hlen
    obtain ⟨i0, hi0, hz0', hz1', hz2'⟩ := info_parts info_point
    have hpg := ptAt_good HG.out x
    have hqg := ptAt_good HG.out ((x + 1) % xs.length)
    have hik : insK xs q x = ptAt xs x :: (if (onB (ptAt xs x) (ptAt xs ((x + 1) % xs.length)) q && (!decide (q = ptAt xs x) && !decide (q = ptAt xs ((x + 1) % xs.length)))) = true then [q] else []) := rfl
    have hns := insL_snoc xs q pre x
    have hlb := insL_len xs q pre
    rw [hik] at hns
    obtain ⟨p, hp⟩ : ∃ p, p = ptAt xs x := ⟨_, rfl⟩
    obtain ⟨p', hp'⟩ : ∃ p', p' = ptAt xs ((x + 1) % xs.length) := ⟨_, rfl⟩
    rw [← hp, ← hp'] at hBx hns
    rw [← hp] at hpg
    rw [← hp'] at hqg
    rw [← hp, ← hp']
    obtain ⟨m, hm⟩ : ∃ m, m = (insL xs q pre).length := ⟨_, rfl⟩
    rw [← hm] at hown hlb
    have HNS := Go.Lib.hid (And.intro hns hm)
    have HPQ := Go.Lib.hid (And.intro hpg hqg)
    clear hp hp' hpg hqg hik hns hm
    have x1 : W.cell? ⟨Bx, 0, none⟩ = some (.int .i64 p.x) := by rw [Blk.cell hBx 0]; rfl
    have x2 : W.cell? ⟨Bx, 1, none⟩ = some (.int .i64 p.y) := by rw [Blk.cell hBx 1]; rfl
    have c1 := bv.cell
    have hHk := Go.Lib.hid hrr
    clear hrr
    have hltv := bv.lt
    have hbc := (bv.alloc (.cells #[.int .i64 p.x, .int .i64 p.y] 44)).cell
    gi_wp2_with (first
      | (gi_at_builtin; refine wpListIn_append_own _ rfl _ _ 23 rfl w.heap.size 44 i0 _ 2 16 Tryz.underlying23 hi0 hz0' hz1' hz2' rfl (by decide) v m _ rfl (hown.alloc _) ⟨W.heap.size, 0, none⟩ 1 1 [.int .i64 p.x, .int .i64 p.y] rfl rfl (two_cells _ _ _ _ _ (by simp)) (by simp [Value.oneCell']) (by simp only [maxLen]; omega) (by omega) (by simp; omega) ?_
         intro v' w4 hown' hgrow _
         obtain ⟨g', cap', rfl⟩ := ownsRow_succ hown'
         obtain ⟨k1, k2, ⟨k3, k4⟩, k5, k6, k7, k8, k9⟩ := ins_append (KeepsOthers.refl W) (KeepE.refl _ _ W) bv hown bE' hBx hne hB' (by omega) hown' hgrow
         obtain ⟨V1, hV1⟩ : ∃ V, V = w4.setCell ⟨w.heap.size, 0, none⟩ (.slice (some ⟨g', 0, none⟩) (m + 1) cap') := ⟨_, rfl⟩
         rw [← hV1] at k1 k2 k3 k4 k5 k6 k7
         have hV2 := hV1.symm
         have z1 : V1.cell? ⟨Bx, 0, none⟩ = some (.int .i64 p.x) := (by rw [Blk.cell k6 0]; rfl)
         have z2 : V1.cell? ⟨Bx, 1, none⟩ = some (.int .i64 p.y) := (by rw [Blk.cell k6 1]; rfl)
         have z3 : V1.cell? ⟨Bx, 2, none⟩ = some (.int .i64 p'.x) := (by rw [Blk.cell k6 2]; rfl)
         have z4 : V1.cell? ⟨Bx, 3, none⟩ = some (.int .i64 p'.y) := (by rw [Blk.cell k6 3]; rfl)
         obtain ⟨y1, y2, -, -, -⟩ := PtK.facts (show PtK V1 gb q from Blk.below HKB.out k7 hblt)
         have HV := Go.Lib.hid (And.intro k1 (And.intro k2 (And.intro k3 (And.intro k4 (And.intro k5 (And.intro k6 k7))))))
         clear k1 k2 k3 k4 k5 k6 k7 hV1 hgrow hown' hbc x1 x2 c1))
    refine ⟨trivial, ?_⟩
    refine (CallsIn.inRound l (callsIn_wide.2 (onW_any p p' q V1 HPQ.out.1 HPQ.out.2 HQ.out))).mono ?_
    rintro e V2 ⟨rfl, hb2⟩
    have hX2 := Blk.below HV.out.2.2.2.2.2.1 hb2 (Blk.lt HV.out.2.2.2.2.2.1)
    have hv2 : Boxed V2 w.heap.size 23 (.slice (some ⟨g', 0, none⟩) (m + 1) cap') := Blk.below HV.out.2.2.1 hb2 HV.out.2.2.1.lt
    have ho2 := own_below HV.out.2.2.2.1 hb2
    have hE2 : Boxed V2 (w.heap.size + 1) 23 (.slice A n cap) := Blk.below HV.out.2.2.2.2.1 hb2 HV.out.2.2.2.2.1.lt
    have hB2 := below_on HV.out.2.2.2.2.2.2 (Nat.le_refl _) hb2
    have hk2 := HV.out.1.trans (keeps_below hb2)
    have he2 : KeepE w.heap.size (w.heap.size + 1) W V2 := HV.out.2.1.trans (KeepE.below hb2 (by have := HV.out.2.2.1.lt; omega) HV.out.2.2.2.2.1.lt)
    clear z1 z2 z3 z4 y1 y2
    have z1 : V2.cell? ⟨Bx, 0, none⟩ = some (.int .i64 p.x) := by rw [Blk.cell hX2 0]; rfl
    have z2 : V2.cell? ⟨Bx, 1, none⟩ = some (.int .i64 p.y) := by rw [Blk.cell hX2 1]; rfl
    have z3 : V2.cell? ⟨Bx, 2, none⟩ = some (.int .i64 p'.x) := by rw [Blk.cell hX2 2]; rfl
    have z4 : V2.cell? ⟨Bx, 3, none⟩ = some (.int .i64 p'.y) := by rw [Blk.cell hX2 3]; rfl
    obtain ⟨y1, y2, -, -, -⟩ := PtK.facts (show PtK V2 gb q from Blk.below HKB.out hB2 hblt)
    have c2 := hv2.cell
    have n1 := fun V => neqPt_runs q p V
    have n2 := fun V => neqPt_runs q p' V
    have HW := Go.Lib.hid (And.intro hk2 (And.intro he2 (And.intro hv2 (And.intro ho2 (And.intro hE2 (And.intro hX2 hB2))))))
    obtain ⟨ob, hob⟩ : ∃ b, b = onB p p' q := ⟨_, rfl⟩
    obtain ⟨d1, hd1⟩ : ∃ b, b = decide (q = p) := ⟨_, rfl⟩
    obtain ⟨d2, hd2⟩ : ∃ b, b = decide (q = p') := ⟨_, rfl⟩
    rw [← hob]
    rw [← hob, ← hd1, ← hd2] at HNS
    simp only [← hd1] at n1
    simp only [← hd2] at n2
    clear hob hd1 hd2 hk2 he2 hX2 hB2 HV hb2
    rcases ob with _ | _
    · clear n1 n2 hv2 ho2 hE2
      gi_wp2_with fail
      have hi : insL xs q (pre ++ [x]) = insL xs q pre ++ [p] := by rw [HNS.out.1]; rfl
      refine ⟨HW.out.1.from _, HW.out.2.1, ⟨_, HW.out.2.2.1, ?_, trivial⟩, HW.out.2.2.2.2.1, HW.out.2.2.2.2.2.2⟩
      rw [hi, ptsV_append, List.length_append, ← HNS.out.2]
      exact HW.out.2.2.2.1
    rcases d1 with _ | _
    case true =>
      clear n2 hv2 ho2 hE2
      gi_wp2_with fail
      have hi : insL xs q (pre ++ [x]) = insL xs q pre ++ [p] := by rw [HNS.out.1]; rfl
      refine ⟨HW.out.1.from _, HW.out.2.1, ⟨_, HW.out.2.2.1, ?_, trivial⟩, HW.out.2.2.2.2.1, HW.out.2.2.2.2.2.2⟩
      rw [hi, ptsV_append, List.length_append, ← HNS.out.2]
      exact HW.out.2.2.2.1
    rcases d2 with _ | _
    case true =>
      clear hv2 ho2 hE2
      gi_wp2_with fail
      have hi : insL xs q (pre ++ [x]) = insL xs q pre ++ [p] := by rw [HNS.out.1]; rfl
      refine ⟨HW.out.1.from _, HW.out.2.1, ⟨_, HW.out.2.2.1, ?_, trivial⟩, HW.out.2.2.2.2.1, HW.out.2.2.2.2.2.2⟩
      rw [hi, ptsV_append, List.length_append, ← HNS.out.2]
      exact HW.out.2.2.2.1
    have hlt2 := hv2.lt
    have hbc2 := (hv2.alloc (.cells #[.int .i64 q.x, .int .i64 q.y] 44)).cell
    gi_wp2_with (first
      | (gi_at_builtin; refine wpListIn_append_own _ rfl _ _ 23 rfl w.heap.size 44 i0 _ 2 16 Tryz.underlying23 hi0 hz0' hz1' hz2' rfl (by decide) _ (m + 1) _ rfl (ho2.alloc _) ⟨V2.heap.size, 0, none⟩ 1 1 [.int .i64 q.x, .int .i64 q.y] rfl rfl (two_cells _ _ _ _ _ (by simp)) (by simp [Value.oneCell']) (by simp only [maxLen]; omega) (by omega) (by simp; omega) ?_
         intro v' w5 hown' hgrow _
         obtain ⟨g2, cap2, rfl⟩ := ownsRow_succ hown'
         obtain ⟨k1, k2, ⟨k3, k4⟩, k5, k6, k7, k8, k9⟩ := ins_append HW.out.1 HW.out.2.1 hv2 ho2 hE2 HW.out.2.2.2.2.2.1 hne HW.out.2.2.2.2.2.2 (by omega) hown' hgrow
         have HZ := Go.Lib.hid (And.intro k1 (And.intro k2 (And.intro k3 (And.intro k4 (And.intro k5 k7)))))
         clear k1 k2 k3 k4 k5 k6 k7 hgrow hown'))
    have hi : insL xs q (pre ++ [x]) = insL xs q pre ++ [p, q] := by rw [HNS.out.1]; rfl
    refine ⟨HZ.out.1.from _, HZ.out.2.1, ⟨_, HZ.out.2.2.1, ?_, trivial⟩, HZ.out.2.2.2.2.1, HZ.out.2.2.2.2.2⟩
    rw [hi, ptsV_append, List.length_append, ← HNS.out.2]
    have := HZ.out.2.2.2.1
    rw [List.append_assoc] at this
    exact this
  case done =>
    rintro D ys W hD rfl ⟨⟨v, bv, hown, _⟩, bE', hB'⟩ hK
    have hle : insL xs q (List.range n) = insG q xs := by unfold insG; rw [HL.out]
    rw [hle] at hown
    obtain ⟨A', c', rfl⟩ := own_form hown
    have hc1 := bv.cell
    have hOW := Go.Lib.hid hown
    clear hown
    gi_wp2_with fail
    refine ⟨by simp, .inl ⟨_, _, rfl, run_takeDeferred hK, ?_⟩⟩
    have ho := ownsRow_putObj hOW.out (.deferred none) hK rfl
    refine ⟨.slice A' (insG q xs).length c', by simp [results, Tryz.results102, go_sem], ⟨A', c', rfl, ⟨Reads.of_own ho, own_cap ho⟩, hB'.trans (belowK_b (w := w) (Nat.le_refl _) W D _ _ (by omega) hK rfl rfl)⟩⟩
  case stop =>
    rintro D c pre W _ _ h _
    exact h.elim
end Go.Proofs.YtmegmokjjlelgaaGreat
