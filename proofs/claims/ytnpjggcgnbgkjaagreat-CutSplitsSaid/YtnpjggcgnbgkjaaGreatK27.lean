/- plan.Insert's closure: a corner more in each stretch that has it within: the walk; plan.Each: words, and the plain law of it. -/
import Derived.Test.YtnpjggcgnbgkjaaGreatK26
namespace Go.Proofs.YtnpjggcgnbgkjaaGreat
open Go.RowKit Go.Shelf
attribute [local go_sem] Go.Oper.semAt_some
theorem neqPt_runs (p q : Pt) (w : World) : Sem.run Tryz.prog (binOp .neq 35 (.agg #[.int .i64 p.x, .int .i64 p.y]) (.agg #[.int .i64 q.x, .int .i64 q.y])) w = .ok (.bool (!decide (p = q))) w := by
  have u3 := Tryz.underlying3
  have a3 := Tryz.isAgg3
  have z3 := Tryz.sizeOf3
  have hS : Tryz.prog.underlying 35 = some (.struct (Tryz.prog.fieldsOf 35)) := by kernel_rfl
  have hp : Tryz.prog.stoodInHeld 35 = false := by kernel_rfl
  obtain ⟨x1, x2⟩ := p
  obtain ⟨y1, y2⟩ := q
  rw [run_neq_struct, show (10000 : Nat) = 9999 + 1 from rfl, run_equalIn_agg w 9999 35 _ _ hS hp]
  simp only [Program.fieldsOf, Tryz.underlying35]
  go_simp
  by_cases h1 : x1 = y1 <;> by_cases h2 : x2 = y2 <;> simp [h1, h2]
def insK (xs : List Pt) (q : Pt) (k : Nat) : List Pt := ptAt xs k :: (if (onB (ptAt xs k) (ptAt xs ((k + 1) % xs.length)) q && (!decide (q = ptAt xs k) && !decide (q = ptAt xs ((k + 1) % xs.length)))) = true then [q] else [])
def insL (xs : List Pt) (q : Pt) (l : List Nat) : List Pt := l.flatMap (insK xs q)
def insG (q : Pt) (xs : List Pt) : List Pt := insL xs q (List.range xs.length)
theorem insK_len (xs : List Pt) (q : Pt) (k : Nat) : 1 ≤ (insK xs q k).length ∧ (insK xs q k).length ≤ 2 := by unfold insK; split <;> simp
theorem insL_len (xs : List Pt) (q : Pt) (l : List Nat) : (insL xs q l).length ≤ 2 * l.length := by
  induction l with
  | nil => simp [insL]
  | cons a l ih =>
    have h1 := (insK_len xs q a).2
    have h2 : insL xs q (a :: l) = insK xs q a ++ insL xs q l := by simp [insL]
    rw [h2, List.length_append, List.length_cons]
    omega
theorem insL_snoc (xs : List Pt) (q : Pt) (l : List Nat) (k : Nat) : insL xs q (l ++ [k]) = insL xs q l ++ insK xs q k := by simp [insL]
theorem insG_len (q : Pt) (xs : List Pt) : (insG q xs).length ≤ 2 * xs.length := by have := insL_len xs q (List.range xs.length); rw [List.length_range] at this; exact this
set_option maxHeartbeats 800000 in
theorem ins_append {w W V w3 : World} {S bs k m Bx : Nat} {v v' rv : Value} {xs ys : List Value} {tmp : Obj} {C : Array Value}
    (h1 : KeepsOthers W V) (h2 : KeepE S bs W V) (bv : Boxed V S 23 v) (ho : V.ownsRow S 35 2 v k xs) (dr : Boxed V bs 23 rv)
    (dX : Blk V Bx 108 C) (hX : Bx ≠ S) (dB : Below S w V) (hbs : bs ≠ S) (hown' : w3.ownsRow S 35 2 v' m ys) (hgrow : (V.alloc tmp).grownBy w3 v.ownBlock) :
    KeepsOthers W (w3.setCell ⟨S, 0, none⟩ v') ∧ KeepE S bs W (w3.setCell ⟨S, 0, none⟩ v') ∧ (Boxed (w3.setCell ⟨S, 0, none⟩ v') S 23 v' ∧ (w3.setCell ⟨S, 0, none⟩ v').ownsRow S 35 2 v' m ys) ∧
    Boxed (w3.setCell ⟨S, 0, none⟩ v') bs 23 rv ∧ Blk (w3.setCell ⟨S, 0, none⟩ v') Bx 108 C ∧ Below S w (w3.setCell ⟨S, 0, none⟩ v') ∧ w3.cell? ⟨S, 0, none⟩ = some v ∧ w3.frozen? ⟨S, 0, none⟩ = false := by
  have hlt := bv.lt
  obtain ⟨q1, q2, q3, q4, q5⟩ := Boxed.appended bv (by decide) ho (by omega) (Nat.le_refl _) hown' hgrow
  have r1 : Boxed (w3.setCell ⟨S, 0, none⟩ v') bs 23 rv := ((dr.alloc tmp).kept hgrow (dr.not_row (by decide) ho)).other (B' := S) hbs v'
  refine ⟨h1.trans q4, ⟨Nat.le_trans h2.1 q4.size, fun i hi => ?_⟩, ⟨q2, q3⟩, r1, ?_, dB.trans q5, q1.cell, q1.frozen⟩
  · rw [← h2.2 i hi]
    rcases hi with hi | rfl
    · exact q5.block i hi
    · exact (show _ = _ from r1).trans (show _ = _ from dr).symm
  · exact Blk.far (Blk.grown (Blk.alloc dX tmp) hgrow (blk_row dX (by decide) ho)) hX _
set_option maxRecDepth 100000 in
set_option maxHeartbeats 3200000 in
theorem insert1_any (gb : Nat) (q : Pt) (xs : List Pt) (A : Option Addr) (n cap : Nat) (w : World) (hr : Reads w w.heap.size 2 A n (ptsV xs)) (hn : n ≤ 1048576) (hg : goodL xs = true) (hq : good q = true) (hb : PtK w gb q) :
    Calls Tryz.prog 198 #[.slice A n cap, .pointer (some ⟨gb, 0, none⟩)] w fun e w' => ∃ A' c', e = .returned (.slice A' (insG q xs).length c') ∧ (Reads w' w'.heap.size 2 A' (insG q xs).length (ptsV (insG q xs)) ∧ (insG q xs).length ≤ c' ∧ c' ≤ 9223372036854775807) ∧ Below w.heap.size w w' := by
  have HG := Go.Lib.hid hg
  have HQ := Go.Lib.hid hq
  have hl : xs.length = n := hr.lenPt
  have HL := Go.Lib.hid hl
  clear hg hq hl
  refine (callsIn_wide (n := 3)).1 ?_
  refine callsIn_of_wp_marks Tryz.func198 rfl trivial ?_ rfl
  simp only [Tryz.ntmps198, List.size_toArray, List.length_cons, List.length_nil, Nat.reduceAdd, Nat.reduceSub, Array.replicate_succ, Array.replicate_zero, List.push_toArray, List.append_toArray, List.nil_append, List.cons_append]
  have hb1 := Go.Lib.hid (And.intro hr hb)
  clear hr hb
  gi_wp2_with fail
  refine ⟨trivial, ?_⟩
  refine (callsIn_wide.2 (edges_any A n cap _)).mono ?_
  rintro e w3 ⟨rfl, rfl⟩
  gi_wp2_with fail
  have bL := Boxed.new w 23 (.slice none 0 0)
  have bE := Boxed.new (w.alloc (.cells #[.slice none 0 0] 23)) 23 (.slice A n cap)
  rw [World.size_alloc] at bE
  replace bL := bL.alloc (.cells #[.slice A n cap] 23)
  have hB0 := ((Below.refl w.heap.size w).alloc (Nat.le_refl _) (.cells #[.slice none 0 0] 23)).alloc (by simp) (.cells #[.slice A n cap] 23)
  have hr0 := (hb1.out.1.alloc (Nat.le_refl _) (.cells #[.slice none 0 0] 23)).alloc (by simp) (.cells #[.slice A n cap] 23)
  have hz0 : ((w.alloc (.cells #[.slice none 0 0] 23)).alloc (.cells #[.slice A n cap] 23)).heap.size = w.heap.size + 2 := by simp
  generalize (w.alloc (.cells #[.slice none 0 0] 23)).alloc (.cells #[.slice A n cap] 23) = w0 at *
  have hblt : gb < w.heap.size := Blk.lt hb1.out.2
  have KB := hb1.out.2
  have HKB := Go.Lib.hid KB
  clear KB hb1
  refine wpIn_rangeFunc_ownH rfl (by omega) (gf := 191) (lb := #[.pointer (some ⟨w.heap.size + 1, 0, none⟩)]) rfl trivial (enters_of Tryz.func191 (by kernel_rfl) rfl)
    (edges_stops 2 (by omega) w.heap.size (w.heap.size + 1) cap n A xs (by omega) w0 (by omega) (by omega) bE.cell hr0) (fun h k => h.trans k)
    (fun W l o o' hl h _ _ => ⟨by simp, fun i hi => World.putObj_heap_other (by omega)⟩) (Below.refl _ _) (fun _ => rfl)
    (fun pre W => (∃ v, Boxed W w.heap.size 23 v ∧ W.ownsRow w.heap.size 35 2 v (insL xs q pre).length (ptsV (insL xs q pre)) ∧ True) ∧ Boxed W (w.heap.size + 1) 23 (.slice A n cap) ∧ Below w.heap.size w W)
    (fun _ _ _ => False)
    (OwnFrom.and (Own.from (holdsRow_own w.heap.size w.heap.size _ _ 2 (fun pre : List Nat => (insL xs q pre).length) (fun pre => ptsV (insL xs q pre)) (fun _ _ => True)) _)
      (OwnFrom.and (Own.from (boxed_own _ _ _) _) (ownFrom_below (Nat.le_refl _) (by omega))))
    (fun _ _ _ _ _ hs _ _ => hs)
    ⟨⟨_, bL, World.ownsRow_nil _ _ _ _, trivial⟩, bE, hB0⟩
    (fun x a' W => ∃ Bx, (Blk W Bx 108 #[.int .i64 (ptAt xs x).x, .int .i64 (ptAt xs x).y, .int .i64 (ptAt xs ((x + 1) % xs.length)).x, .int .i64 (ptAt xs ((x + 1) % xs.length)).y] ∧ Bx ≠ w.heap.size) ∧
      a' = { tmps := #[.slice A n cap, .pointer (some ⟨gb, 0, none⟩), undef, .slice none 0 0, .pointer (some ⟨w.heap.size, 0, none⟩), undef, .pointer (some ⟨Bx, 0, none⟩), undef, undef, .slice A n cap, .func (.func 191) #[] #[.pointer (some ⟨w.heap.size + 1, 0, none⟩)], .int .i64 (x : Int), .agg #[.int .i64 (ptAt xs x).x, .int .i64 (ptAt xs x).y, .int .i64 (ptAt xs ((x + 1) % xs.length)).x, .int .i64 (ptAt xs ((x + 1) % xs.length)).y], undef, undef, undef, undef, undef, undef, undef, undef, undef, undef, undef, undef, undef, undef, undef, undef, undef, undef, undef, undef, undef, undef, undef, undef, undef, undef, undef, undef, undef, undef, undef, undef], defers := [] })
    (fun x a' => fun s X Y row ⟨Bx, ⟨hs, hne⟩, e⟩ hg hrow => ⟨Bx, ⟨blk_own Bx _ (fun _ : Unit => _) () X Y row hs hg (fun r hr => (hrow r hr).2), hne⟩, e⟩) ?assign ?body ?done ?stop
  case assign =>
    rintro l pre x W K ⟨⟨v, bv, hown, _⟩, bE', hB'⟩ hK
    unfold edgeAt edgeV
    gi_wp2
    have hsz := hB'.size
    have hlt := bE'.lt
    have hltv := bv.lt
    refine hK _ _ ((KeepsOthers.alloc _ _).from _) (KeepE.alloc (by omega) hlt _) ⟨⟨v, bv.alloc _, hown.alloc _, trivial⟩, bE'.alloc _, hB'.alloc hB'.size _⟩ ⟨W.heap.size, ⟨Blk.new W _ _, by omega⟩, rfl⟩
  case body =>
    rintro l pre x a' W hl ⟨r, hrr⟩ ⟨⟨v, bv, hown, _⟩, bE', hB'⟩ ⟨Bx, ⟨hBx, hne⟩, rfl⟩ hlen
    obtain ⟨i0, hi0, hz0', hz1', hz2'⟩ := info_parts info_point
    have hpg := ptAt_good HG.out x
    have hqg := ptAt_good HG.out ((x + 1) % xs.length)
    have hik : insK xs q x = ptAt xs x :: (if (onB (ptAt xs x) (ptAt xs ((x + 1) % xs.length)) q && (!decide (q = ptAt xs x) && !decide (q = ptAt xs ((x + 1) % xs.length)))) = true then [q] else []) := rfl
    have hns := insL_snoc xs q pre x
    have hlb := insL_len xs q pre
    rw [hik] at hns
    obtain ⟨p, hp⟩ : ∃ p, p = ptAt xs x := ⟨_, rfl⟩
    obtain ⟨p', hp'⟩ : ∃ p', p' = ptAt xs ((x + 1) % xs.length) := ⟨_, rfl⟩
    rw [← hp, ← hp'] at hBx hns
    rw [← hp] at hpg
    rw [← hp'] at hqg
    rw [← hp, ← hp']
    obtain ⟨m, hm⟩ : ∃ m, m = (insL xs q pre).length := ⟨_, rfl⟩
    rw [← hm] at hown hlb
    have HNS := Go.Lib.hid (And.intro hns hm)
    have HPQ := Go.Lib.hid (And.intro hpg hqg)
    clear hp hp' hpg hqg hik hns hm
    have x1 : W.cell? ⟨Bx, 0, none⟩ = some (.int .i64 p.x) := by rw [Blk.cell hBx 0]; rfl
    have x2 : W.cell? ⟨Bx, 1, none⟩ = some (.int .i64 p.y) := by rw [Blk.cell hBx 1]; rfl
    have c1 := bv.cell
    have hHk := Go.Lib.hid hrr
    clear hrr
    have hltv := bv.lt
    have hbc := (bv.alloc (.cells #[.int .i64 p.x, .int .i64 p.y] 35)).cell
    gi_wp2_with (first
      | (gi_at_builtin; refine wpListIn_append_own _ rfl _ _ 23 rfl w.heap.size 35 i0 _ 2 16 Tryz.underlying23 hi0 hz0' hz1' hz2' rfl (by decide) v m _ rfl (hown.alloc _) ⟨W.heap.size, 0, none⟩ 1 1 [.int .i64 p.x, .int .i64 p.y] rfl rfl (two_cells _ _ _ _ _ (by simp)) (by simp [Value.oneCell']) (by simp only [maxLen]; omega) (by omega) (by simp; omega) ?_
         intro v' w4 hown' hgrow _
         obtain ⟨g', cap', rfl⟩ := ownsRow_succ hown'
         obtain ⟨k1, k2, ⟨k3, k4⟩, k5, k6, k7, k8, k9⟩ := ins_append (KeepsOthers.refl W) (KeepE.refl _ _ W) bv hown bE' hBx hne hB' (by omega) hown' hgrow
         obtain ⟨V1, hV1⟩ : ∃ V, V = w4.setCell ⟨w.heap.size, 0, none⟩ (.slice (some ⟨g', 0, none⟩) (m + 1) cap') := ⟨_, rfl⟩
         rw [← hV1] at k1 k2 k3 k4 k5 k6 k7
         have hV2 := hV1.symm
         have z1 : V1.cell? ⟨Bx, 0, none⟩ = some (.int .i64 p.x) := (by rw [Blk.cell k6 0]; rfl)
         have z2 : V1.cell? ⟨Bx, 1, none⟩ = some (.int .i64 p.y) := (by rw [Blk.cell k6 1]; rfl)
         have z3 : V1.cell? ⟨Bx, 2, none⟩ = some (.int .i64 p'.x) := (by rw [Blk.cell k6 2]; rfl)
         have z4 : V1.cell? ⟨Bx, 3, none⟩ = some (.int .i64 p'.y) := (by rw [Blk.cell k6 3]; rfl)
         obtain ⟨y1, y2, -, -, -⟩ := PtK.facts (show PtK V1 gb q from Blk.below HKB.out k7 hblt)
         have HV := Go.Lib.hid (And.intro k1 (And.intro k2 (And.intro k3 (And.intro k4 (And.intro k5 (And.intro k6 k7))))))
         clear k1 k2 k3 k4 k5 k6 k7 hV1 hgrow hown' hbc x1 x2 c1))
    refine ⟨trivial, ?_⟩
    refine (CallsIn.inRound l (callsIn_wide.2 (onW_any p p' q V1 HPQ.out.1 HPQ.out.2 HQ.out))).mono ?_
    rintro e V2 ⟨rfl, hb2⟩
    have hX2 := Blk.below HV.out.2.2.2.2.2.1 hb2 (Blk.lt HV.out.2.2.2.2.2.1)
    have hv2 : Boxed V2 w.heap.size 23 (.slice (some ⟨g', 0, none⟩) (m + 1) cap') := Blk.below HV.out.2.2.1 hb2 HV.out.2.2.1.lt
    have ho2 := own_below HV.out.2.2.2.1 hb2
    have hE2 : Boxed V2 (w.heap.size + 1) 23 (.slice A n cap) := Blk.below HV.out.2.2.2.2.1 hb2 HV.out.2.2.2.2.1.lt
    have hB2 := below_on HV.out.2.2.2.2.2.2 (Nat.le_refl _) hb2
    have hk2 := HV.out.1.trans (keeps_below hb2)
    have he2 : KeepE w.heap.size (w.heap.size + 1) W V2 := HV.out.2.1.trans (KeepE.below hb2 (by have := HV.out.2.2.1.lt; omega) HV.out.2.2.2.2.1.lt)
    clear z1 z2 z3 z4 y1 y2
    have z1 : V2.cell? ⟨Bx, 0, none⟩ = some (.int .i64 p.x) := by rw [Blk.cell hX2 0]; rfl
    have z2 : V2.cell? ⟨Bx, 1, none⟩ = some (.int .i64 p.y) := by rw [Blk.cell hX2 1]; rfl
    have z3 : V2.cell? ⟨Bx, 2, none⟩ = some (.int .i64 p'.x) := by rw [Blk.cell hX2 2]; rfl
    have z4 : V2.cell? ⟨Bx, 3, none⟩ = some (.int .i64 p'.y) := by rw [Blk.cell hX2 3]; rfl
    obtain ⟨y1, y2, -, -, -⟩ := PtK.facts (show PtK V2 gb q from Blk.below HKB.out hB2 hblt)
    have c2 := hv2.cell
    have n1 := fun V => neqPt_runs q p V
    have n2 := fun V => neqPt_runs q p' V
    have HW := Go.Lib.hid (And.intro hk2 (And.intro he2 (And.intro hv2 (And.intro ho2 (And.intro hE2 (And.intro hX2 hB2))))))
    obtain ⟨ob, hob⟩ : ∃ b, b = onB p p' q := ⟨_, rfl⟩
    obtain ⟨d1, hd1⟩ : ∃ b, b = decide (q = p) := ⟨_, rfl⟩
    obtain ⟨d2, hd2⟩ : ∃ b, b = decide (q = p') := ⟨_, rfl⟩
    rw [← hob]
    rw [← hob, ← hd1, ← hd2] at HNS
    simp only [← hd1] at n1
    simp only [← hd2] at n2
    clear hob hd1 hd2 hk2 he2 hX2 hB2 HV hb2
    rcases ob with _ | _
    · clear n1 n2 hv2 ho2 hE2
      gi_wp2_with fail
      have hi : insL xs q (pre ++ [x]) = insL xs q pre ++ [p] := by rw [HNS.out.1]; rfl
      refine ⟨HW.out.1.from _, HW.out.2.1, ⟨_, HW.out.2.2.1, ?_, trivial⟩, HW.out.2.2.2.2.1, HW.out.2.2.2.2.2.2⟩
      rw [hi, ptsV_append, List.length_append, ← HNS.out.2]
      exact HW.out.2.2.2.1
    rcases d1 with _ | _
    case true =>
      clear n2 hv2 ho2 hE2
      gi_wp2_with fail
      have hi : insL xs q (pre ++ [x]) = insL xs q pre ++ [p] := by rw [HNS.out.1]; rfl
      refine ⟨HW.out.1.from _, HW.out.2.1, ⟨_, HW.out.2.2.1, ?_, trivial⟩, HW.out.2.2.2.2.1, HW.out.2.2.2.2.2.2⟩
      rw [hi, ptsV_append, List.length_append, ← HNS.out.2]
      exact HW.out.2.2.2.1
    rcases d2 with _ | _
    case true =>
      clear hv2 ho2 hE2
      gi_wp2_with fail
      have hi : insL xs q (pre ++ [x]) = insL xs q pre ++ [p] := by rw [HNS.out.1]; rfl
      refine ⟨HW.out.1.from _, HW.out.2.1, ⟨_, HW.out.2.2.1, ?_, trivial⟩, HW.out.2.2.2.2.1, HW.out.2.2.2.2.2.2⟩
      rw [hi, ptsV_append, List.length_append, ← HNS.out.2]
      exact HW.out.2.2.2.1
    have hlt2 := hv2.lt
    have hbc2 := (hv2.alloc (.cells #[.int .i64 q.x, .int .i64 q.y] 35)).cell
    gi_wp2_with (first
      | (gi_at_builtin; refine wpListIn_append_own _ rfl _ _ 23 rfl w.heap.size 35 i0 _ 2 16 Tryz.underlying23 hi0 hz0' hz1' hz2' rfl (by decide) _ (m + 1) _ rfl (ho2.alloc _) ⟨V2.heap.size, 0, none⟩ 1 1 [.int .i64 q.x, .int .i64 q.y] rfl rfl (two_cells _ _ _ _ _ (by simp)) (by simp [Value.oneCell']) (by simp only [maxLen]; omega) (by omega) (by simp; omega) ?_
         intro v' w5 hown' hgrow _
         obtain ⟨g2, cap2, rfl⟩ := ownsRow_succ hown'
         obtain ⟨k1, k2, ⟨k3, k4⟩, k5, k6, k7, k8, k9⟩ := ins_append HW.out.1 HW.out.2.1 hv2 ho2 hE2 HW.out.2.2.2.2.2.1 hne HW.out.2.2.2.2.2.2 (by omega) hown' hgrow
         have HZ := Go.Lib.hid (And.intro k1 (And.intro k2 (And.intro k3 (And.intro k4 (And.intro k5 k7)))))
         clear k1 k2 k3 k4 k5 k6 k7 hgrow hown'))
    have hi : insL xs q (pre ++ [x]) = insL xs q pre ++ [p, q] := by rw [HNS.out.1]; rfl
    refine ⟨HZ.out.1.from _, HZ.out.2.1, ⟨_, HZ.out.2.2.1, ?_, trivial⟩, HZ.out.2.2.2.2.1, HZ.out.2.2.2.2.2⟩
    rw [hi, ptsV_append, List.length_append, ← HNS.out.2]
    have := HZ.out.2.2.2.1
    rw [List.append_assoc] at this
    exact this
  case done =>
    rintro D ys W hD rfl ⟨⟨v, bv, hown, _⟩, bE', hB'⟩ hK
    have hle : insL xs q (List.range n) = insG q xs := by unfold insG; rw [HL.out]
    rw [hle] at hown
    obtain ⟨A', c', rfl⟩ := own_form hown
    have hc1 := bv.cell
    have hOW := Go.Lib.hid hown
    clear hown
    gi_wp2_with fail
    refine ⟨by simp, .inl ⟨_, _, rfl, run_takeDeferred hK, ?_⟩⟩
    have ho := ownsRow_putObj hOW.out (.deferred none) hK rfl
    refine ⟨.slice A' (insG q xs).length c', by simp [results, Tryz.results198, go_sem], ⟨A', c', rfl, ⟨Reads.of_own ho, own_cap ho⟩, hB'.trans (belowK_b (w := w) (Nat.le_refl _) W D _ _ (by omega) hK rfl rfl)⟩⟩
  case stop =>
    rintro D c pre W _ _ h _
    exact h.elim
end Go.Proofs.YtnpjggcgnbgkjaaGreat
namespace Go.Proofs.YtnpjggcgnbgkjaaGreat
open Go.RowKit Go.Lib
def lst (xs : List Pt) : List Pt := rot (leastN xs xs.length) xs
def eachX (g : List Pt → List Pt) (x : Parc) : Parc := ⟨x.id, lst (g x.ring), x.owner⟩
def eachP (g : List Pt → List Pt) (p : Plan) : Plan := ⟨lst (g p.outer), p.parcels.map (eachX g)⟩
def ringOf (p : Plan) (xs : List Pt) : Prop := xs = p.outer ∨ ∃ x ∈ p.parcels, xs = x.ring
theorem pcAt_each {g : List Pt → List Pt} {p : Plan} {k : Nat} (hk : k < p.parcels.length) : pcAt (eachP g p).parcels k = eachX g (pcAt p.parcels k) := by
  unfold eachP
  rw [pcAt_lt (by simpa using hk), pcAt_lt hk]
  simp
theorem each_outer (g : List Pt → List Pt) (p : Plan) : (eachP g p).outer = lst (g p.outer) := rfl
theorem each_len {g : List Pt → List Pt} {p : Plan} : (eachP g p).parcels.length = p.parcels.length := by unfold eachP; simp
structure EachF (w W : World) (Bq : Nat) (p : Plan) (A : Option Addr) (n c : Nat) (A' : Option Addr) (n' c' k : Nat) (Ao : Option Addr) (no co : Nat) (Ap : Option Addr) (cp : Nat) (hs : List Hd) : Prop where
  bel : Below w.heap.size w W
  pbox : PlK W w.heap.size A n c A' n' c'
  rbox : PlK W (w.heap.size + 1) none 0 0 none 0 0
  qbox : PlK W Bq Ao no co Ap k cp
  hB : w.heap.size + 1 < Bq
  out : W.ownsRow w.heap.size 35 2 (.slice Ao no co) no (ptsV p.outer)
  row : W.ownsRow w.heap.size 37 3 (.slice Ap k cp) k (rowPV (p.parcels.take k) hs)
  len : hs.length = k
  rings : ∀ j, j < k → W.ownsRow w.heap.size 35 2 (.slice (hdAt hs j).1 (hdAt hs j).2.1 (hdAt hs j).2.2) (hdAt hs j).2.1 (ptsV (pcAt p.parcels j).ring)
theorem EachF.on {w W W' : World} {Bq : Nat} {p : Plan} {A A' Ao Ap : Option Addr} {n c n' c' k no co cp : Nat} {hs : List Hd} (h : EachF w W Bq p A n c A' n' c' k Ao no co Ap cp hs) (hb : Below W.heap.size W W') : EachF w W' Bq p A n c A' n' c' k Ao no co Ap cp hs :=
  ⟨below_on h.bel (Nat.le_refl _) hb, h.pbox.on hb, h.rbox.on hb, h.qbox.on hb, h.hB, own_below h.out hb, own_below h.row hb, h.len, fun j hj => own_below (h.rings j hj) hb⟩
theorem EachF.next {w W W' : World} {Bq : Nat} {p : Plan} {A A' Ao Ap A3 Ap' : Option Addr} {n c n' c' k no co cp nk c3 cp' : Nat} {hs : List Hd} (h : EachF w W Bq p A n c A' n' c' k Ao no co Ap cp hs) (hk : k < p.parcels.length)
    (hnew : W.ownsRow w.heap.size 35 2 (.slice A3 nk c3) nk (ptsV (pcAt p.parcels k).ring))
    (hown : W'.ownsRow w.heap.size 37 3 (.slice Ap' (k + 1) cp') (k + 1) (rowPV (p.parcels.take k) hs ++ pcV (pcAt p.parcels k) (A3, nk, c3)))
    (hg : W.grownBy W' (Value.slice Ap k cp).ownBlock) :
    (PlK W' Bq Ao no co Ap k cp) ∧ EachF w (W'.setCell ⟨Bq, 1, none⟩ (.slice Ap' (k + 1) cp')) Bq p A n c A' n' c' (k + 1) Ao no co Ap' cp' (hs ++ [(A3, nk, c3)]) := by
  have hq : PlK W' Bq Ao no co Ap k cp := (hg.block _ (Blk.lt h.qbox) (fun e => own_blk_ne h.row h.qbox (by decide) e.symm)).trans h.qbox
  have hp : PlK W' w.heap.size A n c A' n' c' := (hg.block _ (Blk.lt h.pbox) (fun e => own_blk_ne h.row h.pbox (by decide) e.symm)).trans h.pbox
  have hr : PlK W' (w.heap.size + 1) none 0 0 none 0 0 := (hg.block _ (Blk.lt h.rbox) (fun e => own_blk_ne h.row h.rbox (by decide) e.symm)).trans h.rbox
  have hkeep : ∀ {v : Value} {m : Nat} {xs : List Value}, W.ownsRow w.heap.size 35 2 v m xs → (W'.setCell ⟨Bq, 1, none⟩ (.slice Ap' (k + 1) cp')).ownsRow w.heap.size 35 2 v m xs := fun {v m xs} ho => by
    refine own_heap ho fun g hg' => ?_
    have h1 : g ≠ Bq := fun e => own_blk_ne ho h.qbox (by decide) (by rw [hg', e])
    rw [Below.heap_setCell _ _ _ g h1]
    exact hg.block g (ho.lt g hg').2 (fun e => own_own_ne ho h.row (by decide) hg' e.symm)
  have hB := h.hB
  have hbel : Below w.heap.size w W' := h.bel.grown hg h.bel.size (fun g e => (h.row.lt g e).1)
  refine ⟨hq, ⟨hbel.setCell (p := ⟨Bq, 1, none⟩) (by simp only; omega) _, Blk.far hp (by simp only; omega) _, Blk.far hr (by simp only; omega) _, ?_, hB, hkeep h.out, ?_, by rw [List.length_append, h.len]; rfl, fun j hj => ?_⟩⟩
  · have := Blk.set_ hq 1 (.slice Ap' (k + 1) cp')
    simp only [List.setIfInBounds_toArray, List.set_cons_zero, List.set_cons_succ] at this
    exact this
  · rw [List.take_succ_eq_append_getElem hk, rowPV_snoc _ _ (by rw [h.len, List.length_take]; omega), ← pcAt_lt hk]
    refine own_heap hown fun g hg' => Below.heap_setCell _ _ _ g (fun e => own_blk_ne hown hq (by decide) (by rw [hg', e]))
  · by_cases hjk : j < k
    · rw [hdAt_snoc_lt (by rw [h.len]; exact hjk)]
      exact hkeep (h.rings j hjk)
    · obtain rfl : j = hs.length := by rw [h.len]; omega
      rw [hdAt_snoc_eq, h.len]
      exact hkeep hnew
theorem EachF.own {w W : World} {Bq : Nat} {p : Plan} {A A' Ao Ap : Option Addr} {n c n' c' no co cp : Nat} {hs : List Hd} (h : EachF w W Bq p A n c A' n' c' n' Ao no co Ap cp hs) (hl : p.parcels.length = n') (hf : p.fits) : PlanOwn w.heap.size W Ao no co Ap n' cp p hs := by
  have hrow := h.row
  rw [List.take_of_length_le (by omega)] at hrow
  exact ⟨h.out, hrow, h.len, hl, h.rings, hf⟩
theorem eachStepA {w wr w3 : World} {Bq B3 : Nat} {p : Plan} {A A' Ao Ap A3 Ak : Option Addr} {n c n' c' k no co cp nk ck m c3 : Nat} {hs : List Hd} {x : Parc} {ys : List Pt} (h : EachF w wr Bq p A n c A' n' c' k Ao no co Ap cp hs)
    (hb : Below (wr.heap.size + 1) (wr.alloc (.cells #[.int .i64 x.id, .slice Ak nk ck, .string x.owner] 37)) w3) (hown : w3.ownsRow B3 35 2 (.slice A3 m c3) m (ptsV ys)) (hB : wr.heap.size + 1 ≤ B3) :
    Blk w3 wr.heap.size 37 #[.int .i64 x.id, .slice Ak nk ck, .string x.owner] ∧ EachF w (w3.setCell ⟨wr.heap.size, 1, none⟩ (.slice A3 m c3)) Bq p A n c A' n' c' k Ao no co Ap cp hs ∧ Blk (w3.setCell ⟨wr.heap.size, 1, none⟩ (.slice A3 m c3)) wr.heap.size 37 #[.int .i64 x.id, .slice A3 m c3, .string x.owner] ∧
    (w3.setCell ⟨wr.heap.size, 1, none⟩ (.slice A3 m c3)).ownsRow w.heap.size 35 2 (.slice A3 m c3) m (ptsV ys) := by
  have hx0 := Blk.new wr 37 #[.int .i64 x.id, .slice Ak nk ck, .string x.owner]
  have hx3 : Blk w3 wr.heap.size 37 #[.int .i64 x.id, .slice Ak nk ck, .string x.owner] := hx0.below hb (by omega)
  have hb1 : Below wr.heap.size wr w3 := ((Below.refl _ _).alloc (Nat.le_refl _) _).trans (hb.mono (by omega))
  have hb2 : Below wr.heap.size wr (w3.setCell ⟨wr.heap.size, 1, none⟩ (.slice A3 m c3)) := hb1.setCell (p := ⟨wr.heap.size, 1, none⟩) (Nat.le_refl _) _
  have hx4 := Blk.set_ hx3 1 (.slice A3 m c3)
  simp only [List.setIfInBounds_toArray, List.set_cons_zero, List.set_cons_succ] at hx4
  refine ⟨hx3, h.on hb2, hx4, own_heap (own_mono hown ?_) fun g hg' => Below.heap_setCell _ _ _ g (fun e => own_blk_ne hown hx3 (by decide) (by rw [hg', e]))⟩
  have := h.bel.size
  omega
set_option maxRecDepth 100000 in
set_option maxHeartbeats 3200000 in
theorem eachIns_any (gb : Nat) (g : List Pt → List Pt) (p : Plan) (A A' : Option Addr) (n c n' c' : Nat) (w : World) (h : PlanAt w w.heap.size A n c A' n' c' p) (hfit : (eachP g p).fits) (hgl : ∀ xs, ringOf p xs → (g xs).length ≤ 1048576) (hsm : n' ≤ 1048576)
    (hG : ∀ (V : World) (xs : List Pt) (A : Option Addr) (m cap : Nat), Below w.heap.size w V → Reads V V.heap.size 2 A m (ptsV xs) → m ≤ cap → cap ≤ 9223372036854775807 → ringOf p xs →
      Calls Tryz.prog 198 #[.slice A m cap, .pointer (some ⟨gb, 0, none⟩)] V fun e V' => ∃ A' c', e = .returned (.slice A' (g xs).length c') ∧ (Reads V' V'.heap.size 2 A' (g xs).length (ptsV (g xs)) ∧ (g xs).length ≤ c' ∧ c' ≤ 9223372036854775807) ∧ Below V.heap.size V V') :
    Calls Tryz.prog 172 #[planV A n c A' n' c', .func (.func 198) #[] #[.pointer (some ⟨gb, 0, none⟩)]] w (OwnPostS (eachP g p) w) := by
  obtain ⟨hl1, hl2, hl3, hl4⟩ := h.lens
  obtain ⟨i1, hi1, hy0, hy1, hy2⟩ := info_parts info_pc
  obtain ⟨wa, hwa⟩ : ∃ wa : World, wa = (w.alloc (.cells #[.slice A n c, .slice A' n' c'] 26)).alloc (.cells #[.slice none 0 0, .slice none 0 0] 26) := ⟨_, rfl⟩
  have hsa : wa.heap.size = w.heap.size + 1 + 1 := by rw [hwa]; simp
  have hB0 : Below w.heap.size w wa := by rw [hwa]; exact ((Below.refl _ _).alloc (Nat.le_refl _) _).alloc (by simp) _
  have hK0 : PlK wa w.heap.size A n c A' n' c' := by rw [hwa]; exact Blk.alloc (PlK.new w A n c A' n' c') _
  have hR0 : PlK wa (w.heap.size + 1) none 0 0 none 0 0 := by
    rw [hwa]
    have := PlK.new (w.alloc (.cells #[.slice A n c, .slice A' n' c'] 26)) none 0 0 none 0 0
    rw [World.size_alloc] at this
    exact this
  have KG := Lib.hid (hG wa p.outer A n c hB0 (h.on hB0).outer h.oc.1 h.oc.2 (.inl rfl))
  have H0 := Lib.hid (And.intro hB0 (And.intro hK0 (And.intro hR0 hsa)))
  have HP := Lib.hid h
  have HL := Lib.hid (And.intro hl2 (And.intro hfit (And.intro hgl hG)))
  obtain ⟨q1, q2, -⟩ := hK0.facts
  clear h hl1 hl2 hB0 hK0 hR0 hsa hfit hgl hG
  go_enter Tryz.func172, Tryz.ntmps172
  go_upto_region 1 with fail
  rw [← hwa]
  clear hwa
  go_wp2_with fail
  refine KG.out.mono ?_
  rintro e w1 ⟨A1, c1, rfl, ⟨hr1, hc1, hc1'⟩, hb1⟩
  have KL := Lib.hid (leastP_any (g p.outer) A1 _ c1 w1 hr1 hc1 (HL.out.2.2.1 _ (.inl rfl)))
  have HB1 := Lib.hid hb1
  obtain ⟨no, hno⟩ : ∃ no, no = (g p.outer).length := ⟨_, rfl⟩
  rw [← hno] at KL
  rw [← hno]
  have HNO := Lib.hid hno
  clear hno
  clear hr1 hc1 hc1' hb1 KG q1 q2
  go_wp2_with fail
  refine KL.out.mono ?_
  rintro e w2 ⟨Ao, co, rfl, ho2, hb2⟩
  have hb2' : Below wa.heap.size wa w2 := HB1.out.trans (hb2.mono HB1.out.size)
  have hF0 : EachF w (w2.alloc (.cells #[.slice Ao no co, .slice none 0 0] 26)) w2.heap.size (eachP g p) A n c A' n' c' 0 Ao no co none 0 [] := by
    have hba : Below w2.heap.size w2 (w2.alloc (.cells #[.slice Ao no co, .slice none 0 0] 26)) := (Below.refl _ _).alloc (Nat.le_refl _) _
    have h1 := H0.out.2.2.2
    have h2 := hb2'.size
    have h3 := HB1.out.size
    have hx : (eachP g p).outer = rot (leastN (g p.outer) no) (g p.outer) := by rw [each_outer]; unfold lst; rw [HNO.out]
    have hrow : (w2.alloc (.cells #[.slice Ao no co, .slice none 0 0] 26)).ownsRow w.heap.size 35 2 (.slice Ao no co) no (ptsV (eachP g p).outer) := by
      rw [hx]
      exact own_below (own_mono ho2 (by omega)) hba
    have e1 := below_on (below_on H0.out.1 (Nat.le_refl _) hb2') (Nat.le_refl _) hba
    have e2 := (H0.out.2.1.on hb2').on hba
    have e3 := (H0.out.2.2.1.on hb2').on hba
    have e4 : w.heap.size + 1 < w2.heap.size := by omega
    exact ⟨e1, e2, e3, PlK.new w2 Ao no co none 0 0, e4, hrow, World.ownsRow_nil _ _ _ _, rfl, fun j hj => absurd hj (Nat.not_lt_zero _)⟩
  obtain ⟨Bq, hBq⟩ : ∃ Bq, Bq = w2.heap.size := ⟨_, rfl⟩
  obtain ⟨wq, hwq⟩ : ∃ wq, wq = w2.alloc (.cells #[.slice Ao no co, .slice none 0 0] 26) := ⟨_, rfl⟩
  rw [← hBq, ← hwq] at hF0
  have HF0 := Lib.hid hF0
  obtain ⟨q1, q2, -⟩ := hF0.pbox.facts
  clear hF0 hb2' hb2 ho2 KL HB1 H0 HNO
  go_upto_region 2 with fail
  rw [← hBq, ← hwq]
  clear hBq hwq
  go_wp2_with fail
  clear q1 q2
  go_loopw [17] (fun i wr => ∃ (k : Nat) (Ap : Option Addr) (cp : Nat) (hs : List Hd), k ≤ n' ∧ i = .int .i64 (k : Int) ∧ EachF w wr Bq (eachP g p) A n c A' n' c' k Ao no co Ap cp hs) (fun i _ => n' - (intOf i).toNat)
  case atStart => exact ⟨0, none, 0, [], Nat.zero_le _, rfl, HF0.out⟩
  case round =>
    clear HF0
    obtain ⟨k, Ap, cp, hs, hk, rfl, hF⟩ := hrel
    by_cases hlt : k < n'
    · have hlt' : (k : Int) < (n' : Int) := by omega
      have hw1 : IntKind.i64.wrap ((k : Int) + 1) = (k : Int) + 1 := by rw [IntKind.wrap_i64]; omega
      obtain ⟨ad, rfl⟩ := HP.out.parcs.some_ (by omega)
      obtain ⟨had, p1, ⟨Ak, nk, ck, p2, hrk, hk1, hk2⟩, p3⟩ := (HP.out.parcs.below hF.bel).at_ hlt
      have hlk : k < p.parcels.length := by have := HL.out.1; omega
      obtain ⟨x, hx⟩ : ∃ x, x = pcAt p.parcels k := ⟨_, rfl⟩
      have hpx : pcAt (eachP g p).parcels k = eachX g x := by rw [pcAt_each hlk, hx]
      rw [← hx] at p1 p3 hrk
      have hxr : ringOf p x.ring := .inr ⟨x, by rw [hx, pcAt_lt hlk]; exact List.getElem_mem _, rfl⟩
      obtain ⟨wb, hwb⟩ : ∃ wb, wb = wr.alloc (.cells #[.int .i64 x.id, .slice Ak nk ck, .string x.owner] 37) := ⟨_, rfl⟩
      have hbb : Below wr.heap.size wr wb := by rw [hwb]; exact (Below.refl _ _).alloc (Nat.le_refl _) _
      have hsb : wb.heap.size = wr.heap.size + 1 := by rw [hwb]; simp
      have hX : PcK wb wr.heap.size x Ak nk ck := by rw [hwb]; exact PcK.new wr x Ak nk ck
      have KG := Lib.hid (HL.out.2.2.2 wb x.ring Ak nk ck (below_on hF.bel (Nat.le_refl _) hbb) ((hrk.more hF.bel.size).on hbb) hk1 hk2 hxr)
      have hgm := HL.out.2.2.1 _ hxr
      have HF := Lib.hid (And.intro hF (And.intro hpx hwb))
      have HG := Lib.hid (And.intro hgm hsb)
      obtain ⟨-, x1, -, -⟩ := hX.facts
      clear hF hpx hrk hlk hxr hbb hX hgm hsb hx hk1 hk2
      go_upto_region 5 with fail
      rw [← hwb]
      clear hwb p1 p2 p3 had
      obtain ⟨Bx, hBx⟩ : ∃ Bx, Bx = wr.heap.size := ⟨_, rfl⟩
      rw [← hBx] at x1
      rw [← hBx]
      have HBx := Lib.hid hBx
      clear hBx
      go_wp2_with fail
      refine KG.out.mono ?_
      rintro e w2 ⟨A2, c2, rfl, ⟨hr2, hc2, hc2'⟩, hb2⟩
      have KL := Lib.hid (leastP_any (g x.ring) A2 _ c2 w2 hr2 hc2 HG.out.1)
      have HB2 := Lib.hid hb2
      obtain ⟨m, hm⟩ : ∃ m, m = (g x.ring).length := ⟨_, rfl⟩
      rw [← hm] at KL
      rw [← hm]
      have HM := Lib.hid hm
      clear hr2 hc2 hc2' hb2 KG x1 hm
      go_wp2_with fail
      refine KL.out.mono ?_
      rintro e w3 ⟨A3, c3, rfl, ho3, hb3⟩
      have hbw : Below (wr.heap.size + 1) (wr.alloc (.cells #[.int .i64 x.id, .slice Ak nk ck, .string x.owner] 37)) w3 := by
        rw [← HF.out.2.2, ← HG.out.2]
        exact HB2.out.trans (hb3.mono HB2.out.size)
      have hrr : eachX g x = ⟨x.id, rot (leastN (g x.ring) m) (g x.ring), x.owner⟩ := by unfold eachX lst; rw [HM.out]
      obtain ⟨z0, hF3, hx3, hr3⟩ := eachStepA HF.out.1 hbw ho3 (by have := HB2.out.size; have := HG.out.2; omega)
      rw [← HBx.out] at z0 hF3 hx3 hr3
      have z1 : w3.cell? ⟨Bx, 1, none⟩ = some (.slice Ak nk ck) := by rw [Blk.cell z0]; rfl
      have z2 := Blk.frozen z0 1
      obtain ⟨V3, hV3⟩ : ∃ V, V = w3.setCell ⟨Bx, 1, none⟩ (.slice A3 m c3) := ⟨_, rfl⟩
      rw [← hV3] at hF3 hx3 hr3
      have hV4 := hV3.symm
      have y1 : V3.cell? ⟨Bq, 1, none⟩ = some (.slice Ap k cp) := hF3.qbox.facts.2.1
      have y2 : V3.cell? ⟨Bx, 0, none⟩ = some (.int .i64 x.id) := by rw [Blk.cell hx3]; rfl
      have y3 : V3.cell? ⟨Bx, 1, none⟩ = some (.slice A3 m c3) := by rw [Blk.cell hx3]; rfl
      have y4 : V3.cell? ⟨Bx, 2, none⟩ = some (.string x.owner) := by rw [Blk.cell hx3]; rfl
      have HF3 := Lib.hid (And.intro hF3 (And.intro hr3 (And.intro HF.out.2.1 hrr)))
      clear hF3 hr3 hx3 z0 hV3 hrr hbw hb3 ho3 KL HB2
      go_wp2_with (at_builtin
                   refine wpList_append_any _ rfl (.tmp 28) (.tmp 30) _ rfl w.heap.size 37 i1 _ 3 48 Tryz.underlying24 hi1 hy0 hy1 hy2 rfl (by omega) (.slice Ap k cp) k _ rfl (HF3.out.1.on (W' := V3.alloc (.cells #[.int .i64 x.id, .slice A3 m c3, .string x.owner] 37)) ((Below.refl _ _).alloc (Nat.le_refl _) _)).row _ (some ⟨V3.heap.size, 0, none⟩) 1 1 (pcV x (A3, m, c3)) rfl (Reads.made V3 #[.int .i64 x.id, .slice A3 m c3, .string x.owner] 37 (0, 0) 3 1 (pcV x (A3, m, c3)) rfl rfl) (by intro u hu; simp [pcV] at hu; rcases hu with rfl | rfl | rfl <;> rfl) (by simp only [maxLen]; omega) (by omega) (by have := HF3.out.1.bel.size; rw [World.size_alloc]; omega) ?_
                   intro v5 w5 hown5 hg5 hat5
                   obtain ⟨Ap', cp', rfl⟩ := own_form hown5
                   have hr3 := HF3.out.2.1
                   have hpx := HF3.out.2.2.1.trans HF3.out.2.2.2
                   have hpv : pcV x (A3, m, c3) = pcV (pcAt (eachP g p).parcels k) (A3, m, c3) := (by rw [hpx]; rfl)
                   have hri : rot (leastN (g x.ring) m) (g x.ring) = (pcAt (eachP g p).parcels k).ring := (by rw [hpx])
                   rw [hpv] at hown5
                   rw [hri] at hr3
                   have hba : Below V3.heap.size V3 (V3.alloc (.cells #[.int .i64 x.id, .slice A3 m c3, .string x.owner] 37)) := (Below.refl _ _).alloc (Nat.le_refl _) _
                   obtain ⟨zq, hF5⟩ := EachF.next (HF3.out.1.on hba) (by rw [each_len]; have := HL.out.1; omega) (own_below hr3 hba) hown5 hg5
                   have y5 : w5.cell? ⟨Bq, 1, none⟩ = some (.slice Ap k cp) := zq.facts.2.1
                   have y6 := Blk.frozen zq 1
                   have HF5 := Lib.hid hF5
                   clear hr3 hba zq hF5 hown5 hg5 hat5 hpx hpv hri)
      go_roundw
      case rel => exact ⟨k + 1, Ap', cp', hs ++ [(A3, m, c3)], by omega, by go_num, HF5.out⟩
      case measure => simp [intOf]; omega
    · have hkn : k = n' := by omega
      subst hkn
      obtain ⟨y1, y2, -⟩ := hF.qbox.facts
      obtain ⟨y3, y4, -⟩ := hF.rbox.facts
      have f1 := Blk.frozen hF.rbox 0
      have f2 := Blk.frozen hF.rbox 1
      have hpo := ((hF.own (by rw [each_len]; exact HL.out.1) HL.out.2.1).store hF.rbox (by decide) (by decide) 0 (.slice Ao no co)).store (Blk.set_ hF.rbox 0 (.slice Ao no co)) (by decide) (by decide) 1 (.slice Ap k cp)
      have hB5 := (hF.bel.setCell (p := ⟨w.heap.size + 1, 0, none⟩) (by simp) (.slice Ao no co)).setCell (p := ⟨w.heap.size + 1, 1, none⟩) (by simp) (.slice Ap k cp)
      have hR5 := Blk.set_ (Blk.set_ hF.rbox 0 (.slice Ao no co)) 1 (.slice Ap k cp)
      have HZ := Lib.hid (And.intro hpo (And.intro hB5 hR5))
      clear hpo hB5 hR5 hF
      go_wp2_with fail
      obtain ⟨hpo, hB5, hR5⟩ := HZ.out
      clear y1 y2 y3 y4 f1 f2 HZ
      generalize (wr.setCell ⟨w.heap.size + 1, 0, none⟩ (.slice Ao no co)).setCell ⟨w.heap.size + 1, 1, none⟩ (.slice Ap k cp) = V at *
      have r1 : V.cell? ⟨w.heap.size + 1, 0, none⟩ = some (.slice Ao no co) := by rw [Blk.cell hR5]; rfl
      have r2 : V.cell? ⟨w.heap.size + 1, 1, none⟩ = some (.slice Ap k cp) := by rw [Blk.cell hR5]; rfl
      refine bodyPost_ret (v := planV Ao no co Ap k cp) ?_ rfl ⟨Ao, no, co, Ap, k, cp, hs, rfl, hpo, hB5⟩
      simp [results, Tryz.results172, go_sem, r1, r2]
end Go.Proofs.YtnpjggcgnbgkjaaGreat
