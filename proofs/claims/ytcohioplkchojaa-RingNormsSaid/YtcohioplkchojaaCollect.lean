/- slices.Values at points: its iterator, for whoever ranges over it. -/
/- slices.AppendSeq, slices.Collect of slices.Values at points: the walks. -/
import Derived.Test.YtcohioplkchojaaEdges2
import Derived.Sort.CutIn
import Derived.Test.YtcohioplkchojaaArea
import Derived.RangeFuncBox
namespace Go.Proofs.Ytcohioplkchojaa
open Go.RowKit Go.Shelf
attribute [local go_sem] Go.Oper.semAt_some
def valAt (xs : List Pt) (k : Nat) : Array Value := #[.agg #[.int .i64 (ptAt xs k).x, .int .i64 (ptAt xs k).y]]
set_option maxRecDepth 100000 in
set_option maxHeartbeats 3200000 in
theorem values1_in (n : Nat) (hn : 1 ≤ n) (l B Bs cap : Nat) (A : Option Addr) (len : Nat) (xs : List Pt) (hlen : len ≤ 4611686018427387904) (J Jx : List Nat → World → Prop)
    (W : World) (hJ : AbidesFrom W.heap.size J)
    (hY : ∀ x W1, x < len → J (List.range x) W1 → YieldAt Fence.wide (n - 1) Try.prog l (valAt xs x) W1 fun e W' =>
      (e = .returned (.bool true) ∧ J (List.range x ++ [x]) W' ∧ KeepE B Bs W1 W') ∨ (e = .returned (.bool false) ∧ Jx (List.range x ++ [x]) W'))
    (hBs : W.cell? ⟨Bs, 0, none⟩ = some (.slice A len cap)) (hr : Reads W B 2 A len (ptsV xs)) (hBW : B ≤ W.heap.size) (h0 : J [] W) :
    CallsIn Fence.wide n Try.prog 96 #[.func (.yield l) #[] #[], .pointer (some ⟨Bs, 0, none⟩)] W fun e W' => (∃ v, e = .returned v) ∧
      ((∃ ys, ys = List.range len ∧ J ys W') ∨ (∃ pre, (∃ k, k ≤ len ∧ pre = List.range k) ∧ Jx pre W')) := by
  refine callsIn_of_wp Try.func96 rfl trivial ?_ rfl
  simp only [Try.ntmps96, List.size_toArray, List.length_cons, List.length_nil, Nat.reduceAdd, Nat.reduceSub, Array.replicate_succ, Array.replicate_zero, List.push_toArray, List.append_toArray, List.nil_append, List.cons_append]
  gi_wp2
  gi_loopw [7] (fun i wr => ∃ k : Nat, k ≤ len ∧ i = .int .i64 k ∧ J (List.range k) wr ∧ KeepE B Bs W wr) (fun i _ => len - (intOf i).toNat)
  case atStart => exact ⟨0, Nat.zero_le _, rfl, h0, KeepE.refl _ _ _⟩
  case round =>
    obtain ⟨k, hk, rfl, hJs, hkp⟩ := hrel
    have hsz := hkp.1
    by_cases hlt : k < len
    · have hbs : Bs < W.heap.size := cell_lt' hBs
      obtain ⟨ad, rfl, hbd, hkl, hcx, hcy⟩ := (hkp.reads hr).pt hlt
      obtain ⟨p, hp⟩ : ∃ p, p = ptAt xs k := ⟨_, rfl⟩
      have hpk : xs[k] = p := by rw [hp, ptAt_lt hkl]
      have hed : valAt xs k = #[.agg #[.int .i64 p.x, .int .i64 p.y]] := by unfold valAt; rw [← hp]
      rw [hpk] at hcx hcy
      have hlt' : (k : Int) < (len : Int) := by omega
      have hw1 : IntKind.i64.wrap ((k : Int) + 1) = (k : Int) + 1 := IntWalk.i64_in _ (by omega)
      have HE := Lib.hid hed
      clear hp hpk hed
      gi_upto_region 3 with fail
      refine wpIn_named fun W2 hW2 => ?_
      have hk2 : KeepE B Bs W W2 := by rw [hW2]; exact hkp.trans (KeepE.alloc (by omega) (by omega) _)
      have hJ2 : J (List.range k) W2 := by
        rw [hW2]
        exact hJ _ _ _ none hJs (World.grownBy_alloc wr _ none) (fun r e => by cases e)
      have hpx : W2.cell? ⟨wr.heap.size, 0, none⟩ = some (.int .i64 p.x) := by rw [hW2]; simp
      have hpy : W2.cell? ⟨wr.heap.size, 1, none⟩ = some (.int .i64 p.y) := by rw [hW2]; simp
      have hY2 := hY k W2 hlt hJ2
      rw [HE.out] at hY2
      obtain ⟨fn, tmps, assign, body, hy, hR⟩ := hY2
      clear hW2 hJ2 hkp hJs hcx hcy
      gi_wp2_with fail
      refine hR.mono ?_
      rintro e W3 (⟨rfl, hJ3, hk3⟩ | ⟨rfl, hJx3⟩)
      · gi_wp2
        go_roundw
        case rel => exact ⟨k + 1, by omega, by simp, by rw [List.range_succ]; exact hJ3, hk2.trans hk3⟩
        case measure => simp [intOf]; omega
      · gi_wp2
        refine bodyPost_ret (results_none rfl _ _ _) rfl ?_
        exact ⟨⟨_, rfl⟩, .inr ⟨_, ⟨k + 1, by omega, List.range_succ.symm⟩, hJx3⟩⟩
    · obtain rfl : k = len := by omega
      gi_wp2
      go_end0
      exact ⟨⟨_, rfl⟩, .inl ⟨_, rfl, hJs⟩⟩
theorem values_any (A : Option Addr) (len cap : Nat) (w : World) :
    Calls Try.prog 84 #[.slice A len cap] w fun e w' => e = .returned (.func (.func 96) #[] #[.pointer (some ⟨w.heap.size, 0, none⟩)]) ∧ w' = w.alloc (.cells #[.slice A len cap] 23) := by
  go_enter Try.func84, Try.ntmps84
  go_wp2
  go_ret
  exact ⟨rfl, rfl⟩
theorem values_stops (n : Nat) (hn : 1 ≤ n) (B Bs cap len : Nat) (A : Option Addr) (xs : List Pt) (hlen : len ≤ 4611686018427387904) (w : World) (hs : Bs < w.heap.size) (hB : B ≤ w.heap.size) (hc : w.cell? ⟨Bs, 0, none⟩ = some (.slice A len cap)) (hr : Reads w B 2 A len (ptsV xs)) :
    SeqStopsK Fence.wide n Try.prog 96 #[.pointer (some ⟨Bs, 0, none⟩)] (valAt xs) (KeepE B Bs) (fun ys => ys = List.range len) (fun pre => ∃ k, k ≤ len ∧ pre = List.range k) len w := fun l J Jx W hW hJ _ hY h0 =>
  values1_in n hn l B Bs cap A len xs hlen J Jx W hJ (fun x W1 hx hj => hY _ x W1 hj (by simpa using hx)) ((hW.cell (p := ⟨Bs, 0, none⟩) hs).trans hc) (hr.below (hW.mono hB)) (Nat.le_trans hB hW.size) h0
end Go.Proofs.Ytcohioplkchojaa
namespace Go.Proofs.Ytcohioplkchojaa
open Go.RowKit Go.Shelf
attribute [local go_sem] Go.Oper.semAt_some
theorem info_pt : (Try.prog.info? 35).map (fun i => (i.zero, i.size, i.bytes)) = some (some (.agg #[.int .i64 0, .int .i64 0]), 2, 16) := by kernel_rfl
theorem range_ptAt (xs : List Pt) : (List.range xs.length).map (ptAt xs) = xs := by
  refine List.ext_getElem (by simp) fun i h1 h2 => ?_
  rw [List.getElem_map, List.getElem_range, ptAt_lt h2]
set_option maxRecDepth 100000 in
set_option maxHeartbeats 1600000 in
theorem appendSeq_any (xs : List Pt) (A : Option Addr) (n cap B Bs : Nat) (w : World) (hn : n ≤ 128) (hB : B ≤ w.heap.size) (hs : Bs < w.heap.size) (hc : w.cell? ⟨Bs, 0, none⟩ = some (.slice A n cap)) (hr : Reads w B 2 A n (ptsV xs)) :
    Calls Try.prog 103 #[.slice none 0 0, .func (.func 96) #[] #[.pointer (some ⟨Bs, 0, none⟩)]] w fun e w' => ∃ v, e = .returned v ∧ w'.ownsRow w.heap.size 35 2 v n (ptsV xs) ∧ Below w.heap.size w w' := by
  have HL := Lib.hid (hr.lenPt)
  refine (callsIn_wide (n := 3)).1 ?_
  refine callsIn_of_wp_marks Try.func103 rfl trivial ?_ rfl
  simp only [Try.ntmps103, List.size_toArray, List.length_cons, List.length_nil, Nat.reduceAdd, Nat.reduceSub, Array.replicate_succ, Array.replicate_zero, List.push_toArray, List.append_toArray, List.nil_append, List.cons_append]
  gi_wp2_with fail
  have bL := Boxed.new w 22 (.slice none 0 0)
  have hB0 := (Below.refl w.heap.size w).alloc (Nat.le_refl _) (.cells #[.slice none 0 0] 22)
  have hr0 := hr.below (hB0.mono hB)
  have hc0 := (hB0.cell (p := ⟨Bs, 0, none⟩) hs).trans hc
  have hz0 : (w.alloc (.cells #[.slice none 0 0] 22)).heap.size = w.heap.size + 1 := by simp
  generalize w.alloc (.cells #[.slice none 0 0] 22) = w0 at *
  refine wpIn_rangeFunc_ownH rfl (by omega) (gf := 96) (lb := #[.pointer (some ⟨Bs, 0, none⟩)]) rfl trivial (enters_of Try.func96 (by kernel_rfl) rfl)
    (values_stops 2 (by omega) B Bs cap n A xs (by omega) w0 (by omega) (by omega) hc0 hr0) (fun h k => h.trans k)
    (fun W l o o' hl h _ _ => ⟨by simp, fun i hi => World.putObj_heap_other (by omega)⟩) (Below.refl _ _) (fun _ => rfl)
    (fun pre W => (∃ v, Boxed W w.heap.size 22 v ∧ W.ownsRow w.heap.size 35 2 v pre.length (ptsV (pre.map (ptAt xs))) ∧ True) ∧ Below w.heap.size w W)
    (fun _ _ _ => False)
    (OwnFrom.and (Own.from (holdsRow_own w.heap.size w.heap.size _ _ 2 (fun pre : List Nat => pre.length) (fun pre => ptsV (pre.map (ptAt xs))) (fun _ _ => True)) _) (ownFrom_below (Nat.le_refl _) (by omega)))
    (fun _ _ _ _ _ hs _ _ => hs)
    ⟨⟨_, bL, World.ownsRow_nil _ _ _ _, trivial⟩, hB0⟩
    (fun x a' W => ∃ Bx, Blk W Bx 35 #[.int .i64 (ptAt xs x).x, .int .i64 (ptAt xs x).y] ∧
      a' = { tmps := #[.slice none 0 0, .func (.func 96) #[] #[.pointer (some ⟨Bs, 0, none⟩)], .pointer (some ⟨w.heap.size, 0, none⟩), undef, .slice none 0 0, .pointer (some ⟨Bx, 0, none⟩), .func (.func 96) #[] #[.pointer (some ⟨Bs, 0, none⟩)], .agg #[.int .i64 (ptAt xs x).x, .int .i64 (ptAt xs x).y], undef, undef, undef, undef, undef], defers := [] })
    (fun x a' => fun s X Y row ⟨Bx, hs, e⟩ hg hrow => ⟨Bx, blk_own Bx _ (fun _ : Unit => _) () X Y row hs hg (fun r hr => (hrow r hr).2), e⟩) ?assign ?body ?done ?stop
  case assign =>
    rintro l pre x W K ⟨⟨v, bv, hown, _⟩, hB'⟩ hK
    unfold valAt
    gi_wp2
    have hsz := hB'.size
    have hlt := bv.lt
    refine hK _ _ ((KeepsOthers.alloc _ _).from _) (KeepE.alloc (by omega) (by omega) _) ⟨⟨v, bv.alloc _, hown.alloc _, trivial⟩, hB'.alloc hB'.size _⟩ ⟨W.heap.size, Blk.new W _ _, rfl⟩
  case body =>
    rintro l pre x a' W hl ⟨r, hrr⟩ ⟨⟨v, bv, hown, _⟩, hB'⟩ ⟨Bx, hBx, rfl⟩ hlen
    obtain ⟨i0, hi0, hz0', hz1', hz2'⟩ := info_parts info_pt
    obtain ⟨p, hp⟩ : ∃ p, p = ptAt xs x := ⟨_, rfl⟩
    rw [← hp] at hBx
    rw [← hp]
    have HPX := Lib.hid hp
    have x1 : W.cell? ⟨Bx, 0, none⟩ = some (.int .i64 p.x) := by rw [Blk.cell hBx 0]; rfl
    have x2 : W.cell? ⟨Bx, 1, none⟩ = some (.int .i64 p.y) := by rw [Blk.cell hBx 1]; rfl
    have hsz := hB'.size
    have hbc := bv.cell
    have hlen' : pre.length < 128 := by omega
    clear hp hrr hBx
    gi_wp2_with (first
      | (gi_at_builtin; refine wpListIn_append_own _ rfl _ _ 22 rfl w.heap.size 35 i0 _ 2 16 Try.underlying22 hi0 hz0' hz1' hz2' rfl (by decide) v pre.length _ rfl (hown.alloc _) ⟨W.heap.size, 0, none⟩ 1 1 [.int .i64 p.x, .int .i64 p.y] rfl rfl (two_cells _ _ _ _ _ rfl) (by simp [Value.oneCell']) (by simp only [maxLen]; omega) (by omega) (by simp; omega) ?_
         intro v' w3 hown' hgrow _
         obtain ⟨g', cap', rfl⟩ := ownsRow_succ hown'
         obtain ⟨hv1, hv2, hr3, hk3, hb3⟩ := Boxed.appended bv (by decide) hown (by omega) (Nat.le_refl _) hown' hgrow
         have hc1 := hv1.cell
         have hf1 := hv1.frozen))
    refine ⟨hk3.from _, ⟨hk3.size, fun i hi => hb3.block i (by omega)⟩, ⟨_, hv2, ?_, trivial⟩, hB'.trans (hb3.mono (Nat.le_refl _))⟩
    rw [List.length_append, List.map_append, List.map_singleton, ptsV_append, ← HPX.out]
    exact hr3
  case done =>
    rintro D ys W hD rfl ⟨⟨v, bv, hown, _⟩, hB'⟩ hK
    rw [List.length_range, ← HL.out, range_ptAt] at hown
    obtain ⟨A', c', rfl⟩ := own_form hown
    have hc1 := bv.cell
    have hOW := Lib.hid hown
    clear hown
    gi_wp2_with fail
    refine ⟨by simp, .inl ⟨_, _, rfl, run_takeDeferred hK, ?_⟩⟩
    refine ⟨.slice A' xs.length c', by simp [results, Try.results103, go_sem], ⟨_, rfl, ?_, hB'.trans (belowK_b (w := w) (Nat.le_refl _) W D _ _ (by omega) hK rfl rfl)⟩⟩
    rw [← HL.out]
    exact ownsRow_putObj hOW.out _ hK rfl
  case stop =>
    rintro D c pre W _ _ h _
    exact h.elim
end Go.Proofs.Ytcohioplkchojaa
