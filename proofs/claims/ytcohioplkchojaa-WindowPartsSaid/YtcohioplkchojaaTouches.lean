/- window.Touches: the walk. -/
import Derived.Test.YtcohioplkchojaaSide
import Derived.Test.YtcohioplkchojaaCuts
namespace Go.Proofs.Ytcohioplkchojaa
open Go.RowKit Go.Shelf
attribute [local go_sem] Go.Oper.semAt_some
def cutN (v : Win) (xs : List Pt) (k : Nat) : Bool := cutsR v (ptAt xs k) (ptAt xs ((k + 1) % xs.length))
def MeetsP (v : Win) (xs : List Pt) : Prop := (∃ k, k < xs.length ∧ cutN v xs k = true) ∨ 0 ≤ sideI xs v.low
open Classical in
noncomputable def meetsB (v : Win) (xs : List Pt) : Bool := decide (MeetsP v xs)
open Classical in
theorem meetsB_true {v : Win} {xs : List Pt} (h : MeetsP v xs) : meetsB v xs = true := by unfold meetsB; exact decide_eq_true h
open Classical in
theorem meetsB_false {v : Win} {xs : List Pt} (h : ¬ MeetsP v xs) : meetsB v xs = false := by unfold meetsB; exact decide_eq_false h
open Classical in
theorem meetsB_iff {v : Win} {xs : List Pt} : meetsB v xs = true ↔ MeetsP v xs := by unfold meetsB; exact decide_eq_true_iff
theorem meetsB_none {v : Win} {xs : List Pt} (h : ∀ k, k < xs.length → cutN v xs k = false) : meetsB v xs = decide (0 ≤ sideI xs v.low) := by
  by_cases hs : 0 ≤ sideI xs v.low
  · rw [meetsB_true (.inr hs), decide_eq_true hs]
  · rw [decide_eq_false hs]
    refine meetsB_false ?_
    rintro (⟨k, hk, hc⟩ | h1)
    · rw [h k hk] at hc; cases hc
    · exact hs h1
theorem within_any (xs : List Pt) (p : Pt) (A : Option Addr) (n cap : Nat) (w : World) (hr : Reads w w.heap.size 2 A n (ptsV xs)) (hn : n ≤ 128) (hg : goodL xs = true) (hp : good p = true) :
    Calls Try.prog 89 #[.slice A n cap, .agg #[.int .i64 p.x, .int .i64 p.y]] w fun e w' => e = .returned (.int .i64 (sideI xs p)) ∧ Below w.heap.size w w' := by
  have hb0 := (Below.refl w.heap.size w).alloc (Nat.le_refl _) (.cells #[.int .i64 p.x, .int .i64 p.y] 35)
  have hk : Calls Try.prog 59 #[.slice A n cap, .agg #[.int .i64 p.x, .int .i64 p.y]] (w.alloc (.cells #[.int .i64 p.x, .int .i64 p.y] 35)) fun e w' => e = .returned (.int .i64 (sideI xs p)) ∧ Below (w.alloc (.cells #[.int .i64 p.x, .int .i64 p.y] 35)).heap.size (w.alloc (.cells #[.int .i64 p.x, .int .i64 p.y] 35)) w' := side_any xs p A n cap _ ((hr.below hb0).more hb0.size) hn hg hp
  generalize sideI xs p = z at *
  have HK := Lib.hid (And.intro hk hb0)
  clear hk hb0 hr hg hp
  go_enter Try.func89, Try.ntmps89
  go_wp2_with fail
  with_reducible refine HK.out.1.mono ?_
  rintro e w1 ⟨rfl, hb1⟩
  have hB1 := below_on HK.out.2 (Nat.le_refl _) hb1
  clear hb1 HK
  go_wp2_with fail
  go_ret
  exact ⟨rfl, hB1⟩
set_option maxRecDepth 100000 in
set_option maxHeartbeats 1600000 in
theorem touches_any (v : Win) (xs : List Pt) (A : Option Addr) (n cap : Nat) (w : World) (hr : Reads w w.heap.size 2 A n (ptsV xs)) (hn : n ≤ 128) (hg : goodL xs = true) (hv : winE v = 0) :
    Calls Try.prog 69 #[winV v, .slice A n cap] w fun e w' => e = .returned (.bool (meetsB v xs)) ∧ Below w.heap.size w w' := by
  have hlow : good v.low = true := (cor_good hv).1
  have HG := Lib.hid (And.intro hg (And.intro hv hlow))
  have HL := Lib.hid (hr.lenPt)
  clear hg hv hlow
  unfold winV
  refine (callsIn_wide (n := 3)).1 ?_
  refine callsIn_of_wp_marks Try.func69 rfl trivial ?_ rfl
  simp only [Try.ntmps69, List.size_toArray, List.length_cons, List.length_nil, Nat.reduceAdd, Nat.reduceSub, Array.replicate_succ, Array.replicate_zero, List.push_toArray, List.append_toArray, List.nil_append, List.cons_append]
  gi_wp2_with fail
  refine ⟨trivial, ?_⟩
  refine (callsIn_wide.2 (edges_any A n cap _)).mono ?_
  rintro e w3 ⟨rfl, rfl⟩
  gi_wp2_with fail
  have bP := ((Blk.new w 52 #[.int .i64 v.lx, .int .i64 v.ly, .int .i64 v.hx, .int .i64 v.hy]).alloc (.cells #[.bool false] 4)).alloc (.cells #[.slice A n cap] 23)
  have bR := (Boxed.new (w.alloc (.cells #[.int .i64 v.lx, .int .i64 v.ly, .int .i64 v.hx, .int .i64 v.hy] 52)) 4 (.bool false)).alloc (.cells #[.slice A n cap] 23)
  have bE := Boxed.new ((w.alloc (.cells #[.int .i64 v.lx, .int .i64 v.ly, .int .i64 v.hx, .int .i64 v.hy] 52)).alloc (.cells #[.bool false] 4)) 23 (.slice A n cap)
  simp only [World.size_alloc] at bR bE
  have hB0 := (((Below.refl w.heap.size w).alloc (Nat.le_refl _) (.cells #[.int .i64 v.lx, .int .i64 v.ly, .int .i64 v.hx, .int .i64 v.hy] 52)).alloc (by simp) (.cells #[.bool false] 4)).alloc (by simp; omega) (.cells #[.slice A n cap] 23)
  have hr0 := hr.below hB0
  have hz0 : (((w.alloc (.cells #[.int .i64 v.lx, .int .i64 v.ly, .int .i64 v.hx, .int .i64 v.hy] 52)).alloc (.cells #[.bool false] 4)).alloc (.cells #[.slice A n cap] 23)).heap.size = w.heap.size + 3 := by simp
  generalize ((w.alloc (.cells #[.int .i64 v.lx, .int .i64 v.ly, .int .i64 v.hx, .int .i64 v.hy] 52)).alloc (.cells #[.bool false] 4)).alloc (.cells #[.slice A n cap] 23) = w0 at *
  refine wpIn_rangeFunc_ownH rfl (by omega) (gf := 75) (lb := #[.pointer (some ⟨w.heap.size + 1 + 1, 0, none⟩)]) rfl trivial (enters_of Try.func75 (by kernel_rfl) rfl)
    (edges_stops 2 (by omega) w.heap.size (w.heap.size + 1 + 1) cap n A xs (by omega) w0 (by omega) (by omega) bE.cell hr0) (fun h k => h.trans k)
    (fun W l o o' hl h _ _ => ⟨by simp, fun i hi => World.putObj_heap_other (by omega)⟩) (Below.refl _ _) (fun _ => rfl)
    (fun pre W => (Blk W w.heap.size 52 #[.int .i64 v.lx, .int .i64 v.ly, .int .i64 v.hx, .int .i64 v.hy] ∧ Boxed W (w.heap.size + 1) 4 (.bool false) ∧ Boxed W (w.heap.size + 1 + 1) 23 (.slice A n cap) ∧ ∀ y ∈ pre, cutN v xs y = false) ∧ Below w.heap.size w W)
    (fun c pre W => (c = .ret ∧ (∃ y ∈ pre, cutN v xs y = true) ∧ Boxed W (w.heap.size + 1) 4 (.bool true)) ∧ Below w.heap.size w W)
    (OwnFrom.and (Own.from (fun s X Y row hs hg hrow => ⟨blk_own _ _ (fun _ : Unit => _) () X Y row hs.1 hg hrow, boxed_own _ _ (fun _ : Unit => _) () X Y row hs.2.1 hg hrow, boxed_own _ _ (fun _ : Unit => _) () X Y row hs.2.2.1 hg hrow, hs.2.2.2⟩) _) (ownFrom_below (Nat.le_refl _) (by omega)))
    (fun c => OwnFrom.and (Own.from (fun s X Y row hs hg hrow => ⟨hs.1, hs.2.1, boxed_own _ _ (fun _ : Unit => _) () X Y row hs.2.2 hg hrow⟩) _) (ownFrom_below (Nat.le_refl _) (by omega)))
    ⟨⟨bP, bR, bE, by simp⟩, hB0⟩
    (fun x a' W => ∃ Bx, Blk W Bx 81 #[.int .i64 (ptAt xs x).x, .int .i64 (ptAt xs x).y, .int .i64 (ptAt xs ((x + 1) % xs.length)).x, .int .i64 (ptAt xs ((x + 1) % xs.length)).y] ∧
      a' = { tmps := #[.agg #[.int .i64 v.lx, .int .i64 v.ly, .int .i64 v.hx, .int .i64 v.hy], .slice A n cap, .pointer (some ⟨w.heap.size, 0, none⟩), undef, .pointer (some ⟨w.heap.size + 1, 0, none⟩), undef, .pointer (some ⟨Bx, 0, none⟩), .slice A n cap, .func (.func 75) #[] #[.pointer (some ⟨w.heap.size + 1 + 1, 0, none⟩)], .int .i64 (x : Int), edgeV (ptAt xs x) (ptAt xs ((x + 1) % xs.length)), undef, undef, undef, undef, undef, undef, undef, undef, undef, undef, undef, undef], defers := [] })
    (fun x a' => fun s X Y row ⟨Bx, hs, e⟩ hg hrow => ⟨Bx, blk_own Bx _ (fun _ : Unit => _) () X Y row hs hg (fun r hr => (hrow r hr).2), e⟩) ?assign ?body ?done ?stop
  case assign =>
    rintro l pre x W K ⟨⟨bP', bR', bE', hne⟩, hB'⟩ hK
    unfold edgeAt edgeV
    gi_wp2
    have hsz := hB'.size
    have hlt := bE'.lt
    refine hK _ _ ((KeepsOthers.alloc _ _).from _) (KeepE.alloc (by omega) hlt _) ⟨⟨bP'.alloc _, bR'.alloc _, bE'.alloc _, hne⟩, hB'.alloc hB'.size _⟩ ⟨W.heap.size, Blk.new W _ _, rfl⟩
  case body =>
    rintro l pre x a' W hl ⟨r, hrr⟩ ⟨⟨bP', bR', bE', hne⟩, hB'⟩ ⟨Bx, hBx, rfl⟩ hlen
    have hcu : cutN v xs x = cutsR v (ptAt xs x) (ptAt xs ((x + 1) % xs.length)) := rfl
    have hpg := ptAt_good HG.out.1 x
    have hqg := ptAt_good HG.out.1 ((x + 1) % xs.length)
    obtain ⟨a, ha⟩ : ∃ a, a = ptAt xs x := ⟨_, rfl⟩
    obtain ⟨b, hb⟩ : ∃ b, b = ptAt xs ((x + 1) % xs.length) := ⟨_, rfl⟩
    rw [← ha, ← hb] at hBx hcu
    rw [← ha] at hpg
    rw [← hb] at hqg
    rw [← ha, ← hb]
    clear ha hb
    unfold edgeV
    have kC : ∀ V, Calls Try.prog 72 #[.agg #[.int .i64 v.lx, .int .i64 v.ly, .int .i64 v.hx, .int .i64 v.hy], .agg #[.int .i64 a.x, .int .i64 a.y], .agg #[.int .i64 b.x, .int .i64 b.y]] V fun e w' => e = .returned (.bool (cutN v xs x)) ∧ Below V.heap.size V w' := fun V => by
      rw [hcu, ← cutsP_eq HG.out.2.1 hpg hqg]
      exact fcuts_any v a b V HG.out.2.1 hpg hqg
    have HK := Lib.hid kC
    have hlt := bE'.lt
    have x1 : W.cell? ⟨Bx, 0, none⟩ = some (.int .i64 a.x) := by rw [Blk.cell hBx 0]; rfl
    have x2 : W.cell? ⟨Bx, 1, none⟩ = some (.int .i64 a.y) := by rw [Blk.cell hBx 1]; rfl
    have x3 : W.cell? ⟨Bx, 2, none⟩ = some (.int .i64 b.x) := by rw [Blk.cell hBx 2]; rfl
    have x4 : W.cell? ⟨Bx, 3, none⟩ = some (.int .i64 b.y) := by rw [Blk.cell hBx 3]; rfl
    have p1 : W.cell? ⟨w.heap.size, 0, none⟩ = some (.int .i64 v.lx) := by rw [Blk.cell bP' 0]; rfl
    have p2 : W.cell? ⟨w.heap.size, 1, none⟩ = some (.int .i64 v.ly) := by rw [Blk.cell bP' 1]; rfl
    have p3 : W.cell? ⟨w.heap.size, 2, none⟩ = some (.int .i64 v.hx) := by rw [Blk.cell bP' 2]; rfl
    have p4 : W.cell? ⟨w.heap.size, 3, none⟩ = some (.int .i64 v.hy) := by rw [Blk.cell bP' 3]; rfl
    clear kC hcu hpg hqg
    gi_wp2_with fail
    refine ⟨trivial, ?_⟩
    refine (CallsIn.inRound l (callsIn_wide.2 (HK.out W))).mono ?_
    rintro e W1 ⟨rfl, hb1⟩
    have bP1 := Blk.below bP' hb1 (Blk.lt bP')
    have bR1 : Boxed W1 (w.heap.size + 1) 4 (.bool false) := Blk.below bR' hb1 bR'.lt
    have bE1 : Boxed W1 (w.heap.size + 1 + 1) 23 (.slice A n cap) := Blk.below bE' hb1 bE'.lt
    have hB1 := below_on hB' (Nat.le_refl _) hb1
    have hE1 : KeepE w.heap.size (w.heap.size + 1 + 1) W W1 := KeepE.below hb1 (by omega) bE'.lt
    have Hk := Lib.hid (And.intro (keeps_below hb1) (And.intro hE1 (And.intro hB1 hne)))
    clear hE1 hb1 x1 x2 x3 x4 p1 p2 p3 p4 hBx bP' bR' bE' hB' hrr hB1 hne HK
    rcases hcu : cutN v xs x with _ | _
    · have HC := Lib.hid hcu
      clear hcu
      gi_wp2_with fail
      exact ⟨Hk.out.1.from _, Hk.out.2.1, ⟨bP1, bR1, bE1, fun y hy => (List.mem_append.1 hy).elim (Hk.out.2.2.2 y) (fun e => by simp at e; subst e; exact HC.out)⟩, Hk.out.2.2.1⟩
    · have HC := Lib.hid hcu
      have i1 := bR1.cell
      have i2 := bR1.frozen
      clear hcu bP1
      gi_wp2_with fail
      exact ⟨(Hk.out.1.trans (KeepsOthers.setCell _ _ _)).from _, ⟨rfl, ⟨x, by simp, HC.out⟩, bR1.set _⟩, Hk.out.2.2.1.setCell (p := ⟨w.heap.size + 1, 0, none⟩) (by simp) _⟩
  case done =>
    rintro D ys W hD rfl ⟨⟨bP', bR', bE', hne⟩, hB'⟩ hK
    have hs : meetsB v xs = decide (0 ≤ sideI xs v.low) := meetsB_none fun k hk => hne k (List.mem_range.2 (by rw [← HL.out]; exact hk))
    have hrd : Reads W W.heap.size 2 A n (ptsV xs) := (hr.below hB').more hB'.size
    have HK := Lib.hid (within_any xs v.low A n cap W hrd hn HG.out.1 HG.out.2.2)
    have p1 : W.cell? ⟨w.heap.size, 0, none⟩ = some (.int .i64 v.lx) := by rw [Blk.cell bP' 0]; rfl
    have p2 : W.cell? ⟨w.heap.size, 1, none⟩ = some (.int .i64 v.ly) := by rw [Blk.cell bP' 1]; rfl
    obtain ⟨z, hz⟩ : ∃ z, z = sideI xs v.low := ⟨_, rfl⟩
    rw [← hz] at hs HK
    unfold Win.low at HK
    have HS := Lib.hid hs
    clear hs hne hrd hz
    gi_wp2_with fail
    refine ⟨trivial, ?_⟩
    refine (callsIn_wide.2 HK.out).mono ?_
    rintro e w5 ⟨rfl, hb5⟩
    have hB5 := below_on hB' (Nat.le_refl _) hb5
    have bR5 : Boxed w5 (w.heap.size + 1) 4 (.bool false) := Blk.below bR' hb5 bR'.lt
    have hK5 : w5.heap[D]? = some (.deferred (some [])) := (hb5.block D (Array.getElem?_eq_some_iff.1 hK).1).trans hK
    have i1 := bR5.cell
    have i2 := bR5.frozen
    clear hb5 hK bP' bR' bE' hB' p1 p2 HK
    rcases hd : decide (0 ≤ z) with _ | _
    all_goals
      rw [hd] at HS
      gi_wp2_with fail
    · have hK' := (KeepsOthers.setCell w5 ⟨w.heap.size + 1, 0, none⟩ (.bool false)).same D _ hK5 rfl
      refine ⟨by simp, .inl ⟨_, _, rfl, run_takeDeferred hK', ?_⟩⟩
      have hc5 := cell_kept (bR5.set (.bool false)).cell (grownBy_putObj' _ D (.deferred none)) (fun r e => by cases e; exact ⟨_, hK', rfl⟩)
      refine ⟨.bool false, ?_, by rw [HS.out], (hB5.setCell (p := ⟨w.heap.size + 1, 0, none⟩) (by simp) _).trans (belowK_b (w := w) (Nat.le_refl _) _ D _ _ (by omega) hK' rfl rfl)⟩
      simp [results, Try.results69, go_sem, hc5]
    · have hK' := (KeepsOthers.setCell w5 ⟨w.heap.size + 1, 0, none⟩ (.bool true)).same D _ hK5 rfl
      refine ⟨by simp, .inl ⟨_, _, rfl, run_takeDeferred hK', ?_⟩⟩
      have hc5 := cell_kept (bR5.set (.bool true)).cell (grownBy_putObj' _ D (.deferred none)) (fun r e => by cases e; exact ⟨_, hK', rfl⟩)
      refine ⟨.bool true, ?_, by rw [HS.out], (hB5.setCell (p := ⟨w.heap.size + 1, 0, none⟩) (by simp) _).trans (belowK_b (w := w) (Nat.le_refl _) _ D _ _ (by omega) hK' rfl rfl)⟩
      simp [results, Try.results69, go_sem, hc5]
  case stop =>
    rintro D c pre W hD ⟨k, hk, rfl⟩ ⟨⟨rfl, ⟨y, hy, hcu⟩, bR'⟩, hB'⟩ hK
    have hs : meetsB v xs = true := meetsB_true (.inl ⟨y, by rw [List.mem_range] at hy; have := HL.out; omega, hcu⟩)
    have i3 := bR'.cell
    gi_wp2
    refine ⟨by simp, .inl ⟨_, _, rfl, run_takeDeferred hK, ?_⟩⟩
    have hc5 := cell_kept i3 (grownBy_putObj' _ D (.deferred none)) (fun r e => by cases e; exact ⟨_, hK, rfl⟩)
    refine ⟨.bool true, ?_, by rw [hs], hB'.trans (belowK_b (w := w) (Nat.le_refl _) W D _ _ (by omega) hK rfl rfl)⟩
    simp [results, Try.results69, go_sem, hc5]
end Go.Proofs.Ytcohioplkchojaa
