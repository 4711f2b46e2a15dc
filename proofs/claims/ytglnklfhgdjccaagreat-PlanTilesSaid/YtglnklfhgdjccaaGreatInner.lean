/- plan.inner: the walk. -/
import Derived.Test.YtglnklfhgdjccaaGreatTk
import Derived.Test.YtglnklfhgdjccaaGreatSide2
import Derived.Test.YtglnklfhgdjccaaGreatSimple
import Derived.Test.YtglnklfhgdjccaaGreatWideCmp
namespace Go.Proofs.YtglnklfhgdjccaaGreat
open Go.RowKit Go.Shelf
attribute [local go_sem] Go.Oper.semAt_some
/-- In parts. -/
def scP (m : Int) (a : Pt) : Pt := ⟨a.x * m, a.y * m⟩
def scL (m : Int) (xs : List Pt) : List Pt := xs.map (scP m)
theorem ptAt_sc (m : Int) (xs : List Pt) (k : Nat) : ptAt (scL m xs) k = scP m (ptAt xs k) := by
  unfold ptAt scL
  rw [List.getElem?_map]
  rcases xs[k]? with _ | a
  · simp [scP]
  · rfl
theorem sc_len (m : Int) (xs : List Pt) : (scL m xs).length = xs.length := by simp [scL]
theorem sgn_sub (l r : Int) : cmpI l r = sgn (l - r) := by unfold cmpI sgn; split <;> split <;> (try split) <;> (try split) <;> omega
theorem hldI6 {W V V' : World} {a0 a1 a2 a3 a4 a5 : Addr} {v0 v1 v2 v3 v4 v5 : Value} (hh : a0.block < W.heap.size ∧ a1.block < W.heap.size ∧ a2.block < W.heap.size ∧ a3.block < W.heap.size ∧ a4.block < W.heap.size ∧ a5.block < W.heap.size) (hs : V.cell? a0 = some v0 ∧ V.cell? a1 = some v1 ∧ V.cell? a2 = some v2 ∧ V.cell? a3 = some v3 ∧ V.cell? a4 = some v4 ∧ V.cell? a5 = some v5 ∧ Below W.heap.size W V) (hb : Below V.heap.size V V') :
    V'.cell? a0 = some v0 ∧ V'.cell? a1 = some v1 ∧ V'.cell? a2 = some v2 ∧ V'.cell? a3 = some v3 ∧ V'.cell? a4 = some v4 ∧ V'.cell? a5 = some v5 ∧ Below W.heap.size W V' := by
  obtain ⟨h0, h1, h2, h3, h4, h5⟩ := hh
  obtain ⟨c0, c1, c2, c3, c4, c5, cb⟩ := hs
  have := cb.size
  have k : ∀ {a : Addr} {v : Value}, a.block < W.heap.size → V.cell? a = some v → V'.cell? a = some v := fun {a v} ha hv => (hb.cell (p := a) (by omega)).trans hv
  exact ⟨k h0 c0, k h1 c1, k h2 c2, k h3 c3, k h4 c4, k h5 c5, below_on cb (Nat.le_refl _) hb⟩

theorem mul_bd {t m : Int} (h1 : -1073741824 ≤ t) (h2 : t ≤ 1073741824) (m1 : 1 ≤ m) (m2 : m ≤ 1024) : -1099511627776 ≤ t * m ∧ t * m ≤ 1099511627776 := by
  have := Int.mul_le_mul_of_nonneg_right h2 (by omega : 0 ≤ m)
  have := Int.mul_le_mul_of_nonneg_right h1 (by omega : 0 ≤ m)
  omega
theorem hldI5 {W V V' : World} {a0 a1 a2 a3 a4 : Addr} {v0 v1 v2 v3 v4 : Value} (hh : a0.block < W.heap.size ∧ a1.block < W.heap.size ∧ a2.block < W.heap.size ∧ a3.block < W.heap.size ∧ a4.block < W.heap.size) (hs : V.cell? a0 = some v0 ∧ V.cell? a1 = some v1 ∧ V.cell? a2 = some v2 ∧ V.cell? a3 = some v3 ∧ V.cell? a4 = some v4 ∧ Below W.heap.size W V) (hb : Below V.heap.size V V') :
    V'.cell? a0 = some v0 ∧ V'.cell? a1 = some v1 ∧ V'.cell? a2 = some v2 ∧ V'.cell? a3 = some v3 ∧ V'.cell? a4 = some v4 ∧ Below W.heap.size W V' := by
  obtain ⟨h0, h1, h2, h3, h4⟩ := hh
  obtain ⟨c0, c1, c2, c3, c4, cb⟩ := hs
  have := cb.size
  have k : ∀ {a : Addr} {v : Value}, a.block < W.heap.size → V.cell? a = some v → V'.cell? a = some v := fun {a v} ha hv => (hb.cell (p := a) (by omega)).trans hv
  exact ⟨k h0 c0, k h1 c1, k h2 c2, k h3 c3, k h4 c4, below_on cb (Nat.le_refl _) hb⟩
theorem add_two (b : Nat) : b + 1 + 1 = b + 2 ∧ b + 1 + 1 + 1 = b + 3 ∧ b + 1 + 1 + 1 + 1 = b + 4 := by omega
set_option maxRecDepth 100000 in
set_option maxHeartbeats 3200000 in
theorem inner_any (xs : List Pt) (p : Pt) (m : Int) (A : Option Addr) (n cap : Nat) (w : World) (hr : Reads w w.heap.size 2 A n (ptsV xs)) (hn : n ≤ 128) (hg : goodL xs = true) (hm1 : 1 ≤ m) (hm2 : m ≤ 1024) (hp : -(1073741824 * m) ≤ p.x ∧ p.x ≤ 1073741824 * m ∧ -(1073741824 * m) ≤ p.y ∧ p.y ≤ 1073741824 * m) :
    Calls Tryz.prog 87 #[.slice A n cap, ptV p, .int .i64 m] w fun e w' => e = .returned (.int .i64 (sideI (scL m xs) p)) ∧ Below w.heap.size w w' := by
  have HG := Lib.hid (And.intro hg (And.intro hm1 (And.intro hm2 hp)))
  obtain ⟨zs, hzs⟩ : ∃ zs, zs = scL m xs := ⟨_, rfl⟩
  rw [← hzs]
  have HZ := Lib.hid hzs
  clear hg hm1 hm2 hp hzs
  have hbp := PtK.new w p
  unfold ptV
  refine (callsIn_wide (n := 3)).1 ?_
  refine callsIn_of_wp_marks Tryz.func87 rfl trivial ?_ rfl
  simp only [Tryz.ntmps87, List.size_toArray, List.length_cons, List.length_nil, Nat.reduceAdd, Nat.reduceSub, Array.replicate_succ, Array.replicate_zero, List.push_toArray, List.append_toArray, List.nil_append, List.cons_append]
  gi_wp2_with fail
  refine ⟨trivial, ?_⟩
  refine (callsIn_wide.2 (edges_any A n cap _)).mono ?_
  rintro e w3 ⟨rfl, rfl⟩
  gi_wp2_with fail
  have bP := (((hbp.alloc (.cells #[.int .i64 m] 3)).alloc (.cells #[.int .i64 0] 3)).alloc (.cells #[.int .i64 (-1)] 3)).alloc (.cells #[.slice A n cap] 23)
  have bM := (((Boxed.new (w.alloc (.cells #[.int .i64 p.x, .int .i64 p.y] 43)) 3 (.int .i64 m)).alloc (.cells #[.int .i64 0] 3)).alloc (.cells #[.int .i64 (-1)] 3)).alloc (.cells #[.slice A n cap] 23)
  have bR := ((Boxed.new ((w.alloc (.cells #[.int .i64 p.x, .int .i64 p.y] 43)).alloc (.cells #[.int .i64 m] 3)) 3 (.int .i64 0)).alloc (.cells #[.int .i64 (-1)] 3)).alloc (.cells #[.slice A n cap] 23)
  have bI := (Boxed.new (((w.alloc (.cells #[.int .i64 p.x, .int .i64 p.y] 43)).alloc (.cells #[.int .i64 m] 3)).alloc (.cells #[.int .i64 0] 3)) 3 (.int .i64 (-1))).alloc (.cells #[.slice A n cap] 23)
  have bE := Boxed.new ((((w.alloc (.cells #[.int .i64 p.x, .int .i64 p.y] 43)).alloc (.cells #[.int .i64 m] 3)).alloc (.cells #[.int .i64 0] 3)).alloc (.cells #[.int .i64 (-1)] 3)) 23 (.slice A n cap)
  simp only [World.size_alloc] at bM bR bI bE
  have hB0 : Below w.heap.size w (((((w.alloc (.cells #[.int .i64 p.x, .int .i64 p.y] 43)).alloc (.cells #[.int .i64 m] 3)).alloc (.cells #[.int .i64 0] 3)).alloc (.cells #[.int .i64 (-1)] 3)).alloc (.cells #[.slice A n cap] 23)) := (((((Below.refl w.heap.size w).alloc (Nat.le_refl _) _).alloc (by simp) _).alloc (by simp; omega) _).alloc (by simp; omega) _).alloc (by simp; omega) _
  have hr0 := hr.below hB0
  have hz0 : (((((w.alloc (.cells #[.int .i64 p.x, .int .i64 p.y] 43)).alloc (.cells #[.int .i64 m] 3)).alloc (.cells #[.int .i64 0] 3)).alloc (.cells #[.int .i64 (-1)] 3)).alloc (.cells #[.slice A n cap] 23)).heap.size = w.heap.size + 5 := by simp
  generalize ((((w.alloc (.cells #[.int .i64 p.x, .int .i64 p.y] 43)).alloc (.cells #[.int .i64 m] 3)).alloc (.cells #[.int .i64 0] 3)).alloc (.cells #[.int .i64 (-1)] 3)).alloc (.cells #[.slice A n cap] 23) = w0 at *
  obtain ⟨ad2, ad3, ad4⟩ := add_two w.heap.size
  rw [ad2] at bR
  rw [ad3] at bI
  rw [ad4] at bE
  simp only [ad2, ad3, ad4]
  clear ad2 ad3 ad4
  refine wpIn_rangeFunc_ownH rfl (by omega) (gf := 128) (lb := #[.pointer (some ⟨w.heap.size + 4, 0, none⟩)]) rfl trivial (enters_of Tryz.func128 (by kernel_rfl) rfl)
    (edges_stops 2 (by omega) w.heap.size (w.heap.size + 4) cap n A xs (by omega) w0 (by omega) (by omega) bE.cell hr0) (fun h k => h.trans k)
    (fun W l o o' hl h _ _ => ⟨by simp, fun i hi => World.putObj_heap_other (by omega)⟩) (Below.refl _ _) (fun _ => rfl)
    (fun pre W => (PtK W w.heap.size p ∧ Boxed W (w.heap.size + 1) 3 (.int .i64 m) ∧ Boxed W (w.heap.size + 2) 3 (.int .i64 0) ∧ Boxed W (w.heap.size + 3) 3 (.int .i64 (if oddL zs p pre = true then 1 else -1)) ∧ Boxed W (w.heap.size + 4) 23 (.slice A n cap) ∧ ∀ y ∈ pre, onE zs p y = false) ∧ Below w.heap.size w W)
    (fun c pre W => (c = .ret ∧ (∃ y ∈ pre, onE zs p y = true) ∧ Boxed W (w.heap.size + 2) 3 (.int .i64 0)) ∧ Below w.heap.size w W)
    (OwnFrom.and (Own.from (fun s X Y row hs hg hrow => ⟨blk_own _ _ (fun _ : Unit => _) () X Y row hs.1 hg hrow, boxed_own _ _ (fun _ : Unit => _) () X Y row hs.2.1 hg hrow, boxed_own _ _ (fun _ : Unit => _) () X Y row hs.2.2.1 hg hrow, boxed_own _ _ (fun _ : Unit => _) () X Y row hs.2.2.2.1 hg hrow, boxed_own _ _ (fun _ : Unit => _) () X Y row hs.2.2.2.2.1 hg hrow, hs.2.2.2.2.2⟩) _) (ownFrom_below (Nat.le_refl _) (by omega)))
    (fun c => OwnFrom.and (Own.from (fun s X Y row hs hg hrow => ⟨hs.1, hs.2.1, boxed_own _ _ (fun _ : Unit => _) () X Y row hs.2.2 hg hrow⟩) _) (ownFrom_below (Nat.le_refl _) (by omega)))
    ⟨⟨bP, bM, bR, bI, bE, by simp⟩, hB0⟩
    (fun x a' W => ∃ Bx, Blk W Bx 45 #[.int .i64 (ptAt xs x).x, .int .i64 (ptAt xs x).y, .int .i64 (ptAt xs ((x + 1) % xs.length)).x, .int .i64 (ptAt xs ((x + 1) % xs.length)).y] ∧ a' = { tmps := #[.slice A n cap, .agg #[.int .i64 p.x, .int .i64 p.y], .int .i64 m, undef, .pointer (some ⟨w.heap.size, 0, none⟩), .pointer (some ⟨w.heap.size + 1, 0, none⟩), .pointer (some ⟨w.heap.size + 2, 0, none⟩), .pointer (some ⟨w.heap.size + 3, 0, none⟩), undef, .pointer (some ⟨Bx, 0, none⟩), undef, undef, undef, undef, .slice A n cap, .func (.func 128) #[] #[.pointer (some ⟨w.heap.size + 4, 0, none⟩)], .int .i64 (x : Int), edgeV (ptAt xs x) (ptAt xs ((x + 1) % xs.length)), undef, undef, undef, undef, undef, undef, undef, undef, undef, undef, undef, undef, undef, undef, undef, undef, undef, undef, undef, undef, undef, undef, undef, undef, undef, undef, undef, undef, undef, undef, undef, undef, undef, undef, undef, undef, undef, undef, undef, undef, undef, undef, undef, undef, undef, undef, undef, undef, undef, undef, undef, undef, undef, undef, undef, undef, undef, undef, undef, undef, undef, undef, undef, undef, undef, undef, undef, undef, undef, undef, undef, undef, undef, undef, undef, undef, undef, undef, undef, undef, undef, undef, undef, undef, undef, undef, undef, undef, undef, undef, undef, undef, undef, undef, undef, undef, undef, undef, undef, undef, undef, undef, undef, undef, undef, undef, undef, undef], defers := [] })
    (fun x a' => fun s X Y row ⟨Bx, hs, e⟩ hg hrow => ⟨Bx, blk_own Bx _ (fun _ : Unit => _) () X Y row hs hg (fun r hr => (hrow r hr).2), e⟩) ?assign ?body ?done ?stop
  case assign =>
    rintro l pre x W K ⟨⟨bP', bM', bR', bI', bE', hne⟩, hB'⟩ hK
    unfold edgeAt edgeV
    gi_wp2
    have hsz := hB'.size
    have hlt := bE'.lt
    refine hK _ _ ((KeepsOthers.alloc _ _).from _) (KeepE.alloc (by omega) hlt _) ⟨⟨bP'.alloc _, bM'.alloc _, bR'.alloc _, bI'.alloc _, bE'.alloc _, hne⟩, hB'.alloc hB'.size _⟩ ⟨W.heap.size, Blk.new W _ _, rfl⟩
  case body =>
    rintro l pre x a' W hl ⟨r, hrr⟩ ⟨⟨bP', bM', bR', bI', bE', hne⟩, hB'⟩ ⟨Bx, hBx, rfl⟩ hlen
    have hpg := ptAt_good HG.out.1 x
    have hqg := ptAt_good HG.out.1 ((x + 1) % xs.length)
    have hsn : oddL zs p (pre ++ [x]) = xor (oddL zs p pre) (crE zs p x) := oddL_snoc zs p pre x
    obtain ⟨a, ha⟩ : ∃ a, a = ptAt xs x := ⟨_, rfl⟩
    obtain ⟨b, hb⟩ : ∃ b, b = ptAt xs ((x + 1) % xs.length) := ⟨_, rfl⟩
    obtain ⟨P, hP⟩ : ∃ P, P = scP m a := ⟨_, rfl⟩
    obtain ⟨Q, hQ⟩ : ∃ Q, Q = scP m b := ⟨_, rfl⟩
    have hon : onE zs p x = onB P Q p := by unfold onE; rw [HZ.out, sc_len, ptAt_sc, ptAt_sc, ← ha, ← hb, ← hP, ← hQ]
    have hcr : crE zs p x = crB P Q p := by unfold crE; rw [HZ.out, sc_len, ptAt_sc, ptAt_sc, ← ha, ← hb, ← hP, ← hQ]
    rw [← ha, ← hb] at hBx
    rw [← ha] at hpg
    rw [← hb] at hqg
    rw [← ha, ← hb]
    clear ha hb
    rw [good_iff] at hpg hqg
    have px := mul_bd (t := a.x) (by omega) (by omega) HG.out.2.1 HG.out.2.2.1
    have py := mul_bd (t := a.y) (by omega) (by omega) HG.out.2.1 HG.out.2.2.1
    have qx := mul_bd (t := b.x) (by omega) (by omega) HG.out.2.1 HG.out.2.2.1
    have qy := mul_bd (t := b.y) (by omega) (by omega) HG.out.2.1 HG.out.2.2.1
    have e1 : a.x * m = P.x := by rw [hP]; rfl
    have e2 : a.y * m = P.y := by rw [hP]; rfl
    have e3 : b.x * m = Q.x := by rw [hQ]; rfl
    have e4 : b.y * m = Q.y := by rw [hQ]; rfl
    rw [e1] at px
    rw [e2] at py
    rw [e3] at qx
    rw [e4] at qy
    have w1 : IntKind.i64.wrap (a.x * m) = P.x := by rw [e1, IntKind.wrap_i64]; omega
    have w2 : IntKind.i64.wrap (a.y * m) = P.y := by rw [e2, IntKind.wrap_i64]; omega
    have w3 : IntKind.i64.wrap (b.x * m) = Q.x := by rw [e3, IntKind.wrap_i64]; omega
    have w4 : IntKind.i64.wrap (b.y * m) = Q.y := by rw [e4, IntKind.wrap_i64]; omega
    have HBD := Lib.hid (And.intro px (And.intro py (And.intro qx qy)))
    have HK := Lib.hid (And.intro hon (And.intro hcr hsn))
    clear hP hQ hon hcr hsn hpg hqg px py qx qy e1 e2 e3 e4
    unfold edgeV
    have hlt := bE'.lt
    have x1 : W.cell? ⟨Bx, 0, none⟩ = some (.int .i64 a.x) := by rw [Blk.cell hBx 0]; rfl
    have x2 : W.cell? ⟨Bx, 1, none⟩ = some (.int .i64 a.y) := by rw [Blk.cell hBx 1]; rfl
    have x3 : W.cell? ⟨Bx, 2, none⟩ = some (.int .i64 b.x) := by rw [Blk.cell hBx 2]; rfl
    have x4 : W.cell? ⟨Bx, 3, none⟩ = some (.int .i64 b.y) := by rw [Blk.cell hBx 3]; rfl
    have x5 := bM'.cell
    have hxl := Blk.lt hBx
    have hml := bM'.lt
    have hP0 : W.drew.cell? ⟨Bx, 0, none⟩ = some (.int .i64 a.x) ∧ W.drew.cell? ⟨Bx, 1, none⟩ = some (.int .i64 a.y) ∧ W.drew.cell? ⟨Bx, 2, none⟩ = some (.int .i64 b.x) ∧ W.drew.cell? ⟨Bx, 3, none⟩ = some (.int .i64 b.y) ∧ W.drew.cell? ⟨w.heap.size + 1, 0, none⟩ = some (.int .i64 m) ∧ Below W.heap.size W W.drew := ⟨x1, x2, x3, x4, x5, (Below.refl _ _).drew⟩
    have hh : (⟨Bx, 0, none⟩ : Addr).block < W.heap.size ∧ (⟨Bx, 1, none⟩ : Addr).block < W.heap.size ∧ (⟨Bx, 2, none⟩ : Addr).block < W.heap.size ∧ (⟨Bx, 3, none⟩ : Addr).block < W.heap.size ∧ (⟨w.heap.size + 1, 0, none⟩ : Addr).block < W.heap.size := ⟨hxl, hxl, hxl, hxl, hml⟩
    have HW := Lib.hid (And.intro bP' (And.intro bM' (And.intro bR' (And.intro bI' (And.intro bE' (And.intro hne hB'))))))
    clear x1 x2 x3 x4 x5 hBx bP' bM' bR' bI' bE' hne hB' hrr hxl hml
    dsimp only
    gi_upto_region 4 with fail
    gi_cut [10, 11] from 18 (fun s10 s11 wx => ∃ B10 B11, s10 = .pointer (some ⟨B10, 0, none⟩) ∧ s11 = .pointer (some ⟨B11, 0, none⟩) ∧ W.heap.size ≤ B10 ∧ W.heap.size ≤ B11 ∧ PtK wx B10 P ∧ PtK wx B11 Q ∧ Below W.heap.size W wx)
    case first =>
      refine wpIn_region_round (S := fun V => V.cell? ⟨Bx, 0, none⟩ = some (.int .i64 a.x) ∧ V.cell? ⟨Bx, 1, none⟩ = some (.int .i64 a.y) ∧ V.cell? ⟨Bx, 2, none⟩ = some (.int .i64 b.x) ∧ V.cell? ⟨Bx, 3, none⟩ = some (.int .i64 b.y) ∧ V.cell? ⟨w.heap.size + 1, 0, none⟩ = some (.int .i64 m) ∧ Below W.heap.size W V) (by kernel_rfl) (by kernel_rfl) ?_ (fun hHeld => ?_)
      · exact hP0
      refine tk 0 ?_
      refine tk 1 ?_
      refine tk 2 ?_
      refine tk 3 ?_
      refine tk 4 ?_
      refine tk 5 ?_
      refine tk 6 ?_
      refine tk 7 ?_
      refine tk 8 ?_
      refine tk 9 ?_
      refine tk 10 ?_
      refine tk 11 ?_
      refine tk 12 ?_
      refine tk 13 ?_
      refine tk 14 ?_
      refine tk 15 ?_
      refine tk 16 ?_
      refine tk 17 ?_
      refine tk 18 ?_
      refine tk 19 ?_
      refine tk 20 ?_
      refine tk 21 ?_
      refine wpAnyH_ready (rs := [22, 23]) (by kernel_rfl) (by simp) ?_
      refine AllReadyH.cons rfl (fun K hK => ?_) (AllReadyH.cons rfl (fun K hK => ?_) AllReadyH.nil)
      · go_simp
        refine hK.out _ _ ?_ (fun hHeld => ?_)
        · exact hldI5 hh hP0 (by refine Below.drew ?_; repeat (first | exact ⟨rfl, rfl, rfl, Nat.le_refl _, fun _ _ => rfl⟩ | refine Below.alloc ?_ (by simp) _))
        clear hK K
        try simp only [Act.put, List.setIfInBounds_toArray, List.set_cons_zero, List.set_cons_succ]
        refine wpAnyH_ready (rs := [23]) (by kernel_rfl) (by simp) ?_
        refine AllReadyH.cons rfl (fun K hK => ?_) AllReadyH.nil
        go_simp
        refine hK.out _ _ ?_ (fun hHeld => ?_)
        · exact hldI5 hh hP0 (by refine Below.drew ?_; repeat (first | exact ⟨rfl, rfl, rfl, Nat.le_refl _, fun _ _ => rfl⟩ | refine Below.alloc ?_ (by simp) _))
        clear hK K
        try simp only [Act.put, List.setIfInBounds_toArray, List.set_cons_zero, List.set_cons_succ]
        refine wpAnyH_ready (rs := [24]) (by kernel_rfl) (by simp) ?_
        refine AllReadyH.cons rfl (fun K hK => ?_) AllReadyH.nil
        go_simp
        refine hK.out _ _ ?_ (fun hHeld => ?_)
        · exact hldI5 hh hP0 (by refine Below.drew ?_; repeat (first | exact ⟨rfl, rfl, rfl, Nat.le_refl _, fun _ _ => rfl⟩ | refine Below.alloc ?_ (by simp) _))
        clear hK K
        try simp only [Act.put, List.setIfInBounds_toArray, List.set_cons_zero, List.set_cons_succ]
        refine wpAnyH_ready (rs := [25]) (by kernel_rfl) (by simp) ?_
        refine AllReadyH.cons rfl (fun K hK => ?_) AllReadyH.nil
        go_simp
        refine hK.out _ _ ?_ (fun hHeld => ?_)
        · exact hldI5 hh hP0 (by refine Below.drew ?_; repeat (first | exact ⟨rfl, rfl, rfl, Nat.le_refl _, fun _ _ => rfl⟩ | refine Below.alloc ?_ (by simp) _))
        clear hK K
        try simp only [Act.put, List.setIfInBounds_toArray, List.set_cons_zero, List.set_cons_succ]
        refine wpAnyH_done (by kernel_rfl) ?_ _
        refine OnlyN.normal ?_
        gi_wp2_with fail
        gi_meet
        exact ⟨_, _, rfl, rfl, Nat.le_refl _, by omega, Blk.drew (Blk.alloc (Blk.new W _ _) _), Blk.drew (by have := Blk.new (W.alloc (.cells #[.int .i64 P.x, .int .i64 P.y] 43)) 43 #[.int .i64 Q.x, .int .i64 Q.y]; rw [World.size_alloc] at this; exact this), hHeld.2.2.2.2.2⟩
      · go_simp
        refine hK.out _ _ ?_ (fun hHeld => ?_)
        · exact hldI5 hh hP0 (by refine Below.drew ?_; repeat (first | exact ⟨rfl, rfl, rfl, Nat.le_refl _, fun _ _ => rfl⟩ | refine Below.alloc ?_ (by simp) _))
        clear hK K
        try simp only [Act.put, List.setIfInBounds_toArray, List.set_cons_zero, List.set_cons_succ]
        refine wpAnyH_ready (rs := [22]) (by kernel_rfl) (by simp) ?_
        refine AllReadyH.cons rfl (fun K hK => ?_) AllReadyH.nil
        go_simp
        refine hK.out _ _ ?_ (fun hHeld => ?_)
        · exact hldI5 hh hP0 (by refine Below.drew ?_; repeat (first | exact ⟨rfl, rfl, rfl, Nat.le_refl _, fun _ _ => rfl⟩ | refine Below.alloc ?_ (by simp) _))
        clear hK K
        try simp only [Act.put, List.setIfInBounds_toArray, List.set_cons_zero, List.set_cons_succ]
        refine wpAnyH_ready (rs := [24]) (by kernel_rfl) (by simp) ?_
        refine AllReadyH.cons rfl (fun K hK => ?_) AllReadyH.nil
        go_simp
        refine hK.out _ _ ?_ (fun hHeld => ?_)
        · exact hldI5 hh hP0 (by refine Below.drew ?_; repeat (first | exact ⟨rfl, rfl, rfl, Nat.le_refl _, fun _ _ => rfl⟩ | refine Below.alloc ?_ (by simp) _))
        clear hK K
        try simp only [Act.put, List.setIfInBounds_toArray, List.set_cons_zero, List.set_cons_succ]
        refine wpAnyH_ready (rs := [25]) (by kernel_rfl) (by simp) ?_
        refine AllReadyH.cons rfl (fun K hK => ?_) AllReadyH.nil
        go_simp
        refine hK.out _ _ ?_ (fun hHeld => ?_)
        · exact hldI5 hh hP0 (by refine Below.drew ?_; repeat (first | exact ⟨rfl, rfl, rfl, Nat.le_refl _, fun _ _ => rfl⟩ | refine Below.alloc ?_ (by simp) _))
        clear hK K
        try simp only [Act.put, List.setIfInBounds_toArray, List.set_cons_zero, List.set_cons_succ]
        refine wpAnyH_done (by kernel_rfl) ?_ _
        refine OnlyN.normal ?_
        gi_wp2_with fail
        gi_meet
        exact ⟨_, _, rfl, rfl, by omega, Nat.le_refl _, Blk.drew (by have := Blk.new (W.alloc (.cells #[.int .i64 Q.x, .int .i64 Q.y] 43)) 43 #[.int .i64 P.x, .int .i64 P.y]; rw [World.size_alloc] at this; exact this), Blk.drew (Blk.alloc (Blk.new W _ _) _), hHeld.2.2.2.2.2⟩
    case rest =>
      obtain ⟨B10, B11, rfl, rfl, hb10, hb11, hPb, hQb, hbc⟩ := hcut
      obtain ⟨W1, rfl⟩ : ∃ W1, W1 = wc := ⟨_, rfl⟩
      have bP1 := Blk.below HW.out.1 hbc (Blk.lt HW.out.1)
      obtain ⟨p1, p2, -, -, -⟩ := PtK.facts bP1
      obtain ⟨a1, a2, -, -, -⟩ := hPb.facts
      obtain ⟨b1, b2, -, -, -⟩ := hQb.facts
      obtain ⟨g1, g2, g3, g4, g5, g6, g7⟩ := HG.out
      obtain ⟨px, py, qx, qy⟩ := HBD.out
      have v1 : IntKind.i64.wrap (Q.x - P.x) = Q.x - P.x := by rw [IntKind.wrap_i64]; omega
      have v2 : IntKind.i64.wrap (p.y - P.y) = p.y - P.y := by rw [IntKind.wrap_i64]; omega
      have v3 : IntKind.i64.wrap (Q.y - P.y) = Q.y - P.y := by rw [IntKind.wrap_i64]; omega
      have v4 : IntKind.i64.wrap (p.x - P.x) = p.x - P.x := by rw [IntKind.wrap_i64]; omega
      have kM1 : ∀ V, Calls Tryz.prog 120 #[.int .i64 (Q.x - P.x), .int .i64 (p.y - P.y)] V fun e w' => e = .returned (i128 ((Q.x - P.x) * (p.y - P.y))) ∧ Below V.heap.size V w' := fun V => mul_any _ _ V (by omega) (by omega) (by omega) (by omega)
      have kM2 : ∀ V, Calls Tryz.prog 120 #[.int .i64 (Q.y - P.y), .int .i64 (p.x - P.x)] V fun e w' => e = .returned (i128 ((Q.y - P.y) * (p.x - P.x))) ∧ Below V.heap.size V w' := fun V => mul_any _ _ V (by omega) (by omega) (by omega) (by omega)
      obtain ⟨lm, hlm⟩ : ∃ z, z = (Q.x - P.x) * (p.y - P.y) := ⟨_, rfl⟩
      obtain ⟨rm, hrm⟩ : ∃ z, z = (Q.y - P.y) * (p.x - P.x) := ⟨_, rfl⟩
      have ht : cmpI lm rm = sgn (cr P Q p) := by rw [sgn_sub, hlm, hrm]; rfl
      have kC : ∀ V, Calls Tryz.prog 119 #[i128 lm, i128 rm] V fun e w' => e = .returned (.int .i64 (sgn (cr P Q p))) ∧ Below V.heap.size V w' := fun V => by rw [← ht]; exact wcompare_any lm rm V
      rw [← hlm] at kM1
      rw [← hrm] at kM2
      have hP5 : W1.drew.cell? ⟨w.heap.size, 0, none⟩ = some (.int .i64 p.x) ∧ W1.drew.cell? ⟨w.heap.size, 1, none⟩ = some (.int .i64 p.y) ∧ W1.drew.cell? ⟨B10, 0, none⟩ = some (.int .i64 P.x) ∧ W1.drew.cell? ⟨B10, 1, none⟩ = some (.int .i64 P.y) ∧ W1.drew.cell? ⟨B11, 0, none⟩ = some (.int .i64 Q.x) ∧ W1.drew.cell? ⟨B11, 1, none⟩ = some (.int .i64 Q.y) ∧ Below W1.heap.size W1 W1.drew := ⟨p1, p2, a1, a2, b1, b2, (Below.refl _ _).drew⟩
      have hl1 := Blk.lt bP1
      have hl2 := Blk.lt hPb
      have hl3 := Blk.lt hQb
      have hh5 : (⟨w.heap.size, 0, none⟩ : Addr).block < W1.heap.size ∧ (⟨w.heap.size, 1, none⟩ : Addr).block < W1.heap.size ∧ (⟨B10, 0, none⟩ : Addr).block < W1.heap.size ∧ (⟨B10, 1, none⟩ : Addr).block < W1.heap.size ∧ (⟨B11, 0, none⟩ : Addr).block < W1.heap.size ∧ (⟨B11, 1, none⟩ : Addr).block < W1.heap.size := ⟨hl1, hl1, hl2, hl2, hl3, hl3⟩
      have H1 := Lib.hid (And.intro hbc (And.intro hPb (And.intro hQb (And.intro hb10 hb11))))
      clear hbc hPb hQb hb10 hb11 bP1 p1 p2 a1 a2 b1 b2 g1 g2 g3 g4 g5 g6 g7 px py qx qy hlm hrm ht hl1 hl2 hl3 hP0 hh w1 w2 w3 w4
      obtain ⟨t, hts⟩ : ∃ t, t = sgn (cr P Q p) := ⟨_, rfl⟩
      rw [← hts] at kC
      have HT := Lib.hid hts
      clear hts
      gi_upto_region 5 with fail
      refine wpIn_region_round (S := fun V => V.cell? ⟨w.heap.size, 0, none⟩ = some (.int .i64 p.x) ∧ V.cell? ⟨w.heap.size, 1, none⟩ = some (.int .i64 p.y) ∧ V.cell? ⟨B10, 0, none⟩ = some (.int .i64 P.x) ∧ V.cell? ⟨B10, 1, none⟩ = some (.int .i64 P.y) ∧ V.cell? ⟨B11, 0, none⟩ = some (.int .i64 Q.x) ∧ V.cell? ⟨B11, 1, none⟩ = some (.int .i64 Q.y) ∧ Below W1.heap.size W1 V) (by kernel_rfl) (by kernel_rfl) ?_ (fun hHeld => ?_)
      · exact hP5
      refine tk 0 ?_
      refine tk 1 ?_
      refine tk 2 ?_
      refine tk 3 ?_
      refine tk 4 ?_
      refine tk 5 ?_
      refine tk 6 ?_
      refine tk 7 ?_
      refine tk 8 ?_
      refine tk 9 ?_
      refine tk 11 ?_
      refine tk 12 ?_
      refine tk 13 ?_
      refine tk 14 ?_
      refine tk 15 ?_
      refine tk 16 ?_
      refine tk 17 ?_
      refine tk 18 ?_
      refine tk 19 ?_
      refine tk 20 ?_
      refine wpAnyH_ready (rs := [10]) (by kernel_rfl) (by simp) ?_
      refine AllReadyH.cons rfl (fun K hK => ?_) AllReadyH.nil
      go_simp
      go_at_call 120
      (with_reducible refine (kM1 _).mono ?_)
      rintro e w5 ⟨rfl, hb'⟩
      try dsimp only
      refine hK.out _ _ ?_ (fun hHeld => ?_)
      · exact hldI6 hh5 hP5 hb'
      clear hK K
      try simp only [Act.put, List.setIfInBounds_toArray, List.set_cons_zero, List.set_cons_succ]
      refine wpAnyH_ready (rs := [21]) (by kernel_rfl) (by simp) ?_
      refine AllReadyH.cons rfl (fun K hK => ?_) AllReadyH.nil
      go_simp
      go_at_call 120
      (with_reducible refine (kM2 _).mono ?_)
      rintro e w6 ⟨rfl, hb'⟩
      try dsimp only
      refine hK.out _ _ ?_ (fun hHeld => ?_)
      · exact hldI6 hh5 hHeld hb'
      clear hK K
      try simp only [Act.put, List.setIfInBounds_toArray, List.set_cons_zero, List.set_cons_succ]
      refine wpAnyH_ready (rs := [22]) (by kernel_rfl) (by simp) ?_
      refine AllReadyH.cons rfl (fun K hK => ?_) AllReadyH.nil
      go_simp
      go_at_call 119
      (with_reducible refine (kC _).mono ?_)
      rintro e w7 ⟨rfl, hb'⟩
      try dsimp only
      refine hK.out _ _ ?_ (fun hHeld => ?_)
      · exact hldI6 hh5 hHeld hb'
      clear hK K
      try simp only [Act.put, List.setIfInBounds_toArray, List.set_cons_zero, List.set_cons_succ]
      refine tk 23 ?_
      refine wpAnyH_done (by kernel_rfl) ?_ _
      refine OnlyN.normal ?_
      obtain ⟨p1, p2, a1, a2, b1, b2, hb7⟩ := hHeld
      have H7 := Lib.hid hb7
      clear hP5 hb7 kM1 kM2 kC hh5 v1 v2 v3 v4 hb'
      gi_upto_region 6 with fail
      gi_cut [104] from 63 (fun s wx => s = .bool (onB P Q p) ∧ w7 = wx)
      case first =>
        by_cases ht0 : t = 0
        · have hcz : cr P Q p = 0 := by have := HT.out; rw [ht0] at this; unfold sgn at this; split at this <;> (try split at this) <;> omega
          have hob : onB P Q p = decide (((P.x ≤ p.x ∧ p.x ≤ Q.x) ∨ (Q.x ≤ p.x ∧ p.x ≤ P.x)) ∧ ((P.y ≤ p.y ∧ p.y ≤ Q.y) ∨ (Q.y ≤ p.y ∧ p.y ≤ P.y))) := by
            rw [Bool.eq_iff_iff, onB_iff, decide_eq_true_eq]
            exact ⟨fun h => h.2, fun h => ⟨hcz, h⟩⟩
          have HO := Lib.hid hob
          have ht1 : (t == 0) = true := by simpa using ht0
          clear hcz HT hob ht0
          gi_wp2_with fail
          all_goals
            gi_meet
            refine ⟨?_, rfl⟩
            rw [HO.out]
            refine congrArg Value.bool ?_
            rw [Bool.eq_iff_iff]
            simp only [decide_eq_true_eq, false_iff, Bool.false_eq_true]
            omega
        · have hcz : cr P Q p ≠ 0 := fun h => by have := HT.out; rw [h] at this; exact ht0 this
          have hob : onB P Q p = false := by unfold onB; rw [decide_eq_false hcz]; rfl
          have ht1 : (t == 0) = false := by simpa using ht0
          have HO := Lib.hid hob
          clear hcz hob HT ht0
          gi_wp2_with fail
          gi_meet
          exact ⟨by rw [HO.out], rfl⟩
      case rest =>
        obtain ⟨rfl, rfl⟩ := hcut
        obtain ⟨hbc, hPb, hQb, hb10, hb11⟩ := H1.out
        have hb7 := below_on hbc (Nat.le_refl _) H7.out
        obtain ⟨bP0, bM0, bR0, bI0, bE0, hne0, hB0'⟩ := HW.out
        have bP7 : PtK w7 w.heap.size p := bP0.on hb7
        have bM7 : Boxed w7 (w.heap.size + 1) 3 (.int .i64 m) := Blk.below bM0 hb7 bM0.lt
        have bR7 : Boxed w7 (w.heap.size + 2) 3 (.int .i64 0) := Blk.below bR0 hb7 bR0.lt
        have bI7 : Boxed w7 (w.heap.size + 3) 3 (.int .i64 (if oddL zs p pre = true then 1 else -1)) := Blk.below bI0 hb7 bI0.lt
        have bE7 : Boxed w7 (w.heap.size + 4) 23 (.slice A n cap) := Blk.below bE0 hb7 bE0.lt
        have hB7 := below_on hB0' (Nat.le_refl _) hb7
        have hE7 : KeepE w.heap.size (w.heap.size + 4) W w7 := KeepE.below hb7 (by have := hB0'.size; omega) bE0.lt
        have Hk := Lib.hid (And.intro (keeps_below hb7) (And.intro hE7 (And.intro hB7 hne0)))
        clear hbc hPb hQb hb10 hb11 hb7 bP0 bM0 bR0 bI0 bE0 hne0 hB0' hB7 hE7
        rcases hob : onB P Q p with _ | _
        · have hfl := Lib.hid ((flip_eq hob).symm.trans (by have h := HT.out; subst h; unfold flipB; rw [decide_eq_decide.mpr (sgn_gt (z := cr P Q p)).symm] : flipB P Q p = ((decide (p.y < P.y) != decide (p.y < Q.y)) && (decide (0 < t) == decide (p.y < Q.y)))))
          have HO := Lib.hid hob
          clear hob HT
          rcases d1 : decide (p.y < Q.y) with _ | _
          · rcases d2 : decide (p.y < P.y) with _ | _
            · have hc : Hid (crE zs p x = false) := by show _ = _; rw [HK.out.2.1, hfl.out, d1, d2]; rfl
              clear hfl
              gi_wp2_with fail
              refine ⟨Hk.out.1.from _, Hk.out.2.1, ⟨bP7, bM7, bR7, by rw [HK.out.2.2, hc.out, Bool.xor_false]; exact bI7, bE7, fun y hy => (List.mem_append.1 hy).elim (Hk.out.2.2.2 y) (fun e => by simp at e; subst e; rw [HK.out.1, HO.out])⟩, Hk.out.2.2.1⟩
            · rcases d3 : decide (0 < t) with _ | _
              · have hc : Hid (crE zs p x = true) := by show _ = _; rw [HK.out.2.1, hfl.out, d1, d2, d3]; rfl
                clear hfl
                have i1 := bI7.cell
                have i2 := bI7.frozen
                rcases ho : oddL zs p pre with _ | _
                · rw [ho] at i1
                  have hn2 : Hid ((if oddL zs p (pre ++ [x]) = true then (1 : Int) else -1) = 1) := by show _ = _; rw [HK.out.2.2, hc.out, ho]; rfl
                  clear ho
                  simp only [if_false, Bool.false_eq_true] at i1
                  gi_wp2_with fail
                  refine ⟨(Hk.out.1.trans (KeepsOthers.setCell _ _ _)).from _, Hk.out.2.1.trans ⟨by simp, fun i hi => Below.heap_setCell _ _ _ i (by simp only; omega)⟩, ⟨Blk.far bP7 (by simp only; omega) _, Blk.far bM7 (by simp only; omega) _, Blk.far bR7 (by simp only; omega) _, by rw [hn2.out]; exact bI7.set _, Blk.far bE7 (by simp only; omega) _, fun y hy => (List.mem_append.1 hy).elim (Hk.out.2.2.2 y) (fun e => by simp at e; subst e; rw [HK.out.1, HO.out])⟩, Hk.out.2.2.1.setCell (p := ⟨w.heap.size + 3, 0, none⟩) (by simp) _⟩
                · rw [ho] at i1
                  have hn2 : Hid ((if oddL zs p (pre ++ [x]) = true then (1 : Int) else -1) = -1) := by show _ = _; rw [HK.out.2.2, hc.out, ho]; rfl
                  clear ho
                  simp only [if_true] at i1
                  gi_wp2_with fail
                  refine ⟨(Hk.out.1.trans (KeepsOthers.setCell _ _ _)).from _, Hk.out.2.1.trans ⟨by simp, fun i hi => Below.heap_setCell _ _ _ i (by simp only; omega)⟩, ⟨Blk.far bP7 (by simp only; omega) _, Blk.far bM7 (by simp only; omega) _, Blk.far bR7 (by simp only; omega) _, by rw [hn2.out]; exact bI7.set _, Blk.far bE7 (by simp only; omega) _, fun y hy => (List.mem_append.1 hy).elim (Hk.out.2.2.2 y) (fun e => by simp at e; subst e; rw [HK.out.1, HO.out])⟩, Hk.out.2.2.1.setCell (p := ⟨w.heap.size + 3, 0, none⟩) (by simp) _⟩
              · have hc : Hid (crE zs p x = false) := by show _ = _; rw [HK.out.2.1, hfl.out, d1, d2, d3]; rfl
                clear hfl
                gi_wp2_with fail
                refine ⟨Hk.out.1.from _, Hk.out.2.1, ⟨bP7, bM7, bR7, by rw [HK.out.2.2, hc.out, Bool.xor_false]; exact bI7, bE7, fun y hy => (List.mem_append.1 hy).elim (Hk.out.2.2.2 y) (fun e => by simp at e; subst e; rw [HK.out.1, HO.out])⟩, Hk.out.2.2.1⟩
          · rcases d2 : decide (p.y < P.y) with _ | _
            · rcases d3 : decide (0 < t) with _ | _
              · have hc : Hid (crE zs p x = false) := by show _ = _; rw [HK.out.2.1, hfl.out, d1, d2, d3]; rfl
                clear hfl
                gi_wp2_with fail
                refine ⟨Hk.out.1.from _, Hk.out.2.1, ⟨bP7, bM7, bR7, by rw [HK.out.2.2, hc.out, Bool.xor_false]; exact bI7, bE7, fun y hy => (List.mem_append.1 hy).elim (Hk.out.2.2.2 y) (fun e => by simp at e; subst e; rw [HK.out.1, HO.out])⟩, Hk.out.2.2.1⟩
              · have hc : Hid (crE zs p x = true) := by show _ = _; rw [HK.out.2.1, hfl.out, d1, d2, d3]; rfl
                clear hfl
                have i1 := bI7.cell
                have i2 := bI7.frozen
                rcases ho : oddL zs p pre with _ | _
                · rw [ho] at i1
                  have hn2 : Hid ((if oddL zs p (pre ++ [x]) = true then (1 : Int) else -1) = 1) := by show _ = _; rw [HK.out.2.2, hc.out, ho]; rfl
                  clear ho
                  simp only [if_false, Bool.false_eq_true] at i1
                  gi_wp2_with fail
                  refine ⟨(Hk.out.1.trans (KeepsOthers.setCell _ _ _)).from _, Hk.out.2.1.trans ⟨by simp, fun i hi => Below.heap_setCell _ _ _ i (by simp only; omega)⟩, ⟨Blk.far bP7 (by simp only; omega) _, Blk.far bM7 (by simp only; omega) _, Blk.far bR7 (by simp only; omega) _, by rw [hn2.out]; exact bI7.set _, Blk.far bE7 (by simp only; omega) _, fun y hy => (List.mem_append.1 hy).elim (Hk.out.2.2.2 y) (fun e => by simp at e; subst e; rw [HK.out.1, HO.out])⟩, Hk.out.2.2.1.setCell (p := ⟨w.heap.size + 3, 0, none⟩) (by simp) _⟩
                · rw [ho] at i1
                  have hn2 : Hid ((if oddL zs p (pre ++ [x]) = true then (1 : Int) else -1) = -1) := by show _ = _; rw [HK.out.2.2, hc.out, ho]; rfl
                  clear ho
                  simp only [if_true] at i1
                  gi_wp2_with fail
                  refine ⟨(Hk.out.1.trans (KeepsOthers.setCell _ _ _)).from _, Hk.out.2.1.trans ⟨by simp, fun i hi => Below.heap_setCell _ _ _ i (by simp only; omega)⟩, ⟨Blk.far bP7 (by simp only; omega) _, Blk.far bM7 (by simp only; omega) _, Blk.far bR7 (by simp only; omega) _, by rw [hn2.out]; exact bI7.set _, Blk.far bE7 (by simp only; omega) _, fun y hy => (List.mem_append.1 hy).elim (Hk.out.2.2.2 y) (fun e => by simp at e; subst e; rw [HK.out.1, HO.out])⟩, Hk.out.2.2.1.setCell (p := ⟨w.heap.size + 3, 0, none⟩) (by simp) _⟩
            · have hc : Hid (crE zs p x = false) := by show _ = _; rw [HK.out.2.1, hfl.out, d1, d2]; rfl
              clear hfl
              gi_wp2_with fail
              refine ⟨Hk.out.1.from _, Hk.out.2.1, ⟨bP7, bM7, bR7, by rw [HK.out.2.2, hc.out, Bool.xor_false]; exact bI7, bE7, fun y hy => (List.mem_append.1 hy).elim (Hk.out.2.2.2 y) (fun e => by simp at e; subst e; rw [HK.out.1, HO.out])⟩, Hk.out.2.2.1⟩
        · have i1 := bR7.cell
          have i2 := bR7.frozen
          clear bP7 bI7
          gi_wp2_with fail
          refine ⟨(Hk.out.1.trans (KeepsOthers.setCell _ _ _)).from _, ⟨rfl, ⟨x, by simp, by rw [HK.out.1, hob]⟩, bR7.set _⟩, Hk.out.2.2.1.setCell (p := ⟨w.heap.size + 2, 0, none⟩) (by simp) _⟩
  case done =>
    rintro D ys W hD rfl ⟨⟨bP', bM', bR', bI', bE', hne⟩, hB'⟩ hK
    have hl : zs.length = n := by rw [HZ.out, sc_len]; exact hr.lenPt
    have hs : sideI zs p = if oddL zs p (List.range n) = true then 1 else -1 := by
      rw [sideI_off (fun y hy => hne y (List.mem_range.2 (by omega))), hl, oddL_range]
    obtain ⟨z, hz⟩ : ∃ z : Int, z = if oddL zs p (List.range n) = true then 1 else -1 := ⟨_, rfl⟩
    rw [← hz] at hs bI'
    have HS := Lib.hid hs
    have i1 := bI'.cell
    have i2 := bR'.frozen
    have i3 := bR'.cell
    clear hz hs hne hl
    gi_wp2_with fail
    have hK' := (KeepsOthers.setCell W ⟨w.heap.size + 2, 0, none⟩ (.int .i64 z)).same D _ hK rfl
    refine ⟨by simp, .inl ⟨_, _, rfl, run_takeDeferred hK', ?_⟩⟩
    have hc5 := cell_kept (bR'.set (.int .i64 z)).cell (grownBy_putObj' _ D (.deferred none)) (fun r e => by cases e; exact ⟨_, hK', rfl⟩)
    refine ⟨.int .i64 z, ?_, by rw [HS.out], (hB'.setCell (p := ⟨w.heap.size + 2, 0, none⟩) (by simp) _).trans (belowK_b (w := w) (Nat.le_refl _) _ D _ _ (by omega) hK' rfl rfl)⟩
    simp [results, Tryz.results87, go_sem, hc5]
  case stop =>
    rintro D c pre W hD ⟨k, hk, rfl⟩ ⟨⟨rfl, ⟨y, hy, hon⟩, bR'⟩, hB'⟩ hK
    have hl : zs.length = n := by rw [HZ.out, sc_len]; exact hr.lenPt
    have hs : sideI zs p = 0 := sideI_on (k := y) (by rw [List.mem_range] at hy; omega) hon
    have i3 := bR'.cell
    gi_wp2
    refine ⟨by simp, .inl ⟨_, _, rfl, run_takeDeferred hK, ?_⟩⟩
    have hc5 := cell_kept i3 (grownBy_putObj' _ D (.deferred none)) (fun r e => by cases e; exact ⟨_, hK, rfl⟩)
    refine ⟨.int .i64 0, ?_, by rw [hs], hB'.trans (belowK_b (w := w) (Nat.le_refl _) W D _ _ (by omega) hK rfl rfl)⟩
    simp [results, Tryz.results87, go_sem, hc5]
end Go.Proofs.YtglnklfhgdjccaaGreat
