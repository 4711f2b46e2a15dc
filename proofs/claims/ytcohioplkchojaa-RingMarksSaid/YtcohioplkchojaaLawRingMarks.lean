/- merestonelaw03.RingMarks: the walk. -/
import Derived.Test.YtcohioplkchojaaMarkLaw
import Derived.Test.YtcohioplkchojaaLaw03
import Derived.Test.YtcohioplkchojaaCheckR
namespace Go.Proofs.Ytcohioplkchojaa
open Go.RowKit
theorem wp_named_ {P : Program} {c : Code} {Q : Exit → Act → World → Prop} {a : Act} {w : World} (h : ∀ W, W = w → c.wp P Q a W) : c.wp P Q a w := h w rfl
theorem ptsV_drop (xs : List Pt) (k : Nat) : (ptsV xs).drop (k * 2) = ptsV (xs.drop k) := by
  by_cases h : k ≤ xs.length
  · have e : ptsV xs = ptsV (xs.take k) ++ ptsV (xs.drop k) := by rw [← ptsV_append, List.take_append_drop]
    rw [e, List.drop_left' (by rw [ptsV_length, List.length_take]; omega)]
  · rw [List.drop_eq_nil_of_le (by omega : xs.length ≤ k), List.drop_eq_nil_of_le (by rw [ptsV_length]; omega)]
    rfl
theorem Reads.takePt {w : World} {B n k : Nat} {A : Option Addr} {xs : List Pt} (h : Reads w B 2 A n (ptsV xs)) (hk : k ≤ n) : Reads w B 2 A k (ptsV (xs.take k)) := by
  have hl := h.lenPt
  have e : ptsV xs = ptsV (xs.take k) ++ ptsV (xs.drop k) := by rw [← ptsV_append, List.take_append_drop]
  refine ⟨by rw [ptsV_length, List.length_take]; omega, fun h0 => ?_⟩
  obtain ⟨ad, h1, h2, h3⟩ := h.2 (by omega)
  refine ⟨ad, h1, h2, fun j u hu => h3 j u ?_⟩
  rw [e, List.getElem?_append_left (List.getElem?_eq_some_iff.1 hu).1]
  exact hu
theorem Reads.dropPt {w : World} {B n k cap : Nat} {A : Option Addr} {xs : List Pt} (h : Reads w B 2 A n (ptsV xs)) (hk : k ≤ n) (hc : n ≤ cap) : Reads w B 2 (if cap = k then A else A.map (·.add (k * 2))) (n - k) (ptsV (xs.drop k)) := by
  rw [← ptsV_drop]
  exact h.cut hk hc
abbrev HoldQ8 (W V : World) (h g : Nat) (m : Addr) (p q b a : Pt) : Prop := V.cell? ⟨h, 0, none⟩ = some (.int .i64 p.x) ∧ V.cell? ⟨h, 1, none⟩ = some (.int .i64 p.y) ∧ V.cell? ⟨h + 1, 0, none⟩ = some (.int .i64 q.x) ∧ V.cell? ⟨h + 1, 1, none⟩ = some (.int .i64 q.y) ∧ V.cell? ⟨g, 0, none⟩ = some (.int .i64 b.x) ∧ V.cell? ⟨g, 1, none⟩ = some (.int .i64 b.y) ∧ V.cell? m = some (.int .i64 a.x) ∧ V.cell? ⟨m.block, m.off + 1, none⟩ = some (.int .i64 a.y) ∧ Below W.heap.size W V
theorem heldQ8 {W V V' : World} {h g : Nat} {m : Addr} {p q b a : Pt} (hh : h + 1 < W.heap.size ∧ g < W.heap.size ∧ m.block < W.heap.size) (hs : V.cell? ⟨h, 0, none⟩ = some (.int .i64 p.x) ∧ V.cell? ⟨h, 1, none⟩ = some (.int .i64 p.y) ∧ V.cell? ⟨h + 1, 0, none⟩ = some (.int .i64 q.x) ∧ V.cell? ⟨h + 1, 1, none⟩ = some (.int .i64 q.y) ∧ V.cell? ⟨g, 0, none⟩ = some (.int .i64 b.x) ∧ V.cell? ⟨g, 1, none⟩ = some (.int .i64 b.y) ∧ V.cell? m = some (.int .i64 a.x) ∧ V.cell? ⟨m.block, m.off + 1, none⟩ = some (.int .i64 a.y) ∧ Below W.heap.size W V) (hb : Below V.heap.size V V') :
    V'.cell? ⟨h, 0, none⟩ = some (.int .i64 p.x) ∧ V'.cell? ⟨h, 1, none⟩ = some (.int .i64 p.y) ∧ V'.cell? ⟨h + 1, 0, none⟩ = some (.int .i64 q.x) ∧ V'.cell? ⟨h + 1, 1, none⟩ = some (.int .i64 q.y) ∧ V'.cell? ⟨g, 0, none⟩ = some (.int .i64 b.x) ∧ V'.cell? ⟨g, 1, none⟩ = some (.int .i64 b.y) ∧ V'.cell? m = some (.int .i64 a.x) ∧ V'.cell? ⟨m.block, m.off + 1, none⟩ = some (.int .i64 a.y) ∧ Below W.heap.size W V' := by
  obtain ⟨h1, h2, h3⟩ := hh
  obtain ⟨c1, c2, c3, c4, c5, c6, c7, c8, c9⟩ := hs
  have := c9.size
  exact ⟨(hb.cell (p := ⟨h, 0, none⟩) (by simp only; omega)).trans c1, (hb.cell (p := ⟨h, 1, none⟩) (by simp only; omega)).trans c2, (hb.cell (p := ⟨h + 1, 0, none⟩) (by simp only; omega)).trans c3, (hb.cell (p := ⟨h + 1, 1, none⟩) (by simp only; omega)).trans c4, (hb.cell (p := ⟨g, 0, none⟩) (by simp only; omega)).trans c5, (hb.cell (p := ⟨g, 1, none⟩) (by simp only; omega)).trans c6, (hb.cell (p := m) (by omega)).trans c7, (hb.cell (p := ⟨m.block, m.off + 1, none⟩) (by simp only; omega)).trans c8, below_on c9 (Nat.le_refl _) hb⟩
abbrev HoldP1 (W V : World) (b : Nat) (p : Pt) : Prop := V.cell? ⟨b, 0, none⟩ = some (.int .i64 p.x) ∧ V.cell? ⟨b, 1, none⟩ = some (.int .i64 p.y) ∧ Below W.heap.size W V
theorem heldP1 {W V V' : World} {b : Nat} {p : Pt} (hh : b < W.heap.size) (hs : V.cell? ⟨b, 0, none⟩ = some (.int .i64 p.x) ∧ V.cell? ⟨b, 1, none⟩ = some (.int .i64 p.y) ∧ Below W.heap.size W V) (hb : Below V.heap.size V V') :
    V'.cell? ⟨b, 0, none⟩ = some (.int .i64 p.x) ∧ V'.cell? ⟨b, 1, none⟩ = some (.int .i64 p.y) ∧ Below W.heap.size W V' := by
  have := hs.2.2.size
  exact ⟨(hb.cell (p := ⟨b, 0, none⟩) (by simp only; omega)).trans hs.1, (hb.cell (p := ⟨b, 1, none⟩) (by simp only; omega)).trans hs.2.1, below_on hs.2.2 (Nat.le_refl _) hb⟩
abbrev FM (w : World) (p q : Pt) (W : World) : Prop := Below w.heap.size w W ∧ Blk W (w.heap.size) 35 #[.int .i64 p.x, .int .i64 p.y] ∧ Blk W (w.heap.size + 1) 35 #[.int .i64 q.x, .int .i64 q.y]
theorem FM.on {w W W' : World} {p q : Pt} (h : FM w p q W) (hb : Below W.heap.size W W') : FM w p q W' := ⟨below_on h.1 (Nat.le_refl _) hb, Blk.below h.2.1 hb (Blk.lt h.2.1), Blk.below h.2.2 hb (Blk.lt h.2.2)⟩
theorem FM.alloc {w W : World} {p q : Pt} (h : FM w p q W) (o : Obj) : FM w p q (W.alloc o) := ⟨h.1.alloc h.1.size o, Blk.alloc h.2.1 o, Blk.alloc h.2.2 o⟩
theorem FM.c0 {w W : World} {p q : Pt} (h : FM w p q W) : W.cell? ⟨w.heap.size, 0, none⟩ = some (.int .i64 p.x) ∧ W.cell? ⟨w.heap.size, 1, none⟩ = some (.int .i64 p.y) ∧ w.heap.size < W.heap.size := ⟨by rw [Blk.cell h.2.1 0]; rfl, by rw [Blk.cell h.2.1 1]; rfl, Blk.lt h.2.1⟩
theorem FM.c1 {w W : World} {p q : Pt} (h : FM w p q W) : W.cell? ⟨w.heap.size + 1, 0, none⟩ = some (.int .i64 q.x) ∧ W.cell? ⟨w.heap.size + 1, 1, none⟩ = some (.int .i64 q.y) ∧ w.heap.size + 1 < W.heap.size := ⟨by rw [Blk.cell h.2.2 0]; rfl, by rw [Blk.cell h.2.2 1]; rfl, Blk.lt h.2.2⟩
theorem FM.new (w : World) (p q : Pt) : FM w p q ((w.alloc (.cells #[.int .i64 p.x, .int .i64 p.y] 35)).alloc (.cells #[.int .i64 q.x, .int .i64 q.y] 35)) := by
  refine ⟨(((Below.refl _ _).alloc (Nat.le_refl _) _).alloc (by simp) _), ?_, ?_⟩
  · have := Blk.alloc (Blk.new w 35 #[.int .i64 p.x, .int .i64 p.y]) (.cells #[.int .i64 q.x, .int .i64 q.y] 35)
    exact this
  · have := Blk.new (w.alloc (.cells #[.int .i64 p.x, .int .i64 p.y] 35)) 35 #[.int .i64 q.x, .int .i64 q.y]
    rw [World.size_alloc] at this
    exact this
abbrev FN (w : World) (p q b : Pt) (g : Nat) (W : World) : Prop := FM w p q W ∧ Blk W g 35 #[.int .i64 b.x, .int .i64 b.y]
theorem FN.on {w W W' : World} {p q b : Pt} {g : Nat} (h : FN w p q b g W) (hb : Below W.heap.size W W') : FN w p q b g W' := ⟨h.1.on hb, Blk.below h.2 hb (Blk.lt h.2)⟩
abbrev FX (w : World) (p q : Pt) (ys : List Pt) (n : Nat) (A : Option Addr) (W : World) : Prop := FM w p q W ∧ Reads W W.heap.size 2 A n (ptsV ys)
theorem FX.on {w W W' : World} {p q : Pt} {ys : List Pt} {n : Nat} {A : Option Addr} (h : FX w p q ys n A W) (hb : Below W.heap.size W W') : FX w p q ys n A W' := ⟨h.1.on hb, h.2.on hb⟩
abbrev FY (w : World) (p q : Pt) (ys : List Pt) (n : Nat) (A : Option Addr) (z1 z2 : Int) (g : Nat) (W : World) : Prop := FX w p q ys n A W ∧ Blk W g 26 #[.int .i64 z1, .int .u64 z2]
theorem FY.on {w W W' : World} {p q : Pt} {ys : List Pt} {n : Nat} {A : Option Addr} {z1 z2 : Int} {g : Nat} (h : FY w p q ys n A z1 z2 g W) (hb : Below W.heap.size W W') : FY w p q ys n A z1 z2 g W' := ⟨FX.on h.1 hb, Blk.below h.2 hb (Blk.lt h.2)⟩
abbrev FZ (w : World) (p q : Pt) (ys : List Pt) (n : Nat) (A : Option Addr) (z1 z2 : Int) (g g2 : Nat) (W : World) : Prop := FY w p q ys n A z1 z2 g W ∧ Blk W g2 26 #[.int .i64 z1, .int .u64 z2]
theorem FZ.on {w W W' : World} {p q : Pt} {ys : List Pt} {n : Nat} {A : Option Addr} {z1 z2 : Int} {g g2 : Nat} (h : FZ w p q ys n A z1 z2 g g2 W) (hb : Below W.heap.size W W') : FZ w p q ys n A z1 z2 g g2 W' := ⟨FY.on h.1 hb, Blk.below h.2 hb (Blk.lt h.2)⟩
theorem ptEq3 (p a : Pt) : ((p.x == a.x) = true ∧ (p.y == a.y) = true ∧ p = a) ∨ ((p.x == a.x) = true ∧ (p.y == a.y) = false ∧ p ≠ a) ∨ ((p.x == a.x) = false ∧ p ≠ a) := by
  by_cases h1 : p.x = a.x
  · by_cases h2 : p.y = a.y
    · exact .inl ⟨by simpa using h1, by simpa using h2, by obtain ⟨px, py⟩ := p; obtain ⟨ax, ay⟩ := a; simp only at h1 h2; rw [h1, h2]⟩
    · exact .inr (.inl ⟨by simpa using h1, by simpa using h2, fun e => h2 (by rw [e])⟩)
  · exact .inr (.inr ⟨by simpa using h1, fun e => h1 (by rw [e])⟩)
open Classical in
noncomputable def markB (p q a b : Pt) : Bool := decide (goodL [p, q] = true ∧ onB a b p = true ∧ p ≠ a ∧ p ≠ b)
set_option maxRecDepth 100000 in
set_option maxHeartbeats 12800000 in
theorem ringMarks_any (xs : List Pt) (x : Int) (p q : Pt) (A : Option Addr) (n cap : Nat) (w : World) (hr : Reads w w.heap.size 2 A n (ptsV xs)) (hn : n ≤ 8796093022208) (hcap : n ≤ cap) (hcb : cap ≤ 9223372036854775807) (hx : ∀ p ∈ xs, p.inI) (hb0 : 0 ≤ x) (hb1 : x ≤ 255) (hp : p.inI) (hq : q.inI) :
    Calls Try.prog 5 #[.slice A n cap, .int .u8 x, ptV p, ptV q] w fun e w' => e = .returned (.bool true) ∧ Below w.heap.size w w' := by
  obtain ⟨i0, hi0, hz0, hz1, hz2⟩ := info_parts info_pt
  have hl : xs.length = n := hr.lenPt
  have hnI : n ≤ 9223372036854775807 := by omega
  have kO : ∀ (l : List Pt) V B m c, m ≤ 8796093022208 → Reads V V.heap.size 2 B m (ptsV l) → Calls Try.prog 16 #[.slice B m c] V fun e V' => ∃ A' c, e = .returned (.slice A' m c) ∧ Reads V' V'.heap.size 2 A' m (ptsV l) ∧ Below V.heap.size V V' := fun l V B m c hm h =>
    (own03_any l B m c V h (by omega)).mono fun e V' ⟨A', c, h1, h2, h3⟩ => ⟨A', c, h1, Reads.of_own h2, h3⟩
  have kX : ∀ V, Below w.heap.size w V → Reads V V.heap.size 2 A n (ptsV xs) := fun V hV => (hr.below hV).more hV.size
  have kC1 : ∀ V A' c, Reads V V.heap.size 2 A' n (ptsV xs) → Calls Try.prog 19 #[.slice A' n c] V fun e V' => e = .returned (.int .i64 (checkI xs)) ∧ Below V.heap.size V V' := fun V A' c h => check_any xs A' n c V h hnI hx
  have kA1 : ∀ V A' c, Reads V V.heap.size 2 A' n (ptsV xs) → Calls Try.prog 15 #[.slice A' n c] V fun e V' => e = .returned (.tuple #[i128 (areaV xs), .int .i64 (areaE xs)]) ∧ Below V.heap.size V V' := fun V A' c h => area_any xs A' n c V h hnI hx
  have kS1 : ∀ V A' c, Reads V V.heap.size 2 A' n (ptsV xs) → Calls Try.prog 21 #[.slice A' n c, .agg #[.int .i64 q.x, .int .i64 q.y]] V fun e V' => e = .returned (.tuple #[.int .i64 (sideV xs q), .int .i64 (sideE xs q)]) ∧ Below V.heap.size V V' := fun V A' c h => sideW_any xs q A' n c V h hnI hx hq
  have HO := Lib.hid (And.intro kO kX)
  have HX := Lib.hid (And.intro hl (And.intro hx (And.intro hp hq)))
  have HC := Lib.hid kC1
  have H0 := Lib.hid (FM.new w p q)
  have hcz : checkI xs = 0 → 3 ≤ n ∧ n ≤ 128 ∧ goodL xs = true := fun h => by
    obtain ⟨h1, h2, h3, -, -⟩ := checkI_zero h
    exact ⟨by omega, by omega, h2⟩
  have HZ := Lib.hid (And.intro hcz (And.intro kA1 kS1))
  clear hcz kO kX kC1 kA1 kS1 hr hx hp hq hl
  obtain ⟨ce, hce⟩ : ∃ ce, ce = checkI xs := ⟨_, rfl⟩
  rw [← hce] at HC
  have hwx : IntKind.i64.wrap x = x := IntWalk.i64_in _ (by omega)
  unfold ptV
  go_enter Try.func5, Try.ntmps5
  go_wp2_with fail
  generalize ((w.alloc (.cells #[.int .i64 p.x, .int .i64 p.y] 35)).alloc (.cells #[.int .i64 q.x, .int .i64 q.y] 35)) = W0 at *
  refine (ans03_any _).mono ?_
  rintro e w1 ⟨rfl, hb1⟩
  have H1 := Lib.hid (H0.out.on hb1)
  clear hb1 H0
  go_wp2_with fail
  with_reducible refine (HO.out.1 _ _ _ _ _ hn (HO.out.2 _ H1.out.1)).mono ?_
  rintro e w2 ⟨A2, c2, rfl, hr2, hb2⟩
  have H2 := Lib.hid (And.intro hr2 (H1.out.on hb2))
  clear hr2 hb2 H1
  go_wp2_with fail
  with_reducible refine (HC.out _ _ _ H2.out.1).mono ?_
  rintro e w3 ⟨rfl, hb3⟩
  have H3 := Lib.hid (H2.out.2.on hb3)
  clear hb3 H2
  by_cases h0 : ce = 0
  case neg =>
    have h1 : (ce != 0) = true := by simpa using h0
    clear hce
    go_wp2_with fail
    refine (ans03_any _).mono ?_
    rintro e w4 ⟨rfl, hb4⟩
    have H4 := Lib.hid (H3.out.on hb4)
    clear hb4 H3
    go_wp2_with fail
    go_ret
    exact ⟨rfl, H4.out.1⟩
  case pos =>
  by_cases h127 : 127 < n
  case pos =>
    have h1 : (127 : Int) < (n : Int) := by omega
    subst h0
    clear hce
    go_wp2_with fail
    refine (ans03_any _).mono ?_
    rintro e w4 ⟨rfl, hb4⟩
    have H4 := Lib.hid (H3.out.on hb4)
    clear hb4 H3
    go_wp2_with fail
    go_ret
    exact ⟨rfl, H4.out.1⟩
  case neg =>
  subst h0
  obtain ⟨hn3, hn128, hgX⟩ := HZ.out.1 hce.symm
  have h1 : ¬ (127 : Int) < (n : Int) := by omega
  have hgo1 : 0 < n := by omega
  have hxn : x.tmod (n : Int) = ((x.toNat % n : Nat) : Int) := by
    obtain ⟨m, rfl⟩ : ∃ m : Nat, x = (m : Int) := ⟨x.toNat, by omega⟩
    rw [Int.toNat_natCast]
    rfl
  have hkn : x.toNat % n < n := Nat.mod_lt _ hgo1
  generalize x.toNat % n = k at *
  have hg3 : ¬ n = 0 := by omega
  have hg4 : ¬ (n : Int) = 0 := by omega
  have hwk : IntKind.i64.wrap (k : Int) = (k : Int) := IntWalk.i64_in _ (by omega)
  have hwk1 : IntKind.i64.wrap ((k : Int) + 1) = (k : Int) + 1 := IntWalk.i64_in _ (by omega)
  have hk2 := mod_tmod k n
  obtain ⟨k2, hk2e⟩ : ∃ k2, k2 = (k + 1) % n := ⟨_, rfl⟩
  rw [← hk2e] at hk2
  have hk2n : k2 < n := by rw [hk2e]; exact Nat.mod_lt _ hgo1
  have hk2i : (k2 : Int) < (n : Int) := by omega
  have hwk2 : IntKind.i64.wrap (k2 : Int) = (k2 : Int) := IntWalk.i64_in _ (by omega)
  have hkni : (k : Int) < (n : Int) := by omega
  obtain ⟨ad, rfl, -, -, -, -⟩ := (HO.out.2 _ (Below.refl _ _)).pt hgo1
  have hRa : ∀ V, Below w.heap.size w V → V.cell? (ad.add (k * 2)) = some (.int .i64 (ptAt xs k).x) ∧ V.cell? ⟨(ad.add (k * 2)).block, (ad.add (k * 2)).off + 1, none⟩ = some (.int .i64 (ptAt xs k).y) := fun V hV => ((HO.out.2 V hV).ptA hkn).2
  have hRb : ∀ V, Below w.heap.size w V → V.cell? (ad.add (k2 * 2)) = some (.int .i64 (ptAt xs k2).x) ∧ V.cell? ⟨(ad.add (k2 * 2)).block, (ad.add (k2 * 2)).off + 1, none⟩ = some (.int .i64 (ptAt xs k2).y) := fun V hV => ((HO.out.2 V hV).ptA hk2n).2
  have hadb : ad.block < w.heap.size := ((HO.out.2 _ (Below.refl _ _)).ptA hkn).1
  have hga := ptAt_good hgX k
  have hgb := ptAt_good hgX k2
  have hall : good p = true → good q = true → onB (ptAt xs k) (ptAt xs k2) p = true → p ≠ ptAt xs k → p ≠ ptAt xs k2 → checkI (mark k p xs) = 0 ∧ areaE xs = 0 ∧ areaE (mark k p xs) = 0 ∧ areaV (mark k p xs) = areaV xs ∧ sideE xs q = 0 ∧ sideE (mark k p xs) q = 0 ∧ sideV (mark k p xs) q = sideV xs q := fun g1 g2 g3 g4 g5 =>
    mark_all (by have := HX.out.1; omega) hce.symm (by have := HX.out.1; omega) g1 g2 (by rw [HX.out.1, ← hk2e]; exact g3) g4 (by rw [HX.out.1, ← hk2e]; exact g5)
  obtain ⟨a, ha⟩ : ∃ a, a = ptAt xs k := ⟨_, rfl⟩
  obtain ⟨b, hb⟩ : ∃ b, b = ptAt xs k2 := ⟨_, rfl⟩
  rw [← ha] at hRa hga hall
  rw [← hb] at hRb hgb hall
  have HG := Lib.hid (And.intro hga (And.intro hgb (And.intro hall (And.intro hRa (And.intro hgX (And.intro hadb hce))))))
  obtain ⟨x1, x2⟩ := hRb _ H3.out.1
  obtain ⟨g, hg⟩ : ∃ g, g = w3.heap.size := ⟨_, rfl⟩
  have hX : FN w p q b g (w3.alloc (.cells #[.int .i64 b.x, .int .i64 b.y] 35)) := by
    rw [hg]
    exact ⟨H3.out.alloc _, Blk.new w3 _ _⟩
  have H4 := Lib.hid hX
  clear hX H3 hga hgb hall hRa hRb hadb hgX hce ha hb hk2e
  go_wp2_with fail
  rw [← hg]
  clear x1 x2
  refine wp_named_ fun Wr hWr => ?_
  have HR := Lib.hid (show FN w p q b g Wr by rw [hWr]; exact H4.out)
  clear hWr H4 hg
  have hltM : w.heap.size + 1 < Wr.heap.size ∧ g < Wr.heap.size ∧ (ad.add (k * 2)).block < Wr.heap.size := ⟨HR.out.1.c1.2.2, Blk.lt HR.out.2, by rw [block_of_add]; have := HG.out.2.2.2.2.2.1; have := HR.out.1.1.size; omega⟩
  have hP0 : HoldQ8 Wr Wr.drew w.heap.size g (ad.add (k * 2)) p q b a := ⟨HR.out.1.c0.1, HR.out.1.c0.2.1, HR.out.1.c1.1, HR.out.1.c1.2.1, (by rw [show Wr.drew.cell? ⟨g, 0, none⟩ = Wr.cell? ⟨g, 0, none⟩ from rfl, Blk.cell HR.out.2 0]; rfl), (by rw [show Wr.drew.cell? ⟨g, 1, none⟩ = Wr.cell? ⟨g, 1, none⟩ from rfl, Blk.cell HR.out.2 1]; rfl), (HG.out.2.2.2.1 _ HR.out.1.1).1, (HG.out.2.2.2.1 _ HR.out.1.1).2, (Below.refl _ _).drew⟩
  have kG := fun V (hr : Reads V V.heap.size 2 (some ⟨Wr.heap.size, 0, none⟩) 2 (ptsV [p, q])) => goodR_any [p, q] (some ⟨Wr.heap.size, 0, none⟩) 2 2 V hr (by omega) (fun q' hq' => by
    simp only [List.mem_cons, List.not_mem_nil, or_false] at hq'
    rcases hq' with rfl | rfl
    · exact HX.out.2.2.1
    · exact HX.out.2.2.2)
  have hrG : Reads (World.drew (Wr.alloc (.cells #[.int .i64 p.x, .int .i64 p.y, .int .i64 q.x, .int .i64 q.y] 35))) (World.drew (Wr.alloc (.cells #[.int .i64 p.x, .int .i64 p.y, .int .i64 q.x, .int .i64 q.y] 35))).heap.size 2 (some ⟨Wr.heap.size, 0, none⟩) 2 (ptsV [p, q]) := reads_two Wr p.x p.y q.x q.y _ _ rfl
  have kN : ∀ V, good p = true → Calls Try.prog 24 #[.agg #[.int .i64 a.x, .int .i64 a.y], .agg #[.int .i64 b.x, .int .i64 b.y], .agg #[.int .i64 p.x, .int .i64 p.y]] V fun e V' => e = .returned (.bool (onB a b p)) ∧ Below V.heap.size V V' := fun V hg => onR6 a.x a.y b.x b.y p.x p.y V HG.out.1 HG.out.2.1 hg
  go_cut [74] (fun s wx => s = .bool (!markB p q a b) ∧ Below Wr.heap.size Wr wx)
  case first =>
    rcases hgl : goodL [p, q] with _ | _
    · rw [hgl] at kG
      have hm : markB p q a b = false := by
        unfold markB
        exact decide_eq_false (fun h => by rw [hgl] at h; exact absurd h.1 (by simp))
      clear hgl
      have HM := Lib.hid hm
      clear hm
      refine wp_region_held_drew (S := (fun V => V.cell? ⟨w.heap.size, 0, none⟩ = some (.int .i64 p.x) ∧ V.cell? ⟨w.heap.size, 1, none⟩ = some (.int .i64 p.y) ∧ V.cell? ⟨w.heap.size + 1, 0, none⟩ = some (.int .i64 q.x) ∧ V.cell? ⟨w.heap.size + 1, 1, none⟩ = some (.int .i64 q.y) ∧ V.cell? ⟨g, 0, none⟩ = some (.int .i64 b.x) ∧ V.cell? ⟨g, 1, none⟩ = some (.int .i64 b.y) ∧ V.cell? (ad.add (k * 2)) = some (.int .i64 a.x) ∧ V.cell? ⟨(ad.add (k * 2)).block, (ad.add (k * 2)).off + 1, none⟩ = some (.int .i64 a.y) ∧ Below Wr.heap.size Wr V)) (by kernel_rfl) ?_ (fun hHeld => ?_)
      · exact hP0
      refine wpAnyH_take (i := 0) (v := ?_) rfl (by kernel_rfl) (by kernel_rfl) (by kernel_rfl) (fun _ _ _ h => h) (Or.inl ⟨by rfl, ?_⟩) (by assumption) ?_
      rotate_left
      · intro w hSw; (try dsimp only at hSw); go_simp; try with_reducible rfl
      simp only [Act.put, List.setIfInBounds_toArray, List.set_cons_zero, List.set_cons_succ, List.getElem_toArray, List.getElem_cons_zero]
      refine wpAnyH_take (i := 1) (v := ?_) rfl (by kernel_rfl) (by kernel_rfl) (by kernel_rfl) (fun _ _ _ h => h) (Or.inl ⟨by rfl, ?_⟩) (by assumption) ?_
      rotate_left
      · intro w hSw; (try dsimp only at hSw); go_simp; try with_reducible rfl
      simp only [Act.put, List.setIfInBounds_toArray, List.set_cons_zero, List.set_cons_succ, List.getElem_toArray, List.getElem_cons_zero, List.getElem_cons_succ]
      refine wpAnyH_ready (rs := [2]) (by kernel_rfl) (by simp) ?_
      refine AllReadyH.cons rfl (fun K hK => ?_) AllReadyH.nil
      go_simp
      refine hK.out _ _ ?_ (fun hHeld => ?_)
      · exact heldQ8 hltM hP0 (show Below Wr.drew.heap.size Wr.drew (World.drew (Wr.alloc _)) from (Below.refl Wr.drew.heap.size Wr.drew).alloc (Nat.le_refl _) _)
      clear hK K
      try simp only [Act.put, List.setIfInBounds_toArray, List.set_cons_zero, List.set_cons_succ]
      refine wpAnyH_ready (rs := [3]) (by kernel_rfl) (by simp) ?_
      refine AllReadyH.cons rfl (fun K hK => ?_) AllReadyH.nil
      go_simp
      go_at_call 22
      (first | with_reducible refine (kG _ hrG).mono ?_ | refine (kG _ hrG).mono ?_)
      rintro e w' ⟨rfl, hb'⟩
      try dsimp only
      refine hK.out _ _ ?_ (fun hHeld => ?_)
      · exact heldQ8 hltM (by assumption) hb'
      clear hK K
      try simp only [Act.put, List.setIfInBounds_toArray, List.set_cons_zero, List.set_cons_succ]
      refine wpAnyH_take (i := 4) (v := ?_) rfl (by kernel_rfl) (by kernel_rfl) (by kernel_rfl) (fun _ _ _ h => h) (Or.inl ⟨by rfl, ?_⟩) (by assumption) ?_
      rotate_left
      · intro w hSw; (try dsimp only at hSw); go_simp; try with_reducible rfl
      simp only [Act.put, List.setIfInBounds_toArray, List.set_cons_zero, List.set_cons_succ, List.getElem_toArray, List.getElem_cons_zero, List.getElem_cons_succ]
      refine wpAnyH_take (i := 5) (v := ?_) rfl (by kernel_rfl) (by kernel_rfl) (by kernel_rfl) (fun _ _ _ h => h) (Or.inl ⟨by rfl, ?_⟩) (by assumption) ?_
      rotate_left
      · intro w hSw; (try dsimp only at hSw); go_simp; try with_reducible rfl
      simp only [Act.put, List.setIfInBounds_toArray, List.set_cons_zero, List.set_cons_succ, List.getElem_toArray, List.getElem_cons_zero, List.getElem_cons_succ]
      refine wpAnyH_take (i := 6) (v := undef) rfl (by kernel_rfl) (by kernel_rfl) (by kernel_rfl) (fun _ _ _ h => h) (Or.inr ⟨by rfl, rfl⟩) (by assumption) ?_
      simp only [Act.put, List.setIfInBounds_toArray]
      refine wpAnyH_take (i := 7) (v := undef) rfl (by kernel_rfl) (by kernel_rfl) (by kernel_rfl) (fun _ _ _ h => h) (Or.inr ⟨by rfl, rfl⟩) (by assumption) ?_
      simp only [Act.put]
      refine wpAnyH_take (i := 8) (v := undef) rfl (by kernel_rfl) (by kernel_rfl) (by kernel_rfl) (fun _ _ _ h => h) (Or.inr ⟨by rfl, rfl⟩) (by assumption) ?_
      simp only [Act.put]
      refine wpAnyH_take (i := 9) (v := undef) rfl (by kernel_rfl) (by kernel_rfl) (by kernel_rfl) (fun _ _ _ h => h) (Or.inr ⟨by rfl, rfl⟩) (by assumption) ?_
      simp only [Act.put]
      refine wpAnyH_take (i := 10) (v := undef) rfl (by kernel_rfl) (by kernel_rfl) (by kernel_rfl) (fun _ _ _ h => h) (Or.inr ⟨by rfl, rfl⟩) (by assumption) ?_
      simp only [Act.put]
      refine wpAnyH_take (i := 11) (v := undef) rfl (by kernel_rfl) (by kernel_rfl) (by kernel_rfl) (fun _ _ _ h => h) (Or.inr ⟨by rfl, rfl⟩) (by assumption) ?_
      simp only [Act.put]
      refine wpAnyH_take (i := 12) (v := undef) rfl (by kernel_rfl) (by kernel_rfl) (by kernel_rfl) (fun _ _ _ h => h) (Or.inr ⟨by rfl, rfl⟩) (by assumption) ?_
      simp only [Act.put]
      refine wpAnyH_take (i := 13) (v := undef) rfl (by kernel_rfl) (by kernel_rfl) (by kernel_rfl) (fun _ _ _ h => h) (Or.inr ⟨by rfl, rfl⟩) (by assumption) ?_
      simp only [Act.put]
      refine wpAnyH_take (i := 14) (v := ?_) rfl (by kernel_rfl) (by kernel_rfl) (by kernel_rfl) (fun _ _ _ h => h) (Or.inl ⟨by rfl, ?_⟩) (by assumption) ?_
      rotate_left
      · intro w hSw; (try dsimp only at hSw); go_simp; try with_reducible rfl
      simp only [Act.put, List.setIfInBounds_toArray, List.set_cons_zero, List.set_cons_succ, List.getElem_toArray, List.getElem_cons_zero, List.getElem_cons_succ]
      refine wpAnyH_take (i := 15) (v := ?_) rfl (by kernel_rfl) (by kernel_rfl) (by kernel_rfl) (fun _ _ _ h => h) (Or.inl ⟨by rfl, ?_⟩) (by assumption) ?_
      rotate_left
      · intro w hSw; (try dsimp only at hSw); go_simp; try with_reducible rfl
      simp only [Act.put, List.setIfInBounds_toArray, List.set_cons_zero, List.set_cons_succ, List.getElem_toArray, List.getElem_cons_zero, List.getElem_cons_succ]
      refine wpAnyH_take (i := 16) (v := undef) rfl (by kernel_rfl) (by kernel_rfl) (by kernel_rfl) (fun _ _ _ h => h) (Or.inr ⟨by rfl, rfl⟩) (by assumption) ?_
      simp only [Act.put, List.setIfInBounds_toArray]
      refine wpAnyH_take (i := 17) (v := undef) rfl (by kernel_rfl) (by kernel_rfl) (by kernel_rfl) (fun _ _ _ h => h) (Or.inr ⟨by rfl, rfl⟩) (by assumption) ?_
      simp only [Act.put]
      refine wpAnyH_take (i := 18) (v := undef) rfl (by kernel_rfl) (by kernel_rfl) (by kernel_rfl) (fun _ _ _ h => h) (Or.inr ⟨by rfl, rfl⟩) (by assumption) ?_
      simp only [Act.put]
      refine wpAnyH_take (i := 19) (v := undef) rfl (by kernel_rfl) (by kernel_rfl) (by kernel_rfl) (fun _ _ _ h => h) (Or.inr ⟨by rfl, rfl⟩) (by assumption) ?_
      simp only [Act.put]
      refine wpAnyH_take (i := 20) (v := undef) rfl (by kernel_rfl) (by kernel_rfl) (by kernel_rfl) (fun _ _ _ h => h) (Or.inr ⟨by rfl, rfl⟩) (by assumption) ?_
      simp only [Act.put]
      refine wpAnyH_take (i := 21) (v := undef) rfl (by kernel_rfl) (by kernel_rfl) (by kernel_rfl) (fun _ _ _ h => h) (Or.inr ⟨by rfl, rfl⟩) (by assumption) ?_
      simp only [Act.put]
      refine wpAnyH_take (i := 22) (v := ?_) rfl (by kernel_rfl) (by kernel_rfl) (by kernel_rfl) (fun _ _ _ h => h) (Or.inl ⟨by rfl, ?_⟩) (by assumption) ?_
      rotate_left
      · intro w hSw; (try dsimp only at hSw); go_simp; try with_reducible rfl
      simp only [Act.put, List.setIfInBounds_toArray, List.set_cons_zero, List.set_cons_succ, List.getElem_toArray, List.getElem_cons_zero, List.getElem_cons_succ]
      refine wpAnyH_take (i := 23) (v := ?_) rfl (by kernel_rfl) (by kernel_rfl) (by kernel_rfl) (fun _ _ _ h => h) (Or.inl ⟨by rfl, ?_⟩) (by assumption) ?_
      rotate_left
      · intro w hSw; (try dsimp only at hSw); go_simp; try with_reducible rfl
      simp only [Act.put, List.setIfInBounds_toArray, List.set_cons_zero, List.set_cons_succ, List.getElem_toArray, List.getElem_cons_zero, List.getElem_cons_succ]
      refine wpAnyH_take (i := 24) (v := undef) rfl (by kernel_rfl) (by kernel_rfl) (by kernel_rfl) (fun _ _ _ h => h) (Or.inr ⟨by rfl, rfl⟩) (by assumption) ?_
      simp only [Act.put, List.setIfInBounds_toArray]
      refine wpAnyH_take (i := 25) (v := undef) rfl (by kernel_rfl) (by kernel_rfl) (by kernel_rfl) (fun _ _ _ h => h) (Or.inr ⟨by rfl, rfl⟩) (by assumption) ?_
      simp only [Act.put]
      refine wpAnyH_take (i := 26) (v := undef) rfl (by kernel_rfl) (by kernel_rfl) (by kernel_rfl) (fun _ _ _ h => h) (Or.inr ⟨by rfl, rfl⟩) (by assumption) ?_
      simp only [Act.put]
      refine wpAnyH_take (i := 27) (v := ?_) rfl (by kernel_rfl) (by kernel_rfl) (by kernel_rfl) (fun _ _ _ h => h) (Or.inl ⟨by rfl, ?_⟩) (by assumption) ?_
      rotate_left
      · intro w hSw; (try dsimp only at hSw); go_simp; try with_reducible rfl
      simp only [Act.put, List.setIfInBounds_toArray, List.set_cons_zero, List.set_cons_succ, List.getElem_toArray, List.getElem_cons_zero, List.getElem_cons_succ]
      refine wpAnyH_done (by kernel_rfl) ?_ _
      clear hP0
      obtain ⟨-, -, -, -, -, -, -, -, hbV⟩ := (by assumption : HoldQ8 Wr _ w.heap.size g (ad.add (k * 2)) p q b a)
      go_wp2_with fail
      go_meet
      exact ⟨by rw [HM.out]; rfl, hbV⟩
    · rw [hgl] at kG
      have hgp : good p = true := by
        have := hgl
        simp only [goodL, List.all_cons, List.all_nil, Bool.and_true, Bool.and_eq_true] at this
        exact this.1
      rcases ho : onB a b p with _ | _
      · simp only [ho] at kN
        have hm : markB p q a b = false := by
          unfold markB
          exact decide_eq_false (fun h => by rw [ho] at h; exact absurd h.2.1 (by simp))
        clear hgl ho
        have HM := Lib.hid hm
        clear hm
        refine wp_region_held_drew (S := (fun V => V.cell? ⟨w.heap.size, 0, none⟩ = some (.int .i64 p.x) ∧ V.cell? ⟨w.heap.size, 1, none⟩ = some (.int .i64 p.y) ∧ V.cell? ⟨w.heap.size + 1, 0, none⟩ = some (.int .i64 q.x) ∧ V.cell? ⟨w.heap.size + 1, 1, none⟩ = some (.int .i64 q.y) ∧ V.cell? ⟨g, 0, none⟩ = some (.int .i64 b.x) ∧ V.cell? ⟨g, 1, none⟩ = some (.int .i64 b.y) ∧ V.cell? (ad.add (k * 2)) = some (.int .i64 a.x) ∧ V.cell? ⟨(ad.add (k * 2)).block, (ad.add (k * 2)).off + 1, none⟩ = some (.int .i64 a.y) ∧ Below Wr.heap.size Wr V)) (by kernel_rfl) ?_ (fun hHeld => ?_)
        · exact hP0
        refine wpAnyH_take (i := 0) (v := ?_) rfl (by kernel_rfl) (by kernel_rfl) (by kernel_rfl) (fun _ _ _ h => h) (Or.inl ⟨by rfl, ?_⟩) (by assumption) ?_
        rotate_left
        · intro w hSw; (try dsimp only at hSw); go_simp; try with_reducible rfl
        simp only [Act.put, List.setIfInBounds_toArray, List.set_cons_zero, List.set_cons_succ, List.getElem_toArray, List.getElem_cons_zero]
        refine wpAnyH_take (i := 1) (v := ?_) rfl (by kernel_rfl) (by kernel_rfl) (by kernel_rfl) (fun _ _ _ h => h) (Or.inl ⟨by rfl, ?_⟩) (by assumption) ?_
        rotate_left
        · intro w hSw; (try dsimp only at hSw); go_simp; try with_reducible rfl
        simp only [Act.put, List.setIfInBounds_toArray, List.set_cons_zero, List.set_cons_succ, List.getElem_toArray, List.getElem_cons_zero, List.getElem_cons_succ]
        refine wpAnyH_ready (rs := [2]) (by kernel_rfl) (by simp) ?_
        refine AllReadyH.cons rfl (fun K hK => ?_) AllReadyH.nil
        go_simp
        refine hK.out _ _ ?_ (fun hHeld => ?_)
        · exact heldQ8 hltM hP0 (show Below Wr.drew.heap.size Wr.drew (World.drew (Wr.alloc _)) from (Below.refl Wr.drew.heap.size Wr.drew).alloc (Nat.le_refl _) _)
        clear hK K
        try simp only [Act.put, List.setIfInBounds_toArray, List.set_cons_zero, List.set_cons_succ]
        refine wpAnyH_ready (rs := [3]) (by kernel_rfl) (by simp) ?_
        refine AllReadyH.cons rfl (fun K hK => ?_) AllReadyH.nil
        go_simp
        go_at_call 22
        (first | with_reducible refine (kG _ hrG).mono ?_ | refine (kG _ hrG).mono ?_)
        rintro e w' ⟨rfl, hb'⟩
        try dsimp only
        refine hK.out _ _ ?_ (fun hHeld => ?_)
        · exact heldQ8 hltM (by assumption) hb'
        clear hK K
        try simp only [Act.put, List.setIfInBounds_toArray, List.set_cons_zero, List.set_cons_succ]
        refine wpAnyH_take (i := 4) (v := ?_) rfl (by kernel_rfl) (by kernel_rfl) (by kernel_rfl) (fun _ _ _ h => h) (Or.inl ⟨by rfl, ?_⟩) (by assumption) ?_
        rotate_left
        · intro w hSw; (try dsimp only at hSw); go_simp; try with_reducible rfl
        simp only [Act.put, List.setIfInBounds_toArray, List.set_cons_zero, List.set_cons_succ, List.getElem_toArray, List.getElem_cons_zero, List.getElem_cons_succ]
        refine wpAnyH_take (i := 5) (v := ?_) rfl (by kernel_rfl) (by kernel_rfl) (by kernel_rfl) (fun _ _ _ h => h) (Or.inl ⟨by rfl, ?_⟩) (by assumption) ?_
        rotate_left
        · intro w hSw; (try dsimp only at hSw); go_simp; try with_reducible rfl
        simp only [Act.put, List.setIfInBounds_toArray, List.set_cons_zero, List.set_cons_succ, List.getElem_toArray, List.getElem_cons_zero, List.getElem_cons_succ]
        refine wpAnyH_take (i := 6) (v := ?_) rfl (by kernel_rfl) (by kernel_rfl) (by kernel_rfl) (fun _ _ _ h => h) (Or.inl ⟨by rfl, ?_⟩) (by assumption) ?_
        rotate_left
        · intro w hSw; (try dsimp only at hSw); go_simp; try with_reducible rfl
        simp only [Act.put, List.setIfInBounds_toArray, List.set_cons_zero, List.set_cons_succ, List.getElem_toArray, List.getElem_cons_zero, List.getElem_cons_succ]
        refine wpAnyH_take (i := 7) (v := ?_) rfl (by kernel_rfl) (by kernel_rfl) (by kernel_rfl) (fun _ _ _ h => h) (Or.inl ⟨by rfl, ?_⟩) (by assumption) ?_
        rotate_left
        · intro w hSw; (try dsimp only at hSw); go_simp; try with_reducible rfl
        simp only [Act.put, List.setIfInBounds_toArray, List.set_cons_zero, List.set_cons_succ, List.getElem_toArray, List.getElem_cons_zero, List.getElem_cons_succ]
        refine wpAnyH_take (i := 8) (v := ?_) rfl (by kernel_rfl) (by kernel_rfl) (by kernel_rfl) (fun _ _ _ h => h) (Or.inl ⟨by rfl, ?_⟩) (by assumption) ?_
        rotate_left
        · intro w hSw; (try dsimp only at hSw); go_simp; try with_reducible rfl
        simp only [Act.put, List.setIfInBounds_toArray, List.set_cons_zero, List.set_cons_succ, List.getElem_toArray, List.getElem_cons_zero, List.getElem_cons_succ]
        refine wpAnyH_take (i := 9) (v := ?_) rfl (by kernel_rfl) (by kernel_rfl) (by kernel_rfl) (fun _ _ _ h => h) (Or.inl ⟨by rfl, ?_⟩) (by assumption) ?_
        rotate_left
        · intro w hSw; (try dsimp only at hSw); go_simp; try with_reducible rfl
        simp only [Act.put, List.setIfInBounds_toArray, List.set_cons_zero, List.set_cons_succ, List.getElem_toArray, List.getElem_cons_zero, List.getElem_cons_succ]
        refine wpAnyH_take (i := 10) (v := ?_) rfl (by kernel_rfl) (by kernel_rfl) (by kernel_rfl) (fun _ _ _ h => h) (Or.inl ⟨by rfl, ?_⟩) (by assumption) ?_
        rotate_left
        · intro w hSw; (try dsimp only at hSw); go_simp; try with_reducible rfl
        simp only [Act.put, List.setIfInBounds_toArray, List.set_cons_zero, List.set_cons_succ, List.getElem_toArray, List.getElem_cons_zero, List.getElem_cons_succ]
        refine wpAnyH_take (i := 11) (v := ?_) rfl (by kernel_rfl) (by kernel_rfl) (by kernel_rfl) (fun _ _ _ h => h) (Or.inl ⟨by rfl, ?_⟩) (by assumption) ?_
        rotate_left
        · intro w hSw; (try dsimp only at hSw); go_simp; try with_reducible rfl
        simp only [Act.put, List.setIfInBounds_toArray, List.set_cons_zero, List.set_cons_succ, List.getElem_toArray, List.getElem_cons_zero, List.getElem_cons_succ]
        refine wpAnyH_ready (rs := [12]) (by kernel_rfl) (by simp) ?_
        refine AllReadyH.cons rfl (fun K hK => ?_) AllReadyH.nil
        go_simp
        go_at_call 24
        (with_reducible refine (kN _ hgp).mono ?_)
        rintro e w' ⟨rfl, hb'⟩
        try dsimp only
        refine hK.out _ _ ?_ (fun hHeld => ?_)
        · exact heldQ8 hltM (by assumption) hb'
        clear hK K
        try simp only [Act.put, List.setIfInBounds_toArray, List.set_cons_zero, List.set_cons_succ]
        refine wpAnyH_take (i := 13) (v := ?_) rfl (by kernel_rfl) (by kernel_rfl) (by kernel_rfl) (fun _ _ _ h => h) (Or.inl ⟨by rfl, ?_⟩) (by assumption) ?_
        rotate_left
        · intro w hSw; (try dsimp only at hSw); go_simp; try with_reducible rfl
        simp only [Act.put, List.setIfInBounds_toArray, List.set_cons_zero, List.set_cons_succ, List.getElem_toArray, List.getElem_cons_zero, List.getElem_cons_succ]
        refine wpAnyH_take (i := 14) (v := ?_) rfl (by kernel_rfl) (by kernel_rfl) (by kernel_rfl) (fun _ _ _ h => h) (Or.inl ⟨by rfl, ?_⟩) (by assumption) ?_
        rotate_left
        · intro w hSw; (try dsimp only at hSw); go_simp; try with_reducible rfl
        simp only [Act.put, List.setIfInBounds_toArray, List.set_cons_zero, List.set_cons_succ, List.getElem_toArray, List.getElem_cons_zero, List.getElem_cons_succ]
        refine wpAnyH_take (i := 15) (v := ?_) rfl (by kernel_rfl) (by kernel_rfl) (by kernel_rfl) (fun _ _ _ h => h) (Or.inl ⟨by rfl, ?_⟩) (by assumption) ?_
        rotate_left
        · intro w hSw; (try dsimp only at hSw); go_simp; try with_reducible rfl
        simp only [Act.put, List.setIfInBounds_toArray, List.set_cons_zero, List.set_cons_succ, List.getElem_toArray, List.getElem_cons_zero, List.getElem_cons_succ]
        refine wpAnyH_take (i := 16) (v := undef) rfl (by kernel_rfl) (by kernel_rfl) (by kernel_rfl) (fun _ _ _ h => h) (Or.inr ⟨by rfl, rfl⟩) (by assumption) ?_
        simp only [Act.put, List.setIfInBounds_toArray]
        refine wpAnyH_take (i := 17) (v := undef) rfl (by kernel_rfl) (by kernel_rfl) (by kernel_rfl) (fun _ _ _ h => h) (Or.inr ⟨by rfl, rfl⟩) (by assumption) ?_
        simp only [Act.put]
        refine wpAnyH_take (i := 18) (v := undef) rfl (by kernel_rfl) (by kernel_rfl) (by kernel_rfl) (fun _ _ _ h => h) (Or.inr ⟨by rfl, rfl⟩) (by assumption) ?_
        simp only [Act.put]
        refine wpAnyH_take (i := 19) (v := undef) rfl (by kernel_rfl) (by kernel_rfl) (by kernel_rfl) (fun _ _ _ h => h) (Or.inr ⟨by rfl, rfl⟩) (by assumption) ?_
        simp only [Act.put]
        refine wpAnyH_take (i := 20) (v := undef) rfl (by kernel_rfl) (by kernel_rfl) (by kernel_rfl) (fun _ _ _ h => h) (Or.inr ⟨by rfl, rfl⟩) (by assumption) ?_
        simp only [Act.put]
        refine wpAnyH_take (i := 21) (v := undef) rfl (by kernel_rfl) (by kernel_rfl) (by kernel_rfl) (fun _ _ _ h => h) (Or.inr ⟨by rfl, rfl⟩) (by assumption) ?_
        simp only [Act.put]
        refine wpAnyH_take (i := 22) (v := ?_) rfl (by kernel_rfl) (by kernel_rfl) (by kernel_rfl) (fun _ _ _ h => h) (Or.inl ⟨by rfl, ?_⟩) (by assumption) ?_
        rotate_left
        · intro w hSw; (try dsimp only at hSw); go_simp; try with_reducible rfl
        simp only [Act.put, List.setIfInBounds_toArray, List.set_cons_zero, List.set_cons_succ, List.getElem_toArray, List.getElem_cons_zero, List.getElem_cons_succ]
        refine wpAnyH_take (i := 23) (v := ?_) rfl (by kernel_rfl) (by kernel_rfl) (by kernel_rfl) (fun _ _ _ h => h) (Or.inl ⟨by rfl, ?_⟩) (by assumption) ?_
        rotate_left
        · intro w hSw; (try dsimp only at hSw); go_simp; try with_reducible rfl
        simp only [Act.put, List.setIfInBounds_toArray, List.set_cons_zero, List.set_cons_succ, List.getElem_toArray, List.getElem_cons_zero, List.getElem_cons_succ]
        refine wpAnyH_take (i := 24) (v := undef) rfl (by kernel_rfl) (by kernel_rfl) (by kernel_rfl) (fun _ _ _ h => h) (Or.inr ⟨by rfl, rfl⟩) (by assumption) ?_
        simp only [Act.put, List.setIfInBounds_toArray]
        refine wpAnyH_take (i := 25) (v := undef) rfl (by kernel_rfl) (by kernel_rfl) (by kernel_rfl) (fun _ _ _ h => h) (Or.inr ⟨by rfl, rfl⟩) (by assumption) ?_
        simp only [Act.put]
        refine wpAnyH_take (i := 26) (v := undef) rfl (by kernel_rfl) (by kernel_rfl) (by kernel_rfl) (fun _ _ _ h => h) (Or.inr ⟨by rfl, rfl⟩) (by assumption) ?_
        simp only [Act.put]
        refine wpAnyH_take (i := 27) (v := ?_) rfl (by kernel_rfl) (by kernel_rfl) (by kernel_rfl) (fun _ _ _ h => h) (Or.inl ⟨by rfl, ?_⟩) (by assumption) ?_
        rotate_left
        · intro w hSw; (try dsimp only at hSw); go_simp; try with_reducible rfl
        simp only [Act.put, List.setIfInBounds_toArray, List.set_cons_zero, List.set_cons_succ, List.getElem_toArray, List.getElem_cons_zero, List.getElem_cons_succ]
        refine wpAnyH_done (by kernel_rfl) ?_ _
        clear hP0
        obtain ⟨-, -, -, -, -, -, -, -, hbV⟩ := (by assumption : HoldQ8 Wr _ w.heap.size g (ad.add (k * 2)) p q b a)
        go_wp2_with fail
        go_meet
        exact ⟨by rw [HM.out]; rfl, hbV⟩
      · simp only [ho] at kN
        have hca : ((p.x == a.x) = true ∧ (p.y == a.y) = true ∧ p = a) ∨ ((p.x == a.x) = true ∧ (p.y == a.y) = false ∧ p ≠ a) ∨ ((p.x == a.x) = false ∧ p ≠ a) := ptEq3 p a
        have hcb' : ((p.x == b.x) = true ∧ (p.y == b.y) = true ∧ p = b) ∨ ((p.x == b.x) = true ∧ (p.y == b.y) = false ∧ p ≠ b) ∨ ((p.x == b.x) = false ∧ p ≠ b) := ptEq3 p b
        rcases hca with ⟨e1, e2, e3⟩ | ⟨e1, e2, e3⟩ | ⟨e1, e3⟩
        · have hm : markB p q a b = false := by
            unfold markB
            exact decide_eq_false (fun h => h.2.2.1 e3)
          clear hgl ho hcb' e3
          have HM := Lib.hid hm
          clear hm
          refine wp_region_held_drew (S := (fun V => V.cell? ⟨w.heap.size, 0, none⟩ = some (.int .i64 p.x) ∧ V.cell? ⟨w.heap.size, 1, none⟩ = some (.int .i64 p.y) ∧ V.cell? ⟨w.heap.size + 1, 0, none⟩ = some (.int .i64 q.x) ∧ V.cell? ⟨w.heap.size + 1, 1, none⟩ = some (.int .i64 q.y) ∧ V.cell? ⟨g, 0, none⟩ = some (.int .i64 b.x) ∧ V.cell? ⟨g, 1, none⟩ = some (.int .i64 b.y) ∧ V.cell? (ad.add (k * 2)) = some (.int .i64 a.x) ∧ V.cell? ⟨(ad.add (k * 2)).block, (ad.add (k * 2)).off + 1, none⟩ = some (.int .i64 a.y) ∧ Below Wr.heap.size Wr V)) (by kernel_rfl) ?_ (fun hHeld => ?_)
          · exact hP0
          refine wpAnyH_take (i := 0) (v := ?_) rfl (by kernel_rfl) (by kernel_rfl) (by kernel_rfl) (fun _ _ _ h => h) (Or.inl ⟨by rfl, ?_⟩) (by assumption) ?_
          rotate_left
          · intro w hSw; (try dsimp only at hSw); go_simp; try with_reducible rfl
          simp only [Act.put, List.setIfInBounds_toArray, List.set_cons_zero, List.set_cons_succ, List.getElem_toArray, List.getElem_cons_zero]
          refine wpAnyH_take (i := 1) (v := ?_) rfl (by kernel_rfl) (by kernel_rfl) (by kernel_rfl) (fun _ _ _ h => h) (Or.inl ⟨by rfl, ?_⟩) (by assumption) ?_
          rotate_left
          · intro w hSw; (try dsimp only at hSw); go_simp; try with_reducible rfl
          simp only [Act.put, List.setIfInBounds_toArray, List.set_cons_zero, List.set_cons_succ, List.getElem_toArray, List.getElem_cons_zero, List.getElem_cons_succ]
          refine wpAnyH_ready (rs := [2]) (by kernel_rfl) (by simp) ?_
          refine AllReadyH.cons rfl (fun K hK => ?_) AllReadyH.nil
          go_simp
          refine hK.out _ _ ?_ (fun hHeld => ?_)
          · exact heldQ8 hltM hP0 (show Below Wr.drew.heap.size Wr.drew (World.drew (Wr.alloc _)) from (Below.refl Wr.drew.heap.size Wr.drew).alloc (Nat.le_refl _) _)
          clear hK K
          try simp only [Act.put, List.setIfInBounds_toArray, List.set_cons_zero, List.set_cons_succ]
          refine wpAnyH_ready (rs := [3]) (by kernel_rfl) (by simp) ?_
          refine AllReadyH.cons rfl (fun K hK => ?_) AllReadyH.nil
          go_simp
          go_at_call 22
          (first | with_reducible refine (kG _ hrG).mono ?_ | refine (kG _ hrG).mono ?_)
          rintro e w' ⟨rfl, hb'⟩
          try dsimp only
          refine hK.out _ _ ?_ (fun hHeld => ?_)
          · exact heldQ8 hltM (by assumption) hb'
          clear hK K
          try simp only [Act.put, List.setIfInBounds_toArray, List.set_cons_zero, List.set_cons_succ]
          refine wpAnyH_take (i := 4) (v := ?_) rfl (by kernel_rfl) (by kernel_rfl) (by kernel_rfl) (fun _ _ _ h => h) (Or.inl ⟨by rfl, ?_⟩) (by assumption) ?_
          rotate_left
          · intro w hSw; (try dsimp only at hSw); go_simp; try with_reducible rfl
          simp only [Act.put, List.setIfInBounds_toArray, List.set_cons_zero, List.set_cons_succ, List.getElem_toArray, List.getElem_cons_zero, List.getElem_cons_succ]
          refine wpAnyH_take (i := 5) (v := ?_) rfl (by kernel_rfl) (by kernel_rfl) (by kernel_rfl) (fun _ _ _ h => h) (Or.inl ⟨by rfl, ?_⟩) (by assumption) ?_
          rotate_left
          · intro w hSw; (try dsimp only at hSw); go_simp; try with_reducible rfl
          simp only [Act.put, List.setIfInBounds_toArray, List.set_cons_zero, List.set_cons_succ, List.getElem_toArray, List.getElem_cons_zero, List.getElem_cons_succ]
          refine wpAnyH_take (i := 6) (v := ?_) rfl (by kernel_rfl) (by kernel_rfl) (by kernel_rfl) (fun _ _ _ h => h) (Or.inl ⟨by rfl, ?_⟩) (by assumption) ?_
          rotate_left
          · intro w hSw; (try dsimp only at hSw); go_simp; try with_reducible rfl
          simp only [Act.put, List.setIfInBounds_toArray, List.set_cons_zero, List.set_cons_succ, List.getElem_toArray, List.getElem_cons_zero, List.getElem_cons_succ]
          refine wpAnyH_take (i := 7) (v := ?_) rfl (by kernel_rfl) (by kernel_rfl) (by kernel_rfl) (fun _ _ _ h => h) (Or.inl ⟨by rfl, ?_⟩) (by assumption) ?_
          rotate_left
          · intro w hSw; (try dsimp only at hSw); go_simp; try with_reducible rfl
          simp only [Act.put, List.setIfInBounds_toArray, List.set_cons_zero, List.set_cons_succ, List.getElem_toArray, List.getElem_cons_zero, List.getElem_cons_succ]
          refine wpAnyH_take (i := 8) (v := ?_) rfl (by kernel_rfl) (by kernel_rfl) (by kernel_rfl) (fun _ _ _ h => h) (Or.inl ⟨by rfl, ?_⟩) (by assumption) ?_
          rotate_left
          · intro w hSw; (try dsimp only at hSw); go_simp; try with_reducible rfl
          simp only [Act.put, List.setIfInBounds_toArray, List.set_cons_zero, List.set_cons_succ, List.getElem_toArray, List.getElem_cons_zero, List.getElem_cons_succ]
          refine wpAnyH_take (i := 9) (v := ?_) rfl (by kernel_rfl) (by kernel_rfl) (by kernel_rfl) (fun _ _ _ h => h) (Or.inl ⟨by rfl, ?_⟩) (by assumption) ?_
          rotate_left
          · intro w hSw; (try dsimp only at hSw); go_simp; try with_reducible rfl
          simp only [Act.put, List.setIfInBounds_toArray, List.set_cons_zero, List.set_cons_succ, List.getElem_toArray, List.getElem_cons_zero, List.getElem_cons_succ]
          refine wpAnyH_take (i := 10) (v := ?_) rfl (by kernel_rfl) (by kernel_rfl) (by kernel_rfl) (fun _ _ _ h => h) (Or.inl ⟨by rfl, ?_⟩) (by assumption) ?_
          rotate_left
          · intro w hSw; (try dsimp only at hSw); go_simp; try with_reducible rfl
          simp only [Act.put, List.setIfInBounds_toArray, List.set_cons_zero, List.set_cons_succ, List.getElem_toArray, List.getElem_cons_zero, List.getElem_cons_succ]
          refine wpAnyH_take (i := 11) (v := ?_) rfl (by kernel_rfl) (by kernel_rfl) (by kernel_rfl) (fun _ _ _ h => h) (Or.inl ⟨by rfl, ?_⟩) (by assumption) ?_
          rotate_left
          · intro w hSw; (try dsimp only at hSw); go_simp; try with_reducible rfl
          simp only [Act.put, List.setIfInBounds_toArray, List.set_cons_zero, List.set_cons_succ, List.getElem_toArray, List.getElem_cons_zero, List.getElem_cons_succ]
          refine wpAnyH_ready (rs := [12]) (by kernel_rfl) (by simp) ?_
          refine AllReadyH.cons rfl (fun K hK => ?_) AllReadyH.nil
          go_simp
          go_at_call 24
          (with_reducible refine (kN _ hgp).mono ?_)
          rintro e w' ⟨rfl, hb'⟩
          try dsimp only
          refine hK.out _ _ ?_ (fun hHeld => ?_)
          · exact heldQ8 hltM (by assumption) hb'
          clear hK K
          try simp only [Act.put, List.setIfInBounds_toArray, List.set_cons_zero, List.set_cons_succ]
          refine wpAnyH_take (i := 13) (v := ?_) rfl (by kernel_rfl) (by kernel_rfl) (by kernel_rfl) (fun _ _ _ h => h) (Or.inl ⟨by rfl, ?_⟩) (by assumption) ?_
          rotate_left
          · intro w hSw; (try dsimp only at hSw); go_simp; try with_reducible rfl
          simp only [Act.put, List.setIfInBounds_toArray, List.set_cons_zero, List.set_cons_succ, List.getElem_toArray, List.getElem_cons_zero, List.getElem_cons_succ]
          refine wpAnyH_take (i := 14) (v := ?_) rfl (by kernel_rfl) (by kernel_rfl) (by kernel_rfl) (fun _ _ _ h => h) (Or.inl ⟨by rfl, ?_⟩) (by assumption) ?_
          rotate_left
          · intro w hSw; (try dsimp only at hSw); go_simp; try with_reducible rfl
          simp only [Act.put, List.setIfInBounds_toArray, List.set_cons_zero, List.set_cons_succ, List.getElem_toArray, List.getElem_cons_zero, List.getElem_cons_succ]
          refine wpAnyH_take (i := 15) (v := ?_) rfl (by kernel_rfl) (by kernel_rfl) (by kernel_rfl) (fun _ _ _ h => h) (Or.inl ⟨by rfl, ?_⟩) (by assumption) ?_
          rotate_left
          · intro w hSw; (try dsimp only at hSw); go_simp; try with_reducible rfl
          simp only [Act.put, List.setIfInBounds_toArray, List.set_cons_zero, List.set_cons_succ, List.getElem_toArray, List.getElem_cons_zero, List.getElem_cons_succ]
          refine wpAnyH_take (i := 16) (v := ?_) rfl (by kernel_rfl) (by kernel_rfl) (by kernel_rfl) (fun _ _ _ h => h) (Or.inl ⟨by rfl, ?_⟩) (by assumption) ?_
          rotate_left
          · intro w hSw; (try dsimp only at hSw); go_simp; try with_reducible rfl
          simp only [Act.put, List.setIfInBounds_toArray, List.set_cons_zero, List.set_cons_succ, List.getElem_toArray, List.getElem_cons_zero, List.getElem_cons_succ]
          refine wpAnyH_take (i := 17) (v := ?_) rfl (by kernel_rfl) (by kernel_rfl) (by kernel_rfl) (fun _ _ _ h => h) (Or.inl ⟨by rfl, ?_⟩) (by assumption) ?_
          rotate_left
          · intro w hSw; (try dsimp only at hSw); go_simp; try with_reducible rfl
          simp only [Act.put, List.setIfInBounds_toArray, List.set_cons_zero, List.set_cons_succ, List.getElem_toArray, List.getElem_cons_zero, List.getElem_cons_succ]
          refine wpAnyH_take (i := 18) (v := ?_) rfl (by kernel_rfl) (by kernel_rfl) (by kernel_rfl) (fun _ _ _ h => h) (Or.inl ⟨by rfl, ?_⟩) (by assumption) ?_
          rotate_left
          · intro w hSw; (try dsimp only at hSw); go_simp; try with_reducible rfl
          simp only [Act.put, List.setIfInBounds_toArray, List.set_cons_zero, List.set_cons_succ, List.getElem_toArray, List.getElem_cons_zero, List.getElem_cons_succ]
          refine wpAnyH_take (i := 19) (v := ?_) rfl (by kernel_rfl) (by kernel_rfl) (by kernel_rfl) (fun _ _ _ h => h) (Or.inl ⟨by rfl, ?_⟩) (by assumption) ?_
          rotate_left
          · intro w hSw; (try dsimp only at hSw); go_simp; try with_reducible rfl
          simp only [Act.put, List.setIfInBounds_toArray, List.set_cons_zero, List.set_cons_succ, List.getElem_toArray, List.getElem_cons_zero, List.getElem_cons_succ]
          refine wpAnyH_take (i := 20) (v := ?_) rfl (by kernel_rfl) (by kernel_rfl) (by kernel_rfl) (fun _ _ _ h => h) (Or.inl ⟨by rfl, ?_⟩) (by assumption) ?_
          rotate_left
          · intro w hSw; (try dsimp only at hSw); go_simp; try with_reducible rfl
          simp only [Act.put, List.setIfInBounds_toArray, List.set_cons_zero, List.set_cons_succ, List.getElem_toArray, List.getElem_cons_zero, List.getElem_cons_succ]
          refine wpAnyH_take (i := 21) (v := ?_) rfl (by kernel_rfl) (by kernel_rfl) (by kernel_rfl) (fun _ _ _ h => h) (Or.inl ⟨by rfl, ?_⟩) (by assumption) ?_
          rotate_left
          · intro w hSw; (try dsimp only at hSw); go_simp; try with_reducible rfl
          simp only [Act.put, List.setIfInBounds_toArray, List.set_cons_zero, List.set_cons_succ, List.getElem_toArray, List.getElem_cons_zero, List.getElem_cons_succ]
          refine wpAnyH_take (i := 22) (v := ?_) rfl (by kernel_rfl) (by kernel_rfl) (by kernel_rfl) (fun _ _ _ h => h) (Or.inl ⟨by rfl, ?_⟩) (by assumption) ?_
          rotate_left
          · intro w hSw; (try dsimp only at hSw); go_simp; try with_reducible rfl
          simp only [Act.put, List.setIfInBounds_toArray, List.set_cons_zero, List.set_cons_succ, List.getElem_toArray, List.getElem_cons_zero, List.getElem_cons_succ]
          refine wpAnyH_take (i := 23) (v := ?_) rfl (by kernel_rfl) (by kernel_rfl) (by kernel_rfl) (fun _ _ _ h => h) (Or.inl ⟨by rfl, ?_⟩) (by assumption) ?_
          rotate_left
          · intro w hSw; (try dsimp only at hSw); go_simp; try with_reducible rfl
          simp only [Act.put, List.setIfInBounds_toArray, List.set_cons_zero, List.set_cons_succ, List.getElem_toArray, List.getElem_cons_zero, List.getElem_cons_succ]
          refine wpAnyH_take (i := 24) (v := undef) rfl (by kernel_rfl) (by kernel_rfl) (by kernel_rfl) (fun _ _ _ h => h) (Or.inr ⟨by rfl, rfl⟩) (by assumption) ?_
          simp only [Act.put, List.setIfInBounds_toArray]
          refine wpAnyH_take (i := 25) (v := undef) rfl (by kernel_rfl) (by kernel_rfl) (by kernel_rfl) (fun _ _ _ h => h) (Or.inr ⟨by rfl, rfl⟩) (by assumption) ?_
          simp only [Act.put]
          refine wpAnyH_take (i := 26) (v := undef) rfl (by kernel_rfl) (by kernel_rfl) (by kernel_rfl) (fun _ _ _ h => h) (Or.inr ⟨by rfl, rfl⟩) (by assumption) ?_
          simp only [Act.put]
          refine wpAnyH_take (i := 27) (v := ?_) rfl (by kernel_rfl) (by kernel_rfl) (by kernel_rfl) (fun _ _ _ h => h) (Or.inl ⟨by rfl, ?_⟩) (by assumption) ?_
          rotate_left
          · intro w hSw; (try dsimp only at hSw); go_simp; try with_reducible rfl
          simp only [Act.put, List.setIfInBounds_toArray, List.set_cons_zero, List.set_cons_succ, List.getElem_toArray, List.getElem_cons_zero, List.getElem_cons_succ]
          refine wpAnyH_done (by kernel_rfl) ?_ _
          clear hP0
          obtain ⟨-, -, -, -, -, -, -, -, hbV⟩ := (by assumption : HoldQ8 Wr _ w.heap.size g (ad.add (k * 2)) p q b a)
          go_wp2_with fail
          go_meet
          exact ⟨by rw [HM.out]; rfl, hbV⟩
        · rcases hcb' with ⟨e4, e5, e6⟩ | ⟨e4, e5, e6⟩ | ⟨e4, e6⟩
          · have hm : markB p q a b = false := by
              unfold markB
              exact decide_eq_false (fun h => h.2.2.2 e6)
            clear hgl ho e3 e6
            have HM := Lib.hid hm
            clear hm
            go_region_held3 (fun V => V.cell? ⟨w.heap.size, 0, none⟩ = some (.int .i64 p.x) ∧ V.cell? ⟨w.heap.size, 1, none⟩ = some (.int .i64 p.y) ∧ V.cell? ⟨w.heap.size + 1, 0, none⟩ = some (.int .i64 q.x) ∧ V.cell? ⟨w.heap.size + 1, 1, none⟩ = some (.int .i64 q.y) ∧ V.cell? ⟨g, 0, none⟩ = some (.int .i64 b.x) ∧ V.cell? ⟨g, 1, none⟩ = some (.int .i64 b.y) ∧ V.cell? (ad.add (k * 2)) = some (.int .i64 a.x) ∧ V.cell? ⟨(ad.add (k * 2)).block, (ad.add (k * 2)).off + 1, none⟩ = some (.int .i64 a.y) ∧ Below Wr.heap.size Wr V)
              (first | with_reducible exact hP0 | with_reducible exact heldQ8 hltM (by assumption) (by assumption) | exact heldQ8 hltM hP0 (show Below Wr.drew.heap.size Wr.drew (World.drew (Wr.alloc _)) from (Below.refl Wr.drew.heap.size Wr.drew).alloc (Nat.le_refl _) _))
              (first
                | (go_simp; go_at_call 22; (first | with_reducible refine (kG _ hrG).mono ?_ | (trace_state; fail)); rintro e w' ⟨rfl, hb'⟩; try dsimp only)
                | (go_simp; go_at_call 24; (with_reducible refine (kN _ hgp).mono ?_); rintro e w' ⟨rfl, hb'⟩; try dsimp only))
            all_goals
              clear hP0
              obtain ⟨-, -, -, -, -, -, -, -, hbV⟩ := (by assumption : HoldQ8 Wr _ w.heap.size g (ad.add (k * 2)) p q b a)
              go_wp2_with fail
              go_meet
              exact ⟨by rw [HM.out]; rfl, hbV⟩
          · have hm : markB p q a b = true := by
              unfold markB
              exact decide_eq_true ⟨hgl, ho, e3, e6⟩
            clear hgl ho e3 e6
            have HM := Lib.hid hm
            clear hm
            go_region_held3 (fun V => V.cell? ⟨w.heap.size, 0, none⟩ = some (.int .i64 p.x) ∧ V.cell? ⟨w.heap.size, 1, none⟩ = some (.int .i64 p.y) ∧ V.cell? ⟨w.heap.size + 1, 0, none⟩ = some (.int .i64 q.x) ∧ V.cell? ⟨w.heap.size + 1, 1, none⟩ = some (.int .i64 q.y) ∧ V.cell? ⟨g, 0, none⟩ = some (.int .i64 b.x) ∧ V.cell? ⟨g, 1, none⟩ = some (.int .i64 b.y) ∧ V.cell? (ad.add (k * 2)) = some (.int .i64 a.x) ∧ V.cell? ⟨(ad.add (k * 2)).block, (ad.add (k * 2)).off + 1, none⟩ = some (.int .i64 a.y) ∧ Below Wr.heap.size Wr V)
              (first | with_reducible exact hP0 | with_reducible exact heldQ8 hltM (by assumption) (by assumption) | exact heldQ8 hltM hP0 (show Below Wr.drew.heap.size Wr.drew (World.drew (Wr.alloc _)) from (Below.refl Wr.drew.heap.size Wr.drew).alloc (Nat.le_refl _) _))
              (first
                | (go_simp; go_at_call 22; (first | with_reducible refine (kG _ hrG).mono ?_ | (trace_state; fail)); rintro e w' ⟨rfl, hb'⟩; try dsimp only)
                | (go_simp; go_at_call 24; (with_reducible refine (kN _ hgp).mono ?_); rintro e w' ⟨rfl, hb'⟩; try dsimp only))
            all_goals
              clear hP0
              obtain ⟨-, -, -, -, -, -, -, -, hbV⟩ := (by assumption : HoldQ8 Wr _ w.heap.size g (ad.add (k * 2)) p q b a)
              go_wp2_with fail
              go_meet
              exact ⟨by rw [HM.out]; rfl, hbV⟩
          · have hm : markB p q a b = true := by
              unfold markB
              exact decide_eq_true ⟨hgl, ho, e3, e6⟩
            clear hgl ho e3 e6
            have HM := Lib.hid hm
            clear hm
            go_region_held3 (fun V => V.cell? ⟨w.heap.size, 0, none⟩ = some (.int .i64 p.x) ∧ V.cell? ⟨w.heap.size, 1, none⟩ = some (.int .i64 p.y) ∧ V.cell? ⟨w.heap.size + 1, 0, none⟩ = some (.int .i64 q.x) ∧ V.cell? ⟨w.heap.size + 1, 1, none⟩ = some (.int .i64 q.y) ∧ V.cell? ⟨g, 0, none⟩ = some (.int .i64 b.x) ∧ V.cell? ⟨g, 1, none⟩ = some (.int .i64 b.y) ∧ V.cell? (ad.add (k * 2)) = some (.int .i64 a.x) ∧ V.cell? ⟨(ad.add (k * 2)).block, (ad.add (k * 2)).off + 1, none⟩ = some (.int .i64 a.y) ∧ Below Wr.heap.size Wr V)
              (first | with_reducible exact hP0 | with_reducible exact heldQ8 hltM (by assumption) (by assumption) | exact heldQ8 hltM hP0 (show Below Wr.drew.heap.size Wr.drew (World.drew (Wr.alloc _)) from (Below.refl Wr.drew.heap.size Wr.drew).alloc (Nat.le_refl _) _))
              (first
                | (go_simp; go_at_call 22; (first | with_reducible refine (kG _ hrG).mono ?_ | (trace_state; fail)); rintro e w' ⟨rfl, hb'⟩; try dsimp only)
                | (go_simp; go_at_call 24; (with_reducible refine (kN _ hgp).mono ?_); rintro e w' ⟨rfl, hb'⟩; try dsimp only))
            all_goals
              clear hP0
              obtain ⟨-, -, -, -, -, -, -, -, hbV⟩ := (by assumption : HoldQ8 Wr _ w.heap.size g (ad.add (k * 2)) p q b a)
              go_wp2_with fail
              go_meet
              exact ⟨by rw [HM.out]; rfl, hbV⟩
        · rcases hcb' with ⟨e4, e5, e6⟩ | ⟨e4, e5, e6⟩ | ⟨e4, e6⟩
          · have hm : markB p q a b = false := by
              unfold markB
              exact decide_eq_false (fun h => h.2.2.2 e6)
            clear hgl ho e3 e6
            have HM := Lib.hid hm
            clear hm
            go_region_held3 (fun V => V.cell? ⟨w.heap.size, 0, none⟩ = some (.int .i64 p.x) ∧ V.cell? ⟨w.heap.size, 1, none⟩ = some (.int .i64 p.y) ∧ V.cell? ⟨w.heap.size + 1, 0, none⟩ = some (.int .i64 q.x) ∧ V.cell? ⟨w.heap.size + 1, 1, none⟩ = some (.int .i64 q.y) ∧ V.cell? ⟨g, 0, none⟩ = some (.int .i64 b.x) ∧ V.cell? ⟨g, 1, none⟩ = some (.int .i64 b.y) ∧ V.cell? (ad.add (k * 2)) = some (.int .i64 a.x) ∧ V.cell? ⟨(ad.add (k * 2)).block, (ad.add (k * 2)).off + 1, none⟩ = some (.int .i64 a.y) ∧ Below Wr.heap.size Wr V)
              (first | with_reducible exact hP0 | with_reducible exact heldQ8 hltM (by assumption) (by assumption) | exact heldQ8 hltM hP0 (show Below Wr.drew.heap.size Wr.drew (World.drew (Wr.alloc _)) from (Below.refl Wr.drew.heap.size Wr.drew).alloc (Nat.le_refl _) _))
              (first
                | (go_simp; go_at_call 22; (first | with_reducible refine (kG _ hrG).mono ?_ | (trace_state; fail)); rintro e w' ⟨rfl, hb'⟩; try dsimp only)
                | (go_simp; go_at_call 24; (with_reducible refine (kN _ hgp).mono ?_); rintro e w' ⟨rfl, hb'⟩; try dsimp only))
            all_goals
              clear hP0
              obtain ⟨-, -, -, -, -, -, -, -, hbV⟩ := (by assumption : HoldQ8 Wr _ w.heap.size g (ad.add (k * 2)) p q b a)
              go_wp2_with fail
              go_meet
              exact ⟨by rw [HM.out]; rfl, hbV⟩
          · have hm : markB p q a b = true := by
              unfold markB
              exact decide_eq_true ⟨hgl, ho, e3, e6⟩
            clear hgl ho e3 e6
            have HM := Lib.hid hm
            clear hm
            go_region_held3 (fun V => V.cell? ⟨w.heap.size, 0, none⟩ = some (.int .i64 p.x) ∧ V.cell? ⟨w.heap.size, 1, none⟩ = some (.int .i64 p.y) ∧ V.cell? ⟨w.heap.size + 1, 0, none⟩ = some (.int .i64 q.x) ∧ V.cell? ⟨w.heap.size + 1, 1, none⟩ = some (.int .i64 q.y) ∧ V.cell? ⟨g, 0, none⟩ = some (.int .i64 b.x) ∧ V.cell? ⟨g, 1, none⟩ = some (.int .i64 b.y) ∧ V.cell? (ad.add (k * 2)) = some (.int .i64 a.x) ∧ V.cell? ⟨(ad.add (k * 2)).block, (ad.add (k * 2)).off + 1, none⟩ = some (.int .i64 a.y) ∧ Below Wr.heap.size Wr V)
              (first | with_reducible exact hP0 | with_reducible exact heldQ8 hltM (by assumption) (by assumption) | exact heldQ8 hltM hP0 (show Below Wr.drew.heap.size Wr.drew (World.drew (Wr.alloc _)) from (Below.refl Wr.drew.heap.size Wr.drew).alloc (Nat.le_refl _) _))
              (first
                | (go_simp; go_at_call 22; (first | with_reducible refine (kG _ hrG).mono ?_ | (trace_state; fail)); rintro e w' ⟨rfl, hb'⟩; try dsimp only)
                | (go_simp; go_at_call 24; (with_reducible refine (kN _ hgp).mono ?_); rintro e w' ⟨rfl, hb'⟩; try dsimp only))
            all_goals
              clear hP0
              obtain ⟨-, -, -, -, -, -, -, -, hbV⟩ := (by assumption : HoldQ8 Wr _ w.heap.size g (ad.add (k * 2)) p q b a)
              go_wp2_with fail
              go_meet
              exact ⟨by rw [HM.out]; rfl, hbV⟩
          · have hm : markB p q a b = true := by
              unfold markB
              exact decide_eq_true ⟨hgl, ho, e3, e6⟩
            clear hgl ho e3 e6
            have HM := Lib.hid hm
            clear hm
            go_region_held3 (fun V => V.cell? ⟨w.heap.size, 0, none⟩ = some (.int .i64 p.x) ∧ V.cell? ⟨w.heap.size, 1, none⟩ = some (.int .i64 p.y) ∧ V.cell? ⟨w.heap.size + 1, 0, none⟩ = some (.int .i64 q.x) ∧ V.cell? ⟨w.heap.size + 1, 1, none⟩ = some (.int .i64 q.y) ∧ V.cell? ⟨g, 0, none⟩ = some (.int .i64 b.x) ∧ V.cell? ⟨g, 1, none⟩ = some (.int .i64 b.y) ∧ V.cell? (ad.add (k * 2)) = some (.int .i64 a.x) ∧ V.cell? ⟨(ad.add (k * 2)).block, (ad.add (k * 2)).off + 1, none⟩ = some (.int .i64 a.y) ∧ Below Wr.heap.size Wr V)
              (first | with_reducible exact hP0 | with_reducible exact heldQ8 hltM (by assumption) (by assumption) | exact heldQ8 hltM hP0 (show Below Wr.drew.heap.size Wr.drew (World.drew (Wr.alloc _)) from (Below.refl Wr.drew.heap.size Wr.drew).alloc (Nat.le_refl _) _))
              (first
                | (go_simp; go_at_call 22; (first | with_reducible refine (kG _ hrG).mono ?_ | (trace_state; fail)); rintro e w' ⟨rfl, hb'⟩; try dsimp only)
                | (go_simp; go_at_call 24; (with_reducible refine (kN _ hgp).mono ?_); rintro e w' ⟨rfl, hb'⟩; try dsimp only))
            all_goals
              clear hP0
              obtain ⟨-, -, -, -, -, -, -, -, hbV⟩ := (by assumption : HoldQ8 Wr _ w.heap.size g (ad.add (k * 2)) p q b a)
              go_wp2_with fail
              go_meet
              exact ⟨by rw [HM.out]; rfl, hbV⟩
  case rest =>
    obtain ⟨rfl, hbV⟩ := hcut
    have H5 := Lib.hid (HR.out.1.on hbV)
    clear hbV hP0 hltM kG hrG kN HR
    rcases hm : markB p q a b with _ | _
    · have HB := Lib.hid H5.out.1
      clear H5 hm
      go_wp2_with fail
      go_ret
      exact ⟨rfl, HB.out⟩
    · have hm4 : goodL [p, q] = true ∧ onB a b p = true ∧ p ≠ a ∧ p ≠ b := by
        unfold markB at hm
        exact of_decide_eq_true hm
      clear hm
      have hgpq : good p = true ∧ good q = true := by
        have := hm4.1
        simp only [goodL, List.all_cons, List.all_nil, Bool.and_true, Bool.and_eq_true] at this
        exact this
      obtain ⟨hc2, ha1, ha2, haV, hs1, hs2, hsV⟩ := HG.out.2.2.1 hgpq.1 hgpq.2 hm4.2.1 hm4.2.2.1 hm4.2.2.2
      obtain ⟨ys, hys⟩ : ∃ ys, ys = mark k p xs := ⟨_, rfl⟩
      have hyg : goodL ys = true := by rw [hys]; exact mark_good HG.out.2.2.2.2.1 hgpq.1
      have hyI : ∀ r ∈ ys, r.inI := fun r hr => by
        have := (good_iff r).1 (List.all_eq_true.1 hyg r hr)
        unfold Pt.inI
        omega
      have hyl : ys.length = n + 1 := by rw [hys, mark_len (by have := HX.out.1; omega), HX.out.1]
      rw [← hys] at hc2 ha2 haV hs2 hsV
      have kA1 := HZ.out.2.1
      have kS1 := HZ.out.2.2
      rw [ha1] at kA1
      rw [hs1] at kS1
      have kA2 : ∀ V A' c, Reads V V.heap.size 2 A' (n + 1) (ptsV ys) → Calls Try.prog 15 #[.slice A' (n + 1) c] V fun e V' => e = .returned (.tuple #[i128 (areaV xs), .int .i64 0]) ∧ Below V.heap.size V V' := fun V A' c h => by have := area_any ys A' (n + 1) c V h (by omega) hyI; rw [ha2, haV] at this; exact this
      have kC2 : ∀ V A' c, Reads V V.heap.size 2 A' (n + 1) (ptsV ys) → Calls Try.prog 19 #[.slice A' (n + 1) c] V fun e V' => e = .returned (.int .i64 0) ∧ Below V.heap.size V V' := fun V A' c h => by have := check_any ys A' (n + 1) c V h (by omega) hyI; rw [hc2] at this; exact this
      have kS2 : ∀ V A' c, Reads V V.heap.size 2 A' (n + 1) (ptsV ys) → Calls Try.prog 21 #[.slice A' (n + 1) c, .agg #[.int .i64 q.x, .int .i64 q.y]] V fun e V' => e = .returned (.tuple #[.int .i64 (sideV xs q), .int .i64 0]) ∧ Below V.heap.size V V' := fun V A' c h => by have := sideW_any ys q A' (n + 1) c V h (by omega) hyI HX.out.2.2.2; rw [hs2, hsV] at this; exact this
      unfold i128 at kA1 kA2
      generalize areaV xs = z at *
      generalize sideV xs q = sv at *
      generalize z / 18446744073709551616 = z1 at *
      generalize z % 18446744073709551616 = z2 at *
      have HK := Lib.hid (And.intro kA1 (And.intro kA2 (And.intro kC2 (And.intro kS1 kS2))))
      have HYS := Lib.hid hys
      clear kA1 kA2 kC2 kS1 kS2 hc2 ha1 ha2 haV hs1 hs2 hsV hys hyg hyI hm4 hgpq HZ HC
      obtain ⟨k1, hk1⟩ : ∃ k1, k1 = k + 1 := ⟨_, rfl⟩
      have hwk1' : IntKind.i64.wrap ((k : Int) + 1) = (k1 : Int) := by rw [hwk1]; omega
      have hk1n : k1 ≤ n := by omega
      have hle1 : (k1 : Int) ≤ (n : Int) := by omega
      have hle2 : (n : Int) ≤ (cap : Int) := by omega
      have hle3 : (k1 : Int) ≤ (cap : Int) := by omega
      have HK1 := Lib.hid hk1
      clear hwk1 hk1
      go_wp2_with fail
      refine wp_named_ fun Wt hWt => ?_
      have HR := Lib.hid (show FM w p q Wt by rw [hWt]; exact H5.out)
      clear hWt H5
      have hrA := Reads.takePt (HO.out.2 _ HR.out.1.drew) (k := k1) hk1n
      have kOB : ∀ V, Below Wt.drew.heap.size Wt.drew V → Calls Try.prog 16 #[.slice (some ad) k1 cap] V fun e V' => ∃ A' c, e = .returned (.slice A' k1 c) ∧ V'.ownsRow Wt.drew.heap.size 35 2 (.slice A' k1 c) k1 (ptsV (xs.take k1)) ∧ Below V.heap.size V V' := fun V hV =>
        (own03_any (xs.take k1) (some ad) k1 cap V ((hrA.below hV).more hV.size) (by omega)).mono fun e V' ⟨A', c, h1, h2, h3⟩ => ⟨A', c, h1, own_mono h2 hV.size, h3⟩
      have hlt : w.heap.size < Wt.heap.size := HR.out.c0.2.2
      have hP0 : HoldP1 Wt Wt.drew w.heap.size p := ⟨HR.out.c0.1, HR.out.c0.2.1, (Below.refl _ _).drew⟩
      have hBr : ∀ V, Below Wt.drew.heap.size Wt.drew V → Below Wt.heap.size Wt V := fun V hV => below_on (Below.refl _ _).drew (Nat.le_refl _) hV
      go_cut [11] (fun s wx => ∃ A2 c2, s = .slice A2 (k1 + 1) c2 ∧ wx.ownsRow Wt.drew.heap.size 35 2 (.slice A2 (k1 + 1) c2) (k1 + 1) (ptsV (xs.take k1 ++ [p])) ∧ Below Wt.heap.size Wt wx)
      case first =>
        go_region_held3 (fun V => V.cell? ⟨w.heap.size, 0, none⟩ = some (.int .i64 p.x) ∧ V.cell? ⟨w.heap.size, 1, none⟩ = some (.int .i64 p.y) ∧ Below Wt.heap.size Wt V)
          (first | with_reducible exact hP0 | with_reducible exact hS3 | with_reducible exact heldP1 hlt (by assumption) (by assumption) | with_reducible exact heldP1 hlt (by assumption) ((Below.refl _ _).alloc (Nat.le_refl _) _) | exact heldP1 hlt hP0 (show Below Wt.drew.heap.size Wt.drew (World.drew (Wt.alloc _)) from (Below.refl Wt.drew.heap.size Wt.drew).alloc (Nat.le_refl _) _))
          (first
            | (go_simp; go_at_call 16; (with_reducible refine (kOB _ (Below.refl _ _)).mono ?_); rintro e w' ⟨A1, c1, rfl, ho1, hb'⟩; try dsimp only)
            | (go_simp; go_at_call 16; (refine (kOB _ (show Below Wt.drew.heap.size Wt.drew (World.drew (Wt.alloc _)) from (Below.refl Wt.drew.heap.size Wt.drew).alloc (Nat.le_refl _) _)).mono ?_); rintro e w' ⟨A1, c1, rfl, ho1, hb''⟩; have hb' : Below Wt.drew.heap.size Wt.drew w' := ((Below.refl Wt.drew.heap.size Wt.drew).alloc (Nat.le_refl _) (.cells #[.int .i64 p.x, .int .i64 p.y] 35)).trans (hb''.mono (by simp)); try dsimp only)
            | ((refine step_append_any _ (by rfl) (.tmp 79) (.tmp 81) _ (by rfl) Wt.drew.heap.size 35 i0 _ 2 16 Try.underlying23 hi0 hz0 hz1 hz2 (by rfl) (by omega) (.slice A1 k1 c1) k1 _ (by rfl) (ho1.alloc _) (w'.alloc (.cells #[.int .i64 p.x, .int .i64 p.y] 35)).heap.size (some ⟨w'.heap.size, 0, none⟩) 1 1 (ptsV [p]) (by rfl) (reads_onePt w' p _ rfl) (ptsV_one _) (by simp only [maxLen]; omega) (by omega) (Nat.le_trans hb'.size (by simp)) ?_); intro v2 wa hown2 hg2 hat2; have hB2 : Below Wt.drew.heap.size Wt.drew wa := (hb'.alloc hb'.size _).grown hg2 (Nat.le_trans hb'.size (by simp)) (fun g hg => (ho1.lt g hg).1); rw [← ptsV_append] at hown2; obtain ⟨A2, c2, rfl⟩ := own_form hown2; have hS3 := heldP1 hlt hP0 hB2; try dsimp only)
            | ((refine step_append_any _ (by rfl) (.tmp 79) (.tmp 81) _ (by rfl) Wt.drew.heap.size 35 i0 _ 2 16 Try.underlying23 hi0 hz0 hz1 hz2 (by rfl) (by omega) (.slice A1 k1 c1) k1 _ (by rfl) ho1 w'.heap.size (some ⟨Wt.heap.size, 0, none⟩) 1 1 (ptsV [p]) (by rfl) (Reads.on (reads_onePt Wt.drew p _ rfl) hb'') (ptsV_one _) (by simp only [maxLen]; omega) (by omega) hb'.size ?_); intro v2 wa hown2 hg2 hat2; have hB2 : Below Wt.drew.heap.size Wt.drew wa := hb'.grown hg2 hb'.size (fun g hg => (ho1.lt g hg).1); rw [← ptsV_append] at hown2; obtain ⟨A2, c2, rfl⟩ := own_form hown2; have hS3 := heldP1 hlt hP0 hB2; try dsimp only))
        all_goals
          clear hP0
          go_wp2_with fail
          go_meet
          exact ⟨_, _, rfl, hown2, hBr _ hB2⟩
      case rest =>
        obtain ⟨A2, c2, rfl, hown, hB⟩ := hcut
        have H6 := Lib.hid (HR.out.on hB)
        clear hP0 hlt hBr kOB hrA
        by_cases hck : cap = k1
        · have hnc : n = cap := by omega
          subst hck
          subst hnc
          have hrd := Reads.dropPt (HO.out.2 _ H6.out.1) (k := n) (Nat.le_refl _) hcap
          rw [if_pos rfl] at hrd
          go_wp2_with (at_builtin; refine wpList_append_any _ rfl (.tmp 83) (.tmp 87) _ rfl Wt.drew.heap.size 35 i0 _ 2 16 Try.underlying23 hi0 hz0 hz1 hz2 rfl (by omega) (.slice A2 (n + 1) c2) (n + 1) _ rfl hown wc.heap.size _ _ _ (ptsV (xs.drop n)) rfl (by simpa using hrd) (ptsV_one _) (by simp only [maxLen]; omega) (by omega) hB.size ?_
                       intro v7 w7 hown7 hg7 hat7)
          rw [← ptsV_append] at hown7
          try rw [Nat.sub_self] at hown7
          rw [Nat.add_zero] at hown7
          have hB7 : Below Wt.heap.size Wt w7 := hB.grown hg7 hB.size (fun g hg => (hown.lt g hg).1)
          obtain ⟨A7, c7, rfl⟩ := own_form hown7
          have hY : Reads w7 w7.heap.size 2 A7 (n + 1) (ptsV ys) := by
            rw [HYS.out]
            unfold mark
            rw [← HK1.out]
            exact Reads.of_own hown7
          have H7 := Lib.hid (show FX w p q ys (n + 1) A7 w7 from ⟨HR.out.on hB7, hY⟩)
          clear hY hB7 hown7 hg7 hat7 hown hB H6 HR hrd
          with_reducible refine (HO.out.1 _ _ _ _ _ hn (HO.out.2 _ H7.out.1.1)).mono ?_
          rintro e v8 ⟨A8, c8, rfl, hr8, hb8⟩
          have H8 := Lib.hid (And.intro hr8 (FX.on H7.out hb8))
          clear hr8 hb8 H7
          go_wp2_with fail
          with_reducible refine (HK.out.1 _ _ _ H8.out.1).mono ?_
          rintro e v9 ⟨rfl, hb9⟩
          have H9 := Lib.hid (FX.on H8.out.2 hb9)
          clear hb9 H8
          obtain ⟨g1, hg1⟩ : ∃ g1, g1 = v9.heap.size := ⟨_, rfl⟩
          have hX : FY w p q ys (n + 1) A7 z1 z2 g1 (v9.alloc (.cells #[.int .i64 z1, .int .u64 z2] 26)) := by
            rw [hg1]
            exact ⟨FX.on H9.out ((Below.refl _ _).alloc (Nat.le_refl _) _), Blk.new v9 _ _⟩
          have H10 := Lib.hid hX
          clear hX H9
          go_wp2_with fail
          rw [← hg1]
          generalize v9.alloc (.cells #[.int .i64 z1, .int .u64 z2] 26) = v10 at *
          clear hg1
          with_reducible refine (HO.out.1 _ _ _ _ _ (by omega) H10.out.1.2).mono ?_
          rintro e v11 ⟨A11, c11, rfl, hr11, hb11⟩
          have H11 := Lib.hid (And.intro hr11 (FY.on H10.out hb11))
          clear hr11 hb11 H10
          go_wp2_with fail
          with_reducible refine (HK.out.2.1 _ _ _ H11.out.1).mono ?_
          rintro e v12 ⟨rfl, hb12⟩
          have H12 := Lib.hid (FY.on H11.out.2 hb12)
          clear hb12 H11
          obtain ⟨g2, hg2⟩ : ∃ g2, g2 = v12.heap.size := ⟨_, rfl⟩
          have hX : FZ w p q ys (n + 1) A7 z1 z2 g1 g2 (v12.alloc (.cells #[.int .i64 z1, .int .u64 z2] 26)) := by
            rw [hg2]
            exact ⟨FY.on H12.out ((Below.refl _ _).alloc (Nat.le_refl _) _), Blk.new v12 _ _⟩
          have H13 := Lib.hid hX
          clear hX H12
          go_wp2_with fail
          rw [← hg2]
          generalize v12.alloc (.cells #[.int .i64 z1, .int .u64 z2] 26) = v13 at *
          clear hg2
          refine wp_named_ fun Wu hWu => ?_
          have HQ := Lib.hid (show FZ w p q ys (n + 1) A7 z1 z2 g1 g2 Wu by rw [hWu]; exact H13.out)
          clear hWu H13
          have hRd : Reads Wu.drew Wu.drew.heap.size 2 (some ad) n (ptsV xs) := HO.out.2 _ HQ.out.1.1.1.1.drew
          have hlt : w.heap.size + 1 < Wu.heap.size := HQ.out.1.1.1.c1.2.2
          have hP0 : HoldP1 Wu Wu.drew (w.heap.size + 1) q := ⟨HQ.out.1.1.1.c1.1, HQ.out.1.1.1.c1.2.1, (Below.refl _ _).drew⟩
          go_region_held3 (fun V => V.cell? ⟨w.heap.size + 1, 0, none⟩ = some (.int .i64 q.x) ∧ V.cell? ⟨w.heap.size + 1, 1, none⟩ = some (.int .i64 q.y) ∧ Below Wu.heap.size Wu V)
            (first | with_reducible exact hP0 | with_reducible exact heldP1 hlt (by assumption) (by assumption))
            (first
              | (go_simp; go_at_call 16; (with_reducible refine (HO.out.1 _ _ _ _ _ hn hRd).mono ?_); rintro e w' ⟨A1, c1, rfl, hr1, hb'⟩; try dsimp only)
              | (go_simp; go_at_call 21; (with_reducible refine (HK.out.2.2.2.1 _ _ _ (by assumption)).mono ?_); rintro e w' ⟨rfl, hb'⟩; try dsimp only))
          clear hP0 hRd
          obtain ⟨-, -, hbV⟩ := (by assumption : HoldP1 Wu _ (w.heap.size + 1) q)
          have H14 := Lib.hid (FZ.on HQ.out hbV)
          clear hbV HQ hlt
          go_wp2_with fail
          refine wp_named_ fun Wv hWv => ?_
          have HQ := Lib.hid (show FZ w p q ys (n + 1) A7 z1 z2 g1 g2 Wv by rw [hWv]; exact H14.out)
          clear hWv H14
          have hRd : Reads Wv.drew Wv.drew.heap.size 2 A7 (n + 1) (ptsV ys) := HQ.out.1.1.2
          have hlt : w.heap.size + 1 < Wv.heap.size := HQ.out.1.1.1.c1.2.2
          have hP0 : HoldP1 Wv Wv.drew (w.heap.size + 1) q := ⟨HQ.out.1.1.1.c1.1, HQ.out.1.1.1.c1.2.1, (Below.refl _ _).drew⟩
          go_region_held3 (fun V => V.cell? ⟨w.heap.size + 1, 0, none⟩ = some (.int .i64 q.x) ∧ V.cell? ⟨w.heap.size + 1, 1, none⟩ = some (.int .i64 q.y) ∧ Below Wv.heap.size Wv V)
            (first | with_reducible exact hP0 | with_reducible exact heldP1 hlt (by assumption) (by assumption))
            (first
              | (go_simp; go_at_call 16; (with_reducible refine (HO.out.1 _ _ _ _ _ (by omega) hRd).mono ?_); rintro e w' ⟨A1, c1, rfl, hr1, hb'⟩; try dsimp only)
              | (go_simp; go_at_call 21; (with_reducible refine (HK.out.2.2.2.2 _ _ _ (by assumption)).mono ?_); rintro e w' ⟨rfl, hb'⟩; try dsimp only))
          clear hP0 hRd
          obtain ⟨-, -, hbV⟩ := (by assumption : HoldP1 Wv _ (w.heap.size + 1) q)
          have H15 := Lib.hid (FZ.on HQ.out hbV)
          clear hbV HQ hlt
          go_wp2_with fail
          with_reducible refine (HO.out.1 _ _ _ _ _ (by omega) H15.out.1.1.2).mono ?_
          rintro e v16 ⟨A16, c16, rfl, hr16, hb16⟩
          have H16 := Lib.hid (And.intro hr16 (FZ.on H15.out hb16))
          clear hr16 hb16 H15
          go_wp2_with fail
          with_reducible refine (HK.out.2.2.1 _ _ _ H16.out.1).mono ?_
          rintro e v17 ⟨rfl, hb17⟩
          have H17 := Lib.hid (FZ.on H16.out.2 hb17)
          clear hb17 H16
          obtain ⟨x1, x2, -, -⟩ := blk_two H17.out.1.2
          obtain ⟨y1, y2, -, -⟩ := blk_two H17.out.2
          have HB := Lib.hid H17.out.1.1.1.1
          clear H17
          go_wp2_with fail
          go_ret
          exact ⟨by simp, HB.out⟩
        · have hrd := Reads.dropPt (HO.out.2 _ H6.out.1) (k := k1) (by omega) hcap
          rw [if_neg hck] at hrd
          go_wp2_with (at_builtin; refine wpList_append_any _ rfl (.tmp 83) (.tmp 87) _ rfl Wt.drew.heap.size 35 i0 _ 2 16 Try.underlying23 hi0 hz0 hz1 hz2 rfl (by omega) (.slice A2 (k1 + 1) c2) (k1 + 1) _ rfl hown wc.heap.size _ _ _ (ptsV (xs.drop k1)) rfl hrd (ptsV_one _) (by simp only [maxLen]; omega) (by omega) hB.size ?_
                       intro v7 w7 hown7 hg7 hat7)
          rw [← ptsV_append, show k1 + 1 + (n - k1) = n + 1 by omega] at hown7
          have hB7 : Below Wt.heap.size Wt w7 := hB.grown hg7 hB.size (fun g hg => (hown.lt g hg).1)
          obtain ⟨A7, c7, rfl⟩ := own_form hown7
          have hY : Reads w7 w7.heap.size 2 A7 (n + 1) (ptsV ys) := by
            rw [HYS.out]
            unfold mark
            rw [← HK1.out]
            exact Reads.of_own hown7
          have H7 := Lib.hid (show FX w p q ys (n + 1) A7 w7 from ⟨HR.out.on hB7, hY⟩)
          clear hY hB7 hown7 hg7 hat7 hown hB H6 HR hrd
          with_reducible refine (HO.out.1 _ _ _ _ _ hn (HO.out.2 _ H7.out.1.1)).mono ?_
          rintro e v8 ⟨A8, c8, rfl, hr8, hb8⟩
          have H8 := Lib.hid (And.intro hr8 (FX.on H7.out hb8))
          clear hr8 hb8 H7
          go_wp2_with fail
          with_reducible refine (HK.out.1 _ _ _ H8.out.1).mono ?_
          rintro e v9 ⟨rfl, hb9⟩
          have H9 := Lib.hid (FX.on H8.out.2 hb9)
          clear hb9 H8
          obtain ⟨g1, hg1⟩ : ∃ g1, g1 = v9.heap.size := ⟨_, rfl⟩
          have hX : FY w p q ys (n + 1) A7 z1 z2 g1 (v9.alloc (.cells #[.int .i64 z1, .int .u64 z2] 26)) := by
            rw [hg1]
            exact ⟨FX.on H9.out ((Below.refl _ _).alloc (Nat.le_refl _) _), Blk.new v9 _ _⟩
          have H10 := Lib.hid hX
          clear hX H9
          go_wp2_with fail
          rw [← hg1]
          generalize v9.alloc (.cells #[.int .i64 z1, .int .u64 z2] 26) = v10 at *
          clear hg1
          with_reducible refine (HO.out.1 _ _ _ _ _ (by omega) H10.out.1.2).mono ?_
          rintro e v11 ⟨A11, c11, rfl, hr11, hb11⟩
          have H11 := Lib.hid (And.intro hr11 (FY.on H10.out hb11))
          clear hr11 hb11 H10
          go_wp2_with fail
          with_reducible refine (HK.out.2.1 _ _ _ H11.out.1).mono ?_
          rintro e v12 ⟨rfl, hb12⟩
          have H12 := Lib.hid (FY.on H11.out.2 hb12)
          clear hb12 H11
          obtain ⟨g2, hg2⟩ : ∃ g2, g2 = v12.heap.size := ⟨_, rfl⟩
          have hX : FZ w p q ys (n + 1) A7 z1 z2 g1 g2 (v12.alloc (.cells #[.int .i64 z1, .int .u64 z2] 26)) := by
            rw [hg2]
            exact ⟨FY.on H12.out ((Below.refl _ _).alloc (Nat.le_refl _) _), Blk.new v12 _ _⟩
          have H13 := Lib.hid hX
          clear hX H12
          go_wp2_with fail
          rw [← hg2]
          generalize v12.alloc (.cells #[.int .i64 z1, .int .u64 z2] 26) = v13 at *
          clear hg2
          refine wp_named_ fun Wu hWu => ?_
          have HQ := Lib.hid (show FZ w p q ys (n + 1) A7 z1 z2 g1 g2 Wu by rw [hWu]; exact H13.out)
          clear hWu H13
          have hRd : Reads Wu.drew Wu.drew.heap.size 2 (some ad) n (ptsV xs) := HO.out.2 _ HQ.out.1.1.1.1.drew
          have hlt : w.heap.size + 1 < Wu.heap.size := HQ.out.1.1.1.c1.2.2
          have hP0 : HoldP1 Wu Wu.drew (w.heap.size + 1) q := ⟨HQ.out.1.1.1.c1.1, HQ.out.1.1.1.c1.2.1, (Below.refl _ _).drew⟩
          go_region_held3 (fun V => V.cell? ⟨w.heap.size + 1, 0, none⟩ = some (.int .i64 q.x) ∧ V.cell? ⟨w.heap.size + 1, 1, none⟩ = some (.int .i64 q.y) ∧ Below Wu.heap.size Wu V)
            (first | with_reducible exact hP0 | with_reducible exact heldP1 hlt (by assumption) (by assumption))
            (first
              | (go_simp; go_at_call 16; (with_reducible refine (HO.out.1 _ _ _ _ _ hn hRd).mono ?_); rintro e w' ⟨A1, c1, rfl, hr1, hb'⟩; try dsimp only)
              | (go_simp; go_at_call 21; (with_reducible refine (HK.out.2.2.2.1 _ _ _ (by assumption)).mono ?_); rintro e w' ⟨rfl, hb'⟩; try dsimp only))
          clear hP0 hRd
          obtain ⟨-, -, hbV⟩ := (by assumption : HoldP1 Wu _ (w.heap.size + 1) q)
          have H14 := Lib.hid (FZ.on HQ.out hbV)
          clear hbV HQ hlt
          go_wp2_with fail
          refine wp_named_ fun Wv hWv => ?_
          have HQ := Lib.hid (show FZ w p q ys (n + 1) A7 z1 z2 g1 g2 Wv by rw [hWv]; exact H14.out)
          clear hWv H14
          have hRd : Reads Wv.drew Wv.drew.heap.size 2 A7 (n + 1) (ptsV ys) := HQ.out.1.1.2
          have hlt : w.heap.size + 1 < Wv.heap.size := HQ.out.1.1.1.c1.2.2
          have hP0 : HoldP1 Wv Wv.drew (w.heap.size + 1) q := ⟨HQ.out.1.1.1.c1.1, HQ.out.1.1.1.c1.2.1, (Below.refl _ _).drew⟩
          go_region_held3 (fun V => V.cell? ⟨w.heap.size + 1, 0, none⟩ = some (.int .i64 q.x) ∧ V.cell? ⟨w.heap.size + 1, 1, none⟩ = some (.int .i64 q.y) ∧ Below Wv.heap.size Wv V)
            (first | with_reducible exact hP0 | with_reducible exact heldP1 hlt (by assumption) (by assumption))
            (first
              | (go_simp; go_at_call 16; (with_reducible refine (HO.out.1 _ _ _ _ _ (by omega) hRd).mono ?_); rintro e w' ⟨A1, c1, rfl, hr1, hb'⟩; try dsimp only)
              | (go_simp; go_at_call 21; (with_reducible refine (HK.out.2.2.2.2 _ _ _ (by assumption)).mono ?_); rintro e w' ⟨rfl, hb'⟩; try dsimp only))
          clear hP0 hRd
          obtain ⟨-, -, hbV⟩ := (by assumption : HoldP1 Wv _ (w.heap.size + 1) q)
          have H15 := Lib.hid (FZ.on HQ.out hbV)
          clear hbV HQ hlt
          go_wp2_with fail
          with_reducible refine (HO.out.1 _ _ _ _ _ (by omega) H15.out.1.1.2).mono ?_
          rintro e v16 ⟨A16, c16, rfl, hr16, hb16⟩
          have H16 := Lib.hid (And.intro hr16 (FZ.on H15.out hb16))
          clear hr16 hb16 H15
          go_wp2_with fail
          with_reducible refine (HK.out.2.2.1 _ _ _ H16.out.1).mono ?_
          rintro e v17 ⟨rfl, hb17⟩
          have H17 := Lib.hid (FZ.on H16.out.2 hb17)
          clear hb17 H16
          obtain ⟨x1, x2, -, -⟩ := blk_two H17.out.1.2
          obtain ⟨y1, y2, -, -⟩ := blk_two H17.out.2
          have HB := Lib.hid H17.out.1.1.1.1
          clear H17
          go_wp2_with fail
          go_ret
          exact ⟨by simp, HB.out⟩
end Go.Proofs.Ytcohioplkchojaa
