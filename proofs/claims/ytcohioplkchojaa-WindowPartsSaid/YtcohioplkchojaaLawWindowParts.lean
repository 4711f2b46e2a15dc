/- merestonelaw04.WindowParts: the walk. -/
import Derived.Test.YtcohioplkchojaaMoveLaw
import Derived.Test.YtcohioplkchojaaLawWindowMeets
namespace Go.Proofs.Ytcohioplkchojaa
open Go.RowKit
theorem wp_named_ {P : Program} {c : Code} {Q : Exit → Act → World → Prop} {a : Act} {w : World} (h : ∀ W, W = w → c.wp P Q a W) : c.wp P Q a w := h w rfl
abbrev FW (w : World) (u : Win) (p q : Pt) (W : World) : Prop := Below w.heap.size w W ∧ Blk W (w.heap.size) 52 #[.int .i64 u.lx, .int .i64 u.ly, .int .i64 u.hx, .int .i64 u.hy] ∧ Blk W (w.heap.size + 1) 35 #[.int .i64 p.x, .int .i64 p.y] ∧ Blk W (w.heap.size + 1 + 1) 35 #[.int .i64 q.x, .int .i64 q.y]
theorem FW.on {w W W' : World} {u : Win} {p q : Pt} (h : FW w u p q W) (hb : Below W.heap.size W W') : FW w u p q W' := ⟨below_on h.1 (Nat.le_refl _) hb, Blk.below h.2.1 hb (Blk.lt h.2.1), Blk.below h.2.2.1 hb (Blk.lt h.2.2.1), Blk.below h.2.2.2 hb (Blk.lt h.2.2.2)⟩
theorem FW.alloc {w W : World} {u : Win} {p q : Pt} (h : FW w u p q W) (o : Obj) : FW w u p q (W.alloc o) := ⟨h.1.alloc h.1.size o, Blk.alloc h.2.1 o, Blk.alloc h.2.2.1 o, Blk.alloc h.2.2.2 o⟩
theorem FW.c0 {w W : World} {u : Win} {p q : Pt} (h : FW w u p q W) : W.cell? ⟨w.heap.size, 0, none⟩ = some (.int .i64 u.lx) ∧ W.cell? ⟨w.heap.size, 1, none⟩ = some (.int .i64 u.ly) ∧ W.cell? ⟨w.heap.size, 2, none⟩ = some (.int .i64 u.hx) ∧ W.cell? ⟨w.heap.size, 3, none⟩ = some (.int .i64 u.hy) ∧ w.heap.size < W.heap.size := ⟨by rw [Blk.cell h.2.1 0]; rfl, by rw [Blk.cell h.2.1 1]; rfl, by rw [Blk.cell h.2.1 2]; rfl, by rw [Blk.cell h.2.1 3]; rfl, Blk.lt h.2.1⟩
theorem FW.c1 {w W : World} {u : Win} {p q : Pt} (h : FW w u p q W) : W.cell? ⟨w.heap.size + 1, 0, none⟩ = some (.int .i64 p.x) ∧ W.cell? ⟨w.heap.size + 1, 1, none⟩ = some (.int .i64 p.y) ∧ w.heap.size + 1 < W.heap.size := ⟨by rw [Blk.cell h.2.2.1 0]; rfl, by rw [Blk.cell h.2.2.1 1]; rfl, Blk.lt h.2.2.1⟩
theorem FW.c2 {w W : World} {u : Win} {p q : Pt} (h : FW w u p q W) : W.cell? ⟨w.heap.size + 1 + 1, 0, none⟩ = some (.int .i64 q.x) ∧ W.cell? ⟨w.heap.size + 1 + 1, 1, none⟩ = some (.int .i64 q.y) ∧ w.heap.size + 1 + 1 < W.heap.size := ⟨by rw [Blk.cell h.2.2.2 0]; rfl, by rw [Blk.cell h.2.2.2 1]; rfl, Blk.lt h.2.2.2⟩
theorem FW.new (w : World) (u : Win) (p q : Pt) : FW w u p q (((w.alloc (.cells #[.int .i64 u.lx, .int .i64 u.ly, .int .i64 u.hx, .int .i64 u.hy] 52)).alloc (.cells #[.int .i64 p.x, .int .i64 p.y] 35)).alloc (.cells #[.int .i64 q.x, .int .i64 q.y] 35)) := by
  refine ⟨((((Below.refl _ _).alloc (Nat.le_refl _) _).alloc (by simp) _).alloc (by simp; omega) _), ?_, ?_, ?_⟩
  · have := Blk.alloc (Blk.alloc (Blk.new w 52 #[.int .i64 u.lx, .int .i64 u.ly, .int .i64 u.hx, .int .i64 u.hy]) (.cells #[.int .i64 p.x, .int .i64 p.y] 35)) (.cells #[.int .i64 q.x, .int .i64 q.y] 35)
    exact this
  · have := Blk.alloc (Blk.new (w.alloc (.cells #[.int .i64 u.lx, .int .i64 u.ly, .int .i64 u.hx, .int .i64 u.hy] 52)) 35 #[.int .i64 p.x, .int .i64 p.y]) (.cells #[.int .i64 q.x, .int .i64 q.y] 35)
    rw [World.size_alloc] at this
    exact this
  · have := Blk.new ((w.alloc (.cells #[.int .i64 u.lx, .int .i64 u.ly, .int .i64 u.hx, .int .i64 u.hy] 52)).alloc (.cells #[.int .i64 p.x, .int .i64 p.y] 35)) 35 #[.int .i64 q.x, .int .i64 q.y]
    rw [World.size_alloc, World.size_alloc] at this
    exact this
abbrev FX (w : World) (u : Win) (p q : Pt) (t : Int) (b1 b2 : Nat) (W : World) : Prop := Below w.heap.size w W ∧ Blk W (w.heap.size) 52 #[.int .i64 u.lx, .int .i64 u.ly, .int .i64 u.hx, .int .i64 u.hy] ∧ Blk W (w.heap.size + 1) 35 #[.int .i64 p.x, .int .i64 p.y] ∧ Blk W (w.heap.size + 1 + 1) 35 #[.int .i64 q.x, .int .i64 q.y] ∧ Blk W (b1) 52 #[.int .i64 u.lx, .int .i64 u.ly, .int .i64 t, .int .i64 u.hy] ∧ Blk W (b2) 52 #[.int .i64 t, .int .i64 u.ly, .int .i64 u.hx, .int .i64 u.hy]
theorem FX.on {w W W' : World} {u : Win} {p q : Pt} {t : Int} {b1 b2 : Nat} (h : FX w u p q t b1 b2 W) (hb : Below W.heap.size W W') : FX w u p q t b1 b2 W' := ⟨below_on h.1 (Nat.le_refl _) hb, Blk.below h.2.1 hb (Blk.lt h.2.1), Blk.below h.2.2.1 hb (Blk.lt h.2.2.1), Blk.below h.2.2.2.1 hb (Blk.lt h.2.2.2.1), Blk.below h.2.2.2.2.1 hb (Blk.lt h.2.2.2.2.1), Blk.below h.2.2.2.2.2 hb (Blk.lt h.2.2.2.2.2)⟩
theorem FX.alloc {w W : World} {u : Win} {p q : Pt} {t : Int} {b1 b2 : Nat} (h : FX w u p q t b1 b2 W) (o : Obj) : FX w u p q t b1 b2 (W.alloc o) := ⟨h.1.alloc h.1.size o, Blk.alloc h.2.1 o, Blk.alloc h.2.2.1 o, Blk.alloc h.2.2.2.1 o, Blk.alloc h.2.2.2.2.1 o, Blk.alloc h.2.2.2.2.2 o⟩
theorem FX.c0 {w W : World} {u : Win} {p q : Pt} {t : Int} {b1 b2 : Nat} (h : FX w u p q t b1 b2 W) : W.cell? ⟨w.heap.size, 0, none⟩ = some (.int .i64 u.lx) ∧ W.cell? ⟨w.heap.size, 1, none⟩ = some (.int .i64 u.ly) ∧ W.cell? ⟨w.heap.size, 2, none⟩ = some (.int .i64 u.hx) ∧ W.cell? ⟨w.heap.size, 3, none⟩ = some (.int .i64 u.hy) ∧ w.heap.size < W.heap.size := ⟨by rw [Blk.cell h.2.1 0]; rfl, by rw [Blk.cell h.2.1 1]; rfl, by rw [Blk.cell h.2.1 2]; rfl, by rw [Blk.cell h.2.1 3]; rfl, Blk.lt h.2.1⟩
theorem FX.c1 {w W : World} {u : Win} {p q : Pt} {t : Int} {b1 b2 : Nat} (h : FX w u p q t b1 b2 W) : W.cell? ⟨w.heap.size + 1, 0, none⟩ = some (.int .i64 p.x) ∧ W.cell? ⟨w.heap.size + 1, 1, none⟩ = some (.int .i64 p.y) ∧ w.heap.size + 1 < W.heap.size := ⟨by rw [Blk.cell h.2.2.1 0]; rfl, by rw [Blk.cell h.2.2.1 1]; rfl, Blk.lt h.2.2.1⟩
theorem FX.c2 {w W : World} {u : Win} {p q : Pt} {t : Int} {b1 b2 : Nat} (h : FX w u p q t b1 b2 W) : W.cell? ⟨w.heap.size + 1 + 1, 0, none⟩ = some (.int .i64 q.x) ∧ W.cell? ⟨w.heap.size + 1 + 1, 1, none⟩ = some (.int .i64 q.y) ∧ w.heap.size + 1 + 1 < W.heap.size := ⟨by rw [Blk.cell h.2.2.2.1 0]; rfl, by rw [Blk.cell h.2.2.2.1 1]; rfl, Blk.lt h.2.2.2.1⟩
theorem FX.c3 {w W : World} {u : Win} {p q : Pt} {t : Int} {b1 b2 : Nat} (h : FX w u p q t b1 b2 W) : W.cell? ⟨b1, 0, none⟩ = some (.int .i64 u.lx) ∧ W.cell? ⟨b1, 1, none⟩ = some (.int .i64 u.ly) ∧ W.cell? ⟨b1, 2, none⟩ = some (.int .i64 t) ∧ W.cell? ⟨b1, 3, none⟩ = some (.int .i64 u.hy) ∧ b1 < W.heap.size := ⟨by rw [Blk.cell h.2.2.2.2.1 0]; rfl, by rw [Blk.cell h.2.2.2.2.1 1]; rfl, by rw [Blk.cell h.2.2.2.2.1 2]; rfl, by rw [Blk.cell h.2.2.2.2.1 3]; rfl, Blk.lt h.2.2.2.2.1⟩
theorem FX.c4 {w W : World} {u : Win} {p q : Pt} {t : Int} {b1 b2 : Nat} (h : FX w u p q t b1 b2 W) : W.cell? ⟨b2, 0, none⟩ = some (.int .i64 t) ∧ W.cell? ⟨b2, 1, none⟩ = some (.int .i64 u.ly) ∧ W.cell? ⟨b2, 2, none⟩ = some (.int .i64 u.hx) ∧ W.cell? ⟨b2, 3, none⟩ = some (.int .i64 u.hy) ∧ b2 < W.heap.size := ⟨by rw [Blk.cell h.2.2.2.2.2 0]; rfl, by rw [Blk.cell h.2.2.2.2.2 1]; rfl, by rw [Blk.cell h.2.2.2.2.2 2]; rfl, by rw [Blk.cell h.2.2.2.2.2 3]; rfl, Blk.lt h.2.2.2.2.2⟩
theorem win_goodG {v : Win} (h : winE v = 0) : (-1073741824 ≤ v.lx ∧ v.lx ≤ v.hx ∧ v.hx ≤ 1073741824) ∧ (-1073741824 ≤ v.ly ∧ v.ly ≤ v.hy ∧ v.hy ≤ 1073741824) := by
  unfold winE at h
  split at h
  · rename_i hg
    simp only [goodL, List.all_cons, List.all_nil, Bool.and_true, Bool.and_eq_true, good_iff, Win.low, Win.high] at hg
    split at h
    · omega
    · omega
  · omega
theorem win_goodI {v : Win} (h1 : -1073741824 ≤ v.lx ∧ v.lx ≤ v.hx ∧ v.hx ≤ 1073741824) (h2 : -1073741824 ≤ v.ly ∧ v.ly ≤ v.hy ∧ v.hy ≤ 1073741824) : winE v = 0 := by
  unfold winE
  rw [if_pos, if_neg (by omega)]
  simp only [goodL, List.all_cons, List.all_nil, Bool.and_true, Bool.and_eq_true, good_iff, Win.low, Win.high]
  omega
theorem parts_all {u : Win} {t : Int} {xs : List Pt} {p q : Pt} (hu : winE u = 0) (h1 : u.lx ≤ t) (h2 : t ≤ u.hx) :
    (meetE (lowW u t) xs = meetE u xs ∧ meetE (highW u t) xs = meetE u xs ∧ meetV u xs = (meetV (lowW u t) xs || meetV (highW u t) xs)) ∧
    (cutE (lowW u t) p q = cutE u p q ∧ cutE (highW u t) p q = cutE u p q ∧ cutB u p q = (cutB (lowW u t) p q || cutB (highW u t) p q)) := by
  obtain ⟨g1, g2⟩ := win_goodG hu
  have hl : winE (lowW u t) = 0 := win_goodI (v := lowW u t) ⟨g1.1, h1, by simp only [lowW]; omega⟩ g2
  have hh : winE (highW u t) = 0 := win_goodI (v := highW u t) ⟨by simp only [highW]; omega, h2, g1.2.2⟩ g2
  have e0 : meetE u xs = checkI xs := by unfold meetE; rw [if_neg (fun h => h hu)]
  have e1 : meetE (lowW u t) xs = checkI xs := by unfold meetE; rw [if_neg (fun h => h hl)]
  have e2 : meetE (highW u t) xs = checkI xs := by unfold meetE; rw [if_neg (fun h => h hh)]
  have f0 : cutE u p q = if goodL [p, q] = true then 0 else 3 := by unfold cutE; rw [if_pos hu]
  have f1 : cutE (lowW u t) p q = if goodL [p, q] = true then 0 else 3 := by unfold cutE; rw [if_pos hl]
  have f2 : cutE (highW u t) p q = if goodL [p, q] = true then 0 else 3 := by unfold cutE; rw [if_pos hh]
  refine ⟨⟨e1.trans e0.symm, e2.trans e0.symm, ?_⟩, ⟨f1.trans f0.symm, f2.trans f0.symm, ?_⟩⟩
  · unfold meetV
    rw [e0, e1, e2]
    by_cases hc : checkI xs = 0
    · rw [if_pos hc, if_pos hc, if_pos hc]
      exact meets_parts (by have := (checkI_zero hc).2.2.1; omega) ⟨g1.2.1, g2.2.1⟩ h1 h2
    · rw [if_neg hc, if_neg hc, if_neg hc]
      rfl
  · unfold cutB
    rw [f0, f1, f2]
    by_cases hg : goodL [p, q] = true
    · rw [if_pos hg, if_pos rfl, if_pos rfl, if_pos rfl]
      exact cuts_parts ⟨g1.2.1, g2.2.1⟩ h1 h2
    · rw [if_neg hg, if_neg (by decide), if_neg (by decide), if_neg (by decide)]
      rfl
set_option maxRecDepth 100000 in
set_option maxHeartbeats 1600000 in
theorem windowParts_any (u : Win) (t : Int) (xs : List Pt) (p q : Pt) (A : Option Addr) (n cap : Nat) (w : World) (hu : u.inI) (ht : -9223372036854775808 ≤ t ∧ t ≤ 9223372036854775807) (hr : Reads w w.heap.size 2 A n (ptsV xs)) (hn : n ≤ 8796093022208) (hx : ∀ p ∈ xs, p.inI) (hp : p.inI) (hq : q.inI) :
    Calls Try.prog 13 #[winV u, .int .i64 t, .slice A n cap, ptV p, ptV q] w fun e w' => e = .returned (.bool true) ∧ Below w.heap.size w w' := by
  have hli : (lowW u t).inI := ⟨hu.1, ht, hu.2.2⟩
  have hhi : (highW u t).inI := ⟨⟨ht, hu.1.2⟩, hu.2⟩
  have kW1 : ∀ V, Calls Try.prog 37 #[.agg #[.int .i64 u.lx, .int .i64 u.ly, .int .i64 u.hx, .int .i64 u.hy]] V fun e V' => e = .returned (.int .i64 (winE u)) ∧ Below V.heap.size V V' := fun V => winOK_any u V hu
  have kO : ∀ V, Below w.heap.size w V → Calls Try.prog 39 #[.slice A n cap] V fun e V' => ∃ A' c, e = .returned (.slice A' n c) ∧ Reads V' V'.heap.size 2 A' n (ptsV xs) ∧ Below V.heap.size V V' := fun V hV =>
    (own04_any xs A n cap V ((hr.below hV).more hV.size) hn).mono fun e V' ⟨A', c, h1, h2, h3⟩ => ⟨A', c, h1, Reads.of_own h2, h3⟩
  have kM1 : ∀ V A' c, Reads V V.heap.size 2 A' n (ptsV xs) → Calls Try.prog 38 #[.agg #[.int .i64 u.lx, .int .i64 u.ly, .int .i64 u.hx, .int .i64 u.hy], .slice A' n c] V fun e V' => e = .returned (.tuple #[.bool (meetV u xs), .int .i64 (meetE u xs)]) ∧ Below V.heap.size V V' := fun V A' c h => wmeets_any u xs A' n c V h (by omega) hx hu
  have kM2 : ∀ V A' c, Reads V V.heap.size 2 A' n (ptsV xs) → Calls Try.prog 38 #[.agg #[.int .i64 u.lx, .int .i64 u.ly, .int .i64 t, .int .i64 u.hy], .slice A' n c] V fun e V' => e = .returned (.tuple #[.bool (meetV (lowW u t) xs), .int .i64 (meetE (lowW u t) xs)]) ∧ Below V.heap.size V V' := fun V A' c h => wmeets_any (lowW u t) xs A' n c V h (by omega) hx hli
  have kM3 : ∀ V A' c, Reads V V.heap.size 2 A' n (ptsV xs) → Calls Try.prog 38 #[.agg #[.int .i64 t, .int .i64 u.ly, .int .i64 u.hx, .int .i64 u.hy], .slice A' n c] V fun e V' => e = .returned (.tuple #[.bool (meetV (highW u t) xs), .int .i64 (meetE (highW u t) xs)]) ∧ Below V.heap.size V V' := fun V A' c h => wmeets_any (highW u t) xs A' n c V h (by omega) hx hhi
  have kC1 : ∀ V, Calls Try.prog 43 #[.agg #[.int .i64 u.lx, .int .i64 u.ly, .int .i64 u.hx, .int .i64 u.hy], .agg #[.int .i64 p.x, .int .i64 p.y], .agg #[.int .i64 q.x, .int .i64 q.y]] V fun e V' => e = .returned (.tuple #[.bool (cutB u p q), .int .i64 (cutE u p q)]) ∧ Below V.heap.size V V' := fun V => cuts_any u p q V hu hp hq
  have kC2 : ∀ V, Calls Try.prog 43 #[.agg #[.int .i64 u.lx, .int .i64 u.ly, .int .i64 t, .int .i64 u.hy], .agg #[.int .i64 p.x, .int .i64 p.y], .agg #[.int .i64 q.x, .int .i64 q.y]] V fun e V' => e = .returned (.tuple #[.bool (cutB (lowW u t) p q), .int .i64 (cutE (lowW u t) p q)]) ∧ Below V.heap.size V V' := fun V => cuts_any (lowW u t) p q V hli hp hq
  have kC3 : ∀ V, Calls Try.prog 43 #[.agg #[.int .i64 t, .int .i64 u.ly, .int .i64 u.hx, .int .i64 u.hy], .agg #[.int .i64 p.x, .int .i64 p.y], .agg #[.int .i64 q.x, .int .i64 q.y]] V fun e V' => e = .returned (.tuple #[.bool (cutB (highW u t) p q), .int .i64 (cutE (highW u t) p q)]) ∧ Below V.heap.size V V' := fun V => cuts_any (highW u t) p q V hhi hp hq
  have hF := fun (g0 : winE u = 0) (g1 : u.lx ≤ t) (g2 : t ≤ u.hx) => parts_all (xs := xs) (p := p) (q := q) g0 g1 g2
  generalize winE u = ue at *
  generalize meetV u xs = x at *
  generalize meetE u xs = xe at *
  generalize meetV (lowW u t) xs = y at *
  generalize meetE (lowW u t) xs = ye at *
  generalize meetV (highW u t) xs = z at *
  generalize meetE (highW u t) xs = ze at *
  generalize cutB u p q = k at *
  generalize cutE u p q = ke at *
  generalize cutB (lowW u t) p q = l at *
  generalize cutE (lowW u t) p q = le at *
  generalize cutB (highW u t) p q = m at *
  generalize cutE (highW u t) p q = me at *
  have HK := Lib.hid (And.intro kW1 (And.intro kO (And.intro kM1 (And.intro kM2 (And.intro kM3 (And.intro kC1 (And.intro kC2 (And.intro kC3 hF))))))))
  have H0 := Lib.hid (FW.new w u p q)
  clear kW1 kO kM1 kM2 kM3 kC1 kC2 kC3 hF hr hn hx hp hq hu ht hli hhi
  unfold ptV winV
  go_enter Try.func13, Try.ntmps13
  go_wp2_with fail
  generalize (((w.alloc (.cells #[.int .i64 u.lx, .int .i64 u.ly, .int .i64 u.hx, .int .i64 u.hy] 52)).alloc (.cells #[.int .i64 p.x, .int .i64 p.y] 35)).alloc (.cells #[.int .i64 q.x, .int .i64 q.y] 35)) = W0 at *
  refine (ans04_any _).mono ?_
  rintro e w1 ⟨rfl, hb1⟩
  have H1 := Lib.hid (H0.out.on hb1)
  clear hb1 H0 
  obtain ⟨f1_0_0, f1_0_1, f1_0_2, f1_0_3, f1_0_4⟩ := H1.out.c0
  go_wp2_with fail
  with_reducible refine (HK.out.1 _).mono ?_
  rintro e w2 ⟨rfl, hb2⟩
  have H2 := Lib.hid (H1.out.on hb2)
  clear hb2 H1 f1_0_0 f1_0_1 f1_0_2 f1_0_3 f1_0_4
  by_cases hu : ue = 0
  · subst hu
    by_cases h1 : u.lx ≤ t ∧ t ≤ u.hx
    · obtain ⟨h1, h2⟩ := h1
      obtain ⟨f2_0_0, f2_0_1, f2_0_2, f2_0_3, f2_0_4⟩ := H2.out.c0
      have d1 : decide (t < u.lx) = false := decide_eq_false (by omega)
      have d2 : decide (u.hx < t) = false := decide_eq_false (by omega)
      go_wp2_with fail
      refine wp_named_ fun Wr hWr => ?_
      have HR : Hid (FW w u p q Wr) := by show _; rw [hWr]; exact H2.out
      clear hWr d1 d2 H2 f2_0_0 f2_0_1 f2_0_2 f2_0_3 f2_0_4
      have hlt : w.heap.size < Wr.heap.size := HR.out.c0.2.2.2.2
      have hP0 : Wr.drew.cell? ⟨w.heap.size, 0, none⟩ = some (.int .i64 u.lx) ∧ Wr.drew.cell? ⟨w.heap.size, 1, none⟩ = some (.int .i64 u.ly) ∧ Wr.drew.cell? ⟨w.heap.size, 2, none⟩ = some (.int .i64 u.hx) ∧ Wr.drew.cell? ⟨w.heap.size, 3, none⟩ = some (.int .i64 u.hy) ∧ Below Wr.heap.size Wr Wr.drew := ⟨HR.out.c0.1, HR.out.c0.2.1, HR.out.c0.2.2.1, HR.out.c0.2.2.2.1, (Below.refl _ _).drew⟩
      have hz1 : Blk (World.drew ((Wr.alloc (.cells #[.int .i64 u.lx, .int .i64 u.ly, .int .i64 u.hx, .int .i64 u.hy] 52)).alloc (.cells #[.int .i64 u.lx, .int .i64 u.ly, .int .i64 u.hx, .int .i64 u.hy] 52))) Wr.heap.size 52 #[.int .i64 u.lx, .int .i64 u.ly, .int .i64 u.hx, .int .i64 u.hy] := Blk.alloc (Blk.new Wr _ _) _
      have hz2 : Blk (World.drew ((Wr.alloc (.cells #[.int .i64 u.lx, .int .i64 u.ly, .int .i64 u.hx, .int .i64 u.hy] 52)).alloc (.cells #[.int .i64 u.lx, .int .i64 u.ly, .int .i64 u.hx, .int .i64 u.hy] 52))) (Wr.heap.size + 1) 52 #[.int .i64 u.lx, .int .i64 u.ly, .int .i64 u.hx, .int .i64 u.hy] := by
        have := Blk.new (Wr.alloc (.cells #[.int .i64 u.lx, .int .i64 u.ly, .int .i64 u.hx, .int .i64 u.hy] 52)) 52 #[.int .i64 u.lx, .int .i64 u.ly, .int .i64 u.hx, .int .i64 u.hy]
        rw [World.size_alloc] at this
        exact this
      have hz3 : Below Wr.heap.size Wr (World.drew ((Wr.alloc (.cells #[.int .i64 u.lx, .int .i64 u.ly, .int .i64 u.hx, .int .i64 u.hy] 52)).alloc (.cells #[.int .i64 u.lx, .int .i64 u.ly, .int .i64 u.hx, .int .i64 u.hy] 52))) := (((Below.refl _ _).alloc (Nat.le_refl _) _).alloc (by simp) _).drew
      have HZ := Lib.hid (And.intro hz1 (And.intro hz2 hz3))
      clear hz1 hz2 hz3
      go_cut [11, 12] (fun s11 s12 wx => ∃ b1 b2, s11 = .pointer (some ⟨b1, 0, none⟩) ∧ s12 = .pointer (some ⟨b2, 0, none⟩) ∧ Wr.heap.size ≤ b1 ∧ Wr.heap.size ≤ b2 ∧ b1 ≠ b2 ∧ Below Wr.heap.size Wr wx ∧ Blk wx b1 52 #[.int .i64 u.lx, .int .i64 u.ly, .int .i64 u.hx, .int .i64 u.hy] ∧ Blk wx b2 52 #[.int .i64 u.lx, .int .i64 u.ly, .int .i64 u.hx, .int .i64 u.hy])
      case first =>
        go_region_held3 (fun V => V.cell? ⟨w.heap.size, 0, none⟩ = some (.int .i64 u.lx) ∧ V.cell? ⟨w.heap.size, 1, none⟩ = some (.int .i64 u.ly) ∧ V.cell? ⟨w.heap.size, 2, none⟩ = some (.int .i64 u.hx) ∧ V.cell? ⟨w.heap.size, 3, none⟩ = some (.int .i64 u.hy) ∧ Below Wr.heap.size Wr V)
          (first | with_reducible exact hP0 | with_reducible exact heldW4 hlt (by assumption) (by assumption) | with_reducible exact heldW4 hlt (by assumption) ((Below.refl _ _).alloc (Nat.le_refl _) _) | exact heldW4 hlt hP0 (show Below Wr.drew.heap.size Wr.drew (World.drew (World.alloc (World.alloc Wr _) _)) from ((Below.refl Wr.drew.heap.size Wr.drew).alloc (Nat.le_refl _) _).alloc (by simp) _))
          (fail)
        all_goals
          clear hP0
          go_wp2_with fail
          go_meet
          first
            | exact ⟨Wr.heap.size, Wr.heap.size + 1, rfl, rfl, by omega, by omega, by omega, HZ.out.2.2, HZ.out.1, HZ.out.2.1⟩
            | exact ⟨Wr.heap.size + 1, Wr.heap.size, rfl, rfl, by omega, by omega, by omega, HZ.out.2.2, HZ.out.2.1, HZ.out.1⟩
      case rest =>
        obtain ⟨b1, b2, rfl, rfl, g1, g2, g3, hbw, k1, k2⟩ := hcut
        have hs0 : w.heap.size + 1 + 1 < Wr.heap.size := HR.out.c2.2.2
        have HW := Lib.hid (HR.out.on hbw)
        clear hP0 hbw HR HZ
        have c2 : wc.cell? ⟨b1, 2, none⟩ = some (.int .i64 u.hx) := by rw [Blk.cell k1 2]; rfl
        have f2 : wc.frozen? ⟨b1, 2, none⟩ = false := Blk.frozen k1 2
        have c0 : wc.cell? ⟨b2, 0, none⟩ = some (.int .i64 u.lx) := by rw [Blk.cell k2 0]; rfl
        have f0 : wc.frozen? ⟨b2, 0, none⟩ = false := Blk.frozen k2 0
        have hl1 : b1 < wc.heap.size := Blk.lt k1
        have hl2 : b2 < wc.heap.size := Blk.lt k2
        have HX := Lib.hid (show FX w u p q t b1 b2 ((wc.setCell ⟨b1, 2, none⟩ (.int .i64 t)).setCell ⟨b2, 0, none⟩ (.int .i64 t)) from ⟨(HW.out.1.setCell (p := ⟨b1, 2, none⟩) (by simp only; omega) _).setCell (p := ⟨b2, 0, none⟩) (by simp only; omega) _, Blk.far (Blk.far HW.out.2.1 (by simp only; omega) _) (by simp only; omega) _, Blk.far (Blk.far HW.out.2.2.1 (by simp only; omega) _) (by simp only; omega) _, Blk.far (Blk.far HW.out.2.2.2 (by simp only; omega) _) (by simp only; omega) _, Blk.far (Blk.set_ k1 2 _) (by simp only; omega) _, Blk.set_ (Blk.far k2 (by simp only; omega) _) 0 _⟩)
        clear HW k1 k2
        go_wp2_with fail
        refine wp_named_ fun Wr3 hWr3 => ?_
        have HR3 : Hid (FX w u p q t b1 b2 Wr3) := by show _; rw [hWr3]; exact HX.out
        clear hWr3 HX 
        have hBd := Lib.hid HR3.out.1.drew
        have hlt : w.heap.size < Wr3.heap.size := HR3.out.c0.2.2.2.2
        have hP0 : Wr3.drew.cell? ⟨w.heap.size, 0, none⟩ = some (.int .i64 u.lx) ∧ Wr3.drew.cell? ⟨w.heap.size, 1, none⟩ = some (.int .i64 u.ly) ∧ Wr3.drew.cell? ⟨w.heap.size, 2, none⟩ = some (.int .i64 u.hx) ∧ Wr3.drew.cell? ⟨w.heap.size, 3, none⟩ = some (.int .i64 u.hy) ∧ Below Wr3.heap.size Wr3 Wr3.drew := ⟨HR3.out.c0.1, HR3.out.c0.2.1, HR3.out.c0.2.2.1, HR3.out.c0.2.2.2.1, (Below.refl _ _).drew⟩
        go_region_held3 (fun V => V.cell? ⟨w.heap.size, 0, none⟩ = some (.int .i64 u.lx) ∧ V.cell? ⟨w.heap.size, 1, none⟩ = some (.int .i64 u.ly) ∧ V.cell? ⟨w.heap.size, 2, none⟩ = some (.int .i64 u.hx) ∧ V.cell? ⟨w.heap.size, 3, none⟩ = some (.int .i64 u.hy) ∧ Below Wr3.heap.size Wr3 V)
          (first | with_reducible exact hP0 | with_reducible exact heldW4 hlt (by assumption) (by assumption))
          (first
            | (go_simp; go_at_call 39; (with_reducible refine (HK.out.2.1 _ hBd.out).mono ?_); rintro e w' ⟨A1, c1, rfl, hr1, hb'⟩; try dsimp only)
            | (go_simp; go_at_call 38; (with_reducible refine (HK.out.2.2.1 _ _ _ (by assumption)).mono ?_); rintro e w' ⟨rfl, hb'⟩; try dsimp only))
        clear hP0 hBd
        obtain ⟨-, -, -, -, hbV⟩ := (by assumption : HoldW4 Wr3 _ (w.heap.size) (.int .i64 u.lx) (.int .i64 u.ly) (.int .i64 u.hx) (.int .i64 u.hy))
        have H3 := Lib.hid (HR3.out.on hbV)
        clear hbV hlt HR3
        clear c2 f2 c0 f0
        go_wp2_with fail
        refine wp_named_ fun Wr4 hWr4 => ?_
        have HR4 : Hid (FX w u p q t b1 b2 Wr4) := by show _; rw [hWr4]; exact H3.out
        clear hWr4 H3 
        have hBd := Lib.hid HR4.out.1.drew
        have hlt : b1 < Wr4.heap.size := HR4.out.c3.2.2.2.2
        have hP0 : Wr4.drew.cell? ⟨b1, 0, none⟩ = some (.int .i64 u.lx) ∧ Wr4.drew.cell? ⟨b1, 1, none⟩ = some (.int .i64 u.ly) ∧ Wr4.drew.cell? ⟨b1, 2, none⟩ = some (.int .i64 t) ∧ Wr4.drew.cell? ⟨b1, 3, none⟩ = some (.int .i64 u.hy) ∧ Below Wr4.heap.size Wr4 Wr4.drew := ⟨HR4.out.c3.1, HR4.out.c3.2.1, HR4.out.c3.2.2.1, HR4.out.c3.2.2.2.1, (Below.refl _ _).drew⟩
        go_region_held3 (fun V => V.cell? ⟨b1, 0, none⟩ = some (.int .i64 u.lx) ∧ V.cell? ⟨b1, 1, none⟩ = some (.int .i64 u.ly) ∧ V.cell? ⟨b1, 2, none⟩ = some (.int .i64 t) ∧ V.cell? ⟨b1, 3, none⟩ = some (.int .i64 u.hy) ∧ Below Wr4.heap.size Wr4 V)
          (first | with_reducible exact hP0 | with_reducible exact heldW4 hlt (by assumption) (by assumption))
          (first
            | (go_simp; go_at_call 39; (with_reducible refine (HK.out.2.1 _ hBd.out).mono ?_); rintro e w' ⟨A1, c1, rfl, hr1, hb'⟩; try dsimp only)
            | (go_simp; go_at_call 38; (with_reducible refine (HK.out.2.2.2.1 _ _ _ (by assumption)).mono ?_); rintro e w' ⟨rfl, hb'⟩; try dsimp only))
        clear hP0 hBd
        obtain ⟨-, -, -, -, hbV⟩ := (by assumption : HoldW4 Wr4 _ (b1) (.int .i64 u.lx) (.int .i64 u.ly) (.int .i64 t) (.int .i64 u.hy))
        have H4 := Lib.hid (HR4.out.on hbV)
        clear hbV hlt HR4
        go_wp2_with fail
        refine wp_named_ fun Wr5 hWr5 => ?_
        have HR5 : Hid (FX w u p q t b1 b2 Wr5) := by show _; rw [hWr5]; exact H4.out
        clear hWr5 H4 
        have hBd := Lib.hid HR5.out.1.drew
        have hlt : b2 < Wr5.heap.size := HR5.out.c4.2.2.2.2
        have hP0 : Wr5.drew.cell? ⟨b2, 0, none⟩ = some (.int .i64 t) ∧ Wr5.drew.cell? ⟨b2, 1, none⟩ = some (.int .i64 u.ly) ∧ Wr5.drew.cell? ⟨b2, 2, none⟩ = some (.int .i64 u.hx) ∧ Wr5.drew.cell? ⟨b2, 3, none⟩ = some (.int .i64 u.hy) ∧ Below Wr5.heap.size Wr5 Wr5.drew := ⟨HR5.out.c4.1, HR5.out.c4.2.1, HR5.out.c4.2.2.1, HR5.out.c4.2.2.2.1, (Below.refl _ _).drew⟩
        go_region_held3 (fun V => V.cell? ⟨b2, 0, none⟩ = some (.int .i64 t) ∧ V.cell? ⟨b2, 1, none⟩ = some (.int .i64 u.ly) ∧ V.cell? ⟨b2, 2, none⟩ = some (.int .i64 u.hx) ∧ V.cell? ⟨b2, 3, none⟩ = some (.int .i64 u.hy) ∧ Below Wr5.heap.size Wr5 V)
          (first | with_reducible exact hP0 | with_reducible exact heldW4 hlt (by assumption) (by assumption))
          (first
            | (go_simp; go_at_call 39; (with_reducible refine (HK.out.2.1 _ hBd.out).mono ?_); rintro e w' ⟨A1, c1, rfl, hr1, hb'⟩; try dsimp only)
            | (go_simp; go_at_call 38; (with_reducible refine (HK.out.2.2.2.2.1 _ _ _ (by assumption)).mono ?_); rintro e w' ⟨rfl, hb'⟩; try dsimp only))
        clear hP0 hBd
        obtain ⟨-, -, -, -, hbV⟩ := (by assumption : HoldW4 Wr5 _ (b2) (.int .i64 t) (.int .i64 u.ly) (.int .i64 u.hx) (.int .i64 u.hy))
        have H5 := Lib.hid (HR5.out.on hbV)
        clear hbV hlt HR5
        obtain ⟨f5_0_0, f5_0_1, f5_0_2, f5_0_3, f5_0_4⟩ := H5.out.c0
        obtain ⟨f5_1_0, f5_1_1, f5_1_2⟩ := H5.out.c1
        obtain ⟨f5_2_0, f5_2_1, f5_2_2⟩ := H5.out.c2
        go_wp2_with fail
        with_reducible refine (HK.out.2.2.2.2.2.1 _).mono ?_
        rintro e w6 ⟨rfl, hb6⟩
        have H6 := Lib.hid (H5.out.on hb6)
        clear hb6 H5 f5_0_0 f5_0_1 f5_0_2 f5_0_3 f5_0_4 f5_1_0 f5_1_1 f5_1_2 f5_2_0 f5_2_1 f5_2_2
        obtain ⟨f6_3_0, f6_3_1, f6_3_2, f6_3_3, f6_3_4⟩ := H6.out.c3
        obtain ⟨f6_1_0, f6_1_1, f6_1_2⟩ := H6.out.c1
        obtain ⟨f6_2_0, f6_2_1, f6_2_2⟩ := H6.out.c2
        go_wp2_with fail
        with_reducible refine (HK.out.2.2.2.2.2.2.1 _).mono ?_
        rintro e w7 ⟨rfl, hb7⟩
        have H7 := Lib.hid (H6.out.on hb7)
        clear hb7 H6 f6_3_0 f6_3_1 f6_3_2 f6_3_3 f6_3_4 f6_1_0 f6_1_1 f6_1_2 f6_2_0 f6_2_1 f6_2_2
        obtain ⟨f7_4_0, f7_4_1, f7_4_2, f7_4_3, f7_4_4⟩ := H7.out.c4
        obtain ⟨f7_1_0, f7_1_1, f7_1_2⟩ := H7.out.c1
        obtain ⟨f7_2_0, f7_2_1, f7_2_2⟩ := H7.out.c2
        go_wp2_with fail
        with_reducible refine (HK.out.2.2.2.2.2.2.2.1 _).mono ?_
        rintro e w8 ⟨rfl, hb8⟩
        have H8 := Lib.hid (H7.out.on hb8)
        clear hb8 H7 f7_4_0 f7_4_1 f7_4_2 f7_4_3 f7_4_4 f7_1_0 f7_1_1 f7_1_2 f7_2_0 f7_2_1 f7_2_2
        obtain ⟨⟨e1, e2, e3⟩, e4, e5, e6⟩ := HK.out.2.2.2.2.2.2.2.2 (by trivial) h1 h2
        have HB := Lib.hid H8.out.1
        clear H8 HK
        subst e1 e2 e3 e4 e5 e6
        rcases y with _ | _ <;> rcases z with _ | _ <;> rcases l with _ | _ <;> rcases m with _ | _
        all_goals
          go_wp2_with fail
          go_ret
          exact ⟨by simp, HB.out⟩
    · have d0 : decide (t < u.lx) = true ∨ (decide (t < u.lx) = false ∧ decide (u.hx < t) = true) := by
        by_cases g : t < u.lx
        · exact .inl (decide_eq_true g)
        · exact .inr ⟨decide_eq_false g, decide_eq_true (by omega)⟩
      clear h1
      obtain ⟨f2_0_0, f2_0_1, f2_0_2, f2_0_3, f2_0_4⟩ := H2.out.c0
      rcases d0 with d1 | ⟨d1, d2⟩
      all_goals
        go_wp2_with fail
        refine (ans04_any _).mono ?_
        rintro e w11 ⟨rfl, hb11⟩
        have H11 := Lib.hid (H2.out.on hb11)
        clear hb11 H2 f2_0_0 f2_0_1 f2_0_2 f2_0_3 f2_0_4
        have HB := Lib.hid H11.out.1
        clear H11
        go_wp2_with fail
        go_ret
        exact ⟨rfl, HB.out⟩
  · have hne : (ue != 0) = true := by simpa using hu
    clear hu
    go_wp2_with fail
    refine (ans04_any _).mono ?_
    rintro e w3 ⟨rfl, hb3⟩
    have H3 := Lib.hid (H2.out.on hb3)
    clear hb3 H2 
    have HB := Lib.hid H3.out.1
    clear H3
    go_wp2_with fail
    go_ret
    exact ⟨rfl, HB.out⟩
end Go.Proofs.Ytcohioplkchojaa
