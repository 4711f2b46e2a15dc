/- merestonelaw04.WindowGrows: the walk. -/
import Derived.Test.YtcohioplkchojaaMoveLaw
import Derived.Test.YtcohioplkchojaaLawWindowMeets
namespace Go.Proofs.Ytcohioplkchojaa
open Go.RowKit
theorem wp_named_ {P : Program} {c : Code} {Q : Exit → Act → World → Prop} {a : Act} {w : World} (h : ∀ W, W = w → c.wp P Q a W) : c.wp P Q a w := h w rfl
abbrev FG (w : World) (u v : Win) (m0 m1 m2 m3 : Int) (p q : Pt) (W : World) : Prop := Below w.heap.size w W ∧ Blk W (w.heap.size) 52 #[.int .i64 u.lx, .int .i64 u.ly, .int .i64 u.hx, .int .i64 u.hy] ∧ Blk W (w.heap.size + 1) 69 #[.int .u8 m0, .int .u8 m1, .int .u8 m2, .int .u8 m3] ∧ Blk W (w.heap.size + 1 + 1) 35 #[.int .i64 p.x, .int .i64 p.y] ∧ Blk W (w.heap.size + 1 + 1 + 1) 35 #[.int .i64 q.x, .int .i64 q.y] ∧ Blk W (w.heap.size + 1 + 1 + 1 + 1) 52 #[.int .i64 v.lx, .int .i64 v.ly, .int .i64 v.hx, .int .i64 v.hy]
theorem FG.on {w W W' : World} {u v : Win} {m0 m1 m2 m3 : Int} {p q : Pt} (h : FG w u v m0 m1 m2 m3 p q W) (hb : Below W.heap.size W W') : FG w u v m0 m1 m2 m3 p q W' := ⟨below_on h.1 (Nat.le_refl _) hb, Blk.below h.2.1 hb (Blk.lt h.2.1), Blk.below h.2.2.1 hb (Blk.lt h.2.2.1), Blk.below h.2.2.2.1 hb (Blk.lt h.2.2.2.1), Blk.below h.2.2.2.2.1 hb (Blk.lt h.2.2.2.2.1), Blk.below h.2.2.2.2.2 hb (Blk.lt h.2.2.2.2.2)⟩
theorem FG.alloc {w W : World} {u v : Win} {m0 m1 m2 m3 : Int} {p q : Pt} (h : FG w u v m0 m1 m2 m3 p q W) (o : Obj) : FG w u v m0 m1 m2 m3 p q (W.alloc o) := ⟨h.1.alloc h.1.size o, Blk.alloc h.2.1 o, Blk.alloc h.2.2.1 o, Blk.alloc h.2.2.2.1 o, Blk.alloc h.2.2.2.2.1 o, Blk.alloc h.2.2.2.2.2 o⟩
theorem FG.c0 {w W : World} {u v : Win} {m0 m1 m2 m3 : Int} {p q : Pt} (h : FG w u v m0 m1 m2 m3 p q W) : W.cell? ⟨w.heap.size, 0, none⟩ = some (.int .i64 u.lx) ∧ W.cell? ⟨w.heap.size, 1, none⟩ = some (.int .i64 u.ly) ∧ W.cell? ⟨w.heap.size, 2, none⟩ = some (.int .i64 u.hx) ∧ W.cell? ⟨w.heap.size, 3, none⟩ = some (.int .i64 u.hy) ∧ w.heap.size < W.heap.size := ⟨by rw [Blk.cell h.2.1 0]; rfl, by rw [Blk.cell h.2.1 1]; rfl, by rw [Blk.cell h.2.1 2]; rfl, by rw [Blk.cell h.2.1 3]; rfl, Blk.lt h.2.1⟩
theorem FG.c1 {w W : World} {u v : Win} {m0 m1 m2 m3 : Int} {p q : Pt} (h : FG w u v m0 m1 m2 m3 p q W) : W.cell? ⟨w.heap.size + 1, 0, none⟩ = some (.int .u8 m0) ∧ W.cell? ⟨w.heap.size + 1, 1, none⟩ = some (.int .u8 m1) ∧ W.cell? ⟨w.heap.size + 1, 2, none⟩ = some (.int .u8 m2) ∧ W.cell? ⟨w.heap.size + 1, 3, none⟩ = some (.int .u8 m3) ∧ w.heap.size + 1 < W.heap.size := ⟨by rw [Blk.cell h.2.2.1 0]; rfl, by rw [Blk.cell h.2.2.1 1]; rfl, by rw [Blk.cell h.2.2.1 2]; rfl, by rw [Blk.cell h.2.2.1 3]; rfl, Blk.lt h.2.2.1⟩
theorem FG.c2 {w W : World} {u v : Win} {m0 m1 m2 m3 : Int} {p q : Pt} (h : FG w u v m0 m1 m2 m3 p q W) : W.cell? ⟨w.heap.size + 1 + 1, 0, none⟩ = some (.int .i64 p.x) ∧ W.cell? ⟨w.heap.size + 1 + 1, 1, none⟩ = some (.int .i64 p.y) ∧ w.heap.size + 1 + 1 < W.heap.size := ⟨by rw [Blk.cell h.2.2.2.1 0]; rfl, by rw [Blk.cell h.2.2.2.1 1]; rfl, Blk.lt h.2.2.2.1⟩
theorem FG.c3 {w W : World} {u v : Win} {m0 m1 m2 m3 : Int} {p q : Pt} (h : FG w u v m0 m1 m2 m3 p q W) : W.cell? ⟨w.heap.size + 1 + 1 + 1, 0, none⟩ = some (.int .i64 q.x) ∧ W.cell? ⟨w.heap.size + 1 + 1 + 1, 1, none⟩ = some (.int .i64 q.y) ∧ w.heap.size + 1 + 1 + 1 < W.heap.size := ⟨by rw [Blk.cell h.2.2.2.2.1 0]; rfl, by rw [Blk.cell h.2.2.2.2.1 1]; rfl, Blk.lt h.2.2.2.2.1⟩
theorem FG.c4 {w W : World} {u v : Win} {m0 m1 m2 m3 : Int} {p q : Pt} (h : FG w u v m0 m1 m2 m3 p q W) : W.cell? ⟨w.heap.size + 1 + 1 + 1 + 1, 0, none⟩ = some (.int .i64 v.lx) ∧ W.cell? ⟨w.heap.size + 1 + 1 + 1 + 1, 1, none⟩ = some (.int .i64 v.ly) ∧ W.cell? ⟨w.heap.size + 1 + 1 + 1 + 1, 2, none⟩ = some (.int .i64 v.hx) ∧ W.cell? ⟨w.heap.size + 1 + 1 + 1 + 1, 3, none⟩ = some (.int .i64 v.hy) ∧ w.heap.size + 1 + 1 + 1 + 1 < W.heap.size := ⟨by rw [Blk.cell h.2.2.2.2.2 0]; rfl, by rw [Blk.cell h.2.2.2.2.2 1]; rfl, by rw [Blk.cell h.2.2.2.2.2 2]; rfl, by rw [Blk.cell h.2.2.2.2.2 3]; rfl, Blk.lt h.2.2.2.2.2⟩
theorem FG.new (w : World) (u v : Win) (m0 m1 m2 m3 : Int) (p q : Pt) : FG w u v m0 m1 m2 m3 p q (((((w.alloc (.cells #[.int .i64 u.lx, .int .i64 u.ly, .int .i64 u.hx, .int .i64 u.hy] 52)).alloc (.cells #[.int .u8 m0, .int .u8 m1, .int .u8 m2, .int .u8 m3] 69)).alloc (.cells #[.int .i64 p.x, .int .i64 p.y] 35)).alloc (.cells #[.int .i64 q.x, .int .i64 q.y] 35)).alloc (.cells #[.int .i64 v.lx, .int .i64 v.ly, .int .i64 v.hx, .int .i64 v.hy] 52)) := by
  refine ⟨((((((Below.refl _ _).alloc (Nat.le_refl _) _).alloc (by simp) _).alloc (by simp; omega) _).alloc (by simp; omega) _).alloc (by simp; omega) _), ?_, ?_, ?_, ?_, ?_⟩
  · have := Blk.alloc (Blk.alloc (Blk.alloc (Blk.alloc (Blk.new w 52 #[.int .i64 u.lx, .int .i64 u.ly, .int .i64 u.hx, .int .i64 u.hy]) (.cells #[.int .u8 m0, .int .u8 m1, .int .u8 m2, .int .u8 m3] 69)) (.cells #[.int .i64 p.x, .int .i64 p.y] 35)) (.cells #[.int .i64 q.x, .int .i64 q.y] 35)) (.cells #[.int .i64 v.lx, .int .i64 v.ly, .int .i64 v.hx, .int .i64 v.hy] 52)
    exact this
  · have := Blk.alloc (Blk.alloc (Blk.alloc (Blk.new (w.alloc (.cells #[.int .i64 u.lx, .int .i64 u.ly, .int .i64 u.hx, .int .i64 u.hy] 52)) 69 #[.int .u8 m0, .int .u8 m1, .int .u8 m2, .int .u8 m3]) (.cells #[.int .i64 p.x, .int .i64 p.y] 35)) (.cells #[.int .i64 q.x, .int .i64 q.y] 35)) (.cells #[.int .i64 v.lx, .int .i64 v.ly, .int .i64 v.hx, .int .i64 v.hy] 52)
    rw [World.size_alloc] at this
    exact this
  · have := Blk.alloc (Blk.alloc (Blk.new ((w.alloc (.cells #[.int .i64 u.lx, .int .i64 u.ly, .int .i64 u.hx, .int .i64 u.hy] 52)).alloc (.cells #[.int .u8 m0, .int .u8 m1, .int .u8 m2, .int .u8 m3] 69)) 35 #[.int .i64 p.x, .int .i64 p.y]) (.cells #[.int .i64 q.x, .int .i64 q.y] 35)) (.cells #[.int .i64 v.lx, .int .i64 v.ly, .int .i64 v.hx, .int .i64 v.hy] 52)
    rw [World.size_alloc, World.size_alloc] at this
    exact this
  · have := Blk.alloc (Blk.new (((w.alloc (.cells #[.int .i64 u.lx, .int .i64 u.ly, .int .i64 u.hx, .int .i64 u.hy] 52)).alloc (.cells #[.int .u8 m0, .int .u8 m1, .int .u8 m2, .int .u8 m3] 69)).alloc (.cells #[.int .i64 p.x, .int .i64 p.y] 35)) 35 #[.int .i64 q.x, .int .i64 q.y]) (.cells #[.int .i64 v.lx, .int .i64 v.ly, .int .i64 v.hx, .int .i64 v.hy] 52)
    rw [World.size_alloc, World.size_alloc, World.size_alloc] at this
    exact this
  · have := Blk.new ((((w.alloc (.cells #[.int .i64 u.lx, .int .i64 u.ly, .int .i64 u.hx, .int .i64 u.hy] 52)).alloc (.cells #[.int .u8 m0, .int .u8 m1, .int .u8 m2, .int .u8 m3] 69)).alloc (.cells #[.int .i64 p.x, .int .i64 p.y] 35)).alloc (.cells #[.int .i64 q.x, .int .i64 q.y] 35)) 52 #[.int .i64 v.lx, .int .i64 v.ly, .int .i64 v.hx, .int .i64 v.hy]
    rw [World.size_alloc, World.size_alloc, World.size_alloc, World.size_alloc] at this
    exact this
theorem win_goodG {v : Win} (h : winE v = 0) : (-1073741824 ≤ v.lx ∧ v.lx ≤ v.hx ∧ v.hx ≤ 1073741824) ∧ (-1073741824 ≤ v.ly ∧ v.ly ≤ v.hy ∧ v.hy ≤ 1073741824) := by
  unfold winE at h
  split at h
  · rename_i hg
    simp only [goodL, List.all_cons, List.all_nil, Bool.and_true, Bool.and_eq_true, good_iff, Win.low, Win.high] at hg
    split at h
    · omega
    · omega
  · omega
theorem win_ok {v : Win} (h : winE v = 0) : v.lx ≤ v.hx ∧ v.ly ≤ v.hy := by
  obtain ⟨⟨_, h1, _⟩, _, h2, _⟩ := win_goodG h
  exact ⟨h1, h2⟩
theorem grows_has {u v : Win} {p : Pt} (hu : winE u = 0) (hv : winE v = 0) (h1 : v.lx ≤ u.lx) (h2 : u.hx ≤ v.hx) (h3 : v.ly ≤ u.ly) (h4 : u.hy ≤ v.hy) (h : hasR u p = true) : hasR v p = true := by
  unfold hasR hasE at *
  rw [if_pos hu] at h
  rw [if_pos hv]
  by_cases hg : good p = true
  · skip
    rw [if_pos hg, if_pos rfl, hasB_iff]
    rw [if_pos hg, if_pos rfl, hasB_iff] at h
    omega
  · rw [if_neg hg, if_neg (by omega)] at h
    cases h
theorem grows_cut {u v : Win} {a b : Pt} (hu : winE u = 0) (hv : winE v = 0) (h1 : v.lx ≤ u.lx) (h2 : u.hx ≤ v.hx) (h3 : v.ly ≤ u.ly) (h4 : u.hy ≤ v.hy) (h : cutB u a b = true) : cutB v a b = true := by
  rcases cut_cases u a b with ⟨g, -⟩ | ⟨-, -, -, g⟩ | ⟨-, g, -, e⟩
  · exact absurd hu g
  · rw [g] at h; cases h
  · rcases cut_cases v a b with ⟨g', -⟩ | ⟨-, g', -⟩ | ⟨-, -, -, e'⟩
    · exact absurd hv g'
    · rw [g] at g'; cases g'
    · rw [e] at h
      rw [e', cutsR_iff (win_ok hv).1 (win_ok hv).2]
      rw [cutsR_iff (win_ok hu).1 (win_ok hu).2] at h
      exact hit_more h1 h2 h3 h4 h
theorem grows_meet {u v : Win} {xs : List Pt} (hu : winE u = 0) (hv : winE v = 0) (h1 : v.lx ≤ u.lx) (h2 : u.hx ≤ v.hx) (h3 : v.ly ≤ u.ly) (h4 : u.hy ≤ v.hy) (h : meetV u xs = true) : meetV v xs = true := by
  rcases meet_cases u xs with ⟨g, -⟩ | ⟨-, -, -, g⟩ | ⟨-, g, -, e⟩
  · exact absurd hu g
  · rw [g] at h; cases h
  · rcases meet_cases v xs with ⟨g', -⟩ | ⟨-, g', -⟩ | ⟨-, -, -, e'⟩
    · exact absurd hv g'
    · exact absurd g g'
    · rw [e, meetsB_iff] at h
      rw [e', meetsB_iff]
      exact meets_more (by have := (checkI_zero g).2.2.1; omega) (win_ok hu) h1 h2 h3 h4 h
theorem wrap64_in (z : Int) : -9223372036854775808 ≤ wrap64 z ∧ wrap64 z ≤ 9223372036854775807 := by unfold wrap64; omega
set_option maxRecDepth 100000 in
set_option maxHeartbeats 1600000 in
theorem windowGrows_any (u : Win) (m0 m1 m2 m3 : Int) (p q : Pt) (xs : List Pt) (A : Option Addr) (n cap : Nat) (w : World) (hu : u.inI) (b0 : 0 ≤ m0 ∧ m0 ≤ 255) (b1 : 0 ≤ m1 ∧ m1 ≤ 255) (b2 : 0 ≤ m2 ∧ m2 ≤ 255) (b3 : 0 ≤ m3 ∧ m3 ≤ 255) (hp : p.inI) (hq : q.inI) (hr : Reads w w.heap.size 2 A n (ptsV xs)) (hn : n ≤ 8796093022208) (hx : ∀ p ∈ xs, p.inI) :
    Calls Try.prog 12 #[winV u, .agg #[.int .u8 m0, .int .u8 m1, .int .u8 m2, .int .u8 m3], ptV p, ptV q, .slice A n cap] w fun e w' => e = .returned (.bool true) ∧ Below w.heap.size w w' := by
  obtain ⟨v, hv⟩ : ∃ v : Win, v = ⟨wrap64 (u.lx - m0), wrap64 (u.ly - m1), wrap64 (u.hx + m2), wrap64 (u.hy + m3)⟩ := ⟨_, rfl⟩
  have v1 : wrap64 (u.lx - m0) = v.lx := by rw [hv]
  have v2 : wrap64 (u.ly - m1) = v.ly := by rw [hv]
  have v3 : wrap64 (u.hx + m2) = v.hx := by rw [hv]
  have v4 : wrap64 (u.hy + m3) = v.hy := by rw [hv]
  have hvi : v.inI := by rw [hv]; exact ⟨⟨wrap64_in _, wrap64_in _⟩, wrap64_in _, wrap64_in _⟩
  have hm : winE u = 0 → v.lx ≤ u.lx ∧ u.hx ≤ v.hx ∧ v.ly ≤ u.ly ∧ u.hy ≤ v.hy := fun h => by
    obtain ⟨g1, g2⟩ := win_goodG h
    rw [← v1, ← v2, ← v3, ← v4]
    unfold wrap64
    omega
  have kO : ∀ V, Below w.heap.size w V → Calls Try.prog 39 #[.slice A n cap] V fun e V' => ∃ A' c, e = .returned (.slice A' n c) ∧ Reads V' V'.heap.size 2 A' n (ptsV xs) ∧ Below V.heap.size V V' := fun V hV =>
    (own04_any xs A n cap V ((hr.below hV).more hV.size) hn).mono fun e V' ⟨A', c, h1, h2, h3⟩ => ⟨A', c, h1, Reads.of_own h2, h3⟩
  have kW1 : ∀ V, Calls Try.prog 37 #[.agg #[.int .i64 u.lx, .int .i64 u.ly, .int .i64 u.hx, .int .i64 u.hy]] V fun e V' => e = .returned (.int .i64 (winE u)) ∧ Below V.heap.size V V' := fun V => winOK_any u V hu
  have kW2 : ∀ V, Calls Try.prog 37 #[.agg #[.int .i64 v.lx, .int .i64 v.ly, .int .i64 v.hx, .int .i64 v.hy]] V fun e V' => e = .returned (.int .i64 (winE v)) ∧ Below V.heap.size V V' := fun V => winOK_any v V hvi
  have kH1 : ∀ V, Calls Try.prog 42 #[.agg #[.int .i64 u.lx, .int .i64 u.ly, .int .i64 u.hx, .int .i64 u.hy], .agg #[.int .i64 p.x, .int .i64 p.y]] V fun e V' => e = .returned (.tuple #[.bool (hasR u p), .int .i64 (hasE u p)]) ∧ Below V.heap.size V V' := fun V => has_any u p V hu hp
  have kH2 : ∀ V, Calls Try.prog 42 #[.agg #[.int .i64 v.lx, .int .i64 v.ly, .int .i64 v.hx, .int .i64 v.hy], .agg #[.int .i64 p.x, .int .i64 p.y]] V fun e V' => e = .returned (.tuple #[.bool (hasR v p), .int .i64 (hasE v p)]) ∧ Below V.heap.size V V' := fun V => has_any v p V hvi hp
  have kC1 : ∀ V, Calls Try.prog 43 #[.agg #[.int .i64 u.lx, .int .i64 u.ly, .int .i64 u.hx, .int .i64 u.hy], .agg #[.int .i64 p.x, .int .i64 p.y], .agg #[.int .i64 q.x, .int .i64 q.y]] V fun e V' => e = .returned (.tuple #[.bool (cutB u p q), .int .i64 (cutE u p q)]) ∧ Below V.heap.size V V' := fun V => cuts_any u p q V hu hp hq
  have kC2 : ∀ V, Calls Try.prog 43 #[.agg #[.int .i64 v.lx, .int .i64 v.ly, .int .i64 v.hx, .int .i64 v.hy], .agg #[.int .i64 p.x, .int .i64 p.y], .agg #[.int .i64 q.x, .int .i64 q.y]] V fun e V' => e = .returned (.tuple #[.bool (cutB v p q), .int .i64 (cutE v p q)]) ∧ Below V.heap.size V V' := fun V => cuts_any v p q V hvi hp hq
  have kM1 : ∀ V A' c, Reads V V.heap.size 2 A' n (ptsV xs) → Calls Try.prog 38 #[.agg #[.int .i64 u.lx, .int .i64 u.ly, .int .i64 u.hx, .int .i64 u.hy], .slice A' n c] V fun e V' => e = .returned (.tuple #[.bool (meetV u xs), .int .i64 (meetE u xs)]) ∧ Below V.heap.size V V' := fun V A' c h => wmeets_any u xs A' n c V h (by omega) hx hu
  have kM2 : ∀ V A' c, Reads V V.heap.size 2 A' n (ptsV xs) → Calls Try.prog 38 #[.agg #[.int .i64 v.lx, .int .i64 v.ly, .int .i64 v.hx, .int .i64 v.hy], .slice A' n c] V fun e V' => e = .returned (.tuple #[.bool (meetV v xs), .int .i64 (meetE v xs)]) ∧ Below V.heap.size V V' := fun V A' c h => wmeets_any v xs A' n c V h (by omega) hx hvi
  have hF : winE u = 0 → winE v = 0 → (hasR u p = true → hasR v p = true) ∧ (cutB u p q = true → cutB v p q = true) ∧ (meetV u xs = true → meetV v xs = true) := fun g1 g2 => by
    obtain ⟨h1, h2, h3, h4⟩ := hm g1
    exact ⟨grows_has g1 g2 h1 h2 h3 h4, grows_cut g1 g2 h1 h2 h3 h4, grows_meet g1 g2 h1 h2 h3 h4⟩
  generalize hasR u p = a at *
  generalize hasE u p = ae at *
  generalize hasR v p = b at *
  generalize hasE v p = be at *
  generalize cutB u p q = c at *
  generalize cutE u p q = ce at *
  generalize cutB v p q = d at *
  generalize cutE v p q = de at *
  generalize meetV u xs = x at *
  generalize meetE u xs = xe at *
  generalize meetV v xs = y at *
  generalize meetE v xs = ye at *
  generalize winE u = ue at *
  generalize winE v = ve at *
  have HK := Lib.hid (And.intro kO (And.intro kW1 (And.intro kW2 (And.intro kH1 (And.intro kH2 (And.intro kC1 (And.intro kC2 (And.intro kM1 (And.intro kM2 hF)))))))))
  clear kO kW1 kW2 kH1 kH2 kC1 kC2 kM1 kM2 hF hr hx hn hp hq hm hvi hu hv
  have H0 := Lib.hid (FG.new w u v m0 m1 m2 m3 p q)
  unfold winV ptV
  go_enter Try.func12, Try.ntmps12
  go_wp2_with fail
  generalize (((((w.alloc (.cells #[.int .i64 u.lx, .int .i64 u.ly, .int .i64 u.hx, .int .i64 u.hy] 52)).alloc (.cells #[.int .u8 m0, .int .u8 m1, .int .u8 m2, .int .u8 m3] 69)).alloc (.cells #[.int .i64 p.x, .int .i64 p.y] 35)).alloc (.cells #[.int .i64 q.x, .int .i64 q.y] 35)).alloc (.cells #[.int .i64 v.lx, .int .i64 v.ly, .int .i64 v.hx, .int .i64 v.hy] 52)) = W0 at *
  clear b0 b1 b2 b3 v1 v2 v3 v4
  refine (ans04_any _).mono ?_
  rintro e w1 ⟨rfl, hb1⟩
  have H1 := Lib.hid (H0.out.on hb1)
  clear hb1 H0 
  obtain ⟨f1_0_0, f1_0_1, f1_0_2, f1_0_3, f1_0_4⟩ := H1.out.c0
  go_wp2_with fail
  with_reducible refine (HK.out.2.1 _).mono ?_
  rintro e w2 ⟨rfl, hb2⟩
  have H2 := Lib.hid (H1.out.on hb2)
  clear hb2 H1 f1_0_0 f1_0_1 f1_0_2 f1_0_3 f1_0_4
  by_cases hu : ue = 0
  · subst hu
    obtain ⟨f2_4_0, f2_4_1, f2_4_2, f2_4_3, f2_4_4⟩ := H2.out.c4
    go_wp2_with fail
    with_reducible refine (HK.out.2.2.1 _).mono ?_
    rintro e w3 ⟨rfl, hb3⟩
    have H3 := Lib.hid (H2.out.on hb3)
    clear hb3 H2 f2_4_0 f2_4_1 f2_4_2 f2_4_3 f2_4_4
    by_cases hv : ve = 0
    · subst hv
      obtain ⟨f3_0_0, f3_0_1, f3_0_2, f3_0_3, f3_0_4⟩ := H3.out.c0
      obtain ⟨f3_2_0, f3_2_1, f3_2_2⟩ := H3.out.c2
      go_wp2_with fail
      with_reducible refine (HK.out.2.2.2.1 _).mono ?_
      rintro e w4 ⟨rfl, hb4⟩
      have H4 := Lib.hid (H3.out.on hb4)
      clear hb4 H3 f3_0_0 f3_0_1 f3_0_2 f3_0_3 f3_0_4 f3_2_0 f3_2_1 f3_2_2
      obtain ⟨f4_4_0, f4_4_1, f4_4_2, f4_4_3, f4_4_4⟩ := H4.out.c4
      obtain ⟨f4_2_0, f4_2_1, f4_2_2⟩ := H4.out.c2
      go_wp2_with fail
      with_reducible refine (HK.out.2.2.2.2.1 _).mono ?_
      rintro e w5 ⟨rfl, hb5⟩
      have H5 := Lib.hid (H4.out.on hb5)
      clear hb5 H4 f4_4_0 f4_4_1 f4_4_2 f4_4_3 f4_4_4 f4_2_0 f4_2_1 f4_2_2
      obtain ⟨f5_0_0, f5_0_1, f5_0_2, f5_0_3, f5_0_4⟩ := H5.out.c0
      obtain ⟨f5_2_0, f5_2_1, f5_2_2⟩ := H5.out.c2
      obtain ⟨f5_3_0, f5_3_1, f5_3_2⟩ := H5.out.c3
      go_wp2_with fail
      with_reducible refine (HK.out.2.2.2.2.2.1 _).mono ?_
      rintro e w6 ⟨rfl, hb6⟩
      have H6 := Lib.hid (H5.out.on hb6)
      clear hb6 H5 f5_0_0 f5_0_1 f5_0_2 f5_0_3 f5_0_4 f5_2_0 f5_2_1 f5_2_2 f5_3_0 f5_3_1 f5_3_2
      obtain ⟨f6_4_0, f6_4_1, f6_4_2, f6_4_3, f6_4_4⟩ := H6.out.c4
      obtain ⟨f6_2_0, f6_2_1, f6_2_2⟩ := H6.out.c2
      obtain ⟨f6_3_0, f6_3_1, f6_3_2⟩ := H6.out.c3
      go_wp2_with fail
      with_reducible refine (HK.out.2.2.2.2.2.2.1 _).mono ?_
      rintro e w7 ⟨rfl, hb7⟩
      have H7 := Lib.hid (H6.out.on hb7)
      clear hb7 H6 f6_4_0 f6_4_1 f6_4_2 f6_4_3 f6_4_4 f6_2_0 f6_2_1 f6_2_2 f6_3_0 f6_3_1 f6_3_2
      go_wp2_with fail
      refine wp_named_ fun Wr8 hWr8 => ?_
      have HR8 : Hid (FG w u v m0 m1 m2 m3 p q Wr8) := by show _; rw [hWr8]; exact H7.out
      clear hWr8 H7 
      have hBd := Lib.hid HR8.out.1.drew
      have hlt : w.heap.size < Wr8.heap.size := HR8.out.c0.2.2.2.2
      have hP0 : Wr8.drew.cell? ⟨w.heap.size, 0, none⟩ = some (.int .i64 u.lx) ∧ Wr8.drew.cell? ⟨w.heap.size, 1, none⟩ = some (.int .i64 u.ly) ∧ Wr8.drew.cell? ⟨w.heap.size, 2, none⟩ = some (.int .i64 u.hx) ∧ Wr8.drew.cell? ⟨w.heap.size, 3, none⟩ = some (.int .i64 u.hy) ∧ Below Wr8.heap.size Wr8 Wr8.drew := ⟨HR8.out.c0.1, HR8.out.c0.2.1, HR8.out.c0.2.2.1, HR8.out.c0.2.2.2.1, (Below.refl _ _).drew⟩
      go_region_held3 (fun V => V.cell? ⟨w.heap.size, 0, none⟩ = some (.int .i64 u.lx) ∧ V.cell? ⟨w.heap.size, 1, none⟩ = some (.int .i64 u.ly) ∧ V.cell? ⟨w.heap.size, 2, none⟩ = some (.int .i64 u.hx) ∧ V.cell? ⟨w.heap.size, 3, none⟩ = some (.int .i64 u.hy) ∧ Below Wr8.heap.size Wr8 V)
        (first | with_reducible exact hP0 | with_reducible exact heldW4 hlt (by assumption) (by assumption))
        (first
          | (go_simp; go_at_call 39; (with_reducible refine (HK.out.1 _ hBd.out).mono ?_); rintro e w' ⟨A1, c1, rfl, hr1, hb'⟩; try dsimp only)
          | (go_simp; go_at_call 38; (with_reducible refine (HK.out.2.2.2.2.2.2.2.1 _ _ _ (by assumption)).mono ?_); rintro e w' ⟨rfl, hb'⟩; try dsimp only))
      clear hP0 hBd
      obtain ⟨-, -, -, -, hbV⟩ := (by assumption : HoldW4 Wr8 _ (w.heap.size) (.int .i64 u.lx) (.int .i64 u.ly) (.int .i64 u.hx) (.int .i64 u.hy))
      have H8 := Lib.hid (HR8.out.on hbV)
      clear hbV hlt HR8
      go_wp2_with fail
      refine wp_named_ fun Wr9 hWr9 => ?_
      have HR9 : Hid (FG w u v m0 m1 m2 m3 p q Wr9) := by show _; rw [hWr9]; exact H8.out
      clear hWr9 H8 
      have hBd := Lib.hid HR9.out.1.drew
      have hlt : w.heap.size + 1 + 1 + 1 + 1 < Wr9.heap.size := HR9.out.c4.2.2.2.2
      have hP0 : Wr9.drew.cell? ⟨w.heap.size + 1 + 1 + 1 + 1, 0, none⟩ = some (.int .i64 v.lx) ∧ Wr9.drew.cell? ⟨w.heap.size + 1 + 1 + 1 + 1, 1, none⟩ = some (.int .i64 v.ly) ∧ Wr9.drew.cell? ⟨w.heap.size + 1 + 1 + 1 + 1, 2, none⟩ = some (.int .i64 v.hx) ∧ Wr9.drew.cell? ⟨w.heap.size + 1 + 1 + 1 + 1, 3, none⟩ = some (.int .i64 v.hy) ∧ Below Wr9.heap.size Wr9 Wr9.drew := ⟨HR9.out.c4.1, HR9.out.c4.2.1, HR9.out.c4.2.2.1, HR9.out.c4.2.2.2.1, (Below.refl _ _).drew⟩
      go_region_held3 (fun V => V.cell? ⟨w.heap.size + 1 + 1 + 1 + 1, 0, none⟩ = some (.int .i64 v.lx) ∧ V.cell? ⟨w.heap.size + 1 + 1 + 1 + 1, 1, none⟩ = some (.int .i64 v.ly) ∧ V.cell? ⟨w.heap.size + 1 + 1 + 1 + 1, 2, none⟩ = some (.int .i64 v.hx) ∧ V.cell? ⟨w.heap.size + 1 + 1 + 1 + 1, 3, none⟩ = some (.int .i64 v.hy) ∧ Below Wr9.heap.size Wr9 V)
        (first | with_reducible exact hP0 | with_reducible exact heldW4 hlt (by assumption) (by assumption))
        (first
          | (go_simp; go_at_call 39; (with_reducible refine (HK.out.1 _ hBd.out).mono ?_); rintro e w' ⟨A1, c1, rfl, hr1, hb'⟩; try dsimp only)
          | (go_simp; go_at_call 38; (with_reducible refine (HK.out.2.2.2.2.2.2.2.2.1 _ _ _ (by assumption)).mono ?_); rintro e w' ⟨rfl, hb'⟩; try dsimp only))
      clear hP0 hBd
      obtain ⟨-, -, -, -, hbV⟩ := (by assumption : HoldW4 Wr9 _ (w.heap.size + 1 + 1 + 1 + 1) (.int .i64 v.lx) (.int .i64 v.ly) (.int .i64 v.hx) (.int .i64 v.hy))
      have H9 := Lib.hid (HR9.out.on hbV)
      clear hbV hlt HR9
      obtain ⟨h1, h2, h3⟩ := HK.out.2.2.2.2.2.2.2.2.2 (by trivial) (by trivial)
      have HB := Lib.hid H9.out.1
      clear H9 HK
      rcases a with _ | _ <;> rcases c with _ | _ <;> rcases x with _ | _
      all_goals
        try (obtain rfl := h1 rfl)
        try (obtain rfl := h2 rfl)
        try (obtain rfl := h3 rfl)
        clear h1 h2 h3
        go_wp2_with fail
        go_ret
        exact ⟨by simp, HB.out⟩
    · have hne : (ve != 0) = true := by simpa using hv
      clear hv
      go_wp2_with fail
      refine (ans04_any _).mono ?_
      rintro e w4 ⟨rfl, hb4⟩
      have H4 := Lib.hid (H3.out.on hb4)
      clear hb4 H3 
      have HB := Lib.hid H4.out.1
      clear H4
      go_wp2_with fail
      go_ret
      exact ⟨rfl, HB.out⟩
  · have hne : (ue != 0) = true := by simpa using hu
    clear hu
    go_wp2_with fail
    refine (ans04_any _).mono ?_
    rintro e w3 ⟨rfl, hb3⟩
    have H3 := Lib.hid (H2.out.on hb3)
    clear hb3 H2 
    have HB := Lib.hid H3.out.1
    clear H3
    go_wp2_with fail
    go_ret
    exact ⟨rfl, HB.out⟩
end Go.Proofs.Ytcohioplkchojaa
