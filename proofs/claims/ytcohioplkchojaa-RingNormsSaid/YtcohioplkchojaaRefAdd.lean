/- merestoneref01: Of, Sign: the walks. -/
/- merestoneref01: Add: the walk. -/
/- merestoneref01: Sub: the walk. -/
import Derived.Test.YtcohioplkchojaaLimbs
import Derived.Deep.RegionHeld3
namespace Go.Proofs.Ytcohioplkchojaa
open Go.RowKit
theorem ofR_any (n : Int) (w : World) (h1 : -9223372036854775808 ≤ n) (h2 : n ≤ 9223372036854775807) :
    Calls Try.prog 82 #[.int .i64 n] w fun e w' => e = .returned (i128 n) ∧ Below w.heap.size w w' := by
  unfold i128
  have e2 : IntKind.u64.wrap n = n % 18446744073709551616 := u64_wrap n
  obtain ⟨lo, hlo⟩ : ∃ y, y = n % 18446744073709551616 := ⟨_, rfl⟩
  rw [← hlo] at e2 ⊢
  by_cases hn : n < 0
  · have e1 : n / 18446744073709551616 = -1 := by omega
    rw [e1]
    clear e1 hlo
    go_enter Try.func82, Try.ntmps82
    go_wp2
    exact bodyPost_ret (v := .agg #[.int .i64 (-1), .int .u64 lo]) (by simp [results, Try.results82, go_sem]) rfl ⟨rfl, (Below.refl _ _).alloc (Nat.le_refl _) _⟩
  · have e1 : n / 18446744073709551616 = 0 := by omega
    rw [e1]
    clear e1 hlo
    go_enter Try.func82, Try.ntmps82
    go_wp2
    exact bodyPost_ret (v := .agg #[.int .i64 0, .int .u64 lo]) (by simp [results, Try.results82, go_sem]) rfl ⟨rfl, (Below.refl _ _).alloc (Nat.le_refl _) _⟩
theorem signR_any (z : Int) (w : World) (hz : small z) :
    Calls Try.prog 57 #[i128 z] w fun e w' => e = .returned (.int .i64 (sgI z)) ∧ Below w.heap.size w w' := by
  unfold small at hz
  obtain ⟨h1, h2⟩ := hz
  have h3 : (z < 0 ∧ z / 18446744073709551616 < 0 ∧ sgI z = -1) ∨ (z = 0 ∧ sgI z = 0) ∨ (0 < z ∧ 0 ≤ z / 18446744073709551616 ∧ (z / 18446744073709551616 ≠ 0 ∨ z / 18446744073709551616 = 0 ∧ z % 18446744073709551616 ≠ 0) ∧ sgI z = 1) := by
    unfold sgI
    by_cases a : z < 0
    · left; exact ⟨a, by omega, if_pos a⟩
    · by_cases b : z = 0
      · right; left; exact ⟨b, by rw [if_neg a, if_pos b]⟩
      · right; right; exact ⟨by omega, by omega, by omega, by rw [if_neg a, if_neg b]⟩
  rcases h3 with ⟨a, b, e⟩ | ⟨rfl, e⟩ | ⟨a, b, c | ⟨c, d⟩, e⟩
  · rw [e]
    unfold i128
    generalize z / 18446744073709551616 = zh at *
    generalize z % 18446744073709551616 = zl at *
    clear a h1 h2 e
    go_enter Try.func57, Try.ntmps57
    go_wp2
    go_ret
    exact ⟨rfl, (Below.refl _ _).alloc (Nat.le_refl _) _⟩
  · rw [e, i128_zero]
    clear e
    go_enter Try.func57, Try.ntmps57
    go_wp2
    go_ret
    exact ⟨rfl, (Below.refl _ _).alloc (Nat.le_refl _) _⟩
  · rw [e]
    unfold i128
    generalize z / 18446744073709551616 = zh at *
    generalize z % 18446744073709551616 = zl at *
    have g1 : (zh == 0) = false := by simpa using c
    clear a h1 h2 e c
    go_enter Try.func57, Try.ntmps57
    go_wp2
    go_ret
    exact ⟨rfl, (Below.refl _ _).alloc (Nat.le_refl _) _⟩
  · rw [e]
    unfold i128
    generalize z / 18446744073709551616 = zh at *
    generalize z % 18446744073709551616 = zl at *
    have g1 : (zl == 0) = false := by simpa using d
    subst c
    clear a h1 h2 e d b
    go_enter Try.func57, Try.ntmps57
    go_wp2
    go_ret
    exact ⟨rfl, (Below.refl _ _).alloc (Nat.le_refl _) _⟩
end Go.Proofs.Ytcohioplkchojaa
namespace Go.Proofs.Ytcohioplkchojaa
open Go.RowKit
theorem blk_two {W : World} {g : Nat} {t : TypeId} {a b : Value} (h : Blk W g t #[a, b]) : W.cell? ⟨g, 0, none⟩ = some a ∧ W.cell? ⟨g, 1, none⟩ = some b ∧ W.frozen? ⟨g, 0, none⟩ = false ∧ W.frozen? ⟨g, 1, none⟩ = false :=
  ⟨Blk.cell h 0, Blk.cell h 1, Blk.frozen h 0, Blk.frozen h 1⟩
theorem put_two {W : World} {g : Nat} {t : TypeId} {a b : Value} (h : Blk W g t #[a, b]) (u v : Value) : ((W.setCell ⟨g, 0, none⟩ u).setCell ⟨g, 1, none⟩ v).cell? ⟨g, 0, none⟩ = some u ∧ ((W.setCell ⟨g, 0, none⟩ u).setCell ⟨g, 1, none⟩ v).cell? ⟨g, 1, none⟩ = some v ∧ ((W.setCell ⟨g, 0, none⟩ u).setCell ⟨g, 1, none⟩ v).frozen? ⟨g, 0, none⟩ = false ∧ ((W.setCell ⟨g, 0, none⟩ u).setCell ⟨g, 1, none⟩ v).frozen? ⟨g, 1, none⟩ = false :=
  blk_two ((h.set_ 0 u).set_ 1 v)
/-- What the region reads. -/
abbrev HoldA (w V : World) (xh xl yh yl : Int) : Prop := V.cell? ⟨w.heap.size, 0, none⟩ = some (.int .i64 xh) ∧ V.cell? ⟨w.heap.size, 1, none⟩ = some (.int .u64 xl) ∧ V.cell? ⟨w.heap.size + 1, 0, none⟩ = some (.int .i64 yh) ∧ V.cell? ⟨w.heap.size + 1, 1, none⟩ = some (.int .u64 yl) ∧ Blk V (w.heap.size + 1 + 1) 26 #[.int .i64 0, .int .u64 0] ∧ Below w.heap.size w V
theorem heldA {w V V' : World} {xh xl yh yl : Int} (h : HoldA w V xh xl yh yl) (hb : Below V.heap.size V V') : HoldA w V' xh xl yh yl := by
  obtain ⟨h1, h2, h3, h4, h5, h6⟩ := h
  have hl := Blk.lt h5
  exact ⟨(hb.cell (p := ⟨_, 0, none⟩) (by simp only; omega)).trans h1, (hb.cell (p := ⟨_, 1, none⟩) (by simp only; omega)).trans h2, (hb.cell (p := ⟨_, 0, none⟩) (by simp only; omega)).trans h3, (hb.cell (p := ⟨_, 1, none⟩) (by simp only; omega)).trans h4, h5.below hb hl, h6.trans (hb.mono h6.size)⟩
theorem freshA {w V V' : World} {t : TypeId} {cs : Array Value} (h : w.heap.size + 1 + 1 + 1 ≤ V.heap.size) (hb : Below (V.alloc (.cells cs t)).heap.size (V.alloc (.cells cs t)) V') : Blk V' V.heap.size t cs ∧ w.heap.size + 1 + 1 + 1 ≤ V.heap.size := ⟨(Blk.new V t cs).below hb (by simp), h⟩
theorem freshD {w V V' : World} {t : TypeId} {cs : Array Value} (h : w.heap.size + 1 + 1 + 1 ≤ V.heap.size) (hb : Below (V.alloc (.cells cs t)).drew.heap.size (V.alloc (.cells cs t)).drew V') : Blk V' V.heap.size t cs ∧ w.heap.size + 1 + 1 + 1 ≤ V.heap.size :=
  ⟨(Blk.new V t cs).drew.below hb (by rw [World.size_drew, World.size_alloc]; omega), h⟩
theorem freshB {w V V' : World} {t : TypeId} {cs : Array Value} {a : Nat} (h : Blk V a t cs ∧ w.heap.size + 1 + 1 + 1 ≤ a) (hb : Below V.heap.size V V') : Blk V' a t cs ∧ w.heap.size + 1 + 1 + 1 ≤ a := ⟨h.1.below hb h.1.lt, h.2⟩
theorem set2_other (V : World) (a k i : Nat) (u v : Value) (hk : k ≠ a) : ((V.setCell ⟨a, 0, none⟩ u).setCell ⟨a, 1, none⟩ v).cell? ⟨k, i, none⟩ = V.cell? ⟨k, i, none⟩ := by
  rw [World.cell?_setCell_other _ _ _ _ (fun e => hk (by cases e; rfl)), World.cell?_setCell_other _ _ _ _ (fun e => hk (by cases e; rfl))]
theorem heldS {w V : World} {xh xl yh yl : Int} {t : TypeId} {cs : Array Value} {a : Nat} (h : HoldA w V xh xl yh yl) (hf : Blk V a t cs ∧ w.heap.size + 1 + 1 + 1 ≤ a) (u v : Value) : HoldA w ((V.setCell ⟨a, 0, none⟩ u).setCell ⟨a, 1, none⟩ v) xh xl yh yl := by
  obtain ⟨h1, h2, h3, h4, h5, h6⟩ := h
  have hg := hf.2
  exact ⟨(set2_other V a _ _ u v (by omega)).trans h1, (set2_other V a _ _ u v (by omega)).trans h2, (set2_other V a _ _ u v (by omega)).trans h3, (set2_other V a _ _ u v (by omega)).trans h4, (h5.far (p := ⟨a, 0, none⟩) (by simp only; omega) u).far (p := ⟨a, 1, none⟩) (by simp only; omega) v, (h6.setCell (p := ⟨a, 0, none⟩) (by simp only; omega) u).setCell (p := ⟨a, 1, none⟩) (by simp only; omega) v⟩
theorem heldT {w V : World} {xh xl yh yl : Int} {o o' : Obj} (hg : w.heap.size + 1 + 1 + 1 ≤ V.heap.size) (h : HoldA w (V.alloc o) xh xl yh yl) : HoldA w (V.alloc o') xh xl yh yl := by
  obtain ⟨h1, h2, h3, h4, h5, h6⟩ := h
  have hn : ∀ (k i : Nat), k < V.heap.size → (V.alloc o').cell? ⟨k, i, none⟩ = (V.alloc o).cell? ⟨k, i, none⟩ := fun k i hk => by
    rw [World.cell?_alloc_lt V o' ⟨k, i, none⟩ hk, World.cell?_alloc_lt V o ⟨k, i, none⟩ hk]
  refine ⟨(hn _ _ (by omega)).trans h1, (hn _ _ (by omega)).trans h2, (hn _ _ (by omega)).trans h3, (hn _ _ (by omega)).trans h4, (Below.heap_alloc V o' _ (by omega)).trans ((Below.heap_alloc V o _ (by omega)).symm.trans h5), ?_⟩
  exact ⟨h6.os, h6.tape, h6.output, by rw [World.size_alloc]; omega, fun k hk => (Below.heap_alloc V o' k (by omega)).trans ((Below.heap_alloc V o k (by omega)).symm.trans (h6.block k hk))⟩
set_option maxRecDepth 100000 in
set_option maxHeartbeats 1600000 in
theorem addR_any (x y : Int) (w : World) (hx : small x) (hy : small y) (hs : small (x + y)) :
    Calls Try.prog 53 #[i128 x, i128 y] w fun e w' => e = .returned (.tuple #[i128 (x + y), .int .i64 0]) ∧ Below w.heap.size w w' := by
  have k1 : ∀ W, Calls Try.prog 80 #[i128 x] W fun e w' => e = .returned (lmV x) ∧ Below W.heap.size W w' := fun W => limbs_any x W hx
  have k2 : ∀ W, Calls Try.prog 80 #[i128 y] W fun e w' => e = .returned (lmV y) ∧ Below W.heap.size W w' := fun W => limbs_any y W hy
  have k3 : ∀ W, Calls Try.prog 79 #[lmV x, lmV y] W fun e w' => e = .returned (lmV (x + y)) ∧ Below W.heap.size W w' := fun W => plus_any x y W
  have k4 : ∀ W, Calls Try.prog 78 #[lmV (x + y)] W fun e w' => e = .returned (.tuple #[i128 (x + y), .bool true]) ∧ Below W.heap.size W w' := fun W => whole_any (x + y) W hs
  clear hx hy hs
  unfold i128 at k1 k2 k4 ⊢
  generalize lmV (x + y) = ls at *
  generalize lmV x = lx at *
  generalize lmV y = ly at *
  generalize (x + y) / 18446744073709551616 = sh at *
  generalize (x + y) % 18446744073709551616 = sl at *
  generalize x / 18446744073709551616 = xh at *
  generalize x % 18446744073709551616 = xl at *
  generalize y / 18446744073709551616 = yh at *
  generalize y % 18446744073709551616 = yl at *
  have HK := Lib.hid (And.intro k1 (And.intro k2 (And.intro k3 k4)))
  clear k1 k2 k3 k4 x y
  go_enter Try.func53, Try.ntmps53
  go_wp2_with fail
  have hb0 := (((Below.refl w.heap.size w).alloc (Nat.le_refl _) (.cells #[.int .i64 xh, .int .u64 xl] 26)).alloc (by simp) (.cells #[.int .i64 yh, .int .u64 yl] 26)).alloc (by simp; omega) (.cells #[.int .i64 0, .int .u64 0] 26)
  have HB := Lib.hid hb0
  clear hb0
  generalize hW : ((w.alloc (.cells #[.int .i64 xh, .int .u64 xl] 26)).alloc (.cells #[.int .i64 yh, .int .u64 yl] 26)).alloc (.cells #[.int .i64 0, .int .u64 0] 26) = W at HB ⊢
  have a1 : W.cell? ⟨w.heap.size, 0, none⟩ = some (.int .i64 xh) := by rw [← hW]; simp [go_sem, World.cell?_alloc_past]
  have a2 : W.cell? ⟨w.heap.size, 1, none⟩ = some (.int .u64 xl) := by rw [← hW]; simp [go_sem, World.cell?_alloc_past]
  have a3 : W.cell? ⟨w.heap.size + 1, 0, none⟩ = some (.int .i64 yh) := by rw [← hW]; simp [go_sem, World.cell?_alloc_past]
  have a4 : W.cell? ⟨w.heap.size + 1, 1, none⟩ = some (.int .u64 yl) := by rw [← hW]; simp [go_sem, World.cell?_alloc_past]
  have HG : w.heap.size + 1 + 1 + 1 ≤ W.heap.size := by rw [← hW]; simp
  have a5 : Blk W (w.heap.size + 1 + 1) 26 #[.int .i64 0, .int .u64 0] := by
    rw [← hW]
    have := Blk.new ((w.alloc (.cells #[.int .i64 xh, .int .u64 xl] 26)).alloc (.cells #[.int .i64 yh, .int .u64 yl] 26)) 26 #[.int .i64 0, .int .u64 0]
    rw [World.size_alloc, World.size_alloc] at this
    exact this
  clear hW
  have hH0 : HoldA w W.drew xh xl yh yl := ⟨a1, a2, a3, a4, a5, HB.out.drew⟩
  clear a1 a2 a3 a4 a5 HB
  go_region_held3 (fun V => V.cell? ⟨w.heap.size, 0, none⟩ = some (.int .i64 xh) ∧ V.cell? ⟨w.heap.size, 1, none⟩ = some (.int .u64 xl) ∧ V.cell? ⟨w.heap.size + 1, 0, none⟩ = some (.int .i64 yh) ∧ V.cell? ⟨w.heap.size + 1, 1, none⟩ = some (.int .u64 yl) ∧ Blk V (w.heap.size + 1 + 1) 26 #[.int .i64 0, .int .u64 0] ∧ Below w.heap.size w V)
    (first | with_reducible exact hH0 | with_reducible exact heldA (by assumption) (by assumption) | with_reducible exact heldA (by assumption) ((Below.refl _ _).alloc (Nat.le_refl _) _) | with_reducible exact heldS (by assumption) (by assumption) _ _ | with_reducible exact heldT HG (by assumption))
    (first
      | (go_simp; go_at_call 80; (with_reducible refine (HK.out.1 _).mono ?_); rintro e w' ⟨rfl, hb'⟩; (first | (have HF := freshB HF hb'; obtain ⟨f1, f2, f3, f4⟩ := blk_two HF.1) | (have HF := freshA HG hb'; obtain ⟨f1, f2, f3, f4⟩ := blk_two HF.1) | (have HF := freshD HG hb'; obtain ⟨f1, f2, f3, f4⟩ := blk_two HF.1) | (have HG := Nat.le_trans HG hb'.size)); try dsimp only)
      | (go_simp; go_at_call 80; (with_reducible refine (HK.out.2.1 _).mono ?_); rintro e w' ⟨rfl, hb'⟩; (first | (have HF := freshB HF hb'; obtain ⟨f1, f2, f3, f4⟩ := blk_two HF.1) | (have HF := freshA HG hb'; obtain ⟨f1, f2, f3, f4⟩ := blk_two HF.1) | (have HF := freshD HG hb'; obtain ⟨f1, f2, f3, f4⟩ := blk_two HF.1) | (have HG := Nat.le_trans HG hb'.size)); try dsimp only)
      | (go_simp; go_at_call 79; (with_reducible refine (HK.out.2.2.1 _).mono ?_); rintro e w' ⟨rfl, hb'⟩; (first | (have HF := freshB HF hb'; obtain ⟨f1, f2, f3, f4⟩ := blk_two HF.1) | (have HF := freshA HG hb'; obtain ⟨f1, f2, f3, f4⟩ := blk_two HF.1) | (have HF := freshD HG hb'; obtain ⟨f1, f2, f3, f4⟩ := blk_two HF.1) | (have HG := Nat.le_trans HG hb'.size)); try dsimp only)
      | (go_simp; go_at_call 78; (with_reducible refine (HK.out.2.2.2 _).mono ?_); rintro e w' ⟨rfl, hb'⟩; (first | (have HF := freshB HF hb'; obtain ⟨f1, f2, f3, f4⟩ := blk_two HF.1) | (have HF := freshA HG hb'; obtain ⟨f1, f2, f3, f4⟩ := blk_two HF.1) | (have HF := freshD HG hb'; obtain ⟨f1, f2, f3, f4⟩ := blk_two HF.1) | (have HG := Nat.le_trans HG hb'.size)); try dsimp only))
  all_goals (obtain ⟨_, _, _, _, hr5, hBw⟩ := (by assumption : HoldA w _ xh xl yh yl); obtain ⟨r1, r2, r3, r4⟩ := blk_two hr5)
  all_goals go_wp2_with fail
  all_goals (obtain ⟨p1, p2, _, _⟩ := put_two hr5 (.int .i64 sh) (.int .u64 sl))
  all_goals exact bodyPost_ret (v := .tuple #[.agg #[.int .i64 sh, .int .u64 sl], .int .i64 0]) (by simp [results, Try.results53, go_sem, p1, p2]) rfl ⟨rfl, (hBw.setCell (p := ⟨w.heap.size + 1 + 1, 0, none⟩) (by simp only; omega) _).setCell (p := ⟨w.heap.size + 1 + 1, 1, none⟩) (by simp only; omega) _⟩
end Go.Proofs.Ytcohioplkchojaa
namespace Go.Proofs.Ytcohioplkchojaa
open Go.RowKit
set_option maxRecDepth 100000 in
set_option maxHeartbeats 1600000 in
theorem subR_any (x y : Int) (w : World) (hx : small x) (hy : small y) (hs : small (x - y)) :
    Calls Try.prog 51 #[i128 x, i128 y] w fun e w' => e = .returned (.tuple #[i128 (x - y), .int .i64 0]) ∧ Below w.heap.size w w' := by
  have k1 : ∀ W, Calls Try.prog 80 #[i128 x] W fun e w' => e = .returned (lmV x) ∧ Below W.heap.size W w' := fun W => limbs_any x W hx
  have k2 : ∀ W, Calls Try.prog 80 #[i128 y] W fun e w' => e = .returned (lmV y) ∧ Below W.heap.size W w' := fun W => limbs_any y W hy
  have k3 : ∀ W, Calls Try.prog 79 #[lmV x, lmV (-y)] W fun e w' => e = .returned (lmV (x - y)) ∧ Below W.heap.size W w' := fun W => by
    have := plus_any x (-y) W
    rwa [← Int.sub_eq_add_neg] at this
  have k5 : ∀ W, Calls Try.prog 81 #[lmV y] W fun e w' => e = .returned (lmV (-y)) ∧ Below W.heap.size W w' := fun W => minus_any y W
  have k4 : ∀ W, Calls Try.prog 78 #[lmV (x - y)] W fun e w' => e = .returned (.tuple #[i128 (x - y), .bool true]) ∧ Below W.heap.size W w' := fun W => whole_any (x - y) W hs
  clear hx hy hs
  unfold i128 at k1 k2 k4 ⊢
  generalize lmV (x - y) = ls at *
  generalize lmV (-y) = ln at *
  generalize lmV x = lx at *
  generalize lmV y = ly at *
  generalize (x - y) / 18446744073709551616 = sh at *
  generalize (x - y) % 18446744073709551616 = sl at *
  generalize x / 18446744073709551616 = xh at *
  generalize x % 18446744073709551616 = xl at *
  generalize y / 18446744073709551616 = yh at *
  generalize y % 18446744073709551616 = yl at *
  have HK := Lib.hid (And.intro k1 (And.intro k2 (And.intro k3 (And.intro k4 k5))))
  clear k1 k2 k3 k4 k5 x y
  go_enter Try.func51, Try.ntmps51
  go_wp2_with fail
  have hb0 := (((Below.refl w.heap.size w).alloc (Nat.le_refl _) (.cells #[.int .i64 xh, .int .u64 xl] 26)).alloc (by simp) (.cells #[.int .i64 yh, .int .u64 yl] 26)).alloc (by simp; omega) (.cells #[.int .i64 0, .int .u64 0] 26)
  have HB := Lib.hid hb0
  clear hb0
  generalize hW : ((w.alloc (.cells #[.int .i64 xh, .int .u64 xl] 26)).alloc (.cells #[.int .i64 yh, .int .u64 yl] 26)).alloc (.cells #[.int .i64 0, .int .u64 0] 26) = W at HB ⊢
  have a1 : W.cell? ⟨w.heap.size, 0, none⟩ = some (.int .i64 xh) := by rw [← hW]; simp [go_sem, World.cell?_alloc_past]
  have a2 : W.cell? ⟨w.heap.size, 1, none⟩ = some (.int .u64 xl) := by rw [← hW]; simp [go_sem, World.cell?_alloc_past]
  have a3 : W.cell? ⟨w.heap.size + 1, 0, none⟩ = some (.int .i64 yh) := by rw [← hW]; simp [go_sem, World.cell?_alloc_past]
  have a4 : W.cell? ⟨w.heap.size + 1, 1, none⟩ = some (.int .u64 yl) := by rw [← hW]; simp [go_sem, World.cell?_alloc_past]
  have HG : w.heap.size + 1 + 1 + 1 ≤ W.heap.size := by rw [← hW]; simp
  have a5 : Blk W (w.heap.size + 1 + 1) 26 #[.int .i64 0, .int .u64 0] := by
    rw [← hW]
    have := Blk.new ((w.alloc (.cells #[.int .i64 xh, .int .u64 xl] 26)).alloc (.cells #[.int .i64 yh, .int .u64 yl] 26)) 26 #[.int .i64 0, .int .u64 0]
    rw [World.size_alloc, World.size_alloc] at this
    exact this
  clear hW
  have hH0 : HoldA w W.drew xh xl yh yl := ⟨a1, a2, a3, a4, a5, HB.out.drew⟩
  clear a1 a2 a3 a4 a5 HB
  go_region_held3 (fun V => V.cell? ⟨w.heap.size, 0, none⟩ = some (.int .i64 xh) ∧ V.cell? ⟨w.heap.size, 1, none⟩ = some (.int .u64 xl) ∧ V.cell? ⟨w.heap.size + 1, 0, none⟩ = some (.int .i64 yh) ∧ V.cell? ⟨w.heap.size + 1, 1, none⟩ = some (.int .u64 yl) ∧ Blk V (w.heap.size + 1 + 1) 26 #[.int .i64 0, .int .u64 0] ∧ Below w.heap.size w V)
    (first | with_reducible exact hH0 | with_reducible exact heldA (by assumption) (by assumption) | with_reducible exact heldA (by assumption) ((Below.refl _ _).alloc (Nat.le_refl _) _) | with_reducible exact heldS (by assumption) (by assumption) _ _ | with_reducible exact heldT HG (by assumption))
    (first
      | (go_simp; go_at_call 80; (with_reducible refine (HK.out.1 _).mono ?_); rintro e w' ⟨rfl, hb'⟩; (first | (have HF := freshB HF hb'; obtain ⟨f1, f2, f3, f4⟩ := blk_two HF.1) | (have HF := freshA HG hb'; obtain ⟨f1, f2, f3, f4⟩ := blk_two HF.1) | (have HF := freshD HG hb'; obtain ⟨f1, f2, f3, f4⟩ := blk_two HF.1) | (have HG := Nat.le_trans HG hb'.size)); try dsimp only)
      | (go_simp; go_at_call 80; (with_reducible refine (HK.out.2.1 _).mono ?_); rintro e w' ⟨rfl, hb'⟩; (first | (have HF := freshB HF hb'; obtain ⟨f1, f2, f3, f4⟩ := blk_two HF.1) | (have HF := freshA HG hb'; obtain ⟨f1, f2, f3, f4⟩ := blk_two HF.1) | (have HF := freshD HG hb'; obtain ⟨f1, f2, f3, f4⟩ := blk_two HF.1) | (have HG := Nat.le_trans HG hb'.size)); try dsimp only)
      | (go_simp; go_at_call 81; (with_reducible refine (HK.out.2.2.2.2 _).mono ?_); rintro e w' ⟨rfl, hb'⟩; (first | (have HF := freshB HF hb'; obtain ⟨f1, f2, f3, f4⟩ := blk_two HF.1) | (have HF := freshA HG hb'; obtain ⟨f1, f2, f3, f4⟩ := blk_two HF.1) | (have HF := freshD HG hb'; obtain ⟨f1, f2, f3, f4⟩ := blk_two HF.1) | (have HG := Nat.le_trans HG hb'.size)); try dsimp only)
      | (go_simp; go_at_call 79; (with_reducible refine (HK.out.2.2.1 _).mono ?_); rintro e w' ⟨rfl, hb'⟩; (first | (have HF := freshB HF hb'; obtain ⟨f1, f2, f3, f4⟩ := blk_two HF.1) | (have HF := freshA HG hb'; obtain ⟨f1, f2, f3, f4⟩ := blk_two HF.1) | (have HF := freshD HG hb'; obtain ⟨f1, f2, f3, f4⟩ := blk_two HF.1) | (have HG := Nat.le_trans HG hb'.size)); try dsimp only)
      | (go_simp; go_at_call 78; (with_reducible refine (HK.out.2.2.2.1 _).mono ?_); rintro e w' ⟨rfl, hb'⟩; (first | (have HF := freshB HF hb'; obtain ⟨f1, f2, f3, f4⟩ := blk_two HF.1) | (have HF := freshA HG hb'; obtain ⟨f1, f2, f3, f4⟩ := blk_two HF.1) | (have HF := freshD HG hb'; obtain ⟨f1, f2, f3, f4⟩ := blk_two HF.1) | (have HG := Nat.le_trans HG hb'.size)); try dsimp only))
  all_goals (obtain ⟨_, _, _, _, hr5, hBw⟩ := (by assumption : HoldA w _ xh xl yh yl); obtain ⟨r1, r2, r3, r4⟩ := blk_two hr5)
  all_goals go_wp2_with fail
  all_goals (obtain ⟨p1, p2, _, _⟩ := put_two hr5 (.int .i64 sh) (.int .u64 sl))
  all_goals exact bodyPost_ret (v := .tuple #[.agg #[.int .i64 sh, .int .u64 sl], .int .i64 0]) (by simp [results, Try.results51, go_sem, p1, p2]) rfl ⟨rfl, (hBw.setCell (p := ⟨w.heap.size + 1 + 1, 0, none⟩) (by simp only; omega) _).setCell (p := ⟨w.heap.size + 1 + 1, 1, none⟩) (by simp only; omega) _⟩
end Go.Proofs.Ytcohioplkchojaa
