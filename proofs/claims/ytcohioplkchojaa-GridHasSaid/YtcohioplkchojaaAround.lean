/- grid.around: the walk. -/
import Derived.Test.YtcohioplkchojaaEdges2
import Derived.Test.YtcohioplkchojaaGeoLaw
import Derived.Deep.RegionHeld3
import Derived.Deep.DeepCutAuto
namespace Go.Proofs.Ytcohioplkchojaa
open Go.RowKit
/-- The least window that has the first corner, and so many more. -/
def aroW (xs : List Pt) : Nat → Win
  | 0 => ⟨(ptAt xs 0).x, (ptAt xs 0).y, (ptAt xs 0).x, (ptAt xs 0).y⟩
  | k + 1 => ⟨mn (aroW xs k).lx (ptAt xs k).x, mn (aroW xs k).ly (ptAt xs k).y, mx (aroW xs k).hx (ptAt xs k).x, mx (aroW xs k).hy (ptAt xs k).y⟩
def WinK (W : World) (g : Nat) (v : Win) : Prop := Blk W g 52 #[.int .i64 v.lx, .int .i64 v.ly, .int .i64 v.hx, .int .i64 v.hy]
theorem WinK.facts {W : World} {g : Nat} {v : Win} (h : WinK W g v) : (W.cell? ⟨g, 0, none⟩ = some (.int .i64 v.lx) ∧ W.cell? ⟨g, 1, none⟩ = some (.int .i64 v.ly) ∧ W.cell? ⟨g, 2, none⟩ = some (.int .i64 v.hx) ∧ W.cell? ⟨g, 3, none⟩ = some (.int .i64 v.hy)) ∧
    (W.frozen? ⟨g, 0, none⟩ = false ∧ W.frozen? ⟨g, 1, none⟩ = false ∧ W.frozen? ⟨g, 2, none⟩ = false ∧ W.frozen? ⟨g, 3, none⟩ = false) ∧ g < W.heap.size :=
  ⟨⟨by rw [Blk.cell h 0]; rfl, by rw [Blk.cell h 1]; rfl, by rw [Blk.cell h 2]; rfl, by rw [Blk.cell h 3]; rfl⟩, ⟨Blk.frozen h 0, Blk.frozen h 1, Blk.frozen h 2, Blk.frozen h 3⟩, Blk.lt h⟩
theorem WinK.put {W : World} {g : Nat} {v : Win} (h : WinK W g v) (u : Win) : WinK ((((W.setCell ⟨g, 0, none⟩ (.int .i64 u.lx)).setCell ⟨g, 1, none⟩ (.int .i64 u.ly)).setCell ⟨g, 2, none⟩ (.int .i64 u.hx)).setCell ⟨g, 3, none⟩ (.int .i64 u.hy)) g u :=
  Blk.set_ (Blk.set_ (Blk.set_ (Blk.set_ h 0 (.int .i64 u.lx)) 1 (.int .i64 u.ly)) 2 (.int .i64 u.hx)) 3 (.int .i64 u.hy)
theorem below_put4 {B : Nat} {w w' : World} (h : Below B w w') {g : Nat} (hg : B ≤ g) (a b c d : Value) : Below B w ((((w'.setCell ⟨g, 0, none⟩ a).setCell ⟨g, 1, none⟩ b).setCell ⟨g, 2, none⟩ c).setCell ⟨g, 3, none⟩ d) :=
  (((h.setCell (p := ⟨g, 0, none⟩) hg a).setCell (p := ⟨g, 1, none⟩) hg b).setCell (p := ⟨g, 2, none⟩) hg c).setCell (p := ⟨g, 3, none⟩) hg d
theorem WinK.far4 {W : World} {g k : Nat} {v : Win} (h : WinK W g v) (hk : g ≠ k) (a b c d : Value) : WinK ((((W.setCell ⟨k, 0, none⟩ a).setCell ⟨k, 1, none⟩ b).setCell ⟨k, 2, none⟩ c).setCell ⟨k, 3, none⟩ d) g v :=
  Blk.far (Blk.far (Blk.far (Blk.far h (p := ⟨k, 0, none⟩) hk a) (p := ⟨k, 1, none⟩) hk b) (p := ⟨k, 2, none⟩) hk c) (p := ⟨k, 3, none⟩) hk d
theorem heldA2 {W V V' : World} {a : Addr} {x y : Int} (hh : a.block < W.heap.size) (hs : V.cell? a = some (.int .i64 x) ∧ V.cell? ⟨a.block, a.off + 1, none⟩ = some (.int .i64 y) ∧ Below W.heap.size W V) (hb : Below V.heap.size V V') :
    V'.cell? a = some (.int .i64 x) ∧ V'.cell? ⟨a.block, a.off + 1, none⟩ = some (.int .i64 y) ∧ Below W.heap.size W V' := by
  have := hs.2.2.size
  exact ⟨(hb.cell (by omega)).trans hs.1, (hb.cell (by simp only; omega)).trans hs.2.1, below_on hs.2.2 (Nat.le_refl _) hb⟩
set_option maxRecDepth 100000 in
set_option maxHeartbeats 1600000 in
theorem around_any (xs : List Pt) (A : Option Addr) (n cap : Nat) (w : World) (hr : Reads w w.heap.size 2 A n (ptsV xs)) (h1 : 1 ≤ n) (hn : n ≤ 128) :
    Calls Try.prog 62 #[.slice A n cap] w fun e w' => e = .returned (winV (aroW xs n)) ∧ Below w.heap.size w w' := by
  obtain ⟨ad, rfl, hbd, -, -, -⟩ := hr.pt (k := 0) (by omega)
  have hb0 := (Below.refl w.heap.size w).alloc (Nat.le_refl _) (.cells #[.int .i64 0, .int .i64 0, .int .i64 0, .int .i64 0] 52)
  obtain ⟨-, p1, p2⟩ := (hr.below hb0).ptA (k := 0) (by omega)
  have hz0 : (0 : Int) < (n : Int) := by omega
  have bR : WinK (w.alloc (.cells #[.int .i64 0, .int .i64 0, .int .i64 0, .int .i64 0] 52)) w.heap.size ⟨0, 0, 0, 0⟩ := Blk.new w _ _
  rw [Nat.zero_mul, show ad.add 0 = ad from by simp [Addr.add]] at p1 p2
  have hz1 : 0 < n := by omega
  have HRD := Lib.hid hr
  clear hr
  go_enter Try.func62, Try.ntmps62
  go_wp2_with fail
  have hw0 : aroW xs 0 = ⟨(ptAt xs 0).x, (ptAt xs 0).y, (ptAt xs 0).x, (ptAt xs 0).y⟩ := rfl
  generalize (ptAt xs 0).x = x0 at *
  generalize (ptAt xs 0).y = y0 at *
  generalize w.alloc (.cells #[.int .i64 0, .int .i64 0, .int .i64 0, .int .i64 0] 52) = W at *
  have hH0 : W.drew.cell? ad = some (.int .i64 x0) ∧ W.drew.cell? ⟨ad.block, ad.off + 1, none⟩ = some (.int .i64 y0) ∧ Below W.heap.size W W.drew := ⟨p1, p2, (Below.refl _ _).drew⟩
  have hP : ad.block < W.heap.size := by have := hb0.size; omega
  have HW := Lib.hid (And.intro bR (And.intro hb0 hw0))
  clear bR hb0 hw0 p1 p2
  go_region_held3 (fun V => V.cell? ad = some (.int .i64 x0) ∧ V.cell? ⟨ad.block, ad.off + 1, none⟩ = some (.int .i64 y0) ∧ Below W.heap.size W V)
    (first | with_reducible exact hH0 | with_reducible exact heldA2 hP (by assumption) ((Below.refl _ _).alloc (Nat.le_refl _) _) | exact heldA2 hP hH0 (show Below W.drew.heap.size W.drew (World.drew (W.alloc _)) from (Below.refl W.drew.heap.size W.drew).alloc (Nat.le_refl _) _))
    (fail)
  have hB0 := (HW.out.2.1.alloc HW.out.2.1.size (.cells #[.int .i64 x0, .int .i64 y0, .int .i64 x0, .int .i64 y0] 52)).drew
  have hR0 : WinK (W.alloc (.cells #[.int .i64 x0, .int .i64 y0, .int .i64 x0, .int .i64 y0] 52)).drew w.heap.size ⟨0, 0, 0, 0⟩ := Blk.alloc HW.out.1 _
  have hV0 : WinK (W.alloc (.cells #[.int .i64 x0, .int .i64 y0, .int .i64 x0, .int .i64 y0] 52)).drew W.heap.size (aroW xs 0) := by rw [HW.out.2.2]; exact Blk.new W _ _
  have hgg : w.heap.size < W.heap.size := Blk.lt HW.out.1
  generalize (W.alloc (.cells #[.int .i64 x0, .int .i64 y0, .int .i64 x0, .int .i64 y0] 52)).drew = V0 at *
  clear hH0 hP HW
  generalize W.heap.size = g at *
  go_wp2_with fail
  go_loopw [15] (fun i wr => ∃ k : Nat, k ≤ n ∧ i = .int .i64 (k : Int) ∧ Below w.heap.size w wr ∧ WinK wr w.heap.size ⟨0, 0, 0, 0⟩ ∧ WinK wr g (aroW xs k)) (fun i _ => n - (intOf i).toNat)
  case atStart => exact ⟨0, Nat.zero_le _, rfl, hB0, hR0, hV0⟩
  case round =>
    clear hB0 hR0 hV0
    obtain ⟨k, hk, rfl, hbel, hR, hV⟩ := hrel
    by_cases hlt : k < n
    · have hlt' : (k : Int) < (n : Int) := by omega
      have hw1 : IntKind.i64.wrap ((k : Int) + 1) = (k : Int) + 1 := by rw [IntKind.wrap_i64]; omega
      obtain ⟨-, p1, p2⟩ := (HRD.out.below hbel).ptA hlt
      have hst : aroW xs (k + 1) = ⟨mn (aroW xs k).lx (ptAt xs k).x, mn (aroW xs k).ly (ptAt xs k).y, mx (aroW xs k).hx (ptAt xs k).x, mx (aroW xs k).hy (ptAt xs k).y⟩ := rfl
      unfold mn mx at hst
      generalize aroW xs k = v at *
      generalize (ptAt xs k).x = px at *
      generalize (ptAt xs k).y = py at *
      obtain ⟨X1, hX1⟩ : ∃ X, (if px < v.lx then px else v.lx) = X := ⟨_, rfl⟩
      obtain ⟨X2, hX2⟩ : ∃ X, (if py < v.ly then py else v.ly) = X := ⟨_, rfl⟩
      obtain ⟨X3, hX3⟩ : ∃ X, (if v.hx < px then px else v.hx) = X := ⟨_, rfl⟩
      obtain ⟨X4, hX4⟩ : ∃ X, (if v.hy < py then py else v.hy) = X := ⟨_, rfl⟩
      rw [hX1, hX2, hX3, hX4] at hst
      have HS := Lib.hid hst
      have HB := Lib.hid (And.intro hbel (And.intro hR hV))
      obtain ⟨⟨v1, v2, v3, v4⟩, ⟨f1, f2, f3, f4⟩, hgl⟩ := hV.facts
      clear hst hbel hR hV
      go_wp2_with fail
      go_roundw
      case rel => exact ⟨k + 1, by omega, by go_num, (below_put4 HB.out.1 (by omega) _ _ _ _).alloc (by simp; have := HB.out.1.size; omega) _, Blk.alloc (WinK.far4 HB.out.2.1 (by omega) _ _ _ _) _, by rw [HS.out]; exact Blk.alloc (HB.out.2.2.put ⟨X1, X2, X3, X4⟩) _⟩
      case measure => simp [intOf]; omega
    · have hkn : k = n := by omega
      subst hkn
      obtain ⟨v, hvv⟩ : ∃ v, v = aroW xs k := ⟨_, rfl⟩
      rw [← hvv] at hV
      have HVV := Lib.hid hvv
      clear hvv
      obtain ⟨⟨v1, v2, v3, v4⟩, ⟨f1, f2, f3, f4⟩, hgl⟩ := hV.facts
      obtain ⟨⟨u1, u2, u3, u4⟩, ⟨e1, e2, e3, e4⟩, hrl⟩ := hR.facts
      obtain ⟨⟨q1, q2, q3, q4⟩, -, -⟩ := (hR.put v).facts
      have HB := Lib.hid (And.intro hbel hR)
      clear hbel hR hV
      go_wp2_with fail
      exact bodyPost_ret (v := winV v) (by unfold winV; simp [results, Try.results62, go_sem, q1, q2, q3, q4]) rfl ⟨by rw [HVV.out], below_put4 HB.out.1 (Nat.le_refl _) _ _ _ _⟩
end Go.Proofs.Ytcohioplkchojaa
