/- slices.MinFunc of points, by geo.Order: the walk. -/
import Derived.Test.YtcohioplkchojaaLeastR
namespace Go.Proofs.Ytcohioplkchojaa
open Go.RowKit
abbrev HoldG (W V : World) (a : Addr) (g : Nat) (p q : Pt) : Prop := V.cell? a = some (.int .i64 p.x) ∧ V.cell? ⟨a.block, a.off + 1, none⟩ = some (.int .i64 p.y) ∧ V.cell? ⟨g, 0, none⟩ = some (.int .i64 q.x) ∧ V.cell? ⟨g, 1, none⟩ = some (.int .i64 q.y) ∧ Below W.heap.size W V
theorem heldG {W V V' : World} {a : Addr} {g : Nat} {p q : Pt} (hh : a.block < W.heap.size ∧ g < W.heap.size) (hs : V.cell? a = some (.int .i64 p.x) ∧ V.cell? ⟨a.block, a.off + 1, none⟩ = some (.int .i64 p.y) ∧ V.cell? ⟨g, 0, none⟩ = some (.int .i64 q.x) ∧ V.cell? ⟨g, 1, none⟩ = some (.int .i64 q.y) ∧ Below W.heap.size W V) (hb : Below V.heap.size V V') :
    V'.cell? a = some (.int .i64 p.x) ∧ V'.cell? ⟨a.block, a.off + 1, none⟩ = some (.int .i64 p.y) ∧ V'.cell? ⟨g, 0, none⟩ = some (.int .i64 q.x) ∧ V'.cell? ⟨g, 1, none⟩ = some (.int .i64 q.y) ∧ Below W.heap.size W V' := by
  obtain ⟨h1, h2⟩ := hh
  obtain ⟨c1, c2, c3, c4, c5⟩ := hs
  have := c5.size
  exact ⟨(hb.cell (p := a) (by omega)).trans c1, (hb.cell (p := ⟨a.block, a.off + 1, none⟩) (by simp only; omega)).trans c2, (hb.cell (p := ⟨g, 0, none⟩) (by simp only; omega)).trans c3, (hb.cell (p := ⟨g, 1, none⟩) (by simp only; omega)).trans c4, below_on c5 (Nat.le_refl _) hb⟩
set_option maxRecDepth 100000 in
set_option maxHeartbeats 1600000 in
theorem minPt_any (xs : List Pt) (A : Option Addr) (n cap : Nat) (w : World) (hr : Reads w w.heap.size 2 A n (ptsV xs)) (h1 : 1 ≤ n) (hn : n ≤ 8796093022208) :
    Calls Try.prog 92 #[.slice A n cap, .func (.func 85) #[] #[]] w fun e w' => e = .returned (ptV (ptAt xs (leastN xs n))) ∧ Below w.heap.size w w' := by
  obtain ⟨ad, rfl, hbd, -, -, -⟩ := hr.pt (k := 0) (by omega)
  have hb0 := (Below.refl w.heap.size w).alloc (Nat.le_refl _) (.cells #[.int .i64 0, .int .i64 0] 35)
  obtain ⟨-, p1, p2⟩ := (hr.below hb0).ptA (k := 0) (by omega)
  have hz0 : (0 : Int) < (n : Int) := by omega
  have hz2 : ¬ (n : Int) < 1 := by omega
  have bR : PtK (w.alloc (.cells #[.int .i64 0, .int .i64 0] 35)) w.heap.size ⟨0, 0⟩ := PtK.new w ⟨0, 0⟩
  rw [Nat.zero_mul, show ad.add 0 = ad from by simp [Addr.add]] at p1 p2
  have hz1 : 0 < n := by omega
  have HRD := Lib.hid hr
  clear hr
  have hP0 : ptAt xs 0 = ptAt xs (leastN xs 1) := by have h := leastN_lt xs (m := 1) (by omega); rw [show leastN xs 1 = 0 by omega]
  have HQ0 := Lib.hid hP0
  clear hP0
  generalize ptAt xs 0 = P0 at *
  have hB0 := hb0.alloc hb0.size (.cells #[.int .i64 P0.x, .int .i64 P0.y] 35)
  have HR0 : Hid (PtK ((w.alloc (.cells #[.int .i64 0, .int .i64 0] 35)).alloc (.cells #[.int .i64 P0.x, .int .i64 P0.y] 35)) w.heap.size ⟨0, 0⟩) := PtK.alloc bR _
  have HV0 : Hid (PtK ((w.alloc (.cells #[.int .i64 0, .int .i64 0] 35)).alloc (.cells #[.int .i64 P0.x, .int .i64 P0.y] 35)) (w.heap.size + 1) P0) := by
    have := PtK.new (w.alloc (.cells #[.int .i64 0, .int .i64 0] 35)) P0
    rwa [World.size_alloc] at this
  have HB0 := Lib.hid hB0
  clear hB0 hb0 bR
  go_enter Try.func92, Try.ntmps92
  go_wp2_with fail
  go_loopw [6] (fun i wr => ∃ k : Nat, 1 ≤ k ∧ k ≤ n ∧ i = .int .i64 (k : Int) ∧ Below w.heap.size w wr ∧ PtK wr w.heap.size ⟨0, 0⟩ ∧ PtK wr (w.heap.size + 1) (ptAt xs (leastN xs k))) (fun i _ => n - (intOf i).toNat)
  case atStart => exact ⟨1, Nat.le_refl _, h1, rfl, HB0.out, HR0.out, by rw [← HQ0.out]; exact HV0.out⟩
  case round =>
    clear HB0 HR0 HV0 HQ0 p1 p2 hz2
    obtain ⟨k, hk1, hk, rfl, hbel, hR, hV⟩ := hrel
    have hgl := hV.facts.2.2.2.2
    by_cases hlt : k < n
    · have hlt' : (k : Int) < (n : Int) := by omega
      have hw1 : IntKind.i64.wrap ((k : Int) + 1) = (k : Int) + 1 := by rw [IntKind.wrap_i64]; omega
      obtain ⟨hbd', p1, p2⟩ := ((HRD.out.below hbel).more hbel.size).ptA hlt
      have hst : leastN xs (k + 1) = if ordI (ptAt xs k) (ptAt xs (leastN xs k)) < 0 then k else leastN xs k := rfl
      have hkp : ptAt xs (leastN xs (k + 1)) = if ordI (ptAt xs k) (ptAt xs (leastN xs k)) < 0 then ptAt xs k else ptAt xs (leastN xs k) := by rw [hst]; split <;> rfl
      clear hst
      generalize ptAt xs (leastN xs k) = Q at *
      obtain ⟨q1, q2, q3, q4, -⟩ := hV.facts
      generalize ptAt xs k = P at *
      have kO := fun V => order_any P Q V
      generalize ordI P Q = o at *
      by_cases ho : o < 0
      all_goals
        have hP0 : HoldG wr wr.drew (ad.add (k * 2)) (w.heap.size + 1) P Q := ⟨p1, p2, q1, q2, (Below.refl _ _).drew⟩
        have hltM : (ad.add (k * 2)).block < wr.heap.size ∧ w.heap.size + 1 < wr.heap.size := by simp only [block_of_add]; exact ⟨hbd', hgl⟩
        unfold ptV at kO
        have HB := Lib.hid (And.intro hbel (And.intro hR hV))
        clear hbel hR hV p1 p2 q1 q2 q3 q4 hbd'
        have HST := Lib.hid hkp
        clear hkp
        go_wp2_with fail
        go_region_held3 (fun V => V.cell? (ad.add (k * 2)) = some (.int .i64 P.x) ∧ V.cell? ⟨(ad.add (k * 2)).block, (ad.add (k * 2)).off + 1, none⟩ = some (.int .i64 P.y) ∧ V.cell? ⟨w.heap.size + 1, 0, none⟩ = some (.int .i64 Q.x) ∧ V.cell? ⟨w.heap.size + 1, 1, none⟩ = some (.int .i64 Q.y) ∧ Below wr.heap.size wr V)
          (first | with_reducible exact hP0 | with_reducible exact heldG hltM (by assumption) (by assumption))
          (first
            | (go_simp; go_at_call 85; (with_reducible refine (kO _).mono ?_); rintro e w' ⟨rfl, hb'⟩; try dsimp only))
        clear hP0
        obtain ⟨-, p3, -, -, hbV⟩ := (by assumption : HoldG wr _ (ad.add (k * 2)) (w.heap.size + 1) P Q)
        have hV' := HB.out.2.2.on hbV
        have hR' := HB.out.2.1.on hbV
        obtain ⟨q1, q2, q3, q4, -⟩ := hV'.facts
        have HV := Lib.hid (And.intro (below_on HB.out.1 (Nat.le_refl _) hbV) (And.intro hR' hV'))
        clear hbV hV' hR' q1 q2
        go_wp2_with fail
        go_roundw
        case rel =>
          refine ⟨k + 1, by omega, by omega, by go_num, ?_⟩
          first
            | exact ⟨HV.out.1, HV.out.2.1, by rw [HST.out, if_neg (by omega)]; exact HV.out.2.2⟩
            | exact ⟨(HV.out.1.setCell (p := ⟨w.heap.size + 1, 0, none⟩) (by simp) _).setCell (p := ⟨w.heap.size + 1, 1, none⟩) (by simp) _, (HV.out.2.1.far (a := ⟨w.heap.size + 1, 0, none⟩) (by simp) _).far (a := ⟨w.heap.size + 1, 1, none⟩) (by simp) _, by rw [HST.out, if_pos (by omega)]; exact HV.out.2.2.put P⟩
        case measure => simp [intOf]; omega
    · have hkn : k = n := by omega
      subst hkn
      obtain ⟨Q, hQ⟩ : ∃ Q, Q = ptAt xs (leastN xs k) := ⟨_, rfl⟩
      rw [← hQ] at hV
      have HQ := Lib.hid hQ
      clear hQ
      obtain ⟨q1, q2, q3, q4, -⟩ := hV.facts
      obtain ⟨r1, r2, f3, f4, -⟩ := hR.facts
      have hbP := (hbel.setCell (p := ⟨w.heap.size, 0, none⟩) (Nat.le_refl _) (.int .i64 Q.x)).setCell (p := ⟨w.heap.size, 1, none⟩) (Nat.le_refl _) (.int .i64 Q.y)
      obtain ⟨z1, z2, -, -, -⟩ := (hR.put Q).facts
      have HB := Lib.hid hbP
      clear hbel hR hbP
      go_wp2_with fail
      exact bodyPost_ret (v := ptV Q) (by unfold ptV; simp [results, Try.results92, go_sem, z1, z2]) rfl ⟨by rw [HQ.out], HB.out⟩
end Go.Proofs.Ytcohioplkchojaa
