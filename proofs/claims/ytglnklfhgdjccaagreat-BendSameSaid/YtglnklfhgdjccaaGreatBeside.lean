/- bend.beside: the walk. -/
import Derived.Deep.DeepCutAuto
import Derived.Deep.RegionLaw
import Derived.Laws.IdiomCopy
import Derived.Laws.IdiomStrings
import Derived.Lib.EndianMore
import Derived.Test.YtglnklfhgdjccaaGreatTk
import Derived.Test.YtglnklfhgdjccaaGreatSortEd
namespace Go.Proofs.YtglnklfhgdjccaaGreat
open Go.RowKit Go.Lib
def besD (xs : List Pt) (k : Nat) : Ed := ⟨ptAt xs ((k + xs.length - 1) % xs.length), ptAt xs ((k + 1) % xs.length)⟩
def edC (e : Ed) : Array Value := #[.int .i64 e.a.x, .int .i64 e.a.y, .int .i64 e.b.x, .int .i64 e.b.y]
theorem hldB4 {W V V' : World} {a0 a1 a2 a3 : Addr} {v0 v1 v2 v3 : Value} (hh : a0.block < W.heap.size ∧ a1.block < W.heap.size ∧ a2.block < W.heap.size ∧ a3.block < W.heap.size) (hs : V.cell? a0 = some v0 ∧ V.cell? a1 = some v1 ∧ V.cell? a2 = some v2 ∧ V.cell? a3 = some v3 ∧ Below W.heap.size W V) (hb : Below V.heap.size V V') :
    V'.cell? a0 = some v0 ∧ V'.cell? a1 = some v1 ∧ V'.cell? a2 = some v2 ∧ V'.cell? a3 = some v3 ∧ Below W.heap.size W V' := by
  obtain ⟨h0, h1, h2, h3⟩ := hh
  obtain ⟨c0, c1, c2, c3, cb⟩ := hs
  have := cb.size
  have k : ∀ {a : Addr} {v : Value}, a.block < W.heap.size → V.cell? a = some v → V'.cell? a = some v := fun {a v} ha hv => (hb.cell (p := a) (by omega)).trans hv
  exact ⟨k h0 c0, k h1 c1, k h2 c2, k h3 c3, below_on cb (Nat.le_refl _) hb⟩

theorem edge_swap {W : World} {g : Nat} {e : Ed} (h : Blk W g 45 (edC e)) :
    W.cell? ⟨g, 0, none⟩ = some (.int .i64 e.a.x) ∧ W.cell? ⟨g, 1, none⟩ = some (.int .i64 e.a.y) ∧ W.cell? ⟨g, 2, none⟩ = some (.int .i64 e.b.x) ∧ W.cell? ⟨g, 3, none⟩ = some (.int .i64 e.b.y) ∧ W.frozen? ⟨g, 0, none⟩ = false ∧ W.frozen? ⟨g, 1, none⟩ = false ∧ W.frozen? ⟨g, 2, none⟩ = false ∧ W.frozen? ⟨g, 3, none⟩ = false :=
  ⟨Blk.cell h 0, Blk.cell h 1, Blk.cell h 2, Blk.cell h 3, Blk.frozen h 0, Blk.frozen h 1, Blk.frozen h 2, Blk.frozen h 3⟩
def put4 (W : World) (g : Nat) (e : Ed) : World := (((W.setCell ⟨g, 0, none⟩ (.int .i64 e.a.x)).setCell ⟨g, 1, none⟩ (.int .i64 e.a.y)).setCell ⟨g, 2, none⟩ (.int .i64 e.b.x)).setCell ⟨g, 3, none⟩ (.int .i64 e.b.y)
theorem put4_blk {W : World} {g : Nat} {d e : Ed} (h : Blk W g 45 (edC d)) : Blk (put4 W g e) g 45 (edC e) := by
  have := Blk.set_ (Blk.set_ (Blk.set_ (Blk.set_ h 0 (.int .i64 e.a.x)) 1 (.int .i64 e.a.y)) 2 (.int .i64 e.b.x)) 3 (.int .i64 e.b.y)
  simp only [edC, List.setIfInBounds_toArray, List.set_cons_zero, List.set_cons_succ] at this
  exact this
theorem put4_far {W : World} {g g' : Nat} {t : TypeId} {cs : Array Value} {e : Ed} (h : Blk W g' t cs) (hne : g' ≠ g) : Blk (put4 W g e) g' t cs :=
  Blk.far (p := ⟨g, 3, none⟩) (Blk.far (p := ⟨g, 2, none⟩) (Blk.far (p := ⟨g, 1, none⟩) (Blk.far (p := ⟨g, 0, none⟩) h hne _) hne _) hne _) hne _
theorem put4_below {B g : Nat} {w W : World} {e : Ed} (h : Below B w W) (hB : B ≤ g) : Below B w (put4 W g e) :=
  (((h.setCell (p := ⟨g, 0, none⟩) hB _).setCell (p := ⟨g, 1, none⟩) hB _).setCell (p := ⟨g, 2, none⟩) hB _).setCell (p := ⟨g, 3, none⟩) hB _
set_option maxRecDepth 100000 in
set_option maxHeartbeats 3200000 in
theorem beside_any (xs : List Pt) (A : Option Addr) (n cap k : Nat) (w : World) (hr : Reads w w.heap.size 2 A n (ptsV xs)) (hk : k < n) (hn : n ≤ 1048576) :
    Calls Tryz.prog 90 #[.slice A n cap, .int .i64 (k : Int)] w fun e w' => e = .returned (.agg (edC (besD xs k).norm)) ∧ Below w.heap.size w w' := by
  have hl : xs.length = n := hr.lenPt
  have hw1 : IntKind.i64.wrap ((k : Int) + (n : Int)) = (k : Int) + (n : Int) := by rw [IntKind.wrap_i64]; omega
  have hw2 : IntKind.i64.wrap ((k : Int) + (n : Int) - 1) = (k : Int) + (n : Int) - 1 := by rw [IntKind.wrap_i64]; omega
  have hw3 : IntKind.i64.wrap ((k : Int) + 1) = (k : Int) + 1 := by rw [IntKind.wrap_i64]; omega
  have hn0 : ¬ n = 0 := by omega
  have hn1 : ¬ (n : Int) = 0 := by omega
  have htm1 : ((k : Int) + (n : Int) - 1).tmod (n : Int) = (((k + n - 1) % n : Nat) : Int) := by
    rw [show (k : Int) + (n : Int) - 1 = ((k + n - 1 : Nat) : Int) by omega]
    rfl
  have htm2 : ((k : Int) + 1).tmod (n : Int) = (((k + 1) % n : Nat) : Int) := by
    rw [show (k : Int) + 1 = ((k + 1 : Nat) : Int) by omega]
    rfl
  have hrl1 : (k + n - 1) % n < n := Nat.mod_lt _ (by omega)
  have hrl2 : (k + 1) % n < n := Nat.mod_lt _ (by omega)
  have hD : Hid (besD xs k = ⟨ptAt xs ((k + n - 1) % n), ptAt xs ((k + 1) % n)⟩) := by show _ = _; unfold besD; rw [hl]
  generalize (k + n - 1) % n = r1 at *
  generalize (k + 1) % n = r2 at *
  have hr1' : (r1 : Int) < (n : Int) := by omega
  have hr2' : (r2 : Int) < (n : Int) := by omega
  have hwr1 : IntKind.i64.wrap (r1 : Int) = (r1 : Int) := IntWalk.i64_in _ (by omega)
  have hwr2 : IntKind.i64.wrap (r2 : Int) = (r2 : Int) := IntWalk.i64_in _ (by omega)
  obtain ⟨W, hW⟩ : ∃ W : World, W = w.alloc (.cells #[.int .i64 0, .int .i64 0, .int .i64 0, .int .i64 0] 45) := ⟨_, rfl⟩
  have hB0 : Below w.heap.size w W := by rw [hW]; exact (Below.refl _ _).alloc (Nat.le_refl _) _
  have hZ : Blk W w.heap.size 45 #[.int .i64 0, .int .i64 0, .int .i64 0, .int .i64 0] := by rw [hW]; exact Blk.new _ _ _
  obtain ⟨ad, rfl, -, -, -, -⟩ := hr.pt hk
  obtain ⟨hbd, p1, p2⟩ := (hr.on hB0).ptA hrl1
  obtain ⟨-, p3, p4⟩ := (hr.on hB0).ptA hrl2
  generalize ptAt xs r1 = p at *
  generalize ptAt xs r2 = q at *
  have hadl : ad.block < W.heap.size := by obtain ⟨ad', e, h1, -⟩ := (hr.on hB0).2 (by omega); cases e; exact h1
  have hP0 : W.drew.cell? (ad.add (r1 * 2)) = some (.int .i64 p.x) ∧ W.drew.cell? ⟨(ad.add (r1 * 2)).block, (ad.add (r1 * 2)).off + 1, none⟩ = some (.int .i64 p.y) ∧ W.drew.cell? (ad.add (r2 * 2)) = some (.int .i64 q.x) ∧ W.drew.cell? ⟨(ad.add (r2 * 2)).block, (ad.add (r2 * 2)).off + 1, none⟩ = some (.int .i64 q.y) ∧ Below W.heap.size W W.drew := ⟨p1, p2, p3, p4, (Below.refl _ _).drew⟩
  have hh : (ad.add (r1 * 2)).block < W.heap.size ∧ (⟨(ad.add (r1 * 2)).block, (ad.add (r1 * 2)).off + 1, none⟩ : Addr).block < W.heap.size ∧ (ad.add (r2 * 2)).block < W.heap.size ∧ (⟨(ad.add (r2 * 2)).block, (ad.add (r2 * 2)).off + 1, none⟩ : Addr).block < W.heap.size := by
    simp only [block_of_add]
    exact ⟨hadl, hadl, hadl, hadl⟩
  have H0 := Lib.hid (And.intro hB0 hZ)
  clear hr hl hbd p1 p2 p3 p4 hadl hB0 hZ hk hn
  go_enter Tryz.func90, Tryz.ntmps90
  go_upto_region 2 with fail
  rw [← hW]
  clear hW
  go_cut [6] (fun s wx => ∃ B6 : Nat, s = .pointer (some ⟨B6, 0, none⟩) ∧ Below w.heap.size w wx ∧ Blk wx w.heap.size 45 #[.int .i64 0, .int .i64 0, .int .i64 0, .int .i64 0] ∧ Blk wx B6 45 (edC ⟨p, q⟩) ∧ w.heap.size < B6)
  case first =>
    refine wp_region_held_drew (S := fun V => V.cell? (ad.add (r1 * 2)) = some (.int .i64 p.x) ∧ V.cell? ⟨(ad.add (r1 * 2)).block, (ad.add (r1 * 2)).off + 1, none⟩ = some (.int .i64 p.y) ∧ V.cell? (ad.add (r2 * 2)) = some (.int .i64 q.x) ∧ V.cell? ⟨(ad.add (r2 * 2)).block, (ad.add (r2 * 2)).off + 1, none⟩ = some (.int .i64 q.y) ∧ Below W.heap.size W V) (by kernel_rfl) ?_ (fun hHeld => ?_)
    · exact hP0
    refine tk 0 ?_
    refine tk 1 ?_
    refine tk 2 ?_
    refine tk 3 ?_
    refine tk 4 ?_
    refine tk 5 ?_
    refine tk 6 ?_
    refine tk 7 ?_
    refine tk 8 ?_
    refine tk 9 ?_
    refine tk 10 ?_
    refine tk 11 ?_
    refine tk 12 ?_
    refine tk 13 ?_
    refine tk 14 ?_
    refine tk 15 ?_
    refine tk 16 ?_
    refine wpAnyH_ready (rs := [17]) (by kernel_rfl) (by simp) ?_
    refine AllReadyH.cons rfl (fun K hK => ?_) AllReadyH.nil
    go_simp
    refine hK.out _ _ ?_ (fun hHeld => ?_)
    · exact hldB4 hh hP0 ((Below.refl _ _).alloc (Nat.le_refl _) _)
    clear hK K
    try simp only [Act.put, List.setIfInBounds_toArray, List.set_cons_zero, List.set_cons_succ]
    refine wpAnyH_ready (rs := [18]) (by kernel_rfl) (by simp) ?_
    refine AllReadyH.cons rfl (fun K hK => ?_) AllReadyH.nil
    go_simp
    refine hK.out _ _ ?_ (fun hHeld => ?_)
    · exact hldB4 hh hP0 ((Below.refl _ _).alloc (Nat.le_refl _) _)
    clear hK K
    try simp only [Act.put, List.setIfInBounds_toArray, List.set_cons_zero, List.set_cons_succ]
    refine wpAnyH_done (by kernel_rfl) ?_ _
    go_wp2_with fail
    go_meet
    exact ⟨_, rfl, below_on H0.out.1 (Nat.le_refl _) (((Below.refl _ _).drew.alloc (by simp) _)), Blk.alloc (Blk.drew H0.out.2) _, Blk.new _ _ _, by have := Blk.lt H0.out.2; simpa using this⟩
  case rest =>
    obtain ⟨B6, rfl, hbc, hZ, hE, hlt⟩ := hcut
    have kO := fun V => order_any p q V
    unfold ptV at kO
    obtain ⟨s1, s2, s3, s4, -, -, -, -⟩ := edge_swap hE
    have HC := Lib.hid (And.intro hbc (And.intro hZ (And.intro hE hlt)))
    obtain ⟨z, hz⟩ : ∃ z, z = ordI p q := ⟨_, rfl⟩
    rw [← hz] at kO
    have HZ := Lib.hid hz
    clear hbc hZ hE hlt hP0 hh hz H0
    go_wp2_with fail
    refine (kO _).mono ?_
    rintro e w3 ⟨rfl, hb3⟩
    have hZ3 := Blk.below HC.out.2.1 hb3 (Blk.lt HC.out.2.1)
    have hE3 := Blk.below HC.out.2.2.1 hb3 (Blk.lt HC.out.2.2.1)
    have hB3 := below_on HC.out.1 (Nat.le_refl _) hb3
    have hlt := HC.out.2.2.2
    by_cases hz : 0 < z
    · have hnm : (besD xs k).norm = ⟨q, p⟩ := by rw [hD.out]; unfold Ed.norm; rw [if_pos (by show 0 < ordI p q; rw [← HZ.out]; exact hz)]; rfl
      have hE4 := put4_blk (e := ⟨q, p⟩) hE3
      have hZ4 := put4_far (e := ⟨q, p⟩) hZ3 (g := B6) (by omega)
      have hB4 := put4_below (e := ⟨q, p⟩) (g := B6) hB3 (by omega)
      obtain ⟨s1, s2, s3, s4, f1, f2, f3, f4⟩ := edge_swap hE3
      obtain ⟨V, hV⟩ : ∃ V, V = put4 w3 B6 ⟨q, p⟩ := ⟨_, rfl⟩
      rw [← hV] at hE4 hZ4 hB4
      unfold put4 at hV
      have hV2 := hV.symm
      have HV := Lib.hid (And.intro hB4 (And.intro hZ4 (And.intro hE4 hnm)))
      clear hE4 hZ4 hB4 hV hZ3 hE3 hB3 hb3 hlt hnm kO
      obtain ⟨t1, t2, t3, t4, -, -, -, -⟩ := edge_swap HV.out.2.2.1
      obtain ⟨x1, x2, x3, x4, g1, g2, g3, g4⟩ := edge_swap (e := ⟨⟨0, 0⟩, ⟨0, 0⟩⟩) HV.out.2.1
      have hR := put4_blk (e := ⟨q, p⟩) (d := ⟨⟨0, 0⟩, ⟨0, 0⟩⟩) HV.out.2.1
      have hB := put4_below (e := ⟨q, p⟩) HV.out.1 (Nat.le_refl _)
      obtain ⟨V2, hVV⟩ : ∃ V2, V2 = put4 V w.heap.size ⟨q, p⟩ := ⟨_, rfl⟩
      rw [← hVV] at hR hB
      unfold put4 at hVV
      have HX := Lib.hid hVV
      have HY := Lib.hid (And.intro hR hB)
      clear hVV hR hB
      go_wp2_with fail
      rw [← HX.out]
      obtain ⟨hR, hB⟩ := HY.out
      obtain ⟨y1, y2, y3, y4, -, -, -, -⟩ := edge_swap hR
      refine bodyPost_ret (v := .agg (edC ⟨q, p⟩)) ?_ rfl ⟨by rw [HV.out.2.2.2], hB⟩
      simp [results, Tryz.results90, go_sem, y1, y2, y3, y4, edC]
    · have hnm : (besD xs k).norm = ⟨p, q⟩ := by rw [hD.out]; unfold Ed.norm; rw [if_neg (by show ¬ 0 < ordI p q; rw [← HZ.out]; exact hz)]
      have HV := Lib.hid (And.intro hB3 (And.intro hZ3 (And.intro hE3 hnm)))
      clear hE3 hZ3 hB3 hb3 hlt hnm kO
      obtain ⟨t1, t2, t3, t4, -, -, -, -⟩ := edge_swap HV.out.2.2.1
      obtain ⟨x1, x2, x3, x4, g1, g2, g3, g4⟩ := edge_swap (e := ⟨⟨0, 0⟩, ⟨0, 0⟩⟩) HV.out.2.1
      have hR := put4_blk (e := ⟨p, q⟩) (d := ⟨⟨0, 0⟩, ⟨0, 0⟩⟩) HV.out.2.1
      have hB := put4_below (e := ⟨p, q⟩) HV.out.1 (Nat.le_refl _)
      obtain ⟨V2, hVV⟩ : ∃ V2, V2 = put4 w3 w.heap.size ⟨p, q⟩ := ⟨_, rfl⟩
      rw [← hVV] at hR hB
      unfold put4 at hVV
      have HX := Lib.hid hVV
      have HY := Lib.hid (And.intro hR hB)
      clear hVV hR hB
      go_wp2_with fail
      rw [← HX.out]
      obtain ⟨hR, hB⟩ := HY.out
      obtain ⟨y1, y2, y3, y4, -, -, -, -⟩ := edge_swap hR
      refine bodyPost_ret (v := .agg (edC ⟨p, q⟩)) ?_ rfl ⟨by rw [HV.out.2.2.2], hB⟩
      simp [results, Tryz.results90, go_sem, y1, y2, y3, y4, edC]
end Go.Proofs.YtglnklfhgdjccaaGreat
