/- ref05.cleared: the walk. -/
import Derived.Test.YtglnklfhgdjccaaGreatClean
import Derived.Test.YtglnklfhgdjccaaGreatBeside
namespace Go.Proofs.YtglnklfhgdjccaaGreat
open Go.RowKit Go.Lib
theorem hldC6 {W V V' : World} {a0 a1 a2 a3 a4 a5 : Addr} {v0 v1 v2 v3 v4 v5 : Value} (hh : a0.block < W.heap.size ∧ a1.block < W.heap.size ∧ a2.block < W.heap.size ∧ a3.block < W.heap.size ∧ a4.block < W.heap.size ∧ a5.block < W.heap.size) (hs : V.cell? a0 = some v0 ∧ V.cell? a1 = some v1 ∧ V.cell? a2 = some v2 ∧ V.cell? a3 = some v3 ∧ V.cell? a4 = some v4 ∧ V.cell? a5 = some v5 ∧ Below W.heap.size W V) (hb : Below V.heap.size V V') :
    V'.cell? a0 = some v0 ∧ V'.cell? a1 = some v1 ∧ V'.cell? a2 = some v2 ∧ V'.cell? a3 = some v3 ∧ V'.cell? a4 = some v4 ∧ V'.cell? a5 = some v5 ∧ Below W.heap.size W V' := by
  obtain ⟨h0, h1, h2, h3, h4, h5⟩ := hh
  obtain ⟨c0, c1, c2, c3, c4, c5, cb⟩ := hs
  have := cb.size
  have k : ∀ {a : Addr} {v : Value}, a.block < W.heap.size → V.cell? a = some v → V'.cell? a = some v := fun {a v} ha hv => (hb.cell (p := a) (by omega)).trans hv
  exact ⟨k h0 c0, k h1 c1, k h2 c2, k h3 c3, k h4 c4, k h5 c5, below_on cb (Nat.le_refl _) hb⟩

theorem s7_keep {w8 : World} {g B8 : Nat} {nm e : Ed} (h : Blk w8 B8 45 (edC nm)) (hne : g ≠ B8) : (put4 w8 g e).cell? ⟨B8, 0, none⟩ = some (.int .i64 nm.a.x) ∧ (put4 w8 g e).cell? ⟨B8, 1, none⟩ = some (.int .i64 nm.a.y) ∧ (put4 w8 g e).cell? ⟨B8, 2, none⟩ = some (.int .i64 nm.b.x) ∧ (put4 w8 g e).cell? ⟨B8, 3, none⟩ = some (.int .i64 nm.b.y) := by
  obtain ⟨h1, h2, h3, h4, -, -, -, -⟩ := edge_swap (put4_far (e := e) h (g := g) (fun e' => hne e'.symm))
  exact ⟨h1, h2, h3, h4⟩
theorem ord_flip {a b : Pt} : lessB b a = decide (0 < ordI a b) := by
  rw [less_ord]
  congr 1
  unfold ordI orI cmpI
  grind
theorem Reads.dropQ {w : World} {B n j cap : Nat} {ad : Addr} {xs : List Pt} (h : Reads w B 2 (some ad) n (ptsV xs)) (hk : j ≤ n) (hc : n ≤ cap) : Reads w B 2 (if cap = j then some ad else some (ad.add (j * 2))) (n - j) (ptsV (xs.drop j)) := by
  have := h.cut hk hc
  rw [drop_ptsV] at this
  exact this
set_option maxRecDepth 100000 in
set_option maxHeartbeats 3200000 in
theorem cleared_any (xs : List Pt) (A : Option Addr) (n cap k : Nat) (w : World) (hr : Reads w w.heap.size 2 A n (ptsV xs)) (hk : k < n) (hn : n ≤ 1048576) (hcp : n ≤ cap) (hg : goodL xs = true) :
    Calls Tryz.prog 93 #[.slice A n cap, .int .i64 (k : Int)] w fun e w' => ∃ A' c', e = .returned (.tuple #[.slice A' (n - 1) c', .agg (edC (besD xs k).norm), .bool (onB (besD xs k).a (besD xs k).b (ptAt xs k))]) ∧ w'.ownsRow w.heap.size 43 2 (.slice A' (n - 1) c') (n - 1) (ptsV (xs.eraseIdx k)) ∧ Below w.heap.size w w' := by
  obtain ⟨i0, hi0, hz0, hz1, hz2⟩ := info_parts info_point
  have hgp : good (ptAt xs k) = true := ptAt_good hg k
  have hgs : good (besD xs k).a = true ∧ good (besD xs k).b = true := ⟨ptAt_good hg _, ptAt_good hg _⟩
  have hl : xs.length = n := hr.lenPt
  have hw1 : IntKind.i64.wrap ((k : Int) + (n : Int)) = (k : Int) + (n : Int) := by rw [IntKind.wrap_i64]; omega
  have hw2 : IntKind.i64.wrap ((k : Int) + (n : Int) - 1) = (k : Int) + (n : Int) - 1 := by rw [IntKind.wrap_i64]; omega
  have hw3 : IntKind.i64.wrap ((k : Int) + 1) = (k : Int) + 1 := by rw [IntKind.wrap_i64]; omega
  have hn0 : ¬ n = 0 := by omega
  have hn1 : ¬ (n : Int) = 0 := by omega
  have htm1 : ((k : Int) + (n : Int) - 1).tmod (n : Int) = (((k + n - 1) % n : Nat) : Int) := by
    rw [show (k : Int) + (n : Int) - 1 = ((k + n - 1 : Nat) : Int) by omega]
    rfl
  have htm2 : ((k : Int) + 1).tmod (n : Int) = (((k + 1) % n : Nat) : Int) := by
    rw [show (k : Int) + 1 = ((k + 1 : Nat) : Int) by omega]
    rfl
  have hrl1 : (k + n - 1) % n < n := Nat.mod_lt _ (by omega)
  have hrl2 : (k + 1) % n < n := Nat.mod_lt _ (by omega)
  have hD : Hid (besD xs k = ⟨ptAt xs ((k + n - 1) % n), ptAt xs ((k + 1) % n)⟩) := by show _ = _; unfold besD; rw [hl]
  generalize (k + n - 1) % n = r1 at *
  generalize (k + 1) % n = r2 at *
  have hr1' : (r1 : Int) < (n : Int) := by omega
  have hr2' : (r2 : Int) < (n : Int) := by omega
  have hwr1 : IntKind.i64.wrap (r1 : Int) = (r1 : Int) := IntWalk.i64_in _ (by omega)
  have hwr2 : IntKind.i64.wrap (r2 : Int) = (r2 : Int) := IntWalk.i64_in _ (by omega)
  rw [hD.out] at hgs
  obtain ⟨jn, hjn⟩ : ∃ j, j = k + 1 := ⟨_, rfl⟩
  obtain ⟨W, hW⟩ : ∃ W : World, W = w.alloc (.cells #[.int .i64 0, .int .i64 0, .int .i64 0, .int .i64 0] 45) := ⟨_, rfl⟩
  have hB0 : Below w.heap.size w W := by rw [hW]; exact (Below.refl _ _).alloc (Nat.le_refl _) _
  have hZ : Blk W w.heap.size 45 #[.int .i64 0, .int .i64 0, .int .i64 0, .int .i64 0] := by rw [hW]; exact Blk.new _ _ _
  obtain ⟨ad, rfl, -, -, -, -⟩ := hr.pt hk
  obtain ⟨hbd, p1, p2⟩ := (hr.on hB0).ptA hrl1
  obtain ⟨-, p3, p4⟩ := (hr.on hB0).ptA hrl2
  have hadl : ad.block < w.heap.size := by obtain ⟨ad', e, h1, -⟩ := hr.2 (by omega); cases e; exact h1
  obtain ⟨p, hp⟩ : ∃ p, p = ptAt xs r1 := ⟨_, rfl⟩
  obtain ⟨q, hq⟩ : ∃ q, q = ptAt xs r2 := ⟨_, rfl⟩
  obtain ⟨m, hm⟩ : ∃ m, m = ptAt xs k := ⟨_, rfl⟩
  rw [← hp, ← hq] at hD hgs
  rw [← hp] at p1 p2
  rw [← hq] at p3 p4
  rw [← hm] at hgp
  have hP0 : W.drew.cell? (ad.add (r1 * 2)) = some (.int .i64 p.x) ∧ W.drew.cell? ⟨(ad.add (r1 * 2)).block, (ad.add (r1 * 2)).off + 1, none⟩ = some (.int .i64 p.y) ∧ W.drew.cell? (ad.add (r2 * 2)) = some (.int .i64 q.x) ∧ W.drew.cell? ⟨(ad.add (r2 * 2)).block, (ad.add (r2 * 2)).off + 1, none⟩ = some (.int .i64 q.y) ∧ Below W.heap.size W W.drew := ⟨p1, p2, p3, p4, (Below.refl _ _).drew⟩
  have hh : (ad.add (r1 * 2)).block < W.heap.size ∧ (⟨(ad.add (r1 * 2)).block, (ad.add (r1 * 2)).off + 1, none⟩ : Addr).block < W.heap.size ∧ (ad.add (r2 * 2)).block < W.heap.size ∧ (⟨(ad.add (r2 * 2)).block, (ad.add (r2 * 2)).off + 1, none⟩ : Addr).block < W.heap.size := by
    have := hB0.size
    simp only [block_of_add]
    exact ⟨by omega, by omega, by omega, by omega⟩
  have kO : ∀ V, Calls Tryz.prog 94 #[.agg #[.int .i64 p.x, .int .i64 p.y], .agg #[.int .i64 q.x, .int .i64 q.y], .agg #[.int .i64 m.x, .int .i64 m.y]] V fun e w' => e = .returned (.bool (onB p q m)) ∧ Below V.heap.size V w' := fun V => onR6 p.x p.y q.x q.y m.x m.y V hgs.1 hgs.2 hgp
  have HKL := Lib.hid (And.intro hk (And.intro hn (And.intro hcp (And.intro hl (And.intro hr hadl)))))
  have H0 := Lib.hid (And.intro hB0 hZ)
  have HPM := Lib.hid (And.intro hp (And.intro hq hm))
  have HO : Hid (∀ V, Calls Tryz.prog 94 #[.agg #[.int .i64 p.x, .int .i64 p.y], .agg #[.int .i64 q.x, .int .i64 q.y], .agg #[.int .i64 m.x, .int .i64 m.y]] V fun e w' => e = .returned (.bool (onB p q m)) ∧ Below V.heap.size V w') := kO
  clear hr hl hbd p1 p2 p3 p4 hB0 hZ hn hp hq hm kO hgs hgp hg hcp
  go_enter Tryz.func93, Tryz.ntmps93
  go_upto_region 2 with fail
  rw [← hW]
  clear hW
  go_cut [8] (fun s wx => ∃ B8 : Nat, s = .pointer (some ⟨B8, 0, none⟩) ∧ Below w.heap.size w wx ∧ Blk wx w.heap.size 45 #[.int .i64 0, .int .i64 0, .int .i64 0, .int .i64 0] ∧ Blk wx B8 45 (edC ⟨p, q⟩) ∧ w.heap.size < B8)
  case first =>
    refine wp_region_held_drew (S := fun V => V.cell? (ad.add (r1 * 2)) = some (.int .i64 p.x) ∧ V.cell? ⟨(ad.add (r1 * 2)).block, (ad.add (r1 * 2)).off + 1, none⟩ = some (.int .i64 p.y) ∧ V.cell? (ad.add (r2 * 2)) = some (.int .i64 q.x) ∧ V.cell? ⟨(ad.add (r2 * 2)).block, (ad.add (r2 * 2)).off + 1, none⟩ = some (.int .i64 q.y) ∧ Below W.heap.size W V) (by kernel_rfl) ?_ (fun hHeld => ?_)
    · exact hP0
    refine tk 0 ?_
    refine tk 1 ?_
    refine tk 2 ?_
    refine tk 3 ?_
    refine tk 4 ?_
    refine tk 5 ?_
    refine tk 6 ?_
    refine tk 7 ?_
    refine tk 8 ?_
    refine tk 9 ?_
    refine tk 10 ?_
    refine tk 11 ?_
    refine tk 12 ?_
    refine tk 13 ?_
    refine tk 14 ?_
    refine tk 15 ?_
    refine tk 16 ?_
    refine wpAnyH_ready (rs := [17]) (by kernel_rfl) (by simp) ?_
    refine AllReadyH.cons rfl (fun K hK => ?_) AllReadyH.nil
    go_simp
    refine hK.out _ _ ?_ (fun hHeld => ?_)
    · exact hldB4 hh hP0 ((Below.refl _ _).alloc (Nat.le_refl _) _)
    clear hK K
    try simp only [Act.put, List.setIfInBounds_toArray, List.set_cons_zero, List.set_cons_succ]
    refine wpAnyH_ready (rs := [18]) (by kernel_rfl) (by simp) ?_
    refine AllReadyH.cons rfl (fun K hK => ?_) AllReadyH.nil
    go_simp
    refine hK.out _ _ ?_ (fun hHeld => ?_)
    · exact hldB4 hh hP0 ((Below.refl _ _).alloc (Nat.le_refl _) _)
    clear hK K
    try simp only [Act.put, List.setIfInBounds_toArray, List.set_cons_zero, List.set_cons_succ]
    refine wpAnyH_done (by kernel_rfl) ?_ _
    go_wp2_with fail
    go_meet
    exact ⟨_, rfl, below_on H0.out.1 (Nat.le_refl _) (((Below.refl _ _).drew.alloc (by simp) _)), Blk.alloc (Blk.drew H0.out.2) _, Blk.new _ _ _, by have := Blk.lt H0.out.2; simpa using this⟩
  case rest =>
    obtain ⟨B8, rfl, hbc, hZ, hE, hlt⟩ := hcut
    clear hP0 hh H0 hw1 hw2 htm1 htm2 hrl1 hrl2 hr1' hr2' hwr1 hwr2
    obtain ⟨-, m1, m2⟩ := (HKL.out.2.2.2.2.1.on hbc).ptA HKL.out.1
    rw [← HPM.out.2.2] at m1 m2
    obtain ⟨s1, s2, s3, s4, -, -, -, -⟩ := edge_swap hE
    obtain ⟨ob, hob⟩ : ∃ b, b = onB p q m := ⟨_, rfl⟩
    have kO : ∀ V, Calls Tryz.prog 94 #[.agg #[.int .i64 p.x, .int .i64 p.y], .agg #[.int .i64 q.x, .int .i64 q.y], .agg #[.int .i64 m.x, .int .i64 m.y]] V fun e w' => e = .returned (.bool ob) ∧ Below V.heap.size V w' := by rw [hob]; exact HO.out
    have hP0 : wc.drew.cell? ⟨B8, 0, none⟩ = some (.int .i64 p.x) ∧ wc.drew.cell? ⟨B8, 1, none⟩ = some (.int .i64 p.y) ∧ wc.drew.cell? ⟨B8, 2, none⟩ = some (.int .i64 q.x) ∧ wc.drew.cell? ⟨B8, 3, none⟩ = some (.int .i64 q.y) ∧ wc.drew.cell? (ad.add (k * 2)) = some (.int .i64 m.x) ∧ wc.drew.cell? ⟨(ad.add (k * 2)).block, (ad.add (k * 2)).off + 1, none⟩ = some (.int .i64 m.y) ∧ Below wc.heap.size wc wc.drew := ⟨s1, s2, s3, s4, m1, m2, (Below.refl _ _).drew⟩
    have hlb := Blk.lt hE
    have hls : ad.block < wc.heap.size := Nat.lt_of_lt_of_le HKL.out.2.2.2.2.2 hbc.size
    have hh : (⟨B8, 0, none⟩ : Addr).block < wc.heap.size ∧ (⟨B8, 1, none⟩ : Addr).block < wc.heap.size ∧ (⟨B8, 2, none⟩ : Addr).block < wc.heap.size ∧ (⟨B8, 3, none⟩ : Addr).block < wc.heap.size ∧ (ad.add (k * 2)).block < wc.heap.size ∧ (⟨(ad.add (k * 2)).block, (ad.add (k * 2)).off + 1, none⟩ : Addr).block < wc.heap.size := by
      simp only [block_of_add]
      exact ⟨hlb, hlb, hlb, hlb, hls, hls⟩
    have HC := Lib.hid (And.intro hbc (And.intro hZ (And.intro hE hlt)))
    have HOB := Lib.hid hob
    have hk0 : (k : Int) < (n : Int) := by omega
    clear hbc hZ hE hlt m1 m2 s1 s2 s3 s4 hlb hls hob
    go_upto_region 3 with fail
    refine wp_region_held_drew (S := fun V => V.cell? ⟨B8, 0, none⟩ = some (.int .i64 p.x) ∧ V.cell? ⟨B8, 1, none⟩ = some (.int .i64 p.y) ∧ V.cell? ⟨B8, 2, none⟩ = some (.int .i64 q.x) ∧ V.cell? ⟨B8, 3, none⟩ = some (.int .i64 q.y) ∧ V.cell? (ad.add (k * 2)) = some (.int .i64 m.x) ∧ V.cell? ⟨(ad.add (k * 2)).block, (ad.add (k * 2)).off + 1, none⟩ = some (.int .i64 m.y) ∧ Below wc.heap.size wc V) (by kernel_rfl) ?_ (fun hHeld => ?_)
    · exact hP0
    refine tk 0 ?_
    refine tk 1 ?_
    refine tk 2 ?_
    refine tk 3 ?_
    refine tk 4 ?_
    refine tk 5 ?_
    refine tk 6 ?_
    refine tk 7 ?_
    refine wpAnyH_ready (rs := [8]) (by kernel_rfl) (by simp) ?_
    refine AllReadyH.cons rfl (fun K hK => ?_) AllReadyH.nil
    go_simp
    go_at_call 94
    (with_reducible refine (kO _).mono ?_)
    rintro e w3 ⟨rfl, hb'⟩
    try dsimp only
    refine hK.out _ _ ?_ (fun hHeld => ?_)
    · exact hldC6 hh hP0 hb'
    clear hK K
    try simp only [Act.put, List.setIfInBounds_toArray, List.set_cons_zero, List.set_cons_succ]
    refine tk 9 ?_
    refine wpAnyH_done (by kernel_rfl) ?_ _
    obtain ⟨s1, s2, s3, s4, -, -, hb3⟩ := hHeld
    have hE3 := Blk.below HC.out.2.2.1 hb3 (Blk.lt HC.out.2.2.1)
    have hZ3 := Blk.below HC.out.2.1 hb3 (Blk.lt HC.out.2.1)
    have hB3 := below_on HC.out.1 (Nat.le_refl _) hb3
    obtain ⟨zb, hzb⟩ : ∃ b, b = lessB q p := ⟨_, rfl⟩
    have kL : ∀ V, Calls Tryz.prog 68 #[.agg #[.int .i64 q.x, .int .i64 q.y], .agg #[.int .i64 p.x, .int .i64 p.y]] V fun e w' => e = .returned (.bool zb) ∧ Below V.heap.size V w' := fun V => by rw [hzb]; exact lessR6 q.x q.y p.x p.y V
    obtain ⟨nm, hnm⟩ : ∃ nm, nm = (besD xs k).norm := ⟨_, rfl⟩
    have hnz : nm = if zb = true then ⟨q, p⟩ else ⟨p, q⟩ := by
      rw [hnm, hD.out, hzb, ord_flip]
      unfold Ed.norm
      by_cases h : 0 < ordI p q
      · rw [if_pos (by exact h), if_pos (by simpa using h)]; rfl
      · rw [if_neg (by exact h), if_neg (by simpa using h)]
    have H3 := Lib.hid (And.intro hB3 (And.intro hZ3 hE3))
    have HN := Lib.hid (And.intro hnm hnz)
    clear hb3 hE3 hZ3 hB3 hzb hnm hnz hP0 hh kO
    go_wp2_with fail
    refine (kL _).mono ?_
    rintro e w4 ⟨rfl, hb4⟩
    have hE4 := Blk.below H3.out.2.2 hb4 (Blk.lt H3.out.2.2)
    have hZ4 := Blk.below H3.out.2.1 hb4 (Blk.lt H3.out.2.1)
    have hB4 := below_on H3.out.1 (Nat.le_refl _) hb4
    have hnz := HN.out.2
    rcases zb with _ | _
    · rw [if_neg (by decide)] at hnz
      rw [← hnz] at hE4
      have H6 := Lib.hid (And.intro hB4 (And.intro hZ4 hE4))
      clear hB4 hZ4 hE4 hnz hb4 kL s1 s2 s3 s4
      obtain ⟨hbc, hZ, hE⟩ := H6.out
      have hown0 : (w4.alloc (.cells #[] 43)).ownsRow w.heap.size 43 2 (.slice (some ⟨w4.heap.size, 0, none⟩) 0 0) 0 [] := own_mono (World.ownsRow_made (base := w4.heap.size) (e := 43) (size := 2) w4 #[] 0 (by omega) (by simp [maxLen]) rfl) hbc.size
      have hba : Below w4.heap.size w4 (w4.alloc (.cells #[] 43)) := (Below.refl _ _).alloc (Nat.le_refl _) _
      have hrA := ((HKL.out.2.2.2.2.1.on hbc).on hba).takeP (k := k) (by omega)
      have hkn : k ≤ n := by omega
      have hkc : k ≤ cap := by have := HKL.out.2.2.1; omega
      have hwk : IntKind.i64.wrap (k : Int) = (k : Int) := IntWalk.i64_in _ (by have := HKL.out.2.1; omega)
      have h1 : Hid (0 + k ≤ maxLen) := by show _ ≤ _; have := HKL.out.2.1; simp only [maxLen]; omega
      have h2 : Hid ((0 + k) * 16 ≤ 140737488355328) := by show _ ≤ _; have := HKL.out.2.1; omega
      have h3 : Hid (w.heap.size ≤ (w4.alloc (.cells #[] 43)).heap.size) := by show _ ≤ _; rw [World.size_alloc]; have := hbc.size; omega
      clear hbc hZ hE hba
      go_upto_region 7 with (at_builtin; refine wpList_append_any _ rfl (.tmp 46) (.tmp 49) _ rfl w.heap.size 43 i0 _ 2 16 Tryz.underlying23 hi0 hz0 hz1 hz2 rfl (by omega) (.slice (some ⟨w4.heap.size, 0, none⟩) 0 0) 0 [] rfl hown0 _ (some ad) k cap (ptsV (xs.take k)) rfl hrA (ptsV_one _) h1.out h2.out h3.out ?_; intro v6 w6 hown6 hg6 hat6)
      have hZ0 := Blk.alloc H6.out.2.1 (.cells #[] 43)
      have hE0 := Blk.alloc H6.out.2.2 (.cells #[] 43)
      have hZ6 := Blk.grown hZ0 hg6 (fun e => own_blk_ne hown0 hZ0 (by decide) e.symm)
      have hE6 := Blk.grown hE0 hg6 (fun e => own_blk_ne hown0 hE0 (by decide) e.symm)
      have hB6 : Below w.heap.size w w6 := (H6.out.1.alloc H6.out.1.size _).grown hg6 h3.out (fun g e => (hown0.lt g e).1)
      rw [List.nil_append, Nat.zero_add] at hown6
      obtain ⟨A6, c6, rfl⟩ := own_form hown6
      have hrj := (HKL.out.2.2.2.2.1.on hB6).dropQ (j := jn) (cap := cap) (by omega) HKL.out.2.2.1
      obtain ⟨Aj, hAj⟩ : ∃ Aj, (if cap = jn then some ad else some (ad.add (jn * 2))) = Aj := ⟨_, rfl⟩
      rw [hAj] at hrj
      have hHA : w6.drew.ownsRow w.heap.size 43 2 (.slice A6 k c6) k (ptsV (xs.take k)) ∧ Reads w6.drew w6.heap.size 2 Aj (n - jn) (ptsV (xs.drop jn)) ∧ w.heap.size ≤ w6.drew.heap.size := ⟨hown6.drew, hrj.drew, hB6.size⟩
      have HA7 := Lib.hid hHA
      have HG7 : Hid (∀ v' w8, w8.ownsRow w.heap.size 43 2 v' (k + (n - jn)) (ptsV (xs.take k) ++ ptsV (xs.drop jn)) → w6.drew.grownBy w8 (Value.slice A6 k c6).ownBlock → Blk w8 w.heap.size 45 #[.int .i64 0, .int .i64 0, .int .i64 0, .int .i64 0] ∧ Blk w8 B8 45 (edC nm) ∧ Below w.heap.size w w8) := fun v' w8 _ hg =>
        ⟨Blk.grown (Blk.drew hZ6) hg (fun e => own_blk_ne hown6 hZ6 (by decide) e.symm), Blk.grown (Blk.drew hE6) hg (fun e => own_blk_ne hown6 hE6 (by decide) e.symm), hB6.drew.grown hg hB6.size (fun g e => (hown6.lt g e).1)⟩
      obtain ⟨t1, t2, t3, t4, -, -, -, -⟩ := edge_swap hE6
      have hP0 : w6.drew.cell? ⟨B8, 0, none⟩ = some (.int .i64 nm.a.x) ∧ w6.drew.cell? ⟨B8, 1, none⟩ = some (.int .i64 nm.a.y) ∧ w6.drew.cell? ⟨B8, 2, none⟩ = some (.int .i64 nm.b.x) ∧ w6.drew.cell? ⟨B8, 3, none⟩ = some (.int .i64 nm.b.y) := ⟨t1, t2, t3, t4⟩
      have hjc : jn ≤ cap := by have := HKL.out.2.2.1; omega
      have hjn2 : jn ≤ n := by omega
      have hnc := HKL.out.2.2.1
      have hwj : IntKind.i64.wrap ((k : Int) + 1) = (jn : Int) := by rw [hw3, hjn]; omega
      have hji : (jn : Int) ≤ (n : Int) := by omega
      have hj0 : 0 ≤ (jn : Int) := by omega
      have HJ := Lib.hid hjn
      have hbd : Hid (k + (n - jn) ≤ maxLen ∧ (k + (n - jn)) * 16 ≤ 140737488355328) := by have := HKL.out.2.1; constructor <;> (try simp only [maxLen]) <;> omega
      have hlt8 : w.heap.size ≠ B8 := by have := HC.out.2.2.2; omega
      have HL8 := Lib.hid hlt8
      clear t1 t2 t3 t4 hZ0 hE0 hZ6 hE6 hB6 hown6 hrj hg6 hat6 hown0 hHA hw3 hHeld h1 h2 h3 hrA hlt8 hjn
      refine wp_region_held_drew (S := fun V => V.cell? ⟨B8, 0, none⟩ = some (.int .i64 nm.a.x) ∧ V.cell? ⟨B8, 1, none⟩ = some (.int .i64 nm.a.y) ∧ V.cell? ⟨B8, 2, none⟩ = some (.int .i64 nm.b.x) ∧ V.cell? ⟨B8, 3, none⟩ = some (.int .i64 nm.b.y)) (by kernel_rfl) ?_ (fun hHeld => ?_)
      · exact hP0
      refine tk 0 ?_
      refine tk 1 ?_
      refine tk 2 ?_
      refine tk 3 ?_
      refine tk 4 ?_
      refine tk 6 ?_
      refine tk 7 ?_
      refine wpAnyH_ready (rs := [5]) (by kernel_rfl) (by simp) ?_
      refine AllReadyH.cons rfl (fun K hK => ?_) AllReadyH.nil
      refine step_append_any _ (by rfl) (.tmp 51) (.tmp 55) _ (by rfl) w.heap.size 43 i0 _ 2 16 Tryz.underlying23 hi0 hz0 hz1 hz2 (by rfl) (by omega) (.slice A6 k c6) k _ (by rfl) HA7.out.1 w6.heap.size Aj (n - jn) (cap - jn) (ptsV (xs.drop jn)) (by rfl) HA7.out.2.1 (ptsV_one _) hbd.out.1 hbd.out.2 HA7.out.2.2 ?_
      intro v7 w8 hown7 hg7 hat7
      obtain ⟨x1, x2, x3⟩ := HG7.out v7 w8 hown7 hg7
      obtain ⟨A7, c7, rfl⟩ := own_form hown7
      obtain ⟨g1, g2, g3, g4, -, -, -, -⟩ := edge_swap x2
      obtain ⟨y1, y2, y3, y4, f1, f2, f3, f4⟩ := edge_swap (e := ⟨⟨0, 0⟩, ⟨0, 0⟩⟩) x1
      have H8 := Lib.hid (And.intro hown7 (And.intro x1 (And.intro x2 x3)))
      clear hown7 hg7 hat7 x1 x2 x3
      try dsimp only
      refine hK.out _ _ ?_ (fun hHeld => ?_)
      · exact ⟨g1, g2, g3, g4⟩
      clear g1 g2 g3 g4
      clear hK K
      try simp only [Act.put, List.setIfInBounds_toArray]
      refine tk 8 ?_
      refine wpAnyH_ready (rs := [9]) (by kernel_rfl) (by simp) ?_
      refine AllReadyH.cons rfl (fun K hK => ?_) AllReadyH.nil
      go_simp
      refine hK.out _ _ ?_ (fun hHeld => ?_)
      · exact s7_keep H8.out.2.2.1 HL8.out
      clear hK K
      try simp only [Act.put, List.setIfInBounds_toArray]
      refine tk 10 ?_
      refine wpAnyH_done (by kernel_rfl) ?_ _
      clear hP0 hHeld hAj
      obtain ⟨hown8, hZ8, hE8, hB8⟩ := H8.out
      have hR := put4_blk (e := nm) (d := ⟨⟨0, 0⟩, ⟨0, 0⟩⟩) hZ8
      have hB := put4_below (e := nm) hB8 (Nat.le_refl _)
      have hO := own_heap (W' := put4 w8 w.heap.size nm) hown8 (fun g hg => by
        have hne : g ≠ w.heap.size := fun e => own_blk_ne hown8 hZ8 (by decide) (by rw [hg, e])
        unfold put4
        exact heap_put4 w8 w.heap.size _ _ _ _ hne)
      obtain ⟨V2, hVV⟩ : ∃ V2, V2 = put4 w8 w.heap.size nm := ⟨_, rfl⟩
      rw [← hVV] at hR hB hO
      unfold put4 at hVV
      have HX := Lib.hid hVV
      have HY := Lib.hid (And.intro hR (And.intro hB hO))
      clear hVV hR hB hO hown8 hZ8 hE8 hB8 hb'
      go_wp2_with fail
      rw [← HX.out]
      obtain ⟨hR, hB, hO⟩ := HY.out
      obtain ⟨y1, y2, y3, y4, -, -, -, -⟩ := edge_swap hR
      have hjn := HJ.out
      have hnj : k + (n - jn) = n - 1 := by omega
      have hers : ptsV (xs.take k) ++ ptsV (xs.drop jn) = ptsV (xs.eraseIdx k) := by rw [← ptsV_append, List.eraseIdx_eq_take_drop_succ, hjn]
      rw [hnj, hers] at hO
      refine bodyPost_ret (v := .tuple #[.slice A7 (k + (n - jn)) c7, .agg (edC nm), .bool ob]) ?_ rfl ⟨A7, c7, ?_, hO, hB⟩
      · simp [results, Tryz.results93, go_sem, y1, y2, y3, y4, edC]
      · rw [hnj, HN.out.1, hD.out, HOB.out, ← HPM.out.2.2]
    · rw [if_pos rfl] at hnz
      obtain ⟨t1, t2, t3, t4, -, -, -, -⟩ := edge_swap hE4
      have kB := backR_any ⟨p, q⟩ w4
      have H4 := Lib.hid (And.intro hB4 (And.intro hZ4 (And.intro hE4 hnz)))
      clear hB4 hZ4 hE4 hnz hb4 kL s1 s2 s3 s4
      go_wp2_with fail
      refine kB.mono ?_
      rintro e w5 ⟨rfl, hb5⟩
      have hE5 := Blk.below H4.out.2.2.1 hb5 (Blk.lt H4.out.2.2.1)
      have hZ5 := Blk.below H4.out.2.1 hb5 (Blk.lt H4.out.2.1)
      have hB5 := below_on H4.out.1 (Nat.le_refl _) hb5
      have hlt := HC.out.2.2.2
      have hE6 := put4_blk (e := ⟨q, p⟩) hE5
      have hZ6 := put4_far (e := ⟨q, p⟩) hZ5 (g := B8) (by omega)
      have hB6 := put4_below (e := ⟨q, p⟩) (g := B8) hB5 (by omega)
      obtain ⟨t1, t2, t3, t4, f1, f2, f3, f4⟩ := edge_swap hE5
      obtain ⟨V, hV⟩ : ∃ V, V = put4 w5 B8 ⟨q, p⟩ := ⟨_, rfl⟩
      rw [← hV] at hE6 hZ6 hB6
      rw [← H4.out.2.2.2] at hE6
      unfold put4 at hV
      have hV2 := hV.symm
      have H6 := Lib.hid (And.intro hB6 (And.intro hZ6 hE6))
      clear hE6 hZ6 hB6 hV hE5 hZ5 hB5 hb5 hlt kB
      go_upto_region 6 with fail
      clear t1 t2 t3 t4 f1 f2 f3 f4 hV2
      obtain ⟨hbc, hZ, hE⟩ := H6.out
      have hown0 : (V.alloc (.cells #[] 43)).ownsRow w.heap.size 43 2 (.slice (some ⟨V.heap.size, 0, none⟩) 0 0) 0 [] := own_mono (World.ownsRow_made (base := V.heap.size) (e := 43) (size := 2) V #[] 0 (by omega) (by simp [maxLen]) rfl) hbc.size
      have hba : Below V.heap.size V (V.alloc (.cells #[] 43)) := (Below.refl _ _).alloc (Nat.le_refl _) _
      have hrA := ((HKL.out.2.2.2.2.1.on hbc).on hba).takeP (k := k) (by omega)
      have hkn : k ≤ n := by omega
      have hkc : k ≤ cap := by have := HKL.out.2.2.1; omega
      have hwk : IntKind.i64.wrap (k : Int) = (k : Int) := IntWalk.i64_in _ (by have := HKL.out.2.1; omega)
      have h1 : Hid (0 + k ≤ maxLen) := by show _ ≤ _; have := HKL.out.2.1; simp only [maxLen]; omega
      have h2 : Hid ((0 + k) * 16 ≤ 140737488355328) := by show _ ≤ _; have := HKL.out.2.1; omega
      have h3 : Hid (w.heap.size ≤ (V.alloc (.cells #[] 43)).heap.size) := by show _ ≤ _; rw [World.size_alloc]; have := hbc.size; omega
      clear hbc hZ hE hba
      go_upto_region 7 with (at_builtin; refine wpList_append_any _ rfl (.tmp 46) (.tmp 49) _ rfl w.heap.size 43 i0 _ 2 16 Tryz.underlying23 hi0 hz0 hz1 hz2 rfl (by omega) (.slice (some ⟨V.heap.size, 0, none⟩) 0 0) 0 [] rfl hown0 _ (some ad) k cap (ptsV (xs.take k)) rfl hrA (ptsV_one _) h1.out h2.out h3.out ?_; intro v6 w6 hown6 hg6 hat6)
      have hZ0 := Blk.alloc H6.out.2.1 (.cells #[] 43)
      have hE0 := Blk.alloc H6.out.2.2 (.cells #[] 43)
      have hZ6 := Blk.grown hZ0 hg6 (fun e => own_blk_ne hown0 hZ0 (by decide) e.symm)
      have hE6 := Blk.grown hE0 hg6 (fun e => own_blk_ne hown0 hE0 (by decide) e.symm)
      have hB6 : Below w.heap.size w w6 := (H6.out.1.alloc H6.out.1.size _).grown hg6 h3.out (fun g e => (hown0.lt g e).1)
      rw [List.nil_append, Nat.zero_add] at hown6
      obtain ⟨A6, c6, rfl⟩ := own_form hown6
      have hrj := (HKL.out.2.2.2.2.1.on hB6).dropQ (j := jn) (cap := cap) (by omega) HKL.out.2.2.1
      obtain ⟨Aj, hAj⟩ : ∃ Aj, (if cap = jn then some ad else some (ad.add (jn * 2))) = Aj := ⟨_, rfl⟩
      rw [hAj] at hrj
      have hHA : w6.drew.ownsRow w.heap.size 43 2 (.slice A6 k c6) k (ptsV (xs.take k)) ∧ Reads w6.drew w6.heap.size 2 Aj (n - jn) (ptsV (xs.drop jn)) ∧ w.heap.size ≤ w6.drew.heap.size := ⟨hown6.drew, hrj.drew, hB6.size⟩
      have HA7 := Lib.hid hHA
      have HG7 : Hid (∀ v' w8, w8.ownsRow w.heap.size 43 2 v' (k + (n - jn)) (ptsV (xs.take k) ++ ptsV (xs.drop jn)) → w6.drew.grownBy w8 (Value.slice A6 k c6).ownBlock → Blk w8 w.heap.size 45 #[.int .i64 0, .int .i64 0, .int .i64 0, .int .i64 0] ∧ Blk w8 B8 45 (edC nm) ∧ Below w.heap.size w w8) := fun v' w8 _ hg =>
        ⟨Blk.grown (Blk.drew hZ6) hg (fun e => own_blk_ne hown6 hZ6 (by decide) e.symm), Blk.grown (Blk.drew hE6) hg (fun e => own_blk_ne hown6 hE6 (by decide) e.symm), hB6.drew.grown hg hB6.size (fun g e => (hown6.lt g e).1)⟩
      obtain ⟨t1, t2, t3, t4, -, -, -, -⟩ := edge_swap hE6
      have hP0 : w6.drew.cell? ⟨B8, 0, none⟩ = some (.int .i64 nm.a.x) ∧ w6.drew.cell? ⟨B8, 1, none⟩ = some (.int .i64 nm.a.y) ∧ w6.drew.cell? ⟨B8, 2, none⟩ = some (.int .i64 nm.b.x) ∧ w6.drew.cell? ⟨B8, 3, none⟩ = some (.int .i64 nm.b.y) := ⟨t1, t2, t3, t4⟩
      have hjc : jn ≤ cap := by have := HKL.out.2.2.1; omega
      have hjn2 : jn ≤ n := by omega
      have hnc := HKL.out.2.2.1
      have hwj : IntKind.i64.wrap ((k : Int) + 1) = (jn : Int) := by rw [hw3, hjn]; omega
      have hji : (jn : Int) ≤ (n : Int) := by omega
      have hj0 : 0 ≤ (jn : Int) := by omega
      have HJ := Lib.hid hjn
      have hbd : Hid (k + (n - jn) ≤ maxLen ∧ (k + (n - jn)) * 16 ≤ 140737488355328) := by have := HKL.out.2.1; constructor <;> (try simp only [maxLen]) <;> omega
      have hlt8 : w.heap.size ≠ B8 := by have := HC.out.2.2.2; omega
      have HL8 := Lib.hid hlt8
      clear t1 t2 t3 t4 hZ0 hE0 hZ6 hE6 hB6 hown6 hrj hg6 hat6 hown0 hHA hw3 hHeld h1 h2 h3 hrA hlt8 hjn
      refine wp_region_held_drew (S := fun V => V.cell? ⟨B8, 0, none⟩ = some (.int .i64 nm.a.x) ∧ V.cell? ⟨B8, 1, none⟩ = some (.int .i64 nm.a.y) ∧ V.cell? ⟨B8, 2, none⟩ = some (.int .i64 nm.b.x) ∧ V.cell? ⟨B8, 3, none⟩ = some (.int .i64 nm.b.y)) (by kernel_rfl) ?_ (fun hHeld => ?_)
      · exact hP0
      refine tk 0 ?_
      refine tk 1 ?_
      refine tk 2 ?_
      refine tk 3 ?_
      refine tk 4 ?_
      refine tk 6 ?_
      refine tk 7 ?_
      refine wpAnyH_ready (rs := [5]) (by kernel_rfl) (by simp) ?_
      refine AllReadyH.cons rfl (fun K hK => ?_) AllReadyH.nil
      refine step_append_any _ (by rfl) (.tmp 51) (.tmp 55) _ (by rfl) w.heap.size 43 i0 _ 2 16 Tryz.underlying23 hi0 hz0 hz1 hz2 (by rfl) (by omega) (.slice A6 k c6) k _ (by rfl) HA7.out.1 w6.heap.size Aj (n - jn) (cap - jn) (ptsV (xs.drop jn)) (by rfl) HA7.out.2.1 (ptsV_one _) hbd.out.1 hbd.out.2 HA7.out.2.2 ?_
      intro v7 w8 hown7 hg7 hat7
      obtain ⟨x1, x2, x3⟩ := HG7.out v7 w8 hown7 hg7
      obtain ⟨A7, c7, rfl⟩ := own_form hown7
      obtain ⟨g1, g2, g3, g4, -, -, -, -⟩ := edge_swap x2
      obtain ⟨y1, y2, y3, y4, f1, f2, f3, f4⟩ := edge_swap (e := ⟨⟨0, 0⟩, ⟨0, 0⟩⟩) x1
      have H8 := Lib.hid (And.intro hown7 (And.intro x1 (And.intro x2 x3)))
      clear hown7 hg7 hat7 x1 x2 x3
      try dsimp only
      refine hK.out _ _ ?_ (fun hHeld => ?_)
      · exact ⟨g1, g2, g3, g4⟩
      clear g1 g2 g3 g4
      clear hK K
      try simp only [Act.put, List.setIfInBounds_toArray]
      refine tk 8 ?_
      refine wpAnyH_ready (rs := [9]) (by kernel_rfl) (by simp) ?_
      refine AllReadyH.cons rfl (fun K hK => ?_) AllReadyH.nil
      go_simp
      refine hK.out _ _ ?_ (fun hHeld => ?_)
      · exact s7_keep H8.out.2.2.1 HL8.out
      clear hK K
      try simp only [Act.put, List.setIfInBounds_toArray]
      refine tk 10 ?_
      refine wpAnyH_done (by kernel_rfl) ?_ _
      clear hP0 hHeld hAj
      obtain ⟨hown8, hZ8, hE8, hB8⟩ := H8.out
      have hR := put4_blk (e := nm) (d := ⟨⟨0, 0⟩, ⟨0, 0⟩⟩) hZ8
      have hB := put4_below (e := nm) hB8 (Nat.le_refl _)
      have hO := own_heap (W' := put4 w8 w.heap.size nm) hown8 (fun g hg => by
        have hne : g ≠ w.heap.size := fun e => own_blk_ne hown8 hZ8 (by decide) (by rw [hg, e])
        unfold put4
        exact heap_put4 w8 w.heap.size _ _ _ _ hne)
      obtain ⟨V2, hVV⟩ : ∃ V2, V2 = put4 w8 w.heap.size nm := ⟨_, rfl⟩
      rw [← hVV] at hR hB hO
      unfold put4 at hVV
      have HX := Lib.hid hVV
      have HY := Lib.hid (And.intro hR (And.intro hB hO))
      clear hVV hR hB hO hown8 hZ8 hE8 hB8 hb'
      go_wp2_with fail
      rw [← HX.out]
      obtain ⟨hR, hB, hO⟩ := HY.out
      obtain ⟨y1, y2, y3, y4, -, -, -, -⟩ := edge_swap hR
      have hjn := HJ.out
      have hnj : k + (n - jn) = n - 1 := by omega
      have hers : ptsV (xs.take k) ++ ptsV (xs.drop jn) = ptsV (xs.eraseIdx k) := by rw [← ptsV_append, List.eraseIdx_eq_take_drop_succ, hjn]
      rw [hnj, hers] at hO
      refine bodyPost_ret (v := .tuple #[.slice A7 (k + (n - jn)) c7, .agg (edC nm), .bool ob]) ?_ rfl ⟨A7, c7, ?_, hO, hB⟩
      · simp [results, Tryz.results93, go_sem, y1, y2, y3, y4, edC]
      · rw [hnj, HN.out.1, hD.out, HOB.out, ← HPM.out.2.2]
end Go.Proofs.YtglnklfhgdjccaaGreat
