/- ref05.with: a corner more in a ring that has it not: the walk. -/
import Derived.Test.YtglnklfhgdjccaaGreatInsert
namespace Go.Proofs.YtglnklfhgdjccaaGreat
open Go.RowKit Go.Lib
theorem insK_out {xs : List Pt} {q : Pt} {k : Nat} (hk : k < xs.length) (hq : q ∉ xs) : insK xs q k = ptAt xs k :: (if onB (ptAt xs k) (ptAt xs ((k + 1) % xs.length)) q = true then [q] else []) := by
  have h2 : (k + 1) % xs.length < xs.length := Nat.mod_lt _ (by omega)
  unfold insK
  rw [decide_eq_false (fun h => hq (by rw [h]; exact ptAt_mem hk)), decide_eq_false (fun h => hq (by rw [h]; exact ptAt_mem h2))]
  simp
theorem box_grown {W w6 : World} {tmp : Obj} {g : Nat} {v : Value} {q : Pt} (hk : PtK W g q) (hg : (W.alloc tmp).grownBy w6 v.ownBlock) (hne : ∀ b, v.ownBlock = some b → b ≠ g) : PtK w6 g q :=
  (hg.block _ (by have := Blk.lt hk; simp; omega) (fun e => hne g e.symm rfl)).trans (Blk.alloc hk tmp)
theorem hldw6 {W V V' : World} {a0 a1 a2 a3 a4 a5 : Addr} {v0 v1 v2 v3 v4 v5 : Value} (hh : a0.block < W.heap.size ∧ a1.block < W.heap.size ∧ a2.block < W.heap.size ∧ a3.block < W.heap.size ∧ a4.block < W.heap.size ∧ a5.block < W.heap.size) (hs : V.cell? a0 = some v0 ∧ V.cell? a1 = some v1 ∧ V.cell? a2 = some v2 ∧ V.cell? a3 = some v3 ∧ V.cell? a4 = some v4 ∧ V.cell? a5 = some v5 ∧ Below W.heap.size W V) (hb : Below V.heap.size V V') :
    V'.cell? a0 = some v0 ∧ V'.cell? a1 = some v1 ∧ V'.cell? a2 = some v2 ∧ V'.cell? a3 = some v3 ∧ V'.cell? a4 = some v4 ∧ V'.cell? a5 = some v5 ∧ Below W.heap.size W V' := by
  obtain ⟨h0, h1, h2, h3, h4, h5⟩ := hh
  obtain ⟨c0, c1, c2, c3, c4, c5, cb⟩ := hs
  have := cb.size
  have k : ∀ {a : Addr} {v : Value}, a.block < W.heap.size → V.cell? a = some v → V'.cell? a = some v := fun {a v} ha hv => (hb.cell (p := a) (by omega)).trans hv
  exact ⟨k h0 c0, k h1 c1, k h2 c2, k h3 c3, k h4 c4, k h5 c5, below_on cb (Nat.le_refl _) hb⟩
set_option maxRecDepth 100000 in
set_option maxHeartbeats 3200000 in
theorem with_any (xs : List Pt) (q : Pt) (A : Option Addr) (n cap : Nat) (w : World) (hr : Reads w w.heap.size 2 A n (ptsV xs)) (hn : n ≤ 128) (hg : goodL xs = true) (hq : good q = true) (hni : q ∉ xs) :
    Calls Tryz.prog 114 #[.slice A n cap, .agg #[.int .i64 q.x, .int .i64 q.y]] w fun e w' => ∃ A' c', e = .returned (.slice A' (insG q xs).length c') ∧ w'.ownsRow w.heap.size 43 2 (.slice A' (insG q xs).length c') (insG q xs).length (ptsV (insG q xs)) ∧ Below w.heap.size w w' := by
  obtain ⟨i0, hi0, hz0, hz1, hz2⟩ := info_parts info_pt
  have hl : xs.length = n := hr.lenPt
  obtain ⟨wa, hwa⟩ : ∃ wa : World, wa = w.alloc (.cells #[.int .i64 q.x, .int .i64 q.y] 43) := ⟨_, rfl⟩
  have hB0 : Below w.heap.size w wa := by rw [hwa]; exact (Below.refl _ _).alloc (Nat.le_refl _) _
  have hP0 : PtK wa w.heap.size q := by rw [hwa]; exact PtK.new w q
  have hix : idxPt xs q = -1 := by
    have := mt idx_nonneg.1 hni
    unfold idxPt at this ⊢
    rw [if_neg hni]
  have kI := inR_any xs q A n cap wa (hr.on hB0) (by omega)
  rw [hix] at kI
  have KI := Lib.hid kI
  have HR := Lib.hid (And.intro hr (And.intro hl (And.intro hg (And.intro hq hni))))
  have H0 := Lib.hid (And.intro hB0 hP0)
  obtain ⟨q1, q2, -, -, -⟩ := hP0.facts
  clear hr hl hg hq hni hB0 hP0 hix kI
  go_enter Tryz.func114, Tryz.ntmps114
  go_upto_region 1 with fail
  rw [← hwa]
  clear hwa
  go_wp2_with fail
  refine KI.out.mono ?_
  rintro e w1 ⟨rfl, hb1⟩
  have H1 := Lib.hid (And.intro (below_on H0.out.1 (Nat.le_refl _) hb1) (And.intro (show PtK w1 w.heap.size q from Blk.below H0.out.2 hb1 (Blk.lt H0.out.2)) (show w1.ownsRow (w.heap.size + 1) 43 2 (.slice none 0 0) 0 (ptsV (insL xs q (List.range 0))) from World.ownsRow_nil _ _ _ _)))
  clear hb1 H0 KI q1 q2
  go_wp2_with fail
  obtain ⟨wo, hwo⟩ : ∃ wo : World, wo = w1 := ⟨_, rfl⟩
  rw [← hwo] at H1
  rw [← hwo]
  clear hwo
  go_loopw [5, 6] (fun s i wr => ∃ k : Nat, k ≤ n ∧ i = .int .i64 (k : Int) ∧ ∃ A' c m, s = .slice A' m c ∧ m = (insL xs q (List.range k)).length ∧ Hid (Below w.heap.size w wr ∧ PtK wr w.heap.size q ∧ wr.ownsRow (w.heap.size + 1) 43 2 (.slice A' m c) m (ptsV (insL xs q (List.range k))))) (fun _ i _ => n - (intOf i).toNat)
  case atStart => exact ⟨0, Nat.zero_le _, rfl, none, 0, 0, rfl, rfl, H1⟩
  case round =>
    clear H1
    obtain ⟨k, hk, rfl, A', c, m, rfl, hm, HW⟩ := hrel
    by_cases hlt : k < n
    · have hlt' : (k : Int) < (n : Int) := by omega
      have hw1 : IntKind.i64.wrap ((k : Int) + 1) = (k : Int) + 1 := by rw [IntKind.wrap_i64]; omega
      have hn0 : ¬ n = 0 := by omega
      have hn1 : ¬ (n : Int) = 0 := by omega
      have hmb : m ≤ 256 := by have := insL_len xs q (List.range k); rw [List.length_range] at this; omega
      have htm : ((k : Int) + 1).tmod (n : Int) = (((k + 1) % n : Nat) : Int) := by
        rw [show (k : Int) + 1 = ((k + 1 : Nat) : Int) by omega]
        rfl
      have hrl : (k + 1) % n < n := Nat.mod_lt _ (by omega)
      have hns : insL xs q (List.range (k + 1)) = insL xs q (List.range k) ++ ptAt xs k :: (if onB (ptAt xs k) (ptAt xs ((k + 1) % n)) q = true then [q] else []) := by
        rw [List.range_succ, insL_snoc, insK_out (by have := HR.out.2.1; omega) HR.out.2.2.2.2, HR.out.2.1]
      have hpg := ptAt_good HR.out.2.2.1 k
      have hqg := ptAt_good HR.out.2.2.1 ((k + 1) % n)
      generalize (k + 1) % n = r at *
      have hrl' : (r : Int) < (n : Int) := by omega
      have hwr : IntKind.i64.wrap (r : Int) = (r : Int) := IntWalk.i64_in _ (by omega)
      obtain ⟨ad, rfl, -, -, -, -⟩ := HR.out.1.pt hlt
      obtain ⟨hbd, p1, p2⟩ := ((HR.out.1.below HW.out.1).more HW.out.1.size).ptA hlt
      obtain ⟨-, p3, p4⟩ := ((HR.out.1.below HW.out.1).more HW.out.1.size).ptA hrl
      generalize ptAt xs k = p at *
      generalize ptAt xs r = p' at *
      have kO : ∀ V, Calls Tryz.prog 94 #[.agg #[.int .i64 p.x, .int .i64 p.y], .agg #[.int .i64 p'.x, .int .i64 p'.y], .agg #[.int .i64 q.x, .int .i64 q.y]] V fun e w' => e = .returned (.bool (onB p p' q)) ∧ Below V.heap.size V w' := fun V => onR6 p.x p.y p'.x p'.y q.x q.y V hpg hqg HR.out.2.2.2.1
      obtain ⟨ob, hob⟩ : ∃ b, b = onB p p' q := ⟨_, rfl⟩
      simp only [← hob] at kO
      rw [← hob] at hns
      clear hob
      have hown := HW.out.2.2
      have hbel := HW.out.1
      have HNS := Lib.hid (And.intro hns hm)
      have HPP := Lib.hid (And.intro p1 (And.intro p2 (And.intro p3 (And.intro p4 hbd))))
      clear hns hm hpg hqg p3 p4 hbd
      go_upto_region 8 with (at_builtin; refine wpList_append_any _ rfl (.tmp 18) (.tmp 23) _ rfl (w.heap.size + 1) 43 i0 _ 2 16 Tryz.underlying23 hi0 hz0 hz1 hz2 rfl (by omega) (.slice A' m c) m _ rfl (hown.alloc _) (wr.alloc (.cells #[.int .i64 p.x, .int .i64 p.y] 43)).heap.size (some ⟨wr.heap.size, 0, none⟩) 1 1 (ptsV [p]) rfl (Reads.made wr _ _ _ 2 1 _ rfl rfl) (ptsV_one _) (by simp only [maxLen]; omega) (by omega) (by simp; have := hbel.size; omega) ?_; intro v6 w6 hown6 hg6 hat6)
      have hB6 : Below w.heap.size w w6 := (hbel.alloc hbel.size _).grown hg6 (by simp; have := hbel.size; omega) (fun g hg => by have := (hown.lt g hg).1; omega)
      have hK6 : PtK w6 w.heap.size q := box_grown HW.out.2.1 hg6 (fun b e => by have := (hown.lt b e).1; omega)
      have hb6 : Below wr.heap.size wr w6 → True := fun _ => trivial
      have hcell : ∀ a v, a.block < w.heap.size → wr.cell? a = some v → w6.cell? a = some v := fun a v ha hv => (hB6.cell (p := a) ha).trans ((hbel.cell (p := a) ha).symm.trans hv)
      rw [← ptsV_append] at hown6
      obtain ⟨A6, c6, rfl⟩ := own_form hown6
      have hadl : ad.block < w.heap.size := by obtain ⟨ad', e, h1, -⟩ := HR.out.1.2 (by omega); cases e; exact h1
      obtain ⟨q1, q2, -, -, -⟩ := PtK.facts hK6
      have hP0 : w6.drew.cell? (ad.add (k * 2)) = some (.int .i64 p.x) ∧ w6.drew.cell? ⟨(ad.add (k * 2)).block, (ad.add (k * 2)).off + 1, none⟩ = some (.int .i64 p.y) ∧ w6.drew.cell? (ad.add (r * 2)) = some (.int .i64 p'.x) ∧ w6.drew.cell? ⟨(ad.add (r * 2)).block, (ad.add (r * 2)).off + 1, none⟩ = some (.int .i64 p'.y) ∧ w6.drew.cell? ⟨w.heap.size, 0, none⟩ = some (.int .i64 q.x) ∧ w6.drew.cell? ⟨w.heap.size, 1, none⟩ = some (.int .i64 q.y) ∧ Below w6.heap.size w6 w6.drew := ⟨hcell _ _ (by rw [block_of_add]; exact hadl) HPP.out.1, hcell _ _ (by simp only [block_of_add]; exact hadl) HPP.out.2.1, hcell _ _ (by rw [block_of_add]; exact hadl) HPP.out.2.2.1, hcell _ _ (by simp only [block_of_add]; exact hadl) HPP.out.2.2.2.1, q1, q2, (Below.refl _ _).drew⟩
      have hh : (ad.add (k * 2)).block < w6.heap.size ∧ (⟨(ad.add (k * 2)).block, (ad.add (k * 2)).off + 1, none⟩ : Addr).block < w6.heap.size ∧ (ad.add (r * 2)).block < w6.heap.size ∧ (⟨(ad.add (r * 2)).block, (ad.add (r * 2)).off + 1, none⟩ : Addr).block < w6.heap.size ∧ (⟨w.heap.size, 0, none⟩ : Addr).block < w6.heap.size ∧ (⟨w.heap.size, 1, none⟩ : Addr).block < w6.heap.size := by
        have h1 := hB6.size
        have h2 := Blk.lt hK6
        simp only [block_of_add]
        exact ⟨by omega, by omega, by omega, by omega, h2, h2⟩
      have H6 := Lib.hid (And.intro hB6 (And.intro hK6 hown6))
      have HAD := Lib.hid hadl
      clear hB6 hK6 hb6 hcell hadl q1 q2 hown6 hg6 hat6 hown hbel HW p1 p2 HPP
      refine wp_region_held_drew (S := fun V => V.cell? (ad.add (k * 2)) = some (.int .i64 p.x) ∧ V.cell? ⟨(ad.add (k * 2)).block, (ad.add (k * 2)).off + 1, none⟩ = some (.int .i64 p.y) ∧ V.cell? (ad.add (r * 2)) = some (.int .i64 p'.x) ∧ V.cell? ⟨(ad.add (r * 2)).block, (ad.add (r * 2)).off + 1, none⟩ = some (.int .i64 p'.y) ∧ V.cell? ⟨w.heap.size, 0, none⟩ = some (.int .i64 q.x) ∧ V.cell? ⟨w.heap.size, 1, none⟩ = some (.int .i64 q.y) ∧ Below w6.heap.size w6 V) (by kernel_rfl) ?_ (fun hHeld => ?_)
      · exact hP0
      refine wpAnyH_take (i := 0) (v := ?_) rfl (by kernel_rfl) (by kernel_rfl) (by kernel_rfl) (fun _ _ _ h => h) (Or.inl ⟨by rfl, ?_⟩) (by assumption) ?_
      rotate_left
      · intro w hSw; (try dsimp only at hSw); go_simp; try with_reducible rfl
      simp only [Act.put, List.setIfInBounds_toArray, List.set_cons_zero, List.set_cons_succ, List.getElem_toArray, List.getElem_cons_zero]
      refine wpAnyH_take (i := 1) (v := ?_) rfl (by kernel_rfl) (by kernel_rfl) (by kernel_rfl) (fun _ _ _ h => h) (Or.inl ⟨by rfl, ?_⟩) (by assumption) ?_
      rotate_left
      · intro w hSw; (try dsimp only at hSw); go_simp; try with_reducible rfl
      simp only [Act.put, List.setIfInBounds_toArray, List.set_cons_zero, List.set_cons_succ, List.getElem_toArray, List.getElem_cons_zero, List.getElem_cons_succ]
      refine wpAnyH_take (i := 2) (v := ?_) rfl (by kernel_rfl) (by kernel_rfl) (by kernel_rfl) (fun _ _ _ h => h) (Or.inl ⟨by rfl, ?_⟩) (by assumption) ?_
      rotate_left
      · intro w hSw; (try dsimp only at hSw); go_simp; try with_reducible rfl
      simp only [Act.put, List.setIfInBounds_toArray, List.set_cons_zero, List.set_cons_succ, List.getElem_toArray, List.getElem_cons_zero, List.getElem_cons_succ]
      refine wpAnyH_take (i := 3) (v := ?_) rfl (by kernel_rfl) (by kernel_rfl) (by kernel_rfl) (fun _ _ _ h => h) (Or.inl ⟨by rfl, ?_⟩) (by assumption) ?_
      rotate_left
      · intro w hSw; (try dsimp only at hSw); go_simp; try with_reducible rfl
      simp only [Act.put, List.setIfInBounds_toArray, List.set_cons_zero, List.set_cons_succ, List.getElem_toArray, List.getElem_cons_zero, List.getElem_cons_succ]
      refine wpAnyH_take (i := 4) (v := ?_) rfl (by kernel_rfl) (by kernel_rfl) (by kernel_rfl) (fun _ _ _ h => h) (Or.inl ⟨by rfl, ?_⟩) (by assumption) ?_
      rotate_left
      · intro w hSw; (try dsimp only at hSw); go_simp; try with_reducible rfl
      simp only [Act.put, List.setIfInBounds_toArray, List.set_cons_zero, List.set_cons_succ, List.getElem_toArray, List.getElem_cons_zero, List.getElem_cons_succ]
      refine wpAnyH_take (i := 5) (v := ?_) rfl (by kernel_rfl) (by kernel_rfl) (by kernel_rfl) (fun _ _ _ h => h) (Or.inl ⟨by rfl, ?_⟩) (by assumption) ?_
      rotate_left
      · intro w hSw; (try dsimp only at hSw); go_simp; try with_reducible rfl
      simp only [Act.put, List.setIfInBounds_toArray, List.set_cons_zero, List.set_cons_succ, List.getElem_toArray, List.getElem_cons_zero, List.getElem_cons_succ]
      refine wpAnyH_take (i := 6) (v := ?_) rfl (by kernel_rfl) (by kernel_rfl) (by kernel_rfl) (fun _ _ _ h => h) (Or.inl ⟨by rfl, ?_⟩) (by assumption) ?_
      rotate_left
      · intro w hSw; (try dsimp only at hSw); go_simp; try with_reducible rfl
      simp only [Act.put, List.setIfInBounds_toArray, List.set_cons_zero, List.set_cons_succ, List.getElem_toArray, List.getElem_cons_zero, List.getElem_cons_succ]
      refine wpAnyH_take (i := 7) (v := ?_) rfl (by kernel_rfl) (by kernel_rfl) (by kernel_rfl) (fun _ _ _ h => h) (Or.inl ⟨by rfl, ?_⟩) (by assumption) ?_
      rotate_left
      · intro w hSw; (try dsimp only at hSw); go_simp; try with_reducible rfl
      simp only [Act.put, List.setIfInBounds_toArray, List.set_cons_zero, List.set_cons_succ, List.getElem_toArray, List.getElem_cons_zero, List.getElem_cons_succ]
      refine wpAnyH_take (i := 8) (v := ?_) rfl (by kernel_rfl) (by kernel_rfl) (by kernel_rfl) (fun _ _ _ h => h) (Or.inl ⟨by rfl, ?_⟩) (by assumption) ?_
      rotate_left
      · intro w hSw; (try dsimp only at hSw); go_simp; try with_reducible rfl
      simp only [Act.put, List.setIfInBounds_toArray, List.set_cons_zero, List.set_cons_succ, List.getElem_toArray, List.getElem_cons_zero, List.getElem_cons_succ]
      refine wpAnyH_take (i := 9) (v := ?_) rfl (by kernel_rfl) (by kernel_rfl) (by kernel_rfl) (fun _ _ _ h => h) (Or.inl ⟨by rfl, ?_⟩) (by assumption) ?_
      rotate_left
      · intro w hSw; (try dsimp only at hSw); go_simp; try with_reducible rfl
      simp only [Act.put, List.setIfInBounds_toArray, List.set_cons_zero, List.set_cons_succ, List.getElem_toArray, List.getElem_cons_zero, List.getElem_cons_succ]
      refine wpAnyH_take (i := 10) (v := ?_) rfl (by kernel_rfl) (by kernel_rfl) (by kernel_rfl) (fun _ _ _ h => h) (Or.inl ⟨by rfl, ?_⟩) (by assumption) ?_
      rotate_left
      · intro w hSw; (try dsimp only at hSw); go_simp; try with_reducible rfl
      simp only [Act.put, List.setIfInBounds_toArray, List.set_cons_zero, List.set_cons_succ, List.getElem_toArray, List.getElem_cons_zero, List.getElem_cons_succ]
      refine wpAnyH_take (i := 11) (v := ?_) rfl (by kernel_rfl) (by kernel_rfl) (by kernel_rfl) (fun _ _ _ h => h) (Or.inl ⟨by rfl, ?_⟩) (by assumption) ?_
      rotate_left
      · intro w hSw; (try dsimp only at hSw); go_simp; try with_reducible rfl
      simp only [Act.put, List.setIfInBounds_toArray, List.set_cons_zero, List.set_cons_succ, List.getElem_toArray, List.getElem_cons_zero, List.getElem_cons_succ]
      refine wpAnyH_take (i := 12) (v := ?_) rfl (by kernel_rfl) (by kernel_rfl) (by kernel_rfl) (fun _ _ _ h => h) (Or.inl ⟨by rfl, ?_⟩) (by assumption) ?_
      rotate_left
      · intro w hSw; (try dsimp only at hSw); go_simp; try with_reducible rfl
      simp only [Act.put, List.setIfInBounds_toArray, List.set_cons_zero, List.set_cons_succ, List.getElem_toArray, List.getElem_cons_zero, List.getElem_cons_succ]
      refine wpAnyH_ready (rs := [13]) (by kernel_rfl) (by simp) ?_
      refine AllReadyH.cons rfl (fun K hK => ?_) AllReadyH.nil
      go_simp
      go_at_call 94
      (with_reducible refine (kO _).mono ?_)
      rintro e w8 ⟨rfl, hb''⟩
      try dsimp only
      refine hK.out _ _ ?_ (fun hHeld => ?_)
      · exact hldw6 hh hP0 hb''
      clear hK K
      try simp only [Act.put, List.setIfInBounds_toArray, List.set_cons_zero, List.set_cons_succ]
      refine wpAnyH_done (by kernel_rfl) ?_ _
      have hbV := hHeld.2.2.2.2.2.2
      clear hP0 hHeld hh
      have H8 := Lib.hid (And.intro (below_on H6.out.1 (Nat.le_refl _) hbV) (And.intro (show PtK w8 w.heap.size q from Blk.below H6.out.2.1 hbV (Blk.lt H6.out.2.1)) (own_below H6.out.2.2 hbV)))
      clear hbV hb''
      rcases ob with _ | _
      · have hi : insL xs q (List.range (k + 1)) = insL xs q (List.range k) ++ [p] := by rw [HNS.out.1]; rfl
        have HI := Lib.hid hi
        clear hi
        go_wp2_with fail
        go_roundw
        case rel => exact ⟨k + 1, by omega, by go_num, A6, c6, m + 1, rfl, by rw [HI.out, List.length_append, ← HNS.out.2]; rfl, by rw [HI.out]; exact H8⟩
        case measure => simp [intOf]; omega
      · have hi : insL xs q (List.range (k + 1)) = (insL xs q (List.range k) ++ [p]) ++ [q] := by rw [HNS.out.1, List.append_assoc]; rfl
        have HI := Lib.hid hi
        have hown := H8.out.2.2
        have hbel := H8.out.1
        obtain ⟨q1, q2, -, -, -⟩ := PtK.facts H8.out.2.1
        clear hi
        go_wp2_with (at_builtin; refine wpList_append_any _ rfl (.tmp 39) (.tmp 41) _ rfl (w.heap.size + 1) 43 i0 _ 2 16 Tryz.underlying23 hi0 hz0 hz1 hz2 rfl (by omega) (.slice A6 (m + 1) c6) (m + 1) _ rfl (hown.alloc _) (w8.alloc (.cells #[.int .i64 q.x, .int .i64 q.y] 43)).heap.size (some ⟨w8.heap.size, 0, none⟩) 1 1 (ptsV [q]) rfl (Reads.made w8 _ _ _ 2 1 _ rfl rfl) (ptsV_one _) (by simp only [maxLen]; omega) (by omega) (by simp; have := hbel.size; omega) ?_; intro v6 w9 hown6 hg6 hat6)
        have hB9 : Below w.heap.size w w9 := (hbel.alloc hbel.size _).grown hg6 (by simp; have := hbel.size; omega) (fun g hg => by have := (hown.lt g hg).1; omega)
        have hK9 : PtK w9 w.heap.size q := box_grown H8.out.2.1 hg6 (fun b e => by have := (hown.lt b e).1; omega)
        rw [← ptsV_append] at hown6
        obtain ⟨A9, c9, rfl⟩ := own_form hown6
        have H9 := Lib.hid (And.intro hB9 (And.intro hK9 hown6))
        clear hB9 hK9 hown6 hg6 hat6 hown hbel q1 q2 H8
        go_wp2_with fail
        go_roundw
        case rel => exact ⟨k + 1, by omega, by go_num, A9, c9, m + 1 + 1, rfl, by rw [HI.out, List.length_append, List.length_append, ← HNS.out.2]; rfl, by rw [HI.out]; exact H9⟩
        case measure => simp [intOf]; omega
    · have hkn : k = n := by omega
      subst hkn
      have hig : insL xs q (List.range k) = insG q xs := by unfold insG; rw [HR.out.2.1]
      rw [hig] at HW hm
      subst hm
      have HF := Lib.hid (And.intro HW.out.1 (own_mono HW.out.2.2 (Nat.le_succ _)))
      clear HW hig
      go_wp2_with fail
      go_ret
      exact ⟨A', c, rfl, HF.out.2, HF.out.1⟩
end Go.Proofs.YtglnklfhgdjccaaGreat
