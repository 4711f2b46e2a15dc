/- bend.Clear's closure: the walk. -/
import Derived.Test.YtglnklfhgdjccaaGreatCorn
import Derived.Test.YtglnklfhgdjccaaGreatEachC
import Derived.Test.YtglnklfhgdjccaaGreatDelete
import Derived.Test.YtglnklfhgdjccaaGreatBeside
namespace Go.Proofs.YtglnklfhgdjccaaGreat
open Go.RowKit Go.Lib
def clrG (q : Pt) (xs : List Pt) : List Pt := if q ∈ xs then xs.eraseIdx (xs.findIdx fun p => decide (p = q)) else xs
def clrF (q : Pt) (xs : List Pt) : List Ed := if q ∈ xs then [(besD xs (xs.findIdx fun p => decide (p = q))).norm] else []
theorem clr_out {q : Pt} {xs : List Pt} (h : q ∉ xs) : clrG q xs = xs ∧ clrF q xs = [] := by unfold clrG clrF; rw [if_neg h, if_neg h]; exact ⟨rfl, rfl⟩
theorem clr_at {q : Pt} {xs : List Pt} {k : Nat} (h : idxPt xs q = (k : Int)) : k < xs.length ∧ clrG q xs = xs.eraseIdx k ∧ clrF q xs = [(besD xs k).norm] := by
  unfold idxPt at h
  by_cases hf : q ∈ xs
  · rw [if_pos hf] at h
    have hl : xs.findIdx (fun p => decide (p = q)) < xs.length := List.findIdx_lt_length_of_exists ⟨q, hf, by simp⟩
    have hk : xs.findIdx (fun p => decide (p = q)) = k := by omega
    rw [hk] at hl
    refine ⟨hl, ?_, ?_⟩
    · unfold clrG; rw [if_pos hf, hk]
    · unfold clrF; rw [if_pos hf, hk]
  · rw [if_neg hf] at h
    omega
theorem seen_app {bs ns cs : Nat} {As : Option Addr} {es : List Ed} {e0 : Ed} {W w5 : World} (hbx : Blk W bs 46 #[.slice As ns cs]) (ho : W.ownsRow bs 45 4 (.slice As ns cs) ns (edsV es)) (hb : Below W.heap.size W w5) (hes : es.length ≤ 1048577) :
    (w5.alloc (.cells #[.int .i64 e0.a.x, .int .i64 e0.a.y, .int .i64 e0.b.x, .int .i64 e0.b.y] 45)).ownsRow bs 45 4 (.slice As ns cs) ns (edsV es) ∧ Reads (w5.alloc (.cells #[.int .i64 e0.a.x, .int .i64 e0.a.y, .int .i64 e0.b.x, .int .i64 e0.b.y] 45)) (w5.alloc (.cells #[.int .i64 e0.a.x, .int .i64 e0.a.y, .int .i64 e0.b.x, .int .i64 e0.b.y] 45)).heap.size 4 (some ⟨w5.heap.size, 0, none⟩) 1 (edsV [e0]) ∧ ns + 1 ≤ maxLen ∧ (ns + 1) * 32 ≤ 140737488355328 ∧ bs ≤ (w5.alloc (.cells #[.int .i64 e0.a.x, .int .i64 e0.a.y, .int .i64 e0.b.x, .int .i64 e0.b.y] 45)).heap.size := by
  have hba : Below w5.heap.size w5 (w5.alloc (.cells #[.int .i64 e0.a.x, .int .i64 e0.a.y, .int .i64 e0.b.x, .int .i64 e0.b.y] 45)) := (Below.refl _ _).alloc (Nat.le_refl _) _
  have hl : es.length = ns := (Reads.of_own ho).lenEd
  have := Blk.lt hbx
  have := hb.size
  refine ⟨own_below (own_below ho hb) hba, Reads.made w5 #[.int .i64 e0.a.x, .int .i64 e0.a.y, .int .i64 e0.b.x, .int .i64 e0.b.y] 45 (0, 0) 4 1 (edsV [e0]) rfl rfl, by simp only [maxLen]; omega, by omega, by rw [World.size_alloc]; omega⟩
theorem seen_step {B0 bs ns cs m : Nat} {As : Option Addr} {es : List Ed} {e0 : Ed} {W w5 w6 : World} {v2 : Value} (hle : B0 ≤ bs) (hbx : Blk W bs 46 #[.slice As ns cs]) (ho : W.ownsRow bs 45 4 (.slice As ns cs) ns (edsV es)) (hb : Below W.heap.size W w5)
    (hown2 : w6.ownsRow bs 45 4 v2 m (edsV es ++ edsV [e0])) (hg : (w5.alloc (.cells #[.int .i64 e0.a.x, .int .i64 e0.a.y, .int .i64 e0.b.x, .int .i64 e0.b.y] 45)).grownBy w6 (Value.slice As ns cs).ownBlock) :
    w6.cell? ⟨bs, 0, none⟩ = some (.slice As ns cs) ∧ w6.frozen? ⟨bs, 0, none⟩ = false ∧ KpE B0 bs W (w6.setCell ⟨bs, 0, none⟩ v2) ∧ SeenS bs (w6.setCell ⟨bs, 0, none⟩ v2) (es ++ [e0]) := by
  have hba : Below w5.heap.size w5 (w5.alloc (.cells #[.int .i64 e0.a.x, .int .i64 e0.a.y, .int .i64 e0.b.x, .int .i64 e0.b.y] 45)) := (Below.refl _ _).alloc (Nat.le_refl _) _
  have hbw := below_on hb (Nat.le_refl _) hba
  have hx5 : Blk (w5.alloc (.cells #[.int .i64 e0.a.x, .int .i64 e0.a.y, .int .i64 e0.b.x, .int .i64 e0.b.y] 45)) bs 46 #[.slice As ns cs] := Blk.below hbx hbw (Blk.lt hbx)
  have ho5 := own_below ho hbw
  have hx6 : Blk w6 bs 46 #[.slice As ns cs] := (hg.block bs (Blk.lt hx5) (fun e => own_blk_ne ho5 hx5 (by decide) e.symm)).trans hx5
  obtain ⟨A2, c2, rfl⟩ := own_form hown2
  have hm : m = (es ++ [e0]).length := by
    rw [← edsV_append] at hown2
    exact (Reads.of_own hown2).lenEd.symm
  have hgb := Below.grown (B := 0) (Below.refl _ _) hg (Nat.zero_le _) (fun _ _ => Nat.zero_le _)
  refine ⟨by rw [Blk.cell hx6]; rfl, Blk.frozen hx6 0, ⟨hgb.os.trans hbw.os, hgb.tape.trans hbw.tape, hgb.output.trans hbw.output, ?_, fun k hk hn hc => ?_⟩, A2, m, c2, ?_, ?_⟩
  · rw [show (w6.setCell ⟨bs, 0, none⟩ (.slice A2 m c2)).heap.size = w6.heap.size by simp]
    exact Nat.le_trans hbw.size hgb.size
  · rw [Below.heap_setCell _ _ _ k hn]
    have h1 := hbw.block k hk
    rw [← h1]
    refine hg.block k (by have := hbw.size; omega) (fun e => ?_)
    rcases ho5.2 with ⟨e', -⟩ | ⟨g, c, cur, e', h3, h4, -⟩
    · rw [e'] at e; simp [Value.ownBlock] at e
    · rw [e'] at e
      have : k = g := by simpa [Value.ownBlock] using e
      subst this
      rcases hc with hc | hc
      · have : bs ≤ k := (ho5.lt k (by rw [e']; rfl)).1
        omega
      · exact hc ⟨cur, h1.symm.trans h4⟩
  · have := Blk.set_ hx6 0 (.slice A2 m c2)
    simp only [List.setIfInBounds_toArray, List.set_cons_zero] at this
    exact this
  · rw [edsV_append]
    exact own_heap hown2 fun g hg' => Below.heap_setCell _ _ _ g (fun e => own_blk_ne hown2 hx6 (by decide) (by rw [hg', e]))
theorem KpE.grownS {B0 bs : Nat} {w W W' : World} {row : Option Nat} (h : KpE B0 bs w W) (hg : W.grownBy W' row) (hr : ∀ k, row = some k → w.heap.size ≤ k) : KpE B0 bs w W' := h.grown hg hr
theorem SeenS.grownP {bs g : Nat} {W W' : World} {es : List Ed} (h : SeenS bs W es) {base size n cap : Nat} {xs : List Value} (ho : W.ownsRow base 43 size (.slice (some ⟨g, 0, none⟩) n cap) n xs) (hg : W.grownBy W' (some g)) : SeenS bs W' es := h.grown ho (by decide) (by decide) (by simpa [Value.ownBlock] using hg)
set_option maxRecDepth 100000 in
set_option maxHeartbeats 3200000 in
theorem clear1_any (bat bs B0 : Nat) (q : Pt) (es : List Ed) (xs : List Pt) (A : Option Addr) (n cap : Nat) (w : World) (hr : Reads w B0 2 A n (ptsV xs)) (hc1 : n ≤ cap) (hc2 : cap ≤ 9223372036854775807) (hn : n ≤ 1048576) (hle : B0 ≤ bs) (hq : PtK w bat q) (hse : SeenS bs w es) (hes : es.length ≤ 1048577) :
    Calls Tryz.prog 89 #[.slice A n cap, .pointer (some ⟨bat, 0, none⟩), .pointer (some ⟨bs, 0, none⟩)] w fun e w' => ∃ A' c', e = .returned (.slice A' (clrG q xs).length c') ∧ (Reads w' w'.heap.size 2 A' (clrG q xs).length (ptsV (clrG q xs)) ∧ (clrG q xs).length ≤ c' ∧ c' ≤ 9223372036854775807) ∧ KpE B0 bs w w' ∧ SeenS bs w' (es ++ clrF q xs) := by
  have hl : xs.length = n := hr.lenPt
  have hbl : B0 ≤ w.heap.size := by
    obtain ⟨As, ns, cs, h1, -⟩ := hse
    have := Blk.lt h1
    omega
  have kI := Lib.hid (indexQ_any xs q A n cap w (hr.more hbl) (by omega))
  obtain ⟨q1, q2, -⟩ := hq.facts
  have H0 := Lib.hid (And.intro hr (And.intro hle (And.intro hse (And.intro hes (And.intro hbl (And.intro hn (And.intro hl (And.intro hc1 hc2))))))))
  clear hr hc1 hc2 hn hle hq hse hes hl hbl
  go_enter Tryz.func89, Tryz.ntmps89
  go_wp2_with fail
  refine kI.out.mono ?_
  rintro e w2 ⟨rfl, hb2⟩
  clear kI q1 q2
  by_cases hin : q ∈ xs
  case neg =>
    have hix : idxPt xs q = -1 := by unfold idxPt; rw [if_neg hin]
    rw [hix]
    have hcl := clr_out hin
    have HM := Lib.hid (And.intro hcl hb2)
    clear hcl hin hix hb2
    go_wp2_with fail
    go_ret
    obtain ⟨h1, -, h3, -, h5, -, h7, h8, h9⟩ := H0.out
    obtain ⟨⟨e1, e2⟩, hb2⟩ := HM.out
    refine ⟨A, cap, by rw [e1, h7]; rfl, ?_, KpE.of hb2, by rw [e2, List.append_nil]; exact h3.below hb2⟩
    rw [e1, h7]
    exact ⟨(h1.more h5).on hb2, h8, h9⟩
  case pos =>
    obtain ⟨k, hk, hix, -, -⟩ := idx_lt hin
    obtain ⟨-, hgk, hfk⟩ := clr_at hix
    rw [hix]
    obtain ⟨As, ns, cs, hbx, hrow⟩ := H0.out.2.2.1.below hb2
    have hkn : k < n := by have := H0.out.2.2.2.2.2.2.1; omega
    have hw1 : IntKind.i64.wrap ((k : Int) + 1) = ((k + 1 : Nat) : Int) := by rw [IntKind.wrap_i64]; have := H0.out.2.2.2.2.2.1; omega
    have hk0 : ¬ (k : Int) < 0 := by omega
    obtain ⟨i0, hi0, hz0, hz1, hz2⟩ := info_parts info_ed
    obtain ⟨e0, he0⟩ : ∃ e0, e0 = (besD xs k).norm := ⟨_, rfl⟩
    have hr2 := H0.out.1.below (hb2.mono H0.out.2.2.2.2.1)
    have hB2 : B0 ≤ w2.heap.size := Nat.le_trans H0.out.2.2.2.2.1 hb2.size
    have kB := beside_any xs A n cap k w2.drew ((hr2.more hB2).drew) hkn H0.out.2.2.2.2.2.1
    rw [← he0] at kB
    unfold edC at kB
    have hcell : ∀ V, Below w2.drew.heap.size w2.drew V → V.cell? ⟨bs, 0, none⟩ = some (.slice As ns cs) := fun V hV => (hV.cell (p := ⟨bs, 0, none⟩) (Blk.lt hbx)).trans (by show w2.cell? _ = _; rw [Blk.cell hbx]; rfl)
    have HSt := Lib.hid (And.intro H0.out.2.1 (And.intro hbx hrow))
    have HB : Hid (Below w2.heap.size w2 w2.drew) := (Below.refl _ _).drew
    have HNS := Lib.hid H0.out.2.2.2.1
    have HR2 := Lib.hid (And.intro hr2 (And.intro hB2 (And.intro hb2 (And.intro hgk (And.intro hfk (And.intro he0 hk))))))
    clear hin hix hgk hfk hbx hrow hr2 hB2 he0 hb2 hk
    go_upto_region 4 with fail
    go_cut [] (fun wx => KpE B0 bs w2 wx ∧ SeenS bs wx (es ++ [e0]))
    case first =>
      refine wp_region_held_drew (S := fun V => True) (by kernel_rfl) ?_ (fun hHeld => ?_)
      · exact trivial
      refine tk 1 ?_
      refine tk 2 ?_
      refine wpAnyH_ready (rs := [0, 3]) (by kernel_rfl) (by simp) ?_
      refine AllReadyH.cons rfl (fun K hK => ?_) (AllReadyH.cons rfl (fun K hK => ?_) AllReadyH.nil)
      · have LW := hcell _ ((Below.refl _ _))
        go_simp
        refine hK.out _ _ ?_ (fun hHeld => ?_)
        · exact trivial
        clear LW
        clear hK K
        try simp only [Act.put, List.setIfInBounds_toArray, List.set_cons_zero, List.set_cons_succ]
        refine wpAnyH_ready (rs := [3]) (by kernel_rfl) (by simp) ?_
        refine AllReadyH.cons rfl (fun K hK => ?_) AllReadyH.nil
        go_simp
        go_at_call 90
        (with_reducible refine (kB).mono ?_)
        rintro e w5 ⟨rfl, hb'⟩
        have HA := Lib.hid (seen_app (e0 := e0) HSt.out.2.1 HSt.out.2.2 (HB.out.trans hb') HNS.out)
        try dsimp only
        refine hK.out _ _ ?_ (fun hHeld => ?_)
        · exact trivial
        clear hK K
        try simp only [Act.put, List.setIfInBounds_toArray, List.set_cons_zero, List.set_cons_succ]
        refine wpAnyH_ready (rs := [4]) (by kernel_rfl) (by simp) ?_
        refine AllReadyH.cons rfl (fun K hK => ?_) AllReadyH.nil
        go_simp
        refine hK.out _ _ ?_ (fun hHeld => ?_)
        · exact trivial
        clear hK K
        try simp only [Act.put, List.setIfInBounds_toArray, List.set_cons_zero, List.set_cons_succ]
        refine wpAnyH_ready (rs := [5]) (by kernel_rfl) (by simp) ?_
        refine AllReadyH.cons rfl (fun K hK => ?_) AllReadyH.nil
        refine step_append_any _ (by rfl) (.tmp 12) (.tmp 16) _ (by rfl) bs 45 i0 _ 4 32 Tryz.underlying46 hi0 hz0 hz1 hz2 (by rfl) (Nat.zero_lt_succ _) (.slice As ns cs) ns _ (by rfl) HA.out.1 _ (some ⟨_, 0, none⟩) 1 1 (edsV [e0]) (by rfl) HA.out.2.1 (edsV_one _) HA.out.2.2.1 HA.out.2.2.2.1 HA.out.2.2.2.2 ?_
        intro v2 w6 hown2 hg2 hat2
        obtain ⟨A2, c2, rfl⟩ := own_form hown2
        obtain ⟨z1, z2, hkp, hse⟩ := seen_step HSt.out.1 HSt.out.2.1 HSt.out.2.2 (HB.out.trans hb') hown2 hg2
        have HZ := Lib.hid (And.intro hkp hse)
        clear hkp hse hown2 hg2 hat2 HA hb'
        try dsimp only
        refine hK.out _ _ ?_ (fun hHeld => ?_)
        · exact trivial
        clear hK K
        try simp only [Act.put, List.setIfInBounds_toArray]
        refine wpAnyH_ready (rs := [6]) (by kernel_rfl) (by simp) ?_
        refine AllReadyH.cons rfl (fun K hK => ?_) AllReadyH.nil
        go_simp
        refine hK.out _ _ ?_ (fun hHeld => ?_)
        · exact trivial
        clear hK K
        try simp only [Act.put, List.setIfInBounds_toArray]
        refine wpAnyH_done (by kernel_rfl) ?_ _
        go_wp2_with fail
        go_meet
        exact ⟨HZ.out.1, HZ.out.2⟩
      · go_simp
        go_at_call 90
        (with_reducible refine (kB).mono ?_)
        rintro e w5 ⟨rfl, hb'⟩
        have HA := Lib.hid (seen_app (e0 := e0) HSt.out.2.1 HSt.out.2.2 (HB.out.trans hb') HNS.out)
        try dsimp only
        refine hK.out _ _ ?_ (fun hHeld => ?_)
        · exact trivial
        clear hK K
        try simp only [Act.put, List.setIfInBounds_toArray, List.set_cons_zero, List.set_cons_succ]
        refine wpAnyH_ready (rs := [0, 4]) (by kernel_rfl) (by simp) ?_
        refine AllReadyH.cons rfl (fun K hK => ?_) (AllReadyH.cons rfl (fun K hK => ?_) AllReadyH.nil)
        · have LW := hcell _ (hb')
          go_simp
          refine hK.out _ _ ?_ (fun hHeld => ?_)
          · exact trivial
          clear LW
          clear hK K
          try simp only [Act.put, List.setIfInBounds_toArray, List.set_cons_zero, List.set_cons_succ]
          refine wpAnyH_ready (rs := [4]) (by kernel_rfl) (by simp) ?_
          refine AllReadyH.cons rfl (fun K hK => ?_) AllReadyH.nil
          go_simp
          refine hK.out _ _ ?_ (fun hHeld => ?_)
          · exact trivial
          clear hK K
          try simp only [Act.put, List.setIfInBounds_toArray, List.set_cons_zero, List.set_cons_succ]
          refine wpAnyH_ready (rs := [5]) (by kernel_rfl) (by simp) ?_
          refine AllReadyH.cons rfl (fun K hK => ?_) AllReadyH.nil
          refine step_append_any _ (by rfl) (.tmp 12) (.tmp 16) _ (by rfl) bs 45 i0 _ 4 32 Tryz.underlying46 hi0 hz0 hz1 hz2 (by rfl) (Nat.zero_lt_succ _) (.slice As ns cs) ns _ (by rfl) HA.out.1 _ (some ⟨_, 0, none⟩) 1 1 (edsV [e0]) (by rfl) HA.out.2.1 (edsV_one _) HA.out.2.2.1 HA.out.2.2.2.1 HA.out.2.2.2.2 ?_
          intro v2 w6 hown2 hg2 hat2
          obtain ⟨A2, c2, rfl⟩ := own_form hown2
          obtain ⟨z1, z2, hkp, hse⟩ := seen_step HSt.out.1 HSt.out.2.1 HSt.out.2.2 (HB.out.trans hb') hown2 hg2
          have HZ := Lib.hid (And.intro hkp hse)
          clear hkp hse hown2 hg2 hat2 HA hb'
          try dsimp only
          refine hK.out _ _ ?_ (fun hHeld => ?_)
          · exact trivial
          clear hK K
          try simp only [Act.put, List.setIfInBounds_toArray]
          refine wpAnyH_ready (rs := [6]) (by kernel_rfl) (by simp) ?_
          refine AllReadyH.cons rfl (fun K hK => ?_) AllReadyH.nil
          go_simp
          refine hK.out _ _ ?_ (fun hHeld => ?_)
          · exact trivial
          clear hK K
          try simp only [Act.put, List.setIfInBounds_toArray]
          refine wpAnyH_done (by kernel_rfl) ?_ _
          go_wp2_with fail
          go_meet
          exact ⟨HZ.out.1, HZ.out.2⟩
        · go_simp
          refine hK.out _ _ ?_ (fun hHeld => ?_)
          · exact trivial
          clear hK K
          try simp only [Act.put, List.setIfInBounds_toArray, List.set_cons_zero, List.set_cons_succ]
          refine wpAnyH_ready (rs := [0]) (by kernel_rfl) (by simp) ?_
          refine AllReadyH.cons rfl (fun K hK => ?_) AllReadyH.nil
          have LW := hcell _ (hb'.alloc hb'.size (.cells #[.int .i64 e0.a.x, .int .i64 e0.a.y, .int .i64 e0.b.x, .int .i64 e0.b.y] 45))
          go_simp
          refine hK.out _ _ ?_ (fun hHeld => ?_)
          · exact trivial
          clear LW
          clear hK K
          try simp only [Act.put, List.setIfInBounds_toArray, List.set_cons_zero, List.set_cons_succ]
          refine wpAnyH_ready (rs := [5]) (by kernel_rfl) (by simp) ?_
          refine AllReadyH.cons rfl (fun K hK => ?_) AllReadyH.nil
          refine step_append_any _ (by rfl) (.tmp 12) (.tmp 16) _ (by rfl) bs 45 i0 _ 4 32 Tryz.underlying46 hi0 hz0 hz1 hz2 (by rfl) (Nat.zero_lt_succ _) (.slice As ns cs) ns _ (by rfl) HA.out.1 _ (some ⟨_, 0, none⟩) 1 1 (edsV [e0]) (by rfl) HA.out.2.1 (edsV_one _) HA.out.2.2.1 HA.out.2.2.2.1 HA.out.2.2.2.2 ?_
          intro v2 w6 hown2 hg2 hat2
          obtain ⟨A2, c2, rfl⟩ := own_form hown2
          obtain ⟨z1, z2, hkp, hse⟩ := seen_step HSt.out.1 HSt.out.2.1 HSt.out.2.2 (HB.out.trans hb') hown2 hg2
          have HZ := Lib.hid (And.intro hkp hse)
          clear hkp hse hown2 hg2 hat2 HA hb'
          try dsimp only
          refine hK.out _ _ ?_ (fun hHeld => ?_)
          · exact trivial
          clear hK K
          try simp only [Act.put, List.setIfInBounds_toArray]
          refine wpAnyH_ready (rs := [6]) (by kernel_rfl) (by simp) ?_
          refine AllReadyH.cons rfl (fun K hK => ?_) AllReadyH.nil
          go_simp
          refine hK.out _ _ ?_ (fun hHeld => ?_)
          · exact trivial
          clear hK K
          try simp only [Act.put, List.setIfInBounds_toArray]
          refine wpAnyH_done (by kernel_rfl) ?_ _
          go_wp2_with fail
          go_meet
          exact ⟨HZ.out.1, HZ.out.2⟩
    case rest =>
      obtain ⟨hkp, hse⟩ := hcut
      obtain ⟨hr2, hB2, hb2, hgk, hfk, he0, hk⟩ := HR2.out
      have hwk := hkp.below hB2 H0.out.2.1
      have hrx := (hr2.below hwk).more (Nat.le_trans hB2 hkp.size)
      have kC := Lib.hid (clonePt_any xs A n cap _ hrx H0.out.2.2.2.2.2.1)
      have HX := Lib.hid (And.intro hkp hse)
      clear hkp hse hr2 hB2 hb2 hgk hfk he0 hk hwk hrx kB hcell
      go_wp2_with fail
      refine kC.out.mono ?_
      rintro e w8 ⟨A8, c8, rfl, ho8, hb8⟩
      obtain ⟨g, cap', e, -, -⟩ := ho8.form (by omega)
      obtain rfl : A8 = some ⟨g, 0, none⟩ := by cases e; rfl
      clear e
      have kD := Lib.hid (deletePt_any xs g n c8 k _ w8 ho8 hkn H0.out.2.2.2.2.2.1)
      have HC := Lib.hid (And.intro ho8 hb8)
      clear ho8 hb8 kC
      go_wp2_with fail
      refine kD.out.mono ?_
      rintro e w9 ⟨rfl, hr9, hg9⟩
      have H9 := Lib.hid (And.intro hr9 hg9)
      clear hr9 hg9 kD
      go_wp2_with fail
      go_ret
      obtain ⟨hr2, hB2, hb2, hgk, hfk, he0, hk⟩ := HR2.out
      obtain ⟨hr9, hg9⟩ := H9.out
      obtain ⟨ho8, hb8⟩ := HC.out
      obtain ⟨hkp, hse⟩ := HX.out
      have hlen : (clrG q xs).length = n - 1 := by rw [hgk, List.length_eraseIdx_of_lt hk, H0.out.2.2.2.2.2.2.1]
      refine ⟨some ⟨g, 0, none⟩, c8, by rw [hlen]; rfl, ?_, ?_, ?_⟩
      · rw [hlen, hgk]
        exact ⟨hr9, by have := (own_cap ho8).1; omega, (own_cap ho8).2⟩
      · have h1 := ((KpE.of hb2).trans hkp).trans (KpE.of hb8)
        refine h1.grown hg9 (fun k' e' => ?_)
        have e2 : k' = g := by simpa using e'.symm
        have := (ho8.lt g rfl).1
        have := hkp.size
        have := hb2.size
        omega
      · rw [hfk, ← he0]
        exact (hse.below hb8).grownP ho8 hg9
end Go.Proofs.YtglnklfhgdjccaaGreat
