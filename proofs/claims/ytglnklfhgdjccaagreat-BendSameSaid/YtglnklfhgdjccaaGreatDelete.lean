/- slices.Delete of one point in a row of the call's own: the walk. -/
import Derived.Deep.RegionLaw
import Derived.Laws.IdiomCopy
import Derived.Laws.IdiomStrings
import Derived.Test.YtglnklfhgdjccaaGreatEdgesR
import Derived.Test.YtglnklfhgdjccaaGreatMeetR
namespace Go.Proofs.YtglnklfhgdjccaaGreat
open Go.RowKit Go.Lib
theorem drop_ptsV1 (xs : List Pt) (k : Nat) : ptsV (xs.drop (k + 1)) = (ptsV xs).drop (k * 2 + 2) := by
  rw [show k * 2 + 2 = (k + 1) * 2 by omega, drop_ptsV]
theorem ptsV_app (xs ys : List Pt) : ptsV (xs ++ ys) = ptsV xs ++ ptsV ys := by
  induction xs with
  | nil => rfl
  | cons x xs ih => show _ :: _ :: ptsV (xs ++ ys) = _; rw [ih]; rfl
theorem take_ptsV (xs : List Pt) (k : Nat) : (ptsV xs).take (k * 2) = ptsV (xs.take k) := by
  induction xs generalizing k with
  | nil => simp [ptsV]
  | cons x xs ih =>
    rcases k with _ | k
    · rfl
    · rw [show (k + 1) * 2 = k * 2 + 1 + 1 by omega]
      show _ :: _ :: (ptsV xs).take (k * 2) = _
      rw [ih]
      rfl
theorem erase_ptsV (xs : List Pt) (k : Nat) : ptsV (xs.eraseIdx k) = (ptsV xs).take (k * 2) ++ (ptsV xs).drop (k * 2 + 2) := by
  rw [List.eraseIdx_eq_take_drop_succ, ptsV_app, take_ptsV, drop_ptsV1]
theorem addr_lit (b o k : Nat) : (⟨b, o, none⟩ : Addr).add k = ⟨b, o + k, none⟩ := by
  unfold Addr.add
  split
  · rename_i h; rw [h]; rfl
  · rfl
theorem delete_cells {w W : World} {g k n : Nat} {xs : List Pt} {zs : List Value} (hl : xs.length = n) (hk : k < n) (hrow : ∀ j u, (ptsV xs)[j]? = some u → w.cell? ⟨g, j, none⟩ = some u)
    (hW : W = (w.setCells g (k * 2) ((ptsV xs).drop (k * 2 + 2))).setCells g ((n - 1) * 2) zs) : ∀ j u, (ptsV (xs.eraseIdx k))[j]? = some u → W.cell? ⟨g, j, none⟩ = some u := by
  intro j u hu
  have hpl : (ptsV xs).length = n * 2 := by rw [ptsV_length, hl]
  have hj : j < (n - 1) * 2 := by
    have := (List.getElem?_eq_some_iff.1 hu).1
    rw [ptsV_length, List.length_eraseIdx_of_lt (by omega)] at this
    omega
  rw [hW, World.cell?_setCells_out g _ _ _ _ (fun _ _ => .inl hj)]
  rw [erase_ptsV] at hu
  by_cases hjk : j < k * 2
  · rw [World.cell?_setCells_out g _ _ _ _ (fun _ _ => .inl hjk)]
    rw [List.getElem?_append_left (by rw [List.length_take]; omega), List.getElem?_take_of_lt hjk] at hu
    exact hrow j u hu
  · rw [List.getElem?_append_right (by rw [List.length_take]; omega)] at hu
    have e : j - ((ptsV xs).take (k * 2)).length = j - k * 2 := by rw [List.length_take]; congr 1; omega
    rw [e] at hu
    have hlt := (List.getElem?_eq_some_iff.1 hu).1
    have := World.cell?_setCells_in g ((ptsV xs).drop (k * 2 + 2)) (k * 2) w (fun i hi => by
      rw [List.length_drop] at hi
      rw [hrow (k * 2 + i) _ (List.getElem?_eq_getElem (by omega))]
      rfl) (j - k * 2) hlt
    rw [show k * 2 + (j - k * 2) = j by omega] at this
    rw [this, ← List.getElem?_eq_getElem hlt]
    exact hu
set_option maxRecDepth 100000 in
set_option maxHeartbeats 3200000 in
theorem deletePt_any (xs : List Pt) (g n cap k base : Nat) (w : World) (hown : w.ownsRow base 43 2 (.slice (some ⟨g, 0, none⟩) n cap) n (ptsV xs)) (hk : k < n) (hn : n ≤ 1048576) :
    Calls Tryz.prog 91 #[.slice (some ⟨g, 0, none⟩) n cap, .int .i64 (k : Int), .int .i64 ((k + 1 : Nat) : Int)] w fun e w' => e = .returned (.slice (some ⟨g, 0, none⟩) (n - 1) cap) ∧ Reads w' w'.heap.size 2 (some ⟨g, 0, none⟩) (n - 1) (ptsV (xs.eraseIdx k)) ∧ w.grownBy w' (some g) := by
  obtain ⟨i0, hi0, hz0, hz1, hz2⟩ := info_parts info_point
  have hl : xs.length = n := (Reads.of_own hown).lenPt
  have hcap := own_cap hown
  have hgl : g < w.heap.size := (hown.lt g rfl).2
  have hpl : (ptsV xs).length = n * 2 := by rw [ptsV_length, hl]
  have hrow : ∀ j u, (ptsV xs)[j]? = some u → w.cell? ⟨g, j, none⟩ = some u ∧ w.frozen? ⟨g, j, none⟩ = false := fun j u hu => by
    have hj : j < n * 2 := by have := (List.getElem?_eq_some_iff.1 hu).1; rw [hpl] at this; exact this
    exact ⟨by rw [hown.cellAt j hj]; exact hu, hown.frozenAt j⟩
  obtain ⟨jn, hjn⟩ : ∃ j, j = k + 1 := ⟨_, rfl⟩
  obtain ⟨news, hnews⟩ : ∃ news, news = (ptsV xs).drop (k * 2 + 2) := ⟨_, rfl⟩
  have hlen : news.length = (n - jn) * 2 := by rw [hnews, List.length_drop, hpl]; omega
  obtain ⟨A, hA, hsrc⟩ : ∃ A : Addr, (if cap = jn then some (⟨g, 0, none⟩ : Addr) else some ⟨g, jn * 2, none⟩) = some A ∧ Hid (∀ t u, news[t]? = some u → w.drew.cell? (A.add t) = some u) := by
    by_cases h : cap = jn
    · refine ⟨⟨g, 0, none⟩, by simp [h], fun t u hu => ?_⟩
      have h0 : news.length = 0 := by rw [hlen]; omega
      rw [List.length_eq_zero_iff.1 h0] at hu
      simp at hu
    · refine ⟨⟨g, jn * 2, none⟩, by simp [h], fun t u hu => ?_⟩
      rw [hnews, List.getElem?_drop] at hu
      rw [addr_lit, show jn * 2 + t = k * 2 + 2 + t by omega]
      exact (hrow _ _ hu).1
  have s1 : Hid (news.length = (n - jn) * 2) := hlen
  have s2 : Hid (∀ u ∈ news, u.oneCell' = true) := fun u hu => ptsV_one xs u (by rw [hnews] at hu; exact List.mem_of_mem_drop hu)
  have s3 : Hid (∀ t, t < news.length → (w.drew.cell? ⟨g, 0 + k * 2 + t, none⟩).isSome = true ∧ w.drew.frozen? ⟨g, 0 + k * 2 + t, none⟩ = false) := fun t ht => by
    have h := hrow (k * 2 + t) _ (List.getElem?_eq_getElem (by omega))
    rw [Nat.zero_add]
    exact ⟨by show (w.cell? _).isSome = true; rw [h.1]; rfl, h.2⟩
  obtain ⟨W1, hW1⟩ : ∃ W1, W1 = w.drew.setCells g (0 + k * 2) news := ⟨_, rfl⟩
  have hzl : (Builtin.zeroCells #[.int .i64 0, .int .i64 0] 1).toList = [.int .i64 0, .int .i64 0] := by simp [Builtin.zeroCells, List.range, List.range.loop]
  have hcl : ∀ ty, Sem.run Tryz.prog (Builtin.clear_ #[23] ty #[.slice (some ⟨g, (n - 1) * 2, none⟩) (n - (n - 1)) (cap - (n - 1))]) W1 = .ok (.tuple #[]) (W1.setCells g ((n - 1) * 2) [.int .i64 0, .int .i64 0]) := fun ty => by
    have hst := run_storeCells_cells (P := Tryz.prog) g ((n - 1) * 2) [.int .i64 0, .int .i64 0] 0 W1 (fun j hj => by
      have h := hrow ((n - 1) * 2 + 0 + j) _ (List.getElem?_eq_getElem (by simp at hj; omega))
      rw [hW1, World.cell?_setCells_out g _ _ _ _ (fun _ _ => .inr (by rw [hlen]; show _ ≤ (n - 1) * 2 + 0 + j; omega))]
      show (w.cell? _).isSome = true
      rw [h.1]; rfl) (fun j hj => by
      have h := hrow ((n - 1) * 2 + 0 + j) _ (List.getElem?_eq_getElem (by simp at hj; omega))
      rw [hW1, World.frozen?_setCells]
      exact h.2) (by intro v hv; simp at hv; subst hv; rfl)
    rw [Nat.add_zero] at hst
    rw [show n - (n - 1) = 1 by omega]
    have hzv := Tryz.zeroValue43
    simp [Builtin.clear_, run_underlying Tryz.underlying23, hzv, Value.cells, hzl, hst]
  have X : Hid (W1 = w.drew.setCells g (k * 2) news) := by show _ = _; rw [hW1, Nat.zero_add]
  have hW : Hid (W1 = w.drew.setCells g (0 + k * 2) news) := hW1
  have hkc : k ≤ cap := by omega
  have hjc : jn ≤ cap := by omega
  have hjn2 : jn ≤ n := by omega
  have hkj : k ≤ jn := by omega
  have hne : ¬ (k : Int) = (jn : Int) := by omega
  have HF := Lib.hid (And.intro hl (And.intro hk (And.intro hrow (And.intro hgl (And.intro hnews hjn)))))
  rw [← hjn]
  clear hown hl hrow hgl hnews hjn hlen hpl hW1 hz0 hz2
  go_enter Tryz.func91, Tryz.ntmps91
  go_wp2_with fail
  go_region_law (refine step_append_room rfl (.tmp 22) (.tmp 25) 23 rfl 43 i0 2 Tryz.underlying23 hi0 hz1 g 0 k cap (by simp [Act.eval, Act.put]) A (n - jn) (cap - jn) news (by simp [Act.eval, Act.put]) s1.out hsrc.out s2.out (by omega) s3.out ?_; rw [← hW.out])
  have hn1 : k + (n - jn) = n - 1 := by have := HF.out; omega
  rw [hn1]
  go_wp2_with fail
  go_ret
  obtain ⟨hl, hk, hrow, hgl, hnews, hjn⟩ := HF.out
  have hg2 : w.grownBy (W1.setCells g ((n - 1) * 2) [.int .i64 0, .int .i64 0]) (some g) := by
    rw [X.out]
    exact (grownBy_drewN w 1 _).trans ((grownBy_setCs g news (k * 2) w.drew).trans (grownBy_setCs g _ _ _))
  refine ⟨rfl, ⟨by rw [ptsV_length, List.length_eraseIdx_of_lt (by omega)]; omega, fun _ => ⟨_, rfl, Nat.lt_of_lt_of_le hgl hg2.size, fun j u hu => ?_⟩⟩, hg2⟩
  rw [addr_lit, Nat.zero_add]
  exact delete_cells (w := w.drew) hl hk (fun j u h => (hrow j u h).1) (by rw [X.out, hnews]) j u hu
end Go.Proofs.YtglnklfhgdjccaaGreat
