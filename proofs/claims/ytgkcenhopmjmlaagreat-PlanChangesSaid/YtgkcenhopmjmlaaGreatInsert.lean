/- plan.Insert: the walk; what it makes of a sound plan. -/
import Derived.Test.YtgkcenhopmjmlaaGreatEach
import Derived.Test.YtgkcenhopmjmlaaGreatInsert1
namespace Go.Proofs.YtgkcenhopmjmlaaGreat
open Go.RowKit Go.Lib
theorem ptAt_mem {xs : List Pt} {k : Nat} (h : k < xs.length) : ptAt xs k ∈ xs := by rw [ptAt_lt h]; exact List.getElem_mem h
theorem insG_mem {q : Pt} {xs : List Pt} {r : Pt} (h : r ∈ insG q xs) : r ∈ xs ∨ r = q := by
  unfold insG insL at h
  obtain ⟨k, hk, h2⟩ := List.mem_flatMap.1 h
  rw [List.mem_range] at hk
  unfold insK at h2
  rcases List.mem_cons.1 h2 with h3 | h3
  · exact .inl (by rw [h3]; exact ptAt_mem hk)
  · split at h3
    · exact .inr (List.mem_singleton.1 h3)
    · exact absurd h3 List.not_mem_nil
theorem leastN_le' (xs : List Pt) : leastN xs xs.length ≤ xs.length := leastN_le xs xs.length
theorem lst_mem {xs : List Pt} {r : Pt} (h : r ∈ lst xs) : r ∈ xs := rot_mem h
theorem lst_len (xs : List Pt) : (lst xs).length = xs.length := by unfold lst; exact rot_len (leastN_le' xs)
theorem each_fits {g : List Pt → List Pt} {p : Plan} (h : p.fits) (hg : ∀ xs, ringOf p xs → (g xs).length ≤ 1048576 ∧ ∀ r ∈ g xs, r.inI) : (eachP g p).fits := by
  have h0 := hg _ (.inl rfl)
  refine ⟨⟨?_, fun r hr => h0.2 r (lst_mem hr)⟩, by rw [each_len]; exact h.2.1, fun x hx => ?_⟩
  · rw [each_outer, lst_len]; omega
  · unfold eachP at hx
    obtain ⟨y, hy, rfl⟩ := List.mem_map.1 hx
    have hy1 := hg _ (.inr ⟨y, hy, rfl⟩)
    have hy2 := h.2.2 y hy
    refine ⟨?_, fun r hr => hy1.2 r (lst_mem hr), hy2.2.2.1, hy2.2.2.2⟩
    show (lst (g y.ring)).length ≤ _
    rw [lst_len]; omega
theorem sound_ring {p : Plan} {xs : List Pt} (hs : SoundP p) (h : ringOf p xs) : goodL xs = true ∧ xs.length ≤ 128 ∧ 3 ≤ xs.length ∧ checkI xs = 0 := by
  have hc : checkI xs = 0 := by
    rcases h with rfl | ⟨x, hx, rfl⟩
    · exact hs.2.1.1
    · exact (hs.2.2.1 x hx).1
  obtain ⟨h1, h2, h3, -⟩ := checkI_zero hc
  exact ⟨h2, h1, h3, hc⟩
theorem good_in2 {q : Pt} (h : good q = true) : q.inI := by unfold good at h; unfold Pt.inI; simp at h; omega
theorem ins_fits {p : Plan} {q : Pt} (hs : SoundP p) (hf : p.fits) (hq : good q = true) : (eachP (insG q) p).fits := by
  refine each_fits hf fun xs hx => ?_
  obtain ⟨h1, h2, -⟩ := sound_ring hs hx
  refine ⟨by have := insG_len q xs; omega, fun r hr => ?_⟩
  rcases insG_mem hr with h | rfl
  · exact good_in2 (goodL_mem h1 h)
  · exact good_in2 hq
set_option maxRecDepth 100000 in
set_option maxHeartbeats 800000 in
theorem insert_any (p : Plan) (q : Pt) (A A' : Option Addr) (n c n' c' : Nat) (w : World) (h : PlanAt w w.heap.size A n c A' n' c' p) (hs : SoundP p) (hq : good q = true) :
    Calls Tryz.prog 72 #[planV A n c A' n' c', .agg #[.int .i64 q.x, .int .i64 q.y]] w (OwnPostS (eachP (insG q) p) w) := by
  obtain ⟨wa, hwa⟩ : ∃ wa : World, wa = ((w.alloc (.cells #[.slice A n c, .slice A' n' c'] 26)).alloc (.cells #[.int .i64 q.x, .int .i64 q.y] 53)).alloc (.cells #[.slice none 0 0, .slice none 0 0] 26) := ⟨_, rfl⟩
  have hB0 : Below w.heap.size w wa := by rw [hwa]; exact (((Below.refl _ _).alloc (Nat.le_refl _) _).alloc (by simp) _).alloc (by simp; omega) _
  have hX : PlK wa w.heap.size A n c A' n' c' := by rw [hwa]; exact Blk.alloc (Blk.alloc (PlK.new w A n c A' n' c') _) _
  have hY : PtK wa (w.heap.size + 1) q := by
    have := PtK.new (w.alloc (.cells #[.slice A n c, .slice A' n' c'] 26)) q
    rw [World.size_alloc] at this
    rw [hwa]
    exact Blk.alloc this _
  have hZ : PlK wa (w.heap.size + 1 + 1) none 0 0 none 0 0 := by
    have := PlK.new ((w.alloc (.cells #[.slice A n c, .slice A' n' c'] 26)).alloc (.cells #[.int .i64 q.x, .int .i64 q.y] 53)) none 0 0 none 0 0
    rw [World.size_alloc, World.size_alloc] at this
    rw [hwa]
    exact this
  have hP := h.on hB0
  have hn' : n' ≤ 1048576 := by have := (listed_bd hs.1).2.1; have := h.lens.2.1; omega
  have hylt := Blk.lt hY
  have KE := Lib.hid (eachIns_any (w.heap.size + 1) (insG q) p A A' n c n' c' wa hP (ins_fits hs h.fits hq) (fun xs hx => by have := (sound_ring hs hx).2.1; have := insG_len q xs; omega) hn'
    (fun V xs B m cap hV hr hm hc hx => by
      obtain ⟨h1, h2, -⟩ := sound_ring hs hx
      exact insert1_any (w.heap.size + 1) q xs B m cap V hr (by have := hr.lenPt; omega) h1 hq (Blk.below hY hV hylt)))
  obtain ⟨q1, q2, q3⟩ := hX.facts
  have H0 := Lib.hid (And.intro hB0 hZ)
  clear hB0 hX hY hZ hP h hs hq hn' hylt
  go_enter Tryz.func72, Tryz.ntmps72
  go_upto_region 1 with fail
  rw [← hwa]
  clear hwa
  go_wp2_with fail
  refine KE.out.mono ?_
  rintro e w1 ⟨A1, n1, c1, A2, n2, c2, hs, rfl, hpo, hb1⟩
  have hZ1 := H0.out.2.on hb1
  have hB1 := below_on H0.out.1 (Nat.le_refl _) hb1
  have hpo2 := ((hpo.mono H0.out.1.size).store hZ1 (by decide) (by decide) 0 (.slice A1 n1 c1)).store (Blk.set_ hZ1 0 (.slice A1 n1 c1)) (by decide) (by decide) 1 (.slice A2 n2 c2)
  have hB5 := (hB1.setCell (p := ⟨w.heap.size + 1 + 1, 0, none⟩) (by simp only; omega) (.slice A1 n1 c1)).setCell (p := ⟨w.heap.size + 1 + 1, 1, none⟩) (by simp only; omega) (.slice A2 n2 c2)
  have hR5 := Blk.set_ (Blk.set_ hZ1 0 (.slice A1 n1 c1)) 1 (.slice A2 n2 c2)
  obtain ⟨y1, y2, -⟩ := hZ1.facts
  have f1 := Blk.frozen hZ1 0
  have f2 := Blk.frozen hZ1 1
  have HZ := Lib.hid (And.intro hpo2 (And.intro hB5 hR5))
  clear hpo hb1 hZ1 hB1 hpo2 hB5 hR5 KE H0 q1 q2 q3
  go_wp2_with fail
  obtain ⟨hpo, hB5, hR5⟩ := HZ.out
  clear y1 y2 f1 f2 HZ
  generalize (w1.setCell ⟨w.heap.size + 1 + 1, 0, none⟩ (.slice A1 n1 c1)).setCell ⟨w.heap.size + 1 + 1, 1, none⟩ (.slice A2 n2 c2) = V at *
  have r1 : V.cell? ⟨w.heap.size + 1 + 1, 0, none⟩ = some (.slice A1 n1 c1) := by rw [Blk.cell hR5]; rfl
  have r2 : V.cell? ⟨w.heap.size + 1 + 1, 1, none⟩ = some (.slice A2 n2 c2) := by rw [Blk.cell hR5]; rfl
  refine bodyPost_ret (v := planV A1 n1 c1 A2 n2 c2) ?_ rfl ⟨A1, n1, c1, A2, n2, c2, hs, rfl, hpo, hB5⟩
  simp [results, Tryz.results72, go_sem, r1, r2]
end Go.Proofs.YtgkcenhopmjmlaaGreat
