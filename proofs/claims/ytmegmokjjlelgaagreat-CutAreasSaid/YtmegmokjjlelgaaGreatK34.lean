/- cut.way: the walk; plan.Insert: the walk; what it makes of a sound plan; Rings stored into an own plan; ref02.Least at longer rings; least twice is least. -/
import Derived.Deep.CutBlock
import Derived.Deep.DeepCutAuto
import Derived.Test.YtmegmokjjlelgaaGreatK19
import Derived.Test.YtmegmokjjlelgaaGreatK31
import Derived.Test.YtmegmokjjlelgaaGreatK32
namespace Go.Proofs.YtmegmokjjlelgaaGreat
open Go.RowKit Go.Lib
def wayL (xs : List Pt) (s k : Nat) : List Pt := (List.range k).map fun j => ptAt xs ((s + j) % xs.length)
theorem wayL_len (xs : List Pt) (s k : Nat) : (wayL xs s k).length = k := by simp [wayL]
theorem wayL_succ (xs : List Pt) (s k : Nat) : wayL xs s (k + 1) = wayL xs s k ++ [ptAt xs ((s + k) % xs.length)] := by simp [wayL, List.range_succ]
theorem own_lessW {w : World} {b b' n : Nat} {e : TypeId} {size : Nat} {v : Value} {xs : List Value} (h : w.ownsRow b e size v n xs) (hb : b' ≤ b) : w.ownsRow b' e size v n xs := by
  refine ⟨h.1, ?_⟩
  rcases h.2 with h1 | ⟨g, cap, cur, h1, h2, h3⟩
  · exact .inl h1
  · exact .inr ⟨g, cap, cur, h1, by omega, h3⟩
theorem way_comes {xs : List Pt} {t : Pt} (ht : t ∈ xs) (s : Nat) : ∃ K, K < xs.length ∧ ptAt xs ((s + K) % xs.length) = t ∧ ∀ j, j < K → ptAt xs ((s + j) % xs.length) ≠ t := by
  obtain ⟨k0, hk0, rfl⟩ := List.getElem_of_mem ht
  have hex : ∃ K, K < xs.length ∧ ptAt xs ((s + K) % xs.length) = xs[k0] := by
    refine ⟨(k0 + (xs.length - s % xs.length)) % xs.length, Nat.mod_lt _ (by omega), ?_⟩
    have hs : s % xs.length < xs.length := Nat.mod_lt _ (by omega)
    have : (s + (k0 + (xs.length - s % xs.length)) % xs.length) % xs.length = k0 := by
      rw [Nat.add_mod, Nat.mod_mod, ← Nat.add_mod]
      have e : s + (k0 + (xs.length - s % xs.length)) = k0 + xs.length * (s / xs.length + 1) := by
        have := Nat.div_add_mod s xs.length
        rw [Nat.mul_add]
        omega
      rw [e, Nat.add_mul_mod_self_left, Nat.mod_eq_of_lt hk0]
    rw [this, ptAt_lt hk0]
  obtain ⟨K, h1, h2⟩ := hex
  induction K using Nat.strongRecOn with
  | ind K ih =>
    by_cases h : ∃ j, j < K ∧ ptAt xs ((s + j) % xs.length) = xs[k0]
    · obtain ⟨j, hj, e⟩ := h
      exact ih j hj (by omega) e
    · exact ⟨K, h1, h2, fun j hj e => h ⟨j, hj, e⟩⟩
set_option maxRecDepth 100000 in
set_option maxHeartbeats 1600000 in
theorem cutWay_any (xs : List Pt) (f t : Pt) (A : Option Addr) (n c : Nat) (w : World) (hr : Reads w w.heap.size 2 A n (ptsV xs)) (hf : f ∈ xs) (ht : t ∈ xs) (hn : n ≤ 1048576) :
    Calls Tryz.prog 65 #[.slice A n c, .agg #[.int .i64 f.x, .int .i64 f.y], .agg #[.int .i64 t.x, .int .i64 t.y]] w fun e w' => ∃ A' c' i K, e = .returned (.slice A' K c') ∧ idxPt xs f = ((i : Nat) : Int) ∧ i < n ∧ K < n ∧ ptAt xs ((i + 1 + K) % n) = t ∧ (∀ j, j < K → ptAt xs ((i + 1 + j) % n) ≠ t) ∧ w'.ownsRow w.heap.size 44 2 (.slice A' K c') K (ptsV (wayL xs (i + 1) K)) ∧ Below w.heap.size w w' := by
  have hl := hr.lenPt
  obtain ⟨ip, hip, hz0, hz1, hz2⟩ := info_parts info_pt
  obtain ⟨i, hi, hidx, -, -⟩ := idx_lt hf
  obtain ⟨K, hK, hKt, hKn⟩ := way_comes ht (i + 1)
  rw [hl] at hi hK hKt hKn
  obtain ⟨wa, hwa⟩ : ∃ wa : World, wa = (w.alloc (.cells #[.int .i64 f.x, .int .i64 f.y] 44)).alloc (.cells #[.int .i64 t.x, .int .i64 t.y] 44) := ⟨_, rfl⟩
  have hB0 : Below w.heap.size w wa := by rw [hwa]; exact ((Below.refl _ _).alloc (Nat.le_refl _) _).alloc (by simp) _
  have hF0 : PtK wa w.heap.size f := by rw [hwa]; exact Blk.alloc (PtK.new w f) _
  have hT0 : PtK wa (w.heap.size + 1) t := by
    have := PtK.new (w.alloc (.cells #[.int .i64 f.x, .int .i64 f.y] 44)) t
    rw [World.size_alloc] at this
    rw [hwa]
    exact this
  have KI := Lib.hid (indexQ_any xs f A n c wa (hr.on hB0) (by omega))
  rw [hidx] at KI
  have H0 := Lib.hid (And.intro hB0 (And.intro hF0 hT0))
  have HK := Lib.hid (And.intro hidx (And.intro hKt hKn))
  have HR := Lib.hid hr
  clear hB0 hF0 hT0 hidx hKt hKn hr hf ht
  go_enter Tryz.func65, Tryz.ntmps65
  go_upto_region 2 with fail
  rw [← hwa]
  clear hwa
  obtain ⟨q1, q2, -⟩ := H0.out.2.1.facts
  go_wp2_with fail
  refine KI.out.mono ?_
  rintro e w1 ⟨rfl, hb1⟩
  have H1 := Lib.hid (And.intro (below_on H0.out.1 (Nat.le_refl _) hb1) (show PtK w1 (w.heap.size + 1) t from Blk.below H0.out.2.2 hb1 (Blk.lt H0.out.2.2)))
  have hw0 : IntKind.i64.wrap ((i : Int) + 1) = (i : Int) + 1 := by rw [IntKind.wrap_i64]; omega
  clear hb1 KI q1 q2 H0
  go_wp2_with fail
  go_loopw [7, 8] (fun o v wr => ∃ (k : Nat) (A' : Option Addr) (c' : Nat), k ≤ K ∧ v = .int .i64 ((i : Int) + 1 + (k : Int)) ∧ o = .slice A' k c' ∧ Hid (wr.ownsRow (w.heap.size + 2) 44 2 (.slice A' k c') k (ptsV (wayL xs (i + 1) k)) ∧ Below w.heap.size w wr ∧ PtK wr (w.heap.size + 1) t)) (fun _ v _ => 2097152 - (intOf v).toNat)
  case atStart => exact ⟨0, none, 0, Nat.zero_le _, by simp, rfl, World.ownsRow_nil _ _ _ _, H1.out.1, H1.out.2⟩
  case round =>
    clear H1
    obtain ⟨k, A', c', hk, rfl, rfl, HW⟩ := hrel
    obtain ⟨W, rfl⟩ : ∃ W, W = wr := ⟨_, rfl⟩
    have hw1 : IntKind.i64.wrap ((i : Int) + 1 + (k : Int) + 1) = (i : Int) + 1 + ((k + 1 : Nat) : Int) := by rw [IntKind.wrap_i64]; omega
    obtain ⟨M, hM⟩ : ∃ M, M = (i + 1 + k) % n := ⟨_, rfl⟩
    have hMn : M < n := by rw [hM]; exact Nat.mod_lt _ (by omega)
    have hMi : (M : Int) < (n : Int) := by omega
    have hmi : ((i : Int) + 1 + (k : Int)).tmod (n : Int) = (M : Int) := by
      rw [hM, Int.tmod_eq_emod_of_nonneg (by omega), Int.natCast_emod]
      congr 1
    have hwM : IntKind.i64.wrap (M : Int) = (M : Int) := by rw [IntKind.wrap_i64]; omega
    have hn0 : ((n : Int) == 0) = false := by rw [beq_eq_false_iff_ne]; omega
    have HM := Lib.hid hM
    obtain ⟨ad, rfl, -, -, -, -⟩ := HR.out.pt hMn
    obtain ⟨-, p1, p2⟩ := (HR.out.below HW.out.2.1).ptA hMn
    obtain ⟨t1, t2, -, -, -⟩ := HW.out.2.2.facts
    obtain ⟨P, hP⟩ : ∃ P, P = ptAt xs M := ⟨_, rfl⟩
    rw [← hP] at p1 p2
    have he := fun V => neqPt_runs P t V
    have hg := fun op a b V => (eqPt_runs P t op a b V).2
    have HP := Lib.hid hP
    clear hM hP
    by_cases hpt : P = t
    · have hkK : k = K := by
        rcases Nat.lt_or_ge k K with h | h
        · exact absurd (by rw [← HM.out, ← HP.out]; exact hpt) (HK.out.2.2 k h)
        · omega
      subst hkK
      rw [decide_eq_true hpt] at he
      clear hpt
      go_wp2
      go_quiet (fail)
      go_wp2
      go_ret
      exact ⟨A', c', i, k, rfl, HK.out.1, hi, hK, HK.out.2.1, HK.out.2.2, own_below (own_lessW HW.out.1 (by omega)) (below_drewN (Below.refl _ _) _), below_drewN HW.out.2.1 _⟩
    · have hkK : k < K := by
        rcases Nat.lt_or_ge k K with h | h
        · exact h
        · obtain rfl : k = K := by omega
          exact absurd (by rw [HP.out, HM.out]; exact HK.out.2.1) hpt
      rw [decide_eq_false hpt] at he
      clear hpt
      go_wp2
      go_quiet (fail)
      obtain ⟨W5, hW5⟩ : ∃ V, V = W.drewN nq := ⟨_, rfl⟩
      have hbd : Below W.heap.size W W5 := by rw [hW5]; exact below_drewN (Below.refl _ _) _
      have hown5 := own_below HW.out.1 hbd
      have hb5 := below_on HW.out.2.1 (Nat.le_refl _) hbd
      have hs5 := hb5.size
      have hs6 := Blk.lt HW.out.2.2
      have hs7 := hbd.size
      have hT5 : PtK W5 (w.heap.size + 1) t := Blk.below HW.out.2.2 hbd (Blk.lt HW.out.2.2)
      replace p1 : W5.cell? (ad.add (M * 2)) = some (.int .i64 P.x) := by rw [hW5]; exact p1
      replace p2 : W5.cell? ⟨(ad.add (M * 2)).block, (ad.add (M * 2)).off + 1, none⟩ = some (.int .i64 P.y) := by rw [hW5]; exact p2
      rw [← hW5]
      clear hW5 hbd t1 t2 he hg
      have HB5 := Lib.hid (And.intro hb5 (And.intro hT5 hown5))
      clear hb5 hT5
      go_wp2_with (at_builtin; refine wpList_append_any _ rfl (.tmp 24) (.tmp 32) _ rfl (w.heap.size + 2) 44 ip _ 2 16 Tryz.underlying23 hip hz0 hz1 hz2 rfl (by omega) (.slice A' k c') k _ rfl (hown5.alloc _) (W5.alloc (.cells #[.int .i64 P.x, .int .i64 P.y] 44)).heap.size (some ⟨W5.heap.size, 0, none⟩) 1 1 (ptsV [P]) rfl (Reads.made W5 _ _ _ 2 1 _ rfl rfl) (ptsV_one _) (by simp only [maxLen]; omega) (by omega) (by simp; omega) ?_; intro v6 w6 hown6 hg6 hat6; have hB6 := (HB5.out.1.alloc hs5 _).grown hg6 (by simp; omega) (fun g hg => by have := (hown5.lt g hg).1; omega); have hT5 := Blk.alloc HB5.out.2.1 (.cells #[.int .i64 P.x, .int .i64 P.y] 44); have hT6 : PtK w6 (w.heap.size + 1) t := (hg6.block _ (Blk.lt hT5) (fun e => by have := (hown5.lt _ e.symm).1; omega)).trans hT5; rw [← ptsV_append, HP.out, HM.out, ← hl, ← wayL_succ] at hown6; obtain ⟨A6, c6, rfl⟩ := own_form hown6; have H6 := Lib.hid (And.intro hown6 (And.intro hB6 hT6)); clear hown6 hB6 hT5 hT6 hg6 hat6 hown5)
      go_roundw
      case rel => exact ⟨k + 1, A6, c6, by omega, by go_num, rfl, H6.out⟩
      case measure => simp [intOf]; omega
end Go.Proofs.YtmegmokjjlelgaaGreat
namespace Go.Proofs.YtmegmokjjlelgaaGreat
open Go.RowKit Go.Lib
theorem ptAt_mem {xs : List Pt} {k : Nat} (h : k < xs.length) : ptAt xs k ∈ xs := by rw [ptAt_lt h]; exact List.getElem_mem h
theorem insG_mem {q : Pt} {xs : List Pt} {r : Pt} (h : r ∈ insG q xs) : r ∈ xs ∨ r = q := by
  unfold insG insL at h
  obtain ⟨k, hk, h2⟩ := List.mem_flatMap.1 h
  rw [List.mem_range] at hk
  unfold insK at h2
  rcases List.mem_cons.1 h2 with h3 | h3
  · exact .inl (by rw [h3]; exact ptAt_mem hk)
  · split at h3
    · exact .inr (List.mem_singleton.1 h3)
    · exact absurd h3 List.not_mem_nil
theorem leastN_le' (xs : List Pt) : leastN xs xs.length ≤ xs.length := leastN_le xs xs.length
theorem lst_mem {xs : List Pt} {r : Pt} (h : r ∈ lst xs) : r ∈ xs := rot_mem h
theorem lst_len (xs : List Pt) : (lst xs).length = xs.length := by unfold lst; exact rot_len (leastN_le' xs)
theorem each_fits {g : List Pt → List Pt} {p : Plan} (h : p.fits) (hg : ∀ xs, ringOf p xs → (g xs).length ≤ 1048576 ∧ ∀ r ∈ g xs, r.inI) : (eachP g p).fits := by
  have h0 := hg _ (.inl rfl)
  refine ⟨⟨?_, fun r hr => h0.2 r (lst_mem hr)⟩, by rw [each_len]; exact h.2.1, fun x hx => ?_⟩
  · rw [each_outer, lst_len]; omega
  · unfold eachP at hx
    obtain ⟨y, hy, rfl⟩ := List.mem_map.1 hx
    have hy1 := hg _ (.inr ⟨y, hy, rfl⟩)
    have hy2 := h.2.2 y hy
    refine ⟨?_, fun r hr => hy1.2 r (lst_mem hr), hy2.2.2.1, hy2.2.2.2⟩
    show (lst (g y.ring)).length ≤ _
    rw [lst_len]; omega
theorem sound_ring {p : Plan} {xs : List Pt} (hs : SoundP p) (h : ringOf p xs) : goodL xs = true ∧ xs.length ≤ 128 ∧ 3 ≤ xs.length ∧ checkI xs = 0 := by
  have hc : checkI xs = 0 := by
    rcases h with rfl | ⟨x, hx, rfl⟩
    · exact hs.2.1.1
    · exact (hs.2.2.1 x hx).1
  obtain ⟨h1, h2, h3, -⟩ := checkI_zero hc
  exact ⟨h2, h1, h3, hc⟩
theorem good_in2 {q : Pt} (h : good q = true) : q.inI := by unfold good at h; unfold Pt.inI; simp at h; omega
theorem insW_fits {p : Plan} {q : Pt} (hs : ∀ xs, ringOf p xs → goodL xs = true ∧ xs.length ≤ 1024) (hf : p.fits) (hq : good q = true) : (eachP (insG q) p).fits := by
  refine each_fits hf fun xs hx => ?_
  obtain ⟨h1, h2⟩ := hs xs hx
  refine ⟨by have := insG_len q xs; omega, fun r hr => ?_⟩
  rcases insG_mem hr with h | rfl
  · exact good_in2 (goodL_mem h1 h)
  · exact good_in2 hq
theorem sound_rings {p : Plan} (hs : SoundP p) : ∀ xs, ringOf p xs → goodL xs = true ∧ xs.length ≤ 1024 := fun xs hx => by
  obtain ⟨h1, h2, -⟩ := sound_ring hs hx
  exact ⟨h1, by omega⟩
theorem ins_fits {p : Plan} {q : Pt} (hs : SoundP p) (hf : p.fits) (hq : good q = true) : (eachP (insG q) p).fits := insW_fits (sound_rings hs) hf hq
set_option maxRecDepth 100000 in
set_option maxHeartbeats 800000 in
theorem insertW_any (p : Plan) (q : Pt) (A A' : Option Addr) (n c n' c' : Nat) (w : World) (h : PlanAt w w.heap.size A n c A' n' c' p) (hs : ∀ xs, ringOf p xs → goodL xs = true ∧ xs.length ≤ 1024) (hn' : n' ≤ 1048576) (hq : good q = true) :
    Calls Tryz.prog 60 #[planV A n c A' n' c', .agg #[.int .i64 q.x, .int .i64 q.y]] w (OwnPostS (eachP (insG q) p) w) := by
  obtain ⟨wa, hwa⟩ : ∃ wa : World, wa = ((w.alloc (.cells #[.slice A n c, .slice A' n' c'] 26)).alloc (.cells #[.int .i64 q.x, .int .i64 q.y] 44)).alloc (.cells #[.slice none 0 0, .slice none 0 0] 26) := ⟨_, rfl⟩
  have hB0 : Below w.heap.size w wa := by rw [hwa]; exact (((Below.refl _ _).alloc (Nat.le_refl _) _).alloc (by simp) _).alloc (by simp; omega) _
  have hX : PlK wa w.heap.size A n c A' n' c' := by rw [hwa]; exact Blk.alloc (Blk.alloc (PlK.new w A n c A' n' c') _) _
  have hY : PtK wa (w.heap.size + 1) q := by
    have := PtK.new (w.alloc (.cells #[.slice A n c, .slice A' n' c'] 26)) q
    rw [World.size_alloc] at this
    rw [hwa]
    exact Blk.alloc this _
  have hZ : PlK wa (w.heap.size + 1 + 1) none 0 0 none 0 0 := by
    have := PlK.new ((w.alloc (.cells #[.slice A n c, .slice A' n' c'] 26)).alloc (.cells #[.int .i64 q.x, .int .i64 q.y] 44)) none 0 0 none 0 0
    rw [World.size_alloc, World.size_alloc] at this
    rw [hwa]
    exact this
  have hP := h.on hB0
  have hylt := Blk.lt hY
  have KE := Lib.hid (eachIns_any (w.heap.size + 1) (insG q) p A A' n c n' c' wa hP (insW_fits hs h.fits hq) (fun xs hx => by have := (hs xs hx).2; have := insG_len q xs; omega) hn'
    (fun V xs B m cap hV hr hm hc hx => by
      obtain ⟨h1, h2⟩ := hs xs hx
      exact insert1_any (w.heap.size + 1) q xs B m cap V hr (by have := hr.lenPt; omega) h1 hq (Blk.below hY hV hylt)))
  obtain ⟨q1, q2, q3⟩ := hX.facts
  have H0 := Lib.hid (And.intro hB0 hZ)
  clear hB0 hX hY hZ hP h hs hq hn' hylt
  go_enter Tryz.func60, Tryz.ntmps60
  go_upto_region 1 with fail
  rw [← hwa]
  clear hwa
  go_wp2_with fail
  refine KE.out.mono ?_
  rintro e w1 ⟨A1, n1, c1, A2, n2, c2, hs, rfl, hpo, hb1⟩
  have hZ1 := H0.out.2.on hb1
  have hB1 := below_on H0.out.1 (Nat.le_refl _) hb1
  have hpo2 := ((hpo.mono H0.out.1.size).store hZ1 (by decide) (by decide) 0 (.slice A1 n1 c1)).store (Blk.set_ hZ1 0 (.slice A1 n1 c1)) (by decide) (by decide) 1 (.slice A2 n2 c2)
  have hB5 := (hB1.setCell (p := ⟨w.heap.size + 1 + 1, 0, none⟩) (by simp only; omega) (.slice A1 n1 c1)).setCell (p := ⟨w.heap.size + 1 + 1, 1, none⟩) (by simp only; omega) (.slice A2 n2 c2)
  have hR5 := Blk.set_ (Blk.set_ hZ1 0 (.slice A1 n1 c1)) 1 (.slice A2 n2 c2)
  obtain ⟨y1, y2, -⟩ := hZ1.facts
  have f1 := Blk.frozen hZ1 0
  have f2 := Blk.frozen hZ1 1
  have HZ := Lib.hid (And.intro hpo2 (And.intro hB5 hR5))
  clear hpo hb1 hZ1 hB1 hpo2 hB5 hR5 KE H0 q1 q2 q3
  go_wp2_with fail
  obtain ⟨hpo, hB5, hR5⟩ := HZ.out
  clear y1 y2 f1 f2 HZ
  generalize (w1.setCell ⟨w.heap.size + 1 + 1, 0, none⟩ (.slice A1 n1 c1)).setCell ⟨w.heap.size + 1 + 1, 1, none⟩ (.slice A2 n2 c2) = V at *
  have r1 : V.cell? ⟨w.heap.size + 1 + 1, 0, none⟩ = some (.slice A1 n1 c1) := by rw [Blk.cell hR5]; rfl
  have r2 : V.cell? ⟨w.heap.size + 1 + 1, 1, none⟩ = some (.slice A2 n2 c2) := by rw [Blk.cell hR5]; rfl
  refine bodyPost_ret (v := planV A1 n1 c1 A2 n2 c2) ?_ rfl ⟨A1, n1, c1, A2, n2, c2, hs, rfl, hpo, hB5⟩
  simp [results, Tryz.results60, go_sem, r1, r2]
end Go.Proofs.YtmegmokjjlelgaaGreat
namespace Go.Proofs.YtmegmokjjlelgaaGreat
open Go.RowKit Go.Lib
theorem rowPV_set {ps : List Parc} {hs : List Hd} (hl : hs.length = ps.length) {k : Nat} (hk : k < ps.length) (ys : List Pt) (h : Hd) :
    rowPV (ps.set k ⟨(pcAt ps k).id, ys, (pcAt ps k).owner⟩) (hs.set k h) = (rowPV ps hs).set (k * 3 + 1) (.slice h.1 h.2.1 h.2.2) := by
  induction ps generalizing hs k with
  | nil => simp at hk
  | cons y ps ih =>
    rcases hs with _ | ⟨g, hs⟩
    · simp at hl
    · rcases k with _ | k
      · rfl
      · have h1 := ih (hs := hs) (by simpa using hl) (k := k) (by simpa using hk)
        have h2 : pcAt (y :: ps) (k + 1) = pcAt ps k := by unfold pcAt; simp
        rw [h2]
        show pcV y g ++ rowPV (ps.set k _) (hs.set k h) = _
        rw [h1, show (k + 1) * 3 + 1 = k * 3 + 1 + 1 + 1 + 1 by omega]
        rfl
def setR (p : Plan) (k : Nat) (ys : List Pt) : Plan := ⟨p.outer, p.parcels.set k ⟨(pcAt p.parcels k).id, ys, (pcAt p.parcels k).owner⟩⟩
theorem hdAt_set {hs : List Hd} {k j : Nat} {h : Hd} (hk : k < hs.length) : hdAt (hs.set k h) j = if j = k then h else hdAt hs j := by
  unfold hdAt
  rw [List.getElem?_set]
  by_cases e : k = j
  · rw [if_pos e, if_pos e.symm, if_pos (by omega)]; rfl
  · rw [if_neg e, if_neg (fun h => e h.symm)]
theorem pcAt_set {ps : List Parc} {k j : Nat} {x : Parc} (hk : k < ps.length) : pcAt (ps.set k x) j = if j = k then x else pcAt ps j := by
  unfold pcAt
  rw [List.getElem?_set]
  by_cases e : k = j
  · rw [if_pos e, if_pos e.symm, if_pos (by omega)]; rfl
  · rw [if_neg e, if_neg (fun h => e h.symm)]
theorem PlanOwn.setRing {B n c n' c' k m c3 : Nat} {W : World} {A A3 : Option Addr} {ad : Addr} {p : Plan} {hs : List Hd} {ys : List Pt} (h : PlanOwn B W A n c (some ad) n' c' p hs) (hk : k < n')
    (hnew : W.ownsRow B 44 2 (.slice A3 m c3) m (ptsV ys)) (hf : (setR p k ys).fits) :
    PlanOwn B (W.setCell ⟨(ad.add (k * 3)).block, (ad.add (k * 3)).off + 1, none⟩ (.slice A3 m c3)) A n c (some ad) n' c' (setR p k ys) (hs.set k (A3, m, c3)) ∧ ad.block < W.heap.size ∧ B ≤ ad.block := by
  obtain ⟨g, cap, e, hb, hlt⟩ := h.row.form (by omega)
  have e1 : ad = ⟨g, 0, none⟩ := by cases e; rfl
  have e2 : cap = c' := by cases e; rfl
  subst e1 e2
  have hrow := (h.row.stored (k * 3 + 1) (.slice A3 m c3)).1
  have hadr : (⟨((⟨g, 0, none⟩ : Addr).add (k * 3)).block, ((⟨g, 0, none⟩ : Addr).add (k * 3)).off + 1, none⟩ : Addr) = ⟨g, k * 3 + 1, none⟩ := by rw [add_off3 _ _ _ (by omega)]; simp [Addr.add]
  rw [hadr]
  have hkeep : ∀ {v : Value} {j : Nat} {xs : List Value}, W.ownsRow B 44 2 v j xs → (W.setCell ⟨g, k * 3 + 1, none⟩ (.slice A3 m c3)).ownsRow B 44 2 v j xs := fun {v j xs} ho =>
    ownsRow_setCell_other ho (fun e' => own_own_ne h.row ho (by decide) (g := g) rfl e') _
  have hkl : k < p.parcels.length := by rw [h.lenp]; exact hk
  refine ⟨⟨hkeep h.out, ?_, by rw [List.length_set]; exact h.len, by show (List.set _ _ _).length = _; rw [List.length_set]; exact h.lenp, fun j hj => ?_, hf⟩, hlt, hb⟩
  · show World.ownsRow _ _ _ _ _ _ (rowPV (p.parcels.set k _) _)
    rw [rowPV_set (by rw [h.len, h.lenp]) hkl]
    exact hrow
  · show World.ownsRow _ _ _ _ _ _ (ptsV (pcAt (p.parcels.set k _) j).ring)
    rw [hdAt_set (by rw [h.len]; exact hk), pcAt_set hkl]
    by_cases e' : j = k
    · rw [if_pos e', if_pos e']
      exact hkeep hnew
    · rw [if_neg e', if_neg e']
      exact hkeep (h.rings j hj)
end Go.Proofs.YtmegmokjjlelgaaGreat
