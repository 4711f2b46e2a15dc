/- slices.Delete of one parcel in a row of the call's own: the walk. -/
/- plan.Clone: the walk. -/
/- join.Merge: the walk. -/
import Derived.Deep.RegionLaw
import Derived.Laws.IdiomCopy
import Derived.Laws.IdiomStrings
import Derived.Deep.CutBlock
import Derived.Deep.DeepCutAuto
import Derived.Test.YtgkcenhopmjmlaaGreatRings
import Derived.Test.YtgkcenhopmjmlaaGreatEach
import Derived.Test.YtgkcenhopmjmlaaGreatTk
import Derived.Test.YtgkcenhopmjmlaaGreatJoinLaw
import Derived.Test.YtgkcenhopmjmlaaGreatWalk
namespace Go.Proofs.YtgkcenhopmjmlaaGreat
open Go.RowKit Go.Lib
theorem addr_to (b o k : Nat) : (⟨b, o, none⟩ : Addr).add k = ⟨b, o + k, none⟩ := by
  unfold Addr.add
  split
  · rename_i h; rw [h]; rfl
  · rfl
theorem rowPV_len {ps : List Parc} {hs : List Hd} (h : hs.length = ps.length) : (rowPV ps hs).length = ps.length * 3 := by
  induction ps generalizing hs with
  | nil => simp [rowPV]
  | cons y ps ih =>
    rcases hs with _ | ⟨g, hs⟩
    · simp at h
    · show (pcV y g ++ rowPV ps hs).length = _
      rw [List.length_append, ih (by simpa using h)]
      simp [pcV]
      omega
theorem rowPV_one (ps : List Parc) (hs : List Hd) : ∀ u ∈ rowPV ps hs, u.oneCell' = true := by
  induction ps generalizing hs with
  | nil => intro u hu; simp [rowPV] at hu
  | cons y ps ih =>
    rcases hs with _ | ⟨g, hs⟩
    · intro u hu; simp [rowPV] at hu
    · intro u hu
      rcases List.mem_append.1 (show u ∈ pcV y g ++ rowPV ps hs from hu) with h | h
      · simp [pcV] at h
        rcases h with rfl | rfl | rfl <;> rfl
      · exact ih hs u h
theorem erase_rowPV {ps : List Parc} {hs : List Hd} (h : hs.length = ps.length) {k : Nat} (hk : k < ps.length) : rowPV (ps.eraseIdx k) (hs.eraseIdx k) = (rowPV ps hs).take (k * 3) ++ (rowPV ps hs).drop (k * 3 + 3) := by
  induction ps generalizing hs k with
  | nil => simp at hk
  | cons y ps ih =>
    rcases hs with _ | ⟨g, hs⟩
    · simp at h
    · rcases k with _ | k
      · rfl
      · have h1 := ih (hs := hs) (by simpa using h) (k := k) (by simpa using hk)
        show pcV y g ++ rowPV (ps.eraseIdx k) (hs.eraseIdx k) = _
        rw [h1, show (k + 1) * 3 = k * 3 + 1 + 1 + 1 by omega, show k * 3 + 1 + 1 + 1 + 3 = k * 3 + 3 + 1 + 1 + 1 by omega]
        rfl
theorem delete_cellsPc {w W : World} {g k n : Nat} {ps : List Parc} {hs : List Hd} {zs : List Value} (hle : hs.length = ps.length) (hl : ps.length = n) (hk : k < n) (hrow : ∀ j u, (rowPV ps hs)[j]? = some u → w.cell? ⟨g, j, none⟩ = some u)
    (hW : W = (w.setCells g (k * 3) ((rowPV ps hs).drop (k * 3 + 3))).setCells g ((n - 1) * 3) zs) : ∀ j u, (rowPV (ps.eraseIdx k) (hs.eraseIdx k))[j]? = some u → W.cell? ⟨g, j, none⟩ = some u := by
  intro j u hu
  have hpl : (rowPV ps hs).length = n * 3 := by rw [rowPV_len hle, hl]
  rw [erase_rowPV hle (by omega)] at hu
  have hj : j < (n - 1) * 3 := by
    have := (List.getElem?_eq_some_iff.1 hu).1
    rw [List.length_append, List.length_take, List.length_drop, hpl] at this
    omega
  rw [hW, World.cell?_setCells_out g _ _ _ _ (fun _ _ => .inl hj)]
  by_cases hjk : j < k * 3
  · rw [World.cell?_setCells_out g _ _ _ _ (fun _ _ => .inl hjk)]
    rw [List.getElem?_append_left (by rw [List.length_take]; omega), List.getElem?_take_of_lt hjk] at hu
    exact hrow j u hu
  · rw [List.getElem?_append_right (by rw [List.length_take]; omega)] at hu
    have e : j - ((rowPV ps hs).take (k * 3)).length = j - k * 3 := by rw [List.length_take]; congr 1; omega
    rw [e] at hu
    have hlt := (List.getElem?_eq_some_iff.1 hu).1
    have := World.cell?_setCells_in g ((rowPV ps hs).drop (k * 3 + 3)) (k * 3) w (fun i hi => by
      rw [List.length_drop] at hi
      rw [hrow (k * 3 + i) _ (List.getElem?_eq_getElem (by omega))]
      rfl) (j - k * 3) hlt
    rw [show k * 3 + (j - k * 3) = j by omega] at this
    rw [this, ← List.getElem?_eq_getElem hlt]
    exact hu
theorem own_blk {w : World} {base : Nat} {e : TypeId} {size n cap g : Nat} {xs : List Value} (h : w.ownsRow base e size (.slice (some ⟨g, 0, none⟩) n cap) n xs) : ∃ cs, Blk w g e cs ∧ cs.size = cap * size := by
  rcases h.2 with ⟨h1, -⟩ | ⟨g', c', cur, h1, -, h2, -, -, h3, -⟩
  · cases h1
  · cases h1
    exact ⟨cur, h2, h3⟩
theorem blk_setCells {t : TypeId} {g : Nat} : ∀ (vs : List Value) (o : Nat) (W : World) (cs : Array Value), Blk W g t cs → ∃ cs', Blk (W.setCells g o vs) g t cs' ∧ cs'.size = cs.size
  | [], _, _, cs, h => ⟨cs, h, rfl⟩
  | v :: r, o, W, cs, h => by
    obtain ⟨cs', h1, h2⟩ := blk_setCells r (o + 1) (W.setCell ⟨g, o, none⟩ v) _ (Blk.set_ h o v)
    exact ⟨cs', h1, by rw [h2]; simp⟩
theorem own_small {w W : World} {base : Nat} {e : TypeId} {size n m cap g : Nat} {xs ys : List Value} {cs : Array Value} (h : w.ownsRow base e size (.slice (some ⟨g, 0, none⟩) n cap) n xs) (hb : Blk W g e cs) (hz : cs.size = cap * size) (hm : m ≤ n) (hy : ys.length = m * size)
    (hc : ∀ j u, ys[j]? = some u → W.cell? ⟨g, j, none⟩ = some u) : W.ownsRow base e size (.slice (some ⟨g, 0, none⟩) m cap) m ys := by
  rcases h.2 with ⟨h1, -⟩ | ⟨g', c', cur, h1, h2, -, h3, h4, -, -⟩
  · cases h1
  · cases h1
    refine ⟨hy, .inr ⟨g, cap, cs, rfl, h2, hb, by omega, h4, hz, ?_⟩⟩
    have hle : m * size ≤ cap * size := Nat.mul_le_mul_right _ (by omega)
    refine List.ext_getElem (by rw [List.length_take, hy, Array.length_toList, hz]; omega) fun j h5 h6 => ?_
    have h7 := hc j _ (List.getElem?_eq_getElem h6)
    rw [Blk.cell hb j] at h7
    rw [List.getElem_take]
    rw [Array.getElem?_eq_some_iff] at h7
    obtain ⟨_, h8⟩ := h7
    rw [← h8]
    simp
set_option maxRecDepth 100000 in
set_option maxHeartbeats 3200000 in
theorem deletePc_any (ps : List Parc) (hs : List Hd) (g n cap k base : Nat) (w : World) (hown : w.ownsRow base 38 3 (.slice (some ⟨g, 0, none⟩) n cap) n (rowPV ps hs)) (hle : hs.length = ps.length) (hl : ps.length = n) (hk : k < n) (hn : n ≤ 1048576) :
    Calls Tryz.prog 48 #[.slice (some ⟨g, 0, none⟩) n cap, .int .i64 (k : Int), .int .i64 ((k + 1 : Nat) : Int)] w fun e w' => e = .returned (.slice (some ⟨g, 0, none⟩) (n - 1) cap) ∧ w'.ownsRow base 38 3 (.slice (some ⟨g, 0, none⟩) (n - 1) cap) (n - 1) (rowPV (ps.eraseIdx k) (hs.eraseIdx k)) ∧ w.grownBy w' (some g) := by
  obtain ⟨i0, hi0, hz0, hz1, hz2⟩ := info_parts info_pc
  have hcap := own_cap hown
  have hgl : g < w.heap.size := (hown.lt g rfl).2
  have hpl : (rowPV ps hs).length = n * 3 := by rw [rowPV_len hle, hl]
  have hrow : ∀ j u, (rowPV ps hs)[j]? = some u → w.cell? ⟨g, j, none⟩ = some u ∧ w.frozen? ⟨g, j, none⟩ = false := fun j u hu => by
    have hj : j < n * 3 := by have := (List.getElem?_eq_some_iff.1 hu).1; rw [hpl] at this; exact this
    exact ⟨by rw [hown.cellAt j hj]; exact hu, hown.frozenAt j⟩
  obtain ⟨jn, hjn⟩ : ∃ j, j = k + 1 := ⟨_, rfl⟩
  obtain ⟨news, hnews⟩ : ∃ news, news = (rowPV ps hs).drop (k * 3 + 3) := ⟨_, rfl⟩
  have hlen : news.length = (n - jn) * 3 := by rw [hnews, List.length_drop, hpl]; omega
  obtain ⟨A, hA, hsrc⟩ : ∃ A : Addr, (if cap = jn then some (⟨g, 0, none⟩ : Addr) else some ⟨g, jn * 3, none⟩) = some A ∧ Hid (∀ t u, news[t]? = some u → w.drew.cell? (A.add t) = some u) := by
    by_cases h : cap = jn
    · refine ⟨⟨g, 0, none⟩, by simp [h], fun t u hu => ?_⟩
      have h0 : news.length = 0 := by rw [hlen]; omega
      rw [List.length_eq_zero_iff.1 h0] at hu
      simp at hu
    · refine ⟨⟨g, jn * 3, none⟩, by simp [h], fun t u hu => ?_⟩
      rw [hnews, List.getElem?_drop] at hu
      rw [addr_to, show jn * 3 + t = k * 3 + 3 + t by omega]
      exact (hrow _ _ hu).1
  have s1 : Hid (news.length = (n - jn) * 3) := hlen
  have s2 : Hid (∀ u ∈ news, u.oneCell' = true) := fun u hu => rowPV_one ps hs u (by rw [hnews] at hu; exact List.mem_of_mem_drop hu)
  have s3 : Hid (∀ t, t < news.length → (w.drew.cell? ⟨g, 0 + k * 3 + t, none⟩).isSome = true ∧ w.drew.frozen? ⟨g, 0 + k * 3 + t, none⟩ = false) := fun t ht => by
    have h := hrow (k * 3 + t) _ (List.getElem?_eq_getElem (by omega))
    rw [Nat.zero_add]
    exact ⟨by show (w.cell? _).isSome = true; rw [h.1]; rfl, h.2⟩
  obtain ⟨W1, hW1⟩ : ∃ W1, W1 = w.drew.setCells g (0 + k * 3) news := ⟨_, rfl⟩
  have hzl : (Builtin.zeroCells #[.int .i64 0, .slice none 0 0, .string ⟨#[]⟩] 1).toList = [.int .i64 0, .slice none 0 0, .string ⟨#[]⟩] := by simp [Builtin.zeroCells, List.range, List.range.loop]
  have hcl : ∀ ty, Sem.run Tryz.prog (Builtin.clear_ #[24] ty #[.slice (some ⟨g, (n - 1) * 3, none⟩) (n - (n - 1)) (cap - (n - 1))]) W1 = .ok (.tuple #[]) (W1.setCells g ((n - 1) * 3) [.int .i64 0, .slice none 0 0, .string ⟨#[]⟩]) := fun ty => by
    have hst := run_storeCells_cells (P := Tryz.prog) g ((n - 1) * 3) [.int .i64 0, .slice none 0 0, .string ⟨#[]⟩] 0 W1 (fun j hj => by
      have h := hrow ((n - 1) * 3 + 0 + j) _ (List.getElem?_eq_getElem (by simp at hj; omega))
      rw [hW1, World.cell?_setCells_out g _ _ _ _ (fun _ _ => .inr (by rw [hlen]; show _ ≤ (n - 1) * 3 + 0 + j; omega))]
      show (w.cell? _).isSome = true
      rw [h.1]; rfl) (fun j hj => by
      have h := hrow ((n - 1) * 3 + 0 + j) _ (List.getElem?_eq_getElem (by simp at hj; omega))
      rw [hW1, World.frozen?_setCells]
      exact h.2) (by intro v hv; simp at hv; rcases hv with rfl | rfl | rfl <;> rfl)
    rw [Nat.add_zero] at hst
    rw [show n - (n - 1) = 1 by omega]
    have hzv := Tryz.zeroValue38
    simp [Builtin.clear_, run_underlying Tryz.underlying24, hzv, Value.cells, hzl, hst]
  have X : Hid (W1 = w.drew.setCells g (k * 3) news) := by show _ = _; rw [hW1, Nat.zero_add]
  have hW : Hid (W1 = w.drew.setCells g (0 + k * 3) news) := hW1
  have hkc : k ≤ cap := by omega
  have hjc : jn ≤ cap := by omega
  have hjn2 : jn ≤ n := by omega
  have hkj : k ≤ jn := by omega
  have hne : ¬ (k : Int) = (jn : Int) := by omega
  have HF := Lib.hid (And.intro (And.intro hown (And.intro hle hl)) (And.intro hk (And.intro hrow (And.intro hgl (And.intro hnews hjn)))))
  rw [← hjn]
  clear hown hle hl hrow hgl hnews hjn hlen hpl hW1 hz0 hz2
  go_enter Tryz.func48, Tryz.ntmps48
  go_wp2_with fail
  go_region_law (refine step_append_room rfl (.tmp 22) (.tmp 25) 24 rfl 38 i0 3 Tryz.underlying24 hi0 hz1 g 0 k cap (by simp [Act.eval, Act.put]) A (n - jn) (cap - jn) news (by simp [Act.eval, Act.put]) s1.out hsrc.out s2.out (by omega) s3.out ?_; rw [← hW.out])
  have hn1 : k + (n - jn) = n - 1 := by have := HF.out; omega
  rw [hn1]
  go_wp2_with fail
  go_ret
  obtain ⟨⟨hown, hle, hl⟩, hk, hrow, hgl, hnews, hjn⟩ := HF.out
  have hg2 : w.grownBy (W1.setCells g ((n - 1) * 3) [.int .i64 0, .slice none 0 0, .string ⟨#[]⟩]) (some g) := by
    rw [X.out]
    exact (grownBy_drewN w 1 _).trans ((grownBy_setCs g news (k * 3) w.drew).trans (grownBy_setCs g _ _ _))
  refine ⟨rfl, ?_, hg2⟩
  have hB1 := own_blk hown
  obtain ⟨cs0, hB0, hz⟩ := hB1
  obtain ⟨cs1, hb1, hz1⟩ := blk_setCells (t := 38) (g := g) news (k * 3) w.drew cs0 hB0
  obtain ⟨cs2, hb2, hz2⟩ := blk_setCells (t := 38) (g := g) [.int .i64 0, .slice none 0 0, .string ⟨#[]⟩] ((n - 1) * 3) _ cs1 hb1
  rw [← X.out] at hb2
  have hel : (rowPV (ps.eraseIdx k) (hs.eraseIdx k)).length = (n - 1) * 3 := by
    rw [rowPV_len (by rw [List.length_eraseIdx, List.length_eraseIdx, hle]), List.length_eraseIdx_of_lt (by omega), hl]
  refine own_small hown hb2 (by rw [hz2, hz1, hz]) (by omega) hel fun j u hu => ?_
  exact delete_cellsPc (w := w.drew) hle hl hk (fun j u h => (hrow j u h).1) (by rw [X.out, hnews]) j u hu
end Go.Proofs.YtgkcenhopmjmlaaGreat
namespace Go.Proofs.YtgkcenhopmjmlaaGreat
open Go.RowKit Go.Lib
set_option maxRecDepth 100000 in
set_option maxHeartbeats 3200000 in
theorem clonePl_any (p : Plan) (A A' : Option Addr) (n c n' c' : Nat) (w : World) (h : PlanAt w w.heap.size A n c A' n' c' p) (hgl : ∀ xs, ringOf p xs → xs.length ≤ 1048576) (hsm : n' ≤ 1048576) :
    Calls Tryz.prog 47 #[planV A n c A' n' c'] w (OwnPostS p w) := by
  obtain ⟨hl1, hl2, hl3, hl4⟩ := h.lens
  obtain ⟨i1, hi1, hy0, hy1, hy2⟩ := info_parts info_pc
  obtain ⟨wa, hwa⟩ : ∃ wa : World, wa = (w.alloc (.cells #[.slice A n c, .slice A' n' c'] 26)).alloc (.cells #[.slice none 0 0, .slice none 0 0] 26) := ⟨_, rfl⟩
  have hsa : wa.heap.size = w.heap.size + 1 + 1 := by rw [hwa]; simp
  have hB0 : Below w.heap.size w wa := by rw [hwa]; exact ((Below.refl _ _).alloc (Nat.le_refl _) _).alloc (by simp) _
  have hK0 : PlK wa w.heap.size A n c A' n' c' := by rw [hwa]; exact Blk.alloc (PlK.new w A n c A' n' c') _
  have hR0 : PlK wa (w.heap.size + 1) none 0 0 none 0 0 := by
    rw [hwa]
    have := PlK.new (w.alloc (.cells #[.slice A n c, .slice A' n' c'] 26)) none 0 0 none 0 0
    rw [World.size_alloc] at this
    exact this
  have KG := Lib.hid (clonePt_any p.outer A n c wa (h.on hB0).outer (by have := hgl _ (.inl rfl); omega))
  have H0 := Lib.hid (And.intro hB0 (And.intro hK0 (And.intro hR0 hsa)))
  have HP := Lib.hid h
  have HL := Lib.hid (And.intro hl2 (And.intro h.fits hgl))
  obtain ⟨q1, q2, -⟩ := hK0.facts
  clear h hl1 hl2 hB0 hK0 hR0 hsa hgl
  go_enter Tryz.func47, Tryz.ntmps47
  go_upto_region 1 with fail
  rw [← hwa]
  clear hwa
  go_wp2_with fail
  refine KG.out.mono ?_
  rintro e w2 ⟨Ao, co, rfl, ho2, hb2⟩
  have hb2' : Below wa.heap.size wa w2 := hb2
  have hF0 : EachF w (w2.alloc (.cells #[.slice Ao n co, .slice none 0 0] 26)) w2.heap.size p A n c A' n' c' 0 Ao n co none 0 [] := by
    have hba : Below w2.heap.size w2 (w2.alloc (.cells #[.slice Ao n co, .slice none 0 0] 26)) := (Below.refl _ _).alloc (Nat.le_refl _) _
    have h1 := H0.out.2.2.2
    have h2 := hb2'.size
    have hrow : (w2.alloc (.cells #[.slice Ao n co, .slice none 0 0] 26)).ownsRow w.heap.size 53 2 (.slice Ao n co) n (ptsV p.outer) := by
      exact own_below (own_mono ho2 (by omega)) hba
    have e1 := below_on (below_on H0.out.1 (Nat.le_refl _) hb2') (Nat.le_refl _) hba
    have e2 := (H0.out.2.1.on hb2').on hba
    have e3 := (H0.out.2.2.1.on hb2').on hba
    have e4 : w.heap.size + 1 < w2.heap.size := by omega
    exact ⟨e1, e2, e3, PlK.new w2 Ao n co none 0 0, e4, hrow, World.ownsRow_nil _ _ _ _, rfl, fun j hj => absurd hj (Nat.not_lt_zero _)⟩
  obtain ⟨Bq, hBq⟩ : ∃ Bq, Bq = w2.heap.size := ⟨_, rfl⟩
  obtain ⟨wq, hwq⟩ : ∃ wq, wq = w2.alloc (.cells #[.slice Ao n co, .slice none 0 0] 26) := ⟨_, rfl⟩
  rw [← hBq, ← hwq] at hF0
  have HF0 := Lib.hid hF0
  obtain ⟨q1, q2, -⟩ := hF0.pbox.facts
  clear hF0 hb2' hb2 ho2 KG H0
  go_upto_region 2 with fail
  rw [← hBq, ← hwq]
  clear hBq hwq
  go_wp2_with fail
  clear q1 q2
  go_loopw [13] (fun i wr => ∃ (k : Nat) (Ap : Option Addr) (cp : Nat) (hs : List Hd), k ≤ n' ∧ i = .int .i64 (k : Int) ∧ EachF w wr Bq p A n c A' n' c' k Ao n co Ap cp hs) (fun i _ => n' - (intOf i).toNat)
  case atStart => exact ⟨0, none, 0, [], Nat.zero_le _, rfl, HF0.out⟩
  case round =>
    clear HF0
    obtain ⟨k, Ap, cp, hs, hk, rfl, hF⟩ := hrel
    by_cases hlt : k < n'
    · have hlt' : (k : Int) < (n' : Int) := by omega
      have hw1 : IntKind.i64.wrap ((k : Int) + 1) = (k : Int) + 1 := by rw [IntKind.wrap_i64]; omega
      obtain ⟨ad, rfl⟩ := HP.out.parcs.some_ (by omega)
      obtain ⟨had, p1, ⟨Ak, nk, ck, p2, hrk, hk1, hk2⟩, p3⟩ := (HP.out.parcs.below hF.bel).at_ hlt
      have hlk : k < p.parcels.length := by have := HL.out.1; omega
      obtain ⟨x, hx⟩ : ∃ x, x = pcAt p.parcels k := ⟨_, rfl⟩
      have hpx : pcAt p.parcels k = x := hx.symm
      rw [← hx] at p1 p3 hrk
      have hxr : ringOf p x.ring := .inr ⟨x, by rw [hx, pcAt_lt hlk]; exact List.getElem_mem _, rfl⟩
      obtain ⟨wb, hwb⟩ : ∃ wb, wb = wr.alloc (.cells #[.int .i64 x.id, .slice Ak nk ck, .string x.owner] 38) := ⟨_, rfl⟩
      have hbb : Below wr.heap.size wr wb := by rw [hwb]; exact (Below.refl _ _).alloc (Nat.le_refl _) _
      have hsb : wb.heap.size = wr.heap.size + 1 := by rw [hwb]; simp
      have hX : PcK wb wr.heap.size x Ak nk ck := by rw [hwb]; exact PcK.new wr x Ak nk ck
      have hgm := HL.out.2.2 _ hxr
      have KG := Lib.hid (clonePt_any x.ring Ak nk ck wb ((hrk.more hF.bel.size).on hbb) (by have := hrk.lenPt; omega))
      have HF := Lib.hid (And.intro hF (And.intro hpx hwb))
      have HG := Lib.hid (And.intro hgm hsb)
      obtain ⟨-, x1, -, -⟩ := hX.facts
      clear hF hpx hrk hlk hxr hbb hX hgm hsb hx hk1 hk2
      go_upto_region 5 with fail
      rw [← hwb]
      clear hwb p1 p2 p3 had
      obtain ⟨Bx, hBx⟩ : ∃ Bx, Bx = wr.heap.size := ⟨_, rfl⟩
      rw [← hBx] at x1
      rw [← hBx]
      have HBx := Lib.hid hBx
      clear hBx
      go_wp2_with fail
      refine KG.out.mono ?_
      rintro e w3 ⟨A3, c3, rfl, ho3, hb3⟩
      have hbw : Below (wr.heap.size + 1) (wr.alloc (.cells #[.int .i64 x.id, .slice Ak nk ck, .string x.owner] 38)) w3 := by
        rw [← HF.out.2.2, ← HG.out.2]
        exact hb3
      obtain ⟨z0, hF3, hx3, hr3⟩ := eachStepA HF.out.1 hbw ho3 (by have := HG.out.2; omega)
      rw [← HBx.out] at z0 hF3 hx3 hr3
      have z1 : w3.cell? ⟨Bx, 1, none⟩ = some (.slice Ak nk ck) := by rw [Blk.cell z0]; rfl
      have z2 := Blk.frozen z0 1
      obtain ⟨V3, hV3⟩ : ∃ V, V = w3.setCell ⟨Bx, 1, none⟩ (.slice A3 nk c3) := ⟨_, rfl⟩
      rw [← hV3] at hF3 hx3 hr3
      have hV4 := hV3.symm
      have y1 : V3.cell? ⟨Bq, 1, none⟩ = some (.slice Ap k cp) := hF3.qbox.facts.2.1
      have y2 : V3.cell? ⟨Bx, 0, none⟩ = some (.int .i64 x.id) := by rw [Blk.cell hx3]; rfl
      have y3 : V3.cell? ⟨Bx, 1, none⟩ = some (.slice A3 nk c3) := by rw [Blk.cell hx3]; rfl
      have y4 : V3.cell? ⟨Bx, 2, none⟩ = some (.string x.owner) := by rw [Blk.cell hx3]; rfl
      have HF3 := Lib.hid (And.intro hF3 (And.intro hr3 HF.out.2.1))
      clear hF3 hr3 hx3 z0 hV3 hbw hb3 ho3 KG x1
      go_wp2_with (at_builtin
                   refine wpList_append_any _ rfl (.tmp 22) (.tmp 24) _ rfl w.heap.size 38 i1 _ 3 48 Tryz.underlying24 hi1 hy0 hy1 hy2 rfl (by omega) (.slice Ap k cp) k _ rfl (HF3.out.1.on (W' := V3.alloc (.cells #[.int .i64 x.id, .slice A3 nk c3, .string x.owner] 38)) ((Below.refl _ _).alloc (Nat.le_refl _) _)).row _ (some ⟨V3.heap.size, 0, none⟩) 1 1 (pcV x (A3, nk, c3)) rfl (Reads.made V3 #[.int .i64 x.id, .slice A3 nk c3, .string x.owner] 38 (0, 0) 3 1 (pcV x (A3, nk, c3)) rfl rfl) (by intro u hu; simp [pcV] at hu; rcases hu with rfl | rfl | rfl <;> rfl) (by simp only [maxLen]; omega) (by omega) (by have := HF3.out.1.bel.size; rw [World.size_alloc]; omega) ?_
                   intro v5 w5 hown5 hg5 hat5
                   obtain ⟨Ap', cp', rfl⟩ := own_form hown5
                   have hr3 := HF3.out.2.1
                   have hpx := HF3.out.2.2
                   have hpv : pcV x (A3, nk, c3) = pcV (pcAt p.parcels k) (A3, nk, c3) := (by rw [hpx])
                   have hri : x.ring = (pcAt p.parcels k).ring := (by rw [hpx])
                   rw [hpv] at hown5
                   rw [hri] at hr3
                   have hba : Below V3.heap.size V3 (V3.alloc (.cells #[.int .i64 x.id, .slice A3 nk c3, .string x.owner] 38)) := (Below.refl _ _).alloc (Nat.le_refl _) _
                   obtain ⟨zq, hF5⟩ := EachF.next (HF3.out.1.on hba) (by have := HL.out.1; omega) (own_below hr3 hba) hown5 hg5
                   have y5 : w5.cell? ⟨Bq, 1, none⟩ = some (.slice Ap k cp) := zq.facts.2.1
                   have y6 := Blk.frozen zq 1
                   have HF5 := Lib.hid hF5
                   clear hr3 hba zq hF5 hown5 hg5 hat5 hpx hpv hri)
      go_roundw
      case rel => exact ⟨k + 1, Ap', cp', hs ++ [(A3, nk, c3)], by omega, by go_num, HF5.out⟩
      case measure => simp [intOf]; omega
    · have hkn : k = n' := by omega
      subst hkn
      obtain ⟨y1, y2, -⟩ := hF.qbox.facts
      obtain ⟨y3, y4, -⟩ := hF.rbox.facts
      have f1 := Blk.frozen hF.rbox 0
      have f2 := Blk.frozen hF.rbox 1
      have hpo := ((hF.own HL.out.1 HL.out.2.1).store hF.rbox (by decide) (by decide) 0 (.slice Ao n co)).store (Blk.set_ hF.rbox 0 (.slice Ao n co)) (by decide) (by decide) 1 (.slice Ap k cp)
      have hB5 := (hF.bel.setCell (p := ⟨w.heap.size + 1, 0, none⟩) (by simp) (.slice Ao n co)).setCell (p := ⟨w.heap.size + 1, 1, none⟩) (by simp) (.slice Ap k cp)
      have hR5 := Blk.set_ (Blk.set_ hF.rbox 0 (.slice Ao n co)) 1 (.slice Ap k cp)
      have HZ := Lib.hid (And.intro hpo (And.intro hB5 hR5))
      clear hpo hB5 hR5 hF
      go_wp2_with fail
      obtain ⟨hpo, hB5, hR5⟩ := HZ.out
      clear y1 y2 y3 y4 f1 f2 HZ
      generalize (wr.setCell ⟨w.heap.size + 1, 0, none⟩ (.slice Ao n co)).setCell ⟨w.heap.size + 1, 1, none⟩ (.slice Ap k cp) = V at *
      have r1 : V.cell? ⟨w.heap.size + 1, 0, none⟩ = some (.slice Ao n co) := by rw [Blk.cell hR5]; rfl
      have r2 : V.cell? ⟨w.heap.size + 1, 1, none⟩ = some (.slice Ap k cp) := by rw [Blk.cell hR5]; rfl
      refine bodyPost_ret (v := planV Ao n co Ap k cp) ?_ rfl ⟨Ao, n, co, Ap, k, cp, hs, rfl, hpo, hB5⟩
      simp [results, Tryz.results47, go_sem, r1, r2]
end Go.Proofs.YtgkcenhopmjmlaaGreat
namespace Go.Proofs.YtgkcenhopmjmlaaGreat
open Go.RowKit Go.Lib
theorem nil_eq (w : World) : Sem.run Tryz.prog (binOp .eql 23 (.slice none 0 0) (.slice none 0 0)) w = .ok (.bool true) w := by
  simp only [binOp, Op.equal, Op.maxDepth]
  rw [show (10000 : Nat) = 9999 + 1 from rfl]
  rw [Op.equalIn]
  simp [run_underlying Tryz.underlying23]
theorem nil_ne (ad : Addr) (n c : Nat) (w : World) : Sem.run Tryz.prog (binOp .eql 23 (.slice (some ad) n c) (.slice none 0 0)) w = .ok (.bool false) w := by
  simp only [binOp, Op.equal, Op.maxDepth]
  rw [show (10000 : Nat) = 9999 + 1 from rfl]
  rw [Op.equalIn]
  simp [run_underlying Tryz.underlying23]
def MgF (p : Plan) (A : Option Addr) (n c : Nat) (A' : Option Addr) (n' c' : Nat) (w W : World) : Prop := Below w.heap.size w W ∧ PlK W w.heap.size A n c A' n' c' ∧ PlK W (w.heap.size + 1) none 0 0 none 0 0 ∧ PlanAt W W.heap.size A n c A' n' c' p
theorem MgF.on {p : Plan} {A A' : Option Addr} {n c n' c' : Nat} {w W W' : World} (h : MgF p A n c A' n' c' w W) (hb : Below W.heap.size W W') : MgF p A n c A' n' c' w W' :=
  ⟨below_on h.1 (Nat.le_refl _) hb, h.2.1.on hb, h.2.2.1.on hb, h.2.2.2.on hb⟩
theorem MgF.res {p : Plan} {A A' : Option Addr} {n c n' c' : Nat} {w W : World} (h : MgF p A n c A' n' c' w W) : Below w.heap.size w W ∧ PlK W (w.heap.size + 1) none 0 0 none 0 0 := ⟨h.1, h.2.2.1⟩
structure SeenJ (L0 M : List Ed) (seen : Array Nat) (L : List Ed) : Prop where
  nd : (L.map (·.a)).Nodup
  mem : ∀ e, e ∈ L ↔ e ∈ L0 ∨ ∃ i, ∃ hi : i < M.length, seen.contains i = true ∧ M[i] = e
theorem SeenJ.start {L0 : List Ed} (M : List Ed) (h : (L0.map (·.a)).Nodup) : SeenJ L0 M #[] L0 := ⟨h, fun _ => ⟨.inl, fun h => h.elim id fun ⟨i, _, h, _⟩ => by simp at h⟩⟩
theorem SeenJ.put {L0 M : List Ed} {seen : Array Nat} {L : List Ed} (h : SeenJ L0 M seen L) {i : Nat} (hi : i < M.length) {e : Ed} (he : e = M[i]) (hno : look (stepV L) e.a = none) : SeenJ L0 M (seen.push i) (L ++ [e]) := by
  have hk : ∀ f ∈ L, f.a ≠ e.a := fun f hf hk => by
    have := look_none.1 hno
    rw [stepV_keys] at this
    exact this (List.mem_map.2 ⟨f, hf, hk⟩)
  refine ⟨?_, fun f => ?_⟩
  · rw [List.map_append, List.nodup_append]
    refine ⟨h.nd, by simp, fun a ha b hb' => ?_⟩
    obtain ⟨f, hf, rfl⟩ := List.mem_map.1 ha
    simp at hb'
    rw [hb']
    exact hk f hf
  · rw [List.mem_append, List.mem_singleton, h.mem f]
    constructor
    · rintro ((h1 | ⟨j, hj, h1, h2⟩) | rfl)
      · exact .inl h1
      · exact .inr ⟨j, hj, push_has.2 (.inl h1), h2⟩
      · exact .inr ⟨i, hi, push_has.2 (.inr rfl), he.symm⟩
    · rintro (h1 | ⟨j, hj, h1, h2⟩)
      · exact .inl (.inl h1)
      · rcases push_has.1 h1 with h4 | h4
        · exact .inl (.inr ⟨j, hj, h4, h2⟩)
        · subst h4
          exact .inr (by rw [he, h2])
theorem cut_both {a b : List Pt} {e : Ed} (h1 : e ∈ cutE (edgesOf a) (edgesOf b)) (h2 : e ∈ cutE (edgesOf b) (edgesOf a)) : e ∈ edgesOf a ∧ e ∈ edgesOf b := ⟨(List.mem_filter.1 h1).1, (List.mem_filter.1 h2).1⟩
/-- A corner from which both borders still go on: there is no one way. -/
theorem SeenJ.met {a b : List Pt} {L0 M : List Ed} {seen : Array Nat} {L : List Ed} (h : SeenJ L0 M seen L) (h0 : L0.Perm (cutE (edgesOf a) (edgesOf b))) (hM : M.Perm (cutE (edgesOf b) (edgesOf a))) (hMn : (M.map (·.a)).Nodup)
    {i : Nat} (hi : i < M.length) (hs : seen.contains i = false) {e : Ed} (he : e = M[i]) {v : Value} (hv : look (stepV L) e.a = some v) : wayO (joinL a b) = none := by
  obtain ⟨f, hf, hk, -⟩ := look_step hv
  have hem : e ∈ M := by rw [he]; exact List.getElem_mem hi
  have hf0 : f ∈ L0 := by
    rcases (h.mem f).1 hf with h1 | ⟨j, hj, h1, h2⟩
    · exact h1
    · exfalso
      have h3 := key_eq hMn (show f ∈ M by rw [← h2]; exact List.getElem_mem hj) hem hk
      rw [← h2, he] at h3
      have hij : j = i := (List.getElem_inj (nodup_keys hMn)).1 h3
      rw [hij, hs] at h1
      cases h1
  refine wayO_none fun ⟨c, hc⟩ => ?_
  have m1 : f ∈ joinL a b := List.mem_append_left _ (h0.mem_iff.1 hf0)
  have m2 : e ∈ joinL a b := List.mem_append_right _ (hM.mem_iff.1 hem)
  have hfe := hc.key m1 m2 hk
  have hnd : (joinL a b).Nodup := hc.perm.nodup_iff.1 (edgesOf_nd hc.nd)
  unfold joinL at hnd
  rw [List.nodup_append] at hnd
  exact hnd.2.2 f (h0.mem_iff.1 hf0) e (hM.mem_iff.1 hem) hfe
theorem SeenJ.done {a b : List Pt} {L0 M : List Ed} {seen : Array Nat} {L : List Ed} (h : SeenJ L0 M seen L) (h0 : L0.Perm (cutE (edgesOf a) (edgesOf b))) (hM : M.Perm (cutE (edgesOf b) (edgesOf a))) (hall : ∀ i, i < M.length → seen.contains i = true) (hx : ∀ e, e ∈ edgesOf a → e ∉ edgesOf b) (ha : a.Nodup) (hb : b.Nodup) : L.Perm (joinL a b) := by
  refine perm_both (nodup_keys h.nd) ?_ fun e => ?_
  · unfold joinL
    rw [List.nodup_append]
    refine ⟨(edgesOf_nd ha).filter _, (edgesOf_nd hb).filter _, fun x hx1 y hy hxy => ?_⟩
    subst hxy
    have := cut_both hx1 hy
    exact hx _ this.1 this.2
  · unfold joinL
    rw [h.mem e, List.mem_append, ← h0.mem_iff, ← hM.mem_iff]
    refine or_congr Iff.rfl ⟨fun ⟨i, hi, _, h2⟩ => by rw [← h2]; exact List.getElem_mem hi, fun he => ?_⟩
    obtain ⟨i, hi, h2⟩ := List.getElem_of_mem he
    exact ⟨i, hi, hall i hi, h2⟩
theorem PlanOwn.hd {B n c n' c' k : Nat} {W : World} {A A' : Option Addr} {p : Plan} {hs : List Hd} (h : PlanOwn B W A n c A' n' c' p hs) (hk : k < n') : ∃ ad, A' = some ad ∧ ad.block < W.heap.size ∧ B ≤ ad.block ∧ W.cell? ⟨(ad.add (k * 3)).block, (ad.add (k * 3)).off + 1, none⟩ = some (.slice (hdAt hs k).1 (hdAt hs k).2.1 (hdAt hs k).2.2) := by
  obtain ⟨ad, e, hb, hc⟩ := (Reads.of_own h.row).2 (by omega)
  subst e
  obtain ⟨-, g2, -⟩ := rowPV_at (hs := hs) (ps := p.parcels) (by rw [h.len, h.lenp]) (k := k) (by rw [h.lenp]; exact hk)
  exact ⟨ad, rfl, hb, (h.row.lt ad.block rfl).1, by rw [add_off3 _ _ _ (by omega)]; exact hc _ _ g2⟩
theorem PlanOwn.erase {B n c n' c' k g : Nat} {W W' : World} {A : Option Addr} {p : Plan} {hs : List Hd} (h : PlanOwn B W A n c (some ⟨g, 0, none⟩) n' c' p hs) (hk : k < n')
    (hrow : W'.ownsRow B 38 3 (.slice (some ⟨g, 0, none⟩) (n' - 1) c') (n' - 1) (rowPV (p.parcels.eraseIdx k) (hs.eraseIdx k))) (hg : W.grownBy W' (some g)) (hf : (⟨p.outer, p.parcels.eraseIdx k⟩ : Plan).fits) :
    PlanOwn B W' A n c (some ⟨g, 0, none⟩) (n' - 1) c' ⟨p.outer, p.parcels.eraseIdx k⟩ (hs.eraseIdx k) := by
  have hkeep : ∀ {v : Value} {j : Nat} {xs : List Value}, W.ownsRow B 53 2 v j xs → W'.ownsRow B 53 2 v j xs := fun {v j xs} ho => by
    refine own_heap ho fun i hi => hg.block i (ho.lt i hi).2 (fun e => ?_)
    have := Option.some.inj e
    exact own_own_ne h.row ho (by decide) (g := g) rfl (by rw [hi, this])
  have hl := h.lenp
  have hl2 := h.len
  refine ⟨hkeep h.out, hrow, by rw [List.length_eraseIdx_of_lt (by omega)]; omega, by show (List.eraseIdx _ _).length = _; rw [List.length_eraseIdx_of_lt (by omega)]; omega, fun j hj => ?_, hf⟩
  have e1 : hdAt (hs.eraseIdx k) j = hdAt hs (if j < k then j else j + 1) := by unfold hdAt; rw [List.getElem?_eraseIdx]; split <;> rfl
  have e2 : pcAt (p.parcels.eraseIdx k) j = pcAt p.parcels (if j < k then j else j + 1) := by unfold pcAt; rw [List.getElem?_eraseIdx]; split <;> rfl
  show W'.ownsRow _ _ _ _ _ (ptsV (pcAt (p.parcels.eraseIdx k) j).ring)
  rw [e1, e2]
  exact hkeep (h.rings _ (by split <;> omega))
theorem hldM2 {W V V' : World} {a0 a1 : Addr} {v0 v1 : Value} (hh : a0.block < W.heap.size ∧ a1.block < W.heap.size) (hs : V.cell? a0 = some v0 ∧ V.cell? a1 = some v1 ∧ Below W.heap.size W V) (hb : Below V.heap.size V V') :
    V'.cell? a0 = some v0 ∧ V'.cell? a1 = some v1 ∧ Below W.heap.size W V' := by
  obtain ⟨h0, h1⟩ := hh
  obtain ⟨c0, c1, cb⟩ := hs
  have := cb.size
  have k : ∀ {a : Addr} {v : Value}, a.block < W.heap.size → V.cell? a = some v → V'.cell? a = some v := fun {a v} ha hv => (hb.cell (p := a) (by omega)).trans hv
  exact ⟨k h0 c0, k h1 c1, below_on cb (Nat.le_refl _) hb⟩
theorem hldM4 {W V V' : World} {a0 a1 a2 a3 : Addr} {v0 v1 v2 v3 : Value} (hh : a0.block < W.heap.size ∧ a1.block < W.heap.size ∧ a2.block < W.heap.size ∧ a3.block < W.heap.size) (hs : V.cell? a0 = some v0 ∧ V.cell? a1 = some v1 ∧ V.cell? a2 = some v2 ∧ V.cell? a3 = some v3 ∧ Below W.heap.size W V) (hb : Below V.heap.size V V') :
    V'.cell? a0 = some v0 ∧ V'.cell? a1 = some v1 ∧ V'.cell? a2 = some v2 ∧ V'.cell? a3 = some v3 ∧ Below W.heap.size W V' := by
  obtain ⟨h0, h1, h2, h3⟩ := hh
  obtain ⟨c0, c1, c2, c3, cb⟩ := hs
  have := cb.size
  have k : ∀ {a : Addr} {v : Value}, a.block < W.heap.size → V.cell? a = some v → V'.cell? a = some v := fun {a v} ha hv => (hb.cell (p := a) (by omega)).trans hv
  exact ⟨k h0 c0, k h1 c1, k h2 c2, k h3 c3, below_on cb (Nat.le_refl _) hb⟩
set_option maxRecDepth 100000 in
set_option maxHeartbeats 6400000 in
theorem mergeP_any (p : Plan) (a b : Int) (A A' : Option Addr) (n c n' c' : Nat) (w : World) (h : PlanAt w w.heap.size A n c A' n' c' p) :
    Calls Tryz.prog 16 #[planV A n c A' n' c', .int .i64 a, .int .i64 b] w (ResPostS (joinP p a b) (joinE p a b) w) := by
  obtain ⟨wa, hwa⟩ : ∃ wa : World, wa = (w.alloc (.cells #[.slice A n c, .slice A' n' c'] 26)).alloc (.cells #[.slice none 0 0, .slice none 0 0] 26) := ⟨_, rfl⟩
  have hF : MgF p A n c A' n' c' w wa := by
    have hB0 : Below w.heap.size w wa := by rw [hwa]; exact ((Below.refl _ _).alloc (Nat.le_refl _) _).alloc (by simp) _
    refine ⟨hB0, by rw [hwa]; exact Blk.alloc (PlK.new w A n c A' n' c') _, ?_, h.on hB0⟩
    have := PlK.new (w.alloc (.cells #[.slice A n c, .slice A' n' c'] 26)) none 0 0 none 0 0
    rw [World.size_alloc] at this
    rw [hwa]
    exact this
  have KC := Lib.hid (checkPl_any p A A' n c n' c' wa hF.2.2.2)
  have H0 := Lib.hid hF
  obtain ⟨q1, q2, q3⟩ := hF.2.1.facts
  have HE : Hid (joinE p a b = if planB p = true then (if atP p.parcels a < 0 ∨ atP p.parcels b < 0 then 5 else if atP p.parcels a = atP p.parcels b then 1 else joinI p (atP p.parcels a).toNat (atP p.parcels b).toNat) else 2) := rfl
  clear hF h
  go_enter Tryz.func16, Tryz.ntmps16
  go_upto_region 1 with fail
  rw [← hwa]
  clear hwa
  rcases hpb : planB p with _ | _
  · rw [hpb] at HE
    have hme : joinE p a b = 2 := HE.out
    have HM := Lib.hid hme
    have hke := KC.out
    rw [planE_b0 hpb] at hke
    have KC := Lib.hid hke
    clear HE hme hpb hke
    go_wp2_with fail
    refine KC.out.mono ?_
    rintro e w1 ⟨rfl, hb1⟩
    have HR := Lib.hid (H0.out.on hb1).res
    clear hb1 H0 KC q1 q2 q3
    obtain ⟨V, hV, r1, r2, hbV⟩ := res_store (g := w.heap.size + 1) HR.out.1 (by omega) HR.out.2 (.slice none 0 0) (.slice none 0 0)
    obtain ⟨s1, s2, f1, f2⟩ := plk_facts4 HR.out.2
    have HV := Lib.hid hV
    have HRR := Lib.hid (And.intro r1 (And.intro r2 hbV))
    clear hV r1 r2 hbV
    go_wp2_with fail
    rw [← HV.out]
    obtain ⟨r1, r2, hbV⟩ := HRR.out
    refine bodyPost_ret (v := .tuple #[planV none 0 0 none 0 0, .int .i64 2]) ?_ rfl (by rw [HM.out]; exact resPostS_no (joinP_no HM.out (by decide)) hbV)
    simp [results, Tryz.results16, go_sem, r1, r2]
  rw [hpb, if_pos rfl] at HE
  have hke := KC.out
  rw [planE_b1 hpb] at hke
  have KC := Lib.hid hke
  have HS := Lib.hid (planB_sound hpb)
  clear hpb hke
  go_wp2_with fail
  refine KC.out.mono ?_
  rintro e w1 ⟨rfl, hb1⟩
  obtain ⟨W, hW⟩ : ∃ W, W = w1 := ⟨_, rfl⟩
  rw [← hW] at hb1
  have H1 := Lib.hid (H0.out.on hb1)
  clear hb1 H0 KC q1 q2 q3
  go_upto_region 3 with fail
  rw [← hW]
  clear hW w1
  obtain ⟨q1, q2, q3⟩ := H1.out.2.1.facts
  obtain ⟨za, hza⟩ : ∃ z, z = atP p.parcels a := ⟨_, rfl⟩
  obtain ⟨zb, hzb⟩ : ∃ z, z = atP p.parcels b := ⟨_, rfl⟩
  have kA := fun V (hV : Below W.heap.size W V) => at_any p a A A' n c n' c' V (H1.out.on hV).2.2.2
  have kB := fun V (hV : Below W.heap.size W V) => at_any p b A A' n c n' c' V (H1.out.on hV).2.2.2
  rw [← hza] at kA
  rw [← hzb] at kB
  have HZ := Lib.hid (And.intro hza hzb)
  clear hza hzb
  have hP0 : W.drew.cell? ⟨w.heap.size, 0, none⟩ = some (.slice A n c) ∧ W.drew.cell? ⟨w.heap.size, 1, none⟩ = some (.slice A' n' c') ∧ Below W.heap.size W W.drew := ⟨q1, q2, (Below.refl _ _).drew⟩
  have hh : (⟨w.heap.size, 0, none⟩ : Addr).block < W.heap.size ∧ (⟨w.heap.size, 1, none⟩ : Addr).block < W.heap.size := ⟨q3, q3⟩
  clear q1 q2 q3
  go_cut [8, 9] (fun x y wx => x = .int .i64 za ∧ y = .int .i64 zb ∧ Below W.heap.size W wx)
  case first =>
    refine wp_region_held_drew (S := fun V => V.cell? ⟨w.heap.size, 0, none⟩ = some (.slice A n c) ∧ V.cell? ⟨w.heap.size, 1, none⟩ = some (.slice A' n' c') ∧ Below W.heap.size W V) (by kernel_rfl) ?_ (fun hHeld => ?_)
    · exact hP0
    refine tk 0 ?_
    refine tk 1 ?_
    refine tk 3 ?_
    refine tk 4 ?_
    refine wpAnyH_ready (rs := [2]) (by kernel_rfl) (by simp) ?_
    refine AllReadyH.cons rfl (fun K hK => ?_) AllReadyH.nil
    go_simp
    go_at_call 43
    (with_reducible refine (kA _ (Below.refl _ _).drew).mono ?_)
    rintro e w1 ⟨rfl, hb1⟩
    try dsimp only
    refine hK.out _ _ ?_ (fun hHeld => ?_)
    · exact hldM2 hh hHeld hb1
    clear hK K
    try simp only [Act.put, List.setIfInBounds_toArray, List.set_cons_zero, List.set_cons_succ]
    refine wpAnyH_ready (rs := [5]) (by kernel_rfl) (by simp) ?_
    refine AllReadyH.cons rfl (fun K hK => ?_) AllReadyH.nil
    go_simp
    go_at_call 43
    (with_reducible refine (kB _ hHeld.2.2).mono ?_)
    rintro e w2 ⟨rfl, hb2⟩
    try dsimp only
    refine hK.out _ _ ?_ (fun hHeld => ?_)
    · exact hldM2 hh hHeld hb2
    clear hK K
    try simp only [Act.put, List.setIfInBounds_toArray, List.set_cons_zero, List.set_cons_succ]
    refine tk 6 ?_
    refine tk 7 ?_
    refine wpAnyH_done (by kernel_rfl) ?_ _
    go_wp2_with fail
    go_meet
    exact ⟨rfl, rfl, hHeld.2.2⟩
  case rest =>
    obtain ⟨Wf, rfl⟩ : ∃ W, W = wc := ⟨_, rfl⟩
    obtain ⟨rfl, rfl, hbc⟩ := hcut
    have H2 := Lib.hid (H1.out.on hbc)
    have HR2 := Lib.hid H2.out.res
    clear hbc kA kB hP0 hh H1
    rcases atP_cases p.parcels a with ⟨ha, -⟩ | ⟨i, hi, ha, -⟩
    · have hza : za = -1 := HZ.out.1.trans ha
      subst hza
      have hme : joinE p a b = 5 := by rw [HE.out, if_pos (.inl (by rw [ha]; decide))]
      have HM := Lib.hid hme
      clear hme HE HZ H2 ha
      obtain ⟨V, hV, r1, r2, hbV⟩ := res_store (g := w.heap.size + 1) HR2.out.1 (by omega) HR2.out.2 (.slice none 0 0) (.slice none 0 0)
      obtain ⟨s1, s2, f1, f2⟩ := plk_facts4 HR2.out.2
      have HV := Lib.hid hV
      have HRR := Lib.hid (And.intro r1 (And.intro r2 hbV))
      clear hV r1 r2 hbV
      go_wp2_with fail
      rw [← HV.out]
      obtain ⟨r1, r2, hbV⟩ := HRR.out
      refine bodyPost_ret (v := .tuple #[planV none 0 0 none 0 0, .int .i64 5]) ?_ rfl (by rw [HM.out]; exact resPostS_no (joinP_no HM.out (by decide)) hbV)
      simp [results, Tryz.results16, go_sem, r1, r2]
    have hza : za = (i : Int) := HZ.out.1.trans ha
    subst hza
    rcases atP_cases p.parcels b with ⟨hb, -⟩ | ⟨k, hk, hb, -⟩
    · have hzb : zb = -1 := HZ.out.2.trans hb
      subst hzb
      have hme : joinE p a b = 5 := by rw [HE.out, if_pos (.inr (by rw [hb]; decide))]
      have HM := Lib.hid hme
      have hi0 : ¬ (i : Int) < 0 := by omega
      clear hme HE HZ H2 ha hb
      obtain ⟨V, hV, r1, r2, hbV⟩ := res_store (g := w.heap.size + 1) HR2.out.1 (by omega) HR2.out.2 (.slice none 0 0) (.slice none 0 0)
      obtain ⟨s1, s2, f1, f2⟩ := plk_facts4 HR2.out.2
      have HV := Lib.hid hV
      have HRR := Lib.hid (And.intro r1 (And.intro r2 hbV))
      clear hV r1 r2 hbV
      go_wp2_with fail
      rw [← HV.out]
      obtain ⟨r1, r2, hbV⟩ := HRR.out
      refine bodyPost_ret (v := .tuple #[planV none 0 0 none 0 0, .int .i64 5]) ?_ rfl (by rw [HM.out]; exact resPostS_no (joinP_no HM.out (by decide)) hbV)
      simp [results, Tryz.results16, go_sem, r1, r2]
    have hzb : zb = (k : Int) := HZ.out.2.trans hb
    subst hzb
    have hi0 : ¬ (i : Int) < 0 := by omega
    have hk0 : ¬ (k : Int) < 0 := by omega
    by_cases hik : i = k
    · subst hik
      have hme : joinE p a b = 1 := by rw [HE.out, if_neg (by rw [ha, hb]; omega), if_pos (by rw [ha, hb])]
      have HM := Lib.hid hme
      clear hme HE HZ H2 ha hb
      obtain ⟨V, hV, r1, r2, hbV⟩ := res_store (g := w.heap.size + 1) HR2.out.1 (by omega) HR2.out.2 (.slice none 0 0) (.slice none 0 0)
      obtain ⟨s1, s2, f1, f2⟩ := plk_facts4 HR2.out.2
      have HV := Lib.hid hV
      have HRR := Lib.hid (And.intro r1 (And.intro r2 hbV))
      clear hV r1 r2 hbV
      go_wp2_with fail
      rw [← HV.out]
      obtain ⟨r1, r2, hbV⟩ := HRR.out
      refine bodyPost_ret (v := .tuple #[planV none 0 0 none 0 0, .int .i64 1]) ?_ rfl (by rw [HM.out]; exact resPostS_no (joinP_no HM.out (by decide)) hbV)
      simp [results, Tryz.results16, go_sem, r1, r2]
    have hik' : ((i : Int) == (k : Int)) = false := by rw [beq_eq_false_iff_ne]; omega
    have hmj : joinE p a b = joinI p i k := by
      rw [HE.out, if_neg (by rw [ha, hb]; omega), if_neg (by rw [ha, hb]; omega), ha, hb]
      rfl
    have hmp : joinP p a b = if joinE p a b = 0 then joinQ p i k ((joinW p i k).getD []) else ⟨[], []⟩ := by
      unfold joinP
      rw [ha, hb]
      rfl
    have HJ := Lib.hid (And.intro hmj hmp)
    clear hmj hmp HE HZ ha hb
    have HIK := Lib.hid (And.intro hi (And.intro hk hik))
    have hl2 := H2.out.2.2.2.lens.2.1
    have hin : (i : Int) < (n' : Int) := by omega
    have hkn : (k : Int) < (n' : Int) := by omega
    have hin' : i < n' := by omega
    have hkn' : k < n' := by omega
    have hn64 : n' ≤ 64 := by have := (listed_bd HS.out.1).2.1; omega
    clear hi hk hl2 hik
    obtain ⟨ad, rfl⟩ := H2.out.2.2.2.parcs.some_ (show 0 < n' by omega)
    obtain ⟨had, -, ⟨Ai, ni, ci, p2, hri, -, -⟩, -⟩ := H2.out.2.2.2.parcs.at_ hin'
    obtain ⟨-, -, ⟨Ak, nk, ck, p3, hrk, -, -⟩, -⟩ := H2.out.2.2.2.parcs.at_ hkn'
    obtain ⟨xs, hxs⟩ : ∃ xs, xs = ringA p i := ⟨_, rfl⟩
    obtain ⟨ys, hys⟩ : ∃ ys, ys = ringA p k := ⟨_, rfl⟩
    have hri' : Reads Wf Wf.heap.size 2 Ai ni (ptsV xs) := by rw [hxs]; exact hri
    have hrk' : Reads Wf Wf.heap.size 2 Ak nk (ptsV ys) := by rw [hys]; exact hrk
    obtain ⟨gx, lx, -⟩ := sound_ring HS.out (ringA_of HIK.out.1)
    obtain ⟨gy, ly, -⟩ := sound_ring HS.out (ringA_of HIK.out.2.1)
    have nx := (sound_nodup HS.out (ringA_of HIK.out.1)).1
    have ny := (sound_nodup HS.out (ringA_of HIK.out.2.1)).1
    rw [← hxs] at lx nx
    rw [← hys] at ly ny
    have hdis : ∀ e, e ∈ edgesOf xs → e ∉ edgesOf ys := fun e h1 h2 => by
      rw [hxs] at h1
      rw [hys] at h2
      exact all_apart HS.out.2.2.2.1.1 HIK.out.1 HIK.out.2.1 HIK.out.2.2 h1 h2
    have HX := Lib.hid (And.intro hxs (And.intro hys (And.intro nx (And.intro ny (And.intro hdis (And.intro lx ly))))))
    have hli := hri'.lenPt
    have hlk := hrk'.lenPt
    have kA := fun V (hV : Below Wf.heap.size Wf V) => ofJ_any xs Ai ni ci V ((hri'.below hV).more hV.size) (by omega) nx
    have kB := fun V (hV : Below Wf.heap.size Wf V) => ofJ_any ys Ak nk ck V ((hrk'.below hV).more hV.size) (by omega) ny
    obtain ⟨q1, q2, q3⟩ := H2.out.2.1.facts
    have hP0 : Wf.drew.cell? ⟨w.heap.size, 0, none⟩ = some (.slice A n c) ∧ Wf.drew.cell? ⟨w.heap.size, 1, none⟩ = some (.slice (some ad) n' c') ∧ Wf.drew.cell? ⟨(ad.add (i * 3)).block, (ad.add (i * 3)).off + 1, none⟩ = some (.slice Ai ni ci) ∧ Wf.drew.cell? ⟨(ad.add (k * 3)).block, (ad.add (k * 3)).off + 1, none⟩ = some (.slice Ak nk ck) ∧ Below Wf.heap.size Wf Wf.drew := ⟨q1, q2, by rw [add_off3 _ _ _ (by omega)] at p2 ⊢; exact p2, by rw [add_off3 _ _ _ (by omega)] at p3 ⊢; exact p3, (Below.refl _ _).drew⟩
    have hh : (⟨w.heap.size, 0, none⟩ : Addr).block < Wf.heap.size ∧ (⟨w.heap.size, 1, none⟩ : Addr).block < Wf.heap.size ∧ (⟨(ad.add (i * 3)).block, (ad.add (i * 3)).off + 1, none⟩ : Addr).block < Wf.heap.size ∧ (⟨(ad.add (k * 3)).block, (ad.add (k * 3)).off + 1, none⟩ : Addr).block < Wf.heap.size := ⟨q3, q3, by simp only [block_of_add]; exact had, by simp only [block_of_add]; exact had⟩
    clear q1 q2 q3 p2 p3 hri hrk hri' hrk' hxs hys gx gy lx ly nx ny hdis hli hlk had
    go_upto_region 8 with fail
    go_cut [10, 11] (fun x y wx => ∃ ba bb, x = .map (some ba) ∧ y = .map (some bb) ∧ MapB wx ba encP (stepV (edgesOf xs)) ∧ MapB wx bb encP (stepV (edgesOf ys)) ∧ Wf.heap.size ≤ ba ∧ Wf.heap.size ≤ bb ∧ Below Wf.heap.size Wf wx)
    case first =>
      refine wp_region_held_drew (S := fun V => V.cell? ⟨w.heap.size, 0, none⟩ = some (.slice A n c) ∧ V.cell? ⟨w.heap.size, 1, none⟩ = some (.slice (some ad) n' c') ∧ V.cell? ⟨(ad.add (i * 3)).block, (ad.add (i * 3)).off + 1, none⟩ = some (.slice Ai ni ci) ∧ V.cell? ⟨(ad.add (k * 3)).block, (ad.add (k * 3)).off + 1, none⟩ = some (.slice Ak nk ck) ∧ Below Wf.heap.size Wf V) (by kernel_rfl) ?_ (fun hHeld => ?_)
      · exact hP0
      refine tk 0 ?_
      refine tk 1 ?_
      refine tk 2 ?_
      refine tk 3 ?_
      refine tk 4 ?_
      refine tk 5 ?_
      refine tk 7 ?_
      refine tk 8 ?_
      refine tk 9 ?_
      refine tk 10 ?_
      refine tk 11 ?_
      refine tk 12 ?_
      refine wpAnyH_ready (rs := [6]) (by kernel_rfl) (by simp) ?_
      refine AllReadyH.cons rfl (fun K hK => ?_) AllReadyH.nil
      go_simp
      go_at_call 44
      (with_reducible refine (kA _ (Below.refl _ _).drew).mono ?_)
      rintro e w1 ⟨ba, rfl, hma, hba, hb1⟩
      try dsimp only
      refine hK.out _ _ ?_ (fun hHeld => ?_)
      · exact hldM4 hh hHeld hb1
      clear hK K
      try simp only [Act.put, List.setIfInBounds_toArray, List.set_cons_zero, List.set_cons_succ]
      refine wpAnyH_ready (rs := [13]) (by kernel_rfl) (by simp) ?_
      refine AllReadyH.cons rfl (fun K hK => ?_) AllReadyH.nil
      go_simp
      go_at_call 44
      (with_reducible refine (kB _ hHeld.2.2.2.2).mono ?_)
      rintro e w2 ⟨bb, rfl, hmb, hbb, hb2⟩
      try dsimp only
      refine hK.out _ _ ?_ (fun hHeld => ?_)
      · exact hldM4 hh hHeld hb2
      clear hK K
      try simp only [Act.put, List.setIfInBounds_toArray, List.set_cons_zero, List.set_cons_succ]
      refine tk 14 ?_
      refine tk 15 ?_
      refine wpAnyH_done (by kernel_rfl) ?_ _
      go_wp2_with fail
      go_meet
      exact ⟨ba, bb, rfl, rfl, hma.kept (hb2.block _ hma.lt), hmb, hba, by have := hb1.size; simp at this; omega, hHeld.2.2.2.2⟩
    case rest =>
      obtain ⟨ba, bb, rfl, rfl, hma, hmb, hba, hbb, hbc⟩ := hcut
      have H3 := Lib.hid hbc
      have kx : ((edgesOf xs).map (·.a)).Nodup := by rw [edgesOf_keys]; exact HX.out.2.2.1
      have ky : ((edgesOf ys).map (·.a)).Nodup := by rw [edgesOf_keys]; exact HX.out.2.2.2.1
      have KW1 := Lib.hid (without_any (edgesOf xs) (edgesOf ys) ba bb wc hma hmb kx ky)
      have HM1 := Lib.hid (And.intro hma (And.intro hmb (And.intro kx ky)))
      clear hma hmb kx ky hbc kA kB hP0 hh
      go_wp2_with fail
      refine KW1.out.mono ?_
      rintro e w3 ⟨bl, L0, rfl, hml, hpl, hbl, hb3⟩
      have hma3 := HM1.out.1.kept (hb3.block _ HM1.out.1.lt)
      have hmb3 := HM1.out.2.1.kept (hb3.block _ HM1.out.2.1.lt)
      have KW2 := Lib.hid (without_any (edgesOf ys) (edgesOf xs) bb ba w3 hmb3 hma3 HM1.out.2.2.2 HM1.out.2.2.1)
      have hb03 : Below Wf.heap.size Wf w3 := H3.out.trans (hb3.mono H3.out.size)
      have hbl0 : Wf.heap.size ≤ bl := Nat.le_trans H3.out.size hbl
      have H4 := Lib.hid (And.intro hb03 (And.intro hml (And.intro hma3 hpl)))
      clear hma3 hmb3 hml hpl hb3 hb03 hbl KW1
      go_wp2_with fail
      refine KW2.out.mono ?_
      rintro e w4 ⟨bm, M, rfl, hmm, hpm, hbm, hb4⟩
      have hb04 : Below Wf.heap.size Wf w4 := H4.out.1.trans (hb4.mono H4.out.1.size)
      have hml := H4.out.2.1.kept (hb4.block _ H4.out.2.1.lt)
      have hma := H4.out.2.2.1.kept (hb4.block _ H4.out.2.2.1.lt)
      have hllt : bl < w4.heap.size := hml.lt
      have hmne : bl ≠ bm := fun e' => by have := H4.out.2.1.lt; omega
      have hll := fun r => run_len_map (P := Tryz.prog) Tryz.underlying64 hml r
      have hla := fun r => run_len_map (P := Tryz.prog) Tryz.underlying64 hma r
      rw [stepV_len, H4.out.2.2.2.length_eq] at hll
      rw [stepV_len, edgesOf_len] at hla
      obtain ⟨nl, hnl⟩ : ∃ nl, nl = (cutE (edgesOf xs) (edgesOf ys)).length := ⟨_, rfl⟩
      rw [← hnl] at hll
      have hkM : (M.map (·.a)).Nodup := by
        have h1 : ((cutE (edgesOf ys) (edgesOf xs)).map (·.a)).Nodup := List.Nodup.sublist (List.Sublist.map _ (List.filter_sublist ..)) HM1.out.2.2.2
        exact (hpm.map _).nodup_iff.2 h1
      have hkL : (L0.map (·.a)).Nodup := by
        have h1 : ((cutE (edgesOf xs) (edgesOf ys)).map (·.a)).Nodup := List.Nodup.sublist (List.Sublist.map _ (List.filter_sublist ..)) HM1.out.2.2.1
        exact (H4.out.2.2.2.map _).nodup_iff.2 h1
      have hjW : joinW p i k = wayO (joinL xs ys) := by unfold joinW; rw [← HX.out.1, ← HX.out.2.1]
      have hjI : joinI p i k = if nl = xs.length then 7 else if joinW p i k = none then 9 else if planB (joinQ p i k ((joinW p i k).getD [])) = true then 0 else 8 := by
        rw [hnl]
        unfold joinI
        rw [← HX.out.1, ← HX.out.2.1]
      have HJW := Lib.hid (And.intro hjW hjI)
      have hrg : Sem.run Tryz.prog (Instr.range 64 (.map (some bm))) w4 = .ok (.pointer (some ⟨w4.heap.size, 0, none⟩)) (w4.alloc (.mapIter (some bm) (stepV M).length #[] (stepV M).length)) := run_range_map Tryz.underlying64 hmm
      have H5 := Lib.hid (And.intro hb04 (And.intro hml (And.intro hmm (And.intro hpm (And.intro H4.out.2.2.2 (And.intro hkM hkL))))))
      clear hmm hpm hb4 hb04 hml hma hnl hkM hkL hjW hjI KW2 HM1
      by_cases hs7 : nl = xs.length
      · have hme : joinE p a b = 7 := by rw [HJ.out.1, HJW.out.2, if_pos hs7]
        have HM := Lib.hid hme
        have HR := Lib.hid (H2.out.on H5.out.1).res
        have hs7' : ((nl : Int) == (xs.length : Int)) = true := by rw [beq_iff_eq]; omega
        clear hme hs7 hrg
        obtain ⟨V, hV, r1, r2, hbV⟩ := res_store (g := w.heap.size + 1) HR.out.1 (by omega) HR.out.2 (.slice none 0 0) (.slice none 0 0)
        obtain ⟨s1, s2, f1, f2⟩ := plk_facts4 HR.out.2
        have HV := Lib.hid hV
        have HRR := Lib.hid (And.intro r1 (And.intro r2 hbV))
        clear hV r1 r2 hbV
        go_wp2_with fail
        rw [← HV.out]
        obtain ⟨r1, r2, hbV⟩ := HRR.out
        refine bodyPost_ret (v := .tuple #[planV none 0 0 none 0 0, .int .i64 7]) ?_ rfl (by rw [HM.out]; exact resPostS_no (joinP_no HM.out (by decide)) hbV)
        simp [results, Tryz.results16, go_sem, r1, r2]
      have HS7 := Lib.hid hs7
      have hs7' : ((nl : Int) == (xs.length : Int)) = false := by rw [beq_eq_false_iff_ne]; omega
      clear hs7
      go_upto_block 1 with fail
      clear hll hla hs7'
      have hba4 : Below w4.heap.size w4 (w4.alloc (.mapIter (some bm) (stepV M).length #[] (stepV M).length)) := (Below.refl _ _).alloc (Nat.le_refl _) _
      have hI0 : IterB (w4.alloc (.mapIter (some bm) (stepV M).length #[] (stepV M).length)) w4.heap.size bm (stepV M).length #[] := heap_alloc_new w4 _
      have H6 := Lib.hid (And.intro hI0 (And.intro (H5.out.2.2.1.kept (hba4.block _ H5.out.2.2.1.lt)) (And.intro (H5.out.2.1.kept (hba4.block _ H5.out.2.1.lt)) (below_on H5.out.1 (Nat.le_refl _) (hba4.mono (Nat.le_refl _))))))
      have hfw : Wf.heap.size ≤ w4.heap.size := H5.out.1.size
      obtain ⟨rr, hrr⟩ : ∃ rr, rr = w4.heap.size := ⟨_, rfl⟩
      obtain ⟨wo, hwo⟩ : ∃ wo, wo = w4.alloc (.mapIter (some bm) (stepV M).length #[] (stepV M).length) := ⟨_, rfl⟩
      rw [← hrr, ← hwo] at H6
      rw [← hrr] at hllt hfw
      rw [← hrr, ← hwo]
      clear hrr hwo hrg hba4 hI0
      go_cut [12] (fun x wx => x = .map (some bl) ∧ ∃ L, MapB wx bl encP (stepV L) ∧ Hid ((L.map (·.a)).Nodup ∧ L.Perm (joinL xs ys)) ∧ Below Wf.heap.size Wf wx)
      case first =>
        go_wp2_with fail
        go_loopw [71] (fun _ wr => ∃ seen L, IterB wr rr bm (stepV M).length seen ∧ MapB wr bm encP (stepV M) ∧ MapB wr bl encP (stepV L) ∧ Below Wf.heap.size Wf wr ∧ Hid (SeenJ L0 M seen L)) (fun _ wr => leftW wr rr bm)
        case atStart => exact ⟨#[], L0, H6.out.1, H6.out.2.1, H6.out.2.2.1, H6.out.2.2.2, SeenJ.start M H5.out.2.2.2.2.2.2⟩
        case round =>
          obtain ⟨seen, L, hI, em, eo, eB, hok⟩ := hrel
          rcases run_next_map_ (P := Tryz.prog) hI em with ⟨hall, hnx⟩ | ⟨j, hil, hsn, W', hnx, hI', em', hg', hsz', hlf⟩
          · have hP : Hid ((L.map (·.a)).Nodup ∧ L.Perm (joinL xs ys)) := ⟨hok.out.nd, hok.out.done H5.out.2.2.2.2.1 H5.out.2.2.2.1 (fun i hi => hall i (by rw [stepV_len]; exact hi)) HX.out.2.2.2.2.1 HX.out.2.2.1 HX.out.2.2.2.1⟩
            have HE := Lib.hid (And.intro eo eB)
            clear hok hall hI em eo eB
            go_wp2_with fail
            go_meet
            exact ⟨rfl, L, HE.out.1, hP, HE.out.2⟩
          · obtain ⟨hi2, k1, k2⟩ := stepV_get hil
            obtain ⟨e, he⟩ : ∃ e, e = M[j] := ⟨_, rfl⟩
            have hent := run_entry_map_ (P := Tryz.prog) hI' em' hil
            rw [k1, k2, ← he] at hnx hent
            have hent' : Sem.run Tryz.prog (Instr.entry (.pointer (some ⟨rr, 0, none⟩))) W' = .ok (.tuple #[.agg #[.int .i64 e.a.x, .int .i64 e.a.y], .agg #[.int .i64 e.b.x, .int .i64 e.b.y]]) W' := hent
            have hnx' : ∀ ty, Sem.run Tryz.prog (Instr.next (.pointer (some ⟨rr, 0, none⟩)) false ty) wr = .ok (.tuple #[.bool true, .agg #[.int .i64 e.a.x, .int .i64 e.a.y], .agg #[.int .i64 e.b.x, .int .i64 e.b.y]]) W' := hnx
            have hne : ∀ i, i ≠ rr → i < wr.heap.size → W'.heap[i]? = wr.heap[i]? := fun i h1 h2 => hg'.block i h2 (fun e => h1 (by cases e; rfl))
            have HSJ := Lib.hid (And.intro (And.intro hsn (And.intro he hlf)) hok.out)
            have fo : MapB W' bl encP (stepV L) := eo.kept (hne _ (by omega) eo.lt)
            have hlk0 : ∃ (z : Pt) (tb : Bool), ((tb = true → wayO (joinL xs ys) = none) ∧ (tb = false → look (stepV L) e.a = none)) ∧ ∀ V, MapB V bl encP (stepV L) → Sem.run Tryz.prog (Instr.lookup 64 (.map (some bl)) (.agg #[.int .i64 e.a.x, .int .i64 e.a.y]) true) V = .ok (.tuple #[.agg #[.int .i64 z.x, .int .i64 z.y], .bool tb]) V := by
              rcases hq : look (stepV L) e.a with _ | v
              · exact ⟨⟨0, 0⟩, false, ⟨fun h => (by cases h), fun _ => rfl⟩, fun V hV => run_look_out ptKey Tryz.underlying64 Tryz.zeroValue53 hV hq⟩
              · obtain ⟨f, hf, hk, rfl⟩ := look_step hq
                exact ⟨f.b, true, ⟨fun _ => HSJ.out.2.met H5.out.2.2.2.2.1 H5.out.2.2.2.1 H5.out.2.2.2.2.2.1 hi2 HSJ.out.1.1 HSJ.out.1.2.1 hq, fun h => (by cases h)⟩, fun V hV => run_look_in ptKey Tryz.underlying64 hV hq⟩
            obtain ⟨z, tb, htb, hlk0⟩ := hlk0
            have fB : Below Wf.heap.size Wf W' := eB.grown hg' eB.size (fun j e => by have := Option.some.inj e; omega)
            have hBa : Below W'.heap.size W' ((W'.alloc (.cells #[.int .i64 e.a.x, .int .i64 e.a.y] 53)).alloc (.cells #[.int .i64 e.b.x, .int .i64 e.b.y] 53)) := ((Below.refl _ _).alloc (Nat.le_refl _) _).alloc (by simp) _
            have hlk := hlk0 _ (fo.kept (hBa.block _ fo.lt))
            have hA := (Blk.new W' 53 #[.int .i64 e.a.x, .int .i64 e.a.y]).alloc (.cells #[.int .i64 e.b.x, .int .i64 e.b.y] 53)
            have hB := Blk.new (W'.alloc (.cells #[.int .i64 e.a.x, .int .i64 e.a.y] 53)) 53 #[.int .i64 e.b.x, .int .i64 e.b.y]
            rw [World.size_alloc] at hB
            have H7 := Lib.hid (And.intro (hI'.kept (hBa.block _ (Array.getElem?_eq_some_iff.1 hI').1)) (And.intro (em'.kept (hBa.block _ em'.lt)) (And.intro (fo.kept (hBa.block _ fo.lt)) (below_on fB (Nat.le_refl _) hBa))))
            have HL6 : Hid (leftW ((W'.alloc (.cells #[.int .i64 e.a.x, .int .i64 e.a.y] 53)).alloc (.cells #[.int .i64 e.b.x, .int .i64 e.b.y] 53)) rr bm < leftW wr rr bm) := by
              show _ < _
              rw [leftW_eq H7.out.1 H7.out.2.1, ← leftW_eq hI' em']
              exact hlf
            have HK := Lib.hid (And.intro hA hB)
            have HTB := Lib.hid htb
            obtain ⟨g, hg⟩ : ∃ g, g = W'.heap.size := ⟨_, rfl⟩
            clear hnx hent hne hI em eo eB hI' em' hg' hsz' hlf hok hsn he k1 k2 hlk0 fB fo hA hB htb hBa hil
            go_upto_region 15 with fail
            rw [← hg] at HK
            rw [← hg]
            obtain ⟨W6, hW6⟩ : ∃ W6, W6 = (W'.alloc (.cells #[.int .i64 e.a.x, .int .i64 e.a.y] 53)).alloc (.cells #[.int .i64 e.b.x, .int .i64 e.b.y] 53) := ⟨_, rfl⟩
            rw [← hW6] at H7 HL6 hlk HK
            rw [← hW6]
            clear hW6 hg hnx' hent'
            have a1 : W6.cell? ⟨g, 0, none⟩ = some (.int .i64 e.a.x) := by rw [Blk.cell HK.out.1 0]; rfl
            have a2 : W6.cell? ⟨g, 1, none⟩ = some (.int .i64 e.a.y) := by rw [Blk.cell HK.out.1 1]; rfl
            go_upto_region 16 with fail
            clear a1 a2
            have hb7 : Below W6.heap.size W6 (W6.alloc (.cells #[.int .i64 z.x, .int .i64 z.y] 53)) := (Below.refl _ _).alloc (Nat.le_refl _) _
            have H8 := Lib.hid (And.intro (H7.out.1.kept (hb7.block _ (Array.getElem?_eq_some_iff.1 H7.out.1).1)) (And.intro (H7.out.2.1.kept (hb7.block _ H7.out.2.1.lt)) (And.intro (H7.out.2.2.1.kept (hb7.block _ H7.out.2.2.1.lt)) (below_on H7.out.2.2.2 (Nat.le_refl _) hb7))))
            have HL7 : Hid (leftW (W6.alloc (.cells #[.int .i64 z.x, .int .i64 z.y] 53)) rr bm < leftW wr rr bm) := by
              show _ < _
              rw [leftW_eq H8.out.1 H8.out.2.1, ← leftW_eq H7.out.1 H7.out.2.1]
              exact HL6.out
            have hA := Blk.below HK.out.1 hb7 (Blk.lt HK.out.1)
            have hB := Blk.below HK.out.2 hb7 (Blk.lt HK.out.2)
            obtain ⟨W7, hW7⟩ : ∃ W7, W7 = W6.alloc (.cells #[.int .i64 z.x, .int .i64 z.y] 53) := ⟨_, rfl⟩
            rw [← hW7] at H8 HL7 hA hB
            rw [← hW7]
            clear hW7 hb7
            obtain ⟨gz, hgz⟩ : ∃ gz, gz = W6.heap.size := ⟨_, rfl⟩
            rw [← hgz]
            clear hgz hlk H7 HL6 HK
            have a1 : W7.cell? ⟨g, 0, none⟩ = some (.int .i64 e.a.x) := by rw [Blk.cell hA 0]; rfl
            have a2 : W7.cell? ⟨g, 1, none⟩ = some (.int .i64 e.a.y) := by rw [Blk.cell hA 1]; rfl
            have b1 : W7.cell? ⟨g + 1, 0, none⟩ = some (.int .i64 e.b.x) := by rw [Blk.cell hB 0]; rfl
            have b2 : W7.cell? ⟨g + 1, 1, none⟩ = some (.int .i64 e.b.y) := by rw [Blk.cell hB 1]; rfl
            clear hA hB
            rcases tb with _ | _
            · obtain ⟨W8, hup, hm8, hg8⟩ := run_put_new ptKey Tryz.underlying64 H8.out.2.2.1 (encP e.b) (HTB.out.2 rfl)
              have hin := HSJ.out.2.put hi2 HSJ.out.1.2.1 (HTB.out.2 rfl)
              have hup' : Sem.run Tryz.prog (Instr.mapUpdate 64 (.map (some bl)) (.agg #[.int .i64 e.a.x, .int .i64 e.a.y]) (.agg #[.int .i64 e.b.x, .int .i64 e.b.y])) W7 = .ok () W8 := hup
              have H9 := Lib.hid (And.intro hm8 (And.intro hg8 hin))
              clear hup hm8 hg8 hin HTB
              go_wp2_with fail
              obtain ⟨hm8, hg8, hin⟩ := H9.out
              rw [← stepV_snoc] at hm8
              have hn8 : ∀ i, i ≠ bl → i < W7.heap.size → W8.heap[i]? = W7.heap[i]? := fun i h1 h2 => hg8.block i h2 (fun e => h1 (by cases e; rfl))
              obtain ⟨g1, g2, g3, g5⟩ := H8.out
              have g1' : IterB W8 rr bm (stepV M).length (seen.push j) := g1.kept (hn8 _ (by omega) (Array.getElem?_eq_some_iff.1 g1).1)
              have g2' : MapB W8 bm encP (stepV M) := g2.kept (hn8 _ (fun e' => hmne e'.symm) g2.lt)
              go_roundw
              case rel => exact ⟨seen.push j, L ++ [e], g1', g2', hm8, g5.grown hg8 g5.size (fun j e => by have := Option.some.inj e; omega), hin⟩
              case measure => rw [leftW_eq g1' g2', ← leftW_eq g1 g2]; exact HL7.out
            · have hme : joinE p a b = 9 := by rw [HJ.out.1, HJW.out.2, if_neg HS7.out, if_pos (by rw [HJW.out.1]; exact HTB.out.1 rfl)]
              have HM := Lib.hid hme
              have HR := Lib.hid (H2.out.on H8.out.2.2.2).res
              clear hme HTB
              obtain ⟨V, hV, r1, r2, hbV⟩ := res_store (g := w.heap.size + 1) HR.out.1 (by omega) HR.out.2 (.slice none 0 0) (.slice none 0 0)
              obtain ⟨s1, s2, f1, f2⟩ := plk_facts4 HR.out.2
              have HV := Lib.hid hV
              have HRR := Lib.hid (And.intro r1 (And.intro r2 hbV))
              clear hV r1 r2 hbV
              go_wp2_with fail
              rw [← HV.out]
              obtain ⟨r1, r2, hbV⟩ := HRR.out
              refine bodyPost_ret (v := .tuple #[planV none 0 0 none 0 0, .int .i64 9]) ?_ rfl (by rw [HM.out]; exact resPostS_no (joinP_no HM.out (by decide)) hbV)
              simp [results, Tryz.results16, go_sem, r1, r2]
      case rest =>
        obtain ⟨rfl, L, hmL, hL, hbc3⟩ := hcut
        have hlen : L.length ≤ 1048576 := by
          rw [hL.out.2.length_eq]
          unfold joinL cutE
          rw [List.length_append]
          have a1 := List.length_filter_le (fun e : Ed => decide (e.back ∉ edgesOf ys)) (edgesOf xs)
          have a2 := List.length_filter_le (fun e : Ed => decide (e.back ∉ edgesOf xs)) (edgesOf ys)
          rw [edgesOf_len] at a1 a2
          have := HX.out.2.2.2.2.2.1
          have := HX.out.2.2.2.2.2.2
          omega
        have KWk := Lib.hid (walk_any L bl wc hmL hL.out.1 hlen)
        have H7 := Lib.hid (H2.out.on hbc3)
        clear hmL hbc3 hlen
        go_wp2_with fail
        refine KWk.out.mono ?_
        rintro e w5 ⟨hres, hb5⟩
        have H8 := Lib.hid (H7.out.on hb5)
        have hwp := wayO_perm hL.out.2
        rcases hres with ⟨hno, rfl⟩ | ⟨r, adr, cr, hr, rfl, hor⟩
        · have hme : joinE p a b = 9 := by rw [HJ.out.1, HJW.out.2, if_neg HS7.out, if_pos (by rw [HJW.out.1, ← hwp]; exact hno)]
          have HM := Lib.hid hme
          have HR := Lib.hid H8.out.res
          have hnil := fun W => nil_eq W
          clear hme hno hwp hb5 KWk
          obtain ⟨V, hV, r1, r2, hbV⟩ := res_store (g := w.heap.size + 1) HR.out.1 (by omega) HR.out.2 (.slice none 0 0) (.slice none 0 0)
          obtain ⟨s1, s2, f1, f2⟩ := plk_facts4 HR.out.2
          have HV := Lib.hid hV
          have HRR := Lib.hid (And.intro r1 (And.intro r2 hbV))
          clear hV r1 r2 hbV
          go_wp2_with fail
          rw [← HV.out]
          obtain ⟨r1, r2, hbV⟩ := HRR.out
          refine bodyPost_ret (v := .tuple #[planV none 0 0 none 0 0, .int .i64 9]) ?_ rfl (by rw [HM.out]; exact resPostS_no (joinP_no HM.out (by decide)) hbV)
          simp [results, Tryz.results16, go_sem, r1, r2]
        have hjr : joinW p i k = some r := by rw [HJW.out.1, ← hwp]; exact hr
        have hmj : joinE p a b = if planB (joinQ p i k r) = true then 0 else 8 := by
          rw [HJ.out.1, HJW.out.2, if_neg HS7.out, hjr, if_neg (by simp)]
          rfl
        have hmp : joinP p a b = if joinE p a b = 0 then joinQ p i k r else ⟨[], []⟩ := by rw [HJ.out.2, hjr]; rfl
        obtain ⟨hf1, hf2, hrl⟩ := joinQ_fits HS.out H8.out.2.2.2.fits HIK.out.1 HIK.out.2.1 hjr
        have hgl : ∀ zs, ringOf p zs → zs.length ≤ 1048576 := fun zs hz => by have := (sound_ring HS.out hz).2.1; omega
        have KCl := Lib.hid (clonePl_any p A (some ad) n c n' c' w5 H8.out.2.2.2 hgl (by omega))
        have HO := Lib.hid (own_mono hor H7.out.1.size)
        have HF := Lib.hid (And.intro hmj (And.intro hmp (And.intro hf1 hf2)))
        obtain ⟨q1, q2, q3⟩ := H8.out.2.1.facts
        have hnil := fun W => nil_ne adr r.length cr W
        clear hjr hmj hmp hf1 hf2 hgl hr hwp hor hb5 KWk hrl
        go_wp2_with fail
        refine KCl.out.mono ?_
        rintro e w6 ⟨A1, n1, c1, A2, n2, c2, hs, rfl, hpo, hb6⟩
        have hn2 := hpo.lenp
        have hin2 : i < n2 := by have := HIK.out.1; omega
        have hkn2 : k < n2 := by have := HIK.out.2.1; omega
        have hi2 : (i : Int) < (n2 : Int) := by omega
        have hk2 : (k : Int) < (n2 : Int) := by omega
        have h64 : n2 ≤ 64 := by have := (listed_bd HS.out.1).2.1; omega
        obtain ⟨g, cg, eg, hgB, hgl⟩ := hpo.row.form (by omega)
        obtain rfl : A2 = some ⟨g, 0, none⟩ := by cases eg; rfl
        have hgw : w5.heap.size ≤ g := hgB
        obtain ⟨wq, hwq⟩ : ∃ wq, wq = w6.alloc (.cells #[.slice A1 n1 c1, .slice (some ⟨g, 0, none⟩) n2 c2] 26) := ⟨_, rfl⟩
        have hba : Below w6.heap.size w6 wq := by rw [hwq]; exact (Below.refl _ _).alloc (Nat.le_refl _) _
        have hQ : PlK wq w6.heap.size A1 n1 c1 (some ⟨g, 0, none⟩) n2 c2 := by rw [hwq]; exact PlK.new w6 A1 n1 c1 (some ⟨g, 0, none⟩) n2 c2
        obtain ⟨Bq, hBq⟩ : ∃ Bq, Bq = w6.heap.size := ⟨_, rfl⟩
        rw [← hBq] at hQ
        have hgq : g ≠ Bq := by have : g < w6.heap.size := hgl; omega
        have hpoq := (hpo.mono H8.out.1.size).below hba
        have hb56 := below_on hb6 (Nat.le_refl _) hba
        have hor := own_below HO.out hb56
        obtain ⟨hbq, hrq⟩ := (H8.out.on hb56).res
        have hwq8 : w.heap.size ≤ g := Nat.le_trans H8.out.1.size hgw
        have hrg : w.heap.size + 1 ≠ g := by have := Blk.lt H8.out.2.2.1; omega
        have hrBq : w.heap.size + 1 ≠ Bq := by have := Blk.lt H8.out.2.2.1; have := hb6.size; omega
        have hwBq : w.heap.size ≤ Bq := by have := Blk.lt H8.out.2.2.1; have := hb6.size; omega
        obtain ⟨hpo1, -, -⟩ := hpoq.setRing hin2 hor HF.out.2.2.1
        obtain ⟨ad3, e3, -, -, x1⟩ := hpoq.hd hin2
        obtain rfl := Option.some.inj e3
        have f1 := hpoq.frz hin2
        rw [addr_at] at hpo1 x1 f1
        obtain ⟨V1, hV1⟩ : ∃ V1, wq.setCell ⟨g, i * 3 + 1, none⟩ (.slice (some adr) r.length cr) = V1 := ⟨_, rfl⟩
        simp only at hpo1 x1 f1
        rw [hV1] at hpo1
        have hk1 : ∀ j, j ≠ g → V1.heap[j]? = wq.heap[j]? := fun j hj => by rw [← hV1]; exact Below.heap_setCell _ _ _ j (by simpa using hj)
        have hQ1 : PlK V1 Bq A1 n1 c1 (some ⟨g, 0, none⟩) n2 c2 := (hk1 Bq (fun e' => hgq e'.symm)).trans hQ
        have hR1 : PlK V1 (w.heap.size + 1) none 0 0 none 0 0 := (hk1 _ hrg).trans hrq
        have hB1 : Below w.heap.size w V1 := by rw [← hV1]; exact hbq.setCell (p := ⟨g, i * 3 + 1, none⟩) hwq8 _
        have e1 : ((k + 1 : Nat) : Int) = (k : Int) + 1 := by omega
        have kD := deletePc_any (setR p i r).parcels (hs.set i (some adr, r.length, cr)) g n2 c2 k w.heap.size V1 hpo1.row (by rw [hpo1.len, hpo1.lenp]) hpo1.lenp hkn2 (by omega)
        rw [e1] at kD
        have KD := Lib.hid kD
        have H9 := Lib.hid (And.intro hpo1 (And.intro hQ1 (And.intro hR1 hB1)))
        have hw1 : IntKind.i64.wrap ((k : Int) + 1) = (k : Int) + 1 := by rw [IntKind.wrap_i64]; omega
        obtain ⟨q1, q2, q3⟩ := hQ.facts
        obtain ⟨y1, y2, y3⟩ := hQ1.facts
        go_upto_region 23 with fail
        rw [← hBq, ← hwq]
        clear hBq hwq hba hQ hpoq hb56 hor hbq hrq hpo1 e3 hk1 hQ1 hR1 hB1 e1 kD hpo hb6 hn2 hgB
        go_wp2_with fail
        refine KD.out.mono ?_
        rintro e w8 ⟨rfl, hrow8, hg8⟩
        obtain ⟨hpo1, hQ1, hR1, hB1⟩ := H9.out
        have hk8 : ∀ j, j < V1.heap.size → j ≠ g → w8.heap[j]? = V1.heap[j]? := fun j h1 h2 => hg8.block j h1 (fun e' => h2 (by cases e'; rfl))
        have hQ8 : PlK w8 Bq A1 n1 c1 (some ⟨g, 0, none⟩) n2 c2 := (hk8 Bq (Blk.lt hQ1) (fun e' => hgq e'.symm)).trans hQ1
        have hR8 : PlK w8 (w.heap.size + 1) none 0 0 none 0 0 := (hk8 _ (Blk.lt hR1) hrg).trans hR1
        have hB8 : Below w.heap.size w w8 := hB1.grown hg8 hB1.size (fun j e' => by have := Option.some.inj e'; omega)
        have hpo8 := hpo1.erase hkn2 hrow8 hg8 HF.out.2.2.2
        have hpo9 := hpo8.store hQ8 (by decide) (by decide) 1 (.slice (some ⟨g, 0, none⟩) (n2 - 1) c2)
        have hQ9 := Blk.set_ hQ8 1 (.slice (some ⟨g, 0, none⟩) (n2 - 1) c2)
        simp only [List.setIfInBounds_toArray, List.set_cons_zero, List.set_cons_succ] at hQ9
        have hR9 : PlK (w8.setCell ⟨Bq, 1, none⟩ (.slice (some ⟨g, 0, none⟩) (n2 - 1) c2)) (w.heap.size + 1) none 0 0 none 0 0 := (Below.heap_setCell _ _ _ _ (by simpa using hrBq)).trans hR8
        have hB9 := hB8.setCell (p := ⟨Bq, 1, none⟩) hwBq (.slice (some ⟨g, 0, none⟩) (n2 - 1) c2)
        obtain ⟨z1, z2, -⟩ := hQ8.facts
        have z3 := Blk.frozen hQ8 1
        obtain ⟨V2, hV2⟩ : ∃ V2, w8.setCell ⟨Bq, 1, none⟩ (.slice (some ⟨g, 0, none⟩) (n2 - 1) c2) = V2 := ⟨_, rfl⟩
        rw [hV2] at hpo9 hQ9 hR9 hB9
        obtain ⟨q1, q2, -⟩ := (show PlK V2 Bq A1 n1 c1 (some ⟨g, 0, none⟩) (n2 - 1) c2 from hQ9).facts
        obtain ⟨Q, hQe⟩ : ∃ Q, Q = joinQ p i k r := ⟨_, rfl⟩
        have hpoQ : PlanOwn w.heap.size V2 A1 n1 c1 (some ⟨g, 0, none⟩) (n2 - 1) c2 Q ((hs.set i (some adr, r.length, cr)).eraseIdx k) := by rw [hQe]; exact hpo9
        have kC := checkPl_any Q A1 (some ⟨g, 0, none⟩) n1 c1 (n2 - 1) c2 V2 hpoQ.at_
        have hmj := HF.out.1
        have hmp := HF.out.2.1
        rw [← hQe] at hmj hmp
        have H10 := Lib.hid (And.intro hpoQ (And.intro hQ9 (And.intro hR9 hB9)))
        clear hpo1 hQ1 hR1 hB1 hk8 hQ8 hR8 hB8 hpo8 hpo9 hQ9 hR9 hB9 hpoQ hQe hrow8 hg8 hV1 H9 KD y1 y2 y3 x1 f1 q3
        rcases hpb : planB Q with _ | _
        · rw [planE_b0 hpb] at kC
          have KC2 := Lib.hid kC
          rw [hpb, if_neg (by decide)] at hmj
          have HM := Lib.hid hmj
          clear kC hmj hmp hpb
          go_wp2_with fail
          refine KC2.out.mono ?_
          rintro e w9 ⟨rfl, hb9⟩
          have HR := Lib.hid (And.intro (below_on H10.out.2.2.2 (Nat.le_refl _) hb9) (H10.out.2.2.1.on hb9))
          clear hb9 H10 KC2 q1 q2 z1 z2 z3 hV2
          obtain ⟨V, hV, r1, r2, hbV⟩ := res_store (g := w.heap.size + 1) HR.out.1 (by omega) HR.out.2 (.slice none 0 0) (.slice none 0 0)
          obtain ⟨s1, s2, f1, f2⟩ := plk_facts4 HR.out.2
          have HV := Lib.hid hV
          have HRR := Lib.hid (And.intro r1 (And.intro r2 hbV))
          clear hV r1 r2 hbV
          go_wp2_with fail
          rw [← HV.out]
          obtain ⟨r1, r2, hbV⟩ := HRR.out
          refine bodyPost_ret (v := .tuple #[planV none 0 0 none 0 0, .int .i64 8]) ?_ rfl (by rw [HM.out]; exact resPostS_no (joinP_no HM.out (by decide)) hbV)
          simp [results, Tryz.results16, go_sem, r1, r2]
        · rw [planE_b1 hpb] at kC
          have KC2 := Lib.hid kC
          rw [hpb, if_pos rfl] at hmj
          rw [hmj, if_pos rfl] at hmp
          have HM := Lib.hid (And.intro hmj hmp)
          clear kC hmj hmp hpb
          go_wp2_with fail
          refine KC2.out.mono ?_
          rintro e w9 ⟨rfl, hb9⟩
          have hQ10 : PlK w9 Bq A1 n1 c1 (some ⟨g, 0, none⟩) (n2 - 1) c2 := PlK.on H10.out.2.1 hb9
          have hR10 := H10.out.2.2.1.on hb9
          have hpo10 := H10.out.1.below hb9
          have hB10 := below_on H10.out.2.2.2 (Nat.le_refl _) hb9
          obtain ⟨V, hV, r1, r2, hbV⟩ := res_store (g := w.heap.size + 1) hB10 (by omega) hR10 (.slice A1 n1 c1) (.slice (some ⟨g, 0, none⟩) (n2 - 1) c2)
          obtain ⟨s1, s2, f1, f2⟩ := plk_facts4 hR10
          have hpoV := (hpo10.store hR10 (by decide) (by decide) 0 (.slice A1 n1 c1)).store (Blk.set_ hR10 0 (.slice A1 n1 c1)) (by decide) (by decide) 1 (.slice (some ⟨g, 0, none⟩) (n2 - 1) c2)
          rw [← hV] at hpoV
          clear q1 q2
          obtain ⟨q1, q2, -⟩ := hQ10.facts
          have HV := Lib.hid hV
          have HRR := Lib.hid (And.intro r1 (And.intro r2 (And.intro hbV hpoV)))
          clear hV r1 r2 hbV hpoV hpo10 hB10 hR10 hQ10 hb9 H10 KC2 z1 z2 z3 hV2
          go_wp2_with fail
          rw [← HV.out]
          obtain ⟨r1, r2, hbV, hpoV⟩ := HRR.out
          refine bodyPost_ret (v := .tuple #[planV A1 n1 c1 (some ⟨g, 0, none⟩) (n2 - 1) c2, .int .i64 0]) ?_ rfl ⟨A1, n1, c1, some ⟨g, 0, none⟩, n2 - 1, c2, _, by rw [HM.out.1], by rw [HM.out.2]; exact hpoV, hbV⟩
          simp [results, Tryz.results16, go_sem, r1, r2]
end Go.Proofs.YtgkcenhopmjmlaaGreat
