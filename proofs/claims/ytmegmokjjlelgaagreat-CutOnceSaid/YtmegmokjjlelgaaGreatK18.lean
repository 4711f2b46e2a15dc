/- cut.way: the walk; cut.fault: the model. (The walk is not begun.); plan.Each: words, and the plain law of it; plan.Insert: the walk; what it makes of a sound plan; plan.Corner, plan.Find, plan.Left: the walks; What lies beside PtW; What lies beside GeoLaw. -/
import Derived.Deep.CutBlock
import Derived.Deep.DeepCutAuto
import Derived.Carry
import Derived.Laws.IdiomCopy
import Derived.Laws.IdiomStrings
import Derived.Lib.EndianMore
import Derived.Maps.RangeRun
import Derived.WideKeyRuns
import Derived.Test.YtmegmokjjlelgaaGreatK01
import Derived.Test.YtmegmokjjlelgaaGreatK03
import Derived.Test.YtmegmokjjlelgaaGreatK08
import Derived.Test.YtmegmokjjlelgaaGreatK09
import Derived.Test.YtmegmokjjlelgaaGreatK17
namespace Go.Proofs.YtmegmokjjlelgaaGreat
open Go.RowKit Go.Lib
def wayL (xs : List Pt) (s k : Nat) : List Pt := (List.range k).map fun j => ptAt xs ((s + j) % xs.length)
theorem wayL_len (xs : List Pt) (s k : Nat) : (wayL xs s k).length = k := by simp [wayL]
theorem wayL_succ (xs : List Pt) (s k : Nat) : wayL xs s (k + 1) = wayL xs s k ++ [ptAt xs ((s + k) % xs.length)] := by simp [wayL, List.range_succ]
theorem own_lessW {w : World} {b b' n : Nat} {e : TypeId} {size : Nat} {v : Value} {xs : List Value} (h : w.ownsRow b e size v n xs) (hb : b' ≤ b) : w.ownsRow b' e size v n xs := by
  refine ⟨h.1, ?_⟩
  rcases h.2 with h1 | ⟨g, cap, cur, h1, h2, h3⟩
  · exact .inl h1
  · exact .inr ⟨g, cap, cur, h1, by omega, h3⟩
theorem way_comes {xs : List Pt} {t : Pt} (ht : t ∈ xs) (s : Nat) : ∃ K, K < xs.length ∧ ptAt xs ((s + K) % xs.length) = t ∧ ∀ j, j < K → ptAt xs ((s + j) % xs.length) ≠ t := by
  obtain ⟨k0, hk0, rfl⟩ := List.getElem_of_mem ht
  have hex : ∃ K, K < xs.length ∧ ptAt xs ((s + K) % xs.length) = xs[k0] := by
    refine ⟨(k0 + (xs.length - s % xs.length)) % xs.length, Nat.mod_lt _ (by omega), ?_⟩
    have hs : s % xs.length < xs.length := Nat.mod_lt _ (by omega)
    have : (s + (k0 + (xs.length - s % xs.length)) % xs.length) % xs.length = k0 := by
      rw [Nat.add_mod, Nat.mod_mod, ← Nat.add_mod]
      have e : s + (k0 + (xs.length - s % xs.length)) = k0 + xs.length * (s / xs.length + 1) := by
        have := Nat.div_add_mod s xs.length
        rw [Nat.mul_add]
        omega
      rw [e, Nat.add_mul_mod_self_left, Nat.mod_eq_of_lt hk0]
    rw [this, ptAt_lt hk0]
  obtain ⟨K, h1, h2⟩ := hex
  induction K using Nat.strongRecOn with
  | ind K ih =>
    by_cases h : ∃ j, j < K ∧ ptAt xs ((s + j) % xs.length) = xs[k0]
    · obtain ⟨j, hj, e⟩ := h
      exact ih j hj (by omega) e
    · exact ⟨K, h1, h2, fun j hj e => h ⟨j, hj, e⟩⟩
set_option maxRecDepth 100000 in
set_option maxHeartbeats 1600000 in
theorem cutWay_any (xs : List Pt) (f t : Pt) (A : Option Addr) (n c : Nat) (w : World) (hr : Reads w w.heap.size 2 A n (ptsV xs)) (hf : f ∈ xs) (ht : t ∈ xs) (hn : n ≤ 1048576) :
    Calls Tryz.prog 65 #[.slice A n c, .agg #[.int .i64 f.x, .int .i64 f.y], .agg #[.int .i64 t.x, .int .i64 t.y]] w fun e w' => ∃ A' c' i K, e = .returned (.slice A' K c') ∧ idxPt xs f = ((i : Nat) : Int) ∧ i < n ∧ K < n ∧ ptAt xs ((i + 1 + K) % n) = t ∧ (∀ j, j < K → ptAt xs ((i + 1 + j) % n) ≠ t) ∧ w'.ownsRow w.heap.size 44 2 (.slice A' K c') K (ptsV (wayL xs (i + 1) K)) ∧ Below w.heap.size w w' := by
  have hl := hr.lenPt
  obtain ⟨ip, hip, hz0, hz1, hz2⟩ := info_parts info_pt
  obtain ⟨i, hi, hidx, -, -⟩ := idx_lt hf
  obtain ⟨K, hK, hKt, hKn⟩ := way_comes ht (i + 1)
  rw [hl] at hi hK hKt hKn
  obtain ⟨wa, hwa⟩ : ∃ wa : World, wa = (w.alloc (.cells #[.int .i64 f.x, .int .i64 f.y] 44)).alloc (.cells #[.int .i64 t.x, .int .i64 t.y] 44) := ⟨_, rfl⟩
  have hB0 : Below w.heap.size w wa := by rw [hwa]; exact ((Below.refl _ _).alloc (Nat.le_refl _) _).alloc (by simp) _
  have hF0 : PtK wa w.heap.size f := by rw [hwa]; exact Blk.alloc (PtK.new w f) _
  have hT0 : PtK wa (w.heap.size + 1) t := by
    have := PtK.new (w.alloc (.cells #[.int .i64 f.x, .int .i64 f.y] 44)) t
    rw [World.size_alloc] at this
    rw [hwa]
    exact this
  have KI := Lib.hid (indexQ_any xs f A n c wa (hr.on hB0) (by omega))
  rw [hidx] at KI
  have H0 := Lib.hid (And.intro hB0 (And.intro hF0 hT0))
  have HK := Lib.hid (And.intro hidx (And.intro hKt hKn))
  have HR := Lib.hid hr
  clear hB0 hF0 hT0 hidx hKt hKn hr hf ht
  go_enter Tryz.func65, Tryz.ntmps65
  go_upto_region 2 with fail
  rw [← hwa]
  clear hwa
  obtain ⟨q1, q2, -⟩ := H0.out.2.1.facts
  go_wp2_with fail
  refine KI.out.mono ?_
  rintro e w1 ⟨rfl, hb1⟩
  have H1 := Lib.hid (And.intro (below_on H0.out.1 (Nat.le_refl _) hb1) (show PtK w1 (w.heap.size + 1) t from Blk.below H0.out.2.2 hb1 (Blk.lt H0.out.2.2)))
  have hw0 : IntKind.i64.wrap ((i : Int) + 1) = (i : Int) + 1 := by rw [IntKind.wrap_i64]; omega
  clear hb1 KI q1 q2 H0
  go_wp2_with fail
  go_loopw [7, 8] (fun o v wr => ∃ (k : Nat) (A' : Option Addr) (c' : Nat), k ≤ K ∧ v = .int .i64 ((i : Int) + 1 + (k : Int)) ∧ o = .slice A' k c' ∧ Hid (wr.ownsRow (w.heap.size + 2) 44 2 (.slice A' k c') k (ptsV (wayL xs (i + 1) k)) ∧ Below w.heap.size w wr ∧ PtK wr (w.heap.size + 1) t)) (fun _ v _ => 2097152 - (intOf v).toNat)
  case atStart => exact ⟨0, none, 0, Nat.zero_le _, by simp, rfl, World.ownsRow_nil _ _ _ _, H1.out.1, H1.out.2⟩
  case round =>
    clear H1
    obtain ⟨k, A', c', hk, rfl, rfl, HW⟩ := hrel
    obtain ⟨W, rfl⟩ : ∃ W, W = wr := ⟨_, rfl⟩
    have hw1 : IntKind.i64.wrap ((i : Int) + 1 + (k : Int) + 1) = (i : Int) + 1 + ((k + 1 : Nat) : Int) := by rw [IntKind.wrap_i64]; omega
    obtain ⟨M, hM⟩ : ∃ M, M = (i + 1 + k) % n := ⟨_, rfl⟩
    have hMn : M < n := by rw [hM]; exact Nat.mod_lt _ (by omega)
    have hMi : (M : Int) < (n : Int) := by omega
    have hmi : ((i : Int) + 1 + (k : Int)).tmod (n : Int) = (M : Int) := by
      rw [hM, Int.tmod_eq_emod_of_nonneg (by omega), Int.natCast_emod]
      congr 1
    have hwM : IntKind.i64.wrap (M : Int) = (M : Int) := by rw [IntKind.wrap_i64]; omega
    have hn0 : ((n : Int) == 0) = false := by rw [beq_eq_false_iff_ne]; omega
    have HM := Lib.hid hM
    obtain ⟨ad, rfl, -, -, -, -⟩ := HR.out.pt hMn
    obtain ⟨-, p1, p2⟩ := (HR.out.below HW.out.2.1).ptA hMn
    obtain ⟨t1, t2, -, -, -⟩ := HW.out.2.2.facts
    obtain ⟨P, hP⟩ : ∃ P, P = ptAt xs M := ⟨_, rfl⟩
    rw [← hP] at p1 p2
    have he := fun V => neqPt_runs P t V
    have hg := fun op a b V => (eqPt_runs P t op a b V).2
    have HP := Lib.hid hP
    clear hM hP
    by_cases hpt : P = t
    · have hkK : k = K := by
        rcases Nat.lt_or_ge k K with h | h
        · exact absurd (by rw [← HM.out, ← HP.out]; exact hpt) (HK.out.2.2 k h)
        · omega
      subst hkK
      rw [decide_eq_true hpt] at he
      clear hpt
      go_wp2
      go_quiet (fail)
      go_wp2
      go_ret
      exact ⟨A', c', i, k, rfl, HK.out.1, hi, hK, HK.out.2.1, HK.out.2.2, own_below (own_lessW HW.out.1 (by omega)) (below_drewN (Below.refl _ _) _), below_drewN HW.out.2.1 _⟩
    · have hkK : k < K := by
        rcases Nat.lt_or_ge k K with h | h
        · exact h
        · obtain rfl : k = K := by omega
          exact absurd (by rw [HP.out, HM.out]; exact HK.out.2.1) hpt
      rw [decide_eq_false hpt] at he
      clear hpt
      go_wp2
      go_quiet (fail)
      obtain ⟨W5, hW5⟩ : ∃ V, V = W.drewN nq := ⟨_, rfl⟩
      have hbd : Below W.heap.size W W5 := by rw [hW5]; exact below_drewN (Below.refl _ _) _
      have hown5 := own_below HW.out.1 hbd
      have hb5 := below_on HW.out.2.1 (Nat.le_refl _) hbd
      have hs5 := hb5.size
      have hs6 := Blk.lt HW.out.2.2
      have hs7 := hbd.size
      have hT5 : PtK W5 (w.heap.size + 1) t := Blk.below HW.out.2.2 hbd (Blk.lt HW.out.2.2)
      replace p1 : W5.cell? (ad.add (M * 2)) = some (.int .i64 P.x) := by rw [hW5]; exact p1
      replace p2 : W5.cell? ⟨(ad.add (M * 2)).block, (ad.add (M * 2)).off + 1, none⟩ = some (.int .i64 P.y) := by rw [hW5]; exact p2
      rw [← hW5]
      clear hW5 hbd t1 t2 he hg
      have HB5 := Lib.hid (And.intro hb5 (And.intro hT5 hown5))
      clear hb5 hT5
      go_wp2_with (at_builtin; refine wpList_append_any _ rfl (.tmp 24) (.tmp 32) _ rfl (w.heap.size + 2) 44 ip _ 2 16 Tryz.underlying23 hip hz0 hz1 hz2 rfl (by omega) (.slice A' k c') k _ rfl (hown5.alloc _) (W5.alloc (.cells #[.int .i64 P.x, .int .i64 P.y] 44)).heap.size (some ⟨W5.heap.size, 0, none⟩) 1 1 (ptsV [P]) rfl (Reads.made W5 _ _ _ 2 1 _ rfl rfl) (ptsV_one _) (by simp only [maxLen]; omega) (by omega) (by simp; omega) ?_; intro v6 w6 hown6 hg6 hat6; have hB6 := (HB5.out.1.alloc hs5 _).grown hg6 (by simp; omega) (fun g hg => by have := (hown5.lt g hg).1; omega); have hT5 := Blk.alloc HB5.out.2.1 (.cells #[.int .i64 P.x, .int .i64 P.y] 44); have hT6 : PtK w6 (w.heap.size + 1) t := (hg6.block _ (Blk.lt hT5) (fun e => by have := (hown5.lt _ e.symm).1; omega)).trans hT5; rw [← ptsV_append, HP.out, HM.out, ← hl, ← wayL_succ] at hown6; obtain ⟨A6, c6, rfl⟩ := own_form hown6; have H6 := Lib.hid (And.intro hown6 (And.intro hB6 hT6)); clear hown6 hB6 hT5 hT6 hg6 hat6 hown5)
      go_roundw
      case rel => exact ⟨k + 1, A6, c6, by omega, by go_num, rfl, H6.out⟩
      case measure => simp [intOf]; omega
end Go.Proofs.YtmegmokjjlelgaaGreat
namespace Go.Proofs.YtmegmokjjlelgaaGreat
/-- The error of what is asked of a cut. -/
noncomputable def faultI (p : Plan) (id : Int) (path : List Pt) (fresh : Int) : Int :=
  if planB p = false then 2 else if atP p.parcels id < 0 then 5 else if idB fresh = false ∨ path.length < 2 ∨ 128 < path.length then 1 else if 0 ≤ atP p.parcels fresh then 6 else if goodL path = false then 3 else
  if ptAt path 0 = ptAt path (path.length - 1) ∨ sideI (pcAt p.parcels (atP p.parcels id).toNat).ring (ptAt path 0) ≠ 0 ∨ sideI (pcAt p.parcels (atP p.parcels id).toNat).ring (ptAt path (path.length - 1)) ≠ 0 then 7 else 0
theorem faultI_zero {p : Plan} {id fresh : Int} {path : List Pt} (h : faultI p id path fresh = 0) : SoundP p ∧ (∃ k : Nat, k < p.parcels.length ∧ atP p.parcels id = (k : Int) ∧ (pcAt p.parcels k).id = id ∧ sideI (pcAt p.parcels k).ring (ptAt path 0) = 0 ∧ sideI (pcAt p.parcels k).ring (ptAt path (path.length - 1)) = 0) ∧ idB fresh = true ∧ 2 ≤ path.length ∧ path.length ≤ 128 ∧ atP p.parcels fresh < 0 ∧ goodL path = true ∧ ptAt path 0 ≠ ptAt path (path.length - 1) := by
  unfold faultI at h
  split at h
  · cases h
  rename_i h1
  split at h
  · cases h
  rename_i h2
  split at h
  · cases h
  rename_i h3
  split at h
  · cases h
  rename_i h4
  split at h
  · cases h
  rename_i h5
  split at h
  · cases h
  rename_i h6
  rcases atP_cases p.parcels id with ⟨e, -⟩ | ⟨k, hk, e, hid⟩
  · omega
  rw [e, Int.toNat_natCast] at h6
  have hs : SoundP p := by
    have : planB p = true := by simpa using h1
    unfold planB at this
    simpa using this
  have hf : idB fresh = true := Classical.byContradiction fun hn => h3 (.inl (by simpa using hn))
  have ha : ¬ path.length < 2 := fun hn => h3 (.inr (.inl hn))
  have hb : ¬ 128 < path.length := fun hn => h3 (.inr (.inr hn))
  refine ⟨hs, ⟨k, hk, e, hid, ?_, ?_⟩, hf, by omega, by omega, by omega, by simpa using h5, fun hn => h6 (.inl hn)⟩
  · exact Classical.byContradiction fun hn => h6 (.inr (.inl hn))
  · exact Classical.byContradiction fun hn => h6 (.inr (.inr hn))
end Go.Proofs.YtmegmokjjlelgaaGreat
namespace Go.Proofs.YtmegmokjjlelgaaGreat
open Go.RowKit Go.Lib
def lst (xs : List Pt) : List Pt := rot (leastN xs xs.length) xs
def eachX (g : List Pt → List Pt) (x : Parc) : Parc := ⟨x.id, lst (g x.ring), x.owner⟩
def eachP (g : List Pt → List Pt) (p : Plan) : Plan := ⟨lst (g p.outer), p.parcels.map (eachX g)⟩
def ringOf (p : Plan) (xs : List Pt) : Prop := xs = p.outer ∨ ∃ x ∈ p.parcels, xs = x.ring
theorem pcAt_each {g : List Pt → List Pt} {p : Plan} {k : Nat} (hk : k < p.parcels.length) : pcAt (eachP g p).parcels k = eachX g (pcAt p.parcels k) := by
  unfold eachP
  rw [pcAt_lt (by simpa using hk), pcAt_lt hk]
  simp
theorem each_outer (g : List Pt → List Pt) (p : Plan) : (eachP g p).outer = lst (g p.outer) := rfl
theorem each_len {g : List Pt → List Pt} {p : Plan} : (eachP g p).parcels.length = p.parcels.length := by unfold eachP; simp
structure EachF (w W : World) (Bq : Nat) (p : Plan) (A : Option Addr) (n c : Nat) (A' : Option Addr) (n' c' k : Nat) (Ao : Option Addr) (no co : Nat) (Ap : Option Addr) (cp : Nat) (hs : List Hd) : Prop where
  bel : Below w.heap.size w W
  pbox : PlK W w.heap.size A n c A' n' c'
  rbox : PlK W (w.heap.size + 1) none 0 0 none 0 0
  qbox : PlK W Bq Ao no co Ap k cp
  hB : w.heap.size + 1 < Bq
  out : W.ownsRow w.heap.size 44 2 (.slice Ao no co) no (ptsV p.outer)
  row : W.ownsRow w.heap.size 40 3 (.slice Ap k cp) k (rowPV (p.parcels.take k) hs)
  len : hs.length = k
  rings : ∀ j, j < k → W.ownsRow w.heap.size 44 2 (.slice (hdAt hs j).1 (hdAt hs j).2.1 (hdAt hs j).2.2) (hdAt hs j).2.1 (ptsV (pcAt p.parcels j).ring)
theorem EachF.on {w W W' : World} {Bq : Nat} {p : Plan} {A A' Ao Ap : Option Addr} {n c n' c' k no co cp : Nat} {hs : List Hd} (h : EachF w W Bq p A n c A' n' c' k Ao no co Ap cp hs) (hb : Below W.heap.size W W') : EachF w W' Bq p A n c A' n' c' k Ao no co Ap cp hs :=
  ⟨below_on h.bel (Nat.le_refl _) hb, h.pbox.on hb, h.rbox.on hb, h.qbox.on hb, h.hB, own_below h.out hb, own_below h.row hb, h.len, fun j hj => own_below (h.rings j hj) hb⟩
theorem EachF.next {w W W' : World} {Bq : Nat} {p : Plan} {A A' Ao Ap A3 Ap' : Option Addr} {n c n' c' k no co cp nk c3 cp' : Nat} {hs : List Hd} (h : EachF w W Bq p A n c A' n' c' k Ao no co Ap cp hs) (hk : k < p.parcels.length)
    (hnew : W.ownsRow w.heap.size 44 2 (.slice A3 nk c3) nk (ptsV (pcAt p.parcels k).ring))
    (hown : W'.ownsRow w.heap.size 40 3 (.slice Ap' (k + 1) cp') (k + 1) (rowPV (p.parcels.take k) hs ++ pcV (pcAt p.parcels k) (A3, nk, c3)))
    (hg : W.grownBy W' (Value.slice Ap k cp).ownBlock) :
    (PlK W' Bq Ao no co Ap k cp) ∧ EachF w (W'.setCell ⟨Bq, 1, none⟩ (.slice Ap' (k + 1) cp')) Bq p A n c A' n' c' (k + 1) Ao no co Ap' cp' (hs ++ [(A3, nk, c3)]) := by
  have hq : PlK W' Bq Ao no co Ap k cp := (hg.block _ (Blk.lt h.qbox) (fun e => own_blk_ne h.row h.qbox (by decide) e.symm)).trans h.qbox
  have hp : PlK W' w.heap.size A n c A' n' c' := (hg.block _ (Blk.lt h.pbox) (fun e => own_blk_ne h.row h.pbox (by decide) e.symm)).trans h.pbox
  have hr : PlK W' (w.heap.size + 1) none 0 0 none 0 0 := (hg.block _ (Blk.lt h.rbox) (fun e => own_blk_ne h.row h.rbox (by decide) e.symm)).trans h.rbox
  have hkeep : ∀ {v : Value} {m : Nat} {xs : List Value}, W.ownsRow w.heap.size 44 2 v m xs → (W'.setCell ⟨Bq, 1, none⟩ (.slice Ap' (k + 1) cp')).ownsRow w.heap.size 44 2 v m xs := fun {v m xs} ho => by
    refine own_heap ho fun g hg' => ?_
    have h1 : g ≠ Bq := fun e => own_blk_ne ho h.qbox (by decide) (by rw [hg', e])
    rw [Below.heap_setCell _ _ _ g h1]
    exact hg.block g (ho.lt g hg').2 (fun e => own_own_ne ho h.row (by decide) hg' e.symm)
  have hB := h.hB
  have hbel : Below w.heap.size w W' := h.bel.grown hg h.bel.size (fun g e => (h.row.lt g e).1)
  refine ⟨hq, ⟨hbel.setCell (p := ⟨Bq, 1, none⟩) (by simp only; omega) _, Blk.far hp (by simp only; omega) _, Blk.far hr (by simp only; omega) _, ?_, hB, hkeep h.out, ?_, by rw [List.length_append, h.len]; rfl, fun j hj => ?_⟩⟩
  · have := Blk.set_ hq 1 (.slice Ap' (k + 1) cp')
    simp only [List.setIfInBounds_toArray, List.set_cons_zero, List.set_cons_succ] at this
    exact this
  · rw [List.take_succ_eq_append_getElem hk, rowPV_snoc _ _ (by rw [h.len, List.length_take]; omega), ← pcAt_lt hk]
    refine own_heap hown fun g hg' => Below.heap_setCell _ _ _ g (fun e => own_blk_ne hown hq (by decide) (by rw [hg', e]))
  · by_cases hjk : j < k
    · rw [hdAt_snoc_lt (by rw [h.len]; exact hjk)]
      exact hkeep (h.rings j hjk)
    · obtain rfl : j = hs.length := by rw [h.len]; omega
      rw [hdAt_snoc_eq, h.len]
      exact hkeep hnew
theorem EachF.own {w W : World} {Bq : Nat} {p : Plan} {A A' Ao Ap : Option Addr} {n c n' c' no co cp : Nat} {hs : List Hd} (h : EachF w W Bq p A n c A' n' c' n' Ao no co Ap cp hs) (hl : p.parcels.length = n') (hf : p.fits) : PlanOwn w.heap.size W Ao no co Ap n' cp p hs := by
  have hrow := h.row
  rw [List.take_of_length_le (by omega)] at hrow
  exact ⟨h.out, hrow, h.len, hl, h.rings, hf⟩
theorem eachStepA {w wr w3 : World} {Bq B3 : Nat} {p : Plan} {A A' Ao Ap A3 Ak : Option Addr} {n c n' c' k no co cp nk ck m c3 : Nat} {hs : List Hd} {x : Parc} {ys : List Pt} (h : EachF w wr Bq p A n c A' n' c' k Ao no co Ap cp hs)
    (hb : Below (wr.heap.size + 1) (wr.alloc (.cells #[.int .i64 x.id, .slice Ak nk ck, .string x.owner] 40)) w3) (hown : w3.ownsRow B3 44 2 (.slice A3 m c3) m (ptsV ys)) (hB : wr.heap.size + 1 ≤ B3) :
    Blk w3 wr.heap.size 40 #[.int .i64 x.id, .slice Ak nk ck, .string x.owner] ∧ EachF w (w3.setCell ⟨wr.heap.size, 1, none⟩ (.slice A3 m c3)) Bq p A n c A' n' c' k Ao no co Ap cp hs ∧ Blk (w3.setCell ⟨wr.heap.size, 1, none⟩ (.slice A3 m c3)) wr.heap.size 40 #[.int .i64 x.id, .slice A3 m c3, .string x.owner] ∧
    (w3.setCell ⟨wr.heap.size, 1, none⟩ (.slice A3 m c3)).ownsRow w.heap.size 44 2 (.slice A3 m c3) m (ptsV ys) := by
  have hx0 := Blk.new wr 40 #[.int .i64 x.id, .slice Ak nk ck, .string x.owner]
  have hx3 : Blk w3 wr.heap.size 40 #[.int .i64 x.id, .slice Ak nk ck, .string x.owner] := hx0.below hb (by omega)
  have hb1 : Below wr.heap.size wr w3 := ((Below.refl _ _).alloc (Nat.le_refl _) _).trans (hb.mono (by omega))
  have hb2 : Below wr.heap.size wr (w3.setCell ⟨wr.heap.size, 1, none⟩ (.slice A3 m c3)) := hb1.setCell (p := ⟨wr.heap.size, 1, none⟩) (Nat.le_refl _) _
  have hx4 := Blk.set_ hx3 1 (.slice A3 m c3)
  simp only [List.setIfInBounds_toArray, List.set_cons_zero, List.set_cons_succ] at hx4
  refine ⟨hx3, h.on hb2, hx4, own_heap (own_mono hown ?_) fun g hg' => Below.heap_setCell _ _ _ g (fun e => own_blk_ne hown hx3 (by decide) (by rw [hg', e]))⟩
  have := h.bel.size
  omega
set_option maxRecDepth 100000 in
set_option maxHeartbeats 3200000 in
theorem eachIns_any (gb : Nat) (g : List Pt → List Pt) (p : Plan) (A A' : Option Addr) (n c n' c' : Nat) (w : World) (h : PlanAt w w.heap.size A n c A' n' c' p) (hfit : (eachP g p).fits) (hgl : ∀ xs, ringOf p xs → (g xs).length ≤ 1048576) (hsm : n' ≤ 1048576)
    (hG : ∀ (V : World) (xs : List Pt) (A : Option Addr) (m cap : Nat), Below w.heap.size w V → Reads V V.heap.size 2 A m (ptsV xs) → m ≤ cap → cap ≤ 9223372036854775807 → ringOf p xs →
      Calls Tryz.prog 102 #[.slice A m cap, .pointer (some ⟨gb, 0, none⟩)] V fun e V' => ∃ A' c', e = .returned (.slice A' (g xs).length c') ∧ (Reads V' V'.heap.size 2 A' (g xs).length (ptsV (g xs)) ∧ (g xs).length ≤ c' ∧ c' ≤ 9223372036854775807) ∧ Below V.heap.size V V') :
    Calls Tryz.prog 105 #[planV A n c A' n' c', .func (.func 102) #[] #[.pointer (some ⟨gb, 0, none⟩)]] w (OwnPostS (eachP g p) w) := by
  obtain ⟨hl1, hl2, hl3, hl4⟩ := h.lens
  obtain ⟨i1, hi1, hy0, hy1, hy2⟩ := info_parts info_pc
  obtain ⟨wa, hwa⟩ : ∃ wa : World, wa = (w.alloc (.cells #[.slice A n c, .slice A' n' c'] 26)).alloc (.cells #[.slice none 0 0, .slice none 0 0] 26) := ⟨_, rfl⟩
  have hsa : wa.heap.size = w.heap.size + 1 + 1 := by rw [hwa]; simp
  have hB0 : Below w.heap.size w wa := by rw [hwa]; exact ((Below.refl _ _).alloc (Nat.le_refl _) _).alloc (by simp) _
  have hK0 : PlK wa w.heap.size A n c A' n' c' := by rw [hwa]; exact Blk.alloc (PlK.new w A n c A' n' c') _
  have hR0 : PlK wa (w.heap.size + 1) none 0 0 none 0 0 := by
    rw [hwa]
    have := PlK.new (w.alloc (.cells #[.slice A n c, .slice A' n' c'] 26)) none 0 0 none 0 0
    rw [World.size_alloc] at this
    exact this
  have KG := Lib.hid (hG wa p.outer A n c hB0 (h.on hB0).outer h.oc.1 h.oc.2 (.inl rfl))
  have H0 := Lib.hid (And.intro hB0 (And.intro hK0 (And.intro hR0 hsa)))
  have HP := Lib.hid h
  have HL := Lib.hid (And.intro hl2 (And.intro hfit (And.intro hgl hG)))
  obtain ⟨q1, q2, -⟩ := hK0.facts
  clear h hl1 hl2 hB0 hK0 hR0 hsa hfit hgl hG
  go_enter Tryz.func105, Tryz.ntmps105
  go_upto_region 1 with fail
  rw [← hwa]
  clear hwa
  go_wp2_with fail
  refine KG.out.mono ?_
  rintro e w1 ⟨A1, c1, rfl, ⟨hr1, hc1, hc1'⟩, hb1⟩
  have KL := Lib.hid (leastP_any (g p.outer) A1 _ c1 w1 hr1 hc1 (HL.out.2.2.1 _ (.inl rfl)))
  have HB1 := Lib.hid hb1
  obtain ⟨no, hno⟩ : ∃ no, no = (g p.outer).length := ⟨_, rfl⟩
  rw [← hno] at KL
  rw [← hno]
  have HNO := Lib.hid hno
  clear hno
  clear hr1 hc1 hc1' hb1 KG q1 q2
  go_wp2_with fail
  refine KL.out.mono ?_
  rintro e w2 ⟨Ao, co, rfl, ho2, hb2⟩
  have hb2' : Below wa.heap.size wa w2 := HB1.out.trans (hb2.mono HB1.out.size)
  have hF0 : EachF w (w2.alloc (.cells #[.slice Ao no co, .slice none 0 0] 26)) w2.heap.size (eachP g p) A n c A' n' c' 0 Ao no co none 0 [] := by
    have hba : Below w2.heap.size w2 (w2.alloc (.cells #[.slice Ao no co, .slice none 0 0] 26)) := (Below.refl _ _).alloc (Nat.le_refl _) _
    have h1 := H0.out.2.2.2
    have h2 := hb2'.size
    have h3 := HB1.out.size
    have hx : (eachP g p).outer = rot (leastN (g p.outer) no) (g p.outer) := by rw [each_outer]; unfold lst; rw [HNO.out]
    have hrow : (w2.alloc (.cells #[.slice Ao no co, .slice none 0 0] 26)).ownsRow w.heap.size 44 2 (.slice Ao no co) no (ptsV (eachP g p).outer) := by
      rw [hx]
      exact own_below (own_mono ho2 (by omega)) hba
    have e1 := below_on (below_on H0.out.1 (Nat.le_refl _) hb2') (Nat.le_refl _) hba
    have e2 := (H0.out.2.1.on hb2').on hba
    have e3 := (H0.out.2.2.1.on hb2').on hba
    have e4 : w.heap.size + 1 < w2.heap.size := by omega
    exact ⟨e1, e2, e3, PlK.new w2 Ao no co none 0 0, e4, hrow, World.ownsRow_nil _ _ _ _, rfl, fun j hj => absurd hj (Nat.not_lt_zero _)⟩
  obtain ⟨Bq, hBq⟩ : ∃ Bq, Bq = w2.heap.size := ⟨_, rfl⟩
  obtain ⟨wq, hwq⟩ : ∃ wq, wq = w2.alloc (.cells #[.slice Ao no co, .slice none 0 0] 26) := ⟨_, rfl⟩
  rw [← hBq, ← hwq] at hF0
  have HF0 := Lib.hid hF0
  obtain ⟨q1, q2, -⟩ := hF0.pbox.facts
  clear hF0 hb2' hb2 ho2 KL HB1 H0 HNO
  go_upto_region 2 with fail
  rw [← hBq, ← hwq]
  clear hBq hwq
  go_wp2_with fail
  clear q1 q2
  go_loopw [17] (fun i wr => ∃ (k : Nat) (Ap : Option Addr) (cp : Nat) (hs : List Hd), k ≤ n' ∧ i = .int .i64 (k : Int) ∧ EachF w wr Bq (eachP g p) A n c A' n' c' k Ao no co Ap cp hs) (fun i _ => n' - (intOf i).toNat)
  case atStart => exact ⟨0, none, 0, [], Nat.zero_le _, rfl, HF0.out⟩
  case round =>
    clear HF0
    obtain ⟨k, Ap, cp, hs, hk, rfl, hF⟩ := hrel
    by_cases hlt : k < n'
    · have hlt' : (k : Int) < (n' : Int) := by omega
      have hw1 : IntKind.i64.wrap ((k : Int) + 1) = (k : Int) + 1 := by rw [IntKind.wrap_i64]; omega
      obtain ⟨ad, rfl⟩ := HP.out.parcs.some_ (by omega)
      obtain ⟨had, p1, ⟨Ak, nk, ck, p2, hrk, hk1, hk2⟩, p3⟩ := (HP.out.parcs.below hF.bel).at_ hlt
      have hlk : k < p.parcels.length := by have := HL.out.1; omega
      obtain ⟨x, hx⟩ : ∃ x, x = pcAt p.parcels k := ⟨_, rfl⟩
      have hpx : pcAt (eachP g p).parcels k = eachX g x := by rw [pcAt_each hlk, hx]
      rw [← hx] at p1 p3 hrk
      have hxr : ringOf p x.ring := .inr ⟨x, by rw [hx, pcAt_lt hlk]; exact List.getElem_mem _, rfl⟩
      obtain ⟨wb, hwb⟩ : ∃ wb, wb = wr.alloc (.cells #[.int .i64 x.id, .slice Ak nk ck, .string x.owner] 40) := ⟨_, rfl⟩
      have hbb : Below wr.heap.size wr wb := by rw [hwb]; exact (Below.refl _ _).alloc (Nat.le_refl _) _
      have hsb : wb.heap.size = wr.heap.size + 1 := by rw [hwb]; simp
      have hX : PcK wb wr.heap.size x Ak nk ck := by rw [hwb]; exact PcK.new wr x Ak nk ck
      have KG := Lib.hid (HL.out.2.2.2 wb x.ring Ak nk ck (below_on hF.bel (Nat.le_refl _) hbb) ((hrk.more hF.bel.size).on hbb) hk1 hk2 hxr)
      have hgm := HL.out.2.2.1 _ hxr
      have HF := Lib.hid (And.intro hF (And.intro hpx hwb))
      have HG := Lib.hid (And.intro hgm hsb)
      obtain ⟨-, x1, -, -⟩ := hX.facts
      clear hF hpx hrk hlk hxr hbb hX hgm hsb hx hk1 hk2
      go_upto_region 5 with fail
      rw [← hwb]
      clear hwb p1 p2 p3 had
      obtain ⟨Bx, hBx⟩ : ∃ Bx, Bx = wr.heap.size := ⟨_, rfl⟩
      rw [← hBx] at x1
      rw [← hBx]
      have HBx := Lib.hid hBx
      clear hBx
      go_wp2_with fail
      refine KG.out.mono ?_
      rintro e w2 ⟨A2, c2, rfl, ⟨hr2, hc2, hc2'⟩, hb2⟩
      have KL := Lib.hid (leastP_any (g x.ring) A2 _ c2 w2 hr2 hc2 HG.out.1)
      have HB2 := Lib.hid hb2
      obtain ⟨m, hm⟩ : ∃ m, m = (g x.ring).length := ⟨_, rfl⟩
      rw [← hm] at KL
      rw [← hm]
      have HM := Lib.hid hm
      clear hr2 hc2 hc2' hb2 KG x1 hm
      go_wp2_with fail
      refine KL.out.mono ?_
      rintro e w3 ⟨A3, c3, rfl, ho3, hb3⟩
      have hbw : Below (wr.heap.size + 1) (wr.alloc (.cells #[.int .i64 x.id, .slice Ak nk ck, .string x.owner] 40)) w3 := by
        rw [← HF.out.2.2, ← HG.out.2]
        exact HB2.out.trans (hb3.mono HB2.out.size)
      have hrr : eachX g x = ⟨x.id, rot (leastN (g x.ring) m) (g x.ring), x.owner⟩ := by unfold eachX lst; rw [HM.out]
      obtain ⟨z0, hF3, hx3, hr3⟩ := eachStepA HF.out.1 hbw ho3 (by have := HB2.out.size; have := HG.out.2; omega)
      rw [← HBx.out] at z0 hF3 hx3 hr3
      have z1 : w3.cell? ⟨Bx, 1, none⟩ = some (.slice Ak nk ck) := by rw [Blk.cell z0]; rfl
      have z2 := Blk.frozen z0 1
      obtain ⟨V3, hV3⟩ : ∃ V, V = w3.setCell ⟨Bx, 1, none⟩ (.slice A3 m c3) := ⟨_, rfl⟩
      rw [← hV3] at hF3 hx3 hr3
      have hV4 := hV3.symm
      have y1 : V3.cell? ⟨Bq, 1, none⟩ = some (.slice Ap k cp) := hF3.qbox.facts.2.1
      have y2 : V3.cell? ⟨Bx, 0, none⟩ = some (.int .i64 x.id) := by rw [Blk.cell hx3]; rfl
      have y3 : V3.cell? ⟨Bx, 1, none⟩ = some (.slice A3 m c3) := by rw [Blk.cell hx3]; rfl
      have y4 : V3.cell? ⟨Bx, 2, none⟩ = some (.string x.owner) := by rw [Blk.cell hx3]; rfl
      have HF3 := Lib.hid (And.intro hF3 (And.intro hr3 (And.intro HF.out.2.1 hrr)))
      clear hF3 hr3 hx3 z0 hV3 hrr hbw hb3 ho3 KL HB2
      go_wp2_with (at_builtin
                   refine wpList_append_any _ rfl (.tmp 28) (.tmp 30) _ rfl w.heap.size 40 i1 _ 3 48 Tryz.underlying24 hi1 hy0 hy1 hy2 rfl (by omega) (.slice Ap k cp) k _ rfl (HF3.out.1.on (W' := V3.alloc (.cells #[.int .i64 x.id, .slice A3 m c3, .string x.owner] 40)) ((Below.refl _ _).alloc (Nat.le_refl _) _)).row _ (some ⟨V3.heap.size, 0, none⟩) 1 1 (pcV x (A3, m, c3)) rfl (Reads.made V3 #[.int .i64 x.id, .slice A3 m c3, .string x.owner] 40 (0, 0) 3 1 (pcV x (A3, m, c3)) rfl rfl) (by intro u hu; simp [pcV] at hu; rcases hu with rfl | rfl | rfl <;> rfl) (by simp only [maxLen]; omega) (by omega) (by have := HF3.out.1.bel.size; rw [World.size_alloc]; omega) ?_
                   intro v5 w5 hown5 hg5 hat5
                   obtain ⟨Ap', cp', rfl⟩ := own_form hown5
                   have hr3 := HF3.out.2.1
                   have hpx := HF3.out.2.2.1.trans HF3.out.2.2.2
                   have hpv : pcV x (A3, m, c3) = pcV (pcAt (eachP g p).parcels k) (A3, m, c3) := (by rw [hpx]; rfl)
                   have hri : rot (leastN (g x.ring) m) (g x.ring) = (pcAt (eachP g p).parcels k).ring := (by rw [hpx])
                   rw [hpv] at hown5
                   rw [hri] at hr3
                   have hba : Below V3.heap.size V3 (V3.alloc (.cells #[.int .i64 x.id, .slice A3 m c3, .string x.owner] 40)) := (Below.refl _ _).alloc (Nat.le_refl _) _
                   obtain ⟨zq, hF5⟩ := EachF.next (HF3.out.1.on hba) (by rw [each_len]; have := HL.out.1; omega) (own_below hr3 hba) hown5 hg5
                   have y5 : w5.cell? ⟨Bq, 1, none⟩ = some (.slice Ap k cp) := zq.facts.2.1
                   have y6 := Blk.frozen zq 1
                   have HF5 := Lib.hid hF5
                   clear hr3 hba zq hF5 hown5 hg5 hat5 hpx hpv hri)
      go_roundw
      case rel => exact ⟨k + 1, Ap', cp', hs ++ [(A3, m, c3)], by omega, by go_num, HF5.out⟩
      case measure => simp [intOf]; omega
    · have hkn : k = n' := by omega
      subst hkn
      obtain ⟨y1, y2, -⟩ := hF.qbox.facts
      obtain ⟨y3, y4, -⟩ := hF.rbox.facts
      have f1 := Blk.frozen hF.rbox 0
      have f2 := Blk.frozen hF.rbox 1
      have hpo := ((hF.own (by rw [each_len]; exact HL.out.1) HL.out.2.1).store hF.rbox (by decide) (by decide) 0 (.slice Ao no co)).store (Blk.set_ hF.rbox 0 (.slice Ao no co)) (by decide) (by decide) 1 (.slice Ap k cp)
      have hB5 := (hF.bel.setCell (p := ⟨w.heap.size + 1, 0, none⟩) (by simp) (.slice Ao no co)).setCell (p := ⟨w.heap.size + 1, 1, none⟩) (by simp) (.slice Ap k cp)
      have hR5 := Blk.set_ (Blk.set_ hF.rbox 0 (.slice Ao no co)) 1 (.slice Ap k cp)
      have HZ := Lib.hid (And.intro hpo (And.intro hB5 hR5))
      clear hpo hB5 hR5 hF
      go_wp2_with fail
      obtain ⟨hpo, hB5, hR5⟩ := HZ.out
      clear y1 y2 y3 y4 f1 f2 HZ
      generalize (wr.setCell ⟨w.heap.size + 1, 0, none⟩ (.slice Ao no co)).setCell ⟨w.heap.size + 1, 1, none⟩ (.slice Ap k cp) = V at *
      have r1 : V.cell? ⟨w.heap.size + 1, 0, none⟩ = some (.slice Ao no co) := by rw [Blk.cell hR5]; rfl
      have r2 : V.cell? ⟨w.heap.size + 1, 1, none⟩ = some (.slice Ap k cp) := by rw [Blk.cell hR5]; rfl
      refine bodyPost_ret (v := planV Ao no co Ap k cp) ?_ rfl ⟨Ao, no, co, Ap, k, cp, hs, rfl, hpo, hB5⟩
      simp [results, Tryz.results105, go_sem, r1, r2]
end Go.Proofs.YtmegmokjjlelgaaGreat
namespace Go.Proofs.YtmegmokjjlelgaaGreat
open Go.RowKit Go.Lib
theorem ptAt_mem {xs : List Pt} {k : Nat} (h : k < xs.length) : ptAt xs k ∈ xs := by rw [ptAt_lt h]; exact List.getElem_mem h
theorem insG_mem {q : Pt} {xs : List Pt} {r : Pt} (h : r ∈ insG q xs) : r ∈ xs ∨ r = q := by
  unfold insG insL at h
  obtain ⟨k, hk, h2⟩ := List.mem_flatMap.1 h
  rw [List.mem_range] at hk
  unfold insK at h2
  rcases List.mem_cons.1 h2 with h3 | h3
  · exact .inl (by rw [h3]; exact ptAt_mem hk)
  · split at h3
    · exact .inr (List.mem_singleton.1 h3)
    · exact absurd h3 List.not_mem_nil
theorem leastN_le' (xs : List Pt) : leastN xs xs.length ≤ xs.length := leastN_le xs xs.length
theorem lst_mem {xs : List Pt} {r : Pt} (h : r ∈ lst xs) : r ∈ xs := rot_mem h
theorem lst_len (xs : List Pt) : (lst xs).length = xs.length := by unfold lst; exact rot_len (leastN_le' xs)
theorem each_fits {g : List Pt → List Pt} {p : Plan} (h : p.fits) (hg : ∀ xs, ringOf p xs → (g xs).length ≤ 1048576 ∧ ∀ r ∈ g xs, r.inI) : (eachP g p).fits := by
  have h0 := hg _ (.inl rfl)
  refine ⟨⟨?_, fun r hr => h0.2 r (lst_mem hr)⟩, by rw [each_len]; exact h.2.1, fun x hx => ?_⟩
  · rw [each_outer, lst_len]; omega
  · unfold eachP at hx
    obtain ⟨y, hy, rfl⟩ := List.mem_map.1 hx
    have hy1 := hg _ (.inr ⟨y, hy, rfl⟩)
    have hy2 := h.2.2 y hy
    refine ⟨?_, fun r hr => hy1.2 r (lst_mem hr), hy2.2.2.1, hy2.2.2.2⟩
    show (lst (g y.ring)).length ≤ _
    rw [lst_len]; omega
theorem sound_ring {p : Plan} {xs : List Pt} (hs : SoundP p) (h : ringOf p xs) : goodL xs = true ∧ xs.length ≤ 128 ∧ 3 ≤ xs.length ∧ checkI xs = 0 := by
  have hc : checkI xs = 0 := by
    rcases h with rfl | ⟨x, hx, rfl⟩
    · exact hs.2.1.1
    · exact (hs.2.2.1 x hx).1
  obtain ⟨h1, h2, h3, -⟩ := checkI_zero hc
  exact ⟨h2, h1, h3, hc⟩
theorem good_in2 {q : Pt} (h : good q = true) : q.inI := by unfold good at h; unfold Pt.inI; simp at h; omega
theorem insW_fits {p : Plan} {q : Pt} (hs : ∀ xs, ringOf p xs → goodL xs = true ∧ xs.length ≤ 1024) (hf : p.fits) (hq : good q = true) : (eachP (insG q) p).fits := by
  refine each_fits hf fun xs hx => ?_
  obtain ⟨h1, h2⟩ := hs xs hx
  refine ⟨by have := insG_len q xs; omega, fun r hr => ?_⟩
  rcases insG_mem hr with h | rfl
  · exact good_in2 (goodL_mem h1 h)
  · exact good_in2 hq
theorem sound_rings {p : Plan} (hs : SoundP p) : ∀ xs, ringOf p xs → goodL xs = true ∧ xs.length ≤ 1024 := fun xs hx => by
  obtain ⟨h1, h2, -⟩ := sound_ring hs hx
  exact ⟨h1, by omega⟩
theorem ins_fits {p : Plan} {q : Pt} (hs : SoundP p) (hf : p.fits) (hq : good q = true) : (eachP (insG q) p).fits := insW_fits (sound_rings hs) hf hq
set_option maxRecDepth 100000 in
set_option maxHeartbeats 800000 in
theorem insertW_any (p : Plan) (q : Pt) (A A' : Option Addr) (n c n' c' : Nat) (w : World) (h : PlanAt w w.heap.size A n c A' n' c' p) (hs : ∀ xs, ringOf p xs → goodL xs = true ∧ xs.length ≤ 1024) (hn' : n' ≤ 1048576) (hq : good q = true) :
    Calls Tryz.prog 60 #[planV A n c A' n' c', .agg #[.int .i64 q.x, .int .i64 q.y]] w (OwnPostS (eachP (insG q) p) w) := by
  obtain ⟨wa, hwa⟩ : ∃ wa : World, wa = ((w.alloc (.cells #[.slice A n c, .slice A' n' c'] 26)).alloc (.cells #[.int .i64 q.x, .int .i64 q.y] 44)).alloc (.cells #[.slice none 0 0, .slice none 0 0] 26) := ⟨_, rfl⟩
  have hB0 : Below w.heap.size w wa := by rw [hwa]; exact (((Below.refl _ _).alloc (Nat.le_refl _) _).alloc (by simp) _).alloc (by simp; omega) _
  have hX : PlK wa w.heap.size A n c A' n' c' := by rw [hwa]; exact Blk.alloc (Blk.alloc (PlK.new w A n c A' n' c') _) _
  have hY : PtK wa (w.heap.size + 1) q := by
    have := PtK.new (w.alloc (.cells #[.slice A n c, .slice A' n' c'] 26)) q
    rw [World.size_alloc] at this
    rw [hwa]
    exact Blk.alloc this _
  have hZ : PlK wa (w.heap.size + 1 + 1) none 0 0 none 0 0 := by
    have := PlK.new ((w.alloc (.cells #[.slice A n c, .slice A' n' c'] 26)).alloc (.cells #[.int .i64 q.x, .int .i64 q.y] 44)) none 0 0 none 0 0
    rw [World.size_alloc, World.size_alloc] at this
    rw [hwa]
    exact this
  have hP := h.on hB0
  have hylt := Blk.lt hY
  have KE := Lib.hid (eachIns_any (w.heap.size + 1) (insG q) p A A' n c n' c' wa hP (insW_fits hs h.fits hq) (fun xs hx => by have := (hs xs hx).2; have := insG_len q xs; omega) hn'
    (fun V xs B m cap hV hr hm hc hx => by
      obtain ⟨h1, h2⟩ := hs xs hx
      exact insert1_any (w.heap.size + 1) q xs B m cap V hr (by have := hr.lenPt; omega) h1 hq (Blk.below hY hV hylt)))
  obtain ⟨q1, q2, q3⟩ := hX.facts
  have H0 := Lib.hid (And.intro hB0 hZ)
  clear hB0 hX hY hZ hP h hs hq hn' hylt
  go_enter Tryz.func60, Tryz.ntmps60
  go_upto_region 1 with fail
  rw [← hwa]
  clear hwa
  go_wp2_with fail
  refine KE.out.mono ?_
  rintro e w1 ⟨A1, n1, c1, A2, n2, c2, hs, rfl, hpo, hb1⟩
  have hZ1 := H0.out.2.on hb1
  have hB1 := below_on H0.out.1 (Nat.le_refl _) hb1
  have hpo2 := ((hpo.mono H0.out.1.size).store hZ1 (by decide) (by decide) 0 (.slice A1 n1 c1)).store (Blk.set_ hZ1 0 (.slice A1 n1 c1)) (by decide) (by decide) 1 (.slice A2 n2 c2)
  have hB5 := (hB1.setCell (p := ⟨w.heap.size + 1 + 1, 0, none⟩) (by simp only; omega) (.slice A1 n1 c1)).setCell (p := ⟨w.heap.size + 1 + 1, 1, none⟩) (by simp only; omega) (.slice A2 n2 c2)
  have hR5 := Blk.set_ (Blk.set_ hZ1 0 (.slice A1 n1 c1)) 1 (.slice A2 n2 c2)
  obtain ⟨y1, y2, -⟩ := hZ1.facts
  have f1 := Blk.frozen hZ1 0
  have f2 := Blk.frozen hZ1 1
  have HZ := Lib.hid (And.intro hpo2 (And.intro hB5 hR5))
  clear hpo hb1 hZ1 hB1 hpo2 hB5 hR5 KE H0 q1 q2 q3
  go_wp2_with fail
  obtain ⟨hpo, hB5, hR5⟩ := HZ.out
  clear y1 y2 f1 f2 HZ
  generalize (w1.setCell ⟨w.heap.size + 1 + 1, 0, none⟩ (.slice A1 n1 c1)).setCell ⟨w.heap.size + 1 + 1, 1, none⟩ (.slice A2 n2 c2) = V at *
  have r1 : V.cell? ⟨w.heap.size + 1 + 1, 0, none⟩ = some (.slice A1 n1 c1) := by rw [Blk.cell hR5]; rfl
  have r2 : V.cell? ⟨w.heap.size + 1 + 1, 1, none⟩ = some (.slice A2 n2 c2) := by rw [Blk.cell hR5]; rfl
  refine bodyPost_ret (v := planV A1 n1 c1 A2 n2 c2) ?_ rfl ⟨A1, n1, c1, A2, n2, c2, hs, rfl, hpo, hB5⟩
  simp [results, Tryz.results60, go_sem, r1, r2]
end Go.Proofs.YtmegmokjjlelgaaGreat
namespace Go.Proofs.YtmegmokjjlelgaaGreat
open Go.RowKit
theorem planE_b0 {p : Plan} (h : planB p = false) : planE p = 2 := by unfold planE; rw [h]; rfl
theorem planE_b1 {p : Plan} (h : planB p = true) : planE p = 0 := by unfold planE; rw [h]; rfl
theorem planB_sound {p : Plan} (h : planB p = true) : SoundP p := by unfold planB at h; simpa using h
end Go.Proofs.YtmegmokjjlelgaaGreat
namespace Go.Proofs.YtmegmokjjlelgaaGreat
open Go.RowKit
section
variable {w w' : World} {B B' size n : Nat} {A : Option Addr} {xs : List Value}
end

section
variable {w w' : World} {g : Nat} {t : TypeId} {cs : Array Value}
end

section
variable {P : Program} (w : World)

end

end Go.Proofs.YtmegmokjjlelgaaGreat
namespace Go.Proofs.YtmegmokjjlelgaaGreat
open Go.RowKit
end Go.Proofs.YtmegmokjjlelgaaGreat
namespace Go.Proofs.YtmegmokjjlelgaaGreat
open Go.RowKit
end Go.Proofs.YtmegmokjjlelgaaGreat
namespace Go.Proofs.YtmegmokjjlelgaaGreat
open Go.RowKit
end Go.Proofs.YtmegmokjjlelgaaGreat
namespace Go.Proofs.YtmegmokjjlelgaaGreat
open Go.RowKit
end Go.Proofs.YtmegmokjjlelgaaGreat
namespace Go.Proofs.YtmegmokjjlelgaaGreat
open Go.RowKit
end Go.Proofs.YtmegmokjjlelgaaGreat
namespace Go.Proofs.YtmegmokjjlelgaaGreat
open Go.RowKit
end Go.Proofs.YtmegmokjjlelgaaGreat
namespace Go.Proofs.YtmegmokjjlelgaaGreat
open Go.RowKit
end Go.Proofs.YtmegmokjjlelgaaGreat
namespace Go.Proofs.YtmegmokjjlelgaaGreat
open Go.RowKit Go.WideShapes Go.ChangeShapes Go.Deep
section
variable {H : Type} {enc : TypeId × Value → H} {P : Program} {w : World} {base : Nat} {spare : Nat → Bool} {held : Bool}
end

section
variable {H : Type} {enc : TypeId × Value → H} {P : Program}
end
end Go.Proofs.YtmegmokjjlelgaaGreat
namespace Go.Proofs.YtmegmokjjlelgaaGreat
open Go.RowKit Go.WideShapes Go.ChangeShapes Go.Deep Go.ChangeAt
section
variable {H : Type} {enc : TypeId × Value → H} {P : Program}
end
end Go.Proofs.YtmegmokjjlelgaaGreat
namespace Go.Proofs.YtmegmokjjlelgaaGreat
open Go.RowKit Go.WideShapes Go.ChangeShapes Go.Deep Go.ChangeAt Go.Joins
section
variable {H : Type} {enc : TypeId × Value → H}
end
end Go.Proofs.YtmegmokjjlelgaaGreat
namespace Go.Proofs.YtmegmokjjlelgaaGreat
open Go.RowKit Go.WideShapes Go.ChangeShapes Go.Deep Go.ChangeAt Go.Joins
section
variable {H : Type} {enc : TypeId × Value → H}
end
end Go.Proofs.YtmegmokjjlelgaaGreat
namespace Go.Proofs.YtmegmokjjlelgaaGreat
open Go.RowKit Go.WideShapes Go.ChangeShapes Go.Deep Go.ChangeAt Go.Joins
section
variable {H : Type} {enc : TypeId × Value → H}
set_option maxRecDepth 100000 in
theorem open_ring {W : World} {base : Nat} {v : Value} {d : DataW H} {ps : List MemPlace} (hv : Value.okWide Tryz.prog W .any base 23 v) (h : DataW.Trod enc Tryz.prog W 0 (fun _ => true) true 23 v d ps)
    (hs : ∀ elems spare : List (DataW H), d = .slice elems spare → (elems.length + spare.length) * Tryz.prog.bytesOf 44 ≤ reachBytes) :
    ∃ (xs : List Pt) (A : Option Addr) (cap : Nat), v = .slice A xs.length cap ∧ Reads W W.heap.size 2 A xs.length (ptsV xs) ∧ xs.length ≤ 8796093022208 ∧ xs.length ≤ cap ∧ cap ≤ 9223372036854775807 ∧ ∀ p ∈ xs, p.inI := by
  obtain ⟨a0, len, cap, rfl⟩ := okWide_slice Tryz.underlying23 hv
  obtain ⟨fuel, hf⟩ := h
  rcases open_slice_pairs Tryz.underlying23 Tryz.underlying44 (by kernel_rfl) (by kernel_rfl) (by kernel_rfl) (by kernel_rfl) (by kernel_rfl) hf with ⟨hcs, hx⟩ | ⟨a, len', cap', m, n, V0, V1, D0, D1, P0, P1, hcs, _, hl, hm, hmm, hx, hcell⟩
  · simp [Value.cells] at hcs
    obtain ⟨rfl, rfl, rfl⟩ := hcs
    exact ⟨[], none, 0, rfl, Reads.none_, by simp, by simp, by simp, by simp⟩
  · simp [Value.cells] at hcs
    obtain ⟨rfl, rfl, rfl⟩ := hcs
    simp only [Prod.mk.injEq] at hx
    have hlm : len ≤ m := by rw [hmm]; split <;> omega
    have each : ∀ i, i < len → ∃ p : Pt, W.cell? (a.add (i * 2)) = some (.int .i64 p.x) ∧ W.cell? (a.add (i * 2 + 1)) = some (.int .i64 p.y) ∧ p.inI := by
      intro i hi
      obtain ⟨h0, h1, h2, h3⟩ := hcell i (by omega)
      obtain ⟨x, e0, _, wa⟩ := DataW.trod_int Tryz.underlying3 h2
      obtain ⟨z, e1, _, wb⟩ := DataW.trod_int Tryz.underlying3 h3
      simp at e0 e1
      rw [e0] at h0
      rw [e1] at h1
      exact ⟨⟨x, z⟩, h0, h1, bounds_i64 wa, bounds_i64 wb⟩
    have hall : ∃ f : Nat → Pt, ∀ i, i < len → W.cell? (a.add (i * 2)) = some (.int .i64 (f i).x) ∧ W.cell? (a.add (i * 2 + 1)) = some (.int .i64 (f i).y) ∧ (f i).inI := by
      refine ⟨fun i => if hi : i < len then (each i hi).choose else ⟨0, 0⟩, fun i hi => ?_⟩
      simp only [dif_pos hi]
      exact (each i hi).choose_spec
    obtain ⟨f, hff⟩ := hall
    have hlen : ((List.range len).map f).length = len := by simp
    refine ⟨(List.range len).map f, some a, cap, by rw [hlen], ⟨ptsV_length _, fun hn => ⟨a, rfl, ?_, ?_⟩⟩, ?_, by rw [hlen]; exact hl, hm, ?_⟩
    · rw [hlen] at hn
      have := cell_lt (hff 0 hn).1
      rwa [block_of_add] at this
    · intro j u hu
      have hj : j < ((List.range len).map f).length * 2 := by rw [← ptsV_length]; exact (List.getElem?_eq_some_iff.1 hu).1
      have hj2 : j / 2 < ((List.range len).map f).length := by omega
      have hg := ptsV_get _ (j / 2) hj2
      have hfj := hff (j / 2) (by rw [← hlen]; exact hj2)
      simp only [List.getElem_map, List.getElem_range] at hg
      have hm2 : j % 2 = 0 ∨ j % 2 = 1 := by omega
      rcases hm2 with hm2 | hm2
      · have e : j / 2 * 2 = j := by omega
        rw [e] at hg hfj
        rw [hfj.1, ← hg.1, hu]
      · have e : j / 2 * 2 + 1 = j := by omega
        rw [e] at hg hfj
        rw [hfj.2.1, ← hg.2, hu]
    · rw [hlen]
      have := hs _ _ hx.1
      rw [show Tryz.prog.bytesOf 44 = 16 from by kernel_rfl] at this
      simp only [List.length_map, List.length_range, reachBytes] at this
      omega
    · intro p hp
      simp only [List.mem_map, List.mem_range] at hp
      obtain ⟨i, hi, rfl⟩ := hp
      exact (hff i hi).2.2
end
end Go.Proofs.YtmegmokjjlelgaaGreat
namespace Go.Proofs.YtmegmokjjlelgaaGreat
theorem sgn_gt {z : Int} : 0 < sgn z ↔ 0 < z := by unfold sgn; split <;> (try split) <;> omega
end Go.Proofs.YtmegmokjjlelgaaGreat
namespace Go.Proofs.YtmegmokjjlelgaaGreat
end Go.Proofs.YtmegmokjjlelgaaGreat
namespace Go.Proofs.YtmegmokjjlelgaaGreat
end Go.Proofs.YtmegmokjjlelgaaGreat
namespace Go.Proofs.YtmegmokjjlelgaaGreat
/-- A point of a stretch that lies on another one, between two corners. -/
theorem on_param {a b c : Pt} (h : onB a b c = true) : ∃ N t : Int, 0 < N ∧ 0 ≤ t ∧ t ≤ N ∧ (N - t) * a.x + t * b.x = N * c.x ∧ (N - t) * a.y + t * b.y = N * c.y := by
  rw [onB_iff] at h
  obtain ⟨z, hx, hy⟩ := h
  unfold cr at z
  by_cases h1 : a.x = b.x
  · by_cases h2 : a.y = b.y
    · exact ⟨1, 0, by omega, by omega, by omega, by omega, by omega⟩
    · have hc : c.x = a.x := by omega
      by_cases h3 : a.y < b.y
      · refine ⟨b.y - a.y, c.y - a.y, by omega, by omega, by omega, ?_, ?_⟩
        · rw [hc, h1]; grind
        · grind
      · refine ⟨a.y - b.y, a.y - c.y, by omega, by omega, by omega, ?_, ?_⟩
        · rw [hc, h1]; grind
        · grind
  · by_cases h3 : a.x < b.x
    · refine ⟨b.x - a.x, c.x - a.x, by omega, by omega, by omega, ?_, ?_⟩ <;> grind
    · refine ⟨a.x - b.x, a.x - c.x, by omega, by omega, by omega, ?_, ?_⟩ <;> grind
theorem conv_le {A B p q m : Int} (hA : 0 ≤ A) (hB : 0 ≤ B) (h1 : p ≤ m) (h2 : q ≤ m) : A * p + B * q ≤ (A + B) * m := by
  have := Int.mul_le_mul_of_nonneg_left h1 hA
  have := Int.mul_le_mul_of_nonneg_left h2 hB
  rw [Int.add_mul]
  omega
theorem conv_ge {A B p q m : Int} (hA : 0 ≤ A) (hB : 0 ≤ B) (h1 : m ≤ p) (h2 : m ≤ q) : (A + B) * m ≤ A * p + B * q := by
  have := Int.mul_le_mul_of_nonneg_left h1 hA
  have := Int.mul_le_mul_of_nonneg_left h2 hB
  rw [Int.add_mul]
  omega
end Go.Proofs.YtmegmokjjlelgaaGreat
namespace Go.Proofs.YtmegmokjjlelgaaGreat
open Go.RowKit
end Go.Proofs.YtmegmokjjlelgaaGreat
namespace Go.Proofs.YtmegmokjjlelgaaGreat
end Go.Proofs.YtmegmokjjlelgaaGreat
namespace Go.Proofs.YtmegmokjjlelgaaGreat
theorem touch_iff (a b c d : Pt) : 0 < meetR a b c d ↔ Touch a b c d := by
  rw [meetR_pos]
  unfold Touch endsL
  cases onB c d a <;> cases onB c d b <;> cases onB a b c <;> cases onB a b d <;> simp
theorem mul_le {N x y : Int} (hN : 0 < N) : N * x ≤ N * y ↔ x ≤ y := ⟨fun h => le_of_mul hN h, fun h => Int.mul_le_mul_of_nonneg_left h (by omega)⟩
/-- A point of a stretch lies between its ends. -/
theorem conv_btw {N t x y : Int} (g2 : 0 ≤ t) (g3 : t ≤ N) : (N * x ≤ (N - t) * x + t * y ∧ (N - t) * x + t * y ≤ N * y) ∨ (N * y ≤ (N - t) * x + t * y ∧ (N - t) * x + t * y ≤ N * x) := by
  have e : N - t + t = N := by omega
  by_cases h : x ≤ y
  · left
    have h1 := conv_ge (m := x) (by omega : 0 ≤ N - t) g2 (Int.le_refl x) h
    have h2 := conv_le (m := y) (by omega : 0 ≤ N - t) g2 h (Int.le_refl y)
    rw [e] at h1 h2
    exact ⟨h1, h2⟩
  · right
    have h1 := conv_ge (m := y) (by omega : 0 ≤ N - t) g2 (by omega : y ≤ x) (Int.le_refl y)
    have h2 := conv_le (m := x) (by omega : 0 ≤ N - t) g2 (Int.le_refl x) (by omega : y ≤ x)
    rw [e] at h1 h2
    exact ⟨h1, h2⟩
end Go.Proofs.YtmegmokjjlelgaaGreat
