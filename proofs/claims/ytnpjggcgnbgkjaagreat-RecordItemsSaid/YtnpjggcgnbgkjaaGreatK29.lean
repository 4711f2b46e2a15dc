/- Plain law: two stretches with a point within both have more in common than one end. Rotations of a ring without repetition; Plain law: steps of a border, and the one closed way that they make, wherever it is begun; What a cut is made of: rings, corners, the parcels' order: plain law; Of a sound plan no item's key stands twice; the order of those that are read. Plain laws; What a cut does to a plan of the call's own: frames; A cut's two parts; no second cut by the same path: plain law. -/
import Derived.Deep.CutBlock
import Derived.Deep.DeepCutAuto
import Derived.Test.YtnpjggcgnbgkjaaGreatK07
import Derived.Test.YtnpjggcgnbgkjaaGreatK08
import Derived.Test.YtnpjggcgnbgkjaaGreatK13
import Derived.Test.YtnpjggcgnbgkjaaGreatK15
import Derived.Test.YtnpjggcgnbgkjaaGreatK16
import Derived.Test.YtnpjggcgnbgkjaaGreatK17
import Derived.Test.YtnpjggcgnbgkjaaGreatK22
import Derived.Test.YtnpjggcgnbgkjaaGreatK24
import Derived.Test.YtnpjggcgnbgkjaaGreatK26
import Derived.Test.YtnpjggcgnbgkjaaGreatK27
import Derived.Test.YtnpjggcgnbgkjaaGreatK28
namespace Go.Proofs.YtnpjggcgnbgkjaaGreat
-- rotations
theorem nodup_ptAt {xs : List Pt} (hn : xs.Nodup) {i j : Nat} (hi : i < xs.length) (hj : j < xs.length) (h : ptAt xs i = ptAt xs j) : i = j := by
  rw [ptAt_lt hi, ptAt_lt hj] at h
  exact (List.getElem_inj hn).1 h
-- sound plans
end Go.Proofs.YtnpjggcgnbgkjaaGreat
namespace Go.Proofs.YtnpjggcgnbgkjaaGreat
/-- A closed way of steps: all of them, each once. -/
structure CycE (l : List Ed) (c : List Pt) : Prop where
  ne : c ≠ []
  nd : c.Nodup
  len : c.length = l.length
  sub : ∀ k, k < c.length → (⟨ptAt c k, ptAt c ((k + 1) % c.length)⟩ : Ed) ∈ l
theorem perm_of_sub {α : Type} [DecidableEq α] : ∀ {a l : List α}, a.Nodup → (∀ x ∈ a, x ∈ l) → l.length ≤ a.length → a.Perm l
  | [], l, _, _, h => by
    have : l = [] := List.eq_nil_of_length_eq_zero (by simpa using h)
    subst this
    exact .nil
  | x :: a, l, hn, hs, h => by
    obtain ⟨h1, h2⟩ := List.nodup_cons.1 hn
    have hx : x ∈ l := hs x (by simp)
    have hp : l.Perm (x :: l.erase x) := List.perm_cons_erase hx
    have hl : (l.erase x).length = l.length - 1 := List.length_erase_of_mem hx
    refine List.Perm.trans ?_ hp.symm
    refine List.Perm.cons x (perm_of_sub h2 (fun y hy => ?_) (by rw [hl]; simp at h; omega))
    have hy2 : y ∈ l := hs y (by simp [hy])
    exact (List.mem_erase_of_ne (fun e => h1 (by rw [← e]; exact hy))).2 hy2
theorem edgesOf_at {c : List Pt} {e : Ed} (h : e ∈ edgesOf c) : ∃ k, k < c.length ∧ e = ⟨ptAt c k, ptAt c ((k + 1) % c.length)⟩ := by
  unfold edgesOf at h
  obtain ⟨k, h1, h2⟩ := List.mem_map.1 h
  exact ⟨k, List.mem_range.1 h1, h2.symm⟩
theorem edgesOf_in {c : List Pt} {k : Nat} (h : k < c.length) : (⟨ptAt c k, ptAt c ((k + 1) % c.length)⟩ : Ed) ∈ edgesOf c := by
  unfold edgesOf
  exact List.mem_map.2 ⟨k, List.mem_range.2 h, rfl⟩
theorem edgesOf_nd {c : List Pt} (hn : c.Nodup) : (edgesOf c).Nodup := by
  unfold edgesOf
  refine List.Pairwise.map _ (fun a b h => h) ?_
  refine List.pairwise_iff_getElem.2 fun i j hi hj hij he => ?_
  simp only [List.length_range] at hi hj
  simp only [List.getElem_range, Ed.mk.injEq] at he
  have := nodup_ptAt hn hi hj he.1
  omega
theorem CycE.perm {l : List Ed} {c : List Pt} (h : CycE l c) : (edgesOf c).Perm l := by
  refine perm_of_sub (edgesOf_nd h.nd) (fun e he => ?_) (by rw [← h.len]; simp [edgesOf])
  obtain ⟨k, hk, rfl⟩ := edgesOf_at he
  exact h.sub k hk
theorem CycE.of {l : List Ed} {c : List Pt} (h0 : c ≠ []) (hn : c.Nodup) (hp : (edgesOf c).Perm l) : CycE l c :=
  ⟨h0, hn, by have := hp.length_eq; simpa [edgesOf] using this, fun k hk => hp.mem_iff.1 (edgesOf_in hk)⟩
theorem CycE.at_ {l : List Ed} {c : List Pt} (h : CycE l c) {e : Ed} (he : e ∈ l) : ∃ k, k < c.length ∧ e = ⟨ptAt c k, ptAt c ((k + 1) % c.length)⟩ := edgesOf_at (h.perm.mem_iff.2 he)
theorem CycE.key {l : List Ed} {c : List Pt} (h : CycE l c) {e f : Ed} (he : e ∈ l) (hf : f ∈ l) (hk : e.a = f.a) : e = f := by
  obtain ⟨i, hi, rfl⟩ := h.at_ he
  obtain ⟨j, hj, rfl⟩ := h.at_ hf
  have := nodup_ptAt h.nd hi hj hk
  rw [this]
/-- A way of steps from its first corner to a next one. -/
def PathE (l : List Ed) (out : List Pt) (q : Pt) : Prop := ∀ j, j < out.length → (⟨ptAt (out ++ [q]) j, ptAt (out ++ [q]) (j + 1)⟩ : Ed) ∈ l
theorem ptAt_app1 {xs ys : List Pt} {j : Nat} (h : j < xs.length) : ptAt (xs ++ ys) j = ptAt xs j := by unfold ptAt; rw [List.getElem?_append_left h]
theorem ptAt_app2 (xs : List Pt) (q : Pt) : ptAt (xs ++ [q]) xs.length = q := by unfold ptAt; simp
theorem PathE.nil (l : List Ed) (q : Pt) : PathE l [] q := fun _ hj => absurd hj (Nat.not_lt_zero _)
theorem CycE.path {l : List Ed} {c : List Pt} (h : CycE l c) : PathE l c (ptAt c 0) := fun j hj => by
  have h1 := h.sub j hj
  rw [ptAt_app1 hj]
  by_cases h2 : j + 1 < c.length
  · rw [Nat.mod_eq_of_lt h2] at h1
    rw [ptAt_app1 h2]
    exact h1
  · have e : j + 1 = c.length := by omega
    rw [e, Nat.mod_self] at h1
    rw [e, ptAt_app2]
    exact h1
end Go.Proofs.YtnpjggcgnbgkjaaGreat
namespace Go.Proofs.YtnpjggcgnbgkjaaGreat
theorem listN_pw {ps : List Parc} : ∀ {n : Nat} {last : Int}, listN n last ps = true → ps.Pairwise (fun x y => x.id < y.id) ∧ ∀ x ∈ ps, last < x.id := by
  induction ps with
  | nil => intro n last _; exact ⟨.nil, fun x hx => absurd hx List.not_mem_nil⟩
  | cons y ps ih =>
    intro n last h
    rw [listN_cons] at h
    simp only [Bool.and_eq_true, decide_eq_true_eq] at h
    obtain ⟨h1, h2, h3, h4, h5⟩ := h
    obtain ⟨k1, k2⟩ := ih h5
    refine ⟨List.pairwise_cons.2 ⟨k2, k1⟩, fun x hx => ?_⟩
    rcases List.mem_cons.1 hx with rfl | hx
    · exact h2
    · have := k2 x hx; omega
theorem listed_pw {p : Plan} (h : listedB p = true) : p.parcels.Pairwise (fun x y => x.id < y.id) := by
  unfold listedB at h
  rw [Bool.and_eq_true] at h
  exact (listN_pw h.1).1
end Go.Proofs.YtnpjggcgnbgkjaaGreat
namespace Go.Proofs.YtnpjggcgnbgkjaaGreat
/-- What the records' laws ask of a plan: all sound ones have it. -/
structure RecOK (p : Plan) : Prop where
  out : (∀ q ∈ p.outer, good q = true) ∧ p.outer.length ≤ 128
  pcs : ∀ x ∈ p.parcels, idB x.id = true ∧ (∀ q ∈ x.ring, good q = true) ∧ x.ring.length ≤ 128
  ids : p.parcels.Pairwise (fun x y => x.id < y.id)
  eds : (allE p.parcels).Nodup
theorem listN_ids : ∀ {n : Nat} {l : Int} {ps : List Parc}, listN n l ps = true → ∀ x ∈ ps, idB x.id = true
  | _, _, [], _, x, hx => absurd hx (by simp)
  | n, l, y :: ps, h, x, hx => by
    unfold listN at h
    simp only [Bool.and_eq_true] at h
    rcases List.mem_cons.1 hx with rfl | hx
    · exact h.1
    · exact listN_ids h.2.2.2.2 x hx
theorem recOK_sound {p : Plan} (h : SoundP p) : RecOK p := by
  have ho := sound_ring h (.inl rfl)
  refine ⟨⟨fun q hq => goodL_mem ho.1 hq, ho.2.1⟩, fun x hx => ?_, listed_pw h.1, h.2.2.2.1.1⟩
  have hr := sound_ring h (.inr ⟨x, hx, rfl⟩)
  have hl := h.1
  unfold listedB at hl
  simp only [Bool.and_eq_true] at hl
  exact ⟨listN_ids hl.1 x hx, fun q hq => goodL_mem hr.1 hq, hr.2.1⟩
theorem ptAt_in {xs : List Pt} (h : ∀ q ∈ xs, good q = true) {k : Nat} (hk : k < xs.length) : good (ptAt xs k) = true := h _ (ptAt_mem hk)
theorem edgK_good {xs : List Pt} (h : ∀ q ∈ xs, good q = true) {e : Ed} (he : e ∈ edgesOf xs) : good e.a = true ∧ good e.b = true := by
  obtain ⟨k, hk, rfl⟩ := edgesOf_at he
  exact ⟨ptAt_in h hk, ptAt_in h (Nat.mod_lt _ (by omega))⟩
theorem cellsL_key {xs : List Pt} {c : Pt} (h : c ∈ cellsL xs) : -4 ≤ c.x ∧ c.x ≤ 4 ∧ -4 ≤ c.y ∧ c.y ≤ 4 := by
  unfold cellsL at h
  split at h
  · exact cell_key h
  · simp at h
theorem cellsL_nodup (xs : List Pt) : (cellsL xs).Nodup := by
  unfold cellsL
  split
  · exact spanC_nodup _
  · exact List.nodup_nil
theorem par_keys {x : Parc} {k : List UInt8} (h : k ∈ (parIts x).map (·.k)) : (∃ c, k = pcHead x.id ++ [c]) ∨ (∃ e ∈ edgesOf x.ring, k = edgKy e) ∨ ∃ c ∈ cellsL x.ring, k = clKey x.id c := by
  obtain ⟨i, hi, rfl⟩ := List.mem_map.1 h
  unfold parIts at hi
  rcases List.mem_append.1 hi with hi | hi
  · rcases List.mem_cons.1 hi with rfl | hi
    · exact .inl ⟨_, rfl⟩
    · obtain ⟨k, -, rfl⟩ := List.mem_map.1 hi
      exact .inl ⟨_, rfl⟩
  · rcases List.mem_append.1 hi with hi | hi
    · obtain ⟨e, he, rfl⟩ := List.mem_map.1 hi
      exact .inr (.inl ⟨e, he, rfl⟩)
    · obtain ⟨c, hc, rfl⟩ := List.mem_map.1 hi
      exact .inr (.inr ⟨c, hc, rfl⟩)
theorem clKey_inj {i j : Int} {c d : Pt} (hc : -4 ≤ c.x ∧ c.x ≤ 4 ∧ -4 ≤ c.y ∧ c.y ≤ 4) (hd : -4 ≤ d.x ∧ d.x ≤ 4 ∧ -4 ≤ d.y ∧ d.y ≤ 4) (h : clKey i c = clKey j d) : c = d ∧ idBy i = idBy j := by
  unfold clKey at h
  have h1 := (List.cons.inj h).2
  have h2 := List.cons.inj h1
  have h3 := List.cons.inj h2.2
  have e1 := congrArg UInt8.toNat h2.1
  have e2 := congrArg UInt8.toNat h3.1
  simp only [UInt8.toNat_ofNat'] at e1 e2
  rcases c with ⟨a, b⟩
  rcases d with ⟨a', b'⟩
  simp only at *
  exact ⟨by rw [show a = a' by omega, show b = b' by omega], h3.2⟩
theorem parOP_nodup {x : Parc} (hl : x.ring.length ≤ 128) : ((parOP x).map (·.k)).Nodup := by
  unfold parOP
  rw [List.map_cons, List.nodup_cons]
  refine ⟨fun h => ?_, ringIts_nodup _ _ _ hl (Nat.le_refl 1)⟩
  rw [ringIts_keys] at h
  obtain ⟨k, hk, e⟩ := List.mem_map.1 h
  have hk := List.mem_range.1 hk
  have hc := chkN_le (n := x.ring.length) (m := 8) (by omega)
  have e1 := congrArg UInt8.toNat (List.cons.inj (List.append_cancel_left e)).1
  simp only [UInt8.toNat_ofNat'] at e1
  simp at e1
  omega
theorem parIts_eq (x : Parc) : parIts x = parOP x ++ ((edgesOf x.ring).map (fun e => ⟨edgKy e, idBy x.id⟩) ++ (cellsL x.ring).map (fun c => ⟨clKey x.id c, []⟩)) := rfl
theorem parIts_nodup {x : Parc} (hg : ∀ q ∈ x.ring, good q = true) (hl : x.ring.length ≤ 128) (he : (edgesOf x.ring).Nodup) : ((parIts x).map (·.k)).Nodup := by
  rw [parIts_eq, List.map_append, List.map_append, List.map_map, List.map_map, List.nodup_append, List.nodup_append]
  refine ⟨parOP_nodup hl, ⟨?_, ?_, ?_⟩, ?_⟩
  · refine nodup_map_inj he fun e h1 f h2 e3 => ?_
    obtain ⟨g1, g2⟩ := edgK_good hg h1
    obtain ⟨g3, g4⟩ := edgK_good hg h2
    exact edgKy_inj g1 g2 g3 g4 e3
  · exact nodup_map_inj (cellsL_nodup _) fun c h1 d h2 e3 => (clKey_inj (cellsL_key h1) (cellsL_key h2) e3).1
  · intro a ha b hb e
    obtain ⟨u, -, rfl⟩ := List.mem_map.1 ha
    obtain ⟨v, -, rfl⟩ := List.mem_map.1 hb
    exact absurd (List.cons.inj e).1 (by decide)
  · intro a ha b hb e
    have h1 : a.head? = some 112 := by
      obtain ⟨i, hi, rfl⟩ := List.mem_map.1 ha
      unfold parOP at hi
      rcases List.mem_cons.1 hi with rfl | hi
      · rfl
      · obtain ⟨k, -, rfl⟩ := List.mem_map.1 hi
        rfl
    have h2 : b.head? = some 101 ∨ b.head? = some 99 := by
      rcases List.mem_append.1 hb with hb | hb
      · obtain ⟨v, -, rfl⟩ := List.mem_map.1 hb
        exact .inl rfl
      · obtain ⟨v, -, rfl⟩ := List.mem_map.1 hb
        exact .inr rfl
    rw [e] at h1
    rw [h1] at h2
    revert h2
    decide
theorem planIts_nodup {p : Plan} (h : RecOK p) : ((planIts p).map (·.k)).Nodup := by
  unfold planIts
  rw [List.map_append, List.map_flatMap, List.nodup_append]
  refine ⟨ringIts_nodup _ _ _ h.out.2 (Nat.zero_le 1), ?_, ?_⟩
  · have hE := h.eds
    unfold allE at hE
    unfold List.Nodup at hE ⊢
    rw [List.pairwise_flatMap] at hE ⊢
    refine ⟨fun x hx => parIts_nodup (h.pcs x hx).2.1 (h.pcs x hx).2.2 (hE.1 x hx), ?_⟩
    have hb := List.pairwise_and_iff.2 ⟨h.ids, hE.2⟩
    refine List.Pairwise.imp_of_mem (fun {x y} hx hy hxy => ?_) hb
    intro a ha b hb e
    subst e
    have hne : x.id ≠ y.id := by omega
    have hni : idBy x.id ≠ idBy y.id := fun e => hne (idBy_inj (h.pcs x hx).1 (h.pcs y hy).1 e)
    rcases par_keys ha with ⟨c, e1⟩ | ⟨e, he, e1⟩ | ⟨c, hc, e1⟩ <;> rcases par_keys hb with ⟨d, e2⟩ | ⟨f, hf, e2⟩ | ⟨d, hd, e2⟩
    · rw [e1] at e2
      have := (List.append_inj e2 (by unfold pcHead; rw [List.length_cons, List.length_cons, idBy_len, idBy_len])).1
      exact hni (List.cons.inj this).2
    · rw [e1] at e2; exact absurd (List.cons.inj e2).1 (by decide)
    · rw [e1] at e2; exact absurd (List.cons.inj e2).1 (by decide)
    · rw [e1] at e2; exact absurd (List.cons.inj e2).1 (by decide)
    · rw [e1] at e2
      obtain ⟨g1, g2⟩ := edgK_good (h.pcs x hx).2.1 he
      obtain ⟨g3, g4⟩ := edgK_good (h.pcs y hy).2.1 hf
      exact hxy.2 e he f hf (edgKy_inj g1 g2 g3 g4 e2)
    · rw [e1] at e2; exact absurd (List.cons.inj e2).1 (by decide)
    · rw [e1] at e2; exact absurd (List.cons.inj e2).1 (by decide)
    · rw [e1] at e2; exact absurd (List.cons.inj e2).1 (by decide)
    · rw [e1] at e2; exact hni (clKey_inj (cellsL_key hc) (cellsL_key hd) e2).2
  · intro a ha b hb e
    have h1 : a.head? = some 111 := by
      rw [ringIts_keys] at ha
      obtain ⟨k, -, rfl⟩ := List.mem_map.1 ha
      rfl
    obtain ⟨x, -, hb⟩ := List.mem_flatMap.1 hb
    rw [e] at h1
    rcases par_keys hb with ⟨d, e2⟩ | ⟨f, hf, e2⟩ | ⟨d, hd, e2⟩ <;> rw [e2] at h1 <;> revert h1 <;> simp [pcHead, edgKy, clKey]
end Go.Proofs.YtnpjggcgnbgkjaaGreat
namespace Go.Proofs.YtnpjggcgnbgkjaaGreat
open Go.RowKit Go.Lib
theorem fits_perm {o : List Pt} {ps qs : List Parc} (hp : qs.Perm ps) (h : (⟨o, ps⟩ : Plan).fits) : (⟨o, qs⟩ : Plan).fits := ⟨h.1, by show qs.length ≤ _; rw [hp.length_eq]; exact h.2.1, fun x hx => h.2.2 x (hp.mem_iff.1 hx)⟩
theorem PlanOwn.sorted {B n c n' cp g : Nat} {W W' : World} {A : Option Addr} {p : Plan} {hs : List Hd} {d : List PcH} (h : PlanOwn B W A n c (some ⟨g, 0, none⟩) n' cp p hs) (hd : d.Perm (p.parcels.zip hs))
    (hown : W'.ownsRow B 37 3 (.slice (some ⟨g, 0, none⟩) n' cp) n' (pchV d)) (hg : W.grownBy W' (some g)) : PlanOwn B W' A n c (some ⟨g, 0, none⟩) n' cp ⟨p.outer, d.map (·.1)⟩ (d.map (·.2)) := by
  have hkeep : ∀ {v : Value} {j : Nat} {xs : List Value}, W.ownsRow B 35 2 v j xs → W'.ownsRow B 35 2 v j xs := fun {v j xs} ho => by
    refine own_heap ho fun i hi => hg.block i (ho.lt i hi).2 (fun e => ?_)
    exact own_own_ne h.row ho (by decide) (g := i) e.symm hi
  have hl := h.lenp
  have hl2 := h.len
  have hdl : d.length = n' := by rw [hd.length_eq, List.length_zip, hl, hl2, Nat.min_self]
  have hmap : (d.map (·.1)).Perm p.parcels := by
    have := hd.map (·.1)
    rwa [List.map_fst_zip (by omega)] at this
  refine ⟨hkeep h.out, by rw [← pch_rowPV]; exact hown, by simp [hdl], by simp [hdl], fun j hj => ?_, fits_perm hmap h.fits⟩
  have hjd : j < d.length := by omega
  have hm : d[j] ∈ p.parcels.zip hs := hd.mem_iff.1 (List.getElem_mem hjd)
  obtain ⟨i, hi, he⟩ := List.getElem_of_mem hm
  rw [List.length_zip] at hi
  have hi1 : i < p.parcels.length := by omega
  have hi2 : i < hs.length := by omega
  rw [List.getElem_zip] at he
  have e1 : hdAt (d.map (·.2)) j = hdAt hs i := by
    unfold hdAt
    rw [List.getElem?_map, List.getElem?_eq_getElem hjd, List.getElem?_eq_getElem hi2, ← he]
    rfl
  have e2 : pcAt (d.map (·.1)) j = pcAt p.parcels i := by
    unfold pcAt
    rw [List.getElem?_map, List.getElem?_eq_getElem hjd, List.getElem?_eq_getElem hi1, ← he]
    rfl
  show World.ownsRow _ _ _ _ _ _ (ptsV (pcAt (d.map (·.1)) j).ring)
  rw [e1, e2]
  exact hkeep (h.rings i (by omega))
end Go.Proofs.YtnpjggcgnbgkjaaGreat
namespace Go.Proofs.YtnpjggcgnbgkjaaGreat
theorem planB_yes {p : Plan} (h : SoundP p) : planB p = true := by unfold planB; simpa using h
end Go.Proofs.YtnpjggcgnbgkjaaGreat
