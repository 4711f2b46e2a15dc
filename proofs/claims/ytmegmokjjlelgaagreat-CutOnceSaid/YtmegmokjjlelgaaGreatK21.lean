/- What a cut is made of: rings, corners, the parcels' order: plain law; slices.SortFunc of parcels, by their numbers: laid off the shelf, and the order's walk; bend.begin, bend.done, bend.Mark: the walks; What a cut does to a plan of the call's own: frames. -/
import Derived.Test.YtmegmokjjlelgaaGreatK09
import Derived.Test.YtmegmokjjlelgaaGreatK10
import Derived.Test.YtmegmokjjlelgaaGreatK13
import Derived.Test.YtmegmokjjlelgaaGreatK15
import Derived.Test.YtmegmokjjlelgaaGreatK17
import Derived.Test.YtmegmokjjlelgaaGreatK18
import Derived.Test.YtmegmokjjlelgaaGreatK20
namespace Go.Proofs.YtmegmokjjlelgaaGreat
theorem listN_pw {ps : List Parc} : ∀ {n : Nat} {last : Int}, listN n last ps = true → ps.Pairwise (fun x y => x.id < y.id) ∧ ∀ x ∈ ps, last < x.id := by
  induction ps with
  | nil => intro n last _; exact ⟨.nil, fun x hx => absurd hx List.not_mem_nil⟩
  | cons y ps ih =>
    intro n last h
    rw [listN_cons] at h
    simp only [Bool.and_eq_true, decide_eq_true_eq] at h
    obtain ⟨h1, h2, h3, h4, h5⟩ := h
    obtain ⟨k1, k2⟩ := ih h5
    refine ⟨List.pairwise_cons.2 ⟨k2, k1⟩, fun x hx => ?_⟩
    rcases List.mem_cons.1 hx with rfl | hx
    · exact h2
    · have := k2 x hx; omega
theorem listed_pw {p : Plan} (h : listedB p = true) : p.parcels.Pairwise (fun x y => x.id < y.id) := by
  unfold listedB at h
  rw [Bool.and_eq_true] at h
  exact (listN_pw h.1).1
theorem pw_inj {ps : List Parc} (h : ps.Pairwise (fun x y => x.id < y.id)) {x y : Parc} (hx : x ∈ ps) (hy : y ∈ ps) (e : x.id = y.id) : x = y := by
  obtain ⟨i, hi, rfl⟩ := List.getElem_of_mem hx
  obtain ⟨j, hj, rfl⟩ := List.getElem_of_mem hy
  have hp := List.pairwise_iff_getElem.1 h
  rcases Nat.lt_trichotomy i j with h1 | h1 | h1
  · have := hp i j hi hj h1; omega
  · subst h1; rfl
  · have := hp j i hj hi h1; omega
theorem putId_perm {x : Parc} {ps : List Parc} (hx : ∀ y ∈ ps, y.id ≠ x.id) : (putId x ps).Perm (ps ++ [x]) := by
  unfold putId
  refine (List.perm_middle).trans ?_
  refine List.Perm.trans (.cons _ ?_) (List.perm_append_singleton x ps).symm
  have e : ps.filter (fun y => decide (x.id < y.id)) = ps.filter (fun y => !decide (y.id < x.id)) := List.filter_congr fun y hy => by
    have := hx y hy
    by_cases h : y.id < x.id
    · rw [decide_eq_true h, decide_eq_false (by omega)]; rfl
    · rw [decide_eq_false h, decide_eq_true (by omega)]; rfl
  rw [e]
  exact List.filter_append_perm _ ps
theorem putId_pw {x : Parc} {ps : List Parc} (hp : ps.Pairwise (fun x y => x.id < y.id)) : (putId x ps).Pairwise (fun x y => x.id < y.id) := by
  unfold putId
  rw [List.pairwise_append]
  refine ⟨hp.filter _, List.pairwise_cons.2 ⟨fun y hy => by simpa using (List.mem_filter.1 hy).2, hp.filter _⟩, fun y hy z hz => ?_⟩
  have h1 : y.id < x.id := by simpa using (List.mem_filter.1 hy).2
  rcases List.mem_cons.1 hz with rfl | hz
  · exact h1
  · have h2 : x.id < z.id := by simpa using (List.mem_filter.1 hz).2
    omega
theorem put_uniq {x : Parc} {ps d : List Parc} (hp : ps.Pairwise (fun x y => x.id < y.id)) (hx : ∀ y ∈ ps, y.id ≠ x.id) (hd : d.Perm (ps ++ [x])) (hs : d.Pairwise (fun e f => ¬ f.id < e.id)) : d = putId x ps := by
  have h1 := putId_pw (x := x) hp
  have h2 := putId_perm hx
  refine List.Perm.eq_of_pairwise (fun a b ha hb u v => ?_) hs (h1.imp fun {a b} h => by omega) (hd.trans h2.symm)
  exact pw_inj h1 (h2.mem_iff.2 (hd.mem_iff.1 ha)) hb (by omega)
theorem goodL_of {xs : List Pt} (h : ∀ p ∈ xs, good p = true) : goodL xs = true := by unfold goodL; exact List.all_eq_true.2 h
theorem ins_good {xs : List Pt} {q : Pt} (h : goodL xs = true) (hq : good q = true) : goodL (lst (insG q xs)) = true := goodL_of fun p hp => by
  rcases insG_mem (lst_mem hp) with h1 | rfl
  · exact goodL_mem h h1
  · exact hq
theorem ins_rings {p : Plan} {a : Pt} {N : Nat} (hs : ∀ xs, ringOf p xs → goodL xs = true ∧ xs.length ≤ N) (ha : good a = true) : ∀ xs, ringOf (eachP (insG a) p) xs → goodL xs = true ∧ xs.length ≤ 2 * N := fun ys hy => by
  obtain ⟨xs, hx, rfl⟩ := ringOf_each hy
  obtain ⟨h1, h2⟩ := hs xs hx
  exact ⟨ins_good h1 ha, by rw [lst_len]; have := insG_len a xs; omega⟩
theorem cut_rings1 {p : Plan} {a : Pt} (hs : SoundP p) (ha : good a = true) : ∀ xs, ringOf (eachP (insG a) p) xs → goodL xs = true ∧ xs.length ≤ 256 :=
  ins_rings (N := 128) (fun xs hx => by obtain ⟨h1, h2, -⟩ := sound_ring hs hx; exact ⟨h1, h2⟩) ha
theorem cut_rings {p : Plan} {a b : Pt} (hs : SoundP p) (ha : good a = true) (hb : good b = true) : ∀ xs, ringOf (spB p a b) xs → goodL xs = true ∧ xs.length ≤ 512 :=
  ins_rings (N := 256) (cut_rings1 hs ha) hb
theorem spB_len (p : Plan) (a b : Pt) : (spB p a b).parcels.length = p.parcels.length := by unfold spB; rw [each_len, each_len]
theorem pcAt_spB {p : Plan} {a b : Pt} {k : Nat} (hk : k < p.parcels.length) : pcAt (spB p a b).parcels k = ⟨(pcAt p.parcels k).id, cutRing p k a b, (pcAt p.parcels k).owner⟩ := by
  have e : pcAt (spB p a b).parcels k = eachX (insG b) (eachX (insG a) (pcAt p.parcels k)) := by
    unfold spB
    rw [pcAt_each (by rw [each_len]; exact hk), pcAt_each hk]
  show _ = (⟨_, (pcAt (spB p a b).parcels k).ring, _⟩ : Parc)
  rw [e]
  rfl
theorem cutRing_eq {p : Plan} {a b : Pt} {k : Nat} (hk : k < p.parcels.length) : cutRing p k a b = lst (insG b (lst (insG a (pcAt p.parcels k).ring))) := by
  unfold cutRing spB
  rw [pcAt_each (by rw [each_len]; exact hk), pcAt_each hk]
  rfl
theorem path0_mem {path : List Pt} (h : 2 ≤ path.length) : path0 path ∈ path ∧ path1 path ∈ path := ⟨ptAt_mem (by omega), ptAt_mem (by omega)⟩
theorem pcAt_mem {ps : List Parc} {k : Nat} (hk : k < ps.length) : pcAt ps k ∈ ps := by rw [pcAt_lt hk]; exact List.getElem_mem hk
theorem cutRing_of {p : Plan} {a b : Pt} {k : Nat} (hk : k < p.parcels.length) : ringOf (spB p a b) (cutRing p k a b) := .inr ⟨_, pcAt_mem (by rw [spB_len]; exact hk), rfl⟩
/-- The point is on the ring's border. -/
def OnR (xs : List Pt) (q : Pt) : Prop := ∃ k, k < xs.length ∧ onB (ptAt xs k) (ptAt xs ((k + 1) % xs.length)) q = true
theorem side_on {xs : List Pt} {q : Pt} (h : sideI xs q = 0) : OnR xs q := Classical.byContradiction fun hn => by
  have hno : noneN xs q xs.length := fun i hi => by
    cases hb : onE xs q i with
    | false => rfl
    | true => exact absurd ⟨i, hi, hb⟩ hn
  rw [sideI_off hno] at h
  split at h <;> cases h
theorem ins_sub {xs : List Pt} {p q : Pt} (h : p ∈ xs) : p ∈ insG q xs := by
  obtain ⟨k, hk, rfl⟩ := List.getElem_of_mem h
  unfold insG insL
  refine List.mem_flatMap.2 ⟨k, List.mem_range.2 hk, ?_⟩
  unfold insK
  rw [ptAt_lt hk]
  exact List.mem_cons_self
theorem ins_has {xs : List Pt} {q : Pt} (h : OnR xs q) : q ∈ insG q xs := by
  obtain ⟨k, hk, ho⟩ := h
  by_cases h1 : q = ptAt xs k
  · exact ins_sub (by rw [h1]; exact ptAt_mem hk)
  by_cases h2 : q = ptAt xs ((k + 1) % xs.length)
  · exact ins_sub (by rw [h2]; exact ptAt_mem (Nat.mod_lt _ (by omega)))
  unfold insG insL
  refine List.mem_flatMap.2 ⟨k, List.mem_range.2 hk, ?_⟩
  rw [(insK_in xs q k).1 ⟨ho, h1, h2⟩]
  simp
theorem on_key {a b p : Pt} (ha : good a = true) (hb : good b = true) (hp : good p = true) : onB a b p = true ↔ cr a b p = 0 ∧ ((key a ≤ key p ∧ key p ≤ key b) ∨ (key b ≤ key p ∧ key p ≤ key a)) := by
  rw [← onP_eq ha hb hp]
  exact onP_key ha hb hp
/-- Two points of one stretch: the one lies on one of the two parts that the other makes. -/
theorem on_parts {a b f t : Pt} (ha : good a = true) (hb : good b = true) (hf : good f = true) (ht : good t = true) (h1 : onB a b f = true) (h2 : onB a b t = true) : onB a f t = true ∨ onB f b t = true := by
  obtain ⟨c1, k1⟩ := (on_key ha hb hf).1 h1
  obtain ⟨c2, k2⟩ := (on_key ha hb ht).1 h2
  by_cases hab : a = b
  · subst hab
    have e1 : key f = key a := by omega
    have e2 : f = a := (key_inj hf ha).2 e1
    have e3 : t = a := (key_inj ht ha).2 (by omega)
    subst e2 e3
    exact .inl (onB_self _ _).1
  have hn := pt_sub_ne (fun e => hab e.symm : b ≠ a)
  have hc : cr a f t = 0 := by
    have := par (w1 := b.x - a.x) (w2 := b.y - a.y) (p1 := f.x - a.x) (p2 := f.y - a.y) (q1 := t.x - a.x) (q2 := t.y - a.y) hn c1 c2
    unfold cr
    exact this
  have hc2 : cr f b t = 0 := by
    have h3 := par (w1 := b.x - a.x) (w2 := b.y - a.y) (p1 := f.x - a.x) (p2 := f.y - a.y) (q1 := t.x - a.x) (q2 := t.y - a.y) hn c1 c2
    unfold cr at c1 c2 ⊢
    grind
  rcases Int.le_total (key t) (key f) with h | h
  · rcases k1 with k1 | k1
    · exact .inl ((on_key ha hf ht).2 ⟨hc, .inl (by omega)⟩)
    · exact .inr ((on_key hf hb ht).2 ⟨hc2, .inr (by omega)⟩)
  · rcases k1 with k1 | k1
    · exact .inr ((on_key hf hb ht).2 ⟨hc2, .inl (by omega)⟩)
    · exact .inl ((on_key ha hf ht).2 ⟨hc, .inr (by omega)⟩)
theorem onR_mark {xs : List Pt} {f t : Pt} {k : Nat} (hg : goodL xs = true) (hf : good f = true) (ht : good t = true) (hk : k < xs.length) (hin : onB (ptAt xs k) (ptAt xs ((k + 1) % xs.length)) f = true) (h : OnR xs t) : OnR (mark k f xs) t := by
  obtain ⟨i, hi, ho⟩ := h
  have hl : (mark k f xs).length = xs.length + 1 := by unfold mark; simp; omega
  have hnx : ∀ i, i < xs.length → k < i → ptAt (mark k f xs) ((i + 1 + 1) % (xs.length + 1)) = ptAt xs ((i + 1) % xs.length) := fun i hi hki => by
    rcases Nat.lt_or_ge (i + 1) xs.length with h1 | h1
    · rw [Nat.mod_eq_of_lt (by omega), Nat.mod_eq_of_lt h1, mark_hi hk (by omega)]
    · have e : i + 1 = xs.length := by omega
      rw [e, Nat.mod_self, Nat.mod_self, mark_lo hk (by omega)]
  rcases Nat.lt_trichotomy i k with h1 | rfl | h1
  · refine ⟨i, by omega, ?_⟩
    rw [hl, Nat.mod_eq_of_lt (by omega), mark_lo hk (by omega), mark_lo hk (by omega)]
    rw [Nat.mod_eq_of_lt (by omega)] at ho
    exact ho
  · rcases on_parts (ptAt_good hg _) (ptAt_good hg _) hf ht hin ho with h2 | h2
    · refine ⟨i, by omega, ?_⟩
      rw [hl, Nat.mod_eq_of_lt (by omega), mark_lo hk (by omega), mark_mid hk]
      exact h2
    · refine ⟨i + 1, by omega, ?_⟩
      rw [hl, mark_mid hk]
      rcases Nat.lt_or_ge (i + 1) xs.length with h3 | h3
      · rw [Nat.mod_eq_of_lt (by omega), mark_hi hk (by omega)]
        rw [Nat.mod_eq_of_lt h3] at h2
        exact h2
      · have e : i + 1 = xs.length := by omega
        rw [e, Nat.mod_self, mark_lo hk (by omega)]
        rw [e, Nat.mod_self] at h2
        exact h2
  · refine ⟨i + 1, by omega, ?_⟩
    rw [hl, mark_hi hk (by omega), hnx i hi h1]
    exact ho
theorem onR_rot {xs : List Pt} {t : Pt} {j : Nat} (hj : j < xs.length) (h : OnR xs t) : OnR (rot j xs) t := by
  obtain ⟨i, hi, ho⟩ := h
  have hl : (rot j xs).length = xs.length := rot_len (by omega)
  refine ⟨(i + (xs.length - j)) % xs.length, by rw [hl]; exact Nat.mod_lt _ (by omega), ?_⟩
  have hm : (i + (xs.length - j)) % xs.length < xs.length := Nat.mod_lt _ (by omega)
  have e1 : (j + (i + (xs.length - j)) % xs.length) % xs.length = i := by
    rw [Nat.add_mod, Nat.mod_mod, ← Nat.add_mod, show j + (i + (xs.length - j)) = i + xs.length by omega, Nat.add_mod_right, Nat.mod_eq_of_lt hi]
  rw [hl, ptAt_rot hj hm, ptAt_rot1 hj, e1]
  exact ho
theorem onR_lst {xs : List Pt} {t : Pt} (h : OnR xs t) : OnR (lst xs) t := by
  obtain ⟨k, hk, -⟩ := id h
  obtain ⟨j, hj, e⟩ := lst_eq_rot xs
  rw [e]
  exact onR_rot (hj (fun e => by rw [e] at hk; exact absurd hk (Nat.not_lt_zero _))) h
theorem onR_ins {xs : List Pt} {f t : Pt} (hc : checkI xs = 0) (hf : good f = true) (ht : good t = true) (h : OnR xs t) : OnR (insG f xs) t := by
  rcases ins_cases hc hf with ⟨e, -⟩ | ⟨k, hk, hin, e⟩
  · rw [e]; exact h
  · rw [e]; exact onR_mark (checkI_zero hc).2.1 hf ht hk hin.1 h
theorem cut_has {p : Plan} {a b : Pt} {k : Nat} (hs : SoundP p) (hk : k < p.parcels.length) (ha : good a = true) (hb : good b = true) (h1 : sideI (pcAt p.parcels k).ring a = 0) (h2 : sideI (pcAt p.parcels k).ring b = 0) : a ∈ cutRing p k a b ∧ b ∈ cutRing p k a b := by
  have hc := (hs.2.2.1 _ (pcAt_mem hk)).1
  rw [cutRing_eq hk]
  exact ⟨mem_lst.2 (ins_sub (mem_lst.2 (ins_has (side_on h1)))), mem_lst.2 (ins_has (onR_lst (onR_ins hc ha hb (side_on h2))))⟩
theorem way_sub {xs : List Pt} {s K : Nat} {p : Pt} (h0 : 0 < xs.length) (h : p ∈ wayL xs s K) : p ∈ xs := by
  unfold wayL at h
  obtain ⟨j, -, rfl⟩ := List.mem_map.1 h
  exact ptAt_mem (Nat.mod_lt _ h0)
theorem wayI_sub {xs : List Pt} {f t p : Pt} (h0 : 0 < xs.length) (h : p ∈ wayI xs f t) : p ∈ xs := way_sub h0 h
theorem firstK_le (xs : List Pt) (s : Nat) (t : Pt) : firstK xs s t ≤ xs.length := by
  unfold firstK
  have := List.findIdx_le_length (xs := List.range xs.length) (p := fun j => decide (ptAt xs ((s + j) % xs.length) = t))
  rwa [List.length_range] at this
theorem wayI_le (xs : List Pt) (f t : Pt) : (wayI xs f t).length ≤ xs.length := by unfold wayI; rw [wayL_len]; exact firstK_le _ _ _
theorem part_fits {p : Plan} {k : Nat} {path : List Pt} (hs : SoundP p) (hk : k < p.parcels.length) (hg : goodL path = true) (hn : path.length ≤ 128) (h0 : path0 path ∈ cutRing p k (path0 path) (path1 path)) (ha : good (path0 path) = true) (hb : good (path1 path) = true) :
    (∀ q ∈ partA (cutRing p k (path0 path) (path1 path)) path, good q = true) ∧ (partA (cutRing p k (path0 path) (path1 path)) path).length ≤ 640 ∧ (∀ q ∈ partB (cutRing p k (path0 path) (path1 path)) path, good q = true) ∧ (partB (cutRing p k (path0 path) (path1 path)) path).length ≤ 640 := by
  obtain ⟨hr1, hr2⟩ := cut_rings hs ha hb _ (cutRing_of (a := path0 path) (b := path1 path) hk)
  have hl : 0 < (cutRing p k (path0 path) (path1 path)).length := List.length_pos_of_mem h0
  generalize cutRing p k (path0 path) (path1 path) = r at *
  have l1 := wayI_le r (path0 path) (path1 path)
  have l2 := wayI_le r (path1 path) (path0 path)
  refine ⟨fun q hq => ?_, ?_, fun q hq => ?_, ?_⟩
  · rcases List.mem_append.1 (lst_mem hq) with h | h
    · exact goodL_mem hg (List.mem_reverse.1 h)
    · exact goodL_mem hr1 (wayI_sub hl h)
  · unfold partA; rw [lst_len, List.length_append, List.length_reverse]; omega
  · rcases List.mem_append.1 (lst_mem hq) with h | h
    · exact goodL_mem hg h
    · exact goodL_mem hr1 (wayI_sub hl h)
  · unfold partB; rw [lst_len, List.length_append]; omega
theorem atP_no {ps : List Parc} {id : Int} (h : atP ps id < 0) {x : Parc} (hx : x ∈ ps) : x.id ≠ id := by
  rcases atP_cases ps id with ⟨-, h1⟩ | ⟨k, -, h1, -⟩
  · obtain ⟨j, hj, rfl⟩ := List.getElem_of_mem hx
    have := h1 j hj
    rw [pcAt_lt hj] at this
    exact this
  · omega
end Go.Proofs.YtmegmokjjlelgaaGreat
namespace Go.Proofs.YtmegmokjjlelgaaGreat
open Go.Shelf
def sortPc_ren : Go.Shelf.Ren := ⟨fun | 6 => 66 | 15 => 115 | 14 => 114 | 28 => 149 | 29 => 150 | 20 => 141 | 21 => 142 | 22 => 143 | 23 => 144 | 24 => 145 | 25 => 146 | 26 => 147 | 27 => 148 | 46 => 185 | 47 => 186 | 48 => 187 | 49 => 188 | 50 => 189 | 57 => 208 | n => n, fun | 22 => 24 | 24 => 40 | 25 => 101 | 3 => 3 | 39 => 136 | 0 => 0 | 53 => 81 | 55 => 34 | 4 => 4 | 46 => 173 | 45 => 172 | 50 => 177 | 5 => 5 | 9 => 9 | 66 => 206 | 70 => 210 | 76 => 222 | 77 => 223 | n => n, fun | n => n⟩
theorem sortPc : Go.Proofs.SlLaysF0.n6 Tryz.prog sortPc_ren := {
  mixed := by kernel_rfl
  f6 := ⟨Tryz.f66.name, by decide, Tryz.func66.trans (congrArg some (by kernel_rfl))⟩
  f14 := ⟨Tryz.f114.name, by decide, Tryz.func114.trans (congrArg some (by kernel_rfl))⟩
  f15 := Tryz.func115.trans (congrArg some (by kernel_rfl))
  f20 := ⟨Tryz.f141.name, by decide, Tryz.func141.trans (congrArg some (by kernel_rfl))⟩
  f21 := ⟨Tryz.f142.name, by decide, Tryz.func142.trans (congrArg some (by kernel_rfl))⟩
  f22 := ⟨Tryz.f143.name, by decide, Tryz.func143.trans (congrArg some (by kernel_rfl))⟩
  f23 := ⟨Tryz.f144.name, by decide, Tryz.func144.trans (congrArg some (by kernel_rfl))⟩
  f24 := ⟨Tryz.f145.name, by decide, Tryz.func145.trans (congrArg some (by kernel_rfl))⟩
  f25 := ⟨Tryz.f146.name, by decide, Tryz.func146.trans (congrArg some (by kernel_rfl))⟩
  f26 := ⟨Tryz.f147.name, by decide, Tryz.func147.trans (congrArg some (by kernel_rfl))⟩
  f27 := ⟨Tryz.f148.name, by decide, Tryz.func148.trans (congrArg some (by kernel_rfl))⟩
  f28 := Tryz.func149.trans (congrArg some (by kernel_rfl))
  f29 := Tryz.func150.trans (congrArg some (by kernel_rfl))
  f46 := ⟨Tryz.f185.name, by decide, Tryz.func185.trans (congrArg some (by kernel_rfl))⟩
  f47 := Tryz.func186.trans (congrArg some (by kernel_rfl))
  f48 := Tryz.func187.trans (congrArg some (by kernel_rfl))
  f49 := ⟨Tryz.f188.name, by decide, Tryz.func188.trans (congrArg some (by kernel_rfl))⟩
  f50 := ⟨Tryz.f189.name, by decide, Tryz.func189.trans (congrArg some (by kernel_rfl))⟩
  f57 := ⟨Tryz.f208.name, by decide, Tryz.func208.trans (congrArg some (by kernel_rfl))⟩
  t0 := Tryz.underlying0
  a0 := Tryz.isAgg0
  z0 := Tryz.sizeOf0
  v0 := Tryz.zeroValue0
  t3 := Tryz.underlying3
  a3 := Tryz.isAgg3
  z3 := Tryz.sizeOf3
  v3 := Tryz.zeroValue3
  t4 := Tryz.underlying4
  a4 := Tryz.isAgg4
  z4 := Tryz.sizeOf4
  v4 := Tryz.zeroValue4
  t5 := Tryz.underlying5
  a5 := Tryz.isAgg5
  z5 := Tryz.sizeOf5
  v5 := Tryz.zeroValue5
  t9 := Tryz.underlying9
  a9 := Tryz.isAgg9
  z9 := Tryz.sizeOf9
  v9 := Tryz.zeroValue9
  t22 := Tryz.underlying24
  a22 := Tryz.isAgg24
  z22 := Tryz.sizeOf24
  v22 := Tryz.zeroValue24
  t25 := Tryz.underlying101
  a25 := Tryz.isAgg101
  z25 := Tryz.sizeOf101
  v25 := Tryz.zeroValue101
  t39 := Tryz.underlying136
  a39 := Tryz.isAgg136
  z39 := Tryz.sizeOf136
  v39 := Tryz.zeroValue136
  t45 := Tryz.underlying172
  a45 := Tryz.isAgg172
  z45 := Tryz.sizeOf172
  v45 := Tryz.zeroValue172
  t46 := Tryz.underlying173
  a46 := Tryz.isAgg173
  z46 := Tryz.sizeOf173
  v46 := Tryz.zeroValue173
  t50 := Tryz.underlying177
  a50 := Tryz.isAgg177
  z50 := Tryz.sizeOf177
  v50 := Tryz.zeroValue177
  t53 := Tryz.underlying81
  a53 := Tryz.isAgg81
  z53 := Tryz.sizeOf81
  v53 := Tryz.zeroValue81
  t55 := Tryz.underlying34
  a55 := Tryz.isAgg34
  z55 := Tryz.sizeOf34
  v55 := Tryz.zeroValue34
  t66 := Tryz.underlying206
  a66 := Tryz.isAgg206
  z66 := Tryz.sizeOf206
  v66 := Tryz.zeroValue206
  t70 := Tryz.underlying210
  a70 := Tryz.isAgg210
  z70 := Tryz.sizeOf210
  v70 := Tryz.zeroValue210
  t76 := Tryz.underlying222
  a76 := Tryz.isAgg222
  z76 := Tryz.sizeOf222
  v76 := Tryz.zeroValue222
  t77 := Tryz.underlying223
  a77 := Tryz.isAgg223
  z77 := Tryz.sizeOf223
  v77 := Tryz.zeroValue223 }
end Go.Proofs.YtmegmokjjlelgaaGreat
namespace Go.Proofs.YtmegmokjjlelgaaGreat
open Go.RowKit Go.Shelf Go.Sort
abbrev PcH := Parc × Hd
instance : Inhabited PcH := ⟨(⟨0, [], ByteArray.empty⟩, (none, 0, 0))⟩
def cmpPH (e f : PcH) : Int := cmpI e.1.id f.1.id
theorem cmpPH_neg {e f : PcH} : cmpPH e f < 0 ↔ e.1.id < f.1.id := by
  unfold cmpPH
  rcases cmpI_cases e.1.id f.1.id with ⟨h, e'⟩ | ⟨h, e'⟩ | ⟨h, e'⟩ <;> rw [e'] <;> simp <;> omega
theorem pch_swo : SWO (ltOf cmpPH) where
  irrefl x := by unfold ltOf; rw [decide_eq_false_iff_not, cmpPH_neg]; omega
  trans x y z h1 h2 := by
    unfold ltOf at *
    rw [decide_eq_true_iff, cmpPH_neg] at *
    omega
  ntrans x y z h1 h2 := by
    unfold ltOf at *
    rw [decide_eq_false_iff_not, cmpPH_neg] at *
    omega
set_option maxRecDepth 100000 in
set_option maxHeartbeats 1600000 in
theorem split1_grows (e f : PcH) (w : World) :
    Calls Tryz.prog 67 #[.agg #[.int .i64 e.1.id, .slice e.2.1 e.2.2.1 e.2.2.2, .string e.1.owner], .agg #[.int .i64 f.1.id, .slice f.2.1 f.2.2.1 f.2.2.2, .string f.1.owner]] w fun r w' => r = .returned (.int .i64 (cmpPH e f)) ∧ Grows w w' := by
  have hG : Grows w ((w.alloc (.cells #[.int .i64 e.1.id, .slice e.2.1 e.2.2.1 e.2.2.2, .string e.1.owner] 40)).alloc (.cells #[.int .i64 f.1.id, .slice f.2.1 f.2.2.1 f.2.2.2, .string f.1.owner] 40)) := ((Grows.refl _).alloc _).alloc _
  have HC : Hid (cmpPH e f = cmpI e.1.id f.1.id) := rfl
  have HG := Lib.hid hG
  clear hG
  go_enter Tryz.func67, Tryz.ntmps67
  go_wp2_with fail
  refine (compare_any _ _ _).mono ?_
  rintro r w' ⟨rfl, rfl⟩
  go_wp2_with fail
  go_ret
  exact ⟨by rw [HC.out]; rfl, HG.out⟩
def encPH (e : PcH) : List Value := [.int .i64 e.1.id, .slice e.2.1 e.2.2.1 e.2.2.2, .string e.1.owner]
def pchV (l : List PcH) : List Value := l.flatMap encPH
theorem pchV_length (l : List PcH) : (pchV l).length = l.length * 3 := by
  induction l with
  | nil => rfl
  | cons e l ih => unfold pchV at *; rw [List.flatMap_cons, List.length_append, ih]; simp [encPH]; omega
theorem pchV_at {l : List PcH} {j : Nat} {u : Value} (h : (pchV l)[j]? = some u) : ∃ hk : j / 3 < l.length, u = (encPH l[j / 3])[j % 3]! := by
  induction l generalizing j with
  | nil => simp [pchV] at h
  | cons e l ih =>
    have hc : pchV (e :: l) = encPH e ++ pchV l := rfl
    rw [hc] at h
    by_cases hj : j < 3
    · rw [List.getElem?_append_left (by simp [encPH]; omega)] at h
      have h0 : j / 3 = 0 := by omega
      have h1 : j % 3 = j := by omega
      refine ⟨by simp [h0], ?_⟩
      simp only [h0, h1, List.getElem_cons_zero]
      rw [List.getElem!_eq_getElem?_getD, h]
      rfl
    · rw [List.getElem?_append_right (by simp [encPH]; omega)] at h
      have hl : (encPH e).length = 3 := rfl
      rw [hl] at h
      obtain ⟨hk, hu⟩ := ih h
      have e1 : j / 3 = (j - 3) / 3 + 1 := by omega
      have e2 : j % 3 = (j - 3) % 3 := by omega
      refine ⟨by simp; omega, ?_⟩
      simp only [e1, e2, List.getElem_cons_succ]
      exact hu
theorem holdsP_own {w : World} {base : Nat} {t : TypeId} {g n cap : Nat} {d : List PcH} (h : w.ownsRow base t 3 (.slice (some ⟨g, 0, none⟩) n cap) n (pchV d)) : HoldsK encPH 3 w g 0 d.toArray := fun j hj => by
  rw [size_flatK] at hj
  have hl : d.length * 3 = n * 3 := by rw [← pchV_length]; exact h.1
  have hj' : j < n * 3 := by simp at hj; omega
  refine ⟨?_, ?_⟩
  · rw [Nat.zero_add, h.cellAt j hj', get_flatK _ _ _ _ hj]
    have hl2 : j < (pchV d).length := by rw [h.1]; exact hj'
    obtain ⟨hk, hu⟩ := pchV_at (List.getElem?_eq_getElem hl2)
    rw [List.getElem?_eq_getElem hl2, hu]
    simp [hk]
  · rw [Nat.zero_add]
    exact h.frozenAt j
theorem reads_holdsP {w : World} {g : Nat} {d : List PcH} (hg : g < w.heap.size) (h : HoldsK encPH 3 w g 0 d.toArray) : Reads w w.heap.size 3 (some ⟨g, 0, none⟩) d.length (pchV d) := by
  refine ⟨pchV_length d, fun _ => ⟨_, rfl, hg, fun j u hu => ?_⟩⟩
  obtain ⟨hk, rfl⟩ := pchV_at hu
  rw [add_row]
  have := (h.cell (i := j / 3) (c := j % 3) (by simpa using hk) (by omega)).1
  rw [show 0 + j / 3 * 3 + j % 3 = j by omega] at this
  rw [this]
  simp [hk]
theorem grownBy_sortP {w : World} {g n : Nat} {os : Array Obj} (d : Array PcH) : w.grownBy (sortWorldK encPH 3 w g 0 n d os) (some g) := by
  refine ⟨rfl, rfl, rfl, by simp [sortWorldK, putRowK, grow, Sort.ahead], fun k hk hne => ?_⟩
  unfold sortWorldK
  rw [heap_grow_old _ _ (by simpa [putRowK, Sort.ahead] using hk)]
  have : g ≠ k := fun e => hne (by rw [e])
  simp [putRowK, putRow, mapBlock, Sort.ahead, Array.getElem?_modify, this]
theorem cmpPH_lays (g size : Nat) (w : World) : CmpLays Tryz.prog 67 #[] encPH 3 cmpPH g 0 size w := fun _ _ _ _ x y => split1_grows x y _
theorem own_sortP {w : World} {base : Nat} {t : TypeId} {g n cap m : Nat} {d : List PcH} {d' : Array PcH} {os : Array Obj} (h : w.ownsRow base t 3 (.slice (some ⟨g, 0, none⟩) n cap) n (pchV d)) (hs : d'.size = n)
    (hR : Reads (sortWorldK encPH 3 w g 0 m d' os) (sortWorldK encPH 3 w g 0 m d' os).heap.size 3 (some ⟨g, 0, none⟩) d'.toList.length (pchV d'.toList)) :
    (sortWorldK encPH 3 w g 0 m d' os).ownsRow base t 3 (.slice (some ⟨g, 0, none⟩) n cap) n (pchV d'.toList) := by
  rcases h.2 with ⟨h0, -⟩ | ⟨g', cap', cur, he, hb, hg, hnc, hcm, hcs, htk⟩
  · cases h0
  · cases he
    have hlt : g < w.heap.size := (Array.getElem?_eq_some_iff.1 hg).1
    have hW : ∃ cur', (sortWorldK encPH 3 w g 0 m d' os).heap[g]? = some (.cells cur' t (0, 0)) ∧ cur'.size = cur.size := by
      refine ⟨putCells id 0 (flatK encPH 3 d') cur, ?_, ?_⟩
      · unfold sortWorldK
        rw [heap_grow_old _ _ (by simpa [putRowK, putRow, mapBlock, Sort.ahead] using hlt)]
        simp [putRowK, putRow, mapBlock, Sort.ahead, Array.getElem?_modify, hg, onCells]
      · simp [putCells]
    obtain ⟨cur', h1, h2⟩ := hW
    refine ⟨by rw [pchV_length]; simp [hs], .inr ⟨g, cap, cur', rfl, hb, h1, hnc, hcm, by rw [h2, hcs], ?_⟩⟩
    apply List.ext_getElem?
    intro j
    by_cases hj : j < n * 3
    · rw [List.getElem?_take, if_pos hj, Array.getElem?_toList, ← cell_of_row _ g j cur' t (0, 0) h1]
      obtain ⟨ad, e, -, hc⟩ := hR.2 (by simp; omega)
      cases e
      have hl : j < (pchV d'.toList).length := by rw [pchV_length]; simp [hs]; omega
      have := hc j _ (List.getElem?_eq_getElem hl)
      rw [add_row] at this
      rw [this, List.getElem?_eq_getElem hl]
    · rw [List.getElem?_eq_none (by simp; omega), List.getElem?_eq_none (by rw [pchV_length]; simp [hs]; omega)]
theorem perm_listP {d : List PcH} {d' : Array PcH} (h : PermIn 0 d.toArray.size d.toArray d') : d'.toList.Perm d ∧ d'.size = d.length := by
  obtain ⟨h1, -, h2⟩ := h
  refine ⟨?_, by simpa using h1⟩
  rw [← h1, Array.extract_size, h1, Array.extract_size] at h2
  simpa using h2
theorem sortPc_any (d : List PcH) (g n cap base : Nat) (w : World) (hown : w.ownsRow base 40 3 (.slice (some ⟨g, 0, none⟩) n cap) n (pchV d)) (hn : n ≤ 1048576) :
    Calls Tryz.prog 66 #[.slice (some ⟨g, 0, none⟩) n cap, .func (.func 67) #[] #[]] w fun e w' => e = .returned (.tuple #[]) ∧ ∃ d' : List PcH, d'.Perm d ∧ d'.Pairwise (fun e f => ¬ cmpPH f e < 0) ∧ w'.ownsRow base 40 3 (.slice (some ⟨g, 0, none⟩) n cap) n (pchV d') ∧ w.grownBy w' (some g) := by
  have hl : d.length = n := by have h := hown.1; rw [pchV_length] at h; omega
  have hg : g < w.heap.size := (hown.lt g rfl).2
  have hH := holdsP_own hown
  have eg : ∀ args w, (callFunc 67 args).run Tryz.prog w = .ok (.enter 67 args) w := enters_of Tryz.func67 (by kernel_rfl) rfl
  have hcon := AnyQ.slices_SortFunc sortPc 3 Tryz.isAgg40 Tryz.sizeOf40 encPH (fun _ => rfl) (fun x v hv => by simp [encPH] at hv; rcases hv with rfl | rfl | rfl <;> rfl) cmpPH pch_swo 67 #[] g 0 cap d.toArray w eg (cmpPH_lays g d.toArray.size w) hH hg (by simp; omega)
  change Calls Tryz.prog 66 _ _ _ at hcon
  rw [List.size_toArray, hl] at hcon
  refine hcon.mono ?_
  rintro e w' ⟨he, d', m, os, hp, hsd, rfl⟩
  rw [← hl, ← List.size_toArray] at hp hsd
  obtain ⟨h1, h2⟩ := perm_listP hp
  have hSW : SWK encPH 3 w g 0 d' (sortWorldK encPH 3 w g 0 m d' os) := ⟨m, os, rfl⟩
  have hH' := hSW.holds hg hH (by simpa using h2)
  have hR := reads_holdsP (d := d'.toList) (hSW.lt hg) (by simpa using hH')
  refine ⟨he, d'.toList, h1, ?_, ?_, grownBy_sortP d'⟩
  · rw [List.pairwise_iff_getElem]
    intro i j hi hj hij
    have := hsd i j (Nat.zero_le _) hij (by simpa [h2] using hj)
    unfold ltOf at this
    rw [decide_eq_false_iff_not] at this
    rw [getElem!_pos d' j (by simpa using hj), getElem!_pos d' i (by simpa using hi)] at this
    simpa using this
  · have := own_sortP (m := m) (os := os) hown (by rw [h2, hl]) hR
    exact this

theorem rowPV_pch {ps : List Parc} {hs : List Hd} (h : hs.length = ps.length) : rowPV ps hs = pchV (ps.zip hs) := by
  induction ps generalizing hs with
  | nil => simp [rowPV, pchV]
  | cons y ps ih =>
    rcases hs with _ | ⟨g, hs⟩
    · simp at h
    · show pcV y g ++ rowPV ps hs = _
      rw [ih (by simpa using h)]
      rfl
theorem pch_rowPV (d : List PcH) : pchV d = rowPV (d.map (·.1)) (d.map (·.2)) := by
  rw [rowPV_pch (by simp)]
  have e : (d.map (·.1)).zip (d.map (·.2)) = d := by
    induction d with
    | nil => rfl
    | cons x d ih => simp [ih]
  rw [e]
end Go.Proofs.YtmegmokjjlelgaaGreat
namespace Go.Proofs.YtmegmokjjlelgaaGreat
open Go.RowKit Go.Lib
theorem res_store {w W : World} {g : Nat} {a b : Value} (hb : Below w.heap.size w W) (hg : w.heap.size ≤ g) (hk : Blk W g 26 #[a, b]) (u v : Value) :
    ∃ V, V = (W.setCell ⟨g, 0, none⟩ u).setCell ⟨g, 1, none⟩ v ∧ V.cell? ⟨g, 0, none⟩ = some u ∧ V.cell? ⟨g, 1, none⟩ = some v ∧ Below w.heap.size w V := by
  have hK := Blk.set_ (Blk.set_ hk 0 u) 1 v
  exact ⟨_, rfl, by rw [Blk.cell hK 0]; rfl, by rw [Blk.cell hK 1]; rfl, (hb.setCell (p := ⟨g, 0, none⟩) hg u).setCell (p := ⟨g, 1, none⟩) hg v⟩
theorem plk_facts4 {W : World} {g : Nat} {a b : Value} (hk : Blk W g 26 #[a, b]) : W.cell? ⟨g, 0, none⟩ = some a ∧ W.cell? ⟨g, 1, none⟩ = some b ∧ W.frozen? ⟨g, 0, none⟩ = false ∧ W.frozen? ⟨g, 1, none⟩ = false := ⟨Blk.cell hk 0, Blk.cell hk 1, Blk.frozen hk 0, Blk.frozen hk 1⟩
def ResPostS (r : Plan) (z : Int) (w : World) (e : Ending) (w' : World) : Prop := ∃ A n c A' n' c' hs, e = .returned (.tuple #[planV A n c A' n' c', .int .i64 z]) ∧ PlanOwn w.heap.size w' A n c A' n' c' r hs ∧ Below w.heap.size w w'
theorem planOwn_nil (B : Nat) (W : World) : PlanOwn B W none 0 0 none 0 0 ⟨[], []⟩ [] := ⟨World.ownsRow_nil _ _ _ _, World.ownsRow_nil _ _ _ _, rfl, rfl, fun j hj => absurd hj (Nat.not_lt_zero _), ⟨⟨by simp, by simp⟩, by simp, by simp⟩⟩
theorem resPostS_no {w V : World} {z : Int} {r : Plan} (hr : r = ⟨[], []⟩) (hb : Below w.heap.size w V) : ResPostS r z w (.returned (.tuple #[planV none 0 0 none 0 0, .int .i64 z])) V := ⟨none, 0, 0, none, 0, 0, [], rfl, by rw [hr]; exact planOwn_nil _ V, hb⟩
-- MARK
end Go.Proofs.YtmegmokjjlelgaaGreat
namespace Go.Proofs.YtmegmokjjlelgaaGreat
open Go.RowKit Go.Lib
theorem atP_each {g : List Pt → List Pt} {p : Plan} {id : Int} : atP (eachP g p).parcels id = atP p.parcels id := by
  unfold atP eachP
  simp only [List.any_map, List.findIdx_map]
  rfl
theorem atP_spB {p : Plan} {a b : Pt} {id : Int} : atP (spB p a b).parcels id = atP p.parcels id := by unfold spB; rw [atP_each, atP_each]
theorem PlanOwn.snoc {B n c n' c' m c3 cp' : Nat} {W W' : World} {A A' A3 Ap' : Option Addr} {p : Plan} {hs : List Hd} {x : Parc} (h : PlanOwn B W A n c A' n' c' p hs) (hnew : W.ownsRow B 44 2 (.slice A3 m c3) m (ptsV x.ring))
    (hown : W'.ownsRow B 40 3 (.slice Ap' (n' + 1) cp') (n' + 1) (rowPV p.parcels hs ++ pcV x (A3, m, c3))) (hg : W.grownBy W' (Value.slice A' n' c').ownBlock) (hf : (⟨p.outer, p.parcels ++ [x]⟩ : Plan).fits) :
    PlanOwn B W' A n c Ap' (n' + 1) cp' ⟨p.outer, p.parcels ++ [x]⟩ (hs ++ [(A3, m, c3)]) := by
  have hkeep : ∀ {v : Value} {j : Nat} {xs : List Value}, W.ownsRow B 44 2 v j xs → W'.ownsRow B 44 2 v j xs := fun {v j xs} ho => by
    refine own_heap ho fun i hi => hg.block i (ho.lt i hi).2 (fun e => ?_)
    exact own_own_ne h.row ho (by decide) (g := i) e.symm hi
  have hl := h.lenp
  have hl2 := h.len
  refine ⟨hkeep h.out, ?_, by simp [hl2], by simp [hl], fun j hj => ?_, hf⟩
  · show World.ownsRow _ _ _ _ _ _ (rowPV (p.parcels ++ [x]) _)
    rw [rowPV_snoc _ _ (by omega)]
    exact hown
  · by_cases hjn : j < n'
    · rw [hdAt_snoc_lt (by omega)]
      have e : pcAt (p.parcels ++ [x]) j = pcAt p.parcels j := by unfold pcAt; rw [List.getElem?_append_left (by omega)]
      show World.ownsRow _ _ _ _ _ _ (ptsV (pcAt (p.parcels ++ [x]) j).ring)
      rw [e]
      exact hkeep (h.rings j hjn)
    · obtain rfl : j = hs.length := by omega
      rw [hdAt_snoc_eq]
      have e : pcAt (p.parcels ++ [x]) hs.length = x := by unfold pcAt; rw [hl2, ← hl]; simp
      show World.ownsRow _ _ _ _ _ _ (ptsV (pcAt (p.parcels ++ [x]) hs.length).ring)
      rw [e]
      exact hkeep hnew
theorem fits_perm {o : List Pt} {ps qs : List Parc} (hp : qs.Perm ps) (h : (⟨o, ps⟩ : Plan).fits) : (⟨o, qs⟩ : Plan).fits := ⟨h.1, by show qs.length ≤ _; rw [hp.length_eq]; exact h.2.1, fun x hx => h.2.2 x (hp.mem_iff.1 hx)⟩
theorem PlanOwn.sorted {B n c n' cp g : Nat} {W W' : World} {A : Option Addr} {p : Plan} {hs : List Hd} {d : List PcH} (h : PlanOwn B W A n c (some ⟨g, 0, none⟩) n' cp p hs) (hd : d.Perm (p.parcels.zip hs))
    (hown : W'.ownsRow B 40 3 (.slice (some ⟨g, 0, none⟩) n' cp) n' (pchV d)) (hg : W.grownBy W' (some g)) : PlanOwn B W' A n c (some ⟨g, 0, none⟩) n' cp ⟨p.outer, d.map (·.1)⟩ (d.map (·.2)) := by
  have hkeep : ∀ {v : Value} {j : Nat} {xs : List Value}, W.ownsRow B 44 2 v j xs → W'.ownsRow B 44 2 v j xs := fun {v j xs} ho => by
    refine own_heap ho fun i hi => hg.block i (ho.lt i hi).2 (fun e => ?_)
    exact own_own_ne h.row ho (by decide) (g := i) e.symm hi
  have hl := h.lenp
  have hl2 := h.len
  have hdl : d.length = n' := by rw [hd.length_eq, List.length_zip, hl, hl2, Nat.min_self]
  have hmap : (d.map (·.1)).Perm p.parcels := by
    have := hd.map (·.1)
    rwa [List.map_fst_zip (by omega)] at this
  refine ⟨hkeep h.out, by rw [← pch_rowPV]; exact hown, by simp [hdl], by simp [hdl], fun j hj => ?_, fits_perm hmap h.fits⟩
  have hjd : j < d.length := by omega
  have hm : d[j] ∈ p.parcels.zip hs := hd.mem_iff.1 (List.getElem_mem hjd)
  obtain ⟨i, hi, he⟩ := List.getElem_of_mem hm
  rw [List.length_zip] at hi
  have hi1 : i < p.parcels.length := by omega
  have hi2 : i < hs.length := by omega
  rw [List.getElem_zip] at he
  have e1 : hdAt (d.map (·.2)) j = hdAt hs i := by
    unfold hdAt
    rw [List.getElem?_map, List.getElem?_eq_getElem hjd, List.getElem?_eq_getElem hi2, ← he]
    rfl
  have e2 : pcAt (d.map (·.1)) j = pcAt p.parcels i := by
    unfold pcAt
    rw [List.getElem?_map, List.getElem?_eq_getElem hjd, List.getElem?_eq_getElem hi1, ← he]
    rfl
  show World.ownsRow _ _ _ _ _ _ (ptsV (pcAt (d.map (·.1)) j).ring)
  rw [e1, e2]
  exact hkeep (h.rings i (by omega))
theorem PlanOwn.hdC {B n c n' c' k : Nat} {W : World} {A : Option Addr} {ad : Addr} {p : Plan} {hs : List Hd} (h : PlanOwn B W A n c (some ad) n' c' p hs) (hk : k < n') : W.cell? ⟨(ad.add (k * 3)).block, (ad.add (k * 3)).off + 1, none⟩ = some (.slice (hdAt hs k).1 (hdAt hs k).2.1 (hdAt hs k).2.2) := by
  obtain ⟨ad', e, hb, hc⟩ := (Reads.of_own h.row).2 (by omega)
  cases e
  obtain ⟨-, g2, -⟩ := rowPV_at (hs := hs) (ps := p.parcels) (by rw [h.len, h.lenp]) (k := k) (by rw [h.lenp]; exact hk)
  rw [add_off3 _ _ _ (by omega)]
  exact hc _ _ g2
theorem PlanOwn.frzC {B n c n' c' k : Nat} {W : World} {A : Option Addr} {ad : Addr} {p : Plan} {hs : List Hd} (h : PlanOwn B W A n c (some ad) n' c' p hs) (hk : k < n') : W.frozen? ⟨(ad.add (k * 3)).block, (ad.add (k * 3)).off + 1, none⟩ = false := by
  obtain ⟨g, cap, e, hb, hlt⟩ := h.row.form (by omega)
  have e1 : ad = ⟨g, 0, none⟩ := by cases e; rfl
  have e2 : cap = c' := by cases e; rfl
  subst e1 e2
  have hadr : (⟨((⟨g, 0, none⟩ : Addr).add (k * 3)).block, ((⟨g, 0, none⟩ : Addr).add (k * 3)).off + 1, none⟩ : Addr) = ⟨g, k * 3 + 1, none⟩ := by rw [add_off3 _ _ _ (by omega)]; simp [Addr.add]
  rw [hadr]
  exact h.row.frozenAt _
/-- A box with a plan of the call's own. -/
def QBox (B : Nat) (W V : World) (q : Plan) (x : Value) : Prop := ∃ (Bq : Nat) (A1 : Option Addr) (n1 c1 : Nat) (A2 : Option Addr) (n2 c2 : Nat) (hs : List Hd), x = .pointer (some ⟨Bq, 0, none⟩) ∧ W.heap.size ≤ Bq ∧ PlK V Bq A1 n1 c1 A2 n2 c2 ∧ PlanOwn B V A1 n1 c1 A2 n2 c2 q hs ∧ Below W.heap.size W V
theorem qbox_1 {B n1 c1 n2 c2 : Nat} {W V : World} {A1 A2 : Option Addr} {q : Plan} {hs : List Hd} (hb : Below W.heap.size W V) (hpo : PlanOwn B V A1 n1 c1 A2 n2 c2 q hs) : QBox B W (V.alloc (.cells #[.slice A1 n1 c1, .slice A2 n2 c2] 26)) q (.pointer (some ⟨V.heap.size, 0, none⟩)) := by
  have hba : Below V.heap.size V (V.alloc (.cells #[.slice A1 n1 c1, .slice A2 n2 c2] 26)) := (Below.refl _ _).alloc (Nat.le_refl _) _
  exact ⟨_, A1, n1, c1, A2, n2, c2, hs, rfl, hb.size, PlK.new V A1 n1 c1 A2 n2 c2, hpo.below hba, below_on hb (Nat.le_refl _) hba⟩
theorem qbox_2 {B n1 c1 n2 c2 g : Nat} {W V : World} {A1 A2 : Option Addr} {q : Plan} {hs : List Hd} (hb : Below W.heap.size W V) (hg : W.heap.size ≤ g) (hk : PlK V g none 0 0 none 0 0) (hpo : PlanOwn B V A1 n1 c1 A2 n2 c2 q hs) : QBox B W ((V.setCell ⟨g, 0, none⟩ (.slice A1 n1 c1)).setCell ⟨g, 1, none⟩ (.slice A2 n2 c2)) q (.pointer (some ⟨g, 0, none⟩)) := by
  have hk2 := Blk.set_ (Blk.set_ hk 0 (.slice A1 n1 c1)) 1 (.slice A2 n2 c2)
  simp only [List.setIfInBounds_toArray, List.set_cons_zero, List.set_cons_succ] at hk2
  exact ⟨g, A1, n1, c1, A2, n2, c2, hs, rfl, hg, hk2, (hpo.store hk (by decide) (by decide) 0 _).store (Blk.set_ hk 0 _) (by decide) (by decide) 1 _, (hb.setCell (p := ⟨g, 0, none⟩) hg _).setCell (p := ⟨g, 1, none⟩) hg _⟩
theorem cutWayI_any (xs : List Pt) (f t : Pt) (A : Option Addr) (n c : Nat) (w : World) (hr : Reads w w.heap.size 2 A n (ptsV xs)) (hf : f ∈ xs) (ht : t ∈ xs) (hn : n ≤ 1048576) :
    Calls Tryz.prog 65 #[.slice A n c, .agg #[.int .i64 f.x, .int .i64 f.y], .agg #[.int .i64 t.x, .int .i64 t.y]] w fun e w' => ∃ A' c', e = .returned (.slice A' (wayI xs f t).length c') ∧ w'.ownsRow w.heap.size 44 2 (.slice A' (wayI xs f t).length c') (wayI xs f t).length (ptsV (wayI xs f t)) ∧ Below w.heap.size w w' := by
  have hl := hr.lenPt
  refine (cutWay_any xs f t A n c w hr hf ht hn).mono ?_
  rintro e w' ⟨A', c', i, K, rfl, hi, hin, hK, h1, h2, ho, hb⟩
  have e1 : wayI xs f t = wayL xs (i + 1) K := wayI_eq hi (by omega) (by rw [hl]; exact h1) (fun j hj => by rw [hl]; exact h2 j hj)
  rw [e1, wayL_len]
  exact ⟨A', c', rfl, ho, hb⟩
theorem setR_fits {p : Plan} {k : Nat} {ys : List Pt} (h : p.fits) (hk : k < p.parcels.length) (hl : ys.length ≤ 8796093022208) (hy : ∀ q ∈ ys, q.inI) : (setR p k ys).fits := by
  refine ⟨h.1, by show (List.set _ _ _).length ≤ _; rw [List.length_set]; exact h.2.1, fun x hx => ?_⟩
  rcases List.mem_or_eq_of_mem_set hx with h1 | rfl
  · exact h.2.2 x h1
  · exact ⟨hl, hy, (h.pc hk).2.2.1, (h.pc hk).2.2.2⟩
theorem snoc_fits {p : Plan} {x : Parc} (h : p.fits) (hl : p.parcels.length ≤ 1048576) (hx : x.fits) : (⟨p.outer, p.parcels ++ [x]⟩ : Plan).fits := by
  refine ⟨h.1, by show (p.parcels ++ [x]).length ≤ _; rw [List.length_append]; simp; omega, fun y hy => ?_⟩
  rcases List.mem_append.1 hy with h1 | h1
  · exact h.2.2 y h1
  · rw [List.mem_singleton.1 h1]; exact hx
theorem spB_fits {p : Plan} {a b : Pt} (hs : SoundP p) (hf : p.fits) (ha : good a = true) (hb : good b = true) : (spB p a b).fits :=
  insW_fits (fun xs hx => by obtain ⟨h1, h2⟩ := cut_rings1 hs ha xs hx; exact ⟨h1, by omega⟩) (ins_fits hs hf ha) hb
theorem setR_ids {p : Plan} {k : Nat} {ys : List Pt} : (setR p k ys).parcels.map (·.id) = p.parcels.map (·.id) := by
  refine List.ext_getElem (by simp [setR]) fun i h1 h2 => ?_
  simp only [setR, List.getElem_map, List.getElem_set]
  split
  · rename_i e
    subst e
    rw [pcAt_lt (by simpa using h2)]
  · rfl
theorem each_ids {g : List Pt → List Pt} {p : Plan} : (eachP g p).parcels.map (·.id) = p.parcels.map (·.id) := by simp [eachP, eachX]
theorem pw_ids {ps qs : List Parc} (h : qs.map (·.id) = ps.map (·.id)) (hp : ps.Pairwise (fun x y => x.id < y.id)) : qs.Pairwise (fun x y => x.id < y.id) := by
  have h1 : (ps.map (·.id)).Pairwise (fun x y => x < y) := List.pairwise_map.2 hp
  rw [← h] at h1
  exact List.pairwise_map.1 h1
theorem no_ids {ps qs : List Parc} {id : Int} (h : qs.map (·.id) = ps.map (·.id)) (hno : atP ps id < 0) : ∀ y ∈ qs, y.id ≠ id := fun y hy e => by
  have : y.id ∈ ps.map (·.id) := by rw [← h]; exact List.mem_map.2 ⟨y, hy, rfl⟩
  obtain ⟨x, hx, hxe⟩ := List.mem_map.1 this
  exact atP_no hno hx (by rw [hxe, e])
end Go.Proofs.YtmegmokjjlelgaaGreat
