/- slices.SortFunc of parcels, by their numbers: laid off the shelf, and the order's walk; cut.way: the walk; plan.Insert: the walk; what it makes of a sound plan; Rings stored into an own plan; ref02.Least at longer rings; least twice is least. -/
import Derived.Deep.CutBlock
import Derived.Deep.DeepCutAuto
import Derived.Test.YtnpjggcgnbgkjaaGreatK16
import Derived.Test.YtnpjggcgnbgkjaaGreatK17
import Derived.Test.YtnpjggcgnbgkjaaGreatK26
import Derived.Test.YtnpjggcgnbgkjaaGreatK27
namespace Go.Proofs.YtnpjggcgnbgkjaaGreat
open Go.Shelf
def sortPc_ren : Go.Shelf.Ren := ⟨fun | 6 => 134 | 15 => 156 | 14 => 205 | 28 => 229 | 29 => 230 | 20 => 257 | 21 => 258 | 22 => 259 | 23 => 260 | 24 => 261 | 25 => 262 | 26 => 263 | 27 => 264 | 46 => 298 | 47 => 274 | 48 => 275 | 49 => 299 | 50 => 300 | 57 => 325 | n => n, fun | 22 => 24 | 24 => 37 | 25 => 194 | 3 => 3 | 39 => 203 | 0 => 0 | 53 => 156 | 55 => 38 | 4 => 4 | 46 => 278 | 45 => 277 | 50 => 181 | 5 => 5 | 9 => 9 | 66 => 313 | 70 => 317 | 76 => 346 | 77 => 347 | n => n, fun | n => n⟩
theorem sortPc : Go.Proofs.SlLaysF0.n6 Tryz.prog sortPc_ren := {
  mixed := by kernel_rfl
  f6 := ⟨Tryz.f134.name, by decide, Tryz.func134.trans (congrArg some (by kernel_rfl))⟩
  f14 := ⟨Tryz.f205.name, by decide, Tryz.func205.trans (congrArg some (by kernel_rfl))⟩
  f15 := Tryz.func156.trans (congrArg some (by kernel_rfl))
  f20 := ⟨Tryz.f257.name, by decide, Tryz.func257.trans (congrArg some (by kernel_rfl))⟩
  f21 := ⟨Tryz.f258.name, by decide, Tryz.func258.trans (congrArg some (by kernel_rfl))⟩
  f22 := ⟨Tryz.f259.name, by decide, Tryz.func259.trans (congrArg some (by kernel_rfl))⟩
  f23 := ⟨Tryz.f260.name, by decide, Tryz.func260.trans (congrArg some (by kernel_rfl))⟩
  f24 := ⟨Tryz.f261.name, by decide, Tryz.func261.trans (congrArg some (by kernel_rfl))⟩
  f25 := ⟨Tryz.f262.name, by decide, Tryz.func262.trans (congrArg some (by kernel_rfl))⟩
  f26 := ⟨Tryz.f263.name, by decide, Tryz.func263.trans (congrArg some (by kernel_rfl))⟩
  f27 := ⟨Tryz.f264.name, by decide, Tryz.func264.trans (congrArg some (by kernel_rfl))⟩
  f28 := Tryz.func229.trans (congrArg some (by kernel_rfl))
  f29 := Tryz.func230.trans (congrArg some (by kernel_rfl))
  f46 := ⟨Tryz.f298.name, by decide, Tryz.func298.trans (congrArg some (by kernel_rfl))⟩
  f47 := Tryz.func274.trans (congrArg some (by kernel_rfl))
  f48 := Tryz.func275.trans (congrArg some (by kernel_rfl))
  f49 := ⟨Tryz.f299.name, by decide, Tryz.func299.trans (congrArg some (by kernel_rfl))⟩
  f50 := ⟨Tryz.f300.name, by decide, Tryz.func300.trans (congrArg some (by kernel_rfl))⟩
  f57 := ⟨Tryz.f325.name, by decide, Tryz.func325.trans (congrArg some (by kernel_rfl))⟩
  t0 := Tryz.underlying0
  a0 := Tryz.isAgg0
  z0 := Tryz.sizeOf0
  v0 := Tryz.zeroValue0
  t3 := Tryz.underlying3
  a3 := Tryz.isAgg3
  z3 := Tryz.sizeOf3
  v3 := Tryz.zeroValue3
  t4 := Tryz.underlying4
  a4 := Tryz.isAgg4
  z4 := Tryz.sizeOf4
  v4 := Tryz.zeroValue4
  t5 := Tryz.underlying5
  a5 := Tryz.isAgg5
  z5 := Tryz.sizeOf5
  v5 := Tryz.zeroValue5
  t9 := Tryz.underlying9
  a9 := Tryz.isAgg9
  z9 := Tryz.sizeOf9
  v9 := Tryz.zeroValue9
  t22 := Tryz.underlying24
  a22 := Tryz.isAgg24
  z22 := Tryz.sizeOf24
  v22 := Tryz.zeroValue24
  t25 := Tryz.underlying194
  a25 := Tryz.isAgg194
  z25 := Tryz.sizeOf194
  v25 := Tryz.zeroValue194
  t39 := Tryz.underlying203
  a39 := Tryz.isAgg203
  z39 := Tryz.sizeOf203
  v39 := Tryz.zeroValue203
  t45 := Tryz.underlying277
  a45 := Tryz.isAgg277
  z45 := Tryz.sizeOf277
  v45 := Tryz.zeroValue277
  t46 := Tryz.underlying278
  a46 := Tryz.isAgg278
  z46 := Tryz.sizeOf278
  v46 := Tryz.zeroValue278
  t50 := Tryz.underlying181
  a50 := Tryz.isAgg181
  z50 := Tryz.sizeOf181
  v50 := Tryz.zeroValue181
  t53 := Tryz.underlying156
  a53 := Tryz.isAgg156
  z53 := Tryz.sizeOf156
  v53 := Tryz.zeroValue156
  t55 := Tryz.underlying38
  a55 := Tryz.isAgg38
  z55 := Tryz.sizeOf38
  v55 := Tryz.zeroValue38
  t66 := Tryz.underlying313
  a66 := Tryz.isAgg313
  z66 := Tryz.sizeOf313
  v66 := Tryz.zeroValue313
  t70 := Tryz.underlying317
  a70 := Tryz.isAgg317
  z70 := Tryz.sizeOf317
  v70 := Tryz.zeroValue317
  t76 := Tryz.underlying346
  a76 := Tryz.isAgg346
  z76 := Tryz.sizeOf346
  v76 := Tryz.zeroValue346
  t77 := Tryz.underlying347
  a77 := Tryz.isAgg347
  z77 := Tryz.sizeOf347
  v77 := Tryz.zeroValue347 }
end Go.Proofs.YtnpjggcgnbgkjaaGreat
namespace Go.Proofs.YtnpjggcgnbgkjaaGreat
open Go.RowKit Go.Shelf Go.Sort
abbrev PcH := Parc × Hd
instance : Inhabited PcH := ⟨(⟨0, [], ByteArray.empty⟩, (none, 0, 0))⟩
def cmpPH (e f : PcH) : Int := cmpI e.1.id f.1.id
theorem cmpPH_neg {e f : PcH} : cmpPH e f < 0 ↔ e.1.id < f.1.id := by
  unfold cmpPH
  rcases cmpI_cases e.1.id f.1.id with ⟨h, e'⟩ | ⟨h, e'⟩ | ⟨h, e'⟩ <;> rw [e'] <;> simp <;> omega
theorem pch_swo : SWO (ltOf cmpPH) where
  irrefl x := by unfold ltOf; rw [decide_eq_false_iff_not, cmpPH_neg]; omega
  trans x y z h1 h2 := by
    unfold ltOf at *
    rw [decide_eq_true_iff, cmpPH_neg] at *
    omega
  ntrans x y z h1 h2 := by
    unfold ltOf at *
    rw [decide_eq_false_iff_not, cmpPH_neg] at *
    omega
set_option maxRecDepth 100000 in
set_option maxHeartbeats 1600000 in
theorem split1_grows (e f : PcH) (w : World) :
    Calls Tryz.prog 135 #[.agg #[.int .i64 e.1.id, .slice e.2.1 e.2.2.1 e.2.2.2, .string e.1.owner], .agg #[.int .i64 f.1.id, .slice f.2.1 f.2.2.1 f.2.2.2, .string f.1.owner]] w fun r w' => r = .returned (.int .i64 (cmpPH e f)) ∧ Grows w w' := by
  have hG : Grows w ((w.alloc (.cells #[.int .i64 e.1.id, .slice e.2.1 e.2.2.1 e.2.2.2, .string e.1.owner] 37)).alloc (.cells #[.int .i64 f.1.id, .slice f.2.1 f.2.2.1 f.2.2.2, .string f.1.owner] 37)) := ((Grows.refl _).alloc _).alloc _
  have HC : Hid (cmpPH e f = cmpI e.1.id f.1.id) := rfl
  have HG := Lib.hid hG
  clear hG
  go_enter Tryz.func135, Tryz.ntmps135
  go_wp2_with fail
  refine (compare_any _ _ _).mono ?_
  rintro r w' ⟨rfl, rfl⟩
  go_wp2_with fail
  go_ret
  exact ⟨by rw [HC.out]; rfl, HG.out⟩
def encPH (e : PcH) : List Value := [.int .i64 e.1.id, .slice e.2.1 e.2.2.1 e.2.2.2, .string e.1.owner]
def pchV (l : List PcH) : List Value := l.flatMap encPH
theorem pchV_length (l : List PcH) : (pchV l).length = l.length * 3 := by
  induction l with
  | nil => rfl
  | cons e l ih => unfold pchV at *; rw [List.flatMap_cons, List.length_append, ih]; simp [encPH]; omega
theorem pchV_one (l : List PcH) : ∀ u ∈ pchV l, u.oneCell' = true := by
  intro u hu
  unfold pchV encPH at hu
  simp only [List.mem_flatMap] at hu
  obtain ⟨e, -, he⟩ := hu
  simp at he
  rcases he with rfl | rfl | rfl <;> rfl
theorem pchV_at {l : List PcH} {j : Nat} {u : Value} (h : (pchV l)[j]? = some u) : ∃ hk : j / 3 < l.length, u = (encPH l[j / 3])[j % 3]! := by
  induction l generalizing j with
  | nil => simp [pchV] at h
  | cons e l ih =>
    have hc : pchV (e :: l) = encPH e ++ pchV l := rfl
    rw [hc] at h
    by_cases hj : j < 3
    · rw [List.getElem?_append_left (by simp [encPH]; omega)] at h
      have h0 : j / 3 = 0 := by omega
      have h1 : j % 3 = j := by omega
      refine ⟨by simp [h0], ?_⟩
      simp only [h0, h1, List.getElem_cons_zero]
      rw [List.getElem!_eq_getElem?_getD, h]
      rfl
    · rw [List.getElem?_append_right (by simp [encPH]; omega)] at h
      have hl : (encPH e).length = 3 := rfl
      rw [hl] at h
      obtain ⟨hk, hu⟩ := ih h
      have e1 : j / 3 = (j - 3) / 3 + 1 := by omega
      have e2 : j % 3 = (j - 3) % 3 := by omega
      refine ⟨by simp; omega, ?_⟩
      simp only [e1, e2, List.getElem_cons_succ]
      exact hu
theorem holdsP_own {w : World} {base : Nat} {t : TypeId} {g n cap : Nat} {d : List PcH} (h : w.ownsRow base t 3 (.slice (some ⟨g, 0, none⟩) n cap) n (pchV d)) : HoldsK encPH 3 w g 0 d.toArray := fun j hj => by
  rw [size_flatK] at hj
  have hl : d.length * 3 = n * 3 := by rw [← pchV_length]; exact h.1
  have hj' : j < n * 3 := by simp at hj; omega
  refine ⟨?_, ?_⟩
  · rw [Nat.zero_add, h.cellAt j hj', get_flatK _ _ _ _ hj]
    have hl2 : j < (pchV d).length := by rw [h.1]; exact hj'
    obtain ⟨hk, hu⟩ := pchV_at (List.getElem?_eq_getElem hl2)
    rw [List.getElem?_eq_getElem hl2, hu]
    simp [hk]
  · rw [Nat.zero_add]
    exact h.frozenAt j
theorem reads_holdsP {w : World} {g : Nat} {d : List PcH} (hg : g < w.heap.size) (h : HoldsK encPH 3 w g 0 d.toArray) : Reads w w.heap.size 3 (some ⟨g, 0, none⟩) d.length (pchV d) := by
  refine ⟨pchV_length d, fun _ => ⟨_, rfl, hg, fun j u hu => ?_⟩⟩
  obtain ⟨hk, rfl⟩ := pchV_at hu
  rw [add_row]
  have := (h.cell (i := j / 3) (c := j % 3) (by simpa using hk) (by omega)).1
  rw [show 0 + j / 3 * 3 + j % 3 = j by omega] at this
  rw [this]
  simp [hk]
theorem grownBy_sortP {w : World} {g n : Nat} {os : Array Obj} (d : Array PcH) : w.grownBy (sortWorldK encPH 3 w g 0 n d os) (some g) := by
  refine ⟨rfl, rfl, rfl, by simp [sortWorldK, putRowK, grow, Sort.ahead], fun k hk hne => ?_⟩
  unfold sortWorldK
  rw [heap_grow_old _ _ (by simpa [putRowK, Sort.ahead] using hk)]
  have : g ≠ k := fun e => hne (by rw [e])
  simp [putRowK, putRow, mapBlock, Sort.ahead, Array.getElem?_modify, this]
theorem cmpPH_lays (g size : Nat) (w : World) : CmpLays Tryz.prog 135 #[] encPH 3 cmpPH g 0 size w := fun _ _ _ _ x y => split1_grows x y _
theorem own_sortP {w : World} {base : Nat} {t : TypeId} {g n cap m : Nat} {d : List PcH} {d' : Array PcH} {os : Array Obj} (h : w.ownsRow base t 3 (.slice (some ⟨g, 0, none⟩) n cap) n (pchV d)) (hs : d'.size = n)
    (hR : Reads (sortWorldK encPH 3 w g 0 m d' os) (sortWorldK encPH 3 w g 0 m d' os).heap.size 3 (some ⟨g, 0, none⟩) d'.toList.length (pchV d'.toList)) :
    (sortWorldK encPH 3 w g 0 m d' os).ownsRow base t 3 (.slice (some ⟨g, 0, none⟩) n cap) n (pchV d'.toList) := by
  rcases h.2 with ⟨h0, -⟩ | ⟨g', cap', cur, he, hb, hg, hnc, hcm, hcs, htk⟩
  · cases h0
  · cases he
    have hlt : g < w.heap.size := (Array.getElem?_eq_some_iff.1 hg).1
    have hW : ∃ cur', (sortWorldK encPH 3 w g 0 m d' os).heap[g]? = some (.cells cur' t (0, 0)) ∧ cur'.size = cur.size := by
      refine ⟨putCells id 0 (flatK encPH 3 d') cur, ?_, ?_⟩
      · unfold sortWorldK
        rw [heap_grow_old _ _ (by simpa [putRowK, putRow, mapBlock, Sort.ahead] using hlt)]
        simp [putRowK, putRow, mapBlock, Sort.ahead, Array.getElem?_modify, hg, onCells]
      · simp [putCells]
    obtain ⟨cur', h1, h2⟩ := hW
    refine ⟨by rw [pchV_length]; simp [hs], .inr ⟨g, cap, cur', rfl, hb, h1, hnc, hcm, by rw [h2, hcs], ?_⟩⟩
    apply List.ext_getElem?
    intro j
    by_cases hj : j < n * 3
    · rw [List.getElem?_take, if_pos hj, Array.getElem?_toList, ← cell_of_row _ g j cur' t (0, 0) h1]
      obtain ⟨ad, e, -, hc⟩ := hR.2 (by simp; omega)
      cases e
      have hl : j < (pchV d'.toList).length := by rw [pchV_length]; simp [hs]; omega
      have := hc j _ (List.getElem?_eq_getElem hl)
      rw [add_row] at this
      rw [this, List.getElem?_eq_getElem hl]
    · rw [List.getElem?_eq_none (by simp; omega), List.getElem?_eq_none (by rw [pchV_length]; simp [hs]; omega)]
theorem perm_listP {d : List PcH} {d' : Array PcH} (h : PermIn 0 d.toArray.size d.toArray d') : d'.toList.Perm d ∧ d'.size = d.length := by
  obtain ⟨h1, -, h2⟩ := h
  refine ⟨?_, by simpa using h1⟩
  rw [← h1, Array.extract_size, h1, Array.extract_size] at h2
  simpa using h2
theorem sortPc_any (d : List PcH) (g n cap base : Nat) (w : World) (hown : w.ownsRow base 37 3 (.slice (some ⟨g, 0, none⟩) n cap) n (pchV d)) (hn : n ≤ 1048576) :
    Calls Tryz.prog 134 #[.slice (some ⟨g, 0, none⟩) n cap, .func (.func 135) #[] #[]] w fun e w' => e = .returned (.tuple #[]) ∧ ∃ d' : List PcH, d'.Perm d ∧ d'.Pairwise (fun e f => ¬ cmpPH f e < 0) ∧ w'.ownsRow base 37 3 (.slice (some ⟨g, 0, none⟩) n cap) n (pchV d') ∧ w.grownBy w' (some g) := by
  have hl : d.length = n := by have h := hown.1; rw [pchV_length] at h; omega
  have hg : g < w.heap.size := (hown.lt g rfl).2
  have hH := holdsP_own hown
  have eg : ∀ args w, (callFunc 135 args).run Tryz.prog w = .ok (.enter 135 args) w := enters_of Tryz.func135 (by kernel_rfl) rfl
  have hcon := AnyQ.slices_SortFunc sortPc 3 Tryz.isAgg37 Tryz.sizeOf37 encPH (fun _ => rfl) (fun x v hv => by simp [encPH] at hv; rcases hv with rfl | rfl | rfl <;> rfl) cmpPH pch_swo 135 #[] g 0 cap d.toArray w eg (cmpPH_lays g d.toArray.size w) hH hg (by simp; omega)
  change Calls Tryz.prog 134 _ _ _ at hcon
  rw [List.size_toArray, hl] at hcon
  refine hcon.mono ?_
  rintro e w' ⟨he, d', m, os, hp, hsd, rfl⟩
  rw [← hl, ← List.size_toArray] at hp hsd
  obtain ⟨h1, h2⟩ := perm_listP hp
  have hSW : SWK encPH 3 w g 0 d' (sortWorldK encPH 3 w g 0 m d' os) := ⟨m, os, rfl⟩
  have hH' := hSW.holds hg hH (by simpa using h2)
  have hR := reads_holdsP (d := d'.toList) (hSW.lt hg) (by simpa using hH')
  refine ⟨he, d'.toList, h1, ?_, ?_, grownBy_sortP d'⟩
  · rw [List.pairwise_iff_getElem]
    intro i j hi hj hij
    have := hsd i j (Nat.zero_le _) hij (by simpa [h2] using hj)
    unfold ltOf at this
    rw [decide_eq_false_iff_not] at this
    rw [getElem!_pos d' j (by simpa using hj), getElem!_pos d' i (by simpa using hi)] at this
    simpa using this
  · have := own_sortP (m := m) (os := os) hown (by rw [h2, hl]) hR
    exact this

theorem rowPV_pch {ps : List Parc} {hs : List Hd} (h : hs.length = ps.length) : rowPV ps hs = pchV (ps.zip hs) := by
  induction ps generalizing hs with
  | nil => simp [rowPV, pchV]
  | cons y ps ih =>
    rcases hs with _ | ⟨g, hs⟩
    · simp at h
    · show pcV y g ++ rowPV ps hs = _
      rw [ih (by simpa using h)]
      rfl
theorem pch_rowPV (d : List PcH) : pchV d = rowPV (d.map (·.1)) (d.map (·.2)) := by
  rw [rowPV_pch (by simp)]
  have e : (d.map (·.1)).zip (d.map (·.2)) = d := by
    induction d with
    | nil => rfl
    | cons x d ih => simp [ih]
  rw [e]
end Go.Proofs.YtnpjggcgnbgkjaaGreat
namespace Go.Proofs.YtnpjggcgnbgkjaaGreat
open Go.RowKit Go.Lib
def wayL (xs : List Pt) (s k : Nat) : List Pt := (List.range k).map fun j => ptAt xs ((s + j) % xs.length)
theorem wayL_len (xs : List Pt) (s k : Nat) : (wayL xs s k).length = k := by simp [wayL]
theorem wayL_succ (xs : List Pt) (s k : Nat) : wayL xs s (k + 1) = wayL xs s k ++ [ptAt xs ((s + k) % xs.length)] := by simp [wayL, List.range_succ]
theorem own_lessW {w : World} {b b' n : Nat} {e : TypeId} {size : Nat} {v : Value} {xs : List Value} (h : w.ownsRow b e size v n xs) (hb : b' ≤ b) : w.ownsRow b' e size v n xs := by
  refine ⟨h.1, ?_⟩
  rcases h.2 with h1 | ⟨g, cap, cur, h1, h2, h3⟩
  · exact .inl h1
  · exact .inr ⟨g, cap, cur, h1, by omega, h3⟩
theorem way_comes {xs : List Pt} {t : Pt} (ht : t ∈ xs) (s : Nat) : ∃ K, K < xs.length ∧ ptAt xs ((s + K) % xs.length) = t ∧ ∀ j, j < K → ptAt xs ((s + j) % xs.length) ≠ t := by
  obtain ⟨k0, hk0, rfl⟩ := List.getElem_of_mem ht
  have hex : ∃ K, K < xs.length ∧ ptAt xs ((s + K) % xs.length) = xs[k0] := by
    refine ⟨(k0 + (xs.length - s % xs.length)) % xs.length, Nat.mod_lt _ (by omega), ?_⟩
    have hs : s % xs.length < xs.length := Nat.mod_lt _ (by omega)
    have : (s + (k0 + (xs.length - s % xs.length)) % xs.length) % xs.length = k0 := by
      rw [Nat.add_mod, Nat.mod_mod, ← Nat.add_mod]
      have e : s + (k0 + (xs.length - s % xs.length)) = k0 + xs.length * (s / xs.length + 1) := by
        have := Nat.div_add_mod s xs.length
        rw [Nat.mul_add]
        omega
      rw [e, Nat.add_mul_mod_self_left, Nat.mod_eq_of_lt hk0]
    rw [this, ptAt_lt hk0]
  obtain ⟨K, h1, h2⟩ := hex
  induction K using Nat.strongRecOn with
  | ind K ih =>
    by_cases h : ∃ j, j < K ∧ ptAt xs ((s + j) % xs.length) = xs[k0]
    · obtain ⟨j, hj, e⟩ := h
      exact ih j hj (by omega) e
    · exact ⟨K, h1, h2, fun j hj e => h ⟨j, hj, e⟩⟩
set_option maxRecDepth 100000 in
set_option maxHeartbeats 1600000 in
theorem cutWay_any (xs : List Pt) (f t : Pt) (A : Option Addr) (n c : Nat) (w : World) (hr : Reads w w.heap.size 2 A n (ptsV xs)) (hf : f ∈ xs) (ht : t ∈ xs) (hn : n ≤ 1048576) :
    Calls Tryz.prog 133 #[.slice A n c, .agg #[.int .i64 f.x, .int .i64 f.y], .agg #[.int .i64 t.x, .int .i64 t.y]] w fun e w' => ∃ A' c' i K, e = .returned (.slice A' K c') ∧ idxPt xs f = ((i : Nat) : Int) ∧ i < n ∧ K < n ∧ ptAt xs ((i + 1 + K) % n) = t ∧ (∀ j, j < K → ptAt xs ((i + 1 + j) % n) ≠ t) ∧ w'.ownsRow w.heap.size 35 2 (.slice A' K c') K (ptsV (wayL xs (i + 1) K)) ∧ Below w.heap.size w w' := by
  have hl := hr.lenPt
  obtain ⟨ip, hip, hz0, hz1, hz2⟩ := info_parts info_pt
  obtain ⟨i, hi, hidx, -, -⟩ := idx_lt hf
  obtain ⟨K, hK, hKt, hKn⟩ := way_comes ht (i + 1)
  rw [hl] at hi hK hKt hKn
  obtain ⟨wa, hwa⟩ : ∃ wa : World, wa = (w.alloc (.cells #[.int .i64 f.x, .int .i64 f.y] 35)).alloc (.cells #[.int .i64 t.x, .int .i64 t.y] 35) := ⟨_, rfl⟩
  have hB0 : Below w.heap.size w wa := by rw [hwa]; exact ((Below.refl _ _).alloc (Nat.le_refl _) _).alloc (by simp) _
  have hF0 : PtK wa w.heap.size f := by rw [hwa]; exact Blk.alloc (PtK.new w f) _
  have hT0 : PtK wa (w.heap.size + 1) t := by
    have := PtK.new (w.alloc (.cells #[.int .i64 f.x, .int .i64 f.y] 35)) t
    rw [World.size_alloc] at this
    rw [hwa]
    exact this
  have KI := Lib.hid (indexQ_any xs f A n c wa (hr.on hB0) (by omega))
  rw [hidx] at KI
  have H0 := Lib.hid (And.intro hB0 (And.intro hF0 hT0))
  have HK := Lib.hid (And.intro hidx (And.intro hKt hKn))
  have HR := Lib.hid hr
  clear hB0 hF0 hT0 hidx hKt hKn hr hf ht
  go_enter Tryz.func133, Tryz.ntmps133
  go_upto_region 2 with fail
  rw [← hwa]
  clear hwa
  obtain ⟨q1, q2, -⟩ := H0.out.2.1.facts
  go_wp2_with fail
  refine KI.out.mono ?_
  rintro e w1 ⟨rfl, hb1⟩
  have H1 := Lib.hid (And.intro (below_on H0.out.1 (Nat.le_refl _) hb1) (show PtK w1 (w.heap.size + 1) t from Blk.below H0.out.2.2 hb1 (Blk.lt H0.out.2.2)))
  have hw0 : IntKind.i64.wrap ((i : Int) + 1) = (i : Int) + 1 := by rw [IntKind.wrap_i64]; omega
  clear hb1 KI q1 q2 H0
  go_wp2_with fail
  go_loopw [7, 8] (fun o v wr => ∃ (k : Nat) (A' : Option Addr) (c' : Nat), k ≤ K ∧ v = .int .i64 ((i : Int) + 1 + (k : Int)) ∧ o = .slice A' k c' ∧ Hid (wr.ownsRow (w.heap.size + 2) 35 2 (.slice A' k c') k (ptsV (wayL xs (i + 1) k)) ∧ Below w.heap.size w wr ∧ PtK wr (w.heap.size + 1) t)) (fun _ v _ => 2097152 - (intOf v).toNat)
  case atStart => exact ⟨0, none, 0, Nat.zero_le _, by simp, rfl, World.ownsRow_nil _ _ _ _, H1.out.1, H1.out.2⟩
  case round =>
    clear H1
    obtain ⟨k, A', c', hk, rfl, rfl, HW⟩ := hrel
    obtain ⟨W, rfl⟩ : ∃ W, W = wr := ⟨_, rfl⟩
    have hw1 : IntKind.i64.wrap ((i : Int) + 1 + (k : Int) + 1) = (i : Int) + 1 + ((k + 1 : Nat) : Int) := by rw [IntKind.wrap_i64]; omega
    obtain ⟨M, hM⟩ : ∃ M, M = (i + 1 + k) % n := ⟨_, rfl⟩
    have hMn : M < n := by rw [hM]; exact Nat.mod_lt _ (by omega)
    have hMi : (M : Int) < (n : Int) := by omega
    have hmi : ((i : Int) + 1 + (k : Int)).tmod (n : Int) = (M : Int) := by
      rw [hM, Int.tmod_eq_emod_of_nonneg (by omega), Int.natCast_emod]
      congr 1
    have hwM : IntKind.i64.wrap (M : Int) = (M : Int) := by rw [IntKind.wrap_i64]; omega
    have hn0 : ((n : Int) == 0) = false := by rw [beq_eq_false_iff_ne]; omega
    have HM := Lib.hid hM
    obtain ⟨ad, rfl, -, -, -, -⟩ := HR.out.pt hMn
    obtain ⟨-, p1, p2⟩ := (HR.out.below HW.out.2.1).ptA hMn
    obtain ⟨t1, t2, -, -, -⟩ := HW.out.2.2.facts
    obtain ⟨P, hP⟩ : ∃ P, P = ptAt xs M := ⟨_, rfl⟩
    rw [← hP] at p1 p2
    have he := fun V => neqPt_runs P t V
    have hg := fun op a b V => (eqPt_runs P t op a b V).2
    have HP := Lib.hid hP
    clear hM hP
    by_cases hpt : P = t
    · have hkK : k = K := by
        rcases Nat.lt_or_ge k K with h | h
        · exact absurd (by rw [← HM.out, ← HP.out]; exact hpt) (HK.out.2.2 k h)
        · omega
      subst hkK
      rw [decide_eq_true hpt] at he
      clear hpt
      go_wp2
      go_quiet (fail)
      go_wp2
      go_ret
      exact ⟨A', c', i, k, rfl, HK.out.1, hi, hK, HK.out.2.1, HK.out.2.2, own_below (own_lessW HW.out.1 (by omega)) (below_drewN (Below.refl _ _) _), below_drewN HW.out.2.1 _⟩
    · have hkK : k < K := by
        rcases Nat.lt_or_ge k K with h | h
        · exact h
        · obtain rfl : k = K := by omega
          exact absurd (by rw [HP.out, HM.out]; exact HK.out.2.1) hpt
      rw [decide_eq_false hpt] at he
      clear hpt
      go_wp2
      go_quiet (fail)
      obtain ⟨W5, hW5⟩ : ∃ V, V = W.drewN nq := ⟨_, rfl⟩
      have hbd : Below W.heap.size W W5 := by rw [hW5]; exact below_drewN (Below.refl _ _) _
      have hown5 := own_below HW.out.1 hbd
      have hb5 := below_on HW.out.2.1 (Nat.le_refl _) hbd
      have hs5 := hb5.size
      have hs6 := Blk.lt HW.out.2.2
      have hs7 := hbd.size
      have hT5 : PtK W5 (w.heap.size + 1) t := Blk.below HW.out.2.2 hbd (Blk.lt HW.out.2.2)
      replace p1 : W5.cell? (ad.add (M * 2)) = some (.int .i64 P.x) := by rw [hW5]; exact p1
      replace p2 : W5.cell? ⟨(ad.add (M * 2)).block, (ad.add (M * 2)).off + 1, none⟩ = some (.int .i64 P.y) := by rw [hW5]; exact p2
      rw [← hW5]
      clear hW5 hbd t1 t2 he hg
      have HB5 := Lib.hid (And.intro hb5 (And.intro hT5 hown5))
      clear hb5 hT5
      go_wp2_with (at_builtin; refine wpList_append_any _ rfl (.tmp 24) (.tmp 32) _ rfl (w.heap.size + 2) 35 ip _ 2 16 Tryz.underlying23 hip hz0 hz1 hz2 rfl (by omega) (.slice A' k c') k _ rfl (hown5.alloc _) (W5.alloc (.cells #[.int .i64 P.x, .int .i64 P.y] 35)).heap.size (some ⟨W5.heap.size, 0, none⟩) 1 1 (ptsV [P]) rfl (Reads.made W5 _ _ _ 2 1 _ rfl rfl) (ptsV_one _) (by simp only [maxLen]; omega) (by omega) (by simp; omega) ?_; intro v6 w6 hown6 hg6 hat6; have hB6 := (HB5.out.1.alloc hs5 _).grown hg6 (by simp; omega) (fun g hg => by have := (hown5.lt g hg).1; omega); have hT5 := Blk.alloc HB5.out.2.1 (.cells #[.int .i64 P.x, .int .i64 P.y] 35); have hT6 : PtK w6 (w.heap.size + 1) t := (hg6.block _ (Blk.lt hT5) (fun e => by have := (hown5.lt _ e.symm).1; omega)).trans hT5; rw [← ptsV_append, HP.out, HM.out, ← hl, ← wayL_succ] at hown6; obtain ⟨A6, c6, rfl⟩ := own_form hown6; have H6 := Lib.hid (And.intro hown6 (And.intro hB6 hT6)); clear hown6 hB6 hT5 hT6 hg6 hat6 hown5)
      go_roundw
      case rel => exact ⟨k + 1, A6, c6, by omega, by go_num, rfl, H6.out⟩
      case measure => simp [intOf]; omega
end Go.Proofs.YtnpjggcgnbgkjaaGreat
namespace Go.Proofs.YtnpjggcgnbgkjaaGreat
open Go.RowKit Go.Lib
theorem ptAt_mem {xs : List Pt} {k : Nat} (h : k < xs.length) : ptAt xs k ∈ xs := by rw [ptAt_lt h]; exact List.getElem_mem h
theorem insG_mem {q : Pt} {xs : List Pt} {r : Pt} (h : r ∈ insG q xs) : r ∈ xs ∨ r = q := by
  unfold insG insL at h
  obtain ⟨k, hk, h2⟩ := List.mem_flatMap.1 h
  rw [List.mem_range] at hk
  unfold insK at h2
  rcases List.mem_cons.1 h2 with h3 | h3
  · exact .inl (by rw [h3]; exact ptAt_mem hk)
  · split at h3
    · exact .inr (List.mem_singleton.1 h3)
    · exact absurd h3 List.not_mem_nil
theorem leastN_le' (xs : List Pt) : leastN xs xs.length ≤ xs.length := leastN_le xs xs.length
theorem lst_mem {xs : List Pt} {r : Pt} (h : r ∈ lst xs) : r ∈ xs := rot_mem h
theorem lst_len (xs : List Pt) : (lst xs).length = xs.length := by unfold lst; exact rot_len (leastN_le' xs)
theorem each_fits {g : List Pt → List Pt} {p : Plan} (h : p.fits) (hg : ∀ xs, ringOf p xs → (g xs).length ≤ 1048576 ∧ ∀ r ∈ g xs, r.inI) : (eachP g p).fits := by
  have h0 := hg _ (.inl rfl)
  refine ⟨⟨?_, fun r hr => h0.2 r (lst_mem hr)⟩, by rw [each_len]; exact h.2.1, fun x hx => ?_⟩
  · rw [each_outer, lst_len]; omega
  · unfold eachP at hx
    obtain ⟨y, hy, rfl⟩ := List.mem_map.1 hx
    have hy1 := hg _ (.inr ⟨y, hy, rfl⟩)
    have hy2 := h.2.2 y hy
    refine ⟨?_, fun r hr => hy1.2 r (lst_mem hr), hy2.2.2.1, hy2.2.2.2⟩
    show (lst (g y.ring)).length ≤ _
    rw [lst_len]; omega
theorem sound_ring {p : Plan} {xs : List Pt} (hs : SoundP p) (h : ringOf p xs) : goodL xs = true ∧ xs.length ≤ 128 ∧ 3 ≤ xs.length ∧ checkI xs = 0 := by
  have hc : checkI xs = 0 := by
    rcases h with rfl | ⟨x, hx, rfl⟩
    · exact hs.2.1.1
    · exact (hs.2.2.1 x hx).1
  obtain ⟨h1, h2, h3, -⟩ := checkI_zero hc
  exact ⟨h2, h1, h3, hc⟩
theorem good_in2 {q : Pt} (h : good q = true) : q.inI := by unfold good at h; unfold Pt.inI; simp at h; omega
theorem insW_fits {p : Plan} {q : Pt} (hs : ∀ xs, ringOf p xs → goodL xs = true ∧ xs.length ≤ 1024) (hf : p.fits) (hq : good q = true) : (eachP (insG q) p).fits := by
  refine each_fits hf fun xs hx => ?_
  obtain ⟨h1, h2⟩ := hs xs hx
  refine ⟨by have := insG_len q xs; omega, fun r hr => ?_⟩
  rcases insG_mem hr with h | rfl
  · exact good_in2 (goodL_mem h1 h)
  · exact good_in2 hq
theorem sound_rings {p : Plan} (hs : SoundP p) : ∀ xs, ringOf p xs → goodL xs = true ∧ xs.length ≤ 1024 := fun xs hx => by
  obtain ⟨h1, h2, -⟩ := sound_ring hs hx
  exact ⟨h1, by omega⟩
theorem ins_fits {p : Plan} {q : Pt} (hs : SoundP p) (hf : p.fits) (hq : good q = true) : (eachP (insG q) p).fits := insW_fits (sound_rings hs) hf hq
set_option maxRecDepth 100000 in
set_option maxHeartbeats 800000 in
theorem insertW_any (p : Plan) (q : Pt) (A A' : Option Addr) (n c n' c' : Nat) (w : World) (h : PlanAt w w.heap.size A n c A' n' c' p) (hs : ∀ xs, ringOf p xs → goodL xs = true ∧ xs.length ≤ 1024) (hn' : n' ≤ 1048576) (hq : good q = true) :
    Calls Tryz.prog 128 #[planV A n c A' n' c', .agg #[.int .i64 q.x, .int .i64 q.y]] w (OwnPostS (eachP (insG q) p) w) := by
  obtain ⟨wa, hwa⟩ : ∃ wa : World, wa = ((w.alloc (.cells #[.slice A n c, .slice A' n' c'] 26)).alloc (.cells #[.int .i64 q.x, .int .i64 q.y] 35)).alloc (.cells #[.slice none 0 0, .slice none 0 0] 26) := ⟨_, rfl⟩
  have hB0 : Below w.heap.size w wa := by rw [hwa]; exact (((Below.refl _ _).alloc (Nat.le_refl _) _).alloc (by simp) _).alloc (by simp; omega) _
  have hX : PlK wa w.heap.size A n c A' n' c' := by rw [hwa]; exact Blk.alloc (Blk.alloc (PlK.new w A n c A' n' c') _) _
  have hY : PtK wa (w.heap.size + 1) q := by
    have := PtK.new (w.alloc (.cells #[.slice A n c, .slice A' n' c'] 26)) q
    rw [World.size_alloc] at this
    rw [hwa]
    exact Blk.alloc this _
  have hZ : PlK wa (w.heap.size + 1 + 1) none 0 0 none 0 0 := by
    have := PlK.new ((w.alloc (.cells #[.slice A n c, .slice A' n' c'] 26)).alloc (.cells #[.int .i64 q.x, .int .i64 q.y] 35)) none 0 0 none 0 0
    rw [World.size_alloc, World.size_alloc] at this
    rw [hwa]
    exact this
  have hP := h.on hB0
  have hylt := Blk.lt hY
  have KE := Lib.hid (eachIns_any (w.heap.size + 1) (insG q) p A A' n c n' c' wa hP (insW_fits hs h.fits hq) (fun xs hx => by have := (hs xs hx).2; have := insG_len q xs; omega) hn'
    (fun V xs B m cap hV hr hm hc hx => by
      obtain ⟨h1, h2⟩ := hs xs hx
      exact insert1_any (w.heap.size + 1) q xs B m cap V hr (by have := hr.lenPt; omega) h1 hq (Blk.below hY hV hylt)))
  obtain ⟨q1, q2, q3⟩ := hX.facts
  have H0 := Lib.hid (And.intro hB0 hZ)
  clear hB0 hX hY hZ hP h hs hq hn' hylt
  go_enter Tryz.func128, Tryz.ntmps128
  go_upto_region 1 with fail
  rw [← hwa]
  clear hwa
  go_wp2_with fail
  refine KE.out.mono ?_
  rintro e w1 ⟨A1, n1, c1, A2, n2, c2, hs, rfl, hpo, hb1⟩
  have hZ1 := H0.out.2.on hb1
  have hB1 := below_on H0.out.1 (Nat.le_refl _) hb1
  have hpo2 := ((hpo.mono H0.out.1.size).store hZ1 (by decide) (by decide) 0 (.slice A1 n1 c1)).store (Blk.set_ hZ1 0 (.slice A1 n1 c1)) (by decide) (by decide) 1 (.slice A2 n2 c2)
  have hB5 := (hB1.setCell (p := ⟨w.heap.size + 1 + 1, 0, none⟩) (by simp only; omega) (.slice A1 n1 c1)).setCell (p := ⟨w.heap.size + 1 + 1, 1, none⟩) (by simp only; omega) (.slice A2 n2 c2)
  have hR5 := Blk.set_ (Blk.set_ hZ1 0 (.slice A1 n1 c1)) 1 (.slice A2 n2 c2)
  obtain ⟨y1, y2, -⟩ := hZ1.facts
  have f1 := Blk.frozen hZ1 0
  have f2 := Blk.frozen hZ1 1
  have HZ := Lib.hid (And.intro hpo2 (And.intro hB5 hR5))
  clear hpo hb1 hZ1 hB1 hpo2 hB5 hR5 KE H0 q1 q2 q3
  go_wp2_with fail
  obtain ⟨hpo, hB5, hR5⟩ := HZ.out
  clear y1 y2 f1 f2 HZ
  generalize (w1.setCell ⟨w.heap.size + 1 + 1, 0, none⟩ (.slice A1 n1 c1)).setCell ⟨w.heap.size + 1 + 1, 1, none⟩ (.slice A2 n2 c2) = V at *
  have r1 : V.cell? ⟨w.heap.size + 1 + 1, 0, none⟩ = some (.slice A1 n1 c1) := by rw [Blk.cell hR5]; rfl
  have r2 : V.cell? ⟨w.heap.size + 1 + 1, 1, none⟩ = some (.slice A2 n2 c2) := by rw [Blk.cell hR5]; rfl
  refine bodyPost_ret (v := planV A1 n1 c1 A2 n2 c2) ?_ rfl ⟨A1, n1, c1, A2, n2, c2, hs, rfl, hpo, hB5⟩
  simp [results, Tryz.results128, go_sem, r1, r2]
end Go.Proofs.YtnpjggcgnbgkjaaGreat
namespace Go.Proofs.YtnpjggcgnbgkjaaGreat
open Go.RowKit Go.Lib
set_option maxRecDepth 100000 in
set_option maxHeartbeats 1600000 in
theorem leastR2_any (xs : List Pt) (A : Option Addr) (n cap : Nat) (w : World) (hr : Reads w w.heap.size 2 A n (ptsV xs)) (hn : n ≤ 1048576) :
    Calls Tryz.prog 143 #[.slice A n cap] w fun e w' => ∃ A' c, e = .returned (.slice A' n c) ∧ w'.ownsRow w.heap.size 35 2 (.slice A' n c) n (ptsV (rot (leastN xs n) xs)) ∧ Below w.heap.size w w' := by
  obtain ⟨i0, hi0, hz0, hz1, hz2⟩ := info_parts info_pt
  have hl : xs.length = n := hr.lenPt
  have HR := Lib.hid (And.intro hr hl)
  clear hr hl
  go_enter Tryz.func143, Tryz.ntmps143
  go_wp2_with fail
  go_loopw [3, 4] (fun kv i wr => ∃ m : Nat, m ≤ n ∧ i = .int .i64 (m : Int) ∧ kv = .int .i64 (leastN xs m : Int) ∧ Below w.heap.size w wr) (fun _ i _ => n - (intOf i).toNat)
  case atStart => exact ⟨0, Nat.zero_le _, rfl, rfl, Below.refl _ _⟩
  case round =>
    obtain ⟨m, hm, rfl, rfl, hbel⟩ := hrel
    by_cases hlt : m < n
    · have hlt' : (m : Int) < (n : Int) := by omega
      have hkn : leastN xs m < n := by have := leastN_le xs m; omega
      have hw1 : IntKind.i64.wrap ((m : Int) + 1) = (m : Int) + 1 := by rw [IntKind.wrap_i64]; omega
      have hst := leastN_step (xs := xs) (m := m)
      generalize leastN xs m = k at *
      have hkn' : (k : Int) < (n : Int) := by omega
      obtain ⟨ad, rfl, -, -, -, -⟩ := HR.out.1.pt hlt
      obtain ⟨hbd, p1, p2⟩ := ((HR.out.1.below hbel).more hbel.size).ptA hlt
      obtain ⟨-, q1, q2⟩ := ((HR.out.1.below hbel).more hbel.size).ptA hkn
      have kL := fun V => lessR6 (ptAt xs m).x (ptAt xs m).y (ptAt xs k).x (ptAt xs k).y V
      have hP0 : Hold22 wr wr.drew (ad.add (m * 2)) (ad.add (k * 2)) (ptAt xs m) (ptAt xs k) := ⟨p1, p2, q1, q2, (Below.refl _ _).drew⟩
      have hltM : (ad.add (m * 2)).block < wr.heap.size ∧ (ad.add (k * 2)).block < wr.heap.size := by simp only [block_of_add]; exact ⟨hbd, hbd⟩
      have HB := Lib.hid hbel
      generalize ptAt xs m = P at *
      generalize ptAt xs k = Q at *
      have kL' : ∀ V, Calls Tryz.prog 207 #[.agg #[.int .i64 P.x, .int .i64 P.y], .agg #[.int .i64 Q.x, .int .i64 Q.y]] V fun e w' => e = .returned (.bool (lessB P Q)) ∧ Below V.heap.size V w' := kL
      clear kL hbel p1 p2 q1 q2 hbd
      generalize lessB P Q = lb at *
      rcases lb with _ | _
      all_goals
        have HST := Lib.hid hst
        clear hst
        go_wp2_with fail
        go_region_held3 (fun V => V.cell? (ad.add (m * 2)) = some (.int .i64 P.x) ∧ V.cell? ⟨(ad.add (m * 2)).block, (ad.add (m * 2)).off + 1, none⟩ = some (.int .i64 P.y) ∧ V.cell? (ad.add (k * 2)) = some (.int .i64 Q.x) ∧ V.cell? ⟨(ad.add (k * 2)).block, (ad.add (k * 2)).off + 1, none⟩ = some (.int .i64 Q.y) ∧ Below wr.heap.size wr V)
          (first | with_reducible exact hP0 | with_reducible exact held22 hltM (by assumption) (by assumption))
          (first
            | (go_simp; go_at_call 207; (with_reducible refine (kL' _).mono ?_); rintro e w' ⟨rfl, hb'⟩; try dsimp only))
        clear hP0
        obtain ⟨-, -, -, -, hbV⟩ := (by assumption : Hold22 wr _ (ad.add (m * 2)) (ad.add (k * 2)) P Q)
        have HV := Lib.hid (below_on HB.out (Nat.le_refl _) hbV)
        clear hbV
        go_wp2_with fail
        go_roundw
        case rel => exact ⟨m + 1, by omega, by go_num, by rw [HST.out]; rfl, HV.out⟩
        case measure => simp [intOf]; omega
    · have hmn : m = n := by omega
      subst hmn
      have hkm : 0 < m → leastN xs m < m := fun h => leastN_lt xs h
      generalize hke : leastN xs m = k at *
      have HKE := Lib.hid hke
      clear hke
      have HB := Lib.hid hbel
      have hown0 : wr.ownsRow w.heap.size 35 2 (.slice none 0 0) 0 (ptsV ((rot k xs).take 0)) := by simp [ptsV, World.ownsRow_nil]
      clear hbel
      go_wp2_with fail
      obtain ⟨wo, hwo⟩ : ∃ wo : World, wo = wr := ⟨_, rfl⟩
      rw [← hwo] at HB hown0
      rw [← hwo]
      clear hwo
      go_loopw [5, 6] (fun s i wx => ∃ j : Nat, j ≤ m ∧ i = .int .i64 (j : Int) ∧ (∃ A' c, s = .slice A' j c ∧ wx.ownsRow w.heap.size 35 2 (.slice A' j c) j (ptsV ((rot k xs).take j))) ∧ Below w.heap.size w wx) (fun _ i _ => m - (intOf i).toNat)
      case atStart => exact ⟨0, Nat.zero_le _, rfl, ⟨none, 0, rfl, hown0⟩, HB.out⟩
      case round =>
        clear hown0
        obtain ⟨j, hj, rfl, ⟨A', c, rfl, hown⟩, hbel⟩ := hrel
        by_cases hlt2 : j < m
        · have hlt' : (j : Int) < (m : Int) := by omega
          have hkm' := hkm (by omega)
          have hw1 : IntKind.i64.wrap ((j : Int) + 1) = (j : Int) + 1 := by rw [IntKind.wrap_i64]; omega
          have hw2 : IntKind.i64.wrap ((k : Int) + (j : Int)) = (k : Int) + (j : Int) := IntWalk.i64_in _ (by omega)
          have hm0 : ¬ m = 0 := by omega
          have hm1 : ¬ (m : Int) = 0 := by omega
          have htm : ((k : Int) + (j : Int)).tmod (m : Int) = (((k + j) % m : Nat) : Int) := by
            rw [show (k : Int) + (j : Int) = ((k + j : Nat) : Int) by omega]
            rfl
          have hrl : (k + j) % m < m := Nat.mod_lt _ (by omega)
          have htk : (rot k xs).take (j + 1) = (rot k xs).take j ++ [ptAt xs ((k + j) % m)] := by
            have hrL : (rot k xs).length = m := by rw [rot_len (by have := HR.out.2; omega)]; exact HR.out.2
            rw [List.take_succ_eq_append_getElem (by omega), ← ptAt_lt (by omega), ptAt_rot (by have := HR.out.2; omega) (by have := HR.out.2; omega), HR.out.2]
          generalize (k + j) % m = r at *
          have hrl' : (r : Int) < (m : Int) := by omega
          have hwr : IntKind.i64.wrap (r : Int) = (r : Int) := IntWalk.i64_in _ (by omega)
          obtain ⟨ad, rfl, -, -, -, -⟩ := HR.out.1.pt hlt2
          obtain ⟨-, p1, p2⟩ := ((HR.out.1.below hbel).more hbel.size).ptA hrl
          generalize ptAt xs r = P at *
          have HT := Lib.hid htk
          clear htk
          go_wp2_with (at_builtin; refine wpList_append_any _ rfl (.tmp 29) (.tmp 39) _ rfl w.heap.size 35 i0 _ 2 16 Tryz.underlying23 hi0 hz0 hz1 hz2 rfl (by omega) (.slice A' j c) j _ rfl (hown.alloc _) (wr.alloc (.cells #[.int .i64 P.x, .int .i64 P.y] 35)).heap.size (some ⟨wr.heap.size, 0, none⟩) 1 1 (ptsV [P]) rfl (Reads.made wr _ _ _ 2 1 _ rfl rfl) (ptsV_one _) (by simp only [maxLen]; omega) (by omega) (by simp; have := hbel.size; omega) ?_
                       intro v6 w6 hown6 hg6 hat6)
          have hB6 : Below w.heap.size w w6 := (hbel.alloc hbel.size _).grown hg6 (by simp; have := hbel.size; omega) (fun g hg => (hown.lt g hg).1)
          rw [← ptsV_append, ← HT.out] at hown6
          obtain ⟨A6, c6, rfl⟩ := own_form hown6
          have H6 := Lib.hid (And.intro hown6 hB6)
          clear hown6 hB6 hg6 hat6 hown hbel p1 p2
          go_wp2_with fail
          go_roundw
          case rel => exact ⟨j + 1, by omega, by go_num, ⟨A6, c6, rfl, H6.out.1⟩, H6.out.2⟩
          case measure => simp [intOf]; omega
        · have hjm : j = m := by omega
          subst hjm
          have hrL : (rot k xs).length = j := by
            rcases Nat.eq_zero_or_pos j with h | h
            · have h2 := HR.out.2
              rw [h] at h2
              rw [List.eq_nil_of_length_eq_zero h2, h]
              simp [rot]
            · rw [rot_len (by have := HR.out.2; have := hkm h; omega)]; exact HR.out.2
          rw [List.take_of_length_le (by omega)] at hown
          have H7 := Lib.hid (And.intro hown hbel)
          clear hown hbel
          go_wp2_with fail
          go_ret
          exact ⟨A', c, rfl, by rw [HKE.out]; exact H7.out⟩
theorem rowPV_set {ps : List Parc} {hs : List Hd} (hl : hs.length = ps.length) {k : Nat} (hk : k < ps.length) (ys : List Pt) (h : Hd) :
    rowPV (ps.set k ⟨(pcAt ps k).id, ys, (pcAt ps k).owner⟩) (hs.set k h) = (rowPV ps hs).set (k * 3 + 1) (.slice h.1 h.2.1 h.2.2) := by
  induction ps generalizing hs k with
  | nil => simp at hk
  | cons y ps ih =>
    rcases hs with _ | ⟨g, hs⟩
    · simp at hl
    · rcases k with _ | k
      · rfl
      · have h1 := ih (hs := hs) (by simpa using hl) (k := k) (by simpa using hk)
        have h2 : pcAt (y :: ps) (k + 1) = pcAt ps k := by unfold pcAt; simp
        rw [h2]
        show pcV y g ++ rowPV (ps.set k _) (hs.set k h) = _
        rw [h1, show (k + 1) * 3 + 1 = k * 3 + 1 + 1 + 1 + 1 by omega]
        rfl
def setR (p : Plan) (k : Nat) (ys : List Pt) : Plan := ⟨p.outer, p.parcels.set k ⟨(pcAt p.parcels k).id, ys, (pcAt p.parcels k).owner⟩⟩
theorem hdAt_set {hs : List Hd} {k j : Nat} {h : Hd} (hk : k < hs.length) : hdAt (hs.set k h) j = if j = k then h else hdAt hs j := by
  unfold hdAt
  rw [List.getElem?_set]
  by_cases e : k = j
  · rw [if_pos e, if_pos e.symm, if_pos (by omega)]; rfl
  · rw [if_neg e, if_neg (fun h => e h.symm)]
theorem pcAt_set {ps : List Parc} {k j : Nat} {x : Parc} (hk : k < ps.length) : pcAt (ps.set k x) j = if j = k then x else pcAt ps j := by
  unfold pcAt
  rw [List.getElem?_set]
  by_cases e : k = j
  · rw [if_pos e, if_pos e.symm, if_pos (by omega)]; rfl
  · rw [if_neg e, if_neg (fun h => e h.symm)]
theorem PlanOwn.setRing {B n c n' c' k m c3 : Nat} {W : World} {A A3 : Option Addr} {ad : Addr} {p : Plan} {hs : List Hd} {ys : List Pt} (h : PlanOwn B W A n c (some ad) n' c' p hs) (hk : k < n')
    (hnew : W.ownsRow B 35 2 (.slice A3 m c3) m (ptsV ys)) (hf : (setR p k ys).fits) :
    PlanOwn B (W.setCell ⟨(ad.add (k * 3)).block, (ad.add (k * 3)).off + 1, none⟩ (.slice A3 m c3)) A n c (some ad) n' c' (setR p k ys) (hs.set k (A3, m, c3)) ∧ ad.block < W.heap.size ∧ B ≤ ad.block := by
  obtain ⟨g, cap, e, hb, hlt⟩ := h.row.form (by omega)
  have e1 : ad = ⟨g, 0, none⟩ := by cases e; rfl
  have e2 : cap = c' := by cases e; rfl
  subst e1 e2
  have hrow := (h.row.stored (k * 3 + 1) (.slice A3 m c3)).1
  have hadr : (⟨((⟨g, 0, none⟩ : Addr).add (k * 3)).block, ((⟨g, 0, none⟩ : Addr).add (k * 3)).off + 1, none⟩ : Addr) = ⟨g, k * 3 + 1, none⟩ := by rw [add_off3 _ _ _ (by omega)]; simp [Addr.add]
  rw [hadr]
  have hkeep : ∀ {v : Value} {j : Nat} {xs : List Value}, W.ownsRow B 35 2 v j xs → (W.setCell ⟨g, k * 3 + 1, none⟩ (.slice A3 m c3)).ownsRow B 35 2 v j xs := fun {v j xs} ho =>
    ownsRow_setCell_other ho (fun e' => own_own_ne h.row ho (by decide) (g := g) rfl e') _
  have hkl : k < p.parcels.length := by rw [h.lenp]; exact hk
  refine ⟨⟨hkeep h.out, ?_, by rw [List.length_set]; exact h.len, by show (List.set _ _ _).length = _; rw [List.length_set]; exact h.lenp, fun j hj => ?_, hf⟩, hlt, hb⟩
  · show World.ownsRow _ _ _ _ _ _ (rowPV (p.parcels.set k _) _)
    rw [rowPV_set (by rw [h.len, h.lenp]) hkl]
    exact hrow
  · show World.ownsRow _ _ _ _ _ _ (ptsV (pcAt (p.parcels.set k _) j).ring)
    rw [hdAt_set (by rw [h.len]; exact hk), pcAt_set hkl]
    by_cases e' : j = k
    · rw [if_pos e', if_pos e']
      exact hkeep hnew
    · rw [if_neg e', if_neg e']
      exact hkeep (h.rings j hj)
def mapX (g : List Pt → List Pt) (x : Parc) : Parc := ⟨x.id, g x.ring, x.owner⟩
def mapG (g : List Pt → List Pt) (p : Plan) : Plan := ⟨g p.outer, p.parcels.map (mapX g)⟩
def mapTo (g : List Pt → List Pt) (p : Plan) (k : Nat) : Plan := ⟨g p.outer, (p.parcels.take k).map (mapX g) ++ p.parcels.drop k⟩
theorem mapTo_len {g : List Pt → List Pt} {p : Plan} {k : Nat} (hk : k ≤ p.parcels.length) : (mapTo g p k).parcels.length = p.parcels.length := by unfold mapTo; simp; omega
theorem mapTo_at {g : List Pt → List Pt} {p : Plan} {k : Nat} (hk : k < p.parcels.length) : pcAt (mapTo g p k).parcels k = pcAt p.parcels k := by
  unfold mapTo pcAt
  simp only
  rw [List.getElem?_append_right (by simp; omega)]
  simp [List.length_take, Nat.min_eq_left (Nat.le_of_lt hk)]
theorem mapTo_next {g : List Pt → List Pt} {p : Plan} {k : Nat} (hk : k < p.parcels.length) : setR (mapTo g p k) k (g (pcAt p.parcels k).ring) = mapTo g p (k + 1) := by
  unfold setR
  rw [mapTo_at hk]
  unfold mapTo
  simp only [Plan.mk.injEq, true_and]
  rw [List.set_append_right _ _ (by simp; omega), List.drop_eq_getElem_cons hk, List.take_succ_eq_append_getElem hk, List.map_append, List.append_assoc]
  congr 1
  rw [show k - ((p.parcels.take k).map (mapX g)).length = 0 by simp; omega, List.set_cons_zero]
  rw [pcAt_lt hk]
  rfl
theorem mapTo_all {g : List Pt → List Pt} {p : Plan} : mapTo g p p.parcels.length = mapG g p := by unfold mapTo mapG; simp
theorem mapTo_zero {g : List Pt → List Pt} {p : Plan} : mapTo g p 0 = ⟨g p.outer, p.parcels⟩ := by unfold mapTo; simp
theorem mapTo_fits {g : List Pt → List Pt} {p : Plan} (h : p.fits) (hg : ∀ xs, ringOf p xs → (g xs).length ≤ 1048576 ∧ ∀ r ∈ g xs, r.inI) {k : Nat} (hk : k ≤ p.parcels.length) : (mapTo g p k).fits := by
  have h0 := hg _ (.inl rfl)
  refine ⟨⟨by show (g p.outer).length ≤ _; omega, h0.2⟩, by rw [mapTo_len hk]; exact h.2.1, fun x hx => ?_⟩
  rcases List.mem_append.1 hx with hx | hx
  · obtain ⟨y, hy, rfl⟩ := List.mem_map.1 hx
    have hy := List.mem_of_mem_take hy
    have hy1 := hg _ (.inr ⟨y, hy, rfl⟩)
    have hy2 := h.2.2 y hy
    exact ⟨by show (g y.ring).length ≤ _; omega, hy1.2, hy2.2.2.1, hy2.2.2.2⟩
  · exact h.2.2 x (List.mem_of_mem_drop hx)
theorem each_map (g : List Pt → List Pt) (p : Plan) : mapG lst (mapG g p) = eachP g p := by
  unfold mapG eachP
  simp only [List.map_map]
  rfl
theorem PlanOwn.outR {B n c n' c' m c3 : Nat} {W : World} {A A' A3 : Option Addr} {p : Plan} {hs : List Hd} {ys : List Pt} (h : PlanOwn B W A n c A' n' c' p hs) (hnew : W.ownsRow B 35 2 (.slice A3 m c3) m (ptsV ys)) (hf : (⟨ys, p.parcels⟩ : Plan).fits) :
    PlanOwn B W A3 m c3 A' n' c' ⟨ys, p.parcels⟩ hs := ⟨hnew, h.row, h.len, h.lenp, h.rings, hf⟩
end Go.Proofs.YtnpjggcgnbgkjaaGreat
