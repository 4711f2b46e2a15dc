/- slices.SortFunc of parcels, by their numbers: laid off the shelf, and the order's walk. -/
import Derived.Test.YtmegmokjjlelgaaGreatK18
import Derived.Test.YtmegmokjjlelgaaGreatK30
namespace Go.Proofs.YtmegmokjjlelgaaGreat
open Go.Shelf
def sortPc_ren : Go.Shelf.Ren := ⟨fun | 6 => 66 | 15 => 115 | 14 => 114 | 28 => 149 | 29 => 150 | 20 => 141 | 21 => 142 | 22 => 143 | 23 => 144 | 24 => 145 | 25 => 146 | 26 => 147 | 27 => 148 | 46 => 185 | 47 => 186 | 48 => 187 | 49 => 188 | 50 => 189 | 57 => 208 | n => n, fun | 22 => 24 | 24 => 40 | 25 => 101 | 3 => 3 | 39 => 136 | 0 => 0 | 53 => 81 | 55 => 34 | 4 => 4 | 46 => 173 | 45 => 172 | 50 => 177 | 5 => 5 | 9 => 9 | 66 => 206 | 70 => 210 | 76 => 222 | 77 => 223 | n => n, fun | n => n⟩
theorem sortPc : Go.Proofs.SlLaysF0.n6 Tryz.prog sortPc_ren := {
  mixed := by kernel_rfl
  f6 := ⟨Tryz.f66.name, by decide, Tryz.func66.trans (congrArg some (by kernel_rfl))⟩
  f14 := ⟨Tryz.f114.name, by decide, Tryz.func114.trans (congrArg some (by kernel_rfl))⟩
  f15 := Tryz.func115.trans (congrArg some (by kernel_rfl))
  f20 := ⟨Tryz.f141.name, by decide, Tryz.func141.trans (congrArg some (by kernel_rfl))⟩
  f21 := ⟨Tryz.f142.name, by decide, Tryz.func142.trans (congrArg some (by kernel_rfl))⟩
  f22 := ⟨Tryz.f143.name, by decide, Tryz.func143.trans (congrArg some (by kernel_rfl))⟩
  f23 := ⟨Tryz.f144.name, by decide, Tryz.func144.trans (congrArg some (by kernel_rfl))⟩
  f24 := ⟨Tryz.f145.name, by decide, Tryz.func145.trans (congrArg some (by kernel_rfl))⟩
  f25 := ⟨Tryz.f146.name, by decide, Tryz.func146.trans (congrArg some (by kernel_rfl))⟩
  f26 := ⟨Tryz.f147.name, by decide, Tryz.func147.trans (congrArg some (by kernel_rfl))⟩
  f27 := ⟨Tryz.f148.name, by decide, Tryz.func148.trans (congrArg some (by kernel_rfl))⟩
  f28 := Tryz.func149.trans (congrArg some (by kernel_rfl))
  f29 := Tryz.func150.trans (congrArg some (by kernel_rfl))
  f46 := ⟨Tryz.f185.name, by decide, Tryz.func185.trans (congrArg some (by kernel_rfl))⟩
  f47 := Tryz.func186.trans (congrArg some (by kernel_rfl))
  f48 := Tryz.func187.trans (congrArg some (by kernel_rfl))
  f49 := ⟨Tryz.f188.name, by decide, Tryz.func188.trans (congrArg some (by kernel_rfl))⟩
  f50 := ⟨Tryz.f189.name, by decide, Tryz.func189.trans (congrArg some (by kernel_rfl))⟩
  f57 := ⟨Tryz.f208.name, by decide, Tryz.func208.trans (congrArg some (by kernel_rfl))⟩
  t0 := Tryz.underlying0
  a0 := Tryz.isAgg0
  z0 := Tryz.sizeOf0
  v0 := Tryz.zeroValue0
  t3 := Tryz.underlying3
  a3 := Tryz.isAgg3
  z3 := Tryz.sizeOf3
  v3 := Tryz.zeroValue3
  t4 := Tryz.underlying4
  a4 := Tryz.isAgg4
  z4 := Tryz.sizeOf4
  v4 := Tryz.zeroValue4
  t5 := Tryz.underlying5
  a5 := Tryz.isAgg5
  z5 := Tryz.sizeOf5
  v5 := Tryz.zeroValue5
  t9 := Tryz.underlying9
  a9 := Tryz.isAgg9
  z9 := Tryz.sizeOf9
  v9 := Tryz.zeroValue9
  t22 := Tryz.underlying24
  a22 := Tryz.isAgg24
  z22 := Tryz.sizeOf24
  v22 := Tryz.zeroValue24
  t25 := Tryz.underlying101
  a25 := Tryz.isAgg101
  z25 := Tryz.sizeOf101
  v25 := Tryz.zeroValue101
  t39 := Tryz.underlying136
  a39 := Tryz.isAgg136
  z39 := Tryz.sizeOf136
  v39 := Tryz.zeroValue136
  t45 := Tryz.underlying172
  a45 := Tryz.isAgg172
  z45 := Tryz.sizeOf172
  v45 := Tryz.zeroValue172
  t46 := Tryz.underlying173
  a46 := Tryz.isAgg173
  z46 := Tryz.sizeOf173
  v46 := Tryz.zeroValue173
  t50 := Tryz.underlying177
  a50 := Tryz.isAgg177
  z50 := Tryz.sizeOf177
  v50 := Tryz.zeroValue177
  t53 := Tryz.underlying81
  a53 := Tryz.isAgg81
  z53 := Tryz.sizeOf81
  v53 := Tryz.zeroValue81
  t55 := Tryz.underlying34
  a55 := Tryz.isAgg34
  z55 := Tryz.sizeOf34
  v55 := Tryz.zeroValue34
  t66 := Tryz.underlying206
  a66 := Tryz.isAgg206
  z66 := Tryz.sizeOf206
  v66 := Tryz.zeroValue206
  t70 := Tryz.underlying210
  a70 := Tryz.isAgg210
  z70 := Tryz.sizeOf210
  v70 := Tryz.zeroValue210
  t76 := Tryz.underlying222
  a76 := Tryz.isAgg222
  z76 := Tryz.sizeOf222
  v76 := Tryz.zeroValue222
  t77 := Tryz.underlying223
  a77 := Tryz.isAgg223
  z77 := Tryz.sizeOf223
  v77 := Tryz.zeroValue223 }
end Go.Proofs.YtmegmokjjlelgaaGreat
namespace Go.Proofs.YtmegmokjjlelgaaGreat
open Go.RowKit Go.Shelf Go.Sort
abbrev PcH := Parc × Hd
instance : Inhabited PcH := ⟨(⟨0, [], ByteArray.empty⟩, (none, 0, 0))⟩
def cmpPH (e f : PcH) : Int := cmpI e.1.id f.1.id
theorem cmpPH_neg {e f : PcH} : cmpPH e f < 0 ↔ e.1.id < f.1.id := by
  unfold cmpPH
  rcases cmpI_cases e.1.id f.1.id with ⟨h, e'⟩ | ⟨h, e'⟩ | ⟨h, e'⟩ <;> rw [e'] <;> simp <;> omega
theorem pch_swo : SWO (ltOf cmpPH) where
  irrefl x := by unfold ltOf; rw [decide_eq_false_iff_not, cmpPH_neg]; omega
  trans x y z h1 h2 := by
    unfold ltOf at *
    rw [decide_eq_true_iff, cmpPH_neg] at *
    omega
  ntrans x y z h1 h2 := by
    unfold ltOf at *
    rw [decide_eq_false_iff_not, cmpPH_neg] at *
    omega
set_option maxRecDepth 100000 in
set_option maxHeartbeats 1600000 in
theorem split1_grows (e f : PcH) (w : World) :
    Calls Tryz.prog 67 #[.agg #[.int .i64 e.1.id, .slice e.2.1 e.2.2.1 e.2.2.2, .string e.1.owner], .agg #[.int .i64 f.1.id, .slice f.2.1 f.2.2.1 f.2.2.2, .string f.1.owner]] w fun r w' => r = .returned (.int .i64 (cmpPH e f)) ∧ Grows w w' := by
  have hG : Grows w ((w.alloc (.cells #[.int .i64 e.1.id, .slice e.2.1 e.2.2.1 e.2.2.2, .string e.1.owner] 40)).alloc (.cells #[.int .i64 f.1.id, .slice f.2.1 f.2.2.1 f.2.2.2, .string f.1.owner] 40)) := ((Grows.refl _).alloc _).alloc _
  have HC : Hid (cmpPH e f = cmpI e.1.id f.1.id) := rfl
  have HG := Lib.hid hG
  clear hG
  go_enter Tryz.func67, Tryz.ntmps67
  go_wp2_with fail
  refine (compare_any _ _ _).mono ?_
  rintro r w' ⟨rfl, rfl⟩
  go_wp2_with fail
  go_ret
  exact ⟨by rw [HC.out]; rfl, HG.out⟩
def encPH (e : PcH) : List Value := [.int .i64 e.1.id, .slice e.2.1 e.2.2.1 e.2.2.2, .string e.1.owner]
def pchV (l : List PcH) : List Value := l.flatMap encPH
theorem pchV_length (l : List PcH) : (pchV l).length = l.length * 3 := by
  induction l with
  | nil => rfl
  | cons e l ih => unfold pchV at *; rw [List.flatMap_cons, List.length_append, ih]; simp [encPH]; omega
theorem pchV_at {l : List PcH} {j : Nat} {u : Value} (h : (pchV l)[j]? = some u) : ∃ hk : j / 3 < l.length, u = (encPH l[j / 3])[j % 3]! := by
  induction l generalizing j with
  | nil => simp [pchV] at h
  | cons e l ih =>
    have hc : pchV (e :: l) = encPH e ++ pchV l := rfl
    rw [hc] at h
    by_cases hj : j < 3
    · rw [List.getElem?_append_left (by simp [encPH]; omega)] at h
      have h0 : j / 3 = 0 := by omega
      have h1 : j % 3 = j := by omega
      refine ⟨by simp [h0], ?_⟩
      simp only [h0, h1, List.getElem_cons_zero]
      rw [List.getElem!_eq_getElem?_getD, h]
      rfl
    · rw [List.getElem?_append_right (by simp [encPH]; omega)] at h
      have hl : (encPH e).length = 3 := rfl
      rw [hl] at h
      obtain ⟨hk, hu⟩ := ih h
      have e1 : j / 3 = (j - 3) / 3 + 1 := by omega
      have e2 : j % 3 = (j - 3) % 3 := by omega
      refine ⟨by simp; omega, ?_⟩
      simp only [e1, e2, List.getElem_cons_succ]
      exact hu
theorem holdsP_own {w : World} {base : Nat} {t : TypeId} {g n cap : Nat} {d : List PcH} (h : w.ownsRow base t 3 (.slice (some ⟨g, 0, none⟩) n cap) n (pchV d)) : HoldsK encPH 3 w g 0 d.toArray := fun j hj => by
  rw [size_flatK] at hj
  have hl : d.length * 3 = n * 3 := by rw [← pchV_length]; exact h.1
  have hj' : j < n * 3 := by simp at hj; omega
  refine ⟨?_, ?_⟩
  · rw [Nat.zero_add, h.cellAt j hj', get_flatK _ _ _ _ hj]
    have hl2 : j < (pchV d).length := by rw [h.1]; exact hj'
    obtain ⟨hk, hu⟩ := pchV_at (List.getElem?_eq_getElem hl2)
    rw [List.getElem?_eq_getElem hl2, hu]
    simp [hk]
  · rw [Nat.zero_add]
    exact h.frozenAt j
theorem reads_holdsP {w : World} {g : Nat} {d : List PcH} (hg : g < w.heap.size) (h : HoldsK encPH 3 w g 0 d.toArray) : Reads w w.heap.size 3 (some ⟨g, 0, none⟩) d.length (pchV d) := by
  refine ⟨pchV_length d, fun _ => ⟨_, rfl, hg, fun j u hu => ?_⟩⟩
  obtain ⟨hk, rfl⟩ := pchV_at hu
  rw [add_row]
  have := (h.cell (i := j / 3) (c := j % 3) (by simpa using hk) (by omega)).1
  rw [show 0 + j / 3 * 3 + j % 3 = j by omega] at this
  rw [this]
  simp [hk]
theorem grownBy_sortP {w : World} {g n : Nat} {os : Array Obj} (d : Array PcH) : w.grownBy (sortWorldK encPH 3 w g 0 n d os) (some g) := by
  refine ⟨rfl, rfl, rfl, by simp [sortWorldK, putRowK, grow, Sort.ahead], fun k hk hne => ?_⟩
  unfold sortWorldK
  rw [heap_grow_old _ _ (by simpa [putRowK, Sort.ahead] using hk)]
  have : g ≠ k := fun e => hne (by rw [e])
  simp [putRowK, putRow, mapBlock, Sort.ahead, Array.getElem?_modify, this]
theorem cmpPH_lays (g size : Nat) (w : World) : CmpLays Tryz.prog 67 #[] encPH 3 cmpPH g 0 size w := fun _ _ _ _ x y => split1_grows x y _
theorem own_sortP {w : World} {base : Nat} {t : TypeId} {g n cap m : Nat} {d : List PcH} {d' : Array PcH} {os : Array Obj} (h : w.ownsRow base t 3 (.slice (some ⟨g, 0, none⟩) n cap) n (pchV d)) (hs : d'.size = n)
    (hR : Reads (sortWorldK encPH 3 w g 0 m d' os) (sortWorldK encPH 3 w g 0 m d' os).heap.size 3 (some ⟨g, 0, none⟩) d'.toList.length (pchV d'.toList)) :
    (sortWorldK encPH 3 w g 0 m d' os).ownsRow base t 3 (.slice (some ⟨g, 0, none⟩) n cap) n (pchV d'.toList) := by
  rcases h.2 with ⟨h0, -⟩ | ⟨g', cap', cur, he, hb, hg, hnc, hcm, hcs, htk⟩
  · cases h0
  · cases he
    have hlt : g < w.heap.size := (Array.getElem?_eq_some_iff.1 hg).1
    have hW : ∃ cur', (sortWorldK encPH 3 w g 0 m d' os).heap[g]? = some (.cells cur' t (0, 0)) ∧ cur'.size = cur.size := by
      refine ⟨putCells id 0 (flatK encPH 3 d') cur, ?_, ?_⟩
      · unfold sortWorldK
        rw [heap_grow_old _ _ (by simpa [putRowK, putRow, mapBlock, Sort.ahead] using hlt)]
        simp [putRowK, putRow, mapBlock, Sort.ahead, Array.getElem?_modify, hg, onCells]
      · simp [putCells]
    obtain ⟨cur', h1, h2⟩ := hW
    refine ⟨by rw [pchV_length]; simp [hs], .inr ⟨g, cap, cur', rfl, hb, h1, hnc, hcm, by rw [h2, hcs], ?_⟩⟩
    apply List.ext_getElem?
    intro j
    by_cases hj : j < n * 3
    · rw [List.getElem?_take, if_pos hj, Array.getElem?_toList, ← cell_of_row _ g j cur' t (0, 0) h1]
      obtain ⟨ad, e, -, hc⟩ := hR.2 (by simp; omega)
      cases e
      have hl : j < (pchV d'.toList).length := by rw [pchV_length]; simp [hs]; omega
      have := hc j _ (List.getElem?_eq_getElem hl)
      rw [add_row] at this
      rw [this, List.getElem?_eq_getElem hl]
    · rw [List.getElem?_eq_none (by simp; omega), List.getElem?_eq_none (by rw [pchV_length]; simp [hs]; omega)]
theorem perm_listP {d : List PcH} {d' : Array PcH} (h : PermIn 0 d.toArray.size d.toArray d') : d'.toList.Perm d ∧ d'.size = d.length := by
  obtain ⟨h1, -, h2⟩ := h
  refine ⟨?_, by simpa using h1⟩
  rw [← h1, Array.extract_size, h1, Array.extract_size] at h2
  simpa using h2
theorem sortPc_any (d : List PcH) (g n cap base : Nat) (w : World) (hown : w.ownsRow base 40 3 (.slice (some ⟨g, 0, none⟩) n cap) n (pchV d)) (hn : n ≤ 1048576) :
    Calls Tryz.prog 66 #[.slice (some ⟨g, 0, none⟩) n cap, .func (.func 67) #[] #[]] w fun e w' => e = .returned (.tuple #[]) ∧ ∃ d' : List PcH, d'.Perm d ∧ d'.Pairwise (fun e f => ¬ cmpPH f e < 0) ∧ w'.ownsRow base 40 3 (.slice (some ⟨g, 0, none⟩) n cap) n (pchV d') ∧ w.grownBy w' (some g) := by
  have hl : d.length = n := by have h := hown.1; rw [pchV_length] at h; omega
  have hg : g < w.heap.size := (hown.lt g rfl).2
  have hH := holdsP_own hown
  have eg : ∀ args w, (callFunc 67 args).run Tryz.prog w = .ok (.enter 67 args) w := enters_of Tryz.func67 (by kernel_rfl) rfl
  have hcon := AnyQ.slices_SortFunc sortPc 3 Tryz.isAgg40 Tryz.sizeOf40 encPH (fun _ => rfl) (fun x v hv => by simp [encPH] at hv; rcases hv with rfl | rfl | rfl <;> rfl) cmpPH pch_swo 67 #[] g 0 cap d.toArray w eg (cmpPH_lays g d.toArray.size w) hH hg (by simp; omega)
  change Calls Tryz.prog 66 _ _ _ at hcon
  rw [List.size_toArray, hl] at hcon
  refine hcon.mono ?_
  rintro e w' ⟨he, d', m, os, hp, hsd, rfl⟩
  rw [← hl, ← List.size_toArray] at hp hsd
  obtain ⟨h1, h2⟩ := perm_listP hp
  have hSW : SWK encPH 3 w g 0 d' (sortWorldK encPH 3 w g 0 m d' os) := ⟨m, os, rfl⟩
  have hH' := hSW.holds hg hH (by simpa using h2)
  have hR := reads_holdsP (d := d'.toList) (hSW.lt hg) (by simpa using hH')
  refine ⟨he, d'.toList, h1, ?_, ?_, grownBy_sortP d'⟩
  · rw [List.pairwise_iff_getElem]
    intro i j hi hj hij
    have := hsd i j (Nat.zero_le _) hij (by simpa [h2] using hj)
    unfold ltOf at this
    rw [decide_eq_false_iff_not] at this
    rw [getElem!_pos d' j (by simpa using hj), getElem!_pos d' i (by simpa using hi)] at this
    simpa using this
  · have := own_sortP (m := m) (os := os) hown (by rw [h2, hl]) hR
    exact this

theorem rowPV_pch {ps : List Parc} {hs : List Hd} (h : hs.length = ps.length) : rowPV ps hs = pchV (ps.zip hs) := by
  induction ps generalizing hs with
  | nil => simp [rowPV, pchV]
  | cons y ps ih =>
    rcases hs with _ | ⟨g, hs⟩
    · simp at h
    · show pcV y g ++ rowPV ps hs = _
      rw [ih (by simpa using h)]
      rfl
theorem pch_rowPV (d : List PcH) : pchV d = rowPV (d.map (·.1)) (d.map (·.2)) := by
  rw [rowPV_pch (by simp)]
  have e : (d.map (·.1)).zip (d.map (·.2)) = d := by
    induction d with
    | nil => rfl
    | cons x d ih => simp [ih]
  rw [e]
end Go.Proofs.YtmegmokjjlelgaaGreat
