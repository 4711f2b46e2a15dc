/- slices.SortFunc's contract at points, laid off the shelf (made by lay-plain.mjs and lay_tpl.py). -/
/- geo.Order, to the very world that it leaves: draws, and blocks of its own. -/
/- Words between a slice of points and the sort's row. -/
/- slices.SortFunc, slices.SortedFunc at points, and ring.twice. -/
/- ring.twice: the walk. -/
import Derived.Shelf.SlLaysF0
import Derived.Test.YtcohioplkchojaaPtW
import Derived.Test.YtcohioplkchojaaGeo
import Derived.Sort.Grow
import Derived.Test.YtcohioplkchojaaEdges2
import Derived.Test.YtcohioplkchojaaGeoLaw
import Derived.Shelf.SlSortCmp.InsertionK
import Derived.Shelf.SlSortFuncK.SWK
import Derived.Test.YtcohioplkchojaaCollect
import Derived.Shelf.SlSortCmp.WholeK
namespace Go.Proofs.Ytcohioplkchojaa
open Go.Shelf
def sortPt_ren : Go.Shelf.Ren := ⟨fun | 6 => 95 | 15 => 105 | 14 => 104 | 28 => 116 | 29 => 117 | 20 => 108 | 21 => 109 | 22 => 110 | 23 => 111 | 24 => 112 | 25 => 113 | 26 => 114 | 27 => 115 | 46 => 118 | 47 => 119 | 48 => 120 | 49 => 121 | 50 => 122 | 57 => 123 | n => n, fun | 22 => 22 | 24 => 35 | 25 => 113 | 3 => 3 | 39 => 108 | 0 => 0 | 53 => 102 | 55 => 24 | 4 => 4 | 46 => 136 | 45 => 135 | 50 => 140 | 5 => 5 | 9 => 9 | 66 => 144 | 70 => 148 | 76 => 150 | 77 => 151 | n => n, fun | n => n⟩
theorem sortPt : Go.Proofs.SlLaysF0.n6 Try.prog sortPt_ren := {
  mixed := by kernel_rfl
  f6 := ⟨Try.f95.name, by decide, Try.func95.trans (congrArg some (by kernel_rfl))⟩
  f14 := ⟨Try.f104.name, by decide, Try.func104.trans (congrArg some (by kernel_rfl))⟩
  f15 := Try.func105.trans (congrArg some (by kernel_rfl))
  f20 := ⟨Try.f108.name, by decide, Try.func108.trans (congrArg some (by kernel_rfl))⟩
  f21 := ⟨Try.f109.name, by decide, Try.func109.trans (congrArg some (by kernel_rfl))⟩
  f22 := ⟨Try.f110.name, by decide, Try.func110.trans (congrArg some (by kernel_rfl))⟩
  f23 := ⟨Try.f111.name, by decide, Try.func111.trans (congrArg some (by kernel_rfl))⟩
  f24 := ⟨Try.f112.name, by decide, Try.func112.trans (congrArg some (by kernel_rfl))⟩
  f25 := ⟨Try.f113.name, by decide, Try.func113.trans (congrArg some (by kernel_rfl))⟩
  f26 := ⟨Try.f114.name, by decide, Try.func114.trans (congrArg some (by kernel_rfl))⟩
  f27 := ⟨Try.f115.name, by decide, Try.func115.trans (congrArg some (by kernel_rfl))⟩
  f28 := Try.func116.trans (congrArg some (by kernel_rfl))
  f29 := Try.func117.trans (congrArg some (by kernel_rfl))
  f46 := ⟨Try.f118.name, by decide, Try.func118.trans (congrArg some (by kernel_rfl))⟩
  f47 := Try.func119.trans (congrArg some (by kernel_rfl))
  f48 := Try.func120.trans (congrArg some (by kernel_rfl))
  f49 := ⟨Try.f121.name, by decide, Try.func121.trans (congrArg some (by kernel_rfl))⟩
  f50 := ⟨Try.f122.name, by decide, Try.func122.trans (congrArg some (by kernel_rfl))⟩
  f57 := ⟨Try.f123.name, by decide, Try.func123.trans (congrArg some (by kernel_rfl))⟩
  t0 := Try.underlying0
  a0 := Try.isAgg0
  z0 := Try.sizeOf0
  v0 := Try.zeroValue0
  t3 := Try.underlying3
  a3 := Try.isAgg3
  z3 := Try.sizeOf3
  v3 := Try.zeroValue3
  t4 := Try.underlying4
  a4 := Try.isAgg4
  z4 := Try.sizeOf4
  v4 := Try.zeroValue4
  t5 := Try.underlying5
  a5 := Try.isAgg5
  z5 := Try.sizeOf5
  v5 := Try.zeroValue5
  t9 := Try.underlying9
  a9 := Try.isAgg9
  z9 := Try.sizeOf9
  v9 := Try.zeroValue9
  t22 := Try.underlying22
  a22 := Try.isAgg22
  z22 := Try.sizeOf22
  v22 := Try.zeroValue22
  t25 := Try.underlying113
  a25 := Try.isAgg113
  z25 := Try.sizeOf113
  v25 := Try.zeroValue113
  t39 := Try.underlying108
  a39 := Try.isAgg108
  z39 := Try.sizeOf108
  v39 := Try.zeroValue108
  t45 := Try.underlying135
  a45 := Try.isAgg135
  z45 := Try.sizeOf135
  v45 := Try.zeroValue135
  t46 := Try.underlying136
  a46 := Try.isAgg136
  z46 := Try.sizeOf136
  v46 := Try.zeroValue136
  t50 := Try.underlying140
  a50 := Try.isAgg140
  z50 := Try.sizeOf140
  v50 := Try.zeroValue140
  t53 := Try.underlying102
  a53 := Try.isAgg102
  z53 := Try.sizeOf102
  v53 := Try.zeroValue102
  t55 := Try.underlying24
  a55 := Try.isAgg24
  z55 := Try.sizeOf24
  v55 := Try.zeroValue24
  t66 := Try.underlying144
  a66 := Try.isAgg144
  z66 := Try.sizeOf144
  v66 := Try.zeroValue144
  t70 := Try.underlying148
  a70 := Try.isAgg148
  z70 := Try.sizeOf148
  v70 := Try.zeroValue148
  t76 := Try.underlying150
  a76 := Try.isAgg150
  z76 := Try.sizeOf150
  v76 := Try.zeroValue150
  t77 := Try.underlying151
  a77 := Try.isAgg151
  z77 := Try.sizeOf151
  v77 := Try.zeroValue151 }
end Go.Proofs.Ytcohioplkchojaa
namespace Go.Proofs.Ytcohioplkchojaa
open Go.RowKit Go.Sort
def Grows (w w' : World) : Prop := ∃ q os, w' = grow (w.drewN q) os
theorem Grows.refl (w : World) : Grows w w := ⟨0, #[], by rw [grow_empty]; rfl⟩
theorem Grows.alloc {w w' : World} (h : Grows w w') (o : Obj) : Grows w (w'.alloc o) := by
  obtain ⟨q, os, rfl⟩ := h
  exact ⟨q, os ++ #[o], by rw [alloc_eq_grow, grow_grow]⟩
theorem Grows.drew {w w' : World} (h : Grows w w') : Grows w w'.drew := by
  obtain ⟨q, os, rfl⟩ := h
  exact ⟨q + 1, os, rfl⟩
set_option maxRecDepth 100000 in
set_option maxHeartbeats 400000 in
theorem order_grows (a b : Pt) (w : World) :
    Calls Try.prog 85 #[ptV a, ptV b] w fun e w' => e = .returned (.int .i64 (ordI a b)) ∧ Grows w w' := by
  have hA := (HasPt.new w a 35).alloc (.cells #[.int .i64 b.x, .int .i64 b.y] 35)
  have hC := HasPt.new (w.alloc (.cells #[.int .i64 a.x, .int .i64 a.y] 35)) b 35
  rw [World.size_alloc] at hC
  have hB : Grows w ((w.alloc (.cells #[.int .i64 a.x, .int .i64 a.y] 35)).alloc (.cells #[.int .i64 b.x, .int .i64 b.y] 35)) := ((Grows.refl _).alloc _).alloc _
  unfold ptV ordI
  go_enter Try.func85, Try.ntmps85
  go_wp2
  obtain ⟨W0, hW0⟩ : ∃ W0, W0 = (w.alloc (.cells #[.int .i64 a.x, .int .i64 a.y] 35)).alloc (.cells #[.int .i64 b.x, .int .i64 b.y] 35) := ⟨_, rfl⟩
  rw [← hW0] at hA hC hB ⊢
  clear hW0
  refine wp_region_still_tail 10 (by kernel_rfl) (by kernel_rfl) ?_
  change wpStill _ _ W0.drew _ _ _
  obtain ⟨hax, hay, haz⟩ := hA
  obtain ⟨hbx, hby, hbz⟩ := hC
  simp only [List.take_succ_cons, List.take_zero, List.drop_succ_cons, List.drop_zero]
  repeat (first | still_step | still_call (compare_still _ _ _))
  try refine wpStill_nil ?_
  change wpList _ _ _ _ _ W0.drew
  have hB := hB.drew
  generalize W0.drew = W1 at *
  clear hax hay haz hbx hby hbz
  go_wp2_with fail
  refine (or_any (cmpI a.x b.x) (cmpI a.y b.y) W1.heap.size 0 _ _ (by simp) (by simp)).mono ?_
  rintro e w' ⟨rfl, rfl⟩
  go_wp2
  go_ret
  exact ⟨rfl, hB.alloc _⟩
end Go.Proofs.Ytcohioplkchojaa
namespace Go.Proofs.Ytcohioplkchojaa
open Go.RowKit Go.Sort Go.Shelf
instance : Inhabited Pt := ⟨⟨0, 0⟩⟩
def encPt (p : Pt) : List Value := [.int .i64 p.x, .int .i64 p.y]
theorem ptsV_at {l : List Pt} {j : Nat} {u : Value} (h : (ptsV l)[j]? = some u) : ∃ hk : j / 2 < l.length, u = (encPt l[j / 2])[j % 2]! := by
  have hj : j < l.length * 2 := by rw [← ptsV_length]; exact (List.getElem?_eq_some_iff.1 h).1
  have hk : j / 2 < l.length := by omega
  refine ⟨hk, ?_⟩
  have hg := ptsV_get l (j / 2) hk
  have hm : j % 2 = 0 ∨ j % 2 = 1 := by omega
  rcases hm with hm | hm
  · rw [show j / 2 * 2 = j by omega, h] at hg
    rw [hm]
    exact Option.some.inj hg.1
  · rw [show j / 2 * 2 + 1 = j by omega, h] at hg
    rw [hm]
    exact Option.some.inj hg.2
theorem holdsK_own {w : World} {base : Nat} {e : TypeId} {g n cap : Nat} {d : List Pt} (h : w.ownsRow base e 2 (.slice (some ⟨g, 0, none⟩) n cap) n (ptsV d)) : HoldsK encPt 2 w g 0 d.toArray := fun j hj => by
  rw [size_flatK] at hj
  have hl : d.length * 2 = n * 2 := by rw [← ptsV_length]; exact h.1
  have hj' : j < n * 2 := by simp at hj; omega
  refine ⟨?_, ?_⟩
  · rw [Nat.zero_add, h.cellAt j hj', get_flatK _ _ _ _ hj]
    have hl2 : j < (ptsV d).length := by rw [h.1]; exact hj'
    obtain ⟨hk, hu⟩ := ptsV_at (List.getElem?_eq_getElem hl2)
    rw [List.getElem?_eq_getElem hl2, hu]
    simp [hk]
  · rw [Nat.zero_add]
    exact h.frozenAt j
theorem reads_holdsK {w : World} {g : Nat} {d : List Pt} (hg : g < w.heap.size) (h : HoldsK encPt 2 w g 0 d.toArray) : Reads w w.heap.size 2 (some ⟨g, 0, none⟩) d.length (ptsV d) := by
  refine ⟨ptsV_length d, fun _ => ⟨_, rfl, hg, fun j u hu => ?_⟩⟩
  obtain ⟨hk, rfl⟩ := ptsV_at hu
  rw [add_row]
  have := (h.cell (i := j / 2) (c := j % 2) (by simpa using hk) (by omega)).1
  rw [show 0 + j / 2 * 2 + j % 2 = j by omega] at this
  rw [this]
  simp [hk]
theorem grownBy_sortK {w : World} {g n : Nat} {os : Array Obj} (d : Array Pt) : w.grownBy (sortWorldK encPt 2 w g 0 n d os) (some g) := by
  refine ⟨rfl, rfl, rfl, by simp [sortWorldK, putRowK, grow, Sort.ahead], fun k hk hne => ?_⟩
  unfold sortWorldK
  rw [heap_grow_old _ _ (by simpa [putRowK, Sort.ahead] using hk)]
  have : g ≠ k := fun e => hne (by rw [e])
  simp [putRowK, putRow, mapBlock, Sort.ahead, Array.getElem?_modify, this]
theorem order_swo : SWO (ltOf ordI) where
  irrefl x := by
    unfold ltOf ordI orI
    rcases cmpI_cases x.x x.x with ⟨h, e⟩ | ⟨h, e⟩ | ⟨h, e⟩ <;> rcases cmpI_cases x.y x.y with ⟨h', e'⟩ | ⟨h', e'⟩ | ⟨h', e'⟩ <;> rw [e, e'] <;> (first | omega | rfl)
  trans x y z h1 h2 := by
    unfold ltOf ordI orI at *
    rw [decide_eq_true_iff] at *
    rcases cmpI_cases x.x y.x with ⟨a, e⟩ | ⟨a, e⟩ | ⟨a, e⟩ <;> rcases cmpI_cases x.y y.y with ⟨b, f⟩ | ⟨b, f⟩ | ⟨b, f⟩ <;>
    rcases cmpI_cases y.x z.x with ⟨c, g⟩ | ⟨c, g⟩ | ⟨c, g⟩ <;> rcases cmpI_cases y.y z.y with ⟨d, i⟩ | ⟨d, i⟩ | ⟨d, i⟩ <;>
    rcases cmpI_cases x.x z.x with ⟨j, k⟩ | ⟨j, k⟩ | ⟨j, k⟩ <;> rcases cmpI_cases x.y z.y with ⟨m, o⟩ | ⟨m, o⟩ | ⟨m, o⟩ <;>
    rw [e, f] at h1 <;> rw [g, i] at h2 <;> rw [k, o] <;> (first | omega | (simp at h1; done) | (simp at h2; done) | simp)
  ntrans x y z h1 h2 := by
    unfold ltOf ordI orI at *
    rw [decide_eq_false_iff_not] at *
    rcases cmpI_cases x.x y.x with ⟨a, e⟩ | ⟨a, e⟩ | ⟨a, e⟩ <;> rcases cmpI_cases x.y y.y with ⟨b, f⟩ | ⟨b, f⟩ | ⟨b, f⟩ <;>
    rcases cmpI_cases y.x z.x with ⟨c, g⟩ | ⟨c, g⟩ | ⟨c, g⟩ <;> rcases cmpI_cases y.y z.y with ⟨d, i⟩ | ⟨d, i⟩ | ⟨d, i⟩ <;>
    rcases cmpI_cases x.x z.x with ⟨j, k⟩ | ⟨j, k⟩ | ⟨j, k⟩ <;> rcases cmpI_cases x.y z.y with ⟨m, o⟩ | ⟨m, o⟩ | ⟨m, o⟩ <;>
    rw [e, f] at h1 <;> rw [g, i] at h2 <;> rw [k, o] <;> (first | omega | (simp at h1; done) | (simp at h2; done) | simp)
theorem cmp_lays (g size : Nat) (w : World) : CmpLays Try.prog 85 #[] encPt 2 ordI g 0 size w := fun _ _ _ _ x y => order_grows x y _
end Go.Proofs.Ytcohioplkchojaa
namespace Go.Proofs.Ytcohioplkchojaa
open Go.RowKit Go.Shelf Go.Sort
theorem perm_list {d : List Pt} {d' : Array Pt} (h : PermIn 0 d.toArray.size d.toArray d') : d'.toList.Perm d ∧ d'.size = d.length := by
  obtain ⟨h1, -, h2⟩ := h
  refine ⟨?_, by simpa using h1⟩
  rw [← h1, Array.extract_size, h1, Array.extract_size] at h2
  simpa using h2
theorem sortFunc_any (d : List Pt) (g n cap base : Nat) (w : World) (hown : w.ownsRow base 35 2 (.slice (some ⟨g, 0, none⟩) n cap) n (ptsV d)) (hn : n ≤ 128) :
    Calls Try.prog 95 #[.slice (some ⟨g, 0, none⟩) n cap, .func (.func 85) #[] #[]] w fun e w' => e = .returned (.tuple #[]) ∧ ∃ d' : List Pt, d'.Perm d ∧ Reads w' w'.heap.size 2 (some ⟨g, 0, none⟩) n (ptsV d') ∧ w.grownBy w' (some g) := by
  have hl : d.length = n := by have h := hown.1; rw [ptsV_length] at h; omega
  have hg : g < w.heap.size := (hown.lt g rfl).2
  have hH := holdsK_own hown
  have eg : ∀ args w, (callFunc 85 args).run Try.prog w = .ok (.enter 85 args) w := enters_of Try.func85 (by kernel_rfl) rfl
  have hcon := AnyQ.slices_SortFunc sortPt 2 Try.isAgg35 Try.sizeOf35 encPt (fun _ => rfl) (fun x v hv => by simp [encPt] at hv; rcases hv with rfl | rfl <;> rfl) ordI order_swo 85 #[] g 0 cap d.toArray w eg (cmp_lays g d.toArray.size w) hH hg (by simp; omega)
  change Calls Try.prog 95 _ _ _ at hcon
  rw [List.size_toArray, hl] at hcon
  refine hcon.mono ?_
  rintro e w' ⟨he, d', m, os, hp, -, rfl⟩
  rw [← hl, ← List.size_toArray] at hp
  obtain ⟨h1, h2⟩ := perm_list hp
  have hSW : SWK encPt 2 w g 0 d' (sortWorldK encPt 2 w g 0 m d' os) := ⟨m, os, rfl⟩
  have hH' := hSW.holds hg hH (by simpa using h2)
  have hR := reads_holdsK (d := d'.toList) (hSW.lt hg) (by simpa using hH')
  refine ⟨he, d'.toList, h1, ?_, grownBy_sortK d'⟩
  rw [show n = d'.toList.length by simp; omega]
  exact hR
theorem collect_any (xs : List Pt) (A : Option Addr) (n cap B Bs : Nat) (w : World) (hn : n ≤ 128) (hB : B ≤ w.heap.size) (hs : Bs < w.heap.size) (hc : w.cell? ⟨Bs, 0, none⟩ = some (.slice A n cap)) (hr : Reads w B 2 A n (ptsV xs)) :
    Calls Try.prog 94 #[.func (.func 96) #[] #[.pointer (some ⟨Bs, 0, none⟩)]] w fun e w' => ∃ v, e = .returned v ∧ w'.ownsRow w.heap.size 35 2 v n (ptsV xs) ∧ Below w.heap.size w w' := by
  have HK := Lib.hid (appendSeq_any xs A n cap B Bs w hn hB hs hc hr)
  clear hc hr
  go_enter Try.func94, Try.ntmps94
  go_wp2_with fail
  refine HK.out.mono ?_
  rintro e w' ⟨v, rfl, ho, hb⟩
  have HO := Lib.hid ho
  clear ho
  go_wp2_with fail
  go_ret
  exact ⟨_, rfl, HO.out, hb⟩
theorem sortedFunc_any (xs : List Pt) (A : Option Addr) (n cap B Bs : Nat) (w : World) (h1 : 1 ≤ n) (hn : n ≤ 128) (hB : B ≤ w.heap.size) (hs : Bs < w.heap.size) (hc : w.cell? ⟨Bs, 0, none⟩ = some (.slice A n cap)) (hr : Reads w B 2 A n (ptsV xs)) :
    Calls Try.prog 83 #[.func (.func 96) #[] #[.pointer (some ⟨Bs, 0, none⟩)], .func (.func 85) #[] #[]] w fun e w' => ∃ ad c, e = .returned (.slice (some ad) n c) ∧ ∃ d : List Pt, d.Perm xs ∧ Reads w' w'.heap.size 2 (some ad) n (ptsV d) ∧ Below w.heap.size w w' := by
  have HK := Lib.hid (collect_any xs A n cap B Bs w hn hB hs hc hr)
  clear hc hr
  go_enter Try.func83, Try.ntmps83
  go_wp2_with fail
  refine HK.out.mono ?_
  rintro e w1 ⟨v, rfl, ho, hb⟩
  obtain ⟨g, c, rfl⟩ : ∃ g c, v = .slice (some ⟨g, 0, none⟩) n c := by
    rcases ho.2 with ⟨_, h0⟩ | ⟨g, c, _, rfl, _⟩
    · omega
    · exact ⟨g, c, rfl⟩
  have hbase := (ho.lt g rfl).1
  have HS := Lib.hid (sortFunc_any xs g n c w.heap.size w1 ho hn)
  clear ho HK
  go_wp2_with fail
  refine HS.out.mono ?_
  rintro e w2 ⟨rfl, d, hp, hrd, hgr⟩
  have HD := Lib.hid (And.intro hp (And.intro hrd (hb.grown hgr hb.size (fun k e => by cases e; exact hbase))))
  clear hp hrd hgr HS hb
  go_wp2_with fail
  go_ret
  exact ⟨_, _, rfl, d, HD.out⟩
end Go.Proofs.Ytcohioplkchojaa
namespace Go.Proofs.Ytcohioplkchojaa
open Go.RowKit
theorem nodup_of {xs d : List Pt} (hp : d.Perm xs) {k : Nat} (h1 : 1 ≤ k) (hk : k < d.length) (h : ptAt d k = ptAt d (k - 1)) : ¬ xs.Nodup := fun hn => by
  have hd := (hp.nodup_iff).2 hn
  rw [ptAt_lt hk, ptAt_lt (by omega)] at h
  have := List.pairwise_iff_getElem.1 hd (k - 1) k (by omega) hk (by omega)
  exact this h.symm
set_option maxRecDepth 100000 in
set_option maxHeartbeats 1600000 in
theorem twice_any (xs : List Pt) (A : Option Addr) (n cap : Nat) (w : World) (hr : Reads w w.heap.size 2 A n (ptsV xs)) (h1 : 1 ≤ n) (hn : n ≤ 128) :
    Calls Try.prog 54 #[.slice A n cap] w fun e w' => ∃ t, e = .returned (.bool t) ∧ (t = true → ¬ xs.Nodup) ∧ Below w.heap.size w w' := by
  have hb0 := (Below.refl w.heap.size w).alloc (Nat.le_refl _) (.cells #[.slice A n cap] 23)
  have HK := Lib.hid (sortedFunc_any xs A n cap w.heap.size w.heap.size (w.alloc (.cells #[.slice A n cap] 23)) h1 hn hb0.size (by simp) (by simp) (hr.below hb0))
  have HB := Lib.hid hb0
  clear hr hb0
  go_enter Try.func54, Try.ntmps54
  go_wp2_with (go_at_call 84; refine (values_any A n cap _).mono ?_; rintro e w1 ⟨rfl, rfl⟩)
  refine HK.out.mono ?_
  rintro e w1 ⟨ad, c, rfl, d, hp, hrd, hb1⟩
  have hbb := below_on HB.out (Nat.le_refl _) hb1
  have HP := Lib.hid (And.intro hp hrd)
  clear hp hrd hb1 HK HB
  go_wp2_with fail
  go_loopw [4] (fun i wr => ∃ k : Nat, 1 ≤ k ∧ k ≤ n ∧ i = .int .i64 (k : Int) ∧ ∃ q, wr = w1.drewN q) (fun i _ => n - (intOf i).toNat)
  case atStart => exact ⟨1, Nat.le_refl _, h1, rfl, 0, rfl⟩
  case round =>
    obtain ⟨k, hk1, hk, rfl, q, rfl⟩ := hrel
    by_cases hlt : k < n
    · have hl : d.length = n := HP.out.2.lenPt
      obtain ⟨hbd, p1, p2⟩ := HP.out.2.ptA hlt
      obtain ⟨-, q1, q2⟩ := HP.out.2.ptA (k := k - 1) (by omega)
      have hw0 : IntKind.i64.wrap ((k : Int) - 1) = ((k - 1 : Nat) : Int) := by rw [IntKind.wrap_i64]; omega
      have hw1 : IntKind.i64.wrap ((k : Int) + 1) = (k : Int) + 1 := by rw [IntKind.wrap_i64]; omega
      have hlt' : (k : Int) < (n : Int) := by omega
      have hlt0 : ((k - 1 : Nat) : Int) < (n : Int) := by omega
      have hnd : ptAt d k = ptAt d (k - 1) → ¬ xs.Nodup := nodup_of HP.out.1 hk1 (by omega)
      obtain ⟨j, hj⟩ : ∃ j, j = k - 1 := ⟨_, rfl⟩
      rw [← hj] at q1 q2 hw0 hlt0 hnd
      have hnd2 : (ptAt d k).x = (ptAt d j).x → (ptAt d k).y = (ptAt d j).y → ¬ xs.Nodup := fun e1 e2 => hnd (by
        rcases h1 : ptAt d k with ⟨a, b⟩
        rcases h2 : ptAt d j with ⟨a', b'⟩
        rw [h1, h2] at e1 e2
        simp only at e1 e2
        rw [e1, e2])
      clear hnd hj
      generalize (ptAt d k).x = px at *
      generalize (ptAt d k).y = py at *
      generalize (ptAt d j).x = qx at *
      generalize (ptAt d j).y = qy at *
      have HN := Lib.hid hnd2
      have HJ := Lib.hid hbb
      clear hnd2 hl hbd hbb
      replace p1 : (w1.drewN q).cell? (ad.add (k * 2)) = some (.int .i64 px) := p1
      replace p2 : (w1.drewN q).cell? ⟨(ad.add (k * 2)).block, (ad.add (k * 2)).off + 1, none⟩ = some (.int .i64 py) := p2
      replace q1 : (w1.drewN q).cell? (ad.add (j * 2)) = some (.int .i64 qx) := q1
      replace q2 : (w1.drewN q).cell? ⟨(ad.add (j * 2)).block, (ad.add (j * 2)).off + 1, none⟩ = some (.int .i64 qy) := q2
      generalize hV : w1.drewN q = V at *
      by_cases hxe : px = qx ∧ py = qy
      · obtain ⟨rfl, rfl⟩ := hxe
        go_wp2_with fail
        go_quiet (fail)
        go_wp2_with fail
        go_ret
        refine ⟨true, rfl, fun _ => by have := HN.out; simpa using this, below_drewN ?_ _⟩
        rw [← hV]
        exact below_drewN HJ.out _
      · have hne : ((px == qx) = true ∧ (py == qy) = false) ∨ (px == qx) = false := by
          by_cases h1 : px = qx
          · by_cases h2 : py = qy
            · exact absurd ⟨h1, h2⟩ hxe
            · exact .inl ⟨by simpa using h1, by simpa using h2⟩
          · exact .inr (by simpa using h1)
        clear hxe
        rcases hne with ⟨e1, e2⟩ | e1
        all_goals
          go_wp2_with fail
          go_quiet (fail)
          go_wp2_with fail
          go_roundw
          case rel => exact ⟨k + 1, by omega, by omega, by go_num, _, by rw [← hV, World.drewN_drewN]⟩
          case measure => simp [intOf]; omega
    · go_wp2_with fail
      go_ret
      exact ⟨false, rfl, fun h => (by cases h), below_drewN hbb _⟩
end Go.Proofs.Ytcohioplkchojaa
