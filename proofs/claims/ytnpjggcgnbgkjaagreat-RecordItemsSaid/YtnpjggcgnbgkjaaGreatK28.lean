/- plan.Insert: the walk; what it makes of a sound plan; merestonelaw14.find, rising: the walks; slices.SortFunc of items, by their keys: bytes.Compare, record.byItem, laid off the shelf. -/
import Derived.Test.YtnpjggcgnbgkjaaGreatK01
import Derived.Test.YtnpjggcgnbgkjaaGreatK12
import Derived.Test.YtnpjggcgnbgkjaaGreatK26
import Derived.Test.YtnpjggcgnbgkjaaGreatK27
namespace Go.Proofs.YtnpjggcgnbgkjaaGreat
open Go.RowKit Go.Lib
theorem ptAt_mem {xs : List Pt} {k : Nat} (h : k < xs.length) : ptAt xs k ∈ xs := by rw [ptAt_lt h]; exact List.getElem_mem h
theorem sound_ring {p : Plan} {xs : List Pt} (hs : SoundP p) (h : ringOf p xs) : goodL xs = true ∧ xs.length ≤ 128 ∧ 3 ≤ xs.length ∧ checkI xs = 0 := by
  have hc : checkI xs = 0 := by
    rcases h with rfl | ⟨x, hx, rfl⟩
    · exact hs.2.1.1
    · exact (hs.2.2.1 x hx).1
  obtain ⟨h1, h2, h3, -⟩ := checkI_zero hc
  exact ⟨h2, h1, h3, hc⟩
theorem good_in2 {q : Pt} (h : good q = true) : q.inI := by unfold good at h; unfold Pt.inI; simp at h; omega
end Go.Proofs.YtnpjggcgnbgkjaaGreat
namespace Go.Proofs.YtnpjggcgnbgkjaaGreat
open Go.RowKit Go.Lib
theorem less_ltK : ∀ x y : List UInt8, Op.bytesLess x y = decide (ltK x y)
  | [], [] => rfl
  | [], _ :: _ => rfl
  | _ :: _, [] => rfl
  | a :: x, b :: y => by
    unfold Op.bytesLess ltK compareBytes
    rw [less_ltK x y]
    by_cases h1 : a < b
    · rw [if_pos h1]; simp [h1]
    · by_cases h2 : b < a
      · rw [if_neg h1, if_pos h2]
        have : ¬ a = b := fun e => by subst e; exact h1 h2
        simp [h1, this]
      · rw [if_neg h1, if_neg h2]
        have : a = b := UInt8.le_antisymm (UInt8.not_lt.1 h2) (UInt8.not_lt.1 h1)
        subst this
        simp [ltK, UInt8.lt_irrefl]
        rfl
set_option maxRecDepth 100000 in
set_option maxHeartbeats 1600000 in
theorem find_any (d : List ItH) (key : List UInt8) (A K : Option Addr) (n c m mc : Nat) (w : World) (h : ItsAt w w.heap.size A n c d) (hk : Reads w w.heap.size 1 K m (u8s key)) (hn : n ≤ 1048576) :
    Calls Tryz.prog 29 #[.slice A n c, .slice K m mc] w fun e w' => e = .returned (.int .i64 (findI (d.map (·.1)) key)) ∧ Below w.heap.size w w' := by
  have e0 : IntKind.i64.wrap ((n : Int) - 1) = (n : Int) - 1 := by rw [IntKind.wrap_i64]; omega
  have HRD := Lib.hid (And.intro h (And.intro hk hn))
  have HL := Lib.hid h.len
  clear h hk
  go_enter Tryz.func29, Tryz.ntmps29
  go_wp2_with fail
  go_loopw [5] (fun i wr => ∃ I : Int, -1 ≤ I ∧ I < n ∧ i = .int .i64 I ∧ Hid (findI (d.map (·.1)) key = findN (d.map (·.1)) key (I + 1).toNat) ∧ Below w.heap.size w wr) (fun i _ => (intOf i + 1).toNat)
  case atStart => exact ⟨(n : Int) - 1, by omega, by omega, rfl, by unfold findI; rw [List.length_map, HL.out, show ((n : Int) - 1 + 1).toNat = n by omega]; rfl, Below.refl _ _⟩
  case round =>
    obtain ⟨I, hI0, hIn, rfl, HF, hbel⟩ := hrel
    by_cases hlt : 0 ≤ I
    · obtain ⟨k, rfl⟩ := Int.eq_ofNat_of_zero_le hlt
      have hkn : k < n := by omega
      have hw1 : IntKind.i64.wrap ((k : Int) - 1) = (k : Int) - 1 := by rw [IntKind.wrap_i64]; omega
      have hI := HRD.out.1.on hbel
      obtain ⟨ad, rfl, -, -⟩ := hI.1.2 (by omega)
      have hkd : k < d.length := by rw [HL.out]; exact hkn
      obtain ⟨hbk, p1, -⟩ := hI.cells hkn hkd
      have hrk := (hI.2.1 _ (List.getElem_mem hkd)).1.1
      have hit : (itAt (d.map (·.1)) k).k = d[k].1.k := by rw [itAt_lt (by rw [List.length_map]; exact hkd), List.getElem_map]
      generalize d[k] = x at *
      obtain ⟨⟨xk, xv⟩, ⟨xA, xn, xc⟩, xh⟩ := x
      have hst : Hid (findN (d.map (·.1)) key (k + 1) = if xk = key then (k : Int) else findN (d.map (·.1)) key k) := by show (if (itAt (d.map (·.1)) k).k = key then _ else _) = _; rw [hit]
      have s1 := run_str (c := xc) (show Reads wr wr.heap.size 1 xA xn (u8s xk) from hrk)
      have s2 := run_str (c := mc) (HRD.out.2.1.on hbel)
      have hP0 : (wr.drew.cell? (ad.add (k * 2)) = some (.slice xA xn xc)) ∧ (convert 52 9 (.slice xA xn xc)).run Tryz.prog wr.drew = .ok (.string ⟨xk.toArray⟩) wr.drew ∧ (convert 52 9 (.slice K m mc)).run Tryz.prog wr.drew = .ok (.string ⟨key.toArray⟩) wr.drew := ⟨p1, run_str (c := xc) (show Reads wr wr.heap.size 1 xA xn (u8s xk) from hrk).drew, run_str (c := mc) (HRD.out.2.1.on hbel).drew⟩
      have HB := Lib.hid hbel
      clear hit hrk hI p1 s1 s2 hbel
      go_upto_region 4 with fail
      refine wp_region_held_drew (S := fun V => (V.cell? (ad.add (k * 2)) = some (.slice xA xn xc)) ∧ (convert 52 9 (.slice xA xn xc)).run Tryz.prog V = .ok (.string ⟨xk.toArray⟩) V ∧ (convert 52 9 (.slice K m mc)).run Tryz.prog V = .ok (.string ⟨key.toArray⟩) V) (by kernel_rfl) ?_ (fun hHeld => ?_)
      · exact hP0
      refine tk 0 ?_
      refine tk 1 ?_
      refine tk 2 ?_
      refine tk 3 ?_
      refine tk 4 ?_
      refine tk 6 ?_
      refine tk 7 ?_
      refine tk 5 ?_
      refine tk 8 ?_
      refine wpAnyH_done (by kernel_rfl) ?_ _
      clear hHeld hP0
      obtain ⟨b, hb⟩ : ∃ b, b = (xk == key) := ⟨_, rfl⟩
      rw [← hb]
      have HQ := Lib.hid hb
      clear hb
      rcases b with _ | _
      rotate_left
      · have hke : xk = key := beq_iff_eq.1 HQ.out.symm
        have HE : Hid (findI (d.map (·.1)) key = (k : Int)) := by have := hst.out; rw [if_pos hke] at this; exact HF.out.trans (by rw [show ((k : Int) + 1).toNat = k + 1 by omega]; exact this)
        clear hke
        go_wp2_with fail
        go_ret
        exact ⟨by rw [HE.out]; rfl, HB.out.drew⟩
      · have hke : xk ≠ key := beq_eq_false_iff_ne.1 HQ.out.symm
        have HE : Hid (findI (d.map (·.1)) key = findN (d.map (·.1)) key k) := by have := hst.out; rw [if_neg hke] at this; exact HF.out.trans (by rw [show ((k : Int) + 1).toNat = k + 1 by omega]; exact this)
        clear hke
        go_wp2_with fail
        go_roundw
        case rel => exact ⟨(k : Int) - 1, by omega, by omega, by go_num, by rw [show ((k : Int) - 1 + 1).toNat = k by omega]; exact HE.out, HB.out.drew⟩
        case measure => first | (simp [intOf]; done) | (simp [intOf]; omega)
    · obtain rfl : I = -1 := by omega
      have HB := Lib.hid hbel
      clear hbel hlt
      go_wp2_with fail
      go_ret
      exact ⟨by rw [HF.out]; rfl, HB.out⟩
theorem geq_str (t : TypeId) (a b : ByteArray) : binOp .geq t (.string a) (.string b) = pure (.bool !(Op.bytesLess a.toList b.toList)) := by simp [binOp, Op.stringOp]
theorem rising_chain {l : List (List UInt8)} (h : ∀ j (hj : j + 1 < l.length), ltK (l[j]'(by omega)) l[j + 1]) : Rising l := by
  unfold Rising
  rw [List.pairwise_iff_getElem]
  intro i j hi hj hij
  obtain ⟨m, rfl⟩ : ∃ m, j = i + m + 1 := ⟨j - i - 1, by omega⟩
  clear hij
  induction m with
  | zero => exact h i hj
  | succ m ih => exact ltK_trans (ih (by omega)) (h (i + (m + 1)) hj)
theorem Rising.step {l : List (List UInt8)} (h : Rising l) {j : Nat} (hj : j + 1 < l.length) : ltK (l[j]'(by omega)) l[j + 1] := List.pairwise_iff_getElem.1 h j (j + 1) (by omega) hj (by omega)
attribute [local go_sem] geq_str
set_option maxRecDepth 100000 in
set_option maxHeartbeats 1600000 in
theorem rising_any (d : List ItH) (A : Option Addr) (n c : Nat) (w : World) (h : ItsAt w w.heap.size A n c d) (hn : n ≤ 1048576) :
    Calls Tryz.prog 28 #[.slice A n c] w fun e w' => ∃ b : Bool, e = .returned (.bool b) ∧ (b = true ↔ Rising (d.map fun y => y.1.k)) ∧ Below w.heap.size w w' := by
  have HRD := Lib.hid (And.intro h hn)
  have HL := Lib.hid h.len
  clear h
  go_enter Tryz.func28, Tryz.ntmps28
  go_wp2_with fail
  go_loopw [3] (fun i wr => ∃ k : Nat, (n = 0 ∨ k < n) ∧ i = .int .i64 ((k : Int) + 1) ∧ Hid (∀ j (hj : j < k) (hd : j + 1 < d.length), ltK (d[j]'(by omega)).1.k d[j + 1].1.k) ∧ Below w.heap.size w wr) (fun i _ => n - (intOf i).toNat)
  case atStart => exact ⟨0, by omega, rfl, fun j hj => absurd hj (by omega), Below.refl _ _⟩
  case round =>
    obtain ⟨k, hk, rfl, HF, hbel⟩ := hrel
    by_cases hlt : k + 1 < n
    · have hlt' : (k : Int) + 1 < (n : Int) := by omega
      have hkn : k < n := by omega
      have hp1 : (0 : Int) ≤ (k : Int) + 1 := by omega
      have hw1 : IntKind.i64.wrap (k : Int) = (k : Int) := by rw [IntKind.wrap_i64]; omega
      have hw2 : IntKind.i64.wrap ((k : Int) + 1 + 1) = (k : Int) + 1 + 1 := by rw [IntKind.wrap_i64]; omega
      have hI := HRD.out.1.on hbel
      obtain ⟨ad, rfl, -, -⟩ := hI.1.2 (by omega)
      have hkd : k + 1 < d.length := by rw [HL.out]; exact hlt
      have hkd0 : k < d.length := by omega
      obtain ⟨hbk, p1, -⟩ := hI.cells (by omega : k < n) hkd0
      obtain ⟨-, p2, -⟩ := hI.cells hlt hkd
      have hrk := (hI.2.1 _ (List.getElem_mem hkd0)).1.1
      have hrk2 := (hI.2.1 _ (List.getElem_mem hkd)).1.1
      obtain ⟨x, hx⟩ : ∃ x, x = d[k] := ⟨_, rfl⟩
      obtain ⟨y, hy⟩ : ∃ y, y = d[k + 1] := ⟨_, rfl⟩
      have HXY := Lib.hid (And.intro hx hy)
      rw [← hx] at p1 hrk
      rw [← hy] at p2 hrk2
      clear hx hy
      obtain ⟨⟨xk, xv⟩, ⟨xA, xn, xc⟩, xh⟩ := x
      obtain ⟨⟨yk, yv⟩, ⟨yA, yn, yc⟩, yh⟩ := y
      have hP0 : (wr.drew.cell? (ad.add (k * 2)) = some (.slice xA xn xc)) ∧ (wr.drew.cell? (ad.add ((k + 1) * 2)) = some (.slice yA yn yc)) ∧ (convert 52 9 (.slice xA xn xc)).run Tryz.prog wr.drew = .ok (.string ⟨xk.toArray⟩) wr.drew ∧ (convert 52 9 (.slice yA yn yc)).run Tryz.prog wr.drew = .ok (.string ⟨yk.toArray⟩) wr.drew := ⟨p1, p2, run_str (c := xc) (show Reads wr wr.heap.size 1 xA xn (u8s xk) from hrk).drew, run_str (c := yc) (show Reads wr wr.heap.size 1 yA yn (u8s yk) from hrk2).drew⟩
      have HB := Lib.hid hbel
      clear hrk hrk2 hI p1 p2 hbel
      go_upto_region 4 with fail
      refine wp_region_held_drew (S := fun V => (V.cell? (ad.add (k * 2)) = some (.slice xA xn xc)) ∧ (V.cell? (ad.add ((k + 1) * 2)) = some (.slice yA yn yc)) ∧ (convert 52 9 (.slice xA xn xc)).run Tryz.prog V = .ok (.string ⟨xk.toArray⟩) V ∧ (convert 52 9 (.slice yA yn yc)).run Tryz.prog V = .ok (.string ⟨yk.toArray⟩) V) (by kernel_rfl) ?_ (fun hHeld => ?_)
      · exact hP0
      refine tk 0 ?_
      refine tk 1 ?_
      refine tk 2 ?_
      refine tk 3 ?_
      refine tk 4 ?_
      refine tk 5 ?_
      refine tk 6 ?_
      refine tk 7 ?_
      refine tk 8 ?_
      refine tk 9 ?_
      refine tk 10 ?_
      refine tk 11 ?_
      refine tk 12 ?_
      refine tk 13 ?_
      refine wpAnyH_done (by kernel_rfl) ?_ _
      clear hHeld hP0
      obtain ⟨b, hb⟩ : ∃ b, b = !Op.bytesLess xk yk := ⟨_, rfl⟩
      rw [← hb]
      rw [less_ltK] at hb
      have HQ := Lib.hid hb
      clear hb
      rcases b with _ | _
      · have hke : ltK xk yk := by
          have := HQ.out
          simpa using this
        have HE : Hid (∀ j (hj : j < k + 1) (hd : j + 1 < d.length), ltK (d[j]'(by omega)).1.k d[j + 1].1.k) := fun j hj hd => by
          by_cases e : j < k
          · exact HF.out j e hd
          · obtain rfl : j = k := by omega
            rw [← HXY.out.1, ← HXY.out.2]
            exact hke
        clear hke
        go_wp2_with fail
        go_roundw
        case rel => exact ⟨k + 1, by omega, by go_num, HE.out, HB.out.drew⟩
        case measure => simp [intOf]; omega
      · have hke : ¬ ltK xk yk := by
          have := HQ.out
          simpa using this
        have HE : Hid (¬ Rising (d.map fun y => y.1.k)) := fun hr => by
          have := hr.step (j := k) (by rw [List.length_map]; exact hkd)
          rw [List.getElem_map, List.getElem_map, ← HXY.out.1, ← HXY.out.2] at this
          exact hke this
        clear hke
        go_wp2_with fail
        go_ret
        exact ⟨false, rfl, ⟨fun h => (nomatch h), fun h => absurd h HE.out⟩, HB.out.drew⟩
    · have hlt' : ¬ (k : Int) + 1 < (n : Int) := by omega
      have HE : Hid (Rising (d.map fun y => y.1.k)) := rising_chain fun j hj => by
        rw [List.length_map] at hj
        rw [List.getElem_map, List.getElem_map]
        exact HF.out j (by have := HL.out; omega) hj
      have HB := Lib.hid hbel
      clear hbel hlt
      go_wp2_with fail
      go_ret
      first
      | exact ⟨true, rfl, ⟨fun _ => HE.out, fun _ => rfl⟩, HB.out⟩
      | exact Or.inr ⟨rfl, HE.out, HB.out⟩
end Go.Proofs.YtnpjggcgnbgkjaaGreat
namespace Go.Proofs.YtnpjggcgnbgkjaaGreat
open Go.Shelf
def sortIt_ren : Go.Shelf.Ren := ⟨fun | 6 => 72 | 15 => 156 | 14 => 155 | 28 => 229 | 29 => 230 | 20 => 221 | 21 => 222 | 22 => 223 | 23 => 224 | 24 => 225 | 25 => 226 | 26 => 227 | 27 => 228 | 46 => 273 | 47 => 274 | 48 => 275 | 49 => 276 | 50 => 277 | 57 => 315 | n => n, fun | 22 => 45 | 24 => 54 | 25 => 115 | 3 => 3 | 39 => 203 | 0 => 0 | 53 => 156 | 55 => 38 | 4 => 4 | 46 => 278 | 45 => 277 | 50 => 181 | 5 => 5 | 9 => 9 | 66 => 313 | 70 => 317 | 76 => 346 | 77 => 347 | n => n, fun | n => n⟩
theorem sortIt : Go.Proofs.SlLaysF0.n6 Tryz.prog sortIt_ren := {
  mixed := by kernel_rfl
  f6 := ⟨Tryz.f72.name, by decide, Tryz.func72.trans (congrArg some (by kernel_rfl))⟩
  f14 := ⟨Tryz.f155.name, by decide, Tryz.func155.trans (congrArg some (by kernel_rfl))⟩
  f15 := Tryz.func156.trans (congrArg some (by kernel_rfl))
  f20 := ⟨Tryz.f221.name, by decide, Tryz.func221.trans (congrArg some (by kernel_rfl))⟩
  f21 := ⟨Tryz.f222.name, by decide, Tryz.func222.trans (congrArg some (by kernel_rfl))⟩
  f22 := ⟨Tryz.f223.name, by decide, Tryz.func223.trans (congrArg some (by kernel_rfl))⟩
  f23 := ⟨Tryz.f224.name, by decide, Tryz.func224.trans (congrArg some (by kernel_rfl))⟩
  f24 := ⟨Tryz.f225.name, by decide, Tryz.func225.trans (congrArg some (by kernel_rfl))⟩
  f25 := ⟨Tryz.f226.name, by decide, Tryz.func226.trans (congrArg some (by kernel_rfl))⟩
  f26 := ⟨Tryz.f227.name, by decide, Tryz.func227.trans (congrArg some (by kernel_rfl))⟩
  f27 := ⟨Tryz.f228.name, by decide, Tryz.func228.trans (congrArg some (by kernel_rfl))⟩
  f28 := Tryz.func229.trans (congrArg some (by kernel_rfl))
  f29 := Tryz.func230.trans (congrArg some (by kernel_rfl))
  f46 := ⟨Tryz.f273.name, by decide, Tryz.func273.trans (congrArg some (by kernel_rfl))⟩
  f47 := Tryz.func274.trans (congrArg some (by kernel_rfl))
  f48 := Tryz.func275.trans (congrArg some (by kernel_rfl))
  f49 := ⟨Tryz.f276.name, by decide, Tryz.func276.trans (congrArg some (by kernel_rfl))⟩
  f50 := ⟨Tryz.f277.name, by decide, Tryz.func277.trans (congrArg some (by kernel_rfl))⟩
  f57 := ⟨Tryz.f315.name, by decide, Tryz.func315.trans (congrArg some (by kernel_rfl))⟩
  t0 := Tryz.underlying0
  a0 := Tryz.isAgg0
  z0 := Tryz.sizeOf0
  v0 := Tryz.zeroValue0
  t3 := Tryz.underlying3
  a3 := Tryz.isAgg3
  z3 := Tryz.sizeOf3
  v3 := Tryz.zeroValue3
  t4 := Tryz.underlying4
  a4 := Tryz.isAgg4
  z4 := Tryz.sizeOf4
  v4 := Tryz.zeroValue4
  t5 := Tryz.underlying5
  a5 := Tryz.isAgg5
  z5 := Tryz.sizeOf5
  v5 := Tryz.zeroValue5
  t9 := Tryz.underlying9
  a9 := Tryz.isAgg9
  z9 := Tryz.sizeOf9
  v9 := Tryz.zeroValue9
  t22 := Tryz.underlying45
  a22 := Tryz.isAgg45
  z22 := Tryz.sizeOf45
  v22 := Tryz.zeroValue45
  t25 := Tryz.underlying115
  a25 := Tryz.isAgg115
  z25 := Tryz.sizeOf115
  v25 := Tryz.zeroValue115
  t39 := Tryz.underlying203
  a39 := Tryz.isAgg203
  z39 := Tryz.sizeOf203
  v39 := Tryz.zeroValue203
  t45 := Tryz.underlying277
  a45 := Tryz.isAgg277
  z45 := Tryz.sizeOf277
  v45 := Tryz.zeroValue277
  t46 := Tryz.underlying278
  a46 := Tryz.isAgg278
  z46 := Tryz.sizeOf278
  v46 := Tryz.zeroValue278
  t50 := Tryz.underlying181
  a50 := Tryz.isAgg181
  z50 := Tryz.sizeOf181
  v50 := Tryz.zeroValue181
  t53 := Tryz.underlying156
  a53 := Tryz.isAgg156
  z53 := Tryz.sizeOf156
  v53 := Tryz.zeroValue156
  t55 := Tryz.underlying38
  a55 := Tryz.isAgg38
  z55 := Tryz.sizeOf38
  v55 := Tryz.zeroValue38
  t66 := Tryz.underlying313
  a66 := Tryz.isAgg313
  z66 := Tryz.sizeOf313
  v66 := Tryz.zeroValue313
  t70 := Tryz.underlying317
  a70 := Tryz.isAgg317
  z70 := Tryz.sizeOf317
  v70 := Tryz.zeroValue317
  t76 := Tryz.underlying346
  a76 := Tryz.isAgg346
  z76 := Tryz.sizeOf346
  v76 := Tryz.zeroValue346
  t77 := Tryz.underlying347
  a77 := Tryz.isAgg347
  z77 := Tryz.sizeOf347
  v77 := Tryz.zeroValue347 }
end Go.Proofs.YtnpjggcgnbgkjaaGreat
namespace Go.Proofs.YtnpjggcgnbgkjaaGreat
open Go.RowKit Go.Shelf Go.Sort Go.Lib
theorem run_loadBytes {P : Program} (W : World) : ∀ (n : Nat) (a : Addr) (acc : ByteArray) (xs : List UInt8), xs.length = n → (∀ k (h : k < xs.length), W.cell? (a.add k) = some (.int .u8 (xs[k].toNat : Int))) → (Extern.Bytes.loadBytes a n acc).run P W = .ok ⟨acc.data ++ xs.toArray⟩ W := by
  intro n
  induction n with
  | zero =>
    intro a acc xs hl h
    obtain rfl := List.eq_nil_of_length_eq_zero hl
    simp [Extern.Bytes.loadBytes]
  | succ n ih =>
    intro a acc xs hl h
    rcases xs with _ | ⟨x, xs⟩
    · simp at hl
    · have h0 := h 0 (by simp)
      simp only [List.getElem_cons_zero] at h0
      have e0 : a.add 0 = a := by simp [Addr.add]
      rw [e0] at h0
      have hr := ih (a.add 1) (acc.push x) xs (by simpa using hl) (fun k hk => by
        have := h (k + 1) (by simpa using hk)
        rw [add_of_add, Nat.add_comm]
        simpa using this)
      unfold Extern.Bytes.loadBytes
      simp [h0, Sem.run_bind, Result.andThen]
      rw [hr]
      simp
theorem run_bytesR {P : Program} {W : World} {B n c : Nat} {A : Option Addr} {xs : List UInt8} (h : Reads W B 1 A n (u8s xs)) : (Extern.Bytes.bytesOf (.slice A n c)).run P W = .ok ⟨xs.toArray⟩ W := by
  have hl := h.len8
  rcases A with _ | a
  · rcases Nat.eq_zero_or_pos n with h0 | h0
    · subst h0
      obtain rfl := List.eq_nil_of_length_eq_zero hl
      simp [Extern.Bytes.bytesOf]
      rfl
    · obtain ⟨ad, e, -⟩ := h.2 h0
      cases e
  · unfold Extern.Bytes.bytesOf
    rw [run_loadBytes W n a .empty xs hl fun k hk => by
      obtain ⟨ad, e, -, hc⟩ := h.2 (by omega)
      cases e
      exact hc k _ (by unfold u8s; rw [List.getElem?_map, List.getElem?_eq_getElem hk]; rfl)]
    simp
theorem run_cmpB {P : Program} {W : World} {B n c B' n' c' : Nat} {A A' : Option Addr} {xs ys : List UInt8} (h : Reads W B 1 A n (u8s xs)) (h' : Reads W B' 1 A' n' (u8s ys)) : (Extern.BytealgCompare.compare #[.slice A n c, .slice A' n' c']).run P W = .ok (.int .i64 (compareBytes xs ys)) W := by
  change Sem.run P (do pure (goInt (Extern.BytealgCompare.cmp (← Extern.Bytes.bytesOf (.slice A n c)) (← Extern.Bytes.bytesOf (.slice A' n' c'))))) W = _
  simp only [Sem.run_bind, Sem.run_pure, run_bytesR h, run_bytesR h', Result.andThen]
  rw [cmp_eq]
  rfl
set_option maxRecDepth 100000 in
theorem compare8_any (xs ys : List UInt8) (A A' : Option Addr) (n c n' c' B B' : Nat) (W : World) (h : Reads W B 1 A n (u8s xs)) (h' : Reads W B' 1 A' n' (u8s ys)) :
    Calls Tryz.prog 83 #[.slice A n c, .slice A' n' c'] W fun e w' => e = .returned (.int .i64 (compareBytes xs ys)) ∧ w' = W := by
  go_enter Tryz.func83, Tryz.ntmps83
  go_wp2
  rw [run_callFunc_extern Tryz.func159 (by kernel_rfl) (by kernel_rfl) (by kernel_rfl) (e := Extern.BytealgCompare.compare) (by kernel_rfl), run_cmpB h h']
  simp only [Result.andThen]
  rw [Oper.upon_value]
  go_wp2
  go_ret
  exact ⟨rfl, rfl⟩
set_option maxRecDepth 100000 in
set_option maxHeartbeats 1600000 in
theorem byItem_any (x y : It) (A A' Av Av' : Option Addr) (n c n' c' m d m' d' B B' : Nat) (W : World) (h : Reads W B 1 A n (u8s x.k)) (h' : Reads W B' 1 A' n' (u8s y.k)) (hB : B ≤ W.heap.size) (hB' : B' ≤ W.heap.size) :
    Calls Tryz.prog 73 #[.agg #[.slice A n c, .slice Av m d], .agg #[.slice A' n' c', .slice Av' m' d']] W fun r w' => r = .returned (.int .i64 (compareBytes x.k y.k)) ∧ Grows W w' := by
  have hG : Grows W ((W.alloc (.cells #[.slice A n c, .slice Av m d] 54)).alloc (.cells #[.slice A' n' c', .slice Av' m' d'] 54)) := ((Grows.refl _).alloc _).alloc _
  have k1 : Reads ((W.alloc (.cells #[.slice A n c, .slice Av m d] 54)).alloc (.cells #[.slice A' n' c', .slice Av' m' d'] 54)) B 1 A n (u8s x.k) := (h.alloc hB _).alloc (by simp; omega) _
  have k2 : Reads ((W.alloc (.cells #[.slice A n c, .slice Av m d] 54)).alloc (.cells #[.slice A' n' c', .slice Av' m' d'] 54)) B' 1 A' n' (u8s y.k) := (h'.alloc hB' _).alloc (by simp; omega) _
  have HC := Lib.hid (compare8_any x.k y.k A A' n c n' c' B B' _ k1 k2)
  have HG := Lib.hid hG
  clear hG k1 k2 h h'
  go_enter Tryz.func73, Tryz.ntmps73
  go_wp2_with fail
  refine HC.out.mono ?_
  rintro r w' ⟨rfl, rfl⟩
  go_wp2_with fail
  go_ret
  exact ⟨rfl, HG.out⟩
/-- An item whose key lies elsewhere than in block g. -/
def KeyOff (w : World) (g : Nat) (e : ItH) : Prop := Reads w w.heap.size 1 e.2.1.1 e.2.1.2.1 (u8s e.1.k) ∧ ∀ a, e.2.1.1 = some a → a.block ≠ g
abbrev KIt (w : World) (g : Nat) := {e : ItH // KeyOff w g e}
def cmpIt (e f : ItH) : Int := compareBytes e.1.k f.1.k
instance (w : World) (g : Nat) : Inhabited (KIt w g) := ⟨⟨(⟨[], []⟩, (none, 0, 0), (none, 0, 0)), ⟨Reads.none_, fun a e => by cases e⟩⟩⟩
def encKI {w : World} {g : Nat} (e : KIt w g) : List Value := encIt e.1
def kiV {w : World} {g : Nat} (l : List (KIt w g)) : List Value := l.flatMap encKI
theorem kiV_eq {w : World} {g : Nat} (l : List (KIt w g)) : kiV l = itsV (l.map (·.1)) := by unfold kiV itsV; rw [List.flatMap_map]; rfl
theorem kiV_length {w : World} {g : Nat} (l : List (KIt w g)) : (kiV l).length = l.length * 2 := by rw [kiV_eq, itsV_length, List.length_map]
theorem kiV_at {w0 : World} {g0 : Nat} {l : List (KIt w0 g0)} {j : Nat} {u : Value} (h : (kiV l)[j]? = some u) : ∃ hk : j / 2 < l.length, u = (encKI l[j / 2])[j % 2]! := by
  induction l generalizing j with
  | nil => simp [kiV] at h
  | cons e l ih =>
    have hc : kiV (e :: l) = encKI e ++ kiV l := rfl
    rw [hc] at h
    have hl : (encKI e).length = 2 := rfl
    by_cases hj : j < 2
    · rw [List.getElem?_append_left (by omega)] at h
      have h0 : j / 2 = 0 := by omega
      have h1 : j % 2 = j := by omega
      refine ⟨by simp [h0], ?_⟩
      simp only [h0, h1, List.getElem_cons_zero]
      rw [List.getElem!_eq_getElem?_getD, h]
      rfl
    · rw [List.getElem?_append_right (by omega), hl] at h
      obtain ⟨hk, hu⟩ := ih h
      have e1 : j / 2 = (j - 2) / 2 + 1 := by omega
      have e2 : j % 2 = (j - 2) % 2 := by omega
      refine ⟨by simp; omega, ?_⟩
      simp only [e1, e2, List.getElem_cons_succ]
      exact hu
theorem holdsI_own {w0 : World} {g0 : Nat} {w : World} {base : Nat} {t : TypeId} {g n cap : Nat} {d : List (KIt w0 g0)} (h : w.ownsRow base t 2 (.slice (some ⟨g, 0, none⟩) n cap) n (kiV d)) : HoldsK encKI 2 w g 0 d.toArray := fun j hj => by
  rw [size_flatK] at hj
  have hl : d.length * 2 = n * 2 := by rw [← kiV_length]; exact h.1
  have hj' : j < n * 2 := by simp at hj; omega
  refine ⟨?_, ?_⟩
  · rw [Nat.zero_add, h.cellAt j hj', get_flatK _ _ _ _ hj]
    have hl2 : j < (kiV d).length := by rw [h.1]; exact hj'
    obtain ⟨hk, hu⟩ := kiV_at (List.getElem?_eq_getElem hl2)
    rw [List.getElem?_eq_getElem hl2, hu]
    simp [hk]
  · rw [Nat.zero_add]
    exact h.frozenAt j
theorem reads_holdsI {w0 : World} {g0 : Nat} {w : World} {g : Nat} {d : List (KIt w0 g0)} (hg : g < w.heap.size) (h : HoldsK encKI 2 w g 0 d.toArray) : Reads w w.heap.size 2 (some ⟨g, 0, none⟩) d.length (kiV d) := by
  refine ⟨kiV_length d, fun _ => ⟨_, rfl, hg, fun j u hu => ?_⟩⟩
  obtain ⟨hk, rfl⟩ := kiV_at hu
  rw [add_row]
  have := (h.cell (i := j / 2) (c := j % 2) (by simpa using hk) (by omega)).1
  rw [show 0 + j / 2 * 2 + j % 2 = j by omega] at this
  rw [this]
  simp [hk]
theorem grownBy_sortI {w0 : World} {g0 : Nat} {w : World} {g n : Nat} {os : Array Obj} (d : Array (KIt w0 g0)) : w.grownBy (sortWorldK encKI 2 w g 0 n d os) (some g) := by
  refine ⟨rfl, rfl, rfl, by simp [sortWorldK, putRowK, grow, Sort.ahead], fun k hk hne => ?_⟩
  unfold sortWorldK
  rw [heap_grow_old _ _ (by simpa [putRowK, Sort.ahead] using hk)]
  have : g ≠ k := fun e => hne (by rw [e])
  simp [putRowK, putRow, mapBlock, Sort.ahead, Array.getElem?_modify, this]
theorem own_sortI {w0 : World} {g0 : Nat} {w : World} {base : Nat} {t : TypeId} {g n cap m : Nat} {d : List (KIt w0 g0)} {d' : Array (KIt w0 g0)} {os : Array Obj} (h : w.ownsRow base t 2 (.slice (some ⟨g, 0, none⟩) n cap) n (kiV d)) (hs : d'.size = n)
    (hR : Reads (sortWorldK encKI 2 w g 0 m d' os) (sortWorldK encKI 2 w g 0 m d' os).heap.size 2 (some ⟨g, 0, none⟩) d'.toList.length (kiV d'.toList)) :
    (sortWorldK encKI 2 w g 0 m d' os).ownsRow base t 2 (.slice (some ⟨g, 0, none⟩) n cap) n (kiV d'.toList) := by
  rcases h.2 with ⟨h0, -⟩ | ⟨g', cap', cur, he, hb, hg, hnc, hcm, hcs, htk⟩
  · cases h0
  · cases he
    have hlt : g < w.heap.size := (Array.getElem?_eq_some_iff.1 hg).1
    have hW : ∃ cur', (sortWorldK encKI 2 w g 0 m d' os).heap[g]? = some (.cells cur' t (0, 0)) ∧ cur'.size = cur.size := by
      refine ⟨putCells id 0 (flatK encKI 2 d') cur, ?_, ?_⟩
      · unfold sortWorldK
        rw [heap_grow_old _ _ (by simpa [putRowK, putRow, mapBlock, Sort.ahead] using hlt)]
        simp [putRowK, putRow, mapBlock, Sort.ahead, Array.getElem?_modify, hg, onCells]
      · simp [putCells]
    obtain ⟨cur', h1, h2⟩ := hW
    refine ⟨by rw [kiV_length]; simp [hs], .inr ⟨g, cap, cur', rfl, hb, h1, hnc, hcm, by rw [h2, hcs], ?_⟩⟩
    apply List.ext_getElem?
    intro j
    by_cases hj : j < n * 2
    · rw [List.getElem?_take, if_pos hj, Array.getElem?_toList, ← cell_of_row _ g j cur' t (0, 0) h1]
      obtain ⟨ad, e, -, hc⟩ := hR.2 (by simp; omega)
      cases e
      have hl : j < (kiV d'.toList).length := by rw [kiV_length]; simp [hs]; omega
      have := hc j _ (List.getElem?_eq_getElem hl)
      rw [add_row] at this
      rw [this, List.getElem?_eq_getElem hl]
    · rw [List.getElem?_eq_none (by simp; omega), List.getElem?_eq_none (by rw [kiV_length]; simp [hs]; omega)]
theorem perm_listI {w0 : World} {g0 : Nat} {d : List (KIt w0 g0)} {d' : Array (KIt w0 g0)} (h : PermIn 0 d.toArray.size d.toArray d') : d'.toList.Perm d ∧ d'.size = d.length := by
  obtain ⟨h1, -, h2⟩ := h
  refine ⟨?_, by simpa using h1⟩
  rw [← h1, Array.extract_size, h1, Array.extract_size] at h2
  simpa using h2

theorem cmpIt_swo {w : World} {g : Nat} : SWO (ltOf (fun e f : KIt w g => cmpIt e.1 f.1)) where
  irrefl x := by
    show decide (compareBytes x.1.1.k x.1.1.k < 0) = false
    rw [cb_self]; decide
  trans x y z h1 h2 := by
    unfold ltOf at *
    rw [decide_eq_true_iff] at *
    exact cb_trans h1 h2
  ntrans x y z h1 h2 := by
    unfold ltOf at *
    rw [decide_eq_false_iff_not] at *
    intro h
    by_cases e : ltK y.1.1.k x.1.1.k
    · exact h2 (by
        have h3 : ¬ ltK y.1.1.k z.1.1.k := h2
        exact absurd (ltK_trans e h) h3)
    · have : x.1.1.k = y.1.1.k := ltK_total h1 e
      exact h2 (by show compareBytes y.1.1.k z.1.1.k < 0; rw [← this]; exact h)
theorem cmpIt_lays (w : World) (g size : Nat) : CmpLays Tryz.prog 73 #[] (encKI (w := w) (g := g)) 2 (fun e f => cmpIt e.1 f.1) g 0 size w := fun m os dk _ x y => by
  have hg := grownBy_sortI (w0 := w) (g0 := g) (w := w) (g := g) (n := m) (os := os) dk
  have hr : ∀ e : KIt w g, Reads (sortWorldK encKI 2 w g 0 m dk os) w.heap.size 1 e.1.2.1.1 e.1.2.1.2.1 (u8s e.1.1.k) := fun e => by
    obtain ⟨h1, h2⟩ := e.2
    refine ⟨h1.1, fun h0 => ?_⟩
    obtain ⟨ad, e1, hb, hc⟩ := h1.2 h0
    refine ⟨ad, e1, hb, fun k u hu => ?_⟩
    rw [← hc k u hu]
    exact World.cell?_of_block (by rw [block_of_add]; exact hg.block _ hb (fun e' => h2 ad e1 (by cases e'; rfl)))
  exact byItem_any x.1.1 y.1.1 _ _ _ _ _ _ _ _ _ _ _ _ _ _ _ (hr x) (hr y) hg.size hg.size
/-- Items whose keys lie elsewhere, sorted by them. -/
theorem sortItR_any (d : List ItH) (g n cap base : Nat) (w : World) (hown : w.ownsRow base 54 2 (.slice (some ⟨g, 0, none⟩) n cap) n (itsV d)) (hk : ∀ e ∈ d, KeyOff w g e) (hn : n ≤ 1048576) :
    Calls Tryz.prog 72 #[.slice (some ⟨g, 0, none⟩) n cap, .func (.func 73) #[] #[]] w fun e w' => e = .returned (.tuple #[]) ∧ ∃ d' : List ItH, d'.Perm d ∧ d'.Pairwise (fun e f => ¬ ltK f.1.k e.1.k) ∧ w'.ownsRow base 54 2 (.slice (some ⟨g, 0, none⟩) n cap) n (itsV d') ∧ w.grownBy w' (some g) := by
  obtain ⟨dk, hdk⟩ : ∃ dk : List (KIt w g), dk.map (·.1) = d := ⟨d.attach.map fun x => ⟨x.1, hk x.1 x.2⟩, by rw [List.map_map]; exact List.attach_map_subtype_val d⟩
  rw [← hdk, ← kiV_eq] at hown
  have hl : dk.length = n := by have h := hown.1; rw [kiV_length] at h; omega
  have hg : g < w.heap.size := (hown.lt g rfl).2
  have hH := holdsI_own hown
  have eg : ∀ args w, (callFunc 73 args).run Tryz.prog w = .ok (.enter 73 args) w := enters_of Tryz.func73 (by kernel_rfl) rfl
  have hcon := AnyQ.slices_SortFunc sortIt 2 Tryz.isAgg54 Tryz.sizeOf54 (encKI (w := w) (g := g)) (fun _ => rfl) (fun x v hv => by simp [encKI, encIt] at hv; rcases hv with rfl | rfl <;> rfl) (fun e f => cmpIt e.1 f.1) cmpIt_swo 73 #[] g 0 cap dk.toArray w eg (cmpIt_lays w g dk.toArray.size) hH hg (by simp; omega)
  change Calls Tryz.prog 72 _ _ _ at hcon
  rw [List.size_toArray, hl] at hcon
  refine hcon.mono ?_
  rintro e w' ⟨he, d', m, os, hp, hsd, rfl⟩
  rw [← hl, ← List.size_toArray] at hp hsd
  obtain ⟨h1, h2⟩ := perm_listI hp
  have hSW : SWK encKI 2 w g 0 d' (sortWorldK encKI 2 w g 0 m d' os) := ⟨m, os, rfl⟩
  have hH' := hSW.holds hg hH (by simpa using h2)
  have hR := reads_holdsI (d := d'.toList) (hSW.lt hg) (by simpa using hH')
  have ho := own_sortI (m := m) (os := os) hown (by rw [h2, hl]) hR
  rw [kiV_eq] at ho
  refine ⟨he, d'.toList.map (·.1), by rw [← hdk]; exact h1.map _, ?_, ho, grownBy_sortI d'⟩
  rw [List.pairwise_map, List.pairwise_iff_getElem]
  intro i j hi hj hij
  have := hsd i j (Nat.zero_le _) hij (by simpa [h2] using hj)
  unfold ltOf at this
  rw [decide_eq_false_iff_not] at this
  rw [getElem!_pos d' j (by simpa using hj), getElem!_pos d' i (by simpa using hi)] at this
  unfold ltK
  unfold cmpIt at this
  simpa using this
/-- Items of the call's own, sorted by their keys. -/
theorem sortIt_any (d : List ItH) (g n cap base : Nat) (w : World) (h : ItsOwn base w (some ⟨g, 0, none⟩) n cap d) (hn : n ≤ 1048576) :
    Calls Tryz.prog 72 #[.slice (some ⟨g, 0, none⟩) n cap, .func (.func 73) #[] #[]] w fun e w' => e = .returned (.tuple #[]) ∧ ∃ d' : List ItH, d'.Perm d ∧ d'.Pairwise (fun e f => ¬ ltK f.1.k e.1.k) ∧ ItsOwn base w' (some ⟨g, 0, none⟩) n cap d' ∧ w.grownBy w' (some g) := by
  refine (sortItR_any d g n cap base w h.1 (fun e he => ⟨(h.2 e he).1.1, fun a ha e' => ?_⟩) hn).mono ?_
  · obtain ⟨-, cs, fr, hb⟩ := (h.2 e he).1.2.2 a ha
    rw [e'] at hb
    exact own_ne_cells h.1 hb (by decide) rfl
  · rintro e w' ⟨he, d', hp, hs, ho, hg⟩
    refine ⟨he, d', hp, hs, ⟨ho, fun x hx => (h.2 x (hp.mem_iff.1 hx)).heap hg.size fun q _ _ hb => hg.block q (Array.getElem?_eq_some_iff.1 hb).1 (own_ne_cells h.1 hb (by decide))⟩, hg⟩
end Go.Proofs.YtnpjggcgnbgkjaaGreat
