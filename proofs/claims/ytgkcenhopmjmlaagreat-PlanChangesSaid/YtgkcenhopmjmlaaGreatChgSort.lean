/- slices.Sort of ints (laid off the shelf) and slices.Equal of points: the contracts. -/
import Derived.Shelf.Slices.In.SortNone
import Derived.Shelf.Sort.Plain
import Derived.Sort.OwnSortedInts
import Derived.Test.YtgkcenhopmjmlaaGreatInts
import Derived.Test.YtgkcenhopmjmlaaGreatSteps
import Derived.Test.YtgkcenhopmjmlaaGreatCorn
namespace Go.Proofs.YtgkcenhopmjmlaaGreat
open Go.Shelf
def srtI_ren : Go.Shelf.Ren := ⟨fun | 189 => 83 | 125 => 130 | 257 => 134 | 128 => 171 | 129 => 172 | 294 => 175 | 295 => 176 | 296 => 177 | 297 => 178 | 298 => 179 | 299 => 180 | 216 => 181 | 300 => 182 | 301 => 183 | 328 => 201 | 329 => 196 | 330 => 197 | 331 => 202 | 332 => 203 | 215 => 131 | 343 => 219 | n => n, fun | 28 => 46 | 3 => 3 | 46 => 129 | 0 => 0 | 51 => 87 | 53 => 39 | 4 => 4 | 183 => 180 | 182 => 179 | 131 => 166 | 5 => 5 | 9 => 9 | 218 => 204 | 222 => 208 | 228 => 224 | 229 => 225 | n => n, fun | n => n⟩
theorem srtI : Go.Proofs.Lays.n189 Tryz.prog srtI_ren := {
  mixed := by kernel_rfl
  f125 := Tryz.func130.trans (congrArg some (by kernel_rfl))
  f128 := Tryz.func171.trans (congrArg some (by kernel_rfl))
  f129 := Tryz.func172.trans (congrArg some (by kernel_rfl))
  f189 := Tryz.func83.trans (congrArg some (by kernel_rfl))
  f215 := Tryz.func131.trans (congrArg some (by kernel_rfl))
  f216 := Tryz.func181.trans (congrArg some (by kernel_rfl))
  f257 := Tryz.func134.trans (congrArg some (by kernel_rfl))
  f294 := Tryz.func175.trans (congrArg some (by kernel_rfl))
  f295 := Tryz.func176.trans (congrArg some (by kernel_rfl))
  f296 := Tryz.func177.trans (congrArg some (by kernel_rfl))
  f297 := Tryz.func178.trans (congrArg some (by kernel_rfl))
  f298 := Tryz.func179.trans (congrArg some (by kernel_rfl))
  f299 := Tryz.func180.trans (congrArg some (by kernel_rfl))
  f300 := Tryz.func182.trans (congrArg some (by kernel_rfl))
  f301 := Tryz.func183.trans (congrArg some (by kernel_rfl))
  f328 := Tryz.func201.trans (congrArg some (by kernel_rfl))
  f329 := Tryz.func196.trans (congrArg some (by kernel_rfl))
  f330 := Tryz.func197.trans (congrArg some (by kernel_rfl))
  f331 := Tryz.func202.trans (congrArg some (by kernel_rfl))
  f332 := Tryz.func203.trans (congrArg some (by kernel_rfl))
  f343 := Tryz.func219.trans (congrArg some (by kernel_rfl))
  t0 := Tryz.underlying0
  a0 := Tryz.isAgg0
  z0 := Tryz.sizeOf0
  v0 := Tryz.zeroValue0
  t3 := Tryz.underlying3
  a3 := Tryz.isAgg3
  z3 := Tryz.sizeOf3
  v3 := Tryz.zeroValue3
  t4 := Tryz.underlying4
  a4 := Tryz.isAgg4
  z4 := Tryz.sizeOf4
  v4 := Tryz.zeroValue4
  t5 := Tryz.underlying5
  a5 := Tryz.isAgg5
  z5 := Tryz.sizeOf5
  v5 := Tryz.zeroValue5
  t9 := Tryz.underlying9
  a9 := Tryz.isAgg9
  z9 := Tryz.sizeOf9
  v9 := Tryz.zeroValue9
  t28 := Tryz.underlying46
  a28 := Tryz.isAgg46
  z28 := Tryz.sizeOf46
  v28 := Tryz.zeroValue46
  t46 := Tryz.underlying129
  a46 := Tryz.isAgg129
  z46 := Tryz.sizeOf129
  v46 := Tryz.zeroValue129
  t51 := Tryz.underlying87
  a51 := Tryz.isAgg87
  z51 := Tryz.sizeOf87
  v51 := Tryz.zeroValue87
  t53 := Tryz.underlying39
  a53 := Tryz.isAgg39
  z53 := Tryz.sizeOf39
  v53 := Tryz.zeroValue39
  t131 := Tryz.underlying166
  a131 := Tryz.isAgg166
  z131 := Tryz.sizeOf166
  v131 := Tryz.zeroValue166
  t182 := Tryz.underlying179
  a182 := Tryz.isAgg179
  z182 := Tryz.sizeOf179
  v182 := Tryz.zeroValue179
  t183 := Tryz.underlying180
  a183 := Tryz.isAgg180
  z183 := Tryz.sizeOf180
  v183 := Tryz.zeroValue180
  t218 := Tryz.underlying204
  a218 := Tryz.isAgg204
  z218 := Tryz.sizeOf204
  v218 := Tryz.zeroValue204
  t222 := Tryz.underlying208
  a222 := Tryz.isAgg208
  z222 := Tryz.sizeOf208
  v222 := Tryz.zeroValue208
  t228 := Tryz.underlying224
  a228 := Tryz.isAgg224
  z228 := Tryz.sizeOf224
  v228 := Tryz.zeroValue224
  t229 := Tryz.underlying225
  a229 := Tryz.isAgg225
  z229 := Tryz.sizeOf225
  v229 := Tryz.zeroValue225 }
end Go.Proofs.YtgkcenhopmjmlaaGreat
namespace Go.Proofs.YtgkcenhopmjmlaaGreat
open Go.RowKit Go.Shelf Go.Sort Go.Lib
theorem sortI_any (l : List Int) (A : Option Addr) (n c base : Nat) (w : World) (h : w.ownsRow base 3 1 (.slice A n c) n (intsV l)) (hn : n ≤ 4194304) :
    Calls Tryz.prog 83 #[.slice A n c] w fun e w' => e = .returned (.tuple #[]) ∧ ∃ l' : List Int, l'.Perm l ∧ l'.Pairwise (· ≤ ·) ∧ w'.ownsRow base 3 1 (.slice A n c) n (intsV l') ∧ ∀ b, b ≤ base → b ≤ w.heap.size → Below b w w' := by
  have hl : l.length = n := (Reads.of_own h).lenI
  by_cases h0 : n = 0
  · subst h0
    obtain rfl : l = [] := List.length_eq_zero_iff.1 hl
    have hcon := Any.slices_Sort_int_none srtI A c w
    change Calls Tryz.prog 83 _ _ _ at hcon
    refine hcon.mono ?_
    rintro e w' ⟨he, rfl⟩
    exact ⟨he, [], .refl _, .nil, h, fun b _ _ => (Below.refl w'.heap.size w').mono (by assumption)⟩
  · rcases h.2 with ⟨-, e⟩ | ⟨g, cap, cur, hv, hbg, hc, h1, h2, h3, h4⟩
    · omega
    obtain ⟨rfl, rfl⟩ : A = some ⟨g, 0, none⟩ ∧ c = cap := by injection hv with e1 e2 e3; exact ⟨e1, e3⟩
    have hg : g < w.heap.size := (Array.getElem?_eq_some_iff.1 hc).1
    have hH : Holds (Value.int .i64) w g 0 l.toArray := holds_of_blockI hc (by rw [hl]; simpa [intsV] using h4)
    have hcon := Any.slices_Sort_int srtI g 0 c l w hH hg (by omega)
    change Calls Tryz.prog 83 _ _ _ at hcon
    rw [hl] at hcon
    refine hcon.mono ?_
    rintro e w' ⟨he, q, os, rfl⟩
    have hp : (l.mergeSort fun x y => decide (x ≤ y)).Perm l := List.mergeSort_perm _ _
    have hs : (l.mergeSort fun x y => decide (x ≤ y)).Pairwise (fun x y => decide (x ≤ y) = true) := List.pairwise_mergeSort (by intro a b c h1 h2; simp at *; omega) (by intro a b; simp; omega) l
    refine ⟨he, l.mergeSort fun x y => decide (x ≤ y), hp, hs.imp (fun h => by simpa using h), ?_, fun b hb hbw => ?_⟩
    · have := ownsRow_sortedI (n := q) (os := os) (ss := l) (ts := l.mergeSort fun x y => decide (x ≤ y)) hp.length_eq hbg hc (by omega) h2 h3
      rw [hl] at this
      exact this
    · exact ((Below.refl w.heap.size w).mono hbw).grown (grownBy_sortedI _) hbw (fun k e => by cases e; omega)
set_option maxHeartbeats 1600000 in
theorem eqPts_any (xs ys : List Pt) (A B : Option Addr) (n m ca cb : Nat) (w : World) (hr : Reads w w.heap.size 2 A n (ptsV xs)) (hs : Reads w w.heap.size 2 B m (ptsV ys)) (hn : n ≤ 9223372036854775807) (hm : m ≤ 9223372036854775807) :
    Calls Tryz.prog 82 #[.slice A n ca, .slice B m cb] w fun e w' => e = .returned (.bool (decide (xs = ys))) ∧ Below w.heap.size w w' := by
  have HL := Lib.hid (And.intro hr.lenPt hs.lenPt)
  go_enter Tryz.func82, Tryz.ntmps82
  by_cases hnm : n = m
  case neg =>
    have hne : Hid (xs ≠ ys) := fun e => hnm (by rw [← HL.out.1, ← HL.out.2, e])
    have hnmi : ((n : Int) == (m : Int)) = false := by rw [beq_eq_false_iff_ne]; omega
    clear hr hs
    go_wp2_with fail
    go_ret
    exact ⟨by rw [decide_eq_false hne.out]; rfl, Below.refl _ _⟩
  subst hnm
  go_wp2_with fail
  go_loopw [13] (fun i wr => ∃ k : Nat, k ≤ n ∧ i = .int .i64 (k : Int) ∧ Hid (∀ j, j < k → ptAt xs j = ptAt ys j) ∧ Below w.heap.size w wr) (fun i _ => n - (intOf i).toNat)
  case atStart => exact ⟨0, Nat.zero_le _, rfl, fun j hj => absurd hj (Nat.not_lt_zero _), Below.refl _ _⟩
  case round =>
    obtain ⟨k, hk, rfl, HF, hbel⟩ := hrel
    by_cases hkn : k < n
    · have hkn' : (k : Int) < (n : Int) := by omega
      have hw1 : IntKind.i64.wrap ((k : Int) + 1) = (k : Int) + 1 := by rw [IntKind.wrap_i64]; omega
      obtain ⟨ad, rfl, -, -, -, -⟩ := hr.pt hkn
      obtain ⟨-, p1, p2⟩ := (hr.below hbel).ptA hkn
      obtain ⟨ae, rfl, -, -, -, -⟩ := hs.pt hkn
      obtain ⟨-, q1, q2⟩ := (hs.below hbel).ptA hkn
      obtain ⟨P, hP⟩ : ∃ P, P = ptAt xs k := ⟨_, rfl⟩
      obtain ⟨Q, hQ⟩ : ∃ P, P = ptAt ys k := ⟨_, rfl⟩
      rw [← hP] at p1 p2
      rw [← hQ] at q1 q2
      have he := fun W => neqPt_runs P Q W
      have hg := fun op a b W => (eqPt_runs P Q op a b W).2
      have HP := Lib.hid (And.intro hP hQ)
      have HB := Lib.hid hbel
      clear hbel hr hs hP hQ
      by_cases hpq : P = Q
      · rw [decide_eq_true hpq] at he
        have HE : Hid (∀ j, j < k + 1 → ptAt xs j = ptAt ys j) := fun j hj => by
          by_cases h : j = k
          · rw [h, ← HP.out.1, ← HP.out.2]; exact hpq
          · exact HF.out j (by omega)
        clear hpq
        go_wp2
        go_quiet (fail)
        go_wp2
        go_roundw
        case rel => exact ⟨k + 1, by omega, by go_num, HE, below_drewN HB.out _⟩
        case measure => simp [intOf]; omega
      · rw [decide_eq_false hpq] at he
        have HE : Hid (xs ≠ ys) := fun e => hpq (by rw [HP.out.1, HP.out.2, e])
        clear hpq
        go_wp2
        go_quiet (fail)
        go_wp2
        go_ret
        exact ⟨by rw [decide_eq_false HE.out]; rfl, below_drewN HB.out _⟩
    · obtain rfl : k = n := by omega
      have hx : Hid (xs = ys) := by
        refine List.ext_getElem (by rw [HL.out.1, HL.out.2]) fun j h1 h2 => ?_
        have := HF.out j (by rw [← HL.out.1]; exact h1)
        rwa [ptAt_lt h1, ptAt_lt h2] at this
      have HB := Lib.hid hbel
      clear hr hs hbel
      go_wp2_with fail
      go_ret
      exact ⟨by rw [decide_eq_true hx.out]; rfl, HB.out⟩
end Go.Proofs.YtgkcenhopmjmlaaGreat
