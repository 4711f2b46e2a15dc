/- geo.Good: the walk. -/
/- merestoneref02.Good: the walk. -/
import Derived.Test.YtcohioplkchojaaPtW
namespace Go.Proofs.Ytcohioplkchojaa
open Go.RowKit
set_option maxHeartbeats 400000 in
theorem good_any (xs : List Pt) (A : Option Addr) (n cap : Nat) (w : World) (hr : Reads w w.heap.size 2 A n (ptsV xs)) (hn : n ≤ 9223372036854775807) (hx : ∀ p ∈ xs, p.inI) :
    Calls Try.prog 47 #[.slice A n cap] w fun e w' => e = .returned (.bool (goodL xs)) ∧ Below w.heap.size w w' := by
  have hl := hr.lenPt
  have HL := Lib.hid hl
  have HX := Lib.hid hx
  clear hl hx
  go_enter Try.func47, Try.ntmps47
  go_wp2
  go_loopw [7] (fun i wr => ∃ k : Nat, k ≤ n ∧ Hid (goodL (xs.take k) = true) ∧ i = .int .i64 (k : Int) ∧ Below w.heap.size w wr) (fun i _ => n - (intOf i).toNat)
  case atStart => exact ⟨0, Nat.zero_le _, rfl, rfl, Below.refl _ _⟩
  case round =>
    obtain ⟨k, hk, hg, rfl, hbel⟩ := hrel
    by_cases hlt : k < n
    · obtain ⟨ad, rfl, hb, hkl, hcx, hcy⟩ := (hr.below hbel).pt hlt
      have hin := HX.out _ (List.getElem_mem hkl)
      obtain ⟨x, hxx⟩ : ∃ x, x = (xs[k]'hkl).x := ⟨_, rfl⟩
      obtain ⟨y, hyy⟩ : ∃ y, y = (xs[k]'hkl).y := ⟨_, rfl⟩
      have hts := goodL_take xs k hkl
      rw [hg.out, Bool.true_and] at hts
      have hfalse := goodL_false xs k hkl
      have hgi : good xs[k] = decide (-1073741824 ≤ x ∧ x ≤ 1073741824 ∧ -1073741824 ≤ y ∧ y ≤ 1073741824) := by rw [hxx, hyy]; rfl
      unfold Pt.inI at hin
      rw [← hxx, ← hyy] at hin
      rw [← hxx] at hcx
      rw [← hyy] at hcy
      rw [hgi] at hts hfalse
      have HT := Lib.hid hts
      have HF := Lib.hid hfalse
      obtain ⟨⟨i1, i2⟩, i3, i4⟩ := hin
      clear hts hfalse hgi hxx hyy hr
      have h3 : x < y ∨ y < x ∨ (x ≤ y ∧ y ≤ x) := by omega
      rcases h3 with h3 | h3 | ⟨h3, h4⟩
      all_goals
        by_cases hG : -1073741824 ≤ x ∧ x ≤ 1073741824 ∧ -1073741824 ≤ y ∧ y ≤ 1073741824
        · have HT2 : Hid (goodL (xs.take (k + 1)) = true) := by show _ = true; rw [HT.out]; exact decide_eq_true hG
          obtain ⟨g1, g2, g3, g4⟩ := hG
          clear HT HF
          go_wp2_with fail
          go_roundw
          case rel => exact ⟨k + 1, by omega, HT2, by go_num, hbel.alloc hbel.size _⟩
          case measure => simp [intOf]; omega
        · have HF2 := Lib.hid (HF.out (decide_eq_false hG))
          have HG := Lib.hid hG
          clear HT HF hG
          go_wp2_with fail
          all_goals
            first
            | (go_ret; exact ⟨by rw [HF2.out]; rfl, hbel.alloc hbel.size _⟩)
            | (exfalso; have := HG.out; omega)
    · go_wp2_with fail
      go_ret
      refine ⟨?_, hbel⟩
      have := hg.out
      rw [List.take_of_length_le (by have := HL.out; omega)] at this
      rw [this]
      rfl
end Go.Proofs.Ytcohioplkchojaa
namespace Go.Proofs.Ytcohioplkchojaa
open Go.RowKit
set_option maxHeartbeats 400000 in
theorem goodR_any (xs : List Pt) (A : Option Addr) (n cap : Nat) (w : World) (hr : Reads w w.heap.size 2 A n (ptsV xs)) (hn : n ≤ 9223372036854775807) (hx : ∀ p ∈ xs, p.inI) :
    Calls Try.prog 22 #[.slice A n cap] w fun e w' => e = .returned (.bool (goodL xs)) ∧ Below w.heap.size w w' := by
  have hl := hr.lenPt
  have HL := Lib.hid hl
  have HX := Lib.hid hx
  clear hl hx
  go_enter Try.func22, Try.ntmps22
  go_wp2
  go_loopw [3] (fun i wr => ∃ k : Nat, k ≤ n ∧ Hid (goodL (xs.take k) = true) ∧ i = .int .i64 (k : Int) ∧ Below w.heap.size w wr) (fun i _ => n - (intOf i).toNat)
  case atStart => exact ⟨0, Nat.zero_le _, rfl, rfl, Below.refl _ _⟩
  case round =>
    obtain ⟨k, hk, hg, rfl, hbel⟩ := hrel
    by_cases hlt : k < n
    · obtain ⟨ad, rfl, hb, hkl, hcx, hcy⟩ := (hr.below hbel).pt hlt
      have hin := HX.out _ (List.getElem_mem hkl)
      obtain ⟨x, hxx⟩ : ∃ x, x = (xs[k]'hkl).x := ⟨_, rfl⟩
      obtain ⟨y, hyy⟩ : ∃ y, y = (xs[k]'hkl).y := ⟨_, rfl⟩
      have hts := goodL_take xs k hkl
      rw [hg.out, Bool.true_and] at hts
      have hfalse := goodL_false xs k hkl
      have hgi : good xs[k] = decide (-1073741824 ≤ x ∧ x ≤ 1073741824 ∧ -1073741824 ≤ y ∧ y ≤ 1073741824) := by rw [hxx, hyy]; rfl
      unfold Pt.inI at hin
      rw [← hxx, ← hyy] at hin
      rw [← hxx] at hcx
      rw [← hyy] at hcy
      rw [hgi] at hts hfalse
      have HT := Lib.hid hts
      have HF := Lib.hid hfalse
      obtain ⟨⟨i1, i2⟩, i3, i4⟩ := hin
      clear hts hfalse hgi hxx hyy hr
      by_cases hG : -1073741824 ≤ x ∧ x ≤ 1073741824 ∧ -1073741824 ≤ y ∧ y ≤ 1073741824
      · have HT2 : Hid (goodL (xs.take (k + 1)) = true) := by show _ = true; rw [HT.out]; exact decide_eq_true hG
        obtain ⟨g1, g2, g3, g4⟩ := hG
        clear HT HF
        go_wp2_with fail
        go_roundw
        case rel => exact ⟨k + 1, by omega, HT2, by go_num, hbel.alloc hbel.size _⟩
        case measure => simp [intOf]; omega
      · have HF2 := Lib.hid (HF.out (decide_eq_false hG))
        have h3 : x < -1073741824 ∨ (-1073741824 ≤ x ∧ 1073741824 < x) ∨ (-1073741824 ≤ x ∧ x ≤ 1073741824 ∧ y < -1073741824) ∨ (-1073741824 ≤ x ∧ x ≤ 1073741824 ∧ -1073741824 ≤ y ∧ 1073741824 < y) := by omega
        clear HT HF hG
        rcases h3 with g1 | ⟨g1, g2⟩ | ⟨g1, g2, g3⟩ | ⟨g1, g2, g3, g4⟩
        all_goals
          go_wp2_with fail
          go_ret
          exact ⟨by rw [HF2.out]; rfl, hbel.alloc hbel.size _⟩
    · go_wp2_with fail
      go_ret
      refine ⟨?_, hbel⟩
      have := hg.out
      rw [List.take_of_length_le (by have := HL.out; omega)] at this
      rw [this]
      rfl
end Go.Proofs.Ytcohioplkchojaa
