/- merestonelaw09.GridHas: the walk. -/
import Derived.Test.YtcohioplkchojaaBoxLaw
import Derived.Test.YtcohioplkchojaaCheckR
import Derived.Test.YtcohioplkchojaaCollect
import Derived.Test.YtcohioplkchojaaAns09
import Derived.Test.YtcohioplkchojaaWin
namespace Go.Proofs.Ytcohioplkchojaa
open Go.RowKit
set_option maxRecDepth 100000 in
set_option maxHeartbeats 800000 in
theorem hasc_any (l : List Pt) (c : Pt) (A : Option Addr) (n cap g : Nat) (w : World) (hr : Reads w w.heap.size 2 A n (ptsV l)) (hn : n ≤ 9223372036854775807) (hc : Blk w g 54 #[.int .i64 c.x, .int .i64 c.y]) :
    Calls Try.prog 32 #[.slice A n cap, .pointer (some ⟨g, 0, none⟩)] w fun e w' => e = .returned (.bool (decide (c ∈ l))) ∧ Below w.heap.size w w' := by
  obtain ⟨res, hres⟩ : ∃ r, r = decide (c ∈ l) := ⟨_, rfl⟩
  rw [← hres]
  have hl : l.length = n := hr.lenPt
  have HR := Lib.hid (And.intro hres (And.intro hl hr))
  have c1 : w.cell? ⟨g, 0, none⟩ = some (.int .i64 c.x) := by rw [Blk.cell hc 0]; rfl
  have c2 : w.cell? ⟨g, 1, none⟩ = some (.int .i64 c.y) := by rw [Blk.cell hc 1]; rfl
  clear hres hl hr hc
  go_enter Try.func32, Try.ntmps32
  go_wp2_with fail
  go_loopw [4] (fun i wr => ∃ k : Nat, k ≤ n ∧ i = .int .i64 (k : Int) ∧ Hid (∀ j, j < k → ptAt l j ≠ c) ∧ ∃ q, wr = w.drewN q) (fun i _ => n - (intOf i).toNat)
  case atStart => exact ⟨0, Nat.zero_le _, rfl, (fun j hj => absurd hj (by omega)), 0, rfl⟩
  case round =>
    obtain ⟨k, hk, rfl, hno, q, rfl⟩ := hrel
    by_cases hlt : k < n
    · have hlt' : (k : Int) < (n : Int) := by omega
      have hw1 : IntKind.i64.wrap ((k : Int) + 1) = (k : Int) + 1 := by rw [IntKind.wrap_i64]; omega
      obtain ⟨ad, rfl, -, -, -, -⟩ := HR.out.2.2.pt hlt
      obtain ⟨-, p1, p2⟩ := HR.out.2.2.ptA hlt
      have heq : ((ptAt l k).x = c.x ∧ (ptAt l k).y = c.y) ↔ ptAt l k = c := by
        rcases ptAt l k with ⟨a, b⟩
        obtain ⟨a', b'⟩ := c
        simp
      have hmem : ptAt l k = c → c ∈ l := fun h => by
        rw [← h, ptAt_lt (by have := HR.out.2.1; omega)]
        exact List.getElem_mem _
      have HQ := Lib.hid (And.intro heq hmem)
      clear heq hmem
      replace p1 : (w.drewN q).cell? (ad.add (k * 2)) = some (.int .i64 (ptAt l k).x) := p1
      replace p2 : (w.drewN q).cell? ⟨(ad.add (k * 2)).block, (ad.add (k * 2)).off + 1, none⟩ = some (.int .i64 (ptAt l k).y) := p2
      replace c1 : (w.drewN q).cell? ⟨g, 0, none⟩ = some (.int .i64 c.x) := c1
      replace c2 : (w.drewN q).cell? ⟨g, 1, none⟩ = some (.int .i64 c.y) := c2
      have hc : ((ptAt l k).x == c.x) = true ∧ ((ptAt l k).y == c.y) = true ∨ ((ptAt l k).x == c.x) = true ∧ ((ptAt l k).y == c.y) = false ∨ ((ptAt l k).x == c.x) = false := by
        rcases h1 : ((ptAt l k).x == c.x) with _ | _ <;> rcases h2 : ((ptAt l k).y == c.y) with _ | _ <;> simp
      have HV := Lib.hid (show w.drewN q = w.drewN q from rfl)
      generalize hV : w.drewN q = V at *
      rcases hc with ⟨e1, e2⟩ | ⟨e1, e2⟩ | e1
      · have hyes : ptAt l k = c := HQ.out.1.1 ⟨by simpa using e1, by simpa using e2⟩
        have H4 : Hid (res = true) := by show _ = _; rw [HR.out.1]; exact decide_eq_true (HQ.out.2 hyes)
        clear hyes HQ hno
        go_wp2_with fail
        go_quiet (fail)
        go_wp2_with fail
        go_ret
        exact ⟨by rw [H4.out]; rfl, by rw [← hV]; exact below_drewN (below_drewN (Below.refl _ _) _) _⟩
      · have hno2 : Hid (∀ j, j < k + 1 → ptAt l j ≠ c) := fun j hj => by
          rcases Nat.lt_succ_iff_lt_or_eq.1 hj with h3 | h3
          · exact hno.out j h3
          · subst h3
            intro h
            have := (HQ.out.1.2 h).2
            rw [this] at e2
            simp at e2
        clear HQ hno
        go_wp2_with fail
        go_quiet (fail)
        go_wp2_with fail
        go_roundw
        case rel => exact ⟨k + 1, by omega, by go_num, hno2, _, by rw [← hV, World.drewN_drewN]⟩
        case measure => simp [intOf]; omega
      · have hno2 : Hid (∀ j, j < k + 1 → ptAt l j ≠ c) := fun j hj => by
          rcases Nat.lt_succ_iff_lt_or_eq.1 hj with h3 | h3
          · exact hno.out j h3
          · subst h3
            intro h
            have := (HQ.out.1.2 h).1
            rw [this] at e1
            simp at e1
        clear HQ hno
        go_wp2_with fail
        go_quiet (fail)
        go_wp2_with fail
        go_roundw
        case rel => exact ⟨k + 1, by omega, by go_num, hno2, _, by rw [← hV, World.drewN_drewN]⟩
        case measure => simp [intOf]; omega
    · have hkn : k = n := by omega
      subst hkn
      have H4 : Hid (res = false) := by
        show _ = _
        rw [HR.out.1]
        refine decide_eq_false fun h => ?_
        obtain ⟨j, hj, he⟩ := List.getElem_of_mem h
        exact hno.out j (by have := HR.out.2.1; omega) (by rw [ptAt_lt hj]; exact he)
      clear hno
      go_wp2_with fail
      go_ret
      exact ⟨by rw [H4.out]; rfl, below_drewN (Below.refl _ _) _⟩
end Go.Proofs.Ytcohioplkchojaa
