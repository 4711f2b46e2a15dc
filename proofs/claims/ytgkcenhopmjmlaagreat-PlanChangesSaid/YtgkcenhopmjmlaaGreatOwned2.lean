/- What lies beside Owned. -/
import Derived.Test.YtgkcenhopmjmlaaGreatOwned
namespace Go.Proofs.YtgkcenhopmjmlaaGreat
open Go.RowKit
end Go.Proofs.YtgkcenhopmjmlaaGreat
namespace Go.Proofs.YtgkcenhopmjmlaaGreat
open Go.RowKit
theorem bad_at {s : ByteArray} {k : Nat} (hk : k < s.size) : badB (s[k]'hk) = (decide ((s[k]'hk).toNat < 32) || decide (126 < (s[k]'hk).toNat)) := rfl
end Go.Proofs.YtgkcenhopmjmlaaGreat
namespace Go.Proofs.YtgkcenhopmjmlaaGreat
open Go.RowKit
end Go.Proofs.YtgkcenhopmjmlaaGreat
namespace Go.Proofs.YtgkcenhopmjmlaaGreat
open Go.RowKit
set_option maxRecDepth 100000 in
set_option maxHeartbeats 1600000 in
theorem small_any (p : Plan) (A A' : Option Addr) (n c n' c' : Nat) (w : World) (h : PlanAt w w.heap.size A n c A' n' c' p) :
    Calls Tryz.prog 35 #[planV A n c A' n' c'] w (SP400 n n' p w) := by
  obtain ⟨hl1, hl2, hl3, hl4⟩ := h.lens
  have HP := Lib.hid (And.intro h.parcs h.fits)
  have hK0 := PlK.new w A n c A' n' c'
  have hB0 := (Below.refl w.heap.size w).alloc (Nat.le_refl _) (.cells #[.slice A n c, .slice A' n' c'] 26)
  have HL2 := Lib.hid hl2
  have H0 := Lib.hid (And.intro hB0 hK0)
  obtain ⟨q1, q2, -⟩ := hK0.facts
  clear hB0 hK0 h hl1 hl2
  go_enter Tryz.func35, Tryz.ntmps35
  go_wp2_with fail
  obtain ⟨wo, hwo⟩ : ∃ wo : World, wo = w.alloc (.cells #[.slice A n c, .slice A' n' c'] 26) := ⟨_, rfl⟩
  rw [← hwo] at H0 q1 q2
  try rw [← hwo]
  clear hwo q1 q2
  go_loopw [3, 4] (fun s i wr => ∃ (k N : Nat), k ≤ n' ∧ i = .int .i64 (k : Int) ∧ s = .int .i64 (N : Int) ∧ N ≤ 17592186044416 ∧ Hid (cornN n p.parcels = cornN N (p.parcels.drop k)) ∧ Below w.heap.size w wr ∧ PlK wr w.heap.size A n c A' n' c') (fun _ i _ => n' - (intOf i).toNat)
  case atStart => exact ⟨0, n, Nat.zero_le _, rfl, rfl, by omega, rfl, H0.out⟩
  case round =>
    clear H0
    obtain ⟨k, N, hk, rfl, rfl, hN, HN, hbel, hK⟩ := hrel
    obtain ⟨q1, q2, -⟩ := hK.facts
    by_cases hgo : k < n' ∧ k < 81 ∧ N ≤ 400
    · obtain ⟨hlt, h81, hlim⟩ := hgo
      have g1 : (k : Int) < (n' : Int) := by omega
      have g2 : (k : Int) < 81 := by omega
      have g3 : (N : Int) ≤ 400 := by omega
      have hw1 : IntKind.i64.wrap ((k : Int) + 1) = (k : Int) + 1 := by rw [IntKind.wrap_i64]; omega
      have hlk : k < p.parcels.length := by have := HL2.out; omega
      obtain ⟨ad, rfl⟩ := HP.out.1.some_ (by omega)
      obtain ⟨-, p1, ⟨Ak, nk, ck, p2, hrk, -, -⟩, p3⟩ := (HP.out.1.below hbel).at_ hlt
      have hf := (HP.out.2.pc hlk).1
      rw [hrk.lenPt] at hf
      have hw2 : IntKind.i64.wrap ((N : Int) + (nk : Int)) = (N : Int) + (nk : Int) := by rw [IntKind.wrap_i64]; omega
      have HD : Hid (cornN n p.parcels = cornN (N + nk) (p.parcels.drop (k + 1))) := by
        have hdk : p.parcels.drop k = pcAt p.parcels k :: p.parcels.drop (k + 1) := by rw [List.drop_eq_getElem_cons hlk, pcAt_lt hlk]
        have := HN.out
        rw [hdk, cornN_cons, hrk.lenPt] at this
        exact this
      have HB := Lib.hid (And.intro hbel hK)
      clear hbel hK HN hrk
      go_wp2_with fail
      go_roundw
      case rel => exact ⟨k + 1, N + nk, by omega, by go_num, by go_num, by omega, HD.out, HB.out⟩
      case measure => simp [intOf]; omega
    · have HB := Lib.hid hbel
      clear hbel hK
      by_cases g5 : N ≤ 400
      · have g6 : (N : Int) ≤ 400 := by omega
        by_cases g7 : n' ≤ 80
        · have g8 : (n' : Int) ≤ 80 := by omega
          have hkn : k = n' := by omega
          subst hkn
          have HC : Hid (cornN n p.parcels ≤ 400) := by
            have := HN.out
            rw [List.drop_of_length_le (by have := HL2.out; omega), cornN_nil] at this
            show _ ≤ _
            omega
          have g9 : ¬ (k : Int) < (k : Int) := by omega
          clear hgo
          go_wp2_with fail
          go_ret
          exact SP400.mk true rfl (fun _ => ⟨g7, HC.out⟩) HB.out
        · have g8 : ¬ (n' : Int) ≤ 80 := by omega
          by_cases g9 : k < n'
          · have g10 : (k : Int) < (n' : Int) := by omega
            have g11 : ¬ (k : Int) < 81 := by omega
            clear hgo
            go_wp2_with fail
            go_ret
            exact SP400.mk false (by first | rfl | (show Ending.returned (.bool (decide ((n' : Int) ≤ 80))) = _; rw [decide_eq_false (by omega)])) (fun h => by cases h) HB.out
          · have g10 : ¬ (k : Int) < (n' : Int) := by omega
            clear hgo
            go_wp2_with fail
            go_ret
            exact SP400.mk false (by first | rfl | (show Ending.returned (.bool (decide ((n' : Int) ≤ 80))) = _; rw [decide_eq_false (by omega)])) (fun h => by cases h) HB.out
      · have g6 : ¬ (N : Int) ≤ 400 := by omega
        by_cases g9 : k < n'
        · have g10 : (k : Int) < (n' : Int) := by omega
          by_cases g11 : k < 81
          · have g12 : (k : Int) < 81 := by omega
            clear hgo
            go_wp2_with fail
            go_ret
            exact SP400.mk false rfl (fun h => by cases h) HB.out
          · have g12 : ¬ (k : Int) < 81 := by omega
            clear hgo
            go_wp2_with fail
            go_ret
            exact SP400.mk false rfl (fun h => by cases h) HB.out
        · have g10 : ¬ (k : Int) < (n' : Int) := by omega
          clear hgo
          go_wp2_with fail
          go_ret
          exact SP400.mk false rfl (fun h => by cases h) HB.out
end Go.Proofs.YtgkcenhopmjmlaaGreat
namespace Go.Proofs.YtgkcenhopmjmlaaGreat
open Go.RowKit
end Go.Proofs.YtgkcenhopmjmlaaGreat
namespace Go.Proofs.YtgkcenhopmjmlaaGreat
open Go.RowKit Go.WideShapes Go.ChangeShapes Go.Deep Go.ChangeAt Go.Joins
section
variable {H : Type} {enc : TypeId × Value → H}
end
end Go.Proofs.YtgkcenhopmjmlaaGreat
