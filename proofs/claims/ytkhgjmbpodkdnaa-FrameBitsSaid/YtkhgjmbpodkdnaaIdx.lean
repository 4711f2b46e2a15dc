/- slices.IndexFunc, slices.ContainsFunc at []byte and frame.Open's own function: the walks. -/
import Derived.Test.YtkhgjmbpodkdnaaWords
import Derived.Test.YtkhgjmbpodkdnaaSum
import Derived.Test.YtkhgjmbpodkdnaaRows
namespace Go.Proofs.Ytkhgjmbpodkdnaa
open Go.RowKit
theorem pos_any (x : Nat) (w : World) : Calls Try.prog 25 #[.int .u8 (x : Int)] w fun e w' => e = .returned (.bool (decide (0 < x))) ∧ w = w' := by
  go_enter Try.func25, Try.ntmps25
  go_wp2
  go_ret
  exact ⟨rfl, rfl⟩
def nz (xs : List UInt8) : Bool := xs.any fun b => decide (0 < b.toNat)
def IdxPost (xs : List UInt8) (w : World) (e : Ending) (w' : World) : Prop := ∃ r : Int, e = .returned (.int .i64 r) ∧ decide (0 ≤ r) = nz xs ∧ w = w'
theorem nz_take (xs : List UInt8) (k : Nat) (h : k < xs.length) : nz (xs.take (k + 1)) = (nz (xs.take k) || decide (0 < xs[k].toNat)) := by
  unfold nz
  rw [List.take_succ_eq_append_getElem h, List.any_append]
  simp only [List.any_cons, List.any_nil, Bool.or_false]
theorem nz_mono (xs : List UInt8) (k : Nat) (h : nz (xs.take k) = true) : nz xs = true := by
  unfold nz at h ⊢
  rw [List.any_eq_true] at h ⊢
  obtain ⟨x, hx, h0⟩ := h
  exact ⟨x, List.mem_of_mem_take hx, h0⟩
set_option maxHeartbeats 400000 in
theorem index_any (xs : List UInt8) (A : Option Addr) (n cap : Nat) (w : World) (hr : Reads w w.heap.size 1 A n (u8s xs)) (hn : n ≤ 9223372036854775807) :
    Calls Try.prog 26 #[.slice A n cap, .func (.func 25) #[] #[]] w (IdxPost xs w) := by
  have hl := hr.len8
  go_enter Try.func26, Try.ntmps26
  have HL := Lib.hid hl
  clear hl
  go_wp2
  go_loop [8] (fun i => ∃ k : Nat, k ≤ n ∧ Hid (nz (xs.take k) = false) ∧ i = .int .i64 (k : Int)) (fun i => n - (intOf i).toNat)
  case atStart => exact ⟨0, Nat.zero_le _, rfl, rfl⟩
  case round =>
    obtain ⟨k, hk, hz, rfl⟩ := hrel
    by_cases hlt : k < n
    · obtain ⟨ad, rfl, hb, hkl, hcell⟩ := hr.byte hlt
      have hts := nz_take xs k hkl
      rw [hz.out, Bool.false_or] at hts
      obtain ⟨x, hx⟩ : ∃ x : Nat, x = (xs[k]'hkl).toNat := ⟨_, rfl⟩
      have hxb : x < 256 := by rw [hx]; exact u8_lt _
      rw [← hx] at hcell hts
      clear hx hr
      have HT := Lib.hid hts
      clear hts
      by_cases h0 : 0 < x
      · have hd : decide (0 < x) = true := by simpa using h0
        go_wp2_with (go_at_call 25; refine (pos_any x _).mono ?_; rintro e w' ⟨rfl, rfl⟩)
        go_ret
        refine ⟨_, rfl, ?_, rfl⟩
        rw [nz_mono xs (k + 1) (by rw [HT.out, hd])]
        simp
      · have hd : decide (0 < x) = false := by simpa using h0
        go_wp2_with (go_at_call 25; refine (pos_any x _).mono ?_; rintro e w' ⟨rfl, rfl⟩)
        go_round
        case rel => exact ⟨k + 1, by omega, by show nz _ = _; rw [HT.out, hd], by go_num⟩
        case measure => simp [intOf]; omega
    · go_wp2
      go_ret
      refine ⟨-1, rfl, ?_, rfl⟩
      have := hz.out
      rw [List.take_of_length_le (by have := HL.out; omega)] at this
      rw [this]; rfl
theorem contains_any (xs : List UInt8) (A : Option Addr) (n cap : Nat) (w : World) (hr : Reads w w.heap.size 1 A n (u8s xs)) (hn : n ≤ 9223372036854775807) :
    Calls Try.prog 24 #[.slice A n cap, .func (.func 25) #[] #[]] w fun e w' => e = .returned (.bool (nz xs)) ∧ w = w' := by
  go_enter Try.func24, Try.ntmps24
  go_wp2_with fail
  refine (index_any xs _ _ _ _ hr hn).mono ?_
  rintro e w' ⟨r, rfl, hrr, rfl⟩
  have HR := Lib.hid hrr
  clear hrr
  go_wp2_with fail
  go_ret
  exact ⟨by rw [← HR.out]; rfl, rfl⟩
end Go.Proofs.Ytkhgjmbpodkdnaa
