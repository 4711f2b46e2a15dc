/- FrameParts: the walk: true, and older memory is as it was. -/
import Derived.Test.YtkhgjmbpodkdnaaAns13
import Derived.Test.YtkhgjmbpodkdnaaNum
import Derived.Test.YtkhgjmbpodkdnaaSeal
import Derived.Test.YtkhgjmbpodkdnaaPartsLaw
namespace Go.Proofs.Ytkhgjmbpodkdnaa
open Go.RowKit
def u32s (l : List Nat) : List Value := l.map fun (x : Nat) => .int .u32 (x : Int)
theorem u32s_get {l : List Nat} {k : Nat} {u : Value} (h : (u32s l)[k]? = some u) : ∃ hk : k < l.length, u = .int .u32 ((l[k]'hk : Nat) : Int) := by
  have hk : k < l.length := by
    have := (List.getElem?_eq_some_iff.1 h).1
    simpa [u32s] using this
  refine ⟨hk, ?_⟩
  simp only [u32s, List.getElem?_map, List.getElem?_eq_getElem hk, Option.map_some, Option.some.injEq] at h
  exact h.symm
def PartsRel (xs : List Nat) (s : Nat) (w : World) (v i : Value) (wr : World) : Prop :=
  ∃ (k n c : Nat) (A : Option Addr), k ≤ xs.length ∧ i = .int .i64 (k : Int) ∧ v = .slice A n c ∧ n ≤ 1400 ∧ wr.ownsRow w.heap.size 5 1 (.slice A n c) n (u8s (encL (xs.take k) s)) ∧ Below w.heap.size w wr
theorem PartsRel.step {xs : List Nat} {s k : Nat} {w wr w2 : World} {e : Ending} {x : Nat} (hk : k < xs.length) (h200 : xs.length ≤ 200) (h7 : s ≤ 7) (hx : x = xs[k]) (hb : Below w.heap.size w wr)
    (h : Own8 (encL (xs.take k) s ++ beB x s) wr e w2) : ∃ A m c, e = .returned (.slice A m c) ∧ PartsRel xs s w (.slice A m c) (.int .i64 ((k : Int) + 1)) w2 := by
  obtain ⟨A, c, rfl, ho, hb2⟩ := h
  subst hx
  rw [← encL_take xs s k hk] at ho ⊢
  refine ⟨A, _, c, rfl, k + 1, _, c, A, hk, by go_num, rfl, ?_, own_mono ho hb.size, below_on hb (Nat.le_refl _) hb2⟩
  rw [encL_length, List.length_take]
  have h1 : min (k + 1) xs.length ≤ 200 := by omega
  have : min (k + 1) xs.length * s ≤ 200 * 7 := Nat.mul_le_mul h1 h7
  omega
set_option maxHeartbeats 400000 in
theorem parts_no (xs : List Nat) (A : Option Addr) (n cap : Nat) (size : Int) (w : World) (_hl : xs.length = n) (_h : 200 < n ∨ size < 4 ∨ 7 < size) :
    Calls Try.prog 7 #[.slice A n cap, .int .i64 size] w fun e w' => e = .returned (.bool true) ∧ Below w.heap.size w w' := by
  have hc : 200 < n ∨ (n ≤ 200 ∧ size < 4) ∨ (n ≤ 200 ∧ 4 ≤ size ∧ 7 < size) := by omega
  clear _h _hl
  rcases hc with h | ⟨h1, h2⟩ | ⟨h1, h2, h3⟩
  all_goals
    go_enter Try.func7, Try.ntmps7
    go_wp2_with fail
    refine (ans13_any _).mono ?_
    rintro e w1 ⟨rfl, hb1⟩
    go_wp2_with fail
    refine (ans13_any _).mono ?_
    rintro e w2 ⟨rfl, hb2⟩
    go_wp2_with fail
    go_ret
    exact ⟨rfl, below_on hb1 (Nat.le_refl _) hb2⟩
set_option maxRecDepth 100000 in
set_option maxHeartbeats 800000 in
theorem parts_yes (xs : List Nat) (A : Option Addr) (n cap s : Nat) (w : World) (hr : Reads w w.heap.size 1 A n (u32s xs)) (hl : xs.length = n) (hx : ∀ x ∈ xs, x < 4294967296) (hn : n ≤ 200) (h4 : 4 ≤ s) (h7 : s ≤ 7) :
    Calls Try.prog 7 #[.slice A n cap, .int .i64 s] w fun e w' => e = .returned (.bool true) ∧ Below w.heap.size w w' := by
  obtain rfl : n = xs.length := hl.symm
  clear hl
  go_enter Try.func7, Try.ntmps7
  go_wp2_with fail
  refine (ans13_any _).mono ?_
  rintro e w1 ⟨rfl, hb1⟩
  have HX := Lib.hid hx
  clear hx
  go_wp2_with fail
  go_loopw [5, 6] (PartsRel xs s w) (fun _ i _ => xs.length - (intOf i).toNat)
  case atStart => exact ⟨0, 0, 0, none, Nat.zero_le _, rfl, rfl, by omega, World.ownsRow_nil _ _ _ _, hb1⟩
  case round =>
    obtain ⟨k, m, c, A2, hk, rfl, rfl, hm, hown, hbel⟩ := hrel
    by_cases hlt : k < xs.length
    · obtain ⟨ad, u, rfl, hbd, hu, hcell⟩ := hr.at_ hlt
      obtain ⟨hkl, rfl⟩ := u32s_get hu
      have hcell' := hbel.cell (by rw [block_of_add]; exact hbd) |>.trans hcell
      have hxb := HX.out _ (List.getElem_mem hkl)
      obtain ⟨x, hx⟩ : ∃ x, x = xs[k] := ⟨_, rfl⟩
      rw [← hx] at hcell' hxb
      have HXK := Lib.hid hx
      have hor := Reads.of_own hown
      clear hx hcell hu hown
      go_wp2_with fail
      refine (putNum_any _ _ _ _ (x : Int) (s : Int) _ hor (by omega) (by omega)).mono ?_
      rw [putN_enc _ x s hxb h4 h7]
      intro e w2 hown2
      obtain ⟨A3, m3, c3, rfl, hrel2⟩ := PartsRel.step hlt hn h7 HXK.out hbel hown2
      clear hown2
      go_wp2
      go_roundw
      case rel => exact hrel2
      case measure => simp [intOf]; omega
    · obtain rfl : k = xs.length := by omega
      rw [List.take_length] at hown
      have hml : m = xs.length * s := by have := hown.1; rw [u8s_length, encL_length] at this; omega
      have hcap := own_cap hown
      have hor := Reads.of_own hown
      have HM := Lib.hid hml
      clear hml hown
      go_wp2_with fail
      obtain ⟨wo, rfl⟩ : ∃ wo : World, wo = wr := ⟨_, rfl⟩
      go_loop [7] (fun i => ∃ j : Nat, j ≤ xs.length ∧ i = .int .i64 (j : Int)) (fun i => xs.length - (intOf i).toNat)
      case atStart => exact ⟨0, Nat.zero_le _, rfl⟩
      case round =>
        obtain ⟨j, hj, rfl⟩ := hrel
        have hjs : j * s ≤ xs.length * s := Nat.mul_le_mul_right _ hj
        have hjs0 : (0 : Int) ≤ (j : Int) * (s : Int) := by rw [← Int.natCast_mul]; omega
        have hjs1 : (j : Int) * (s : Int) ≤ 1400 := by rw [← Int.natCast_mul]; have := HM.out; omega
        by_cases hlt : j < xs.length
        · obtain ⟨ad, u, rfl, hbd, hu, hcell⟩ := hr.at_ hlt
          obtain ⟨hkl, rfl⟩ := u32s_get hu
          have hcell' := hbel.cell (by rw [block_of_add]; exact hbd) |>.trans hcell
          have hxb := HX.out _ (List.getElem_mem hkl)
          obtain ⟨x, hx⟩ : ∃ x, x = xs[j] := ⟨_, rfl⟩
          have hval : numR (encL xs s) ((j : Int) * (s : Int)) (s : Int) = ((x : Int), 0) := by
            have h1 : j * s + s ≤ (encL xs s).length := by rw [encL_length, ← Nat.succ_mul]; exact Nat.mul_le_mul_right _ hlt
            rw [← Int.natCast_mul, numR_ok (by omega) h7 h1, encL_at xs s j hlt, numL_enc _ s hxb h4, hx]
          rw [← hx] at hcell' hxb
          have HV := Lib.hid hval
          clear hx hcell hu hval
          go_wp2_with fail
          refine (num_any _ _ _ _ _ _ _ hor hcap.1 hcap.2 (by omega) (by omega)).mono ?_
          rintro e w3 ⟨rfl, rfl⟩
          rw [HV.out]
          go_wp2
          go_round
          case rel => exact ⟨j + 1, by omega, by go_num⟩
          case measure => simp [intOf]; omega
        · obtain rfl : j = xs.length := by omega
          have hval : numR (encL xs s) ((xs.length : Int) * (s : Int)) (s : Int) = (0, 14) := by
            rw [← Int.natCast_mul]
            refine numR_short (by omega) (.inr ?_)
            rw [encL_length]; omega
          have hmm : ((m : Int) == (xs.length : Int) * (s : Int)) = true := by rw [← Int.natCast_mul, HM.out]; simp
          have HV := Lib.hid hval
          clear hval
          go_wp2_with fail
          refine (num_any _ _ _ _ _ _ _ hor hcap.1 hcap.2 (by omega) (by omega)).mono ?_
          rintro e w3 ⟨rfl, rfl⟩
          rw [HV.out]
          go_wp2
          go_ret
          exact ⟨rfl, hbel⟩
theorem parts_any (xs : List Nat) (A : Option Addr) (n cap : Nat) (size : Int) (w : World) (hr : Reads w w.heap.size 1 A n (u32s xs)) (hl : xs.length = n) (hx : ∀ x ∈ xs, x < 4294967296) :
    Calls Try.prog 7 #[.slice A n cap, .int .i64 size] w fun e w' => e = .returned (.bool true) ∧ Below w.heap.size w w' := by
  by_cases h : 200 < n ∨ size < 4 ∨ 7 < size
  · exact parts_no xs A n cap size w hl h
  · obtain ⟨s, rfl⟩ := Int.eq_ofNat_of_zero_le (a := size) (by omega)
    exact parts_yes xs A n cap s w hr hl hx (by omega) (by omega) (by omega)
end Go.Proofs.Ytkhgjmbpodkdnaa
