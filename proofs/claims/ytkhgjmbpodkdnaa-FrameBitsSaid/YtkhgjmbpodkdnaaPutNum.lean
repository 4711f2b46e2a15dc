/- frame.PutNum: the walk. -/
import Derived.Test.YtkhgjmbpodkdnaaClone8
import Derived.Test.YtkhgjmbpodkdnaaNums
namespace Go.Proofs.Ytkhgjmbpodkdnaa
open Go.RowKit
set_option maxHeartbeats 400000 in
theorem putNum_no (xs : List UInt8) (A : Option Addr) (n cap : Nat) (v size : Int) (w : World) (hr : Reads w w.heap.size 1 A n (u8s xs)) (hn : n ≤ 140737488354000) (h : v < 0 ∨ size < 1 ∨ 8 < size) :
    Calls Try.prog 17 #[.slice A n cap, .int .i64 v, .int .i64 size] w (Own8 xs w) := by
  by_cases h1 : v < 0
  · go_enter Try.func17, Try.ntmps17
    go_wp2_with fail
    refine (clone8_any xs A n cap _ hr (by omega)).mono ?_
    rintro e w1 ⟨A1, c1, rfl, ho, hb⟩
    go_wp2
    go_ret
    exact ⟨A1, c1, rfl, ho, hb⟩
  by_cases h2 : size < 1
  · go_enter Try.func17, Try.ntmps17
    go_wp2_with fail
    refine (clone8_any xs A n cap _ hr (by omega)).mono ?_
    rintro e w1 ⟨A1, c1, rfl, ho, hb⟩
    go_wp2
    go_ret
    exact ⟨A1, c1, rfl, ho, hb⟩
  · have h3 : 8 < size := by omega
    go_enter Try.func17, Try.ntmps17
    go_wp2_with fail
    refine (clone8_any xs A n cap _ hr (by omega)).mono ?_
    rintro e w1 ⟨A1, c1, rfl, ho, hb⟩
    go_wp2
    go_ret
    exact ⟨A1, c1, rfl, ho, hb⟩
theorem putNum_big (xs : List UInt8) (A : Option Addr) (n cap : Nat) (v s : Nat) (w : World) (hr : Reads w w.heap.size 1 A n (u8s xs)) (hn : n ≤ 140737488354000) (hs1 : 1 ≤ s) (hs2 : s < 8) (hv : 256 ^ s ≤ v) :
    Calls Try.prog 17 #[.slice A n cap, .int .i64 v, .int .i64 s] w (Own8 xs w) := by
  obtain ⟨q, hq, h0⟩ : ∃ q : Nat, (v : Int) / 2 ^ (8 * s) = (q : Int) ∧ 0 < q := by
    refine ⟨v / 2 ^ (8 * s), by simp, ?_⟩
    rw [pow_two56]
    exact Nat.div_pos hv (Nat.pow_pos (by omega))
  clear hv
  go_enter Try.func17, Try.ntmps17
  go_wp2_with fail
  refine (clone8_any xs A n cap _ hr (by omega)).mono ?_
  rintro e w1 ⟨A1, c1, rfl, ho, hb⟩
  go_wp2
  go_ret
  exact ⟨A1, c1, rfl, ho, hb⟩
theorem u8_ofNat_int (q : Nat) : (q : Int) % 256 = ((UInt8.ofNat (q % 256)).toNat : Int) := by
  rw [UInt8.toNat_ofNat']; omega
/-- What stands at the loop's head: the bytes above byte j are written. -/
def PutRel (xs : List UInt8) (v s : Nat) (w : World) (out k : Value) (wr : World) : Prop :=
  ∃ (j n2 c2 : Nat) (A2 : Option Addr), j ≤ s ∧ k = .int .i64 ((j : Int) - 1) ∧ out = .slice A2 n2 c2 ∧ n2 ≤ xs.length + 8 ∧ wr.ownsRow w.heap.size 5 1 (.slice A2 n2 c2) n2 (u8s (xs ++ beB (v / 256 ^ j) (s - j))) ∧ Below w.heap.size w wr
theorem PutRel.start {xs : List UInt8} {v s : Nat} {w w1 : World} {A : Option Addr} {n c : Nat} (ho : w1.ownsRow w.heap.size 5 1 (.slice A n c) n (u8s xs)) (hn : n = xs.length) (hb : Below w.heap.size w w1) :
    PutRel xs v s w (.slice A n c) (.int .i64 ((s : Int) - 1)) w1 := by
  refine ⟨s, n, c, A, Nat.le_refl _, rfl, rfl, by omega, ?_, hb⟩
  rw [Nat.sub_self]
  simpa [beB] using ho
theorem u8s_append (a b : List UInt8) : u8s (a ++ b) = u8s a ++ u8s b := by simp [u8s]
theorem PutRel.step {xs : List UInt8} {v s j n2 : Nat} {b : UInt8} {w w2 : World} {v2 : Value} (hj : j + 1 ≤ s) (hs : s ≤ 8) (hb : b = UInt8.ofNat (v / 256 ^ j % 256))
    (ho : w2.ownsRow w.heap.size 5 1 v2 (n2 + 1) (u8s (xs ++ beB (v / 256 ^ (j + 1)) (s - (j + 1))) ++ [.int .u8 (b.toNat : Int)])) (hbel : Below w.heap.size w w2) :
    PutRel xs v s w v2 (.int .i64 ((j : Int) - 1)) w2 := by
  obtain ⟨A, c, rfl⟩ := own_form ho
  have hs' : s - j = (s - (j + 1)) + 1 := by omega
  have e : u8s (xs ++ beB (v / 256 ^ (j + 1)) (s - (j + 1))) ++ [.int .u8 (b.toNat : Int)] = u8s (xs ++ beB (v / 256 ^ j) (s - j)) := by
    rw [hs', beB_step, ← hb, ← List.append_assoc, u8s_append _ [b]]
    rfl
  rw [e] at ho
  refine ⟨j, n2 + 1, c, A, by omega, rfl, rfl, ?_, ho, hbel⟩
  have h1 := ho.1
  rw [u8s_length, List.length_append, beB_length] at h1
  omega
theorem PutRel.end_ {xs : List UInt8} {v s n2 c2 : Nat} {A2 : Option Addr} {w wr : World} (ho : wr.ownsRow w.heap.size 5 1 (.slice A2 n2 c2) n2 (u8s (xs ++ beB (v / 256 ^ 0) (s - 0)))) (hb : Below w.heap.size w wr) :
    Own8 (xs ++ beB v s) w (.returned (.slice A2 n2 c2)) wr := by
  rw [Nat.pow_zero, Nat.div_one, Nat.sub_zero] at ho
  exact Own8.mk ho hb
theorem new_byte (w : World) (b : UInt8) : Reads (w.alloc (.cells #[.int .u8 (b.toNat : Int)] 5)) (w.heap.size + 1) 1 (some ⟨w.heap.size, 0, none⟩) 1 [.int .u8 (b.toNat : Int)] := by
  have := Reads.made w #[.int .u8 (b.toNat : Int)] 5 (0, 0) 1 1 _ rfl rfl
  simpa using this
set_option maxHeartbeats 800000 in
theorem putNum_yes (xs : List UInt8) (A : Option Addr) (n cap : Nat) (v s : Nat) (w : World) (hr : Reads w w.heap.size 1 A n (u8s xs)) (hn : n ≤ 140737488354000) (hs1 : 1 ≤ s) (hs2 : s ≤ 8) (_hv : v ≤ 9223372036854775807) (hvs : v < 256 ^ s) :
    Calls Try.prog 17 #[.slice A n cap, .int .i64 v, .int .i64 s] w (Own8 (xs ++ beB v s) w) := by
  obtain ⟨i0, hi0, hz0, hz1, hz2⟩ := info_parts info_u8
  have hl := hr.len8
  have hq : (v : Int) / 2 ^ (8 * s) = 0 := by
    have : v / 2 ^ (8 * s) = 0 := by rw [pow_two56]; exact Nat.div_eq_of_lt hvs
    have h2 : (v : Int) / 2 ^ (8 * s) = ((v / 2 ^ (8 * s) : Nat) : Int) := by simp
    rw [h2, this]; rfl
  have hv0 : decide ((v : Int) < 0) = false := by simp
  have hs01 : decide ((s : Int) < 1) = false := by simp; omega
  have hs08 : decide (8 < (s : Int)) = false := by simp; omega
  clear hvs
  have hc : s < 8 ∨ 8 ≤ s := by omega
  rcases hc with hc | hc
  all_goals
    go_enter Try.func17, Try.ntmps17
    go_wp2_with fail
    refine (clone8_any xs A n cap _ hr (by omega)).mono ?_
    rintro e w1 ⟨A1, c1, rfl, ho, hb⟩
    have HL := Lib.hid hl
    go_wp2
    clear hq hv0 hs01 hs08 hl
    go_loopw [7, 8] (PutRel xs v s w) (fun _ k _ => (intOf k + 1).toNat)
    case atStart => exact PutRel.start (by rw [HL.out] at ho; exact ho) HL.out.symm hb
    case round =>
      obtain ⟨j, n2, c2, A2, hj, rfl, rfl, hn2, hown, hbel⟩ := hrel
      have hn3 : n2 ≤ n + 8 := by have := HL.out; omega
      rcases j with _ | j
      · go_wp2
        go_ret
        exact PutRel.end_ hown hbel
      · obtain ⟨q, hq⟩ : ∃ q : Nat, q = v / 256 ^ j := ⟨_, rfl⟩
        have hq1 : (v : Int) / 2 ^ (8 * j) = (q : Int) := by
          rw [hq, ← pow_two56]; simp
        obtain ⟨b, hb2⟩ : ∃ b : UInt8, b = UInt8.ofNat (q % 256) := ⟨_, rfl⟩
        have hq2 : (q : Int) % 256 = (b.toNat : Int) := by rw [hb2]; exact u8_ofNat_int q
        have HB : Hid (b = UInt8.ofNat (v / 256 ^ j % 256)) := by show b = _; rw [hb2, hq]
        clear hq hb2
        go_wp2_with (at_builtin; refine wpList_append_any _ rfl (.tmp 39) (.tmp 45) _ rfl w.heap.size 5 i0 _ 1 1 Try.underlying22 hi0 hz0 hz1 hz2 rfl (by omega) (.slice A2 n2 c2) n2 _ rfl (hown.alloc _) (wr.heap.size + 1) (some ⟨wr.heap.size, 0, none⟩) 1 1 _ rfl (new_byte wr b) (by simp [Value.oneCell']) (by simp only [maxLen]; omega) (by omega) (by simp; have := hbel.size; omega) ?_
                     intro v2 w2 hown2 hg2 hat2)
        have hbel2 : Below w.heap.size w w2 := (hbel.alloc hbel.size _).grown hg2 (by simp; have := hbel.size; omega) (fun k hk => (hown.lt k hk).1)
        have hrel2 := Lib.hid (PutRel.step (by omega) (by omega) HB.out hown2 hbel2)
        clear hown2 hg2 hat2 hbel2 hown hbel
        go_wp2
        exact ⟨hrel2.out, by simp [intOf]⟩
theorem putNum_any (xs : List UInt8) (A : Option Addr) (n cap : Nat) (v s : Int) (w : World) (hr : Reads w w.heap.size 1 A n (u8s xs)) (hn : n ≤ 140737488354000) (hv : v ≤ 9223372036854775807) :
    Calls Try.prog 17 #[.slice A n cap, .int .i64 v, .int .i64 s] w (Own8 (putN xs v s) w) := by
  unfold putN
  by_cases h : v < 0 ∨ s < 1 ∨ 8 < s
  · rw [if_pos (by omega)]
    exact putNum_no xs A n cap v s w hr hn h
  · obtain ⟨v, rfl⟩ := Int.eq_ofNat_of_zero_le (a := v) (by omega)
    obtain ⟨s, rfl⟩ := Int.eq_ofNat_of_zero_le (a := s) (by omega)
    by_cases h2 : 256 ^ s ≤ v
    · rw [if_pos (by right; right; right; exact h2)]
      have hs : s < 8 := by
        rcases Nat.lt_or_ge s 8 with h8 | h8
        · exact h8
        · have : (256 : Nat) ^ 8 ≤ 256 ^ s := Nat.pow_le_pow_right (by omega) h8
          omega
      exact putNum_big xs A n cap v s w hr hn (by omega) hs h2
    · rw [if_neg (by intro hh; rcases hh with hh | hh | hh | hh <;> first | omega | exact h2 hh)]
      exact putNum_yes xs A n cap v s w hr hn (by omega) (by omega) (by omega) (by omega)
end Go.Proofs.Ytkhgjmbpodkdnaa
