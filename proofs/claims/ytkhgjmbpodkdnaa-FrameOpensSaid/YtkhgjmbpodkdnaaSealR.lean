/- merestoneref01.Seal: the walk. -/
import Derived.Test.YtkhgjmbpodkdnaaSeal
import Derived.Test.YtkhgjmbpodkdnaaSumR
import Derived.Test.YtkhgjmbpodkdnaaPutNumR
namespace Go.Proofs.Ytkhgjmbpodkdnaa
open Go.RowKit
theorem own_made_full (w : World) (cur : Array Value) (e : TypeId) (base n size : Nat) (xs : List Value) (hb : base ≤ w.heap.size) (hm : n ≤ maxLen) (hs : cur.size = n * size) (hx : cur.toList = xs) :
    (w.alloc (.cells cur e)).ownsRow base e size (.slice (some ⟨w.heap.size, 0, none⟩) n n) n xs := by
  subst hx
  exact ⟨by simpa using hs, .inr ⟨w.heap.size, n, cur, rfl, hb, heap_alloc_new w _, Nat.le_refl _, hm, hs, by rw [List.take_of_length_le (by simp; omega)]⟩⟩
theorem len_bytes (n : Nat) (h : n ≤ 505) : ∃ p q : UInt8, (n : Int) / 256 = (p.toNat : Int) ∧ (n : Int) % 256 = (q.toNat : Int) ∧ Hid (beB n 2 = [p, q]) := by
  refine ⟨UInt8.ofNat (n / 256), UInt8.ofNat (n % 256), ?_, ?_, ?_⟩
  · rw [UInt8.toNat_ofNat']; omega
  · rw [UInt8.toNat_ofNat']; omega
  · show beB n 2 = _
    have e : n / 256 % 256 = n / 256 := by omega
    simp [beB, e]
set_option maxHeartbeats 400000 in
theorem sealR_no (xs : List UInt8) (A : Option Addr) (n cap : Nat) (kind : Int) (w : World) (hl : xs.length = n) (_h : (kind < 1 ∨ 255 < kind) ∨ 505 < n) :
    Calls Try.prog 16 #[.int .i64 kind, .slice A n cap] w (SealPost kind xs w) := by
  by_cases h1 : kind < 1
  · go_enter Try.func16, Try.ntmps16
    go_wp2
    go_ret2
    exact SealPost.no (sealE_arg (.inl h1))
  by_cases h2 : 255 < kind
  · go_enter Try.func16, Try.ntmps16
    go_wp2
    go_ret2
    exact SealPost.no (sealE_arg (.inr h2))
  · have h3 : 505 < n := by rcases _h with h | h <;> omega
    go_enter Try.func16, Try.ntmps16
    go_wp2
    go_ret2
    exact SealPost.no (sealE_large (by omega) (by omega))
/-- What stands at the loop's head: noughts are put behind. -/
def ZeroRel (l : List UInt8) (w : World) (v : Value) (wr : World) : Prop :=
  ∃ (m n c : Nat) (A : Option Addr), v = .slice A n c ∧ Hid (n = l.length + m) ∧ n ≤ 508 ∧ wr.ownsRow w.heap.size 5 1 (.slice A n c) n (u8s (l ++ List.replicate m 0)) ∧ Below w.heap.size w wr
theorem ZeroRel.step {l : List UInt8} {w w2 : World} {v2 : Value} {n m : Nat} (hn : n = l.length + m) (h508 : n < 508) (ho : w2.ownsRow w.heap.size 5 1 v2 (n + 1) (u8s (l ++ List.replicate m 0) ++ [.int .u8 0])) (hb : Below w.heap.size w w2) : ZeroRel l w v2 w2 := by
  obtain ⟨A, c, rfl⟩ := own_form ho
  refine ⟨m + 1, n + 1, c, A, rfl, ?_, by omega, ?_, hb⟩
  · show n + 1 = _; omega
  · have e : u8s (l ++ List.replicate m 0) ++ [.int .u8 0] = u8s (l ++ List.replicate (m + 1) 0) := by
      rw [List.replicate_succ', ← List.append_assoc, u8s_append _ [0]]; rfl
    rw [← e]; exact ho
def lenV : Value → Nat | .slice _ n _ => n | _ => 0
theorem new_zero (w : World) : Reads (w.alloc (.cells #[.int .u8 0] 5)) (w.heap.size + 1) 1 (some ⟨w.heap.size, 0, none⟩) 1 [.int .u8 0] := by
  have := Reads.made w #[.int .u8 0] 5 (0, 0) 1 1 _ rfl rfl
  simpa using this
set_option maxRecDepth 100000 in
set_option maxHeartbeats 800000 in
theorem sealR_yes (xs : List UInt8) (A : Option Addr) (n cap : Nat) (b : UInt8) (w : World) (hr : Reads w w.heap.size 1 A n (u8s xs)) (hn : n ≤ 505) (hk1 : 1 ≤ b.toNat) :
    Calls Try.prog 16 #[.int .i64 (b.toNat : Int), .slice A n cap] w (SealPost (b.toNat : Int) xs w) := by
  obtain ⟨i0, hi0, hz0, hz1, hz2⟩ := info_parts info_u8
  have hl := hr.len8
  have hfin := Lib.hid (sealE_ok (b := b) (data := xs) hk1 (by omega))
  have hk2 : b.toNat ≤ 255 := by have := b.toNat_lt; omega
  obtain rfl : n = xs.length := hl.symm
  clear hl
  obtain ⟨p, q, hp, hq, hpq⟩ := len_bytes xs.length hn
  have hd1 : decide ((b.toNat : Int) < 1) = false := by simp; omega
  have hd2 : decide (255 < (b.toNat : Int)) = false := by simp; omega
  have hd3 : decide (505 < (xs.length : Int)) = false := by simp; omega
  have hown1 := own_made_full w #[.int .u8 (b.toNat : Int), .int .u8 (p.toNat : Int), .int .u8 (q.toNat : Int)] 5 w.heap.size 3 1 (u8s ([b] ++ [p, q])) (Nat.le_refl _) (by simp [maxLen]) rfl rfl
  have hB1 : Below w.heap.size w (w.alloc (.cells #[.int .u8 (b.toNat : Int), .int .u8 (p.toNat : Int), .int .u8 (q.toNat : Int)] 5)) := (Below.refl _ _).alloc (Nat.le_refl _) _
  have hr1 := hr.on hB1
  go_enter Try.func16, Try.ntmps16
  go_wp2_with (at_builtin; refine wpList_append_any _ rfl (.tmp 26) (.tmp 27) _ rfl w.heap.size 5 i0 _ 1 1 Try.underlying22 hi0 hz0 hz1 hz2 rfl (by omega) (.slice (some ⟨w.heap.size, 0, none⟩) 3 3) 3 _ rfl hown1 _ A xs.length cap (u8s xs) rfl hr1 (u8s_one xs) (by simp only [maxLen]; omega) (by omega) hB1.size ?_
               intro v2 w2 hown2 hg2 hat2)
  have hB2 : Below w.heap.size w w2 := hB1.grown hg2 hB1.size (fun k hk => (hown1.lt k hk).1)
  have hst : ZeroRel ([b] ++ beB xs.length 2 ++ xs) w v2 w2 := by
    obtain ⟨A2, c2, rfl⟩ := own_form hown2
    refine ⟨0, 3 + xs.length, c2, A2, rfl, ?_, by omega, ?_, hB2⟩
    · show 3 + xs.length = _
      simp [beB_length]; omega
    · rw [← u8s_append] at hown2
      rw [hpq.out]
      simpa using hown2
  clear hown2 hg2 hat2 hp hq hown1 hB1 hr1 hr hd1 hd2 hd3
  obtain ⟨L, hL⟩ : ∃ L, L = [b] ++ beB xs.length 2 ++ xs := ⟨_, rfl⟩
  rw [← hL] at hst
  have HL := Lib.hid hL
  clear hL
  go_loopw [6] (ZeroRel L w) (fun v _ => 508 - lenV v)
  case atStart => exact hst
  case round =>
    obtain ⟨m, n, c, A2, rfl, hnm, hn508, hown, hbel⟩ := hrel
    by_cases hlt : n < 508
    · go_wp2_with (at_builtin; refine wpList_append_any _ rfl (.tmp 32) (.tmp 33) _ rfl w.heap.size 5 i0 _ 1 1 Try.underlying22 hi0 hz0 hz1 hz2 rfl (by omega) (.slice A2 n c) n _ rfl (hown.alloc _) (wr.heap.size + 1) (some ⟨wr.heap.size, 0, none⟩) 1 1 _ rfl (new_zero wr) (by simp [Value.oneCell']) (by simp only [maxLen]; omega) (by omega) (by simp; have := hbel.size; omega) ?_
                   intro v3 w3 hown3 hg3 hat3)
      have hB3 : Below w.heap.size w w3 := (hbel.alloc hbel.size _).grown hg3 (by simp; have := hbel.size; omega) (fun k hk => (hown.lt k hk).1)
      have hrel2 := Lib.hid (ZeroRel.step hnm.out hlt hown3 hB3)
      obtain ⟨A3, c3, rfl⟩ := own_form hown3
      clear hown3 hg3 hat3 hbel hown
      go_wp2
      go_roundw
      case rel => exact hrel2.out
      case measure => simp [lenV]; omega
    · have hn8 : n = 508 := by omega
      subst hn8
      have hm : m = 505 - xs.length := by have := hnm.out; rw [HL.out] at this; simp [beB_length] at this; omega
      have l3 : L ++ List.replicate m 0 = restB b xs := by rw [HL.out, hm]; rfl
      rw [l3] at hown
      have hr3 := Reads.of_own hown
      clear hm l3 hst hB2 hnm
      go_wp2_with fail
      refine (sumR_any (restB b xs) _ 508 c _ hr3 (by omega)).mono ?_
      rintro e w4 ⟨rfl, rfl⟩
      have hsum : (crcS (restB b xs) : Int) ≤ 4294967295 := by unfold crcS; omega
      go_wp2_with fail
      refine (putNumR_any [] none 0 0 (crcS (restB b xs) : Nat) 4 _ Reads.none_ (by omega) (by omega)).mono ?_
      rw [putN_sum]
      rintro e w5 ⟨A5, c5, rfl, ho5, hb5⟩
      have hr5 := hr3.on hb5
      have hB5 := below_on hbel (Nat.le_refl _) hb5
      have ho5' := own_mono ho5 (Nat.le_trans hbel.size (Nat.le_refl _))
      rw [beB_length] at ho5' ⊢
      clear ho5 hb5 hr3 hown
      go_wp2_with (at_builtin; refine wpList_append_any _ rfl (.tmp 38) (.tmp 39) _ rfl w.heap.size 5 i0 _ 1 1 Try.underlying22 hi0 hz0 hz1 hz2 rfl (by omega) (.slice A5 4 c5) 4 _ rfl ho5' w5.heap.size A2 508 c _ rfl hr5 (u8s_one _) (by simp only [maxLen]; omega) (by omega) hB5.size ?_
                   intro v6 w6 hown6 hg6 hat6)
      have hB6 : Below w.heap.size w w6 := hB5.grown hg6 hB5.size (fun k hk => (ho5'.lt k hk).1)
      go_ret2
      refine SealPost.yes hfin.out (n := 512) ?_ hB6
      rw [← u8s_append] at hown6
      exact hown6
theorem sealR_any (xs : List UInt8) (A : Option Addr) (n cap : Nat) (kind : Int) (w : World) (hr : Reads w w.heap.size 1 A n (u8s xs)) :
    Calls Try.prog 16 #[.int .i64 kind, .slice A n cap] w (SealPost kind xs w) := by
  by_cases h : (kind < 1 ∨ 255 < kind) ∨ 505 < n
  · exact sealR_no xs A n cap kind w hr.len8 h
  · obtain ⟨k, rfl⟩ := Int.eq_ofNat_of_zero_le (a := kind) (by omega)
    have e : k = (UInt8.ofNat k).toNat := by rw [UInt8.toNat_ofNat']; omega
    rw [e]
    exact sealR_yes xs A n cap (UInt8.ofNat k) w hr (by omega) (by omega)
end Go.Proofs.Ytkhgjmbpodkdnaa
