/- frame.Seal: the walk. -/
import Derived.Test.YtkhgjmbpodkdnaaPutNum
import Derived.Test.YtkhgjmbpodkdnaaZeros
import Derived.Test.YtkhgjmbpodkdnaaSealLaw
namespace Go.Proofs.Ytkhgjmbpodkdnaa
open Go.RowKit
def SealPost (kind : Int) (data : List UInt8) (w : World) (e : Ending) (w' : World) : Prop :=
  ∃ A c, e = .returned (.tuple #[.slice A (sealL kind data).length c, .int .i64 (sealE kind data)]) ∧ w'.ownsRow w.heap.size 5 1 (.slice A (sealL kind data).length c) (sealL kind data).length (u8s (sealL kind data)) ∧ Below w.heap.size w w'
theorem SealPost.no {kind : Int} {data : List UInt8} {w : World} {x : Int} (h : sealE kind data = x ∧ sealL kind data = []) : SealPost kind data w (.returned (.tuple #[.slice none 0 0, .int .i64 x])) w := by
  unfold SealPost
  rw [h.1, h.2]
  exact ⟨none, 0, rfl, World.ownsRow_nil _ _ _ _, Below.refl _ _⟩
theorem SealPost.yes {kind : Int} {data l : List UInt8} {w w' : World} {v : Value} {n : Nat} (h : sealE kind data = 0 ∧ sealL kind data = l) (ho : w'.ownsRow w.heap.size 5 1 v n (u8s l)) (hb : Below w.heap.size w w') :
    SealPost kind data w (.returned (.tuple #[v, .int .i64 0])) w' := by
  obtain ⟨A, c, he, ho, hb⟩ := Own8.mk ho hb
  unfold SealPost
  rw [h.1, h.2]
  injection he with he
  exact ⟨A, c, by rw [he], ho, hb⟩
theorem u8s_zeros (m : Nat) : u8s (List.replicate m 0) = List.replicate m (.int .u8 0) := by simp [u8s]
set_option maxHeartbeats 400000 in
theorem seal_no (xs : List UInt8) (A : Option Addr) (n cap : Nat) (kind : Int) (w : World) (hl : xs.length = n) (_h : (kind < 1 ∨ 255 < kind) ∨ 505 < n) :
    Calls Try.prog 15 #[.int .i64 kind, .slice A n cap] w (SealPost kind xs w) := by
  by_cases h1 : kind < 1
  · go_enter Try.func15, Try.ntmps15
    go_wp2
    go_ret2
    exact SealPost.no (sealE_arg (.inl h1))
  by_cases h2 : 255 < kind
  · go_enter Try.func15, Try.ntmps15
    go_wp2
    go_ret2
    exact SealPost.no (sealE_arg (.inr h2))
  · have h3 : 505 < n := by rcases _h with h | h <;> omega
    go_enter Try.func15, Try.ntmps15
    go_wp2
    go_ret2
    exact SealPost.no (sealE_large (by omega) (by omega))
theorem new_byte8 (w : World) (b : UInt8) : Reads (w.alloc (.cells #[.int .u8 (b.toNat : Int)] 5)) (w.alloc (.cells #[.int .u8 (b.toNat : Int)] 5)).heap.size 1 (some ⟨w.heap.size, 0, none⟩) 1 (u8s [b]) :=
  Reads.made w _ _ _ 1 1 _ rfl rfl
set_option maxHeartbeats 800000 in
theorem seal_yes (xs : List UInt8) (A : Option Addr) (n cap : Nat) (b : UInt8) (w : World) (hr : Reads w w.heap.size 1 A n (u8s xs)) (hn : n ≤ 505) (hk1 : 1 ≤ b.toNat) :
    Calls Try.prog 15 #[.int .i64 (b.toNat : Int), .slice A n cap] w (SealPost (b.toNat : Int) xs w) := by
  obtain ⟨i0, hi0, hz0, hz1, hz2⟩ := info_parts info_u8
  have hl := hr.len8
  have hfin := Lib.hid (sealE_ok (b := b) (data := xs) hk1 (by omega))
  have hk2 : b.toNat ≤ 255 := by have := b.toNat_lt; omega
  obtain rfl : n = xs.length := hl.symm
  clear hl
  go_enter Try.func15, Try.ntmps15
  go_wp2_with fail
  refine (putNum_any [b] _ 1 1 xs.length 2 _ (new_byte8 w b) (by omega) (by omega)).mono ?_
  rw [putN_two b _ hn]
  rintro e w1 ⟨A1, c1, rfl, ho1, hb1⟩
  have hB1 : Below w.heap.size w w1 := ((Below.refl _ _).alloc (Nat.le_refl _) _).trans (hb1.mono (by simp))
  have hr1 := hr.on hB1
  have ho1' := own_mono ho1 (base' := w.heap.size) (by simp)
  clear ho1 hb1
  obtain ⟨l1, hl1⟩ : ∃ l1, l1 = [b] ++ beB xs.length 2 := ⟨_, rfl⟩
  have hn1 : l1.length = 3 := by rw [hl1]; simp [beB_length]
  rw [← hl1, hn1] at ho1' ⊢
  have HL1 := Lib.hid hl1
  clear hl1 hn1
  go_wp2_with (first
    | (at_builtin; refine wpList_append_any _ rfl (.tmp 23) (.tmp 24) _ rfl w.heap.size 5 i0 _ 1 1 Try.underlying22 hi0 hz0 hz1 hz2 rfl (by omega) (.slice A1 3 c1) 3 _ rfl ho1' w1.heap.size A xs.length cap (u8s xs) rfl hr1 (u8s_one xs) (by simp only [maxLen]; omega) (by omega) hB1.size ?_
       intro v2 w2 hown2 hg2 hat2
       obtain ⟨A2, c2, rfl⟩ := own_form hown2
       obtain ⟨g2, rfl, hg2b, hg2l⟩ := own_some hown2 (by omega)
       have hB2 : Below w.heap.size w w2 := hB1.grown hg2 hB1.size (fun k hk => (ho1'.lt k hk).1))
    | (at_builtin; refine wpList_append_zeros _ rfl (.tmp 26) (.tmp 29) _ _ rfl w.heap.size 5 i0 (.int .u8 0) .i64 .i64 1 Try.underlying22 Try.underlying3 hi0 hz0 hz1 hz2 rfl rfl ⟨g2, 0, none⟩ (3 + xs.length) c2 _ rfl hown2 (505 - xs.length) _ rfl (by omega) (by simp only [maxLen]; omega) (by omega) hB2.size ?_
       intro v3 w3 hown3 hg3 hat3))
  have hB3 : Below w.heap.size w w3 := hB2.grown hg3 hB2.size (fun k hk => by simp only [Option.some.injEq] at hk; omega)
  have e3 : 3 + xs.length + (505 - xs.length) = 508 := by omega
  have l3 : u8s l1 ++ u8s xs ++ List.replicate (505 - xs.length) (.int .u8 0) = u8s (restB b xs) := by rw [HL1.out, ← u8s_append, ← u8s_zeros, ← u8s_append]; rfl
  rw [e3, l3] at hown3
  obtain ⟨A3, c3, rfl⟩ := own_form hown3
  have hr3 := Reads.of_own hown3
  clear hg3 hat3 hown2 e3 l3 hg2b hg2l hg2 hat2 ho1' hr1
  refine (sum_any (restB b xs) _ 508 c3 _ hr3 (by omega)).mono ?_
  rintro e w4 ⟨rfl, hb4⟩
  have hsum : (crcS (restB b xs) : Int) ≤ 4294967295 := by unfold crcS; omega
  have hr4 := hr3.on hb4
  have hB4 := below_on hB3 (Nat.le_refl _) hb4
  go_wp2_with fail
  refine (putNum_any [] none 0 0 (crcS (restB b xs) : Nat) 4 _ Reads.none_ (by omega) (by omega)).mono ?_
  rw [putN_sum]
  rintro e w5 ⟨A5, c5, rfl, ho5, hb5⟩
  have hr5 := hr4.on hb5
  have hB5 := below_on hB4 (Nat.le_refl _) hb5
  have ho5' := own_mono ho5 (Nat.le_trans hB4.size (Nat.le_refl _))
  rw [beB_length] at ho5' ⊢
  clear ho5 hb5 hr4 hr3 hown3 hb4
  go_wp2_with (at_builtin; refine wpList_append_any _ rfl (.tmp 34) (.tmp 35) _ rfl w.heap.size 5 i0 _ 1 1 Try.underlying22 hi0 hz0 hz1 hz2 rfl (by omega) (.slice A5 4 c5) 4 _ rfl ho5' w5.heap.size A3 508 c3 _ rfl hr5 (u8s_one _) (by simp only [maxLen]; omega) (by omega) hB5.size ?_
               intro v6 w6 hown6 hg6 hat6)
  have hB6 : Below w.heap.size w w6 := hB5.grown hg6 hB5.size (fun k hk => (ho5'.lt k hk).1)
  go_ret2
  refine SealPost.yes hfin.out (n := 512) ?_ hB6
  rw [← u8s_append] at hown6
  exact hown6
theorem seal_any (xs : List UInt8) (A : Option Addr) (n cap : Nat) (kind : Int) (w : World) (hr : Reads w w.heap.size 1 A n (u8s xs)) :
    Calls Try.prog 15 #[.int .i64 kind, .slice A n cap] w (SealPost kind xs w) := by
  by_cases h : (kind < 1 ∨ 255 < kind) ∨ 505 < n
  · exact seal_no xs A n cap kind w hr.len8 h
  · obtain ⟨k, rfl⟩ := Int.eq_ofNat_of_zero_le (a := kind) (by omega)
    have e : k = (UInt8.ofNat k).toNat := by rw [UInt8.toNat_ofNat']; omega
    rw [e]
    exact seal_yes xs A n cap (UInt8.ofNat k) w hr (by omega) (by omega)
end Go.Proofs.Ytkhgjmbpodkdnaa
