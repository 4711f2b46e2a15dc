/- slices.Clone at []byte: the walk. -/
import Derived.Test.YtkhgjmbpodkdnaaOwn8
import Derived.Test.YtkhgjmbpodkdnaaWords
import Derived.Lib.SliceRun
namespace Go.Proofs.Ytkhgjmbpodkdnaa
open Go.RowKit
/-- A slice value that a law on an owned row leaves, as an address, a length and a capacity. -/
theorem own_form {w : World} {base : Nat} {e : TypeId} {size n : Nat} {v : Value} {xs : List Value} (h : w.ownsRow base e size v n xs) : ∃ A c, v = .slice A n c := by
  rcases h.2 with ⟨rfl, rfl⟩ | ⟨g, c, cur, rfl, _⟩
  · exact ⟨none, 0, rfl⟩
  · exact ⟨_, c, rfl⟩
theorem Own8.mk {xs : List UInt8} {w w' : World} {v : Value} {n : Nat} (ho : w'.ownsRow w.heap.size 5 1 v n (u8s xs)) (hb : Below w.heap.size w w') : Own8 xs w (.returned v) w' := by
  obtain ⟨A, c, rfl⟩ := own_form ho
  have hl : xs.length = n := by have := ho.1; rw [u8s_length] at this; omega
  subst hl
  exact ⟨A, c, rfl, ho, hb⟩
set_option maxHeartbeats 400000 in
theorem clone8_some (xs : List UInt8) (a : Addr) (n cap : Nat) (w : World) (hr : Reads w w.heap.size 1 (some a) n (u8s xs)) (hn : n ≤ 140737488355000) :
    Calls Try.prog 23 #[.slice (some a) n cap] w (Own8 xs w) := by
  obtain ⟨i0, hi0, hz0, hz1, hz2⟩ := info_parts info_u8
  have hl := hr.len8
  have heq := fun (W : World) => Lib.run_eql_slice_nil (P := Try.prog) W 22 5 (some a) n cap 0 0 Try.underlying22
  have hown0 := World.ownsRow_made (base := w.heap.size) (e := 5) (size := 1) w #[] 0 (Nat.le_refl _) (by simp [maxLen]) rfl
  have hb0 : Below w.heap.size w (w.alloc (.cells #[] 5)) := (Below.refl _ _).alloc (Nat.le_refl _) _
  go_enter Try.func23, Try.ntmps23
  go_wp2_with (at_builtin; refine wpList_append_any _ rfl (.tmp 5) (.tmp 6) _ rfl w.heap.size 5 i0 _ 1 1 Try.underlying22 hi0 hz0 hz1 hz2 rfl (by omega) (.slice (some ⟨w.heap.size, 0, none⟩) 0 0) 0 [] rfl hown0 w.heap.size (some a) n cap (u8s xs) rfl (hr.below hb0) (u8s_one xs) (by simp only [maxLen]; omega) (by omega) hb0.size ?_
               intro v2 w2 hown2 hg2 hat2)
  go_ret
  simp only [Nat.zero_add, List.nil_append] at hown2
  exact Own8.mk hown2 (hb0.grown hg2 hb0.size (by intro k hk; simp [Value.ownBlock] at hk; omega))
theorem clone8_none (cap : Nat) (w : World) :
    Calls Try.prog 23 #[.slice none 0 cap] w (Own8 [] w) := by
  have heq := fun (W : World) => Lib.run_eql_slice_nil (P := Try.prog) W 22 5 none 0 cap 0 0 Try.underlying22
  go_enter Try.func23, Try.ntmps23
  go_wp2_with fail
  go_ret
  exact Own8.mk (World.ownsRow_nil _ _ _ _) (Below.refl _ _)
theorem clone8_any (xs : List UInt8) (A : Option Addr) (n cap : Nat) (w : World) (hr : Reads w w.heap.size 1 A n (u8s xs)) (hn : n ≤ 140737488355000) :
    Calls Try.prog 23 #[.slice A n cap] w (Own8 xs w) := by
  rcases A with _ | a
  · have hl := hr.len8
    rcases Nat.eq_zero_or_pos n with h0 | h0
    · subst h0
      obtain rfl := List.eq_nil_of_length_eq_zero hl
      exact clone8_none cap w
    · obtain ⟨ad, h, _⟩ := hr.2 h0
      cases h
  · exact clone8_some xs a n cap w hr hn
end Go.Proofs.Ytkhgjmbpodkdnaa
