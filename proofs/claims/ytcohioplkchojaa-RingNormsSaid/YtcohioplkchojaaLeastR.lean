/- ref02.Least: the walk. -/
import Derived.Test.YtcohioplkchojaaLeastLaw
import Derived.Test.YtcohioplkchojaaOnR
import Derived.Test.YtcohioplkchojaaCollect
namespace Go.Proofs.Ytcohioplkchojaa
open Go.RowKit
theorem less_ord (a b : Pt) : lessB a b = decide (ordI a b < 0) := by
  unfold lessB ordI orI
  rw [decide_eq_decide]
  rcases cmpI_cases a.x b.x with ⟨h, e⟩ | ⟨h, e⟩ | ⟨h, e⟩ <;> rcases cmpI_cases a.y b.y with ⟨h', e'⟩ | ⟨h', e'⟩ | ⟨h', e'⟩ <;> rw [e, e'] <;> simp <;> omega
theorem leastN_step {xs : List Pt} {m : Nat} : leastN xs (m + 1) = if lessB (ptAt xs m) (ptAt xs (leastN xs m)) = true then m else leastN xs m := by
  rw [less_ord, leastN]
  simp only [decide_eq_true_eq]
theorem leastN_le (xs : List Pt) (m : Nat) : leastN xs m ≤ m := by
  rcases Nat.eq_zero_or_pos m with h | h
  · subst h; exact Nat.le_refl _
  · exact Nat.le_of_lt (leastN_lt xs h)
abbrev Hold22 (W V : World) (a1 a2 : Addr) (p q : Pt) : Prop := V.cell? a1 = some (.int .i64 p.x) ∧ V.cell? ⟨a1.block, a1.off + 1, none⟩ = some (.int .i64 p.y) ∧ V.cell? a2 = some (.int .i64 q.x) ∧ V.cell? ⟨a2.block, a2.off + 1, none⟩ = some (.int .i64 q.y) ∧ Below W.heap.size W V
theorem held22 {W V V' : World} {a1 a2 : Addr} {p q : Pt} (hh : a1.block < W.heap.size ∧ a2.block < W.heap.size) (hs : V.cell? a1 = some (.int .i64 p.x) ∧ V.cell? ⟨a1.block, a1.off + 1, none⟩ = some (.int .i64 p.y) ∧ V.cell? a2 = some (.int .i64 q.x) ∧ V.cell? ⟨a2.block, a2.off + 1, none⟩ = some (.int .i64 q.y) ∧ Below W.heap.size W V) (hb : Below V.heap.size V V') :
    V'.cell? a1 = some (.int .i64 p.x) ∧ V'.cell? ⟨a1.block, a1.off + 1, none⟩ = some (.int .i64 p.y) ∧ V'.cell? a2 = some (.int .i64 q.x) ∧ V'.cell? ⟨a2.block, a2.off + 1, none⟩ = some (.int .i64 q.y) ∧ Below W.heap.size W V' := by
  obtain ⟨h1, h2⟩ := hh
  obtain ⟨c1, c2, c3, c4, c5⟩ := hs
  have := c5.size
  exact ⟨(hb.cell (p := a1) (by omega)).trans c1, (hb.cell (p := ⟨a1.block, a1.off + 1, none⟩) (by simp only; omega)).trans c2, (hb.cell (p := a2) (by omega)).trans c3, (hb.cell (p := ⟨a2.block, a2.off + 1, none⟩) (by simp only; omega)).trans c4, below_on c5 (Nat.le_refl _) hb⟩
set_option maxRecDepth 100000 in
set_option maxHeartbeats 1600000 in
theorem leastR_any (xs : List Pt) (A : Option Addr) (n cap : Nat) (w : World) (hr : Reads w w.heap.size 2 A n (ptsV xs)) (hn : n ≤ 128) :
    Calls Try.prog 46 #[.slice A n cap] w fun e w' => ∃ A' c, e = .returned (.slice A' n c) ∧ w'.ownsRow w.heap.size 35 2 (.slice A' n c) n (ptsV (rot (leastN xs n) xs)) ∧ Below w.heap.size w w' := by
  obtain ⟨i0, hi0, hz0, hz1, hz2⟩ := info_parts info_pt
  have hl : xs.length = n := hr.lenPt
  have HR := Lib.hid (And.intro hr hl)
  clear hr hl
  go_enter Try.func46, Try.ntmps46
  go_wp2_with fail
  go_loopw [3, 4] (fun kv i wr => ∃ m : Nat, m ≤ n ∧ i = .int .i64 (m : Int) ∧ kv = .int .i64 (leastN xs m : Int) ∧ Below w.heap.size w wr) (fun _ i _ => n - (intOf i).toNat)
  case atStart => exact ⟨0, Nat.zero_le _, rfl, rfl, Below.refl _ _⟩
  case round =>
    obtain ⟨m, hm, rfl, rfl, hbel⟩ := hrel
    by_cases hlt : m < n
    · have hlt' : (m : Int) < (n : Int) := by omega
      have hkn : leastN xs m < n := by have := leastN_le xs m; omega
      have hw1 : IntKind.i64.wrap ((m : Int) + 1) = (m : Int) + 1 := by rw [IntKind.wrap_i64]; omega
      have hst := leastN_step (xs := xs) (m := m)
      generalize leastN xs m = k at *
      have hkn' : (k : Int) < (n : Int) := by omega
      obtain ⟨ad, rfl, -, -, -, -⟩ := HR.out.1.pt hlt
      obtain ⟨hbd, p1, p2⟩ := ((HR.out.1.below hbel).more hbel.size).ptA hlt
      obtain ⟨-, q1, q2⟩ := ((HR.out.1.below hbel).more hbel.size).ptA hkn
      have kL := fun V => lessR6 (ptAt xs m).x (ptAt xs m).y (ptAt xs k).x (ptAt xs k).y V
      have hP0 : Hold22 wr wr.drew (ad.add (m * 2)) (ad.add (k * 2)) (ptAt xs m) (ptAt xs k) := ⟨p1, p2, q1, q2, (Below.refl _ _).drew⟩
      have hltM : (ad.add (m * 2)).block < wr.heap.size ∧ (ad.add (k * 2)).block < wr.heap.size := by simp only [block_of_add]; exact ⟨hbd, hbd⟩
      have HB := Lib.hid hbel
      generalize ptAt xs m = P at *
      generalize ptAt xs k = Q at *
      have kL' : ∀ V, Calls Try.prog 74 #[.agg #[.int .i64 P.x, .int .i64 P.y], .agg #[.int .i64 Q.x, .int .i64 Q.y]] V fun e w' => e = .returned (.bool (lessB P Q)) ∧ Below V.heap.size V w' := kL
      clear kL hbel p1 p2 q1 q2 hbd
      generalize lessB P Q = lb at *
      rcases lb with _ | _
      all_goals
        have HST := Lib.hid hst
        clear hst
        go_wp2_with fail
        go_region_held3 (fun V => V.cell? (ad.add (m * 2)) = some (.int .i64 P.x) ∧ V.cell? ⟨(ad.add (m * 2)).block, (ad.add (m * 2)).off + 1, none⟩ = some (.int .i64 P.y) ∧ V.cell? (ad.add (k * 2)) = some (.int .i64 Q.x) ∧ V.cell? ⟨(ad.add (k * 2)).block, (ad.add (k * 2)).off + 1, none⟩ = some (.int .i64 Q.y) ∧ Below wr.heap.size wr V)
          (first | with_reducible exact hP0 | with_reducible exact held22 hltM (by assumption) (by assumption))
          (first
            | (go_simp; go_at_call 74; (with_reducible refine (kL' _).mono ?_); rintro e w' ⟨rfl, hb'⟩; try dsimp only))
        clear hP0
        obtain ⟨-, -, -, -, hbV⟩ := (by assumption : Hold22 wr _ (ad.add (m * 2)) (ad.add (k * 2)) P Q)
        have HV := Lib.hid (below_on HB.out (Nat.le_refl _) hbV)
        clear hbV
        go_wp2_with fail
        go_roundw
        case rel => exact ⟨m + 1, by omega, by go_num, by rw [HST.out]; rfl, HV.out⟩
        case measure => simp [intOf]; omega
    · have hmn : m = n := by omega
      subst hmn
      have hkm : 0 < m → leastN xs m < m := fun h => leastN_lt xs h
      generalize hke : leastN xs m = k at *
      have HKE := Lib.hid hke
      clear hke
      have HB := Lib.hid hbel
      have hown0 : wr.ownsRow w.heap.size 35 2 (.slice none 0 0) 0 (ptsV ((rot k xs).take 0)) := by simp [ptsV, World.ownsRow_nil]
      clear hbel
      go_wp2_with fail
      obtain ⟨wo, hwo⟩ : ∃ wo : World, wo = wr := ⟨_, rfl⟩
      rw [← hwo] at HB hown0
      rw [← hwo]
      clear hwo
      go_loopw [5, 6] (fun s i wx => ∃ j : Nat, j ≤ m ∧ i = .int .i64 (j : Int) ∧ (∃ A' c, s = .slice A' j c ∧ wx.ownsRow w.heap.size 35 2 (.slice A' j c) j (ptsV ((rot k xs).take j))) ∧ Below w.heap.size w wx) (fun _ i _ => m - (intOf i).toNat)
      case atStart => exact ⟨0, Nat.zero_le _, rfl, ⟨none, 0, rfl, hown0⟩, HB.out⟩
      case round =>
        clear hown0
        obtain ⟨j, hj, rfl, ⟨A', c, rfl, hown⟩, hbel⟩ := hrel
        by_cases hlt2 : j < m
        · have hlt' : (j : Int) < (m : Int) := by omega
          have hkm' := hkm (by omega)
          have hw1 : IntKind.i64.wrap ((j : Int) + 1) = (j : Int) + 1 := by rw [IntKind.wrap_i64]; omega
          have hw2 : IntKind.i64.wrap ((k : Int) + (j : Int)) = (k : Int) + (j : Int) := IntWalk.i64_in _ (by omega)
          have hm0 : ¬ m = 0 := by omega
          have hm1 : ¬ (m : Int) = 0 := by omega
          have htm : ((k : Int) + (j : Int)).tmod (m : Int) = (((k + j) % m : Nat) : Int) := by
            rw [show (k : Int) + (j : Int) = ((k + j : Nat) : Int) by omega]
            rfl
          have hrl : (k + j) % m < m := Nat.mod_lt _ (by omega)
          have htk : (rot k xs).take (j + 1) = (rot k xs).take j ++ [ptAt xs ((k + j) % m)] := by
            have hrL : (rot k xs).length = m := by rw [rot_len (by have := HR.out.2; omega)]; exact HR.out.2
            rw [List.take_succ_eq_append_getElem (by omega), ← ptAt_lt (by omega), ptAt_rot (by have := HR.out.2; omega) (by have := HR.out.2; omega), HR.out.2]
          generalize (k + j) % m = r at *
          have hrl' : (r : Int) < (m : Int) := by omega
          have hwr : IntKind.i64.wrap (r : Int) = (r : Int) := IntWalk.i64_in _ (by omega)
          obtain ⟨ad, rfl, -, -, -, -⟩ := HR.out.1.pt hlt2
          obtain ⟨-, p1, p2⟩ := ((HR.out.1.below hbel).more hbel.size).ptA hrl
          generalize ptAt xs r = P at *
          have HT := Lib.hid htk
          clear htk
          go_wp2_with (at_builtin; refine wpList_append_any _ rfl (.tmp 29) (.tmp 39) _ rfl w.heap.size 35 i0 _ 2 16 Try.underlying23 hi0 hz0 hz1 hz2 rfl (by omega) (.slice A' j c) j _ rfl (hown.alloc _) (wr.alloc (.cells #[.int .i64 P.x, .int .i64 P.y] 35)).heap.size (some ⟨wr.heap.size, 0, none⟩) 1 1 (ptsV [P]) rfl (Reads.made wr _ _ _ 2 1 _ rfl rfl) (ptsV_one _) (by simp only [maxLen]; omega) (by omega) (by simp; have := hbel.size; omega) ?_
                       intro v6 w6 hown6 hg6 hat6)
          have hB6 : Below w.heap.size w w6 := (hbel.alloc hbel.size _).grown hg6 (by simp; have := hbel.size; omega) (fun g hg => (hown.lt g hg).1)
          rw [← ptsV_append, ← HT.out] at hown6
          obtain ⟨A6, c6, rfl⟩ := own_form hown6
          have H6 := Lib.hid (And.intro hown6 hB6)
          clear hown6 hB6 hg6 hat6 hown hbel p1 p2
          go_wp2_with fail
          go_roundw
          case rel => exact ⟨j + 1, by omega, by go_num, ⟨A6, c6, rfl, H6.out.1⟩, H6.out.2⟩
          case measure => simp [intOf]; omega
        · have hjm : j = m := by omega
          subst hjm
          have hrL : (rot k xs).length = j := by
            rcases Nat.eq_zero_or_pos j with h | h
            · have h2 := HR.out.2
              rw [h] at h2
              rw [List.eq_nil_of_length_eq_zero h2, h]
              simp [rot]
            · rw [rot_len (by have := HR.out.2; have := hkm h; omega)]; exact HR.out.2
          rw [List.take_of_length_le (by omega)] at hown
          have H7 := Lib.hid (And.intro hown hbel)
          clear hown hbel
          go_wp2_with fail
          go_ret
          exact ⟨A', c, rfl, by rw [HKE.out]; exact H7.out⟩
end Go.Proofs.Ytcohioplkchojaa
