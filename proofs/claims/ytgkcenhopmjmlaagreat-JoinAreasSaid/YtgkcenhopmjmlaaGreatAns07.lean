/- merestone/merestonelaw07.few: the walk. -/
/- merestonelaw07.answers: true. -/
import Derived.Test.YtgkcenhopmjmlaaGreatPlanIn
import Derived.Test.YtgkcenhopmjmlaaGreatMergeP
import Derived.Test.YtgkcenhopmjmlaaGreatFindLaw
namespace Go.Proofs.YtgkcenhopmjmlaaGreat
open Go.RowKit
def SF300 (n n' : Nat) (p : Plan) (w : World) (e : Ending) (w' : World) : Prop := ∃ b : Bool, e = .returned (.bool b) ∧ (b = true → n' ≤ 80 ∧ cornN n p.parcels ≤ 300) ∧ Below w.heap.size w w'
theorem SF300.mk {n n' : Nat} {p : Plan} {w : World} {e : Ending} {w' : World} (b : Bool) (h1 : e = .returned (.bool b)) (h2 : b = true → n' ≤ 80 ∧ cornN n p.parcels ≤ 300) (h3 : Below w.heap.size w w') : SF300 n n' p w e w' := ⟨b, h1, h2, h3⟩
set_option maxRecDepth 100000 in
set_option maxHeartbeats 1600000 in
theorem few7_any (p : Plan) (A A' : Option Addr) (n c n' c' : Nat) (w : World) (h : PlanAt w w.heap.size A n c A' n' c' p) :
    Calls Tryz.prog 15 #[planV A n c A' n' c'] w (SF300 n n' p w) := by
  obtain ⟨hl1, hl2, hl3, hl4⟩ := h.lens
  have HP := Lib.hid (And.intro h.parcs h.fits)
  have hK0 := PlK.new w A n c A' n' c'
  have hB0 := (Below.refl w.heap.size w).alloc (Nat.le_refl _) (.cells #[.slice A n c, .slice A' n' c'] 26)
  have HL2 := Lib.hid hl2
  have H0 := Lib.hid (And.intro hB0 hK0)
  obtain ⟨q1, q2, -⟩ := hK0.facts
  clear hB0 hK0 h hl1 hl2
  go_enter Tryz.func15, Tryz.ntmps15
  go_wp2_with fail
  obtain ⟨wo, hwo⟩ : ∃ wo : World, wo = w.alloc (.cells #[.slice A n c, .slice A' n' c'] 26) := ⟨_, rfl⟩
  rw [← hwo] at H0 q1 q2
  try rw [← hwo]
  clear hwo q1 q2
  go_loopw [3, 4] (fun s i wr => ∃ (k N : Nat), k ≤ n' ∧ i = .int .i64 (k : Int) ∧ s = .int .i64 (N : Int) ∧ N ≤ 17592186044416 ∧ Hid (cornN n p.parcels = cornN N (p.parcels.drop k)) ∧ Below w.heap.size w wr ∧ PlK wr w.heap.size A n c A' n' c') (fun _ i _ => n' - (intOf i).toNat)
  case atStart => exact ⟨0, n, Nat.zero_le _, rfl, rfl, by omega, rfl, H0.out⟩
  case round =>
    clear H0
    obtain ⟨k, N, hk, rfl, rfl, hN, HN, hbel, hK⟩ := hrel
    obtain ⟨q1, q2, -⟩ := hK.facts
    by_cases hgo : k < n' ∧ k < 81 ∧ N ≤ 300
    · obtain ⟨hlt, h81, hlim⟩ := hgo
      have g1 : (k : Int) < (n' : Int) := by omega
      have g2 : (k : Int) < 81 := by omega
      have g3 : (N : Int) ≤ 300 := by omega
      have hw1 : IntKind.i64.wrap ((k : Int) + 1) = (k : Int) + 1 := by rw [IntKind.wrap_i64]; omega
      have hlk : k < p.parcels.length := by have := HL2.out; omega
      obtain ⟨ad, rfl⟩ := HP.out.1.some_ (by omega)
      obtain ⟨-, p1, ⟨Ak, nk, ck, p2, hrk, -, -⟩, p3⟩ := (HP.out.1.below hbel).at_ hlt
      have hf := (HP.out.2.pc hlk).1
      rw [hrk.lenPt] at hf
      have hw2 : IntKind.i64.wrap ((N : Int) + (nk : Int)) = (N : Int) + (nk : Int) := by rw [IntKind.wrap_i64]; omega
      have HD : Hid (cornN n p.parcels = cornN (N + nk) (p.parcels.drop (k + 1))) := by
        have hdk : p.parcels.drop k = pcAt p.parcels k :: p.parcels.drop (k + 1) := by rw [List.drop_eq_getElem_cons hlk, pcAt_lt hlk]
        have := HN.out
        rw [hdk, cornN_cons, hrk.lenPt] at this
        exact this
      have HB := Lib.hid (And.intro hbel hK)
      clear hbel hK HN hrk
      go_wp2_with fail
      go_roundw
      case rel => exact ⟨k + 1, N + nk, by omega, by go_num, by go_num, by omega, HD.out, HB.out⟩
      case measure => simp [intOf]; omega
    · have HB := Lib.hid hbel
      clear hbel hK
      by_cases g5 : N ≤ 300
      · have g6 : (N : Int) ≤ 300 := by omega
        by_cases g7 : n' ≤ 80
        · have g8 : (n' : Int) ≤ 80 := by omega
          have hkn : k = n' := by omega
          subst hkn
          have HC : Hid (cornN n p.parcels ≤ 300) := by
            have := HN.out
            rw [List.drop_of_length_le (by have := HL2.out; omega), cornN_nil] at this
            show _ ≤ _
            omega
          have g9 : ¬ (k : Int) < (k : Int) := by omega
          clear hgo
          go_wp2_with fail
          go_ret
          exact SF300.mk true rfl (fun _ => ⟨g7, HC.out⟩) HB.out
        · have g8 : ¬ (n' : Int) ≤ 80 := by omega
          by_cases g9 : k < n'
          · have g10 : (k : Int) < (n' : Int) := by omega
            have g11 : ¬ (k : Int) < 81 := by omega
            clear hgo
            go_wp2_with fail
            go_ret
            exact SF300.mk false (by first | rfl | (show Ending.returned (.bool (decide ((n' : Int) ≤ 80))) = _; rw [decide_eq_false (by omega)])) (fun h => by cases h) HB.out
          · have g10 : ¬ (k : Int) < (n' : Int) := by omega
            clear hgo
            go_wp2_with fail
            go_ret
            exact SF300.mk false (by first | rfl | (show Ending.returned (.bool (decide ((n' : Int) ≤ 80))) = _; rw [decide_eq_false (by omega)])) (fun h => by cases h) HB.out
      · have g6 : ¬ (N : Int) ≤ 300 := by omega
        by_cases g9 : k < n'
        · have g10 : (k : Int) < (n' : Int) := by omega
          by_cases g11 : k < 81
          · have g12 : (k : Int) < 81 := by omega
            clear hgo
            go_wp2_with fail
            go_ret
            exact SF300.mk false rfl (fun h => by cases h) HB.out
          · have g12 : ¬ (k : Int) < 81 := by omega
            clear hgo
            go_wp2_with fail
            go_ret
            exact SF300.mk false rfl (fun h => by cases h) HB.out
        · have g10 : ¬ (k : Int) < (n' : Int) := by omega
          clear hgo
          go_wp2_with fail
          go_ret
          exact SF300.mk false rfl (fun h => by cases h) HB.out
end Go.Proofs.YtgkcenhopmjmlaaGreat
namespace Go.Proofs.YtgkcenhopmjmlaaGreat
open Go.RowKit Go.Lib
abbrev nulJ : ByteArray := ⟨#[]⟩
def jO : List Pt := [⟨0, 0⟩, ⟨2, 0⟩, ⟨4, 0⟩, ⟨4, 4⟩, ⟨2, 4⟩, ⟨0, 4⟩]
def jA : List Pt := [⟨0, 0⟩, ⟨2, 0⟩, ⟨2, 4⟩, ⟨0, 4⟩]
def jB : List Pt := [⟨2, 0⟩, ⟨4, 0⟩, ⟨4, 4⟩, ⟨2, 4⟩]
def jP : Plan := ⟨jO, [⟨1, jA, nulJ⟩, ⟨2, jB, nulJ⟩]⟩
def jQ : Plan := ⟨jO, [⟨1, jO, nulJ⟩]⟩
theorem pairsOK_of {xs : List Pt} (h : ((List.range xs.length).all fun j => (List.range j).all fun i => pairOK xs i j) = true) : PairsOK xs := fun i j hij hj => by
  rw [List.all_eq_true] at h
  have h1 := h j (List.mem_range.2 hj)
  rw [List.all_eq_true] at h1
  exact h1 i (List.mem_range.2 hij)
theorem pairsE_of {l : List Ed} (h : ((List.range l.length).all fun j => (List.range j).all fun i => okR (edAt l i) (edAt l j)) = true) : PairsE l := fun i j hi hj hij => by
  rw [List.all_eq_true] at h
  have h1 := h j (List.mem_range.2 hj)
  rw [List.all_eq_true] at h1
  have h2 := h1 i (List.mem_range.2 hij)
  rw [edAt_lt hi, edAt_lt hj] at h2
  exact h2
theorem norm_of {xs : List Pt} (h1 : areaE xs = 0) (h2 : 3 ≤ xs.length) (h3 : 0 < areaZ xs) (h4 : ((List.range xs.length).all fun j => (List.range j).all fun i => pairOK xs i j) = true) (h5 : lst xs = xs) : NormedP xs := ⟨checkI_ok h1 h2 h3 (pairsOK_of h4), h5.symm⟩
set_option maxRecDepth 100000 in
theorem jO_norm : NormedP jO := norm_of (by decide) (by decide) (by decide) (by decide) (by decide)
set_option maxRecDepth 100000 in
theorem jA_norm : NormedP jA := norm_of (by decide) (by decide) (by decide) (by decide) (by decide)
set_option maxRecDepth 100000 in
theorem jB_norm : NormedP jB := norm_of (by decide) (by decide) (by decide) (by decide) (by decide)
set_option maxRecDepth 100000 in
theorem jP_sound : SoundP jP := by
  have e : allE jP.parcels = edgesOf jA ++ edgesOf jB := by unfold allE jP; simp
  refine ⟨by decide, jO_norm, fun x hx => ?_, ?_, ?_, by decide⟩
  · have : x = ⟨1, jA, nulJ⟩ ∨ x = ⟨2, jB, nulJ⟩ := by simpa [jP] using hx
    rcases this with rfl | rfl
    · exact jA_norm
    · exact jB_norm
  · unfold MatchP
    rw [e]
    exact ⟨by decide, by decide, by decide⟩
  · rw [e]
    exact pairsE_of (by decide)
set_option maxRecDepth 100000 in
theorem jQ_sound : SoundP jQ := by
  have e : allE jQ.parcels = edgesOf jO := by unfold allE jQ; simp
  refine ⟨by decide, jO_norm, fun x hx => ?_, ?_, ?_, by decide⟩
  · have : x = ⟨1, jO, nulJ⟩ := by simpa [jQ] using hx
    rw [this]
    exact jO_norm
  · unfold MatchP
    rw [e]
    exact ⟨by decide, fun e h => h, by decide⟩
  · rw [e]
    exact pairsE_of (by decide)
theorem jcyc : CycE (joinL jA jB) jO := ⟨by decide, by decide, by decide, by decide⟩
theorem jP_way : joinW jP 0 1 = some jO := by
  have h := wayO_some jcyc
  rw [show lst jO = jO by decide] at h
  exact h
theorem jP_at : atP jP.parcels 1 = 0 ∧ atP jP.parcels 2 = 1 := by decide
theorem jP_join : joinE jP 1 2 = 0 ∧ joinP jP 1 2 = jQ := by
  have h : joinE jP 1 2 = 0 := by
    unfold joinE
    rw [if_pos (planB_of jP_sound), jP_at.1, jP_at.2, if_neg (by decide), if_neg (by decide)]
    unfold joinI
    rw [if_neg (by decide)]
    simp only [show (0 : Int).toNat = 0 from rfl, show (1 : Int).toNat = 1 from rfl, jP_way]
    rw [if_neg (by simp), if_pos]
    exact planB_of jQ_sound
  refine ⟨h, ?_⟩
  unfold joinP
  rw [if_pos h, jP_at.1, jP_at.2]
  simp only [show (0 : Int).toNat = 0 from rfl, show (1 : Int).toNat = 1 from rfl, jP_way]
  rfl
theorem pIn_two {W : World} {B g n1 c1 n2 c2 : Nat} {A1 A2 : Option Addr} {x y : Parc} (hb : Blk W g 38 #[.int .i64 x.id, .slice A1 n1 c1, .string x.owner, .int .i64 y.id, .slice A2 n2 c2, .string y.owner]) (h1 : Reads W B 2 A1 n1 (ptsV x.ring)) (h2 : Reads W B 2 A2 n2 (ptsV y.ring))
    (k1 : n1 ≤ c1 ∧ c1 ≤ 9223372036854775807) (k2 : n2 ≤ c2 ∧ c2 ≤ 9223372036854775807) (hg : g < B) : PIn W B (some ⟨g, 0, none⟩) 2 [x, y] := by
  refine ⟨rfl, fun _ => ⟨_, rfl, hg, fun k hk => ?_⟩⟩
  have hk2 : k = 0 ∨ k = 1 := by omega
  rcases hk2 with rfl | rfl
  · exact ⟨by rw [addr_at, Blk.cell hb]; rfl, ⟨A1, n1, c1, by rw [addr_at, Blk.cell hb]; rfl, h1, k1⟩, by rw [addr_at, Blk.cell hb]; rfl⟩
  · exact ⟨by rw [addr_at, Blk.cell hb]; rfl, ⟨A2, n2, c2, by rw [addr_at, Blk.cell hb]; rfl, h2, k2⟩, by rw [addr_at, Blk.cell hb]; rfl⟩
set_option maxRecDepth 100000 in
set_option maxHeartbeats 1600000 in
theorem ans07_any (w : World) : Calls Tryz.prog 14 #[] w fun e w' => e = .returned (.bool true) ∧ Below w.heap.size w w' := by
  obtain ⟨w0, hw0⟩ : ∃ W, W = w.alloc (.cells #[.int .i64 0, .int .i64 0, .int .i64 2, .int .i64 0, .int .i64 4, .int .i64 0, .int .i64 4, .int .i64 4, .int .i64 2, .int .i64 4, .int .i64 0, .int .i64 4] 53) := ⟨_, rfl⟩
  have hb0 : Below w.heap.size w w0 := by rw [hw0]; exact (Below.refl _ _).alloc (Nat.le_refl _) _
  have hs0 : w0.heap.size = w.heap.size + 1 := by rw [hw0, World.size_alloc]
  obtain ⟨w1, hw1⟩ : ∃ W, W = w0.alloc (.cells #[.slice (some ⟨w.heap.size, 0, none⟩) 6 6, .slice (some ⟨w.heap.size + 1 + 1 + 1 + 1, 0, none⟩) 2 2] 26) := ⟨_, rfl⟩
  have hb1 : Below w0.heap.size w0 w1 := by rw [hw1]; exact (Below.refl _ _).alloc (Nat.le_refl _) _
  have hs1 : w1.heap.size = w.heap.size + 1 + 1 := by rw [hw1, World.size_alloc, hs0]
  obtain ⟨w2, hw2⟩ : ∃ W, W = w1.alloc (.cells #[.int .i64 0, .int .i64 0, .int .i64 2, .int .i64 0, .int .i64 2, .int .i64 4, .int .i64 0, .int .i64 4] 53) := ⟨_, rfl⟩
  have hb2 : Below w1.heap.size w1 w2 := by rw [hw2]; exact (Below.refl _ _).alloc (Nat.le_refl _) _
  have hs2 : w2.heap.size = w.heap.size + 1 + 1 + 1 := by rw [hw2, World.size_alloc, hs1]
  obtain ⟨w3, hw3⟩ : ∃ W, W = w2.alloc (.cells #[.int .i64 2, .int .i64 0, .int .i64 4, .int .i64 0, .int .i64 4, .int .i64 4, .int .i64 2, .int .i64 4] 53) := ⟨_, rfl⟩
  have hb3 : Below w2.heap.size w2 w3 := by rw [hw3]; exact (Below.refl _ _).alloc (Nat.le_refl _) _
  have hs3 : w3.heap.size = w.heap.size + 1 + 1 + 1 + 1 := by rw [hw3, World.size_alloc, hs2]
  obtain ⟨w4, hw4⟩ : ∃ W, W = w3.alloc (.cells #[.int .i64 1, .slice (some ⟨w.heap.size + 1 + 1, 0, none⟩) 4 4, .string nulJ, .int .i64 2, .slice (some ⟨w.heap.size + 1 + 1 + 1, 0, none⟩) 4 4, .string nulJ] 38) := ⟨_, rfl⟩
  have hb4 : Below w3.heap.size w3 w4 := by rw [hw4]; exact (Below.refl _ _).alloc (Nat.le_refl _) _
  have hs4 : w4.heap.size = w.heap.size + 1 + 1 + 1 + 1 + 1 := by rw [hw4, World.size_alloc, hs3]
  have hO : Reads w0 w0.heap.size 2 (some ⟨w.heap.size, 0, none⟩) 6 (ptsV jO) := by rw [hw0]; exact Reads.made w #[.int .i64 0, .int .i64 0, .int .i64 2, .int .i64 0, .int .i64 4, .int .i64 0, .int .i64 4, .int .i64 4, .int .i64 2, .int .i64 4, .int .i64 0, .int .i64 4] 53 (0, 0) 2 6 (ptsV jO) rfl rfl
  have hA : Reads w2 w2.heap.size 2 (some ⟨w.heap.size + 1 + 1, 0, none⟩) 4 (ptsV jA) := by rw [← hs1, hw2]; exact Reads.made w1 #[.int .i64 0, .int .i64 0, .int .i64 2, .int .i64 0, .int .i64 2, .int .i64 4, .int .i64 0, .int .i64 4] 53 (0, 0) 2 4 (ptsV jA) rfl rfl
  have hB : Reads w3 w3.heap.size 2 (some ⟨w.heap.size + 1 + 1 + 1, 0, none⟩) 4 (ptsV jB) := by rw [← hs2, hw3]; exact Reads.made w2 #[.int .i64 2, .int .i64 0, .int .i64 4, .int .i64 0, .int .i64 4, .int .i64 4, .int .i64 2, .int .i64 4] 53 (0, 0) 2 4 (ptsV jB) rfl rfl
  have hC : Blk w4 (w.heap.size + 1 + 1 + 1 + 1) 38 #[.int .i64 1, .slice (some ⟨w.heap.size + 1 + 1, 0, none⟩) 4 4, .string nulJ, .int .i64 2, .slice (some ⟨w.heap.size + 1 + 1 + 1, 0, none⟩) 4 4, .string nulJ] := by rw [hw4, ← hs3]; exact Blk.new w3 _ _
  have hK1 : PlK w1 (w.heap.size + 1) (some ⟨w.heap.size, 0, none⟩) 6 6 (some ⟨w.heap.size + 1 + 1 + 1 + 1, 0, none⟩) 2 2 := by rw [hw1, ← hs0]; exact PlK.new w0 _ 6 6 _ 2 2
  have hK : PlK w4 (w.heap.size + 1) (some ⟨w.heap.size, 0, none⟩) 6 6 (some ⟨w.heap.size + 1 + 1 + 1 + 1, 0, none⟩) 2 2 := ((hK1.on hb2).on hb3).on hb4
  have hbb : Below w.heap.size w w4 := below_on (below_on (below_on (below_on hb0 (Nat.le_refl _) hb1) (Nat.le_refl _) hb2) (Nat.le_refl _) hb3) (Nat.le_refl _) hb4
  have hin : ∀ xs : List Pt, xs = jO ∨ xs = jA ∨ xs = jB → ∀ p ∈ xs, p.inI := by
    rintro xs (rfl | rfl | rfl) p hp
    · simp [jO] at hp; rcases hp with rfl | rfl | rfl | rfl | rfl | rfl <;> (unfold Pt.inI; simp)
    · simp [jA] at hp; rcases hp with rfl | rfl | rfl | rfl <;> (unfold Pt.inI; simp)
    · simp [jB] at hp; rcases hp with rfl | rfl | rfl | rfl <;> (unfold Pt.inI; simp)
  have hP : PlanAt w4 w4.heap.size (some ⟨w.heap.size, 0, none⟩) 6 6 (some ⟨w.heap.size + 1 + 1 + 1 + 1, 0, none⟩) 2 2 jP := by
    refine ⟨(((hO.on hb1).on hb2).on hb3).on hb4, pIn_two (x := ⟨1, jA, nulJ⟩) (y := ⟨2, jB, nulJ⟩) hC ((hA.on hb3).on hb4) (hB.on hb4) ⟨Nat.le_refl _, by omega⟩ ⟨Nat.le_refl _, by omega⟩ (Blk.lt hC), ⟨Nat.le_refl _, by omega⟩, ⟨Nat.le_refl _, by omega⟩, ⟨⟨by decide, hin _ (.inl rfl)⟩, by decide, fun x hx => ?_⟩⟩
    have : x = ⟨1, jA, nulJ⟩ ∨ x = ⟨2, jB, nulJ⟩ := by simpa [jP] using hx
    rcases this with rfl | rfl
    · exact ⟨by decide, hin _ (.inr (.inl rfl)), by unfold inI; simp, by decide⟩
    · exact ⟨by decide, hin _ (.inr (.inr rfl)), by unfold inI; simp, by decide⟩
  have kM := mergeP_any jP 1 2 _ _ 6 6 2 2 w4 hP
  rw [jP_join.1, jP_join.2] at kM
  have KM := Lib.hid kM
  have HB := Lib.hid hbb
  obtain ⟨q1, q2, q3⟩ := hK.facts
  obtain ⟨W, hW⟩ : ∃ W, W = w4 := ⟨_, rfl⟩
  rw [← hW] at KM HB q1 q2 q3
  rw [hw4, hw3, hw2, hw1, hw0] at hW
  clear hO hA hB hC hK1 hK hbb hin hP kM hb0 hb1 hb2 hb3 hb4 hs0 hs1 hs2 hs3 hs4 hw0 hw1 hw2 hw3 hw4 w0 w1 w2 w3 w4
  go_enter Tryz.func14, Tryz.ntmps14
  go_upto_region 3 with fail
  rw [← hW]
  clear hW
  go_wp2_with fail
  refine KM.out.mono ?_
  rintro e w1 ⟨A, n, c, A', n', c', hs, rfl, hpo, hb1⟩
  have hP := hpo.at_
  have hn : n' = 1 := hP.lens.2.1.symm
  subst hn
  have hK := PlK.new w1 A n c A' 1 c'
  obtain ⟨z1, z2, -⟩ := hK.facts
  have HZ := Lib.hid ((below_on HB.out (Nat.le_refl _) hb1).alloc (below_on HB.out (Nat.le_refl _) hb1).size (.cells #[.slice A n c, .slice A' 1 c'] 26))
  clear hP hpo hb1 HB KM hK q1 q2 q3
  go_wp2_with fail
  go_ret
  exact ⟨rfl, HZ.out⟩
end Go.Proofs.YtgkcenhopmjmlaaGreat
