/- merestonelaw06.few: the walk; merestonelaw06.answers: true; What ref05.Split's two Inserts ask of the rings. -/
import Derived.Deep.CutBlock
import Derived.Deep.DeepCutAuto
import Derived.Test.YtnpjggcgnbgkjaaGreatK01
import Derived.Test.YtnpjggcgnbgkjaaGreatK33
import Derived.Test.YtnpjggcgnbgkjaaGreatK34
import Derived.Test.YtnpjggcgnbgkjaaGreatK35
namespace Go.Proofs.YtnpjggcgnbgkjaaGreat
open Go.RowKit
def SF300 (n n' : Nat) (p : Plan) (w : World) (e : Ending) (w' : World) : Prop := ∃ b : Bool, e = .returned (.bool b) ∧ (b = true → n' ≤ 80 ∧ cornN n p.parcels ≤ 300) ∧ Below w.heap.size w w'
theorem SF300.mk {n n' : Nat} {p : Plan} {w : World} {e : Ending} {w' : World} (b : Bool) (h1 : e = .returned (.bool b)) (h2 : b = true → n' ≤ 80 ∧ cornN n p.parcels ≤ 300) (h3 : Below w.heap.size w w') : SF300 n n' p w e w' := ⟨b, h1, h2, h3⟩
set_option maxRecDepth 100000 in
set_option maxHeartbeats 1600000 in
theorem few6_any (p : Plan) (A A' : Option Addr) (n c n' c' : Nat) (w : World) (h : PlanAt w w.heap.size A n c A' n' c' p) :
    Calls Tryz.prog 16 #[planV A n c A' n' c'] w (SF300 n n' p w) := by
  obtain ⟨hl1, hl2, hl3, hl4⟩ := h.lens
  have HP := Lib.hid (And.intro h.parcs h.fits)
  have hK0 := PlK.new w A n c A' n' c'
  have hB0 := (Below.refl w.heap.size w).alloc (Nat.le_refl _) (.cells #[.slice A n c, .slice A' n' c'] 26)
  have HL2 := Lib.hid hl2
  have H0 := Lib.hid (And.intro hB0 hK0)
  obtain ⟨q1, q2, -⟩ := hK0.facts
  clear hB0 hK0 h hl1 hl2
  go_enter Tryz.func16, Tryz.ntmps16
  go_wp2_with fail
  obtain ⟨wo, hwo⟩ : ∃ wo : World, wo = w.alloc (.cells #[.slice A n c, .slice A' n' c'] 26) := ⟨_, rfl⟩
  rw [← hwo] at H0 q1 q2
  try rw [← hwo]
  clear hwo q1 q2
  go_loopw [3, 4] (fun s i wr => ∃ (k N : Nat), k ≤ n' ∧ i = .int .i64 (k : Int) ∧ s = .int .i64 (N : Int) ∧ N ≤ 17592186044416 ∧ Hid (cornN n p.parcels = cornN N (p.parcels.drop k)) ∧ Below w.heap.size w wr ∧ PlK wr w.heap.size A n c A' n' c') (fun _ i _ => n' - (intOf i).toNat)
  case atStart => exact ⟨0, n, Nat.zero_le _, rfl, rfl, by omega, rfl, H0.out⟩
  case round =>
    clear H0
    obtain ⟨k, N, hk, rfl, rfl, hN, HN, hbel, hK⟩ := hrel
    obtain ⟨q1, q2, -⟩ := hK.facts
    by_cases hgo : k < n' ∧ k < 81 ∧ N ≤ 300
    · obtain ⟨hlt, h81, hlim⟩ := hgo
      have g1 : (k : Int) < (n' : Int) := by omega
      have g2 : (k : Int) < 81 := by omega
      have g3 : (N : Int) ≤ 300 := by omega
      have hw1 : IntKind.i64.wrap ((k : Int) + 1) = (k : Int) + 1 := by rw [IntKind.wrap_i64]; omega
      have hlk : k < p.parcels.length := by have := HL2.out; omega
      obtain ⟨ad, rfl⟩ := HP.out.1.some_ (by omega)
      obtain ⟨-, p1, ⟨Ak, nk, ck, p2, hrk, -, -⟩, p3⟩ := (HP.out.1.below hbel).at_ hlt
      have hf := (HP.out.2.pc hlk).1
      rw [hrk.lenPt] at hf
      have hw2 : IntKind.i64.wrap ((N : Int) + (nk : Int)) = (N : Int) + (nk : Int) := by rw [IntKind.wrap_i64]; omega
      have HD : Hid (cornN n p.parcels = cornN (N + nk) (p.parcels.drop (k + 1))) := by
        have hdk : p.parcels.drop k = pcAt p.parcels k :: p.parcels.drop (k + 1) := by rw [List.drop_eq_getElem_cons hlk, pcAt_lt hlk]
        have := HN.out
        rw [hdk, cornN_cons, hrk.lenPt] at this
        exact this
      have HB := Lib.hid (And.intro hbel hK)
      clear hbel hK HN hrk
      go_wp2_with fail
      go_roundw
      case rel => exact ⟨k + 1, N + nk, by omega, by go_num, by go_num, by omega, HD.out, HB.out⟩
      case measure => simp [intOf]; omega
    · have HB := Lib.hid hbel
      clear hbel hK
      by_cases g5 : N ≤ 300
      · have g6 : (N : Int) ≤ 300 := by omega
        by_cases g7 : n' ≤ 80
        · have g8 : (n' : Int) ≤ 80 := by omega
          have hkn : k = n' := by omega
          subst hkn
          have HC : Hid (cornN n p.parcels ≤ 300) := by
            have := HN.out
            rw [List.drop_of_length_le (by have := HL2.out; omega), cornN_nil] at this
            show _ ≤ _
            omega
          have g9 : ¬ (k : Int) < (k : Int) := by omega
          clear hgo
          go_wp2_with fail
          go_ret
          exact SF300.mk true rfl (fun _ => ⟨g7, HC.out⟩) HB.out
        · have g8 : ¬ (n' : Int) ≤ 80 := by omega
          by_cases g9 : k < n'
          · have g10 : (k : Int) < (n' : Int) := by omega
            have g11 : ¬ (k : Int) < 81 := by omega
            clear hgo
            go_wp2_with fail
            go_ret
            exact SF300.mk false (by first | rfl | (show Ending.returned (.bool (decide ((n' : Int) ≤ 80))) = _; rw [decide_eq_false (by omega)])) (fun h => by cases h) HB.out
          · have g10 : ¬ (k : Int) < (n' : Int) := by omega
            clear hgo
            go_wp2_with fail
            go_ret
            exact SF300.mk false (by first | rfl | (show Ending.returned (.bool (decide ((n' : Int) ≤ 80))) = _; rw [decide_eq_false (by omega)])) (fun h => by cases h) HB.out
      · have g6 : ¬ (N : Int) ≤ 300 := by omega
        by_cases g9 : k < n'
        · have g10 : (k : Int) < (n' : Int) := by omega
          by_cases g11 : k < 81
          · have g12 : (k : Int) < 81 := by omega
            clear hgo
            go_wp2_with fail
            go_ret
            exact SF300.mk false rfl (fun h => by cases h) HB.out
          · have g12 : ¬ (k : Int) < 81 := by omega
            clear hgo
            go_wp2_with fail
            go_ret
            exact SF300.mk false rfl (fun h => by cases h) HB.out
        · have g10 : ¬ (k : Int) < (n' : Int) := by omega
          clear hgo
          go_wp2_with fail
          go_ret
          exact SF300.mk false rfl (fun h => by cases h) HB.out
end Go.Proofs.YtnpjggcgnbgkjaaGreat
namespace Go.Proofs.YtnpjggcgnbgkjaaGreat
open Go.RowKit Go.Lib
abbrev nulJ : ByteArray := ⟨#[]⟩
def kR : List Pt := [⟨0, 0⟩, ⟨4, 0⟩, ⟨4, 4⟩, ⟨0, 4⟩]
def jO : List Pt := [⟨0, 0⟩, ⟨2, 0⟩, ⟨4, 0⟩, ⟨4, 4⟩, ⟨2, 4⟩, ⟨0, 4⟩]
def jA : List Pt := [⟨0, 0⟩, ⟨2, 0⟩, ⟨2, 4⟩, ⟨0, 4⟩]
def jB : List Pt := [⟨2, 0⟩, ⟨4, 0⟩, ⟨4, 4⟩, ⟨2, 4⟩]
def kW : List Pt := [⟨2, 0⟩, ⟨2, 4⟩]
def kP : Plan := ⟨kR, [⟨1, kR, nulJ⟩]⟩
def kQ : Plan := ⟨jO, [⟨1, jB, nulJ⟩, ⟨2, jA, nulJ⟩]⟩
theorem pairsOK_of {xs : List Pt} (h : ((List.range xs.length).all fun j => (List.range j).all fun i => pairOK xs i j) = true) : PairsOK xs := fun i j hij hj => by
  rw [List.all_eq_true] at h
  have h1 := h j (List.mem_range.2 hj)
  rw [List.all_eq_true] at h1
  exact h1 i (List.mem_range.2 hij)
theorem pairsE_of {l : List Ed} (h : ((List.range l.length).all fun j => (List.range j).all fun i => okR (edAt l i) (edAt l j)) = true) : PairsE l := fun i j hi hj hij => by
  rw [List.all_eq_true] at h
  have h1 := h j (List.mem_range.2 hj)
  rw [List.all_eq_true] at h1
  have h2 := h1 i (List.mem_range.2 hij)
  rw [edAt_lt hi, edAt_lt hj] at h2
  exact h2
theorem norm_of {xs : List Pt} (h1 : areaE xs = 0) (h2 : 3 ≤ xs.length) (h3 : 0 < areaZ xs) (h4 : ((List.range xs.length).all fun j => (List.range j).all fun i => pairOK xs i j) = true) (h5 : lst xs = xs) : NormedP xs := ⟨checkI_ok h1 h2 h3 (pairsOK_of h4), h5.symm⟩
set_option maxRecDepth 100000 in
theorem kR_norm : NormedP kR := norm_of (by decide) (by decide) (by decide) (by decide) (by decide)
set_option maxRecDepth 100000 in
theorem jO_norm : NormedP jO := norm_of (by decide) (by decide) (by decide) (by decide) (by decide)
set_option maxRecDepth 100000 in
theorem jA_norm : NormedP jA := norm_of (by decide) (by decide) (by decide) (by decide) (by decide)
set_option maxRecDepth 100000 in
theorem jB_norm : NormedP jB := norm_of (by decide) (by decide) (by decide) (by decide) (by decide)
set_option maxRecDepth 100000 in
theorem kP_sound : SoundP kP := by
  have e : allE kP.parcels = edgesOf kR := by unfold allE kP; simp
  refine ⟨by decide, kR_norm, fun x hx => ?_, ?_, ?_, by decide⟩
  · have : x = ⟨1, kR, nulJ⟩ := by simpa [kP] using hx
    rw [this]
    exact kR_norm
  · unfold MatchP
    rw [e]
    exact ⟨by decide, fun e h => h, by decide⟩
  · rw [e]
    exact pairsE_of (by decide)
set_option maxRecDepth 100000 in
theorem kQ_sound : SoundP kQ := by
  have e : allE kQ.parcels = edgesOf jB ++ edgesOf jA := by unfold allE kQ; simp
  refine ⟨by decide, jO_norm, fun x hx => ?_, ?_, ?_, by decide⟩
  · have : x = ⟨1, jB, nulJ⟩ ∨ x = ⟨2, jA, nulJ⟩ := by simpa [kQ] using hx
    rcases this with rfl | rfl
    · exact jB_norm
    · exact jA_norm
  · unfold MatchP
    rw [e]
    exact ⟨by decide, by decide, by decide⟩
  · rw [e]
    exact pairsE_of (by decide)
theorem kP_fault : faultI kP 1 kW 2 = 0 := by
  have h1 : atP kP.parcels 1 = 0 := by decide
  have h2 : atP kP.parcels 2 = -1 := by decide
  have h3 : sideI kR ⟨2, 0⟩ = 0 := sideI_on (k := 0) (by decide) (by decide)
  have h4 : sideI kR ⟨2, 4⟩ = 0 := sideI_on (k := 2) (by decide) (by decide)
  have h5 : sideI (pcAt kP.parcels (0 : Int).toNat).ring (ptAt kW 0) = 0 := h3
  have h6 : sideI (pcAt kP.parcels (0 : Int).toNat).ring (ptAt kW (kW.length - 1)) = 0 := h4
  unfold faultI
  rw [if_neg (by rw [planB_yes kP_sound]; decide), h1, if_neg (by decide), if_neg (by decide), h2, if_neg (by decide), if_neg (by decide), h5, h6, if_neg (by decide)]
set_option maxRecDepth 100000 in
theorem kP_spQ : spQ kP 0 kW 2 = kQ := by
  have e1 : insG ⟨2, 4⟩ (lst (insG ⟨2, 0⟩ kR)) = jO := by decide
  have e2 : lst jO = jO := by decide
  have eB : spB kP ⟨2, 0⟩ ⟨2, 4⟩ = ⟨jO, [⟨1, jO, nulJ⟩]⟩ := by
    unfold spB eachP kP eachX
    simp only [List.map_cons, List.map_nil, e1, e2]
  have e3 : partA jO kW = jB := by decide
  have e4 : partB jO kW = jA := by decide
  have a0 : path0 kW = ⟨2, 0⟩ := rfl
  have b0 : path1 kW = ⟨2, 4⟩ := rfl
  have eR : cutRing kP 0 ⟨2, 0⟩ ⟨2, 4⟩ = jO := by unfold cutRing; rw [eB]; rfl
  unfold spQ
  rw [a0, b0, eR, eB, e3, e4]
  rfl
theorem kP_split : spE kP 1 kW 2 = 0 ∧ spP kP 1 kW 2 = kQ := by
  have h1 : (atP kP.parcels 1).toNat = 0 := by decide
  have h : spE kP 1 kW 2 = 0 := by
    unfold spE
    rw [if_neg (by rw [kP_fault]; simp), h1, kP_spQ, if_pos (planB_yes kQ_sound)]
  exact ⟨h, by unfold spP; rw [if_pos h, h1, kP_spQ]⟩
set_option maxRecDepth 100000 in
set_option maxHeartbeats 1600000 in
theorem ans06_any (w : World) : Calls Tryz.prog 15 #[] w fun e w' => e = .returned (.bool true) ∧ Below w.heap.size w w' := by
  obtain ⟨w0, hw0⟩ : ∃ W, W = w.alloc (.cells #[.int .i64 0, .int .i64 0, .int .i64 4, .int .i64 0, .int .i64 4, .int .i64 4, .int .i64 0, .int .i64 4] 35) := ⟨_, rfl⟩
  have hb0 : Below w.heap.size w w0 := by rw [hw0]; exact (Below.refl _ _).alloc (Nat.le_refl _) _
  have hs0 : w0.heap.size = w.heap.size + 1 := by rw [hw0, World.size_alloc]
  obtain ⟨w1, hw1⟩ : ∃ W, W = w0.alloc (.cells #[.int .i64 1, .slice (some ⟨w.heap.size, 0, none⟩) 4 4, .string nulJ] 37) := ⟨_, rfl⟩
  have hb1 : Below w0.heap.size w0 w1 := by rw [hw1]; exact (Below.refl _ _).alloc (Nat.le_refl _) _
  have hs1 : w1.heap.size = w.heap.size + 1 + 1 := by rw [hw1, World.size_alloc, hs0]
  obtain ⟨w2, hw2⟩ : ∃ W, W = w1.alloc (.cells #[.int .i64 2, .int .i64 0, .int .i64 2, .int .i64 4] 35) := ⟨_, rfl⟩
  have hb2 : Below w1.heap.size w1 w2 := by rw [hw2]; exact (Below.refl _ _).alloc (Nat.le_refl _) _
  have hO : Reads w0 w0.heap.size 2 (some ⟨w.heap.size, 0, none⟩) 4 (ptsV kR) := by rw [hw0]; exact Reads.made w #[.int .i64 0, .int .i64 0, .int .i64 4, .int .i64 0, .int .i64 4, .int .i64 4, .int .i64 0, .int .i64 4] 35 (0, 0) 2 4 (ptsV kR) rfl rfl
  have hA : Reads w2 w2.heap.size 2 (some ⟨w.heap.size + 1 + 1, 0, none⟩) 2 (ptsV kW) := by rw [← hs1, hw2]; exact Reads.made w1 #[.int .i64 2, .int .i64 0, .int .i64 2, .int .i64 4] 35 (0, 0) 2 2 (ptsV kW) rfl rfl
  have hC : Blk w1 (w.heap.size + 1) 37 #[.int .i64 1, .slice (some ⟨w.heap.size, 0, none⟩) 4 4, .string nulJ] := by rw [hw1, ← hs0]; exact Blk.new w0 _ _
  have hbb : Below w.heap.size w w2 := below_on (below_on hb0 (Nat.le_refl _) hb1) (Nat.le_refl _) hb2
  have hin : ∀ p ∈ kR, p.inI := by intro p hp; simp [kR] at hp; rcases hp with rfl | rfl | rfl | rfl <;> (unfold Pt.inI; simp)
  have hiw : ∀ p ∈ kW, p.inI := by intro p hp; simp [kW] at hp; rcases hp with rfl | rfl <;> (unfold Pt.inI; simp)
  have hP : PlanAt w2 w2.heap.size (some ⟨w.heap.size, 0, none⟩) 4 4 (some ⟨w.heap.size + 1, 0, none⟩) 1 1 kP := by
    refine ⟨(hO.on hb1).on hb2, pIn_one (x := ⟨1, kR, nulJ⟩) (Blk.below hC hb2 (Blk.lt hC)) ((hO.on hb1).on hb2) (Nat.le_refl _) (by omega) (Nat.lt_of_lt_of_le (Blk.lt hC) hb2.size), ⟨Nat.le_refl _, by omega⟩, ⟨Nat.le_refl _, by omega⟩, ⟨⟨by decide, hin⟩, by decide, fun x hx => ?_⟩⟩
    have : x = ⟨1, kR, nulJ⟩ := by simpa [kP] using hx
    rw [this]
    exact ⟨by decide, hin, by unfold inI; simp, by decide⟩
  have kM := spP_any kP 1 2 kW _ _ (some ⟨w.heap.size + 1 + 1, 0, none⟩) 4 4 1 1 2 2 w2 hP hA hiw (by omega)
  rw [kP_split.1, kP_split.2] at kM
  have KM := Lib.hid kM
  have HB := Lib.hid hbb
  obtain ⟨W, hW⟩ : ∃ W, W = w2 := ⟨_, rfl⟩
  rw [← hW] at KM HB
  rw [hw2, hw1, hw0] at hW
  clear hO hA hC hbb hin hiw hP kM hb0 hb1 hb2 hs0 hs1 hw0 hw1 hw2 w0 w1 w2
  go_enter Tryz.func15, Tryz.ntmps15
  go_wp2_with fail
  rw [← hW]
  clear hW
  refine KM.out.mono ?_
  rintro e w1 ⟨A, n, c, A', n', c', hs, rfl, hpo, hb1⟩
  have hP := hpo.at_
  have hn : n' = 2 := hP.lens.2.1.symm
  subst hn
  have hK := PlK.new w1 A n c A' 2 c'
  obtain ⟨z1, z2, -⟩ := hK.facts
  have HZ := Lib.hid ((below_on HB.out (Nat.le_refl _) hb1).alloc (below_on HB.out (Nat.le_refl _) hb1).size (.cells #[.slice A n c, .slice A' 2 c'] 26))
  clear hP hpo hb1 HB KM hK
  go_wp2_with fail
  go_ret
  exact ⟨rfl, HZ.out⟩
end Go.Proofs.YtnpjggcgnbgkjaaGreat
namespace Go.Proofs.YtnpjggcgnbgkjaaGreat
open Go.RowKit Go.Lib
theorem hldR6 {W V V' : World} {a0 a1 a2 a3 a4 a5 : Addr} {v0 v1 v2 v3 v4 v5 : Value} (hh : a0.block < W.heap.size ∧ a1.block < W.heap.size ∧ a2.block < W.heap.size ∧ a3.block < W.heap.size ∧ a4.block < W.heap.size ∧ a5.block < W.heap.size) (hs : V.cell? a0 = some v0 ∧ V.cell? a1 = some v1 ∧ V.cell? a2 = some v2 ∧ V.cell? a3 = some v3 ∧ V.cell? a4 = some v4 ∧ V.cell? a5 = some v5 ∧ Below W.heap.size W V) (hb : Below V.heap.size V V') :
    V'.cell? a0 = some v0 ∧ V'.cell? a1 = some v1 ∧ V'.cell? a2 = some v2 ∧ V'.cell? a3 = some v3 ∧ V'.cell? a4 = some v4 ∧ V'.cell? a5 = some v5 ∧ Below W.heap.size W V' := by
  obtain ⟨h0, h1, h2, h3, h4, h5⟩ := hh
  obtain ⟨c0, c1, c2, c3, c4, c5, cb⟩ := hs
  have := cb.size
  have k : ∀ {a : Addr} {v : Value}, a.block < W.heap.size → V.cell? a = some v → V'.cell? a = some v := fun {a v} ha hv => (hb.cell (p := a) (by omega)).trans hv
  exact ⟨k h0 c0, k h1 c1, k h2 c2, k h3 c3, k h4 c4, k h5 c5, below_on cb (Nat.le_refl _) hb⟩
theorem insC_zero (q : Pt) (xs : List Pt) (z : Pt) (h : insM q xs z = 0) : insC q xs z = xs := by
  induction xs with
  | nil => rfl
  | cons x r ih =>
    have h' : (if inSB x (nxt r z) q = true then 1 else 0) + insM q r z = 0 := h
    rw [insC_cons, ih (by omega)]
    by_cases c : inSB x (nxt r z) q = true
    · rw [if_pos c] at h'; omega
    · rw [if_neg c]; rfl
theorem ins_lst {ys : List Pt} {b : Pt} (h : insG b ys = ys) : insG b (lst ys) = lst ys := by
  obtain ⟨j, hj, e⟩ := lst_eq_rot ys
  obtain ⟨i, hi, e2⟩ := insG_rot b j ys
  have hl : (insG b (lst ys)).length = (lst ys).length := by
    rw [e, e2, ← e, lst_len]
    rw [h] at hi ⊢
    unfold rot
    simp
    omega
  have h3 := insM_len b (lst ys) (ptAt (lst ys) 0)
  rw [← insG_C, hl] at h3
  rw [insG_C]
  exact insC_zero _ _ _ (by omega)
theorem ref_rings1 {p : Plan} {a : Pt} (hs : SoundP p) : ∀ xs, ringOf p xs → goodL xs = true ∧ xs.length ≤ 512 ∧ (a ∈ xs → insG a xs = xs) := fun xs hx => by
  obtain ⟨h1, h2, -⟩ := sound_ring hs hx
  obtain ⟨-, -, -, h4⟩ := sound_len hs hx
  exact ⟨h1, by omega, corner_out h4⟩
theorem ref_rings2 {p : Plan} {a b : Pt} (hs : SoundP p) (ha : good a = true) (hb : good b = true) (hab : ¬ a = b) : ∀ xs, ringOf (eachP (insG a) p) xs → goodL xs = true ∧ xs.length ≤ 512 ∧ (b ∈ xs → insG b xs = xs) := fun xs hx => by
  obtain ⟨zs, hz, rfl⟩ := ringOf_each hx
  obtain ⟨h1, h2⟩ := cut_rings1 hs ha _ hx
  refine ⟨h1, by omega, fun hbm => ?_⟩
  obtain ⟨-, hn, -, h4⟩ := sound_len hs hz
  have hbz : b ∈ zs := by
    rcases insG_mem (lst_mem hbm) with h | h
    · exact h
    · exact absurd h.symm hab
  exact ins_lst (by rw [(ins_two h4 hn ha hb hab).2.2, corner_out h4 hbz])
end Go.Proofs.YtnpjggcgnbgkjaaGreat
