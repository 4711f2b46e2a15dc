/- merestonelaw06.few: the walk; merestonelaw06.answers: true; The areas of a cut's parts: plain law. -/
import Derived.Test.YtmegmokjjlelgaaGreatK38
import Derived.Test.YtmegmokjjlelgaaGreatK39
import Derived.Test.YtmegmokjjlelgaaGreatK40
namespace Go.Proofs.YtmegmokjjlelgaaGreat
open Go.RowKit
def SF300 (n n' : Nat) (p : Plan) (w : World) (e : Ending) (w' : World) : Prop := ∃ b : Bool, e = .returned (.bool b) ∧ (b = true → n' ≤ 80 ∧ cornN n p.parcels ≤ 300) ∧ Below w.heap.size w w'
theorem SF300.mk {n n' : Nat} {p : Plan} {w : World} {e : Ending} {w' : World} (b : Bool) (h1 : e = .returned (.bool b)) (h2 : b = true → n' ≤ 80 ∧ cornN n p.parcels ≤ 300) (h3 : Below w.heap.size w w') : SF300 n n' p w e w' := ⟨b, h1, h2, h3⟩
set_option maxRecDepth 100000 in
set_option maxHeartbeats 1600000 in
theorem few6_any (p : Plan) (A A' : Option Addr) (n c n' c' : Nat) (w : World) (h : PlanAt w w.heap.size A n c A' n' c' p) :
    Calls Tryz.prog 16 #[planV A n c A' n' c'] w (SF300 n n' p w) := by
  obtain ⟨hl1, hl2, hl3, hl4⟩ := h.lens
  have HP := Lib.hid (And.intro h.parcs h.fits)
  have hK0 := PlK.new w A n c A' n' c'
  have hB0 := (Below.refl w.heap.size w).alloc (Nat.le_refl _) (.cells #[.slice A n c, .slice A' n' c'] 26)
  have HL2 := Lib.hid hl2
  have H0 := Lib.hid (And.intro hB0 hK0)
  obtain ⟨q1, q2, -⟩ := hK0.facts
  clear hB0 hK0 h hl1 hl2
  go_enter Tryz.func16, Tryz.ntmps16
  go_wp2_with fail
  obtain ⟨wo, hwo⟩ : ∃ wo : World, wo = w.alloc (.cells #[.slice A n c, .slice A' n' c'] 26) := ⟨_, rfl⟩
  rw [← hwo] at H0 q1 q2
  try rw [← hwo]
  clear hwo q1 q2
  go_loopw [3, 4] (fun s i wr => ∃ (k N : Nat), k ≤ n' ∧ i = .int .i64 (k : Int) ∧ s = .int .i64 (N : Int) ∧ N ≤ 17592186044416 ∧ Hid (cornN n p.parcels = cornN N (p.parcels.drop k)) ∧ Below w.heap.size w wr ∧ PlK wr w.heap.size A n c A' n' c') (fun _ i _ => n' - (intOf i).toNat)
  case atStart => exact ⟨0, n, Nat.zero_le _, rfl, rfl, by omega, rfl, H0.out⟩
  case round =>
    clear H0
    obtain ⟨k, N, hk, rfl, rfl, hN, HN, hbel, hK⟩ := hrel
    obtain ⟨q1, q2, -⟩ := hK.facts
    by_cases hgo : k < n' ∧ k < 81 ∧ N ≤ 300
    · obtain ⟨hlt, h81, hlim⟩ := hgo
      have g1 : (k : Int) < (n' : Int) := by omega
      have g2 : (k : Int) < 81 := by omega
      have g3 : (N : Int) ≤ 300 := by omega
      have hw1 : IntKind.i64.wrap ((k : Int) + 1) = (k : Int) + 1 := by rw [IntKind.wrap_i64]; omega
      have hlk : k < p.parcels.length := by have := HL2.out; omega
      obtain ⟨ad, rfl⟩ := HP.out.1.some_ (by omega)
      obtain ⟨-, p1, ⟨Ak, nk, ck, p2, hrk, -, -⟩, p3⟩ := (HP.out.1.below hbel).at_ hlt
      have hf := (HP.out.2.pc hlk).1
      rw [hrk.lenPt] at hf
      have hw2 : IntKind.i64.wrap ((N : Int) + (nk : Int)) = (N : Int) + (nk : Int) := by rw [IntKind.wrap_i64]; omega
      have HD : Hid (cornN n p.parcels = cornN (N + nk) (p.parcels.drop (k + 1))) := by
        have hdk : p.parcels.drop k = pcAt p.parcels k :: p.parcels.drop (k + 1) := by rw [List.drop_eq_getElem_cons hlk, pcAt_lt hlk]
        have := HN.out
        rw [hdk, cornN_cons, hrk.lenPt] at this
        exact this
      have HB := Lib.hid (And.intro hbel hK)
      clear hbel hK HN hrk
      go_wp2_with fail
      go_roundw
      case rel => exact ⟨k + 1, N + nk, by omega, by go_num, by go_num, by omega, HD.out, HB.out⟩
      case measure => simp [intOf]; omega
    · have HB := Lib.hid hbel
      clear hbel hK
      by_cases g5 : N ≤ 300
      · have g6 : (N : Int) ≤ 300 := by omega
        by_cases g7 : n' ≤ 80
        · have g8 : (n' : Int) ≤ 80 := by omega
          have hkn : k = n' := by omega
          subst hkn
          have HC : Hid (cornN n p.parcels ≤ 300) := by
            have := HN.out
            rw [List.drop_of_length_le (by have := HL2.out; omega), cornN_nil] at this
            show _ ≤ _
            omega
          have g9 : ¬ (k : Int) < (k : Int) := by omega
          clear hgo
          go_wp2_with fail
          go_ret
          exact SF300.mk true rfl (fun _ => ⟨g7, HC.out⟩) HB.out
        · have g8 : ¬ (n' : Int) ≤ 80 := by omega
          by_cases g9 : k < n'
          · have g10 : (k : Int) < (n' : Int) := by omega
            have g11 : ¬ (k : Int) < 81 := by omega
            clear hgo
            go_wp2_with fail
            go_ret
            exact SF300.mk false (by first | rfl | (show Ending.returned (.bool (decide ((n' : Int) ≤ 80))) = _; rw [decide_eq_false (by omega)])) (fun h => by cases h) HB.out
          · have g10 : ¬ (k : Int) < (n' : Int) := by omega
            clear hgo
            go_wp2_with fail
            go_ret
            exact SF300.mk false (by first | rfl | (show Ending.returned (.bool (decide ((n' : Int) ≤ 80))) = _; rw [decide_eq_false (by omega)])) (fun h => by cases h) HB.out
      · have g6 : ¬ (N : Int) ≤ 300 := by omega
        by_cases g9 : k < n'
        · have g10 : (k : Int) < (n' : Int) := by omega
          by_cases g11 : k < 81
          · have g12 : (k : Int) < 81 := by omega
            clear hgo
            go_wp2_with fail
            go_ret
            exact SF300.mk false rfl (fun h => by cases h) HB.out
          · have g12 : ¬ (k : Int) < 81 := by omega
            clear hgo
            go_wp2_with fail
            go_ret
            exact SF300.mk false rfl (fun h => by cases h) HB.out
        · have g10 : ¬ (k : Int) < (n' : Int) := by omega
          clear hgo
          go_wp2_with fail
          go_ret
          exact SF300.mk false rfl (fun h => by cases h) HB.out
end Go.Proofs.YtmegmokjjlelgaaGreat
namespace Go.Proofs.YtmegmokjjlelgaaGreat
open Go.RowKit Go.Lib
abbrev nulJ : ByteArray := ⟨#[]⟩
def kR : List Pt := [⟨0, 0⟩, ⟨4, 0⟩, ⟨4, 4⟩, ⟨0, 4⟩]
def jO : List Pt := [⟨0, 0⟩, ⟨2, 0⟩, ⟨4, 0⟩, ⟨4, 4⟩, ⟨2, 4⟩, ⟨0, 4⟩]
def jA : List Pt := [⟨0, 0⟩, ⟨2, 0⟩, ⟨2, 4⟩, ⟨0, 4⟩]
def jB : List Pt := [⟨2, 0⟩, ⟨4, 0⟩, ⟨4, 4⟩, ⟨2, 4⟩]
def kW : List Pt := [⟨2, 0⟩, ⟨2, 4⟩]
def kP : Plan := ⟨kR, [⟨1, kR, nulJ⟩]⟩
def kQ : Plan := ⟨jO, [⟨1, jB, nulJ⟩, ⟨2, jA, nulJ⟩]⟩
theorem pairsOK_of {xs : List Pt} (h : ((List.range xs.length).all fun j => (List.range j).all fun i => pairOK xs i j) = true) : PairsOK xs := fun i j hij hj => by
  rw [List.all_eq_true] at h
  have h1 := h j (List.mem_range.2 hj)
  rw [List.all_eq_true] at h1
  exact h1 i (List.mem_range.2 hij)
theorem pairsE_of {l : List Ed} (h : ((List.range l.length).all fun j => (List.range j).all fun i => okR (edAt l i) (edAt l j)) = true) : PairsE l := fun i j hi hj hij => by
  rw [List.all_eq_true] at h
  have h1 := h j (List.mem_range.2 hj)
  rw [List.all_eq_true] at h1
  have h2 := h1 i (List.mem_range.2 hij)
  rw [edAt_lt hi, edAt_lt hj] at h2
  exact h2
theorem norm_of {xs : List Pt} (h1 : areaE xs = 0) (h2 : 3 ≤ xs.length) (h3 : 0 < areaZ xs) (h4 : ((List.range xs.length).all fun j => (List.range j).all fun i => pairOK xs i j) = true) (h5 : lst xs = xs) : NormedP xs := ⟨checkI_ok h1 h2 h3 (pairsOK_of h4), h5.symm⟩
set_option maxRecDepth 100000 in
theorem kR_norm : NormedP kR := norm_of (by decide) (by decide) (by decide) (by decide) (by decide)
set_option maxRecDepth 100000 in
theorem jO_norm : NormedP jO := norm_of (by decide) (by decide) (by decide) (by decide) (by decide)
set_option maxRecDepth 100000 in
theorem jA_norm : NormedP jA := norm_of (by decide) (by decide) (by decide) (by decide) (by decide)
set_option maxRecDepth 100000 in
theorem jB_norm : NormedP jB := norm_of (by decide) (by decide) (by decide) (by decide) (by decide)
set_option maxRecDepth 100000 in
theorem kP_sound : SoundP kP := by
  have e : allE kP.parcels = edgesOf kR := by unfold allE kP; simp
  refine ⟨by decide, kR_norm, fun x hx => ?_, ?_, ?_, by decide⟩
  · have : x = ⟨1, kR, nulJ⟩ := by simpa [kP] using hx
    rw [this]
    exact kR_norm
  · unfold MatchP
    rw [e]
    exact ⟨by decide, fun e h => h, by decide⟩
  · rw [e]
    exact pairsE_of (by decide)
set_option maxRecDepth 100000 in
theorem kQ_sound : SoundP kQ := by
  have e : allE kQ.parcels = edgesOf jB ++ edgesOf jA := by unfold allE kQ; simp
  refine ⟨by decide, jO_norm, fun x hx => ?_, ?_, ?_, by decide⟩
  · have : x = ⟨1, jB, nulJ⟩ ∨ x = ⟨2, jA, nulJ⟩ := by simpa [kQ] using hx
    rcases this with rfl | rfl
    · exact jB_norm
    · exact jA_norm
  · unfold MatchP
    rw [e]
    exact ⟨by decide, by decide, by decide⟩
  · rw [e]
    exact pairsE_of (by decide)
theorem kP_fault : faultI kP 1 kW 2 = 0 := by
  have h1 : atP kP.parcels 1 = 0 := by decide
  have h2 : atP kP.parcels 2 = -1 := by decide
  have h3 : sideI kR ⟨2, 0⟩ = 0 := sideI_on (k := 0) (by decide) (by decide)
  have h4 : sideI kR ⟨2, 4⟩ = 0 := sideI_on (k := 2) (by decide) (by decide)
  have h5 : sideI (pcAt kP.parcels (0 : Int).toNat).ring (ptAt kW 0) = 0 := h3
  have h6 : sideI (pcAt kP.parcels (0 : Int).toNat).ring (ptAt kW (kW.length - 1)) = 0 := h4
  unfold faultI
  rw [if_neg (by rw [planB_yes kP_sound]; decide), h1, if_neg (by decide), if_neg (by decide), h2, if_neg (by decide), if_neg (by decide), h5, h6, if_neg (by decide)]
set_option maxRecDepth 100000 in
theorem kP_spQ : spQ kP 0 kW 2 = kQ := by
  have e1 : insG ⟨2, 4⟩ (lst (insG ⟨2, 0⟩ kR)) = jO := by decide
  have e2 : lst jO = jO := by decide
  have eB : spB kP ⟨2, 0⟩ ⟨2, 4⟩ = ⟨jO, [⟨1, jO, nulJ⟩]⟩ := by
    unfold spB eachP kP eachX
    simp only [List.map_cons, List.map_nil, e1, e2]
  have e3 : partA jO kW = jB := by decide
  have e4 : partB jO kW = jA := by decide
  have a0 : path0 kW = ⟨2, 0⟩ := rfl
  have b0 : path1 kW = ⟨2, 4⟩ := rfl
  have eR : cutRing kP 0 ⟨2, 0⟩ ⟨2, 4⟩ = jO := by unfold cutRing; rw [eB]; rfl
  unfold spQ
  rw [a0, b0, eR, eB, e3, e4]
  rfl
theorem kP_split : spE kP 1 kW 2 = 0 ∧ spP kP 1 kW 2 = kQ := by
  have h1 : (atP kP.parcels 1).toNat = 0 := by decide
  have h : spE kP 1 kW 2 = 0 := by
    unfold spE
    rw [if_neg (by rw [kP_fault]; simp), h1, kP_spQ, if_pos (planB_yes kQ_sound)]
  exact ⟨h, by unfold spP; rw [if_pos h, h1, kP_spQ]⟩
set_option maxRecDepth 100000 in
set_option maxHeartbeats 1600000 in
theorem ans06_any (w : World) : Calls Tryz.prog 15 #[] w fun e w' => e = .returned (.bool true) ∧ Below w.heap.size w w' := by
  obtain ⟨w0, hw0⟩ : ∃ W, W = w.alloc (.cells #[.int .i64 0, .int .i64 0, .int .i64 4, .int .i64 0, .int .i64 4, .int .i64 4, .int .i64 0, .int .i64 4] 44) := ⟨_, rfl⟩
  have hb0 : Below w.heap.size w w0 := by rw [hw0]; exact (Below.refl _ _).alloc (Nat.le_refl _) _
  have hs0 : w0.heap.size = w.heap.size + 1 := by rw [hw0, World.size_alloc]
  obtain ⟨w1, hw1⟩ : ∃ W, W = w0.alloc (.cells #[.int .i64 1, .slice (some ⟨w.heap.size, 0, none⟩) 4 4, .string nulJ] 40) := ⟨_, rfl⟩
  have hb1 : Below w0.heap.size w0 w1 := by rw [hw1]; exact (Below.refl _ _).alloc (Nat.le_refl _) _
  have hs1 : w1.heap.size = w.heap.size + 1 + 1 := by rw [hw1, World.size_alloc, hs0]
  obtain ⟨w2, hw2⟩ : ∃ W, W = w1.alloc (.cells #[.int .i64 2, .int .i64 0, .int .i64 2, .int .i64 4] 44) := ⟨_, rfl⟩
  have hb2 : Below w1.heap.size w1 w2 := by rw [hw2]; exact (Below.refl _ _).alloc (Nat.le_refl _) _
  have hO : Reads w0 w0.heap.size 2 (some ⟨w.heap.size, 0, none⟩) 4 (ptsV kR) := by rw [hw0]; exact Reads.made w #[.int .i64 0, .int .i64 0, .int .i64 4, .int .i64 0, .int .i64 4, .int .i64 4, .int .i64 0, .int .i64 4] 44 (0, 0) 2 4 (ptsV kR) rfl rfl
  have hA : Reads w2 w2.heap.size 2 (some ⟨w.heap.size + 1 + 1, 0, none⟩) 2 (ptsV kW) := by rw [← hs1, hw2]; exact Reads.made w1 #[.int .i64 2, .int .i64 0, .int .i64 2, .int .i64 4] 44 (0, 0) 2 2 (ptsV kW) rfl rfl
  have hC : Blk w1 (w.heap.size + 1) 40 #[.int .i64 1, .slice (some ⟨w.heap.size, 0, none⟩) 4 4, .string nulJ] := by rw [hw1, ← hs0]; exact Blk.new w0 _ _
  have hbb : Below w.heap.size w w2 := below_on (below_on hb0 (Nat.le_refl _) hb1) (Nat.le_refl _) hb2
  have hin : ∀ p ∈ kR, p.inI := by intro p hp; simp [kR] at hp; rcases hp with rfl | rfl | rfl | rfl <;> (unfold Pt.inI; simp)
  have hiw : ∀ p ∈ kW, p.inI := by intro p hp; simp [kW] at hp; rcases hp with rfl | rfl <;> (unfold Pt.inI; simp)
  have hP : PlanAt w2 w2.heap.size (some ⟨w.heap.size, 0, none⟩) 4 4 (some ⟨w.heap.size + 1, 0, none⟩) 1 1 kP := by
    refine ⟨(hO.on hb1).on hb2, pIn_one (x := ⟨1, kR, nulJ⟩) (Blk.below hC hb2 (Blk.lt hC)) ((hO.on hb1).on hb2) (Nat.le_refl _) (by omega) (Nat.lt_of_lt_of_le (Blk.lt hC) hb2.size), ⟨Nat.le_refl _, by omega⟩, ⟨Nat.le_refl _, by omega⟩, ⟨⟨by decide, hin⟩, by decide, fun x hx => ?_⟩⟩
    have : x = ⟨1, kR, nulJ⟩ := by simpa [kP] using hx
    rw [this]
    exact ⟨by decide, hin, by unfold inI; simp, by decide⟩
  have kM := spP_any kP 1 2 kW _ _ (some ⟨w.heap.size + 1 + 1, 0, none⟩) 4 4 1 1 2 2 w2 hP hA hiw (by omega)
  rw [kP_split.1, kP_split.2] at kM
  have KM := Lib.hid kM
  have HB := Lib.hid hbb
  obtain ⟨W, hW⟩ : ∃ W, W = w2 := ⟨_, rfl⟩
  rw [← hW] at KM HB
  rw [hw2, hw1, hw0] at hW
  clear hO hA hC hbb hin hiw hP kM hb0 hb1 hb2 hs0 hs1 hw0 hw1 hw2 w0 w1 w2
  go_enter Tryz.func15, Tryz.ntmps15
  go_wp2_with fail
  rw [← hW]
  clear hW
  refine KM.out.mono ?_
  rintro e w1 ⟨A, n, c, A', n', c', hs, rfl, hpo, hb1⟩
  have hP := hpo.at_
  have hn : n' = 2 := hP.lens.2.1.symm
  subst hn
  have hK := PlK.new w1 A n c A' 2 c'
  obtain ⟨z1, z2, -⟩ := hK.facts
  have HZ := Lib.hid ((below_on HB.out (Nat.le_refl _) hb1).alloc (below_on HB.out (Nat.le_refl _) hb1).size (.cells #[.slice A n c, .slice A' 2 c'] 26))
  clear hP hpo hb1 HB KM hK
  go_wp2_with fail
  go_ret
  exact ⟨rfl, HZ.out⟩
end Go.Proofs.YtmegmokjjlelgaaGreat
namespace Go.Proofs.YtmegmokjjlelgaaGreat
/-- Twice the area under an open chain. -/
def arC : List Pt → Pt → Int
  | [], _ => 0
  | x :: r, z => cr ⟨0, 0⟩ x (nxt r z) + arC r z
theorem arC_cons (x : Pt) (r : List Pt) (z : Pt) : arC (x :: r) z = cr ⟨0, 0⟩ x (nxt r z) + arC r z := rfl
theorem arC_app (u v : List Pt) (z : Pt) : arC (u ++ v) z = arC u (nxt v z) + arC v z := by
  induction u with
  | nil => show arC v z = 0 + arC v z; omega
  | cons x u ih =>
    rw [List.cons_append, arC_cons, arC_cons, ih]
    have e : nxt (u ++ v) z = nxt u (nxt v z) := by cases u <;> rfl
    rw [e]
    omega
theorem sumL_cons (x : Int) (l : List Int) : sumL (x :: l) = x + sumL l := by
  unfold sumL
  rw [List.foldl_cons, sumL_acc]
  omega
theorem areaZ_C (xs : List Pt) : areaZ xs = arC xs (ptAt xs 0) := by
  have h : ∀ m k, k + m = xs.length → sumL ((List.range' k m).map (areaK xs)) = arC (xs.drop k) (ptAt xs 0) := fun m => by
    induction m with
    | zero => intro k hk; rw [List.drop_of_length_le (by omega)]; rfl
    | succ m ih =>
      intro k hk
      have hk1 : k < xs.length := by omega
      rw [List.range'_succ, List.map_cons, sumL_cons, List.drop_eq_getElem_cons hk1, arC_cons, ← ih (k + 1) (by omega)]
      have e : nxt (xs.drop (k + 1)) (ptAt xs 0) = ptAt xs ((k + 1) % xs.length) := by
        unfold nxt
        rw [List.head?_drop]
        rcases Nat.lt_or_ge (k + 1) xs.length with h1 | h1
        · rw [Nat.mod_eq_of_lt h1, List.getElem?_eq_getElem h1, ptAt_lt h1]; rfl
        · have h2 : k + 1 = xs.length := by omega
          rw [List.getElem?_eq_none (by omega), h2, Nat.mod_self]; rfl
      rw [e]
      unfold areaK
      rw [ptAt_lt hk1]
  have := h xs.length 0 (by omega)
  rw [List.drop_zero, ← List.range_eq_range'] at this
  exact this
theorem areaZ_nxt (xs : List Pt) (z : Pt) : areaZ xs = arC xs (nxt xs z) := by
  rw [areaZ_C]
  cases xs <;> rfl
theorem areaZ_app (x y : Pt) (u v : List Pt) : areaZ ((x :: u) ++ (y :: v)) = arC (x :: u) y + arC (y :: v) x := by
  rw [areaZ_nxt _ x, arC_app]
  rfl
theorem areaZ_rotA (j : Nat) (xs : List Pt) : areaZ (rot j xs) = areaZ xs := by
  have hx := List.take_append_drop j xs
  unfold rot
  generalize xs.take j = u at hx
  generalize xs.drop j = v at hx
  subst hx
  cases u with
  | nil => simp
  | cons x u =>
    cases v with
    | nil => simp
    | cons y v => rw [areaZ_app, areaZ_app]; omega
theorem areaZ_lst (xs : List Pt) : areaZ (lst xs) = areaZ xs := by
  obtain ⟨j, -, e⟩ := lst_eq_rot xs
  rw [e, areaZ_rotA]
theorem cr_mid {x y q : Pt} (h : cr x y q = 0) : cr ⟨0, 0⟩ x q + cr ⟨0, 0⟩ q y = cr ⟨0, 0⟩ x y := by
  unfold cr at h ⊢
  grind
theorem arC_ins (q : Pt) (z : Pt) (xs : List Pt) : arC (insC q xs z) z = arC xs z := by
  induction xs with
  | nil => rfl
  | cons x r ih =>
    rw [insC_cons]
    by_cases h : inSB x (nxt r z) q = true
    · rw [if_pos h]
      show cr ⟨0, 0⟩ x q + (cr ⟨0, 0⟩ q (nxt (insC q r z) z) + arC (insC q r z) z) = cr ⟨0, 0⟩ x (nxt r z) + arC r z
      rw [nxt_insC, ih, ← cr_mid ((onB_iff _ _ _).1 (inSB_iff.1 h).1).1]
      omega
    · rw [if_neg h, List.nil_append]
      show cr ⟨0, 0⟩ x (nxt (insC q r z) z) + arC (insC q r z) z = cr ⟨0, 0⟩ x (nxt r z) + arC r z
      rw [nxt_insC, ih]
theorem areaZ_ins (q : Pt) (xs : List Pt) : areaZ (insG q xs) = areaZ xs := by
  rw [insG_C, areaZ_C xs]
  cases xs with
  | nil => rfl
  | cons x r =>
    have := arC_ins q x (x :: r)
    rw [areaZ_C]
    exact this
theorem arC_rev (r : List Pt) : ∀ x z : Pt, arC (z :: r.reverse) x = - arC (x :: r) z := by
  induction r with
  | nil =>
    intro x z
    show cr ⟨0, 0⟩ z x + 0 = -(cr ⟨0, 0⟩ x z + 0)
    unfold cr
    grind
  | cons y r ih =>
    intro x z
    rw [List.reverse_cons, ← List.cons_append, arC_app]
    show arC (z :: r.reverse) y + (cr ⟨0, 0⟩ y x + 0) = -(cr ⟨0, 0⟩ x y + arC (y :: r) z)
    rw [ih y z]
    unfold cr
    grind
/-- A ring of which two corners are named. -/
theorem ring_split {r : List Pt} {a b : Pt} (hn : r.Nodup) (ha : a ∈ r) (hb : b ∈ r) (hab : a ≠ b) : ∃ j, r = rot j (a :: wayI r a b ++ b :: wayI r b a) := by
  obtain ⟨s, t, hst⟩ := List.append_of_mem ha
  have hb2 : b ∈ t ++ s := by
    rw [hst] at hb
    simp only [List.mem_append, List.mem_cons] at hb ⊢
    rcases hb with h | h | h
    · exact .inr h
    · exact absurd h.symm hab
    · exact .inl h
  obtain ⟨u, v, huv⟩ := List.append_of_mem hb2
  have hL : r.length = u.length + v.length + 2 := by
    have := congrArg List.length huv
    rw [hst]
    simp at this ⊢
    omega
  have hrr : ∃ j, j < (a :: u ++ b :: v).length ∧ r = rot j (a :: u ++ b :: v) := by
    have e : a :: u ++ b :: v = (a :: t) ++ s := by rw [List.cons_append, ← huv]; rfl
    rw [e]
    cases s with
    | nil => exact ⟨0, by simp, by rw [hst]; simp [rot]⟩
    | cons y s => exact ⟨(a :: t).length, by simp, by rw [hst]; unfold rot; rw [List.drop_left, List.take_left]⟩
  obtain ⟨j, hj, e⟩ := hrr
  have hn2 : (a :: u ++ b :: v).Nodup := by
    have hp : r.Perm (a :: u ++ b :: v) := by
      conv => lhs; rw [e]
      unfold rot
      exact List.perm_append_comm.trans (by rw [List.take_append_drop])
    exact hp.nodup_iff.1 hn
  have h1 : wayI r a b = u := by
    conv => lhs; rw [e]
    exact wayI_rot hn2 hj
  have hl2 : (b :: v ++ a :: u).length = (a :: u ++ b :: v).length := by simp; omega
  have e2 : a :: u ++ b :: v = rot (b :: v).length (b :: v ++ a :: u) := by unfold rot; rw [List.drop_left, List.take_left]
  have hn3 : (b :: v ++ a :: u).Nodup := (List.perm_append_comm (l₁ := a :: u) (l₂ := b :: v)).nodup_iff.1 hn2
  have h2 : wayI r b a = v := by
    conv => lhs; rw [e, e2]
    rw [rot_rot (by simp) (by rw [hl2]; exact hj)]
    exact wayI_rot hn3 (Nat.mod_lt _ (by simp))
  rw [h1, h2]
  exact ⟨j, e⟩
theorem parts_area {r path : List Pt} (hn : r.Nodup) (l1 : 2 ≤ path.length) (ha : path0 path ∈ r) (hb : path1 path ∈ r) (hab : path0 path ≠ path1 path) : areaZ (partA r path) + areaZ (partB r path) = areaZ r := by
  obtain ⟨u, hu⟩ := path_ends l1
  obtain ⟨j, hj⟩ := ring_split hn ha hb hab
  unfold partA partB
  generalize path0 path = a at *
  generalize path1 path = b at *
  rw [areaZ_lst, areaZ_lst]
  conv => rhs; rw [hj]
  rw [areaZ_rotA, areaZ_app, hu]
  have e1 : (a :: u ++ [b]).reverse ++ wayI r a b = (b :: u.reverse) ++ (a :: wayI r a b) := by simp
  have e2 : a :: u ++ [b] ++ wayI r b a = (a :: u) ++ (b :: wayI r b a) := by simp
  rw [e1, e2, areaZ_app, areaZ_app, arC_rev]
  omega
theorem ring_nd {p : Plan} {a b : Pt} {xs : List Pt} (hs : SoundP p) (hx : ringOf p xs) (ha : good a = true) (hb : good b = true) (hab : a ≠ b) : (lst (insG b (lst (insG a xs)))).Nodup ∧ areaZ (lst (insG b (lst (insG a xs)))) = areaZ xs := by
  obtain ⟨-, h2, -, h4⟩ := sound_len hs hx
  obtain ⟨n1, n2, -⟩ := ins_two h4 h2 ha hb hab
  refine ⟨?_, by rw [areaZ_lst, areaZ_ins, areaZ_lst, areaZ_ins]⟩
  rw [lst_ins n2]
  exact (perm_lst _).nodup_iff.2 n2
/-- What the parcels of two numbers are together. -/
def sumI (i j : Int) (ps : List Parc) : Int := areasL (ps.filter fun x => decide (x.id = i) || decide (x.id = j))
theorem areasL_app (a b : List Parc) : areasL (a ++ b) = areasL a + areasL b := by
  induction a with
  | nil => show areasL b = 0 + areasL b; omega
  | cons x a ih => rw [List.cons_append, areasL_cons, areasL_cons, ih]; omega
theorem areasL_one (x : Parc) : areasL [x] = areaZ x.ring := by rw [areasL_cons]; show _ + 0 = _; omega
theorem sumI_snoc (i j : Int) (ps : List Parc) (x : Parc) : sumI i j (ps ++ [x]) = sumI i j ps + (if x.id = i ∨ x.id = j then areaZ x.ring else 0) := by
  unfold sumI
  rw [List.filter_append, areasL_app]
  by_cases h : x.id = i ∨ x.id = j
  · rw [if_pos h, List.filter_cons_of_pos (by simpa using h), List.filter_nil, areasL_one]
  · rw [if_neg h, List.filter_cons_of_neg (by simpa using h), List.filter_nil]
    rfl
theorem sumI_perm {i j : Int} {a b : List Parc} (h : a.Perm b) : sumI i j a = sumI i j b := areasL_perm (h.filter _)
theorem areas_pos : ∀ (ps : List Parc), (∀ x ∈ ps, 0 ≤ areaZ x.ring) → 0 ≤ areasL ps
  | [], _ => Int.le_refl _
  | x :: ps, h => by
    rw [areasL_cons]
    have := h x (by simp)
    have := areas_pos ps fun y hy => h y (by simp [hy])
    omega
/-- Both parts are together what the parcel was; the others are as they were, but for corners on their edges. -/
theorem areas_cut {p : Plan} {id fresh : Int} {path : List Pt} (h : spE p id path fresh = 0) : ∃ k : Nat, SoundP p ∧ SoundP (spP p id path fresh) ∧ k < p.parcels.length ∧ atP p.parcels id = (k : Int) ∧ (spP p id path fresh).parcels.length = p.parcels.length + 1 ∧ areaZ (spP p id path fresh).outer = areaZ p.outer ∧
    sumI id fresh (spP p id path fresh).parcels = areaZ (pcAt p.parcels k).ring ∧
    (∀ x ∈ (spP p id path fresh).parcels, x.id ≠ id → x.id ≠ fresh → ∃ j : Nat, j < p.parcels.length ∧ atP p.parcels x.id = (j : Int) ∧ (pcAt p.parcels j).owner = x.owner ∧ areaZ (pcAt p.parcels j).ring = areaZ x.ring) ∧
    (∀ i, i ≤ (spP p id path fresh).parcels.length → 0 ≤ sumI id fresh ((spP p id path fresh).parcels.take i) ∧ sumI id fresh ((spP p id path fresh).parcels.take i) ≤ areaZ (pcAt p.parcels k).ring) := by
  obtain ⟨k, r, o, hk, hat, hid, hr, ho, hs, hq, hp, l1, -, hg, hne, hf, hno, s0, s1, m1, m2⟩ := cut_parts h
  have ga := goodL_mem hg (path0_mem l1).1
  have gb := goodL_mem hg (path0_mem l1).2
  have hpw := listed_pw hs.1
  have hmem := pcAt_mem hk
  have hring := ring_nd (a := path0 path) (b := path1 path) hs (xs := (pcAt p.parcels k).ring) (.inr ⟨_, hmem, rfl⟩) ga gb hne
  have hidf : id ≠ fresh := fun e => atP_no hno hmem (by rw [hid, e])
  rw [← cutRing_eq hk, ← hr] at hring
  have hhas := cut_has hs hk ga gb s0 s1
  rw [← hr] at hhas
  have hpa := parts_area hring.1 l1 hhas.1 hhas.2 hne
  have hids : ∀ r, (setR (spB p (path0 path) (path1 path)) k r).parcels.map (·.id) = p.parcels.map (·.id) := fun r => by rw [setR_ids]; unfold spB; rw [each_ids, each_ids]
  have hk2 : k < (spB p (path0 path) (path1 path)).parcels.length := by rw [spB_len]; exact hk
  have hperm : (spP p id path fresh).parcels.Perm ((setR (spB p (path0 path) (path1 path)) k (partA r path)).parcels ++ [⟨fresh, partB r path, o⟩]) := by
    rw [hp]
    unfold spQ
    rw [← hr, ← ho]
    exact putId_perm (no_ids (hids _) hno)
  have hsum : sumI id fresh (spP p id path fresh).parcels = areaZ (pcAt p.parcels k).ring := by
    rw [sumI_perm hperm, sumI_snoc, if_pos (.inr rfl), ← hring.2, ← hpa]
    have e1 : sumI id fresh (setR (spB p (path0 path) (path1 path)) k (partA r path)).parcels = areaZ (partA r path) := by
      have hset := set_perm hk2 (⟨(pcAt (spB p (path0 path) (path1 path)).parcels k).id, partA r path, (pcAt (spB p (path0 path) (path1 path)).parcels k).owner⟩ : Parc)
      show sumI id fresh ((spB p (path0 path) (path1 path)).parcels.set k _) = _
      rw [sumI_perm hset]
      have hki : (pcAt (spB p (path0 path) (path1 path)).parcels k).id = id := by rw [pcAt_spB hk]; exact hid
      have hpw2 : (spB p (path0 path) (path1 path)).parcels.Pairwise (fun x y => x.id < y.id) := pw_ids (by unfold spB; rw [each_ids, each_ids]) hpw
      have hnone : ∀ y ∈ (spB p (path0 path) (path1 path)).parcels.eraseIdx k, ¬ (y.id = id ∨ y.id = fresh) := fun y hy hor => by
        rw [List.mem_eraseIdx_iff_getElem] at hy
        obtain ⟨i, hi, hik, e⟩ := hy
        have hym : y ∈ (spB p (path0 path) (path1 path)).parcels := by rw [← e]; exact List.getElem_mem hi
        rcases hor with h1 | h1
        · have := List.pairwise_iff_getElem.1 hpw2
          rw [pcAt_lt hk2] at hki
          rcases Nat.lt_or_gt_of_ne hik with h2 | h2
          · have := this i k hi hk2 h2; rw [e] at this; omega
          · have := this k i hk2 hi h2; rw [e] at this; omega
        · exact no_ids (by unfold spB; rw [each_ids, each_ids]) hno y hym h1
      unfold sumI
      rw [List.filter_cons_of_pos (by simp [hki]), areasL_cons, List.filter_eq_nil_iff.2 (fun y hy => by simpa using hnone y hy)]
      show areaZ (partA r path) + 0 = _
      omega
    rw [e1]
  refine ⟨k, hs, hq, hk, hat, ?_, ?_, hsum, fun x hx h1 h2 => ?_, fun i hi => ?_⟩
  · rw [hperm.length_eq, List.length_append]
    show (List.set _ _ _).length + 1 = _
    rw [List.length_set, spB_len]
  · rw [hp]
    exact (ring_nd hs (.inl rfl) ga gb hne).2
  · rcases List.mem_append.1 (hperm.mem_iff.1 hx) with hx | hx
    · rcases List.mem_or_eq_of_mem_set hx with hx | rfl
      · unfold spB at hx
        obtain ⟨y, hy, rfl⟩ := each_sound hx
        obtain ⟨z, hz, rfl⟩ := each_sound hy
        obtain ⟨j, hj, haj, hxj⟩ := atP_yes hpw hz
        exact ⟨j, hj, haj, by rw [hxj]; rfl, by rw [hxj]; exact (ring_nd hs (.inr ⟨z, hz, rfl⟩) ga gb hne).2.symm⟩
      · exact absurd (by rw [pcAt_spB hk]; exact hid) h1
    · rw [List.mem_singleton.1 hx] at h2
      exact absurd rfl h2
  · have hpos : ∀ x ∈ (spP p id path fresh).parcels, 0 ≤ areaZ x.ring := fun x hx => Int.le_of_lt (checkI_zero (hq.2.2.1 x hx).1).2.2.2.1
    have hsub : ∀ l : List Parc, (∀ x ∈ l, x ∈ (spP p id path fresh).parcels) → 0 ≤ sumI id fresh l := fun l hl => areas_pos _ fun x hx => hpos x (hl x (List.mem_filter.1 hx).1)
    have e : sumI id fresh ((spP p id path fresh).parcels.take i) + sumI id fresh ((spP p id path fresh).parcels.drop i) = sumI id fresh (spP p id path fresh).parcels := by
      unfold sumI
      rw [← areasL_app, ← List.filter_append, List.take_append_drop]
    have h1 := hsub (List.take i _) fun x hx => List.mem_of_mem_take hx
    have h2 := hsub (List.drop i _) fun x hx => List.mem_of_mem_drop hx
    rw [hsum] at e
    exact ⟨h1, by omega⟩
end Go.Proofs.YtmegmokjjlelgaaGreat
