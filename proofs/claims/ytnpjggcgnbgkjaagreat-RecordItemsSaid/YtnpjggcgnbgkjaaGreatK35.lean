/- merestonelaw14.answers: true; merestonelaw14.RecordItems: the walk. -/
import Derived.Test.YtnpjggcgnbgkjaaGreatK22
import Derived.Test.YtnpjggcgnbgkjaaGreatK25
import Derived.Test.YtnpjggcgnbgkjaaGreatK29
import Derived.Test.YtnpjggcgnbgkjaaGreatK33
import Derived.Test.YtnpjggcgnbgkjaaGreatK34
namespace Go.Proofs.YtnpjggcgnbgkjaaGreat
open Go.RowKit Go.Lib
abbrev nulJ : ByteArray := ⟨#[]⟩
def kR : List Pt := [⟨0, 0⟩, ⟨4, 0⟩, ⟨4, 4⟩, ⟨0, 4⟩]
def kP : Plan := ⟨kR, [⟨1, kR, nulJ⟩]⟩
theorem pairsOK_of {xs : List Pt} (h : ((List.range xs.length).all fun j => (List.range j).all fun i => pairOK xs i j) = true) : PairsOK xs := fun i j hij hj => by
  rw [List.all_eq_true] at h
  have h1 := h j (List.mem_range.2 hj)
  rw [List.all_eq_true] at h1
  exact h1 i (List.mem_range.2 hij)
theorem pairsE_of {l : List Ed} (h : ((List.range l.length).all fun j => (List.range j).all fun i => okR (edAt l i) (edAt l j)) = true) : PairsE l := fun i j hi hj hij => by
  rw [List.all_eq_true] at h
  have h1 := h j (List.mem_range.2 hj)
  rw [List.all_eq_true] at h1
  have h2 := h1 i (List.mem_range.2 hij)
  rw [edAt_lt hi, edAt_lt hj] at h2
  exact h2
theorem norm_of {xs : List Pt} (h1 : areaE xs = 0) (h2 : 3 ≤ xs.length) (h3 : 0 < areaZ xs) (h4 : ((List.range xs.length).all fun j => (List.range j).all fun i => pairOK xs i j) = true) (h5 : lst xs = xs) : NormedP xs := ⟨checkI_ok h1 h2 h3 (pairsOK_of h4), h5.symm⟩
set_option maxRecDepth 100000 in
theorem kR_norm : NormedP kR := norm_of (by decide) (by decide) (by decide) (by decide) (by decide)
set_option maxRecDepth 100000 in
theorem kP_sound : SoundP kP := by
  have e : allE kP.parcels = edgesOf kR := by unfold allE kP; simp
  refine ⟨by decide, kR_norm, fun x hx => ?_, ?_, ?_, by decide⟩
  · have : x = ⟨1, kR, nulJ⟩ := by simpa [kP] using hx
    rw [this]
    exact kR_norm
  · unfold MatchP
    rw [e]
    exact ⟨by decide, fun e h => h, by decide⟩
  · rw [e]
    exact pairsE_of (by decide)
theorem kP_its : (planIts kP).length = 8 := by
  have h : checkI kR = 0 := kR_norm.1
  have h2 : (cellsL kR).length = 1 := by unfold cellsL; rw [if_pos h]; decide
  unfold planIts
  simp only [kP, List.flatMap_cons, List.flatMap_nil, List.append_nil, List.length_append]
  rw [parIts_eq]
  unfold parOP ringIts
  simp only [List.length_append, List.length_cons, List.length_map, List.length_range]
  rw [h2]
  decide
set_option maxRecDepth 100000 in
set_option maxHeartbeats 1600000 in
theorem ans14_any (w : World) : Calls Tryz.prog 23 #[] w fun e w' => e = .returned (.bool true) ∧ Below w.heap.size w w' := by
  obtain ⟨w0, hw0⟩ : ∃ W, W = w.alloc (.cells #[.int .i64 0, .int .i64 0, .int .i64 4, .int .i64 0, .int .i64 4, .int .i64 4, .int .i64 0, .int .i64 4] 35) := ⟨_, rfl⟩
  have hb0 : Below w.heap.size w w0 := by rw [hw0]; exact (Below.refl _ _).alloc (Nat.le_refl _) _
  have hs0 : w0.heap.size = w.heap.size + 1 := by rw [hw0, World.size_alloc]
  obtain ⟨w1, hw1⟩ : ∃ W, W = w0.alloc (.cells #[.int .i64 1, .slice (some ⟨w.heap.size, 0, none⟩) 4 4, .string nulJ] 37) := ⟨_, rfl⟩
  have hb1 : Below w0.heap.size w0 w1 := by rw [hw1]; exact (Below.refl _ _).alloc (Nat.le_refl _) _
  have hO : Reads w0 w0.heap.size 2 (some ⟨w.heap.size, 0, none⟩) 4 (ptsV kR) := by rw [hw0]; exact Reads.made w #[.int .i64 0, .int .i64 0, .int .i64 4, .int .i64 0, .int .i64 4, .int .i64 4, .int .i64 0, .int .i64 4] 35 (0, 0) 2 4 (ptsV kR) rfl rfl
  have hC : Blk w1 (w.heap.size + 1) 37 #[.int .i64 1, .slice (some ⟨w.heap.size, 0, none⟩) 4 4, .string nulJ] := by rw [hw1, ← hs0]; exact Blk.new w0 _ _
  have hbb : Below w.heap.size w w1 := below_on hb0 (Nat.le_refl _) hb1
  have hin : ∀ p ∈ kR, p.inI := by intro p hp; simp [kR] at hp; rcases hp with rfl | rfl | rfl | rfl <;> (unfold Pt.inI; simp)
  have hP : PlanAt w1 w1.heap.size (some ⟨w.heap.size, 0, none⟩) 4 4 (some ⟨w.heap.size + 1, 0, none⟩) 1 1 kP := by
    refine ⟨hO.on hb1, pIn_one (x := ⟨1, kR, nulJ⟩) hC (hO.on hb1) (Nat.le_refl _) (by omega) (Blk.lt hC), ⟨Nat.le_refl _, by omega⟩, ⟨Nat.le_refl _, by omega⟩, ⟨⟨by decide, hin⟩, by decide, fun x hx => ?_⟩⟩
    have : x = ⟨1, kR, nulJ⟩ := by simpa [kP] using hx
    rw [this]
    exact ⟨by decide, hin, by unfold inI; simp, by decide⟩
  have KM := Lib.hid (items_any kP _ _ 4 4 1 1 w1 hP)
  have HB := Lib.hid hbb
  obtain ⟨W, hW⟩ : ∃ W, W = w1 := ⟨_, rfl⟩
  rw [← hW] at KM HB
  rw [hw1, hw0] at hW
  clear hO hC hbb hin hP hb0 hb1 hs0 hw0 hw1 w0 w1
  go_enter Tryz.func23, Tryz.ntmps23
  go_wp2_with fail
  rw [← hW]
  clear hW
  refine KM.out.mono ?_
  rintro e w1 ⟨hyes, -, hb1⟩
  obtain ⟨A, c, d, rfl, ho, hri, hpm⟩ := hyes (planB_yes kP_sound)
  have hn : d.length = 8 := by have := hpm.length_eq; rw [List.length_map, kP_its] at this; exact this
  rw [hn] at ho
  rw [hn]
  have HZ := Lib.hid (below_on HB.out (Nat.le_refl _) hb1)
  clear ho hri hpm hb1 HB hyes hn KM
  go_wp2_with fail
  go_ret
  exact ⟨rfl, HZ.out⟩
end Go.Proofs.YtnpjggcgnbgkjaaGreat
namespace Go.Proofs.YtnpjggcgnbgkjaaGreat
open Go.RowKit Go.Lib
/-- An item of the plan is found among its items by rising keys. -/
theorem find_item {L M : List It} (hr : Rising (L.map (·.k))) (hp : L.Perm M) {i : Nat} (hi : i < M.length) : ∃ k : Nat, k < L.length ∧ findI L (itAt M i).k = (k : Int) ∧ itAt L k = itAt M i := by
  have hm : itAt M i ∈ L := hp.mem_iff.2 (itAt_mem hi)
  rcases findI_cases L (itAt M i).k with ⟨-, h⟩ | ⟨k, hk, h1, h2, -⟩
  · exact absurd rfl (h _ hm)
  · exact ⟨k, hk, h1, mem_of_key hr.nodup (itAt_mem hk) hm h2⟩
set_option maxRecDepth 100000 in
set_option maxHeartbeats 6400000 in
theorem recordItems_any (p : Plan) (A A' : Option Addr) (n c n' c' : Nat) (w : World) (h : PlanAt w w.heap.size A n c A' n' c' p) :
    Calls Tryz.prog 5 #[planV A n c A' n' c'] w fun e w' => e = .returned (.bool true) ∧ Below w.heap.size w w' := by
  obtain ⟨w1, hw1⟩ : ∃ w1, w1 = w.alloc (.cells #[.slice A n c, .slice A' n' c'] 26) := ⟨_, rfl⟩
  have hB1 : Below w.heap.size w w1 := by rw [hw1]; exact (Below.refl _ _).alloc (Nat.le_refl _) _
  have hK1 : PlK w1 w.heap.size A n c A' n' c' := by rw [hw1]; exact PlK.new w A n c A' n' c'
  have H1 := Lib.hid (And.intro h (And.intro hK1 hB1))
  clear h hB1 hK1
  go_enter Tryz.func5, Tryz.ntmps5
  go_upto_region 1 with fail
  rw [← hw1]
  clear hw1
  go_wp2_with fail
  refine (ans14_any w1).mono ?_
  rintro e w2 ⟨rfl, hb2⟩
  have H2 := Lib.hid (And.intro (H1.out.1.on (below_on H1.out.2.2 (Nat.le_refl _) hb2)) (And.intro (H1.out.2.1.on hb2) (below_on H1.out.2.2 (Nat.le_refl _) hb2)))
  obtain ⟨q1, q2, q3⟩ := H2.out.2.1.facts
  clear hb2 H1
  go_wp2_with fail
  refine (few14_any p A A' n c n' c' w2 H2.out.1).mono ?_
  rintro e w3 ⟨b, rfl, hfew, hb3⟩
  have H3 := Lib.hid (And.intro (H2.out.1.on hb3) (And.intro (H2.out.2.1.on hb3) (below_on H2.out.2.2 (Nat.le_refl _) hb3)))
  obtain ⟨q1, q2, q3⟩ := H3.out.2.1.facts
  clear hb3 H2
  rcases b with _ | _
  · go_wp2_with fail
    refine (ans14_any w3).mono ?_
    rintro e w4 ⟨rfl, hb4⟩
    have H4 := Lib.hid (below_on H3.out.2.2 (Nat.le_refl _) hb4)
    clear hb4 H3
    go_wp2_with fail
    go_ret
    exact ⟨rfl, H4.out⟩
  have HF := Lib.hid (hfew rfl).1
  clear hfew
  go_wp2_with fail
  refine (ownPl_any p A A' n c n' c' w3 H3.out.1 (by have := HF.out; omega)).mono ?_
  rintro e w4 ⟨A4, n4, c4, A5, n5, c5, rfl, hP4, hb4⟩
  have H4 := Lib.hid (And.intro (H3.out.1.on hb4) (And.intro (H3.out.2.1.on hb4) (below_on H3.out.2.2 (Nat.le_refl _) hb4)))
  have HP4 := Lib.hid hP4
  clear hb4 H3 hP4 q1 q2 q3
  go_wp2_with fail
  refine (items_any p A4 A5 n4 c4 n5 c5 w4 HP4.out).mono ?_
  rintro e w5 ⟨hyes, hno, hb5⟩
  have H5 := Lib.hid (And.intro (H4.out.1.on hb5) (And.intro (H4.out.2.1.on hb5) (below_on H4.out.2.2 (Nat.le_refl _) hb5)))
  obtain ⟨q1, q2, q3⟩ := H5.out.2.1.facts
  have HS4 := Lib.hid H4.out.2.2.size
  clear hb5 H4 HP4
  have KC := Lib.hid (checkPR_any p A A' n c n' c')
  rcases hpb : planB p with _ | _
  · obtain rfl := hno hpb
    have HPB := Lib.hid hpb
    clear hyes hno hpb
    go_wp2_with fail
    refine (KC.out w5 H5.out.1).mono ?_
    rintro e w6 ⟨rfl, hb6⟩
    rw [HPB.out]
    have H6 := Lib.hid (below_on H5.out.2.2 (Nat.le_refl _) hb6)
    clear hb6 H5 KC q1 q2 q3
    go_wp2_with fail
    go_ret
    exact ⟨rfl, H6.out⟩
  · obtain ⟨B, cB, d, rfl, hown, hri, hpm⟩ := hyes hpb
    have HD := Lib.hid (And.intro hri hpm)
    have HO := Lib.hid hown
    have HPB := Lib.hid hpb
    clear hyes hno hri hpm hown hpb
    go_wp2_with fail
    refine (KC.out w5 H5.out.1).mono ?_
    rintro e w6 ⟨rfl, hb6⟩
    rw [HPB.out]
    have H6 := Lib.hid (And.intro (H5.out.1.on hb6) (And.intro (H5.out.2.1.on hb6) (And.intro (below_on H5.out.2.2 (Nat.le_refl _) hb6) (HO.out.below hb6))))
    obtain ⟨q1, q2, q3⟩ := H6.out.2.1.facts
    clear hb6 H5 KC HO
    go_wp2_with fail
    refine (itemsL_any p A A' n c n' c' w6 H6.out.1 (planB_sound HPB.out)).mono ?_
    rintro e w7 ⟨C, cC, d2, rfl, ho7, hd7, hb7⟩
    have hlen : d2.length = d.length := by
      have h1 := congrArg List.length hd7
      have h2 := HD.out.2.length_eq
      rw [List.length_map] at h1 h2
      omega
    rw [hlen] at ho7 ⊢
    have hpm2 : (d.map (·.1)).Perm (d2.map (·.1)) := by rw [hd7]; exact HD.out.2
    have hsm : d.length ≤ 1048576 := by
      have h2 := HD.out.2.length_eq
      rw [List.length_map] at h2
      have h3 := flat_few (ps := p.parcels) (fun y hy => ((recOK_sound (planB_sound HPB.out)).pcs y hy).2.2)
      have h4 : (ringIts [111] p.outer 0).length ≤ 300 := by
        rw [ring_len]
        have h5 := (recOK_sound (planB_sound HPB.out)).out.2
        have := chkN_le (n := p.outer.length) (m := 8) (by omega)
        omega
      have h5 := (listed_bd (planB_sound HPB.out).1).2.1
      unfold planIts at h2
      rw [List.length_append] at h2
      omega
    obtain ⟨N, hN⟩ : ∃ N, d.length = N := ⟨_, rfl⟩
    rw [hN] at ho7 hsm ⊢
    have hown6 := H6.out.2.2.2
    rw [hN] at hown6
    have hb57 := hown6.below hb7
    have H7 := Lib.hid (And.intro (below_on H6.out.2.2.1 (Nat.le_refl _) hb7) (And.intro hb57.at_ (And.intro ho7.at_ (And.intro hN (And.intro (hlen.trans hN) (And.intro hsm (And.intro HD.out.1 hpm2)))))))
    clear hb7 H6 hown6 hb57 ho7 hlen hpm2 hsm hN hd7 HD q1 q2 q3
    go_wp2_with fail
    refine (rising_any d B N cB w7 H7.out.2.1 H7.out.2.2.2.2.2.1).mono ?_
    rintro e w8 ⟨b, rfl, hb, hb8⟩
    obtain rfl : b = true := hb.2 H7.out.2.2.2.2.2.2.1
    have H8 := Lib.hid (And.intro (below_on H7.out.1 (Nat.le_refl _) hb8) (And.intro (H7.out.2.1.on hb8) (H7.out.2.2.1.on hb8)))
    clear hb hb8
    go_wp2_with fail
    go_loopw [6] (fun i wr => ∃ k : Nat, k ≤ N ∧ i = .int .i64 (k : Int) ∧ Hid (Below w.heap.size w wr ∧ ItsAt wr wr.heap.size B N cB d ∧ ItsAt wr wr.heap.size C N cC d2)) (fun i _ => N - (intOf i).toNat)
    case atStart => exact ⟨0, Nat.zero_le _, rfl, H8.out⟩
    case round =>
      clear H8
      obtain ⟨i, hi, rfl, HW⟩ := hrel
      by_cases hlt : i < N
      · have hlt' : (i : Int) < (N : Int) := by omega
        have hw1 : IntKind.i64.wrap ((i : Int) + 1) = (i : Int) + 1 := by have := H7.out.2.2.2.2.2.1; rw [IntKind.wrap_i64]; omega
        have hid2 : i < d2.length := by rw [H7.out.2.2.2.2.1]; exact hlt
        obtain ⟨k, hkl, hf1, hf2⟩ := find_item (L := d.map (·.1)) (by rw [List.map_map]; exact H7.out.2.2.2.2.2.2.1) H7.out.2.2.2.2.2.2.2 (i := i) (by rw [List.length_map]; exact hid2)
        have hkd : k < d.length := by rw [List.length_map] at hkl; exact hkl
        have hkN : k < N := by rw [← H7.out.2.2.2.1]; exact hkd
        rw [itAt_lt (l := d2.map (·.1)) (k := i) (by rw [List.length_map]; exact hid2), List.getElem_map] at hf1
        rw [itAt_lt (l := d2.map (·.1)) (k := i) (by rw [List.length_map]; exact hid2), List.getElem_map, itAt_lt hkl, List.getElem_map] at hf2
        obtain ⟨cd, rfl, -, -⟩ := HW.out.2.2.1.2 (by omega)
        obtain ⟨bd, rfl, -, -⟩ := HW.out.2.1.1.2 (by omega)
        obtain ⟨hcb, p1, p2⟩ := HW.out.2.2.cells hlt hid2
        obtain ⟨hbb, r1, r2⟩ := HW.out.2.1.cells hkN hkd
        have hrk := HW.out.2.2.2.1 _ (List.getElem_mem hid2)
        have hrl := HW.out.2.1.2.1 _ (List.getElem_mem hkd)
        obtain ⟨y, hy⟩ : ∃ y, d2[i] = y := ⟨_, rfl⟩
        obtain ⟨x, hx⟩ : ∃ x, d[k] = x := ⟨_, rfl⟩
        rw [hy] at hf1 hf2 p1 p2 hrk
        rw [hx] at hf2 r1 r2 hrl
        have KF := Lib.hid (find_any d y.1.k (some bd) y.2.1.1 N cB y.2.1.2.1 y.2.1.2.2 wr HW.out.2.1 hrk.1.1 H7.out.2.2.2.2.2.1)
        have HF1 := Lib.hid (And.intro hf1 (And.intro hf2 (And.intro hrk hrl)))
        have HC := Lib.hid (And.intro hcb (And.intro p2 (And.intro hbb r2)))
        clear hf1 hf2 hrk hrl hcb hbb r1 r2 p2 hy hx hkl hkd hid2 hi
        obtain ⟨⟨yk, yv⟩, ⟨yA, yn, yc⟩, ⟨vA, vn, vc⟩⟩ := y
        obtain ⟨⟨xk, xv⟩, ⟨xA, xn, xc⟩, ⟨uA, un, uc⟩⟩ := x
        go_wp2_with fail
        refine KF.out.mono ?_
        rintro e w9 ⟨rfl, hb9⟩
        rw [HF1.out.1]
        have hvv : xv = yv := congrArg It.v HF1.out.2.1
        subst hvv
        have hz0 : (0 : Int) ≤ (k : Int) := by omega
        have hP0 : (w9.drew.cell? ⟨(bd.add (k * 2)).block, (bd.add (k * 2)).off + 1, none⟩ = some (.slice uA un uc)) ∧ (w9.drew.cell? ⟨(cd.add (i * 2)).block, (cd.add (i * 2)).off + 1, none⟩ = some (.slice vA vn vc)) ∧ (convert 52 9 (.slice uA un uc)).run Tryz.prog w9.drew = .ok (.string ⟨xv.toArray⟩) w9.drew ∧ (convert 52 9 (.slice vA vn vc)).run Tryz.prog w9.drew = .ok (.string ⟨xv.toArray⟩) w9.drew :=
          ⟨(hb9.cell (p := ⟨(bd.add (k * 2)).block, (bd.add (k * 2)).off + 1, none⟩) (show (bd.add (k * 2)).block < _ by rw [block_of_add]; exact HC.out.2.2.1)).trans HC.out.2.2.2, (hb9.cell (p := ⟨(cd.add (i * 2)).block, (cd.add (i * 2)).off + 1, none⟩) (show (cd.add (i * 2)).block < _ by rw [block_of_add]; exact HC.out.1)).trans HC.out.2.1, run_str (c := uc) (HF1.out.2.2.2.2.on hb9).1.drew, run_str (c := vc) (HF1.out.2.2.1.2.on hb9).1.drew⟩
        have H9 := Lib.hid (And.intro (below_on HW.out.1 (Nat.le_refl _) hb9) (And.intro (HW.out.2.1.on hb9) (HW.out.2.2.on hb9)))
        clear hb9 HW KF HF1 HC
        go_upto_region 13 with fail
        refine wp_region_held_drew (S := fun V => (V.cell? ⟨(bd.add (k * 2)).block, (bd.add (k * 2)).off + 1, none⟩ = some (.slice uA un uc)) ∧ (V.cell? ⟨(cd.add (i * 2)).block, (cd.add (i * 2)).off + 1, none⟩ = some (.slice vA vn vc)) ∧ (convert 52 9 (.slice uA un uc)).run Tryz.prog V = .ok (.string ⟨xv.toArray⟩) V ∧ (convert 52 9 (.slice vA vn vc)).run Tryz.prog V = .ok (.string ⟨xv.toArray⟩) V) (by kernel_rfl) ?_ (fun hHeld => ?_)
        · exact hP0
        refine tk 0 ?_
        refine tk 1 ?_
        refine tk 2 ?_
        refine tk 3 ?_
        refine tk 4 ?_
        refine tk 5 ?_
        refine tk 6 ?_
        refine tk 7 ?_
        refine tk 8 ?_
        refine tk 9 ?_
        refine tk 10 ?_
        refine tk 11 ?_
        refine tk 12 ?_
        refine tk 13 ?_
        refine tk 14 ?_
        refine tk 15 ?_
        refine tk 16 ?_
        refine wpAnyH_done (by kernel_rfl) ?_ _
        clear hHeld hP0
        go_wp2_with fail
        go_roundw
        case rel => exact ⟨i + 1, by omega, by go_num, H9.out.1.drew, H9.out.2.1.on (Below.refl _ _).drew, H9.out.2.2.on (Below.refl _ _).drew⟩
        case measure => simp [intOf]; omega
      · have HB := Lib.hid HW.out.1
        clear HW
        go_wp2_with fail
        go_ret
        exact ⟨rfl, HB.out⟩
end Go.Proofs.YtnpjggcgnbgkjaaGreat
