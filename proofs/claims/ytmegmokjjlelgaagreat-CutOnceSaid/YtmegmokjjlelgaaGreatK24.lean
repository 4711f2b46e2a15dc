/- merestonelaw06.CutOnce answers true for every input and leaves its arguments as they were. No condition. -/
import Derived.Test.YtmegmokjjlelgaaGreatK01
import Derived.Test.YtmegmokjjlelgaaGreatK21
import Derived.Test.YtmegmokjjlelgaaGreatK23
namespace Go.Proofs.YtmegmokjjlelgaaGreat
/-- A path has two ends and what lies between. -/
theorem path_ends {path : List Pt} (h : 2 ≤ path.length) : ∃ u : List Pt, path = path0 path :: u ++ [path1 path] := by
  obtain ⟨a, r, rfl⟩ : ∃ a r, path = a :: r := by
    cases path with
    | nil => simp at h
    | cons a r => exact ⟨a, r, rfl⟩
  have hr : r ≠ [] := fun e => by rw [e] at h; simp at h
  have hl := List.length_pos_iff.2 hr
  refine ⟨r.dropLast, ?_⟩
  have e : path1 (a :: r) = r.getLast hr := by
    unfold path1 ptAt
    rw [List.length_cons, Nat.add_sub_cancel, List.getLast_eq_getElem hr]
    obtain ⟨m, hm⟩ : ∃ m, r.length = m + 1 := ⟨r.length - 1, by omega⟩
    simp only [hm, List.getElem?_cons_succ, Nat.add_sub_cancel]
    rw [List.getElem?_eq_getElem (by omega)]
    rfl
  rw [e]
  show a :: r = a :: (r.dropLast ++ [r.getLast hr])
  rw [List.dropLast_concat_getLast hr]
theorem sound_len {p : Plan} {xs : List Pt} (hs : SoundP p) (h : ringOf p xs) : 3 ≤ xs.length ∧ xs.Nodup ∧ lst xs = xs ∧ checkI xs = 0 := ⟨(sound_ring hs h).2.2.1, (sound_nodup hs h).1, (sound_nodup hs h).2.1, (sound_ring hs h).2.2.2⟩
/-- A corner of a sound ring is within none of its edges. -/
theorem corner_out {xs : List Pt} {q : Pt} (hc : checkI xs = 0) (hq : q ∈ xs) : insG q xs = xs := by
  obtain ⟨-, hg, h3, -, hp⟩ := checkI_zero hc
  refine ins_none fun k hk hin => ?_
  obtain ⟨i, hi, hx⟩ := List.getElem_of_mem hq
  rw [← ptAt_lt hi] at hx
  have hik : i ≠ k := fun e => hin.2.1 (by rw [← hx, e])
  have hik2 : i ≠ (k + 1) % xs.length := fun e => hin.2.2 (by rw [← hx, e])
  have ht : meetR (ptAt xs i) (ptAt xs ((i + 1) % xs.length)) (ptAt xs k) (ptAt xs ((k + 1) % xs.length)) ≠ 0 := fun e => by
    have h1 := meetR_pos (ptAt xs i) (ptAt xs ((i + 1) % xs.length)) (ptAt xs k) (ptAt xs ((k + 1) % xs.length))
    rw [e] at h1
    have hm : ptAt xs i ∈ endsL (ptAt xs i) (ptAt xs ((i + 1) % xs.length)) (ptAt xs k) (ptAt xs ((k + 1) % xs.length)) := by
      unfold endsL
      rw [show onB (ptAt xs k) (ptAt xs ((k + 1) % xs.length)) (ptAt xs i) = true by rw [hx]; exact hin.1]
      simp
    exact absurd (h1.2 (.inl fun e2 => by rw [e2] at hm; exact List.not_mem_nil hm)) (by decide)
  have hcase : k = (i + 1) % xs.length ∧ meetR (ptAt xs i) (ptAt xs ((i + 1) % xs.length)) (ptAt xs k) (ptAt xs ((k + 1) % xs.length)) = 1 := by
    have hor : i < k ∨ k < i := by omega
    rcases hor with h | h
    · have h1 := hp i k h hk
      unfold pairOK at h1
      rw [Bool.and_eq_true, decide_eq_true_eq, decide_eq_true_eq] at h1
      have h2 := h1.2
      unfold meetOf at h2
      by_cases hnx : nextB xs.length i k = true
      · rw [if_pos hnx] at h2
        refine ⟨?_, h2⟩
        unfold nextB at hnx
        simp at hnx
        rcases hnx with e | ⟨e1, e2⟩
        · rw [Nat.mod_eq_of_lt (by omega)]; exact e
        · exfalso
          apply hik2
          rw [e2, show xs.length - 1 + 1 = xs.length by omega, Nat.mod_self]
          exact e1
      · rw [if_neg hnx] at h2
        exact absurd h2 ht
    · have h1 := hp k i h hi
      unfold pairOK at h1
      rw [Bool.and_eq_true, decide_eq_true_eq, decide_eq_true_eq] at h1
      have h2 := h1.2
      unfold meetOf at h2
      rw [meetR_comm] at h2
      by_cases hnx : nextB xs.length k i = true
      · rw [if_pos hnx] at h2
        refine ⟨?_, h2⟩
        unfold nextB at hnx
        simp at hnx
        rcases hnx with e | ⟨e1, e2⟩
        · exfalso
          apply hik2
          rw [Nat.mod_eq_of_lt (by omega)]; exact e
        · rw [e2, show xs.length - 1 + 1 = xs.length by omega, Nat.mod_self]
          exact e1
      · rw [if_neg hnx] at h2
        exact absurd h2 ht
  obtain ⟨hk2, h1⟩ := hcase
  rw [← hk2] at h1
  have h2 := (one_iff.1 h1).1 (by rw [hx]; exact hin.1)
  exact hin.2.1 (by rw [← hx, h2])
theorem perm_lst (xs : List Pt) : (lst xs).Perm xs := by
  obtain ⟨j, -, e⟩ := lst_eq_rot xs
  rw [e]
  unfold rot
  exact List.perm_append_comm.trans (by rw [List.take_append_drop])
/-- What lies between a path's ends, once it is the border of a ring. -/
theorem once_a {u v : List Pt} {a b : Pt} {R : List Pt} (hR : R = lst ((a :: u ++ [b]).reverse ++ v)) (hn : R.Nodup) : wayI R b a = u.reverse := by
  have e : (a :: u ++ [b]).reverse ++ v = b :: u.reverse ++ a :: v := by simp
  rw [e] at hR
  have hn2 : (b :: u.reverse ++ a :: v).Nodup := (perm_lst _).nodup_iff.1 (by rw [← hR]; exact hn)
  obtain ⟨j, hj, hl⟩ := lst_eq_rot (b :: u.reverse ++ a :: v)
  rw [hR, hl]
  exact wayI_rot hn2 (hj (by simp))
theorem once_b {u v : List Pt} {a b : Pt} {R : List Pt} (hR : R = lst ((a :: u ++ [b]) ++ v)) (hn : R.Nodup) : wayI R a b = u := by
  have e : (a :: u ++ [b]) ++ v = a :: u ++ b :: v := by simp
  rw [e] at hR
  have hn2 : (a :: u ++ b :: v).Nodup := (perm_lst _).nodup_iff.1 (by rw [← hR]; exact hn)
  obtain ⟨j, hj, hl⟩ := lst_eq_rot (a :: u ++ b :: v)
  rw [hR, hl]
  exact wayI_rot hn2 (hj (by simp))
/-- A path and the same way back is no ring. -/
theorem no_back {xs u : List Pt} {a b : Pt} (h3 : 3 ≤ xs.length) (hn : xs.Nodup) (h : xs.Perm ((a :: u ++ [b]) ++ u.reverse)) : False := by
  have hn2 := h.nodup_iff.1 hn
  have hl := h.length_eq
  cases u with
  | nil => simp at hl; omega
  | cons x u =>
    rw [List.nodup_append] at hn2
    exact hn2.2.2 x (by simp) x (by simp) rfl
theorem mem_putId {x y : Parc} {ps : List Parc} : y ∈ putId x ps ↔ y = x ∨ (y ∈ ps ∧ y.id ≠ x.id) := by
  unfold putId
  rw [List.mem_append, List.mem_cons, List.mem_filter, List.mem_filter, decide_eq_true_eq, decide_eq_true_eq]
  constructor
  · rintro (⟨h1, h2⟩ | rfl | ⟨h1, h2⟩)
    · exact .inr ⟨h1, by omega⟩
    · exact .inl rfl
    · exact .inr ⟨h1, by omega⟩
  · rintro (rfl | ⟨h1, h2⟩)
    · exact .inr (.inl rfl)
    · rcases Int.lt_or_gt_of_ne h2 with h | h
      · exact .inl ⟨h1, h⟩
      · exact .inr (.inr ⟨h1, h⟩)
theorem setR_mem {p : Plan} {k : Nat} {r : List Pt} (hk : k < p.parcels.length) : (⟨(pcAt p.parcels k).id, r, (pcAt p.parcels k).owner⟩ : Parc) ∈ (setR p k r).parcels := by
  unfold setR
  exact List.mem_set hk _
theorem atP_yes {ps : List Parc} {x : Parc} (hp : ps.Pairwise (fun x y => x.id < y.id)) (hx : x ∈ ps) : ∃ j : Nat, j < ps.length ∧ atP ps x.id = (j : Int) ∧ pcAt ps j = x := by
  rcases atP_cases ps x.id with ⟨-, h1⟩ | ⟨k, hk, h1, h2⟩
  · obtain ⟨j, hj, rfl⟩ := List.getElem_of_mem hx
    exact absurd (by rw [pcAt_lt hj]) (h1 j hj)
  · exact ⟨k, hk, h1, pw_inj hp (pcAt_mem hk) hx h2⟩
/-- What a cut that is made says: its two parts, each a parcel of a sound plan. -/
theorem cut_parts {p : Plan} {id fresh : Int} {path : List Pt} (h : spE p id path fresh = 0) : ∃ (k : Nat) (r : List Pt) (o : ByteArray), k < p.parcels.length ∧ atP p.parcels id = (k : Int) ∧ (pcAt p.parcels k).id = id ∧ r = cutRing p k (path0 path) (path1 path) ∧ o = (pcAt p.parcels k).owner ∧ SoundP p ∧ SoundP (spP p id path fresh) ∧ spP p id path fresh = spQ p k path fresh ∧
    2 ≤ path.length ∧ path.length ≤ 128 ∧ goodL path = true ∧ path0 path ≠ path1 path ∧ idB fresh = true ∧ atP p.parcels fresh < 0 ∧ sideI (pcAt p.parcels k).ring (path0 path) = 0 ∧ sideI (pcAt p.parcels k).ring (path1 path) = 0 ∧
    (⟨id, partA r path, o⟩ : Parc) ∈ (spP p id path fresh).parcels ∧ (⟨fresh, partB r path, o⟩ : Parc) ∈ (spP p id path fresh).parcels := by
  obtain ⟨h1, h2, h3⟩ := spE_zero h
  obtain ⟨hs, ⟨k, hk, hat, hid, s0, s1⟩, hf, l1, l2, hno, hg, hne⟩ := faultI_zero h1
  rw [hat, Int.toNat_natCast] at h2 h3
  have hmem := pcAt_mem hk
  have hidf : id ≠ fresh := fun e => atP_no hno hmem (by rw [hid, e])
  refine ⟨k, _, _, hk, hat, hid, rfl, rfl, hs, by rw [h3]; exact planB_sound h2, h3, l1, l2, hg, hne, hf, hno, s0, s1, ?_, ?_⟩
  · rw [h3]
    refine mem_putId.2 (.inr ⟨?_, hidf⟩)
    have := setR_mem (p := spB p (path0 path) (path1 path)) (k := k) (r := partA (cutRing p k (path0 path) (path1 path)) path) (by rw [spB_len]; exact hk)
    rw [pcAt_spB hk] at this
    rw [← hid]
    exact this
  · rw [h3]
    exact mem_putId.2 (.inl rfl)
/-- A ring that has the two corners stays as it is. -/
theorem ring_stays {p : Plan} {k : Nat} {a b : Pt} (hs : SoundP p) (hk : k < p.parcels.length) (ha : a ∈ (pcAt p.parcels k).ring) (hb : b ∈ (pcAt p.parcels k).ring) : cutRing p k a b = (pcAt p.parcels k).ring := by
  obtain ⟨-, -, h3, h4⟩ := sound_len hs (xs := (pcAt p.parcels k).ring) (.inr ⟨_, pcAt_mem hk, rfl⟩)
  rw [cutRing_eq hk, corner_out h4 ha, h3, corner_out h4 hb, h3]
theorem planB_yes {p : Plan} (h : SoundP p) : planB p = true := by unfold planB; simpa using h
/-- What was cut can be cut by no such path again, and the number is taken. -/
theorem once_law {p : Plan} {id fresh other : Int} {path : List Pt} (h : spE p id path fresh = 0) : spE (spP p id path fresh) id path fresh = 6 ∧ spE (spP p id path fresh) id path other ≠ 0 ∧ spE (spP p id path fresh) fresh path other ≠ 0 := by
  obtain ⟨k, r, o, hk, hat, hid, -, -, hs, hq, -, l1, l2, hg, hne, hf, hno, s0, s1, m1, m2⟩ := cut_parts h
  generalize spP p id path fresh = Q at *
  have hpw := listed_pw hq.1
  obtain ⟨u, hu⟩ := path_ends l1
  obtain ⟨hp0, hp1⟩ := path0_mem l1
  obtain ⟨i, hi, hai, hxi⟩ := atP_yes hpw m1
  obtain ⟨j, hj, haj, hxj⟩ := atP_yes hpw m2
  simp only at hai haj
  have wi := fun (x : Parc) (hx : x ∈ Q.parcels) => sound_len hq (xs := x.ring) (.inr ⟨x, hx, rfl⟩)
  refine ⟨?_, fun h' => ?_, fun h' => ?_⟩
  · refine spE_fault ?_ (by decide)
    unfold faultI
    rw [if_neg (by rw [planB_yes hq]; simp), if_neg (by omega), if_neg (by rw [hf]; simp; omega), if_pos (by omega)]
  · obtain ⟨k2, r2, o2, hk2, hat2, hid2, hr2, -, -, hq2, -, -, -, -, -, -, -, -, -, n1, n2⟩ := cut_parts h'
    obtain rfl : k2 = i := by omega
    obtain ⟨-, w2, w3, -⟩ := wi _ m1
    have hA : path0 path ∈ partA r path := mem_lst.2 (List.mem_append_left _ (List.mem_reverse.2 hp0))
    have hB : path1 path ∈ partA r path := mem_lst.2 (List.mem_append_left _ (List.mem_reverse.2 hp1))
    have hst := ring_stays (a := path0 path) (b := path1 path) hq hk2 (by rw [hxi]; exact hA) (by rw [hxi]; exact hB)
    rw [hst, hxi] at hr2
    have hw : wayI (partA r path) (path1 path) (path0 path) = u.reverse := once_a (u := u) (v := wayI r (path0 path) (path1 path)) (by rw [← hu]; rfl) w2
    obtain ⟨v1, v2, -, -⟩ := sound_len hq2 (xs := partB r2 path) (.inr ⟨_, n2, rfl⟩)
    refine no_back v1 v2 (a := path0 path) (b := path1 path) (u := u) ?_
    rw [hr2, ← hu, ← hw]
    exact perm_lst _
  · obtain ⟨k2, r2, o2, hk2, hat2, hid2, hr2, -, -, hq2, -, -, -, -, -, -, -, -, -, n1, n2⟩ := cut_parts h'
    obtain rfl : k2 = j := by omega
    obtain ⟨-, w2, w3, -⟩ := wi _ m2
    have hA : path0 path ∈ partB r path := mem_lst.2 (List.mem_append_left _ hp0)
    have hB : path1 path ∈ partB r path := mem_lst.2 (List.mem_append_left _ hp1)
    have hst := ring_stays (a := path0 path) (b := path1 path) hq hk2 (by rw [hxj]; exact hA) (by rw [hxj]; exact hB)
    rw [hst, hxj] at hr2
    have hw : wayI (partB r path) (path0 path) (path1 path) = u := once_b (u := u) (v := wayI r (path1 path) (path0 path)) (by rw [← hu]; rfl) w2
    obtain ⟨v1, v2, -, -⟩ := sound_len hq2 (xs := partA r2 path) (.inr ⟨_, n1, rfl⟩)
    refine no_back v1 v2 (a := path1 path) (b := path0 path) (u := u.reverse) ?_
    rw [hr2]
    have e : path1 path :: u.reverse ++ [path0 path] = path.reverse := by
      conv => rhs; rw [hu]
      simp
    rw [e, List.reverse_reverse]
    conv => rhs; rw [← hw]
    exact perm_lst _
end Go.Proofs.YtmegmokjjlelgaaGreat
namespace Go.Proofs.YtmegmokjjlelgaaGreat
open Go.RowKit
def SF300 (n n' : Nat) (p : Plan) (w : World) (e : Ending) (w' : World) : Prop := ∃ b : Bool, e = .returned (.bool b) ∧ (b = true → n' ≤ 80 ∧ cornN n p.parcels ≤ 300) ∧ Below w.heap.size w w'
theorem SF300.mk {n n' : Nat} {p : Plan} {w : World} {e : Ending} {w' : World} (b : Bool) (h1 : e = .returned (.bool b)) (h2 : b = true → n' ≤ 80 ∧ cornN n p.parcels ≤ 300) (h3 : Below w.heap.size w w') : SF300 n n' p w e w' := ⟨b, h1, h2, h3⟩
set_option maxRecDepth 100000 in
set_option maxHeartbeats 1600000 in
theorem few6_any (p : Plan) (A A' : Option Addr) (n c n' c' : Nat) (w : World) (h : PlanAt w w.heap.size A n c A' n' c' p) :
    Calls Tryz.prog 16 #[planV A n c A' n' c'] w (SF300 n n' p w) := by
  obtain ⟨hl1, hl2, hl3, hl4⟩ := h.lens
  have HP := Lib.hid (And.intro h.parcs h.fits)
  have hK0 := PlK.new w A n c A' n' c'
  have hB0 := (Below.refl w.heap.size w).alloc (Nat.le_refl _) (.cells #[.slice A n c, .slice A' n' c'] 26)
  have HL2 := Lib.hid hl2
  have H0 := Lib.hid (And.intro hB0 hK0)
  obtain ⟨q1, q2, -⟩ := hK0.facts
  clear hB0 hK0 h hl1 hl2
  go_enter Tryz.func16, Tryz.ntmps16
  go_wp2_with fail
  obtain ⟨wo, hwo⟩ : ∃ wo : World, wo = w.alloc (.cells #[.slice A n c, .slice A' n' c'] 26) := ⟨_, rfl⟩
  rw [← hwo] at H0 q1 q2
  try rw [← hwo]
  clear hwo q1 q2
  go_loopw [3, 4] (fun s i wr => ∃ (k N : Nat), k ≤ n' ∧ i = .int .i64 (k : Int) ∧ s = .int .i64 (N : Int) ∧ N ≤ 17592186044416 ∧ Hid (cornN n p.parcels = cornN N (p.parcels.drop k)) ∧ Below w.heap.size w wr ∧ PlK wr w.heap.size A n c A' n' c') (fun _ i _ => n' - (intOf i).toNat)
  case atStart => exact ⟨0, n, Nat.zero_le _, rfl, rfl, by omega, rfl, H0.out⟩
  case round =>
    clear H0
    obtain ⟨k, N, hk, rfl, rfl, hN, HN, hbel, hK⟩ := hrel
    obtain ⟨q1, q2, -⟩ := hK.facts
    by_cases hgo : k < n' ∧ k < 81 ∧ N ≤ 300
    · obtain ⟨hlt, h81, hlim⟩ := hgo
      have g1 : (k : Int) < (n' : Int) := by omega
      have g2 : (k : Int) < 81 := by omega
      have g3 : (N : Int) ≤ 300 := by omega
      have hw1 : IntKind.i64.wrap ((k : Int) + 1) = (k : Int) + 1 := by rw [IntKind.wrap_i64]; omega
      have hlk : k < p.parcels.length := by have := HL2.out; omega
      obtain ⟨ad, rfl⟩ := HP.out.1.some_ (by omega)
      obtain ⟨-, p1, ⟨Ak, nk, ck, p2, hrk, -, -⟩, p3⟩ := (HP.out.1.below hbel).at_ hlt
      have hf := (HP.out.2.pc hlk).1
      rw [hrk.lenPt] at hf
      have hw2 : IntKind.i64.wrap ((N : Int) + (nk : Int)) = (N : Int) + (nk : Int) := by rw [IntKind.wrap_i64]; omega
      have HD : Hid (cornN n p.parcels = cornN (N + nk) (p.parcels.drop (k + 1))) := by
        have hdk : p.parcels.drop k = pcAt p.parcels k :: p.parcels.drop (k + 1) := by rw [List.drop_eq_getElem_cons hlk, pcAt_lt hlk]
        have := HN.out
        rw [hdk, cornN_cons, hrk.lenPt] at this
        exact this
      have HB := Lib.hid (And.intro hbel hK)
      clear hbel hK HN hrk
      go_wp2_with fail
      go_roundw
      case rel => exact ⟨k + 1, N + nk, by omega, by go_num, by go_num, by omega, HD.out, HB.out⟩
      case measure => simp [intOf]; omega
    · have HB := Lib.hid hbel
      clear hbel hK
      by_cases g5 : N ≤ 300
      · have g6 : (N : Int) ≤ 300 := by omega
        by_cases g7 : n' ≤ 80
        · have g8 : (n' : Int) ≤ 80 := by omega
          have hkn : k = n' := by omega
          subst hkn
          have HC : Hid (cornN n p.parcels ≤ 300) := by
            have := HN.out
            rw [List.drop_of_length_le (by have := HL2.out; omega), cornN_nil] at this
            show _ ≤ _
            omega
          have g9 : ¬ (k : Int) < (k : Int) := by omega
          clear hgo
          go_wp2_with fail
          go_ret
          exact SF300.mk true rfl (fun _ => ⟨g7, HC.out⟩) HB.out
        · have g8 : ¬ (n' : Int) ≤ 80 := by omega
          by_cases g9 : k < n'
          · have g10 : (k : Int) < (n' : Int) := by omega
            have g11 : ¬ (k : Int) < 81 := by omega
            clear hgo
            go_wp2_with fail
            go_ret
            exact SF300.mk false (by first | rfl | (show Ending.returned (.bool (decide ((n' : Int) ≤ 80))) = _; rw [decide_eq_false (by omega)])) (fun h => by cases h) HB.out
          · have g10 : ¬ (k : Int) < (n' : Int) := by omega
            clear hgo
            go_wp2_with fail
            go_ret
            exact SF300.mk false (by first | rfl | (show Ending.returned (.bool (decide ((n' : Int) ≤ 80))) = _; rw [decide_eq_false (by omega)])) (fun h => by cases h) HB.out
      · have g6 : ¬ (N : Int) ≤ 300 := by omega
        by_cases g9 : k < n'
        · have g10 : (k : Int) < (n' : Int) := by omega
          by_cases g11 : k < 81
          · have g12 : (k : Int) < 81 := by omega
            clear hgo
            go_wp2_with fail
            go_ret
            exact SF300.mk false rfl (fun h => by cases h) HB.out
          · have g12 : ¬ (k : Int) < 81 := by omega
            clear hgo
            go_wp2_with fail
            go_ret
            exact SF300.mk false rfl (fun h => by cases h) HB.out
        · have g10 : ¬ (k : Int) < (n' : Int) := by omega
          clear hgo
          go_wp2_with fail
          go_ret
          exact SF300.mk false rfl (fun h => by cases h) HB.out
end Go.Proofs.YtmegmokjjlelgaaGreat
namespace Go.Proofs.YtmegmokjjlelgaaGreat
open Go.RowKit Go.Lib
abbrev nulJ : ByteArray := ⟨#[]⟩
def kR : List Pt := [⟨0, 0⟩, ⟨4, 0⟩, ⟨4, 4⟩, ⟨0, 4⟩]
def jO : List Pt := [⟨0, 0⟩, ⟨2, 0⟩, ⟨4, 0⟩, ⟨4, 4⟩, ⟨2, 4⟩, ⟨0, 4⟩]
def jA : List Pt := [⟨0, 0⟩, ⟨2, 0⟩, ⟨2, 4⟩, ⟨0, 4⟩]
def jB : List Pt := [⟨2, 0⟩, ⟨4, 0⟩, ⟨4, 4⟩, ⟨2, 4⟩]
def kW : List Pt := [⟨2, 0⟩, ⟨2, 4⟩]
def kP : Plan := ⟨kR, [⟨1, kR, nulJ⟩]⟩
def kQ : Plan := ⟨jO, [⟨1, jB, nulJ⟩, ⟨2, jA, nulJ⟩]⟩
theorem pairsOK_of {xs : List Pt} (h : ((List.range xs.length).all fun j => (List.range j).all fun i => pairOK xs i j) = true) : PairsOK xs := fun i j hij hj => by
  rw [List.all_eq_true] at h
  have h1 := h j (List.mem_range.2 hj)
  rw [List.all_eq_true] at h1
  exact h1 i (List.mem_range.2 hij)
theorem pairsE_of {l : List Ed} (h : ((List.range l.length).all fun j => (List.range j).all fun i => okR (edAt l i) (edAt l j)) = true) : PairsE l := fun i j hi hj hij => by
  rw [List.all_eq_true] at h
  have h1 := h j (List.mem_range.2 hj)
  rw [List.all_eq_true] at h1
  have h2 := h1 i (List.mem_range.2 hij)
  rw [edAt_lt hi, edAt_lt hj] at h2
  exact h2
theorem norm_of {xs : List Pt} (h1 : areaE xs = 0) (h2 : 3 ≤ xs.length) (h3 : 0 < areaZ xs) (h4 : ((List.range xs.length).all fun j => (List.range j).all fun i => pairOK xs i j) = true) (h5 : lst xs = xs) : NormedP xs := ⟨checkI_ok h1 h2 h3 (pairsOK_of h4), h5.symm⟩
set_option maxRecDepth 100000 in
theorem kR_norm : NormedP kR := norm_of (by decide) (by decide) (by decide) (by decide) (by decide)
set_option maxRecDepth 100000 in
theorem jO_norm : NormedP jO := norm_of (by decide) (by decide) (by decide) (by decide) (by decide)
set_option maxRecDepth 100000 in
theorem jA_norm : NormedP jA := norm_of (by decide) (by decide) (by decide) (by decide) (by decide)
set_option maxRecDepth 100000 in
theorem jB_norm : NormedP jB := norm_of (by decide) (by decide) (by decide) (by decide) (by decide)
set_option maxRecDepth 100000 in
theorem kP_sound : SoundP kP := by
  have e : allE kP.parcels = edgesOf kR := by unfold allE kP; simp
  refine ⟨by decide, kR_norm, fun x hx => ?_, ?_, ?_, by decide⟩
  · have : x = ⟨1, kR, nulJ⟩ := by simpa [kP] using hx
    rw [this]
    exact kR_norm
  · unfold MatchP
    rw [e]
    exact ⟨by decide, fun e h => h, by decide⟩
  · rw [e]
    exact pairsE_of (by decide)
set_option maxRecDepth 100000 in
theorem kQ_sound : SoundP kQ := by
  have e : allE kQ.parcels = edgesOf jB ++ edgesOf jA := by unfold allE kQ; simp
  refine ⟨by decide, jO_norm, fun x hx => ?_, ?_, ?_, by decide⟩
  · have : x = ⟨1, jB, nulJ⟩ ∨ x = ⟨2, jA, nulJ⟩ := by simpa [kQ] using hx
    rcases this with rfl | rfl
    · exact jB_norm
    · exact jA_norm
  · unfold MatchP
    rw [e]
    exact ⟨by decide, by decide, by decide⟩
  · rw [e]
    exact pairsE_of (by decide)
theorem kP_fault : faultI kP 1 kW 2 = 0 := by
  have h1 : atP kP.parcels 1 = 0 := by decide
  have h2 : atP kP.parcels 2 = -1 := by decide
  have h3 : sideI kR ⟨2, 0⟩ = 0 := sideI_on (k := 0) (by decide) (by decide)
  have h4 : sideI kR ⟨2, 4⟩ = 0 := sideI_on (k := 2) (by decide) (by decide)
  have h5 : sideI (pcAt kP.parcels (0 : Int).toNat).ring (ptAt kW 0) = 0 := h3
  have h6 : sideI (pcAt kP.parcels (0 : Int).toNat).ring (ptAt kW (kW.length - 1)) = 0 := h4
  unfold faultI
  rw [if_neg (by rw [planB_yes kP_sound]; decide), h1, if_neg (by decide), if_neg (by decide), h2, if_neg (by decide), if_neg (by decide), h5, h6, if_neg (by decide)]
set_option maxRecDepth 100000 in
theorem kP_spQ : spQ kP 0 kW 2 = kQ := by
  have e1 : insG ⟨2, 4⟩ (lst (insG ⟨2, 0⟩ kR)) = jO := by decide
  have e2 : lst jO = jO := by decide
  have eB : spB kP ⟨2, 0⟩ ⟨2, 4⟩ = ⟨jO, [⟨1, jO, nulJ⟩]⟩ := by
    unfold spB eachP kP eachX
    simp only [List.map_cons, List.map_nil, e1, e2]
  have e3 : partA jO kW = jB := by decide
  have e4 : partB jO kW = jA := by decide
  have a0 : path0 kW = ⟨2, 0⟩ := rfl
  have b0 : path1 kW = ⟨2, 4⟩ := rfl
  have eR : cutRing kP 0 ⟨2, 0⟩ ⟨2, 4⟩ = jO := by unfold cutRing; rw [eB]; rfl
  unfold spQ
  rw [a0, b0, eR, eB, e3, e4]
  rfl
theorem kP_split : spE kP 1 kW 2 = 0 ∧ spP kP 1 kW 2 = kQ := by
  have h1 : (atP kP.parcels 1).toNat = 0 := by decide
  have h : spE kP 1 kW 2 = 0 := by
    unfold spE
    rw [if_neg (by rw [kP_fault]; simp), h1, kP_spQ, if_pos (planB_yes kQ_sound)]
  exact ⟨h, by unfold spP; rw [if_pos h, h1, kP_spQ]⟩
set_option maxRecDepth 100000 in
set_option maxHeartbeats 1600000 in
theorem ans06_any (w : World) : Calls Tryz.prog 15 #[] w fun e w' => e = .returned (.bool true) ∧ Below w.heap.size w w' := by
  obtain ⟨w0, hw0⟩ : ∃ W, W = w.alloc (.cells #[.int .i64 0, .int .i64 0, .int .i64 4, .int .i64 0, .int .i64 4, .int .i64 4, .int .i64 0, .int .i64 4] 44) := ⟨_, rfl⟩
  have hb0 : Below w.heap.size w w0 := by rw [hw0]; exact (Below.refl _ _).alloc (Nat.le_refl _) _
  have hs0 : w0.heap.size = w.heap.size + 1 := by rw [hw0, World.size_alloc]
  obtain ⟨w1, hw1⟩ : ∃ W, W = w0.alloc (.cells #[.int .i64 1, .slice (some ⟨w.heap.size, 0, none⟩) 4 4, .string nulJ] 40) := ⟨_, rfl⟩
  have hb1 : Below w0.heap.size w0 w1 := by rw [hw1]; exact (Below.refl _ _).alloc (Nat.le_refl _) _
  have hs1 : w1.heap.size = w.heap.size + 1 + 1 := by rw [hw1, World.size_alloc, hs0]
  obtain ⟨w2, hw2⟩ : ∃ W, W = w1.alloc (.cells #[.int .i64 2, .int .i64 0, .int .i64 2, .int .i64 4] 44) := ⟨_, rfl⟩
  have hb2 : Below w1.heap.size w1 w2 := by rw [hw2]; exact (Below.refl _ _).alloc (Nat.le_refl _) _
  have hO : Reads w0 w0.heap.size 2 (some ⟨w.heap.size, 0, none⟩) 4 (ptsV kR) := by rw [hw0]; exact Reads.made w #[.int .i64 0, .int .i64 0, .int .i64 4, .int .i64 0, .int .i64 4, .int .i64 4, .int .i64 0, .int .i64 4] 44 (0, 0) 2 4 (ptsV kR) rfl rfl
  have hA : Reads w2 w2.heap.size 2 (some ⟨w.heap.size + 1 + 1, 0, none⟩) 2 (ptsV kW) := by rw [← hs1, hw2]; exact Reads.made w1 #[.int .i64 2, .int .i64 0, .int .i64 2, .int .i64 4] 44 (0, 0) 2 2 (ptsV kW) rfl rfl
  have hC : Blk w1 (w.heap.size + 1) 40 #[.int .i64 1, .slice (some ⟨w.heap.size, 0, none⟩) 4 4, .string nulJ] := by rw [hw1, ← hs0]; exact Blk.new w0 _ _
  have hbb : Below w.heap.size w w2 := below_on (below_on hb0 (Nat.le_refl _) hb1) (Nat.le_refl _) hb2
  have hin : ∀ p ∈ kR, p.inI := by intro p hp; simp [kR] at hp; rcases hp with rfl | rfl | rfl | rfl <;> (unfold Pt.inI; simp)
  have hiw : ∀ p ∈ kW, p.inI := by intro p hp; simp [kW] at hp; rcases hp with rfl | rfl <;> (unfold Pt.inI; simp)
  have hP : PlanAt w2 w2.heap.size (some ⟨w.heap.size, 0, none⟩) 4 4 (some ⟨w.heap.size + 1, 0, none⟩) 1 1 kP := by
    refine ⟨(hO.on hb1).on hb2, pIn_one (x := ⟨1, kR, nulJ⟩) (Blk.below hC hb2 (Blk.lt hC)) ((hO.on hb1).on hb2) (Nat.le_refl _) (by omega) (Nat.lt_of_lt_of_le (Blk.lt hC) hb2.size), ⟨Nat.le_refl _, by omega⟩, ⟨Nat.le_refl _, by omega⟩, ⟨⟨by decide, hin⟩, by decide, fun x hx => ?_⟩⟩
    have : x = ⟨1, kR, nulJ⟩ := by simpa [kP] using hx
    rw [this]
    exact ⟨by decide, hin, by unfold inI; simp, by decide⟩
  have kM := spP_any kP 1 2 kW _ _ (some ⟨w.heap.size + 1 + 1, 0, none⟩) 4 4 1 1 2 2 w2 hP hA hiw (by omega)
  rw [kP_split.1, kP_split.2] at kM
  have KM := Lib.hid kM
  have HB := Lib.hid hbb
  obtain ⟨W, hW⟩ : ∃ W, W = w2 := ⟨_, rfl⟩
  rw [← hW] at KM HB
  rw [hw2, hw1, hw0] at hW
  clear hO hA hC hbb hin hiw hP kM hb0 hb1 hb2 hs0 hs1 hw0 hw1 hw2 w0 w1 w2
  go_enter Tryz.func15, Tryz.ntmps15
  go_wp2_with fail
  rw [← hW]
  clear hW
  refine KM.out.mono ?_
  rintro e w1 ⟨A, n, c, A', n', c', hs, rfl, hpo, hb1⟩
  have hP := hpo.at_
  have hn : n' = 2 := hP.lens.2.1.symm
  subst hn
  have hK := PlK.new w1 A n c A' 2 c'
  obtain ⟨z1, z2, -⟩ := hK.facts
  have HZ := Lib.hid ((below_on HB.out (Nat.le_refl _) hb1).alloc (below_on HB.out (Nat.le_refl _) hb1).size (.cells #[.slice A n c, .slice A' 2 c'] 26))
  clear hP hpo hb1 HB KM hK
  go_wp2_with fail
  go_ret
  exact ⟨rfl, HZ.out⟩
end Go.Proofs.YtmegmokjjlelgaaGreat
namespace Go.Proofs.YtmegmokjjlelgaaGreat
open Go.RowKit Go.Lib
set_option maxRecDepth 100000 in
set_option maxHeartbeats 3200000 in
theorem split6_any (p : Plan) (id fresh : Int) (path : List Pt) (A A' B : Option Addr) (n c n' c' m cb : Nat) (w : World) (h : PlanAt w w.heap.size A n c A' n' c' p) (hr : Reads w w.heap.size 2 B m (ptsV path)) (hx : ∀ q ∈ path, q.inI) (hn : n' ≤ 1048576) (hm : m ≤ 1048576) :
    Calls Tryz.prog 17 #[planV A n c A' n' c', .int .i64 id, .slice B m cb, .int .i64 fresh] w (ResPostS (spP p id path fresh) (spE p id path fresh) w) := by
  obtain ⟨i0, hi0, hz0, hz1, hz2⟩ := info_parts info_pt
  obtain ⟨wa, hwa⟩ : ∃ wa : World, wa = (w.alloc (.cells #[.slice A n c, .slice A' n' c'] 26)).alloc (.cells #[.slice none 0 0, .slice none 0 0] 26) := ⟨_, rfl⟩
  have hF : SpF p path A n c A' n' c' B m w wa := by
    have hB0 : Below w.heap.size w wa := by rw [hwa]; exact ((Below.refl _ _).alloc (Nat.le_refl _) _).alloc (by simp) _
    refine ⟨hB0, by rw [hwa]; exact Blk.alloc (PlK.new w A n c A' n' c') _, ?_, h.on hB0, hr.on hB0⟩
    have := PlK.new (w.alloc (.cells #[.slice A n c, .slice A' n' c'] 26)) none 0 0 none 0 0
    rw [World.size_alloc] at this
    rw [hwa]
    exact this
  have KO := Lib.hid (ownPlS_any p A A' n c n' c' wa hF.2.2.2.1 hn)
  have H0 := Lib.hid hF
  have HX := Lib.hid hx
  obtain ⟨q1, q2, q3⟩ := hF.2.1.facts
  clear hF h hr hx
  go_enter Tryz.func17, Tryz.ntmps17
  go_upto_region 1 with fail
  rw [← hwa]
  clear hwa
  go_wp2_with fail
  refine KO.out.mono ?_
  rintro e w1 ⟨A1, n1, c1, A2, n2, c2, hs, rfl, hpo, hb1⟩
  have H1 := Lib.hid (H0.out.on hb1)
  have hba : Below w1.heap.size w1 (w1.alloc (.cells #[] 44)) := (Below.refl _ _).alloc (Nat.le_refl _) _
  have hown0 : (w1.alloc (.cells #[] 44)).ownsRow w1.heap.size 44 2 (.slice (some ⟨w1.heap.size, 0, none⟩) 0 0) 0 [] := World.ownsRow_made (base := w1.heap.size) (e := 44) (size := 2) w1 #[] 0 (Nat.le_refl _) (by simp [maxLen]) rfl
  have H2 := Lib.hid (And.intro hown0 (And.intro (H1.out.on hba).2.2.2.2 (And.intro hpo (And.intro (show 0 + m ≤ maxLen by simp only [maxLen]; omega) (And.intro (show (0 + m) * 16 ≤ 140737488355328 by omega) (show w1.heap.size ≤ (w1.alloc (.cells #[] 44)).heap.size by simp))))))
  clear hb1 hba hown0 hpo q1 q2 q3 KO H0
  go_wp2_with (at_builtin; refine wpList_append_any _ rfl (.tmp 13) (.tmp 14) _ rfl w1.heap.size 44 i0 _ 2 16 Tryz.underlying23 hi0 hz0 hz1 hz2 rfl (Nat.zero_lt_succ _) (.slice (some ⟨w1.heap.size, 0, none⟩) 0 0) 0 [] rfl H2.out.1 _ B m cb (ptsV path) rfl H2.out.2.1 (ptsV_one _) H2.out.2.2.2.1 H2.out.2.2.2.2.1 H2.out.2.2.2.2.2 ?_
               intro v6 w6 hown6 hg6 hat6
               simp only [Nat.zero_add, List.nil_append] at hown6
               obtain ⟨A6, c6, rfl⟩ := own_form hown6
               have hb6 : Below w1.heap.size w1 w6 := Below.grown ((Below.refl _ _).alloc (Nat.le_refl _) _) hg6 (by simp) (fun g e => by simp [Value.ownBlock] at e; omega)
               have KS := Lib.hid (spP_any p id fresh path A1 A2 A6 n1 c1 n2 c2 m c6 w6 (H2.out.2.2.1.at_.on hb6) (Reads.of_own hown6) HX.out (by omega))
               have H3 := Lib.hid (H1.out.on hb6)
               clear hown6 hg6 hat6 hb6 H2 H1)
  refine KS.out.mono ?_
  rintro e w7 ⟨A3, n3, c3, A4, n4, c4, hs4, rfl, hpo, hb7⟩
  obtain ⟨hb8, hR8⟩ := (H3.out.on hb7).res
  obtain ⟨V, hV, r1, r2, hbV⟩ := res_store (g := w.heap.size + 1) hb8 (by omega) hR8 (.slice A3 n3 c3) (.slice A4 n4 c4)
  obtain ⟨s1, s2, f1, f2⟩ := plk_facts4 hR8
  have hpoV := ((hpo.mono H3.out.1.size).store hR8 (by decide) (by decide) 0 (.slice A3 n3 c3)).store (Blk.set_ hR8 0 (.slice A3 n3 c3)) (by decide) (by decide) 1 (.slice A4 n4 c4)
  rw [← hV] at hpoV
  have HV := Lib.hid hV
  have HRR := Lib.hid (And.intro r1 (And.intro r2 (And.intro hbV hpoV)))
  obtain ⟨z, hz⟩ : ∃ z, z = spE p id path fresh := ⟨_, rfl⟩
  rw [← hz]
  have HZ := Lib.hid hz
  clear hV r1 r2 hbV hpoV hpo hb7 hb8 hR8 KS H3 hz
  go_wp2_with fail
  rw [← HV.out]
  obtain ⟨r1, r2, hbV, hpoV⟩ := HRR.out
  refine bodyPost_ret (v := .tuple #[planV A3 n3 c3 A4 n4 c4, .int .i64 z]) ?_ rfl ⟨A3, n3, c3, A4, n4, c4, _, by rw [HZ.out], hpoV, hbV⟩
  simp [results, Tryz.results17, go_sem, r1, r2]
end Go.Proofs.YtmegmokjjlelgaaGreat
namespace Go.Proofs.YtmegmokjjlelgaaGreat
open Go.RowKit Go.Lib
def CtF (p : Plan) (path : List Pt) (A : Option Addr) (n c : Nat) (A' : Option Addr) (n' c' : Nat) (B : Option Addr) (m : Nat) (w W : World) : Prop := Below w.heap.size w W ∧ PlK W w.heap.size A n c A' n' c' ∧ PlanAt W W.heap.size A n c A' n' c' p ∧ Reads W W.heap.size 2 B m (ptsV path)
theorem CtF.on {p : Plan} {path : List Pt} {A A' B : Option Addr} {n c n' c' m : Nat} {w W W' : World} (h : CtF p path A n c A' n' c' B m w W) (hb : Below W.heap.size W W') : CtF p path A n c A' n' c' B m w W' :=
  ⟨below_on h.1 (Nat.le_refl _) hb, h.2.1.on hb, h.2.2.1.on hb, h.2.2.2.on hb⟩
set_option maxRecDepth 100000 in
set_option maxHeartbeats 6400000 in
theorem cutOnce_any (p : Plan) (id fresh other : Int) (path : List Pt) (A A' B : Option Addr) (n c n' c' m cb : Nat) (w : World) (h : PlanAt w w.heap.size A n c A' n' c' p) (hr : Reads w w.heap.size 2 B m (ptsV path)) (hx : ∀ q ∈ path, q.inI) :
    Calls Tryz.prog 6 #[planV A n c A' n' c', .int .i64 id, .slice B m cb, .int .i64 fresh, .int .i64 other] w fun e w' => e = .returned (.bool true) ∧ Below w.heap.size w w' := by
  obtain ⟨wa, hwa⟩ : ∃ wa : World, wa = w.alloc (.cells #[.slice A n c, .slice A' n' c'] 26) := ⟨_, rfl⟩
  have hF : CtF p path A n c A' n' c' B m w wa := by
    have hB0 : Below w.heap.size w wa := by rw [hwa]; exact (Below.refl _ _).alloc (Nat.le_refl _) _
    exact ⟨hB0, by rw [hwa]; exact PlK.new w A n c A' n' c', h.on hB0, hr.on hB0⟩
  have H0 := Lib.hid hF
  have HX := Lib.hid hx
  clear hF h hr hx
  go_enter Tryz.func6, Tryz.ntmps6
  go_upto_region 1 with fail
  rw [← hwa]
  clear hwa
  go_wp2_with (go_at_call 15; (with_reducible refine (ans06_any _).mono ?_); rintro e w1 ⟨rfl, hb1⟩; have H1 := Lib.hid (H0.out.on hb1); obtain ⟨q1, q2, q3⟩ := H1.out.2.1.facts; clear hb1 H0)
  refine (few6_any p A A' n c n' c' w1 H1.out.2.2.1).mono ?_
  rintro e w2 ⟨fb, rfl, hsm, hb2⟩
  have H2 := Lib.hid (H1.out.on hb2)
  clear hb2 q1 q2 q3 H1
  rcases fb with _ | _
  · clear hsm
    go_wp2_with fail
    refine (ans06_any _).mono ?_
    rintro e w3 ⟨rfl, hb3⟩
    have HB := Lib.hid (below_on H2.out.1 (Nat.le_refl _) hb3)
    clear hb3 H2
    go_wp2_with fail
    go_ret
    exact ⟨rfl, HB.out⟩
  have hn' : n' ≤ 80 := (hsm rfl).1
  clear hsm
  by_cases hm : 150 < m
  · have hm' : (150 : Int) < (m : Int) := by omega
    go_wp2_with fail
    refine (ans06_any _).mono ?_
    rintro e w3 ⟨rfl, hb3⟩
    have HB := Lib.hid (below_on H2.out.1 (Nat.le_refl _) hb3)
    clear hb3 H2 hm hm'
    go_wp2_with fail
    go_ret
    exact ⟨rfl, HB.out⟩
  have hm' : ¬ (150 : Int) < (m : Int) := by omega
  have KS := Lib.hid (split6_any p id fresh path A A' B n c n' c' m cb w2 H2.out.2.2.1 H2.out.2.2.2 HX.out (by omega) (by omega))
  obtain ⟨z, hz⟩ : ∃ z, z = spE p id path fresh := ⟨_, rfl⟩
  obtain ⟨Q, hQ⟩ : ∃ Q, Q = spP p id path fresh := ⟨_, rfl⟩
  rw [← hz, ← hQ] at KS
  have HZ := Lib.hid (And.intro hz hQ)
  have HM := Lib.hid hm
  obtain ⟨q1, q2, q3⟩ := H2.out.2.1.facts
  clear hz hQ hm
  go_upto_region 3 with fail
  clear hm'
  go_wp2_with fail
  refine KS.out.mono ?_
  rintro e w3 ⟨A1, n1, c1, A2, n2, c2, hs, rfl, hpo, hb3⟩
  obtain ⟨W, hW⟩ : ∃ W, W = w3.alloc (.cells #[.slice A1 n1 c1, .slice A2 n2 c2] 26) := ⟨_, rfl⟩
  have hba : Below w3.heap.size w3 W := by rw [hW]; exact (Below.refl _ _).alloc (Nat.le_refl _) _
  have hK : PlK W w3.heap.size A1 n1 c1 A2 n2 c2 := by rw [hW]; exact PlK.new w3 A1 n1 c1 A2 n2 c2
  obtain ⟨Bq, hBq⟩ : ∃ Bq, Bq = w3.heap.size := ⟨_, rfl⟩
  rw [← hBq] at hK
  have hb3' := below_on hb3 (Nat.le_refl _) hba
  have H3 := Lib.hid (And.intro (H2.out.on hb3') (And.intro hK (hpo.at_.on hba)))
  clear hb3 hb3' hba hK hpo H2 KS q1 q2 q3
  go_upto_region 4 with fail
  rw [← hW, ← hBq]
  clear hW hBq
  by_cases hz0 : z = 0
  case neg =>
    have hne : (z != 0) = true := by simpa using hz0
    have HB := Lib.hid H3.out.1.1
    clear H3
    go_wp2_with fail
    go_ret
    exact ⟨rfl, HB.out⟩
  subst hz0
  have hol := once_law (other := other) HZ.out.1.symm
  rw [← HZ.out.2] at hol
  obtain ⟨z1, hz1⟩ : ∃ z, z = spE Q id path fresh := ⟨_, rfl⟩
  obtain ⟨z2, hz2⟩ : ∃ z, z = spE Q id path other := ⟨_, rfl⟩
  obtain ⟨z3, hz3⟩ : ∃ z, z = spE Q fresh path other := ⟨_, rfl⟩
  rw [← hz1, ← hz2, ← hz3] at hol
  obtain ⟨h61, h62, h63⟩ := hol
  subst h61
  have hn2 : n2 ≤ 1048576 := by
    have hs := (cut_parts HZ.out.1.symm)
    obtain ⟨k, r, o, -, -, -, -, -, -, hsd, -⟩ := hs
    have := (listed_bd hsd.1).2.1
    have h4 := H3.out.2.2.lens.2.1
    rw [HZ.out.2] at h4
    omega
  have HN := Lib.hid (And.intro hn2 (And.intro h62 h63))
  clear hn2 h62 h63
  obtain ⟨q1, q2, q3⟩ := H3.out.2.1.facts
  have kS := split6_any Q id fresh path A1 A2 B n1 c1 n2 c2 m cb _ H3.out.2.2 H3.out.1.2.2.2 HX.out HN.out.1 (by have := HM.out; omega)
  rw [← hz1] at kS
  have KS := Lib.hid kS
  clear kS hz1
  go_wp2_with fail
  refine KS.out.mono ?_
  rintro e w4 ⟨Ax, nx, cx, Ay, ny, cy, hs, rfl, hpo, hbn⟩
  have hbm := below_on hbn (Nat.le_refl _) (show Below w4.heap.size w4 (w4.alloc (.cells #[.slice Ax nx cx, .slice Ay ny cy] 26)) from (Below.refl _ _).alloc (Nat.le_refl _) _)
  have H4 := Lib.hid (And.intro (H3.out.1.on hbm) (And.intro (H3.out.2.1.on hbm) (H3.out.2.2.on hbm)))
  clear hbn hbm hpo KS H3 q1 q2 q3
  go_upto_region 7 with fail
  obtain ⟨q1, q2, q3⟩ := H4.out.2.1.facts
  have kS := split6_any Q id other path A1 A2 B n1 c1 n2 c2 m cb _ H4.out.2.2 H4.out.1.2.2.2 HX.out HN.out.1 (by have := HM.out; omega)
  rw [← hz2] at kS
  have KS := Lib.hid kS
  clear kS hz2
  go_wp2_with fail
  refine KS.out.mono ?_
  rintro e w5 ⟨Ax, nx, cx, Ay, ny, cy, hs, rfl, hpo, hbn⟩
  have hbm := below_on hbn (Nat.le_refl _) (show Below w5.heap.size w5 (w5.alloc (.cells #[.slice Ax nx cx, .slice Ay ny cy] 26)) from (Below.refl _ _).alloc (Nat.le_refl _) _)
  have H5 := Lib.hid (And.intro (H4.out.1.on hbm) (And.intro (H4.out.2.1.on hbm) (H4.out.2.2.on hbm)))
  clear hbn hbm hpo KS H4 q1 q2 q3
  go_upto_region 8 with fail
  obtain ⟨q1, q2, q3⟩ := H5.out.2.1.facts
  have kS := split6_any Q fresh other path A1 A2 B n1 c1 n2 c2 m cb _ H5.out.2.2 H5.out.1.2.2.2 HX.out HN.out.1 (by have := HM.out; omega)
  rw [← hz3] at kS
  have KS := Lib.hid kS
  clear kS hz3
  go_wp2_with fail
  refine KS.out.mono ?_
  rintro e w6 ⟨Ax, nx, cx, Ay, ny, cy, hs, rfl, hpo, hbn⟩
  have hbm := below_on hbn (Nat.le_refl _) (show Below w6.heap.size w6 (w6.alloc (.cells #[.slice Ax nx cx, .slice Ay ny cy] 26)) from (Below.refl _ _).alloc (Nat.le_refl _) _)
  have H6 := Lib.hid (And.intro (H5.out.1.on hbm) (And.intro (H5.out.2.1.on hbm) (H5.out.2.2.on hbm)))
  clear hbn hbm hpo KS H5 q1 q2 q3
  go_upto_region 9 with fail
  have HB := Lib.hid H6.out.1.1
  have hn2 : (z2 != 0) = true := by simpa using HN.out.2.1
  have hn3 : (z3 != 0) = true := by simpa using HN.out.2.2
  clear H6
  go_wp2_with fail
  go_ret
  exact ⟨rfl, HB.out⟩
end Go.Proofs.YtmegmokjjlelgaaGreat
namespace Go.Proofs.YtmegmokjjlelgaaGreat
open Go.RowKit Go.WideShapes Go.ChangeShapes Go.Deep Go.ChangeAt Go.Joins
set_option maxRecDepth 100000 in
theorem cutOnce_lifted (os : Os) (started : os.Started) (H : Type) (enc : TypeId × Value → H) :
    ReturnsInHanded {} Tryz.checked os 6 .any (Rows.cutOnceSpec.pre6 enc Tryz.prog Tryz.f6 Rows.cutOnceRow.domain false) (Rows.cutOnceSpec.post enc Tryz.prog Tryz.f6 false true false false) := by
  refine returnsInHanded_of_change_sized (C := Tryz.checked) Tryz.own started (by kernel_rfl) Tryz.func6
    (ChangeSpec.witness6 (enc := enc) (C := Tryz.checked) false ⟨#[], #[.agg #[.slice none 0 0, .slice none 0 0], .int .i64 0, .slice none 0 0, .int .i64 0, .int .i64 0], []⟩ 8 (by kernel_rfl) (by kernel_rfl) (by kernel_rfl) (by kernel_rfl)) ?_
  intro W base args ds gs before hval0 hW _ hsz0 _
  have hsz : (DataW.weightsEach Tryz.prog (Tryz.f6.params.toList ++ Rows.cutOnceSpec.plain.varTypes Tryz.prog) (ds ++ gs)).all (· ≤ reachBytes) = true := hsz0
  clear hsz0
  have hval : ∀ (j : Nat) t v, Tryz.f6.params[j]? = some t → args[j]? = some v → Value.okWide Tryz.prog W .any base t v := hval0
  have hW' := hW
  obtain ⟨p, q, hA0, hV, rfl, _, _⟩ := hW
  have hA : DataW.TrodAll enc Tryz.prog W 0 (fun _ => true) true Tryz.f6.params.toList args.toList ds p := hA0
  rw [Tryz.params6] at hA hval hsz
  obtain ⟨v0, vs0, d0, ds0, p0, q0, hargs, rfl, rfl, h0, r0⟩ := trodAll_cons hA
  obtain ⟨v1, vs1, d1, ds1, p1, q1, rfl, rfl, rfl, h1, r1⟩ := trodAll_cons r0
  obtain ⟨v2, vs2, d2, ds2, p2, q2, rfl, rfl, rfl, h2, r2⟩ := trodAll_cons r1
  obtain ⟨v3, vs3, d3, ds3, p3, q3, rfl, rfl, rfl, h3, r3⟩ := trodAll_cons r2
  obtain ⟨v4, vs4, d4, ds4, p4, q4, rfl, rfl, rfl, h4, r4⟩ := trodAll_cons r3
  obtain ⟨rfl, rfl, rfl⟩ := trodAll_nil r4
  obtain rfl : args = #[v0, v1, v2, v3, v4] := by rcases args with ⟨l⟩; exact congrArg Array.mk hargs
  obtain ⟨rfl, rfl⟩ := trodVars_none hV
  obtain ⟨pl0, A0, n0, c0, A'0, n'0, c'0, rfl, hpl0⟩ := open_plan (hval 0 26 v0 rfl rfl) h0 (fun k hk => of_decide_eq_true (List.all_eq_true.1 hsz k (DataW.weights_mem_each (j := 0) rfl rfl k hk)))
  obtain ⟨x1, rfl, rfl, rfl, wx1⟩ := open_int Tryz.underlying3 (hval 1 3 v1 rfl rfl) h1
  have bx1 := bounds_i64 wx1
  obtain ⟨ps2, A2, cap2, rfl, hr2, hn2, hc2, hd2, hw2⟩ := open_ring (hval 2 23 v2 rfl rfl) h2 (fun elems spare hd => sized_slice hsz (j := 2) (t := 23) (e := 44) rfl (by rw [hd]; rfl) Tryz.underlying23)
  obtain ⟨x3, rfl, rfl, rfl, wx3⟩ := open_int Tryz.underlying3 (hval 3 3 v3 rfl rfl) h3
  have bx3 := bounds_i64 wx3
  obtain ⟨x4, rfl, rfl, rfl, wx4⟩ := open_int Tryz.underlying3 (hval 4 3 v4 rfl rfl) h4
  have bx4 := bounds_i64 wx4
  clear hA0 hval0
  refine (cutOnce_any pl0 x1 x3 x4 ps2 A0 A'0 A2 n0 c0 n'0 c'0 _ cap2 W hpl0 hr2 hw2).mono fun e W' ⟨he, hb⟩ => ⟨_, he, ?_⟩
  exact law_post Tryz.laidOut (by kernel_rfl) (by kernel_rfl) Tryz.underlying4 rfl hW' rfl rfl rfl hb

theorem cutOnce_holds : Rows.CutOnceSaid :=
  OpenClaim.holds_of_wide 6 Tryz.f6 rfl rfl rfl rfl rfl rfl rfl ⟨rfl, rfl, rfl, rfl, rfl⟩ rfl rfl rfl rfl rfl (by kernel_rfl) Tryz.func6 (by kernel_rfl)
    (of_decide_eq_true (by kernel_rfl)) (by unfold Func.isWrapper; rw [if_neg (of_decide_eq_false (by kernel_rfl))]; exact ⟨rfl, rfl⟩)
    (fun os started H enc _ => cutOnce_lifted os started H enc)
#print axioms cutOnce_holds
end Go.Proofs.YtmegmokjjlelgaaGreat
