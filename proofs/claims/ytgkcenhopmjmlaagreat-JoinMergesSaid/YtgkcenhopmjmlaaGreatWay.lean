/- ref05.Way: the walk. -/
import Derived.Deep.CutBlock
import Derived.Test.YtgkcenhopmjmlaaGreatTk
import Derived.Test.YtgkcenhopmjmlaaGreatWalk
import Derived.Test.YtgkcenhopmjmlaaGreatEdgesR
namespace Go.Proofs.YtgkcenhopmjmlaaGreat
open Go.RowKit Go.Lib
structure InV (l : List Ed) (out : List Pt) (q : Pt) : Prop where
  path : PathE l out q
  start : ∃ e ∈ l, e.a = ptAt (out ++ [q]) 0
  pos : 0 < out.length
  nd : out.Nodup
  len : out.length ≤ l.length + 1
def FinV (l : List Ed) (out : List Pt) (q : Pt) : Prop := (out.length = l.length ∧ q = ptAt out 0 → CycE l out) ∧ (¬ (out.length = l.length ∧ q = ptAt out 0) → ¬ ∃ c, CycE l c)
theorem InV.begin_ {l : List Ed} {e : Ed} (he : e ∈ l) : InV l [e.a] e.b :=
  ⟨fun j hj => by
    simp at hj
    subst hj
    show (⟨e.a, e.b⟩ : Ed) ∈ l
    exact he, ⟨e, he, rfl⟩, by simp, by simp, by simp⟩
theorem InV.fin {l : List Ed} {out : List Pt} {q : Pt} (h : InV l out q) (hx : l.length < out.length ∨ q = ptAt out 0) : FinV l out q := by
  refine ⟨fun ⟨h1, h2⟩ => ?_, fun hn => ?_⟩
  · have hp := h.path
    rw [h2] at hp
    have hpos := h.pos
    refine ⟨List.length_pos_iff.1 hpos, h.nd, h1, fun k hk => ?_⟩
    have h3 := hp k hk
    rw [ptAt_app1 hk] at h3
    by_cases h4 : k + 1 < out.length
    · rw [ptAt_app1 h4] at h3
      rw [Nat.mod_eq_of_lt h4]
      exact h3
    · have e : k + 1 = out.length := by omega
      rw [e, ptAt_app2] at h3
      rw [e, Nat.mod_self]
      exact h3
  · rintro ⟨c, hc⟩
    obtain ⟨d, d1, d2, -⟩ := cyc_start hc h.start
    have hd := d1.len
    rcases hx with h1 | h1
    · -- more corners than there are steps
      have sub : ∀ x ∈ out, x ∈ d := fun x hx => by
        obtain ⟨j, hj, rfl⟩ := List.getElem_of_mem hx
        have h2 := h.path j hj
        obtain ⟨k, hk, h3⟩ := d1.at_ h2
        have h4 := (Ed.mk.inj h3).1
        rw [ptAt_app1 hj, ptAt_lt hj] at h4
        rw [h4, ptAt_lt hk]
        exact List.getElem_mem hk
      have := (perm_of_sub h.nd sub (by rw [hd]; omega)).length_eq
      omega
    · by_cases h2 : out.length = l.length
      · exact hn ⟨h2, h1⟩
      · by_cases h5 : l.length < out.length
        · have sub : ∀ x ∈ out, x ∈ d := fun x hx => by
            obtain ⟨j, hj, rfl⟩ := List.getElem_of_mem hx
            have h2 := h.path j hj
            obtain ⟨k, hk, h3⟩ := d1.at_ h2
            have h4 := (Ed.mk.inj h3).1
            rw [ptAt_app1 hj, ptAt_lt hj] at h4
            rw [h4, ptAt_lt hk]
            exact List.getElem_mem hk
          have := (perm_of_sub h.nd sub (by rw [hd]; omega)).length_eq
          omega
        · have h3 := path_cyc d1 h.path d2.symm out.length (Nat.le_refl _) (by omega)
          rw [ptAt_app2, h1] at h3
          rw [ptAt_app1 h.pos] at d2
          rw [← d2] at h3
          have h4 : 0 = out.length % d.length := nodup_ptAt d1.nd d1.pos (Nat.mod_lt _ d1.pos) h3
          have := h.pos
          rw [Nat.mod_eq_of_lt (by omega)] at h4
          omega
/-- A round that is begun: the next corner is new, or there is no closed way. -/
theorem InV.on_ {l : List Ed} {out : List Pt} {q : Pt} (h : InV l out q) (hl : out.length ≤ l.length) (hq : q ≠ ptAt out 0) : (∃ c, CycE l c) → (∃ e ∈ l, e.a = q) ∧ q ∉ out := fun ⟨_, hc⟩ => (path_on hc h.path h.start hl (fun _ => hq)).2
theorem InV.next {l : List Ed} {out : List Pt} {q : Pt} (h : InV l out q) (hl : out.length ≤ l.length) (hn : q ∉ out) {e : Ed} (he : e ∈ l) (hk : e.a = q) : InV l (out ++ [q]) e.b :=
  ⟨h.path.snoc (by rw [← hk]; exact he), start_snoc h.start, by simp, by rw [List.nodup_append]; exact ⟨h.nd, by simp, fun a ha b hb hab => by simp at hb; rw [hab, hb] at ha; exact hn ha⟩, by simp; exact hl⟩
/-- Where the search for the next step stands. -/
def NxT (l : List Ed) (q : Pt) (k : Nat) (z : Int) : Prop := (z = -1 ∧ ∀ j, j < k → (edAt l j).a ≠ q) ∨ ∃ j : Nat, z = (j : Int) ∧ j < k ∧ (edAt l j).a = q ∧ ∀ i, i < k → (edAt l i).a = q → i = j
theorem NxT.zero (l : List Ed) (q : Pt) : NxT l q 0 (-1) := .inl ⟨rfl, fun _ hj => absurd hj (Nat.not_lt_zero _)⟩
theorem NxT.no {l : List Ed} {q : Pt} {k : Nat} {z : Int} (h : NxT l q k z) (hn : (edAt l k).a ≠ q) : NxT l q (k + 1) z := by
  rcases h with ⟨h1, h2⟩ | ⟨j, h1, h2, h3, h4⟩
  · refine .inl ⟨h1, fun j hj => ?_⟩
    by_cases e : j = k
    · rw [e]; exact hn
    · exact h2 j (by omega)
  · refine .inr ⟨j, h1, by omega, h3, fun i hi he => ?_⟩
    by_cases e : i = k
    · rw [e] at he; exact absurd he hn
    · exact h4 i (by omega) he
theorem NxT.one {l : List Ed} {q : Pt} {k : Nat} {z : Int} (h : NxT l q k z) (hz : z < 0) (hy : (edAt l k).a = q) : NxT l q (k + 1) (k : Int) := by
  rcases h with ⟨h1, h2⟩ | ⟨j, h1, h2, h3, h4⟩
  · refine .inr ⟨k, rfl, by omega, hy, fun i hi he => ?_⟩
    by_cases e : i = k
    · exact e
    · exact absurd he (h2 i (by omega))
  · omega
theorem NxT.two {l : List Ed} {q : Pt} {k : Nat} {z : Int} (h : NxT l q k z) (hz : ¬ z < 0) (hy : (edAt l k).a = q) (hk : k < l.length) : ¬ ∃ c, CycE l c := by
  rcases h with ⟨h1, -⟩ | ⟨j, h1, h2, h3, -⟩
  · omega
  · rintro ⟨c, hc⟩
    have m1 : edAt l j ∈ l := by rw [edAt_lt (by omega)]; exact List.getElem_mem _
    have m2 : edAt l k ∈ l := by rw [edAt_lt hk]; exact List.getElem_mem _
    have he := hc.key m1 m2 (h3.trans hy.symm)
    have hnd : l.Nodup := hc.perm.nodup_iff.1 (edgesOf_nd hc.nd)
    rw [edAt_lt (by omega), edAt_lt hk] at he
    have := (List.getElem_inj hnd).1 he
    omega
theorem own_fresh {w : World} {g : Nat} {t : TypeId} {cs : Array Value} {size n : Nat} (h : Blk w g t cs) (hs : cs.size = n * size) (hn : n ≤ maxLen) {base : Nat} (hb : base ≤ g) : w.ownsRow base t size (.slice (some ⟨g, 0, none⟩) n n) n cs.toList :=
  ⟨by rw [Array.length_toList, hs], .inr ⟨g, n, cs, rfl, hb, h, Nat.le_refl _, hn, hs, by rw [← hs, ← Array.length_toList, List.take_length]⟩⟩
def WayPost (l : List Ed) (w : World) (e : Ending) (w' : World) : Prop := ((wayO l = none ∧ ∃ A n c, e = .returned (.tuple #[.slice A n c, .bool false])) ∨ ∃ r A c, wayO l = some r ∧ e = .returned (.tuple #[.slice A r.length c, .bool true]) ∧ w'.ownsRow w.heap.size 53 2 (.slice A r.length c) r.length (ptsV r)) ∧ Below w.heap.size w w'
theorem hldW4 {W V V' : World} {a0 a1 a2 a3 : Addr} {v0 v1 v2 v3 : Value} (hh : a0.block < W.heap.size ∧ a1.block < W.heap.size ∧ a2.block < W.heap.size ∧ a3.block < W.heap.size) (hs : V.cell? a0 = some v0 ∧ V.cell? a1 = some v1 ∧ V.cell? a2 = some v2 ∧ V.cell? a3 = some v3 ∧ Below W.heap.size W V) (hb : Below V.heap.size V V') :
    V'.cell? a0 = some v0 ∧ V'.cell? a1 = some v1 ∧ V'.cell? a2 = some v2 ∧ V'.cell? a3 = some v3 ∧ Below W.heap.size W V' := by
  obtain ⟨h0, h1, h2, h3⟩ := hh
  obtain ⟨c0, c1, c2, c3, cb⟩ := hs
  have := cb.size
  have k : ∀ {a : Addr} {v : Value}, a.block < W.heap.size → V.cell? a = some v → V'.cell? a = some v := fun {a v} ha hv => (hb.cell (p := a) (by omega)).trans hv
  exact ⟨k h0 c0, k h1 c1, k h2 c2, k h3 c3, below_on cb (Nat.le_refl _) hb⟩
set_option maxRecDepth 100000 in
set_option maxHeartbeats 6400000 in
theorem wayR_any (l : List Ed) (A : Option Addr) (n cap : Nat) (w : World) (hr : Reads w w.heap.size 4 A n (edsV l)) (hn : n ≤ 1048575) :
    Calls Tryz.prog 52 #[.slice A n cap] w (WayPost l w) := by
  obtain ⟨i0, hi0, hz0, hz1, hz2⟩ := info_parts info_pt
  have hl := hr.lenEd
  by_cases h0 : n = 0
  · subst h0
    have hno : Hid (wayO l = none) := wayO_none fun ⟨c, hc⟩ => by have h1 := hc.pos; rw [hc.len] at h1; omega
    clear hr hl hn
    go_enter Tryz.func52, Tryz.ntmps52
    go_wp2_with fail
    refine bodyPost_ret (v := .tuple #[.slice none 0 0, .bool false]) (by simp [results, Tryz.results52]) rfl ⟨.inl ⟨hno.out, _, _, _, rfl⟩, Below.refl _ _⟩
  have h0' : ((n : Int) == 0) = false := by rw [beq_eq_false_iff_ne]; omega
  have hn0 : (0 : Int) < (n : Int) := by omega
  obtain ⟨ad, rfl, had, p1, p2, p3, p4⟩ := hr.edA (k := 0) (by omega)
  obtain ⟨e0, he0⟩ : ∃ e, e = edAt l 0 := ⟨_, rfl⟩
  rw [← he0] at p1 p2 p3 p4
  have hz0' : ad.add 0 = ad := by simp [Addr.add]
  rw [Nat.zero_mul, hz0'] at p1 p2 p3 p4
  clear hz0'
  have p5 : w.cell? ⟨ad.block, ad.off + 2 + 1, none⟩ = some (.int .i64 e0.b.y) := p4
  have hm0 : e0 ∈ l := by rw [he0, edAt_lt (by omega)]; exact List.getElem_mem _
  obtain ⟨wa, hwa⟩ : ∃ wa, wa = (w.alloc (.cells #[.int .i64 e0.a.x, .int .i64 e0.a.y] 53)).alloc (.cells #[.int .i64 e0.b.x, .int .i64 e0.b.y] 53) := ⟨_, rfl⟩
  have hB0 : Below w.heap.size w wa := by rw [hwa]; exact ((Below.refl _ _).alloc (Nat.le_refl _) _).alloc (by simp) _
  have hO0 : wa.ownsRow w.heap.size 53 2 (.slice (some ⟨w.heap.size, 0, none⟩) 1 1) 1 (ptsV [e0.a]) := by
    rw [hwa]
    exact own_fresh ((Blk.new w 53 #[.int .i64 e0.a.x, .int .i64 e0.a.y]).alloc _) rfl (by simp [maxLen]) (Nat.le_refl _)
  have hK0 : PtK wa (w.heap.size + 1) e0.b := by
    have := PtK.new (w.alloc (.cells #[.int .i64 e0.a.x, .int .i64 e0.a.y] 53)) e0.b
    rw [World.size_alloc] at this
    rw [hwa]
    exact this
  have H0 := Lib.hid (And.intro hB0 (And.intro hO0 (And.intro hK0 hm0)))
  have HR := Lib.hid (And.intro hr hl)
  clear hB0 hO0 hK0 hm0 he0 hr hl h0
  go_enter Tryz.func52, Tryz.ntmps52
  go_upto_block 0 with fail
  rw [← hwa]
  clear hwa p1 p2 p3 p4 p5 had
  go_cut [4] (fun o wx => ∃ (out : List Pt) (q : Pt) (g c : Nat), o = .slice (some ⟨g, 0, none⟩) out.length c ∧ wx.ownsRow w.heap.size 53 2 (.slice (some ⟨g, 0, none⟩) out.length c) out.length (ptsV out) ∧ PtK wx (w.heap.size + 1) q ∧ 0 < out.length ∧ out.length ≤ n + 1 ∧ Hid (FinV l out q) ∧ Below w.heap.size w wx)
  case first =>
    go_wp2_with fail
    go_loopw [4] (fun o wr => ∃ (out : List Pt) (q : Pt) (g c : Nat), o = .slice (some ⟨g, 0, none⟩) out.length c ∧ wr.ownsRow w.heap.size 53 2 (.slice (some ⟨g, 0, none⟩) out.length c) out.length (ptsV out) ∧ g ≠ w.heap.size + 1 ∧ PtK wr (w.heap.size + 1) q ∧ Below w.heap.size w wr ∧ Hid (InV l out q)) (fun o _ => match o with | .slice _ m _ => n + 1 - m | _ => 0)
    case atStart => exact ⟨[e0.a], e0.b, w.heap.size, 1, rfl, H0.out.2.1, by omega, H0.out.2.2.1, H0.out.1, InV.begin_ H0.out.2.2.2⟩
    case round =>
      obtain ⟨out, q, g, c, rfl, hown, hgn, hP, eB, hin⟩ := hrel
      have hpos := hin.out.pos
      have hlen := hin.out.len
      rw [HR.out.2] at hlen
      obtain ⟨a1, a2⟩ := own_ptk hown hpos
      simp only [Nat.zero_mul, Nat.zero_add] at a1 a2
      obtain ⟨q1, q2, -, -, -⟩ := PtK.facts hP
      have hlt0 : (0 : Int) < (out.length : Int) := by omega
      have hgd := fun op x y V => (eqPt_runs q (ptAt out 0) op x y V).2
      have hnq : ∀ V, Sem.run Tryz.prog (binOp .neq 53 (.agg #[.int .i64 q.x, .int .i64 q.y]) (.agg #[.int .i64 (ptAt out 0).x, .int .i64 (ptAt out 0).y])) V = .ok (.bool (!decide (q = ptAt out 0))) V := fun V => neqPt_runs q (ptAt out 0) V
      have HX := Lib.hid (And.intro hown (And.intro hP (And.intro eB hin.out)))
      by_cases hle : out.length ≤ n
      case neg =>
        have hle' : decide (out.length ≤ n) = false := decide_eq_false hle
        have hf : Hid (FinV l out q) := hin.out.fin (.inl (by rw [HR.out.2]; omega))
        clear hin hown hP eB hle hgd hnq a1 a2 q1 q2
        go_wp2_with fail
        refine wp_region_held_drew (S := fun V => V = wr.drew) (by kernel_rfl) rfl (fun hHeld => ?_)
        refine tk 0 ?_
        refine tk 1 ?_
        refine tk 2 ?_
        refine tk 3 ?_
        refine tk 4 ?_
        refine tk 5 ?_
        refine tu 6 ?_
        refine tu 7 ?_
        refine tu 8 ?_
        refine tu 9 ?_
        refine tu 10 ?_
        refine tk 11 ?_
        refine wpAnyH_done (by kernel_rfl) ?_ _
        go_wp2_with fail
        go_meet
        exact ⟨out, q, g, c, rfl, HX.out.1, HX.out.2.1, hpos, hlen, hf, HX.out.2.2.1.drew⟩
      have hle' : decide (out.length ≤ n) = true := decide_eq_true hle
      rcases hd : decide (q = ptAt out 0) with _ | _
      case true =>
        have hf : Hid (FinV l out q) := hin.out.fin (.inr (by simpa using hd))
        rw [hd] at hnq
        clear hin hown hP eB hle hd
        go_wp2_with fail
        refine wp_region_held_drew (S := fun V => V = wr.drew) (by kernel_rfl) rfl (fun hHeld => ?_)
        refine tk 0 ?_
        refine tk 1 ?_
        refine tk 2 ?_
        refine tk 3 ?_
        refine tk 4 ?_
        refine tk 5 ?_
        refine tk 6 ?_
        refine tk 7 ?_
        refine tk 8 ?_
        refine tk 9 ?_
        refine tk 10 ?_
        refine tk 11 ?_
        refine wpAnyH_done (by kernel_rfl) ?_ _
        go_wp2_with fail
        go_meet
        exact ⟨out, q, g, c, rfl, HX.out.1, HX.out.2.1, hpos, hlen, hf, HX.out.2.2.1.drew⟩
      have hqn : q ≠ ptAt out 0 := by simpa using hd
      rw [hd] at hnq
      have hor := hin.out.on_ (by rw [HR.out.2]; exact hle) hqn
      have HO := Lib.hid hor
      have HLE := Lib.hid hle
      obtain ⟨wb, hwb⟩ : ∃ wb, wb = wr.drew := ⟨_, rfl⟩
      have hrd : Reads wb wb.heap.size 2 (some ⟨g, 0, none⟩) out.length (ptsV out) := by rw [hwb]; exact Reads.of_own hown
      have KI := Lib.hid (inR_any out q (some ⟨g, 0, none⟩) out.length c wb hrd (by omega))
      have hBb : Below w.heap.size w wb := by rw [hwb]; exact eB.drew
      have hPb : PtK wb (w.heap.size + 1) q := by rw [hwb]; exact hP
      have hob : wb.ownsRow w.heap.size 53 2 (.slice (some ⟨g, 0, none⟩) out.length c) out.length (ptsV out) := by rw [hwb]; exact hown
      have HY := Lib.hid (And.intro hob (And.intro hPb (And.intro hBb hin.out)))
      clear hin hown hP eB hle hd hqn hor hrd hBb hPb hob
      go_wp2_with fail
      refine wp_region_held_drew (S := fun V => V = wr.drew) (by kernel_rfl) rfl (fun hHeld => ?_)
      refine tk 0 ?_
      refine tk 1 ?_
      refine tk 2 ?_
      refine tk 3 ?_
      refine tk 4 ?_
      refine tk 5 ?_
      refine tk 6 ?_
      refine tk 7 ?_
      refine tk 8 ?_
      refine tk 9 ?_
      refine tk 10 ?_
      refine tk 11 ?_
      refine wpAnyH_done (by kernel_rfl) ?_ _
      go_upto_region 6 with fail
      rw [← hwb]
      clear hwb hHeld hnq hgd HX q1 q2 a1 a2
      obtain ⟨q1, q2, -, -, -⟩ := PtK.facts HY.out.2.1
      go_wp2_with fail
      refine KI.out.mono ?_
      rintro e w5 ⟨rfl, hb5⟩
      have HZ := Lib.hid (And.intro (own_below HY.out.1 hb5) (And.intro (show PtK w5 (w.heap.size + 1) q from Blk.below HY.out.2.1 hb5 (Blk.lt HY.out.2.1)) (And.intro (below_on HY.out.2.2.1 (Nat.le_refl _) hb5) HY.out.2.2.2)))
      clear hb5 HY KI q1 q2
      by_cases hid0 : 0 ≤ idxPt out q
      · have hno : Hid (wayO l = none) := wayO_none fun h => (HO.out h).2 (idx_nonneg.1 hid0)
        clear hle'
        go_wp2_with fail
        refine bodyPost_ret (v := .tuple #[.slice none 0 0, .bool false]) (by simp [results, Tryz.results52]) rfl ⟨.inl ⟨hno.out, _, _, _, rfl⟩, HZ.out.2.2.1⟩
      have hnin : Hid (q ∉ out) := fun h => hid0 (idx_nonneg.2 h)
      have hlen3 : out.length ≤ 1048576 := by have := HLE.out; omega
      have hsz5 := HZ.out.2.2.1.size
      have hbl5 : w.heap.size + 1 < w5.heap.size := Blk.lt HZ.out.2.1
      have hown5 := HZ.out.1
      obtain ⟨q1, q2, -, -, -⟩ := PtK.facts HZ.out.2.1
      go_upto_region 9 with (at_builtin; refine wpList_append_any _ rfl (.tmp 36) (.tmp 38) _ rfl w.heap.size 53 i0 _ 2 16 Tryz.underlying23 hi0 hz0 hz1 hz2 rfl (by omega) (.slice (some ⟨g, 0, none⟩) out.length c) out.length _ rfl (hown5.alloc _) (w5.alloc (.cells #[.int .i64 q.x, .int .i64 q.y] 53)).heap.size (some ⟨w5.heap.size, 0, none⟩) 1 1 (ptsV [q]) rfl (Reads.made w5 _ _ _ 2 1 _ rfl rfl) (ptsV_one _) (by simp only [maxLen]; omega) (by omega) (by simp; omega) ?_; intro v6 w6 hown6 hg6 hat6)
      have keep : ∀ j, j < w5.heap.size → j ≠ g → w6.heap[j]? = w5.heap[j]? := fun j h1 h2 => (hg6.block j (by simp; omega) (fun e => h2 (by cases e; rfl))).trans (Below.heap_alloc _ _ j h1)
      have gP : PtK w6 (w.heap.size + 1) q := (keep _ hbl5 (fun e => hgn e.symm)).trans HZ.out.2.1
      have gB : Below w.heap.size w w6 := (HZ.out.2.2.1.alloc hsz5 _).grown hg6 (by simp; omega) (fun j hj => (hown5.lt j hj).1)
      rw [← ptsV_append] at hown6
      obtain ⟨g6, c6, rfl, -, -⟩ := hown6.form (by omega)
      have hg6n : g6 ≠ w.heap.size + 1 := by
        rcases hat6 with h | h
        · have := Option.some.inj h; simp at this; omega
        · have := Option.some.inj h; simp at this; omega
      have H6 := Lib.hid (And.intro hown6 (And.intro gP (And.intro gB (And.intro HZ.out.2.2.2 hnin.out))))
      clear keep gP gB hown6 hat6 hg6 hown5 q1 q2 hsz5 hbl5 hid0 hnin HZ hgn hlen3 hlt0
      go_wp2_with fail
      clear hle'
      obtain ⟨W6, hW6⟩ : ∃ W, W = w6 := ⟨_, rfl⟩
      rw [← hW6] at H6
      rw [← hW6]
      clear hW6 w6
      go_loopw [6, 7] (fun nx i wx => ∃ (k : Nat) (z : Int), k ≤ n ∧ i = .int .i64 (k : Int) ∧ nx = .int .i64 z ∧ Hid (NxT l q k z) ∧ Below W6.heap.size W6 wx) (fun _ i _ => n - (intOf i).toNat)
      case atStart => exact ⟨0, -1, Nat.zero_le _, rfl, rfl, NxT.zero l q, Below.refl _ _⟩
      case round =>
        obtain ⟨k, z, hk, rfl, rfl, hnx, hbx⟩ := hrel
        have hbw := below_on H6.out.2.2.1 (Nat.le_refl _) hbx
        by_cases hlt : k < n
        · have hlt' : (k : Int) < (n : Int) := by omega
          have hw1 : IntKind.i64.wrap ((k : Int) + 1) = (k : Int) + 1 := by rw [IntKind.wrap_i64]; omega
          obtain ⟨ad', e', -, p1, p2, -, -⟩ := (HR.out.1.below hbw).edA hlt
          obtain rfl := Option.some.inj e'
          have hPx : PtK wr (w.heap.size + 1) q := Blk.below H6.out.2.1 hbx (Blk.lt H6.out.2.1)
          obtain ⟨q1, q2, -, -, -⟩ := PtK.facts hPx
          have hp1 := fun W => (eqPt_runs (edAt l k).a q .eql (.tmp 0) (.tmp 0) W).1
          have hq1 := fun op x y W => (eqPt_runs (edAt l k).a q op x y W).2
          obtain ⟨P, hPe⟩ : ∃ P, P = (edAt l k).a := ⟨_, rfl⟩
          rw [← hPe] at p1 p2 hp1 hq1
          have HPP := Lib.hid hPe
          have HB := Lib.hid (And.intro hbx hbw)
          clear hbx hbw e' hPx hPe
          rcases hd : decide (P = q) with _ | _
          · rw [hd] at hp1
            have HN : Hid (NxT l q (k + 1) z) := hnx.out.no (by rw [← HPP.out]; simpa using hd)
            clear hd hnx
            go_wp2_with fail
            go_quiet (fail)
            go_wp2_with fail
            go_roundw
            case rel => exact ⟨k + 1, z, by omega, by go_num, rfl, HN, below_drewN HB.out.1 _⟩
            case measure => simp [intOf]; omega
          · rw [hd] at hp1
            have hPq : (edAt l k).a = q := by rw [← HPP.out]; simpa using hd
            by_cases hz : z < 0
            · have HN : Hid (NxT l q (k + 1) (k : Int)) := hnx.out.one hz hPq
              have hz' : ¬ 0 ≤ z := by omega
              clear hd hnx hPq
              go_wp2_with fail
              go_quiet (fail)
              go_wp2_with fail
              go_roundw
              case rel => exact ⟨k + 1, (k : Int), by omega, by go_num, rfl, HN, below_drewN HB.out.1 _⟩
              case measure => simp [intOf]; omega
            · have hno : Hid (wayO l = none) := wayO_none (hnx.out.two hz hPq (by rw [HR.out.2]; exact hlt))
              have hz' : 0 ≤ z := by omega
              clear hd hnx hPq hz
              go_wp2_with fail
              go_quiet (fail)
              go_wp2_with fail
              refine bodyPost_ret (v := .tuple #[.slice none 0 0, .bool false]) (by simp [results, Tryz.results52]) rfl ⟨.inl ⟨hno.out, _, _, _, rfl⟩, below_drewN HB.out.2 _⟩
        · have hkn : k = n := by omega
          subst hkn
          have hPx : PtK wr (w.heap.size + 1) q := Blk.below H6.out.2.1 hbx (Blk.lt H6.out.2.1)
          rcases hnx.out with ⟨hz, hnone⟩ | ⟨j, hz, hj, hja, -⟩
          · have hno : Hid (wayO l = none) := wayO_none fun h => by
              obtain ⟨e, he, hk2⟩ := (HO.out h).1
              obtain ⟨j, hj, rfl⟩ := List.getElem_of_mem he
              exact hnone j (by have := HR.out.2; omega) (by rw [edAt_lt hj]; exact hk2)
            subst hz
            have HB := Lib.hid hbw
            clear hnone hbx hbw hnx hPx
            go_wp2_with fail
            refine bodyPost_ret (v := .tuple #[.slice none 0 0, .bool false]) (by simp [results, Tryz.results52]) rfl ⟨.inl ⟨hno.out, _, _, _, rfl⟩, HB.out⟩
          · subst hz
            have hj0 : ¬ (j : Int) < 0 := by omega
            have hjk : (j : Int) < (k : Int) := by omega
            obtain ⟨ad', e', hadb, -, -, p3, p4⟩ := (HR.out.1.below hbw).edA hj
            obtain rfl := Option.some.inj e'
            obtain ⟨e, he⟩ : ∃ e, e = edAt l j := ⟨_, rfl⟩
            rw [← he] at p3 p4 hja
            have p5 : wr.cell? ⟨(ad.add (j * 4)).block, (ad.add (j * 4)).off + 2 + 1, none⟩ = some (.int .i64 e.b.y) := p4
            have hmem : e ∈ l := by rw [he, edAt_lt (by have := HR.out.2; omega)]; exact List.getElem_mem _
            have hoX := own_below H6.out.1 hbx
            obtain ⟨V, hV⟩ : ∃ V, (wr.setCell ⟨w.heap.size + 1, 0, none⟩ (.int .i64 e.b.x)).setCell ⟨w.heap.size + 1, 1, none⟩ (.int .i64 e.b.y) = V := ⟨_, rfl⟩
            have hkeep : ∀ i, i ≠ w.heap.size + 1 → V.heap[i]? = wr.heap[i]? := fun i hi => by rw [← hV, Below.heap_setCell _ _ _ i (by simpa using hi), Below.heap_setCell _ _ _ i (by simpa using hi)]
            have hPV : PtK V (w.heap.size + 1) e.b := by
              have := Blk.set_ (Blk.set_ hPx 0 (.int .i64 e.b.x)) 1 (.int .i64 e.b.y)
              simp only [List.setIfInBounds_toArray, List.set_cons_zero, List.set_cons_succ] at this
              rw [hV] at this
              exact this
            have hVB : Below w.heap.size w V := by rw [← hV]; exact (hbw.setCell (p := ⟨w.heap.size + 1, 0, none⟩) (by simp) _).setCell (p := ⟨w.heap.size + 1, 1, none⟩) (by simp) _
            have hoV := own_heap hoX (W' := V) (fun i hi => hkeep i (fun e' => hg6n (by cases hi; exact e')))
            have f1 := Blk.frozen hPx 0
            have f2 := Blk.frozen hPx 1
            obtain ⟨q1, q2, -, -, -⟩ := PtK.facts hPx
            have H7 := Lib.hid (And.intro hoV (And.intro hPV (And.intro hVB (H6.out.2.2.2.1.next (by rw [HR.out.2]; exact HLE.out) H6.out.2.2.2.2 hmem hja))))
            have hms := HLE.out
            clear hkeep hPV hVB hoV hmem hja he e' hbx hbw hnx hPx hoX p4 hadb
            go_wp2_with fail
            go_roundw
            case rel => exact ⟨out ++ [q], e.b, g6, c6, by rw [List.length_append, List.length_singleton], by rw [List.length_append, List.length_singleton]; exact H7.out.1, hg6n, H7.out.2.1, H7.out.2.2.1, H7.out.2.2.2⟩
            case measure => simp; omega
  case rest =>
    obtain ⟨out, q, g, c, rfl, hown, hP, hpos, hlen, hf, eB⟩ := hcut
    obtain ⟨a1, a2⟩ := own_ptk hown hpos
    simp only [Nat.zero_mul, Nat.zero_add] at a1 a2
    obtain ⟨q1, q2, q3, -, -⟩ := PtK.facts hP
    have hlt0 : (0 : Int) < (out.length : Int) := by omega
    have hp1 := fun W => (eqPt_runs q (ptAt out 0) .eql (.tmp 0) (.tmp 0) W).1
    have hq1 := fun op x y W => (eqPt_runs q (ptAt out 0) op x y W).2
    have kL := leastR2_any out (some ⟨g, 0, none⟩) out.length c wc.drew ((Reads.of_own hown).drew) (by omega)
    have hP0 : wc.drew.cell? ⟨w.heap.size + 1, 0, none⟩ = some (.int .i64 q.x) ∧ wc.drew.cell? ⟨w.heap.size + 1, 1, none⟩ = some (.int .i64 q.y) ∧ wc.drew.cell? ⟨g, 0, none⟩ = some (.int .i64 (ptAt out 0).x) ∧ wc.drew.cell? ⟨g, 1, none⟩ = some (.int .i64 (ptAt out 0).y) ∧ Below wc.heap.size wc wc.drew := ⟨q1, q2, a1, a2, (Below.refl _ _).drew⟩
    have hh : (⟨w.heap.size + 1, 0, none⟩ : Addr).block < wc.heap.size ∧ (⟨w.heap.size + 1, 1, none⟩ : Addr).block < wc.heap.size ∧ (⟨g, 0, none⟩ : Addr).block < wc.heap.size ∧ (⟨g, 1, none⟩ : Addr).block < wc.heap.size := ⟨Blk.lt hP, Blk.lt hP, (hown.lt g rfl).2, (hown.lt g rfl).2⟩
    have hlst : (lst out).length = out.length := lst_len out
    have HX := Lib.hid (And.intro hown.1 (And.intro eB hlst))
    clear hown hP eB q1 q2 q3 a1 a2 hlst
    by_cases hn1 : out.length = n
    · have hf2 : (out.length = l.length ∧ q = ptAt out 0 → CycE l out) ∧ (¬ (out.length = l.length ∧ q = ptAt out 0) → ¬ ∃ c, CycE l c) := hf.out
      rw [HR.out.2] at hf2
      have hnn : ((out.length : Int) == (n : Int)) = true := by rw [beq_iff_eq]; omega
      rcases hd : decide (q = ptAt out 0) with _ | _
      · have hno : Hid (wayO l = none) := wayO_none (hf2.2 fun h => by have := h.2; rw [decide_eq_true this] at hd; cases hd)
        rw [hd] at hp1
        clear hf hf2 hd hn1
        go_wp2_with fail
        refine wp_region_held_drew (S := fun V => V.cell? ⟨w.heap.size + 1, 0, none⟩ = some (.int .i64 q.x) ∧ V.cell? ⟨w.heap.size + 1, 1, none⟩ = some (.int .i64 q.y) ∧ V.cell? ⟨g, 0, none⟩ = some (.int .i64 (ptAt out 0).x) ∧ V.cell? ⟨g, 1, none⟩ = some (.int .i64 (ptAt out 0).y) ∧ Below wc.heap.size wc V) (by kernel_rfl) ?_ (fun hHeld => ?_)
        · exact hP0
        refine tk 0 ?_
        refine tk 2 ?_
        refine tk 3 ?_
        refine tk 4 ?_
        refine tk 5 ?_
        refine tk 6 ?_
        refine wpAnyH_ready (rs := [1]) (by kernel_rfl) (by simp) ?_
        refine AllReadyH.cons rfl (fun K hK => ?_) AllReadyH.nil
        go_simp
        go_at_call 111
        (with_reducible refine (kL).mono ?_)
        rintro e w2 ⟨A2, c2, rfl, ho2, hb2⟩
        try dsimp only
        refine hK.out _ _ ?_ (fun hHeld => ?_)
        · exact hldW4 hh hHeld hb2
        clear hK K
        try simp only [Act.put, List.setIfInBounds_toArray, List.set_cons_zero, List.set_cons_succ]
        refine tk 7 ?_
        refine tk 8 ?_
        refine tk 9 ?_
        refine tk 10 ?_
        refine tk 11 ?_
        refine tk 12 ?_
        refine tk 13 ?_
        refine tk 14 ?_
        refine tk 15 ?_
        refine wpAnyH_done (by kernel_rfl) ?_ _
        go_wp2_with fail
        refine bodyPost_ret (v := .tuple #[.slice A2 out.length c2, .bool false]) (by simp [results, Tryz.results52]) rfl ⟨.inl ⟨hno.out, _, _, _, rfl⟩, below_on HX.out.2.1 (Nat.le_refl _) hHeld.2.2.2.2⟩
      · have hcy : Hid (CycE l out) := hf2.1 ⟨hn1, by simpa using hd⟩
        rw [hd] at hp1
        clear hf hf2 hd hn1
        go_wp2_with fail
        refine wp_region_held_drew (S := fun V => V.cell? ⟨w.heap.size + 1, 0, none⟩ = some (.int .i64 q.x) ∧ V.cell? ⟨w.heap.size + 1, 1, none⟩ = some (.int .i64 q.y) ∧ V.cell? ⟨g, 0, none⟩ = some (.int .i64 (ptAt out 0).x) ∧ V.cell? ⟨g, 1, none⟩ = some (.int .i64 (ptAt out 0).y) ∧ Below wc.heap.size wc V) (by kernel_rfl) ?_ (fun hHeld => ?_)
        · exact hP0
        refine tk 0 ?_
        refine tk 2 ?_
        refine tk 3 ?_
        refine tk 4 ?_
        refine tk 5 ?_
        refine tk 6 ?_
        refine wpAnyH_ready (rs := [1]) (by kernel_rfl) (by simp) ?_
        refine AllReadyH.cons rfl (fun K hK => ?_) AllReadyH.nil
        go_simp
        go_at_call 111
        (with_reducible refine (kL).mono ?_)
        rintro e w2 ⟨A2, c2, rfl, ho2, hb2⟩
        try dsimp only
        refine hK.out _ _ ?_ (fun hHeld => ?_)
        · exact hldW4 hh hHeld hb2
        clear hK K
        try simp only [Act.put, List.setIfInBounds_toArray, List.set_cons_zero, List.set_cons_succ]
        refine tk 7 ?_
        refine tk 8 ?_
        refine tk 9 ?_
        refine tk 10 ?_
        refine tk 11 ?_
        refine tk 12 ?_
        refine tk 13 ?_
        refine tk 14 ?_
        refine tk 15 ?_
        refine wpAnyH_done (by kernel_rfl) ?_ _
        go_wp2_with fail
        refine bodyPost_ret (v := .tuple #[.slice A2 out.length c2, .bool true]) (by simp [results, Tryz.results52]) rfl ⟨.inr ⟨lst out, A2, c2, wayO_some hcy.out, by rw [HX.out.2.2], ?_⟩, below_on HX.out.2.1 (Nat.le_refl _) hHeld.2.2.2.2⟩
        rw [HX.out.2.2]
        exact own_mono ho2 HX.out.2.1.size
    · have hno : Hid (wayO l = none) := wayO_none (hf.out.2 fun h => hn1 (by rw [h.1, HR.out.2]))
      have hnn : ((out.length : Int) == (n : Int)) = false := by rw [beq_eq_false_iff_ne]; omega
      clear hf hn1
      go_wp2_with fail
      refine wp_region_held_drew (S := fun V => V.cell? ⟨w.heap.size + 1, 0, none⟩ = some (.int .i64 q.x) ∧ V.cell? ⟨w.heap.size + 1, 1, none⟩ = some (.int .i64 q.y) ∧ V.cell? ⟨g, 0, none⟩ = some (.int .i64 (ptAt out 0).x) ∧ V.cell? ⟨g, 1, none⟩ = some (.int .i64 (ptAt out 0).y) ∧ Below wc.heap.size wc V) (by kernel_rfl) ?_ (fun hHeld => ?_)
      · exact hP0
      refine tk 0 ?_
      refine tk 2 ?_
      refine tk 3 ?_
      refine tk 4 ?_
      refine tk 5 ?_
      refine tk 6 ?_
      refine wpAnyH_ready (rs := [1]) (by kernel_rfl) (by simp) ?_
      refine AllReadyH.cons rfl (fun K hK => ?_) AllReadyH.nil
      go_simp
      go_at_call 111
      (with_reducible refine (kL).mono ?_)
      rintro e w2 ⟨A2, c2, rfl, ho2, hb2⟩
      try dsimp only
      refine hK.out _ _ ?_ (fun hHeld => ?_)
      · exact hldW4 hh hHeld hb2
      clear hK K
      try simp only [Act.put, List.setIfInBounds_toArray, List.set_cons_zero, List.set_cons_succ]
      refine tk 7 ?_
      refine tu 8 ?_
      refine tu 9 ?_
      refine tu 10 ?_
      refine tu 11 ?_
      refine tu 12 ?_
      refine tk 13 ?_
      refine tk 14 ?_
      refine tk 15 ?_
      refine wpAnyH_done (by kernel_rfl) ?_ _
      go_wp2_with fail
      refine bodyPost_ret (v := .tuple #[.slice A2 out.length c2, .bool false]) (by simp [results, Tryz.results52]) rfl ⟨.inl ⟨hno.out, _, _, _, rfl⟩, below_on HX.out.2.1 (Nat.le_refl _) hHeld.2.2.2.2⟩
end Go.Proofs.YtgkcenhopmjmlaaGreat
