/- Plain law: a ring that is moved as a whole; ref02.Least: the walk. -/
import Derived.BigRegion
import Derived.KernelRfl
import Derived.OrdersIn
import Derived.TacticsIn
import Derived.Test.YtmegmokjjlelgaaGreatK06
import Derived.Test.YtmegmokjjlelgaaGreatK07
namespace Go.Proofs.YtmegmokjjlelgaaGreat
end Go.Proofs.YtmegmokjjlelgaaGreat
namespace Go.Proofs.YtmegmokjjlelgaaGreat
theorem not_touch {a b c d : Pt} (h : ¬ Touch a b c d) : onB c d a = false ∧ onB c d b = false ∧ onB a b c = false ∧ onB a b d = false ∧ prB a b c d = false := by
  unfold Touch at h
  refine ⟨?_, ?_, ?_, ?_, ?_⟩ <;> rw [← Bool.not_eq_true] <;> intro h' <;> exact h (by simp [h'])
/-- Of an upright way (X, y1) to (X, y2), and an edge that does not touch it. -/
theorem off_end {X y1 y2 : Int} {p : Pt} (h : onB ⟨X, y1⟩ ⟨X, y2⟩ p = false) (h1 : y1 ≤ p.y) (h2 : p.y ≤ y2) : p.x ≠ X := fun e => by
  have : onB ⟨X, y1⟩ ⟨X, y2⟩ p = true := by
    rw [onB_iff]
    refine ⟨?_, ?_, ?_⟩
    · unfold cr
      simp only [e, Int.sub_self, Int.zero_mul, Int.mul_zero]
    · simp only; omega
    · simp only; omega
  rw [this] at h
  cases h
theorem on_up {a b p : Pt} (h : onB a b p = false) (hc : cr a b p = 0) (h1 : a.y ≤ p.y) (h2 : p.y ≤ b.y) (h3 : a.y < b.y) : False := by
  have hx : ¬ ((a.x ≤ p.x ∧ p.x ≤ b.x) ∨ (b.x ≤ p.x ∧ p.x ≤ a.x)) := fun hx => by
    have := (onB_iff a b p).2 ⟨hc, hx, .inl ⟨h1, h2⟩⟩
    rw [h] at this
    cases this
  apply hx
  unfold cr at hc
  have h1 : (b.y - a.y) * (p.x - a.x) = (b.x - a.x) * (p.y - a.y) := by omega
  have := line_btw (u := b.y - a.y) (v := b.x - a.x) (s := p.y - a.y) (t := p.x - a.x) (by omega) h1 (by omega) (by omega)
  omega
/-- The sign of X against an edge at a height of its own: which of its ends tells. -/
theorem cr_at (a b : Pt) (X y : Int) : cr a b ⟨X, y⟩ = (b.y - y) * (a.x - X) + (y - a.y) * (b.x - X) := by
  unfold cr
  grind
theorem pr_up {a b : Pt} {X y1 y2 : Int} (hy : y1 < y2) : prB a b ⟨X, y1⟩ ⟨X, y2⟩ = true ↔ ((cr a b ⟨X, y1⟩ < 0 ∧ 0 < cr a b ⟨X, y2⟩) ∨ (cr a b ⟨X, y2⟩ < 0 ∧ 0 < cr a b ⟨X, y1⟩)) ∧ ((a.x < X ∧ X < b.x) ∨ (b.x < X ∧ X < a.x)) := by
  rw [prB_iff]
  have e : ∀ p : Pt, cr ⟨X, y1⟩ ⟨X, y2⟩ p = (y2 - y1) * (X - p.x) := fun p => by
    unfold cr
    simp only [Int.sub_self, Int.zero_mul]
    grind
  have hp : ∀ z : Int, ((y2 - y1) * z < 0 ↔ z < 0) ∧ (0 < (y2 - y1) * z ↔ 0 < z) := fun z => by
    have := pos_sgn (N := y2 - y1) (x := z) (y := (y2 - y1) * z) (by omega) rfl
    exact ⟨this.2.1.symm, this.1.symm⟩
  rw [e, e, (hp _).1, (hp _).2, (hp _).1, (hp _).2]
  constructor
  · rintro ⟨h1, h2⟩; exact ⟨h1, by omega⟩
  · rintro ⟨h1, h2⟩; exact ⟨h1, by omega⟩
/-- The facts of an edge that does not touch the upright way, in numbers. -/
structure Off (a b : Pt) (X y1 y2 : Int) : Prop where
  ea : y1 ≤ a.y → a.y ≤ y2 → a.x ≠ X
  eb : y1 ≤ b.y → b.y ≤ y2 → b.x ≠ X
  c1 : a.y ≤ y1 → y1 ≤ b.y → a.y < b.y → cr a b ⟨X, y1⟩ ≠ 0
  c2 : a.y ≤ y2 → y2 ≤ b.y → a.y < b.y → cr a b ⟨X, y2⟩ ≠ 0
  pr : ¬ (((cr a b ⟨X, y1⟩ < 0 ∧ 0 < cr a b ⟨X, y2⟩) ∨ (cr a b ⟨X, y2⟩ < 0 ∧ 0 < cr a b ⟨X, y1⟩)) ∧ ((a.x < X ∧ X < b.x) ∨ (b.x < X ∧ X < a.x)))
  fl : a.y = b.y → a.y = y2 → ¬ ((a.x < X ∧ X < b.x) ∨ (b.x < X ∧ X < a.x))
theorem Off.of {a b : Pt} {X y1 y2 : Int} (hy : y1 < y2) (h : ¬ Touch a b ⟨X, y1⟩ ⟨X, y2⟩) : Off a b X y1 y2 := by
  obtain ⟨h1, h2, h3, h4, h5⟩ := not_touch h
  refine ⟨off_end h1, off_end h2, fun g1 g2 g3 g4 => on_up h3 g4 g1 g2 g3, fun g1 g2 g3 g4 => on_up h4 g4 g1 g2 g3, fun g => ?_, fun g1 g2 g3 => ?_⟩
  · rw [(pr_up hy).2 g] at h5
    cases h5
  · have : onB a b ⟨X, y2⟩ = true := by
      rw [onB_iff]
      refine ⟨?_, ?_, ?_⟩
      · rw [cr_at, ← g1, g2, Int.sub_self]
        simp
      · simp only; omega
      · simp only; omega
    rw [this] at h4
    cases h4
end Go.Proofs.YtmegmokjjlelgaaGreat
namespace Go.Proofs.YtmegmokjjlelgaaGreat
/-- The ring that begins at k. -/
def rot (k : Nat) (xs : List Pt) : List Pt := xs.drop k ++ xs.take k
theorem rot_len {k : Nat} {xs : List Pt} (h : k ≤ xs.length) : (rot k xs).length = xs.length := by
  unfold rot
  rw [List.length_append, List.length_drop, List.length_take]
  omega
theorem ptAt_rot {k i : Nat} {xs : List Pt} (h : k < xs.length) (hi : i < xs.length) : ptAt (rot k xs) i = ptAt xs ((k + i) % xs.length) := by
  unfold ptAt rot
  by_cases hlt : i < xs.length - k
  · rw [List.getElem?_append_left (by rw [List.length_drop]; exact hlt), List.getElem?_drop, Nat.mod_eq_of_lt (by omega)]
  · rw [List.getElem?_append_right (by rw [List.length_drop]; omega), List.length_drop, List.getElem?_take]
    have e : (k + i) % xs.length = i - (xs.length - k) := by
      rw [Nat.mod_eq_sub_mod (by omega), Nat.mod_eq_of_lt (by omega)]
      omega
    rw [e, if_pos (by omega)]
/-- Pairs, whichever is named first. -/
theorem prB_comm (a b c d : Pt) : prB c d a b = prB a b c d := by
  unfold prB
  rw [decide_eq_decide]
  exact And.comm
theorem endsL_comm {a b c d e : Pt} : e ∈ endsL c d a b ↔ e ∈ endsL a b c d := by
  unfold endsL
  simp only [List.mem_append]
  constructor <;> rintro (h | h | h | h) <;> simp only [h, true_or, or_true]
theorem difB_iff (l : List Pt) : difB l = true ↔ ∃ p q, p ∈ l ∧ q ∈ l ∧ p ≠ q := by
  refine ⟨difB_two, ?_⟩
  rintro ⟨p, q, hp, hq, hne⟩
  cases l with
  | nil => cases hp
  | cons e t =>
    unfold difB
    rw [List.any_eq_true]
    by_cases h1 : p = e
    · subst h1
      refine ⟨q, ?_, decide_eq_true (fun h => hne h.symm)⟩
      rcases List.mem_cons.1 hq with h | h
      · exact absurd h.symm hne
      · exact h
    · refine ⟨p, ?_, decide_eq_true h1⟩
      rcases List.mem_cons.1 hp with h | h
      · exact absurd h h1
      · exact h
theorem meetR_comm (a b c d : Pt) : meetR c d a b = meetR a b c d := by
  have h1 : difB (endsL c d a b) = difB (endsL a b c d) := by
    rw [Bool.eq_iff_iff, difB_iff, difB_iff]
    simp only [endsL_comm]
  have h2 : endsL c d a b ≠ [] ↔ endsL a b c d ≠ [] := by
    constructor <;> intro h <;> obtain ⟨e, he⟩ := List.exists_mem_of_ne_nil _ h
    · exact List.ne_nil_of_mem (endsL_comm.1 he)
    · exact List.ne_nil_of_mem (endsL_comm.2 he)
  unfold meetR
  rw [h1, prB_comm]
  by_cases h : endsL a b c d ≠ []
  · rw [if_pos (h2.2 h), if_pos h]
  · rw [if_neg (fun h' => h (h2.1 h')), if_neg h]
end Go.Proofs.YtmegmokjjlelgaaGreat
namespace Go.Proofs.YtmegmokjjlelgaaGreat
/-- A point in common, as a share of either's ends. -/
def Com (a b c d : Pt) (N t A B : Int) : Prop := 0 < N ∧ 0 ≤ t ∧ t ≤ N ∧ 0 ≤ A ∧ 0 ≤ B ∧ A + B = N ∧ (N - t) * a.x + t * b.x = A * c.x + B * d.x ∧ (N - t) * a.y + t * b.y = A * c.y + B * d.y
theorem Com.other {a b c d : Pt} {N t A B : Int} (h : Com a b c d N t A B) : Com c d a b N B (N - t) t := by
  obtain ⟨h1, h2, h3, h4, h5, h6, h7, h8⟩ := h
  exact ⟨h1, h5, by omega, by omega, h2, by omega, by rw [show N - B = A by omega]; exact h7.symm, by rw [show N - B = A by omega]; exact h8.symm⟩
theorem prB_swap1 (a b c d : Pt) : prB b a c d = prB a b c d := by
  rw [Bool.eq_iff_iff, prB_iff, prB_iff, cr_swapT a b c, cr_swapT a b d]
  omega
theorem meetR_swap1 (a b c d : Pt) : meetR b a c d = meetR a b c d := by
  have hm : ∀ e, e ∈ endsL b a c d ↔ e ∈ endsL a b c d := fun e => by
    unfold endsL
    rw [onB_swap b a c, onB_swap b a d]
    simp only [List.mem_append]
    constructor <;> rintro (h | h | h | h) <;> simp only [h, true_or, or_true]
  have h1 : difB (endsL b a c d) = difB (endsL a b c d) := by
    rw [Bool.eq_iff_iff, difB_iff, difB_iff]
    simp only [hm]
  have h2 : endsL b a c d ≠ [] ↔ endsL a b c d ≠ [] := by
    constructor <;> intro h <;> obtain ⟨e, he⟩ := List.exists_mem_of_ne_nil _ h
    · exact List.ne_nil_of_mem ((hm e).1 he)
    · exact List.ne_nil_of_mem ((hm e).2 he)
  unfold meetR
  rw [h1, prB_swap1]
  by_cases h : endsL a b c d ≠ []
  · rw [if_pos (h2.2 h), if_pos h]
  · rw [if_neg (fun h' => h (h2.1 h')), if_neg h]
theorem meetR_swap2 (a b c d : Pt) : meetR a b d c = meetR a b c d := by rw [← meetR_comm, meetR_swap1, meetR_comm]
end Go.Proofs.YtmegmokjjlelgaaGreat
namespace Go.Proofs.YtmegmokjjlelgaaGreat
/-- The place of the least of the first m corners, the first of those that are alike. -/
def leastN (xs : List Pt) : Nat → Nat
  | 0 => 0
  | m + 1 => if ordI (ptAt xs m) (ptAt xs (leastN xs m)) < 0 then m else leastN xs m
theorem leastN_lt (xs : List Pt) {m : Nat} (h : 0 < m) : leastN xs m < m := by
  induction m with
  | zero => omega
  | succ m ih =>
    unfold leastN
    split
    · omega
    · rcases Nat.eq_zero_or_pos m with h0 | h0
      · subst h0; unfold leastN; omega
      · have := ih h0; omega
theorem ordI_eq {a b : Pt} : ordI a b = 0 ↔ a = b := by
  obtain ⟨ax, ay⟩ := a
  obtain ⟨bx, by_⟩ := b
  unfold ordI orI
  simp only [Pt.mk.injEq]
  rcases cmpI_cases ax bx with ⟨h, e⟩ | ⟨h, e⟩ | ⟨h, e⟩ <;> rcases cmpI_cases ay by_ with ⟨h', e'⟩ | ⟨h', e'⟩ | ⟨h', e'⟩ <;> rw [e, e'] <;> simp <;> omega
end Go.Proofs.YtmegmokjjlelgaaGreat
namespace Go.Proofs.YtmegmokjjlelgaaGreat
structure Ed where
  a : Pt
  b : Pt
  deriving DecidableEq
def Ed.back (e : Ed) : Ed := ⟨e.b, e.a⟩
def Ed.norm (e : Ed) : Ed := if 0 < ordI e.a e.b then e.back else e
structure Parc where
  id : Int
  ring : List Pt
  owner : ByteArray
structure Plan where
  outer : List Pt
  parcels : List Parc
def edgesOf (xs : List Pt) : List Ed := (List.range xs.length).map fun k => ⟨ptAt xs k, ptAt xs ((k + 1) % xs.length)⟩
def allE (ps : List Parc) : List Ed := ps.flatMap fun x => edgesOf x.ring
def ownB (s : ByteArray) : Bool := decide (s.size ≤ 32) && s.data.toList.all fun c => decide (32 ≤ c.toNat ∧ c.toNat ≤ 126)
def idB (n : Int) : Bool := decide (1 ≤ n ∧ n ≤ 1073741824)
def listN : Nat → Int → List Parc → Bool
  | _, _, [] => true
  | n, last, x :: r => idB x.id && (decide (last < x.id) && (ownB x.owner && (decide (n + x.ring.length ≤ 1024) && listN (n + x.ring.length) x.id r)))
theorem listN_cons (n : Nat) (last : Int) (x : Parc) (r : List Parc) : listN n last (x :: r) = (idB x.id && (decide (last < x.id) && (ownB x.owner && (decide (n + x.ring.length ≤ 1024) && listN (n + x.ring.length) x.id r)))) := rfl
theorem listN_nil (n : Nat) (last : Int) : listN n last [] = true := rfl
def cornN : Nat → List Parc → Nat
  | n, [] => n
  | n, x :: r => cornN (n + x.ring.length) r
theorem cornN_cons (n : Nat) (x : Parc) (r : List Parc) : cornN n (x :: r) = cornN (n + x.ring.length) r := rfl
theorem cornN_nil (n : Nat) : cornN n [] = n := rfl
def listedB (p : Plan) : Bool := listN p.outer.length 0 p.parcels && (decide (1 ≤ p.parcels.length) && (decide (p.parcels.length ≤ 64) && decide (cornN p.outer.length p.parcels ≤ 1024)))
def NormedP (xs : List Pt) : Prop := checkI xs = 0 ∧ xs = rot (leastN xs xs.length) xs
def MatchP (p : Plan) : Prop := (allE p.parcels).Nodup ∧ (∀ e ∈ edgesOf p.outer, e ∈ allE p.parcels) ∧ ∀ e ∈ allE p.parcels, (e.back ∈ allE p.parcels ↔ e ∉ edgesOf p.outer)
def shareB (e f : Ed) : Bool := decide (e.a = f.a) || (decide (e.a = f.b) || (decide (e.b = f.a) || decide (e.b = f.b)))
def meetE (e f : Ed) : Int := meetR e.a e.b f.a f.b
def apartB (e f : Ed) : Bool := if meetE e f = 0 then true else if meetE e f = 1 then shareB e f else decide (meetE e f = 3) && (decide (e = f) || decide (e = f.back))
def okR (e f : Ed) : Bool := !(decide (meetE e f = 2) || ((decide (meetE e f = 1) && !shareB e f) || (decide (meetE e f = 3) && !decide (e = f.back))))
def PairsE (l : List Ed) : Prop := ∀ i j (hi : i < l.length) (hj : j < l.length), i < j → okR l[i] l[j] = true
def SweepE (l : List Ed) : Prop := ∀ i j (hi : i < l.length) (hj : j < l.length), i < j → (∀ m (hm : m < l.length), i < m → m ≤ j → l[m].a.x ≤ l[i].b.x) → apartB l[i] l[j] = true
def areasL (ps : List Parc) : Int := sumL (ps.map fun x => areaZ x.ring)
def SoundP (p : Plan) : Prop := listedB p = true ∧ NormedP p.outer ∧ (∀ x ∈ p.parcels, NormedP x.ring) ∧ MatchP p ∧ PairsE (allE p.parcels) ∧ areasL p.parcels = areaZ p.outer
open Classical in
noncomputable def planB (p : Plan) : Bool := decide (SoundP p)
noncomputable def planE (p : Plan) : Int := if planB p = true then 0 else 2
theorem Ed.back_back (e : Ed) : e.back.back = e := rfl
theorem ordI_anti {a b : Pt} (h : 0 < ordI a b) : ordI b a < 0 := by
  unfold ordI orI at *
  rcases cmpI_cases a.x b.x with ⟨h1, e⟩ | ⟨h1, e⟩ | ⟨h1, e⟩ <;> rcases cmpI_cases a.y b.y with ⟨h2, e'⟩ | ⟨h2, e'⟩ | ⟨h2, e'⟩ <;> rcases cmpI_cases b.x a.x with ⟨h3, f⟩ | ⟨h3, f⟩ | ⟨h3, f⟩ <;> rcases cmpI_cases b.y a.y with ⟨h4, f'⟩ | ⟨h4, f'⟩ | ⟨h4, f'⟩ <;> rw [e, e'] at h <;> rw [f, f'] <;> (first | omega | (simp at h; done) | simp)
theorem ordI_le {a b : Pt} (h : ordI a b ≤ 0) : a.x ≤ b.x := by
  unfold ordI orI at h
  rcases cmpI_cases a.x b.x with ⟨h1, e⟩ | ⟨h1, e⟩ | ⟨h1, e⟩
  · omega
  · rw [e] at h; simp at h
  · omega
theorem ordI_both {a b : Pt} (h : ordI a b ≤ 0) (h' : ordI b a ≤ 0) : a = b := by
  obtain ⟨ax, ay⟩ := a
  obtain ⟨bx, by_⟩ := b
  unfold ordI orI at *
  simp only [Pt.mk.injEq] at *
  rcases cmpI_cases ax bx with ⟨h1, e⟩ | ⟨h1, e⟩ | ⟨h1, e⟩ <;> rcases cmpI_cases ay by_ with ⟨h2, e'⟩ | ⟨h2, e'⟩ | ⟨h2, e'⟩ <;> rcases cmpI_cases bx ax with ⟨h3, f⟩ | ⟨h3, f⟩ | ⟨h3, f⟩ <;> rcases cmpI_cases by_ ay with ⟨h4, f'⟩ | ⟨h4, f'⟩ | ⟨h4, f'⟩ <;> rw [e, e'] at h <;> rw [f, f'] at h' <;> (first | omega | (simp at h; done) | (simp at h'; done) | (simp at h h'; omega))
theorem Ed.norm_le (e : Ed) : ordI e.norm.a e.norm.b ≤ 0 := by
  unfold Ed.norm
  split
  · rename_i h
    have := ordI_anti h
    show ordI e.b e.a ≤ 0
    omega
  · omega
theorem Ed.norm_or (e : Ed) : e.norm = e ∨ e.norm = e.back := by
  unfold Ed.norm
  split
  · exact .inr rfl
  · exact .inl rfl
theorem Ed.norm_back {e : Ed} (h : e.a ≠ e.b) : e.back.norm = e.norm := by
  have h1 : ordI e.a e.b ≠ 0 := fun h' => h (ordI_eq.1 h')
  have h2 : ordI e.b e.a ≠ 0 := fun h' => h (ordI_eq.1 h').symm
  unfold Ed.norm Ed.back
  by_cases h3 : 0 < ordI e.a e.b
  · have := ordI_anti h3
    rw [if_pos h3, if_neg (by simp only; omega)]
  · rw [if_neg h3]
    have h4 : 0 < ordI e.b e.a := by
      rcases Int.lt_trichotomy (ordI e.b e.a) 0 with g | g | g
      · exfalso
        have := ordI_eq (a := e.a) (b := e.b)
        unfold ordI orI at h1 h2 h3 g
        rcases cmpI_cases e.a.x e.b.x with ⟨k1, e1⟩ | ⟨k1, e1⟩ | ⟨k1, e1⟩ <;> rcases cmpI_cases e.a.y e.b.y with ⟨k2, e2⟩ | ⟨k2, e2⟩ | ⟨k2, e2⟩ <;> rcases cmpI_cases e.b.x e.a.x with ⟨k3, e3⟩ | ⟨k3, e3⟩ | ⟨k3, e3⟩ <;> rcases cmpI_cases e.b.y e.a.y with ⟨k4, e4⟩ | ⟨k4, e4⟩ | ⟨k4, e4⟩ <;> rw [e1, e2] at h1 h3 <;> rw [e3, e4] at g <;> (first | omega | (simp at h1 h3 g; done) | (simp at g; done) | (simp at h3; done) | (simp at h1; done))
      · exact absurd g h2
      · exact g
    rw [if_pos (by simpa using h4)]
theorem Ed.norm_eq {e f : Ed} (h : e.norm = f.norm) : e = f ∨ e = f.back := by
  rcases e.norm_or with h1 | h1 <;> rcases f.norm_or with h2 | h2 <;> rw [h1, h2] at h
  · exact .inl h
  · exact .inr h
  · right; rw [← Ed.back_back e, h]
  · left; rw [← Ed.back_back e, h, Ed.back_back]
theorem meetE_comm (e f : Ed) : meetE f e = meetE e f := meetR_comm _ _ _ _
theorem meetE_back1 (e f : Ed) : meetE e.back f = meetE e f := meetR_swap1 _ _ _ _
theorem meetE_back2 (e f : Ed) : meetE e f.back = meetE e f := meetR_swap2 _ _ _ _
theorem meetE_norm (e f : Ed) : meetE e.norm f.norm = meetE e f := by
  rcases e.norm_or with h1 | h1 <;> rcases f.norm_or with h2 | h2 <;> rw [h1, h2]
  · rw [meetE_back2]
  · rw [meetE_back1]
  · rw [meetE_back1, meetE_back2]
theorem shareB_iff (e f : Ed) : shareB e f = true ↔ e.a = f.a ∨ e.a = f.b ∨ e.b = f.a ∨ e.b = f.b := by
  unfold shareB; simp
theorem shareB_comm (e f : Ed) : shareB f e = shareB e f := by
  rw [Bool.eq_iff_iff, shareB_iff, shareB_iff]
  constructor <;> (rintro (h | h | h | h) <;> simp [h])
theorem shareB_norm (e f : Ed) : shareB e.norm f.norm = shareB e f := by
  rw [Bool.eq_iff_iff, shareB_iff, shareB_iff]
  rcases e.norm_or with h1 | h1 <;> rcases f.norm_or with h2 | h2 <;> rw [h1, h2] <;> unfold Ed.back <;> simp only <;> (constructor <;> (rintro (h | h | h | h) <;> simp [h]))
theorem meetE_cases (e f : Ed) : meetE e f = 0 ∨ meetE e f = 1 ∨ meetE e f = 2 ∨ meetE e f = 3 := by
  unfold meetE meetR
  split
  · simp
  · split
    · simp
    · split <;> simp
theorem meetE_self {e : Ed} (h : e.a ≠ e.b) : meetE e e = 3 := by
  have h1 := onB_self e.a e.b
  unfold meetE meetR
  rw [if_pos]
  have : endsL e.a e.b e.a e.b = [e.a, e.b, e.a, e.b] := by unfold endsL; simp [h1.1, h1.2]
  rw [this, difB_iff]
  exact ⟨e.a, e.b, by simp, by simp, h⟩
theorem okR_iff (e f : Ed) : okR e f = true ↔ meetE e f ≠ 2 ∧ (meetE e f = 1 → shareB e f = true) ∧ (meetE e f = 3 → e = f.back) := by
  unfold okR
  by_cases h1 : meetE e f = 1 <;> by_cases h2 : meetE e f = 2 <;> by_cases h3 : meetE e f = 3 <;> by_cases h4 : e = f.back <;> rcases h5 : shareB e f with _ | _ <;> simp [h1, h2, h3, h4]
theorem okR_comm (e f : Ed) : okR f e = okR e f := by
  rw [Bool.eq_iff_iff, okR_iff, okR_iff, meetE_comm, shareB_comm]
  have : f = e.back ↔ e = f.back := ⟨fun h => by rw [h]; rfl, fun h => by rw [h]; rfl⟩
  rw [this]
theorem apartB_iff (e f : Ed) : apartB e f = true ↔ meetE e f ≠ 2 ∧ (meetE e f = 1 → shareB e f = true) ∧ (meetE e f = 3 → e = f ∨ e = f.back) := by
  unfold apartB
  rcases meetE_cases e f with h | h | h | h <;> rw [h] <;> simp
/-- Stretches of which the one stands wholly to the left of the other have no point in common. -/
theorem meetE_left {e f : Ed} (he : good e.a = true ∧ good e.b = true) (hf : good f.a = true ∧ good f.b = true) (h1 : e.a.x ≤ e.b.x) (h2 : f.a.x ≤ f.b.x) (h : e.b.x < f.a.x) : meetE e f = 0 := by
  unfold meetE
  rw [← meet_eq he.1 he.2 hf.1 hf.2]
  unfold meetP
  rw [if_pos]
  unfold apB mx mn
  rw [decide_eq_true_eq]
  left
  split <;> split <;> omega
/-- The sweep over the stretches, each once and turned up, sees what all pairs show. -/
theorem sweep_iff {l L : List Ed} (hn : l.Nodup) (hd : ∀ e ∈ l, e.a ≠ e.b) (hg : ∀ e ∈ l, good e.a = true ∧ good e.b = true) (hm : ∀ e, e ∈ L ↔ ∃ f ∈ l, e = f.norm)
    (hs : L.Pairwise fun e f => e ≠ f ∧ ordI e.a f.a ≤ 0) : SweepE L ↔ PairsE l := by
  have hgL : ∀ e ∈ L, (good e.a = true ∧ good e.b = true) ∧ e.a.x ≤ e.b.x := fun e he => by
    obtain ⟨f, hf, rfl⟩ := (hm e).1 he
    have := hg f hf
    refine ⟨?_, ordI_le f.norm_le⟩
    rcases f.norm_or with h | h <;> rw [h]
    · exact this
    · exact ⟨this.2, this.1⟩
  have hs' : ∀ i j (hi : i < L.length) (hj : j < L.length), i < j → L[i] ≠ L[j] ∧ L[i].a.x ≤ L[j].a.x := fun i j hi hj hij => by
    have := List.pairwise_iff_getElem.1 hs i j hi hj hij
    exact ⟨this.1, ordI_le this.2⟩
  constructor
  · intro hS i j hi hj hij
    have hne : l[i] ≠ l[j] := List.pairwise_iff_getElem.1 hn i j hi hj hij
    have hei := List.getElem_mem hi
    have hej := List.getElem_mem hj
    by_cases hnm : l[i].norm = l[j].norm
    · rcases Ed.norm_eq hnm with h | h
      · exact absurd h hne
      · rw [okR_iff, h, meetE_back1, meetE_self (hd _ hej)]
        simp
    · -- the two in the sweep's list
      have key : ∀ e f, e ∈ l → f ∈ l → e.norm ≠ f.norm → (∃ i j, ∃ hi : i < L.length, ∃ hj : j < L.length, i < j ∧ L[i] = e.norm ∧ L[j] = f.norm) → okR e f = true := by
        rintro e f he hf hne ⟨i, j, hi, hj, hij, e1, e2⟩
        have hap : meetE e f ≠ 2 ∧ (meetE e f = 1 → shareB e f = true) ∧ (meetE e f = 3 → e.norm = f.norm ∨ e.norm = f.norm.back) := by
          by_cases hcut : ∀ m (hm : m < L.length), i < m → m ≤ j → L[m].a.x ≤ L[i].b.x
          · have := hS i j hi hj hij hcut
            rw [e1, e2, apartB_iff, meetE_norm, shareB_norm] at this
            exact this
          · obtain ⟨m, hm⟩ := Classical.not_forall.1 hcut
            obtain ⟨hml, hm⟩ := Classical.not_forall.1 hm
            obtain ⟨h1, hm⟩ := Classical.not_forall.1 hm
            obtain ⟨h2, hm⟩ := Classical.not_forall.1 hm
            have hx : L[m].a.x ≤ L[j].a.x := by
              rcases Nat.lt_or_ge m j with h | h
              · exact (hs' m j hml hj h).2
              · have : m = j := Nat.le_antisymm h2 h
                subst this; exact Int.le_refl _
            have hi' := hgL _ (List.getElem_mem hi)
            have hj' := hgL _ (List.getElem_mem hj)
            have h0 := meetE_left hi'.1 hj'.1 hi'.2 hj'.2 (Int.lt_of_lt_of_le (Int.not_le.1 hm) hx)
            rw [e1, e2, meetE_norm] at h0
            rw [h0]
            simp
        rw [okR_iff]
        refine ⟨hap.1, hap.2.1, fun h3 => ?_⟩
        rcases hap.2.2 h3 with h | h
        · exact absurd h hne
        · exfalso
          have a1 := e.norm_le
          have a2 := f.norm_le
          rw [h] at a1
          unfold Ed.back at a1
          simp only at a1
          have heq := ordI_both a2 a1
          have := hd f hf
          rcases f.norm_or with g | g <;> rw [g] at heq
          · exact this heq
          · exact this heq.symm
      obtain ⟨p, hp, hp'⟩ := List.getElem_of_mem ((hm l[i].norm).2 ⟨_, hei, rfl⟩)
      obtain ⟨q, hq, hq'⟩ := List.getElem_of_mem ((hm l[j].norm).2 ⟨_, hej, rfl⟩)
      rcases Nat.lt_trichotomy p q with h | h | h
      · exact key _ _ hei hej hnm ⟨p, q, hp, hq, h, hp', hq'⟩
      · subst h
        exact absurd (hp'.symm.trans hq') hnm
      · rw [← okR_comm]
        exact key _ _ hej hei (fun h => hnm h.symm) ⟨q, p, hq, hp, h, hq', hp'⟩
  · intro hP i j hi hj hij _
    obtain ⟨hne, -⟩ := hs' i j hi hj hij
    obtain ⟨e, he, h1⟩ := (hm _).1 (List.getElem_mem hi)
    obtain ⟨f, hf, h2⟩ := (hm _).1 (List.getElem_mem hj)
    rw [h1, h2] at hne ⊢
    have hef : e ≠ f := fun h => hne (by rw [h])
    have hok : okR e f = true := by
      obtain ⟨p, hp, rfl⟩ := List.getElem_of_mem he
      obtain ⟨q, hq, rfl⟩ := List.getElem_of_mem hf
      rcases Nat.lt_trichotomy p q with h | h | h
      · exact hP p q hp hq h
      · subst h; exact absurd rfl hef
      · rw [← okR_comm]; exact hP q p hq hp h
    rw [okR_iff] at hok
    rw [apartB_iff, meetE_norm, shareB_norm]
    refine ⟨hok.1, hok.2.1, fun h3 => ?_⟩
    exfalso
    have := hok.2.2 h3
    rw [this, Ed.norm_back (hd f hf)] at hne
    exact hne rfl
end Go.Proofs.YtmegmokjjlelgaaGreat
namespace Go.Proofs.YtmegmokjjlelgaaGreat
open Go.RowKit
theorem leastN_le (xs : List Pt) (m : Nat) : leastN xs m ≤ m := by
  rcases Nat.eq_zero_or_pos m with h | h
  · subst h; exact Nat.le_refl _
  · exact Nat.le_of_lt (leastN_lt xs h)
end Go.Proofs.YtmegmokjjlelgaaGreat
namespace Go.Proofs.YtmegmokjjlelgaaGreat
open Go.RowKit
abbrev HoldG (W V : World) (a : Addr) (g : Nat) (p q : Pt) : Prop := V.cell? a = some (.int .i64 p.x) ∧ V.cell? ⟨a.block, a.off + 1, none⟩ = some (.int .i64 p.y) ∧ V.cell? ⟨g, 0, none⟩ = some (.int .i64 q.x) ∧ V.cell? ⟨g, 1, none⟩ = some (.int .i64 q.y) ∧ Below W.heap.size W V
theorem heldG {W V V' : World} {a : Addr} {g : Nat} {p q : Pt} (hh : a.block < W.heap.size ∧ g < W.heap.size) (hs : V.cell? a = some (.int .i64 p.x) ∧ V.cell? ⟨a.block, a.off + 1, none⟩ = some (.int .i64 p.y) ∧ V.cell? ⟨g, 0, none⟩ = some (.int .i64 q.x) ∧ V.cell? ⟨g, 1, none⟩ = some (.int .i64 q.y) ∧ Below W.heap.size W V) (hb : Below V.heap.size V V') :
    V'.cell? a = some (.int .i64 p.x) ∧ V'.cell? ⟨a.block, a.off + 1, none⟩ = some (.int .i64 p.y) ∧ V'.cell? ⟨g, 0, none⟩ = some (.int .i64 q.x) ∧ V'.cell? ⟨g, 1, none⟩ = some (.int .i64 q.y) ∧ Below W.heap.size W V' := by
  obtain ⟨h1, h2⟩ := hh
  obtain ⟨c1, c2, c3, c4, c5⟩ := hs
  have := c5.size
  exact ⟨(hb.cell (p := a) (by omega)).trans c1, (hb.cell (p := ⟨a.block, a.off + 1, none⟩) (by simp only; omega)).trans c2, (hb.cell (p := ⟨g, 0, none⟩) (by simp only; omega)).trans c3, (hb.cell (p := ⟨g, 1, none⟩) (by simp only; omega)).trans c4, below_on c5 (Nat.le_refl _) hb⟩
set_option maxRecDepth 100000 in
set_option maxHeartbeats 1600000 in
theorem minPt_any (xs : List Pt) (A : Option Addr) (n cap : Nat) (w : World) (hr : Reads w w.heap.size 2 A n (ptsV xs)) (h1 : 1 ≤ n) (hn : n ≤ 8796093022208) :
    Calls Tryz.prog 109 #[.slice A n cap, .func (.func 110) #[] #[]] w fun e w' => e = .returned (ptV (ptAt xs (leastN xs n))) ∧ Below w.heap.size w w' := by
  obtain ⟨ad, rfl, hbd, -, -, -⟩ := hr.pt (k := 0) (by omega)
  have hb0 := (Below.refl w.heap.size w).alloc (Nat.le_refl _) (.cells #[.int .i64 0, .int .i64 0] 44)
  obtain ⟨-, p1, p2⟩ := (hr.below hb0).ptA (k := 0) (by omega)
  have hz0 : (0 : Int) < (n : Int) := by omega
  have hz2 : ¬ (n : Int) < 1 := by omega
  have bR : PtK (w.alloc (.cells #[.int .i64 0, .int .i64 0] 44)) w.heap.size ⟨0, 0⟩ := PtK.new w ⟨0, 0⟩
  rw [Nat.zero_mul, show ad.add 0 = ad from by simp [Addr.add]] at p1 p2
  have hz1 : 0 < n := by omega
  have HRD := Lib.hid hr
  clear hr
  have hP0 : ptAt xs 0 = ptAt xs (leastN xs 1) := by have h := leastN_lt xs (m := 1) (by omega); rw [show leastN xs 1 = 0 by omega]
  have HQ0 := Lib.hid hP0
  clear hP0
  generalize ptAt xs 0 = P0 at *
  have hB0 := hb0.alloc hb0.size (.cells #[.int .i64 P0.x, .int .i64 P0.y] 44)
  have HR0 : Hid (PtK ((w.alloc (.cells #[.int .i64 0, .int .i64 0] 44)).alloc (.cells #[.int .i64 P0.x, .int .i64 P0.y] 44)) w.heap.size ⟨0, 0⟩) := PtK.alloc bR _
  have HV0 : Hid (PtK ((w.alloc (.cells #[.int .i64 0, .int .i64 0] 44)).alloc (.cells #[.int .i64 P0.x, .int .i64 P0.y] 44)) (w.heap.size + 1) P0) := by
    have := PtK.new (w.alloc (.cells #[.int .i64 0, .int .i64 0] 44)) P0
    rwa [World.size_alloc] at this
  have HB0 := Lib.hid hB0
  clear hB0 hb0 bR
  go_enter Tryz.func109, Tryz.ntmps109
  go_wp2_with fail
  go_loopw [6] (fun i wr => ∃ k : Nat, 1 ≤ k ∧ k ≤ n ∧ i = .int .i64 (k : Int) ∧ Below w.heap.size w wr ∧ PtK wr w.heap.size ⟨0, 0⟩ ∧ PtK wr (w.heap.size + 1) (ptAt xs (leastN xs k))) (fun i _ => n - (intOf i).toNat)
  case atStart => exact ⟨1, Nat.le_refl _, h1, rfl, HB0.out, HR0.out, by rw [← HQ0.out]; exact HV0.out⟩
  case round =>
    clear HB0 HR0 HV0 HQ0 p1 p2 hz2
    obtain ⟨k, hk1, hk, rfl, hbel, hR, hV⟩ := hrel
    have hgl := hV.facts.2.2.2.2
    by_cases hlt : k < n
    · have hlt' : (k : Int) < (n : Int) := by omega
      have hw1 : IntKind.i64.wrap ((k : Int) + 1) = (k : Int) + 1 := by rw [IntKind.wrap_i64]; omega
      obtain ⟨hbd', p1, p2⟩ := ((HRD.out.below hbel).more hbel.size).ptA hlt
      have hst : leastN xs (k + 1) = if ordI (ptAt xs k) (ptAt xs (leastN xs k)) < 0 then k else leastN xs k := rfl
      have hkp : ptAt xs (leastN xs (k + 1)) = if ordI (ptAt xs k) (ptAt xs (leastN xs k)) < 0 then ptAt xs k else ptAt xs (leastN xs k) := by rw [hst]; split <;> rfl
      clear hst
      generalize ptAt xs (leastN xs k) = Q at *
      obtain ⟨q1, q2, q3, q4, -⟩ := hV.facts
      generalize ptAt xs k = P at *
      have kO := fun V => order_any P Q V
      generalize ordI P Q = o at *
      by_cases ho : o < 0
      all_goals
        have hP0 : HoldG wr wr.drew (ad.add (k * 2)) (w.heap.size + 1) P Q := ⟨p1, p2, q1, q2, (Below.refl _ _).drew⟩
        have hltM : (ad.add (k * 2)).block < wr.heap.size ∧ w.heap.size + 1 < wr.heap.size := by simp only [block_of_add]; exact ⟨hbd', hgl⟩
        unfold ptV at kO
        have HB := Lib.hid (And.intro hbel (And.intro hR hV))
        clear hbel hR hV p1 p2 q1 q2 q3 q4 hbd'
        have HST := Lib.hid hkp
        clear hkp
        go_wp2_with fail
        go_region_held3 (fun V => V.cell? (ad.add (k * 2)) = some (.int .i64 P.x) ∧ V.cell? ⟨(ad.add (k * 2)).block, (ad.add (k * 2)).off + 1, none⟩ = some (.int .i64 P.y) ∧ V.cell? ⟨w.heap.size + 1, 0, none⟩ = some (.int .i64 Q.x) ∧ V.cell? ⟨w.heap.size + 1, 1, none⟩ = some (.int .i64 Q.y) ∧ Below wr.heap.size wr V)
          (first | with_reducible exact hP0 | with_reducible exact heldG hltM (by assumption) (by assumption))
          (first
            | (go_simp; go_at_call 110; (with_reducible refine (kO _).mono ?_); rintro e w' ⟨rfl, hb'⟩; try dsimp only))
        clear hP0
        obtain ⟨-, p3, -, -, hbV⟩ := (by assumption : HoldG wr _ (ad.add (k * 2)) (w.heap.size + 1) P Q)
        have hV' := HB.out.2.2.on hbV
        have hR' := HB.out.2.1.on hbV
        obtain ⟨q1, q2, q3, q4, -⟩ := hV'.facts
        have HV := Lib.hid (And.intro (below_on HB.out.1 (Nat.le_refl _) hbV) (And.intro hR' hV'))
        clear hbV hV' hR' q1 q2
        go_wp2_with fail
        go_roundw
        case rel =>
          refine ⟨k + 1, by omega, by omega, by go_num, ?_⟩
          first
            | exact ⟨HV.out.1, HV.out.2.1, by rw [HST.out, if_neg (by omega)]; exact HV.out.2.2⟩
            | exact ⟨(HV.out.1.setCell (p := ⟨w.heap.size + 1, 0, none⟩) (by simp) _).setCell (p := ⟨w.heap.size + 1, 1, none⟩) (by simp) _, (HV.out.2.1.far (a := ⟨w.heap.size + 1, 0, none⟩) (by simp) _).far (a := ⟨w.heap.size + 1, 1, none⟩) (by simp) _, by rw [HST.out, if_pos (by omega)]; exact HV.out.2.2.put P⟩
        case measure => simp [intOf]; omega
    · have hkn : k = n := by omega
      subst hkn
      obtain ⟨Q, hQ⟩ : ∃ Q, Q = ptAt xs (leastN xs k) := ⟨_, rfl⟩
      rw [← hQ] at hV
      have HQ := Lib.hid hQ
      clear hQ
      obtain ⟨q1, q2, q3, q4, -⟩ := hV.facts
      obtain ⟨r1, r2, f3, f4, -⟩ := hR.facts
      have hbP := (hbel.setCell (p := ⟨w.heap.size, 0, none⟩) (Nat.le_refl _) (.int .i64 Q.x)).setCell (p := ⟨w.heap.size, 1, none⟩) (Nat.le_refl _) (.int .i64 Q.y)
      obtain ⟨z1, z2, -, -, -⟩ := (hR.put Q).facts
      have HB := Lib.hid hbP
      clear hbel hR hbP
      go_wp2_with fail
      exact bodyPost_ret (v := ptV Q) (by unfold ptV; simp [results, Tryz.results109, go_sem, z1, z2]) rfl ⟨by rw [HQ.out], HB.out⟩
end Go.Proofs.YtmegmokjjlelgaaGreat
namespace Go.Proofs.YtmegmokjjlelgaaGreat
open Go.RowKit
theorem ordI_neg {a b : Pt} : ordI a b < 0 ↔ a.x < b.x ∨ (a.x = b.x ∧ a.y < b.y) := by
  unfold ordI orI
  rcases cmpI_cases a.x b.x with ⟨h, e⟩ | ⟨h, e⟩ | ⟨h, e⟩ <;> rcases cmpI_cases a.y b.y with ⟨h', e'⟩ | ⟨h', e'⟩ | ⟨h', e'⟩ <;> rw [e, e'] <;> simp <;> omega
theorem leastN_first (xs : List Pt) (m : Nat) : (∀ j, j < m → ¬ ordI (ptAt xs j) (ptAt xs (leastN xs m)) < 0) ∧ ∀ j, j < leastN xs m → ptAt xs j ≠ ptAt xs (leastN xs m) := by
  induction m with
  | zero => exact ⟨fun j hj => absurd hj (Nat.not_lt_zero _), fun j hj => absurd hj (Nat.not_lt_zero _)⟩
  | succ m ih =>
    obtain ⟨i1, i2⟩ := ih
    have hst : leastN xs (m + 1) = if ordI (ptAt xs m) (ptAt xs (leastN xs m)) < 0 then m else leastN xs m := rfl
    by_cases h : ordI (ptAt xs m) (ptAt xs (leastN xs m)) < 0
    · rw [if_pos h] at hst
      rw [hst]
      refine ⟨fun j hj => ?_, fun j hj he => ?_⟩
      · by_cases e : j = m
        · subst e; rw [ordI_neg]; omega
        · have := i1 j (by omega)
          rw [ordI_neg] at this h ⊢
          omega
      · exact i1 j hj (by rw [he]; exact h)
    · rw [if_neg h] at hst
      rw [hst]
      refine ⟨fun j hj => ?_, i2⟩
      by_cases e : j = m
      · subst e; exact h
      · exact i1 j (by omega)
theorem Reads.takeP {w : World} {B n k : Nat} {A : Option Addr} {xs : List Pt} (h : Reads w B 2 A n (ptsV xs)) (hk : k ≤ n) : Reads w B 2 A k (ptsV (xs.take k)) := by
  have hl := h.lenPt
  refine ⟨by rw [ptsV_length, List.length_take]; omega, fun hp => ?_⟩
  obtain ⟨ad, e, hb, hc⟩ := h.2 (by omega)
  refine ⟨ad, e, hb, fun j u hu => hc j u ?_⟩
  rw [← List.take_append_drop k xs, ptsV_append, List.getElem?_append_left (by have := (List.getElem?_eq_some_iff.1 hu).1; exact this)]
  exact hu
theorem drop_ptsV (xs : List Pt) (k : Nat) : (ptsV xs).drop (k * 2) = ptsV (xs.drop k) := by
  by_cases h : k ≤ xs.length
  · have e : ptsV xs = ptsV (xs.take k) ++ ptsV (xs.drop k) := by rw [← ptsV_append, List.take_append_drop]
    rw [e, List.drop_left' (by rw [ptsV_length, List.length_take]; omega)]
  · rw [List.drop_eq_nil_of_le (by omega : xs.length ≤ k), List.drop_eq_nil_of_le (by rw [ptsV_length]; omega)]
    rfl
theorem Reads.dropP {w : World} {B n k cap : Nat} {ad : Addr} {xs : List Pt} (h : Reads w B 2 (some ad) n (ptsV xs)) (hk : k ≤ n) (hc : n ≤ cap) (hne : ¬ cap = k) : Reads w B 2 (some (ad.add (k * 2))) (n - k) (ptsV (xs.drop k)) := by
  have := h.cut hk hc
  rw [drop_ptsV, if_neg hne] at this
  exact this
set_option maxRecDepth 100000 in
set_option maxHeartbeats 1600000 in
theorem leastP_any (xs : List Pt) (A : Option Addr) (n cap : Nat) (w : World) (hr : Reads w w.heap.size 2 A n (ptsV xs)) (hc : n ≤ cap) (hn : n ≤ 1048576) :
    Calls Tryz.prog 62 #[.slice A n cap] w fun e w' => ∃ A' c, e = .returned (.slice A' n c) ∧ w'.ownsRow w.heap.size 44 2 (.slice A' n c) n (ptsV (rot (leastN xs n) xs)) ∧ Below w.heap.size w w' := by
  have hl : xs.length = n := hr.lenPt
  by_cases h0 : n = 0
  · subst h0
    obtain rfl := List.eq_nil_of_length_eq_zero hl
    clear hr
    go_enter Tryz.func62, Tryz.ntmps62
    go_wp2_with fail
    go_ret
    exact ⟨none, 0, rfl, by simp [rot, ptsV, World.ownsRow_nil], Below.refl _ _⟩
  · have h0' : ¬ (n : Int) = 0 := by omega
    have hkn := leastN_lt xs (m := n) (by omega)
    have kM := Lib.hid (minPt_any xs A n cap w hr (by omega) (by omega))
    have kF := Lib.hid (leastN_first xs n).2
    obtain ⟨k, hk⟩ : ∃ k, k = leastN xs n := ⟨_, rfl⟩
    rw [← hk] at kM kF hkn ⊢
    clear hk
    obtain ⟨ad, rfl, -, -, -, -⟩ := hr.pt (k := 0) (by omega)
    have HR := Lib.hid (And.intro hr hl)
    clear hr hl
    go_enter Tryz.func62, Tryz.ntmps62
    go_wp2_with fail
    refine kM.out.mono ?_
    rintro e w1 ⟨rfl, hb1⟩
    have kI := Lib.hid (indexPt_any xs (some ad) n cap k w1 (HR.out.1.on hb1) hkn kF.out (by omega))
    clear kM kF
    have HB := Lib.hid hb1
    clear hb1
    go_wp2_with fail
    refine kI.out.mono ?_
    rintro e w2 ⟨rfl, hb2⟩
    have HB2 := Lib.hid (below_on HB.out (Nat.le_refl _) hb2)
    clear HB hb2 kI
    have e1 : (k : Int) ≤ (n : Int) := by omega
    have e2 : (n : Int) ≤ (cap : Int) := by omega
    have e3 : ¬ cap = k := by omega
    have e4 : (k : Int) ≤ (cap : Int) := by omega
    have e5 : ¬ (k : Int) < 0 := by omega
    have e6 : k ≤ n := by omega
    have e7 : k ≤ cap := by omega
    go_wp2_with fail
    have hP0 : Below w2.heap.size w2 w2.drew := (Below.refl _ _).drew
    have hSA : Below w2.heap.size w2 (World.drew (w2.alloc (.cells #[.slice (some (ad.add (k * 2))) (n - k) (cap - k), .slice (some ad) k cap] 23))) := ((Below.refl _ _).alloc (Nat.le_refl _) _).drew
    have hRx : Reads w2 w2.heap.size 2 (some ad) n (ptsV xs) := HR.out.1.on HB2.out
    have kC := concatPt_any (xs.drop k) (xs.take k) (some (ad.add (k * 2))) (some ad) (n - k) k (cap - k) cap w2.heap.size 2 (World.drew (w2.alloc (.cells #[.slice (some (ad.add (k * 2))) (n - k) (cap - k), .slice (some ad) k cap] 23)))
      ((hRx.dropP e6 hc e3).on hSA) ((hRx.takeP e6).on hSA) (by simp) (Blk.cell (Blk.new w2 _ _) 0) (Blk.cell (Blk.new w2 _ _) 1) (by omega) (by omega)
    rw [show n - k + k = n by omega] at kC
    have kC := Lib.hid kC
    clear hRx
    go_region_held3 (fun V => Below w2.heap.size w2 V)
      (first | with_reducible exact hP0 | with_reducible exact hSA | with_reducible exact hSB)
      (first
        | (go_simp; go_at_call 63; (with_reducible refine (kC.out).mono ?_); rintro e w' ⟨A', c', rfl, ho', hb'⟩; have hSB := below_on hSA (Nat.le_refl _) hb'; try dsimp only))
    all_goals
      clear hP0 hSA
      have HF := Lib.hid (And.intro (own_mono ho' (Nat.le_trans HB2.out.size (by simp))) (below_on HB2.out (Nat.le_refl _) hSB))
      clear ho' hb' hSB HB2 kC
      go_wp2_with fail
      go_ret
      exact ⟨A', c', rfl, HF.out⟩
end Go.Proofs.YtmegmokjjlelgaaGreat
namespace Go.Proofs.YtmegmokjjlelgaaGreat
open Go.RowKit
def pcAt (ps : List Parc) (k : Nat) : Parc := ps[k]?.getD ⟨0, [], ByteArray.empty⟩
theorem pcAt_lt {ps : List Parc} {k : Nat} (h : k < ps.length) : pcAt ps k = ps[k] := by unfold pcAt; simp [h]
def PIn (W : World) (B : Nat) (A : Option Addr) (n : Nat) (ps : List Parc) : Prop :=
  ps.length = n ∧ (0 < n → ∃ ad, A = some ad ∧ ad.block < B ∧ ∀ k, k < n → W.cell? (ad.add (k * 3)) = some (.int .i64 (pcAt ps k).id) ∧
    (∃ Ak nk ck, W.cell? (ad.add (k * 3 + 1)) = some (.slice Ak nk ck) ∧ Reads W B 2 Ak nk (ptsV (pcAt ps k).ring) ∧ nk ≤ ck ∧ ck ≤ 9223372036854775807) ∧ W.cell? (ad.add (k * 3 + 2)) = some (.string (pcAt ps k).owner))
theorem PIn.keep {W W' : World} {B n : Nat} {A : Option Addr} {ps : List Parc} (h : PIn W B A n ps) (hk : ∀ p : Addr, p.block < B → W'.cell? p = W.cell? p) : PIn W' B A n ps := by
  refine ⟨h.1, fun h0 => ?_⟩
  obtain ⟨ad, e, hb, hc⟩ := h.2 h0
  refine ⟨ad, e, hb, fun k hkn => ?_⟩
  obtain ⟨h1, ⟨Ak, nk, ck, h2, h3, h4⟩, h5⟩ := hc k hkn
  exact ⟨(hk _ (by rw [block_of_add]; exact hb)).trans h1, ⟨Ak, nk, ck, (hk _ (by rw [block_of_add]; exact hb)).trans h2, h3.keep hk, h4⟩, (hk _ (by rw [block_of_add]; exact hb)).trans h5⟩
theorem PIn.more {W : World} {B B' n : Nat} {A : Option Addr} {ps : List Parc} (h : PIn W B A n ps) (hB : B ≤ B') : PIn W B' A n ps := by
  refine ⟨h.1, fun h0 => ?_⟩
  obtain ⟨ad, e, hb, hc⟩ := h.2 h0
  refine ⟨ad, e, Nat.lt_of_lt_of_le hb hB, fun k hkn => ?_⟩
  obtain ⟨h1, ⟨Ak, nk, ck, h2, h3, h4⟩, h5⟩ := hc k hkn
  exact ⟨h1, ⟨Ak, nk, ck, h2, h3.more hB, h4⟩, h5⟩
theorem PIn.below {W W' : World} {B n : Nat} {A : Option Addr} {ps : List Parc} (h : PIn W B A n ps) (hb : Below B W W') : PIn W' B A n ps := h.keep fun _ hp => hb.cell hp
theorem PIn.on {W W' : World} {n : Nat} {A : Option Addr} {ps : List Parc} (h : PIn W W.heap.size A n ps) (hb : Below W.heap.size W W') : PIn W' W'.heap.size A n ps := (h.below hb).more hb.size
theorem add_off3 (ad : Addr) (k j : Nat) (hj : 0 < j) : (⟨(ad.add k).block, (ad.add k).off + j, none⟩ : Addr) = ad.add (k + j) := by
  simp only [Addr.add]
  rw [if_neg (by omega : ¬ k + j = 0)]
  split <;> simp <;> omega
theorem PIn.at_ {W : World} {B n : Nat} {ad : Addr} {ps : List Parc} (h : PIn W B (some ad) n ps) {k : Nat} (hk : k < n) :
    ad.block < B ∧ W.cell? (ad.add (k * 3)) = some (.int .i64 (pcAt ps k).id) ∧ (∃ Ak nk ck, W.cell? ⟨(ad.add (k * 3)).block, (ad.add (k * 3)).off + 1, none⟩ = some (.slice Ak nk ck) ∧ Reads W B 2 Ak nk (ptsV (pcAt ps k).ring) ∧ nk ≤ ck ∧ ck ≤ 9223372036854775807) ∧
      W.cell? ⟨(ad.add (k * 3)).block, (ad.add (k * 3)).off + 2, none⟩ = some (.string (pcAt ps k).owner) := by
  obtain ⟨ad', e, hb, hc⟩ := h.2 (by omega)
  obtain rfl : ad = ad' := by simpa using e
  obtain ⟨h1, ⟨Ak, nk, ck, h2, h3, h4⟩, h5⟩ := hc k hk
  exact ⟨hb, h1, ⟨Ak, nk, ck, by rw [add_off3 _ _ _ (by omega)]; exact h2, h3, h4⟩, by rw [add_off3 _ _ _ (by omega)]; exact h5⟩
theorem PIn.some_ {W : World} {B n : Nat} {A : Option Addr} {ps : List Parc} (h : PIn W B A n ps) (hn : 0 < n) : ∃ ad, A = some ad := by
  obtain ⟨ad, e, -⟩ := h.2 hn
  exact ⟨ad, e⟩
/-- What a plan's numbers and lengths are bound by. -/
def Parc.fits (x : Parc) : Prop := x.ring.length ≤ 8796093022208 ∧ (∀ p ∈ x.ring, p.inI) ∧ inI x.id ∧ x.owner.size ≤ 9223372036854775807
def Plan.fits (p : Plan) : Prop := (p.outer.length ≤ 8796093022208 ∧ ∀ q ∈ p.outer, q.inI) ∧ p.parcels.length ≤ 8796093022208 ∧ ∀ x ∈ p.parcels, x.fits
theorem Plan.fits.pc {p : Plan} (h : p.fits) {k : Nat} (hk : k < p.parcels.length) : (pcAt p.parcels k).fits := by
  rw [pcAt_lt hk]; exact h.2.2 _ (List.getElem_mem hk)
structure PlanAt (W : World) (B : Nat) (A : Option Addr) (n c : Nat) (A' : Option Addr) (n' c' : Nat) (p : Plan) : Prop where
  outer : Reads W B 2 A n (ptsV p.outer)
  parcs : PIn W B A' n' p.parcels
  oc : n ≤ c ∧ c ≤ 9223372036854775807
  pc : n' ≤ c' ∧ c' ≤ 9223372036854775807
  fits : p.fits
theorem PlanAt.below {W W' : World} {B n c n' c' : Nat} {A A' : Option Addr} {p : Plan} (h : PlanAt W B A n c A' n' c' p) (hb : Below B W W') : PlanAt W' B A n c A' n' c' p := ⟨h.outer.below hb, h.parcs.below hb, h.oc, h.pc, h.fits⟩
theorem PlanAt.more {W : World} {B B' n c n' c' : Nat} {A A' : Option Addr} {p : Plan} (h : PlanAt W B A n c A' n' c' p) (hB : B ≤ B') : PlanAt W B' A n c A' n' c' p := ⟨h.outer.more hB, h.parcs.more hB, h.oc, h.pc, h.fits⟩
theorem PlanAt.on {W W' : World} {n c n' c' : Nat} {A A' : Option Addr} {p : Plan} (h : PlanAt W W.heap.size A n c A' n' c' p) (hb : Below W.heap.size W W') : PlanAt W' W'.heap.size A n c A' n' c' p := (h.below hb).more hb.size
theorem PlanAt.lens {W : World} {B n c n' c' : Nat} {A A' : Option Addr} {p : Plan} (h : PlanAt W B A n c A' n' c' p) : p.outer.length = n ∧ p.parcels.length = n' ∧ n ≤ 8796093022208 ∧ n' ≤ 8796093022208 := by
  have h1 := h.outer.lenPt
  have h2 := h.parcs.1
  have h3 := h.fits.1.1
  have h4 := h.fits.2.1
  exact ⟨h1, h2, by omega, by omega⟩
abbrev planV (A : Option Addr) (n c : Nat) (A' : Option Addr) (n' c' : Nat) : Value := .agg #[.slice A n c, .slice A' n' c']
/-- A block that holds one parcel. -/
def PcK (W : World) (g : Nat) (x : Parc) (A : Option Addr) (n c : Nat) : Prop := Blk W g 40 #[.int .i64 x.id, .slice A n c, .string x.owner]
theorem PcK.facts {W : World} {g : Nat} {x : Parc} {A : Option Addr} {n c : Nat} (h : PcK W g x A n c) : W.cell? ⟨g, 0, none⟩ = some (.int .i64 x.id) ∧ W.cell? ⟨g, 1, none⟩ = some (.slice A n c) ∧ W.cell? ⟨g, 2, none⟩ = some (.string x.owner) ∧ g < W.heap.size :=
  ⟨by rw [Blk.cell h 0]; rfl, by rw [Blk.cell h 1]; rfl, by rw [Blk.cell h 2]; rfl, Blk.lt h⟩
theorem PcK.new (w : World) (x : Parc) (A : Option Addr) (n c : Nat) : PcK (w.alloc (.cells #[.int .i64 x.id, .slice A n c, .string x.owner] 40)) w.heap.size x A n c := Blk.new w _ _
theorem PcK.on {W W' : World} {g : Nat} {x : Parc} {A : Option Addr} {n c : Nat} (h : PcK W g x A n c) (hb : Below W.heap.size W W') : PcK W' g x A n c := Blk.below h hb (Blk.lt h)
/-- A block that holds a plan's two slices. -/
def PlK (W : World) (g : Nat) (A : Option Addr) (n c : Nat) (A' : Option Addr) (n' c' : Nat) : Prop := Blk W g 26 #[.slice A n c, .slice A' n' c']
theorem PlK.facts {W : World} {g : Nat} {A A' : Option Addr} {n c n' c' : Nat} (h : PlK W g A n c A' n' c') : W.cell? ⟨g, 0, none⟩ = some (.slice A n c) ∧ W.cell? ⟨g, 1, none⟩ = some (.slice A' n' c') ∧ g < W.heap.size :=
  ⟨by rw [Blk.cell h 0]; rfl, by rw [Blk.cell h 1]; rfl, Blk.lt h⟩
theorem PlK.new (w : World) (A : Option Addr) (n c : Nat) (A' : Option Addr) (n' c' : Nat) : PlK (w.alloc (.cells #[.slice A n c, .slice A' n' c'] 26)) w.heap.size A n c A' n' c' := Blk.new w _ _
theorem PlK.on {W W' : World} {g : Nat} {A A' : Option Addr} {n c n' c' : Nat} (h : PlK W g A n c A' n' c') (hb : Below W.heap.size W W') : PlK W' g A n c A' n' c' := Blk.below h hb (Blk.lt h)
end Go.Proofs.YtmegmokjjlelgaaGreat
