/- Maps that a call makes: a block, as the list of its keys and values in the order in which they came. -/
import Derived.Carry
import Derived.Maps.RangeRun
import Derived.RangeFuncCalls
import Derived.RangeFuncLeaves
import Derived.RangeFuncNested
import Derived.WideKeyRuns
import Derived.Test.YtmegmokjjlelgaaGreatK06
import Derived.Test.YtmegmokjjlelgaaGreatK13
namespace Go.Proofs.YtmegmokjjlelgaaGreat
open Go.ChangeMaps (setBlock)
variable {α : Type} {P : Program}
/-- What a key's type has to be good for. -/
structure KeyFits [DecidableEq α] (P : Program) (K : TypeId) (enc : α → Value) : Prop where
  wide : (match P.underlying K with | some (.array _ _) | some (.struct _) => true | _ => false) = true
  eq : ∀ (x y : α) (w : World), (Op.equal K (enc x) (enc y)).run P w = .ok (decide (x = y)) w
  check : ∀ (em : Bool) (x : α) (w : World), (Instr.checkKey em 10000 K (enc x)).run P w = .ok () w
  same : ∀ x : α, Instr.sameBits 10000 (enc x) (enc x) = true
def entF (enc : α → Value) (z : (α × Value) × Nat) : MapEntry := { key := enc z.1.1, val := z.1.2, born := z.2 }
def entriesOf (enc : α → Value) (l : List (α × Value)) : Array MapEntry := (l.zipIdx.map (entF enc)).toArray
def MapB (W : World) (b : Nat) (enc : α → Value) (l : List (α × Value)) : Prop := W.heap[b]? = some (.map (entriesOf enc l) l.length)
def look [DecidableEq α] : List (α × Value) → α → Option Value
  | [], _ => none
  | (k, v) :: l, x => if x = k then some v else look l x
def findL [DecidableEq α] (x : α) : List (α × Value) → Nat → Option (Nat × Value)
  | [], _ => none
  | (k, v) :: l, i => if x = k then some (i, v) else findL x l (i + 1)
theorem findL_look [DecidableEq α] (x : α) (l : List (α × Value)) : ∀ i, (findL x l i).map (·.2) = look l x := by
  induction l with
  | nil => intro i; rfl
  | cons z l ih =>
    obtain ⟨k, v⟩ := z
    intro i
    unfold findL look
    split
    · rfl
    · exact ih (i + 1)
theorem look_none [DecidableEq α] {l : List (α × Value)} {x : α} : look l x = none ↔ x ∉ l.map (·.1) := by
  induction l with
  | nil => simp [look]
  | cons z l ih =>
    obtain ⟨k, v⟩ := z
    unfold look
    by_cases h : x = k
    · simp [h]
    · rw [if_neg h, ih]; simp [h]
theorem look_mem [DecidableEq α] {l : List (α × Value)} {x : α} {v : Value} (h : look l x = some v) : (x, v) ∈ l := by
  induction l with
  | nil => simp [look] at h
  | cons z l ih =>
    obtain ⟨k, u⟩ := z
    unfold look at h
    split at h
    · rename_i e
      simp at h
      subst e h
      simp
    · exact List.mem_cons_of_mem _ (ih h)
theorem find_runs [DecidableEq α] {K : TypeId} {enc : α → Value} (F : KeyFits P K enc) (x : α) (w : World) (l : List (α × Value)) : ∀ i, (Instr.findAsking K (enc x) ((l.zipIdx i).map (entF enc)) i).run P w = .ok (findL x l i) w := by
  induction l with
  | nil => intro i; simp [Instr.findAsking, findL]
  | cons z l ih =>
    obtain ⟨k, v⟩ := z
    intro i
    have h := F.eq x k w
    by_cases e : x = k
    · rw [decide_eq_true e] at h
      unfold findL
      rw [if_pos e]
      simp [Instr.findAsking, entF, h]
    · rw [decide_eq_false e] at h
      simp [Instr.findAsking, findL, entF, h, e]
      exact ih (i + 1)
theorem run_find [DecidableEq α] {K : TypeId} {enc : α → Value} (F : KeyFits P K enc) (x : α) (w : World) (l : List (α × Value)) : (Instr.findKey K (enc x) (entriesOf enc l).toList).run P w = .ok (findL x l 0) w := by
  rw [run_findKey_eq (w := w) F.wide]
  exact find_runs F x w l 0
theorem MapB.made (w : World) (enc : α → Value) : MapB (w.alloc (.map #[] 0)) w.heap.size enc [] := (MapKept.heap_alloc w _).1
theorem MapB.lt {W : World} {b : Nat} {enc : α → Value} {l : List (α × Value)} (h : MapB W b enc l) : b < W.heap.size := (Array.getElem?_eq_some_iff.1 h).1
theorem MapB.kept {W W' : World} {b : Nat} {enc : α → Value} {l : List (α × Value)} (h : MapB W b enc l) (he : W'.heap[b]? = W.heap[b]?) : MapB W' b enc l := he.trans h
theorem run_look_in [DecidableEq α] {K T E : TypeId} {enc : α → Value} (F : KeyFits P K enc) (ht : P.underlying T = some (.map K E)) {W : World} {b : Nat} {l : List (α × Value)} (h : MapB W b enc l) {x : α} {v : Value} (hx : look l x = some v) :
    (Instr.lookup T (.map (some b)) (enc x) true).run P W = .ok (.tuple #[v, .bool true]) W := by
  have hf := run_find F x W l
  have hl := findL_look x l 0
  rw [hx] at hl
  cases hq : findL x l 0 with
  | none => rw [hq] at hl; simp at hl
  | some z =>
    rw [hq] at hl hf
    simp at hl
    have hb : W.heap[b]? = some (.map (entriesOf enc l) l.length) := h
    simp [Instr.lookup, run_underlying ht, getObj, Sem.run, hb, F.check, hf, ← hl]
theorem run_look_out [DecidableEq α] {K T E : TypeId} {enc : α → Value} (F : KeyFits P K enc) (ht : P.underlying T = some (.map K E)) {z : Value} (hz : ∀ w, (zeroValue E).run P w = .ok z w) {W : World} {b : Nat} {l : List (α × Value)} (h : MapB W b enc l) {x : α} (hx : look l x = none) :
    (Instr.lookup T (.map (some b)) (enc x) true).run P W = .ok (.tuple #[z, .bool false]) W := by
  have hf := run_find F x W l
  have hl := findL_look x l 0
  rw [hx] at hl
  cases hq : findL x l 0 with
  | some z => rw [hq] at hl; simp at hl
  | none =>
    rw [hq] at hf
    have hb : W.heap[b]? = some (.map (entriesOf enc l) l.length) := h
    simp [Instr.lookup, run_underlying ht, getObj, Sem.run, hb, F.check, hf, hz]
theorem run_look_in1 [DecidableEq α] {K T E : TypeId} {enc : α → Value} (F : KeyFits P K enc) (ht : P.underlying T = some (.map K E)) {W : World} {b : Nat} {l : List (α × Value)} (h : MapB W b enc l) {x : α} {v : Value} (hx : look l x = some v) :
    (Instr.lookup T (.map (some b)) (enc x) false).run P W = .ok v W := by
  have hf := run_find F x W l
  have hl := findL_look x l 0
  rw [hx] at hl
  cases hq : findL x l 0 with
  | none => rw [hq] at hl; simp at hl
  | some z =>
    rw [hq] at hl hf
    simp at hl
    have hb : W.heap[b]? = some (.map (entriesOf enc l) l.length) := h
    simp [Instr.lookup, run_underlying ht, getObj, Sem.run, hb, F.check, hf, ← hl]
theorem run_look_out1 [DecidableEq α] {K T E : TypeId} {enc : α → Value} (F : KeyFits P K enc) (ht : P.underlying T = some (.map K E)) {z : Value} (hz : ∀ w, (zeroValue E).run P w = .ok z w) {W : World} {b : Nat} {l : List (α × Value)} (h : MapB W b enc l) {x : α} (hx : look l x = none) :
    (Instr.lookup T (.map (some b)) (enc x) false).run P W = .ok z W := by
  have hf := run_find F x W l
  have hl := findL_look x l 0
  rw [hx] at hl
  cases hq : findL x l 0 with
  | some z => rw [hq] at hl; simp at hl
  | none =>
    rw [hq] at hf
    have hb : W.heap[b]? = some (.map (entriesOf enc l) l.length) := h
    simp [Instr.lookup, run_underlying ht, getObj, Sem.run, hb, F.check, hf, hz]
theorem entriesOf_snoc (enc : α → Value) (l : List (α × Value)) (x : α) (v : Value) : entriesOf enc (l ++ [(x, v)]) = (entriesOf enc l).push { key := enc x, val := v, born := l.length } := by
  unfold entriesOf
  rw [List.zipIdx_append, List.map_append]
  simp [entF]
theorem run_put_new [DecidableEq α] {K T E : TypeId} {enc : α → Value} (F : KeyFits P K enc) (ht : P.underlying T = some (.map K E)) {W : World} {b : Nat} {l : List (α × Value)} (h : MapB W b enc l) {x : α} (v : Value) (hx : look l x = none) :
    ∃ W', (Instr.mapUpdate T (.map (some b)) (enc x) v).run P W = .ok () W' ∧ MapB W' b enc (l ++ [(x, v)]) ∧ W.grownBy W' (some b) := by
  have hf := run_find F x W l
  have hl := findL_look x l 0
  rw [hx] at hl
  cases hq : findL x l 0 with
  | some z => rw [hq] at hl; simp at hl
  | none =>
    rw [hq] at hf
    have hb : W.heap[b]? = some (.map (entriesOf enc l) l.length) := h
    have hlt := h.lt
    refine ⟨setBlock W b (.map (entriesOf enc (l ++ [(x, v)])) (l.length + 1)), ?_, ?_, ?_⟩
    · rw [entriesOf_snoc]
      simp [Instr.mapUpdate, run_underlying ht, getObj, setObj, Sem.run, hb, F.check, hf, setBlock]
    · unfold MapB setBlock
      simp [hlt]
    · refine ⟨rfl, rfl, rfl, by simp [setBlock], fun k hk hne => ?_⟩
      have : b ≠ k := fun e => hne (by rw [e])
      simp [setBlock, this]
def upd [DecidableEq α] (x : α) (v : Value) : List (α × Value) → List (α × Value)
  | [] => []
  | (k, u) :: l => if x = k then (k, v) :: l else (k, u) :: upd x v l
theorem upd_look [DecidableEq α] {x : α} {v u : Value} {l : List (α × Value)} (h : look l x = some u) (y : α) : look (upd x v l) y = if y = x then some v else look l y := by
  induction l with
  | nil => simp [look] at h
  | cons z l ih =>
    obtain ⟨k, u'⟩ := z
    unfold upd
    by_cases e : x = k
    · subst e
      rw [if_pos rfl]
      unfold look
      by_cases e2 : y = x <;> simp [e2]
    · rw [if_neg e]
      have h' : look l x = some u := by unfold look at h; rwa [if_neg e] at h
      unfold look
      by_cases e2 : y = k
      · subst e2
        have hne : ¬ y = x := fun h' => e h'.symm
        simp [hne]
      · rw [if_neg e2, ih h', if_neg e2]
theorem upd_len [DecidableEq α] (x : α) (v : Value) (l : List (α × Value)) : (upd x v l).length = l.length := by
  induction l with
  | nil => rfl
  | cons z l ih =>
    obtain ⟨k, u⟩ := z
    unfold upd
    split <;> simp [ih]
theorem upd_entries [DecidableEq α] (enc : α → Value) {x : α} {v : Value} {l : List (α × Value)} : ∀ {s : Nat} {i : Nat} {u : Value}, findL x l s = some (i, u) →
    s ≤ i ∧ ((l.zipIdx s).map (entF enc)).modify (i - s) (fun e => { e with key := enc x, val := v }) = ((upd x v l).zipIdx s).map (entF enc) ∧ (((l.zipIdx s).map (entF enc))[i - s]?).map (·.key) = some (enc x) := by
  induction l with
  | nil => intro s i u h; simp [findL] at h
  | cons z l ih =>
    obtain ⟨k, u'⟩ := z
    intro s i u h
    unfold findL at h
    by_cases e : x = k
    · rw [if_pos e] at h
      simp at h
      obtain ⟨rfl, rfl⟩ := h
      subst e
      refine ⟨Nat.le_refl _, ?_, by simp [entF]⟩
      unfold upd
      rw [if_pos rfl]
      simp [entF]
    · rw [if_neg e] at h
      obtain ⟨h1, h2, h3⟩ := ih h
      have hi : i - s = (i - (s + 1)) + 1 := by omega
      refine ⟨by omega, ?_, ?_⟩
      · unfold upd
        rw [if_neg e, hi]
        simp only [List.zipIdx_cons, List.map_cons, List.modify_succ_cons]
        rw [h2]
      · rw [hi]
        simpa using h3
theorem run_put_old [DecidableEq α] {K T E : TypeId} {enc : α → Value} (F : KeyFits P K enc) (ht : P.underlying T = some (.map K E)) {W : World} {b : Nat} {l : List (α × Value)} (h : MapB W b enc l) {x : α} {u : Value} (v : Value) (hx : look l x = some u) :
    ∃ W', (Instr.mapUpdate T (.map (some b)) (enc x) v).run P W = .ok () W' ∧ MapB W' b enc (upd x v l) ∧ W.grownBy W' (some b) := by
  have hf := run_find F x W l
  have hl := findL_look x l 0
  rw [hx] at hl
  cases hq : findL x l 0 with
  | none => rw [hq] at hl; simp at hl
  | some z =>
    obtain ⟨i, u'⟩ := z
    rw [hq] at hf
    obtain ⟨-, h2, h3⟩ := upd_entries enc (v := v) hq
    rw [Nat.sub_zero] at h2 h3
    have hb : W.heap[b]? = some (.map (entriesOf enc l) l.length) := h
    have hlt := h.lt
    have hk3 : ((entriesOf enc l)[i]?).map (·.key) = some (enc x) := by unfold entriesOf; simpa using h3
    have hmod : (entriesOf enc l).modify i (fun e => { e with key := enc x, val := v }) = entriesOf enc (upd x v l) := by
      unfold entriesOf
      rw [← h2]
      simp
    refine ⟨setBlock W b (.map (entriesOf enc (upd x v l)) l.length), ?_, ?_, ?_⟩
    · rw [← hmod]
      simp [Instr.mapUpdate, run_underlying ht, getObj, setObj, Sem.run, hb, F.check, hf, setBlock, hk3, Instr.keyThatStays, F.same]
    · unfold MapB setBlock
      simp [hlt, upd_len]
    · refine ⟨rfl, rfl, rfl, by simp [setBlock], fun k hk hne => ?_⟩
      have : b ≠ k := fun e => hne (by rw [e])
      simp [setBlock, this]
/-- An iterator over such a map: which places have come. -/
def IterB (W : World) (r b n : Nat) (seen : Array Nat) : Prop := W.heap[r]? = some (.mapIter (some b) n seen n)
theorem IterB.kept {W W' : World} {r b n : Nat} {seen : Array Nat} (h : IterB W r b n seen) (he : W'.heap[r]? = W.heap[r]?) : IterB W' r b n seen := he.trans h
theorem run_range_map {T K E : TypeId} (ht : P.underlying T = some (.map K E)) {W : World} {b : Nat} {enc : α → Value} {l : List (α × Value)} (h : MapB W b enc l) :
    (Instr.range T (.map (some b))).run P W = .ok (.pointer (some ⟨W.heap.size, 0, none⟩)) (W.alloc (.mapIter (some b) l.length #[] l.length)) := by
  have hb : W.heap[b]? = some (.map (entriesOf enc l) l.length) := h
  simp [Instr.range, run_underlying ht, getObj, Sem.run, hb, newObj]
theorem mem_entries {enc : α → Value} {l : List (α × Value)} {e : MapEntry} (h : e ∈ (entriesOf enc l).toList) : ∃ i, ∃ hi : i < l.length, e = { key := enc l[i].1, val := l[i].2, born := i } := by
  unfold entriesOf at h
  simp only [List.mem_map] at h
  obtain ⟨⟨⟨k, v⟩, i⟩, h1, rfl⟩ := h
  have h2 := List.mem_zipIdx' h1
  exact ⟨i, h2.1, by simp [entF, ← h2.2]⟩
theorem entries_at {enc : α → Value} {l : List (α × Value)} {i : Nat} (hi : i < l.length) : ({ key := enc l[i].1, val := l[i].2, born := i } : MapEntry) ∈ (entriesOf enc l).toList := by
  unfold entriesOf
  simp only [List.mem_map]
  exact ⟨(l[i], i), by simp [List.mem_zipIdx_iff_getElem?, hi], rfl⟩
def leftW (W : World) (r b : Nat) : Nat := match W.heap[r]?, W.heap[b]? with | some (.mapIter _ _ seen _), some (.map es _) => (leftOf es seen).size | _, _ => 0
theorem leftW_eq {W : World} {r b : Nat} {enc : α → Value} {l : List (α × Value)} {seen : Array Nat} (hi : IterB W r b l.length seen) (h : MapB W b enc l) : leftW W r b = (leftOf (entriesOf enc l) seen).size := by
  unfold leftW
  rw [show W.heap[r]? = _ from hi, show W.heap[b]? = _ from h]
/-- The next entry, whichever the tape says. -/
theorem run_next_map_ {W : World} {r b : Nat} {enc : α → Value} {l : List (α × Value)} {seen : Array Nat} (hi : IterB W r b l.length seen) (h : MapB W b enc l) :
    ((∀ i, i < l.length → seen.contains i = true) ∧ ∀ ty, (Instr.next (.pointer (some ⟨r, 0, none⟩)) false ty).run P W = .ok (.tuple #[.bool false]) W) ∨
    ∃ i, ∃ hl : i < l.length, seen.contains i = false ∧ ∃ W', (∀ ty, (Instr.next (.pointer (some ⟨r, 0, none⟩)) false ty).run P W = .ok (.tuple #[.bool true, enc l[i].1, l[i].2]) W') ∧
      IterB W' r b l.length (seen.push i) ∧ MapB W' b enc l ∧ W.grownBy W' (some r) ∧ W'.heap.size = W.heap.size ∧ leftW W' r b < leftW W r b := by
  have hold : ∀ x ∈ (entriesOf enc l).toList, x.born < l.length := fun x hx => by
    obtain ⟨i, hi, rfl⟩ := mem_entries hx
    exact hi
  have hrb : r ≠ b := fun e => by
    have h1 : W.heap[r]? = _ := hi
    have h2 : W.heap[b]? = _ := h
    rw [e, h2] at h1
    cases h1
  have hbl := h.lt
  have hrl : r < W.heap.size := (Array.getElem?_eq_some_iff.1 hi).1
  rcases run_next_at (P := P) W 0 r b l.length l.length seen (entriesOf enc l) l.length hi h hold (Nat.le_refl _) with ⟨h0, hrun⟩ | ⟨e, he, w1, hw1, hrun⟩
  · refine .inl ⟨fun i hi' => ?_, fun _ => hrun⟩
    cases hc : seen.contains i with
    | true => rfl
    | false =>
      exfalso
      have hmem : ({ key := enc l[i].1, val := l[i].2, born := i } : MapEntry) ∈ (leftOf (entriesOf enc l) seen).toList := by
        unfold leftOf
        rw [Array.mem_toList_iff, Array.mem_filter]
        exact ⟨Array.mem_toList_iff.1 (entries_at hi'), by rw [hc]; rfl⟩
      have := List.length_pos_of_mem hmem
      rw [Array.length_toList] at this
      omega
  · obtain ⟨h1, h2⟩ := mem_left he
    obtain ⟨i, hil, rfl⟩ := mem_entries h1
    have hs1 : w1.heap = W.heap := by rcases hw1 with rfl | rfl <;> rfl
    have hI : IterB (setBlock w1 r (.mapIter (some b) l.length (seen.push i) l.length)) r b l.length (seen.push i) := by
      unfold IterB setBlock
      simp [hs1, hrl]
    have hM : MapB (setBlock w1 r (.mapIter (some b) l.length (seen.push i) l.length)) b enc l := by
      refine h.kept ?_
      unfold setBlock
      simp [hs1, hrb]
    refine .inr ⟨i, hil, h2, _, fun _ => hrun, hI, hM, ?_, by simp [setBlock, hs1], ?_⟩
    · refine ⟨?_, ?_, ?_, by simp [setBlock, hs1], fun k hk hne => ?_⟩
      · rcases hw1 with rfl | rfl <;> rfl
      · rcases hw1 with rfl | rfl <;> rfl
      · rcases hw1 with rfl | rfl <;> rfl
      · have : r ≠ k := fun e => hne (by rw [e])
        simp [setBlock, hs1, this]
    · rw [leftW_eq hI hM, leftW_eq hi h]
      exact left_shrinks (entriesOf enc l) seen _ he
theorem run_entry_map_ {W : World} {r b : Nat} {enc : α → Value} {l : List (α × Value)} {seen : Array Nat} {i : Nat} (hi : IterB W r b l.length (seen.push i)) (h : MapB W b enc l) (hl : i < l.length) :
    (Instr.entry (.pointer (some ⟨r, 0, none⟩))).run P W = .ok (.tuple #[enc l[i].1, l[i].2]) W := by
  refine run_entry_at W r b l.length seen (entriesOf enc l) l.length { key := enc l[i].1, val := l[i].2, born := i } hi h (entries_at hl) ?_
  have : (entriesOf enc l).toList.map (·.born) = List.range l.length := by
    unfold entriesOf
    simp only [List.map_map]
    rw [show (MapEntry.born ∘ entF enc) = Prod.snd from rfl, List.zipIdx_map_snd]
    exact List.range_eq_range'.symm
  rw [this]
  exact List.nodup_range
end Go.Proofs.YtmegmokjjlelgaaGreat
namespace Go.Proofs.YtmegmokjjlelgaaGreat
open Go.RowKit Go.Lib
def encE (e : Ed) : Value := .agg #[.int .i64 e.a.x, .int .i64 e.a.y, .int .i64 e.b.x, .int .i64 e.b.y]
theorem check_int (d : Nat) (em : Bool) (z : Int) (w : World) : Sem.run Tryz.prog (Instr.checkKey em (d + 1) 3 (.int .i64 z)) w = .ok () w := by
  unfold Instr.checkKey
  simp [run_underlying Tryz.underlying3]
theorem check_pt (d : Nat) (em : Bool) (a b : Int) (w : World) : Sem.run Tryz.prog (Instr.checkKey em (d + 2) 44 (.agg #[.int .i64 a, .int .i64 b])) w = .ok () w := by
  have a3 := Tryz.isAgg3
  unfold Instr.checkKey
  simp [run_underlying Tryz.underlying44, part, a3, check_int]
theorem check_ed (d : Nat) (em : Bool) (e : Ed) (w : World) : Sem.run Tryz.prog (Instr.checkKey em (d + 3) 92 (encE e)) w = .ok () w := by
  have a4 := Tryz.isAgg44
  have z4 := Tryz.sizeOf44
  unfold Instr.checkKey encE
  simp [run_underlying Tryz.underlying92, part, a4, z4, check_pt]
theorem eq_ed (d : Nat) (e f : Ed) (w : World) : Sem.run Tryz.prog (Op.equalIn (d + 3) 92 (encE e) (encE f)) w = .ok (decide (e = f)) w := by
  have hS : Tryz.prog.underlying 92 = some (.struct (Tryz.prog.fieldsOf 92)) := by kernel_rfl
  have hp : Tryz.prog.stoodInHeld 92 = false := by kernel_rfl
  have a4 := Tryz.isAgg44
  have z4 := Tryz.sizeOf44
  obtain ⟨⟨x1, x2⟩, ⟨x3, x4⟩⟩ := e
  obtain ⟨⟨y1, y2⟩, ⟨y3, y4⟩⟩ := f
  unfold encE
  rw [show d + 3 = (d + 2) + 1 from rfl, run_equalIn_agg w (d + 2) 92 _ _ hS hp]
  simp only [Program.fieldsOf, Tryz.underlying92]
  go_simp
  by_cases h1 : x1 = y1 <;> by_cases h2 : x2 = y2 <;> by_cases h3 : x3 = y3 <;> by_cases h4 : x4 = y4 <;> simp [h1, h2, h3, h4]
theorem same_ed (n : Nat) (e : Ed) : Instr.sameBits (n + 1) (encE e) (encE e) = true := by
  unfold encE
  simp [Instr.sameBits]
theorem edKey : KeyFits Tryz.prog 92 encE where
  wide := by kernel_rfl
  eq e f w := eq_ed 9997 e f w
  check em e w := check_ed 9997 em e w
  same e := same_ed 9999 e
theorem eqGuard_ed (op : BinOp) (a b : Operand) (e f : Ed) (w : World) : Sem.run Tryz.prog (eqGuard op 92 a b (encE e) (encE f)) w = .ok () w := run_eqGuard_agg w op 92 a b _ _ (by kernel_rfl)
theorem eqEd_runs (op : BinOp) (a b : Operand) (e f : Ed) (w : World) : Sem.run Tryz.prog (binOp .eql 92 (encE e) (encE f)) w = .ok (.bool (decide (e = f))) w ∧ Sem.run Tryz.prog (eqGuard op 92 a b (encE e) (encE f)) w = .ok () w := by
  refine ⟨?_, eqGuard_ed op a b e f w⟩
  have h := eq_ed 9997 e f w
  unfold encE at *
  rw [run_eql_struct, show (10000 : Nat) = 9997 + 3 from rfl, h]
  rfl
end Go.Proofs.YtmegmokjjlelgaaGreat
namespace Go.Proofs.YtmegmokjjlelgaaGreat
open Go.RowKit
def Marks (B : Nat) (Ds : List Nat) (w : World) : Prop := Ds.Nodup ∧ ∀ D ∈ Ds, B ≤ D ∧ w.heap[D]? = some (.deferred (some []))
def marksL (Ds : List Nat) : List Deferred := Ds.map fun D => { target := .collected D, args := #[] }
theorem Marks.nil (B : Nat) (w : World) : Marks B [] w := ⟨List.nodup_nil, fun D h => by simp at h⟩
theorem Marks.kept {B : Nat} {Ds : List Nat} {w w' : World} (h : Marks B Ds w) (hk : ∀ D ∈ Ds, w'.heap[D]? = w.heap[D]?) : Marks B Ds w' := ⟨h.1, fun D hD => ⟨(h.2 D hD).1, (hk D hD).trans (h.2 D hD).2⟩⟩
theorem Marks.lt {B : Nat} {Ds : List Nat} {w : World} (h : Marks B Ds w) {D : Nat} (hD : D ∈ Ds) : D < w.heap.size := (Array.getElem?_eq_some_iff.1 (h.2 D hD).2).1
theorem Marks.cons {B : Nat} {Ds : List Nat} {w : World} (h : Marks B Ds w) {D : Nat} (hB : B ≤ D) (hn : D ∉ Ds) (hd : w.heap[D]? = some (.deferred (some []))) : Marks B (D :: Ds) w :=
  ⟨List.nodup_cons.2 ⟨hn, h.1⟩, fun E hE => by
    rcases List.mem_cons.1 hE with rfl | hE
    · exact ⟨hB, hd⟩
    · exact h.2 E hE⟩
theorem Marks.on {B : Nat} {Ds : List Nat} {w w' : World} (h : Marks B Ds w) (hb : Below w.heap.size w w') : Marks B Ds w' := h.kept fun _ hD => hb.block _ (h.lt hD)
theorem leaves_marks {F : Fence} {n : Nat} {P : Program} {fn : Func} {tmps : Array Value} {R : Ending → World → Prop} {B : Nat} : ∀ (Ds : List Nat) (w : World), Marks B Ds w → B ≤ w.heap.size →
    (∀ w', Below B w w' → (∀ i, i ∉ Ds → w'.heap[i]? = w.heap[i]?) → LeavesInM F n P fn tmps R [] .returning w') → LeavesInM F n P fn tmps R (marksL Ds) .returning w
  | [], w, _, _, h => h w (Below.refl _ _) fun _ _ => rfl
  | D :: Ds, w, hm, hB, h => by
    obtain ⟨hBD, hd⟩ := hm.2 D (by simp)
    obtain ⟨hn, hnd⟩ := List.nodup_cons.1 hm.1
    have hg := grownBy_putObj' w D (.deferred none)
    have hb : Below B w (w.putObj D (.deferred none)) := (Below.refl B w).grown hg hB (fun k e => by cases e; exact hBD)
    have hk : ∀ i, i ≠ D → (w.putObj D (.deferred none)).heap[i]? = w.heap[i]? := fun i hi => World.putObj_heap_other hi
    refine ⟨by simp, .inl ⟨D, _, rfl, run_takeDeferred hd, ?_⟩⟩
    refine leaves_marks Ds _ ⟨hnd, fun E hE => ⟨(hm.2 E (by simp [hE])).1, (hk E (fun e => hn (by rw [← e]; exact hE))).trans (hm.2 E (by simp [hE])).2⟩⟩ (Nat.le_trans hB hg.size) fun w' hb' hk' => ?_
    exact h w' (hb.trans hb') fun i hi => (hk' i (fun h' => hi (by simp [h']))).trans (hk i (fun e => hi (by simp [e])))
theorem marks_box {B : Nat} {Ds : List Nat} {w : World} (h : Marks B Ds w) {g : Nat} {t : TypeId} {v : Value} (b : Boxed w g t v) {D : Nat} (hD : D ∈ Ds) : D ≠ g := fun e => by
  have h1 := (h.2 D hD).2
  rw [e, show w.heap[g]? = _ from b] at h1
  cases h1
theorem mapB_from {α β : Type} {B b : Nat} (hb : b < B) (enc : α → Value) (f : β → List (α × Value)) : OwnFrom B (fun s W => MapB W b enc (f s)) := fun s X Y row hs hg hr =>
  MapB.kept hs (hg.block b (MapB.lt hs) (fun e => by have := (hr b e.symm).1; omega))
theorem marks_from {β : Type} {B B0 : Nat} {Ds : List Nat} (h : ∀ D ∈ Ds, D < B) : OwnFrom B (fun (_ : β) W => Marks B0 Ds W) := fun _ X Y row hs hg hr =>
  Marks.kept hs fun D hD => hg.block D (Marks.lt hs hD) (fun e => by have := (hr D e.symm).1; have := h D hD; omega)
end Go.Proofs.YtmegmokjjlelgaaGreat
