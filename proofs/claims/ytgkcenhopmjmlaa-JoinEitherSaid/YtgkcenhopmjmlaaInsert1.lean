/- plan.Insert's closure: a corner more in each stretch that has it within: the walk. -/
import Derived.Test.YtgkcenhopmjmlaaPlanCheck
namespace Go.Proofs.Ytgkcenhopmjmlaa
open Go.RowKit Go.Shelf
attribute [local go_sem] Go.Oper.semAt_some
theorem neqPt_runs (p q : Pt) (w : World) : Sem.run Try.prog (binOp .neq 39 (.agg #[.int .i64 p.x, .int .i64 p.y]) (.agg #[.int .i64 q.x, .int .i64 q.y])) w = .ok (.bool (!decide (p = q))) w := by
  have u3 := Try.underlying3
  have a3 := Try.isAgg3
  have z3 := Try.sizeOf3
  have hS : Try.prog.underlying 39 = some (.struct (Try.prog.fieldsOf 39)) := by kernel_rfl
  have hp : Try.prog.stoodInHeld 39 = false := by kernel_rfl
  obtain ⟨x1, x2⟩ := p
  obtain ⟨y1, y2⟩ := q
  rw [run_neq_struct, show (10000 : Nat) = 9999 + 1 from rfl, run_equalIn_agg w 9999 39 _ _ hS hp]
  simp only [Program.fieldsOf, Try.underlying39]
  go_simp
  by_cases h1 : x1 = y1 <;> by_cases h2 : x2 = y2 <;> simp [h1, h2]
def insK (xs : List Pt) (q : Pt) (k : Nat) : List Pt := ptAt xs k :: (if (onB (ptAt xs k) (ptAt xs ((k + 1) % xs.length)) q && (!decide (q = ptAt xs k) && !decide (q = ptAt xs ((k + 1) % xs.length)))) = true then [q] else [])
def insL (xs : List Pt) (q : Pt) (l : List Nat) : List Pt := l.flatMap (insK xs q)
def insG (q : Pt) (xs : List Pt) : List Pt := insL xs q (List.range xs.length)
theorem insK_len (xs : List Pt) (q : Pt) (k : Nat) : 1 ≤ (insK xs q k).length ∧ (insK xs q k).length ≤ 2 := by unfold insK; split <;> simp
theorem insL_len (xs : List Pt) (q : Pt) (l : List Nat) : (insL xs q l).length ≤ 2 * l.length := by
  induction l with
  | nil => simp [insL]
  | cons a l ih =>
    have h1 := (insK_len xs q a).2
    have h2 : insL xs q (a :: l) = insK xs q a ++ insL xs q l := by simp [insL]
    rw [h2, List.length_append, List.length_cons]
    omega
theorem insL_snoc (xs : List Pt) (q : Pt) (l : List Nat) (k : Nat) : insL xs q (l ++ [k]) = insL xs q l ++ insK xs q k := by simp [insL]
theorem insG_len (q : Pt) (xs : List Pt) : (insG q xs).length ≤ 2 * xs.length := by have := insL_len xs q (List.range xs.length); rw [List.length_range] at this; exact this
set_option maxHeartbeats 800000 in
theorem ins_append {w W V w3 : World} {S bs k m Bx : Nat} {v v' rv : Value} {xs ys : List Value} {tmp : Obj} {C : Array Value}
    (h1 : KeepsOthers W V) (h2 : KeepE S bs W V) (bv : Boxed V S 23 v) (ho : V.ownsRow S 39 2 v k xs) (dr : Boxed V bs 23 rv)
    (dX : Blk V Bx 55 C) (hX : Bx ≠ S) (dB : Below S w V) (hbs : bs ≠ S) (hown' : w3.ownsRow S 39 2 v' m ys) (hgrow : (V.alloc tmp).grownBy w3 v.ownBlock) :
    KeepsOthers W (w3.setCell ⟨S, 0, none⟩ v') ∧ KeepE S bs W (w3.setCell ⟨S, 0, none⟩ v') ∧ (Boxed (w3.setCell ⟨S, 0, none⟩ v') S 23 v' ∧ (w3.setCell ⟨S, 0, none⟩ v').ownsRow S 39 2 v' m ys) ∧
    Boxed (w3.setCell ⟨S, 0, none⟩ v') bs 23 rv ∧ Blk (w3.setCell ⟨S, 0, none⟩ v') Bx 55 C ∧ Below S w (w3.setCell ⟨S, 0, none⟩ v') ∧ w3.cell? ⟨S, 0, none⟩ = some v ∧ w3.frozen? ⟨S, 0, none⟩ = false := by
  have hlt := bv.lt
  obtain ⟨q1, q2, q3, q4, q5⟩ := Boxed.appended bv (by decide) ho (by omega) (Nat.le_refl _) hown' hgrow
  have r1 : Boxed (w3.setCell ⟨S, 0, none⟩ v') bs 23 rv := ((dr.alloc tmp).kept hgrow (dr.not_row (by decide) ho)).other (B' := S) hbs v'
  refine ⟨h1.trans q4, ⟨Nat.le_trans h2.1 q4.size, fun i hi => ?_⟩, ⟨q2, q3⟩, r1, ?_, dB.trans q5, q1.cell, q1.frozen⟩
  · rw [← h2.2 i hi]
    rcases hi with hi | rfl
    · exact q5.block i hi
    · exact (show _ = _ from r1).trans (show _ = _ from dr).symm
  · exact Blk.far (Blk.grown (Blk.alloc dX tmp) hgrow (blk_row dX (by decide) ho)) hX _
end Go.Proofs.Ytgkcenhopmjmlaa
