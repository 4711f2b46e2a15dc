/- plan.Each: words, and the plain law of it. -/
import Derived.Test.YtpkeacnacjnlcaaGreatK23
namespace Go.Proofs.YtpkeacnacjnlcaaGreat
open Go.RowKit Go.Lib
def lst (xs:List Pt):List Pt:=rot (leastN xs xs.length) xs
def ringOf (p:Plan) (xs:List Pt):Prop:=xs=p.outer∨∃x∈p.parcels,xs=x.ring
structure EachF (w W:World) (Bq:Nat) (p:Plan) (A:Option Addr) (n c:Nat) (A':Option Addr) (n' c' k:Nat) (Ao:Option Addr) (no co:Nat) (Ap:Option Addr) (cp:Nat) (hs:List Hd):Prop where
 bel:Below w.heap.size w W
 pbox:PlK W w.heap.size A n c A' n' c'
 rbox:PlK W (w.heap.size+1) none 0 0 none 0 0
 qbox:PlK W Bq Ao no co Ap k cp
 hB:w.heap.size+1<Bq
 out:W.ownsRow w.heap.size 23 2 (.slice Ao no co) no (ptsV p.outer)
 row:W.ownsRow w.heap.size 27 3 (.slice Ap k cp) k (rowPV (p.parcels.take k) hs)
 len:hs.length=k
 rings:∀j,j<k→W.ownsRow w.heap.size 23 2 (.slice (hdAt hs j).1 (hdAt hs j).2.1 (hdAt hs j).2.2) (hdAt hs j).2.1 (ptsV (pcAt p.parcels j).ring)
theorem EachF.on {w W W':World} {Bq:Nat} {p:Plan} {A A' Ao Ap:Option Addr} {n c n' c' k no co cp:Nat} {hs:List Hd} (h:EachF w W Bq p A n c A' n' c' k Ao no co Ap cp hs) (hb:Below W.heap.size W W'):EachF w W' Bq p A n c A' n' c' k Ao no co Ap cp hs:=
 ⟨below_on h.bel (Nat.le_refl _) hb,h.pbox.on hb,h.rbox.on hb,h.qbox.on hb,h.hB,own_below h.out hb,own_below h.row hb,h.len,fun j hj=>own_below (h.rings j hj) hb⟩
theorem EachF.next {w W W':World} {Bq:Nat} {p:Plan} {A A' Ao Ap A3 Ap':Option Addr} {n c n' c' k no co cp nk c3 cp':Nat} {hs:List Hd} (h:EachF w W Bq p A n c A' n' c' k Ao no co Ap cp hs) (hk:k<p.parcels.length)
 (hnew:W.ownsRow w.heap.size 23 2 (.slice A3 nk c3) nk (ptsV (pcAt p.parcels k).ring))
 (hown:W'.ownsRow w.heap.size 27 3 (.slice Ap' (k+1) cp') (k+1) (rowPV (p.parcels.take k) hs++pcV (pcAt p.parcels k) (A3,nk,c3)))
 (hg:W.grownBy W' (Value.slice Ap k cp).ownBlock):
 (PlK W' Bq Ao no co Ap k cp)∧EachF w (W'.setCell ⟨Bq,1,none⟩ (.slice Ap' (k+1) cp')) Bq p A n c A' n' c' (k+1) Ao no co Ap' cp' (hs++[(A3,nk,c3)]):=by
 have hq:PlK W' Bq Ao no co Ap k cp:=(hg.block _ (Blk.lt h.qbox) (fun e=>own_blk_ne h.row h.qbox (by decide) e.symm)).trans h.qbox
 have hp:PlK W' w.heap.size A n c A' n' c':=(hg.block _ (Blk.lt h.pbox) (fun e=>own_blk_ne h.row h.pbox (by decide) e.symm)).trans h.pbox
 have hr:PlK W' (w.heap.size+1) none 0 0 none 0 0:=(hg.block _ (Blk.lt h.rbox) (fun e=>own_blk_ne h.row h.rbox (by decide) e.symm)).trans h.rbox
 have hkeep:∀ {v:Value} {m:Nat} {xs:List Value},W.ownsRow w.heap.size 23 2 v m xs→(W'.setCell ⟨Bq,1,none⟩ (.slice Ap' (k+1) cp')).ownsRow w.heap.size 23 2 v m xs:=fun {v m xs} ho=>by
  refine own_heap ho fun g hg'=>?_
  have h1:g≠Bq:=fun e=>own_blk_ne ho h.qbox (by decide) (by rw[hg',e])
  rw[Below.heap_setCell _ _ _ g h1]
  exact hg.block g (ho.lt g hg').2 (fun e=>own_own_ne ho h.row (by decide) hg' e.symm)
 have hB:=h.hB
 have hbel:Below w.heap.size w W':=h.bel.grown hg h.bel.size (fun g e=>(h.row.lt g e).1)
 refine⟨hq,⟨hbel.setCell (p:=⟨Bq,1,none⟩) (by simp only;omega) _,Blk.far hp (by simp only;omega) _,Blk.far hr (by simp only;omega) _,?_,hB,hkeep h.out,?_,by rw[List.length_append,h.len];rfl,fun j hj=>?_⟩⟩
 ·have:=Blk.set_ hq 1 (.slice Ap' (k+1) cp')
  simp only[List.setIfInBounds_toArray,List.set_cons_zero,List.set_cons_succ]at this
  exact this
 ·rw[List.take_succ_eq_append_getElem hk,rowPV_snoc _ _ (by rw[h.len,List.length_take];omega),←pcAt_lt hk]
  refine own_heap hown fun g hg'=>Below.heap_setCell _ _ _ g (fun e=>own_blk_ne hown hq (by decide) (by rw[hg',e]))
 ·by_cases hjk:j<k
  ·rw[hdAt_snoc_lt (by rw[h.len];exact hjk)]
   exact hkeep (h.rings j hjk)
  ·obtain rfl:j=hs.length:=by rw[h.len];omega
   rw[hdAt_snoc_eq,h.len]
   exact hkeep hnew
theorem EachF.own {w W:World} {Bq:Nat} {p:Plan} {A A' Ao Ap:Option Addr} {n c n' c' no co cp:Nat} {hs:List Hd} (h:EachF w W Bq p A n c A' n' c' n' Ao no co Ap cp hs) (hl:p.parcels.length=n') (hf:p.fits):PlanOwn w.heap.size W Ao no co Ap n' cp p hs:=by
 have hrow:=h.row
 rw[List.take_of_length_le (by omega)]at hrow
 exact⟨h.out,hrow,h.len,hl,h.rings,hf⟩
end Go.Proofs.YtpkeacnacjnlcaaGreat
