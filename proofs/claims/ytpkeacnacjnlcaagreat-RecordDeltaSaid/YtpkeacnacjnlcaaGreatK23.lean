/- plan.Check: the walk. -/
import Derived.Test.YtpkeacnacjnlcaaGreatK15
import Derived.Test.YtpkeacnacjnlcaaGreatK20
namespace Go.Proofs.YtpkeacnacjnlcaaGreat
open Go.RowKit
set_option maxHeartbeats 1600000 in
theorem checkPl_any (p:Plan) (A A':Option Addr) (n c n' c':Nat) (w:World) (h:PlanAt w w.heap.size A n c A' n' c' p):
 Calls Tryz.prog 47 #[planV A n c A' n' c'] w fun e w'=>e= .returned (.int .i64 (planE p))∧Below w.heap.size w w':=by
 obtain⟨hl1,hl2,hl3,hl4⟩:=h.lens
 obtain⟨b5,h5⟩:∃b5:Bool,b5=true↔PairsE (allE p.parcels):=by
  by_cases hq:PairsE (allE p.parcels)
  ·exact⟨true,by simp[hq]⟩
  ·exact⟨false,by simp[hq]⟩
 have hE:=planE_eq p b5 h5
 have k1:∀V,Below w.heap.size w V→_:=fun V hV=>listed_any p A A' n c n' c' V (h.on hV)
 have k2:∀V,Below w.heap.size w V→_:=fun V hV=>normed_any p.outer A n c V (h.on hV).outer h.oc.1 hl3 h.fits.1.2
 have k3:∀V,Below w.heap.size w V→_:=fun V hV=>containsC1_any p.parcels A' n' c' V (h.on hV).parcs hl4 h.fits.2.2
 have k4:∀V,Below w.heap.size w V→_:=fun V hV=>matched_any p A A' n c n' c' V (h.on hV)
 have k5:listedB p=true→(p.parcels.any fun x=>!normB x.ring)=false→matchB p=true→∀V,Below w.heap.size w V→_:=fun g1 g2 g3 V hV=>clean_any p A A' n c n' c' V (h.on hV) (pre_of g1 (any_norm.1 g2) (matchB_iff.1 g3)) b5 h5
 have k6:listedB p=true→normB p.outer=true→(p.parcels.any fun x=>!normB x.ring)=false→∀V,Below w.heap.size w V→_:=fun g1 g2 g3 V hV=>whole2_any p A A' n c n' c' V (h.on hV) (by rw[←hl2];exact(listed_bd g1).2.1) (areas_of (normB_iff.1 g2) (any_norm.1 g3)).1 (areas_of (normB_iff.1 g2) (any_norm.1 g3)).2
 have H:=Lib.hid (And.intro ((Below.refl w.heap.size w).alloc (Nat.le_refl _) (.cells #[.slice A n c,.slice A' n' c'] 30)) (PlK.new w A n c A' n' c'))
 clear h hl1 hl2 hl3 hl4 h5
 generalize planE p=pe at *
 generalize listedB p=b1 at *
 generalize normB p.outer=b2 at *
 generalize (p.parcels.any fun x=>!normB x.ring)=b3 at *
 generalize matchB p=b4 at *
 generalize decide (areasL p.parcels=areaZ p.outer)=b6 at *
 have HE:=Lib.hid hE
 have K1:=Lib.hid k1
 have K2:=Lib.hid k2
 have K3:=Lib.hid k3
 have K4:=Lib.hid k4
 have K5:=Lib.hid k5
 have K6:=Lib.hid k6
 clear hE k1 k2 k3 k4 k5 k6
 obtain⟨q1,q2,-⟩:=H.out.2.facts
 go_enter Tryz.func47,Tryz.ntmps47
 go_wp2_with fail
 refine(K1.out _ H.out.1).mono ?_
 rintro e w1 ⟨rfl,hb⟩
 have H1:=Lib.hid (And.intro (below_on H.out.1 (Nat.le_refl _) hb) (H.out.2.on hb))
 clear hb H q1 q2
 obtain⟨q1,q2,-⟩:=H1.out.2.facts
 rcases b1 with _|_
 ·go_wp2_with fail
  go_ret
  exact⟨by rw[HE.out];rfl,H1.out.1⟩
 go_wp2_with fail
 refine(K2.out _ H1.out.1).mono ?_
 rintro e w2 ⟨rfl,hb⟩
 have H2:=Lib.hid (And.intro (below_on H1.out.1 (Nat.le_refl _) hb) (H1.out.2.on hb))
 clear hb H1 q1 q2
 obtain⟨q1,q2,-⟩:=H2.out.2.facts
 rcases b2 with _|_
 ·go_wp2_with fail
  go_ret
  exact⟨by rw[HE.out];rfl,H2.out.1⟩
 go_wp2_with fail
 refine(K3.out _ H2.out.1).mono ?_
 rintro e w3 ⟨rfl,hb⟩
 have H3:=Lib.hid (And.intro (below_on H2.out.1 (Nat.le_refl _) hb) (H2.out.2.on hb))
 clear hb H2 q1 q2
 obtain⟨q1,q2,-⟩:=H3.out.2.facts
 rcases b3 with _|_
 rotate_left
 ·go_wp2_with fail
  go_ret
  exact⟨by rw[HE.out];rfl,H3.out.1⟩
 go_wp2_with fail
 refine(K4.out _ H3.out.1).mono ?_
 rintro e w4 ⟨rfl,hb⟩
 have H4:=Lib.hid (And.intro (below_on H3.out.1 (Nat.le_refl _) hb) (H3.out.2.on hb))
 clear hb H3 q1 q2
 obtain⟨q1,q2,-⟩:=H4.out.2.facts
 rcases b4 with _|_
 ·go_wp2_with fail
  go_ret
  exact⟨by rw[HE.out];rfl,H4.out.1⟩
 go_wp2_with fail
 refine(K5.out (by simp) (by simp) (by simp) _ H4.out.1).mono ?_
 rintro e w5 ⟨rfl,hb⟩
 have H5:=Lib.hid (And.intro (below_on H4.out.1 (Nat.le_refl _) hb) (H4.out.2.on hb))
 clear hb H4 q1 q2
 obtain⟨q1,q2,-⟩:=H5.out.2.facts
 rcases b5 with _|_
 ·go_wp2_with fail
  go_ret
  exact⟨by rw[HE.out];rfl,H5.out.1⟩
 go_wp2_with fail
 refine(K6.out (by simp) (by simp) (by simp) _ H5.out.1).mono ?_
 rintro e w6 ⟨rfl,hb⟩
 have H6:=Lib.hid (And.intro (below_on H5.out.1 (Nat.le_refl _) hb) (H5.out.2.on hb))
 clear hb H5 q1 q2
 obtain⟨q1,q2,-⟩:=H6.out.2.facts
 rcases b6 with _|_
 ·go_wp2_with fail
  go_ret
  exact⟨by rw[HE.out];rfl,H6.out.1⟩
 ·go_wp2_with fail
  go_ret
  exact⟨by rw[HE.out];rfl,H6.out.1⟩
end Go.Proofs.YtpkeacnacjnlcaaGreat
namespace Go.Proofs.YtpkeacnacjnlcaaGreat
open Go.RowKit Go.Lib
abbrev Hd:=Option Addr×Nat×Nat
def hdAt (hs:List Hd) (k:Nat):Hd:=hs[k]?.getD (none,0,0)
def pcV (x:Parc) (h:Hd):List Value:=[.int .i64 x.id,.slice h.1 h.2.1 h.2.2,.string x.owner]
def rowPV:List Parc→List Hd→List Value
 |x::ps,h::hs=>pcV x h++rowPV ps hs
 |_,_=>[]
theorem rowPV_snoc {ps:List Parc} {hs:List Hd} (x:Parc) (h:Hd) (hl:hs.length=ps.length):rowPV (ps++[x]) (hs++[h])=rowPV ps hs++pcV x h:=by
 induction ps generalizing hs with
 |nil=>
  obtain rfl:=List.eq_nil_of_length_eq_zero hl
  simp[rowPV]
 |cons y ps ih=>
  rcases hs with _|⟨g,hs⟩
  ·simp at hl
  ·show pcV y g++rowPV (ps++[x]) (hs++[h])=(pcV y g++rowPV ps hs)++pcV x h
   rw[ih (by simpa using hl),List.append_assoc]
theorem rowPV_at {ps:List Parc} {hs:List Hd} (hl:hs.length=ps.length) {k:Nat} (hk:k<ps.length):
 (rowPV ps hs)[k*3]?=some (.int .i64 (pcAt ps k).id)∧(rowPV ps hs)[k*3+1]?=some (.slice (hdAt hs k).1 (hdAt hs k).2.1 (hdAt hs k).2.2)∧(rowPV ps hs)[k*3+2]?=some (.string (pcAt ps k).owner):=by
 induction ps generalizing hs k with
 |nil=>simp at hk
 |cons y ps ih=>
  rcases hs with _|⟨g,hs⟩
  ·simp at hl
  ·rcases k with _|k
   ·exact⟨rfl,rfl,rfl⟩
   ·have:=ih (hs:=hs) (by simpa using hl) (k:=k) (by simpa using hk)
    rw[show (k+1)*3=k*3+2+1 by omega]
    exact this
theorem own_own_ne {W:World} {b1 b2 n1 n2 s1 s2:Nat} {e1 e2:TypeId} {v1 v2:Value} {x1 x2:List Value} (h1:W.ownsRow b1 e1 s1 v1 n1 x1) (h2:W.ownsRow b2 e2 s2 v2 n2 x2) (hne:e1≠e2) {g:Nat} (hg:v1.ownBlock=some g):v2.ownBlock≠some g:=by
 rcases h1.2 with ⟨rfl,-⟩|⟨g1,c1,cur,rfl,-,hh,-⟩
 ·simp[Value.ownBlock]at hg
 ·have:g1=g:=by simpa[Value.ownBlock]using hg
  subst this
  exact own_blk_ne h2 (show Blk W g1 e1 cur from hh) (fun e=>hne e.symm)
structure OwnF (w W:World) (Bq:Nat) (p:Plan) (A:Option Addr) (n c:Nat) (A':Option Addr) (n' c' k:Nat) (Ao:Option Addr) (co:Nat) (Ap:Option Addr) (cp:Nat) (hs:List Hd):Prop where
 bel:Below w.heap.size w W
 pbox:PlK W w.heap.size A n c A' n' c'
 rbox:PlK W (w.heap.size+1) none 0 0 none 0 0
 qbox:PlK W Bq Ao n co Ap k cp
 hB:w.heap.size+1<Bq
 out:W.ownsRow w.heap.size 23 2 (.slice Ao n co) n (ptsV p.outer)
 row:W.ownsRow w.heap.size 27 3 (.slice Ap k cp) k (rowPV (p.parcels.take k) hs)
 len:hs.length=k
 rings:∀j,j<k→W.ownsRow w.heap.size 23 2 (.slice (hdAt hs j).1 (hdAt hs j).2.1 (hdAt hs j).2.2) (hdAt hs j).2.1 (ptsV (pcAt p.parcels j).ring)
theorem OwnF.on {w W W':World} {Bq:Nat} {p:Plan} {A A' Ao Ap:Option Addr} {n c n' c' k co cp:Nat} {hs:List Hd} (h:OwnF w W Bq p A n c A' n' c' k Ao co Ap cp hs) (hb:Below W.heap.size W W'):OwnF w W' Bq p A n c A' n' c' k Ao co Ap cp hs:=
 ⟨below_on h.bel (Nat.le_refl _) hb,h.pbox.on hb,h.rbox.on hb,h.qbox.on hb,h.hB,own_below h.out hb,own_below h.row hb,h.len,fun j hj=>own_below (h.rings j hj) hb⟩
theorem hdAt_snoc_lt {hs:List Hd} {h:Hd} {j:Nat} (hj:j<hs.length):hdAt (hs++[h]) j=hdAt hs j:=by unfold hdAt;rw[List.getElem?_append_left hj]
theorem hdAt_snoc_eq {hs:List Hd} {h:Hd}:hdAt (hs++[h]) hs.length=h:=by unfold hdAt;rw[List.getElem?_append_right (Nat.le_refl _)];simp
theorem OwnF.next {w W W':World} {Bq:Nat} {p:Plan} {A A' Ao Ap A3 Ap':Option Addr} {n c n' c' k co cp nk c3 cp':Nat} {hs:List Hd} (h:OwnF w W Bq p A n c A' n' c' k Ao co Ap cp hs) (hk:k<p.parcels.length)
 (hnew:W.ownsRow w.heap.size 23 2 (.slice A3 nk c3) nk (ptsV (pcAt p.parcels k).ring))
 (hown:W'.ownsRow w.heap.size 27 3 (.slice Ap' (k+1) cp') (k+1) (rowPV (p.parcels.take k) hs++pcV (pcAt p.parcels k) (A3,nk,c3)))
 (hg:W.grownBy W' (Value.slice Ap k cp).ownBlock):
 (PlK W' Bq Ao n co Ap k cp)∧OwnF w (W'.setCell ⟨Bq,1,none⟩ (.slice Ap' (k+1) cp')) Bq p A n c A' n' c' (k+1) Ao co Ap' cp' (hs++[(A3,nk,c3)]):=by
 have hq:PlK W' Bq Ao n co Ap k cp:=(hg.block _ (Blk.lt h.qbox) (fun e=>own_blk_ne h.row h.qbox (by decide) e.symm)).trans h.qbox
 have hp:PlK W' w.heap.size A n c A' n' c':=(hg.block _ (Blk.lt h.pbox) (fun e=>own_blk_ne h.row h.pbox (by decide) e.symm)).trans h.pbox
 have hr:PlK W' (w.heap.size+1) none 0 0 none 0 0:=(hg.block _ (Blk.lt h.rbox) (fun e=>own_blk_ne h.row h.rbox (by decide) e.symm)).trans h.rbox
 have hkeep:∀ {v:Value} {m:Nat} {xs:List Value},W.ownsRow w.heap.size 23 2 v m xs→(W'.setCell ⟨Bq,1,none⟩ (.slice Ap' (k+1) cp')).ownsRow w.heap.size 23 2 v m xs:=fun {v m xs} ho=>by
  refine own_heap ho fun g hg'=>?_
  have h1:g≠Bq:=fun e=>own_blk_ne ho h.qbox (by decide) (by rw[hg',e])
  rw[Below.heap_setCell _ _ _ g h1]
  exact hg.block g (ho.lt g hg').2 (fun e=>own_own_ne ho h.row (by decide) hg' e.symm)
 have hB:=h.hB
 have hbel:Below w.heap.size w W':=h.bel.grown hg h.bel.size (fun g e=>(h.row.lt g e).1)
 refine⟨hq,⟨hbel.setCell (p:=⟨Bq,1,none⟩) (by simp only;omega) _,Blk.far hp (by simp only;omega) _,Blk.far hr (by simp only;omega) _,?_,hB,hkeep h.out,?_,by rw[List.length_append,h.len];rfl,fun j hj=>?_⟩⟩
 ·have:=Blk.set_ hq 1 (.slice Ap' (k+1) cp')
  simp only[List.setIfInBounds_toArray,List.set_cons_zero,List.set_cons_succ]at this
  exact this
 ·rw[List.take_succ_eq_append_getElem hk,rowPV_snoc _ _ (by rw[h.len,List.length_take];omega),←pcAt_lt hk]
  refine own_heap hown fun g hg'=>Below.heap_setCell _ _ _ g (fun e=>own_blk_ne hown hq (by decide) (by rw[hg',e]))
 ·by_cases hjk:j<k
  ·rw[hdAt_snoc_lt (by rw[h.len];exact hjk)]
   exact hkeep (h.rings j hjk)
  ·obtain rfl:j=hs.length:=by rw[h.len];omega
   rw[hdAt_snoc_eq,h.len]
   exact hkeep hnew
theorem info_pc:(Tryz.prog.info? 27).map (fun i=>(i.zero,i.size,i.bytes))=some (some (.agg #[.int .i64 0,.slice none 0 0,.string ByteArray.empty]),3,48):=by kernel_rfl
theorem ownStepA {w wr w3:World} {Bq:Nat} {p:Plan} {A A' Ao Ap A3 Ak:Option Addr} {n c n' c' k co cp nk ck c3:Nat} {hs:List Hd} {x:Parc} (h:OwnF w wr Bq p A n c A' n' c' k Ao co Ap cp hs)
 (hg:((wr.alloc (.cells #[.int .i64 x.id,.slice Ak nk ck,.string x.owner] 27)).alloc (.cells #[] 23)).grownBy w3 (Value.slice (some ⟨wr.heap.size+1,0,none⟩) 0 0).ownBlock) (hown:w3.ownsRow (wr.heap.size+1) 23 2 (.slice A3 nk c3) nk (ptsV x.ring)):
 Blk w3 wr.heap.size 27 #[.int .i64 x.id,.slice Ak nk ck,.string x.owner]∧OwnF w (w3.setCell ⟨wr.heap.size,1,none⟩ (.slice A3 nk c3)) Bq p A n c A' n' c' k Ao co Ap cp hs∧Blk (w3.setCell ⟨wr.heap.size,1,none⟩ (.slice A3 nk c3)) wr.heap.size 27 #[.int .i64 x.id,.slice A3 nk c3,.string x.owner]∧
 (w3.setCell ⟨wr.heap.size,1,none⟩ (.slice A3 nk c3)).ownsRow w.heap.size 23 2 (.slice A3 nk c3) nk (ptsV x.ring):=by
 have hx0:=Blk.alloc (Blk.new wr 27 #[.int .i64 x.id,.slice Ak nk ck,.string x.owner]) (.cells #[] 23)
 have hx3:Blk w3 wr.heap.size 27 #[.int .i64 x.id,.slice Ak nk ck,.string x.owner]:=(hg.block _ (Blk.lt hx0) (fun e=>by simp[Value.ownBlock]at e)).trans hx0
 have hb:Below wr.heap.size wr w3:=(((Below.refl _ _).alloc (Nat.le_refl _) _).alloc (by simp) _).grown hg (by simp;omega) (fun g e=>by simp[Value.ownBlock]at e;omega)
 have hb2:Below wr.heap.size wr (w3.setCell ⟨wr.heap.size,1,none⟩ (.slice A3 nk c3)):=hb.setCell (p:=⟨wr.heap.size,1,none⟩) (Nat.le_refl _) _
 have hx4:=Blk.set_ hx3 1 (.slice A3 nk c3)
 simp only[List.setIfInBounds_toArray,List.set_cons_zero,List.set_cons_succ]at hx4
 refine⟨hx3,h.on hb2,hx4,own_heap (own_mono hown ?_) fun g hg'=>Below.heap_setCell _ _ _ g (fun e=>own_blk_ne hown hx3 (by decide) (by rw[hg',e]))⟩
 have:=h.bel.size
 omega
/-- A plan all of whose rows are own: blocks that hold points or parcels, from B on. -/
structure PlanOwn (B:Nat) (W:World) (A:Option Addr) (n c:Nat) (A':Option Addr) (n' c':Nat) (p:Plan) (hs:List Hd):Prop where
 out:W.ownsRow B 23 2 (.slice A n c) n (ptsV p.outer)
 row:W.ownsRow B 27 3 (.slice A' n' c') n' (rowPV p.parcels hs)
 len:hs.length=n'
 lenp:p.parcels.length=n'
 rings:∀j,j<n'→W.ownsRow B 23 2 (.slice (hdAt hs j).1 (hdAt hs j).2.1 (hdAt hs j).2.2) (hdAt hs j).2.1 (ptsV (pcAt p.parcels j).ring)
 fits:p.fits
theorem PlanOwn.below {B n c n' c':Nat} {W W':World} {A A':Option Addr} {p:Plan} {hs:List Hd} (h:PlanOwn B W A n c A' n' c' p hs) (hb:Below W.heap.size W W'):PlanOwn B W' A n c A' n' c' p hs:=
 ⟨own_below h.out hb,own_below h.row hb,h.len,h.lenp,fun j hj=>own_below (h.rings j hj) hb,h.fits⟩
theorem PlanOwn.mono {B B' n c n' c':Nat} {W:World} {A A':Option Addr} {p:Plan} {hs:List Hd} (h:PlanOwn B W A n c A' n' c' p hs) (hB:B'≤B):PlanOwn B' W A n c A' n' c' p hs:=
 ⟨own_mono h.out hB,own_mono h.row hB,h.len,h.lenp,fun j hj=>own_mono (h.rings j hj) hB,h.fits⟩
theorem PlanOwn.store {B n c n' c' g:Nat} {W:World} {A A':Option Addr} {p:Plan} {hs:List Hd} {t:TypeId} {cs:Array Value} (h:PlanOwn B W A n c A' n' c' p hs) (hg:Blk W g t cs) (h1:23≠t) (h2:27≠t) (i:Nat) (v:Value):PlanOwn B (W.setCell ⟨g,i,none⟩ v) A n c A' n' c' p hs:=by
 have hkeep:∀ {e:TypeId} {s m:Nat} {x:Value} {xs:List Value},e≠t→W.ownsRow B e s x m xs→(W.setCell ⟨g,i,none⟩ v).ownsRow B e s x m xs:=fun {e s m x xs} hne ho=>by
  refine own_heap ho fun k hk=>?_
  exact Below.heap_setCell _ _ _ k (fun e'=>own_blk_ne ho hg hne (by rw[hk,e']))
 exact⟨hkeep h1 h.out,hkeep h2 h.row,h.len,h.lenp,fun j hj=>hkeep h1 (h.rings j hj),h.fits⟩
theorem PlanOwn.at_ {B n c n' c':Nat} {W:World} {A A':Option Addr} {p:Plan} {hs:List Hd} (h:PlanOwn B W A n c A' n' c' p hs):PlanAt W W.heap.size A n c A' n' c' p:=by
 refine⟨Reads.of_own h.out,⟨h.lenp,fun h0=>?_⟩,own_cap h.out,own_cap h.row,h.fits⟩
 obtain⟨ad,e,hb,hc⟩:=(Reads.of_own h.row).2 h0
 refine⟨ad,e,hb,fun k hk=>?_⟩
 obtain⟨g1,g2,g3⟩:=rowPV_at (hs:=hs) (ps:=p.parcels) (by rw[h.len,h.lenp]) (k:=k) (by rw[h.lenp];exact hk)
 have hr:=h.rings k hk
 exact⟨hc _ _ g1,⟨_,_,_,hc _ _ g2,Reads.of_own hr,own_cap hr⟩,hc _ _ g3⟩
theorem OwnF.own {w W:World} {Bq:Nat} {p:Plan} {A A' Ao Ap:Option Addr} {n c n' c' co cp:Nat} {hs:List Hd} (h:OwnF w W Bq p A n c A' n' c' n' Ao co Ap cp hs) (hl:p.parcels.length=n') (hf:p.fits):PlanOwn w.heap.size W Ao n co Ap n' cp p hs:=by
 have hrow:=h.row
 rw[List.take_of_length_le (by omega)]at hrow
 exact⟨h.out,hrow,h.len,hl,h.rings,hf⟩
def OwnPostS (p:Plan) (w:World) (e:Ending) (w':World):Prop:=∃A n c A' n' c' hs,e= .returned (planV A n c A' n' c')∧PlanOwn w.heap.size w' A n c A' n' c' p hs∧Below w.heap.size w w'
def OwnPost (p:Plan) (w:World) (e:Ending) (w':World):Prop:=∃A n c A' n' c',e= .returned (planV A n c A' n' c')∧PlanAt w' w'.heap.size A n c A' n' c' p∧Below w.heap.size w w'
set_option maxRecDepth 100000 in
set_option maxHeartbeats 3200000 in
theorem ownPlS_any (p:Plan) (A A':Option Addr) (n c n' c':Nat) (w:World) (h:PlanAt w w.heap.size A n c A' n' c' p) (hsm:n'≤1048576):
 Calls Tryz.prog 21 #[planV A n c A' n' c'] w (OwnPostS p w):=by
 obtain⟨hl1,hl2,hl3,hl4⟩:=h.lens
 obtain⟨i0,hi0,hz0,hz1,hz2⟩:=info_parts info_point
 obtain⟨i1,hi1,hy0,hy1,hy2⟩:=info_parts info_pc
 obtain⟨wa,hwa⟩:∃wa:World,wa=(w.alloc (.cells #[.slice A n c,.slice A' n' c'] 30)).alloc (.cells #[.slice none 0 0,.slice none 0 0] 30):=⟨_,rfl⟩
 have hsa:wa.heap.size=w.heap.size+1+1:=by rw[hwa];simp
 have hB0:Below w.heap.size w wa:=by rw[hwa];exact((Below.refl _ _).alloc (Nat.le_refl _) _).alloc (by simp) _
 have hK0:PlK wa w.heap.size A n c A' n' c':=by rw[hwa];exact Blk.alloc (PlK.new w A n c A' n' c') _
 have hR0:PlK wa (w.heap.size+1) none 0 0 none 0 0:=by
  rw[hwa]
  have:=PlK.new (w.alloc (.cells #[.slice A n c,.slice A' n' c'] 30)) none 0 0 none 0 0
  rw[World.size_alloc]at this
  exact this
 have hown0:(wa.alloc (.cells #[] 23)).ownsRow (w.heap.size+1+1) 23 2 (.slice (some ⟨w.heap.size+1+1,0,none⟩) 0 0) 0 []:=by
  have:=World.ownsRow_made (base:=w.heap.size+1+1) (e:=23) (size:=2) wa #[] 0 (by omega) (by simp[maxLen]) rfl
  rw[hsa]at this
  exact this
 have hBa:Below wa.heap.size wa (wa.alloc (.cells #[] 23)):=(Below.refl _ _).alloc (Nat.le_refl _) _
 have hrd:=(h.on (below_on hB0 (Nat.le_refl _) hBa)).outer
 have q1:(wa.alloc (.cells #[] 23)).cell? ⟨w.heap.size,0,none⟩=some (.slice A n c):=((hK0.on hBa).facts).1
 have H0:=Lib.hid (And.intro hB0 (And.intro hK0 (And.intro hR0 (And.intro hBa (And.intro hown0 (And.intro hrd hsa))))))
 have HP:=Lib.hid h
 have HL:=Lib.hid hl2
 clear h hl1 hl2 hB0 hK0 hR0 hBa hown0 hrd hsa
 go_enter Tryz.func21,Tryz.ntmps21
 go_upto_region 1 with fail
 rw[←hwa]
 have HSA:=Lib.hid (H0.out.2.2.2.2.2.2)
 have eqA:(⟨wa.heap.size,0,none⟩:Addr)=⟨w.heap.size+1+1,0,none⟩:=by rw[HSA.out]
 clear hwa
 go_wp2_with (at_builtin;refine wpList_append_any _ rfl (.tmp 6) (.tmp 8) _ rfl (w.heap.size+1+1) 23 i0 _ 2 16 Tryz.underlying25 hi0 hz0 hz1 hz2 rfl (by omega) (.slice (some ⟨w.heap.size+1+1,0,none⟩) 0 0) 0 [] (by first|rfl|(show Value.slice (some ⟨wa.heap.size,0,none⟩) 0 0=_;rw[HSA.out])) H0.out.2.2.2.2.1 _ A n c (ptsV p.outer) rfl H0.out.2.2.2.2.2.1 (ptsV_one _) (by simp only[maxLen];omega) (by omega) (by rw[World.size_alloc,HSA.out];omega) ?_
              intro v2 w2 hown2 hg2 hat2
              simp only[Nat.zero_add,List.nil_append]at hown2
              obtain⟨Ao,co,rfl⟩:=own_form hown2)
 have hlt2:wa.heap.size<w2.heap.size:=by have:=hg2.size;rw[World.size_alloc]at this;omega
 have hb2:Below wa.heap.size wa w2:=H0.out.2.2.2.1.grown hg2 (by rw[World.size_alloc];omega) (fun g e=>by have:=HSA.out;simp[Value.ownBlock]at e;omega)
 have hF0:OwnF w (w2.alloc (.cells #[.slice Ao n co,.slice none 0 0] 30)) w2.heap.size p A n c A' n' c' 0 Ao co none 0 []:=by
  have hba:Below w2.heap.size w2 (w2.alloc (.cells #[.slice Ao n co,.slice none 0 0] 30)):=(Below.refl _ _).alloc (Nat.le_refl _) _
  have h1:=HSA.out
  exact⟨below_on (below_on H0.out.1 (Nat.le_refl _) hb2) (Nat.le_refl _) hba,(H0.out.2.1.on hb2).on hba,(H0.out.2.2.1.on hb2).on hba,PlK.new w2 Ao n co none 0 0,by omega,own_below (own_mono hown2 (by omega)) hba,World.ownsRow_nil _ _ _ _,rfl,fun j hj=>absurd hj (Nat.not_lt_zero _)⟩
 obtain⟨Bq,hBq⟩:∃Bq,Bq=w2.heap.size:=⟨_,rfl⟩
 have eqB:(⟨w2.heap.size,0,none⟩:Addr)=⟨Bq,0,none⟩:=by rw[hBq]
 rw[←hBq]at hF0
 have HF0:=Lib.hid hF0
 clear hF0 hlt2 hb2 hg2 hat2 hown2 q1 H0
 generalize w2.alloc (.cells #[.slice Ao n co,.slice none 0 0] 30)=wq at *
 rw[←hBq]
 clear hBq eqB eqA HSA
 go_loopw [4] (fun i wr=>∃(k:Nat) (Ap:Option Addr) (cp:Nat) (hs:List Hd),k≤n'∧i= .int .i64 (k:Int)∧OwnF w wr Bq p A n c A' n' c' k Ao co Ap cp hs) (fun i _=>n'-(intOf i).toNat)
 case atStart=>exact⟨0,none,0,[],Nat.zero_le _,rfl,HF0.out⟩
 case round=>
  clear HF0
  obtain⟨k,Ap,cp,hs,hk,rfl,hF⟩:=hrel
  obtain⟨-,q2,-⟩:=hF.pbox.facts
  by_cases hlt:k<n'
  ·have hlt':(k:Int)<(n':Int):=by omega
   have hw1:IntKind.i64.wrap ((k:Int)+1)=(k:Int)+1:=by rw[IntKind.wrap_i64];omega
   obtain⟨ad,rfl⟩:=HP.out.parcs.some_ (by omega)
   obtain⟨had,p1,⟨Ak,nk,ck,p2,hrk,hk1,hk2⟩,p3⟩:=(HP.out.parcs.below hF.bel).at_ hlt
   have hlk:k<p.parcels.length:=by have:=HL.out;omega
   have hfx:=HP.out.fits.2.2 (pcAt p.parcels k) (by rw[pcAt_lt hlk];exact List.getElem_mem _)
   have hnk:nk≤8796093022208:=by have:=hrk.lenPt;have:=hfx.1;omega
   obtain⟨x,hx⟩:∃x,x=pcAt p.parcels k:=⟨_,rfl⟩
   rw[←hx]at p1 p3 hrk
   have hbb:Below wr.heap.size wr ((wr.alloc (.cells #[.int .i64 x.id,.slice Ak nk ck,.string x.owner] 27)).alloc (.cells #[] 23)):=((Below.refl _ _).alloc (Nat.le_refl _) _).alloc (by simp) _
   have hrd:=(hrk.more hF.bel.size).on hbb
   have hown0:((wr.alloc (.cells #[.int .i64 x.id,.slice Ak nk ck,.string x.owner] 27)).alloc (.cells #[] 23)).ownsRow (wr.heap.size+1) 23 2 (.slice (some ⟨wr.heap.size+1,0,none⟩) 0 0) 0 []:=by
    have:=World.ownsRow_made (base:=wr.heap.size+1) (e:=23) (size:=2) (wr.alloc (.cells #[.int .i64 x.id,.slice Ak nk ck,.string x.owner] 27)) #[] 0 (by simp) (by simp[maxLen]) rfl
    rw[World.size_alloc]at this
    exact this
   have hx0:=Blk.alloc (Blk.new wr 27 #[.int .i64 x.id,.slice Ak nk ck,.string x.owner]) (.cells #[] 23)
   have x1:((wr.alloc (.cells #[.int .i64 x.id,.slice Ak nk ck,.string x.owner] 27)).alloc (.cells #[] 23)).cell? ⟨wr.heap.size,1,none⟩=some (.slice Ak nk ck):=by rw[Blk.cell hx0];rfl
   have HF:=Lib.hid (And.intro hF (And.intro hrd (And.intro hown0 hx)))
   have HNK:=Lib.hid hnk
   clear hrd hown0 hx hbb hF hrk hnk hfx hlk hx0
   go_wp2_with (first
    |(at_builtin
      refine wpList_append_any _ rfl (.tmp 23) (.tmp 25) _ rfl (wr.heap.size+1) 23 i0 _ 2 16 Tryz.underlying25 hi0 hz0 hz1 hz2 rfl (by omega) (.slice (some ⟨wr.heap.size+1,0,none⟩) 0 0) 0 [] rfl HF.out.2.2.1 _ Ak nk ck (ptsV x.ring) rfl HF.out.2.1 (ptsV_one _) (by have:=HNK.out;simp only[maxLen];omega) (by have:=HNK.out;omega) (by simp) ?_
      intro v3 w3 hown3 hg3 hat3
      simp only[Nat.zero_add,List.nil_append]at hown3
      obtain⟨A3,c3,rfl⟩:=own_form hown3
      obtain⟨z0,hF3,hx3,hr3⟩:=ownStepA HF.out.1 hg3 hown3
      have z1:w3.cell? ⟨wr.heap.size,1,none⟩=some (.slice Ak nk ck):=(by rw[Blk.cell z0];rfl)
      have z2:=Blk.frozen z0 1
      obtain⟨V3,hV3⟩:∃V,V=w3.setCell ⟨wr.heap.size,1,none⟩ (.slice A3 nk c3):=⟨_,rfl⟩
      rw[←hV3]at hF3 hx3 hr3
      have hV4:=hV3.symm
      have y1:V3.cell? ⟨Bq,1,none⟩=some (.slice Ap k cp):=hF3.qbox.facts.2.1
      have y2:V3.cell? ⟨wr.heap.size,0,none⟩=some (.int .i64 x.id):=(by rw[Blk.cell hx3];rfl)
      have y3:V3.cell? ⟨wr.heap.size,1,none⟩=some (.slice A3 nk c3):=(by rw[Blk.cell hx3];rfl)
      have y4:V3.cell? ⟨wr.heap.size,2,none⟩=some (.string x.owner):=(by rw[Blk.cell hx3];rfl)
      have HF3:=Lib.hid (And.intro hF3 hr3)
      clear hF3 hr3 hx3 z0 hg3 hown3 hat3 hV3)
    |(at_builtin
      refine wpList_append_any _ rfl (.tmp 29) (.tmp 31) _ rfl w.heap.size 27 i1 _ 3 48 Tryz.underlying28 hi1 hy0 hy1 hy2 rfl (by omega) (.slice Ap k cp) k _ rfl (HF3.out.1.on (W':=V3.alloc (.cells #[.int .i64 x.id,.slice A3 nk c3,.string x.owner] 27)) ((Below.refl _ _).alloc (Nat.le_refl _) _)).row _ (some ⟨V3.heap.size,0,none⟩) 1 1 (pcV x (A3,nk,c3)) rfl (Reads.made V3 #[.int .i64 x.id,.slice A3 nk c3,.string x.owner] 27 (0,0) 3 1 (pcV x (A3,nk,c3)) rfl rfl) (by intro u hu;simp[pcV]at hu;rcases hu with rfl|rfl|rfl<;>rfl) (by simp only[maxLen];omega) (by omega) (by have:=HF3.out.1.bel.size;simp;omega) ?_
      intro v5 w5 hown5 hg5 hat5
      obtain⟨Ap',cp',rfl⟩:=own_form hown5
      have hx:=HF.out.2.2.2
      have hr3:=HF3.out.2
      rw[hx]at hown5 hg5 hr3
      have hba:Below V3.heap.size V3 (V3.alloc (.cells #[.int .i64 (pcAt p.parcels k).id,.slice A3 nk c3,.string (pcAt p.parcels k).owner] 27)):=(Below.refl _ _).alloc (Nat.le_refl _) _
      obtain⟨zq,hF5⟩:=OwnF.next (HF3.out.1.on hba) (by have:=HL.out;omega) (own_below hr3 hba) hown5 hg5
      have y5:w5.cell? ⟨Bq,1,none⟩=some (.slice Ap k cp):=zq.facts.2.1
      have y6:=Blk.frozen zq 1
      have HF5:=Lib.hid hF5
      clear hx hr3 hba zq hF5 hown5 hg5 hat5))
   go_roundw
   case rel=>exact⟨k+1,Ap',cp',hs++[(A3,nk,c3)],by omega,by go_num,HF5.out⟩
   case measure=>simp[intOf];omega
  ·have hkn:k=n':=by omega
   subst hkn
   obtain⟨y1,y2,-⟩:=hF.qbox.facts
   obtain⟨y3,y4,-⟩:=hF.rbox.facts
   have f1:=Blk.frozen hF.rbox 0
   have f2:=Blk.frozen hF.rbox 1
   have hpo:=((hF.own HL.out HP.out.fits).store hF.rbox (by decide) (by decide) 0 (.slice Ao n co)).store (Blk.set_ hF.rbox 0 (.slice Ao n co)) (by decide) (by decide) 1 (.slice Ap k cp)
   have hB5:=(hF.bel.setCell (p:=⟨w.heap.size+1,0,none⟩) (by simp) (.slice Ao n co)).setCell (p:=⟨w.heap.size+1,1,none⟩) (by simp) (.slice Ap k cp)
   have hR5:=Blk.set_ (Blk.set_ hF.rbox 0 (.slice Ao n co)) 1 (.slice Ap k cp)
   have HZ:=Lib.hid (And.intro hpo (And.intro hB5 hR5))
   clear hpo hB5 hR5 hF
   go_wp2_with fail
   obtain⟨hpo,hB5,hR5⟩:=HZ.out
   clear y1 y2 y3 y4 f1 f2 HZ q2
   generalize (wr.setCell ⟨w.heap.size+1,0,none⟩ (.slice Ao n co)).setCell ⟨w.heap.size+1,1,none⟩ (.slice Ap k cp)=V at *
   have r1:V.cell? ⟨w.heap.size+1,0,none⟩=some (.slice Ao n co):=by rw[Blk.cell hR5];rfl
   have r2:V.cell? ⟨w.heap.size+1,1,none⟩=some (.slice Ap k cp):=by rw[Blk.cell hR5];rfl
   refine bodyPost_ret (v:=planV Ao n co Ap k cp) ?_ rfl ⟨Ao,n,co,Ap,k,cp,hs,rfl,hpo,hB5⟩
   simp[results,Tryz.results21,go_sem,r1,r2]
theorem ownPl_any (p:Plan) (A A':Option Addr) (n c n' c':Nat) (w:World) (h:PlanAt w w.heap.size A n c A' n' c' p) (hsm:n'≤1048576):
 Calls Tryz.prog 21 #[planV A n c A' n' c'] w (OwnPost p w):=
 (ownPlS_any p A A' n c n' c' w h hsm).mono fun _ _ ⟨A,n,c,A',n',c',_,h1,h2,h3⟩=>⟨A,n,c,A',n',c',h1,h2.at_,h3⟩
end Go.Proofs.YtpkeacnacjnlcaaGreat
