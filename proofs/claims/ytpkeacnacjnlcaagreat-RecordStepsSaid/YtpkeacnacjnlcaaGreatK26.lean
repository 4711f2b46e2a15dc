/- ref05.once and ref05.Changed: the walks. -/
import Derived.Deep.CutBlock
import Derived.Deep.DeepCutAuto
import Derived.Test.YtpkeacnacjnlcaaGreatK01
import Derived.Test.YtpkeacnacjnlcaaGreatK03
import Derived.Test.YtpkeacnacjnlcaaGreatK04
import Derived.Test.YtpkeacnacjnlcaaGreatK16
import Derived.Test.YtpkeacnacjnlcaaGreatK17
import Derived.Test.YtpkeacnacjnlcaaGreatK24
namespace Go.Proofs.YtpkeacnacjnlcaaGreat
open Go.RowKit Go.Lib
def onceL (l:List Int) (v:Int):List Int:=if v∈l then l else l++[v]
theorem onceL_len (l:List Int) (v:Int):(onceL l v).length≤l.length+1:=by unfold onceL;split<;>simp
set_option maxRecDepth 100000 in
set_option maxHeartbeats 800000 in
theorem once_any (l:List Int) (v:Int) (A:Option Addr) (n c base:Nat) (w:World) (h:w.ownsRow base 3 1 (.slice A n c) n (intsV l)) (hb:base≤w.heap.size) (hn:n≤4194304):
 Calls Tryz.prog 52 #[.slice A n c,.int .i64 v] w fun e w'=>∃A' n' c',e= .returned (.slice A' n' c')∧n'=(onceL l v).length∧w'.ownsRow base 3 1 (.slice A' n' c') n' (intsV (onceL l v))∧Below base w w':=by
 obtain⟨i0,hi0,hz0,hz1,hz2⟩:=info_parts info_i
 have hl:l.length=n:=(Reads.of_own h).lenI
 have H:=Lib.hid (And.intro h hl)
 clear h hl
 go_enter Tryz.func52,Tryz.ntmps52
 go_wp2_with fail
 go_loopw [5] (fun i wr=>∃k:Nat,k≤n∧i= .int .i64 (k:Int)∧Hid (∀j,j<k→l[j]?≠some v)∧Below w.heap.size w wr) (fun i _=>n-(intOf i).toNat)
 case atStart=>exact⟨0,Nat.zero_le _,rfl,(fun j hj=>absurd hj (Nat.not_lt_zero _)),Below.refl _ _⟩
 case round=>
  obtain⟨k,hk,rfl,hno,hbel⟩:=hrel
  by_cases hlt:k<n
  ·have hlt':(k:Int)<(n:Int):=by omega
   have hw1:IntKind.i64.wrap ((k:Int)+1)=(k:Int)+1:=by rw[IntKind.wrap_i64];omega
   obtain⟨ad,z,rfl,-,hz,p1⟩:=((Reads.of_own H.out.1).below hbel).int hlt
   have HB:=Lib.hid hbel
   by_cases he:z=v
   ·subst he
    have hin:Hid (onceL l z=l):=by
     show _=_
     unfold onceL
     rw[if_pos (List.mem_of_getElem? hz)]
    clear hbel hno hz
    go_wp2_with fail
    go_ret
    exact⟨some ad,n,c,rfl,by rw[hin.out];exact H.out.2.symm,by rw[hin.out];exact own_below H.out.1 HB.out,HB.out.mono hb⟩
   ·have hz':(z==v)=false:=by rw[beq_eq_false_iff_ne];exact he
    have hno2:Hid (∀j,j<k+1→l[j]?≠some v):=fun j hj=>by
     by_cases e:j=k
     ·rw[e,hz];intro h;exact he (Option.some.inj h)
     ·exact hno.out j (by omega)
    clear hbel hno hz
    go_wp2_with fail
    go_roundw
    case rel=>exact⟨k+1,by omega,by go_num,hno2,HB.out⟩
    case measure=>simp[intOf];omega
  ·have hkn:k=n:=by omega
   subst hkn
   have hin:Hid (onceL l v=l++[v]):=by
    show _=_
    unfold onceL
    rw[if_neg]
    intro h
    obtain⟨j,hj,hj2⟩:=List.getElem_of_mem h
    exact hno.out j (by have:=H.out.2;omega) (by rw[List.getElem?_eq_getElem hj,hj2])
   have hown:=own_below H.out.1 hbel
   have HB:=Lib.hid hbel
   have hws:=hbel.size
   clear hbel hno
   go_wp2_with (at_builtin;refine wpList_append_any _ rfl (.tmp 19) (.tmp 21) _ rfl base 3 i0 _ 1 8 Tryz.underlying57 hi0 hz0 hz1 hz2 rfl (by omega) (.slice A k c) k _ rfl (hown.alloc _) (wr.alloc (.cells #[.int .i64 v] 3)).heap.size (some ⟨wr.heap.size,0,none⟩) 1 1 (intsV [v]) rfl (Reads.made wr #[.int .i64 v] 3 (0,0) 1 1 (intsV [v]) rfl rfl) (intsV_one v) (by simp only[maxLen];omega) (by omega) (by simp;omega) ?_;intro v6 w6 hown6 hg6 hat6;have hB6:=((HB.out.mono hb).alloc (by omega) _).grown hg6 (by simp;omega) (fun g hg=>(hown.lt g hg).1);rw[←intsV_append,←hin.out]at hown6;obtain⟨A6,c6,rfl⟩:=own_form hown6;have H6:=Lib.hid (And.intro hown6 hB6);clear hown6 hB6 hg6 hat6)
   go_ret
   exact⟨A6,k+1,c6,rfl,by rw[hin.out,List.length_append,H.out.2];rfl,H6.out.1,H6.out.2⟩
/-- The first parcel with the number of the one at a place. -/
def fstP (ps:List Parc) (i:Nat):Parc:=pcAt ps (atP ps (pcAt ps i).id).toNat
noncomputable def chgB (ps qs:List Parc) (i:Nat):Bool:=decide (atP qs (fstP ps i).id<0)||!pcEq (fstP ps i) (pcAt qs (atP qs (fstP ps i).id).toNat)
noncomputable def ch1 (ps qs:List Parc):Nat→List Int
 |0=>[]
 |m+1=>if chgB ps qs m=true then onceL (ch1 ps qs m) (fstP ps m).id else ch1 ps qs m
noncomputable def ch2 (ps qs:List Parc) (l:List Int):Nat→List Int
 |0=>l
 |m+1=>if atP ps (pcAt qs m).id<0 then onceL (ch2 ps qs l m) (pcAt qs m).id else ch2 ps qs l m
theorem ch1_len (ps qs:List Parc) (m:Nat):(ch1 ps qs m).length≤m:=by
 induction m with
 |zero=>simp[ch1]
 |succ m ih=>
  unfold ch1
  split
  ·have:=onceL_len (ch1 ps qs m) (fstP ps m).id;omega
  ·omega
theorem ch2_len (ps qs:List Parc) (l:List Int) (m:Nat):(ch2 ps qs l m).length≤l.length+m:=by
 induction m with
 |zero=>simp[ch2]
 |succ m ih=>
  unfold ch2
  split
  ·have:=onceL_len (ch2 ps qs l m) (pcAt qs m).id;omega
  ·omega
noncomputable def chL (p q:Plan):List Int:=ch2 p.parcels q.parcels (ch1 p.parcels q.parcels p.parcels.length) q.parcels.length
theorem fst_at {ps:List Parc} {i:Nat} (hi:i<ps.length):∃j:Nat,j<ps.length∧atP ps (pcAt ps i).id=(j:Int)∧fstP ps i=pcAt ps j:=by
 rcases atP_cases ps (pcAt ps i).id with ⟨-,h1⟩|⟨j,hj,h1,-⟩
 ·exact absurd rfl (h1 i hi)
 ·exact⟨j,hj,h1,by unfold fstP;rw[h1];rfl⟩
/-- What Changed's rounds keep. -/
def CgF (p:Plan) (A:Option Addr) (n c:Nat) (A':Option Addr) (n' c':Nat) (q:Plan) (B:Option Addr) (m d:Nat) (B':Option Addr) (m' d':Nat) (w W:World):Prop:=
 Below w.heap.size w W∧w.heap.size+2≤W.heap.size∧PlK W w.heap.size A n c A' n' c'∧PlK W (w.heap.size+1) B m d B' m' d'∧PlanAt W w.heap.size A n c A' n' c' p∧PlanAt W w.heap.size B m d B' m' d' q
theorem CgF.on {p:Plan} {A A':Option Addr} {n c n' c':Nat} {q:Plan} {B B':Option Addr} {m d m' d':Nat} {w W W':World} (h:CgF p A n c A' n' c' q B m d B' m' d' w W) (hb:Below (w.heap.size+2) W W'):CgF p A n c A' n' c' q B m d B' m' d' w W':=by
 obtain⟨h1,h2,h3,h4,h5,h6⟩:=h
 exact⟨h1.trans (hb.mono (by omega)),by have:=hb.size;omega,(hb.block _ (by omega)).trans h3,(hb.block _ (by omega)).trans h4,h5.below (hb.mono (by omega)),h6.below (hb.mono (by omega))⟩
theorem CgF.to {p:Plan} {A A':Option Addr} {n c n' c':Nat} {q:Plan} {B B':Option Addr} {m d m' d':Nat} {w W W':World} (h:CgF p A n c A' n' c' q B m d B' m' d' w W) (hb:Below W.heap.size W W'):CgF p A n c A' n' c' q B m d B' m' d' w W':=h.on (hb.mono h.2.1)
theorem CgF.one {p:Plan} {A A':Option Addr} {n c n' c':Nat} {q:Plan} {B B':Option Addr} {m d m' d':Nat} {w W:World} (h:CgF p A n c A' n' c' q B m d B' m' d' w W):PlanAt W W.heap.size A n c A' n' c' p:=h.2.2.2.2.1.more (by have:=h.2.1;omega)
theorem CgF.two {p:Plan} {A A':Option Addr} {n c n' c':Nat} {q:Plan} {B B':Option Addr} {m d m' d':Nat} {w W:World} (h:CgF p A n c A' n' c' q B m d B' m' d' w W):PlanAt W W.heap.size B m d B' m' d' q:=h.2.2.2.2.2.more (by have:=h.2.1;omega)
def SrtW (w:World) (L0:List Int) (A:Option Addr) (N C:Nat) (P:List Int→Prop) (W:World):Prop:=∃L:List Int,L.Perm L0∧L.length=N∧P L∧W.ownsRow (w.heap.size+2) 3 1 (.slice A N C) N (intsV L)∧Below w.heap.size w W
theorem swap_w {w V Z:World} {L L0:List Int} {g N co k i jj:Nat} {x1 x2:Int}
 (h:L.Perm L0∧L.length=N∧SrtJ (swI L jj) k i∧V.ownsRow (w.heap.size+2) 3 1 (.slice (some ⟨g,0,none⟩) N co) N (intsV L)∧Below w.heap.size w V∧g<V.heap.size)
 (h2:x1=L.getD i 0∧x2=L.getD jj 0∧jj-1=i∧jj>0∧jj<L.length∧i<L.length)
 (hz:Z=(V.drew.setCell ⟨g,jj,none⟩ (.int .i64 x1)).setCell ⟨g,i,none⟩ (.int .i64 x2)):SrtW w L0 (some ⟨g,0,none⟩) N co (fun L=>SrtJ L k i) Z:=by
 obtain⟨hp,hl,hs,hown,hb,hg⟩:=h
 obtain⟨e1,e2,hix,hj0,hjL,hiL⟩:=h2
 have hg2:w.heap.size+2≤g:=by
  rcases hown.2 with ⟨e,-⟩|⟨g',cp,cur,e,hgb,-⟩
  ·simp at e
  ·simp at e;omega
 have o0:=own_below hown (Below.refl V.heap.size V).drew
 have o1:=o0.stored jj (.int .i64 x1)
 have o2:=o1.1.stored i (.int .i64 x2)
 have hm:((intsV L).set jj (.int .i64 x1)).set i (.int .i64 x2)=intsV (swI L jj):=by
  unfold swI intsV
  rw[hix,←e1,←e2,List.map_set,List.map_set]
 rw[hm]at o2
 refine⟨swI L jj,(swI_perm hjL).trans hp,by rw[swI_len,hl],hs,by rw[hz];exact o2.1,?_⟩
 have hb2:Below w.heap.size w V.drew:=hb.trans ((Below.refl V.heap.size V).drew.mono hb.size)
 rw[hz]
 exact(hb2.setCell (p:=⟨g,jj,none⟩) (by show w.heap.size≤g;omega) _).setCell (p:=⟨g,i,none⟩) (by show w.heap.size≤g;omega) _
def OwI (w:World) (L:List Int) (o:Value) (W:World):Prop:=∃A n c,o= .slice A n c∧n=L.length∧W.ownsRow (w.heap.size+2) 3 1 (.slice A n c) n (intsV L)
theorem OwI.to {w W W':World} {L:List Int} {o:Value} (h:OwI w L o W) (hb:Below W.heap.size W W'):OwI w L o W':=by
 obtain⟨A,n,c,h1,h2,h3⟩:=h
 exact⟨A,n,c,h1,h2,own_below h3 hb⟩
theorem hldG6 {W V V':World} {a0 a1 a2 a3 a4 a5:Addr} {v0 v1 v2 v3 v4 v5:Value} (hh:a0.block<W.heap.size∧a1.block<W.heap.size∧a2.block<W.heap.size∧a3.block<W.heap.size∧a4.block<W.heap.size∧a5.block<W.heap.size) (hs:V.cell? a0=some v0∧V.cell? a1=some v1∧V.cell? a2=some v2∧V.cell? a3=some v3∧V.cell? a4=some v4∧V.cell? a5=some v5∧Below W.heap.size W V) (hb:Below V.heap.size V V'):
 V'.cell? a0=some v0∧V'.cell? a1=some v1∧V'.cell? a2=some v2∧V'.cell? a3=some v3∧V'.cell? a4=some v4∧V'.cell? a5=some v5∧Below W.heap.size W V':=by
 obtain⟨h0,h1,h2,h3,h4,h5⟩:=hh
 obtain⟨c0,c1,c2,c3,c4,c5,cb⟩:=hs
 have:=cb.size
 have k:∀ {a:Addr} {v:Value},a.block<W.heap.size→V.cell? a=some v→V'.cell? a=some v:=fun {a v} ha hv=>(hb.cell (p:=a) (by omega)).trans hv
 exact⟨k h0 c0,k h1 c1,k h2 c2,k h3 c3,k h4 c4,k h5 c5,below_on cb (Nat.le_refl _) hb⟩
theorem hldG6C {W V:World} {a0 a1 a2 a3 a4 a5 p:Addr} {v0 v1 v2 v3 v4 v5 u:Value} (hh:a0.block<W.heap.size∧a1.block<W.heap.size∧a2.block<W.heap.size∧a3.block<W.heap.size∧a4.block<W.heap.size∧a5.block<W.heap.size) (hp:W.heap.size≤p.block) (hs:V.cell? a0=some v0∧V.cell? a1=some v1∧V.cell? a2=some v2∧V.cell? a3=some v3∧V.cell? a4=some v4∧V.cell? a5=some v5∧Below W.heap.size W V):
 (V.setCell p u).cell? a0=some v0∧(V.setCell p u).cell? a1=some v1∧(V.setCell p u).cell? a2=some v2∧(V.setCell p u).cell? a3=some v3∧(V.setCell p u).cell? a4=some v4∧(V.setCell p u).cell? a5=some v5∧Below W.heap.size W (V.setCell p u):=by
 obtain⟨k0,k1,k2,k3,k4,k5⟩:=hh
 obtain⟨c0,c1,c2,c3,c4,c5,h6⟩:=hs
 have k:∀ {a:Addr} {v:Value},a.block<W.heap.size→V.cell? a=some v→(V.setCell p u).cell? a=some v:=fun {a v} ha hv=>by
  rw[World.cell?_setCell_other _ _ _ _ (fun e=>by subst e;omega)]
  exact hv
 exact⟨k k0 c0,k k1 c1,k k2 c2,k k3 c3,k k4 c4,k k5 c5,h6.setCell hp u⟩
theorem hldG7 {W V V':World} {a0 a1 a2 a3 a4 a5 a6:Addr} {v0 v1 v2 v3 v4 v5 v6:Value} (hh:a0.block<W.heap.size∧a1.block<W.heap.size∧a2.block<W.heap.size∧a3.block<W.heap.size∧a4.block<W.heap.size∧a5.block<W.heap.size∧a6.block<W.heap.size) (hs:V.cell? a0=some v0∧V.cell? a1=some v1∧V.cell? a2=some v2∧V.cell? a3=some v3∧V.cell? a4=some v4∧V.cell? a5=some v5∧V.cell? a6=some v6∧Below W.heap.size W V) (hb:Below V.heap.size V V'):
 V'.cell? a0=some v0∧V'.cell? a1=some v1∧V'.cell? a2=some v2∧V'.cell? a3=some v3∧V'.cell? a4=some v4∧V'.cell? a5=some v5∧V'.cell? a6=some v6∧Below W.heap.size W V':=by
 obtain⟨h0,h1,h2,h3,h4,h5,h6⟩:=hh
 obtain⟨c0,c1,c2,c3,c4,c5,c6,cb⟩:=hs
 have:=cb.size
 have k:∀ {a:Addr} {v:Value},a.block<W.heap.size→V.cell? a=some v→V'.cell? a=some v:=fun {a v} ha hv=>(hb.cell (p:=a) (by omega)).trans hv
 exact⟨k h0 c0,k h1 c1,k h2 c2,k h3 c3,k h4 c4,k h5 c5,k h6 c6,below_on cb (Nat.le_refl _) hb⟩
theorem hldG4 {W V V':World} {a0 a1 a2 a3:Addr} {v0 v1 v2 v3:Value} (hh:a0.block<W.heap.size∧a1.block<W.heap.size∧a2.block<W.heap.size∧a3.block<W.heap.size) (hs:V.cell? a0=some v0∧V.cell? a1=some v1∧V.cell? a2=some v2∧V.cell? a3=some v3∧Below W.heap.size W V) (hb:Below V.heap.size V V'):
 V'.cell? a0=some v0∧V'.cell? a1=some v1∧V'.cell? a2=some v2∧V'.cell? a3=some v3∧Below W.heap.size W V':=by
 obtain⟨h0,h1,h2,h3⟩:=hh
 obtain⟨c0,c1,c2,c3,cb⟩:=hs
 have:=cb.size
 have k:∀ {a:Addr} {v:Value},a.block<W.heap.size→V.cell? a=some v→V'.cell? a=some v:=fun {a v} ha hv=>(hb.cell (p:=a) (by omega)).trans hv
 exact⟨k h0 c0,k h1 c1,k h2 c2,k h3 c3,below_on cb (Nat.le_refl _) hb⟩
theorem hldG6T {W V:World} {a0 a1 a2 a3 a4 a5:Addr} {v0 v1 v2 v3 v4 v5:Value} {o o':Obj} (hh:a0.block<W.heap.size∧a1.block<W.heap.size∧a2.block<W.heap.size∧a3.block<W.heap.size∧a4.block<W.heap.size∧a5.block<W.heap.size) (hz:W.heap.size≤V.heap.size) (hs:(V.alloc o).cell? a0=some v0∧(V.alloc o).cell? a1=some v1∧(V.alloc o).cell? a2=some v2∧(V.alloc o).cell? a3=some v3∧(V.alloc o).cell? a4=some v4∧(V.alloc o).cell? a5=some v5∧Below W.heap.size W (V.alloc o)):
 (V.alloc o').cell? a0=some v0∧(V.alloc o').cell? a1=some v1∧(V.alloc o').cell? a2=some v2∧(V.alloc o').cell? a3=some v3∧(V.alloc o').cell? a4=some v4∧(V.alloc o').cell? a5=some v5∧Below W.heap.size W (V.alloc o'):=by
 obtain⟨k0,k1,k2,k3,k4,k5⟩:=hh
 obtain⟨c0,c1,c2,c3,c4,c5,h6⟩:=hs
 have k:∀ {a:Addr} {v:Value},a.block<W.heap.size→(V.alloc o).cell? a=some v→(V.alloc o').cell? a=some v:=fun {a v} ha hv=>by
  rw[World.cell?_alloc_lt V o' a (by omega),←World.cell?_alloc_lt V o a (by omega)]
  exact hv
 exact⟨k k0 c0,k k1 c1,k k2 c2,k k3 c3,k k4 c4,k k5 c5,⟨h6.os,h6.tape,h6.output,by rw[World.size_alloc];omega,fun i hi=>(Below.heap_alloc V o' i (by omega)).trans ((Below.heap_alloc V o i (by omega)).symm.trans (h6.block i hi))⟩⟩
set_option maxRecDepth 100000 in
set_option maxHeartbeats 6400000 in
theorem changedR_any (p q:Plan) (A A' B B':Option Addr) (n c n' c' m d m' d':Nat) (w:World) (hp:PlanAt w w.heap.size A n c A' n' c' p) (hq:PlanAt w w.heap.size B m d B' m' d' q) (hn':n'≤1048576) (hm':m'≤1048576):
 Calls Tryz.prog 22 #[planV A n c A' n' c',planV B m d B' m' d'] w fun e w'=>∃D l,e= .returned D∧OwI w l D w'∧l.Perm (chL p q)∧l.Pairwise (· ≤ ·)∧Below w.heap.size w w':=by
 obtain⟨wa,hwa⟩:∃wa:World,wa=(w.alloc (.cells #[.slice A n c,.slice A' n' c'] 30)).alloc (.cells #[.slice B m d,.slice B' m' d'] 30):=⟨_,rfl⟩
 have hB0:Below w.heap.size w wa:=by rw[hwa];exact((Below.refl _ _).alloc (Nat.le_refl _) _).alloc (by simp) _
 have hF:CgF p A n c A' n' c' q B m d B' m' d' w wa:=by
  refine⟨hB0,by rw[hwa];simp,by rw[hwa];exact Blk.alloc (PlK.new w A n c A' n' c') _,?_,hp.below hB0,hq.below hB0⟩
  have:=PlK.new (w.alloc (.cells #[.slice A n c,.slice A' n' c'] 30)) B m d B' m' d'
  rw[World.size_alloc]at this
  rw[hwa]
  exact this
 have H0:=Lib.hid hF
 have HL:=Lib.hid (And.intro hp.lens.2.1 hq.lens.2.1)
 clear hF hp hq hB0
 go_enter Tryz.func22,Tryz.ntmps22
 go_upto_block 0 with fail
 rw[←hwa]
 clear hwa
 go_cut [5] (fun o wx=>OwI w (ch1 p.parcels q.parcels n') o wx∧CgF p A n c A' n' c' q B m d B' m' d' w wx)
 case first=>
  go_wp2_with fail
  go_loopw [5,6] (fun o i wr=>∃k:Nat,k≤n'∧i= .int .i64 (k:Int)∧OwI w (ch1 p.parcels q.parcels k) o wr∧CgF p A n c A' n' c' q B m d B' m' d' w wr) (fun _ i _=>n'-(intOf i).toNat)
  case atStart=>exact⟨0,Nat.zero_le _,rfl,⟨none,0,0,rfl,rfl,World.ownsRow_nil _ _ _ _⟩,H0.out⟩
  case round=>
   obtain⟨k,hk,rfl,ho,hF⟩:=hrel
   obtain⟨W,rfl⟩:∃W,W=wr:=⟨_,rfl⟩
   obtain⟨q1,q2,q3⟩:=hF.2.2.1.facts
   obtain⟨Ao,no,co,rfl,hno0,hown0⟩:=ho
   have ho:OwI w (ch1 p.parcels q.parcels k) (.slice Ao no co) W:=⟨Ao,no,co,rfl,hno0,hown0⟩
   clear hno0 hown0
   by_cases hlt:k<n'
   ·have hlt':(k:Int)<(n':Int):=by omega
    have hw1:IntKind.i64.wrap ((k:Int)+1)=(k:Int)+1:=by rw[IntKind.wrap_i64];omega
    obtain⟨ad,rfl⟩:=hF.one.parcs.some_ (by omega)
    obtain⟨j,hj,hat,hfs⟩:=fst_at (ps:=p.parcels) (i:=k) (by rw[HL.out.1];exact hlt)
    have hjn:j<n':=by rw[←HL.out.1];exact hj
    have hji:(j:Int)<(n':Int):=by omega
    obtain⟨had,p1,-,-⟩:=hF.one.parcs.at_ hlt
    obtain⟨-,x1,⟨Ax,nx,cx,x2,hrx,hxc⟩,x3⟩:=hF.one.parcs.at_ hjn
    obtain⟨id,hid⟩:∃z,z=(pcAt p.parcels k).id:=⟨_,rfl⟩
    obtain⟨x,hx⟩:∃x,x=pcAt p.parcels j:=⟨_,rfl⟩
    rw[←hid]at p1 hat
    rw[←hx]at x1 x3 hrx hfs
    have kA:=fun V (hV:Below W.heap.size W V)=>atR_any p id A (some ad) n c n' c' V (hF.to hV).one
    rw[hat]at kA
    have HX:=Lib.hid (And.intro hfs (And.intro hx hrx))
    have HF:=Lib.hid (And.intro ho hF)
    have hP0:W.drew.cell? ⟨w.heap.size,0,none⟩=some (.slice A n c)∧W.drew.cell? ⟨w.heap.size,1,none⟩=some (.slice (some ad) n' c')∧W.drew.cell? (ad.add (k*3))=some (.int .i64 id)∧W.drew.cell? (ad.add (j*3))=some (.int .i64 x.id)∧W.drew.cell? ⟨(ad.add (j*3)).block,(ad.add (j*3)).off+1,none⟩=some (.slice Ax nx cx)∧W.drew.cell? ⟨(ad.add (j*3)).block,(ad.add (j*3)).off+2,none⟩=some (.string x.owner)∧Below W.heap.size W W.drew:=⟨q1,q2,p1,x1,x2,x3,(Below.refl _ _).drew⟩
    have hh:(⟨w.heap.size,0,none⟩:Addr).block<W.heap.size∧(⟨w.heap.size,1,none⟩:Addr).block<W.heap.size∧(ad.add (k*3)).block<W.heap.size∧(ad.add (j*3)).block<W.heap.size∧(⟨(ad.add (j*3)).block,(ad.add (j*3)).off+1,none⟩:Addr).block<W.heap.size∧(⟨(ad.add (j*3)).block,(ad.add (j*3)).off+2,none⟩:Addr).block<W.heap.size:=by simp only[block_of_add];exact⟨q3,q3,had,had,had,had⟩
    clear ho hF had p1 x1 x2 x3 hrx hat hfs hx hid hj
    have hfz:∀o,Below W.heap.size W (World.drew (W.alloc o)):=fun o=>((Below.refl _ _).alloc (Nat.le_refl _) o).drew
    go_upto_region 5 with fail
    clear q1 q2 q3
    go_cut [7] (fun s wx=>∃Bx:Nat,s= .pointer (some ⟨Bx,0,none⟩)∧PcK wx Bx x Ax nx cx∧Below W.heap.size W wx)
    case first=>
     refine wp_region_held_drew (S:=fun V=>V.cell? ⟨w.heap.size,0,none⟩=some (.slice A n c)∧V.cell? ⟨w.heap.size,1,none⟩=some (.slice (some ad) n' c')∧V.cell? (ad.add (k*3))=some (.int .i64 id)∧V.cell? (ad.add (j*3))=some (.int .i64 x.id)∧V.cell? ⟨(ad.add (j*3)).block,(ad.add (j*3)).off+1,none⟩=some (.slice Ax nx cx)∧V.cell? ⟨(ad.add (j*3)).block,(ad.add (j*3)).off+2,none⟩=some (.string x.owner)∧Below W.heap.size W V) (by kernel_rfl) ?_ (fun hHeld=>?_)
     ·exact hP0
     refine tk 0 ?_
     refine tk 1 ?_
     refine tk 2 ?_
     refine tk 3 ?_
     refine tk 4 ?_
     refine tk 5 ?_
     refine tk 6 ?_
     refine tk 7 ?_
     refine tk 8 ?_
     refine rd2 9 12 (fun K hK=>?_) fun K hK=>?_
     ·go_simp
      go_at_call 50
      (with_reducible refine(kA _ (Below.refl _ _).drew).mono ?_)
      rintro e w1 ⟨rfl,hb1⟩
      try dsimp only
      refine hK.out _ _ (hldG6 hh hHeld hb1) fun hHeld=>?_
      clear hK K
      try simp only[Act.put,sb0,sc0,sc1]
      refine tk 10 ?_
      refine tk 11 ?_
      refine rd1 12 fun K hK=>?_
      go_simp
      refine hK.out _ _ (hldG6 hh hHeld ((Below.refl _ _).alloc (Nat.le_refl _) _)) fun hHeld=>?_
      have hS1:=hHeld
      clear hK K
      try simp only[Act.put,sb0,sc0,sc1]
      refine rd1 13 fun K hK=>?_
      go_simp
      refine hK.out _ _ (hldG6T hh (by have:=hb1.size;simpa using this) hS1) fun hHeld=>?_
      clear hK K
      try simp only[Act.put,sb0,sc0,sc1]
      refine wpAnyH_done (by kernel_rfl) ?_ _
      go_wp2_with fail
      go_meet
      exact⟨_,rfl,PcK.new _ x Ax nx cx,hHeld.2.2.2.2.2.2⟩
     ·go_simp
      refine hK.out _ _ (hldG6 hh hP0 (show Below W.drew.heap.size W.drew (World.drew (W.alloc _)) from(Below.refl W.drew.heap.size W.drew).alloc (Nat.le_refl _) _)) fun hHeld=>?_
      clear hK K
      try simp only[Act.put,sb0,sc0,sc1]
      refine rd1 9 fun K hK=>?_
      go_simp
      go_at_call 50
      (with_reducible refine(kA _ (hfz _)).mono ?_)
      rintro e w1 ⟨rfl,hb1⟩
      have hk6:PcK w1 W.heap.size ⟨0,[],⟨#[]⟩⟩ none 0 0:=Blk.below (Blk.drew (PcK.new W ⟨0,[],⟨#[]⟩⟩ none 0 0)) hb1 (by simp)
      obtain⟨g1,g2,g3,-⟩:=hk6.facts
      have f1:=Blk.frozen hk6 0
      have f2:=Blk.frozen hk6 1
      have f3:=Blk.frozen hk6 2
      try dsimp only
      refine hK.out _ _ (hldG6 hh hHeld hb1) fun hHeld=>?_
      have hS1:=hHeld
      clear hK K
      try simp only[Act.put,sb0,sc0,sc1]
      refine tk 10 ?_
      refine tk 11 ?_
      refine rd1 13 fun K hK=>?_
      go_simp
      refine hK.out _ _ (hldG6C hh (Nat.le_refl _) (hldG6C hh (Nat.le_refl _) (hldG6C hh (Nat.le_refl _) hS1))) fun hHeld=>?_
      clear hK K
      try simp only[Act.put,sb0,sc0,sc1]
      refine wpAnyH_done (by kernel_rfl) ?_ _
      go_wp2_with fail
      go_meet
      exact⟨_,rfl,Blk.set_ (Blk.set_ (Blk.set_ hk6 0 (.int .i64 x.id)) 1 (.slice Ax nx cx)) 2 (.string x.owner),hHeld.2.2.2.2.2.2⟩
    case rest=>
     obtain⟨X,rfl⟩:∃X,X=wc:=⟨_,rfl⟩
     obtain⟨Bx,rfl,hPx,hbc⟩:=hcut
     have HG:=Lib.hid (And.intro (HF.out.1.to hbc) (And.intro (HF.out.2.to hbc) hPx))
     have hrX:=HX.out.2.2.on hbc
     have HRX:=Lib.hid hrX
     have KQ:=Lib.hid (atR_any q x.id B B' m d m' d' X HG.out.2.1.two)
     obtain⟨y1,y2,y3⟩:=HG.out.2.1.2.2.2.1.facts
     obtain⟨b1,b2,b3,-⟩:=hPx.facts
     clear hPx hbc kA hP0 hh hrX hfz HF
     go_wp2_with fail
     refine KQ.out.mono ?_
     rintro e w8 ⟨rfl,hb8⟩
     obtain⟨X8,rfl⟩:∃X,X=w8:=⟨_,rfl⟩
     have HY:=Lib.hid (And.intro (HG.out.1.to hb8) (And.intro (HG.out.2.1.to hb8) (HG.out.2.2.on hb8)))
     have hrX:=HRX.out.on hb8
     clear hb8 KQ y1 y2 y3 b1 b2 b3 HG HRX
     rcases atP_cases q.parcels x.id with ⟨ha,-⟩|⟨l,hl,ha,-⟩
     ·have HC:Hid (ch1 p.parcels q.parcels (k+1)=onceL (ch1 p.parcels q.parcels k) x.id):=by
       show(if chgB p.parcels q.parcels k=true then _ else _)=_
       rw[if_pos,HX.out.1]
       unfold chgB
       rw[HX.out.1,ha]
       rfl
      rw[ha]
      clear hrX ha
      go_wp2_with fail
      refine wp_region_held_drew (S:=fun V=>V=X8.drew) (by kernel_rfl) rfl (fun hHeld=>?_)
      refine tk 0 ?_
      refine tk 1 ?_
      refine tk 2 ?_
      refine tu 3 ?_
      refine tu 4 ?_
      refine tu 5 ?_
      refine tu 6 ?_
      refine tu 7 ?_
      refine tu 8 ?_
      refine tu 9 ?_
      refine tu 10 ?_
      refine tk 11 ?_
      refine wpAnyH_done (by kernel_rfl) ?_ _
      obtain⟨X9,hX9⟩:∃X,X=X8.drew:=⟨_,rfl⟩
      have HY:=Lib.hid (And.intro (HY.out.1.to (Below.refl X8.heap.size X8).drew) (And.intro (HY.out.2.1.to (Below.refl X8.heap.size X8).drew) (Blk.drew HY.out.2.2)))
      rw[←hX9]at HY ⊢
      clear hHeld hX9
      obtain⟨Ao',no',co',hso,hno,hown⟩:=HY.out.1
      cases hso
      have hcl:=ch1_len p.parcels q.parcels k
      have KO:=Lib.hid (once_any (ch1 p.parcels q.parcels k) x.id Ao no co (w.heap.size+2) X9 hown HY.out.2.1.2.1 (by omega))
      obtain⟨b1,b2,b3,-⟩:=(show PcK X9 Bx x Ax nx cx from HY.out.2.2).facts
      clear hno hown hcl
      go_wp2_with fail
      refine KO.out.mono ?_
      rintro e w9 ⟨A9,n9,c9,rfl,hn9,ho9,hb9⟩
      have HZ:=Lib.hid (And.intro (show OwI w (ch1 p.parcels q.parcels (k+1)) (.slice A9 n9 c9) w9 from⟨A9,n9,c9,rfl,by rw[HC.out];exact hn9,by rw[HC.out];exact ho9⟩) (HY.out.2.1.on hb9))
      clear hn9 ho9 hb9 KO b1 b2 b3 HY
      go_wp2_with fail
      go_roundw
      case rel=>exact⟨k+1,by omega,by go_num,HZ.out.1,HZ.out.2⟩
      case measure=>simp[intOf];omega
     ·have hlm:l<m':=by rw[←HL.out.2];exact hl
      have hli:¬(l:Int)<0:=by omega
      have hlm':(l:Int)<(m':Int):=by omega
      obtain⟨z1,z2,z3⟩:=HY.out.2.1.2.2.2.1.facts
      obtain⟨b1,b2,b3,b4⟩:=(show PcK X8 Bx x Ax nx cx from HY.out.2.2).facts
      obtain⟨aq,rfl⟩:=HY.out.2.1.two.parcs.some_ (by omega)
      obtain⟨haq,y1,⟨Ay,ny,cy,y2,hry,hyc⟩,y3⟩:=HY.out.2.1.two.parcs.at_ hlm
      obtain⟨y,hy⟩:∃y,y=pcAt q.parcels l:=⟨_,rfl⟩
      rw[←hy]at y1 y3 hry
      obtain⟨bb,hbb⟩:∃b,b=pcEq x y:=⟨_,rfl⟩
      have hch:Hid (chgB p.parcels q.parcels k=!bb):=by
       show _=_
       unfold chgB
       rw[HX.out.1,ha,hbb,hy]
       simp[hli]
      have kS:=fun V (hV:Below X8.heap.size X8 V)=>samePc_any x y Ax Ay nx ny cx cy V (hrX.on hV) (hry.on hV) (by omega) (by omega)
      rw[←hbb]at kS
      have hP0:X8.drew.cell? ⟨Bx,0,none⟩=some (.int .i64 x.id)∧X8.drew.cell? ⟨Bx,1,none⟩=some (.slice Ax nx cx)∧X8.drew.cell? ⟨Bx,2,none⟩=some (.string x.owner)∧X8.drew.cell? ⟨w.heap.size+1,1,none⟩=some (.slice (some aq) m' d')∧X8.drew.cell? (aq.add (l*3))=some (.int .i64 y.id)∧X8.drew.cell? ⟨(aq.add (l*3)).block,(aq.add (l*3)).off+1,none⟩=some (.slice Ay ny cy)∧X8.drew.cell? ⟨(aq.add (l*3)).block,(aq.add (l*3)).off+2,none⟩=some (.string y.owner)∧Below X8.heap.size X8 X8.drew:=⟨b1,b2,b3,z2,y1,y2,y3,(Below.refl _ _).drew⟩
      have hh:(⟨Bx,0,none⟩:Addr).block<X8.heap.size∧(⟨Bx,1,none⟩:Addr).block<X8.heap.size∧(⟨Bx,2,none⟩:Addr).block<X8.heap.size∧(⟨w.heap.size+1,1,none⟩:Addr).block<X8.heap.size∧(aq.add (l*3)).block<X8.heap.size∧(⟨(aq.add (l*3)).block,(aq.add (l*3)).off+1,none⟩:Addr).block<X8.heap.size∧(⟨(aq.add (l*3)).block,(aq.add (l*3)).off+2,none⟩:Addr).block<X8.heap.size:=by simp only[block_of_add];exact⟨b4,b4,b4,z3,haq,haq,haq⟩
      have HH:=Lib.hid (And.intro hch HX.out.1)
      rw[ha]
      clear hrX ha haq y1 y2 y3 hry hyc hy hbb hch hl HX z1
      go_upto_region 7 with fail
      clear z2 z3 b1 b2 b3 b4
      go_cut [47] (fun s wx=>s= .bool (!bb)∧Below X8.heap.size X8 wx)
      case first=>
       refine wp_region_held_drew (S:=fun V=>V.cell? ⟨Bx,0,none⟩=some (.int .i64 x.id)∧V.cell? ⟨Bx,1,none⟩=some (.slice Ax nx cx)∧V.cell? ⟨Bx,2,none⟩=some (.string x.owner)∧V.cell? ⟨w.heap.size+1,1,none⟩=some (.slice (some aq) m' d')∧V.cell? (aq.add (l*3))=some (.int .i64 y.id)∧V.cell? ⟨(aq.add (l*3)).block,(aq.add (l*3)).off+1,none⟩=some (.slice Ay ny cy)∧V.cell? ⟨(aq.add (l*3)).block,(aq.add (l*3)).off+2,none⟩=some (.string y.owner)∧Below X8.heap.size X8 V) (by kernel_rfl) ?_ (fun hHeld=>?_)
       ·exact hP0
       refine tk 0 ?_
       refine tk 1 ?_
       refine tk 2 ?_
       refine tk 3 ?_
       refine tk 4 ?_
       refine tk 5 ?_
       refine tk 6 ?_
       refine tk 7 ?_
       refine tk 8 ?_
       refine rd1 9 fun K hK=>?_
       go_simp
       go_at_call 51
       (with_reducible refine(kS _ hHeld.2.2.2.2.2.2.2).mono ?_)
       rintro e w1 ⟨rfl,hb1⟩
       try dsimp only
       refine hK.out _ _ (hldG7 hh hHeld hb1) fun hHeld=>?_
       clear hK K
       try simp only[Act.put,sb0,sc0,sc1]
       refine tk 10 ?_
       refine tk 11 ?_
       refine wpAnyH_done (by kernel_rfl) ?_ _
       go_wp2_with fail
       go_meet
       exact⟨rfl,hHeld.2.2.2.2.2.2.2⟩
      case rest=>
       obtain⟨X9,rfl⟩:∃X,X=wc:=⟨_,rfl⟩
       obtain⟨rfl,hbc⟩:=hcut
       have HY:=Lib.hid (And.intro (HY.out.1.to hbc) (And.intro (HY.out.2.1.to hbc) (HY.out.2.2.on hbc)))
       clear hbc kS hP0 hh
       cases bb
       ·have HC:Hid (ch1 p.parcels q.parcels (k+1)=onceL (ch1 p.parcels q.parcels k) x.id):=by
         show(if chgB p.parcels q.parcels k=true then _ else _)=_
         rw[HH.out.1.out,HH.out.2]
         rfl
        obtain⟨Ao',no',co',hso,hno,hown⟩:=HY.out.1
        cases hso
        have hcl:=ch1_len p.parcels q.parcels k
        have KO:=Lib.hid (once_any (ch1 p.parcels q.parcels k) x.id Ao no co (w.heap.size+2) X9 hown HY.out.2.1.2.1 (by omega))
        obtain⟨b1,b2,b3,-⟩:=(show PcK X9 Bx x Ax nx cx from HY.out.2.2).facts
        clear hno hown hcl
        go_wp2_with fail
        refine KO.out.mono ?_
        rintro e w9 ⟨A9,n9,c9,rfl,hn9,ho9,hb9⟩
        have HZ:=Lib.hid (And.intro (show OwI w (ch1 p.parcels q.parcels (k+1)) (.slice A9 n9 c9) w9 from⟨A9,n9,c9,rfl,by rw[HC.out];exact hn9,by rw[HC.out];exact ho9⟩) (HY.out.2.1.on hb9))
        clear hn9 ho9 hb9 KO b1 b2 b3 HY
        go_wp2_with fail
        go_roundw
        case rel=>exact⟨k+1,by omega,by go_num,HZ.out.1,HZ.out.2⟩
        case measure=>simp[intOf];omega
       ·have HC:Hid (ch1 p.parcels q.parcels (k+1)=ch1 p.parcels q.parcels k):=by
         show(if chgB p.parcels q.parcels k=true then _ else _)=_
         rw[HH.out.1.out]
         rfl
        go_wp2_with fail
        go_roundw
        case rel=>exact⟨k+1,by omega,by go_num,by rw[HC.out];exact HY.out.1,HY.out.2.1⟩
        case measure=>simp[intOf];omega
   ·obtain rfl:k=n':=by omega
    have HF:=Lib.hid (And.intro ho hF)
    clear ho hF
    go_wp2_with fail
    go_meet
    exact HF.out
 case rest=>
  obtain⟨X0,rfl⟩:∃X,X=wc:=⟨_,rfl⟩
  obtain⟨ho,hF⟩:=hcut
  obtain⟨L1,hL1⟩:∃L,L=ch1 p.parcels q.parcels n':=⟨_,rfl⟩
  rw[←hL1]at ho
  have hl1:L1.length≤n':=by rw[hL1];exact ch1_len _ _ _
  have HT:=Lib.hid (And.intro hl1 (show chL p q=ch2 p.parcels q.parcels L1 m' by unfold chL;rw[HL.out.1,HL.out.2,hL1]))
  have H1:=Lib.hid (And.intro ho hF)
  clear ho hF hL1 hl1 H0
  go_upto_block 2 with fail
  go_cut [5] (fun o wx=>OwI w (chL p q) o wx∧Below w.heap.size w wx)
  case first=>
   go_wp2_with fail
   go_loopw [5,9] (fun o i wr=>∃k:Nat,k≤m'∧i= .int .i64 (k:Int)∧OwI w (ch2 p.parcels q.parcels L1 k) o wr∧CgF p A n c A' n' c' q B m d B' m' d' w wr) (fun _ i _=>m'-(intOf i).toNat)
   case atStart=>exact⟨0,Nat.zero_le _,rfl,H1.out.1,H1.out.2⟩
   case round=>
    obtain⟨k,hk,rfl,ho,hF⟩:=hrel
    obtain⟨W,rfl⟩:∃W,W=wr:=⟨_,rfl⟩
    obtain⟨Ao,no,co,rfl,hno0,hown0⟩:=ho
    have ho:OwI w (ch2 p.parcels q.parcels L1 k) (.slice Ao no co) W:=⟨Ao,no,co,rfl,hno0,hown0⟩
    clear hno0 hown0 H1
    obtain⟨q1,q2,q3⟩:=hF.2.2.1.facts
    obtain⟨z1,z2,z3⟩:=hF.2.2.2.1.facts
    by_cases hlt:k<m'
    ·have hlt':(k:Int)<(m':Int):=by omega
     have hw1:IntKind.i64.wrap ((k:Int)+1)=(k:Int)+1:=by rw[IntKind.wrap_i64];omega
     obtain⟨aq,rfl⟩:=hF.two.parcs.some_ (by omega)
     obtain⟨haq,y1,-,-⟩:=hF.two.parcs.at_ hlt
     obtain⟨id,hid⟩:∃z,z=(pcAt q.parcels k).id:=⟨_,rfl⟩
     rw[←hid]at y1
     have kA:=fun V (hV:Below W.heap.size W V)=>atR_any p id A A' n c n' c' V (hF.to hV).one
     have HX:=Lib.hid hid
     have HF:=Lib.hid (And.intro ho hF)
     have hP0:W.drew.cell? ⟨w.heap.size,0,none⟩=some (.slice A n c)∧W.drew.cell? ⟨w.heap.size,1,none⟩=some (.slice A' n' c')∧W.drew.cell? ⟨w.heap.size+1,1,none⟩=some (.slice (some aq) m' d')∧W.drew.cell? (aq.add (k*3))=some (.int .i64 id)∧Below W.heap.size W W.drew:=⟨q1,q2,z2,y1,(Below.refl _ _).drew⟩
     have hh:(⟨w.heap.size,0,none⟩:Addr).block<W.heap.size∧(⟨w.heap.size,1,none⟩:Addr).block<W.heap.size∧(⟨w.heap.size+1,1,none⟩:Addr).block<W.heap.size∧(aq.add (k*3)).block<W.heap.size:=by simp only[block_of_add];exact⟨q3,q3,z3,haq⟩
     clear ho hF haq y1 hid z1
     go_upto_region 12 with fail
     clear q1 q2 q3 z2 z3
     go_cut [67] (fun s wx=>s= .bool (decide (atP p.parcels id<0))∧Below W.heap.size W wx)
     case first=>
      refine wp_region_held_drew (S:=fun V=>V.cell? ⟨w.heap.size,0,none⟩=some (.slice A n c)∧V.cell? ⟨w.heap.size,1,none⟩=some (.slice A' n' c')∧V.cell? ⟨w.heap.size+1,1,none⟩=some (.slice (some aq) m' d')∧V.cell? (aq.add (k*3))=some (.int .i64 id)∧Below W.heap.size W V) (by kernel_rfl) ?_ (fun hHeld=>?_)
      ·exact hP0
      refine tk 0 ?_
      refine tk 1 ?_
      refine tk 2 ?_
      refine tk 3 ?_
      refine tk 4 ?_
      refine tk 5 ?_
      refine tk 6 ?_
      refine rd1 7 fun K hK=>?_
      go_simp
      go_at_call 50
      (with_reducible refine(kA _ hHeld.2.2.2.2).mono ?_)
      rintro e w1 ⟨rfl,hb1⟩
      try dsimp only
      refine hK.out _ _ (hldG4 hh hHeld hb1) fun hHeld=>?_
      clear hK K
      try simp only[Act.put,sb0,sc0,sc1]
      refine tk 8 ?_
      refine wpAnyH_done (by kernel_rfl) ?_ _
      go_wp2_with fail
      go_meet
      exact⟨rfl,hHeld.2.2.2.2⟩
     case rest=>
      obtain⟨X9,rfl⟩:∃X,X=wc:=⟨_,rfl⟩
      obtain⟨rfl,hbc⟩:=hcut
      have HY:=Lib.hid (And.intro (HF.out.1.to hbc) (HF.out.2.to hbc))
      clear hbc kA hP0 hh HF
      by_cases hneg:atP p.parcels id<0
      ·have HC:Hid (ch2 p.parcels q.parcels L1 (k+1)=onceL (ch2 p.parcels q.parcels L1 k) id):=by
        show(if atP p.parcels (pcAt q.parcels k).id<0 then _ else _)=_
        rw[←HX.out,if_pos hneg]
       have hdt:decide (atP p.parcels id<0)=true:=decide_eq_true hneg
       rw[hdt]
       obtain⟨z1,z2,z3⟩:=HY.out.2.2.2.2.1.facts
       obtain⟨haq,y1,-,-⟩:=HY.out.2.two.parcs.at_ hlt
       rw[←HX.out]at y1
       obtain⟨Ao',no',co',hso,hno,hown⟩:=HY.out.1
       cases hso
       have hcl:=ch2_len p.parcels q.parcels L1 k
       have KO:=Lib.hid (once_any (ch2 p.parcels q.parcels L1 k) id Ao no co (w.heap.size+2) X9 hown HY.out.2.2.1 (by have:=HT.out.1;omega))
       clear hno hown hcl hneg hdt haq
       go_wp2_with fail
       refine KO.out.mono ?_
       rintro e w9 ⟨A9,n9,c9,rfl,hn9,ho9,hb9⟩
       have HZ:=Lib.hid (And.intro (show OwI w (ch2 p.parcels q.parcels L1 (k+1)) (.slice A9 n9 c9) w9 from⟨A9,n9,c9,rfl,by rw[HC.out];exact hn9,by rw[HC.out];exact ho9⟩) (HY.out.2.on hb9))
       clear hn9 ho9 hb9 KO z1 z2 z3 y1 HY
       go_wp2_with fail
       go_roundw
       case rel=>exact⟨k+1,by omega,by go_num,HZ.out.1,HZ.out.2⟩
       case measure=>simp[intOf];omega
      ·have HC:Hid (ch2 p.parcels q.parcels L1 (k+1)=ch2 p.parcels q.parcels L1 k):=by
        show(if atP p.parcels (pcAt q.parcels k).id<0 then _ else _)=_
        rw[←HX.out,if_neg hneg]
       have hdt:decide (atP p.parcels id<0)=false:=decide_eq_false hneg
       rw[hdt]
       clear hneg hdt
       go_wp2_with fail
       go_roundw
       case rel=>exact⟨k+1,by omega,by go_num,by rw[HC.out];exact HY.out.1,HY.out.2⟩
       case measure=>simp[intOf];omega
    ·obtain rfl:k=m':=by omega
     have HF:=Lib.hid (And.intro (show OwI w (chL p q) (.slice Ao no co) W by rw[HT.out.2];exact ho) hF.1)
     clear ho hF z1
     go_wp2_with fail
     go_meet
     exact HF.out
  case rest=>
   obtain⟨X1,rfl⟩:∃X,X=wc:=⟨_,rfl⟩
   obtain⟨⟨Ao,N,co,rfl,hN,hown⟩,hb1⟩:=hcut
   have hcl:=ch2_len p.parcels q.parcels L1 m'
   have hN4:N≤4194304:=by rw[hN,HT.out.2];have:=HT.out.1;omega
   obtain⟨L0,hL0⟩:∃L,L=chL p q:=⟨_,rfl⟩
   rw[←hL0]at hown hN
   have HQ:=Lib.hid hL0
   have H2:=Lib.hid (show SrtW w L0 Ao N co (fun L=>SrtP L 0) X1 from⟨L0,List.Perm.refl _,hN.symm,(fun a b _ h=>absurd h (Nat.not_lt_zero _)),hown,hb1⟩)
   clear hcl hN hL0 HT H1 hb1 hown HL
   go_wp2_with fail
   go_loopw [10] (fun i wr=>∃k:Nat,k≤N∧i= .int .i64 (k:Int)∧SrtW w L0 Ao N co (fun L=>SrtP L k) wr) (fun i _=>N-(intOf i).toNat)
   case atStart=>exact⟨0,Nat.zero_le _,rfl,H2.out⟩
   case round=>
    obtain⟨k,hk,rfl,hS⟩:=hrel
    obtain⟨W,rfl⟩:∃W,W=wr:=⟨_,rfl⟩
    clear H2
    by_cases hlt:k<N
    ·have hlt':(k:Int)<(N:Int):=by omega
     have hw1:IntKind.i64.wrap ((k:Int)+1)=(k:Int)+1:=by rw[IntKind.wrap_i64];omega
     have HS:=Lib.hid hS
     clear hS
     go_wp2_with fail
     go_loopw [11] (fun j wr=>∃jj:Nat,jj≤k∧j= .int .i64 (jj:Int)∧SrtW w L0 Ao N co (fun L=>SrtJ L k jj) wr) (fun j _=>(intOf j).toNat)
     case atStart=>
      obtain⟨L,h1,h2,h3,h4,h5⟩:=HS.out
      exact⟨k,Nat.le_refl _,rfl,L,h1,h2,srt_start h3,h4,h5⟩
     case round=>
      obtain⟨jj,hjk,rfl,hS⟩:=hrel
      obtain⟨V,rfl⟩:∃X,X=wr:=⟨_,rfl⟩
      obtain⟨L,hp,hl,hs,hown,hb⟩:=hS
      clear HS
      rcases Nat.eq_zero_or_pos jj with hj0|hj0
      ·have HE:=Lib.hid (show SrtW w L0 Ao N co (fun L=>SrtP L (k+1)) V.drew from⟨L,hp,hl,srt_end hjk hs (.inl hj0),own_below hown (Below.refl V.heap.size V).drew,hb.trans ((Below.refl V.heap.size V).drew.mono hb.size)⟩)
       have hj1:((jj:Nat):Int)=0:=by omega
       rw[hj1]
       clear hp hs hown hb hj1
       go_upto_region 18 with fail
       refine wp_region_held_drew (S:=fun U=>U=V.drew) (by kernel_rfl) rfl (fun hHeld=>?_)
       refine tk 0 ?_
       refine tk 1 ?_
       refine tk 2 ?_
       refine tu 3 ?_
       refine tu 4 ?_
       refine tu 5 ?_
       refine tu 6 ?_
       refine tu 7 ?_
       refine tu 8 ?_
       refine tu 9 ?_
       refine tu 10 ?_
       refine tu 11 ?_
       refine tu 12 ?_
       refine tk 13 ?_
       refine wpAnyH_done (by kernel_rfl) ?_ _
       obtain⟨X9,hX9⟩:∃X,X=V.drew:=⟨_,rfl⟩
       rw[←hX9]at HE ⊢
       clear hHeld hX9
       go_wp2_with fail
       go_roundw
       case rel=>exact⟨k+1,by omega,by go_num,HE.out⟩
       case measure=>simp[intOf];omega
      ·obtain⟨i,hij⟩:∃i,i+1=jj:=⟨jj-1,by omega⟩
       have hjL:jj<L.length:=by omega
       have hiL:i<L.length:=by omega
       have hj1:(0:Int)<(jj:Int):=by omega
       have hjn:(jj:Int)<(N:Int):=by omega
       have hin:(i:Int)<(N:Int):=by omega
       have hw2:IntKind.i64.wrap ((jj:Int)-1)=(i:Int):=by rw[IntKind.wrap_i64];omega
       have hix:jj-1=i:=by omega
       obtain⟨g,cap,hv,-,hlt2⟩:=hown.form (by omega)
       have hA:Ao=some ⟨g,0,none⟩:=by injection hv
       subst hA
       obtain⟨x1,hx1⟩:∃x,x=L.getD i 0:=⟨_,rfl⟩
       obtain⟨x2,hx2⟩:∃x,x=L.getD jj 0:=⟨_,rfl⟩
       have hc:=hown.cells (g:=g) rfl
       have p1:V.cell? ⟨g,i,none⟩=some (.int .i64 x1):=at_g (hc _ _ (by unfold intsV;rw[hx1,List.getElem?_map,List.getD_eq_getElem?_getD,List.getElem?_eq_getElem hiL];rfl))
       have p2:V.cell? ⟨g,jj,none⟩=some (.int .i64 x2):=at_g (hc _ _ (by unfold intsV;rw[hx2,List.getElem?_map,List.getD_eq_getElem?_getD,List.getElem?_eq_getElem hjL];rfl))
       have HA:=Lib.hid (And.intro hx1 (And.intro hx2 (And.intro hix (And.intro hj0 (And.intro hjL hiL)))))
       by_cases hgt:x2<x1
       ·have HE:=Lib.hid (And.intro hp (And.intro hl (And.intro (show SrtJ (swI L jj) k i by rw[←hix];exact srt_swap hj0 (by omega) hjk hs (by rw[hix,←hx1,←hx2];exact hgt)) (And.intro hown (And.intro hb hlt2)))))
        clear hp hs hb hc hx1 hx2 hix hjL hiL hv hlt2
        go_upto_region 18 with fail
        refine wp_region_held_drew (S:=fun U=>U.cell? ⟨g,i,none⟩=some (.int .i64 x1)∧U.cell? ⟨g,jj,none⟩=some (.int .i64 x2)∧U=V.drew) (by kernel_rfl) ⟨p1,p2,rfl⟩ (fun hHeld=>?_)
        refine tk 0 ?_
        refine tk 1 ?_
        refine tk 2 ?_
        refine tk 3 ?_
        refine tk 4 ?_
        refine tk 5 ?_
        refine tk 6 ?_
        refine tk 7 ?_
        refine tk 8 ?_
        refine tk 9 ?_
        refine tk 10 ?_
        refine tk 11 ?_
        refine tk 12 ?_
        refine tk 13 ?_
        refine wpAnyH_done (by kernel_rfl) ?_ _
        obtain⟨X9,hX9⟩:∃X,X=V.drew:=⟨_,rfl⟩
        have r1:X9.cell? ⟨g,i,none⟩=some (.int .i64 x1):=by rw[hX9];exact p1
        have r2:X9.cell? ⟨g,jj,none⟩=some (.int .i64 x2):=by rw[hX9];exact p2
        have r3:∀j,X9.frozen? ⟨g,j,none⟩=false:=fun j=>by rw[hX9];exact hown.frozenAt j
        have HX:=Lib.hid hX9
        rw[←hX9]
        have hne:¬i=jj:=by omega
        clear hHeld hX9 p1 p2 hown
        go_upto_region 22 with fail
        obtain⟨Y,hY⟩:∃Y,Y=X9.setCell ⟨g,jj,none⟩ (.int .i64 x1):=⟨_,rfl⟩
        rw[←hY]
        have t1:Y.cell? ⟨g,i,none⟩=some (.int .i64 x1):=by rw[hY,World.cell?_setCell_other _ _ _ _ (fun e=>hne (by have:=congrArg Addr.off e;simp at this;exact this.symm))];exact r1
        have t3:∀j,Y.frozen? ⟨g,j,none⟩=false:=fun j=>by rw[hY,World.frozen?_setCell];exact r3 j
        have HYd:=Lib.hid hY
        clear r1 r2 r3 hY
        go_upto_region 19 with fail
        obtain⟨Z,hZ⟩:∃Z,Z=Y.setCell ⟨g,i,none⟩ (.int .i64 x2):=⟨_,rfl⟩
        rw[←hZ]
        have HE:=Lib.hid (show SrtW w L0 (some ⟨g,0,none⟩) N co (fun L=>SrtJ L k i) Z from swap_w HE.out HA.out (by rw[hZ,HYd.out,HX.out]))
        clear t1 t3 hZ
        go_wp2_with fail
        go_roundw
        case rel=>exact⟨i,by omega,by go_num,HE.out⟩
        case measure=>simp[intOf];omega
       ·have HE:=Lib.hid (show SrtW w L0 (some ⟨g,0,none⟩) N co (fun L=>SrtP L (k+1)) V.drew from⟨L,hp,hl,srt_end hjk hs (.inr (by rw[hix,←hx1,←hx2];omega)),own_below hown (Below.refl V.heap.size V).drew,hb.trans ((Below.refl V.heap.size V).drew.mono hb.size)⟩)
        clear hp hs hown hb hc hx1 hx2 hix hjL hiL hv hlt2
        go_upto_region 18 with fail
        refine wp_region_held_drew (S:=fun U=>U.cell? ⟨g,i,none⟩=some (.int .i64 x1)∧U.cell? ⟨g,jj,none⟩=some (.int .i64 x2)∧U=V.drew) (by kernel_rfl) ⟨p1,p2,rfl⟩ (fun hHeld=>?_)
        refine tk 0 ?_
        refine tk 1 ?_
        refine tk 2 ?_
        refine tk 3 ?_
        refine tk 4 ?_
        refine tk 5 ?_
        refine tk 6 ?_
        refine tk 7 ?_
        refine tk 8 ?_
        refine tk 9 ?_
        refine tk 10 ?_
        refine tk 11 ?_
        refine tk 12 ?_
        refine tk 13 ?_
        refine wpAnyH_done (by kernel_rfl) ?_ _
        obtain⟨X9,hX9⟩:∃X,X=V.drew:=⟨_,rfl⟩
        rw[←hX9]at HE ⊢
        clear hHeld hX9 p1 p2
        go_wp2_with fail
        go_roundw
        case rel=>exact⟨k+1,by omega,by go_num,HE.out⟩
        case measure=>simp[intOf];omega
    ·obtain rfl:k=N:=by omega
     obtain⟨L,hp,hl,hs,hown,hb⟩:=hS
     have HE:=Lib.hid (And.intro (show OwI w L (.slice Ao k co) W from⟨Ao,k,co,rfl,hl.symm,hown⟩) (And.intro (show L.Perm (chL p q) by rw[←HQ.out];exact hp) (And.intro (srt_pair (by rw[hl];exact hs)) hb)))
     clear hp hs hown hb
     go_wp2_with fail
     go_ret
     exact⟨_,L,rfl,HE.out⟩
end Go.Proofs.YtpkeacnacjnlcaaGreat
