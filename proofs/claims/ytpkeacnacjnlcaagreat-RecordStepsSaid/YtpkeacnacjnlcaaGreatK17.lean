/- ref05.SameParcel and ref05.Same: the walks. -/
import Derived.Test.YtpkeacnacjnlcaaGreatK14
namespace Go.Proofs.YtpkeacnacjnlcaaGreat
open Go.RowKit
open Classical in
noncomputable def pcEq (x y:Parc):Bool:=decide (x=y)
theorem pcEq_iff {x y:Parc}:pcEq x y=true↔x=y:=by unfold pcEq;simp
theorem pcEq_self (x:Parc):pcEq x x=true:=pcEq_iff.2 rfl
theorem pcEq_parts (x y:Parc):pcEq x y=(decide (x.id=y.id)&&(decide (x.owner=y.owner)&&decide (x.ring=y.ring))):=by
 obtain⟨i,r,s⟩:=x
 obtain⟨i',r',s'⟩:=y
 rw[Bool.eq_iff_iff,pcEq_iff]
 simp
 exact fun _=>And.comm
abbrev pcVal (x:Parc) (A:Option Addr) (n c:Nat):Value:= .agg #[.int .i64 x.id,.slice A n c,.string x.owner]
set_option maxRecDepth 100000 in
set_option maxHeartbeats 800000 in
theorem samePc_any (x y:Parc) (A B:Option Addr) (n m ca cb:Nat) (w:World) (hr:Reads w w.heap.size 2 A n (ptsV x.ring)) (hs:Reads w w.heap.size 2 B m (ptsV y.ring)) (hn:n≤9223372036854775807) (hm:m≤9223372036854775807):
 Calls Tryz.prog 51 #[pcVal x A n ca,pcVal y B m cb] w fun e w'=>e= .returned (.bool (pcEq x y))∧Below w.heap.size w w':=by
 rw[pcEq_parts]
 obtain⟨wa,hwa⟩:∃wa:World,wa=(w.alloc (.cells #[.int .i64 x.id,.slice A n ca,.string x.owner] 27)).alloc (.cells #[.int .i64 y.id,.slice B m cb,.string y.owner] 27):=⟨_,rfl⟩
 have hB0:Below w.heap.size w wa:=by rw[hwa];exact((Below.refl _ _).alloc (Nat.le_refl _) _).alloc (by simp) _
 have hX:PcK wa w.heap.size x A n ca:=by rw[hwa];exact Blk.alloc (PcK.new w x A n ca) _
 have hY:PcK wa (w.heap.size+1) y B m cb:=by
  rw[hwa]
  have:=PcK.new (w.alloc (.cells #[.int .i64 x.id,.slice A n ca,.string x.owner] 27)) y B m cb
  rw[World.size_alloc]at this
  exact this
 obtain⟨q1,q2,q3,-⟩:=hX.facts
 obtain⟨r1,r2,r3,-⟩:=hY.facts
 have kS:=Lib.hid (sameR_any x.ring y.ring A B n m ca cb wa (hr.on hB0) (hs.on hB0) hn hm)
 have HB:=Lib.hid hB0
 clear hX hY hr hs hB0
 obtain⟨i1,xs,s1⟩:=x
 obtain⟨i2,ys,s2⟩:=y
 dsimp only[pcVal]at *
 generalize decide (xs=ys)=b3 at *
 go_enter Tryz.func51,Tryz.ntmps51
 go_upto_region 1 with fail
 rw[←hwa]
 clear hwa
 by_cases h1:i1=i2
 ·subst h1
  by_cases h2:s1=s2
  ·subst h2
   go_wp2_with fail
   refine kS.out.mono ?_
   rintro e w1 ⟨rfl,hb⟩
   have HB1:=Lib.hid (below_on HB.out (Nat.le_refl _) hb)
   clear hb HB kS
   go_wp2_with fail
   go_ret
   exact⟨by simp,HB1.out⟩
  ·clear kS
   have h2':¬s1.toList=s2.toList:=fun h=>h2 (by rw[ByteArray.toList_eq,ByteArray.toList_eq]at h;exact Go.WideShapes.bytes_inj h)
   go_wp2_with fail
   go_ret
   exact⟨by simp,HB.out⟩
 ·have h1':(i1==i2)=false:=by simpa using h1
  clear kS
  go_wp2_with fail
  go_ret
  exact⟨by simp[h1],HB.out⟩
open Classical in
noncomputable def plEq (p q:Plan):Bool:=decide (p=q)
theorem plEq_iff {p q:Plan}:plEq p q=true↔p=q:=by unfold plEq;simp
theorem plEq_self (p:Plan):plEq p p=true:=plEq_iff.2 rfl
theorem plEq_no {p q:Plan} {k:Nat} (h:pcEq (pcAt p.parcels k) (pcAt q.parcels k)=false):plEq p q=false:=by
 rw[Bool.eq_false_iff]
 intro he
 rw[plEq_iff.1 he,pcEq_self]at h
 cases h
theorem plEq_end {p q:Plan} {k:Nat} (h1:k≤p.parcels.length) (h2:k≤q.parcels.length) (h3:k=p.parcels.length∨k=q.parcels.length) (h:p.parcels.take k=q.parcels.take k):plEq p q=(decide (p.parcels.length=q.parcels.length)&&decide (p.outer=q.outer)):=by
 obtain⟨o,l⟩:=p
 obtain⟨o',l'⟩:=q
 simp only at *
 rw[Bool.eq_iff_iff,plEq_iff]
 simp only[Bool.and_eq_true,decide_eq_true_eq,Plan.mk.injEq]
 constructor
 ·rintro⟨rfl,rfl⟩;exact⟨rfl,rfl⟩
 ·rintro⟨e,rfl⟩
  rw[List.take_of_length_le (by omega),List.take_of_length_le (by omega)]at h
  exact⟨rfl,h⟩
theorem take_next {l l':List Parc} {k:Nat} (h1:k<l.length) (h2:k<l'.length) (h:l.take k=l'.take k) (he:pcEq (pcAt l k) (pcAt l' k)=true):l.take (k+1)=l'.take (k+1):=by
 rw[List.take_succ_eq_append_getElem h1,List.take_succ_eq_append_getElem h2,h,←pcAt_lt h1,←pcAt_lt h2,pcEq_iff.1 he]
abbrev HoldSP (W V:World) (b1 b2:Nat) (a1 a2:Addr) (v1 v2 v3 v4 v5 v6 v7 v8:Value):Prop:=V.cell? ⟨b1,1,none⟩=some v1∧V.cell? ⟨b2,1,none⟩=some v2∧V.cell? a1=some v3∧V.cell? ⟨a1.block,a1.off+1,none⟩=some v4∧V.cell? ⟨a1.block,a1.off+2,none⟩=some v5∧V.cell? a2=some v6∧V.cell? ⟨a2.block,a2.off+1,none⟩=some v7∧V.cell? ⟨a2.block,a2.off+2,none⟩=some v8∧Below W.heap.size W V
theorem heldSP {W V V':World} {b1 b2:Nat} {a1 a2:Addr} {v1 v2 v3 v4 v5 v6 v7 v8:Value} (hh:b1<W.heap.size∧b2<W.heap.size∧a1.block<W.heap.size∧a2.block<W.heap.size) (hs:V.cell? ⟨b1,1,none⟩=some v1∧V.cell? ⟨b2,1,none⟩=some v2∧V.cell? a1=some v3∧V.cell? ⟨a1.block,a1.off+1,none⟩=some v4∧V.cell? ⟨a1.block,a1.off+2,none⟩=some v5∧V.cell? a2=some v6∧V.cell? ⟨a2.block,a2.off+1,none⟩=some v7∧V.cell? ⟨a2.block,a2.off+2,none⟩=some v8∧Below W.heap.size W V) (hb:Below V.heap.size V V'):
 V'.cell? ⟨b1,1,none⟩=some v1∧V'.cell? ⟨b2,1,none⟩=some v2∧V'.cell? a1=some v3∧V'.cell? ⟨a1.block,a1.off+1,none⟩=some v4∧V'.cell? ⟨a1.block,a1.off+2,none⟩=some v5∧V'.cell? a2=some v6∧V'.cell? ⟨a2.block,a2.off+1,none⟩=some v7∧V'.cell? ⟨a2.block,a2.off+2,none⟩=some v8∧Below W.heap.size W V':=by
 obtain⟨h1,h2,h3,h4⟩:=hh
 obtain⟨c1,c2,c3,c4,c5,c6,c7,c8,c9⟩:=hs
 have:=c9.size
 have k:∀ {a:Addr} {v:Value},a.block<W.heap.size→V.cell? a=some v→V'.cell? a=some v:=fun {a v} ha hv=>(hb.cell (p:=a) (by omega)).trans hv
 exact⟨k h1 c1,k h2 c2,k h3 c3,k h3 c4,k h3 c5,k h4 c6,k h4 c7,k h4 c8,below_on c9 (Nat.le_refl _) hb⟩
set_option maxRecDepth 100000 in
set_option maxHeartbeats 1600000 in
theorem samePl_any (p q:Plan) (A A' B B':Option Addr) (n c n' c' m d m' d':Nat) (w:World) (hp:PlanAt w w.heap.size A n c A' n' c' p) (hq:PlanAt w w.heap.size B m d B' m' d' q):
 Calls Tryz.prog 27 #[planV A n c A' n' c',planV B m d B' m' d'] w fun e w'=>e= .returned (.bool (plEq p q))∧Below w.heap.size w w':=by
 obtain⟨hl1,hl2,hl3,hl4⟩:=hp.lens
 obtain⟨hm1,hm2,hm3,hm4⟩:=hq.lens
 obtain⟨wa,hwa⟩:∃wa:World,wa=(w.alloc (.cells #[.slice A n c,.slice A' n' c'] 30)).alloc (.cells #[.slice B m d,.slice B' m' d'] 30):=⟨_,rfl⟩
 have hB0:Below w.heap.size w wa:=by rw[hwa];exact((Below.refl _ _).alloc (Nat.le_refl _) _).alloc (by simp) _
 have hX:PlK wa w.heap.size A n c A' n' c':=by rw[hwa];exact Blk.alloc (PlK.new w A n c A' n' c') _
 have hY:PlK wa (w.heap.size+1) B m d B' m' d':=by
  rw[hwa]
  have:=PlK.new (w.alloc (.cells #[.slice A n c,.slice A' n' c'] 30)) B m d B' m' d'
  rw[World.size_alloc]at this
  exact this
 have HP:=Lib.hid (And.intro hp hq)
 have HL:=Lib.hid (And.intro hl2 hm2)
 have HL1:=Lib.hid (And.intro (And.intro hl1 hm1) (And.intro hl3 hm3))
 have H0:=Lib.hid (And.intro hB0 (And.intro hX hY))
 clear hX hY hp hq hB0 hl1 hl2 hl3 hm1 hm2 hm3
 go_enter Tryz.func27,Tryz.ntmps27
 go_upto_region 1 with fail
 rw[←hwa]
 clear hwa
 go_wp2_with fail
 go_loopw [5] (fun i wr=>∃k:Nat,k≤n'∧k≤m'∧Hid (p.parcels.take k=q.parcels.take k)∧i= .int .i64 (k:Int)∧Hid (Below w.heap.size w wr∧PlK wr w.heap.size A n c A' n' c'∧PlK wr (w.heap.size+1) B m d B' m' d')) (fun i _=>n'-(intOf i).toNat)
 case atStart=>exact⟨0,Nat.zero_le _,Nat.zero_le _,rfl,rfl,H0⟩
 case round=>
  clear H0
  obtain⟨k,hk,hkm,hg,rfl,HW⟩:=hrel
  obtain⟨q1,q2,q3⟩:=HW.out.2.1.facts
  obtain⟨r1,r2,r3⟩:=HW.out.2.2.facts
  by_cases hlt:k<n'
  ·have hlt':(k:Int)<(n':Int):=by omega
   by_cases hlt2:k<m'
   ·have hlt2':(k:Int)<(m':Int):=by omega
    have hw1:IntKind.i64.wrap ((k:Int)+1)=(k:Int)+1:=by rw[IntKind.wrap_i64];omega
    obtain⟨ad,rfl⟩:=HP.out.1.parcs.some_ (by omega)
    obtain⟨bd,rfl⟩:=HP.out.2.parcs.some_ (by omega)
    obtain⟨hb1,p1,⟨Ak,nk,ck,p2,hrk,hk1,hk2⟩,p3⟩:=(HP.out.1.parcs.below HW.out.1).at_ hlt
    obtain⟨hb2,p4,⟨Bk,mk,dk,p5,hsk,hk3,hk4⟩,p6⟩:=(HP.out.2.parcs.below HW.out.1).at_ hlt2
    have hsz:=HW.out.1.size
    have hh:w.heap.size<wr.heap.size∧w.heap.size+1<wr.heap.size∧(ad.add (k*3)).block<wr.heap.size∧(bd.add (k*3)).block<wr.heap.size:=by
     simp only[block_of_add]
     exact⟨q3,r3,by omega,by omega⟩
    have kF:=samePc_any (pcAt p.parcels k) (pcAt q.parcels k) Ak Bk nk mk ck dk wr.drew ((hrk.more hsz).drewN _) ((hsk.more hsz).drewN _) (by omega) (by omega)
    have HNX:=Lib.hid (take_next (l:=p.parcels) (l':=q.parcels) (k:=k) (by have:=HL.out;omega) (by have:=HL.out;omega) hg.out)
    have HNO:=Lib.hid (plEq_no (p:=p) (q:=q) (k:=k))
    generalize pcAt p.parcels k=x at *
    generalize pcAt q.parcels k=y at *
    have hP0:HoldSP wr wr.drew w.heap.size (w.heap.size+1) (ad.add (k*3)) (bd.add (k*3)) (.slice (some ad) n' c') (.slice (some bd) m' d') (.int .i64 x.id) (.slice Ak nk ck) (.string x.owner) (.int .i64 y.id) (.slice Bk mk dk) (.string y.owner):=⟨q2,r2,p1,p2,p3,p4,p5,p6,(Below.refl _ _).drew⟩
    have HPQ:=Lib.hid (And.intro q2 r2)
    clear hrk hsk p1 p2 p3 p4 p5 p6 hsz hb1 hb2 hk1 hk2 hk3 hk4 q1 r1 q3 r3
    generalize pcEq x y=b at *
    rcases b with _|_
    all_goals
     go_upto_region 4 with fail
     clear q2 r2
     go_region_held3 (fun V=>V.cell? ⟨w.heap.size,1,none⟩=some (.slice (some ad) n' c')∧V.cell? ⟨w.heap.size+1,1,none⟩=some (.slice (some bd) m' d')∧V.cell? (ad.add (k*3))=some (.int .i64 x.id)∧V.cell? ⟨(ad.add (k*3)).block,(ad.add (k*3)).off+1,none⟩=some (.slice Ak nk ck)∧V.cell? ⟨(ad.add (k*3)).block,(ad.add (k*3)).off+2,none⟩=some (.string x.owner)∧V.cell? (bd.add (k*3))=some (.int .i64 y.id)∧V.cell? ⟨(bd.add (k*3)).block,(bd.add (k*3)).off+1,none⟩=some (.slice Bk mk dk)∧V.cell? ⟨(bd.add (k*3)).block,(bd.add (k*3)).off+2,none⟩=some (.string y.owner)∧Below wr.heap.size wr V)
      (first|with_reducible exact hP0|with_reducible exact heldSP hh (by assumption) (by assumption))
      (first
        |(go_simp;go_at_call 51;(with_reducible refine kF.mono ?_);rintro e w' ⟨rfl,hb'⟩;try dsimp only))
     clear hP0
     obtain⟨-,-,-,-,-,-,-,-,hbV⟩:=(by assumption:HoldSP wr _ w.heap.size (w.heap.size+1) (ad.add (k*3)) (bd.add (k*3)) (.slice (some ad) n' c') (.slice (some bd) m' d') (.int .i64 x.id) (.slice Ak nk ck) (.string x.owner) (.int .i64 y.id) (.slice Bk mk dk) (.string y.owner))
     have HV:=Lib.hid (And.intro (below_on HW.out.1 (Nat.le_refl _) hbV) (And.intro (HW.out.2.1.on hbV) (HW.out.2.2.on hbV)))
     clear hbV HW
     go_wp2_with fail
    ·go_ret
     exact⟨by rw[HNO.out (by simp)];rfl,HV.out.1⟩
    ·go_roundw
     case rel=>exact⟨k+1,by omega,by omega,HNX.out (by simp),by go_num,HV⟩
     case measure=>simp[intOf];omega
   ·have hlt2':¬(k:Int)<(m':Int):=by omega
    have hne:¬n'=m':=by omega
    have hne':((n':Int)==(m':Int))=false:=by simp;omega
    have HE:=Lib.hid (plEq_end (p:=p) (q:=q) (k:=k) (by have:=HL.out;omega) (by have:=HL.out;omega) (.inr (by have:=HL.out;omega)) hg.out)
    go_wp2_with fail
    go_ret
    exact⟨by rw[HE.out,HL.out.1,HL.out.2];simp[hne],HW.out.1⟩
  ·have hkn:k=n':=by omega
   subst hkn
   have HE:=Lib.hid (plEq_end (p:=p) (q:=q) (k:=k) (by have:=HL.out;omega) (by have:=HL.out;omega) (.inl (by have:=HL.out;omega)) hg.out)
   by_cases hkm':k=m'
   ·subst hkm'
    have kS:=Lib.hid (sameR_any p.outer q.outer A B n m c d wr ((HP.out.1.outer.below HW.out.1).more HW.out.1.size) ((HP.out.2.outer.below HW.out.1).more HW.out.1.size) (by have:=HL1.out.2;omega) (by have:=HL1.out.2;omega))
    go_wp2_with fail
    refine kS.out.mono ?_
    rintro e w1 ⟨rfl,hb⟩
    have HV:=Lib.hid (below_on HW.out.1 (Nat.le_refl _) hb)
    clear hb HW kS q1 q2 r1 r2
    go_wp2_with fail
    go_ret
    exact⟨by rw[HE.out,HL.out.1,HL.out.2];simp,HV.out⟩
   ·have hkm2:((k:Int)==(m':Int))=false:=by simp;omega
    go_wp2_with fail
    go_ret
    exact⟨by rw[HE.out,HL.out.1,HL.out.2];simp[hkm'],HW.out.1⟩
end Go.Proofs.YtpkeacnacjnlcaaGreat
