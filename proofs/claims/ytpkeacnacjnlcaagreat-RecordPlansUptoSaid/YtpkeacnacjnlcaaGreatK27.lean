/- record.Plan: the walk; Rows of items: one put at a place, parts of them, how long a plan's items are together: frames. -/
import Derived.Test.YtpkeacnacjnlcaaGreatK01
import Derived.Test.YtpkeacnacjnlcaaGreatK03
import Derived.Test.YtpkeacnacjnlcaaGreatK06
import Derived.Test.YtpkeacnacjnlcaaGreatK08
import Derived.Test.YtpkeacnacjnlcaaGreatK19
import Derived.Test.YtpkeacnacjnlcaaGreatK23
import Derived.Test.YtpkeacnacjnlcaaGreatK24
import Derived.Test.YtpkeacnacjnlcaaGreatK25
namespace Go.Proofs.YtpkeacnacjnlcaaGreat
open Go.RowKit Go.Lib
theorem plan_read {L:List It} {q:Plan} (hs:(L.map (·.k)).Pairwise fun a b=>¬ltK b a) (hq:planB q=true) (hp:L.Perm (planIts q)):Rising (L.map (·.k))∧readP L=q:=by
 have ok:=recOK_sound (planB_sound hq)
 have hr:Rising (L.map (·.k)):=rising_of hs (((hp.map (·.k)).nodup_iff).2 (planIts_nodup ok))
 exact⟨hr,read_sorted ok hp hr⟩
/-- What Plan answers of items. -/
def PlanPostR (L:List It) (w:World) (e:Ending) (w':World):Prop:=
 Below w.heap.size w w'∧((∃p A n c A' n' c' hs,planB p=true∧L.Perm (planIts p)∧e= .returned (.tuple #[planV A n c A' n' c',.int .i64 0])∧PlanOwn w.heap.size w' A n c A' n' c' p hs)∨
  ((∀p,planB p=true→¬L.Perm (planIts p))∧e= .returned (.tuple #[planV none 0 0 none 0 0,.int .i64 2])))
/-- What the call holds of the items while it reads them. -/
structure RH (d d':List ItH) (w X:World) (ag:Addr) (n c:Nat):Prop where
 perm:d'.Perm d
 sort:d'.Pairwise fun e f=>¬ltK f.1.k e.1.k
 its:ItsAt X X.heap.size (some ag) n c d'
 bel:Below w.heap.size w X
 res:PlK X w.heap.size none 0 0 none 0 0
 addr:∀e∈d',(∀a,e.2.1.1=some a→a.block<w.heap.size)∧∀a,e.2.2.1=some a→a.block<w.heap.size
 size:szL (d'.map (·.1))≤1048576
 len:d'.length=n
 few:1≤n∧n≤65536
/-- One item. -/
structure RI (X:World) (x:It) (K:Option Addr) (kn kc:Nat) (V:Option Addr) (vn vc:Nat):Prop where
 key:RdB X X.heap.size (K,kn,kc) x.k
 val:RdB X X.heap.size (V,vn,vc) x.v
 adv:∀a,V=some a→a.block<X.heap.size
 kl:x.k.length=kn
 vl:x.v.length=vn
 few:vn≤1048576
set_option maxRecDepth 100000 in
set_option maxHeartbeats 6400000 in
theorem planR_any (d:List ItH) (A:Option Addr) (n cap:Nat) (w:World) (h:ItsAt w w.heap.size A n cap d) (h1:1≤n) (hn:n≤65536)
 (hka:∀e∈d,(∀a,e.2.1.1=some a→a.block<w.heap.size)∧∀a,e.2.2.1=some a→a.block<w.heap.size) (hT:szL (d.map (·.1))≤1048576):
 Calls Tryz.prog 26 #[.slice A n cap] w (PlanPostR (d.map (·.1)) w):=by
 obtain⟨w0,hw0⟩:∃W,W=w.alloc (.cells #[.slice none 0 0,.slice none 0 0] 30):=⟨_,rfl⟩
 have hb0:Below w.heap.size w w0:=by rw[hw0];exact(Below.refl _ _).alloc (Nat.le_refl _) _
 have hk0:PlK w0 w.heap.size none 0 0 none 0 0:=by rw[hw0];exact PlK.new w none 0 0 none 0 0
 have KV:=Lib.hid (valuesI_any A n cap w0)
 have H0:=Lib.hid (And.intro (h.on hb0) (And.intro hka (And.intro hT (And.intro hb0 (And.intro hk0 h.len)))))
 clear h hka hT hb0 hk0
 go_enter Tryz.func26,Tryz.ntmps26
 go_upto_region 1 with fail
 rw[←hw0]
 clear hw0
 go_wp2_with fail
 refine KV.out.mono ?_
 rintro e w1 ⟨rfl,hw1⟩
 have hb1:Below w0.heap.size w0 w1:=by rw[hw1];exact(Below.refl _ _).alloc (Nat.le_refl _) _
 have hs1:w1.heap.size=w0.heap.size+1:=by rw[hw1,World.size_alloc]
 have hc1:w1.cell? ⟨w0.heap.size,0,none⟩=some (.slice A n cap):=by
  have hB:Blk w1 w0.heap.size 43 #[.slice A n cap]:=by rw[hw1];exact Blk.new w0 _ _
  have:=Blk.cell (i:=0) hB
  simpa using this
 have hi1:=H0.out.1.on hb1
 have hbw:=below_on H0.out.2.2.2.1 (Nat.le_refl _) hb1
 have KS:=Lib.hid (sortedFuncI_any d A n cap w1.heap.size w0.heap.size w1 h1 (by omega) (Nat.le_refl _) (by omega) hc1 hi1.1 hi1.2.1 (fun e he a ha=>by have:=(H0.out.2.1 e he).1 a ha;have:=hbw.size;omega))
 have HB:=Lib.hid (And.intro hbw hb1)
 clear hb1 hs1 hc1 hi1 hbw hw1 KV
 go_wp2_with fail
 refine KS.out.mono ?_
 rintro e X ⟨g0,c1,d',rfl,hp,hso,hits,hbX⟩
 obtain⟨g,hg0⟩:∃g:Addr,g=⟨g0,0,none⟩:=⟨_,rfl⟩
 rw[←hg0]at hits ⊢
 clear hg0
 have hb2:=below_on HB.out.1 (Nat.le_refl _) hbX
 have HX:Hid (RH d d' w X g n c1):=⟨hp,hso,hits,hb2,Blk.below H0.out.2.2.2.2.1 (below_on HB.out.2 (Nat.le_refl _) hbX) (Blk.lt H0.out.2.2.2.2.1),fun e he=>H0.out.2.1 e (hp.mem_iff.1 he),by rw[szL_perm (hp.map _)];exact H0.out.2.2.1,by rw[hp.length_eq];exact H0.out.2.2.2.2.2,h1,hn⟩
 clear hp hso hits hbX hb2 HB KS H0
 obtain⟨W0,hW0⟩:∃W,W=X.alloc (.cells #[.slice none 0 0,.slice none 0 0] 30):=⟨_,rfl⟩
 have HR0:Hid (RS X X.heap.size ⟨[],[]⟩ W0 none 0 0 none 0 0 []):=by
  have hb:Below X.heap.size X W0:=by rw[hW0];exact(Below.refl _ _).alloc (Nat.le_refl _) _
  refine⟨planOwn_nil _ _,DistH.nil _,by rw[hW0];exact PlK.new X none 0 0 none 0 0,hb,Nat.le_refl _⟩
 obtain⟨L,hL⟩:∃L,L=d'.map (·.1):=⟨_,rfl⟩
 have HL:=Lib.hid hL
 clear hL
 go_upto_region 3 with fail
 rw[←hW0]
 clear hW0
 go_wp2_with fail
 go_loopw [20] (fun i wr=>∃(j:Nat) (Ao:Option Addr) (no co:Nat) (Ap:Option Addr) (np cp:Nat) (hs:List Hd),j≤n∧i= .int .i64 (j:Int)∧Hid (RS X X.heap.size (readP (L.take j)) wr Ao no co Ap np cp hs)) (fun i _=>n-(intOf i).toNat)
 case atStart=>exact⟨0,none,0,0,none,0,0,[],Nat.zero_le _,rfl,HR0⟩
 case round=>
  clear HR0
  obtain⟨j,Ao,no,co,Ap,np,cp,hs,hj,rfl,HR⟩:=hrel
  by_cases hlt:j<n
  ·have hlt':(j:Int)<(n:Int):=by omega
   have hw1:IntKind.i64.wrap ((j:Int)+1)=(j:Int)+1:=by rw[IntKind.wrap_i64];omega
   have hI:=HX.out.its.on HR.out.bel
   have hjd:j<d'.length:=by rw[HX.out.len];exact hlt
   have hjL:j<L.length:=by rw[HL.out,List.length_map];exact hjd
   obtain⟨-,p1,p2⟩:=hI.cells hlt hjd
   have hx:=HX.out.its.2.1 _ (List.getElem_mem hjd)
   have hax:=(HX.out.addr _ (List.getElem_mem hjd)).2
   have hst:=readP_take hjL
   have hsz:=readP_sz L j (by omega)
   have hz1:=szL_take hjL
   have hz2:=szL_le L (j+1)
   have hz3:szL L≤1048576:=by rw[HL.out];exact HX.out.size
   have hLx:L[j]=d'[j].1:=by simp only[HL.out,List.getElem_map]
   rw[hLx]at hst hz1
   have hwX:=HX.out.bel.size
   obtain⟨x,hxx⟩:∃x,d'[j]=x:=⟨_,rfl⟩
   rw[hxx]at p1 p2 hx hax hst hz1
   obtain⟨⟨xk,xv⟩,⟨K,kn,kc⟩,⟨V,vn,vc⟩⟩:=x
   obtain⟨W1,hW1⟩:∃W,W=wr.alloc (.cells #[.slice K kn kc,.slice V vn vc] 52):=⟨_,rfl⟩
   have hb1:Below wr.heap.size wr W1:=by rw[hW1];exact(Below.refl _ _).alloc (Nat.le_refl _) _
   obtain⟨xb,hxb⟩:∃xb,xb=wr.heap.size:=⟨_,rfl⟩
   have b1:Blk W1 xb 52 #[.slice K kn kc,.slice V vn vc]:=by rw[hW1,hxb];exact Blk.new wr _ _
   have hl2:xv.length=vn:=hx.2.1.len8
   have HI:Hid (RI X ⟨xk,xv⟩ K kn kc V vn vc):=⟨hx.1,hx.2,fun a ha=>Nat.lt_of_lt_of_le (hax a ha) hwX,hx.1.1.len8,hl2,by simp only at hz1;omega⟩
   obtain⟨p,hpp⟩:∃p,p=readP (L.take j):=⟨_,rfl⟩
   have HR1:=HR.out.on hb1
   rw[←hpp]at HR1 hst hsz
   have HN:Hid (∀W A1 n1 c1 A2 n2 c2 hs2,RS X X.heap.size (opStep p ⟨xk,xv⟩) W A1 n1 c1 A2 n2 c2 hs2→RS X X.heap.size (readP (L.take (j+1))) W A1 n1 c1 A2 n2 c2 hs2):=fun W A1 n1 c1 A2 n2 c2 hs2 hh=>by rw[hst];exact hh
   have HZ:Hid (SzP p j (szL (L.take j))∧szL (L.take j)+vn≤1048576∧j+1≤65536∧SzP (opStep p ⟨xk,xv⟩) (j+1) (szL (L.take j)+vn)):=⟨hsz,by simp only at hz1;omega,by have:=HX.out.few.2;omega,by rw[←hl2];exact hsz.step _⟩
   generalize szL (L.take j)=S at HZ
   have HB:=Lib.hid (And.intro b1 HR1)
   have hj1:j+1≤n:=by omega
   obtain⟨z1,z2⟩:W1.cell? ⟨xb,0,none⟩=some (.slice K kn kc)∧W1.cell? ⟨xb,1,none⟩=some (.slice V vn vc):=⟨by have:=Blk.cell (i:=0) b1;simpa using this,by have:=Blk.cell (i:=1) b1;simpa using this⟩
   clear hI hjd hjL hx hax hst hsz hz1 hz2 hz3 hLx hxx b1 hb1 HR hwX hl2 HR1 hpp
   go_upto_region 6 with fail
   rw[←hW1,←hxb]
   clear hW1 hxb p1 p2
   by_cases hk2:kn=2
   ·subst hk2
    obtain⟨kd,hkd,hb0⟩:=(HI.out.key.on HB.out.2.bel).byte (k:=0) (by rw[HI.out.kl];decide)
    simp only at hkd
    subst hkd
    obtain⟨b0,hb0e⟩:∃b,b=(xk.getD 0 0).toNat:=⟨_,rfl⟩
    rw[show (⟨xk,xv⟩:It).k=xk from rfl,←hb0e,show kd.add 0=kd by simp[Addr.add]]at hb0
    by_cases hq:b0=111
    ·subst hq
     have hop:opStep p ⟨xk,xv⟩=⟨p.outer++ptsB xv,p.parcels⟩:=op_out HI.out.kl (by show xk.getD 0 0=111;exact UInt8.toNat_inj.1 hb0e.symm)
     obtain⟨q1,q2,f1,f2⟩:=plk_facts4 HB.out.2.box
     have KR:=Lib.hid (readW_any X.heap.size p.outer xv Ao V no co vn vc W1 HB.out.2.own.out HB.out.2.bel.size (HI.out.val.on HB.out.2.bel).1 HI.out.val.2 (fun b hb e=>by
      have h1:=HI.out.adv b hb
      have h2:=(HB.out.2.own.out.lt b.block e.symm).1
      omega) ⟨HI.out.few,by have h1:=HZ.out.1.1;have h2:=HB.out.2.own.out;have h3:=HZ.out.2.1;have h4:=ptsV_length p.outer;have h5:=h2.1;omega⟩)
     have HOP:=Lib.hid hop
     clear hop hb0e
     go_wp2_with fail
     refine KR.out.mono ?_
     rintro e w2 ⟨A3,c3,rfl,ho3,hg3,hat3⟩
     have hf:(⟨p.outer++ptsB xv,p.parcels⟩:Plan).fits:=by
      have h1:=HZ.out.2.2.2
      rw[HOP.out]at h1
      exact h1.fits (by have:=HZ.out.2.2.1;omega) HZ.out.2.1
     have HN2:=Lib.hid (HN.out _ _ _ _ _ _ _ _ (by rw[HOP.out];exact HB.out.2.outG hg3 ho3 hat3 hf))
     have hk2:PlK w2 X.heap.size Ao no co Ap np cp:=(hg3.block _ (Blk.lt HB.out.2.box) fun e=>own_blk_ne HB.out.2.own.out HB.out.2.box (by decide) e.symm).trans HB.out.2.box
     obtain⟨g1,g2,f3,f4⟩:=plk_facts4 hk2
     clear q1 q2 f1 f2 z1 z2 ho3 hg3 hat3 hf hk2 KR hb0
     go_wp2_with fail
     go_roundw
     case rel=>exact⟨j+1,A3,_,c3,Ap,np,cp,hs,hj1,by go_num,HN2⟩
     case measure=>simp[intOf];omega
    ·have hqi:¬((b0:Int)=111):=by omega
     have HN2:=Lib.hid (HN.out _ _ _ _ _ _ _ _ (by rw[op_skip (fun e=>hq (by rw[hb0e];exact congrArg UInt8.toNat e.2)) (fun e=>by have:=e.1;rw[HI.out.kl]at this;cases this)];exact HB.out.2))
     clear hq hb0e
     go_wp2_with fail
     go_roundw
     case rel=>exact⟨j+1,Ao,no,co,Ap,np,cp,hs,hj1,by go_num,HN2⟩
     case measure=>simp[intOf];omega
   ·have hk2i:¬((kn:Int)=2):=by omega
    by_cases hk6:kn=6
    ·subst hk6
     obtain⟨kd,hkd,hb0⟩:=(HI.out.key.on HB.out.2.bel).byte (k:=0) (by rw[HI.out.kl];decide)
     simp only at hkd
     subst hkd
     obtain⟨b0,hb0e⟩:∃b,b=(xk.getD 0 0).toNat:=⟨_,rfl⟩
     rw[show (⟨xk,xv⟩:It).k=xk from rfl,←hb0e,show kd.add 0=kd by simp[Addr.add]]at hb0
     by_cases hq:b0=112
     ·subst hq
      obtain⟨idn,hidn⟩:∃z:Int,z=((numL ((xk.drop 1).take 4):Nat):Int):=⟨_,rfl⟩
      have KN:Hid (Calls Tryz.prog 61 #[.slice (some kd) 6 kc,.int .i64 1,.int .i64 4] W1 fun e w'=>e= .returned (.tuple #[.int .i64 idn,.int .i64 0])∧W1=w'):=by
       have hn:=num_any xk (some kd) 6 kc 1 4 W1 (HI.out.key.on HB.out.2.bel).1 HI.out.key.2.1 HI.out.key.2.2 (by decide) (by decide)
       have e:numR xk 1 4=(((numL ((xk.drop 1).take 4):Nat):Int),0):=numR_ok (k:=1) (s:=4) (by decide) (by decide) (by rw[show xk.length=6 from HI.out.kl];decide)
       refine hn.mono fun e' w' hh=>?_
       unfold NumPost at hh
       rw[e,←hidn]at hh
       exact hh
      have hidI:inI idn:=by
       have:=numL4_lt (xk.drop 1)
       rw[hidn]
       exact⟨by omega,by omega⟩
      have HOP:Hid (opStep p ⟨xk,xv⟩=⟨p.outer,pcStep p.parcels idn (xk.getD 5 0) xv⟩):=by
       show _=_
       rw[hidn]
       exact op_pc HI.out.kl (by show xk.getD 0 0=112;exact UInt8.toNat_inj.1 hb0e.symm)
      obtain⟨nb,hnb⟩:∃b:Bool,b=decide (p.parcels=[]∨(pcAt p.parcels (p.parcels.length-1)).id≠idn):=⟨_,rfl⟩
      have HNB:Hid (nb=decide (p.parcels=[]∨(pcAt p.parcels (p.parcels.length-1)).id≠idn)∧inI idn):=⟨hnb,hidI⟩
      clear hnb hidI hidn hb0e
      obtain⟨q1,q2,f1,f2⟩:=plk_facts4 HB.out.2.box
      have q3:=Blk.lt HB.out.2.box
      go_upto_region 12 with (go_at_call 61;(with_reducible refine KN.out.mono ?_);rintro e w' ⟨rfl,rfl⟩)
      obtain⟨i1,hi1,hy0,hy1,hy2⟩:=info_parts info_pc
      have hba:Below W1.heap.size W1 (W1.alloc (.cells #[.int .i64 idn,.slice none 0 0,.string ByteArray.empty] 27)):=(Below.refl _ _).alloc (Nat.le_refl _) _
      have HA:=Lib.hid (And.intro (HB.out.2.on hba) (Blk.below HB.out.1 hba (Blk.lt HB.out.1)))
      have hnp:np≤65536:=by have:=HZ.out.1.2.1;have:=HB.out.2.own.lenp;have:=HZ.out.2.2.1;omega
      clear hba
      go_cut [72] from 60 to 72 (fun s wx=>s= .bool nb∧wx=W1)
      case first=>
       by_cases hn0:np=0
       ·subst hn0
        have hnb1:nb=true:=by rw[HNB.out.1,decide_eq_true_eq];exact .inl (List.eq_nil_of_length_eq_zero HB.out.2.own.lenp)
        clear HNB
        go_wp2_with fail
        go_meet
        exact⟨by rw[hnb1],rfl⟩
       ·have hn0i:¬((np:Int)=0):=by omega
        obtain⟨k1,rfl⟩:∃k,np=k+1:=⟨np-1,by omega⟩
        obtain⟨g1,cp1,e1,-,-⟩:=HB.out.2.own.row.form (by omega)
        obtain⟨ad,rfl⟩:∃ad,Ap=some ad:=⟨_,by cases e1;rfl⟩
        obtain⟨y1,-,-⟩:=HB.out.2.own.facts2 (k:=k1) (by omega)
        have hlt2:(k1:Int)<((k1+1:Nat):Int):=by omega
        obtain⟨il,hil⟩:∃i,i=(pcAt p.parcels k1).id:=⟨_,rfl⟩
        rw[←hil]at y1
        have HNB2:Hid (nb=decide (il≠idn)):=by
         show _=_
         rw[HNB.out.1,HB.out.2.own.lenp,hil]
         have:p.parcels≠[]:=fun e=>by have:=HB.out.2.own.lenp;rw[e]at this;simp at this
         simp[this]
        clear e1 hn0 hil HNB
        by_cases he:il=idn
        ·have hnb1:nb=false:=by rw[HNB2.out];simp[he]
         clear HNB2
         go_wp2_with fail
         go_meet
         exact⟨by rw[hnb1];exact congrArg Value.bool (by simp;try omega),rfl⟩
        ·have hnb1:nb=true:=by rw[HNB2.out];simp[he]
         clear HNB2
         go_wp2_with fail
         go_meet
         exact⟨by rw[hnb1];exact congrArg Value.bool (by simp[he];try omega),rfl⟩
      case rest=>
       obtain⟨rfl,hwc⟩:=hcut
       subst hwc
       go_upto_if 72 with fail
       go_cut [] from 73 to 79 (fun wx=>∃(Ap1:Option Addr) (np1 cp1:Nat) (hs1:List Hd),RS X X.heap.size ⟨p.outer,pcNew p.parcels idn⟩ wx Ao no co Ap1 np1 cp1 hs1∧Blk wx xb 52 #[.slice (some kd) 6 kc,.slice V vn vc])
       case first=>
        rcases nb with _|_
        ·have hpn:pcNew p.parcels idn=p.parcels:=by unfold pcNew;rw[if_neg (of_decide_eq_false HNB.out.1.symm)]
         have HB2:=Lib.hid (show RS X X.heap.size ⟨p.outer,pcNew p.parcels idn⟩ wc Ao no co Ap np cp hs by rw[hpn];exact HB.out.2)
         clear hpn
         go_wp2_with fail
         go_meet
         exact⟨Ap,np,cp,hs,HB2.out,HB.out.1⟩
        ·have hpn:pcNew p.parcels idn=p.parcels++[⟨idn,[],ByteArray.empty⟩]:=by unfold pcNew;rw[if_pos (of_decide_eq_true HNB.out.1.symm)]
         have HPN:=Lib.hid hpn
         have hfp:(⟨p.outer,p.parcels++[⟨idn,[],ByteArray.empty⟩]⟩:Plan).fits:=by
          have:=(HZ.out.1.new idn HNB.out.2).fits (by have:=HZ.out.2.2.1;omega) (by have:=HZ.out.2.1;omega)
          rwa [hpn]at this
         have HFP:=Lib.hid hfp
         clear hpn hfp
         go_wp2_with (at_builtin;refine wpList_append_any _ rfl (.tmp 74) (.tmp 77) _ rfl X.heap.size 27 i1 _ 3 48 Tryz.underlying28 hi1 hy0 hy1 hy2 rfl (Nat.zero_lt_succ _) (.slice Ap np cp) np _ rfl HA.out.1.own.row (wc.alloc (.cells #[.int .i64 idn,.slice none 0 0,.string ByteArray.empty] 27)).heap.size (some ⟨wc.heap.size,0,none⟩) 1 1 (pcV ⟨idn,[],ByteArray.empty⟩ (none,0,0)) rfl (Reads.made wc #[.int .i64 idn,.slice none 0 0,.string ByteArray.empty] 27 (0,0) 3 1 (pcV ⟨idn,[],ByteArray.empty⟩ (none,0,0)) rfl rfl) (pcV_one1 _ _) (by simp only[maxLen];omega) (by omega) HA.out.1.bel.size ?_;intro v6 w6 hown6 hg6 hat6;obtain⟨Ap1,cp1,rfl⟩:=own_form hown6;have H6:=Lib.hid (HA.out.1.snoc (x:=⟨idn,[],ByteArray.empty⟩) rfl hown6 hg6 HFP.out);have hk6:PlK w6 X.heap.size Ao no co Ap np cp:=(hg6.block _ (Blk.lt HA.out.1.box) fun e=>own_blk_ne HA.out.1.own.row HA.out.1.box (by decide) e.symm).trans HA.out.1.box;have hb6:Blk w6 xb 52 #[.slice (some kd) 6 kc,.slice V vn vc]:=(hg6.block _ (Blk.lt HA.out.2) fun e=>own_blk_ne HA.out.1.own.row HA.out.2 (by decide) e.symm).trans HA.out.2;have HB6:=Lib.hid (And.intro hb6 hk6);obtain⟨g1,g2,f3,f4⟩:=plk_facts4 hk6;clear hown6 hg6 hat6 q1 q2 f1 f2 q3 hk6 hb6)
         go_meet
         exact⟨Ap1,np+1,cp1,_,by rw[HPN.out];exact H6.out,Blk.far HB6.out.1 (fun e=>by have h1:=HB6.out.1;have h2:=HB6.out.2;unfold PlK at h2;have e3:X.heap.size=xb:=e.symm;rw[←e3]at h1;exact absurd (Obj.cells.inj (Option.some.inj (h1.symm.trans h2))).2.1 (by decide)) _⟩
       case rest=>
        obtain⟨Z,rfl⟩:∃V,V=wc:=⟨_,rfl⟩
        obtain⟨Ap1,np1,cp1,hs1,hR1,hbI⟩:=hcut
        have hpos:=pcNew_pos p.parcels idn
        have hlp:(pcNew p.parcels idn).length=np1:=hR1.own.lenp
        obtain⟨k1,rfl⟩:∃k,np1=k+1:=⟨np1-1,by omega⟩
        obtain⟨g1,cpx,e1,-,-⟩:=hR1.own.row.form (by omega)
        obtain⟨ad1,rfl⟩:∃ad,Ap1=some ad:=⟨_,by cases e1;rfl⟩
        have hk1:(pcNew p.parcels idn).length-1=k1:=by omega
        have HR1:=Lib.hid (And.intro hR1 (And.intro hbI hk1))
        have HZ1:=Lib.hid (HZ.out.1.new idn HNB.out.2)
        have hw2:IntKind.i64.wrap (((k1+1:Nat):Int)-1)=(k1:Int):=by
         have h1:(pcNew p.parcels idn).length≤j+1:=HZ1.out.2.1
         have h2:=HZ.out.2.2.1
         rw[IntKind.wrap_i64]
         omega
        have hlt2:(k1:Int)<((k1+1:Nat):Int):=by omega
        have hkb:k1≤65536:=by
         have h1:(pcNew p.parcels idn).length≤j+1:=HZ1.out.2.1
         have h2:=HZ.out.2.2.1
         omega
        obtain⟨t1,t2,-,-⟩:=plk_facts4 hR1.box
        have t3:=hR1.own.hdC (k:=k1) (by omega)
        have t4:=hR1.own.frzC (k:=k1) (by omega)
        obtain⟨-,t5,t6⟩:=hR1.own.facts2 (k:=k1) (by omega)
        have t7:Z.cell? ⟨xb,1,none⟩=some (.slice V vn vc):=by have:=Blk.cell (i:=1) hbI;simpa using this
        have t8:xb<Z.heap.size:=Blk.lt hbI
        obtain⟨kd',hkd',hb5⟩:=(HI.out.key.on hR1.bel).byte (k:=5) (by rw[HI.out.kl];decide)
        simp only[Option.some.injEq]at hkd'
        subst hkd'
        obtain⟨b5,hb5e⟩:∃b,b=(xk.getD 5 0).toNat:=⟨_,rfl⟩
        rw[show (⟨xk,xv⟩:It).k=xk from rfl,←hb5e,show kd.add 5=⟨kd.block,kd.off+5,none⟩ by simp[Addr.add]]at hb5
        clear hR1 hbI hpos hlp q1 q2 f1 f2 q3 z1 z2 hb0 e1 hk1 KN
        by_cases h5:b5=0
        ·subst h5
         have hs5:=run_str (c:=vc) (HI.out.val.on HR1.out.1.bel).1
         have e0:xk.getD 5 0=0:=UInt8.toNat_inj.1 hb5e.symm
         have hop2:opStep p ⟨xk,xv⟩=setO ⟨p.outer,pcNew p.parcels idn⟩ k1 ⟨xv.toArray⟩:=by rw[HOP.out,e0,pcStep_own,HR1.out.2.2]
         have hfo:(setO ⟨p.outer,pcNew p.parcels idn⟩ k1 ⟨xv.toArray⟩).fits:=by
          rw[←hop2]
          exact HZ.out.2.2.2.fits (by have:=HZ.out.2.2.1;omega) HZ.out.2.1
         have HN2:=Lib.hid (HN.out _ _ _ _ _ _ _ _ (by rw[hop2];exact HR1.out.1.setO (by omega) _ hfo))
         clear e0 hop2 hfo hb5e t3 t4
         go_wp2_with fail
         go_roundw
         case rel=>exact⟨j+1,Ao,no,co,some ad1,k1+1,cp1,hs1,hj1,by go_num,HN2⟩
         case measure=>simp[intOf];omega
        ·have h5i:¬((b5:Int)=0):=by omega
         have e0:xk.getD 5 0≠0:=fun e=>h5 (by rw[hb5e,e];rfl)
         obtain⟨R,rn,rc,hh⟩:∃R rn rc,hdAt hs1 k1=(R,rn,rc):=⟨_,_,_,rfl⟩
         rw[hh]at t3
         simp only at t3
         obtain⟨r0,hr0⟩:∃r,r=(pcAt (pcNew p.parcels idn) k1).ring:=⟨_,rfl⟩
         have hop2:opStep p ⟨xk,xv⟩=setR ⟨p.outer,pcNew p.parcels idn⟩ k1 (r0++ptsB xv):=by rw[HOP.out,pcStep_ring e0,HR1.out.2.2,hr0]
         have hfo:(setR ⟨p.outer,pcNew p.parcels idn⟩ k1 (r0++ptsB xv)).fits:=by
          rw[←hop2]
          exact HZ.out.2.2.2.fits (by have:=HZ.out.2.2.1;omega) HZ.out.2.1
         have hbd:Below Z.heap.size Z Z.drew:=(Below.refl _ _).drew
         have hRd:=HR1.out.1.on hbd
         have hring:Z.drew.ownsRow X.heap.size 23 2 (.slice R rn rc) rn (ptsV r0):=by
          have:=hRd.own.rings k1 (by omega)
          rw[hh]at this
          rw[hr0]
          exact this
         have KR:=Lib.hid (readW_any X.heap.size r0 xv R V rn rc vn vc Z.drew hring hRd.bel.size (HI.out.val.on hRd.bel).1 HI.out.val.2 (fun b hb e=>by
          have h1:=HI.out.adv b hb
          have h2:=(hring.lt b.block e.symm).1
          omega) ⟨HI.out.few,by
          have hm:pcAt (pcNew p.parcels idn) k1∈pcNew p.parcels idn:=pcAt_mem (by have:=HR1.out.2.2;have:=pcNew_pos p.parcels idn;omega)
          have h1:=(HZ1.out.2.2.2 _ hm).1
          have h3:=HZ.out.2.1
          have h4:=ptsV_length r0
          have h5:=hring.1
          rw[←hr0]at h1
          omega⟩)
         have HO2:=Lib.hid (And.intro hop2 (And.intro hfo (And.intro hring hh)))
         have HRD:=Lib.hid hRd
         have hbId:Blk Z.drew xb 52 #[.slice (some kd) 6 kc,.slice V vn vc]:=Blk.below HR1.out.2.1 hbd (Blk.lt HR1.out.2.1)
         have HBI:=Lib.hid hbId
         clear e0 hop2 hfo hb5e t5 t6 hring hRd hr0 hh hbId
         go_upto_region 17 with fail
         refine wp_region_held_drew (S:=fun V'=>V'.cell? ⟨xb,1,none⟩=some (.slice V vn vc)) (by kernel_rfl) ?_ (fun hHeld=>?_)
         ·exact t7
         refine tk 0 ?_
         refine tk 1 ?_
         refine tk 2 ?_
         refine tk 3 ?_
         refine tk 5 ?_
         refine tk 6 ?_
         refine rd1 4 fun K hK=>?_
         have LW:Z.drew.cell? ⟨(ad1.add (k1*3)).block,(ad1.add (k1*3)).off+1,none⟩=some (.slice R rn rc):=t3
         go_simp
         refine hK.out _ _ (t7) fun hHeld=>?_
         clear hK K
         try simp only[Act.put,sb0,sc0,sc1]
         refine rd1 7 fun K hK=>?_
         go_simp
         go_at_call 60
         (with_reducible refine KR.out.mono ?_)
         rintro e w2 ⟨A3,c3,rfl,ho3,hg3,hat3⟩
         try dsimp only
         have hcx:w2.cell? ⟨xb,1,none⟩=some (.slice V vn vc):=grown_cell hg3 (Blk.lt HBI.out) (fun e=>own_blk_ne HO2.out.2.2.1 HBI.out (by decide) e) t7
         refine hK.out _ _ (hcx) fun hHeld=>?_
         clear hK K
         try simp only[Act.put,sb0,sc0,sc1]
         have hadb:ad1.block<Z.drew.heap.size:=(HRD.out.own.row.lt ad1.block rfl).2
         have hadr:(Value.slice R rn rc).ownBlock≠some ad1.block:=fun e=>own_own_ne HO2.out.2.2.1 HRD.out.own.row (by decide) e rfl
         have hblk:=hg3.block ad1.block hadb (fun e=>hadr e.symm)
         have hc2:w2.cell? ⟨(ad1.add (k1*3)).block,(ad1.add (k1*3)).off+1,none⟩=some (.slice R rn rc):=(World.cell?_of_block (by simp only[block_of_add];exact hblk)).trans LW
         have hf2:w2.frozen? ⟨(ad1.add (k1*3)).block,(ad1.add (k1*3)).off+1,none⟩=false:=(World.frozen?_of_block (w:=Z.drew) (by simp only[block_of_add];exact hblk)).trans t4
         have HN2:=Lib.hid (HN.out _ _ _ _ _ _ _ _ (by rw[HO2.out.1];exact HRD.out.ringG (k:=k1) (by omega) (by rw[HO2.out.2.2.2];exact hg3) ho3 (by rw[HO2.out.2.2.2];exact hat3) HO2.out.2.1))
         have hxne:ad1.block≠xb:=fun e=>own_blk_ne HRD.out.own.row HBI.out (by decide) (by rw[←e];rfl)
         clear ho3 hg3 hat3 hblk hadb hadr LW t3 t4 KR
         refine tk 8 ?_
         refine tk 9 ?_
         refine rd1 10 fun K hK=>?_
         go_simp
         refine hK.out _ _ ((World.cell?_setCell_far _ _ _ _ (by simp only[block_of_add];exact hxne)).trans hcx) fun hHeld=>?_
         clear hK K
         try simp only[Act.put,sb0,sc0,sc1]
         refine wpAnyH_done (by kernel_rfl) ?_ _
         go_wp2_with fail
         go_roundw
         case rel=>exact⟨j+1,Ao,no,co,some ad1,k1+1,cp1,_,hj1,by go_num,HN2⟩
         case measure=>simp[intOf];omega
     ·have hqi:¬((b0:Int)=112):=by omega
      have HN2:=Lib.hid (HN.out _ _ _ _ _ _ _ _ (by rw[op_skip (fun e=>by have:=e.1;rw[HI.out.kl]at this;cases this) (fun e=>hq (by rw[hb0e];exact congrArg UInt8.toNat e.2))];exact HB.out.2))
      clear hq hb0e
      go_wp2_with fail
      go_roundw
      case rel=>exact⟨j+1,Ao,no,co,Ap,np,cp,hs,hj1,by go_num,HN2⟩
      case measure=>simp[intOf];omega
    ·have hk6i:¬((kn:Int)=6):=by omega
     have HN2:=Lib.hid (HN.out _ _ _ _ _ _ _ _ (by rw[op_skip (fun e=>hk2 (by have:=e.1;rw[HI.out.kl]at this;exact this)) (fun e=>hk6 (by have:=e.1;rw[HI.out.kl]at this;exact this))];exact HB.out.2))
     clear hk2 hk6
     go_wp2_with fail
     go_roundw
     case rel=>exact⟨j+1,Ao,no,co,Ap,np,cp,hs,hj1,by go_num,HN2⟩
     case measure=>simp[intOf];omega
  ·have hjn:j=n:=by omega
   subst hjn
   have HR2:Hid (RS X X.heap.size (readP L) wr Ao no co Ap np cp hs):=by
    have h1:=HR.out
    have e:L.take j=L:=List.take_of_length_le (by rw[HL.out,List.length_map,HX.out.len];exact Nat.le_refl _)
    rw[e]at h1
    exact h1
   clear HR hlt
   obtain⟨p,hpp⟩:∃p,p=readP L:=⟨_,rfl⟩
   rw[←hpp]at HR2
   have HP:=Lib.hid hpp
   clear hpp
   have KI:=Lib.hid (items_any p Ao Ap no co np cp wr HR2.out.own.at_)
   obtain⟨q1,q2,f1,f2⟩:=plk_facts4 HR2.out.box
   have HQ:Hid (∀q,planB q=true→(d.map (·.1)).Perm (planIts q)→Rising (L.map (·.k))∧p=q):=fun q h1 h2=>by
    have hs1:(L.map (·.k)).Pairwise fun a b=>¬ltK b a:=by
     rw[HL.out,List.map_map,List.pairwise_map]
     exact HX.out.sort
    have hp1:L.Perm (planIts q):=by rw[HL.out];exact(HX.out.perm.map _).trans h2
    obtain⟨a,b⟩:=plan_read hs1 h1 hp1
    exact⟨a,by rw[HP.out];exact b⟩
   go_wp2_with fail
   refine KI.out.mono ?_
   rintro e w2 ⟨hT,hF,hb2⟩
   have hbX2:=below_on HR2.out.bel (Nat.le_refl _) hb2
   have hres:PlK w2 w.heap.size none 0 0 none 0 0:=Blk.below HX.out.res hbX2 (Blk.lt HX.out.res)
   have hbw:Below w.heap.size w w2:=below_on HX.out.bel (Nat.le_refl _) hbX2
   rcases hpb:planB p with _|_
   ·obtain rfl:=hF hpb
    have HD:Hid (Below w.heap.size w w2∧∀q,planB q=true→¬(d.map (·.1)).Perm (planIts q)):=⟨hbw,fun q h1 h2=>by
     have:=(HQ.out q h1 h2).2
     rw[←this,hpb]at h1
     cases h1⟩
    obtain⟨Y,hY,y1,y2,hbY⟩:=res_store (g:=w.heap.size) hbw (Nat.le_refl _) hres (.slice none 0 0) (.slice none 0 0)
    obtain⟨r1,r2,r3,r4⟩:=plk_facts4 hres
    have HY:=Lib.hid hY
    have HR3:=Lib.hid (And.intro y1 (And.intro y2 hbY))
    clear hY y1 y2 hbY hT hF hb2 hbX2 hres hbw hpb KI q1 q2 f1 f2 HQ
    go_wp2_with fail
    rw[←HY.out]
    obtain⟨y1,y2,hbY⟩:=HR3.out
    refine bodyPost_ret (v:= .tuple #[planV none 0 0 none 0 0,.int .i64 2]) ?_ rfl ⟨hbY,.inr ⟨HD.out.2,rfl⟩⟩
    simp[results,Tryz.results26,go_sem,y1,y2]
   ·obtain⟨A2,c2,dI,rfl,ho,hri,hpm⟩:=hT hpb
    have hS:SoundP p:=planB_sound hpb
    have hfew:dI.length≤1048576:=by
     have h1:dI.length=(planIts p).length:=by rw[←hpm.length_eq,List.length_map]
     have ok:=recOK_sound hS
     have h2:=flat_few (ps:=p.parcels) fun x hx=>(ok.pcs x hx).2.2
     have h3:=chkN_le (n:=p.outer.length) (m:=8) (by have:=ok.out.2;omega)
     have h4:=(listed_bd hS.1).2.1
     rw[h1]
     unfold planIts ringIts
     rw[List.length_append,List.length_map,List.length_range]
     omega
    have KE:=Lib.hid (eqItems_any dI d' A2 (some g) dI.length c2 j c1 w2 ho.at_ (HX.out.its.on hbX2) hfew)
    have HD:Hid (Below w.heap.size w w2∧PlK w2 w.heap.size none 0 0 none 0 0∧RS X X.heap.size p w2 Ao no co Ap np cp hs∧(dI.map (·.1)=L→(d.map (·.1)).Perm (planIts p))∧(dI.map (·.1)≠L→∀q,planB q=true→¬(d.map (·.1)).Perm (planIts q))):=⟨hbw,hres,HR2.out.on hb2,fun e=>by
     have h1:(d'.map (·.1)).Perm (d.map (·.1)):=HX.out.perm.map _
     rw[←HL.out,←e]at h1
     exact h1.symm.trans hpm,fun hne q h1 h2=>by
     obtain⟨h3,rfl⟩:=HQ.out q h1 h2
     have h4:L.Perm (planIts p):=by rw[HL.out];exact(HX.out.perm.map _).trans h2
     refine hne (items_uniq (by rw[List.map_map];exact hri) h3 fun x=>?_)
     rw[hpm.mem_iff,h4.mem_iff]⟩
    have HPB:=Lib.hid hpb
    have hLd:d'.map (·.1)=L:=HL.out.symm
    have HLD:=Lib.hid hLd
    clear hT hF hb2 hbX2 hres hbw hpb KI q1 q2 f1 f2 HQ ho hri hpm hS hfew hLd
    by_cases heq:dI.map (·.1)=L
    ·have ke:=KE.out
     rw[HLD.out,decide_eq_true heq]at ke
     have KE2:=Lib.hid ke
     have HF:=Lib.hid (HD.out.2.2.2.1 heq)
     clear ke KE heq
     go_wp2_with fail
     refine KE2.out.mono ?_
     rintro e w3 ⟨rfl,hb3⟩
     have hres3:=HD.out.2.1.on hb3
     have hrs3:=HD.out.2.2.1.on hb3
     obtain⟨q1,q2,-,-⟩:=plk_facts4 hrs3.box
     obtain⟨r1,r2,r3,r4⟩:=plk_facts4 hres3
     have hbw3:=below_on HD.out.1 (Nat.le_refl _) hb3
     obtain⟨Y,hY,y1,y2,hbY⟩:=res_store (g:=w.heap.size) hbw3 (Nat.le_refl _) hres3 (.slice Ao no co) (.slice Ap np cp)
     have hpo:=((hrs3.own.mono HX.out.bel.size).store hres3 (by decide) (by decide) 0 (.slice Ao no co)).store (Blk.set_ hres3 0 (.slice Ao no co)) (by decide) (by decide) 1 (.slice Ap np cp)
     rw[←hY]at hpo
     have HY:=Lib.hid hY
     have HR3:=Lib.hid (And.intro y1 (And.intro y2 (And.intro hbY hpo)))
     clear hY y1 y2 hbY hpo hres3 hrs3 hbw3 hb3 KE2
     go_wp2_with fail
     rw[←HY.out]
     obtain⟨y1,y2,hbY,hpo⟩:=HR3.out
     refine bodyPost_ret (v:= .tuple #[planV Ao no co Ap np cp,.int .i64 0]) ?_ rfl ⟨hbY,.inl ⟨p,Ao,no,co,Ap,np,cp,hs,HPB.out,HF.out,rfl,hpo⟩⟩
     simp[results,Tryz.results26,go_sem,y1,y2]
    ·have ke:=KE.out
     rw[HLD.out,decide_eq_false heq]at ke
     have KE2:=Lib.hid ke
     have HF:=Lib.hid (HD.out.2.2.2.2 heq)
     clear ke KE heq
     go_wp2_with fail
     refine KE2.out.mono ?_
     rintro e w3 ⟨rfl,hb3⟩
     have hres3:=HD.out.2.1.on hb3
     have hbw3:=below_on HD.out.1 (Nat.le_refl _) hb3
     obtain⟨Y,hY,y1,y2,hbY⟩:=res_store (g:=w.heap.size) hbw3 (Nat.le_refl _) hres3 (.slice none 0 0) (.slice none 0 0)
     obtain⟨r1,r2,r3,r4⟩:=plk_facts4 hres3
     have HY:=Lib.hid hY
     have HR3:=Lib.hid (And.intro y1 (And.intro y2 hbY))
     clear hY y1 y2 hbY hres3 hbw3 hb3 KE2
     go_wp2_with fail
     rw[←HY.out]
     obtain⟨y1,y2,hbY⟩:=HR3.out
     refine bodyPost_ret (v:= .tuple #[planV none 0 0 none 0 0,.int .i64 2]) ?_ rfl ⟨hbY,.inr ⟨HF.out,rfl⟩⟩
     simp[results,Tryz.results26,go_sem,y1,y2]
theorem itsV_set {d:List ItH} {k:Nat} (hk:k<d.length) (x:ItH):itsV (d.set k x)=((itsV d).set (k*2) (hdV x.2.1)).set (k*2+1) (hdV x.2.2):=by
 induction d generalizing k with
 |nil=>simp at hk
 |cons y d ih=>
  rcases k with _|k
  ·rfl
  ·have h1:=ih (k:=k) (by simpa using hk)
   show encIt y++itsV (d.set k x)=_
   rw[h1,show(k+1)*2=k*2+1+1 by omega]
   rfl
/-- One item more at a place of a row of the call's own. -/
theorem ItsOwn.put {base:Nat} {W:World} {ad:Addr} {n c k:Nat} {d:List ItH} (h:ItsOwn base W (some ad) n c d) (hk:k<n) (x:ItH) (hx:OwnIt base W x):
 ItsOwn base ((W.setCell (ad.add (k*2)) (hdV x.2.1)).setCell ⟨(ad.add (k*2)).block,(ad.add (k*2)).off+1,none⟩ (hdV x.2.2)) (some ad) n c (d.set k x)∧
 W.frozen? (ad.add (k*2))=false∧W.frozen? ⟨(ad.add (k*2)).block,(ad.add (k*2)).off+1,none⟩=false∧base≤ad.block∧ad.block<W.heap.size∧
 (∀g t cs,52≠t→Blk W g t cs→Blk ((W.setCell (ad.add (k*2)) (hdV x.2.1)).setCell ⟨(ad.add (k*2)).block,(ad.add (k*2)).off+1,none⟩ (hdV x.2.2)) g t cs)∧
 (∀g,g≠ad.block→((W.setCell (ad.add (k*2)) (hdV x.2.1)).setCell ⟨(ad.add (k*2)).block,(ad.add (k*2)).off+1,none⟩ (hdV x.2.2)).heap[g]?=W.heap[g]?)∧
 (∀bs y,OwnIt bs W y→OwnIt bs ((W.setCell (ad.add (k*2)) (hdV x.2.1)).setCell ⟨(ad.add (k*2)).block,(ad.add (k*2)).off+1,none⟩ (hdV x.2.2)) y)∧
 (W.setCell (ad.add (k*2)) (hdV x.2.1)).frozen? ⟨(ad.add (k*2)).block,(ad.add (k*2)).off+1,none⟩=false∧(∃u,(W.setCell (ad.add (k*2)) (hdV x.2.1)).cell? ⟨(ad.add (k*2)).block,(ad.add (k*2)).off+1,none⟩=some u):=by
 obtain⟨g,cap,e,hb,hlt⟩:=h.1.form (by omega)
 have e1:ad=⟨g,0,none⟩:=by cases e;rfl
 have e2:cap=c:=by cases e;rfl
 subst e1 e2
 have hl:=h.len
 have ha:(⟨g,0,none⟩:Addr).add (k*2)=⟨g,k*2,none⟩:=by
  unfold Addr.add
  split
  ·rename_i h0;rw[h0]
  ·simp
 rw[ha]
 have h1:=(h.1.stored (k*2) (hdV x.2.1)).1
 have h2:=(h1.stored (k*2+1) (hdV x.2.2)).1
 rw[←itsV_set (by omega) x]at h2
 have hoth:∀q,q≠g→((W.setCell ⟨g,k*2,none⟩ (hdV x.2.1)).setCell ⟨g,k*2+1,none⟩ (hdV x.2.2)).heap[q]?=W.heap[q]?:=fun q hq=>
  (Below.heap_setCell _ _ _ q (fun e=>hq e)).trans (Below.heap_setCell _ _ _ q (fun e=>hq e))
 have hsz:((W.setCell ⟨g,k*2,none⟩ (hdV x.2.1)).setCell ⟨g,k*2+1,none⟩ (hdV x.2.2)).heap.size=W.heap.size:=by rw[World.size_setCell,World.size_setCell]
 have hkb:∀(q:Nat) (cs:Array Value) (fr:Nat×Nat),W.heap[q]?=some (Obj.cells cs 5 fr)→((W.setCell ⟨g,k*2,none⟩ (hdV x.2.1)).setCell ⟨g,k*2+1,none⟩ (hdV x.2.2)).heap[q]?=W.heap[q]?:=fun q cs fr hq=>hoth q fun e=>own_ne_cells h.1 hq (by decide) (by rw[e];rfl)
 refine⟨⟨h2,fun y hy=>?_⟩,h.1.frozenAt _,h.1.frozenAt _,hb,hlt,fun q t cs ht hq=>(hoth q fun e=>own_blk_ne h.1 hq ht (by rw[e];rfl)).trans hq,hoth,fun bs y hy=>hy.heap (by rw[hsz];exact Nat.le_refl _) hkb,h1.frozenAt _,?_⟩
 rotate_left
 ·obtain⟨-,-,c2⟩:=ItsAt.cells h.at_ hk (by omega)
  rw[ha]at c2
  exact⟨_,(World.cell?_setCell_other _ _ _ _ (fun e=>by have:=congrArg Addr.off e;simp at this)).trans c2⟩
 rcases List.mem_or_eq_of_mem_set hy with hy|rfl
 ·exact(h.2 y hy).heap (by rw[hsz];exact Nat.le_refl _) hkb
 ·exact hx.heap (by rw[hsz];exact Nat.le_refl _) hkb
theorem itsV_take (d:List ItH) (k:Nat):itsV d=itsV (d.take k)++itsV (d.drop k):=by rw[←itsV_append,List.take_append_drop]
theorem itsV_drop (d:List ItH) (k:Nat):(itsV d).drop (k*2)=itsV (d.drop k):=by
 by_cases h:k≤d.length
 ·rw[itsV_take d k,List.drop_left' (by rw[itsV_length,List.length_take];omega)]
 ·rw[List.drop_eq_nil_of_le (by omega:d.length≤k),List.drop_eq_nil_of_le (by rw[itsV_length];omega)]
  rfl
/-- The first ones. -/
theorem ItsAt.take {W:World} {B n c k:Nat} {A:Option Addr} {d:List ItH} (h:ItsAt W B A n c d) (hk:k≤n):ItsAt W B A k c (d.take k):=by
 have hl:=h.len
 refine⟨⟨by rw[itsV_length,List.length_take];omega,fun h0=>?_⟩,fun e he=>h.2.1 e (List.mem_of_mem_take he),Nat.le_trans hk h.2.2.1,h.2.2.2⟩
 obtain⟨ad,h1,h2,h3⟩:=h.1.2 (by omega)
 refine⟨ad,h1,h2,fun j u hu=>h3 j u ?_⟩
 rw[itsV_take d k,List.getElem?_append_left (List.getElem?_eq_some_iff.1 hu).1]
 exact hu
/-- The others. -/
theorem ItsAt.drop {W:World} {B n c k:Nat} {A:Option Addr} {d:List ItH} (h:ItsAt W B A n c d) (hk:k≤n):ItsAt W B (if c=k then A else A.map (·.add (k*2))) (n-k) (c-k) (d.drop k):=by
 refine⟨?_,fun e he=>h.2.1 e (List.mem_of_mem_drop he),by have:=h.2.2.1;omega,by have:=h.2.2.2;omega⟩
 rw[←itsV_drop]
 exact h.1.cut hk h.2.2.1
theorem ItsOwn.addr {base:Nat} {W:World} {A:Option Addr} {n c:Nat} {d:List ItH} (h:ItsOwn base W A n c d):∀e∈d,(∀a,e.2.1.1=some a→a.block<W.heap.size)∧∀a,e.2.2.1=some a→a.block<W.heap.size:=fun e he=>
 ⟨fun _ ha=>((h.2 e he).1.blk ha).2,fun _ ha=>((h.2 e he).2.blk ha).2⟩
theorem NewB.kept2 {base:Nat} {W W':World} {h:Hd} {xs:List UInt8} {row:Option Nat} (r:NewB base W h xs) (hg:W.grownBy W' row) (hne:∀a,h.1=some a→row≠some a.block):NewB base W' h xs:=by
 obtain⟨h1,h2,h3⟩:=r
 refine⟨⟨h1.1,fun h0=>?_⟩,h2,fun a e=>?_⟩
 ·obtain⟨ad,e,hb,hc⟩:=h1.2 h0
  refine⟨ad,e,Nat.lt_of_lt_of_le hb hg.size,fun k u hu=>?_⟩
  have hk:=hg.block ad.block hb (fun e2=>hne ad e e2.symm)
  exact(World.cell?_of_block (by rw[block_of_add];exact hk)).trans (hc k u hu)
 ·obtain⟨hb,cs,fr,hh⟩:=h3 a e
  exact⟨hb,cs,fr,(hg.block a.block (Array.getElem?_eq_some_iff.1 hh).1 (fun e2=>hne a e e2.symm)).trans hh⟩
theorem itsV_setV {d:List ItH} {k:Nat} (hk:k<d.length) (i:It) (h:Hd):itsV (d.set k (i,d[k].2.1,h))=(itsV d).set (k*2+1) (hdV h):=by
 induction d generalizing k with
 |nil=>simp at hk
 |cons y d ih=>
  rcases k with _|k
  ·rfl
  ·have h1:=ih (k:=k) (by simpa using hk)
   show encIt y++itsV (d.set k _)=_
   rw[List.getElem_cons_succ,h1,show(k+1)*2+1=k*2+1+1+1 by omega]
   rfl
/-- A byte more behind a value, in its own row. -/
theorem ItsOwn.push {base N c kk vn c':Nat} {U1 U2:World} {bd:Addr} {A':Option Addr} {d:List ItH} {bv:UInt8} (h:ItsOwn base U1 (some bd) N c d) (hv:VOwn base U1 d) (hk:kk<N) (hkd:kk<d.length)
 (hown:U2.ownsRow base 5 1 (.slice A' vn c') vn (u8s d[kk].1.v++u8s [bv])) (hg:U1.grownBy U2 (hdV d[kk].2.2).ownBlock):
 ItsOwn base (U2.setCell ⟨(bd.add (kk*2)).block,(bd.add (kk*2)).off+1,none⟩ (.slice A' vn c')) (some bd) N c (d.set kk (⟨d[kk].1.k,d[kk].1.v++[bv]⟩,d[kk].2.1,(A',vn,c')))∧
 U2.frozen? ⟨(bd.add (kk*2)).block,(bd.add (kk*2)).off+1,none⟩=false∧(∃u,U2.cell? ⟨(bd.add (kk*2)).block,(bd.add (kk*2)).off+1,none⟩=some u)∧base≤bd.block:=by
 have hrow:U2.ownsRow base 52 2 (.slice (some bd) N c) N (itsV d):=own_keepT (hv.val _ (List.getElem_mem hkd)) h.1 (by decide) hg
 have hrow0:(hdV d[kk].2.2).ownBlock=match d[kk].2.2.1 with|some a=>some a.block|none=>none:=by
  unfold hdV
  cases d[kk].2.2.1<;>rfl
 have hvb:∀g,(hdV d[kk].2.2).ownBlock=some g→blkOf d[kk] g:=fun g e=>by
  rw[hrow0]at e
  rcases hq:d[kk].2.2.1 with _|a
  ·rw[hq]at e;cases e
  ·rw[hq]at e
   cases e
   exact .inr ⟨a,hq,rfl⟩
 obtain⟨g,cap,e,hb,hlt⟩:=hrow.form (by omega)
 have e1:bd=⟨g,0,none⟩:=by cases e;rfl
 have e2:cap=c:=by cases e;rfl
 subst e1 e2
 have ha:(⟨((⟨g,0,none⟩:Addr).add (kk*2)).block,((⟨g,0,none⟩:Addr).add (kk*2)).off+1,none⟩:Addr)=⟨g,kk*2+1,none⟩:=by
  unfold Addr.add
  split
  ·rename_i h0;rw[h0]
  ·simp
 rw[ha]
 have h1:=(hrow.stored (kk*2+1) (.slice A' vn c')).1
 have hput:=itsV_setV hkd ⟨d[kk].1.k,d[kk].1.v++[bv]⟩ (A',vn,c')
 rw[show (Value.slice A' vn c')=hdV (A',vn,c') from rfl,←hput]at h1
 have hkb:∀(q:Nat) (cs:Array Value) (fr:Nat×Nat),U2.heap[q]?=some (Obj.cells cs 5 fr)→(U2.setCell ⟨g,kk*2+1,none⟩ (hdV (A',vn,c'))).heap[q]?=U2.heap[q]?:=fun q cs fr hq=>Below.heap_setCell _ _ _ q fun e=>own_ne_cells hrow hq (by decide) (by rw[e];rfl)
 have hsz:U2.heap.size≤(U2.setCell ⟨g,kk*2+1,none⟩ (hdV (A',vn,c'))).heap.size:=by rw[World.size_setCell];exact Nat.le_refl _
 have hkey:∀i (hi:i<d.length),i≠kk→OwnIt base U2 d[i]:=fun i hi hne=>by
  have ho:=h.2 _ (List.getElem_mem hi)
  have hap:∀q,blkOf d[kk] q→¬blkOf d[i] q:=fun q h1 h2=>by
   rcases Nat.lt_or_gt_of_ne hne with hl|hl
   ·exact List.pairwise_iff_getElem.1 hv.pw i kk hi hkd hl q h2 h1
   ·exact List.pairwise_iff_getElem.1 hv.pw kk i hkd hi hl q h1 h2
  exact⟨ho.1.kept2 hg fun a ha e=>hap _ (hvb _ e) (.inl ⟨a,ha,rfl⟩),ho.2.kept2 hg fun a ha e=>hap _ (hvb _ e) (.inr ⟨a,ha,rfl⟩)⟩
 have hkk:NewB base U2 d[kk].2.1 d[kk].1.k:=(h.2 _ (List.getElem_mem hkd)).1.kept2 hg fun a ha e=>by
  rw[hrow0]at e
  rcases hq:d[kk].2.2.1 with _|b
  ·rw[hq]at e;cases e
  ·rw[hq]at e
   exact hv.kv _ (List.getElem_mem hkd) a b ha hq (Option.some.inj e).symm
 refine⟨⟨h1,fun y hy=>?_⟩,hrow.frozenAt _,?_,hb⟩
 ·obtain⟨i,hi,rfl⟩:=List.mem_iff_getElem.1 hy
  rw[List.length_set]at hi
  rw[List.getElem_set]
  split
  ·exact OwnIt.heap ⟨hkk,NewB.of_own (by rw[u8s_append];exact hown)⟩ hsz hkb
  ·rename_i hne
   exact(hkey i hi fun e=>hne e.symm).heap hsz hkb
 ·obtain⟨ad,e,-,hc⟩:=(Reads.of_own hrow).2 (by omega)
  cases e
  obtain⟨-,g2⟩:=itsV_get d kk hkd
  have:=hc _ _ g2
  rw[show (⟨g,0,none⟩:Addr).add (kk*2+1)=⟨g,kk*2+1,none⟩ by simp[Addr.add]]at this
  exact⟨_,this⟩
end Go.Proofs.YtpkeacnacjnlcaaGreat
