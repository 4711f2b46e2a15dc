/- merestonelaw14.RecordBack: the walk. -/
import Derived.Deep.CutBlock
import Derived.Deep.DeepCutAuto
import Derived.Test.YtpkeacnacjnlcaaGreatK04
import Derived.Test.YtpkeacnacjnlcaaGreatK20
import Derived.Test.YtpkeacnacjnlcaaGreatK26
import Derived.Test.YtpkeacnacjnlcaaGreatK27
import Derived.Test.YtpkeacnacjnlcaaGreatK35
import Derived.Test.YtpkeacnacjnlcaaGreatK37
import Derived.Test.YtpkeacnacjnlcaaGreatK38
import Derived.Test.YtpkeacnacjnlcaaGreatK39
namespace Go.Proofs.YtpkeacnacjnlcaaGreat
open Go.RowKit Go.Lib
theorem plan_few {p:Plan} (h:SoundP p):2≤(planIts p).length∧(planIts p).length≤20000∧szL (planIts p)≤200000:=by
 have ok:=recOK_sound h
 have h1:=(listed_bd h.1).2.1
 have h2:=flat_few (ps:=p.parcels) fun x hx=>(ok.pcs x hx).2.2
 have h3:=(sound_ring h (.inl rfl)).2.2.1
 have h4:=chkN_le (n:=p.outer.length) (m:=8) (by have:=ok.out.2;omega)
 have hl:=h.1
 unfold listedB at hl
 simp only[Bool.and_eq_true]at hl
 have ho:=listN_own hl.1
 have h5:=szL_flat (ps:=p.parcels) fun x hx=>⟨(ok.pcs x hx).2.2,ho x hx⟩
 have h6:1≤chkN p.outer.length:=by unfold chkN;omega
 have h7:=ok.out.2
 have h8:1≤(p.parcels.flatMap parIts).length:=by
  have he:(⟨ptAt p.outer 0,ptAt p.outer ((0+1)%p.outer.length)⟩:Ed)∈edgesOf p.outer:=List.mem_map.2 ⟨0,List.mem_range.2 (by omega),rfl⟩
  have hm:=h.2.2.2.1.2.1 _ he
  unfold allE at hm
  obtain⟨x,hx,-⟩:=List.mem_flatMap.1 hm
  refine List.length_pos_of_mem (a:=⟨pcHead x.id++[0],x.owner.data.toList⟩) (List.mem_flatMap.2 ⟨x,hx,?_⟩)
  rw[parIts_eq]
  exact List.mem_append.2 (.inl (List.mem_cons_self ..))
 unfold planIts
 rw[szL_append,szL_ring,List.length_append]
 unfold ringIts
 rw[List.length_map,List.length_range]
 omega
/-- What a list of items is answered that is a plan's, in whatever order, or none's. -/
theorem plan_yes {L:List It} {p:Plan} {w:World} {e:Ending} {w':World} (hs:SoundP p) (hp:L.Perm (planIts p)) (h:PlanPostR L w e w'):Below w.heap.size w w'∧∃A n c A' n' c',e= .returned (.tuple #[planV A n c A' n' c',.int .i64 0])∧PlanAt w' w'.heap.size A n c A' n' c' p:=by
 obtain⟨hb,h|h⟩:=h
 ·obtain⟨q,A,n,c,A',n',c',hs',hq,hp2,he,ho⟩:=h
  have e1:q=p:=its_uniq (recOK_sound (planB_sound hq)) (recOK_sound hs) (hp2.symm.trans hp)
  subst e1
  exact⟨hb,A,n,c,A',n',c',he,ho.at_⟩
 ·exact absurd hp (h.1 p (by unfold planB;simpa using hs))
theorem plan_no {L:List It} {w:World} {e:Ending} {w':World} (hp:∀q,SoundP q→¬L.Perm (planIts q)) (h:PlanPostR L w e w'):Below w.heap.size w w'∧e= .returned (.tuple #[planV none 0 0 none 0 0,.int .i64 2]):=by
 obtain⟨hb,h|h⟩:=h
 ·obtain⟨q,A,n,c,A',n',c',hs',hq,hp2,he,ho⟩:=h
  exact absurd hp2 (hp q (planB_sound hq))
 ·exact⟨hb,h.2⟩
theorem boxH (V:World) {Z:World} (A:Option Addr) (n c:Nat) (A':Option Addr) (n' c':Nat) (h:Z.heap.size≤V.heap.size):
 Below V.heap.size V (V.alloc (.cells #[.slice A n c,.slice A' n' c'] 30))∧PlK (V.alloc (.cells #[.slice A n c,.slice A' n' c'] 30)) V.heap.size A n c A' n' c'∧Z.heap.size≤V.heap.size:=⟨(Below.refl _ _).alloc (Nat.le_refl _) _,PlK.new V A n c A' n' c',h⟩
theorem its_kl {p:Plan} {x:It} (hx:x∈planIts p):x.k.length≤17:=by
 rcases mem_planIts hx with hm|⟨y,hy,hm⟩
 ·obtain⟨k,-,rfl⟩:=List.mem_map.1 hm
  simp
 ·rcases par_keys (List.mem_map.2 ⟨x,hm,rfl⟩)with ⟨c,e⟩|⟨f,-,e⟩|⟨f,-,e⟩
  ·rw[e,(head_six y.id c).1];decide
  ·rw[e];unfold edgKy;rw[List.length_cons,List.length_append,ptB_len,ptB_len];decide
  ·rw[e];unfold clKey;rw[List.length_cons,List.length_cons,List.length_cons,idBy_len];decide
theorem szL_mem {l:List It} {x:It} (h:x∈l):x.v.length≤szL l:=by
 obtain⟨a,b,rfl⟩:=List.append_of_mem h
 rw[show a++x::b=a++([x]++b) from rfl,szL_append,szL_append]
 unfold szL
 simp
 omega
theorem szL_set:∀(l:List It) (k:Nat) (x:It),szL (l.set k x)≤szL l+x.v.length
 |[],_,_=>by simp
 |y::l,0,x=>by
  show szL ([x]++l)≤szL ([y]++l)+_
  rw[szL_append,szL_append]
  have:szL [x]=x.v.length:=by unfold szL;simp
  omega
 |y::l,k+1,x=>by
  show szL ([y]++l.set k x)≤szL ([y]++l)+_
  rw[szL_append,szL_append]
  have:=szL_set l k x
  omega
theorem own_small {p:Plan} (hs:SoundP p) {d:List ItH} {W:World} (h:∀e∈d,RdIt W W.heap.size e) (hm:∀e∈d,e.1∈planIts p):∀e∈d,e.2.1.2.1≤140737488351232∧e.2.2.2.1≤140737488351232:=fun e he=>by
 have h1:=its_kl (hm e he)
 have h2:=szL_mem (hm e he)
 have h3:=(plan_few hs).2.2
 have h4:=(h e he).1.1.len8
 have h5:=(h e he).2.1.len8
 omega
theorem swap_perm {α:Type} {d:List α} {j k:Nat} (hj:j<d.length) (hk:k<d.length):((d.set j d[k]).set k d[j]).Perm d:=by
 exact List.set_set_perm hj hk
set_option maxRecDepth 100000 in
set_option maxHeartbeats 12800000 in
theorem recordBack_any (p:Plan) (A A':Option Addr) (n c n' c':Nat) (os:List UInt8) (B:Option Addr) (dc:Nat) (z b:Int) (w:World) (h:PlanAt w w.heap.size A n c A' n' c' p) (hr:Reads w w.heap.size 1 B os.length (u8s os)) (hz:0≤z∧z≤65535) (hb:0≤b∧b≤255):
 Calls Tryz.prog 6 #[planV A n c A' n' c',.slice B os.length dc,.int .u16 z,.int .u8 b] w fun e w'=>e= .returned (.bool true)∧Below w.heap.size w w':=by
 obtain⟨w1,hw1⟩:∃w1,w1=w.alloc (.cells #[.slice A n c,.slice A' n' c'] 30):=⟨_,rfl⟩
 have hB1:Below w.heap.size w w1:=by rw[hw1];exact(Below.refl _ _).alloc (Nat.le_refl _) _
 have hK1:PlK w1 w.heap.size A n c A' n' c':=by rw[hw1];exact PlK.new w A n c A' n' c'
 have H1:=Lib.hid (And.intro h (And.intro hK1 (And.intro hB1 hr)))
 clear h hB1 hK1 hr
 go_enter Tryz.func6,Tryz.ntmps6
 go_upto_region 1 with fail
 rw[←hw1]
 clear hw1
 go_wp2_with fail
 refine(ans14_any w1).mono ?_
 rintro e w2 ⟨rfl,hb2⟩
 have H2:=Lib.hid (And.intro (H1.out.1.on (below_on H1.out.2.2.1 (Nat.le_refl _) hb2)) (And.intro (H1.out.2.1.on hb2) (And.intro (below_on H1.out.2.2.1 (Nat.le_refl _) hb2) H1.out.2.2.2)))
 obtain⟨q1,q2,q3⟩:=H2.out.2.1.facts
 clear hb2 H1
 go_wp2_with fail
 refine(few14_any p A A' n c n' c' w2 H2.out.1).mono ?_
 rintro e w3 ⟨bf,rfl,hfew,hb3⟩
 have H3:=Lib.hid (And.intro (H2.out.1.on hb3) (And.intro (H2.out.2.1.on hb3) (And.intro (below_on H2.out.2.2.1 (Nat.le_refl _) hb3) H2.out.2.2.2)))
 obtain⟨q1,q2,q3⟩:=H3.out.2.1.facts
 clear hb3 H2 hfew
 rcases bf with _|_
 ·go_wp2_with fail
  refine(ans14_any w3).mono ?_
  rintro e w4 ⟨rfl,hb4⟩
  have H4:=Lib.hid (below_on H3.out.2.2.1 (Nat.le_refl _) hb4)
  clear hb4 H3
  go_wp2_with fail
  go_ret
  exact⟨rfl,H4.out⟩
 go_wp2_with fail
 refine(checkPR_any p A A' n c n' c' w3 H3.out.1).mono ?_
 rintro e w4 ⟨rfl,hb4⟩
 have H4:=Lib.hid (And.intro (H3.out.1.on hb4) (And.intro (H3.out.2.1.on hb4) (And.intro (below_on H3.out.2.2.1 (Nat.le_refl _) hb4) H3.out.2.2.2)))
 obtain⟨q1,q2,q3⟩:=H4.out.2.1.facts
 clear hb4 H3
 rcases hpb:planB p with _|_
 ·clear hpb
  go_wp2_with fail
  refine(ans14_any w4).mono ?_
  rintro e w5 ⟨rfl,hb5⟩
  have H5:=Lib.hid (below_on H4.out.2.2.1 (Nat.le_refl _) hb5)
  clear hb5 H4
  go_wp2_with fail
  go_ret
  exact⟨rfl,H5.out⟩
 have HS:=Lib.hid (planB_sound hpb)
 clear hpb
 go_wp2_with fail
 refine(itemsL_any p A A' n c n' c' w4 H4.out.1 HS.out).mono ?_
 rintro e X ⟨L,cL,d0,rfl,ho0,hd0,hb5⟩
 obtain⟨hf1,hf2,hf3⟩:=plan_few HS.out
 have hl0:d0.length=(planIts p).length:=by rw[←hd0,List.length_map]
 obtain⟨N,hN⟩:∃N,N=d0.length:=⟨_,rfl⟩
 rw[←hN]at ho0 ⊢
 obtain⟨lg,lc,e0,-,-⟩:=ho0.1.form (by omega)
 obtain⟨ad,rfl⟩:∃ad,L=some ad:=⟨_,by cases e0;rfl⟩
 have HN:Hid (2≤N∧N≤20000∧szL (planIts p)≤200000∧d0.length=N∧d0.map (·.1)=planIts p):=⟨by omega,by omega,hf3,hN.symm,hd0⟩
 have H5:=Lib.hid (And.intro ho0 hb5)
 clear e0 hf1 hf2 hf3 hl0 hN ho0 hd0 hb5 q1 q2 q3
 have hN0:¬((N:Int)=0):=by have:=HN.out.1;omega
 go_upto_block 0 with fail
 go_cut [] from 10 to 76 (fun wx=>∃d3:List ItH,Hid (d3.Perm d0∧ItsOwn w4.heap.size wx (some ad) N cL d3∧Below w4.heap.size w4 wx))
 case first=>
  go_wp2_with fail
  go_loopw [10] (fun i wr=>∃(j:Nat) (d3:List ItH),j≤os.length∧i= .int .i64 (j:Int)∧Hid (d3.Perm d0∧ItsOwn w4.heap.size wr (some ad) N cL d3∧Below w4.heap.size w4 wr)) (fun i _=>os.length-(intOf i).toNat)
  case atStart=>exact⟨0,d0,Nat.zero_le _,rfl,List.Perm.refl _,H5.out.1,H5.out.2⟩
  case round=>
   obtain⟨j,d3,hj,rfl,HW⟩:=hrel
   by_cases hlt:j<os.length
   ·have hlt':(j:Int)<(os.length:Int):=by omega
    by_cases h50:j<50
    ·have h50':(j:Int)<50:=by omega
     have hw1:IntKind.i64.wrap ((j:Int)+1)=(j:Int)+1:=by rw[IntKind.wrap_i64];omega
     obtain⟨od,u,rfl,-,hu,hcu⟩:=((H4.out.2.2.2.on H4.out.2.2.1).on HW.out.2.2).at_ (k:=j) hlt
     obtain⟨hjo,rfl⟩:=u8s_get hu
     obtain⟨ob,hob⟩:∃o:Nat,o=(os[j]).toNat:=⟨_,rfl⟩
     rw[←hob]at hcu
     have hob2:ob<256:=by rw[hob];exact UInt8.toNat_lt _
     obtain⟨jj,hjj⟩:∃q:Nat,q=j%N:=⟨_,rfl⟩
     obtain⟨kk,hkk⟩:∃q:Nat,q=ob%N:=⟨_,rfl⟩
     have hjN:jj<N:=by rw[hjj];exact Nat.mod_lt _ (by have:=HN.out.1;omega)
     have hkN:kk<N:=by rw[hkk];exact Nat.mod_lt _ (by have:=HN.out.1;omega)
     have hr3:(j:Int).tmod (N:Int)=(jj:Int):=by rw[hjj];rfl
     have hr4:(IntKind.i64.wrap (ob:Int)).tmod (N:Int)=(kk:Int):=by rw[hkk,show IntKind.i64.wrap (ob:Int)=(ob:Int) by rw[IntKind.wrap_i64];omega];rfl
     have HR34:=Lib.hid (And.intro hr3 hr4)
     clear hr3 hr4
     have hr1:(j:Int)%(N:Int)=(jj:Int):=by rw[hjj];exact(Int.natCast_emod j N).symm
     have hr2:(ob:Int)%(N:Int)=(kk:Int):=by rw[hkk];exact(Int.natCast_emod ob N).symm
     have hNz:¬N=0:=by have:=HN.out.1;omega
     clear hu hob
     go_upto_region 7 with fail
     refine wp_region_held_drew (S:=fun V=>V.cell? (od.add j)=some (.int .u8 (ob:Int))) (by kernel_rfl) ?_ (fun hHeld=>?_)
     ·exact hcu
     refine tk 0 ?_
     refine tk 1 ?_
     refine tk 2 ?_
     refine tk 3 ?_
     refine tk 4 ?_
     refine tk 5 ?_
     refine tk 6 ?_
     refine tk 7 ?_
     refine tk 8 ?_
     refine tk 9 ?_
     refine tk 10 ?_
     refine tk 11 ?_
     refine tk 12 ?_
     refine tk 13 ?_
     refine wpAnyH_done (by kernel_rfl) ?_ _
     obtain⟨hr3,hr4⟩:=HR34.out
     rw[hr3,hr4]
     have hW0:=HW.out.2.1.below (Below.refl wr.heap.size wr).drew
     have hB0:Below w4.heap.size w4 wr.drew:=HW.out.2.2.drew
     have HPM:=Lib.hid HW.out.1
     obtain⟨V0,hV0⟩:∃V,V=wr.drew:=⟨_,rfl⟩
     rw[←hV0]at hW0 hB0 ⊢
     clear HR34 hr1 hr2 hr3 hr4 hcu hHeld hob2 hjj hkk HW hV0 hjo
     have hdl:d3.length=N:=hW0.len
     obtain⟨-,p1,p2⟩:=hW0.at_.cells hjN (by omega)
     obtain⟨x,hx⟩:∃x,x=d3[jj]'(by omega):=⟨_,rfl⟩
     obtain⟨y,hy⟩:∃y,y=d3[kk]'(by omega):=⟨_,rfl⟩
     have hxo:OwnIt w4.heap.size V0 x:=by rw[hx];exact hW0.2 _ (List.getElem_mem _)
     have hyo:OwnIt w4.heap.size V0 y:=by rw[hy];exact hW0.2 _ (List.getElem_mem _)
     have hpm:((d3.set jj y).set kk x).Perm d0:=by rw[hx,hy];exact(swap_perm (by omega) (by omega)).trans HPM.out
     rw[←hx]at p1 p2
     obtain⟨⟨xk,xv⟩,⟨X1,xn,xc⟩,⟨X2,xm,xd⟩⟩:=x
     simp only at p1 p2
     obtain⟨V1,hV1⟩:∃V,V=V0.alloc (.cells #[.slice X1 xn xc,.slice X2 xm xd] 52):=⟨_,rfl⟩
     have hb1:Below V0.heap.size V0 V1:=by rw[hV1];exact(Below.refl _ _).alloc (Nat.le_refl _) _
     obtain⟨xb,hxb⟩:∃g,g=V0.heap.size:=⟨_,rfl⟩
     have b1:Blk V1 xb 52 #[.slice X1 xn xc,.slice X2 xm xd]:=by rw[hV1,hxb];exact Blk.new V0 _ _
     have hW1:=hW0.below hb1
     have hB1:=below_on hB0 (Nat.le_refl _) hb1
     obtain⟨-,s1,s2⟩:=hW1.at_.cells hjN (by omega)
     obtain⟨-,r1,r2⟩:=hW1.at_.cells hkN (by omega)
     rw[←hx]at s1 s2
     rw[←hy]at r1 r2
     simp only at s1 s2
     obtain⟨⟨yk,yv⟩,⟨Y1,yn,yc⟩,⟨Y2,ym,yd⟩⟩:=y
     simp only at r1 r2
     obtain⟨hP,f1,f2,hbs,hlt2,-,hoth,hown,f3,u1,hu1⟩:=hW1.put hjN (⟨yk,yv⟩,(Y1,yn,yc),(Y2,ym,yd)) (hyo.below hb1)
     simp only[hdV]at hP hoth hown f3 hu1
     have hxb2:xb≠ad.block:=by have:=(hW0.1.lt ad.block rfl).2;omega
     have b2:Blk ((V1.setCell (ad.add (jj*2)) (.slice Y1 yn yc)).setCell ⟨(ad.add (jj*2)).block,(ad.add (jj*2)).off+1,none⟩ (.slice Y2 ym yd)) xb 52 #[.slice X1 xn xc,.slice X2 xm xd]:=(hoth xb hxb2).trans b1
     have hB2:Below w4.heap.size w4 ((V1.setCell (ad.add (jj*2)) (.slice Y1 yn yc)).setCell ⟨(ad.add (jj*2)).block,(ad.add (jj*2)).off+1,none⟩ (.slice Y2 ym yd)):=(hB1.setCell (p:=ad.add (jj*2)) (by rw[block_of_add];exact hbs) _).setCell (p:=⟨(ad.add (jj*2)).block,(ad.add (jj*2)).off+1,none⟩) (by simp only[block_of_add];exact hbs) _
     have hx2:=hown _ _ (hxo.below hb1)
     obtain⟨V2,hV2⟩:∃V,V=(V1.setCell (ad.add (jj*2)) (.slice Y1 yn yc)).setCell ⟨(ad.add (jj*2)).block,(ad.add (jj*2)).off+1,none⟩ (.slice Y2 ym yd):=⟨_,rfl⟩
     rw[←hV2]at hP b2 hB2 hx2
     have HH:=Lib.hid (And.intro hP (And.intro b2 (And.intro hB2 (And.intro hx2 (And.intro hbs hpm)))))
     have hjlt:j+1≤os.length:=by omega
     clear hW0 hB0 hx hy hxo hyo hb1 b1 hW1 hB1 hP hbs hlt2 hoth hown hxb2 b2 hB2 hx2 hdl hpm
     go_upto_region 9 with fail
     rw[←hV1,←hxb]
     clear hV1 hxb p1 p2
     go_upto_region 10 with fail
     rw[←hV2]
     clear hV2 s1 s2 r1 r2 f1 f2 f3 hu1
     obtain⟨hP2,f1,f2,-,-,-,-,-,f3,u2,hu2⟩:=HH.out.1.put hkN (⟨xk,xv⟩,(X1,xn,xc),(X2,xm,xd)) HH.out.2.2.2.1
     simp only[hdV]at hP2 f3 hu2
     obtain⟨-,s1,s2⟩:=HH.out.1.at_.cells hkN (by rw[HH.out.1.len];exact hkN)
     have z1:=Blk.cell (i:=0) HH.out.2.1
     have z2:=Blk.cell (i:=1) HH.out.2.1
     simp only[List.getElem?_toArray,List.getElem?_cons_zero,List.getElem?_cons_succ]at z1 z2
     have HQ:=Lib.hid (And.intro hP2 (show Below w4.heap.size w4 ((V2.setCell (ad.add (kk*2)) (.slice X1 xn xc)).setCell ⟨(ad.add (kk*2)).block,(ad.add (kk*2)).off+1,none⟩ (.slice X2 xm xd)) from(HH.out.2.2.1.setCell (p:=ad.add (kk*2)) (by rw[block_of_add];exact HH.out.2.2.2.2.1) _).setCell (p:=⟨(ad.add (kk*2)).block,(ad.add (kk*2)).off+1,none⟩) (by simp only[block_of_add];exact HH.out.2.2.2.2.1) _))
     clear hP2
     go_wp2_with fail
     go_roundw
     case rel=>exact⟨j+1,_,hjlt,by go_num,HH.out.2.2.2.2.2,HQ.out.1,HQ.out.2⟩
     case measure=>simp[intOf];omega
    ·have h50':¬((j:Int)<50):=by omega
     go_wp2_with fail
     go_meet
     exact⟨d3,HW⟩
   ·have hje:j=os.length:=by omega
    clear hlt hj
    subst hje
    go_wp2_with fail
    go_meet
    exact⟨d3,HW⟩
 case rest=>
  obtain⟨Y,rfl⟩:∃V,V=wc:=⟨_,rfl⟩
  obtain⟨d3,H6⟩:=hcut
  have hm3:∀e∈d3,e.1∈planIts p:=fun e he=>by rw[←HN.out.2.2.2.2];exact List.mem_map.2 ⟨e,H6.out.1.mem_iff.1 he,rfl⟩
  have hp3:(d3.map (·.1)).Perm (planIts p):=by rw[←HN.out.2.2.2.2];exact H6.out.1.map _
  have hz3:szL (planIts p)≤200000:=HN.out.2.2.1
  have h3l:d3.length=N:=H6.out.2.1.len
  have HM:=Lib.hid (And.intro hm3 (And.intro hp3 h3l))
  have KO:=Lib.hid (fun V (hV:Below Y.heap.size Y V)=>ownL_any d3 (some ad) N cL V (H6.out.2.1.below hV).at_ (by have:=HN.out.2.1;omega) (own_small HS.out (H6.out.2.1.below hV).at_.2.1 HM.out.1))
  clear hm3 hp3 hz3 h3l
  go_wp2_with fail
  refine(KO.out Y (Below.refl _ _)).mono ?_
  rintro e w5 ⟨B5,c5,d5,rfl,ho5,hd5,hb5,-⟩
  have hp5:(d5.map (·.1)).Perm (planIts p):=by rw[hd5];exact HM.out.2.1
  have KP:=Lib.hid (planR_any d5 B5 N c5 w5 ho5.at_ (by have:=HN.out.1;omega) (by have:=HN.out.2.1;omega) ho5.addr (by rw[szL_perm hp5];have:=HN.out.2.2.1;omega))
  have H7:=Lib.hid (And.intro hp5 hb5)
  clear ho5 hd5 hb5 hp5
  go_wp2_with fail
  refine KP.out.mono ?_
  rintro e w6 hpost
  obtain⟨hb6,A6,n6,c6,A7,n7,c7,rfl,hP6⟩:=plan_yes HS.out H7.out.1 hpost
  obtain⟨Z,hZ⟩:∃V,V=w6.alloc (.cells #[.slice A6 n6 c6,.slice A7 n7 c7] 30):=⟨_,rfl⟩
  obtain⟨gq,hgq⟩:∃g,g=w6.heap.size:=⟨_,rfl⟩
  have hb7:Below Y.heap.size Y Z:=by rw[hZ];exact(below_on H7.out.2 (Nat.le_refl _) hb6).alloc (Nat.le_trans H7.out.2.size hb6.size) _
  have hP7:PlanAt Z Z.heap.size A6 n6 c6 A7 n7 c7 p:=hP6.on (by rw[hZ];exact(Below.refl _ _).alloc (Nat.le_refl _) _)
  have hK7:PlK Z gq A6 n6 c6 A7 n7 c7:=by rw[hZ,hgq];exact PlK.new w6 A6 n6 c6 A7 n7 c7
  have H8:=Lib.hid (And.intro hP7 (And.intro hK7 hb7))
  clear hpost hb6 hP6 hb7 hP7 hK7 H7 KP
  go_upto_region 12 with fail
  rw[←hZ,←hgq]
  clear hZ hgq
  obtain⟨zn,rfl⟩:∃q:Nat,z=(q:Int):=⟨z.toNat,by omega⟩
  obtain⟨kk,hkk⟩:∃q:Nat,q=zn%N:=⟨_,rfl⟩
  have hkN:kk<N:=by rw[hkk];exact Nat.mod_lt _ (by have:=HN.out.1;omega)
  have hNz:¬N=0:=by have:=HN.out.1;omega
  have e1:(zn:Int)%(N:Int)=(kk:Int):=by rw[hkk];exact(Int.natCast_emod zn N).symm
  have HK1:=Lib.hid (And.intro e1 hkk)
  clear hkk e1
  go_upto_region 13 with fail
  rw[HK1.out.1]
  have hcap:N≤cL:=(own_cap H6.out.2.1.1).1
  have hwk:IntKind.i64.wrap ((kk:Int)+1)=(kk:Int)+1:=by rw[IntKind.wrap_i64];have:=HN.out.2.1;omega
  have hk20:kk≤20000:=by have:=HN.out.2.1;omega
  have hkc:kk≤cL:=by omega
  have hk1:kk+1≤N:=by omega
  have hk1c:kk+1≤cL:=by omega
  have hki0:0≤(kk:Int)+1:=by omega
  have hki2:(kk:Int)+1≤(cL:Int):=by omega
  have hki1:(kk:Int)+1≤(N:Int):=by omega
  obtain⟨i1,hi1,hx0,hz1,hz2⟩:=info_parts info_it
  have HY:=Lib.hid (fun V (hV:Below Z.heap.size Z V)=>H6.out.2.1.below (below_on H8.out.2.2 (Nat.le_refl _) hV))
  have k1:=fun V (hV:Below Z.heap.size Z V)=>ownL_any (d3.take kk) (some ad) kk cL V ((HY.out V hV).at_.take (by omega)) (by omega) (own_small HS.out ((HY.out V hV).at_.take (k:=kk) (by omega)).2.1 (fun e he=>HM.out.1 e (List.mem_of_mem_take he)))
  have k2:=fun V (hV:Below Z.heap.size Z V)=>ownL_any (d3.drop (kk+1)) (if cL=kk+1 then some ad else some (ad.add ((kk+1)*2))) (N-(kk+1)) (cL-(kk+1)) V ((HY.out V hV).at_.drop (k:=kk+1) hk1) (by have:=HN.out.2.1;omega) (own_small HS.out ((HY.out V hV).at_.drop (k:=kk+1) hk1).2.1 (fun e he=>HM.out.1 e (List.mem_of_mem_drop he)))
  have hdk:kk<d3.length:=by rw[HM.out.2.2];exact hkN
  have hsp:(d3[kk].1::(d3.take kk++d3.drop (kk+1)).map (·.1)).Perm (planIts p):=by
   refine List.Perm.trans ?_ HM.out.2.1
   conv=>rhs;rw[←List.take_append_drop kk d3,List.drop_eq_getElem_cons hdk]
   rw[List.map_append,List.map_append,List.map_cons]
   exact List.perm_middle.symm
  have hn3:kk+(N-(kk+1))=N-1:=by omega
  have HNO:Hid (2≤N∧∀q,SoundP q→¬((d3.take kk).map (·.1)++(d3.drop (kk+1)).map (·.1)).Perm (planIts q)):=⟨HN.out.1,fun q hq hp=>without_none HS.out hq (by rw[List.map_append]at hsp;exact hsp) hp⟩
  have k3:=fun V D3 c3 (dd:List ItH) (hV:Below Z.heap.size Z V) (ho:ItsOwn Z.heap.size V D3 (kk+(N-(kk+1))) c3 dd) (hd:dd.map (·.1)=(d3.take kk).map (·.1)++(d3.drop (kk+1)).map (·.1))=>(planR_any dd D3 (kk+(N-(kk+1))) c3 V ho.at_ (by have:=HNO.out.1;have:=HN.out.1;omega) (by have:=HN.out.2.1;omega) ho.addr (by rw[hd];have h1:=szL_perm hsp;rw[List.map_append]at h1;have h2:=HN.out.2.2.1;have h3:szL (d3[kk].1::((d3.take kk).map (·.1)++(d3.drop (kk+1)).map (·.1)))=d3[kk].1.v.length+szL ((d3.take kk).map (·.1)++(d3.drop (kk+1)).map (·.1)):=rfl;omega)).mono fun e w' hh=>plan_no (by rw[hd];exact HNO.out.2) hh
  have HAP:Hid (kk+(N-(kk+1))≤maxLen∧(kk+(N-(kk+1)))*48≤140737488355328):=⟨by have:=HN.out.2.1;simp only[maxLen];omega,by have:=HN.out.2.1;omega⟩
  clear hsp hn3 hdk
  have HK:=(Below.refl Z.heap.size Z).drew
  go_cut [17,18] from 88 to 101 (fun s17 s wx=>s= .int .i64 2∧Below Z.heap.size Z wx)
  case first=>
   refine wp_region_held_drew (S:=fun V=>Below Z.heap.size Z V) (by kernel_rfl) ?_ (fun hHeld=>?_)
   ·exact(Below.refl _ _).drew
   generalize Z.drew=V0 at HK hHeld ⊢
   refine tk 0 ?_
   refine tk 1 ?_
   refine tk 2 ?_
   refine tk 4 ?_
   refine tk 5 ?_
   refine tk 6 ?_
   refine tk 7 ?_
   generalize (if cL=kk+1 then some ad else some (ad.add ((kk+1)*2)))=AD2 at k2 ⊢
   refine twoH 3 14 (callH (k1 _ HK) ?_) (yieldH ((HK).alloc (HK).size (.cells #[.slice none 0 0,.slice none 0 0] 30)) fun hHeld=>?_)
   ·rintro e U1 ⟨D1,c1,d1,rfl,o1,m1,hbn,-⟩
    have HM1:=Lib.hid m1
    clear m1
    have HK2:=And.intro (below_on HK (Nat.le_refl _) hbn) (o1.mono HK.size)
    have HK:=HK2
    clear HK2
    clear hbn o1
    refine nxt (HK.1) fun hHeld=>?_
    refine twoH 8 14 (callH (k2 _ HK.1) ?_) (yieldH ((HK.1).alloc (HK.1).size (.cells #[.slice none 0 0,.slice none 0 0] 30)) fun hHeld=>?_)
    ·rintro e U2 ⟨D2,c2,d2,rfl,o2,m2,hbn,-⟩
     have HM2:=Lib.hid m2
     clear m2
     have HK2:=And.intro (below_on HK.1 (Nat.le_refl _) hbn) (And.intro (HK.2.below hbn) (o2.mono HK.1.size))
     have HK:=HK2
     clear HK2
     clear hbn o2
     refine nxt (HK.1) fun hHeld=>?_
     refine twoH 9 14 (appH (.tmp 92) (.tmp 97) _ Z.heap.size 52 i1 _ 2 48 Tryz.underlying43 hi1 hx0 hz1 hz2 (.slice D1 kk c1) kk _ HK.2.1.1 _ D2 (N-(kk+1)) c2 _ HK.2.2.at_.1 (itsV_one _) HAP.out.1 HAP.out.2 HK.1.size ?_) (yieldH ((HK.1).alloc (HK.1).size (.cells #[.slice none 0 0,.slice none 0 0] 30)) fun hHeld=>?_)
     ·intro v3 U3 hown hg hat
      obtain⟨D3,c3,rfl⟩:=own_form hown
      have HK2:=And.intro (HK.1.grown hg HK.1.size (fun j e=>(HK.2.1.1.lt j e).1)) (HK.2.1.append HK.2.2.2 hown hg)
      have HK:=HK2
      clear HK2
      clear hown hg hat
      refine nxt (HK.1) fun hHeld=>?_
      refine twoH 10 14 (callH (k3 U3 D3 c3 _ HK.1 HK.2 (by rw[List.map_append,HM1.out,HM2.out])) ?_) (yieldH ((HK.1).alloc (HK.1).size (.cells #[.slice none 0 0,.slice none 0 0] 30)) fun hHeld=>?_)
      ·rintro e U4 ⟨hbn,rfl⟩
       have HK2:=below_on HK.1 (Nat.le_refl _) hbn
       have HK:=HK2
       clear HK2
       clear hbn
       refine nxt (HK) fun hHeld=>?_
       refine tk 11 ?_
       refine tk 12 ?_
       refine tk 13 ?_
       refine oneH 14 (yieldH ((HK).alloc (HK).size (.cells #[.slice none 0 0,.slice none 0 0] 30)) fun hHeld=>?_)
       have HX:=boxH U4 none 0 0 none 0 0 (HK).size
       have hbn:=HX.1
       have HBX:=HX.2
       clear HX
       have HK2:=below_on HK (Nat.le_refl _) hbn
       have HK:=HK2
       clear HK2
       clear hbn
       generalize (World.alloc U4 _)=U5 at HK HBX hHeld ⊢
       generalize (World.heap U4).size=G5 at HBX ⊢
       obtain⟨y1,y2,y3,y4⟩:=plk_facts4 HBX.1
       refine oneH 15 (storeH ((HK.setCell (p:=⟨G5,0,none⟩) HBX.2 (.slice none 0 0)).setCell (p:=⟨G5,1,none⟩) HBX.2 (.slice none 0 0)) fun hHeld=>?_)
       refine tk 16 ?_
       refine wpAnyH_done (by kernel_rfl) ?_ _
       go_wp2_with fail
       go_meet
       exact⟨rfl,hHeld⟩
      ·have HX:=boxH U3 none 0 0 none 0 0 (HK.1).size
       have hbn:=HX.1
       have HBX:=HX.2
       clear HX
       have HK2:=And.intro (below_on HK.1 (Nat.le_refl _) hbn) (HK.2.below hbn)
       have HK:=HK2
       clear HK2
       clear hbn
       generalize (World.alloc U3 _)=U4 at HK HBX hHeld ⊢
       generalize (World.heap U3).size=G4 at HBX ⊢
       refine oneH 10 (callH (k3 U4 D3 c3 _ HK.1 HK.2 (by rw[List.map_append,HM1.out,HM2.out])) ?_)
       rintro e U7 ⟨hbn,rfl⟩
       have HBX2:=And.intro ((show PlK _ _ none 0 0 none 0 0 from HBX.1).on hbn) HBX.2
       have HBX:=HBX2
       clear HBX2
       have HK2:=below_on HK.1 (Nat.le_refl _) hbn
       have HK:=HK2
       clear HK2
       clear hbn
       refine nxt (HK) fun hHeld=>?_
       refine tk 11 ?_
       refine tk 12 ?_
       refine tk 13 ?_
       obtain⟨y1,y2,y3,y4⟩:=plk_facts4 HBX.1
       refine oneH 15 (storeH ((HK.setCell (p:=⟨G4,0,none⟩) HBX.2 (.slice none 0 0)).setCell (p:=⟨G4,1,none⟩) HBX.2 (.slice none 0 0)) fun hHeld=>?_)
       refine tk 16 ?_
       refine wpAnyH_done (by kernel_rfl) ?_ _
       go_wp2_with fail
       go_meet
       exact⟨rfl,hHeld⟩
     ·have HX:=boxH U2 none 0 0 none 0 0 (HK.1).size
      have hbn:=HX.1
      have HBX:=HX.2
      clear HX
      have HK2:=And.intro (below_on HK.1 (Nat.le_refl _) hbn) (And.intro (HK.2.1.below hbn) (HK.2.2.below hbn))
      have HK:=HK2
      clear HK2
      clear hbn
      generalize (World.alloc U2 _)=U3 at HK HBX hHeld ⊢
      generalize (World.heap U2).size=G3 at HBX ⊢
      refine oneH 9 (appH (.tmp 92) (.tmp 97) _ Z.heap.size 52 i1 _ 2 48 Tryz.underlying43 hi1 hx0 hz1 hz2 (.slice D1 kk c1) kk _ HK.2.1.1 _ D2 (N-(kk+1)) c2 _ HK.2.2.at_.1 (itsV_one _) HAP.out.1 HAP.out.2 HK.1.size ?_)
      intro v9 U9 hown hg hat
      obtain⟨D3,c3,rfl⟩:=own_form hown
      have HBX2a:=(put_keeps HK.2.1 hg).1 _ _ _ (by decide) HBX.1
      have HBX2:=And.intro HBX2a HBX.2
      have HBX:=HBX2
      clear HBX2
      clear HBX2a
      have HK2:=And.intro (HK.1.grown hg HK.1.size (fun j e=>(HK.2.1.1.lt j e).1)) (HK.2.1.append HK.2.2.2 hown hg)
      have HK:=HK2
      clear HK2
      clear hown hg hat
      refine nxt (HK.1) fun hHeld=>?_
      refine oneH 10 (callH (k3 U9 D3 c3 _ HK.1 HK.2 (by rw[List.map_append,HM1.out,HM2.out])) ?_)
      rintro e U10 ⟨hbn,rfl⟩
      have HBX2:=And.intro ((show PlK _ _ none 0 0 none 0 0 from HBX.1).on hbn) HBX.2
      have HBX:=HBX2
      clear HBX2
      have HK2:=below_on HK.1 (Nat.le_refl _) hbn
      have HK:=HK2
      clear HK2
      clear hbn
      refine nxt (HK) fun hHeld=>?_
      refine tk 11 ?_
      refine tk 12 ?_
      refine tk 13 ?_
      obtain⟨y1,y2,y3,y4⟩:=plk_facts4 HBX.1
      refine oneH 15 (storeH ((HK.setCell (p:=⟨G3,0,none⟩) HBX.2 (.slice none 0 0)).setCell (p:=⟨G3,1,none⟩) HBX.2 (.slice none 0 0)) fun hHeld=>?_)
      refine tk 16 ?_
      refine wpAnyH_done (by kernel_rfl) ?_ _
      go_wp2_with fail
      go_meet
      exact⟨rfl,hHeld⟩
    ·have HX:=boxH U1 none 0 0 none 0 0 (HK.1).size
     have hbn:=HX.1
     have HBX:=HX.2
     clear HX
     have HK2:=And.intro (below_on HK.1 (Nat.le_refl _) hbn) (HK.2.below hbn)
     have HK:=HK2
     clear HK2
     clear hbn
     generalize (World.alloc U1 _)=U2 at HK HBX hHeld ⊢
     generalize (World.heap U1).size=G2 at HBX ⊢
     refine oneH 8 (callH (k2 _ HK.1) ?_)
     rintro e U12 ⟨D2,c2,d2,rfl,o2,m2,hbn,-⟩
     have HM2:=Lib.hid m2
     clear m2
     have HBX2:=And.intro ((show PlK _ _ none 0 0 none 0 0 from HBX.1).on hbn) HBX.2
     have HBX:=HBX2
     clear HBX2
     have HK2:=And.intro (below_on HK.1 (Nat.le_refl _) hbn) (And.intro (HK.2.below hbn) (o2.mono HK.1.size))
     have HK:=HK2
     clear HK2
     clear hbn o2
     refine nxt (HK.1) fun hHeld=>?_
     refine oneH 9 (appH (.tmp 92) (.tmp 97) _ Z.heap.size 52 i1 _ 2 48 Tryz.underlying43 hi1 hx0 hz1 hz2 (.slice D1 kk c1) kk _ HK.2.1.1 _ D2 (N-(kk+1)) c2 _ HK.2.2.at_.1 (itsV_one _) HAP.out.1 HAP.out.2 HK.1.size ?_)
     intro v13 U13 hown hg hat
     obtain⟨D3,c3,rfl⟩:=own_form hown
     have HBX2a:=(put_keeps HK.2.1 hg).1 _ _ _ (by decide) HBX.1
     have HBX2:=And.intro HBX2a HBX.2
     have HBX:=HBX2
     clear HBX2
     clear HBX2a
     have HK2:=And.intro (HK.1.grown hg HK.1.size (fun j e=>(HK.2.1.1.lt j e).1)) (HK.2.1.append HK.2.2.2 hown hg)
     have HK:=HK2
     clear HK2
     clear hown hg hat
     refine nxt (HK.1) fun hHeld=>?_
     refine oneH 10 (callH (k3 U13 D3 c3 _ HK.1 HK.2 (by rw[List.map_append,HM1.out,HM2.out])) ?_)
     rintro e U14 ⟨hbn,rfl⟩
     have HBX2:=And.intro ((show PlK _ _ none 0 0 none 0 0 from HBX.1).on hbn) HBX.2
     have HBX:=HBX2
     clear HBX2
     have HK2:=below_on HK.1 (Nat.le_refl _) hbn
     have HK:=HK2
     clear HK2
     clear hbn
     refine nxt (HK) fun hHeld=>?_
     refine tk 11 ?_
     refine tk 12 ?_
     refine tk 13 ?_
     obtain⟨y1,y2,y3,y4⟩:=plk_facts4 HBX.1
     refine oneH 15 (storeH ((HK.setCell (p:=⟨G2,0,none⟩) HBX.2 (.slice none 0 0)).setCell (p:=⟨G2,1,none⟩) HBX.2 (.slice none 0 0)) fun hHeld=>?_)
     refine tk 16 ?_
     refine wpAnyH_done (by kernel_rfl) ?_ _
     go_wp2_with fail
     go_meet
     exact⟨rfl,hHeld⟩
   ·have HX:=boxH V0 none 0 0 none 0 0 (HK).size
    have hbn:=HX.1
    have HBX:=HX.2
    clear HX
    have HK2:=below_on HK (Nat.le_refl _) hbn
    have HK:=HK2
    clear HK2
    clear hbn
    generalize (World.alloc V0 _)=U1 at HK HBX hHeld ⊢
    generalize (World.heap V0).size=G1 at HBX ⊢
    refine oneH 3 (callH (k1 _ HK) ?_)
    rintro e U16 ⟨D1,c1,d1,rfl,o1,m1,hbn,-⟩
    have HM1:=Lib.hid m1
    clear m1
    have HBX2:=And.intro ((show PlK _ _ none 0 0 none 0 0 from HBX.1).on hbn) HBX.2
    have HBX:=HBX2
    clear HBX2
    have HK2:=And.intro (below_on HK (Nat.le_refl _) hbn) (o1.mono HK.size)
    have HK:=HK2
    clear HK2
    clear hbn o1
    refine nxt (HK.1) fun hHeld=>?_
    refine oneH 8 (callH (k2 _ HK.1) ?_)
    rintro e U17 ⟨D2,c2,d2,rfl,o2,m2,hbn,-⟩
    have HM2:=Lib.hid m2
    clear m2
    have HBX2:=And.intro ((show PlK _ _ none 0 0 none 0 0 from HBX.1).on hbn) HBX.2
    have HBX:=HBX2
    clear HBX2
    have HK2:=And.intro (below_on HK.1 (Nat.le_refl _) hbn) (And.intro (HK.2.below hbn) (o2.mono HK.1.size))
    have HK:=HK2
    clear HK2
    clear hbn o2
    refine nxt (HK.1) fun hHeld=>?_
    refine oneH 9 (appH (.tmp 92) (.tmp 97) _ Z.heap.size 52 i1 _ 2 48 Tryz.underlying43 hi1 hx0 hz1 hz2 (.slice D1 kk c1) kk _ HK.2.1.1 _ D2 (N-(kk+1)) c2 _ HK.2.2.at_.1 (itsV_one _) HAP.out.1 HAP.out.2 HK.1.size ?_)
    intro v18 U18 hown hg hat
    obtain⟨D3,c3,rfl⟩:=own_form hown
    have HBX2a:=(put_keeps HK.2.1 hg).1 _ _ _ (by decide) HBX.1
    have HBX2:=And.intro HBX2a HBX.2
    have HBX:=HBX2
    clear HBX2
    clear HBX2a
    have HK2:=And.intro (HK.1.grown hg HK.1.size (fun j e=>(HK.2.1.1.lt j e).1)) (HK.2.1.append HK.2.2.2 hown hg)
    have HK:=HK2
    clear HK2
    clear hown hg hat
    refine nxt (HK.1) fun hHeld=>?_
    refine oneH 10 (callH (k3 U18 D3 c3 _ HK.1 HK.2 (by rw[List.map_append,HM1.out,HM2.out])) ?_)
    rintro e U19 ⟨hbn,rfl⟩
    have HBX2:=And.intro ((show PlK _ _ none 0 0 none 0 0 from HBX.1).on hbn) HBX.2
    have HBX:=HBX2
    clear HBX2
    have HK2:=below_on HK.1 (Nat.le_refl _) hbn
    have HK:=HK2
    clear HK2
    clear hbn
    refine nxt (HK) fun hHeld=>?_
    refine tk 11 ?_
    refine tk 12 ?_
    refine tk 13 ?_
    obtain⟨y1,y2,y3,y4⟩:=plk_facts4 HBX.1
    refine oneH 15 (storeH ((HK.setCell (p:=⟨G1,0,none⟩) HBX.2 (.slice none 0 0)).setCell (p:=⟨G1,1,none⟩) HBX.2 (.slice none 0 0)) fun hHeld=>?_)
    refine tk 16 ?_
    refine wpAnyH_done (by kernel_rfl) ?_ _
    go_wp2_with fail
    go_meet
    exact⟨rfl,hHeld⟩
  case rest=>
   obtain⟨Z2,rfl⟩:∃V,V=wc:=⟨_,rfl⟩
   obtain⟨rfl,hbc⟩:=hcut
   have hI2:=HY.out Z2 hbc
   have H9:=Lib.hid (And.intro hI2 (And.intro (H8.out.1.on hbc) (And.intro (H8.out.2.1.on hbc) (below_on H8.out.2.2 (Nat.le_refl _) hbc))))
   clear hI2 hbc k1 k2 k3 HNO HAP HK HY
   have hkl:¬cL=kk:=by omega
   have HY:=Lib.hid (fun V (hV:Below Z2.heap.size Z2 V)=>H9.out.1.below hV)
   have k1:=fun V (hV:Below Z2.heap.size Z2 V)=>ownL_any d3 (some ad) N cL V (HY.out V hV).at_ (by have:=HN.out.2.1;omega) (own_small HS.out (HY.out V hV).at_.2.1 HM.out.1)
   have hdk:kk<d3.length:=by rw[HM.out.2.2];exact hkN
   have hone:(d3.take (kk+1)).drop kk=[d3[kk]]:=by rw[List.take_succ_eq_append_getElem hdk,List.drop_left' (by rw[List.length_take];omega)]
   have k2:=fun V (hV:Below Z2.heap.size Z2 V)=>by
    have h1:=((HY.out V hV).at_.take (k:=kk+1) hk1).drop (k:=kk) (by omega)
    rw[if_neg hkl,hone,show kk+1-kk=1 by omega]at h1
    exact ownL_any [d3[kk]] (some (ad.add (kk*2))) 1 (cL-kk) V h1 (by decide) (own_small HS.out h1.2.1 (fun e he=>by rw[List.mem_singleton.1 he];exact HM.out.1 _ (List.getElem_mem hdk)))
   have HNO:Hid (∀q,SoundP q→¬(d3.map (·.1)++([d3[kk]]:List ItH).map (·.1)).Perm (planIts q)):=fun q hq hp=>twice_none hq (List.mem_map.2 ⟨_,List.getElem_mem hdk,rfl⟩) hp
   have k3:=fun V D3 c3 (dd:List ItH) (hV:Below Z2.heap.size Z2 V) (ho:ItsOwn Z2.heap.size V D3 (N+1) c3 dd) (hd:dd.map (·.1)=d3.map (·.1)++([d3[kk]]:List ItH).map (·.1))=>(planR_any dd D3 (N+1) c3 V ho.at_ (by omega) (by have:=HN.out.2.1;omega) ho.addr (by
    rw[hd,szL_append,szL_perm HM.out.2.1]
    have h2:=HN.out.2.2.1
    have h3:szL (([d3[kk]]:List ItH).map (·.1))=d3[kk].1.v.length:=by unfold szL;simp
    have h4:=szL_mem (HM.out.1 _ (List.getElem_mem hdk))
    omega)).mono fun e w' hh=>plan_no (by rw[hd];exact HNO.out) hh
   have HAP:Hid (N+1≤maxLen∧(N+1)*48≤140737488355328):=⟨by have:=HN.out.2.1;simp only[maxLen];omega,by have:=HN.out.2.1;omega⟩
   have HK:=(Below.refl Z2.heap.size Z2).drew
   clear hone
   go_upto_region 14 with fail
   go_cut [19,20] from 102 to 114 (fun s19 s wx=>s= .int .i64 2∧Below Z2.heap.size Z2 wx)
   case first=>
    refine wp_region_held_drew (S:=fun V=>Below Z2.heap.size Z2 V) (by kernel_rfl) ?_ (fun hHeld=>?_)
    ·exact(Below.refl _ _).drew
    generalize Z2.drew=V0 at HK hHeld ⊢
    refine tk 0 ?_
    refine tk 2 ?_
    refine tk 3 ?_
    refine tk 4 ?_
    refine tk 5 ?_
    refine tk 6 ?_
    refine twoH 1 13 (callH (k1 _ HK) ?_) (yieldH ((HK).alloc (HK).size (.cells #[.slice none 0 0,.slice none 0 0] 30)) fun hHeld=>?_)
    ·rintro e U1 ⟨D1,c1,d1,rfl,o1,m1,hbn,-⟩
     have HM1:=Lib.hid m1
     clear m1
     have HK2:=And.intro (below_on HK (Nat.le_refl _) hbn) (o1.mono HK.size)
     have HK:=HK2
     clear HK2
     clear hbn o1
     refine nxt (HK.1) fun hHeld=>?_
     refine twoH 7 13 (callH (k2 _ HK.1) ?_) (yieldH ((HK.1).alloc (HK.1).size (.cells #[.slice none 0 0,.slice none 0 0] 30)) fun hHeld=>?_)
     ·rintro e U2 ⟨D2,c2,d2,rfl,o2,m2,hbn,-⟩
      have HM2:=Lib.hid m2
      clear m2
      have HK2:=And.intro (below_on HK.1 (Nat.le_refl _) hbn) (And.intro (HK.2.below hbn) (o2.mono HK.1.size))
      have HK:=HK2
      clear HK2
      clear hbn o2
      refine nxt (HK.1) fun hHeld=>?_
      refine twoH 8 13 (appH (.tmp 104) (.tmp 110) _ Z2.heap.size 52 i1 _ 2 48 Tryz.underlying43 hi1 hx0 hz1 hz2 (.slice D1 N c1) N _ HK.2.1.1 _ D2 1 c2 _ HK.2.2.at_.1 (itsV_one _) HAP.out.1 HAP.out.2 HK.1.size ?_) (yieldH ((HK.1).alloc (HK.1).size (.cells #[.slice none 0 0,.slice none 0 0] 30)) fun hHeld=>?_)
      ·intro v3 U3 hown hg hat
       obtain⟨D3,c3,rfl⟩:=own_form hown
       have HK2:=And.intro (HK.1.grown hg HK.1.size (fun j e=>(HK.2.1.1.lt j e).1)) (HK.2.1.append HK.2.2.2 hown hg)
       have HK:=HK2
       clear HK2
       clear hown hg hat
       refine nxt (HK.1) fun hHeld=>?_
       refine twoH 9 13 (callH (k3 U3 D3 c3 _ HK.1 HK.2 (by rw[List.map_append,HM1.out,HM2.out])) ?_) (yieldH ((HK.1).alloc (HK.1).size (.cells #[.slice none 0 0,.slice none 0 0] 30)) fun hHeld=>?_)
       ·rintro e U4 ⟨hbn,rfl⟩
        have HK2:=below_on HK.1 (Nat.le_refl _) hbn
        have HK:=HK2
        clear HK2
        clear hbn
        refine nxt (HK) fun hHeld=>?_
        refine tk 10 ?_
        refine tk 11 ?_
        refine tk 12 ?_
        refine oneH 13 (yieldH ((HK).alloc (HK).size (.cells #[.slice none 0 0,.slice none 0 0] 30)) fun hHeld=>?_)
        have HX:=boxH U4 none 0 0 none 0 0 (HK).size
        have hbn:=HX.1
        have HBX:=HX.2
        clear HX
        have HK2:=below_on HK (Nat.le_refl _) hbn
        have HK:=HK2
        clear HK2
        clear hbn
        generalize (World.alloc U4 _)=U5 at HK HBX hHeld ⊢
        generalize (World.heap U4).size=G5 at HBX ⊢
        obtain⟨y1,y2,y3,y4⟩:=plk_facts4 HBX.1
        refine oneH 14 (storeH ((HK.setCell (p:=⟨G5,0,none⟩) HBX.2 (.slice none 0 0)).setCell (p:=⟨G5,1,none⟩) HBX.2 (.slice none 0 0)) fun hHeld=>?_)
        refine tk 15 ?_
        refine wpAnyH_done (by kernel_rfl) ?_ _
        go_wp2_with fail
        go_meet
        exact⟨rfl,hHeld⟩
       ·have HX:=boxH U3 none 0 0 none 0 0 (HK.1).size
        have hbn:=HX.1
        have HBX:=HX.2
        clear HX
        have HK2:=And.intro (below_on HK.1 (Nat.le_refl _) hbn) (HK.2.below hbn)
        have HK:=HK2
        clear HK2
        clear hbn
        generalize (World.alloc U3 _)=U4 at HK HBX hHeld ⊢
        generalize (World.heap U3).size=G4 at HBX ⊢
        refine oneH 9 (callH (k3 U4 D3 c3 _ HK.1 HK.2 (by rw[List.map_append,HM1.out,HM2.out])) ?_)
        rintro e U7 ⟨hbn,rfl⟩
        have HBX2:=And.intro ((show PlK _ _ none 0 0 none 0 0 from HBX.1).on hbn) HBX.2
        have HBX:=HBX2
        clear HBX2
        have HK2:=below_on HK.1 (Nat.le_refl _) hbn
        have HK:=HK2
        clear HK2
        clear hbn
        refine nxt (HK) fun hHeld=>?_
        refine tk 10 ?_
        refine tk 11 ?_
        refine tk 12 ?_
        obtain⟨y1,y2,y3,y4⟩:=plk_facts4 HBX.1
        refine oneH 14 (storeH ((HK.setCell (p:=⟨G4,0,none⟩) HBX.2 (.slice none 0 0)).setCell (p:=⟨G4,1,none⟩) HBX.2 (.slice none 0 0)) fun hHeld=>?_)
        refine tk 15 ?_
        refine wpAnyH_done (by kernel_rfl) ?_ _
        go_wp2_with fail
        go_meet
        exact⟨rfl,hHeld⟩
      ·have HX:=boxH U2 none 0 0 none 0 0 (HK.1).size
       have hbn:=HX.1
       have HBX:=HX.2
       clear HX
       have HK2:=And.intro (below_on HK.1 (Nat.le_refl _) hbn) (And.intro (HK.2.1.below hbn) (HK.2.2.below hbn))
       have HK:=HK2
       clear HK2
       clear hbn
       generalize (World.alloc U2 _)=U3 at HK HBX hHeld ⊢
       generalize (World.heap U2).size=G3 at HBX ⊢
       refine oneH 8 (appH (.tmp 104) (.tmp 110) _ Z2.heap.size 52 i1 _ 2 48 Tryz.underlying43 hi1 hx0 hz1 hz2 (.slice D1 N c1) N _ HK.2.1.1 _ D2 1 c2 _ HK.2.2.at_.1 (itsV_one _) HAP.out.1 HAP.out.2 HK.1.size ?_)
       intro v9 U9 hown hg hat
       obtain⟨D3,c3,rfl⟩:=own_form hown
       have HBX2a:=(put_keeps HK.2.1 hg).1 _ _ _ (by decide) HBX.1
       have HBX2:=And.intro HBX2a HBX.2
       have HBX:=HBX2
       clear HBX2
       clear HBX2a
       have HK2:=And.intro (HK.1.grown hg HK.1.size (fun j e=>(HK.2.1.1.lt j e).1)) (HK.2.1.append HK.2.2.2 hown hg)
       have HK:=HK2
       clear HK2
       clear hown hg hat
       refine nxt (HK.1) fun hHeld=>?_
       refine oneH 9 (callH (k3 U9 D3 c3 _ HK.1 HK.2 (by rw[List.map_append,HM1.out,HM2.out])) ?_)
       rintro e U10 ⟨hbn,rfl⟩
       have HBX2:=And.intro ((show PlK _ _ none 0 0 none 0 0 from HBX.1).on hbn) HBX.2
       have HBX:=HBX2
       clear HBX2
       have HK2:=below_on HK.1 (Nat.le_refl _) hbn
       have HK:=HK2
       clear HK2
       clear hbn
       refine nxt (HK) fun hHeld=>?_
       refine tk 10 ?_
       refine tk 11 ?_
       refine tk 12 ?_
       obtain⟨y1,y2,y3,y4⟩:=plk_facts4 HBX.1
       refine oneH 14 (storeH ((HK.setCell (p:=⟨G3,0,none⟩) HBX.2 (.slice none 0 0)).setCell (p:=⟨G3,1,none⟩) HBX.2 (.slice none 0 0)) fun hHeld=>?_)
       refine tk 15 ?_
       refine wpAnyH_done (by kernel_rfl) ?_ _
       go_wp2_with fail
       go_meet
       exact⟨rfl,hHeld⟩
     ·have HX:=boxH U1 none 0 0 none 0 0 (HK.1).size
      have hbn:=HX.1
      have HBX:=HX.2
      clear HX
      have HK2:=And.intro (below_on HK.1 (Nat.le_refl _) hbn) (HK.2.below hbn)
      have HK:=HK2
      clear HK2
      clear hbn
      generalize (World.alloc U1 _)=U2 at HK HBX hHeld ⊢
      generalize (World.heap U1).size=G2 at HBX ⊢
      refine oneH 7 (callH (k2 _ HK.1) ?_)
      rintro e U12 ⟨D2,c2,d2,rfl,o2,m2,hbn,-⟩
      have HM2:=Lib.hid m2
      clear m2
      have HBX2:=And.intro ((show PlK _ _ none 0 0 none 0 0 from HBX.1).on hbn) HBX.2
      have HBX:=HBX2
      clear HBX2
      have HK2:=And.intro (below_on HK.1 (Nat.le_refl _) hbn) (And.intro (HK.2.below hbn) (o2.mono HK.1.size))
      have HK:=HK2
      clear HK2
      clear hbn o2
      refine nxt (HK.1) fun hHeld=>?_
      refine oneH 8 (appH (.tmp 104) (.tmp 110) _ Z2.heap.size 52 i1 _ 2 48 Tryz.underlying43 hi1 hx0 hz1 hz2 (.slice D1 N c1) N _ HK.2.1.1 _ D2 1 c2 _ HK.2.2.at_.1 (itsV_one _) HAP.out.1 HAP.out.2 HK.1.size ?_)
      intro v13 U13 hown hg hat
      obtain⟨D3,c3,rfl⟩:=own_form hown
      have HBX2a:=(put_keeps HK.2.1 hg).1 _ _ _ (by decide) HBX.1
      have HBX2:=And.intro HBX2a HBX.2
      have HBX:=HBX2
      clear HBX2
      clear HBX2a
      have HK2:=And.intro (HK.1.grown hg HK.1.size (fun j e=>(HK.2.1.1.lt j e).1)) (HK.2.1.append HK.2.2.2 hown hg)
      have HK:=HK2
      clear HK2
      clear hown hg hat
      refine nxt (HK.1) fun hHeld=>?_
      refine oneH 9 (callH (k3 U13 D3 c3 _ HK.1 HK.2 (by rw[List.map_append,HM1.out,HM2.out])) ?_)
      rintro e U14 ⟨hbn,rfl⟩
      have HBX2:=And.intro ((show PlK _ _ none 0 0 none 0 0 from HBX.1).on hbn) HBX.2
      have HBX:=HBX2
      clear HBX2
      have HK2:=below_on HK.1 (Nat.le_refl _) hbn
      have HK:=HK2
      clear HK2
      clear hbn
      refine nxt (HK) fun hHeld=>?_
      refine tk 10 ?_
      refine tk 11 ?_
      refine tk 12 ?_
      obtain⟨y1,y2,y3,y4⟩:=plk_facts4 HBX.1
      refine oneH 14 (storeH ((HK.setCell (p:=⟨G2,0,none⟩) HBX.2 (.slice none 0 0)).setCell (p:=⟨G2,1,none⟩) HBX.2 (.slice none 0 0)) fun hHeld=>?_)
      refine tk 15 ?_
      refine wpAnyH_done (by kernel_rfl) ?_ _
      go_wp2_with fail
      go_meet
      exact⟨rfl,hHeld⟩
    ·have HX:=boxH V0 none 0 0 none 0 0 (HK).size
     have hbn:=HX.1
     have HBX:=HX.2
     clear HX
     have HK2:=below_on HK (Nat.le_refl _) hbn
     have HK:=HK2
     clear HK2
     clear hbn
     generalize (World.alloc V0 _)=U1 at HK HBX hHeld ⊢
     generalize (World.heap V0).size=G1 at HBX ⊢
     refine oneH 1 (callH (k1 _ HK) ?_)
     rintro e U16 ⟨D1,c1,d1,rfl,o1,m1,hbn,-⟩
     have HM1:=Lib.hid m1
     clear m1
     have HBX2:=And.intro ((show PlK _ _ none 0 0 none 0 0 from HBX.1).on hbn) HBX.2
     have HBX:=HBX2
     clear HBX2
     have HK2:=And.intro (below_on HK (Nat.le_refl _) hbn) (o1.mono HK.size)
     have HK:=HK2
     clear HK2
     clear hbn o1
     refine nxt (HK.1) fun hHeld=>?_
     refine oneH 7 (callH (k2 _ HK.1) ?_)
     rintro e U17 ⟨D2,c2,d2,rfl,o2,m2,hbn,-⟩
     have HM2:=Lib.hid m2
     clear m2
     have HBX2:=And.intro ((show PlK _ _ none 0 0 none 0 0 from HBX.1).on hbn) HBX.2
     have HBX:=HBX2
     clear HBX2
     have HK2:=And.intro (below_on HK.1 (Nat.le_refl _) hbn) (And.intro (HK.2.below hbn) (o2.mono HK.1.size))
     have HK:=HK2
     clear HK2
     clear hbn o2
     refine nxt (HK.1) fun hHeld=>?_
     refine oneH 8 (appH (.tmp 104) (.tmp 110) _ Z2.heap.size 52 i1 _ 2 48 Tryz.underlying43 hi1 hx0 hz1 hz2 (.slice D1 N c1) N _ HK.2.1.1 _ D2 1 c2 _ HK.2.2.at_.1 (itsV_one _) HAP.out.1 HAP.out.2 HK.1.size ?_)
     intro v18 U18 hown hg hat
     obtain⟨D3,c3,rfl⟩:=own_form hown
     have HBX2a:=(put_keeps HK.2.1 hg).1 _ _ _ (by decide) HBX.1
     have HBX2:=And.intro HBX2a HBX.2
     have HBX:=HBX2
     clear HBX2
     clear HBX2a
     have HK2:=And.intro (HK.1.grown hg HK.1.size (fun j e=>(HK.2.1.1.lt j e).1)) (HK.2.1.append HK.2.2.2 hown hg)
     have HK:=HK2
     clear HK2
     clear hown hg hat
     refine nxt (HK.1) fun hHeld=>?_
     refine oneH 9 (callH (k3 U18 D3 c3 _ HK.1 HK.2 (by rw[List.map_append,HM1.out,HM2.out])) ?_)
     rintro e U19 ⟨hbn,rfl⟩
     have HBX2:=And.intro ((show PlK _ _ none 0 0 none 0 0 from HBX.1).on hbn) HBX.2
     have HBX:=HBX2
     clear HBX2
     have HK2:=below_on HK.1 (Nat.le_refl _) hbn
     have HK:=HK2
     clear HK2
     clear hbn
     refine nxt (HK) fun hHeld=>?_
     refine tk 10 ?_
     refine tk 11 ?_
     refine tk 12 ?_
     obtain⟨y1,y2,y3,y4⟩:=plk_facts4 HBX.1
     refine oneH 14 (storeH ((HK.setCell (p:=⟨G1,0,none⟩) HBX.2 (.slice none 0 0)).setCell (p:=⟨G1,1,none⟩) HBX.2 (.slice none 0 0)) fun hHeld=>?_)
     refine tk 15 ?_
     refine wpAnyH_done (by kernel_rfl) ?_ _
     go_wp2_with fail
     go_meet
     exact⟨rfl,hHeld⟩
   case rest=>
    obtain⟨Z3,rfl⟩:∃V,V=wc:=⟨_,rfl⟩
    obtain⟨rfl,hbc⟩:=hcut
    have H10:=Lib.hid (And.intro (H9.out.1.below hbc) (And.intro (H9.out.2.1.on hbc) (And.intro (H9.out.2.2.1.on hbc) (below_on H9.out.2.2.2 (Nat.le_refl _) hbc))))
    clear hbc k1 k2 k3 HNO HAP HK HY hkl
    have KO3:=Lib.hid (ownL_any d3 (some ad) N cL Z3 H10.out.1.at_ (by have:=HN.out.2.1;omega) (own_small HS.out H10.out.1.at_.2.1 HM.out.1))
    go_wp2_with fail
    refine KO3.out.mono ?_
    rintro e U ⟨B7,cB7,d7,rfl,ho7,hd7,hb7,hv7⟩
    have h7l:d7.length=N:=ho7.len
    obtain⟨g7,c7',e7,-,-⟩:=ho7.1.form (by omega)
    obtain⟨bd,rfl⟩:∃ad,B7=some ad:=⟨_,by cases e7;rfl⟩
    clear e7
    have hk7:kk<d7.length:=by omega
    obtain⟨bv,hbv⟩:∃q:UInt8,(q.toNat:Int)=b:=⟨UInt8.ofNat b.toNat,by rw[UInt8.toNat_ofNat'];omega⟩
    obtain⟨-,s1,s2⟩:=ho7.at_.cells hkN hk7
    have hx7:d7[kk].1∈planIts p:=by
     have h1:d7[kk].1∈d7.map (·.1):=List.mem_map.2 ⟨_,List.getElem_mem hk7,rfl⟩
     rw[hd7]at h1
     exact HM.out.2.1.mem_iff.1 h1
    have hsm:d7[kk].2.2.2.1≤300000:=by
     have h1:=(ho7.at_.2.1 _ (List.getElem_mem hk7)).2.1.len8
     have h2:=szL_mem hx7
     have h3:=HN.out.2.2.1
     omega
    subst hbv
    have hBU:Below Y.heap.size Y U:=below_on H10.out.2.2.2 (Nat.le_refl _) hb7
    have hb1:Below U.heap.size U (U.alloc (.cells #[.int .u8 (bv.toNat:Int)] 5)):=(Below.refl _ _).alloc (Nat.le_refl _) _
    have HX7:=Lib.hid (And.intro hx7 (And.intro hd7 (And.intro hBU (And.intro hb7 (And.intro (ho7.below hb1) (And.intro (hv7.below hb1) (below_on hb7 (Nat.le_refl _) hb1)))))))
    have hval:=(hv7.below hb1).val _ (List.getElem_mem hk7)
    obtain⟨x,hxe⟩:∃x,d7[kk]=x:=⟨_,rfl⟩
    have HXE:=Lib.hid hxe
    rw[hxe]at s1 s2 hval hsm
    obtain⟨⟨xk,xv⟩,⟨K,kn,kc⟩,⟨V,vn,vc⟩⟩:=x
    simp only[hdV]at s1 s2 hval hsm
    have HVL:=Lib.hid hval
    have HSM:=Lib.hid (And.intro hsm (And.intro hk7 h7l))
    obtain⟨i0,hi0,hy0,hy1,hy2⟩:=info_parts info_u8
    have hap:vn+1≤maxLen∧(vn+1)*1≤140737488355328:=⟨by simp only[maxLen];omega,by omega⟩
    have HAP:=Lib.hid hap
    have hZU:Z3.heap.size≤(U.alloc (.cells #[.int .u8 (bv.toNat:Int)] 5)).heap.size:=Nat.le_trans hb7.size hb1.size
    have HZU:=Lib.hid hZU
    clear hBU hb1 hx7 hd7 hval hxe hsm h7l ho7 hv7 hb7 hap hZU KO3 hdk
    go_wp2_with (at_builtin;refine wpList_append_any _ rfl (.tmp 123) (.tmp 125) _ rfl Z3.heap.size 5 i0 _ 1 1 Tryz.underlying50 hi0 hy0 hy1 hy2 rfl (Nat.zero_lt_succ _) (.slice V vn vc) vn _ rfl HVL.out (U.alloc (.cells #[.int .u8 (bv.toNat:Int)] 5)).heap.size (some ⟨U.heap.size,0,none⟩) 1 1 (u8s [bv]) rfl (Reads.made U #[.int .u8 (bv.toNat:Int)] 5 (0,0) 1 1 (u8s [bv]) rfl rfl) (u8s_one _) HAP.out.1 HAP.out.2 HZU.out ?_;intro v6 w6 hown6 hg6 hat6;obtain⟨A9,c9,rfl⟩:=own_form hown6;have hps:=HX7.out.2.2.2.2.1.push HX7.out.2.2.2.2.2.1 hkN HSM.out.2.1 (A':=A9) (vn:=vn+1) (c':=c9) (bv:=bv) (by rw[HXE.out];exact hown6) (by rw[HXE.out];exact hg6);have hgb:=HX7.out.2.2.2.2.2.2.grown hg6 HX7.out.2.2.2.2.2.2.size (fun j e=>(HVL.out.lt j e).1);have HPS:=Lib.hid (And.intro hps hgb);obtain⟨-,f1,⟨u1,hu1⟩,-⟩:=hps;clear hown6 hg6 hat6 hgb s2)
    obtain⟨hpo,-,-,hbs⟩:=HPS.out.1
    obtain⟨Z4,hZ4⟩:∃V,V=w6.setCell ⟨(bd.add (kk*2)).block,(bd.add (kk*2)).off+1,none⟩ (.slice A9 (vn+1) c9):=⟨_,rfl⟩
    rw[←hZ4]at hpo ⊢
    have hB4:Below Z3.heap.size Z3 Z4:=by rw[hZ4];exact HPS.out.2.setCell (p:=⟨(bd.add (kk*2)).block,(bd.add (kk*2)).off+1,none⟩) (by simp only[block_of_add];exact hbs) _
    rw[HXE.out]at hpo
    simp only at hpo
    obtain⟨y,hy⟩:∃y:ItH,y=(⟨xk,xv++[bv]⟩,(K,kn,kc),(A9,vn+1,c9)):=⟨_,rfl⟩
    rw[←hy]at hpo
    have hmap:(d7.set kk y).map (·.1)=(d7.map (·.1)).set kk ⟨xk,xv++[bv]⟩:=by rw[List.map_set,hy]
    have hxin:(⟨xk,xv⟩:It)∈planIts p:=by have:=HX7.out.1;rw[HXE.out]at this;exact this
    have hpm7:(d7.map (·.1)).Perm (planIts p):=by rw[HX7.out.2.1];exact HM.out.2.1
    have hmem:(⟨xk,xv++[bv]⟩:It)∈(d7.set kk y).map (·.1):=by
     rw[hmap]
     exact List.mem_iff_getElem.2 ⟨kk,by rw[List.length_set,List.length_map];exact hk7,List.getElem_set_self ..⟩
    have hno:¬(xk.getD 0 0=112∧xk.getD 5 0=0)→∀q,SoundP q→¬((d7.set kk y).map (·.1)).Perm (planIts q):=fun h1 q hq hp=>bad_none (x:=⟨xk,xv⟩) (b:=bv) hxin h1 hp hmem
    have hszb:szL ((d7.set kk y).map (·.1))≤1048576:=by
     rw[hmap]
     have h1:=szL_set (d7.map (·.1)) kk ⟨xk,xv++[bv]⟩
     rw[szL_perm hpm7]at h1
     have h2:=szL_mem hxin
     have h3:=HN.out.2.2.1
     simp only[List.length_append,List.length_singleton]at h1 h2
     omega
    have KP:=Lib.hid (planR_any (d7.set kk y) (some bd) N cB7 Z4 hpo.at_ (by have:=HN.out.1;omega) (by have:=HN.out.2.1;omega) hpo.addr hszb)
    have HC:=Lib.hid (its_len hxin)
    have HQ4:=Lib.hid (And.intro hpo (And.intro hB4 (And.intro hy hno)))
    clear hmap hxin hpm7 hmem hno hszb hpo hB4 hbs hZ4 hu1 f1
    refine KP.out.mono ?_
    rintro e w8 ⟨hb8,hh⟩
    have hE:∃A8 n8 c8 A8' n8' c8' e17,e= .returned (.tuple #[planV A8 n8 c8 A8' n8' c8',.int .i64 e17])∧(e17=2∨(e17=0∧xk.getD 0 0=112∧xk.getD 5 0=0)):=by
     rcases hh with ⟨q,A8,n8,c8,A8',n8',c8',hs8,hq,hp2,he,-⟩|⟨-,he⟩
     ·refine⟨A8,n8,c8,A8',n8',c8',0,he,.inr ⟨rfl,?_⟩⟩
      apply Classical.byContradiction
      intro hc
      exact HQ4.out.2.2.2 hc q (planB_sound hq) hp2
     ·exact⟨none,0,0,none,0,0,2,he,.inl rfl⟩
    obtain⟨A8,n8,c8,A8',n8',c8',e17,rfl,hE⟩:=hE
    obtain⟨W9,hW9⟩:∃V,V=w8.alloc (.cells #[.slice A8 n8 c8,.slice A8' n8' c8'] 30):=⟨_,rfl⟩
    have hb9:Below Z4.heap.size Z4 W9:=by rw[hW9];exact hb8.alloc hb8.size _
    have hI9:=HQ4.out.1.below hb9
    have h39:=below_on HQ4.out.2.1 (Nat.le_refl _) hb9
    have h4Y:=H6.out.2.2
    have hY9:=below_on H10.out.2.2.2 (Nat.le_refl _) h39
    have h49:=below_on h4Y (Nat.le_refl _) hY9
    have HW:=Lib.hid (below_on H4.out.2.2.1 (Nat.le_refl _) h49)
    have hP9:=H4.out.1.on h49
    have hK9:=H4.out.2.1.on h49
    have hPq9:=H10.out.2.1.on h39
    have hKq9:=H10.out.2.2.1.on h39
    obtain⟨q1,q2,q3⟩:=hK9.facts
    obtain⟨p1,p2,p3⟩:=hKq9.facts
    have KS:=Lib.hid (samePl_any p p A A' A6 A7 n c n' c' n6 c6 n7 c7 W9 hP9 hPq9)
    have hsl:kk<(d7.set kk y).length:=by rw[List.length_set];exact hk7
    obtain⟨-,c1,-⟩:=hI9.at_.cells hkN hsl
    have hym:=hI9.2 _ (List.getElem_mem hsl)
    rw[List.getElem_set_self,HQ4.out.2.2.1]at c1 hym
    simp only at c1 hym
    have hkb:RdB W9 W9.heap.size (K,kn,kc) xk:=hym.1.rd
    have hkl:=hkb.1.len8
    simp only at hkl
    have hkp:0<xk.length:=by
     rcases xk with _|⟨a0,t0⟩
     ·have:=HC.out
      simp at this
     ·simp
    obtain⟨kd,hkd,hb0⟩:=hkb.byte (k:=0) hkp
    simp only at hkd
    subst hkd
    obtain⟨b0,hb0e⟩:∃q,q=(xk.getD 0 0).toNat:=⟨_,rfl⟩
    rw[←hb0e,show kd.add 0=kd by simp[Addr.add]]at hb0
    have hkni:(0:Int)<(kn:Int):=by omega
    have hknp:0<kn:=by omega
    clear hb8 hh hb9 hI9 h39 h4Y hY9 h49 hP9 hK9 hPq9 hKq9 hym hsl KP q3 p3
    by_cases h0:b0=112
    ·subst h0
     have h00:xk.getD 0 0=112:=UInt8.toNat_inj.1 hb0e.symm
     have h6:xk.length=6:=by
      rcases HC.out with ⟨a,-⟩|⟨-,a,-⟩|⟨a,-⟩|⟨a,-⟩
      ·rw[h00]at a;exact absurd a (by decide)
      ·exact a
      ·rw[h00]at a;exact absurd a (by decide)
      ·rw[h00]at a;exact absurd a (by decide)
     obtain rfl:kn=6:=by omega
     obtain⟨kd2,hkd2,hb5⟩:=hkb.byte (k:=5) (by omega)
     simp only[Option.some.injEq]at hkd2
     subst hkd2
     obtain⟨b5,hb5e⟩:∃q,q=(xk.getD 5 0).toNat:=⟨_,rfl⟩
     rw[←hb5e,show kd.add 5=⟨kd.block,kd.off+5,none⟩ by simp[Addr.add]]at hb5
     clear hkb hkl hkp hb0e h6
     go_upto_region 18 with fail
     rw[←hW9]
     clear hW9
     by_cases h5:b5=0
     ·subst h5
      clear hb5e
      rcases hE with rfl|⟨rfl,-,-⟩
      ·clear h00
       go_wp2_with fail
       refine KS.out.mono ?_
       rintro e w10 ⟨rfl,hb10⟩
       rw[plEq_self]
       have HL:=Lib.hid (below_on HW.out (Nat.le_refl _) hb10)
       clear hb10 KS
       go_wp2_with fail
       go_ret
       exact⟨rfl,HL.out⟩
      ·clear h00
       go_wp2_with fail
       refine KS.out.mono ?_
       rintro e w10 ⟨rfl,hb10⟩
       rw[plEq_self]
       have HL:=Lib.hid (below_on HW.out (Nat.le_refl _) hb10)
       clear hb10 KS
       go_wp2_with fail
       go_ret
       exact⟨rfl,HL.out⟩
     ·have h5i:¬((b5:Int)=0):=by omega
      rcases hE with rfl|⟨-,-,h55⟩
      ·clear h00 hb5e
       go_wp2_with fail
       refine KS.out.mono ?_
       rintro e w10 ⟨rfl,hb10⟩
       rw[plEq_self]
       have HL:=Lib.hid (below_on HW.out (Nat.le_refl _) hb10)
       clear hb10 KS
       go_wp2_with fail
       go_ret
       exact⟨rfl,HL.out⟩
      ·exact absurd (by rw[hb5e,h55];rfl) h5
    ·have h0i:¬((b0:Int)=112):=by omega
     rcases hE with rfl|⟨-,h55,-⟩
     ·clear hkb hkl hkp hb0e
      go_upto_region 18 with fail
      rw[←hW9]
      clear hW9
      go_wp2_with fail
      refine KS.out.mono ?_
      rintro e w10 ⟨rfl,hb10⟩
      rw[plEq_self]
      have HL:=Lib.hid (below_on HW.out (Nat.le_refl _) hb10)
      clear hb10 KS
      go_wp2_with fail
      go_ret
      exact⟨rfl,HL.out⟩
     ·exact absurd (by rw[hb0e,h55];rfl) h0
end Go.Proofs.YtpkeacnacjnlcaaGreat
