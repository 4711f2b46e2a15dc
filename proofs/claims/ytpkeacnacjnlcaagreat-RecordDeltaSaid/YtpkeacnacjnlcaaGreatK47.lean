/- record.Delta: the walk. -/
import Derived.Deep.CutBlock
import Derived.Deep.DeepCutAuto
import Derived.Test.YtpkeacnacjnlcaaGreatK11
import Derived.Test.YtpkeacnacjnlcaaGreatK44
namespace Go.Proofs.YtpkeacnacjnlcaaGreat
open Go.RowKit Go.Lib
set_option maxRecDepth 100000 in
set_option maxHeartbeats 6400000 in
theorem delta_any (d1 d2:List ItH) (A B:Option Addr) (n c m cB:Nat) (w:World) (h1:ItsAt w w.heap.size A n c d1) (h2:ItsAt w w.heap.size B m cB d2) (hn:n≤1048576) (hm:m≤1048576) (hl1:∀e∈d1,e.1.k.length≤140737488351232) (hl2:∀e∈d2,e.1.k.length≤140737488351232∧e.1.v.length≤140737488351232):
 Calls Tryz.prog 15 #[.slice A n c,.slice B m cB] w (DeltaPost d1 d2 w):=by
 have KA:=Lib.hid (values_map_any d1 A n c w h1 hn)
 have KB:=Lib.hid (fun V (hV:Below w.heap.size w V)=>values_map_any d2 B m cB V (h2.on hV) hm)
 have HL:=Lib.hid (And.intro h1.len (And.intro h2.len (And.intro h1.2.1 h2.2.1)))
 clear h1 h2
 go_enter Tryz.func15,Tryz.ntmps15
 go_wp2_with fail
 refine KA.out.mono ?_
 rintro e w1 ⟨b1,L1,rfl,hm1,hv1,hg1,hb1⟩
 have H1:=Lib.hid (And.intro hm1 (And.intro hv1 hb1))
 clear hm1 hv1 hg1 hb1 KA
 go_wp2_with fail
 refine(KB.out w1 H1.out.2.2).mono ?_
 rintro e X ⟨b2,L2,rfl,hm2,hv2,hg2,hb2⟩
 have HM:Hid (MpV d1 d2 b1 L1 b2 L2 w X):=⟨H1.out.1.kept (hb2.block _ H1.out.1.lt),hm2,by rw[HL.out.1];exact H1.out.2.1,by rw[HL.out.2.1];exact hv2,below_on H1.out.2.2 (Nat.le_refl _) hb2,fun e he=>⟨HL.out.2.2.1 e he,hl1 e he⟩,fun e he=>⟨HL.out.2.2.2 e he,hl2 e he⟩,by rw[HL.out.1];exact hn,by rw[HL.out.2.1];exact hm⟩
 clear hm2 hv2 hg2 hb2 KB H1 hl1 hl2 HL hn hm
 obtain⟨i1,hi1,hx0,hx1,hx2⟩:=info_parts info_it
 have hrg:Sem.run Tryz.prog (Instr.range 79 (.map (some b2))) X= .ok (.pointer (some ⟨X.heap.size,0,none⟩)) (X.alloc (.mapIter (some b2) L2.length #[] L2.length)):=run_range_map Tryz.underlying79 HM.out.m2
 have hC0:=LpI.start X b2 L2.length
 obtain⟨Y,hY⟩:∃Y,Y=X.alloc (.mapIter (some b2) L2.length #[] L2.length):=⟨_,rfl⟩
 rw[←hY]at hC0
 have HC0:=Lib.hid hC0
 clear hC0
 go_upto_block 0 with fail
 rw[←hY]
 clear hY hrg
 go_cut [4] (fun o wx=>∃(out:List ItH) (P:Option Addr) (np cp:Nat),o= .slice P np cp∧ItsOwn X.heap.size wx P np cp out∧Below X.heap.size X wx∧Hid ((out.map fun e=>e.1.k).Nodup∧(∀z,z∈out.map (fun e=>e.1.k)↔z∈L2.map (·.1)∧wantK (d1.map (·.1)) (d2.map (·.1)) z)∧(∀e∈out,lastV (d2.map (·.1)) e.1.k=some e.1.v)∧np≤L2.length))
 case first=>
  go_wp2_with fail
  go_loopw [4] (fun o wr=>∃(seen:Array Nat) (out:List ItH) (P:Option Addr) (np cp:Nat),o= .slice P np cp∧Hid (LpI X X.heap.size b2 L2.length seen out P np cp wr)∧Hid (SeenK (L2.map (·.1)) (wantK (d1.map (·.1)) (d2.map (·.1))) seen (out.map fun e=>e.1.k))∧Hid (∀e∈out,lastV (d2.map (·.1)) e.1.k=some e.1.v)) (fun _ wr=>leftW wr X.heap.size b2)
  case atStart=>exact⟨#[],[],none,0,0,rfl,HC0,SeenK.start _ _,fun _ h=>absurd h List.not_mem_nil⟩
  case round=>
   clear HC0
   obtain⟨seen,out,P,np,cp,rfl,hC,hS,hO⟩:=hrel
   have em:MapB wr b2 encS L2:=HM.out.m2.kept (hC.out.bel.block _ HM.out.m2.lt)
   have hlen:=hS.out.len
   rw[List.length_map,List.length_map,hC.out.own.len]at hlen
   have hL2:=HM.out.v2.few
   rcases run_next_map_ (P:=Tryz.prog) hC.out.it em with ⟨hall,hnx⟩|⟨i,hil,hsn,W',hnx,hI',em',hg',hsz',hlf⟩
   ·have HE:=Lib.hid (And.intro hC.out (And.intro hS.out.nd (And.intro (fun z=>hS.out.done (fun i hi=>hall i (by simpa using hi)) z) (And.intro hO.out hlen))))
    clear hS hall hC em hO hlen hL2
    go_wp2_with fail
    go_meet
    exact⟨out,P,np,cp,rfl,HE.out.1.own,HE.out.1.bel,HE.out.2⟩
   ·have hC':=hC.out.next (Nat.le_refl _) hI' hg'
    have hent:=run_entry_map_ (P:=Tryz.prog) hI' em' hil
    obtain⟨z,hz⟩:∃z,z=L2[i].1:=⟨_,rfl⟩
    obtain⟨v,hv⟩:∃v,v=L2[i].2:=⟨_,rfl⟩
    have hlook:look L2 z=some v:=look_of HM.out.v2.keys (by rw[hz,hv];exact List.getElem_mem hil)
    rw[←hz,←hv]at hnx hent
    obtain⟨y,hyd,hyk,rfl,hyv⟩:=HM.out.v2.form hlook
    obtain⟨⟨-,hyr⟩,hkl,hvl⟩:=HM.out.r2 y hyd
    obtain⟨⟨yk,yv⟩,⟨K,kn,kc⟩,⟨V,vn,vc⟩⟩:=y
    simp only at hyk hyv hyr hkl hvl
    subst hyk
    obtain⟨zs,hzs⟩:∃s:ByteArray,s=⟨yk.toArray⟩:=⟨_,rfl⟩
    have hnx':∀ty,Sem.run Tryz.prog (Instr.next (.pointer (some ⟨X.heap.size,0,none⟩)) false ty) wr= .ok (.tuple #[.bool true,.string zs,.slice V vn vc]) W':=by rw[hzs];exact hnx
    have hent':Sem.run Tryz.prog (Instr.entry (.pointer (some ⟨X.heap.size,0,none⟩))) W'= .ok (.tuple #[.string zs,.slice V vn vc]) W':=by rw[hzs];exact hent
    have hlk:∃(Az:Option Addr) (nz cz:Nat) (tb:Bool) (vz:List UInt8),Hid ((tb=false→lastV (d1.map (·.1)) yk=none)∧(tb=true→lastV (d1.map (·.1)) yk=some vz∧RdB w w.heap.size (Az,nz,cz) vz))∧∀V',MapB V' b1 encS L1→Sem.run Tryz.prog (Instr.lookup 79 (.map (some b1)) (.string zs) true) V'= .ok (.tuple #[.slice Az nz cz,.bool tb]) V':=by
     rw[hzs]
     rcases hq:look L1 yk with _|v
     ·exact⟨none,0,0,false,[],⟨fun _=>HM.out.v1.out hq,fun h=>by cases h⟩,fun V' hV=>run_look_out (strKey Tryz.underlying9) Tryz.underlying79 Tryz.zeroValue50 hV hq⟩
     ·obtain⟨x,hxd,hxk,rfl,hxv⟩:=HM.out.v1.form hq
      exact⟨x.2.2.1,x.2.2.2.1,x.2.2.2.2,true,x.1.v,⟨fun h=>(by cases h),fun _=>⟨hxv,(HM.out.r1 x hxd).1.2⟩⟩,fun V' hV=>run_look_in (strKey Tryz.underlying9) Tryz.underlying79 hV hq⟩
    obtain⟨Az,nz,cz,tb,vz,HT,hlk⟩:=hlk
    obtain⟨chg,hchg⟩:∃q:Bool,q=(!tb||!(yv==vz)):=⟨_,rfl⟩
    have HCH:Hid (chg=true↔wantK (d1.map (·.1)) (d2.map (·.1)) yk):=by
     show _↔_
     unfold wantK
     rw[hyv,hchg]
     rcases tb with _|_
     ·rw[HT.out.1 rfl];simp
     ·rw[(HT.out.2 rfl).1]
      by_cases e:yv=vz
      ·subst e;simp
      ·simp[e,Ne.symm e]
    have HG:=Lib.hid hchg
    have H5:=Lib.hid hC'
    have hlk1:=hlk W' (HM.out.m1.kept (hC'.bel.block _ HM.out.m1.lt))
    rw[hC'.left HM.out.m2,hC.out.left HM.out.m2]at hlf
    have HS:=Lib.hid (And.intro hS.out (And.intro hsn (And.intro hlf (And.intro hyr (And.intro hyv (And.intro hkl (And.intro hvl (And.intro hO.out hzs))))))))
    have HL1:Hid (leftW wr X.heap.size b2=(leftOf (entriesOf encS L2) seen).size):=hC.out.left HM.out.m2
    have hks:(L2.map (·.1))[i]'(by simpa using hil)=yk:=by rw[List.getElem_map];exact hz.symm
    have HK:=Lib.hid (And.intro hlen (And.intro hL2 hks))
    clear hC' hnx hent hlook hyr hyv hkl hvl hz hlf hsn hI' em' hg' hsz' em hC hS hO hchg hlk hzs hyd hlen hL2 hks
    go_upto_region 6 with fail
    clear hnx' hent' hlk1
    go_cut [39] (fun s wx=>s= .bool chg∧Below W'.heap.size W' wx)
    case first=>
     rcases tb with _|_
     ·have hcg:Hid (chg=true):=by rw[HG.out];rfl
      clear HG
      go_wp2_with fail
      go_meet
      exact⟨by rw[hcg.out],Below.refl _ _⟩
     ·have hcg:Hid (chg=!(yv==vz)):=by show chg=_;rw[HG.out];rfl
      have hbw:=below_on HM.out.bel (Nat.le_refl _) H5.out.bel
      have KE:=Lib.hid (equal8_any yv vz V Az vn vc nz cz W' (HS.out.2.2.2.1.1.on hbw) ((HT.out.2 rfl).2.1.on hbw))
      clear HG hbw
      go_wp2_with fail
      refine KE.out.mono ?_
      rintro e w7 ⟨rfl,hb7⟩
      have hb7':=Lib.hid hb7
      clear hb7 KE
      go_wp2_with fail
      go_meet
      exact⟨by rw[hcg.out],hb7'.out⟩
    case rest=>
     obtain⟨W9,rfl⟩:∃V,V=wc:=⟨_,rfl⟩
     obtain⟨rfl,hbc⟩:=hcut
     have H9:=Lib.hid (H5.out.on hbc)
     clear hbc H5
     have hix:i<(L2.map (·.1)).length:=by simpa using hil
     rcases chg with _|_
     ·have hS2:=HS.out.1.skip hix (by rw[HK.out.2.2];exact fun h=>by have:=HCH.out.2 h;cases this)
      have HF:=Lib.hid (And.intro H9.out (And.intro hS2 HS.out.2.2.1))
      clear hS2
      go_wp2_with fail
      go_roundw
      case rel=>exact⟨seen.push i,out,P,np,cp,rfl,HF.out.1,HF.out.2.1,HS.out.2.2.2.2.2.2.2.1⟩
      case measure=>rw[HF.out.1.left HM.out.m2,HL1.out];exact HF.out.2.2
     ·have hS2:=HS.out.1.put HM.out.v2.keys hix HS.out.2.1 (by rw[HK.out.2.2];exact HCH.out.1 rfl)
      rw[HK.out.2.2]at hS2
      have hzl:zs.data.toList=yk:=by rw[HS.out.2.2.2.2.2.2.2.2]
      have hzz:zs.size≤140737488355000:=by
       have h1:zs.data.toList.length=zs.size:=Array.length_toList
       rw[hzl]at h1
       have:=HS.out.2.2.2.2.2.1
       omega
      obtain⟨cs,W10,hcs,hNB,hb10⟩:=bytes_of W9 zs hzz
      rw[hzl]at hNB
      have H10:=Lib.hid (And.intro (H9.out.on hb10) (And.intro hNB hb10))
      have hbw:=below_on HM.out.bel (Nat.le_refl _) H10.out.1.bel
      have KC:=Lib.hid (clone8_any yv V vn vc W10 (HS.out.2.2.2.1.1.on hbw) (by have h1:yv.length=vn:=HS.out.2.2.2.1.1.len8;have:=HS.out.2.2.2.2.2.2.1;omega))
      have HF:=Lib.hid (And.intro hS2 HS.out.2.2.1)
      clear hS2 hzl hzz hNB hb10 hbw
      go_wp2_with fail
      refine KC.out.mono ?_
      rintro e w11 ⟨A1,c1,rfl,ho1,hb11⟩
      have hw9:X.heap.size≤W9.heap.size:=H9.out.bel.size
      have HY:=Lib.hid (H10.out.1.on hb11)
      have HP:=Lib.hid (put_step HY.out.own HY.out.bel.size ⟨yk,yv⟩ (some ⟨W9.heap.size,0,none⟩) zs.size cs A1 yv.length c1 ((H10.out.2.1.mono hw9).below hb11) ((NewB.of_own ho1).mono (Nat.le_trans hw9 H10.out.2.2.size)))
      have hnb:np+1≤maxLen∧(np+1)*48≤140737488355328:=by have:=HK.out.1;have:=HK.out.2.1;have:=HM.out.n2;simp only[maxLen];omega
      clear ho1 hb11 hcs KC hw9
      go_wp2_with (at_builtin;refine wpList_append_any _ rfl (.tmp 40) (.tmp 46) _ rfl X.heap.size 52 i1 _ 2 48 Tryz.underlying43 hi1 hx0 hx1 hx2 rfl (Nat.zero_lt_succ _) (.slice P np cp) np _ rfl HP.out.1 _ (some ⟨w11.heap.size,0,none⟩) 1 1 _ rfl HP.out.2.1 (itsV_one _) hnb.1 hnb.2 HP.out.2.2.1 ?_;intro v6 w6 hown6 hg6 hat6;obtain⟨A6,c6,rfl⟩:=own_form hown6;have h6:=HP.out.2.2.2 _ _ _ _ hown6 hg6;have H6:=Lib.hid (And.intro (HY.out.push h6.1 (h6.2.2.2.2 X (Nat.le_refl _) HY.out.bel) hg6 hat6) h6.1);clear hown6 hg6 hat6 h6)
      go_roundw
      case rel=>
       refine⟨seen.push i,_,A6,np+1,c6,rfl,H6.out.1,?_,?_⟩
       ·show SeenK _ _ _ _
        rw[List.map_append]
        exact HF.out.1
       ·intro e he
        rcases List.mem_append.1 he with he|he
        ·exact HS.out.2.2.2.2.2.2.2.1 e he
        ·rw[List.mem_singleton.1 he];exact HS.out.2.2.2.2.1
      case measure=>rw[H6.out.1.left HM.out.m2,HL1.out];exact HF.out.2
 case rest=>
  obtain⟨X1,rfl⟩:∃X,X=wc:=⟨_,rfl⟩
  obtain⟨out0,P,np,cp,rfl,hown0,hb0,hO⟩:=hcut
  have hm1:MapB X1 b1 encS L1:=HM.out.m1.kept (hb0.block _ HM.out.m1.lt)
  have hm2:MapB X1 b2 encS L2:=HM.out.m2.kept (hb0.block _ HM.out.m2.lt)
  have hrg:Sem.run Tryz.prog (Instr.range 79 (.map (some b1))) X1= .ok (.pointer (some ⟨X1.heap.size,0,none⟩)) (X1.alloc (.mapIter (some b1) L1.length #[] L1.length)):=run_range_map Tryz.underlying79 hm1
  have hC0:=LpB.start X1 b1 L1.length
  obtain⟨Y1,hY⟩:∃Y,Y=X1.alloc (.mapIter (some b1) L1.length #[] L1.length):=⟨_,rfl⟩
  rw[←hY]at hC0
  have HC1:=Lib.hid hC0
  have HX:=Lib.hid (And.intro hm1 (And.intro hm2 (And.intro hown0 hb0)))
  clear hC0 hm1 hm2 hown0 hb0 HC0
  go_upto_block 2 with fail
  rw[←hY]
  clear hY hrg
  go_cut [5] (fun o wx=>∃(out:List BsH) (G:Option Addr) (ng cg:Nat),o= .slice G ng cg∧BsOwn X1.heap.size wx G ng cg out∧Below X1.heap.size X1 wx∧Hid ((out.map (·.1)).Nodup∧(∀z,z∈out.map (·.1)↔z∈L1.map (·.1)∧lastV (d2.map (·.1)) z=none)∧ng≤L1.length))
  case first=>
   go_wp2_with fail
   go_loopw [5] (fun o wr=>∃(seen:Array Nat) (out:List BsH) (G:Option Addr) (ng cg:Nat),o= .slice G ng cg∧Hid (LpB X1 X1.heap.size b1 L1.length seen out G ng cg wr)∧Hid (SeenK (L1.map (·.1)) (fun z=>lastV (d2.map (·.1)) z=none) seen (out.map (·.1)))) (fun _ wr=>leftW wr X1.heap.size b1)
   case atStart=>exact⟨#[],[],none,0,0,rfl,HC1,SeenK.start _ _⟩
   case round=>
    clear HC1
    obtain⟨seen,out,G,ng,cg,rfl,hC,hS⟩:=hrel
    have em:MapB wr b1 encS L1:=HX.out.1.kept (hC.out.bel.block _ HX.out.1.lt)
    have hlen:=hS.out.len
    rw[List.length_map,List.length_map,hC.out.own.len]at hlen
    have hL1:=HM.out.v1.few
    rcases run_next_map_ (P:=Tryz.prog) hC.out.it em with ⟨hall,hnx⟩|⟨i,hil,hsn,W',hnx,hI',em',hg',hsz',hlf⟩
    ·have HE:=Lib.hid (And.intro hC.out (And.intro hS.out.nd (And.intro (fun z=>hS.out.done (fun i hi=>hall i (by simpa using hi)) z) hlen)))
     clear hS hall hC em hlen hL1
     go_wp2_with fail
     go_meet
     exact⟨out,G,ng,cg,rfl,HE.out.1.own,HE.out.1.bel,HE.out.2⟩
    ·have hC':=hC.out.next (Nat.le_refl _) hI' hg'
     have hent:=run_entry_map_ (P:=Tryz.prog) hI' em' hil
     obtain⟨z,hz⟩:∃z,z=L1[i].1:=⟨_,rfl⟩
     obtain⟨v,hv⟩:∃v,v=L1[i].2:=⟨_,rfl⟩
     have hlook:look L1 z=some v:=look_of HM.out.v1.keys (by rw[hz,hv];exact List.getElem_mem hil)
     rw[←hz,←hv]at hnx hent
     obtain⟨y,hyd,hyk,rfl,hyv⟩:=HM.out.v1.form hlook
     have hkl:=(HM.out.r1 y hyd).2
     obtain⟨⟨yk,yv⟩,⟨K,kn,kc⟩,⟨V,vn,vc⟩⟩:=y
     simp only at hyk hyv hkl
     subst hyk
     obtain⟨zs,hzs⟩:∃s:ByteArray,s=⟨yk.toArray⟩:=⟨_,rfl⟩
     have hnx':∀ty,Sem.run Tryz.prog (Instr.next (.pointer (some ⟨X1.heap.size,0,none⟩)) false ty) wr= .ok (.tuple #[.bool true,.string zs,.slice V vn vc]) W':=by rw[hzs];exact hnx
     have hent':Sem.run Tryz.prog (Instr.entry (.pointer (some ⟨X1.heap.size,0,none⟩))) W'= .ok (.tuple #[.string zs,.slice V vn vc]) W':=by rw[hzs];exact hent
     have hlk:∃(Az:Option Addr) (nz cz:Nat) (tb:Bool),Hid (tb=false↔lastV (d2.map (·.1)) yk=none)∧∀V',MapB V' b2 encS L2→Sem.run Tryz.prog (Instr.lookup 79 (.map (some b2)) (.string zs) true) V'= .ok (.tuple #[.slice Az nz cz,.bool tb]) V':=by
      rw[hzs]
      rcases hq:look L2 yk with _|v
      ·exact⟨none,0,0,false,⟨fun _=>HM.out.v2.out hq,fun _=>rfl⟩,fun V' hV=>run_look_out (strKey Tryz.underlying9) Tryz.underlying79 Tryz.zeroValue50 hV hq⟩
      ·obtain⟨x,hxd,hxk,rfl,hxv⟩:=HM.out.v2.form hq
       exact⟨x.2.2.1,x.2.2.2.1,x.2.2.2.2,true,⟨fun h=>(by cases h),fun h=>by rw[hxv]at h;cases h⟩,fun V' hV=>run_look_in (strKey Tryz.underlying9) Tryz.underlying79 hV hq⟩
     obtain⟨Az,nz,cz,tb,HT,hlk⟩:=hlk
     have H9:=Lib.hid hC'
     have hlk1:=hlk W' (HX.out.2.1.kept (hC'.bel.block _ HX.out.2.1.lt))
     rw[hC'.left HX.out.1,hC.out.left HX.out.1]at hlf
     have HS:=Lib.hid (And.intro hS.out (And.intro hsn (And.intro hlf (And.intro hkl hzs))))
     have HL1:Hid (leftW wr X1.heap.size b1=(leftOf (entriesOf encS L1) seen).size):=hC.out.left HX.out.1
     have hks:(L1.map (·.1))[i]'(by simpa using hil)=yk:=by rw[List.getElem_map];exact hz.symm
     have HK:=Lib.hid (And.intro hlen (And.intro hL1 hks))
     have hix:i<(L1.map (·.1)).length:=by simpa using hil
     clear hC' hnx hent hlook hyv hkl hz hlf hsn hI' em' hg' hsz' em hC hS hlk hzs hyd hlen hL1 hks
     go_upto_region 12 with fail
     clear hnx' hent' hlk1
     rcases tb with _|_
     ·have hS2:=HS.out.1.put HM.out.v1.keys hix HS.out.2.1 (by rw[HK.out.2.2];exact HT.out.1 rfl)
      rw[HK.out.2.2]at hS2
      have hzl:zs.data.toList=yk:=by rw[HS.out.2.2.2.2]
      have hzz:zs.size≤140737488355000:=by
       have h1:zs.data.toList.length=zs.size:=Array.length_toList
       rw[hzl]at h1
       have:=HS.out.2.2.2.1
       omega
      obtain⟨cs,W10,hcs,hNB,hb10⟩:=bytes_of W' zs hzz
      rw[hzl]at hNB
      have HY:=Lib.hid (H9.out.on hb10)
      have HN:=Lib.hid (hNB.mono H9.out.bel.size)
      have hrow:=Lib.hid (HY.out.own.1.alloc (.cells #[.slice (some ⟨W'.heap.size,0,none⟩) zs.size cs] 50))
      have hrd:=Lib.hid (Reads.made W10 #[.slice (some ⟨W'.heap.size,0,none⟩) zs.size cs] 50 (0,0) 1 1 (bsV [(yk,(some ⟨W'.heap.size,0,none⟩,zs.size,cs))]) rfl rfl)
      have hsz:X1.heap.size≤(W10.alloc (.cells #[.slice (some ⟨W'.heap.size,0,none⟩) zs.size cs] 50)).heap.size:=by have:=HY.out.bel.size;simp;omega
      have HF:=Lib.hid (And.intro hS2 HS.out.2.2.1)
      have hnb:ng+1≤maxLen∧(ng+1)*24≤140737488355328:=by have:=HK.out.1;have:=HK.out.2.1;have:=HM.out.n1;simp only[maxLen];omega
      obtain⟨i0,hi0,hz0,hz1,hz2⟩:=info_parts info_bs
      clear hS2 hzl hzz hNB hb10
      go_wp2_with (at_builtin;refine wpList_append_any _ rfl (.tmp 62) (.tmp 65) _ rfl X1.heap.size 50 i0 _ 1 24 Tryz.underlying44 hi0 hz0 hz1 hz2 rfl (Nat.zero_lt_succ _) (.slice G ng cg) ng _ rfl hrow.out _ (some ⟨W10.heap.size,0,none⟩) 1 1 _ rfl hrd.out (bsV_one _) hnb.1 hnb.2 hsz ?_;intro v6 w6 hown6 hg6 hat6;obtain⟨A6,c6,rfl⟩:=own_form hown6;have H6:=Lib.hid (HY.out.push HN.out hown6 hg6 hat6);clear hown6 hg6 hat6)
      go_roundw
      case rel=>
       refine⟨seen.push i,_,A6,ng+1,c6,rfl,H6,?_⟩
       show SeenK _ _ _ _
       rw[List.map_append]
       exact HF.out.1
      case measure=>rw[H6.out.left HX.out.1,HL1.out];exact HF.out.2
     ·have hS2:=HS.out.1.skip hix (by rw[HK.out.2.2];exact fun h=>by have:=HT.out.2 h;cases this)
      have HF:=Lib.hid (And.intro H9.out (And.intro hS2 HS.out.2.2.1))
      clear hS2
      go_wp2_with fail
      go_roundw
      case rel=>exact⟨seen.push i,out,G,ng,cg,rfl,HF.out.1,HF.out.2.1⟩
      case measure=>rw[HF.out.1.left HX.out.1,HL1.out];exact HF.out.2.2
  case rest=>
   obtain⟨X2,rfl⟩:∃X,X=wc:=⟨_,rfl⟩
   obtain⟨out,G,ng,cg,rfl,hown,hb2,hO2⟩:=hcut
   have hP2:=HX.out.2.2.1.below hb2
   have hbX:Below X.heap.size X X2:=below_on HX.out.2.2.2 (Nat.le_refl _) hb2
   have hL2:=HM.out.v2.few
   have hL1:=HM.out.v1.few
   have KP:=Lib.hid (sortItN_any out0 P np cp X.heap.size X2 hP2 (by have:=hO.out.2.2.2;have:=HM.out.n2;omega))
   have H2:=Lib.hid (And.intro hP2 (And.intro (hown.mono HX.out.2.2.2.size) (And.intro hbX (And.intro hL1 hL2))))
   clear hown hb2 hP2 hbX hL1 hL2 HC1 HX
   go_wp2_with fail
   refine KP.out.mono ?_
   rintro e X3 ⟨rfl,dp,hpp,hps,hpo,hpg⟩
   have hg3:=H2.out.2.1.keepT H2.out.1.1 (by decide) (by decide) hpg
   have hb3:Below X.heap.size X X3:=H2.out.2.2.1.grown hpg H2.out.2.2.1.size (fun g hg'=>(H2.out.1.1.lt g hg').1)
   have KG:=Lib.hid (sortBs_any out G ng cg X.heap.size X3 hg3 (by have:=hO2.out.2.2;have:=HM.out.n1;have:=H2.out.2.2.2.1;omega))
   have H3:=Lib.hid (And.intro hpp (And.intro hps (And.intro hpo (And.intro hg3 hb3))))
   clear hpp hps hpo hpg hg3 hb3 KP
   go_wp2_with fail
   refine KG.out.mono ?_
   rintro e X4 ⟨rfl,dg,hgp,hgs,hgo,hgg⟩
   have hp4:=H3.out.2.2.1.keepT H3.out.2.2.2.1.1 (by decide) (by decide) hgg
   have hb4:Below X.heap.size X X4:=H3.out.2.2.2.2.grown hgg H3.out.2.2.2.2.size (fun g hg'=>(H3.out.2.2.2.1.1.lt g hg').1)
   have HE:Hid (ItsOwn w.heap.size X4 P np cp dp∧BsOwn w.heap.size X4 G ng cg dg∧PutOf (d1.map (·.1)) (d2.map (·.1)) (dp.map (·.1))∧GoneOf (d1.map (·.1)) (d2.map (·.1)) (dg.map (·.1))∧np≤d2.length∧ng≤d1.length∧Below w.heap.size w X4):=
    ⟨hp4.mono HM.out.bel.size,hgo.mono HM.out.bel.size,putOf_of HM.out.v2 hO.out.1 hO.out.2.1 hO.out.2.2.1 H3.out.1 H3.out.2.1,goneOf_of HM.out.v1 hO2.out.1 hO2.out.2.1 hgp hgs,Nat.le_trans hO.out.2.2.2 H2.out.2.2.2.2,Nat.le_trans hO2.out.2.2 H2.out.2.2.2.1,below_on HM.out.bel (Nat.le_refl _) hb4⟩
   clear hgp hgs hgo hgg hp4 hb4 KG H3 H2
   go_wp2_with fail
   refine bodyPost_ret (v:= .tuple #[.slice P np cp,.slice G ng cg]) ?_ rfl ⟨P,np,cp,G,ng,cg,dp,dg,rfl,HE.out⟩
   simp[results,Tryz.results15,go_sem]
end Go.Proofs.YtpkeacnacjnlcaaGreat
