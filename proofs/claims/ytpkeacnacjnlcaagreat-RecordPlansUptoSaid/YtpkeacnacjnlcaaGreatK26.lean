/- merestonelaw14.items: the walk. -/
import Derived.Test.YtpkeacnacjnlcaaGreatK03
import Derived.Test.YtpkeacnacjnlcaaGreatK23
import Derived.Test.YtpkeacnacjnlcaaGreatK24
namespace Go.Proofs.YtpkeacnacjnlcaaGreat
open Go.RowKit Go.Lib
theorem ring_take (hd:List UInt8) (r:List Pt) (s k:Nat) (hk:k<chkN r.length):(ringIts hd r s).take (k+1)=(ringIts hd r s).take k++[⟨hd++[UInt8.ofNat (s+k)],chunkB r k⟩]:=by
 have hl:k<(ringIts hd r s).length:=by unfold ringIts;rw[List.length_map,List.length_range];exact hk
 rw[List.take_succ_eq_append_getElem hl]
 congr 1
 unfold ringIts
 simp
theorem ring_len (hd:List UInt8) (r:List Pt) (s:Nat):(ringIts hd r s).length=chkN r.length:=by unfold ringIts;rw[List.length_map,List.length_range]
theorem u8_lit2 {a:Nat} {k:Nat} (ha:a<256) (hk:k<256):[Value.int .u8 (a:Int),.int .u8 (k:Int)]=u8s [UInt8.ofNat a,UInt8.ofNat k]:=by
 unfold u8s
 simp only[List.map_cons,List.map_nil,UInt8.toNat_ofNat']
 rw[show ((a%2^8:Nat):Int)=a by omega,show((k%2^8:Nat):Int)=k by omega]
set_option maxRecDepth 100000 in
set_option maxHeartbeats 6400000 in
theorem itemsL_any (p:Plan) (A A':Option Addr) (n c n' c':Nat) (w:World) (h:PlanAt w w.heap.size A n c A' n' c' p) (hs:SoundP p):
 Calls Tryz.prog 25 #[planV A n c A' n' c'] w fun e w'=>∃B cB d,e= .returned (.slice B d.length cB)∧ItsOwn w.heap.size w' B d.length cB d∧d.map (·.1)=planIts p∧Below w.heap.size w w':=by
 obtain⟨i0,hi0,hy0,hy1,hy2⟩:=info_parts info_u8
 obtain⟨i1,hi1,hx0,hz1,hz2⟩:=info_parts info_it
 have hro:=sound_ring hs (.inl rfl)
 have hll:=h.lens
 have hno:n≤128∧3≤n∧p.outer.length=n:=by have h1:=h.outer.lenPt;omega
 have hn64:=(listed_bd hs.1).2.1
 have HS:=Lib.hid (And.intro hs (And.intro h.oc (And.intro h.pc (And.intro hno.2.2 (show ∀q∈p.outer,good q=true from fun q hq=>goodL_mem hro.1 hq)))))
 have HR:=Lib.hid h
 obtain⟨w1,hw1⟩:∃w1,w1=w.alloc (.cells #[.slice A n c,.slice A' n' c'] 30):=⟨_,rfl⟩
 have hB1:Below w.heap.size w w1:=by rw[hw1];exact(Below.refl _ _).alloc (Nat.le_refl _) _
 have hK1:PlK w1 w.heap.size A n c A' n' c':=by rw[hw1];exact PlK.new w A n c A' n' c'
 have H1:=Lib.hid (And.intro hB1 hK1)
 obtain⟨hn1,hn3,-⟩:=hno
 have hpc:p.parcels.length=n':=h.parcs.1
 clear hro hll h hB1 hK1 hs
 go_enter Tryz.func25,Tryz.ntmps25
 go_upto_region 1 with fail
 rw[←hw1]
 clear hw1
 go_wp2_with fail
 go_loopw [3,4] (fun s i wr=>∃(k:Nat) (B:Option Addr) (cB:Nat) (d:List ItH),k≤chkN n∧i= .int .i64 (k:Int)∧s= .slice B d.length cB∧Hid (ItsOwn w.heap.size wr B d.length cB d∧d.map (·.1)=(ringIts [111] p.outer 0).take k∧Below w.heap.size w wr∧PlK wr w.heap.size A n c A' n' c'∧d.length=k)) (fun _ i _=>chkN n-(intOf i).toNat)
 case atStart=>exact⟨0,none,0,[],Nat.zero_le _,rfl,rfl,itsOwn_nil _ _,rfl,H1.out.1,H1.out.2,rfl⟩
 case round=>
  obtain⟨k,B,cB,d,hk,rfl,rfl,HW⟩:=hrel
  obtain⟨q1,q2,q3⟩:=HW.out.2.2.2.1.facts
  have hk9:k≤8:=by have:=chkN_le (n:=n) (m:=8) (by omega);omega
  have hw16:IntKind.i64.wrap (16*(k:Int))=16*(k:Int):=by rw[IntKind.wrap_i64];omega
  by_cases hlt:16*k<n
  ·have g1:16*(k:Int)<(n:Int):=by omega
   have hw1:IntKind.i64.wrap ((k:Int)+1)=(k:Int)+1:=by rw[IntKind.wrap_i64];omega
   have hw8:IntKind.u8.wrap (k:Int)=(k:Int):=by rw[IntKind.wrap_u8];omega
   have hkc:k<chkN n:=by unfold chkN;omega
   obtain⟨W1,hW1⟩:∃X,X=wr.alloc (.cells #[.int .u8 111,.int .u8 (k:Int)] 5):=⟨_,rfl⟩
   have hbW:Below wr.heap.size wr W1:=by rw[hW1];exact(Below.refl _ _).alloc (Nat.le_refl _) _
   have hNL:NewB wr.heap.size W1 (some ⟨wr.heap.size,0,none⟩,2,2) [111,UInt8.ofNat k]:=by rw[hW1];exact newB_lit wr _ 2 _ (by omega) rfl (u8_lit2 (a:=111) (by omega) (by omega))
   have hbb:=below_on HW.out.2.2.1 (Nat.le_refl _) hbW
   have KC:=Lib.hid (chunkL_any p.outer A n c k W1 ((HR.out.outer.below hbb).more hbb.size) hn1 hlt HS.out.2.2.2.2)
   have HX:=Lib.hid (And.intro hbW (And.intro hNL (And.intro hlt (And.intro hkc hk9))))
   clear hbW hNL hbb hlt hkc hk9 hk
   go_wp2_with fail
   rw[←hW1]
   clear hW1
   refine KC.out.mono ?_
   rintro e W5 ⟨A5,c5,rfl,ho5,hb5⟩
   obtain⟨nb,hnb⟩:∃nb,nb=(chunkB p.outer k).length:=⟨_,rfl⟩
   rw[←hnb]at ho5 ⊢
   have hb25:=below_on HX.out.1 (Nat.le_refl _) hb5
   have hs5:w.heap.size≤W5.heap.size:=Nat.le_trans HW.out.2.2.1.size hb25.size
   have HP:=Lib.hid (put_step (HW.out.1.below hb25) hs5 ⟨[111]++[UInt8.ofNat (0+k)],chunkB p.outer k⟩ (some ⟨wr.heap.size,0,none⟩) 2 2 A5 nb c5 (by rw[Nat.zero_add];exact(HX.out.2.1.below hb5).mono HW.out.2.2.1.size) ((NewB.of_own ho5).mono (Nat.le_trans HW.out.2.2.1.size HX.out.1.size)))
   have H5:=Lib.hid (And.intro (below_on HW.out.2.2.1 (Nat.le_refl _) hb25) (And.intro (HW.out.2.2.2.1.on hb25) (And.intro (show d.length+1≤maxLen by have:=HW.out.2.2.2.2;have:=HX.out.2.2.2.2;simp only[maxLen];omega) (show (d.length+1)*48≤140737488355328 by have:=HW.out.2.2.2.2;have:=HX.out.2.2.2.2;omega))))
   clear ho5 hb5 hnb hb25 hs5 KC
   go_wp2_with (at_builtin;refine wpList_append_any _ rfl (.tmp 22) (.tmp 31) _ rfl w.heap.size 52 i1 _ 2 48 Tryz.underlying43 hi1 hx0 hz1 hz2 rfl (Nat.zero_lt_succ _) (.slice B d.length cB) d.length _ rfl HP.out.1 _ (some ⟨W5.heap.size,0,none⟩) 1 1 _ rfl HP.out.2.1 (itsV_one _) H5.out.2.2.1 H5.out.2.2.2 HP.out.2.2.1 ?_
                intro v6 w6 hown6 hg6 hat6
                obtain⟨A6,c6,rfl⟩:=own_form hown6
                have h6:=HP.out.2.2.2 _ _ _ _ hown6 hg6
                clear hown6 hg6 hat6)
   have H6:=Lib.hid h6
   clear h6
   go_roundw
   case rel=>exact⟨k+1,A6,c6,d++[(⟨[111]++[UInt8.ofNat (0+k)],chunkB p.outer k⟩,(some ⟨wr.heap.size,0,none⟩,2,2),(A5,nb,c5))],HX.out.2.2.2.1,by go_num,by rw[List.length_append];rfl,by rw[List.length_append];exact H6.out.1,by rw[List.map_append,HW.out.2.1,ring_take _ _ _ _ (by rw[HS.out.2.2.2.1];exact HX.out.2.2.2.1)];rfl,H6.out.2.2.2.2 w (Nat.le_refl _) H5.out.1,H6.out.2.1 _ _ _ (by decide) H5.out.2.1,by rw[List.length_append,HW.out.2.2.2.2];rfl⟩
   case measure=>have:=HX.out.2.2.2.1;simp[intOf];omega
  ·have hkc:k=chkN n:=by unfold chkN at *;omega
   have g1:¬16*(k:Int)<(n:Int):=by omega
   subst hkc
   clear hlt
   go_wp2_with fail
   go_loopw [3,5] (fun s i wr=>∃(k:Nat) (B:Option Addr) (cB:Nat) (d:List ItH),k≤n'∧i= .int .i64 (k:Int)∧s= .slice B d.length cB∧Hid (ItsOwn w.heap.size wr B d.length cB d∧d.map (·.1)=ringIts [111] p.outer 0++(p.parcels.take k).flatMap parIts∧Below w.heap.size w wr∧PlK wr w.heap.size A n c A' n' c')) (fun _ i _=>n'-(intOf i).toNat)
   case atStart=>exact⟨0,B,cB,d,Nat.zero_le _,rfl,rfl,HW.out.1,by rw[HW.out.2.1,List.take_of_length_le (by rw[ring_len,HS.out.2.2.2.1];exact Nat.le_refl _)];simp,HW.out.2.2.1,HW.out.2.2.2.1⟩
   case round=>
    clear HW q1 q2 q3
    obtain⟨k,B,cB,d,hk,rfl,rfl,HW⟩:=hrel
    obtain⟨U,rfl⟩:∃X,X=wr:=⟨_,rfl⟩
    obtain⟨q1,q2,q3⟩:=HW.out.2.2.2.facts
    by_cases hlt:k<n'
    ·have hlt':(k:Int)<(n':Int):=by omega
     have hw1:IntKind.i64.wrap ((k:Int)+1)=(k:Int)+1:=by rw[IntKind.wrap_i64];omega
     have hPV:=HR.out.below HW.out.2.2.1
     obtain⟨adp,rfl⟩:=hPV.parcs.some_ (by omega)
     obtain⟨hadp,p1,⟨Ak,nk,ck,p2,hrk,hck⟩,p3⟩:=hPV.parcs.at_ hlt
     obtain⟨x,hx⟩:∃x,x=pcAt p.parcels k:=⟨_,rfl⟩
     rw[←hx]at p1 p3 hrk
     have hxm:x∈p.parcels:=by rw[hx,pcAt_lt (by omega)];exact List.getElem_mem _
     have hxr:=sound_ring HS.out.1 (.inr ⟨x,hxm,rfl⟩)
     have hxo:=recOK_sound HS.out.1
     have hnk:x.ring.length=nk:=hrk.lenPt
     obtain⟨adk,rfl,-,-,-,-⟩:=hrk.pt (k:=0) (by omega)
     have hown:x.owner.size≤32:=by
      have hl:=HS.out.1.1
      unfold listedB at hl
      simp only[Bool.and_eq_true]at hl
      exact listN_own hl.1 x hxm
     have htk:p.parcels.take (k+1)=p.parcels.take k++[x]:=by rw[List.take_succ_eq_append_getElem (by omega),hx,pcAt_lt (by omega)]
     have hfew:d.length≤300*65:=by
      have h1:=congrArg List.length HW.out.2.1
      rw[List.length_map,List.length_append]at h1
      have h2:=flat_few (ps:=p.parcels.take k) (fun y hy=>((recOK_sound HS.out.1).pcs y (List.mem_of_mem_take hy)).2.2)
      have h3:(ringIts [111] p.outer 0).length≤300:=by
       rw[ring_len]
       have:=chkN_le (n:=p.outer.length) (m:=8) (by have:=HS.out.2.2.2.1;omega)
       omega
      rw[List.length_take]at h2
      omega
     obtain⟨hid1,hxg,hx128⟩:=hxo.pcs x hxm
     have hidI:0≤x.id∧x.id<4294967296:=by unfold idB at hid1;simp only[decide_eq_true_eq]at hid1;omega
     obtain⟨gx,hgx⟩:∃gx,gx=U.heap.size:=⟨_,rfl⟩
     obtain⟨W1,hW1⟩:∃X,X=U.alloc (.cells #[.int .i64 x.id,.slice (some adk) nk ck,.string x.owner] 27):=⟨_,rfl⟩
     have hbx:Below U.heap.size U W1:=by rw[hW1];exact(Below.refl _ _).alloc (Nat.le_refl _) _
     have hxb:PcK W1 gx x (some adk) nk ck:=by rw[hW1,hgx];exact PcK.new U x (some adk) nk ck
     have KN:=Lib.hid (putNumR_any [] none 0 0 x.id 4 W1 ⟨rfl,fun h=>absurd h (by omega)⟩ (by omega) (by omega))
     have HX:=Lib.hid (And.intro hbx (And.intro htk (And.intro hfew (And.intro hxb (And.intro hnk (And.intro hxg (And.intro hx128 (And.intro hidI (And.intro hck (And.intro hxr.2.2.2 hrk))))))))))
     have HOW:=Lib.hid hown
     have HBU:=Lib.hid HW.out.2.2.1
     have HKK:=Lib.hid (show k+1≤n' by omega)
     have HSX:=Lib.hid (show W1.heap.size=gx+1 by rw[hW1,hgx,World.size_alloc])
     have hc1:=hxb.facts.1
     clear hPV hadp hx hxm hxr hxo hnk hrk hck hown htk hfew hbx hid1 hxg hx128 hidI hxb hlt
     go_wp2_with fail
     rw[←hW1,←hgx]
     refine KN.out.mono ?_
     rintro e W2 ⟨Ai,ci,rfl,hoi,hbi⟩
     rw[show putN [] x.id 4=idBy x.id by rw[put_num4 [] HX.out.2.2.2.2.2.2.2.1];rfl,idBy_len]at hoi ⊢
     have hb2:Below U.heap.size U W2:=below_on HX.out.1 (Nat.le_refl _) hbi
     have hLF:LF w W2 A n c (some adp) n' c' gx x (some adk) nk ck Ai ci:=⟨below_on HW.out.2.2.1 (Nat.le_refl _) hb2,HW.out.2.2.2.on hb2,HX.out.2.2.2.1.on hbi,(NewB.of_own hoi).mono (Nat.le_trans HW.out.2.2.1.size HX.out.1.size)⟩
     have HL:=Lib.hid (And.intro hLF (And.intro (HW.out.1.below hb2) hb2))
     clear hLF hb2 hoi hbi KN hW1 hgx hc1
     obtain⟨M0,hM0⟩:∃M,d.map (·.1)=M:=⟨_,rfl⟩
     obtain⟨N0,hN0⟩:∃N,d.length=N:=⟨_,rfl⟩
     have HM:=Lib.hid (And.intro hM0 hN0)
     clear hM0 hN0
     have HU0:=Lib.hid (HM.out.1.symm.trans HW.out.2.1)
     go_wp2_with fail
     go_cut [3] from 48 to 59 (fun s wx=>∃(B':Option Addr) (cB':Nat) (d':List ItH),s= .slice B' d'.length cB'∧Hid (ItsOwn w.heap.size wx B' d'.length cB' d'∧d'.map (·.1)=M0++[⟨pcHead x.id++[0],x.owner.data.toList⟩]∧LF w wx A n c (some adp) n' c' gx x (some adk) nk ck Ai ci∧d'.length=N0+1))
     case first=>
      have hL2:=HL.out.1.on (Below.refl W2.heap.size W2).drew
      have hO2:=HL.out.2.1.below (Below.refl W2.heap.size W2).drew
      have hLN:Hid (d.length+1≤maxLen∧(d.length+1)*48≤140737488355328):=⟨by have:=HX.out.2.2.1;simp only[maxLen];omega,by have:=HX.out.2.2.1;omega⟩
      have hcs:=fun V'=>run_bytes_of_string (P:=Tryz.prog) V' 9 50 5 x.owner Tryz.underlying9 Tryz.underlying50 Tryz.underlying5
      clear HL HX HW HSX
      refine wp_region_held_drew (S:=fun V'=>V'.cell? ⟨gx,2,none⟩=some (.string x.owner)) (by kernel_rfl) ?_ (fun hHeld=>?_)
      ·exact hL2.xb.facts.2.2.1
      generalize W2.drew=V at *
      have HXB:Hid (∀V',Below V.heap.size V V'→LF w V' A n c (some adp) n' c' gx x (some adk) nk ck Ai ci):=fun V' hV=>hL2.on hV
      have HO:Hid (∀V',Below V.heap.size V V'→V'.cell? ⟨gx,2,none⟩=some (.string x.owner)):=fun V' hV=>(hL2.on hV).xb.facts.2.2.1
      have HID:Hid (∀V',Below V.heap.size V V'→Reads V' V'.heap.size 1 Ai 4 (u8s (idBy x.id))):=fun V' hV=>(hL2.on hV).idn.1
      have HOUT:Hid (∀V',Below V.heap.size V V'→ItsOwn w.heap.size V' B d.length cB d):=fun V' hV=>hO2.below hV
      have HN:=Lib.hid (And.intro hLN.out.1 (And.intro hLN.out.2 hL2.bel.size))
      have HK:=KP.start V
      clear hL2 hO2 hLN q1 q2 q3
      refine tk 0 ?_
      refine tk 2 ?_
      refine tk 6 ?_
      refine tk 7 ?_
      refine threeH 1 4 8 (HK.litH #[.int .u8 112] 1 [112] HO.out rfl ?_) (HK.addH #[.int .u8 0] 1 [0] HO.out rfl ?_) (rdH fun K hK=>?_)
      ·clear HK
       intro X1 HK hHeld
       refine threeH 3 4 8 (HK.appH (m:=4) (.tmp 49) (.tmp 50) (HID.out _ HK.bel) (by decide) ?_) (HK.addH #[.int .u8 0] 1 [0] HO.out rfl ?_) (rdH fun K hK=>?_)
       ·clear HK
        intro A3 c3 w3 HK
        refine nxt (HO.out _ HK.bel) fun hHeld=>?_
        refine twoH 4 8 (HK.addH #[.int .u8 0] 1 [0] HO.out rfl ?_) (rdH fun K hK=>?_)
        ·clear HK
         intro X3z HK hHeld
         refine twoH 5 8 (HK.appH (m:=1) (.tmp 51) (.tmp 52) (HK.rd (k:=(some ⟨w3.heap.size,0,none⟩,1,1)) (ys:=[0]) (by simp)) (by decide) ?_) (rdH fun K hK=>?_)
         ·clear HK
          intro A5 c5 w5 HK
          refine nxt (HO.out _ HK.bel) fun hHeld=>?_
          skip
          refine oneH 8 (rdH fun K hK=>?_)
          go_simp
          obtain⟨hS,hw⟩:=newB_str2 w5 x.owner HOW.out
          have HK2:=HK.add hw hS
          clear HK hS hw
          have HK:=HK2
          clear HK2
          generalize grownCap w5 x.owner.size 0 5=cs at HK ⊢
          generalize (World.drew (World.alloc w5 (.cells (bytesRow x.owner cs) 5 ((bytesRow x.owner cs).size,(bytesRow x.owner cs).size+1))))=X5s at HK ⊢
          refine hK.out _ _ (HO.out _ HK.bel) fun hHeld=>?_
          clear hK K
          try simp only[Act.put,sb0,sc0,sc1]
          refine tk 9 ?_
          refine rd1 10 fun K hK=>?_
          go_simp
          have HP:=Lib.hid (put_step (HOUT.out _ HK.bel) (Nat.le_trans HN.out.2.2 HK.bel.size) ⟨pcHead x.id++[0],x.owner.data.toList⟩ A5 6 c5 (some ⟨w5.heap.size,0,none⟩) x.owner.size cs (HK.key.mono HN.out.2.2) ((HK.all ((some ⟨w5.heap.size,0,none⟩,x.owner.size,cs),x.owner.data.toList) (by simp)).1.mono HN.out.2.2))
          have HB:=Lib.hid (HXB.out _ HK.bel)
          refine hK.out _ _ (HO.out _ (below_on HK.bel (Nat.le_refl _) ((Below.refl _ _).alloc (Nat.le_refl _) _))) fun hHeld=>?_
          clear hK K HK
          try simp only[Act.put,sb0,sc0,sc1]
          refine rd1 11 fun K hK=>?_
          refine app1 (.tmp 48) (.tmp 58) _ w.heap.size 52 i1 _ 2 48 Tryz.underlying43 hi1 hx0 hz1 hz2 (.slice B d.length cB) d.length _ HP.out.1 _ (some ⟨X5s.heap.size,0,none⟩) 1 1 _ HP.out.2.1 (itsV_one _) HN.out.1 HN.out.2.1 HP.out.2.2.1 ?_
          intro v6 w6 hown hg hat
          obtain⟨A6,c6,rfl⟩:=own_form hown
          have h6:=HP.out.2.2.2 _ _ _ _ hown hg
          have hxb:=HB.out.put h6
          have H6:=Lib.hid (And.intro h6.1 (And.intro hxb h6.2.2.2.1))
          clear hown hg hat HP HB
          try dsimp only
          refine hK.out _ _ (hxb.xb.facts.2.2.1) fun hHeld=>?_
          clear hK K h6 hxb
          try simp only[Act.put,sb0]
          refine tk 12 ?_
          refine wpAnyH_done (by kernel_rfl) ?_ _
          go_wp2_with fail
          go_meet
          exact⟨A6,c6,d++[(⟨pcHead x.id++[0],x.owner.data.toList⟩,(A5,6,c5),(some ⟨w5.heap.size,0,none⟩,x.owner.size,cs))],by rw[List.length_append];rfl,by rw[List.length_append];exact H6.out.1,by rw[List.map_append,HM.out.1];rfl,H6.out.2.1,by rw[List.length_append,HM.out.2];rfl⟩
         ·go_simp
          obtain⟨hS,hw⟩:=newB_str2 X3z x.owner HOW.out
          have HK2:=HK.add hw hS
          clear HK hS hw
          have HK:=HK2
          clear HK2
          generalize grownCap X3z x.owner.size 0 5=cs at HK ⊢
          generalize (World.drew (World.alloc X3z (.cells (bytesRow x.owner cs) 5 ((bytesRow x.owner cs).size,(bytesRow x.owner cs).size+1))))=X4s at HK ⊢
          refine hK.out _ _ (HO.out _ HK.bel) fun hHeld=>?_
          clear hK K
          try simp only[Act.put,sb0,sc0,sc1]
          refine oneH 5 (HK.appH (m:=1) (.tmp 51) (.tmp 52) (HK.rd (k:=(some ⟨w3.heap.size,0,none⟩,1,1)) (ys:=[0]) (by simp)) (by decide) ?_)
          clear HK
          intro A5 c5 w5 HK
          refine nxt (HO.out _ HK.bel) fun hHeld=>?_
          skip
          refine tk 9 ?_
          refine rd1 10 fun K hK=>?_
          go_simp
          have HP:=Lib.hid (put_step (HOUT.out _ HK.bel) (Nat.le_trans HN.out.2.2 HK.bel.size) ⟨pcHead x.id++[0],x.owner.data.toList⟩ A5 6 c5 (some ⟨X3z.heap.size,0,none⟩) x.owner.size cs (HK.key.mono HN.out.2.2) ((HK.all ((some ⟨X3z.heap.size,0,none⟩,x.owner.size,cs),x.owner.data.toList) (by simp)).1.mono HN.out.2.2))
          have HB:=Lib.hid (HXB.out _ HK.bel)
          refine hK.out _ _ (HO.out _ (below_on HK.bel (Nat.le_refl _) ((Below.refl _ _).alloc (Nat.le_refl _) _))) fun hHeld=>?_
          clear hK K HK
          try simp only[Act.put,sb0,sc0,sc1]
          refine rd1 11 fun K hK=>?_
          refine app1 (.tmp 48) (.tmp 58) _ w.heap.size 52 i1 _ 2 48 Tryz.underlying43 hi1 hx0 hz1 hz2 (.slice B d.length cB) d.length _ HP.out.1 _ (some ⟨w5.heap.size,0,none⟩) 1 1 _ HP.out.2.1 (itsV_one _) HN.out.1 HN.out.2.1 HP.out.2.2.1 ?_
          intro v6 w6 hown hg hat
          obtain⟨A6,c6,rfl⟩:=own_form hown
          have h6:=HP.out.2.2.2 _ _ _ _ hown hg
          have hxb:=HB.out.put h6
          have H6:=Lib.hid (And.intro h6.1 (And.intro hxb h6.2.2.2.1))
          clear hown hg hat HP HB
          try dsimp only
          refine hK.out _ _ (hxb.xb.facts.2.2.1) fun hHeld=>?_
          clear hK K h6 hxb
          try simp only[Act.put,sb0]
          refine tk 12 ?_
          refine wpAnyH_done (by kernel_rfl) ?_ _
          go_wp2_with fail
          go_meet
          exact⟨A6,c6,d++[(⟨pcHead x.id++[0],x.owner.data.toList⟩,(A5,6,c5),(some ⟨X3z.heap.size,0,none⟩,x.owner.size,cs))],by rw[List.length_append];rfl,by rw[List.length_append];exact H6.out.1,by rw[List.map_append,HM.out.1];rfl,H6.out.2.1,by rw[List.length_append,HM.out.2];rfl⟩
        ·go_simp
         obtain⟨hS,hw⟩:=newB_str2 w3 x.owner HOW.out
         have HK2:=HK.add hw hS
         clear HK hS hw
         have HK:=HK2
         clear HK2
         generalize grownCap w3 x.owner.size 0 5=cs at HK ⊢
         generalize (World.drew (World.alloc w3 (.cells (bytesRow x.owner cs) 5 ((bytesRow x.owner cs).size,(bytesRow x.owner cs).size+1))))=X3s at HK ⊢
         refine hK.out _ _ (HO.out _ HK.bel) fun hHeld=>?_
         clear hK K
         try simp only[Act.put,sb0,sc0,sc1]
         refine oneH 4 (HK.addH #[.int .u8 0] 1 [0] HO.out rfl ?_)
         clear HK
         intro X7z HK hHeld
         refine oneH 5 (HK.appH (m:=1) (.tmp 51) (.tmp 52) (HK.rd (k:=(some ⟨X3s.heap.size,0,none⟩,1,1)) (ys:=[0]) (by simp)) (by decide) ?_)
         clear HK
         intro A5 c5 w5 HK
         refine nxt (HO.out _ HK.bel) fun hHeld=>?_
         skip
         refine tk 9 ?_
         refine rd1 10 fun K hK=>?_
         go_simp
         have HP:=Lib.hid (put_step (HOUT.out _ HK.bel) (Nat.le_trans HN.out.2.2 HK.bel.size) ⟨pcHead x.id++[0],x.owner.data.toList⟩ A5 6 c5 (some ⟨w3.heap.size,0,none⟩) x.owner.size cs (HK.key.mono HN.out.2.2) ((HK.all ((some ⟨w3.heap.size,0,none⟩,x.owner.size,cs),x.owner.data.toList) (by simp)).1.mono HN.out.2.2))
         have HB:=Lib.hid (HXB.out _ HK.bel)
         refine hK.out _ _ (HO.out _ (below_on HK.bel (Nat.le_refl _) ((Below.refl _ _).alloc (Nat.le_refl _) _))) fun hHeld=>?_
         clear hK K HK
         try simp only[Act.put,sb0,sc0,sc1]
         refine rd1 11 fun K hK=>?_
         refine app1 (.tmp 48) (.tmp 58) _ w.heap.size 52 i1 _ 2 48 Tryz.underlying43 hi1 hx0 hz1 hz2 (.slice B d.length cB) d.length _ HP.out.1 _ (some ⟨w5.heap.size,0,none⟩) 1 1 _ HP.out.2.1 (itsV_one _) HN.out.1 HN.out.2.1 HP.out.2.2.1 ?_
         intro v6 w6 hown hg hat
         obtain⟨A6,c6,rfl⟩:=own_form hown
         have h6:=HP.out.2.2.2 _ _ _ _ hown hg
         have hxb:=HB.out.put h6
         have H6:=Lib.hid (And.intro h6.1 (And.intro hxb h6.2.2.2.1))
         clear hown hg hat HP HB
         try dsimp only
         refine hK.out _ _ (hxb.xb.facts.2.2.1) fun hHeld=>?_
         clear hK K h6 hxb
         try simp only[Act.put,sb0]
         refine tk 12 ?_
         refine wpAnyH_done (by kernel_rfl) ?_ _
         go_wp2_with fail
         go_meet
         exact⟨A6,c6,d++[(⟨pcHead x.id++[0],x.owner.data.toList⟩,(A5,6,c5),(some ⟨w3.heap.size,0,none⟩,x.owner.size,cs))],by rw[List.length_append];rfl,by rw[List.length_append];exact H6.out.1,by rw[List.map_append,HM.out.1];rfl,H6.out.2.1,by rw[List.length_append,HM.out.2];rfl⟩
       ·clear HK
        intro X2z HK hHeld
        refine twoH 3 8 (HK.appH (m:=4) (.tmp 49) (.tmp 50) (HID.out _ HK.bel) (by decide) ?_) (rdH fun K hK=>?_)
        ·clear HK
         intro A3 c3 w3 HK
         refine nxt (HO.out _ HK.bel) fun hHeld=>?_
         refine twoH 5 8 (HK.appH (m:=1) (.tmp 51) (.tmp 52) (HK.rd (k:=(some ⟨X1.heap.size,0,none⟩,1,1)) (ys:=[0]) (by simp)) (by decide) ?_) (rdH fun K hK=>?_)
         ·clear HK
          intro A5 c5 w5 HK
          refine nxt (HO.out _ HK.bel) fun hHeld=>?_
          skip
          refine oneH 8 (rdH fun K hK=>?_)
          go_simp
          obtain⟨hS,hw⟩:=newB_str2 w5 x.owner HOW.out
          have HK2:=HK.add hw hS
          clear HK hS hw
          have HK:=HK2
          clear HK2
          generalize grownCap w5 x.owner.size 0 5=cs at HK ⊢
          generalize (World.drew (World.alloc w5 (.cells (bytesRow x.owner cs) 5 ((bytesRow x.owner cs).size,(bytesRow x.owner cs).size+1))))=X11s at HK ⊢
          refine hK.out _ _ (HO.out _ HK.bel) fun hHeld=>?_
          clear hK K
          try simp only[Act.put,sb0,sc0,sc1]
          refine tk 9 ?_
          refine rd1 10 fun K hK=>?_
          go_simp
          have HP:=Lib.hid (put_step (HOUT.out _ HK.bel) (Nat.le_trans HN.out.2.2 HK.bel.size) ⟨pcHead x.id++[0],x.owner.data.toList⟩ A5 6 c5 (some ⟨w5.heap.size,0,none⟩) x.owner.size cs (HK.key.mono HN.out.2.2) ((HK.all ((some ⟨w5.heap.size,0,none⟩,x.owner.size,cs),x.owner.data.toList) (by simp)).1.mono HN.out.2.2))
          have HB:=Lib.hid (HXB.out _ HK.bel)
          refine hK.out _ _ (HO.out _ (below_on HK.bel (Nat.le_refl _) ((Below.refl _ _).alloc (Nat.le_refl _) _))) fun hHeld=>?_
          clear hK K HK
          try simp only[Act.put,sb0,sc0,sc1]
          refine rd1 11 fun K hK=>?_
          refine app1 (.tmp 48) (.tmp 58) _ w.heap.size 52 i1 _ 2 48 Tryz.underlying43 hi1 hx0 hz1 hz2 (.slice B d.length cB) d.length _ HP.out.1 _ (some ⟨X11s.heap.size,0,none⟩) 1 1 _ HP.out.2.1 (itsV_one _) HN.out.1 HN.out.2.1 HP.out.2.2.1 ?_
          intro v6 w6 hown hg hat
          obtain⟨A6,c6,rfl⟩:=own_form hown
          have h6:=HP.out.2.2.2 _ _ _ _ hown hg
          have hxb:=HB.out.put h6
          have H6:=Lib.hid (And.intro h6.1 (And.intro hxb h6.2.2.2.1))
          clear hown hg hat HP HB
          try dsimp only
          refine hK.out _ _ (hxb.xb.facts.2.2.1) fun hHeld=>?_
          clear hK K h6 hxb
          try simp only[Act.put,sb0]
          refine tk 12 ?_
          refine wpAnyH_done (by kernel_rfl) ?_ _
          go_wp2_with fail
          go_meet
          exact⟨A6,c6,d++[(⟨pcHead x.id++[0],x.owner.data.toList⟩,(A5,6,c5),(some ⟨w5.heap.size,0,none⟩,x.owner.size,cs))],by rw[List.length_append];rfl,by rw[List.length_append];exact H6.out.1,by rw[List.map_append,HM.out.1];rfl,H6.out.2.1,by rw[List.length_append,HM.out.2];rfl⟩
         ·go_simp
          obtain⟨hS,hw⟩:=newB_str2 w3 x.owner HOW.out
          have HK2:=HK.add hw hS
          clear HK hS hw
          have HK:=HK2
          clear HK2
          generalize grownCap w3 x.owner.size 0 5=cs at HK ⊢
          generalize (World.drew (World.alloc w3 (.cells (bytesRow x.owner cs) 5 ((bytesRow x.owner cs).size,(bytesRow x.owner cs).size+1))))=X10s at HK ⊢
          refine hK.out _ _ (HO.out _ HK.bel) fun hHeld=>?_
          clear hK K
          try simp only[Act.put,sb0,sc0,sc1]
          refine oneH 5 (HK.appH (m:=1) (.tmp 51) (.tmp 52) (HK.rd (k:=(some ⟨X1.heap.size,0,none⟩,1,1)) (ys:=[0]) (by simp)) (by decide) ?_)
          clear HK
          intro A5 c5 w5 HK
          refine nxt (HO.out _ HK.bel) fun hHeld=>?_
          skip
          refine tk 9 ?_
          refine rd1 10 fun K hK=>?_
          go_simp
          have HP:=Lib.hid (put_step (HOUT.out _ HK.bel) (Nat.le_trans HN.out.2.2 HK.bel.size) ⟨pcHead x.id++[0],x.owner.data.toList⟩ A5 6 c5 (some ⟨w3.heap.size,0,none⟩) x.owner.size cs (HK.key.mono HN.out.2.2) ((HK.all ((some ⟨w3.heap.size,0,none⟩,x.owner.size,cs),x.owner.data.toList) (by simp)).1.mono HN.out.2.2))
          have HB:=Lib.hid (HXB.out _ HK.bel)
          refine hK.out _ _ (HO.out _ (below_on HK.bel (Nat.le_refl _) ((Below.refl _ _).alloc (Nat.le_refl _) _))) fun hHeld=>?_
          clear hK K HK
          try simp only[Act.put,sb0,sc0,sc1]
          refine rd1 11 fun K hK=>?_
          refine app1 (.tmp 48) (.tmp 58) _ w.heap.size 52 i1 _ 2 48 Tryz.underlying43 hi1 hx0 hz1 hz2 (.slice B d.length cB) d.length _ HP.out.1 _ (some ⟨w5.heap.size,0,none⟩) 1 1 _ HP.out.2.1 (itsV_one _) HN.out.1 HN.out.2.1 HP.out.2.2.1 ?_
          intro v6 w6 hown hg hat
          obtain⟨A6,c6,rfl⟩:=own_form hown
          have h6:=HP.out.2.2.2 _ _ _ _ hown hg
          have hxb:=HB.out.put h6
          have H6:=Lib.hid (And.intro h6.1 (And.intro hxb h6.2.2.2.1))
          clear hown hg hat HP HB
          try dsimp only
          refine hK.out _ _ (hxb.xb.facts.2.2.1) fun hHeld=>?_
          clear hK K h6 hxb
          try simp only[Act.put,sb0]
          refine tk 12 ?_
          refine wpAnyH_done (by kernel_rfl) ?_ _
          go_wp2_with fail
          go_meet
          exact⟨A6,c6,d++[(⟨pcHead x.id++[0],x.owner.data.toList⟩,(A5,6,c5),(some ⟨w3.heap.size,0,none⟩,x.owner.size,cs))],by rw[List.length_append];rfl,by rw[List.length_append];exact H6.out.1,by rw[List.map_append,HM.out.1];rfl,H6.out.2.1,by rw[List.length_append,HM.out.2];rfl⟩
        ·go_simp
         obtain⟨hS,hw⟩:=newB_str2 X2z x.owner HOW.out
         have HK2:=HK.add hw hS
         clear HK hS hw
         have HK:=HK2
         clear HK2
         generalize grownCap X2z x.owner.size 0 5=cs at HK ⊢
         generalize (World.drew (World.alloc X2z (.cells (bytesRow x.owner cs) 5 ((bytesRow x.owner cs).size,(bytesRow x.owner cs).size+1))))=X9s at HK ⊢
         refine hK.out _ _ (HO.out _ HK.bel) fun hHeld=>?_
         clear hK K
         try simp only[Act.put,sb0,sc0,sc1]
         refine oneH 3 (HK.appH (m:=4) (.tmp 49) (.tmp 50) (HID.out _ HK.bel) (by decide) ?_)
         clear HK
         intro A3 c3 w3 HK
         refine nxt (HO.out _ HK.bel) fun hHeld=>?_
         refine oneH 5 (HK.appH (m:=1) (.tmp 51) (.tmp 52) (HK.rd (k:=(some ⟨X1.heap.size,0,none⟩,1,1)) (ys:=[0]) (by simp)) (by decide) ?_)
         clear HK
         intro A5 c5 w5 HK
         refine nxt (HO.out _ HK.bel) fun hHeld=>?_
         skip
         refine tk 9 ?_
         refine rd1 10 fun K hK=>?_
         go_simp
         have HP:=Lib.hid (put_step (HOUT.out _ HK.bel) (Nat.le_trans HN.out.2.2 HK.bel.size) ⟨pcHead x.id++[0],x.owner.data.toList⟩ A5 6 c5 (some ⟨X2z.heap.size,0,none⟩) x.owner.size cs (HK.key.mono HN.out.2.2) ((HK.all ((some ⟨X2z.heap.size,0,none⟩,x.owner.size,cs),x.owner.data.toList) (by simp)).1.mono HN.out.2.2))
         have HB:=Lib.hid (HXB.out _ HK.bel)
         refine hK.out _ _ (HO.out _ (below_on HK.bel (Nat.le_refl _) ((Below.refl _ _).alloc (Nat.le_refl _) _))) fun hHeld=>?_
         clear hK K HK
         try simp only[Act.put,sb0,sc0,sc1]
         refine rd1 11 fun K hK=>?_
         refine app1 (.tmp 48) (.tmp 58) _ w.heap.size 52 i1 _ 2 48 Tryz.underlying43 hi1 hx0 hz1 hz2 (.slice B d.length cB) d.length _ HP.out.1 _ (some ⟨w5.heap.size,0,none⟩) 1 1 _ HP.out.2.1 (itsV_one _) HN.out.1 HN.out.2.1 HP.out.2.2.1 ?_
         intro v6 w6 hown hg hat
         obtain⟨A6,c6,rfl⟩:=own_form hown
         have h6:=HP.out.2.2.2 _ _ _ _ hown hg
         have hxb:=HB.out.put h6
         have H6:=Lib.hid (And.intro h6.1 (And.intro hxb h6.2.2.2.1))
         clear hown hg hat HP HB
         try dsimp only
         refine hK.out _ _ (hxb.xb.facts.2.2.1) fun hHeld=>?_
         clear hK K h6 hxb
         try simp only[Act.put,sb0]
         refine tk 12 ?_
         refine wpAnyH_done (by kernel_rfl) ?_ _
         go_wp2_with fail
         go_meet
         exact⟨A6,c6,d++[(⟨pcHead x.id++[0],x.owner.data.toList⟩,(A5,6,c5),(some ⟨X2z.heap.size,0,none⟩,x.owner.size,cs))],by rw[List.length_append];rfl,by rw[List.length_append];exact H6.out.1,by rw[List.map_append,HM.out.1];rfl,H6.out.2.1,by rw[List.length_append,HM.out.2];rfl⟩
       ·go_simp
        obtain⟨hS,hw⟩:=newB_str2 X1 x.owner HOW.out
        have HK2:=HK.add hw hS
        clear HK hS hw
        have HK:=HK2
        clear HK2
        generalize grownCap X1 x.owner.size 0 5=cs at HK ⊢
        generalize (World.drew (World.alloc X1 (.cells (bytesRow x.owner cs) 5 ((bytesRow x.owner cs).size,(bytesRow x.owner cs).size+1))))=X2s at HK ⊢
        refine hK.out _ _ (HO.out _ HK.bel) fun hHeld=>?_
        clear hK K
        try simp only[Act.put,sb0,sc0,sc1]
        refine twoH 3 4 (HK.appH (m:=4) (.tmp 49) (.tmp 50) (HID.out _ HK.bel) (by decide) ?_) (HK.addH #[.int .u8 0] 1 [0] HO.out rfl ?_)
        ·clear HK
         intro A3 c3 w3 HK
         refine nxt (HO.out _ HK.bel) fun hHeld=>?_
         refine oneH 4 (HK.addH #[.int .u8 0] 1 [0] HO.out rfl ?_)
         clear HK
         intro X16z HK hHeld
         refine oneH 5 (HK.appH (m:=1) (.tmp 51) (.tmp 52) (HK.rd (k:=(some ⟨w3.heap.size,0,none⟩,1,1)) (ys:=[0]) (by simp)) (by decide) ?_)
         clear HK
         intro A5 c5 w5 HK
         refine nxt (HO.out _ HK.bel) fun hHeld=>?_
         skip
         refine tk 9 ?_
         refine rd1 10 fun K hK=>?_
         go_simp
         have HP:=Lib.hid (put_step (HOUT.out _ HK.bel) (Nat.le_trans HN.out.2.2 HK.bel.size) ⟨pcHead x.id++[0],x.owner.data.toList⟩ A5 6 c5 (some ⟨X1.heap.size,0,none⟩) x.owner.size cs (HK.key.mono HN.out.2.2) ((HK.all ((some ⟨X1.heap.size,0,none⟩,x.owner.size,cs),x.owner.data.toList) (by simp)).1.mono HN.out.2.2))
         have HB:=Lib.hid (HXB.out _ HK.bel)
         refine hK.out _ _ (HO.out _ (below_on HK.bel (Nat.le_refl _) ((Below.refl _ _).alloc (Nat.le_refl _) _))) fun hHeld=>?_
         clear hK K HK
         try simp only[Act.put,sb0,sc0,sc1]
         refine rd1 11 fun K hK=>?_
         refine app1 (.tmp 48) (.tmp 58) _ w.heap.size 52 i1 _ 2 48 Tryz.underlying43 hi1 hx0 hz1 hz2 (.slice B d.length cB) d.length _ HP.out.1 _ (some ⟨w5.heap.size,0,none⟩) 1 1 _ HP.out.2.1 (itsV_one _) HN.out.1 HN.out.2.1 HP.out.2.2.1 ?_
         intro v6 w6 hown hg hat
         obtain⟨A6,c6,rfl⟩:=own_form hown
         have h6:=HP.out.2.2.2 _ _ _ _ hown hg
         have hxb:=HB.out.put h6
         have H6:=Lib.hid (And.intro h6.1 (And.intro hxb h6.2.2.2.1))
         clear hown hg hat HP HB
         try dsimp only
         refine hK.out _ _ (hxb.xb.facts.2.2.1) fun hHeld=>?_
         clear hK K h6 hxb
         try simp only[Act.put,sb0]
         refine tk 12 ?_
         refine wpAnyH_done (by kernel_rfl) ?_ _
         go_wp2_with fail
         go_meet
         exact⟨A6,c6,d++[(⟨pcHead x.id++[0],x.owner.data.toList⟩,(A5,6,c5),(some ⟨X1.heap.size,0,none⟩,x.owner.size,cs))],by rw[List.length_append];rfl,by rw[List.length_append];exact H6.out.1,by rw[List.map_append,HM.out.1];rfl,H6.out.2.1,by rw[List.length_append,HM.out.2];rfl⟩
        ·clear HK
         intro X15z HK hHeld
         refine oneH 3 (HK.appH (m:=4) (.tmp 49) (.tmp 50) (HID.out _ HK.bel) (by decide) ?_)
         clear HK
         intro A3 c3 w3 HK
         refine nxt (HO.out _ HK.bel) fun hHeld=>?_
         refine oneH 5 (HK.appH (m:=1) (.tmp 51) (.tmp 52) (HK.rd (k:=(some ⟨X2s.heap.size,0,none⟩,1,1)) (ys:=[0]) (by simp)) (by decide) ?_)
         clear HK
         intro A5 c5 w5 HK
         refine nxt (HO.out _ HK.bel) fun hHeld=>?_
         skip
         refine tk 9 ?_
         refine rd1 10 fun K hK=>?_
         go_simp
         have HP:=Lib.hid (put_step (HOUT.out _ HK.bel) (Nat.le_trans HN.out.2.2 HK.bel.size) ⟨pcHead x.id++[0],x.owner.data.toList⟩ A5 6 c5 (some ⟨X1.heap.size,0,none⟩) x.owner.size cs (HK.key.mono HN.out.2.2) ((HK.all ((some ⟨X1.heap.size,0,none⟩,x.owner.size,cs),x.owner.data.toList) (by simp)).1.mono HN.out.2.2))
         have HB:=Lib.hid (HXB.out _ HK.bel)
         refine hK.out _ _ (HO.out _ (below_on HK.bel (Nat.le_refl _) ((Below.refl _ _).alloc (Nat.le_refl _) _))) fun hHeld=>?_
         clear hK K HK
         try simp only[Act.put,sb0,sc0,sc1]
         refine rd1 11 fun K hK=>?_
         refine app1 (.tmp 48) (.tmp 58) _ w.heap.size 52 i1 _ 2 48 Tryz.underlying43 hi1 hx0 hz1 hz2 (.slice B d.length cB) d.length _ HP.out.1 _ (some ⟨w5.heap.size,0,none⟩) 1 1 _ HP.out.2.1 (itsV_one _) HN.out.1 HN.out.2.1 HP.out.2.2.1 ?_
         intro v6 w6 hown hg hat
         obtain⟨A6,c6,rfl⟩:=own_form hown
         have h6:=HP.out.2.2.2 _ _ _ _ hown hg
         have hxb:=HB.out.put h6
         have H6:=Lib.hid (And.intro h6.1 (And.intro hxb h6.2.2.2.1))
         clear hown hg hat HP HB
         try dsimp only
         refine hK.out _ _ (hxb.xb.facts.2.2.1) fun hHeld=>?_
         clear hK K h6 hxb
         try simp only[Act.put,sb0]
         refine tk 12 ?_
         refine wpAnyH_done (by kernel_rfl) ?_ _
         go_wp2_with fail
         go_meet
         exact⟨A6,c6,d++[(⟨pcHead x.id++[0],x.owner.data.toList⟩,(A5,6,c5),(some ⟨X1.heap.size,0,none⟩,x.owner.size,cs))],by rw[List.length_append];rfl,by rw[List.length_append];exact H6.out.1,by rw[List.map_append,HM.out.1];rfl,H6.out.2.1,by rw[List.length_append,HM.out.2];rfl⟩
      ·clear HK
       intro X1z HK hHeld
       refine twoH 1 8 (HK.litH #[.int .u8 112] 1 [112] HO.out rfl ?_) (rdH fun K hK=>?_)
       ·clear HK
        intro X20 HK hHeld
        refine twoH 3 8 (HK.appH (m:=4) (.tmp 49) (.tmp 50) (HID.out _ HK.bel) (by decide) ?_) (rdH fun K hK=>?_)
        ·clear HK
         intro A3 c3 w3 HK
         refine nxt (HO.out _ HK.bel) fun hHeld=>?_
         refine twoH 5 8 (HK.appH (m:=1) (.tmp 51) (.tmp 52) (HK.rd (k:=(some ⟨V.heap.size,0,none⟩,1,1)) (ys:=[0]) (by simp)) (by decide) ?_) (rdH fun K hK=>?_)
         ·clear HK
          intro A5 c5 w5 HK
          refine nxt (HO.out _ HK.bel) fun hHeld=>?_
          skip
          refine oneH 8 (rdH fun K hK=>?_)
          go_simp
          obtain⟨hS,hw⟩:=newB_str2 w5 x.owner HOW.out
          have HK2:=HK.add hw hS
          clear HK hS hw
          have HK:=HK2
          clear HK2
          generalize grownCap w5 x.owner.size 0 5=cs at HK ⊢
          generalize (World.drew (World.alloc w5 (.cells (bytesRow x.owner cs) 5 ((bytesRow x.owner cs).size,(bytesRow x.owner cs).size+1))))=X23s at HK ⊢
          refine hK.out _ _ (HO.out _ HK.bel) fun hHeld=>?_
          clear hK K
          try simp only[Act.put,sb0,sc0,sc1]
          refine tk 9 ?_
          refine rd1 10 fun K hK=>?_
          go_simp
          have HP:=Lib.hid (put_step (HOUT.out _ HK.bel) (Nat.le_trans HN.out.2.2 HK.bel.size) ⟨pcHead x.id++[0],x.owner.data.toList⟩ A5 6 c5 (some ⟨w5.heap.size,0,none⟩) x.owner.size cs (HK.key.mono HN.out.2.2) ((HK.all ((some ⟨w5.heap.size,0,none⟩,x.owner.size,cs),x.owner.data.toList) (by simp)).1.mono HN.out.2.2))
          have HB:=Lib.hid (HXB.out _ HK.bel)
          refine hK.out _ _ (HO.out _ (below_on HK.bel (Nat.le_refl _) ((Below.refl _ _).alloc (Nat.le_refl _) _))) fun hHeld=>?_
          clear hK K HK
          try simp only[Act.put,sb0,sc0,sc1]
          refine rd1 11 fun K hK=>?_
          refine app1 (.tmp 48) (.tmp 58) _ w.heap.size 52 i1 _ 2 48 Tryz.underlying43 hi1 hx0 hz1 hz2 (.slice B d.length cB) d.length _ HP.out.1 _ (some ⟨X23s.heap.size,0,none⟩) 1 1 _ HP.out.2.1 (itsV_one _) HN.out.1 HN.out.2.1 HP.out.2.2.1 ?_
          intro v6 w6 hown hg hat
          obtain⟨A6,c6,rfl⟩:=own_form hown
          have h6:=HP.out.2.2.2 _ _ _ _ hown hg
          have hxb:=HB.out.put h6
          have H6:=Lib.hid (And.intro h6.1 (And.intro hxb h6.2.2.2.1))
          clear hown hg hat HP HB
          try dsimp only
          refine hK.out _ _ (hxb.xb.facts.2.2.1) fun hHeld=>?_
          clear hK K h6 hxb
          try simp only[Act.put,sb0]
          refine tk 12 ?_
          refine wpAnyH_done (by kernel_rfl) ?_ _
          go_wp2_with fail
          go_meet
          exact⟨A6,c6,d++[(⟨pcHead x.id++[0],x.owner.data.toList⟩,(A5,6,c5),(some ⟨w5.heap.size,0,none⟩,x.owner.size,cs))],by rw[List.length_append];rfl,by rw[List.length_append];exact H6.out.1,by rw[List.map_append,HM.out.1];rfl,H6.out.2.1,by rw[List.length_append,HM.out.2];rfl⟩
         ·go_simp
          obtain⟨hS,hw⟩:=newB_str2 w3 x.owner HOW.out
          have HK2:=HK.add hw hS
          clear HK hS hw
          have HK:=HK2
          clear HK2
          generalize grownCap w3 x.owner.size 0 5=cs at HK ⊢
          generalize (World.drew (World.alloc w3 (.cells (bytesRow x.owner cs) 5 ((bytesRow x.owner cs).size,(bytesRow x.owner cs).size+1))))=X22s at HK ⊢
          refine hK.out _ _ (HO.out _ HK.bel) fun hHeld=>?_
          clear hK K
          try simp only[Act.put,sb0,sc0,sc1]
          refine oneH 5 (HK.appH (m:=1) (.tmp 51) (.tmp 52) (HK.rd (k:=(some ⟨V.heap.size,0,none⟩,1,1)) (ys:=[0]) (by simp)) (by decide) ?_)
          clear HK
          intro A5 c5 w5 HK
          refine nxt (HO.out _ HK.bel) fun hHeld=>?_
          skip
          refine tk 9 ?_
          refine rd1 10 fun K hK=>?_
          go_simp
          have HP:=Lib.hid (put_step (HOUT.out _ HK.bel) (Nat.le_trans HN.out.2.2 HK.bel.size) ⟨pcHead x.id++[0],x.owner.data.toList⟩ A5 6 c5 (some ⟨w3.heap.size,0,none⟩) x.owner.size cs (HK.key.mono HN.out.2.2) ((HK.all ((some ⟨w3.heap.size,0,none⟩,x.owner.size,cs),x.owner.data.toList) (by simp)).1.mono HN.out.2.2))
          have HB:=Lib.hid (HXB.out _ HK.bel)
          refine hK.out _ _ (HO.out _ (below_on HK.bel (Nat.le_refl _) ((Below.refl _ _).alloc (Nat.le_refl _) _))) fun hHeld=>?_
          clear hK K HK
          try simp only[Act.put,sb0,sc0,sc1]
          refine rd1 11 fun K hK=>?_
          refine app1 (.tmp 48) (.tmp 58) _ w.heap.size 52 i1 _ 2 48 Tryz.underlying43 hi1 hx0 hz1 hz2 (.slice B d.length cB) d.length _ HP.out.1 _ (some ⟨w5.heap.size,0,none⟩) 1 1 _ HP.out.2.1 (itsV_one _) HN.out.1 HN.out.2.1 HP.out.2.2.1 ?_
          intro v6 w6 hown hg hat
          obtain⟨A6,c6,rfl⟩:=own_form hown
          have h6:=HP.out.2.2.2 _ _ _ _ hown hg
          have hxb:=HB.out.put h6
          have H6:=Lib.hid (And.intro h6.1 (And.intro hxb h6.2.2.2.1))
          clear hown hg hat HP HB
          try dsimp only
          refine hK.out _ _ (hxb.xb.facts.2.2.1) fun hHeld=>?_
          clear hK K h6 hxb
          try simp only[Act.put,sb0]
          refine tk 12 ?_
          refine wpAnyH_done (by kernel_rfl) ?_ _
          go_wp2_with fail
          go_meet
          exact⟨A6,c6,d++[(⟨pcHead x.id++[0],x.owner.data.toList⟩,(A5,6,c5),(some ⟨w3.heap.size,0,none⟩,x.owner.size,cs))],by rw[List.length_append];rfl,by rw[List.length_append];exact H6.out.1,by rw[List.map_append,HM.out.1];rfl,H6.out.2.1,by rw[List.length_append,HM.out.2];rfl⟩
        ·go_simp
         obtain⟨hS,hw⟩:=newB_str2 X20 x.owner HOW.out
         have HK2:=HK.add hw hS
         clear HK hS hw
         have HK:=HK2
         clear HK2
         generalize grownCap X20 x.owner.size 0 5=cs at HK ⊢
         generalize (World.drew (World.alloc X20 (.cells (bytesRow x.owner cs) 5 ((bytesRow x.owner cs).size,(bytesRow x.owner cs).size+1))))=X21s at HK ⊢
         refine hK.out _ _ (HO.out _ HK.bel) fun hHeld=>?_
         clear hK K
         try simp only[Act.put,sb0,sc0,sc1]
         refine oneH 3 (HK.appH (m:=4) (.tmp 49) (.tmp 50) (HID.out _ HK.bel) (by decide) ?_)
         clear HK
         intro A3 c3 w3 HK
         refine nxt (HO.out _ HK.bel) fun hHeld=>?_
         refine oneH 5 (HK.appH (m:=1) (.tmp 51) (.tmp 52) (HK.rd (k:=(some ⟨V.heap.size,0,none⟩,1,1)) (ys:=[0]) (by simp)) (by decide) ?_)
         clear HK
         intro A5 c5 w5 HK
         refine nxt (HO.out _ HK.bel) fun hHeld=>?_
         skip
         refine tk 9 ?_
         refine rd1 10 fun K hK=>?_
         go_simp
         have HP:=Lib.hid (put_step (HOUT.out _ HK.bel) (Nat.le_trans HN.out.2.2 HK.bel.size) ⟨pcHead x.id++[0],x.owner.data.toList⟩ A5 6 c5 (some ⟨X20.heap.size,0,none⟩) x.owner.size cs (HK.key.mono HN.out.2.2) ((HK.all ((some ⟨X20.heap.size,0,none⟩,x.owner.size,cs),x.owner.data.toList) (by simp)).1.mono HN.out.2.2))
         have HB:=Lib.hid (HXB.out _ HK.bel)
         refine hK.out _ _ (HO.out _ (below_on HK.bel (Nat.le_refl _) ((Below.refl _ _).alloc (Nat.le_refl _) _))) fun hHeld=>?_
         clear hK K HK
         try simp only[Act.put,sb0,sc0,sc1]
         refine rd1 11 fun K hK=>?_
         refine app1 (.tmp 48) (.tmp 58) _ w.heap.size 52 i1 _ 2 48 Tryz.underlying43 hi1 hx0 hz1 hz2 (.slice B d.length cB) d.length _ HP.out.1 _ (some ⟨w5.heap.size,0,none⟩) 1 1 _ HP.out.2.1 (itsV_one _) HN.out.1 HN.out.2.1 HP.out.2.2.1 ?_
         intro v6 w6 hown hg hat
         obtain⟨A6,c6,rfl⟩:=own_form hown
         have h6:=HP.out.2.2.2 _ _ _ _ hown hg
         have hxb:=HB.out.put h6
         have H6:=Lib.hid (And.intro h6.1 (And.intro hxb h6.2.2.2.1))
         clear hown hg hat HP HB
         try dsimp only
         refine hK.out _ _ (hxb.xb.facts.2.2.1) fun hHeld=>?_
         clear hK K h6 hxb
         try simp only[Act.put,sb0]
         refine tk 12 ?_
         refine wpAnyH_done (by kernel_rfl) ?_ _
         go_wp2_with fail
         go_meet
         exact⟨A6,c6,d++[(⟨pcHead x.id++[0],x.owner.data.toList⟩,(A5,6,c5),(some ⟨X20.heap.size,0,none⟩,x.owner.size,cs))],by rw[List.length_append];rfl,by rw[List.length_append];exact H6.out.1,by rw[List.map_append,HM.out.1];rfl,H6.out.2.1,by rw[List.length_append,HM.out.2];rfl⟩
       ·go_simp
        obtain⟨hS,hw⟩:=newB_str2 X1z x.owner HOW.out
        have HK2:=HK.add hw hS
        clear HK hS hw
        have HK:=HK2
        clear HK2
        generalize grownCap X1z x.owner.size 0 5=cs at HK ⊢
        generalize (World.drew (World.alloc X1z (.cells (bytesRow x.owner cs) 5 ((bytesRow x.owner cs).size,(bytesRow x.owner cs).size+1))))=X20s at HK ⊢
        refine hK.out _ _ (HO.out _ HK.bel) fun hHeld=>?_
        clear hK K
        try simp only[Act.put,sb0,sc0,sc1]
        refine oneH 1 (HK.litH #[.int .u8 112] 1 [112] HO.out rfl ?_)
        clear HK
        intro X27 HK hHeld
        refine oneH 3 (HK.appH (m:=4) (.tmp 49) (.tmp 50) (HID.out _ HK.bel) (by decide) ?_)
        clear HK
        intro A3 c3 w3 HK
        refine nxt (HO.out _ HK.bel) fun hHeld=>?_
        refine oneH 5 (HK.appH (m:=1) (.tmp 51) (.tmp 52) (HK.rd (k:=(some ⟨V.heap.size,0,none⟩,1,1)) (ys:=[0]) (by simp)) (by decide) ?_)
        clear HK
        intro A5 c5 w5 HK
        refine nxt (HO.out _ HK.bel) fun hHeld=>?_
        skip
        refine tk 9 ?_
        refine rd1 10 fun K hK=>?_
        go_simp
        have HP:=Lib.hid (put_step (HOUT.out _ HK.bel) (Nat.le_trans HN.out.2.2 HK.bel.size) ⟨pcHead x.id++[0],x.owner.data.toList⟩ A5 6 c5 (some ⟨X1z.heap.size,0,none⟩) x.owner.size cs (HK.key.mono HN.out.2.2) ((HK.all ((some ⟨X1z.heap.size,0,none⟩,x.owner.size,cs),x.owner.data.toList) (by simp)).1.mono HN.out.2.2))
        have HB:=Lib.hid (HXB.out _ HK.bel)
        refine hK.out _ _ (HO.out _ (below_on HK.bel (Nat.le_refl _) ((Below.refl _ _).alloc (Nat.le_refl _) _))) fun hHeld=>?_
        clear hK K HK
        try simp only[Act.put,sb0,sc0,sc1]
        refine rd1 11 fun K hK=>?_
        refine app1 (.tmp 48) (.tmp 58) _ w.heap.size 52 i1 _ 2 48 Tryz.underlying43 hi1 hx0 hz1 hz2 (.slice B d.length cB) d.length _ HP.out.1 _ (some ⟨w5.heap.size,0,none⟩) 1 1 _ HP.out.2.1 (itsV_one _) HN.out.1 HN.out.2.1 HP.out.2.2.1 ?_
        intro v6 w6 hown hg hat
        obtain⟨A6,c6,rfl⟩:=own_form hown
        have h6:=HP.out.2.2.2 _ _ _ _ hown hg
        have hxb:=HB.out.put h6
        have H6:=Lib.hid (And.intro h6.1 (And.intro hxb h6.2.2.2.1))
        clear hown hg hat HP HB
        try dsimp only
        refine hK.out _ _ (hxb.xb.facts.2.2.1) fun hHeld=>?_
        clear hK K h6 hxb
        try simp only[Act.put,sb0]
        refine tk 12 ?_
        refine wpAnyH_done (by kernel_rfl) ?_ _
        go_wp2_with fail
        go_meet
        exact⟨A6,c6,d++[(⟨pcHead x.id++[0],x.owner.data.toList⟩,(A5,6,c5),(some ⟨X1z.heap.size,0,none⟩,x.owner.size,cs))],by rw[List.length_append];rfl,by rw[List.length_append];exact H6.out.1,by rw[List.map_append,HM.out.1];rfl,H6.out.2.1,by rw[List.length_append,HM.out.2];rfl⟩
      ·go_simp
       obtain⟨hS,hw⟩:=newB_str2 V x.owner HOW.out
       have HK2:=HK.add hw hS
       clear HK hS hw
       have HK:=HK2
       clear HK2
       generalize grownCap V x.owner.size 0 5=cs at HK ⊢
       generalize (World.drew (World.alloc V (.cells (bytesRow x.owner cs) 5 ((bytesRow x.owner cs).size,(bytesRow x.owner cs).size+1))))=X1s at HK ⊢
       refine hK.out _ _ (HO.out _ HK.bel) fun hHeld=>?_
       clear hK K
       try simp only[Act.put,sb0,sc0,sc1]
       refine twoH 1 4 (HK.litH #[.int .u8 112] 1 [112] HO.out rfl ?_) (HK.addH #[.int .u8 0] 1 [0] HO.out rfl ?_)
       ·clear HK
        intro X30 HK hHeld
        refine twoH 3 4 (HK.appH (m:=4) (.tmp 49) (.tmp 50) (HID.out _ HK.bel) (by decide) ?_) (HK.addH #[.int .u8 0] 1 [0] HO.out rfl ?_)
        ·clear HK
         intro A3 c3 w3 HK
         refine nxt (HO.out _ HK.bel) fun hHeld=>?_
         refine oneH 4 (HK.addH #[.int .u8 0] 1 [0] HO.out rfl ?_)
         clear HK
         intro X32z HK hHeld
         refine oneH 5 (HK.appH (m:=1) (.tmp 51) (.tmp 52) (HK.rd (k:=(some ⟨w3.heap.size,0,none⟩,1,1)) (ys:=[0]) (by simp)) (by decide) ?_)
         clear HK
         intro A5 c5 w5 HK
         refine nxt (HO.out _ HK.bel) fun hHeld=>?_
         skip
         refine tk 9 ?_
         refine rd1 10 fun K hK=>?_
         go_simp
         have HP:=Lib.hid (put_step (HOUT.out _ HK.bel) (Nat.le_trans HN.out.2.2 HK.bel.size) ⟨pcHead x.id++[0],x.owner.data.toList⟩ A5 6 c5 (some ⟨V.heap.size,0,none⟩) x.owner.size cs (HK.key.mono HN.out.2.2) ((HK.all ((some ⟨V.heap.size,0,none⟩,x.owner.size,cs),x.owner.data.toList) (by simp)).1.mono HN.out.2.2))
         have HB:=Lib.hid (HXB.out _ HK.bel)
         refine hK.out _ _ (HO.out _ (below_on HK.bel (Nat.le_refl _) ((Below.refl _ _).alloc (Nat.le_refl _) _))) fun hHeld=>?_
         clear hK K HK
         try simp only[Act.put,sb0,sc0,sc1]
         refine rd1 11 fun K hK=>?_
         refine app1 (.tmp 48) (.tmp 58) _ w.heap.size 52 i1 _ 2 48 Tryz.underlying43 hi1 hx0 hz1 hz2 (.slice B d.length cB) d.length _ HP.out.1 _ (some ⟨w5.heap.size,0,none⟩) 1 1 _ HP.out.2.1 (itsV_one _) HN.out.1 HN.out.2.1 HP.out.2.2.1 ?_
         intro v6 w6 hown hg hat
         obtain⟨A6,c6,rfl⟩:=own_form hown
         have h6:=HP.out.2.2.2 _ _ _ _ hown hg
         have hxb:=HB.out.put h6
         have H6:=Lib.hid (And.intro h6.1 (And.intro hxb h6.2.2.2.1))
         clear hown hg hat HP HB
         try dsimp only
         refine hK.out _ _ (hxb.xb.facts.2.2.1) fun hHeld=>?_
         clear hK K h6 hxb
         try simp only[Act.put,sb0]
         refine tk 12 ?_
         refine wpAnyH_done (by kernel_rfl) ?_ _
         go_wp2_with fail
         go_meet
         exact⟨A6,c6,d++[(⟨pcHead x.id++[0],x.owner.data.toList⟩,(A5,6,c5),(some ⟨V.heap.size,0,none⟩,x.owner.size,cs))],by rw[List.length_append];rfl,by rw[List.length_append];exact H6.out.1,by rw[List.map_append,HM.out.1];rfl,H6.out.2.1,by rw[List.length_append,HM.out.2];rfl⟩
        ·clear HK
         intro X31z HK hHeld
         refine oneH 3 (HK.appH (m:=4) (.tmp 49) (.tmp 50) (HID.out _ HK.bel) (by decide) ?_)
         clear HK
         intro A3 c3 w3 HK
         refine nxt (HO.out _ HK.bel) fun hHeld=>?_
         refine oneH 5 (HK.appH (m:=1) (.tmp 51) (.tmp 52) (HK.rd (k:=(some ⟨X30.heap.size,0,none⟩,1,1)) (ys:=[0]) (by simp)) (by decide) ?_)
         clear HK
         intro A5 c5 w5 HK
         refine nxt (HO.out _ HK.bel) fun hHeld=>?_
         skip
         refine tk 9 ?_
         refine rd1 10 fun K hK=>?_
         go_simp
         have HP:=Lib.hid (put_step (HOUT.out _ HK.bel) (Nat.le_trans HN.out.2.2 HK.bel.size) ⟨pcHead x.id++[0],x.owner.data.toList⟩ A5 6 c5 (some ⟨V.heap.size,0,none⟩) x.owner.size cs (HK.key.mono HN.out.2.2) ((HK.all ((some ⟨V.heap.size,0,none⟩,x.owner.size,cs),x.owner.data.toList) (by simp)).1.mono HN.out.2.2))
         have HB:=Lib.hid (HXB.out _ HK.bel)
         refine hK.out _ _ (HO.out _ (below_on HK.bel (Nat.le_refl _) ((Below.refl _ _).alloc (Nat.le_refl _) _))) fun hHeld=>?_
         clear hK K HK
         try simp only[Act.put,sb0,sc0,sc1]
         refine rd1 11 fun K hK=>?_
         refine app1 (.tmp 48) (.tmp 58) _ w.heap.size 52 i1 _ 2 48 Tryz.underlying43 hi1 hx0 hz1 hz2 (.slice B d.length cB) d.length _ HP.out.1 _ (some ⟨w5.heap.size,0,none⟩) 1 1 _ HP.out.2.1 (itsV_one _) HN.out.1 HN.out.2.1 HP.out.2.2.1 ?_
         intro v6 w6 hown hg hat
         obtain⟨A6,c6,rfl⟩:=own_form hown
         have h6:=HP.out.2.2.2 _ _ _ _ hown hg
         have hxb:=HB.out.put h6
         have H6:=Lib.hid (And.intro h6.1 (And.intro hxb h6.2.2.2.1))
         clear hown hg hat HP HB
         try dsimp only
         refine hK.out _ _ (hxb.xb.facts.2.2.1) fun hHeld=>?_
         clear hK K h6 hxb
         try simp only[Act.put,sb0]
         refine tk 12 ?_
         refine wpAnyH_done (by kernel_rfl) ?_ _
         go_wp2_with fail
         go_meet
         exact⟨A6,c6,d++[(⟨pcHead x.id++[0],x.owner.data.toList⟩,(A5,6,c5),(some ⟨V.heap.size,0,none⟩,x.owner.size,cs))],by rw[List.length_append];rfl,by rw[List.length_append];exact H6.out.1,by rw[List.map_append,HM.out.1];rfl,H6.out.2.1,by rw[List.length_append,HM.out.2];rfl⟩
       ·clear HK
        intro X30z HK hHeld
        refine oneH 1 (HK.litH #[.int .u8 112] 1 [112] HO.out rfl ?_)
        clear HK
        intro X36 HK hHeld
        refine oneH 3 (HK.appH (m:=4) (.tmp 49) (.tmp 50) (HID.out _ HK.bel) (by decide) ?_)
        clear HK
        intro A3 c3 w3 HK
        refine nxt (HO.out _ HK.bel) fun hHeld=>?_
        refine oneH 5 (HK.appH (m:=1) (.tmp 51) (.tmp 52) (HK.rd (k:=(some ⟨X1s.heap.size,0,none⟩,1,1)) (ys:=[0]) (by simp)) (by decide) ?_)
        clear HK
        intro A5 c5 w5 HK
        refine nxt (HO.out _ HK.bel) fun hHeld=>?_
        skip
        refine tk 9 ?_
        refine rd1 10 fun K hK=>?_
        go_simp
        have HP:=Lib.hid (put_step (HOUT.out _ HK.bel) (Nat.le_trans HN.out.2.2 HK.bel.size) ⟨pcHead x.id++[0],x.owner.data.toList⟩ A5 6 c5 (some ⟨V.heap.size,0,none⟩) x.owner.size cs (HK.key.mono HN.out.2.2) ((HK.all ((some ⟨V.heap.size,0,none⟩,x.owner.size,cs),x.owner.data.toList) (by simp)).1.mono HN.out.2.2))
        have HB:=Lib.hid (HXB.out _ HK.bel)
        refine hK.out _ _ (HO.out _ (below_on HK.bel (Nat.le_refl _) ((Below.refl _ _).alloc (Nat.le_refl _) _))) fun hHeld=>?_
        clear hK K HK
        try simp only[Act.put,sb0,sc0,sc1]
        refine rd1 11 fun K hK=>?_
        refine app1 (.tmp 48) (.tmp 58) _ w.heap.size 52 i1 _ 2 48 Tryz.underlying43 hi1 hx0 hz1 hz2 (.slice B d.length cB) d.length _ HP.out.1 _ (some ⟨w5.heap.size,0,none⟩) 1 1 _ HP.out.2.1 (itsV_one _) HN.out.1 HN.out.2.1 HP.out.2.2.1 ?_
        intro v6 w6 hown hg hat
        obtain⟨A6,c6,rfl⟩:=own_form hown
        have h6:=HP.out.2.2.2 _ _ _ _ hown hg
        have hxb:=HB.out.put h6
        have H6:=Lib.hid (And.intro h6.1 (And.intro hxb h6.2.2.2.1))
        clear hown hg hat HP HB
        try dsimp only
        refine hK.out _ _ (hxb.xb.facts.2.2.1) fun hHeld=>?_
        clear hK K h6 hxb
        try simp only[Act.put,sb0]
        refine tk 12 ?_
        refine wpAnyH_done (by kernel_rfl) ?_ _
        go_wp2_with fail
        go_meet
        exact⟨A6,c6,d++[(⟨pcHead x.id++[0],x.owner.data.toList⟩,(A5,6,c5),(some ⟨V.heap.size,0,none⟩,x.owner.size,cs))],by rw[List.length_append];rfl,by rw[List.length_append];exact H6.out.1,by rw[List.map_append,HM.out.1];rfl,H6.out.2.1,by rw[List.length_append,HM.out.2];rfl⟩
     case rest=>
      obtain⟨B,cB,d,rfl,HW1⟩:=hcut
      obtain⟨T,rfl⟩:∃X,X=wc:=⟨_,rfl⟩
      obtain⟨q1,q2,q3,q4⟩:=HW1.out.2.2.1.xb.facts
      have hkc8:chkN nk≤8:=chkN_le (by have:=HX.out.2.2.2.2.2.2.1;have:=HX.out.2.2.2.2.1;omega)
      have hnk8:nk≤128:=by have:=HX.out.2.2.2.2.2.2.1;have:=HX.out.2.2.2.2.1;omega
      have HN0:=Lib.hid (show N0≤19500 by have:=HX.out.2.2.1;have:=HM.out.2;omega)
      clear HL
      go_wp2_with fail
      go_loopw [3,8] (fun s i wr=>∃(j:Nat) (B:Option Addr) (cB:Nat) (d:List ItH),j≤chkN nk∧i= .int .i64 (j:Int)∧s= .slice B d.length cB∧Hid (ItsOwn w.heap.size wr B d.length cB d∧d.map (·.1)=(M0++[⟨pcHead x.id++[0],x.owner.data.toList⟩])++(ringIts (pcHead x.id) x.ring 1).take j∧LF w wr A n c (some adp) n' c' gx x (some adk) nk ck Ai ci∧d.length=N0+1+j)) (fun _ i _=>chkN nk-(intOf i).toNat)
      case atStart=>exact⟨0,B,cB,d,Nat.zero_le _,rfl,rfl,HW1.out.1,by rw[HW1.out.2.1];simp,HW1.out.2.2.1,HW1.out.2.2.2⟩
      case round=>
       clear q1 q2 q3 q4 HW1
       obtain⟨j,B,cB,d,hk,rfl,rfl,HW⟩:=hrel
       obtain⟨q1,q2,q3,q4⟩:=HW.out.2.2.1.xb.facts
       have hw16:IntKind.i64.wrap (16*(j:Int))=16*(j:Int):=by rw[IntKind.wrap_i64];omega
       by_cases hlt:16*j<nk
       ·have g1:16*(j:Int)<(nk:Int):=by omega
        have hw1:IntKind.i64.wrap ((j:Int)+1)=(j:Int)+1:=by rw[IntKind.wrap_i64];omega
        have hw8:IntKind.u8.wrap ((j:Int)+1)=(j:Int)+1:=by rw[IntKind.wrap_u8];omega
        have HJ:=Lib.hid (And.intro hlt (show j+1≤chkN nk by unfold chkN;omega))
        have hLN:Hid (d.length+1≤maxLen∧(d.length+1)*48≤140737488355328):=⟨by have:=HW.out.2.2.2;have:=HN0.out;simp only[maxLen];omega,by have:=HW.out.2.2.2;have:=HN0.out;omega⟩
        have HU:Hid ([Value.int .u8 ((j:Int)+1)]=u8s [UInt8.ofNat (1+j)]):=by
         show _=_
         unfold u8s
         simp only[List.map_cons,List.map_nil,UInt8.toNat_ofNat']
         rw[show (((1+j)%2^8:Nat):Int)=(j:Int)+1 by omega]
        have HM2:=Lib.hid (And.intro HW.out.2.1 HW.out.2.2.2)
        obtain⟨nb,hnb⟩:∃nb,(chunkB x.ring j).length=nb:=⟨_,rfl⟩
        have HNB:=Lib.hid hnb
        clear hnb hlt hk
        go_upto_region 15 with fail
        have HBW:Hid (Below w.heap.size w wr.drew):=HW.out.2.2.1.bel.drew
        have hL2:=HW.out.2.2.1.on (Below.refl wr.heap.size wr).drew
        have hO2:=HW.out.1.below (Below.refl wr.heap.size wr).drew
        refine wp_region_held_drew (S:=fun V'=>V'.cell? ⟨gx,1,none⟩=some (.slice (some adk) nk ck)) (by kernel_rfl) ?_ (fun hHeld=>?_)
        ·exact hL2.xb.facts.2.1
        generalize wr.drew=V at *
        have HXB:Hid (∀V',Below V.heap.size V V'→LF w V' A n c (some adp) n' c' gx x (some adk) nk ck Ai ci):=fun V' hV=>hL2.on hV
        have HID:Hid (∀V',Below V.heap.size V V'→Reads V' V'.heap.size 1 Ai 4 (u8s (idBy x.id))):=fun V' hV=>(hL2.on hV).idn.1
        have HOUT:Hid (∀V',Below V.heap.size V V'→ItsOwn w.heap.size V' B d.length cB d):=fun V' hV=>hO2.below hV
        have HO:Hid (∀V',Below V.heap.size V V'→V'.cell? ⟨gx,1,none⟩=some (.slice (some adk) nk ck)):=fun V' hV=>(hL2.on hV).xb.facts.2.1
        have KC:Hid (∀V',Below V.heap.size V V'→Calls Tryz.prog 53 #[.slice (some adk) nk ck,.int .i64 (j:Int)] V' (Own8 (chunkB x.ring j) V')):=fun V' hV=>chunkL_any x.ring (some adk) nk ck j V' (reads_over HX.out.2.2.2.2.2.2.2.2.2.2 HBU.out (below_on HBW.out (Nat.le_refl _) hV) (below_on HBW.out (Nat.le_refl _) hV).size) (by have:=HX.out.2.2.2.2.2.2.1;have:=HX.out.2.2.2.2.1;omega) HJ.out.1 HX.out.2.2.2.2.2.1
        have HN:=Lib.hid (And.intro hLN.out.1 (And.intro hLN.out.2 hL2.bel.size))
        have HK:=KP.start V
        clear hL2 hO2 hLN q1 q2 q3
        refine tk 0 ?_
        refine tk 2 ?_
        refine tk 4 ?_
        refine tk 5 ?_
        refine tk 6 ?_
        refine tk 9 ?_
        refine tk 10 ?_
        refine tk 11 ?_
        refine twoH 1 7 (HK.litH #[.int .u8 112] 1 [112] HO.out rfl ?_) (HK.addH #[.int .u8 ((j:Int)+1)] 1 [UInt8.ofNat (1+j)] HO.out HU.out ?_)
        ·clear HK
         intro X1 HK hHeld
         refine twoH 3 7 (HK.appH (m:=4) (.tmp 69) (.tmp 70) (HID.out _ HK.bel) (by decide) ?_) (HK.addH #[.int .u8 ((j:Int)+1)] 1 [UInt8.ofNat (1+j)] HO.out HU.out ?_)
         ·clear HK
          intro A3 c3 w3 HK
          refine nxt (HO.out _ HK.bel) fun hHeld=>?_
          refine oneH 7 (HK.addH #[.int .u8 ((j:Int)+1)] 1 [UInt8.ofNat (1+j)] HO.out HU.out ?_)
          clear HK
          intro X3z HK hHeld
          refine oneH 8 (HK.appH (m:=1) (.tmp 71) (.tmp 75) (HK.rd (k:=(some ⟨w3.heap.size,0,none⟩,1,1)) (ys:=[UInt8.ofNat (1+j)]) (by simp)) (by decide) ?_)
          clear HK
          intro A8 c8 w8 HK
          refine nxt (HO.out _ HK.bel) fun hHeld=>?_
          refine rd1 12 fun K hK=>?_
          go_simp
          go_at_call 53
          (with_reducible refine(KC.out _ HK.bel).mono ?_)
          rintro e w12 ⟨A12,c12,rfl,ho12,hb12⟩
          rw[HNB.out]at ho12 ⊢
          have HK2:=HK.add hb12 (NewB.of_own ho12)
          clear HK ho12 hb12
          have HK:=HK2
          clear HK2
          try dsimp only
          refine hK.out _ _ (HO.out _ HK.bel) fun hHeld=>?_
          clear hK K
          try simp only[Act.put,sb0,sc0,sc1]
          refine tk 13 ?_
          refine rd1 14 fun K hK=>?_
          go_simp
          have HP:=Lib.hid (put_step (HOUT.out _ HK.bel) (Nat.le_trans HN.out.2.2 HK.bel.size) ⟨pcHead x.id++[UInt8.ofNat (1+j)],chunkB x.ring j⟩ A8 6 c8 A12 nb c12 (HK.key.mono HN.out.2.2) ((HK.all ((A12,nb,c12),chunkB x.ring j) (by simp)).1.mono HN.out.2.2))
          have HB:=Lib.hid (HXB.out _ HK.bel)
          refine hK.out _ _ (HO.out _ (below_on HK.bel (Nat.le_refl _) ((Below.refl _ _).alloc (Nat.le_refl _) _))) fun hHeld=>?_
          clear hK K HK
          try simp only[Act.put,sb0,sc0,sc1]
          refine rd1 15 fun K hK=>?_
          refine app1 (.tmp 68) (.tmp 82) _ w.heap.size 52 i1 _ 2 48 Tryz.underlying43 hi1 hx0 hz1 hz2 (.slice B d.length cB) d.length _ HP.out.1 _ (some ⟨w12.heap.size,0,none⟩) 1 1 _ HP.out.2.1 (itsV_one _) HN.out.1 HN.out.2.1 HP.out.2.2.1 ?_
          intro v6 w6 hown hg hat
          obtain⟨A6,c6,rfl⟩:=own_form hown
          have h6:=HP.out.2.2.2 _ _ _ _ hown hg
          have hxb:=HB.out.put h6
          have H6:=Lib.hid (And.intro h6.1 (And.intro hxb h6.2.2.2.1))
          clear hown hg hat HP HB
          try dsimp only
          refine hK.out _ _ (hxb.xb.facts.2.1) fun hHeld=>?_
          clear hK K h6 hxb
          try simp only[Act.put,sb0]
          refine tk 16 ?_
          refine wpAnyH_done (by kernel_rfl) ?_ _
          go_wp2_with fail
          go_roundw
          case rel=>exact⟨j+1,A6,c6,d++[(⟨pcHead x.id++[UInt8.ofNat (1+j)],chunkB x.ring j⟩,(A8,6,c8),(A12,nb,c12))],HJ.out.2,by go_num,by rw[List.length_append];rfl,by rw[List.length_append];exact H6.out.1,by rw[List.map_append,HM2.out.1,ring_take _ _ _ _ (by rw[HX.out.2.2.2.2.1];exact HJ.out.2),List.append_assoc];rfl,H6.out.2.1,by rw[List.length_append,HM2.out.2];rfl⟩
          case measure=>have:=HJ.out.2;simp[intOf];omega
         ·clear HK
          intro X2z HK hHeld
          refine oneH 3 (HK.appH (m:=4) (.tmp 69) (.tmp 70) (HID.out _ HK.bel) (by decide) ?_)
          clear HK
          intro A3 c3 w3 HK
          refine nxt (HO.out _ HK.bel) fun hHeld=>?_
          refine oneH 8 (HK.appH (m:=1) (.tmp 71) (.tmp 75) (HK.rd (k:=(some ⟨X1.heap.size,0,none⟩,1,1)) (ys:=[UInt8.ofNat (1+j)]) (by simp)) (by decide) ?_)
          clear HK
          intro A8 c8 w8 HK
          refine nxt (HO.out _ HK.bel) fun hHeld=>?_
          refine rd1 12 fun K hK=>?_
          go_simp
          go_at_call 53
          (with_reducible refine(KC.out _ HK.bel).mono ?_)
          rintro e w12 ⟨A12,c12,rfl,ho12,hb12⟩
          rw[HNB.out]at ho12 ⊢
          have HK2:=HK.add hb12 (NewB.of_own ho12)
          clear HK ho12 hb12
          have HK:=HK2
          clear HK2
          try dsimp only
          refine hK.out _ _ (HO.out _ HK.bel) fun hHeld=>?_
          clear hK K
          try simp only[Act.put,sb0,sc0,sc1]
          refine tk 13 ?_
          refine rd1 14 fun K hK=>?_
          go_simp
          have HP:=Lib.hid (put_step (HOUT.out _ HK.bel) (Nat.le_trans HN.out.2.2 HK.bel.size) ⟨pcHead x.id++[UInt8.ofNat (1+j)],chunkB x.ring j⟩ A8 6 c8 A12 nb c12 (HK.key.mono HN.out.2.2) ((HK.all ((A12,nb,c12),chunkB x.ring j) (by simp)).1.mono HN.out.2.2))
          have HB:=Lib.hid (HXB.out _ HK.bel)
          refine hK.out _ _ (HO.out _ (below_on HK.bel (Nat.le_refl _) ((Below.refl _ _).alloc (Nat.le_refl _) _))) fun hHeld=>?_
          clear hK K HK
          try simp only[Act.put,sb0,sc0,sc1]
          refine rd1 15 fun K hK=>?_
          refine app1 (.tmp 68) (.tmp 82) _ w.heap.size 52 i1 _ 2 48 Tryz.underlying43 hi1 hx0 hz1 hz2 (.slice B d.length cB) d.length _ HP.out.1 _ (some ⟨w12.heap.size,0,none⟩) 1 1 _ HP.out.2.1 (itsV_one _) HN.out.1 HN.out.2.1 HP.out.2.2.1 ?_
          intro v6 w6 hown hg hat
          obtain⟨A6,c6,rfl⟩:=own_form hown
          have h6:=HP.out.2.2.2 _ _ _ _ hown hg
          have hxb:=HB.out.put h6
          have H6:=Lib.hid (And.intro h6.1 (And.intro hxb h6.2.2.2.1))
          clear hown hg hat HP HB
          try dsimp only
          refine hK.out _ _ (hxb.xb.facts.2.1) fun hHeld=>?_
          clear hK K h6 hxb
          try simp only[Act.put,sb0]
          refine tk 16 ?_
          refine wpAnyH_done (by kernel_rfl) ?_ _
          go_wp2_with fail
          go_roundw
          case rel=>exact⟨j+1,A6,c6,d++[(⟨pcHead x.id++[UInt8.ofNat (1+j)],chunkB x.ring j⟩,(A8,6,c8),(A12,nb,c12))],HJ.out.2,by go_num,by rw[List.length_append];rfl,by rw[List.length_append];exact H6.out.1,by rw[List.map_append,HM2.out.1,ring_take _ _ _ _ (by rw[HX.out.2.2.2.2.1];exact HJ.out.2),List.append_assoc];rfl,H6.out.2.1,by rw[List.length_append,HM2.out.2];rfl⟩
          case measure=>have:=HJ.out.2;simp[intOf];omega
        ·clear HK
         intro X1z HK hHeld
         refine oneH 1 (HK.litH #[.int .u8 112] 1 [112] HO.out rfl ?_)
         clear HK
         intro X7 HK hHeld
         refine oneH 3 (HK.appH (m:=4) (.tmp 69) (.tmp 70) (HID.out _ HK.bel) (by decide) ?_)
         clear HK
         intro A3 c3 w3 HK
         refine nxt (HO.out _ HK.bel) fun hHeld=>?_
         refine oneH 8 (HK.appH (m:=1) (.tmp 71) (.tmp 75) (HK.rd (k:=(some ⟨V.heap.size,0,none⟩,1,1)) (ys:=[UInt8.ofNat (1+j)]) (by simp)) (by decide) ?_)
         clear HK
         intro A8 c8 w8 HK
         refine nxt (HO.out _ HK.bel) fun hHeld=>?_
         refine rd1 12 fun K hK=>?_
         go_simp
         go_at_call 53
         (with_reducible refine(KC.out _ HK.bel).mono ?_)
         rintro e w12 ⟨A12,c12,rfl,ho12,hb12⟩
         rw[HNB.out]at ho12 ⊢
         have HK2:=HK.add hb12 (NewB.of_own ho12)
         clear HK ho12 hb12
         have HK:=HK2
         clear HK2
         try dsimp only
         refine hK.out _ _ (HO.out _ HK.bel) fun hHeld=>?_
         clear hK K
         try simp only[Act.put,sb0,sc0,sc1]
         refine tk 13 ?_
         refine rd1 14 fun K hK=>?_
         go_simp
         have HP:=Lib.hid (put_step (HOUT.out _ HK.bel) (Nat.le_trans HN.out.2.2 HK.bel.size) ⟨pcHead x.id++[UInt8.ofNat (1+j)],chunkB x.ring j⟩ A8 6 c8 A12 nb c12 (HK.key.mono HN.out.2.2) ((HK.all ((A12,nb,c12),chunkB x.ring j) (by simp)).1.mono HN.out.2.2))
         have HB:=Lib.hid (HXB.out _ HK.bel)
         refine hK.out _ _ (HO.out _ (below_on HK.bel (Nat.le_refl _) ((Below.refl _ _).alloc (Nat.le_refl _) _))) fun hHeld=>?_
         clear hK K HK
         try simp only[Act.put,sb0,sc0,sc1]
         refine rd1 15 fun K hK=>?_
         refine app1 (.tmp 68) (.tmp 82) _ w.heap.size 52 i1 _ 2 48 Tryz.underlying43 hi1 hx0 hz1 hz2 (.slice B d.length cB) d.length _ HP.out.1 _ (some ⟨w12.heap.size,0,none⟩) 1 1 _ HP.out.2.1 (itsV_one _) HN.out.1 HN.out.2.1 HP.out.2.2.1 ?_
         intro v6 w6 hown hg hat
         obtain⟨A6,c6,rfl⟩:=own_form hown
         have h6:=HP.out.2.2.2 _ _ _ _ hown hg
         have hxb:=HB.out.put h6
         have H6:=Lib.hid (And.intro h6.1 (And.intro hxb h6.2.2.2.1))
         clear hown hg hat HP HB
         try dsimp only
         refine hK.out _ _ (hxb.xb.facts.2.1) fun hHeld=>?_
         clear hK K h6 hxb
         try simp only[Act.put,sb0]
         refine tk 16 ?_
         refine wpAnyH_done (by kernel_rfl) ?_ _
         go_wp2_with fail
         go_roundw
         case rel=>exact⟨j+1,A6,c6,d++[(⟨pcHead x.id++[UInt8.ofNat (1+j)],chunkB x.ring j⟩,(A8,6,c8),(A12,nb,c12))],HJ.out.2,by go_num,by rw[List.length_append];rfl,by rw[List.length_append];exact H6.out.1,by rw[List.map_append,HM2.out.1,ring_take _ _ _ _ (by rw[HX.out.2.2.2.2.1];exact HJ.out.2),List.append_assoc];rfl,H6.out.2.1,by rw[List.length_append,HM2.out.2];rfl⟩
         case measure=>have:=HJ.out.2;simp[intOf];omega
       ·have hjc:j=chkN nk:=by unfold chkN at *;omega
        have g1:¬16*(j:Int)<(nk:Int):=by omega
        subst hjc
        clear hlt
        go_wp2_with fail
        have hring:Hid (d.map (·.1)=((M0++[⟨pcHead x.id++[0],x.owner.data.toList⟩])++ringIts (pcHead x.id) x.ring 1)∧d.length=N0+1+chkN nk):=⟨by rw[HW.out.2.1,List.take_of_length_le (by rw[ring_len,HX.out.2.2.2.2.1];exact Nat.le_refl _)],HW.out.2.2.2⟩
        have KE:=Lib.hid (edgesR_any x.ring (some adk) nk ck wr (reads_over HX.out.2.2.2.2.2.2.2.2.2.2 HBU.out HW.out.2.2.1.bel HW.out.2.2.1.bel.size) (by omega))
        go_wp2_with fail
        refine KE.out.mono ?_
        rintro e W9 ⟨Ae,ce,rfl,hoe,hbe⟩
        have HE9:=Lib.hid (And.intro (HW.out.1.below hbe) (And.intro (HW.out.2.2.1.on hbe) (own_mono hoe HW.out.2.2.1.bel.size)))
        clear hoe hbe KE HW q1 q2 q3 q4
        go_wp2_with fail
        go_loopw [3,10] (fun s i wr=>∃(j:Nat) (B:Option Addr) (cB:Nat) (d:List ItH),j≤nk∧i= .int .i64 (j:Int)∧s= .slice B d.length cB∧Hid (ItsOwn w.heap.size wr B d.length cB d∧d.map (·.1)=((M0++[⟨pcHead x.id++[0],x.owner.data.toList⟩])++ringIts (pcHead x.id) x.ring 1)++((edgesOf x.ring).take j).map (fun e=>⟨edgKy e,idBy x.id⟩)∧LF w wr A n c (some adp) n' c' gx x (some adk) nk ck Ai ci∧d.length=N0+1+chkN nk+j∧wr.ownsRow w.heap.size 76 4 (.slice Ae nk ce) nk (edsV (edgesOf x.ring)))) (fun _ i _=>nk-(intOf i).toNat)
        case atStart=>exact⟨0,B,cB,d,Nat.zero_le _,rfl,rfl,HE9.out.1,by rw[hring.out.1];simp,HE9.out.2.1,hring.out.2,HE9.out.2.2⟩
        case round=>
         clear HE9 hring
         obtain⟨j,B,cB,d,hk,rfl,rfl,HW⟩:=hrel
         by_cases hlt:j<nk
         ·have g1:(j:Int)<(nk:Int):=by omega
          have hw1:IntKind.i64.wrap ((j:Int)+1)=(j:Int)+1:=by rw[IntKind.wrap_i64];omega
          have HJ:=Lib.hid (show j+1≤nk by omega)
          have hLN:Hid (d.length+1≤maxLen∧(d.length+1)*48≤140737488355328):=⟨by have:=HW.out.2.2.2.1;have:=HN0.out;simp only[maxLen];omega,by have:=HW.out.2.2.2.1;have:=HN0.out;omega⟩
          have HM2:=Lib.hid (And.intro HW.out.2.1 HW.out.2.2.2.1)
          obtain⟨bd,rfl,hbd,hP0⟩:=(Reads.of_own HW.out.2.2.2.2).edA hlt
          have hel:j<(edgesOf x.ring).length:=by unfold edgesOf;rw[List.length_map,List.length_range,HX.out.2.2.2.2.1];exact hlt
          obtain⟨e,he⟩:∃e,edAt (edgesOf x.ring) j=e:=⟨_,rfl⟩
          have HTK:Hid ((edgesOf x.ring).take (j+1)=(edgesOf x.ring).take j++[e]):=by rw[←he,edAt_lt hel];exact List.take_succ_eq_append_getElem hel
          have hgd:=edgK_good HX.out.2.2.2.2.2.1 (e:=e) (by rw[←he,edAt_lt hel];exact List.getElem_mem hel)
          rw[he]at hP0
          obtain⟨q,hq⟩:∃q,e.a=q:=⟨_,rfl⟩
          obtain⟨r,hr⟩:∃r,e.b=r:=⟨_,rfl⟩
          rw[hq,hr]at hP0 hgd
          have HG:=Lib.hid hgd
          have HQ:Hid (edgKy e=[101]++ptB q++ptB r):=by show edgKy e=_;unfold edgKy;rw[hq,hr];simp
          clear he hel hgd hq hr hlt hk
          go_upto_region 20 with fail
          have hL2:=HW.out.2.2.1.on (Below.refl wr.heap.size wr).drew
          have hO2:=HW.out.1.below (Below.refl wr.heap.size wr).drew
          have hE2:=own_below HW.out.2.2.2.2 (Below.refl wr.heap.size wr).drew
          refine wp_region_held_drew (S:=fun V'=>V'.cell? (bd.add (j*4))=some (.int .i64 q.x)∧V'.cell? ⟨(bd.add (j*4)).block,(bd.add (j*4)).off+1,none⟩=some (.int .i64 q.y)∧V'.cell? ⟨(bd.add (j*4)).block,(bd.add (j*4)).off+2,none⟩=some (.int .i64 r.x)∧V'.cell? ⟨(bd.add (j*4)).block,(bd.add (j*4)).off+3,none⟩=some (.int .i64 r.y)) (by kernel_rfl) ?_ (fun hHeld=>?_)
          ·exact hP0
          have hbd2:bd.block<wr.drew.heap.size:=hbd
          have hP0:wr.drew.cell? (bd.add (j*4))=some (.int .i64 q.x)∧wr.drew.cell? ⟨(bd.add (j*4)).block,(bd.add (j*4)).off+1,none⟩=some (.int .i64 q.y)∧wr.drew.cell? ⟨(bd.add (j*4)).block,(bd.add (j*4)).off+2,none⟩=some (.int .i64 r.x)∧wr.drew.cell? ⟨(bd.add (j*4)).block,(bd.add (j*4)).off+3,none⟩=some (.int .i64 r.y):=hP0
          generalize wr.drew=V at *
          have HXB:Hid (∀V',Below V.heap.size V V'→LF w V' A n c (some adp) n' c' gx x (some adk) nk ck Ai ci):=fun V' hV=>hL2.on hV
          have HID:Hid (∀V',Below V.heap.size V V'→Reads V' V'.heap.size 1 Ai 4 (u8s (idBy x.id))):=fun V' hV=>(hL2.on hV).idn.1
          have HOUT:Hid (∀V',Below V.heap.size V V'→ItsOwn w.heap.size V' B d.length cB d):=fun V' hV=>hO2.below hV
          have HEO:Hid (∀V',Below V.heap.size V V'→V'.ownsRow w.heap.size 76 4 (.slice (some bd) nk ce) nk (edsV (edgesOf x.ring))):=fun V' hV=>own_below hE2 hV
          have HO:Hid (∀V',Below V.heap.size V V'→V'.cell? (bd.add (j*4))=some (.int .i64 q.x)∧V'.cell? ⟨(bd.add (j*4)).block,(bd.add (j*4)).off+1,none⟩=some (.int .i64 q.y)∧V'.cell? ⟨(bd.add (j*4)).block,(bd.add (j*4)).off+2,none⟩=some (.int .i64 r.x)∧V'.cell? ⟨(bd.add (j*4)).block,(bd.add (j*4)).off+3,none⟩=some (.int .i64 r.y)):=fun V' hV=>cells4 hbd2 (block_of_add _ _) (block_of_add _ _) (block_of_add _ _) (block_of_add _ _) hP0 hV
          have HN:=Lib.hid (And.intro hLN.out.1 (And.intro hLN.out.2 hL2.bel.size))
          have HK:=KP.start V
          clear hL2 hO2 hLN hE2 hbd2 hbd
          refine tk 1 ?_
          refine tk 2 ?_
          refine tk 3 ?_
          refine tk 4 ?_
          refine tk 5 ?_
          refine tk 8 ?_
          refine tk 9 ?_
          refine tk 10 ?_
          refine tk 11 ?_
          refine tk 12 ?_
          refine twoH 0 6 (HK.litH #[.int .u8 101] 1 [101] HO.out rfl ?_) (rdH fun K hK=>?_)
          ·clear HK
           intro X1 HK hHeld
           refine oneH 6 (rdH fun K hK=>?_)
           go_simp
           go_at_call 55
           (with_reducible refine(ptL2 q HG.out.1 _).mono ?_)
           rintro e X2c ⟨A6,c6,rfl,ho,hb⟩
           rw[ptB_len]at ho ⊢
           have HK2:=HK.add hb (NewB.of_own ho)
           clear HK ho hb
           have HK:=HK2
           clear HK2
           try dsimp only
           refine hK.out _ _ (HO.out _ HK.bel) fun hHeld=>?_
           clear hK K
           try simp only[Act.put,sb0,sc0,sc1]
           refine oneH 7 (HK.appH (m:=8) (.tmp 93) (.tmp 99) (HK.rd (k:=(A6,8,c6)) (ys:=ptB q) (by simp)) (by decide) ?_)
           clear HK
           intro A7 c7 w7 HK
           refine nxt (HO.out _ HK.bel) fun hHeld=>?_
           refine rd1 13 fun K hK=>?_
           go_simp
           go_at_call 55
           (with_reducible refine(ptL2 r HG.out.2 _).mono ?_)
           rintro e w13 ⟨A13,c13,rfl,ho,hb⟩
           rw[ptB_len]at ho ⊢
           have HK2:=HK.add hb (NewB.of_own ho)
           clear HK ho hb
           have HK:=HK2
           clear HK2
           try dsimp only
           refine hK.out _ _ (HO.out _ HK.bel) fun hHeld=>?_
           clear hK K
           try simp only[Act.put,sb0,sc0,sc1]
           refine oneH 14 (HK.appH (m:=8) (.tmp 100) (.tmp 106) (HK.rd (k:=(A13,8,c13)) (ys:=ptB r) (by simp)) (by decide) ?_)
           clear HK
           intro A14 c14 w14 HK
           refine nxt (HO.out _ HK.bel) fun hHeld=>?_
           refine tk 15 ?_
           refine wpAnyH_done (by kernel_rfl) ?_ _
           have HE:=Lib.hid (And.intro (HXB.out _ HK.bel) (And.intro (HOUT.out _ HK.bel) (And.intro (HEO.out _ HK.bel) (And.intro (show NewB w.heap.size w14 (A14,17,c14) (edgKy e) by rw[HQ.out];exact HK.key.mono HN.out.2.2) (Nat.le_trans HN.out.2.2 HK.bel.size)))))
           clear HK HXB HID HOUT HEO HO hHeld hP0
           have hown0:=World.ownsRow_made (base:=w14.heap.size) (e:=5) (size:=1) w14 #[] 0 (Nat.le_refl _) (by simp[maxLen]) rfl
           have hb0:Below w14.heap.size w14 (w14.alloc (.cells #[] 5)):=(Below.refl _ _).alloc (Nat.le_refl _) _
           go_wp2_with (at_builtin;first|(refine wpList_append_any _ rfl (.tmp 110) (.tmp 111) _ rfl w14.heap.size 5 i0 _ 1 1 Tryz.underlying50 hi0 hy0 hy1 hy2 rfl (Nat.zero_lt_succ _) (.slice (some ⟨w14.heap.size,0,none⟩) 0 0) 0 [] rfl hown0 _ Ai 4 ci (u8s (idBy x.id)) rfl (HE.out.1.on hb0).idn.1 (u8s_one _) (by decide) (by decide) hb0.size ?_;intro v2 w2 hown2 hg2 hat2;obtain⟨A2,c2,rfl⟩:=own_form hown2;have hb2:=hb0.grown hg2 hb0.size (by (intro k hk;simp[Value.ownBlock]at hk;omega));clear hg2 hat2;simp only[Nat.zero_add,List.nil_append]at hown2;have hs2:=Nat.le_trans HE.out.2.2.2.2 hb2.size;have HP:=Lib.hid (put_step (HE.out.2.1.below hb2) hs2 ⟨edgKy e,idBy x.id⟩ A14 17 c14 A2 4 c2 (HE.out.2.2.2.1.below hb2) ((NewB.of_own hown2).mono HE.out.2.2.2.2));have HE2:=Lib.hid (And.intro (HE.out.1.on hb2) (own_below HE.out.2.2.1 hb2));clear HE hown2 hb2 hb0 hown0 hs2)|(refine wpList_append_any _ rfl (.tmp 108) (.tmp 114) _ rfl w.heap.size 52 i1 _ 2 48 Tryz.underlying43 hi1 hx0 hz1 hz2 rfl (Nat.zero_lt_succ _) (.slice B d.length cB) d.length _ rfl HP.out.1 _ (some ⟨w2.heap.size,0,none⟩) 1 1 _ rfl HP.out.2.1 (itsV_one _) HN.out.1 HN.out.2.1 HP.out.2.2.1 ?_;intro v6 w6 hown6 hg6 hat6;obtain⟨A6,c6,rfl⟩:=own_form hown6;have h6:=HP.out.2.2.2 _ _ _ _ hown6 hg6;clear hown6 hg6 hat6))
           have H6:=Lib.hid (And.intro h6.1 (And.intro (HE2.out.1.put h6) (h6.2.2.2.1 _ _ _ _ _ _ (by decide) HE2.out.2)))
           clear h6 HP HE2
           go_roundw
           case rel=>exact⟨j+1,A6,c6,d++[(⟨edgKy e,idBy x.id⟩,(A14,17,c14),(A2,4,c2))],HJ.out,by go_num,by rw[List.length_append];rfl,by rw[List.length_append];exact H6.out.1,by rw[List.map_append,HM2.out.1,HTK.out,List.map_append,←List.append_assoc];rfl,H6.out.2.1,by rw[List.length_append,HM2.out.2];rfl,H6.out.2.2⟩
           case measure=>have:=HJ.out;simp[intOf];omega
          ·go_simp
           go_at_call 55
           (with_reducible refine(ptL2 q HG.out.1 _).mono ?_)
           rintro e X1c ⟨A6,c6,rfl,ho,hb⟩
           rw[ptB_len]at ho ⊢
           have HK2:=HK.add hb (NewB.of_own ho)
           clear HK ho hb
           have HK:=HK2
           clear HK2
           try dsimp only
           refine hK.out _ _ (HO.out _ HK.bel) fun hHeld=>?_
           clear hK K
           try simp only[Act.put,sb0,sc0,sc1]
           refine oneH 0 (HK.litH #[.int .u8 101] 1 [101] HO.out rfl ?_)
           clear HK
           intro X4 HK hHeld
           refine oneH 7 (HK.appH (m:=8) (.tmp 93) (.tmp 99) (HK.rd (k:=(A6,8,c6)) (ys:=ptB q) (by simp)) (by decide) ?_)
           clear HK
           intro A7 c7 w7 HK
           refine nxt (HO.out _ HK.bel) fun hHeld=>?_
           refine rd1 13 fun K hK=>?_
           go_simp
           go_at_call 55
           (with_reducible refine(ptL2 r HG.out.2 _).mono ?_)
           rintro e w13 ⟨A13,c13,rfl,ho,hb⟩
           rw[ptB_len]at ho ⊢
           have HK2:=HK.add hb (NewB.of_own ho)
           clear HK ho hb
           have HK:=HK2
           clear HK2
           try dsimp only
           refine hK.out _ _ (HO.out _ HK.bel) fun hHeld=>?_
           clear hK K
           try simp only[Act.put,sb0,sc0,sc1]
           refine oneH 14 (HK.appH (m:=8) (.tmp 100) (.tmp 106) (HK.rd (k:=(A13,8,c13)) (ys:=ptB r) (by simp)) (by decide) ?_)
           clear HK
           intro A14 c14 w14 HK
           refine nxt (HO.out _ HK.bel) fun hHeld=>?_
           refine tk 15 ?_
           refine wpAnyH_done (by kernel_rfl) ?_ _
           have HE:=Lib.hid (And.intro (HXB.out _ HK.bel) (And.intro (HOUT.out _ HK.bel) (And.intro (HEO.out _ HK.bel) (And.intro (show NewB w.heap.size w14 (A14,17,c14) (edgKy e) by rw[HQ.out];exact HK.key.mono HN.out.2.2) (Nat.le_trans HN.out.2.2 HK.bel.size)))))
           clear HK HXB HID HOUT HEO HO hHeld hP0
           have hown0:=World.ownsRow_made (base:=w14.heap.size) (e:=5) (size:=1) w14 #[] 0 (Nat.le_refl _) (by simp[maxLen]) rfl
           have hb0:Below w14.heap.size w14 (w14.alloc (.cells #[] 5)):=(Below.refl _ _).alloc (Nat.le_refl _) _
           go_wp2_with (at_builtin;first|(refine wpList_append_any _ rfl (.tmp 110) (.tmp 111) _ rfl w14.heap.size 5 i0 _ 1 1 Tryz.underlying50 hi0 hy0 hy1 hy2 rfl (Nat.zero_lt_succ _) (.slice (some ⟨w14.heap.size,0,none⟩) 0 0) 0 [] rfl hown0 _ Ai 4 ci (u8s (idBy x.id)) rfl (HE.out.1.on hb0).idn.1 (u8s_one _) (by decide) (by decide) hb0.size ?_;intro v2 w2 hown2 hg2 hat2;obtain⟨A2,c2,rfl⟩:=own_form hown2;have hb2:=hb0.grown hg2 hb0.size (by (intro k hk;simp[Value.ownBlock]at hk;omega));clear hg2 hat2;simp only[Nat.zero_add,List.nil_append]at hown2;have hs2:=Nat.le_trans HE.out.2.2.2.2 hb2.size;have HP:=Lib.hid (put_step (HE.out.2.1.below hb2) hs2 ⟨edgKy e,idBy x.id⟩ A14 17 c14 A2 4 c2 (HE.out.2.2.2.1.below hb2) ((NewB.of_own hown2).mono HE.out.2.2.2.2));have HE2:=Lib.hid (And.intro (HE.out.1.on hb2) (own_below HE.out.2.2.1 hb2));clear HE hown2 hb2 hb0 hown0 hs2)|(refine wpList_append_any _ rfl (.tmp 108) (.tmp 114) _ rfl w.heap.size 52 i1 _ 2 48 Tryz.underlying43 hi1 hx0 hz1 hz2 rfl (Nat.zero_lt_succ _) (.slice B d.length cB) d.length _ rfl HP.out.1 _ (some ⟨w2.heap.size,0,none⟩) 1 1 _ rfl HP.out.2.1 (itsV_one _) HN.out.1 HN.out.2.1 HP.out.2.2.1 ?_;intro v6 w6 hown6 hg6 hat6;obtain⟨A6,c6,rfl⟩:=own_form hown6;have h6:=HP.out.2.2.2 _ _ _ _ hown6 hg6;clear hown6 hg6 hat6))
           have H6:=Lib.hid (And.intro h6.1 (And.intro (HE2.out.1.put h6) (h6.2.2.2.1 _ _ _ _ _ _ (by decide) HE2.out.2)))
           clear h6 HP HE2
           go_roundw
           case rel=>exact⟨j+1,A6,c6,d++[(⟨edgKy e,idBy x.id⟩,(A14,17,c14),(A2,4,c2))],HJ.out,by go_num,by rw[List.length_append];rfl,by rw[List.length_append];exact H6.out.1,by rw[List.map_append,HM2.out.1,HTK.out,List.map_append,←List.append_assoc];rfl,H6.out.2.1,by rw[List.length_append,HM2.out.2];rfl,H6.out.2.2⟩
           case measure=>have:=HJ.out;simp[intOf];omega
         ·obtain rfl:nk=j:=by omega
          have hE:Hid (d.map (·.1)=(((M0++[⟨pcHead x.id++[0],x.owner.data.toList⟩])++ringIts (pcHead x.id) x.ring 1)++(edgesOf x.ring).map (fun e=>⟨edgKy e,idBy x.id⟩))∧d.length=N0+1+chkN nk+nk):=⟨by rw[HW.out.2.1,List.take_of_length_le (by unfold edgesOf;rw[List.length_map,List.length_range,HX.out.2.2.2.2.1];exact Nat.le_refl _)],HW.out.2.2.2.1⟩
          obtain⟨q1,q2,q3,q4⟩:=HW.out.2.2.1.xb.facts
          have KA:=Lib.hid (around_sound HX.out.2.2.2.2.2.2.2.2.2.1 (some adk) nk ck wr (reads_over HX.out.2.2.2.2.2.2.2.2.2.2 HBU.out HW.out.2.2.1.bel HW.out.2.2.1.bel.size) (by omega))
          have KS:=Lib.hid (cellsL_two x.ring HX.out.2.2.2.2.2.2.2.2.2.1).2
          have hfw:=cells_few (l:=cellsL x.ring) (fun q hq=>cellsL_key hq) (cellsL_nodup _)
          have HCK:Hid (∀q∈cellsL x.ring,-4≤q.x∧q.x≤4∧ -4≤q.y∧q.y≤4):=fun q hq=>cellsL_key hq
          obtain⟨nc,hnc⟩:∃nc,(cellsL x.ring).length=nc:=⟨_,rfl⟩
          rw[hnc]at hfw
          have HNC:=Lib.hid (And.intro hnc hfw)
          clear hlt hk hnc hfw
          go_wp2_with fail
          refine KA.out.mono ?_
          rintro e V1 ⟨rfl,hb1⟩
          go_wp2_with fail
          refine(KS.out V1).mono ?_
          rintro e V2 ⟨Ac,cc,rfl,hoc,hb2⟩
          rw[HNC.out.1]at hoc ⊢
          have hb12:=below_on hb1 (Nat.le_refl _) hb2
          have HE9:=Lib.hid (And.intro (HW.out.1.below hb12) (And.intro (HW.out.2.2.1.on hb12) (own_mono hoc (Nat.le_trans HW.out.2.2.1.bel.size hb1.size))))
          clear hoc hb12 hb1 hb2 KA KS HW q1 q2 q3 q4
          go_wp2_with fail
          go_loopw [3,13] (fun s i wr=>∃(j:Nat) (B:Option Addr) (cB:Nat) (d:List ItH),j≤nc∧i= .int .i64 (j:Int)∧s= .slice B d.length cB∧Hid (ItsOwn w.heap.size wr B d.length cB d∧d.map (·.1)=(((M0++[⟨pcHead x.id++[0],x.owner.data.toList⟩])++ringIts (pcHead x.id) x.ring 1)++(edgesOf x.ring).map (fun e=>⟨edgKy e,idBy x.id⟩))++((cellsL x.ring).take j).map (fun c=>⟨clKey x.id c,[]⟩)∧LF w wr A n c (some adp) n' c' gx x (some adk) nk ck Ai ci∧d.length=N0+1+chkN nk+nk+j∧wr.ownsRow w.heap.size 102 2 (.slice Ac nc cc) nc (ptsV (cellsL x.ring)))) (fun _ i _=>nc-(intOf i).toNat)
          case atStart=>exact⟨0,B,cB,d,Nat.zero_le _,rfl,rfl,HE9.out.1,by rw[hE.out.1];simp,HE9.out.2.1,hE.out.2,HE9.out.2.2⟩
          case round=>
           clear HE9 hE
           obtain⟨j,B,cB,d,hk,rfl,rfl,HW⟩:=hrel
           by_cases hlt:j<nc
           ·have g1:(j:Int)<(nc:Int):=by omega
            have hw1:IntKind.i64.wrap ((j:Int)+1)=(j:Int)+1:=by have:=HNC.out.2;rw[IntKind.wrap_i64];omega
            have HJ:=Lib.hid (show j+1≤nc by omega)
            have hLN:Hid (d.length+1≤maxLen∧(d.length+1)*48≤140737488355328):=⟨by have:=HW.out.2.2.2.1;have:=HN0.out;have:=HNC.out.2;simp only[maxLen];omega,by have:=HW.out.2.2.2.1;have:=HN0.out;have:=HNC.out.2;omega⟩
            have HM2:=Lib.hid (And.intro HW.out.2.1 HW.out.2.2.2.1)
            obtain⟨bd,rfl,hbd,-⟩:=(Reads.of_own HW.out.2.2.2.2).pt hlt
            obtain⟨-,hP0⟩:=(Reads.of_own HW.out.2.2.2.2).ptA hlt
            have hel:j<(cellsL x.ring).length:=by rw[HNC.out.1];exact hlt
            have hqm:ptAt (cellsL x.ring) j∈cellsL x.ring:=ptAt_mem hel
            have hjl:=hlt
            have HTK0:(cellsL x.ring).take (j+1)=(cellsL x.ring).take j++[ptAt (cellsL x.ring) j]:=by rw[ptAt_lt hel];exact List.take_succ_eq_append_getElem hel
            have HPA:=Lib.hid (show ∀W:World,W.ownsRow w.heap.size 102 2 (.slice (some bd) nc cc) nc (ptsV (cellsL x.ring))→W.cell? (bd.add (j*2))=some (.int .i64 (ptAt (cellsL x.ring) j).x)∧W.cell? ⟨(bd.add (j*2)).block,(bd.add (j*2)).off+1,none⟩=some (.int .i64 (ptAt (cellsL x.ring) j).y) from fun W hW=>((Reads.of_own hW).ptA hlt).2)
            obtain⟨q,hq⟩:∃q,ptAt (cellsL x.ring) j=q:=⟨_,rfl⟩
            rw[hq]at hP0 hqm HTK0 HPA
            have hr:=HCK.out q hqm
            have HTK:=Lib.hid HTK0
            have HU:=Lib.hid (cl_three hr)
            have x1:IntKind.i64.wrap (q.x+128)=q.x+128:=by rw[IntKind.wrap_i64];omega
            have x2:IntKind.i64.wrap (q.y+128)=q.y+128:=by rw[IntKind.wrap_i64];omega
            have x3:IntKind.u8.wrap (q.x+128)=q.x+128:=by rw[IntKind.wrap_u8];omega
            have x4:IntKind.u8.wrap (q.y+128)=q.y+128:=by rw[IntKind.wrap_u8];omega
            clear hel hqm hq hr HTK0 hlt hk
            go_upto_region 26 with fail
            have hL2:=HW.out.2.2.1.on (Below.refl wr.heap.size wr).drew
            have hO2:=HW.out.1.below (Below.refl wr.heap.size wr).drew
            have hE2:=own_below HW.out.2.2.2.2 (Below.refl wr.heap.size wr).drew
            refine wp_region_held_drew (S:=fun V'=>V'.cell? (bd.add (j*2))=some (.int .i64 q.x)∧V'.cell? ⟨(bd.add (j*2)).block,(bd.add (j*2)).off+1,none⟩=some (.int .i64 q.y)) (by kernel_rfl) ?_ (fun hHeld=>?_)
            ·exact hP0
            have hbd2:bd.block<wr.drew.heap.size:=hbd
            have hP0:wr.drew.cell? (bd.add (j*2))=some (.int .i64 q.x)∧wr.drew.cell? ⟨(bd.add (j*2)).block,(bd.add (j*2)).off+1,none⟩=some (.int .i64 q.y):=hP0
            generalize wr.drew=V at *
            have HXB:Hid (∀V',Below V.heap.size V V'→LF w V' A n c (some adp) n' c' gx x (some adk) nk ck Ai ci):=fun V' hV=>hL2.on hV
            have HID:Hid (∀V',Below V.heap.size V V'→Reads V' V'.heap.size 1 Ai 4 (u8s (idBy x.id))):=fun V' hV=>(hL2.on hV).idn.1
            have HOUT:Hid (∀V',Below V.heap.size V V'→ItsOwn w.heap.size V' B d.length cB d):=fun V' hV=>hO2.below hV
            have HEO:Hid (∀V',Below V.heap.size V V'→V'.ownsRow w.heap.size 102 2 (.slice (some bd) nc cc) nc (ptsV (cellsL x.ring))):=fun V' hV=>own_below hE2 hV
            have HO:Hid (∀V',Below V.heap.size V V'→V'.cell? (bd.add (j*2))=some (.int .i64 q.x)∧V'.cell? ⟨(bd.add (j*2)).block,(bd.add (j*2)).off+1,none⟩=some (.int .i64 q.y)):=fun V' hV=>cells2 hbd2 (block_of_add _ _) (block_of_add _ _) hP0 hV
            have HN:=Lib.hid (And.intro hLN.out.1 (And.intro hLN.out.2 hL2.bel.size))
            have HK:=KP.start V
            clear hL2 hO2 hLN hE2 hbd2 hbd
            refine tk 0 ?_
            refine tk 1 ?_
            refine tk 2 ?_
            refine tk 3 ?_
            refine tk 4 ?_
            refine tk 5 ?_
            refine tk 6 ?_
            refine tk 7 ?_
            refine tk 8 ?_
            refine tk 9 ?_
            refine tk 10 ?_
            refine tk 11 ?_
            refine tk 12 ?_
            refine tk 13 ?_
            refine tk 14 ?_
            refine tk 16 ?_
            refine oneH 15 (HK.litH #[.int .u8 99,.int .u8 (q.x+128),.int .u8 (q.y+128)] 3 [99,UInt8.ofNat (q.x+128).toNat,UInt8.ofNat (q.y+128).toNat] HO.out HU.out ?_)
            clear HK
            intro X1 HK hHeld
            refine oneH 17 (HK.appH (m:=4) (.tmp 141) (.tmp 142) (HID.out _ HK.bel) (by decide) ?_)
            clear HK
            intro A17 c17 w17 HK
            refine nxt (HO.out _ HK.bel) fun hHeld=>?_
            refine tk 18 ?_
            refine rd1 19 fun K hK=>?_
            go_simp
            have HP:=Lib.hid (put_step (HOUT.out _ HK.bel) (Nat.le_trans HN.out.2.2 HK.bel.size) ⟨clKey x.id q,[]⟩ A17 7 c17 none 0 0 ((show NewB V.heap.size _ _ (clKey x.id q) from HK.key).mono HN.out.2.2) (newB_nil _ _))
            have HEB:=Lib.hid (HEO.out _ HK.bel)
            have HB:=Lib.hid (HXB.out _ HK.bel)
            refine hK.out _ _ (HO.out _ (below_on HK.bel (Nat.le_refl _) ((Below.refl _ _).alloc (Nat.le_refl _) _))) fun hHeld=>?_
            clear hK K HK
            try simp only[Act.put,sb0,sc0,sc1]
            refine rd1 20 fun K hK=>?_
            refine app1 (.tmp 126) (.tmp 145) _ w.heap.size 52 i1 _ 2 48 Tryz.underlying43 hi1 hx0 hz1 hz2 (.slice B d.length cB) d.length _ HP.out.1 _ (some ⟨w17.heap.size,0,none⟩) 1 1 _ HP.out.2.1 (itsV_one _) HN.out.1 HN.out.2.1 HP.out.2.2.1 ?_
            intro v6 w6 hown hg hat
            obtain⟨A6,c6,rfl⟩:=own_form hown
            have h6:=HP.out.2.2.2 _ _ _ _ hown hg
            have hxb:=HB.out.put h6
            have hcr:=h6.2.2.2.1 _ _ _ _ _ _ (by decide) HEB.out
            have HH:=Lib.hid (HPA.out _ hcr)
            have H6:=Lib.hid (And.intro h6.1 (And.intro hxb h6.2.2.2.1))
            clear hown hg hat HP HB
            try dsimp only
            refine hK.out _ _ (HH.out) fun hHeld=>?_
            clear hK K h6 hxb
            try simp only[Act.put,sb0]
            refine tk 21 ?_
            refine wpAnyH_done (by kernel_rfl) ?_ _
            have HC:=Lib.hid hcr
            clear hcr
            go_wp2_with fail
            go_roundw
            case rel=>exact⟨j+1,A6,c6,d++[(⟨clKey x.id q,[]⟩,(A17,7,c17),(none,0,0))],HJ.out,by go_num,by rw[List.length_append];rfl,by rw[List.length_append];exact H6.out.1,by rw[List.map_append,HM2.out.1,HTK.out,List.map_append,←List.append_assoc];rfl,H6.out.2.1,by rw[List.length_append,HM2.out.2];rfl,HC.out⟩
            case measure=>have:=HJ.out;simp[intOf];omega
           ·obtain rfl:nc=j:=by omega
            have hC:Hid (d.map (·.1)=ringIts [111] p.outer 0++(p.parcels.take (k+1)).flatMap parIts):=by
             show _=_
             rw[HW.out.2.1,List.take_of_length_le (by rw[HNC.out.1];exact Nat.le_refl _),HX.out.2.1,List.flatMap_append,HU0.out]
             simp[parIts]
            clear hlt hk
            go_wp2_with fail
            go_roundw
            case rel=>exact⟨k+1,B,cB,d,HKK.out,by go_num,rfl,HW.out.1,hC.out,HW.out.2.2.1.bel,HW.out.2.2.1.pl⟩
            case measure=>have:=HKK.out;simp[intOf];omega
    ·obtain rfl:k=n':=by omega
     have hC:Hid (d.map (·.1)=planIts p):=by show _=_;rw[HW.out.2.1,List.take_of_length_le (by omega)];rfl
     clear hlt hk
     go_wp2_with fail
     go_ret
     exact⟨B,cB,d,rfl,HW.out.1,hC.out,HW.out.2.2.1⟩
end Go.Proofs.YtpkeacnacjnlcaaGreat
