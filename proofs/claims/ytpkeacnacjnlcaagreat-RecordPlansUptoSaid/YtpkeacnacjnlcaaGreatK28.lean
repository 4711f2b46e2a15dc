/- record.Plan of no items, and of any; merestonelaw14.RecordPlans: the walk. -/
import Derived.Test.YtpkeacnacjnlcaaGreatK12
import Derived.Test.YtpkeacnacjnlcaaGreatK16
import Derived.Test.YtpkeacnacjnlcaaGreatK18
import Derived.Test.YtpkeacnacjnlcaaGreatK24
import Derived.Test.YtpkeacnacjnlcaaGreatK26
import Derived.Test.YtpkeacnacjnlcaaGreatK27
namespace Go.Proofs.YtpkeacnacjnlcaaGreat
open Go.RowKit Go.Lib Go.Shelf
set_option maxHeartbeats 1600000 in
theorem sortedFuncI0_any (A:Option Addr) (cap Bs:Nat) (w:World) (hs:Bs<w.heap.size) (hc:w.cell? ⟨Bs,0,none⟩=some (.slice A 0 cap)):
 Calls Tryz.prog 58 #[.func (.func 102) #[] #[.pointer (some ⟨Bs,0,none⟩)],.func (.func 44) #[] #[]] w fun e w'=>∃g c,e= .returned (.slice g 0 c)∧Below w.heap.size w w':=by
 have HK:=Lib.hid (collectI_any [] A 0 cap w.heap.size Bs w (by decide) (Nat.le_refl _) hs hc ⟨rfl,fun h=>absurd h (by omega)⟩)
 clear hc
 go_enter Tryz.func58,Tryz.ntmps58
 go_wp2_with fail
 refine HK.out.mono ?_
 rintro e w1 ⟨v,rfl,ho,hb⟩
 obtain⟨g,c,rfl⟩:∃g c,v= .slice g 0 c:=by
  rcases ho.2 with ⟨h0,_⟩|⟨g,c,_,rfl,_⟩
  ·exact⟨none,0,h0⟩
  ·exact⟨_,c,rfl⟩
 have HS:=AnyF.slices_SortFunc_none (P:=Tryz.prog) sortIt g c (.func (.func 44) #[] #[]) w1
 change Calls Tryz.prog 43 _ _ _ at HS
 have HS:=Lib.hid HS
 have HB:=Lib.hid hb
 clear ho HK hb
 go_wp2_with fail
 refine HS.out.mono ?_
 rintro e w2 ⟨rfl,rfl⟩
 go_wp2_with fail
 go_ret
 exact⟨g,c,rfl,HB.out⟩
theorem planIts_pos {p:Plan} (h:SoundP p):planIts p≠[]:=by
 have ok:=recOK_sound h
 have h1:=(sound_ring h (.inl rfl)).2.2.1
 have h6:1≤chkN p.outer.length:=by unfold chkN;omega
 intro e
 have:=congrArg List.length e
 unfold planIts ringIts at this
 rw[List.length_append,List.length_map,List.length_range]at this
 simp at this
 omega
set_option maxRecDepth 100000 in
set_option maxHeartbeats 6400000 in
theorem planR0_any (A:Option Addr) (cap:Nat) (w:World):
 Calls Tryz.prog 26 #[.slice A 0 cap] w (PlanPostR [] w):=by
 obtain⟨w0,hw0⟩:∃W,W=w.alloc (.cells #[.slice none 0 0,.slice none 0 0] 30):=⟨_,rfl⟩
 have hb0:Below w.heap.size w w0:=by rw[hw0];exact(Below.refl _ _).alloc (Nat.le_refl _) _
 have hk0:PlK w0 w.heap.size none 0 0 none 0 0:=by rw[hw0];exact PlK.new w none 0 0 none 0 0
 have KV:=Lib.hid (valuesI_any A 0 cap w0)
 have H0:=Lib.hid (And.intro hb0 hk0)
 clear hb0 hk0
 go_enter Tryz.func26,Tryz.ntmps26
 go_upto_region 1 with fail
 rw[←hw0]
 clear hw0
 go_wp2_with fail
 refine KV.out.mono ?_
 rintro e w1 ⟨rfl,hw1⟩
 have hb1:Below w0.heap.size w0 w1:=by rw[hw1];exact(Below.refl _ _).alloc (Nat.le_refl _) _
 have hs1:w1.heap.size=w0.heap.size+1:=by rw[hw1,World.size_alloc]
 have hc1:w1.cell? ⟨w0.heap.size,0,none⟩=some (.slice A 0 cap):=by
  have hB:Blk w1 w0.heap.size 43 #[.slice A 0 cap]:=by rw[hw1];exact Blk.new w0 _ _
  have:=Blk.cell (i:=0) hB
  simpa using this
 have hbw:=below_on H0.out.1 (Nat.le_refl _) hb1
 have KS:=Lib.hid (sortedFuncI0_any A cap w0.heap.size w1 (by omega) hc1)
 have HB:=Lib.hid (And.intro hbw (Blk.below H0.out.2 hb1 (Blk.lt H0.out.2)))
 clear hb1 hs1 hc1 hbw hw1 KV
 go_wp2_with fail
 refine KS.out.mono ?_
 rintro e X ⟨g,c1,rfl,hbX⟩
 have HX:Hid (Below w.heap.size w X∧PlK X w.heap.size none 0 0 none 0 0):=⟨below_on HB.out.1 (Nat.le_refl _) hbX,Blk.below HB.out.2 hbX (Blk.lt HB.out.2)⟩
 clear hbX HB KS H0
 obtain⟨W0,hW0⟩:∃W,W=X.alloc (.cells #[.slice none 0 0,.slice none 0 0] 30):=⟨_,rfl⟩
 have hba:Below X.heap.size X W0:=by rw[hW0];exact(Below.refl _ _).alloc (Nat.le_refl _) _
 have hk1:PlK W0 X.heap.size none 0 0 none 0 0:=by rw[hW0];exact PlK.new X none 0 0 none 0 0
 have KI:=Lib.hid (items_any ⟨[],[]⟩ none none 0 0 0 0 W0 (planOwn_nil W0.heap.size W0).at_)
 obtain⟨q1,q2,f1,f2⟩:=plk_facts4 hk1
 have H1:=Lib.hid (And.intro (below_on HX.out.1 (Nat.le_refl _) hba) (HX.out.2.on hba))
 clear hba hk1 HX
 go_upto_region 3 with fail
 rw[←hW0]
 clear hW0
 have hpb:planB ⟨[],[]⟩=false:=planB_no fun h=>by
  have:=(sound_ring h (.inl rfl)).2.2.1
  simp at this
 have HPB:=Lib.hid hpb
 clear hpb
 go_wp2_with fail
 go_loopw [20] (fun i wr=>i= .int .i64 0∧wr=W0) (fun _ _=>0)
 case atStart=>exact⟨rfl,rfl⟩
 case round=>
  obtain⟨rfl,rfl⟩:=hrel
  go_wp2_with fail
  refine KI.out.mono ?_
  rintro e w2 ⟨-,hF,hb2⟩
  obtain rfl:=hF HPB.out
  have hbw:=below_on H1.out.1 (Nat.le_refl _) hb2
  have hres:PlK w2 w.heap.size none 0 0 none 0 0:=H1.out.2.on hb2
  obtain⟨Y,hY,y1,y2,hbY⟩:=res_store (g:=w.heap.size) hbw (Nat.le_refl _) hres (.slice none 0 0) (.slice none 0 0)
  obtain⟨r1,r2,r3,r4⟩:=plk_facts4 hres
  have HY:=Lib.hid hY
  have HR3:=Lib.hid (And.intro y1 (And.intro y2 hbY))
  clear hY y1 y2 hbY hF hb2 hbw hres KI q1 q2 f1 f2 H1
  go_wp2_with fail
  rw[←HY.out]
  obtain⟨y1,y2,hbY⟩:=HR3.out
  refine bodyPost_ret (v:= .tuple #[planV none 0 0 none 0 0,.int .i64 2]) ?_ rfl ⟨hbY,.inr ⟨fun p hp hq=>planIts_pos (planB_sound hp) (List.nil_perm.1 hq),rfl⟩⟩
  simp[results,Tryz.results26,go_sem,y1,y2]
/-- Of any items. -/
theorem planRN_any (d:List ItH) (A:Option Addr) (n cap:Nat) (w:World) (h:ItsAt w w.heap.size A n cap d) (hn:n≤65536)
 (hka:∀e∈d,(∀a,e.2.1.1=some a→a.block<w.heap.size)∧∀a,e.2.2.1=some a→a.block<w.heap.size) (hT:szL (d.map (·.1))≤1048576):
 Calls Tryz.prog 26 #[.slice A n cap] w (PlanPostR (d.map (·.1)) w):=by
 rcases Nat.eq_zero_or_pos n with h0|h0
 ·subst h0
  obtain rfl:d=[]:=List.eq_nil_of_length_eq_zero h.len
  exact planR0_any A cap w
 ·exact planR_any d A n cap w h h0 hn hka hT
end Go.Proofs.YtpkeacnacjnlcaaGreat
namespace Go.Proofs.YtpkeacnacjnlcaaGreat
open Go.RowKit Go.Lib
theorem vals_bulk {H:Type} {xs:List ItH} {d:DataW H} (h:valsL xs≤Rows.uptoBulk d) (hk:Rows.uptoSmall H ([d]++[])=true):szL (xs.map (·.1))≤1048576:=by
 have h1:Rows.uptoBulkAll ([d]++[])≤1048576:=of_decide_eq_true hk
 simp only[List.append_nil,Rows.uptoBulkAll]at h1
 unfold szL
 rw[List.map_map]
 exact Nat.le_trans h (by omega)
theorem find_itemN {L M:List It} (hn:(L.map (·.k)).Nodup) (hp:L.Perm M) {i:Nat} (hi:i<M.length):∃k:Nat,k<L.length∧findI L (itAt M i).k=(k:Int)∧itAt L k=itAt M i:=by
 have hm:itAt M i∈L:=hp.mem_iff.2 (itAt_mem hi)
 rcases findI_cases L (itAt M i).k with ⟨-,h⟩|⟨k,hk,h1,h2,-⟩
 ·exact absurd rfl (h _ hm)
 ·exact⟨k,hk,h1,mem_of_key hn (itAt_mem hk) hm h2⟩
set_option maxRecDepth 100000 in
set_option maxHeartbeats 6400000 in
theorem recordPlans_any (d:List ItH) (A:Option Addr) (n c:Nat) (w:World) (h:ItsAt w w.heap.size A n c d) (hl:∀e∈d,e.1.k.length≤140737488351232∧e.1.v.length≤140737488351232) (hT:szL (d.map (·.1))≤1048576):
 Calls Tryz.prog 7 #[.slice A n c] w fun e w'=>e= .returned (.bool true)∧Below w.heap.size w w':=by
 have H0:=Lib.hid (And.intro h (And.intro hl (And.intro hT h.len)))
 clear h hl hT
 go_enter Tryz.func7,Tryz.ntmps7
 go_wp2_with fail
 refine(ans14_any w).mono ?_
 rintro e w1 ⟨rfl,hb1⟩
 have H1:=Lib.hid (And.intro (H0.out.1.on hb1) hb1)
 clear hb1
 by_cases h400:n≤400
 case neg=>
  have hg:(400:Int)<(n:Int):=by omega
  go_wp2_with fail
  refine(ans14_any w1).mono ?_
  rintro e w2 ⟨rfl,hb2⟩
  have H2:=Lib.hid (below_on H1.out.2 (Nat.le_refl _) hb2)
  clear hb2 H1
  go_wp2_with fail
  go_ret
  exact⟨rfl,H2.out⟩
 have hg:¬(400:Int)<(n:Int):=by omega
 have KO:=Lib.hid (ownL_any d A n c w1 H1.out.1 (by omega) (fun e he=>by
  have h1:=H0.out.2.1 e he
  have h2:=(H1.out.1.2.1 e he).1.1.len8
  have h3:=(H1.out.1.2.1 e he).2.1.len8
  omega))
 go_wp2_with fail
 refine KO.out.mono ?_
 rintro e w2 ⟨B2,c2,d2,rfl,ho2,hd2,hb2,-⟩
 have KP:=Lib.hid (planRN_any d2 B2 n c2 w2 ho2.at_ (by omega) ho2.addr (by rw[hd2];exact H0.out.2.2.1))
 rw[hd2]at KP
 have H2:=Lib.hid (And.intro (H1.out.1.on hb2) (below_on H1.out.2 (Nat.le_refl _) hb2))
 have HN:Hid (n≤400):=h400
 clear ho2 hd2 hb2 H1 KO h400 hg
 go_wp2_with fail
 refine KP.out.mono ?_
 rintro e w3 ⟨hb3,hpost⟩
 have hB3:=below_on H2.out.2 (Nat.le_refl _) hb3
 have hI3:=H2.out.1.on hb3
 rcases hpost with ⟨p,A',n',c',A'',n'',c'',hs,hpb,hpm,rfl,hpo⟩|⟨-,rfl⟩
 case inr=>
  obtain⟨Z,hZ⟩:∃V,V=w3.alloc (.cells #[.slice none 0 0,.slice none 0 0] 30):=⟨_,rfl⟩
  have hbz:Below w3.heap.size w3 Z:=by rw[hZ];exact(Below.refl _ _).alloc (Nat.le_refl _) _
  obtain⟨g,hgg⟩:∃g,g=w3.heap.size:=⟨_,rfl⟩
  have hK:PlK Z g none 0 0 none 0 0:=by rw[hZ,hgg];exact PlK.new w3 none 0 0 none 0 0
  have HZ:=Lib.hid (below_on hB3 (Nat.le_refl _) hbz)
  have KS:=Lib.hid (samePl_any ⟨[],[]⟩ ⟨[],[]⟩ none none none none 0 0 0 0 0 0 0 0 Z (planOwn_nil Z.heap.size Z).at_ (planOwn_nil Z.heap.size Z).at_)
  obtain⟨q1,q2,q3⟩:=hK.facts
  clear hB3 hI3 hb3 H2 KP hbz hK
  go_upto_region 4 with fail
  rw[←hZ,←hgg]
  clear hZ hgg
  go_wp2_with fail
  refine KS.out.mono ?_
  rintro e w4 ⟨rfl,hb4⟩
  have H4:=Lib.hid (below_on HZ.out (Nat.le_refl _) hb4)
  clear hb4 KS HZ
  go_wp2_with fail
  go_ret
  exact⟨by rw[plEq_self];rfl,H4.out⟩
 obtain⟨Z,hZ⟩:∃V,V=w3.alloc (.cells #[.slice A' n' c',.slice A'' n'' c''] 30):=⟨_,rfl⟩
 have hbz:Below w3.heap.size w3 Z:=by rw[hZ];exact(Below.refl _ _).alloc (Nat.le_refl _) _
 obtain⟨g,hgg⟩:∃g,g=w3.heap.size:=⟨_,rfl⟩
 have hK:PlK Z g A' n' c' A'' n'' c'':=by rw[hZ,hgg];exact PlK.new w3 A' n' c' A'' n'' c''
 have HZ:=Lib.hid (And.intro (below_on hB3 (Nat.le_refl _) hbz) (And.intro (hI3.on hbz) (And.intro (hpo.at_.on hbz) hK)))
 have HP:=Lib.hid (And.intro hpb hpm)
 obtain⟨q1,q2,q3⟩:=hK.facts
 clear hB3 hI3 hb3 H2 KP hbz hK hpo hpb hpm
 go_upto_region 4 with fail
 rw[←hZ,←hgg]
 clear hZ hgg
 go_wp2_with fail
 refine(checkPR_any p A' A'' n' c' n'' c'' Z HZ.out.2.2.1).mono ?_
 rintro e w4 ⟨rfl,hb4⟩
 have H4:=Lib.hid (And.intro (below_on HZ.out.1 (Nat.le_refl _) hb4) (And.intro (HZ.out.2.1.on hb4) (And.intro (HZ.out.2.2.1.on hb4) (HZ.out.2.2.2.on hb4))))
 obtain⟨q1,q2,q3⟩:=H4.out.2.2.2.facts
 rw[HP.out.1]
 clear hb4 HZ
 go_wp2_with fail
 refine(itemsL_any p A' A'' n' c' n'' c'' w4 H4.out.2.2.1 (planB_sound HP.out.1)).mono ?_
 rintro e w7 ⟨C,cC,d2,rfl,ho7,hd7,hb7⟩
 have hlen:d2.length=n:=by
  have h1:=congrArg List.length hd7
  have h2:=HP.out.2.length_eq
  rw[List.length_map]at h1 h2
  rw[h1,←h2]
  exact H0.out.2.2.2
 rw[hlen]at ho7 ⊢
 have hpm2:(d.map (·.1)).Perm (d2.map (·.1)):=by rw[hd7];exact HP.out.2
 have hnd:((d.map (·.1)).map (·.k)).Nodup:=((HP.out.2.map (·.k)).nodup_iff).2 (planIts_nodup (recOK_sound (planB_sound HP.out.1)))
 have H7:=Lib.hid (And.intro (below_on H4.out.1 (Nat.le_refl _) hb7) (And.intro (H4.out.2.1.on hb7) (And.intro ho7.at_ (And.intro H0.out.2.2.2 (And.intro hlen (And.intro hnd hpm2))))))
 clear hb7 H4 ho7 hlen hpm2 hnd hd7 q1 q2 q3
 go_wp2_with fail
 go_loopw [6] (fun i wr=>∃k:Nat,k≤n∧i= .int .i64 (k:Int)∧Hid (Below w.heap.size w wr∧ItsAt wr wr.heap.size A n c d∧ItsAt wr wr.heap.size C n cC d2)) (fun i _=>n-(intOf i).toNat)
 case atStart=>exact⟨0,Nat.zero_le _,rfl,H7.out.1,H7.out.2.1,H7.out.2.2.1⟩
 case round=>
  obtain⟨i,hi,rfl,HW⟩:=hrel
  by_cases hlt:i<n
  ·have hlt':(i:Int)<(n:Int):=by omega
   have hw1:IntKind.i64.wrap ((i:Int)+1)=(i:Int)+1:=by have:=HN.out;rw[IntKind.wrap_i64];omega
   have hid2:i<d2.length:=by rw[H7.out.2.2.2.2.1];exact hlt
   obtain⟨k,hkl,hf1,hf2⟩:=find_itemN (L:=d.map (·.1)) H7.out.2.2.2.2.2.1 H7.out.2.2.2.2.2.2 (i:=i) (by rw[List.length_map];exact hid2)
   have hkd:k<d.length:=by rw[List.length_map]at hkl;exact hkl
   have hkN:k<n:=by rw[←H7.out.2.2.2.1];exact hkd
   rw[itAt_lt (l:=d2.map (·.1)) (k:=i) (by rw[List.length_map];exact hid2),List.getElem_map]at hf1
   rw[itAt_lt (l:=d2.map (·.1)) (k:=i) (by rw[List.length_map];exact hid2),List.getElem_map,itAt_lt hkl,List.getElem_map]at hf2
   obtain⟨cd,rfl,-,-⟩:=HW.out.2.2.1.2 (by omega)
   obtain⟨bd,rfl,-,-⟩:=HW.out.2.1.1.2 (by omega)
   obtain⟨hcb,p1,p2⟩:=HW.out.2.2.cells hlt hid2
   obtain⟨hbb,r1,r2⟩:=HW.out.2.1.cells hkN hkd
   have hrk:=HW.out.2.2.2.1 _ (List.getElem_mem hid2)
   have hrl:=HW.out.2.1.2.1 _ (List.getElem_mem hkd)
   obtain⟨y,hy⟩:∃y,d2[i]=y:=⟨_,rfl⟩
   obtain⟨x,hx⟩:∃x,d[k]=x:=⟨_,rfl⟩
   rw[hy]at hf1 hf2 p1 p2 hrk
   rw[hx]at hf2 r1 r2 hrl
   have KF:=Lib.hid (find_any d y.1.k (some bd) y.2.1.1 n c y.2.1.2.1 y.2.1.2.2 wr HW.out.2.1 hrk.1.1 (by have:=HN.out;omega))
   have HF1:=Lib.hid (And.intro hf1 (And.intro hf2 (And.intro hrk hrl)))
   have HC:=Lib.hid (And.intro hcb (And.intro p2 (And.intro hbb r2)))
   clear hf1 hf2 hrk hrl hcb hbb r1 r2 p2 hy hx hkl hkd hid2 hi
   obtain⟨⟨yk,yv⟩,⟨yA,yn,yc⟩,⟨vA,vn,vc⟩⟩:=y
   obtain⟨⟨xk,xv⟩,⟨xA,xn,xc⟩,⟨uA,un,uc⟩⟩:=x
   go_wp2_with fail
   refine KF.out.mono ?_
   rintro e w9 ⟨rfl,hb9⟩
   rw[HF1.out.1]
   have hvv:xv=yv:=congrArg It.v HF1.out.2.1
   subst hvv
   have hz0:(0:Int)≤(k:Int):=by omega
   have hP0:(w9.drew.cell? ⟨(bd.add (k*2)).block,(bd.add (k*2)).off+1,none⟩=some (.slice uA un uc))∧(w9.drew.cell? ⟨(cd.add (i*2)).block,(cd.add (i*2)).off+1,none⟩=some (.slice vA vn vc))∧(convert 50 9 (.slice uA un uc)).run Tryz.prog w9.drew= .ok (.string ⟨xv.toArray⟩) w9.drew∧(convert 50 9 (.slice vA vn vc)).run Tryz.prog w9.drew= .ok (.string ⟨xv.toArray⟩) w9.drew:=
    ⟨(hb9.cell (p:=⟨(bd.add (k*2)).block,(bd.add (k*2)).off+1,none⟩) (show (bd.add (k*2)).block<_ by rw[block_of_add];exact HC.out.2.2.1)).trans HC.out.2.2.2,(hb9.cell (p:=⟨(cd.add (i*2)).block,(cd.add (i*2)).off+1,none⟩) (show (cd.add (i*2)).block<_ by rw[block_of_add];exact HC.out.1)).trans HC.out.2.1,run_str (c:=uc) (HF1.out.2.2.2.2.on hb9).1.drew,run_str (c:=vc) (HF1.out.2.2.1.2.on hb9).1.drew⟩
   have H9:=Lib.hid (And.intro (below_on HW.out.1 (Nat.le_refl _) hb9) (And.intro (HW.out.2.1.on hb9) (HW.out.2.2.on hb9)))
   clear hb9 HW KF HF1 HC
   go_upto_region 13 with fail
   refine wp_region_held_drew (S:=fun V=>(V.cell? ⟨(bd.add (k*2)).block,(bd.add (k*2)).off+1,none⟩=some (.slice uA un uc))∧(V.cell? ⟨(cd.add (i*2)).block,(cd.add (i*2)).off+1,none⟩=some (.slice vA vn vc))∧(convert 50 9 (.slice uA un uc)).run Tryz.prog V= .ok (.string ⟨xv.toArray⟩) V∧(convert 50 9 (.slice vA vn vc)).run Tryz.prog V= .ok (.string ⟨xv.toArray⟩) V) (by kernel_rfl) ?_ (fun hHeld=>?_)
   ·exact hP0
   refine tk 0 ?_
   refine tk 1 ?_
   refine tk 2 ?_
   refine tk 3 ?_
   refine tk 4 ?_
   refine tk 5 ?_
   refine tk 6 ?_
   refine tk 7 ?_
   refine tk 8 ?_
   refine tk 9 ?_
   refine tk 10 ?_
   refine tk 11 ?_
   refine tk 12 ?_
   refine tk 13 ?_
   refine tk 14 ?_
   refine tk 15 ?_
   refine tk 16 ?_
   refine wpAnyH_done (by kernel_rfl) ?_ _
   clear hHeld hP0
   go_wp2_with fail
   go_roundw
   case rel=>exact⟨i+1,by omega,by go_num,H9.out.1.drew,H9.out.2.1.on (Below.refl _ _).drew,H9.out.2.2.on (Below.refl _ _).drew⟩
   case measure=>simp[intOf];omega
  ·have HB:=Lib.hid HW.out.1
   clear HW
   go_wp2_with fail
   go_ret
   exact⟨rfl,HB.out⟩
end Go.Proofs.YtpkeacnacjnlcaaGreat
