/- record.Plan of no items, and of any. -/
import Derived.Test.YtpkeacnacjnlcaaGreatK22
import Derived.Test.YtpkeacnacjnlcaaGreatK44
import Derived.Test.YtpkeacnacjnlcaaGreatK48
namespace Go.Proofs.YtpkeacnacjnlcaaGreat
open Go.RowKit Go.Lib Go.Shelf
set_option maxHeartbeats 1600000 in
theorem sortedFuncI0_any (A:Option Addr) (cap Bs:Nat) (w:World) (hs:Bs<w.heap.size) (hc:w.cell? ⟨Bs,0,none⟩=some (.slice A 0 cap)):
 Calls Tryz.prog 58 #[.func (.func 102) #[] #[.pointer (some ⟨Bs,0,none⟩)],.func (.func 44) #[] #[]] w fun e w'=>∃g c,e= .returned (.slice g 0 c)∧Below w.heap.size w w':=by
 have HK:=Lib.hid (collectI_any [] A 0 cap w.heap.size Bs w (by decide) (Nat.le_refl _) hs hc ⟨rfl,fun h=>absurd h (by omega)⟩)
 clear hc
 go_enter Tryz.func58,Tryz.ntmps58
 go_wp2_with fail
 refine HK.out.mono ?_
 rintro e w1 ⟨v,rfl,ho,hb⟩
 obtain⟨g,c,rfl⟩:∃g c,v= .slice g 0 c:=by
  rcases ho.2 with ⟨h0,_⟩|⟨g,c,_,rfl,_⟩
  ·exact⟨none,0,h0⟩
  ·exact⟨_,c,rfl⟩
 have HS:=AnyF.slices_SortFunc_none (P:=Tryz.prog) sortIt g c (.func (.func 44) #[] #[]) w1
 change Calls Tryz.prog 43 _ _ _ at HS
 have HS:=Lib.hid HS
 have HB:=Lib.hid hb
 clear ho HK hb
 go_wp2_with fail
 refine HS.out.mono ?_
 rintro e w2 ⟨rfl,rfl⟩
 go_wp2_with fail
 go_ret
 exact⟨g,c,rfl,HB.out⟩
theorem planIts_pos {p:Plan} (h:SoundP p):planIts p≠[]:=by
 have ok:=recOK_sound h
 have h1:=(sound_ring h (.inl rfl)).2.2.1
 have h6:1≤chkN p.outer.length:=by unfold chkN;omega
 intro e
 have:=congrArg List.length e
 unfold planIts ringIts at this
 rw[List.length_append,List.length_map,List.length_range]at this
 simp at this
 omega
set_option maxRecDepth 100000 in
set_option maxHeartbeats 6400000 in
theorem planR0_any (A:Option Addr) (cap:Nat) (w:World):
 Calls Tryz.prog 26 #[.slice A 0 cap] w (PlanPostR [] w):=by
 obtain⟨w0,hw0⟩:∃W,W=w.alloc (.cells #[.slice none 0 0,.slice none 0 0] 30):=⟨_,rfl⟩
 have hb0:Below w.heap.size w w0:=by rw[hw0];exact(Below.refl _ _).alloc (Nat.le_refl _) _
 have hk0:PlK w0 w.heap.size none 0 0 none 0 0:=by rw[hw0];exact PlK.new w none 0 0 none 0 0
 have KV:=Lib.hid (valuesI_any A 0 cap w0)
 have H0:=Lib.hid (And.intro hb0 hk0)
 clear hb0 hk0
 go_enter Tryz.func26,Tryz.ntmps26
 go_upto_region 1 with fail
 rw[←hw0]
 clear hw0
 go_wp2_with fail
 refine KV.out.mono ?_
 rintro e w1 ⟨rfl,hw1⟩
 have hb1:Below w0.heap.size w0 w1:=by rw[hw1];exact(Below.refl _ _).alloc (Nat.le_refl _) _
 have hs1:w1.heap.size=w0.heap.size+1:=by rw[hw1,World.size_alloc]
 have hc1:w1.cell? ⟨w0.heap.size,0,none⟩=some (.slice A 0 cap):=by
  have hB:Blk w1 w0.heap.size 43 #[.slice A 0 cap]:=by rw[hw1];exact Blk.new w0 _ _
  have:=Blk.cell (i:=0) hB
  simpa using this
 have hbw:=below_on H0.out.1 (Nat.le_refl _) hb1
 have KS:=Lib.hid (sortedFuncI0_any A cap w0.heap.size w1 (by omega) hc1)
 have HB:=Lib.hid (And.intro hbw (Blk.below H0.out.2 hb1 (Blk.lt H0.out.2)))
 clear hb1 hs1 hc1 hbw hw1 KV
 go_wp2_with fail
 refine KS.out.mono ?_
 rintro e X ⟨g,c1,rfl,hbX⟩
 have HX:Hid (Below w.heap.size w X∧PlK X w.heap.size none 0 0 none 0 0):=⟨below_on HB.out.1 (Nat.le_refl _) hbX,Blk.below HB.out.2 hbX (Blk.lt HB.out.2)⟩
 clear hbX HB KS H0
 obtain⟨W0,hW0⟩:∃W,W=X.alloc (.cells #[.slice none 0 0,.slice none 0 0] 30):=⟨_,rfl⟩
 have hba:Below X.heap.size X W0:=by rw[hW0];exact(Below.refl _ _).alloc (Nat.le_refl _) _
 have hk1:PlK W0 X.heap.size none 0 0 none 0 0:=by rw[hW0];exact PlK.new X none 0 0 none 0 0
 have KI:=Lib.hid (items_any ⟨[],[]⟩ none none 0 0 0 0 W0 (planOwn_nil W0.heap.size W0).at_)
 obtain⟨q1,q2,f1,f2⟩:=plk_facts4 hk1
 have H1:=Lib.hid (And.intro (below_on HX.out.1 (Nat.le_refl _) hba) (HX.out.2.on hba))
 clear hba hk1 HX
 go_upto_region 3 with fail
 rw[←hW0]
 clear hW0
 have hpb:planB ⟨[],[]⟩=false:=planB_no fun h=>by
  have:=(sound_ring h (.inl rfl)).2.2.1
  simp at this
 have HPB:=Lib.hid hpb
 clear hpb
 go_wp2_with fail
 go_loopw [20] (fun i wr=>i= .int .i64 0∧wr=W0) (fun _ _=>0)
 case atStart=>exact⟨rfl,rfl⟩
 case round=>
  obtain⟨rfl,rfl⟩:=hrel
  go_wp2_with fail
  refine KI.out.mono ?_
  rintro e w2 ⟨-,hF,hb2⟩
  obtain rfl:=hF HPB.out
  have hbw:=below_on H1.out.1 (Nat.le_refl _) hb2
  have hres:PlK w2 w.heap.size none 0 0 none 0 0:=H1.out.2.on hb2
  obtain⟨Y,hY,y1,y2,hbY⟩:=res_store (g:=w.heap.size) hbw (Nat.le_refl _) hres (.slice none 0 0) (.slice none 0 0)
  obtain⟨r1,r2,r3,r4⟩:=plk_facts4 hres
  have HY:=Lib.hid hY
  have HR3:=Lib.hid (And.intro y1 (And.intro y2 hbY))
  clear hY y1 y2 hbY hF hb2 hbw hres KI q1 q2 f1 f2 H1
  go_wp2_with fail
  rw[←HY.out]
  obtain⟨y1,y2,hbY⟩:=HR3.out
  refine bodyPost_ret (v:= .tuple #[planV none 0 0 none 0 0,.int .i64 2]) ?_ rfl ⟨hbY,.inr ⟨fun p hp hq=>planIts_pos (planB_sound hp) (List.nil_perm.1 hq),rfl⟩⟩
  simp[results,Tryz.results26,go_sem,y1,y2]
/-- Of any items. -/
theorem planRN_any (d:List ItH) (A:Option Addr) (n cap:Nat) (w:World) (h:ItsAt w w.heap.size A n cap d) (hn:n≤65536)
 (hka:∀e∈d,(∀a,e.2.1.1=some a→a.block<w.heap.size)∧∀a,e.2.2.1=some a→a.block<w.heap.size) (hT:szL (d.map (·.1))≤1048576):
 Calls Tryz.prog 26 #[.slice A n cap] w (PlanPostR (d.map (·.1)) w):=by
 rcases Nat.eq_zero_or_pos n with h0|h0
 ·subst h0
  obtain rfl:d=[]:=List.eq_nil_of_length_eq_zero h.len
  exact planR0_any A cap w
 ·exact planR_any d A n cap w h h0 hn hka hT
end Go.Proofs.YtpkeacnacjnlcaaGreat
