/- slices.SortFunc's contract at points, laid off the shelf (made by lay-plain.mjs and lay_tpl.py); A region that draws its order, inside a round of a range over a function: the elder walk with a held condition serves there too. -/
import Derived.Laws.StructEq
import Derived.Lib.SliceRun
import Derived.Shelf.SlLaysF0
import Derived.Shelf.SlSortCmp.InsertionK
import Derived.Shelf.SlSortCmp.WholeK
import Derived.Shelf.SlSortFuncK.SWK
import Derived.Shelf.SlicesE.Kit
import Derived.Shelf.Spec.SlicesGrow
import Derived.Sort.Grow
import Derived.Deep.RegionHeld3
import Derived.OrdersIn
import Derived.RangeFuncCalls
import Derived.Sort.CutIn
import Derived.TacticsIn
import Derived.Test.YtpkeacnacjnlcaaGreatK01
import Derived.Test.YtpkeacnacjnlcaaGreatK03
import Derived.Test.YtpkeacnacjnlcaaGreatK06
namespace Go.Proofs.YtpkeacnacjnlcaaGreat
open Go.Shelf
def sortPt_ren:Go.Shelf.Ren:=⟨fun|6=>211|15=>85|14=>217|28=>130|29=>131|20=>219|21=>220|22=>221|23=>222|24=>223|25=>224|26=>225|27=>226|46=>227|47=>168|48=>169|49=>228|50=>229|57=>230|n=>n,fun|22=>24|24=>23|25=>156|3=>3|39=>127|0=>0|53=>121|55=>35|4=>4|46=>166|45=>165|50=>170|5=>5|9=>9|66=>198|70=>202|76=>217|77=>218|n=>n,fun|n=>n⟩
theorem sortPt:Go.Proofs.SlLaysF0.n6 Tryz.prog sortPt_ren:={
 mixed:=by kernel_rfl
 f6:=⟨Tryz.f211.name,by decide,Tryz.func211.trans (congrArg some (by kernel_rfl))⟩
 f14:=⟨Tryz.f217.name,by decide,Tryz.func217.trans (congrArg some (by kernel_rfl))⟩
 f15:=Tryz.func85.trans (congrArg some (by kernel_rfl))
 f20:=⟨Tryz.f219.name,by decide,Tryz.func219.trans (congrArg some (by kernel_rfl))⟩
 f21:=⟨Tryz.f220.name,by decide,Tryz.func220.trans (congrArg some (by kernel_rfl))⟩
 f22:=⟨Tryz.f221.name,by decide,Tryz.func221.trans (congrArg some (by kernel_rfl))⟩
 f23:=⟨Tryz.f222.name,by decide,Tryz.func222.trans (congrArg some (by kernel_rfl))⟩
 f24:=⟨Tryz.f223.name,by decide,Tryz.func223.trans (congrArg some (by kernel_rfl))⟩
 f25:=⟨Tryz.f224.name,by decide,Tryz.func224.trans (congrArg some (by kernel_rfl))⟩
 f26:=⟨Tryz.f225.name,by decide,Tryz.func225.trans (congrArg some (by kernel_rfl))⟩
 f27:=⟨Tryz.f226.name,by decide,Tryz.func226.trans (congrArg some (by kernel_rfl))⟩
 f28:=Tryz.func130.trans (congrArg some (by kernel_rfl))
 f29:=Tryz.func131.trans (congrArg some (by kernel_rfl))
 f46:=⟨Tryz.f227.name,by decide,Tryz.func227.trans (congrArg some (by kernel_rfl))⟩
 f47:=Tryz.func168.trans (congrArg some (by kernel_rfl))
 f48:=Tryz.func169.trans (congrArg some (by kernel_rfl))
 f49:=⟨Tryz.f228.name,by decide,Tryz.func228.trans (congrArg some (by kernel_rfl))⟩
 f50:=⟨Tryz.f229.name,by decide,Tryz.func229.trans (congrArg some (by kernel_rfl))⟩
 f57:=⟨Tryz.f230.name,by decide,Tryz.func230.trans (congrArg some (by kernel_rfl))⟩
 t0:=Tryz.underlying0
 a0:=Tryz.isAgg0
 z0:=Tryz.sizeOf0
 v0:=Tryz.zeroValue0
 t3:=Tryz.underlying3
 a3:=Tryz.isAgg3
 z3:=Tryz.sizeOf3
 v3:=Tryz.zeroValue3
 t4:=Tryz.underlying4
 a4:=Tryz.isAgg4
 z4:=Tryz.sizeOf4
 v4:=Tryz.zeroValue4
 t5:=Tryz.underlying5
 a5:=Tryz.isAgg5
 z5:=Tryz.sizeOf5
 v5:=Tryz.zeroValue5
 t9:=Tryz.underlying9
 a9:=Tryz.isAgg9
 z9:=Tryz.sizeOf9
 v9:=Tryz.zeroValue9
 t22:=Tryz.underlying24
 a22:=Tryz.isAgg24
 z22:=Tryz.sizeOf24
 v22:=Tryz.zeroValue24
 t25:=Tryz.underlying156
 a25:=Tryz.isAgg156
 z25:=Tryz.sizeOf156
 v25:=Tryz.zeroValue156
 t39:=Tryz.underlying127
 a39:=Tryz.isAgg127
 z39:=Tryz.sizeOf127
 v39:=Tryz.zeroValue127
 t45:=Tryz.underlying165
 a45:=Tryz.isAgg165
 z45:=Tryz.sizeOf165
 v45:=Tryz.zeroValue165
 t46:=Tryz.underlying166
 a46:=Tryz.isAgg166
 z46:=Tryz.sizeOf166
 v46:=Tryz.zeroValue166
 t50:=Tryz.underlying170
 a50:=Tryz.isAgg170
 z50:=Tryz.sizeOf170
 v50:=Tryz.zeroValue170
 t53:=Tryz.underlying121
 a53:=Tryz.isAgg121
 z53:=Tryz.sizeOf121
 v53:=Tryz.zeroValue121
 t55:=Tryz.underlying35
 a55:=Tryz.isAgg35
 z55:=Tryz.sizeOf35
 v55:=Tryz.zeroValue35
 t66:=Tryz.underlying198
 a66:=Tryz.isAgg198
 z66:=Tryz.sizeOf198
 v66:=Tryz.zeroValue198
 t70:=Tryz.underlying202
 a70:=Tryz.isAgg202
 z70:=Tryz.sizeOf202
 v70:=Tryz.zeroValue202
 t76:=Tryz.underlying217
 a76:=Tryz.isAgg217
 z76:=Tryz.sizeOf217
 v76:=Tryz.zeroValue217
 t77:=Tryz.underlying218
 a77:=Tryz.isAgg218
 z77:=Tryz.sizeOf218
 v77:=Tryz.zeroValue218 }
end Go.Proofs.YtpkeacnacjnlcaaGreat
namespace Go.Proofs.YtpkeacnacjnlcaaGreat
open Go.RowKit Go.Sort
def Grows (w w':World):Prop:=∃q os,w'=grow (w.drewN q) os
theorem Grows.refl (w:World):Grows w w:=⟨0,#[],by rw[grow_empty];rfl⟩
theorem Grows.alloc {w w':World} (h:Grows w w') (o:Obj):Grows w (w'.alloc o):=by
 obtain⟨q,os,rfl⟩:=h
 exact⟨q,os++#[o],by rw[alloc_eq_grow,grow_grow]⟩
theorem Grows.drew {w w':World} (h:Grows w w'):Grows w w'.drew:=by
 obtain⟨q,os,rfl⟩:=h
 exact⟨q+1,os,rfl⟩
set_option maxRecDepth 100000 in
set_option maxHeartbeats 400000 in
theorem order_grows (a b:Pt) (w:World):
 Calls Tryz.prog 113 #[ptV a,ptV b] w fun e w'=>e= .returned (.int .i64 (ordI a b))∧Grows w w':=by
 have hA:=(HasPt.new w a 23).alloc (.cells #[.int .i64 b.x,.int .i64 b.y] 23)
 have hC:=HasPt.new (w.alloc (.cells #[.int .i64 a.x,.int .i64 a.y] 23)) b 23
 rw[World.size_alloc]at hC
 have hB:Grows w ((w.alloc (.cells #[.int .i64 a.x,.int .i64 a.y] 23)).alloc (.cells #[.int .i64 b.x,.int .i64 b.y] 23)):=((Grows.refl _).alloc _).alloc _
 unfold ptV ordI
 go_enter Tryz.func113,Tryz.ntmps113
 go_wp2
 obtain⟨W0,hW0⟩:∃W0,W0=(w.alloc (.cells #[.int .i64 a.x,.int .i64 a.y] 23)).alloc (.cells #[.int .i64 b.x,.int .i64 b.y] 23):=⟨_,rfl⟩
 rw[←hW0]at hA hC hB ⊢
 clear hW0
 refine wp_region_still_tail 10 (by kernel_rfl) (by kernel_rfl) ?_
 change wpStill _ _ W0.drew _ _ _
 obtain⟨hax,hay,haz⟩:=hA
 obtain⟨hbx,hby,hbz⟩:=hC
 simp only[List.take_succ_cons,List.take_zero,List.drop_succ_cons,List.drop_zero]
 repeat (first|still_step|still_call (compare_still _ _ _))
 try refine wpStill_nil ?_
 change wpList _ _ _ _ _ W0.drew
 have hB:=hB.drew
 generalize W0.drew=W1 at *
 clear hax hay haz hbx hby hbz
 go_wp2_with fail
 refine(or_any (cmpI a.x b.x) (cmpI a.y b.y) W1.heap.size 0 _ _ (by simp) (by simp)).mono ?_
 rintro e w' ⟨rfl,rfl⟩
 go_wp2
 go_ret
 exact⟨rfl,hB.alloc _⟩
end Go.Proofs.YtpkeacnacjnlcaaGreat
namespace Go.Proofs.YtpkeacnacjnlcaaGreat
open Go.RowKit Go.Sort Go.Shelf
instance:Inhabited Pt:=⟨⟨0,0⟩⟩
def encPt (p:Pt):List Value:=[.int .i64 p.x,.int .i64 p.y]
theorem ptsV_at {l:List Pt} {j:Nat} {u:Value} (h:(ptsV l)[j]?=some u):∃hk:j/2<l.length,u=(encPt l[j/2])[j%2]!:=by
 have hj:j<l.length*2:=by rw[←ptsV_length];exact(List.getElem?_eq_some_iff.1 h).1
 have hk:j/2<l.length:=by omega
 refine⟨hk,?_⟩
 have hg:=ptsV_get l (j/2) hk
 have hm:j%2=0∨j%2=1:=by omega
 rcases hm with hm|hm
 ·rw[show j/2*2=j by omega,h]at hg
  rw[hm]
  exact Option.some.inj hg.1
 ·rw[show j/2*2+1=j by omega,h]at hg
  rw[hm]
  exact Option.some.inj hg.2
theorem holdsK_own {w:World} {base:Nat} {e:TypeId} {g n cap:Nat} {d:List Pt} (h:w.ownsRow base e 2 (.slice (some ⟨g,0,none⟩) n cap) n (ptsV d)):HoldsK encPt 2 w g 0 d.toArray:=fun j hj=>by
 rw[size_flatK]at hj
 have hl:d.length*2=n*2:=by rw[←ptsV_length];exact h.1
 have hj':j<n*2:=by simp at hj;omega
 refine⟨?_,?_⟩
 ·rw[Nat.zero_add,h.cellAt j hj',get_flatK _ _ _ _ hj]
  have hl2:j<(ptsV d).length:=by rw[h.1];exact hj'
  obtain⟨hk,hu⟩:=ptsV_at (List.getElem?_eq_getElem hl2)
  rw[List.getElem?_eq_getElem hl2,hu]
  simp[hk]
 ·rw[Nat.zero_add]
  exact h.frozenAt j
theorem reads_holdsK {w:World} {g:Nat} {d:List Pt} (hg:g<w.heap.size) (h:HoldsK encPt 2 w g 0 d.toArray):Reads w w.heap.size 2 (some ⟨g,0,none⟩) d.length (ptsV d):=by
 refine⟨ptsV_length d,fun _=>⟨_,rfl,hg,fun j u hu=>?_⟩⟩
 obtain⟨hk,rfl⟩:=ptsV_at hu
 rw[add_row]
 have:=(h.cell (i:=j/2) (c:=j%2) (by simpa using hk) (by omega)).1
 rw[show 0+j/2*2+j%2=j by omega]at this
 rw[this]
 simp[hk]
theorem grownBy_sortK {w:World} {g n:Nat} {os:Array Obj} (d:Array Pt):w.grownBy (sortWorldK encPt 2 w g 0 n d os) (some g):=by
 refine⟨rfl,rfl,rfl,by simp[sortWorldK,putRowK,grow,Sort.ahead],fun k hk hne=>?_⟩
 unfold sortWorldK
 rw[heap_grow_old _ _ (by simpa[putRowK,Sort.ahead]using hk)]
 have:g≠k:=fun e=>hne (by rw[e])
 simp[putRowK,putRow,mapBlock,Sort.ahead,Array.getElem?_modify,this]
theorem order_swo:SWO (ltOf ordI) where
 irrefl x:=by
  unfold ltOf ordI orI
  rcases cmpI_cases x.x x.x with ⟨h,e⟩|⟨h,e⟩|⟨h,e⟩<;>rcases cmpI_cases x.y x.y with ⟨h',e'⟩|⟨h',e'⟩|⟨h',e'⟩<;>rw[e,e']<;>(first|omega|rfl)
 trans x y z h1 h2:=by
  unfold ltOf ordI orI at *
  rw[decide_eq_true_iff]at *
  rcases cmpI_cases x.x y.x with ⟨a,e⟩|⟨a,e⟩|⟨a,e⟩<;>rcases cmpI_cases x.y y.y with ⟨b,f⟩|⟨b,f⟩|⟨b,f⟩<;>
  rcases cmpI_cases y.x z.x with ⟨c,g⟩|⟨c,g⟩|⟨c,g⟩<;>rcases cmpI_cases y.y z.y with ⟨d,i⟩|⟨d,i⟩|⟨d,i⟩<;>
  rcases cmpI_cases x.x z.x with ⟨j,k⟩|⟨j,k⟩|⟨j,k⟩<;>rcases cmpI_cases x.y z.y with ⟨m,o⟩|⟨m,o⟩|⟨m,o⟩<;>
  rw[e,f]at h1<;>rw[g,i]at h2<;>rw[k,o]<;>(first|omega|(simp at h1;done)|(simp at h2;done)|simp)
 ntrans x y z h1 h2:=by
  unfold ltOf ordI orI at *
  rw[decide_eq_false_iff_not]at *
  rcases cmpI_cases x.x y.x with ⟨a,e⟩|⟨a,e⟩|⟨a,e⟩<;>rcases cmpI_cases x.y y.y with ⟨b,f⟩|⟨b,f⟩|⟨b,f⟩<;>
  rcases cmpI_cases y.x z.x with ⟨c,g⟩|⟨c,g⟩|⟨c,g⟩<;>rcases cmpI_cases y.y z.y with ⟨d,i⟩|⟨d,i⟩|⟨d,i⟩<;>
  rcases cmpI_cases x.x z.x with ⟨j,k⟩|⟨j,k⟩|⟨j,k⟩<;>rcases cmpI_cases x.y z.y with ⟨m,o⟩|⟨m,o⟩|⟨m,o⟩<;>
  rw[e,f]at h1<;>rw[g,i]at h2<;>rw[k,o]<;>(first|omega|(simp at h1;done)|(simp at h2;done)|simp)
theorem cmp_lays (g size:Nat) (w:World):CmpLays Tryz.prog 113 #[] encPt 2 ordI g 0 size w:=fun _ _ _ _ x y=>order_grows x y _
end Go.Proofs.YtpkeacnacjnlcaaGreat
namespace Go.Proofs.YtpkeacnacjnlcaaGreat
open Go.RowKit Go.Shelf Go.Sort
theorem perm_list {d:List Pt} {d':Array Pt} (h:PermIn 0 d.toArray.size d.toArray d'):d'.toList.Perm d∧d'.size=d.length:=by
 obtain⟨h1,-,h2⟩:=h
 refine⟨?_,by simpa using h1⟩
 rw[←h1,Array.extract_size,h1,Array.extract_size]at h2
 simpa using h2
theorem sortFunc_any (d:List Pt) (g n cap base:Nat) (w:World) (hown:w.ownsRow base 23 2 (.slice (some ⟨g,0,none⟩) n cap) n (ptsV d)) (hn:n≤128):
 Calls Tryz.prog 211 #[.slice (some ⟨g,0,none⟩) n cap,.func (.func 113) #[] #[]] w fun e w'=>e= .returned (.tuple #[])∧∃d':List Pt,d'.Perm d∧Reads w' w'.heap.size 2 (some ⟨g,0,none⟩) n (ptsV d')∧w.grownBy w' (some g):=by
 have hl:d.length=n:=by have h:=hown.1;rw[ptsV_length]at h;omega
 have hg:g<w.heap.size:=(hown.lt g rfl).2
 have hH:=holdsK_own hown
 have eg:∀args w,(callFunc 113 args).run Tryz.prog w= .ok (.enter 113 args) w:=enters_of Tryz.func113 (by kernel_rfl) rfl
 have hcon:=AnyQ.slices_SortFunc sortPt 2 Tryz.isAgg23 Tryz.sizeOf23 encPt (fun _=>rfl) (fun x v hv=>by simp[encPt]at hv;rcases hv with rfl|rfl<;>rfl) ordI order_swo 113 #[] g 0 cap d.toArray w eg (cmp_lays g d.toArray.size w) hH hg (by simp;omega)
 change Calls Tryz.prog 211 _ _ _ at hcon
 rw[List.size_toArray,hl]at hcon
 refine hcon.mono ?_
 rintro e w' ⟨he,d',m,os,hp,-,rfl⟩
 rw[←hl,←List.size_toArray]at hp
 obtain⟨h1,h2⟩:=perm_list hp
 have hSW:SWK encPt 2 w g 0 d' (sortWorldK encPt 2 w g 0 m d' os):=⟨m,os,rfl⟩
 have hH':=hSW.holds hg hH (by simpa using h2)
 have hR:=reads_holdsK (d:=d'.toList) (hSW.lt hg) (by simpa using hH')
 refine⟨he,d'.toList,h1,?_,grownBy_sortK d'⟩
 rw[show n=d'.toList.length by simp;omega]
 exact hR
theorem collect_any (xs:List Pt) (A:Option Addr) (n cap B Bs:Nat) (w:World) (hn:n≤128) (hB:B≤w.heap.size) (hs:Bs<w.heap.size) (hc:w.cell? ⟨Bs,0,none⟩=some (.slice A n cap)) (hr:Reads w B 2 A n (ptsV xs)):
 Calls Tryz.prog 210 #[.func (.func 212) #[] #[.pointer (some ⟨Bs,0,none⟩)]] w fun e w'=>∃v,e= .returned v∧w'.ownsRow w.heap.size 23 2 v n (ptsV xs)∧Below w.heap.size w w':=by
 have HK:=Lib.hid (appendSeq_any xs A n cap B Bs w hn hB hs hc hr)
 clear hc hr
 go_enter Tryz.func210,Tryz.ntmps210
 go_wp2_with fail
 refine HK.out.mono ?_
 rintro e w' ⟨v,rfl,ho,hb⟩
 have HO:=Lib.hid ho
 clear ho
 go_wp2_with fail
 go_ret
 exact⟨_,rfl,HO.out,hb⟩
theorem sortedFunc_any (xs:List Pt) (A:Option Addr) (n cap B Bs:Nat) (w:World) (h1:1≤n) (hn:n≤128) (hB:B≤w.heap.size) (hs:Bs<w.heap.size) (hc:w.cell? ⟨Bs,0,none⟩=some (.slice A n cap)) (hr:Reads w B 2 A n (ptsV xs)):
 Calls Tryz.prog 195 #[.func (.func 212) #[] #[.pointer (some ⟨Bs,0,none⟩)],.func (.func 113) #[] #[]] w fun e w'=>∃ad c,e= .returned (.slice (some ad) n c)∧∃d:List Pt,d.Perm xs∧Reads w' w'.heap.size 2 (some ad) n (ptsV d)∧Below w.heap.size w w':=by
 have HK:=Lib.hid (collect_any xs A n cap B Bs w hn hB hs hc hr)
 clear hc hr
 go_enter Tryz.func195,Tryz.ntmps195
 go_wp2_with fail
 refine HK.out.mono ?_
 rintro e w1 ⟨v,rfl,ho,hb⟩
 obtain⟨g,c,rfl⟩:∃g c,v= .slice (some ⟨g,0,none⟩) n c:=by
  rcases ho.2 with ⟨_,h0⟩|⟨g,c,_,rfl,_⟩
  ·omega
  ·exact⟨g,c,rfl⟩
 have hbase:=(ho.lt g rfl).1
 have HS:=Lib.hid (sortFunc_any xs g n c w.heap.size w1 ho hn)
 clear ho HK
 go_wp2_with fail
 refine HS.out.mono ?_
 rintro e w2 ⟨rfl,d,hp,hrd,hgr⟩
 have HD:=Lib.hid (And.intro hp (And.intro hrd (hb.grown hgr hb.size (fun k e=>by cases e;exact hbase))))
 clear hp hrd hgr HS hb
 go_wp2_with fail
 go_ret
 exact⟨_,_,rfl,d,HD.out⟩
end Go.Proofs.YtpkeacnacjnlcaaGreat
namespace Go.Proofs.YtpkeacnacjnlcaaGreat
open Go.RowKit
theorem nodup_of {xs d:List Pt} (hp:d.Perm xs) {k:Nat} (h1:1≤k) (hk:k<d.length) (h:ptAt d k=ptAt d (k-1)):¬xs.Nodup:=fun hn=>by
 have hd:=(hp.nodup_iff).2 hn
 rw[ptAt_lt hk,ptAt_lt (by omega)]at h
 have:=List.pairwise_iff_getElem.1 hd (k-1) k (by omega) hk (by omega)
 exact this h.symm
set_option maxRecDepth 100000 in
set_option maxHeartbeats 1600000 in
theorem twice_any (xs:List Pt) (A:Option Addr) (n cap:Nat) (w:World) (hr:Reads w w.heap.size 2 A n (ptsV xs)) (h1:1≤n) (hn:n≤128):
 Calls Tryz.prog 177 #[.slice A n cap] w fun e w'=>∃t,e= .returned (.bool t)∧(t=true→¬xs.Nodup)∧Below w.heap.size w w':=by
 have hb0:=(Below.refl w.heap.size w).alloc (Nat.le_refl _) (.cells #[.slice A n cap] 25)
 have HK:=Lib.hid (sortedFunc_any xs A n cap w.heap.size w.heap.size (w.alloc (.cells #[.slice A n cap] 25)) h1 hn hb0.size (by simp) (by simp) (hr.below hb0))
 have HB:=Lib.hid hb0
 clear hr hb0
 go_enter Tryz.func177,Tryz.ntmps177
 go_wp2_with (go_at_call 196;refine(values_any A n cap _).mono ?_;rintro e w1 ⟨rfl,rfl⟩)
 refine HK.out.mono ?_
 rintro e w1 ⟨ad,c,rfl,d,hp,hrd,hb1⟩
 have hbb:=below_on HB.out (Nat.le_refl _) hb1
 have HP:=Lib.hid (And.intro hp hrd)
 clear hp hrd hb1 HK HB
 go_wp2_with fail
 go_loopw [4] (fun i wr=>∃k:Nat,1≤k∧k≤n∧i= .int .i64 (k:Int)∧∃q,wr=w1.drewN q) (fun i _=>n-(intOf i).toNat)
 case atStart=>exact⟨1,Nat.le_refl _,h1,rfl,0,rfl⟩
 case round=>
  obtain⟨k,hk1,hk,rfl,q,rfl⟩:=hrel
  by_cases hlt:k<n
  ·have hl:d.length=n:=HP.out.2.lenPt
   obtain⟨hbd,p1,p2⟩:=HP.out.2.ptA hlt
   obtain⟨-,q1,q2⟩:=HP.out.2.ptA (k:=k-1) (by omega)
   have hw0:IntKind.i64.wrap ((k:Int)-1)=((k-1:Nat):Int):=by rw[IntKind.wrap_i64];omega
   have hw1:IntKind.i64.wrap ((k:Int)+1)=(k:Int)+1:=by rw[IntKind.wrap_i64];omega
   have hlt':(k:Int)<(n:Int):=by omega
   have hlt0:((k-1:Nat):Int)<(n:Int):=by omega
   have hnd:ptAt d k=ptAt d (k-1)→¬xs.Nodup:=nodup_of HP.out.1 hk1 (by omega)
   obtain⟨j,hj⟩:∃j,j=k-1:=⟨_,rfl⟩
   rw[←hj]at q1 q2 hw0 hlt0 hnd
   have hnd2:(ptAt d k).x=(ptAt d j).x→(ptAt d k).y=(ptAt d j).y→¬xs.Nodup:=fun e1 e2=>hnd (by
    rcases h1:ptAt d k with ⟨a,b⟩
    rcases h2:ptAt d j with ⟨a',b'⟩
    rw[h1,h2]at e1 e2
    simp only at e1 e2
    rw[e1,e2])
   clear hnd hj
   generalize (ptAt d k).x=px at *
   generalize (ptAt d k).y=py at *
   generalize (ptAt d j).x=qx at *
   generalize (ptAt d j).y=qy at *
   have HN:=Lib.hid hnd2
   have HJ:=Lib.hid hbb
   clear hnd2 hl hbd hbb
   replace p1:(w1.drewN q).cell? (ad.add (k*2))=some (.int .i64 px):=p1
   replace p2:(w1.drewN q).cell? ⟨(ad.add (k*2)).block,(ad.add (k*2)).off+1,none⟩=some (.int .i64 py):=p2
   replace q1:(w1.drewN q).cell? (ad.add (j*2))=some (.int .i64 qx):=q1
   replace q2:(w1.drewN q).cell? ⟨(ad.add (j*2)).block,(ad.add (j*2)).off+1,none⟩=some (.int .i64 qy):=q2
   generalize hV:w1.drewN q=V at *
   by_cases hxe:px=qx∧py=qy
   ·obtain⟨rfl,rfl⟩:=hxe
    go_wp2_with fail
    go_quiet (fail)
    go_wp2_with fail
    go_ret
    refine⟨true,rfl,fun _=>by have:=HN.out;simpa using this,below_drewN ?_ _⟩
    rw[←hV]
    exact below_drewN HJ.out _
   ·have hne:((px==qx)=true∧(py==qy)=false)∨(px==qx)=false:=by
     by_cases h1:px=qx
     ·by_cases h2:py=qy
      ·exact absurd ⟨h1,h2⟩ hxe
      ·exact .inl ⟨by simpa using h1,by simpa using h2⟩
     ·exact .inr (by simpa using h1)
    clear hxe
    rcases hne with ⟨e1,e2⟩|e1
    all_goals
     go_wp2_with fail
     go_quiet (fail)
     go_wp2_with fail
     go_roundw
     case rel=>exact⟨k+1,by omega,by omega,by go_num,_,by rw[←hV,World.drewN_drewN]⟩
     case measure=>simp[intOf];omega
  ·go_wp2_with fail
   go_ret
   exact⟨false,rfl,fun h=>(by cases h),below_drewN hbb _⟩
end Go.Proofs.YtpkeacnacjnlcaaGreat
namespace Go.Proofs.YtpkeacnacjnlcaaGreat
open Go.RowKit Go.Shelf Go.Lib
def growPt_ren:Go.Shelf.Ren:=⟨fun|4=>114|n=>n,fun|0=>0|3=>3|4=>4|9=>9|20=>20|22=>25|25=>23|n=>n,fun|n=>n⟩
theorem growPt:Go.Proofs.Lays8.n4 Tryz.prog growPt_ren:={
 mixed:=by kernel_rfl
 f4:=⟨Tryz.f114.name,by decide,Tryz.func114.trans (congrArg some (by kernel_rfl))⟩
 t0:=Tryz.underlying0
 a0:=Tryz.isAgg0
 z0:=Tryz.sizeOf0
 v0:=Tryz.zeroValue0
 t3:=Tryz.underlying3
 a3:=Tryz.isAgg3
 z3:=Tryz.sizeOf3
 v3:=Tryz.zeroValue3
 t4:=Tryz.underlying4
 a4:=Tryz.isAgg4
 z4:=Tryz.sizeOf4
 v4:=Tryz.zeroValue4
 t9:=Tryz.underlying9
 a9:=Tryz.isAgg9
 z9:=Tryz.sizeOf9
 v9:=Tryz.zeroValue9
 t20:=Tryz.underlying20
 a20:=Tryz.isAgg20
 z20:=Tryz.sizeOf20
 v20:=Tryz.zeroValue20
 t22:=Tryz.underlying25
 a22:=Tryz.isAgg25
 z22:=Tryz.sizeOf25
 v22:=Tryz.zeroValue25
}
theorem eqPt_at:EqlAt Tryz.prog 23 (fun p=> .agg (encPt p).toArray) (fun p q=>decide (p=q)):=by
 refine⟨fun x y w=>?_,GuardAt.agg _ (by kernel_rfl)⟩
 have u3:=Tryz.underlying3
 have a3:=Tryz.isAgg3
 have z3:=Tryz.sizeOf3
 have hS:Tryz.prog.underlying 23=some (.struct (Tryz.prog.fieldsOf 23)):=by kernel_rfl
 have hp:Tryz.prog.stoodInHeld 23=false:=by kernel_rfl
 obtain⟨x1,x2⟩:=x
 obtain⟨y1,y2⟩:=y
 simp only[encPt]
 rw[run_eql_struct,show(10000:Nat)=9999+1 from rfl,run_equalIn_agg w 9999 23 _ _ hS hp]
 simp only[Program.fieldsOf,Tryz.underlying23]
 go_simp
 by_cases h1:x1=y1<;>by_cases h2:x2=y2<;>simp[h1,h2]
theorem eqPt_runs (p q:Pt) (op:BinOp) (a b:Operand) (w:World):Sem.run Tryz.prog (binOp .eql 23 (.agg #[.int .i64 p.x,.int .i64 p.y]) (.agg #[.int .i64 q.x,.int .i64 q.y])) w= .ok (.bool (decide (p=q))) w∧Sem.run Tryz.prog (eqGuard op 23 a b (.agg #[.int .i64 p.x,.int .i64 p.y]) (.agg #[.int .i64 q.x,.int .i64 q.y])) w= .ok () w:=
 ⟨eqPt_at.1 p q w,eqPt_at.2 op a b p q w⟩
set_option maxHeartbeats 1600000 in
theorem indexPt_any (xs:List Pt) (A:Option Addr) (n cap k:Nat) (w:World) (hr:Reads w w.heap.size 2 A n (ptsV xs)) (hk:k<n) (hf:∀j,j<k→ptAt xs j≠ptAt xs k) (hn:n≤8796093022208):
 Calls Tryz.prog 111 #[.slice A n cap,ptV (ptAt xs k)] w fun e w'=>e= .returned (.int .i64 (k:Int))∧Below w.heap.size w w':=by
 have HF:=Lib.hid hf
 clear hf
 obtain⟨Q,hQ⟩:∃Q,Q=ptAt xs k:=⟨_,rfl⟩
 rw[←hQ]
 have HQ:=Lib.hid hQ
 clear hQ
 have hB0:=(Below.refl w.heap.size w).alloc (Nat.le_refl _) (.cells #[.int .i64 Q.x,.int .i64 Q.y] 23)
 have hP0:PtK (w.alloc (.cells #[.int .i64 Q.x,.int .i64 Q.y] 23)) w.heap.size Q:=PtK.new w Q
 have H0:=Lib.hid (And.intro hB0 hP0)
 clear hB0 hP0
 unfold ptV
 go_enter Tryz.func111,Tryz.ntmps111
 go_wp2
 go_loopw [8] (fun i wr=>∃m:Nat,m≤k∧i= .int .i64 (m:Int)∧Below w.heap.size w wr∧PtK wr w.heap.size Q) (fun i _=>n-(intOf i).toNat)
 case atStart=>exact⟨0,Nat.zero_le _,rfl,H0.out⟩
 case round=>
  clear H0
  obtain⟨m,hm,rfl,hbel,hK⟩:=hrel
  have hmn:m<n:=by omega
  have hmn':(m:Int)<(n:Int):=by omega
  have hw1:IntKind.i64.wrap ((m:Int)+1)=(m:Int)+1:=by rw[IntKind.wrap_i64];omega
  obtain⟨ad,rfl,-,-,-,-⟩:=hr.pt hmn
  obtain⟨-,p1,p2⟩:=(hr.below hbel).ptA hmn
  obtain⟨q1,q2,-,-,-⟩:=hK.facts
  have hmk:m=k→decide (Q=ptAt xs m)=true:=fun h=>by rw[h,HQ.out];simp
  have hnk:m≠k→decide (Q=ptAt xs m)=false:=fun h=>by
   have:=HF.out m (by omega)
   rw[HQ.out]
   simpa using fun e=>this e.symm
  have he:=fun W=>(eqPt_runs Q (ptAt xs m) .eql (.tmp 0) (.tmp 0) W).1
  have hg:=fun op a b W=>(eqPt_runs Q (ptAt xs m) op a b W).2
  generalize ptAt xs m=P at *
  have HB:=Lib.hid (And.intro hbel hK)
  clear hbel hK hr
  by_cases hmk':m=k
  ·rw[hmk hmk']at he
   have HM:=Lib.hid hmk'
   clear hmk hnk hmk'
   go_wp2
   go_quiet (fail)
   go_wp2
   go_ret
   exact⟨by rw[HM.out];rfl,below_drewN HB.out.1 _⟩
  ·rw[hnk hmk']at he
   have HM:Hid (m+1≤k):=by show _≤_;omega
   clear hmk hnk hmk'
   go_wp2
   go_quiet (fail)
   go_wp2
   go_roundw
   case rel=>exact⟨m+1,HM.out,by go_num,below_drewN HB.out.1 _,HB.out.2⟩
   case measure=>simp[intOf];omega
theorem newPt_any (n:Nat) (w:World) (h1:1≤n) (hn:n≤8796093022208):
 Calls Tryz.prog 114 #[.slice none 0 0,.int .i64 (n:Int)] w fun e w'=>∃A c,e= .returned (.slice A 0 c)∧w'.ownsRow w.heap.size 23 2 (.slice A 0 c) 0 []∧Below w.heap.size w w':=by
 obtain⟨i0,hi0,hz0,hz1,hz2⟩:=info_parts info_pt
 have hcon:=Any8.slices_Grow_grow growPt i0 _ hi0 hz0 (by omega) none 0 0 n [] w (Nat.le_refl _) (by omega) (by rw[hz2];omega) (by omega) (by simp) (fun _=>rfl) (fun a h=>by cases h)
 change Calls Tryz.prog 114 _ _ _ at hcon
 refine hcon.mono ?_
 rintro e w' ⟨rfl,rfl⟩
 have hG:=grownCap_ge w (0+n) 0 (growPt_ren.t 25)
 have hG2:=grownCap_le_maxLen w (0+n) 0 (growPt_ren.t 25) (by unfold maxLen;omega)
 generalize grownCap w (0+n) 0 (growPt_ren.t 25)=G at *
 refine⟨_,_,rfl,World.ownsRow_made w.drew _ _ (Nat.le_refl _) hG2 ?_,((Below.refl _ _).drew).alloc (Nat.le_refl _) _⟩
 simp[Builtin.zeroCells,Value.cells]
 omega
set_option maxRecDepth 100000 in
set_option maxHeartbeats 1600000 in
theorem concatPt_any (xs ys:List Pt) (A B:Option Addr) (n m ca cb g c:Nat) (w:World) (hr:Reads w w.heap.size 2 A n (ptsV xs)) (hs:Reads w w.heap.size 2 B m (ptsV ys)) (hg:g<w.heap.size) (c1:w.cell? ⟨g,0,none⟩=some (.slice A n ca)) (c2:w.cell? ⟨g,1,none⟩=some (.slice B m cb)) (h1:1≤n+m) (hn:n+m≤1048576):
 Calls Tryz.prog 68 #[.slice (some ⟨g,0,none⟩) 2 c] w fun e w'=>∃A' c',e= .returned (.slice A' (n+m) c')∧w'.ownsRow w.heap.size 23 2 (.slice A' (n+m) c') (n+m) (ptsV (xs++ys))∧Below w.heap.size w w':=by
 obtain⟨i0,hi0,hz0,hz1,hz2⟩:=info_parts info_pt
 have HR:=Lib.hid (And.intro hr hs)
 have HL:=Lib.hid (And.intro hr.lenPt hs.lenPt)
 have hx1:IntKind.i64.wrap (0+(n:Int))=(n:Int):=IntWalk.i64_in _ (by omega) |>.trans (by omega)
 have hx2:IntKind.i64.wrap ((n:Int)+(m:Int))=(n:Int)+(m:Int):=IntWalk.i64_in _ (by omega)
 have hx3:¬(n:Int)<0:=by omega
 have hx4:¬(n:Int)+(m:Int)<0:=by omega
 clear hr hs
 go_enter Tryz.func68,Tryz.ntmps68
 go_wp2_with fail
 go_loopw [3,11] (fun s i wr=>∃k:Nat,k≤2∧i= .int .i64 (k:Int)∧(k=0→s= .int .i64 0)∧(k=1→s= .int .i64 (n:Int))∧(k=2→s= .int .i64 ((n:Int)+(m:Int)))∧wr=w) (fun _ i _=>2-(intOf i).toNat)
 case atStart=>exact⟨0,by omega,rfl,fun _=>rfl,fun h=>absurd h (by omega),fun h=>absurd h (by omega),rfl⟩
 case round=>
  obtain⟨k,hk,rfl,k0,k1,k2,rfl⟩:=hrel
  have h3:k=0∨k=1∨k=2:=by omega
  rcases h3 with rfl|rfl|rfl
  ·obtain rfl:=k0 rfl
   clear k0 k1 k2
   go_wp2_with fail
   go_roundw
   case rel=>exact⟨1,by omega,rfl,fun h=>absurd h (by omega),fun _=>by go_num,fun h=>absurd h (by omega),by first|rfl|trivial⟩
   case measure=>simp[intOf]
  ·obtain rfl:=k1 rfl
   clear k0 k1 k2
   go_wp2_with fail
   go_roundw
   case rel=>exact⟨2,by omega,rfl,fun h=>absurd h (by omega),fun h=>absurd h (by omega),fun _=>by go_num,by first|rfl|trivial⟩
   case measure=>simp[intOf]
  ·obtain rfl:=k2 rfl
   clear k0 k1 k2
   obtain⟨W0,hW0⟩:∃W:World,W=wr:=⟨_,rfl⟩
   subst hW0
   have HK:=newPt_any (n+m) W0 h1 (by omega)
   rw[show ((n+m:Nat):Int)=(n:Int)+(m:Int) by omega]at HK
   have HK:=Lib.hid HK
   go_wp2_with fail
   refine HK.out.mono ?_
   rintro e w1 ⟨A1,c1',rfl,hown,hbel⟩
   have H1:=Lib.hid (And.intro hown hbel)
   clear hown hbel HK
   go_wp2_with fail
   obtain⟨wo,hwo⟩:∃wo:World,wo=w1:=⟨_,rfl⟩
   rw[←hwo]at H1
   rw[←hwo]
   clear hwo
   go_loopw [6,27] (fun s i wx=>∃k:Nat,k≤2∧i= .int .i64 (k:Int)∧(∃A' c',s= .slice A' (if k=0 then 0 else if k=1 then n else n+m) c'∧wx.ownsRow W0.heap.size 23 2 (.slice A' (if k=0 then 0 else if k=1 then n else n+m) c') (if k=0 then 0 else if k=1 then n else n+m) (ptsV (if k=0 then[]else if k=1 then xs else xs++ys)))∧Below W0.heap.size W0 wx) (fun _ i _=>2-(intOf i).toNat)
   case atStart=>exact⟨0,by omega,rfl,⟨A1,c1',rfl,H1.out.1⟩,H1.out.2⟩
   case round=>
    clear H1
    obtain⟨k,hk,rfl,⟨A',c',rfl,hown⟩,hbel⟩:=hrel
    have h3:k=0∨k=1∨k=2:=by omega
    rcases h3 with rfl|rfl|rfl
    ·have hown':wr.ownsRow W0.heap.size 23 2 (.slice A' 0 c') 0 []:=hown
     have cc:=(hbel.cell (p:=⟨g,0,none⟩) hg).trans c1
     have hrd:=HR.out.1.below hbel
     clear hown
     go_wp2_with (at_builtin;refine wpList_append_any _ rfl (.tmp 31) (.tmp 32) _ rfl W0.heap.size 23 i0 _ 2 16 Tryz.underlying25 hi0 hz0 hz1 hz2 rfl (by omega) (.slice A' 0 c') 0 _ rfl hown' W0.heap.size A n ca _ rfl hrd (ptsV_one _) (by simp only[maxLen];omega) (by omega) hbel.size ?_
                  intro v6 w6 hown6 hg6 hat6)
     have hB6:Below W0.heap.size W0 w6:=hbel.grown hg6 hbel.size (fun q hq=>(hown'.lt q hq).1)
     rw[Nat.zero_add,List.nil_append]at hown6
     obtain⟨A6,c6,rfl⟩:=own_form hown6
     have H6:=Lib.hid (And.intro hown6 hB6)
     clear hown6 hB6 hg6 hat6 hown' hbel hrd
     go_wp2_with fail
     go_roundw
     case rel=>exact⟨1,by omega,rfl,⟨A6,c6,rfl,H6.out.1⟩,H6.out.2⟩
     case measure=>simp[intOf]
    ·have hown':wr.ownsRow W0.heap.size 23 2 (.slice A' n c') n (ptsV xs):=hown
     have cc:=(hbel.cell (p:=⟨g,1,none⟩) hg).trans c2
     have hrd:=HR.out.2.below hbel
     clear hown
     go_wp2_with (at_builtin;refine wpList_append_any _ rfl (.tmp 31) (.tmp 32) _ rfl W0.heap.size 23 i0 _ 2 16 Tryz.underlying25 hi0 hz0 hz1 hz2 rfl (by omega) (.slice A' n c') n _ rfl hown' W0.heap.size B m cb _ rfl hrd (ptsV_one _) (by simp only[maxLen];omega) (by omega) hbel.size ?_
                  intro v6 w6 hown6 hg6 hat6)
     have hB6:Below W0.heap.size W0 w6:=hbel.grown hg6 hbel.size (fun q hq=>(hown'.lt q hq).1)
     rw[←ptsV_append]at hown6
     obtain⟨A6,c6,rfl⟩:=own_form hown6
     have H6:=Lib.hid (And.intro hown6 hB6)
     clear hown6 hB6 hg6 hat6 hown' hbel hrd
     go_wp2_with fail
     go_roundw
     case rel=>exact⟨2,by omega,rfl,⟨A6,c6,rfl,H6.out.1⟩,H6.out.2⟩
     case measure=>simp[intOf]
    ·have hown':wr.ownsRow W0.heap.size 23 2 (.slice A' (n+m) c') (n+m) (ptsV (xs++ys)):=hown
     have H7:=Lib.hid (And.intro hown' hbel)
     clear hown hown' hbel
     go_wp2_with fail
     go_ret
     exact⟨A',c',rfl,H7.out⟩
end Go.Proofs.YtpkeacnacjnlcaaGreat
namespace Go.Proofs.YtpkeacnacjnlcaaGreat
theorem Oper.wpIn_of_wp {P:Program} {n l:Nat} {o:Oper} {a:Act} {w:World} {K:Act→World→Prop} {Q:Exit→Act→World→Prop} (hd:∀c,o.op≠ .defer c) (h:o.wp P a w K Q):o.wpIn (Fence.wide.inRound l) n P a w K Q:=by
 unfold Oper.wp at h
 unfold Oper.wpIn
 refine⟨fun _ _=>trivial,?_⟩
 rw[show o.semAt (Fence.wide.inRound l).round a.eval=execOp a.eval o from Go.Oper.semAt_some l _ _ hd]
 generalize (execOp a.eval o).run P w=r at *
 cases r with
 |ok x w'=>
  cases x
  case enter f args=>exact⟨fun hc=>(by cases hc),CallsIn.inRound l (callsIn_wide.2 h)⟩
  case row r args=>exact⟨fun hc=>(by cases hc),fun c cs _=>let ⟨v,w',r,s⟩:=h c cs;⟨v,w',r,stepsIn_wide.2 s⟩⟩
  all_goals first|exact h|exact(h:False).elim
 |halt x w'=>cases x<;>exact h
theorem wpOpsIn_of_wpOps {P:Program} {n l:Nat} {ops:Array Oper} {Q:Exit→Act→World→Prop} (hQ:¬LetsOut Q) (hd:∀(i:Nat) (o:Oper),ops[i]?=some o→∀c,o.op≠ .defer c):
 ∀(is:List Nat) (a:Act) (w:World),wpOps P ops Q is a w→wpOpsIn (Fence.wide.inRound l) n P ops Q is a w:=by
 intro is
 induction is with
 |nil=>intro a w h;exact h
 |cons i rest ih=>
  intro a w h
  unfold wpOps at h
  unfold wpOpsIn
  split
  ·rename_i he
   rw[he]at h
   exact ih a w h
  ·rename_i o he
   rw[he]at h
   simp only at h
   split
   ·rename_i hw
    rw[if_pos hw]at h
    exact Oper.wpIn_of_wp (hd i o he) (Oper.wp_mono (fun a w=>ih a w) (h.resolve_right fun hx=>hQ hx.2))
   ·rename_i hw
    rw[if_neg hw]at h
    exact⟨fun _ _=>trivial,ih _ _ h⟩
def noDefer (ops:Array Oper):Bool:=ops.toList.all fun o=>match o.op with| .defer _=>false|_=>true
/-- Q at an ordinary end, and nothing else. -/
def OnlyN (Q:Exit→Act→World→Prop):Exit→Act→World→Prop
 | .normal,a,w=>Q .normal a w
 |_,_,_=>False
theorem OnlyN.imp {Q:Exit→Act→World→Prop}:∀(e:Exit) (a:Act) (w:World),OnlyN Q e a w→Q e a w:=fun e a w h=>by
 cases e<;>first|exact h|exact(h:False).elim
theorem OnlyN.normal {Q:Exit→Act→World→Prop} {a:Act} {w:World} (h:Q .normal a w):OnlyN Q .normal a w:=h
theorem wpIn_region_round {P:Program} {n l id:Nat} {ops:Array Oper} {Q:Exit→Act→World→Prop} {S:World→Prop} {a:Act} {w:World} (hm:P.follows .mixedOrders=true) (hd:noDefer ops=true) (hS:S w.drew)
 (h:S w.drew→wpAnyH P .any ops (OnlyN Q) S ops.size (Array.replicate ops.size false) a w.drew):(Code.region id ops true).wpIn (Fence.wide.inRound l) n P Q a w:=by
 refine wpIn_mono (Q':=Q) (Q:=OnlyN Q) (wpIn_region_draw fun t=>?_) OnlyN.imp
 refine wpOpsIn_of_wpOps (fun ⟨_,_,hl⟩=>hl) (fun i o ho c hc=>?_) _ _ _ ?_
 ·have:=List.all_eq_true.1 hd o (Array.mem_toList_iff.2 (Array.mem_of_getElem? ho))
  rw[hc]at this
  cases this
 ·simp only[Region.schedule,hm,Bool.true_or,if_true]
  exact wpAny_sound ops.size t _ a _ (wpAny_of_held _ _ _ _ (h hS))
end Go.Proofs.YtpkeacnacjnlcaaGreat
namespace Go.Proofs.YtpkeacnacjnlcaaGreat
open Go.RowKit Go.Shelf
attribute [local go_sem] Go.Oper.semAt_some
def pairM (xs:List Pt) (i j:Nat):Bool:=decide (meetOf xs i j=if nextB xs.length i j=true then 1 else 0)
def SimpleP (xs:List Pt):Prop:=∀i j,i<j→j<xs.length→pairM xs i j=true
open Classical in
noncomputable def simpleB (xs:List Pt):Bool:=decide (SimpleP xs)
open Classical in
theorem simpleB_true {xs:List Pt} (h:SimpleP xs):simpleB xs=true:=by unfold simpleB;exact decide_eq_true h
open Classical in
theorem simpleB_false {xs:List Pt} (h:¬SimpleP xs):simpleB xs=false:=by unfold simpleB;exact decide_eq_false h
theorem holdM {W V V':World} {Bx h n:Nat} {sl:Value} {p q:Pt} {a b:Addr} {rx ry tx ty:Int} (hB:Bx<W.heap.size∧h+1+1<W.heap.size∧a.block<W.heap.size∧b.block<W.heap.size)
 (hh:V.cell? ⟨Bx,0,none⟩=some (.int .i64 p.x)∧V.cell? ⟨Bx,1,none⟩=some (.int .i64 p.y)∧V.cell? ⟨Bx,2,none⟩=some (.int .i64 q.x)∧V.cell? ⟨Bx,3,none⟩=some (.int .i64 q.y)∧V.cell? ⟨h,0,none⟩=some sl∧V.cell? ⟨h+1+1,0,none⟩=some (.int .i64 (n:Int))∧
   V.cell? a=some (.int .i64 rx)∧V.cell? ⟨a.block,a.off+1,none⟩=some (.int .i64 ry)∧V.cell? b=some (.int .i64 tx)∧V.cell? ⟨b.block,b.off+1,none⟩=some (.int .i64 ty)∧Below W.heap.size W V) (hb:Below V.heap.size V V'):
 V'.cell? ⟨Bx,0,none⟩=some (.int .i64 p.x)∧V'.cell? ⟨Bx,1,none⟩=some (.int .i64 p.y)∧V'.cell? ⟨Bx,2,none⟩=some (.int .i64 q.x)∧V'.cell? ⟨Bx,3,none⟩=some (.int .i64 q.y)∧V'.cell? ⟨h,0,none⟩=some sl∧V'.cell? ⟨h+1+1,0,none⟩=some (.int .i64 (n:Int))∧
  V'.cell? a=some (.int .i64 rx)∧V'.cell? ⟨a.block,a.off+1,none⟩=some (.int .i64 ry)∧V'.cell? b=some (.int .i64 tx)∧V'.cell? ⟨b.block,b.off+1,none⟩=some (.int .i64 ty)∧Below W.heap.size W V':=by
 obtain⟨h1,h2,h3,h4,h5,h6,h7,h8,h9,h10,h11⟩:=hh
 have:=h11.size
 exact⟨(hb.cell (by simp only;omega)).trans h1,(hb.cell (by simp only;omega)).trans h2,(hb.cell (by simp only;omega)).trans h3,(hb.cell (by simp only;omega)).trans h4,(hb.cell (by simp only;omega)).trans h5,(hb.cell (by simp only;omega)).trans h6,(hb.cell (by omega)).trans h7,(hb.cell (by simp only;omega)).trans h8,(hb.cell (by omega)).trans h9,(hb.cell (by simp only;omega)).trans h10,below_on h11 (Nat.le_refl _) hb⟩
set_option maxRecDepth 100000 in
set_option maxHeartbeats 3200000 in
theorem simple_any (xs:List Pt) (A:Option Addr) (n cap:Nat) (w:World) (hr:Reads w w.heap.size 2 A n (ptsV xs)) (hn:n≤128) (hg:goodL xs=true):
 Calls Tryz.prog 179 #[.slice A n cap] w fun e w'=>e= .returned (.bool (simpleB xs))∧Below w.heap.size w w':=by
 have HG:=Lib.hid hg
 clear hg
 have HL:=Lib.hid (hr.lenPt)
 refine(callsIn_wide (n:=3)).1 ?_
 refine callsIn_of_wp_marks Tryz.func179 rfl trivial ?_ rfl
 simp only[Tryz.ntmps179,List.size_toArray,List.length_cons,List.length_nil,Nat.reduceAdd,Nat.reduceSub,Array.replicate_succ,Array.replicate_zero,List.push_toArray,List.append_toArray,List.nil_append,List.cons_append]
 gi_wp2_with fail
 refine⟨trivial,?_⟩
 refine(callsIn_wide.2 (edges_any A n cap _)).mono ?_
 rintro e w3 ⟨rfl,rfl⟩
 gi_wp2_with fail
 have bP:=(((Boxed.new w 25 (.slice A n cap)).alloc (.cells #[.bool false] 4)).alloc (.cells #[.int .i64 (n:Int)] 3)).alloc (.cells #[.slice A n cap] 25)
 have bR:=((Boxed.new (w.alloc (.cells #[.slice A n cap] 25)) 4 (.bool false)).alloc (.cells #[.int .i64 (n:Int)] 3)).alloc (.cells #[.slice A n cap] 25)
 have bI:=(Boxed.new ((w.alloc (.cells #[.slice A n cap] 25)).alloc (.cells #[.bool false] 4)) 3 (.int .i64 (n:Int))).alloc (.cells #[.slice A n cap] 25)
 have bE:=Boxed.new (((w.alloc (.cells #[.slice A n cap] 25)).alloc (.cells #[.bool false] 4)).alloc (.cells #[.int .i64 (n:Int)] 3)) 25 (.slice A n cap)
 simp only[World.size_alloc]at bR bI bE
 have hB0:=((((Below.refl w.heap.size w).alloc (Nat.le_refl _) (.cells #[.slice A n cap] 25)).alloc (by simp) (.cells #[.bool false] 4)).alloc (by simp;omega) (.cells #[.int .i64 (n:Int)] 3)).alloc (by simp;omega) (.cells #[.slice A n cap] 25)
 have hr0:=hr.below hB0
 have hz0:((((w.alloc (.cells #[.slice A n cap] 25)).alloc (.cells #[.bool false] 4)).alloc (.cells #[.int .i64 (n:Int)] 3)).alloc (.cells #[.slice A n cap] 25)).heap.size=w.heap.size+4:=by simp
 generalize (((w.alloc (.cells #[.slice A n cap] 25)).alloc (.cells #[.bool false] 4)).alloc (.cells #[.int .i64 (n:Int)] 3)).alloc (.cells #[.slice A n cap] 25)=w0 at *
 refine wpIn_rangeFunc_ownH rfl (by omega) (gf:=153) (lb:=#[.pointer (some ⟨w.heap.size+1+1+1,0,none⟩)]) rfl trivial (enters_of Tryz.func153 (by kernel_rfl) rfl)
  (edges_stopsR 2 (by omega) w.heap.size (w.heap.size+1+1+1) cap n A xs (by omega) w0 (by omega) (by omega) bE.cell hr0) (fun h k=>h.trans k)
  (fun W l o o' hl h _ _=>⟨by simp,fun i hi=>World.putObj_heap_other (by omega)⟩) (Below.refl _ _) (fun _=>rfl)
  (fun pre W=>(Boxed W w.heap.size 25 (.slice A n cap)∧Boxed W (w.heap.size+1) 4 (.bool false)∧Boxed W (w.heap.size+1+1) 3 (.int .i64 (n:Int))∧Boxed W (w.heap.size+1+1+1) 25 (.slice A n cap)∧∀y∈pre,∀j,y.1<j→j<n→pairM xs y.1 j=true)∧Below w.heap.size w W)
  (fun c pre W=>(c= .ret∧¬SimpleP xs∧Boxed W (w.heap.size+1) 4 (.bool false))∧Below w.heap.size w W)
  (OwnFrom.and (Own.from (fun s X Y row hs hg hrow=>⟨boxed_own _ _ (fun _:Unit=>_) () X Y row hs.1 hg hrow,boxed_own _ _ (fun _:Unit=>_) () X Y row hs.2.1 hg hrow,boxed_own _ _ (fun _:Unit=>_) () X Y row hs.2.2.1 hg hrow,boxed_own _ _ (fun _:Unit=>_) () X Y row hs.2.2.2.1 hg hrow,hs.2.2.2.2⟩) _) (ownFrom_below (Nat.le_refl _) (by omega)))
  (fun c=>OwnFrom.and (Own.from (fun s X Y row hs hg hrow=>⟨hs.1,hs.2.1,boxed_own _ _ (fun _:Unit=>_) () X Y row hs.2.2 hg hrow⟩) _) (ownFrom_below (Nat.le_refl _) (by omega)))
  ⟨⟨bP,bR,bI,bE,by simp⟩,hB0⟩
  (fun x a' W=>∃Bx,Blk W Bx 76 #[.int .i64 (ptAt xs x.1).x,.int .i64 (ptAt xs x.1).y,.int .i64 (ptAt xs ((x.1+1)%xs.length)).x,.int .i64 (ptAt xs ((x.1+1)%xs.length)).y]∧
    a'={ tmps:=#[.slice A n cap,.pointer (some ⟨w.heap.size,0,none⟩),.pointer (some ⟨w.heap.size+1,0,none⟩),.pointer (some ⟨w.heap.size+1+1,0,none⟩),.int .i64 (x.1:Int),.pointer (some ⟨Bx,0,none⟩),undef,undef,undef,undef,.slice A n cap,.int .i64 (n:Int),.slice A n cap,.func (.func 153) #[] #[.pointer (some ⟨w.heap.size+1+1+1,0,none⟩)],.int .i64 (x.1:Int),edgeV (ptAt xs x.1) (ptAt xs ((x.1+1)%xs.length)),undef,undef,undef,undef,undef,undef,undef,undef,undef,undef,undef,undef,undef,undef,undef,undef,undef,undef,undef,undef,undef,undef,undef,undef,undef,undef,undef,undef,undef,undef,undef,undef,undef,undef,undef,undef,undef,undef,undef,undef,undef,undef,undef],defers:=[] })
  (fun x a'=>fun s X Y row ⟨Bx,hs,e⟩ hg hrow=>⟨Bx,blk_own Bx _ (fun _:Unit=>_) () X Y row hs hg (fun r hr=>(hrow r hr).2),e⟩) ?assign ?body ?done ?stop
 case assign=>
  rintro l pre x W K ⟨⟨bP',bR',bI',bE',hne⟩,hB'⟩ hK
  unfold edgeAt edgeV
  gi_wp2
  have hsz:=hB'.size
  have hlt:=bE'.lt
  refine hK _ _ ((KeepsOthers.alloc _ _).from _) (KeepE.alloc (by omega) hlt _) ⟨⟨bP'.alloc _,bR'.alloc _,bI'.alloc _,bE'.alloc _,hne⟩,hB'.alloc hB'.size _⟩ ⟨W.heap.size,Blk.new W _ _,rfl⟩
 case body=>
  rintro l pre ⟨x,hxn⟩ a' W hl' ⟨r,hrr⟩ ⟨⟨bP',bR',bI',bE',hne⟩,hB'⟩ ⟨Bx,hBx,rfl⟩ hlen
  have hpm:∀j,pairM xs x j=decide (meetOf xs x j=if nextB n x j=true then 1 else 0):=fun j=>by unfold pairM;rw[HL.out]
  have hpg:=ptAt_good HG.out x
  have hqg:=ptAt_good HG.out ((x+1)%xs.length)
  obtain⟨p,hp⟩:∃p,p=ptAt xs x:=⟨_,rfl⟩
  obtain⟨q,hq⟩:∃q,q=ptAt xs ((x+1)%xs.length):=⟨_,rfl⟩
  have hmo:∀j,meetOf xs x j=meetR p q (ptAt xs j) (ptAt xs ((j+1)%n)):=fun j=>by unfold meetOf;rw[hp,hq,HL.out]
  have hpq:edgeV (ptAt xs x) (ptAt xs ((x+1)%xs.length))=edgeV p q:=by rw[hp,hq]
  rw[←hp]at hBx hpg
  rw[←hq]at hBx hqg
  dsimp only
  rw[hpq]
  have HM:=Lib.hid (And.intro hpm hmo)
  have HPQ:=Lib.hid (And.intro hpg hqg)
  have HW:=Lib.hid (And.intro bP' (And.intro bR' (And.intro bI' (And.intro bE' (And.intro hne (And.intro hB' hBx))))))
  have hszW:w.heap.size+4≤W.heap.size:=by have:=bE'.lt;omega
  have hBxl:Bx<W.heap.size:=Blk.lt hBx
  have hw0:IntKind.i64.wrap ((x:Int)+1)=(x:Int)+1:=by rw[IntKind.wrap_i64];omega
  clear hp hq hmo hpm hpq hpg hqg hBx bP' bR' bI' bE' hne hB' hrr
  unfold edgeV
  gi_wp2_with fail
  gi_loopw [6] (fun i wr=>∃j:Nat,x<j∧j≤n∧Hid (∀k,x<k→k<j→pairM xs x k=true)∧i= .int .i64 (j:Int)∧Below W.heap.size W wr) (fun i _=>n-(intOf i).toNat)
  case atStart=>exact⟨x+1,by omega,by omega,(fun k h1 h2=>absurd h2 (by omega)),by go_num,Below.refl _ _⟩
  case round=>
   obtain⟨j,hxj,hj,hall,rfl,hbel⟩:=hrel
   by_cases hltj:j<n
   ·have hsz1:w.heap.size+4≤wr.heap.size:=Nat.le_trans hszW hbel.size
    have hBl:Below w.heap.size w wr:=below_on HW.out.2.2.2.2.2.1 (Nat.le_refl _) hbel
    have hA:=(hr.below hBl)
    obtain⟨ad,rfl,hbd,-,-,-⟩:=hA.pt hltj
    obtain⟨m,hm⟩:∃m,m=(j+1)%n:=⟨_,rfl⟩
    have hl1:m<n:=by rw[hm];exact Nat.mod_lt _ (by omega)
    have ht1:((j:Int)+1).tmod (n:Int)=(m:Int):=by rw[mod_tmod,←hm]
    have hw1:IntKind.i64.wrap ((j:Int)+1)=(j:Int)+1:=by rw[IntKind.wrap_i64];omega
    have hw3:IntKind.i64.wrap ((n:Int)-1)=(n:Int)-1:=by rw[IntKind.wrap_i64];omega
    have hl1':(m:Int)<(n:Int):=by omega
    have hltj':(j:Int)<(n:Int):=by omega
    have hn0:¬(n=0):=by omega
    have hn0':¬((n:Int)=0):=by omega
    obtain⟨-,r1,r2⟩:=hA.ptA hltj
    obtain⟨-,t1,t2⟩:=hA.ptA hl1
    have hrg:=ptAt_good HG.out j
    have htg:=ptAt_good HG.out m
    have hmo:meetOf xs x j=meetR p q (ptAt xs j) (ptAt xs m):=by rw[HM.out.2 j,←hm]
    have kM:∀V,Calls Tryz.prog 181 #[.agg #[.int .i64 p.x,.int .i64 p.y],.agg #[.int .i64 q.x,.int .i64 q.y],.agg #[.int .i64 (ptAt xs j).x,.int .i64 (ptAt xs j).y],.agg #[.int .i64 (ptAt xs m).x,.int .i64 (ptAt xs m).y]] V fun e w'=>e= .returned (.tuple #[.int .i64 (meetOf xs x j),.int .i64 0])∧Below V.heap.size V w':=fun V=>by
     rw[hmo,←meet_eq HPQ.out.1 HPQ.out.2 hrg htg]
     exact meet_any p q (ptAt xs j) (ptAt xs m) V HPQ.out.1 HPQ.out.2 hrg htg
    have hpm:=HM.out.1 j
    generalize meetOf xs x j=M at *
    generalize (ptAt xs j).x=rx at *
    generalize (ptAt xs j).y=ry at *
    generalize (ptAt xs m).x=tx at *
    generalize (ptAt xs m).y=ty at *
    obtain⟨nx,hnx⟩:∃b,b=nextB n x j:=⟨_,rfl⟩
    rw[←hnx]at hpm
    have HPM:=Lib.hid hpm
    have HNX:=Lib.hid hnx
    have c1:wr.cell? ⟨w.heap.size,0,none⟩=some (.slice (some ad) n cap):=Boxed.cell (t:=25) (Blk.below HW.out.1 hbel (by have:=Blk.lt HW.out.1;omega))
    have c3:wr.cell? ⟨w.heap.size+1+1,0,none⟩=some (.int .i64 (n:Int)):=Boxed.cell (t:=3) (Blk.below HW.out.2.2.1 hbel (by have:=Blk.lt HW.out.2.2.1;omega))
    have hBx1:=Blk.below HW.out.2.2.2.2.2.2 hbel hBxl
    have HH:=Lib.hid (show wr.drew.cell? ⟨Bx,0,none⟩=some (.int .i64 p.x)∧wr.drew.cell? ⟨Bx,1,none⟩=some (.int .i64 p.y)∧wr.drew.cell? ⟨Bx,2,none⟩=some (.int .i64 q.x)∧wr.drew.cell? ⟨Bx,3,none⟩=some (.int .i64 q.y)∧wr.drew.cell? ⟨w.heap.size,0,none⟩=some (.slice (some ad) n cap)∧wr.drew.cell? ⟨w.heap.size+1+1,0,none⟩=some (.int .i64 (n:Int))∧wr.drew.cell? (ad.add (j*2))=some (.int .i64 rx)∧wr.drew.cell? ⟨(ad.add (j*2)).block,(ad.add (j*2)).off+1,none⟩=some (.int .i64 ry)∧wr.drew.cell? (ad.add (m*2))=some (.int .i64 tx)∧wr.drew.cell? ⟨(ad.add (m*2)).block,(ad.add (m*2)).off+1,none⟩=some (.int .i64 ty)∧Below wr.heap.size wr wr.drew from⟨(Blk.cell hBx1 0).trans rfl,(Blk.cell hBx1 1).trans rfl,(Blk.cell hBx1 2).trans rfl,(Blk.cell hBx1 3).trans rfl,c1,c3,r1,r2,t1,t2,(Below.refl _ _).drew⟩)
    have HC:=Lib.hid (And.intro kM (show Bx<wr.heap.size∧w.heap.size+1+1<wr.heap.size∧(ad.add (j*2)).block<wr.heap.size∧(ad.add (m*2)).block<wr.heap.size from⟨Nat.lt_of_lt_of_le hBxl hbel.size,by omega,by rw[block_of_add];omega,by rw[block_of_add];omega⟩))
    clear hm hA hbd hBl hmo kM hpm hnx r1 r2 t1 t2 hrg htg c1 hBx1
    gi_upto_region 9 with fail
    gi_cut [36] from 37 (fun s36 wx=>s36= .bool nx∧wr=wx)
    case first=>
     clear HPM HH HC
     by_cases d1:j=x+1
     ·have e1:((j:Int)==(x:Int)+1)=true:=beq_iff_eq.mpr (by omega)
      have ex:Hid (nx=true):=by show _=_;rw[HNX.out];unfold nextB;simp[d1]
      clear d1 HNX
      gi_wp2_with fail
      gi_meet
      exact⟨by rw[ex.out],rfl⟩
     ·have e1:((j:Int)==(x:Int)+1)=false:=beq_eq_false_iff_ne.mpr (by omega)
      by_cases d2:x=0
      ·have e2:((x:Int)==0)=true:=beq_iff_eq.mpr (by omega)
       by_cases d3:j=n-1
       ·have e3:((j:Int)==(n:Int)-1)=true:=beq_iff_eq.mpr (by omega)
        have ex:Hid (nx=true):=by show _=_;rw[HNX.out];unfold nextB;rw[decide_eq_false d1,decide_eq_true d2,decide_eq_true d3];rfl
        clear d1 d2 d3 HNX
        gi_wp2_with fail
        gi_meet
        exact⟨by rw[ex.out],rfl⟩
       ·have e3:((j:Int)==(n:Int)-1)=false:=beq_eq_false_iff_ne.mpr (by omega)
        have ex:Hid (nx=false):=by show _=_;rw[HNX.out];unfold nextB;rw[decide_eq_false d1,decide_eq_true d2,decide_eq_false d3];rfl
        clear d1 d2 d3 HNX
        gi_wp2_with fail
        gi_meet
        exact⟨by rw[ex.out],rfl⟩
      ·have e2:((x:Int)==0)=false:=beq_eq_false_iff_ne.mpr (by omega)
       have ex:Hid (nx=false):=by show _=_;rw[HNX.out];unfold nextB;rw[decide_eq_false d1,decide_eq_false d2];rfl
       clear d1 d2 HNX
       gi_wp2_with fail
       gi_meet
       exact⟨by rw[ex.out],rfl⟩
    case rest=>
     obtain⟨rfl,rfl⟩:=hcut
     clear HNX c3
     rcases nx with _|_
     ·have hM2:Hid (pairM xs x j=decide (M=0)):=by show _=_;rw[HPM.out];rfl
      clear HPM
      gi_upto_region 11 with fail
      refine wpIn_region_round (S:=(fun V=>V.cell? ⟨Bx,0,none⟩=some (.int .i64 p.x)∧V.cell? ⟨Bx,1,none⟩=some (.int .i64 p.y)∧V.cell? ⟨Bx,2,none⟩=some (.int .i64 q.x)∧V.cell? ⟨Bx,3,none⟩=some (.int .i64 q.y)∧V.cell? ⟨w.heap.size,0,none⟩=some (.slice (some ad) n cap)∧V.cell? ⟨w.heap.size+1+1,0,none⟩=some (.int .i64 (n:Int))∧V.cell? (ad.add (j*2))=some (.int .i64 rx)∧V.cell? ⟨(ad.add (j*2)).block,(ad.add (j*2)).off+1,none⟩=some (.int .i64 ry)∧V.cell? (ad.add (m*2))=some (.int .i64 tx)∧V.cell? ⟨(ad.add (m*2)).block,(ad.add (m*2)).off+1,none⟩=some (.int .i64 ty)∧Below wr.heap.size wr V)) (by kernel_rfl) (by kernel_rfl) ?_ (fun hHeld=>?_)
      ·exact HH.out
      refine tk 0 ?_
      refine tk 1 ?_
      refine tk 2 ?_
      refine tk 3 ?_
      refine tk 4 ?_
      refine tk 5 ?_
      refine tk 6 ?_
      refine tk 7 ?_
      refine tk 8 ?_
      refine tk 9 ?_
      refine tk 10 ?_
      refine tk 11 ?_
      refine tk 12 ?_
      refine tk 13 ?_
      refine tk 14 ?_
      refine rd1 15 fun K hK=>?_
      go_simp
      go_at_call 181
      with_reducible refine(HC.out.1 _).mono ?_
      rintro e w' ⟨rfl,hb'⟩
      dsimp only
      refine hK.out _ _ (holdM HC.out.2 (by assumption) hb') fun hHeld=>?_
      clear hK K
      try simp only[Act.put,sb0,sc0,sc1]
      refine tk 16 ?_
      refine tk 17 ?_
      refine tk 18 ?_
      refine tk 19 ?_
      refine tk 20 ?_
      refine wpAnyH_done (by kernel_rfl) ?_ _
      refine OnlyN.normal ?_
      obtain⟨-,-,-,-,-,-,-,-,-,-,hbV⟩:=hHeld
      clear HH HC
      have hB6:=Lib.hid (below_on hbel (Nat.le_refl _) hbV)
      have bR6:Boxed w' (w.heap.size+1) 4 (.bool false):=Blk.below (Blk.below HW.out.2.1 hbel (by have:=Blk.lt HW.out.2.1;omega)) hbV (by omega)
      clear hbV
      rcases d1:(M != 0)with _|_
      ·have hall2:Hid (∀k,x<k→k<j+1→pairM xs x k=true):=fun k h1 h2=>by
        rcases Nat.lt_succ_iff_lt_or_eq.1 h2 with h3|h3
        ·exact hall.out k h1 h3
        ·subst h3;rw[hM2.out];simpa using d1
       clear hM2 hall
       gi_wp2_with fail
       go_roundw
       case rel=>exact⟨j+1,by omega,by omega,hall2,by go_num,hB6.out⟩
       case measure=>simp[intOf];omega
      ·have hno:Hid (¬SimpleP xs):=fun h=>by
        have h1:=h x j hxj (by rw[HL.out];exact hltj)
        rw[hM2.out]at h1
        have h2:M=0:=by simpa using h1
        rw[h2]at d1
        cases d1
       have i1:=bR6.cell
       have i2:=bR6.frozen
       clear hM2 hall
       gi_wp2_with fail
       exact⟨((keeps_below hB6.out).trans (KeepsOthers.setCell _ _ _)).from _,⟨rfl,hno.out,bR6.set _⟩,(below_on HW.out.2.2.2.2.2.1 (Nat.le_refl _) hB6.out).setCell (p:=⟨w.heap.size+1,0,none⟩) (by simp) _⟩
     ·have hM2:Hid (pairM xs x j=decide (M=1)):=by show _=_;rw[HPM.out];rfl
      clear HPM
      gi_upto_region 11 with fail
      refine wpIn_region_round (S:=(fun V=>V.cell? ⟨Bx,0,none⟩=some (.int .i64 p.x)∧V.cell? ⟨Bx,1,none⟩=some (.int .i64 p.y)∧V.cell? ⟨Bx,2,none⟩=some (.int .i64 q.x)∧V.cell? ⟨Bx,3,none⟩=some (.int .i64 q.y)∧V.cell? ⟨w.heap.size,0,none⟩=some (.slice (some ad) n cap)∧V.cell? ⟨w.heap.size+1+1,0,none⟩=some (.int .i64 (n:Int))∧V.cell? (ad.add (j*2))=some (.int .i64 rx)∧V.cell? ⟨(ad.add (j*2)).block,(ad.add (j*2)).off+1,none⟩=some (.int .i64 ry)∧V.cell? (ad.add (m*2))=some (.int .i64 tx)∧V.cell? ⟨(ad.add (m*2)).block,(ad.add (m*2)).off+1,none⟩=some (.int .i64 ty)∧Below wr.heap.size wr V)) (by kernel_rfl) (by kernel_rfl) ?_ (fun hHeld=>?_)
      ·exact HH.out
      refine tk 0 ?_
      refine tk 1 ?_
      refine tk 2 ?_
      refine tk 3 ?_
      refine tk 4 ?_
      refine tk 5 ?_
      refine tk 6 ?_
      refine tk 7 ?_
      refine tk 8 ?_
      refine tk 9 ?_
      refine tk 10 ?_
      refine tk 11 ?_
      refine tk 12 ?_
      refine tk 13 ?_
      refine tk 14 ?_
      refine rd1 15 fun K hK=>?_
      go_simp
      go_at_call 181
      with_reducible refine(HC.out.1 _).mono ?_
      rintro e w' ⟨rfl,hb'⟩
      dsimp only
      refine hK.out _ _ (holdM HC.out.2 (by assumption) hb') fun hHeld=>?_
      clear hK K
      try simp only[Act.put,sb0,sc0,sc1]
      refine tk 16 ?_
      refine tk 17 ?_
      refine tk 18 ?_
      refine tk 19 ?_
      refine tk 20 ?_
      refine wpAnyH_done (by kernel_rfl) ?_ _
      refine OnlyN.normal ?_
      obtain⟨-,-,-,-,-,-,-,-,-,-,hbV⟩:=hHeld
      clear HH HC
      have hB6:=Lib.hid (below_on hbel (Nat.le_refl _) hbV)
      have bR6:Boxed w' (w.heap.size+1) 4 (.bool false):=Blk.below (Blk.below HW.out.2.1 hbel (by have:=Blk.lt HW.out.2.1;omega)) hbV (by omega)
      clear hbV
      rcases d1:(M != 1)with _|_
      ·have hall2:Hid (∀k,x<k→k<j+1→pairM xs x k=true):=fun k h1 h2=>by
        rcases Nat.lt_succ_iff_lt_or_eq.1 h2 with h3|h3
        ·exact hall.out k h1 h3
        ·subst h3;rw[hM2.out];simpa using d1
       clear hM2 hall
       gi_wp2_with fail
       go_roundw
       case rel=>exact⟨j+1,by omega,by omega,hall2,by go_num,hB6.out⟩
       case measure=>simp[intOf];omega
      ·have hno:Hid (¬SimpleP xs):=fun h=>by
        have h1:=h x j hxj (by rw[HL.out];exact hltj)
        rw[hM2.out]at h1
        have h2:M=1:=by simpa using h1
        rw[h2]at d1
        cases d1
       have i1:=bR6.cell
       have i2:=bR6.frozen
       clear hM2 hall
       gi_wp2_with fail
       exact⟨((keeps_below hB6.out).trans (KeepsOthers.setCell _ _ _)).from _,⟨rfl,hno.out,bR6.set _⟩,(below_on HW.out.2.2.2.2.2.1 (Nat.le_refl _) hB6.out).setCell (p:=⟨w.heap.size+1,0,none⟩) (by simp) _⟩
   ·have hjn:j=n:=by omega
    subst hjn
    have bI2:Boxed wr (w.heap.size+1+1) 3 (.int .i64 (j:Int)):=Blk.below HW.out.2.2.1 hbel (by have:=Blk.lt HW.out.2.2.1;omega)
    have c3:=bI2.cell
    gi_wp2_with fail
    refine⟨(keeps_below hbel).from _,KeepE.below hbel (by omega) (by omega),⟨Blk.below HW.out.1 hbel (Blk.lt HW.out.1),Blk.below HW.out.2.1 hbel (Blk.lt HW.out.2.1),bI2,Blk.below HW.out.2.2.2.1 hbel (Blk.lt HW.out.2.2.2.1),fun y hy=>(List.mem_append.1 hy).elim (HW.out.2.2.2.2.1 y) (fun e=>by simp at e;subst e;exact hall.out)⟩,below_on HW.out.2.2.2.2.2.1 (Nat.le_refl _) hbel⟩
 case done=>
  rintro D ys W hD hys ⟨⟨bP',bR',bI',bE',hne⟩,hB'⟩ hK
  have hs:simpleB xs=true:=simpleB_true fun i j hij hj=>by
   have hi:i∈ys.map (·.1):=by rw[hys];exact List.mem_range.2 (by have:=HL.out;omega)
   obtain⟨y,hy,rfl⟩:=List.mem_map.1 hi
   exact hne y hy j hij (by have:=HL.out;omega)
  have HS:=Lib.hid hs
  have i2:=bR'.frozen
  have i3:=bR'.cell
  clear hs hne hys
  gi_wp2_with fail
  have hK':=(KeepsOthers.setCell W ⟨w.heap.size+1,0,none⟩ (.bool true)).same D _ hK rfl
  refine⟨by simp,.inl ⟨_,_,rfl,run_takeDeferred hK',?_⟩⟩
  have hc5:=cell_kept (bR'.set (.bool true)).cell (grownBy_putObj' _ D (.deferred none)) (fun r e=>by cases e;exact⟨_,hK',rfl⟩)
  refine⟨.bool true,?_,by rw[HS.out],(hB'.setCell (p:=⟨w.heap.size+1,0,none⟩) (by simp) _).trans (belowK_b (w:=w) (Nat.le_refl _) _ D _ _ (by omega) hK' rfl rfl)⟩
  simp[results,Tryz.results179,go_sem,hc5]
 case stop=>
  rintro D c pre W hD _ ⟨⟨rfl,hno,bR'⟩,hB'⟩ hK
  have hs:simpleB xs=false:=simpleB_false hno
  have i3:=bR'.cell
  gi_wp2
  refine⟨by simp,.inl ⟨_,_,rfl,run_takeDeferred hK,?_⟩⟩
  have hc5:=cell_kept i3 (grownBy_putObj' _ D (.deferred none)) (fun r e=>by cases e;exact⟨_,hK,rfl⟩)
  refine⟨.bool false,?_,by rw[hs],hB'.trans (belowK_b (w:=w) (Nat.le_refl _) W D _ _ (by omega) hK rfl rfl)⟩
  simp[results,Tryz.results179,go_sem,hc5]
end Go.Proofs.YtpkeacnacjnlcaaGreat
namespace Go.Proofs.YtpkeacnacjnlcaaGreat
theorem meet_end {a b c d p:Pt} (h1:p=a∨p=b) (h2:p=c∨p=d):meetR a b c d≠0:=by
 have hcd:onB c d p=true:=by
  rcases h2 with rfl|rfl
  ·exact(onB_self _ _).1
  ·exact(onB_self _ _).2
 have hne:endsL a b c d≠[]:=by
  unfold endsL
  rcases h1 with rfl|rfl
  ·rw[if_pos hcd];simp
  ·rw[if_pos hcd];simp
 have:=(meetR_pos a b c d).2 (.inl hne)
 omega
theorem nextB_false {n i j:Nat} (h1:j≠i+1) (h2:¬(i=0∧j=n-1)):nextB n i j=false:=by
 unfold nextB
 rw[decide_eq_false h1,Bool.false_or,Bool.and_eq_false_iff]
 by_cases h3:i=0
 ·exact .inr (decide_eq_false fun h=>h2 ⟨h3,h⟩)
 ·exact .inl (decide_eq_false h3)
theorem simple_apart {xs:List Pt} (h:SimpleP xs) {i j:Nat} (hij:i<j) (hj:j<xs.length) (hn:nextB xs.length i j=false):meetOf xs i j=0:=by
 have:=h i j hij hj
 unfold pairM at this
 rw[hn]at this
 simpa using this
theorem area_three {xs:List Pt} (h:xs.length=3):areaZ xs=cr ⟨0,0⟩ (ptAt xs 0) (ptAt xs 1)+(cr ⟨0,0⟩ (ptAt xs 1) (ptAt xs 2)+cr ⟨0,0⟩ (ptAt xs 2) (ptAt xs 0)):=by
 unfold areaZ
 rw[h,show List.range 3=[0,1,2] from rfl]
 simp[sumL,areaK,h]
 omega
theorem dup_no {xs:List Pt} (h3:3≤xs.length) (ha:0<areaZ xs) (hs:SimpleP xs) {i j:Nat} (hij:i<j) (hj:j<xs.length) (he:ptAt xs i=ptAt xs j):False:=by
 have hmod:∀k,k<xs.length→k%xs.length=k:=fun k hk=>Nat.mod_eq_of_lt hk
 by_cases h4:xs.length=3
 ·rw[area_three h4]at ha
  have hc:(i=0∧j=1)∨(i=0∧j=2)∨(i=1∧j=2):=by omega
  unfold cr at ha
  rcases hc with ⟨rfl,rfl⟩|⟨rfl,rfl⟩|⟨rfl,rfl⟩
  all_goals
   rw[he]at ha
   simp only at ha
   grind
 ·by_cases h1:j=i+1
  ·subst h1
   by_cases h0:i=0
   ·subst h0
    have:=simple_apart hs (i:=1) (j:=xs.length-1) (by omega) (by omega) (nextB_false (by omega) (by omega))
    unfold meetOf at this
    refine meet_end (p:=ptAt xs 1) (.inl rfl) (.inr ?_) this
    rw[show xs.length-1+1=xs.length by omega,Nat.mod_self]
    exact he.symm
   ·have:=simple_apart hs (i:=i-1) (j:=i+1) (by omega) (by omega) (nextB_false (by omega) (by omega))
    unfold meetOf at this
    refine meet_end (p:=ptAt xs i) (.inr ?_) (.inl he) this
    rw[show i-1+1=i by omega,hmod i (by omega)]
  ·by_cases h0:i=0∧j=xs.length-1
   ·obtain⟨rfl,rfl⟩:=h0
    have:=simple_apart hs (i:=0) (j:=xs.length-2) (by omega) (by omega) (nextB_false (by omega) (by omega))
    unfold meetOf at this
    refine meet_end (p:=ptAt xs 0) (.inl rfl) (.inr ?_) this
    rw[show xs.length-2+1=xs.length-1 by omega,hmod _ (by omega)]
    exact he
   ·have:=simple_apart hs hij hj (nextB_false h1 h0)
    unfold meetOf at this
    exact meet_end (p:=ptAt xs i) (.inl rfl) (.inl he) this
theorem pairs_simple {xs:List Pt} (h:PairsOK xs):SimpleP xs:=fun i j hij hj=>by
 have:=h i j hij hj
 unfold pairOK at this
 rw[Bool.and_eq_true]at this
 exact this.2
theorem pairs_nodup {xs:List Pt} (h:PairsOK xs):xs.Nodup:=by
 refine List.pairwise_iff_getElem.2 fun i j hi hj hij he=>?_
 have:=h i j hij hj
 unfold pairOK at this
 rw[Bool.and_eq_true]at this
 have h1:=of_decide_eq_true this.1
 apply h1
 rw[ptAt_lt hi,ptAt_lt hj,he]
open Classical in
theorem simpleB_of {xs:List Pt} (h:simpleB xs=true):SimpleP xs:=by
 unfold simpleB at h
 exact of_decide_eq_true h
theorem simple_pairs {xs:List Pt} (h3:3≤xs.length) (ha:0<areaZ xs) (hs:SimpleP xs):PairsOK xs:=fun i j hij hj=>by
 have:=hs i j hij hj
 unfold pairM at this
 unfold pairOK
 rw[this,Bool.and_true]
 exact decide_eq_true fun he=>dup_no h3 ha hs hij hj he
/-- What ring.Check answers is what the document says. -/
theorem check_plain {xs:List Pt} {t:Bool} (h:areaE xs=0) (ht:t=true→¬xs.Nodup):(3≤xs.length∧t=false∧0<areaZ xs∧simpleB xs=true→checkI xs=0)∧(¬(3≤xs.length∧t=false∧0<areaZ xs∧simpleB xs=true)→checkI xs=4):=by
 constructor
 ·rintro⟨h1,_,h2,h4⟩
  exact checkI_ok h h1 h2 (simple_pairs h1 h2 (simpleB_of h4))
 ·intro hn
  refine checkI_no h fun⟨h1,h2,h4⟩=>hn ⟨h1,?_,h2,simpleB_true (pairs_simple h4)⟩
  rcases t with _|_
  ·rfl
  ·exact absurd (pairs_nodup h4) (ht rfl)
end Go.Proofs.YtpkeacnacjnlcaaGreat
