/- frame.Num: the walk; slices.SortFunc's contract at points, laid off the shelf (made by lay-plain.mjs and lay_tpl.py). -/
import Derived.Laws.StructEq
import Derived.Lib.SliceRun
import Derived.Shelf.SlLaysF0
import Derived.Shelf.SlSortCmp.InsertionK
import Derived.Shelf.SlSortCmp.WholeK
import Derived.Shelf.SlSortFuncK.SWK
import Derived.Shelf.SlicesE.Kit
import Derived.Shelf.Spec.SlicesGrow
import Derived.Sort.Grow
import Derived.Test.YtpkeacnacjnlcaaGreatRows
import Derived.Test.YtpkeacnacjnlcaaGreatK01
import Derived.Test.YtpkeacnacjnlcaaGreatK02
import Derived.Test.YtpkeacnacjnlcaaGreatK04
import Derived.Test.YtpkeacnacjnlcaaGreatK08
namespace Go.Proofs.YtpkeacnacjnlcaaGreat
open Go.RowKit
def NumPost (xs:List UInt8) (at_ size:Int) (w:World) (e:Ending) (w':World):Prop:=e= .returned (.tuple #[.int .i64 (numR xs at_ size).1,.int .i64 (numR xs at_ size).2])∧w=w'
theorem numR_arg {xs:List UInt8} {at_ size:Int} (h:size<1∨7<size∨at_<0):numR xs at_ size=(0,1):=by unfold numR;rw[if_pos h]
theorem numR_short {xs:List UInt8} {at_ size:Int} (h:¬(size<1∨7<size∨at_<0)) (h2:(xs.length:Int)<at_∨xs.length-at_<size):numR xs at_ size=(0,14):=by unfold numR;rw[if_neg h,if_pos h2]
theorem numR_ok {xs:List UInt8} {k s:Nat} (h1:1≤s) (h2:s≤7) (h3:k+s≤xs.length):numR xs k s=(((numL ((xs.drop k).take s):Nat):Int),0):=by
 unfold numR
 rw[if_neg (by omega),if_neg (by omega)]
 rfl
theorem NumPost.arg {xs:List UInt8} {at_ size:Int} {w:World} (h:size<1∨7<size∨at_<0):NumPost xs at_ size w (.returned (.tuple #[.int .i64 0,.int .i64 1])) w:=⟨by rw[numR_arg h],rfl⟩
theorem NumPost.short {xs:List UInt8} {at_ size:Int} {w:World} (h:¬(size<1∨7<size∨at_<0)) (h2:(xs.length:Int)<at_∨xs.length-at_<size):NumPost xs at_ size w (.returned (.tuple #[.int .i64 0,.int .i64 14])) w:=⟨by rw[numR_short h h2],rfl⟩
/-- One byte more: shifted and joined. -/
theorem byte_more (a x:Nat) (ha:a<281474976710656) (hx:x<256):bits .or .i64 ((a:Int)*256) (x:Int)=((a*256+x:Nat):Int):=by
 have h:=i64_or_nat (a*256) x (by omega) (by omega)
 rw[nat_join 8 (a*256) x (by omega) hx]at h
 rw[←h]
 congr 1
set_option maxHeartbeats 400000 in
theorem num_any (xs:List UInt8) (A:Option Addr) (n cap:Nat) (at_ size:Int) (w:World) (hr:Reads w w.heap.size 1 A n (u8s xs)) (hc:n≤cap) (hn:cap≤9223372036854775807)
 (ha1: -9223372036854775808≤at_) (ha2:at_≤9223372036854775807):
 Calls Tryz.prog 61 #[.slice A n cap,.int .i64 at_,.int .i64 size] w (NumPost xs at_ size w):=by
 have hl:=hr.len8
 by_cases h1:size<1
 ·go_enter Tryz.func61,Tryz.ntmps61
  go_wp2
  go_ret2
  exact NumPost.arg (by omega)
 by_cases h2:7<size
 ·go_enter Tryz.func61,Tryz.ntmps61
  go_wp2
  go_ret2
  exact NumPost.arg (by omega)
 by_cases h3:at_<0
 ·go_enter Tryz.func61,Tryz.ntmps61
  go_wp2
  go_ret2
  exact NumPost.arg (by omega)
 by_cases h4:(n:Int)<at_
 ·go_enter Tryz.func61,Tryz.ntmps61
  go_wp2
  go_ret2
  exact NumPost.short (by omega) (by omega)
 by_cases h5:n-at_<size
 ·go_enter Tryz.func61,Tryz.ntmps61
  go_wp2
  go_ret2
  exact NumPost.short (by omega) (by omega)
 obtain⟨k,rfl⟩:=Int.eq_ofNat_of_zero_le (a:=at_) (by omega)
 obtain⟨s,rfl⟩:=Int.eq_ofNat_of_zero_le (a:=size) (by omega)
 obtain⟨ad,rfl,hb,hcell⟩:=hr.2 (by omega)
 go_enter Tryz.func61,Tryz.ntmps61
 go_wp2
 go_loop [8,40] (fun v i=>∃(j a:Nat),j≤s∧Hid (a=numL (((xs.drop k).take s).take j))∧i= .int .i64 j∧v= .int .i64 (a:Int)) (fun _ i=>s-(intOf i).toNat)
 case atStart=>exact⟨0,0,Nat.zero_le _,rfl,rfl,rfl⟩
 case round=>
  obtain⟨j,a,hj,hA,rfl,rfl⟩:=hrel
  by_cases hlt:j<s
  ·have hsl:((xs.drop k).take s).length=s:=by simp;omega
   have hjl:j<((xs.drop k).take s).length:=by omega
   have hx:((xs.drop k).take s)[j]=xs[k+j]'(by omega):=by simp
   have hcl:w.cell? ((ad.add k).add j)=some (.int .u8 ((xs[k+j]'(by omega)).toNat:Int)):=by
    rw[add_of_add]
    exact hcell _ _ (by simp[u8s,List.getElem?_eq_getElem (show k+j<xs.length by omega)])
   have hts:=numL_take _ _ hjl
   rw[hx]at hts
   have hbnd:a<281474976710656:=by
    have h1:=numL_lt (((xs.drop k).take s).take j)
    rw[←hA.out]at h1
    have h2:(((xs.drop k).take s).take j).length=j:=by rw[List.length_take];omega
    rw[h2]at h1
    have h3:256^j≤256^6:=Nat.pow_le_pow_right (by omega) (by omega)
    omega
   obtain⟨x,hx'⟩:∃x:Nat,x=(xs[k+j]'(by omega)).toNat:=⟨_,rfl⟩
   have hxb:x<256:=by rw[hx'];exact UInt8.toNat_lt _
   rw[←hx']at hcl hts
   clear hx hx'
   have hm:=byte_more a x hbnd hxb
   rw[←hA.out]at hts
   have HT:=Lib.hid hts
   clear hts hcell hr hjl hsl
   go_wp2
   go_round
   case rel=>exact⟨j+1,a*256+x,by omega,HT.out.symm,by go_num,by go_num⟩
   case measure=>simp[intOf];omega
  ·have H:a=numL ((xs.drop k).take s):=by
    have:=hA.out
    rwa [show j=s by omega,List.take_of_length_le (i:=s) (by simp;omega)]at this
   have HH:=Lib.hid H
   clear H
   go_wp2
   go_ret2
   refine⟨?_,rfl⟩
   rw[numR_ok (by omega) (by omega) (by omega),←HH.out]
   rfl
end Go.Proofs.YtpkeacnacjnlcaaGreat
namespace Go.Proofs.YtpkeacnacjnlcaaGreat
open Go.Shelf
def sortPt_ren:Go.Shelf.Ren:=⟨fun|6=>211|15=>85|14=>217|28=>130|29=>131|20=>219|21=>220|22=>221|23=>222|24=>223|25=>224|26=>225|27=>226|46=>227|47=>168|48=>169|49=>228|50=>229|57=>230|n=>n,fun|22=>24|24=>23|25=>156|3=>3|39=>127|0=>0|53=>121|55=>35|4=>4|46=>166|45=>165|50=>170|5=>5|9=>9|66=>198|70=>202|76=>217|77=>218|n=>n,fun|n=>n⟩
theorem sortPt:Go.Proofs.SlLaysF0.n6 Tryz.prog sortPt_ren:={
 mixed:=by kernel_rfl
 f6:=⟨Tryz.f211.name,by decide,Tryz.func211.trans (congrArg some (by kernel_rfl))⟩
 f14:=⟨Tryz.f217.name,by decide,Tryz.func217.trans (congrArg some (by kernel_rfl))⟩
 f15:=Tryz.func85.trans (congrArg some (by kernel_rfl))
 f20:=⟨Tryz.f219.name,by decide,Tryz.func219.trans (congrArg some (by kernel_rfl))⟩
 f21:=⟨Tryz.f220.name,by decide,Tryz.func220.trans (congrArg some (by kernel_rfl))⟩
 f22:=⟨Tryz.f221.name,by decide,Tryz.func221.trans (congrArg some (by kernel_rfl))⟩
 f23:=⟨Tryz.f222.name,by decide,Tryz.func222.trans (congrArg some (by kernel_rfl))⟩
 f24:=⟨Tryz.f223.name,by decide,Tryz.func223.trans (congrArg some (by kernel_rfl))⟩
 f25:=⟨Tryz.f224.name,by decide,Tryz.func224.trans (congrArg some (by kernel_rfl))⟩
 f26:=⟨Tryz.f225.name,by decide,Tryz.func225.trans (congrArg some (by kernel_rfl))⟩
 f27:=⟨Tryz.f226.name,by decide,Tryz.func226.trans (congrArg some (by kernel_rfl))⟩
 f28:=Tryz.func130.trans (congrArg some (by kernel_rfl))
 f29:=Tryz.func131.trans (congrArg some (by kernel_rfl))
 f46:=⟨Tryz.f227.name,by decide,Tryz.func227.trans (congrArg some (by kernel_rfl))⟩
 f47:=Tryz.func168.trans (congrArg some (by kernel_rfl))
 f48:=Tryz.func169.trans (congrArg some (by kernel_rfl))
 f49:=⟨Tryz.f228.name,by decide,Tryz.func228.trans (congrArg some (by kernel_rfl))⟩
 f50:=⟨Tryz.f229.name,by decide,Tryz.func229.trans (congrArg some (by kernel_rfl))⟩
 f57:=⟨Tryz.f230.name,by decide,Tryz.func230.trans (congrArg some (by kernel_rfl))⟩
 t0:=Tryz.underlying0
 a0:=Tryz.isAgg0
 z0:=Tryz.sizeOf0
 v0:=Tryz.zeroValue0
 t3:=Tryz.underlying3
 a3:=Tryz.isAgg3
 z3:=Tryz.sizeOf3
 v3:=Tryz.zeroValue3
 t4:=Tryz.underlying4
 a4:=Tryz.isAgg4
 z4:=Tryz.sizeOf4
 v4:=Tryz.zeroValue4
 t5:=Tryz.underlying5
 a5:=Tryz.isAgg5
 z5:=Tryz.sizeOf5
 v5:=Tryz.zeroValue5
 t9:=Tryz.underlying9
 a9:=Tryz.isAgg9
 z9:=Tryz.sizeOf9
 v9:=Tryz.zeroValue9
 t22:=Tryz.underlying24
 a22:=Tryz.isAgg24
 z22:=Tryz.sizeOf24
 v22:=Tryz.zeroValue24
 t25:=Tryz.underlying156
 a25:=Tryz.isAgg156
 z25:=Tryz.sizeOf156
 v25:=Tryz.zeroValue156
 t39:=Tryz.underlying127
 a39:=Tryz.isAgg127
 z39:=Tryz.sizeOf127
 v39:=Tryz.zeroValue127
 t45:=Tryz.underlying165
 a45:=Tryz.isAgg165
 z45:=Tryz.sizeOf165
 v45:=Tryz.zeroValue165
 t46:=Tryz.underlying166
 a46:=Tryz.isAgg166
 z46:=Tryz.sizeOf166
 v46:=Tryz.zeroValue166
 t50:=Tryz.underlying170
 a50:=Tryz.isAgg170
 z50:=Tryz.sizeOf170
 v50:=Tryz.zeroValue170
 t53:=Tryz.underlying121
 a53:=Tryz.isAgg121
 z53:=Tryz.sizeOf121
 v53:=Tryz.zeroValue121
 t55:=Tryz.underlying35
 a55:=Tryz.isAgg35
 z55:=Tryz.sizeOf35
 v55:=Tryz.zeroValue35
 t66:=Tryz.underlying198
 a66:=Tryz.isAgg198
 z66:=Tryz.sizeOf198
 v66:=Tryz.zeroValue198
 t70:=Tryz.underlying202
 a70:=Tryz.isAgg202
 z70:=Tryz.sizeOf202
 v70:=Tryz.zeroValue202
 t76:=Tryz.underlying217
 a76:=Tryz.isAgg217
 z76:=Tryz.sizeOf217
 v76:=Tryz.zeroValue217
 t77:=Tryz.underlying218
 a77:=Tryz.isAgg218
 z77:=Tryz.sizeOf218
 v77:=Tryz.zeroValue218 }
end Go.Proofs.YtpkeacnacjnlcaaGreat
namespace Go.Proofs.YtpkeacnacjnlcaaGreat
open Go.RowKit Go.Sort
def Grows (w w':World):Prop:=∃q os,w'=grow (w.drewN q) os
theorem Grows.refl (w:World):Grows w w:=⟨0,#[],by rw[grow_empty];rfl⟩
theorem Grows.alloc {w w':World} (h:Grows w w') (o:Obj):Grows w (w'.alloc o):=by
 obtain⟨q,os,rfl⟩:=h
 exact⟨q,os++#[o],by rw[alloc_eq_grow,grow_grow]⟩
theorem Grows.drew {w w':World} (h:Grows w w'):Grows w w'.drew:=by
 obtain⟨q,os,rfl⟩:=h
 exact⟨q+1,os,rfl⟩
set_option maxRecDepth 100000 in
set_option maxHeartbeats 400000 in
theorem order_grows (a b:Pt) (w:World):
 Calls Tryz.prog 113 #[ptV a,ptV b] w fun e w'=>e= .returned (.int .i64 (ordI a b))∧Grows w w':=by
 have hA:=(HasPt.new w a 23).alloc (.cells #[.int .i64 b.x,.int .i64 b.y] 23)
 have hC:=HasPt.new (w.alloc (.cells #[.int .i64 a.x,.int .i64 a.y] 23)) b 23
 rw[World.size_alloc]at hC
 have hB:Grows w ((w.alloc (.cells #[.int .i64 a.x,.int .i64 a.y] 23)).alloc (.cells #[.int .i64 b.x,.int .i64 b.y] 23)):=((Grows.refl _).alloc _).alloc _
 unfold ptV ordI
 go_enter Tryz.func113,Tryz.ntmps113
 go_wp2
 obtain⟨W0,hW0⟩:∃W0,W0=(w.alloc (.cells #[.int .i64 a.x,.int .i64 a.y] 23)).alloc (.cells #[.int .i64 b.x,.int .i64 b.y] 23):=⟨_,rfl⟩
 rw[←hW0]at hA hC hB ⊢
 clear hW0
 refine wp_region_still_tail 10 (by kernel_rfl) (by kernel_rfl) ?_
 change wpStill _ _ W0.drew _ _ _
 obtain⟨hax,hay,haz⟩:=hA
 obtain⟨hbx,hby,hbz⟩:=hC
 simp only[List.take_succ_cons,List.take_zero,List.drop_succ_cons,List.drop_zero]
 repeat (first|still_step|still_call (compare_still _ _ _))
 try refine wpStill_nil ?_
 change wpList _ _ _ _ _ W0.drew
 have hB:=hB.drew
 generalize W0.drew=W1 at *
 clear hax hay haz hbx hby hbz
 go_wp2_with fail
 refine(or_any (cmpI a.x b.x) (cmpI a.y b.y) W1.heap.size 0 _ _ (by simp) (by simp)).mono ?_
 rintro e w' ⟨rfl,rfl⟩
 go_wp2
 go_ret
 exact⟨rfl,hB.alloc _⟩
end Go.Proofs.YtpkeacnacjnlcaaGreat
namespace Go.Proofs.YtpkeacnacjnlcaaGreat
open Go.RowKit Go.Sort Go.Shelf
instance:Inhabited Pt:=⟨⟨0,0⟩⟩
def encPt (p:Pt):List Value:=[.int .i64 p.x,.int .i64 p.y]
theorem ptsV_at {l:List Pt} {j:Nat} {u:Value} (h:(ptsV l)[j]?=some u):∃hk:j/2<l.length,u=(encPt l[j/2])[j%2]!:=by
 have hj:j<l.length*2:=by rw[←ptsV_length];exact(List.getElem?_eq_some_iff.1 h).1
 have hk:j/2<l.length:=by omega
 refine⟨hk,?_⟩
 have hg:=ptsV_get l (j/2) hk
 have hm:j%2=0∨j%2=1:=by omega
 rcases hm with hm|hm
 ·rw[show j/2*2=j by omega,h]at hg
  rw[hm]
  exact Option.some.inj hg.1
 ·rw[show j/2*2+1=j by omega,h]at hg
  rw[hm]
  exact Option.some.inj hg.2
theorem holdsK_own {w:World} {base:Nat} {e:TypeId} {g n cap:Nat} {d:List Pt} (h:w.ownsRow base e 2 (.slice (some ⟨g,0,none⟩) n cap) n (ptsV d)):HoldsK encPt 2 w g 0 d.toArray:=fun j hj=>by
 rw[size_flatK]at hj
 have hl:d.length*2=n*2:=by rw[←ptsV_length];exact h.1
 have hj':j<n*2:=by simp at hj;omega
 refine⟨?_,?_⟩
 ·rw[Nat.zero_add,h.cellAt j hj',get_flatK _ _ _ _ hj]
  have hl2:j<(ptsV d).length:=by rw[h.1];exact hj'
  obtain⟨hk,hu⟩:=ptsV_at (List.getElem?_eq_getElem hl2)
  rw[List.getElem?_eq_getElem hl2,hu]
  simp[hk]
 ·rw[Nat.zero_add]
  exact h.frozenAt j
theorem reads_holdsK {w:World} {g:Nat} {d:List Pt} (hg:g<w.heap.size) (h:HoldsK encPt 2 w g 0 d.toArray):Reads w w.heap.size 2 (some ⟨g,0,none⟩) d.length (ptsV d):=by
 refine⟨ptsV_length d,fun _=>⟨_,rfl,hg,fun j u hu=>?_⟩⟩
 obtain⟨hk,rfl⟩:=ptsV_at hu
 rw[add_row]
 have:=(h.cell (i:=j/2) (c:=j%2) (by simpa using hk) (by omega)).1
 rw[show 0+j/2*2+j%2=j by omega]at this
 rw[this]
 simp[hk]
theorem grownBy_sortK {w:World} {g n:Nat} {os:Array Obj} (d:Array Pt):w.grownBy (sortWorldK encPt 2 w g 0 n d os) (some g):=by
 refine⟨rfl,rfl,rfl,by simp[sortWorldK,putRowK,grow,Sort.ahead],fun k hk hne=>?_⟩
 unfold sortWorldK
 rw[heap_grow_old _ _ (by simpa[putRowK,Sort.ahead]using hk)]
 have:g≠k:=fun e=>hne (by rw[e])
 simp[putRowK,putRow,mapBlock,Sort.ahead,Array.getElem?_modify,this]
theorem order_swo:SWO (ltOf ordI) where
 irrefl x:=by
  unfold ltOf ordI orI
  rcases cmpI_cases x.x x.x with ⟨h,e⟩|⟨h,e⟩|⟨h,e⟩<;>rcases cmpI_cases x.y x.y with ⟨h',e'⟩|⟨h',e'⟩|⟨h',e'⟩<;>rw[e,e']<;>(first|omega|rfl)
 trans x y z h1 h2:=by
  unfold ltOf ordI orI at *
  rw[decide_eq_true_iff]at *
  rcases cmpI_cases x.x y.x with ⟨a,e⟩|⟨a,e⟩|⟨a,e⟩<;>rcases cmpI_cases x.y y.y with ⟨b,f⟩|⟨b,f⟩|⟨b,f⟩<;>
  rcases cmpI_cases y.x z.x with ⟨c,g⟩|⟨c,g⟩|⟨c,g⟩<;>rcases cmpI_cases y.y z.y with ⟨d,i⟩|⟨d,i⟩|⟨d,i⟩<;>
  rcases cmpI_cases x.x z.x with ⟨j,k⟩|⟨j,k⟩|⟨j,k⟩<;>rcases cmpI_cases x.y z.y with ⟨m,o⟩|⟨m,o⟩|⟨m,o⟩<;>
  rw[e,f]at h1<;>rw[g,i]at h2<;>rw[k,o]<;>(first|omega|(simp at h1;done)|(simp at h2;done)|simp)
 ntrans x y z h1 h2:=by
  unfold ltOf ordI orI at *
  rw[decide_eq_false_iff_not]at *
  rcases cmpI_cases x.x y.x with ⟨a,e⟩|⟨a,e⟩|⟨a,e⟩<;>rcases cmpI_cases x.y y.y with ⟨b,f⟩|⟨b,f⟩|⟨b,f⟩<;>
  rcases cmpI_cases y.x z.x with ⟨c,g⟩|⟨c,g⟩|⟨c,g⟩<;>rcases cmpI_cases y.y z.y with ⟨d,i⟩|⟨d,i⟩|⟨d,i⟩<;>
  rcases cmpI_cases x.x z.x with ⟨j,k⟩|⟨j,k⟩|⟨j,k⟩<;>rcases cmpI_cases x.y z.y with ⟨m,o⟩|⟨m,o⟩|⟨m,o⟩<;>
  rw[e,f]at h1<;>rw[g,i]at h2<;>rw[k,o]<;>(first|omega|(simp at h1;done)|(simp at h2;done)|simp)
theorem cmp_lays (g size:Nat) (w:World):CmpLays Tryz.prog 113 #[] encPt 2 ordI g 0 size w:=fun _ _ _ _ x y=>order_grows x y _
end Go.Proofs.YtpkeacnacjnlcaaGreat
namespace Go.Proofs.YtpkeacnacjnlcaaGreat
open Go.RowKit Go.Shelf Go.Sort
theorem perm_list {d:List Pt} {d':Array Pt} (h:PermIn 0 d.toArray.size d.toArray d'):d'.toList.Perm d∧d'.size=d.length:=by
 obtain⟨h1,-,h2⟩:=h
 refine⟨?_,by simpa using h1⟩
 rw[←h1,Array.extract_size,h1,Array.extract_size]at h2
 simpa using h2
theorem sortFunc_any (d:List Pt) (g n cap base:Nat) (w:World) (hown:w.ownsRow base 23 2 (.slice (some ⟨g,0,none⟩) n cap) n (ptsV d)) (hn:n≤128):
 Calls Tryz.prog 211 #[.slice (some ⟨g,0,none⟩) n cap,.func (.func 113) #[] #[]] w fun e w'=>e= .returned (.tuple #[])∧∃d':List Pt,d'.Perm d∧Reads w' w'.heap.size 2 (some ⟨g,0,none⟩) n (ptsV d')∧w.grownBy w' (some g):=by
 have hl:d.length=n:=by have h:=hown.1;rw[ptsV_length]at h;omega
 have hg:g<w.heap.size:=(hown.lt g rfl).2
 have hH:=holdsK_own hown
 have eg:∀args w,(callFunc 113 args).run Tryz.prog w= .ok (.enter 113 args) w:=enters_of Tryz.func113 (by kernel_rfl) rfl
 have hcon:=AnyQ.slices_SortFunc sortPt 2 Tryz.isAgg23 Tryz.sizeOf23 encPt (fun _=>rfl) (fun x v hv=>by simp[encPt]at hv;rcases hv with rfl|rfl<;>rfl) ordI order_swo 113 #[] g 0 cap d.toArray w eg (cmp_lays g d.toArray.size w) hH hg (by simp;omega)
 change Calls Tryz.prog 211 _ _ _ at hcon
 rw[List.size_toArray,hl]at hcon
 refine hcon.mono ?_
 rintro e w' ⟨he,d',m,os,hp,-,rfl⟩
 rw[←hl,←List.size_toArray]at hp
 obtain⟨h1,h2⟩:=perm_list hp
 have hSW:SWK encPt 2 w g 0 d' (sortWorldK encPt 2 w g 0 m d' os):=⟨m,os,rfl⟩
 have hH':=hSW.holds hg hH (by simpa using h2)
 have hR:=reads_holdsK (d:=d'.toList) (hSW.lt hg) (by simpa using hH')
 refine⟨he,d'.toList,h1,?_,grownBy_sortK d'⟩
 rw[show n=d'.toList.length by simp;omega]
 exact hR
theorem collect_any (xs:List Pt) (A:Option Addr) (n cap B Bs:Nat) (w:World) (hn:n≤128) (hB:B≤w.heap.size) (hs:Bs<w.heap.size) (hc:w.cell? ⟨Bs,0,none⟩=some (.slice A n cap)) (hr:Reads w B 2 A n (ptsV xs)):
 Calls Tryz.prog 210 #[.func (.func 212) #[] #[.pointer (some ⟨Bs,0,none⟩)]] w fun e w'=>∃v,e= .returned v∧w'.ownsRow w.heap.size 23 2 v n (ptsV xs)∧Below w.heap.size w w':=by
 have HK:=Lib.hid (appendSeq_any xs A n cap B Bs w hn hB hs hc hr)
 clear hc hr
 go_enter Tryz.func210,Tryz.ntmps210
 go_wp2_with fail
 refine HK.out.mono ?_
 rintro e w' ⟨v,rfl,ho,hb⟩
 have HO:=Lib.hid ho
 clear ho
 go_wp2_with fail
 go_ret
 exact⟨_,rfl,HO.out,hb⟩
theorem sortedFunc_any (xs:List Pt) (A:Option Addr) (n cap B Bs:Nat) (w:World) (h1:1≤n) (hn:n≤128) (hB:B≤w.heap.size) (hs:Bs<w.heap.size) (hc:w.cell? ⟨Bs,0,none⟩=some (.slice A n cap)) (hr:Reads w B 2 A n (ptsV xs)):
 Calls Tryz.prog 195 #[.func (.func 212) #[] #[.pointer (some ⟨Bs,0,none⟩)],.func (.func 113) #[] #[]] w fun e w'=>∃ad c,e= .returned (.slice (some ad) n c)∧∃d:List Pt,d.Perm xs∧Reads w' w'.heap.size 2 (some ad) n (ptsV d)∧Below w.heap.size w w':=by
 have HK:=Lib.hid (collect_any xs A n cap B Bs w hn hB hs hc hr)
 clear hc hr
 go_enter Tryz.func195,Tryz.ntmps195
 go_wp2_with fail
 refine HK.out.mono ?_
 rintro e w1 ⟨v,rfl,ho,hb⟩
 obtain⟨g,c,rfl⟩:∃g c,v= .slice (some ⟨g,0,none⟩) n c:=by
  rcases ho.2 with ⟨_,h0⟩|⟨g,c,_,rfl,_⟩
  ·omega
  ·exact⟨g,c,rfl⟩
 have hbase:=(ho.lt g rfl).1
 have HS:=Lib.hid (sortFunc_any xs g n c w.heap.size w1 ho hn)
 clear ho HK
 go_wp2_with fail
 refine HS.out.mono ?_
 rintro e w2 ⟨rfl,d,hp,hrd,hgr⟩
 have HD:=Lib.hid (And.intro hp (And.intro hrd (hb.grown hgr hb.size (fun k e=>by cases e;exact hbase))))
 clear hp hrd hgr HS hb
 go_wp2_with fail
 go_ret
 exact⟨_,_,rfl,d,HD.out⟩
end Go.Proofs.YtpkeacnacjnlcaaGreat
namespace Go.Proofs.YtpkeacnacjnlcaaGreat
open Go.RowKit
theorem nodup_of {xs d:List Pt} (hp:d.Perm xs) {k:Nat} (h1:1≤k) (hk:k<d.length) (h:ptAt d k=ptAt d (k-1)):¬xs.Nodup:=fun hn=>by
 have hd:=(hp.nodup_iff).2 hn
 rw[ptAt_lt hk,ptAt_lt (by omega)]at h
 have:=List.pairwise_iff_getElem.1 hd (k-1) k (by omega) hk (by omega)
 exact this h.symm
set_option maxRecDepth 100000 in
set_option maxHeartbeats 1600000 in
theorem twice_any (xs:List Pt) (A:Option Addr) (n cap:Nat) (w:World) (hr:Reads w w.heap.size 2 A n (ptsV xs)) (h1:1≤n) (hn:n≤128):
 Calls Tryz.prog 177 #[.slice A n cap] w fun e w'=>∃t,e= .returned (.bool t)∧(t=true→¬xs.Nodup)∧Below w.heap.size w w':=by
 have hb0:=(Below.refl w.heap.size w).alloc (Nat.le_refl _) (.cells #[.slice A n cap] 25)
 have HK:=Lib.hid (sortedFunc_any xs A n cap w.heap.size w.heap.size (w.alloc (.cells #[.slice A n cap] 25)) h1 hn hb0.size (by simp) (by simp) (hr.below hb0))
 have HB:=Lib.hid hb0
 clear hr hb0
 go_enter Tryz.func177,Tryz.ntmps177
 go_wp2_with (go_at_call 196;refine(values_any A n cap _).mono ?_;rintro e w1 ⟨rfl,rfl⟩)
 refine HK.out.mono ?_
 rintro e w1 ⟨ad,c,rfl,d,hp,hrd,hb1⟩
 have hbb:=below_on HB.out (Nat.le_refl _) hb1
 have HP:=Lib.hid (And.intro hp hrd)
 clear hp hrd hb1 HK HB
 go_wp2_with fail
 go_loopw [4] (fun i wr=>∃k:Nat,1≤k∧k≤n∧i= .int .i64 (k:Int)∧∃q,wr=w1.drewN q) (fun i _=>n-(intOf i).toNat)
 case atStart=>exact⟨1,Nat.le_refl _,h1,rfl,0,rfl⟩
 case round=>
  obtain⟨k,hk1,hk,rfl,q,rfl⟩:=hrel
  by_cases hlt:k<n
  ·have hl:d.length=n:=HP.out.2.lenPt
   obtain⟨hbd,p1,p2⟩:=HP.out.2.ptA hlt
   obtain⟨-,q1,q2⟩:=HP.out.2.ptA (k:=k-1) (by omega)
   have hw0:IntKind.i64.wrap ((k:Int)-1)=((k-1:Nat):Int):=by rw[IntKind.wrap_i64];omega
   have hw1:IntKind.i64.wrap ((k:Int)+1)=(k:Int)+1:=by rw[IntKind.wrap_i64];omega
   have hlt':(k:Int)<(n:Int):=by omega
   have hlt0:((k-1:Nat):Int)<(n:Int):=by omega
   have hnd:ptAt d k=ptAt d (k-1)→¬xs.Nodup:=nodup_of HP.out.1 hk1 (by omega)
   obtain⟨j,hj⟩:∃j,j=k-1:=⟨_,rfl⟩
   rw[←hj]at q1 q2 hw0 hlt0 hnd
   have hnd2:(ptAt d k).x=(ptAt d j).x→(ptAt d k).y=(ptAt d j).y→¬xs.Nodup:=fun e1 e2=>hnd (by
    rcases h1:ptAt d k with ⟨a,b⟩
    rcases h2:ptAt d j with ⟨a',b'⟩
    rw[h1,h2]at e1 e2
    simp only at e1 e2
    rw[e1,e2])
   clear hnd hj
   generalize (ptAt d k).x=px at *
   generalize (ptAt d k).y=py at *
   generalize (ptAt d j).x=qx at *
   generalize (ptAt d j).y=qy at *
   have HN:=Lib.hid hnd2
   have HJ:=Lib.hid hbb
   clear hnd2 hl hbd hbb
   replace p1:(w1.drewN q).cell? (ad.add (k*2))=some (.int .i64 px):=p1
   replace p2:(w1.drewN q).cell? ⟨(ad.add (k*2)).block,(ad.add (k*2)).off+1,none⟩=some (.int .i64 py):=p2
   replace q1:(w1.drewN q).cell? (ad.add (j*2))=some (.int .i64 qx):=q1
   replace q2:(w1.drewN q).cell? ⟨(ad.add (j*2)).block,(ad.add (j*2)).off+1,none⟩=some (.int .i64 qy):=q2
   generalize hV:w1.drewN q=V at *
   by_cases hxe:px=qx∧py=qy
   ·obtain⟨rfl,rfl⟩:=hxe
    go_wp2_with fail
    go_quiet (fail)
    go_wp2_with fail
    go_ret
    refine⟨true,rfl,fun _=>by have:=HN.out;simpa using this,below_drewN ?_ _⟩
    rw[←hV]
    exact below_drewN HJ.out _
   ·have hne:((px==qx)=true∧(py==qy)=false)∨(px==qx)=false:=by
     by_cases h1:px=qx
     ·by_cases h2:py=qy
      ·exact absurd ⟨h1,h2⟩ hxe
      ·exact .inl ⟨by simpa using h1,by simpa using h2⟩
     ·exact .inr (by simpa using h1)
    clear hxe
    rcases hne with ⟨e1,e2⟩|e1
    all_goals
     go_wp2_with fail
     go_quiet (fail)
     go_wp2_with fail
     go_roundw
     case rel=>exact⟨k+1,by omega,by omega,by go_num,_,by rw[←hV,World.drewN_drewN]⟩
     case measure=>simp[intOf];omega
  ·go_wp2_with fail
   go_ret
   exact⟨false,rfl,fun h=>(by cases h),below_drewN hbb _⟩
end Go.Proofs.YtpkeacnacjnlcaaGreat
namespace Go.Proofs.YtpkeacnacjnlcaaGreat
open Go.RowKit Go.Shelf Go.Lib
def growPt_ren:Go.Shelf.Ren:=⟨fun|4=>114|n=>n,fun|0=>0|3=>3|4=>4|9=>9|20=>20|22=>25|25=>23|n=>n,fun|n=>n⟩
theorem growPt:Go.Proofs.Lays8.n4 Tryz.prog growPt_ren:={
 mixed:=by kernel_rfl
 f4:=⟨Tryz.f114.name,by decide,Tryz.func114.trans (congrArg some (by kernel_rfl))⟩
 t0:=Tryz.underlying0
 a0:=Tryz.isAgg0
 z0:=Tryz.sizeOf0
 v0:=Tryz.zeroValue0
 t3:=Tryz.underlying3
 a3:=Tryz.isAgg3
 z3:=Tryz.sizeOf3
 v3:=Tryz.zeroValue3
 t4:=Tryz.underlying4
 a4:=Tryz.isAgg4
 z4:=Tryz.sizeOf4
 v4:=Tryz.zeroValue4
 t9:=Tryz.underlying9
 a9:=Tryz.isAgg9
 z9:=Tryz.sizeOf9
 v9:=Tryz.zeroValue9
 t20:=Tryz.underlying20
 a20:=Tryz.isAgg20
 z20:=Tryz.sizeOf20
 v20:=Tryz.zeroValue20
 t22:=Tryz.underlying25
 a22:=Tryz.isAgg25
 z22:=Tryz.sizeOf25
 v22:=Tryz.zeroValue25
}
theorem eqPt_at:EqlAt Tryz.prog 23 (fun p=> .agg (encPt p).toArray) (fun p q=>decide (p=q)):=by
 refine⟨fun x y w=>?_,GuardAt.agg _ (by kernel_rfl)⟩
 have u3:=Tryz.underlying3
 have a3:=Tryz.isAgg3
 have z3:=Tryz.sizeOf3
 have hS:Tryz.prog.underlying 23=some (.struct (Tryz.prog.fieldsOf 23)):=by kernel_rfl
 have hp:Tryz.prog.stoodInHeld 23=false:=by kernel_rfl
 obtain⟨x1,x2⟩:=x
 obtain⟨y1,y2⟩:=y
 simp only[encPt]
 rw[run_eql_struct,show(10000:Nat)=9999+1 from rfl,run_equalIn_agg w 9999 23 _ _ hS hp]
 simp only[Program.fieldsOf,Tryz.underlying23]
 go_simp
 by_cases h1:x1=y1<;>by_cases h2:x2=y2<;>simp[h1,h2]
theorem eqPt_runs (p q:Pt) (op:BinOp) (a b:Operand) (w:World):Sem.run Tryz.prog (binOp .eql 23 (.agg #[.int .i64 p.x,.int .i64 p.y]) (.agg #[.int .i64 q.x,.int .i64 q.y])) w= .ok (.bool (decide (p=q))) w∧Sem.run Tryz.prog (eqGuard op 23 a b (.agg #[.int .i64 p.x,.int .i64 p.y]) (.agg #[.int .i64 q.x,.int .i64 q.y])) w= .ok () w:=
 ⟨eqPt_at.1 p q w,eqPt_at.2 op a b p q w⟩
set_option maxHeartbeats 1600000 in
theorem indexPt_any (xs:List Pt) (A:Option Addr) (n cap k:Nat) (w:World) (hr:Reads w w.heap.size 2 A n (ptsV xs)) (hk:k<n) (hf:∀j,j<k→ptAt xs j≠ptAt xs k) (hn:n≤8796093022208):
 Calls Tryz.prog 111 #[.slice A n cap,ptV (ptAt xs k)] w fun e w'=>e= .returned (.int .i64 (k:Int))∧Below w.heap.size w w':=by
 have HF:=Lib.hid hf
 clear hf
 obtain⟨Q,hQ⟩:∃Q,Q=ptAt xs k:=⟨_,rfl⟩
 rw[←hQ]
 have HQ:=Lib.hid hQ
 clear hQ
 have hB0:=(Below.refl w.heap.size w).alloc (Nat.le_refl _) (.cells #[.int .i64 Q.x,.int .i64 Q.y] 23)
 have hP0:PtK (w.alloc (.cells #[.int .i64 Q.x,.int .i64 Q.y] 23)) w.heap.size Q:=PtK.new w Q
 have H0:=Lib.hid (And.intro hB0 hP0)
 clear hB0 hP0
 unfold ptV
 go_enter Tryz.func111,Tryz.ntmps111
 go_wp2
 go_loopw [8] (fun i wr=>∃m:Nat,m≤k∧i= .int .i64 (m:Int)∧Below w.heap.size w wr∧PtK wr w.heap.size Q) (fun i _=>n-(intOf i).toNat)
 case atStart=>exact⟨0,Nat.zero_le _,rfl,H0.out⟩
 case round=>
  clear H0
  obtain⟨m,hm,rfl,hbel,hK⟩:=hrel
  have hmn:m<n:=by omega
  have hmn':(m:Int)<(n:Int):=by omega
  have hw1:IntKind.i64.wrap ((m:Int)+1)=(m:Int)+1:=by rw[IntKind.wrap_i64];omega
  obtain⟨ad,rfl,-,-,-,-⟩:=hr.pt hmn
  obtain⟨-,p1,p2⟩:=(hr.below hbel).ptA hmn
  obtain⟨q1,q2,-,-,-⟩:=hK.facts
  have hmk:m=k→decide (Q=ptAt xs m)=true:=fun h=>by rw[h,HQ.out];simp
  have hnk:m≠k→decide (Q=ptAt xs m)=false:=fun h=>by
   have:=HF.out m (by omega)
   rw[HQ.out]
   simpa using fun e=>this e.symm
  have he:=fun W=>(eqPt_runs Q (ptAt xs m) .eql (.tmp 0) (.tmp 0) W).1
  have hg:=fun op a b W=>(eqPt_runs Q (ptAt xs m) op a b W).2
  generalize ptAt xs m=P at *
  have HB:=Lib.hid (And.intro hbel hK)
  clear hbel hK hr
  by_cases hmk':m=k
  ·rw[hmk hmk']at he
   have HM:=Lib.hid hmk'
   clear hmk hnk hmk'
   go_wp2
   go_quiet (fail)
   go_wp2
   go_ret
   exact⟨by rw[HM.out];rfl,below_drewN HB.out.1 _⟩
  ·rw[hnk hmk']at he
   have HM:Hid (m+1≤k):=by show _≤_;omega
   clear hmk hnk hmk'
   go_wp2
   go_quiet (fail)
   go_wp2
   go_roundw
   case rel=>exact⟨m+1,HM.out,by go_num,below_drewN HB.out.1 _,HB.out.2⟩
   case measure=>simp[intOf];omega
theorem newPt_any (n:Nat) (w:World) (h1:1≤n) (hn:n≤8796093022208):
 Calls Tryz.prog 114 #[.slice none 0 0,.int .i64 (n:Int)] w fun e w'=>∃A c,e= .returned (.slice A 0 c)∧w'.ownsRow w.heap.size 23 2 (.slice A 0 c) 0 []∧Below w.heap.size w w':=by
 obtain⟨i0,hi0,hz0,hz1,hz2⟩:=info_parts info_pt
 have hcon:=Any8.slices_Grow_grow growPt i0 _ hi0 hz0 (by omega) none 0 0 n [] w (Nat.le_refl _) (by omega) (by rw[hz2];omega) (by omega) (by simp) (fun _=>rfl) (fun a h=>by cases h)
 change Calls Tryz.prog 114 _ _ _ at hcon
 refine hcon.mono ?_
 rintro e w' ⟨rfl,rfl⟩
 have hG:=grownCap_ge w (0+n) 0 (growPt_ren.t 25)
 have hG2:=grownCap_le_maxLen w (0+n) 0 (growPt_ren.t 25) (by unfold maxLen;omega)
 generalize grownCap w (0+n) 0 (growPt_ren.t 25)=G at *
 refine⟨_,_,rfl,World.ownsRow_made w.drew _ _ (Nat.le_refl _) hG2 ?_,((Below.refl _ _).drew).alloc (Nat.le_refl _) _⟩
 simp[Builtin.zeroCells,Value.cells]
 omega
set_option maxRecDepth 100000 in
set_option maxHeartbeats 1600000 in
theorem concatPt_any (xs ys:List Pt) (A B:Option Addr) (n m ca cb g c:Nat) (w:World) (hr:Reads w w.heap.size 2 A n (ptsV xs)) (hs:Reads w w.heap.size 2 B m (ptsV ys)) (hg:g<w.heap.size) (c1:w.cell? ⟨g,0,none⟩=some (.slice A n ca)) (c2:w.cell? ⟨g,1,none⟩=some (.slice B m cb)) (h1:1≤n+m) (hn:n+m≤1048576):
 Calls Tryz.prog 68 #[.slice (some ⟨g,0,none⟩) 2 c] w fun e w'=>∃A' c',e= .returned (.slice A' (n+m) c')∧w'.ownsRow w.heap.size 23 2 (.slice A' (n+m) c') (n+m) (ptsV (xs++ys))∧Below w.heap.size w w':=by
 obtain⟨i0,hi0,hz0,hz1,hz2⟩:=info_parts info_pt
 have HR:=Lib.hid (And.intro hr hs)
 have HL:=Lib.hid (And.intro hr.lenPt hs.lenPt)
 have hx1:IntKind.i64.wrap (0+(n:Int))=(n:Int):=IntWalk.i64_in _ (by omega) |>.trans (by omega)
 have hx2:IntKind.i64.wrap ((n:Int)+(m:Int))=(n:Int)+(m:Int):=IntWalk.i64_in _ (by omega)
 have hx3:¬(n:Int)<0:=by omega
 have hx4:¬(n:Int)+(m:Int)<0:=by omega
 clear hr hs
 go_enter Tryz.func68,Tryz.ntmps68
 go_wp2_with fail
 go_loopw [3,11] (fun s i wr=>∃k:Nat,k≤2∧i= .int .i64 (k:Int)∧(k=0→s= .int .i64 0)∧(k=1→s= .int .i64 (n:Int))∧(k=2→s= .int .i64 ((n:Int)+(m:Int)))∧wr=w) (fun _ i _=>2-(intOf i).toNat)
 case atStart=>exact⟨0,by omega,rfl,fun _=>rfl,fun h=>absurd h (by omega),fun h=>absurd h (by omega),rfl⟩
 case round=>
  obtain⟨k,hk,rfl,k0,k1,k2,rfl⟩:=hrel
  have h3:k=0∨k=1∨k=2:=by omega
  rcases h3 with rfl|rfl|rfl
  ·obtain rfl:=k0 rfl
   clear k0 k1 k2
   go_wp2_with fail
   go_roundw
   case rel=>exact⟨1,by omega,rfl,fun h=>absurd h (by omega),fun _=>by go_num,fun h=>absurd h (by omega),by first|rfl|trivial⟩
   case measure=>simp[intOf]
  ·obtain rfl:=k1 rfl
   clear k0 k1 k2
   go_wp2_with fail
   go_roundw
   case rel=>exact⟨2,by omega,rfl,fun h=>absurd h (by omega),fun h=>absurd h (by omega),fun _=>by go_num,by first|rfl|trivial⟩
   case measure=>simp[intOf]
  ·obtain rfl:=k2 rfl
   clear k0 k1 k2
   obtain⟨W0,hW0⟩:∃W:World,W=wr:=⟨_,rfl⟩
   subst hW0
   have HK:=newPt_any (n+m) W0 h1 (by omega)
   rw[show ((n+m:Nat):Int)=(n:Int)+(m:Int) by omega]at HK
   have HK:=Lib.hid HK
   go_wp2_with fail
   refine HK.out.mono ?_
   rintro e w1 ⟨A1,c1',rfl,hown,hbel⟩
   have H1:=Lib.hid (And.intro hown hbel)
   clear hown hbel HK
   go_wp2_with fail
   obtain⟨wo,hwo⟩:∃wo:World,wo=w1:=⟨_,rfl⟩
   rw[←hwo]at H1
   rw[←hwo]
   clear hwo
   go_loopw [6,27] (fun s i wx=>∃k:Nat,k≤2∧i= .int .i64 (k:Int)∧(∃A' c',s= .slice A' (if k=0 then 0 else if k=1 then n else n+m) c'∧wx.ownsRow W0.heap.size 23 2 (.slice A' (if k=0 then 0 else if k=1 then n else n+m) c') (if k=0 then 0 else if k=1 then n else n+m) (ptsV (if k=0 then[]else if k=1 then xs else xs++ys)))∧Below W0.heap.size W0 wx) (fun _ i _=>2-(intOf i).toNat)
   case atStart=>exact⟨0,by omega,rfl,⟨A1,c1',rfl,H1.out.1⟩,H1.out.2⟩
   case round=>
    clear H1
    obtain⟨k,hk,rfl,⟨A',c',rfl,hown⟩,hbel⟩:=hrel
    have h3:k=0∨k=1∨k=2:=by omega
    rcases h3 with rfl|rfl|rfl
    ·have hown':wr.ownsRow W0.heap.size 23 2 (.slice A' 0 c') 0 []:=hown
     have cc:=(hbel.cell (p:=⟨g,0,none⟩) hg).trans c1
     have hrd:=HR.out.1.below hbel
     clear hown
     go_wp2_with (at_builtin;refine wpList_append_any _ rfl (.tmp 31) (.tmp 32) _ rfl W0.heap.size 23 i0 _ 2 16 Tryz.underlying25 hi0 hz0 hz1 hz2 rfl (by omega) (.slice A' 0 c') 0 _ rfl hown' W0.heap.size A n ca _ rfl hrd (ptsV_one _) (by simp only[maxLen];omega) (by omega) hbel.size ?_
                  intro v6 w6 hown6 hg6 hat6)
     have hB6:Below W0.heap.size W0 w6:=hbel.grown hg6 hbel.size (fun q hq=>(hown'.lt q hq).1)
     rw[Nat.zero_add,List.nil_append]at hown6
     obtain⟨A6,c6,rfl⟩:=own_form hown6
     have H6:=Lib.hid (And.intro hown6 hB6)
     clear hown6 hB6 hg6 hat6 hown' hbel hrd
     go_wp2_with fail
     go_roundw
     case rel=>exact⟨1,by omega,rfl,⟨A6,c6,rfl,H6.out.1⟩,H6.out.2⟩
     case measure=>simp[intOf]
    ·have hown':wr.ownsRow W0.heap.size 23 2 (.slice A' n c') n (ptsV xs):=hown
     have cc:=(hbel.cell (p:=⟨g,1,none⟩) hg).trans c2
     have hrd:=HR.out.2.below hbel
     clear hown
     go_wp2_with (at_builtin;refine wpList_append_any _ rfl (.tmp 31) (.tmp 32) _ rfl W0.heap.size 23 i0 _ 2 16 Tryz.underlying25 hi0 hz0 hz1 hz2 rfl (by omega) (.slice A' n c') n _ rfl hown' W0.heap.size B m cb _ rfl hrd (ptsV_one _) (by simp only[maxLen];omega) (by omega) hbel.size ?_
                  intro v6 w6 hown6 hg6 hat6)
     have hB6:Below W0.heap.size W0 w6:=hbel.grown hg6 hbel.size (fun q hq=>(hown'.lt q hq).1)
     rw[←ptsV_append]at hown6
     obtain⟨A6,c6,rfl⟩:=own_form hown6
     have H6:=Lib.hid (And.intro hown6 hB6)
     clear hown6 hB6 hg6 hat6 hown' hbel hrd
     go_wp2_with fail
     go_roundw
     case rel=>exact⟨2,by omega,rfl,⟨A6,c6,rfl,H6.out.1⟩,H6.out.2⟩
     case measure=>simp[intOf]
    ·have hown':wr.ownsRow W0.heap.size 23 2 (.slice A' (n+m) c') (n+m) (ptsV (xs++ys)):=hown
     have H7:=Lib.hid (And.intro hown' hbel)
     clear hown hown' hbel
     go_wp2_with fail
     go_ret
     exact⟨A',c',rfl,H7.out⟩
end Go.Proofs.YtpkeacnacjnlcaaGreat
