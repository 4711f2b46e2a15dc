/- Words for regions that draw their order, with calls, an alloc and its store: what is held of four cells; the block that the region makes; slices.Clone at []byte: the walk; merestoneref02.Meet: the walk; string(b) of a slice of bytes that reads as a list; grid.Span: the walk. -/
import Derived.Lib.SliceRun
import Derived.BigRegion
import Derived.Deep.DeepCutAuto
import Derived.Laws.BytesString
import Derived.Laws.Cells
import Derived.Deep.RegionWith
import Derived.Deep.RegionHeld3
import Derived.Test.YtpkeacnacjnlcaaGreatK01
import Derived.Test.YtpkeacnacjnlcaaGreatK02
import Derived.Test.YtpkeacnacjnlcaaGreatK03
import Derived.Test.YtpkeacnacjnlcaaGreatK05
import Derived.Test.YtpkeacnacjnlcaaGreatK06
namespace Go.Proofs.YtpkeacnacjnlcaaGreat
open Go.RowKit
/-- Four cells that lie below W's end, as they are in V; and V is W but for new blocks. -/
abbrev HoldC (W V:World) (p q r s:Addr) (vp vq vr vs:Value):Prop:=V.cell? p=some vp∧V.cell? q=some vq∧V.cell? r=some vr∧V.cell? s=some vs∧Below W.heap.size W V
theorem heldC {W V V':World} {p q r s:Addr} {vp vq vr vs:Value} (hp:p.block<W.heap.size∧q.block<W.heap.size∧r.block<W.heap.size∧s.block<W.heap.size) (h:HoldC W V p q r s vp vq vr vs) (hb:Below V.heap.size V V'):HoldC W V' p q r s vp vq vr vs:=by
 obtain⟨h1,h2,h3,h4,h5⟩:=h
 have hl:=h5.size
 exact⟨(hb.cell (by omega)).trans h1,(hb.cell (by omega)).trans h2,(hb.cell (by omega)).trans h3,(hb.cell (by omega)).trans h4,h5.trans (hb.mono hl)⟩
theorem newA {N:Nat} {V V':World} {t:TypeId} {cs:Array Value} (h:N≤V.heap.size) (hb:Below (V.alloc (.cells cs t)).heap.size (V.alloc (.cells cs t)) V'):Blk V' V.heap.size t cs∧N≤V.heap.size:=⟨(Blk.new V t cs).below hb (by simp),h⟩
theorem newD {N:Nat} {V V':World} {t:TypeId} {cs:Array Value} (h:N≤V.heap.size) (hb:Below (V.alloc (.cells cs t)).drew.heap.size (V.alloc (.cells cs t)).drew V'):Blk V' V.heap.size t cs∧N≤V.heap.size:=
 ⟨(Blk.new V t cs).drew.below hb (by rw[World.size_drew,World.size_alloc];omega),h⟩
theorem newB {N:Nat} {V V':World} {t:TypeId} {cs:Array Value} {a:Nat} (h:Blk V a t cs∧N≤a) (hb:Below V.heap.size V V'):Blk V' a t cs∧N≤a:=⟨h.1.below hb h.1.lt,h.2⟩
theorem cell_set2 (V:World) (a:Nat) (p:Addr) (u v:Value) (hk:p.block≠a):((V.setCell ⟨a,0,none⟩ u).setCell ⟨a,1,none⟩ v).cell? p=V.cell? p:=by
 rw[World.cell?_setCell_other _ _ _ _ (fun e=>hk (by cases e;rfl)),World.cell?_setCell_other _ _ _ _ (fun e=>hk (by cases e;rfl))]
theorem heldCS {W V:World} {p q r s:Addr} {vp vq vr vs:Value} {t:TypeId} {cs:Array Value} {a:Nat} (hp:p.block<W.heap.size∧q.block<W.heap.size∧r.block<W.heap.size∧s.block<W.heap.size) (h:HoldC W V p q r s vp vq vr vs) (hf:Blk V a t cs∧W.heap.size≤a) (u v:Value):HoldC W ((V.setCell ⟨a,0,none⟩ u).setCell ⟨a,1,none⟩ v) p q r s vp vq vr vs:=by
 obtain⟨h1,h2,h3,h4,h5⟩:=h
 have hg:=hf.2
 exact⟨(cell_set2 V a _ u v (by omega)).trans h1,(cell_set2 V a _ u v (by omega)).trans h2,(cell_set2 V a _ u v (by omega)).trans h3,(cell_set2 V a _ u v (by omega)).trans h4,(h5.setCell (p:=⟨a,0,none⟩) hg u).setCell (p:=⟨a,1,none⟩) hg v⟩
theorem heldCT {W V:World} {p q r s:Addr} {vp vq vr vs:Value} {o o':Obj} (hp:p.block<W.heap.size∧q.block<W.heap.size∧r.block<W.heap.size∧s.block<W.heap.size) (hg:W.heap.size≤V.heap.size) (h:HoldC W (V.alloc o) p q r s vp vq vr vs):HoldC W (V.alloc o') p q r s vp vq vr vs:=by
 obtain⟨h1,h2,h3,h4,h6⟩:=h
 have hn:∀(p:Addr),p.block<V.heap.size→(V.alloc o').cell? p=(V.alloc o).cell? p:=fun p hk=>by
  rw[World.cell?_alloc_lt V o' p hk,World.cell?_alloc_lt V o p hk]
 refine⟨(hn _ (by omega)).trans h1,(hn _ (by omega)).trans h2,(hn _ (by omega)).trans h3,(hn _ (by omega)).trans h4,?_⟩
 exact⟨h6.os,h6.tape,h6.output,by rw[World.size_alloc];omega,fun k hk=>(Below.heap_alloc V o' k (by omega)).trans ((Below.heap_alloc V o k (by omega)).symm.trans (h6.block k hk))⟩
theorem areaK_parts (xs:List Pt) (k:Nat):areaK xs k=(ptAt xs k).x*(ptAt xs ((k+1)%xs.length)).y-(ptAt xs k).y*(ptAt xs ((k+1)%xs.length)).x:=by
 unfold areaK cr
 simp only
 grind
/-- The sum of the first k shares. -/
def areaS (xs:List Pt) (k:Nat):Int:=sumL ((List.range k).map (areaK xs))
theorem areaS_zero (xs:List Pt):areaS xs 0=0:=rfl
theorem areaS_succ (xs:List Pt) (k:Nat):areaS xs (k+1)=areaS xs k+areaK xs k:=by
 unfold areaS sumL
 rw[List.range_succ,List.map_append,List.foldl_append]
 rfl
theorem areaS_all (xs:List Pt):areaS xs xs.length=areaZ xs:=rfl
theorem areaK_bd {xs:List Pt} (h:goodL xs=true) (k:Nat): -4611686018427387904≤areaK xs k∧areaK xs k≤4611686018427387904:=cr_bd (a:=⟨0,0⟩) (by decide) (ptAt_good h k) (ptAt_good h _)
theorem areaS_bd {xs:List Pt} (h:goodL xs=true) (k:Nat): -(4611686018427387904*(k:Int))≤areaS xs k∧areaS xs k≤4611686018427387904*(k:Int):=by
 induction k with
 |zero=>simp[areaS_zero]
 |succ k ih=>
  rw[areaS_succ]
  have:=areaK_bd h k
  omega
set_option maxRecDepth 100000 in
set_option maxHeartbeats 1600000 in
theorem areaR_good (xs:List Pt) (A:Option Addr) (n cap:Nat) (w:World) (hr:Reads w w.heap.size 2 A n (ptsV xs)) (hn:n≤128) (hg:goodL xs=true):
 Calls Tryz.prog 11 #[.slice A n cap] w fun e w'=>e= .returned (.tuple #[i128 (areaZ xs),.int .i64 0])∧Below w.heap.size w w':=by
 have hl:xs.length=n:=hr.lenPt
 have HL:=Lib.hid hl
 have HG:=Lib.hid hg
 have hgx:∀p∈xs,p.inI:=fun p hp=>good_in' (List.all_eq_true.1 hg p hp)
 have HR:=Lib.hid hr
 have hd128:decide ((128:Int)<(n:Int))=false:=decide_eq_false (by omega)
 have kg:∀W,Below w.heap.size w W→Calls Tryz.prog 29 #[.slice A n cap] W fun e w'=>e= .returned (.bool true)∧Below W.heap.size W w':=fun W hW=>by
  have:=goodR_any xs A n cap W ((hr.below hW).more hW.size) (by omega) hgx
  rwa [hg]at this
 have KG:=Lib.hid kg
 clear hr hg hgx hl kg
 obtain⟨z0,hz0⟩:∃z,z=areaZ xs:=⟨_,rfl⟩
 rw[←hz0]
 have HZ0:=Lib.hid hz0
 clear hz0
 unfold i128
 go_enter Tryz.func11,Tryz.ntmps11
 go_wp2_with fail
 have hb0:=(Below.refl w.heap.size w).alloc (Nat.le_refl _) (.cells #[.int .i64 0,.int .u64 0] 37)
 refine(KG.out _ hb0).mono ?_
 rintro e w1 ⟨rfl,hb1⟩
 have hB1:=below_on hb0 (Nat.le_refl _) hb1
 have hR1:=(Blk.new w 37 #[.int .i64 0,.int .u64 0]).below hb1 (by simp)
 clear hb0 hb1
 go_wp2_with fail
 have hsz1:=hB1.size
 have hlt1:=hR1.lt
 have hS0:=Blk.new w1 37 #[.int .i64 0,.int .u64 0]
 have hR0:=hR1.alloc (.cells #[.int .i64 0,.int .u64 0] 37)
 have hB0:=hB1.alloc hB1.size (.cells #[.int .i64 0,.int .u64 0] 37)
 generalize w1.alloc (.cells #[.int .i64 0,.int .u64 0] 37)=w0 at *
 clear hR1 hB1
 go_loopw [5] (fun i wr=>∃k:Nat,k≤n∧i= .int .i64 (k:Int)∧WdB wr w1.heap.size (areaS xs k)∧Blk wr w.heap.size 37 #[.int .i64 0,.int .u64 0]∧Below w.heap.size w wr) (fun i _=>n-(intOf i).toNat)
 case atStart=>exact⟨0,by omega,rfl,by rw[areaS_zero];exact hS0,hR0,hB0⟩
 case round=>
  clear hS0 hR0 hB0
  obtain⟨k,hk,rfl,hS,hR,hbel⟩:=hrel
  by_cases hlt:k<n
  ·obtain⟨ad,rfl,hbd,hkl,hcx,hcy⟩:=(HR.out.below hbel).pt hlt
   obtain⟨m,hm⟩:∃m,m=(k+1)%n:=⟨_,rfl⟩
   have hml:m<n:=by rw[hm];exact Nat.mod_lt _ (by omega)
   have hmi:((k:Int)+1).tmod (n:Int)=(m:Int):=by
    rw[hm,Int.tmod_eq_emod_of_nonneg (by omega),Int.natCast_emod]
    rfl
   obtain⟨ad',e',_,hml',hqx,hqy⟩:=(HR.out.below hbel).pt hml
   obtain rfl:ad=ad':=by simpa using e'
   obtain⟨p,hp⟩:∃p,p=ptAt xs k:=⟨_,rfl⟩
   obtain⟨q,hq⟩:∃q,q=ptAt xs m:=⟨_,rfl⟩
   rw[←ptAt_lt hkl,←hp]at hcx hcy
   rw[←ptAt_lt hml',←hq]at hqx hqy
   have hpg:good p=true:=by rw[hp];exact ptAt_good HG.out k
   have hqg:good q=true:=by rw[hq];exact ptAt_good HG.out m
   have hak:p.x*q.y-p.y*q.x=areaK xs k:=by rw[areaK_parts,HL.out,←hm,←hp,←hq]
   have HZ:=Lib.hid (And.intro hak (And.intro (areaS_succ xs k) (And.intro (areaK_bd HG.out k) (areaS_bd HG.out k))))
   have hmb:(m:Int)<(n:Int):=by omega
   have hw1:IntKind.i64.wrap ((k:Int)+1)=(k:Int)+1:=by rw[IntKind.wrap_i64];omega
   clear hm e' hml' hp hq hak hkl
   rw[good_iff]at hpg hqg
   have kx:∀W,Calls Tryz.prog 31 #[.int .i64 p.x,.int .i64 q.y] W fun e w'=>e= .returned (i128 (p.x*q.y))∧Below W.heap.size W w':=fun W=>mulR_any _ _ W (by omega) (by omega) (by omega) (by omega)
   have ky:∀W,Calls Tryz.prog 31 #[.int .i64 p.y,.int .i64 q.x] W fun e w'=>e= .returned (i128 (p.y*q.x))∧Below W.heap.size W w':=fun W=>mulR_any _ _ W (by omega) (by omega) (by omega) (by omega)
   have b1:=prod_bd p.x q.y (by omega) (by omega) (by omega) (by omega)
   have b2:=prod_bd p.y q.x (by omega) (by omega) (by omega) (by omega)
   have ks:∀W,Calls Tryz.prog 30 #[i128 (p.x*q.y),i128 (p.y*q.x)] W fun e w'=>e= .returned (.tuple #[i128 (areaK xs k),.int .i64 0])∧Below W.heap.size W w':=fun W=>by
    have:=subR_any (p.x*q.y) (p.y*q.x) W (by unfold small;omega) (by unfold small;omega) (by unfold small;omega)
    rwa [HZ.out.1]at this
   obtain⟨z,hz⟩:∃z,z=areaK xs k:=⟨_,rfl⟩
   obtain⟨u,hu⟩:∃u,u=areaS xs k:=⟨_,rfl⟩
   rw[←hz]at HZ ks
   rw[←hu]at HZ hS
   have ka:∀W,Calls Tryz.prog 32 #[i128 u,i128 z] W fun e w'=>e= .returned (.tuple #[i128 (areaS xs (k+1)),.int .i64 0])∧Below W.heap.size W w':=fun W=>by
    obtain⟨_,h2,h3,h4⟩:=HZ.out
    have:=addR_any u z W (by unfold small;omega) (by unfold small;omega) (by unfold small;omega)
    rwa [←h2]at this
   obtain⟨u',hu'⟩:∃u',u'=areaS xs (k+1):=⟨_,rfl⟩
   rw[←hu']at ka
   have HU:=Lib.hid hu'
   clear hz hu hu' HZ b1 b2 hpg hqg
   generalize p.x*q.y=m1 at *
   generalize p.y*q.x=m2 at *
   generalize p.x=px at *
   generalize p.y=py at *
   generalize q.x=qx at *
   generalize q.y=qy at *
   unfold i128 at kx ky ks ka
   generalize m1/18446744073709551616=m1h at *
   generalize m1%18446744073709551616=m1l at *
   generalize m2/18446744073709551616=m2h at *
   generalize m2%18446744073709551616=m2l at *
   obtain⟨zh,hzh⟩:∃y,y=z/18446744073709551616:=⟨_,rfl⟩
   obtain⟨zl,hzl⟩:∃y,y=z%18446744073709551616:=⟨_,rfl⟩
   rw[←hzh,←hzl]at ks ka
   have HK:=Lib.hid (And.intro kx (And.intro ky (And.intro ks ka)))
   clear kx ky ks ka hzh hzl p q
   go_wp2_with fail
   have hszr:=hbel.size
   have hbw:=(Below.refl wr.heap.size wr).alloc (Nat.le_refl _) (.cells #[.int .i64 qx,.int .i64 qy] 23)
   have hS1:=hS.alloc (.cells #[.int .i64 qx,.int .i64 qy] 23)
   have hR1:=hR.alloc (.cells #[.int .i64 qx,.int .i64 qy] 23)
   have hB1:=hbel.alloc hbel.size (.cells #[.int .i64 qx,.int .i64 qy] 23)
   have c1:=(hbw.cell (p:=ad.add (k*2)) (by rw[block_of_add];omega)).trans hcx
   have c2:=(hbw.cell (p:=⟨(ad.add (k*2)).block,(ad.add (k*2)).off+1,none⟩) (by simp only[block_of_add];omega)).trans hcy
   have c3:(wr.alloc (.cells #[.int .i64 qx,.int .i64 qy] 23)).cell? ⟨wr.heap.size,0,none⟩=some (.int .i64 qx):=Blk.cell (Blk.new wr 23 _) 0
   have c4:(wr.alloc (.cells #[.int .i64 qx,.int .i64 qy] 23)).cell? ⟨wr.heap.size,1,none⟩=some (.int .i64 qy):=Blk.cell (Blk.new wr 23 _) 1
   have hsw:(wr.alloc (.cells #[.int .i64 qx,.int .i64 qy] 23)).heap.size=wr.heap.size+1:=by simp
   generalize wr.alloc (.cells #[.int .i64 qx,.int .i64 qy] 23)=W at *
   have hH0:W.drew.cell? (ad.add (k*2))=some (.int .i64 px)∧W.drew.cell? ⟨(ad.add (k*2)).block,(ad.add (k*2)).off+1,none⟩=some (.int .i64 py)∧W.drew.cell? ⟨wr.heap.size,0,none⟩=some (.int .i64 qx)∧W.drew.cell? ⟨wr.heap.size,1,none⟩=some (.int .i64 qy)∧Below W.heap.size W W.drew:=⟨c1,c2,c3,c4,(Below.refl _ _).drew⟩
   have hP:(ad.add (k*2)).block<W.heap.size∧(⟨(ad.add (k*2)).block,(ad.add (k*2)).off+1,none⟩:Addr).block<W.heap.size∧(⟨wr.heap.size,0,none⟩:Addr).block<W.heap.size∧(⟨wr.heap.size,1,none⟩:Addr).block<W.heap.size:=by
    simp only[block_of_add];omega
   have HG2:W.heap.size≤W.heap.size:=Nat.le_refl _
   have HX:=Lib.hid (And.intro hS1 (And.intro hR1 hB1))
   clear hsw c1 c2 c3 c4 hbw hS1 hR1 hB1 hcx hcy hqx hqy hS hR hbel
   go_region_held3 (fun V=>V.cell? (ad.add (k*2))=some (.int .i64 px)∧V.cell? ⟨(ad.add (k*2)).block,(ad.add (k*2)).off+1,none⟩=some (.int .i64 py)∧V.cell? ⟨wr.heap.size,0,none⟩=some (.int .i64 qx)∧V.cell? ⟨wr.heap.size,1,none⟩=some (.int .i64 qy)∧Below W.heap.size W V)
    (first|with_reducible exact hH0|with_reducible exact heldC hP (by assumption) (by assumption)|with_reducible exact heldC hP (by assumption) ((Below.refl _ _).alloc (Nat.le_refl _) _)|with_reducible exact heldCS hP (by assumption) (by assumption) _ _|with_reducible exact heldCT hP HG2 (by assumption))
    (first
    |(go_simp;go_at_call 31;(with_reducible refine(HK.out.1 _).mono ?_);rintro e w' ⟨rfl,hb'⟩;(first|(have HF:=newB HF hb';obtain⟨f1,f2,f3,f4⟩:=blk_two HF.1)|(have HF:=newA HG2 hb';obtain⟨f1,f2,f3,f4⟩:=blk_two HF.1)|(have HF:=newD HG2 hb';obtain⟨f1,f2,f3,f4⟩:=blk_two HF.1)|(have HG2:=Nat.le_trans HG2 hb'.size));try dsimp only)
    |(go_simp;go_at_call 31;(with_reducible refine(HK.out.2.1 _).mono ?_);rintro e w' ⟨rfl,hb'⟩;(first|(have HF:=newB HF hb';obtain⟨f1,f2,f3,f4⟩:=blk_two HF.1)|(have HF:=newA HG2 hb';obtain⟨f1,f2,f3,f4⟩:=blk_two HF.1)|(have HF:=newD HG2 hb';obtain⟨f1,f2,f3,f4⟩:=blk_two HF.1)|(have HG2:=Nat.le_trans HG2 hb'.size));try dsimp only)
    |(go_simp;go_at_call 30;(with_reducible refine(HK.out.2.2.1 _).mono ?_);rintro e w' ⟨rfl,hb'⟩;(first|(have HF:=newB HF hb';obtain⟨f1,f2,f3,f4⟩:=blk_two HF.1)|(have HF:=newA HG2 hb';obtain⟨f1,f2,f3,f4⟩:=blk_two HF.1)|(have HF:=newD HG2 hb';obtain⟨f1,f2,f3,f4⟩:=blk_two HF.1)|(have HG2:=Nat.le_trans HG2 hb'.size));try dsimp only))
   all_goals
    clear hH0
    obtain⟨-,-,-,-,hbW⟩:=(by assumption:HoldC W _ (ad.add (k*2)) ⟨(ad.add (k*2)).block,(ad.add (k*2)).off+1,none⟩ ⟨wr.heap.size,0,none⟩ ⟨wr.heap.size,1,none⟩ (.int .i64 px) (.int .i64 py) (.int .i64 qx) (.int .i64 qy))
    have hS2:=HX.out.1.on hbW
    have hR2:=HX.out.2.1.below hbW (Blk.lt HX.out.2.1)
    have hB2:=below_on HX.out.2.2 (Nat.le_refl _) hbW
    first
     |(have hf:=HF.1;obtain⟨x1,x2,-,-⟩:=put_two hf (.int .i64 zh) (.int .u64 zl);clear hf)
     |obtain⟨x1,x2,_,_⟩:=blk_two (Blk.new w' 37 #[.int .i64 zh,.int .u64 zl])
    obtain⟨s1,s2,s3,s4,_⟩:=hS2.facts
    go_wp2_with fail
    with_reducible refine(HK.out.2.2.2 _).mono ?_
    rintro e w4 ⟨rfl,hb4⟩
    have hS3:=hS2.on hb4
    have hR3:=hR2.below hb4 (Blk.lt hR2)
    have hB3:=below_on hB2 (Nat.le_refl _) hb4
    clear s1 s2 s3 s4 x1 x2 hb4
    obtain⟨s1,s2,s3,s4,_⟩:=hS3.facts
    go_wp2_with fail
    go_roundw
    case rel=>
     refine⟨k+1,by omega,by go_num,?_,(hR3.far (p:=⟨w1.heap.size,0,none⟩) (by simp only;omega) _).far (p:=⟨w1.heap.size,1,none⟩) (by simp only;omega) _,(hB3.setCell (p:=⟨w1.heap.size,0,none⟩) (by simp only;omega) _).setCell (p:=⟨w1.heap.size,1,none⟩) (by simp only;omega) _⟩
     rw[←HU.out]
     exact hS3.put u'
    case measure=>simp[intOf];omega
  ·have hkn:k=n:=by omega
   subst hkn
   have hZ:=areaS_all xs
   rw[HL.out]at hZ
   rw[hZ,←HZ0.out]at hS
   clear hZ
   obtain⟨s1,s2,s3,s4,_⟩:=hS.facts
   obtain⟨r1,r2,r3,r4⟩:=blk_two hR
   obtain⟨p1,p2,_,_⟩:=put_two hR (.int .i64 (z0/18446744073709551616)) (.int .u64 (z0%18446744073709551616))
   go_wp2_with fail
   exact bodyPost_ret (v:= .tuple #[.agg #[.int .i64 (z0/18446744073709551616),.int .u64 (z0%18446744073709551616)],.int .i64 0]) (by simp[results,Tryz.results11,go_sem,p1,p2]) rfl ⟨rfl,(hbel.setCell (p:=⟨w.heap.size,0,none⟩) (Nat.le_refl _) _).setCell (p:=⟨w.heap.size,1,none⟩) (Nat.le_refl _) _⟩
set_option maxRecDepth 100000 in
set_option maxHeartbeats 800000 in
theorem areaR_any (xs:List Pt) (A:Option Addr) (n cap:Nat) (w:World) (hr:Reads w w.heap.size 2 A n (ptsV xs)) (hn:n≤9223372036854775807) (hx:∀p∈xs,p.inI):
 Calls Tryz.prog 11 #[.slice A n cap] w fun e w'=>e= .returned (.tuple #[i128 (areaV xs),.int .i64 (areaE xs)])∧Below w.heap.size w w':=by
 have hl:xs.length=n:=hr.lenPt
 by_cases h1:128<n
 ·have e1:areaE xs=12:=by unfold areaE;rw[if_pos (by omega)]
  have e2:areaV xs=0:=by unfold areaV;rw[if_neg (by rw[e1];decide)]
  rw[e1,e2,i128_zero]
  have h1':(128:Int)<(n:Int):=by omega
  clear e1 e2 hr hx hl
  go_enter Tryz.func11,Tryz.ntmps11
  go_wp2_with fail
  exact bodyPost_ret (v:= .tuple #[.agg #[.int .i64 0,.int .u64 0],.int .i64 12]) (by simp[results,Tryz.results11,go_sem]) rfl ⟨rfl,(Below.refl _ _).alloc (Nat.le_refl _) _⟩
 ·rcases hg:goodL xs with _|_
  ·have e1:areaE xs=3:=by unfold areaE;rw[if_neg (by omega),if_neg (by rw[hg];decide)]
   have e2:areaV xs=0:=by unfold areaV;rw[if_neg (by rw[e1];decide)]
   rw[e1,e2,i128_zero]
   have hd128:decide ((128:Int)<(n:Int))=false:=decide_eq_false (by omega)
   have kg:∀W,Below w.heap.size w W→Calls Tryz.prog 29 #[.slice A n cap] W fun e w'=>e= .returned (.bool false)∧Below W.heap.size W w':=fun W hW=>by
    have:=goodR_any xs A n cap W ((hr.below hW).more hW.size) (by omega) hx
    rwa [hg]at this
   have KG:=Lib.hid kg
   clear e1 e2 hr hx hl hg kg
   go_enter Tryz.func11,Tryz.ntmps11
   go_wp2_with fail
   have hb0:=(Below.refl w.heap.size w).alloc (Nat.le_refl _) (.cells #[.int .i64 0,.int .u64 0] 37)
   refine(KG.out _ hb0).mono ?_
   rintro e w1 ⟨rfl,hb1⟩
   have hB1:=below_on hb0 (Nat.le_refl _) hb1
   have hR1:=(Blk.new w 37 #[.int .i64 0,.int .u64 0]).below hb1 (by simp)
   clear hb0 hb1
   obtain⟨r1,r2,r3,r4⟩:=blk_two hR1
   obtain⟨p1,p2,_,_⟩:=put_two hR1 (.int .i64 0) (.int .u64 0)
   go_wp2_with fail
   exact bodyPost_ret (v:= .tuple #[.agg #[.int .i64 0,.int .u64 0],.int .i64 3]) (by simp[results,Tryz.results11,go_sem,p1,p2]) rfl ⟨rfl,(hB1.setCell (p:=⟨w.heap.size,0,none⟩) (Nat.le_refl _) _).setCell (p:=⟨w.heap.size,1,none⟩) (Nat.le_refl _) _⟩
  ·have e1:areaE xs=0:=by unfold areaE;rw[if_neg (by omega),if_pos hg]
   have e2:areaV xs=areaZ xs:=by unfold areaV;rw[if_pos e1]
   rw[e1,e2]
   exact areaR_good xs A n cap w hr (by omega) hg
theorem Own8.mk {xs:List UInt8} {w w':World} {v:Value} {n:Nat} (ho:w'.ownsRow w.heap.size 5 1 v n (u8s xs)) (hb:Below w.heap.size w w'):Own8 xs w (.returned v) w':=by
 obtain⟨A,c,rfl⟩:=own_form ho
 have hl:xs.length=n:=by have:=ho.1;rw[u8s_length]at this;omega
 subst hl
 exact⟨A,c,rfl,ho,hb⟩
set_option maxHeartbeats 400000 in
theorem clone8_some (xs:List UInt8) (a:Addr) (n cap:Nat) (w:World) (hr:Reads w w.heap.size 1 (some a) n (u8s xs)) (hn:n≤140737488355000):
 Calls Tryz.prog 42 #[.slice (some a) n cap] w (Own8 xs w):=by
 obtain⟨i0,hi0,hz0,hz1,hz2⟩:=info_parts info_u8
 have hl:=hr.len8
 have heq:=fun(W:World)=>Lib.run_eql_slice_nil (P:=Tryz.prog) W 50 5 (some a) n cap 0 0 Tryz.underlying50
 have hown0:=World.ownsRow_made (base:=w.heap.size) (e:=5) (size:=1) w #[] 0 (Nat.le_refl _) (by simp[maxLen]) rfl
 have hb0:Below w.heap.size w (w.alloc (.cells #[] 5)):=(Below.refl _ _).alloc (Nat.le_refl _) _
 go_enter Tryz.func42,Tryz.ntmps42
 go_wp2_with (at_builtin;refine wpList_append_any _ rfl (.tmp 5) (.tmp 6) _ rfl w.heap.size 5 i0 _ 1 1 Tryz.underlying50 hi0 hz0 hz1 hz2 rfl (by omega) (.slice (some ⟨w.heap.size,0,none⟩) 0 0) 0 [] rfl hown0 w.heap.size (some a) n cap (u8s xs) rfl (hr.below hb0) (u8s_one xs) (by simp only[maxLen];omega) (by omega) hb0.size ?_
              intro v2 w2 hown2 hg2 hat2)
 go_ret
 simp only[Nat.zero_add,List.nil_append]at hown2
 exact Own8.mk hown2 (hb0.grown hg2 hb0.size (by intro k hk;simp[Value.ownBlock]at hk;omega))
theorem clone8_none (cap:Nat) (w:World):
 Calls Tryz.prog 42 #[.slice none 0 cap] w (Own8 [] w):=by
 have heq:=fun(W:World)=>Lib.run_eql_slice_nil (P:=Tryz.prog) W 50 5 none 0 cap 0 0 Tryz.underlying50
 go_enter Tryz.func42,Tryz.ntmps42
 go_wp2_with fail
 go_ret
 exact Own8.mk (World.ownsRow_nil _ _ _ _) (Below.refl _ _)
theorem clone8_any (xs:List UInt8) (A:Option Addr) (n cap:Nat) (w:World) (hr:Reads w w.heap.size 1 A n (u8s xs)) (hn:n≤140737488355000):
 Calls Tryz.prog 42 #[.slice A n cap] w (Own8 xs w):=by
 rcases A with _|a
 ·have hl:=hr.len8
  rcases Nat.eq_zero_or_pos n with h0|h0
  ·subst h0
   obtain rfl:=List.eq_nil_of_length_eq_zero hl
   exact clone8_none cap w
  ·obtain⟨ad,h,_⟩:=hr.2 h0
   cases h
 ·exact clone8_some xs a n cap w hr hn
theorem info_point:(Tryz.prog.info? 23).map (fun i=>(i.zero,i.size,i.bytes))=some (some (.agg #[.int .i64 0,.int .i64 0]),2,16):=by kernel_rfl
theorem new_point (w:World) (x y:Int):Reads (w.alloc (.cells #[.int .i64 x,.int .i64 y] 23)) (w.heap.size+1) 2 (some ⟨w.heap.size,0,none⟩) 1 [.int .i64 x,.int .i64 y]:=by
 have:=Reads.made w #[.int .i64 x,.int .i64 y] 23 (0,0) 2 1 _ rfl rfl
 simpa using this
/-- What stands ahead of a test: so many ends have come. -/
def MeetRel (N:Nat) (W:World) (es:List Pt) (s:Value) (wx:World):Prop:=
 ∃(n c:Nat) (A:Option Addr),s= .slice A n c∧n=es.length∧n≤N∧wx.ownsRow W.heap.size 23 2 (.slice A n c) n (ptsV es)∧Below W.heap.size W wx
theorem MeetRel.none_ {W wx:World} (h:Below W.heap.size W wx):MeetRel 0 W [] (.slice none 0 0) wx:=⟨0,0,none,rfl,rfl,by omega,World.ownsRow_nil _ _ _ _,h⟩
theorem MeetRel.skip {N:Nat} {W wx w1:World} {es:List Pt} {s:Value} (h:MeetRel N W es s wx) (hb:Below wx.heap.size wx w1):MeetRel (N+1) W (es++[]) s w1:=by
 obtain⟨n,c,A,rfl,h1,h2,h3,h4⟩:=h
 rw[List.append_nil]
 exact⟨n,c,A,rfl,h1,by omega,own_below h3 hb,below_on h4 (Nat.le_refl _) hb⟩
theorem MeetRel.step {N:Nat} {W w2:World} {es:List Pt} {v:Value} {n:Nat} {x y:Int} (hn:n=es.length) (h4:n≤N) (ho:w2.ownsRow W.heap.size 23 2 v (n+1) (ptsV es++[.int .i64 x,.int .i64 y])) (hb:Below W.heap.size W w2):MeetRel (N+1) W (es++[⟨x,y⟩]) v w2:=by
 obtain⟨A,c,rfl⟩:=own_form ho
 refine⟨n+1,c,A,rfl,by rw[hn,List.length_append];rfl,by omega,?_,hb⟩
 rw[ptsV_append]
 exact ho
/-- The four corners in their boxes. -/
abbrev Box4 (w V:World) (ax ay bx by_ cx cy dx dy:Int):Prop:=
 V.cell? ⟨w.heap.size,0,none⟩=some (.int .i64 ax)∧V.cell? ⟨w.heap.size,1,none⟩=some (.int .i64 ay)∧V.cell? ⟨w.heap.size+1,0,none⟩=some (.int .i64 bx)∧V.cell? ⟨w.heap.size+1,1,none⟩=some (.int .i64 by_)∧
 V.cell? ⟨w.heap.size+1+1,0,none⟩=some (.int .i64 cx)∧V.cell? ⟨w.heap.size+1+1,1,none⟩=some (.int .i64 cy)∧V.cell? ⟨w.heap.size+1+1+1,0,none⟩=some (.int .i64 dx)∧V.cell? ⟨w.heap.size+1+1+1,1,none⟩=some (.int .i64 dy)
theorem Box4.on {w W V:World} {ax ay bx by_ cx cy dx dy:Int} (h:Box4 w W ax ay bx by_ cx cy dx dy) (hl:w.heap.size+1+1+1<W.heap.size) (hb:Below W.heap.size W V):Box4 w V ax ay bx by_ cx cy dx dy:=by
 obtain⟨h1,h2,h3,h4,h5,h6,h7,h8⟩:=h
 exact⟨(hb.cell (by simp only;omega)).trans h1,(hb.cell (by simp only;omega)).trans h2,(hb.cell (by simp only;omega)).trans h3,(hb.cell (by simp only;omega)).trans h4,(hb.cell (by simp only;omega)).trans h5,(hb.cell (by simp only;omega)).trans h6,(hb.cell (by simp only;omega)).trans h7,(hb.cell (by simp only;omega)).trans h8⟩
theorem difB_of {es:List Pt} {k:Nat} (hk:k<es.length) (h0:0<es.length) (hne:es[k]≠es[0]):difB es=true:=by
 rcases es with _|⟨e,t⟩
 ·cases h0
 ·rcases k with _|k
  ·exact absurd rfl hne
  ·simp only[difB,List.any_eq_true,decide_eq_true_eq]
   exact⟨t[k]'(by simp at hk;omega),List.getElem_mem _,hne⟩
theorem difB_not {es:List Pt} (h:∀i (hi:i<es.length),es[i]=es[0]'(by omega)):difB es=false:=by
 rcases es with _|⟨e,t⟩
 ·rfl
 ·simp only[difB,List.any_eq_false,decide_eq_true_eq]
  intro p hp hne
  obtain⟨i,hi,rfl⟩:=List.getElem_of_mem hp
  exact hne (h (i+1) (by simp;omega))
theorem sgn_prod {x y:Int} (hx: -1≤x∧x≤1) (hy: -1≤y∧y≤1):IntKind.i64.wrap (x*y)=x*y:=by
 have h1:x= -1∨x=0∨x=1:=by omega
 have h2:y= -1∨y=0∨y=1:=by omega
 rcases h1 with rfl|rfl|rfl<;>rcases h2 with rfl|rfl|rfl<;>rfl
theorem heldM {w W V V':World} {ax ay bx by_ cx cy dx dy:Int} (hl:w.heap.size+1+1+1<W.heap.size) (h:V.cell? ⟨w.heap.size,0,none⟩=some (.int .i64 ax)∧V.cell? ⟨w.heap.size,1,none⟩=some (.int .i64 ay)∧V.cell? ⟨w.heap.size+1,0,none⟩=some (.int .i64 bx)∧V.cell? ⟨w.heap.size+1,1,none⟩=some (.int .i64 by_)∧V.cell? ⟨w.heap.size+1+1,0,none⟩=some (.int .i64 cx)∧V.cell? ⟨w.heap.size+1+1,1,none⟩=some (.int .i64 cy)∧V.cell? ⟨w.heap.size+1+1+1,0,none⟩=some (.int .i64 dx)∧V.cell? ⟨w.heap.size+1+1+1,1,none⟩=some (.int .i64 dy)∧Below W.heap.size W V) (hb:Below V.heap.size V V'):V'.cell? ⟨w.heap.size,0,none⟩=some (.int .i64 ax)∧V'.cell? ⟨w.heap.size,1,none⟩=some (.int .i64 ay)∧V'.cell? ⟨w.heap.size+1,0,none⟩=some (.int .i64 bx)∧V'.cell? ⟨w.heap.size+1,1,none⟩=some (.int .i64 by_)∧V'.cell? ⟨w.heap.size+1+1,0,none⟩=some (.int .i64 cx)∧V'.cell? ⟨w.heap.size+1+1,1,none⟩=some (.int .i64 cy)∧V'.cell? ⟨w.heap.size+1+1+1,0,none⟩=some (.int .i64 dx)∧V'.cell? ⟨w.heap.size+1+1+1,1,none⟩=some (.int .i64 dy)∧Below W.heap.size W V':=by
 obtain⟨h1,h2,h3,h4,h5,h6,h7,h8,h9⟩:=h
 have:=h9.size
 obtain⟨g1,g2,g3,g4,g5,g6,g7,g8⟩:=Box4.on ⟨h1,h2,h3,h4,h5,h6,h7,h8⟩ (by omega) hb
 exact⟨g1,g2,g3,g4,g5,g6,g7,g8,below_on h9 (Nat.le_refl _) hb⟩
set_option maxRecDepth 100000 in
set_option maxHeartbeats 3200000 in
theorem meetR8 (ax ay bx by_ cx cy dx dy:Int) (w:World) (ha:good ⟨ax,ay⟩=true) (hb:good ⟨bx,by_⟩=true) (hc:good ⟨cx,cy⟩=true) (hd:good ⟨dx,dy⟩=true):
 Calls Tryz.prog 39 #[.agg #[.int .i64 ax,.int .i64 ay],.agg #[.int .i64 bx,.int .i64 by_],.agg #[.int .i64 cx,.int .i64 cy],.agg #[.int .i64 dx,.int .i64 dy]] w fun e w'=>e= .returned (.int .i64 (meetR ⟨ax,ay⟩ ⟨bx,by_⟩ ⟨cx,cy⟩ ⟨dx,dy⟩))∧Below w.heap.size w w':=by
 obtain⟨i0,hi0,hz0,hz1,hz2⟩:=info_parts info_point
 have k1:=fun W=>onR6 cx cy dx dy ax ay W hc hd ha
 have k2:=fun W=>onR6 cx cy dx dy bx by_ W hc hd hb
 have k3:=fun W=>onR6 ax ay bx by_ cx cy W ha hb hc
 have k4:=fun W=>onR6 ax ay bx by_ dx dy W ha hb hd
 have t1:=fun W=>turnR6 ax ay bx by_ cx cy W ha hb hc
 have t2:=fun W=>turnR6 ax ay bx by_ dx dy W ha hb hd
 have t3:=fun W=>turnR6 cx cy dx dy ax ay W hc hd ha
 have t4:=fun W=>turnR6 cx cy dx dy bx by_ W hc hd hb
 obtain⟨o1,ho1⟩:∃o,o=onB ⟨cx,cy⟩ ⟨dx,dy⟩ ⟨ax,ay⟩:=⟨_,rfl⟩
 obtain⟨o2,ho2⟩:∃o,o=onB ⟨cx,cy⟩ ⟨dx,dy⟩ ⟨bx,by_⟩:=⟨_,rfl⟩
 obtain⟨o3,ho3⟩:∃o,o=onB ⟨ax,ay⟩ ⟨bx,by_⟩ ⟨cx,cy⟩:=⟨_,rfl⟩
 obtain⟨o4,ho4⟩:∃o,o=onB ⟨ax,ay⟩ ⟨bx,by_⟩ ⟨dx,dy⟩:=⟨_,rfl⟩
 obtain⟨res,hres⟩:∃r,r=meetR ⟨ax,ay⟩ ⟨bx,by_⟩ ⟨cx,cy⟩ ⟨dx,dy⟩:=⟨_,rfl⟩
 rw[←hres]
 have HRES:=Lib.hid (And.intro hres (And.intro ho1 (And.intro ho2 (And.intro ho3 ho4))))
 rw[←ho1]at k1
 rw[←ho2]at k2
 rw[←ho3]at k3
 rw[←ho4]at k4
 have HK:=Lib.hid (And.intro k1 (And.intro k2 (And.intro k3 k4)))
 have HT:=Lib.hid (And.intro t1 (And.intro t2 (And.intro t3 t4)))
 clear k1 k2 k3 k4 t1 t2 t3 t4 ho1 ho2 ho3 ho4 hres ha hb hc hd
 obtain⟨W,hW⟩:∃W:World,W=(((w.alloc (.cells #[.int .i64 ax,.int .i64 ay] 23)).alloc (.cells #[.int .i64 bx,.int .i64 by_] 23)).alloc (.cells #[.int .i64 cx,.int .i64 cy] 23)).alloc (.cells #[.int .i64 dx,.int .i64 dy] 23):=⟨_,rfl⟩
 have hbox:Box4 w W ax ay bx by_ cx cy dx dy:=by
  rw[hW]
  refine⟨?_,?_,?_,?_,?_,?_,?_,?_⟩<;>simp[go_sem,World.cell?_alloc_past]
 have hBW:Below w.heap.size w W:=by
  rw[hW]
  exact(((((Below.refl w.heap.size w).alloc (Nat.le_refl _) _).alloc (by simp) _).alloc (by simp;omega) _).alloc (by simp;omega) _)
 have hlt:w.heap.size+1+1+1<W.heap.size:=by rw[hW];simp
 have HW:=Lib.hid hW.symm
 have HB:=Lib.hid (And.intro hbox hBW)
 clear hW hbox hBW
 go_enter Tryz.func39,Tryz.ntmps39
 have hrel:MeetRel 0 W [] (.slice none 0 0) W:=MeetRel.none_ (Below.refl _ _)
 obtain⟨es0,hes0⟩:∃es:List Pt,es=[]:=⟨_,rfl⟩
 rw[←hes0]at hrel
 have HE0:=Lib.hid hes0
 clear hes0
 obtain⟨b1,b2,b3,b4,b5,b6,b7,b8⟩:=HB.out.1
 go_upto_if 14 with ((rw [HW.out]);go_at_call 82;(with_reducible refine(HK.out.1 _).mono ?_);rintro e w1 ⟨rfl,hb1⟩)
 go_cut [9] (fun s9 wx=>MeetRel 1 W (es0++(if o1=true then[⟨ax,ay⟩]else[])) s9 wx)
 case first=>
  clear b1 b2 b3 b4 b5 b6 b7 b8
  rcases o1 with _|_
  ·have hr2:=Lib.hid (hrel.skip hb1)
   clear hrel hb1
   go_wp2_with fail
   go_meet
   exact hr2.out
  ·obtain⟨n,c,A,e,hn,h4,hown,hbel⟩:=hrel
   cases e
   have HN0:=Lib.hid hn
   clear hn
   have hown1:=own_below hown hb1
   have hb2:=below_on hbel (Nat.le_refl _) hb1
   obtain⟨b1,b2,b3,b4,b5,b6,b7,b8⟩:=HB.out.1.on hlt hb2
   clear hown hbel hb1
   go_wp2_with (at_builtin;refine wpList_append_any _ rfl (.tmp 15) (.tmp 17) _ rfl W.heap.size 23 i0 _ 2 16 Tryz.underlying24 hi0 hz0 hz1 hz2 rfl (by omega) (.slice none 0 0) 0 _ rfl (hown1.alloc _) (w1.heap.size+1) (some ⟨w1.heap.size,0,none⟩) 1 1 _ rfl (new_point w1 ax ay) (by simp[Value.oneCell']) (by simp only[maxLen];omega) (by omega) (by simp;have:=hb2.size;omega) ?_
                intro v3 w3 hown3 hg3 hat3)
   have hB3:Below W.heap.size W w3:=(hb2.alloc hb2.size _).grown hg3 (by simp;have:=hb2.size;omega) (fun k hk=>(hown1.lt k hk).1)
   have hr2:=Lib.hid (MeetRel.step HN0.out h4 hown3 hB3)
   obtain⟨A3,c3,rfl⟩:=own_form hown3
   clear hown3 hg3 hat3 hB3 hown1 hb2 b1 b2 b3 b4 b5 b6 b7 b8
   go_wp2_with fail
   go_meet
   exact hr2.out
 case rest=>
  clear b1 b2 b3 b4 b5 b6 b7 b8 hrel hb1
  have hrel:=hcut
  clear hcut
  obtain⟨es1,hes1⟩:∃es:List Pt,es=es0++(if o1=true then[⟨ax,ay⟩]else[]):=⟨_,rfl⟩
  rw[←hes1]at hrel
  have HE1:=Lib.hid hes1
  clear hes1
  obtain⟨n,c,A,rfl,hn,h4,hown,hbel⟩:=hrel
  have hrel:MeetRel 1 W es1 (.slice A n c) wc:=⟨n,c,A,rfl,hn,h4,hown,hbel⟩
  obtain⟨b1,b2,b3,b4,b5,b6,b7,b8⟩:=HB.out.1.on hlt hbel
  clear hown hbel hn h4
  go_upto_if 22 with (go_at_call 82;(with_reducible refine(HK.out.2.1 _).mono ?_);rintro e w1 ⟨rfl,hb1⟩)
  go_cut [9] (fun s9 wx=>MeetRel 2 W (es1++(if o2=true then[⟨bx,by_⟩]else[])) s9 wx)
  case first=>
   clear b1 b2 b3 b4 b5 b6 b7 b8
   rcases o2 with _|_
   ·have hr2:=Lib.hid (hrel.skip hb1)
    clear hrel hb1
    go_wp2_with fail
    go_meet
    exact hr2.out
   ·obtain⟨n,c,A,e,hn,h4,hown,hbel⟩:=hrel
    cases e
    have HN0:=Lib.hid hn
    clear hn
    have hown1:=own_below hown hb1
    have hb2:=below_on hbel (Nat.le_refl _) hb1
    obtain⟨b1,b2,b3,b4,b5,b6,b7,b8⟩:=HB.out.1.on hlt hb2
    clear hown hbel hb1
    go_wp2_with (at_builtin;refine wpList_append_any _ rfl (.tmp 23) (.tmp 25) _ rfl W.heap.size 23 i0 _ 2 16 Tryz.underlying24 hi0 hz0 hz1 hz2 rfl (by omega) (.slice A n c) n _ rfl (hown1.alloc _) (w1.heap.size+1) (some ⟨w1.heap.size,0,none⟩) 1 1 _ rfl (new_point w1 bx by_) (by simp[Value.oneCell']) (by simp only[maxLen];omega) (by omega) (by simp;have:=hb2.size;omega) ?_
                 intro v3 w3 hown3 hg3 hat3)
    have hB3:Below W.heap.size W w3:=(hb2.alloc hb2.size _).grown hg3 (by simp;have:=hb2.size;omega) (fun k hk=>(hown1.lt k hk).1)
    have hr2:=Lib.hid (MeetRel.step HN0.out h4 hown3 hB3)
    obtain⟨A3,c3,rfl⟩:=own_form hown3
    clear hown3 hg3 hat3 hB3 hown1 hb2 b1 b2 b3 b4 b5 b6 b7 b8
    go_wp2_with fail
    go_meet
    exact hr2.out
  case rest=>
   clear b1 b2 b3 b4 b5 b6 b7 b8 hrel hb1
   have hrel:=hcut
   clear hcut
   obtain⟨es2,hes2⟩:∃es:List Pt,es=es1++(if o2=true then[⟨bx,by_⟩]else[]):=⟨_,rfl⟩
   rw[←hes2]at hrel
   have HE2:=Lib.hid hes2
   clear hes2
   obtain⟨n,c,A,rfl,hn,h4,hown,hbel⟩:=hrel
   have hrel:MeetRel 2 W es2 (.slice A n c) wc:=⟨n,c,A,rfl,hn,h4,hown,hbel⟩
   obtain⟨b1,b2,b3,b4,b5,b6,b7,b8⟩:=HB.out.1.on hlt hbel
   clear hown hbel hn h4
   go_upto_if 30 with (go_at_call 82;(with_reducible refine(HK.out.2.2.1 _).mono ?_);rintro e w1 ⟨rfl,hb1⟩)
   go_cut [9] (fun s9 wx=>MeetRel 3 W (es2++(if o3=true then[⟨cx,cy⟩]else[])) s9 wx)
   case first=>
    clear b1 b2 b3 b4 b5 b6 b7 b8
    rcases o3 with _|_
    ·have hr2:=Lib.hid (hrel.skip hb1)
     clear hrel hb1
     go_wp2_with fail
     go_meet
     exact hr2.out
    ·obtain⟨n,c,A,e,hn,h4,hown,hbel⟩:=hrel
     cases e
     have HN0:=Lib.hid hn
     clear hn
     have hown1:=own_below hown hb1
     have hb2:=below_on hbel (Nat.le_refl _) hb1
     obtain⟨b1,b2,b3,b4,b5,b6,b7,b8⟩:=HB.out.1.on hlt hb2
     clear hown hbel hb1
     go_wp2_with (at_builtin;refine wpList_append_any _ rfl (.tmp 31) (.tmp 33) _ rfl W.heap.size 23 i0 _ 2 16 Tryz.underlying24 hi0 hz0 hz1 hz2 rfl (by omega) (.slice A n c) n _ rfl (hown1.alloc _) (w1.heap.size+1) (some ⟨w1.heap.size,0,none⟩) 1 1 _ rfl (new_point w1 cx cy) (by simp[Value.oneCell']) (by simp only[maxLen];omega) (by omega) (by simp;have:=hb2.size;omega) ?_
                  intro v3 w3 hown3 hg3 hat3)
     have hB3:Below W.heap.size W w3:=(hb2.alloc hb2.size _).grown hg3 (by simp;have:=hb2.size;omega) (fun k hk=>(hown1.lt k hk).1)
     have hr2:=Lib.hid (MeetRel.step HN0.out h4 hown3 hB3)
     obtain⟨A3,c3,rfl⟩:=own_form hown3
     clear hown3 hg3 hat3 hB3 hown1 hb2 b1 b2 b3 b4 b5 b6 b7 b8
     go_wp2_with fail
     go_meet
     exact hr2.out
   case rest=>
    clear b1 b2 b3 b4 b5 b6 b7 b8 hrel hb1
    have hrel:=hcut
    clear hcut
    obtain⟨es3,hes3⟩:∃es:List Pt,es=es2++(if o3=true then[⟨cx,cy⟩]else[]):=⟨_,rfl⟩
    rw[←hes3]at hrel
    have HE3:=Lib.hid hes3
    clear hes3
    obtain⟨n,c,A,rfl,hn,h4,hown,hbel⟩:=hrel
    have hrel:MeetRel 3 W es3 (.slice A n c) wc:=⟨n,c,A,rfl,hn,h4,hown,hbel⟩
    obtain⟨b1,b2,b3,b4,b5,b6,b7,b8⟩:=HB.out.1.on hlt hbel
    clear hown hbel hn h4
    go_upto_if 38 with (go_at_call 82;(with_reducible refine(HK.out.2.2.2 _).mono ?_);rintro e w1 ⟨rfl,hb1⟩)
    go_cut [9] (fun s9 wx=>MeetRel 4 W (es3++(if o4=true then[⟨dx,dy⟩]else[])) s9 wx)
    case first=>
     clear b1 b2 b3 b4 b5 b6 b7 b8
     rcases o4 with _|_
     ·have hr2:=Lib.hid (hrel.skip hb1)
      clear hrel hb1
      go_wp2_with fail
      go_meet
      exact hr2.out
     ·obtain⟨n,c,A,e,hn,h4,hown,hbel⟩:=hrel
      cases e
      have HN0:=Lib.hid hn
      clear hn
      have hown1:=own_below hown hb1
      have hb2:=below_on hbel (Nat.le_refl _) hb1
      obtain⟨b1,b2,b3,b4,b5,b6,b7,b8⟩:=HB.out.1.on hlt hb2
      clear hown hbel hb1
      go_wp2_with (at_builtin;refine wpList_append_any _ rfl (.tmp 39) (.tmp 41) _ rfl W.heap.size 23 i0 _ 2 16 Tryz.underlying24 hi0 hz0 hz1 hz2 rfl (by omega) (.slice A n c) n _ rfl (hown1.alloc _) (w1.heap.size+1) (some ⟨w1.heap.size,0,none⟩) 1 1 _ rfl (new_point w1 dx dy) (by simp[Value.oneCell']) (by simp only[maxLen];omega) (by omega) (by simp;have:=hb2.size;omega) ?_
                   intro v3 w3 hown3 hg3 hat3)
      have hB3:Below W.heap.size W w3:=(hb2.alloc hb2.size _).grown hg3 (by simp;have:=hb2.size;omega) (fun k hk=>(hown1.lt k hk).1)
      have hr2:=Lib.hid (MeetRel.step HN0.out h4 hown3 hB3)
      obtain⟨A3,c3,rfl⟩:=own_form hown3
      clear hown3 hg3 hat3 hB3 hown1 hb2 b1 b2 b3 b4 b5 b6 b7 b8
      go_wp2_with fail
      go_meet
      exact hr2.out
    case rest=>
     clear b1 b2 b3 b4 b5 b6 b7 b8 hrel hb1
     obtain⟨es4,hes4⟩:∃es:List Pt,es=es3++(if o4=true then[⟨dx,dy⟩]else[]):=⟨_,rfl⟩
     rw[←hes4]at hcut
     have hend:es4=endsL ⟨ax,ay⟩ ⟨bx,by_⟩ ⟨cx,cy⟩ ⟨dx,dy⟩:=by
      obtain⟨_,e1,e2,e3,e4⟩:=HRES.out
      rw[hes4,HE3.out,HE2.out,HE1.out,HE0.out,e1,e2,e3,e4]
      unfold endsL
      simp only[List.nil_append,List.append_assoc]
     have HR:Hid (res=if difB es4=true then 3 else if es4≠[]then 1 else if prB ⟨ax,ay⟩ ⟨bx,by_⟩ ⟨cx,cy⟩ ⟨dx,dy⟩=true then 2 else 0):=by
      show _=_
      rw[HRES.out.1,hend]
      rfl
     obtain⟨n,c,A,rfl,hn,h4,hown,hbel⟩:=hcut
     have hrd:=Lib.hid (Reads.of_own hown)
     have HN:=Lib.hid hn
     have HB4:=Lib.hid (And.intro hlt HB.out)
     have hsz:=Lib.hid (And.intro hbel HB.out.2.size)
     clear hes4 hend HE0 HE1 HE2 HE3 HRES HK hn hown hbel hlt HB
     go_wp2_with fail
     go_loopw [10] (fun i wr=>∃k:Nat,1≤k∧(k≤n∨k=1)∧Hid (∀i (hi:i<k) (hi':i<es4.length),es4[i]=es4[0]'(by omega))∧i= .int .i64 (k:Int)∧Below wc.heap.size wc wr) (fun i _=>n-(intOf i).toNat)
     case atStart=>
      refine⟨1,Nat.le_refl _,.inr rfl,?_,rfl,Below.refl _ _⟩
      intro i hi hi'
      obtain rfl:i=0:=by omega
      rfl
     case round=>
      obtain⟨k,hk1,hkn,hall,rfl,hb5⟩:=hrel
      by_cases hlt2:k<n
      ·obtain⟨ad,rfl,hbd,hkl,hcx,hcy⟩:=(hrd.out.below hb5).pt hlt2
       obtain⟨ad',e',_,hkl0,hdx,hdy⟩:=(hrd.out.below hb5).pt (show 0<n by omega)
       obtain rfl:ad=ad':=by simpa using e'
       have hne:=Lib.hid (difB_of hkl hkl0)
       have hst:Hid (es4[k]=es4[0]→∀i (hi:i<k+1) (hi':i<es4.length),es4[i]=es4[0]'(by omega)):=fun he i hi hi'=>by
        rcases Nat.lt_succ_iff_lt_or_eq.1 hi with h|h
        ·exact hall.out i h hi'
        ·subst h;exact he
       obtain⟨⟨x,y⟩,hp⟩:∃p,p=es4[k]:=⟨_,rfl⟩
       obtain⟨⟨x',y'⟩,hq⟩:∃p,p=es4[0]:=⟨_,rfl⟩
       rw[←hp]at hcx hcy
       rw[←hq]at hdx hdy
       have HP:=Lib.hid (And.intro hp hq)
       simp only[Nat.zero_mul]at hcx hcy hdx hdy
       have ad0:ad.add 0=ad:=by simp[Addr.add]
       rw[ad0]at hdx hdy
       clear hp hq e' ad0
       by_cases hx:x=x'
       ·by_cases hy:y=y'
        ·subst hx hy
         have HS:=Lib.hid (hst.out (HP.out.1.symm.trans HP.out.2))
         clear hne hst HP
         go_wp2_with fail
         go_quiet (fail)
         go_wp2_with fail
         go_roundw
         case rel=>exact⟨k+1,by omega,.inl (by omega),HS,by go_num,below_drewN hb5 _⟩
         case measure=>simp[intOf];omega
        ·have H3:Hid (res=3):=by
          show _=_
          rw[HR.out,if_pos (hne.out (by rw[←HP.out.1,←HP.out.2];simp[hy]))]
         subst hx
         have hy':(y != y')=true:=by simpa using hy
         clear hne hst HP
         go_wp2_with fail
         go_quiet (fail)
         go_wp2_with fail
         go_ret
         exact⟨by rw[H3.out];rfl,below_drewN (HB4.out.2.2.trans ((hsz.out.1.trans (hb5.mono hsz.out.1.size)).mono hsz.out.2)) _⟩
       ·have H3:Hid (res=3):=by
         show _=_
         rw[HR.out,if_pos (hne.out (by rw[←HP.out.1,←HP.out.2];simp[hx]))]
        have hx':(x != x')=true:=by simpa using hx
        clear hne hst HP
        go_wp2_with fail
        go_quiet (fail)
        go_wp2_with fail
        go_ret
        exact⟨by rw[H3.out];rfl,below_drewN (HB4.out.2.2.trans ((hsz.out.1.trans (hb5.mono hsz.out.1.size)).mono hsz.out.2)) _⟩
      ·have hdif:difB es4=false:=difB_not fun i hi=>hall.out i (by have:=HN.out;omega) hi
       have HD:Hid (res=if es4≠[]then 1 else if prB ⟨ax,ay⟩ ⟨bx,by_⟩ ⟨cx,cy⟩ ⟨dx,dy⟩=true then 2 else 0):=by
        show _=_
        rw[HR.out,hdif,if_neg (by decide)]
       clear hdif hall HR
       have hBf:=Lib.hid (HB4.out.2.2.trans ((hsz.out.1.trans (hb5.mono hsz.out.1.size)).mono hsz.out.2))
       by_cases hn0:0<n
       ·have H1:Hid (res=1):=by
         show _=_
         rw[HD.out,if_pos (by rintro rfl;have:=HN.out;simp at this;omega)]
        go_wp2_with fail
        go_ret
        exact⟨by rw[H1.out];rfl,hBf.out⟩
       ·have hn0':n=0:=by omega
        subst hn0'
        have HD2:Hid (res=if prB ⟨ax,ay⟩ ⟨bx,by_⟩ ⟨cx,cy⟩ ⟨dx,dy⟩=true then 2 else 0):=by
         show _=_
         rw[HD.out,if_neg (by intro h;apply h;exact List.eq_nil_of_length_eq_zero HN.out.symm)]
        clear HD
        have q1:=sgn_bd (cr ⟨ax,ay⟩ ⟨bx,by_⟩ ⟨cx,cy⟩)
        have q2:=sgn_bd (cr ⟨ax,ay⟩ ⟨bx,by_⟩ ⟨dx,dy⟩)
        have q3:=sgn_bd (cr ⟨cx,cy⟩ ⟨dx,dy⟩ ⟨ax,ay⟩)
        have q4:=sgn_bd (cr ⟨cx,cy⟩ ⟨dx,dy⟩ ⟨bx,by_⟩)
        unfold prB at HD2
        generalize sgn (cr ⟨ax,ay⟩ ⟨bx,by_⟩ ⟨cx,cy⟩)=s1 at *
        generalize sgn (cr ⟨ax,ay⟩ ⟨bx,by_⟩ ⟨dx,dy⟩)=s2 at *
        generalize sgn (cr ⟨cx,cy⟩ ⟨dx,dy⟩ ⟨ax,ay⟩)=s3 at *
        generalize sgn (cr ⟨cx,cy⟩ ⟨dx,dy⟩ ⟨bx,by_⟩)=s4 at *
        obtain⟨M1,hM1⟩:∃M,M=s1*s2:=⟨_,rfl⟩
        obtain⟨M2,hM2⟩:∃M,M=s3*s4:=⟨_,rfl⟩
        rw[←hM1]at HD2
        have m1:IntKind.i64.wrap (s1*s2)=M1:=(sgn_prod q1 q2).trans hM1.symm
        rw[←hM2]at HD2
        have m2:IntKind.i64.wrap (s3*s4)=M2:=(sgn_prod q3 q4).trans hM2.symm
        have hbx:=(hsz.out.1.trans (hb5.mono hsz.out.1.size))
        obtain⟨hlt,hBox,hBW⟩:=HB4.out
        have hH0:wr.drew.cell? ⟨w.heap.size,0,none⟩=some (.int .i64 ax)∧wr.drew.cell? ⟨w.heap.size,1,none⟩=some (.int .i64 ay)∧wr.drew.cell? ⟨w.heap.size+1,0,none⟩=some (.int .i64 bx)∧wr.drew.cell? ⟨w.heap.size+1,1,none⟩=some (.int .i64 by_)∧wr.drew.cell? ⟨w.heap.size+1+1,0,none⟩=some (.int .i64 cx)∧wr.drew.cell? ⟨w.heap.size+1+1,1,none⟩=some (.int .i64 cy)∧wr.drew.cell? ⟨w.heap.size+1+1+1,0,none⟩=some (.int .i64 dx)∧wr.drew.cell? ⟨w.heap.size+1+1+1,1,none⟩=some (.int .i64 dy)∧Below W.heap.size W wr.drew:=by
         obtain⟨g1,g2,g3,g4,g5,g6,g7,g8⟩:=hBox.on hlt hbx
         exact⟨g1,g2,g3,g4,g5,g6,g7,g8,hbx.drew⟩
        have HBW:=Lib.hid hBW
        clear hbx hBox q1 q2 q3 q4 hBf hb5 hrd HN hsz hBW hM1 hM2
        by_cases hp:M1<0
        ·have hd1:decide (M1<0)=true:=decide_eq_true hp
         by_cases hq:M2<0
         ·have hd2:decide (M2<0)=true:=decide_eq_true hq
          have HRR:Hid (res=2):=by
           show _=_
           rw[HD2.out,if_pos (decide_eq_true ⟨hp,hq⟩)]
          clear HD2 hp hq
          go_wp2_with fail
          refine wp_region_noPanic ?_
          refine wp_region_held_drew (S:=fun V=>V.cell? ⟨w.heap.size,0,none⟩=some (.int .i64 ax)∧V.cell? ⟨w.heap.size,1,none⟩=some (.int .i64 ay)∧V.cell? ⟨w.heap.size+1,0,none⟩=some (.int .i64 bx)∧V.cell? ⟨w.heap.size+1,1,none⟩=some (.int .i64 by_)∧V.cell? ⟨w.heap.size+1+1,0,none⟩=some (.int .i64 cx)∧V.cell? ⟨w.heap.size+1+1,1,none⟩=some (.int .i64 cy)∧V.cell? ⟨w.heap.size+1+1+1,0,none⟩=some (.int .i64 dx)∧V.cell? ⟨w.heap.size+1+1+1,1,none⟩=some (.int .i64 dy)∧Below W.heap.size W V) (by kernel_rfl) ?_ (fun hHeld=>?_)
          ·exact hH0
          refine tk 0 ?_
          refine tk 1 ?_
          refine tk 2 ?_
          refine tk 4 ?_
          refine tk 5 ?_
          refine tk 6 ?_
          refine rd1 3 fun K hK=>?_
          go_simp
          go_at_call 83
          with_reducible refine(HT.out.1 _).mono ?_
          rintro e w' ⟨rfl,hb'⟩
          dsimp only
          refine hK.out _ _ (heldM hlt (by assumption) hb') fun hHeld=>?_
          clear hK K
          try simp only[Act.put,sb0,sc0,sc1]
          refine rd1 7 fun K hK=>?_
          go_simp
          go_at_call 83
          with_reducible refine(HT.out.2.1 _).mono ?_
          rintro e w' ⟨rfl,hb'⟩
          dsimp only
          refine hK.out _ _ (heldM hlt (by assumption) hb') fun hHeld=>?_
          clear hK K
          try simp only[Act.put,sb0,sc0,sc1]
          refine tk 8 ?_
          refine tk 9 ?_
          refine tk 10 ?_
          refine tk 11 ?_
          refine tk 12 ?_
          refine tk 13 ?_
          refine tk 15 ?_
          refine tk 16 ?_
          refine tk 17 ?_
          refine rd1 14 fun K hK=>?_
          go_simp
          go_at_call 83
          with_reducible refine(HT.out.2.2.1 _).mono ?_
          rintro e w' ⟨rfl,hb'⟩
          dsimp only
          refine hK.out _ _ (heldM hlt (by assumption) hb') fun hHeld=>?_
          clear hK K
          try simp only[Act.put,sb0,sc0,sc1]
          refine rd1 18 fun K hK=>?_
          go_simp
          go_at_call 83
          with_reducible refine(HT.out.2.2.2 _).mono ?_
          rintro e w' ⟨rfl,hb'⟩
          dsimp only
          refine hK.out _ _ (heldM hlt (by assumption) hb') fun hHeld=>?_
          clear hK K
          try simp only[Act.put,sb0,sc0,sc1]
          refine tk 19 ?_
          refine tk 20 ?_
          refine tk 21 ?_
          refine wpAnyH_done (by kernel_rfl) ?_ _
          refine NoPanic.normal ?_
          go_wp2_with fail
          go_ret
          exact⟨by rw[HRR.out];rfl,HBW.out.trans (hHeld.2.2.2.2.2.2.2.2.mono HBW.out.size)⟩
         ·have hd2:decide (M2<0)=false:=decide_eq_false hq
          have HRR:Hid (res=0):=by
           show _=_
           rw[HD2.out,if_neg (by rw[decide_eq_true_eq];exact fun h=>hq h.2)]
          clear HD2 hp hq
          go_wp2_with fail
          refine wp_region_noPanic ?_
          refine wp_region_held_drew (S:=fun V=>V.cell? ⟨w.heap.size,0,none⟩=some (.int .i64 ax)∧V.cell? ⟨w.heap.size,1,none⟩=some (.int .i64 ay)∧V.cell? ⟨w.heap.size+1,0,none⟩=some (.int .i64 bx)∧V.cell? ⟨w.heap.size+1,1,none⟩=some (.int .i64 by_)∧V.cell? ⟨w.heap.size+1+1,0,none⟩=some (.int .i64 cx)∧V.cell? ⟨w.heap.size+1+1,1,none⟩=some (.int .i64 cy)∧V.cell? ⟨w.heap.size+1+1+1,0,none⟩=some (.int .i64 dx)∧V.cell? ⟨w.heap.size+1+1+1,1,none⟩=some (.int .i64 dy)∧Below W.heap.size W V) (by kernel_rfl) ?_ (fun hHeld=>?_)
          ·exact hH0
          refine tk 0 ?_
          refine tk 1 ?_
          refine tk 2 ?_
          refine tk 4 ?_
          refine tk 5 ?_
          refine tk 6 ?_
          refine rd1 3 fun K hK=>?_
          go_simp
          go_at_call 83
          with_reducible refine(HT.out.1 _).mono ?_
          rintro e w' ⟨rfl,hb'⟩
          dsimp only
          refine hK.out _ _ (heldM hlt (by assumption) hb') fun hHeld=>?_
          clear hK K
          try simp only[Act.put,sb0,sc0,sc1]
          refine rd1 7 fun K hK=>?_
          go_simp
          go_at_call 83
          with_reducible refine(HT.out.2.1 _).mono ?_
          rintro e w' ⟨rfl,hb'⟩
          dsimp only
          refine hK.out _ _ (heldM hlt (by assumption) hb') fun hHeld=>?_
          clear hK K
          try simp only[Act.put,sb0,sc0,sc1]
          refine tk 8 ?_
          refine tk 9 ?_
          refine tk 10 ?_
          refine tk 11 ?_
          refine tk 12 ?_
          refine tk 13 ?_
          refine tk 15 ?_
          refine tk 16 ?_
          refine tk 17 ?_
          refine rd1 14 fun K hK=>?_
          go_simp
          go_at_call 83
          with_reducible refine(HT.out.2.2.1 _).mono ?_
          rintro e w' ⟨rfl,hb'⟩
          dsimp only
          refine hK.out _ _ (heldM hlt (by assumption) hb') fun hHeld=>?_
          clear hK K
          try simp only[Act.put,sb0,sc0,sc1]
          refine rd1 18 fun K hK=>?_
          go_simp
          go_at_call 83
          with_reducible refine(HT.out.2.2.2 _).mono ?_
          rintro e w' ⟨rfl,hb'⟩
          dsimp only
          refine hK.out _ _ (heldM hlt (by assumption) hb') fun hHeld=>?_
          clear hK K
          try simp only[Act.put,sb0,sc0,sc1]
          refine tk 19 ?_
          refine tk 20 ?_
          refine tk 21 ?_
          refine wpAnyH_done (by kernel_rfl) ?_ _
          refine NoPanic.normal ?_
          go_wp2_with fail
          go_ret
          exact⟨by rw[HRR.out];rfl,HBW.out.trans (hHeld.2.2.2.2.2.2.2.2.mono HBW.out.size)⟩
        ·have hd1:decide (M1<0)=false:=decide_eq_false hp
         have HRR:Hid (res=0):=by
          show _=_
          rw[HD2.out,if_neg (by rw[decide_eq_true_eq];exact fun h=>hp h.1)]
         clear HD2 hp
         go_wp2_with fail
         refine wp_region_noPanic ?_
         refine wp_region_held_drew (S:=fun V=>V.cell? ⟨w.heap.size,0,none⟩=some (.int .i64 ax)∧V.cell? ⟨w.heap.size,1,none⟩=some (.int .i64 ay)∧V.cell? ⟨w.heap.size+1,0,none⟩=some (.int .i64 bx)∧V.cell? ⟨w.heap.size+1,1,none⟩=some (.int .i64 by_)∧V.cell? ⟨w.heap.size+1+1,0,none⟩=some (.int .i64 cx)∧V.cell? ⟨w.heap.size+1+1,1,none⟩=some (.int .i64 cy)∧V.cell? ⟨w.heap.size+1+1+1,0,none⟩=some (.int .i64 dx)∧V.cell? ⟨w.heap.size+1+1+1,1,none⟩=some (.int .i64 dy)∧Below W.heap.size W V) (by kernel_rfl) ?_ (fun hHeld=>?_)
         ·exact hH0
         refine tk 0 ?_
         refine tk 1 ?_
         refine tk 2 ?_
         refine tk 4 ?_
         refine tk 5 ?_
         refine tk 6 ?_
         refine rd1 3 fun K hK=>?_
         go_simp
         go_at_call 83
         with_reducible refine(HT.out.1 _).mono ?_
         rintro e w' ⟨rfl,hb'⟩
         dsimp only
         refine hK.out _ _ (heldM hlt (by assumption) hb') fun hHeld=>?_
         clear hK K
         try simp only[Act.put,sb0,sc0,sc1]
         refine rd1 7 fun K hK=>?_
         go_simp
         go_at_call 83
         with_reducible refine(HT.out.2.1 _).mono ?_
         rintro e w' ⟨rfl,hb'⟩
         dsimp only
         refine hK.out _ _ (heldM hlt (by assumption) hb') fun hHeld=>?_
         clear hK K
         try simp only[Act.put,sb0,sc0,sc1]
         refine tk 8 ?_
         refine tk 9 ?_
         refine tk 10 ?_
         refine tu 11 ?_
         refine tu 12 ?_
         refine tu 13 ?_
         refine tu 14 ?_
         refine tu 15 ?_
         refine tu 16 ?_
         refine tu 17 ?_
         refine tu 18 ?_
         refine tu 19 ?_
         refine tu 20 ?_
         refine tk 21 ?_
         refine wpAnyH_done (by kernel_rfl) ?_ _
         refine NoPanic.normal ?_
         go_wp2_with fail
         go_ret
         exact⟨by rw[HRR.out];rfl,HBW.out.trans (hHeld.2.2.2.2.2.2.2.2.mono HBW.out.size)⟩
theorem foldl_push (l:List UInt8):∀s:ByteArray,(l.map fun b=>(b.toNat:Int)).foldl (fun r n=>r.push (UInt8.ofNat n.toNat)) s=⟨s.data++l.toArray⟩:=by
 induction l with
 |nil=>intro s;simp
 |cons b l ih=>
  intro s
  simp only[List.map_cons,List.foldl_cons]
  rw[ih]
  have:UInt8.ofNat ((b.toNat:Int)).toNat=b:=by simp
  rw[this]
  simp[ByteArray.push]
theorem run_str {xs:List UInt8} {A:Option Addr} {B n c:Nat} {W:World} (h:Reads W B 1 A n (u8s xs)):
 (convert 50 9 (.slice A n c)).run Tryz.prog W= .ok (.string ⟨xs.toArray⟩) W:=by
 rw[run_convert_bytes_string W 50 9 5 A n c Tryz.underlying50 Tryz.underlying5 Tryz.underlying9]
 have hl:=h.len8
 rcases A with _|a
 ·have hn:n=0:=by
   rcases Nat.eq_zero_or_pos n with h0|h0
   ·exact h0
   ·obtain⟨ad,h,_⟩:=h.2 h0
    cases h
  subst hn
  obtain rfl:=List.eq_nil_of_length_eq_zero hl
  unfold Conv.bytesToString
  simp[Sem.run_pure]
  rfl
 ·have hL:(loadCells a n).run Tryz.prog W= .ok (((xs.map fun b=>(b.toNat:Int)).map (Value.int .u8)).toArray) W:=by
   rw[←hl]
   have e:xs.length=(((xs.map fun b=>(b.toNat:Int)).map (Value.int .u8))).length:=by simp
   rw[e]
   refine run_loadCells_list (P:=Tryz.prog) W a _ ?_
   intro j v hv
   have hv':(u8s xs)[j]?=some v:=by rw[←hv];simp[u8s,Function.comp_def]
   have hj:j<n:=by
    have:=(List.getElem?_eq_some_iff.1 hv').1
    rw[u8s_length]at this
    omega
   obtain⟨ad,ha,_,hc⟩:=h.2 (by omega)
   cases ha
   exact hc j v hv'
  rw[run_bytesToString W a n c _ hL,foldl_push]
  simp
theorem info_cell:(Tryz.prog.info? 102).map (fun i=>(i.zero,i.size,i.bytes))=some (some (.agg #[.int .i64 0,.int .i64 0]),2,16):=by kernel_rfl
/-- All cells of a sound window, and how many columns and rows there are. -/
def nCol (v:Win):Nat:=(v.hx/268435456-v.lx/268435456+1).toNat
def nRow (v:Win):Nat:=(v.hy/268435456-v.ly/268435456+1).toNat
def spanW (v:Win):List Pt:=spanR (v.lx/268435456) (v.ly/268435456) (nRow v) (nCol v)
def spanC (v:Win):List Pt:=if winE v=0 then spanW v else[]
theorem win_good {v:Win} (h:winE v=0):(-1073741824≤v.lx∧v.lx≤v.hx∧v.hx≤1073741824)∧(-1073741824≤v.ly∧v.ly≤v.hy∧v.hy≤1073741824):=by
 unfold winE at h
 split at h
 ·rename_i hg
  simp only[goodL,List.all_cons,List.all_nil,Bool.and_true,Bool.and_eq_true,good_iff,Win.low,Win.high]at hg
  split at h
  ·omega
  ·omega
 ·omega
/-- What stands at a loop's head: so many columns, and so many cells of the next one. -/
def SpanRel (v:Win) (w:World) (i j:Nat) (out:Value) (wr:World):Prop:=
 ∃(n c:Nat) (A:Option Addr),out= .slice A n c∧n≤1000∧wr.ownsRow w.heap.size 102 2 (.slice A n c) n (ptsV (spanR (v.lx/268435456) (v.ly/268435456) (nRow v) i++colL (v.lx/268435456+(i:Int)) (v.ly/268435456) j))∧Below w.heap.size w wr
theorem SpanRel.step {v:Win} {w w2:World} {i j n:Nat} {v2:Value} {x y:Int} (hi:i<9) (hj:j<9) (hr:nRow v≤9) (hx:x=v.lx/268435456+(i:Int)) (hy:y=v.ly/268435456+(j:Int))
 (ho:w2.ownsRow w.heap.size 102 2 v2 (n+1) (ptsV (spanR (v.lx/268435456) (v.ly/268435456) (nRow v) i++colL (v.lx/268435456+(i:Int)) (v.ly/268435456) j)++[.int .i64 x,.int .i64 y])) (hb:Below w.heap.size w w2):
 SpanRel v w i (j+1) v2 w2:=by
 obtain⟨A,c,rfl⟩:=own_form ho
 have e:ptsV (spanR (v.lx/268435456) (v.ly/268435456) (nRow v) i++colL (v.lx/268435456+(i:Int)) (v.ly/268435456) j)++[.int .i64 x,.int .i64 y]=ptsV (spanR (v.lx/268435456) (v.ly/268435456) (nRow v) i++colL (v.lx/268435456+(i:Int)) (v.ly/268435456) (j+1)):=by
  rw[colL_succ,←List.append_assoc,ptsV_append _ [_],hx,hy];rfl
 rw[e]at ho
 have hl:=ho.1
 rw[ptsV_length,List.length_append,spanR_length,colL_length]at hl
 have:i*nRow v≤8*9:=Nat.mul_le_mul (by omega) hr
 exact⟨n+1,c,A,rfl,by omega,ho,hb⟩
theorem SpanRel.next {v:Win} {w w2:World} {i:Nat} {out:Value} (h:SpanRel v w i (nRow v) out w2):SpanRel v w (i+1) 0 out w2:=by
 obtain⟨n,c,A,rfl,hn,ho,hb⟩:=h
 refine⟨n,c,A,rfl,hn,?_,hb⟩
 rw[spanR_succ]
 simpa[colL]using ho
theorem new_cell (w:World) (x y:Int):Reads (w.alloc (.cells #[.int .i64 x,.int .i64 y] 102)) (w.heap.size+1) 2 (some ⟨w.heap.size,0,none⟩) 1 [.int .i64 x,.int .i64 y]:=by
 have:=Reads.made w #[.int .i64 x,.int .i64 y] 102 (0,0) 2 1 _ rfl rfl
 simpa using this
def SpanPost (v:Win) (w:World) (e:Ending) (w':World):Prop:=
 ∃A c,e= .returned (.tuple #[.slice A (spanC v).length c,.int .i64 (winE v)])∧w'.ownsRow w.heap.size 102 2 (.slice A (spanC v).length c) (spanC v).length (ptsV (spanC v))∧Below w.heap.size w w'
set_option maxHeartbeats 400000 in
theorem span_no (v:Win) (w:World) (hv:v.inI) (hE:winE v≠0):
 Calls Tryz.prog 154 #[winV v] w (SpanPost v w):=by
 have h0:(winE v != 0)=true:=by simpa using hE
 have hc:spanC v=[]:=by unfold spanC;rw[if_neg hE]
 have HC:=Lib.hid hc
 clear hc hE
 unfold winV
 go_enter Tryz.func154,Tryz.ntmps154
 go_wp2_with fail
 refine(wcheck_any v _ hv).mono ?_
 rintro e w1 ⟨rfl,hb1⟩
 go_wp2_with fail
 go_ret2
 unfold SpanPost
 rw[HC.out]
 exact⟨none,0,rfl,World.ownsRow_nil _ _ _ _,((Below.refl w.heap.size w).alloc (Nat.le_refl _) _).trans (hb1.mono (by simp))⟩
set_option maxRecDepth 100000 in
set_option maxHeartbeats 1600000 in
theorem span_yes (v:Win) (w:World) (hv:v.inI) (hE:winE v=0):
 Calls Tryz.prog 154 #[winV v] w (SpanPost v w):=by
 obtain⟨i0,hi0,hz0,hz1,hz2⟩:=info_parts info_cell
 have h0:(winE v != 0)=false:=by rw[hE];rfl
 obtain⟨⟨g1,g2,g3⟩,g4,g5,g6⟩:=win_good hE
 have hc:spanC v=spanW v:=by unfold spanC;rw[if_pos hE]
 have hW:=HasWin.new w v 100
 have HC:=Lib.hid hc
 have HE:=Lib.hid hE
 obtain⟨x0,hx0⟩:∃x0,x0=v.lx/268435456:=⟨_,rfl⟩
 obtain⟨x1,hx1⟩:∃x1,x1=v.hx/268435456:=⟨_,rfl⟩
 obtain⟨y0,hy0⟩:∃y0,y0=v.ly/268435456:=⟨_,rfl⟩
 obtain⟨y1,hy1⟩:∃y1,y1=v.hy/268435456:=⟨_,rfl⟩
 have b1: -4≤x0∧x0≤x1∧x1≤4:=by omega
 have b2: -4≤y0∧y0≤y1∧y1≤4:=by omega
 have hm:(nRow v:Int)=y1-y0+1:=by unfold nRow;omega
 have hk:(nCol v:Int)=x1-x0+1:=by unfold nCol;omega
 have hx0':v.lx/268435456=x0:=hx0.symm
 have hx1':v.hx/268435456=x1:=hx1.symm
 have hy0':v.ly/268435456=y0:=hy0.symm
 have hy1':v.hy/268435456=y1:=hy1.symm
 have HX:=Lib.hid (And.intro hx0' hy0')
 clear hx0 hx1 hy0 hy1 hc hE
 obtain⟨c1,c2,c3⟩:=b1
 obtain⟨d1,d2,d3⟩:=b2
 unfold winV
 go_enter Tryz.func154,Tryz.ntmps154
 go_wp2_with fail
 refine(wcheck_any v _ hv).mono ?_
 rintro e w1 ⟨rfl,hb1⟩
 have hw1:=hW.on hb1
 have hB1:=((Below.refl w.heap.size w).alloc (Nat.le_refl _) (.cells #[.int .i64 v.lx,.int .i64 v.ly,.int .i64 v.hx,.int .i64 v.hy] 100)).trans (hb1.mono (by simp))
 obtain⟨k1,k2,k3,k4,k5⟩:=hw1
 have hw1:=hW.on hb1
 clear hb1 hW
 go_wp2_with (go_at_call 185;refine(cell_any _ _).mono ?_;rintro e w' ⟨rfl,rfl⟩)
 clear k1 k2 k3 k4
 go_loopw [5,6] (fun out x wr=>∃i:Nat,i≤nCol v∧x= .int .i64 (x0+(i:Int))∧SpanRel v w1 i 0 out wr) (fun _ x _=>(x1+1-intOf x).toNat)
 case atStart=>exact⟨0,Nat.zero_le _,by simp,0,0,none,rfl,by omega,World.ownsRow_nil _ _ _ _,Below.refl _ _⟩
 case round=>
  obtain⟨i,hi,rfl,n,c,A,rfl,hn,hown,hbel⟩:=hrel
  obtain⟨k1,k2,k3,k4,k5'⟩:=hw1.on hbel
  by_cases hlt:i<nCol v
  ·have hle:x0+(i:Int)≤x1:=by omega
   go_wp2_with (go_at_call 185;refine(cell_any _ _).mono ?_;rintro e w' ⟨rfl,rfl⟩)
   obtain⟨wo,rfl⟩:∃wo:World,wo=wr:=⟨_,rfl⟩
   have hj0:SpanRel v w1 i 0 (.slice A n c) wo:=⟨n,c,A,rfl,hn,hown,hbel⟩
   clear hown hbel k1 k2 k3 k4 k5'
   go_loopw [5,7] (fun out y wr=>∃j:Nat,j≤nRow v∧y= .int .i64 (y0+(j:Int))∧SpanRel v w1 i j out wr) (fun _ y _=>(y1+1-intOf y).toNat)
   case atStart=>exact⟨0,Nat.zero_le _,by simp,hj0⟩
   case round=>
    obtain⟨j,hj,rfl,n,c,A,rfl,hn,hown,hbel⟩:=hrel
    obtain⟨k1,k2,k3,k4,k5'⟩:=hw1.on hbel
    by_cases hlt2:j<nRow v
    ·have hle2:y0+(j:Int)≤y1:=by omega
     go_wp2_with (first
      |(go_at_call 185;refine(cell_any _ _).mono ?_;rintro e w' ⟨rfl,rfl⟩)
      |(at_builtin;refine wpList_append_any _ rfl (.tmp 37) (.tmp 41) _ rfl w1.heap.size 102 i0 _ 2 16 Tryz.underlying97 hi0 hz0 hz1 hz2 rfl (by omega) (.slice A n c) n _ rfl (hown.alloc _) (wr.heap.size+1) (some ⟨wr.heap.size,0,none⟩) 1 1 _ rfl (new_cell wr (x0+(i:Int)) (y0+(j:Int))) (by simp[Value.oneCell']) (by simp only[maxLen];omega) (by omega) (by simp;have:=hbel.size;omega) ?_
        intro v3 w3 hown3 hg3 hat3))
     have hB3:Below w1.heap.size w1 w3:=(hbel.alloc hbel.size _).grown hg3 (by simp;have:=hbel.size;omega) (fun k hk=>(hown.lt k hk).1)
     have hrel2:=Lib.hid (SpanRel.step (by omega) (by omega) (by omega) (by rw[HX.out.1]) (by rw[HX.out.2]) hown3 hB3)
     obtain⟨A3,c3,rfl⟩:=own_form hown3
     have hyw:IntKind.i64.wrap (y0+(j:Int)+1)=y0+(j:Int)+1:=IntWalk.i64_in _ (by omega)
     clear hown3 hg3 hat3 hB3 hown hbel
     go_wp2
     go_roundw
     case rel=>exact⟨j+1,by omega,by simp[Int.add_assoc],hrel2.out⟩
     case measure=>simp[intOf];omega
    ·have hjn:j=nRow v:=by omega
     subst hjn
     have hrel3:=Lib.hid (SpanRel.next ⟨n,c,A,rfl,hn,hown,hbel⟩)
     have hxw:IntKind.i64.wrap (x0+(i:Int)+1)=x0+(i:Int)+1:=IntWalk.i64_in _ (by omega)
     have hyl:¬(y0+(nRow v:Int)≤y1):=by omega
     clear hown hbel
     go_wp2_with (go_at_call 185;refine(cell_any _ _).mono ?_;rintro e w' ⟨rfl,rfl⟩)
     go_roundw
     case rel=>exact⟨i+1,by omega,by simp[Int.add_assoc],hrel3.out⟩
     case measure=>simp[intOf];omega
  ·have hin:i=nCol v:=by omega
   subst hin
   have hxl:¬(x0+(nCol v:Int)≤x1):=by omega
   have hlen:n=(spanW v).length:=by
    have:=hown.1
    rw[ptsV_length,List.length_append,colL_length]at this
    unfold spanW
    omega
   have hown2:wr.ownsRow w1.heap.size 102 2 (.slice A n c) n (ptsV (spanW v)):=by
    unfold spanW
    simpa[colL]using hown
   have hB2:=hB1.trans (hbel.mono hB1.size)
   have hE:=HE.out
   go_wp2_with (go_at_call 185;refine(cell_any _ _).mono ?_;rintro e w' ⟨rfl,rfl⟩)
   go_ret2
   unfold SpanPost
   rw[HC.out,HE.out]
   subst hlen
   exact⟨A,c,rfl,own_mono hown2 hB1.size,hB2⟩
theorem span_any (v:Win) (w:World) (hv:v.inI):
 Calls Tryz.prog 154 #[winV v] w (SpanPost v w):=by
 by_cases hE:winE v=0
 ·exact span_yes v w hv hE
 ·exact span_no v w hv hE
end Go.Proofs.YtpkeacnacjnlcaaGreat
