/- Words for regions that draw their order, with calls, an alloc and its store: what is held of four cells; the block that the region makes. -/
import Derived.Test.YtpkeacnacjnlcaaGreatK06
import Derived.Test.YtpkeacnacjnlcaaGreatK08
namespace Go.Proofs.YtpkeacnacjnlcaaGreat
open Go.RowKit
/-- Four cells that lie below W's end, as they are in V; and V is W but for new blocks. -/
abbrev HoldC (W V:World) (p q r s:Addr) (vp vq vr vs:Value):Prop:=V.cell? p=some vp∧V.cell? q=some vq∧V.cell? r=some vr∧V.cell? s=some vs∧Below W.heap.size W V
theorem heldC {W V V':World} {p q r s:Addr} {vp vq vr vs:Value} (hp:p.block<W.heap.size∧q.block<W.heap.size∧r.block<W.heap.size∧s.block<W.heap.size) (h:HoldC W V p q r s vp vq vr vs) (hb:Below V.heap.size V V'):HoldC W V' p q r s vp vq vr vs:=by
 obtain⟨h1,h2,h3,h4,h5⟩:=h
 have hl:=h5.size
 exact⟨(hb.cell (by omega)).trans h1,(hb.cell (by omega)).trans h2,(hb.cell (by omega)).trans h3,(hb.cell (by omega)).trans h4,h5.trans (hb.mono hl)⟩
theorem newA {N:Nat} {V V':World} {t:TypeId} {cs:Array Value} (h:N≤V.heap.size) (hb:Below (V.alloc (.cells cs t)).heap.size (V.alloc (.cells cs t)) V'):Blk V' V.heap.size t cs∧N≤V.heap.size:=⟨(Blk.new V t cs).below hb (by simp),h⟩
theorem newD {N:Nat} {V V':World} {t:TypeId} {cs:Array Value} (h:N≤V.heap.size) (hb:Below (V.alloc (.cells cs t)).drew.heap.size (V.alloc (.cells cs t)).drew V'):Blk V' V.heap.size t cs∧N≤V.heap.size:=
 ⟨(Blk.new V t cs).drew.below hb (by rw[World.size_drew,World.size_alloc];omega),h⟩
theorem newB {N:Nat} {V V':World} {t:TypeId} {cs:Array Value} {a:Nat} (h:Blk V a t cs∧N≤a) (hb:Below V.heap.size V V'):Blk V' a t cs∧N≤a:=⟨h.1.below hb h.1.lt,h.2⟩
theorem cell_set2 (V:World) (a:Nat) (p:Addr) (u v:Value) (hk:p.block≠a):((V.setCell ⟨a,0,none⟩ u).setCell ⟨a,1,none⟩ v).cell? p=V.cell? p:=by
 rw[World.cell?_setCell_other _ _ _ _ (fun e=>hk (by cases e;rfl)),World.cell?_setCell_other _ _ _ _ (fun e=>hk (by cases e;rfl))]
theorem heldCS {W V:World} {p q r s:Addr} {vp vq vr vs:Value} {t:TypeId} {cs:Array Value} {a:Nat} (hp:p.block<W.heap.size∧q.block<W.heap.size∧r.block<W.heap.size∧s.block<W.heap.size) (h:HoldC W V p q r s vp vq vr vs) (hf:Blk V a t cs∧W.heap.size≤a) (u v:Value):HoldC W ((V.setCell ⟨a,0,none⟩ u).setCell ⟨a,1,none⟩ v) p q r s vp vq vr vs:=by
 obtain⟨h1,h2,h3,h4,h5⟩:=h
 have hg:=hf.2
 exact⟨(cell_set2 V a _ u v (by omega)).trans h1,(cell_set2 V a _ u v (by omega)).trans h2,(cell_set2 V a _ u v (by omega)).trans h3,(cell_set2 V a _ u v (by omega)).trans h4,(h5.setCell (p:=⟨a,0,none⟩) hg u).setCell (p:=⟨a,1,none⟩) hg v⟩
theorem heldCT {W V:World} {p q r s:Addr} {vp vq vr vs:Value} {o o':Obj} (hp:p.block<W.heap.size∧q.block<W.heap.size∧r.block<W.heap.size∧s.block<W.heap.size) (hg:W.heap.size≤V.heap.size) (h:HoldC W (V.alloc o) p q r s vp vq vr vs):HoldC W (V.alloc o') p q r s vp vq vr vs:=by
 obtain⟨h1,h2,h3,h4,h6⟩:=h
 have hn:∀(p:Addr),p.block<V.heap.size→(V.alloc o').cell? p=(V.alloc o).cell? p:=fun p hk=>by
  rw[World.cell?_alloc_lt V o' p hk,World.cell?_alloc_lt V o p hk]
 refine⟨(hn _ (by omega)).trans h1,(hn _ (by omega)).trans h2,(hn _ (by omega)).trans h3,(hn _ (by omega)).trans h4,?_⟩
 exact⟨h6.os,h6.tape,h6.output,by rw[World.size_alloc];omega,fun k hk=>(Below.heap_alloc V o' k (by omega)).trans ((Below.heap_alloc V o k (by omega)).symm.trans (h6.block k hk))⟩
theorem areaK_parts (xs:List Pt) (k:Nat):areaK xs k=(ptAt xs k).x*(ptAt xs ((k+1)%xs.length)).y-(ptAt xs k).y*(ptAt xs ((k+1)%xs.length)).x:=by
 unfold areaK cr
 simp only
 grind
/-- The sum of the first k shares. -/
def areaS (xs:List Pt) (k:Nat):Int:=sumL ((List.range k).map (areaK xs))
theorem areaS_zero (xs:List Pt):areaS xs 0=0:=rfl
theorem areaS_succ (xs:List Pt) (k:Nat):areaS xs (k+1)=areaS xs k+areaK xs k:=by
 unfold areaS sumL
 rw[List.range_succ,List.map_append,List.foldl_append]
 rfl
theorem areaS_all (xs:List Pt):areaS xs xs.length=areaZ xs:=rfl
theorem areaK_bd {xs:List Pt} (h:goodL xs=true) (k:Nat): -4611686018427387904≤areaK xs k∧areaK xs k≤4611686018427387904:=cr_bd (a:=⟨0,0⟩) (by decide) (ptAt_good h k) (ptAt_good h _)
theorem areaS_bd {xs:List Pt} (h:goodL xs=true) (k:Nat): -(4611686018427387904*(k:Int))≤areaS xs k∧areaS xs k≤4611686018427387904*(k:Int):=by
 induction k with
 |zero=>simp[areaS_zero]
 |succ k ih=>
  rw[areaS_succ]
  have:=areaK_bd h k
  omega
set_option maxRecDepth 100000 in
set_option maxHeartbeats 1600000 in
theorem areaR_good (xs:List Pt) (A:Option Addr) (n cap:Nat) (w:World) (hr:Reads w w.heap.size 2 A n (ptsV xs)) (hn:n≤128) (hg:goodL xs=true):
 Calls Tryz.prog 11 #[.slice A n cap] w fun e w'=>e= .returned (.tuple #[i128 (areaZ xs),.int .i64 0])∧Below w.heap.size w w':=by
 have hl:xs.length=n:=hr.lenPt
 have HL:=Lib.hid hl
 have HG:=Lib.hid hg
 have hgx:∀p∈xs,p.inI:=fun p hp=>good_in' (List.all_eq_true.1 hg p hp)
 have HR:=Lib.hid hr
 have hd128:decide ((128:Int)<(n:Int))=false:=decide_eq_false (by omega)
 have kg:∀W,Below w.heap.size w W→Calls Tryz.prog 29 #[.slice A n cap] W fun e w'=>e= .returned (.bool true)∧Below W.heap.size W w':=fun W hW=>by
  have:=goodR_any xs A n cap W ((hr.below hW).more hW.size) (by omega) hgx
  rwa [hg]at this
 have KG:=Lib.hid kg
 clear hr hg hgx hl kg
 obtain⟨z0,hz0⟩:∃z,z=areaZ xs:=⟨_,rfl⟩
 rw[←hz0]
 have HZ0:=Lib.hid hz0
 clear hz0
 unfold i128
 go_enter Tryz.func11,Tryz.ntmps11
 go_wp2_with fail
 have hb0:=(Below.refl w.heap.size w).alloc (Nat.le_refl _) (.cells #[.int .i64 0,.int .u64 0] 37)
 refine(KG.out _ hb0).mono ?_
 rintro e w1 ⟨rfl,hb1⟩
 have hB1:=below_on hb0 (Nat.le_refl _) hb1
 have hR1:=(Blk.new w 37 #[.int .i64 0,.int .u64 0]).below hb1 (by simp)
 clear hb0 hb1
 go_wp2_with fail
 have hsz1:=hB1.size
 have hlt1:=hR1.lt
 have hS0:=Blk.new w1 37 #[.int .i64 0,.int .u64 0]
 have hR0:=hR1.alloc (.cells #[.int .i64 0,.int .u64 0] 37)
 have hB0:=hB1.alloc hB1.size (.cells #[.int .i64 0,.int .u64 0] 37)
 generalize w1.alloc (.cells #[.int .i64 0,.int .u64 0] 37)=w0 at *
 clear hR1 hB1
 go_loopw [5] (fun i wr=>∃k:Nat,k≤n∧i= .int .i64 (k:Int)∧WdB wr w1.heap.size (areaS xs k)∧Blk wr w.heap.size 37 #[.int .i64 0,.int .u64 0]∧Below w.heap.size w wr) (fun i _=>n-(intOf i).toNat)
 case atStart=>exact⟨0,by omega,rfl,by rw[areaS_zero];exact hS0,hR0,hB0⟩
 case round=>
  clear hS0 hR0 hB0
  obtain⟨k,hk,rfl,hS,hR,hbel⟩:=hrel
  by_cases hlt:k<n
  ·obtain⟨ad,rfl,hbd,hkl,hcx,hcy⟩:=(HR.out.below hbel).pt hlt
   obtain⟨m,hm⟩:∃m,m=(k+1)%n:=⟨_,rfl⟩
   have hml:m<n:=by rw[hm];exact Nat.mod_lt _ (by omega)
   have hmi:((k:Int)+1).tmod (n:Int)=(m:Int):=by
    rw[hm,Int.tmod_eq_emod_of_nonneg (by omega),Int.natCast_emod]
    rfl
   obtain⟨ad',e',_,hml',hqx,hqy⟩:=(HR.out.below hbel).pt hml
   obtain rfl:ad=ad':=by simpa using e'
   obtain⟨p,hp⟩:∃p,p=ptAt xs k:=⟨_,rfl⟩
   obtain⟨q,hq⟩:∃q,q=ptAt xs m:=⟨_,rfl⟩
   rw[←ptAt_lt hkl,←hp]at hcx hcy
   rw[←ptAt_lt hml',←hq]at hqx hqy
   have hpg:good p=true:=by rw[hp];exact ptAt_good HG.out k
   have hqg:good q=true:=by rw[hq];exact ptAt_good HG.out m
   have hak:p.x*q.y-p.y*q.x=areaK xs k:=by rw[areaK_parts,HL.out,←hm,←hp,←hq]
   have HZ:=Lib.hid (And.intro hak (And.intro (areaS_succ xs k) (And.intro (areaK_bd HG.out k) (areaS_bd HG.out k))))
   have hmb:(m:Int)<(n:Int):=by omega
   have hw1:IntKind.i64.wrap ((k:Int)+1)=(k:Int)+1:=by rw[IntKind.wrap_i64];omega
   clear hm e' hml' hp hq hak hkl
   rw[good_iff]at hpg hqg
   have kx:∀W,Calls Tryz.prog 31 #[.int .i64 p.x,.int .i64 q.y] W fun e w'=>e= .returned (i128 (p.x*q.y))∧Below W.heap.size W w':=fun W=>mulR_any _ _ W (by omega) (by omega) (by omega) (by omega)
   have ky:∀W,Calls Tryz.prog 31 #[.int .i64 p.y,.int .i64 q.x] W fun e w'=>e= .returned (i128 (p.y*q.x))∧Below W.heap.size W w':=fun W=>mulR_any _ _ W (by omega) (by omega) (by omega) (by omega)
   have b1:=prod_bd p.x q.y (by omega) (by omega) (by omega) (by omega)
   have b2:=prod_bd p.y q.x (by omega) (by omega) (by omega) (by omega)
   have ks:∀W,Calls Tryz.prog 30 #[i128 (p.x*q.y),i128 (p.y*q.x)] W fun e w'=>e= .returned (.tuple #[i128 (areaK xs k),.int .i64 0])∧Below W.heap.size W w':=fun W=>by
    have:=subR_any (p.x*q.y) (p.y*q.x) W (by unfold small;omega) (by unfold small;omega) (by unfold small;omega)
    rwa [HZ.out.1]at this
   obtain⟨z,hz⟩:∃z,z=areaK xs k:=⟨_,rfl⟩
   obtain⟨u,hu⟩:∃u,u=areaS xs k:=⟨_,rfl⟩
   rw[←hz]at HZ ks
   rw[←hu]at HZ hS
   have ka:∀W,Calls Tryz.prog 32 #[i128 u,i128 z] W fun e w'=>e= .returned (.tuple #[i128 (areaS xs (k+1)),.int .i64 0])∧Below W.heap.size W w':=fun W=>by
    obtain⟨_,h2,h3,h4⟩:=HZ.out
    have:=addR_any u z W (by unfold small;omega) (by unfold small;omega) (by unfold small;omega)
    rwa [←h2]at this
   obtain⟨u',hu'⟩:∃u',u'=areaS xs (k+1):=⟨_,rfl⟩
   rw[←hu']at ka
   have HU:=Lib.hid hu'
   clear hz hu hu' HZ b1 b2 hpg hqg
   generalize p.x*q.y=m1 at *
   generalize p.y*q.x=m2 at *
   generalize p.x=px at *
   generalize p.y=py at *
   generalize q.x=qx at *
   generalize q.y=qy at *
   unfold i128 at kx ky ks ka
   generalize m1/18446744073709551616=m1h at *
   generalize m1%18446744073709551616=m1l at *
   generalize m2/18446744073709551616=m2h at *
   generalize m2%18446744073709551616=m2l at *
   obtain⟨zh,hzh⟩:∃y,y=z/18446744073709551616:=⟨_,rfl⟩
   obtain⟨zl,hzl⟩:∃y,y=z%18446744073709551616:=⟨_,rfl⟩
   rw[←hzh,←hzl]at ks ka
   have HK:=Lib.hid (And.intro kx (And.intro ky (And.intro ks ka)))
   clear kx ky ks ka hzh hzl p q
   go_wp2_with fail
   have hszr:=hbel.size
   have hbw:=(Below.refl wr.heap.size wr).alloc (Nat.le_refl _) (.cells #[.int .i64 qx,.int .i64 qy] 23)
   have hS1:=hS.alloc (.cells #[.int .i64 qx,.int .i64 qy] 23)
   have hR1:=hR.alloc (.cells #[.int .i64 qx,.int .i64 qy] 23)
   have hB1:=hbel.alloc hbel.size (.cells #[.int .i64 qx,.int .i64 qy] 23)
   have c1:=(hbw.cell (p:=ad.add (k*2)) (by rw[block_of_add];omega)).trans hcx
   have c2:=(hbw.cell (p:=⟨(ad.add (k*2)).block,(ad.add (k*2)).off+1,none⟩) (by simp only[block_of_add];omega)).trans hcy
   have c3:(wr.alloc (.cells #[.int .i64 qx,.int .i64 qy] 23)).cell? ⟨wr.heap.size,0,none⟩=some (.int .i64 qx):=Blk.cell (Blk.new wr 23 _) 0
   have c4:(wr.alloc (.cells #[.int .i64 qx,.int .i64 qy] 23)).cell? ⟨wr.heap.size,1,none⟩=some (.int .i64 qy):=Blk.cell (Blk.new wr 23 _) 1
   have hsw:(wr.alloc (.cells #[.int .i64 qx,.int .i64 qy] 23)).heap.size=wr.heap.size+1:=by simp
   generalize wr.alloc (.cells #[.int .i64 qx,.int .i64 qy] 23)=W at *
   have hH0:W.drew.cell? (ad.add (k*2))=some (.int .i64 px)∧W.drew.cell? ⟨(ad.add (k*2)).block,(ad.add (k*2)).off+1,none⟩=some (.int .i64 py)∧W.drew.cell? ⟨wr.heap.size,0,none⟩=some (.int .i64 qx)∧W.drew.cell? ⟨wr.heap.size,1,none⟩=some (.int .i64 qy)∧Below W.heap.size W W.drew:=⟨c1,c2,c3,c4,(Below.refl _ _).drew⟩
   have hP:(ad.add (k*2)).block<W.heap.size∧(⟨(ad.add (k*2)).block,(ad.add (k*2)).off+1,none⟩:Addr).block<W.heap.size∧(⟨wr.heap.size,0,none⟩:Addr).block<W.heap.size∧(⟨wr.heap.size,1,none⟩:Addr).block<W.heap.size:=by
    simp only[block_of_add];omega
   have HG2:W.heap.size≤W.heap.size:=Nat.le_refl _
   have HX:=Lib.hid (And.intro hS1 (And.intro hR1 hB1))
   clear hsw c1 c2 c3 c4 hbw hS1 hR1 hB1 hcx hcy hqx hqy hS hR hbel
   go_region_held3 (fun V=>V.cell? (ad.add (k*2))=some (.int .i64 px)∧V.cell? ⟨(ad.add (k*2)).block,(ad.add (k*2)).off+1,none⟩=some (.int .i64 py)∧V.cell? ⟨wr.heap.size,0,none⟩=some (.int .i64 qx)∧V.cell? ⟨wr.heap.size,1,none⟩=some (.int .i64 qy)∧Below W.heap.size W V)
    (first|with_reducible exact hH0|with_reducible exact heldC hP (by assumption) (by assumption)|with_reducible exact heldC hP (by assumption) ((Below.refl _ _).alloc (Nat.le_refl _) _)|with_reducible exact heldCS hP (by assumption) (by assumption) _ _|with_reducible exact heldCT hP HG2 (by assumption))
    (first
    |(go_simp;go_at_call 31;(with_reducible refine(HK.out.1 _).mono ?_);rintro e w' ⟨rfl,hb'⟩;(first|(have HF:=newB HF hb';obtain⟨f1,f2,f3,f4⟩:=blk_two HF.1)|(have HF:=newA HG2 hb';obtain⟨f1,f2,f3,f4⟩:=blk_two HF.1)|(have HF:=newD HG2 hb';obtain⟨f1,f2,f3,f4⟩:=blk_two HF.1)|(have HG2:=Nat.le_trans HG2 hb'.size));try dsimp only)
    |(go_simp;go_at_call 31;(with_reducible refine(HK.out.2.1 _).mono ?_);rintro e w' ⟨rfl,hb'⟩;(first|(have HF:=newB HF hb';obtain⟨f1,f2,f3,f4⟩:=blk_two HF.1)|(have HF:=newA HG2 hb';obtain⟨f1,f2,f3,f4⟩:=blk_two HF.1)|(have HF:=newD HG2 hb';obtain⟨f1,f2,f3,f4⟩:=blk_two HF.1)|(have HG2:=Nat.le_trans HG2 hb'.size));try dsimp only)
    |(go_simp;go_at_call 30;(with_reducible refine(HK.out.2.2.1 _).mono ?_);rintro e w' ⟨rfl,hb'⟩;(first|(have HF:=newB HF hb';obtain⟨f1,f2,f3,f4⟩:=blk_two HF.1)|(have HF:=newA HG2 hb';obtain⟨f1,f2,f3,f4⟩:=blk_two HF.1)|(have HF:=newD HG2 hb';obtain⟨f1,f2,f3,f4⟩:=blk_two HF.1)|(have HG2:=Nat.le_trans HG2 hb'.size));try dsimp only))
   all_goals
    clear hH0
    obtain⟨-,-,-,-,hbW⟩:=(by assumption:HoldC W _ (ad.add (k*2)) ⟨(ad.add (k*2)).block,(ad.add (k*2)).off+1,none⟩ ⟨wr.heap.size,0,none⟩ ⟨wr.heap.size,1,none⟩ (.int .i64 px) (.int .i64 py) (.int .i64 qx) (.int .i64 qy))
    have hS2:=HX.out.1.on hbW
    have hR2:=HX.out.2.1.below hbW (Blk.lt HX.out.2.1)
    have hB2:=below_on HX.out.2.2 (Nat.le_refl _) hbW
    first
     |(have hf:=HF.1;obtain⟨x1,x2,-,-⟩:=put_two hf (.int .i64 zh) (.int .u64 zl);clear hf)
     |obtain⟨x1,x2,_,_⟩:=blk_two (Blk.new w' 37 #[.int .i64 zh,.int .u64 zl])
    obtain⟨s1,s2,s3,s4,_⟩:=hS2.facts
    go_wp2_with fail
    with_reducible refine(HK.out.2.2.2 _).mono ?_
    rintro e w4 ⟨rfl,hb4⟩
    have hS3:=hS2.on hb4
    have hR3:=hR2.below hb4 (Blk.lt hR2)
    have hB3:=below_on hB2 (Nat.le_refl _) hb4
    clear s1 s2 s3 s4 x1 x2 hb4
    obtain⟨s1,s2,s3,s4,_⟩:=hS3.facts
    go_wp2_with fail
    go_roundw
    case rel=>
     refine⟨k+1,by omega,by go_num,?_,(hR3.far (p:=⟨w1.heap.size,0,none⟩) (by simp only;omega) _).far (p:=⟨w1.heap.size,1,none⟩) (by simp only;omega) _,(hB3.setCell (p:=⟨w1.heap.size,0,none⟩) (by simp only;omega) _).setCell (p:=⟨w1.heap.size,1,none⟩) (by simp only;omega) _⟩
     rw[←HU.out]
     exact hS3.put u'
    case measure=>simp[intOf];omega
  ·have hkn:k=n:=by omega
   subst hkn
   have hZ:=areaS_all xs
   rw[HL.out]at hZ
   rw[hZ,←HZ0.out]at hS
   clear hZ
   obtain⟨s1,s2,s3,s4,_⟩:=hS.facts
   obtain⟨r1,r2,r3,r4⟩:=blk_two hR
   obtain⟨p1,p2,_,_⟩:=put_two hR (.int .i64 (z0/18446744073709551616)) (.int .u64 (z0%18446744073709551616))
   go_wp2_with fail
   exact bodyPost_ret (v:= .tuple #[.agg #[.int .i64 (z0/18446744073709551616),.int .u64 (z0%18446744073709551616)],.int .i64 0]) (by simp[results,Tryz.results11,go_sem,p1,p2]) rfl ⟨rfl,(hbel.setCell (p:=⟨w.heap.size,0,none⟩) (Nat.le_refl _) _).setCell (p:=⟨w.heap.size,1,none⟩) (Nat.le_refl _) _⟩
set_option maxRecDepth 100000 in
set_option maxHeartbeats 800000 in
theorem areaR_any (xs:List Pt) (A:Option Addr) (n cap:Nat) (w:World) (hr:Reads w w.heap.size 2 A n (ptsV xs)) (hn:n≤9223372036854775807) (hx:∀p∈xs,p.inI):
 Calls Tryz.prog 11 #[.slice A n cap] w fun e w'=>e= .returned (.tuple #[i128 (areaV xs),.int .i64 (areaE xs)])∧Below w.heap.size w w':=by
 have hl:xs.length=n:=hr.lenPt
 by_cases h1:128<n
 ·have e1:areaE xs=12:=by unfold areaE;rw[if_pos (by omega)]
  have e2:areaV xs=0:=by unfold areaV;rw[if_neg (by rw[e1];decide)]
  rw[e1,e2,i128_zero]
  have h1':(128:Int)<(n:Int):=by omega
  clear e1 e2 hr hx hl
  go_enter Tryz.func11,Tryz.ntmps11
  go_wp2_with fail
  exact bodyPost_ret (v:= .tuple #[.agg #[.int .i64 0,.int .u64 0],.int .i64 12]) (by simp[results,Tryz.results11,go_sem]) rfl ⟨rfl,(Below.refl _ _).alloc (Nat.le_refl _) _⟩
 ·rcases hg:goodL xs with _|_
  ·have e1:areaE xs=3:=by unfold areaE;rw[if_neg (by omega),if_neg (by rw[hg];decide)]
   have e2:areaV xs=0:=by unfold areaV;rw[if_neg (by rw[e1];decide)]
   rw[e1,e2,i128_zero]
   have hd128:decide ((128:Int)<(n:Int))=false:=decide_eq_false (by omega)
   have kg:∀W,Below w.heap.size w W→Calls Tryz.prog 29 #[.slice A n cap] W fun e w'=>e= .returned (.bool false)∧Below W.heap.size W w':=fun W hW=>by
    have:=goodR_any xs A n cap W ((hr.below hW).more hW.size) (by omega) hx
    rwa [hg]at this
   have KG:=Lib.hid kg
   clear e1 e2 hr hx hl hg kg
   go_enter Tryz.func11,Tryz.ntmps11
   go_wp2_with fail
   have hb0:=(Below.refl w.heap.size w).alloc (Nat.le_refl _) (.cells #[.int .i64 0,.int .u64 0] 37)
   refine(KG.out _ hb0).mono ?_
   rintro e w1 ⟨rfl,hb1⟩
   have hB1:=below_on hb0 (Nat.le_refl _) hb1
   have hR1:=(Blk.new w 37 #[.int .i64 0,.int .u64 0]).below hb1 (by simp)
   clear hb0 hb1
   obtain⟨r1,r2,r3,r4⟩:=blk_two hR1
   obtain⟨p1,p2,_,_⟩:=put_two hR1 (.int .i64 0) (.int .u64 0)
   go_wp2_with fail
   exact bodyPost_ret (v:= .tuple #[.agg #[.int .i64 0,.int .u64 0],.int .i64 3]) (by simp[results,Tryz.results11,go_sem,p1,p2]) rfl ⟨rfl,(hB1.setCell (p:=⟨w.heap.size,0,none⟩) (Nat.le_refl _) _).setCell (p:=⟨w.heap.size,1,none⟩) (Nat.le_refl _) _⟩
  ·have e1:areaE xs=0:=by unfold areaE;rw[if_neg (by omega),if_pos hg]
   have e2:areaV xs=areaZ xs:=by unfold areaV;rw[if_pos e1]
   rw[e1,e2]
   exact areaR_good xs A n cap w hr (by omega) hg
end Go.Proofs.YtpkeacnacjnlcaaGreat
