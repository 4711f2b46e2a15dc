/- merestoneref01: numbers in five limbs: plus, minus, limbs, whole: the walks; Plain law: all cells of a window, by X, then by Y. No condition; What lies beside GeoLaw; Windows: Check, Has and their references: the walks. -/
import Derived.BigRegion
import Derived.Deep.RegionHeld3
import Derived.Laws.BitsAllLaws
import Derived.Test.YtpkeacnacjnlcaaGreatK01
import Derived.Test.YtpkeacnacjnlcaaGreatK02
import Derived.Test.YtpkeacnacjnlcaaGreatK03
namespace Go.Proofs.YtpkeacnacjnlcaaGreat
open Go.RowKit
/-- What is left of a number when its k lowest limbs are gone, and the limb that then is the lowest. -/
def hI (z:Int):Nat→Int
 |0=>z
 |k+1=>hI z k/4294967296
def lI (z:Int) (k:Nat):Int:=hI z k%4294967296
def lmC (z:Int):Array Value:=#[.int .u32 (lI z 0),.int .u32 (lI z 1),.int .u32 (lI z 2),.int .u32 (lI z 3),.int .u32 (lI z 4)]
def lmV (z:Int):Value:= .agg (lmC z)
/-- The carry. -/
def cy (x y:Int) (k:Nat):Int:=hI (x+y) k-hI x k-hI y k
theorem cy_bd (x y:Int) (k:Nat):0≤cy x y k∧cy x y k≤1:=by
 induction k with
 |zero=>unfold cy hI;omega
 |succ k ih=>
  unfold cy at *
  show 0≤hI (x+y) k/4294967296-hI x k/4294967296-hI y k/4294967296∧_
  show _∧hI (x+y) k/4294967296-hI x k/4294967296-hI y k/4294967296≤1
  omega
theorem cy_step (x y:Int) (k:Nat):(lI x k+lI y k+cy x y k)%4294967296=lI (x+y) k∧(lI x k+lI y k+cy x y k)/4294967296=cy x y (k+1):=by
 unfold lI cy
 show _∧_=hI (x+y) k/4294967296-hI x k/4294967296-hI y k/4294967296
 omega
theorem lI_bd (z:Int) (k:Nat):0≤lI z k∧lI z k<4294967296:=by unfold lI;omega
/-- The first k limbs of a number. -/
def outC (z:Int) (k:Nat):Array Value:=#[.int .u32 (if 0<k then lI z 0 else 0),.int .u32 (if 1<k then lI z 1 else 0),.int .u32 (if 2<k then lI z 2 else 0),.int .u32 (if 3<k then lI z 3 else 0),.int .u32 (if 4<k then lI z 4 else 0)]
theorem blk5 {w:World} {g:Nat} {t:TypeId} {a b c d e:Value} (h:Blk w g t #[a,b,c,d,e]):w.cell? ⟨g,0,none⟩=some a∧w.cell? ⟨g,1,none⟩=some b∧w.cell? ⟨g,2,none⟩=some c∧w.cell? ⟨g,3,none⟩=some d∧w.cell? ⟨g,4,none⟩=some e:=
 ⟨by rw[h.cell 0];rfl,by rw[h.cell 1];rfl,by rw[h.cell 2];rfl,by rw[h.cell 3];rfl,by rw[h.cell 4];rfl⟩
theorem blk_put5 {w:World} {g:Nat} {t:TypeId} {a b c d e:Value} (h:Blk w g t #[a,b,c,d,e]) (a' b' c' d' e':Value):
 Blk (((((w.setCell ⟨g,0,none⟩ a').setCell ⟨g,1,none⟩ b').setCell ⟨g,2,none⟩ c').setCell ⟨g,3,none⟩ d').setCell ⟨g,4,none⟩ e') g t #[a',b',c',d',e']:=
 Blk.set_ (Blk.set_ (Blk.set_ (Blk.set_ (Blk.set_ h 0 a') 1 b') 2 c') 3 d') 4 e'
theorem below_put5 {B:Nat} {w w':World} (h:Below B w w') {k:Nat} (hk:B≤k) (a b c d e:Value):Below B w (((((w'.setCell ⟨k,0,none⟩ a).setCell ⟨k,1,none⟩ b).setCell ⟨k,2,none⟩ c).setCell ⟨k,3,none⟩ d).setCell ⟨k,4,none⟩ e):=
 ((((h.setCell (p:=⟨k,0,none⟩) hk a).setCell (p:=⟨k,1,none⟩) hk b).setCell (p:=⟨k,2,none⟩) hk c).setCell (p:=⟨k,3,none⟩) hk d).setCell (p:=⟨k,4,none⟩) hk e
set_option maxRecDepth 100000 in
set_option maxHeartbeats 3200000 in
theorem plus_any (x y:Int) (w:World):
 Calls Tryz.prog 75 #[lmV x,lmV y] w fun e w'=>e= .returned (lmV (x+y))∧Below w.heap.size w w':=by
 have hA:=((Blk.new w 123 (lmC x)).alloc (.cells (lmC y) 123))
 have hC:=Blk.new (w.alloc (.cells (lmC x) 123)) 123 (lmC y)
 rw[World.size_alloc]at hC
 have hB:Below w.heap.size w ((w.alloc (.cells (lmC x) 123)).alloc (.cells (lmC y) 123)):=((Below.refl _ _).alloc (Nat.le_refl _) _).alloc (by simp) _
 have HN:=Lib.hid (And.intro hA (And.intro hC hB))
 clear hA hC hB
 unfold lmV lmC
 go_enter Tryz.func75,Tryz.ntmps75
 go_wp2_with fail
 obtain⟨hA,hC,hB⟩:=HN.out
 clear HN
 have hz:((w.alloc (.cells (lmC x) 123)).alloc (.cells (lmC y) 123)).heap.size=w.heap.size+1+1:=by simp
 unfold lmC at hA hC hB hz
 generalize (w.alloc (.cells #[.int .u32 (lI x 0),.int .u32 (lI x 1),.int .u32 (lI x 2),.int .u32 (lI x 3),.int .u32 (lI x 4)] 123)).alloc (.cells #[.int .u32 (lI y 0),.int .u32 (lI y 1),.int .u32 (lI y 2),.int .u32 (lI y 3),.int .u32 (lI y 4)] 123)=w0 at *
 have hR0:=(Blk.new w0 123 #[.int .u32 0,.int .u32 0,.int .u32 0,.int .u32 0,.int .u32 0]).alloc (.cells #[.int .u32 0,.int .u32 0,.int .u32 0,.int .u32 0,.int .u32 0] 123)
 have hO0:=Blk.new (w0.alloc (.cells #[.int .u32 0,.int .u32 0,.int .u32 0,.int .u32 0,.int .u32 0] 123)) 123 #[.int .u32 0,.int .u32 0,.int .u32 0,.int .u32 0,.int .u32 0]
 rw[World.size_alloc]at hO0
 rw[hz]at hR0 hO0
 have hA0:=(hA.alloc (.cells #[.int .u32 0,.int .u32 0,.int .u32 0,.int .u32 0,.int .u32 0] 123)).alloc (.cells #[.int .u32 0,.int .u32 0,.int .u32 0,.int .u32 0,.int .u32 0] 123)
 have hC0:=(hC.alloc (.cells #[.int .u32 0,.int .u32 0,.int .u32 0,.int .u32 0,.int .u32 0] 123)).alloc (.cells #[.int .u32 0,.int .u32 0,.int .u32 0,.int .u32 0,.int .u32 0] 123)
 have hB0:=(hB.alloc hB.size (.cells #[.int .u32 0,.int .u32 0,.int .u32 0,.int .u32 0,.int .u32 0] 123)).alloc (by have:=hB.size;simp;omega) (.cells #[.int .u32 0,.int .u32 0,.int .u32 0,.int .u32 0,.int .u32 0] 123)
 clear hA hC hB
 generalize (w0.alloc (.cells #[.int .u32 0,.int .u32 0,.int .u32 0,.int .u32 0,.int .u32 0] 123)).alloc (.cells #[.int .u32 0,.int .u32 0,.int .u32 0,.int .u32 0,.int .u32 0] 123)=w1 at *
 go_loopw [6,7] (fun c i wr=>∃k:Nat,k≤5∧i= .int .i64 (k:Int)∧c= .int .u64 (cy x y k)∧Blk wr w.heap.size 123 #[.int .u32 (lI x 0),.int .u32 (lI x 1),.int .u32 (lI x 2),.int .u32 (lI x 3),.int .u32 (lI x 4)]∧Blk wr (w.heap.size+1) 123 #[.int .u32 (lI y 0),.int .u32 (lI y 1),.int .u32 (lI y 2),.int .u32 (lI y 3),.int .u32 (lI y 4)]∧Blk wr (w.heap.size+1+1+1) 123 (outC (x+y) k)∧Blk wr (w.heap.size+1+1) 123 #[.int .u32 0,.int .u32 0,.int .u32 0,.int .u32 0,.int .u32 0]∧Below w.heap.size w wr) (fun _ i _=>5-(intOf i).toNat)
 case atStart=>exact⟨0,by omega,rfl,by unfold cy hI;congr 1;omega,hA0,hC0,hO0,hR0,hB0⟩
 case round=>
  clear hA0 hC0 hO0 hR0 hB0
  obtain⟨k,hk,rfl,rfl,hX,hY,hO,hR,hbel⟩:=hrel
  by_cases hlt:k<5
  ·obtain⟨a0,a1,a2,a3,a4⟩:=blk5 hX
   obtain⟨b0,b1,b2,b3,b4⟩:=blk5 hY
   obtain⟨t1,t2⟩:=cy_step x y k
   have l1:=lI_bd x k
   have l2:=lI_bd y k
   have l3:=cy_bd x y k
   obtain⟨c,hc⟩:∃c,c=cy x y k:=⟨_,rfl⟩
   obtain⟨nn,hnn⟩:∃z,z=lI x k+lI y k+cy x y k:=⟨_,rfl⟩
   obtain⟨s,hs⟩:∃s,s=lI (x+y) k:=⟨_,rfl⟩
   rw[←hnn]at t1 t2
   rw[←hs]at t1
   rw[←hc]at l3 ⊢
   have hw1:IntKind.u64.wrap (lI x k+lI y k)=lI x k+lI y k:=by rw[u64_wrap];omega
   have hw2:IntKind.u64.wrap (lI x k+lI y k+c)=nn:=by rw[u64_wrap,hnn,hc];omega
   have hw3:nn%4294967296=s:=t1
   have hw4:IntKind.u64.wrap (lI x k)=lI x k:=by rw[u64_wrap];omega
   have hw5:IntKind.u64.wrap (lI y k)=lI y k:=by rw[u64_wrap];omega
   have HC:Hid (cy x y (k+1)=nn/4294967296):=t2.symm
   have hs2:s=lI (x+y) k:=hs
   have HS:=Lib.hid hs
   clear t1 t2 l1 l2 l3 hc hnn hs
   have h5:k=0∨k=1∨k=2∨k=3∨k=4:=by omega
   rcases h5 with rfl|rfl|rfl|rfl|rfl
   ·have hout:∀m,Blk ((wr.drewN m).setCell ⟨w.heap.size+1+1+1,0,none⟩ (.int .u32 s)) (w.heap.size+1+1+1) 123 (outC (x+y) 1):=by
     intro m
     have:=Blk.set_ (hO.drewN m) 0 (.int .u32 s)
     rw[hs2]at this ⊢
     exact this
    have HO2:=Lib.hid hout
    obtain⟨c0,c1,c2,c3,c4⟩:=blk5 hO
    have f0:=hO.frozen 0
    clear hout hs2 HS
    go_wp2
    go_quiet (fail)
    go_wp2
    go_roundw
    case rel=>exact⟨1,by omega,rfl,by rw[HC.out],Blk.far (p:=⟨w.heap.size+1+1+1,0,none⟩) (hX.drewN _) (by simp only;omega) _,Blk.far (p:=⟨w.heap.size+1+1+1,0,none⟩) (hY.drewN _) (by simp only;omega) _,HO2.out _,Blk.far (p:=⟨w.heap.size+1+1+1,0,none⟩) (hR.drewN _) (by simp only;omega) _,(below_drewN hbel _).setCell (p:=⟨w.heap.size+1+1+1,0,none⟩) (by simp;omega) _⟩
    case measure=>simp[intOf]
   ·have hout:∀m,Blk ((wr.drewN m).setCell ⟨w.heap.size+1+1+1,1,none⟩ (.int .u32 s)) (w.heap.size+1+1+1) 123 (outC (x+y) 2):=by
     intro m
     have:=Blk.set_ (hO.drewN m) 1 (.int .u32 s)
     rw[hs2]at this ⊢
     exact this
    have HO2:=Lib.hid hout
    obtain⟨c0,c1,c2,c3,c4⟩:=blk5 hO
    have f0:=hO.frozen 1
    clear hout hs2 HS
    go_wp2
    go_quiet (fail)
    go_wp2
    go_roundw
    case rel=>exact⟨2,by omega,rfl,by rw[HC.out],Blk.far (p:=⟨w.heap.size+1+1+1,1,none⟩) (hX.drewN _) (by simp only;omega) _,Blk.far (p:=⟨w.heap.size+1+1+1,1,none⟩) (hY.drewN _) (by simp only;omega) _,HO2.out _,Blk.far (p:=⟨w.heap.size+1+1+1,1,none⟩) (hR.drewN _) (by simp only;omega) _,(below_drewN hbel _).setCell (p:=⟨w.heap.size+1+1+1,1,none⟩) (by simp;omega) _⟩
    case measure=>simp[intOf]
   ·have hout:∀m,Blk ((wr.drewN m).setCell ⟨w.heap.size+1+1+1,2,none⟩ (.int .u32 s)) (w.heap.size+1+1+1) 123 (outC (x+y) 3):=by
     intro m
     have:=Blk.set_ (hO.drewN m) 2 (.int .u32 s)
     rw[hs2]at this ⊢
     exact this
    have HO2:=Lib.hid hout
    obtain⟨c0,c1,c2,c3,c4⟩:=blk5 hO
    have f0:=hO.frozen 2
    clear hout hs2 HS
    go_wp2
    go_quiet (fail)
    go_wp2
    go_roundw
    case rel=>exact⟨3,by omega,rfl,by rw[HC.out],Blk.far (p:=⟨w.heap.size+1+1+1,2,none⟩) (hX.drewN _) (by simp only;omega) _,Blk.far (p:=⟨w.heap.size+1+1+1,2,none⟩) (hY.drewN _) (by simp only;omega) _,HO2.out _,Blk.far (p:=⟨w.heap.size+1+1+1,2,none⟩) (hR.drewN _) (by simp only;omega) _,(below_drewN hbel _).setCell (p:=⟨w.heap.size+1+1+1,2,none⟩) (by simp;omega) _⟩
    case measure=>simp[intOf]
   ·have hout:∀m,Blk ((wr.drewN m).setCell ⟨w.heap.size+1+1+1,3,none⟩ (.int .u32 s)) (w.heap.size+1+1+1) 123 (outC (x+y) 4):=by
     intro m
     have:=Blk.set_ (hO.drewN m) 3 (.int .u32 s)
     rw[hs2]at this ⊢
     exact this
    have HO2:=Lib.hid hout
    obtain⟨c0,c1,c2,c3,c4⟩:=blk5 hO
    have f0:=hO.frozen 3
    clear hout hs2 HS
    go_wp2
    go_quiet (fail)
    go_wp2
    go_roundw
    case rel=>exact⟨4,by omega,rfl,by rw[HC.out],Blk.far (p:=⟨w.heap.size+1+1+1,3,none⟩) (hX.drewN _) (by simp only;omega) _,Blk.far (p:=⟨w.heap.size+1+1+1,3,none⟩) (hY.drewN _) (by simp only;omega) _,HO2.out _,Blk.far (p:=⟨w.heap.size+1+1+1,3,none⟩) (hR.drewN _) (by simp only;omega) _,(below_drewN hbel _).setCell (p:=⟨w.heap.size+1+1+1,3,none⟩) (by simp;omega) _⟩
    case measure=>simp[intOf]
   ·have hout:∀m,Blk ((wr.drewN m).setCell ⟨w.heap.size+1+1+1,4,none⟩ (.int .u32 s)) (w.heap.size+1+1+1) 123 (outC (x+y) 5):=by
     intro m
     have:=Blk.set_ (hO.drewN m) 4 (.int .u32 s)
     rw[hs2]at this ⊢
     exact this
    have HO2:=Lib.hid hout
    obtain⟨c0,c1,c2,c3,c4⟩:=blk5 hO
    have f0:=hO.frozen 4
    clear hout hs2 HS
    go_wp2
    go_quiet (fail)
    go_wp2
    go_roundw
    case rel=>exact⟨5,by omega,rfl,by rw[HC.out],Blk.far (p:=⟨w.heap.size+1+1+1,4,none⟩) (hX.drewN _) (by simp only;omega) _,Blk.far (p:=⟨w.heap.size+1+1+1,4,none⟩) (hY.drewN _) (by simp only;omega) _,HO2.out _,Blk.far (p:=⟨w.heap.size+1+1+1,4,none⟩) (hR.drewN _) (by simp only;omega) _,(below_drewN hbel _).setCell (p:=⟨w.heap.size+1+1+1,4,none⟩) (by simp;omega) _⟩
    case measure=>simp[intOf]
  ·have hk5:k=5:=by omega
   subst hk5
   have hO2:Blk wr (w.heap.size+1+1+1) 123 #[.int .u32 (lI (x+y) 0),.int .u32 (lI (x+y) 1),.int .u32 (lI (x+y) 2),.int .u32 (lI (x+y) 3),.int .u32 (lI (x+y) 4)]:=hO
   clear hO
   obtain⟨c0,c1,c2,c3,c4⟩:=blk5 hO2
   obtain⟨r0,r1,r2,r3,r4⟩:=blk5 hR
   have f0:=hR.frozen 0
   have f1:=hR.frozen 1
   have f2:=hR.frozen 2
   have f3:=hR.frozen 3
   have f4:=hR.frozen 4
   obtain⟨p0,p1,p2,p3,p4⟩:=blk5 (blk_put5 hR (.int .u32 (lI (x+y) 0)) (.int .u32 (lI (x+y) 1)) (.int .u32 (lI (x+y) 2)) (.int .u32 (lI (x+y) 3)) (.int .u32 (lI (x+y) 4)))
   go_wp2
   exact bodyPost_ret (v:=lmV (x+y)) (by simp[results,Tryz.results75,go_sem,p0,p1,p2,p3,p4,lmV,lmC]) rfl ⟨rfl,below_put5 hbel (by omega) _ _ _ _ _⟩
theorem hI_neg (z:Int) (k:Nat):hI (-1-z) k= -1-hI z k:=by
 induction k with
 |zero=>rfl
 |succ k ih=>
  show hI (-1-z) k/4294967296= -1-hI z k/4294967296
  rw[ih]
  omega
theorem lI_neg (z:Int) (k:Nat):lI (-1-z) k=4294967295-lI z k:=by
 unfold lI
 rw[hI_neg]
 omega
theorem u32_not_nat (a:Nat) (ha:a<4294967296):4294967295 ^^^ a=4294967295-a:=by
 have h:=BitVec.toNat_not (x:=BitVec.ofNat 32 a)
 rw[←BitVec.xor_allOnes,BitVec.toNat_xor,BitVec.toNat_allOnes,BitVec.toNat_ofNat]at h
 have e:a%2^32=a:=Nat.mod_eq_of_lt (by simpa using ha)
 rw[e,Nat.xor_comm]at h
 exact h
theorem u32_not (z:Int) (h1:0≤z) (h2:z<4294967296):bits BinOp.xor IntKind.u32 (if IntKind.u32.signed=true then -1 else IntKind.u32.max) z=4294967295-z:=by
 have h:=u32_xor_nat 4294967295 z.toNat (by decide) (by omega)
 rw[u32_not_nat _ (by omega),Int.toNat_of_nonneg h1]at h
 have hm:(if IntKind.u32.signed=true then -1 else IntKind.u32.max)=((4294967295:Nat):Int):=by decide
 rw[hm,h]
 omega
theorem lI_one:lI 1 0=1∧lI 1 1=0∧lI 1 2=0∧lI 1 3=0∧lI 1 4=0:=by decide
/-- The first k limbs turned. -/
def negC (z:Int) (k:Nat):Array Value:=#[.int .u32 (if 0<k then lI (-1-z) 0 else lI z 0),.int .u32 (if 1<k then lI (-1-z) 1 else lI z 1),.int .u32 (if 2<k then lI (-1-z) 2 else lI z 2),.int .u32 (if 3<k then lI (-1-z) 3 else lI z 3),.int .u32 (if 4<k then lI (-1-z) 4 else lI z 4)]
set_option maxRecDepth 100000 in
set_option maxHeartbeats 1600000 in
theorem minus_any (x:Int) (w:World):
 Calls Tryz.prog 77 #[lmV x] w fun e w'=>e= .returned (lmV (-x))∧Below w.heap.size w w':=by
 unfold lmV lmC
 go_enter Tryz.func77,Tryz.ntmps77
 go_wp2_with fail
 have hX0:=(Blk.new w 123 #[.int .u32 (lI x 0),.int .u32 (lI x 1),.int .u32 (lI x 2),.int .u32 (lI x 3),.int .u32 (lI x 4)]).alloc (.cells #[.int .u32 0,.int .u32 0,.int .u32 0,.int .u32 0,.int .u32 0] 123)
 have hR0:=Blk.new (w.alloc (.cells #[.int .u32 (lI x 0),.int .u32 (lI x 1),.int .u32 (lI x 2),.int .u32 (lI x 3),.int .u32 (lI x 4)] 123)) 123 #[.int .u32 0,.int .u32 0,.int .u32 0,.int .u32 0,.int .u32 0]
 rw[World.size_alloc]at hR0
 have hB0:Below w.heap.size w ((w.alloc (.cells #[.int .u32 (lI x 0),.int .u32 (lI x 1),.int .u32 (lI x 2),.int .u32 (lI x 3),.int .u32 (lI x 4)] 123)).alloc (.cells #[.int .u32 0,.int .u32 0,.int .u32 0,.int .u32 0,.int .u32 0] 123)):=((Below.refl _ _).alloc (Nat.le_refl _) _).alloc (by simp) _
 generalize (w.alloc (.cells #[.int .u32 (lI x 0),.int .u32 (lI x 1),.int .u32 (lI x 2),.int .u32 (lI x 3),.int .u32 (lI x 4)] 123)).alloc (.cells #[.int .u32 0,.int .u32 0,.int .u32 0,.int .u32 0,.int .u32 0] 123)=w1 at *
 go_loopw [3] (fun i wr=>∃k:Nat,k≤5∧i= .int .i64 (k:Int)∧Blk wr w.heap.size 123 (negC x k)∧Blk wr (w.heap.size+1) 123 #[.int .u32 0,.int .u32 0,.int .u32 0,.int .u32 0,.int .u32 0]∧Below w.heap.size w wr) (fun i _=>5-(intOf i).toNat)
 case atStart=>exact⟨0,by omega,rfl,hX0,hR0,hB0⟩
 case round=>
  clear hX0 hR0 hB0
  obtain⟨k,hk,rfl,hX,hR,hbel⟩:=hrel
  by_cases hlt:k<5
  ·have h5:k=0∨k=1∨k=2∨k=3∨k=4:=by omega
   rcases h5 with rfl|rfl|rfl|rfl|rfl
   ·have hout:Blk (wr.setCell ⟨w.heap.size,0,none⟩ (.int .u32 (4294967295-lI x 0))) w.heap.size 123 (negC x 1):=by
     have:=Blk.set_ hX 0 (.int .u32 (4294967295-lI x 0))
     rw[←lI_neg]at this ⊢
     exact this
    obtain⟨c0,c1,c2,c3,c4⟩:=blk5 hX
    have f0:=hX.frozen 0
    have hnot:=u32_not (lI x 0) (lI_bd x 0).1 (lI_bd x 0).2
    rw[←hnot]at hout
    have HO2:=Lib.hid hout
    clear hout hnot
    go_wp2
    go_roundw
    case rel=>exact⟨1,by omega,rfl,HO2.out,Blk.far (p:=⟨w.heap.size,0,none⟩) hR (by simp only;omega) _,hbel.setCell (p:=⟨w.heap.size,0,none⟩) (Nat.le_refl _) _⟩
    case measure=>simp[intOf]
   ·have hout:Blk (wr.setCell ⟨w.heap.size,1,none⟩ (.int .u32 (4294967295-lI x 1))) w.heap.size 123 (negC x 2):=by
     have:=Blk.set_ hX 1 (.int .u32 (4294967295-lI x 1))
     rw[←lI_neg]at this ⊢
     exact this
    obtain⟨c0,c1,c2,c3,c4⟩:=blk5 hX
    have f0:=hX.frozen 1
    have hnot:=u32_not (lI x 1) (lI_bd x 1).1 (lI_bd x 1).2
    rw[←hnot]at hout
    have HO2:=Lib.hid hout
    clear hout hnot
    go_wp2
    go_roundw
    case rel=>exact⟨2,by omega,rfl,HO2.out,Blk.far (p:=⟨w.heap.size,1,none⟩) hR (by simp only;omega) _,hbel.setCell (p:=⟨w.heap.size,1,none⟩) (Nat.le_refl _) _⟩
    case measure=>simp[intOf]
   ·have hout:Blk (wr.setCell ⟨w.heap.size,2,none⟩ (.int .u32 (4294967295-lI x 2))) w.heap.size 123 (negC x 3):=by
     have:=Blk.set_ hX 2 (.int .u32 (4294967295-lI x 2))
     rw[←lI_neg]at this ⊢
     exact this
    obtain⟨c0,c1,c2,c3,c4⟩:=blk5 hX
    have f0:=hX.frozen 2
    have hnot:=u32_not (lI x 2) (lI_bd x 2).1 (lI_bd x 2).2
    rw[←hnot]at hout
    have HO2:=Lib.hid hout
    clear hout hnot
    go_wp2
    go_roundw
    case rel=>exact⟨3,by omega,rfl,HO2.out,Blk.far (p:=⟨w.heap.size,2,none⟩) hR (by simp only;omega) _,hbel.setCell (p:=⟨w.heap.size,2,none⟩) (Nat.le_refl _) _⟩
    case measure=>simp[intOf]
   ·have hout:Blk (wr.setCell ⟨w.heap.size,3,none⟩ (.int .u32 (4294967295-lI x 3))) w.heap.size 123 (negC x 4):=by
     have:=Blk.set_ hX 3 (.int .u32 (4294967295-lI x 3))
     rw[←lI_neg]at this ⊢
     exact this
    obtain⟨c0,c1,c2,c3,c4⟩:=blk5 hX
    have f0:=hX.frozen 3
    have hnot:=u32_not (lI x 3) (lI_bd x 3).1 (lI_bd x 3).2
    rw[←hnot]at hout
    have HO2:=Lib.hid hout
    clear hout hnot
    go_wp2
    go_roundw
    case rel=>exact⟨4,by omega,rfl,HO2.out,Blk.far (p:=⟨w.heap.size,3,none⟩) hR (by simp only;omega) _,hbel.setCell (p:=⟨w.heap.size,3,none⟩) (Nat.le_refl _) _⟩
    case measure=>simp[intOf]
   ·have hout:Blk (wr.setCell ⟨w.heap.size,4,none⟩ (.int .u32 (4294967295-lI x 4))) w.heap.size 123 (negC x 5):=by
     have:=Blk.set_ hX 4 (.int .u32 (4294967295-lI x 4))
     rw[←lI_neg]at this ⊢
     exact this
    obtain⟨c0,c1,c2,c3,c4⟩:=blk5 hX
    have f0:=hX.frozen 4
    have hnot:=u32_not (lI x 4) (lI_bd x 4).1 (lI_bd x 4).2
    rw[←hnot]at hout
    have HO2:=Lib.hid hout
    clear hout hnot
    go_wp2
    go_roundw
    case rel=>exact⟨5,by omega,rfl,HO2.out,Blk.far (p:=⟨w.heap.size,4,none⟩) hR (by simp only;omega) _,hbel.setCell (p:=⟨w.heap.size,4,none⟩) (Nat.le_refl _) _⟩
    case measure=>simp[intOf]
  ·have hk5:k=5:=by omega
   subst hk5
   have hX2:Blk wr w.heap.size 123 (lmC (-1-x)):=hX
   clear hX
   obtain⟨c0,c1,c2,c3,c4⟩:=blk5 hX2
   go_wp2_with fail
   have hone:(#[.int .u32 1,.int .u32 0,.int .u32 0,.int .u32 0,.int .u32 0]:Array Value)=lmC 1:=by
    unfold lmC
    rw[lI_one.1,lI_one.2.1,lI_one.2.2.1,lI_one.2.2.2.1,lI_one.2.2.2.2]
   rw[hone]
   refine(plus_any (-1-x) 1 wr).mono ?_
   rintro _ w2 ⟨rfl,hb2⟩
   have hneg: -1-x+1= -x:=by omega
   rw[hneg]
   have hR2:Blk w2 (w.heap.size+1) 123 #[.int .u32 0,.int .u32 0,.int .u32 0,.int .u32 0,.int .u32 0]:=Blk.below hR hb2 (Blk.lt hR)
   have hbel2:Below w.heap.size w w2:=below_on hbel (Nat.le_refl _) hb2
   unfold lmV lmC
   obtain⟨r0,r1,r2,r3,r4⟩:=blk5 hR2
   have f0:=hR2.frozen 0
   have f1:=hR2.frozen 1
   have f2:=hR2.frozen 2
   have f3:=hR2.frozen 3
   have f4:=hR2.frozen 4
   obtain⟨p0,p1,p2,p3,p4⟩:=blk5 (blk_put5 hR2 (.int .u32 (lI (-x) 0)) (.int .u32 (lI (-x) 1)) (.int .u32 (lI (-x) 2)) (.int .u32 (lI (-x) 3)) (.int .u32 (lI (-x) 4)))
   go_wp2
   exact bodyPost_ret (v:=lmV (-x)) (by simp[results,Tryz.results77,go_sem,p0,p1,p2,p3,p4,lmV,lmC]) rfl ⟨rfl,below_put5 hbel2 (by omega) _ _ _ _ _⟩
theorem limb_parts (z:Int) (h:small z):
 z%18446744073709551616%4294967296=lI z 0∧z%18446744073709551616/4294967296%4294967296=lI z 1∧
 z/18446744073709551616%18446744073709551616%4294967296=lI z 2∧z/18446744073709551616%18446744073709551616/4294967296%4294967296=lI z 3∧
 lI z 4=if z/18446744073709551616<0 then 4294967295 else 0:=by
 unfold small at h
 unfold lI hI hI hI hI hI
 refine⟨by omega,by omega,by omega,by omega,?_⟩
 split<;>omega
set_option maxRecDepth 100000 in
set_option maxHeartbeats 1600000 in
theorem limbs_any (z:Int) (w:World) (hz:small z):
 Calls Tryz.prog 76 #[i128 z] w fun e w'=>e= .returned (lmV z)∧Below w.heap.size w w':=by
 obtain⟨e0,e1,e2,e3,e4⟩:=limb_parts z hz
 unfold i128 lmV lmC
 have hsm:z/18446744073709551616<9223372036854775808∧ -9223372036854775808≤z/18446744073709551616:=by unfold small at hz;omega
 obtain⟨hi,hhi⟩:∃y,y=z/18446744073709551616:=⟨_,rfl⟩
 obtain⟨lo,hlo⟩:∃y,y=z%18446744073709551616:=⟨_,rfl⟩
 obtain⟨hu,hhu⟩:∃y,y=hi%18446744073709551616:=⟨_,rfl⟩
 have hw:IntKind.u64.wrap hi=hu:=by rw[hhu,u64_wrap]
 rw[←hhi,←hhu]at e2 e3
 rw[←hlo]at e0 e1 ⊢
 rw[←hhi]at e4 hsm ⊢
 generalize lI z 0=l0 at *
 generalize lI z 1=l1 at *
 generalize lI z 2=l2 at *
 generalize lI z 3=l3 at *
 generalize lI z 4=l4 at *
 clear hz hhi hlo hhu
 go_enter Tryz.func76,Tryz.ntmps76
 go_wp2_with fail
 ·rename_i hn
  have e4':l4=4294967295:=by rw[e4,if_pos (by omega)]
  subst e4'
  exact bodyPost_ret (v:= .agg #[.int .u32 l0,.int .u32 l1,.int .u32 l2,.int .u32 l3,.int .u32 4294967295]) (by simp[results,Tryz.results76,go_sem]) rfl ⟨rfl,(((Below.refl _ _).alloc (Nat.le_refl _) _).alloc (by simp) _).alloc (by simp;omega) _⟩
 ·rename_i hn
  have e4':l4=0:=by rw[e4,if_neg (by omega)]
  subst e4'
  exact bodyPost_ret (v:= .agg #[.int .u32 l0,.int .u32 l1,.int .u32 l2,.int .u32 l3,.int .u32 0]) (by simp[results,Tryz.results76,go_sem]) rfl ⟨rfl,(((Below.refl _ _).alloc (Nat.le_refl _) _).alloc (by simp) _).alloc (by simp;omega) _⟩
theorem u64_or_add (a b:Int) (ha:0≤a) (ha2:a<4294967296) (hb:0≤b) (hb2:b<4294967296):bits BinOp.or IntKind.u64 (a*4294967296) b=a*4294967296+b:=by
 obtain⟨x,rfl⟩:=Int.eq_ofNat_of_zero_le ha
 obtain⟨y,rfl⟩:=Int.eq_ofNat_of_zero_le hb
 have h:=u64_or_nat (x*4294967296) y (by omega) (by omega)
 have e:x*4294967296 ||| y=x*4294967296+y:=by
  have:=Nat.shiftLeft_add_eq_or_of_lt (i:=32) (b:=y) (by omega) x
  rw[Nat.shiftLeft_eq]at this
  exact this.symm
 rw[e]at h
 rw[Int.natCast_add,Int.natCast_mul]at h
 exact h
set_option maxRecDepth 100000 in
set_option maxHeartbeats 1600000 in
theorem whole_any (z:Int) (w:World) (hz:small z):
 Calls Tryz.prog 74 #[lmV z] w fun e w'=>e= .returned (.tuple #[i128 z,.bool true])∧Below w.heap.size w w':=by
 obtain⟨e0,e1,e2,e3,e4⟩:=limb_parts z hz
 have g0:=lI_bd z 0
 have g1:=lI_bd z 1
 have g2:=lI_bd z 2
 have g3:=lI_bd z 3
 unfold i128 lmV lmC
 have hsm:z/18446744073709551616<9223372036854775808∧ -9223372036854775808≤z/18446744073709551616:=by unfold small at hz;omega
 have hlo0:0≤z%18446744073709551616∧z%18446744073709551616<18446744073709551616:=by omega
 obtain⟨hi,hhi⟩:∃y,y=z/18446744073709551616:=⟨_,rfl⟩
 obtain⟨lo,hlo⟩:∃y,y=z%18446744073709551616:=⟨_,rfl⟩
 obtain⟨hu,hhu⟩:∃y,y=hi%18446744073709551616:=⟨_,rfl⟩
 rw[←hhi,←hhu]at e2 e3
 rw[←hlo]at e0 e1 hlo0 ⊢
 rw[←hhi]at e4 hsm ⊢
 generalize lI z 0=l0 at *
 generalize lI z 1=l1 at *
 generalize lI z 2=l2 at *
 generalize lI z 3=l3 at *
 generalize lI z 4=l4 at *
 have H1:bits BinOp.or IntKind.u64 (l3*4294967296) l2=hu:=by rw[u64_or_add _ _ g3.1 g3.2 g2.1 g2.2];omega
 have H2:bits BinOp.or IntKind.u64 (l1*4294967296) l0=lo:=by rw[u64_or_add _ _ g1.1 g1.2 g0.1 g0.2];omega
 have H3:IntKind.i64.wrap hu=hi:=by rw[IntKind.wrap_i64];omega
 have H4:hi<0↔2147483648≤l3:=by omega
 clear hz hhi hlo hhu
 go_enter Tryz.func74,Tryz.ntmps74
 go_wp2_with fail
 ·rw[if_pos (by omega)]at e4
  subst e4
  go_region
  all_goals go_wp2
  exact bodyPost_ret (v:= .tuple #[.agg #[.int .i64 hi,.int .u64 lo],.bool true]) (by simp[results,Tryz.results74,go_sem]) rfl ⟨rfl,below_drewN (((Below.refl _ _).alloc (Nat.le_refl _) _).alloc (by simp) _) 1⟩
 ·rw[if_neg (by omega)]at e4
  subst e4
  go_region
  all_goals go_wp2
  exact bodyPost_ret (v:= .tuple #[.agg #[.int .i64 hi,.int .u64 lo],.bool true]) (by simp[results,Tryz.results74,go_sem]) rfl ⟨rfl,below_drewN (((Below.refl _ _).alloc (Nat.le_refl _) _).alloc (by simp) _) 1⟩
theorem ofR_any (n:Int) (w:World) (h1: -9223372036854775808≤n) (h2:n≤9223372036854775807):
 Calls Tryz.prog 12 #[.int .i64 n] w fun e w'=>e= .returned (i128 n)∧Below w.heap.size w w':=by
 unfold i128
 have e2:IntKind.u64.wrap n=n%18446744073709551616:=u64_wrap n
 obtain⟨lo,hlo⟩:∃y,y=n%18446744073709551616:=⟨_,rfl⟩
 rw[←hlo]at e2 ⊢
 by_cases hn:n<0
 ·have e1:n/18446744073709551616= -1:=by omega
  rw[e1]
  clear e1 hlo
  go_enter Tryz.func12,Tryz.ntmps12
  go_wp2
  exact bodyPost_ret (v:= .agg #[.int .i64 (-1),.int .u64 lo]) (by simp[results,Tryz.results12,go_sem]) rfl ⟨rfl,(Below.refl _ _).alloc (Nat.le_refl _) _⟩
 ·have e1:n/18446744073709551616=0:=by omega
  rw[e1]
  clear e1 hlo
  go_enter Tryz.func12,Tryz.ntmps12
  go_wp2
  exact bodyPost_ret (v:= .agg #[.int .i64 0,.int .u64 lo]) (by simp[results,Tryz.results12,go_sem]) rfl ⟨rfl,(Below.refl _ _).alloc (Nat.le_refl _) _⟩
theorem signR_any (z:Int) (w:World) (hz:small z):
 Calls Tryz.prog 119 #[i128 z] w fun e w'=>e= .returned (.int .i64 (sgI z))∧Below w.heap.size w w':=by
 unfold small at hz
 obtain⟨h1,h2⟩:=hz
 have h3:(z<0∧z/18446744073709551616<0∧sgI z= -1)∨(z=0∧sgI z=0)∨(0<z∧0≤z/18446744073709551616∧(z/18446744073709551616≠0∨z/18446744073709551616=0∧z%18446744073709551616≠0)∧sgI z=1):=by
  unfold sgI
  by_cases a:z<0
  ·left;exact⟨a,by omega,if_pos a⟩
  ·by_cases b:z=0
   ·right;left;exact⟨b,by rw[if_neg a,if_pos b]⟩
   ·right;right;exact⟨by omega,by omega,by omega,by rw[if_neg a,if_neg b]⟩
 rcases h3 with ⟨a,b,e⟩|⟨rfl,e⟩|⟨a,b,c|⟨c,d⟩,e⟩
 ·rw[e]
  unfold i128
  generalize z/18446744073709551616=zh at *
  generalize z%18446744073709551616=zl at *
  clear a h1 h2 e
  go_enter Tryz.func119,Tryz.ntmps119
  go_wp2
  go_ret
  exact⟨rfl,(Below.refl _ _).alloc (Nat.le_refl _) _⟩
 ·rw[e,i128_zero]
  clear e
  go_enter Tryz.func119,Tryz.ntmps119
  go_wp2
  go_ret
  exact⟨rfl,(Below.refl _ _).alloc (Nat.le_refl _) _⟩
 ·rw[e]
  unfold i128
  generalize z/18446744073709551616=zh at *
  generalize z%18446744073709551616=zl at *
  have g1:(zh==0)=false:=by simpa using c
  clear a h1 h2 e c
  go_enter Tryz.func119,Tryz.ntmps119
  go_wp2
  go_ret
  exact⟨rfl,(Below.refl _ _).alloc (Nat.le_refl _) _⟩
 ·rw[e]
  unfold i128
  generalize z/18446744073709551616=zh at *
  generalize z%18446744073709551616=zl at *
  have g1:(zl==0)=false:=by simpa using d
  subst c
  clear a h1 h2 e d b
  go_enter Tryz.func119,Tryz.ntmps119
  go_wp2
  go_ret
  exact⟨rfl,(Below.refl _ _).alloc (Nat.le_refl _) _⟩
theorem blk_two {W:World} {g:Nat} {t:TypeId} {a b:Value} (h:Blk W g t #[a,b]):W.cell? ⟨g,0,none⟩=some a∧W.cell? ⟨g,1,none⟩=some b∧W.frozen? ⟨g,0,none⟩=false∧W.frozen? ⟨g,1,none⟩=false:=
 ⟨Blk.cell h 0,Blk.cell h 1,Blk.frozen h 0,Blk.frozen h 1⟩
theorem put_two {W:World} {g:Nat} {t:TypeId} {a b:Value} (h:Blk W g t #[a,b]) (u v:Value):((W.setCell ⟨g,0,none⟩ u).setCell ⟨g,1,none⟩ v).cell? ⟨g,0,none⟩=some u∧((W.setCell ⟨g,0,none⟩ u).setCell ⟨g,1,none⟩ v).cell? ⟨g,1,none⟩=some v∧((W.setCell ⟨g,0,none⟩ u).setCell ⟨g,1,none⟩ v).frozen? ⟨g,0,none⟩=false∧((W.setCell ⟨g,0,none⟩ u).setCell ⟨g,1,none⟩ v).frozen? ⟨g,1,none⟩=false:=
 blk_two ((h.set_ 0 u).set_ 1 v)
/-- What the region reads. -/
abbrev HoldA (w V:World) (xh xl yh yl:Int):Prop:=V.cell? ⟨w.heap.size,0,none⟩=some (.int .i64 xh)∧V.cell? ⟨w.heap.size,1,none⟩=some (.int .u64 xl)∧V.cell? ⟨w.heap.size+1,0,none⟩=some (.int .i64 yh)∧V.cell? ⟨w.heap.size+1,1,none⟩=some (.int .u64 yl)∧Blk V (w.heap.size+1+1) 37 #[.int .i64 0,.int .u64 0]∧Below w.heap.size w V
theorem heldA {w V V':World} {xh xl yh yl:Int} (h:HoldA w V xh xl yh yl) (hb:Below V.heap.size V V'):HoldA w V' xh xl yh yl:=by
 obtain⟨h1,h2,h3,h4,h5,h6⟩:=h
 have hl:=Blk.lt h5
 exact⟨(hb.cell (p:=⟨_,0,none⟩) (by simp only;omega)).trans h1,(hb.cell (p:=⟨_,1,none⟩) (by simp only;omega)).trans h2,(hb.cell (p:=⟨_,0,none⟩) (by simp only;omega)).trans h3,(hb.cell (p:=⟨_,1,none⟩) (by simp only;omega)).trans h4,h5.below hb hl,h6.trans (hb.mono h6.size)⟩
theorem freshA {w V V':World} {t:TypeId} {cs:Array Value} (h:w.heap.size+1+1+1≤V.heap.size) (hb:Below (V.alloc (.cells cs t)).heap.size (V.alloc (.cells cs t)) V'):Blk V' V.heap.size t cs∧w.heap.size+1+1+1≤V.heap.size:=⟨(Blk.new V t cs).below hb (by simp),h⟩
theorem freshD {w V V':World} {t:TypeId} {cs:Array Value} (h:w.heap.size+1+1+1≤V.heap.size) (hb:Below (V.alloc (.cells cs t)).drew.heap.size (V.alloc (.cells cs t)).drew V'):Blk V' V.heap.size t cs∧w.heap.size+1+1+1≤V.heap.size:=
 ⟨(Blk.new V t cs).drew.below hb (by rw[World.size_drew,World.size_alloc];omega),h⟩
theorem freshB {w V V':World} {t:TypeId} {cs:Array Value} {a:Nat} (h:Blk V a t cs∧w.heap.size+1+1+1≤a) (hb:Below V.heap.size V V'):Blk V' a t cs∧w.heap.size+1+1+1≤a:=⟨h.1.below hb h.1.lt,h.2⟩
theorem set2_other (V:World) (a k i:Nat) (u v:Value) (hk:k≠a):((V.setCell ⟨a,0,none⟩ u).setCell ⟨a,1,none⟩ v).cell? ⟨k,i,none⟩=V.cell? ⟨k,i,none⟩:=by
 rw[World.cell?_setCell_other _ _ _ _ (fun e=>hk (by cases e;rfl)),World.cell?_setCell_other _ _ _ _ (fun e=>hk (by cases e;rfl))]
theorem heldS {w V:World} {xh xl yh yl:Int} {t:TypeId} {cs:Array Value} {a:Nat} (h:HoldA w V xh xl yh yl) (hf:Blk V a t cs∧w.heap.size+1+1+1≤a) (u v:Value):HoldA w ((V.setCell ⟨a,0,none⟩ u).setCell ⟨a,1,none⟩ v) xh xl yh yl:=by
 obtain⟨h1,h2,h3,h4,h5,h6⟩:=h
 have hg:=hf.2
 exact⟨(set2_other V a _ _ u v (by omega)).trans h1,(set2_other V a _ _ u v (by omega)).trans h2,(set2_other V a _ _ u v (by omega)).trans h3,(set2_other V a _ _ u v (by omega)).trans h4,(h5.far (p:=⟨a,0,none⟩) (by simp only;omega) u).far (p:=⟨a,1,none⟩) (by simp only;omega) v,(h6.setCell (p:=⟨a,0,none⟩) (by simp only;omega) u).setCell (p:=⟨a,1,none⟩) (by simp only;omega) v⟩
theorem heldT {w V:World} {xh xl yh yl:Int} {o o':Obj} (hg:w.heap.size+1+1+1≤V.heap.size) (h:HoldA w (V.alloc o) xh xl yh yl):HoldA w (V.alloc o') xh xl yh yl:=by
 obtain⟨h1,h2,h3,h4,h5,h6⟩:=h
 have hn:∀(k i:Nat),k<V.heap.size→(V.alloc o').cell? ⟨k,i,none⟩=(V.alloc o).cell? ⟨k,i,none⟩:=fun k i hk=>by
  rw[World.cell?_alloc_lt V o' ⟨k,i,none⟩ hk,World.cell?_alloc_lt V o ⟨k,i,none⟩ hk]
 refine⟨(hn _ _ (by omega)).trans h1,(hn _ _ (by omega)).trans h2,(hn _ _ (by omega)).trans h3,(hn _ _ (by omega)).trans h4,(Below.heap_alloc V o' _ (by omega)).trans ((Below.heap_alloc V o _ (by omega)).symm.trans h5),?_⟩
 exact⟨h6.os,h6.tape,h6.output,by rw[World.size_alloc];omega,fun k hk=>(Below.heap_alloc V o' k (by omega)).trans ((Below.heap_alloc V o k (by omega)).symm.trans (h6.block k hk))⟩
set_option maxRecDepth 100000 in
set_option maxHeartbeats 1600000 in
theorem addR_any (x y:Int) (w:World) (hx:small x) (hy:small y) (hs:small (x+y)):
 Calls Tryz.prog 32 #[i128 x,i128 y] w fun e w'=>e= .returned (.tuple #[i128 (x+y),.int .i64 0])∧Below w.heap.size w w':=by
 have k1:∀W,Calls Tryz.prog 76 #[i128 x] W fun e w'=>e= .returned (lmV x)∧Below W.heap.size W w':=fun W=>limbs_any x W hx
 have k2:∀W,Calls Tryz.prog 76 #[i128 y] W fun e w'=>e= .returned (lmV y)∧Below W.heap.size W w':=fun W=>limbs_any y W hy
 have k3:∀W,Calls Tryz.prog 75 #[lmV x,lmV y] W fun e w'=>e= .returned (lmV (x+y))∧Below W.heap.size W w':=fun W=>plus_any x y W
 have k4:∀W,Calls Tryz.prog 74 #[lmV (x+y)] W fun e w'=>e= .returned (.tuple #[i128 (x+y),.bool true])∧Below W.heap.size W w':=fun W=>whole_any (x+y) W hs
 clear hx hy hs
 unfold i128 at k1 k2 k4 ⊢
 generalize lmV (x+y)=ls at *
 generalize lmV x=lx at *
 generalize lmV y=ly at *
 generalize (x+y)/18446744073709551616=sh at *
 generalize (x+y)%18446744073709551616=sl at *
 generalize x/18446744073709551616=xh at *
 generalize x%18446744073709551616=xl at *
 generalize y/18446744073709551616=yh at *
 generalize y%18446744073709551616=yl at *
 have HK:=Lib.hid (And.intro k1 (And.intro k2 (And.intro k3 k4)))
 clear k1 k2 k3 k4 x y
 go_enter Tryz.func32,Tryz.ntmps32
 go_wp2_with fail
 have hb0:=(((Below.refl w.heap.size w).alloc (Nat.le_refl _) (.cells #[.int .i64 xh,.int .u64 xl] 37)).alloc (by simp) (.cells #[.int .i64 yh,.int .u64 yl] 37)).alloc (by simp;omega) (.cells #[.int .i64 0,.int .u64 0] 37)
 have HB:=Lib.hid hb0
 clear hb0
 generalize hW:((w.alloc (.cells #[.int .i64 xh,.int .u64 xl] 37)).alloc (.cells #[.int .i64 yh,.int .u64 yl] 37)).alloc (.cells #[.int .i64 0,.int .u64 0] 37)=W at HB ⊢
 have a1:W.cell? ⟨w.heap.size,0,none⟩=some (.int .i64 xh):=by rw[←hW];simp[go_sem,World.cell?_alloc_past]
 have a2:W.cell? ⟨w.heap.size,1,none⟩=some (.int .u64 xl):=by rw[←hW];simp[go_sem,World.cell?_alloc_past]
 have a3:W.cell? ⟨w.heap.size+1,0,none⟩=some (.int .i64 yh):=by rw[←hW];simp[go_sem,World.cell?_alloc_past]
 have a4:W.cell? ⟨w.heap.size+1,1,none⟩=some (.int .u64 yl):=by rw[←hW];simp[go_sem,World.cell?_alloc_past]
 have HG:w.heap.size+1+1+1≤W.heap.size:=by rw[←hW];simp
 have a5:Blk W (w.heap.size+1+1) 37 #[.int .i64 0,.int .u64 0]:=by
  rw[←hW]
  have:=Blk.new ((w.alloc (.cells #[.int .i64 xh,.int .u64 xl] 37)).alloc (.cells #[.int .i64 yh,.int .u64 yl] 37)) 37 #[.int .i64 0,.int .u64 0]
  rw[World.size_alloc,World.size_alloc]at this
  exact this
 clear hW
 have hH0:HoldA w W.drew xh xl yh yl:=⟨a1,a2,a3,a4,a5,HB.out.drew⟩
 clear a1 a2 a3 a4 a5 HB
 go_region_held3 (fun V=>V.cell? ⟨w.heap.size,0,none⟩=some (.int .i64 xh)∧V.cell? ⟨w.heap.size,1,none⟩=some (.int .u64 xl)∧V.cell? ⟨w.heap.size+1,0,none⟩=some (.int .i64 yh)∧V.cell? ⟨w.heap.size+1,1,none⟩=some (.int .u64 yl)∧Blk V (w.heap.size+1+1) 37 #[.int .i64 0,.int .u64 0]∧Below w.heap.size w V)
  (first|with_reducible exact hH0|with_reducible exact heldA (by assumption) (by assumption)|with_reducible exact heldA (by assumption) ((Below.refl _ _).alloc (Nat.le_refl _) _)|with_reducible exact heldS (by assumption) (by assumption) _ _|with_reducible exact heldT HG (by assumption))
  (first
    |(go_simp;go_at_call 76;(with_reducible refine(HK.out.1 _).mono ?_);rintro e w' ⟨rfl,hb'⟩;(first|(have HF:=freshB HF hb';obtain⟨f1,f2,f3,f4⟩:=blk_two HF.1)|(have HF:=freshA HG hb';obtain⟨f1,f2,f3,f4⟩:=blk_two HF.1)|(have HF:=freshD HG hb';obtain⟨f1,f2,f3,f4⟩:=blk_two HF.1)|(have HG:=Nat.le_trans HG hb'.size));try dsimp only)
    |(go_simp;go_at_call 76;(with_reducible refine(HK.out.2.1 _).mono ?_);rintro e w' ⟨rfl,hb'⟩;(first|(have HF:=freshB HF hb';obtain⟨f1,f2,f3,f4⟩:=blk_two HF.1)|(have HF:=freshA HG hb';obtain⟨f1,f2,f3,f4⟩:=blk_two HF.1)|(have HF:=freshD HG hb';obtain⟨f1,f2,f3,f4⟩:=blk_two HF.1)|(have HG:=Nat.le_trans HG hb'.size));try dsimp only)
    |(go_simp;go_at_call 75;(with_reducible refine(HK.out.2.2.1 _).mono ?_);rintro e w' ⟨rfl,hb'⟩;(first|(have HF:=freshB HF hb';obtain⟨f1,f2,f3,f4⟩:=blk_two HF.1)|(have HF:=freshA HG hb';obtain⟨f1,f2,f3,f4⟩:=blk_two HF.1)|(have HF:=freshD HG hb';obtain⟨f1,f2,f3,f4⟩:=blk_two HF.1)|(have HG:=Nat.le_trans HG hb'.size));try dsimp only)
    |(go_simp;go_at_call 74;(with_reducible refine(HK.out.2.2.2 _).mono ?_);rintro e w' ⟨rfl,hb'⟩;(first|(have HF:=freshB HF hb';obtain⟨f1,f2,f3,f4⟩:=blk_two HF.1)|(have HF:=freshA HG hb';obtain⟨f1,f2,f3,f4⟩:=blk_two HF.1)|(have HF:=freshD HG hb';obtain⟨f1,f2,f3,f4⟩:=blk_two HF.1)|(have HG:=Nat.le_trans HG hb'.size));try dsimp only))
 all_goals (obtain ⟨_,_,_,_,hr5,hBw⟩:=(by assumption:HoldA w _ xh xl yh yl);obtain⟨r1,r2,r3,r4⟩:=blk_two hr5)
 all_goals go_wp2_with fail
 all_goals (obtain ⟨p1,p2,_,_⟩:=put_two hr5 (.int .i64 sh) (.int .u64 sl))
 all_goals exact bodyPost_ret (v:= .tuple #[.agg #[.int .i64 sh,.int .u64 sl],.int .i64 0]) (by simp[results,Tryz.results32,go_sem,p1,p2]) rfl ⟨rfl,(hBw.setCell (p:=⟨w.heap.size+1+1,0,none⟩) (by simp only;omega) _).setCell (p:=⟨w.heap.size+1+1,1,none⟩) (by simp only;omega) _⟩
set_option maxRecDepth 100000 in
set_option maxHeartbeats 1600000 in
theorem subR_any (x y:Int) (w:World) (hx:small x) (hy:small y) (hs:small (x-y)):
 Calls Tryz.prog 30 #[i128 x,i128 y] w fun e w'=>e= .returned (.tuple #[i128 (x-y),.int .i64 0])∧Below w.heap.size w w':=by
 have k1:∀W,Calls Tryz.prog 76 #[i128 x] W fun e w'=>e= .returned (lmV x)∧Below W.heap.size W w':=fun W=>limbs_any x W hx
 have k2:∀W,Calls Tryz.prog 76 #[i128 y] W fun e w'=>e= .returned (lmV y)∧Below W.heap.size W w':=fun W=>limbs_any y W hy
 have k3:∀W,Calls Tryz.prog 75 #[lmV x,lmV (-y)] W fun e w'=>e= .returned (lmV (x-y))∧Below W.heap.size W w':=fun W=>by
  have:=plus_any x (-y) W
  rwa [←Int.sub_eq_add_neg]at this
 have k5:∀W,Calls Tryz.prog 77 #[lmV y] W fun e w'=>e= .returned (lmV (-y))∧Below W.heap.size W w':=fun W=>minus_any y W
 have k4:∀W,Calls Tryz.prog 74 #[lmV (x-y)] W fun e w'=>e= .returned (.tuple #[i128 (x-y),.bool true])∧Below W.heap.size W w':=fun W=>whole_any (x-y) W hs
 clear hx hy hs
 unfold i128 at k1 k2 k4 ⊢
 generalize lmV (x-y)=ls at *
 generalize lmV (-y)=ln at *
 generalize lmV x=lx at *
 generalize lmV y=ly at *
 generalize (x-y)/18446744073709551616=sh at *
 generalize (x-y)%18446744073709551616=sl at *
 generalize x/18446744073709551616=xh at *
 generalize x%18446744073709551616=xl at *
 generalize y/18446744073709551616=yh at *
 generalize y%18446744073709551616=yl at *
 have HK:=Lib.hid (And.intro k1 (And.intro k2 (And.intro k3 (And.intro k4 k5))))
 clear k1 k2 k3 k4 k5 x y
 go_enter Tryz.func30,Tryz.ntmps30
 go_wp2_with fail
 have hb0:=(((Below.refl w.heap.size w).alloc (Nat.le_refl _) (.cells #[.int .i64 xh,.int .u64 xl] 37)).alloc (by simp) (.cells #[.int .i64 yh,.int .u64 yl] 37)).alloc (by simp;omega) (.cells #[.int .i64 0,.int .u64 0] 37)
 have HB:=Lib.hid hb0
 clear hb0
 generalize hW:((w.alloc (.cells #[.int .i64 xh,.int .u64 xl] 37)).alloc (.cells #[.int .i64 yh,.int .u64 yl] 37)).alloc (.cells #[.int .i64 0,.int .u64 0] 37)=W at HB ⊢
 have a1:W.cell? ⟨w.heap.size,0,none⟩=some (.int .i64 xh):=by rw[←hW];simp[go_sem,World.cell?_alloc_past]
 have a2:W.cell? ⟨w.heap.size,1,none⟩=some (.int .u64 xl):=by rw[←hW];simp[go_sem,World.cell?_alloc_past]
 have a3:W.cell? ⟨w.heap.size+1,0,none⟩=some (.int .i64 yh):=by rw[←hW];simp[go_sem,World.cell?_alloc_past]
 have a4:W.cell? ⟨w.heap.size+1,1,none⟩=some (.int .u64 yl):=by rw[←hW];simp[go_sem,World.cell?_alloc_past]
 have HG:w.heap.size+1+1+1≤W.heap.size:=by rw[←hW];simp
 have a5:Blk W (w.heap.size+1+1) 37 #[.int .i64 0,.int .u64 0]:=by
  rw[←hW]
  have:=Blk.new ((w.alloc (.cells #[.int .i64 xh,.int .u64 xl] 37)).alloc (.cells #[.int .i64 yh,.int .u64 yl] 37)) 37 #[.int .i64 0,.int .u64 0]
  rw[World.size_alloc,World.size_alloc]at this
  exact this
 clear hW
 have hH0:HoldA w W.drew xh xl yh yl:=⟨a1,a2,a3,a4,a5,HB.out.drew⟩
 clear a1 a2 a3 a4 a5 HB
 go_region_held3 (fun V=>V.cell? ⟨w.heap.size,0,none⟩=some (.int .i64 xh)∧V.cell? ⟨w.heap.size,1,none⟩=some (.int .u64 xl)∧V.cell? ⟨w.heap.size+1,0,none⟩=some (.int .i64 yh)∧V.cell? ⟨w.heap.size+1,1,none⟩=some (.int .u64 yl)∧Blk V (w.heap.size+1+1) 37 #[.int .i64 0,.int .u64 0]∧Below w.heap.size w V)
  (first|with_reducible exact hH0|with_reducible exact heldA (by assumption) (by assumption)|with_reducible exact heldA (by assumption) ((Below.refl _ _).alloc (Nat.le_refl _) _)|with_reducible exact heldS (by assumption) (by assumption) _ _|with_reducible exact heldT HG (by assumption))
  (first
    |(go_simp;go_at_call 76;(with_reducible refine(HK.out.1 _).mono ?_);rintro e w' ⟨rfl,hb'⟩;(first|(have HF:=freshB HF hb';obtain⟨f1,f2,f3,f4⟩:=blk_two HF.1)|(have HF:=freshA HG hb';obtain⟨f1,f2,f3,f4⟩:=blk_two HF.1)|(have HF:=freshD HG hb';obtain⟨f1,f2,f3,f4⟩:=blk_two HF.1)|(have HG:=Nat.le_trans HG hb'.size));try dsimp only)
    |(go_simp;go_at_call 76;(with_reducible refine(HK.out.2.1 _).mono ?_);rintro e w' ⟨rfl,hb'⟩;(first|(have HF:=freshB HF hb';obtain⟨f1,f2,f3,f4⟩:=blk_two HF.1)|(have HF:=freshA HG hb';obtain⟨f1,f2,f3,f4⟩:=blk_two HF.1)|(have HF:=freshD HG hb';obtain⟨f1,f2,f3,f4⟩:=blk_two HF.1)|(have HG:=Nat.le_trans HG hb'.size));try dsimp only)
    |(go_simp;go_at_call 77;(with_reducible refine(HK.out.2.2.2.2 _).mono ?_);rintro e w' ⟨rfl,hb'⟩;(first|(have HF:=freshB HF hb';obtain⟨f1,f2,f3,f4⟩:=blk_two HF.1)|(have HF:=freshA HG hb';obtain⟨f1,f2,f3,f4⟩:=blk_two HF.1)|(have HF:=freshD HG hb';obtain⟨f1,f2,f3,f4⟩:=blk_two HF.1)|(have HG:=Nat.le_trans HG hb'.size));try dsimp only)
    |(go_simp;go_at_call 75;(with_reducible refine(HK.out.2.2.1 _).mono ?_);rintro e w' ⟨rfl,hb'⟩;(first|(have HF:=freshB HF hb';obtain⟨f1,f2,f3,f4⟩:=blk_two HF.1)|(have HF:=freshA HG hb';obtain⟨f1,f2,f3,f4⟩:=blk_two HF.1)|(have HF:=freshD HG hb';obtain⟨f1,f2,f3,f4⟩:=blk_two HF.1)|(have HG:=Nat.le_trans HG hb'.size));try dsimp only)
    |(go_simp;go_at_call 74;(with_reducible refine(HK.out.2.2.2.1 _).mono ?_);rintro e w' ⟨rfl,hb'⟩;(first|(have HF:=freshB HF hb';obtain⟨f1,f2,f3,f4⟩:=blk_two HF.1)|(have HF:=freshA HG hb';obtain⟨f1,f2,f3,f4⟩:=blk_two HF.1)|(have HF:=freshD HG hb';obtain⟨f1,f2,f3,f4⟩:=blk_two HF.1)|(have HG:=Nat.le_trans HG hb'.size));try dsimp only))
 all_goals (obtain ⟨_,_,_,_,hr5,hBw⟩:=(by assumption:HoldA w _ xh xl yh yl);obtain⟨r1,r2,r3,r4⟩:=blk_two hr5)
 all_goals go_wp2_with fail
 all_goals (obtain ⟨p1,p2,_,_⟩:=put_two hr5 (.int .i64 sh) (.int .u64 sl))
 all_goals exact bodyPost_ret (v:= .tuple #[.agg #[.int .i64 sh,.int .u64 sl],.int .i64 0]) (by simp[results,Tryz.results30,go_sem,p1,p2]) rfl ⟨rfl,(hBw.setCell (p:=⟨w.heap.size+1+1,0,none⟩) (by simp only;omega) _).setCell (p:=⟨w.heap.size+1+1,1,none⟩) (by simp only;omega) _⟩
theorem plus5 (x y:Int) (w:World):Calls Tryz.prog 75 #[.agg #[.int .u32 (lI x 0),.int .u32 (lI x 1),.int .u32 (lI x 2),.int .u32 (lI x 3),.int .u32 (lI x 4)],.agg #[.int .u32 (lI y 0),.int .u32 (lI y 1),.int .u32 (lI y 2),.int .u32 (lI y 3),.int .u32 (lI y 4)]] w fun e w'=>e= .returned (.agg #[.int .u32 (lI (x+y) 0),.int .u32 (lI (x+y) 1),.int .u32 (lI (x+y) 2),.int .u32 (lI (x+y) 3),.int .u32 (lI (x+y) 4)])∧Below w.heap.size w w':=plus_any x y w
theorem minus5 (x:Int) (w:World):Calls Tryz.prog 77 #[.agg #[.int .u32 (lI x 0),.int .u32 (lI x 1),.int .u32 (lI x 2),.int .u32 (lI x 3),.int .u32 (lI x 4)]] w fun e w'=>e= .returned (.agg #[.int .u32 (lI (-x) 0),.int .u32 (lI (-x) 1),.int .u32 (lI (-x) 2),.int .u32 (lI (-x) 3),.int .u32 (lI (-x) 4)])∧Below w.heap.size w w':=minus_any x w
theorem whole5 (x:Int) (w:World) (h:small x):Calls Tryz.prog 74 #[.agg #[.int .u32 (lI x 0),.int .u32 (lI x 1),.int .u32 (lI x 2),.int .u32 (lI x 3),.int .u32 (lI x 4)]] w fun e w'=>e= .returned (.tuple #[.agg #[.int .i64 (x/18446744073709551616),.int .u64 (x%18446744073709551616)],.bool true])∧Below w.heap.size w w':=whole_any x w h
theorem limbs5 (x:Int) (w:World) (h:small x):Calls Tryz.prog 76 #[.agg #[.int .i64 (x/18446744073709551616),.int .u64 (x%18446744073709551616)]] w fun e w'=>e= .returned (.agg #[.int .u32 (lI x 0),.int .u32 (lI x 1),.int .u32 (lI x 2),.int .u32 (lI x 3),.int .u32 (lI x 4)])∧Below w.heap.size w w':=limbs_any x w h
theorem mul_step (a:Int) (m k:Nat):(m/2^k%2=1→a*((m%2^k:Nat):Int)+a*((2^k:Nat):Int)=a*((m%2^(k+1):Nat):Int))∧(m/2^k%2=0→a*((m%2^k:Nat):Int)=a*((m%2^(k+1):Nat):Int))∧a*((2^k:Nat):Int)+a*((2^k:Nat):Int)=a*((2^(k+1):Nat):Int):=by
 have h:m%2^(k+1)=m%2^k+2^k*(m/2^k%2):=by
  rw[Nat.pow_succ];exact Nat.mod_mul
 refine⟨fun e=>?_,fun e=>?_,?_⟩
 ·rw[h,e,Nat.mul_one,Int.natCast_add,Int.mul_add]
 ·rw[h,e,Nat.mul_zero,Nat.add_zero]
 ·rw[←Int.mul_add,←Int.natCast_add]
  congr 2
  omega
theorem u64_neg (b:Int) (h:b<0) (h2: -2147483648≤b):IntKind.u64.wrap (-(b%18446744073709551616))= -b∧(-(b%18446744073709551616))%18446744073709551616= -b:=by
 rw[u64_wrap]
 omega
theorem far5 {w:World} {g k:Nat} {t:TypeId} {cs:Array Value} (h:Blk w g t cs) (hk:g≠k) (a b c d e:Value):Blk (((((w.setCell ⟨k,0,none⟩ a).setCell ⟨k,1,none⟩ b).setCell ⟨k,2,none⟩ c).setCell ⟨k,3,none⟩ d).setCell ⟨k,4,none⟩ e) g t cs:=
 Blk.far (Blk.far (Blk.far (Blk.far (Blk.far h (p:=⟨k,0,none⟩) hk a) (p:=⟨k,1,none⟩) hk b) (p:=⟨k,2,none⟩) hk c) (p:=⟨k,3,none⟩) hk d) (p:=⟨k,4,none⟩) hk e
theorem lI_zero:lI 0 0=0∧lI 0 1=0∧lI 0 2=0∧lI 0 3=0∧lI 0 4=0:=by decide
set_option maxRecDepth 100000 in
set_option maxHeartbeats 3200000 in
/-- The walk at one sign of b. -/
theorem mulR_sign (a b lo:Int) (m:Nat) (w:World) (hm2:m≤2147483648) (ha1: -2147483648≤a) (ha2:a≤2147483648) (e2:IntKind.u64.wrap b=lo) (hsm:small (a*b))
 (hcase:(b<0∧IntKind.u64.wrap (-lo)=(m:Int)∧(-lo)%18446744073709551616=(m:Int)∧a*b= -(a*(m:Int)))∨(0≤b∧lo=(m:Int)∧a*b=a*(m:Int))):
 Calls Tryz.prog 31 #[.int .i64 a,.int .i64 b] w fun e w'=>e= .returned (.agg #[.int .i64 (a*b/18446744073709551616),.int .u64 (a*b%18446744073709551616)])∧Below w.heap.size w w':=by
 have hsa:small a:=by unfold small;omega
 obtain⟨P,hP⟩:∃P,P=a*b:=⟨_,rfl⟩
 rw[←hP]at hsm hcase ⊢
 clear hP
 have k1:∀W,Calls Tryz.prog 12 #[.int .i64 a] W fun e w'=>e= .returned (.agg #[.int .i64 (a/18446744073709551616),.int .u64 (a%18446744073709551616)])∧Below W.heap.size W w':=fun W=>ofR_any a W (by omega) (by omega)
 have k2:=fun W=>limbs5 a W hsa
 have k3:=fun W=>whole5 P W hsm
 have HK:=Lib.hid (And.intro k1 (And.intro k2 k3))
 clear k1 k2 k3 hsm hsa ha1 ha2
 have HC:=Lib.hid hcase
 rcases hcase with ⟨hb,e5,e6,-⟩|⟨hb,rfl,-⟩
 all_goals
  go_enter Tryz.func31,Tryz.ntmps31
  go_wp2_with fail
  refine(HK.out.1 _).mono ?_
  rintro e w1 ⟨rfl,hb1'⟩
  have hB1:=below_on ((Below.refl w.heap.size w).alloc (Nat.le_refl _) (.cells #[.int .i64 0,.int .u64 0] 37)) (Nat.le_refl _) hb1'
  have hR1:=(Blk.new w 37 #[.int .i64 0,.int .u64 0]).below hb1' (by simp)
  clear hb1'
  go_wp2_with fail
  refine(HK.out.2.1 _).mono ?_
  rintro e w2 ⟨rfl,hb2'⟩
  have hB2:=below_on hB1 (Nat.le_refl _) hb2'
  have hR2:=hR1.below hb2' hR1.lt
  clear hb2' hB1 hR1
  go_wp2_with fail
  have hsz2:=hB2.size
  have hX0:=(Blk.new w2 123 #[.int .u32 (lI a 0),.int .u32 (lI a 1),.int .u32 (lI a 2),.int .u32 (lI a 3),.int .u32 (lI a 4)]).alloc (.cells #[.int .u32 0,.int .u32 0,.int .u32 0,.int .u32 0,.int .u32 0] 123)
  have hS0:=Blk.new (w2.alloc (.cells #[.int .u32 (lI a 0),.int .u32 (lI a 1),.int .u32 (lI a 2),.int .u32 (lI a 3),.int .u32 (lI a 4)] 123)) 123 #[.int .u32 0,.int .u32 0,.int .u32 0,.int .u32 0,.int .u32 0]
  rw[World.size_alloc]at hS0
  have hR0:=(hR2.alloc (.cells #[.int .u32 (lI a 0),.int .u32 (lI a 1),.int .u32 (lI a 2),.int .u32 (lI a 3),.int .u32 (lI a 4)] 123)).alloc (.cells #[.int .u32 0,.int .u32 0,.int .u32 0,.int .u32 0,.int .u32 0] 123)
  have hB0:=(hB2.alloc hB2.size (.cells #[.int .u32 (lI a 0),.int .u32 (lI a 1),.int .u32 (lI a 2),.int .u32 (lI a 3),.int .u32 (lI a 4)] 123)).alloc (by have:=hB2.size;simp;omega) (.cells #[.int .u32 0,.int .u32 0,.int .u32 0,.int .u32 0,.int .u32 0] 123)
  have hlt2:=hR2.lt
  clear hR2 hB2
  generalize (w2.alloc (.cells #[.int .u32 (lI a 0),.int .u32 (lI a 1),.int .u32 (lI a 2),.int .u32 (lI a 3),.int .u32 (lI a 4)] 123)).alloc (.cells #[.int .u32 0,.int .u32 0,.int .u32 0,.int .u32 0,.int .u32 0] 123)=w0 at *
  go_loopw [8] (fun i wr=>∃k:Nat,k≤64∧i= .int .i64 (k:Int)∧Blk wr w2.heap.size 123 #[.int .u32 (lI (a*((2^k:Nat):Int)) 0),.int .u32 (lI (a*((2^k:Nat):Int)) 1),.int .u32 (lI (a*((2^k:Nat):Int)) 2),.int .u32 (lI (a*((2^k:Nat):Int)) 3),.int .u32 (lI (a*((2^k:Nat):Int)) 4)]∧Blk wr (w2.heap.size+1) 123 #[.int .u32 (lI (a*((m%2^k:Nat):Int)) 0),.int .u32 (lI (a*((m%2^k:Nat):Int)) 1),.int .u32 (lI (a*((m%2^k:Nat):Int)) 2),.int .u32 (lI (a*((m%2^k:Nat):Int)) 3),.int .u32 (lI (a*((m%2^k:Nat):Int)) 4)]∧Blk wr w.heap.size 37 #[.int .i64 0,.int .u64 0]∧Below w.heap.size w wr) (fun i _=>64-(intOf i).toNat)
  case atStart=>
   refine⟨0,by omega,rfl,?_,?_,hR0,hB0⟩
   ·rw[Nat.pow_zero,Int.natCast_one,Int.mul_one]
    exact hX0
   ·rw[Nat.pow_zero,Nat.mod_one,Int.natCast_zero,Int.mul_zero,lI_zero.1,lI_zero.2.1,lI_zero.2.2.1,lI_zero.2.2.2.1,lI_zero.2.2.2.2]
    exact hS0
  case round=>
   clear hX0 hS0 hR0 hB0
   obtain⟨k,hk,rfl,hX,hS,hR,hbel⟩:=hrel
   by_cases hlt:k<64
   ·obtain⟨s,s1,s2,s3⟩:∃s:Nat,s<18446744073709551616∧Hid (s=m/2^k)∧(m:Int)/2^k=(s:Int):=by
     refine⟨m/2^k,?_,rfl,?_⟩
     ·have:=Nat.div_le_self m (2^k);omega
     ·simp
    have f:=u64_and_nat s 1 s1 (by omega)
    rw[nat_mask1]at f
    obtain⟨t1,t0,t2⟩:=mul_step a m k
    rw[←s2.out]at t1 t0
    obtain⟨X,hXe⟩:∃X,X=a*((2^k:Nat):Int):=⟨_,rfl⟩
    obtain⟨Y,hYe⟩:∃Y,Y=a*((m%2^k:Nat):Int):=⟨_,rfl⟩
    rw[←hXe]at hX t1 t2
    rw[←hYe]at hS t1 t0
    clear hXe hYe
    have H2:=Lib.hid t2
    by_cases hbit:s%2=1
    ·rw[hbit]at f
     have f':bits .and .u64 (s:Int) 1=1:=f
     have H1:=Lib.hid (t1 hbit)
     clear f hbit t1 t0 t2
     obtain⟨c0,c1,c2,c3,c4⟩:=blk5 hX
     obtain⟨d0,d1,d2,d3,d4⟩:=blk5 hS
     go_wp2_with fail
     refine(plus5 Y X _).mono ?_
     rintro e w3 ⟨rfl,hb3⟩
     rw[H1.out]
     obtain⟨Z,hZ⟩:∃Z,Z=a*((m%2^(k+1):Nat):Int):=⟨_,rfl⟩
     rw[←hZ]
     have HZ:=Lib.hid hZ
     clear hZ H1
     have hX3:=hX.below hb3 hX.lt
     have hS3:=hS.below hb3 hS.lt
     have hR3:=hR.below hb3 hR.lt
     have hB3:=below_on hbel (Nat.le_refl _) hb3
     clear hb3 hX hS hR hbel c0 c1 c2 c3 c4 d0 d1 d2 d3 d4
     obtain⟨d0,d1,d2,d3,d4⟩:=blk5 hS3
     have g0:=hS3.frozen 0
     have g1:=hS3.frozen 1
     have g2:=hS3.frozen 2
     have g3:=hS3.frozen 3
     have g4:=hS3.frozen 4
     obtain⟨c0,c1,c2,c3,c4⟩:=blk5 hX3
     go_wp2_with fail
     refine(plus5 X X _).mono ?_
     rintro e w4 ⟨rfl,hb4⟩
     rw[H2.out]
     obtain⟨X',hX'⟩:∃X',X'=a*((2^(k+1):Nat):Int):=⟨_,rfl⟩
     rw[←hX']
     have HX':=Lib.hid hX'
     clear hX' H2 c0 c1 c2 c3 c4 d0 d1 d2 d3 d4 g0 g1 g2 g3 g4
     have hX4:=(far5 hX3 (k:=w2.heap.size+1) (by omega) (.int .u32 (lI Z 0)) (.int .u32 (lI Z 1)) (.int .u32 (lI Z 2)) (.int .u32 (lI Z 3)) (.int .u32 (lI Z 4))).below hb4 (by have:=hX3.lt;simp only[World.size_setCell];exact this)
     have hS4:=(blk_put5 hS3 (.int .u32 (lI Z 0)) (.int .u32 (lI Z 1)) (.int .u32 (lI Z 2)) (.int .u32 (lI Z 3)) (.int .u32 (lI Z 4))).below hb4 (by have:=hS3.lt;simp only[World.size_setCell];exact this)
     have hR4:=(far5 hR3 (k:=w2.heap.size+1) (by omega) (.int .u32 (lI Z 0)) (.int .u32 (lI Z 1)) (.int .u32 (lI Z 2)) (.int .u32 (lI Z 3)) (.int .u32 (lI Z 4))).below hb4 (by have:=hR3.lt;simp only[World.size_setCell];exact this)
     have hB4:=below_on (below_put5 hB3 (k:=w2.heap.size+1) (by omega) (.int .u32 (lI Z 0)) (.int .u32 (lI Z 1)) (.int .u32 (lI Z 2)) (.int .u32 (lI Z 3)) (.int .u32 (lI Z 4))) (Nat.le_refl _) hb4
     clear hb4 hX3 hS3 hR3 hB3
     obtain⟨d0,d1,d2,d3,d4⟩:=blk5 hX4
     have g0:=hX4.frozen 0
     have g1:=hX4.frozen 1
     have g2:=hX4.frozen 2
     have g3:=hX4.frozen 3
     have g4:=hX4.frozen 4
     go_wp2_with fail
     go_roundw
     case rel=>
      refine⟨k+1,by omega,by go_num,?_,?_,far5 hR4 (by omega) _ _ _ _ _,below_put5 hB4 (by omega) _ _ _ _ _⟩
      ·rw[←HX'.out]
       exact blk_put5 hX4 _ _ _ _ _
      ·rw[←HZ.out]
       exact far5 hS4 (by omega) _ _ _ _ _
     case measure=>simp[intOf];omega
    ·have hbit0:s%2=0:=by omega
     rw[hbit0]at f
     have f':bits .and .u64 (s:Int) 1=0:=f
     have H1:=Lib.hid (t0 hbit0)
     clear f hbit hbit0 t1 t0 t2
     obtain⟨c0,c1,c2,c3,c4⟩:=blk5 hX
     go_wp2_with fail
     refine(plus5 X X _).mono ?_
     rintro e w3 ⟨rfl,hb3⟩
     rw[H2.out]
     rw[H1.out]at hS
     obtain⟨Z,hZ⟩:∃Z,Z=a*((2^(k+1):Nat):Int):=⟨_,rfl⟩
     rw[←hZ]
     have HZ:=Lib.hid hZ
     obtain⟨V,hV⟩:∃V,V=a*((m%2^(k+1):Nat):Int):=⟨_,rfl⟩
     rw[←hV]at hS
     have HV:=Lib.hid hV
     clear hZ hV H1 H2
     have hX3:=hX.below hb3 hX.lt
     have hS3:=hS.below hb3 hS.lt
     have hR3:=hR.below hb3 hR.lt
     have hB3:=below_on hbel (Nat.le_refl _) hb3
     clear hb3 hX hS hR hbel c0 c1 c2 c3 c4
     obtain⟨d0,d1,d2,d3,d4⟩:=blk5 hX3
     have g0:=hX3.frozen 0
     have g1:=hX3.frozen 1
     have g2:=hX3.frozen 2
     have g3:=hX3.frozen 3
     have g4:=hX3.frozen 4
     go_wp2_with fail
     go_roundw
     case rel=>
      refine⟨k+1,by omega,by go_num,?_,?_,far5 hR3 (by omega) _ _ _ _ _,below_put5 hB3 (by omega) _ _ _ _ _⟩
      ·rw[←HZ.out]
       exact blk_put5 hX3 _ _ _ _ _
      ·rw[←HV.out]
       exact far5 hS3 (by omega) _ _ _ _ _
     case measure=>simp[intOf];omega
   ·have hk64:k=64:=by omega
    subst hk64
    have hm64:m%2^64=m:=Nat.mod_eq_of_lt (by omega)
    rw[hm64]at hS
    clear hm64 hX
    obtain⟨Y,hY⟩:∃Y,Y=a*(m:Int):=⟨_,rfl⟩
    rw[←hY]at hS
    have HY:=Lib.hid hY
    clear hY
    obtain⟨d0,d1,d2,d3,d4⟩:=blk5 hS
    have g0:=hS.frozen 0
    have g1:=hS.frozen 1
    have g2:=hS.frozen 2
    have g3:=hS.frozen 3
    have g4:=hS.frozen 4
    obtain⟨r0,r1,r2,r3⟩:=blk_two hR
    by_cases hneg:b<0
    ·first
     |(exfalso;omega)
     |(have hPY: -Y=P:=by
        rcases HC.out with ⟨_,_,_,e⟩|⟨h,_,_⟩
        ·rw[e,HY.out]
        ·omega
       have HPY:=Lib.hid hPY
       clear hPY
       go_wp2_with fail
       refine(minus5 Y _).mono ?_
       rintro e w3 ⟨rfl,hb3⟩
       rw[HPY.out]
       have hS3:=hS.below hb3 hS.lt
       have hR3:=hR.below hb3 hR.lt
       have hB3:=below_on hbel (Nat.le_refl _) hb3
       clear hb3 d0 d1 d2 d3 d4 g0 g1 g2 g3 g4 hS hR hbel r0 r1 r2 r3
       obtain⟨d0,d1,d2,d3,d4⟩:=blk5 hS3
       have g0:=hS3.frozen 0
       have g1:=hS3.frozen 1
       have g2:=hS3.frozen 2
       have g3:=hS3.frozen 3
       have g4:=hS3.frozen 4
       go_wp2_with fail
       with_reducible refine(HK.out.2.2 _).mono ?_
       rintro e w4 ⟨rfl,hb4⟩
       have hR3':=far5 hR3 (k:=w2.heap.size+1) (by omega) (.int .u32 (lI P 0)) (.int .u32 (lI P 1)) (.int .u32 (lI P 2)) (.int .u32 (lI P 3)) (.int .u32 (lI P 4))
       have hB3':=below_put5 hB3 (k:=w2.heap.size+1) (by omega) (.int .u32 (lI P 0)) (.int .u32 (lI P 1)) (.int .u32 (lI P 2)) (.int .u32 (lI P 3)) (.int .u32 (lI P 4))
       clear d0 d1 d2 d3 d4 g0 g1 g2 g3 g4 hS3 hR3 hB3
       have hR5:=(Blk.alloc (hR3'.below hb4 hR3'.lt) (.cells #[.int .i64 (P/18446744073709551616),.int .u64 (P%18446744073709551616)] 37))
       have hB4:=below_on hB3' (Nat.le_refl _) hb4
       have hB5:=hB4.alloc hB4.size (.cells #[.int .i64 (P/18446744073709551616),.int .u64 (P%18446744073709551616)] 37)
       obtain⟨q0,q1,q2,q3⟩:=blk_two hR5
       obtain⟨p0,p1,_,_⟩:=put_two hR5 (.int .i64 (P/18446744073709551616)) (.int .u64 (P%18446744073709551616))
       go_wp2_with fail
       exact bodyPost_ret (v:= .agg #[.int .i64 (P/18446744073709551616),.int .u64 (P%18446744073709551616)]) (by simp[results,Tryz.results31,go_sem,p0,p1]) rfl ⟨rfl,(hB5.setCell (p:=⟨w.heap.size,0,none⟩) (Nat.le_refl _) _).setCell (p:=⟨w.heap.size,1,none⟩) (Nat.le_refl _) _⟩)
    ·first
     |(exfalso;omega)
     |(have hPY:Y=P:=by
        rcases HC.out with ⟨h,_,_,_⟩|⟨_,_,e⟩
        ·omega
        ·rw[e,HY.out]
       clear HY
       subst hPY
       go_wp2_with fail
       with_reducible refine(HK.out.2.2 _).mono ?_
       rintro e w4 ⟨rfl,hb4⟩
       clear d0 d1 d2 d3 d4 g0 g1 g2 g3 g4 hS r0 r1 r2 r3
       have hR5:=(Blk.alloc (hR.below hb4 hR.lt) (.cells #[.int .i64 (Y/18446744073709551616),.int .u64 (Y%18446744073709551616)] 37))
       have hB4:=below_on hbel (Nat.le_refl _) hb4
       have hB5:=hB4.alloc hB4.size (.cells #[.int .i64 (Y/18446744073709551616),.int .u64 (Y%18446744073709551616)] 37)
       obtain⟨q0,q1,q2,q3⟩:=blk_two hR5
       obtain⟨p0,p1,_,_⟩:=put_two hR5 (.int .i64 (Y/18446744073709551616)) (.int .u64 (Y%18446744073709551616))
       go_wp2_with fail
       exact bodyPost_ret (v:= .agg #[.int .i64 (Y/18446744073709551616),.int .u64 (Y%18446744073709551616)]) (by simp[results,Tryz.results31,go_sem,p0,p1]) rfl ⟨rfl,(hB5.setCell (p:=⟨w.heap.size,0,none⟩) (Nat.le_refl _) _).setCell (p:=⟨w.heap.size,1,none⟩) (Nat.le_refl _) _⟩)
theorem mulR_any (a b:Int) (w:World) (ha1: -2147483648≤a) (ha2:a≤2147483648) (hb1: -2147483648≤b) (hb2:b≤2147483648):
 Calls Tryz.prog 31 #[.int .i64 a,.int .i64 b] w fun e w'=>e= .returned (i128 (a*b))∧Below w.heap.size w w':=by
 have hsm:small (a*b):=by have:=prod_bd a b ha1 ha2 hb1 hb2;unfold small;omega
 refine mulR_sign a b (b%18446744073709551616) b.natAbs w (by omega) ha1 ha2 (u64_wrap b) hsm ?_
 by_cases h:b<0
 ·have hm:(b.natAbs:Int)= -b:=by omega
  refine .inl ⟨h,?_,?_,?_⟩
  ·rw[hm];exact(u64_neg b h hb1).1
  ·rw[hm];exact(u64_neg b h hb1).2
  ·rw[hm,Int.mul_neg,Int.neg_neg]
 ·have hm:(b.natAbs:Int)=b:=by omega
  refine .inr ⟨by omega,?_,?_⟩
  ·rw[hm];omega
  ·rw[hm]
end Go.Proofs.YtpkeacnacjnlcaaGreat
namespace Go.Proofs.YtpkeacnacjnlcaaGreat
/-- The first m cells of one column, from y0 on. -/
def colL (x y0:Int) (m:Nat):List Pt:=(List.range m).map fun(j:Nat)=>⟨x,y0+(j:Int)⟩
/-- The first n columns, each of m cells. -/
def spanR (x0 y0:Int) (m n:Nat):List Pt:=(List.range n).flatMap fun(i:Nat)=>colL (x0+(i:Int)) y0 m
theorem colL_succ (x y0:Int) (m:Nat):colL x y0 (m+1)=colL x y0 m++[⟨x,y0+(m:Int)⟩]:=by simp[colL,List.range_succ]
theorem spanR_succ (x0 y0:Int) (m n:Nat):spanR x0 y0 m (n+1)=spanR x0 y0 m n++colL (x0+(n:Int)) y0 m:=by simp[spanR,List.range_succ]
theorem colL_length (x y0:Int) (m:Nat):(colL x y0 m).length=m:=by simp[colL]
theorem spanR_length (x0 y0:Int) (m n:Nat):(spanR x0 y0 m n).length=n*m:=by
 induction n with
 |zero=>simp[spanR]
 |succ n ih=>rw[spanR_succ,List.length_append,ih,colL_length,Nat.succ_mul]
/-- One column as the reference goes through it: of the cells from -4 on those between y0 and y1. -/
def colF (x y0 y1:Int) (b:Bool) (m:Nat):List Pt:=((List.range m).filter fun(j:Nat)=>b&&decide (y0≤ -4+(j:Int)∧ -4+(j:Int)≤y1)).map fun(j:Nat)=>⟨x,-4+(j:Int)⟩
def spanF (x0 x1 y0 y1:Int) (n:Nat):List Pt:=(List.range n).flatMap fun(i:Nat)=>colF (-4+(i:Int)) y0 y1 (decide (x0≤ -4+(i:Int)∧ -4+(i:Int)≤x1)) 9
theorem colF_succ (x y0 y1:Int) (b:Bool) (m:Nat):colF x y0 y1 b (m+1)=colF x y0 y1 b m++(if (b&&decide (y0≤ -4+(m:Int)∧ -4+(m:Int)≤y1))=true then[⟨x,-4+(m:Int)⟩]else[]):=by
 unfold colF
 rw[List.range_succ,List.filter_append,List.map_append]
 congr 1
 rw[List.filter_cons]
 split<;>simp
theorem spanF_succ (x0 x1 y0 y1:Int) (n:Nat):spanF x0 x1 y0 y1 (n+1)=spanF x0 x1 y0 y1 n++colF (-4+(n:Int)) y0 y1 (decide (x0≤ -4+(n:Int)∧ -4+(n:Int)≤x1)) 9:=by simp[spanF,List.range_succ]
theorem colF_false (x y0 y1:Int) (m:Nat):colF x y0 y1 false m=[]:=by simp[colF]
/-- The numbers from a to b, out of the first nine. -/
theorem filt (a b:Nat) (hab:a≤b) (hb:b≤8):((List.range 9).filter fun j=>decide (a≤j∧j≤b))=(List.range (b-a+1)).map fun j=>a+j:=by
 have h:∀b,b<9→∀a,a<9→a≤b→((List.range 9).filter fun j=>decide (a≤j∧j≤b))=(List.range (b-a+1)).map fun j=>a+j:=by decide
 exact h b (by omega) a (by omega) hab
theorem colF_true (x y0 y1:Int) (h0: -4≤y0) (h1:y1≤4) (h:y0≤y1):colF x y0 y1 true 9=colL x y0 (y1-y0+1).toNat:=by
 obtain⟨a,ha⟩:∃a:Nat,(a:Int)=y0+4:=⟨(y0+4).toNat,by omega⟩
 obtain⟨b,hb⟩:∃b:Nat,(b:Int)=y1+4:=⟨(y1+4).toNat,by omega⟩
 have hf:=filt a b (by omega) (by omega)
 unfold colF colL
 have e1:((List.range 9).filter fun(j:Nat)=>true&&decide (y0≤ -4+(j:Int)∧ -4+(j:Int)≤y1))=(List.range 9).filter fun j=>decide (a≤j∧j≤b):=by
  congr 1
  funext j
  rw[Bool.true_and]
  congr 1
  exact propext ⟨fun ⟨p,q⟩=>⟨by omega,by omega⟩,fun⟨p,q⟩=>⟨by omega,by omega⟩⟩
 rw[e1,hf,show(y1-y0+1).toNat=b-a+1 from by omega,List.map_map]
 congr 1
 funext j
 simp only[Function.comp]
 congr 1
 omega
theorem spanF_eq (x0 x1 y0 y1:Int) (hx0: -4≤x0) (hx1:x1≤4) (hx:x0≤x1) (hy0: -4≤y0) (hy1:y1≤4) (hy:y0≤y1):spanF x0 x1 y0 y1 9=spanR x0 y0 (y1-y0+1).toNat (x1-x0+1).toNat:=by
 obtain⟨a,ha⟩:∃a:Nat,(a:Int)=x0+4:=⟨(x0+4).toNat,by omega⟩
 obtain⟨b,hb⟩:∃b:Nat,(b:Int)=x1+4:=⟨(x1+4).toNat,by omega⟩
 have hc:=fun x=>colF_true x y0 y1 hy0 hy1 hy
 generalize (y1-y0+1).toNat=m at hc ⊢
 rw[show (x1-x0+1).toNat=b-a+1 from by omega]
 have key:∀n,n≤9→spanF x0 x1 y0 y1 n=spanR x0 y0 m (min n (b+1)-a):=by
  intro n
  induction n with
  |zero=>intro _;simp[spanF,spanR]
  |succ n ih=>
   intro hn
   rw[spanF_succ,ih (by omega)]
   by_cases h1:n<a
   ·rw[decide_eq_false (by omega),colF_false,List.append_nil,show min n (b+1)-a=0 from by omega,show min (n+1) (b+1)-a=0 from by omega]
   ·by_cases h2:n≤b
    ·rw[decide_eq_true (by omega),hc,show min n (b+1)-a=n-a from by omega,show min (n+1) (b+1)-a=(n-a)+1 from by omega,spanR_succ]
     rw[show x0+((n-a:Nat):Int)= -4+(n:Int) from by omega]
    ·rw[decide_eq_false (by omega),colF_false,List.append_nil,show min n (b+1)-a=b+1-a from by omega,show min (n+1) (b+1)-a=b+1-a from by omega]
 rw[key 9 (Nat.le_refl _),show min 9 (b+1)-a=b-a+1 from by omega]
/-- A point of the stretch, as a fraction of its way, lies in the window. -/
def Hit (w:Win) (a b:Pt):Prop:=
 ∃N t:Int,0<N∧0≤t∧t≤N∧N*w.lx≤(N-t)*a.x+t*b.x∧(N-t)*a.x+t*b.x≤N*w.hx∧N*w.ly≤(N-t)*a.y+t*b.y∧(N-t)*a.y+t*b.y≤N*w.hy
end Go.Proofs.YtpkeacnacjnlcaaGreat
namespace Go.Proofs.YtpkeacnacjnlcaaGreat
open Go.RowKit
end Go.Proofs.YtpkeacnacjnlcaaGreat
namespace Go.Proofs.YtpkeacnacjnlcaaGreat
theorem HitE.hit {w:Win} {a b:Pt} (h:HitE a.x a.y b.x b.y w.lx w.ly w.hx w.hy):Hit w a b:=by
 obtain⟨N,t,g1,g2,g3,⟨g4,g5,g6,g7⟩,_⟩:=h
 exact⟨N,t,g1,g2,g3,g4,g5,g6,g7⟩
theorem Touch.swap {a b c d:Pt} (h:Touch a b d c):Touch a b c d:=by
 unfold Touch at *
 rw[onB_swap c d a,onB_swap c d b]
 rcases h with h|h|h|h|h
 ·exact .inl h
 ·exact .inr (.inl h)
 ·exact .inr (.inr (.inr (.inl h)))
 ·exact .inr (.inr (.inl h))
 ·refine .inr (.inr (.inr (.inr ?_)))
  rw[prB_iff]at h ⊢
  rw[cr_swapT c d a,cr_swapT c d b]at h
  omega
end Go.Proofs.YtpkeacnacjnlcaaGreat
namespace Go.Proofs.YtpkeacnacjnlcaaGreat
open Go.RowKit
theorem win_cases (a b c d:Int):(goodL [⟨a,b⟩,⟨c,d⟩]=false∧winE ⟨a,b,c,d⟩=3)∨(goodL [⟨a,b⟩,⟨c,d⟩]=true∧c<a∧winE ⟨a,b,c,d⟩=1)∨(goodL [⟨a,b⟩,⟨c,d⟩]=true∧a≤c∧d<b∧winE ⟨a,b,c,d⟩=1)∨(goodL [⟨a,b⟩,⟨c,d⟩]=true∧a≤c∧b≤d∧winE ⟨a,b,c,d⟩=0):=by
 unfold winE Win.low Win.high
 simp only
 rcases hg:goodL [⟨a,b⟩,⟨c,d⟩]with _|_
 ·left;exact⟨rfl,by simp⟩
 ·right
  simp only[if_true]
  by_cases h1:c<a
  ·left;exact⟨trivial,h1,by rw[if_pos (.inl h1)]⟩
  ·by_cases h2:d<b
   ·right;left;exact⟨trivial,by omega,h2,by rw[if_pos (.inr h2)]⟩
   ·right;right;exact⟨trivial,by omega,by omega,by rw[if_neg (by omega)]⟩
set_option maxHeartbeats 400000 in
theorem wcheck_any (wi:Win) (w:World) (hw:wi.inI):
 Calls Tryz.prog 184 #[winV wi] w fun e w'=>e= .returned (.int .i64 (winE wi))∧Below w.heap.size w w':=by
 have hpts:∀p∈[wi.low,wi.high],p.inI:=by simpa[Win.inI]using hw
 obtain⟨a,b,c,d⟩:=wi
 have hcase:=win_cases a b c d
 unfold Win.low Win.high at hpts
 simp only at hpts
 rcases hcase with ⟨hg,hE⟩|⟨hg,h1,hE⟩|⟨hg,h1,h2,hE⟩|⟨hg,h1,h2,hE⟩
 all_goals
  have HG:=Lib.hid hg
  rw[hE]
  clear hg hE
  unfold winV
  go_enter Tryz.func184,Tryz.ntmps184
  go_wp2_with fail
  refine(good_any [⟨a,b⟩,⟨c,d⟩] _ 2 2 _ ?hq (by omega) hpts).mono ?_
  case hq=>exact reads_two _ a b c d _ _ (by simp)
  rintro e w1 ⟨rfl,hb1⟩
  rw[HG.out]
  obtain⟨hc,hf⟩:=bcell hb1
  have HB:=Lib.hid hb1
  clear hb1 hf
  go_wp2_with fail
  go_ret
  exact⟨rfl,(((Below.refl w.heap.size w).alloc (Nat.le_refl _) _).alloc (by simp) _).trans (HB.out.mono (by simp;omega))⟩
end Go.Proofs.YtpkeacnacjnlcaaGreat
