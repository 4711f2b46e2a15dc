/- frame.Sum: the walk: the CRC-32 of the bytes; geo.line: the walk. -/
import Derived.WalkKit
import Derived.Deep.DeepCutAuto
import Derived.Deep.RegionHeld3
import Derived.IntWalk
import Derived.Test.YtpkeacnacjnlcaaGreatRows
import Derived.Test.YtpkeacnacjnlcaaGreatK01
import Derived.Test.YtpkeacnacjnlcaaGreatK02
import Derived.Test.YtpkeacnacjnlcaaGreatK03
namespace Go.Proofs.YtpkeacnacjnlcaaGreat
open Go.RowKit
def u8s (l:List UInt8):List Value:=l.map fun b=> .int .u8 (b.toNat:Int)
theorem u8s_length (l:List UInt8):(u8s l).length=l.length:=by simp[u8s]
theorem u8s_get {l:List UInt8} {k:Nat} {u:Value} (h:(u8s l)[k]?=some u):∃hk:k<l.length,u= .int .u8 ((l[k]'hk).toNat:Int):=by
 have hk:k<l.length:=by
  have:=(List.getElem?_eq_some_iff.1 h).1
  rwa [u8s_length]at this
 refine⟨hk,?_⟩
 simp only[u8s,List.getElem?_map,List.getElem?_eq_getElem hk,Option.map_some,Option.some.injEq]at h
 exact h.symm
theorem Reads.byte {w:World} {B n:Nat} {A:Option Addr} {l:List UInt8} (h:Reads w B 1 A n (u8s l)) {k:Nat} (hk:k<n):
 ∃ad,A=some ad∧ad.block<B∧∃hk':k<l.length,w.cell? (ad.add k)=some (.int .u8 ((l[k]'hk').toNat:Int)):=by
 obtain⟨ad,u,e,hb,hu,hc⟩:=h.at_ hk
 obtain⟨hk',rfl⟩:=u8s_get hu
 exact⟨ad,e,hb,hk',hc⟩
theorem Reads.len8 {w:World} {B n:Nat} {A:Option Addr} {l:List UInt8} (h:Reads w B 1 A n (u8s l)):l.length=n:=by
 have:=h.1
 rw[u8s_length]at this
 omega
/-- A block that is just a point. -/
def PtB (w:World) (g:Nat) (p:Pt):Prop:=Blk w g 23 #[.int .i64 p.x,.int .i64 p.y]
section
variable {w w':World} {g:Nat} {p:Pt}
theorem PtB.new (w:World) (p:Pt):PtB (w.alloc (.cells #[.int .i64 p.x,.int .i64 p.y] 23)) w.heap.size p:=Blk.new w _ _
theorem PtB.pt (h:PtB w g p):HasPt w g p:=⟨by rw[h.cell 0];rfl,by rw[h.cell 1];rfl,h.lt⟩
theorem PtB.facts (h:PtB w g p):w.cell? ⟨g,0,none⟩=some (.int .i64 p.x)∧w.cell? ⟨g,1,none⟩=some (.int .i64 p.y)∧w.frozen? ⟨g,0,none⟩=false∧w.frozen? ⟨g,1,none⟩=false:=
 ⟨h.pt.1,h.pt.2.1,h.frozen 0,h.frozen 1⟩
theorem PtB.on (h:PtB w g p) (hb:Below w.heap.size w w'):PtB w' g p:=Blk.below h hb h.lt
theorem PtB.alloc (h:PtB w g p) (o:Obj):PtB (w.alloc o) g p:=Blk.alloc h o
theorem PtB.drew (h:PtB w g p):PtB w.drew g p:=h
theorem PtB.far (h:PtB w g p) {q:Addr} (hq:g≠q.block) (u:Value):PtB (w.setCell q u) g p:=Blk.far h hq u
theorem PtB.put (h:PtB w g p) (q:Pt):PtB ((w.setCell ⟨g,0,none⟩ (.int .i64 q.x)).setCell ⟨g,1,none⟩ (.int .i64 q.y)) g q:=
 (Blk.set_ (Blk.set_ h 0 (.int .i64 q.x)) 1 (.int .i64 q.y))
theorem PtB.far2 (h:PtB w g p) {k:Nat} (hk:g≠k) (u v:Value):PtB ((w.setCell ⟨k,0,none⟩ u).setCell ⟨k,1,none⟩ v) g p:=(h.far (q:=⟨k,0,none⟩) hk u).far (q:=⟨k,1,none⟩) hk v
end
theorem below_put {B:Nat} {w w':World} (h:Below B w w') {k:Nat} (hk:B≤k) (u v:Value):Below B w ((w'.setCell ⟨k,0,none⟩ u).setCell ⟨k,1,none⟩ v):=(h.setCell (p:=⟨k,0,none⟩) hk u).setCell (p:=⟨k,1,none⟩) hk v
theorem calls_named {P:Program} {f:FuncId} {args:Array Value} {w:World} {Q:Ending→World→Prop} (h:∀W,W=w→Calls P f args W Q):Calls P f args w Q:=h w rfl
theorem wp_named {P:Program} {c:Code} {Q:Exit→Act→World→Prop} {a:Act} {w:World} (h:∀W,W=w→c.wp P Q a W):c.wp P Q a w:=h w rfl
/-- The four points of a call, boxed. -/
theorem four_new (w:World) (a b c d:Pt):∀W,W=(((w.alloc (.cells #[.int .i64 a.x,.int .i64 a.y] 23)).alloc (.cells #[.int .i64 b.x,.int .i64 b.y] 23)).alloc (.cells #[.int .i64 c.x,.int .i64 c.y] 23)).alloc (.cells #[.int .i64 d.x,.int .i64 d.y] 23)→
 PtB W w.heap.size a∧PtB W (w.heap.size+1) b∧PtB W (w.heap.size+1+1) c∧PtB W (w.heap.size+1+1+1) d∧Below w.heap.size w W∧W.heap.size=w.heap.size+1+1+1+1:=by
 rintro W rfl
 have h1:=(((PtB.new w a).alloc (.cells #[.int .i64 b.x,.int .i64 b.y] 23)).alloc (.cells #[.int .i64 c.x,.int .i64 c.y] 23)).alloc (.cells #[.int .i64 d.x,.int .i64 d.y] 23)
 have h2:=((PtB.new (w.alloc (.cells #[.int .i64 a.x,.int .i64 a.y] 23)) b).alloc (.cells #[.int .i64 c.x,.int .i64 c.y] 23)).alloc (.cells #[.int .i64 d.x,.int .i64 d.y] 23)
 have h3:=(PtB.new ((w.alloc (.cells #[.int .i64 a.x,.int .i64 a.y] 23)).alloc (.cells #[.int .i64 b.x,.int .i64 b.y] 23)) c).alloc (.cells #[.int .i64 d.x,.int .i64 d.y] 23)
 have h4:=PtB.new (((w.alloc (.cells #[.int .i64 a.x,.int .i64 a.y] 23)).alloc (.cells #[.int .i64 b.x,.int .i64 b.y] 23)).alloc (.cells #[.int .i64 c.x,.int .i64 c.y] 23)) d
 simp only[World.size_alloc]at h2 h3 h4
 exact⟨h1,h2,h3,h4,((((Below.refl _ _).alloc (Nat.le_refl _) _).alloc (by simp) _).alloc (by simp;omega) _).alloc (by simp;omega) _,by simp⟩
set_option maxHeartbeats 1600000 in
theorem line_any (a b c d:Pt) (w:World):
 Calls Tryz.prog 205 #[ptV a,ptV b,ptV c,ptV d] w fun e w'=>e= .returned (.int .i64 (lineI a b c d))∧Below w.heap.size w w':=by
 have hcase:=lineI_cases a b c d
 obtain⟨r,hr⟩:∃r,r=lineI a b c d:=⟨_,rfl⟩
 obtain⟨f,hf⟩:∃f,f=lnF a b c d:=⟨_,rfl⟩
 obtain⟨t,ht⟩:∃t,t=lnT a b c d:=⟨_,rfl⟩
 rw[←hr,←hf,←ht]at hcase
 rw[←hr]
 have hF:(0<ordI (endA a b) (endA c d)∧f=endA a b)∨(ordI (endA a b) (endA c d)≤0∧f=endA c d):=by
  rw[hf];unfold lnF;split
  ·exact .inl ⟨by assumption,rfl⟩
  ·exact .inr ⟨by omega,rfl⟩
 have hT:(ordI (endB c d) (endB a b)<0∧t=endB c d)∨(0≤ordI (endB c d) (endB a b)∧t=endB a b):=by
  rw[ht];unfold lnT;split
  ·exact .inl ⟨by assumption,rfl⟩
  ·exact .inr ⟨by omega,rfl⟩
 clear hf ht hr
 have HK:=Lib.hid hcase
 have HF:=Lib.hid hF
 have HT:=Lib.hid hT
 clear hcase hF hT
 have hnew:=four_new w a b c d
 unfold ptV
 go_enter Tryz.func205,Tryz.ntmps205
 have HN:=Lib.hid hnew
 clear hnew
 go_wp2_with fail
 refine calls_named fun W hW=>?_
 obtain⟨kA,kB,kC,kD,kW,kz⟩:=HN.out W hW
 clear hW HN kz
 refine(ends_any a b _).mono ?_
 rintro e w1 ⟨rfl,hb1⟩
 replace kA:=kA.on hb1
 replace kB:=kB.on hb1
 replace kC:=kC.on hb1
 replace kD:=kD.on hb1
 replace kW:=kW.trans (hb1.mono kW.size)
 obtain⟨a',ha⟩:∃q,q=endA a b:=⟨_,rfl⟩
 obtain⟨b',hb⟩:∃q,q=endB a b:=⟨_,rfl⟩
 have hF:=HF.out
 have hT:=HT.out
 rw[←ha]at hF
 rw[←hb]at hT
 rw[←ha,←hb]
 replace HF:=Lib.hid hF
 replace HT:=Lib.hid hT
 clear hb1 ha hb hF hT
 obtain⟨a1,a2,a3,a4⟩:=kA.facts
 obtain⟨b1,b2,b3,b4⟩:=kB.facts
 obtain⟨c1,c2,c3,c4⟩:=kC.facts
 obtain⟨d1,d2,d3,d4⟩:=kD.facts
 unfold ptV
 go_wp2_with fail
 refine calls_named fun W hW=>?_
 replace kA:PtB W w.heap.size a':=by rw[hW];exact(kA.put a').far2 (by omega) _ _
 replace kB:PtB W (w.heap.size+1) b':=by rw[hW];exact(kB.far2 (by omega) _ _).put b'
 replace kC:PtB W (w.heap.size+1+1) c:=by rw[hW];exact(kC.far2 (by omega) _ _).far2 (by omega) _ _
 replace kD:PtB W (w.heap.size+1+1+1) d:=by rw[hW];exact(kD.far2 (by omega) _ _).far2 (by omega) _ _
 replace kW:Below w.heap.size w W:=by rw[hW];exact below_put (below_put kW (by omega) _ _) (by omega) _ _
 clear hW a1 a2 a3 a4 b1 b2 b3 b4 c1 c2 c3 c4 d1 d2 d3 d4
 refine(ends_any c d _).mono ?_
 rintro e w2 ⟨rfl,hb2⟩
 replace kA:=kA.on hb2
 replace kB:=kB.on hb2
 replace kC:=kC.on hb2
 replace kD:=kD.on hb2
 replace kW:=kW.trans (hb2.mono kW.size)
 obtain⟨c',hc⟩:∃q,q=endA c d:=⟨_,rfl⟩
 obtain⟨d',hd⟩:∃q,q=endB c d:=⟨_,rfl⟩
 have hF:=HF.out
 have hT:=HT.out
 rw[←hc]at hF
 rw[←hd]at hT
 rw[←hc,←hd]
 replace HF:=Lib.hid hF
 replace HT:=Lib.hid hT
 clear hb2 hc hd hF hT
 obtain⟨a1,a2,a3,a4⟩:=kA.facts
 obtain⟨b1,b2,b3,b4⟩:=kB.facts
 obtain⟨c1,c2,c3,c4⟩:=kC.facts
 obtain⟨d1,d2,d3,d4⟩:=kD.facts
 unfold ptV
 go_wp2_with fail
 refine wp_named fun W hW=>?_
 replace kA:PtB W w.heap.size a':=by rw[hW];exact(kA.far2 (by omega) _ _).far2 (by omega) _ _
 replace kB:PtB W (w.heap.size+1) b':=by rw[hW];exact(kB.far2 (by omega) _ _).far2 (by omega) _ _
 replace kC:PtB W (w.heap.size+1+1) c':=by rw[hW];exact(kC.put c').far2 (by omega) _ _
 replace kD:PtB W (w.heap.size+1+1+1) d':=by rw[hW];exact(kD.far2 (by omega) _ _).put d'
 replace kW:Below w.heap.size w W:=by rw[hW];exact below_put (below_put kW (by omega) _ _) (by omega) _ _
 clear hW a1 a2 a3 a4 b1 b2 b3 b4 c1 c2 c3 c4 d1 d2 d3 d4
 obtain⟨b1,b2,_⟩:=kB.pt
 obtain⟨c1,c2,_⟩:=kC.pt
 have b3:=fun o=>(kB.alloc o).pt.1
 have b4:=fun o=>(kB.alloc o).pt.2.1
 have c3:=fun o=>(kC.alloc o).pt.1
 have c4:=fun o=>(kC.alloc o).pt.2.1
 have b5:=fun o o'=>((kB.alloc o).alloc o').pt.1
 have b6:=fun o o'=>((kB.alloc o).alloc o').pt.2.1
 have c5:=fun o o'=>((kC.alloc o).alloc o').pt.1
 have c6:=fun o o'=>((kC.alloc o).alloc o').pt.2.1
 have hWz:w.heap.size+1+1+1<W.heap.size:=kD.lt
 go_region
 ·generalize hW2:((W.alloc (.cells #[.int .i64 c'.x,.int .i64 c'.y] 23)).alloc (.cells #[.int .i64 b'.x,.int .i64 b'.y] 23)).drew=W2
  have kF:PtB W2 W.heap.size c':=by
   rw[←hW2]
   exact((PtB.new W c').alloc _).drew
  have kT:PtB W2 (W.heap.size+1) b':=by
   rw[←hW2]
   have:=PtB.new (W.alloc (.cells #[.int .i64 c'.x,.int .i64 c'.y] 23)) b'
   rw[World.size_alloc]at this
   exact this.drew
  have hne:W.heap.size≠(W.heap.size+1):=by omega
  have g1:w.heap.size+1+1+1<W.heap.size:=by omega
  have g2:w.heap.size+1+1+1<(W.heap.size+1):=by omega
  replace kA:PtB W2 w.heap.size a':=by rw[←hW2];exact((kA.alloc _).alloc _).drew
  replace kB:PtB W2 (w.heap.size+1) b':=by rw[←hW2];exact((kB.alloc _).alloc _).drew
  replace kD:PtB W2 (w.heap.size+1+1+1) d':=by rw[←hW2];exact((kD.alloc _).alloc _).drew
  replace kW:Below w.heap.size w W2:=by rw[←hW2];exact((kW.alloc (by omega) _).alloc (by simp;omega) _).drew
  replace kC:PtB W2 (w.heap.size+1+1) c':=by rw[←hW2];exact((kC.alloc _).alloc _).drew
  clear hW2 b1 b2 b3 b4 b5 b6 c1 c2 c3 c4 c5 c6
  obtain⟨a1,a2,a3⟩:=kA.pt
  obtain⟨c1,c2,c3⟩:=kC.pt
  go_wp2_with fail
  refine(order_any a' c' _).mono ?_
  rintro e w3 ⟨rfl,hb3⟩
  replace kA:=kA.on hb3
  replace kB:=kB.on hb3
  replace kD:=kD.on hb3
  replace kF:=kF.on hb3
  replace kT:=kT.on hb3
  replace kW:=kW.trans (hb3.mono kW.size)
  clear hb3 a1 a2 a3 c1 c2 c3
  rcases HF.out with ⟨hF,rfl⟩|⟨hF,rfl⟩
  all_goals
   clear HF
   obtain⟨a1,a2,a3,a4⟩:=kA.facts
   obtain⟨b1,b2,b3,b4⟩:=kB.facts
   obtain⟨d1,d2,d3,d4⟩:=kD.facts
   obtain⟨f1,f2,f3,f4⟩:=kF.facts
   go_wp2_with fail
   refine calls_named fun W3 hW3=>?_
   first
   |(replace kF:PtB W3 W.heap.size f:=by rw[hW3];exact kF.put _
     replace kB:PtB W3 (w.heap.size+1) b':=by rw[hW3];exact kB.far2 (by omega) _ _
     replace kD:PtB W3 (w.heap.size+1+1+1) d':=by rw[hW3];exact kD.far2 (by omega) _ _
     replace kT:PtB W3 (W.heap.size+1) b':=by rw[hW3];exact kT.far2 (by omega) _ _
     replace kW:Below w.heap.size w W3:=by rw[hW3];exact below_put kW (by omega) _ _
     clear hW3 hF a1 a2 a3 a4 b1 b2 b3 b4 d1 d2 d3 d4 f1 f2 f3 f4
     refine(order_any d' b' _).mono ?_
     rintro e w4 ⟨rfl,hb4⟩
     have hq4:PtB w4 W.heap.size f∧PtB w4 (W.heap.size+1) b'∧PtB w4 (w.heap.size+1+1+1) d'∧Below w.heap.size w w4:=⟨kF.on hb4,kT.on hb4,kD.on hb4,kW.trans (hb4.mono kW.size)⟩
     clear kF kT kD kW
     obtain⟨kF,kT,kD,kW⟩:=hq4
     clear hb4)
   |(replace kF:PtB W3 W.heap.size f:=by rw[hW3];exact kF
     replace kB:PtB W3 (w.heap.size+1) b':=by rw[hW3];exact kB
     replace kD:PtB W3 (w.heap.size+1+1+1) d':=by rw[hW3];exact kD
     replace kT:PtB W3 (W.heap.size+1) b':=by rw[hW3];exact kT
     replace kW:Below w.heap.size w W3:=by rw[hW3];exact kW
     clear hW3 hF a1 a2 a3 a4 b1 b2 b3 b4 d1 d2 d3 d4 f1 f2 f3 f4
     refine(order_any d' b' _).mono ?_
     rintro e w4 ⟨rfl,hb4⟩
     have hq4:PtB w4 W.heap.size f∧PtB w4 (W.heap.size+1) b'∧PtB w4 (w.heap.size+1+1+1) d'∧Below w.heap.size w w4:=⟨kF.on hb4,kT.on hb4,kD.on hb4,kW.trans (hb4.mono kW.size)⟩
     clear kF kT kD kW
     obtain⟨kF,kT,kD,kW⟩:=hq4
     clear hb4)
   rcases HT.out with ⟨hT,rfl⟩|⟨hT,rfl⟩
   all_goals
    clear HT
    obtain⟨f1,f2,f3⟩:=kF.pt
    obtain⟨t1,t2,t3,t4⟩:=kT.facts
    obtain⟨d1,d2,d3⟩:=kD.pt
    go_wp2_with fail
    refine calls_named fun W4 hW4=>?_
    first
    |(replace kF:PtB W4 W.heap.size f:=by rw[hW4];exact kF.far2 (by omega) _ _
      replace kT:PtB W4 (W.heap.size+1) t:=by rw[hW4];exact kT.put _
      replace kW:Below w.heap.size w W4:=by rw[hW4];exact below_put kW (by omega) _ _
      clear hW4 hT f1 f2 f3 t1 t2 t3 t4 d1 d2 d3)
    |(replace kF:PtB W4 W.heap.size f:=by rw[hW4];exact kF
      replace kT:PtB W4 (W.heap.size+1) t:=by rw[hW4];exact kT
      replace kW:Below w.heap.size w W4:=by rw[hW4];exact kW
      clear hW4 hT f1 f2 f3 t1 t2 t3 t4 d1 d2 d3)
    refine(order_any f t _).mono ?_
    rintro e w5 ⟨rfl,hb5⟩
    replace kW:=kW.trans (hb5.mono kW.size)
    clear hb5
    rcases HK.out with ⟨hk,rfl⟩|⟨hk,rfl⟩|⟨hk,rfl⟩
    ·go_wp2
     go_ret
     exact⟨rfl,kW⟩
    ·have hk2:(ordI f t==0)=true:=by simpa using hk
     have hk3:¬0<ordI f t:=by omega
     clear hk
     go_wp2
     go_ret
     exact⟨rfl,kW⟩
    ·have hk2:(ordI f t==0)=false:=by simp;omega
     have hk3:¬0<ordI f t:=by omega
     clear hk
     go_wp2
     go_ret
     exact⟨rfl,kW⟩
 ·generalize hW2:((W.alloc (.cells #[.int .i64 b'.x,.int .i64 b'.y] 23)).alloc (.cells #[.int .i64 c'.x,.int .i64 c'.y] 23)).drew=W2
  have kF:PtB W2 (W.heap.size+1) c':=by
   rw[←hW2]
   have:=PtB.new (W.alloc (.cells #[.int .i64 b'.x,.int .i64 b'.y] 23)) c'
   rw[World.size_alloc]at this
   exact this.drew
  have kT:PtB W2 W.heap.size b':=by
   rw[←hW2]
   exact((PtB.new W b').alloc _).drew
  have hne:(W.heap.size+1)≠W.heap.size:=by omega
  have g1:w.heap.size+1+1+1<(W.heap.size+1):=by omega
  have g2:w.heap.size+1+1+1<W.heap.size:=by omega
  replace kA:PtB W2 w.heap.size a':=by rw[←hW2];exact((kA.alloc _).alloc _).drew
  replace kB:PtB W2 (w.heap.size+1) b':=by rw[←hW2];exact((kB.alloc _).alloc _).drew
  replace kD:PtB W2 (w.heap.size+1+1+1) d':=by rw[←hW2];exact((kD.alloc _).alloc _).drew
  replace kW:Below w.heap.size w W2:=by rw[←hW2];exact((kW.alloc (by omega) _).alloc (by simp;omega) _).drew
  replace kC:PtB W2 (w.heap.size+1+1) c':=by rw[←hW2];exact((kC.alloc _).alloc _).drew
  clear hW2 b1 b2 b3 b4 b5 b6 c1 c2 c3 c4 c5 c6
  obtain⟨a1,a2,a3⟩:=kA.pt
  obtain⟨c1,c2,c3⟩:=kC.pt
  go_wp2_with fail
  refine(order_any a' c' _).mono ?_
  rintro e w3 ⟨rfl,hb3⟩
  replace kA:=kA.on hb3
  replace kB:=kB.on hb3
  replace kD:=kD.on hb3
  replace kF:=kF.on hb3
  replace kT:=kT.on hb3
  replace kW:=kW.trans (hb3.mono kW.size)
  clear hb3 a1 a2 a3 c1 c2 c3
  rcases HF.out with ⟨hF,rfl⟩|⟨hF,rfl⟩
  all_goals
   clear HF
   obtain⟨a1,a2,a3,a4⟩:=kA.facts
   obtain⟨b1,b2,b3,b4⟩:=kB.facts
   obtain⟨d1,d2,d3,d4⟩:=kD.facts
   obtain⟨f1,f2,f3,f4⟩:=kF.facts
   go_wp2_with fail
   refine calls_named fun W3 hW3=>?_
   first
   |(replace kF:PtB W3 (W.heap.size+1) f:=by rw[hW3];exact kF.put _
     replace kB:PtB W3 (w.heap.size+1) b':=by rw[hW3];exact kB.far2 (by omega) _ _
     replace kD:PtB W3 (w.heap.size+1+1+1) d':=by rw[hW3];exact kD.far2 (by omega) _ _
     replace kT:PtB W3 W.heap.size b':=by rw[hW3];exact kT.far2 (by omega) _ _
     replace kW:Below w.heap.size w W3:=by rw[hW3];exact below_put kW (by omega) _ _
     clear hW3 hF a1 a2 a3 a4 b1 b2 b3 b4 d1 d2 d3 d4 f1 f2 f3 f4
     refine(order_any d' b' _).mono ?_
     rintro e w4 ⟨rfl,hb4⟩
     have hq4:PtB w4 (W.heap.size+1) f∧PtB w4 W.heap.size b'∧PtB w4 (w.heap.size+1+1+1) d'∧Below w.heap.size w w4:=⟨kF.on hb4,kT.on hb4,kD.on hb4,kW.trans (hb4.mono kW.size)⟩
     clear kF kT kD kW
     obtain⟨kF,kT,kD,kW⟩:=hq4
     clear hb4)
   |(replace kF:PtB W3 (W.heap.size+1) f:=by rw[hW3];exact kF
     replace kB:PtB W3 (w.heap.size+1) b':=by rw[hW3];exact kB
     replace kD:PtB W3 (w.heap.size+1+1+1) d':=by rw[hW3];exact kD
     replace kT:PtB W3 W.heap.size b':=by rw[hW3];exact kT
     replace kW:Below w.heap.size w W3:=by rw[hW3];exact kW
     clear hW3 hF a1 a2 a3 a4 b1 b2 b3 b4 d1 d2 d3 d4 f1 f2 f3 f4
     refine(order_any d' b' _).mono ?_
     rintro e w4 ⟨rfl,hb4⟩
     have hq4:PtB w4 (W.heap.size+1) f∧PtB w4 W.heap.size b'∧PtB w4 (w.heap.size+1+1+1) d'∧Below w.heap.size w w4:=⟨kF.on hb4,kT.on hb4,kD.on hb4,kW.trans (hb4.mono kW.size)⟩
     clear kF kT kD kW
     obtain⟨kF,kT,kD,kW⟩:=hq4
     clear hb4)
   rcases HT.out with ⟨hT,rfl⟩|⟨hT,rfl⟩
   all_goals
    clear HT
    obtain⟨f1,f2,f3⟩:=kF.pt
    obtain⟨t1,t2,t3,t4⟩:=kT.facts
    obtain⟨d1,d2,d3⟩:=kD.pt
    go_wp2_with fail
    refine calls_named fun W4 hW4=>?_
    first
    |(replace kF:PtB W4 (W.heap.size+1) f:=by rw[hW4];exact kF.far2 (by omega) _ _
      replace kT:PtB W4 W.heap.size t:=by rw[hW4];exact kT.put _
      replace kW:Below w.heap.size w W4:=by rw[hW4];exact below_put kW (by omega) _ _
      clear hW4 hT f1 f2 f3 t1 t2 t3 t4 d1 d2 d3)
    |(replace kF:PtB W4 (W.heap.size+1) f:=by rw[hW4];exact kF
      replace kT:PtB W4 W.heap.size t:=by rw[hW4];exact kT
      replace kW:Below w.heap.size w W4:=by rw[hW4];exact kW
      clear hW4 hT f1 f2 f3 t1 t2 t3 t4 d1 d2 d3)
    refine(order_any f t _).mono ?_
    rintro e w5 ⟨rfl,hb5⟩
    replace kW:=kW.trans (hb5.mono kW.size)
    clear hb5
    rcases HK.out with ⟨hk,rfl⟩|⟨hk,rfl⟩|⟨hk,rfl⟩
    ·go_wp2
     go_ret
     exact⟨rfl,kW⟩
    ·have hk2:(ordI f t==0)=true:=by simpa using hk
     have hk3:¬0<ordI f t:=by omega
     clear hk
     go_wp2
     go_ret
     exact⟨rfl,kW⟩
    ·have hk2:(ordI f t==0)=false:=by simp;omega
     have hk3:¬0<ordI f t:=by omega
     clear hk
     go_wp2
     go_ret
     exact⟨rfl,kW⟩
end Go.Proofs.YtpkeacnacjnlcaaGreat
namespace Go.Proofs.YtpkeacnacjnlcaaGreat
open Go.RowKit
theorem reads_four (w:World) (a b c d:Pt) (k:Nat) (hk:k=w.heap.size):Reads (w.alloc (.cells #[.int .i64 a.x,.int .i64 a.y,.int .i64 b.x,.int .i64 b.y,.int .i64 c.x,.int .i64 c.y,.int .i64 d.x,.int .i64 d.y] 23)) (w.alloc (.cells #[.int .i64 a.x,.int .i64 a.y,.int .i64 b.x,.int .i64 b.y,.int .i64 c.x,.int .i64 c.y,.int .i64 d.x,.int .i64 d.y] 23)).heap.size 2 (some ⟨k,0,none⟩) 4 (ptsV [a,b,c,d]):=by
 subst hk
 exact Reads.made w _ _ _ 2 4 _ rfl rfl
theorem good_in {p:Pt} (h:good p=true):p.inI:=by
 rw[good_iff]at h
 unfold Pt.inI
 omega
theorem unit_mul {x y:Int} (hx: -1≤x∧x≤1) (hy: -1≤y∧y≤1): -1≤x*y∧x*y≤1:=by
 have h:x= -1∨x=0∨x=1:=by omega
 rcases h with rfl|rfl|rfl<;>omega
theorem turn6 (x y x' y' x'' y'':Int) (w:World) (ha:good ⟨x,y⟩=true) (hb:good ⟨x',y'⟩=true) (hc:good ⟨x'',y''⟩=true):
 Calls Tryz.prog 188 #[.agg #[.int .i64 x,.int .i64 y],.agg #[.int .i64 x',.int .i64 y'],.agg #[.int .i64 x'',.int .i64 y'']] w fun e w'=>e= .returned (.int .i64 (sgn (cr ⟨x,y⟩ ⟨x',y'⟩ ⟨x'',y''⟩)))∧Below w.heap.size w w':=turn_any _ _ _ w ha hb hc
theorem held4 {w W W':World} {p q r s:Int} {p' q' r' s':Int} (h:W.cell? ⟨w.heap.size,0,none⟩=some (.int .i64 p)∧W.cell? ⟨w.heap.size,1,none⟩=some (.int .i64 p')∧W.cell? ⟨w.heap.size+1,0,none⟩=some (.int .i64 q)∧W.cell? ⟨w.heap.size+1,1,none⟩=some (.int .i64 q')∧W.cell? ⟨w.heap.size+1+1,0,none⟩=some (.int .i64 r)∧W.cell? ⟨w.heap.size+1+1,1,none⟩=some (.int .i64 r')∧W.cell? ⟨w.heap.size+1+1+1,0,none⟩=some (.int .i64 s)∧W.cell? ⟨w.heap.size+1+1+1,1,none⟩=some (.int .i64 s')∧w.heap.size+1+1+1<W.heap.size∧Below w.heap.size w W) (hb:Below W.heap.size W W'):
 W'.cell? ⟨w.heap.size,0,none⟩=some (.int .i64 p)∧W'.cell? ⟨w.heap.size,1,none⟩=some (.int .i64 p')∧W'.cell? ⟨w.heap.size+1,0,none⟩=some (.int .i64 q)∧W'.cell? ⟨w.heap.size+1,1,none⟩=some (.int .i64 q')∧W'.cell? ⟨w.heap.size+1+1,0,none⟩=some (.int .i64 r)∧W'.cell? ⟨w.heap.size+1+1,1,none⟩=some (.int .i64 r')∧W'.cell? ⟨w.heap.size+1+1+1,0,none⟩=some (.int .i64 s)∧W'.cell? ⟨w.heap.size+1+1+1,1,none⟩=some (.int .i64 s')∧w.heap.size+1+1+1<W'.heap.size∧Below w.heap.size w W':=by
 obtain⟨h1,h2,h3,h4,h5,h6,h7,h8,h9,h10⟩:=h
 exact⟨(hb.cell (p:=⟨_,0,none⟩) (by simp only;omega)).trans h1,(hb.cell (p:=⟨_,1,none⟩) (by simp only;omega)).trans h2,(hb.cell (p:=⟨_,0,none⟩) (by simp only;omega)).trans h3,(hb.cell (p:=⟨_,1,none⟩) (by simp only;omega)).trans h4,(hb.cell (p:=⟨_,0,none⟩) (by simp only;omega)).trans h5,(hb.cell (p:=⟨_,1,none⟩) (by simp only;omega)).trans h6,(hb.cell (p:=⟨_,0,none⟩) (by simp only;omega)).trans h7,(hb.cell (p:=⟨_,1,none⟩) (by simp only;omega)).trans h8,Nat.lt_of_lt_of_le h9 hb.size,below_on h10 (Nat.le_refl _) hb⟩
set_option maxRecDepth 100000 in
set_option maxHeartbeats 6400000 in
theorem meet_any (a b c d:Pt) (w:World) (ha:good a=true) (hb:good b=true) (hc:good c=true) (hd:good d=true):
 Calls Tryz.prog 181 #[ptV a,ptV b,ptV c,ptV d] w fun e w'=>e= .returned (.tuple #[.int .i64 (meetP a b c d),.int .i64 0])∧Below w.heap.size w w':=by
 have hnew:=four_new w a b c d
 have HG:=Lib.hid (And.intro ha (And.intro hb (And.intro hc hd)))
 clear ha hb hc hd
 obtain⟨X1,hX1⟩:∃X,(if a.x<b.x then b.x else a.x)=X:=⟨_,rfl⟩
 obtain⟨X2,hX2⟩:∃X,(if d.x<c.x then d.x else c.x)=X:=⟨_,rfl⟩
 obtain⟨X3,hX3⟩:∃X,(if c.x<d.x then d.x else c.x)=X:=⟨_,rfl⟩
 obtain⟨X4,hX4⟩:∃X,(if b.x<a.x then b.x else a.x)=X:=⟨_,rfl⟩
 obtain⟨Y1,hY1⟩:∃X,(if a.y<b.y then b.y else a.y)=X:=⟨_,rfl⟩
 obtain⟨Y2,hY2⟩:∃X,(if d.y<c.y then d.y else c.y)=X:=⟨_,rfl⟩
 obtain⟨Y3,hY3⟩:∃X,(if c.y<d.y then d.y else c.y)=X:=⟨_,rfl⟩
 obtain⟨Y4,hY4⟩:∃X,(if b.y<a.y then b.y else a.y)=X:=⟨_,rfl⟩
 have hap:apB a b c d=decide (X1<X2∨X3<X4∨Y1<Y2∨Y3<Y4):=by
  unfold apB mx mn
  rw[hX1,hX2,hX3,hX4,hY1,hY2,hY3,hY4]
 have HX:=Lib.hid (And.intro hX1 (And.intro hX2 (And.intro hX3 (And.intro hX4 (And.intro hY1 (And.intro hY2 (And.intro hY3 hY4)))))))
 clear hX1 hX2 hX3 hX4 hY1 hY2 hY3 hY4
 obtain⟨r,hr⟩:∃r,r=meetP a b c d:=⟨_,rfl⟩
 rw[←hr]
 have HA:=Lib.hid (And.intro hap hr)
 clear hap hr
 unfold ptV
 go_enter Tryz.func181,Tryz.ntmps181
 have HN:=Lib.hid hnew
 clear hnew
 go_upto_region 1 with fail
 refine wp_named fun W hW=>?_
 obtain⟨kA,kB,kC,kD,kW,kz⟩:=HN.out W hW
 clear hW HN kz
 obtain⟨a1,a2,a3⟩:=kA.pt
 obtain⟨b1,b2,b3⟩:=kB.pt
 obtain⟨c1,c2,c3⟩:=kC.pt
 obtain⟨d1,d2,d3⟩:=kD.pt
 go_wp2_with fail
 refine(good_any [a,b,c,d] _ 4 4 _ ?hq (by omega) ?hin).mono ?_
 case hq=>exact reads_four W a b c d _ rfl
 case hin=>
  intro p hp
  have:=HG.out
  simp at hp
  rcases hp with rfl|rfl|rfl|rfl
  ·exact good_in this.1
  ·exact good_in this.2.1
  ·exact good_in this.2.2.1
  ·exact good_in this.2.2.2
 rintro e w1 ⟨rfl,hb1⟩
 have hgl:goodL [a,b,c,d]=true:=by simp[goodL,HG.out]
 rw[hgl]
 replace kA:=(kA.alloc _).on hb1
 replace kB:=(kB.alloc _).on hb1
 replace kC:=(kC.alloc _).on hb1
 replace kD:=(kD.alloc _).on hb1
 replace kW:=(kW.alloc kW.size _).trans (hb1.mono (by simp;have:=kW.size;omega))
 clear hgl hb1 a1 a2 a3 b1 b2 b3 c1 c2 c3 d1 d2 d3
 obtain⟨a1,a2,a3⟩:=kA.pt
 obtain⟨b1,b2,b3⟩:=kB.pt
 obtain⟨c1,c2,c3⟩:=kC.pt
 obtain⟨d1,d2,d3⟩:=kD.pt
 go_upto_region 3 with fail
 obtain⟨bx,hbx⟩:∃bx,bx=decide (X1<X2∨X3<X4∨Y1<Y2∨Y3<Y4):=⟨_,rfl⟩
 have HB:=Lib.hid hbx
 clear hbx
 go_cut [70] (fun s wx=>s= .bool bx∧wx=w1)
 case first=>
  obtain⟨hX1,hX2,hX3,hX4,hY1,hY2,hY3,hY4⟩:=HX.out
  have h5:(X1<X2)∨(X2≤X1∧X3<X4)∨(X2≤X1∧X4≤X3∧Y1<Y2)∨(X2≤X1∧X4≤X3∧Y2≤Y1∧Y3<Y4)∨(X2≤X1∧X4≤X3∧Y2≤Y1∧Y4≤Y3):=by omega
  have HB5:=HB.out
  rcases h5 with h|⟨h,h2⟩|⟨h,h2,h3⟩|⟨h,h2,h3,h4⟩|⟨h,h2,h3,h4⟩
  all_goals
   first
   |(rw [decide_eq_true (by omega)]at HB5)
   |(rw [decide_eq_false (by omega)]at HB5)
   have HB6:=Lib.hid HB5
   clear HB5
   go_wp2_with fail
   go_meet
   exact⟨by first|(rw [HB6.out];done)|(rw [HB6.out];congr 1;simp;omega),rfl⟩
 case rest=>
  obtain⟨rfl,rfl⟩:=hcut
  clear HX
  have hap:=HA.out.1
  rw[←HB.out]at hap
  have hrr:=HA.out.2
  unfold meetP at hrr
  rw[hap]at hrr
  clear hap HA HB
  rcases bx with _|_
  ·rw[if_neg (by decide)]at hrr
   obtain⟨zB,hz⟩:∃z,z=zeB a b c d:=⟨_,rfl⟩
   obtain⟨pB,hp⟩:∃z,z=prB a b c d:=⟨_,rfl⟩
   obtain⟨oB,ho⟩:∃z,z=oeB a b c d:=⟨_,rfl⟩
   rw[←hz,←hp,←ho]at hrr
   have HR:=Lib.hid hrr
   unfold zeB at hz
   unfold prB at hp
   unfold oeB at ho
   have HO:=Lib.hid ho
   clear hrr ho
   obtain⟨t1,ht1⟩:∃t,t=sgn (cr a b c):=⟨_,rfl⟩
   obtain⟨t2,ht2⟩:∃t,t=sgn (cr a b d):=⟨_,rfl⟩
   obtain⟨t3,ht3⟩:∃t,t=sgn (cr c d a):=⟨_,rfl⟩
   obtain⟨t4,ht4⟩:∃t,t=sgn (cr c d b):=⟨_,rfl⟩
   rw[←ht1,←ht2,←ht3,←ht4]at hz hp
   have hbd:(-1≤t1∧t1≤1)∧(-1≤t2∧t2≤1)∧(-1≤t3∧t3≤1)∧(-1≤t4∧t4≤1):=by rw[ht1,ht2,ht3,ht4];exact⟨sgn_bd _,sgn_bd _,sgn_bd _,sgn_bd _⟩
   have HT:=Lib.hid (And.intro ht1 (And.intro ht2 (And.intro ht3 ht4)))
   have HZ:=Lib.hid (And.intro hz hp)
   have HD:=Lib.hid hbd
   clear hz hp ht1 ht2 ht3 ht4 hbd
   go_upto_region 5 with fail
   go_cut [10,11,12,13] (fun s1 s2 s3 s4 wx=>s1= .int .i64 t1∧s2= .int .i64 t2∧s3= .int .i64 t3∧s4= .int .i64 t4∧HasPt wx w.heap.size a∧HasPt wx (w.heap.size+1) b∧HasPt wx (w.heap.size+1+1) c∧HasPt wx (w.heap.size+1+1+1) d∧Below w.heap.size w wx)
   case first=>
    go_region_held3 (fun W=>W.cell? ⟨w.heap.size,0,none⟩=some (.int .i64 a.x)∧W.cell? ⟨w.heap.size,1,none⟩=some (.int .i64 a.y)∧W.cell? ⟨w.heap.size+1,0,none⟩=some (.int .i64 b.x)∧W.cell? ⟨w.heap.size+1,1,none⟩=some (.int .i64 b.y)∧W.cell? ⟨w.heap.size+1+1,0,none⟩=some (.int .i64 c.x)∧W.cell? ⟨w.heap.size+1+1,1,none⟩=some (.int .i64 c.y)∧W.cell? ⟨w.heap.size+1+1+1,0,none⟩=some (.int .i64 d.x)∧W.cell? ⟨w.heap.size+1+1+1,1,none⟩=some (.int .i64 d.y)∧w.heap.size+1+1+1<W.heap.size∧Below w.heap.size w W)
     (first|exact⟨a1,a2,b1,b2,c1,c2,d1,d2,d3,kW.drew⟩|exact held4 (by assumption) (by assumption))
     (first
       |(go_simp;go_at_call 188;(with_reducible refine(turn6 _ _ _ _ _ _ _ ?_ ?_ ?_).mono ?_);(first|exact HG.out.1|exact HG.out.2.1|exact HG.out.2.2.1|exact HG.out.2.2.2);(first|exact HG.out.1|exact HG.out.2.1|exact HG.out.2.2.1|exact HG.out.2.2.2);(first|exact HG.out.1|exact HG.out.2.1|exact HG.out.2.2.1|exact HG.out.2.2.2);rintro e w' ⟨rfl,hb'⟩))
    rename_i hH
    obtain⟨h1,h2,h3,h4,h5,h6,h7,h8,h9,h10⟩:=hH
    go_wp2_with fail
    go_meet
    exact⟨by rw[HT.out.1],by rw[HT.out.2.1],by rw[HT.out.2.2.1],by rw[HT.out.2.2.2],⟨h1,h2,by omega⟩,⟨h3,h4,by omega⟩,⟨h5,h6,by omega⟩,⟨h7,h8,by omega⟩,h10⟩
   case rest=>
    clear kA kB kC kD kW a1 a2 a3 b1 b2 b3 c1 c2 c3 d1 d2 d3
    obtain⟨rfl,rfl,rfl,rfl,kA,kB,kC,kD,kW⟩:=hcut
    obtain⟨w1,rfl⟩:∃w1,w1=wc:=⟨_,rfl⟩
    go_upto_region 6 with fail
    go_cut [87] (fun s wx=>s= .bool zB∧wx=w1)
    case first=>
     have h5:t1≠0∨(t1=0∧t2≠0)∨(t1=0∧t2=0∧t3≠0)∨(t1=0∧t2=0∧t3=0∧t4≠0)∨(t1=0∧t2=0∧t3=0∧t4=0):=by omega
     have hz:=HZ.out.1
     have HZ2:=Lib.hid hz
     clear hz
     rcases h5 with h|⟨h,h2⟩|⟨h,h2,h3⟩|⟨h,h2,h3,h4⟩|⟨h,h2,h3,h4⟩
     all_goals
      first
      |(have g1:(t1==0)=false:=by simpa using h)
      |(have g1:(t1==0)=true:=by simpa using h
        first
        |(have g2:(t2==0)=false:=by simpa using h2)
        |(have g2:(t2==0)=true:=by simpa using h2
          first
          |(have g3:(t3==0)=false:=by simpa using h3)
          |(have g3:(t3==0)=true:=by simpa using h3
            first
            |(have g4:(t4==0)=false:=by simpa using h4)
            |(have g4:(t4==0)=true:=by simpa using h4))))
      first
      |(have HZ3:Hid (zB=true):=by show _=_;rw[HZ2.out];exact decide_eq_true (by omega))
      |(have HZ3:Hid (zB=false):=by show _=_;rw[HZ2.out];exact decide_eq_false (by omega))
      clear HZ2
      go_wp2_with fail
      go_meet
      exact⟨by first|(rw [HZ3.out];done)|(rw [HZ3.out];rfl),rfl⟩
    case rest=>
     obtain⟨rfl,rfl⟩:=hcut
     rcases zB with _|_
     ·have HR2:Hid (r=if pB=true then 2 else if oB=true then 1 else 0):=by show _=_;rw[HR.out,if_neg (by decide)]
      have hp:=HZ.out.2
      have hbd:=HD.out
      have H3:Hid ((¬t1*t2<0∧pB=false)∨(t1*t2<0∧¬t3*t4<0∧pB=false)∨(t1*t2<0∧t3*t4<0∧pB=true)):=by
       show _∨_
       rw[hp]
       by_cases q1:t1*t2<0
       ·by_cases q2:t3*t4<0
        ·exact .inr (.inr ⟨q1,q2,decide_eq_true ⟨q1,q2⟩⟩)
        ·exact .inr (.inl ⟨q1,q2,decide_eq_false (fun h=>q2 h.2)⟩)
       ·exact .inl ⟨q1,decide_eq_false (fun h=>q1 h.1)⟩
      have hm:(-1≤t1*t2∧t1*t2≤1)∧(-1≤t3*t4∧t3*t4≤1):=⟨unit_mul hbd.1 hbd.2.1,unit_mul hbd.2.2.1 hbd.2.2.2⟩
      obtain⟨m1,hm1⟩:∃m,m=t1*t2:=⟨_,rfl⟩
      obtain⟨m2,hm2⟩:∃m,m=t3*t4:=⟨_,rfl⟩
      rw[←hm1,←hm2]at hm H3
      have hw1:IntKind.i64.wrap (t1*t2)=m1:=by rw[←hm1];exact IntWalk.i64_in _ (by omega)
      have hw2:IntKind.i64.wrap (t3*t4)=m2:=by rw[←hm2];exact IntWalk.i64_in _ (by omega)
      have hw3:wrap64 (t1*t2)=m1:=by rw[←hm1];unfold wrap64;omega
      have hw4:wrap64 (t3*t4)=m2:=by rw[←hm2];unfold wrap64;omega
      clear hp hbd hm1 hm2 hm HZ HD HR
      obtain⟨w1,rfl⟩:∃w1,w1=wc:=⟨_,rfl⟩
      go_upto_region 8 with fail
      go_cut [107] (fun s wx=>s= .bool pB∧wx=w1)
      case first=>
       rcases H3.out with ⟨q1,e⟩|⟨q1,q2,e⟩|⟨q1,q2,e⟩
       all_goals
        have HE:=Lib.hid e
        clear e
        go_wp2_with fail
        go_meet
        exact⟨by first|(rw [HE.out];done)|(rw [HE.out];rfl),rfl⟩
      case rest=>
       obtain⟨rfl,rfl⟩:=hcut
       clear hw1 hw2 hw3 hw4 H3
       rcases pB with _|_
       ·have HR3:Hid (r=if oB=true then 1 else 0):=by show _=_;rw[HR2.out,if_neg (by decide)]
        have ho:=HO.out
        have H5:Hid ((onP a b c=true∧oB=true)∨(onP a b c=false∧onP a b d=true∧oB=true)∨(onP a b c=false∧onP a b d=false∧onP c d a=true∧oB=true)∨(onP a b c=false∧onP a b d=false∧onP c d a=false∧onP c d b=true∧oB=true)∨(onP a b c=false∧onP a b d=false∧onP c d a=false∧onP c d b=false∧oB=false)):=by
         show _∨_
         rw[ho]
         cases onP a b c<;>cases onP a b d<;>cases onP c d a<;>cases onP c d b<;>simp
        clear ho
        obtain⟨w1,rfl⟩:∃w1,w1=wc:=⟨_,rfl⟩
        go_upto_region 10 with fail
        go_cut [118] (fun s wx=>s= .bool oB∧Below w.heap.size w wx)
        case first=>
         obtain⟨a1,a2,a3⟩:=kA
         obtain⟨b1,b2,b3⟩:=kB
         obtain⟨c1,c2,c3⟩:=kC
         obtain⟨d1,d2,d3⟩:=kD
         go_wp2_with fail
         refine(on_any a b c _ HG.out.1 HG.out.2.1 HG.out.2.2.1).mono ?_
         rintro e w2 ⟨rfl,hb2⟩
         replace kW:=below_on kW (Nat.le_refl _) hb2
         obtain⟨a1,a2,a3⟩:=HasPt.on ⟨a1,a2,a3⟩ hb2
         obtain⟨b1,b2,b3⟩:=HasPt.on ⟨b1,b2,b3⟩ hb2
         obtain⟨c1,c2,c3⟩:=HasPt.on ⟨c1,c2,c3⟩ hb2
         obtain⟨d1,d2,d3⟩:=HasPt.on ⟨d1,d2,d3⟩ hb2
         clear hb2
         rcases H5.out with ⟨e1,rfl⟩|H5
         ·rw[e1]
          go_wp2_with fail
          go_meet
          exact⟨rfl,kW⟩
         ·have HH:=Lib.hid H5
          have e1:onP a b c=false:=by rcases H5 with ⟨e,_⟩|⟨e,_⟩|⟨e,_⟩|⟨e,_⟩<;>exact e
          rw[e1]
          clear H5 e1
          go_wp2_with fail
          refine(on_any a b d _ HG.out.1 HG.out.2.1 HG.out.2.2.2).mono ?_
          rintro e w3 ⟨rfl,hb3⟩
          replace kW:=below_on kW (Nat.le_refl _) hb3
          obtain⟨a1,a2,a3⟩:=HasPt.on ⟨a1,a2,a3⟩ hb3
          obtain⟨b1,b2,b3⟩:=HasPt.on ⟨b1,b2,b3⟩ hb3
          obtain⟨c1,c2,c3⟩:=HasPt.on ⟨c1,c2,c3⟩ hb3
          obtain⟨d1,d2,d3⟩:=HasPt.on ⟨d1,d2,d3⟩ hb3
          clear hb3
          rcases HH.out with ⟨_,e2,rfl⟩|HH
          ·rw[e2]
           go_wp2_with fail
           go_meet
           exact⟨rfl,kW⟩
          ·have HI:=Lib.hid HH
           have e2:onP a b d=false:=by rcases HH with ⟨_,e,_⟩|⟨_,e,_⟩|⟨_,e,_⟩<;>exact e
           rw[e2]
           clear HH e2
           go_wp2_with fail
           refine(on_any c d a _ HG.out.2.2.1 HG.out.2.2.2 HG.out.1).mono ?_
           rintro e w4 ⟨rfl,hb4⟩
           replace kW:=below_on kW (Nat.le_refl _) hb4
           obtain⟨b1,b2,b3⟩:=HasPt.on ⟨b1,b2,b3⟩ hb4
           obtain⟨c1,c2,c3⟩:=HasPt.on ⟨c1,c2,c3⟩ hb4
           obtain⟨d1,d2,d3⟩:=HasPt.on ⟨d1,d2,d3⟩ hb4
           clear hb4
           rcases HI.out with ⟨_,_,e3,rfl⟩|HI
           ·rw[e3]
            go_wp2_with fail
            go_meet
            exact⟨rfl,kW⟩
           ·have HJ:=Lib.hid HI
            have e3:onP c d a=false:=by rcases HI with ⟨_,_,e,_⟩|⟨_,_,e,_⟩<;>exact e
            rw[e3]
            clear HI e3
            go_wp2_with fail
            refine(on_any c d b _ HG.out.2.2.1 HG.out.2.2.2 HG.out.2.1).mono ?_
            rintro e w5 ⟨rfl,hb5⟩
            replace kW:=below_on kW (Nat.le_refl _) hb5
            clear hb5
            rcases HJ.out with ⟨_,_,_,e4,rfl⟩|⟨_,_,_,e4,rfl⟩
            all_goals
             rw[e4]
             go_wp2_with fail
             go_meet
             exact⟨rfl,kW⟩
        case rest=>
         obtain⟨rfl,kW⟩:=hcut
         rcases oB with _|_
         ·have hr0:=HR3.out
          rw[if_neg (by decide)]at hr0
          clear HR3 HR2 HO H5
          subst hr0
          go_wp2
          go_ret2
          exact⟨rfl,kW⟩
         ·have hr0:=HR3.out
          rw[if_pos rfl]at hr0
          clear HR3 HR2 HO H5
          subst hr0
          go_wp2
          go_ret2
          exact⟨rfl,kW⟩
       ·have hr0:=HR2.out
        rw[if_pos rfl]at hr0
        clear HR2
        subst hr0
        go_wp2
        go_ret2
        exact⟨rfl,kW⟩
     ·have HR2:Hid (r=lineI a b c d):=by show _=_;rw[HR.out,if_pos rfl]
      obtain⟨a1,a2,a3⟩:=kA
      obtain⟨b1,b2,b3⟩:=kB
      obtain⟨c1,c2,c3⟩:=kC
      obtain⟨d1,d2,d3⟩:=kD
      go_wp2_with fail
      refine(line_any a b c d _).mono ?_
      rintro e w2 ⟨rfl,hb2⟩
      rw[←HR2.out]
      go_wp2
      go_ret2
      exact⟨rfl,below_on kW (Nat.le_refl _) hb2⟩
  ·have hr0:r=0:=by rw[hrr,if_pos rfl]
   clear hrr
   subst hr0
   go_wp2
   go_ret2
   exact⟨rfl,kW⟩
set_option maxHeartbeats 400000 in
theorem turnR6 (x y x' y' x'' y'':Int) (w:World) (ha:good ⟨x,y⟩=true) (hb:good ⟨x',y'⟩=true) (hc:good ⟨x'',y''⟩=true):
 Calls Tryz.prog 83 #[.agg #[.int .i64 x,.int .i64 y],.agg #[.int .i64 x',.int .i64 y'],.agg #[.int .i64 x'',.int .i64 y'']] w fun e w'=>e= .returned (.int .i64 (sgn (cr ⟨x,y⟩ ⟨x',y'⟩ ⟨x'',y''⟩)))∧Below w.heap.size w w':=by
 have h1:=cr_bd ha hb hc
 have h2:=cr_parts ha hb hc
 obtain⟨r,hr⟩:∃r,r=cr ⟨x,y⟩ ⟨x',y'⟩ ⟨x'',y''⟩:=⟨_,rfl⟩
 have hw:wrap64 (wrap64 ((x'-x)*(y''-y))-wrap64 ((y'-y)*(x''-x)))=r:=by
  rw[hr]
  unfold cr at h1 ⊢
  simp only at h1 h2 ⊢
  unfold wrap64
  omega
 rw[←hr]
 rw[good_iff]at ha hb hc
 obtain⟨a1,a2,a3,a4⟩:=ha
 obtain⟨b1,b2,b3,b4⟩:=hb
 obtain⟨c1,c2,c3,c4⟩:=hc
 simp only at a1 a2 a3 a4 b1 b2 b3 b4 c1 c2 c3 c4
 clear h1 h2 hr
 have h3:(r<0∧sgn r= -1)∨(0<r∧sgn r=1)∨(r=0∧sgn r=0):=by unfold sgn;split<;>(try split)<;>omega
 rcases h3 with ⟨h,e⟩|⟨h,e⟩|⟨h,e⟩
 all_goals
  rw[e]
  clear e
  try subst h
  go_enter Tryz.func83,Tryz.ntmps83
  go_wp2
  go_ret
  exact⟨rfl,((((Below.refl w.heap.size w).alloc (Nat.le_refl _) _).alloc (by simp) _).alloc (by simp;omega) _)⟩
set_option maxRecDepth 100000 in
theorem between_any (a b n:Int) (w:World):
 Calls Tryz.prog 121 #[.int .i64 a,.int .i64 b,.int .i64 n] w fun e w'=>e= .returned (.bool (btw a b n))∧w'=w:=by
 unfold btw
 by_cases h1:a≤n<;>by_cases h2:n≤b<;>by_cases h3:b≤n<;>by_cases h4:n≤a
 all_goals
  go_enter Tryz.func121,Tryz.ntmps121
  go_wp2
  go_ret
  exact⟨by simp[h1,h2,h3,h4],rfl⟩
theorem held6 {w W W':World} {x y x' y' x'' y'':Int} (h:W.cell? ⟨w.heap.size,0,none⟩=some (.int .i64 x)∧W.cell? ⟨w.heap.size,1,none⟩=some (.int .i64 y)∧W.cell? ⟨w.heap.size+1,0,none⟩=some (.int .i64 x')∧W.cell? ⟨w.heap.size+1,1,none⟩=some (.int .i64 y')∧W.cell? ⟨w.heap.size+1+1,0,none⟩=some (.int .i64 x'')∧W.cell? ⟨w.heap.size+1+1,1,none⟩=some (.int .i64 y'')∧w.heap.size+1+1<W.heap.size∧Below w.heap.size w W) (hb:Below W.heap.size W W'):
 W'.cell? ⟨w.heap.size,0,none⟩=some (.int .i64 x)∧W'.cell? ⟨w.heap.size,1,none⟩=some (.int .i64 y)∧W'.cell? ⟨w.heap.size+1,0,none⟩=some (.int .i64 x')∧W'.cell? ⟨w.heap.size+1,1,none⟩=some (.int .i64 y')∧W'.cell? ⟨w.heap.size+1+1,0,none⟩=some (.int .i64 x'')∧W'.cell? ⟨w.heap.size+1+1,1,none⟩=some (.int .i64 y'')∧w.heap.size+1+1<W'.heap.size∧Below w.heap.size w W':=by
 obtain⟨h1,h2,h3,h4,h5,h6,h7,h8⟩:=h
 exact⟨(hb.cell (p:=⟨_,0,none⟩) (by simp only;omega)).trans h1,(hb.cell (p:=⟨_,1,none⟩) (by simp only;omega)).trans h2,(hb.cell (p:=⟨_,0,none⟩) (by simp only;omega)).trans h3,(hb.cell (p:=⟨_,1,none⟩) (by simp only;omega)).trans h4,(hb.cell (p:=⟨_,0,none⟩) (by simp only;omega)).trans h5,(hb.cell (p:=⟨_,1,none⟩) (by simp only;omega)).trans h6,Nat.lt_of_lt_of_le h7 hb.size,h8.trans (hb.mono h8.size)⟩
set_option maxRecDepth 100000 in
set_option maxHeartbeats 1600000 in
theorem onR6 (x y x' y' x'' y'':Int) (w:World) (ha:good ⟨x,y⟩=true) (hb:good ⟨x',y'⟩=true) (hc:good ⟨x'',y''⟩=true):
 Calls Tryz.prog 82 #[.agg #[.int .i64 x,.int .i64 y],.agg #[.int .i64 x',.int .i64 y'],.agg #[.int .i64 x'',.int .i64 y'']] w fun e w'=>e= .returned (.bool (onB ⟨x,y⟩ ⟨x',y'⟩ ⟨x'',y''⟩))∧Below w.heap.size w w':=by
 have kt:∀W,Calls Tryz.prog 83 #[.agg #[.int .i64 x,.int .i64 y],.agg #[.int .i64 x',.int .i64 y'],.agg #[.int .i64 x'',.int .i64 y'']] W fun e w'=>e= .returned (.int .i64 (sgn (cr ⟨x,y⟩ ⟨x',y'⟩ ⟨x'',y''⟩)))∧Below W.heap.size W w':=fun W=>turnR6 x y x' y' x'' y'' W ha hb hc
 have kx:∀W,Calls Tryz.prog 121 #[.int .i64 x,.int .i64 x',.int .i64 x''] W fun e w'=>e= .returned (.bool (btw x x' x''))∧w'=W:=fun W=>between_any x x' x'' W
 have ky:∀W,Calls Tryz.prog 121 #[.int .i64 y,.int .i64 y',.int .i64 y''] W fun e w'=>e= .returned (.bool (btw y y' y''))∧w'=W:=fun W=>between_any y y' y'' W
 have hon:onB ⟨x,y⟩ ⟨x',y'⟩ ⟨x'',y''⟩=(decide (sgn (cr ⟨x,y⟩ ⟨x',y'⟩ ⟨x'',y''⟩)=0)&&(btw x x' x''&&btw y y' y'')):=by
  unfold onB
  congr 1
  refine decide_eq_decide.mpr ?_
  unfold sgn
  split<;>(try split)<;>omega
 have hs:=sgn_bd (cr ⟨x,y⟩ ⟨x',y'⟩ ⟨x'',y''⟩)
 generalize sgn (cr ⟨x,y⟩ ⟨x',y'⟩ ⟨x'',y''⟩)=t at *
 generalize onB ⟨x,y⟩ ⟨x',y'⟩ ⟨x'',y''⟩=o at *
 generalize btw x x' x''=bx at *
 generalize btw y y' y''=by_ at *
 subst hon
 have HK:=Lib.hid (And.intro kt (And.intro kx ky))
 clear ha hb hc kt kx ky
 have h3:t= -1∨t=1∨t=0:=by omega
 clear hs
 rcases h3 with rfl|rfl|rfl<;>rcases bx with _|_<;>rcases by_ with _|_
 all_goals
  go_enter Tryz.func82,Tryz.ntmps82
  go_wp2_with fail
  refine(HK.out.1 _).mono ?_
  rintro e w1 ⟨rfl,hb1⟩
  have hb0:=(((Below.refl w.heap.size w).alloc (Nat.le_refl _) (.cells #[.int .i64 x,.int .i64 y] 23)).alloc (by simp) (.cells #[.int .i64 x',.int .i64 y'] 23)).alloc (by simp;omega) (.cells #[.int .i64 x'',.int .i64 y''] 23)
  have HB:=Lib.hid (below_on hb0 (Nat.le_refl _) hb1)
  obtain⟨a1,a2,a3,a4,a5,a6,_⟩:=held6 (w:=w) (x:=x) (y:=y) (x':=x') (y':=y') (x'':=x'') (y'':=y'') ⟨by simp[go_sem,World.cell?_alloc_past],by simp[go_sem,World.cell?_alloc_past],by simp[go_sem,World.cell?_alloc_past],by simp[go_sem,World.cell?_alloc_past],by simp[go_sem],by simp[go_sem],by simp,hb0⟩ hb1
  clear hb0 hb1
  go_wp2_with (first
   |(go_at_call 121;(with_reducible refine(HK.out.2.1 _).mono ?_);rintro e w' ⟨rfl,rfl⟩)
   |(go_at_call 121;(with_reducible refine(HK.out.2.2 _).mono ?_);rintro e w' ⟨rfl,rfl⟩))
  go_ret
  exact⟨rfl,HB.out⟩
def lessB (a b:Pt):Bool:=decide (a.x<b.x∨a.x=b.x∧a.y<b.y)
set_option maxRecDepth 100000 in
theorem lessR6 (x y x' y':Int) (w:World):
 Calls Tryz.prog 120 #[.agg #[.int .i64 x,.int .i64 y],.agg #[.int .i64 x',.int .i64 y']] w fun e w'=>e= .returned (.bool (lessB ⟨x,y⟩ ⟨x',y'⟩))∧Below w.heap.size w w':=by
 have h3:x<x'∨x'<x∨x=x':=by omega
 rcases h3 with h|h|rfl
 ·have e:lessB ⟨x,y⟩ ⟨x',y'⟩=true:=by simp[lessB,h]
  rw[e]
  clear e
  go_enter Tryz.func120,Tryz.ntmps120
  go_wp2
  go_ret
  exact⟨rfl,((Below.refl w.heap.size w).alloc (Nat.le_refl _) _).alloc (by simp) _⟩
 ·have e:lessB ⟨x,y⟩ ⟨x',y'⟩=false:=by simp[lessB];omega
  have hne:(x==x')=false:=by simpa using(by omega:x≠x')
  rw[e]
  clear e
  go_enter Tryz.func120,Tryz.ntmps120
  go_wp2
  go_ret
  refine⟨?_,((Below.refl w.heap.size w).alloc (Nat.le_refl _) _).alloc (by simp) _⟩
  simp
  try omega
 ·by_cases h:y<y'
  ·have e:lessB ⟨x,y⟩ ⟨x,y'⟩=true:=by simp[lessB,h]
   rw[e]
   clear e
   go_enter Tryz.func120,Tryz.ntmps120
   go_wp2
   go_ret
   exact⟨rfl,((Below.refl w.heap.size w).alloc (Nat.le_refl _) _).alloc (by simp) _⟩
  ·have e:lessB ⟨x,y⟩ ⟨x,y'⟩=false:=by simp[lessB];omega
   rw[e]
   clear e
   go_enter Tryz.func120,Tryz.ntmps120
   go_wp2
   go_ret
   exact⟨rfl,((Below.refl w.heap.size w).alloc (Nat.le_refl _) _).alloc (by simp) _⟩
end Go.Proofs.YtpkeacnacjnlcaaGreat
