/- What RecordSteps and RecordApply hold behind their openings. -/
import Derived.Test.YtpkeacnacjnlcaaGreatK41
import Derived.Test.YtpkeacnacjnlcaaGreatK47
import Derived.Test.YtpkeacnacjnlcaaGreatK50
namespace Go.Proofs.YtpkeacnacjnlcaaGreat
open Go.RowKit Go.Lib
/-- The two plans, the one's items, what has to be put and what goes. -/
structure TwF (p:Plan) (A:Option Addr) (n c:Nat) (A':Option Addr) (n' c':Nat) (q:Plan) (B:Option Addr) (m d:Nat) (B':Option Addr) (m' d':Nat) (d1:List ItH) (d1A:Option Addr) (d1n d1c:Nat) (dp:List ItH) (P:Option Addr) (np cp:Nat) (dg:List BsH) (G:Option Addr) (ng cg:Nat) (w W:World):Prop where
 pl:CgF p A n c A' n' c' q B m d B' m' d' w W
 a:ItsOwn w.heap.size W d1A d1n d1c d1
 p:ItsOwn w.heap.size W P np cp dp
 g:BsOwn w.heap.size W G ng cg dg
theorem TwF.to {p q:Plan} {A A' B B' d1A P G:Option Addr} {n c n' c' m d m' d' d1n d1c np cp ng cg:Nat} {d1 dp:List ItH} {dg:List BsH} {w W W':World} (h:TwF p A n c A' n' c' q B m d B' m' d' d1 d1A d1n d1c dp P np cp dg G ng cg w W) (hb:Below W.heap.size W W'):TwF p A n c A' n' c' q B m d B' m' d' d1 d1A d1n d1c dp P np cp dg G ng cg w W':=
 ⟨h.pl.to hb,h.a.below hb,h.p.below hb,h.g.below hb⟩
structure TwN (p q:Plan) (d1 d2 dp:List ItH) (dg:List BsH) (d1n np ng:Nat):Prop where
 sp:SoundP p
 sq:SoundP q
 pa:(d1.map (·.1)).Perm (planIts p)
 pb:(d2.map (·.1)).Perm (planIts q)
 put:PutOf (d1.map (·.1)) (d2.map (·.1)) (dp.map (·.1))
 gone:GoneOf (d1.map (·.1)) (d2.map (·.1)) (dg.map (·.1))
 n1:d1.length=d1n
 n3:dp.length=np
 n4:dg.length=ng
 f1:d1n≤20000
 f3:np≤20000
 f4:ng≤20000
 sz:szL (planIts q)≤200000
end Go.Proofs.YtpkeacnacjnlcaaGreat
