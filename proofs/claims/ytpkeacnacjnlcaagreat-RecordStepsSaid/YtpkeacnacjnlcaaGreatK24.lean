/- Rows of ints, two side by side; merestoneref02.SameInts. -/
import Derived.Test.YtpkeacnacjnlcaaGreatK20
namespace Go.Proofs.YtpkeacnacjnlcaaGreat
open Go.RowKit
def intsV (l:List Int):List Value:=l.map (fun z=> .int .i64 z)
theorem intsV_append (a b:List Int):intsV (a++b)=intsV a++intsV b:=List.map_append
theorem intsV_one (z:Int):∀u∈intsV [z],u.oneCell'=true:=fun u hu=>by
 obtain rfl:u= .int .i64 z:=by simpa[intsV]using hu
 rfl
theorem info_i:(Tryz.prog.info? 3).map (fun i=>(i.zero,i.size,i.bytes))=some (some (.int .i64 0),1,8):=by kernel_rfl
theorem Reads.lenI {w:World} {B n:Nat} {A:Option Addr} {xs:List Int} (h:Reads w B 1 A n (intsV xs)):xs.length=n:=by
 have:=h.1
 simpa[intsV]using this
theorem Reads.int {w:World} {B n:Nat} {A:Option Addr} {xs:List Int} (h:Reads w B 1 A n (intsV xs)) {k:Nat} (hk:k<n):∃ad z,A=some ad∧ad.block<B∧xs[k]?=some z∧w.cell? (ad.add k)=some (.int .i64 z):=by
 obtain⟨ad,u,e,hb,hu,hc⟩:=h.at_ hk
 unfold intsV at hu
 rw[List.getElem?_map]at hu
 obtain⟨z,hz,rfl⟩:=Option.map_eq_some_iff.1 hu
 exact⟨ad,z,e,hb,hz,hc⟩
/-- Two own rows of ints, each with its own block. -/
structure TwoI (B:Nat) (W:World) (v1:Value) (n1:Nat) (xs:List Int) (v2:Value) (n2:Nat) (ys:List Int):Prop where
 one:W.ownsRow B 3 1 v1 n1 (intsV xs)
 two:W.ownsRow B 3 1 v2 n2 (intsV ys)
 sep:∀g,v1.ownBlock=some g→v2.ownBlock≠some g
theorem TwoI.swap {B:Nat} {W:World} {v1 v2:Value} {n1 n2:Nat} {xs ys:List Int} (h:TwoI B W v1 n1 xs v2 n2 ys):TwoI B W v2 n2 ys v1 n1 xs:=⟨h.two,h.one,fun g h2 h1=>h.sep g h1 h2⟩
theorem TwoI.nil {B:Nat} {W:World}:TwoI B W (.slice none 0 0) 0 [] (.slice none 0 0) 0 []:=⟨World.ownsRow_nil _ _ _ _,World.ownsRow_nil _ _ _ _,fun g h=>by simp[Value.ownBlock]at h⟩
theorem TwoI.on {B:Nat} {W W':World} {v1 v2:Value} {n1 n2:Nat} {xs ys:List Int} (h:TwoI B W v1 n1 xs v2 n2 ys) (hb:Below W.heap.size W W'):TwoI B W' v1 n1 xs v2 n2 ys:=⟨own_below h.one hb,own_below h.two hb,h.sep⟩
theorem TwoI.app {B m:Nat} {W W':World} {v1 v2 v':Value} {n1 n2:Nat} {xs ys zs:List Int} (h:TwoI B W v1 n1 xs v2 n2 ys) (ho:W'.ownsRow B 3 1 v' m (intsV zs)) (hg:W.grownBy W' v1.ownBlock) (hat:v'.ownBlock=v1.ownBlock∨v'.ownBlock=some W.heap.size):TwoI B W' v' m zs v2 n2 ys:=by
 refine⟨ho,own_heap h.two fun g hg2=>hg.block g (h.two.lt g hg2).2 (fun e=>h.sep g e.symm hg2),fun g h1 h2=>?_⟩
 rcases hat with e|e
 ·exact h.sep g (e▸h1) h2
 ·have:=(h.two.lt g h2).2
  rw[e]at h1
  injection h1 with h1
  omega
end Go.Proofs.YtpkeacnacjnlcaaGreat
