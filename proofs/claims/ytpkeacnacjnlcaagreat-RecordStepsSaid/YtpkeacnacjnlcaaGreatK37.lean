/- plan.Changed: the walk. -/
import Derived.Deep.CutBlock
import Derived.Deep.DeepCutAuto
import Derived.Shelf.Slices.In.SortNone
import Derived.Shelf.Sort.Plain
import Derived.Sort.OwnSortedInts
import Derived.Test.YtpkeacnacjnlcaaGreatK14
import Derived.Test.YtpkeacnacjnlcaaGreatK24
import Derived.Test.YtpkeacnacjnlcaaGreatK26
import Derived.Test.YtpkeacnacjnlcaaGreatK32
import Derived.Test.YtpkeacnacjnlcaaGreatK35
namespace Go.Proofs.YtpkeacnacjnlcaaGreat
open Go.RowKit Go.Lib
/-- What has been met of a range over a map, and what was put down. -/
structure SeenC (ks:List Int) (P:Int→Prop) (o0:List Int) (seen:Array Nat) (out:List Int):Prop where
 nd:out.Nodup
 mem:∀z,z∈out↔z∈o0∨∃i,∃h:i<ks.length,seen.contains i=true∧ks[i]=z∧P z
theorem SeenC.start {ks:List Int} {P:Int→Prop} {o0:List Int} (h:o0.Nodup):SeenC ks P o0 #[] o0:=⟨h,fun z=>⟨.inl,fun h=>h.elim id (fun ⟨i,_,h,_⟩=>by simp at h)⟩⟩
theorem SeenC.skip {ks:List Int} {P:Int→Prop} {o0:List Int} {seen:Array Nat} {out:List Int} (h:SeenC ks P o0 seen out) {i:Nat} (hi:i<ks.length) (hp:¬P ks[i]):SeenC ks P o0 (seen.push i) out:=by
 refine⟨h.nd,fun z=>?_⟩
 rw[h.mem]
 refine or_congr Iff.rfl ⟨fun ⟨j,hj,h1,h2⟩=>⟨j,hj,push_has.2 (.inl h1),h2⟩,fun⟨j,hj,h1,h2,h3⟩=>?_⟩
 rcases push_has.1 h1 with h1|rfl
 ·exact⟨j,hj,h1,h2,h3⟩
 ·exact absurd (h2▸h3) hp
theorem SeenC.put {ks:List Int} {P:Int→Prop} {o0:List Int} {seen:Array Nat} {out:List Int} (h:SeenC ks P o0 seen out) (hk:ks.Nodup) {i:Nat} (hi:i<ks.length) (hs:seen.contains i=false) (hp:P ks[i]) (h0:ks[i]∉o0):SeenC ks P o0 (seen.push i) (out++[ks[i]]):=by
 have hnew:ks[i]∉out:=fun hm=>by
  rcases(h.mem _).1 hm with h1|⟨j,hj,h1,h2,-⟩
  ·exact h0 h1
  ·obtain rfl:j=i:=(List.getElem_inj hk).1 h2
   rw[hs]at h1
   cases h1
 refine⟨?_,fun z=>?_⟩
 ·rw[List.nodup_append]
  refine⟨h.nd,by simp,fun a ha b hb=>?_⟩
  simp at hb
  rintro rfl
  exact hnew (hb▸ha)
 ·rw[List.mem_append,h.mem,or_assoc]
  refine or_congr Iff.rfl ⟨?_,fun⟨j,hj,h1,h2,h3⟩=>?_⟩
  ·rintro(⟨j,hj,h1,h2⟩|hz)
   ·exact⟨j,hj,push_has.2 (.inl h1),h2⟩
   ·simp at hz
    exact⟨i,hi,push_has.2 (.inr rfl),hz.symm,hz▸hp⟩
  ·rcases push_has.1 h1 with h1|rfl
   ·exact .inl ⟨j,hj,h1,h2,h3⟩
   ·exact .inr (by simp[h2])
theorem SeenC.done {ks:List Int} {P:Int→Prop} {o0:List Int} {seen:Array Nat} {out:List Int} (h:SeenC ks P o0 seen out) (ha:∀i,i<ks.length→seen.contains i=true) (z:Int):z∈out↔z∈o0∨(z∈ks∧P z):=by
 rw[h.mem]
 refine or_congr Iff.rfl ⟨fun ⟨i,hi,_,h2,h3⟩=>⟨h2▸List.getElem_mem hi,h3⟩,fun⟨h1,h2⟩=>?_⟩
 obtain⟨i,hi,rfl⟩:=List.getElem_of_mem h1
 exact⟨i,hi,ha i hi,rfl,h2⟩
theorem SeenC.len {ks:List Int} {P:Int→Prop} {o0:List Int} {seen:Array Nat} {out:List Int} (h:SeenC ks P o0 seen out):out.length≤o0.length+ks.length:=by
 have:=h.nd.length_le_of_subset (l₂:=o0++ks) (fun z hz=>by
  rcases(h.mem z).1 hz with h1|⟨i,hi,-,h2,-⟩
  ·exact List.mem_append_left _ h1
  ·exact List.mem_append_right _ (h2▸List.getElem_mem hi))
 simpa using this
def LpC (X:World) (r b N:Nat) (seen:Array Nat) (out:List Int) (o:Value) (W:World):Prop:=IterB W r b N seen∧Below X.heap.size X W∧(∃A c,o= .slice A out.length c)∧W.ownsRow X.heap.size 3 1 o out.length (intsV out)∧o.ownBlock≠some r
theorem IterB.lt {W:World} {r b n:Nat} {seen:Array Nat} (h:IterB W r b n seen):r<W.heap.size:=(Array.getElem?_eq_some_iff.1 h).1
theorem LpC.on {X:World} {r b N:Nat} {seen:Array Nat} {out:List Int} {o:Value} {W W':World} (h:LpC X r b N seen out o W) (hb:Below W.heap.size W W'):LpC X r b N seen out o W':=
 ⟨h.1.kept (hb.block _ h.1.lt),below_on h.2.1 (Nat.le_refl _) hb,h.2.2.1,own_below h.2.2.2.1 hb,h.2.2.2.2⟩
theorem LpC.next {X:World} {r b N:Nat} {seen seen':Array Nat} {out:List Int} {o:Value} {W W':World} (h:LpC X r b N seen out o W) (hr:X.heap.size≤r) (hi:IterB W' r b N seen') (hg:W.grownBy W' (some r)):LpC X r b N seen' out o W':=by
 have hne:=h.2.2.2.2
 have hs:=h.2.1.size
 refine⟨hi,h.2.1.grown hg h.2.1.size (fun j e=>by have:=Option.some.inj e;omega),h.2.2.1,?_,hne⟩
 exact h.2.2.2.1.kept hg (.inr hne)
theorem LpC.push {X:World} {r b N:Nat} {seen:Array Nat} {out:List Int} {o v6:Value} {W w6:World} {obj:Obj} {z:Int} (h:LpC X r b N seen out o W) (hown:w6.ownsRow X.heap.size 3 1 v6 (out.length+1) (intsV out++intsV [z])) (hg:(W.alloc obj).grownBy w6 o.ownBlock) (hat:v6.ownBlock=o.ownBlock∨v6.ownBlock=some (W.alloc obj).heap.size):LpC X r b N seen (out++[z]) v6 w6:=by
 have hs:=h.2.1.size
 have hba:Below W.heap.size W (W.alloc obj):=(Below.refl _ _).alloc (Nat.le_refl _) _
 have h2:=h.on hba
 have hr:=h.1.lt
 refine⟨h2.1.kept (hg.block _ h2.1.lt (fun e=>h2.2.2.2.2 e.symm)),h2.2.1.grown hg h2.2.1.size (fun g hg'=>(h2.2.2.2.1.lt g hg').1),?_,?_,?_⟩
 ·obtain⟨A,c,e⟩:=own_form hown
  exact⟨A,c,by rw[e];simp⟩
 ·rw[intsV_append]
  have:(out++[z]).length=out.length+1:=by simp
  rw[this]
  exact hown
 ·rcases hat with e|e
  ·rw[e];exact h.2.2.2.2
  ·rw[e]
   simp
   omega
theorem LpC.left {X:World} {r b:Nat} {L:List (Int×Value)} {seen:Array Nat} {out:List Int} {o:Value} {W:World} (h:LpC X r b L.length seen out o W) (hm:MapB X b encI L):leftW W r b=(leftOf (entriesOf encI L) seen).size:=leftW_eq h.1 (hm.kept (h.2.1.block _ hm.lt))
theorem LpC.start {X W:World} {b N:Nat} {out:List Int} {o:Value} (hb:Below X.heap.size X W) (hf:∃A c,o= .slice A out.length c) (ho:W.ownsRow X.heap.size 3 1 o out.length (intsV out)):LpC X W.heap.size b N #[] out o (W.alloc (.mapIter (some b) N #[] N)):=by
 refine⟨heap_alloc_new W _,hb.alloc hb.size _,hf,own_below ho ((Below.refl _ _).alloc (Nat.le_refl _) _),fun e=>?_⟩
 have:=(ho.lt _ e).2
 omega
/-- The parcels of the one that are other ones, or none, in the other. -/
def chA (p q:Plan) (z:Int):Prop:=atP q.parcels z<0∨pcEq (pcAt p.parcels (atP p.parcels z).toNat) (pcAt q.parcels (atP q.parcels z).toNat)=false
def chN (p:Plan) (z:Int):Prop:=atP p.parcels z<0
def hasP (p:Plan) (z:Int):Prop:=0≤atP p.parcels z
theorem FirM.mem {ps:List Parc} {B:Nat} {W:World} {L:List (Int×Value)} (h:FirM ps B ps.length W L) (z:Int):z∈L.map (·.1)↔0≤atP ps z:=by
 have h1:z∉L.map (·.1)↔∀j,j<ps.length→(pcAt ps j).id≠z:=by rw[←look_none,h.none_]
 rcases atP_cases ps z with ⟨e,h2⟩|⟨k,hk,e,h2⟩
 ·rw[e]
  exact⟨fun hz=>absurd hz (h1.2 h2),fun hz=>by omega⟩
 ·rw[e]
  refine⟨fun _=>by omega,fun _=>?_⟩
  apply Classical.byContradiction
  intro hn
  exact h1.1 hn k hk h2
theorem FirM.more {ps:List Parc} {B B' k:Nat} {W:World} {L:List (Int×Value)} (h:FirM ps B k W L) (hb:B≤B'):FirM ps B' k W L:=
 ⟨h.keys,h.none_,fun z j hj ha=>by obtain⟨Ax,nx,cx,h1,h2,h3⟩:=h.some_ z j hj ha;exact⟨Ax,nx,cx,h1,h2.more hb,h3⟩⟩
theorem FirM.len {ps:List Parc} {B:Nat} {W:World} {L:List (Int×Value)} (h:FirM ps B ps.length W L):L.length≤ps.length:=by
 have:=h.keys.length_le_of_subset (l₂:=ps.map (·.id)) (fun z hz=>by
  rcases atP_cases ps z with ⟨e,-⟩|⟨k,hk,e,h2⟩
  ·have:=(h.mem z).1 hz;omega
  ·exact List.mem_map.2 ⟨pcAt ps k,by rw[pcAt_lt hk];exact List.getElem_mem hk,h2⟩)
 simpa using this
end Go.Proofs.YtpkeacnacjnlcaaGreat
