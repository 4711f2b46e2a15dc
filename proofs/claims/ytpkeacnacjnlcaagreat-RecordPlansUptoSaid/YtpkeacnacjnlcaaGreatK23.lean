/- A plan whose rows grow as it is read from items: frames; What merestonelaw14.items' walk stands on: a key that is built among rows; a row of items, one more; record.Items: the walk. -/
import Derived.Test.YtpkeacnacjnlcaaGreatK11
import Derived.Test.YtpkeacnacjnlcaaGreatK12
import Derived.Test.YtpkeacnacjnlcaaGreatK14
import Derived.Test.YtpkeacnacjnlcaaGreatK18
import Derived.Test.YtpkeacnacjnlcaaGreatK19
import Derived.Test.YtpkeacnacjnlcaaGreatK20
import Derived.Test.YtpkeacnacjnlcaaGreatK21
import Derived.Test.YtpkeacnacjnlcaaGreatK22
namespace Go.Proofs.YtpkeacnacjnlcaaGreat
open Go.RowKit Go.Lib
theorem own_keep {W W':World} {base:Nat} {t:TypeId} {s k n c ck:Nat} {A D:Option Addr} {xs:List Value} (h:W.ownsRow base t s (.slice D k ck) k xs) (hg:W.grownBy W' (Value.slice A n c).ownBlock) (hne:∀a b:Addr,A=some a→D=some b→a.block≠b.block):W'.ownsRow base t s (.slice D k ck) k xs:=by
 refine own_heap h fun g e=>hg.block g (h.lt g e).2 fun e2=>?_
 rcases D with _|b
 ·simp[Value.ownBlock]at e
 ·rcases A with _|a
  ·simp[Value.ownBlock]at e2
  ·simp only[Value.ownBlock,Option.some.injEq]at e e2
   exact hne a b rfl rfl (by omega)
theorem own_keepT {W W':World} {b1 b2 n1 n2 s1 s2:Nat} {e1 e2:TypeId} {v1 v2:Value} {x1 x2:List Value} (h1:W.ownsRow b1 e1 s1 v1 n1 x1) (h2:W.ownsRow b2 e2 s2 v2 n2 x2) (hne:e1≠e2) (hg:W.grownBy W' v1.ownBlock):W'.ownsRow b2 e2 s2 v2 n2 x2:=
 own_heap h2 fun g e=>hg.block g (h2.lt g e).2 fun e2=>own_own_ne h1 h2 hne e2.symm e
theorem PlanOwn.outG {B n c n' c' m c3:Nat} {W W':World} {A A' A3:Option Addr} {p:Plan} {hs:List Hd} {ys:List Pt} (h:PlanOwn B W A n c A' n' c' p hs) (hd:DistH A hs) (hg:W.grownBy W' (Value.slice A n c).ownBlock) (hnew:W'.ownsRow B 23 2 (.slice A3 m c3) m (ptsV ys))
 (hat:(Value.slice A3 m c3).ownBlock=(Value.slice A n c).ownBlock∨∃g,(Value.slice A3 m c3).ownBlock=some g∧W.heap.size≤g) (hf:(⟨ys,p.parcels⟩:Plan).fits):PlanOwn B W' A3 m c3 A' n' c' ⟨ys,p.parcels⟩ hs∧DistH A3 hs:=by
 refine⟨⟨hnew,own_keepT h.out h.row (by decide) hg,h.len,h.lenp,fun j hj=>own_keep (h.rings j hj) hg fun a b ha hb=>hd.1 j (by rw[h.len];exact hj) a b ha hb,hf⟩,fun j hj a b ha hb=>?_,hd.2⟩
 have hb2:=((h.rings j (by rw[←h.len];exact hj)).lt b.block (by rw[hb];rfl)).2
 subst ha
 rcases hat with e|⟨g,e,hl⟩
 ·rcases A with _|a'
  ·simp[Value.ownBlock]at e
  ·simp only[Value.ownBlock,Option.some.injEq]at e
   rw[e]
   exact hd.1 j hj a' b rfl hb
 ·simp only[Value.ownBlock,Option.some.injEq]at e
  omega
theorem PlanOwn.ringG {B n c n' c' k m c3:Nat} {W W':World} {A A3:Option Addr} {ad:Addr} {p:Plan} {hs:List Hd} {ys:List Pt} (h:PlanOwn B W A n c (some ad) n' c' p hs) (hd:DistH A hs) (hk:k<n') (hg:W.grownBy W' (Value.slice (hdAt hs k).1 (hdAt hs k).2.1 (hdAt hs k).2.2).ownBlock)
 (hnew:W'.ownsRow B 23 2 (.slice A3 m c3) m (ptsV ys)) (hat:(Value.slice A3 m c3).ownBlock=(Value.slice (hdAt hs k).1 (hdAt hs k).2.1 (hdAt hs k).2.2).ownBlock∨∃g,(Value.slice A3 m c3).ownBlock=some g∧W.heap.size≤g) (hf:(setR p k ys).fits):
 PlanOwn B (W'.setCell ⟨(ad.add (k*3)).block,(ad.add (k*3)).off+1,none⟩ (.slice A3 m c3)) A n c (some ad) n' c' (setR p k ys) (hs.set k (A3,m,c3))∧DistH A (hs.set k (A3,m,c3)):=by
 have hkh:k<hs.length:=by rw[h.len];exact hk
 have hout:W'.ownsRow B 23 2 (.slice A n c) n (ptsV p.outer):=own_keep h.out hg fun a b ha hb=>(hd.1 k hkh b a hb ha).symm
 have hrw:W'.ownsRow B 27 3 (.slice (some ad) n' c') n' (rowPV p.parcels hs):=own_keepT (h.rings k hk) h.row (by decide) hg
 have hrn:∀j,j<n'→j≠k→W'.ownsRow B 23 2 (.slice (hdAt hs j).1 (hdAt hs j).2.1 (hdAt hs j).2.2) (hdAt hs j).2.1 (ptsV (pcAt p.parcels j).ring):=fun j hj hjk=>own_keep (h.rings j hj) hg fun a b ha hb=>hd.2 k j hkh (by rw[h.len];exact hj) (fun e=>hjk e.symm) a b ha hb
 obtain⟨g,cap,e,hb,hlt⟩:=hrw.form (by omega)
 have e1:ad=⟨g,0,none⟩:=by cases e;rfl
 have e2:cap=c':=by cases e;rfl
 subst e1 e2
 have hrow:=(hrw.stored (k*3+1) (.slice A3 m c3)).1
 have hadr:(⟨((⟨g,0,none⟩:Addr).add (k*3)).block,((⟨g,0,none⟩:Addr).add (k*3)).off+1,none⟩:Addr)=⟨g,k*3+1,none⟩:=by rw[add_off3 _ _ _ (by omega)];simp[Addr.add]
 rw[hadr]
 have hkeep:∀ {v:Value} {j:Nat} {xs:List Value},W'.ownsRow B 23 2 v j xs→(W'.setCell ⟨g,k*3+1,none⟩ (.slice A3 m c3)).ownsRow B 23 2 v j xs:=fun {v j xs} ho=>
  ownsRow_setCell_other ho (fun e'=>own_own_ne hrw ho (by decide) (g:=g) rfl e') _
 have hkl:k<p.parcels.length:=by rw[h.lenp];exact hk
 refine⟨⟨hkeep hout,?_,by rw[List.length_set];exact h.len,by show(List.set _ _ _).length=_;rw[List.length_set];exact h.lenp,fun j hj=>?_,hf⟩,?_⟩
 ·show World.ownsRow _ _ _ _ _ _ (rowPV (p.parcels.set k _) _)
  rw[rowPV_set (by rw[h.len,h.lenp]) hkl]
  exact hrow
 ·show World.ownsRow _ _ _ _ _ _ (ptsV (pcAt (p.parcels.set k _) j).ring)
  rw[hdAt_set hkh,pcAt_set hkl]
  by_cases e':j=k
  ·rw[if_pos e',if_pos e']
   exact hkeep hnew
  ·rw[if_neg e',if_neg e']
   exact hkeep (hrn j hj e')
 ·have hcase:∀b:Addr,A3=some b→(∃a,(hdAt hs k).1=some a∧a.block=b.block)∨W.heap.size≤b.block:=fun b hb=>by
   subst hb
   rcases hat with e|⟨g',e,hl⟩
   ·rcases ea:(hdAt hs k).1 with _|a
    ·rw[ea]at e;simp[Value.ownBlock]at e
    ·rw[ea]at e
     simp only[Value.ownBlock,Option.some.injEq]at e
     exact .inl ⟨a,rfl,e.symm⟩
   ·simp only[Value.ownBlock,Option.some.injEq]at e
    exact .inr (by omega)
  have hlt:∀j,j<hs.length→∀b:Addr,(hdAt hs j).1=some b→b.block<W.heap.size:=fun j hj b hb=>((h.rings j (by rw[←h.len];exact hj)).lt b.block (by rw[hb];rfl)).2
  have hltA:∀a:Addr,A=some a→a.block<W.heap.size:=fun a ha=>(h.out.lt a.block (by rw[ha];rfl)).2
  refine⟨fun j hj a b ha hb=>?_,fun i j hi hj hij a b ha hb=>?_⟩
  ·rw[List.length_set]at hj
   rw[hdAt_set hkh]at hb
   by_cases e':j=k
   ·rw[if_pos e']at hb
    rcases hcase b hb with ⟨a',e1,e2⟩|h1
    ·rw[←e2];exact hd.1 k hkh a a' ha e1
    ·have:=hltA a ha
     omega
   ·rw[if_neg e']at hb
    exact hd.1 j hj a b ha hb
  ·rw[List.length_set]at hi hj
   rw[hdAt_set hkh]at ha hb
   by_cases e1:i=k
   ·rw[if_pos e1]at ha
    rw[if_neg (fun e=>hij (by rw[e1,e]))]at hb
    rcases hcase a ha with ⟨a',e3,e4⟩|h1
    ·rw[←e4];exact hd.2 k j hkh hj (by rw[←e1];exact hij) a' b e3 hb
    ·have:=hlt j hj b hb
     omega
   ·rw[if_neg e1]at ha
    by_cases e2:j=k
    ·rw[if_pos e2]at hb
     rcases hcase b hb with ⟨b',e3,e4⟩|h1
     ·rw[←e4];exact hd.2 i k hi hkh e1 a b' ha e3
     ·have:=hlt i hi a ha
      omega
    ·rw[if_neg e2]at hb
     exact hd.2 i j hi hj hij a b ha hb
def setO (p:Plan) (k:Nat) (o:ByteArray):Plan:=⟨p.outer,p.parcels.set k ⟨(pcAt p.parcels k).id,(pcAt p.parcels k).ring,o⟩⟩
theorem rowPV_setO {ps:List Parc} {hs:List Hd} (hl:hs.length=ps.length) {k:Nat} (hk:k<ps.length) (o:ByteArray):
 rowPV (ps.set k ⟨(pcAt ps k).id,(pcAt ps k).ring,o⟩) hs=(rowPV ps hs).set (k*3+2) (.string o):=by
 induction ps generalizing hs k with
 |nil=>simp at hk
 |cons y ps ih=>
  rcases hs with _|⟨g,hs⟩
  ·simp at hl
  ·rcases k with _|k
   ·rfl
   ·have h1:=ih (hs:=hs) (by simpa using hl) (k:=k) (by simpa using hk)
    have h2:pcAt (y::ps) (k+1)=pcAt ps k:=by unfold pcAt;simp
    rw[h2]
    show pcV y g++rowPV (ps.set k _) hs=_
    rw[h1,show(k+1)*3+2=k*3+2+1+1+1 by omega]
    rfl
theorem PlanOwn.setOwner {B n c n' c' k:Nat} {W:World} {A:Option Addr} {ad:Addr} {p:Plan} {hs:List Hd} (h:PlanOwn B W A n c (some ad) n' c' p hs) (hk:k<n') (o:ByteArray) (hf:(setO p k o).fits):
 PlanOwn B (W.setCell ⟨(ad.add (k*3)).block,(ad.add (k*3)).off+2,none⟩ (.string o)) A n c (some ad) n' c' (setO p k o) hs:=by
 obtain⟨g,cap,e,hb,hlt⟩:=h.row.form (by omega)
 have e1:ad=⟨g,0,none⟩:=by cases e;rfl
 have e2:cap=c':=by cases e;rfl
 subst e1 e2
 have hrow:=(h.row.stored (k*3+2) (.string o)).1
 have hadr:(⟨((⟨g,0,none⟩:Addr).add (k*3)).block,((⟨g,0,none⟩:Addr).add (k*3)).off+2,none⟩:Addr)=⟨g,k*3+2,none⟩:=by rw[add_off3 _ _ _ (by omega)];simp[Addr.add]
 rw[hadr]
 have hkeep:∀ {v:Value} {j:Nat} {xs:List Value},W.ownsRow B 23 2 v j xs→(W.setCell ⟨g,k*3+2,none⟩ (.string o)).ownsRow B 23 2 v j xs:=fun {v j xs} ho=>
  ownsRow_setCell_other ho (fun e'=>own_own_ne h.row ho (by decide) (g:=g) rfl e') _
 have hkl:k<p.parcels.length:=by rw[h.lenp];exact hk
 refine⟨hkeep h.out,?_,h.len,by show(List.set _ _ _).length=_;rw[List.length_set];exact h.lenp,fun j hj=>?_,hf⟩
 ·show World.ownsRow _ _ _ _ _ _ (rowPV (p.parcels.set k _) _)
  rw[rowPV_setO (by rw[h.len,h.lenp]) hkl]
  exact hrow
 ·show World.ownsRow _ _ _ _ _ _ (ptsV (pcAt (p.parcels.set k _) j).ring)
  rw[pcAt_set hkl]
  by_cases e':j=k
  ·rw[if_pos e',e']
   exact hkeep (h.rings k hk)
  ·rw[if_neg e']
   exact hkeep (h.rings j hj)
/-- How large a plan is that is read. -/
def SzP (p:Plan) (j S:Nat):Prop:=p.outer.length≤S∧p.parcels.length≤j∧(∀q∈p.outer,q.inI)∧∀x∈p.parcels,x.ring.length≤S∧(∀q∈x.ring,q.inI)∧inI x.id∧x.owner.size≤S
theorem SzP.fits {p:Plan} {j S:Nat} (h:SzP p j S) (hj:j≤1048576) (hS:S≤1048576):p.fits:=
 ⟨⟨Nat.le_trans h.1 (Nat.le_trans hS (by decide)),h.2.2.1⟩,Nat.le_trans h.2.1 (Nat.le_trans hj (by decide)),fun x hx=>by
   obtain⟨h1,h2,h3,h4⟩:=h.2.2.2 x hx
   exact⟨Nat.le_trans h1 (Nat.le_trans hS (by decide)),h2,h3,Nat.le_trans h4 (Nat.le_trans hS (by decide))⟩⟩
theorem szP_nil:SzP ⟨[],[]⟩ 0 0:=⟨Nat.le_refl _,Nat.le_refl _,fun _ h=>absurd h (by simp),fun _ h=>absurd h (by simp)⟩
theorem SzP.mono {p:Plan} {j j' S S':Nat} (h:SzP p j S) (hj:j≤j') (hS:S≤S'):SzP p j' S':=
 ⟨Nat.le_trans h.1 hS,Nat.le_trans h.2.1 hj,h.2.2.1,fun x hx=>⟨Nat.le_trans (h.2.2.2 x hx).1 hS,(h.2.2.2 x hx).2.1,(h.2.2.2 x hx).2.2.1,Nat.le_trans (h.2.2.2 x hx).2.2.2 hS⟩⟩
theorem ptsB_len (v:List UInt8):(ptsB v).length=v.length/8:=by unfold ptsB;rw[List.length_map,List.length_range]
theorem numL4_lt (l:List UInt8):numL (l.take 4)<4294967296:=by
 have h:=numL_lt (l.take 4)
 have h2:(l.take 4).length≤4:=by rw[List.length_take];omega
 exact Nat.lt_of_lt_of_le h (Nat.le_trans (Nat.pow_le_pow_right (by decide) h2) (by decide))
theorem ptsB_inI (v:List UInt8):∀q∈ptsB v,q.inI:=fun q hq=>by
 unfold ptsB at hq
 obtain⟨j,-,rfl⟩:=List.mem_map.1 hq
 have h1:=numL4_lt (v.drop (8*j))
 have h2:=numL4_lt (v.drop (8*j+4))
 unfold ptOfB
 exact⟨⟨by simp only;omega,by simp only;omega⟩,⟨by simp only;omega,by simp only;omega⟩⟩
theorem pcMore_sz {y:Parc} {S:Nat} (c:UInt8) (v:List UInt8) (h:y.ring.length≤S∧(∀q∈y.ring,q.inI)∧inI y.id∧y.owner.size≤S):
 (pcMore y c v).ring.length≤S+v.length∧(∀q∈(pcMore y c v).ring,q.inI)∧inI (pcMore y c v).id∧(pcMore y c v).owner.size≤S+v.length:=by
 obtain⟨h1,h2,h3,h4⟩:=h
 unfold pcMore
 split
 ·refine⟨by simp only;omega,h2,h3,?_⟩
  show v.toArray.size≤_
  simp
 ·refine⟨?_,fun q hq=>?_,h3,by simp only;omega⟩
  ·simp only[List.length_append,ptsB_len]
   omega
  ·simp only at hq
   rcases List.mem_append.1 hq with hq|hq
   ·exact h2 q hq
   ·exact ptsB_inI v q hq
theorem SzP.step {p:Plan} {j S:Nat} (h:SzP p j S) (x:It):SzP (opStep p x) (j+1) (S+x.v.length):=by
 obtain⟨h1,h2,h3,h4⟩:=h
 unfold opStep
 split
 ·refine⟨?_,by simp only;omega,fun q hq=>?_,fun y hy=>?_⟩
  ·simp only[List.length_append,ptsB_len]
   omega
  ·simp only at hq
   rcases List.mem_append.1 hq with hq|hq
   ·exact h3 q hq
   ·exact ptsB_inI _ q hq
  ·obtain⟨g1,g2,g3,g4⟩:=h4 y hy
   exact⟨by omega,g2,g3,by omega⟩
 ·split
  ·have hn:(pcNew p.parcels (numL ((x.k.drop 1).take 4):Nat)).length≤p.parcels.length+1:=by unfold pcNew;split<;>simp
   have hmem:∀y∈pcNew p.parcels (numL ((x.k.drop 1).take 4):Nat),y.ring.length≤S∧(∀q∈y.ring,q.inI)∧inI y.id∧y.owner.size≤S:=fun y hy=>by
    unfold pcNew at hy
    split at hy
    ·rcases List.mem_append.1 hy with hy|hy
     ·exact h4 y hy
     ·obtain rfl:=List.mem_singleton.1 hy
      have:=numL4_lt (x.k.drop 1)
      exact⟨Nat.zero_le _,fun _ h=>absurd h (by simp),⟨by simp only;omega,by simp only;omega⟩,Nat.zero_le _⟩
    ·exact h4 y hy
   refine⟨by simp only;omega,?_,h3,fun y hy=>?_⟩
   ·simp only
    unfold pcStep
    rw[List.length_set]
    omega
   ·simp only at hy
    unfold pcStep at hy
    rcases List.mem_or_eq_of_mem_set hy with hy|rfl
    ·obtain⟨g1,g2,g3,g4⟩:=hmem y hy
     exact⟨by omega,g2,g3,by omega⟩
    ·refine pcMore_sz _ _ (hmem _ ?_)
     have hpos:0<(pcNew p.parcels (numL ((x.k.drop 1).take 4):Nat)).length:=by
      unfold pcNew
      split
      ·simp
      ·rename_i hc
       rw[not_or]at hc
       exact List.length_pos_iff.2 hc.1
     exact pcAt_mem (by omega)
  ·exact SzP.mono ⟨h1,h2,h3,h4⟩ (by omega) (by omega)
/-- A row of bytes that is appended to, and rows beside it that are only read. -/
structure KP (V W:World) (A:Option Addr) (n c:Nat) (xs:List UInt8) (R:List (Hd×List UInt8)):Prop where
 bel:Below V.heap.size V W
 own:W.ownsRow V.heap.size 5 1 (.slice A n c) n (u8s xs)
 all:∀r∈R,NewB V.heap.size W r.1 r.2∧∀g,(Value.slice A n c).ownBlock=some g→∀b,r.1.1=some b→g≠b.block
theorem KP.start (V:World):KP V V none 0 0 [] []:=⟨Below.refl _ _,World.ownsRow_nil _ _ _ _,fun r h=>absurd h (by simp)⟩
theorem KP.on {V W W':World} {A:Option Addr} {n c:Nat} {xs:List UInt8} {R:List (Hd×List UInt8)} (h:KP V W A n c xs R) (hb:Below W.heap.size W W'):KP V W' A n c xs R:=
 ⟨below_on h.bel (Nat.le_refl _) hb,own_below h.own hb,fun r hr=>⟨(h.all r hr).1.below hb,(h.all r hr).2⟩⟩
/-- A literal: the row that will be appended to. -/
theorem KP.lit {V W:World} {c0:Nat} {R:List (Hd×List UInt8)} (h:KP V W none 0 c0 [] R) (C:Array Value) (m:Nat) (ys:List UInt8) (hm:m≤1000) (hC:C.size=m) (he:C.toList=u8s ys):KP V (W.alloc (.cells C 5)) (some ⟨W.heap.size,0,none⟩) m m ys R:=by
 have hw:Below W.heap.size W (W.alloc (.cells C 5)):=(Below.refl _ _).alloc (Nat.le_refl _) _
 have hl:(u8s ys).length=m*1:=by rw[←he,Nat.mul_one];simpa using hC
 refine⟨below_on h.bel (Nat.le_refl _) hw,⟨hl,.inr ⟨W.heap.size,m,C,rfl,h.bel.size,World.alloc_heap_new W _,Nat.le_refl _,by simp only[maxLen];omega,by rw[hC];omega,?_⟩⟩,fun r hr=>⟨(h.all r hr).1.below hw,fun g e b hb=>?_⟩⟩
 ·rw[←he]
  simp
  exact List.take_of_length_le (by simp;omega)
 ·simp[Value.ownBlock]at e
  obtain⟨hb1,cs,fr,hb2⟩:=(h.all r hr).1.2.2 b hb
  have:=(Array.getElem?_eq_some_iff.1 hb2).1
  omega
/-- A row beside it. -/
theorem KP.add {V W W':World} {A:Option Addr} {n c:Nat} {xs:List UInt8} {R:List (Hd×List UInt8)} (h:KP V W A n c xs R) (hb:Below W.heap.size W W') {k:Hd} {ys:List UInt8} (hk:NewB W.heap.size W' k ys):KP V W' A n c xs ((k,ys)::R):=
 ⟨below_on h.bel (Nat.le_refl _) hb,own_below h.own hb,fun r hr=>by
   rcases List.mem_cons.1 hr with rfl|hr
   ·refine⟨hk.mono h.bel.size,fun g e b hb'=>?_⟩
    have h1:=(h.own.lt g e).2
    have h2:=(hk.2.2 b hb').1
    omega
   ·exact⟨(h.all r hr).1.below hb,(h.all r hr).2⟩⟩
/-- A literal beside it. -/
theorem newB_lit (W:World) (C:Array Value) (m:Nat) (ys:List UInt8) (hm:m≤1000) (hC:C.size=m) (he:C.toList=u8s ys):
 NewB W.heap.size (W.alloc (.cells C 5)) (some ⟨W.heap.size,0,none⟩,m,m) ys:=
 NewB.of_own ⟨by rw[←he,Nat.mul_one];simpa using hC,.inr ⟨W.heap.size,m,C,rfl,Nat.le_refl _,World.alloc_heap_new W _,Nat.le_refl _,by simp only[maxLen];omega,by rw[hC];omega,by rw[←he];simp;exact List.take_of_length_le (by simp;omega)⟩⟩
/-- What '[]byte(s)' lays, as the walk shows it. -/
theorem newB_str2 (W:World) (s:ByteArray) (hs:s.size≤32):NewB W.heap.size (World.drew (World.alloc W (.cells (bytesRow s (grownCap W s.size 0 5)) 5 ((bytesRow s (grownCap W s.size 0 5)).size,(bytesRow s (grownCap W s.size 0 5)).size+1)))) (some ⟨W.heap.size,0,none⟩,s.size,grownCap W s.size 0 5) s.data.toList∧
 Below W.heap.size W (World.drew (World.alloc W (.cells (bytesRow s (grownCap W s.size 0 5)) 5 ((bytesRow s (grownCap W s.size 0 5)).size,(bytesRow s (grownCap W s.size 0 5)).size+1)))):=newB_str W s (by omega)
theorem reads_over {w U V:World} {B size n:Nat} {A:Option Addr} {xs:List Value} (h:Reads U B size A n xs) (h1:Below B w U) (h2:Below B w V) (hs:B≤V.heap.size):Reads V V.heap.size size A n xs:=
 Reads.more ⟨h.1,fun h0=>by
  obtain⟨ad,e,hb,hc⟩:=h.2 h0
  exact⟨ad,e,hb,fun k u hu=>by rw[←hc k u hu];exact World.cell?_of_block (by rw[block_of_add];exact(h2.block _ hb).trans (h1.block _ hb).symm)⟩⟩ hs
theorem cells4 {V V':World} {bd a0 a1 a2 a3:Addr} {v0 v1 v2 v3:Value} (hl:bd.block<V.heap.size) (h0:a0.block=bd.block) (h1:a1.block=bd.block) (h2:a2.block=bd.block) (h3:a3.block=bd.block)
 (h:V.cell? a0=some v0∧V.cell? a1=some v1∧V.cell? a2=some v2∧V.cell? a3=some v3) (hb:Below V.heap.size V V'):V'.cell? a0=some v0∧V'.cell? a1=some v1∧V'.cell? a2=some v2∧V'.cell? a3=some v3:=
 ⟨(hb.cell (p:=a0) (by omega)).trans h.1,(hb.cell (p:=a1) (by omega)).trans h.2.1,(hb.cell (p:=a2) (by omega)).trans h.2.2.1,(hb.cell (p:=a3) (by omega)).trans h.2.2.2⟩
theorem cells2 {V V':World} {bd a0 a1:Addr} {v0 v1:Value} (hl:bd.block<V.heap.size) (h0:a0.block=bd.block) (h1:a1.block=bd.block)
 (h:V.cell? a0=some v0∧V.cell? a1=some v1) (hb:Below V.heap.size V V'):V'.cell? a0=some v0∧V'.cell? a1=some v1:=
 ⟨(hb.cell (p:=a0) (by omega)).trans h.1,(hb.cell (p:=a1) (by omega)).trans h.2⟩
theorem ptL2 (q:Pt) (hq:good q=true) (w:World):Calls Tryz.prog 55 #[.agg #[.int .i64 q.x,.int .i64 q.y]] w (Own8 (ptB q) w):=by
 have h:=ptL_any q hq w
 unfold ptV at h
 exact h
/-- The append. -/
theorem KP.app {V W W':World} {A A':Option Addr} {n c n' c':Nat} {xs ys:List UInt8} {R:List (Hd×List UInt8)} (h:KP V W A n c xs R) (hown:W'.ownsRow V.heap.size 5 1 (.slice A' n' c') n' (u8s xs++u8s ys)) (hg:W.grownBy W' (Value.slice A n c).ownBlock)
 (hat:(Value.slice A' n' c').ownBlock=(Value.slice A n c).ownBlock∨(Value.slice A' n' c').ownBlock=some W.heap.size):KP V W' A' n' c' (xs++ys) R:=by
 refine⟨h.bel.grown hg h.bel.size (fun j e=>(h.own.lt j e).1),by rw[u8s_append];exact hown,fun r hr=>⟨(h.all r hr).1.kept hg fun a e1 e2=>(h.all r hr).2 a.block e2.symm a e1 rfl,fun g e b hb=>?_⟩⟩
 rcases hat with e'|e'
 ·exact(h.all r hr).2 g (e'.symm.trans e) b hb
 ·obtain⟨hb1,cs,fr,hb2⟩:=(h.all r hr).1.2.2 b hb
  have:=(Array.getElem?_eq_some_iff.1 hb2).1
  rw[e']at e
  cases e
  omega
theorem KP.rd {V W:World} {A:Option Addr} {n c:Nat} {xs:List UInt8} {R:List (Hd×List UInt8)} (h:KP V W A n c xs R) {k:Hd} {ys:List UInt8} (hm:(k,ys)∈R):Reads W W.heap.size 1 k.1 k.2.1 (u8s ys):=((h.all _ hm).1).1
theorem KP.key {V W:World} {A:Option Addr} {n c:Nat} {xs:List UInt8} {R:List (Hd×List UInt8)} (h:KP V W A n c xs R):NewB V.heap.size W (A,n,c) xs:=NewB.of_own h.own
/-- What stays when a row of items grows. -/
theorem put_keeps {base:Nat} {Y W:World} {A:Option Addr} {k c:Nat} {d:List ItH} (h:ItsOwn base Y A k c d) (hg:Y.grownBy W (Value.slice A k c).ownBlock):
 (∀(q:Nat) (t:TypeId) (cs:Array Value),52≠t→Blk Y q t cs→Blk W q t cs)∧(∀(b:Nat) (hd:Hd) (xs:List UInt8),NewB b Y hd xs→NewB b W hd xs)∧
 (∀(b:Nat) (t:TypeId) (size n:Nat) (v:Value) (xs:List Value),52≠t→Y.ownsRow b t size v n xs→W.ownsRow b t size v n xs)∧(∀w:World,Below base w Y→base≤Y.heap.size→Below base w W):=by
 refine⟨fun q t cs ht hb=>(hg.block q (Blk.lt hb) (fun e=>own_blk_ne h.1 hb ht e.symm)).trans hb,fun b hd xs hn=>hn.heap hg.size fun g cs fr hb=>hg.block g (Array.getElem?_eq_some_iff.1 hb).1 (own_ne_cells h.1 hb (by decide)),fun b t size n v xs ht ho=>own_heap ho fun g e=>hg.block g (ho.lt g e).2 fun e2=>own_own_ne h.1 ho ht (g:=g) e2.symm e,fun w hb hs=>hb.grown hg hs (fun j e=>(h.1.lt j e).1)⟩
/-- A literal of one item, and its append. -/
theorem put_step {base k c:Nat} {Y:World} {A:Option Addr} {d:List ItH} (h:ItsOwn base Y A k c d) (hb:base≤Y.heap.size) (i:It) (a1:Option Addr) (n1 c1:Nat) (a2:Option Addr) (n2 c2:Nat) (h1:NewB base Y (a1,n1,c1) i.k) (h2:NewB base Y (a2,n2,c2) i.v):
 (Y.alloc (.cells #[.slice a1 n1 c1,.slice a2 n2 c2] 52)).ownsRow base 52 2 (.slice A k c) k (itsV d)∧
 Reads (Y.alloc (.cells #[.slice a1 n1 c1,.slice a2 n2 c2] 52)) (Y.alloc (.cells #[.slice a1 n1 c1,.slice a2 n2 c2] 52)).heap.size 2 (some ⟨Y.heap.size,0,none⟩) 1 (itsV [(i,(a1,n1,c1),(a2,n2,c2))])∧
 base≤(Y.alloc (.cells #[.slice a1 n1 c1,.slice a2 n2 c2] 52)).heap.size∧
 ∀(A6:Option Addr) (n6 c6:Nat) (W:World),W.ownsRow base 52 2 (.slice A6 n6 c6) n6 (itsV d++itsV [(i,(a1,n1,c1),(a2,n2,c2))])→(Y.alloc (.cells #[.slice a1 n1 c1,.slice a2 n2 c2] 52)).grownBy W (Value.slice A k c).ownBlock→
  ItsOwn base W A6 n6 c6 (d++[(i,(a1,n1,c1),(a2,n2,c2))])∧(∀(q:Nat) (t:TypeId) (cs:Array Value),52≠t→Blk Y q t cs→Blk W q t cs)∧(∀(b:Nat) (hd:Hd) (xs:List UInt8),NewB b Y hd xs→NewB b W hd xs)∧
  (∀(b:Nat) (t:TypeId) (size n:Nat) (v:Value) (xs:List Value),52≠t→Y.ownsRow b t size v n xs→W.ownsRow b t size v n xs)∧∀w:World,base≤w.heap.size→Below base w Y→Below base w W:=by
 have hw:Below Y.heap.size Y (Y.alloc (.cells #[.slice a1 n1 c1,.slice a2 n2 c2] 52)):=(Below.refl _ _).alloc (Nat.le_refl _) _
 have hY:=h.below hw
 refine⟨hY.1,Reads.made Y _ _ (0,0) 2 1 _ rfl rfl,Nat.le_trans hb hw.size,fun A6 n6 c6 W ho hg=>?_⟩
 obtain⟨k1,k2,k3,k4⟩:=put_keeps hY hg
 refine⟨hY.append (fun x hx=>by rw[List.mem_singleton.1 hx];exact⟨h1.below hw,h2.below hw⟩) ho hg,fun q t cs ht hq=>k1 q t cs ht (Blk.below hq hw (Blk.lt hq)),fun b hd xs hn=>k2 b hd xs (hn.below hw),fun b t size n v xs ht ho=>k3 b t size n v xs ht (own_below ho hw),fun w hb0 hb'=>k4 w (below_on hb' hb0 hw) (Nat.le_trans hb hw.size)⟩
/-- What stays while a parcel's items are made: the plan's box, the parcel's box, its number's bytes. -/
structure LF (w W:World) (A:Option Addr) (n c:Nat) (A':Option Addr) (n' c':Nat) (gx:Nat) (x:Parc) (Ar:Option Addr) (nr cr:Nat) (Ai:Option Addr) (ci:Nat):Prop where
 bel:Below w.heap.size w W
 pl:PlK W w.heap.size A n c A' n' c'
 xb:PcK W gx x Ar nr cr
 idn:NewB w.heap.size W (Ai,4,ci) (idBy x.id)
theorem LF.on {w W W':World} {A A' Ar Ai:Option Addr} {n c n' c' gx nr cr ci:Nat} {x:Parc} (h:LF w W A n c A' n' c' gx x Ar nr cr Ai ci) (hb:Below W.heap.size W W'):LF w W' A n c A' n' c' gx x Ar nr cr Ai ci:=
 ⟨below_on h.bel (Nat.le_refl _) hb,h.pl.on hb,h.xb.on hb,h.idn.below hb⟩
theorem LF.put {w Y W:World} {A A' Ar Ai:Option Addr} {n c n' c' gx nr cr ci:Nat} {x:Parc} (h:LF w Y A n c A' n' c' gx x Ar nr cr Ai ci) {I:Prop} {J:Prop}
 (hk:I∧(∀(q:Nat) (t:TypeId) (cs:Array Value),52≠t→Blk Y q t cs→Blk W q t cs)∧(∀(b:Nat) (hd:Hd) (xs:List UInt8),NewB b Y hd xs→NewB b W hd xs)∧J∧∀v:World,w.heap.size≤v.heap.size→Below w.heap.size v Y→Below w.heap.size v W):LF w W A n c A' n' c' gx x Ar nr cr Ai ci:=
 ⟨hk.2.2.2.2 w (Nat.le_refl _) h.bel,hk.2.1 _ _ _ (by decide) h.pl,hk.2.1 _ _ _ (by decide) h.xb,hk.2.2.1 _ _ _ h.idn⟩
/-- The cells of a sound ring, as the reference tells them. -/
theorem cellsL_two (xs:List Pt) (h0:checkI xs=0):cellsL xs=refW (aroW xs xs.length) 9∧(∀V,Calls Tryz.prog 56 #[winV (aroW xs xs.length)] V fun e V'=>∃A c,e= .returned (.slice A (cellsL xs).length c)∧V'.ownsRow V.heap.size 102 2 (.slice A (cellsL xs).length c) (cellsL xs).length (ptsV (cellsL xs))∧Below V.heap.size V V'):=by
 obtain⟨h1,h2,h3,-⟩:=checkI_zero h0
 obtain⟨hw1,hw2⟩:=aroW_win h2 xs.length
 have hc:cellsL xs=refW (aroW xs xs.length) 9:=by unfold cellsL;rw[if_pos h0,ref_span2 hw1]
 refine⟨hc,fun V=>?_⟩
 rw[hc]
 exact refSpan_any (aroW xs xs.length) V hw2
theorem around_sound {xs:List Pt} (h0:checkI xs=0) (A:Option Addr) (n cap:Nat) (V:World) (hr:Reads V V.heap.size 2 A n (ptsV xs)) (hn:n≤128):
 Calls Tryz.prog 57 #[.slice A n cap] V fun e V'=>e= .returned (winV (aroW xs xs.length))∧Below V.heap.size V V':=by
 obtain⟨h1,h2,h3,-⟩:=checkI_zero h0
 have hl:=hr.lenPt
 have ha:aroV xs n=aroW xs xs.length:=by unfold aroV;rw[if_neg (by omega),hl]
 have:=aroundR_any xs A n cap V hr hn
 rw[ha]at this
 exact this
/-- What Items answers. -/
def ItemsPost (p:Plan) (w:World) (e:Ending) (w':World):Prop:=
 (planB p=true→∃A c d,e= .returned (.tuple #[.slice A d.length c,.int .i64 0])∧ItsOwn w.heap.size w' A d.length c d∧Rising (d.map fun y=>y.1.k)∧(d.map (·.1)).Perm (planIts p))∧
 (planB p=false→e= .returned (.tuple #[.slice none 0 0,.int .i64 2]))∧Below w.heap.size w w'
theorem parIts_few {x:Parc} (h:x.ring.length≤128):(parIts x).length≤300:=by
 rw[parIts_eq]
 unfold parOP ringIts
 simp only[List.length_append,List.length_cons,List.length_map,List.length_range]
 have h1:=chkN_le (n:=x.ring.length) (m:=8) (by omega)
 have h2:(edgesOf x.ring).length=x.ring.length:=by unfold edgesOf;simp
 have h3:=cells_few (l:=cellsL x.ring) (fun q hq=>cellsL_key hq) (cellsL_nodup _)
 omega
theorem flat_few:∀ {ps:List Parc},(∀x∈ps,x.ring.length≤128)→(ps.flatMap parIts).length≤300*ps.length
 |[],_=>by simp
 |x::ps,h=>by
  rw[List.flatMap_cons,List.length_append,List.length_cons]
  have h1:=parIts_few (h x (List.mem_cons_self ..))
  have h2:=flat_few fun y hy=>h y (List.mem_cons_of_mem _ hy)
  omega
theorem listN_own:∀ {n:Nat} {l:Int} {ps:List Parc},listN n l ps=true→∀x∈ps,x.owner.size≤32
 |_,_,[],_,x,hx=>absurd hx (by simp)
 |n,l,y::ps,h,x,hx=>by
  unfold listN at h
  simp only[Bool.and_eq_true]at h
  rcases List.mem_cons.1 hx with rfl|hx
  ·have:=h.2.2.1
   unfold ownB at this
   simp only[Bool.and_eq_true,decide_eq_true_eq]at this
   exact this.1
  ·exact listN_own h.2.2.2.2 x hx
set_option maxRecDepth 100000 in
set_option maxHeartbeats 3200000 in
theorem items_any (p:Plan) (A A':Option Addr) (n c n' c':Nat) (w:World) (h:PlanAt w w.heap.size A n c A' n' c' p):
 Calls Tryz.prog 20 #[planV A n c A' n' c'] w (ItemsPost p w):=by
 obtain⟨w1,hw1⟩:∃w1,w1=w.alloc (.cells #[.slice A n c,.slice A' n' c'] 30):=⟨_,rfl⟩
 have hB1:Below w.heap.size w w1:=by rw[hw1];exact(Below.refl _ _).alloc (Nat.le_refl _) _
 have hK1:PlK w1 w.heap.size A n c A' n' c':=by rw[hw1];exact PlK.new w A n c A' n' c'
 have H1:=Lib.hid (And.intro (h.on hB1) (And.intro hK1 hB1))
 have KC:=Lib.hid (checkPl_any p A A' n c n' c' w1 (h.on hB1))
 obtain⟨q1,q2,q3⟩:=hK1.facts
 have H0:=Lib.hid h
 clear h hB1 hK1
 go_enter Tryz.func20,Tryz.ntmps20
 go_upto_region 1 with fail
 rw[←hw1]
 clear hw1
 rcases hpb:planB p with _|_
 ·have kc:=KC.out
  rw[planE_b0 hpb]at kc
  have KC2:=Lib.hid kc
  have HPB:=Lib.hid hpb
  clear kc KC hpb
  go_wp2_with fail
  refine KC2.out.mono ?_
  rintro e w2 ⟨rfl,hb2⟩
  have HB:=Lib.hid (below_on H1.out.2.2 (Nat.le_refl _) hb2)
  clear hb2 H1 KC2 q1 q2 q3
  go_wp2_with fail
  refine bodyPost_ret (v:= .tuple #[.slice none 0 0,.int .i64 2]) ?_ rfl ⟨(fun h=>by rw[HPB.out]at h;cases h),fun _=>rfl,HB.out⟩
  simp[results,Tryz.results20,go_sem]
 have kc:=KC.out
 rw[planE_b1 hpb]at kc
 have KC2:=Lib.hid kc
 have HS:=Lib.hid (planB_sound hpb)
 have HPB:=Lib.hid hpb
 clear kc KC hpb
 go_wp2_with fail
 refine KC2.out.mono ?_
 rintro e w2 ⟨rfl,hb2⟩
 have H2:=Lib.hid (And.intro (H1.out.1.on hb2) (And.intro (H1.out.2.1.on hb2) (below_on H1.out.2.2 (Nat.le_refl _) hb2)))
 obtain⟨q1,q2,q3⟩:=H2.out.2.1.facts
 have hcv:=Lib.run_convert_bytes_const (P:=Tryz.prog) w2 50 5 #[.int .u8 111] 1 1 Tryz.underlying50 Tryz.underlying5
 simp only[List.size_toArray,List.length_cons,List.length_nil,Nat.zero_add,Nat.reduceAdd]at hcv
 have hro:=sound_ring HS.out (.inl rfl)
 have hno:n≤128∧3≤n∧n≤c∧c≤9223372036854775807:=by have h1:=H2.out.1.lens.1;have h2:=H2.out.1.oc;omega
 obtain⟨ad,rfl,-,-,-,-⟩:=H2.out.1.outer.pt (k:=0) (by omega)
 have hbM:Below w2.heap.size w2 (w2.alloc (.cells #[.int .u8 111] 5 (1,2))):=(Below.refl _ _).alloc (Nat.le_refl _) _
 have kp:=points_any [111] (some ⟨w2.heap.size,0,none⟩) 1 1 p.outer ad n c 0 (w2.alloc (.cells #[.int .u8 111] 5 (1,2))) (Reads.made w2 #[.int .u8 111] 5 (1,2) 1 1 (u8s [111]) rfl rfl) (H2.out.1.outer.on hbM) hno.1 hno.2.2 (fun q hq=>goodL_mem hro.1 hq) (by omega) (by omega)
 rw[show ((0:Nat):Int)=0 from rfl]at kp
 have KP:=Lib.hid kp
 have HBM:=Lib.hid hbM
 have HNO:=Lib.hid hno.1
 clear hb2 H1 KC2 hro hno hbM kp
 go_wp2_with fail
 refine KP.out.mono ?_
 rintro e w3 ⟨A3,c3,d3,rfl,ho3,hd3,hb3⟩
 have hb23:=HBM.out.trans (hb3.mono HBM.out.size)
 have H3:=Lib.hid (And.intro (H2.out.1.on hb23) (And.intro (H2.out.2.1.on hb23) (below_on H2.out.2.2 (Nat.le_refl _) hb23)))
 have HO3:=Lib.hid (And.intro (ho3.mono (Nat.le_trans H2.out.2.2.size HBM.out.size)) (And.intro hd3 ho3.len))
 obtain⟨q1,q2,q3⟩:=H3.out.2.1.facts
 have hl3:=ho3.len
 have hpc:=H3.out.1.parcs.1
 have hn64:=(listed_bd HS.out.1).2.1
 obtain⟨i1,hi1,hx0,hz1,hz2⟩:=info_parts info_it
 clear hb3 hb23 ho3 hd3 KP H2 HBM hcv
 go_wp2_with fail
 rw[←hl3]
 have HL3:=Lib.hid hl3
 clear hl3
 go_loopw [4,18] (fun s i wr=>∃(k:Nat) (B:Option Addr) (cB:Nat) (d:List ItH),k≤n'∧i= .int .i64 (k:Int)∧s= .slice B d.length cB∧Hid (ItsOwn w.heap.size wr B d.length cB d∧d.map (·.1)=ringIts [111] p.outer 0++(p.parcels.take k).flatMap parIts∧Below w.heap.size w wr)) (fun _ i _=>n'-(intOf i).toNat)
 case atStart=>exact⟨0,A3,c3,d3,Nat.zero_le _,rfl,rfl,by rw[HL3.out];exact HO3.out.1,by rw[HO3.out.2.1];simp,H3.out.2.2⟩
 case round=>
  obtain⟨k,B,cB,d,hk,rfl,rfl,HW⟩:=hrel
  obtain⟨V,rfl⟩:∃X,X=wr:=⟨_,rfl⟩
  by_cases hlt:k<n'
  ·have hlt':(k:Int)<(n':Int):=by omega
   have hw1:IntKind.i64.wrap ((k:Int)+1)=((k+1:Nat):Int):=by rw[IntKind.wrap_i64];omega
   have hPV:=H0.out.on HW.out.2.2
   obtain⟨adp,rfl⟩:=hPV.parcs.some_ (by omega)
   obtain⟨hadp,p1,⟨Ak,nk,ck,p2,hrk,hck⟩,p3⟩:=hPV.parcs.at_ hlt
   obtain⟨x,hx⟩:∃x,x=pcAt p.parcels k:=⟨_,rfl⟩
   rw[←hx]at p1 p3 hrk
   have hxm:x∈p.parcels:=by rw[hx,pcAt_lt (by omega)];exact List.getElem_mem _
   have hxr:=sound_ring HS.out (.inr ⟨x,hxm,rfl⟩)
   have hxo:=recOK_sound HS.out
   have hnk:nk=x.ring.length:=hrk.lenPt.symm
   obtain⟨adk,rfl,-,-,-,-⟩:=hrk.pt (k:=0) (by omega)
   have hown:x.owner.size≤32:=by
    have hl:=HS.out.1
    unfold listedB at hl
    simp only[Bool.and_eq_true]at hl
    exact listN_own hl.1 x hxm
   have htk:p.parcels.take (k+1)=p.parcels.take k++[x]:=by rw[List.take_succ_eq_append_getElem (by omega),hx,pcAt_lt (by omega)]
   have hfew:d.length≤300*65:=by
    have h1:=congrArg List.length HW.out.2.1
    rw[List.length_map,List.length_append]at h1
    have h2:=flat_few (ps:=p.parcels.take k) (fun y hy=>((recOK_sound HS.out).pcs y (List.mem_of_mem_take hy)).2.2)
    have h3:(ringIts [111] p.outer 0).length≤300:=by
     unfold ringIts
     rw[List.length_map,List.length_range]
     have:=chkN_le (n:=p.outer.length) (m:=8) (by have:=H3.out.1.lens.1;have:=HNO.out;omega)
     omega
    rw[List.length_take]at h2
    omega
   have hbx:Below V.heap.size V (V.alloc (.cells #[.int .i64 x.id,.slice (some adk) nk ck,.string x.owner] 27)):=(Below.refl _ _).alloc (Nat.le_refl _) _
   have KX:=Lib.hid (parcel_any x adk nk ck (V.alloc (.cells #[.int .i64 x.id,.slice (some adk) nk ck,.string x.owner] 27)) (hrk.on hbx) (by omega) hck (fun q hq=>goodL_mem hxr.1 hq) (hxo.pcs x hxm).1 hown)
   have HX:=Lib.hid (And.intro hbx (And.intro htk (And.intro hfew (parIts_few hxr.2.1))))
   clear hPV hadp hx hxm hxr hxo hnk hrk hck hown htk hfew hbx
   go_wp2_with fail
   refine KX.out.mono ?_
   rintro e W2 ⟨A5,c5,d5,rfl,ho5,hd5,hb5⟩
   have hb25:=HX.out.1.trans (hb5.mono HX.out.1.size)
   have hl5:d5.length=(parIts x).length:=by rw[←hd5,List.length_map]
   have hbW:=below_on HW.out.2.2 (Nat.le_refl _) hb25
   have hwW:w.heap.size≤V.heap.size:=HW.out.2.2.size
   have H5:=Lib.hid (And.intro (HW.out.1.below hb25) (And.intro (ho5.mono (Nat.le_trans hwW HX.out.1.size)) (And.intro hd5 (And.intro hbW (And.intro (show d.length+d5.length≤maxLen by have:=HX.out.2.2;simp only[maxLen];omega) (And.intro (show (d.length+d5.length)*48≤140737488355328 by have:=HX.out.2.2;omega) (Nat.le_trans hwW hb25.size)))))))
   clear hb5 ho5 hd5 hb25 hbW hwW hl5 KX p1 p2 p3
   go_wp2_with (at_builtin;refine wpList_append_any _ rfl (.tmp 22) (.tmp 24) _ rfl w.heap.size 52 i1 _ 2 48 Tryz.underlying43 hi1 hx0 hz1 hz2 rfl (Nat.zero_lt_succ _) (.slice B d.length cB) d.length _ rfl H5.out.1.1 _ A5 d5.length c5 _ rfl (Reads.of_own H5.out.2.1.1) (itsV_one _) H5.out.2.2.2.2.1 H5.out.2.2.2.2.2.1 H5.out.2.2.2.2.2.2 ?_
                intro v6 w6 hown6 hg6 hat6
                obtain⟨A6,c6,rfl⟩:=own_form hown6
                have h6:=H5.out.1.append H5.out.2.1.2 hown6 hg6
                have hb6:=H5.out.2.2.2.1.grown hg6 H5.out.2.2.2.1.size (fun j e=>(H5.out.1.1.lt j e).1)
                clear hown6 hg6 hat6)
   have H6:=Lib.hid (And.intro h6 (And.intro (show (d++d5).map (·.1)=ringIts [111] p.outer 0++(p.parcels.take (k+1)).flatMap parIts by rw[List.map_append,HW.out.2.1,H5.out.2.2.1,HX.out.2.1,List.flatMap_append,List.append_assoc];simp) hb6))
   clear h6 hb6
   go_roundw
   case rel=>exact⟨k+1,A6,c6,d++d5,by omega,by first|rfl|exact congrArg (Value.int .i64) hw1,by rw[List.length_append],by rw[List.length_append];exact H6.out⟩
   case measure=>simp[intOf];omega
  ·obtain rfl:k=n':=by omega
   have hdp:d.map (·.1)=planIts p:=by rw[HW.out.2.1,List.take_of_length_le (by omega)];rfl
   have hnd:=planIts_nodup (recOK_sound HS.out)
   have hfew:1≤d.length∧d.length≤300*65:=by
    have h1:=congrArg List.length hdp
    unfold planIts at h1
    rw[List.length_map,List.length_append]at h1
    have h2:=flat_few (ps:=p.parcels) (fun y hy=>((recOK_sound HS.out).pcs y hy).2.2)
    have h3:1≤(ringIts [111] p.outer 0).length∧(ringIts [111] p.outer 0).length≤300:=by
     unfold ringIts
     rw[List.length_map,List.length_range]
     have h4:=chkN_le (n:=p.outer.length) (m:=8) (by have:=H3.out.1.lens.1;have:=HNO.out;omega)
     have h5:=(sound_ring HS.out (.inl rfl)).2.2.1
     refine⟨by unfold chkN;omega,by omega⟩
    omega
   obtain⟨gB,e1,-,-⟩:=own_some HW.out.1.1 (by omega)
   subst e1
   have KS:=Lib.hid (sortIt_any d gB d.length cB w.heap.size V HW.out.1 (by omega))
   have HD:=Lib.hid (And.intro hdp (And.intro hnd hfew))
   clear hdp hnd hfew hlt
   go_wp2_with fail
   refine KS.out.mono ?_
   rintro e w9 ⟨rfl,d9,hp9,hs9,ho9,hg9⟩
   have hb9:=HW.out.2.2.grown hg9 HW.out.2.2.size (fun j e=>(HW.out.1.1.lt j (by cases e;rfl)).1)
   have hl9:=hp9.length_eq
   have hpm:(d9.map (·.1)).Perm (planIts p):=by rw[←HD.out.1];exact hp9.map _
   have hri:Rising (d9.map fun y=>y.1.k):=by
    refine rising_of (List.pairwise_map.2 hs9) ?_
    have h1:=(hpm.map (·.k)).symm.nodup HD.out.2.1
    rwa [List.map_map]at h1
   have H9:=Lib.hid (And.intro ho9 (And.intro hb9 (And.intro hri (And.intro hpm hl9))))
   clear ho9 hb9 hri hpm hl9 hp9 hs9 hg9 KS
   go_wp2_with fail
   refine bodyPost_ret (v:= .tuple #[.slice (some ⟨gB,0,none⟩) d.length cB,.int .i64 0]) ?_ rfl ⟨fun _=>⟨some ⟨gB,0,none⟩,cB,d9,by rw[H9.out.2.2.2.2],by rw[H9.out.2.2.2.2];exact H9.out.1,H9.out.2.2.1,H9.out.2.2.2.1⟩,(fun h=>by rw[HPB.out]at h;cases h),H9.out.2.1⟩
   simp[results,Tryz.results20,go_sem]
end Go.Proofs.YtpkeacnacjnlcaaGreat
