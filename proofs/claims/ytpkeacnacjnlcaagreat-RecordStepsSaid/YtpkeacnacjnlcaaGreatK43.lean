/- A plan whose rows grow as it is read from items: frames. -/
import Derived.Test.YtpkeacnacjnlcaaGreatK31
import Derived.Test.YtpkeacnacjnlcaaGreatK38
import Derived.Test.YtpkeacnacjnlcaaGreatK39
namespace Go.Proofs.YtpkeacnacjnlcaaGreat
open Go.RowKit Go.Lib
theorem own_keep {W W':World} {base:Nat} {t:TypeId} {s k n c ck:Nat} {A D:Option Addr} {xs:List Value} (h:W.ownsRow base t s (.slice D k ck) k xs) (hg:W.grownBy W' (Value.slice A n c).ownBlock) (hne:∀a b:Addr,A=some a→D=some b→a.block≠b.block):W'.ownsRow base t s (.slice D k ck) k xs:=by
 refine own_heap h fun g e=>hg.block g (h.lt g e).2 fun e2=>?_
 rcases D with _|b
 ·simp[Value.ownBlock]at e
 ·rcases A with _|a
  ·simp[Value.ownBlock]at e2
  ·simp only[Value.ownBlock,Option.some.injEq]at e e2
   exact hne a b rfl rfl (by omega)
theorem own_keepT {W W':World} {b1 b2 n1 n2 s1 s2:Nat} {e1 e2:TypeId} {v1 v2:Value} {x1 x2:List Value} (h1:W.ownsRow b1 e1 s1 v1 n1 x1) (h2:W.ownsRow b2 e2 s2 v2 n2 x2) (hne:e1≠e2) (hg:W.grownBy W' v1.ownBlock):W'.ownsRow b2 e2 s2 v2 n2 x2:=
 own_heap h2 fun g e=>hg.block g (h2.lt g e).2 fun e2=>own_own_ne h1 h2 hne e2.symm e
theorem PlanOwn.outG {B n c n' c' m c3:Nat} {W W':World} {A A' A3:Option Addr} {p:Plan} {hs:List Hd} {ys:List Pt} (h:PlanOwn B W A n c A' n' c' p hs) (hd:DistH A hs) (hg:W.grownBy W' (Value.slice A n c).ownBlock) (hnew:W'.ownsRow B 23 2 (.slice A3 m c3) m (ptsV ys))
 (hat:(Value.slice A3 m c3).ownBlock=(Value.slice A n c).ownBlock∨∃g,(Value.slice A3 m c3).ownBlock=some g∧W.heap.size≤g) (hf:(⟨ys,p.parcels⟩:Plan).fits):PlanOwn B W' A3 m c3 A' n' c' ⟨ys,p.parcels⟩ hs∧DistH A3 hs:=by
 refine⟨⟨hnew,own_keepT h.out h.row (by decide) hg,h.len,h.lenp,fun j hj=>own_keep (h.rings j hj) hg fun a b ha hb=>hd.1 j (by rw[h.len];exact hj) a b ha hb,hf⟩,fun j hj a b ha hb=>?_,hd.2⟩
 have hb2:=((h.rings j (by rw[←h.len];exact hj)).lt b.block (by rw[hb];rfl)).2
 subst ha
 rcases hat with e|⟨g,e,hl⟩
 ·rcases A with _|a'
  ·simp[Value.ownBlock]at e
  ·simp only[Value.ownBlock,Option.some.injEq]at e
   rw[e]
   exact hd.1 j hj a' b rfl hb
 ·simp only[Value.ownBlock,Option.some.injEq]at e
  omega
theorem PlanOwn.ringG {B n c n' c' k m c3:Nat} {W W':World} {A A3:Option Addr} {ad:Addr} {p:Plan} {hs:List Hd} {ys:List Pt} (h:PlanOwn B W A n c (some ad) n' c' p hs) (hd:DistH A hs) (hk:k<n') (hg:W.grownBy W' (Value.slice (hdAt hs k).1 (hdAt hs k).2.1 (hdAt hs k).2.2).ownBlock)
 (hnew:W'.ownsRow B 23 2 (.slice A3 m c3) m (ptsV ys)) (hat:(Value.slice A3 m c3).ownBlock=(Value.slice (hdAt hs k).1 (hdAt hs k).2.1 (hdAt hs k).2.2).ownBlock∨∃g,(Value.slice A3 m c3).ownBlock=some g∧W.heap.size≤g) (hf:(setR p k ys).fits):
 PlanOwn B (W'.setCell ⟨(ad.add (k*3)).block,(ad.add (k*3)).off+1,none⟩ (.slice A3 m c3)) A n c (some ad) n' c' (setR p k ys) (hs.set k (A3,m,c3))∧DistH A (hs.set k (A3,m,c3)):=by
 have hkh:k<hs.length:=by rw[h.len];exact hk
 have hout:W'.ownsRow B 23 2 (.slice A n c) n (ptsV p.outer):=own_keep h.out hg fun a b ha hb=>(hd.1 k hkh b a hb ha).symm
 have hrw:W'.ownsRow B 27 3 (.slice (some ad) n' c') n' (rowPV p.parcels hs):=own_keepT (h.rings k hk) h.row (by decide) hg
 have hrn:∀j,j<n'→j≠k→W'.ownsRow B 23 2 (.slice (hdAt hs j).1 (hdAt hs j).2.1 (hdAt hs j).2.2) (hdAt hs j).2.1 (ptsV (pcAt p.parcels j).ring):=fun j hj hjk=>own_keep (h.rings j hj) hg fun a b ha hb=>hd.2 k j hkh (by rw[h.len];exact hj) (fun e=>hjk e.symm) a b ha hb
 obtain⟨g,cap,e,hb,hlt⟩:=hrw.form (by omega)
 have e1:ad=⟨g,0,none⟩:=by cases e;rfl
 have e2:cap=c':=by cases e;rfl
 subst e1 e2
 have hrow:=(hrw.stored (k*3+1) (.slice A3 m c3)).1
 have hadr:(⟨((⟨g,0,none⟩:Addr).add (k*3)).block,((⟨g,0,none⟩:Addr).add (k*3)).off+1,none⟩:Addr)=⟨g,k*3+1,none⟩:=by rw[add_off3 _ _ _ (by omega)];simp[Addr.add]
 rw[hadr]
 have hkeep:∀ {v:Value} {j:Nat} {xs:List Value},W'.ownsRow B 23 2 v j xs→(W'.setCell ⟨g,k*3+1,none⟩ (.slice A3 m c3)).ownsRow B 23 2 v j xs:=fun {v j xs} ho=>
  ownsRow_setCell_other ho (fun e'=>own_own_ne hrw ho (by decide) (g:=g) rfl e') _
 have hkl:k<p.parcels.length:=by rw[h.lenp];exact hk
 refine⟨⟨hkeep hout,?_,by rw[List.length_set];exact h.len,by show(List.set _ _ _).length=_;rw[List.length_set];exact h.lenp,fun j hj=>?_,hf⟩,?_⟩
 ·show World.ownsRow _ _ _ _ _ _ (rowPV (p.parcels.set k _) _)
  rw[rowPV_set (by rw[h.len,h.lenp]) hkl]
  exact hrow
 ·show World.ownsRow _ _ _ _ _ _ (ptsV (pcAt (p.parcels.set k _) j).ring)
  rw[hdAt_set hkh,pcAt_set hkl]
  by_cases e':j=k
  ·rw[if_pos e',if_pos e']
   exact hkeep hnew
  ·rw[if_neg e',if_neg e']
   exact hkeep (hrn j hj e')
 ·have hcase:∀b:Addr,A3=some b→(∃a,(hdAt hs k).1=some a∧a.block=b.block)∨W.heap.size≤b.block:=fun b hb=>by
   subst hb
   rcases hat with e|⟨g',e,hl⟩
   ·rcases ea:(hdAt hs k).1 with _|a
    ·rw[ea]at e;simp[Value.ownBlock]at e
    ·rw[ea]at e
     simp only[Value.ownBlock,Option.some.injEq]at e
     exact .inl ⟨a,rfl,e.symm⟩
   ·simp only[Value.ownBlock,Option.some.injEq]at e
    exact .inr (by omega)
  have hlt:∀j,j<hs.length→∀b:Addr,(hdAt hs j).1=some b→b.block<W.heap.size:=fun j hj b hb=>((h.rings j (by rw[←h.len];exact hj)).lt b.block (by rw[hb];rfl)).2
  have hltA:∀a:Addr,A=some a→a.block<W.heap.size:=fun a ha=>(h.out.lt a.block (by rw[ha];rfl)).2
  refine⟨fun j hj a b ha hb=>?_,fun i j hi hj hij a b ha hb=>?_⟩
  ·rw[List.length_set]at hj
   rw[hdAt_set hkh]at hb
   by_cases e':j=k
   ·rw[if_pos e']at hb
    rcases hcase b hb with ⟨a',e1,e2⟩|h1
    ·rw[←e2];exact hd.1 k hkh a a' ha e1
    ·have:=hltA a ha
     omega
   ·rw[if_neg e']at hb
    exact hd.1 j hj a b ha hb
  ·rw[List.length_set]at hi hj
   rw[hdAt_set hkh]at ha hb
   by_cases e1:i=k
   ·rw[if_pos e1]at ha
    rw[if_neg (fun e=>hij (by rw[e1,e]))]at hb
    rcases hcase a ha with ⟨a',e3,e4⟩|h1
    ·rw[←e4];exact hd.2 k j hkh hj (by rw[←e1];exact hij) a' b e3 hb
    ·have:=hlt j hj b hb
     omega
   ·rw[if_neg e1]at ha
    by_cases e2:j=k
    ·rw[if_pos e2]at hb
     rcases hcase b hb with ⟨b',e3,e4⟩|h1
     ·rw[←e4];exact hd.2 i k hi hkh e1 a b' ha e3
     ·have:=hlt i hi a ha
      omega
    ·rw[if_neg e2]at hb
     exact hd.2 i j hi hj hij a b ha hb
def setO (p:Plan) (k:Nat) (o:ByteArray):Plan:=⟨p.outer,p.parcels.set k ⟨(pcAt p.parcels k).id,(pcAt p.parcels k).ring,o⟩⟩
theorem rowPV_setO {ps:List Parc} {hs:List Hd} (hl:hs.length=ps.length) {k:Nat} (hk:k<ps.length) (o:ByteArray):
 rowPV (ps.set k ⟨(pcAt ps k).id,(pcAt ps k).ring,o⟩) hs=(rowPV ps hs).set (k*3+2) (.string o):=by
 induction ps generalizing hs k with
 |nil=>simp at hk
 |cons y ps ih=>
  rcases hs with _|⟨g,hs⟩
  ·simp at hl
  ·rcases k with _|k
   ·rfl
   ·have h1:=ih (hs:=hs) (by simpa using hl) (k:=k) (by simpa using hk)
    have h2:pcAt (y::ps) (k+1)=pcAt ps k:=by unfold pcAt;simp
    rw[h2]
    show pcV y g++rowPV (ps.set k _) hs=_
    rw[h1,show(k+1)*3+2=k*3+2+1+1+1 by omega]
    rfl
theorem PlanOwn.setOwner {B n c n' c' k:Nat} {W:World} {A:Option Addr} {ad:Addr} {p:Plan} {hs:List Hd} (h:PlanOwn B W A n c (some ad) n' c' p hs) (hk:k<n') (o:ByteArray) (hf:(setO p k o).fits):
 PlanOwn B (W.setCell ⟨(ad.add (k*3)).block,(ad.add (k*3)).off+2,none⟩ (.string o)) A n c (some ad) n' c' (setO p k o) hs:=by
 obtain⟨g,cap,e,hb,hlt⟩:=h.row.form (by omega)
 have e1:ad=⟨g,0,none⟩:=by cases e;rfl
 have e2:cap=c':=by cases e;rfl
 subst e1 e2
 have hrow:=(h.row.stored (k*3+2) (.string o)).1
 have hadr:(⟨((⟨g,0,none⟩:Addr).add (k*3)).block,((⟨g,0,none⟩:Addr).add (k*3)).off+2,none⟩:Addr)=⟨g,k*3+2,none⟩:=by rw[add_off3 _ _ _ (by omega)];simp[Addr.add]
 rw[hadr]
 have hkeep:∀ {v:Value} {j:Nat} {xs:List Value},W.ownsRow B 23 2 v j xs→(W.setCell ⟨g,k*3+2,none⟩ (.string o)).ownsRow B 23 2 v j xs:=fun {v j xs} ho=>
  ownsRow_setCell_other ho (fun e'=>own_own_ne h.row ho (by decide) (g:=g) rfl e') _
 have hkl:k<p.parcels.length:=by rw[h.lenp];exact hk
 refine⟨hkeep h.out,?_,h.len,by show(List.set _ _ _).length=_;rw[List.length_set];exact h.lenp,fun j hj=>?_,hf⟩
 ·show World.ownsRow _ _ _ _ _ _ (rowPV (p.parcels.set k _) _)
  rw[rowPV_setO (by rw[h.len,h.lenp]) hkl]
  exact hrow
 ·show World.ownsRow _ _ _ _ _ _ (ptsV (pcAt (p.parcels.set k _) j).ring)
  rw[pcAt_set hkl]
  by_cases e':j=k
  ·rw[if_pos e',e']
   exact hkeep (h.rings k hk)
  ·rw[if_neg e']
   exact hkeep (h.rings j hj)
/-- How large a plan is that is read. -/
def SzP (p:Plan) (j S:Nat):Prop:=p.outer.length≤S∧p.parcels.length≤j∧(∀q∈p.outer,q.inI)∧∀x∈p.parcels,x.ring.length≤S∧(∀q∈x.ring,q.inI)∧inI x.id∧x.owner.size≤S
theorem SzP.fits {p:Plan} {j S:Nat} (h:SzP p j S) (hj:j≤1048576) (hS:S≤1048576):p.fits:=
 ⟨⟨Nat.le_trans h.1 (Nat.le_trans hS (by decide)),h.2.2.1⟩,Nat.le_trans h.2.1 (Nat.le_trans hj (by decide)),fun x hx=>by
   obtain⟨h1,h2,h3,h4⟩:=h.2.2.2 x hx
   exact⟨Nat.le_trans h1 (Nat.le_trans hS (by decide)),h2,h3,Nat.le_trans h4 (Nat.le_trans hS (by decide))⟩⟩
theorem szP_nil:SzP ⟨[],[]⟩ 0 0:=⟨Nat.le_refl _,Nat.le_refl _,fun _ h=>absurd h (by simp),fun _ h=>absurd h (by simp)⟩
theorem SzP.mono {p:Plan} {j j' S S':Nat} (h:SzP p j S) (hj:j≤j') (hS:S≤S'):SzP p j' S':=
 ⟨Nat.le_trans h.1 hS,Nat.le_trans h.2.1 hj,h.2.2.1,fun x hx=>⟨Nat.le_trans (h.2.2.2 x hx).1 hS,(h.2.2.2 x hx).2.1,(h.2.2.2 x hx).2.2.1,Nat.le_trans (h.2.2.2 x hx).2.2.2 hS⟩⟩
theorem ptsB_len (v:List UInt8):(ptsB v).length=v.length/8:=by unfold ptsB;rw[List.length_map,List.length_range]
theorem numL4_lt (l:List UInt8):numL (l.take 4)<4294967296:=by
 have h:=numL_lt (l.take 4)
 have h2:(l.take 4).length≤4:=by rw[List.length_take];omega
 exact Nat.lt_of_lt_of_le h (Nat.le_trans (Nat.pow_le_pow_right (by decide) h2) (by decide))
theorem ptsB_inI (v:List UInt8):∀q∈ptsB v,q.inI:=fun q hq=>by
 unfold ptsB at hq
 obtain⟨j,-,rfl⟩:=List.mem_map.1 hq
 have h1:=numL4_lt (v.drop (8*j))
 have h2:=numL4_lt (v.drop (8*j+4))
 unfold ptOfB
 exact⟨⟨by simp only;omega,by simp only;omega⟩,⟨by simp only;omega,by simp only;omega⟩⟩
theorem pcMore_sz {y:Parc} {S:Nat} (c:UInt8) (v:List UInt8) (h:y.ring.length≤S∧(∀q∈y.ring,q.inI)∧inI y.id∧y.owner.size≤S):
 (pcMore y c v).ring.length≤S+v.length∧(∀q∈(pcMore y c v).ring,q.inI)∧inI (pcMore y c v).id∧(pcMore y c v).owner.size≤S+v.length:=by
 obtain⟨h1,h2,h3,h4⟩:=h
 unfold pcMore
 split
 ·refine⟨by simp only;omega,h2,h3,?_⟩
  show v.toArray.size≤_
  simp
 ·refine⟨?_,fun q hq=>?_,h3,by simp only;omega⟩
  ·simp only[List.length_append,ptsB_len]
   omega
  ·simp only at hq
   rcases List.mem_append.1 hq with hq|hq
   ·exact h2 q hq
   ·exact ptsB_inI v q hq
theorem SzP.step {p:Plan} {j S:Nat} (h:SzP p j S) (x:It):SzP (opStep p x) (j+1) (S+x.v.length):=by
 obtain⟨h1,h2,h3,h4⟩:=h
 unfold opStep
 split
 ·refine⟨?_,by simp only;omega,fun q hq=>?_,fun y hy=>?_⟩
  ·simp only[List.length_append,ptsB_len]
   omega
  ·simp only at hq
   rcases List.mem_append.1 hq with hq|hq
   ·exact h3 q hq
   ·exact ptsB_inI _ q hq
  ·obtain⟨g1,g2,g3,g4⟩:=h4 y hy
   exact⟨by omega,g2,g3,by omega⟩
 ·split
  ·have hn:(pcNew p.parcels (numL ((x.k.drop 1).take 4):Nat)).length≤p.parcels.length+1:=by unfold pcNew;split<;>simp
   have hmem:∀y∈pcNew p.parcels (numL ((x.k.drop 1).take 4):Nat),y.ring.length≤S∧(∀q∈y.ring,q.inI)∧inI y.id∧y.owner.size≤S:=fun y hy=>by
    unfold pcNew at hy
    split at hy
    ·rcases List.mem_append.1 hy with hy|hy
     ·exact h4 y hy
     ·obtain rfl:=List.mem_singleton.1 hy
      have:=numL4_lt (x.k.drop 1)
      exact⟨Nat.zero_le _,fun _ h=>absurd h (by simp),⟨by simp only;omega,by simp only;omega⟩,Nat.zero_le _⟩
    ·exact h4 y hy
   refine⟨by simp only;omega,?_,h3,fun y hy=>?_⟩
   ·simp only
    unfold pcStep
    rw[List.length_set]
    omega
   ·simp only at hy
    unfold pcStep at hy
    rcases List.mem_or_eq_of_mem_set hy with hy|rfl
    ·obtain⟨g1,g2,g3,g4⟩:=hmem y hy
     exact⟨by omega,g2,g3,by omega⟩
    ·refine pcMore_sz _ _ (hmem _ ?_)
     have hpos:0<(pcNew p.parcels (numL ((x.k.drop 1).take 4):Nat)).length:=by
      unfold pcNew
      split
      ·simp
      ·rename_i hc
       rw[not_or]at hc
       exact List.length_pos_iff.2 hc.1
     exact pcAt_mem (by omega)
  ·exact SzP.mono ⟨h1,h2,h3,h4⟩ (by omega) (by omega)
end Go.Proofs.YtpkeacnacjnlcaaGreat
