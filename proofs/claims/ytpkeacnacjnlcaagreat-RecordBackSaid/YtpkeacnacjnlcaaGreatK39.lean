/- Rows of items: one put at a place, parts of them, how long a plan's items are together: frames. -/
import Derived.Test.YtpkeacnacjnlcaaGreatK35
import Derived.Test.YtpkeacnacjnlcaaGreatK36
namespace Go.Proofs.YtpkeacnacjnlcaaGreat
open Go.RowKit Go.Lib
theorem itsV_set {d:List ItH} {k:Nat} (hk:k<d.length) (x:ItH):itsV (d.set k x)=((itsV d).set (k*2) (hdV x.2.1)).set (k*2+1) (hdV x.2.2):=by
 induction d generalizing k with
 |nil=>simp at hk
 |cons y d ih=>
  rcases k with _|k
  ·rfl
  ·have h1:=ih (k:=k) (by simpa using hk)
   show encIt y++itsV (d.set k x)=_
   rw[h1,show(k+1)*2=k*2+1+1 by omega]
   rfl
/-- One item more at a place of a row of the call's own. -/
theorem ItsOwn.put {base:Nat} {W:World} {ad:Addr} {n c k:Nat} {d:List ItH} (h:ItsOwn base W (some ad) n c d) (hk:k<n) (x:ItH) (hx:OwnIt base W x):
 ItsOwn base ((W.setCell (ad.add (k*2)) (hdV x.2.1)).setCell ⟨(ad.add (k*2)).block,(ad.add (k*2)).off+1,none⟩ (hdV x.2.2)) (some ad) n c (d.set k x)∧
 W.frozen? (ad.add (k*2))=false∧W.frozen? ⟨(ad.add (k*2)).block,(ad.add (k*2)).off+1,none⟩=false∧base≤ad.block∧ad.block<W.heap.size∧
 (∀g t cs,52≠t→Blk W g t cs→Blk ((W.setCell (ad.add (k*2)) (hdV x.2.1)).setCell ⟨(ad.add (k*2)).block,(ad.add (k*2)).off+1,none⟩ (hdV x.2.2)) g t cs)∧
 (∀g,g≠ad.block→((W.setCell (ad.add (k*2)) (hdV x.2.1)).setCell ⟨(ad.add (k*2)).block,(ad.add (k*2)).off+1,none⟩ (hdV x.2.2)).heap[g]?=W.heap[g]?)∧
 (∀bs y,OwnIt bs W y→OwnIt bs ((W.setCell (ad.add (k*2)) (hdV x.2.1)).setCell ⟨(ad.add (k*2)).block,(ad.add (k*2)).off+1,none⟩ (hdV x.2.2)) y)∧
 (W.setCell (ad.add (k*2)) (hdV x.2.1)).frozen? ⟨(ad.add (k*2)).block,(ad.add (k*2)).off+1,none⟩=false∧(∃u,(W.setCell (ad.add (k*2)) (hdV x.2.1)).cell? ⟨(ad.add (k*2)).block,(ad.add (k*2)).off+1,none⟩=some u):=by
 obtain⟨g,cap,e,hb,hlt⟩:=h.1.form (by omega)
 have e1:ad=⟨g,0,none⟩:=by cases e;rfl
 have e2:cap=c:=by cases e;rfl
 subst e1 e2
 have hl:=h.len
 have ha:(⟨g,0,none⟩:Addr).add (k*2)=⟨g,k*2,none⟩:=by
  unfold Addr.add
  split
  ·rename_i h0;rw[h0]
  ·simp
 rw[ha]
 have h1:=(h.1.stored (k*2) (hdV x.2.1)).1
 have h2:=(h1.stored (k*2+1) (hdV x.2.2)).1
 rw[←itsV_set (by omega) x]at h2
 have hoth:∀q,q≠g→((W.setCell ⟨g,k*2,none⟩ (hdV x.2.1)).setCell ⟨g,k*2+1,none⟩ (hdV x.2.2)).heap[q]?=W.heap[q]?:=fun q hq=>
  (Below.heap_setCell _ _ _ q (fun e=>hq e)).trans (Below.heap_setCell _ _ _ q (fun e=>hq e))
 have hsz:((W.setCell ⟨g,k*2,none⟩ (hdV x.2.1)).setCell ⟨g,k*2+1,none⟩ (hdV x.2.2)).heap.size=W.heap.size:=by rw[World.size_setCell,World.size_setCell]
 have hkb:∀(q:Nat) (cs:Array Value) (fr:Nat×Nat),W.heap[q]?=some (Obj.cells cs 5 fr)→((W.setCell ⟨g,k*2,none⟩ (hdV x.2.1)).setCell ⟨g,k*2+1,none⟩ (hdV x.2.2)).heap[q]?=W.heap[q]?:=fun q cs fr hq=>hoth q fun e=>own_ne_cells h.1 hq (by decide) (by rw[e];rfl)
 refine⟨⟨h2,fun y hy=>?_⟩,h.1.frozenAt _,h.1.frozenAt _,hb,hlt,fun q t cs ht hq=>(hoth q fun e=>own_blk_ne h.1 hq ht (by rw[e];rfl)).trans hq,hoth,fun bs y hy=>hy.heap (by rw[hsz];exact Nat.le_refl _) hkb,h1.frozenAt _,?_⟩
 rotate_left
 ·obtain⟨-,-,c2⟩:=ItsAt.cells h.at_ hk (by omega)
  rw[ha]at c2
  exact⟨_,(World.cell?_setCell_other _ _ _ _ (fun e=>by have:=congrArg Addr.off e;simp at this)).trans c2⟩
 rcases List.mem_or_eq_of_mem_set hy with hy|rfl
 ·exact(h.2 y hy).heap (by rw[hsz];exact Nat.le_refl _) hkb
 ·exact hx.heap (by rw[hsz];exact Nat.le_refl _) hkb
theorem itsV_take (d:List ItH) (k:Nat):itsV d=itsV (d.take k)++itsV (d.drop k):=by rw[←itsV_append,List.take_append_drop]
theorem itsV_drop (d:List ItH) (k:Nat):(itsV d).drop (k*2)=itsV (d.drop k):=by
 by_cases h:k≤d.length
 ·rw[itsV_take d k,List.drop_left' (by rw[itsV_length,List.length_take];omega)]
 ·rw[List.drop_eq_nil_of_le (by omega:d.length≤k),List.drop_eq_nil_of_le (by rw[itsV_length];omega)]
  rfl
/-- The first ones. -/
theorem ItsAt.take {W:World} {B n c k:Nat} {A:Option Addr} {d:List ItH} (h:ItsAt W B A n c d) (hk:k≤n):ItsAt W B A k c (d.take k):=by
 have hl:=h.len
 refine⟨⟨by rw[itsV_length,List.length_take];omega,fun h0=>?_⟩,fun e he=>h.2.1 e (List.mem_of_mem_take he),Nat.le_trans hk h.2.2.1,h.2.2.2⟩
 obtain⟨ad,h1,h2,h3⟩:=h.1.2 (by omega)
 refine⟨ad,h1,h2,fun j u hu=>h3 j u ?_⟩
 rw[itsV_take d k,List.getElem?_append_left (List.getElem?_eq_some_iff.1 hu).1]
 exact hu
/-- The others. -/
theorem ItsAt.drop {W:World} {B n c k:Nat} {A:Option Addr} {d:List ItH} (h:ItsAt W B A n c d) (hk:k≤n):ItsAt W B (if c=k then A else A.map (·.add (k*2))) (n-k) (c-k) (d.drop k):=by
 refine⟨?_,fun e he=>h.2.1 e (List.mem_of_mem_drop he),by have:=h.2.2.1;omega,by have:=h.2.2.2;omega⟩
 rw[←itsV_drop]
 exact h.1.cut hk h.2.2.1
theorem ItsOwn.addr {base:Nat} {W:World} {A:Option Addr} {n c:Nat} {d:List ItH} (h:ItsOwn base W A n c d):∀e∈d,(∀a,e.2.1.1=some a→a.block<W.heap.size)∧∀a,e.2.2.1=some a→a.block<W.heap.size:=fun e he=>
 ⟨fun _ ha=>((h.2 e he).1.blk ha).2,fun _ ha=>((h.2 e he).2.blk ha).2⟩
theorem NewB.kept2 {base:Nat} {W W':World} {h:Hd} {xs:List UInt8} {row:Option Nat} (r:NewB base W h xs) (hg:W.grownBy W' row) (hne:∀a,h.1=some a→row≠some a.block):NewB base W' h xs:=by
 obtain⟨h1,h2,h3⟩:=r
 refine⟨⟨h1.1,fun h0=>?_⟩,h2,fun a e=>?_⟩
 ·obtain⟨ad,e,hb,hc⟩:=h1.2 h0
  refine⟨ad,e,Nat.lt_of_lt_of_le hb hg.size,fun k u hu=>?_⟩
  have hk:=hg.block ad.block hb (fun e2=>hne ad e e2.symm)
  exact(World.cell?_of_block (by rw[block_of_add];exact hk)).trans (hc k u hu)
 ·obtain⟨hb,cs,fr,hh⟩:=h3 a e
  exact⟨hb,cs,fr,(hg.block a.block (Array.getElem?_eq_some_iff.1 hh).1 (fun e2=>hne a e e2.symm)).trans hh⟩
theorem itsV_setV {d:List ItH} {k:Nat} (hk:k<d.length) (i:It) (h:Hd):itsV (d.set k (i,d[k].2.1,h))=(itsV d).set (k*2+1) (hdV h):=by
 induction d generalizing k with
 |nil=>simp at hk
 |cons y d ih=>
  rcases k with _|k
  ·rfl
  ·have h1:=ih (k:=k) (by simpa using hk)
   show encIt y++itsV (d.set k _)=_
   rw[List.getElem_cons_succ,h1,show(k+1)*2+1=k*2+1+1+1 by omega]
   rfl
/-- A byte more behind a value, in its own row. -/
theorem ItsOwn.push {base N c kk vn c':Nat} {U1 U2:World} {bd:Addr} {A':Option Addr} {d:List ItH} {bv:UInt8} (h:ItsOwn base U1 (some bd) N c d) (hv:VOwn base U1 d) (hk:kk<N) (hkd:kk<d.length)
 (hown:U2.ownsRow base 5 1 (.slice A' vn c') vn (u8s d[kk].1.v++u8s [bv])) (hg:U1.grownBy U2 (hdV d[kk].2.2).ownBlock):
 ItsOwn base (U2.setCell ⟨(bd.add (kk*2)).block,(bd.add (kk*2)).off+1,none⟩ (.slice A' vn c')) (some bd) N c (d.set kk (⟨d[kk].1.k,d[kk].1.v++[bv]⟩,d[kk].2.1,(A',vn,c')))∧
 U2.frozen? ⟨(bd.add (kk*2)).block,(bd.add (kk*2)).off+1,none⟩=false∧(∃u,U2.cell? ⟨(bd.add (kk*2)).block,(bd.add (kk*2)).off+1,none⟩=some u)∧base≤bd.block:=by
 have hrow:U2.ownsRow base 52 2 (.slice (some bd) N c) N (itsV d):=own_keepT (hv.val _ (List.getElem_mem hkd)) h.1 (by decide) hg
 have hrow0:(hdV d[kk].2.2).ownBlock=match d[kk].2.2.1 with|some a=>some a.block|none=>none:=by
  unfold hdV
  cases d[kk].2.2.1<;>rfl
 have hvb:∀g,(hdV d[kk].2.2).ownBlock=some g→blkOf d[kk] g:=fun g e=>by
  rw[hrow0]at e
  rcases hq:d[kk].2.2.1 with _|a
  ·rw[hq]at e;cases e
  ·rw[hq]at e
   cases e
   exact .inr ⟨a,hq,rfl⟩
 obtain⟨g,cap,e,hb,hlt⟩:=hrow.form (by omega)
 have e1:bd=⟨g,0,none⟩:=by cases e;rfl
 have e2:cap=c:=by cases e;rfl
 subst e1 e2
 have ha:(⟨((⟨g,0,none⟩:Addr).add (kk*2)).block,((⟨g,0,none⟩:Addr).add (kk*2)).off+1,none⟩:Addr)=⟨g,kk*2+1,none⟩:=by
  unfold Addr.add
  split
  ·rename_i h0;rw[h0]
  ·simp
 rw[ha]
 have h1:=(hrow.stored (kk*2+1) (.slice A' vn c')).1
 have hput:=itsV_setV hkd ⟨d[kk].1.k,d[kk].1.v++[bv]⟩ (A',vn,c')
 rw[show (Value.slice A' vn c')=hdV (A',vn,c') from rfl,←hput]at h1
 have hkb:∀(q:Nat) (cs:Array Value) (fr:Nat×Nat),U2.heap[q]?=some (Obj.cells cs 5 fr)→(U2.setCell ⟨g,kk*2+1,none⟩ (hdV (A',vn,c'))).heap[q]?=U2.heap[q]?:=fun q cs fr hq=>Below.heap_setCell _ _ _ q fun e=>own_ne_cells hrow hq (by decide) (by rw[e];rfl)
 have hsz:U2.heap.size≤(U2.setCell ⟨g,kk*2+1,none⟩ (hdV (A',vn,c'))).heap.size:=by rw[World.size_setCell];exact Nat.le_refl _
 have hkey:∀i (hi:i<d.length),i≠kk→OwnIt base U2 d[i]:=fun i hi hne=>by
  have ho:=h.2 _ (List.getElem_mem hi)
  have hap:∀q,blkOf d[kk] q→¬blkOf d[i] q:=fun q h1 h2=>by
   rcases Nat.lt_or_gt_of_ne hne with hl|hl
   ·exact List.pairwise_iff_getElem.1 hv.pw i kk hi hkd hl q h2 h1
   ·exact List.pairwise_iff_getElem.1 hv.pw kk i hkd hi hl q h1 h2
  exact⟨ho.1.kept2 hg fun a ha e=>hap _ (hvb _ e) (.inl ⟨a,ha,rfl⟩),ho.2.kept2 hg fun a ha e=>hap _ (hvb _ e) (.inr ⟨a,ha,rfl⟩)⟩
 have hkk:NewB base U2 d[kk].2.1 d[kk].1.k:=(h.2 _ (List.getElem_mem hkd)).1.kept2 hg fun a ha e=>by
  rw[hrow0]at e
  rcases hq:d[kk].2.2.1 with _|b
  ·rw[hq]at e;cases e
  ·rw[hq]at e
   exact hv.kv _ (List.getElem_mem hkd) a b ha hq (Option.some.inj e).symm
 refine⟨⟨h1,fun y hy=>?_⟩,hrow.frozenAt _,?_,hb⟩
 ·obtain⟨i,hi,rfl⟩:=List.mem_iff_getElem.1 hy
  rw[List.length_set]at hi
  rw[List.getElem_set]
  split
  ·exact OwnIt.heap ⟨hkk,NewB.of_own (by rw[u8s_append];exact hown)⟩ hsz hkb
  ·rename_i hne
   exact(hkey i hi fun e=>hne e.symm).heap hsz hkb
 ·obtain⟨ad,e,-,hc⟩:=(Reads.of_own hrow).2 (by omega)
  cases e
  obtain⟨-,g2⟩:=itsV_get d kk hkd
  have:=hc _ _ g2
  rw[show (⟨g,0,none⟩:Addr).add (kk*2+1)=⟨g,kk*2+1,none⟩ by simp[Addr.add]]at this
  exact⟨_,this⟩
/-- How long a plan's values are together. -/
theorem szL_append (a b:List It):szL (a++b)=szL a+szL b:=by unfold szL;rw[List.map_append,List.sum_append]
theorem szL_ring (head:List UInt8) (r:List Pt) (s:Nat):szL (ringIts head r s)=8*r.length:=by
 unfold szL ringIts
 rw[List.map_map]
 show((List.range (chkN r.length)).map fun k=>(chunkB r k).length).sum=_
 rw[chunks_sum]
 unfold chkN
 omega
theorem szL_const {α:Type} (f:α→It) (m:Nat) (h:∀a,(f a).v.length=m):∀l:List α,szL (l.map f)=m*l.length
 |[]=>rfl
 |a::l=>by
  have:=szL_const f m h l
  unfold szL at this ⊢
  rw[List.map_cons,List.map_cons,List.sum_cons,this,h,List.length_cons,Nat.mul_succ]
  omega
theorem szL_par {x:Parc} (h1:x.ring.length≤128) (h2:x.owner.size≤32):szL (parIts x)≤1600:=by
 rw[parIts_eq,szL_append,szL_append,szL_const _ 4 (fun _=>idBy_len _),szL_const _ 0 (fun _=>rfl),edgesOf_len]
 have e:szL (parOP x)=x.owner.size+8*x.ring.length:=by
  unfold parOP
  rw[show (⟨pcHead x.id++[0],x.owner.data.toList⟩:It)::ringIts (pcHead x.id) x.ring 1=[⟨pcHead x.id++[0],x.owner.data.toList⟩]++ringIts (pcHead x.id) x.ring 1 from rfl,szL_append,szL_ring]
  unfold szL
  simp only[List.map_cons,List.map_nil,List.sum_cons,List.sum_nil,Nat.add_zero,Array.length_toList]
  rfl
 rw[e]
 omega
theorem szL_flat:∀ {ps:List Parc},(∀x∈ps,x.ring.length≤128∧x.owner.size≤32)→szL (ps.flatMap parIts)≤1600*ps.length
 |[],_=>by simp[szL]
 |x::ps,h=>by
  rw[List.flatMap_cons,szL_append,List.length_cons]
  have h1:=szL_par (h x (List.mem_cons_self ..)).1 (h x (List.mem_cons_self ..)).2
  have h2:=szL_flat fun y hy=>h y (List.mem_cons_of_mem _ hy)
  omega
end Go.Proofs.YtpkeacnacjnlcaaGreat
