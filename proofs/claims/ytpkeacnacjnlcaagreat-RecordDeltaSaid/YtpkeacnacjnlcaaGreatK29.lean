/- An argument of items opened. -/
import Derived.Test.YtpkeacnacjnlcaaGreatRows
import Derived.Test.YtpkeacnacjnlcaaGreatK09
import Derived.Test.YtpkeacnacjnlcaaGreatK15
import Derived.Test.YtpkeacnacjnlcaaGreatK27
namespace Go.Proofs.YtpkeacnacjnlcaaGreat
open Go.RowKit Go.WideShapes Go.ChangeShapes Go.Deep
theorem bulk_one {H:Type} (d:DataW H):1≤Rows.uptoBulk d:=by
 cases d with
 |lit l=>cases l<;>simp[Rows.uptoBulk]
 |_=>simp[Rows.uptoBulk]
theorem bulk_part {H:Type} {d:DataW H} {l:List (DataW H)} (h:d∈l):Rows.uptoBulk d≤Rows.uptoBulkAll l:=by
 induction l with
 |nil=>cases h
 |cons x r ih=>
  simp only[Rows.uptoBulkAll]
  rcases List.mem_cons.1 h with e|e
  ·subst e;omega
  ·have:=ih e;omega
theorem bulk_append {H:Type} (l r:List (DataW H)):Rows.uptoBulkAll (l++r)=Rows.uptoBulkAll l+Rows.uptoBulkAll r:=by
 induction l with
 |nil=>simp[Rows.uptoBulkAll]
 |cons x l ih=>simp only[List.cons_append,Rows.uptoBulkAll,ih];omega
theorem bulk_length {H:Type} (l:List (DataW H)):l.length≤Rows.uptoBulkAll l:=by
 induction l with
 |nil=>simp[Rows.uptoBulkAll]
 |cons x r ih=>have:=bulk_one x;simp only[Rows.uptoBulkAll,List.length_cons];omega
/-- How long the items' values are together. -/
def valsL (l:List ItH):Nat:=(l.map fun e=>e.1.v.length).sum
section
variable {H:Type} {enc:TypeId×Value→H}
set_option maxRecDepth 100000 in
theorem open_bytes_f {W:World} {fuel:Nat} {cs:List Value} {d:DataW H} {ps:List MemPlace} (hf:DataW.trod enc Tryz.prog W 0 (fun _=>true) true fuel 50 cs=some (d,ps)) (hw:∀n∈d.weights Tryz.prog 50,n≤reachBytes):
 ∃(xs:List UInt8) (A:Option Addr) (cap:Nat),cs=[.slice A xs.length cap]∧Reads W W.heap.size 1 A xs.length (u8s xs)∧xs.length≤140737488351232∧xs.length≤cap∧cap≤9223372036854775807∧xs.length≤Rows.uptoBulk d:=by
 rcases open_ints Tryz.underlying50 Tryz.underlying5 Tryz.cells_u8 hf with ⟨hcs,hx⟩|⟨a,len,cap,zs,hcs,_,hl,hm,hz,hx,hcell,hwz⟩
 ·exact⟨[],none,0,hcs,Reads.none_,by simp,by simp,by simp,by simp⟩
 ·simp only[Prod.mk.injEq]at hx
  have hzl:zs.length=cap:=by simpa using hz
  have hlen:((zs.take len).map fun z=>UInt8.ofNat z.toNat).length=len:=by simp;omega
  refine⟨(zs.take len).map fun z=>UInt8.ofNat z.toNat,some a,cap,by rw[hlen];exact hcs,?_,?_,by rw[hlen];exact hl,hm,?_⟩
  ·rw[hlen]
   refine⟨by rw[u8s_length,hlen];omega,fun hn=>⟨a,rfl,?_,?_⟩⟩
   ·have:=hcell 0 (by omega)
    have:=cell_lt this
    rwa [block_of_add]at this
   ·intro j u hu
    obtain⟨hj,rfl⟩:=u8s_get hu
    rw[hlen]at hj
    rw[hcell j (by omega)]
    have hg:zs.getD j 0=zs[j]'(by omega):=by rw[List.getD_eq_getElem?_getD,List.getElem?_eq_getElem (by omega)];rfl
    rw[hg]
    simp only[List.getElem_map,List.getElem_take]
    rw[wf_u8 (hwz _ (List.getElem_mem _))]
  ·rw[hlen]
   have hb:=hw _ (by rw[hx.1];simp only[DataW.weights,Tryz.underlying50];exact List.mem_cons_self)
   rw[Tryz.bytes_u8]at hb
   simp only[lits,List.length_map,List.length_take,List.length_drop,reachBytes]at hb
   omega
  ·rw[hlen,hx.1]
   simp only[Rows.uptoBulk]
   refine Nat.le_trans ?_ (Nat.le_trans (bulk_length (lits IntKind.u8 (List.take len zs))) (by omega))
   simp[lits]
   omega
/-- How long an item's parts are, and the row of them. -/
def ItLen (e:ItH) (m:Nat):Prop:=e.1.k.length≤m∧e.1.v.length≤m
set_option maxRecDepth 100000 in
theorem open_items_f {W:World} {fuel:Nat} {cs:List Value} {d:DataW H} {ps:List MemPlace} (hf:DataW.trod enc Tryz.prog W 0 (fun _=>true) true fuel 43 cs=some (d,ps)) (hw:∀n∈d.weights Tryz.prog 43,n≤reachBytes):
 ∃(xs:List ItH) (A:Option Addr) (cap:Nat),cs=[.slice A xs.length cap]∧ItsAt W W.heap.size A xs.length cap xs∧(∀e∈xs,ItLen e 140737488351232)∧valsL xs≤Rows.uptoBulk d:=by
 rcases open_slice_fields Tryz.underlying43 Tryz.underlying52 (by kernel_rfl) (by kernel_rfl) hf with ⟨hcs,hx⟩|⟨a,len,cap,m,D,Pl,hcs,_,hl,hm,hmm,hx,hcell⟩
 ·exact⟨[],none,0,hcs,⟨Reads.none_,fun _ h=>absurd h (by simp),Nat.zero_le _,by decide⟩,by simp,Nat.zero_le _⟩
 ·simp only[Prod.mk.injEq]at hx
  have hlm:len≤m:=by rw[hmm];split<;>omega
  have hsl:d.weights Tryz.prog 43=(((List.range len).map D).length+((List.range (m-len)).map fun j=>D (len+j)).length)*Tryz.prog.bytesOf 52::(DataW.weightsAll Tryz.prog 52 ((List.range len).map D)++DataW.weightsAll Tryz.prog 52 ((List.range (m-len)).map fun j=>D (len+j))):=by
   rw[hx.1]
   simp[DataW.weights,Tryz.underlying43]
  have each:∀i,i<len→∃x:ItH,(W.cell? (a.add (i*2))=some (hdV x.2.1)∧W.cell? (a.add (i*2+1))=some (hdV x.2.2))∧RdIt W W.heap.size x∧ItLen x 140737488351232∧x.1.v.length≤Rows.uptoBulk (D i):=by
   intro i hi
   obtain⟨ys,n,hD,-,hyl,hj⟩:=hcell i (by omega)
   obtain⟨v0,y0,c0,g0,t0⟩:=hj 0 _ rfl
   obtain⟨v1,y1,c1,g1,t1⟩:=hj 1 _ rfl
   have hwr:∀(j:Nat) (y:DataW H×List MemPlace),ys[j]?=some y→j<2→∀k∈y.1.weights Tryz.prog 50,k≤reachBytes:=by
    intro j y hy hj2 k hk
    refine hw k ?_
    rw[hsl]
    refine List.mem_cons_of_mem _ (List.mem_append_left _ (weights_all_mem (d:=D i) (List.mem_map.2 ⟨i,List.mem_range.2 hi,rfl⟩) k ?_))
    rw[hD]
    have he:(DataW.agg (ys.map (·.1)):DataW H).weights Tryz.prog 52=DataW.weightsEach Tryz.prog [50,50] (ys.map (·.1)):=by
     simp[DataW.weights,Tryz.underlying52]
    rw[he]
    rcases(show j=0∨j=1 by omega)with rfl|rfl
    ·exact DataW.weights_mem_each (j:=0) rfl (by rw[List.getElem?_map,hy];rfl) k hk
    ·exact DataW.weights_mem_each (j:=1) rfl (by rw[List.getElem?_map,hy];rfl) k hk
   have w0:=hwr 0 y0 g0 (by decide)
   have w1:=hwr 1 y1 g1 (by decide)
   obtain⟨y0a,y0b⟩:=y0
   obtain⟨y1a,y1b⟩:=y1
   obtain⟨ks,A0,k0,e0,r0,n0,l0,m0,-⟩:=open_bytes_f t0 w0
   obtain⟨vs,A1,k1,e1,r1,n1,l1,m1,q1⟩:=open_bytes_f t1 w1
   simp at e0 e1
   rw[e0]at c0
   rw[e1]at c1
   exact⟨(⟨ks,vs⟩,(A0,ks.length,k0),(A1,vs.length,k1)),⟨c0,c1⟩,⟨⟨r0,l0,m0⟩,⟨r1,l1,m1⟩⟩,⟨n0,n1⟩,by
    rw[hD]
    simp only[Rows.uptoBulk]
    have:=bulk_part (List.mem_of_getElem? (show (ys.map (·.1))[1]?=some y1a by rw[List.getElem?_map,g1];rfl))
    show vs.length≤_
    omega⟩
  have hall:∃f:Nat→ItH,∀i,i<len→(W.cell? (a.add (i*2))=some (hdV (f i).2.1)∧W.cell? (a.add (i*2+1))=some (hdV (f i).2.2))∧RdIt W W.heap.size (f i)∧ItLen (f i) 140737488351232∧(f i).1.v.length≤Rows.uptoBulk (D i):=by
   refine⟨fun i=>if hi:i<len then(each i hi).choose else(⟨[],[]⟩,(none,0,0),(none,0,0)),fun i hi=>?_⟩
   simp only[dif_pos hi]
   exact(each i hi).choose_spec
  obtain⟨f,hff⟩:=hall
  have hlen:((List.range len).map f).length=len:=by simp
  refine⟨(List.range len).map f,some a,cap,by rw[hlen];exact hcs,⟨⟨itsV_length _,fun hn=>⟨a,rfl,?_,?_⟩⟩,fun e he=>?_,by rw[hlen];exact hl,hm⟩,fun e he=>?_,?_⟩
  ·rw[hlen]at hn
   have:=cell_lt (hff 0 hn).1.1
   rwa [block_of_add]at this
  ·intro j u hu
   have hj:j<((List.range len).map f).length*2:=by rw[←itsV_length];exact(List.getElem?_eq_some_iff.1 hu).1
   have hj2:j/2<((List.range len).map f).length:=by omega
   have hg:=itsV_get _ (j/2) hj2
   have hfj:=(hff (j/2) (by rw[←hlen];exact hj2)).1
   simp only[List.getElem_map,List.getElem_range]at hg
   rcases(show j%2=0∨j%2=1 by omega)with hm2|hm2
   ·have e:j/2*2=j:=by omega
    rw[e]at hg hfj
    rw[hfj.1,←hu,hg.1]
    rfl
   ·have e:j/2*2+1=j:=by omega
    rw[e]at hg hfj
    rw[hfj.2,←hu,hg.2]
    rfl
  ·obtain⟨i,hi,rfl⟩:=List.mem_map.1 he
   exact(hff i (List.mem_range.1 hi)).2.1
  ·obtain⟨i,hi,rfl⟩:=List.mem_map.1 he
   exact(hff i (List.mem_range.1 hi)).2.2.1
  ·have hs:∀k,k≤len→valsL ((List.range k).map f)≤Rows.uptoBulkAll ((List.range k).map D):=by
    intro k
    induction k with
    |zero=>intro _;exact Nat.zero_le _
    |succ k ih=>
     intro hk
     have h1:=ih (by omega)
     have h2:=(hff k (by omega)).2.2.2
     unfold valsL at *
     rw[List.range_succ,List.map_append,List.map_append,List.map_append,List.sum_append,bulk_append]
     simp only[List.map_cons,List.map_nil,List.sum_cons,List.sum_nil,Rows.uptoBulkAll]
     omega
   refine Nat.le_trans (hs len (Nat.le_refl _)) ?_
   rw[hx.1]
   simp only[Rows.uptoBulk]
   omega
set_option maxRecDepth 100000 in
theorem open_items {W:World} {base:Nat} {v:Value} {d:DataW H} {ps:List MemPlace} (hv:Value.okWide Tryz.prog W .any base 43 v) (h:DataW.Trod enc Tryz.prog W 0 (fun _=>true) true 43 v d ps) (hw:∀n∈d.weights Tryz.prog 43,n≤reachBytes):
 ∃(xs:List ItH) (A:Option Addr) (cap:Nat),v= .slice A xs.length cap∧ItsAt W W.heap.size A xs.length cap xs∧(∀e∈xs,ItLen e 140737488351232)∧valsL xs≤Rows.uptoBulk d:=by
 obtain⟨a0,len,cap,rfl⟩:=okWide_slice Tryz.underlying43 hv
 obtain⟨fuel,hf⟩:=h
 obtain⟨xs,A,ck,e,h1,h2⟩:=open_items_f hf hw
 simp[Value.cells]at e
 obtain⟨rfl,rfl,rfl⟩:=e
 exact⟨xs,_,_,rfl,h1,h2⟩
end
end Go.Proofs.YtpkeacnacjnlcaaGreat
