/- An argument of items opened; record.values: the last value of each key, as a map; slices.SortFunc of items, by their keys: bytes.Compare, record.byItem, laid off the shelf; bytes.Equal, record.same: the walks; plan.Insert: the walk; what it makes of a sound plan; Rings stored into an own plan; ref02.Least at longer rings; least twice is least; merestonelaw14.find, rising: the walks; slices.Values, AppendSeq, Collect of items: the walks. -/
import Derived.Test.YtpkeacnacjnlcaaGreatRows
import Derived.Test.YtpkeacnacjnlcaaGreatK01
import Derived.Test.YtpkeacnacjnlcaaGreatK06
import Derived.Test.YtpkeacnacjnlcaaGreatK08
import Derived.Test.YtpkeacnacjnlcaaGreatK11
import Derived.Test.YtpkeacnacjnlcaaGreatK12
import Derived.Test.YtpkeacnacjnlcaaGreatK17
namespace Go.Proofs.YtpkeacnacjnlcaaGreat
open Go.RowKit Go.WideShapes Go.ChangeShapes Go.Deep
theorem bulk_one {H:Type} (d:DataW H):1≤Rows.uptoBulk d:=by
 cases d with
 |lit l=>cases l<;>simp[Rows.uptoBulk]
 |_=>simp[Rows.uptoBulk]
theorem bulk_part {H:Type} {d:DataW H} {l:List (DataW H)} (h:d∈l):Rows.uptoBulk d≤Rows.uptoBulkAll l:=by
 induction l with
 |nil=>cases h
 |cons x r ih=>
  simp only[Rows.uptoBulkAll]
  rcases List.mem_cons.1 h with e|e
  ·subst e;omega
  ·have:=ih e;omega
theorem bulk_append {H:Type} (l r:List (DataW H)):Rows.uptoBulkAll (l++r)=Rows.uptoBulkAll l+Rows.uptoBulkAll r:=by
 induction l with
 |nil=>simp[Rows.uptoBulkAll]
 |cons x l ih=>simp only[List.cons_append,Rows.uptoBulkAll,ih];omega
theorem bulk_length {H:Type} (l:List (DataW H)):l.length≤Rows.uptoBulkAll l:=by
 induction l with
 |nil=>simp[Rows.uptoBulkAll]
 |cons x r ih=>have:=bulk_one x;simp only[Rows.uptoBulkAll,List.length_cons];omega
/-- How long the items' values are together. -/
def valsL (l:List ItH):Nat:=(l.map fun e=>e.1.v.length).sum
section
variable {H:Type} {enc:TypeId×Value→H}
set_option maxRecDepth 100000 in
theorem open_bytes_f {W:World} {fuel:Nat} {cs:List Value} {d:DataW H} {ps:List MemPlace} (hf:DataW.trod enc Tryz.prog W 0 (fun _=>true) true fuel 50 cs=some (d,ps)) (hw:∀n∈d.weights Tryz.prog 50,n≤reachBytes):
 ∃(xs:List UInt8) (A:Option Addr) (cap:Nat),cs=[.slice A xs.length cap]∧Reads W W.heap.size 1 A xs.length (u8s xs)∧xs.length≤140737488351232∧xs.length≤cap∧cap≤9223372036854775807∧xs.length≤Rows.uptoBulk d:=by
 rcases open_ints Tryz.underlying50 Tryz.underlying5 Tryz.cells_u8 hf with ⟨hcs,hx⟩|⟨a,len,cap,zs,hcs,_,hl,hm,hz,hx,hcell,hwz⟩
 ·exact⟨[],none,0,hcs,Reads.none_,by simp,by simp,by simp,by simp⟩
 ·simp only[Prod.mk.injEq]at hx
  have hzl:zs.length=cap:=by simpa using hz
  have hlen:((zs.take len).map fun z=>UInt8.ofNat z.toNat).length=len:=by simp;omega
  refine⟨(zs.take len).map fun z=>UInt8.ofNat z.toNat,some a,cap,by rw[hlen];exact hcs,?_,?_,by rw[hlen];exact hl,hm,?_⟩
  ·rw[hlen]
   refine⟨by rw[u8s_length,hlen];omega,fun hn=>⟨a,rfl,?_,?_⟩⟩
   ·have:=hcell 0 (by omega)
    have:=cell_lt this
    rwa [block_of_add]at this
   ·intro j u hu
    obtain⟨hj,rfl⟩:=u8s_get hu
    rw[hlen]at hj
    rw[hcell j (by omega)]
    have hg:zs.getD j 0=zs[j]'(by omega):=by rw[List.getD_eq_getElem?_getD,List.getElem?_eq_getElem (by omega)];rfl
    rw[hg]
    simp only[List.getElem_map,List.getElem_take]
    rw[wf_u8 (hwz _ (List.getElem_mem _))]
  ·rw[hlen]
   have hb:=hw _ (by rw[hx.1];simp only[DataW.weights,Tryz.underlying50];exact List.mem_cons_self)
   rw[Tryz.bytes_u8]at hb
   simp only[lits,List.length_map,List.length_take,List.length_drop,reachBytes]at hb
   omega
  ·rw[hlen,hx.1]
   simp only[Rows.uptoBulk]
   refine Nat.le_trans ?_ (Nat.le_trans (bulk_length (lits IntKind.u8 (List.take len zs))) (by omega))
   simp[lits]
   omega
/-- How long an item's parts are, and the row of them. -/
def ItLen (e:ItH) (m:Nat):Prop:=e.1.k.length≤m∧e.1.v.length≤m
set_option maxRecDepth 100000 in
theorem open_items_f {W:World} {fuel:Nat} {cs:List Value} {d:DataW H} {ps:List MemPlace} (hf:DataW.trod enc Tryz.prog W 0 (fun _=>true) true fuel 43 cs=some (d,ps)) (hw:∀n∈d.weights Tryz.prog 43,n≤reachBytes):
 ∃(xs:List ItH) (A:Option Addr) (cap:Nat),cs=[.slice A xs.length cap]∧ItsAt W W.heap.size A xs.length cap xs∧(∀e∈xs,ItLen e 140737488351232)∧valsL xs≤Rows.uptoBulk d:=by
 rcases open_slice_fields Tryz.underlying43 Tryz.underlying52 (by kernel_rfl) (by kernel_rfl) hf with ⟨hcs,hx⟩|⟨a,len,cap,m,D,Pl,hcs,_,hl,hm,hmm,hx,hcell⟩
 ·exact⟨[],none,0,hcs,⟨Reads.none_,fun _ h=>absurd h (by simp),Nat.zero_le _,by decide⟩,by simp,Nat.zero_le _⟩
 ·simp only[Prod.mk.injEq]at hx
  have hlm:len≤m:=by rw[hmm];split<;>omega
  have hsl:d.weights Tryz.prog 43=(((List.range len).map D).length+((List.range (m-len)).map fun j=>D (len+j)).length)*Tryz.prog.bytesOf 52::(DataW.weightsAll Tryz.prog 52 ((List.range len).map D)++DataW.weightsAll Tryz.prog 52 ((List.range (m-len)).map fun j=>D (len+j))):=by
   rw[hx.1]
   simp[DataW.weights,Tryz.underlying43]
  have each:∀i,i<len→∃x:ItH,(W.cell? (a.add (i*2))=some (hdV x.2.1)∧W.cell? (a.add (i*2+1))=some (hdV x.2.2))∧RdIt W W.heap.size x∧ItLen x 140737488351232∧x.1.v.length≤Rows.uptoBulk (D i):=by
   intro i hi
   obtain⟨ys,n,hD,-,hyl,hj⟩:=hcell i (by omega)
   obtain⟨v0,y0,c0,g0,t0⟩:=hj 0 _ rfl
   obtain⟨v1,y1,c1,g1,t1⟩:=hj 1 _ rfl
   have hwr:∀(j:Nat) (y:DataW H×List MemPlace),ys[j]?=some y→j<2→∀k∈y.1.weights Tryz.prog 50,k≤reachBytes:=by
    intro j y hy hj2 k hk
    refine hw k ?_
    rw[hsl]
    refine List.mem_cons_of_mem _ (List.mem_append_left _ (weights_all_mem (d:=D i) (List.mem_map.2 ⟨i,List.mem_range.2 hi,rfl⟩) k ?_))
    rw[hD]
    have he:(DataW.agg (ys.map (·.1)):DataW H).weights Tryz.prog 52=DataW.weightsEach Tryz.prog [50,50] (ys.map (·.1)):=by
     simp[DataW.weights,Tryz.underlying52]
    rw[he]
    rcases(show j=0∨j=1 by omega)with rfl|rfl
    ·exact DataW.weights_mem_each (j:=0) rfl (by rw[List.getElem?_map,hy];rfl) k hk
    ·exact DataW.weights_mem_each (j:=1) rfl (by rw[List.getElem?_map,hy];rfl) k hk
   have w0:=hwr 0 y0 g0 (by decide)
   have w1:=hwr 1 y1 g1 (by decide)
   obtain⟨y0a,y0b⟩:=y0
   obtain⟨y1a,y1b⟩:=y1
   obtain⟨ks,A0,k0,e0,r0,n0,l0,m0,-⟩:=open_bytes_f t0 w0
   obtain⟨vs,A1,k1,e1,r1,n1,l1,m1,q1⟩:=open_bytes_f t1 w1
   simp at e0 e1
   rw[e0]at c0
   rw[e1]at c1
   exact⟨(⟨ks,vs⟩,(A0,ks.length,k0),(A1,vs.length,k1)),⟨c0,c1⟩,⟨⟨r0,l0,m0⟩,⟨r1,l1,m1⟩⟩,⟨n0,n1⟩,by
    rw[hD]
    simp only[Rows.uptoBulk]
    have:=bulk_part (List.mem_of_getElem? (show (ys.map (·.1))[1]?=some y1a by rw[List.getElem?_map,g1];rfl))
    show vs.length≤_
    omega⟩
  have hall:∃f:Nat→ItH,∀i,i<len→(W.cell? (a.add (i*2))=some (hdV (f i).2.1)∧W.cell? (a.add (i*2+1))=some (hdV (f i).2.2))∧RdIt W W.heap.size (f i)∧ItLen (f i) 140737488351232∧(f i).1.v.length≤Rows.uptoBulk (D i):=by
   refine⟨fun i=>if hi:i<len then(each i hi).choose else(⟨[],[]⟩,(none,0,0),(none,0,0)),fun i hi=>?_⟩
   simp only[dif_pos hi]
   exact(each i hi).choose_spec
  obtain⟨f,hff⟩:=hall
  have hlen:((List.range len).map f).length=len:=by simp
  refine⟨(List.range len).map f,some a,cap,by rw[hlen];exact hcs,⟨⟨itsV_length _,fun hn=>⟨a,rfl,?_,?_⟩⟩,fun e he=>?_,by rw[hlen];exact hl,hm⟩,fun e he=>?_,?_⟩
  ·rw[hlen]at hn
   have:=cell_lt (hff 0 hn).1.1
   rwa [block_of_add]at this
  ·intro j u hu
   have hj:j<((List.range len).map f).length*2:=by rw[←itsV_length];exact(List.getElem?_eq_some_iff.1 hu).1
   have hj2:j/2<((List.range len).map f).length:=by omega
   have hg:=itsV_get _ (j/2) hj2
   have hfj:=(hff (j/2) (by rw[←hlen];exact hj2)).1
   simp only[List.getElem_map,List.getElem_range]at hg
   rcases(show j%2=0∨j%2=1 by omega)with hm2|hm2
   ·have e:j/2*2=j:=by omega
    rw[e]at hg hfj
    rw[hfj.1,←hu,hg.1]
    rfl
   ·have e:j/2*2+1=j:=by omega
    rw[e]at hg hfj
    rw[hfj.2,←hu,hg.2]
    rfl
  ·obtain⟨i,hi,rfl⟩:=List.mem_map.1 he
   exact(hff i (List.mem_range.1 hi)).2.1
  ·obtain⟨i,hi,rfl⟩:=List.mem_map.1 he
   exact(hff i (List.mem_range.1 hi)).2.2.1
  ·have hs:∀k,k≤len→valsL ((List.range k).map f)≤Rows.uptoBulkAll ((List.range k).map D):=by
    intro k
    induction k with
    |zero=>intro _;exact Nat.zero_le _
    |succ k ih=>
     intro hk
     have h1:=ih (by omega)
     have h2:=(hff k (by omega)).2.2.2
     unfold valsL at *
     rw[List.range_succ,List.map_append,List.map_append,List.map_append,List.sum_append,bulk_append]
     simp only[List.map_cons,List.map_nil,List.sum_cons,List.sum_nil,Rows.uptoBulkAll]
     omega
   refine Nat.le_trans (hs len (Nat.le_refl _)) ?_
   rw[hx.1]
   simp only[Rows.uptoBulk]
   omega
set_option maxRecDepth 100000 in
theorem open_items {W:World} {base:Nat} {v:Value} {d:DataW H} {ps:List MemPlace} (hv:Value.okWide Tryz.prog W .any base 43 v) (h:DataW.Trod enc Tryz.prog W 0 (fun _=>true) true 43 v d ps) (hw:∀n∈d.weights Tryz.prog 43,n≤reachBytes):
 ∃(xs:List ItH) (A:Option Addr) (cap:Nat),v= .slice A xs.length cap∧ItsAt W W.heap.size A xs.length cap xs∧(∀e∈xs,ItLen e 140737488351232)∧valsL xs≤Rows.uptoBulk d:=by
 obtain⟨a0,len,cap,rfl⟩:=okWide_slice Tryz.underlying43 hv
 obtain⟨fuel,hf⟩:=h
 obtain⟨xs,A,ck,e,h1,h2⟩:=open_items_f hf hw
 simp[Value.cells]at e
 obtain⟨rfl,rfl,rfl⟩:=e
 exact⟨xs,_,_,rfl,h1,h2⟩
end
end Go.Proofs.YtpkeacnacjnlcaaGreat
namespace Go.Proofs.YtpkeacnacjnlcaaGreat
open Go.RowKit Go.Lib
/-- The last of the first k items that has a key. -/
def lastH (d:List ItH) (key:List UInt8):Nat→Option ItH
 |0=>none
 |n+1=>match d[n]? with
  |some e=>if e.1.k=key then some e else lastH d key n
  |none=>lastH d key n
theorem lastH_step {d:List ItH} {k:Nat} (h:k<d.length) (key:List UInt8):lastH d key (k+1)=if d[k].1.k=key then some d[k]else lastH d key k:=by
 show(match d[k]? with|some e=>if e.1.k=key then some e else lastH d key k|none=>lastH d key k)=_
 rw[List.getElem?_eq_getElem h]
theorem lastH_mem {d:List ItH} {key:List UInt8}:∀ {k:Nat} {e:ItH},lastH d key k=some e→e∈d∧e.1.k=key
 |0,e,h=>by cases h
 |k+1,e,h=>by
  by_cases hk:k<d.length
  ·rw[lastH_step hk]at h
   by_cases hq:d[k].1.k=key
   ·rw[if_pos hq]at h
    cases h
    exact⟨List.getElem_mem hk,hq⟩
   ·rw[if_neg hq]at h
    exact lastH_mem h
  ·have:lastH d key (k+1)=lastH d key k:=by
    show(match d[k]? with|some e=>if e.1.k=key then some e else lastH d key k|none=>lastH d key k)=_
    rw[List.getElem?_eq_none (by omega)]
   rw[this]at h
   exact lastH_mem h
theorem lastH_find {d:List ItH} {key:List UInt8}:∀k,k≤d.length→(lastH d key k).map (fun e=>e.1)=if findN (d.map (·.1)) key k<0 then none else some (itAt (d.map (·.1)) (findN (d.map (·.1)) key k).toNat)
 |0,_=>rfl
 |k+1,hk=>by
  have h:k<d.length:=by omega
  have e1:itAt (d.map (·.1)) k=d[k].1:=by rw[itAt_lt (by simpa using h)];simp
  rw[lastH_step h]
  show _=if (if (itAt (d.map (·.1)) k).k=key then(k:Int)else findN (d.map (·.1)) key k)<0 then none else some (itAt (d.map (·.1)) (if (itAt (d.map (·.1)) k).k=key then(k:Int)else findN (d.map (·.1)) key k).toNat)
  rw[e1]
  by_cases hq:d[k].1.k=key
  ·rw[if_pos hq,if_pos hq,if_neg (by omega),Int.toNat_natCast,e1]
   rfl
  ·rw[if_neg hq,if_neg hq]
   exact lastH_find k (by omega)
theorem lastH_lastV (d:List ItH) (key:List UInt8):(lastH d key d.length).map (fun e=>e.1.v)=lastV (d.map (·.1)) key:=by
 have h:=lastH_find (d:=d) (key:=key) d.length (Nat.le_refl _)
 unfold lastV findI
 rw[List.length_map]
 have e:(lastH d key d.length).map (fun e=>e.1.v)=((lastH d key d.length).map (fun e=>e.1)).map (·.v):=by rw[Option.map_map];rfl
 rw[e,h]
 split<;>rfl
/-- The map of the first k items. -/
structure ValM (d:List ItH) (k:Nat) (L:List (List UInt8×Value)):Prop where
 keys:(L.map (·.1)).Nodup
 at_:∀key,look L key=(lastH d key k).map fun e=>hdV e.2.2
 few:L.length≤k
end Go.Proofs.YtpkeacnacjnlcaaGreat
namespace Go.Proofs.YtpkeacnacjnlcaaGreat
open Go.Shelf
def sortIt_ren:Go.Shelf.Ren:=⟨fun|6=>43|15=>85|14=>84|28=>130|29=>131|20=>122|21=>123|22=>124|23=>125|24=>126|25=>127|26=>128|27=>129|46=>167|47=>168|48=>169|49=>170|50=>171|57=>192|n=>n,fun|22=>43|24=>52|25=>85|3=>3|39=>127|0=>0|53=>121|55=>35|4=>4|46=>166|45=>165|50=>170|5=>5|9=>9|66=>198|70=>202|76=>217|77=>218|n=>n,fun|n=>n⟩
theorem sortIt:Go.Proofs.SlLaysF0.n6 Tryz.prog sortIt_ren:={
 mixed:=by kernel_rfl
 f6:=⟨Tryz.f43.name,by decide,Tryz.func43.trans (congrArg some (by kernel_rfl))⟩
 f14:=⟨Tryz.f84.name,by decide,Tryz.func84.trans (congrArg some (by kernel_rfl))⟩
 f15:=Tryz.func85.trans (congrArg some (by kernel_rfl))
 f20:=⟨Tryz.f122.name,by decide,Tryz.func122.trans (congrArg some (by kernel_rfl))⟩
 f21:=⟨Tryz.f123.name,by decide,Tryz.func123.trans (congrArg some (by kernel_rfl))⟩
 f22:=⟨Tryz.f124.name,by decide,Tryz.func124.trans (congrArg some (by kernel_rfl))⟩
 f23:=⟨Tryz.f125.name,by decide,Tryz.func125.trans (congrArg some (by kernel_rfl))⟩
 f24:=⟨Tryz.f126.name,by decide,Tryz.func126.trans (congrArg some (by kernel_rfl))⟩
 f25:=⟨Tryz.f127.name,by decide,Tryz.func127.trans (congrArg some (by kernel_rfl))⟩
 f26:=⟨Tryz.f128.name,by decide,Tryz.func128.trans (congrArg some (by kernel_rfl))⟩
 f27:=⟨Tryz.f129.name,by decide,Tryz.func129.trans (congrArg some (by kernel_rfl))⟩
 f28:=Tryz.func130.trans (congrArg some (by kernel_rfl))
 f29:=Tryz.func131.trans (congrArg some (by kernel_rfl))
 f46:=⟨Tryz.f167.name,by decide,Tryz.func167.trans (congrArg some (by kernel_rfl))⟩
 f47:=Tryz.func168.trans (congrArg some (by kernel_rfl))
 f48:=Tryz.func169.trans (congrArg some (by kernel_rfl))
 f49:=⟨Tryz.f170.name,by decide,Tryz.func170.trans (congrArg some (by kernel_rfl))⟩
 f50:=⟨Tryz.f171.name,by decide,Tryz.func171.trans (congrArg some (by kernel_rfl))⟩
 f57:=⟨Tryz.f192.name,by decide,Tryz.func192.trans (congrArg some (by kernel_rfl))⟩
 t0:=Tryz.underlying0
 a0:=Tryz.isAgg0
 z0:=Tryz.sizeOf0
 v0:=Tryz.zeroValue0
 t3:=Tryz.underlying3
 a3:=Tryz.isAgg3
 z3:=Tryz.sizeOf3
 v3:=Tryz.zeroValue3
 t4:=Tryz.underlying4
 a4:=Tryz.isAgg4
 z4:=Tryz.sizeOf4
 v4:=Tryz.zeroValue4
 t5:=Tryz.underlying5
 a5:=Tryz.isAgg5
 z5:=Tryz.sizeOf5
 v5:=Tryz.zeroValue5
 t9:=Tryz.underlying9
 a9:=Tryz.isAgg9
 z9:=Tryz.sizeOf9
 v9:=Tryz.zeroValue9
 t22:=Tryz.underlying43
 a22:=Tryz.isAgg43
 z22:=Tryz.sizeOf43
 v22:=Tryz.zeroValue43
 t25:=Tryz.underlying85
 a25:=Tryz.isAgg85
 z25:=Tryz.sizeOf85
 v25:=Tryz.zeroValue85
 t39:=Tryz.underlying127
 a39:=Tryz.isAgg127
 z39:=Tryz.sizeOf127
 v39:=Tryz.zeroValue127
 t45:=Tryz.underlying165
 a45:=Tryz.isAgg165
 z45:=Tryz.sizeOf165
 v45:=Tryz.zeroValue165
 t46:=Tryz.underlying166
 a46:=Tryz.isAgg166
 z46:=Tryz.sizeOf166
 v46:=Tryz.zeroValue166
 t50:=Tryz.underlying170
 a50:=Tryz.isAgg170
 z50:=Tryz.sizeOf170
 v50:=Tryz.zeroValue170
 t53:=Tryz.underlying121
 a53:=Tryz.isAgg121
 z53:=Tryz.sizeOf121
 v53:=Tryz.zeroValue121
 t55:=Tryz.underlying35
 a55:=Tryz.isAgg35
 z55:=Tryz.sizeOf35
 v55:=Tryz.zeroValue35
 t66:=Tryz.underlying198
 a66:=Tryz.isAgg198
 z66:=Tryz.sizeOf198
 v66:=Tryz.zeroValue198
 t70:=Tryz.underlying202
 a70:=Tryz.isAgg202
 z70:=Tryz.sizeOf202
 v70:=Tryz.zeroValue202
 t76:=Tryz.underlying217
 a76:=Tryz.isAgg217
 z76:=Tryz.sizeOf217
 v76:=Tryz.zeroValue217
 t77:=Tryz.underlying218
 a77:=Tryz.isAgg218
 z77:=Tryz.sizeOf218
 v77:=Tryz.zeroValue218 }
end Go.Proofs.YtpkeacnacjnlcaaGreat
namespace Go.Proofs.YtpkeacnacjnlcaaGreat
open Go.RowKit Go.Shelf Go.Sort Go.Lib
theorem run_loadBytes {P:Program} (W:World):∀(n:Nat) (a:Addr) (acc:ByteArray) (xs:List UInt8),xs.length=n→(∀k (h:k<xs.length),W.cell? (a.add k)=some (.int .u8 (xs[k].toNat:Int)))→(Extern.Bytes.loadBytes a n acc).run P W= .ok ⟨acc.data++xs.toArray⟩ W:=by
 intro n
 induction n with
 |zero=>
  intro a acc xs hl h
  obtain rfl:=List.eq_nil_of_length_eq_zero hl
  simp[Extern.Bytes.loadBytes]
 |succ n ih=>
  intro a acc xs hl h
  rcases xs with _|⟨x,xs⟩
  ·simp at hl
  ·have h0:=h 0 (by simp)
   simp only[List.getElem_cons_zero]at h0
   have e0:a.add 0=a:=by simp[Addr.add]
   rw[e0]at h0
   have hr:=ih (a.add 1) (acc.push x) xs (by simpa using hl) (fun k hk=>by
    have:=h (k+1) (by simpa using hk)
    rw[add_of_add,Nat.add_comm]
    simpa using this)
   unfold Extern.Bytes.loadBytes
   simp[h0,Sem.run_bind,Result.andThen]
   rw[hr]
   simp
theorem run_bytesR {P:Program} {W:World} {B n c:Nat} {A:Option Addr} {xs:List UInt8} (h:Reads W B 1 A n (u8s xs)):(Extern.Bytes.bytesOf (.slice A n c)).run P W= .ok ⟨xs.toArray⟩ W:=by
 have hl:=h.len8
 rcases A with _|a
 ·rcases Nat.eq_zero_or_pos n with h0|h0
  ·subst h0
   obtain rfl:=List.eq_nil_of_length_eq_zero hl
   simp[Extern.Bytes.bytesOf]
   rfl
  ·obtain⟨ad,e,-⟩:=h.2 h0
   cases e
 ·unfold Extern.Bytes.bytesOf
  rw[run_loadBytes W n a .empty xs hl fun k hk=>by
   obtain⟨ad,e,-,hc⟩:=h.2 (by omega)
   cases e
   exact hc k _ (by unfold u8s;rw[List.getElem?_map,List.getElem?_eq_getElem hk];rfl)]
  simp
theorem run_cmpB {P:Program} {W:World} {B n c B' n' c':Nat} {A A':Option Addr} {xs ys:List UInt8} (h:Reads W B 1 A n (u8s xs)) (h':Reads W B' 1 A' n' (u8s ys)):(Extern.BytealgCompare.compare #[.slice A n c,.slice A' n' c']).run P W= .ok (.int .i64 (compareBytes xs ys)) W:=by
 change Sem.run P (do pure (goInt (Extern.BytealgCompare.cmp (←Extern.Bytes.bytesOf (.slice A n c)) (←Extern.Bytes.bytesOf (.slice A' n' c'))))) W=_
 simp only[Sem.run_bind,Sem.run_pure,run_bytesR h,run_bytesR h',Result.andThen]
 rw[cmp_eq]
 rfl
set_option maxRecDepth 100000 in
theorem compare8_any (xs ys:List UInt8) (A A':Option Addr) (n c n' c' B B':Nat) (W:World) (h:Reads W B 1 A n (u8s xs)) (h':Reads W B' 1 A' n' (u8s ys)):
 Calls Tryz.prog 46 #[.slice A n c,.slice A' n' c'] W fun e w'=>e= .returned (.int .i64 (compareBytes xs ys))∧w'=W:=by
 go_enter Tryz.func46,Tryz.ntmps46
 go_wp2
 rw[run_callFunc_extern Tryz.func87 (by kernel_rfl) (by kernel_rfl) (by kernel_rfl) (e:=Extern.BytealgCompare.compare) (by kernel_rfl),run_cmpB h h']
 simp only[Result.andThen]
 rw[Oper.upon_value]
 go_wp2
 go_ret
 exact⟨rfl,rfl⟩
set_option maxRecDepth 100000 in
set_option maxHeartbeats 1600000 in
theorem byItem_any (x y:It) (A A' Av Av':Option Addr) (n c n' c' m d m' d' B B':Nat) (W:World) (h:Reads W B 1 A n (u8s x.k)) (h':Reads W B' 1 A' n' (u8s y.k)) (hB:B≤W.heap.size) (hB':B'≤W.heap.size):
 Calls Tryz.prog 44 #[.agg #[.slice A n c,.slice Av m d],.agg #[.slice A' n' c',.slice Av' m' d']] W fun r w'=>r= .returned (.int .i64 (compareBytes x.k y.k))∧Grows W w':=by
 have hG:Grows W ((W.alloc (.cells #[.slice A n c,.slice Av m d] 52)).alloc (.cells #[.slice A' n' c',.slice Av' m' d'] 52)):=((Grows.refl _).alloc _).alloc _
 have k1:Reads ((W.alloc (.cells #[.slice A n c,.slice Av m d] 52)).alloc (.cells #[.slice A' n' c',.slice Av' m' d'] 52)) B 1 A n (u8s x.k):=(h.alloc hB _).alloc (by simp;omega) _
 have k2:Reads ((W.alloc (.cells #[.slice A n c,.slice Av m d] 52)).alloc (.cells #[.slice A' n' c',.slice Av' m' d'] 52)) B' 1 A' n' (u8s y.k):=(h'.alloc hB' _).alloc (by simp;omega) _
 have HC:=Lib.hid (compare8_any x.k y.k A A' n c n' c' B B' _ k1 k2)
 have HG:=Lib.hid hG
 clear hG k1 k2 h h'
 go_enter Tryz.func44,Tryz.ntmps44
 go_wp2_with fail
 refine HC.out.mono ?_
 rintro r w' ⟨rfl,rfl⟩
 go_wp2_with fail
 go_ret
 exact⟨rfl,HG.out⟩
/-- An item whose key lies elsewhere than in block g. -/
def KeyOff (w:World) (g:Nat) (e:ItH):Prop:=Reads w w.heap.size 1 e.2.1.1 e.2.1.2.1 (u8s e.1.k)∧∀a,e.2.1.1=some a→a.block≠g
abbrev KIt (w:World) (g:Nat):={e:ItH // KeyOff w g e}
def cmpIt (e f:ItH):Int:=compareBytes e.1.k f.1.k
instance (w:World) (g:Nat):Inhabited (KIt w g):=⟨⟨(⟨[],[]⟩,(none,0,0),(none,0,0)),⟨Reads.none_,fun a e=>by cases e⟩⟩⟩
def encKI {w:World} {g:Nat} (e:KIt w g):List Value:=encIt e.1
def kiV {w:World} {g:Nat} (l:List (KIt w g)):List Value:=l.flatMap encKI
theorem kiV_eq {w:World} {g:Nat} (l:List (KIt w g)):kiV l=itsV (l.map (·.1)):=by unfold kiV itsV;rw[List.flatMap_map];rfl
theorem kiV_length {w:World} {g:Nat} (l:List (KIt w g)):(kiV l).length=l.length*2:=by rw[kiV_eq,itsV_length,List.length_map]
theorem kiV_at {w0:World} {g0:Nat} {l:List (KIt w0 g0)} {j:Nat} {u:Value} (h:(kiV l)[j]?=some u):∃hk:j/2<l.length,u=(encKI l[j/2])[j%2]!:=by
 induction l generalizing j with
 |nil=>simp[kiV]at h
 |cons e l ih=>
  have hc:kiV (e::l)=encKI e++kiV l:=rfl
  rw[hc]at h
  have hl:(encKI e).length=2:=rfl
  by_cases hj:j<2
  ·rw[List.getElem?_append_left (by omega)]at h
   have h0:j/2=0:=by omega
   have h1:j%2=j:=by omega
   refine⟨by simp[h0],?_⟩
   simp only[h0,h1,List.getElem_cons_zero]
   rw[List.getElem!_eq_getElem?_getD,h]
   rfl
  ·rw[List.getElem?_append_right (by omega),hl]at h
   obtain⟨hk,hu⟩:=ih h
   have e1:j/2=(j-2)/2+1:=by omega
   have e2:j%2=(j-2)%2:=by omega
   refine⟨by simp;omega,?_⟩
   simp only[e1,e2,List.getElem_cons_succ]
   exact hu
theorem holdsI_own {w0:World} {g0:Nat} {w:World} {base:Nat} {t:TypeId} {g n cap:Nat} {d:List (KIt w0 g0)} (h:w.ownsRow base t 2 (.slice (some ⟨g,0,none⟩) n cap) n (kiV d)):HoldsK encKI 2 w g 0 d.toArray:=fun j hj=>by
 rw[size_flatK]at hj
 have hl:d.length*2=n*2:=by rw[←kiV_length];exact h.1
 have hj':j<n*2:=by simp at hj;omega
 refine⟨?_,?_⟩
 ·rw[Nat.zero_add,h.cellAt j hj',get_flatK _ _ _ _ hj]
  have hl2:j<(kiV d).length:=by rw[h.1];exact hj'
  obtain⟨hk,hu⟩:=kiV_at (List.getElem?_eq_getElem hl2)
  rw[List.getElem?_eq_getElem hl2,hu]
  simp[hk]
 ·rw[Nat.zero_add]
  exact h.frozenAt j
theorem reads_holdsI {w0:World} {g0:Nat} {w:World} {g:Nat} {d:List (KIt w0 g0)} (hg:g<w.heap.size) (h:HoldsK encKI 2 w g 0 d.toArray):Reads w w.heap.size 2 (some ⟨g,0,none⟩) d.length (kiV d):=by
 refine⟨kiV_length d,fun _=>⟨_,rfl,hg,fun j u hu=>?_⟩⟩
 obtain⟨hk,rfl⟩:=kiV_at hu
 rw[add_row]
 have:=(h.cell (i:=j/2) (c:=j%2) (by simpa using hk) (by omega)).1
 rw[show 0+j/2*2+j%2=j by omega]at this
 rw[this]
 simp[hk]
theorem grownBy_sortI {w0:World} {g0:Nat} {w:World} {g n:Nat} {os:Array Obj} (d:Array (KIt w0 g0)):w.grownBy (sortWorldK encKI 2 w g 0 n d os) (some g):=by
 refine⟨rfl,rfl,rfl,by simp[sortWorldK,putRowK,grow,Sort.ahead],fun k hk hne=>?_⟩
 unfold sortWorldK
 rw[heap_grow_old _ _ (by simpa[putRowK,Sort.ahead]using hk)]
 have:g≠k:=fun e=>hne (by rw[e])
 simp[putRowK,putRow,mapBlock,Sort.ahead,Array.getElem?_modify,this]
theorem own_sortI {w0:World} {g0:Nat} {w:World} {base:Nat} {t:TypeId} {g n cap m:Nat} {d:List (KIt w0 g0)} {d':Array (KIt w0 g0)} {os:Array Obj} (h:w.ownsRow base t 2 (.slice (some ⟨g,0,none⟩) n cap) n (kiV d)) (hs:d'.size=n)
 (hR:Reads (sortWorldK encKI 2 w g 0 m d' os) (sortWorldK encKI 2 w g 0 m d' os).heap.size 2 (some ⟨g,0,none⟩) d'.toList.length (kiV d'.toList)):
 (sortWorldK encKI 2 w g 0 m d' os).ownsRow base t 2 (.slice (some ⟨g,0,none⟩) n cap) n (kiV d'.toList):=by
 rcases h.2 with ⟨h0,-⟩|⟨g',cap',cur,he,hb,hg,hnc,hcm,hcs,htk⟩
 ·cases h0
 ·cases he
  have hlt:g<w.heap.size:=(Array.getElem?_eq_some_iff.1 hg).1
  have hW:∃cur',(sortWorldK encKI 2 w g 0 m d' os).heap[g]?=some (.cells cur' t (0,0))∧cur'.size=cur.size:=by
   refine⟨putCells id 0 (flatK encKI 2 d') cur,?_,?_⟩
   ·unfold sortWorldK
    rw[heap_grow_old _ _ (by simpa[putRowK,putRow,mapBlock,Sort.ahead]using hlt)]
    simp[putRowK,putRow,mapBlock,Sort.ahead,Array.getElem?_modify,hg,onCells]
   ·simp[putCells]
  obtain⟨cur',h1,h2⟩:=hW
  refine⟨by rw[kiV_length];simp[hs],.inr ⟨g,cap,cur',rfl,hb,h1,hnc,hcm,by rw[h2,hcs],?_⟩⟩
  apply List.ext_getElem?
  intro j
  by_cases hj:j<n*2
  ·rw[List.getElem?_take,if_pos hj,Array.getElem?_toList,←cell_of_row _ g j cur' t (0,0) h1]
   obtain⟨ad,e,-,hc⟩:=hR.2 (by simp;omega)
   cases e
   have hl:j<(kiV d'.toList).length:=by rw[kiV_length];simp[hs];omega
   have:=hc j _ (List.getElem?_eq_getElem hl)
   rw[add_row]at this
   rw[this,List.getElem?_eq_getElem hl]
  ·rw[List.getElem?_eq_none (by simp;omega),List.getElem?_eq_none (by rw[kiV_length];simp[hs];omega)]
theorem perm_listI {w0:World} {g0:Nat} {d:List (KIt w0 g0)} {d':Array (KIt w0 g0)} (h:PermIn 0 d.toArray.size d.toArray d'):d'.toList.Perm d∧d'.size=d.length:=by
 obtain⟨h1,-,h2⟩:=h
 refine⟨?_,by simpa using h1⟩
 rw[←h1,Array.extract_size,h1,Array.extract_size]at h2
 simpa using h2
theorem cmpIt_swo {w:World} {g:Nat}:SWO (ltOf (fun e f:KIt w g=>cmpIt e.1 f.1)) where
 irrefl x:=by
  show decide (compareBytes x.1.1.k x.1.1.k<0)=false
  rw[cb_self];decide
 trans x y z h1 h2:=by
  unfold ltOf at *
  rw[decide_eq_true_iff]at *
  exact cb_trans h1 h2
 ntrans x y z h1 h2:=by
  unfold ltOf at *
  rw[decide_eq_false_iff_not]at *
  intro h
  by_cases e:ltK y.1.1.k x.1.1.k
  ·exact h2 (by
    have h3:¬ltK y.1.1.k z.1.1.k:=h2
    exact absurd (ltK_trans e h) h3)
  ·have:x.1.1.k=y.1.1.k:=ltK_total h1 e
   exact h2 (by show compareBytes y.1.1.k z.1.1.k<0;rw[←this];exact h)
theorem cmpIt_lays (w:World) (g size:Nat):CmpLays Tryz.prog 44 #[] (encKI (w:=w) (g:=g)) 2 (fun e f=>cmpIt e.1 f.1) g 0 size w:=fun m os dk _ x y=>by
 have hg:=grownBy_sortI (w0:=w) (g0:=g) (w:=w) (g:=g) (n:=m) (os:=os) dk
 have hr:∀e:KIt w g,Reads (sortWorldK encKI 2 w g 0 m dk os) w.heap.size 1 e.1.2.1.1 e.1.2.1.2.1 (u8s e.1.1.k):=fun e=>by
  obtain⟨h1,h2⟩:=e.2
  refine⟨h1.1,fun h0=>?_⟩
  obtain⟨ad,e1,hb,hc⟩:=h1.2 h0
  refine⟨ad,e1,hb,fun k u hu=>?_⟩
  rw[←hc k u hu]
  exact World.cell?_of_block (by rw[block_of_add];exact hg.block _ hb (fun e'=>h2 ad e1 (by cases e';rfl)))
 exact byItem_any x.1.1 y.1.1 _ _ _ _ _ _ _ _ _ _ _ _ _ _ _ (hr x) (hr y) hg.size hg.size
/-- Items whose keys lie elsewhere, sorted by them. -/
theorem sortItR_any (d:List ItH) (g n cap base:Nat) (w:World) (hown:w.ownsRow base 52 2 (.slice (some ⟨g,0,none⟩) n cap) n (itsV d)) (hk:∀e∈d,KeyOff w g e) (hn:n≤1048576):
 Calls Tryz.prog 43 #[.slice (some ⟨g,0,none⟩) n cap,.func (.func 44) #[] #[]] w fun e w'=>e= .returned (.tuple #[])∧∃d':List ItH,d'.Perm d∧d'.Pairwise (fun e f=>¬ltK f.1.k e.1.k)∧w'.ownsRow base 52 2 (.slice (some ⟨g,0,none⟩) n cap) n (itsV d')∧w.grownBy w' (some g):=by
 obtain⟨dk,hdk⟩:∃dk:List (KIt w g),dk.map (·.1)=d:=⟨d.attach.map fun x=>⟨x.1,hk x.1 x.2⟩,by rw[List.map_map];exact List.attach_map_subtype_val d⟩
 rw[←hdk,←kiV_eq]at hown
 have hl:dk.length=n:=by have h:=hown.1;rw[kiV_length]at h;omega
 have hg:g<w.heap.size:=(hown.lt g rfl).2
 have hH:=holdsI_own hown
 have eg:∀args w,(callFunc 44 args).run Tryz.prog w= .ok (.enter 44 args) w:=enters_of Tryz.func44 (by kernel_rfl) rfl
 have hcon:=AnyQ.slices_SortFunc sortIt 2 Tryz.isAgg52 Tryz.sizeOf52 (encKI (w:=w) (g:=g)) (fun _=>rfl) (fun x v hv=>by simp[encKI,encIt]at hv;rcases hv with rfl|rfl<;>rfl) (fun e f=>cmpIt e.1 f.1) cmpIt_swo 44 #[] g 0 cap dk.toArray w eg (cmpIt_lays w g dk.toArray.size) hH hg (by simp;omega)
 change Calls Tryz.prog 43 _ _ _ at hcon
 rw[List.size_toArray,hl]at hcon
 refine hcon.mono ?_
 rintro e w' ⟨he,d',m,os,hp,hsd,rfl⟩
 rw[←hl,←List.size_toArray]at hp hsd
 obtain⟨h1,h2⟩:=perm_listI hp
 have hSW:SWK encKI 2 w g 0 d' (sortWorldK encKI 2 w g 0 m d' os):=⟨m,os,rfl⟩
 have hH':=hSW.holds hg hH (by simpa using h2)
 have hR:=reads_holdsI (d:=d'.toList) (hSW.lt hg) (by simpa using hH')
 have ho:=own_sortI (m:=m) (os:=os) hown (by rw[h2,hl]) hR
 rw[kiV_eq]at ho
 refine⟨he,d'.toList.map (·.1),by rw[←hdk];exact h1.map _,?_,ho,grownBy_sortI d'⟩
 rw[List.pairwise_map,List.pairwise_iff_getElem]
 intro i j hi hj hij
 have:=hsd i j (Nat.zero_le _) hij (by simpa[h2]using hj)
 unfold ltOf at this
 rw[decide_eq_false_iff_not]at this
 rw[getElem!_pos d' j (by simpa using hj),getElem!_pos d' i (by simpa using hi)]at this
 unfold ltK
 unfold cmpIt at this
 simpa using this
/-- Items of the call's own, sorted by their keys. -/
theorem sortIt_any (d:List ItH) (g n cap base:Nat) (w:World) (h:ItsOwn base w (some ⟨g,0,none⟩) n cap d) (hn:n≤1048576):
 Calls Tryz.prog 43 #[.slice (some ⟨g,0,none⟩) n cap,.func (.func 44) #[] #[]] w fun e w'=>e= .returned (.tuple #[])∧∃d':List ItH,d'.Perm d∧d'.Pairwise (fun e f=>¬ltK f.1.k e.1.k)∧ItsOwn base w' (some ⟨g,0,none⟩) n cap d'∧w.grownBy w' (some g):=by
 refine(sortItR_any d g n cap base w h.1 (fun e he=>⟨(h.2 e he).1.1,fun a ha e'=>?_⟩) hn).mono ?_
 ·obtain⟨-,cs,fr,hb⟩:=(h.2 e he).1.2.2 a ha
  rw[e']at hb
  exact own_ne_cells h.1 hb (by decide) rfl
 ·rintro e w' ⟨he,d',hp,hs,ho,hg⟩
  refine⟨he,d',hp,hs,⟨ho,fun x hx=>(h.2 x (hp.mem_iff.1 hx)).heap hg.size fun q _ _ hb=>hg.block q (Array.getElem?_eq_some_iff.1 hb).1 (own_ne_cells h.1 hb (by decide))⟩,hg⟩
end Go.Proofs.YtpkeacnacjnlcaaGreat
namespace Go.Proofs.YtpkeacnacjnlcaaGreat
open Go.RowKit Go.Lib
set_option maxHeartbeats 1600000 in
theorem equal8_any (xs ys:List UInt8) (A A':Option Addr) (n c n' c':Nat) (w:World) (h:Reads w w.heap.size 1 A n (u8s xs)) (h':Reads w w.heap.size 1 A' n' (u8s ys)):
 Calls Tryz.prog 41 #[.slice A n c,.slice A' n' c'] w fun e w'=>e= .returned (.bool (xs==ys))∧Below w.heap.size w w':=by
 have s1:=run_str (c:=c) h
 have s2:=run_str (c:=c') h'
 go_enter Tryz.func41,Tryz.ntmps41
 go_wp2_with fail
 go_ret
 exact⟨rfl,Below.refl _ _⟩
set_option maxHeartbeats 3200000 in
theorem sameIt_any (x y:ItH) (w:World) (h:RdIt w w.heap.size x) (h':RdIt w w.heap.size y):
 Calls Tryz.prog 63 #[.agg #[.slice x.2.1.1 x.2.1.2.1 x.2.1.2.2,.slice x.2.2.1 x.2.2.2.1 x.2.2.2.2],.agg #[.slice y.2.1.1 y.2.1.2.1 y.2.1.2.2,.slice y.2.2.1 y.2.2.2.1 y.2.2.2.2]] w fun e w'=>e= .returned (.bool (decide (x.1=y.1)))∧Below w.heap.size w w':=by
 obtain⟨⟨xk,xv⟩,⟨A,n,c⟩,⟨B,m,d⟩⟩:=x
 obtain⟨⟨yk,yv⟩,⟨A',n',c'⟩,⟨B',m',d'⟩⟩:=y
 obtain⟨w1,hw1⟩:∃X,X=(w.alloc (.cells #[.slice A n c,.slice B m d] 52)).alloc (.cells #[.slice A' n' c',.slice B' m' d'] 52):=⟨_,rfl⟩
 have hb0:Below w.heap.size w (w.alloc (.cells #[.slice A n c,.slice B m d] 52)):=(Below.refl _ _).alloc (Nat.le_refl _) _
 have hb1:Below w.heap.size w w1:=by rw[hw1];exact hb0.alloc (by simp) _
 have b1:Blk w1 w.heap.size 52 #[.slice A n c,.slice B m d]:=by rw[hw1];exact Blk.alloc (Blk.new w _ _) _
 have b2:Blk w1 (w.heap.size+1) 52 #[.slice A' n' c',.slice B' m' d']:=by
  rw[hw1]
  have:=Blk.new (w.alloc (.cells #[.slice A n c,.slice B m d] 52)) 52 #[.slice A' n' c',.slice B' m' d']
  rw[World.size_alloc]at this
  exact this
 have q1:=Blk.cell (i:=0) b1
 have q2:=Blk.cell (i:=1) b1
 have q3:=Blk.cell (i:=0) b2
 have q4:=Blk.cell (i:=1) b2
 simp only[List.getElem?_toArray,List.getElem?_cons_zero,List.getElem?_cons_succ]at q1 q2 q3 q4
 have HR:=Lib.hid (And.intro (h.on hb1) (And.intro (h'.on hb1) (And.intro hb1 (And.intro (Blk.lt b1) (Blk.lt b2)))))
 clear h h' hb0 hb1 b1 b2
 go_enter Tryz.func63,Tryz.ntmps63
 go_upto_region 1 with fail
 try simp only[World.size_alloc]
 rw[←hw1]
 clear hw1
 go_wp2_with fail
 refine(equal8_any xk yk A A' n c n' c' w1 HR.out.1.1.1 HR.out.2.1.1.1).mono ?_
 rintro e w2 ⟨rfl,hb2⟩
 have HR2:=Lib.hid (And.intro (HR.out.1.on hb2) (And.intro (HR.out.2.1.on hb2) (below_on HR.out.2.2.1 (Nat.le_refl _) hb2)))
 have r2:=(hb2.cell (p:=⟨w.heap.size,1,none⟩) HR.out.2.2.2.1).trans q2
 have r4:=(hb2.cell (p:=⟨w.heap.size+1,1,none⟩) HR.out.2.2.2.2).trans q4
 clear HR q1 q2 q3 q4 hb2
 by_cases hk:xk=yk
 ·rw[show (xk==yk)=true from beq_iff_eq.2 hk]
  have HK:=Lib.hid hk
  clear hk
  go_wp2_with fail
  refine(equal8_any xv yv B B' m d m' d' w2 HR2.out.1.2.1 HR2.out.2.1.2.1).mono ?_
  rintro e w3 ⟨rfl,hb3⟩
  have HB:=Lib.hid (below_on HR2.out.2.2 (Nat.le_refl _) hb3)
  obtain⟨b,hb⟩:∃b,(xv==yv)=b:=⟨_,rfl⟩
  have HQ:=Lib.hid hb
  rw[hb]
  clear hb3 hb r2 r4 HR2
  go_wp2_with fail
  go_ret
  refine⟨?_,HB.out⟩
  have hbb:b=decide ((⟨xk,xv⟩:It)=⟨yk,yv⟩):=by
   rw[←HQ.out]
   by_cases hv:xv=yv
   ·rw[beq_iff_eq.2 hv,decide_eq_true (by rw[HK.out,hv])]
   ·rw[beq_eq_false_iff_ne.2 hv,decide_eq_false (fun h=>hv (congrArg It.v h))]
  rw[←hbb]
  rfl
 ·rw[show (xk==yk)=false from beq_eq_false_iff_ne.2 hk]
  have HK:=Lib.hid hk
  have HB:=Lib.hid HR2.out.2.2
  clear hk r2 r4 HR2
  go_wp2_with fail
  go_ret
  refine⟨?_,HB.out⟩
  rw[show decide ((⟨xk,xv⟩:It)=⟨yk,yv⟩)=false from decide_eq_false (fun h=>HK.out (congrArg It.k h))]
  rfl
theorem ptAt_mem {xs:List Pt} {k:Nat} (h:k<xs.length):ptAt xs k∈xs:=by rw[ptAt_lt h];exact List.getElem_mem h
theorem sound_ring {p:Plan} {xs:List Pt} (hs:SoundP p) (h:ringOf p xs):goodL xs=true∧xs.length≤128∧3≤xs.length∧checkI xs=0:=by
 have hc:checkI xs=0:=by
  rcases h with rfl|⟨x,hx,rfl⟩
  ·exact hs.2.1.1
  ·exact(hs.2.2.1 x hx).1
 obtain⟨h1,h2,h3,-⟩:=checkI_zero hc
 exact⟨h2,h1,h3,hc⟩
theorem good_in2 {q:Pt} (h:good q=true):q.inI:=by unfold good at h;unfold Pt.inI;simp at h;omega
theorem rowPV_set {ps:List Parc} {hs:List Hd} (hl:hs.length=ps.length) {k:Nat} (hk:k<ps.length) (ys:List Pt) (h:Hd):
 rowPV (ps.set k ⟨(pcAt ps k).id,ys,(pcAt ps k).owner⟩) (hs.set k h)=(rowPV ps hs).set (k*3+1) (.slice h.1 h.2.1 h.2.2):=by
 induction ps generalizing hs k with
 |nil=>simp at hk
 |cons y ps ih=>
  rcases hs with _|⟨g,hs⟩
  ·simp at hl
  ·rcases k with _|k
   ·rfl
   ·have h1:=ih (hs:=hs) (by simpa using hl) (k:=k) (by simpa using hk)
    have h2:pcAt (y::ps) (k+1)=pcAt ps k:=by unfold pcAt;simp
    rw[h2]
    show pcV y g++rowPV (ps.set k _) (hs.set k h)=_
    rw[h1,show(k+1)*3+1=k*3+1+1+1+1 by omega]
    rfl
def setR (p:Plan) (k:Nat) (ys:List Pt):Plan:=⟨p.outer,p.parcels.set k ⟨(pcAt p.parcels k).id,ys,(pcAt p.parcels k).owner⟩⟩
theorem hdAt_set {hs:List Hd} {k j:Nat} {h:Hd} (hk:k<hs.length):hdAt (hs.set k h) j=if j=k then h else hdAt hs j:=by
 unfold hdAt
 rw[List.getElem?_set]
 by_cases e:k=j
 ·rw[if_pos e,if_pos e.symm,if_pos (by omega)];rfl
 ·rw[if_neg e,if_neg (fun h=>e h.symm)]
theorem pcAt_set {ps:List Parc} {k j:Nat} {x:Parc} (hk:k<ps.length):pcAt (ps.set k x) j=if j=k then x else pcAt ps j:=by
 unfold pcAt
 rw[List.getElem?_set]
 by_cases e:k=j
 ·rw[if_pos e,if_pos e.symm,if_pos (by omega)];rfl
 ·rw[if_neg e,if_neg (fun h=>e h.symm)]
set_option maxRecDepth 100000 in
set_option maxHeartbeats 1600000 in
theorem find_any (d:List ItH) (key:List UInt8) (A K:Option Addr) (n c m mc:Nat) (w:World) (h:ItsAt w w.heap.size A n c d) (hk:Reads w w.heap.size 1 K m (u8s key)) (hn:n≤1048576):
 Calls Tryz.prog 18 #[.slice A n c,.slice K m mc] w fun e w'=>e= .returned (.int .i64 (findI (d.map (·.1)) key))∧Below w.heap.size w w':=by
 have e0:IntKind.i64.wrap ((n:Int)-1)=(n:Int)-1:=by rw[IntKind.wrap_i64];omega
 have HRD:=Lib.hid (And.intro h (And.intro hk hn))
 have HL:=Lib.hid h.len
 clear h hk
 go_enter Tryz.func18,Tryz.ntmps18
 go_wp2_with fail
 go_loopw [5] (fun i wr=>∃I:Int,-1≤I∧I<n∧i= .int .i64 I∧Hid (findI (d.map (·.1)) key=findN (d.map (·.1)) key (I+1).toNat)∧Below w.heap.size w wr) (fun i _=>(intOf i+1).toNat)
 case atStart=>exact⟨(n:Int)-1,by omega,by omega,rfl,by unfold findI;rw[List.length_map,HL.out,show((n:Int)-1+1).toNat=n by omega];rfl,Below.refl _ _⟩
 case round=>
  obtain⟨I,hI0,hIn,rfl,HF,hbel⟩:=hrel
  by_cases hlt:0≤I
  ·obtain⟨k,rfl⟩:=Int.eq_ofNat_of_zero_le hlt
   have hkn:k<n:=by omega
   have hw1:IntKind.i64.wrap ((k:Int)-1)=(k:Int)-1:=by rw[IntKind.wrap_i64];omega
   have hI:=HRD.out.1.on hbel
   obtain⟨ad,rfl,-,-⟩:=hI.1.2 (by omega)
   have hkd:k<d.length:=by rw[HL.out];exact hkn
   obtain⟨hbk,p1,-⟩:=hI.cells hkn hkd
   have hrk:=(hI.2.1 _ (List.getElem_mem hkd)).1.1
   have hit:(itAt (d.map (·.1)) k).k=d[k].1.k:=by rw[itAt_lt (by rw[List.length_map];exact hkd),List.getElem_map]
   generalize d[k]=x at *
   obtain⟨⟨xk,xv⟩,⟨xA,xn,xc⟩,xh⟩:=x
   have hst:Hid (findN (d.map (·.1)) key (k+1)=if xk=key then(k:Int)else findN (d.map (·.1)) key k):=by show(if (itAt (d.map (·.1)) k).k=key then _ else _)=_;rw[hit]
   have s1:=run_str (c:=xc) (show Reads wr wr.heap.size 1 xA xn (u8s xk) from hrk)
   have s2:=run_str (c:=mc) (HRD.out.2.1.on hbel)
   have hP0:(wr.drew.cell? (ad.add (k*2))=some (.slice xA xn xc))∧(convert 50 9 (.slice xA xn xc)).run Tryz.prog wr.drew= .ok (.string ⟨xk.toArray⟩) wr.drew∧(convert 50 9 (.slice K m mc)).run Tryz.prog wr.drew= .ok (.string ⟨key.toArray⟩) wr.drew:=⟨p1,run_str (c:=xc) (show Reads wr wr.heap.size 1 xA xn (u8s xk) from hrk).drew,run_str (c:=mc) (HRD.out.2.1.on hbel).drew⟩
   have HB:=Lib.hid hbel
   clear hit hrk hI p1 s1 s2 hbel
   go_upto_region 4 with fail
   refine wp_region_held_drew (S:=fun V=>(V.cell? (ad.add (k*2))=some (.slice xA xn xc))∧(convert 50 9 (.slice xA xn xc)).run Tryz.prog V= .ok (.string ⟨xk.toArray⟩) V∧(convert 50 9 (.slice K m mc)).run Tryz.prog V= .ok (.string ⟨key.toArray⟩) V) (by kernel_rfl) ?_ (fun hHeld=>?_)
   ·exact hP0
   refine tk 0 ?_
   refine tk 1 ?_
   refine tk 2 ?_
   refine tk 3 ?_
   refine tk 4 ?_
   refine tk 6 ?_
   refine tk 7 ?_
   refine tk 5 ?_
   refine tk 8 ?_
   refine wpAnyH_done (by kernel_rfl) ?_ _
   clear hHeld hP0
   obtain⟨b,hb⟩:∃b,b=(xk==key):=⟨_,rfl⟩
   rw[←hb]
   have HQ:=Lib.hid hb
   clear hb
   rcases b with _|_
   rotate_left
   ·have hke:xk=key:=beq_iff_eq.1 HQ.out.symm
    have HE:Hid (findI (d.map (·.1)) key=(k:Int)):=by have:=hst.out;rw[if_pos hke]at this;exact HF.out.trans (by rw[show ((k:Int)+1).toNat=k+1 by omega];exact this)
    clear hke
    go_wp2_with fail
    go_ret
    exact⟨by rw[HE.out];rfl,HB.out.drew⟩
   ·have hke:xk≠key:=beq_eq_false_iff_ne.1 HQ.out.symm
    have HE:Hid (findI (d.map (·.1)) key=findN (d.map (·.1)) key k):=by have:=hst.out;rw[if_neg hke]at this;exact HF.out.trans (by rw[show ((k:Int)+1).toNat=k+1 by omega];exact this)
    clear hke
    go_wp2_with fail
    go_roundw
    case rel=>exact⟨(k:Int)-1,by omega,by omega,by go_num,by rw[show ((k:Int)-1+1).toNat=k by omega];exact HE.out,HB.out.drew⟩
    case measure=>first|(simp [intOf];done)|(simp [intOf];omega)
  ·obtain rfl:I= -1:=by omega
   have HB:=Lib.hid hbel
   clear hbel hlt
   go_wp2_with fail
   go_ret
   exact⟨by rw[HF.out];rfl,HB.out⟩
theorem Rising.step {l:List (List UInt8)} (h:Rising l) {j:Nat} (hj:j+1<l.length):ltK (l[j]'(by omega)) l[j+1]:=List.pairwise_iff_getElem.1 h j (j+1) (by omega) hj (by omega)
end Go.Proofs.YtpkeacnacjnlcaaGreat
namespace Go.Proofs.YtpkeacnacjnlcaaGreat
open Go.RowKit Go.Shelf
attribute [local go_sem] Go.Oper.semAt_some
def itHAt (l:List ItH) (k:Nat):ItH:=(l[k]?).getD default
theorem itHAt_lt {l:List ItH} {k:Nat} (h:k<l.length):itHAt l k=l[k]:=by unfold itHAt;rw[List.getElem?_eq_getElem h];rfl
theorem Reads.lenIt {w:World} {B n:Nat} {A:Option Addr} {l:List ItH} (h:Reads w B 2 A n (itsV l)):l.length=n:=by
 have:=h.1
 rw[itsV_length]at this
 omega
theorem Reads.it {w:World} {B n:Nat} {A:Option Addr} {l:List ItH} (h:Reads w B 2 A n (itsV l)) {k:Nat} (hk:k<n):
 ∃ad,A=some ad∧ad.block<B∧∃hk':k<l.length,w.cell? (ad.add (k*2))=some (.slice (l[k]'hk').2.1.1 (l[k]'hk').2.1.2.1 (l[k]'hk').2.1.2.2)∧w.cell? ⟨(ad.add (k*2)).block,(ad.add (k*2)).off+1,none⟩=some (.slice (l[k]'hk').2.2.1 (l[k]'hk').2.2.2.1 (l[k]'hk').2.2.2.2):=by
 obtain⟨ad,e,hb,hc⟩:=h.2 (by omega)
 have hk':k<l.length:=by rw[h.lenIt];exact hk
 exact⟨ad,e,hb,hk',hc _ _ (itsV_get l k hk').1,by rw[add_next];exact hc _ _ (itsV_get l k hk').2⟩
def valAtI (xs:List ItH) (k:Nat):Array Value:=#[.agg #[.slice (itHAt xs k).2.1.1 (itHAt xs k).2.1.2.1 (itHAt xs k).2.1.2.2,.slice (itHAt xs k).2.2.1 (itHAt xs k).2.2.2.1 (itHAt xs k).2.2.2.2]]
set_option maxRecDepth 100000 in
set_option maxHeartbeats 3200000 in
theorem valuesI1_in (n:Nat) (hn:1≤n) (l B Bs cap:Nat) (A:Option Addr) (len:Nat) (xs:List ItH) (hlen:len≤4611686018427387904) (J Jx:List Nat→World→Prop)
 (W:World) (hJ:AbidesFrom W.heap.size J)
 (hY:∀x W1,x<len→J (List.range x) W1→YieldAt Fence.wide (n-1) Tryz.prog l (valAtI xs x) W1 fun e W'=>
   (e= .returned (.bool true)∧J (List.range x++[x]) W'∧KeepE B Bs W1 W')∨(e= .returned (.bool false)∧Jx (List.range x++[x]) W'))
 (hBs:W.cell? ⟨Bs,0,none⟩=some (.slice A len cap)) (hr:Reads W B 2 A len (itsV xs)) (hBW:B≤W.heap.size) (h0:J [] W):
 CallsIn Fence.wide n Tryz.prog 102 #[.func (.yield l) #[] #[],.pointer (some ⟨Bs,0,none⟩)] W fun e W'=>(∃v,e= .returned v)∧
  ((∃ys,ys=List.range len∧J ys W')∨(∃pre,(∃k,k≤len∧pre=List.range k)∧Jx pre W')):=by
 refine callsIn_of_wp Tryz.func102 rfl trivial ?_ rfl
 simp only[Tryz.ntmps102,List.size_toArray,List.length_cons,List.length_nil,Nat.reduceAdd,Nat.reduceSub,Array.replicate_succ,Array.replicate_zero,List.push_toArray,List.append_toArray,List.nil_append,List.cons_append]
 gi_wp2
 gi_loopw [7] (fun i wr=>∃k:Nat,k≤len∧i= .int .i64 k∧J (List.range k) wr∧KeepE B Bs W wr) (fun i _=>len-(intOf i).toNat)
 case atStart=>exact⟨0,Nat.zero_le _,rfl,h0,KeepE.refl _ _ _⟩
 case round=>
  obtain⟨k,hk,rfl,hJs,hkp⟩:=hrel
  have hsz:=hkp.1
  by_cases hlt:k<len
  ·have hbs:Bs<W.heap.size:=cell_lt' hBs
   obtain⟨ad,rfl,hbd,hkl,hcx,hcy⟩:=(hkp.reads hr).it hlt
   obtain⟨p,hp⟩:∃p,p=itHAt xs k:=⟨_,rfl⟩
   have hpk:xs[k]=p:=by rw[hp,itHAt_lt hkl]
   have hed:valAtI xs k=#[.agg #[.slice p.2.1.1 p.2.1.2.1 p.2.1.2.2,.slice p.2.2.1 p.2.2.2.1 p.2.2.2.2]]:=by unfold valAtI;rw[←hp]
   rw[hpk]at hcx hcy
   have hlt':(k:Int)<(len:Int):=by omega
   have hw1:IntKind.i64.wrap ((k:Int)+1)=(k:Int)+1:=IntWalk.i64_in _ (by omega)
   have HE:=Lib.hid hed
   clear hp hpk hed
   gi_upto_region 3 with fail
   refine wpIn_named fun W2 hW2=>?_
   have hk2:KeepE B Bs W W2:=by rw[hW2];exact hkp.trans (KeepE.alloc (by omega) (by omega) _)
   have hJ2:J (List.range k) W2:=by
    rw[hW2]
    exact hJ _ _ _ none hJs (World.grownBy_alloc wr _ none) (fun r e=>by cases e)
   have hpx:W2.cell? ⟨wr.heap.size,0,none⟩=some (.slice p.2.1.1 p.2.1.2.1 p.2.1.2.2):=by rw[hW2];simp
   have hpy:W2.cell? ⟨wr.heap.size,1,none⟩=some (.slice p.2.2.1 p.2.2.2.1 p.2.2.2.2):=by rw[hW2];simp
   have hY2:=hY k W2 hlt hJ2
   rw[HE.out]at hY2
   obtain⟨fn,tmps,assign,body,hy,hR⟩:=hY2
   clear hW2 hJ2 hkp hJs hcx hcy
   gi_wp2_with fail
   refine hR.mono ?_
   rintro e W3 (⟨rfl,hJ3,hk3⟩|⟨rfl,hJx3⟩)
   ·gi_wp2
    go_roundw
    case rel=>exact⟨k+1,by omega,by simp,by rw[List.range_succ];exact hJ3,hk2.trans hk3⟩
    case measure=>simp[intOf];omega
   ·gi_wp2
    refine bodyPost_ret (results_none rfl _ _ _) rfl ?_
    exact⟨⟨_,rfl⟩,.inr ⟨_,⟨k+1,by omega,List.range_succ.symm⟩,hJx3⟩⟩
  ·obtain rfl:k=len:=by omega
   gi_wp2
   go_end0
   exact⟨⟨_,rfl⟩,.inl ⟨_,rfl,hJs⟩⟩
theorem valuesI_any (A:Option Addr) (len cap:Nat) (w:World):
 Calls Tryz.prog 59 #[.slice A len cap] w fun e w'=>e= .returned (.func (.func 102) #[] #[.pointer (some ⟨w.heap.size,0,none⟩)])∧w'=w.alloc (.cells #[.slice A len cap] 43):=by
 go_enter Tryz.func59,Tryz.ntmps59
 go_wp2
 go_ret
 exact⟨rfl,rfl⟩
theorem valuesI_stops (n:Nat) (hn:1≤n) (B Bs cap len:Nat) (A:Option Addr) (xs:List ItH) (hlen:len≤4611686018427387904) (w:World) (hs:Bs<w.heap.size) (hB:B≤w.heap.size) (hc:w.cell? ⟨Bs,0,none⟩=some (.slice A len cap)) (hr:Reads w B 2 A len (itsV xs)):
 SeqStopsK Fence.wide n Tryz.prog 102 #[.pointer (some ⟨Bs,0,none⟩)] (valAtI xs) (KeepE B Bs) (fun ys=>ys=List.range len) (fun pre=>∃k,k≤len∧pre=List.range k) len w:=fun l J Jx W hW hJ _ hY h0=>
 valuesI1_in n hn l B Bs cap A len xs hlen J Jx W hJ (fun x W1 hx hj=>hY _ x W1 hj (by simpa using hx)) ((hW.cell (p:=⟨Bs,0,none⟩) hs).trans hc) (hr.below (hW.mono hB)) (Nat.le_trans hB hW.size) h0
attribute [local go_sem] Go.Oper.semAt_some
theorem range_itHAt (xs:List ItH):(List.range xs.length).map (itHAt xs)=xs:=by
 refine List.ext_getElem (by simp) fun i h1 h2=>?_
 rw[List.getElem_map,List.getElem_range,itHAt_lt h2]
set_option maxRecDepth 100000 in
set_option maxHeartbeats 1600000 in
theorem appendSeqI_any (xs:List ItH) (A:Option Addr) (n cap B Bs:Nat) (w:World) (hn:n≤1048576) (hB:B≤w.heap.size) (hs:Bs<w.heap.size) (hc:w.cell? ⟨Bs,0,none⟩=some (.slice A n cap)) (hr:Reads w B 2 A n (itsV xs)):
 Calls Tryz.prog 156 #[.slice none 0 0,.func (.func 102) #[] #[.pointer (some ⟨Bs,0,none⟩)]] w fun e w'=>∃v,e= .returned v∧w'.ownsRow w.heap.size 52 2 v n (itsV xs)∧Below w.heap.size w w':=by
 have HL:=Lib.hid (hr.lenIt)
 refine(callsIn_wide (n:=3)).1 ?_
 refine callsIn_of_wp_marks Tryz.func156 rfl trivial ?_ rfl
 simp only[Tryz.ntmps156,List.size_toArray,List.length_cons,List.length_nil,Nat.reduceAdd,Nat.reduceSub,Array.replicate_succ,Array.replicate_zero,List.push_toArray,List.append_toArray,List.nil_append,List.cons_append]
 gi_wp2_with fail
 have bL:=Boxed.new w 43 (.slice none 0 0)
 have hB0:=(Below.refl w.heap.size w).alloc (Nat.le_refl _) (.cells #[.slice none 0 0] 43)
 have hr0:=hr.below (hB0.mono hB)
 have hc0:=(hB0.cell (p:=⟨Bs,0,none⟩) hs).trans hc
 have hz0:(w.alloc (.cells #[.slice none 0 0] 43)).heap.size=w.heap.size+1:=by simp
 generalize w.alloc (.cells #[.slice none 0 0] 43)=w0 at *
 refine wpIn_rangeFunc_ownH rfl (by omega) (gf:=102) (lb:=#[.pointer (some ⟨Bs,0,none⟩)]) rfl trivial (enters_of Tryz.func102 (by kernel_rfl) rfl)
  (valuesI_stops 2 (by omega) B Bs cap n A xs (by omega) w0 (by omega) (by omega) hc0 hr0) (fun h k=>h.trans k)
  (fun W l o o' hl h _ _=>⟨by simp,fun i hi=>World.putObj_heap_other (by omega)⟩) (Below.refl _ _) (fun _=>rfl)
  (fun pre W=>(∃v,Boxed W w.heap.size 43 v∧W.ownsRow w.heap.size 52 2 v pre.length (itsV (pre.map (itHAt xs)))∧True)∧Below w.heap.size w W)
  (fun _ _ _=>False)
  (OwnFrom.and (Own.from (holdsRow_own w.heap.size w.heap.size _ _ 2 (fun pre:List Nat=>pre.length) (fun pre=>itsV (pre.map (itHAt xs))) (fun _ _=>True)) _) (ownFrom_below (Nat.le_refl _) (by omega)))
  (fun _ _ _ _ _ hs _ _=>hs)
  ⟨⟨_,bL,World.ownsRow_nil _ _ _ _,trivial⟩,hB0⟩
  (fun x a' W=>∃Bx,Blk W Bx 52 #[.slice (itHAt xs x).2.1.1 (itHAt xs x).2.1.2.1 (itHAt xs x).2.1.2.2,.slice (itHAt xs x).2.2.1 (itHAt xs x).2.2.2.1 (itHAt xs x).2.2.2.2]∧
    a'={ tmps:=#[.slice none 0 0,.func (.func 102) #[] #[.pointer (some ⟨Bs,0,none⟩)],.pointer (some ⟨w.heap.size,0,none⟩),undef,.slice none 0 0,.pointer (some ⟨Bx,0,none⟩),.func (.func 102) #[] #[.pointer (some ⟨Bs,0,none⟩)],.agg #[.slice (itHAt xs x).2.1.1 (itHAt xs x).2.1.2.1 (itHAt xs x).2.1.2.2,.slice (itHAt xs x).2.2.1 (itHAt xs x).2.2.2.1 (itHAt xs x).2.2.2.2],undef,undef,undef,undef,undef],defers:=[] })
  (fun x a'=>fun s X Y row ⟨Bx,hs,e⟩ hg hrow=>⟨Bx,blk_own Bx _ (fun _:Unit=>_) () X Y row hs hg (fun r hr=>(hrow r hr).2),e⟩) ?assign ?body ?done ?stop
 case assign=>
  rintro l pre x W K ⟨⟨v,bv,hown,_⟩,hB'⟩ hK
  unfold valAtI
  gi_wp2
  have hsz:=hB'.size
  have hlt:=bv.lt
  refine hK _ _ ((KeepsOthers.alloc _ _).from _) (KeepE.alloc (by omega) (by omega) _) ⟨⟨v,bv.alloc _,hown.alloc _,trivial⟩,hB'.alloc hB'.size _⟩ ⟨W.heap.size,Blk.new W _ _,rfl⟩
 case body=>
  rintro l pre x a' W hl ⟨r,hrr⟩ ⟨⟨v,bv,hown,_⟩,hB'⟩ ⟨Bx,hBx,rfl⟩ hlen
  obtain⟨i0,hi0,hz0',hz1',hz2'⟩:=info_parts info_it
  obtain⟨p,hp⟩:∃p,p=itHAt xs x:=⟨_,rfl⟩
  rw[←hp]at hBx
  rw[←hp]
  have HPX:=Lib.hid hp
  have x1:W.cell? ⟨Bx,0,none⟩=some (.slice p.2.1.1 p.2.1.2.1 p.2.1.2.2):=by rw[Blk.cell hBx 0];rfl
  have x2:W.cell? ⟨Bx,1,none⟩=some (.slice p.2.2.1 p.2.2.2.1 p.2.2.2.2):=by rw[Blk.cell hBx 1];rfl
  have hsz:=hB'.size
  have hbc:=bv.cell
  have hlen':pre.length<1048576:=by omega
  clear hp hrr hBx
  gi_wp2_with (first
   |(gi_at_builtin;refine wpListIn_append_own _ rfl _ _ 43 rfl w.heap.size 52 i0 _ 2 48 Tryz.underlying43 hi0 hz0' hz1' hz2' rfl (by decide) v pre.length _ rfl (hown.alloc _) ⟨W.heap.size,0,none⟩ 1 1 [.slice p.2.1.1 p.2.1.2.1 p.2.1.2.2,.slice p.2.2.1 p.2.2.2.1 p.2.2.2.2] rfl rfl (two_cells _ _ _ _ _ rfl) (by simp[Value.oneCell']) (by simp only[maxLen];omega) (by omega) (by simp;omega) ?_
     intro v' w3 hown' hgrow _
     obtain⟨g',cap',rfl⟩:=ownsRow_succ hown'
     obtain⟨hv1,hv2,hr3,hk3,hb3⟩:=Boxed.appended bv (by decide) hown (by omega) (Nat.le_refl _) hown' hgrow
     have hc1:=hv1.cell
     have hf1:=hv1.frozen))
  refine⟨hk3.from _,⟨hk3.size,fun i hi=>hb3.block i (by omega)⟩,⟨_,hv2,?_,trivial⟩,hB'.trans (hb3.mono (Nat.le_refl _))⟩
  rw[List.length_append,List.map_append,List.map_singleton,itsV_append,←HPX.out]
  exact hr3
 case done=>
  rintro D ys W hD rfl ⟨⟨v,bv,hown,_⟩,hB'⟩ hK
  rw[List.length_range,←HL.out,range_itHAt]at hown
  obtain⟨A',c',rfl⟩:=own_form hown
  have hc1:=bv.cell
  have hOW:=Lib.hid hown
  clear hown
  gi_wp2_with fail
  refine⟨by simp,.inl ⟨_,_,rfl,run_takeDeferred hK,?_⟩⟩
  refine⟨.slice A' xs.length c',by simp[results,Tryz.results156,go_sem],⟨_,rfl,?_,hB'.trans (belowK_b (w:=w) (Nat.le_refl _) W D _ _ (by omega) hK rfl rfl)⟩⟩
  rw[←HL.out]
  exact ownsRow_putObj hOW.out _ hK rfl
 case stop=>
  rintro D c pre W _ _ h _
  exact h.elim
theorem collectI_any (xs:List ItH) (A:Option Addr) (n cap B Bs:Nat) (w:World) (hn:n≤1048576) (hB:B≤w.heap.size) (hs:Bs<w.heap.size) (hc:w.cell? ⟨Bs,0,none⟩=some (.slice A n cap)) (hr:Reads w B 2 A n (itsV xs)):
 Calls Tryz.prog 101 #[.func (.func 102) #[] #[.pointer (some ⟨Bs,0,none⟩)]] w fun e w'=>∃v,e= .returned v∧w'.ownsRow w.heap.size 52 2 v n (itsV xs)∧Below w.heap.size w w':=by
 have HK:=Lib.hid (appendSeqI_any xs A n cap B Bs w hn hB hs hc hr)
 clear hc hr
 go_enter Tryz.func101,Tryz.ntmps101
 go_wp2_with fail
 refine HK.out.mono ?_
 rintro e w' ⟨v,rfl,ho,hb⟩
 have HO:=Lib.hid ho
 clear ho
 go_wp2_with fail
 go_ret
 exact⟨_,rfl,HO.out,hb⟩
end Go.Proofs.YtpkeacnacjnlcaaGreat
