/- Points as keys of a map; join.of: the walk. -/
import Derived.Deep.CutBlock
import Derived.Test.YtpkeacnacjnlcaaGreatK03
import Derived.Test.YtpkeacnacjnlcaaGreatK14
import Derived.Test.YtpkeacnacjnlcaaGreatK16
import Derived.Test.YtpkeacnacjnlcaaGreatK23
import Derived.Test.YtpkeacnacjnlcaaGreatK27
import Derived.Test.YtpkeacnacjnlcaaGreatK30
import Derived.Test.YtpkeacnacjnlcaaGreatK32
namespace Go.Proofs.YtpkeacnacjnlcaaGreat
open Go.RowKit Go.Lib
attribute [local go_sem] Oper.semAt_some
def encP (q:Pt):Value:= .agg #[.int .i64 q.x,.int .i64 q.y]
def stepV (l:List Ed):List (Pt×Value):=l.map fun e=>(e.a,encP e.b)
theorem stepV_keys (l:List Ed):(stepV l).map (·.1)=l.map (·.a):=by simp[stepV]
theorem push_has {seen:Array Nat} {i j:Nat}:(seen.push i).contains j=true↔seen.contains j=true∨j=i:=by
 rw[Array.contains_iff_mem,Array.contains_iff_mem,Array.mem_push]
theorem key_eq {l:List Ed} (hn:(l.map (·.a)).Nodup) {e f:Ed} (he:e∈l) (hf:f∈l) (h:e.a=f.a):e=f:=by
 obtain⟨i,hi,rfl⟩:=List.getElem_of_mem he
 obtain⟨j,hj,rfl⟩:=List.getElem_of_mem hf
 have hij:i=j:=(List.getElem_inj (h₀:=by simpa using hi) (h₁:=by simpa using hj) hn).1 (by simpa using h)
 subst hij
 rfl
theorem nodup_keys {l:List Ed} (hn:(l.map (·.a)).Nodup):l.Nodup:=List.Pairwise.of_map (·.a) (fun a b h e=>h (by rw[e])) hn
theorem perm_both {a b:List Ed} (ha:a.Nodup) (hb:b.Nodup) (h:∀e,e∈a↔e∈b):a.Perm b:=by
 have sub:∀ {x y:List Ed},x.Nodup→(∀e∈x,e∈y)→x.length≤y.length:=fun {x y} hx hs=>by
  refine Classical.byContradiction fun hlt=>?_
  have:=(perm_of_sub hx hs (by omega)).length_eq
  omega
 exact perm_of_sub ha (fun e he=>(h e).1 he) (sub hb fun e he=>(h e).2 he)
structure SeenI (l t:List Ed) (seen:Array Nat) (l':List Ed):Prop where
 nd:(l'.map (·.a)).Nodup
 mem:∀e,e∈l'↔∃i,∃hi:i<l.length,seen.contains i=true∧l[i]=e∧e.back∉t
theorem SeenI.start (l t:List Ed):SeenI l t #[] []:=⟨List.nodup_nil,fun _=>⟨fun h=>(by simp at h),fun⟨i,_,h,_⟩=>(by simp at h)⟩⟩
theorem SeenI.skip {l t:List Ed} {seen:Array Nat} {l':List Ed} (h:SeenI l t seen l') {i:Nat} (hi:i<l.length) {e:Ed} (he:e=l[i]) (hb:e.back∈t):SeenI l t (seen.push i) l':=by
 refine⟨h.nd,fun f=>?_⟩
 rw[h.mem f]
 constructor
 ·rintro⟨j,hj,h1,h2,h3⟩
  exact⟨j,hj,push_has.2 (.inl h1),h2,h3⟩
 ·rintro⟨j,hj,h1,h2,h3⟩
  rcases push_has.1 h1 with h4|h4
  ·exact⟨j,hj,h4,h2,h3⟩
  ·subst h4
   rw[h2]at he
   rw[he]at hb
   exact absurd hb h3
theorem SeenI.put {l t:List Ed} {seen:Array Nat} {l':List Ed} (h:SeenI l t seen l') (hl:(l.map (·.a)).Nodup) {i:Nat} (hi:i<l.length) (hs:seen.contains i=false) {e:Ed} (he:e=l[i]) (hb:e.back∉t):look (stepV l') e.a=none∧SeenI l t (seen.push i) (l'++[e]):=by
 have hno:∀f∈l',f.a≠e.a:=fun f hf hk=>by
  obtain⟨j,hj,h1,h2,-⟩:=(h.mem f).1 hf
  have:=key_eq hl (show f∈l by rw[←h2];exact List.getElem_mem hj) (show e∈l by rw[he];exact List.getElem_mem hi) hk
  rw[←h2,he]at this
  have hij:j=i:=(List.getElem_inj (nodup_keys hl)).1 this
  rw[hij,hs]at h1
  cases h1
 refine⟨look_none.2 fun hx=>?_,?_,fun f=>?_⟩
 ·rw[stepV_keys]at hx
  obtain⟨f,hf,hk⟩:=List.mem_map.1 hx
  exact hno f hf hk
 ·rw[List.map_append,List.nodup_append]
  refine⟨h.nd,by simp,fun a ha b hb'=>?_⟩
  obtain⟨f,hf,rfl⟩:=List.mem_map.1 ha
  simp at hb'
  rw[hb']
  exact hno f hf
 ·rw[List.mem_append,List.mem_singleton,h.mem f]
  constructor
  ·rintro(⟨j,hj,h1,h2,h3⟩|rfl)
   ·exact⟨j,hj,push_has.2 (.inl h1),h2,h3⟩
   ·exact⟨i,hi,push_has.2 (.inr rfl),he.symm,hb⟩
  ·rintro⟨j,hj,h1,h2,h3⟩
   rcases push_has.1 h1 with h4|h4
   ·exact .inl ⟨j,hj,h4,h2,h3⟩
   ·subst h4
    exact .inr (by rw[he,h2])
theorem SeenI.done {l t:List Ed} {seen:Array Nat} {l':List Ed} (h:SeenI l t seen l') (hl:(l.map (·.a)).Nodup) (hall:∀i,i<l.length→seen.contains i=true):l'.Perm (stE l t):=by
 refine perm_both (nodup_keys h.nd) ((nodup_keys hl).filter _) fun e=>?_
 unfold stE
 rw[h.mem e,List.mem_filter]
 constructor
 ·rintro⟨i,hi,-,rfl,h2⟩
  exact⟨List.getElem_mem hi,by simpa using h2⟩
 ·rintro⟨h1,h2⟩
  obtain⟨i,hi,rfl⟩:=List.getElem_of_mem h1
  exact⟨i,hi,hall i hi,rfl,by simpa using h2⟩
/-- What plan.Walk has found out where its rounds end. -/
def FinW (l:List Ed) (out:List Pt):Prop:=(out.length≠l.length∨out=[]→¬ ∃c,CycE l c)∧(out.length=l.length→out≠[]→∃q,(⟨ptAt out (out.length-1),q⟩:Ed)∈l∧(q=ptAt out 0→CycE l out)∧(q≠ptAt out 0→¬ ∃c,CycE l c))
structure InW (l:List Ed) (seen:Array Nat) (out:List Pt) (q:Pt):Prop where
 path:PathE l out q
 start:∃e∈l,e.a=ptAt (out++[q]) 0
 one:∀j,0<j→j<out.length→ptAt out j≠ptAt out 0
 back:0<out.length→q≠ptAt out 0
 nd:seen.toList.Nodup
 lt:∀i∈seen.toList,i<l.length
 len:seen.size=out.length
theorem InW.le {l:List Ed} {seen:Array Nat} {out:List Pt} {q:Pt} (h:InW l seen out q):out.length≤l.length:=by
 refine Classical.byContradiction fun hlt=>?_
 have:=(perm_of_sub h.nd (l:=List.range l.length) (fun i hi=>List.mem_range.2 (h.lt i hi)) (by simp;have:=h.len;omega)).length_eq
 simp at this
 have:=h.len
 omega
theorem InW.all {l:List Ed} {seen:Array Nat} {out:List Pt} {q:Pt} (h:InW l seen out q) (ha:∀i,i<l.length→seen.contains i=true):out.length=l.length:=by
 have h1:=h.le
 refine Classical.byContradiction fun hne=>?_
 have:=(perm_of_sub (a:=List.range l.length) List.nodup_range (l:=seen.toList) (fun i hi=>by
  have:=ha i (List.mem_range.1 hi)
  rw[Array.contains_iff_mem]at this
  exact Array.mem_toList_iff.2 this) (by simp;have:=h.len;omega)).length_eq
 simp at this
 have:=h.len
 omega
theorem start_snoc {l:List Ed} {out:List Pt} {q r:Pt} (h:∃e∈l,e.a=ptAt (out++[q]) 0):∃e∈l,e.a=ptAt ((out++[q])++[r]) 0:=by
 rw[ptAt_app1 (xs:=out++[q]) (by simp)]
 exact h
theorem one_snoc {out:List Pt} {q:Pt} (h:∀j,0<j→j<out.length→ptAt out j≠ptAt out 0) (hb:0<out.length→q≠ptAt out 0):∀j,0<j→j<(out++[q]).length→ptAt (out++[q]) j≠ptAt (out++[q]) 0:=fun j h0 hj=>by
 rw[List.length_append,List.length_singleton]at hj
 by_cases h1:j<out.length
 ·rw[ptAt_app1 h1,ptAt_app1 (by omega)]
  exact h j h0 h1
 ·obtain rfl:j=out.length:=by omega
  rw[ptAt_app2,ptAt_app1 h0]
  exact hb h0
theorem InW.next {l:List Ed} {seen:Array Nat} {out:List Pt} {q:Pt} (h:InW l seen out q) {e:Ed} (he:e∈l) (hk:e.a=q) {i:Nat} (hi:i<l.length) (hs:seen.contains i=false) (hne:e.b≠ptAt (out++[q]) 0):InW l (seen.push i) (out++[q]) e.b:=by
 refine⟨h.path.snoc (by rw[←hk];exact he),start_snoc h.start,one_snoc h.one h.back,fun _=>hne,?_,fun j hj=>?_,by rw[Array.size_push,h.len];simp⟩
 ·rw[Array.toList_push,List.nodup_append]
  refine⟨h.nd,by simp,fun a ha b hb=>?_⟩
  simp at hb
  rw[hb]
  rintro rfl
  have:seen.contains a=true:=Array.contains_iff_mem.2 (Array.mem_toList_iff.1 ha)
  rw[hs]at this;cases this
 ·rw[Array.toList_push,List.mem_append,List.mem_singleton]at hj
  rcases hj with hj|rfl
  ·exact h.lt j hj
  ·exact hi
theorem InW.came {l:List Ed} {seen:Array Nat} {out:List Pt} {q:Pt} (hkey:∀e∈l,∀f∈l,e.a=f.a→e=f) (h:InW l seen out q) {e:Ed} (he:e∈l) (hk:e.a=q) {i:Nat} (hi:i<l.length) (hs:seen.contains i=false) (heq:e.b=ptAt (out++[q]) 0):FinW l (out++[q]):=by
 have hp:PathE l (out++[q]) e.b:=h.path.snoc (by rw[←hk];exact he)
 have hlt:out.length<l.length:=by
  have h1:=h.le
  refine Classical.byContradiction fun hn=>?_
  have hsz:seen.size=l.length:=by rw[h.len];omega
  have:=(perm_of_sub h.nd (l:=List.range l.length) (fun i hi=>List.mem_range.2 (h.lt i hi)) (by simp;omega)).mem_iff.2 (List.mem_range.2 hi)
  have:seen.contains i=true:=Array.contains_iff_mem.2 (Array.mem_toList_iff.1 this)
  rw[hs]at this;cases this
 refine⟨fun h1=>?_,fun hl hne=>⟨e.b,?_,fun _=>?_,fun h2=>absurd heq h2⟩⟩
 ·rintro⟨c,hc⟩
  obtain⟨d,d1,d2,-⟩:=cyc_start hc (start_snoc (r:=e.b) h.start)
  have hd:=d1.len
  have h3:=path_cyc d1 hp d2.symm (out++[q]).length (Nat.le_refl _) (by rw[hd];simp;omega)
  rw[ptAt_app2,heq]at h3
  rw[ptAt_app1 (by simp)]at d2
  rw[←d2]at h3
  have h4:0=(out++[q]).length%d.length:=nodup_ptAt d1.nd d1.pos (Nat.mod_lt _ d1.pos) h3
  rcases h1 with h1|h1
  ·rw[List.length_append,List.length_singleton]at h1 h4
   rw[Nat.mod_eq_of_lt (by omega)]at h4
   omega
  ·simp at h1
 ·have:=hp ((out++[q]).length-1) (by simp)
  rw[show (out++[q]).length-1+1=(out++[q]).length by simp,ptAt_app2,ptAt_app1 (by simp)]at this
  exact this
 ·rw[heq]at hp
  exact path_back hkey hne hp (one_snoc h.one h.back) hl
end Go.Proofs.YtpkeacnacjnlcaaGreat
