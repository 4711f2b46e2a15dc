/- Plain law: steps of a border, and the one closed way that they make, wherever it is begun. -/
import Derived.Test.YtpkeacnacjnlcaaGreatK30
namespace Go.Proofs.YtpkeacnacjnlcaaGreat
/-- A closed way of steps: all of them, each once. -/
structure CycE (l:List Ed) (c:List Pt):Prop where
 ne:c≠[]
 nd:c.Nodup
 len:c.length=l.length
 sub:∀k,k<c.length→(⟨ptAt c k,ptAt c ((k+1)%c.length)⟩:Ed)∈l
theorem CycE.pos {l:List Ed} {c:List Pt} (h:CycE l c):0<c.length:=List.length_pos_iff.2 h.ne
theorem perm_of_sub {α:Type} [DecidableEq α]:∀ {a l:List α},a.Nodup→(∀x∈a,x∈l)→l.length≤a.length→a.Perm l
 |[],l,_,_,h=>by
  have:l=[]:=List.eq_nil_of_length_eq_zero (by simpa using h)
  subst this
  exact .nil
 |x::a,l,hn,hs,h=>by
  obtain⟨h1,h2⟩:=List.nodup_cons.1 hn
  have hx:x∈l:=hs x (by simp)
  have hp:l.Perm (x::l.erase x):=List.perm_cons_erase hx
  have hl:(l.erase x).length=l.length-1:=List.length_erase_of_mem hx
  refine List.Perm.trans ?_ hp.symm
  refine List.Perm.cons x (perm_of_sub h2 (fun y hy=>?_) (by rw[hl];simp at h;omega))
  have hy2:y∈l:=hs y (by simp[hy])
  exact(List.mem_erase_of_ne (fun e=>h1 (by rw[←e];exact hy))).2 hy2
theorem edgesOf_at {c:List Pt} {e:Ed} (h:e∈edgesOf c):∃k,k<c.length∧e=⟨ptAt c k,ptAt c ((k+1)%c.length)⟩:=by
 unfold edgesOf at h
 obtain⟨k,h1,h2⟩:=List.mem_map.1 h
 exact⟨k,List.mem_range.1 h1,h2.symm⟩
theorem edgesOf_in {c:List Pt} {k:Nat} (h:k<c.length):(⟨ptAt c k,ptAt c ((k+1)%c.length)⟩:Ed)∈edgesOf c:=by
 unfold edgesOf
 exact List.mem_map.2 ⟨k,List.mem_range.2 h,rfl⟩
theorem edgesOf_nd {c:List Pt} (hn:c.Nodup):(edgesOf c).Nodup:=by
 unfold edgesOf
 refine List.Pairwise.map _ (fun a b h=>h) ?_
 refine List.pairwise_iff_getElem.2 fun i j hi hj hij he=>?_
 simp only[List.length_range]at hi hj
 simp only[List.getElem_range,Ed.mk.injEq]at he
 have:=nodup_ptAt hn hi hj he.1
 omega
theorem CycE.perm {l:List Ed} {c:List Pt} (h:CycE l c):(edgesOf c).Perm l:=by
 refine perm_of_sub (edgesOf_nd h.nd) (fun e he=>?_) (by rw[←h.len];simp[edgesOf])
 obtain⟨k,hk,rfl⟩:=edgesOf_at he
 exact h.sub k hk
theorem CycE.of {l:List Ed} {c:List Pt} (h0:c≠[]) (hn:c.Nodup) (hp:(edgesOf c).Perm l):CycE l c:=
 ⟨h0,hn,by have:=hp.length_eq;simpa[edgesOf]using this,fun k hk=>hp.mem_iff.1 (edgesOf_in hk)⟩
theorem CycE.at_ {l:List Ed} {c:List Pt} (h:CycE l c) {e:Ed} (he:e∈l):∃k,k<c.length∧e=⟨ptAt c k,ptAt c ((k+1)%c.length)⟩:=edgesOf_at (h.perm.mem_iff.2 he)
theorem CycE.key {l:List Ed} {c:List Pt} (h:CycE l c) {e f:Ed} (he:e∈l) (hf:f∈l) (hk:e.a=f.a):e=f:=by
 obtain⟨i,hi,rfl⟩:=h.at_ he
 obtain⟨j,hj,rfl⟩:=h.at_ hf
 have:=nodup_ptAt h.nd hi hj hk
 rw[this]
theorem CycE.rot_ {l:List Ed} {c:List Pt} (h:CycE l c) {j:Nat} (hj:j<c.length):CycE l (rot j c):=by
 have hl:=rot_len (k:=j) (xs:=c) (by omega)
 refine⟨fun e=>?_,rot_nodup j h.nd,by rw[hl];exact h.len,fun k hk=>?_⟩
 ·rw[e]at hl;have:=h.pos;simp at hl;omega
 ·rw[hl]at hk ⊢
  rw[ptAt_rot hj hk,ptAt_rot hj (Nat.mod_lt _ (by omega))]
  have e:(j+(k+1)%c.length)%c.length=((j+k)%c.length+1)%c.length:=by
   rw[Nat.add_mod_mod,Nat.mod_add_mod,Nat.add_assoc]
  rw[e]
  exact h.sub _ (Nat.mod_lt _ (by omega))
/-- A way of steps from its first corner to a next one. -/
def PathE (l:List Ed) (out:List Pt) (q:Pt):Prop:=∀j,j<out.length→(⟨ptAt (out++[q]) j,ptAt (out++[q]) (j+1)⟩:Ed)∈l
theorem ptAt_app1 {xs ys:List Pt} {j:Nat} (h:j<xs.length):ptAt (xs++ys) j=ptAt xs j:=by unfold ptAt;rw[List.getElem?_append_left h]
theorem ptAt_app2 (xs:List Pt) (q:Pt):ptAt (xs++[q]) xs.length=q:=by unfold ptAt;simp
theorem PathE.nil (l:List Ed) (q:Pt):PathE l [] q:=fun _ hj=>absurd hj (Nat.not_lt_zero _)
theorem PathE.snoc {l:List Ed} {out:List Pt} {q r:Pt} (h:PathE l out q) (he:(⟨q,r⟩:Ed)∈l):PathE l (out++[q]) r:=fun j hj=>by
 rw[List.length_append,List.length_singleton]at hj
 by_cases h1:j<out.length
 ·rw[ptAt_app1 (by simp;omega)]
  have h2:=h j h1
  rw[ptAt_app1 (xs:=out++[q]) (ys:=[r]) (by simp;omega)]
  exact h2
 ·obtain rfl:j=out.length:=by omega
  rw[ptAt_app1 (by simp),ptAt_app2]
  have e:ptAt (out++[q]++[r]) (out.length+1)=r:=by
   have:=ptAt_app2 (out++[q]) r
   rwa [List.length_append,List.length_singleton]at this
  rw[e]
  exact he
/-- A way of steps goes along the closed one. -/
theorem path_cyc {l:List Ed} {d out:List Pt} {q:Pt} (hc:CycE l d) (hp:PathE l out q) (h0:ptAt (out++[q]) 0=ptAt d 0):∀j,j≤out.length→j≤d.length→ptAt (out++[q]) j=ptAt d (j%d.length):=fun j=>by
 have hd:=hc.pos
 induction j with
 |zero=>intro _ _;rw[Nat.zero_mod];exact h0
 |succ j ih=>
  intro h1 h2
  have e1:=ih (by omega) (by omega)
  have hj:j%d.length=j:=Nat.mod_eq_of_lt (by omega)
  rw[hj]at e1
  have k1:=hp j (by omega)
  have k2:=hc.sub j (by omega)
  have:=hc.key k1 k2 e1
  exact(Ed.mk.inj this).2
theorem cyc_start {l:List Ed} {c:List Pt} (h:CycE l c) {x:Pt} (hx:∃e∈l,e.a=x):∃d,CycE l d∧ptAt d 0=x∧lst d=lst c:=by
 obtain⟨e,he,rfl⟩:=hx
 obtain⟨k,hk,rfl⟩:=h.at_ he
 refine⟨rot k c,h.rot_ hk,?_,lst_rot h.nd hk⟩
 rw[ptAt_rot hk h.pos,Nat.add_zero,Nat.mod_eq_of_lt hk]
theorem CycE.path {l:List Ed} {c:List Pt} (h:CycE l c):PathE l c (ptAt c 0):=fun j hj=>by
 have h1:=h.sub j hj
 rw[ptAt_app1 hj]
 by_cases h2:j+1<c.length
 ·rw[Nat.mod_eq_of_lt h2]at h1
  rw[ptAt_app1 h2]
  exact h1
 ·have e:j+1=c.length:=by omega
  rw[e,Nat.mod_self]at h1
  rw[e,ptAt_app2]
  exact h1
/-- A way of steps that has come back at the right time is closed. -/
theorem path_back {l:List Ed} {out:List Pt} (hk:∀e∈l,∀f∈l,e.a=f.a→e=f) (h0:out≠[]) (hp:PathE l out (ptAt out 0)) (hb:∀j,0<j→j<out.length→ptAt out j≠ptAt out 0) (hl:out.length=l.length):CycE l out:=by
 have hpos:0<out.length:=List.length_pos_iff.2 h0
 have hsub:∀k,k<out.length→(⟨ptAt out k,ptAt out ((k+1)%out.length)⟩:Ed)∈l:=fun k hk'=>by
  have h1:=hp k hk'
  rw[ptAt_app1 hk']at h1
  by_cases h2:k+1<out.length
  ·rw[ptAt_app1 h2]at h1
   rw[Nat.mod_eq_of_lt h2]
   exact h1
  ·have e:k+1=out.length:=by omega
   rw[e,ptAt_app2]at h1
   rw[e,Nat.mod_self]
   exact h1
 refine⟨h0,?_,hl,hsub⟩
 have key:∀i j,i<j→j<out.length→ptAt out i=ptAt out j→False:=fun i j hij hj he=>by
  have step:∀t,j+t≤out.length→ptAt out ((i+t)%out.length)=ptAt out ((j+t)%out.length):=fun t=>by
   induction t with
   |zero=>intro _;rw[Nat.add_zero,Nat.add_zero,Nat.mod_eq_of_lt (by omega),Nat.mod_eq_of_lt hj];exact he
   |succ t ih=>
    intro ht
    have e1:=ih (by omega)
    have k1:=hsub ((i+t)%out.length) (Nat.mod_lt _ hpos)
    have k2:=hsub ((j+t)%out.length) (Nat.mod_lt _ hpos)
    have:=(Ed.mk.inj (hk _ k1 _ k2 e1)).2
    rw[Nat.mod_add_mod,Nat.mod_add_mod]at this
    exact this
  have h1:=step (out.length-j) (by omega)
  rw[show j+(out.length-j)=out.length by omega,Nat.mod_self,Nat.mod_eq_of_lt (by omega)]at h1
  exact hb _ (by omega) (by omega) h1
 refine List.pairwise_iff_getElem.2 fun i j hi hj hij he=>key i j hij hj ?_
 rw[ptAt_lt hi,ptAt_lt hj]
 exact he
/-- What two borders have left when they are taken together. -/
def stE (a b:List Ed):List Ed:=a.filter fun e=>decide (e.back∉b)
end Go.Proofs.YtpkeacnacjnlcaaGreat
