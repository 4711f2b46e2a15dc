/- Operations of a drawn region that move the world: the steps in short; Keys that rise: numbers as bytes, heads in common. Plain laws; frame.Sum: the walk: the CRC-32 of the bytes. -/
import Derived.WalkKit
import Derived.Test.YtpkeacnacjnlcaaGreatRows
import Derived.Test.YtpkeacnacjnlcaaGreatK01
import Derived.Test.YtpkeacnacjnlcaaGreatK02
namespace Go.Proofs.YtpkeacnacjnlcaaGreat
open Go Go.RowKit
section
variable {P:Program} {ops:Array Oper} {Q:Exit→Act→World→Prop} {md:Region.Mode} {S:World→Prop}
theorem sb0 {α:Type} {l:List α} {i:Nat} {a:α}:l.toArray.setIfInBounds i a=(l.set i a).toArray:=List.setIfInBounds_toArray ..
theorem sc0 {α:Type} {x a:α} {l:List α}:(x::l).set 0 a=a::l:=List.set_cons_zero
theorem sc1 {α:Type} {x a:α} {l:List α} {i:Nat}:(x::l).set (i+1) a=x::l.set i a:=List.set_cons_succ
/-- Operation i comes up, and all is well behind it. -/
def OneH (P:Program) (md:Region.Mode) (ops:Array Oper) (Q:Exit→Act→World→Prop) (S:World→Prop) (fuel:Nat) (l:Array Bool) (a:Act) (w:World) (i:Nat):Prop:=
 wpOp P ops Q i (fun a' w'=>S w'∧wpAnyH P md ops Q S fuel (l.setIfInBounds i true) a' w') a w
theorem oneH (i:Nat) {fuel:Nat} {l:Array Bool} {a:Act} {w:World} (h:OneH P md ops Q S fuel l a w i) (hr:Region.ready md ops l=[i]:=by kernel_rfl):wpAnyH P md ops Q S (fuel+1) l a w:=
 wpAnyH_ready hr (by simp) fun j hj=>by rw[List.mem_singleton.1 hj];exact h
theorem rdH {i:Nat} {o:Oper} {fuel:Nat} {l:Array Bool} {a:Act} {w:World}
 (h:∀K':Act→World→Prop,Shut (∀a w,S w→(S w→wpAnyH P md ops Q S fuel (l.setIfInBounds i true) a w)→K' a w)→if Region.wanted o (yielded ops a.tmps)=true then Oper.wp P o a w K' Q else K' (a.put o.dst undef) w)
 (ho:ops[i]?=some o:=by rfl):OneH P md ops Q S fuel l a w i:=AllReadyH.cons ho h AllReadyH.nil i (List.mem_singleton.2 rfl)
theorem twoH (i j:Nat) {fuel:Nat} {l:Array Bool} {a:Act} {w:World} (h:OneH P md ops Q S fuel l a w i) (h':OneH P md ops Q S fuel l a w j) (hr:Region.ready md ops l=[i,j]:=by kernel_rfl):wpAnyH P md ops Q S (fuel+1) l a w:=
 wpAnyH_ready hr (by simp) fun k hk=>by
  rcases List.mem_cons.1 hk with e|hk
  ·rw[e];exact h
  ·rw[List.mem_singleton.1 hk];exact h'
theorem threeH (i j m:Nat) {fuel:Nat} {l:Array Bool} {a:Act} {w:World} (h:OneH P md ops Q S fuel l a w i) (h':OneH P md ops Q S fuel l a w j) (h'':OneH P md ops Q S fuel l a w m) (hr:Region.ready md ops l=[i,j,m]:=by kernel_rfl):wpAnyH P md ops Q S (fuel+1) l a w:=
 wpAnyH_ready hr (by simp) fun k hk=>by
  rcases List.mem_cons.1 hk with e|hk
  ·rw[e];exact h
  ·rcases List.mem_cons.1 hk with e|hk
   ·rw[e];exact h'
   ·rw[List.mem_singleton.1 hk];exact h''
theorem rd1 (i:Nat) {o:Oper} {fuel:Nat} {l:Array Bool} {a:Act} {w:World}
 (h:∀K':Act→World→Prop,Shut (∀a w,S w→(S w→wpAnyH P md ops Q S fuel (l.setIfInBounds i true) a w)→K' a w)→if Region.wanted o (yielded ops a.tmps)=true then Oper.wp P o a w K' Q else K' (a.put o.dst undef) w)
 (ho:ops[i]?=some o:=by rfl) (hr:Region.ready md ops l=[i]:=by kernel_rfl):wpAnyH P md ops Q S (fuel+1) l a w:=wpAnyH_ready hr (by simp) (AllReadyH.cons ho h AllReadyH.nil)
theorem rd2 (i j:Nat) {o o':Oper} {fuel:Nat} {l:Array Bool} {a:Act} {w:World}
 (h:∀K':Act→World→Prop,Shut (∀a w,S w→(S w→wpAnyH P md ops Q S fuel (l.setIfInBounds i true) a w)→K' a w)→if Region.wanted o (yielded ops a.tmps)=true then Oper.wp P o a w K' Q else K' (a.put o.dst undef) w)
 (h':∀K':Act→World→Prop,Shut (∀a w,S w→(S w→wpAnyH P md ops Q S fuel (l.setIfInBounds j true) a w)→K' a w)→if Region.wanted o' (yielded ops a.tmps)=true then Oper.wp P o' a w K' Q else K' (a.put o'.dst undef) w)
 (ho:ops[i]?=some o:=by rfl) (ho':ops[j]?=some o':=by rfl) (hr:Region.ready md ops l=[i,j]:=by kernel_rfl):wpAnyH P md ops Q S (fuel+1) l a w:=wpAnyH_ready hr (by simp) (AllReadyH.cons ho h (AllReadyH.cons ho' h' AllReadyH.nil))
theorem rd3 (i j m:Nat) {o o' p:Oper} {fuel:Nat} {l:Array Bool} {a:Act} {w:World}
 (h:∀K':Act→World→Prop,Shut (∀a w,S w→(S w→wpAnyH P md ops Q S fuel (l.setIfInBounds i true) a w)→K' a w)→if Region.wanted o (yielded ops a.tmps)=true then Oper.wp P o a w K' Q else K' (a.put o.dst undef) w)
 (h':∀K':Act→World→Prop,Shut (∀a w,S w→(S w→wpAnyH P md ops Q S fuel (l.setIfInBounds j true) a w)→K' a w)→if Region.wanted o' (yielded ops a.tmps)=true then Oper.wp P o' a w K' Q else K' (a.put o'.dst undef) w)
 (h'':∀K':Act→World→Prop,Shut (∀a w,S w→(S w→wpAnyH P md ops Q S fuel (l.setIfInBounds m true) a w)→K' a w)→if Region.wanted p (yielded ops a.tmps)=true then Oper.wp P p a w K' Q else K' (a.put p.dst undef) w)
 (ho:ops[i]?=some o:=by rfl) (ho':ops[j]?=some o':=by rfl) (ho'':ops[m]?=some p:=by rfl) (hr:Region.ready md ops l=[i,j,m]:=by kernel_rfl):wpAnyH P md ops Q S (fuel+1) l a w:=wpAnyH_ready hr (by simp) (AllReadyH.cons ho h (AllReadyH.cons ho' h' (AllReadyH.cons ho'' h'' AllReadyH.nil)))
theorem app1 {o:Oper} {a:Act} {w:World} {K:Act→World→Prop} {E:Prop} (s x:Operand) (t:TypeId) (base:Nat) (e:TypeId) (i:TypeInfo) (z:Value) (size bytes:Nat) (ht:P.underlying t=some (.slice e)) (hi:P.info? e=some i) (hz:i.zero=some z)
 (hsize:i.size=size) (hby:i.bytes=bytes) (v:Value) (n:Nat) (xs:List Value) (hown:w.ownsRow base e size v n xs)
 (B:Nat) (A:Option Addr) (m c:Nat) (news:List Value) (hr:Reads w B size A m news) (h1:∀u∈news,u.oneCell'=true)
 (h63:n+m≤maxLen) (hbytes:(n+m)*bytes≤140737488355328) (hbase:base≤w.heap.size)
 (h:∀v' w',w'.ownsRow base e size v' (n+m) (xs++news)→w.grownBy w' v.ownBlock→(v'.ownBlock=v.ownBlock∨v'.ownBlock=some w.heap.size)→K (a.put o.dst v') w')
 (hop:o.op= .call { callee:= .builtin .append,args:=#[s,x],argTypes:=#[t,t] }:=by rfl) (hg:o.guard=none:=by rfl) (hs:a.eval s=v:=by rfl) (hx:a.eval x= .slice A m c:=by rfl) (hzs:z.cells.size=size:=by rfl) (hsz:0<size:=by exact Nat.zero_lt_succ _):
 if Region.wanted o (yielded ops a.tmps)=true then Oper.wp P o a w K Q else E:=
 step_append_any _ hg s x t hop base e i z size bytes ht hi hz hsize hby hzs hsz v n xs hs hown B A m c news hx hr h1 h63 hbytes hbase h
/-- What is to be shown behind a call. -/
def Nxt (P:Program) (md:Region.Mode) (ops:Array Oper) (Q:Exit→Act→World→Prop) (S:World→Prop) (fuel:Nat) (l:Array Bool) (a:Act) (dst:Option Nat) (e:Ending) (w:World):Prop:=
 ∃v,e= .returned v∧S w∧(S w→wpAnyH P md ops Q S fuel l (a.put dst v) w)
theorem nxt {fuel:Nat} {l:Array Bool} {a a1:Act} {dst:Option Nat} {v:Value} {w:World} (hS:S w) (h:S w→wpAnyH P md ops Q S fuel l a1 w)
 (ha:a.put dst v=a1:=by conv=>(lhs;simp only[Act.put,List.setIfInBounds_toArray,List.set_cons_zero,List.set_cons_succ,List.getElem_toArray,List.getElem_cons_zero,List.getElem_cons_succ])):Nxt P md ops Q S fuel l a dst (.returned v) w:=⟨v,rfl,hS,by subst ha;exact h⟩
/-- A call of a Go function, by its contract. -/
theorem callH {i:Nat} {o:Oper} {f:FuncId} {args:Array Value} {R:Ending→World→Prop} {fuel:Nat} {l l1:Array Bool} {a:Act} {w:World} (hc:Calls P f args w R)
 (h:∀e w',R e w'→Nxt P md ops Q S fuel l1 a o.dst e w')
 (ho:ops[i]?=some o:=by rfl) (hw:Region.wanted o (yielded ops a.tmps)=true:=by first|rfl|kernel_rfl)
 (hrun:(execOp a.eval o).run P w= .ok (.enter f args) w:=by go_simp)
 (hl:l.setIfInBounds i true=l1:=by conv=>(lhs;simp only[List.setIfInBounds_toArray,List.set_cons_zero,List.set_cons_succ])):OneH P md ops Q S fuel l a w i:=by
 subst hl
 refine wpOp_step ho fun K' hK=>?_
 rw[if_pos hw]
 unfold Oper.wp
 rw[hrun,Oper.upon_enter]
 refine hc.mono fun e w' hR=>?_
 obtain⟨v,rfl,hS,hn⟩:=h e w' hR
 exact hK _ _ ⟨hS,hn hS⟩
/-- An operation that yields a value and may move the world. -/
theorem yieldH {i:Nat} {o:Oper} {v:Value} {w':World} {fuel:Nat} {l l1:Array Bool} {a a1:Act} {w:World} (hS:S w') (h:S w'→wpAnyH P md ops Q S fuel l1 a1 w')
 (ho:ops[i]?=some o:=by rfl) (hw:Region.wanted o (yielded ops a.tmps)=true:=by first|rfl|kernel_rfl)
 (hrun:(execOp a.eval o).run P w= .ok (.value v) w':=by go_simp;try with_reducible rfl)
 (hl:l.setIfInBounds i true=l1:=by conv=>(lhs;simp only[List.setIfInBounds_toArray,List.set_cons_zero,List.set_cons_succ]))
 (ha:a.put o.dst v=a1:=by conv=>(lhs;simp only[Act.put,List.setIfInBounds_toArray,List.set_cons_zero,List.set_cons_succ,List.getElem_toArray,List.getElem_cons_zero,List.getElem_cons_succ])):OneH P md ops Q S fuel l a w i:=by
 subst hl ha
 refine wpOp_step ho fun K' hK=>?_
 rw[if_pos hw]
 unfold Oper.wp
 rw[hrun]
 exact hK _ _ ⟨hS,h hS⟩
/-- The built-in append. -/
theorem appH {i:Nat} {o:Oper} {fuel:Nat} {l l1:Array Bool} {a:Act} {w:World} (s x:Operand) (t:TypeId) (base:Nat) (e:TypeId) (inf:TypeInfo) (z:Value) (size bytes:Nat) (ht:P.underlying t=some (.slice e)) (hi:P.info? e=some inf) (hz:inf.zero=some z)
 (hsize:inf.size=size) (hby:inf.bytes=bytes) (v:Value) (n:Nat) (xs:List Value) (hown:w.ownsRow base e size v n xs)
 (B:Nat) (A:Option Addr) (m c:Nat) (news:List Value) (hr:Reads w B size A m news) (h1:∀u∈news,u.oneCell'=true)
 (h63:n+m≤maxLen) (hbytes:(n+m)*bytes≤140737488355328) (hbase:base≤w.heap.size)
 (h:∀v' w',w'.ownsRow base e size v' (n+m) (xs++news)→w.grownBy w' v.ownBlock→(v'.ownBlock=v.ownBlock∨v'.ownBlock=some w.heap.size)→Nxt P md ops Q S fuel l1 a o.dst (.returned v') w')
 (ho:ops[i]?=some o:=by rfl) (hop:o.op= .call { callee:= .builtin .append,args:=#[s,x],argTypes:=#[t,t] }:=by rfl) (hg:o.guard=none:=by rfl) (hs:a.eval s=v:=by rfl) (hx:a.eval x= .slice A m c:=by rfl) (hzs:z.cells.size=size:=by rfl) (hsz:0<size:=by exact Nat.zero_lt_succ _)
 (hl:l.setIfInBounds i true=l1:=by conv=>(lhs;simp only[List.setIfInBounds_toArray,List.set_cons_zero,List.set_cons_succ])):OneH P md ops Q S fuel l a w i:=by
 subst hl
 refine wpOp_step ho fun K' hK=>?_
 refine step_append_any _ hg s x t hop base e inf z size bytes ht hi hz hsize hby hzs hsz v n xs hs hown B A m c news hx hr h1 h63 hbytes hbase fun v' w' h2 h3 h4=>?_
 obtain⟨v2,e2,hS,hn⟩:=h v' w' h2 h3 h4
 cases e2
 exact hK _ _ ⟨hS,hn hS⟩
/-- A store. -/
theorem storeH {i:Nat} {o:Oper} {w':World} {fuel:Nat} {l l1:Array Bool} {a:Act} {w:World} (hS:S w') (h:S w'→wpAnyH P md ops Q S fuel l1 a w')
 (ho:ops[i]?=some o:=by rfl) (hd:o.dst=none:=by rfl) (hw:Region.wanted o (yielded ops a.tmps)=true:=by first|rfl|kernel_rfl)
 (hrun:(execOp a.eval o).run P w= .ok .skip w':=by go_simp)
 (hl:l.setIfInBounds i true=l1:=by conv=>(lhs;simp only[List.setIfInBounds_toArray,List.set_cons_zero,List.set_cons_succ])):OneH P md ops Q S fuel l a w i:=by
 subst hl
 refine wpOp_step ho fun K' hK=>?_
 rw[if_pos hw]
 unfold Oper.wp
 rw[hrun]
 show K' (a.put o.dst undef) w'
 rw[hd]
 exact hK _ _ ⟨hS,h hS⟩
end
end Go.Proofs.YtpkeacnacjnlcaaGreat
namespace Go.Proofs.YtpkeacnacjnlcaaGreat
open Go.Lib (compareBytes)
theorem cb_cons (c:UInt8) (a b:List UInt8):compareBytes (c::a) (c::b)=compareBytes a b:=by
 rw[compareBytes.eq_def]
 simp only
 rw[if_neg (UInt8.lt_irrefl c),if_neg (UInt8.lt_irrefl c)]
theorem ltK_cons {c:UInt8} {a b:List UInt8}:ltK (c::a) (c::b)↔ltK a b:=by unfold ltK;rw[cb_cons]
theorem ltK_head {c d:UInt8} {a b:List UInt8} (h:c<d):ltK (c::a) (d::b):=by
 unfold ltK compareBytes
 rw[if_pos h]
 decide
theorem ltK_left:∀ {u a b:List UInt8},ltK a b→ltK (u++a) (u++b)
 |[],_,_,h=>h
 |_::_,_,_,h=>ltK_cons.2 (ltK_left h)
theorem ltK_append:∀ {a b u v:List UInt8},a.length=b.length→ltK a b→ltK (a++u) (b++v)
 |[],[],_,_,_,h=>absurd h (ltK_irrefl _)
 |[],_::_,_,_,h,_=>by simp at h
 |_::_,[],_,_,h,_=>by simp at h
 |c::a,d::b,u,v,h,h2=>by
  by_cases e:c=d
  ·subst e
   exact ltK_cons.2 (ltK_append (by simpa using h) (ltK_cons.1 h2))
  ·have:c<d:=by
    by_cases hc:c<d
    ·exact hc
    ·exfalso
     have hd:d<c:=UInt8.lt_of_le_of_ne (UInt8.not_lt.1 hc) (Ne.symm e)
     exact ltK_asymm h2 (ltK_head hd)
   exact ltK_head this
theorem numL_fold (l:List UInt8):∀n:Nat,l.foldl (fun n b=>n*256+b.toNat) n=n*256^l.length+l.foldl (fun n b=>n*256+b.toNat) 0:=by
 induction l with
 |nil=>intro n;simp
 |cons a l ih=>
  intro n
  rw[List.foldl_cons,List.foldl_cons,ih,ih (0*256+a.toNat),List.length_cons,Nat.pow_succ]
  have:(n*256+a.toNat)*256^l.length=n*(256^l.length*256)+a.toNat*256^l.length:=by
   rw[Nat.add_mul,Nat.mul_assoc,Nat.mul_comm 256]
  rw[this,Nat.zero_mul,Nat.zero_add]
  omega
theorem numL_cons (a:UInt8) (l:List UInt8):numL (a::l)=a.toNat*256^l.length+numL l:=by
 unfold numL
 rw[List.foldl_cons,numL_fold]
 simp
theorem ltK_num:∀ {a b:List UInt8},a.length=b.length→numL a<numL b→ltK a b
 |[],[],_,h=>absurd h (Nat.lt_irrefl _)
 |[],_::_,h,_=>by simp at h
 |_::_,[],h,_=>by simp at h
 |c::a,d::b,h,h2=>by
  have hl:a.length=b.length:=by simpa using h
  rw[numL_cons,numL_cons,hl]at h2
  by_cases e:c=d
  ·subst e
   exact ltK_cons.2 (ltK_num hl (by omega))
  ·refine ltK_head ?_
   by_cases hc:c<d
   ·exact hc
   ·exfalso
    have hd:d<c:=UInt8.lt_of_le_of_ne (UInt8.not_lt.1 hc) (Ne.symm e)
    have h3:d.toNat+1≤c.toNat:=UInt8.lt_iff_toNat_lt.1 hd
    have h4:=Nat.mul_le_mul_right (256^b.length) h3
    rw[Nat.succ_mul]at h4
    have h5:=numL_lt b
    omega
theorem ltK_beB {n m s:Nat} (h:n<m) (hm:m<256^s):ltK (beB n s) (beB m s):=
 ltK_num (by rw[beB_length,beB_length]) (by rw[numL_beB,numL_beB,Nat.mod_eq_of_lt hm,Nat.mod_eq_of_lt (Nat.lt_trans h hm)];exact h)
end Go.Proofs.YtpkeacnacjnlcaaGreat
namespace Go.Proofs.YtpkeacnacjnlcaaGreat
open Go.RowKit
def u8s (l:List UInt8):List Value:=l.map fun b=> .int .u8 (b.toNat:Int)
theorem u8s_length (l:List UInt8):(u8s l).length=l.length:=by simp[u8s]
theorem u8s_get {l:List UInt8} {k:Nat} {u:Value} (h:(u8s l)[k]?=some u):∃hk:k<l.length,u= .int .u8 ((l[k]'hk).toNat:Int):=by
 have hk:k<l.length:=by
  have:=(List.getElem?_eq_some_iff.1 h).1
  rwa [u8s_length]at this
 refine⟨hk,?_⟩
 simp only[u8s,List.getElem?_map,List.getElem?_eq_getElem hk,Option.map_some,Option.some.injEq]at h
 exact h.symm
theorem Reads.byte {w:World} {B n:Nat} {A:Option Addr} {l:List UInt8} (h:Reads w B 1 A n (u8s l)) {k:Nat} (hk:k<n):
 ∃ad,A=some ad∧ad.block<B∧∃hk':k<l.length,w.cell? (ad.add k)=some (.int .u8 ((l[k]'hk').toNat:Int)):=by
 obtain⟨ad,u,e,hb,hu,hc⟩:=h.at_ hk
 obtain⟨hk',rfl⟩:=u8s_get hu
 exact⟨ad,e,hb,hk',hc⟩
theorem Reads.len8 {w:World} {B n:Nat} {A:Option Addr} {l:List UInt8} (h:Reads w B 1 A n (u8s l)):l.length=n:=by
 have:=h.1
 rw[u8s_length]at this
 omega
end Go.Proofs.YtpkeacnacjnlcaaGreat
