/- Operations of a drawn region that move the world: the steps in short; What lies beside PtW; Keys that rise: numbers as bytes, heads in common. Plain laws; What has to be put, and what goes, to come from some items to others: the plain law of RecordDelta. -/
import Derived.Test.YtpkeacnacjnlcaaGreatK01
namespace Go.Proofs.YtpkeacnacjnlcaaGreat
open Go Go.RowKit
section
variable {P:Program} {ops:Array Oper} {Q:Exit→Act→World→Prop} {md:Region.Mode} {S:World→Prop}
theorem sb0 {α:Type} {l:List α} {i:Nat} {a:α}:l.toArray.setIfInBounds i a=(l.set i a).toArray:=List.setIfInBounds_toArray ..
theorem sc0 {α:Type} {x a:α} {l:List α}:(x::l).set 0 a=a::l:=List.set_cons_zero
theorem sc1 {α:Type} {x a:α} {l:List α} {i:Nat}:(x::l).set (i+1) a=x::l.set i a:=List.set_cons_succ
/-- Operation i comes up, and all is well behind it. -/
def OneH (P:Program) (md:Region.Mode) (ops:Array Oper) (Q:Exit→Act→World→Prop) (S:World→Prop) (fuel:Nat) (l:Array Bool) (a:Act) (w:World) (i:Nat):Prop:=
 wpOp P ops Q i (fun a' w'=>S w'∧wpAnyH P md ops Q S fuel (l.setIfInBounds i true) a' w') a w
theorem oneH (i:Nat) {fuel:Nat} {l:Array Bool} {a:Act} {w:World} (h:OneH P md ops Q S fuel l a w i) (hr:Region.ready md ops l=[i]:=by kernel_rfl):wpAnyH P md ops Q S (fuel+1) l a w:=
 wpAnyH_ready hr (by simp) fun j hj=>by rw[List.mem_singleton.1 hj];exact h
theorem rd1 (i:Nat) {o:Oper} {fuel:Nat} {l:Array Bool} {a:Act} {w:World}
 (h:∀K':Act→World→Prop,Shut (∀a w,S w→(S w→wpAnyH P md ops Q S fuel (l.setIfInBounds i true) a w)→K' a w)→if Region.wanted o (yielded ops a.tmps)=true then Oper.wp P o a w K' Q else K' (a.put o.dst undef) w)
 (ho:ops[i]?=some o:=by rfl) (hr:Region.ready md ops l=[i]:=by kernel_rfl):wpAnyH P md ops Q S (fuel+1) l a w:=wpAnyH_ready hr (by simp) (AllReadyH.cons ho h AllReadyH.nil)
theorem rd2 (i j:Nat) {o o':Oper} {fuel:Nat} {l:Array Bool} {a:Act} {w:World}
 (h:∀K':Act→World→Prop,Shut (∀a w,S w→(S w→wpAnyH P md ops Q S fuel (l.setIfInBounds i true) a w)→K' a w)→if Region.wanted o (yielded ops a.tmps)=true then Oper.wp P o a w K' Q else K' (a.put o.dst undef) w)
 (h':∀K':Act→World→Prop,Shut (∀a w,S w→(S w→wpAnyH P md ops Q S fuel (l.setIfInBounds j true) a w)→K' a w)→if Region.wanted o' (yielded ops a.tmps)=true then Oper.wp P o' a w K' Q else K' (a.put o'.dst undef) w)
 (ho:ops[i]?=some o:=by rfl) (ho':ops[j]?=some o':=by rfl) (hr:Region.ready md ops l=[i,j]:=by kernel_rfl):wpAnyH P md ops Q S (fuel+1) l a w:=wpAnyH_ready hr (by simp) (AllReadyH.cons ho h (AllReadyH.cons ho' h' AllReadyH.nil))
theorem rd3 (i j m:Nat) {o o' p:Oper} {fuel:Nat} {l:Array Bool} {a:Act} {w:World}
 (h:∀K':Act→World→Prop,Shut (∀a w,S w→(S w→wpAnyH P md ops Q S fuel (l.setIfInBounds i true) a w)→K' a w)→if Region.wanted o (yielded ops a.tmps)=true then Oper.wp P o a w K' Q else K' (a.put o.dst undef) w)
 (h':∀K':Act→World→Prop,Shut (∀a w,S w→(S w→wpAnyH P md ops Q S fuel (l.setIfInBounds j true) a w)→K' a w)→if Region.wanted o' (yielded ops a.tmps)=true then Oper.wp P o' a w K' Q else K' (a.put o'.dst undef) w)
 (h'':∀K':Act→World→Prop,Shut (∀a w,S w→(S w→wpAnyH P md ops Q S fuel (l.setIfInBounds m true) a w)→K' a w)→if Region.wanted p (yielded ops a.tmps)=true then Oper.wp P p a w K' Q else K' (a.put p.dst undef) w)
 (ho:ops[i]?=some o:=by rfl) (ho':ops[j]?=some o':=by rfl) (ho'':ops[m]?=some p:=by rfl) (hr:Region.ready md ops l=[i,j,m]:=by kernel_rfl):wpAnyH P md ops Q S (fuel+1) l a w:=wpAnyH_ready hr (by simp) (AllReadyH.cons ho h (AllReadyH.cons ho' h' (AllReadyH.cons ho'' h'' AllReadyH.nil)))
theorem app1 {o:Oper} {a:Act} {w:World} {K:Act→World→Prop} {E:Prop} (s x:Operand) (t:TypeId) (base:Nat) (e:TypeId) (i:TypeInfo) (z:Value) (size bytes:Nat) (ht:P.underlying t=some (.slice e)) (hi:P.info? e=some i) (hz:i.zero=some z)
 (hsize:i.size=size) (hby:i.bytes=bytes) (v:Value) (n:Nat) (xs:List Value) (hown:w.ownsRow base e size v n xs)
 (B:Nat) (A:Option Addr) (m c:Nat) (news:List Value) (hr:Reads w B size A m news) (h1:∀u∈news,u.oneCell'=true)
 (h63:n+m≤maxLen) (hbytes:(n+m)*bytes≤140737488355328) (hbase:base≤w.heap.size)
 (h:∀v' w',w'.ownsRow base e size v' (n+m) (xs++news)→w.grownBy w' v.ownBlock→(v'.ownBlock=v.ownBlock∨v'.ownBlock=some w.heap.size)→K (a.put o.dst v') w')
 (hop:o.op= .call { callee:= .builtin .append,args:=#[s,x],argTypes:=#[t,t] }:=by rfl) (hg:o.guard=none:=by rfl) (hs:a.eval s=v:=by rfl) (hx:a.eval x= .slice A m c:=by rfl) (hzs:z.cells.size=size:=by rfl) (hsz:0<size:=by exact Nat.zero_lt_succ _):
 if Region.wanted o (yielded ops a.tmps)=true then Oper.wp P o a w K Q else E:=
 step_append_any _ hg s x t hop base e i z size bytes ht hi hz hsize hby hzs hsz v n xs hs hown B A m c news hx hr h1 h63 hbytes hbase h
/-- What is to be shown behind a call. -/
def Nxt (P:Program) (md:Region.Mode) (ops:Array Oper) (Q:Exit→Act→World→Prop) (S:World→Prop) (fuel:Nat) (l:Array Bool) (a:Act) (dst:Option Nat) (e:Ending) (w:World):Prop:=
 ∃v,e= .returned v∧S w∧(S w→wpAnyH P md ops Q S fuel l (a.put dst v) w)
theorem nxt {fuel:Nat} {l:Array Bool} {a a1:Act} {dst:Option Nat} {v:Value} {w:World} (hS:S w) (h:S w→wpAnyH P md ops Q S fuel l a1 w)
 (ha:a.put dst v=a1:=by conv=>(lhs;simp only[Act.put,List.setIfInBounds_toArray,List.set_cons_zero,List.set_cons_succ,List.getElem_toArray,List.getElem_cons_zero,List.getElem_cons_succ])):Nxt P md ops Q S fuel l a dst (.returned v) w:=⟨v,rfl,hS,by subst ha;exact h⟩
/-- A call of a Go function, by its contract. -/
theorem callH {i:Nat} {o:Oper} {f:FuncId} {args:Array Value} {R:Ending→World→Prop} {fuel:Nat} {l l1:Array Bool} {a:Act} {w:World} (hc:Calls P f args w R)
 (h:∀e w',R e w'→Nxt P md ops Q S fuel l1 a o.dst e w')
 (ho:ops[i]?=some o:=by rfl) (hw:Region.wanted o (yielded ops a.tmps)=true:=by first|rfl|kernel_rfl)
 (hrun:(execOp a.eval o).run P w= .ok (.enter f args) w:=by go_simp)
 (hl:l.setIfInBounds i true=l1:=by conv=>(lhs;simp only[List.setIfInBounds_toArray,List.set_cons_zero,List.set_cons_succ])):OneH P md ops Q S fuel l a w i:=by
 subst hl
 refine wpOp_step ho fun K' hK=>?_
 rw[if_pos hw]
 unfold Oper.wp
 rw[hrun,Oper.upon_enter]
 refine hc.mono fun e w' hR=>?_
 obtain⟨v,rfl,hS,hn⟩:=h e w' hR
 exact hK _ _ ⟨hS,hn hS⟩
end
end Go.Proofs.YtpkeacnacjnlcaaGreat
namespace Go.Proofs.YtpkeacnacjnlcaaGreat
open Go.RowKit
section
variable {w w':World} {B B' size n:Nat} {A:Option Addr} {xs:List Value}
end
section
variable {w w':World} {g:Nat} {t:TypeId} {cs:Array Value}
end
section
variable {P:Program} (w:World)
end
theorem ofInt_i64 (a:Nat) (ha:a<9223372036854775808):(BitVec.ofInt 64 (a:Int)).toNat=a:=by
 rw[BitVec.ofInt_natCast,BitVec.toNat_ofNat];exact Nat.mod_eq_of_lt (by omega)
theorem i64_or_nat (a b:Nat) (ha:a<9223372036854775808) (hb:b<9223372036854775808):bits .or .i64 (a:Int) (b:Int)=((a ||| b:Nat):Int):=by
 have hx:a ||| b<2^63:=Nat.or_lt_two_pow (by omega) (by omega)
 show IntKind.i64.wrap ((BitVec.ofInt 64 (a:Int) ||| BitVec.ofInt 64 (b:Int)).toNat:Int)=_
 rw[BitVec.toNat_or,ofInt_i64 a ha,ofInt_i64 b hb,IntKind.wrap_i64]
 omega
end Go.Proofs.YtpkeacnacjnlcaaGreat
namespace Go.Proofs.YtpkeacnacjnlcaaGreat
open Go.RowKit
def winV (w:Win):Value:= .agg #[.int .i64 w.lx,.int .i64 w.ly,.int .i64 w.hx,.int .i64 w.hy]
def winE (w:Win):Int:=if goodL [w.low,w.high]=true then(if w.hx<w.lx∨w.hy<w.ly then 1 else 0)else 3
theorem reads_two (W:World) (a b c d:Int) (e:TypeId) (k:Nat) (hk:k=W.heap.size):Reads (W.alloc (.cells #[.int .i64 a,.int .i64 b,.int .i64 c,.int .i64 d] e)) (W.alloc (.cells #[.int .i64 a,.int .i64 b,.int .i64 c,.int .i64 d] e)).heap.size 2 (some ⟨k,0,none⟩) 2 (ptsV [⟨a,b⟩,⟨c,d⟩]):=by
 subst hk
 exact Reads.made W _ _ _ 2 2 _ rfl rfl
end Go.Proofs.YtpkeacnacjnlcaaGreat
namespace Go.Proofs.YtpkeacnacjnlcaaGreat
open Go.RowKit Go.WideShapes Go.ChangeShapes Go.Deep
section
variable {H:Type} {enc:TypeId×Value→H} {P:Program} {w:World} {base:Nat} {spare:Nat→Bool} {held:Bool}
end
section
variable {H:Type} {enc:TypeId×Value→H} {P:Program}
end
end Go.Proofs.YtpkeacnacjnlcaaGreat
namespace Go.Proofs.YtpkeacnacjnlcaaGreat
open Go.RowKit Go.WideShapes Go.ChangeShapes Go.Deep Go.ChangeAt
section
variable {H:Type} {enc:TypeId×Value→H} {P:Program}
end
end Go.Proofs.YtpkeacnacjnlcaaGreat
namespace Go.Proofs.YtpkeacnacjnlcaaGreat
open Go.RowKit Go.WideShapes Go.ChangeShapes Go.Deep Go.ChangeAt Go.Joins
section
variable {H:Type} {enc:TypeId×Value→H}
end
end Go.Proofs.YtpkeacnacjnlcaaGreat
namespace Go.Proofs.YtpkeacnacjnlcaaGreat
open Go.RowKit Go.WideShapes Go.ChangeShapes Go.Deep Go.ChangeAt Go.Joins
section
variable {H:Type} {enc:TypeId×Value→H}
end
end Go.Proofs.YtpkeacnacjnlcaaGreat
namespace Go.Proofs.YtpkeacnacjnlcaaGreat
open Go.RowKit Go.WideShapes Go.ChangeShapes Go.Deep Go.ChangeAt Go.Joins
section
variable {H:Type} {enc:TypeId×Value→H}
end
end Go.Proofs.YtpkeacnacjnlcaaGreat
namespace Go.Proofs.YtpkeacnacjnlcaaGreat
open Go.Lib (compareBytes)
theorem cb_cons (c:UInt8) (a b:List UInt8):compareBytes (c::a) (c::b)=compareBytes a b:=by
 rw[compareBytes.eq_def]
 simp only
 rw[if_neg (UInt8.lt_irrefl c),if_neg (UInt8.lt_irrefl c)]
theorem ltK_cons {c:UInt8} {a b:List UInt8}:ltK (c::a) (c::b)↔ltK a b:=by unfold ltK;rw[cb_cons]
theorem ltK_head {c d:UInt8} {a b:List UInt8} (h:c<d):ltK (c::a) (d::b):=by
 unfold ltK compareBytes
 rw[if_pos h]
 decide
theorem ltK_left:∀ {u a b:List UInt8},ltK a b→ltK (u++a) (u++b)
 |[],_,_,h=>h
 |_::_,_,_,h=>ltK_cons.2 (ltK_left h)
theorem ltK_append:∀ {a b u v:List UInt8},a.length=b.length→ltK a b→ltK (a++u) (b++v)
 |[],[],_,_,_,h=>absurd h (ltK_irrefl _)
 |[],_::_,_,_,h,_=>by simp at h
 |_::_,[],_,_,h,_=>by simp at h
 |c::a,d::b,u,v,h,h2=>by
  by_cases e:c=d
  ·subst e
   exact ltK_cons.2 (ltK_append (by simpa using h) (ltK_cons.1 h2))
  ·have:c<d:=by
    by_cases hc:c<d
    ·exact hc
    ·exfalso
     have hd:d<c:=UInt8.lt_of_le_of_ne (UInt8.not_lt.1 hc) (Ne.symm e)
     exact ltK_asymm h2 (ltK_head hd)
   exact ltK_head this
theorem numL_fold (l:List UInt8):∀n:Nat,l.foldl (fun n b=>n*256+b.toNat) n=n*256^l.length+l.foldl (fun n b=>n*256+b.toNat) 0:=by
 induction l with
 |nil=>intro n;simp
 |cons a l ih=>
  intro n
  rw[List.foldl_cons,List.foldl_cons,ih,ih (0*256+a.toNat),List.length_cons,Nat.pow_succ]
  have:(n*256+a.toNat)*256^l.length=n*(256^l.length*256)+a.toNat*256^l.length:=by
   rw[Nat.add_mul,Nat.mul_assoc,Nat.mul_comm 256]
  rw[this,Nat.zero_mul,Nat.zero_add]
  omega
theorem numL_cons (a:UInt8) (l:List UInt8):numL (a::l)=a.toNat*256^l.length+numL l:=by
 unfold numL
 rw[List.foldl_cons,numL_fold]
 simp
theorem ltK_num:∀ {a b:List UInt8},a.length=b.length→numL a<numL b→ltK a b
 |[],[],_,h=>absurd h (Nat.lt_irrefl _)
 |[],_::_,h,_=>by simp at h
 |_::_,[],h,_=>by simp at h
 |c::a,d::b,h,h2=>by
  have hl:a.length=b.length:=by simpa using h
  rw[numL_cons,numL_cons,hl]at h2
  by_cases e:c=d
  ·subst e
   exact ltK_cons.2 (ltK_num hl (by omega))
  ·refine ltK_head ?_
   by_cases hc:c<d
   ·exact hc
   ·exfalso
    have hd:d<c:=UInt8.lt_of_le_of_ne (UInt8.not_lt.1 hc) (Ne.symm e)
    have h3:d.toNat+1≤c.toNat:=UInt8.lt_iff_toNat_lt.1 hd
    have h4:=Nat.mul_le_mul_right (256^b.length) h3
    rw[Nat.succ_mul]at h4
    have h5:=numL_lt b
    omega
theorem ltK_beB {n m s:Nat} (h:n<m) (hm:m<256^s):ltK (beB n s) (beB m s):=
 ltK_num (by rw[beB_length,beB_length]) (by rw[numL_beB,numL_beB,Nat.mod_eq_of_lt hm,Nat.mod_eq_of_lt (Nat.lt_trans h hm)];exact h)
def itAt (l:List It) (k:Nat):It:=(l[k]?).getD ⟨[],[]⟩
theorem itAt_lt {l:List It} {k:Nat} (h:k<l.length):itAt l k=l[k]:=by unfold itAt;rw[List.getElem?_eq_getElem h];rfl
theorem itAt_mem {l:List It} {k:Nat} (h:k<l.length):itAt l k∈l:=by rw[itAt_lt h];exact List.getElem_mem _
/-- The last place, among the first n, of an item with a key; -1: none. -/
def findN (l:List It) (k:List UInt8):Nat→Int
 |0=> -1
 |n+1=>if (itAt l n).k=k then(n:Int)else findN l k n
def findI (l:List It) (k:List UInt8):Int:=findN l k l.length
theorem findN_cases (l:List It) (k:List UInt8):∀n:Nat,(findN l k n= -1∧∀j,j<n→(itAt l j).k≠k)∨∃i:Nat,i<n∧findN l k n=(i:Int)∧(itAt l i).k=k∧∀j,i<j→j<n→(itAt l j).k≠k
 |0=> .inl ⟨rfl,fun j h=>absurd h (Nat.not_lt_zero _)⟩
 |n+1=>by
  unfold findN
  by_cases h:(itAt l n).k=k
  ·rw[if_pos h]
   exact .inr ⟨n,by omega,rfl,h,fun j h1 h2=>by omega⟩
  ·rw[if_neg h]
   rcases findN_cases l k n with ⟨e,h1⟩|⟨i,hi,e,h1,h2⟩
   ·exact .inl ⟨e,fun j hj=>by
     by_cases ej:j=n
     ·rw[ej];exact h
     ·exact h1 j (by omega)⟩
   ·exact .inr ⟨i,by omega,e,h1,fun j h3 h4=>by
     by_cases ej:j=n
     ·rw[ej];exact h
     ·exact h2 j h3 (by omega)⟩
theorem findI_cases (l:List It) (k:List UInt8):(findI l k= -1∧∀x∈l,x.k≠k)∨∃i:Nat,i<l.length∧findI l k=(i:Int)∧(itAt l i).k=k∧∀j,i<j→j<l.length→(itAt l j).k≠k:=by
 rcases findN_cases l k l.length with ⟨e,h⟩|h
 ·refine .inl ⟨e,fun x hx=>?_⟩
  obtain⟨j,hj,rfl⟩:=List.mem_iff_getElem.1 hx
  rw[←itAt_lt hj]
  exact h j hj
 ·exact .inr h
/-- The value of the last item with a key. -/
def lastV (l:List It) (k:List UInt8):Option (List UInt8):=if findI l k<0 then none else some (itAt l (findI l k).toNat).v
theorem lastV_none {l:List It} {k:List UInt8}:lastV l k=none↔∀x∈l,x.k≠k:=by
 unfold lastV
 rcases findI_cases l k with ⟨e,h⟩|⟨i,hi,e,h1,h2⟩
 ·rw[e];simpa using h
 ·rw[e,if_neg (by omega)]
  exact⟨fun h=>by simp at h,fun h=>absurd h1 (h _ (itAt_mem hi))⟩
theorem findI_neg {l:List It} {k:List UInt8}:findI l k<0↔lastV l k=none:=by
 unfold lastV
 by_cases h:findI l k<0
 ·rw[if_pos h];simp[h]
 ·rw[if_neg h];simp[h]
/-- An item that is the last one with its key. -/
theorem lastV_of {l:List It} {i:Nat} (h:findI l (itAt l i).k=(i:Int)):lastV l (itAt l i).k=some (itAt l i).v:=by
 unfold lastV
 rw[h,if_neg (by omega),Int.toNat_natCast]
theorem lastV_some {l:List It} {k v:List UInt8}:lastV l k=some v↔∃i:Nat,i<l.length∧findI l k=(i:Int)∧itAt l i=⟨k,v⟩:=by
 unfold lastV
 rcases findI_cases l k with ⟨e,h⟩|⟨i,hi,e,h1,h2⟩
 ·rw[e]
  refine⟨fun h=>by simp at h,fun⟨i,_,h2,_⟩=>by omega⟩
 ·rw[e,if_neg (by omega),Int.toNat_natCast]
  refine⟨fun h=>⟨i,hi,rfl,?_⟩,fun⟨j,h3,h4,h5⟩=>?_⟩
  ·rcases hx:itAt l i with ⟨a,b⟩
   rw[hx]at h h1
   simp at h h1
   rw[h,h1]
  ·have:i=j:=by omega
   subst this
   rw[h5]
theorem lastV_mem {l:List It} {k v:List UInt8} (h:lastV l k=some v):⟨k,v⟩∈l:=by
 obtain⟨i,h1,-,h3⟩:=lastV_some.1 h
 rw[←h3]
 exact itAt_mem h1
theorem lastV_nodup {l:List It} (hn:(l.map (·.k)).Nodup) {x:It} (hx:x∈l):lastV l x.k=some x.v:=by
 rcases h:lastV l x.k with _|v
 ·exact absurd rfl (lastV_none.1 h x hx)
 ·have:=mem_of_key hn hx (lastV_mem h) rfl
  rw[this]
/-- Are these what has to be put, to come from a to b? -/
def PutOf (a b put:List It):Prop:=Rising (put.map (·.k))∧∀x:It,x∈put↔lastV b x.k=some x.v∧lastV a x.k≠some x.v
/-- Are these what goes? -/
def GoneOf (a b:List It) (gone:List (List UInt8)):Prop:=Rising gone∧∀k,k∈gone↔lastV a k≠none∧lastV b k=none
/-- Is item i of b one that has to be put? -/
def wantB (a b:List It) (i:Nat):Bool:=decide (findI a (itAt b i).k<0)||!decide ((itAt a (findI a (itAt b i).k).toNat).v=(itAt b i).v)
theorem wantB_iff {a b:List It} {i:Nat}:wantB a b i=true↔lastV a (itAt b i).k≠some (itAt b i).v:=by
 unfold wantB lastV
 by_cases h:findI a (itAt b i).k<0
 ·rw[if_pos h];simp[h]
 ·rw[if_neg h];simp[h]
theorem put_at {a b put:List It} (hp:PutOf a b put) {i:Nat} (h:findI b (itAt b i).k=(i:Int)):
 (wantB a b i=true→0≤findI put (itAt b i).k∧(itAt put (findI put (itAt b i).k).toNat).v=(itAt b i).v)∧(wantB a b i=false→findI put (itAt b i).k<0):=by
 have hb:=lastV_of h
 constructor
 ·intro hw
  have hm:itAt b i∈put:=(hp.2 _).2 ⟨hb,wantB_iff.1 hw⟩
  have h1:=lastV_nodup hp.1.nodup hm
  unfold lastV at h1
  by_cases h0:findI put (itAt b i).k<0
  ·rw[if_pos h0]at h1;simp at h1
  ·rw[if_neg h0]at h1
   exact⟨by omega,Option.some.inj h1⟩
 ·intro hw
  refine findI_neg.2 (lastV_none.2 fun x hx e=>?_)
  have h2:=(hp.2 x).1 hx
  rw[e,hb]at h2
  have h3:(itAt b i).v=x.v:=Option.some.inj h2.1
  have:wantB a b i=true:=wantB_iff.2 (by rw[h3];exact h2.2)
  rw[hw]at this
  exact Bool.noConfusion this
/-- Which places of b are the last ones of their keys, and wanted. -/
def dPutN (a b:List It) (n:Nat):Nat:=((List.range n).filter fun i=>decide (findI b (itAt b i).k=(i:Int))&&wantB a b i).length
def dGoneN (a b:List It) (n:Nat):Nat:=((List.range n).filter fun i=>decide (findI a (itAt a i).k=(i:Int))&&decide (findI b (itAt a i).k<0)).length
theorem dPutN_succ (a b:List It) (n:Nat):dPutN a b (n+1)=dPutN a b n+if (decide (findI b (itAt b n).k=(n:Int))&&wantB a b n)=true then 1 else 0:=by
 unfold dPutN
 rw[List.range_succ,List.filter_append,List.length_append]
 congr 1
 by_cases h:(decide (findI b (itAt b n).k=(n:Int))&&wantB a b n)=true
 ·rw[if_pos h];simp only[List.filter_cons,h,if_true];rfl
 ·rw[if_neg h];simp only[List.filter_cons,h];rfl
theorem dGoneN_succ (a b:List It) (n:Nat):dGoneN a b (n+1)=dGoneN a b n+if (decide (findI a (itAt a n).k=(n:Int))&&decide (findI b (itAt a n).k<0))=true then 1 else 0:=by
 unfold dGoneN
 rw[List.range_succ,List.filter_append,List.length_append]
 congr 1
 by_cases h:(decide (findI a (itAt a n).k=(n:Int))&&decide (findI b (itAt a n).k<0))=true
 ·rw[if_pos h];simp only[List.filter_cons,h,if_true];rfl
 ·rw[if_neg h];simp only[List.filter_cons,h];rfl
theorem nodup_map_on {α β:Type} {f:α→β}:∀ {l:List α},l.Nodup→(∀x∈l,∀y∈l,f x=f y→x=y)→(l.map f).Nodup
 |[],_,_=>List.nodup_nil
 |a::l,hn,h=>by
  rw[List.nodup_cons]at hn
  rw[List.map_cons,List.nodup_cons]
  refine⟨fun hm=>?_,nodup_map_on hn.2 fun x hx y hy=>h x (List.mem_cons_of_mem _ hx) y (List.mem_cons_of_mem _ hy)⟩
  obtain⟨y,hy,e⟩:=List.mem_map.1 hm
  have:=h y (List.mem_cons_of_mem _ hy) a (List.mem_cons_self ..) e
  exact hn.1 (this▸hy)
theorem dPutN_len {a b put:List It} (hp:PutOf a b put):dPutN a b b.length=put.length:=by
 unfold dPutN
 rw[←List.length_map (f:=itAt b)]
 refine List.Perm.length_eq ((List.perm_ext_iff_of_nodup ?_ ?_).2 fun x=>?_)
 ·refine nodup_map_on (List.nodup_range.filter _) fun i hi j hj e=>?_
  have h1:=(List.mem_filter.1 hi).2
  have h2:=(List.mem_filter.1 hj).2
  simp only[Bool.and_eq_true,decide_eq_true_eq]at h1 h2
  have:=h1.1
  rw[e,h2.1]at this
  omega
 ·have:=hp.1.nodup
  exact(List.pairwise_map.1 this).imp fun h e=>h (by rw[e])
 ·constructor
  ·intro hx
   obtain⟨i,hi,rfl⟩:=List.mem_map.1 hx
   have h1:=(List.mem_filter.1 hi).2
   simp only[Bool.and_eq_true,decide_eq_true_eq]at h1
   exact(hp.2 _).2 ⟨lastV_of h1.1,wantB_iff.1 h1.2⟩
  ·intro hx
   obtain⟨h1,h2⟩:=(hp.2 x).1 hx
   obtain⟨i,hi,h3,h4⟩:=lastV_some.1 h1
   have h5:itAt b i=x:=h4
   refine List.mem_map.2 ⟨i,List.mem_filter.2 ⟨List.mem_range.2 hi,?_⟩,h5⟩
   simp only[Bool.and_eq_true,decide_eq_true_eq]
   exact⟨by rw[h5];exact h3,wantB_iff.2 (by rw[h5];exact h2)⟩
theorem dGoneN_len {a b:List It} {gone:List (List UInt8)} (hp:GoneOf a b gone):dGoneN a b a.length=gone.length:=by
 unfold dGoneN
 rw[←List.length_map (f:=fun i=>(itAt a i).k)]
 refine List.Perm.length_eq ((List.perm_ext_iff_of_nodup ?_ hp.1.nodup).2 fun x=>?_)
 ·refine nodup_map_on (List.nodup_range.filter _) fun i hi j hj e=>?_
  have h1:=(List.mem_filter.1 hi).2
  have h2:=(List.mem_filter.1 hj).2
  simp only[Bool.and_eq_true,decide_eq_true_eq]at h1 h2
  have:=h1.1
  rw[e,h2.1]at this
  omega
 ·constructor
  ·intro hx
   obtain⟨i,hi,rfl⟩:=List.mem_map.1 hx
   have h1:=(List.mem_filter.1 hi).2
   simp only[Bool.and_eq_true,decide_eq_true_eq]at h1
   exact(hp.2 _).2 ⟨by rw[lastV_of h1.1];simp,findI_neg.1 h1.2⟩
  ·intro hx
   obtain⟨h1,h2⟩:=(hp.2 x).1 hx
   rcases h3:lastV a x with _|v
   ·exact absurd h3 h1
   ·obtain⟨i,hi,h4,h5⟩:=lastV_some.1 h3
    have h6:(itAt a i).k=x:=by rw[h5]
    refine List.mem_map.2 ⟨i,List.mem_filter.2 ⟨List.mem_range.2 hi,?_⟩,h6⟩
    simp only[Bool.and_eq_true,decide_eq_true_eq]
    exact⟨by rw[h6];exact h4,findI_neg.2 (by rw[h6];exact h2)⟩
theorem gone_at {a b:List It} {gone:List (List UInt8)} (hp:GoneOf a b gone) {k:List UInt8} (h:k∈gone):0≤findI a k∧findI b k<0:=by
 obtain⟨h1,h2⟩:=(hp.2 k).1 h
 exact⟨Int.not_lt.1 fun h=>h1 (findI_neg.1 h),findI_neg.2 h2⟩
end Go.Proofs.YtpkeacnacjnlcaaGreat
