/- Base words for the walks of this seat: slices that read as lists, blocks known whole, small frames (lemma blocks as the guide's copy pages give them). No condition; Plain law: numbers as bytes, the highest first. No condition; A quiet operation of a drawn region, taken first: the step in short; Keys of items: the order of bytes, lists by rising keys. Plain laws. -/
import Derived.Below
import Derived.BigQuiet
import Derived.Calls
import Derived.ChangeSame
import Derived.Deep.AppendLies
import Derived.Deep.Draws
import Derived.Deep.Fields
import Derived.Deep.OwnRows
import Derived.Deep.QuietTactic
import Derived.Deep.SlicePairs
import Derived.Deep.Slices
import Derived.Laws.AppendOwn
import Derived.Laws.BitsAllLaws
import Derived.Laws.BitsLemmas
import Derived.Laws.Entries
import Derived.Laws.MakeOwn
import Derived.Laws.OwnMore
import Derived.Laws.Rows
import Derived.Lib.Hide
import Derived.Lib.SmallJoins
import Derived.Maps.AppendAt
import Derived.OwnWalk
import Derived.ProofKit
import Derived.RegionTactic
import Derived.SizedLaws
import Derived.WalkKit
import Derived.WalkLawsBesides
import Derived.WalkSpells
import Derived.Deep.RegionHeld3
import Derived.KernelRfl
import Derived.Lib.Bytealg
import Derived.Test.YtpkeacnacjnlcaaGreatRows
namespace Go.Proofs.YtpkeacnacjnlcaaGreat
open Go.RowKit
theorem block_of_add (a:Addr) (n:Nat):(a.add n).block=a.block:=by unfold Addr.add;split<;>rfl
theorem add_of_add (a:Addr) (i j:Nat):(a.add i).add j=a.add (i+j):=by
 unfold Addr.add
 by_cases hi:i=0<;>by_cases hj:j=0<;>simp[hi,hj,Nat.add_assoc]
def Reads (w:World) (B size:Nat) (A:Option Addr) (n:Nat) (xs:List Value):Prop:=
 xs.length=n*size∧(0<n→∃ad,A=some ad∧ad.block<B∧∀j u,xs[j]?=some u→w.cell? (ad.add j)=some u)
section
variable {w w':World} {B B' size n:Nat} {A:Option Addr} {xs:List Value}
theorem Reads.none_:Reads w B size A 0 []:=⟨by simp,fun h=>absurd h (by omega)⟩
theorem Reads.at_ {k:Nat} (h:Reads w B 1 A n xs) (hk:k<n):∃ad u,A=some ad∧ad.block<B∧xs[k]?=some u∧w.cell? (ad.add k)=some u:=by
 obtain⟨ad,e,hb,hc⟩:=h.2 (by omega)
 have hl:k<xs.length:=by have:=h.1;omega
 exact⟨ad,xs[k],e,hb,List.getElem?_eq_getElem hl,hc k _ (List.getElem?_eq_getElem hl)⟩
theorem Reads.keep (h:Reads w B size A n xs) (hk:∀p:Addr,p.block<B→w'.cell? p=w.cell? p):Reads w' B size A n xs:=
 ⟨h.1,fun hn=>by
   obtain⟨ad,e,hb,hc⟩:=h.2 hn
   exact⟨ad,e,hb,fun j u hu=>(hk _ (by rw[block_of_add];exact hb)).trans (hc j u hu)⟩⟩
theorem Reads.more (h:Reads w B size A n xs) (hB:B≤B'):Reads w B' size A n xs:=
 ⟨h.1,fun hn=>by
   obtain⟨ad,e,hb,hc⟩:=h.2 hn
   exact⟨ad,e,by omega,hc⟩⟩
theorem Reads.below (h:Reads w B size A n xs) (hb:Below B w w'):Reads w' B size A n xs:=h.keep fun _ hp=>hb.cell hp
theorem Reads.drew (h:Reads w B size A n xs):Reads w.drew B size A n xs:=h
theorem Reads.drewN (h:Reads w B size A n xs) (k:Nat):Reads (w.drewN k) B size A n xs:=h
theorem Reads.alloc (h:Reads w B size A n xs) (hB:B≤w.heap.size) (o:Obj):Reads (w.alloc o) B size A n xs:=h.keep fun p hp=>World.cell?_alloc_lt w o p (by omega)
theorem Reads.setCell (h:Reads w B size A n xs) {p:Addr} (hB:B≤p.block) (u:Value):Reads (w.setCell p u) B size A n xs:=
 h.keep fun q hq=>World.cell?_setCell_other w p q u (fun e=>by subst e;omega)
theorem Reads.grown (h:Reads w B size A n xs) {row:Option Nat} (hg:w.grownBy w' row) (hB:B≤w.heap.size) (hr:∀g,row=some g→B≤g):Reads w' B size A n xs:=
 h.keep fun p hp=>World.cell?_of_block (hg.block p.block (by omega) (fun e=>by have:=hr _ e.symm;omega))
theorem Reads.cut (h:Reads w B size A n xs) {k cap:Nat} (hk:k≤n) (hc:n≤cap):
 Reads w B size (if cap=k then A else A.map (·.add (k*size))) (n-k) (xs.drop (k*size)):=by
 refine⟨by rw[List.length_drop,h.1,Nat.sub_mul],fun hn=>?_⟩
 obtain⟨ad,rfl,hb,hcell⟩:=h.2 (by omega)
 rw[if_neg (by omega)]
 refine⟨ad.add (k*size),rfl,by rw[block_of_add];exact hb,fun j u hu=>?_⟩
 rw[add_of_add]
 exact hcell _ u (by rw[←hu,List.getElem?_drop])
theorem Reads.of_own {base:Nat} {e:TypeId} {c:Nat} (h:w.ownsRow base e size (.slice A n c) n xs):Reads w w.heap.size size A n xs:=by
 refine⟨h.1,fun hn=>?_⟩
 obtain⟨g,cap,hv,_,hlt⟩:=h.form hn
 have hA:A=some ⟨g,0,none⟩:=by injection hv
 subst hA
 exact⟨_,rfl,hlt,h.cells (g:=g) rfl⟩
end
def Blk (w:World) (g:Nat) (t:TypeId) (cs:Array Value):Prop:=w.heap[g]?=some (.cells cs t (0,0))
section
variable {w w':World} {g:Nat} {t:TypeId} {cs:Array Value}
theorem Blk.lt (h:Blk w g t cs):g<w.heap.size:=by
 rcases Nat.lt_or_ge g w.heap.size with hlt|hge
 ·exact hlt
 ·unfold Blk at h;rw[Array.getElem?_eq_none hge]at h;cases h
theorem Blk.cell (h:Blk w g t cs) (i:Nat):w.cell? ⟨g,i,none⟩=cs[i]?:=cell_of_row w g i cs t (0,0) h
theorem Blk.frozen (h:Blk w g t cs) (i:Nat):w.frozen? ⟨g,i,none⟩=false:=by
 unfold Blk at h
 simp[World.frozen?,h]
theorem Blk.new (w:World) (t:TypeId) (cs:Array Value):Blk (w.alloc (.cells cs t)) w.heap.size t cs:=heap_alloc_new w _
theorem Blk.drew (h:Blk w g t cs):Blk w.drew g t cs:=h
theorem Blk.drewN (h:Blk w g t cs) (n:Nat):Blk (w.drewN n) g t cs:=h
theorem Blk.alloc (h:Blk w g t cs) (o:Obj):Blk (w.alloc o) g t cs:=(Below.heap_alloc w o g h.lt).trans h
theorem Blk.set_ (h:Blk w g t cs) (i:Nat) (u:Value):Blk (w.setCell ⟨g,i,none⟩ u) g t (cs.setIfInBounds i u):=by
 unfold Blk at h ⊢
 simp[World.setCell,Array.getElem?_modify,h]
theorem Blk.far (h:Blk w g t cs) {p:Addr} (hp:g≠p.block) (u:Value):Blk (w.setCell p u) g t cs:=(Below.heap_setCell w p u g hp).trans h
theorem Blk.below {B:Nat} (h:Blk w g t cs) (hb:Below B w w') (hg:g<B):Blk w' g t cs:=(hb.block g hg).trans h
theorem Blk.grown {row:Option Nat} (h:Blk w g t cs) (hb:w.grownBy w' row) (hg:some g≠row):Blk w' g t cs:=(hb.block g h.lt hg).trans h
theorem Blk.ne_ {g':Nat} {t':TypeId} {cs':Array Value} (h:Blk w g t cs) (h':Blk w g' t' cs') (hne:t≠t'):g≠g':=by
 rintro rfl
 unfold Blk at h h'
 rw[h]at h'
 injection h' with h'
 injection h' with _ ht
 exact hne ht
theorem own_blk_ne {base:Nat} {e:TypeId} {size n:Nat} {v:Value} {xs:List Value} (h:w.ownsRow base e size v n xs) (hg:Blk w g t cs) (hne:e≠t):v.ownBlock≠some g:=by
 rcases h.2 with ⟨rfl,_⟩|⟨g',cap,cur,rfl,_,hh,_⟩
 ·simp[Value.ownBlock]
 ·intro he
  have:g'=g:=by simpa[Value.ownBlock]using he
  subst this
  exact Blk.ne_ (t:=e) hh hg hne rfl
end
section
variable {P:Program} (w:World)
theorem run_append_of_nil (base:Nat) (t ty e:TypeId) (i:TypeInfo) (size:Nat) (ht:P.underlying t=some (.slice e)) (hi:P.info? e=some i)
 (v:Value) (n:Nat) (xs:List Value) (hown:w.ownsRow base e size v n xs) (c:Nat):(Builtin.append_ #[t,t] ty #[v,.slice none 0 c]).run P w= .ok v w:=by
 rcases hown.2 with ⟨rfl,rfl⟩|⟨g,cap,cur,rfl,_,_,hnc,_⟩
 ·simp[Builtin.append_,run_underlying ht,sizeOf,typeInfo,hi,Builtin.lenOf,Builtin.firstCells]
 ·simp[Builtin.append_,run_underlying ht,sizeOf,typeInfo,hi,Builtin.lenOf,Builtin.firstCells,hnc,storeCells]
theorem run_append_any (base:Nat) (t ty e:TypeId) (i:TypeInfo) (z:Value) (size bytes:Nat) (ht:P.underlying t=some (.slice e)) (hi:P.info? e=some i) (hz:i.zero=some z)
 (hsize:i.size=size) (hby:i.bytes=bytes) (hzs:z.cells.size=size) (hsz:0<size)
 (v:Value) (n:Nat) (xs:List Value) (hown:w.ownsRow base e size v n xs)
 (B:Nat) (A:Option Addr) (m c:Nat) (news:List Value) (hr:Reads w B size A m news) (h1:∀u∈news,u.oneCell'=true)
 (h63:n+m≤maxLen) (hbytes:(n+m)*bytes≤140737488355328) (hbase:base≤w.heap.size):
 ∃v' w',(Builtin.append_ #[t,t] ty #[v,.slice A m c]).run P w= .ok v' w'∧w'.ownsRow base e size v' (n+m) (xs++news)∧w.grownBy w' v.ownBlock∧
  (v'.ownBlock=v.ownBlock∨v'.ownBlock=some w.heap.size):=by
 rcases A with _|ad
 ·have hm:m=0:=by
   rcases Nat.eq_zero_or_pos m with h0|h0
   ·exact h0
   ·obtain⟨ad,h,_⟩:=hr.2 h0
    cases h
  subst hm
  have hn:news=[]:=List.eq_nil_of_length_eq_zero (by simpa using hr.1)
  subst hn
  exact⟨v,w,run_append_of_nil w base t ty e i size ht hi v n xs hown c,by simpa using hown,World.grownBy.refl w _,.inl rfl⟩
 ·have hcells:∀j u,news[j]?=some u→w.cell? (ad.add j)=some u:=by
   intro j u hu
   rcases Nat.eq_zero_or_pos m with h0|h0
   ·subst h0
    have hn:news=[]:=List.eq_nil_of_length_eq_zero (by simpa using hr.1)
    subst hn
    simp at hu
   ·obtain⟨ad',h,_,hc⟩:=hr.2 h0
    injection h with h
    subst h
    exact hc j u hu
  obtain⟨v',w',hrun,h2,h3,_,h5⟩:=run_append_own_at (P:=P) w base t ty e i z size bytes ht hi hz hsize hby hzs hsz v n xs hown ad m c news hr.1 hcells h1 h63 hbytes hbase
  exact⟨v',w',hrun,h2,h3,h5⟩
theorem wp_append_any {o:Oper} {a:Act} {K:Act→World→Prop} {Q:Exit→Act→World→Prop} (s x:Operand) (t:TypeId)
 (ho:o.op= .call { callee:= .builtin .append,args:=#[s,x],argTypes:=#[t,t] })
 (base:Nat) (e:TypeId) (i:TypeInfo) (z:Value) (size bytes:Nat) (ht:P.underlying t=some (.slice e)) (hi:P.info? e=some i) (hz:i.zero=some z)
 (hsize:i.size=size) (hby:i.bytes=bytes) (hzs:z.cells.size=size) (hsz:0<size)
 (v:Value) (n:Nat) (xs:List Value) (hs:a.eval s=v) (hown:w.ownsRow base e size v n xs)
 (B:Nat) (A:Option Addr) (m c:Nat) (news:List Value) (hx:a.eval x= .slice A m c) (hr:Reads w B size A m news) (h1:∀u∈news,u.oneCell'=true)
 (h63:n+m≤maxLen) (hbytes:(n+m)*bytes≤140737488355328) (hbase:base≤w.heap.size)
 (h:∀v' w',w'.ownsRow base e size v' (n+m) (xs++news)→w.grownBy w' v.ownBlock→(v'.ownBlock=v.ownBlock∨v'.ownBlock=some w.heap.size)→K (a.put o.dst v') w'):o.wp P a w K Q:=by
 obtain⟨v',w',hrun,h2,h3,h4⟩:=run_append_any (P:=P) w base t o.type e i z size bytes ht hi hz hsize hby hzs hsz v n xs hown B A m c news hr h1 h63 hbytes hbase
 unfold Oper.wp execOp
 simp only[ho,resolve,invoke,builtin,Sem.run_bind,Sem.run_pure,Result.andThen_ok,List.map_toArray,List.map_cons,List.map_nil,hs,hx,hrun]
 exact h v' w' h2 h3 h4
theorem wpList_append_any {ops:Array Oper} {rest:List Oper} {o:Oper} {a:Act} {Q:Exit→Act→World→Prop} (hgd:o.guard=none) (s x:Operand) (t:TypeId)
 (ho:o.op= .call { callee:= .builtin .append,args:=#[s,x],argTypes:=#[t,t] })
 (base:Nat) (e:TypeId) (i:TypeInfo) (z:Value) (size bytes:Nat) (ht:P.underlying t=some (.slice e)) (hi:P.info? e=some i) (hz:i.zero=some z)
 (hsize:i.size=size) (hby:i.bytes=bytes) (hzs:z.cells.size=size) (hsz:0<size)
 (v:Value) (n:Nat) (xs:List Value) (hs:a.eval s=v) (hown:w.ownsRow base e size v n xs)
 (B:Nat) (A:Option Addr) (m c:Nat) (news:List Value) (hx:a.eval x= .slice A m c) (hr:Reads w B size A m news) (h1:∀u∈news,u.oneCell'=true)
 (h63:n+m≤maxLen) (hbytes:(n+m)*bytes≤140737488355328) (hbase:base≤w.heap.size)
 (h:∀v' w',w'.ownsRow base e size v' (n+m) (xs++news)→w.grownBy w' v.ownBlock→(v'.ownBlock=v.ownBlock∨v'.ownBlock=some w.heap.size)→wpList P ops Q rest (a.put o.dst v') w'):wpList P ops Q (o::rest) a w:=
 wpList_plain hgd fun _ hK=>wp_append_any w s x t ho base e i z size bytes ht hi hz hsize hby hzs hsz v n xs hs hown B A m c news hx hr h1 h63 hbytes hbase fun v' w' h2 h3 h4=>hK _ _ (h v' w' h2 h3 h4)
theorem step_append_any {ops:Array Oper} {o:Oper} {a:Act} {K:Act→World→Prop} {Q:Exit→Act→World→Prop} {E:Prop} (hgd:o.guard=none) (s x:Operand) (t:TypeId)
 (ho:o.op= .call { callee:= .builtin .append,args:=#[s,x],argTypes:=#[t,t] })
 (base:Nat) (e:TypeId) (i:TypeInfo) (z:Value) (size bytes:Nat) (ht:P.underlying t=some (.slice e)) (hi:P.info? e=some i) (hz:i.zero=some z)
 (hsize:i.size=size) (hby:i.bytes=bytes) (hzs:z.cells.size=size) (hsz:0<size)
 (v:Value) (n:Nat) (xs:List Value) (hs:a.eval s=v) (hown:w.ownsRow base e size v n xs)
 (B:Nat) (A:Option Addr) (m c:Nat) (news:List Value) (hx:a.eval x= .slice A m c) (hr:Reads w B size A m news) (h1:∀u∈news,u.oneCell'=true)
 (h63:n+m≤maxLen) (hbytes:(n+m)*bytes≤140737488355328) (hbase:base≤w.heap.size)
 (h:∀v' w',w'.ownsRow base e size v' (n+m) (xs++news)→w.grownBy w' v.ownBlock→(v'.ownBlock=v.ownBlock∨v'.ownBlock=some w.heap.size)→K (a.put o.dst v') w'):
 if Region.wanted o (yielded ops a.tmps)=true then Oper.wp P o a w K Q else E:=by
 have hw:Region.wanted o (yielded ops a.tmps)=true:=by simp[Region.wanted,hgd]
 rw[if_pos hw]
 exact wp_append_any w s x t ho base e i z size bytes ht hi hz hsize hby hzs hsz v n xs hs hown B A m c news hx hr h1 h63 hbytes hbase h
end
theorem below_drewN {B:Nat} {a w:World} (h:Below B a w) (n:Nat):Below B a (w.drewN n):=⟨h.os,h.tape,h.output,h.size,h.block⟩
theorem only_drew {a w:World} {row:Option Nat} (h:a.grownBy w row):a.grownBy w.drew row:=⟨h.os,h.tape,h.output,h.size,h.block⟩
theorem only_of_below {a w:World} (h:Below a.heap.size a w) (row:Option Nat):a.grownBy w row:=⟨h.os,h.tape,h.output,h.size,fun i hi _=>h.block i hi⟩
end Go.Proofs.YtpkeacnacjnlcaaGreat
namespace Go.Proofs.YtpkeacnacjnlcaaGreat
open Go.RowKit
theorem add_row (b j:Nat):(⟨b,0,none⟩:Addr).add j=⟨b,j,none⟩:=by
 unfold Addr.add
 by_cases h:j=0
 ·subst h;rfl
 ·simp[h]
theorem Reads.made (w:World) (C:Array Value) (e:TypeId) (fr:Nat×Nat) (size n:Nat) (xs:List Value) (hx:C.toList=xs) (hl:xs.length=n*size):
 Reads (w.alloc (.cells C e fr)) (w.alloc (.cells C e fr)).heap.size size (some ⟨w.heap.size,0,none⟩) n xs:=by
 refine⟨hl,fun _=>⟨_,rfl,by simp,?_⟩⟩
 intro j u hu
 rw[add_row,World.cell?_alloc_mark,←Array.getElem?_toList,hx]
 exact hu
theorem Reads.on {w w':World} {n size:Nat} {A:Option Addr} {xs:List Value} (h:Reads w w.heap.size size A n xs) (hb:Below w.heap.size w w'):Reads w' w'.heap.size size A n xs:=(h.below hb).more hb.size
theorem below_on {B:Nat} {w w1 w2:World} (h:Below B w w1) (hB:B≤w.heap.size) (hb:Below w1.heap.size w1 w2):Below B w w2:=h.trans (hb.mono (Nat.le_trans hB h.size))
theorem own_cap {w:World} {base n c:Nat} {e:TypeId} {size:Nat} {A:Option Addr} {xs:List Value} (h:w.ownsRow base e size (.slice A n c) n xs):n≤c∧c≤9223372036854775807:=by
 rcases h.2 with ⟨h1,h2⟩|⟨g,cap,cur,h1,_,_,h2,h3,_⟩
 ·injection h1 with _ h3 h4;omega
 ·injection h1 with _ h4 h5
  subst h5
  exact⟨h2,h3⟩
theorem own_mono {w:World} {base base':Nat} {e:TypeId} {size n:Nat} {v:Value} {xs:List Value} (h:w.ownsRow base e size v n xs) (hb:base'≤base):w.ownsRow base' e size v n xs:=by
 refine⟨h.1,?_⟩
 rcases h.2 with h0|⟨g,c,cur,h1,h2,h3⟩
 ·exact .inl h0
 ·exact .inr ⟨g,c,cur,h1,by omega,h3⟩
theorem own_some {w:World} {base n c:Nat} {e:TypeId} {size:Nat} {A:Option Addr} {xs:List Value} (h:w.ownsRow base e size (.slice A n c) n xs) (hn:0<n):∃g,A=some ⟨g,0,none⟩∧base≤g∧g<w.heap.size:=by
 rcases h.2 with ⟨_,h2⟩|⟨g,cap,cur,h1,h2,h3,_⟩
 ·omega
 ·injection h1 with h1
  exact⟨g,h1,h2,(Array.getElem?_eq_some_iff.1 h3).1⟩
/-- A point: its two coordinates. -/
structure Pt where
 x:Int
 y:Int
 deriving DecidableEq
def ptV (p:Pt):Value:= .agg #[.int .i64 p.x,.int .i64 p.y]
def ptsV (l:List Pt):List Value:=l.flatMap fun p=>[.int .i64 p.x,.int .i64 p.y]
def inI (z:Int):Prop:= -9223372036854775808≤z∧z≤9223372036854775807
def Pt.inI (p:Pt):Prop:=(-9223372036854775808≤p.x∧p.x≤9223372036854775807)∧(-9223372036854775808≤p.y∧p.y≤9223372036854775807)
theorem ptsV_length (l:List Pt):(ptsV l).length=l.length*2:=by
 induction l with
 |nil=>rfl
 |cons p l ih=>rw[ptsV,List.flatMap_cons,List.length_append];rw[ptsV]at ih;rw[ih];simp;omega
theorem ptsV_get (l:List Pt) (k:Nat) (h:k<l.length):(ptsV l)[k*2]?=some (.int .i64 l[k].x)∧(ptsV l)[k*2+1]?=some (.int .i64 l[k].y):=by
 induction l generalizing k with
 |nil=>simp at h
 |cons p l ih=>
  rcases k with _|k
  ·exact⟨rfl,rfl⟩
  ·have:=ih k (by simpa using h)
   rw[ptsV,List.flatMap_cons]
   rw[ptsV]at this
   rw[Nat.succ_mul,Nat.add_right_comm]
   exact this
theorem add_next (ad:Addr) (m:Nat):(⟨(ad.add m).block,(ad.add m).off+1,none⟩:Addr)=ad.add (m+1):=by
 unfold Addr.add
 by_cases h:m=0<;>simp[h,Nat.add_assoc]
theorem Reads.pt {w:World} {B n:Nat} {A:Option Addr} {l:List Pt} (h:Reads w B 2 A n (ptsV l)) {k:Nat} (hk:k<n):
 ∃ad,A=some ad∧ad.block<B∧∃hk':k<l.length,w.cell? (ad.add (k*2))=some (.int .i64 (l[k]'hk').x)∧w.cell? ⟨(ad.add (k*2)).block,(ad.add (k*2)).off+1,none⟩=some (.int .i64 (l[k]'hk').y):=by
 obtain⟨ad,e,hb,hc⟩:=h.2 (by omega)
 have hk':k<l.length:=by have:=h.1;rw[ptsV_length]at this;omega
 exact⟨ad,e,hb,hk',hc _ _ (ptsV_get l k hk').1,by rw[add_next];exact hc _ _ (ptsV_get l k hk').2⟩
theorem Reads.lenPt {w:World} {B n:Nat} {A:Option Addr} {l:List Pt} (h:Reads w B 2 A n (ptsV l)):l.length=n:=by
 have:=h.1
 rw[ptsV_length]at this
 omega
theorem bcell {W w1:World} (hb:Below W.heap.size W w1):(∀b o,b<W.heap.size→w1.cell? ⟨b,o,none⟩=W.cell? ⟨b,o,none⟩)∧(∀b o,b<W.heap.size→w1.frozen? ⟨b,o,none⟩=W.frozen? ⟨b,o,none⟩):=
 ⟨fun b o h=>hb.cell (p:=⟨b,o,none⟩) h,fun b o h=>hb.frozen (p:=⟨b,o,none⟩) h⟩
def good (p:Pt):Bool:=decide (-1073741824≤p.x∧p.x≤1073741824∧ -1073741824≤p.y∧p.y≤1073741824)
def goodL (l:List Pt):Bool:=l.all good
theorem goodL_take (l:List Pt) (k:Nat) (h:k<l.length):goodL (l.take (k+1))=(goodL (l.take k)&&good l[k]):=by
 unfold goodL
 rw[List.take_succ_eq_append_getElem h,List.all_append]
 simp only[List.all_cons,List.all_nil,Bool.and_true]
theorem goodL_false (l:List Pt) (k:Nat) (h:k<l.length) (hg:good l[k]=false):goodL l=false:=by
 unfold goodL
 rw[List.all_eq_false]
 exact⟨l[k],List.getElem_mem h,by rw[hg];decide⟩
theorem good_iff (p:Pt):good p=true↔(-1073741824≤p.x∧p.x≤1073741824∧ -1073741824≤p.y∧p.y≤1073741824):=by unfold good;exact decide_eq_true_iff
/-- A block that holds a point's two cells. -/
def HasPt (w:World) (g:Nat) (p:Pt):Prop:=w.cell? ⟨g,0,none⟩=some (.int .i64 p.x)∧w.cell? ⟨g,1,none⟩=some (.int .i64 p.y)∧g<w.heap.size
theorem HasPt.new (w:World) (p:Pt) (e:TypeId):HasPt (w.alloc (.cells #[.int .i64 p.x,.int .i64 p.y] e)) w.heap.size p:=⟨by simp,by simp,by simp⟩
theorem HasPt.on {w w':World} {g:Nat} {p:Pt} (h:HasPt w g p) (hb:Below w.heap.size w w'):HasPt w' g p:=
 ⟨(hb.cell (p:=⟨g,0,none⟩) h.2.2).trans h.1,(hb.cell (p:=⟨g,1,none⟩) h.2.2).trans h.2.1,Nat.lt_of_lt_of_le h.2.2 hb.size⟩
theorem HasPt.alloc {w:World} {g:Nat} {p:Pt} (h:HasPt w g p) (o:Obj):HasPt (w.alloc o) g p:=h.on ((Below.refl _ _).alloc (Nat.le_refl _) o)
theorem HasPt.drew {w:World} {g:Nat} {p:Pt} (h:HasPt w g p):HasPt w.drew g p:=h
structure Win where
 lx:Int
 ly:Int
 hx:Int
 hy:Int
 deriving DecidableEq
def Win.low (w:Win):Pt:=⟨w.lx,w.ly⟩
def Win.high (w:Win):Pt:=⟨w.hx,w.hy⟩
def Win.inI (w:Win):Prop:=w.low.inI∧w.high.inI
/-- A block that holds a window's four cells. -/
def HasWin (w:World) (g:Nat) (v:Win):Prop:=w.cell? ⟨g,0,none⟩=some (.int .i64 v.lx)∧w.cell? ⟨g,1,none⟩=some (.int .i64 v.ly)∧w.cell? ⟨g,2,none⟩=some (.int .i64 v.hx)∧w.cell? ⟨g,3,none⟩=some (.int .i64 v.hy)∧g<w.heap.size
theorem HasWin.new (w:World) (v:Win) (e:TypeId):HasWin (w.alloc (.cells #[.int .i64 v.lx,.int .i64 v.ly,.int .i64 v.hx,.int .i64 v.hy] e)) w.heap.size v:=⟨by simp,by simp,by simp,by simp,by simp⟩
theorem HasWin.on {w w':World} {g:Nat} {v:Win} (h:HasWin w g v) (hb:Below w.heap.size w w'):HasWin w' g v:=
 ⟨(hb.cell (p:=⟨g,0,none⟩) h.2.2.2.2).trans h.1,(hb.cell (p:=⟨g,1,none⟩) h.2.2.2.2).trans h.2.1,(hb.cell (p:=⟨g,2,none⟩) h.2.2.2.2).trans h.2.2.1,(hb.cell (p:=⟨g,3,none⟩) h.2.2.2.2).trans h.2.2.2.1,Nat.lt_of_lt_of_le h.2.2.2.2 hb.size⟩
theorem HasWin.alloc {w:World} {g:Nat} {v:Win} (h:HasWin w g v) (o:Obj):HasWin (w.alloc o) g v:=h.on ((Below.refl _ _).alloc (Nat.le_refl _) o)
theorem own_form {w:World} {base:Nat} {e:TypeId} {size n:Nat} {v:Value} {xs:List Value} (h:w.ownsRow base e size v n xs):∃A c,v= .slice A n c:=by
 rcases h.2 with ⟨rfl,rfl⟩|⟨g,c,cur,rfl,_⟩
 ·exact⟨none,0,rfl⟩
 ·exact⟨_,c,rfl⟩
theorem ptsV_one (l:List Pt):∀u∈ptsV l,u.oneCell'=true:=by
 intro u hu
 simp only[ptsV,List.mem_flatMap]at hu
 obtain⟨p,_,hp⟩:=hu
 simp at hp
 rcases hp with rfl|rfl<;>rfl
theorem ptsV_append (a b:List Pt):ptsV (a++b)=ptsV a++ptsV b:=by simp[ptsV]
theorem take_same {xs ys:List Pt} {k:Nat} (h:xs.take k=ys.take k) (hx:k<xs.length) (hy:k<ys.length) (he:xs[k]=ys[k]):xs.take (k+1)=ys.take (k+1):=by
 rw[List.take_succ_eq_append_getElem hx,List.take_succ_eq_append_getElem hy,h,he]
theorem not_same {xs ys:List Pt} {k:Nat} (hx:k<xs.length) (hy:k<ys.length) (he:xs[k]≠ys[k]):decide (xs=ys)=false:=by
 apply decide_eq_false
 rintro rfl
 exact he rfl
theorem beq_int (k m:Nat):((k:Int)==(m:Int))=decide (k=m):=by
 rw[Bool.eq_iff_iff]
 simp
 omega
set_option maxHeartbeats 800000 in
theorem sameR_any (xs ys:List Pt) (A B:Option Addr) (n m ca cb:Nat) (w:World) (hr:Reads w w.heap.size 2 A n (ptsV xs)) (hs:Reads w w.heap.size 2 B m (ptsV ys)) (hn:n≤9223372036854775807) (hm:m≤9223372036854775807):
 Calls Tryz.prog 23 #[.slice A n ca,.slice B m cb] w fun e w'=>e= .returned (.bool (decide (xs=ys)))∧Below w.heap.size w w':=by
 have HL:=Lib.hid (And.intro hr.lenPt hs.lenPt)
 go_enter Tryz.func23,Tryz.ntmps23
 go_wp2
 go_loopw [5] (fun i wr=>∃k:Nat,k≤n∧k≤m∧Hid (xs.take k=ys.take k)∧i= .int .i64 (k:Int)∧Below w.heap.size w wr) (fun i _=>n-(intOf i).toNat)
 case atStart=>exact⟨0,Nat.zero_le _,Nat.zero_le _,rfl,rfl,Below.refl _ _⟩
 case round=>
  obtain⟨k,hk,hkm,hg,rfl,hbel⟩:=hrel
  by_cases hlt:k<n
  ·by_cases hlt2:k<m
   ·obtain⟨ad,rfl,hb,hkl,hcx,hcy⟩:=(hr.below hbel).pt hlt
    obtain⟨bd,rfl,hb',hkl',hdx,hdy⟩:=(hs.below hbel).pt hlt2
    have HE1:=Lib.hid (take_same hg.out hkl hkl')
    have HE2:=Lib.hid (not_same hkl hkl')
    obtain⟨⟨x,y⟩,hp⟩:∃p,p=xs[k]:=⟨_,rfl⟩
    obtain⟨⟨x',y'⟩,hq⟩:∃p,p=ys[k]:=⟨_,rfl⟩
    rw[←hp]at hcx hcy
    rw[←hq]at hdx hdy
    have HP:=Lib.hid (And.intro hp hq)
    simp only at hcx hcy hdx hdy
    clear hp hq hr hs
    by_cases hx:x=x'
    ·by_cases hy:y=y'
     ·subst hx hy
      have HE:=Lib.hid (HE1.out (HP.out.1.symm.trans HP.out.2))
      clear HE1 HE2 HP
      go_wp2
      go_quiet (fail)
      go_wp2
      go_roundw
      case rel=>exact⟨k+1,by omega,by omega,HE,by go_num,below_drewN hbel _⟩
      case measure=>simp[intOf];omega
     ·have HE:=Lib.hid (HE2.out (by rw[←HP.out.1,←HP.out.2];simp[hy]))
      subst hx
      have hy':(y != y')=true:=by simpa using hy
      clear HE1 HE2 HP
      go_wp2
      go_quiet (fail)
      go_wp2
      go_ret
      exact⟨by rw[HE.out];rfl,below_drewN hbel _⟩
    ·have HE:=Lib.hid (HE2.out (by rw[←HP.out.1,←HP.out.2];simp[hx]))
     have hx':(x != x')=true:=by simpa using hx
     clear HE1 HE2 HP
     go_wp2
     go_quiet (fail)
     go_wp2
     go_ret
     exact⟨by rw[HE.out];rfl,below_drewN hbel _⟩
   ·have hne:¬(n=m):=by omega
    have hf:decide (xs=ys)=false:=by
     apply decide_eq_false
     rintro rfl
     have:=HL.out
     omega
    have HF:=Lib.hid hf
    have hnm:((n:Int)==(m:Int))=false:=by simp;omega
    clear hf hne
    go_wp2
    go_ret
    exact⟨by rw[HF.out];rfl,hbel⟩
  ·have hkn:k=n:=by omega
   subst hkn
   have HF:Hid (decide (k=m)=decide (xs=ys)):=by
    show _=_
    congr 1
    refine propext ⟨fun h=>?_,fun h=>?_⟩
    ·subst h
     have h1:=hg.out
     have:=HL.out
     rw[List.take_of_length_le (by omega),List.take_of_length_le (by omega)]at h1
     exact h1
    ·subst h
     have:=HL.out
     omega
   go_wp2
   go_ret
   exact⟨by show Ending.returned (.bool ((k:Int)==(m:Int)))=_;rw[←HF.out,beq_int],hbel⟩
set_option maxHeartbeats 400000 in
theorem good_any (xs:List Pt) (A:Option Addr) (n cap:Nat) (w:World) (hr:Reads w w.heap.size 2 A n (ptsV xs)) (hn:n≤9223372036854775807) (hx:∀p∈xs,p.inI):
 Calls Tryz.prog 104 #[.slice A n cap] w fun e w'=>e= .returned (.bool (goodL xs))∧Below w.heap.size w w':=by
 have hl:=hr.lenPt
 have HL:=Lib.hid hl
 have HX:=Lib.hid hx
 clear hl hx
 go_enter Tryz.func104,Tryz.ntmps104
 go_wp2
 go_loopw [7] (fun i wr=>∃k:Nat,k≤n∧Hid (goodL (xs.take k)=true)∧i= .int .i64 (k:Int)∧Below w.heap.size w wr) (fun i _=>n-(intOf i).toNat)
 case atStart=>exact⟨0,Nat.zero_le _,rfl,rfl,Below.refl _ _⟩
 case round=>
  obtain⟨k,hk,hg,rfl,hbel⟩:=hrel
  by_cases hlt:k<n
  ·obtain⟨ad,rfl,hb,hkl,hcx,hcy⟩:=(hr.below hbel).pt hlt
   have hin:=HX.out _ (List.getElem_mem hkl)
   obtain⟨x,hxx⟩:∃x,x=(xs[k]'hkl).x:=⟨_,rfl⟩
   obtain⟨y,hyy⟩:∃y,y=(xs[k]'hkl).y:=⟨_,rfl⟩
   have hts:=goodL_take xs k hkl
   rw[hg.out,Bool.true_and]at hts
   have hfalse:=goodL_false xs k hkl
   have hgi:good xs[k]=decide (-1073741824≤x∧x≤1073741824∧ -1073741824≤y∧y≤1073741824):=by rw[hxx,hyy];rfl
   unfold Pt.inI at hin
   rw[←hxx,←hyy]at hin
   rw[←hxx]at hcx
   rw[←hyy]at hcy
   rw[hgi]at hts hfalse
   have HT:=Lib.hid hts
   have HF:=Lib.hid hfalse
   obtain⟨⟨i1,i2⟩,i3,i4⟩:=hin
   clear hts hfalse hgi hxx hyy hr
   have h3:x<y∨y<x∨(x≤y∧y≤x):=by omega
   rcases h3 with h3|h3|⟨h3,h4⟩
   all_goals
    by_cases hG: -1073741824≤x∧x≤1073741824∧ -1073741824≤y∧y≤1073741824
    ·have HT2:Hid (goodL (xs.take (k+1))=true):=by show _=true;rw[HT.out];exact decide_eq_true hG
     obtain⟨g1,g2,g3,g4⟩:=hG
     clear HT HF
     go_wp2_with fail
     go_roundw
     case rel=>exact⟨k+1,by omega,HT2,by go_num,hbel.alloc hbel.size _⟩
     case measure=>simp[intOf];omega
    ·have HF2:=Lib.hid (HF.out (decide_eq_false hG))
     have HG:=Lib.hid hG
     clear HT HF hG
     go_wp2_with fail
     all_goals
      first
      |(go_ret;exact⟨by rw[HF2.out];rfl,hbel.alloc hbel.size _⟩)
      |(exfalso;have:=HG.out;omega)
  ·go_wp2_with fail
   go_ret
   refine⟨?_,hbel⟩
   have:=hg.out
   rw[List.take_of_length_le (by have:=HL.out;omega)]at this
   rw[this]
   rfl
set_option maxHeartbeats 400000 in
theorem goodR_any (xs:List Pt) (A:Option Addr) (n cap:Nat) (w:World) (hr:Reads w w.heap.size 2 A n (ptsV xs)) (hn:n≤9223372036854775807) (hx:∀p∈xs,p.inI):
 Calls Tryz.prog 29 #[.slice A n cap] w fun e w'=>e= .returned (.bool (goodL xs))∧Below w.heap.size w w':=by
 have hl:=hr.lenPt
 have HL:=Lib.hid hl
 have HX:=Lib.hid hx
 clear hl hx
 go_enter Tryz.func29,Tryz.ntmps29
 go_wp2
 go_loopw [3] (fun i wr=>∃k:Nat,k≤n∧Hid (goodL (xs.take k)=true)∧i= .int .i64 (k:Int)∧Below w.heap.size w wr) (fun i _=>n-(intOf i).toNat)
 case atStart=>exact⟨0,Nat.zero_le _,rfl,rfl,Below.refl _ _⟩
 case round=>
  obtain⟨k,hk,hg,rfl,hbel⟩:=hrel
  by_cases hlt:k<n
  ·obtain⟨ad,rfl,hb,hkl,hcx,hcy⟩:=(hr.below hbel).pt hlt
   have hin:=HX.out _ (List.getElem_mem hkl)
   obtain⟨x,hxx⟩:∃x,x=(xs[k]'hkl).x:=⟨_,rfl⟩
   obtain⟨y,hyy⟩:∃y,y=(xs[k]'hkl).y:=⟨_,rfl⟩
   have hts:=goodL_take xs k hkl
   rw[hg.out,Bool.true_and]at hts
   have hfalse:=goodL_false xs k hkl
   have hgi:good xs[k]=decide (-1073741824≤x∧x≤1073741824∧ -1073741824≤y∧y≤1073741824):=by rw[hxx,hyy];rfl
   unfold Pt.inI at hin
   rw[←hxx,←hyy]at hin
   rw[←hxx]at hcx
   rw[←hyy]at hcy
   rw[hgi]at hts hfalse
   have HT:=Lib.hid hts
   have HF:=Lib.hid hfalse
   obtain⟨⟨i1,i2⟩,i3,i4⟩:=hin
   clear hts hfalse hgi hxx hyy hr
   by_cases hG: -1073741824≤x∧x≤1073741824∧ -1073741824≤y∧y≤1073741824
   ·have HT2:Hid (goodL (xs.take (k+1))=true):=by show _=true;rw[HT.out];exact decide_eq_true hG
    obtain⟨g1,g2,g3,g4⟩:=hG
    clear HT HF
    go_wp2_with fail
    go_roundw
    case rel=>exact⟨k+1,by omega,HT2,by go_num,hbel.alloc hbel.size _⟩
    case measure=>simp[intOf];omega
   ·have HF2:=Lib.hid (HF.out (decide_eq_false hG))
    have h3:x< -1073741824∨(-1073741824≤x∧1073741824<x)∨(-1073741824≤x∧x≤1073741824∧y< -1073741824)∨(-1073741824≤x∧x≤1073741824∧ -1073741824≤y∧1073741824<y):=by omega
    clear HT HF hG
    rcases h3 with g1|⟨g1,g2⟩|⟨g1,g2,g3⟩|⟨g1,g2,g3,g4⟩
    all_goals
     go_wp2_with fail
     go_ret
     exact⟨by rw[HF2.out];rfl,hbel.alloc hbel.size _⟩
  ·go_wp2_with fail
   go_ret
   refine⟨?_,hbel⟩
   have:=hg.out
   rw[List.take_of_length_le (by have:=HL.out;omega)]at this
   rw[this]
   rfl
end Go.Proofs.YtpkeacnacjnlcaaGreat
namespace Go.Proofs.YtpkeacnacjnlcaaGreat
open Go.RowKit Go.WideShapes Go.ChangeShapes Go.Deep
section
variable {H:Type} {enc:TypeId×Value→H} {P:Program} {w:World} {base:Nat} {spare:Nat→Bool} {held:Bool}
theorem open_slice_fields {t e:TypeId} {fs:Array Field} {fuel:Nat} {cs:List Value} {x:DataW H×List MemPlace} (ht:P.underlying t=some (.slice e)) (he:P.underlying e=some (.struct fs))
 (hone:oneCellFields P fs=true) (hC:P.cellsOf e=fs.size) (h:DataW.trod enc P w base spare held fuel t cs=some x):
 (cs=[.slice none 0 0]∧x=(.nil,[]))∨
 ∃(a:Addr) (len cap m:Nat) (D:Nat→DataW H) (Pl:Nat→List MemPlace),cs=[.slice (some a) len cap]∧base≤a.block∧len≤cap∧cap≤maxLen∧m=(if spare a.block then cap else len)∧
  x=(.slice ((List.range len).map D) ((List.range (m-len)).map fun j=>D (len+j)),MemPlace.row a (m*fs.size)++(List.range m).flatMap Pl)∧
  ∀i,i<m→∃(ys:List (DataW H×List MemPlace)) (n:Nat),D i= .agg (ys.map (·.1))∧Pl i=ys.flatMap (·.2)∧ys.length=fs.size∧
   ∀(j:Nat) (f:Field),fs[j]?=some f→∃(v:Value) (y:DataW H×List MemPlace),w.cell? (a.add (i*fs.size+j))=some v∧ys[j]?=some y∧DataW.trod enc P w base spare held n f.type [v]=some y:=by
 rcases open_slice ht h with h0|⟨a,len,cap,m,n,D,Pl,hcs,hb,hl,hm,hmm,hx,hi⟩
 ·exact .inl h0
 ·refine .inr ⟨a,len,cap,m,D,Pl,hcs,hb,hl,hm,hmm,by rw[hC]at hx;exact hx,fun i him=>?_⟩
  obtain⟨cs',hc,ht'⟩:=hi i him
  rw[hC]at hc
  obtain⟨ys,n',hn',hy,hlen,hyl,hf⟩:=DataW.trod_struct he ht'
  obtain⟨_,hcl,hat⟩:=World.cells?_some hc
  simp only[Prod.mk.injEq]at hy
  refine⟨ys,n',hy.1,hy.2,hyl,fun j f hj=>?_⟩
  obtain⟨ho,hk⟩:=hone_of hone j f hj
  have hjl:j<fs.size:=(Array.getElem?_eq_some_iff.1 hj).1
  have hcell:=hat j hjl
  have hv:cs'[j]?=some (cs'[j]'(by omega)):=List.getElem?_eq_getElem (by omega)
  have h1:=hf j f hj
  rw[ho,hk]at h1
  have hone':(cs'.drop j).take 1=[cs'[j]'(by omega)]:=by
   rw[List.drop_eq_getElem_cons (by omega)]
   rfl
  rw[hone']at h1
  have hys:ys[j]?=some (ys[j]'(by omega)):=List.getElem?_eq_getElem (by omega)
  refine⟨_,_,?_,hys,h1.trans hys⟩
  rw[←Go.Deep.add_add,hcell,hv]
end
section
variable {H:Type} {enc:TypeId×Value→H} {P:Program}
theorem post_of_below {f:Func} {s:ChangeSpec} {apart fresh handsOn again:Bool} {W W':World} {args:Array Value} {v:Value} {ds gs:List (DataW H)} {before pa pv:List MemPlace}
 (hW:DataW.Whole enc P f.params.toList s.vars apart W args.toList ds gs before)
 (hres:∀(b:Nat) (sp:Nat→Bool) (hd:Bool),DataW.TrodAll enc P W' b sp hd f.resultTypes.toList (v.resultList f.resultTypes.size) (s.fn H (ds++gs)).results [])
 (hargs:∀sp:Nat→Bool,(∀p∈before,sp p.block=true)→DataW.TrodAll enc P W' 0 sp true f.params.toList args.toList (s.fn H (ds++gs)).args pa)
 (hvars:∀sp:Nat→Bool,(∀p∈before,sp p.block=true)→DataW.TrodVars enc P W' sp s.vars (s.fn H (ds++gs)).vars pv)
 (hps:before=pa++pv) (hb:Below W.heap.size W W')
 (hok:∀(j:Nat) (t:TypeId) (r:Value),f.resultTypes[j]?=some t→(v.resultList f.resultTypes.size)[j]?=some r→Value.okWide P W' .any 0 t r):
 s.post enc P f apart fresh handsOn again W args v W':=by
 have hlt:∀p∈before,p.block<W.heap.size:=fun p hp=>hW.lt p hp
 have hold:∀p∈before,(fun b=>decide (b<W.heap.size)) p.block=true:=fun p hp=>by simpa using hlt p hp
 refine⟨ds,gs,before,[],pa,pv,hW,hres _ _ _,hargs _ hold,hvars _ hold,World.keptBut_mono (fun p hp=>⟨hp,?_⟩) (hb.frame (· ∈ before)),fun _=>?_⟩
 ·rw[hps,List.mem_append]at hp
  exact Or.inr hp
 ·obtain⟨_,_,_,_,_,hz,hn⟩:=hW
  refine⟨hok,_,_,([]++pa)++pv,⟨[]++pa,pv,trodAll_append (hargs _ (fun _ _=>rfl)) (hres _ _ _),hvars _ (fun _ _=>rfl),rfl,?_,?_⟩,?_⟩
  ·intro b off hp
   have hin:MemPlace.cell b off∈before:=by rw[hps];simpa using hp
   rw[hb.frozen (hlt _ hin)]
   exact hz b off hin
  ·intro ha
   have:=hn ha
   rw[hps]at this
   simpa using this
  ·intro p hp _
   rw[hps]
   simpa using hp
end
end Go.Proofs.YtpkeacnacjnlcaaGreat
namespace Go.Proofs.YtpkeacnacjnlcaaGreat
open Go.RowKit Go.WideShapes Go.ChangeShapes Go.Deep Go.ChangeAt
theorem Tryz.own:ownKnob Tryz.prog.godebug=none:=by kernel_rfl
theorem Tryz.laidOut:laidOutB Tryz.prog=true:=by kernel_rfl
section
variable {H:Type} {enc:TypeId×Value→H} {P:Program}
theorem trodAll_stays (hl:laidOutB P=true) {W W':World} (hb:Below W.heap.size W W') (sp:Nat→Bool):∀(ts:List TypeId) (vs:List Value) (ds:List (DataW H)) (ps:List MemPlace),
 (∀t∈ts,P.readableRec t=true∧t<P.types.size)→DataW.TrodAll enc P W 0 (fun _=>true) true ts vs ds ps→(∀x∈ps,x.block<W.heap.size)→(∀x∈ps,sp x.block=true)→
 DataW.TrodAll enc P W' 0 sp true ts vs ds ps
 |[],[],[],_,_,h,_,_=>h
 |[],[],_::_,_,_,h,_,_=>h.elim
 |[],_::_,_,_,_,h,_,_=>h.elim
 |_::_,[],_,_,_,h,_,_=>h.elim
 |_::_,_::_,[],_,_,h,_,_=>h.elim
 |t::ts,v::vs,d::ds,ps,hr,h,hlt,hs=>by
  obtain⟨p,q,h1,h2,rfl⟩:=h
  obtain⟨hr1,hr2⟩:=hr t (by simp)
  refine⟨p,q,WideElems.Trod_stays hl hr1 hr2 h1 (fun x hx=>hb.same (hlt x (by simp[hx]))) (fun x hx=>hs x (by simp[hx])),?_,rfl⟩
  exact trodAll_stays hl hb sp ts vs ds q (fun t' ht=>hr t' (by simp[ht])) h2 (fun x hx=>hlt x (by simp[hx])) (fun x hx=>hs x (by simp[hx]))
theorem law_post {f:Func} {s:ChangeSpec} {apart fresh handsOn again:Bool} {W W':World} {args:Array Value} {ds:List (DataW H)} {before:List MemPlace} {tb:TypeId}
 (hl:laidOutB P=true) (hts0:(f.params.toList.all fun t=>P.readableRec t&&decide (t<P.types.size))=true) (hrt:f.resultTypes=#[tb]) (htb:P.underlying tb=some .bool) (hv:s.vars=[])
 (hW:DataW.Whole enc P f.params.toList s.vars apart W args.toList ds [] before)
 (hf1:(s.fn H (ds++[])).results=[.lit (.bool true)]) (hf2:(s.fn H (ds++[])).args=ds) (hf3:(s.fn H (ds++[])).vars=[]) (hb:Below W.heap.size W W'):
 s.post enc P f apart fresh handsOn again W args (.bool true) W':=by
 have hts:∀t∈f.params.toList,P.readableRec t=true∧t<P.types.size:=by
  intro t ht
  have:=List.all_eq_true.1 hts0 t ht
  simpa using this
 have hlt:∀p∈before,p.block<W.heap.size:=fun p hp=>hW.lt p hp
 have hW0:=hW
 obtain⟨p,q,hA,hV,rfl,_,_⟩:=hW
 rw[hv]at hV
 obtain⟨_,rfl⟩:=trodVars_none hV
 refine post_of_below (pa:=p) (pv:=[]) hW0 (fun b sp hd=>?_) (fun sp hsp=>?_) (fun sp hsp=>?_) rfl hb ?_
 ·rw[hf1,hrt]
  exact trodAll_mk1 (shut_bool htb true)
 ·rw[hf2]
  exact trodAll_stays hl hb sp _ _ _ _ hts hA (fun x hx=>hlt x (by simpa using hx)) (fun x hx=>hsp x (by simpa using hx))
 ·rw[hf3,hv]
  rfl
 ·exact ok_one hrt rfl (okWide_bool_mk htb true)
theorem cell_lt {W:World} {a:Addr} {v:Value} (h:W.cell? a=some v):a.block<W.heap.size:=by
 rcases Nat.lt_or_ge a.block W.heap.size with hlt|hge
 ·exact hlt
 ·unfold World.cell? at h
  rw[Array.getElem?_eq_none hge]at h
  cases h
end
end Go.Proofs.YtpkeacnacjnlcaaGreat
namespace Go.Proofs.YtpkeacnacjnlcaaGreat
open Go.RowKit Go.WideShapes Go.ChangeShapes Go.Deep Go.ChangeAt Go.Joins
section
variable {H:Type} {enc:TypeId×Value→H}
end
end Go.Proofs.YtpkeacnacjnlcaaGreat
namespace Go.Proofs.YtpkeacnacjnlcaaGreat
open Go.RowKit Go.WideShapes Go.ChangeShapes Go.Deep Go.ChangeAt Go.Joins
section
variable {H:Type} {enc:TypeId×Value→H}
end
end Go.Proofs.YtpkeacnacjnlcaaGreat
namespace Go.Proofs.YtpkeacnacjnlcaaGreat
open Go.RowKit Go.WideShapes Go.ChangeShapes Go.Deep Go.ChangeAt Go.Joins
section
variable {H:Type} {enc:TypeId×Value→H}
end
end Go.Proofs.YtpkeacnacjnlcaaGreat
namespace Go.Proofs.YtpkeacnacjnlcaaGreat
def beB (n:Nat):Nat→List UInt8
 |0=>[]
 |s+1=>beB (n/256) s++[UInt8.ofNat (n%256)]
def putN (b:List UInt8) (n size:Int):List UInt8:=if n<0∨size<1∨8<size∨256^size.toNat≤n.toNat then b else b++beB n.toNat size.toNat
def numL (l:List UInt8):Nat:=l.foldl (fun n b=>n*256+b.toNat) 0
def numR (b:List UInt8) (at_ size:Int):Int×Int:=
 if size<1∨7<size∨at_<0 then(0,1)else if (b.length:Int)<at_∨b.length-at_<size then(0,14)else(numL ((b.drop at_.toNat).take size.toNat),0)
theorem numL_snoc (l:List UInt8) (b:UInt8):numL (l++[b])=numL l*256+b.toNat:=by simp[numL]
theorem numL_lt (l:List UInt8):numL l<256^l.length:=by
 suffices h:∀(k:Nat) (l:List UInt8),l.length=k→numL l<256^k from h _ l rfl
 intro k
 induction k with
 |zero=>intro l h;obtain rfl:=List.eq_nil_of_length_eq_zero h;simp[numL]
 |succ k ih=>
  intro l h
  have hne:l≠[]:=by rintro rfl;simp at h
  rw[←List.dropLast_concat_getLast hne,numL_snoc]
  have:=ih l.dropLast (by simp[h])
  have:=(l.getLast hne).toNat_lt
  rw[Nat.pow_succ];omega
theorem numL_take (l:List UInt8) (k:Nat) (h:k<l.length):numL (l.take (k+1))=numL (l.take k)*256+l[k].toNat:=by
 rw[List.take_succ_eq_append_getElem h,numL_snoc]
theorem beB_length (n s:Nat):(beB n s).length=s:=by
 induction s generalizing n with
 |zero=>rfl
 |succ s ih=>simp[beB,ih]
theorem numL_beB (n s:Nat):numL (beB n s)=n%256^s:=by
 induction s generalizing n with
 |zero=>simp[beB,numL,Nat.mod_one]
 |succ s ih=>
  rw[beB,numL_snoc,ih,UInt8.toNat_ofNat']
  have h1:n%256%2^8=n%256:=by omega
  rw[h1]
  have h2:(256:Nat)^(s+1)=256*256^s:=by rw[Nat.pow_succ,Nat.mul_comm]
  rw[h2,Nat.mod_mul]
  omega
/-- One byte more: from the number cut to s bytes above byte j + 1 to that above byte j. -/
theorem beB_step (n j s:Nat):beB (n/256^j) (s+1)=beB (n/256^(j+1)) s++[UInt8.ofNat (n/256^j%256)]:=by
 rw[beB,Nat.div_div_eq_div_mul,←Nat.pow_succ]
theorem pow_two56 (j:Nat):2^(8*j)=256^j:=by rw[Nat.pow_mul]
end Go.Proofs.YtpkeacnacjnlcaaGreat
namespace Go.Proofs.YtpkeacnacjnlcaaGreat
open Go
section
variable {P:Program} {ops:Array Oper} {Q:Exit→Act→World→Prop} {md:Region.Mode} {S:World→Prop}
/-- Number 'i' next: it yields 'v' in every world that meets S; the state behind it is 'a1', spelled out. -/
theorem tk (i:Nat) {oi:Oper} {v:Value} {fuel:Nat} {l l1:Array Bool} {a a1:Act} {w:World} (h:wpAnyH P md ops Q S fuel l1 a1 w)
 (hi:ops[i]?=some oi:=by rfl) (h1:Region.noSelect ops=true:=by kernel_rfl) (h2:Region.free md ops l i=true:=by kernel_rfl)
 (h3:(Region.ready md ops l).contains i=true:=by kernel_rfl) (hw:Region.wanted oi (yielded ops a.tmps)=true:=by first|rfl|kernel_rfl)
 (hS:S w:=by assumption)
 (hy:∀w,S w→(execOp a.eval oi).run P w= .ok (.value v) w:=by intro w hSw;(try dsimp only at hSw);go_simp;try with_reducible rfl)
 (hl:l.setIfInBounds i true=l1:=by conv=>(lhs;simp only[List.setIfInBounds_toArray,List.set_cons_zero,List.set_cons_succ]))
 (ha:a.put oi.dst v=a1:=by conv=>(lhs;simp only[Act.put,List.setIfInBounds_toArray,List.set_cons_zero,List.set_cons_succ,List.getElem_toArray,List.getElem_cons_zero,List.getElem_cons_succ]))
 (hQ:∀c a w,Q (.panic c) (a.put oi.dst v) w→Q (.panic c) a w:=by exact fun _ _ _ h=>h):wpAnyH P md ops Q S (fuel+1) l a w:=by
 subst hl ha
 exact wpAnyH_take hi h1 h2 h3 hQ (.inl ⟨hw,hy⟩) hS h
/-- Number 'i' is left out by its guard. -/
theorem tu (i:Nat) {oi:Oper} {fuel:Nat} {l l1:Array Bool} {a a1:Act} {w:World} (h:wpAnyH P md ops Q S fuel l1 a1 w)
 (hi:ops[i]?=some oi:=by rfl) (h1:Region.noSelect ops=true:=by kernel_rfl) (h2:Region.free md ops l i=true:=by kernel_rfl)
 (h3:(Region.ready md ops l).contains i=true:=by kernel_rfl) (hw:Region.wanted oi (yielded ops a.tmps)=false:=by first|kernel_rfl|rfl)
 (hS:S w:=by assumption)
 (hl:l.setIfInBounds i true=l1:=by conv=>(lhs;simp only[List.setIfInBounds_toArray,List.set_cons_zero,List.set_cons_succ]))
 (ha:a.put oi.dst undef=a1:=by conv=>(lhs;simp only[Act.put,List.setIfInBounds_toArray,List.set_cons_zero,List.set_cons_succ]))
 (hQ:∀c a w,Q (.panic c) (a.put oi.dst undef) w→Q (.panic c) a w:=by exact fun _ _ _ h=>h):wpAnyH P md ops Q S (fuel+1) l a w:=by
 subst hl ha
 exact wpAnyH_take hi h1 h2 h3 hQ (.inr ⟨hw,rfl⟩) hS h
end
end Go.Proofs.YtpkeacnacjnlcaaGreat
namespace Go.Proofs.YtpkeacnacjnlcaaGreat
open Go.Lib (compareBytes)
theorem cb_self:∀a:List UInt8,compareBytes a a=0
 |[]=>rfl
 |a::al=>by
  unfold compareBytes
  rw[if_neg (UInt8.lt_irrefl a),if_neg (UInt8.lt_irrefl a)]
  exact cb_self al
theorem cb_flip:∀a b:List UInt8,compareBytes b a= - compareBytes a b
 |[],[]=>rfl
 |[],_::_=>rfl
 |_::_,[]=>rfl
 |a::al,b::bl=>by
  unfold compareBytes
  by_cases h1:a<b
  ·have h2:¬b<a:=UInt8.lt_asymm h1
   rw[if_neg h2,if_pos h1,if_pos h1];rfl
  ·by_cases h2:b<a
   ·rw[if_pos h2,if_neg h1,if_pos h2]
   ·rw[if_neg h2,if_neg h1,if_neg h1,if_neg h2]
    exact cb_flip al bl
theorem cb_zero:∀ {a b:List UInt8},compareBytes a b=0→a=b
 |[],[]=>fun _=>rfl
 |[],_::_=>fun h=>by simp[compareBytes]at h
 |_::_,[]=>fun h=>by simp[compareBytes]at h
 |a::al,b::bl=>fun h=>by
  unfold compareBytes at h
  by_cases h1:a<b
  ·rw[if_pos h1]at h;simp at h
  ·by_cases h2:b<a
   ·rw[if_neg h1,if_pos h2]at h;simp at h
   ·rw[if_neg h1,if_neg h2]at h
    rw[cb_zero h,UInt8.le_antisymm (UInt8.not_lt.1 h2) (UInt8.not_lt.1 h1)]
theorem cb_trans:∀ {a b c:List UInt8},compareBytes a b<0→compareBytes b c<0→compareBytes a c<0
 |[],[],_=>fun h _=>by simp[compareBytes]at h
 |_::_,[],_=>fun h _=>by simp[compareBytes]at h
 |_,_::_,[]=>fun _ h=>by simp[compareBytes]at h
 |[],_::_,_::_=>fun _ _=>by simp[compareBytes]
 |a::al,b::bl,c::cs=>fun h1 h2=>by
  unfold compareBytes at h1 h2 ⊢
  by_cases k1:a<b
  ·by_cases k2:b<c
   ·rw[if_pos (UInt8.lt_trans k1 k2)];decide
   ·by_cases k3:c<b
    ·rw[if_neg k2,if_pos k3]at h2;simp at h2
    ·have e:b=c:=UInt8.le_antisymm (UInt8.not_lt.1 k3) (UInt8.not_lt.1 k2)
     rw[if_pos (e▸k1)];decide
  ·by_cases k1':b<a
   ·rw[if_neg k1,if_pos k1']at h1;simp at h1
   ·have e:a=b:=UInt8.le_antisymm (UInt8.not_lt.1 k1') (UInt8.not_lt.1 k1)
    subst e
    rw[if_neg k1,if_neg k1]at h1
    by_cases k2:a<c
    ·rw[if_pos k2];decide
    ·by_cases k3:c<a
     ·rw[if_neg k2,if_pos k3]at h2;simp at h2
     ·rw[if_neg k2,if_neg k3]at h2 ⊢
      exact cb_trans h1 h2
/-- One key ahead of another. -/
def ltK (a b:List UInt8):Prop:=compareBytes a b<0
instance (a b:List UInt8):Decidable (ltK a b):=inferInstanceAs (Decidable (_<_))
theorem ltK_irrefl (a:List UInt8):¬ltK a a:=by unfold ltK;rw[cb_self];decide
theorem ltK_trans {a b c:List UInt8} (h1:ltK a b) (h2:ltK b c):ltK a c:=cb_trans h1 h2
theorem ltK_asymm {a b:List UInt8} (h:ltK a b):¬ltK b a:=fun h2=>ltK_irrefl _ (ltK_trans h h2)
theorem ltK_total {a b:List UInt8} (h1:¬ltK a b) (h2:¬ltK b a):a=b:=by
 unfold ltK at h1 h2
 rw[cb_flip a b]at h2
 exact cb_zero (by omega)
theorem ltK_ne {a b:List UInt8} (h:ltK a b):a≠b:=fun e=>ltK_irrefl b (e▸h)
/-- An item: its key and its value. -/
structure It where
 k:List UInt8
 v:List UInt8
deriving DecidableEq
/-- By rising keys, each once. -/
def Rising (l:List (List UInt8)):Prop:=l.Pairwise ltK
theorem Rising.nodup {l:List (List UInt8)} (h:Rising l):l.Nodup:=h.imp fun h=>ltK_ne h
/-- A sorted list without a key twice rises. -/
theorem rising_of {l:List (List UInt8)} (h1:l.Pairwise fun a b=>¬ltK b a) (h2:l.Nodup):Rising l:=
 (List.pairwise_and_iff.2 ⟨h1,h2⟩).imp fun {a b} h=>by
   by_cases e:ltK a b
   ·exact e
   ·exact absurd (ltK_total e h.1) h.2
theorem mem_of_key {l:List It} (h:(l.map (·.k)).Nodup) {x y:It} (hx:x∈l) (hy:y∈l) (e:x.k=y.k):x=y:=by
 induction l with
 |nil=>simp at hx
 |cons a l ih=>
  rw[List.map_cons,List.nodup_cons]at h
  rcases List.mem_cons.1 hx with e1|h1
  ·rcases List.mem_cons.1 hy with e2|h2
   ·rw[e1,e2]
   ·exact absurd (show a.k∈l.map (·.k) from List.mem_map.2 ⟨y,h2,by rw[←e,e1]⟩) h.1
  ·rcases List.mem_cons.1 hy with e2|h2
   ·exact absurd (show a.k∈l.map (·.k) from List.mem_map.2 ⟨x,h1,by rw[e,e2]⟩) h.1
   ·exact ih h.2 h1 h2
/-- Two lists of items that rise and have the same members are one. -/
theorem items_uniq:∀ {l l':List It},Rising (l.map (·.k))→Rising (l'.map (·.k))→(∀x,x∈l↔x∈l')→l=l'
 |[],[],_,_,_=>rfl
 |[],b::_,_,_,h=>absurd ((h b).2 (List.mem_cons_self ..)) (by simp)
 |a::_,[],_,_,h=>absurd ((h a).1 (List.mem_cons_self ..)) (by simp)
 |a::l,b::l',h1,h2,h=>by
  rw[List.map_cons]at h1 h2
  have i1:=List.pairwise_cons.1 h1
  have i2:=List.pairwise_cons.1 h2
  have e:a=b:=by
   rcases List.mem_cons.1 ((h a).1 (List.mem_cons_self ..))with h3|h3
   ·exact h3
   ·rcases List.mem_cons.1 ((h b).2 (List.mem_cons_self ..))with h4|h4
    ·exact h4.symm
    ·exact absurd (i1.1 b.k (List.mem_map.2 ⟨b,h4,rfl⟩)) (ltK_asymm (i2.1 a.k (List.mem_map.2 ⟨a,h3,rfl⟩)))
  subst e
  rw[items_uniq i1.2 i2.2 fun x=>⟨fun hx=>by
   rcases List.mem_cons.1 ((h x).1 (List.mem_cons_of_mem _ hx))with h3|h3
   ·exact absurd (h3▸i1.1 x.k (List.mem_map.2 ⟨x,hx,rfl⟩)) (ltK_irrefl a.k)
   ·exact h3,fun hx=>by
   rcases List.mem_cons.1 ((h x).2 (List.mem_cons_of_mem _ hx))with h3|h3
   ·exact absurd (h3▸i2.1 x.k (List.mem_map.2 ⟨x,hx,rfl⟩)) (ltK_irrefl a.k)
   ·exact h3⟩]
end Go.Proofs.YtpkeacnacjnlcaaGreat
