/- record.Delta: what the walk holds; record.read: the walk; Rows of bytes that a drawn region appends to: its steps in short; merestonelaw14.answers: true; merestonelaw14.own: the walk. -/
import Derived.Test.YtpkeacnacjnlcaaGreatK03
import Derived.Test.YtpkeacnacjnlcaaGreatK06
import Derived.Test.YtpkeacnacjnlcaaGreatK15
import Derived.Test.YtpkeacnacjnlcaaGreatK16
import Derived.Test.YtpkeacnacjnlcaaGreatK18
import Derived.Test.YtpkeacnacjnlcaaGreatK19
import Derived.Test.YtpkeacnacjnlcaaGreatK23
namespace Go.Proofs.YtpkeacnacjnlcaaGreat
open Go.RowKit Go.Lib
/-- Which keys have been met of a range over a map, and were taken. -/
structure SeenK (ks:List (List UInt8)) (P:List UInt8→Prop) (seen:Array Nat) (out:List (List UInt8)):Prop where
 nd:out.Nodup
 mem:∀z,z∈out↔∃i,∃h:i<ks.length,seen.contains i=true∧ks[i]=z∧P z
theorem seen_push {seen:Array Nat} {i j:Nat}:(seen.push i).contains j=true↔seen.contains j=true∨j=i:=by
 rw[Array.contains_iff_mem,Array.contains_iff_mem,Array.mem_push]
theorem SeenK.start (ks:List (List UInt8)) (P:List UInt8→Prop):SeenK ks P #[] []:=⟨List.nodup_nil,fun z=>⟨fun h=>absurd h List.not_mem_nil,fun⟨i,_,h,_⟩=>by simp at h⟩⟩
theorem SeenK.skip {ks:List (List UInt8)} {P:List UInt8→Prop} {seen:Array Nat} {out:List (List UInt8)} (h:SeenK ks P seen out) {i:Nat} (hi:i<ks.length) (hp:¬P ks[i]):SeenK ks P (seen.push i) out:=by
 refine⟨h.nd,fun z=>?_⟩
 rw[h.mem]
 refine⟨fun ⟨j,hj,h1,h2⟩=>⟨j,hj,seen_push.2 (.inl h1),h2⟩,fun⟨j,hj,h1,h2,h3⟩=>?_⟩
 rcases seen_push.1 h1 with h1|rfl
 ·exact⟨j,hj,h1,h2,h3⟩
 ·exact absurd (h2▸h3) hp
theorem SeenK.put {ks:List (List UInt8)} {P:List UInt8→Prop} {seen:Array Nat} {out:List (List UInt8)} (h:SeenK ks P seen out) (hk:ks.Nodup) {i:Nat} (hi:i<ks.length) (hs:seen.contains i=false) (hp:P ks[i]):SeenK ks P (seen.push i) (out++[ks[i]]):=by
 have hnew:ks[i]∉out:=fun hm=>by
  obtain⟨j,hj,h1,h2,-⟩:=(h.mem _).1 hm
  obtain rfl:j=i:=(List.getElem_inj hk).1 h2
  rw[hs]at h1
  cases h1
 refine⟨?_,fun z=>?_⟩
 ·rw[List.nodup_append]
  refine⟨h.nd,by simp,fun a ha b hb=>?_⟩
  simp at hb
  rintro rfl
  exact hnew (hb▸ha)
 ·rw[List.mem_append,h.mem]
  refine⟨?_,fun⟨j,hj,h1,h2,h3⟩=>?_⟩
  ·rintro(⟨j,hj,h1,h2⟩|hz)
   ·exact⟨j,hj,seen_push.2 (.inl h1),h2⟩
   ·simp at hz
    exact⟨i,hi,seen_push.2 (.inr rfl),hz.symm,hz▸hp⟩
  ·rcases seen_push.1 h1 with h1|rfl
   ·exact .inl ⟨j,hj,h1,h2,h3⟩
   ·exact .inr (by simp[h2])
theorem SeenK.done {ks:List (List UInt8)} {P:List UInt8→Prop} {seen:Array Nat} {out:List (List UInt8)} (h:SeenK ks P seen out) (ha:∀i,i<ks.length→seen.contains i=true) (z:List UInt8):z∈out↔z∈ks∧P z:=by
 rw[h.mem]
 refine⟨fun ⟨i,hi,_,h2,h3⟩=>⟨h2▸List.getElem_mem hi,h3⟩,fun⟨h1,h2⟩=>?_⟩
 obtain⟨i,hi,rfl⟩:=List.getElem_of_mem h1
 exact⟨i,hi,ha i hi,rfl,h2⟩
theorem SeenK.len {ks:List (List UInt8)} {P:List UInt8→Prop} {seen:Array Nat} {out:List (List UInt8)} (h:SeenK ks P seen out):out.length≤ks.length:=
 h.nd.length_le_of_subset fun z hz=>by
  obtain⟨i,hi,-,h2,-⟩:=(h.mem z).1 hz
  exact h2▸List.getElem_mem hi
theorem itB_lt {W:World} {r b n:Nat} {seen:Array Nat} (h:IterB W r b n seen):r<W.heap.size:=(Array.getElem?_eq_some_iff.1 h).1
theorem itB_ne {W:World} {r b n g:Nat} {seen:Array Nat} {cs:Array Value} {t:TypeId} {fr:Nat×Nat} (h:IterB W r b n seen) (hg:W.heap[g]?=some (Obj.cells cs t fr)):g≠r:=fun e=>by
 unfold IterB at h
 rw[e,h]at hg
 cases hg
/-- A range over a map that collects items. -/
structure LpI (X:World) (r b N:Nat) (seen:Array Nat) (out:List ItH) (P:Option Addr) (n c:Nat) (W:World):Prop where
 it:IterB W r b N seen
 bel:Below X.heap.size X W
 own:ItsOwn X.heap.size W P n c out
 ne:(Value.slice P n c).ownBlock≠some r
theorem LpI.on {X:World} {r b N:Nat} {seen:Array Nat} {out:List ItH} {P:Option Addr} {n c:Nat} {W W':World} (h:LpI X r b N seen out P n c W) (hb:Below W.heap.size W W'):LpI X r b N seen out P n c W':=
 ⟨h.it.kept (hb.block _ (itB_lt h.it)),below_on h.bel (Nat.le_refl _) hb,h.own.below hb,h.ne⟩
theorem LpI.next {X:World} {r b N:Nat} {seen seen':Array Nat} {out:List ItH} {P:Option Addr} {n c:Nat} {W W':World} (h:LpI X r b N seen out P n c W) (hr:X.heap.size≤r) (hi:IterB W' r b N seen') (hg:W.grownBy W' (some r)):LpI X r b N seen' out P n c W':=
 ⟨hi,h.bel.grown hg h.bel.size (fun j e=>by have:=Option.some.inj e;omega),⟨h.own.1.kept hg (.inr h.ne),fun e he=>(h.own.2 e he).heap hg.size fun g cs fr hb=>hg.block g (Array.getElem?_eq_some_iff.1 hb).1 (fun e'=>itB_ne h.it hb (Option.some.inj e'))⟩,h.ne⟩
theorem LpI.push {X:World} {r b N:Nat} {seen:Array Nat} {out:List ItH} {P A6:Option Addr} {n c n6 c6:Nat} {Y w6:World} {obj:Obj} {e:ItH} (h:LpI X r b N seen out P n c Y) (hI:ItsOwn X.heap.size w6 A6 n6 c6 (out++[e])) (hb:Below X.heap.size X w6) (hg:(Y.alloc obj).grownBy w6 (Value.slice P n c).ownBlock) (hat:(Value.slice A6 n6 c6).ownBlock=(Value.slice P n c).ownBlock∨(Value.slice A6 n6 c6).ownBlock=some (Y.alloc obj).heap.size):LpI X r b N seen (out++[e]) A6 n6 c6 w6:=by
 have hba:Below Y.heap.size Y (Y.alloc obj):=(Below.refl _ _).alloc (Nat.le_refl _) _
 have h2:=h.on hba
 have hr:=itB_lt h.it
 refine⟨h2.it.kept (hg.block _ (itB_lt h2.it) (fun e=>h.ne e.symm)),hb,hI,?_⟩
 rcases hat with e|e
 ·rw[e];exact h.ne
 ·rw[e]
  simp
  omega
theorem LpI.left {X:World} {r b:Nat} {L:List (List UInt8×Value)} {seen:Array Nat} {out:List ItH} {P:Option Addr} {n c:Nat} {W:World} (h:LpI X r b L.length seen out P n c W) (hm:MapB X b encS L):leftW W r b=(leftOf (entriesOf encS L) seen).size:=leftW_eq h.it (hm.kept (h.bel.block _ hm.lt))
theorem LpI.start (X:World) (b N:Nat):LpI X X.heap.size b N #[] [] none 0 0 (X.alloc (.mapIter (some b) N #[] N)):=
 ⟨heap_alloc_new X _,(Below.refl _ _).alloc (Nat.le_refl _) _,itsOwn_nil _ _,fun e=>by simp[Value.ownBlock]at e⟩
/-- A range over a map that collects rows of bytes. -/
structure LpB (X:World) (r b N:Nat) (seen:Array Nat) (out:List BsH) (P:Option Addr) (n c:Nat) (W:World):Prop where
 it:IterB W r b N seen
 bel:Below X.heap.size X W
 own:BsOwn X.heap.size W P n c out
 ne:(Value.slice P n c).ownBlock≠some r
theorem LpB.on {X:World} {r b N:Nat} {seen:Array Nat} {out:List BsH} {P:Option Addr} {n c:Nat} {W W':World} (h:LpB X r b N seen out P n c W) (hb:Below W.heap.size W W'):LpB X r b N seen out P n c W':=
 ⟨h.it.kept (hb.block _ (itB_lt h.it)),below_on h.bel (Nat.le_refl _) hb,h.own.below hb,h.ne⟩
theorem LpB.next {X:World} {r b N:Nat} {seen seen':Array Nat} {out:List BsH} {P:Option Addr} {n c:Nat} {W W':World} (h:LpB X r b N seen out P n c W) (hr:X.heap.size≤r) (hi:IterB W' r b N seen') (hg:W.grownBy W' (some r)):LpB X r b N seen' out P n c W':=
 ⟨hi,h.bel.grown hg h.bel.size (fun j e=>by have:=Option.some.inj e;omega),⟨h.own.1.kept hg (.inr h.ne),fun e he=>(h.own.2 e he).heap hg.size fun g cs fr hb=>hg.block g (Array.getElem?_eq_some_iff.1 hb).1 (fun e'=>itB_ne h.it hb (Option.some.inj e'))⟩,h.ne⟩
theorem LpB.left {X:World} {r b:Nat} {L:List (List UInt8×Value)} {seen:Array Nat} {out:List BsH} {P:Option Addr} {n c:Nat} {W:World} (h:LpB X r b L.length seen out P n c W) (hm:MapB X b encS L):leftW W r b=(leftOf (entriesOf encS L) seen).size:=leftW_eq h.it (hm.kept (h.bel.block _ hm.lt))
theorem LpB.start (X:World) (b N:Nat):LpB X X.heap.size b N #[] [] none 0 0 (X.alloc (.mapIter (some b) N #[] N)):=
 ⟨heap_alloc_new X _,(Below.refl _ _).alloc (Nat.le_refl _) _,bsOwn_nil _ _,fun e=>by simp[Value.ownBlock]at e⟩
/-- A literal of one row of bytes, appended. -/
theorem LpB.push {X:World} {r b N:Nat} {seen:Array Nat} {out:List BsH} {P A6:Option Addr} {n c n6 c6:Nat} {Y w6:World} {obj:Obj} {e:BsH} (h:LpB X r b N seen out P n c Y) (he:NewB X.heap.size Y e.2 e.1) (hown:w6.ownsRow X.heap.size 50 1 (.slice A6 n6 c6) n6 (bsV out++bsV [e])) (hg:(Y.alloc obj).grownBy w6 (Value.slice P n c).ownBlock) (hat:(Value.slice A6 n6 c6).ownBlock=(Value.slice P n c).ownBlock∨(Value.slice A6 n6 c6).ownBlock=some (Y.alloc obj).heap.size):LpB X r b N seen (out++[e]) A6 n6 c6 w6:=by
 have hba:Below Y.heap.size Y (Y.alloc obj):=(Below.refl _ _).alloc (Nat.le_refl _) _
 have h2:=h.on hba
 have hr:=itB_lt h.it
 have hk:∀(g:Nat) (cs:Array Value) (fr:Nat×Nat),(Y.alloc obj).heap[g]?=some (Obj.cells cs 5 fr)→w6.heap[g]?=(Y.alloc obj).heap[g]?:=fun g _ _ hb=>hg.block g (Array.getElem?_eq_some_iff.1 hb).1 (own_ne_cells h2.own.1 hb (by decide))
 refine⟨h2.it.kept (hg.block _ (itB_lt h2.it) (fun e=>h.ne e.symm)),h2.bel.grown hg h2.bel.size (fun g hg'=>(h2.own.1.lt g hg').1),⟨by unfold bsV at *;rw[List.map_append];exact hown,fun x hx=>?_⟩,?_⟩
 ·rcases List.mem_append.1 hx with hx|hx
  ·exact(h2.own.2 x hx).heap hg.size hk
  ·rw[List.mem_singleton.1 hx]
   exact(he.below hba).heap hg.size hk
 ·rcases hat with e|e
  ·rw[e];exact h.ne
  ·rw[e]
   simp
   omega
theorem ItsOwn.keepT {base b1 n1 s1 n c:Nat} {W W':World} {A:Option Addr} {d:List ItH} {e1:TypeId} {v1:Value} {x1:List Value} (h:ItsOwn base W A n c d) (h1:W.ownsRow b1 e1 s1 v1 n1 x1) (h2:e1≠52) (h3:e1≠5) (hg:W.grownBy W' v1.ownBlock):ItsOwn base W' A n c d:=by
 refine⟨?_,fun x hx=>(h.2 x hx).heap hg.size fun g _ _ hb=>hg.block g (Array.getElem?_eq_some_iff.1 hb).1 (own_ne_cells h1 hb h3)⟩
 rcases hv:(Value.slice A n c).ownBlock with _|g
 ·exact h.1.kept hg (.inl hv)
 ·exact h.1.kept hg (.inr (by rw[hv];exact fun e=>own_own_ne h.1 h1 (fun e=>h2 e.symm) hv e.symm))
theorem BsOwn.keepT {base b1 n1 s1 n c:Nat} {W W':World} {A:Option Addr} {d:List BsH} {e1:TypeId} {v1:Value} {x1:List Value} (h:BsOwn base W A n c d) (h1:W.ownsRow b1 e1 s1 v1 n1 x1) (h2:e1≠50) (h3:e1≠5) (hg:W.grownBy W' v1.ownBlock):BsOwn base W' A n c d:=by
 refine⟨?_,fun x hx=>(h.2 x hx).heap hg.size fun g _ _ hb=>hg.block g (Array.getElem?_eq_some_iff.1 hb).1 (own_ne_cells h1 hb h3)⟩
 rcases hv:(Value.slice A n c).ownBlock with _|g
 ·exact h.1.kept hg (.inl hv)
 ·exact h.1.kept hg (.inr (by rw[hv];exact fun e=>own_own_ne h.1 h1 (fun e=>h2 e.symm) hv e.symm))
/-- Rows of bytes to read. -/
def BsAt (W:World) (B:Nat) (A:Option Addr) (n c:Nat) (d:List BsH):Prop:=Reads W B 1 A n (bsV d)∧(∀e∈d,RdB W B e.2 e.1)∧n≤c∧c≤9223372036854775807
theorem BsAt.on {W W':World} {A:Option Addr} {n c:Nat} {d:List BsH} (h:BsAt W W.heap.size A n c d) (hb:Below W.heap.size W W'):BsAt W' W'.heap.size A n c d:=⟨h.1.on hb,fun e he=>(h.2.1 e he).on hb,h.2.2⟩
theorem BsOwn.at_ {base:Nat} {W:World} {A:Option Addr} {n c:Nat} {d:List BsH} (h:BsOwn base W A n c d):BsAt W W.heap.size A n c d:=⟨Reads.of_own h.1,fun e he=>(h.2 e he).rd,own_cap h.1⟩
theorem BsAt.len {W:World} {B n c:Nat} {A:Option Addr} {d:List BsH} (h:BsAt W B A n c d):d.length=n:=by
 have:=h.1.1
 unfold bsV at this
 simpa using this
theorem BsAt.cell {W:World} {B:Nat} {ad:Addr} {n c:Nat} {d:List BsH} (h:BsAt W B (some ad) n c d) {k:Nat} (hk:k<n) (hd:k<d.length):
 ad.block<B∧W.cell? (ad.add k)=some (.slice d[k].2.1 d[k].2.2.1 d[k].2.2.2):=by
 obtain⟨ad',e,hb,hc⟩:=h.1.2 (by omega)
 cases e
 refine⟨hb,hc k _ ?_⟩
 unfold bsV
 rw[List.getElem?_map,List.getElem?_eq_getElem hd]
 rfl
theorem ValM.mem {d:List ItH} {L:List (List UInt8×Value)} (h:ValM d d.length L) (z:List UInt8):z∈L.map (·.1)↔lastV (d.map (·.1)) z≠none:=by
 rw[←lastH_lastV,←Decidable.not_not (p:=z∈L.map (·.1)),←look_none,h.at_]
 cases lastH d z d.length<;>simp
theorem ValM.form {d:List ItH} {L:List (List UInt8×Value)} (h:ValM d d.length L) {z:List UInt8} {v:Value} (hv:look L z=some v):∃y∈d,y.1.k=z∧v=hdV y.2.2∧lastV (d.map (·.1)) z=some y.1.v:=by
 rw[h.at_]at hv
 rcases e:lastH d z d.length with _|y
 ·rw[e]at hv;cases hv
 ·rw[e]at hv
  cases hv
  obtain⟨h1,h2⟩:=lastH_mem e
  exact⟨y,h1,h2,rfl,by rw[←lastH_lastV,e];rfl⟩
theorem ValM.out {d:List ItH} {L:List (List UInt8×Value)} (h:ValM d d.length L) {z:List UInt8} (hv:look L z=none):lastV (d.map (·.1)) z=none:=by
 rw[h.at_]at hv
 rw[←lastH_lastV]
 rcases e:lastH d z d.length with _|y
 ·rfl
 ·rw[e]at hv;cases hv
def ReadPost (base:Nat) (w:World) (A:Option Addr) (n c:Nat) (rs:List Pt) (v:List UInt8) (e:Ending) (w':World):Prop:=
 ∃A' c',e= .returned (.slice A' (n+v.length/8) c')∧w'.ownsRow base 23 2 (.slice A' (n+v.length/8) c') (n+v.length/8) (ptsV (rs++ptsB v))∧w.grownBy w' (Value.slice A n c).ownBlock∧
  ((Value.slice A' (n+v.length/8) c').ownBlock=(Value.slice A n c).ownBlock∨∃g,(Value.slice A' (n+v.length/8) c').ownBlock=some g∧w.heap.size≤g)
set_option maxRecDepth 100000 in
set_option maxHeartbeats 3200000 in
theorem readW_any (base:Nat) (rs:List Pt) (v:List UInt8) (A B:Option Addr) (n c m mc:Nat) (w:World) (ho:w.ownsRow base 23 2 (.slice A n c) n (ptsV rs)) (hb:base≤w.heap.size) (hr:Reads w w.heap.size 1 B m (u8s v)) (hmc:m≤mc∧mc≤9223372036854775807)
 (hne:∀b,B=some b→some b.block≠(Value.slice A n c).ownBlock) (hm:m≤1048576∧n≤1048576):
 Calls Tryz.prog 60 #[.slice A n c,.slice B m mc] w (ReadPost base w A n c rs v):=by
 obtain⟨i0,hi0,hz0,hz1,hz2⟩:=info_parts info_point
 have hl:=hr.len8
 have HR:=Lib.hid (And.intro ho (And.intro hb (And.intro hr (And.intro hmc (And.intro hne (And.intro hm hl))))))
 obtain⟨hm1,hm2⟩:=hm
 clear ho hb hr hmc hne hl
 go_enter Tryz.func60,Tryz.ntmps60
 go_wp2_with fail
 go_loopw [0,5] (fun s i wr=>∃(j I:Nat) (A':Option Addr) (c':Nat),I≤m∧i= .int .i64 (I:Int)∧s= .slice A' (n+j) c'∧Hid (I=8*j∧wr.ownsRow base 23 2 (.slice A' (n+j) c') (n+j) (ptsV (rs++(ptsB v).take j))∧w.grownBy wr (Value.slice A n c).ownBlock∧
  ((Value.slice A' (n+j) c').ownBlock=(Value.slice A n c).ownBlock∨∃g,(Value.slice A' (n+j) c').ownBlock=some g∧w.heap.size≤g))) (fun _ i _=>m-(intOf i).toNat)
 case atStart=>exact⟨0,0,A,c,Nat.zero_le _,rfl,rfl,rfl,by simpa using HR.out.1,World.grownBy.refl _ _,.inl rfl⟩
 case round=>
  obtain⟨j,I,A',c',hI,rfl,rfl,HW⟩:=hrel
  have w8:IntKind.i64.wrap ((I:Int)+8)=(I:Int)+8:=by rw[IntKind.wrap_i64];omega
  have hrd:Reads wr wr.heap.size 1 B m (u8s v):=by
   refine Reads.more ⟨HR.out.2.2.1.1,fun h0=>?_⟩ HW.out.2.2.1.size
   obtain⟨ad,e,hb,hc⟩:=HR.out.2.2.1.2 h0
   exact⟨ad,e,hb,fun k u hu=>by rw[←hc k u hu];exact World.cell?_of_block (by rw[block_of_add];exact HW.out.2.2.1.block _ hb (HR.out.2.2.2.2.1 ad e))⟩
  by_cases hlt:I+8≤m
  ·have g1:(I:Int)+8≤(m:Int):=by omega
   have w4:IntKind.i64.wrap ((I:Int)+4)=(I:Int)+4:=by rw[IntKind.wrap_i64];omega
   have hv8:8*j+8≤v.length:=by have:=HW.out.1;have:=HR.out.2.2.2.2.2.2;omega
   have k1:=num_any v B m mc (I:Int) 4 wr hrd HR.out.2.2.2.1.1 HR.out.2.2.2.1.2 (by omega) (by omega)
   have k2:=num_any v B m mc ((I:Int)+4) 4 wr hrd HR.out.2.2.2.1.1 HR.out.2.2.2.1.2 (by omega) (by omega)
   unfold NumPost at k1 k2
   rw[show (I:Int)=((8*j:Nat):Int) by have:=HW.out.1;omega,show(4:Int)=((4:Nat):Int) from rfl,numR_ok (k:=8*j) (s:=4) (by omega) (by omega) (by omega)]at k1
   rw[show (I:Int)+4=((8*j+4:Nat):Int) by have:=HW.out.1;omega,show(4:Int)=((4:Nat):Int) from rfl,numR_ok (k:=8*j+4) (s:=4) (by omega) (by omega) (by omega)]at k2
   rw[show ((8*j:Nat):Int)=(I:Int) by have:=HW.out.1;omega]at k1
   rw[show ((8*j+4:Nat):Int)=(I:Int)+4 by have:=HW.out.1;omega]at k2
   have hl1:=numL_lt ((v.drop (8*j)).take 4)
   have hl2:=numL_lt ((v.drop (8*j+4)).take 4)
   have hc1:((v.drop (8*j)).take 4).length=4:=by rw[List.length_take,List.length_drop];omega
   have hc2:((v.drop (8*j+4)).take 4).length=4:=by rw[List.length_take,List.length_drop];omega
   rw[hc1]at hl1
   rw[hc2]at hl2
   obtain⟨X,hX⟩:∃X,numL ((v.drop (8*j)).take 4)=X:=⟨_,rfl⟩
   obtain⟨Y,hY⟩:∃Y,numL ((v.drop (8*j+4)).take 4)=Y:=⟨_,rfl⟩
   rw[hX]at k1 hl1
   rw[hY]at k2 hl2
   have hpt:ptOfB v j=⟨(X:Int)-1073741824,(Y:Int)-1073741824⟩:=by unfold ptOfB;rw[hX,hY]
   have hj8:j<v.length/8:=by omega
   have htk:(ptsB v).take (j+1)=(ptsB v).take j++[⟨(X:Int)-1073741824,(Y:Int)-1073741824⟩]:=by
    have hlt2:j<(ptsB v).length:=by unfold ptsB;rw[List.length_map,List.length_range];exact hj8
    rw[List.take_succ_eq_append_getElem hlt2]
    rw[show (ptsB v)[j]'hlt2=ptOfB v j by simp[ptsB],hpt]
   have e1:IntKind.i64.wrap ((X:Int)-1073741824)=(X:Int)-1073741824:=by rw[IntKind.wrap_i64];omega
   have e2:IntKind.i64.wrap ((Y:Int)-1073741824)=(Y:Int)-1073741824:=by rw[IntKind.wrap_i64];omega
   have K1:=Lib.hid k1
   have K2':=Lib.hid k2
   have HT:=Lib.hid (And.intro htk (show j+1≤1048576 by have:=HW.out.1;omega))
   have hw0:Below wr.heap.size wr (wr.alloc (.cells #[.int .i64 ((X:Int)-1073741824),.int .i64 ((Y:Int)-1073741824)] 23)):=(Below.refl _ _).alloc (Nat.le_refl _) _
   have HQ:=Lib.hid (And.intro (own_below HW.out.2.1 hw0) (And.intro (Reads.made wr #[.int .i64 ((X:Int)-1073741824),.int .i64 ((Y:Int)-1073741824)] 23 (0,0) 2 1 (ptsV [⟨(X:Int)-1073741824,(Y:Int)-1073741824⟩]) rfl rfl) (And.intro hw0 (Nat.le_trans (Nat.le_trans HR.out.2.1 HW.out.2.2.1.size) hw0.size))))
   have HJI:=Lib.hid (And.intro (show I+8≤m from hlt) HW.out.1)
   clear k1 k2 hl1 hl2 hc1 hc2 hX hY hpt hj8 htk hw0 hv8 hrd hI hlt
   go_wp2_with fail
   refine K1.out.mono ?_
   rintro e w5 ⟨rfl,rfl⟩
   go_wp2_with fail
   refine K2'.out.mono ?_
   rintro e w6 ⟨rfl,rfl⟩
   go_wp2_with (at_builtin;refine wpList_append_any _ rfl (.tmp 30) (.tmp 36) _ rfl base 23 i0 _ 2 16 Tryz.underlying25 hi0 hz0 hz1 hz2 rfl (Nat.zero_lt_succ _) (.slice A' (n+j) c') (n+j) _ rfl HQ.out.1 _ (some ⟨wr.heap.size,0,none⟩) 1 1 _ rfl HQ.out.2.1 (ptsV_one _) (by have:=HT.out.2;simp only[maxLen];omega) (by have:=HT.out.2;omega) HQ.out.2.2.2 ?_
                intro v7 w7 hown7 hg7 hat7
                obtain⟨A7,c7,rfl⟩:=own_form hown7)
   have H7:=Lib.hid (And.intro hown7 (And.intro hg7 hat7))
   clear hown7 hg7 hat7 K1 K2'
   go_roundw
   case rel=>
    refine⟨j+1,I+8,A7,c7,HJI.out.1,by go_num,rfl,by have:=HJI.out.2;omega,?_,?_,?_⟩
    ·rw[HT.out.1,←List.append_assoc,ptsV_append]
     exact H7.out.1
    ·refine HW.out.2.2.1.andThen (((World.grownBy_alloc _ _ none).but _).trans H7.out.2.1) fun k hk=>?_
     rcases HW.out.2.2.2 with e|⟨g,e,hg⟩
     ·exact .inr (e.symm.trans hk)
     ·rw[e]at hk
      cases hk
      exact .inl hg
    ·rcases H7.out.2.2 with e|e
     ·rcases HW.out.2.2.2 with e'|⟨g,e',hg⟩
      ·exact .inl (e.trans e')
      ·exact .inr ⟨g,e.trans e',hg⟩
     ·exact .inr ⟨_,e,Nat.le_trans HW.out.2.2.1.size HQ.out.2.2.1.size⟩
   case measure=>have:=HJI.out.1;simp[intOf];omega
  ·have g1:¬(I:Int)+8≤(m:Int):=by omega
   have hj:j=v.length/8:=by have:=HW.out.1;have:=HR.out.2.2.2.2.2.2;omega
   have hall:(ptsB v).take j=ptsB v:=List.take_of_length_le (by unfold ptsB;rw[List.length_map,List.length_range];omega)
   rw[hall,hj]at HW
   have HJ:=Lib.hid hj
   have HB:=Lib.hid HW.out
   clear hj hall HW hrd hlt hI
   go_wp2_with fail
   go_ret
   exact⟨A',c',by rw[←HJ.out];rfl,HB.out.2⟩
end Go.Proofs.YtpkeacnacjnlcaaGreat
namespace Go.Proofs.YtpkeacnacjnlcaaGreat
open Go Go.RowKit
section
variable {ops:Array Oper} {Q:Exit→Act→World→Prop} {md:Region.Mode} {S:World→Prop}
/-- Bytes behind the row. -/
theorem KP.appH {V W:World} {A A2:Option Addr} {n c m c2 B:Nat} {xs ys:List UInt8} {R:List (Hd×List UInt8)} {i:Nat} {o:Oper} {fuel:Nat} {l l1:Array Bool} {a:Act} (hK:KP V W A n c xs R) (s x:Operand) (hr:Reads W B 1 A2 m (u8s ys)) (hb:n+m≤140737488355328)
 (h:∀A' c' W',KP V W' A' (n+m) c' (xs++ys) R→Nxt Tryz.prog md ops Q S fuel l1 a o.dst (.returned (.slice A' (n+m) c')) W')
 (ho:ops[i]?=some o:=by rfl) (hop:o.op= .call { callee:= .builtin .append,args:=#[s,x],argTypes:=#[50,50] }:=by rfl) (hg:o.guard=none:=by rfl) (hs:a.eval s= .slice A n c:=by rfl) (hx:a.eval x= .slice A2 m c2:=by rfl)
 (hl:l.setIfInBounds i true=l1:=by conv=>(lhs;simp only[List.setIfInBounds_toArray,List.set_cons_zero,List.set_cons_succ])):OneH Tryz.prog md ops Q S fuel l a W i:=by
 obtain⟨i0,hi0,hy0,hy1,hy2⟩:=info_parts info_u8
 refine Go.Proofs.YtpkeacnacjnlcaaGreat.appH s x 50 V.heap.size 5 i0 _ 1 1 Tryz.underlying50 hi0 hy0 hy1 hy2 (.slice A n c) n _ hK.own B A2 m c2 _ hr (u8s_one _) (by simp only[maxLen];omega) (by omega) hK.bel.size (fun v' w' h1 h2 h3=>?_) ho hop hg hs hx rfl (Nat.zero_lt_succ _) hl
 obtain⟨A',c',rfl⟩:=own_form h1
 exact h A' c' w' (hK.app h1 h2 h3)
/-- A literal that will be appended to. -/
theorem KP.litH {V W:World} {c0 i fuel:Nat} {R:List (Hd×List UInt8)} {o:Oper} {l l1:Array Bool} {a a1:Act} (hK:KP V W none 0 c0 [] R) (C:Array Value) (m:Nat) (ys:List UInt8) (hO:∀V',Below V.heap.size V V'→S V') (he:C.toList=u8s ys)
 (h:∀X,KP V X (some ⟨W.heap.size,0,none⟩) m m ys R→S X→wpAnyH Tryz.prog md ops Q S fuel l1 a1 X) (hm:m≤1000:=by decide) (hC:C.size=m:=by rfl)
 (ho:ops[i]?=some o:=by rfl) (hw:Region.wanted o (yielded ops a.tmps)=true:=by first|rfl|kernel_rfl)
 (hrun:(execOp a.eval o).run Tryz.prog W= .ok (.value (.slice (some ⟨W.heap.size,0,none⟩) m m)) (W.alloc (.cells C 5)):=by go_simp)
 (hl:l.setIfInBounds i true=l1:=by conv=>(lhs;simp only[List.setIfInBounds_toArray,List.set_cons_zero,List.set_cons_succ]))
 (ha:a.put o.dst (.slice (some ⟨W.heap.size,0,none⟩) m m)=a1:=by conv=>(lhs;simp only[Act.put,List.setIfInBounds_toArray,List.set_cons_zero,List.set_cons_succ,List.getElem_toArray,List.getElem_cons_zero,List.getElem_cons_succ])):OneH Tryz.prog md ops Q S fuel l a W i:=by
 have h2:=hK.lit C m ys hm hC he
 exact yieldH (hO _ h2.bel) (fun hS=>h _ h2 hS) ho hw hrun hl ha
/-- A literal beside. -/
theorem KP.addH {V W:World} {A:Option Addr} {n c i fuel:Nat} {xs:List UInt8} {R:List (Hd×List UInt8)} {o:Oper} {l l1:Array Bool} {a a1:Act} (hK:KP V W A n c xs R) (C:Array Value) (m:Nat) (ys:List UInt8) (hO:∀V',Below V.heap.size V V'→S V') (he:C.toList=u8s ys)
 (h:∀X,KP V X A n c xs (((some ⟨W.heap.size,0,none⟩,m,m),ys)::R)→S X→wpAnyH Tryz.prog md ops Q S fuel l1 a1 X) (hm:m≤1000:=by decide) (hC:C.size=m:=by rfl)
 (ho:ops[i]?=some o:=by rfl) (hw:Region.wanted o (yielded ops a.tmps)=true:=by first|rfl|kernel_rfl)
 (hrun:(execOp a.eval o).run Tryz.prog W= .ok (.value (.slice (some ⟨W.heap.size,0,none⟩) m m)) (W.alloc (.cells C 5)):=by go_simp)
 (hl:l.setIfInBounds i true=l1:=by conv=>(lhs;simp only[List.setIfInBounds_toArray,List.set_cons_zero,List.set_cons_succ]))
 (ha:a.put o.dst (.slice (some ⟨W.heap.size,0,none⟩) m m)=a1:=by conv=>(lhs;simp only[Act.put,List.setIfInBounds_toArray,List.set_cons_zero,List.set_cons_succ,List.getElem_toArray,List.getElem_cons_zero,List.getElem_cons_succ])):OneH Tryz.prog md ops Q S fuel l a W i:=by
 have h2:=hK.add ((Below.refl _ _).alloc (Nat.le_refl _) (.cells C 5)) (newB_lit W C m ys hm hC he)
 exact yieldH (hO _ h2.bel) (fun hS=>h _ h2 hS) ho hw hrun hl ha
end
end Go.Proofs.YtpkeacnacjnlcaaGreat
namespace Go.Proofs.YtpkeacnacjnlcaaGreat
open Go.RowKit Go.Lib
abbrev nulJ:ByteArray:=⟨#[]⟩
def kR:List Pt:=[⟨0,0⟩,⟨4,0⟩,⟨4,4⟩,⟨0,4⟩]
def kP:Plan:=⟨kR,[⟨1,kR,nulJ⟩]⟩
theorem pairsOK_of {xs:List Pt} (h:((List.range xs.length).all fun j=>(List.range j).all fun i=>pairOK xs i j)=true):PairsOK xs:=fun i j hij hj=>by
 rw[List.all_eq_true]at h
 have h1:=h j (List.mem_range.2 hj)
 rw[List.all_eq_true]at h1
 exact h1 i (List.mem_range.2 hij)
theorem pairsE_of {l:List Ed} (h:((List.range l.length).all fun j=>(List.range j).all fun i=>okR (edAt l i) (edAt l j))=true):PairsE l:=fun i j hi hj hij=>by
 rw[List.all_eq_true]at h
 have h1:=h j (List.mem_range.2 hj)
 rw[List.all_eq_true]at h1
 have h2:=h1 i (List.mem_range.2 hij)
 rw[edAt_lt hi,edAt_lt hj]at h2
 exact h2
theorem norm_of {xs:List Pt} (h1:areaE xs=0) (h2:3≤xs.length) (h3:0<areaZ xs) (h4:((List.range xs.length).all fun j=>(List.range j).all fun i=>pairOK xs i j)=true) (h5:lst xs=xs):NormedP xs:=⟨checkI_ok h1 h2 h3 (pairsOK_of h4),h5.symm⟩
set_option maxRecDepth 100000 in
theorem kR_norm:NormedP kR:=norm_of (by decide) (by decide) (by decide) (by decide) (by decide)
set_option maxRecDepth 100000 in
theorem kP_sound:SoundP kP:=by
 have e:allE kP.parcels=edgesOf kR:=by unfold allE kP;simp
 refine⟨by decide,kR_norm,fun x hx=>?_,?_,?_,by decide⟩
 ·have:x=⟨1,kR,nulJ⟩:=by simpa[kP]using hx
  rw[this]
  exact kR_norm
 ·unfold MatchP
  rw[e]
  exact⟨by decide,fun e h=>h,by decide⟩
 ·rw[e]
  exact pairsE_of (by decide)
theorem kP_its:(planIts kP).length=8:=by
 have h:checkI kR=0:=kR_norm.1
 have h2:(cellsL kR).length=1:=by unfold cellsL;rw[if_pos h];decide
 unfold planIts
 simp only[kP,List.flatMap_cons,List.flatMap_nil,List.append_nil,List.length_append]
 rw[parIts_eq]
 unfold parOP ringIts
 simp only[List.length_append,List.length_cons,List.length_map,List.length_range]
 rw[h2]
 decide
set_option maxRecDepth 100000 in
set_option maxHeartbeats 1600000 in
theorem ans14_any (w:World):Calls Tryz.prog 14 #[] w fun e w'=>e= .returned (.bool true)∧Below w.heap.size w w':=by
 obtain⟨w0,hw0⟩:∃W,W=w.alloc (.cells #[.int .i64 0,.int .i64 0,.int .i64 4,.int .i64 0,.int .i64 4,.int .i64 4,.int .i64 0,.int .i64 4] 23):=⟨_,rfl⟩
 have hb0:Below w.heap.size w w0:=by rw[hw0];exact(Below.refl _ _).alloc (Nat.le_refl _) _
 have hs0:w0.heap.size=w.heap.size+1:=by rw[hw0,World.size_alloc]
 obtain⟨w1,hw1⟩:∃W,W=w0.alloc (.cells #[.int .i64 1,.slice (some ⟨w.heap.size,0,none⟩) 4 4,.string nulJ] 27):=⟨_,rfl⟩
 have hb1:Below w0.heap.size w0 w1:=by rw[hw1];exact(Below.refl _ _).alloc (Nat.le_refl _) _
 have hO:Reads w0 w0.heap.size 2 (some ⟨w.heap.size,0,none⟩) 4 (ptsV kR):=by rw[hw0];exact Reads.made w #[.int .i64 0,.int .i64 0,.int .i64 4,.int .i64 0,.int .i64 4,.int .i64 4,.int .i64 0,.int .i64 4] 23 (0,0) 2 4 (ptsV kR) rfl rfl
 have hC:Blk w1 (w.heap.size+1) 27 #[.int .i64 1,.slice (some ⟨w.heap.size,0,none⟩) 4 4,.string nulJ]:=by rw[hw1,←hs0];exact Blk.new w0 _ _
 have hbb:Below w.heap.size w w1:=below_on hb0 (Nat.le_refl _) hb1
 have hin:∀p∈kR,p.inI:=by intro p hp;simp[kR]at hp;rcases hp with rfl|rfl|rfl|rfl<;>(unfold Pt.inI;simp)
 have hP:PlanAt w1 w1.heap.size (some ⟨w.heap.size,0,none⟩) 4 4 (some ⟨w.heap.size+1,0,none⟩) 1 1 kP:=by
  refine⟨hO.on hb1,pIn_one (x:=⟨1,kR,nulJ⟩) hC (hO.on hb1) (Nat.le_refl _) (by omega) (Blk.lt hC),⟨Nat.le_refl _,by omega⟩,⟨Nat.le_refl _,by omega⟩,⟨⟨by decide,hin⟩,by decide,fun x hx=>?_⟩⟩
  have:x=⟨1,kR,nulJ⟩:=by simpa[kP]using hx
  rw[this]
  exact⟨by decide,hin,by unfold inI;simp,by decide⟩
 have KM:=Lib.hid (items_any kP _ _ 4 4 1 1 w1 hP)
 have HB:=Lib.hid hbb
 obtain⟨W,hW⟩:∃W,W=w1:=⟨_,rfl⟩
 rw[←hW]at KM HB
 rw[hw1,hw0]at hW
 clear hO hC hbb hin hP hb0 hb1 hs0 hw0 hw1 w0 w1
 go_enter Tryz.func14,Tryz.ntmps14
 go_wp2_with fail
 rw[←hW]
 clear hW
 refine KM.out.mono ?_
 rintro e w1 ⟨hyes,-,hb1⟩
 obtain⟨A,c,d,rfl,ho,hri,hpm⟩:=hyes (planB_yes kP_sound)
 have hn:d.length=8:=by have:=hpm.length_eq;rw[List.length_map,kP_its]at this;exact this
 rw[hn]at ho
 rw[hn]
 have HZ:=Lib.hid (below_on HB.out (Nat.le_refl _) hb1)
 clear ho hri hpm hb1 HB hyes hn KM
 go_wp2_with fail
 go_ret
 exact⟨rfl,HZ.out⟩
/-- Two rows of bytes that are appended to, apart. -/
structure K2 (V W:World) (A:Option Addr) (n c:Nat) (xs:List UInt8) (A':Option Addr) (n' c':Nat) (ys:List UInt8):Prop where
 bel:Below V.heap.size V W
 own:W.ownsRow V.heap.size 5 1 (.slice A n c) n (u8s xs)
 own':W.ownsRow V.heap.size 5 1 (.slice A' n' c') n' (u8s ys)
 apart:∀g,(Value.slice A n c).ownBlock=some g→(Value.slice A' n' c').ownBlock≠some g
theorem K2.start (V:World):K2 V V none 0 0 [] none 0 0 []:=⟨Below.refl _ _,World.ownsRow_nil _ _ _ _,World.ownsRow_nil _ _ _ _,fun g e=>by simp[Value.ownBlock]at e⟩
theorem K2.swap {V W:World} {A A':Option Addr} {n c n' c':Nat} {xs ys:List UInt8} (h:K2 V W A n c xs A' n' c' ys):K2 V W A' n' c' ys A n c xs:=⟨h.bel,h.own',h.own,fun g e e'=>h.apart g e' e⟩
theorem K2.lit {V W:World} {A A':Option Addr} {n c n' c':Nat} {xs ys:List UInt8} (h:K2 V W A n c xs A' n' c' ys):K2 V (W.alloc (.cells #[] 5)) (some ⟨W.heap.size,0,none⟩) 0 0 [] A' n' c' ys:=by
 have hw:Below W.heap.size W (W.alloc (.cells #[] 5)):=(Below.refl _ _).alloc (Nat.le_refl _) _
 refine⟨below_on h.bel (Nat.le_refl _) hw,World.ownsRow_made W #[] 0 h.bel.size (by simp[maxLen]) rfl,own_below h.own' hw,fun g e e'=>?_⟩
 simp[Value.ownBlock]at e
 have:=(h.own'.lt g e').2
 omega
theorem K2.app {V W W':World} {A A' B:Option Addr} {n c n' c' m d:Nat} {xs ys zs:List UInt8} (h:K2 V W A n c xs A' n' c' ys) (hown:W'.ownsRow V.heap.size 5 1 (.slice B m d) m (u8s xs++u8s zs)) (hg:W.grownBy W' (Value.slice A n c).ownBlock)
 (hat:(Value.slice B m d).ownBlock=(Value.slice A n c).ownBlock∨(Value.slice B m d).ownBlock=some W.heap.size):K2 V W' B m d (xs++zs) A' n' c' ys:=by
 refine⟨h.bel.grown hg h.bel.size (fun j e=>(h.own.lt j e).1),by rw[u8s_append];exact hown,own_heap h.own' fun g e=>hg.block g (h.own'.lt g e).2 fun e2=>h.apart g e2.symm e,fun g e e'=>?_⟩
 rcases hat with e2|e2
 ·exact h.apart g (e2.symm.trans e) e'
 ·rw[e2]at e
  cases e
  have:=(h.own'.lt _ e').2
  omega
/-- Values in rows that the call made, each in its own; no two of the items share a block. -/
def blkOf (e:ItH) (g:Nat):Prop:=(∃a:Addr,e.2.1.1=some a∧a.block=g)∨∃a:Addr,e.2.2.1=some a∧a.block=g
structure VOwn (base:Nat) (W:World) (d:List ItH):Prop where
 val:∀e∈d,W.ownsRow base 5 1 (hdV e.2.2) e.2.2.2.1 (u8s e.1.v)
 pw:d.Pairwise fun e f=>∀g,blkOf e g→¬blkOf f g
 kv:∀e∈d,∀a b:Addr,e.2.1.1=some a→e.2.2.1=some b→a.block≠b.block
theorem VOwn.nil (base:Nat) (W:World):VOwn base W []:=⟨fun _ h=>absurd h (by simp),List.Pairwise.nil,fun _ h=>absurd h (by simp)⟩
theorem VOwn.below {base:Nat} {W W':World} {d:List ItH} (h:VOwn base W d) (hb:Below W.heap.size W W'):VOwn base W' d:=⟨fun e he=>own_below (h.val e he) hb,h.pw,h.kv⟩
theorem VOwn.keepT {base b1 n1 s1:Nat} {W W':World} {d:List ItH} {e1:TypeId} {v1:Value} {x1:List Value} (h:VOwn base W d) (h1:W.ownsRow b1 e1 s1 v1 n1 x1) (hne:e1≠5) (hg:W.grownBy W' v1.ownBlock):VOwn base W' d:=
 ⟨fun e he=>own_heap (h.val e he) fun g e1=>hg.block g ((h.val e he).lt g e1).2 fun e2=>own_own_ne h1 (h.val e he) hne e2.symm e1,h.pw,h.kv⟩
theorem NewB.blk {base:Nat} {W:World} {h:Hd} {xs:List UInt8} (r:NewB base W h xs) {a:Addr} (ha:h.1=some a):base≤a.block∧a.block<W.heap.size:=by
 obtain⟨h1,cs,fr,h2⟩:=r.2.2 a ha
 exact⟨h1,(Array.getElem?_eq_some_iff.1 h2).1⟩
theorem VOwn.snoc {base kn c7 vn c14:Nat} {V W:World} {d:List ItH} {k0 v0:List UInt8} {A7 A14:Option Addr} (h:VOwn base W d) (hd:∀e∈d,OwnIt base V e) (hb:base≤V.heap.size) (hk:K2 V W A7 kn c7 k0 A14 vn c14 v0):VOwn base W (d++[(⟨k0,v0⟩,(A7,kn,c7),(A14,vn,c14))]):=by
 have hge:∀g,blkOf (⟨k0,v0⟩,(A7,kn,c7),(A14,vn,c14)) g→V.heap.size≤g:=fun g hg=>by
  rcases hg with ⟨a,ha,rfl⟩|⟨a,ha,rfl⟩
  ·simp only at ha
   subst ha
   exact(hk.own.lt a.block rfl).1
  ·simp only at ha
   subst ha
   exact(hk.own'.lt a.block rfl).1
 refine⟨fun e he=>?_,List.pairwise_append.2 ⟨h.pw,List.pairwise_singleton _ _,fun e he f hf g h1 h2=>?_⟩,fun e he a b ha hb'=>?_⟩
 ·rcases List.mem_append.1 he with he|he
  ·exact h.val e he
  ·obtain rfl:=List.mem_singleton.1 he
   exact own_mono hk.own' hb
 ·obtain rfl:=List.mem_singleton.1 hf
  have h3:=hge g h2
  rcases h1 with ⟨a,ha,rfl⟩|⟨a,ha,rfl⟩
  ·have:=((hd e he).1.blk ha).2
   omega
  ·have:=((hd e he).2.blk ha).2
   omega
 ·rcases List.mem_append.1 he with he|he
  ·exact h.kv e he a b ha hb'
  ·obtain rfl:=List.mem_singleton.1 he
   simp only at ha hb'
   subst ha hb'
   exact fun e=>hk.apart a.block rfl (by rw[e];rfl)
def OwnLPost (n:Nat) (d:List ItH) (w:World) (e:Ending) (w':World):Prop:=∃B cB d',e= .returned (.slice B n cB)∧ItsOwn w.heap.size w' B n cB d'∧d'.map (·.1)=d.map (·.1)∧Below w.heap.size w w'∧VOwn w.heap.size w' d'
set_option maxRecDepth 100000 in
set_option maxHeartbeats 6400000 in
theorem ownL_any (d:List ItH) (A:Option Addr) (n c:Nat) (w:World) (h:ItsAt w w.heap.size A n c d) (hn:n≤1048576) (hl:∀e∈d,e.2.1.2.1≤140737488351232∧e.2.2.2.1≤140737488351232):
 Calls Tryz.prog 16 #[.slice A n c] w (OwnLPost n d w):=by
 obtain⟨i0,hi0,hy0,hy1,hy2⟩:=info_parts info_u8
 obtain⟨i1,hi1,hx0,hz1,hz2⟩:=info_parts info_it
 have HR:=Lib.hid (And.intro h (And.intro hl h.len))
 clear h hl
 go_enter Tryz.func16,Tryz.ntmps16
 go_wp2_with fail
 go_loopw [3,4] (fun s i wr=>∃(j:Nat) (B:Option Addr) (cB:Nat) (d':List ItH),j≤n∧i= .int .i64 (j:Int)∧s= .slice B d'.length cB∧Hid (ItsOwn w.heap.size wr B d'.length cB d'∧d'.map (·.1)=(d.map (·.1)).take j∧Below w.heap.size w wr∧d'.length=j∧VOwn w.heap.size wr d')) (fun _ i _=>n-(intOf i).toNat)
 case atStart=>exact⟨0,none,0,[],Nat.zero_le _,rfl,rfl,itsOwn_nil _ _,rfl,Below.refl _ _,rfl,VOwn.nil _ _⟩
 case round=>
  obtain⟨j,B,cB,d',hk,rfl,rfl,HW⟩:=hrel
  by_cases hlt:j<n
  ·have g1:(j:Int)<(n:Int):=by omega
   have hw1:IntKind.i64.wrap ((j:Int)+1)=(j:Int)+1:=by rw[IntKind.wrap_i64];omega
   have HJ:=Lib.hid (show j+1≤n by omega)
   have hjd:j<d.length:=by rw[HR.out.2.2];exact hlt
   obtain⟨ad,rfl,-,-⟩:=HR.out.1.1.2 (by omega)
   have HAT0:∀W,Below w.heap.size w W→W.cell? (ad.add (j*2))=some (.slice d[j].2.1.1 d[j].2.1.2.1 d[j].2.1.2.2)∧W.cell? ⟨(ad.add (j*2)).block,(ad.add (j*2)).off+1,none⟩=some (.slice d[j].2.2.1 d[j].2.2.2.1 d[j].2.2.2.2):=fun W hW=>((HR.out.1.on hW).cells hlt hjd).2
   have HRD0:∀W,Below w.heap.size w W→RdIt W W.heap.size d[j]:=fun W hW=>(HR.out.1.on hW).2.1 _ (List.getElem_mem hjd)
   have hle:=HR.out.2.1 _ (List.getElem_mem hjd)
   have HTK0:(d.map (·.1)).take (j+1)=(d.map (·.1)).take j++[d[j].1]:=by rw[List.take_succ_eq_append_getElem (by rw[List.length_map];exact hjd),List.getElem_map]
   obtain⟨e,he⟩:∃e,d[j]=e:=⟨_,rfl⟩
   rw[he]at HAT0 HRD0 hle HTK0
   obtain⟨⟨k0,v0⟩,⟨kA,kn,kc⟩,⟨vA,vn,vc⟩⟩:=e
   have HL:Hid ((0+kn≤maxLen)∧((0+kn)*1≤140737488355328)∧(0+vn≤maxLen)∧((0+vn)*1≤140737488355328)):=by
    have h1:kn≤140737488351232:=hle.1
    have h2:vn≤140737488351232:=hle.2
    exact⟨by simp only[maxLen];omega,by omega,by simp only[maxLen];omega,by omega⟩
   have HTK:=Lib.hid HTK0
   have HAT:=Lib.hid HAT0
   have HRD:=Lib.hid HRD0
   have HM:=Lib.hid (And.intro HW.out.2.1 HW.out.2.2.2.1)
   have hLN:Hid (d'.length+1≤maxLen∧(d'.length+1)*48≤140737488355328):=⟨by have:=HW.out.2.2.2.1;simp only[maxLen];omega,by have:=HW.out.2.2.2.1;omega⟩
   have hP0:=HAT.out wr HW.out.2.2.1
   clear HAT0 HRD0 hle HTK0 he hjd hlt hk
   go_upto_region 5 with fail
   have hP1:wr.drew.cell? (ad.add (j*2))=some (.slice kA kn kc)∧wr.drew.cell? ⟨(ad.add (j*2)).block,(ad.add (j*2)).off+1,none⟩=some (.slice vA vn vc):=hP0
   have HBV0:Hid (Below w.heap.size w wr.drew):=HW.out.2.2.1.drew
   have hO2:=HW.out.1.below (Below.refl wr.heap.size wr).drew
   have hVO:=HW.out.2.2.2.2.below (Below.refl wr.heap.size wr).drew
   refine wp_region_held_drew (S:=fun V'=>V'.cell? (ad.add (j*2))=some (.slice kA kn kc)∧V'.cell? ⟨(ad.add (j*2)).block,(ad.add (j*2)).off+1,none⟩=some (.slice vA vn vc)) (by kernel_rfl) ?_ (fun hHeld=>?_)
   ·exact hP1
   clear hP0
   generalize wr.drew=V at *
   have HO:Hid (∀V',Below V.heap.size V V'→V'.cell? (ad.add (j*2))=some (.slice kA kn kc)∧V'.cell? ⟨(ad.add (j*2)).block,(ad.add (j*2)).off+1,none⟩=some (.slice vA vn vc)):=fun V' hV=>HAT.out V' (below_on HBV0.out (Nat.le_refl _) hV)
   have HBV:Hid (∀V',Below V.heap.size V V'→Below w.heap.size w V'):=fun V' hV=>below_on HBV0.out (Nat.le_refl _) hV
   have HKR:Hid (∀V',Below V.heap.size V V'→Reads V' V'.heap.size 1 kA kn (u8s k0)):=fun V' hV=>(HRD.out V' (HBV.out V' hV)).1.1
   have HVR:Hid (∀V',Below V.heap.size V V'→Reads V' V'.heap.size 1 vA vn (u8s v0)):=fun V' hV=>(HRD.out V' (HBV.out V' hV)).2.1
   have HOUT:Hid (∀V',Below V.heap.size V V'→ItsOwn w.heap.size V' B d'.length cB d'):=fun V' hV=>hO2.below hV
   have HVO:Hid (∀V',Below V.heap.size V V'→VOwn w.heap.size V' d'):=fun V' hV=>hVO.below hV
   have HN:=Lib.hid (And.intro hLN.out.1 (And.intro hLN.out.2 HBV0.out.size))
   have HK:=K2.start V
   clear hO2 hVO hLN
   refine tk 0 ?_
   refine tk 2 ?_
   refine tk 3 ?_
   refine tk 4 ?_
   refine tk 5 ?_
   refine tk 6 ?_
   refine tk 9 ?_
   refine tk 10 ?_
   refine tk 11 ?_
   refine tk 12 ?_
   refine tk 13 ?_
   refine rd2 1 8 (fun K hK=>?_) fun K hK=>?_
   ·go_simp
    have HK2:=HK.lit
    clear HK
    have HK:=HK2
    clear HK2
    generalize (World.alloc V (.cells #[] 5))=X1 at HK ⊢
    refine hK.out _ _ (HO.out _ HK.bel) fun hHeld=>?_
    clear hK K
    try simp only[Act.put,sb0,sc0,sc1]
    refine rd2 7 8 (fun K hK=>?_) fun K hK=>?_
    ·refine app1 (.tmp 12) (.tmp 17) _ V.heap.size 5 i0 _ 1 1 Tryz.underlying50 hi0 hy0 hy1 hy2 (.slice (some ⟨V.heap.size,0,none⟩) 0 0) 0 _ HK.own _ kA kn kc _ (HKR.out _ HK.bel) (u8s_one _) HL.out.1 HL.out.2.1 HK.bel.size ?_
     intro v7 w7 hown hg hat
     obtain⟨A7,c7,rfl⟩:=own_form hown
     have HK2:=HK.app hown hg hat
     clear HK
     have HK:=HK2
     clear HK2
     simp only[Nat.zero_add,List.nil_append]at HK
     try simp only[Nat.zero_add]
     clear hown hg hat
     try dsimp only
     refine hK.out _ _ (HO.out _ HK.bel) fun hHeld=>?_
     clear hK K
     try simp only[Act.put,sb0]
     refine rd1 8 fun K hK=>?_
     go_simp
     have HK2:=HK.swap.lit.swap
     clear HK
     have HK:=HK2
     clear HK2
     generalize (World.alloc w7 (.cells #[] 5))=X3z at HK ⊢
     refine hK.out _ _ (HO.out _ HK.bel) fun hHeld=>?_
     clear hK K
     try simp only[Act.put,sb0,sc0,sc1]
     refine rd1 14 fun K hK=>?_
     refine app1 (.tmp 19) (.tmp 24) _ V.heap.size 5 i0 _ 1 1 Tryz.underlying50 hi0 hy0 hy1 hy2 (.slice (some ⟨w7.heap.size,0,none⟩) 0 0) 0 _ HK.own' _ vA vn vc _ (HVR.out _ HK.bel) (u8s_one _) HL.out.2.2.1 HL.out.2.2.2 HK.bel.size ?_
     intro v14 w14 hown hg hat
     obtain⟨A14,c14,rfl⟩:=own_form hown
     have HK2:=(HK.swap.app hown hg hat).swap
     clear HK
     have HK:=HK2
     clear HK2
     simp only[Nat.zero_add,List.nil_append]at HK
     try simp only[Nat.zero_add]
     clear hown hg hat
     try dsimp only
     refine hK.out _ _ (HO.out _ HK.bel) fun hHeld=>?_
     clear hK K
     try simp only[Act.put,sb0]
     refine tk 15 ?_
     refine rd1 16 fun K hK=>?_
     go_simp
     have HP:=Lib.hid (put_step (HOUT.out _ HK.bel) (Nat.le_trans HN.out.2.2 HK.bel.size) ⟨k0,v0⟩ A7 kn c7 A14 vn c14 ((NewB.of_own HK.own).mono HN.out.2.2) ((NewB.of_own HK.own').mono HN.out.2.2))
     have hv14:=(HVO.out _ HK.bel).snoc (fun e he=>(HOUT.out _ (Below.refl _ _)).2 e he) HN.out.2.2 HK
     have HVA:Hid (∀o,VOwn w.heap.size (World.alloc w14 o) _):=fun o=>hv14.below ((Below.refl _ _).alloc (Nat.le_refl _) o)
     clear hv14
     have hbc:=HBV.out _ HK.bel
     have hia:=HAT.out _ (below_on HBV0.out (Nat.le_refl _) HK.bel)
     refine hK.out _ _ (HO.out _ (below_on HK.bel (Nat.le_refl _) ((Below.refl _ _).alloc (Nat.le_refl _) _))) fun hHeld=>?_
     clear hK K HK
     try simp only[Act.put,sb0,sc0,sc1]
     refine rd1 17 fun K hK=>?_
     refine app1 (.tmp 11) (.tmp 27) _ w.heap.size 52 i1 _ 2 48 Tryz.underlying43 hi1 hx0 hz1 hz2 (.slice B d'.length cB) d'.length _ HP.out.1 _ (some ⟨w14.heap.size,0,none⟩) 1 1 _ HP.out.2.1 (itsV_one _) HN.out.1 HN.out.2.1 HP.out.2.2.1 ?_
     intro v6 w6 hown hg hat
     obtain⟨A6,c6,rfl⟩:=own_form hown
     have h6:=HP.out.2.2.2 _ _ _ _ hown hg
     have hb6:=h6.2.2.2.2 w (Nat.le_refl _) hbc
     have hv6:=(HVA.out _).keepT HP.out.1 (by decide) hg
     have H6:=Lib.hid (And.intro h6.1 (And.intro hb6 hv6))
     clear hown hg hat HP hv6 HVA
     try dsimp only
     refine hK.out _ _ ((HAT.out _ hb6)) fun hHeld=>?_
     clear hK K h6
     try simp only[Act.put,sb0]
     refine tk 18 ?_
     refine wpAnyH_done (by kernel_rfl) ?_ _
     go_wp2_with fail
     go_roundw
     case rel=>exact⟨j+1,A6,c6,d'++[(⟨k0,v0⟩,(A7,kn,c7),(A14,vn,c14))],HJ.out,by go_num,by rw[List.length_append];rfl,by rw[List.length_append];exact H6.out.1,by rw[List.map_append,HM.out.1,HTK.out];rfl,H6.out.2.1,by rw[List.length_append,HM.out.2];rfl,H6.out.2.2⟩
     case measure=>have:=HJ.out;simp[intOf];omega
    ·go_simp
     have HK2:=HK.swap.lit.swap
     clear HK
     have HK:=HK2
     clear HK2
     generalize (World.alloc X1 (.cells #[] 5))=X2z at HK ⊢
     refine hK.out _ _ (HO.out _ HK.bel) fun hHeld=>?_
     clear hK K
     try simp only[Act.put,sb0,sc0,sc1]
     refine rd1 7 fun K hK=>?_
     refine app1 (.tmp 12) (.tmp 17) _ V.heap.size 5 i0 _ 1 1 Tryz.underlying50 hi0 hy0 hy1 hy2 (.slice (some ⟨V.heap.size,0,none⟩) 0 0) 0 _ HK.own _ kA kn kc _ (HKR.out _ HK.bel) (u8s_one _) HL.out.1 HL.out.2.1 HK.bel.size ?_
     intro v7 w7 hown hg hat
     obtain⟨A7,c7,rfl⟩:=own_form hown
     have HK2:=HK.app hown hg hat
     clear HK
     have HK:=HK2
     clear HK2
     simp only[Nat.zero_add,List.nil_append]at HK
     try simp only[Nat.zero_add]
     clear hown hg hat
     try dsimp only
     refine hK.out _ _ (HO.out _ HK.bel) fun hHeld=>?_
     clear hK K
     try simp only[Act.put,sb0]
     refine rd1 14 fun K hK=>?_
     refine app1 (.tmp 19) (.tmp 24) _ V.heap.size 5 i0 _ 1 1 Tryz.underlying50 hi0 hy0 hy1 hy2 (.slice (some ⟨X1.heap.size,0,none⟩) 0 0) 0 _ HK.own' _ vA vn vc _ (HVR.out _ HK.bel) (u8s_one _) HL.out.2.2.1 HL.out.2.2.2 HK.bel.size ?_
     intro v14 w14 hown hg hat
     obtain⟨A14,c14,rfl⟩:=own_form hown
     have HK2:=(HK.swap.app hown hg hat).swap
     clear HK
     have HK:=HK2
     clear HK2
     simp only[Nat.zero_add,List.nil_append]at HK
     try simp only[Nat.zero_add]
     clear hown hg hat
     try dsimp only
     refine hK.out _ _ (HO.out _ HK.bel) fun hHeld=>?_
     clear hK K
     try simp only[Act.put]
     refine tk 15 ?_
     refine rd1 16 fun K hK=>?_
     go_simp
     have HP:=Lib.hid (put_step (HOUT.out _ HK.bel) (Nat.le_trans HN.out.2.2 HK.bel.size) ⟨k0,v0⟩ A7 kn c7 A14 vn c14 ((NewB.of_own HK.own).mono HN.out.2.2) ((NewB.of_own HK.own').mono HN.out.2.2))
     have hv14:=(HVO.out _ HK.bel).snoc (fun e he=>(HOUT.out _ (Below.refl _ _)).2 e he) HN.out.2.2 HK
     have HVA:Hid (∀o,VOwn w.heap.size (World.alloc w14 o) _):=fun o=>hv14.below ((Below.refl _ _).alloc (Nat.le_refl _) o)
     clear hv14
     have hbc:=HBV.out _ HK.bel
     have hia:=HAT.out _ (below_on HBV0.out (Nat.le_refl _) HK.bel)
     refine hK.out _ _ (HO.out _ (below_on HK.bel (Nat.le_refl _) ((Below.refl _ _).alloc (Nat.le_refl _) _))) fun hHeld=>?_
     clear hK K HK
     try simp only[Act.put,sb0,sc0,sc1]
     refine rd1 17 fun K hK=>?_
     refine app1 (.tmp 11) (.tmp 27) _ w.heap.size 52 i1 _ 2 48 Tryz.underlying43 hi1 hx0 hz1 hz2 (.slice B d'.length cB) d'.length _ HP.out.1 _ (some ⟨w14.heap.size,0,none⟩) 1 1 _ HP.out.2.1 (itsV_one _) HN.out.1 HN.out.2.1 HP.out.2.2.1 ?_
     intro v6 w6 hown hg hat
     obtain⟨A6,c6,rfl⟩:=own_form hown
     have h6:=HP.out.2.2.2 _ _ _ _ hown hg
     have hb6:=h6.2.2.2.2 w (Nat.le_refl _) hbc
     have hv6:=(HVA.out _).keepT HP.out.1 (by decide) hg
     have H6:=Lib.hid (And.intro h6.1 (And.intro hb6 hv6))
     clear hown hg hat HP hv6 HVA
     try dsimp only
     refine hK.out _ _ ((HAT.out _ hb6)) fun hHeld=>?_
     clear hK K h6
     try simp only[Act.put,sb0]
     refine tk 18 ?_
     refine wpAnyH_done (by kernel_rfl) ?_ _
     go_wp2_with fail
     go_roundw
     case rel=>exact⟨j+1,A6,c6,d'++[(⟨k0,v0⟩,(A7,kn,c7),(A14,vn,c14))],HJ.out,by go_num,by rw[List.length_append];rfl,by rw[List.length_append];exact H6.out.1,by rw[List.map_append,HM.out.1,HTK.out];rfl,H6.out.2.1,by rw[List.length_append,HM.out.2];rfl,H6.out.2.2⟩
     case measure=>have:=HJ.out;simp[intOf];omega
   ·go_simp
    have HK2:=HK.swap.lit.swap
    clear HK
    have HK:=HK2
    clear HK2
    generalize (World.alloc V (.cells #[] 5))=X1z at HK ⊢
    refine hK.out _ _ (HO.out _ HK.bel) fun hHeld=>?_
    clear hK K
    try simp only[Act.put,sb0,sc0,sc1]
    refine rd1 1 fun K hK=>?_
    go_simp
    have HK2:=HK.lit
    clear HK
    have HK:=HK2
    clear HK2
    generalize (World.alloc X1z (.cells #[] 5))=X7 at HK ⊢
    refine hK.out _ _ (HO.out _ HK.bel) fun hHeld=>?_
    clear hK K
    try simp only[Act.put,sb0,sc0,sc1]
    refine rd1 7 fun K hK=>?_
    refine app1 (.tmp 12) (.tmp 17) _ V.heap.size 5 i0 _ 1 1 Tryz.underlying50 hi0 hy0 hy1 hy2 (.slice (some ⟨X1z.heap.size,0,none⟩) 0 0) 0 _ HK.own _ kA kn kc _ (HKR.out _ HK.bel) (u8s_one _) HL.out.1 HL.out.2.1 HK.bel.size ?_
    intro v7 w7 hown hg hat
    obtain⟨A7,c7,rfl⟩:=own_form hown
    have HK2:=HK.app hown hg hat
    clear HK
    have HK:=HK2
    clear HK2
    simp only[Nat.zero_add,List.nil_append]at HK
    try simp only[Nat.zero_add]
    clear hown hg hat
    try dsimp only
    refine hK.out _ _ (HO.out _ HK.bel) fun hHeld=>?_
    clear hK K
    try simp only[Act.put,sb0]
    refine rd1 14 fun K hK=>?_
    refine app1 (.tmp 19) (.tmp 24) _ V.heap.size 5 i0 _ 1 1 Tryz.underlying50 hi0 hy0 hy1 hy2 (.slice (some ⟨V.heap.size,0,none⟩) 0 0) 0 _ HK.own' _ vA vn vc _ (HVR.out _ HK.bel) (u8s_one _) HL.out.2.2.1 HL.out.2.2.2 HK.bel.size ?_
    intro v14 w14 hown hg hat
    obtain⟨A14,c14,rfl⟩:=own_form hown
    have HK2:=(HK.swap.app hown hg hat).swap
    clear HK
    have HK:=HK2
    clear HK2
    simp only[Nat.zero_add,List.nil_append]at HK
    try simp only[Nat.zero_add]
    clear hown hg hat
    try dsimp only
    refine hK.out _ _ (HO.out _ HK.bel) fun hHeld=>?_
    clear hK K
    try simp only[Act.put]
    refine tk 15 ?_
    refine rd1 16 fun K hK=>?_
    go_simp
    have HP:=Lib.hid (put_step (HOUT.out _ HK.bel) (Nat.le_trans HN.out.2.2 HK.bel.size) ⟨k0,v0⟩ A7 kn c7 A14 vn c14 ((NewB.of_own HK.own).mono HN.out.2.2) ((NewB.of_own HK.own').mono HN.out.2.2))
    have hv14:=(HVO.out _ HK.bel).snoc (fun e he=>(HOUT.out _ (Below.refl _ _)).2 e he) HN.out.2.2 HK
    have HVA:Hid (∀o,VOwn w.heap.size (World.alloc w14 o) _):=fun o=>hv14.below ((Below.refl _ _).alloc (Nat.le_refl _) o)
    clear hv14
    have hbc:=HBV.out _ HK.bel
    have hia:=HAT.out _ (below_on HBV0.out (Nat.le_refl _) HK.bel)
    refine hK.out _ _ (HO.out _ (below_on HK.bel (Nat.le_refl _) ((Below.refl _ _).alloc (Nat.le_refl _) _))) fun hHeld=>?_
    clear hK K HK
    try simp only[Act.put,sb0,sc0,sc1]
    refine rd1 17 fun K hK=>?_
    refine app1 (.tmp 11) (.tmp 27) _ w.heap.size 52 i1 _ 2 48 Tryz.underlying43 hi1 hx0 hz1 hz2 (.slice B d'.length cB) d'.length _ HP.out.1 _ (some ⟨w14.heap.size,0,none⟩) 1 1 _ HP.out.2.1 (itsV_one _) HN.out.1 HN.out.2.1 HP.out.2.2.1 ?_
    intro v6 w6 hown hg hat
    obtain⟨A6,c6,rfl⟩:=own_form hown
    have h6:=HP.out.2.2.2 _ _ _ _ hown hg
    have hb6:=h6.2.2.2.2 w (Nat.le_refl _) hbc
    have hv6:=(HVA.out _).keepT HP.out.1 (by decide) hg
    have H6:=Lib.hid (And.intro h6.1 (And.intro hb6 hv6))
    clear hown hg hat HP hv6 HVA
    try dsimp only
    refine hK.out _ _ ((HAT.out _ hb6)) fun hHeld=>?_
    clear hK K h6
    try simp only[Act.put,sb0]
    refine tk 18 ?_
    refine wpAnyH_done (by kernel_rfl) ?_ _
    go_wp2_with fail
    go_roundw
    case rel=>exact⟨j+1,A6,c6,d'++[(⟨k0,v0⟩,(A7,kn,c7),(A14,vn,c14))],HJ.out,by go_num,by rw[List.length_append];rfl,by rw[List.length_append];exact H6.out.1,by rw[List.map_append,HM.out.1,HTK.out];rfl,H6.out.2.1,by rw[List.length_append,HM.out.2];rfl,H6.out.2.2⟩
    case measure=>have:=HJ.out;simp[intOf];omega
  ·obtain rfl:n=j:=by omega
   have HB:=Lib.hid (And.intro HW.out.1 (And.intro (show d'.map (·.1)=d.map (·.1) by rw[HW.out.2.1,List.take_of_length_le (by rw[List.length_map,HR.out.2.2];exact Nat.le_refl _)]) (And.intro HW.out.2.2.1 (And.intro HW.out.2.2.2.1 HW.out.2.2.2.2))))
   clear HW hlt hk
   go_wp2_with fail
   go_ret
   exact⟨B,cB,d',by rw[←HB.out.2.2.2.1];rfl,by rw[←HB.out.2.2.2.1];exact HB.out.1,HB.out.2.1,HB.out.2.2.1,HB.out.2.2.2.2⟩
end Go.Proofs.YtpkeacnacjnlcaaGreat
