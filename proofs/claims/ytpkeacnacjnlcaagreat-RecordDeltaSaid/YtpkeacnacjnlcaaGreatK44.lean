/- What merestonelaw14.items' walk stands on: a key that is built among rows; a row of items, one more; record.Items: the walk; record.Delta: what the walk holds. -/
import Derived.Test.YtpkeacnacjnlcaaGreatK06
import Derived.Test.YtpkeacnacjnlcaaGreatK07
import Derived.Test.YtpkeacnacjnlcaaGreatK11
import Derived.Test.YtpkeacnacjnlcaaGreatK13
import Derived.Test.YtpkeacnacjnlcaaGreatK15
import Derived.Test.YtpkeacnacjnlcaaGreatK19
import Derived.Test.YtpkeacnacjnlcaaGreatK27
import Derived.Test.YtpkeacnacjnlcaaGreatK30
import Derived.Test.YtpkeacnacjnlcaaGreatK40
import Derived.Test.YtpkeacnacjnlcaaGreatK42
namespace Go.Proofs.YtpkeacnacjnlcaaGreat
open Go.RowKit Go.Lib
/-- A row of bytes that is appended to, and rows beside it that are only read. -/
structure KP (V W:World) (A:Option Addr) (n c:Nat) (xs:List UInt8) (R:List (Hd×List UInt8)):Prop where
 bel:Below V.heap.size V W
 own:W.ownsRow V.heap.size 5 1 (.slice A n c) n (u8s xs)
 all:∀r∈R,NewB V.heap.size W r.1 r.2∧∀g,(Value.slice A n c).ownBlock=some g→∀b,r.1.1=some b→g≠b.block
theorem KP.start (V:World):KP V V none 0 0 [] []:=⟨Below.refl _ _,World.ownsRow_nil _ _ _ _,fun r h=>absurd h (by simp)⟩
theorem KP.on {V W W':World} {A:Option Addr} {n c:Nat} {xs:List UInt8} {R:List (Hd×List UInt8)} (h:KP V W A n c xs R) (hb:Below W.heap.size W W'):KP V W' A n c xs R:=
 ⟨below_on h.bel (Nat.le_refl _) hb,own_below h.own hb,fun r hr=>⟨(h.all r hr).1.below hb,(h.all r hr).2⟩⟩
/-- A literal: the row that will be appended to. -/
theorem KP.lit {V W:World} {c0:Nat} {R:List (Hd×List UInt8)} (h:KP V W none 0 c0 [] R) (C:Array Value) (m:Nat) (ys:List UInt8) (hm:m≤1000) (hC:C.size=m) (he:C.toList=u8s ys):KP V (W.alloc (.cells C 5)) (some ⟨W.heap.size,0,none⟩) m m ys R:=by
 have hw:Below W.heap.size W (W.alloc (.cells C 5)):=(Below.refl _ _).alloc (Nat.le_refl _) _
 have hl:(u8s ys).length=m*1:=by rw[←he,Nat.mul_one];simpa using hC
 refine⟨below_on h.bel (Nat.le_refl _) hw,⟨hl,.inr ⟨W.heap.size,m,C,rfl,h.bel.size,World.alloc_heap_new W _,Nat.le_refl _,by simp only[maxLen];omega,by rw[hC];omega,?_⟩⟩,fun r hr=>⟨(h.all r hr).1.below hw,fun g e b hb=>?_⟩⟩
 ·rw[←he]
  simp
  exact List.take_of_length_le (by simp;omega)
 ·simp[Value.ownBlock]at e
  obtain⟨hb1,cs,fr,hb2⟩:=(h.all r hr).1.2.2 b hb
  have:=(Array.getElem?_eq_some_iff.1 hb2).1
  omega
/-- A row beside it. -/
theorem KP.add {V W W':World} {A:Option Addr} {n c:Nat} {xs:List UInt8} {R:List (Hd×List UInt8)} (h:KP V W A n c xs R) (hb:Below W.heap.size W W') {k:Hd} {ys:List UInt8} (hk:NewB W.heap.size W' k ys):KP V W' A n c xs ((k,ys)::R):=
 ⟨below_on h.bel (Nat.le_refl _) hb,own_below h.own hb,fun r hr=>by
   rcases List.mem_cons.1 hr with rfl|hr
   ·refine⟨hk.mono h.bel.size,fun g e b hb'=>?_⟩
    have h1:=(h.own.lt g e).2
    have h2:=(hk.2.2 b hb').1
    omega
   ·exact⟨(h.all r hr).1.below hb,(h.all r hr).2⟩⟩
/-- The append. -/
theorem KP.app {V W W':World} {A A':Option Addr} {n c n' c':Nat} {xs ys:List UInt8} {R:List (Hd×List UInt8)} (h:KP V W A n c xs R) (hown:W'.ownsRow V.heap.size 5 1 (.slice A' n' c') n' (u8s xs++u8s ys)) (hg:W.grownBy W' (Value.slice A n c).ownBlock)
 (hat:(Value.slice A' n' c').ownBlock=(Value.slice A n c).ownBlock∨(Value.slice A' n' c').ownBlock=some W.heap.size):KP V W' A' n' c' (xs++ys) R:=by
 refine⟨h.bel.grown hg h.bel.size (fun j e=>(h.own.lt j e).1),by rw[u8s_append];exact hown,fun r hr=>⟨(h.all r hr).1.kept hg fun a e1 e2=>(h.all r hr).2 a.block e2.symm a e1 rfl,fun g e b hb=>?_⟩⟩
 rcases hat with e'|e'
 ·exact(h.all r hr).2 g (e'.symm.trans e) b hb
 ·obtain⟨hb1,cs,fr,hb2⟩:=(h.all r hr).1.2.2 b hb
  have:=(Array.getElem?_eq_some_iff.1 hb2).1
  rw[e']at e
  cases e
  omega
theorem KP.rd {V W:World} {A:Option Addr} {n c:Nat} {xs:List UInt8} {R:List (Hd×List UInt8)} (h:KP V W A n c xs R) {k:Hd} {ys:List UInt8} (hm:(k,ys)∈R):Reads W W.heap.size 1 k.1 k.2.1 (u8s ys):=((h.all _ hm).1).1
theorem KP.key {V W:World} {A:Option Addr} {n c:Nat} {xs:List UInt8} {R:List (Hd×List UInt8)} (h:KP V W A n c xs R):NewB V.heap.size W (A,n,c) xs:=NewB.of_own h.own
/-- What stays when a row of items grows. -/
theorem put_keeps {base:Nat} {Y W:World} {A:Option Addr} {k c:Nat} {d:List ItH} (h:ItsOwn base Y A k c d) (hg:Y.grownBy W (Value.slice A k c).ownBlock):
 (∀(q:Nat) (t:TypeId) (cs:Array Value),52≠t→Blk Y q t cs→Blk W q t cs)∧(∀(b:Nat) (hd:Hd) (xs:List UInt8),NewB b Y hd xs→NewB b W hd xs)∧
 (∀(b:Nat) (t:TypeId) (size n:Nat) (v:Value) (xs:List Value),52≠t→Y.ownsRow b t size v n xs→W.ownsRow b t size v n xs)∧(∀w:World,Below base w Y→base≤Y.heap.size→Below base w W):=by
 refine⟨fun q t cs ht hb=>(hg.block q (Blk.lt hb) (fun e=>own_blk_ne h.1 hb ht e.symm)).trans hb,fun b hd xs hn=>hn.heap hg.size fun g cs fr hb=>hg.block g (Array.getElem?_eq_some_iff.1 hb).1 (own_ne_cells h.1 hb (by decide)),fun b t size n v xs ht ho=>own_heap ho fun g e=>hg.block g (ho.lt g e).2 fun e2=>own_own_ne h.1 ho ht (g:=g) e2.symm e,fun w hb hs=>hb.grown hg hs (fun j e=>(h.1.lt j e).1)⟩
/-- A literal of one item, and its append. -/
theorem put_step {base k c:Nat} {Y:World} {A:Option Addr} {d:List ItH} (h:ItsOwn base Y A k c d) (hb:base≤Y.heap.size) (i:It) (a1:Option Addr) (n1 c1:Nat) (a2:Option Addr) (n2 c2:Nat) (h1:NewB base Y (a1,n1,c1) i.k) (h2:NewB base Y (a2,n2,c2) i.v):
 (Y.alloc (.cells #[.slice a1 n1 c1,.slice a2 n2 c2] 52)).ownsRow base 52 2 (.slice A k c) k (itsV d)∧
 Reads (Y.alloc (.cells #[.slice a1 n1 c1,.slice a2 n2 c2] 52)) (Y.alloc (.cells #[.slice a1 n1 c1,.slice a2 n2 c2] 52)).heap.size 2 (some ⟨Y.heap.size,0,none⟩) 1 (itsV [(i,(a1,n1,c1),(a2,n2,c2))])∧
 base≤(Y.alloc (.cells #[.slice a1 n1 c1,.slice a2 n2 c2] 52)).heap.size∧
 ∀(A6:Option Addr) (n6 c6:Nat) (W:World),W.ownsRow base 52 2 (.slice A6 n6 c6) n6 (itsV d++itsV [(i,(a1,n1,c1),(a2,n2,c2))])→(Y.alloc (.cells #[.slice a1 n1 c1,.slice a2 n2 c2] 52)).grownBy W (Value.slice A k c).ownBlock→
  ItsOwn base W A6 n6 c6 (d++[(i,(a1,n1,c1),(a2,n2,c2))])∧(∀(q:Nat) (t:TypeId) (cs:Array Value),52≠t→Blk Y q t cs→Blk W q t cs)∧(∀(b:Nat) (hd:Hd) (xs:List UInt8),NewB b Y hd xs→NewB b W hd xs)∧
  (∀(b:Nat) (t:TypeId) (size n:Nat) (v:Value) (xs:List Value),52≠t→Y.ownsRow b t size v n xs→W.ownsRow b t size v n xs)∧∀w:World,base≤w.heap.size→Below base w Y→Below base w W:=by
 have hw:Below Y.heap.size Y (Y.alloc (.cells #[.slice a1 n1 c1,.slice a2 n2 c2] 52)):=(Below.refl _ _).alloc (Nat.le_refl _) _
 have hY:=h.below hw
 refine⟨hY.1,Reads.made Y _ _ (0,0) 2 1 _ rfl rfl,Nat.le_trans hb hw.size,fun A6 n6 c6 W ho hg=>?_⟩
 obtain⟨k1,k2,k3,k4⟩:=put_keeps hY hg
 refine⟨hY.append (fun x hx=>by rw[List.mem_singleton.1 hx];exact⟨h1.below hw,h2.below hw⟩) ho hg,fun q t cs ht hq=>k1 q t cs ht (Blk.below hq hw (Blk.lt hq)),fun b hd xs hn=>k2 b hd xs (hn.below hw),fun b t size n v xs ht ho=>k3 b t size n v xs ht (own_below ho hw),fun w hb0 hb'=>k4 w (below_on hb' hb0 hw) (Nat.le_trans hb hw.size)⟩
/-- What stays while a parcel's items are made: the plan's box, the parcel's box, its number's bytes. -/
structure LF (w W:World) (A:Option Addr) (n c:Nat) (A':Option Addr) (n' c':Nat) (gx:Nat) (x:Parc) (Ar:Option Addr) (nr cr:Nat) (Ai:Option Addr) (ci:Nat):Prop where
 bel:Below w.heap.size w W
 pl:PlK W w.heap.size A n c A' n' c'
 xb:PcK W gx x Ar nr cr
 idn:NewB w.heap.size W (Ai,4,ci) (idBy x.id)
theorem LF.on {w W W':World} {A A' Ar Ai:Option Addr} {n c n' c' gx nr cr ci:Nat} {x:Parc} (h:LF w W A n c A' n' c' gx x Ar nr cr Ai ci) (hb:Below W.heap.size W W'):LF w W' A n c A' n' c' gx x Ar nr cr Ai ci:=
 ⟨below_on h.bel (Nat.le_refl _) hb,h.pl.on hb,h.xb.on hb,h.idn.below hb⟩
theorem LF.put {w Y W:World} {A A' Ar Ai:Option Addr} {n c n' c' gx nr cr ci:Nat} {x:Parc} (h:LF w Y A n c A' n' c' gx x Ar nr cr Ai ci) {I:Prop} {J:Prop}
 (hk:I∧(∀(q:Nat) (t:TypeId) (cs:Array Value),52≠t→Blk Y q t cs→Blk W q t cs)∧(∀(b:Nat) (hd:Hd) (xs:List UInt8),NewB b Y hd xs→NewB b W hd xs)∧J∧∀v:World,w.heap.size≤v.heap.size→Below w.heap.size v Y→Below w.heap.size v W):LF w W A n c A' n' c' gx x Ar nr cr Ai ci:=
 ⟨hk.2.2.2.2 w (Nat.le_refl _) h.bel,hk.2.1 _ _ _ (by decide) h.pl,hk.2.1 _ _ _ (by decide) h.xb,hk.2.2.1 _ _ _ h.idn⟩
/-- What Items answers. -/
def ItemsPost (p:Plan) (w:World) (e:Ending) (w':World):Prop:=
 (planB p=true→∃A c d,e= .returned (.tuple #[.slice A d.length c,.int .i64 0])∧ItsOwn w.heap.size w' A d.length c d∧Rising (d.map fun y=>y.1.k)∧(d.map (·.1)).Perm (planIts p))∧
 (planB p=false→e= .returned (.tuple #[.slice none 0 0,.int .i64 2]))∧Below w.heap.size w w'
theorem parIts_few {x:Parc} (h:x.ring.length≤128):(parIts x).length≤300:=by
 rw[parIts_eq]
 unfold parOP ringIts
 simp only[List.length_append,List.length_cons,List.length_map,List.length_range]
 have h1:=chkN_le (n:=x.ring.length) (m:=8) (by omega)
 have h2:(edgesOf x.ring).length=x.ring.length:=by unfold edgesOf;simp
 have h3:=cells_few (l:=cellsL x.ring) (fun q hq=>cellsL_key hq) (cellsL_nodup _)
 omega
theorem flat_few:∀ {ps:List Parc},(∀x∈ps,x.ring.length≤128)→(ps.flatMap parIts).length≤300*ps.length
 |[],_=>by simp
 |x::ps,h=>by
  rw[List.flatMap_cons,List.length_append,List.length_cons]
  have h1:=parIts_few (h x (List.mem_cons_self ..))
  have h2:=flat_few fun y hy=>h y (List.mem_cons_of_mem _ hy)
  omega
theorem listN_own:∀ {n:Nat} {l:Int} {ps:List Parc},listN n l ps=true→∀x∈ps,x.owner.size≤32
 |_,_,[],_,x,hx=>absurd hx (by simp)
 |n,l,y::ps,h,x,hx=>by
  unfold listN at h
  simp only[Bool.and_eq_true]at h
  rcases List.mem_cons.1 hx with rfl|hx
  ·have:=h.2.2.1
   unfold ownB at this
   simp only[Bool.and_eq_true,decide_eq_true_eq]at this
   exact this.1
  ·exact listN_own h.2.2.2.2 x hx
set_option maxRecDepth 100000 in
set_option maxHeartbeats 3200000 in
theorem items_any (p:Plan) (A A':Option Addr) (n c n' c':Nat) (w:World) (h:PlanAt w w.heap.size A n c A' n' c' p):
 Calls Tryz.prog 20 #[planV A n c A' n' c'] w (ItemsPost p w):=by
 obtain⟨w1,hw1⟩:∃w1,w1=w.alloc (.cells #[.slice A n c,.slice A' n' c'] 30):=⟨_,rfl⟩
 have hB1:Below w.heap.size w w1:=by rw[hw1];exact(Below.refl _ _).alloc (Nat.le_refl _) _
 have hK1:PlK w1 w.heap.size A n c A' n' c':=by rw[hw1];exact PlK.new w A n c A' n' c'
 have H1:=Lib.hid (And.intro (h.on hB1) (And.intro hK1 hB1))
 have KC:=Lib.hid (checkPl_any p A A' n c n' c' w1 (h.on hB1))
 obtain⟨q1,q2,q3⟩:=hK1.facts
 have H0:=Lib.hid h
 clear h hB1 hK1
 go_enter Tryz.func20,Tryz.ntmps20
 go_upto_region 1 with fail
 rw[←hw1]
 clear hw1
 rcases hpb:planB p with _|_
 ·have kc:=KC.out
  rw[planE_b0 hpb]at kc
  have KC2:=Lib.hid kc
  have HPB:=Lib.hid hpb
  clear kc KC hpb
  go_wp2_with fail
  refine KC2.out.mono ?_
  rintro e w2 ⟨rfl,hb2⟩
  have HB:=Lib.hid (below_on H1.out.2.2 (Nat.le_refl _) hb2)
  clear hb2 H1 KC2 q1 q2 q3
  go_wp2_with fail
  refine bodyPost_ret (v:= .tuple #[.slice none 0 0,.int .i64 2]) ?_ rfl ⟨(fun h=>by rw[HPB.out]at h;cases h),fun _=>rfl,HB.out⟩
  simp[results,Tryz.results20,go_sem]
 have kc:=KC.out
 rw[planE_b1 hpb]at kc
 have KC2:=Lib.hid kc
 have HS:=Lib.hid (planB_sound hpb)
 have HPB:=Lib.hid hpb
 clear kc KC hpb
 go_wp2_with fail
 refine KC2.out.mono ?_
 rintro e w2 ⟨rfl,hb2⟩
 have H2:=Lib.hid (And.intro (H1.out.1.on hb2) (And.intro (H1.out.2.1.on hb2) (below_on H1.out.2.2 (Nat.le_refl _) hb2)))
 obtain⟨q1,q2,q3⟩:=H2.out.2.1.facts
 have hcv:=Lib.run_convert_bytes_const (P:=Tryz.prog) w2 50 5 #[.int .u8 111] 1 1 Tryz.underlying50 Tryz.underlying5
 simp only[List.size_toArray,List.length_cons,List.length_nil,Nat.zero_add,Nat.reduceAdd]at hcv
 have hro:=sound_ring HS.out (.inl rfl)
 have hno:n≤128∧3≤n∧n≤c∧c≤9223372036854775807:=by have h1:=H2.out.1.lens.1;have h2:=H2.out.1.oc;omega
 obtain⟨ad,rfl,-,-,-,-⟩:=H2.out.1.outer.pt (k:=0) (by omega)
 have hbM:Below w2.heap.size w2 (w2.alloc (.cells #[.int .u8 111] 5 (1,2))):=(Below.refl _ _).alloc (Nat.le_refl _) _
 have kp:=points_any [111] (some ⟨w2.heap.size,0,none⟩) 1 1 p.outer ad n c 0 (w2.alloc (.cells #[.int .u8 111] 5 (1,2))) (Reads.made w2 #[.int .u8 111] 5 (1,2) 1 1 (u8s [111]) rfl rfl) (H2.out.1.outer.on hbM) hno.1 hno.2.2 (fun q hq=>goodL_mem hro.1 hq) (by omega) (by omega)
 rw[show ((0:Nat):Int)=0 from rfl]at kp
 have KP:=Lib.hid kp
 have HBM:=Lib.hid hbM
 have HNO:=Lib.hid hno.1
 clear hb2 H1 KC2 hro hno hbM kp
 go_wp2_with fail
 refine KP.out.mono ?_
 rintro e w3 ⟨A3,c3,d3,rfl,ho3,hd3,hb3⟩
 have hb23:=HBM.out.trans (hb3.mono HBM.out.size)
 have H3:=Lib.hid (And.intro (H2.out.1.on hb23) (And.intro (H2.out.2.1.on hb23) (below_on H2.out.2.2 (Nat.le_refl _) hb23)))
 have HO3:=Lib.hid (And.intro (ho3.mono (Nat.le_trans H2.out.2.2.size HBM.out.size)) (And.intro hd3 ho3.len))
 obtain⟨q1,q2,q3⟩:=H3.out.2.1.facts
 have hl3:=ho3.len
 have hpc:=H3.out.1.parcs.1
 have hn64:=(listed_bd HS.out.1).2.1
 obtain⟨i1,hi1,hx0,hz1,hz2⟩:=info_parts info_it
 clear hb3 hb23 ho3 hd3 KP H2 HBM hcv
 go_wp2_with fail
 rw[←hl3]
 have HL3:=Lib.hid hl3
 clear hl3
 go_loopw [4,18] (fun s i wr=>∃(k:Nat) (B:Option Addr) (cB:Nat) (d:List ItH),k≤n'∧i= .int .i64 (k:Int)∧s= .slice B d.length cB∧Hid (ItsOwn w.heap.size wr B d.length cB d∧d.map (·.1)=ringIts [111] p.outer 0++(p.parcels.take k).flatMap parIts∧Below w.heap.size w wr)) (fun _ i _=>n'-(intOf i).toNat)
 case atStart=>exact⟨0,A3,c3,d3,Nat.zero_le _,rfl,rfl,by rw[HL3.out];exact HO3.out.1,by rw[HO3.out.2.1];simp,H3.out.2.2⟩
 case round=>
  obtain⟨k,B,cB,d,hk,rfl,rfl,HW⟩:=hrel
  obtain⟨V,rfl⟩:∃X,X=wr:=⟨_,rfl⟩
  by_cases hlt:k<n'
  ·have hlt':(k:Int)<(n':Int):=by omega
   have hw1:IntKind.i64.wrap ((k:Int)+1)=((k+1:Nat):Int):=by rw[IntKind.wrap_i64];omega
   have hPV:=H0.out.on HW.out.2.2
   obtain⟨adp,rfl⟩:=hPV.parcs.some_ (by omega)
   obtain⟨hadp,p1,⟨Ak,nk,ck,p2,hrk,hck⟩,p3⟩:=hPV.parcs.at_ hlt
   obtain⟨x,hx⟩:∃x,x=pcAt p.parcels k:=⟨_,rfl⟩
   rw[←hx]at p1 p3 hrk
   have hxm:x∈p.parcels:=by rw[hx,pcAt_lt (by omega)];exact List.getElem_mem _
   have hxr:=sound_ring HS.out (.inr ⟨x,hxm,rfl⟩)
   have hxo:=recOK_sound HS.out
   have hnk:nk=x.ring.length:=hrk.lenPt.symm
   obtain⟨adk,rfl,-,-,-,-⟩:=hrk.pt (k:=0) (by omega)
   have hown:x.owner.size≤32:=by
    have hl:=HS.out.1
    unfold listedB at hl
    simp only[Bool.and_eq_true]at hl
    exact listN_own hl.1 x hxm
   have htk:p.parcels.take (k+1)=p.parcels.take k++[x]:=by rw[List.take_succ_eq_append_getElem (by omega),hx,pcAt_lt (by omega)]
   have hfew:d.length≤300*65:=by
    have h1:=congrArg List.length HW.out.2.1
    rw[List.length_map,List.length_append]at h1
    have h2:=flat_few (ps:=p.parcels.take k) (fun y hy=>((recOK_sound HS.out).pcs y (List.mem_of_mem_take hy)).2.2)
    have h3:(ringIts [111] p.outer 0).length≤300:=by
     unfold ringIts
     rw[List.length_map,List.length_range]
     have:=chkN_le (n:=p.outer.length) (m:=8) (by have:=H3.out.1.lens.1;have:=HNO.out;omega)
     omega
    rw[List.length_take]at h2
    omega
   have hbx:Below V.heap.size V (V.alloc (.cells #[.int .i64 x.id,.slice (some adk) nk ck,.string x.owner] 27)):=(Below.refl _ _).alloc (Nat.le_refl _) _
   have KX:=Lib.hid (parcel_any x adk nk ck (V.alloc (.cells #[.int .i64 x.id,.slice (some adk) nk ck,.string x.owner] 27)) (hrk.on hbx) (by omega) hck (fun q hq=>goodL_mem hxr.1 hq) (hxo.pcs x hxm).1 hown)
   have HX:=Lib.hid (And.intro hbx (And.intro htk (And.intro hfew (parIts_few hxr.2.1))))
   clear hPV hadp hx hxm hxr hxo hnk hrk hck hown htk hfew hbx
   go_wp2_with fail
   refine KX.out.mono ?_
   rintro e W2 ⟨A5,c5,d5,rfl,ho5,hd5,hb5⟩
   have hb25:=HX.out.1.trans (hb5.mono HX.out.1.size)
   have hl5:d5.length=(parIts x).length:=by rw[←hd5,List.length_map]
   have hbW:=below_on HW.out.2.2 (Nat.le_refl _) hb25
   have hwW:w.heap.size≤V.heap.size:=HW.out.2.2.size
   have H5:=Lib.hid (And.intro (HW.out.1.below hb25) (And.intro (ho5.mono (Nat.le_trans hwW HX.out.1.size)) (And.intro hd5 (And.intro hbW (And.intro (show d.length+d5.length≤maxLen by have:=HX.out.2.2;simp only[maxLen];omega) (And.intro (show (d.length+d5.length)*48≤140737488355328 by have:=HX.out.2.2;omega) (Nat.le_trans hwW hb25.size)))))))
   clear hb5 ho5 hd5 hb25 hbW hwW hl5 KX p1 p2 p3
   go_wp2_with (at_builtin;refine wpList_append_any _ rfl (.tmp 22) (.tmp 24) _ rfl w.heap.size 52 i1 _ 2 48 Tryz.underlying43 hi1 hx0 hz1 hz2 rfl (Nat.zero_lt_succ _) (.slice B d.length cB) d.length _ rfl H5.out.1.1 _ A5 d5.length c5 _ rfl (Reads.of_own H5.out.2.1.1) (itsV_one _) H5.out.2.2.2.2.1 H5.out.2.2.2.2.2.1 H5.out.2.2.2.2.2.2 ?_
                intro v6 w6 hown6 hg6 hat6
                obtain⟨A6,c6,rfl⟩:=own_form hown6
                have h6:=H5.out.1.append H5.out.2.1.2 hown6 hg6
                have hb6:=H5.out.2.2.2.1.grown hg6 H5.out.2.2.2.1.size (fun j e=>(H5.out.1.1.lt j e).1)
                clear hown6 hg6 hat6)
   have H6:=Lib.hid (And.intro h6 (And.intro (show (d++d5).map (·.1)=ringIts [111] p.outer 0++(p.parcels.take (k+1)).flatMap parIts by rw[List.map_append,HW.out.2.1,H5.out.2.2.1,HX.out.2.1,List.flatMap_append,List.append_assoc];simp) hb6))
   clear h6 hb6
   go_roundw
   case rel=>exact⟨k+1,A6,c6,d++d5,by omega,by first|rfl|exact congrArg (Value.int .i64) hw1,by rw[List.length_append],by rw[List.length_append];exact H6.out⟩
   case measure=>simp[intOf];omega
  ·obtain rfl:k=n':=by omega
   have hdp:d.map (·.1)=planIts p:=by rw[HW.out.2.1,List.take_of_length_le (by omega)];rfl
   have hnd:=planIts_nodup (recOK_sound HS.out)
   have hfew:1≤d.length∧d.length≤300*65:=by
    have h1:=congrArg List.length hdp
    unfold planIts at h1
    rw[List.length_map,List.length_append]at h1
    have h2:=flat_few (ps:=p.parcels) (fun y hy=>((recOK_sound HS.out).pcs y hy).2.2)
    have h3:1≤(ringIts [111] p.outer 0).length∧(ringIts [111] p.outer 0).length≤300:=by
     unfold ringIts
     rw[List.length_map,List.length_range]
     have h4:=chkN_le (n:=p.outer.length) (m:=8) (by have:=H3.out.1.lens.1;have:=HNO.out;omega)
     have h5:=(sound_ring HS.out (.inl rfl)).2.2.1
     refine⟨by unfold chkN;omega,by omega⟩
    omega
   obtain⟨gB,e1,-,-⟩:=own_some HW.out.1.1 (by omega)
   subst e1
   have KS:=Lib.hid (sortIt_any d gB d.length cB w.heap.size V HW.out.1 (by omega))
   have HD:=Lib.hid (And.intro hdp (And.intro hnd hfew))
   clear hdp hnd hfew hlt
   go_wp2_with fail
   refine KS.out.mono ?_
   rintro e w9 ⟨rfl,d9,hp9,hs9,ho9,hg9⟩
   have hb9:=HW.out.2.2.grown hg9 HW.out.2.2.size (fun j e=>(HW.out.1.1.lt j (by cases e;rfl)).1)
   have hl9:=hp9.length_eq
   have hpm:(d9.map (·.1)).Perm (planIts p):=by rw[←HD.out.1];exact hp9.map _
   have hri:Rising (d9.map fun y=>y.1.k):=by
    refine rising_of (List.pairwise_map.2 hs9) ?_
    have h1:=(hpm.map (·.k)).symm.nodup HD.out.2.1
    rwa [List.map_map]at h1
   have H9:=Lib.hid (And.intro ho9 (And.intro hb9 (And.intro hri (And.intro hpm hl9))))
   clear ho9 hb9 hri hpm hl9 hp9 hs9 hg9 KS
   go_wp2_with fail
   refine bodyPost_ret (v:= .tuple #[.slice (some ⟨gB,0,none⟩) d.length cB,.int .i64 0]) ?_ rfl ⟨fun _=>⟨some ⟨gB,0,none⟩,cB,d9,by rw[H9.out.2.2.2.2],by rw[H9.out.2.2.2.2];exact H9.out.1,H9.out.2.2.1,H9.out.2.2.2.1⟩,(fun h=>by rw[HPB.out]at h;cases h),H9.out.2.1⟩
   simp[results,Tryz.results20,go_sem]
/-- Which keys have been met of a range over a map, and were taken. -/
structure SeenK (ks:List (List UInt8)) (P:List UInt8→Prop) (seen:Array Nat) (out:List (List UInt8)):Prop where
 nd:out.Nodup
 mem:∀z,z∈out↔∃i,∃h:i<ks.length,seen.contains i=true∧ks[i]=z∧P z
theorem seen_push {seen:Array Nat} {i j:Nat}:(seen.push i).contains j=true↔seen.contains j=true∨j=i:=by
 rw[Array.contains_iff_mem,Array.contains_iff_mem,Array.mem_push]
theorem SeenK.start (ks:List (List UInt8)) (P:List UInt8→Prop):SeenK ks P #[] []:=⟨List.nodup_nil,fun z=>⟨fun h=>absurd h List.not_mem_nil,fun⟨i,_,h,_⟩=>by simp at h⟩⟩
theorem SeenK.skip {ks:List (List UInt8)} {P:List UInt8→Prop} {seen:Array Nat} {out:List (List UInt8)} (h:SeenK ks P seen out) {i:Nat} (hi:i<ks.length) (hp:¬P ks[i]):SeenK ks P (seen.push i) out:=by
 refine⟨h.nd,fun z=>?_⟩
 rw[h.mem]
 refine⟨fun ⟨j,hj,h1,h2⟩=>⟨j,hj,seen_push.2 (.inl h1),h2⟩,fun⟨j,hj,h1,h2,h3⟩=>?_⟩
 rcases seen_push.1 h1 with h1|rfl
 ·exact⟨j,hj,h1,h2,h3⟩
 ·exact absurd (h2▸h3) hp
theorem SeenK.put {ks:List (List UInt8)} {P:List UInt8→Prop} {seen:Array Nat} {out:List (List UInt8)} (h:SeenK ks P seen out) (hk:ks.Nodup) {i:Nat} (hi:i<ks.length) (hs:seen.contains i=false) (hp:P ks[i]):SeenK ks P (seen.push i) (out++[ks[i]]):=by
 have hnew:ks[i]∉out:=fun hm=>by
  obtain⟨j,hj,h1,h2,-⟩:=(h.mem _).1 hm
  obtain rfl:j=i:=(List.getElem_inj hk).1 h2
  rw[hs]at h1
  cases h1
 refine⟨?_,fun z=>?_⟩
 ·rw[List.nodup_append]
  refine⟨h.nd,by simp,fun a ha b hb=>?_⟩
  simp at hb
  rintro rfl
  exact hnew (hb▸ha)
 ·rw[List.mem_append,h.mem]
  refine⟨?_,fun⟨j,hj,h1,h2,h3⟩=>?_⟩
  ·rintro(⟨j,hj,h1,h2⟩|hz)
   ·exact⟨j,hj,seen_push.2 (.inl h1),h2⟩
   ·simp at hz
    exact⟨i,hi,seen_push.2 (.inr rfl),hz.symm,hz▸hp⟩
  ·rcases seen_push.1 h1 with h1|rfl
   ·exact .inl ⟨j,hj,h1,h2,h3⟩
   ·exact .inr (by simp[h2])
theorem SeenK.done {ks:List (List UInt8)} {P:List UInt8→Prop} {seen:Array Nat} {out:List (List UInt8)} (h:SeenK ks P seen out) (ha:∀i,i<ks.length→seen.contains i=true) (z:List UInt8):z∈out↔z∈ks∧P z:=by
 rw[h.mem]
 refine⟨fun ⟨i,hi,_,h2,h3⟩=>⟨h2▸List.getElem_mem hi,h3⟩,fun⟨h1,h2⟩=>?_⟩
 obtain⟨i,hi,rfl⟩:=List.getElem_of_mem h1
 exact⟨i,hi,ha i hi,rfl,h2⟩
theorem SeenK.len {ks:List (List UInt8)} {P:List UInt8→Prop} {seen:Array Nat} {out:List (List UInt8)} (h:SeenK ks P seen out):out.length≤ks.length:=
 h.nd.length_le_of_subset fun z hz=>by
  obtain⟨i,hi,-,h2,-⟩:=(h.mem z).1 hz
  exact h2▸List.getElem_mem hi
theorem itB_lt {W:World} {r b n:Nat} {seen:Array Nat} (h:IterB W r b n seen):r<W.heap.size:=(Array.getElem?_eq_some_iff.1 h).1
theorem itB_ne {W:World} {r b n g:Nat} {seen:Array Nat} {cs:Array Value} {t:TypeId} {fr:Nat×Nat} (h:IterB W r b n seen) (hg:W.heap[g]?=some (Obj.cells cs t fr)):g≠r:=fun e=>by
 unfold IterB at h
 rw[e,h]at hg
 cases hg
/-- A range over a map that collects items. -/
structure LpI (X:World) (r b N:Nat) (seen:Array Nat) (out:List ItH) (P:Option Addr) (n c:Nat) (W:World):Prop where
 it:IterB W r b N seen
 bel:Below X.heap.size X W
 own:ItsOwn X.heap.size W P n c out
 ne:(Value.slice P n c).ownBlock≠some r
theorem LpI.on {X:World} {r b N:Nat} {seen:Array Nat} {out:List ItH} {P:Option Addr} {n c:Nat} {W W':World} (h:LpI X r b N seen out P n c W) (hb:Below W.heap.size W W'):LpI X r b N seen out P n c W':=
 ⟨h.it.kept (hb.block _ (itB_lt h.it)),below_on h.bel (Nat.le_refl _) hb,h.own.below hb,h.ne⟩
theorem LpI.next {X:World} {r b N:Nat} {seen seen':Array Nat} {out:List ItH} {P:Option Addr} {n c:Nat} {W W':World} (h:LpI X r b N seen out P n c W) (hr:X.heap.size≤r) (hi:IterB W' r b N seen') (hg:W.grownBy W' (some r)):LpI X r b N seen' out P n c W':=
 ⟨hi,h.bel.grown hg h.bel.size (fun j e=>by have:=Option.some.inj e;omega),⟨h.own.1.kept hg (.inr h.ne),fun e he=>(h.own.2 e he).heap hg.size fun g cs fr hb=>hg.block g (Array.getElem?_eq_some_iff.1 hb).1 (fun e'=>itB_ne h.it hb (Option.some.inj e'))⟩,h.ne⟩
theorem LpI.push {X:World} {r b N:Nat} {seen:Array Nat} {out:List ItH} {P A6:Option Addr} {n c n6 c6:Nat} {Y w6:World} {obj:Obj} {e:ItH} (h:LpI X r b N seen out P n c Y) (hI:ItsOwn X.heap.size w6 A6 n6 c6 (out++[e])) (hb:Below X.heap.size X w6) (hg:(Y.alloc obj).grownBy w6 (Value.slice P n c).ownBlock) (hat:(Value.slice A6 n6 c6).ownBlock=(Value.slice P n c).ownBlock∨(Value.slice A6 n6 c6).ownBlock=some (Y.alloc obj).heap.size):LpI X r b N seen (out++[e]) A6 n6 c6 w6:=by
 have hba:Below Y.heap.size Y (Y.alloc obj):=(Below.refl _ _).alloc (Nat.le_refl _) _
 have h2:=h.on hba
 have hr:=itB_lt h.it
 refine⟨h2.it.kept (hg.block _ (itB_lt h2.it) (fun e=>h.ne e.symm)),hb,hI,?_⟩
 rcases hat with e|e
 ·rw[e];exact h.ne
 ·rw[e]
  simp
  omega
theorem LpI.left {X:World} {r b:Nat} {L:List (List UInt8×Value)} {seen:Array Nat} {out:List ItH} {P:Option Addr} {n c:Nat} {W:World} (h:LpI X r b L.length seen out P n c W) (hm:MapB X b encS L):leftW W r b=(leftOf (entriesOf encS L) seen).size:=leftW_eq h.it (hm.kept (h.bel.block _ hm.lt))
theorem LpI.start (X:World) (b N:Nat):LpI X X.heap.size b N #[] [] none 0 0 (X.alloc (.mapIter (some b) N #[] N)):=
 ⟨heap_alloc_new X _,(Below.refl _ _).alloc (Nat.le_refl _) _,itsOwn_nil _ _,fun e=>by simp[Value.ownBlock]at e⟩
/-- A range over a map that collects rows of bytes. -/
structure LpB (X:World) (r b N:Nat) (seen:Array Nat) (out:List BsH) (P:Option Addr) (n c:Nat) (W:World):Prop where
 it:IterB W r b N seen
 bel:Below X.heap.size X W
 own:BsOwn X.heap.size W P n c out
 ne:(Value.slice P n c).ownBlock≠some r
theorem LpB.on {X:World} {r b N:Nat} {seen:Array Nat} {out:List BsH} {P:Option Addr} {n c:Nat} {W W':World} (h:LpB X r b N seen out P n c W) (hb:Below W.heap.size W W'):LpB X r b N seen out P n c W':=
 ⟨h.it.kept (hb.block _ (itB_lt h.it)),below_on h.bel (Nat.le_refl _) hb,h.own.below hb,h.ne⟩
theorem LpB.next {X:World} {r b N:Nat} {seen seen':Array Nat} {out:List BsH} {P:Option Addr} {n c:Nat} {W W':World} (h:LpB X r b N seen out P n c W) (hr:X.heap.size≤r) (hi:IterB W' r b N seen') (hg:W.grownBy W' (some r)):LpB X r b N seen' out P n c W':=
 ⟨hi,h.bel.grown hg h.bel.size (fun j e=>by have:=Option.some.inj e;omega),⟨h.own.1.kept hg (.inr h.ne),fun e he=>(h.own.2 e he).heap hg.size fun g cs fr hb=>hg.block g (Array.getElem?_eq_some_iff.1 hb).1 (fun e'=>itB_ne h.it hb (Option.some.inj e'))⟩,h.ne⟩
theorem LpB.left {X:World} {r b:Nat} {L:List (List UInt8×Value)} {seen:Array Nat} {out:List BsH} {P:Option Addr} {n c:Nat} {W:World} (h:LpB X r b L.length seen out P n c W) (hm:MapB X b encS L):leftW W r b=(leftOf (entriesOf encS L) seen).size:=leftW_eq h.it (hm.kept (h.bel.block _ hm.lt))
theorem LpB.start (X:World) (b N:Nat):LpB X X.heap.size b N #[] [] none 0 0 (X.alloc (.mapIter (some b) N #[] N)):=
 ⟨heap_alloc_new X _,(Below.refl _ _).alloc (Nat.le_refl _) _,bsOwn_nil _ _,fun e=>by simp[Value.ownBlock]at e⟩
/-- A literal of one row of bytes, appended. -/
theorem LpB.push {X:World} {r b N:Nat} {seen:Array Nat} {out:List BsH} {P A6:Option Addr} {n c n6 c6:Nat} {Y w6:World} {obj:Obj} {e:BsH} (h:LpB X r b N seen out P n c Y) (he:NewB X.heap.size Y e.2 e.1) (hown:w6.ownsRow X.heap.size 50 1 (.slice A6 n6 c6) n6 (bsV out++bsV [e])) (hg:(Y.alloc obj).grownBy w6 (Value.slice P n c).ownBlock) (hat:(Value.slice A6 n6 c6).ownBlock=(Value.slice P n c).ownBlock∨(Value.slice A6 n6 c6).ownBlock=some (Y.alloc obj).heap.size):LpB X r b N seen (out++[e]) A6 n6 c6 w6:=by
 have hba:Below Y.heap.size Y (Y.alloc obj):=(Below.refl _ _).alloc (Nat.le_refl _) _
 have h2:=h.on hba
 have hr:=itB_lt h.it
 have hk:∀(g:Nat) (cs:Array Value) (fr:Nat×Nat),(Y.alloc obj).heap[g]?=some (Obj.cells cs 5 fr)→w6.heap[g]?=(Y.alloc obj).heap[g]?:=fun g _ _ hb=>hg.block g (Array.getElem?_eq_some_iff.1 hb).1 (own_ne_cells h2.own.1 hb (by decide))
 refine⟨h2.it.kept (hg.block _ (itB_lt h2.it) (fun e=>h.ne e.symm)),h2.bel.grown hg h2.bel.size (fun g hg'=>(h2.own.1.lt g hg').1),⟨by unfold bsV at *;rw[List.map_append];exact hown,fun x hx=>?_⟩,?_⟩
 ·rcases List.mem_append.1 hx with hx|hx
  ·exact(h2.own.2 x hx).heap hg.size hk
  ·rw[List.mem_singleton.1 hx]
   exact(he.below hba).heap hg.size hk
 ·rcases hat with e|e
  ·rw[e];exact h.ne
  ·rw[e]
   simp
   omega
theorem ItsOwn.keepT {base b1 n1 s1 n c:Nat} {W W':World} {A:Option Addr} {d:List ItH} {e1:TypeId} {v1:Value} {x1:List Value} (h:ItsOwn base W A n c d) (h1:W.ownsRow b1 e1 s1 v1 n1 x1) (h2:e1≠52) (h3:e1≠5) (hg:W.grownBy W' v1.ownBlock):ItsOwn base W' A n c d:=by
 refine⟨?_,fun x hx=>(h.2 x hx).heap hg.size fun g _ _ hb=>hg.block g (Array.getElem?_eq_some_iff.1 hb).1 (own_ne_cells h1 hb h3)⟩
 rcases hv:(Value.slice A n c).ownBlock with _|g
 ·exact h.1.kept hg (.inl hv)
 ·exact h.1.kept hg (.inr (by rw[hv];exact fun e=>own_own_ne h.1 h1 (fun e=>h2 e.symm) hv e.symm))
theorem BsOwn.keepT {base b1 n1 s1 n c:Nat} {W W':World} {A:Option Addr} {d:List BsH} {e1:TypeId} {v1:Value} {x1:List Value} (h:BsOwn base W A n c d) (h1:W.ownsRow b1 e1 s1 v1 n1 x1) (h2:e1≠50) (h3:e1≠5) (hg:W.grownBy W' v1.ownBlock):BsOwn base W' A n c d:=by
 refine⟨?_,fun x hx=>(h.2 x hx).heap hg.size fun g _ _ hb=>hg.block g (Array.getElem?_eq_some_iff.1 hb).1 (own_ne_cells h1 hb h3)⟩
 rcases hv:(Value.slice A n c).ownBlock with _|g
 ·exact h.1.kept hg (.inl hv)
 ·exact h.1.kept hg (.inr (by rw[hv];exact fun e=>own_own_ne h.1 h1 (fun e=>h2 e.symm) hv e.symm))
/-- Rows of bytes to read. -/
def BsAt (W:World) (B:Nat) (A:Option Addr) (n c:Nat) (d:List BsH):Prop:=Reads W B 1 A n (bsV d)∧(∀e∈d,RdB W B e.2 e.1)∧n≤c∧c≤9223372036854775807
theorem BsAt.on {W W':World} {A:Option Addr} {n c:Nat} {d:List BsH} (h:BsAt W W.heap.size A n c d) (hb:Below W.heap.size W W'):BsAt W' W'.heap.size A n c d:=⟨h.1.on hb,fun e he=>(h.2.1 e he).on hb,h.2.2⟩
theorem BsOwn.at_ {base:Nat} {W:World} {A:Option Addr} {n c:Nat} {d:List BsH} (h:BsOwn base W A n c d):BsAt W W.heap.size A n c d:=⟨Reads.of_own h.1,fun e he=>(h.2 e he).rd,own_cap h.1⟩
theorem BsAt.len {W:World} {B n c:Nat} {A:Option Addr} {d:List BsH} (h:BsAt W B A n c d):d.length=n:=by
 have:=h.1.1
 unfold bsV at this
 simpa using this
theorem BsAt.cell {W:World} {B:Nat} {ad:Addr} {n c:Nat} {d:List BsH} (h:BsAt W B (some ad) n c d) {k:Nat} (hk:k<n) (hd:k<d.length):
 ad.block<B∧W.cell? (ad.add k)=some (.slice d[k].2.1 d[k].2.2.1 d[k].2.2.2):=by
 obtain⟨ad',e,hb,hc⟩:=h.1.2 (by omega)
 cases e
 refine⟨hb,hc k _ ?_⟩
 unfold bsV
 rw[List.getElem?_map,List.getElem?_eq_getElem hd]
 rfl
/-- What '[]byte(s)' lays. -/
theorem bytes_of (W:World) (s:ByteArray) (hs:s.size≤140737488355000):∃cs W',Sem.run Tryz.prog (convert 9 50 (.string s)) W= .ok (.slice (some ⟨W.heap.size,0,none⟩) s.size cs) W'∧NewB W.heap.size W' (some ⟨W.heap.size,0,none⟩,s.size,cs) s.data.toList∧Below W.heap.size W W':=
 ⟨_,_,run_bytes_of_string (P:=Tryz.prog) W 9 50 5 s Tryz.underlying9 Tryz.underlying50 Tryz.underlying5,(newB_str W s hs).1,(newB_str W s hs).2⟩
/-- Items of the call's own, also none, sorted by their keys. -/
theorem sortItN_any (d:List ItH) (A:Option Addr) (n cap base:Nat) (w:World) (h:ItsOwn base w A n cap d) (hn:n≤1048576):
 Calls Tryz.prog 43 #[.slice A n cap,.func (.func 44) #[] #[]] w fun e w'=>e= .returned (.tuple #[])∧∃d':List ItH,d'.Perm d∧d'.Pairwise (fun e f=>¬ltK f.1.k e.1.k)∧ItsOwn base w' A n cap d'∧w.grownBy w' (Value.slice A n cap).ownBlock:=by
 rcases Nat.eq_zero_or_pos n with h0|h0
 ·subst h0
  obtain rfl:d=[]:=List.eq_nil_of_length_eq_zero h.len
  have hcon:=AnyF.slices_SortFunc_none (P:=Tryz.prog) sortIt A cap (.func (.func 44) #[] #[]) w
  change Calls Tryz.prog 43 _ _ _ at hcon
  refine hcon.mono ?_
  rintro e w' ⟨he,rfl⟩
  exact⟨he,[],.refl _,.nil,h,World.grownBy.refl _ _⟩
 obtain⟨g,c',e1,-,-⟩:=h.1.form (by omega)
 obtain⟨rfl,rfl⟩:A=some ⟨g,0,none⟩∧cap=c':=by injection e1 with e1 e2 e3;exact⟨e1,e3⟩
 exact sortIt_any d g n cap base w h hn
theorem ValM.mem {d:List ItH} {L:List (List UInt8×Value)} (h:ValM d d.length L) (z:List UInt8):z∈L.map (·.1)↔lastV (d.map (·.1)) z≠none:=by
 rw[←lastH_lastV,←Decidable.not_not (p:=z∈L.map (·.1)),←look_none,h.at_]
 cases lastH d z d.length<;>simp
theorem ValM.form {d:List ItH} {L:List (List UInt8×Value)} (h:ValM d d.length L) {z:List UInt8} {v:Value} (hv:look L z=some v):∃y∈d,y.1.k=z∧v=hdV y.2.2∧lastV (d.map (·.1)) z=some y.1.v:=by
 rw[h.at_]at hv
 rcases e:lastH d z d.length with _|y
 ·rw[e]at hv;cases hv
 ·rw[e]at hv
  cases hv
  obtain⟨h1,h2⟩:=lastH_mem e
  exact⟨y,h1,h2,rfl,by rw[←lastH_lastV,e];rfl⟩
theorem ValM.out {d:List ItH} {L:List (List UInt8×Value)} (h:ValM d d.length L) {z:List UInt8} (hv:look L z=none):lastV (d.map (·.1)) z=none:=by
 rw[h.at_]at hv
 rw[←lastH_lastV]
 rcases e:lastH d z d.length with _|y
 ·rfl
 ·rw[e]at hv;cases hv
theorem info_bs:(Tryz.prog.info? 50).map (fun i=>(i.zero,i.size,i.bytes))=some (some (.slice none 0 0),1,24):=by kernel_rfl
/-- Does a key's value part two lists? -/
def wantK (a b:List It) (z:List UInt8):Prop:=lastV a z≠lastV b z
theorem putOf_of {a:List It} {d2:List ItH} {L2:List (List UInt8×Value)} (hv:ValM d2 d2.length L2) {out dp:List ItH} (hn:(out.map fun e=>e.1.k).Nodup) (hm:∀z,z∈out.map (fun e=>e.1.k)↔z∈L2.map (·.1)∧wantK a (d2.map (·.1)) z) (ho:∀e∈out,lastV (d2.map (·.1)) e.1.k=some e.1.v) (hp:dp.Perm out) (hs:dp.Pairwise fun e f=>¬ltK f.1.k e.1.k):PutOf a (d2.map (·.1)) (dp.map (·.1)):=by
 refine⟨?_,fun x=>?_⟩
 ·rw[List.map_map]
  refine rising_of (List.pairwise_map.2 hs) ?_
  exact((hp.map _).nodup_iff).2 hn
 ·constructor
  ·intro hx
   obtain⟨e,he,rfl⟩:=List.mem_map.1 hx
   have he':=hp.mem_iff.1 he
   have h1:=ho e he'
   refine⟨h1,fun h2=>?_⟩
   exact((hm e.1.k).1 (List.mem_map.2 ⟨e,he',rfl⟩)).2 (h2.trans h1.symm)
  ·rintro⟨h1,h2⟩
   obtain⟨e,he,hk⟩:=List.mem_map.1 ((hm x.k).2 ⟨(hv.mem _).2 (by rw[h1];simp),fun h=>h2 (h.trans h1)⟩)
   have h3:=ho e he
   rw[hk,h1]at h3
   refine List.mem_map.2 ⟨e,hp.mem_iff.2 he,?_⟩
   rcases x with ⟨xk,xv⟩
   rcases e with ⟨⟨ek,ev⟩,h,h'⟩
   simp only at hk h3
   cases h3
   rw[hk]
theorem goneOf_of {d1:List ItH} {b:List It} {L1:List (List UInt8×Value)} (hv:ValM d1 d1.length L1) {out dg:List BsH} (hn:(out.map (·.1)).Nodup) (hm:∀z,z∈out.map (·.1)↔z∈L1.map (·.1)∧lastV b z=none) (hp:dg.Perm out) (hs:dg.Pairwise fun e f=>¬ltK f.1 e.1):GoneOf (d1.map (·.1)) b (dg.map (·.1)):=by
 refine⟨rising_of (List.pairwise_map.2 hs) (((hp.map _).nodup_iff).2 hn),fun k=>?_⟩
 rw[(hp.map (·.1)).mem_iff,hm,hv.mem]
/-- The two maps. -/
structure MpV (d1 d2:List ItH) (b1:Nat) (L1:List (List UInt8×Value)) (b2:Nat) (L2:List (List UInt8×Value)) (w X:World):Prop where
 m1:MapB X b1 encS L1
 m2:MapB X b2 encS L2
 v1:ValM d1 d1.length L1
 v2:ValM d2 d2.length L2
 bel:Below w.heap.size w X
 r1:∀e∈d1,RdIt w w.heap.size e∧e.1.k.length≤140737488351232
 r2:∀e∈d2,RdIt w w.heap.size e∧e.1.k.length≤140737488351232∧e.1.v.length≤140737488351232
 n1:d1.length≤1048576
 n2:d2.length≤1048576
def DeltaPost (d1 d2:List ItH) (w:World) (e:Ending) (w':World):Prop:=∃P np cp G ng cg dp dg,e= .returned (.tuple #[.slice P np cp,.slice G ng cg])∧ItsOwn w.heap.size w' P np cp dp∧BsOwn w.heap.size w' G ng cg dg∧PutOf (d1.map (·.1)) (d2.map (·.1)) (dp.map (·.1))∧GoneOf (d1.map (·.1)) (d2.map (·.1)) (dg.map (·.1))∧np≤d2.length∧ng≤d1.length∧Below w.heap.size w w'
end Go.Proofs.YtpkeacnacjnlcaaGreat
