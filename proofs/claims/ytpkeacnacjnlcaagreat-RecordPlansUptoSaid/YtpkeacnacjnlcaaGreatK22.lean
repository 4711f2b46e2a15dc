/- record.parcel: the walk. -/
import Derived.ArgAppend
import Derived.Lib.SlBytesConst
import Derived.Test.YtpkeacnacjnlcaaGreatK03
import Derived.Test.YtpkeacnacjnlcaaGreatK09
import Derived.Test.YtpkeacnacjnlcaaGreatK19
import Derived.Test.YtpkeacnacjnlcaaGreatK20
namespace Go.Proofs.YtpkeacnacjnlcaaGreat
open Go.RowKit Go.Lib Go.Shelf
attribute [local go_sem] Go.Oper.semAt_some
/-- What holds while the first items of a parcel are made, whatever has come up. -/
structure Pc3 (base:Nat) (V:World) (hd:List UInt8) (x:Parc) (k:Nat) (b1 b2 b3 b6 b7 b8 b12 b13 b14 b15:Bool) (t20 t21 t22 t25 t26 t27 t31 t32 t5:Value) (W:World):Prop where
 bel:Below V.heap.size V W
 hb:base≤V.heap.size
 d3:b3=true→b1=true∧b2=true
 d7:b7=true→b3=true∧b6=true
 d8:b8=true→b7=true
 d12:b12=true→b3=true
 d13:b13=true→b8=true∧b12=true
 d15:b15=true→b13=true∧b14=true
 f1:b1=true→b3=false→∃A c,t20= .slice A 5 c∧W.ownsRow V.heap.size 5 1 (.slice A 5 c) 5 (u8s hd)
 f2:b2=true→b3=false→∃g,t21= .slice (some ⟨g,0,none⟩) 1 1∧Reads W W.heap.size 1 (some ⟨g,0,none⟩) 1 (u8s [0])
 f6:b6=true→b8=false→∃h:Hd,t25= .slice h.1 h.2.1 h.2.2∧NewB V.heap.size W h x.owner.data.toList
 a16:b1=true→b3=false→b6=true→∀g,t20.ownBlock=some g→t25.ownBlock≠some g
 f3:b3=true→b8=false→∃h:Hd,t22= .slice h.1 h.2.1 h.2.2∧NewB V.heap.size W h (hd++[0])
 f7:b7=true→b8=false→t26= .agg #[t22,t25]
 f8:b8=true→b13=false→∃g e,t27= .slice (some ⟨g,0,none⟩) 1 1∧ItsOwn V.heap.size W (some ⟨g,0,none⟩) 1 1 [e]∧e.1=⟨hd++[0],x.owner.data.toList⟩
 f12:b12=true→b13=false→∃A c d,t31= .slice A k c∧ItsOwn V.heap.size W A k c d∧d.map (·.1)=ringIts hd x.ring 1
 f13:b13=true→b15=false→∃A c d,t32= .slice A (1+k) c∧ItsOwn V.heap.size W A (1+k) c d∧d.map (·.1)=⟨hd++[0],x.owner.data.toList⟩::ringIts hd x.ring 1
 f14:b14=true→b15=false→∃g,t5= .pointer (some ⟨g,0,none⟩)∧V.heap.size≤g∧Boxed W g 43 (.slice none 0 0)
 f15:b15=true→∃g A c d,t5= .pointer (some ⟨g,0,none⟩)∧V.heap.size≤g∧Boxed W g 43 (.slice A (1+k) c)∧ItsOwn V.heap.size W A (1+k) c d∧d.map (·.1)=⟨hd++[0],x.owner.data.toList⟩::ringIts hd x.ring 1
theorem Pc3.on {base:Nat} {V:World} {hd:List UInt8} {x:Parc} {k:Nat} {b1 b2 b3 b6 b7 b8 b12 b13 b14 b15:Bool} {t20 t21 t22 t25 t26 t27 t31 t32 t5:Value} {W:World} {W':World} (h:Pc3 base V hd x k b1 b2 b3 b6 b7 b8 b12 b13 b14 b15 t20 t21 t22 t25 t26 t27 t31 t32 t5 W) (hw:Below W.heap.size W W'):Pc3 base V hd x k b1 b2 b3 b6 b7 b8 b12 b13 b14 b15 t20 t21 t22 t25 t26 t27 t31 t32 t5 W':=
 { h with
  bel:=below_on h.bel (Nat.le_refl _) hw
  f1:=fun p q=>by obtain⟨A,c,e,r⟩:=h.f1 p q;exact⟨A,c,e,own_below r hw⟩
  f2:=fun p q=>by obtain⟨g,e,r⟩:=h.f2 p q;exact⟨g,e,r.on hw⟩
  f6:=fun p q=>by obtain⟨g,e,r⟩:=h.f6 p q;exact⟨g,e,r.below hw⟩
  f3:=fun p q=>by obtain⟨g,e,r⟩:=h.f3 p q;exact⟨g,e,r.below hw⟩
  f8:=fun p q=>by obtain⟨g,e,e1,r,e2⟩:=h.f8 p q;exact⟨g,e,e1,r.below hw,e2⟩
  f12:=fun p q=>by obtain⟨A,c,d,e1,r,e2⟩:=h.f12 p q;exact⟨A,c,d,e1,r.below hw,e2⟩
  f13:=fun p q=>by obtain⟨A,c,d,e1,r,e2⟩:=h.f13 p q;exact⟨A,c,d,e1,r.below hw,e2⟩
  f14:=fun p q=>by obtain⟨g,e1,e2,r⟩:=h.f14 p q;exact⟨g,e1,e2,Blk.below r hw r.lt⟩
  f15:=fun p=>by obtain⟨g,A,c,d,e1,e2,r,e3,e4⟩:=h.f15 p;exact⟨g,A,c,d,e1,e2,Blk.below r hw r.lt,e3.below hw,e4⟩ }
/-- What holds between the items of a parcel. -/
structure PcF (w W:World) (g:Nat) (A:Option Addr) (k c:Nat) (d:List ItH) (x:Parc) (ad:Addr) (n cap b3:Nat) (ad2:Addr) (c2:Nat):Prop where
 out:Boxed W g 43 (.slice A k c)
 own:ItsOwn w.heap.size W A k c d
 xb:PcK W w.heap.size x (some ad) n cap
 idb:Boxed W b3 50 (.slice (some ad2) 4 c2)
 ido:W.ownsRow w.heap.size 5 1 (.slice (some ad2) 4 c2) 4 (u8s (idBy x.id))
 bel:Below w.heap.size w W
theorem PcF.on {w W W':World} {g k c n cap b3 c2:Nat} {A:Option Addr} {d:List ItH} {x:Parc} {ad ad2:Addr} (h:PcF w W g A k c d x ad n cap b3 ad2 c2) (hb:Below W.heap.size W W'):PcF w W' g A k c d x ad n cap b3 ad2 c2:=
 ⟨Blk.below h.out hb h.out.lt,h.own.below hb,h.xb.on hb,Blk.below h.idb hb h.idb.lt,own_below h.ido hb,below_on h.bel (Nat.le_refl _) hb⟩
theorem NewB.kept {base:Nat} {W W':World} {row:Option Nat} {h:Hd} {xs:List UInt8} (r:NewB base W h xs) (hg:W.grownBy W' row) (hne:∀a,h.1=some a→some a.block≠row):NewB base W' h xs:=by
 obtain⟨h1,h2,h3⟩:=r
 have hk:∀a,h.1=some a→W'.heap[a.block]?=W.heap[a.block]?:=fun a e=>by
  obtain⟨-,cs,fr,hb⟩:=h3 a e
  exact hg.block _ (Array.getElem?_eq_some_iff.1 hb).1 (hne a e)
 refine⟨⟨h1.1,fun h0=>?_⟩,h2,fun a e=>?_⟩
 ·obtain⟨ad,e,hb,hc⟩:=h1.2 h0
  refine⟨ad,e,Nat.lt_of_lt_of_le hb hg.size,fun k u hu=>?_⟩
  rw[←hc k u hu]
  exact World.cell?_of_block (by rw[block_of_add];exact hk ad e)
 ·obtain⟨hb,cs,fr,hg'⟩:=h3 a e
  exact⟨hb,cs,fr,(hk a e).trans hg'⟩
/-- What '[]byte(s)' lays. -/
theorem newB_str (W:World) (s:ByteArray) (hs:s.size≤140737488355000):NewB W.heap.size (W.drew.alloc (.cells (bytesRow s (grownCap W s.size 0 5)) 5 ((bytesRow s (grownCap W s.size 0 5)).size,(bytesRow s (grownCap W s.size 0 5)).size+1))) (some ⟨W.heap.size,0,none⟩,s.size,grownCap W s.size 0 5) s.data.toList∧
 Below W.heap.size W (W.drew.alloc (.cells (bytesRow s (grownCap W s.size 0 5)) 5 ((bytesRow s (grownCap W s.size 0 5)).size,(bytesRow s (grownCap W s.size 0 5)).size+1))):=by
 obtain⟨cap,hcap⟩:∃cap,cap=grownCap W s.size 0 5:=⟨_,rfl⟩
 have hge:s.size≤cap:=by rw[hcap];exact grownCap_ge W s.size 0 5
 have hle:cap≤9223372036854775807:=by
  have h1:cap≤maxLen:=by rw[hcap];exact grownCap_le_maxLen W s.size 0 5 (by simp only[maxLen];omega)
  simp only[maxLen]at h1
  omega
 rw[←hcap]
 obtain⟨C,hC⟩:∃C,C=bytesRow s cap:=⟨_,rfl⟩
 have hget:∀k u,(u8s s.data.toList)[k]?=some u→C[k]?=some u:=fun k u hu=>by
  rw[hC]
  unfold bytesRow
  unfold u8s at hu
  rw[List.getElem?_map]at hu
  rcases hk:s.data.toList[k]? with _|b
  ·rw[hk]at hu;cases hu
  ·rw[hk]at hu
   have hlt:k<s.data.size:=by
    have:=(List.getElem?_eq_some_iff.1 hk).1
    simpa using this
   rw[Array.getElem?_append_left (by simpa using hlt),Array.getElem?_map]
   rw[←Array.getElem?_toList,hk]
   exact hu
 rw[←hC]
 have hh:(W.drew.alloc (Obj.cells C 5 (C.size,C.size+1))).heap[W.heap.size]?=some (Obj.cells C 5 (C.size,C.size+1)):=World.alloc_heap_new W.drew _
 have hl:s.data.toList.length=s.size:=Array.length_toList
 refine⟨⟨⟨by rw[u8s_length,hl,Nat.mul_one],fun _=>⟨_,rfl,by simp,fun k u hu=>?_⟩⟩,⟨hge,hle⟩,fun a e=>by cases e;exact⟨Nat.le_refl _,_,_,hh⟩⟩,((Below.refl _ _).drew).alloc (Nat.le_refl _) _⟩
 rw[add_row,cell_of_row _ _ _ _ _ _ hh]
 exact hget k u hu
/-- What a literal of one item lays. -/
theorem own_built {base:Nat} (W:World) (a b:Value) (hb:base≤W.heap.size):(W.alloc (.cells #[a,b] 52)).ownsRow base 52 2 (.slice (some ⟨W.heap.size,0,none⟩) 1 1) 1 [a,b]:=
 ⟨rfl,.inr ⟨W.heap.size,1,#[a,b],rfl,hb,World.alloc_heap_new W _,Nat.le_refl _,by simp[maxLen],rfl,rfl⟩⟩
theorem slice_own (A:Option Addr) (n c g:Nat) (h:(Value.slice A n c).ownBlock=some g):∃a,A=some a∧a.block=g:=by
 rcases A with _|a
 ·simp[Value.ownBlock]at h
 ·exact⟨a,rfl,by simpa[Value.ownBlock]using h⟩
theorem cells_few {l:List Pt} (h:∀q∈l,-4≤q.x∧q.x≤4∧ -4≤q.y∧q.y≤4) (hn:l.Nodup):l.length≤81:=by
 have hsub:l⊆(List.range 81).map fun k=>(⟨(k/9:Nat)-4,(k%9:Nat)-4⟩:Pt):=fun q hq=>by
  have h1:=h q hq
  refine List.mem_map.2 ⟨(q.x+4).toNat*9+(q.y+4).toNat,List.mem_range.2 (by omega),?_⟩
  rcases q with ⟨a,b⟩
  simp only at h1 ⊢
  rw[show ((((a+4).toNat*9+(b+4).toNat)/9:Nat):Int)-4=a by omega,show((((a+4).toNat*9+(b+4).toNat)%9:Nat):Int)-4=b by omega]
 have:=hn.length_le_of_subset hsub
 simpa using this
theorem point_len (b:List UInt8) (A:Option Addr) (n cap m:Nat) (q:Pt) (hq:good q=true) (w:World) (hr:Reads w w.heap.size 1 A n (u8s b)) (hn:n≤1000) (hm:m=n+8):
 Calls Tryz.prog 96 #[.slice A n cap,.agg #[.int .i64 q.x,.int .i64 q.y]] w fun e w'=>∃A' c',e= .returned (.slice A' m c')∧w'.ownsRow w.heap.size 5 1 (.slice A' m c') m (u8s (b++ptB q))∧Below w.heap.size w w':=by
 have hl:=hr.len8
 refine(point_any b A n cap q hq w hr (by omega)).mono ?_
 rintro e w' ⟨A',c',rfl,ho,hb⟩
 have e1:(b++ptB q).length=m:=by rw[List.length_append,ptB_len];omega
 rw[e1]at ho ⊢
 exact⟨A',c',rfl,ho,hb⟩
theorem clone_len (b:List UInt8) (A:Option Addr) (n cap:Nat) (w:World) (hr:Reads w w.heap.size 1 A n (u8s b)) (hn:n≤1000):
 Calls Tryz.prog 42 #[.slice A n cap] w fun e w'=>∃A' c',e= .returned (.slice A' n c')∧w'.ownsRow w.heap.size 5 1 (.slice A' n c') n (u8s b)∧Below w.heap.size w w':=by
 have hl:=hr.len8
 refine(clone8_any b A n cap w hr (by omega)).mono ?_
 rintro e w' ⟨A',c',rfl,ho,hb⟩
 rw[hl]at ho ⊢
 exact⟨A',c',rfl,ho,hb⟩
theorem blk_turn {W W':World} {row:Option Nat} {g:Nat} {t:TypeId} {cs:Array Value} (h:Blk W g t cs) (hg:W.grownBy W' row) (hr:∀r,row=some r→∃o:Obj,W.heap[r]?=some o∧o.isCells=false):Blk W' g t cs:=
 (hg.block g (Blk.lt h) fun e=>by
   obtain⟨o,h1,h2⟩:=hr g e.symm
   rw[show W.heap[g]?=_ from h]at h1
   cases h1
   cases h2).trans h
theorem own_turn {W W':World} {row:Option Nat} {base n size:Nat} {t:TypeId} {v:Value} {xs:List Value} (h:W.ownsRow base t size v n xs) (hg:W.grownBy W' row) (hr:∀r,row=some r→∃o:Obj,W.heap[r]?=some o∧o.isCells=false):W'.ownsRow base t size v n xs:=
 own_heap h fun g e=>by
  rcases h.2 with ⟨h1,-⟩|⟨g',c',cur,h1,-,hb,-⟩
  ·subst h1;simp[Value.ownBlock]at e
  ·subst h1
   simp[Value.ownBlock]at e
   subst e
   exact(show _=_ from blk_turn (show Blk W g' t cur from hb) hg hr).trans (show _=_ from hb).symm
theorem PcF.turn {w W W':World} {row:Option Nat} {g k c n cap b3 c2:Nat} {A:Option Addr} {d:List ItH} {x:Parc} {ad ad2:Addr} (h:PcF w W g A k c d x ad n cap b3 ad2 c2) (hg:W.grownBy W' row) (hr:∀r,row=some r→w.heap.size≤r∧∃o:Obj,W.heap[r]?=some o∧o.isCells=false):PcF w W' g A k c d x ad n cap b3 ad2 c2:=
 have hr2:=fun r e=>(hr r e).2
 ⟨blk_turn h.out hg hr2,h.own.turn hg hr2,blk_turn h.xb hg hr2,blk_turn h.idb hg hr2,own_turn h.ido hg hr2,h.bel.grown hg h.bel.size (fun j e=>(hr j e).1)⟩
/-- One item more, and the row's box. -/
theorem PcF.put {w V Y w10:World} {g k c n cap b3 c2 c10:Nat} {A A10:Option Addr} {d:List ItH} {x:Parc} {ad ad2:Addr} {e:ItH} (h:PcF w V g A k c d x ad n cap b3 ad2 c2) (hn:b3≠g∧w.heap.size≠g∧w.heap.size≤g) (hB:Below V.heap.size V Y) (he:OwnIt w.heap.size Y e)
 (hown:w10.ownsRow w.heap.size 52 2 (.slice A10 (k+1) c10) (k+1) (itsV d++itsV [e])) (hg:Y.grownBy w10 (Value.slice A k c).ownBlock):
 w10.cell? ⟨g,0,none⟩=some (.slice A k c)∧w10.frozen? ⟨g,0,none⟩=false∧V.heap.size≤w10.heap.size∧(∀(q:Nat) (t:TypeId) (cs:Array Value),Blk V q t cs→52≠t→Blk w10 q t cs)∧
 PcF w (w10.setCell ⟨g,0,none⟩ (.slice A10 (k+1) c10)) g A10 (k+1) c10 (d++[e]) x ad n cap b3 ad2 c2∧KeepsOthers V (w10.setCell ⟨g,0,none⟩ (.slice A10 (k+1) c10)):=by
 have hY:=h.on hB
 have hko:KeepsOthers Y w10:=KeepsOthers.of_grownBy hg fun j o e ho=>by
  rcases hY.own.1.2 with ⟨h1,-⟩|⟨g',c',cur,h1,-,hb,-⟩
  ·cases h1;simp[Value.ownBlock]at e
  ·cases h1
   simp[Value.ownBlock]at e
   subst e
   rw[show Y.heap[g']?=_ from hb]at ho
   cases ho
   rfl
 have hblk:∀(q:Nat) (t:TypeId) (cs:Array Value),Blk Y q t cs→52≠t→Blk w10 q t cs:=fun q t cs hb ht=>(hg.block q (Blk.lt hb) (fun e=>own_blk_ne hY.own.1 hb ht e.symm)).trans hb
 have bo:Boxed w10 g 43 (.slice A k c):=hblk _ _ _ hY.out (by decide)
 have hi:=hY.own.append (fun x hx=>by rw[List.mem_singleton.1 hx];exact he) hown hg
 refine⟨bo.cell,bo.frozen,Nat.le_trans hB.size hg.size,fun q t cs hb ht=>hblk q t cs (Blk.below hb hB (Blk.lt hb)) ht,⟨bo.set _,hi.store bo (by decide) (by decide) 0 _,Blk.far (hblk _ _ _ hY.xb (by decide)) hn.2.1 _,Blk.far (hblk _ _ _ hY.idb (by decide)) hn.1 _,?_,(hY.bel.grown hg hY.bel.size (fun j e=>(hY.own.1.lt j e).1)).setCell (p:=⟨g,0,none⟩) hn.2.2 _⟩,((keeps_below hB).trans hko).trans (KeepsOthers.setCell _ _ _)⟩
 refine own_heap (own_heap hY.ido fun q hq=>?_) fun q hq=>Below.heap_setCell _ _ _ q (fun e=>own_blk_ne hY.ido hY.out (by decide) (by rw[hq,e]))
 exact hg.block q (hY.ido.lt q hq).2 (fun e=>own_own_ne hY.own.1 hY.ido (by decide) (g:=q) e.symm hq)
/-- The items of edges. -/
def edgIts (x:Parc) (pre:List Nat):List It:=pre.map fun k=>⟨edgKy ⟨ptAt x.ring k,ptAt x.ring ((k+1)%x.ring.length)⟩,idBy x.id⟩
/-- A row of another type is kept. -/
theorem own_other {V w10:World} {base n size g:Nat} {t tg:TypeId} {v u:Value} {xs:List Value} {cs:Array Value} (h:V.ownsRow base t size v n xs) (h4:∀(q:Nat) (t:TypeId) (cs:Array Value),Blk V q t cs→52≠t→Blk w10 q t cs) (ht:52≠t) (hg:Blk w10 g tg cs) (hne:t≠tg):(w10.setCell ⟨g,0,none⟩ u).ownsRow base t size v n xs:=by
 have h1:w10.ownsRow base t size v n xs:=own_heap h fun q e=>by
  rcases h.2 with ⟨e1,-⟩|⟨g',c',cur,e1,-,hb,-⟩
  ·subst e1;simp[Value.ownBlock]at e
  ·subst e1
   simp[Value.ownBlock]at e
   subst e
   exact(show _=_ from h4 _ _ _ (show Blk V g' t cur from hb) ht).trans (show _=_ from hb).symm
 exact own_heap h1 fun q hq=>Below.heap_setCell _ _ _ q (fun e=>own_blk_ne h1 hg hne (by rw[hq,e]))
theorem own_built3 {base:Nat} (W:World) (a b c:Value) (hb:base≤W.heap.size):(W.alloc (.cells #[a,b,c] 5)).ownsRow base 5 1 (.slice (some ⟨W.heap.size,0,none⟩) 3 3) 3 [a,b,c]:=
 ⟨rfl,.inr ⟨W.heap.size,3,#[a,b,c],rfl,hb,World.alloc_heap_new W _,Nat.le_refl _,by simp[maxLen],rfl,rfl⟩⟩
theorem cl_three {q:Pt} (h: -4≤q.x∧q.x≤4∧ -4≤q.y∧q.y≤4):[Value.int .u8 99,.int .u8 (q.x+128),.int .u8 (q.y+128)]=u8s [99,UInt8.ofNat (q.x+128).toNat,UInt8.ofNat (q.y+128).toNat]:=by
 unfold u8s
 simp only[List.map_cons,List.map_nil,UInt8.toNat_ofNat']
 rw[show (((q.x+128).toNat%2^8:Nat):Int)=q.x+128 by omega,show(((q.y+128).toNat%2^8:Nat):Int)=q.y+128 by omega]
 rfl
theorem hldE {N:Nat} {a0 a1 a2 a3 a4:Addr} {v0 v1 v2 v3 v4:Value} {V V':World} (hh:a0.block<N∧a1.block<N∧a2.block<N∧a3.block<N∧a4.block<N) (hs:V.cell? a0=some v0∧V.cell? a1=some v1∧V.cell? a2=some v2∧V.cell? a3=some v3∧V.cell? a4=some v4∧N≤V.heap.size) (hb:Below V.heap.size V V'):V'.cell? a0=some v0∧V'.cell? a1=some v1∧V'.cell? a2=some v2∧V'.cell? a3=some v3∧V'.cell? a4=some v4∧N≤V'.heap.size:=by
 obtain⟨h0,h1,h2,h3,h4⟩:=hh
 obtain⟨c0,c1,c2,c3,c4,cz⟩:=hs
 have k:∀ {a:Addr} {v:Value},a.block<N→V.cell? a=some v→V'.cell? a=some v:=fun {a v} ha hv=>(hb.cell (p:=a) (by omega)).trans hv
 exact⟨k h0 c0,k h1 c1,k h2 c2,k h3 c3,k h4 c4,Nat.le_trans cz hb.size⟩
theorem hldEc {N:Nat} {a0 a1 a2 a3 a4 p:Addr} {v0 v1 v2 v3 v4 u:Value} {V:World} (hh:a0.block≠p.block∧a1.block≠p.block∧a2.block≠p.block∧a3.block≠p.block∧a4.block≠p.block) (hs:V.cell? a0=some v0∧V.cell? a1=some v1∧V.cell? a2=some v2∧V.cell? a3=some v3∧V.cell? a4=some v4∧N≤V.heap.size):(V.setCell p u).cell? a0=some v0∧(V.setCell p u).cell? a1=some v1∧(V.setCell p u).cell? a2=some v2∧(V.setCell p u).cell? a3=some v3∧(V.setCell p u).cell? a4=some v4∧N≤(V.setCell p u).heap.size:=by
 obtain⟨h0,h1,h2,h3,h4⟩:=hh
 obtain⟨c0,c1,c2,c3,c4,cz⟩:=hs
 have k:∀ {a:Addr} {v:Value},a.block≠p.block→V.cell? a=some v→(V.setCell p u).cell? a=some v:=fun {a v} ha hv=>(World.cell?_setCell_other _ _ _ _ (fun e=>ha (by rw[e]))).trans hv
 exact⟨k h0 c0,k h1 c1,k h2 c2,k h3 c3,k h4 c4,by rw[World.size_setCell];exact cz⟩
theorem hldF {N:Nat} {a0 a1 a2:Addr} {v0 v1 v2:Value} {V V':World} (hh:a0.block<N∧a1.block<N∧a2.block<N) (hs:V.cell? a0=some v0∧V.cell? a1=some v1∧V.cell? a2=some v2∧N≤V.heap.size) (hb:Below V.heap.size V V'):V'.cell? a0=some v0∧V'.cell? a1=some v1∧V'.cell? a2=some v2∧N≤V'.heap.size:=by
 obtain⟨h0,h1,h2⟩:=hh
 obtain⟨c0,c1,c2,cz⟩:=hs
 have k:∀ {a:Addr} {v:Value},a.block<N→V.cell? a=some v→V'.cell? a=some v:=fun {a v} ha hv=>(hb.cell (p:=a) (by omega)).trans hv
 exact⟨k h0 c0,k h1 c1,k h2 c2,Nat.le_trans cz hb.size⟩
theorem hldFc {N:Nat} {a0 a1 a2 p:Addr} {v0 v1 v2 u:Value} {V:World} (hh:a0.block≠p.block∧a1.block≠p.block∧a2.block≠p.block) (hs:V.cell? a0=some v0∧V.cell? a1=some v1∧V.cell? a2=some v2∧N≤V.heap.size):(V.setCell p u).cell? a0=some v0∧(V.setCell p u).cell? a1=some v1∧(V.setCell p u).cell? a2=some v2∧N≤(V.setCell p u).heap.size:=by
 obtain⟨h0,h1,h2⟩:=hh
 obtain⟨c0,c1,c2,cz⟩:=hs
 have k:∀ {a:Addr} {v:Value},a.block≠p.block→V.cell? a=some v→(V.setCell p u).cell? a=some v:=fun {a v} ha hv=>(World.cell?_setCell_other _ _ _ _ (fun e=>ha (by rw[e]))).trans hv
 exact⟨k h0 c0,k h1 c1,k h2 c2,by rw[World.size_setCell];exact cz⟩
set_option maxRecDepth 100000 in
set_option maxHeartbeats 3200000 in
theorem parcel_any (x:Parc) (ad:Addr) (n cap:Nat) (w:World) (hr0:Reads w w.heap.size 2 (some ad) n (ptsV x.ring)) (hn:n≤128) (hcap:n≤cap∧cap≤9223372036854775807) (hg:∀q∈x.ring,good q=true) (hid:idB x.id=true) (how:x.owner.size≤32):
 Calls Tryz.prog 49 #[.agg #[.int .i64 x.id,.slice (some ad) n cap,.string x.owner]] w fun e w'=>∃A c d,e= .returned (.slice A d.length c)∧ItsOwn w.heap.size w' A d.length c d∧d.map (·.1)=parIts x∧Below w.heap.size w w':=by
 have hix:1≤x.id∧x.id≤1073741824:=by unfold idB at hid;simpa using hid
 have hX:PcK (w.alloc (.cells #[.int .i64 x.id,.slice (some ad) n cap,.string x.owner] 27)) w.heap.size x (some ad) n cap:=PcK.new w x (some ad) n cap
 obtain⟨w1,hw1⟩:∃w1,w1=w.alloc (.cells #[.int .i64 x.id,.slice (some ad) n cap,.string x.owner] 27):=⟨_,rfl⟩
 rw[←hw1]at hX
 have hB1:Below w.heap.size w w1:=by rw[hw1];exact(Below.refl _ _).alloc (Nat.le_refl _) _
 have HR:=Lib.hid (And.intro hr0 (And.intro hg (And.intro hix how)))
 have H1:=Lib.hid (And.intro hX hB1)
 obtain⟨q1,q2,q3,q4⟩:=hX.facts
 clear hr0 hg hid how hix hX hB1
 refine(callsIn_wide (n:=3)).1 ?_
 refine callsIn_of_wp_marks Tryz.func49 rfl trivial ?_ rfl
 simp only[Tryz.ntmps49,List.size_toArray,List.length_cons,List.length_nil,Nat.reduceAdd,Nat.reduceSub,Array.replicate_succ,Array.replicate_zero,List.push_toArray,List.append_toArray,List.nil_append,List.cons_append]
 refine wpIn_wide.2 ?_
 go_wp2_with fail
 rw[←hw1]
 clear hw1
 have hidb:putN [] x.id 4=idBy x.id:=by rw[put_num4 [] (by have:=HR.out.2.2.1;omega)];rfl
 refine(putNum_any [] none 0 0 x.id 4 w1 Reads.none_ (by omega) (by have:=HR.out.2.2.1;omega)).mono ?_
 rintro e w2 ⟨A2,c2,rfl,ho2,hb2⟩
 rw[hidb,idBy_len]at ho2
 rw[hidb,idBy_len]
 have H2:=Lib.hid (And.intro (H1.out.1.on hb2) (And.intro (below_on H1.out.2 (Nat.le_refl _) hb2) (own_mono ho2 H1.out.2.size)))
 obtain⟨w4,hw4⟩:∃w4,w4=(w2.alloc (.cells #[.slice A2 4 c2] 50)).alloc (.cells #[.int .u8 112] 5 (1,2)):=⟨_,rfl⟩
 have hb4:Below w2.heap.size w2 w4:=by rw[hw4];exact((Below.refl _ _).alloc (Nat.le_refl _) _).alloc (by simp) _
 have hx4:Boxed w4 w2.heap.size 50 (.slice A2 4 c2):=by rw[hw4];exact(Boxed.new w2 _ _).alloc _
 have hh4:w4.heap[w2.heap.size+1]?=some (Obj.cells #[.int .u8 112] 5 (1,2)):=by
  rw[hw4]
  have:=World.alloc_heap_new (w2.alloc (.cells #[.slice A2 4 c2] 50)) (.cells #[.int .u8 112] 5 (1,2))
  rwa [World.size_alloc]at this
 have hc4:w4.cell? ⟨w2.heap.size+1,0,none⟩=some (.int .u8 112):=by rw[cell_of_row _ _ _ _ _ _ hh4];rfl
 have h24:w4.heap.size=w2.heap.size+2:=by rw[hw4];simp
 obtain⟨b3,hb3⟩:∃b3,b3=w2.heap.size:=⟨_,rfl⟩
 obtain⟨i0,hi0,hy0,hy1,hy2⟩:=info_parts info_u8
 have hcv:=Lib.run_convert_bytes_const (P:=Tryz.prog) (w2.alloc (.cells #[.slice A2 4 c2] 50)) 50 5 #[.int .u8 112] 1 1 Tryz.underlying50 Tryz.underlying5
 simp only[World.size_alloc,List.size_toArray,List.length_cons,List.length_nil,Nat.zero_add,Nat.reduceAdd]at hcv
 have H4:=Lib.hid (And.intro (H2.out.1.on hb4) (And.intro (below_on H2.out.2.1 (Nat.le_refl _) hb4) (And.intro (own_below H2.out.2.2 hb4) hx4)))
 have hr4:Reads w4 w4.heap.size 1 A2 4 (u8s (idBy x.id)):=Reads.of_own (own_below H2.out.2.2 hb4)
 obtain⟨ad2,e2,-,hr5⟩:=hr4.2 (by omega)
 subst e2
 have HA:=Lib.hid (And.intro (show ∀b,some (⟨w2.heap.size+1,0,none⟩:Addr)=some b→∀j u,[Value.int .u8 112][j]?=some u→w4.cell? (b.add j)=some u from fun b e j u hj=>by
  cases e
  rcases j with _|j
  ·simp at hj;subst hj;exact hc4
  ·simp at hj) (And.intro (show (u8s (idBy x.id)).length=4*1 by rw[u8s_length,idBy_len]) hr5))
 clear hidb q1 q2 q3 q4 ho2 hb2 hb4 hr4 hr5 hx4 hc4 hh4
 go_wp2_with (at_builtin;rw[←hw4];refine wpList_append_grows _ rfl (.tmp 16) (.tmp 17) _ rfl 5 i0 (.int .u8 0) 1 1 Tryz.underlying50 hi0 hy0 hy1 hy2 rfl (Nat.zero_lt_succ _) (some ⟨w2.heap.size+1,0,none⟩) 1 1 [.int .u8 112] rfl (fun e=>by cases e) rfl HA.out.1 ad2 4 c2 (u8s (idBy x.id)) rfl HA.out.2.1 HA.out.2.2 (u8s_one _) (by decide) (by decide) (by decide) ?_;intro v5 w5 hown5 hg5;obtain⟨A5,c5,rfl⟩:=own_form hown5)
 obtain⟨w6,hw6⟩:∃X,X=w5:=⟨_,rfl⟩
 have hb5:Below w4.heap.size w4 w6:=by rw[hw6];exact(Below.refl _ _).grown hg5 (Nat.le_refl _) (fun j e=>by cases e)
 obtain⟨hd,hhd⟩:∃hd,hd=pcHead x.id:=⟨_,rfl⟩
 have H5:=Lib.hid (And.intro (H4.out.1.on hb5) (And.intro (below_on H4.out.2.1 (Nat.le_refl _) hb5) (And.intro (own_below H4.out.2.2.1 hb5) (And.intro (show Boxed w6 w2.heap.size 50 (.slice (some ad2) 4 c2) from Blk.below H4.out.2.2.2 hb5 H4.out.2.2.2.lt) (show w6.ownsRow w.heap.size 5 1 (.slice A5 5 c5) 5 (u8s hd) by rw[hhd,hw6];exact own_mono hown5 H4.out.2.1.size)))))
 clear hb5 hown5 hg5 HA H4
 go_upto_region 3 with fail
 rw[←hw6]
 clear hw6 hw4
 obtain⟨q1,q2,q3,q4⟩:=H5.out.1.facts
 obtain⟨V,rfl⟩:∃X,X=w6:=⟨_,rfl⟩
 go_cut [5] from 12 to 81 (fun s5 wx=>∃g A c d,s5= .pointer (some ⟨g,0,none⟩)∧V.heap.size≤g∧Boxed wx g 43 (.slice A (1+chkN n) c)∧ItsOwn V.heap.size wx A (1+chkN n) c d∧d.map (·.1)=parOP x∧Below V.heap.size V wx)
 case first=>
  have HH:Hid ((∀V',Below V.heap.size V V'→Reads V' V'.heap.size 1 A5 5 (u8s hd))∧hd.length=5):=⟨fun V' hV=>(Reads.of_own H5.out.2.2.2.2).on hV,(Reads.of_own H5.out.2.2.2.2).len8⟩
  have HRG:Hid (∀V',Below V.heap.size V V'→Reads V' V'.heap.size 2 (some ad) n (ptsV x.ring)):=fun V' hV=>((HR.out.1.below H5.out.2.1).more H5.out.2.1.size).on hV
  have HPT:Hid (∀V',Below V.heap.size V V'→Calls Tryz.prog 48 #[.slice A5 5 c5,.slice (some ad) n cap,.int .i64 1] V' fun e w'=>∃A' c' d,e= .returned (.slice A' (chkN n) c')∧ItsOwn V'.heap.size w' A' (chkN n) c' d∧d.map (·.1)=ringIts hd x.ring 1∧Below V'.heap.size V' w'):=fun V' hV=>points_any hd A5 5 c5 x.ring ad n cap 1 V' (HH.out.1 V' hV) (HRG.out V' hV) hn hcap HR.out.2.1 (by omega) (by omega)
  have hck:=chkN_le (n:=n) (m:=8) (by omega)
  have HN:=Lib.hid (And.intro (show 1+chkN n≤maxLen by simp only[maxLen];omega) (show (1+chkN n)*48≤140737488355328 by omega))
  obtain⟨i1,hi1,hx0,hz1,hz2⟩:=info_parts info_it
  have hcs:=fun V'=>run_bytes_of_string (P:=Tryz.prog) V' 9 50 5 x.owner Tryz.underlying9 Tryz.underlying50 Tryz.underlying5
  have HHD:=Lib.hid hhd
  clear hhd hck hcv
  obtain⟨I,hI⟩:∃I:Array Bool→Act→World→Prop,∀l a W,I l a W↔∃(b1 b2 b3 b6 b7 b8 b12 b13 b14 b15:Bool) (t20 t21 t22 t25 t26 t27 t31 t32 t5:Value),l=#[true,b1,b2,b3,true,true,b6,b7,b8,true,true,true,b12,b13,b14,b15]∧a={ tmps:=#[.agg #[.int .i64 x.id,.slice (some ad) n cap,.string x.owner],.pointer (some ⟨w.heap.size,0,none⟩),.slice none 0 0,.pointer (some ⟨w2.heap.size,0,none⟩),.slice A5 5 c5,t5,undef,undef,undef,undef,undef,undef,.pointer (some ⟨w.heap.size,0,none⟩),.int .i64 x.id,.slice (some ad2) 4 c2,.slice (some ⟨w2.heap.size+1,0,none⟩) 1 1,.slice (some ⟨w2.heap.size+1,0,none⟩) 1 1,.slice (some ad2) 4 c2,.slice A5 5 c5,.slice A5 5 c5,t20,t21,t22,.pointer (some ⟨w.heap.size,2,none⟩),.string x.owner,t25,t26,t27,.slice A5 5 c5,.pointer (some ⟨w.heap.size,1,none⟩),.slice (some ad) n cap,t31,t32,undef,undef,undef,undef,undef,undef,undef,undef,undef,undef,undef,undef,undef,undef,undef,undef,undef,undef,undef,undef,undef,undef,undef,undef,undef,undef,undef,undef,undef,undef,undef,undef,undef,undef,undef,undef,undef,undef,undef,undef,undef,undef,undef,undef,undef,undef,undef,undef],defers:=[] }∧Pc3 w.heap.size V hd x (chkN n) b1 b2 b3 b6 b7 b8 b12 b13 b14 b15 t20 t21 t22 t25 t26 t27 t31 t32 t5 W:=⟨_,fun _ _ _=>Iff.rfl⟩
  refine wp_region_only (S:=fun V'=>V'.cell? ⟨w.heap.size,1,none⟩=some (.slice (some ad) n cap)∧V'.cell? ⟨w.heap.size,2,none⟩=some (.string x.owner)) (by kernel_rfl) ?_ (fun hHeld=>?_)
  ·exact⟨q2,q3⟩
  refine tk 0 ?_
  refine tk 4 ?_
  refine tk 5 ?_
  refine tk 9 ?_
  refine tk 10 ?_
  refine tk 11 ?_
  refine wpAnyH_inv I ?_ ?_ ?_ _ _ _ _ ((hI _ _ _).2 ⟨false,false,false,false,false,false,false,false,false,false,undef,undef,undef,undef,undef,undef,undef,undef,undef,rfl,rfl,?_⟩) (Nat.le_of_ble_eq_true (by kernel_rfl))
  ·intro l a W hI0
   obtain⟨b1,b2,b3,b6,b7,b8,b12,b13,b14,b15,t20,t21,t22,t25,t26,t27,t31,t32,t5,-,-,hP⟩:=(hI _ _ _).1 hI0
   exact⟨(hP.bel.cell (p:=⟨w.heap.size,1,none⟩) q4).trans q2,(hP.bel.cell (p:=⟨w.heap.size,2,none⟩) q4).trans q3⟩
  ·intro l a W hI0 i hi
   obtain⟨b1,b2,b3,b6,b7,b8,b12,b13,b14,b15,t20,t21,t22,t25,t26,t27,t31,t32,t5,rfl,rfl,hP⟩:=(hI _ _ _).1 hI0
   clear hI0
   obtain⟨hlt,hun⟩:=ready_lt hi
   have hlt:i<16:=hlt
   have hcs:i=0∨i=1∨i=2∨i=3∨i=4∨i=5∨i=6∨i=7∨i=8∨i=9∨i=10∨i=11∨i=12∨i=13∨i=14∨i=15:=by omega
   rcases hcs with rfl|rfl|rfl|rfl|rfl|rfl|rfl|rfl|rfl|rfl|rfl|rfl|rfl|rfl|rfl|rfl
   ·cases hun
   ·clear hun hlt
    refine inv_step rfl hi ?_
    intro h1 h2 K hK
    obtain rfl:b1=false:=h1
    clear h2
    have h0:b3=false:=by
     rcases h0:b3 with _|_
     ·rfl
     ·exact absurd ((hP.d3 h0).1) (by simp)
    subst h0
    have h0:b7=false:=by
     rcases h0:b7 with _|_
     ·rfl
     ·exact absurd ((hP.d7 h0).1) (by simp)
    subst h0
    have h0:b8=false:=by
     rcases h0:b8 with _|_
     ·rfl
     ·exact absurd (hP.d8 h0) (by simp)
    subst h0
    go_simp
    go_at_call 42
    (with_reducible refine(clone8_any hd A5 5 c5 W (HH.out.1 W hP.bel) (by omega)).mono ?_)
    rintro e W2 ⟨Ak,ck,rfl,hk,hw⟩
    rw[HH.out.2]at hk ⊢
    try dsimp only
    refine hK.out _ _ ((hI _ _ _).2 ⟨true,b2,false,b6,false,false,b12,b13,b14,b15,_,t21,t22,t25,t26,t27,t31,t32,t5,rfl,rfl,?_⟩)
    exact { hP.on hw with
     d3:=fun h=>by cases h
     f1:=fun _ _=>⟨_,_,rfl,own_mono hk hP.bel.size⟩
     a16:=fun _ _ h6 g e1 e2=>by
      obtain⟨h,e3,r⟩:=hP.f6 h6 rfl
      rw[e3]at e2
      obtain⟨a,e4,e5⟩:=slice_own _ _ _ _ e2
      obtain⟨-,cs,fr,hg⟩:=r.2.2 a e4
      have:=(Array.getElem?_eq_some_iff.1 hg).1
      have:=(hk.lt g e1).1
      omega }
   ·clear hun hlt
    refine inv_step rfl hi ?_
    intro h1 h2 K hK
    obtain rfl:b2=false:=h1
    clear h2
    have h0:b3=false:=by
     rcases h0:b3 with _|_
     ·rfl
     ·exact absurd ((hP.d3 h0).2) (by simp)
    subst h0
    go_simp
    refine hK.out _ _ ((hI _ _ _).2 ⟨b1,true,false,b6,b7,b8,b12,b13,b14,b15,t20,_,t22,t25,t26,t27,t31,t32,t5,rfl,rfl,?_⟩)
    have hw:Below W.heap.size W (W.alloc (.cells #[.int .u8 0] 5)):=(Below.refl _ _).alloc (Nat.le_refl _) _
    exact { hP.on hw with
     d3:=fun h=>by cases h
     f2:=fun _ _=>⟨W.heap.size,rfl,Reads.made W _ _ _ 1 1 _ rfl rfl⟩ }
   ·clear hun hlt
    refine inv_step rfl hi ?_
    intro h1 h2 K hK
    obtain rfl:b3=false:=h1
    obtain rfl:b1=true:=h2 ⟨1,.data⟩ (by simp) rfl
    obtain rfl:b2=true:=h2 ⟨2,.data⟩ (by simp) rfl
    clear h2
    have h0:b7=false:=by
     rcases h0:b7 with _|_
     ·rfl
     ·exact absurd ((hP.d7 h0).1) (by simp)
    subst h0
    have h0:b8=false:=by
     rcases h0:b8 with _|_
     ·rfl
     ·exact absurd (hP.d8 h0) (by simp)
    subst h0
    have h0:b12=false:=by
     rcases h0:b12 with _|_
     ·rfl
     ·exact absurd (hP.d12 h0) (by simp)
    subst h0
    have h0:b13=false:=by
     rcases h0:b13 with _|_
     ·rfl
     ·exact absurd ((hP.d13 h0).1) (by simp)
    subst h0
    have h0:b15=false:=by
     rcases h0:b15 with _|_
     ·rfl
     ·exact absurd ((hP.d15 h0).1) (by simp)
    subst h0
    obtain⟨A,c,rfl,r20⟩:=hP.f1 rfl rfl
    obtain⟨g,rfl,r21⟩:=hP.f2 rfl rfl
    refine app1 (.tmp 20) (.tmp 21) _ V.heap.size 5 i0 _ 1 1 Tryz.underlying50 hi0 hy0 hy1 hy2 (.slice A 5 c) 5 _ r20 _ (some ⟨g,0,none⟩) 1 1 _ r21 (u8s_one _) (by decide) (by decide) hP.bel.size ?_
    intro v W2 hown hg _
    obtain⟨A3,c3,rfl⟩:=own_form hown
    rw[←u8s_append]at hown
    try dsimp only
    refine hK.out _ _ ((hI _ _ _).2 ⟨true,true,true,b6,false,false,false,false,b14,false,_,_,_,t25,t26,t27,t31,t32,t5,rfl,rfl,?_⟩)
    exact { hP with
     bel:=hP.bel.grown hg hP.bel.size (fun j e=>(r20.lt j e).1)
     d3:=fun _=>⟨rfl,rfl⟩
     d7:=fun h=>by cases h
     d12:=fun _=>rfl
     f1:=fun _ h=>by cases h
     f2:=fun _ h=>by cases h
     a16:=fun _ h=>by cases h
     f7:=fun h=>by cases h
     f6:=fun p q=>by
      obtain⟨h,e,r⟩:=hP.f6 p q
      refine⟨h,e,r.kept hg fun a e1 e2=>hP.a16 rfl rfl p a.block e2.symm ?_⟩
      rw[e,e1]
      rfl
     f3:=fun _ _=>⟨(A3,6,c3),rfl,NewB.of_own hown⟩
     f8:=fun h=>by cases h
     f12:=fun h=>by cases h
     f13:=fun h=>by cases h
     f14:=fun p q=>by
      obtain⟨g,e1,e2,r⟩:=hP.f14 p q
      exact⟨g,e1,e2,r.kept hg (r.not_row (by decide) r20)⟩
     f15:=fun h=>by cases h }
   ·cases hun
   ·cases hun
   ·clear hun hlt
    refine inv_step rfl hi ?_
    intro h1 h2 K hK
    obtain rfl:b6=false:=h1
    clear h2
    have h0:b7=false:=by
     rcases h0:b7 with _|_
     ·rfl
     ·exact absurd ((hP.d7 h0).2) (by simp)
    subst h0
    have h0:b8=false:=by
     rcases h0:b8 with _|_
     ·rfl
     ·exact absurd (hP.d8 h0) (by simp)
    subst h0
    go_simp
    refine hK.out _ _ ((hI _ _ _).2 ⟨b1,b2,b3,true,false,false,b12,b13,b14,b15,t20,t21,t22,_,t26,t27,t31,t32,t5,rfl,rfl,?_⟩)
    obtain⟨r,hw⟩:=newB_str W x.owner (by have:=HR.out.2.2.2;omega)
    exact { hP.on hw with
     d7:=fun h=>by cases h
     f7:=fun h=>by cases h
     f6:=fun _ _=>⟨_,rfl,r.mono hP.bel.size⟩
     a16:=fun p q _ g e1 e2=>by
      obtain⟨A,c,e3,r1⟩:=hP.f1 p q
      rw[e3]at e1
      have:=(r1.lt g e1).2
      simp[Value.ownBlock]at e2
      omega }
   ·clear hun hlt
    refine inv_step rfl hi ?_
    intro h1 h2 K hK
    obtain rfl:b7=false:=h1
    obtain rfl:b3=true:=h2 ⟨3,.data⟩ (by simp) rfl
    obtain rfl:b6=true:=h2 ⟨6,.data⟩ (by simp) rfl
    clear h2
    have h0:b8=false:=by
     rcases h0:b8 with _|_
     ·rfl
     ·exact absurd (hP.d8 h0) (by simp)
    subst h0
    obtain⟨⟨p1,p2,p3⟩,rfl,r22⟩:=hP.f3 rfl rfl
    obtain⟨⟨o1,o2,o3⟩,rfl,r25⟩:=hP.f6 rfl rfl
    go_simp
    refine hK.out _ _ ((hI _ _ _).2 ⟨b1,b2,true,true,true,false,b12,b13,b14,b15,t20,t21,_,_,_,t27,t31,t32,t5,rfl,rfl,?_⟩)
    exact { hP with
     d7:=fun _=>⟨rfl,rfl⟩
     d8:=fun h=>by cases h
     f7:=fun _ _=>rfl }
   ·clear hun hlt
    refine inv_step rfl hi ?_
    intro h1 h2 K hK
    obtain rfl:b8=false:=h1
    obtain rfl:b7=true:=h2 ⟨7,.data⟩ (by simp) rfl
    clear h2
    have h0:b13=false:=by
     rcases h0:b13 with _|_
     ·rfl
     ·exact absurd ((hP.d13 h0).1) (by simp)
    subst h0
    obtain⟨rfl,rfl⟩:=hP.d7 rfl
    obtain⟨⟨p1,p2,p3⟩,rfl,r22⟩:=hP.f3 rfl rfl
    obtain⟨⟨o1,o2,o3⟩,rfl,r25⟩:=hP.f6 rfl rfl
    obtain rfl:=hP.f7 rfl rfl
    go_simp
    refine hK.out _ _ ((hI _ _ _).2 ⟨b1,b2,true,true,true,true,b12,false,b14,b15,t20,t21,_,_,_,_,t31,t32,t5,rfl,rfl,?_⟩)
    have hw:Below W.heap.size W (W.alloc (.cells #[.slice p1 p2 p3,.slice o1 o2 o3] 52)):=(Below.refl _ _).alloc (Nat.le_refl _) _
    exact { hP.on hw with
     d8:=fun _=>rfl
     d13:=fun h=>by cases h
     f6:=fun _ h=>by cases h
     f3:=fun _ h=>by cases h
     f7:=fun _ h=>by cases h
     f8:=fun _ _=>⟨W.heap.size,(⟨hd++[0],x.owner.data.toList⟩,(p1,p2,p3),(o1,o2,o3)),rfl,⟨own_built W _ _ hP.bel.size,fun e he=>by rw[List.mem_singleton.1 he];exact⟨r22.below hw,r25.below hw⟩⟩,rfl⟩ }
   ·cases hun
   ·cases hun
   ·cases hun
   ·clear hun hlt
    refine inv_step rfl hi ?_
    intro h1 h2 K hK
    obtain rfl:b12=false:=h1
    obtain rfl:b3=true:=h2 ⟨3,.chain⟩ (by simp) rfl
    clear h2
    have h0:b13=false:=by
     rcases h0:b13 with _|_
     ·rfl
     ·exact absurd ((hP.d13 h0).2) (by simp)
    subst h0
    go_simp
    go_at_call 48
    (with_reducible refine(HPT.out W hP.bel).mono ?_)
    rintro e W2 ⟨A12,c12,d12,rfl,ho,hm,hw⟩
    try dsimp only
    refine hK.out _ _ ((hI _ _ _).2 ⟨b1,b2,true,b6,b7,b8,true,false,b14,b15,t20,t21,t22,t25,t26,t27,_,t32,t5,rfl,rfl,?_⟩)
    exact { hP.on hw with
     d12:=fun _=>rfl
     d13:=fun h=>by cases h
     f12:=fun _ _=>⟨A12,c12,d12,rfl,ho.mono hP.bel.size,hm⟩ }
   ·clear hun hlt
    refine inv_step rfl hi ?_
    intro h1 h2 K hK
    obtain rfl:b13=false:=h1
    obtain rfl:b8=true:=h2 ⟨8,.data⟩ (by simp) rfl
    obtain rfl:b12=true:=h2 ⟨12,.data⟩ (by simp) rfl
    clear h2
    have h0:b15=false:=by
     rcases h0:b15 with _|_
     ·rfl
     ·exact absurd ((hP.d15 h0).1) (by simp)
    subst h0
    obtain rfl:=hP.d8 rfl
    obtain⟨rfl,rfl⟩:=hP.d7 rfl
    obtain⟨g,e0,rfl,r27,he0⟩:=hP.f8 rfl rfl
    obtain⟨A,c,d,rfl,r31,hd31⟩:=hP.f12 rfl rfl
    refine app1 (.tmp 27) (.tmp 31) _ V.heap.size 52 i1 _ 2 48 Tryz.underlying43 hi1 hx0 hz1 hz2 (.slice (some ⟨g,0,none⟩) 1 1) 1 _ r27.1 _ A (chkN n) c _ (Reads.of_own r31.1) (itsV_one _) HN.out.1 HN.out.2 hP.bel.size ?_
    intro v W2 hown hg _
    obtain⟨A3,c3,rfl⟩:=own_form hown
    have hap:=r27.append (fun e he=>r31.2 e he) hown hg
    try dsimp only
    refine hK.out _ _ ((hI _ _ _).2 ⟨b1,b2,true,true,true,true,true,true,b14,false,t20,t21,t22,t25,t26,_,_,_,t5,rfl,rfl,?_⟩)
    exact { hP with
     bel:=hP.bel.grown hg hP.bel.size (fun j e=>(r27.1.lt j e).1)
     d13:=fun _=>⟨rfl,rfl⟩
     d15:=fun h=>by cases h
     f1:=fun _ h=>by cases h
     f2:=fun _ h=>by cases h
     f6:=fun _ h=>by cases h
     f3:=fun _ h=>by cases h
     f7:=fun _ h=>by cases h
     f8:=fun _ h=>by cases h
     f12:=fun _ h=>by cases h
     f13:=fun _ _=>⟨A3,c3,_,rfl,hap,by rw[List.map_append,hd31,List.map_cons,he0];rfl⟩
     f14:=fun p q=>by
      obtain⟨g,e1,e2,r⟩:=hP.f14 p q
      exact⟨g,e1,e2,r.kept hg (r.not_row (by decide) r27.1)⟩
     f15:=fun h=>by cases h }
   ·clear hun hlt
    refine inv_step rfl hi ?_
    intro h1 h2 K hK
    obtain rfl:b14=false:=h1
    clear h2
    have h0:b15=false:=by
     rcases h0:b15 with _|_
     ·rfl
     ·exact absurd ((hP.d15 h0).2) (by simp)
    subst h0
    go_simp
    refine hK.out _ _ ((hI _ _ _).2 ⟨b1,b2,b3,b6,b7,b8,b12,b13,true,false,t20,t21,t22,t25,t26,t27,t31,t32,_,rfl,rfl,?_⟩)
    have hw:Below W.heap.size W (W.alloc (.cells #[.slice none 0 0] 43)):=(Below.refl _ _).alloc (Nat.le_refl _) _
    exact { hP.on hw with
     d15:=fun h=>by cases h
     f14:=fun _ _=>⟨W.heap.size,rfl,hP.bel.size,Boxed.new W _ _⟩
     f15:=fun h=>by cases h }
   ·clear hun hlt
    refine inv_step rfl hi ?_
    intro h1 h2 K hK
    obtain rfl:b15=false:=h1
    obtain rfl:b14=true:=h2 ⟨14,.data⟩ (by simp) rfl
    obtain rfl:b13=true:=h2 ⟨13,.data⟩ (by simp) rfl
    clear h2
    obtain⟨rfl,rfl⟩:=hP.d13 rfl
    obtain rfl:=hP.d8 rfl
    obtain⟨rfl,rfl⟩:=hP.d7 rfl
    obtain⟨g,rfl,hge,r14⟩:=hP.f14 rfl rfl
    obtain⟨A,c,d,rfl,r13,hd13⟩:=hP.f13 rfl rfl
    have z1:=r14.cell
    have z2:=r14.frozen
    go_simp
    refine hK.out _ _ ((hI _ _ _).2 ⟨b1,b2,true,true,true,true,true,true,true,true,t20,t21,t22,t25,t26,t27,t31,_,_,rfl,rfl,?_⟩)
    exact { hP with
     bel:=hP.bel.setCell (p:=⟨g,0,none⟩) hge _
     d15:=fun _=>⟨rfl,rfl⟩
     f1:=fun _ h=>by cases h
     f2:=fun _ h=>by cases h
     f6:=fun _ h=>by cases h
     f3:=fun _ h=>by cases h
     f7:=fun _ h=>by cases h
     f8:=fun _ h=>by cases h
     f12:=fun _ h=>by cases h
     f13:=fun _ h=>by cases h
     f14:=fun _ h=>by cases h
     f15:=fun _=>⟨g,A,c,d,rfl,hge,r14.set _,r13.store r14 (by decide) (by decide) 0 _,hd13⟩ }
  ·intro l a W hI0 hr
   obtain⟨b1,b2,b3,b6,b7,b8,b12,b13,b14,b15,t20,t21,t22,t25,t26,t27,t31,t32,t5,rfl,rfl,hP⟩:=(hI _ _ _).1 hI0
   obtain rfl:b1=true:=by
    rcases b1 with _|_
    ·refine absurd ((mem_ready (md:= .any) (j:=1)).2 ⟨rfl,_,rfl,fun e he hb=>?_⟩) (by rw[hr];simp)
     simp at he
     rcases he with rfl<;>rfl
    ·rfl
   obtain rfl:b2=true:=by
    rcases b2 with _|_
    ·refine absurd ((mem_ready (md:= .any) (j:=2)).2 ⟨rfl,_,rfl,fun e he hb=>?_⟩) (by rw[hr];simp)
     simp at he
    ·rfl
   obtain rfl:b14=true:=by
    rcases b14 with _|_
    ·refine absurd ((mem_ready (md:= .any) (j:=14)).2 ⟨rfl,_,rfl,fun e he hb=>?_⟩) (by rw[hr];simp)
     simp at he
    ·rfl
   obtain rfl:b6=true:=by
    rcases b6 with _|_
    ·refine absurd ((mem_ready (md:= .any) (j:=6)).2 ⟨rfl,_,rfl,fun e he hb=>?_⟩) (by rw[hr];simp)
     simp at he
     rcases he with rfl<;>rfl
    ·rfl
   obtain rfl:b3=true:=by
    rcases b3 with _|_
    ·refine absurd ((mem_ready (md:= .any) (j:=3)).2 ⟨rfl,_,rfl,fun e he hb=>?_⟩) (by rw[hr];simp)
     simp at he
     rcases he with rfl|rfl|rfl<;>rfl
    ·rfl
   obtain rfl:b12=true:=by
    rcases b12 with _|_
    ·refine absurd ((mem_ready (md:= .any) (j:=12)).2 ⟨rfl,_,rfl,fun e he hb=>?_⟩) (by rw[hr];simp)
     simp at he
     rcases he with rfl|rfl|rfl<;>rfl
    ·rfl
   obtain rfl:b7=true:=by
    rcases b7 with _|_
    ·refine absurd ((mem_ready (md:= .any) (j:=7)).2 ⟨rfl,_,rfl,fun e he hb=>?_⟩) (by rw[hr];simp)
     simp at he
     rcases he with rfl|rfl<;>rfl
    ·rfl
   obtain rfl:b8=true:=by
    rcases b8 with _|_
    ·refine absurd ((mem_ready (md:= .any) (j:=8)).2 ⟨rfl,_,rfl,fun e he hb=>?_⟩) (by rw[hr];simp)
     simp at he
     rcases he with rfl<;>rfl
    ·rfl
   obtain rfl:b13=true:=by
    rcases b13 with _|_
    ·refine absurd ((mem_ready (md:= .any) (j:=13)).2 ⟨rfl,_,rfl,fun e he hb=>?_⟩) (by rw[hr];simp)
     simp at he
     rcases he with rfl|rfl|rfl<;>rfl
    ·rfl
   obtain rfl:b15=true:=by
    rcases b15 with _|_
    ·refine absurd ((mem_ready (md:= .any) (j:=15)).2 ⟨rfl,_,rfl,fun e he hb=>?_⟩) (by rw[hr];simp)
     simp at he
     rcases he with rfl|rfl|rfl|rfl|rfl|rfl|rfl|rfl|rfl|rfl|rfl|rfl|rfl|rfl|rfl|rfl|rfl|rfl<;>rfl
    ·rfl
   obtain⟨g,A,c,d,rfl,hge,rb,ro,hdm⟩:=hP.f15 rfl
   refine OnlyN.normal ?_
   go_wp2_with fail
   go_meet
   exact⟨g,A,c,d,rfl,hge,rb,ro,by rw[hdm,HHD.out];rfl,hP.bel⟩
  ·exact { bel:=(Below.refl _ _).drew,hb:=H5.out.2.1.size,d3:=(fun h=>by cases h),d7:=(fun h=>by cases h),d8:=(fun h=>by cases h),d12:=(fun h=>by cases h),d13:=(fun h=>by cases h),d15:=(fun h=>by cases h),f1:=(fun h=>by cases h),f2:=(fun h=>by cases h),f6:=(fun h=>by cases h),a16:=(fun h=>by cases h),f3:=(fun h=>by cases h),f7:=(fun h=>by cases h),f8:=(fun h=>by cases h),f12:=(fun h=>by cases h),f13:=(fun h=>by cases h),f14:=(fun h=>by cases h),f15:=(fun h=>by cases h) }
 case rest=>
  obtain⟨g,A,c,d,rfl,hge,rb,ro,hdm,hbT⟩:=hcut
  obtain⟨T,rfl⟩:∃X,X=wc:=⟨_,rfl⟩
  have hF:PcF w T g A (1+chkN n) c d x ad n cap b3 ad2 c2:=by
   have hX:=H5.out.1.on hbT
   exact⟨rb,ro.mono H5.out.2.1.size,hX,by rw[hb3];exact Blk.below H5.out.2.2.2.1 hbT H5.out.2.2.2.1.lt,own_below H5.out.2.2.1 hbT,below_on H5.out.2.1 (Nat.le_refl _) hbT⟩
  have hne:b3≠g∧w.heap.size≠g:=⟨by have:=H5.out.2.2.2.1.lt;omega,by have:=H5.out.1.facts.2.2.2;omega⟩
  rw[←hb3]
  have HF:=Lib.hid (And.intro hF (And.intro hdm hne))
  have HGW:Hid (¬g<w.heap.size):=fun h=>by have:=H5.out.2.1.size;omega
  have HLN:Hid (x.ring.length=n):=HR.out.1.lenPt
  have HGL:Hid (goodL x.ring=true):=List.all_eq_true.2 HR.out.2.1
  have HB3:=Lib.hid hb3
  obtain⟨q1,q2,q3,q4⟩:=hF.xb.facts
  clear hF hne hge rb ro hdm hbT hb3 H5 h24
  go_wp2_with fail
  refine(edges_any (some ad) n cap _).mono ?_
  rintro e w9 ⟨rfl,rfl⟩
  go_wp2_with fail
  refine(wpIn_wide (n:=3)).1 ?_
  obtain⟨T1,hT1⟩:∃X,X=T.alloc (.cells #[.slice (some ad) n cap] 25):=⟨_,rfl⟩
  have bE:Boxed T1 T.heap.size 25 (.slice (some ad) n cap):=by rw[hT1];exact Boxed.new T _ _
  have hbT:Below T.heap.size T T1:=by rw[hT1];exact(Below.refl _ _).alloc (Nat.le_refl _) _
  have hz1:T1.heap.size=T.heap.size+1:=by rw[hT1];simp
  obtain⟨be,hbe⟩:∃be,be=T.heap.size:=⟨_,rfl⟩
  rw[←hT1,←hbe]
  rw[←hbe]at bE hz1
  have hF1:=HF.out.1.on hbT
  have hwT:=HF.out.1.bel.size
  rw[←hbe]at hwT
  have HNG:=Lib.hid (And.intro HF.out.2.2.1 (And.intro HF.out.2.2.2 (show w.heap.size≤g by exact Nat.le_of_not_lt fun h=>by have e1:=HF.out.1.bel.block g h;have e2:T.heap[g]?=_:=HF.out.1.out;rw[e2]at e1;exact HGW.out h)))
  clear hT1 hbT hbe
  refine wpIn_rangeFunc_ownH rfl (by omega) (gf:=153) (lb:=#[.pointer (some ⟨be,0,none⟩)]) rfl trivial (enters_of Tryz.func153 (by kernel_rfl) rfl)
   (edges_stops 2 (by omega) w.heap.size be cap n (some ad) x.ring (by omega) T1 (by omega) (by omega) bE.cell (HR.out.1.below hF1.bel)) (fun h k=>h.trans k)
   (fun W l o o' hl h _ _=>⟨by simp,fun i hi=>World.putObj_heap_other (by omega)⟩) (Below.refl _ _) (fun _=>rfl)
   (fun pre W=>∃A' c' d',PcF w W g A' (1+chkN n+pre.length) c' d' x ad n cap b3 ad2 c2∧d'.map (·.1)=parOP x++edgIts x pre∧Boxed W be 25 (.slice (some ad) n cap))
   (fun _ _ _=>False)
   (fun pre X Y row hs hg hrow=>by
     obtain⟨A',c',d',h1,h2,h3⟩:=hs
     exact⟨A',c',d',h1.turn hg (fun r e=>⟨by have:=(hrow r e).1;omega,(hrow r e).2⟩),h2,blk_turn h3 hg (fun r e=>(hrow r e).2)⟩)
   (fun _ _ _ _ _ hs _ _=>hs)
   ⟨A,c,d,hF1,by rw[HF.out.2.1];simp[edgIts],bE⟩
   (fun y a' W=>∃Bx,Blk W Bx 76 #[.int .i64 (ptAt x.ring y).x,.int .i64 (ptAt x.ring y).y,.int .i64 (ptAt x.ring ((y+1)%x.ring.length)).x,.int .i64 (ptAt x.ring ((y+1)%x.ring.length)).y]∧
     a'={ tmps:=#[.agg #[.int .i64 x.id,.slice (some ad) n cap,.string x.owner],.pointer (some ⟨w.heap.size,0,none⟩),.slice none 0 0,.pointer (some ⟨b3,0,none⟩),.slice A5 5 c5,.pointer (some ⟨g,0,none⟩),undef,.pointer (some ⟨Bx,0,none⟩),undef,undef,undef,undef,u12,u13,u14,u15,u16,u17,u18,u19,u20,u21,u22,u23,u24,u25,u26,u27,u28,u29,u30,u31,u32,.pointer (some ⟨w.heap.size,1,none⟩),.slice (some ad) n cap,.func (.func 153) #[] #[.pointer (some ⟨be,0,none⟩)],.int .i64 (y:Int),.agg #[.int .i64 (ptAt x.ring y).x,.int .i64 (ptAt x.ring y).y,.int .i64 (ptAt x.ring ((y+1)%x.ring.length)).x,.int .i64 (ptAt x.ring ((y+1)%x.ring.length)).y],u38,u39,u40,u41,u42,u43,u44,u45,u46,u47,u48,u49,u50,u51,u52,u53,u54,u55,u56,u57,u58,u59,u60,u61,u62,u63,u64,u65,u66,u67,u68,u69,u70,u71,u72,u73,u74,u75,u76,u77,u78,u79,u80],defers:=[] })
   (fun y a'=>fun s X Y row ⟨Bx,hs,e⟩ hg hrow=>⟨Bx,blk_turn hs hg (fun r e=>(hrow r e).2),e⟩) ?assign ?body ?done ?stop
  case assign=>
   clear hz1 hwT
   rintro l pre y W K ⟨A',c',d',h1,h2,h3⟩ hK
   unfold edgeAt edgeV
   gi_wp2
   have hlt:=h3.lt
   have hsz:=h1.bel.size
   have hw:Below W.heap.size W (W.alloc (.cells #[.int .i64 (ptAt x.ring y).x,.int .i64 (ptAt x.ring y).y,.int .i64 (ptAt x.ring ((y+1)%x.ring.length)).x,.int .i64 (ptAt x.ring ((y+1)%x.ring.length)).y] 76)):=(Below.refl _ _).alloc (Nat.le_refl _) _
   exact hK _ _ ((KeepsOthers.alloc _ _).from _) (KeepE.alloc hsz hlt _) ⟨A',c',d',h1.on hw,h2,h3.alloc _⟩ ⟨W.heap.size,Blk.new W _ _,rfl⟩
  case body=>
   clear hz1 hwT
   rintro l pre y a' W hl' ⟨rl,hrr⟩ ⟨A',c',d',hF2,hd2,hbx⟩ ⟨Bx,hBx,rfl⟩ hlen
   have hg1:=ptAt_good HGL.out y
   have hg2:=ptAt_good HGL.out ((y+1)%x.ring.length)
   obtain⟨p,hp⟩:∃p,p=ptAt x.ring y:=⟨_,rfl⟩
   obtain⟨p',hp'⟩:∃p',p'=ptAt x.ring ((y+1)%x.ring.length):=⟨_,rfl⟩
   have hit:edgIts x (pre++[y])=edgIts x pre++[⟨edgKy ⟨p,p'⟩,idBy x.id⟩]:=by unfold edgIts;rw[List.map_append,hp,hp'];rfl
   rw[←hp]at hBx hg1
   rw[←hp']at hBx hg2
   rw[←hp,←hp']
   obtain⟨k,hk⟩:∃k,k=1+chkN n+pre.length:=⟨_,rfl⟩
   rw[←hk]at hF2
   have hk2:k<200:=by have:=chkN_le (n:=n) (m:=8) (by omega);omega
   have HF2:=Lib.hid hF2
   have HG2:=Lib.hid (And.intro hg1 hg2)
   have HS:=Lib.hid hF2.bel.size
   have HN:=Lib.hid (And.intro (show k+1≤maxLen by simp only[maxLen];omega) (show (k+1)*48≤140737488355328 by omega))
   have HO:=Lib.hid (fun V' (hV':Below W.heap.size W V')=>(hV'.cell (p:=⟨g,0,none⟩) hF2.out.lt).trans hF2.out.cell)
   have HID:=Lib.hid (fun V' (hV':Below W.heap.size W V')=>(Reads.of_own hF2.ido).on hV')
   have HNE:=Lib.hid (show (⟨Bx,0,none⟩:Addr).block≠(⟨g,0,none⟩:Addr).block∧(⟨Bx,1,none⟩:Addr).block≠(⟨g,0,none⟩:Addr).block∧(⟨Bx,2,none⟩:Addr).block≠(⟨g,0,none⟩:Addr).block∧(⟨Bx,3,none⟩:Addr).block≠(⟨g,0,none⟩:Addr).block∧(⟨b3,0,none⟩:Addr).block≠(⟨g,0,none⟩:Addr).block from by
    have h:=Blk.ne_ hBx hF2.out (by decide)
    exact⟨h,h,h,h,HNG.out.1⟩)
   have HE:Hid (∀ {Y w10:World} {A8 A9 A10:Option Addr} {c8 c9 c10:Nat},Below W.heap.size W Y→OwnIt W.heap.size Y (⟨edgKy ⟨p,p'⟩,idBy x.id⟩,(A8,17,c8),(A9,4,c9))→w10.ownsRow w.heap.size 52 2 (.slice A10 (k+1) c10) (k+1) (itsV d'++itsV [(⟨edgKy ⟨p,p'⟩,idBy x.id⟩,(A8,17,c8),(A9,4,c9))])→Y.grownBy w10 (Value.slice A' k c').ownBlock→
    w10.cell? ⟨g,0,none⟩=some (.slice A' k c')∧w10.frozen? ⟨g,0,none⟩=false∧(w10.cell? ⟨Bx,0,none⟩=some (.int .i64 p.x)∧w10.cell? ⟨Bx,1,none⟩=some (.int .i64 p.y)∧w10.cell? ⟨Bx,2,none⟩=some (.int .i64 p'.x)∧w10.cell? ⟨Bx,3,none⟩=some (.int .i64 p'.y)∧w10.cell? ⟨b3,0,none⟩=some (.slice (some ad2) 4 c2)∧W.heap.size≤w10.heap.size)∧
    (KeepsFrom T1.heap.size W (w10.setCell ⟨g,0,none⟩ (.slice A10 (k+1) c10))∧KeepE w.heap.size be W (w10.setCell ⟨g,0,none⟩ (.slice A10 (k+1) c10))∧∃A'' c'' d'',PcF w (w10.setCell ⟨g,0,none⟩ (.slice A10 (k+1) c10)) g A'' (1+chkN n+(pre++[y]).length) c'' d'' x ad n cap b3 ad2 c2∧d''.map (·.1)=parOP x++edgIts x (pre++[y])∧Boxed (w10.setCell ⟨g,0,none⟩ (.slice A10 (k+1) c10)) be 25 (.slice (some ad) n cap))):=by
    intro Y w10 A8 A9 A10 c8 c9 c10 hB ho hown hg
    obtain⟨h1,h2,h3,h4,h5,h6⟩:=hF2.put ⟨HNG.out.1,HNG.out.2.1,HNG.out.2.2⟩ hB (ho.mono hF2.bel.size) hown hg
    have hX:=h4 _ _ _ hBx (by decide)
    have hI:=h4 _ _ _ hF2.idb (by decide)
    have hR:Boxed (w10.setCell ⟨g,0,none⟩ (.slice A10 (k+1) c10)) be 25 (.slice (some ad) n cap):=Blk.far (h4 _ _ _ hbx (by decide)) (show be≠g from Blk.ne_ hbx hF2.out (by decide)) _
    refine⟨h1,h2,⟨by rw[Blk.cell hX 0];rfl,by rw[Blk.cell hX 1];rfl,by rw[Blk.cell hX 2];rfl,by rw[Blk.cell hX 3];rfl,Boxed.cell hI,h3⟩,h6.from _,⟨h6.size,fun i hi=>?_⟩,A10,c10,d'++[(⟨edgKy ⟨p,p'⟩,idBy x.id⟩,(A8,17,c8),(A9,4,c9))],?_,?_,hR⟩
    ·rcases hi with hi|rfl
     ·exact(h5.bel.block i hi).trans (hF2.bel.block i hi).symm
     ·exact(show _=_ from hR).trans (show _=_ from hbx).symm
    ·rw[List.length_append,List.length_singleton,show 1+chkN n+(pre.length+1)=k+1 by omega]
     exact h5
    ·rw[List.map_append,hd2,hit,List.append_assoc]
     rfl
   have hbd:Below W.heap.size W W.drew:=(Below.refl _ _).drew
   have x5:=hF2.idb.cell
   have hxl:=Blk.lt hBx
   have hil:=hF2.idb.lt
   have x1:W.cell? ⟨Bx,0,none⟩=some (.int .i64 p.x):=by rw[Blk.cell hBx 0];rfl
   have x2:W.cell? ⟨Bx,1,none⟩=some (.int .i64 p.y):=by rw[Blk.cell hBx 1];rfl
   have x3:W.cell? ⟨Bx,2,none⟩=some (.int .i64 p'.x):=by rw[Blk.cell hBx 2];rfl
   have x4:W.cell? ⟨Bx,3,none⟩=some (.int .i64 p'.y):=by rw[Blk.cell hBx 3];rfl
   have hP0:W.drew.cell? ⟨Bx,0,none⟩=some (.int .i64 p.x)∧W.drew.cell? ⟨Bx,1,none⟩=some (.int .i64 p.y)∧W.drew.cell? ⟨Bx,2,none⟩=some (.int .i64 p'.x)∧W.drew.cell? ⟨Bx,3,none⟩=some (.int .i64 p'.y)∧W.drew.cell? ⟨b3,0,none⟩=some (.slice (some ad2) 4 c2)∧W.heap.size≤W.drew.heap.size:=⟨x1,x2,x3,x4,x5,Nat.le_refl _⟩
   have hh:(⟨Bx,0,none⟩:Addr).block<W.heap.size∧(⟨Bx,1,none⟩:Addr).block<W.heap.size∧(⟨Bx,2,none⟩:Addr).block<W.heap.size∧(⟨Bx,3,none⟩:Addr).block<W.heap.size∧(⟨b3,0,none⟩:Addr).block<W.heap.size:=⟨hxl,hxl,hxl,hxl,hil⟩
   have hcv:=(show Sem.run Tryz.prog (convert 50 50 (.slice (some ⟨W.heap.size,0,none⟩) 1 1)) (World.drew (W.alloc (.cells #[.int .u8 101] 5)))= .ok (.slice (some ⟨W.heap.size,0,none⟩) 1 1) (World.drew (W.alloc (.cells #[.int .u8 101] 5 (1,2)))) from Lib.run_convert_bytes_const (P:=Tryz.prog) W.drew 50 5 #[.int .u8 101] 1 1 Tryz.underlying50 Tryz.underlying5)
   have HM:Hid (Reads (World.drew (W.alloc (.cells #[.int .u8 101] 5 (1,2)))) (World.drew (W.alloc (.cells #[.int .u8 101] 5 (1,2)))).heap.size 1 (some ⟨W.heap.size,0,none⟩) 1 (u8s [101])):=(Reads.made W #[.int .u8 101] 5 (1,2) 1 1 (u8s [101]) rfl rfl).drew
   obtain⟨i1,hi1,hx0,hv1,hz2⟩:=info_parts info_it
   clear hp hp' hit hk hF2 hd2 hbx hBx hrr hg1 hg2 x1 x2 x3 x4 x5 hxl hil hlen hk2
   dsimp only
   gi_upto_region 6 with fail
   refine wpIn_region_round (S:=fun V'=>V'.cell? ⟨Bx,0,none⟩=some (.int .i64 p.x)∧V'.cell? ⟨Bx,1,none⟩=some (.int .i64 p.y)∧V'.cell? ⟨Bx,2,none⟩=some (.int .i64 p'.x)∧V'.cell? ⟨Bx,3,none⟩=some (.int .i64 p'.y)∧V'.cell? ⟨b3,0,none⟩=some (.slice (some ad2) 4 c2)∧W.heap.size≤V'.heap.size) (by kernel_rfl) (by kernel_rfl) ?_ (fun hHeld=>?_)
   ·exact hP0
   refine tk 3 ?_
   refine tk 4 ?_
   refine tk 6 ?_
   refine tk 7 ?_
   refine tk 9 ?_
   refine rd2 0 1 (fun K hK=>?_) fun K hK=>?_
   ·have LW:=HO.out _ hbd
    go_simp
    refine hK.out _ _ ?_ (fun hHeld=>?_)
    ·first|exact hHeld|exact hP0
    clear LW
    clear hK K
    try simp only[Act.put,sb0,sc0,sc1]
    refine rd1 1 fun K hK=>?_
    go_simp
    refine hK.out _ _ (hldE hh hP0 (show Below W.drew.heap.size W.drew (World.drew _) from(Below.refl W.drew.heap.size W.drew).alloc (Nat.le_refl _) _)) fun hHeld=>?_
    clear hK K
    try simp only[Act.put,sb0,sc0,sc1]
    have hB1:Below W.heap.size W (World.drew (W.alloc (.cells #[.int .u8 101] 5))):=((Below.refl _ _).alloc (Nat.le_refl _) _).drew
    refine rd1 2 fun K hK=>?_
    clear hB1
    go_simp
    refine hK.out _ _ (hldE hh hP0 (show Below W.drew.heap.size W.drew (World.drew _) from(Below.refl W.drew.heap.size W.drew).alloc (Nat.le_refl _) _)) fun hHeld=>?_
    clear hK K
    try simp only[Act.put,sb0,sc0,sc1]
    have hB2:Below W.heap.size W (World.drew (W.alloc (.cells #[.int .u8 101] 5 (1,2)))):=((Below.refl _ _).alloc (Nat.le_refl _) _).drew
    refine rd1 5 fun K hK=>?_
    go_simp
    go_at_call 96
    (with_reducible refine(point_len [101] (some ⟨W.heap.size,0,none⟩) 1 1 9 p HG2.out.1 _ HM.out (by omega) rfl).mono ?_)
    rintro e w5 ⟨A5',c5',rfl,hk5,hb5⟩
    have hB5:=below_on hB2 (Nat.le_refl _) hb5
    try dsimp only
    refine hK.out _ _ (hldE hh hHeld hb5) fun hHeld=>?_
    clear hK K
    try simp only[Act.put,sb0,sc0,sc1]
    refine rd1 8 fun K hK=>?_
    go_simp
    go_at_call 96
    (with_reducible refine(point_len _ A5' 9 c5' 17 p' HG2.out.2 _ (Reads.of_own hk5) (by omega) rfl).mono ?_)
    rintro e w8 ⟨A8,c8,rfl,hk8,hb8⟩
    have hB8:=below_on hB5 (Nat.le_refl _) hb8
    clear hk5
    try dsimp only
    refine hK.out _ _ (hldE hh hHeld hb8) fun hHeld=>?_
    clear hK K
    try simp only[Act.put,sb0,sc0,sc1]
    refine rd1 10 fun K hK=>?_
    go_simp
    go_at_call 42
    (with_reducible refine(clone_len (idBy x.id) (some ad2) 4 c2 w8 (HID.out _ hB8) (by omega)).mono ?_)
    rintro e w10 ⟨A9,c9,rfl,hk10,hb10⟩
    have hB10:=below_on hB8 (Nat.le_refl _) hb10
    try dsimp only
    refine hK.out _ _ (hldE hh hHeld hb10) fun hHeld=>?_
    clear hK K
    try simp only[Act.put,sb0,sc0,sc1]
    refine tk 11 ?_
    refine rd1 12 fun K hK=>?_
    go_simp
    refine hK.out _ _ (hldE hh hHeld ((Below.refl _ _).alloc (Nat.le_refl _) _)) fun hHeld=>?_
    clear hK K
    try simp only[Act.put,sb0,sc0,sc1]
    have hB9:=hB10.alloc hB10.size (.cells #[.slice A8 17 c8,.slice A9 4 c9] 52)
    have hwA:Below w10.heap.size w10 (w10.alloc (.cells #[.slice A8 17 c8,.slice A9 4 c9] 52)):=(Below.refl _ _).alloc (Nat.le_refl _) _
    have hoi:OwnIt W.heap.size (w10.alloc (.cells #[.slice A8 17 c8,.slice A9 4 c9] 52)) (⟨edgKy ⟨p,p'⟩,idBy x.id⟩,(A8,17,c8),(A9,4,c9)):=⟨NewB.of_own (own_below (own_mono hk8 hB5.size) ((hb10.trans (hwA.mono hb10.size)))),NewB.of_own (own_below (own_mono hk10 hB8.size) hwA)⟩
    have HAP:=Lib.hid (And.intro (HF2.out.own.below hB9).1 (Reads.made w10 #[.slice A8 17 c8,.slice A9 4 c9] 52 (0,0) 2 1 (itsV [(⟨edgKy ⟨p,p'⟩,idBy x.id⟩,(A8,17,c8),(A9,4,c9))]) rfl rfl))
    clear hk8 hk10 hwA
    refine rd1 13 fun K hK=>?_
    refine app1 (.tmp 38) (.tmp 50) _ w.heap.size 52 i1 _ 2 48 Tryz.underlying43 hi1 hx0 hv1 hz2 (.slice A' k c') k _ HAP.out.1 _ (some ⟨_,0,none⟩) 1 1 _ HAP.out.2 (itsV_one _) HN.out.1 HN.out.2 (Nat.le_trans HS.out hB9.size) ?_
    intro v10 w10 hown10 hg10 hat10
    obtain⟨A10,c10,rfl⟩:=own_form hown10
    obtain⟨z1,z2,hs10,hZ10⟩:=HE.out hB9 hoi hown10 hg10
    have HZ10:=Lib.hid hZ10
    clear hown10 hg10 hat10 hoi HAP hZ10
    try dsimp only
    refine hK.out _ _ (hs10) fun hHeld=>?_
    clear hK K
    try simp only[Act.put,sb0]
    refine rd1 14 fun K hK=>?_
    go_simp
    refine hK.out _ _ (hldEc HNE.out hHeld) fun hHeld=>?_
    clear hK K
    try simp only[Act.put,sb0,sc0,sc1]
    refine wpAnyH_done (by kernel_rfl) ?_ _
    refine OnlyN.normal ?_
    gi_wp2_with fail
    exact HZ10.out
   ·go_simp
    refine hK.out _ _ (hldE hh hP0 (show Below W.drew.heap.size W.drew (World.drew _) from(Below.refl W.drew.heap.size W.drew).alloc (Nat.le_refl _) _)) fun hHeld=>?_
    clear hK K
    try simp only[Act.put,sb0,sc0,sc1]
    have hB1:Below W.heap.size W (World.drew (W.alloc (.cells #[.int .u8 101] 5))):=((Below.refl _ _).alloc (Nat.le_refl _) _).drew
    refine rd2 0 2 (fun K hK=>?_) fun K hK=>?_
    ·have LW:=HO.out _ hB1
     go_simp
     refine hK.out _ _ ?_ (fun hHeld=>?_)
     ·first|exact hHeld|exact hP0
     clear LW
     clear hK K
     try simp only[Act.put,sb0,sc0,sc1]
     refine rd1 2 fun K hK=>?_
     clear hB1
     go_simp
     refine hK.out _ _ (hldE hh hP0 (show Below W.drew.heap.size W.drew (World.drew _) from(Below.refl W.drew.heap.size W.drew).alloc (Nat.le_refl _) _)) fun hHeld=>?_
     clear hK K
     try simp only[Act.put,sb0,sc0,sc1]
     have hB2:Below W.heap.size W (World.drew (W.alloc (.cells #[.int .u8 101] 5 (1,2)))):=((Below.refl _ _).alloc (Nat.le_refl _) _).drew
     refine rd1 5 fun K hK=>?_
     go_simp
     go_at_call 96
     (with_reducible refine(point_len [101] (some ⟨W.heap.size,0,none⟩) 1 1 9 p HG2.out.1 _ HM.out (by omega) rfl).mono ?_)
     rintro e w5 ⟨A5',c5',rfl,hk5,hb5⟩
     have hB5:=below_on hB2 (Nat.le_refl _) hb5
     try dsimp only
     refine hK.out _ _ (hldE hh hHeld hb5) fun hHeld=>?_
     clear hK K
     try simp only[Act.put,sb0,sc0,sc1]
     refine rd1 8 fun K hK=>?_
     go_simp
     go_at_call 96
     (with_reducible refine(point_len _ A5' 9 c5' 17 p' HG2.out.2 _ (Reads.of_own hk5) (by omega) rfl).mono ?_)
     rintro e w8 ⟨A8,c8,rfl,hk8,hb8⟩
     have hB8:=below_on hB5 (Nat.le_refl _) hb8
     clear hk5
     try dsimp only
     refine hK.out _ _ (hldE hh hHeld hb8) fun hHeld=>?_
     clear hK K
     try simp only[Act.put,sb0,sc0,sc1]
     refine rd1 10 fun K hK=>?_
     go_simp
     go_at_call 42
     (with_reducible refine(clone_len (idBy x.id) (some ad2) 4 c2 w8 (HID.out _ hB8) (by omega)).mono ?_)
     rintro e w10 ⟨A9,c9,rfl,hk10,hb10⟩
     have hB10:=below_on hB8 (Nat.le_refl _) hb10
     try dsimp only
     refine hK.out _ _ (hldE hh hHeld hb10) fun hHeld=>?_
     clear hK K
     try simp only[Act.put,sb0,sc0,sc1]
     refine tk 11 ?_
     refine rd1 12 fun K hK=>?_
     go_simp
     refine hK.out _ _ (hldE hh hHeld ((Below.refl _ _).alloc (Nat.le_refl _) _)) fun hHeld=>?_
     clear hK K
     try simp only[Act.put,sb0,sc0,sc1]
     have hB9:=hB10.alloc hB10.size (.cells #[.slice A8 17 c8,.slice A9 4 c9] 52)
     have hwA:Below w10.heap.size w10 (w10.alloc (.cells #[.slice A8 17 c8,.slice A9 4 c9] 52)):=(Below.refl _ _).alloc (Nat.le_refl _) _
     have hoi:OwnIt W.heap.size (w10.alloc (.cells #[.slice A8 17 c8,.slice A9 4 c9] 52)) (⟨edgKy ⟨p,p'⟩,idBy x.id⟩,(A8,17,c8),(A9,4,c9)):=⟨NewB.of_own (own_below (own_mono hk8 hB5.size) ((hb10.trans (hwA.mono hb10.size)))),NewB.of_own (own_below (own_mono hk10 hB8.size) hwA)⟩
     have HAP:=Lib.hid (And.intro (HF2.out.own.below hB9).1 (Reads.made w10 #[.slice A8 17 c8,.slice A9 4 c9] 52 (0,0) 2 1 (itsV [(⟨edgKy ⟨p,p'⟩,idBy x.id⟩,(A8,17,c8),(A9,4,c9))]) rfl rfl))
     clear hk8 hk10 hwA
     refine rd1 13 fun K hK=>?_
     refine app1 (.tmp 38) (.tmp 50) _ w.heap.size 52 i1 _ 2 48 Tryz.underlying43 hi1 hx0 hv1 hz2 (.slice A' k c') k _ HAP.out.1 _ (some ⟨_,0,none⟩) 1 1 _ HAP.out.2 (itsV_one _) HN.out.1 HN.out.2 (Nat.le_trans HS.out hB9.size) ?_
     intro v10 w10 hown10 hg10 hat10
     obtain⟨A10,c10,rfl⟩:=own_form hown10
     obtain⟨z1,z2,hs10,hZ10⟩:=HE.out hB9 hoi hown10 hg10
     have HZ10:=Lib.hid hZ10
     clear hown10 hg10 hat10 hoi HAP hZ10
     try dsimp only
     refine hK.out _ _ (hs10) fun hHeld=>?_
     clear hK K
     try simp only[Act.put,sb0]
     refine rd1 14 fun K hK=>?_
     go_simp
     refine hK.out _ _ (hldEc HNE.out hHeld) fun hHeld=>?_
     clear hK K
     try simp only[Act.put,sb0,sc0,sc1]
     refine wpAnyH_done (by kernel_rfl) ?_ _
     refine OnlyN.normal ?_
     gi_wp2_with fail
     exact HZ10.out
    ·clear hB1
     go_simp
     refine hK.out _ _ (hldE hh hP0 (show Below W.drew.heap.size W.drew (World.drew _) from(Below.refl W.drew.heap.size W.drew).alloc (Nat.le_refl _) _)) fun hHeld=>?_
     clear hK K
     try simp only[Act.put,sb0,sc0,sc1]
     have hB2:Below W.heap.size W (World.drew (W.alloc (.cells #[.int .u8 101] 5 (1,2)))):=((Below.refl _ _).alloc (Nat.le_refl _) _).drew
     refine rd2 0 5 (fun K hK=>?_) fun K hK=>?_
     ·have LW:=HO.out _ hB2
      go_simp
      refine hK.out _ _ ?_ (fun hHeld=>?_)
      ·first|exact hHeld|exact hP0
      clear LW
      clear hK K
      try simp only[Act.put,sb0,sc0,sc1]
      refine rd1 5 fun K hK=>?_
      go_simp
      go_at_call 96
      (with_reducible refine(point_len [101] (some ⟨W.heap.size,0,none⟩) 1 1 9 p HG2.out.1 _ HM.out (by omega) rfl).mono ?_)
      rintro e w5 ⟨A5',c5',rfl,hk5,hb5⟩
      have hB5:=below_on hB2 (Nat.le_refl _) hb5
      try dsimp only
      refine hK.out _ _ (hldE hh hHeld hb5) fun hHeld=>?_
      clear hK K
      try simp only[Act.put,sb0,sc0,sc1]
      refine rd1 8 fun K hK=>?_
      go_simp
      go_at_call 96
      (with_reducible refine(point_len _ A5' 9 c5' 17 p' HG2.out.2 _ (Reads.of_own hk5) (by omega) rfl).mono ?_)
      rintro e w8 ⟨A8,c8,rfl,hk8,hb8⟩
      have hB8:=below_on hB5 (Nat.le_refl _) hb8
      clear hk5
      try dsimp only
      refine hK.out _ _ (hldE hh hHeld hb8) fun hHeld=>?_
      clear hK K
      try simp only[Act.put,sb0,sc0,sc1]
      refine rd1 10 fun K hK=>?_
      go_simp
      go_at_call 42
      (with_reducible refine(clone_len (idBy x.id) (some ad2) 4 c2 w8 (HID.out _ hB8) (by omega)).mono ?_)
      rintro e w10 ⟨A9,c9,rfl,hk10,hb10⟩
      have hB10:=below_on hB8 (Nat.le_refl _) hb10
      try dsimp only
      refine hK.out _ _ (hldE hh hHeld hb10) fun hHeld=>?_
      clear hK K
      try simp only[Act.put,sb0,sc0,sc1]
      refine tk 11 ?_
      refine rd1 12 fun K hK=>?_
      go_simp
      refine hK.out _ _ (hldE hh hHeld ((Below.refl _ _).alloc (Nat.le_refl _) _)) fun hHeld=>?_
      clear hK K
      try simp only[Act.put,sb0,sc0,sc1]
      have hB9:=hB10.alloc hB10.size (.cells #[.slice A8 17 c8,.slice A9 4 c9] 52)
      have hwA:Below w10.heap.size w10 (w10.alloc (.cells #[.slice A8 17 c8,.slice A9 4 c9] 52)):=(Below.refl _ _).alloc (Nat.le_refl _) _
      have hoi:OwnIt W.heap.size (w10.alloc (.cells #[.slice A8 17 c8,.slice A9 4 c9] 52)) (⟨edgKy ⟨p,p'⟩,idBy x.id⟩,(A8,17,c8),(A9,4,c9)):=⟨NewB.of_own (own_below (own_mono hk8 hB5.size) ((hb10.trans (hwA.mono hb10.size)))),NewB.of_own (own_below (own_mono hk10 hB8.size) hwA)⟩
      have HAP:=Lib.hid (And.intro (HF2.out.own.below hB9).1 (Reads.made w10 #[.slice A8 17 c8,.slice A9 4 c9] 52 (0,0) 2 1 (itsV [(⟨edgKy ⟨p,p'⟩,idBy x.id⟩,(A8,17,c8),(A9,4,c9))]) rfl rfl))
      clear hk8 hk10 hwA
      refine rd1 13 fun K hK=>?_
      refine app1 (.tmp 38) (.tmp 50) _ w.heap.size 52 i1 _ 2 48 Tryz.underlying43 hi1 hx0 hv1 hz2 (.slice A' k c') k _ HAP.out.1 _ (some ⟨_,0,none⟩) 1 1 _ HAP.out.2 (itsV_one _) HN.out.1 HN.out.2 (Nat.le_trans HS.out hB9.size) ?_
      intro v10 w10 hown10 hg10 hat10
      obtain⟨A10,c10,rfl⟩:=own_form hown10
      obtain⟨z1,z2,hs10,hZ10⟩:=HE.out hB9 hoi hown10 hg10
      have HZ10:=Lib.hid hZ10
      clear hown10 hg10 hat10 hoi HAP hZ10
      try dsimp only
      refine hK.out _ _ (hs10) fun hHeld=>?_
      clear hK K
      try simp only[Act.put,sb0]
      refine rd1 14 fun K hK=>?_
      go_simp
      refine hK.out _ _ (hldEc HNE.out hHeld) fun hHeld=>?_
      clear hK K
      try simp only[Act.put,sb0,sc0,sc1]
      refine wpAnyH_done (by kernel_rfl) ?_ _
      refine OnlyN.normal ?_
      gi_wp2_with fail
      exact HZ10.out
     ·go_simp
      go_at_call 96
      (with_reducible refine(point_len [101] (some ⟨W.heap.size,0,none⟩) 1 1 9 p HG2.out.1 _ HM.out (by omega) rfl).mono ?_)
      rintro e w5 ⟨A5',c5',rfl,hk5,hb5⟩
      have hB5:=below_on hB2 (Nat.le_refl _) hb5
      try dsimp only
      refine hK.out _ _ (hldE hh hHeld hb5) fun hHeld=>?_
      clear hK K
      try simp only[Act.put,sb0,sc0,sc1]
      refine rd2 0 8 (fun K hK=>?_) fun K hK=>?_
      ·have LW:=HO.out _ hB5
       go_simp
       refine hK.out _ _ ?_ (fun hHeld=>?_)
       ·first|exact hHeld|exact hP0
       clear LW
       clear hK K
       try simp only[Act.put,sb0,sc0,sc1]
       refine rd1 8 fun K hK=>?_
       go_simp
       go_at_call 96
       (with_reducible refine(point_len _ A5' 9 c5' 17 p' HG2.out.2 _ (Reads.of_own hk5) (by omega) rfl).mono ?_)
       rintro e w8 ⟨A8,c8,rfl,hk8,hb8⟩
       have hB8:=below_on hB5 (Nat.le_refl _) hb8
       clear hk5
       try dsimp only
       refine hK.out _ _ (hldE hh hHeld hb8) fun hHeld=>?_
       clear hK K
       try simp only[Act.put,sb0,sc0,sc1]
       refine rd1 10 fun K hK=>?_
       go_simp
       go_at_call 42
       (with_reducible refine(clone_len (idBy x.id) (some ad2) 4 c2 w8 (HID.out _ hB8) (by omega)).mono ?_)
       rintro e w10 ⟨A9,c9,rfl,hk10,hb10⟩
       have hB10:=below_on hB8 (Nat.le_refl _) hb10
       try dsimp only
       refine hK.out _ _ (hldE hh hHeld hb10) fun hHeld=>?_
       clear hK K
       try simp only[Act.put,sb0,sc0,sc1]
       refine tk 11 ?_
       refine rd1 12 fun K hK=>?_
       go_simp
       refine hK.out _ _ (hldE hh hHeld ((Below.refl _ _).alloc (Nat.le_refl _) _)) fun hHeld=>?_
       clear hK K
       try simp only[Act.put,sb0,sc0,sc1]
       have hB9:=hB10.alloc hB10.size (.cells #[.slice A8 17 c8,.slice A9 4 c9] 52)
       have hwA:Below w10.heap.size w10 (w10.alloc (.cells #[.slice A8 17 c8,.slice A9 4 c9] 52)):=(Below.refl _ _).alloc (Nat.le_refl _) _
       have hoi:OwnIt W.heap.size (w10.alloc (.cells #[.slice A8 17 c8,.slice A9 4 c9] 52)) (⟨edgKy ⟨p,p'⟩,idBy x.id⟩,(A8,17,c8),(A9,4,c9)):=⟨NewB.of_own (own_below (own_mono hk8 hB5.size) ((hb10.trans (hwA.mono hb10.size)))),NewB.of_own (own_below (own_mono hk10 hB8.size) hwA)⟩
       have HAP:=Lib.hid (And.intro (HF2.out.own.below hB9).1 (Reads.made w10 #[.slice A8 17 c8,.slice A9 4 c9] 52 (0,0) 2 1 (itsV [(⟨edgKy ⟨p,p'⟩,idBy x.id⟩,(A8,17,c8),(A9,4,c9))]) rfl rfl))
       clear hk8 hk10 hwA
       refine rd1 13 fun K hK=>?_
       refine app1 (.tmp 38) (.tmp 50) _ w.heap.size 52 i1 _ 2 48 Tryz.underlying43 hi1 hx0 hv1 hz2 (.slice A' k c') k _ HAP.out.1 _ (some ⟨_,0,none⟩) 1 1 _ HAP.out.2 (itsV_one _) HN.out.1 HN.out.2 (Nat.le_trans HS.out hB9.size) ?_
       intro v10 w10 hown10 hg10 hat10
       obtain⟨A10,c10,rfl⟩:=own_form hown10
       obtain⟨z1,z2,hs10,hZ10⟩:=HE.out hB9 hoi hown10 hg10
       have HZ10:=Lib.hid hZ10
       clear hown10 hg10 hat10 hoi HAP hZ10
       try dsimp only
       refine hK.out _ _ (hs10) fun hHeld=>?_
       clear hK K
       try simp only[Act.put,sb0]
       refine rd1 14 fun K hK=>?_
       go_simp
       refine hK.out _ _ (hldEc HNE.out hHeld) fun hHeld=>?_
       clear hK K
       try simp only[Act.put,sb0,sc0,sc1]
       refine wpAnyH_done (by kernel_rfl) ?_ _
       refine OnlyN.normal ?_
       gi_wp2_with fail
       exact HZ10.out
      ·go_simp
       go_at_call 96
       (with_reducible refine(point_len _ A5' 9 c5' 17 p' HG2.out.2 _ (Reads.of_own hk5) (by omega) rfl).mono ?_)
       rintro e w8 ⟨A8,c8,rfl,hk8,hb8⟩
       have hB8:=below_on hB5 (Nat.le_refl _) hb8
       clear hk5
       try dsimp only
       refine hK.out _ _ (hldE hh hHeld hb8) fun hHeld=>?_
       clear hK K
       try simp only[Act.put,sb0,sc0,sc1]
       refine rd2 0 10 (fun K hK=>?_) fun K hK=>?_
       ·have LW:=HO.out _ hB8
        go_simp
        refine hK.out _ _ ?_ (fun hHeld=>?_)
        ·first|exact hHeld|exact hP0
        clear LW
        clear hK K
        try simp only[Act.put,sb0,sc0,sc1]
        refine rd1 10 fun K hK=>?_
        go_simp
        go_at_call 42
        (with_reducible refine(clone_len (idBy x.id) (some ad2) 4 c2 w8 (HID.out _ hB8) (by omega)).mono ?_)
        rintro e w10 ⟨A9,c9,rfl,hk10,hb10⟩
        have hB10:=below_on hB8 (Nat.le_refl _) hb10
        try dsimp only
        refine hK.out _ _ (hldE hh hHeld hb10) fun hHeld=>?_
        clear hK K
        try simp only[Act.put,sb0,sc0,sc1]
        refine tk 11 ?_
        refine rd1 12 fun K hK=>?_
        go_simp
        refine hK.out _ _ (hldE hh hHeld ((Below.refl _ _).alloc (Nat.le_refl _) _)) fun hHeld=>?_
        clear hK K
        try simp only[Act.put,sb0,sc0,sc1]
        have hB9:=hB10.alloc hB10.size (.cells #[.slice A8 17 c8,.slice A9 4 c9] 52)
        have hwA:Below w10.heap.size w10 (w10.alloc (.cells #[.slice A8 17 c8,.slice A9 4 c9] 52)):=(Below.refl _ _).alloc (Nat.le_refl _) _
        have hoi:OwnIt W.heap.size (w10.alloc (.cells #[.slice A8 17 c8,.slice A9 4 c9] 52)) (⟨edgKy ⟨p,p'⟩,idBy x.id⟩,(A8,17,c8),(A9,4,c9)):=⟨NewB.of_own (own_below (own_mono hk8 hB5.size) ((hb10.trans (hwA.mono hb10.size)))),NewB.of_own (own_below (own_mono hk10 hB8.size) hwA)⟩
        have HAP:=Lib.hid (And.intro (HF2.out.own.below hB9).1 (Reads.made w10 #[.slice A8 17 c8,.slice A9 4 c9] 52 (0,0) 2 1 (itsV [(⟨edgKy ⟨p,p'⟩,idBy x.id⟩,(A8,17,c8),(A9,4,c9))]) rfl rfl))
        clear hk8 hk10 hwA
        refine rd1 13 fun K hK=>?_
        refine app1 (.tmp 38) (.tmp 50) _ w.heap.size 52 i1 _ 2 48 Tryz.underlying43 hi1 hx0 hv1 hz2 (.slice A' k c') k _ HAP.out.1 _ (some ⟨_,0,none⟩) 1 1 _ HAP.out.2 (itsV_one _) HN.out.1 HN.out.2 (Nat.le_trans HS.out hB9.size) ?_
        intro v10 w10 hown10 hg10 hat10
        obtain⟨A10,c10,rfl⟩:=own_form hown10
        obtain⟨z1,z2,hs10,hZ10⟩:=HE.out hB9 hoi hown10 hg10
        have HZ10:=Lib.hid hZ10
        clear hown10 hg10 hat10 hoi HAP hZ10
        try dsimp only
        refine hK.out _ _ (hs10) fun hHeld=>?_
        clear hK K
        try simp only[Act.put,sb0]
        refine rd1 14 fun K hK=>?_
        go_simp
        refine hK.out _ _ (hldEc HNE.out hHeld) fun hHeld=>?_
        clear hK K
        try simp only[Act.put,sb0,sc0,sc1]
        refine wpAnyH_done (by kernel_rfl) ?_ _
        refine OnlyN.normal ?_
        gi_wp2_with fail
        exact HZ10.out
       ·go_simp
        go_at_call 42
        (with_reducible refine(clone_len (idBy x.id) (some ad2) 4 c2 w8 (HID.out _ hB8) (by omega)).mono ?_)
        rintro e w10 ⟨A9,c9,rfl,hk10,hb10⟩
        have hB10:=below_on hB8 (Nat.le_refl _) hb10
        try dsimp only
        refine hK.out _ _ (hldE hh hHeld hb10) fun hHeld=>?_
        clear hK K
        try simp only[Act.put,sb0,sc0,sc1]
        refine tk 11 ?_
        refine rd2 0 12 (fun K hK=>?_) fun K hK=>?_
        ·have LW:=HO.out _ hB10
         go_simp
         refine hK.out _ _ ?_ (fun hHeld=>?_)
         ·first|exact hHeld|exact hP0
         clear LW
         clear hK K
         try simp only[Act.put,sb0,sc0,sc1]
         refine rd1 12 fun K hK=>?_
         go_simp
         refine hK.out _ _ (hldE hh hHeld ((Below.refl _ _).alloc (Nat.le_refl _) _)) fun hHeld=>?_
         clear hK K
         try simp only[Act.put,sb0,sc0,sc1]
         have hB9:=hB10.alloc hB10.size (.cells #[.slice A8 17 c8,.slice A9 4 c9] 52)
         have hwA:Below w10.heap.size w10 (w10.alloc (.cells #[.slice A8 17 c8,.slice A9 4 c9] 52)):=(Below.refl _ _).alloc (Nat.le_refl _) _
         have hoi:OwnIt W.heap.size (w10.alloc (.cells #[.slice A8 17 c8,.slice A9 4 c9] 52)) (⟨edgKy ⟨p,p'⟩,idBy x.id⟩,(A8,17,c8),(A9,4,c9)):=⟨NewB.of_own (own_below (own_mono hk8 hB5.size) ((hb10.trans (hwA.mono hb10.size)))),NewB.of_own (own_below (own_mono hk10 hB8.size) hwA)⟩
         have HAP:=Lib.hid (And.intro (HF2.out.own.below hB9).1 (Reads.made w10 #[.slice A8 17 c8,.slice A9 4 c9] 52 (0,0) 2 1 (itsV [(⟨edgKy ⟨p,p'⟩,idBy x.id⟩,(A8,17,c8),(A9,4,c9))]) rfl rfl))
         clear hk8 hk10 hwA
         refine rd1 13 fun K hK=>?_
         refine app1 (.tmp 38) (.tmp 50) _ w.heap.size 52 i1 _ 2 48 Tryz.underlying43 hi1 hx0 hv1 hz2 (.slice A' k c') k _ HAP.out.1 _ (some ⟨_,0,none⟩) 1 1 _ HAP.out.2 (itsV_one _) HN.out.1 HN.out.2 (Nat.le_trans HS.out hB9.size) ?_
         intro v10 w10 hown10 hg10 hat10
         obtain⟨A10,c10,rfl⟩:=own_form hown10
         obtain⟨z1,z2,hs10,hZ10⟩:=HE.out hB9 hoi hown10 hg10
         have HZ10:=Lib.hid hZ10
         clear hown10 hg10 hat10 hoi HAP hZ10
         try dsimp only
         refine hK.out _ _ (hs10) fun hHeld=>?_
         clear hK K
         try simp only[Act.put,sb0]
         refine rd1 14 fun K hK=>?_
         go_simp
         refine hK.out _ _ (hldEc HNE.out hHeld) fun hHeld=>?_
         clear hK K
         try simp only[Act.put,sb0,sc0,sc1]
         refine wpAnyH_done (by kernel_rfl) ?_ _
         refine OnlyN.normal ?_
         gi_wp2_with fail
         exact HZ10.out
        ·go_simp
         refine hK.out _ _ (hldE hh hHeld ((Below.refl _ _).alloc (Nat.le_refl _) _)) fun hHeld=>?_
         clear hK K
         try simp only[Act.put,sb0,sc0,sc1]
         have hB9:=hB10.alloc hB10.size (.cells #[.slice A8 17 c8,.slice A9 4 c9] 52)
         have hwA:Below w10.heap.size w10 (w10.alloc (.cells #[.slice A8 17 c8,.slice A9 4 c9] 52)):=(Below.refl _ _).alloc (Nat.le_refl _) _
         have hoi:OwnIt W.heap.size (w10.alloc (.cells #[.slice A8 17 c8,.slice A9 4 c9] 52)) (⟨edgKy ⟨p,p'⟩,idBy x.id⟩,(A8,17,c8),(A9,4,c9)):=⟨NewB.of_own (own_below (own_mono hk8 hB5.size) ((hb10.trans (hwA.mono hb10.size)))),NewB.of_own (own_below (own_mono hk10 hB8.size) hwA)⟩
         have HAP:=Lib.hid (And.intro (HF2.out.own.below hB9).1 (Reads.made w10 #[.slice A8 17 c8,.slice A9 4 c9] 52 (0,0) 2 1 (itsV [(⟨edgKy ⟨p,p'⟩,idBy x.id⟩,(A8,17,c8),(A9,4,c9))]) rfl rfl))
         clear hk8 hk10 hwA
         refine rd1 0 fun K hK=>?_
         have LW:=HO.out _ hB9
         go_simp
         refine hK.out _ _ ?_ (fun hHeld=>?_)
         ·first|exact hHeld|exact hP0
         clear LW
         clear hK K
         try simp only[Act.put,sb0,sc0,sc1]
         refine rd1 13 fun K hK=>?_
         refine app1 (.tmp 38) (.tmp 50) _ w.heap.size 52 i1 _ 2 48 Tryz.underlying43 hi1 hx0 hv1 hz2 (.slice A' k c') k _ HAP.out.1 _ (some ⟨_,0,none⟩) 1 1 _ HAP.out.2 (itsV_one _) HN.out.1 HN.out.2 (Nat.le_trans HS.out hB9.size) ?_
         intro v10 w10 hown10 hg10 hat10
         obtain⟨A10,c10,rfl⟩:=own_form hown10
         obtain⟨z1,z2,hs10,hZ10⟩:=HE.out hB9 hoi hown10 hg10
         have HZ10:=Lib.hid hZ10
         clear hown10 hg10 hat10 hoi HAP hZ10
         try dsimp only
         refine hK.out _ _ (hs10) fun hHeld=>?_
         clear hK K
         try simp only[Act.put,sb0]
         refine rd1 14 fun K hK=>?_
         go_simp
         refine hK.out _ _ (hldEc HNE.out hHeld) fun hHeld=>?_
         clear hK K
         try simp only[Act.put,sb0,sc0,sc1]
         refine wpAnyH_done (by kernel_rfl) ?_ _
         refine OnlyN.normal ?_
         gi_wp2_with fail
         exact HZ10.out
  case done=>
   rintro D ys W hD rfl ⟨A',c',d',hF2,hd2,hbx⟩ hK
   rw[List.length_range]at hF2
   have hdE:edgIts x (List.range n)=(edgesOf x.ring).map (fun e=>⟨edgKy e,idBy x.id⟩):=by
    unfold edgIts edgesOf
    rw[List.map_map,HLN.out]
    rfl
   rw[hdE]at hd2
   have HF2:=Lib.hid (And.intro hF2 (And.intro hd2 hK))
   obtain⟨q1,q2,q3,q4⟩:=hF2.xb.facts
   have HDD:Hid (w.heap.size≤D):=by show _≤_;omega
   clear hz1 hwT hdE hF2 hd2 hbx hK hF1 bE hD
   have kC:=cells_any x.ring (some ad) n cap W ((HR.out.1.below HF2.out.1.bel).more HF2.out.1.bel.size) (by omega) (fun q hq=>good_in2 (HR.out.2.1 q hq))
   obtain⟨cs,hcs⟩:∃cs,cs=cellsL x.ring:=⟨_,rfl⟩
   obtain⟨m,hm⟩:∃m,m=cs.length:=⟨_,rfl⟩
   rw[←hcs,←hm]at kC
   have hkey:∀q∈cs,-4≤q.x∧q.x≤4∧ -4≤q.y∧q.y≤4:=by rw[hcs];exact fun q hq=>cellsL_key hq
   have hm81:m≤81:=by rw[hm];exact cells_few hkey (by rw[hcs];exact cellsL_nodup _)
   have HCS:=Lib.hid (And.intro hcs (And.intro hm hkey))
   have KC:=Lib.hid kC
   clear hcs hm hkey kC
   go_wp2_with fail
   refine KC.out.mono ?_
   rintro e W3 ⟨Ac,cc,rfl,hrc,hb3⟩
   have HF3:=Lib.hid (And.intro (HF2.out.1.on hb3) (And.intro ((keeps_below hb3).same _ _ HF2.out.2.2 rfl) hrc))
   have hw3:=Nat.le_trans HF2.out.1.bel.size hb3.size
   clear hb3 hrc KC q1 q2 q3 q4
   go_wp2_with fail
   go_loopw [60] (fun i wr=>∃(j:Nat) (A':Option Addr) (c':Nat) (d':List ItH),j≤m∧i= .int .i64 (j:Int)∧Hid (PcF w wr g A' (1+chkN n+n+j) c' d' x ad n cap b3 ad2 c2∧d'.map (·.1)=(parOP x++(edgesOf x.ring).map (fun e=>⟨edgKy e,idBy x.id⟩))++(cs.take j).map (fun q=>⟨clKey x.id q,[]⟩)∧wr.heap[D]?=some (.deferred (some []))∧wr.ownsRow W.heap.size 102 2 (.slice Ac m cc) m (ptsV cs))) (fun i _=>m-(intOf i).toNat)
   case atStart=>exact⟨0,A',c',d',Nat.zero_le _,rfl,HF3.out.1,by rw[HF2.out.2.1];simp,HF3.out.2.1,HF3.out.2.2⟩
   case round=>
    obtain⟨j,A',c',d',hj,rfl,HW⟩:=hrel
    obtain⟨V,rfl⟩:∃X,X=wr:=⟨_,rfl⟩
    by_cases hlt:j<m
    ·have hlt':(j:Int)<(m:Int):=by omega
     have hw1:IntKind.i64.wrap ((j:Int)+1)=((j+1:Nat):Int):=by rw[IntKind.wrap_i64];omega
     have hrd:=Reads.of_own HW.out.2.2.2
     obtain⟨adc,rfl,-,-,-,-⟩:=hrd.pt hlt
     obtain⟨-,p1,p2⟩:=hrd.ptA hlt
     obtain⟨q,hq⟩:∃q,q=ptAt cs j:=⟨_,rfl⟩
     rw[←hq]at p1 p2
     have hqm:q∈cs:=by rw[hq];exact ptAt_mem (by have:=HCS.out.2.1;omega)
     have hqk:=HCS.out.2.2 q hqm
     have htk:cs.take (j+1)=cs.take j++[q]:=by rw[List.take_succ_eq_append_getElem (by have:=HCS.out.2.1;omega),hq,ptAt_lt (by have:=HCS.out.2.1;omega)]
     have e1:IntKind.i64.wrap (q.x+128)=q.x+128:=by rw[IntKind.wrap_i64];omega
     have e2:IntKind.i64.wrap (q.y+128)=q.y+128:=by rw[IntKind.wrap_i64];omega
     have e3:IntKind.u8.wrap (q.x+128)=q.x+128:=by rw[IntKind.wrap_u8];omega
     have e4:IntKind.u8.wrap (q.y+128)=q.y+128:=by rw[IntKind.wrap_u8];omega
     have HQ:=Lib.hid (And.intro hqk htk)
     clear hq hqm hqk htk hrd
     go_upto_region 10 with fail
     obtain⟨V1,hV1⟩:∃X,X=V.alloc (.cells #[.int .i64 q.x,.int .i64 q.y] 102):=⟨_,rfl⟩
     obtain⟨Bx,hBx⟩:∃Bx,Bx=V.heap.size:=⟨_,rfl⟩
     have hb1:Below V.heap.size V V1:=by rw[hV1];exact(Below.refl _ _).alloc (Nat.le_refl _) _
     have hX:Blk V1 Bx 102 #[.int .i64 q.x,.int .i64 q.y]:=by rw[hV1,hBx];exact Blk.new V _ _
     have hF4:=HW.out.1.on hb1
     have hD4:=(keeps_below hb1).same _ _ HW.out.2.2.1 rfl
     have hC4:=own_below HW.out.2.2.2 hb1
     have hd4:=HW.out.2.1
     obtain⟨k,hk⟩:∃k,k=1+chkN n+n+j:=⟨_,rfl⟩
     rw[←hk]at hF4
     have hk2:k<400:=by have:=chkN_le (n:=n) (m:=8) (by omega);omega
     have HF4:=Lib.hid hF4
     have HS:=Lib.hid hF4.bel.size
     have HN:=Lib.hid (And.intro (show k+1≤maxLen by simp only[maxLen];omega) (show (k+1)*48≤140737488355328 by omega))
     have HO:=Lib.hid (fun V' (hV':Below V1.heap.size V1 V')=>(hV'.cell (p:=⟨g,0,none⟩) hF4.out.lt).trans hF4.out.cell)
     have HID:=Lib.hid (fun V' (hV':Below V1.heap.size V1 V')=>(Reads.of_own hF4.ido).on hV')
     have HNE:=Lib.hid (show (⟨Bx,0,none⟩:Addr).block≠(⟨g,0,none⟩:Addr).block∧(⟨Bx,1,none⟩:Addr).block≠(⟨g,0,none⟩:Addr).block∧(⟨b3,0,none⟩:Addr).block≠(⟨g,0,none⟩:Addr).block from by
      have h:=Blk.ne_ hX hF4.out (by decide)
      exact⟨h,h,HNG.out.1⟩)
     have HE:Hid (∀ {Y w10:World} {A7 A10:Option Addr} {c7 c10:Nat},Below V1.heap.size V1 Y→OwnIt V1.heap.size Y (⟨clKey x.id q,[]⟩,(A7,7,c7),(none,0,0))→w10.ownsRow w.heap.size 52 2 (.slice A10 (k+1) c10) (k+1) (itsV d'++itsV [(⟨clKey x.id q,[]⟩,(A7,7,c7),(none,0,0))])→Y.grownBy w10 (Value.slice A' k c').ownBlock→
      w10.cell? ⟨g,0,none⟩=some (.slice A' k c')∧w10.frozen? ⟨g,0,none⟩=false∧(w10.cell? ⟨Bx,0,none⟩=some (.int .i64 q.x)∧w10.cell? ⟨Bx,1,none⟩=some (.int .i64 q.y)∧w10.cell? ⟨b3,0,none⟩=some (.slice (some ad2) 4 c2)∧V1.heap.size≤w10.heap.size)∧
      ∃A'' c'' d'',PcF w (w10.setCell ⟨g,0,none⟩ (.slice A10 (k+1) c10)) g A'' (1+chkN n+n+(j+1)) c'' d'' x ad n cap b3 ad2 c2∧d''.map (·.1)=(parOP x++(edgesOf x.ring).map (fun e=>⟨edgKy e,idBy x.id⟩))++(cs.take (j+1)).map (fun q=>⟨clKey x.id q,[]⟩)∧
       (w10.setCell ⟨g,0,none⟩ (.slice A10 (k+1) c10)).heap[D]?=some (.deferred (some []))∧(w10.setCell ⟨g,0,none⟩ (.slice A10 (k+1) c10)).ownsRow W.heap.size 102 2 (.slice (some adc) m cc) m (ptsV cs)):=by
      intro Y w10 A7 A10 c7 c10 hB ho hown hg
      obtain⟨h1,h2,h3,h4,h5,h6⟩:=hF4.put ⟨HNG.out.1,HNG.out.2.1,HNG.out.2.2⟩ hB (ho.mono hF4.bel.size) hown hg
      have hX':=h4 _ _ _ hX (by decide)
      have hI:=h4 _ _ _ hF4.idb (by decide)
      have hO:=h4 _ _ _ hF4.out (by decide)
      refine⟨h1,h2,⟨by rw[Blk.cell hX' 0];rfl,by rw[Blk.cell hX' 1];rfl,Boxed.cell hI,h3⟩,A10,c10,d'++[(⟨clKey x.id q,[]⟩,(A7,7,c7),(none,0,0))],?_,?_,h6.same _ _ hD4 rfl,own_other hC4 h4 (by decide) hO (by decide)⟩
      ·rw[show 1+chkN n+n+(j+1)=k+1 by omega]
       exact h5
      ·rw[List.map_append,hd4,HQ.out.2,List.map_append,List.append_assoc]
       rfl
     have hbd:Below V1.heap.size V1 V1.drew:=(Below.refl _ _).drew
     have hP0:V1.drew.cell? ⟨Bx,0,none⟩=some (.int .i64 q.x)∧V1.drew.cell? ⟨Bx,1,none⟩=some (.int .i64 q.y)∧V1.drew.cell? ⟨b3,0,none⟩=some (.slice (some ad2) 4 c2)∧V1.heap.size≤V1.drew.heap.size:=⟨by rw[show V1.drew.cell? ⟨Bx,0,none⟩=_ from Blk.cell hX 0];rfl,by rw[show V1.drew.cell? ⟨Bx,1,none⟩=_ from Blk.cell hX 1];rfl,hF4.idb.cell,Nat.le_refl _⟩
     have hh:(⟨Bx,0,none⟩:Addr).block<V1.heap.size∧(⟨Bx,1,none⟩:Addr).block<V1.heap.size∧(⟨b3,0,none⟩:Addr).block<V1.heap.size:=⟨Blk.lt hX,Blk.lt hX,hF4.idb.lt⟩
     obtain⟨i1,hi1,hx0,hv1,hz2⟩:=info_parts info_it
     clear hb1 hX hF4 hD4 hC4 hd4 hk hk2
     go_upto_region 11 with fail
     rw[←hV1,←hBx]
     clear hV1 hBx p1 p2
     refine wp_region_only (S:=fun V'=>V'.cell? ⟨Bx,0,none⟩=some (.int .i64 q.x)∧V'.cell? ⟨Bx,1,none⟩=some (.int .i64 q.y)∧V'.cell? ⟨b3,0,none⟩=some (.slice (some ad2) 4 c2)∧V1.heap.size≤V'.heap.size) (by kernel_rfl) ?_ (fun hHeld=>?_)
     ·exact hP0
     refine tk 1 ?_
     refine tk 2 ?_
     refine tk 3 ?_
     refine tk 4 ?_
     refine tk 5 ?_
     refine tk 6 ?_
     refine tk 7 ?_
     refine tk 8 ?_
     refine tk 10 ?_
     refine rd2 0 9 (fun K hK=>?_) fun K hK=>?_
     ·have LW:=HO.out _ hbd
      go_simp
      refine hK.out _ _ ?_ (fun hHeld=>?_)
      ·first|exact hHeld|exact hP0
      clear LW
      clear hK K
      try simp only[Act.put,sb0,sc0,sc1]
      refine rd1 9 fun K hK=>?_
      go_simp
      refine hK.out _ _ (hldF hh hP0 (show Below V1.drew.heap.size V1.drew (World.drew _) from(Below.refl V1.drew.heap.size V1.drew).alloc (Nat.le_refl _) _)) fun hHeld=>?_
      clear hK K
      try simp only[Act.put,sb0,sc0,sc1]
      have hB3:Below V1.heap.size V1 (World.drew (V1.alloc (.cells #[.int .u8 99,.int .u8 (q.x+128),.int .u8 (q.y+128)] 5))):=((Below.refl _ _).alloc (Nat.le_refl _) _).drew
      have hr3:(World.drew (V1.alloc (.cells #[.int .u8 99,.int .u8 (q.x+128),.int .u8 (q.y+128)] 5))).ownsRow V1.heap.size 5 1 (.slice (some ⟨V1.heap.size,0,none⟩) 3 3) 3 (u8s [99,UInt8.ofNat (q.x+128).toNat,UInt8.ofNat (q.y+128).toNat]):=by rw[←cl_three HQ.out.1];exact own_built3 V1 _ _ _ (Nat.le_refl _)
      refine rd1 11 fun K hK=>?_
      refine app1 (.tmp 73) (.tmp 74) _ V1.heap.size 5 i0 _ 1 1 Tryz.underlying50 hi0 hy0 hy1 hy2 (.slice (some ⟨V1.heap.size,0,none⟩) 3 3) 3 _ hr3 _ (some ad2) 4 c2 _ (HID.out _ hB3) (u8s_one _) (by decide) (by decide) hB3.size ?_
      intro v7 w7 hown7 hg7 hat7
      obtain⟨A7,c7,rfl⟩:=own_form hown7
      rw[←u8s_append]at hown7
      have hB11:=hB3.grown hg7 hB3.size (fun j e=>(hr3.lt j e).1)
      have hk7:w7.ownsRow V1.heap.size 5 1 (.slice A7 7 c7) 7 (u8s (clKey x.id q)):=hown7
      clear hown7 hg7 hat7 hr3
      try dsimp only
      refine hK.out _ _ (hldF hh hP0 ⟨hB11.os,hB11.tape,hB11.output,hB11.size,hB11.block⟩) fun hHeld=>?_
      clear hK K
      try simp only[Act.put,sb0]
      refine tk 12 ?_
      refine rd1 13 fun K hK=>?_
      go_simp
      refine hK.out _ _ (hldF hh hHeld ((Below.refl _ _).alloc (Nat.le_refl _) _)) fun hHeld=>?_
      clear hK K
      try simp only[Act.put,sb0,sc0,sc1]
      have hB9:=hB11.alloc hB11.size (.cells #[.slice A7 7 c7,.slice none 0 0] 52)
      have hwA:Below w7.heap.size w7 (w7.alloc (.cells #[.slice A7 7 c7,.slice none 0 0] 52)):=(Below.refl _ _).alloc (Nat.le_refl _) _
      have hoi:OwnIt V1.heap.size (w7.alloc (.cells #[.slice A7 7 c7,.slice none 0 0] 52)) (⟨clKey x.id q,[]⟩,(A7,7,c7),(none,0,0)):=⟨NewB.of_own (own_below hk7 hwA),newB_nil _ _⟩
      have HAP:=Lib.hid (And.intro (HF4.out.own.below hB9).1 (Reads.made w7 #[.slice A7 7 c7,.slice none 0 0] 52 (0,0) 2 1 (itsV [(⟨clKey x.id q,[]⟩,(A7,7,c7),(none,0,0))]) rfl rfl))
      clear hk7 hwA
      refine rd1 14 fun K hK=>?_
      refine app1 (.tmp 64) (.tmp 77) _ w.heap.size 52 i1 _ 2 48 Tryz.underlying43 hi1 hx0 hv1 hz2 (.slice A' k c') k _ HAP.out.1 _ (some ⟨_,0,none⟩) 1 1 _ HAP.out.2 (itsV_one _) HN.out.1 HN.out.2 (Nat.le_trans HS.out hB9.size) ?_
      intro v10 w10 hown10 hg10 hat10
      obtain⟨A10,c10,rfl⟩:=own_form hown10
      obtain⟨z1,z2,hs10,hZ10⟩:=HE.out hB9 hoi hown10 hg10
      have HZ10:=Lib.hid hZ10
      clear hown10 hg10 hat10 hoi HAP hZ10
      try dsimp only
      refine hK.out _ _ (hs10) fun hHeld=>?_
      clear hK K
      try simp only[Act.put,sb0]
      refine rd1 15 fun K hK=>?_
      go_simp
      refine hK.out _ _ (hldFc HNE.out hHeld) fun hHeld=>?_
      clear hK K
      try simp only[Act.put,sb0,sc0,sc1]
      refine wpAnyH_done (by kernel_rfl) ?_ _
      refine OnlyN.normal ?_
      go_wp2_with fail
      go_roundw
      case rel=>
       obtain⟨A9,c9,d9,hall⟩:=HZ10.out
       exact⟨j+1,A9,c9,d9,by omega,rfl,hall⟩
      case measure=>simp[intOf];omega
     ·go_simp
      refine hK.out _ _ (hldF hh hP0 (show Below V1.drew.heap.size V1.drew (World.drew _) from(Below.refl V1.drew.heap.size V1.drew).alloc (Nat.le_refl _) _)) fun hHeld=>?_
      clear hK K
      try simp only[Act.put,sb0,sc0,sc1]
      have hB3:Below V1.heap.size V1 (World.drew (V1.alloc (.cells #[.int .u8 99,.int .u8 (q.x+128),.int .u8 (q.y+128)] 5))):=((Below.refl _ _).alloc (Nat.le_refl _) _).drew
      have hr3:(World.drew (V1.alloc (.cells #[.int .u8 99,.int .u8 (q.x+128),.int .u8 (q.y+128)] 5))).ownsRow V1.heap.size 5 1 (.slice (some ⟨V1.heap.size,0,none⟩) 3 3) 3 (u8s [99,UInt8.ofNat (q.x+128).toNat,UInt8.ofNat (q.y+128).toNat]):=by rw[←cl_three HQ.out.1];exact own_built3 V1 _ _ _ (Nat.le_refl _)
      refine rd2 0 11 (fun K hK=>?_) fun K hK=>?_
      ·have LW:=HO.out _ hB3
       go_simp
       refine hK.out _ _ ?_ (fun hHeld=>?_)
       ·first|exact hHeld|exact hP0
       clear LW
       clear hK K
       try simp only[Act.put,sb0,sc0,sc1]
       refine rd1 11 fun K hK=>?_
       refine app1 (.tmp 73) (.tmp 74) _ V1.heap.size 5 i0 _ 1 1 Tryz.underlying50 hi0 hy0 hy1 hy2 (.slice (some ⟨V1.heap.size,0,none⟩) 3 3) 3 _ hr3 _ (some ad2) 4 c2 _ (HID.out _ hB3) (u8s_one _) (by decide) (by decide) hB3.size ?_
       intro v7 w7 hown7 hg7 hat7
       obtain⟨A7,c7,rfl⟩:=own_form hown7
       rw[←u8s_append]at hown7
       have hB11:=hB3.grown hg7 hB3.size (fun j e=>(hr3.lt j e).1)
       have hk7:w7.ownsRow V1.heap.size 5 1 (.slice A7 7 c7) 7 (u8s (clKey x.id q)):=hown7
       clear hown7 hg7 hat7 hr3
       try dsimp only
       refine hK.out _ _ (hldF hh hP0 ⟨hB11.os,hB11.tape,hB11.output,hB11.size,hB11.block⟩) fun hHeld=>?_
       clear hK K
       try simp only[Act.put,sb0]
       refine tk 12 ?_
       refine rd1 13 fun K hK=>?_
       go_simp
       refine hK.out _ _ (hldF hh hHeld ((Below.refl _ _).alloc (Nat.le_refl _) _)) fun hHeld=>?_
       clear hK K
       try simp only[Act.put,sb0,sc0,sc1]
       have hB9:=hB11.alloc hB11.size (.cells #[.slice A7 7 c7,.slice none 0 0] 52)
       have hwA:Below w7.heap.size w7 (w7.alloc (.cells #[.slice A7 7 c7,.slice none 0 0] 52)):=(Below.refl _ _).alloc (Nat.le_refl _) _
       have hoi:OwnIt V1.heap.size (w7.alloc (.cells #[.slice A7 7 c7,.slice none 0 0] 52)) (⟨clKey x.id q,[]⟩,(A7,7,c7),(none,0,0)):=⟨NewB.of_own (own_below hk7 hwA),newB_nil _ _⟩
       have HAP:=Lib.hid (And.intro (HF4.out.own.below hB9).1 (Reads.made w7 #[.slice A7 7 c7,.slice none 0 0] 52 (0,0) 2 1 (itsV [(⟨clKey x.id q,[]⟩,(A7,7,c7),(none,0,0))]) rfl rfl))
       clear hk7 hwA
       refine rd1 14 fun K hK=>?_
       refine app1 (.tmp 64) (.tmp 77) _ w.heap.size 52 i1 _ 2 48 Tryz.underlying43 hi1 hx0 hv1 hz2 (.slice A' k c') k _ HAP.out.1 _ (some ⟨_,0,none⟩) 1 1 _ HAP.out.2 (itsV_one _) HN.out.1 HN.out.2 (Nat.le_trans HS.out hB9.size) ?_
       intro v10 w10 hown10 hg10 hat10
       obtain⟨A10,c10,rfl⟩:=own_form hown10
       obtain⟨z1,z2,hs10,hZ10⟩:=HE.out hB9 hoi hown10 hg10
       have HZ10:=Lib.hid hZ10
       clear hown10 hg10 hat10 hoi HAP hZ10
       try dsimp only
       refine hK.out _ _ (hs10) fun hHeld=>?_
       clear hK K
       try simp only[Act.put,sb0]
       refine rd1 15 fun K hK=>?_
       go_simp
       refine hK.out _ _ (hldFc HNE.out hHeld) fun hHeld=>?_
       clear hK K
       try simp only[Act.put,sb0,sc0,sc1]
       refine wpAnyH_done (by kernel_rfl) ?_ _
       refine OnlyN.normal ?_
       go_wp2_with fail
       go_roundw
       case rel=>
        obtain⟨A9,c9,d9,hall⟩:=HZ10.out
        exact⟨j+1,A9,c9,d9,by omega,rfl,hall⟩
       case measure=>simp[intOf];omega
      ·refine app1 (.tmp 73) (.tmp 74) _ V1.heap.size 5 i0 _ 1 1 Tryz.underlying50 hi0 hy0 hy1 hy2 (.slice (some ⟨V1.heap.size,0,none⟩) 3 3) 3 _ hr3 _ (some ad2) 4 c2 _ (HID.out _ hB3) (u8s_one _) (by decide) (by decide) hB3.size ?_
       intro v7 w7 hown7 hg7 hat7
       obtain⟨A7,c7,rfl⟩:=own_form hown7
       rw[←u8s_append]at hown7
       have hB11:=hB3.grown hg7 hB3.size (fun j e=>(hr3.lt j e).1)
       have hk7:w7.ownsRow V1.heap.size 5 1 (.slice A7 7 c7) 7 (u8s (clKey x.id q)):=hown7
       clear hown7 hg7 hat7 hr3
       try dsimp only
       refine hK.out _ _ (hldF hh hP0 ⟨hB11.os,hB11.tape,hB11.output,hB11.size,hB11.block⟩) fun hHeld=>?_
       clear hK K
       try simp only[Act.put,sb0]
       refine tk 12 ?_
       refine rd2 0 13 (fun K hK=>?_) fun K hK=>?_
       ·have LW:=HO.out _ hB11
        go_simp
        refine hK.out _ _ ?_ (fun hHeld=>?_)
        ·first|exact hHeld|exact hP0
        clear LW
        clear hK K
        try simp only[Act.put,sb0,sc0,sc1]
        refine rd1 13 fun K hK=>?_
        go_simp
        refine hK.out _ _ (hldF hh hHeld ((Below.refl _ _).alloc (Nat.le_refl _) _)) fun hHeld=>?_
        clear hK K
        try simp only[Act.put,sb0,sc0,sc1]
        have hB9:=hB11.alloc hB11.size (.cells #[.slice A7 7 c7,.slice none 0 0] 52)
        have hwA:Below w7.heap.size w7 (w7.alloc (.cells #[.slice A7 7 c7,.slice none 0 0] 52)):=(Below.refl _ _).alloc (Nat.le_refl _) _
        have hoi:OwnIt V1.heap.size (w7.alloc (.cells #[.slice A7 7 c7,.slice none 0 0] 52)) (⟨clKey x.id q,[]⟩,(A7,7,c7),(none,0,0)):=⟨NewB.of_own (own_below hk7 hwA),newB_nil _ _⟩
        have HAP:=Lib.hid (And.intro (HF4.out.own.below hB9).1 (Reads.made w7 #[.slice A7 7 c7,.slice none 0 0] 52 (0,0) 2 1 (itsV [(⟨clKey x.id q,[]⟩,(A7,7,c7),(none,0,0))]) rfl rfl))
        clear hk7 hwA
        refine rd1 14 fun K hK=>?_
        refine app1 (.tmp 64) (.tmp 77) _ w.heap.size 52 i1 _ 2 48 Tryz.underlying43 hi1 hx0 hv1 hz2 (.slice A' k c') k _ HAP.out.1 _ (some ⟨_,0,none⟩) 1 1 _ HAP.out.2 (itsV_one _) HN.out.1 HN.out.2 (Nat.le_trans HS.out hB9.size) ?_
        intro v10 w10 hown10 hg10 hat10
        obtain⟨A10,c10,rfl⟩:=own_form hown10
        obtain⟨z1,z2,hs10,hZ10⟩:=HE.out hB9 hoi hown10 hg10
        have HZ10:=Lib.hid hZ10
        clear hown10 hg10 hat10 hoi HAP hZ10
        try dsimp only
        refine hK.out _ _ (hs10) fun hHeld=>?_
        clear hK K
        try simp only[Act.put,sb0]
        refine rd1 15 fun K hK=>?_
        go_simp
        refine hK.out _ _ (hldFc HNE.out hHeld) fun hHeld=>?_
        clear hK K
        try simp only[Act.put,sb0,sc0,sc1]
        refine wpAnyH_done (by kernel_rfl) ?_ _
        refine OnlyN.normal ?_
        go_wp2_with fail
        go_roundw
        case rel=>
         obtain⟨A9,c9,d9,hall⟩:=HZ10.out
         exact⟨j+1,A9,c9,d9,by omega,rfl,hall⟩
        case measure=>simp[intOf];omega
       ·go_simp
        refine hK.out _ _ (hldF hh hHeld ((Below.refl _ _).alloc (Nat.le_refl _) _)) fun hHeld=>?_
        clear hK K
        try simp only[Act.put,sb0,sc0,sc1]
        have hB9:=hB11.alloc hB11.size (.cells #[.slice A7 7 c7,.slice none 0 0] 52)
        have hwA:Below w7.heap.size w7 (w7.alloc (.cells #[.slice A7 7 c7,.slice none 0 0] 52)):=(Below.refl _ _).alloc (Nat.le_refl _) _
        have hoi:OwnIt V1.heap.size (w7.alloc (.cells #[.slice A7 7 c7,.slice none 0 0] 52)) (⟨clKey x.id q,[]⟩,(A7,7,c7),(none,0,0)):=⟨NewB.of_own (own_below hk7 hwA),newB_nil _ _⟩
        have HAP:=Lib.hid (And.intro (HF4.out.own.below hB9).1 (Reads.made w7 #[.slice A7 7 c7,.slice none 0 0] 52 (0,0) 2 1 (itsV [(⟨clKey x.id q,[]⟩,(A7,7,c7),(none,0,0))]) rfl rfl))
        clear hk7 hwA
        refine rd1 0 fun K hK=>?_
        have LW:=HO.out _ hB9
        go_simp
        refine hK.out _ _ ?_ (fun hHeld=>?_)
        ·first|exact hHeld|exact hP0
        clear LW
        clear hK K
        try simp only[Act.put,sb0,sc0,sc1]
        refine rd1 14 fun K hK=>?_
        refine app1 (.tmp 64) (.tmp 77) _ w.heap.size 52 i1 _ 2 48 Tryz.underlying43 hi1 hx0 hv1 hz2 (.slice A' k c') k _ HAP.out.1 _ (some ⟨_,0,none⟩) 1 1 _ HAP.out.2 (itsV_one _) HN.out.1 HN.out.2 (Nat.le_trans HS.out hB9.size) ?_
        intro v10 w10 hown10 hg10 hat10
        obtain⟨A10,c10,rfl⟩:=own_form hown10
        obtain⟨z1,z2,hs10,hZ10⟩:=HE.out hB9 hoi hown10 hg10
        have HZ10:=Lib.hid hZ10
        clear hown10 hg10 hat10 hoi HAP hZ10
        try dsimp only
        refine hK.out _ _ (hs10) fun hHeld=>?_
        clear hK K
        try simp only[Act.put,sb0]
        refine rd1 15 fun K hK=>?_
        go_simp
        refine hK.out _ _ (hldFc HNE.out hHeld) fun hHeld=>?_
        clear hK K
        try simp only[Act.put,sb0,sc0,sc1]
        refine wpAnyH_done (by kernel_rfl) ?_ _
        refine OnlyN.normal ?_
        go_wp2_with fail
        go_roundw
        case rel=>
         obtain⟨A9,c9,d9,hall⟩:=HZ10.out
         exact⟨j+1,A9,c9,d9,by omega,rfl,hall⟩
        case measure=>simp[intOf];omega
    ·obtain rfl:j=m:=by omega
     have hF9:=HW.out.1
     have hd9:d'.map (·.1)=parIts x:=by
      rw[HW.out.2.1,List.take_of_length_le (by have:=HCS.out.2.1;omega),HCS.out.1,List.append_assoc,←parIts_eq]
     have hl9:d'.length=1+chkN n+n+j:=hF9.own.len
     have q1:=hF9.out.cell
     have H9:=Lib.hid (And.intro hF9.own (And.intro hF9.bel (And.intro hd9 HW.out.2.2.1)))
     clear hF9 hd9 hlt
     go_wp2_with fail
     have hW:Below w.heap.size V (V.putObj D (.deferred none)):=belowK_b (w:=w) (Nat.le_refl _) V D _ _ HDD.out H9.out.2.2.2 rfl rfl
     refine⟨by simp,.inl ⟨_,_,rfl,run_takeDeferred H9.out.2.2.2,?_⟩⟩
     refine⟨.slice A' (1+chkN n+n+j) c',by simp[results,Tryz.results49,go_sem],⟨A',c',d',by rw[hl9],?_,H9.out.2.2.1,H9.out.2.1.trans hW⟩⟩
     rw[hl9]
     exact H9.out.1.turn (row:=some D) (grownBy_putObj' V D _) (fun r e=>by cases e;exact⟨_,H9.out.2.2.2,rfl⟩)
  case stop=>
   rintro D c pre W _ _ h _
   exact h.elim
end Go.Proofs.YtpkeacnacjnlcaaGreat
