/- A plan that is read from items: the model; a plan's own items are read as it. Plain laws; record.point, merestonelaw14.point: the walks; slices.Chunk of a ring's points: the iterator's contract, for every loop body that keeps the ring. -/
import Derived.Deep.RegionLaw
import Derived.Test.YtpkeacnacjnlcaaGreatK02
import Derived.Test.YtpkeacnacjnlcaaGreatK04
import Derived.Test.YtpkeacnacjnlcaaGreatK14
import Derived.Test.YtpkeacnacjnlcaaGreatK18
import Derived.Test.YtpkeacnacjnlcaaGreatK23
namespace Go.Proofs.YtpkeacnacjnlcaaGreat
def ptOfB (v:List UInt8) (j:Nat):Pt:=⟨(numL ((v.drop (8*j)).take 4):Int)-1073741824,(numL ((v.drop (8*j+4)).take 4):Int)-1073741824⟩
/-- The points of a value. -/
def ptsB (v:List UInt8):List Pt:=(List.range (v.length/8)).map (ptOfB v)
theorem ptOf_good {q:Pt} (h:good q=true) (v:List UInt8):ptOfB (ptB q++v) 0=q:=by
 rw[good_iff]at h
 unfold ptOfB ptB
 have e1:((beB (q.x+1073741824).toNat 4++beB (q.y+1073741824).toNat 4++v).drop (8*0)).take 4=beB (q.x+1073741824).toNat 4:=by
  rw[List.append_assoc]
  exact List.take_left' (beB_length _ _)
 have e2:((beB (q.x+1073741824).toNat 4++beB (q.y+1073741824).toNat 4++v).drop (8*0+4)).take 4=beB (q.y+1073741824).toNat 4:=by
  rw[List.append_assoc,List.drop_left' (beB_length _ _)]
  exact List.take_left' (beB_length _ _)
 rw[e1,e2,numL_beB,numL_beB,Nat.mod_eq_of_lt (by omega),Nat.mod_eq_of_lt (by omega)]
 rcases q with ⟨a,b⟩
 simp only at h ⊢
 rw[show ((a+1073741824).toNat:Int)-1073741824=a by omega,show((b+1073741824).toNat:Int)-1073741824=b by omega]
theorem ptOf_next (q:Pt) (v:List UInt8) (j:Nat):ptOfB (ptB q++v) (j+1)=ptOfB v j:=by
 unfold ptOfB
 have e:∀k,(ptB q++v).drop (8+k)=v.drop k:=fun k=>by
  rw[←List.drop_drop,List.drop_left' (ptB_len q)]
 rw[show 8*(j+1)=8+8*j by omega,show 8+8*j+4=8+(8*j+4) by omega,e,e]
theorem ptsB_flat {l:List Pt} (h:∀q∈l,good q=true):ptsB (l.flatMap ptB)=l:=by
 induction l with
 |nil=>rfl
 |cons q l ih=>
  have hl:((q::l).flatMap ptB).length/8=(l.flatMap ptB).length/8+1:=by
   rw[List.flatMap_cons,List.length_append,ptB_len];omega
  unfold ptsB
  rw[hl,List.range_succ_eq_map,List.map_cons,List.map_map,List.flatMap_cons,ptOf_good (h q (List.mem_cons_self ..))]
  congr 1
  rw[show (ptOfB (ptB q++l.flatMap ptB)∘Nat.succ)=ptOfB (l.flatMap ptB) from funext fun j=>ptOf_next q _ j]
  exact ih fun z hz=>h z (List.mem_cons_of_mem _ hz)
/-- A part of a parcel more. -/
def pcMore (y:Parc) (c:UInt8) (v:List UInt8):Parc:=if c=0 then⟨y.id,y.ring,⟨v.toArray⟩⟩else⟨y.id,y.ring++ptsB v,y.owner⟩
def pcNew (ps:List Parc) (id:Int):List Parc:=if ps=[]∨(pcAt ps (ps.length-1)).id≠id then ps++[⟨id,[],ByteArray.empty⟩]else ps
def pcStep (ps:List Parc) (id:Int) (c:UInt8) (v:List UInt8):List Parc:=
 (pcNew ps id).set ((pcNew ps id).length-1) (pcMore (pcAt (pcNew ps id) ((pcNew ps id).length-1)) c v)
/-- What an item adds. -/
def opStep (p:Plan) (x:It):Plan:=
 if x.k.length=2∧x.k.getD 0 0=111 then⟨p.outer++ptsB x.v,p.parcels⟩
 else if x.k.length=6∧x.k.getD 0 0=112 then⟨p.outer,pcStep p.parcels (numL ((x.k.drop 1).take 4):Nat) (x.k.getD 5 0) x.v⟩
 else p
def readP (l:List It):Plan:=l.foldl opStep ⟨[],[]⟩
/-- The items that are read. -/
def parOP (x:Parc):List It:=⟨pcHead x.id++[0],x.owner.data.toList⟩::ringIts (pcHead x.id) x.ring 1
def planOP (p:Plan):List It:=ringIts [111] p.outer 0++p.parcels.flatMap parOP
theorem range_fold {α β:Type} (f:β→α→β) (g:Nat→α) (I:Nat→β):∀n:Nat,(∀k,k<n→f (I k) (g k)=I (k+1))→((List.range n).map g).foldl f (I 0)=I n
 |0,_=>rfl
 |n+1,h=>by
  rw[List.range_succ,List.map_append,List.foldl_append,range_fold f g I n fun k hk=>h k (by omega)]
  exact h n (by omega)
theorem chunk_pts {r:List Pt} (h:∀q∈r,good q=true) (k:Nat):r.take (16*k)++ptsB (chunkB r k)=r.take (16*(k+1)):=by
 unfold chunkB
 rw[ptsB_flat fun q hq=>h q (List.mem_of_mem_drop (List.mem_of_mem_take hq)),show 16*(k+1)=16*k+16 by omega,List.take_add]
theorem take_chkN (r:List Pt):r.take (16*chkN r.length)=r:=List.take_of_length_le (by unfold chkN;omega)
theorem op_outer {r:List Pt} (h:∀q∈r,good q=true) (ps:List Parc):(ringIts [111] r 0).foldl opStep ⟨[],ps⟩=⟨r,ps⟩:=by
 unfold ringIts
 rw[show (⟨[],ps⟩:Plan)=(fun k=>(⟨r.take (16*k),ps⟩:Plan)) 0 by simp,range_fold opStep _ (fun k=>⟨r.take (16*k),ps⟩)]
 ·rw[take_chkN]
 ·intro k _
  unfold opStep
  rw[if_pos ⟨rfl,rfl⟩]
  simp only
  rw[chunk_pts h]
theorem pcAt_last (ps:List Parc) (y:Parc):pcAt (ps++[y]) ps.length=y:=by unfold pcAt;simp
theorem set_last (ps:List Parc) (y z:Parc):(ps++[y]).set ps.length z=ps++[z]:=by
 rw[List.set_append_right _ _ (Nat.le_refl _)];simp
theorem id_of_head {id:Int} (hid:idB id=true) (c:UInt8):((numL (((pcHead id++[c]).drop 1).take 4):Nat):Int)=id:=by
 have:((pcHead id++[c]).drop 1).take 4=idBy id:=List.take_left' (idBy_len id)
 unfold idB at hid
 simp only[decide_eq_true_eq]at hid
 rw[this]
 unfold idBy
 rw[numL_beB,Nat.mod_eq_of_lt (by omega)]
 omega
theorem head_six (id:Int) (c:UInt8):(pcHead id++[c]).length=6∧(pcHead id++[c]).getD 0 0=112∧(pcHead id++[c]).getD 5 0=c:=by
 have h:=idBy_len id
 refine⟨by unfold pcHead;rw[List.length_append,List.length_cons,h];rfl,rfl,?_⟩
 unfold pcHead
 rw[List.getD_eq_getElem?_getD,List.getElem?_append_right (by rw[List.length_cons,h];exact Nat.le_refl _),List.length_cons,h]
 rfl
theorem opStep_pc {id:Int} (hid:idB id=true) (p:Plan) (c:UInt8) (v:List UInt8):opStep p ⟨pcHead id++[c],v⟩=⟨p.outer,pcStep p.parcels id c v⟩:=by
 obtain⟨h1,h2,h3⟩:=head_six id c
 unfold opStep
 simp only
 rw[if_neg (by rw[h1];simp),if_pos ⟨h1,h2⟩,id_of_head hid,h3]
theorem pcStep_new {ps:List Parc} {id:Int} {c:UInt8} {v:List UInt8} (h:ps=[]∨(pcAt ps (ps.length-1)).id≠id):pcStep ps id c v=ps++[pcMore ⟨id,[],ByteArray.empty⟩ c v]:=by
 have e:pcNew ps id=ps++[⟨id,[],ByteArray.empty⟩]:=by unfold pcNew;rw[if_pos h]
 unfold pcStep
 rw[e,List.length_append,List.length_singleton,Nat.add_sub_cancel,pcAt_last,set_last]
theorem pcStep_old {ps:List Parc} {y:Parc} {c:UInt8} {v:List UInt8}:pcStep (ps++[y]) y.id c v=ps++[pcMore y c v]:=by
 have e:pcNew (ps++[y]) y.id=ps++[y]:=by
  unfold pcNew
  rw[if_neg]
  rw[List.length_append,List.length_singleton,Nat.add_sub_cancel,pcAt_last]
  simp
 unfold pcStep
 rw[e,List.length_append,List.length_singleton,Nat.add_sub_cancel,pcAt_last,set_last]
theorem op_parc {x:Parc} (hid:idB x.id=true) (hg:∀q∈x.ring,good q=true) (hl:x.ring.length≤128) (o:List Pt) (ps:List Parc) (h:ps=[]∨(pcAt ps (ps.length-1)).id≠x.id):
 (parOP x).foldl opStep ⟨o,ps⟩=⟨o,ps++[x]⟩:=by
 unfold parOP ringIts
 rw[List.foldl_cons,opStep_pc hid]
 simp only
 rw[pcStep_new h]
 have e0:pcMore ⟨x.id,[],ByteArray.empty⟩ 0 x.owner.data.toList=⟨x.id,x.ring.take (16*0),x.owner⟩:=by
  unfold pcMore
  rw[if_pos rfl]
  rcases x with ⟨i,r,⟨⟨b⟩⟩⟩
  simp
 rw[e0,show(⟨o,ps++[⟨x.id,x.ring.take (16*0),x.owner⟩]⟩:Plan)=(fun k=>(⟨o,ps++[(⟨x.id,x.ring.take (16*k),x.owner⟩:Parc)]⟩:Plan)) 0 from rfl,range_fold opStep _ (fun k=>(⟨o,ps++[(⟨x.id,x.ring.take (16*k),x.owner⟩:Parc)]⟩:Plan))]
 ·rw[take_chkN]
 ·intro k hk
  have hc:=chkN_le (n:=x.ring.length) (m:=8) (by omega)
  rw[opStep_pc hid]
  simp only
  have:=pcStep_old (ps:=ps) (y:=⟨x.id,x.ring.take (16*k),x.owner⟩) (c:=UInt8.ofNat (1+k)) (v:=chunkB x.ring k)
  simp only at this
  rw[this]
  unfold pcMore
  rw[if_neg (fun e=>by have:=congrArg UInt8.toNat e;simp[UInt8.toNat_ofNat']at this;omega)]
  simp only
  rw[chunk_pts hg]
theorem op_parcs:∀ {ps qs:List Parc} (o:List Pt),(∀x∈qs,idB x.id=true∧(∀q∈x.ring,good q=true)∧x.ring.length≤128)→(ps++qs).Pairwise (fun x y=>x.id<y.id)→(qs.flatMap parOP).foldl opStep ⟨o,ps⟩=⟨o,ps++qs⟩
 |ps,[],o,_,_=>by simp
 |ps,x::qs,o,h,hp=>by
  obtain⟨h1,h2,h3⟩:=h x (List.mem_cons_self ..)
  rw[List.flatMap_cons,List.foldl_append,op_parc h1 h2 h3,op_parcs (ps:=ps++[x]) o (fun y hy=>h y (List.mem_cons_of_mem _ hy)) (by simpa using hp)]
  ·simp
  ·rcases Nat.eq_zero_or_pos ps.length with h0|h0
   ·exact .inl (List.eq_nil_of_length_eq_zero h0)
   ·right
    have hm:pcAt ps (ps.length-1)∈ps:=by rw[pcAt_lt (by omega)];exact List.getElem_mem _
    have:=(List.pairwise_append.1 hp).2.2 _ hm x (List.mem_cons_self ..)
    omega
/-- A plan's own items, in their order, are read as it. -/
theorem read_op {p:Plan} (ho:∀q∈p.outer,good q=true) (h:∀x∈p.parcels,idB x.id=true∧(∀q∈x.ring,good q=true)∧x.ring.length≤128) (hp:p.parcels.Pairwise (fun x y=>x.id<y.id)):readP (planOP p)=p:=by
 unfold readP planOP
 rw[List.foldl_append,op_outer ho,op_parcs (ps:=[]) p.outer h (by simpa using hp)]
 rfl
end Go.Proofs.YtpkeacnacjnlcaaGreat
namespace Go.Proofs.YtpkeacnacjnlcaaGreat
open Go.RowKit Go.Lib
theorem put_num4 (b:List UInt8) {v:Int} (h:0≤v∧v<4294967296):putN b v 4=b++beB v.toNat 4:=by
 unfold putN
 have e:(256:Nat)^(4:Int).toNat=4294967296:=by decide
 rw[if_neg (by omega)]
 rfl
theorem put_len4 (b:List UInt8) (v:Int) (h:0≤v∧v<4294967296):(putN b v 4).length=b.length+4:=by rw[put_num4 b h,List.length_append,beB_length]
theorem pt_put {b:List UInt8} {q:Pt} (h:good q=true):putN (putN b (q.x+1073741824) 4) (q.y+1073741824) 4=b++ptB q:=by
 rw[good_iff]at h
 rw[put_num4 b (by omega),put_num4 _ (by omega),List.append_assoc]
 rfl
theorem hldPt {W V V':World} {a0 a1:Addr} {v0 v1:Value} (hh:a0.block<W.heap.size∧a1.block<W.heap.size) (hs:V.cell? a0=some v0∧V.cell? a1=some v1∧Below W.heap.size W V) (hb:Below V.heap.size V V'):
 V'.cell? a0=some v0∧V'.cell? a1=some v1∧Below W.heap.size W V':=by
 obtain⟨h0,h1⟩:=hh
 obtain⟨c0,c1,cb⟩:=hs
 have:=cb.size
 have k:∀ {a:Addr} {v:Value},a.block<W.heap.size→V.cell? a=some v→V'.cell? a=some v:=fun {a v} ha hv=>(hb.cell (p:=a) (by omega)).trans hv
 exact⟨k h0 c0,k h1 c1,below_on cb (Nat.le_refl _) hb⟩
set_option maxRecDepth 100000 in
theorem point_any (b:List UInt8) (A:Option Addr) (n cap:Nat) (q:Pt) (hq:good q=true) (w:World) (hr:Reads w w.heap.size 1 A n (u8s b)) (hn:n≤140737488350000):
 Calls Tryz.prog 96 #[.slice A n cap,ptV q] w (Own8 (b++ptB q) w):=by
 have hl:=hr.len8
 have hg:=(good_iff q).1 hq
 obtain⟨W,hW⟩:∃W,W=w.alloc (.cells #[.int .i64 q.x,.int .i64 q.y] 23):=⟨_,rfl⟩
 have hba:Below w.heap.size w W:=by rw[hW];exact(Below.refl _ _).alloc (Nat.le_refl _) _
 have hk:HasPt W w.heap.size q:=by rw[hW];exact HasPt.new w q 23
 have e0:IntKind.i64.wrap (q.x+1073741824)=q.x+1073741824:=by rw[IntKind.wrap_i64];omega
 have e1:IntKind.i64.wrap (q.y+1073741824)=q.y+1073741824:=by rw[IntKind.wrap_i64];omega
 have HR:Hid (Reads W.drew W.heap.size 1 A n (u8s b)):=(hr.on hba).drew
 have HQ:=Lib.hid hq
 have HG:=Lib.hid (And.intro (show q.x+1073741824≤9223372036854775807 by omega) (And.intro (show q.y+1073741824≤9223372036854775807 by omega) (show (putN b (q.x+1073741824) 4).length≤140737488354000 by rw[put_len4 b _ (by omega)];omega)))
 have HB:=Lib.hid hba
 obtain⟨k0,k1,k2⟩:=hk
 have hh:(⟨w.heap.size,0,none⟩:Addr).block<W.heap.size∧(⟨w.heap.size,1,none⟩:Addr).block<W.heap.size:=⟨k2,k2⟩
 have hP0:W.drew.cell? ⟨w.heap.size,0,none⟩=some (.int .i64 q.x)∧W.drew.cell? ⟨w.heap.size,1,none⟩=some (.int .i64 q.y)∧Below W.heap.size W W.drew:=⟨k0,k1,(Below.refl _ _).drew⟩
 have hbd:Below W.heap.size W W.drew:=(Below.refl _ _).drew
 clear hg hba hr hl hq k0 k1 k2
 unfold ptV
 go_enter Tryz.func96,Tryz.ntmps96
 go_upto_region 1 with fail
 rw[←hW]
 clear hW
 refine wp_region_held_drew (S:=fun V=>V.cell? ⟨w.heap.size,0,none⟩=some (.int .i64 q.x)∧V.cell? ⟨w.heap.size,1,none⟩=some (.int .i64 q.y)∧Below W.heap.size W V) (by kernel_rfl) ?_ (fun hHeld=>?_)
 ·exact hP0
 refine tk 0 ?_
 refine tk 1 ?_
 refine tk 2 ?_
 refine tk 3 ?_
 refine tk 5 ?_
 refine tk 6 ?_
 refine tk 7 ?_
 refine rd1 4 fun K hK=>?_
 go_simp
 go_at_call 97
 (with_reducible refine(putNum_any b A n cap (q.x+1073741824) 4 _ HR.out (by omega) HG.out.1).mono ?_)
 rintro e w1 ⟨A1,c1,rfl,ho1,hb1⟩
 have hB1:=hbd.trans hb1
 try dsimp only
 refine hK.out _ _ (hldPt hh hP0 hb1) fun hHeld=>?_
 clear hK K
 try simp only[Act.put,sb0,sc0,sc1]
 refine rd1 8 fun K hK=>?_
 go_simp
 go_at_call 97
 (with_reducible refine(putNum_any _ A1 _ c1 (q.y+1073741824) 4 _ (Reads.of_own ho1) HG.out.2.2 HG.out.2.1).mono ?_)
 rintro e w2 ⟨A2,c2,rfl,ho2,hb2⟩
 have hB2:=below_on hB1 (Nat.le_refl _) hb2
 rw[pt_put HQ.out]at *
 try dsimp only
 refine hK.out _ _ (hldPt hh hHeld hb2) fun hHeld=>?_
 clear hK K
 try simp only[Act.put,sb0,sc0,sc1]
 refine tk 9 ?_
 refine wpAnyH_done (by kernel_rfl) ?_ _
 go_wp2_with fail
 go_ret
 have hs:=HB.out.size
 exact⟨A2,c2,by first|rfl|simp,own_mono ho2 (Nat.le_trans hs hB1.size),below_on HB.out (Nat.le_refl _) hB2⟩
end Go.Proofs.YtpkeacnacjnlcaaGreat
namespace Go.Proofs.YtpkeacnacjnlcaaGreat
open Go.RowKit Go.Shelf
attribute [local go_sem] Oper.semAt_some
/-- What the iterator asks of a round that goes on: all below B is as it was, and so are the two blocks of its own. -/
def KeepC (B Bs:Nat) (W W':World):Prop:=W.heap.size≤W'.heap.size∧∀i,i<B∨i=Bs∨i=Bs+1→W'.heap[i]?=W.heap[i]?
theorem KeepC.refl (B Bs:Nat) (W:World):KeepC B Bs W W:=⟨Nat.le_refl _,fun _ _=>rfl⟩
theorem KeepC.trans {B Bs:Nat} {W W' W'':World} (h:KeepC B Bs W W') (k:KeepC B Bs W' W''):KeepC B Bs W W'':=⟨Nat.le_trans h.1 k.1,fun i hi=>(k.2 i hi).trans (h.2 i hi)⟩
theorem KeepC.cell {B Bs:Nat} {W W':World} (h:KeepC B Bs W W') {p:Addr} (hp:p.block<B∨p.block=Bs∨p.block=Bs+1):W'.cell? p=W.cell? p:=World.cell?_of_block (h.2 p.block hp)
theorem KeepC.alloc {B Bs:Nat} {W:World} (hB:B≤W.heap.size) (hs:Bs+1<W.heap.size) (o:Obj):KeepC B Bs W (W.alloc o):=⟨by simp,fun i hi=>Below.heap_alloc W o i (by omega)⟩
theorem KeepC.drew {B Bs:Nat} {W W':World} (h:KeepC B Bs W W'):KeepC B Bs W W'.drew:=h
theorem KeepC.below {B Bs:Nat} {W W':World} (hb:Below W.heap.size W W') (hB:B≤W.heap.size) (hs:Bs+1<W.heap.size):KeepC B Bs W W':=⟨hb.size,fun i hi=>hb.block i (by omega)⟩
def chkM (len k:Nat):Nat:=min 16 (len-16*k)
def chkAt (ad:Addr) (len k:Nat):Array Value:=#[.slice (some (ad.add (16*k*2))) (chkM len k) (chkM len k)]
set_option maxRecDepth 100000 in
set_option maxHeartbeats 3200000 in
theorem chunk1_in (n:Nat) (hn:1≤n) (l B Bs cap:Nat) (ad:Addr) (len:Nat) (hlen:len≤1048576) (hcap:len≤cap) (hc2:cap≤9223372036854775807) (J Jx:List Nat→World→Prop)
 (W:World) (hJ:AbidesFrom W.heap.size J)
 (hY:∀x W1,x<chkN len→J (List.range x) W1→YieldAt Fence.wide (n-1) Tryz.prog l (chkAt ad len x) W1 fun e W'=>
   (e= .returned (.bool true)∧J (List.range x++[x]) W'∧KeepC B Bs W1 W')∨(e= .returned (.bool false)∧Jx (List.range x++[x]) W'))
 (hBs:W.cell? ⟨Bs,0,none⟩=some (.slice (some ad) len cap)) (hBn:W.cell? ⟨Bs+1,0,none⟩=some (.int .i64 16)) (h0:J [] W):
 CallsIn Fence.wide n Tryz.prog 152 #[.func (.yield l) #[] #[],.pointer (some ⟨Bs,0,none⟩),.pointer (some ⟨Bs+1,0,none⟩)] W fun e W'=>(∃v,e= .returned v)∧
  ((∃ys,ys=List.range (chkN len)∧J ys W')∨(∃pre,(∃k,k≤chkN len∧pre=List.range k)∧Jx pre W')):=by
 refine callsIn_of_wp Tryz.func152 rfl trivial ?_ rfl
 simp only[Tryz.ntmps152,List.size_toArray,List.length_cons,List.length_nil,Nat.reduceAdd,Nat.reduceSub,Array.replicate_succ,Array.replicate_zero,List.push_toArray,List.append_toArray,List.nil_append,List.cons_append]
 gi_wp2
 gi_loopw [4] (fun i wr=>∃k:Nat,k≤chkN len∧i= .int .i64 ((16*k:Nat):Int)∧J (List.range k) wr∧KeepC B Bs W wr) (fun i _=>2097152-(intOf i).toNat)
 case atStart=>exact⟨0,Nat.zero_le _,rfl,h0,KeepC.refl _ _ _⟩
 case round=>
  obtain⟨k,hk,rfl,hJs,hkp⟩:=hrel
  have hsz:=hkp.1
  have hb1:wr.cell? ⟨Bs,0,none⟩=some (.slice (some ad) len cap):=(hkp.cell (.inr (.inl rfl))).trans hBs
  have hb2:wr.cell? ⟨Bs+1,0,none⟩=some (.int .i64 16):=(hkp.cell (.inr (.inr rfl))).trans hBn
  obtain⟨i,hi⟩:∃i,i=16*k:=⟨_,rfl⟩
  rw[←hi]
  by_cases hlt:i<len
  ·have hkn:k<chkN len:=by unfold chkN;omega
   have hli:(i:Int)<(len:Int):=by omega
   obtain⟨m,hm⟩:∃m,m=chkM len k:=⟨_,rfl⟩
   have hY2:=hY k wr.drew hkn (hJ _ _ _ none hJs (only_drew (World.grownBy.refl wr none)) (fun r e=>by cases e))
   have hchk:chkAt ad len k=#[.slice (some (ad.add (i*2))) m m]:=by unfold chkAt;rw[←hi,←hm]
   have hmn:m≤16∧i+m≤len∧1≤m∧((m:Int)=16∨i+m=len):=by unfold chkM at hm;omega
   have hmin:min (16:Int) ((len-i:Nat):Int)=(m:Int):=by unfold chkM at hm;omega
   have hic:i≤len:=by omega
   have hcn:¬cap=i:=by omega
   rw[hchk]at hY2
   have HI:=Lib.hid (And.intro hi (And.intro hm hchk))
   have HY:=Lib.hid hY2
   have HK:=Lib.hid hkp
   clear hi hm hchk hY2 hY hJ
   gi_wp2
   refine wpIn_wide.2 ?_
   refine wp_region_held_drew (S:=fun V=>V.cell? ⟨Bs,0,none⟩=some (.slice (some ad) len cap)∧V.cell? ⟨Bs+1,0,none⟩=some (.int .i64 16)) (by kernel_rfl) ?_ (fun hHeld=>?_)
   ·exact⟨hb1,hb2⟩
   refine tk 0 ?_
   refine tk 1 ?_
   refine tk 2 ?_
   refine tk 3 ?_
   refine tk 4 ?_
   refine tk 5 ?_
   refine tk 6 ?_
   refine wpAnyH_done (by kernel_rfl) ?_ _
   have hb1:=hHeld.1
   have hb2:=hHeld.2
   obtain⟨fn,tmps,assign,body,hy,hR⟩:=HY.out
   have hR2:RoundIn Fence.wide (n-1) Tryz.prog l fn tmps assign body wr.drew (fun e W'=>∃bb,e= .returned (.bool bb)∧Hid ((bb=true∧J (List.range k++[k]) W'∧KeepC B Bs wr W')∨(bb=false∧Jx (List.range k++[k]) W'))):=by
    refine hR.mono ?_
    rintro e W' (⟨h1,h2,h3⟩|⟨h1,h2⟩)
    ·exact⟨true,h1,.inl ⟨rfl,h2,h3⟩⟩
    ·exact⟨false,h1,.inr ⟨rfl,h2⟩⟩
   have hw4:IntKind.i64.wrap ((i:Int)+(m:Int))=((i+m:Nat):Int):=by rw[IntKind.wrap_i64];omega
   have him:i≤i+m:=by omega
   have himc:i+m≤cap:=by omega
   have hne:¬i+m=i:=by omega
   have hsb:i+m-i=m:=by omega
   clear hR hkp hJs hHeld
   gi_wp2
   refine hR2.mono ?_
   rintro e W3 ⟨bb,rfl,hres⟩
   clear hR2 hy HY hb1 hb2
   rcases bb with _|_
   ·gi_wp2
    refine bodyPost_ret (results_none rfl _ _ _) rfl ?_
    rcases hres.out with ⟨h1,_⟩|⟨_,h2⟩
    ·cases h1
    ·exact⟨⟨_,rfl⟩,.inr ⟨_,⟨k+1,by omega,List.range_succ.symm⟩,h2⟩⟩
   ·have h3:J (List.range k++[k]) W3∧KeepC B Bs wr W3:=by
     rcases hres.out with ⟨_,h1,h2⟩|⟨h1,_⟩
     ·exact⟨h1,h2⟩
     ·cases h1
    have H3:=Lib.hid (And.intro h3.1 (HK.out.trans h3.2))
    have hb2:W3.cell? ⟨Bs+1,0,none⟩=some (.int .i64 16):=(H3.out.2.cell (.inr (.inr rfl))).trans hBn
    have hw5:IntKind.i64.wrap ((i:Int)+16)=((16*(k+1):Nat):Int):=by rw[IntKind.wrap_i64];have:=HI.out.1;omega
    clear h3 hres
    gi_wp2
    go_roundw
    case rel=>exact⟨k+1,by omega,rfl,by rw[List.range_succ];exact H3.out.1,H3.out.2⟩
    case measure=>simp[intOf];have:=HI.out.1;omega
  ·have hkn:k=chkN len:=by unfold chkN at *;omega
   have hli:¬(i:Int)<(len:Int):=by omega
   subst hkn
   gi_wp2
   go_end0
   exact⟨⟨_,rfl⟩,.inl (by first|exact⟨_,rfl,hJs⟩|exact hJs)⟩
theorem chunk_any (A:Option Addr) (len cap:Nat) (w:World):
 Calls Tryz.prog 95 #[.slice A len cap,.int .i64 16] w fun e w'=>e= .returned (.func (.func 152) #[] #[.pointer (some ⟨w.heap.size,0,none⟩),.pointer (some ⟨w.heap.size+1,0,none⟩)])∧w'=(w.alloc (.cells #[.slice A len cap] 25)).alloc (.cells #[.int .i64 16] 3):=by
 go_enter Tryz.func95,Tryz.ntmps95
 go_wp2
 go_ret
 exact⟨by first|rfl|simp,rfl⟩
theorem chunk_stops (n:Nat) (hn:1≤n) (B Bs cap len:Nat) (ad:Addr) (hlen:len≤1048576) (hcap:len≤cap) (hc2:cap≤9223372036854775807) (w:World) (hs:Bs+1<w.heap.size) (hc:w.cell? ⟨Bs,0,none⟩=some (.slice (some ad) len cap)) (hc':w.cell? ⟨Bs+1,0,none⟩=some (.int .i64 16)):
 SeqStopsK Fence.wide n Tryz.prog 152 #[.pointer (some ⟨Bs,0,none⟩),.pointer (some ⟨Bs+1,0,none⟩)] (chkAt ad len) (KeepC B Bs) (fun ys=>ys=List.range (chkN len)) (fun pre=>∃k,k≤chkN len∧pre=List.range k) (chkN len) w:=fun l J Jx W hW hJ _ hY h0=>
 chunk1_in n hn l B Bs cap ad len hlen hcap hc2 J Jx W hJ (fun x W1 hx hj=>hY _ x W1 hj (by simpa using hx)) ((hW.cell (p:=⟨Bs,0,none⟩) (by simp only;omega)).trans hc) ((hW.cell (p:=⟨Bs+1,0,none⟩) hs).trans hc') h0
end Go.Proofs.YtpkeacnacjnlcaaGreat
