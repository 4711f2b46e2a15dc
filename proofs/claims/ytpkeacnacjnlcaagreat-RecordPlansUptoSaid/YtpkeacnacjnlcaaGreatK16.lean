/- A plan that is read from items: the model; a plan's own items are read as it. Plain laws; ref05.Check: the walk. -/
import Derived.Deep.DeepCutAuto
import Derived.Test.YtpkeacnacjnlcaaGreatK03
import Derived.Test.YtpkeacnacjnlcaaGreatK11
import Derived.Test.YtpkeacnacjnlcaaGreatK15
namespace Go.Proofs.YtpkeacnacjnlcaaGreat
def ptOfB (v:List UInt8) (j:Nat):Pt:=⟨(numL ((v.drop (8*j)).take 4):Int)-1073741824,(numL ((v.drop (8*j+4)).take 4):Int)-1073741824⟩
/-- The points of a value. -/
def ptsB (v:List UInt8):List Pt:=(List.range (v.length/8)).map (ptOfB v)
theorem ptOf_good {q:Pt} (h:good q=true) (v:List UInt8):ptOfB (ptB q++v) 0=q:=by
 rw[good_iff]at h
 unfold ptOfB ptB
 have e1:((beB (q.x+1073741824).toNat 4++beB (q.y+1073741824).toNat 4++v).drop (8*0)).take 4=beB (q.x+1073741824).toNat 4:=by
  rw[List.append_assoc]
  exact List.take_left' (beB_length _ _)
 have e2:((beB (q.x+1073741824).toNat 4++beB (q.y+1073741824).toNat 4++v).drop (8*0+4)).take 4=beB (q.y+1073741824).toNat 4:=by
  rw[List.append_assoc,List.drop_left' (beB_length _ _)]
  exact List.take_left' (beB_length _ _)
 rw[e1,e2,numL_beB,numL_beB,Nat.mod_eq_of_lt (by omega),Nat.mod_eq_of_lt (by omega)]
 rcases q with ⟨a,b⟩
 simp only at h ⊢
 rw[show ((a+1073741824).toNat:Int)-1073741824=a by omega,show((b+1073741824).toNat:Int)-1073741824=b by omega]
theorem ptOf_next (q:Pt) (v:List UInt8) (j:Nat):ptOfB (ptB q++v) (j+1)=ptOfB v j:=by
 unfold ptOfB
 have e:∀k,(ptB q++v).drop (8+k)=v.drop k:=fun k=>by
  rw[←List.drop_drop,List.drop_left' (ptB_len q)]
 rw[show 8*(j+1)=8+8*j by omega,show 8+8*j+4=8+(8*j+4) by omega,e,e]
theorem ptsB_flat {l:List Pt} (h:∀q∈l,good q=true):ptsB (l.flatMap ptB)=l:=by
 induction l with
 |nil=>rfl
 |cons q l ih=>
  have hl:((q::l).flatMap ptB).length/8=(l.flatMap ptB).length/8+1:=by
   rw[List.flatMap_cons,List.length_append,ptB_len];omega
  unfold ptsB
  rw[hl,List.range_succ_eq_map,List.map_cons,List.map_map,List.flatMap_cons,ptOf_good (h q (List.mem_cons_self ..))]
  congr 1
  rw[show (ptOfB (ptB q++l.flatMap ptB)∘Nat.succ)=ptOfB (l.flatMap ptB) from funext fun j=>ptOf_next q _ j]
  exact ih fun z hz=>h z (List.mem_cons_of_mem _ hz)
/-- A part of a parcel more. -/
def pcMore (y:Parc) (c:UInt8) (v:List UInt8):Parc:=if c=0 then⟨y.id,y.ring,⟨v.toArray⟩⟩else⟨y.id,y.ring++ptsB v,y.owner⟩
def pcNew (ps:List Parc) (id:Int):List Parc:=if ps=[]∨(pcAt ps (ps.length-1)).id≠id then ps++[⟨id,[],ByteArray.empty⟩]else ps
def pcStep (ps:List Parc) (id:Int) (c:UInt8) (v:List UInt8):List Parc:=
 (pcNew ps id).set ((pcNew ps id).length-1) (pcMore (pcAt (pcNew ps id) ((pcNew ps id).length-1)) c v)
/-- What an item adds. -/
def opStep (p:Plan) (x:It):Plan:=
 if x.k.length=2∧x.k.getD 0 0=111 then⟨p.outer++ptsB x.v,p.parcels⟩
 else if x.k.length=6∧x.k.getD 0 0=112 then⟨p.outer,pcStep p.parcels (numL ((x.k.drop 1).take 4):Nat) (x.k.getD 5 0) x.v⟩
 else p
def readP (l:List It):Plan:=l.foldl opStep ⟨[],[]⟩
/-- The items that are read. -/
def parOP (x:Parc):List It:=⟨pcHead x.id++[0],x.owner.data.toList⟩::ringIts (pcHead x.id) x.ring 1
def planOP (p:Plan):List It:=ringIts [111] p.outer 0++p.parcels.flatMap parOP
theorem range_fold {α β:Type} (f:β→α→β) (g:Nat→α) (I:Nat→β):∀n:Nat,(∀k,k<n→f (I k) (g k)=I (k+1))→((List.range n).map g).foldl f (I 0)=I n
 |0,_=>rfl
 |n+1,h=>by
  rw[List.range_succ,List.map_append,List.foldl_append,range_fold f g I n fun k hk=>h k (by omega)]
  exact h n (by omega)
theorem chunk_pts {r:List Pt} (h:∀q∈r,good q=true) (k:Nat):r.take (16*k)++ptsB (chunkB r k)=r.take (16*(k+1)):=by
 unfold chunkB
 rw[ptsB_flat fun q hq=>h q (List.mem_of_mem_drop (List.mem_of_mem_take hq)),show 16*(k+1)=16*k+16 by omega,List.take_add]
theorem take_chkN (r:List Pt):r.take (16*chkN r.length)=r:=List.take_of_length_le (by unfold chkN;omega)
theorem op_outer {r:List Pt} (h:∀q∈r,good q=true) (ps:List Parc):(ringIts [111] r 0).foldl opStep ⟨[],ps⟩=⟨r,ps⟩:=by
 unfold ringIts
 rw[show (⟨[],ps⟩:Plan)=(fun k=>(⟨r.take (16*k),ps⟩:Plan)) 0 by simp,range_fold opStep _ (fun k=>⟨r.take (16*k),ps⟩)]
 ·rw[take_chkN]
 ·intro k _
  unfold opStep
  rw[if_pos ⟨rfl,rfl⟩]
  simp only
  rw[chunk_pts h]
theorem pcAt_last (ps:List Parc) (y:Parc):pcAt (ps++[y]) ps.length=y:=by unfold pcAt;simp
theorem set_last (ps:List Parc) (y z:Parc):(ps++[y]).set ps.length z=ps++[z]:=by
 rw[List.set_append_right _ _ (Nat.le_refl _)];simp
theorem id_of_head {id:Int} (hid:idB id=true) (c:UInt8):((numL (((pcHead id++[c]).drop 1).take 4):Nat):Int)=id:=by
 have:((pcHead id++[c]).drop 1).take 4=idBy id:=List.take_left' (idBy_len id)
 unfold idB at hid
 simp only[decide_eq_true_eq]at hid
 rw[this]
 unfold idBy
 rw[numL_beB,Nat.mod_eq_of_lt (by omega)]
 omega
theorem head_six (id:Int) (c:UInt8):(pcHead id++[c]).length=6∧(pcHead id++[c]).getD 0 0=112∧(pcHead id++[c]).getD 5 0=c:=by
 have h:=idBy_len id
 refine⟨by unfold pcHead;rw[List.length_append,List.length_cons,h];rfl,rfl,?_⟩
 unfold pcHead
 rw[List.getD_eq_getElem?_getD,List.getElem?_append_right (by rw[List.length_cons,h];exact Nat.le_refl _),List.length_cons,h]
 rfl
theorem opStep_pc {id:Int} (hid:idB id=true) (p:Plan) (c:UInt8) (v:List UInt8):opStep p ⟨pcHead id++[c],v⟩=⟨p.outer,pcStep p.parcels id c v⟩:=by
 obtain⟨h1,h2,h3⟩:=head_six id c
 unfold opStep
 simp only
 rw[if_neg (by rw[h1];simp),if_pos ⟨h1,h2⟩,id_of_head hid,h3]
theorem pcStep_new {ps:List Parc} {id:Int} {c:UInt8} {v:List UInt8} (h:ps=[]∨(pcAt ps (ps.length-1)).id≠id):pcStep ps id c v=ps++[pcMore ⟨id,[],ByteArray.empty⟩ c v]:=by
 have e:pcNew ps id=ps++[⟨id,[],ByteArray.empty⟩]:=by unfold pcNew;rw[if_pos h]
 unfold pcStep
 rw[e,List.length_append,List.length_singleton,Nat.add_sub_cancel,pcAt_last,set_last]
theorem pcStep_old {ps:List Parc} {y:Parc} {c:UInt8} {v:List UInt8}:pcStep (ps++[y]) y.id c v=ps++[pcMore y c v]:=by
 have e:pcNew (ps++[y]) y.id=ps++[y]:=by
  unfold pcNew
  rw[if_neg]
  rw[List.length_append,List.length_singleton,Nat.add_sub_cancel,pcAt_last]
  simp
 unfold pcStep
 rw[e,List.length_append,List.length_singleton,Nat.add_sub_cancel,pcAt_last,set_last]
theorem op_parc {x:Parc} (hid:idB x.id=true) (hg:∀q∈x.ring,good q=true) (hl:x.ring.length≤128) (o:List Pt) (ps:List Parc) (h:ps=[]∨(pcAt ps (ps.length-1)).id≠x.id):
 (parOP x).foldl opStep ⟨o,ps⟩=⟨o,ps++[x]⟩:=by
 unfold parOP ringIts
 rw[List.foldl_cons,opStep_pc hid]
 simp only
 rw[pcStep_new h]
 have e0:pcMore ⟨x.id,[],ByteArray.empty⟩ 0 x.owner.data.toList=⟨x.id,x.ring.take (16*0),x.owner⟩:=by
  unfold pcMore
  rw[if_pos rfl]
  rcases x with ⟨i,r,⟨⟨b⟩⟩⟩
  simp
 rw[e0,show(⟨o,ps++[⟨x.id,x.ring.take (16*0),x.owner⟩]⟩:Plan)=(fun k=>(⟨o,ps++[(⟨x.id,x.ring.take (16*k),x.owner⟩:Parc)]⟩:Plan)) 0 from rfl,range_fold opStep _ (fun k=>(⟨o,ps++[(⟨x.id,x.ring.take (16*k),x.owner⟩:Parc)]⟩:Plan))]
 ·rw[take_chkN]
 ·intro k hk
  have hc:=chkN_le (n:=x.ring.length) (m:=8) (by omega)
  rw[opStep_pc hid]
  simp only
  have:=pcStep_old (ps:=ps) (y:=⟨x.id,x.ring.take (16*k),x.owner⟩) (c:=UInt8.ofNat (1+k)) (v:=chunkB x.ring k)
  simp only at this
  rw[this]
  unfold pcMore
  rw[if_neg (fun e=>by have:=congrArg UInt8.toNat e;simp[UInt8.toNat_ofNat']at this;omega)]
  simp only
  rw[chunk_pts hg]
theorem op_parcs:∀ {ps qs:List Parc} (o:List Pt),(∀x∈qs,idB x.id=true∧(∀q∈x.ring,good q=true)∧x.ring.length≤128)→(ps++qs).Pairwise (fun x y=>x.id<y.id)→(qs.flatMap parOP).foldl opStep ⟨o,ps⟩=⟨o,ps++qs⟩
 |ps,[],o,_,_=>by simp
 |ps,x::qs,o,h,hp=>by
  obtain⟨h1,h2,h3⟩:=h x (List.mem_cons_self ..)
  rw[List.flatMap_cons,List.foldl_append,op_parc h1 h2 h3,op_parcs (ps:=ps++[x]) o (fun y hy=>h y (List.mem_cons_of_mem _ hy)) (by simpa using hp)]
  ·simp
  ·rcases Nat.eq_zero_or_pos ps.length with h0|h0
   ·exact .inl (List.eq_nil_of_length_eq_zero h0)
   ·right
    have hm:pcAt ps (ps.length-1)∈ps:=by rw[pcAt_lt (by omega)];exact List.getElem_mem _
    have:=(List.pairwise_append.1 hp).2.2 _ hm x (List.mem_cons_self ..)
    omega
/-- A plan's own items, in their order, are read as it. -/
theorem read_op {p:Plan} (ho:∀q∈p.outer,good q=true) (h:∀x∈p.parcels,idB x.id=true∧(∀q∈x.ring,good q=true)∧x.ring.length≤128) (hp:p.parcels.Pairwise (fun x y=>x.id<y.id)):readP (planOP p)=p:=by
 unfold readP planOP
 rw[List.foldl_append,op_outer ho,op_parcs (ps:=[]) p.outer h (by simpa using hp)]
 rfl
end Go.Proofs.YtpkeacnacjnlcaaGreat
namespace Go.Proofs.YtpkeacnacjnlcaaGreat
open Go.RowKit Go.Lib
theorem planB_no {p:Plan} (h:¬SoundP p):planB p=false:=by unfold planB;simp[h]
theorem planB_ok {p:Plan} (h:SoundP p):planB p=true:=by unfold planB;simp[h]
def sumK (p:Plan) (k:Nat):Int:=sumL ((p.parcels.take k).map fun x=>areaZ x.ring)
theorem sumK_next {p:Plan} {k:Nat} (h:k<p.parcels.length):sumK p (k+1)=sumK p k+areaZ (pcAt p.parcels k).ring:=by
 unfold sumK
 have:=sumL_take (p.parcels.map fun x=>areaZ x.ring) k (by simpa using h)
 rw[List.map_take,List.map_take,this,List.getElem_map,pcAt_lt h]
theorem sumK_bd {p:Plan} {k:Nat} (hk:k≤64) (h:∀j,j<k→areaE (pcAt p.parcels j).ring=0) (hl:k≤p.parcels.length): -1180591620717411303424*(k:Int)≤sumK p k∧sumK p k≤1180591620717411303424*(k:Int):=by
 induction k with
 |zero=>simp[sumK,sumL]
 |succ k ih=>
  rw[sumK_next (by omega)]
  have h1:=ih (by omega) (fun j hj=>h j (by omega)) (by omega)
  have h2:=areaZ_bd (h k (by omega))
  omega
theorem sumK_all (p:Plan):sumK p p.parcels.length=areasL p.parcels:=by unfold sumK areasL;rw[List.take_length]
theorem norm_area {xs:List Pt} (h:NormedP xs):areaE xs=0:=by
 apply Classical.byContradiction
 intro h'
 exact h' (by rw[←checkI_err h'];exact h.1)
def RowOK (l b:List Ed) (k:Nat):Prop:=∀i,i<k→(∀j,j<i→edAt l j≠edAt l i)∧((edAt l i).back∈l↔edAt l i∉b)∧∀j,i<j→j<l.length→okR (edAt l i) (edAt l j)=true
def ColOK (l:List Ed) (i t:Nat):Prop:=∀j,i<j→j<t→okR (edAt l i) (edAt l j)=true
theorem rows_iff {l b:List Ed}:RowOK l b l.length↔l.Nodup∧(∀e∈l,(e.back∈l↔e∉b))∧PairsE l:=by
 constructor
 ·intro h
  refine⟨?_,?_,?_⟩
  ·refine List.pairwise_iff_getElem.2 fun i j hi hj hij=>?_
   have:=(h j hj).1 i hij
   rw[edAt_lt hi,edAt_lt hj]at this
   exact this
  ·intro e he
   obtain⟨i,hi,rfl⟩:=List.getElem_of_mem he
   have:=(h i hi).2.1
   rw[edAt_lt hi]at this
   exact this
  ·intro i j hi hj hij
   have:=(h i hi).2.2 j hij hj
   rw[edAt_lt hi,edAt_lt hj]at this
   exact this
 ·rintro⟨h1,h2,h3⟩ i hi
  refine⟨fun j hj=>?_,?_,fun j hij hj=>?_⟩
  ·rw[edAt_lt hi,edAt_lt (by omega:j<l.length)]
   exact List.pairwise_iff_getElem.1 h1 j i (by omega) hi hj
  ·rw[edAt_lt hi]
   exact h2 _ (List.getElem_mem hi)
  ·rw[edAt_lt hi,edAt_lt hj]
   exact h3 i j hi hj hij
theorem sound_rows {p:Plan} (h1:listedB p=true) (h2:NormedP p.outer) (h3:∀x∈p.parcels,NormedP x.ring) (h4:areasL p.parcels=areaZ p.outer):
 SoundP p↔RowOK (allE p.parcels) (edgesOf p.outer) (allE p.parcels).length∧∀e∈edgesOf p.outer,e∈allE p.parcels:=by
 rw[rows_iff]
 constructor
 ·rintro⟨-,-,-,⟨g1,g2,g3⟩,g4,-⟩
  exact⟨⟨g1,g3,g4⟩,g2⟩
 ·rintro⟨⟨g1,g3,g4⟩,g2⟩
  exact⟨h1,h2,h3,⟨g1,g2,g3⟩,g4,h4⟩
theorem place2 (l:List Ed) (e:Ed) (A:Option Addr) (n cap:Nat) (w:World) (hr:Reads w w.heap.size 4 A n (edsV l)) (hn:n≤8796093022208):
 Calls Tryz.prog 37 #[.slice A n cap,.agg #[.int .i64 e.a.x,.int .i64 e.a.y,.int .i64 e.b.x,.int .i64 e.b.y]] w fun r w'=>∃i:Int,r= .returned (.int .i64 i)∧((0≤i↔e∈l)∧∀k:Nat,k<n→edAt l k=e→(i=(k:Int)↔∀j,j<k→edAt l j≠e))∧Below w.heap.size w w':=by
 have hl:=hr.lenEd
 refine(placeR_any l e A n cap w hr hn).mono ?_
 rintro r w' ⟨i,rfl,h,hb⟩
 refine⟨i,rfl,?_,hb⟩
 rcases h with ⟨rfl,h⟩|⟨k,hk,rfl,h1,h2⟩
 ·refine⟨⟨fun h'=>by omega,fun h'=>absurd h' h⟩,fun k hk he=>?_⟩
  exact absurd (by rw[←he,edAt_lt (by omega)];exact List.getElem_mem _) h
 ·refine⟨⟨fun _=>by rw[←h1,edAt_lt (by omega)];exact List.getElem_mem _,fun _=>by omega⟩,fun m hm he=>?_⟩
  constructor
  ·intro h3
   have:k=m:=by omega
   subst this
   exact h2
  ·intro h3
   rcases Nat.lt_trichotomy k m with h4|h4|h4
   ·exact absurd h1 (h3 k h4)
   ·rw[h4]
   ·exact absurd he (h2 m h4)
set_option maxRecDepth 100000 in
set_option maxHeartbeats 6400000 in
theorem checkPR_any (p:Plan) (A A':Option Addr) (n c n' c':Nat) (w:World) (h:PlanAt w w.heap.size A n c A' n' c' p):
 Calls Tryz.prog 13 #[planV A n c A' n' c'] w fun e w'=>e= .returned (.bool (planB p))∧Below w.heap.size w w':=by
 obtain⟨hl1,hl2,hl3,hl4⟩:=h.lens
 have k1:∀V,Below w.heap.size w V→_:=fun V hV=>fine_any p A A' n c n' c' V (h.on hV)
 have k2:∀V,Below w.heap.size w V→_:=fun V hV=>normedR_any p.outer A n c V (h.on hV).outer h.oc.1 hl3 h.fits.1.2
 have HN:Hid (¬SoundP p→planB p=false):=planB_no
 have HO:Hid (SoundP p→planB p=true):=planB_ok
 have HP:=Lib.hid h
 have HL:=Lib.hid hl2
 have H:=Lib.hid (And.intro ((Below.refl w.heap.size w).alloc (Nat.le_refl _) (.cells #[.slice A n c,.slice A' n' c'] 30)) (PlK.new w A n c A' n' c'))
 have G1:Hid (listedB p=false→¬SoundP p):=fun h1 h2=>by rw[h2.1]at h1;cases h1
 have G2:Hid (normB p.outer=false→¬SoundP p):=fun h1 h2=>by rw[normB_iff.2 h2.2.1]at h1;cases h1
 have G3:Hid (listedB p=true→n'≤64∧p.outer.length+(allE p.parcels).length≤1024):=fun h1=>by rw[←hl2];exact(listed_bd h1).2
 have G4:Hid (normB p.outer=true→NormedP p.outer):=normB_iff.1
 clear h hl1 hl2
 generalize planB p=pb at *
 have hb1:Hid (∃b,b=listedB p):=⟨_,rfl⟩
 obtain⟨b1,hb1⟩:=hb1.out
 obtain⟨b2,hb2⟩:∃b,b=normB p.outer:=⟨_,rfl⟩
 have G5:=Lib.hid hb1
 rw[←hb1]at k1 G1 G3
 rw[←hb2]at k2 G2 G4
 clear hb1 hb2
 have K1:=Lib.hid k1
 have K2:=Lib.hid k2
 clear k1 k2
 obtain⟨q1,q2,-⟩:=H.out.2.facts
 go_enter Tryz.func13,Tryz.ntmps13
 go_wp2_with fail
 refine(K1.out _ H.out.1).mono ?_
 rintro e w1 ⟨rfl,hb⟩
 have H1:=Lib.hid (And.intro (below_on H.out.1 (Nat.le_refl _) hb) (H.out.2.on hb))
 clear hb H q1 q2
 obtain⟨q1,q2,-⟩:=H1.out.2.facts
 rcases b1 with _|_
 ·go_wp2_with fail
  go_ret
  exact⟨by rw[HN.out (G1.out (by simp))];rfl,H1.out.1⟩
 go_wp2_with fail
 refine(K2.out _ H1.out.1).mono ?_
 rintro e w2 ⟨rfl,hb⟩
 have H2:=Lib.hid (And.intro (below_on H1.out.1 (Nat.le_refl _) hb) (H1.out.2.on hb))
 clear hb H1 q1 q2
 obtain⟨q1,q2,-⟩:=H2.out.2.facts
 rcases b2 with _|_
 ·go_wp2_with fail
  go_ret
  exact⟨by rw[HN.out (G2.out (by simp))];rfl,H2.out.1⟩
 have h64:=(G3.out (by simp)).1
 have HE2:=Lib.hid (G3.out (by simp)).2
 have HNO:=Lib.hid (G4.out (by simp))
 have hLst:=Lib.hid G5.out.symm
 clear G1 G2 G3 G4 G5 K1 K2
 go_wp2_with fail
 obtain⟨Bs,hBs⟩:∃Bs,Bs=w2.heap.size:=⟨_,rfl⟩
 have hW0:Below w.heap.size w (w2.alloc (.cells #[.int .i64 0,.int .u64 0] 37)):=H2.out.1.alloc H2.out.1.size _
 have hK0:PlK (w2.alloc (.cells #[.int .i64 0,.int .u64 0] 37)) w.heap.size A n c A' n' c':=Blk.alloc H2.out.2 _
 have hS0:=Blk.new w2 37 #[.int .i64 0,.int .u64 0]
 have hBw:w.heap.size<Bs:=by rw[hBs];exact Blk.lt H2.out.2
 rw[←hBs]at hS0
 have H3:=Lib.hid (And.intro hW0 (And.intro hK0 hS0))
 clear hW0 hK0 hS0 H2 q1 q2
 generalize w2.alloc (.cells #[.int .i64 0,.int .u64 0] 37)=w3 at *
 rw[←hBs]
 clear hBs
 go_loopw [4] (fun i wr=>∃k:Nat,k≤n'∧i= .int .i64 (k:Int)∧Hid (∀j,j<k→NormedP (pcAt p.parcels j).ring)∧Below w.heap.size w wr∧PlK wr w.heap.size A n c A' n' c'∧Blk wr Bs 37 #[.int .i64 (sumK p k/18446744073709551616),.int .u64 (sumK p k%18446744073709551616)]) (fun i _=>n'-(intOf i).toNat)
 case atStart=>exact⟨0,Nat.zero_le _,rfl,fun j hj=>absurd hj (Nat.not_lt_zero _),H3.out.1,H3.out.2.1,by simpa[sumK,sumL]using H3.out.2.2⟩
 case round=>
  clear H3
  obtain⟨k,hk,rfl,HJ,hbel,hK,hS⟩:=hrel
  obtain⟨q1,q2,-⟩:=hK.facts
  by_cases hlt:k<n'
  ·have hlt':(k:Int)<(n':Int):=by omega
   have hw1:IntKind.i64.wrap ((k:Int)+1)=(k:Int)+1:=by rw[IntKind.wrap_i64];omega
   obtain⟨ad,rfl⟩:=HP.out.parcs.some_ (by omega)
   obtain⟨had,-,⟨Ak,nk,ck,p2,hrk,hk1,hk2⟩,-⟩:=(HP.out.parcs.below hbel).at_ hlt
   have hlk:k<p.parcels.length:=by have:=HL.out;omega
   have hxm:pcAt p.parcels k∈p.parcels:=by rw[pcAt_lt hlk];exact List.getElem_mem _
   have hfx:=HP.out.fits.2.2 _ hxm
   have hnk:nk≤8796093022208:=by have:=hrk.lenPt;have:=hfx.1;omega
   have kN:=Lib.hid (normedR_any (pcAt p.parcels k).ring Ak nk ck wr (hrk.more hbel.size) hk1 hnk hfx.2.1)
   have HX:=Lib.hid (And.intro hrk (And.intro hnk (And.intro hfx hxm)))
   have HB:=Lib.hid (And.intro hbel (And.intro hK hS))
   have GN:Hid (normB (pcAt p.parcels k).ring=false→¬SoundP p):=fun h1 h2=>by rw[normB_iff.2 (h2.2.2.1 _ HX.out.2.2.2)]at h1;cases h1
   have GY:Hid (normB (pcAt p.parcels k).ring=true→NormedP (pcAt p.parcels k).ring):=normB_iff.1
   have hnx:=sumK_next hlk
   have HNX:=Lib.hid hnx
   clear hrk hnk hfx hxm hbel hK hS hlk hnx
   generalize normB (pcAt p.parcels k).ring=b3 at *
   go_wp2_with fail
   refine kN.out.mono ?_
   rintro e w4 ⟨rfl,hb4⟩
   have hB4:=below_on HB.out.1 (Nat.le_refl _) hb4
   have hK4:=HB.out.2.1.on hb4
   have hS4:=Blk.below HB.out.2.2 hb4 (Blk.lt HB.out.2.2)
   have hw4:=hb4.mono HB.out.1.size
   have H4:=Lib.hid (And.intro hB4 (And.intro hK4 (And.intro hS4 hw4)))
   clear hb4 hB4 hK4 hS4 hw4 kN HB q1 q2
   rcases b3 with _|_
   ·go_wp2_with fail
    go_ret
    exact⟨by rw[HN.out (GN.out (by simp))];rfl,H4.out.1⟩
   have hN:=GY.out (by simp)
   have HJ2:Hid (∀j,j<k+1→NormedP (pcAt p.parcels j).ring):=fun j hj=>by
    rcases Nat.lt_or_ge j k with h|h
    ·exact HJ.out j h
    ·obtain rfl:j=k:=by omega
     exact hN
   have hA0:=norm_area hN
   have hbd:=areaZ_bd hA0
   have hbs:=sumK_bd (p:=p) (k:=k) (by omega) (fun j hj=>norm_area (HJ.out j hj)) (by have:=HL.out;omega)
   obtain⟨q1,q2,-⟩:=H4.out.2.1.facts
   have p2:=(H4.out.2.2.2.cell (p:=⟨(ad.add (k*3)).block,(ad.add (k*3)).off+1,none⟩) (by rw[block_of_add];exact had)).trans p2
   have kA:=areaR_any (pcAt p.parcels k).ring Ak nk ck w4 ((HX.out.1.below H4.out.2.2.2).more H4.out.1.size) (by have:=HX.out.2.1;omega) HX.out.2.2.1.2.1
   rw[areaV_ok hA0,hA0]at kA
   have hsm:small (sumK p k):=by unfold small;omega
   have hzm:small (areaZ (pcAt p.parcels k).ring):=by unfold small;omega
   have hss:small (sumK p k+areaZ (pcAt p.parcels k).ring):=by unfold small;omega
   have kP:=(fun V=>addR_any (sumK p k) (areaZ (pcAt p.parcels k).ring) V hsm hzm hss)
   have HZ0:Hid (sumK p (k+1)=sumK p k+areaZ (pcAt p.parcels k).ring):=HNX.out
   have HS:=Lib.hid H4.out.2.2.1
   have HB4:=Lib.hid (And.intro H4.out.1 H4.out.2.1)
   clear hN hA0 hbd hbs hsm hzm hss GN GY H4 HNX HX
   generalize hz:areaZ (pcAt p.parcels k).ring=z at *
   clear hz
   generalize hs:sumK p k=s at *
   clear hs
   have KA:=Lib.hid kA
   clear kA
   go_wp2_with fail
   refine KA.out.mono ?_
   rintro e w5 ⟨rfl,hb5⟩
   have hB5:=below_on HB4.out.1 (Nat.le_refl _) hb5
   have hK5:=HB4.out.2.on hb5
   have hS5:=Blk.below HS.out hb5 (Blk.lt HS.out)
   unfold i128 at kP ⊢
   generalize z/18446744073709551616=zh at *
   generalize z%18446744073709551616=zl at *
   generalize s/18446744073709551616=sh at *
   generalize s%18446744073709551616=sl at *
   obtain⟨th,hth⟩:∃th,th=sumK p (k+1)/18446744073709551616:=⟨_,rfl⟩
   obtain⟨tl,htl⟩:∃tl,tl=sumK p (k+1)%18446744073709551616:=⟨_,rfl⟩
   rw[←HZ0.out,←hth,←htl]at kP
   have HT:=Lib.hid (And.intro hth htl)
   clear HZ0 hth htl
   have hBa:Below w5.heap.size w5 (w5.alloc (.cells #[.int .i64 zh,.int .u64 zl] 37)):=(Below.refl _ _).alloc (Nat.le_refl _) _
   have hS6:=Blk.below hS5 hBa (Blk.lt hS5)
   have x1:(w5.alloc (.cells #[.int .i64 zh,.int .u64 zl] 37)).cell? ⟨Bs,0,none⟩=some (.int .i64 sh):=by rw[Blk.cell hS6 0];rfl
   have x2:(w5.alloc (.cells #[.int .i64 zh,.int .u64 zl] 37)).cell? ⟨Bs,1,none⟩=some (.int .u64 sl):=by rw[Blk.cell hS6 1];rfl
   have H6:=Lib.hid (And.intro (below_on hB5 (Nat.le_refl _) hBa) (And.intro (hK5.on hBa) hS6))
   have KP:=Lib.hid kP
   clear hB5 hK5 hS5 hBa hS6 hb5 HB4 HS KA q1 q2 kP
   go_wp2_with fail
   refine(KP.out _).mono ?_
   rintro e w7 ⟨rfl,hb7⟩
   have hB7:=below_on H6.out.1 (Nat.le_refl _) hb7
   have hK7:=H6.out.2.1.on hb7
   have hS7:=Blk.below H6.out.2.2 hb7 (Blk.lt H6.out.2.2)
   have y1:w7.cell? ⟨Bs,0,none⟩=some (.int .i64 sh):=by rw[Blk.cell hS7 0];rfl
   have y2:w7.cell? ⟨Bs,1,none⟩=some (.int .u64 sl):=by rw[Blk.cell hS7 1];rfl
   have f1:=Blk.frozen hS7 0
   have f2:=Blk.frozen hS7 1
   have hne:w.heap.size≠Bs:=by omega
   have hB8:=(hB7.setCell (p:=⟨Bs,0,none⟩) (by simp only;omega) (.int .i64 th)).setCell (p:=⟨Bs,1,none⟩) (by simp only;omega) (.int .u64 tl)
   have hK8:PlK ((w7.setCell ⟨Bs,0,none⟩ (.int .i64 th)).setCell ⟨Bs,1,none⟩ (.int .u64 tl)) w.heap.size A n c (some ad) n' c':=Blk.far (p:=⟨Bs,1,none⟩) (Blk.far (p:=⟨Bs,0,none⟩) hK7 hne _) hne _
   have hS8:=Blk.set_ (Blk.set_ hS7 0 (.int .i64 th)) 1 (.int .u64 tl)
   simp only[List.setIfInBounds_toArray,List.set_cons_zero,List.set_cons_succ]at hS8
   have H8:=Lib.hid (And.intro hB8 (And.intro hK8 hS8))
   clear hB7 hK7 hS7 hB8 hK8 hS8 hb7 H6 x1 x2
   go_wp2_with fail
   go_roundw
   case rel=>exact⟨k+1,by omega,by go_num,HJ2,H8.out.1,H8.out.2.1,by rw[←HT.out.1,←HT.out.2];exact H8.out.2.2⟩
   case measure=>simp[intOf];omega
  ·have hkn:k=n':=by omega
   subst hkn
   have hall:sumK p k=areasL p.parcels:=by have:=sumK_all p;rw[HL.out]at this;exact this
   rw[hall]at hS
   have hA0:=norm_area HNO.out
   have kA:=areaR_any p.outer A n c wr ((HP.out.outer.below hbel).more hbel.size) (by omega) HP.out.fits.1.2
   rw[areaV_ok hA0,hA0]at kA
   have hJ3:∀x∈p.parcels,NormedP x.ring:=fun x hx=>by
    obtain⟨j,hj,rfl⟩:=List.getElem_of_mem hx
    have:=HJ.out j (by have:=HL.out;omega)
    rw[pcAt_lt hj]at this
    exact this
   have HG:Hid (∀e∈allE p.parcels,good e.a=true∧good e.b=true):=fun e he=>by
    obtain⟨x,hx,hm⟩:=allE_mem.1 he
    exact(edges_ok (hJ3 x hx).1 e hm).2
   have HS1:Hid (areasL p.parcels=areaZ p.outer→(SoundP p↔RowOK (allE p.parcels) (edgesOf p.outer) (allE p.parcels).length∧∀e∈edgesOf p.outer,e∈allE p.parcels)):=sound_rows hLst.out HNO.out hJ3
   have HS0:Hid (SoundP p→areasL p.parcels=areaZ p.outer):=fun h=>h.2.2.2.2.2
   have HE:=eq128 (areasL p.parcels) (areaZ p.outer)
   generalize areasL p.parcels=sm at *
   generalize areaZ p.outer=ao at *
   obtain⟨sh,hsh⟩:∃x,x=sm/18446744073709551616:=⟨_,rfl⟩
   obtain⟨sl,hsl⟩:∃x,x=sm%18446744073709551616:=⟨_,rfl⟩
   obtain⟨ah,hah⟩:∃x,x=ao/18446744073709551616:=⟨_,rfl⟩
   obtain⟨al,hal⟩:∃x,x=ao%18446744073709551616:=⟨_,rfl⟩
   unfold i128 at kA
   rw[←hsh,←hsl]at hS HE
   rw[←hah,←hal]at kA HE
   have KA:=Lib.hid kA
   have HE1:=Lib.hid HE
   have HB:=Lib.hid (And.intro hbel (And.intro hK hS))
   clear hall hA0 kA hJ3 hsh hsl hah hal HE hbel hK hS HJ
   go_wp2_with fail
   refine KA.out.mono ?_
   rintro e w5 ⟨rfl,hb5⟩
   have hB5:=below_on HB.out.1 (Nat.le_refl _) hb5
   have hBa:Below w5.heap.size w5 (w5.alloc (.cells #[.int .i64 ah,.int .u64 al] 37)):=(Below.refl _ _).alloc (Nat.le_refl _) _
   have hK6:=(HB.out.2.1.on hb5).on hBa
   have hS5:=Blk.below HB.out.2.2 hb5 (Blk.lt HB.out.2.2)
   have hS6:=Blk.below hS5 hBa (Blk.lt hS5)
   obtain⟨q1,q2,-⟩:=hK6.facts
   have x1:(w5.alloc (.cells #[.int .i64 ah,.int .u64 al] 37)).cell? ⟨Bs,0,none⟩=some (.int .i64 sh):=by rw[Blk.cell hS6 0];rfl
   have x2:(w5.alloc (.cells #[.int .i64 ah,.int .u64 al] 37)).cell? ⟨Bs,1,none⟩=some (.int .u64 sl):=by rw[Blk.cell hS6 1];rfl
   have H6:=Lib.hid (And.intro (below_on hB5 (Nat.le_refl _) hBa) hK6)
   clear hB5 hBa hK6 hS5 hS6 hb5 HB KA
   by_cases g12:¬(sh=ah∧sl=al)
   ·have hno:sm≠ao:=fun h=>by
     have h1:=HE1.out
     rw[decide_eq_true h,Bool.and_eq_true,decide_eq_true_eq,decide_eq_true_eq]at h1
     exact g12 h1
    have HNS:Hid (pb=false):=HN.out fun h=>hno (HS0.out h)
    clear hno HS1 HS0
    by_cases g1:sh=ah
    ·have g2:¬sl=al:=fun h=>g12 ⟨g1,h⟩
     subst g1
     clear g12
     go_wp2_with fail
     go_ret
     exact⟨by rw[HNS.out];rfl,H6.out.1⟩
    ·clear g12
     go_wp2_with fail
     go_ret
     exact⟨by rw[HNS.out];rfl,H6.out.1⟩
   ·obtain⟨g1,g2⟩:=Classical.not_not.1 g12
    have hyes:sm=ao:=by
     have h1:=HE1.out
     rw[decide_eq_true g1,decide_eq_true g2]at h1
     exact of_decide_eq_true h1.symm
    have HS2:=Lib.hid (HS1.out hyes)
    clear hyes g12 HS1 HS0 HE1
    have hle:=HE2.out
    have hol:p.outer.length=n:=HP.out.lens.1
    have kE:=fun V (hV:Below w.heap.size w V)=>edgesR_any p.outer A n c V (HP.out.on hV).outer (by omega)
    have kA:=allR_any p.parcels A' k c' _ (HP.out.on H6.out.1).parcs hl4 (by omega)
    have HNl:Hid (n+(allE p.parcels).length≤1024):=by show _≤_;omega
    clear hle hol HP HL HE2 HNO hLst
    generalize edgesOf p.outer=bd at *
    generalize allE p.parcels=l at *
    obtain⟨N,hN⟩:∃N,N=l.length:=⟨_,rfl⟩
    rw[←hN]at kA HNl HS2
    have HNN:=Lib.hid hN
    clear hN
    have KE:=Lib.hid kE
    have KA:=Lib.hid kA
    clear kE kA
    subst g1 g2
    go_wp2_with fail
    refine KA.out.mono ?_
    rintro e w6 ⟨A1,c1,rfl,ho1,hb6⟩
    have hB6:=below_on H6.out.1 (Nat.le_refl _) hb6
    obtain⟨q1,q2,-⟩:=(H6.out.2.on hb6).facts
    have H7:=Lib.hid (And.intro hB6 (Reads.of_own ho1))
    clear hB6 ho1 hb6 H6 KA
    go_wp2_with fail
    refine(KE.out w6 H7.out.1).mono ?_
    rintro e wz ⟨A2,c2,rfl,ho2,hb7⟩
    have H8:=Lib.hid (And.intro (below_on H7.out.1 (Nat.le_refl _) hb7) (And.intro (H7.out.2.on hb7) (Reads.of_own ho2)))
    have hN1:N≤1024:=by have:=HNl.out;omega
    clear ho2 hb7 H7 KE q1 q2 x1 x2
    go_wp2_with fail
    go_loopw [11] (fun i wr=>∃r:Nat,r≤N∧i= .int .i64 (r:Int)∧Hid (RowOK l bd r)∧Below wz.heap.size wz wr) (fun i _=>N-(intOf i).toNat)
    case atStart=>exact⟨0,Nat.zero_le _,rfl,fun j hj=>absurd hj (Nat.not_lt_zero _),Below.refl _ _⟩
    case round=>
     obtain⟨r,hr,rfl,HRO,hbel⟩:=hrel
     by_cases hlt:r<N
     ·have hlt':(r:Int)<(N:Int):=by omega
      have hw1:IntKind.i64.wrap ((r:Int)+1)=(r:Int)+1:=by rw[IntKind.wrap_i64];omega
      obtain⟨ad,rfl,had,p1,p2,p3,p4⟩:=(H8.out.2.1.below hbel).edA hlt
      obtain⟨e,he⟩:∃e,e=edAt l r:=⟨_,rfl⟩
      rw[←he]at p1 p2 p3 p4
      have HEr:=Lib.hid he
      obtain⟨ob,hob⟩:∃o:Bool,o=true↔e∈bd:=⟨decide (e∈bd),by simp⟩
      obtain⟨o1,ho1⟩:∃o:Bool,o=true↔∀j,j<r→edAt l j≠e:=by
       by_cases hq:∀j,j<r→edAt l j≠e
       ·exact⟨true,by simpa using hq⟩
       ·exact⟨false,by simpa using hq⟩
      obtain⟨o2,ho2⟩:∃o:Bool,o=true↔e.back∈l:=⟨decide (e.back∈l),by simp⟩
      have kB:=place2 bd e A2 n c2 wr ((H8.out.2.2.below hbel).more hbel.size) hl3
      have HOB:=Lib.hid hob
      have HO1:=Lib.hid ho1
      have HO2:=Lib.hid ho2
      have HB:=Lib.hid hbel
      have KB:=Lib.hid kB
      clear he hbel kB hob ho1 ho2
      go_upto_region 19 with fail
      go_cut [12] (fun s wx=>s= .bool ob∧Below wz.heap.size wz wx)
      case first=>
       go_wp2_with fail
       refine KB.out.mono ?_
       rintro x wa ⟨r0,rfl,⟨hr0,-⟩,hba⟩
       have HB1:=Lib.hid (HB.out.trans (hba.mono HB.out.size))
       have hr:=hr0.trans HOB.out.symm
       clear hba hr0
       rcases ob with _|_
       ·have h0:¬0≤r0:=fun h=>by simpa using hr.1 h
        clear hr
        go_wp2_with fail
        go_meet
        exact⟨by first|rfl|simp[h0],HB1.out⟩
       ·have h0:0≤r0:=hr.2 rfl
        clear hr
        go_wp2_with fail
        go_meet
        exact⟨by first|rfl|simp[h0],HB1.out⟩
      case rest=>
       obtain⟨rfl,hbc⟩:=hcut
       obtain⟨_,rfl',-,p1,p2,p3,p4⟩:=(H8.out.2.1.below hbc).edA hlt
       cases rfl'
       rw[←HEr.out]at p1 p2 p3 p4
       have kL:=place2 l e (some ad) N c1 wc ((H8.out.2.1.below hbc).more hbc.size) (by omega)
       have kL2:=fun V (hV:Below wz.heap.size wz V)=>place2 l e.back (some ad) N c1 V ((H8.out.2.1.below hV).more hV.size) (by omega)
       have HBC:=Lib.hid hbc
       have KL:=Lib.hid kL
       have KL2:=Lib.hid kL2
       clear hbc kL kL2 KB HB
       go_upto_region 20 with fail
       go_cut [107] (fun s wx=>s= .bool (!o1||(o2==ob))∧Below wz.heap.size wz wx)
       case first=>
        go_wp2_with fail
        refine KL.out.mono ?_
        rintro x wa ⟨r1,rfl,⟨-,hr1⟩,hba⟩
        have hB1:=HBC.out.trans (hba.mono HBC.out.size)
        have hr2:=(hr1 r hlt HEr.out.symm).trans HO1.out.symm
        clear hr1 hba
        rcases o1 with _|_
        ·have h1:¬r1=(r:Int):=fun h=>by simpa using hr2.1 h
         have HB1:=Lib.hid hB1
         clear hr2 hB1
         go_wp2_with fail
         go_meet
         exact⟨rfl,HB1.out⟩
        ·obtain rfl:r1=(r:Int):=hr2.2 rfl
         obtain⟨_,rfl',-,q1,q2,q3,q4⟩:=(H8.out.2.1.below hB1).edA hlt
         cases rfl'
         rw[←HEr.out]at q1 q2 q3 q4
         have HB1:=Lib.hid hB1
         clear hr2 hB1 p1 p2 p3 p4
         have kT:=Lib.hid (fun V=>backR_any e V)
         go_wp2_with fail
         refine(kT.out _).mono ?_
         rintro x wb ⟨rfl,hbb⟩
         have HB2:=Lib.hid (HB1.out.trans (hbb.mono HB1.out.size))
         clear hbb HB1 q1 q2 q3 q4
         go_wp2_with fail
         refine(KL2.out _ HB2.out).mono ?_
         rintro x wd ⟨r2,rfl,⟨hr3,-⟩,hbd⟩
         have HB3:=Lib.hid (HB2.out.trans (hbd.mono HB2.out.size))
         have hr4:=hr3.trans HO2.out.symm
         clear hbd hr3 HB2
         rcases o2 with _|_
         ·have h0:¬0≤r2:=fun h=>by simpa using hr4.1 h
          clear hr4
          rcases ob with _|_<;>(go_wp2_with fail;go_meet;exact⟨by first|rfl|simp[h0],HB3.out⟩)
         ·have h0:0≤r2:=hr4.2 rfl
          clear hr4
          rcases ob with _|_<;>(go_wp2_with fail;go_meet;exact⟨by first|rfl|simp[h0],HB3.out⟩)
       case rest=>
        obtain⟨hs,hbd⟩:=hcut
        obtain⟨bad,hbad⟩:∃b,b=(!o1||(o2==ob)):=⟨_,rfl⟩
        rw[←hbad]at hs
        subst hs
        have HR1:Hid (bad=true→pb=false):=fun hb=>HN.out fun hS=>by
         obtain⟨a1,a2,-⟩:=(HS2.out.1 hS).1 r hlt
         rw[←HEr.out]at a1 a2
         have b1:=HO1.out.2 a1
         have b2:=HO2.out
         have b3:=HOB.out
         rw[hb,b1]at hbad
         rcases o2 with _|_<;>rcases ob with _|_<;>simp at hbad b2 b3
         ·exact b2 (a2.2 b3)
         ·exact(a2.1 b2) b3
        have HR2:Hid (bad=false→(∀j,j<r→edAt l j≠e)∧(e.back∈l↔e∉bd)):=fun hb=>by
         have b1:=HO1.out
         have b2:=HO2.out
         have b3:=HOB.out
         rw[hb]at hbad
         rcases o1 with _|_<;>rcases o2 with _|_<;>rcases ob with _|_<;>simp at hbad b1 b2 b3
         ·exact⟨b1,fun h=>absurd h b2,fun h=>absurd b3 h⟩
         ·exact⟨b1,fun _=>b3,fun _=>b2⟩
        clear hbad HO1 HO2 HOB KL KL2 HBC p1 p2 p3 p4
        have HBD:=Lib.hid hbd
        clear hbd
        rcases bad with _|_
        rotate_left
        ·go_wp2_with fail
         go_ret
         exact⟨by rw[HR1.out (by simp)];rfl,below_on H8.out.1 (Nat.le_refl _) HBD.out⟩
        have HR3:=Lib.hid (HR2.out (by simp))
        clear HR1 HR2
        go_wp2_with fail
        go_loopw [13] (fun jv wx=>∃m:Nat,(r+1≤m∧m≤N)∧jv= .int .i64 (m:Int)∧Hid (ColOK l r m)∧Below wz.heap.size wz wx) (fun jv _=>N-(intOf jv).toNat)
        case atStart=>exact⟨r+1,⟨by omega,by omega⟩,by go_num,fun j h1 h2=>by omega,HBD.out⟩
        case round=>
         clear HBD
         obtain⟨m1,⟨hm0,ht⟩,rfl,HCO,hbx⟩:=hrel
         by_cases hlt2:m1<N
         ·have hlt2':(m1:Int)<(N:Int):=by omega
          have hw2:IntKind.i64.wrap ((m1:Int)+1)=(m1:Int)+1:=by rw[IntKind.wrap_i64];omega
          obtain⟨_,rfl',-,p1,p2,p3,p4⟩:=(H8.out.2.1.below hbx).edA hlt
          cases rfl'
          rw[←HEr.out]at p1 p2 p3 p4
          obtain⟨_,rfl',-,q1,q2,q3,q4⟩:=(H8.out.2.1.below hbx).edA hlt2
          cases rfl'
          obtain⟨f,hf⟩:∃f,f=edAt l m1:=⟨_,rfl⟩
          rw[←hf]at q1 q2 q3 q4
          have hem:e∈l:=by rw[HEr.out,edAt_lt (by rw[←HNN.out];exact hlt)];exact List.getElem_mem _
          have hfm:f∈l:=by rw[hf,edAt_lt (by rw[←HNN.out];exact hlt2)];exact List.getElem_mem _
          have hge:=HG.out e hem
          have hgf:=HG.out f hfm
          have kM:∀V,Calls Tryz.prog 39 #[.agg #[.int .i64 e.a.x,.int .i64 e.a.y],.agg #[.int .i64 e.b.x,.int .i64 e.b.y],.agg #[.int .i64 f.a.x,.int .i64 f.a.y],.agg #[.int .i64 f.b.x,.int .i64 f.b.y]] V fun r w'=>r= .returned (.int .i64 (meetE e f))∧Below V.heap.size V w':=fun V=>meetR8 _ _ _ _ _ _ _ _ V hge.1 hge.2 hgf.1 hgf.2
          have hb1:Below wz.heap.size wz (wr.alloc (.cells #[.int .i64 e.a.x,.int .i64 e.a.y,.int .i64 e.b.x,.int .i64 e.b.y] 76)):=hbx.alloc hbx.size _
          obtain⟨_,rfl',-,q1,q2,q3,q4⟩:=(H8.out.2.1.below hb1).edA hlt2
          cases rfl'
          rw[←hf]at q1 q2 q3 q4
          have b1:Blk ((wr.alloc (.cells #[.int .i64 e.a.x,.int .i64 e.a.y,.int .i64 e.b.x,.int .i64 e.b.y] 76)).alloc (.cells #[.int .i64 f.a.x,.int .i64 f.a.y,.int .i64 f.b.x,.int .i64 f.b.y] 76)) wr.heap.size 76 #[.int .i64 e.a.x,.int .i64 e.a.y,.int .i64 e.b.x,.int .i64 e.b.y]:=Blk.alloc (Blk.new wr _ _) _
          have b2:=Blk.new (wr.alloc (.cells #[.int .i64 e.a.x,.int .i64 e.a.y,.int .i64 e.b.x,.int .i64 e.b.y] 76)) 76 #[.int .i64 f.a.x,.int .i64 f.a.y,.int .i64 f.b.x,.int .i64 f.b.y]
          rw[World.size_alloc]at b2
          have c1:((wr.alloc (.cells #[.int .i64 e.a.x,.int .i64 e.a.y,.int .i64 e.b.x,.int .i64 e.b.y] 76)).alloc (.cells #[.int .i64 f.a.x,.int .i64 f.a.y,.int .i64 f.b.x,.int .i64 f.b.y] 76)).cell? ⟨wr.heap.size,0,none⟩=some (.int .i64 e.a.x):=by rw[Blk.cell b1 0];rfl
          have c2:((wr.alloc (.cells #[.int .i64 e.a.x,.int .i64 e.a.y,.int .i64 e.b.x,.int .i64 e.b.y] 76)).alloc (.cells #[.int .i64 f.a.x,.int .i64 f.a.y,.int .i64 f.b.x,.int .i64 f.b.y] 76)).cell? ⟨wr.heap.size,1,none⟩=some (.int .i64 e.a.y):=by rw[Blk.cell b1 1];rfl
          have c3:((wr.alloc (.cells #[.int .i64 e.a.x,.int .i64 e.a.y,.int .i64 e.b.x,.int .i64 e.b.y] 76)).alloc (.cells #[.int .i64 f.a.x,.int .i64 f.a.y,.int .i64 f.b.x,.int .i64 f.b.y] 76)).cell? ⟨wr.heap.size,2,none⟩=some (.int .i64 e.b.x):=by rw[Blk.cell b1 2];rfl
          have c4:((wr.alloc (.cells #[.int .i64 e.a.x,.int .i64 e.a.y,.int .i64 e.b.x,.int .i64 e.b.y] 76)).alloc (.cells #[.int .i64 f.a.x,.int .i64 f.a.y,.int .i64 f.b.x,.int .i64 f.b.y] 76)).cell? ⟨wr.heap.size,3,none⟩=some (.int .i64 e.b.y):=by rw[Blk.cell b1 3];rfl
          have d1:((wr.alloc (.cells #[.int .i64 e.a.x,.int .i64 e.a.y,.int .i64 e.b.x,.int .i64 e.b.y] 76)).alloc (.cells #[.int .i64 f.a.x,.int .i64 f.a.y,.int .i64 f.b.x,.int .i64 f.b.y] 76)).cell? ⟨wr.heap.size+1,0,none⟩=some (.int .i64 f.a.x):=by rw[Blk.cell b2 0];rfl
          have d2:((wr.alloc (.cells #[.int .i64 e.a.x,.int .i64 e.a.y,.int .i64 e.b.x,.int .i64 e.b.y] 76)).alloc (.cells #[.int .i64 f.a.x,.int .i64 f.a.y,.int .i64 f.b.x,.int .i64 f.b.y] 76)).cell? ⟨wr.heap.size+1,1,none⟩=some (.int .i64 f.a.y):=by rw[Blk.cell b2 1];rfl
          have d3:((wr.alloc (.cells #[.int .i64 e.a.x,.int .i64 e.a.y,.int .i64 e.b.x,.int .i64 e.b.y] 76)).alloc (.cells #[.int .i64 f.a.x,.int .i64 f.a.y,.int .i64 f.b.x,.int .i64 f.b.y] 76)).cell? ⟨wr.heap.size+1,2,none⟩=some (.int .i64 f.b.x):=by rw[Blk.cell b2 2];rfl
          have d4:((wr.alloc (.cells #[.int .i64 e.a.x,.int .i64 e.a.y,.int .i64 e.b.x,.int .i64 e.b.y] 76)).alloc (.cells #[.int .i64 f.a.x,.int .i64 f.a.y,.int .i64 f.b.x,.int .i64 f.b.y] 76)).cell? ⟨wr.heap.size+1,3,none⟩=some (.int .i64 f.b.y):=by rw[Blk.cell b2 3];rfl
          have HX0:=Lib.hid (And.intro (hb1.alloc hb1.size (.cells #[.int .i64 f.a.x,.int .i64 f.a.y,.int .i64 f.b.x,.int .i64 f.b.y] 76)) (And.intro b1 b2))
          have hok:(!okR e f)=(decide (meetE e f=2)||((decide (meetE e f=1)&&!shareB e f)||(decide (meetE e f=3)&&!decide (e=f.back)))):=by unfold okR;rw[Bool.not_not]
          have hsb:shareB e f=(decide (e.a=f.a)||(decide (e.a=f.b)||(decide (e.b=f.a)||decide (e.b=f.b)))):=rfl
          have hp1:=fun W=>(eqPt_runs (e.a) (f.a) .eql (.tmp 0) (.tmp 0) W).1
          have hq1:=fun op x y W=>(eqPt_runs (e.a) (f.a) op x y W).2
          have hp2:=fun W=>(eqPt_runs (e.a) (f.b) .eql (.tmp 0) (.tmp 0) W).1
          have hq2:=fun op x y W=>(eqPt_runs (e.a) (f.b) op x y W).2
          have hp3:=fun W=>(eqPt_runs (e.b) (f.a) .eql (.tmp 0) (.tmp 0) W).1
          have hq3:=fun op x y W=>(eqPt_runs (e.b) (f.a) op x y W).2
          have hp4:=fun W=>(eqPt_runs (e.b) (f.b) .eql (.tmp 0) (.tmp 0) W).1
          have hq4:=fun op x y W=>(eqPt_runs (e.b) (f.b) op x y W).2
          have hu1:=fun W=>neqEd_runs e f.back W
          have hu2:=fun op x y W=>eqGuard_ed op x y e f.back W
          have kT:=fun V=>backR_any f V
          unfold encE at hu1 hu2
          unfold Ed.back at hu1 hu2
          have hk:=meetE_cases e f
          generalize meetE e f=mk at *
          obtain⟨nok,hnok⟩:∃b,b=!okR e f:=⟨_,rfl⟩
          rw[←hnok]at hok
          obtain⟨sb,hsb2⟩:∃b,b=shareB e f:=⟨_,rfl⟩
          rw[←hsb2]at hok hsb
          obtain⟨b5,hb5⟩:∃b,b=decide (e=f.back):=⟨_,rfl⟩
          rw[←hb5]at hok
          have hu1:∀W,Sem.run Tryz.prog (binOp .neq 76 (.agg #[.int .i64 e.a.x,.int .i64 e.a.y,.int .i64 e.b.x,.int .i64 e.b.y]) (.agg #[.int .i64 f.b.x,.int .i64 f.b.y,.int .i64 f.a.x,.int .i64 f.a.y])) W= .ok (.bool (!b5)) W:=fun W=>by rw[hb5];exact hu1 W
          have HB5:Hid (decide (e=({ a:=f.b,b:=f.a }:Ed))=b5):=hb5.symm
          have HOK:=Lib.hid hok
          have HSB:=Lib.hid hsb
          have HNK:=Lib.hid hnok
          have HU:=Lib.hid (And.intro hu1 (And.intro hu2 kT))
          have HPP:=Lib.hid (And.intro hp1 (And.intro hp2 (And.intro hp3 (And.intro hp4 (And.intro hq1 (And.intro hq2 (And.intro hq3 hq4)))))))
          have HMK:=Lib.hid hk
          have HFF:=Lib.hid hf
          have KM:=Lib.hid kM
          clear hem hfm hge hgf hb1 b1 b2 hok hsb hsb2 hb5 hnok hu1 hu2 hp1 hp2 hp3 hp4 hq1 hq2 hq3 hq4 kT hk kM hf hbx ht
          go_wp2_with fail
          refine(KM.out _).mono ?_
          rintro x W1 ⟨rfl,hbm⟩
          have b1:=Blk.below HX0.out.2.1 hbm (Blk.lt HX0.out.2.1)
          have b2:=Blk.below HX0.out.2.2 hbm (Blk.lt HX0.out.2.2)
          have hB1:=HX0.out.1.trans (hbm.mono HX0.out.1.size)
          have c1:W1.cell? ⟨wr.heap.size,0,none⟩=some (.int .i64 e.a.x):=by rw[Blk.cell b1 0];rfl
          have c2:W1.cell? ⟨wr.heap.size,1,none⟩=some (.int .i64 e.a.y):=by rw[Blk.cell b1 1];rfl
          have c3:W1.cell? ⟨wr.heap.size,2,none⟩=some (.int .i64 e.b.x):=by rw[Blk.cell b1 2];rfl
          have c4:W1.cell? ⟨wr.heap.size,3,none⟩=some (.int .i64 e.b.y):=by rw[Blk.cell b1 3];rfl
          have d1:W1.cell? ⟨wr.heap.size+1,0,none⟩=some (.int .i64 f.a.x):=by rw[Blk.cell b2 0];rfl
          have d2:W1.cell? ⟨wr.heap.size+1,1,none⟩=some (.int .i64 f.a.y):=by rw[Blk.cell b2 1];rfl
          have d3:W1.cell? ⟨wr.heap.size+1,2,none⟩=some (.int .i64 f.b.x):=by rw[Blk.cell b2 2];rfl
          have d4:W1.cell? ⟨wr.heap.size+1,3,none⟩=some (.int .i64 f.b.y):=by rw[Blk.cell b2 3];rfl
          have HX1:=Lib.hid (And.intro hB1 (And.intro b1 b2))
          obtain⟨hp1,hp2,hp3,hp4,hq1,hq2,hq3,hq4⟩:=HPP.out
          clear hbm b1 b2 hB1 HX0 HPP KM p1 p2 p3 p4 q1 q2 q3 q4
          go_upto_region 28 with fail
          go_cut [17] (fun s wx=>s= .bool sb∧Below W1.heap.size W1 wx)
          case first=>
           generalize hc1:decide (e.a=f.a)=b1' at hp1
           generalize hc2:decide (e.a=f.b)=b2' at hp2
           generalize hc3:decide (e.b=f.a)=b3' at hp3
           generalize hc4:decide (e.b=f.b)=b4' at hp4
           have HSB2:Hid (sb=(b1'||(b2'||(b3'||b4')))):=by show _=_;rw[HSB.out,hc1,hc2,hc3,hc4]
           clear hc1 hc2 hc3 hc4
           rcases b1' with _|_
           ·rcases b2' with _|_
            ·rcases b3' with _|_
             ·rcases b4' with _|_
              ·go_wp2_with fail
               go_meet
               exact⟨by rw[HSB2.out];rfl,by first|exact Below.refl _ _|exact(Below.refl _ _).drew⟩
              ·go_wp2_with fail
               go_meet
               exact⟨by rw[HSB2.out];rfl,by first|exact Below.refl _ _|exact(Below.refl _ _).drew⟩
             ·go_wp2_with fail
              go_meet
              exact⟨by rw[HSB2.out];rfl,by first|exact Below.refl _ _|exact(Below.refl _ _).drew⟩
            ·go_wp2_with fail
             go_meet
             exact⟨by rw[HSB2.out];rfl,by first|exact Below.refl _ _|exact(Below.refl _ _).drew⟩
           ·go_wp2_with fail
            go_meet
            exact⟨by rw[HSB2.out];rfl,by first|exact Below.refl _ _|exact(Below.refl _ _).drew⟩
          case rest=>
           obtain⟨rfl,hb9⟩:=hcut
           clear hp1 hp2 hp3 hp4 hq1 hq2 hq3 hq4 c1 c2 c3 c4 d1 d2 d3 d4
           have b1:=Blk.below HX1.out.2.1 hb9 (Blk.lt HX1.out.2.1)
           have b2:=Blk.below HX1.out.2.2 hb9 (Blk.lt HX1.out.2.2)
           have hB9:=HX1.out.1.trans (hb9.mono HX1.out.1.size)
           have c1:wc.cell? ⟨wr.heap.size,0,none⟩=some (.int .i64 e.a.x):=by rw[Blk.cell b1 0];rfl
           have c2:wc.cell? ⟨wr.heap.size,1,none⟩=some (.int .i64 e.a.y):=by rw[Blk.cell b1 1];rfl
           have c3:wc.cell? ⟨wr.heap.size,2,none⟩=some (.int .i64 e.b.x):=by rw[Blk.cell b1 2];rfl
           have c4:wc.cell? ⟨wr.heap.size,3,none⟩=some (.int .i64 e.b.y):=by rw[Blk.cell b1 3];rfl
           have d1:wc.cell? ⟨wr.heap.size+1,0,none⟩=some (.int .i64 f.a.x):=by rw[Blk.cell b2 0];rfl
           have d2:wc.cell? ⟨wr.heap.size+1,1,none⟩=some (.int .i64 f.a.y):=by rw[Blk.cell b2 1];rfl
           have d3:wc.cell? ⟨wr.heap.size+1,2,none⟩=some (.int .i64 f.b.x):=by rw[Blk.cell b2 2];rfl
           have d4:wc.cell? ⟨wr.heap.size+1,3,none⟩=some (.int .i64 f.b.y):=by rw[Blk.cell b2 3];rfl
           have hS:∀V,Below wc.heap.size wc V→V.cell? ⟨wr.heap.size,0,none⟩=some (.int .i64 e.a.x)∧V.cell? ⟨wr.heap.size,1,none⟩=some (.int .i64 e.a.y)∧V.cell? ⟨wr.heap.size,2,none⟩=some (.int .i64 e.b.x)∧V.cell? ⟨wr.heap.size,3,none⟩=some (.int .i64 e.b.y)∧V.cell? ⟨wr.heap.size+1,0,none⟩=some (.int .i64 f.a.x)∧V.cell? ⟨wr.heap.size+1,1,none⟩=some (.int .i64 f.a.y)∧V.cell? ⟨wr.heap.size+1,2,none⟩=some (.int .i64 f.b.x)∧V.cell? ⟨wr.heap.size+1,3,none⟩=some (.int .i64 f.b.y)∧Below wc.heap.size wc V:=fun V hb=>by
            have h1:=Blk.below b1 hb (Blk.lt b1)
            have h2:=Blk.below b2 hb (Blk.lt b2)
            exact⟨by rw[Blk.cell h1 0];rfl,by rw[Blk.cell h1 1];rfl,by rw[Blk.cell h1 2];rfl,by rw[Blk.cell h1 3];rfl,by rw[Blk.cell h2 0];rfl,by rw[Blk.cell h2 1];rfl,by rw[Blk.cell h2 2];rfl,by rw[Blk.cell h2 3];rfl,hb⟩
           have hP0:=hS wc.drew (Below.refl _ _).drew
           have hStep:∀V V',(V.cell? ⟨wr.heap.size,0,none⟩=some (.int .i64 e.a.x)∧V.cell? ⟨wr.heap.size,1,none⟩=some (.int .i64 e.a.y)∧V.cell? ⟨wr.heap.size,2,none⟩=some (.int .i64 e.b.x)∧V.cell? ⟨wr.heap.size,3,none⟩=some (.int .i64 e.b.y)∧V.cell? ⟨wr.heap.size+1,0,none⟩=some (.int .i64 f.a.x)∧V.cell? ⟨wr.heap.size+1,1,none⟩=some (.int .i64 f.a.y)∧V.cell? ⟨wr.heap.size+1,2,none⟩=some (.int .i64 f.b.x)∧V.cell? ⟨wr.heap.size+1,3,none⟩=some (.int .i64 f.b.y)∧Below wc.heap.size wc V)→Below V.heap.size V V'→(V'.cell? ⟨wr.heap.size,0,none⟩=some (.int .i64 e.a.x)∧V'.cell? ⟨wr.heap.size,1,none⟩=some (.int .i64 e.a.y)∧V'.cell? ⟨wr.heap.size,2,none⟩=some (.int .i64 e.b.x)∧V'.cell? ⟨wr.heap.size,3,none⟩=some (.int .i64 e.b.y)∧V'.cell? ⟨wr.heap.size+1,0,none⟩=some (.int .i64 f.a.x)∧V'.cell? ⟨wr.heap.size+1,1,none⟩=some (.int .i64 f.a.y)∧V'.cell? ⟨wr.heap.size+1,2,none⟩=some (.int .i64 f.b.x)∧V'.cell? ⟨wr.heap.size+1,3,none⟩=some (.int .i64 f.b.y)∧Below wc.heap.size wc V'):=fun V V' h hb=>hS V' (below_on h.2.2.2.2.2.2.2.2 (Nat.le_refl _) hb)
           have HB9:=Lib.hid hB9
           clear hS hb9 b1 b2 hB9
           go_upto_region 29 with fail
           go_cut [178] (fun s wx=>s= .bool nok∧Below wc.heap.size wc wx)
           case first=>
            rcases HMK.out with rfl|rfl|rfl|rfl
            ·refine wp_region_held_drew (S:=fun V=>V.cell? ⟨wr.heap.size,0,none⟩=some (.int .i64 e.a.x)∧V.cell? ⟨wr.heap.size,1,none⟩=some (.int .i64 e.a.y)∧V.cell? ⟨wr.heap.size,2,none⟩=some (.int .i64 e.b.x)∧V.cell? ⟨wr.heap.size,3,none⟩=some (.int .i64 e.b.y)∧V.cell? ⟨wr.heap.size+1,0,none⟩=some (.int .i64 f.a.x)∧V.cell? ⟨wr.heap.size+1,1,none⟩=some (.int .i64 f.a.y)∧V.cell? ⟨wr.heap.size+1,2,none⟩=some (.int .i64 f.b.x)∧V.cell? ⟨wr.heap.size+1,3,none⟩=some (.int .i64 f.b.y)∧Below wc.heap.size wc V) (by kernel_rfl) ?_ (fun hHeld=>?_)
             ·exact hP0
             refine tk 0 ?_
             refine tk 1 ?_
             refine tk 2 ?_
             refine tk 3 ?_
             refine tk 4 ?_
             refine tk 5 ?_
             refine tu 6 ?_
             refine tu 7 ?_
             refine tk 8 ?_
             refine tk 9 ?_
             refine tk 10 ?_
             refine tk 11 ?_
             refine tk 12 ?_
             refine tk 13 ?_
             refine tu 14 ?_
             refine tu 15 ?_
             refine tu 16 ?_
             refine tu 17 ?_
             refine tk 18 ?_
             refine tk 19 ?_
             refine wpAnyH_done (by kernel_rfl) ?_ _
             have hbV:=hHeld.2.2.2.2.2.2.2.2
             clear hP0
             go_wp2_with fail
             go_meet
             exact⟨by rw[HOK.out];rfl,hbV⟩
            ·rcases sb with _|_
             ·refine wp_region_held_drew (S:=fun V=>V.cell? ⟨wr.heap.size,0,none⟩=some (.int .i64 e.a.x)∧V.cell? ⟨wr.heap.size,1,none⟩=some (.int .i64 e.a.y)∧V.cell? ⟨wr.heap.size,2,none⟩=some (.int .i64 e.b.x)∧V.cell? ⟨wr.heap.size,3,none⟩=some (.int .i64 e.b.y)∧V.cell? ⟨wr.heap.size+1,0,none⟩=some (.int .i64 f.a.x)∧V.cell? ⟨wr.heap.size+1,1,none⟩=some (.int .i64 f.a.y)∧V.cell? ⟨wr.heap.size+1,2,none⟩=some (.int .i64 f.b.x)∧V.cell? ⟨wr.heap.size+1,3,none⟩=some (.int .i64 f.b.y)∧Below wc.heap.size wc V) (by kernel_rfl) ?_ (fun hHeld=>?_)
              ·exact hP0
              refine tk 0 ?_
              refine tk 1 ?_
              refine tk 2 ?_
              refine tk 3 ?_
              refine tk 4 ?_
              refine tk 5 ?_
              refine tk 6 ?_
              refine tk 7 ?_
              refine tk 8 ?_
              refine tk 9 ?_
              refine tk 10 ?_
              refine tu 11 ?_
              refine tu 12 ?_
              refine tu 13 ?_
              refine tu 14 ?_
              refine tu 15 ?_
              refine tu 16 ?_
              refine tu 17 ?_
              refine tu 18 ?_
              refine tk 19 ?_
              refine wpAnyH_done (by kernel_rfl) ?_ _
              have hbV:=hHeld.2.2.2.2.2.2.2.2
              clear hP0
              go_wp2_with fail
              go_meet
              exact⟨by rw[HOK.out];rfl,hbV⟩
             ·refine wp_region_held_drew (S:=fun V=>V.cell? ⟨wr.heap.size,0,none⟩=some (.int .i64 e.a.x)∧V.cell? ⟨wr.heap.size,1,none⟩=some (.int .i64 e.a.y)∧V.cell? ⟨wr.heap.size,2,none⟩=some (.int .i64 e.b.x)∧V.cell? ⟨wr.heap.size,3,none⟩=some (.int .i64 e.b.y)∧V.cell? ⟨wr.heap.size+1,0,none⟩=some (.int .i64 f.a.x)∧V.cell? ⟨wr.heap.size+1,1,none⟩=some (.int .i64 f.a.y)∧V.cell? ⟨wr.heap.size+1,2,none⟩=some (.int .i64 f.b.x)∧V.cell? ⟨wr.heap.size+1,3,none⟩=some (.int .i64 f.b.y)∧Below wc.heap.size wc V) (by kernel_rfl) ?_ (fun hHeld=>?_)
              ·exact hP0
              refine tk 0 ?_
              refine tk 1 ?_
              refine tk 2 ?_
              refine tk 3 ?_
              refine tk 4 ?_
              refine tk 5 ?_
              refine tk 6 ?_
              refine tk 7 ?_
              refine tk 8 ?_
              refine tk 9 ?_
              refine tk 10 ?_
              refine tk 11 ?_
              refine tk 12 ?_
              refine tk 13 ?_
              refine tu 14 ?_
              refine tu 15 ?_
              refine tu 16 ?_
              refine tu 17 ?_
              refine tk 18 ?_
              refine tk 19 ?_
              refine wpAnyH_done (by kernel_rfl) ?_ _
              have hbV:=hHeld.2.2.2.2.2.2.2.2
              clear hP0
              go_wp2_with fail
              go_meet
              exact⟨by rw[HOK.out];rfl,hbV⟩
            ·refine wp_region_held_drew (S:=fun V=>V.cell? ⟨wr.heap.size,0,none⟩=some (.int .i64 e.a.x)∧V.cell? ⟨wr.heap.size,1,none⟩=some (.int .i64 e.a.y)∧V.cell? ⟨wr.heap.size,2,none⟩=some (.int .i64 e.b.x)∧V.cell? ⟨wr.heap.size,3,none⟩=some (.int .i64 e.b.y)∧V.cell? ⟨wr.heap.size+1,0,none⟩=some (.int .i64 f.a.x)∧V.cell? ⟨wr.heap.size+1,1,none⟩=some (.int .i64 f.a.y)∧V.cell? ⟨wr.heap.size+1,2,none⟩=some (.int .i64 f.b.x)∧V.cell? ⟨wr.heap.size+1,3,none⟩=some (.int .i64 f.b.y)∧Below wc.heap.size wc V) (by kernel_rfl) ?_ (fun hHeld=>?_)
             ·exact hP0
             refine tk 0 ?_
             refine tk 1 ?_
             refine tk 2 ?_
             refine tu 3 ?_
             refine tu 4 ?_
             refine tu 5 ?_
             refine tu 6 ?_
             refine tu 7 ?_
             refine tu 8 ?_
             refine tk 9 ?_
             refine tk 10 ?_
             refine tu 11 ?_
             refine tu 12 ?_
             refine tu 13 ?_
             refine tu 14 ?_
             refine tu 15 ?_
             refine tu 16 ?_
             refine tu 17 ?_
             refine tu 18 ?_
             refine tk 19 ?_
             refine wpAnyH_done (by kernel_rfl) ?_ _
             have hbV:=hHeld.2.2.2.2.2.2.2.2
             clear hP0
             go_wp2_with fail
             go_meet
             exact⟨by rw[HOK.out];rfl,hbV⟩
            ·obtain⟨hu1,hu2,-⟩:=HU.out
             refine wp_region_held_drew (S:=fun V=>V.cell? ⟨wr.heap.size,0,none⟩=some (.int .i64 e.a.x)∧V.cell? ⟨wr.heap.size,1,none⟩=some (.int .i64 e.a.y)∧V.cell? ⟨wr.heap.size,2,none⟩=some (.int .i64 e.b.x)∧V.cell? ⟨wr.heap.size,3,none⟩=some (.int .i64 e.b.y)∧V.cell? ⟨wr.heap.size+1,0,none⟩=some (.int .i64 f.a.x)∧V.cell? ⟨wr.heap.size+1,1,none⟩=some (.int .i64 f.a.y)∧V.cell? ⟨wr.heap.size+1,2,none⟩=some (.int .i64 f.b.x)∧V.cell? ⟨wr.heap.size+1,3,none⟩=some (.int .i64 f.b.y)∧Below wc.heap.size wc V) (by kernel_rfl) ?_ (fun hHeld=>?_)
             ·exact hP0
             refine tk 0 ?_
             refine tk 1 ?_
             refine tk 2 ?_
             refine tk 3 ?_
             refine tk 4 ?_
             refine tk 5 ?_
             refine tu 6 ?_
             refine tu 7 ?_
             refine tk 8 ?_
             refine tk 9 ?_
             refine tk 10 ?_
             refine tk 11 ?_
             refine tk 12 ?_
             refine tk 13 ?_
             refine tk 14 ?_
             refine tk 15 ?_
             refine rd1 16 fun K hK=>?_
             go_simp
             go_at_call 38
             (with_reducible refine(HU.out.2.2 _).mono ?_)
             rintro x w' ⟨rfl,hb'⟩
             try dsimp only
             refine hK.out _ _ (hStep _ _ (by assumption) hb') fun hHeld=>?_
             clear hK K
             try simp only[Act.put,sb0,sc0,sc1]
             refine tk 17 ?_
             refine tk 18 ?_
             refine tk 19 ?_
             refine wpAnyH_done (by kernel_rfl) ?_ _
             have hbV:=hHeld.2.2.2.2.2.2.2.2
             clear hP0
             go_wp2_with fail
             go_meet
             exact⟨by rw[HOK.out];simp[HB5.out],hbV⟩
           case rest=>
            obtain⟨rfl,hb10⟩:=hcut
            have hB10:=HB9.out.trans (hb10.mono HB9.out.size)
            have HBX:=Lib.hid hB10
            clear hb10 hB10 hP0 hStep c1 c2 c3 c4 d1 d2 d3 d4
            rcases nok with _|_
            ·have HCO2:Hid (ColOK l r (m1+1)):=fun j h1 h2=>by
              rcases Nat.lt_or_ge j m1 with h3|h3
              ·exact HCO.out j h1 h3
              ·obtain rfl:j=m1:=by omega
               rw[←HEr.out,←HFF.out]
               simpa using HNK.out.symm
             go_wp2_with fail
             go_roundw
             case rel=>exact⟨m1+1,⟨by omega,by omega⟩,by go_num,HCO2.out,HBX.out⟩
             case measure=>simp[intOf];omega
            ·have HNS:Hid (pb=false):=HN.out fun hS=>by
              have h1:=((HS2.out.1 hS).1 r hlt).2.2 m1 (by omega) (by rw[←HNN.out];exact hlt2)
              rw[←HEr.out,←HFF.out]at h1
              have h2:=HNK.out
              rw[h1]at h2
              cases h2
             go_wp2_with fail
             go_ret
             exact⟨by rw[HNS.out];rfl,below_on H8.out.1 (Nat.le_refl _) HBX.out⟩
         ·have HRO2:Hid (RowOK l bd (r+1)):=fun i hi=>by
           rcases Nat.lt_or_ge i r with h3|h3
           ·exact HRO.out i h3
           ·obtain rfl:i=r:=by omega
            rw[←HEr.out]
            exact⟨HR3.out.1,HR3.out.2,fun j h1 h2=>by rw[HEr.out];exact HCO.out j h1 (by have:=HNN.out;omega)⟩
          have HBX:=Lib.hid hbx
          clear hbx
          go_wp2_with fail
          go_roundw
          case rel=>exact⟨r+1,by omega,by go_num,HRO2.out,HBX.out⟩
          case measure=>simp[intOf];omega
     ·have hrN:r=N:=by omega
      rw[hrN]at HRO
      have HBX:=Lib.hid hbel
      clear hbel
      go_wp2_with fail
      clear hrN hlt hr
      go_loopw [18] (fun i wr=>∃q:Nat,q≤n∧i= .int .i64 (q:Int)∧Hid (∀j,j<q→edAt bd j∈l)∧Below wz.heap.size wz wr) (fun i _=>n-(intOf i).toNat)
      case atStart=>exact⟨0,Nat.zero_le _,rfl,fun j hj=>absurd hj (Nat.not_lt_zero _),HBX.out⟩
      case round=>
       clear HBX
       obtain⟨q,hq,rfl,HQ,hbq⟩:=hrel
       by_cases hlt:q<n
       ·have hlt':(q:Int)<(n:Int):=by omega
        have hw1:IntKind.i64.wrap ((q:Int)+1)=(q:Int)+1:=by rw[IntKind.wrap_i64];omega
        obtain⟨ad,rfl,had,p1,p2,p3,p4⟩:=(H8.out.2.2.below hbq).edA hlt
        obtain⟨e,he⟩:∃e,e=edAt bd q:=⟨_,rfl⟩
        rw[←he]at p1 p2 p3 p4
        have KP:=Lib.hid (place2 l e A1 N c1 wr ((H8.out.2.1.below hbq).more hbq.size) (by omega))
        have HEr:=Lib.hid he
        have HB:=Lib.hid hbq
        clear he hbq
        go_wp2_with fail
        refine KP.out.mono ?_
        rintro x wa ⟨r0,rfl,⟨hr0,-⟩,hba⟩
        have HB1:=Lib.hid (HB.out.trans (hba.mono HB.out.size))
        have HR0:=Lib.hid hr0
        clear hr0 hba HB KP
        by_cases h0:r0<0
        ·have HNS:Hid (pb=false):=HN.out fun hS=>by
          have h1:=HR0.out.2 ((HS2.out.1 hS).2 e (by rw[HEr.out,edAt_lt (by have:=H8.out.2.2.lenEd;omega)];exact List.getElem_mem _))
          omega
         go_wp2_with fail
         go_ret
         exact⟨by rw[HNS.out];rfl,below_on H8.out.1 (Nat.le_refl _) HB1.out⟩
        ·have HQ2:Hid (∀j,j<q+1→edAt bd j∈l):=fun j hj=>by
          rcases Nat.lt_or_ge j q with h3|h3
          ·exact HQ.out j h3
          ·obtain rfl:j=q:=by omega
           rw[←HEr.out]
           exact HR0.out.1 (by omega)
         have h0':0≤r0:=by omega
         go_wp2_with fail
         go_roundw
         case rel=>exact⟨q+1,by omega,by go_num,HQ2.out,HB1.out⟩
         case measure=>simp[intOf];omega
       ·have HOS:Hid (pb=true):=HO.out (HS2.out.2 ⟨HRO.out,fun e he=>by
         obtain⟨j,hj,rfl⟩:=List.getElem_of_mem he
         have:=HQ.out j (by have:=H8.out.2.2.lenEd;omega)
         rw[edAt_lt hj]at this
         exact this⟩)
        have HB1:=Lib.hid hbq
        clear hbq
        go_wp2_with fail
        go_ret
        exact⟨by rw[HOS.out];rfl,below_on H8.out.1 (Nat.le_refl _) HB1.out⟩
end Go.Proofs.YtpkeacnacjnlcaaGreat
