/- slices.Clone of rings, ring.Norm with the room of its answer: the walks; Items of a plan: the model; of a sound plan no key stands twice. Plain laws; plan.clean: the walk; record.point, merestonelaw14.point: the walks; slices.Chunk of a ring's points: the iterator's contract, for every loop body that keeps the ring. -/
import Derived.Laws.IdiomStrings
import Derived.Deep.RegionLaw
import Derived.Test.YtpkeacnacjnlcaaGreatK01
import Derived.Test.YtpkeacnacjnlcaaGreatK02
import Derived.Test.YtpkeacnacjnlcaaGreatK03
import Derived.Test.YtpkeacnacjnlcaaGreatK06
import Derived.Test.YtpkeacnacjnlcaaGreatK09
import Derived.Test.YtpkeacnacjnlcaaGreatK12
import Derived.Test.YtpkeacnacjnlcaaGreatK13
import Derived.Test.YtpkeacnacjnlcaaGreatK14
namespace Go.Proofs.YtpkeacnacjnlcaaGreat
open Go.RowKit
end Go.Proofs.YtpkeacnacjnlcaaGreat
namespace Go.Proofs.YtpkeacnacjnlcaaGreat
theorem cornN_eq (n:Nat) (ps:List Parc):cornN n ps=n+(allE ps).length:=by
 induction ps generalizing n with
 |nil=>rfl
 |cons x r ih=>
  rw[cornN_cons,ih]
  unfold allE
  rw[List.flatMap_cons,List.length_append,edgesOf_len]
  omega
theorem listed_bd {p:Plan} (h:listedB p=true):1≤p.parcels.length∧p.parcels.length≤64∧p.outer.length+(allE p.parcels).length≤1024:=by
 unfold listedB at h
 rw[Bool.and_eq_true,Bool.and_eq_true,Bool.and_eq_true,decide_eq_true_eq,decide_eq_true_eq,decide_eq_true_eq,cornN_eq]at h
 omega
theorem normB_iff {xs:List Pt}:normB xs=true↔NormedP xs:=by unfold normB;simp
theorem matchB_iff {p:Plan}:matchB p=true↔MatchP p:=by unfold matchB;simp
theorem goodL_mem {xs:List Pt} (h:goodL xs=true) {p:Pt} (hp:p∈xs):good p=true:=by
 unfold goodL at h
 exact List.all_eq_true.1 h p hp
theorem edges_ok {xs:List Pt} (h:checkI xs=0):∀e∈edgesOf xs,e.a≠e.b∧(good e.a=true∧good e.b=true):=by
 obtain⟨-,h1,h2,-,h3⟩:=checkI_zero h
 have hn:=pairs_nodup h3
 intro e he
 unfold edgesOf at he
 rw[List.mem_map]at he
 obtain⟨k,hk,rfl⟩:=he
 rw[List.mem_range]at hk
 have hk2:(k+1)%xs.length<xs.length:=Nat.mod_lt _ (by omega)
 simp only
 rw[ptAt_lt hk,ptAt_lt hk2]
 refine⟨fun h'=>?_,goodL_mem h1 (List.getElem_mem _),goodL_mem h1 (List.getElem_mem _)⟩
 have hne:k≠(k+1)%xs.length:=by
  rcases Nat.lt_or_ge (k+1) xs.length with h4|h4
  ·rw[Nat.mod_eq_of_lt h4];omega
  ·have h5:k+1=xs.length:=by omega
   rw[h5,Nat.mod_self];omega
 have hp:=List.pairwise_iff_getElem.1 hn
 rcases Nat.lt_or_gt_of_ne hne with h4|h4
 ·exact hp _ _ hk hk2 h4 h'
 ·exact hp _ _ hk2 hk h4 h'.symm
theorem allE_mem {ps:List Parc} {e:Ed}:e∈allE ps↔∃x∈ps,e∈edgesOf x.ring:=by unfold allE;rw[List.mem_flatMap]
/-- What plan.clean wants of a plan. -/
def PreC (p:Plan):Prop:=(2≤(allE p.parcels).length∧(allE p.parcels).length≤1048576)∧(∀e∈allE p.parcels,e.a≠e.b)∧(∀e∈allE p.parcels,good e.a=true∧good e.b=true)∧(allE p.parcels).Nodup
theorem pre_of {p:Plan} (h1:listedB p=true) (h3:∀x∈p.parcels,NormedP x.ring) (h4:MatchP p):PreC p:=by
 obtain⟨b1,b2,b3⟩:=listed_bd h1
 have hE:∀e∈allE p.parcels,e.a≠e.b∧(good e.a=true∧good e.b=true):=fun e he=>by
  obtain⟨x,hx,hm⟩:=allE_mem.1 he
  exact edges_ok (h3 x hx).1 e hm
 refine⟨⟨?_,by omega⟩,fun e he=>(hE e he).1,fun e he=>(hE e he).2,h4.1⟩
 rcases hp:p.parcels with _|⟨x,r⟩
 ·rw[hp]at b1;simp at b1
 ·have:=(checkI_zero (h3 x (by rw[hp];simp)).1).2.2.1
  unfold allE
  rw[List.flatMap_cons,List.length_append,edgesOf_len]
  omega
theorem areas_of {p:Plan} (h2:NormedP p.outer) (h3:∀x∈p.parcels,NormedP x.ring):areaE p.outer=0∧∀x∈p.parcels,areaE x.ring=0:=by
 have hz:∀xs,checkI xs=0→areaE xs=0:=fun xs h=>by
  apply Classical.byContradiction
  intro h'
  exact h' (by rw[←checkI_err h'];exact h)
 exact⟨hz _ h2.1,fun x hx=>hz _ (h3 x hx).1⟩
theorem planE_ok {p:Plan} (h:SoundP p):planE p=0:=by
 unfold planE planB
 simp[h]
theorem planE_no {p:Plan} (h:¬SoundP p):planE p=2:=by
 unfold planE planB
 simp[h]
theorem any_norm {p:Plan}:(p.parcels.any fun x=>!normB x.ring)=false↔∀x∈p.parcels,NormedP x.ring:=by
 rw[List.any_eq_false]
 constructor
 ·intro h x hx
  have:=h x hx
  rw[Bool.not_eq_true',Bool.not_eq_false]at this
  exact normB_iff.1 this
 ·intro h x hx
  rw[normB_iff.2 (h x hx)]
  decide
theorem planE_eq (p:Plan) (b5:Bool) (h5:b5=true↔PairsE (allE p.parcels)):
 planE p=if listedB p=true∧normB p.outer=true∧(p.parcels.any fun x=>!normB x.ring)=false∧matchB p=true∧b5=true∧decide (areasL p.parcels=areaZ p.outer)=true then 0 else 2:=by
 have hs:SoundP p↔listedB p=true∧normB p.outer=true∧(p.parcels.any fun x=>!normB x.ring)=false∧matchB p=true∧b5=true∧decide (areasL p.parcels=areaZ p.outer)=true:=by
  rw[normB_iff,matchB_iff,h5,decide_eq_true_eq,any_norm]
  exact Iff.rfl
 by_cases h:SoundP p
 ·rw[planE_ok h,if_pos (hs.1 h)]
 ·rw[planE_no h,if_neg (fun h'=>h (hs.2 h'))]
end Go.Proofs.YtpkeacnacjnlcaaGreat
namespace Go.Proofs.YtpkeacnacjnlcaaGreat
open Go.RowKit
theorem pIn_one {W:World} {B g n c:Nat} {A:Option Addr} {x:Parc} (hb:Blk W g 27 #[.int .i64 x.id,.slice A n c,.string x.owner]) (hr:Reads W B 2 A n (ptsV x.ring)) (h1:n≤c) (h2:c≤9223372036854775807) (hg:g<B):PIn W B (some ⟨g,0,none⟩) 1 [x]:=by
 refine⟨rfl,fun _=>⟨_,rfl,hg,fun k hk=>?_⟩⟩
 obtain rfl:k=0:=by omega
 simp only[add_row]
 exact⟨by rw[Blk.cell hb];rfl,⟨A,n,c,by rw[Blk.cell hb];rfl,hr,h1,h2⟩,by rw[Blk.cell hb];rfl⟩
end Go.Proofs.YtpkeacnacjnlcaaGreat
namespace Go.Proofs.YtpkeacnacjnlcaaGreat
/-- A point's bytes. -/
def ptB (q:Pt):List UInt8:=beB (q.x+1073741824).toNat 4++beB (q.y+1073741824).toNat 4
/-- A number's bytes. -/
def idBy (id:Int):List UInt8:=beB id.toNat 4
/-- The points of an item. -/
def chunkB (r:List Pt) (k:Nat):List UInt8:=((r.drop (16*k)).take 16).flatMap ptB
/-- How many items have a ring's points. -/
def chkN (n:Nat):Nat:=(n+15)/16
def ringIts (head:List UInt8) (r:List Pt) (s:Nat):List It:=(List.range (chkN r.length)).map fun k=>⟨head++[UInt8.ofNat (s+k)],chunkB r k⟩
def edgKy (e:Ed):List UInt8:=101::(ptB e.a++ptB e.b)
def clKey (id:Int) (c:Pt):List UInt8:=99::UInt8.ofNat (c.x+128).toNat::UInt8.ofNat (c.y+128).toNat::idBy id
def pcHead (id:Int):List UInt8:=112::idBy id
noncomputable def parIts (x:Parc):List It:=
 (⟨pcHead x.id++[0],x.owner.data.toList⟩::ringIts (pcHead x.id) x.ring 1)++((edgesOf x.ring).map (fun e=>⟨edgKy e,idBy x.id⟩)++(cellsL x.ring).map (fun c=>⟨clKey x.id c,[]⟩))
noncomputable def planIts (p:Plan):List It:=ringIts [111] p.outer 0++p.parcels.flatMap parIts
theorem beB_inj {a b s:Nat} (ha:a<256^s) (hb:b<256^s) (h:beB a s=beB b s):a=b:=by
 have h1:=congrArg numL h
 rw[numL_beB,numL_beB,Nat.mod_eq_of_lt ha,Nat.mod_eq_of_lt hb]at h1
 exact h1
theorem idBy_len (id:Int):(idBy id).length=4:=beB_length _ _
theorem ptB_len (q:Pt):(ptB q).length=8:=by unfold ptB;rw[List.length_append,beB_length,beB_length]
theorem idBy_inj {a b:Int} (ha:idB a=true) (hb:idB b=true) (h:idBy a=idBy b):a=b:=by
 unfold idB at ha hb
 simp only[decide_eq_true_eq]at ha hb
 have:=beB_inj (a:=a.toNat) (b:=b.toNat) (s:=4) (by omega) (by omega) h
 omega
theorem ptB_inj {a b:Pt} (ha:good a=true) (hb:good b=true) (h:ptB a=ptB b):a=b:=by
 rw[good_iff]at ha hb
 unfold ptB at h
 obtain⟨h1,h2⟩:=List.append_inj h (by rw[beB_length,beB_length])
 have e1:=beB_inj (s:=4) (by omega) (by omega) h1
 have e2:=beB_inj (s:=4) (by omega) (by omega) h2
 rcases a with ⟨a,a'⟩
 rcases b with ⟨b,b'⟩
 simp only at ha hb e1 e2
 rw[show a=b by omega,show a'=b' by omega]
theorem edgKy_inj {e f:Ed} (h1:good e.a=true) (h2:good e.b=true) (h3:good f.a=true) (h4:good f.b=true) (h:edgKy e=edgKy f):e=f:=by
 unfold edgKy at h
 obtain⟨h5,h6⟩:=List.append_inj (List.cons.inj h).2 (by rw[ptB_len,ptB_len])
 rcases e with ⟨a,b⟩
 rcases f with ⟨c,d⟩
 simp only at *
 rw[ptB_inj h1 h3 h5,ptB_inj h2 h4 h6]
theorem ringIts_keys (head:List UInt8) (r:List Pt) (s:Nat):(ringIts head r s).map (·.k)=(List.range (chkN r.length)).map fun k=>head++[UInt8.ofNat (s+k)]:=by
 unfold ringIts
 rw[List.map_map]
 rfl
theorem chkN_le {n m:Nat} (h:n≤16*m):chkN n≤m:=by unfold chkN;omega
theorem nodup_map_inj {α β:Type} {f:α→β} {l:List α} (hn:l.Nodup) (h:∀x∈l,∀y∈l,f x=f y→x=y):(l.map f).Nodup:=by
 induction l with
 |nil=>exact List.nodup_nil
 |cons a l ih=>
  rw[List.nodup_cons]at hn
  rw[List.map_cons,List.nodup_cons]
  refine⟨fun hm=>?_,ih hn.2 fun x hx y hy=>h x (List.mem_cons_of_mem _ hx) y (List.mem_cons_of_mem _ hy)⟩
  obtain⟨y,hy,e⟩:=List.mem_map.1 hm
  have:=h y (List.mem_cons_of_mem _ hy) a (List.mem_cons_self ..) e
  exact hn.1 (this▸hy)
theorem ringIts_nodup (head:List UInt8) (r:List Pt) (s:Nat) (h:r.length≤128) (_hs:s≤1):((ringIts head r s).map (·.k)).Nodup:=by
 rw[ringIts_keys]
 refine nodup_map_inj List.nodup_range fun i hi j hj e=>?_
 rw[List.mem_range]at hi hj
 have hc:=chkN_le (n:=r.length) (m:=8) (by omega)
 have e1:=congrArg UInt8.toNat (List.cons.inj (List.append_cancel_left e)).1
 simp only[UInt8.toNat_ofNat']at e1
 omega
theorem cell_key {v:Win} {c:Pt} (hc:c∈spanC v): -4≤c.x∧c.x≤4∧ -4≤c.y∧c.y≤4:=by
 unfold spanC at hc
 split at hc
 case isFalse=>simp at hc
 case isTrue hv=>
  obtain⟨⟨b1,b2,b3⟩,b4,b5,b6⟩:=win_good hv
  unfold spanW at hc
  obtain⟨k,hk,rfl⟩:=List.mem_iff_getElem.1 hc
  rw[spanR_get]
  rw[spanR_length]at hk
  have hm:0<nRow v:=by
   rcases Nat.eq_zero_or_pos (nRow v)with h0|h0
   ·rw[h0]at hk;simp at hk
   ·exact h0
  have h1:k/nRow v<nCol v:=Nat.div_lt_of_lt_mul (by rw[Nat.mul_comm];exact hk)
  have h2:k%nRow v<nRow v:=Nat.mod_lt _ hm
  generalize k/nRow v=q at *
  generalize k%nRow v=r at *
  unfold nCol at h1
  unfold nRow at h2
  simp only
  omega
theorem spanC_nodup (v:Win):(spanC v).Nodup:=by
 unfold spanC
 split
 case isFalse=>exact List.nodup_nil
 case isTrue hv=>
  unfold spanW
  refine List.pairwise_iff_getElem.2 fun i j hi hj hij e=>?_
  rw[spanR_get,spanR_get]at e
  have e1:=congrArg Pt.x e
  have e2:=congrArg Pt.y e
  simp only at e1 e2
  have d1:=Nat.div_add_mod i (nRow v)
  have d2:=Nat.div_add_mod j (nRow v)
  have e3:i/nRow v=j/nRow v:=by omega
  have e4:i%nRow v=j%nRow v:=by omega
  rw[e3,e4]at d1
  omega
end Go.Proofs.YtpkeacnacjnlcaaGreat
namespace Go.Proofs.YtpkeacnacjnlcaaGreat
open Go.RowKit
attribute [local go_sem] Oper.semAt_some
theorem marks_row {B:Nat} {Ds:List Nat} {W W':World} {base:Nat} {t:TypeId} {size n:Nat} {v:Value} {xs:List Value} (h:Marks B Ds W) (ho:W.ownsRow base t size v n xs) (hg:W.grownBy W' v.ownBlock):Marks B Ds W':=
 h.kept fun D hD=>hg.block D (h.lt hD) (fun e=>by
  rcases ho.2 with ⟨rfl,-⟩|⟨g,c,cur,rfl,-,hc,-⟩
  ·simp[Value.ownBlock]at e
  ·have:g=D:=by simpa[Value.ownBlock]using e.symm
   subst this
   have h1:=(h.2 _ hD).2
   rw[hc]at h1
   cases h1)
theorem normE_take {ps:List Parc} {k:Nat} (hk:k<ps.length):normE (ps.take (k+1))=normE (ps.take k)++(edgesOf (pcAt ps k).ring).map Ed.norm:=by
 unfold normE
 rw[allE_take hk,List.map_append]
/-- What lies below the mark, and the one box, is as it was. -/
theorem cleanK_below {S bs:Nat} {W W':World} (h:Below W.heap.size W W') (h1:S≤W.heap.size) (h2:bs<W.heap.size):KeepsOthers W W'∧KeepE S bs W W':=⟨keeps_below h,KeepE.below h h1 h2⟩
theorem own_heap {W W':World} {base:Nat} {t:TypeId} {size n:Nat} {v:Value} {xs:List Value} (h:W.ownsRow base t size v n xs) (hk:∀g,v.ownBlock=some g→W'.heap[g]?=W.heap[g]?):W'.ownsRow base t size v n xs:=by
 refine⟨h.1,?_⟩
 rcases h.2 with h2|⟨g,c,cur,e,h3,hc,h4⟩
 ·exact .inl h2
 ·exact .inr ⟨g,c,cur,e,h3,(hk g (by rw[e];rfl)).trans hc,h4⟩
theorem heap_put4 (W:World) (B:Nat) (a b c d:Value) {k:Nat} (hk:k≠B):((((W.setCell ⟨B,0,none⟩ a).setCell ⟨B,1,none⟩ b).setCell ⟨B,2,none⟩ c).setCell ⟨B,3,none⟩ d).heap[k]?=W.heap[k]?:=by
 rw[Below.heap_setCell _ _ _ k (by simpa using hk),Below.heap_setCell _ _ _ k (by simpa using hk),Below.heap_setCell _ _ _ k (by simpa using hk),Below.heap_setCell _ _ _ k (by simpa using hk)]
theorem four_cells (W:World) (a b c d:Value) (t:TypeId) (k:Nat) (hk:k=W.heap.size):∀(j:Nat) (u:Value),[a,b,c,d][j]?=some u→(W.alloc (.cells #[a,b,c,d] t)).cell? ((⟨k,0,none⟩:Addr).add j)=some u:=by
 subst hk
 intro j u hu
 rw[add_row,World.cell?_alloc_mark,←Array.getElem?_toList]
 exact hu
theorem blk_row {W:World} {g base size n:Nat} {t e:TypeId} {cs:Array Value} {v:Value} {xs:List Value} (h:Blk W g t cs) (hne:t≠e) (ho:W.ownsRow base e size v n xs):some g≠v.ownBlock:=by
 rcases ho.2 with ⟨rfl,-⟩|⟨k,c,cur,rfl,-,hc,-⟩
 ·simp[Value.ownBlock]
 ·intro e'
  obtain rfl:g=k:=by simpa[Value.ownBlock]using e'
  rw[show W.heap[g]?=_ from h]at hc
  cases hc
  exact hne rfl
theorem clean_append {w W V w3:World} {S bs B k m:Nat} {v v' rv:Value} {xs ys:List Value} {tmp:Obj} {A A':Option Addr} {n c n' c':Nat} {Ds:List Nat}
 (h1:KeepsOthers W V) (h2:KeepE S bs W V) (bv:Boxed V (S+1) 71 v) (ho:V.ownsRow S 76 4 v k xs) (dr:Boxed V bs 25 rv)
 (dK:PlK V S A n c A' n' c') (dk:Marks S Ds V) (dB:Below S w V) (hbs:bs≠S+1) (hown':w3.ownsRow S 76 4 v' m ys) (hgrow:(V.alloc tmp).grownBy w3 v.ownBlock):
 KeepsFrom B W (w3.setCell ⟨S+1,0,none⟩ v')∧KeepE S bs W (w3.setCell ⟨S+1,0,none⟩ v')∧(Boxed (w3.setCell ⟨S+1,0,none⟩ v') (S+1) 71 v'∧(w3.setCell ⟨S+1,0,none⟩ v').ownsRow S 76 4 v' m ys)∧
 Boxed (w3.setCell ⟨S+1,0,none⟩ v') bs 25 rv∧PlK (w3.setCell ⟨S+1,0,none⟩ v') S A n c A' n' c'∧Marks S Ds (w3.setCell ⟨S+1,0,none⟩ v')∧Below S w (w3.setCell ⟨S+1,0,none⟩ v')∧w3.cell? ⟨S+1,0,none⟩=some v∧w3.frozen? ⟨S+1,0,none⟩=false:=by
 have hlt:=bv.lt
 obtain⟨q1,q2,q3,q4,q5⟩:=Boxed.appended bv (by decide) ho (by omega) (by omega) hown' hgrow
 have r1:Boxed (w3.setCell ⟨S+1,0,none⟩ v') bs 25 rv:=((dr.alloc tmp).kept hgrow (dr.not_row (by decide) ho)).other (B':=S+1) hbs v'
 refine⟨(h1.trans q4).from _,⟨Nat.le_trans h2.1 q4.size,fun i hi=>?_⟩,⟨q2,q3⟩,r1,?_,?_,dB.trans q5,q1.cell,q1.frozen⟩
 ·rw[←h2.2 i hi]
  rcases hi with hi|rfl
  ·exact q5.block i hi
  ·exact(show _=_ from r1).trans (show _=_ from dr).symm
 ·exact Blk.far (Blk.grown (Blk.alloc dK tmp) hgrow (blk_row dK (by decide) ho)) (by simp) _
 ·have hm:=marks_row (dk.on ((Below.refl _ _).alloc (Nat.le_refl _) tmp)) (ho.alloc tmp) hgrow
  exact hm.kept fun D hD=>Below.heap_setCell _ _ _ D (marks_box hm q1 hD)
theorem Reads.other {W:World} {B g m size:Nat} {xs:List Value} (h:Reads W B size (some ⟨g,0,none⟩) m xs) {q:Addr} (hq:g≠q.block) (u:Value):Reads (W.setCell q u) B size (some ⟨g,0,none⟩) m xs:=by
 refine⟨h.1,fun h0=>?_⟩
 obtain⟨ad,e,hb,hc⟩:=h.2 h0
 cases e
 refine⟨_,rfl,hb,fun j u hu=>Eq.trans ?_ (hc j u hu)⟩
 have hne:(⟨g,0,none⟩:Addr).add j≠q:=fun e=>hq (by have:=congrArg Addr.block e;rw[block_of_add]at this;exact this)
 first
  |exact World.cell?_setCell_other _ _ _ _ hne
  |exact World.cell?_setCell_other _ _ _ _ hne.symm
  |exact World.cell?_setCell_other hne
  |exact World.cell?_setCell_other hne.symm
set_option maxRecDepth 100000 in
set_option maxHeartbeats 6400000 in
theorem clean_any (p:Plan) (A A':Option Addr) (n c n' c':Nat) (w:World) (h:PlanAt w w.heap.size A n c A' n' c' p) (hE:PreC p) (b:Bool) (hb:b=true↔PairsE (allE p.parcels)):
 Calls Tryz.prog 93 #[planV A n c A' n' c'] w fun e w'=>e= .returned (.bool b)∧Below w.heap.size w w':=by
 obtain⟨hl1,hl2,hl3,hl4⟩:=h.lens
 obtain⟨i0,hi0,hz0,hz1,hz2⟩:=info_parts info_ed
 have hB0:Below w.heap.size w ((w.alloc (.cells #[.slice A n c,.slice A' n' c'] 30)).alloc (.cells #[.slice none 0 0] 71)):=((Below.refl _ _).alloc (Nat.le_refl _) _).alloc (by simp) _
 have hK0:PlK ((w.alloc (.cells #[.slice A n c,.slice A' n' c'] 30)).alloc (.cells #[.slice none 0 0] 71)) w.heap.size A n c A' n' c':=Blk.alloc (PlK.new w A n c A' n' c') _
 have hL0:=Boxed.new (w.alloc (.cells #[.slice A n c,.slice A' n' c'] 30)) 71 (.slice none 0 0)
 rw[World.size_alloc]at hL0
 obtain⟨hE,hEd,hEg,hEn⟩:=hE
 have HP:=Lib.hid (And.intro h hE)
 have HC:Hid (∀d:List Ed,d.Perm (normE p.parcels)→d.Pairwise (fun e f=>¬cmpE f e<0)→(b=true↔SweepE (cp d))∧(∀e∈cp d,good e.a=true∧good e.b=true)∧(cp d).Pairwise fun e f=>e≠f∧ordI e.a f.a≤0):=fun d h1 h2=>by
  obtain⟨g1,g2⟩:=clean_law h1 h2 hEn hEd hEg
  exact⟨hb.trans g1.symm,g2⟩
 clear hEd hEg hEn hb
 have HL2:=Lib.hid hl2
 have H0:=Lib.hid (And.intro hB0 (And.intro hK0 hL0))
 obtain⟨q1,q2,-⟩:=hK0.facts
 clear hB0 hK0 hL0 h hE hl1 hl2
 refine(callsIn_wide (n:=3)).1 ?_
 refine callsIn_of_wp_marks Tryz.func93 rfl trivial ?_ rfl
 simp only[Tryz.ntmps93,List.size_toArray,List.length_cons,List.length_nil,Nat.reduceAdd,Nat.reduceSub,Array.replicate_succ,Array.replicate_zero,List.push_toArray,List.append_toArray,List.nil_append,List.cons_append]
 gi_wp2_with fail
 obtain⟨wo,hwo⟩:∃wo:World,wo=(w.alloc (.cells #[.slice A n c,.slice A' n' c'] 30)).alloc (.cells #[.slice none 0 0] 71):=⟨_,rfl⟩
 rw[←hwo]at H0 q1 q2
 rw[←hwo]
 clear hwo q1 q2
 refine wpIn_loop (fun a' wr=>∃(u5 u16 u17 u18 u19 u20 u21 u36:Value) (k:Nat) (Ds:List Nat),(k≤n'∧Marks w.heap.size Ds wr∧Below w.heap.size w wr∧PlK wr w.heap.size A n c A' n' c'∧∃sl,Boxed wr (w.heap.size+1) 71 sl∧wr.ownsRow w.heap.size 76 4 sl (normE (p.parcels.take k)).length (edsV (normE (p.parcels.take k))))∧
  a'={ tmps:=#[planV A n c A' n' c',.pointer (some ⟨w.heap.size,0,none⟩),.bool false,.pointer (some ⟨w.heap.size+1,0,none⟩),undef,u5,undef,undef,undef,undef,undef,undef,.pointer (some ⟨w.heap.size,1,none⟩),.slice A' n' c',.int .i64 (n':Int),.int .i64 (k:Int),u16,u17,u18,u19,u20,u21,undef,undef,undef,undef,undef,undef,undef,undef,undef,undef,undef,undef,undef,undef,u36,undef,undef,undef,undef,undef,undef,undef,undef,undef,undef,undef,undef,undef,undef,undef,undef,undef,undef,undef,undef,undef,undef,undef,undef,undef,undef,undef,undef,undef,undef,undef,undef,undef],defers:=marksL Ds }) (fun a' _=>n'-(intOf (a'.tmps.getD 15 undef)).toNat) ?_ ?_
 ·exact⟨undef,undef,undef,undef,undef,undef,undef,undef,0,[],⟨Nat.zero_le _,Marks.nil _ _,H0.out.1,H0.out.2.1,_,H0.out.2.2,World.ownsRow_nil _ _ _ _⟩,rfl⟩
 rintro a' wr ⟨u5,u16,u17,u18,u19,u20,u21,u36,k,Ds,⟨hk,hmk,hbel,hK,sl,bL,hown⟩,rfl⟩
 clear H0
 by_cases hlt:k<n'
 ·have hlt':(k:Int)<(n':Int):=by omega
  have hw1:IntKind.i64.wrap ((k:Int)+1)=(k:Int)+1:=by rw[IntKind.wrap_i64];omega
  obtain⟨ad,rfl⟩:=HP.out.1.parcs.some_ (by omega)
  obtain⟨-,p1,⟨Ak,nk,ck,p2,hrk,hk1,hk2⟩,p3⟩:=(HP.out.1.parcs.below hbel).at_ hlt
  obtain⟨x,hx⟩:∃x,x=pcAt p.parcels k:=⟨_,rfl⟩
  rw[←hx]at p1 p3 hrk
  have HXX:=Lib.hid hx
  have HX:=Lib.hid (And.intro hmk (And.intro hbel (And.intro hK (And.intro bL (And.intro hown hrk)))))
  clear hx hmk hbel hK bL hown hrk
  gi_wp2_with fail
  refine⟨trivial,?_⟩
  refine(callsIn_wide.2 (edges_any Ak nk ck _)).mono ?_
  rintro e w3 ⟨rfl,rfl⟩
  gi_wp2_with fail
  obtain⟨hmk,hbel,hK,bL,hown,hrk⟩:=HX.out
  have hsz:w.heap.size+1<wr.heap.size:=bL.lt
  have c2:=Boxed.new (wr.alloc (.cells #[.int .i64 x.id,.slice Ak nk ck,.string x.owner] 27)) 25 (.slice Ak nk ck)
  rw[World.size_alloc]at c2
  have hB1:Below wr.heap.size wr ((wr.alloc (.cells #[.int .i64 x.id,.slice Ak nk ck,.string x.owner] 27)).alloc (.cells #[.slice Ak nk ck] 25)):=((Below.refl _ _).alloc (Nat.le_refl _) _).alloc (by simp) _
  have hz1':((wr.alloc (.cells #[.int .i64 x.id,.slice Ak nk ck,.string x.owner] 27)).alloc (.cells #[.slice Ak nk ck] 25)).heap.size=wr.heap.size+2:=by simp
  generalize (wr.alloc (.cells #[.int .i64 x.id,.slice Ak nk ck,.string x.owner] 27)).alloc (.cells #[.slice Ak nk ck] 25)=w1 at *
  obtain⟨L0,hL0⟩:∃L0,L0=normE (p.parcels.take k):=⟨_,rfl⟩
  rw[←hL0]at hown
  have hDl:∀D∈Ds,D<w1.heap.size:=fun D hD=>by have:=hmk.lt hD;omega
  have HNK:=Lib.hid hrk.lenPt
  have hfx:x.fits:=by rw[HXX.out,pcAt_lt (by have:=HL2.out;omega)];exact HP.out.1.fits.2.2 _ (List.getElem_mem _)
  have hlen:nk≤4611686018427387904:=by have:=hfx.1;have:=HNK.out;omega
  refine wpIn_rangeFunc_ownH rfl (by omega) (gf:=153) (lb:=#[.pointer (some ⟨wr.heap.size+1,0,none⟩)]) rfl trivial (enters_of Tryz.func153 (by kernel_rfl) rfl)
   (edges_stopsR 2 (by omega) w.heap.size (wr.heap.size+1) ck nk Ak x.ring hlen w1 (by omega) (by omega) c2.cell (hrk.below (hB1.mono (by omega)))) (fun h k=>h.trans k)
   (fun W l o o' hl h _ _=>⟨by simp,fun i hi=>World.putObj_heap_other (by omega)⟩) (Below.refl _ _) (fun _=>rfl)
   (fun pre W=>(∃v,Boxed W (w.heap.size+1) 71 v∧W.ownsRow w.heap.size 76 4 v (L0++pre.map fun y=>(edgeK x.ring y.1).norm).length (edsV (L0++pre.map fun y=>(edgeK x.ring y.1).norm))∧True)∧Boxed W (wr.heap.size+1) 25 (.slice Ak nk ck)∧PlK W w.heap.size A n c (some ad) n' c'∧Marks w.heap.size Ds W∧Below w.heap.size w W)
   (fun _ _ _=>False)
   (OwnFrom.and (Own.from (holdsRow_own w.heap.size (w.heap.size+1) _ _ 4 (fun pre:List {k:Nat // k<nk}=>(L0++pre.map fun y=>(edgeK x.ring y.1).norm).length) (fun pre=>edsV (L0++pre.map fun y=>(edgeK x.ring y.1).norm)) (fun _ _=>True)) _)
     (OwnFrom.and (Own.from (boxed_own _ _ _) _) (OwnFrom.and (Own.from (blk_own _ _ _) _) (OwnFrom.and (marks_from hDl) (ownFrom_below (Nat.le_refl _) (by omega))))))
   (fun _ _ _ _ _ hs _ _=>hs)
   ⟨⟨sl,Blk.below bL hB1 bL.lt,by simpa using own_below hown hB1,trivial⟩,c2,hK.on hB1,hmk.on hB1,below_on hbel (Nat.le_refl _) hB1⟩
   (fun y a' W=>∃(Bx:Nat) (v16 v17 v18 v19 v20 v21 v22 v23 v36:Value),w1.heap.size≤Bx∧Blk W Bx 76 #[.int .i64 (ptAt x.ring y.1).x,.int .i64 (ptAt x.ring y.1).y,.int .i64 (ptAt x.ring ((y.1+1)%x.ring.length)).x,.int .i64 (ptAt x.ring ((y.1+1)%x.ring.length)).y]∧(∃v0,Boxed W (w.heap.size+1) 71 v0∧v0.ownBlock≠some Bx)∧
     a'={ tmps:=#[planV A n c (some ad) n' c',.pointer (some ⟨w.heap.size,0,none⟩),.bool false,.pointer (some ⟨w.heap.size+1,0,none⟩),undef,.pointer (some ⟨wr.heap.size,0,none⟩),undef,.pointer (some ⟨Bx,0,none⟩),undef,undef,undef,undef,.pointer (some ⟨w.heap.size,1,none⟩),.slice (some ad) n' c',.int .i64 (n':Int),.int .i64 (k:Int),v16,v17,v18,v19,v20,v21,v22,v23,undef,undef,undef,undef,undef,undef,undef,undef,undef,undef,undef,undef,v36,undef,undef,undef,undef,undef,undef,undef,undef,undef,undef,undef,undef,undef,undef,undef,undef,undef,undef,undef,undef,undef,undef,undef,undef,undef,undef,undef,undef,undef,undef,undef,undef,undef],defers:=[] })
   (fun y a'=>fun s X Y row ⟨Bx,v16,v17,v18,v19,v20,v21,v22,v23,v36,hbx,hs,⟨v0,hv0,hv1⟩,e⟩ hg hrow=>⟨Bx,v16,v17,v18,v19,v20,v21,v22,v23,v36,hbx,blk_own Bx _ (fun _:Unit=>_) () X Y row hs hg (fun r hr=>(hrow r hr).2),⟨v0,boxed_own _ _ (fun _:Unit=>_) () X Y row hv0 hg (fun r hr=>(hrow r hr).2),hv1⟩,e⟩) ?assign ?body ?done ?stop
  case assign=>
   rintro l pre y W K ⟨⟨v,bv,ho,_⟩,dr,dK,dk,dB⟩ hK'
   unfold edgeAt edgeV
   gi_wp2
   have h1:=dr.lt
   have h2:=dB.size
   exact hK' _ _ ((KeepsOthers.alloc _ _).from _) (KeepE.alloc (by omega) h1 _) ⟨⟨v,bv.alloc _,ho.alloc _,trivial⟩,dr.alloc _,Blk.alloc dK _,dk.on ((Below.refl _ _).alloc (Nat.le_refl _) _),dB.alloc dB.size _⟩ ⟨W.heap.size,_,_,_,_,_,_,_,_,_,by omega,Blk.new W _ _,⟨v,bv.alloc _,fun e=>by have:=(ho.lt _ e).2;omega⟩,rfl⟩
  case body=>
   rintro l pre ⟨y,hyn⟩ a' W hl' ⟨r,hrr⟩ ⟨⟨v,bv,ho,_⟩,dr,dK,dk,dB⟩ ⟨Bx,v16,v17,v18,v19,v20,v21,v22,v23,v36,hbx,hBx,⟨v0,hv0,hv1⟩,rfl⟩ hlen'
   obtain rfl:v=v0:=by
    have h1:=bv.cell
    rw[hv0.cell]at h1
    exact(Option.some.inj h1).symm
   obtain⟨e,he⟩:∃e,e=edgeK x.ring y:=⟨_,rfl⟩
   have he1:e.a=ptAt x.ring y:=by rw[he];rfl
   have he2:e.b=ptAt x.ring ((y+1)%x.ring.length):=by rw[he];rfl
   simp only[←he1,←he2]at hBx
   clear he1 he2
   have hap:(L0++(pre++[(⟨y,hyn⟩:{k:Nat // k<nk})]).map fun y=>(edgeK x.ring y.1).norm)=(L0++pre.map fun y=>(edgeK x.ring y.1).norm)++[e.norm]:=by rw[List.map_append,←List.append_assoc,List.map_singleton,he]
   have HE:=Lib.hid hap
   clear he hap
   obtain⟨M,hM⟩:∃M,M=(L0++pre.map fun y=>(edgeK x.ring y.1).norm):=⟨_,rfl⟩
   rw[←hM]at ho HE
   have hMl:M.length<1048576:=by
    have g1:=allE_take (ps:=p.parcels) (k:=k) (by have:=HL2.out;omega)
    have g2:=allE_take_le p.parcels (k+1)
    rw[g1,List.length_append,edgesOf_len,←HXX.out,HNK.out]at g2
    have g3:=HP.out.2.2
    rw[hM,List.length_append,List.length_map,hL0,normE,List.length_map]
    omega
   have HM:=Lib.hid hMl
   clear hM hMl
   have x1:W.cell? ⟨Bx,0,none⟩=some (.int .i64 e.a.x):=by rw[Blk.cell hBx 0];rfl
   have x2:W.cell? ⟨Bx,1,none⟩=some (.int .i64 e.a.y):=by rw[Blk.cell hBx 1];rfl
   have x3:W.cell? ⟨Bx,2,none⟩=some (.int .i64 e.b.x):=by rw[Blk.cell hBx 2];rfl
   have x4:W.cell? ⟨Bx,3,none⟩=some (.int .i64 e.b.y):=by rw[Blk.cell hBx 3];rfl
   have HW:=Lib.hid (And.intro bv (And.intro ho (And.intro dr (And.intro dK (And.intro dk (And.intro dB (And.intro hBx hv1)))))))
   clear bv ho dr dK dk dB hBx hv0 hv1 hrr
   gi_wp2_with fail
   refine⟨trivial,?_⟩
   refine(CallsIn.inRound l (callsIn_wide.2 (order_any e.a e.b W))).mono ?_
   rintro r' W1 ⟨rfl,hb1⟩
   obtain⟨bv,ho,dr,dK,dk,dB,hBx,hv1⟩:=HW.out
   have hn:e.norm=if 0<ordI e.a e.b then e.back else e:=rfl
   have HN:=Lib.hid hn
   clear hn
   generalize ordI e.a e.b=o at *
   by_cases hpos:0<o
   ·have hBx1:=Blk.below hBx hb1 (Blk.lt hBx)
    have x1:W1.cell? ⟨Bx,0,none⟩=some (.int .i64 e.a.x):=by rw[Blk.cell hBx1 0];rfl
    have x2:W1.cell? ⟨Bx,1,none⟩=some (.int .i64 e.a.y):=by rw[Blk.cell hBx1 1];rfl
    have x3:W1.cell? ⟨Bx,2,none⟩=some (.int .i64 e.b.x):=by rw[Blk.cell hBx1 2];rfl
    have x4:W1.cell? ⟨Bx,3,none⟩=some (.int .i64 e.b.y):=by rw[Blk.cell hBx1 3];rfl
    have HW1:=Lib.hid (And.intro hb1 hBx1)
    clear bv ho dr dK dk dB hBx hv1 hb1 hBx1
    gi_wp2_with fail
    refine⟨trivial,?_⟩
    refine(CallsIn.inRound l (callsIn_wide.2 (turnedEd_any e W1))).mono ?_
    rintro r2 W2 ⟨rfl,hb2⟩
    obtain⟨hb1,hBx1⟩:=HW1.out
    have hBx2:=Blk.below hBx1 hb2 (Blk.lt hBx1)
    have f1:=Blk.frozen hBx2 0
    have f2:=Blk.frozen hBx2 1
    have f3:=Blk.frozen hBx2 2
    have f4:=Blk.frozen hBx2 3
    have x1:W2.cell? ⟨Bx,0,none⟩=some (.int .i64 e.a.x):=by rw[Blk.cell hBx2 0];rfl
    have x2:W2.cell? ⟨Bx,1,none⟩=some (.int .i64 e.a.y):=by rw[Blk.cell hBx2 1];rfl
    have x3:W2.cell? ⟨Bx,2,none⟩=some (.int .i64 e.b.x):=by rw[Blk.cell hBx2 2];rfl
    have x4:W2.cell? ⟨Bx,3,none⟩=some (.int .i64 e.b.y):=by rw[Blk.cell hBx2 3];rfl
    have hBV:=Blk.set_ (Blk.set_ (Blk.set_ (Blk.set_ hBx2 0 (.int .i64 e.b.x)) 1 (.int .i64 e.b.y)) 2 (.int .i64 e.a.x)) 3 (.int .i64 e.a.y)
    simp only[List.setIfInBounds_toArray,List.set_cons_zero,List.set_cons_succ]at hBV
    have hq:∀g,g≠Bx→(((((W2.setCell ⟨Bx,0,none⟩ (.int .i64 e.b.x)).setCell ⟨Bx,1,none⟩ (.int .i64 e.b.y)).setCell ⟨Bx,2,none⟩ (.int .i64 e.a.x)).setCell ⟨Bx,3,none⟩ (.int .i64 e.a.y))).heap[g]?=W2.heap[g]?:=fun g=>heap_put4 W2 Bx (.int .i64 e.b.x) (.int .i64 e.b.y) (.int .i64 e.a.x) (.int .i64 e.a.y) (k:=g)
    have hsz4:(((((W2.setCell ⟨Bx,0,none⟩ (.int .i64 e.b.x)).setCell ⟨Bx,1,none⟩ (.int .i64 e.b.y)).setCell ⟨Bx,2,none⟩ (.int .i64 e.a.x)).setCell ⟨Bx,3,none⟩ (.int .i64 e.a.y))).heap.size=W2.heap.size:=by simp
    obtain⟨y1,y2,y3,y4⟩:(((((W2.setCell ⟨Bx,0,none⟩ (.int .i64 e.b.x)).setCell ⟨Bx,1,none⟩ (.int .i64 e.b.y)).setCell ⟨Bx,2,none⟩ (.int .i64 e.a.x)).setCell ⟨Bx,3,none⟩ (.int .i64 e.a.y))).cell? ⟨Bx,0,none⟩=some (.int .i64 e.b.x)∧(((((W2.setCell ⟨Bx,0,none⟩ (.int .i64 e.b.x)).setCell ⟨Bx,1,none⟩ (.int .i64 e.b.y)).setCell ⟨Bx,2,none⟩ (.int .i64 e.a.x)).setCell ⟨Bx,3,none⟩ (.int .i64 e.a.y))).cell? ⟨Bx,1,none⟩=some (.int .i64 e.b.y)∧(((((W2.setCell ⟨Bx,0,none⟩ (.int .i64 e.b.x)).setCell ⟨Bx,1,none⟩ (.int .i64 e.b.y)).setCell ⟨Bx,2,none⟩ (.int .i64 e.a.x)).setCell ⟨Bx,3,none⟩ (.int .i64 e.a.y))).cell? ⟨Bx,2,none⟩=some (.int .i64 e.a.x)∧(((((W2.setCell ⟨Bx,0,none⟩ (.int .i64 e.b.x)).setCell ⟨Bx,1,none⟩ (.int .i64 e.b.y)).setCell ⟨Bx,2,none⟩ (.int .i64 e.a.x)).setCell ⟨Bx,3,none⟩ (.int .i64 e.a.y))).cell? ⟨Bx,3,none⟩=some (.int .i64 e.a.y):=⟨by rw[Blk.cell hBV 0];rfl,by rw[Blk.cell hBV 1];rfl,by rw[Blk.cell hBV 2];rfl,by rw[Blk.cell hBV 3];rfl⟩
    obtain⟨V,hV⟩:∃V,((((W2.setCell ⟨Bx,0,none⟩ (.int .i64 e.b.x)).setCell ⟨Bx,1,none⟩ (.int .i64 e.b.y)).setCell ⟨Bx,2,none⟩ (.int .i64 e.a.x)).setCell ⟨Bx,3,none⟩ (.int .i64 e.a.y))=V:=⟨_,rfl⟩
    have hV2:=hV
    rw[hV]at hBV hsz4 y1 y2 y3 y4
    have hq:∀g,g≠Bx→V.heap[g]?=W2.heap[g]?:=fun g hg=>by rw[←hV];exact hq g hg
    obtain⟨bv,ho,dr,dK,dk,dB,hBx,hv1⟩:=HW.out
    have hb12:Below W.heap.size W W2:=below_on hb1 (Nat.le_refl _) hb2
    have hs2:=hb12.size
    have e1:=bv.lt
    have e2:=dr.lt
    have e3:=(Blk.lt hBx)
    have hq2:∀g,g<W.heap.size→g≠Bx→(V).heap[g]?=W.heap[g]?:=fun g hg hne=>(hq g hne).trans (hb12.block g hg)
    have HV:=Lib.hid (show KeepsOthers W (V)∧KeepE w.heap.size (wr.heap.size+1) W (V) from
     ⟨⟨by omega,fun g o hg ho=>(hq2 g (Array.getElem?_eq_some_iff.1 hg).1 (fun e'=>by subst e';rw[show W.heap[g]?=_ from hBx]at hg;cases hg;cases ho)).trans hg⟩,by omega,fun i hi=>hq2 i (by omega) (by omega)⟩)
    have bvV:Boxed (V) (w.heap.size+1) 71 v:=(hq2 _ e1 (by omega)).trans bv
    have hoV:=own_heap (W':=V) ho (fun g hg=>hq2 g (ho.lt g hg).2 (fun e'=>hv1 (by rw[hg,e'])))
    have drV:Boxed (V) (wr.heap.size+1) 25 (.slice Ak nk ck):=(hq2 _ e2 (by omega)).trans dr
    have dKV:PlK (V) w.heap.size A n c (some ad) n' c':=(hq2 _ (by omega) (by omega)).trans dK
    have dkV:Marks w.heap.size Ds (V):=dk.kept fun D hD=>hq2 D (dk.lt hD) (by have:=hDl D hD;omega)
    have dBV:Below w.heap.size w (V):=by rw[←hV2];exact((((below_on (below_on dB (Nat.le_refl _) hb1) (Nat.le_refl _) hb2).setCell (p:=⟨Bx,0,none⟩) (by simp only;omega) _).setCell (p:=⟨Bx,1,none⟩) (by simp only;omega) _).setCell (p:=⟨Bx,2,none⟩) (by simp only;omega) _).setCell (p:=⟨Bx,3,none⟩) (by simp only;omega) _
    have hbc:=bvV.cell
    have hn:=HN.out
    rw[if_pos hpos]at hn
    have HN:=Lib.hid (hn.trans (show e.back=⟨e.b,e.a⟩ from rfl))
    clear hV2 bv ho dr dK dk dB hBx hv1 hb1 hBx1 hb2 hb12 hBV hq hq2 hBx2 hn
    have c4:=four_cells (V) (.int .i64 e.b.x) (.int .i64 e.b.y) (.int .i64 e.a.x) (.int .i64 e.a.y) 76 W2.heap.size hsz4.symm
    have hMl:M.length<1048576:=HM.out
    have hszV:=bvV.lt
    gi_wp2_with (first
     |(gi_at_builtin;refine wpListIn_append_own _ rfl _ _ 71 rfl w.heap.size 76 i0 _ 4 32 Tryz.underlying71 hi0 hz0 hz1 hz2 rfl (by decide) v M.length _ rfl (hoV.alloc _) ⟨W2.heap.size,0,none⟩ 1 1 [.int .i64 e.b.x,.int .i64 e.b.y,.int .i64 e.a.x,.int .i64 e.a.y] rfl rfl c4 (by simp[Value.oneCell']) (by simp only[maxLen];omega) (by omega) (by simp;omega) ?_
       intro v' w3 hown' hgrow _
       obtain⟨g',cap',rfl⟩:=ownsRow_succ hown'
       obtain⟨z1,z2,z3,z4,z5,z6,z7,hc1,hf1⟩:=clean_append (B:=w1.heap.size) HV.out.1 HV.out.2 bvV hoV drV dKV dkV dBV (by omega) hown' hgrow))
    refine⟨z1,z2,⟨_,z3.1,?_,trivial⟩,z4,z5,z6,z7⟩
    rw[HE.out,HN.out,List.length_append]
    simp only[edsV,List.flatMap_append,List.flatMap_singleton]
    exact z3.2
   ·have hBx1:=Blk.below hBx hb1 (Blk.lt hBx)
    have hn:=HN.out
    rw[if_neg hpos]at hn
    have HN:=Lib.hid hn
    clear hn
    obtain⟨y1,y2,y3,y4⟩:W1.cell? ⟨Bx,0,none⟩=some (.int .i64 e.a.x)∧W1.cell? ⟨Bx,1,none⟩=some (.int .i64 e.a.y)∧W1.cell? ⟨Bx,2,none⟩=some (.int .i64 e.b.x)∧W1.cell? ⟨Bx,3,none⟩=some (.int .i64 e.b.y):=⟨by rw[Blk.cell hBx1 0];rfl,by rw[Blk.cell hBx1 1];rfl,by rw[Blk.cell hBx1 2];rfl,by rw[Blk.cell hBx1 3];rfl⟩
    have HV:=Lib.hid (cleanK_below (S:=w.heap.size) (bs:=wr.heap.size+1) hb1 (by have:=bv.lt;omega) dr.lt)
    have bvV:=Blk.below bv hb1 bv.lt
    have hoV:=own_heap (W':=W1) ho (fun g hg=>hb1.block g (ho.lt g hg).2)
    have drV:=Blk.below dr hb1 dr.lt
    have dKV:=dK.on hb1
    have dkV:=dk.on hb1
    have dBV:=below_on dB (Nat.le_refl _) hb1
    have hbc:=bvV.cell
    clear bv ho dr dK dk dB hBx hv1 hb1 hBx1
    have c4:=four_cells (W1) (.int .i64 e.a.x) (.int .i64 e.a.y) (.int .i64 e.b.x) (.int .i64 e.b.y) 76 (W1).heap.size rfl
    have hMl:M.length<1048576:=HM.out
    have hszV:=bvV.lt
    gi_wp2_with (first
     |(gi_at_builtin;refine wpListIn_append_own _ rfl _ _ 71 rfl w.heap.size 76 i0 _ 4 32 Tryz.underlying71 hi0 hz0 hz1 hz2 rfl (by decide) v M.length _ rfl (hoV.alloc _) ⟨(W1).heap.size,0,none⟩ 1 1 [.int .i64 e.a.x,.int .i64 e.a.y,.int .i64 e.b.x,.int .i64 e.b.y] rfl rfl c4 (by simp[Value.oneCell']) (by simp only[maxLen];omega) (by omega) (by simp;omega) ?_
       intro v' w3 hown' hgrow _
       obtain⟨g',cap',rfl⟩:=ownsRow_succ hown'
       obtain⟨z1,z2,z3,z4,z5,z6,z7,hc1,hf1⟩:=clean_append (B:=w1.heap.size) HV.out.1 HV.out.2 bvV hoV drV dKV dkV dBV (by omega) hown' hgrow))
    refine⟨z1,z2,⟨_,z3.1,?_,trivial⟩,z4,z5,z6,z7⟩
    rw[HE.out,HN.out,List.length_append]
    simp only[edsV,List.flatMap_append,List.flatMap_singleton]
    exact z3.2
  case done=>
   rintro D ys W hD hys ⟨⟨v,bv,ho,_⟩,dr,dK,dk,dB⟩ hK
   have hmap:(ys.map fun y=>(edgeK x.ring y.1).norm)=(edgesOf x.ring).map Ed.norm:=by
    rw[edgesOf_map,HNK.out,←hys,List.map_map,List.map_map];rfl
   rw[hmap,hL0]at ho
   have hlk:k<p.parcels.length:=by have:=HL2.out;omega
   have hn2:=normE_take hlk
   rw[←HXX.out]at hn2
   rw[←hn2]at ho
   have hmk2:Marks w.heap.size (D::Ds) W:=dk.cons (by omega) (fun h=>by have:=hDl D h;omega) hK
   have HD:=Lib.hid (And.intro hmk2 (And.intro dB (And.intro dK (And.intro bv ho))))
   clear hn2 hmap hmk2 dB dK bv ho hys dk dr hK hL0
   gi_wp2_with fail
   refine⟨⟨_,_,_,_,_,_,_,_,k+1,D::Ds,⟨by omega,HD.out.1,HD.out.2.1,HD.out.2.2.1,v,HD.out.2.2.2.1,HD.out.2.2.2.2⟩,rfl⟩,?_⟩
   simp[intOf];omega
  case stop=>
   rintro D c pre W _ _ h _
   exact h.elim
 ·have hkn:k=n':=by omega
  subst hkn
  have htk:p.parcels.take k=p.parcels:=List.take_of_length_le (by have:=HL2.out;omega)
  rw[htk]at hown
  have hN:(normE p.parcels).length=(allE p.parcels).length:=by simp[normE]
  obtain⟨L,hL⟩:∃L,L=normE p.parcels:=⟨_,rfl⟩
  rw[←hL]at hown hN
  obtain⟨N,hN0⟩:∃N,N=L.length:=⟨_,rfl⟩
  have hN2:2≤N∧N≤1048576:=by rw[hN0,hN];exact HP.out.2
  rw[←hN0]at hown
  obtain⟨A2,c2,rfl⟩:=own_form hown
  obtain⟨g,rfl,hg1,hg2⟩:=own_some hown (by omega)
  have x0:=bL.cell
  have x1:=bL.frozen
  have HX:=Lib.hid (And.intro hmk (And.intro hbel (And.intro hK (And.intro bL (And.intro hown hL)))))
  have kS:=Lib.hid (sortEd_any L g N c2 w.heap.size wr hown hN2.2)
  have HN:=Lib.hid hN2
  clear hmk hbel hK bL hL hown hN hN0 hN2 hlt htk hk
  gi_wp2_with fail
  refine⟨trivial,?_⟩
  refine(callsIn_wide.2 kS.out).mono ?_
  rintro e w2 ⟨rfl,d,hdp,hds,hown2,hgr⟩
  obtain⟨hmk,hbel,hK,bL,hown,hL⟩:=HX.out
  have bL2:Boxed w2 (w.heap.size+1) 71 (.slice (some ⟨g,0,none⟩) N c2):=Blk.grown bL hgr (blk_row bL (by decide) hown)
  have hmk2:=marks_row hmk hown hgr
  have hbel2:Below w.heap.size w w2:=hbel.grown hgr hbel.size (fun k e=>by cases e;exact hg1)
  have x0:=bL2.cell
  have x1:=bL2.frozen
  have kC:=Lib.hid (compactEd_any d g N c2 w.heap.size w2 hown2 HN.out.2 HN.out.1)
  rw[hL]at hdp
  have HD:=Lib.hid (HC.out d hdp hds)
  have HY:=Lib.hid (And.intro hmk2 (And.intro hbel2 (And.intro bL2 hown2)))
  clear hmk hbel hK bL hL hown hmk2 hbel2 bL2 hown2 hdp hds hgr HX kS HC
  gi_wp2_with fail
  refine⟨trivial,?_⟩
  refine(callsIn_wide.2 kC.out).mono ?_
  rintro e w3 ⟨m,rfl,hm,hrd,hgr⟩
  obtain⟨hmk,hbel,bL,hown⟩:=HY.out
  have bL3:Boxed w3 (w.heap.size+1) 71 (.slice (some ⟨g,0,none⟩) N c2):=Blk.grown bL hgr (blk_row bL (by decide) hown)
  have hmk3:=marks_row hmk hown hgr
  have hbel3:Below w.heap.size w w3:=hbel.grown hgr hbel.size (fun k e=>by cases e;exact hg1)
  have x0:=bL3.cell
  have x1:=bL3.frozen
  have hMm:=Lib.hid hm
  have hNl:d.length=N:=by have h:=hown.1;rw[edsV_length]at h;omega
  have hm20:m≤1048576∧m≤c2:=by
   have h1:=cp_len d
   have h2:=HN.out.2
   have h3:=own_cap hown
   omega
  clear hNl
  have hgb:g≠w.heap.size+1:=fun e=>blk_row bL (by decide) hown (by rw[e];rfl)
  have hrd4:Reads (w3.setCell ⟨w.heap.size+1,0,none⟩ (.slice (some ⟨g,0,none⟩) m c2)) (w3.setCell ⟨w.heap.size+1,0,none⟩ (.slice (some ⟨g,0,none⟩) m c2)).heap.size 4 (some ⟨g,0,none⟩) m (edsV (cp d)):=by
   rw[World.size_setCell]
   exact hrd.other hgb _
  have bL4:=bL3.set (.slice (some ⟨g,0,none⟩) m c2)
  have hbel4:=hbel3.setCell (p:=⟨w.heap.size+1,0,none⟩) (by simp) (.slice (some ⟨g,0,none⟩) m c2)
  have hmk4:Marks w.heap.size Ds (w3.setCell ⟨w.heap.size+1,0,none⟩ (.slice (some ⟨g,0,none⟩) m c2)):=hmk3.kept fun D hD=>by
   rw[Below.heap_setCell _ _ _ D (marks_box hmk3 bL3 hD)]
  have HZ:=Lib.hid (And.intro hmk4 (And.intro hbel4 (And.intro bL4 hrd4)))
  clear hm hmk hbel bL hown hmk3 hbel3 bL3 hgr hrd hrd4 bL4 hbel4 hmk4 HY kC
  gi_wp2_with fail
  obtain⟨wz,hwz⟩:∃wz,wz=w3.setCell ⟨w.heap.size+1,0,none⟩ (.slice (some ⟨g,0,none⟩) m c2):=⟨_,rfl⟩
  rw[←hwz]at HZ
  rw[←hwz]
  obtain⟨L2,hL2⟩:∃L2,L2=cp d:=⟨_,rfl⟩
  rw[←hL2]at HZ HD hMm
  clear hwz hL2 x0 x1 HN
  refine wpIn_loop (fun a' W=>∃(v8 v9 v11 v44 v45 v46 v47 v48 v49 v50 v51 v52 v53 v54 v55 v56 v57 v58 v59 v60 v61 v62 v63 v64 v65 v66 v67 v68 v69:Value) (i:Nat),(i≤m∧Hid (SwTo L2 i)∧Below wz.heap.size wz W)∧
   a'={ tmps:=#[planV A n c A' k c',.pointer (some ⟨w.heap.size,0,none⟩),.bool false,.pointer (some ⟨w.heap.size+1,0,none⟩),undef,u5,undef,undef,v8,v9,undef,v11,.pointer (some ⟨w.heap.size,1,none⟩),.slice A' k c',.int .i64 (k:Int),.int .i64 (k:Int),.bool false,u17,u18,u19,u20,u21,undef,undef,undef,undef,undef,undef,undef,undef,undef,undef,undef,undef,undef,undef,u36,.slice (some ⟨g,0,none⟩) N c2,.tuple #[],.slice (some ⟨g,0,none⟩) N c2,.slice (some ⟨g,0,none⟩) m c2,.slice (some ⟨g,0,none⟩) m c2,.int .i64 (m:Int),.int .i64 (i:Int),v44,v45,v46,v47,v48,v49,v50,v51,v52,v53,v54,v55,v56,v57,v58,v59,v60,v61,v62,v63,v64,v65,v66,v67,v68,v69],defers:=marksL Ds }) (fun a' _=>m-(intOf (a'.tmps.getD 43 undef)).toNat) ?_ ?_
  ·exact⟨undef,undef,undef,undef,undef,undef,undef,undef,undef,undef,undef,undef,undef,undef,undef,undef,undef,undef,undef,undef,undef,undef,undef,undef,undef,undef,undef,undef,undef,0,⟨Nat.zero_le _,fun i j h=>absurd h (by omega),Below.refl _ _⟩,rfl⟩
  rintro a' W ⟨v8,v9,v11,v44,v45,v46,v47,v48,v49,v50,v51,v52,v53,v54,v55,v56,v57,v58,v59,v60,v61,v62,v63,v64,v65,v66,v67,v68,v69,i,⟨hi,HSW,hbW⟩,rfl⟩
  by_cases hlt:i<m
  ·have hlt':(i:Int)<(m:Int):=by omega
   have hw1:IntKind.i64.wrap ((i:Int)+1)=(i:Int)+1:=by rw[IntKind.wrap_i64];omega
   have hs1:(i:Int)+1≤(m:Int):=by omega
   have hs2:(m:Int)≤(c2:Int):=by omega
   obtain⟨_,rfl',-,p1,p2,p3,p4⟩:=(HZ.out.2.2.2.below hbW).edA hlt
   cases rfl'
   simp only[add_row]at p1 p2 p3 p4
   obtain⟨e,he⟩:∃e,e=edAt L2 i:=⟨_,rfl⟩
   rw[←he]at p1 p2 p3 p4
   have hBA:=Blk.new W 76 #[.int .i64 e.a.x,.int .i64 e.a.y,.int .i64 e.b.x,.int .i64 e.b.y]
   have hb1:Below wz.heap.size wz (W.alloc (.cells #[.int .i64 e.a.x,.int .i64 e.a.y,.int .i64 e.b.x,.int .i64 e.b.y] 76)):=hbW.alloc hbW.size _
   have hbx:=Blk.below HZ.out.2.2.1 hb1 (Blk.lt HZ.out.2.2.1)
   have y0:=hbx.cell
   have HB:=Lib.hid (And.intro hb1 (And.intro hBA (And.intro he hbW.size)))
   clear hbW he hb1 hBA hbx
   by_cases hcap:c2=i+1
   ·obtain rfl:m=i+1:=by omega
    subst hcap
    clear hs2 hm20
    gi_wp2_with fail
    refine wpIn_loop (fun a' W'=>∃(y54:Value),Below wz.heap.size wz W'∧
     a'={ tmps:=#[planV A n c A' k c',.pointer (some ⟨w.heap.size,0,none⟩),.bool false,.pointer (some ⟨w.heap.size+1,0,none⟩),undef,u5,undef,undef,.int .i64 (i:Int),.pointer (some ⟨W.heap.size,0,none⟩),undef,v11,.pointer (some ⟨w.heap.size,1,none⟩),.slice A' k c',.int .i64 (k:Int),.int .i64 (k:Int),.bool false,u17,u18,u19,u20,u21,undef,undef,undef,undef,undef,undef,undef,undef,undef,undef,undef,undef,undef,undef,u36,.slice (some ⟨g,0,none⟩) N (i+1),.tuple #[],.slice (some ⟨g,0,none⟩) N (i+1),.slice (some ⟨g,0,none⟩) (i+1) (i+1),.slice (some ⟨g,0,none⟩) (i+1) (i+1),.int .i64 ((i:Int)+1),.int .i64 (i:Int),.bool (decide ((i:Int)<(i:Int)+1)),.int .i64 (i:Int),.pointer (some ⟨g,i*4,none⟩),.agg #[.int .i64 e.a.x,.int .i64 e.a.y,.int .i64 e.b.x,.int .i64 e.b.y],.slice (some ⟨g,0,none⟩) (i+1) (i+1),.int .i64 (i:Int),.int .i64 ((i:Int)+1),.slice (some ⟨g,0,none⟩) 0 0,.int .i64 0,.int .i64 0,y54,v55,v56,v57,v58,v59,v60,v61,v62,v63,v64,v65,v66,v67,v68,v69],defers:=marksL Ds }) (fun _ _=>0) ?_ ?_
    ·exact⟨_,HB.out.1,rfl⟩
    rintro a' W' ⟨y54,hbW',rfl⟩
    have HBW:=Lib.hid hbW'
    clear hbW'
    have HS2:Hid (SwTo L2 (i+1)):=swTo_next HSW.out (inTo_zero L2 i) (.inl (by rw[←hMm.out]))
    gi_wp2_with fail
    refine⟨⟨_,_,_,_,_,_,_,_,_,_,_,_,_,_,_,_,_,_,_,_,_,_,_,_,_,_,_,_,_,i+1,⟨by omega,HS2,HBW.out⟩,rfl⟩,?_⟩
    simp[intOf]
   ·have hcap2:¬i+1=c2:=by omega
    gi_wp2_with fail
    refine wpIn_loop (fun a' W'=>∃(v11 v54 v55 v56 v57 v58 v59 v60 v61 v62 v63 v64 v65 v66 v67 v68 v69:Value) (t:Nat),(t≤m-(i+1)∧Hid (InTo L2 i t)∧Below wz.heap.size wz W'∧Blk W' W.heap.size 76 #[.int .i64 e.a.x,.int .i64 e.a.y,.int .i64 e.b.x,.int .i64 e.b.y])∧
     a'={ tmps:=#[planV A n c A' k c',.pointer (some ⟨w.heap.size,0,none⟩),.bool false,.pointer (some ⟨w.heap.size+1,0,none⟩),undef,u5,undef,undef,.int .i64 (i:Int),.pointer (some ⟨W.heap.size,0,none⟩),undef,v11,.pointer (some ⟨w.heap.size,1,none⟩),.slice A' k c',.int .i64 (k:Int),.int .i64 (k:Int),.bool false,u17,u18,u19,u20,u21,undef,undef,undef,undef,undef,undef,undef,undef,undef,undef,undef,undef,undef,undef,u36,.slice (some ⟨g,0,none⟩) N c2,.tuple #[],.slice (some ⟨g,0,none⟩) N c2,.slice (some ⟨g,0,none⟩) m c2,.slice (some ⟨g,0,none⟩) m c2,.int .i64 (m:Int),.int .i64 (i:Int),.bool true,.int .i64 (i:Int),.pointer (some ⟨g,i*4,none⟩),.agg #[.int .i64 e.a.x,.int .i64 e.a.y,.int .i64 e.b.x,.int .i64 e.b.y],.slice (some ⟨g,0,none⟩) m c2,.int .i64 (i:Int),.int .i64 ((i:Int)+1),.slice (some ⟨g,(i+1)*4,none⟩) (m-(i+1)) (c2-(i+1)),.int .i64 ((m-(i+1):Nat):Int),.int .i64 (t:Int),v54,v55,v56,v57,v58,v59,v60,v61,v62,v63,v64,v65,v66,v67,v68,v69],defers:=marksL Ds }) (fun a' _=>m-(i+1)-(intOf (a'.tmps.getD 53 undef)).toNat) ?_ ?_
    ·exact⟨_,_,_,_,_,_,_,_,_,_,_,_,_,_,_,_,_,0,⟨Nat.zero_le _,inTo_zero _ _,HB.out.1,HB.out.2.1⟩,rfl⟩
    rintro a' W' ⟨v11,v54,v55,v56,v57,v58,v59,v60,v61,v62,v63,v64,v65,v66,v67,v68,v69,t,⟨ht,HIN,hbW',hBA⟩,rfl⟩
    by_cases hlt2:t<m-(i+1)
    ·have hlt2':(t:Int)<((m-(i+1):Nat):Int):=by omega
     have hw3:IntKind.i64.wrap ((t:Int)+1)=(t:Int)+1:=by rw[IntKind.wrap_i64];omega
     obtain⟨_,rfl',-,q1,q2,q3,q4⟩:=(HZ.out.2.2.2.below hbW').edA (k:=i+1+t) (by omega)
     cases rfl'
     simp only[add_row,Nat.add_mul (i+1) t 4]at q1 q2 q3 q4
     obtain⟨f,hf⟩:∃f,f=edAt L2 (i+1+t):=⟨_,rfl⟩
     rw[←hf]at q1 q2 q3 q4
     have hbF:=Blk.new W' 76 #[.int .i64 f.a.x,.int .i64 f.a.y,.int .i64 f.b.x,.int .i64 f.b.y]
     have hBA2:Blk (W'.alloc (.cells #[.int .i64 f.a.x,.int .i64 f.a.y,.int .i64 f.b.x,.int .i64 f.b.y] 76)) W.heap.size 76 #[.int .i64 e.a.x,.int .i64 e.a.y,.int .i64 e.b.x,.int .i64 e.b.y]:=Blk.alloc hBA _
     have hb2:Below wz.heap.size wz (W'.alloc (.cells #[.int .i64 f.a.x,.int .i64 f.a.y,.int .i64 f.b.x,.int .i64 f.b.y] 76)):=hbW'.alloc hbW'.size _
     have HF:=Lib.hid (And.intro hf (And.intro hbF (And.intro hBA2 hb2)))
     have r1:(W'.alloc (.cells #[.int .i64 f.a.x,.int .i64 f.a.y,.int .i64 f.b.x,.int .i64 f.b.y] 76)).cell? ⟨W.heap.size,0,none⟩=some (.int .i64 e.a.x):=by rw[Blk.cell hBA2 0];rfl
     have r2:(W'.alloc (.cells #[.int .i64 f.a.x,.int .i64 f.a.y,.int .i64 f.b.x,.int .i64 f.b.y] 76)).cell? ⟨W.heap.size,1,none⟩=some (.int .i64 e.a.y):=by rw[Blk.cell hBA2 1];rfl
     have r3:(W'.alloc (.cells #[.int .i64 f.a.x,.int .i64 f.a.y,.int .i64 f.b.x,.int .i64 f.b.y] 76)).cell? ⟨W.heap.size,2,none⟩=some (.int .i64 e.b.x):=by rw[Blk.cell hBA2 2];rfl
     have r4:(W'.alloc (.cells #[.int .i64 f.a.x,.int .i64 f.a.y,.int .i64 f.b.x,.int .i64 f.b.y] 76)).cell? ⟨W.heap.size,3,none⟩=some (.int .i64 e.b.y):=by rw[Blk.cell hBA2 3];rfl
     clear hf hbF hBA2 hb2 hbW' hBA
     by_cases hx:e.b.x<f.a.x
     ·have HS2:Hid (SwTo L2 (i+1)):=swTo_next HSW.out HIN.out (.inr ⟨by rw[←hMm.out];omega,by rw[←HF.out.1,←HB.out.2.2.1];exact hx⟩)
      gi_wp2_with fail
      have HBW:=Lib.hid HF.out.2.2.2
      refine⟨⟨_,_,_,_,_,_,_,_,_,_,_,_,_,_,_,_,_,_,_,_,_,_,_,_,_,_,_,_,_,i+1,⟨by omega,HS2,HBW.out⟩,rfl⟩,?_⟩
      simp[intOf];omega
     ·have hml:=hMm.out
      have hmE:=HD.out.2.1
      have hpw:=List.pairwise_iff_getElem.1 HD.out.2.2 i (i+1+t) (by omega) (by omega) (by omega)
      have hge:good e.a=true∧good e.b=true:=hmE _ (by rw[HB.out.2.2.1];exact edAt_mem (by omega))
      have hgf:good f.a=true∧good f.b=true:=hmE _ (by rw[HF.out.1];exact edAt_mem (by omega))
      have hne:e≠f:=by rw[HB.out.2.2.1,HF.out.1,edAt_lt (by omega:i<L2.length),edAt_lt (by omega:i+1+t<L2.length)];exact hpw.1
      have kA:=Lib.hid (fun V=>apart_any e f V hge hgf hne)
      have hx2:(edAt L2 (i+1+t)).a.x≤(edAt L2 i).b.x:=by rw[←HF.out.1,←HB.out.2.2.1];omega
      have HX2:=Lib.hid hx2
      have HAB:Hid (apartB e f=apartB (edAt L2 i) (edAt L2 (i+1+t))):=by rw[←HF.out.1,←HB.out.2.2.1];exact rfl
      clear hml hmE hpw hge hgf hne hx2
      generalize apartB e f=ab at *
      gi_wp2_with fail
      refine⟨trivial,?_⟩
      refine(callsIn_wide.2 (kA.out _)).mono ?_
      rintro r W2 ⟨rfl,hb3⟩
      have hbW':=HF.out.2.2.2.trans (hb3.mono HF.out.2.2.2.size)
      have hBA:=Blk.below HF.out.2.2.1 hb3 (Blk.lt HF.out.2.2.1)
      have HBW:=Lib.hid (And.intro hbW' hBA)
      clear hb3 kA hbW' hBA
      rcases ab with _|_
      ·have hbt:b=false:=by
        rcases hb':b with _|_
        ·rfl
        ·exact absurd (HD.out.1.1 hb') (sw_fail HIN.out (by rw[←hMm.out];omega) HX2.out HAB.out.symm)
       obtain⟨hmk,hbel,bL,-⟩:=HZ.out
       have hmk2:=hmk.on HBW.out.1
       have hbel2:=below_on hbel (Nat.le_refl _) HBW.out.1
       gi_wp2
       refine leaves_marks Ds W2 hmk2 hbel2.size fun w' hb' hk'=>?_
       refine⟨.bool false,?_,by rw[hbt],hbel2.trans hb'⟩
       simp[results,Tryz.results93]
      ·have HIN2:Hid (InTo L2 i (t+1)):=inTo_next HIN.out HX2.out HAB.out.symm
       gi_wp2_with fail
       refine⟨⟨_,_,_,_,_,_,_,_,_,_,_,_,_,_,_,_,_,t+1,⟨by omega,HIN2,HBW.out.1,HBW.out.2⟩,rfl⟩,?_⟩
       simp[intOf];omega
    ·have hlt3:¬(t:Int)<((m-(i+1):Nat):Int):=by omega
     have HBW:=Lib.hid hbW'
     clear hbW'
     have HS2:Hid (SwTo L2 (i+1)):=swTo_next HSW.out HIN.out (by left;rw[←hMm.out];omega)
     gi_wp2_with fail
     refine⟨⟨_,_,_,_,_,_,_,_,_,_,_,_,_,_,_,_,_,_,_,_,_,_,_,_,_,_,_,_,_,i+1,⟨by omega,HS2,HBW.out⟩,rfl,rfl,rfl,rfl,rfl,rfl,rfl,rfl,rfl,rfl,rfl,rfl,rfl,rfl,rfl,rfl,rfl,rfl,rfl,rfl,rfl,rfl,rfl,rfl,rfl,rfl,rfl,rfl,rfl,rfl⟩,?_⟩
     simp[intOf];omega
  ·have him:i=m:=by omega
   have hbt:b=true:=HD.out.1.2 (swTo_iff.2 (by rw[←hMm.out,←him];exact HSW.out))
   obtain⟨hmk,hbel,bL,-⟩:=HZ.out
   have hmk2:=hmk.on hbW
   have hbel2:=below_on hbel (Nat.le_refl _) hbW
   clear hmk hbel bL hbW
   gi_wp2_with fail
   refine leaves_marks Ds W hmk2 hbel2.size fun w' hb' hk'=>?_
   refine⟨.bool true,?_,by rw[hbt],hbel2.trans hb'⟩
   simp[results,Tryz.results93]
end Go.Proofs.YtpkeacnacjnlcaaGreat
namespace Go.Proofs.YtpkeacnacjnlcaaGreat
open Go.RowKit Go.Lib
theorem put_num4 (b:List UInt8) {v:Int} (h:0≤v∧v<4294967296):putN b v 4=b++beB v.toNat 4:=by
 unfold putN
 have e:(256:Nat)^(4:Int).toNat=4294967296:=by decide
 rw[if_neg (by omega)]
 rfl
theorem put_len4 (b:List UInt8) (v:Int) (h:0≤v∧v<4294967296):(putN b v 4).length=b.length+4:=by rw[put_num4 b h,List.length_append,beB_length]
theorem pt_put {b:List UInt8} {q:Pt} (h:good q=true):putN (putN b (q.x+1073741824) 4) (q.y+1073741824) 4=b++ptB q:=by
 rw[good_iff]at h
 rw[put_num4 b (by omega),put_num4 _ (by omega),List.append_assoc]
 rfl
theorem hldPt {W V V':World} {a0 a1:Addr} {v0 v1:Value} (hh:a0.block<W.heap.size∧a1.block<W.heap.size) (hs:V.cell? a0=some v0∧V.cell? a1=some v1∧Below W.heap.size W V) (hb:Below V.heap.size V V'):
 V'.cell? a0=some v0∧V'.cell? a1=some v1∧Below W.heap.size W V':=by
 obtain⟨h0,h1⟩:=hh
 obtain⟨c0,c1,cb⟩:=hs
 have:=cb.size
 have k:∀ {a:Addr} {v:Value},a.block<W.heap.size→V.cell? a=some v→V'.cell? a=some v:=fun {a v} ha hv=>(hb.cell (p:=a) (by omega)).trans hv
 exact⟨k h0 c0,k h1 c1,below_on cb (Nat.le_refl _) hb⟩
set_option maxRecDepth 100000 in
theorem point_any (b:List UInt8) (A:Option Addr) (n cap:Nat) (q:Pt) (hq:good q=true) (w:World) (hr:Reads w w.heap.size 1 A n (u8s b)) (hn:n≤140737488350000):
 Calls Tryz.prog 96 #[.slice A n cap,ptV q] w (Own8 (b++ptB q) w):=by
 have hl:=hr.len8
 have hg:=(good_iff q).1 hq
 obtain⟨W,hW⟩:∃W,W=w.alloc (.cells #[.int .i64 q.x,.int .i64 q.y] 23):=⟨_,rfl⟩
 have hba:Below w.heap.size w W:=by rw[hW];exact(Below.refl _ _).alloc (Nat.le_refl _) _
 have hk:HasPt W w.heap.size q:=by rw[hW];exact HasPt.new w q 23
 have e0:IntKind.i64.wrap (q.x+1073741824)=q.x+1073741824:=by rw[IntKind.wrap_i64];omega
 have e1:IntKind.i64.wrap (q.y+1073741824)=q.y+1073741824:=by rw[IntKind.wrap_i64];omega
 have HR:Hid (Reads W.drew W.heap.size 1 A n (u8s b)):=(hr.on hba).drew
 have HQ:=Lib.hid hq
 have HG:=Lib.hid (And.intro (show q.x+1073741824≤9223372036854775807 by omega) (And.intro (show q.y+1073741824≤9223372036854775807 by omega) (show (putN b (q.x+1073741824) 4).length≤140737488354000 by rw[put_len4 b _ (by omega)];omega)))
 have HB:=Lib.hid hba
 obtain⟨k0,k1,k2⟩:=hk
 have hh:(⟨w.heap.size,0,none⟩:Addr).block<W.heap.size∧(⟨w.heap.size,1,none⟩:Addr).block<W.heap.size:=⟨k2,k2⟩
 have hP0:W.drew.cell? ⟨w.heap.size,0,none⟩=some (.int .i64 q.x)∧W.drew.cell? ⟨w.heap.size,1,none⟩=some (.int .i64 q.y)∧Below W.heap.size W W.drew:=⟨k0,k1,(Below.refl _ _).drew⟩
 have hbd:Below W.heap.size W W.drew:=(Below.refl _ _).drew
 clear hg hba hr hl hq k0 k1 k2
 unfold ptV
 go_enter Tryz.func96,Tryz.ntmps96
 go_upto_region 1 with fail
 rw[←hW]
 clear hW
 refine wp_region_held_drew (S:=fun V=>V.cell? ⟨w.heap.size,0,none⟩=some (.int .i64 q.x)∧V.cell? ⟨w.heap.size,1,none⟩=some (.int .i64 q.y)∧Below W.heap.size W V) (by kernel_rfl) ?_ (fun hHeld=>?_)
 ·exact hP0
 refine tk 0 ?_
 refine tk 1 ?_
 refine tk 2 ?_
 refine tk 3 ?_
 refine tk 5 ?_
 refine tk 6 ?_
 refine tk 7 ?_
 refine rd1 4 fun K hK=>?_
 go_simp
 go_at_call 97
 (with_reducible refine(putNum_any b A n cap (q.x+1073741824) 4 _ HR.out (by omega) HG.out.1).mono ?_)
 rintro e w1 ⟨A1,c1,rfl,ho1,hb1⟩
 have hB1:=hbd.trans hb1
 try dsimp only
 refine hK.out _ _ (hldPt hh hP0 hb1) fun hHeld=>?_
 clear hK K
 try simp only[Act.put,sb0,sc0,sc1]
 refine rd1 8 fun K hK=>?_
 go_simp
 go_at_call 97
 (with_reducible refine(putNum_any _ A1 _ c1 (q.y+1073741824) 4 _ (Reads.of_own ho1) HG.out.2.2 HG.out.2.1).mono ?_)
 rintro e w2 ⟨A2,c2,rfl,ho2,hb2⟩
 have hB2:=below_on hB1 (Nat.le_refl _) hb2
 rw[pt_put HQ.out]at *
 try dsimp only
 refine hK.out _ _ (hldPt hh hHeld hb2) fun hHeld=>?_
 clear hK K
 try simp only[Act.put,sb0,sc0,sc1]
 refine tk 9 ?_
 refine wpAnyH_done (by kernel_rfl) ?_ _
 go_wp2_with fail
 go_ret
 have hs:=HB.out.size
 exact⟨A2,c2,by first|rfl|simp,own_mono ho2 (Nat.le_trans hs hB1.size),below_on HB.out (Nat.le_refl _) hB2⟩
end Go.Proofs.YtpkeacnacjnlcaaGreat
namespace Go.Proofs.YtpkeacnacjnlcaaGreat
open Go.RowKit Go.Shelf
attribute [local go_sem] Oper.semAt_some
/-- What the iterator asks of a round that goes on: all below B is as it was, and so are the two blocks of its own. -/
def KeepC (B Bs:Nat) (W W':World):Prop:=W.heap.size≤W'.heap.size∧∀i,i<B∨i=Bs∨i=Bs+1→W'.heap[i]?=W.heap[i]?
theorem KeepC.refl (B Bs:Nat) (W:World):KeepC B Bs W W:=⟨Nat.le_refl _,fun _ _=>rfl⟩
theorem KeepC.trans {B Bs:Nat} {W W' W'':World} (h:KeepC B Bs W W') (k:KeepC B Bs W' W''):KeepC B Bs W W'':=⟨Nat.le_trans h.1 k.1,fun i hi=>(k.2 i hi).trans (h.2 i hi)⟩
theorem KeepC.cell {B Bs:Nat} {W W':World} (h:KeepC B Bs W W') {p:Addr} (hp:p.block<B∨p.block=Bs∨p.block=Bs+1):W'.cell? p=W.cell? p:=World.cell?_of_block (h.2 p.block hp)
theorem KeepC.alloc {B Bs:Nat} {W:World} (hB:B≤W.heap.size) (hs:Bs+1<W.heap.size) (o:Obj):KeepC B Bs W (W.alloc o):=⟨by simp,fun i hi=>Below.heap_alloc W o i (by omega)⟩
theorem KeepC.drew {B Bs:Nat} {W W':World} (h:KeepC B Bs W W'):KeepC B Bs W W'.drew:=h
theorem KeepC.below {B Bs:Nat} {W W':World} (hb:Below W.heap.size W W') (hB:B≤W.heap.size) (hs:Bs+1<W.heap.size):KeepC B Bs W W':=⟨hb.size,fun i hi=>hb.block i (by omega)⟩
def chkM (len k:Nat):Nat:=min 16 (len-16*k)
def chkAt (ad:Addr) (len k:Nat):Array Value:=#[.slice (some (ad.add (16*k*2))) (chkM len k) (chkM len k)]
set_option maxRecDepth 100000 in
set_option maxHeartbeats 3200000 in
theorem chunk1_in (n:Nat) (hn:1≤n) (l B Bs cap:Nat) (ad:Addr) (len:Nat) (hlen:len≤1048576) (hcap:len≤cap) (hc2:cap≤9223372036854775807) (J Jx:List Nat→World→Prop)
 (W:World) (hJ:AbidesFrom W.heap.size J)
 (hY:∀x W1,x<chkN len→J (List.range x) W1→YieldAt Fence.wide (n-1) Tryz.prog l (chkAt ad len x) W1 fun e W'=>
   (e= .returned (.bool true)∧J (List.range x++[x]) W'∧KeepC B Bs W1 W')∨(e= .returned (.bool false)∧Jx (List.range x++[x]) W'))
 (hBs:W.cell? ⟨Bs,0,none⟩=some (.slice (some ad) len cap)) (hBn:W.cell? ⟨Bs+1,0,none⟩=some (.int .i64 16)) (h0:J [] W):
 CallsIn Fence.wide n Tryz.prog 152 #[.func (.yield l) #[] #[],.pointer (some ⟨Bs,0,none⟩),.pointer (some ⟨Bs+1,0,none⟩)] W fun e W'=>(∃v,e= .returned v)∧
  ((∃ys,ys=List.range (chkN len)∧J ys W')∨(∃pre,(∃k,k≤chkN len∧pre=List.range k)∧Jx pre W')):=by
 refine callsIn_of_wp Tryz.func152 rfl trivial ?_ rfl
 simp only[Tryz.ntmps152,List.size_toArray,List.length_cons,List.length_nil,Nat.reduceAdd,Nat.reduceSub,Array.replicate_succ,Array.replicate_zero,List.push_toArray,List.append_toArray,List.nil_append,List.cons_append]
 gi_wp2
 gi_loopw [4] (fun i wr=>∃k:Nat,k≤chkN len∧i= .int .i64 ((16*k:Nat):Int)∧J (List.range k) wr∧KeepC B Bs W wr) (fun i _=>2097152-(intOf i).toNat)
 case atStart=>exact⟨0,Nat.zero_le _,rfl,h0,KeepC.refl _ _ _⟩
 case round=>
  obtain⟨k,hk,rfl,hJs,hkp⟩:=hrel
  have hsz:=hkp.1
  have hb1:wr.cell? ⟨Bs,0,none⟩=some (.slice (some ad) len cap):=(hkp.cell (.inr (.inl rfl))).trans hBs
  have hb2:wr.cell? ⟨Bs+1,0,none⟩=some (.int .i64 16):=(hkp.cell (.inr (.inr rfl))).trans hBn
  obtain⟨i,hi⟩:∃i,i=16*k:=⟨_,rfl⟩
  rw[←hi]
  by_cases hlt:i<len
  ·have hkn:k<chkN len:=by unfold chkN;omega
   have hli:(i:Int)<(len:Int):=by omega
   obtain⟨m,hm⟩:∃m,m=chkM len k:=⟨_,rfl⟩
   have hY2:=hY k wr.drew hkn (hJ _ _ _ none hJs (only_drew (World.grownBy.refl wr none)) (fun r e=>by cases e))
   have hchk:chkAt ad len k=#[.slice (some (ad.add (i*2))) m m]:=by unfold chkAt;rw[←hi,←hm]
   have hmn:m≤16∧i+m≤len∧1≤m∧((m:Int)=16∨i+m=len):=by unfold chkM at hm;omega
   have hmin:min (16:Int) ((len-i:Nat):Int)=(m:Int):=by unfold chkM at hm;omega
   have hic:i≤len:=by omega
   have hcn:¬cap=i:=by omega
   rw[hchk]at hY2
   have HI:=Lib.hid (And.intro hi (And.intro hm hchk))
   have HY:=Lib.hid hY2
   have HK:=Lib.hid hkp
   clear hi hm hchk hY2 hY hJ
   gi_wp2
   refine wpIn_wide.2 ?_
   refine wp_region_held_drew (S:=fun V=>V.cell? ⟨Bs,0,none⟩=some (.slice (some ad) len cap)∧V.cell? ⟨Bs+1,0,none⟩=some (.int .i64 16)) (by kernel_rfl) ?_ (fun hHeld=>?_)
   ·exact⟨hb1,hb2⟩
   refine tk 0 ?_
   refine tk 1 ?_
   refine tk 2 ?_
   refine tk 3 ?_
   refine tk 4 ?_
   refine tk 5 ?_
   refine tk 6 ?_
   refine wpAnyH_done (by kernel_rfl) ?_ _
   have hb1:=hHeld.1
   have hb2:=hHeld.2
   obtain⟨fn,tmps,assign,body,hy,hR⟩:=HY.out
   have hR2:RoundIn Fence.wide (n-1) Tryz.prog l fn tmps assign body wr.drew (fun e W'=>∃bb,e= .returned (.bool bb)∧Hid ((bb=true∧J (List.range k++[k]) W'∧KeepC B Bs wr W')∨(bb=false∧Jx (List.range k++[k]) W'))):=by
    refine hR.mono ?_
    rintro e W' (⟨h1,h2,h3⟩|⟨h1,h2⟩)
    ·exact⟨true,h1,.inl ⟨rfl,h2,h3⟩⟩
    ·exact⟨false,h1,.inr ⟨rfl,h2⟩⟩
   have hw4:IntKind.i64.wrap ((i:Int)+(m:Int))=((i+m:Nat):Int):=by rw[IntKind.wrap_i64];omega
   have him:i≤i+m:=by omega
   have himc:i+m≤cap:=by omega
   have hne:¬i+m=i:=by omega
   have hsb:i+m-i=m:=by omega
   clear hR hkp hJs hHeld
   gi_wp2
   refine hR2.mono ?_
   rintro e W3 ⟨bb,rfl,hres⟩
   clear hR2 hy HY hb1 hb2
   rcases bb with _|_
   ·gi_wp2
    refine bodyPost_ret (results_none rfl _ _ _) rfl ?_
    rcases hres.out with ⟨h1,_⟩|⟨_,h2⟩
    ·cases h1
    ·exact⟨⟨_,rfl⟩,.inr ⟨_,⟨k+1,by omega,List.range_succ.symm⟩,h2⟩⟩
   ·have h3:J (List.range k++[k]) W3∧KeepC B Bs wr W3:=by
     rcases hres.out with ⟨_,h1,h2⟩|⟨h1,_⟩
     ·exact⟨h1,h2⟩
     ·cases h1
    have H3:=Lib.hid (And.intro h3.1 (HK.out.trans h3.2))
    have hb2:W3.cell? ⟨Bs+1,0,none⟩=some (.int .i64 16):=(H3.out.2.cell (.inr (.inr rfl))).trans hBn
    have hw5:IntKind.i64.wrap ((i:Int)+16)=((16*(k+1):Nat):Int):=by rw[IntKind.wrap_i64];have:=HI.out.1;omega
    clear h3 hres
    gi_wp2
    go_roundw
    case rel=>exact⟨k+1,by omega,rfl,by rw[List.range_succ];exact H3.out.1,H3.out.2⟩
    case measure=>simp[intOf];have:=HI.out.1;omega
  ·have hkn:k=chkN len:=by unfold chkN at *;omega
   have hli:¬(i:Int)<(len:Int):=by omega
   subst hkn
   gi_wp2
   go_end0
   exact⟨⟨_,rfl⟩,.inl (by first|exact⟨_,rfl,hJs⟩|exact hJs)⟩
theorem chunk_any (A:Option Addr) (len cap:Nat) (w:World):
 Calls Tryz.prog 95 #[.slice A len cap,.int .i64 16] w fun e w'=>e= .returned (.func (.func 152) #[] #[.pointer (some ⟨w.heap.size,0,none⟩),.pointer (some ⟨w.heap.size+1,0,none⟩)])∧w'=(w.alloc (.cells #[.slice A len cap] 25)).alloc (.cells #[.int .i64 16] 3):=by
 go_enter Tryz.func95,Tryz.ntmps95
 go_wp2
 go_ret
 exact⟨by first|rfl|simp,rfl⟩
theorem chunk_stops (n:Nat) (hn:1≤n) (B Bs cap len:Nat) (ad:Addr) (hlen:len≤1048576) (hcap:len≤cap) (hc2:cap≤9223372036854775807) (w:World) (hs:Bs+1<w.heap.size) (hc:w.cell? ⟨Bs,0,none⟩=some (.slice (some ad) len cap)) (hc':w.cell? ⟨Bs+1,0,none⟩=some (.int .i64 16)):
 SeqStopsK Fence.wide n Tryz.prog 152 #[.pointer (some ⟨Bs,0,none⟩),.pointer (some ⟨Bs+1,0,none⟩)] (chkAt ad len) (KeepC B Bs) (fun ys=>ys=List.range (chkN len)) (fun pre=>∃k,k≤chkN len∧pre=List.range k) (chkN len) w:=fun l J Jx W hW hJ _ hY h0=>
 chunk1_in n hn l B Bs cap ad len hlen hcap hc2 J Jx W hJ (fun x W1 hx hj=>hY _ x W1 hj (by simpa using hx)) ((hW.cell (p:=⟨Bs,0,none⟩) (by simp only;omega)).trans hc) ((hW.cell (p:=⟨Bs+1,0,none⟩) hs).trans hc') h0
end Go.Proofs.YtpkeacnacjnlcaaGreat
