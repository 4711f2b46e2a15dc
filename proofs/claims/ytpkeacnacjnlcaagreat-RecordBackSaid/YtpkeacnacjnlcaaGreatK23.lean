/- Plain law: a corner more on an edge; grid.Cells: the walk; slices.Clone of rings, ring.Norm with the room of its answer: the walks; Items of a plan: the model; of a sound plan no key stands twice. Plain laws. -/
import Derived.Laws.IdiomStrings
import Derived.Test.YtpkeacnacjnlcaaGreatK01
import Derived.Test.YtpkeacnacjnlcaaGreatK02
import Derived.Test.YtpkeacnacjnlcaaGreatK08
import Derived.Test.YtpkeacnacjnlcaaGreatK13
import Derived.Test.YtpkeacnacjnlcaaGreatK19
import Derived.Test.YtpkeacnacjnlcaaGreatK20
import Derived.Test.YtpkeacnacjnlcaaGreatK21
import Derived.Test.YtpkeacnacjnlcaaGreatK22
namespace Go.Proofs.YtpkeacnacjnlcaaGreat
/-- The ring with a corner more behind the k-th. -/
def mark (k:Nat) (p:Pt) (xs:List Pt):List Pt:=xs.take (k+1)++[p]++xs.drop (k+1)
end Go.Proofs.YtpkeacnacjnlcaaGreat
namespace Go.Proofs.YtpkeacnacjnlcaaGreat
open Go.RowKit
theorem aroW_ok {xs:List Pt} (hg:goodL xs=true) (k:Nat):good (aroW xs k).low=true∧good (aroW xs k).high=true∧(aroW xs k).lx≤(aroW xs k).hx∧(aroW xs k).ly≤(aroW xs k).hy:=by
 induction k with
 |zero=>
  have h:=ptAt_good hg 0
  exact⟨h,h,Int.le_refl _,Int.le_refl _⟩
 |succ k ih=>
  have h:=ptAt_good hg k
  obtain⟨h1,h2,h3,h4⟩:=ih
  rw[good_iff]at h h1 h2 ⊢
  rw[good_iff]
  simp only[Win.low,Win.high]at h1 h2 ⊢
  show((_:Int)≤mn _ _∧_)∧_
  simp only[aroW,mn,mx]
  refine⟨?_,?_,?_,?_⟩
  ·refine⟨?_,?_,?_,?_⟩<;>split<;>omega
  ·refine⟨?_,?_,?_,?_⟩<;>split<;>omega
  ·split<;>split<;>omega
  ·split<;>split<;>omega
theorem aroW_win {xs:List Pt} (hg:goodL xs=true) (k:Nat):winE (aroW xs k)=0∧(aroW xs k).inI:=by
 obtain⟨h1,h2,h3,h4⟩:=aroW_ok hg k
 refine⟨?_,good_in' h1,good_in' h2⟩
 unfold winE
 rw[if_pos (by simp[goodL,h1,h2]),if_neg (by omega)]
theorem ref_span2 {v:Win} (h:winE v=0):refW v 9=spanC v:=by
 obtain⟨⟨g1,g2,g3⟩,g4,g5,g6⟩:=win_good h
 unfold refW spanC
 rw[if_pos h]
 unfold spanW nRow nCol
 exact spanF_eq _ _ _ _ (by omega) (by omega) (by omega) (by omega) (by omega) (by omega)
noncomputable def cellsL (xs:List Pt):List Pt:=if checkI xs=0 then spanC (aroW xs xs.length)else[]
set_option maxHeartbeats 800000 in
theorem cells_any (xs:List Pt) (A:Option Addr) (n cap:Nat) (w:World) (hr:Reads w w.heap.size 2 A n (ptsV xs)) (hn:n≤9223372036854775807) (hx:∀p∈xs,p.inI):
 Calls Tryz.prog 99 #[.slice A n cap] w fun e w'=>∃A' c,e= .returned (.tuple #[.slice A' (cellsL xs).length c,.int .i64 (checkI xs)])∧w'.ownsRow w.heap.size 102 2 (.slice A' (cellsL xs).length c) (cellsL xs).length (ptsV (cellsL xs))∧Below w.heap.size w w':=by
 have hl:xs.length=n:=hr.lenPt
 have kC:=check_any xs A n cap w hr hn hx
 have hcl:cellsL xs=if checkI xs=0 then spanC (aroW xs xs.length)else[]:=rfl
 by_cases hE:checkI xs=0
 ·obtain⟨h1,h2,h3,-⟩:=checkI_zero hE
  obtain⟨hw1,hw2⟩:=aroW_win h2 xs.length
  rw[if_pos hE]at hcl
  rw[hE]at kC
  have kA:∀V,Below w.heap.size w V→Calls Tryz.prog 155 #[.slice A n cap] V fun e V'=>e= .returned (winV (aroW xs xs.length))∧Below V.heap.size V V':=fun V hV=>by
   rw[hl]
   exact around_any xs A n cap V ((hr.below hV).more hV.size) (by omega) (by omega)
  have kS:=fun V=>span_any (aroW xs xs.length) V hw2
  rw[hcl,hE]
  unfold winV at kA kS
  unfold SpanPost at kS
  rw[hw1]at kS
  generalize spanC (aroW xs xs.length)=cs at *
  generalize aroW xs xs.length=v at *
  have HK:=Lib.hid (And.intro kC (And.intro kA kS))
  clear kC kA kS hw1 hw2 h1 h2 h3 hE hcl hx hr hn hl
  go_enter Tryz.func99,Tryz.ntmps99
  go_wp2_with fail
  with_reducible refine HK.out.1.mono ?_
  rintro e w1 ⟨rfl,hb1⟩
  have H1:=Lib.hid hb1
  clear hb1
  go_wp2_with fail
  with_reducible refine(HK.out.2.1 _ H1.out).mono ?_
  rintro e w2 ⟨rfl,hb2⟩
  have H2:=Lib.hid (below_on H1.out (Nat.le_refl _) hb2)
  clear hb2 H1
  go_wp2_with fail
  with_reducible refine(HK.out.2.2 _).mono ?_
  rintro e w3 ⟨A3,c3,rfl,ho3,hb3⟩
  have H3:=Lib.hid (And.intro (own_mono ho3 H2.out.size) (below_on H2.out (Nat.le_refl _) hb3))
  clear hb3 ho3 H2
  go_wp2_with fail
  exact bodyPost_ret (v:= .tuple #[.slice A3 cs.length c3,.int .i64 0]) (by simp[results,Tryz.results99,go_sem]) rfl ⟨A3,c3,rfl,H3.out⟩
 ·rw[if_neg hE]at hcl
  rw[hcl]
  have hne:(checkI xs != 0)=true:=by simpa using hE
  generalize checkI xs=ce at *
  have HK:=Lib.hid kC
  clear kC hE hcl hx hr hn hl
  go_enter Tryz.func99,Tryz.ntmps99
  go_wp2_with fail
  with_reducible refine HK.out.mono ?_
  rintro e w1 ⟨rfl,hb1⟩
  clear HK
  go_wp2_with fail
  exact bodyPost_ret (v:= .tuple #[.slice none 0 0,.int .i64 ce]) (by simp[results,Tryz.results99,go_sem]) rfl ⟨none,0,rfl,World.ownsRow_nil _ _ _ _,hb1⟩
end Go.Proofs.YtpkeacnacjnlcaaGreat
namespace Go.Proofs.YtpkeacnacjnlcaaGreat
theorem cornN_eq (n:Nat) (ps:List Parc):cornN n ps=n+(allE ps).length:=by
 induction ps generalizing n with
 |nil=>rfl
 |cons x r ih=>
  rw[cornN_cons,ih]
  unfold allE
  rw[List.flatMap_cons,List.length_append,edgesOf_len]
  omega
theorem listed_bd {p:Plan} (h:listedB p=true):1≤p.parcels.length∧p.parcels.length≤64∧p.outer.length+(allE p.parcels).length≤1024:=by
 unfold listedB at h
 rw[Bool.and_eq_true,Bool.and_eq_true,Bool.and_eq_true,decide_eq_true_eq,decide_eq_true_eq,decide_eq_true_eq,cornN_eq]at h
 omega
theorem normB_iff {xs:List Pt}:normB xs=true↔NormedP xs:=by unfold normB;simp
theorem matchB_iff {p:Plan}:matchB p=true↔MatchP p:=by unfold matchB;simp
theorem goodL_mem {xs:List Pt} (h:goodL xs=true) {p:Pt} (hp:p∈xs):good p=true:=by
 unfold goodL at h
 exact List.all_eq_true.1 h p hp
theorem edges_ok {xs:List Pt} (h:checkI xs=0):∀e∈edgesOf xs,e.a≠e.b∧(good e.a=true∧good e.b=true):=by
 obtain⟨-,h1,h2,-,h3⟩:=checkI_zero h
 have hn:=pairs_nodup h3
 intro e he
 unfold edgesOf at he
 rw[List.mem_map]at he
 obtain⟨k,hk,rfl⟩:=he
 rw[List.mem_range]at hk
 have hk2:(k+1)%xs.length<xs.length:=Nat.mod_lt _ (by omega)
 simp only
 rw[ptAt_lt hk,ptAt_lt hk2]
 refine⟨fun h'=>?_,goodL_mem h1 (List.getElem_mem _),goodL_mem h1 (List.getElem_mem _)⟩
 have hne:k≠(k+1)%xs.length:=by
  rcases Nat.lt_or_ge (k+1) xs.length with h4|h4
  ·rw[Nat.mod_eq_of_lt h4];omega
  ·have h5:k+1=xs.length:=by omega
   rw[h5,Nat.mod_self];omega
 have hp:=List.pairwise_iff_getElem.1 hn
 rcases Nat.lt_or_gt_of_ne hne with h4|h4
 ·exact hp _ _ hk hk2 h4 h'
 ·exact hp _ _ hk2 hk h4 h'.symm
theorem allE_mem {ps:List Parc} {e:Ed}:e∈allE ps↔∃x∈ps,e∈edgesOf x.ring:=by unfold allE;rw[List.mem_flatMap]
/-- What plan.clean wants of a plan. -/
def PreC (p:Plan):Prop:=(2≤(allE p.parcels).length∧(allE p.parcels).length≤1048576)∧(∀e∈allE p.parcels,e.a≠e.b)∧(∀e∈allE p.parcels,good e.a=true∧good e.b=true)∧(allE p.parcels).Nodup
theorem pre_of {p:Plan} (h1:listedB p=true) (h3:∀x∈p.parcels,NormedP x.ring) (h4:MatchP p):PreC p:=by
 obtain⟨b1,b2,b3⟩:=listed_bd h1
 have hE:∀e∈allE p.parcels,e.a≠e.b∧(good e.a=true∧good e.b=true):=fun e he=>by
  obtain⟨x,hx,hm⟩:=allE_mem.1 he
  exact edges_ok (h3 x hx).1 e hm
 refine⟨⟨?_,by omega⟩,fun e he=>(hE e he).1,fun e he=>(hE e he).2,h4.1⟩
 rcases hp:p.parcels with _|⟨x,r⟩
 ·rw[hp]at b1;simp at b1
 ·have:=(checkI_zero (h3 x (by rw[hp];simp)).1).2.2.1
  unfold allE
  rw[List.flatMap_cons,List.length_append,edgesOf_len]
  omega
theorem areas_of {p:Plan} (h2:NormedP p.outer) (h3:∀x∈p.parcels,NormedP x.ring):areaE p.outer=0∧∀x∈p.parcels,areaE x.ring=0:=by
 have hz:∀xs,checkI xs=0→areaE xs=0:=fun xs h=>by
  apply Classical.byContradiction
  intro h'
  exact h' (by rw[←checkI_err h'];exact h)
 exact⟨hz _ h2.1,fun x hx=>hz _ (h3 x hx).1⟩
theorem planE_ok {p:Plan} (h:SoundP p):planE p=0:=by
 unfold planE planB
 simp[h]
theorem planE_no {p:Plan} (h:¬SoundP p):planE p=2:=by
 unfold planE planB
 simp[h]
theorem any_norm {p:Plan}:(p.parcels.any fun x=>!normB x.ring)=false↔∀x∈p.parcels,NormedP x.ring:=by
 rw[List.any_eq_false]
 constructor
 ·intro h x hx
  have:=h x hx
  rw[Bool.not_eq_true',Bool.not_eq_false]at this
  exact normB_iff.1 this
 ·intro h x hx
  rw[normB_iff.2 (h x hx)]
  decide
theorem planE_eq (p:Plan) (b5:Bool) (h5:b5=true↔PairsE (allE p.parcels)):
 planE p=if listedB p=true∧normB p.outer=true∧(p.parcels.any fun x=>!normB x.ring)=false∧matchB p=true∧b5=true∧decide (areasL p.parcels=areaZ p.outer)=true then 0 else 2:=by
 have hs:SoundP p↔listedB p=true∧normB p.outer=true∧(p.parcels.any fun x=>!normB x.ring)=false∧matchB p=true∧b5=true∧decide (areasL p.parcels=areaZ p.outer)=true:=by
  rw[normB_iff,matchB_iff,h5,decide_eq_true_eq,any_norm]
  exact Iff.rfl
 by_cases h:SoundP p
 ·rw[planE_ok h,if_pos (hs.1 h)]
 ·rw[planE_no h,if_neg (fun h'=>h (hs.2 h'))]
end Go.Proofs.YtpkeacnacjnlcaaGreat
namespace Go.Proofs.YtpkeacnacjnlcaaGreat
open Go.RowKit
theorem pIn_one {W:World} {B g n c:Nat} {A:Option Addr} {x:Parc} (hb:Blk W g 27 #[.int .i64 x.id,.slice A n c,.string x.owner]) (hr:Reads W B 2 A n (ptsV x.ring)) (h1:n≤c) (h2:c≤9223372036854775807) (hg:g<B):PIn W B (some ⟨g,0,none⟩) 1 [x]:=by
 refine⟨rfl,fun _=>⟨_,rfl,hg,fun k hk=>?_⟩⟩
 obtain rfl:k=0:=by omega
 simp only[add_row]
 exact⟨by rw[Blk.cell hb];rfl,⟨A,n,c,by rw[Blk.cell hb];rfl,hr,h1,h2⟩,by rw[Blk.cell hb];rfl⟩
end Go.Proofs.YtpkeacnacjnlcaaGreat
namespace Go.Proofs.YtpkeacnacjnlcaaGreat
/-- A point's bytes. -/
def ptB (q:Pt):List UInt8:=beB (q.x+1073741824).toNat 4++beB (q.y+1073741824).toNat 4
/-- A number's bytes. -/
def idBy (id:Int):List UInt8:=beB id.toNat 4
/-- The points of an item. -/
def chunkB (r:List Pt) (k:Nat):List UInt8:=((r.drop (16*k)).take 16).flatMap ptB
/-- How many items have a ring's points. -/
def chkN (n:Nat):Nat:=(n+15)/16
def ringIts (head:List UInt8) (r:List Pt) (s:Nat):List It:=(List.range (chkN r.length)).map fun k=>⟨head++[UInt8.ofNat (s+k)],chunkB r k⟩
def edgKy (e:Ed):List UInt8:=101::(ptB e.a++ptB e.b)
def clKey (id:Int) (c:Pt):List UInt8:=99::UInt8.ofNat (c.x+128).toNat::UInt8.ofNat (c.y+128).toNat::idBy id
def pcHead (id:Int):List UInt8:=112::idBy id
noncomputable def parIts (x:Parc):List It:=
 (⟨pcHead x.id++[0],x.owner.data.toList⟩::ringIts (pcHead x.id) x.ring 1)++((edgesOf x.ring).map (fun e=>⟨edgKy e,idBy x.id⟩)++(cellsL x.ring).map (fun c=>⟨clKey x.id c,[]⟩))
noncomputable def planIts (p:Plan):List It:=ringIts [111] p.outer 0++p.parcels.flatMap parIts
theorem beB_inj {a b s:Nat} (ha:a<256^s) (hb:b<256^s) (h:beB a s=beB b s):a=b:=by
 have h1:=congrArg numL h
 rw[numL_beB,numL_beB,Nat.mod_eq_of_lt ha,Nat.mod_eq_of_lt hb]at h1
 exact h1
theorem idBy_len (id:Int):(idBy id).length=4:=beB_length _ _
theorem ptB_len (q:Pt):(ptB q).length=8:=by unfold ptB;rw[List.length_append,beB_length,beB_length]
theorem idBy_inj {a b:Int} (ha:idB a=true) (hb:idB b=true) (h:idBy a=idBy b):a=b:=by
 unfold idB at ha hb
 simp only[decide_eq_true_eq]at ha hb
 have:=beB_inj (a:=a.toNat) (b:=b.toNat) (s:=4) (by omega) (by omega) h
 omega
theorem ptB_inj {a b:Pt} (ha:good a=true) (hb:good b=true) (h:ptB a=ptB b):a=b:=by
 rw[good_iff]at ha hb
 unfold ptB at h
 obtain⟨h1,h2⟩:=List.append_inj h (by rw[beB_length,beB_length])
 have e1:=beB_inj (s:=4) (by omega) (by omega) h1
 have e2:=beB_inj (s:=4) (by omega) (by omega) h2
 rcases a with ⟨a,a'⟩
 rcases b with ⟨b,b'⟩
 simp only at ha hb e1 e2
 rw[show a=b by omega,show a'=b' by omega]
theorem edgKy_inj {e f:Ed} (h1:good e.a=true) (h2:good e.b=true) (h3:good f.a=true) (h4:good f.b=true) (h:edgKy e=edgKy f):e=f:=by
 unfold edgKy at h
 obtain⟨h5,h6⟩:=List.append_inj (List.cons.inj h).2 (by rw[ptB_len,ptB_len])
 rcases e with ⟨a,b⟩
 rcases f with ⟨c,d⟩
 simp only at *
 rw[ptB_inj h1 h3 h5,ptB_inj h2 h4 h6]
theorem ringIts_keys (head:List UInt8) (r:List Pt) (s:Nat):(ringIts head r s).map (·.k)=(List.range (chkN r.length)).map fun k=>head++[UInt8.ofNat (s+k)]:=by
 unfold ringIts
 rw[List.map_map]
 rfl
theorem chkN_le {n m:Nat} (h:n≤16*m):chkN n≤m:=by unfold chkN;omega
theorem nodup_map_inj {α β:Type} {f:α→β} {l:List α} (hn:l.Nodup) (h:∀x∈l,∀y∈l,f x=f y→x=y):(l.map f).Nodup:=by
 induction l with
 |nil=>exact List.nodup_nil
 |cons a l ih=>
  rw[List.nodup_cons]at hn
  rw[List.map_cons,List.nodup_cons]
  refine⟨fun hm=>?_,ih hn.2 fun x hx y hy=>h x (List.mem_cons_of_mem _ hx) y (List.mem_cons_of_mem _ hy)⟩
  obtain⟨y,hy,e⟩:=List.mem_map.1 hm
  have:=h y (List.mem_cons_of_mem _ hy) a (List.mem_cons_self ..) e
  exact hn.1 (this▸hy)
theorem ringIts_nodup (head:List UInt8) (r:List Pt) (s:Nat) (h:r.length≤128) (_hs:s≤1):((ringIts head r s).map (·.k)).Nodup:=by
 rw[ringIts_keys]
 refine nodup_map_inj List.nodup_range fun i hi j hj e=>?_
 rw[List.mem_range]at hi hj
 have hc:=chkN_le (n:=r.length) (m:=8) (by omega)
 have e1:=congrArg UInt8.toNat (List.cons.inj (List.append_cancel_left e)).1
 simp only[UInt8.toNat_ofNat']at e1
 omega
theorem cell_key {v:Win} {c:Pt} (hc:c∈spanC v): -4≤c.x∧c.x≤4∧ -4≤c.y∧c.y≤4:=by
 unfold spanC at hc
 split at hc
 case isFalse=>simp at hc
 case isTrue hv=>
  obtain⟨⟨b1,b2,b3⟩,b4,b5,b6⟩:=win_good hv
  unfold spanW at hc
  obtain⟨k,hk,rfl⟩:=List.mem_iff_getElem.1 hc
  rw[spanR_get]
  rw[spanR_length]at hk
  have hm:0<nRow v:=by
   rcases Nat.eq_zero_or_pos (nRow v)with h0|h0
   ·rw[h0]at hk;simp at hk
   ·exact h0
  have h1:k/nRow v<nCol v:=Nat.div_lt_of_lt_mul (by rw[Nat.mul_comm];exact hk)
  have h2:k%nRow v<nRow v:=Nat.mod_lt _ hm
  generalize k/nRow v=q at *
  generalize k%nRow v=r at *
  unfold nCol at h1
  unfold nRow at h2
  simp only
  omega
theorem spanC_nodup (v:Win):(spanC v).Nodup:=by
 unfold spanC
 split
 case isFalse=>exact List.nodup_nil
 case isTrue hv=>
  unfold spanW
  refine List.pairwise_iff_getElem.2 fun i j hi hj hij e=>?_
  rw[spanR_get,spanR_get]at e
  have e1:=congrArg Pt.x e
  have e2:=congrArg Pt.y e
  simp only at e1 e2
  have d1:=Nat.div_add_mod i (nRow v)
  have d2:=Nat.div_add_mod j (nRow v)
  have e3:i/nRow v=j/nRow v:=by omega
  have e4:i%nRow v=j%nRow v:=by omega
  rw[e3,e4]at d1
  omega
end Go.Proofs.YtpkeacnacjnlcaaGreat
