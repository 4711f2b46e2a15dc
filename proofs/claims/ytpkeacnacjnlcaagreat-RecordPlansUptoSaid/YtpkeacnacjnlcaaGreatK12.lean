/- plan.edges: the walk; slices.Equal, plan.normed, the document's normed, and slices.ContainsFunc of them: the walks; Strings as keys of a map; merestoneref02.Around: the walk; grid.Cells: the walk; What lies beside PlanLaw; ref05.SameParcel and ref05.Same: the walks. -/
import Derived.Test.YtpkeacnacjnlcaaGreatK05
import Derived.Test.YtpkeacnacjnlcaaGreatK06
import Derived.Test.YtpkeacnacjnlcaaGreatK09
import Derived.Test.YtpkeacnacjnlcaaGreatK10
namespace Go.Proofs.YtpkeacnacjnlcaaGreat
open Go.RowKit
attribute [local go_sem] Oper.semAt_some
def edId (ps:List Parc):List (Ed×Value):=ps.flatMap fun x=>(edgesOf x.ring).map fun e=>(e,.int .i64 x.id)
theorem edId_keys (ps:List Parc):(edId ps).map (·.1)=allE ps:=by
 unfold edId allE
 rw[List.map_flatMap]
 congr 1
 funext x
 simp[Function.comp_def]
theorem edId_snoc (ps:List Parc) (x:Parc):edId (ps++[x])=edId ps++(edgesOf x.ring).map fun e=>(e,.int .i64 x.id):=by simp[edId]
def edgeK (xs:List Pt) (k:Nat):Ed:=⟨ptAt xs k,ptAt xs ((k+1)%xs.length)⟩
theorem edgesOf_map (xs:List Pt):edgesOf xs=(List.range xs.length).map (edgeK xs):=rfl
theorem edgesOf_sub {xs:List Pt} {k:Nat} (h:k≤xs.length):((List.range k).map (edgeK xs)).Sublist (edgesOf xs):=by
 rw[edgesOf_map]
 exact List.Sublist.map _ (List.range_sublist.2 h)
theorem allE_take_sub {ps:List Parc} {k j:Nat} (hk:k<ps.length) (hj:j≤(pcAt ps k).ring.length):(allE (ps.take k)++(List.range j).map (edgeK (pcAt ps k).ring)).Sublist (allE ps):=by
 have h1:ps=ps.take k++(pcAt ps k::ps.drop (k+1)):=by
  rw[pcAt_lt hk,←List.drop_eq_getElem_cons hk,List.take_append_drop]
 have h2:allE ps=allE (ps.take k)++(edgesOf (pcAt ps k).ring++allE (ps.drop (k+1))):=by
  conv=>lhs;rw[h1]
  unfold allE
  rw[List.flatMap_append,List.flatMap_cons]
 rw[h2]
 exact List.Sublist.append (List.Sublist.refl _) ((edgesOf_sub hj).trans (List.sublist_append_left _ _))
set_option maxRecDepth 100000 in
set_option maxHeartbeats 3200000 in
theorem planEdges_any (ps:List Parc) (A:Option Addr) (n cap:Nat) (w:World) (hr:PIn w w.heap.size A n ps) (hn:n≤8796093022208) (hf:∀x∈ps,x.fits):
 Calls Tryz.prog 143 #[.slice A n cap] w fun e w'=>((allE ps).Nodup→∃b,e= .returned (.tuple #[.map (some b),.bool true])∧MapB w' b encE (edId ps)∧w.heap.size≤b)∧(¬(allE ps).Nodup→e= .returned (.tuple #[.map none,.bool false]))∧Below w.heap.size w w':=by
 have HR:=Lib.hid (And.intro hr hf)
 clear hr hf
 have hmm:=@run_makeMap Tryz.prog
 refine(callsIn_wide (n:=3)).1 ?_
 refine callsIn_of_wp_marks Tryz.func143 rfl trivial ?_ rfl
 simp only[Tryz.ntmps143,List.size_toArray,List.length_cons,List.length_nil,Nat.reduceAdd,Nat.reduceSub,Array.replicate_succ,Array.replicate_zero,List.push_toArray,List.append_toArray,List.nil_append,List.cons_append]
 gi_wp2_with fail
 have b0:=(((Boxed.new w 179 (.map none)).alloc (.cells #[.bool false] 4)).alloc (.map #[] 0)).alloc (.cells #[.map (some (w.heap.size+1+1))] 179)
 have b1:=((Boxed.new (w.alloc (.cells #[.map none] 179)) 4 (.bool false)).alloc (.map #[] 0)).alloc (.cells #[.map (some (w.heap.size+1+1))] 179)
 have b3:=Boxed.new (((w.alloc (.cells #[.map none] 179)).alloc (.cells #[.bool false] 4)).alloc (.map #[] 0)) 179 (.map (some (w.heap.size+1+1)))
 have bm:MapB ((((w.alloc (.cells #[.map none] 179)).alloc (.cells #[.bool false] 4)).alloc (.map #[] 0)).alloc (.cells #[.map (some (w.heap.size+1+1))] 179)) (w.heap.size+1+1) encE []:=by
  have h:=MapB.made ((w.alloc (.cells #[.map none] 179)).alloc (.cells #[.bool false] 4)) encE
  simp only[World.size_alloc]at h
  exact h.kept (Below.heap_alloc _ _ _ h.lt)
 simp only[World.size_alloc]at b1 b3
 have hB0:=((((Below.refl w.heap.size w).alloc (Nat.le_refl _) (.cells #[.map none] 179)).alloc (by simp) (.cells #[.bool false] 4)).alloc (by simp;omega) (.map #[] 0)).alloc (by simp;omega) (.cells #[.map (some (w.heap.size+1+1))] 179)
 have H0:=Lib.hid (And.intro hB0 (And.intro b0 (And.intro b1 (And.intro b3 bm))))
 clear b0 b1 b3 bm hB0
 generalize (((w.alloc (.cells #[.map none] 179)).alloc (.cells #[.bool false] 4)).alloc (.map #[] 0)).alloc (.cells #[.map (some (w.heap.size+1+1))] 179)=w0 at *
 refine wpIn_loop (fun a' wr=>∃(u6 u15 u16 u17 u18 u19 u20 u34:Value) (k:Nat) (Ds:List Nat),(k≤n∧Marks w.heap.size Ds wr∧Hid (allE (ps.take k)).Nodup∧Below w.heap.size w wr∧Boxed wr w.heap.size 179 (.map none)∧Boxed wr (w.heap.size+1) 4 (.bool false)∧Boxed wr (w.heap.size+1+1+1) 179 (.map (some (w.heap.size+1+1)))∧MapB wr (w.heap.size+1+1) encE (edId (ps.take k)))∧
  a'={ tmps:=#[.slice A n cap,undef,.pointer (some ⟨w.heap.size,0,none⟩),.pointer (some ⟨w.heap.size+1,0,none⟩),.pointer (some ⟨w.heap.size+1+1+1,0,none⟩),undef,u6,undef,undef,undef,undef,.map (some (w.heap.size+1+1)),.slice A n cap,.int .i64 (n:Int),.int .i64 (k:Int),u15,u16,u17,u18,u19,u20,undef,undef,undef,undef,undef,undef,undef,undef,undef,undef,undef,undef,undef,u34,undef],defers:=marksL Ds }) (fun a' _=>n-(intOf (a'.tmps.getD 14 undef)).toNat) ?_ ?_
 ·exact⟨undef,undef,undef,undef,undef,undef,undef,undef,0,[],⟨Nat.zero_le _,Marks.nil _ _,List.nodup_nil,H0.out.1,H0.out.2.1,H0.out.2.2.1,H0.out.2.2.2.1,H0.out.2.2.2.2⟩,rfl⟩
 clear H0
 rintro a' wr ⟨u6,u15,u16,u17,u18,u19,u20,u34,k,Ds,⟨hk,hmk,hnd,hbel,b0,b1,b3,bm⟩,rfl⟩
 by_cases hlt:k<n
 ·have hlt':(k:Int)<(n:Int):=by omega
  have hw1:IntKind.i64.wrap ((k:Int)+1)=(k:Int)+1:=by rw[IntKind.wrap_i64];omega
  obtain⟨ad,rfl⟩:=HR.out.1.some_ (by omega)
  obtain⟨-,p1,⟨Ak,nk,ck,p2,hrk,hk1,hk2⟩,p3⟩:=(HR.out.1.below hbel).at_ hlt
  have HX:=Lib.hid (And.intro hmk (And.intro hnd (And.intro hbel (And.intro b0 (And.intro b1 (And.intro b3 bm))))))
  clear hmk hnd hbel b0 b1 b3 bm
  obtain⟨x,hx⟩:∃x,x=pcAt ps k:=⟨_,rfl⟩
  rw[←hx]at p1 p3 hrk
  have HXX:=Lib.hid hx
  clear hx
  have hrk':=Lib.hid hrk
  clear hrk
  gi_wp2_with fail
  refine⟨trivial,?_⟩
  refine(callsIn_wide.2 (edges_any Ak nk ck _)).mono ?_
  rintro e w3 ⟨rfl,rfl⟩
  gi_wp2_with fail
  have hsz:w.heap.size+1+1+1<wr.heap.size:=HX.out.2.2.2.2.2.1.lt
  have c1:PcK ((wr.alloc (.cells #[.int .i64 x.id,.slice Ak nk ck,.string x.owner] 27)).alloc (.cells #[.slice Ak nk ck] 25)) wr.heap.size x Ak nk ck:=Blk.alloc (PcK.new wr x Ak nk ck) _
  have c2:=Boxed.new (wr.alloc (.cells #[.int .i64 x.id,.slice Ak nk ck,.string x.owner] 27)) 25 (.slice Ak nk ck)
  rw[World.size_alloc]at c2
  have hB1:Below wr.heap.size wr ((wr.alloc (.cells #[.int .i64 x.id,.slice Ak nk ck,.string x.owner] 27)).alloc (.cells #[.slice Ak nk ck] 25)):=((Below.refl _ _).alloc (Nat.le_refl _) _).alloc (by simp) _
  have hz1:((wr.alloc (.cells #[.int .i64 x.id,.slice Ak nk ck,.string x.owner] 27)).alloc (.cells #[.slice Ak nk ck] 25)).heap.size=wr.heap.size+2:=by simp
  generalize (wr.alloc (.cells #[.int .i64 x.id,.slice Ak nk ck,.string x.owner] 27)).alloc (.cells #[.slice Ak nk ck] 25)=w1 at *
  obtain⟨L0,hL0⟩:∃L0,L0=edId (ps.take k):=⟨_,rfl⟩
  have hK0:L0.map (·.1)=allE (ps.take k):=by rw[hL0,edId_keys]
  obtain⟨hmk,hnd,hbel,b0,b1,b3,bm⟩:=HX.out
  rw[←hL0]at bm
  have hDl:∀D∈Ds,D<w1.heap.size:=fun D hD=>by have:=hmk.lt hD;omega
  have hnk:x.ring.length=nk:=hrk'.out.lenPt
  have hfx:x.fits:=by rw[HXX.out,pcAt_lt (by have:=HR.out.1.1;omega)];exact HR.out.2 _ (List.getElem_mem _)
  have hlen:nk≤4611686018427387904:=by have:=hfx.1;omega
  have HNK:=Lib.hid hnk
  clear hnk
  refine wpIn_rangeFunc_ownH rfl (by omega) (gf:=153) (lb:=#[.pointer (some ⟨wr.heap.size+1,0,none⟩)]) rfl trivial (enters_of Tryz.func153 (by kernel_rfl) rfl)
   (edges_stopsR 2 (by omega) w.heap.size (wr.heap.size+1) ck nk Ak x.ring hlen w1 (by omega) (by omega) c2.cell (hrk'.out.below (hB1.mono (by omega)))) (fun h k=>h.trans k)
   (fun W l o o' hl h _ _=>⟨by simp,fun i hi=>World.putObj_heap_other (by omega)⟩) (Below.refl _ _) (fun _=>rfl)
   (fun pre W=>(Boxed W w.heap.size 179 (.map none)∧Boxed W (w.heap.size+1) 4 (.bool false)∧Boxed W (w.heap.size+1+1+1) 179 (.map (some (w.heap.size+1+1)))∧PcK W wr.heap.size x Ak nk ck∧Boxed W (wr.heap.size+1) 25 (.slice Ak nk ck)∧(allE (ps.take k)++pre.map fun y=>edgeK x.ring y.1).Nodup)∧MapB W (w.heap.size+1+1) encE (L0++pre.map fun y=>(edgeK x.ring y.1,.int .i64 x.id))∧Marks w.heap.size Ds W∧Below w.heap.size w W)
   (fun c pre W=>(c= .ret∧¬(allE (ps.take k)++pre.map fun y=>edgeK x.ring y.1).Nodup∧Boxed W w.heap.size 179 (.map none)∧Boxed W (w.heap.size+1) 4 (.bool false))∧Marks w.heap.size Ds W∧Below w.heap.size w W)
   (OwnFrom.and (Own.from (fun s X Y row hs hg hrow=>⟨boxed_own _ _ (fun _:Unit=>_) () X Y row hs.1 hg hrow,boxed_own _ _ (fun _:Unit=>_) () X Y row hs.2.1 hg hrow,boxed_own _ _ (fun _:Unit=>_) () X Y row hs.2.2.1 hg hrow,blk_own _ _ (fun _:Unit=>_) () X Y row hs.2.2.2.1 hg hrow,boxed_own _ _ (fun _:Unit=>_) () X Y row hs.2.2.2.2.1 hg hrow,hs.2.2.2.2.2⟩) _) (OwnFrom.and (mapB_from (by omega) encE _) (OwnFrom.and (marks_from hDl) (ownFrom_below (Nat.le_refl _) (by omega)))))
   (fun c=>OwnFrom.and (Own.from (fun s X Y row hs hg hrow=>⟨hs.1,hs.2.1,boxed_own _ _ (fun _:Unit=>_) () X Y row hs.2.2.1 hg hrow,boxed_own _ _ (fun _:Unit=>_) () X Y row hs.2.2.2 hg hrow⟩) _) (OwnFrom.and (marks_from hDl) (ownFrom_below (Nat.le_refl _) (by omega))))
   ⟨⟨Blk.below b0 hB1 b0.lt,Blk.below b1 hB1 b1.lt,Blk.below b3 hB1 b3.lt,c1,c2,by simpa using hnd.out⟩,by simpa using bm.kept (hB1.block _ bm.lt),hmk.on hB1,below_on hbel (Nat.le_refl _) hB1⟩
   (fun y a' W=>∃(Bx:Nat) (v15 v16 v17 v18 v19 v20 v21 v22 v34:Value),Blk W Bx 76 #[.int .i64 (ptAt x.ring y.1).x,.int .i64 (ptAt x.ring y.1).y,.int .i64 (ptAt x.ring ((y.1+1)%x.ring.length)).x,.int .i64 (ptAt x.ring ((y.1+1)%x.ring.length)).y]∧
     a'={ tmps:=#[.slice (some ad) n cap,undef,.pointer (some ⟨w.heap.size,0,none⟩),.pointer (some ⟨w.heap.size+1,0,none⟩),.pointer (some ⟨w.heap.size+1+1+1,0,none⟩),undef,.pointer (some ⟨wr.heap.size,0,none⟩),undef,.pointer (some ⟨Bx,0,none⟩),undef,undef,.map (some (w.heap.size+1+1)),.slice (some ad) n cap,.int .i64 (n:Int),.int .i64 (k:Int),v15,v16,v17,v18,v19,v20,v21,v22,undef,undef,undef,undef,undef,undef,undef,undef,undef,undef,undef,v34,undef],defers:=[] })
   (fun y a'=>fun s X Y row ⟨Bx,v15,v16,v17,v18,v19,v20,v21,v22,v34,hs,e⟩ hg hrow=>⟨Bx,v15,v16,v17,v18,v19,v20,v21,v22,v34,blk_own Bx _ (fun _:Unit=>_) () X Y row hs hg (fun r hr=>(hrow r hr).2),e⟩) ?assign ?body ?done ?stop
  case assign=>
   rintro l pre y W K ⟨⟨d0,d1,d3,dx,dr,hne⟩,dm,dk,dB⟩ hK
   unfold edgeAt edgeV
   gi_wp2
   have h1:=dr.lt
   have h2:=dB.size
   refine hK _ _ ((KeepsOthers.alloc _ _).from _) (KeepE.alloc (by omega) h1 _) ⟨⟨d0.alloc _,d1.alloc _,d3.alloc _,Blk.alloc dx _,dr.alloc _,hne⟩,dm.kept (Below.heap_alloc _ _ _ dm.lt),dk.on ((Below.refl _ _).alloc (Nat.le_refl _) _),dB.alloc dB.size _⟩ ⟨W.heap.size,_,_,_,_,_,_,_,_,_,Blk.new W _ _,rfl⟩
  case body=>
   rintro l pre ⟨y,hyn⟩ a' W hl' ⟨r,hrr⟩ ⟨⟨d0,d1,d3,dx,dr,hne⟩,dm,dk,dB⟩ ⟨Bx,v15,v16,v17,v18,v19,v20,v21,v22,v34,hBx,rfl⟩ hlen'
   obtain⟨e,he⟩:∃e,e=edgeK x.ring y:=⟨_,rfl⟩
   have he1:e.a=ptAt x.ring y:=by rw[he];rfl
   have he2:e.b=ptAt x.ring ((y+1)%x.ring.length):=by rw[he];rfl
   simp only[←he1,←he2]at hBx
   clear he1 he2
   have HE:=Lib.hid he
   clear he
   have HY:=Lib.hid (And.intro d0 (And.intro d1 (And.intro d3 (And.intro dx (And.intro dr (And.intro hne (And.intro dk dB)))))))
   have x1:W.cell? ⟨Bx,0,none⟩=some (.int .i64 e.a.x):=by rw[Blk.cell hBx 0];rfl
   have x2:W.cell? ⟨Bx,1,none⟩=some (.int .i64 e.a.y):=by rw[Blk.cell hBx 1];rfl
   have x3:W.cell? ⟨Bx,2,none⟩=some (.int .i64 e.b.x):=by rw[Blk.cell hBx 2];rfl
   have x4:W.cell? ⟨Bx,3,none⟩=some (.int .i64 e.b.y):=by rw[Blk.cell hBx 3];rfl
   have x5:=d3.cell
   obtain⟨y1,y2,y3,-⟩:=dx.facts
   have hgl:=dm.lt
   have hk0:(L0++pre.map fun y=>(edgeK x.ring y.1,Value.int .i64 x.id)).map (·.1)=allE (ps.take k)++pre.map fun y=>edgeK x.ring y.1:=by rw[List.map_append,hK0,List.map_map];rfl
   rcases hq:look (L0++pre.map fun y=>(edgeK x.ring y.1,Value.int .i64 x.id)) e with _|v
   ·have hlk:Sem.run Tryz.prog (Instr.lookup 179 (.map (some (w.heap.size+1+1))) (.agg #[.int .i64 e.a.x,.int .i64 e.a.y,.int .i64 e.b.x,.int .i64 e.b.y]) true) W= .ok (.tuple #[.int .i64 0,.bool false]) W:=run_look_out edKey Tryz.underlying179 Tryz.zeroValue3 dm hq
    obtain⟨W',hup,hm',hg'⟩:=run_put_new edKey Tryz.underlying179 dm (.int .i64 x.id) hq
    have hup':Sem.run Tryz.prog (Instr.mapUpdate 179 (.map (some (w.heap.size+1+1))) (.agg #[.int .i64 e.a.x,.int .i64 e.a.y,.int .i64 e.b.x,.int .i64 e.b.y]) (.int .i64 x.id)) W= .ok () W':=hup
    have hnot:e∉allE (ps.take k)++pre.map fun y=>edgeK x.ring y.1:=by rw[←hk0];exact look_none.1 hq
    have HZ:=Lib.hid (And.intro hm' (And.intro hg' hnot))
    have HDM:=Lib.hid dm
    clear d0 d1 d3 dx dr hne dk dB dm hBx hq hup hm' hg' hnot hk0
    gi_wp2_with fail
    obtain⟨e0,e1,e3,ex,er,hne,ek,eB⟩:=HY.out
    obtain⟨hm',hg',hnot⟩:=HZ.out
    have hbb:∀i,i<W.heap.size→i≠w.heap.size+1+1→W'.heap[i]?=W.heap[i]?:=fun i hi hne'=>hg'.block i hi (fun e=>hne' (by cases e;rfl))
    refine⟨KeepsFrom.of_grownBy hg' (fun j e=>by have:=Option.some.inj e;omega),⟨hg'.size,fun i hi=>hbb i (by have:=er.lt;omega) (by omega)⟩,⟨e0.kept hg' (fun e=>by have:=Option.some.inj e;omega),e1.kept hg' (fun e=>by have:=Option.some.inj e;omega),e3.kept hg' (fun e=>by have:=Option.some.inj e;omega),(hbb _ (Blk.lt ex) (by omega)).trans ex,er.kept hg' (fun e=>by have:=Option.some.inj e;omega),?_⟩,?_,ek.kept fun D hD=>hbb D (ek.lt hD) (fun e'=>?_),eB.grown hg' eB.size (fun j e=>by have:=Option.some.inj e;omega)⟩
    ·rw[List.map_append,←List.append_assoc,List.nodup_append]
     refine⟨hne,by simp,fun p hp q hq e'=>?_⟩
     simp at hq
     rw[hq,←HE.out]at e'
     exact hnot (e'▸hp)
    ·rw[List.map_append,←List.append_assoc,List.map_singleton,←HE.out]
     exact hm'
    ·have h1:=(ek.2 D hD).2
     rw[e']at h1
     rw[show W.heap[w.heap.size+1+1]?=_ from HDM.out]at h1
     cases h1
   ·have hlk:Sem.run Tryz.prog (Instr.lookup 179 (.map (some (w.heap.size+1+1))) (.agg #[.int .i64 e.a.x,.int .i64 e.a.y,.int .i64 e.b.x,.int .i64 e.b.y]) true) W= .ok (.tuple #[v,.bool true]) W:=run_look_in edKey Tryz.underlying179 dm hq
    have hin:e∈allE (ps.take k)++pre.map fun y=>edgeK x.ring y.1:=by rw[←hk0];exact List.mem_map.2 ⟨_,look_mem hq,rfl⟩
    have HZ:=Lib.hid hin
    have z0:=d0.cell
    have z1:=d0.frozen
    have z2:=d1.cell
    have z3:=d1.frozen
    clear d0 d1 d3 dx dr hne dk dB dm hBx hq hin hk0
    gi_wp2_with fail
    obtain⟨e0,e1,-,-,-,-,ek,eB⟩:=HY.out
    refine⟨((KeepsOthers.setCell _ _ _).trans (KeepsOthers.setCell _ _ _)).from _,⟨rfl,?_,(e0.set _).other (by omega) _,(e1.other (by omega) _).set _⟩,ek.kept fun D hD=>?_,(eB.setCell (p:=⟨w.heap.size,0,none⟩) (Nat.le_refl _) _).setCell (p:=⟨w.heap.size+1,0,none⟩) (by simp) _⟩
    ·intro hnd'
     rw[List.map_append,←List.append_assoc,List.nodup_append]at hnd'
     exact hnd'.2.2 _ HZ.out _ (by simp) HE.out
    ·rw[Below.heap_setCell _ _ _ D (marks_box ek e1 hD),Below.heap_setCell _ _ _ D (marks_box ek e0 hD)]
  case done=>
   rintro D ys W hD hys ⟨⟨d0,d1,d3,dx,dr,hne⟩,dm,dk,dB⟩ hK
   have hmap:∀ {β:Type} (f:Nat→β),(ys.map fun y=>f y.1)=(List.range nk).map f:=fun f=>by rw[←hys,List.map_map];rfl
   rw[hmap (edgeK x.ring)]at hne
   rw[hmap (fun y=>(edgeK x.ring y,Value.int .i64 x.id))]at dm
   have hxk:ps.take (k+1)=ps.take k++[x]:=by
    have hlk:k<ps.length:=by have:=HR.out.1.1;omega
    rw[List.take_succ_eq_append_getElem hlk,HXX.out,pcAt_lt hlk]
   have hnd2:(allE (ps.take (k+1))).Nodup:=by
    rw[hxk]
    unfold allE at hne ⊢
    rw[List.flatMap_append,List.flatMap_singleton,edgesOf_map,HNK.out]
    exact hne
   have hm2:MapB W (w.heap.size+1+1) encE (edId (ps.take (k+1))):=by
    rw[hxk,edId_snoc,←hL0,edgesOf_map,HNK.out,List.map_map]
    exact dm
   have hmk2:Marks w.heap.size (D::Ds) W:=dk.cons (by omega) (fun h=>by have:=hDl D h;omega) hK
   have HD:=Lib.hid (And.intro hmk2 (And.intro hnd2 (And.intro dB (And.intro d0 (And.intro d1 (And.intro d3 hm2))))))
   clear hne dm hnd2 hm2 hmk2 hxk hmap hys dk dB d0 d1 d3 dx dr hK
   gi_wp2_with fail
   refine⟨⟨_,_,_,_,_,_,_,_,k+1,D::Ds,⟨by omega,HD.out.1,HD.out.2.1,HD.out.2.2.1,HD.out.2.2.2.1,HD.out.2.2.2.2.1,HD.out.2.2.2.2.2.1,HD.out.2.2.2.2.2.2⟩,rfl⟩,?_⟩
   simp[intOf];omega
  case stop=>
   rintro D c pre W hD ⟨j,hj,hpre⟩ ⟨⟨rfl,hno,d0,d1⟩,dk,dB⟩ hK
   have hmap:(pre.map fun y=>edgeK x.ring y.1)=(List.range j).map (edgeK x.ring):=by rw[←hpre,List.map_map];rfl
   rw[hmap]at hno
   have hnn:¬(allE ps).Nodup:=fun h=>hno (by
    have hlk:k<ps.length:=by have:=HR.out.1.1;omega
    have:=allE_take_sub hlk (j:=j) (by rw[←HXX.out,HNK.out];exact hj)
    rw[←HXX.out]at this
    exact h.sublist this)
   have hmk2:Marks w.heap.size (D::Ds) W:=dk.cons (by omega) (fun h=>by have:=hDl D h;omega) hK
   gi_wp2
   refine leaves_marks (D::Ds) W hmk2 dB.size fun w' hb' hk'=>?_
   have r0:Boxed w' w.heap.size 179 (.map none):=(hk' _ (fun h=>marks_box hmk2 d0 h rfl)).trans d0
   have r1:Boxed w' (w.heap.size+1) 4 (.bool false):=(hk' _ (fun h=>marks_box hmk2 d1 h rfl)).trans d1
   have s0:=r0.cell
   have s1:=r1.cell
   refine⟨.tuple #[.map none,.bool false],?_,fun h=>absurd h hnn,fun _=>rfl,dB.trans hb'⟩
   simp[results,Tryz.results143,go_sem,s0,s1]
 ·have hkn:k=n:=by omega
  subst hkn
  have x0:=b0.cell
  have x1:=b0.frozen
  have x2:=b1.cell
  have x3:=b1.frozen
  have x4:=b3.cell
  have htk:ps.take k=ps:=List.take_of_length_le (by have:=HR.out.1.1;omega)
  rw[htk]at hnd bm
  have HX:=Lib.hid (And.intro hmk (And.intro hnd (And.intro hbel (And.intro b0 (And.intro b1 bm)))))
  clear hmk hnd hbel b0 b1 b3 bm htk
  gi_wp2_with fail
  obtain⟨hmk,hnd,hbel,b0,b1,bm⟩:=HX.out
  have c0:=(b0.set (.map (some (w.heap.size+1+1)))).other (B':=w.heap.size+1) (by omega) (.bool true)
  have c1:=(b1.other (B':=w.heap.size) (by omega) (.map (some (w.heap.size+1+1)))).set (.bool true)
  have cm:MapB ((wr.setCell ⟨w.heap.size,0,none⟩ (.map (some (w.heap.size+1+1)))).setCell ⟨w.heap.size+1,0,none⟩ (.bool true)) (w.heap.size+1+1) encE (edId ps):=bm.kept (by rw[Below.heap_setCell _ _ _ _ (by simp only;omega),Below.heap_setCell _ _ _ _ (by simp only;omega)])
  have hmk2:Marks w.heap.size Ds ((wr.setCell ⟨w.heap.size,0,none⟩ (.map (some (w.heap.size+1+1)))).setCell ⟨w.heap.size+1,0,none⟩ (.bool true)):=hmk.kept fun D hD=>by
   rw[Below.heap_setCell _ _ _ D (marks_box hmk b1 hD),Below.heap_setCell _ _ _ D (marks_box hmk b0 hD)]
  have hB2:=(hbel.setCell (p:=⟨w.heap.size,0,none⟩) (Nat.le_refl _) (.map (some (w.heap.size+1+1)))).setCell (p:=⟨w.heap.size+1,0,none⟩) (by simp) (.bool true)
  generalize (wr.setCell ⟨w.heap.size,0,none⟩ (.map (some (w.heap.size+1+1)))).setCell ⟨w.heap.size+1,0,none⟩ (.bool true)=W at *
  refine leaves_marks Ds W hmk2 hB2.size fun w' hb' hk'=>?_
  have r0:Boxed w' w.heap.size 179 (.map (some (w.heap.size+1+1))):=(hk' _ (fun h=>marks_box hmk2 c0 h rfl)).trans c0
  have r1:Boxed w' (w.heap.size+1) 4 (.bool true):=(hk' _ (fun h=>marks_box hmk2 c1 h rfl)).trans c1
  have rm:MapB w' (w.heap.size+1+1) encE (edId ps):=cm.kept (hk' _ (fun h=>by
   have h1:=(hmk2.2 _ h).2
   rw[show W.heap[w.heap.size+1+1]?=_ from cm]at h1
   cases h1))
  have s0:=r0.cell
  have s1:=r1.cell
  refine⟨.tuple #[.map (some (w.heap.size+1+1)),.bool true],?_,fun _=>⟨_,rfl,rm,by omega⟩,fun h=>absurd hnd.out h,hB2.trans hb'⟩
  simp[results,Tryz.results143,go_sem,s0,s1]
end Go.Proofs.YtpkeacnacjnlcaaGreat
namespace Go.Proofs.YtpkeacnacjnlcaaGreat
open Go.RowKit
open Classical in
noncomputable def normB (xs:List Pt):Bool:=decide (NormedP xs)
set_option maxHeartbeats 800000 in
theorem equalPt_any (xs ys:List Pt) (A B:Option Addr) (n m ca cb:Nat) (w:World) (hr:Reads w w.heap.size 2 A n (ptsV xs)) (hs:Reads w w.heap.size 2 B m (ptsV ys)) (hn:n≤9223372036854775807) (hm:m≤9223372036854775807):
 Calls Tryz.prog 142 #[.slice A n ca,.slice B m cb] w fun e w'=>e= .returned (.bool (decide (xs=ys)))∧Below w.heap.size w w':=by
 have HL:=Lib.hid (And.intro hr.lenPt hs.lenPt)
 by_cases hnm:n=m
 case neg=>
  have hf:Hid (decide (xs=ys)=false):=by
   apply decide_eq_false
   rintro rfl
   have:=HL.out
   omega
  have hb:((n:Int) != (m:Int))=true:=by simp;omega
  clear hnm
  go_enter Tryz.func142,Tryz.ntmps142
  go_wp2
  go_ret
  exact⟨by rw[hf.out];rfl,Below.refl _ _⟩
 subst hnm
 go_enter Tryz.func142,Tryz.ntmps142
 go_wp2
 go_loopw [13] (fun i wr=>∃k:Nat,k≤n∧Hid (xs.take k=ys.take k)∧i= .int .i64 (k:Int)∧Below w.heap.size w wr) (fun i _=>n-(intOf i).toNat)
 case atStart=>exact⟨0,Nat.zero_le _,rfl,rfl,Below.refl _ _⟩
 case round=>
  obtain⟨k,hk,hg,rfl,hbel⟩:=hrel
  by_cases hlt:k<n
  ·have hw1:IntKind.i64.wrap ((k:Int)+1)=(k:Int)+1:=by rw[IntKind.wrap_i64];omega
   have hlt':(k:Int)<(n:Int):=by omega
   obtain⟨ad,rfl,hb,hkl,hcx,hcy⟩:=(hr.below hbel).pt hlt
   obtain⟨bd,rfl,hb',hkl',hdx,hdy⟩:=(hs.below hbel).pt hlt
   have HE1:=Lib.hid (take_same hg.out hkl hkl')
   have HE2:=Lib.hid (not_same hkl hkl')
   obtain⟨⟨x,y⟩,hp⟩:∃p,p=xs[k]:=⟨_,rfl⟩
   obtain⟨⟨x',y'⟩,hq⟩:∃p,p=ys[k]:=⟨_,rfl⟩
   rw[←hp]at hcx hcy
   rw[←hq]at hdx hdy
   have HP:=Lib.hid (And.intro hp hq)
   simp only at hcx hcy hdx hdy
   clear hp hq hr hs
   by_cases hx:x=x'
   ·by_cases hy:y=y'
    ·subst hx hy
     have HE:=Lib.hid (HE1.out (HP.out.1.symm.trans HP.out.2))
     clear HE1 HE2 HP
     go_wp2
     go_quiet (fail)
     go_wp2
     go_roundw
     case rel=>exact⟨k+1,by omega,HE,by go_num,below_drewN hbel _⟩
     case measure=>simp[intOf];omega
    ·have HE:=Lib.hid (HE2.out (by rw[←HP.out.1,←HP.out.2];simp[hy]))
     subst hx
     have hy':(y != y')=true:=by simpa using hy
     clear HE1 HE2 HP
     go_wp2
     go_quiet (fail)
     go_wp2
     go_ret
     exact⟨by rw[HE.out];rfl,below_drewN hbel _⟩
   ·have HE:=Lib.hid (HE2.out (by rw[←HP.out.1,←HP.out.2];simp[hx]))
    have hx':(x != x')=true:=by simpa using hx
    clear HE1 HE2 HP
    go_wp2
    go_quiet (fail)
    go_wp2
    go_ret
    exact⟨by rw[HE.out];rfl,below_drewN hbel _⟩
  ·have hkn:k=n:=by omega
   subst hkn
   have HF:Hid (decide (xs=ys)=true):=by
    show _=_
    rw[decide_eq_true_iff]
    have h1:=hg.out
    have:=HL.out
    rw[List.take_of_length_le (by omega),List.take_of_length_le (by omega)]at h1
    exact h1
   have hlt':¬(k:Int)<(k:Int):=by omega
   go_wp2
   go_ret
   exact⟨by rw[HF.out];rfl,hbel⟩
set_option maxHeartbeats 800000 in
theorem normed_any (xs:List Pt) (A:Option Addr) (n cap:Nat) (w:World) (hr:Reads w w.heap.size 2 A n (ptsV xs)) (hc:n≤cap) (hn:n≤8796093022208) (hx:∀p∈xs,p.inI):
 Calls Tryz.prog 89 #[.slice A n cap] w fun e w'=>e= .returned (.bool (normB xs))∧Below w.heap.size w w':=by
 have hl:xs.length=n:=hr.lenPt
 have hb:normB xs=(decide (checkI xs=0)&&decide (xs=rot (leastN xs n) xs)):=by
  unfold normB NormedP
  rw[hl,Bool.eq_iff_iff]
  simp
 rw[hb]
 clear hb
 have hL:checkI xs=0→n≤128:=fun h=>by
  obtain⟨h1,h2,h3,-⟩:=checkI_zero h
  omega
 have kC:=Lib.hid (check_any xs A n cap w hr (by omega) hx)
 have HR:=Lib.hid (And.intro hr (And.intro hL hc))
 clear hr hL hx hl hc
 generalize checkI xs=e0 at *
 by_cases he:e0=0
 ·subst he
  rw[decide_eq_true rfl]
  have h128:=HR.out.2.1 rfl
  go_enter Tryz.func89,Tryz.ntmps89
  go_wp2_with fail
  refine kC.out.mono ?_
  rintro e w1 ⟨rfl,hb1⟩
  have kL:=Lib.hid (leastP_any xs A n cap w1 (HR.out.1.on hb1) HR.out.2.2 (by omega))
  have HB:=Lib.hid hb1
  clear hb1 kC
  go_wp2_with fail
  refine kL.out.mono ?_
  rintro e w2 ⟨A',c',rfl,ho,hb2⟩
  have kS:=Lib.hid (equalPt_any xs (rot (leastN xs n) xs) A A' n n cap c' w2 ((HR.out.1.on HB.out).on hb2) (Reads.of_own ho) (by omega) (by omega))
  have HB2:=Lib.hid (below_on HB.out (Nat.le_refl _) hb2)
  clear ho hb2 HB kL
  go_wp2_with fail
  refine kS.out.mono ?_
  rintro e w3 ⟨rfl,hb3⟩
  have HB3:=Lib.hid (below_on HB2.out (Nat.le_refl _) hb3)
  clear hb3 HB2 kS
  go_wp2_with fail
  go_ret
  exact⟨by rw[Bool.true_and];rfl,HB3.out⟩
 ·rw[decide_eq_false he]
  have he':(e0==0)=false:=by simpa using he
  go_enter Tryz.func89,Tryz.ntmps89
  go_wp2_with fail
  refine kC.out.mono ?_
  rintro e w1 ⟨rfl,hb1⟩
  have HB:=Lib.hid hb1
  clear hb1 kC
  go_wp2_with fail
  go_ret
  exact⟨rfl,HB.out⟩
set_option maxHeartbeats 800000 in
theorem normedR_any (xs:List Pt) (A:Option Addr) (n cap:Nat) (w:World) (hr:Reads w w.heap.size 2 A n (ptsV xs)) (hc:n≤cap) (hn:n≤8796093022208) (hx:∀p∈xs,p.inI):
 Calls Tryz.prog 34 #[.slice A n cap] w fun e w'=>e= .returned (.bool (normB xs))∧Below w.heap.size w w':=by
 have hl:xs.length=n:=hr.lenPt
 have hb:normB xs=(decide (checkI xs=0)&&decide (xs=rot (leastN xs n) xs)):=by
  unfold normB NormedP
  rw[hl,Bool.eq_iff_iff]
  simp
 rw[hb]
 clear hb
 have hL:checkI xs=0→n≤128:=fun h=>by
  obtain⟨h1,h2,h3,-⟩:=checkI_zero h
  omega
 have kC:=Lib.hid (checkR_any xs A n cap w hr (by omega) hx)
 have HR:=Lib.hid (And.intro hr (And.intro hL hc))
 clear hr hL hx hl hc
 generalize checkI xs=e0 at *
 by_cases he:e0=0
 ·subst he
  rw[decide_eq_true rfl]
  have h128:=HR.out.2.1 rfl
  go_enter Tryz.func34,Tryz.ntmps34
  go_wp2_with fail
  refine kC.out.mono ?_
  rintro e w1 ⟨rfl,hb1⟩
  have kL:=Lib.hid (leastR_any xs A n cap w1 (HR.out.1.on hb1) h128)
  have HB:=Lib.hid hb1
  clear hb1 kC
  go_wp2_with fail
  refine kL.out.mono ?_
  rintro e w2 ⟨A',c',rfl,ho,hb2⟩
  have kS:=Lib.hid (sameR_any xs (rot (leastN xs n) xs) A A' n n cap c' w2 ((HR.out.1.on HB.out).on hb2) (Reads.of_own ho) (by omega) (by omega))
  have HB2:=Lib.hid (below_on HB.out (Nat.le_refl _) hb2)
  clear ho hb2 HB kL
  go_wp2_with fail
  refine kS.out.mono ?_
  rintro e w3 ⟨rfl,hb3⟩
  have HB3:=Lib.hid (below_on HB2.out (Nat.le_refl _) hb3)
  clear hb3 HB2 kS
  go_wp2_with fail
  go_ret
  exact⟨by rw[Bool.true_and];rfl,HB3.out⟩
 ·rw[decide_eq_false he]
  have he':(e0==0)=false:=by simpa using he
  go_enter Tryz.func34,Tryz.ntmps34
  go_wp2_with fail
  refine kC.out.mono ?_
  rintro e w1 ⟨rfl,hb1⟩
  have HB:=Lib.hid hb1
  clear hb1 kC
  go_wp2_with fail
  go_ret
  exact⟨rfl,HB.out⟩
set_option maxHeartbeats 800000 in
theorem check1_any (x:Parc) (A:Option Addr) (n c:Nat) (w:World) (hr:Reads w w.heap.size 2 A n (ptsV x.ring)) (hc:n≤c) (hf:x.fits):
 Calls Tryz.prog 91 #[.agg #[.int .i64 x.id,.slice A n c,.string x.owner]] w fun e w'=>e= .returned (.bool (!normB x.ring))∧Below w.heap.size w w':=by
 obtain⟨f1,f2,-,-⟩:=hf
 have hb0:=(Below.refl w.heap.size w).alloc (Nat.le_refl _) (.cells #[.int .i64 x.id,.slice A n c,.string x.owner] 27)
 have hK:=PcK.new w x A n c
 have kN:=Lib.hid (normed_any x.ring A n c (w.alloc (.cells #[.int .i64 x.id,.slice A n c,.string x.owner] 27)) (hr.on hb0) hc (by have:=hr.lenPt;omega) f2)
 have HB:=Lib.hid hb0
 obtain⟨q1,q2,q3,-⟩:=hK.facts
 clear hb0 hr f2 hK
 generalize normB x.ring=b at *
 go_enter Tryz.func91,Tryz.ntmps91
 go_wp2_with fail
 refine kN.out.mono ?_
 rintro e w1 ⟨rfl,hb1⟩
 have HB2:=Lib.hid (below_on HB.out (Nat.le_refl _) hb1)
 clear hb1 HB kN
 go_wp2_with fail
 go_ret
 exact⟨rfl,HB2.out⟩
set_option maxHeartbeats 1600000 in
theorem indexC1_any (ps:List Parc) (A:Option Addr) (n cap:Nat) (w:World) (hr:PIn w w.heap.size A n ps) (hn:n≤8796093022208) (hK:∀x∈ps,x.fits):
 Calls Tryz.prog 109 #[.slice A n cap,.func (.func 91) #[] #[]] w fun e w'=>∃i:Int,e= .returned (.int .i64 i)∧((i= -1∧∀k,k<n→(fun x=>!normB x.ring) (pcAt ps k)=false)∨∃k:Nat,k<n∧i=(k:Int)∧(fun x=>!normB x.ring) (pcAt ps k)=true∧∀j,j<k→(fun x=>!normB x.ring) (pcAt ps j)=false)∧Below w.heap.size w w':=by
 have HR:=Lib.hid (And.intro hr hK)
 clear hr hK
 go_enter Tryz.func109,Tryz.ntmps109
 go_wp2_with fail
 go_loopw [8] (fun i wr=>∃k:Nat,k≤n∧i= .int .i64 (k:Int)∧Hid (∀j,j<k→(fun x=>!normB x.ring) (pcAt ps j)=false)∧Below w.heap.size w wr) (fun i _=>n-(intOf i).toNat)
 case atStart=>exact⟨0,Nat.zero_le _,rfl,fun j hj=>absurd hj (Nat.not_lt_zero _),Below.refl _ _⟩
 case round=>
  obtain⟨k,hk,rfl,HA,hbel⟩:=hrel
  by_cases hlt:k<n
  ·have hlt':(k:Int)<(n:Int):=by omega
   have hw1:IntKind.i64.wrap ((k:Int)+1)=(k:Int)+1:=by rw[IntKind.wrap_i64];omega
   obtain⟨ad,rfl⟩:=HR.out.1.some_ (by omega)
   obtain⟨-,p1,⟨Ak,nk,ck,p2,hrk,hk1,hk2⟩,p3⟩:=(HR.out.1.below hbel).at_ hlt
   have kF:Calls Tryz.prog 91 #[.agg #[.int .i64 (pcAt ps k).id,.slice Ak nk ck,.string (pcAt ps k).owner]] wr fun e w'=>e= .returned (.bool ((fun x=>!normB x.ring) (pcAt ps k)))∧Below wr.heap.size wr w':=check1_any (pcAt ps k) Ak nk ck wr (hrk.more hbel.size) hk1 (by rw[pcAt_lt (by have:=HR.out.1.1;omega)];exact HR.out.2 _ (List.getElem_mem _))
   obtain⟨x,hx⟩:∃x,x=pcAt ps k:=⟨_,rfl⟩
   rw[←hx]at p1 p3 kF
   have HX:=Lib.hid hx
   have HB:=Lib.hid hbel
   clear hx hbel hrk
   obtain⟨b,hb⟩:∃b,b=(fun x=>!normB x.ring) x:=⟨_,rfl⟩
   rw[←hb]at kF
   have HBB:=Lib.hid hb
   clear hb
   rcases b with _|_
   ·go_wp2_with (go_at_call 91;(with_reducible refine kF.mono ?_);rintro e w' ⟨rfl,hb'⟩)
    go_roundw
    case rel=>
     refine⟨k+1,by omega,by go_num,(fun j hj=>?_:∀j,j<k+1→_),below_on HB.out (Nat.le_refl _) (by assumption)⟩
     by_cases e:j=k
     ·rw[e,←HX.out];exact HBB.out.symm
     ·exact HA.out j (by omega)
    case measure=>simp[intOf];omega
   ·go_wp2_with (go_at_call 91;(with_reducible refine kF.mono ?_);rintro e w' ⟨rfl,hb'⟩)
    go_ret
    exact⟨k,rfl,.inr ⟨k,hlt,rfl,by rw[←HX.out];exact HBB.out.symm,HA.out⟩,below_on HB.out (Nat.le_refl _) (by assumption)⟩
  ·have hkn:k=n:=by omega
   subst hkn
   have HB:=Lib.hid hbel
   clear hbel
   go_wp2_with fail
   go_ret
   exact⟨-1,rfl,.inl ⟨rfl,fun j hj=>by have:=HA.out j hj;simpa using this⟩,HB.out⟩
theorem containsC1_any (ps:List Parc) (A:Option Addr) (n cap:Nat) (w:World) (hr:PIn w w.heap.size A n ps) (hn:n≤8796093022208) (hK:∀x∈ps,x.fits):
 Calls Tryz.prog 90 #[.slice A n cap,.func (.func 91) #[] #[]] w fun e w'=>e= .returned (.bool (ps.any (fun x=>!normB x.ring)))∧Below w.heap.size w w':=by
 have hl:=hr.1
 have kI:=Lib.hid (indexC1_any ps A n cap w hr hn hK)
 clear hr hK
 go_enter Tryz.func90,Tryz.ntmps90
 go_wp2_with fail
 refine kI.out.mono ?_
 rintro e w1 ⟨i,rfl,hi,hb⟩
 have hany:Hid (ps.any (fun x=>!normB x.ring)=decide (0≤i)):=by
  show _=_
  rcases hi with ⟨rfl,h⟩|⟨k,hk,rfl,h,-⟩
  ·rw[decide_eq_false (by omega),List.any_eq_false]
   intro x hx
   obtain⟨k,hk,rfl⟩:=List.getElem_of_mem hx
   have:=h k (by omega)
   rw[pcAt_lt hk]at this
   rw[this];decide
  ·rw[decide_eq_true (by omega),List.any_eq_true]
   exact⟨ps[k]'(by omega),List.getElem_mem _,by rw[pcAt_lt (by omega)]at h;exact h⟩
 have HB:=Lib.hid hb
 clear hb hi kI
 go_wp2_with fail
 go_ret
 exact⟨by rw[hany.out];rfl,HB.out⟩
end Go.Proofs.YtpkeacnacjnlcaaGreat
namespace Go.Proofs.YtpkeacnacjnlcaaGreat
open Go.MapKept
def encS (xs:List UInt8):Value:= .string ⟨xs.toArray⟩
end Go.Proofs.YtpkeacnacjnlcaaGreat
namespace Go.Proofs.YtpkeacnacjnlcaaGreat
open Go.RowKit
def aroV (xs:List Pt) (k:Nat):Win:=if k=0 then⟨0,0,0,0⟩else aroW xs k
theorem aroW_one (xs:List Pt):aroW xs 1=⟨(ptAt xs 0).x,(ptAt xs 0).y,(ptAt xs 0).x,(ptAt xs 0).y⟩:=by
 show(⟨mn (ptAt xs 0).x (ptAt xs 0).x,mn (ptAt xs 0).y (ptAt xs 0).y,mx (ptAt xs 0).x (ptAt xs 0).x,mx (ptAt xs 0).y (ptAt xs 0).y⟩:Win)=_
 unfold mn mx
 simp
theorem aroV_succ (xs:List Pt) (k:Nat):aroV xs (k+1)=⟨if k=0∨(ptAt xs k).x<(aroV xs k).lx then(ptAt xs k).x else(aroV xs k).lx,if k=0∨(ptAt xs k).y<(aroV xs k).ly then(ptAt xs k).y else(aroV xs k).ly,
 if k=0∨(aroV xs k).hx<(ptAt xs k).x then(ptAt xs k).x else(aroV xs k).hx,if k=0∨(aroV xs k).hy<(ptAt xs k).y then(ptAt xs k).y else(aroV xs k).hy⟩:=by
 unfold aroV
 rw[if_neg (by omega)]
 by_cases h:k=0
 ·subst h
  rw[aroW_one]
  simp
 ·rw[if_neg h]
  simp only[h,false_or]
  rfl
set_option maxRecDepth 100000 in
set_option maxHeartbeats 3200000 in
theorem aroundR_any (xs:List Pt) (A:Option Addr) (n cap:Nat) (w:World) (hr:Reads w w.heap.size 2 A n (ptsV xs)) (hn:n≤128):
 Calls Tryz.prog 57 #[.slice A n cap] w fun e w'=>e= .returned (winV (aroV xs n))∧Below w.heap.size w w':=by
 have hB0:=((Below.refl w.heap.size w).alloc (Nat.le_refl _) (.cells #[.int .i64 0,.int .i64 0,.int .i64 0,.int .i64 0] 100)).alloc (by simp) (.cells #[.int .i64 0,.int .i64 0,.int .i64 0,.int .i64 0] 100)
 have hR0:WinK ((w.alloc (.cells #[.int .i64 0,.int .i64 0,.int .i64 0,.int .i64 0] 100)).alloc (.cells #[.int .i64 0,.int .i64 0,.int .i64 0,.int .i64 0] 100)) w.heap.size ⟨0,0,0,0⟩:=Blk.alloc (Blk.new w _ _) _
 have hV0:WinK ((w.alloc (.cells #[.int .i64 0,.int .i64 0,.int .i64 0,.int .i64 0] 100)).alloc (.cells #[.int .i64 0,.int .i64 0,.int .i64 0,.int .i64 0] 100)) (w.heap.size+1) (aroV xs 0):=by
  have:=Blk.new (w.alloc (.cells #[.int .i64 0,.int .i64 0,.int .i64 0,.int .i64 0] 100)) 100 #[.int .i64 0,.int .i64 0,.int .i64 0,.int .i64 0]
  rw[World.size_alloc]at this
  exact this
 have HRD:=Lib.hid hr
 clear hr
 go_enter Tryz.func57,Tryz.ntmps57
 go_wp2_with fail
 go_loopw [4] (fun i wr=>∃k:Nat,k≤n∧i= .int .i64 (k:Int)∧Below w.heap.size w wr∧WinK wr w.heap.size ⟨0,0,0,0⟩∧WinK wr (w.heap.size+1) (aroV xs k)) (fun i _=>n-(intOf i).toNat)
 case atStart=>exact⟨0,Nat.zero_le _,rfl,hB0,hR0,hV0⟩
 case round=>
  clear hB0 hR0 hV0
  obtain⟨k,hk,rfl,hbel,hR,hV⟩:=hrel
  by_cases hlt:k<n
  ·have hlt':(k:Int)<(n:Int):=by omega
   have hw1:IntKind.i64.wrap ((k:Int)+1)=(k:Int)+1:=by rw[IntKind.wrap_i64];omega
   obtain⟨ad,rfl,hbd,-,-,-⟩:=(HRD.out.below hbel).pt hlt
   have hst:=aroV_succ xs k
   have HP:=Lib.hid (fun (V:World) (hV:Below w.heap.size w V)=>(HRD.out.below hV).ptA hlt)
   generalize aroV xs k=v0 at *
   generalize (ptAt xs k).x=px at *
   generalize (ptAt xs k).y=py at *
   obtain⟨X0,hX0⟩:∃X,X=(if k=0∨px<v0.lx then px else v0.lx):=⟨_,rfl⟩
   obtain⟨X1,hX1⟩:∃X,X=(if k=0∨py<v0.ly then py else v0.ly):=⟨_,rfl⟩
   obtain⟨X2,hX2⟩:∃X,X=(if k=0∨v0.hx<px then px else v0.hx):=⟨_,rfl⟩
   obtain⟨X3,hX3⟩:∃X,X=(if k=0∨v0.hy<py then py else v0.hy):=⟨_,rfl⟩
   rw[←hX0,←hX1,←hX2,←hX3]at hst
   have HX:=Lib.hid (And.intro hst (And.intro hX0 (And.intro hX1 (And.intro hX2 hX3))))
   have HB:=Lib.hid (And.intro hbel (And.intro hR hV))
   clear hst hX0 hX1 hX2 hX3 hbel hR hV
   have hp:=HP.out wr HB.out.1
   obtain⟨⟨v1,v2,v3,v4⟩,⟨f1,f2,f3,f4⟩,hgl⟩:=(show WinK wr (w.heap.size+1) ⟨v0.lx,v0.ly,v0.hx,v0.hy⟩ from HB.out.2.2).facts
   obtain⟨-,p1,p2⟩:=hp
   go_wp2_with fail
   go_cut [24] (fun s wx=>s= .bool (decide (k=0∨px<v0.lx))∧∃q,wx=wr.drewN q)
   case first=>
    by_cases h0:k=0
    ·have e0:((k:Int)==0)=true:=beq_iff_eq.mpr (by omega)
     have ex:Hid (decide (k=0∨px<v0.lx)=true):=decide_eq_true (.inl h0)
     clear h0
     go_quiet (fail)
     go_wp2_with fail
     go_meet
     exact⟨by rw[ex.out],_,rfl⟩
    ·have e0:((k:Int)==0)=false:=beq_eq_false_iff_ne.mpr (by omega)
     rcases hd:decide (px<v0.lx)with _|_
     ·have ex:Hid (decide (k=0∨px<v0.lx)=false):=decide_eq_false (by rw[decide_eq_false_iff_not]at hd;omega)
      clear h0
      go_quiet (fail)
      go_wp2_with fail
      go_meet
      exact⟨by rw[ex.out],_,rfl⟩
     ·have ex:Hid (decide (k=0∨px<v0.lx)=true):=decide_eq_true (by rw[decide_eq_true_iff]at hd;exact .inr hd)
      clear h0
      go_quiet (fail)
      go_wp2_with fail
      go_meet
      exact⟨by rw[ex.out],_,rfl⟩
   case rest=>
    obtain⟨rfl,q,rfl⟩:=hcut
    clear v1 v2 v3 v4 f1 f2 f3 f4 hgl p1 p2
    have HB:=Lib.hid (And.intro (below_drewN HB.out.1 q) (And.intro (Blk.drewN HB.out.2.1 q) (show WinK (wr.drewN q) (w.heap.size+1) ⟨v0.lx,v0.ly,v0.hx,v0.hy⟩ from Blk.drewN HB.out.2.2 q)))
    generalize wr.drewN q=V0 at *
    go_upto_if 24 with fail
    go_cut [] (fun wx=>Below w.heap.size w wx∧WinK wx w.heap.size ⟨0,0,0,0⟩∧WinK wx (w.heap.size+1) ⟨X0,v0.ly,v0.hx,v0.hy⟩)
    case first=>
     by_cases hc:k=0∨px<v0.lx
     ·have hd:decide (k=0∨px<v0.lx)=true:=decide_eq_true hc
      have ex:Hid (X0=px):=by show _=_;rw[HX.out.2.1,if_pos hc]
      rw[hd]
      obtain⟨⟨v1,v2,v3,v4⟩,⟨f1,f2,f3,f4⟩,hgl⟩:=(show WinK V0 (w.heap.size+1) ⟨v0.lx,v0.ly,v0.hx,v0.hy⟩ from HB.out.2.2).facts
      obtain⟨-,p1,p2⟩:=HP.out V0 HB.out.1
      clear hd hc
      go_wp2_with fail
      go_meet
      rw[ex.out]
      exact⟨HB.out.1.setCell (p:=⟨w.heap.size+1,0,none⟩) (by simp) _,Blk.far HB.out.2.1 (by simp only;omega) _,Blk.set_ HB.out.2.2 0 _⟩
     ·have hd:decide (k=0∨px<v0.lx)=false:=decide_eq_false hc
      have ex:Hid (X0=v0.lx):=by show _=_;rw[HX.out.2.1,if_neg hc]
      rw[hd]
      clear hd hc
      go_wp2_with fail
      go_meet
      rw[ex.out]
      exact HB.out
    case rest=>
     have HB:=Lib.hid hcut
     clear hcut
     have hp:=HP.out wc HB.out.1
     obtain⟨⟨v1,v2,v3,v4⟩,⟨f1,f2,f3,f4⟩,hgl⟩:=(show WinK wc (w.heap.size+1) ⟨X0,v0.ly,v0.hx,v0.hy⟩ from HB.out.2.2).facts
     obtain⟨-,p1,p2⟩:=hp
     go_wp2_with fail
     go_cut [44] (fun s wx=>s= .bool (decide (k=0∨py<v0.ly))∧∃q,wx=wc.drewN q)
     case first=>
      by_cases h0:k=0
      ·have e0:((k:Int)==0)=true:=beq_iff_eq.mpr (by omega)
       have ex:Hid (decide (k=0∨py<v0.ly)=true):=decide_eq_true (.inl h0)
       clear h0
       go_quiet (fail)
       go_wp2_with fail
       go_meet
       exact⟨by rw[ex.out],_,rfl⟩
      ·have e0:((k:Int)==0)=false:=beq_eq_false_iff_ne.mpr (by omega)
       rcases hd:decide (py<v0.ly)with _|_
       ·have ex:Hid (decide (k=0∨py<v0.ly)=false):=decide_eq_false (by rw[decide_eq_false_iff_not]at hd;omega)
        clear h0
        go_quiet (fail)
        go_wp2_with fail
        go_meet
        exact⟨by rw[ex.out],_,rfl⟩
       ·have ex:Hid (decide (k=0∨py<v0.ly)=true):=decide_eq_true (by rw[decide_eq_true_iff]at hd;exact .inr hd)
        clear h0
        go_quiet (fail)
        go_wp2_with fail
        go_meet
        exact⟨by rw[ex.out],_,rfl⟩
     case rest=>
      obtain⟨rfl,q,rfl⟩:=hcut
      clear v1 v2 v3 v4 f1 f2 f3 f4 hgl p1 p2
      have HB:=Lib.hid (And.intro (below_drewN HB.out.1 q) (And.intro (Blk.drewN HB.out.2.1 q) (show WinK (wc.drewN q) (w.heap.size+1) ⟨X0,v0.ly,v0.hx,v0.hy⟩ from Blk.drewN HB.out.2.2 q)))
      generalize wc.drewN q=V1 at *
      go_upto_if 44 with fail
      go_cut [] (fun wx=>Below w.heap.size w wx∧WinK wx w.heap.size ⟨0,0,0,0⟩∧WinK wx (w.heap.size+1) ⟨X0,X1,v0.hx,v0.hy⟩)
      case first=>
       by_cases hc:k=0∨py<v0.ly
       ·have hd:decide (k=0∨py<v0.ly)=true:=decide_eq_true hc
        have ex:Hid (X1=py):=by show _=_;rw[HX.out.2.2.1,if_pos hc]
        rw[hd]
        obtain⟨⟨v1,v2,v3,v4⟩,⟨f1,f2,f3,f4⟩,hgl⟩:=(show WinK V1 (w.heap.size+1) ⟨X0,v0.ly,v0.hx,v0.hy⟩ from HB.out.2.2).facts
        obtain⟨-,p1,p2⟩:=HP.out V1 HB.out.1
        clear hd hc
        go_wp2_with fail
        go_meet
        rw[ex.out]
        exact⟨HB.out.1.setCell (p:=⟨w.heap.size+1,1,none⟩) (by simp) _,Blk.far HB.out.2.1 (by simp only;omega) _,Blk.set_ HB.out.2.2 1 _⟩
       ·have hd:decide (k=0∨py<v0.ly)=false:=decide_eq_false hc
        have ex:Hid (X1=v0.ly):=by show _=_;rw[HX.out.2.2.1,if_neg hc]
        rw[hd]
        clear hd hc
        go_wp2_with fail
        go_meet
        rw[ex.out]
        exact HB.out
      case rest=>
       have HB:=Lib.hid hcut
       clear hcut
       have hp:=HP.out wc HB.out.1
       obtain⟨⟨v1,v2,v3,v4⟩,⟨f1,f2,f3,f4⟩,hgl⟩:=(show WinK wc (w.heap.size+1) ⟨X0,X1,v0.hx,v0.hy⟩ from HB.out.2.2).facts
       obtain⟨-,p1,p2⟩:=hp
       go_wp2_with fail
       go_cut [64] (fun s wx=>s= .bool (decide (k=0∨v0.hx<px))∧∃q,wx=wc.drewN q)
       case first=>
        by_cases h0:k=0
        ·have e0:((k:Int)==0)=true:=beq_iff_eq.mpr (by omega)
         have ex:Hid (decide (k=0∨v0.hx<px)=true):=decide_eq_true (.inl h0)
         clear h0
         go_quiet (fail)
         go_wp2_with fail
         go_meet
         exact⟨by rw[ex.out],_,rfl⟩
        ·have e0:((k:Int)==0)=false:=beq_eq_false_iff_ne.mpr (by omega)
         rcases hd:decide (v0.hx<px)with _|_
         ·have ex:Hid (decide (k=0∨v0.hx<px)=false):=decide_eq_false (by rw[decide_eq_false_iff_not]at hd;omega)
          clear h0
          go_quiet (fail)
          go_wp2_with fail
          go_meet
          exact⟨by rw[ex.out],_,rfl⟩
         ·have ex:Hid (decide (k=0∨v0.hx<px)=true):=decide_eq_true (by rw[decide_eq_true_iff]at hd;exact .inr hd)
          clear h0
          go_quiet (fail)
          go_wp2_with fail
          go_meet
          exact⟨by rw[ex.out],_,rfl⟩
       case rest=>
        obtain⟨rfl,q,rfl⟩:=hcut
        clear v1 v2 v3 v4 f1 f2 f3 f4 hgl p1 p2
        have HB:=Lib.hid (And.intro (below_drewN HB.out.1 q) (And.intro (Blk.drewN HB.out.2.1 q) (show WinK (wc.drewN q) (w.heap.size+1) ⟨X0,X1,v0.hx,v0.hy⟩ from Blk.drewN HB.out.2.2 q)))
        generalize wc.drewN q=V2 at *
        go_upto_if 64 with fail
        go_cut [] (fun wx=>Below w.heap.size w wx∧WinK wx w.heap.size ⟨0,0,0,0⟩∧WinK wx (w.heap.size+1) ⟨X0,X1,X2,v0.hy⟩)
        case first=>
         by_cases hc:k=0∨v0.hx<px
         ·have hd:decide (k=0∨v0.hx<px)=true:=decide_eq_true hc
          have ex:Hid (X2=px):=by show _=_;rw[HX.out.2.2.2.1,if_pos hc]
          rw[hd]
          obtain⟨⟨v1,v2,v3,v4⟩,⟨f1,f2,f3,f4⟩,hgl⟩:=(show WinK V2 (w.heap.size+1) ⟨X0,X1,v0.hx,v0.hy⟩ from HB.out.2.2).facts
          obtain⟨-,p1,p2⟩:=HP.out V2 HB.out.1
          clear hd hc
          go_wp2_with fail
          go_meet
          rw[ex.out]
          exact⟨HB.out.1.setCell (p:=⟨w.heap.size+1,2,none⟩) (by simp) _,Blk.far HB.out.2.1 (by simp only;omega) _,Blk.set_ HB.out.2.2 2 _⟩
         ·have hd:decide (k=0∨v0.hx<px)=false:=decide_eq_false hc
          have ex:Hid (X2=v0.hx):=by show _=_;rw[HX.out.2.2.2.1,if_neg hc]
          rw[hd]
          clear hd hc
          go_wp2_with fail
          go_meet
          rw[ex.out]
          exact HB.out
        case rest=>
         have HB:=Lib.hid hcut
         clear hcut
         have hp:=HP.out wc HB.out.1
         obtain⟨⟨v1,v2,v3,v4⟩,⟨f1,f2,f3,f4⟩,hgl⟩:=(show WinK wc (w.heap.size+1) ⟨X0,X1,X2,v0.hy⟩ from HB.out.2.2).facts
         obtain⟨-,p1,p2⟩:=hp
         go_wp2_with fail
         go_cut [84] (fun s wx=>s= .bool (decide (k=0∨v0.hy<py))∧∃q,wx=wc.drewN q)
         case first=>
          by_cases h0:k=0
          ·have e0:((k:Int)==0)=true:=beq_iff_eq.mpr (by omega)
           have ex:Hid (decide (k=0∨v0.hy<py)=true):=decide_eq_true (.inl h0)
           clear h0
           go_quiet (fail)
           go_wp2_with fail
           go_meet
           exact⟨by rw[ex.out],_,rfl⟩
          ·have e0:((k:Int)==0)=false:=beq_eq_false_iff_ne.mpr (by omega)
           rcases hd:decide (v0.hy<py)with _|_
           ·have ex:Hid (decide (k=0∨v0.hy<py)=false):=decide_eq_false (by rw[decide_eq_false_iff_not]at hd;omega)
            clear h0
            go_quiet (fail)
            go_wp2_with fail
            go_meet
            exact⟨by rw[ex.out],_,rfl⟩
           ·have ex:Hid (decide (k=0∨v0.hy<py)=true):=decide_eq_true (by rw[decide_eq_true_iff]at hd;exact .inr hd)
            clear h0
            go_quiet (fail)
            go_wp2_with fail
            go_meet
            exact⟨by rw[ex.out],_,rfl⟩
         case rest=>
          obtain⟨rfl,q,rfl⟩:=hcut
          clear v1 v2 v3 v4 f1 f2 f3 f4 hgl p1 p2
          have HB:=Lib.hid (And.intro (below_drewN HB.out.1 q) (And.intro (Blk.drewN HB.out.2.1 q) (show WinK (wc.drewN q) (w.heap.size+1) ⟨X0,X1,X2,v0.hy⟩ from Blk.drewN HB.out.2.2 q)))
          generalize wc.drewN q=V3 at *
          go_upto_if 84 with fail
          by_cases hc:k=0∨v0.hy<py
          ·have hd:decide (k=0∨v0.hy<py)=true:=decide_eq_true hc
           have ex:Hid (X3=py):=by show _=_;rw[HX.out.2.2.2.2,if_pos hc]
           rw[hd]
           obtain⟨⟨v1,v2,v3,v4⟩,⟨f1,f2,f3,f4⟩,hgl⟩:=(show WinK V3 (w.heap.size+1) ⟨X0,X1,X2,v0.hy⟩ from HB.out.2.2).facts
           obtain⟨-,p1,p2⟩:=HP.out V3 HB.out.1
           clear hd hc
           go_wp2_with fail
           go_roundw
           case rel=>exact⟨k+1,by omega,by go_num,HB.out.1.setCell (p:=⟨w.heap.size+1,3,none⟩) (by simp) _,Blk.far HB.out.2.1 (by simp only;omega) _,by rw[HX.out.1,ex.out];exact Blk.set_ HB.out.2.2 3 _⟩
           case measure=>simp[intOf];omega
          ·have hd:decide (k=0∨v0.hy<py)=false:=decide_eq_false hc
           have ex:Hid (X3=v0.hy):=by show _=_;rw[HX.out.2.2.2.2,if_neg hc]
           rw[hd]
           clear hd hc
           go_wp2_with fail
           go_roundw
           case rel=>exact⟨k+1,by omega,by go_num,HB.out.1,HB.out.2.1,by rw[HX.out.1,ex.out];exact HB.out.2.2⟩
           case measure=>simp[intOf];omega
  ·have hkn:k=n:=by omega
   subst hkn
   obtain⟨v,hvv⟩:∃v,v=aroV xs k:=⟨_,rfl⟩
   rw[←hvv]at hV
   have HVV:=Lib.hid hvv
   clear hvv
   obtain⟨⟨v1,v2,v3,v4⟩,⟨f1,f2,f3,f4⟩,hgl⟩:=hV.facts
   obtain⟨⟨u1,u2,u3,u4⟩,⟨e1,e2,e3,e4⟩,hrl⟩:=hR.facts
   obtain⟨⟨q1,q2,q3,q4⟩,-,-⟩:=(hR.put v).facts
   have HB:=Lib.hid (And.intro hbel hR)
   clear hbel hR hV
   go_wp2_with fail
   exact bodyPost_ret (v:=winV v) (by unfold winV;simp[results,Tryz.results57,go_sem,q1,q2,q3,q4]) rfl ⟨by rw[HVV.out],below_put4 HB.out.1 (Nat.le_refl _) _ _ _ _⟩
end Go.Proofs.YtpkeacnacjnlcaaGreat
namespace Go.Proofs.YtpkeacnacjnlcaaGreat
theorem Off.swap {a b:Pt} {X y1 y2:Int} (hy:y1<y2) (h:¬Touch a b ⟨X,y1⟩ ⟨X,y2⟩):¬Touch b a ⟨X,y1⟩ ⟨X,y2⟩:=by
 obtain⟨h1,h2,h3,h4,h5⟩:=not_touch h
 rintro(g|g|g|g|g)
 ·rw[h2]at g;cases g
 ·rw[h1]at g;cases g
 ·rw[onB_swap,h3]at g;cases g
 ·rw[onB_swap,h4]at g;cases g
 ·have:prB a b ⟨X,y1⟩ ⟨X,y2⟩=true:=by
   rw[pr_up hy]at g ⊢
   rw[cr_swapT,cr_swapT a b]at g
   omega
  rw[h5]at this
  cases this
end Go.Proofs.YtpkeacnacjnlcaaGreat
namespace Go.Proofs.YtpkeacnacjnlcaaGreat
open Go.RowKit
open Classical in
noncomputable def pcEq (x y:Parc):Bool:=decide (x=y)
theorem pcEq_iff {x y:Parc}:pcEq x y=true↔x=y:=by unfold pcEq;simp
theorem pcEq_self (x:Parc):pcEq x x=true:=pcEq_iff.2 rfl
theorem pcEq_parts (x y:Parc):pcEq x y=(decide (x.id=y.id)&&(decide (x.owner=y.owner)&&decide (x.ring=y.ring))):=by
 obtain⟨i,r,s⟩:=x
 obtain⟨i',r',s'⟩:=y
 rw[Bool.eq_iff_iff,pcEq_iff]
 simp
 exact fun _=>And.comm
abbrev pcVal (x:Parc) (A:Option Addr) (n c:Nat):Value:= .agg #[.int .i64 x.id,.slice A n c,.string x.owner]
set_option maxRecDepth 100000 in
set_option maxHeartbeats 800000 in
theorem samePc_any (x y:Parc) (A B:Option Addr) (n m ca cb:Nat) (w:World) (hr:Reads w w.heap.size 2 A n (ptsV x.ring)) (hs:Reads w w.heap.size 2 B m (ptsV y.ring)) (hn:n≤9223372036854775807) (hm:m≤9223372036854775807):
 Calls Tryz.prog 51 #[pcVal x A n ca,pcVal y B m cb] w fun e w'=>e= .returned (.bool (pcEq x y))∧Below w.heap.size w w':=by
 rw[pcEq_parts]
 obtain⟨wa,hwa⟩:∃wa:World,wa=(w.alloc (.cells #[.int .i64 x.id,.slice A n ca,.string x.owner] 27)).alloc (.cells #[.int .i64 y.id,.slice B m cb,.string y.owner] 27):=⟨_,rfl⟩
 have hB0:Below w.heap.size w wa:=by rw[hwa];exact((Below.refl _ _).alloc (Nat.le_refl _) _).alloc (by simp) _
 have hX:PcK wa w.heap.size x A n ca:=by rw[hwa];exact Blk.alloc (PcK.new w x A n ca) _
 have hY:PcK wa (w.heap.size+1) y B m cb:=by
  rw[hwa]
  have:=PcK.new (w.alloc (.cells #[.int .i64 x.id,.slice A n ca,.string x.owner] 27)) y B m cb
  rw[World.size_alloc]at this
  exact this
 obtain⟨q1,q2,q3,-⟩:=hX.facts
 obtain⟨r1,r2,r3,-⟩:=hY.facts
 have kS:=Lib.hid (sameR_any x.ring y.ring A B n m ca cb wa (hr.on hB0) (hs.on hB0) hn hm)
 have HB:=Lib.hid hB0
 clear hX hY hr hs hB0
 obtain⟨i1,xs,s1⟩:=x
 obtain⟨i2,ys,s2⟩:=y
 dsimp only[pcVal]at *
 generalize decide (xs=ys)=b3 at *
 go_enter Tryz.func51,Tryz.ntmps51
 go_upto_region 1 with fail
 rw[←hwa]
 clear hwa
 by_cases h1:i1=i2
 ·subst h1
  by_cases h2:s1=s2
  ·subst h2
   go_wp2_with fail
   refine kS.out.mono ?_
   rintro e w1 ⟨rfl,hb⟩
   have HB1:=Lib.hid (below_on HB.out (Nat.le_refl _) hb)
   clear hb HB kS
   go_wp2_with fail
   go_ret
   exact⟨by simp,HB1.out⟩
  ·clear kS
   have h2':¬s1.toList=s2.toList:=fun h=>h2 (by rw[ByteArray.toList_eq,ByteArray.toList_eq]at h;exact Go.WideShapes.bytes_inj h)
   go_wp2_with fail
   go_ret
   exact⟨by simp,HB.out⟩
 ·have h1':(i1==i2)=false:=by simpa using h1
  clear kS
  go_wp2_with fail
  go_ret
  exact⟨by simp[h1],HB.out⟩
open Classical in
noncomputable def plEq (p q:Plan):Bool:=decide (p=q)
theorem plEq_iff {p q:Plan}:plEq p q=true↔p=q:=by unfold plEq;simp
theorem plEq_self (p:Plan):plEq p p=true:=plEq_iff.2 rfl
theorem plEq_no {p q:Plan} {k:Nat} (h:pcEq (pcAt p.parcels k) (pcAt q.parcels k)=false):plEq p q=false:=by
 rw[Bool.eq_false_iff]
 intro he
 rw[plEq_iff.1 he,pcEq_self]at h
 cases h
theorem plEq_end {p q:Plan} {k:Nat} (h1:k≤p.parcels.length) (h2:k≤q.parcels.length) (h3:k=p.parcels.length∨k=q.parcels.length) (h:p.parcels.take k=q.parcels.take k):plEq p q=(decide (p.parcels.length=q.parcels.length)&&decide (p.outer=q.outer)):=by
 obtain⟨o,l⟩:=p
 obtain⟨o',l'⟩:=q
 simp only at *
 rw[Bool.eq_iff_iff,plEq_iff]
 simp only[Bool.and_eq_true,decide_eq_true_eq,Plan.mk.injEq]
 constructor
 ·rintro⟨rfl,rfl⟩;exact⟨rfl,rfl⟩
 ·rintro⟨e,rfl⟩
  rw[List.take_of_length_le (by omega),List.take_of_length_le (by omega)]at h
  exact⟨rfl,h⟩
theorem take_next {l l':List Parc} {k:Nat} (h1:k<l.length) (h2:k<l'.length) (h:l.take k=l'.take k) (he:pcEq (pcAt l k) (pcAt l' k)=true):l.take (k+1)=l'.take (k+1):=by
 rw[List.take_succ_eq_append_getElem h1,List.take_succ_eq_append_getElem h2,h,←pcAt_lt h1,←pcAt_lt h2,pcEq_iff.1 he]
abbrev HoldSP (W V:World) (b1 b2:Nat) (a1 a2:Addr) (v1 v2 v3 v4 v5 v6 v7 v8:Value):Prop:=V.cell? ⟨b1,1,none⟩=some v1∧V.cell? ⟨b2,1,none⟩=some v2∧V.cell? a1=some v3∧V.cell? ⟨a1.block,a1.off+1,none⟩=some v4∧V.cell? ⟨a1.block,a1.off+2,none⟩=some v5∧V.cell? a2=some v6∧V.cell? ⟨a2.block,a2.off+1,none⟩=some v7∧V.cell? ⟨a2.block,a2.off+2,none⟩=some v8∧Below W.heap.size W V
theorem heldSP {W V V':World} {b1 b2:Nat} {a1 a2:Addr} {v1 v2 v3 v4 v5 v6 v7 v8:Value} (hh:b1<W.heap.size∧b2<W.heap.size∧a1.block<W.heap.size∧a2.block<W.heap.size) (hs:V.cell? ⟨b1,1,none⟩=some v1∧V.cell? ⟨b2,1,none⟩=some v2∧V.cell? a1=some v3∧V.cell? ⟨a1.block,a1.off+1,none⟩=some v4∧V.cell? ⟨a1.block,a1.off+2,none⟩=some v5∧V.cell? a2=some v6∧V.cell? ⟨a2.block,a2.off+1,none⟩=some v7∧V.cell? ⟨a2.block,a2.off+2,none⟩=some v8∧Below W.heap.size W V) (hb:Below V.heap.size V V'):
 V'.cell? ⟨b1,1,none⟩=some v1∧V'.cell? ⟨b2,1,none⟩=some v2∧V'.cell? a1=some v3∧V'.cell? ⟨a1.block,a1.off+1,none⟩=some v4∧V'.cell? ⟨a1.block,a1.off+2,none⟩=some v5∧V'.cell? a2=some v6∧V'.cell? ⟨a2.block,a2.off+1,none⟩=some v7∧V'.cell? ⟨a2.block,a2.off+2,none⟩=some v8∧Below W.heap.size W V':=by
 obtain⟨h1,h2,h3,h4⟩:=hh
 obtain⟨c1,c2,c3,c4,c5,c6,c7,c8,c9⟩:=hs
 have:=c9.size
 have k:∀ {a:Addr} {v:Value},a.block<W.heap.size→V.cell? a=some v→V'.cell? a=some v:=fun {a v} ha hv=>(hb.cell (p:=a) (by omega)).trans hv
 exact⟨k h1 c1,k h2 c2,k h3 c3,k h3 c4,k h3 c5,k h4 c6,k h4 c7,k h4 c8,below_on c9 (Nat.le_refl _) hb⟩
set_option maxRecDepth 100000 in
set_option maxHeartbeats 1600000 in
theorem samePl_any (p q:Plan) (A A' B B':Option Addr) (n c n' c' m d m' d':Nat) (w:World) (hp:PlanAt w w.heap.size A n c A' n' c' p) (hq:PlanAt w w.heap.size B m d B' m' d' q):
 Calls Tryz.prog 27 #[planV A n c A' n' c',planV B m d B' m' d'] w fun e w'=>e= .returned (.bool (plEq p q))∧Below w.heap.size w w':=by
 obtain⟨hl1,hl2,hl3,hl4⟩:=hp.lens
 obtain⟨hm1,hm2,hm3,hm4⟩:=hq.lens
 obtain⟨wa,hwa⟩:∃wa:World,wa=(w.alloc (.cells #[.slice A n c,.slice A' n' c'] 30)).alloc (.cells #[.slice B m d,.slice B' m' d'] 30):=⟨_,rfl⟩
 have hB0:Below w.heap.size w wa:=by rw[hwa];exact((Below.refl _ _).alloc (Nat.le_refl _) _).alloc (by simp) _
 have hX:PlK wa w.heap.size A n c A' n' c':=by rw[hwa];exact Blk.alloc (PlK.new w A n c A' n' c') _
 have hY:PlK wa (w.heap.size+1) B m d B' m' d':=by
  rw[hwa]
  have:=PlK.new (w.alloc (.cells #[.slice A n c,.slice A' n' c'] 30)) B m d B' m' d'
  rw[World.size_alloc]at this
  exact this
 have HP:=Lib.hid (And.intro hp hq)
 have HL:=Lib.hid (And.intro hl2 hm2)
 have HL1:=Lib.hid (And.intro (And.intro hl1 hm1) (And.intro hl3 hm3))
 have H0:=Lib.hid (And.intro hB0 (And.intro hX hY))
 clear hX hY hp hq hB0 hl1 hl2 hl3 hm1 hm2 hm3
 go_enter Tryz.func27,Tryz.ntmps27
 go_upto_region 1 with fail
 rw[←hwa]
 clear hwa
 go_wp2_with fail
 go_loopw [5] (fun i wr=>∃k:Nat,k≤n'∧k≤m'∧Hid (p.parcels.take k=q.parcels.take k)∧i= .int .i64 (k:Int)∧Hid (Below w.heap.size w wr∧PlK wr w.heap.size A n c A' n' c'∧PlK wr (w.heap.size+1) B m d B' m' d')) (fun i _=>n'-(intOf i).toNat)
 case atStart=>exact⟨0,Nat.zero_le _,Nat.zero_le _,rfl,rfl,H0⟩
 case round=>
  clear H0
  obtain⟨k,hk,hkm,hg,rfl,HW⟩:=hrel
  obtain⟨q1,q2,q3⟩:=HW.out.2.1.facts
  obtain⟨r1,r2,r3⟩:=HW.out.2.2.facts
  by_cases hlt:k<n'
  ·have hlt':(k:Int)<(n':Int):=by omega
   by_cases hlt2:k<m'
   ·have hlt2':(k:Int)<(m':Int):=by omega
    have hw1:IntKind.i64.wrap ((k:Int)+1)=(k:Int)+1:=by rw[IntKind.wrap_i64];omega
    obtain⟨ad,rfl⟩:=HP.out.1.parcs.some_ (by omega)
    obtain⟨bd,rfl⟩:=HP.out.2.parcs.some_ (by omega)
    obtain⟨hb1,p1,⟨Ak,nk,ck,p2,hrk,hk1,hk2⟩,p3⟩:=(HP.out.1.parcs.below HW.out.1).at_ hlt
    obtain⟨hb2,p4,⟨Bk,mk,dk,p5,hsk,hk3,hk4⟩,p6⟩:=(HP.out.2.parcs.below HW.out.1).at_ hlt2
    have hsz:=HW.out.1.size
    have hh:w.heap.size<wr.heap.size∧w.heap.size+1<wr.heap.size∧(ad.add (k*3)).block<wr.heap.size∧(bd.add (k*3)).block<wr.heap.size:=by
     simp only[block_of_add]
     exact⟨q3,r3,by omega,by omega⟩
    have kF:=samePc_any (pcAt p.parcels k) (pcAt q.parcels k) Ak Bk nk mk ck dk wr.drew ((hrk.more hsz).drewN _) ((hsk.more hsz).drewN _) (by omega) (by omega)
    have HNX:=Lib.hid (take_next (l:=p.parcels) (l':=q.parcels) (k:=k) (by have:=HL.out;omega) (by have:=HL.out;omega) hg.out)
    have HNO:=Lib.hid (plEq_no (p:=p) (q:=q) (k:=k))
    generalize pcAt p.parcels k=x at *
    generalize pcAt q.parcels k=y at *
    have hP0:HoldSP wr wr.drew w.heap.size (w.heap.size+1) (ad.add (k*3)) (bd.add (k*3)) (.slice (some ad) n' c') (.slice (some bd) m' d') (.int .i64 x.id) (.slice Ak nk ck) (.string x.owner) (.int .i64 y.id) (.slice Bk mk dk) (.string y.owner):=⟨q2,r2,p1,p2,p3,p4,p5,p6,(Below.refl _ _).drew⟩
    have HPQ:=Lib.hid (And.intro q2 r2)
    clear hrk hsk p1 p2 p3 p4 p5 p6 hsz hb1 hb2 hk1 hk2 hk3 hk4 q1 r1 q3 r3
    generalize pcEq x y=b at *
    rcases b with _|_
    all_goals
     go_upto_region 4 with fail
     clear q2 r2
     go_region_held3 (fun V=>V.cell? ⟨w.heap.size,1,none⟩=some (.slice (some ad) n' c')∧V.cell? ⟨w.heap.size+1,1,none⟩=some (.slice (some bd) m' d')∧V.cell? (ad.add (k*3))=some (.int .i64 x.id)∧V.cell? ⟨(ad.add (k*3)).block,(ad.add (k*3)).off+1,none⟩=some (.slice Ak nk ck)∧V.cell? ⟨(ad.add (k*3)).block,(ad.add (k*3)).off+2,none⟩=some (.string x.owner)∧V.cell? (bd.add (k*3))=some (.int .i64 y.id)∧V.cell? ⟨(bd.add (k*3)).block,(bd.add (k*3)).off+1,none⟩=some (.slice Bk mk dk)∧V.cell? ⟨(bd.add (k*3)).block,(bd.add (k*3)).off+2,none⟩=some (.string y.owner)∧Below wr.heap.size wr V)
      (first|with_reducible exact hP0|with_reducible exact heldSP hh (by assumption) (by assumption))
      (first
        |(go_simp;go_at_call 51;(with_reducible refine kF.mono ?_);rintro e w' ⟨rfl,hb'⟩;try dsimp only))
     clear hP0
     obtain⟨-,-,-,-,-,-,-,-,hbV⟩:=(by assumption:HoldSP wr _ w.heap.size (w.heap.size+1) (ad.add (k*3)) (bd.add (k*3)) (.slice (some ad) n' c') (.slice (some bd) m' d') (.int .i64 x.id) (.slice Ak nk ck) (.string x.owner) (.int .i64 y.id) (.slice Bk mk dk) (.string y.owner))
     have HV:=Lib.hid (And.intro (below_on HW.out.1 (Nat.le_refl _) hbV) (And.intro (HW.out.2.1.on hbV) (HW.out.2.2.on hbV)))
     clear hbV HW
     go_wp2_with fail
    ·go_ret
     exact⟨by rw[HNO.out (by simp)];rfl,HV.out.1⟩
    ·go_roundw
     case rel=>exact⟨k+1,by omega,by omega,HNX.out (by simp),by go_num,HV⟩
     case measure=>simp[intOf];omega
   ·have hlt2':¬(k:Int)<(m':Int):=by omega
    have hne:¬n'=m':=by omega
    have hne':((n':Int)==(m':Int))=false:=by simp;omega
    have HE:=Lib.hid (plEq_end (p:=p) (q:=q) (k:=k) (by have:=HL.out;omega) (by have:=HL.out;omega) (.inr (by have:=HL.out;omega)) hg.out)
    go_wp2_with fail
    go_ret
    exact⟨by rw[HE.out,HL.out.1,HL.out.2];simp[hne],HW.out.1⟩
  ·have hkn:k=n':=by omega
   subst hkn
   have HE:=Lib.hid (plEq_end (p:=p) (q:=q) (k:=k) (by have:=HL.out;omega) (by have:=HL.out;omega) (.inl (by have:=HL.out;omega)) hg.out)
   by_cases hkm':k=m'
   ·subst hkm'
    have kS:=Lib.hid (sameR_any p.outer q.outer A B n m c d wr ((HP.out.1.outer.below HW.out.1).more HW.out.1.size) ((HP.out.2.outer.below HW.out.1).more HW.out.1.size) (by have:=HL1.out.2;omega) (by have:=HL1.out.2;omega))
    go_wp2_with fail
    refine kS.out.mono ?_
    rintro e w1 ⟨rfl,hb⟩
    have HV:=Lib.hid (below_on HW.out.1 (Nat.le_refl _) hb)
    clear hb HW kS q1 q2 r1 r2
    go_wp2_with fail
    go_ret
    exact⟨by rw[HE.out,HL.out.1,HL.out.2];simp,HV.out⟩
   ·have hkm2:((k:Int)==(m':Int))=false:=by simp;omega
    go_wp2_with fail
    go_ret
    exact⟨by rw[HE.out,HL.out.1,HL.out.2];simp[hkm'],HW.out.1⟩
end Go.Proofs.YtpkeacnacjnlcaaGreat
