/- plan.turned, plan.matched: the walks. -/
import Derived.Test.YtpkeacnacjnlcaaGreatK12
namespace Go.Proofs.YtpkeacnacjnlcaaGreat
open Go.RowKit
attribute [local go_sem] Oper.semAt_some
theorem turnedEd_any (e:Ed) (w:World):
 Calls Tryz.prog 144 #[.agg #[.int .i64 e.a.x,.int .i64 e.a.y,.int .i64 e.b.x,.int .i64 e.b.y]] w fun r w'=>r= .returned (.agg #[.int .i64 e.b.x,.int .i64 e.b.y,.int .i64 e.a.x,.int .i64 e.a.y])∧Below w.heap.size w w':=by
 obtain⟨⟨ax,ay⟩,⟨bx,by_⟩⟩:=e
 have h1:Blk ((w.alloc (.cells #[.int .i64 ax,.int .i64 ay,.int .i64 bx,.int .i64 by_] 76)).alloc (.cells #[.int .i64 0,.int .i64 0,.int .i64 0,.int .i64 0] 76)) w.heap.size 76 #[.int .i64 ax,.int .i64 ay,.int .i64 bx,.int .i64 by_]:=Blk.alloc (Blk.new w _ _) _
 have h2:=Blk.new (w.alloc (.cells #[.int .i64 ax,.int .i64 ay,.int .i64 bx,.int .i64 by_] 76)) 76 #[.int .i64 0,.int .i64 0,.int .i64 0,.int .i64 0]
 rw[World.size_alloc]at h2
 have hB:Below w.heap.size w ((w.alloc (.cells #[.int .i64 ax,.int .i64 ay,.int .i64 bx,.int .i64 by_] 76)).alloc (.cells #[.int .i64 0,.int .i64 0,.int .i64 0,.int .i64 0] 76)):=((Below.refl _ _).alloc (Nat.le_refl _) _).alloc (by simp) _
 go_enter Tryz.func144,Tryz.ntmps144
 generalize hW:(w.alloc (.cells #[.int .i64 ax,.int .i64 ay,.int .i64 bx,.int .i64 by_] 76)).alloc (.cells #[.int .i64 0,.int .i64 0,.int .i64 0,.int .i64 0] 76)=W at *
 have c1:W.cell? ⟨w.heap.size,0,none⟩=some (.int .i64 ax):=by rw[Blk.cell h1 0];rfl
 have c2:W.cell? ⟨w.heap.size,1,none⟩=some (.int .i64 ay):=by rw[Blk.cell h1 1];rfl
 have c3:W.cell? ⟨w.heap.size,2,none⟩=some (.int .i64 bx):=by rw[Blk.cell h1 2];rfl
 have c4:W.cell? ⟨w.heap.size,3,none⟩=some (.int .i64 by_):=by rw[Blk.cell h1 3];rfl
 have d1:W.cell? ⟨w.heap.size+1,0,none⟩=some (.int .i64 0):=by rw[Blk.cell h2 0];rfl
 have d2:W.cell? ⟨w.heap.size+1,1,none⟩=some (.int .i64 0):=by rw[Blk.cell h2 1];rfl
 have d3:W.cell? ⟨w.heap.size+1,2,none⟩=some (.int .i64 0):=by rw[Blk.cell h2 2];rfl
 have d4:W.cell? ⟨w.heap.size+1,3,none⟩=some (.int .i64 0):=by rw[Blk.cell h2 3];rfl
 have f1:=Blk.frozen h2 0
 have f2:=Blk.frozen h2 1
 have f3:=Blk.frozen h2 2
 have f4:=Blk.frozen h2 3
 go_wp2_with fail
 have hs:=Blk.set_ (Blk.set_ (Blk.set_ (Blk.set_ h2 0 (.int .i64 bx)) 1 (.int .i64 by_)) 2 (.int .i64 ax)) 3 (.int .i64 ay)
 have q1:=Blk.cell hs 0
 have q2:=Blk.cell hs 1
 have q3:=Blk.cell hs 2
 have q4:=Blk.cell hs 3
 simp only[List.setIfInBounds_toArray,List.set_cons_zero,List.set_cons_succ,List.getElem?_toArray,List.getElem?_cons_zero,List.getElem?_cons_succ]at q1 q2 q3 q4
 refine bodyPost_ret (v:= .agg #[.int .i64 bx,.int .i64 by_,.int .i64 ax,.int .i64 ay]) (by simp[results,Tryz.results144,go_sem,q1,q2,q3,q4]) rfl ⟨rfl,?_⟩
 exact(((hB.setCell (p:=⟨w.heap.size+1,0,none⟩) (by simp) _).setCell (p:=⟨w.heap.size+1,1,none⟩) (by simp) _).setCell (p:=⟨w.heap.size+1,2,none⟩) (by simp) _).setCell (p:=⟨w.heap.size+1,3,none⟩) (by simp) _
open Classical in
noncomputable def matchB (p:Plan):Bool:=decide (MatchP p)
open Classical in
theorem matchB_true {p:Plan} (h:MatchP p):matchB p=true:=by unfold matchB;exact decide_eq_true h
open Classical in
theorem matchB_false {p:Plan} (h:¬MatchP p):matchB p=false:=by unfold matchB;exact decide_eq_false h
set_option maxRecDepth 100000 in
set_option maxHeartbeats 3200000 in
theorem matched_any (p:Plan) (A A':Option Addr) (n c n' c':Nat) (w:World) (h:PlanAt w w.heap.size A n c A' n' c' p):
 Calls Tryz.prog 92 #[planV A n c A' n' c'] w fun e w'=>e= .returned (.bool (matchB p))∧Below w.heap.size w w':=by
 obtain⟨hl1,hl2,hl3,hl4⟩:=h.lens
 have hmm:=@run_makeMap Tryz.prog
 have hB0:Below w.heap.size w ((w.alloc (.cells #[.slice A n c,.slice A' n' c'] 30)).alloc (.cells #[.bool false] 4)):=((Below.refl _ _).alloc (Nat.le_refl _) _).alloc (by simp) _
 have kE:=Lib.hid (planEdges_any p.parcels A' n' c' _ (h.parcs.on hB0) hl4 h.fits.2.2)
 have hK0:PlK ((w.alloc (.cells #[.slice A n c,.slice A' n' c'] 30)).alloc (.cells #[.bool false] 4)) w.heap.size A n c A' n' c':=Blk.alloc (PlK.new w A n c A' n' c') _
 have hR0:=Boxed.new (w.alloc (.cells #[.slice A n c,.slice A' n' c'] 30)) 4 (.bool false)
 rw[World.size_alloc]at hR0
 have HP:=Lib.hid h
 have H0:=Lib.hid (And.intro hB0 (And.intro hK0 hR0))
 obtain⟨q1,q2,-⟩:=hK0.facts
 clear hB0 hK0 hR0 h
 refine(callsIn_wide (n:=3)).1 ?_
 refine callsIn_of_wp_marks Tryz.func92 rfl trivial ?_ rfl
 simp only[Tryz.ntmps92,List.size_toArray,List.length_cons,List.length_nil,Nat.reduceAdd,Nat.reduceSub,Array.replicate_succ,Array.replicate_zero,List.push_toArray,List.append_toArray,List.nil_append,List.cons_append]
 gi_wp2_with fail
 refine⟨trivial,?_⟩
 refine(callsIn_wide.2 kE.out).mono ?_
 rintro e w1 ⟨hyes,hno,hb1⟩
 by_cases hnd:(allE p.parcels).Nodup
 case neg=>
  obtain rfl:=hno hnd
  have HB:=Lib.hid (below_on H0.out.1 (Nat.le_refl _) hb1)
  have b1:Boxed w1 (w.heap.size+1) 4 (.bool false):=Blk.below H0.out.2.2 hb1 H0.out.2.2.lt
  have b2:=b1.alloc (.cells #[.map none] 179)
  have x1:=b2.cell
  have x2:=b2.frozen
  have hz:Hid (matchB p=false):=matchB_false fun h=>hnd h.1
  clear hyes hno hb1 hnd kE q1 q2 hmm
  gi_wp2_with fail
  have x3:=(b2.set (.bool false)).cell
  refine⟨.bool false,?_,by rw[hz.out],(HB.out.alloc HB.out.size _).setCell (p:=⟨w.heap.size+1,0,none⟩) (by simp) _⟩
  simp[results,Tryz.results92,go_sem,x3]
 obtain⟨b,rfl,hm,hbb⟩:=hyes hnd
 have HB:=Lib.hid (below_on H0.out.1 (Nat.le_refl _) hb1)
 have b1:Boxed w1 (w.heap.size+1) 4 (.bool false):=Blk.below H0.out.2.2 hb1 H0.out.2.2.lt
 have k1:=H0.out.2.1.on hb1
 have HND:=Lib.hid hnd
 have hsz:w.heap.size+2≤w1.heap.size:=by have:=b1.lt;omega
 have hbl:b<w1.heap.size:=hm.lt
 have hbb':w.heap.size+2≤b:=by simpa using hbb
 obtain⟨q1',q2',-⟩:=(k1.on (((Below.refl w1.heap.size w1).alloc (Nat.le_refl _) (.cells #[.map (some b)] 179)).alloc (by simp) (.map #[] 0))).facts
 have k2:=k1.on ((((Below.refl w1.heap.size w1).alloc (Nat.le_refl _) (.cells #[.map (some b)] 179)).alloc (by simp) (.map #[] 0)).alloc (by simp;omega) (.cells #[.map (some (w1.heap.size+1))] 182))
 obtain⟨r1,r2,-⟩:=k2.facts
 have HX:=Lib.hid (And.intro hm (And.intro b1 k1))
 clear hyes hno hb1 hnd kE q1 q2 hm b1 k1 k2 hbb q1' q2'
 gi_wp2_with fail
 refine⟨trivial,?_⟩
 refine(callsIn_wide.2 (edges_any A n c _)).mono ?_
 rintro e w3 ⟨rfl,rfl⟩
 gi_wp2_with fail
 have hW:Below w1.heap.size w1 ((((w1.alloc (.cells #[.map (some b)] 179)).alloc (.map #[] 0)).alloc (.cells #[.map (some (w1.heap.size+1))] 182)).alloc (.cells #[.slice A n c] 25)):=((((Below.refl w1.heap.size w1).alloc (Nat.le_refl _) _).alloc (by simp) _).alloc (by simp;omega) _).alloc (by simp;omega) _
 have c3:=(((Boxed.new w1 179 (.map (some b))).alloc (.map #[] 0)).alloc (.cells #[.map (some (w1.heap.size+1))] 182)).alloc (.cells #[.slice A n c] 25)
 have c5:=(Boxed.new ((w1.alloc (.cells #[.map (some b)] 179)).alloc (.map #[] 0)) 182 (.map (some (w1.heap.size+1)))).alloc (.cells #[.slice A n c] 25)
 have c6:=Boxed.new (((w1.alloc (.cells #[.map (some b)] 179)).alloc (.map #[] 0)).alloc (.cells #[.map (some (w1.heap.size+1))] 182)) 25 (.slice A n c)
 simp only[World.size_alloc]at c5 c6
 have cm:MapB ((((w1.alloc (.cells #[.map (some b)] 179)).alloc (.map #[] 0)).alloc (.cells #[.map (some (w1.heap.size+1))] 182)).alloc (.cells #[.slice A n c] 25)) (w1.heap.size+1) encE ([]:List (Ed×Value)):=by
  have h1:=MapB.made (w1.alloc (.cells #[.map (some b)] 179)) encE
  simp only[World.size_alloc]at h1
  have h2:=h1.kept (Below.heap_alloc _ (.cells #[.map (some (w1.heap.size+1))] 182) _ h1.lt)
  exact h2.kept (Below.heap_alloc _ _ _ h2.lt)
 have hz4:((((w1.alloc (.cells #[.map (some b)] 179)).alloc (.map #[] 0)).alloc (.cells #[.map (some (w1.heap.size+1))] 182)).alloc (.cells #[.slice A n c] 25)).heap.size=w1.heap.size+4:=by simp
 generalize ((((w1.alloc (.cells #[.map (some b)] 179)).alloc (.map #[] 0)).alloc (.cells #[.map (some (w1.heap.size+1))] 182)).alloc (.cells #[.slice A n c] 25))=w4 at *
 have HL1:=Lib.hid hl1
 clear hl1 hl2 r1 r2
 refine wpIn_rangeFunc_ownH rfl (by omega) (gf:=153) (lb:=#[.pointer (some ⟨w1.heap.size+1+1+1,0,none⟩)]) rfl trivial (enters_of Tryz.func153 (by kernel_rfl) rfl)
  (edges_stopsR 2 (by omega) w.heap.size (w1.heap.size+1+1+1) c n A p.outer (by omega) w4 (by omega) (by omega) c6.cell ((HP.out.outer.below HB.out).below (hW.mono (by omega)))) (fun h k=>h.trans k)
  (fun W l o o' hl h _ _=>⟨by simp,fun i hi=>World.putObj_heap_other (by omega)⟩) (Below.refl _ _) (fun _=>rfl)
  (fun pre W=>(Boxed W (w.heap.size+1) 4 (.bool false)∧Boxed W w1.heap.size 179 (.map (some b))∧Boxed W (w1.heap.size+1+1) 182 (.map (some (w1.heap.size+1)))∧Boxed W (w1.heap.size+1+1+1) 25 (.slice A n c)∧∀y∈pre,edgeK p.outer y.1∈allE p.parcels)∧(∃l,MapB W (w1.heap.size+1) encE l∧∀e,look l e=if e∈pre.map (fun y=>edgeK p.outer y.1)then some (.bool true)else none)∧MapB W b encE (edId p.parcels)∧Below w.heap.size w W)
  (fun c pre W=>(c= .ret∧¬(∀e∈edgesOf p.outer,e∈allE p.parcels)∧Boxed W (w.heap.size+1) 4 (.bool false))∧Below w.heap.size w W)
  (OwnFrom.and (Own.from (fun s X Y row hs hg hrow=>⟨boxed_own _ _ (fun _:Unit=>_) () X Y row hs.1 hg hrow,boxed_own _ _ (fun _:Unit=>_) () X Y row hs.2.1 hg hrow,boxed_own _ _ (fun _:Unit=>_) () X Y row hs.2.2.1 hg hrow,boxed_own _ _ (fun _:Unit=>_) () X Y row hs.2.2.2.1 hg hrow,hs.2.2.2.2⟩) _) (OwnFrom.and (fun s X Y row hs hg hr=>by
    obtain⟨l,h1,h2⟩:=hs
    exact⟨l,h1.kept (hg.block _ h1.lt (fun e=>by have:=(hr _ e.symm).1;omega)),h2⟩) (OwnFrom.and (mapB_from (by omega) encE _) (ownFrom_below (Nat.le_refl _) (by omega)))))
  (fun c=>OwnFrom.and (Own.from (fun s X Y row hs hg hrow=>⟨hs.1,hs.2.1,boxed_own _ _ (fun _:Unit=>_) () X Y row hs.2.2 hg hrow⟩) _) (ownFrom_below (Nat.le_refl _) (by omega)))
  ⟨⟨Blk.below HX.out.2.1 hW HX.out.2.1.lt,c3,c5,c6,by simp⟩,⟨[],cm,by simp[look]⟩,HX.out.1.kept (hW.block _ HX.out.1.lt),below_on HB.out (Nat.le_refl _) hW⟩
  (fun y a' W=>∃(Bx:Nat),Blk W Bx 76 #[.int .i64 (ptAt p.outer y.1).x,.int .i64 (ptAt p.outer y.1).y,.int .i64 (ptAt p.outer ((y.1+1)%p.outer.length)).x,.int .i64 (ptAt p.outer ((y.1+1)%p.outer.length)).y]∧
    ∃v25 v26:Value,a'={ tmps:=#[planV A n c A' n' c',.pointer (some ⟨w.heap.size,0,none⟩),.pointer (some ⟨w.heap.size+1,0,none⟩),.pointer (some ⟨w1.heap.size,0,none⟩),.bool true,.pointer (some ⟨w1.heap.size+1+1,0,none⟩),undef,.pointer (some ⟨Bx,0,none⟩),undef,undef,undef,undef,undef,.tuple #[.map (some b),.bool true],.pointer (some ⟨w.heap.size,1,none⟩),.slice A' n' c',.tuple #[.map (some b),.bool true],.map (some b),.bool true,.bool true,.bool false,.map (some (w1.heap.size+1)),.pointer (some ⟨w.heap.size,0,none⟩),.slice A n c,.func (.func 153) #[] #[.pointer (some ⟨w1.heap.size+1+1+1,0,none⟩)],v25,v26,undef,undef,undef,undef,undef,undef,undef,undef,undef,undef,undef,undef,undef,undef,undef,undef,undef,undef,undef,undef,undef,undef,undef,undef,undef,undef,undef,undef],defers:=[] })
  (fun y a'=>fun s X Y row ⟨Bx,hs,e⟩ hg hrow=>⟨Bx,blk_own Bx _ (fun _:Unit=>_) () X Y row hs hg (fun r hr=>(hrow r hr).2),e⟩) ?assign ?body ?done ?stop
 case assign=>
  rintro l pre y W K ⟨⟨d1,d3,d5,d6,hne⟩,dm,dk,dB⟩ hK
  unfold edgeAt edgeV
  gi_wp2
  have h1:=d6.lt
  have h2:=dB.size
  obtain⟨l',m1,m2⟩:=dm
  exact hK _ _ ((KeepsOthers.alloc _ _).from _) (KeepE.alloc (by omega) h1 _) ⟨⟨d1.alloc _,d3.alloc _,d5.alloc _,d6.alloc _,hne⟩,⟨l',m1.kept (Below.heap_alloc _ _ _ m1.lt),m2⟩,dk.kept (Below.heap_alloc _ _ _ dk.lt),dB.alloc dB.size _⟩ ⟨W.heap.size,Blk.new W _ _,_,_,rfl⟩
 case body=>
  rintro l pre ⟨y,hyn⟩ a' W hl' ⟨r,hrr⟩ ⟨⟨d1,d3,d5,d6,hne⟩,⟨lb,dl,hlb⟩,dm,dB⟩ ⟨Bx,hBx,v25,v26,rfl⟩ hlen'
  obtain⟨e,he⟩:∃e,e=edgeK p.outer y:=⟨_,rfl⟩
  have he1:e.a=ptAt p.outer y:=by rw[he];rfl
  have he2:e.b=ptAt p.outer ((y+1)%p.outer.length):=by rw[he];rfl
  simp only[←he1,←he2]at hBx
  clear he1 he2
  have hmem:e∈edgesOf p.outer:=by rw[he,edgesOf_map];exact List.mem_map.2 ⟨y,List.mem_range.2 (by have:=HL1.out;omega),rfl⟩
  have HE:=Lib.hid (And.intro he hmem)
  clear he hmem
  have HY:=Lib.hid (And.intro d1 (And.intro d3 (And.intro d5 (And.intro d6 (And.intro hne (And.intro dm dB))))))
  have x1:W.cell? ⟨Bx,0,none⟩=some (.int .i64 e.a.x):=by rw[Blk.cell hBx 0];rfl
  have x2:W.cell? ⟨Bx,1,none⟩=some (.int .i64 e.a.y):=by rw[Blk.cell hBx 1];rfl
  have x3:W.cell? ⟨Bx,2,none⟩=some (.int .i64 e.b.x):=by rw[Blk.cell hBx 2];rfl
  have x4:W.cell? ⟨Bx,3,none⟩=some (.int .i64 e.b.y):=by rw[Blk.cell hBx 3];rfl
  have x5:=d3.cell
  have x6:=d5.cell
  rcases hq:look (edId p.parcels) e with _|v
  ·have hlk:Sem.run Tryz.prog (Instr.lookup 179 (.map (some b)) (.agg #[.int .i64 e.a.x,.int .i64 e.a.y,.int .i64 e.b.x,.int .i64 e.b.y]) true) W= .ok (.tuple #[.int .i64 0,.bool false]) W:=run_look_out edKey Tryz.underlying179 Tryz.zeroValue3 dm hq
   have hnot:¬(∀e∈edgesOf p.outer,e∈allE p.parcels):=fun h=>by
    have h1:=look_none.1 hq
    rw[edId_keys]at h1
    exact h1 (h e HE.out.2)
   have HZ:=Lib.hid hnot
   have z2:=d1.cell
   have z3:=d1.frozen
   clear d1 d3 d5 d6 hne dm dB dl hlb hBx hq hnot
   gi_wp2_with fail
   exact⟨(KeepsOthers.setCell _ _ _).from _,⟨rfl,HZ.out,HY.out.1.set _⟩,HY.out.2.2.2.2.2.2.setCell (p:=⟨w.heap.size+1,0,none⟩) (by simp) _⟩
  ·have hlk:Sem.run Tryz.prog (Instr.lookup 179 (.map (some b)) (.agg #[.int .i64 e.a.x,.int .i64 e.a.y,.int .i64 e.b.x,.int .i64 e.b.y]) true) W= .ok (.tuple #[v,.bool true]) W:=run_look_in edKey Tryz.underlying179 dm hq
   have hin:e∈allE p.parcels:=by rw[←edId_keys];exact List.mem_map.2 ⟨_,look_mem hq,rfl⟩
   have hput:∃W' l',Sem.run Tryz.prog (Instr.mapUpdate 182 (.map (some (w1.heap.size+1))) (encE e) (.bool true)) W= .ok () W'∧MapB W' (w1.heap.size+1) encE l'∧W.grownBy W' (some (w1.heap.size+1))∧∀f,look l' f=if f∈(pre++[(⟨y,hyn⟩:{k:Nat // k<n})]).map (fun y=>edgeK p.outer y.1)then some (.bool true)else none:=by
    have hpre:∀f,f∈(pre++[(⟨y,hyn⟩:{k:Nat // k<n})]).map (fun y=>edgeK p.outer y.1)↔f∈pre.map (fun y=>edgeK p.outer y.1)∨f=e:=fun f=>by rw[List.map_append,List.mem_append,HE.out.1];simp
    rcases hq2:look lb e with _|u
    ·obtain⟨W',h1,h2,h3⟩:=run_put_new edKey Tryz.underlying182 dl (.bool true) hq2
     refine⟨W',_,h1,h2,h3,fun f=>?_⟩
     have:look (lb++[(e,Value.bool true)]) f=if f=e then some (.bool true)else look lb f:=by
      clear h1 h2 h3 dl hlb
      induction lb with
      |nil=>simp[look]
      |cons z lb ih=>
       obtain⟨k,u⟩:=z
       have h0:e≠k∧look lb e=none:=by
        unfold look at hq2
        split at hq2
        ·cases hq2
        ·exact⟨by assumption,hq2⟩
       rw[List.cons_append]
       unfold look
       by_cases h4:f=k
       ·rw[if_pos h4,if_pos h4,if_neg (fun h5=>h0.1 (h5.symm.trans h4))]
       ·rw[if_neg h4,if_neg h4,ih h0.2]
     rw[this,hlb f]
     by_cases h4:f=e
     ·rw[if_pos h4,if_pos ((hpre f).2 (.inr h4))]
     ·rw[if_neg h4]
      by_cases h5:f∈pre.map (fun y=>edgeK p.outer y.1)
      ·rw[if_pos h5,if_pos ((hpre f).2 (.inl h5))]
      ·rw[if_neg h5,if_neg (fun h6=>((hpre f).1 h6).elim h5 h4)]
    ·obtain⟨W',h1,h2,h3⟩:=run_put_old edKey Tryz.underlying182 dl (.bool true) hq2
     refine⟨W',_,h1,h2,h3,fun f=>?_⟩
     rw[upd_look hq2 f,hlb f]
     by_cases h4:f=e
     ·rw[if_pos h4,if_pos ((hpre f).2 (.inr h4))]
     ·rw[if_neg h4]
      by_cases h5:f∈pre.map (fun y=>edgeK p.outer y.1)
      ·rw[if_pos h5,if_pos ((hpre f).2 (.inl h5))]
      ·rw[if_neg h5,if_neg (fun h6=>((hpre f).1 h6).elim h5 h4)]
   obtain⟨W',l',hup,hm',hg',hl'⟩:=hput
   have hup':Sem.run Tryz.prog (Instr.mapUpdate 182 (.map (some (w1.heap.size+1))) (.agg #[.int .i64 e.a.x,.int .i64 e.a.y,.int .i64 e.b.x,.int .i64 e.b.y]) (.bool true)) W= .ok () W':=hup
   have hgl:=dl.lt
   have HZ:=Lib.hid (And.intro hm' (And.intro hg' (And.intro hl' hin)))
   clear d1 d3 d5 d6 hne dm dB dl hlb hBx hq hup hm' hg' hl' hin
   gi_wp2_with fail
   obtain⟨e1,e3,e5,e6,hne,em,eB⟩:=HY.out
   obtain⟨hm',hg',hl',hin⟩:=HZ.out
   have hbb:∀i,i<W.heap.size→i≠w1.heap.size+1→W'.heap[i]?=W.heap[i]?:=fun i hi hne'=>hg'.block i hi (fun e=>hne' (by cases e;rfl))
   refine⟨KeepsFrom.of_grownBy hg' (fun j e=>by have:=Option.some.inj e;omega),⟨hg'.size,fun i hi=>hbb i (by have:=e6.lt;omega) (by omega)⟩,⟨e1.kept hg' (fun e=>by have:=Option.some.inj e;omega),e3.kept hg' (fun e=>by have:=Option.some.inj e;omega),e5.kept hg' (fun e=>by have:=Option.some.inj e;omega),e6.kept hg' (fun e=>by have:=Option.some.inj e;omega),fun z hz=>?_⟩,⟨l',hm',hl'⟩,em.kept (hbb _ em.lt (by omega)),eB.grown hg' eB.size (fun j e=>by have:=Option.some.inj e;omega)⟩
   rcases List.mem_append.1 hz with h1|h1
   ·exact hne z h1
   ·simp at h1
    rw[h1,←HE.out.1]
    exact hin
 case done=>
  rintro D ys W hD hys ⟨⟨d1,d3,d5,d6,hne⟩,⟨lb,dl,hlb⟩,dm,dB⟩ hK
  have hmap:(ys.map fun y=>edgeK p.outer y.1)=edgesOf p.outer:=by
   rw[edgesOf_map,HL1.out,←hys,List.map_map]
   rfl
  rw[hmap]at hlb
  have hall:∀e∈edgesOf p.outer,e∈allE p.parcels:=fun e he=>by
   rw[←hmap]at he
   obtain⟨y,hy,rfl⟩:=List.mem_map.1 he
   exact hne y hy
  have hrg:Sem.run Tryz.prog (Instr.range 179 (.map (some b))) W= .ok (.pointer (some ⟨W.heap.size,0,none⟩)) (W.alloc (.mapIter (some b) (edId p.parcels).length #[] (edId p.parcels).length)):=run_range_map Tryz.underlying179 dm
  have x5:=d3.cell
  have HD:=Lib.hid (And.intro d1 (And.intro d3 (And.intro d5 (And.intro dl (And.intro hlb (And.intro dm (And.intro dB (And.intro hK hall))))))))
  clear d1 d3 d5 d6 hne dl hlb dm dB hK hmap hys hall
  gi_wp2_with fail
  refine wpIn_wide.2 ?_
  have hI0:IterB (W.alloc (.mapIter (some b) (edId p.parcels).length #[] (edId p.parcels).length)) W.heap.size b (edId p.parcels).length #[]:=heap_alloc_new W _
  have hBa:Below W.heap.size W (W.alloc (.mapIter (some b) (edId p.parcels).length #[] (edId p.parcels).length)):=(Below.refl _ _).alloc (Nat.le_refl _) _
  have hWb:w1.heap.size+4≤W.heap.size:=by have:=(Array.getElem?_eq_some_iff.1 HD.out.2.2.2.2.2.2.2.1).1;omega
  have hDl:D<W.heap.size:=(Array.getElem?_eq_some_iff.1 HD.out.2.2.2.2.2.2.2.1).1
  obtain⟨wo,hwo⟩:∃wo,wo=W.alloc (.mapIter (some b) (edId p.parcels).length #[] (edId p.parcels).length):=⟨_,rfl⟩
  rw[←hwo]at hI0 hBa
  rw[←hwo]
  clear hwo hrg
  have HI0:=Lib.hid (And.intro hI0 hBa)
  clear hI0 hBa
  obtain⟨rr,hrr⟩:∃rr,rr=W.heap.size:=⟨_,rfl⟩
  rw[←hrr]at HI0
  rw[←hrr]
  have HRR:=Lib.hid hrr
  have hrl:D<rr∧b<rr∧w1.heap.size+4≤rr:=by omega
  clear hrr
  go_loopw [39] (fun _ wr=>∃seen,IterB wr rr b (edId p.parcels).length seen∧MapB wr b encE (edId p.parcels)∧MapB wr (w1.heap.size+1) encE lb∧Boxed wr (w.heap.size+1) 4 (.bool false)∧Boxed wr w1.heap.size 179 (.map (some b))∧Boxed wr (w1.heap.size+1+1) 182 (.map (some (w1.heap.size+1)))∧wr.heap[D]?=some (.deferred (some []))∧Below w.heap.size w wr∧Hid (∀i (hi:i<(edId p.parcels).length),seen.contains i=true→((edId p.parcels)[i].1.back∈allE p.parcels↔(edId p.parcels)[i].1∉edgesOf p.outer))) (fun _ wr=>leftW wr rr b)
  case atStart=>
   obtain⟨e1,e3,e5,el,hlb,em,eB,hK,hall⟩:=HD.out
   have hb:=HI0.out.2
   rw[HRR.out]at hb
   exact⟨#[],HI0.out.1,em.kept (hb.block _ em.lt),el.kept (hb.block _ el.lt),Blk.below e1 hb e1.lt,Blk.below e3 hb e3.lt,Blk.below e5 hb e5.lt,(hb.block _ hDl).trans hK,below_on eB (Nat.le_refl _) hb,fun i hi h=>by simp at h⟩
  case round=>
   obtain⟨seen,hI,em,el,e1,e3,e5,hK,eB,hok⟩:=hrel
   rcases run_next_map_ (P:=Tryz.prog) hI em with ⟨hall,hnx⟩|⟨i,hil,hsn,W',hnx,hI',em',hg',hsz',hlf⟩
   ·have hz:Hid (matchB p=true):=by
     refine matchB_true ⟨HND.out,HD.out.2.2.2.2.2.2.2.2,fun e he=>?_⟩
     rw[←edId_keys]at he
     obtain⟨z,hz,rfl⟩:=List.mem_map.1 he
     obtain⟨i,hi,rfl⟩:=List.getElem_of_mem hz
     exact hok.out i hi (hall i hi)
    have x1:=e1.cell
    have x2:=e1.frozen
    have HE:=Lib.hid (And.intro e1 (And.intro hK eB))
    clear hok hall hI em el e1 e3 e5 hK eB
    go_wp2_with fail
    gi_wp2_with fail
    have hKf:(wr.setCell ⟨w.heap.size+1,0,none⟩ (.bool true)).heap[D]?=some (.deferred (some [])):=by
     rw[Below.heap_setCell _ _ _ D (by simp only;omega)]
     exact HE.out.2.1
    refine⟨by simp,.inl ⟨_,_,rfl,run_takeDeferred hKf,?_⟩⟩
    have hc5:=cell_kept (HE.out.1.set (.bool true)).cell (grownBy_putObj' _ D (.deferred none)) (fun r e=>by cases e;exact⟨_,hKf,rfl⟩)
    refine⟨.bool true,?_,by rw[hz.out],(HE.out.2.2.setCell (p:=⟨w.heap.size+1,0,none⟩) (by simp) _).trans (belowK_b (w:=w) (Nat.le_refl _) _ D _ _ (by omega) hKf rfl rfl)⟩
    simp[results,Tryz.results92,go_sem,hc5]
   ·have hent:=run_entry_map_ (P:=Tryz.prog) hI' em' hil
    obtain⟨e,he⟩:∃e,e=(edId p.parcels)[i].1:=⟨_,rfl⟩
    obtain⟨u,hu⟩:∃u,u=(edId p.parcels)[i].2:=⟨_,rfl⟩
    rw[←he,←hu]at hnx hent
    have hea:e∈allE p.parcels:=by rw[←edId_keys,he];exact List.mem_map.2 ⟨_,List.getElem_mem hil,rfl⟩
    have hent':Sem.run Tryz.prog (Instr.entry (.pointer (some ⟨rr,0,none⟩))) W'= .ok (.tuple #[.agg #[.int .i64 e.a.x,.int .i64 e.a.y,.int .i64 e.b.x,.int .i64 e.b.y],u]) W':=hent
    have hnx':∀ty,Sem.run Tryz.prog (Instr.next (.pointer (some ⟨rr,0,none⟩)) false ty) wr= .ok (.tuple #[.bool true,.agg #[.int .i64 e.a.x,.int .i64 e.a.y,.int .i64 e.b.x,.int .i64 e.b.y],u]) W':=hnx
    have hne:∀i,i≠rr→i<wr.heap.size→W'.heap[i]?=wr.heap[i]?:=fun i h1 h2=>hg'.block i h2 (fun e=>h1 (by cases e;rfl))
    have f1:Boxed W' (w.heap.size+1) 4 (.bool false):=(hne _ (by omega) e1.lt).trans e1
    have f3:Boxed W' w1.heap.size 179 (.map (some b)):=(hne _ (by omega) e3.lt).trans e3
    have f5:Boxed W' (w1.heap.size+1+1) 182 (.map (some (w1.heap.size+1))):=(hne _ (by omega) e5.lt).trans e5
    have fl:MapB W' (w1.heap.size+1) encE lb:=el.kept (hne _ (by omega) el.lt)
    have hKl:D<wr.heap.size:=(Array.getElem?_eq_some_iff.1 hK).1
    have fK:W'.heap[D]?=some (.deferred (some [])):=(hne _ (by omega) hKl).trans hK
    have fB:Below w.heap.size w W':=eB.grown hg' eB.size (fun j e=>by have:=Option.some.inj e;omega)
    have HS:=Lib.hid (And.intro he (And.intro hea (And.intro hlf hok)))
    clear hnx hent hne hI em el e1 e3 e5 hK eB he hu hea hlf hok hsn hg'
    have hBa:Below W'.heap.size W' (W'.alloc (.cells #[.int .i64 e.a.x,.int .i64 e.a.y,.int .i64 e.b.x,.int .i64 e.b.y] 76)):=(Below.refl _ _).alloc (Nat.le_refl _) _
    have hx:Blk (W'.alloc (.cells #[.int .i64 e.a.x,.int .i64 e.a.y,.int .i64 e.b.x,.int .i64 e.b.y] 76)) W'.heap.size 76 #[.int .i64 e.a.x,.int .i64 e.a.y,.int .i64 e.b.x,.int .i64 e.b.y]:=Blk.new _ _ _
    have HF:=Lib.hid (show (IterB (W'.alloc (.cells #[.int .i64 e.a.x,.int .i64 e.a.y,.int .i64 e.b.x,.int .i64 e.b.y] 76)) rr b (edId p.parcels).length (seen.push i)∧MapB (W'.alloc (.cells #[.int .i64 e.a.x,.int .i64 e.a.y,.int .i64 e.b.x,.int .i64 e.b.y] 76)) b encE (edId p.parcels)∧MapB (W'.alloc (.cells #[.int .i64 e.a.x,.int .i64 e.a.y,.int .i64 e.b.x,.int .i64 e.b.y] 76)) (w1.heap.size+1) encE lb)∧Boxed (W'.alloc (.cells #[.int .i64 e.a.x,.int .i64 e.a.y,.int .i64 e.b.x,.int .i64 e.b.y] 76)) (w.heap.size+1) 4 (.bool false)∧Boxed (W'.alloc (.cells #[.int .i64 e.a.x,.int .i64 e.a.y,.int .i64 e.b.x,.int .i64 e.b.y] 76)) w1.heap.size 179 (.map (some b))∧Boxed (W'.alloc (.cells #[.int .i64 e.a.x,.int .i64 e.a.y,.int .i64 e.b.x,.int .i64 e.b.y] 76)) (w1.heap.size+1+1) 182 (.map (some (w1.heap.size+1)))∧(W'.alloc (.cells #[.int .i64 e.a.x,.int .i64 e.a.y,.int .i64 e.b.x,.int .i64 e.b.y] 76)).heap[D]?=some (.deferred (some []))∧Below w.heap.size w (W'.alloc (.cells #[.int .i64 e.a.x,.int .i64 e.a.y,.int .i64 e.b.x,.int .i64 e.b.y] 76)) from
     ⟨⟨hI'.kept (hBa.block _ (by have:=(Array.getElem?_eq_some_iff.1 hI').1;omega)),em'.kept (hBa.block _ em'.lt),fl.kept (hBa.block _ fl.lt)⟩,f1.alloc _,f3.alloc _,f5.alloc _,(hBa.block _ (by omega)).trans fK,fB.alloc fB.size _⟩)
    have HL5:Hid (leftW (W'.alloc (.cells #[.int .i64 e.a.x,.int .i64 e.a.y,.int .i64 e.b.x,.int .i64 e.b.y] 76)) rr b=leftW W' rr b):=by
     show _=_
     rw[leftW_eq HF.out.1.1 HF.out.1.2.1,leftW_eq hI' em']
    clear hI' em' f1 f3 f5 fl fK fB
    rw[hsz']at hx
    go_wp2_with fail
    obtain⟨W6,hW6⟩:∃W6,W6=W'.alloc (.cells #[.int .i64 e.a.x,.int .i64 e.a.y,.int .i64 e.b.x,.int .i64 e.b.y] 76):=⟨_,rfl⟩
    rw[←hW6]at HF HL5 hx
    rw[←hW6]
    clear hW6 hBa hnx' hent'
    have hlk:∃(ov:Value) (tb:Bool),(tb=true↔e.back∈allE p.parcels)∧∀V,Below W6.heap.size W6 V→Sem.run Tryz.prog (Instr.lookup 179 (.map (some b)) (.agg #[.int .i64 e.b.x,.int .i64 e.b.y,.int .i64 e.a.x,.int .i64 e.a.y]) true) V= .ok (.tuple #[ov,.bool tb]) V:=by
     rcases hq:look (edId p.parcels) e.back with _|v
     ·refine⟨.int .i64 0,false,?_,fun V hb=>run_look_out edKey Tryz.underlying179 Tryz.zeroValue3 (HF.out.1.2.1.kept (hb.block _ HF.out.1.2.1.lt)) hq⟩
      have:=look_none.1 hq
      rw[edId_keys]at this
      simp[this]
     ·refine⟨v,true,?_,fun V hb=>run_look_in edKey Tryz.underlying179 (HF.out.1.2.1.kept (hb.block _ HF.out.1.2.1.lt)) hq⟩
      have:e.back∈allE p.parcels:=by rw[←edId_keys];exact List.mem_map.2 ⟨_,look_mem hq,rfl⟩
      simp[this]
    obtain⟨ov,tb,htb,hlk⟩:=hlk
    have hlo:∃ob:Bool,(ob=true↔e∈edgesOf p.outer)∧∀V,Below W6.heap.size W6 V→Sem.run Tryz.prog (Instr.lookup 182 (.map (some (w1.heap.size+1))) (.agg #[.int .i64 e.a.x,.int .i64 e.a.y,.int .i64 e.b.x,.int .i64 e.b.y]) false) V= .ok (.bool ob) V:=by
     have hl:=HD.out.2.2.2.2.1 e
     by_cases hin:e∈edgesOf p.outer
     ·rw[if_pos hin]at hl
      exact⟨true,by simp[hin],fun V hb=>run_look_in1 edKey Tryz.underlying182 (HF.out.1.2.2.kept (hb.block _ HF.out.1.2.2.lt)) hl⟩
     ·rw[if_neg hin]at hl
      exact⟨false,by simp[hin],fun V hb=>run_look_out1 edKey Tryz.underlying182 Tryz.zeroValue4 (HF.out.1.2.2.kept (hb.block _ HF.out.1.2.2.lt)) hl⟩
    obtain⟨ob,hob,hlo⟩:=hlo
    have kT:=fun V=>turnedEd_any e V
    have hS:∀V,Below W6.heap.size W6 V→V.cell? ⟨w1.heap.size,0,none⟩=some (.map (some b))∧V.cell? ⟨wr.heap.size,0,none⟩=some (.int .i64 e.a.x)∧V.cell? ⟨wr.heap.size,1,none⟩=some (.int .i64 e.a.y)∧V.cell? ⟨wr.heap.size,2,none⟩=some (.int .i64 e.b.x)∧V.cell? ⟨wr.heap.size,3,none⟩=some (.int .i64 e.b.y)∧Sem.run Tryz.prog (Instr.lookup 179 (.map (some b)) (.agg #[.int .i64 e.b.x,.int .i64 e.b.y,.int .i64 e.a.x,.int .i64 e.a.y]) true) V= .ok (.tuple #[ov,.bool tb]) V∧Below W6.heap.size W6 V:=fun V hb=>by
     have h3:=Blk.below HF.out.2.2.1 hb HF.out.2.2.1.lt
     have hy:=Blk.below hx hb (Blk.lt hx)
     exact⟨Boxed.cell h3,by rw[Blk.cell hy 0];rfl,by rw[Blk.cell hy 1];rfl,by rw[Blk.cell hy 2];rfl,by rw[Blk.cell hy 3];rfl,hlk V hb,hb⟩
    have hP0:=hS W6.drew (Below.refl _ _).drew
    have hStep:∀V V',(V.cell? ⟨w1.heap.size,0,none⟩=some (.map (some b))∧V.cell? ⟨wr.heap.size,0,none⟩=some (.int .i64 e.a.x)∧V.cell? ⟨wr.heap.size,1,none⟩=some (.int .i64 e.a.y)∧V.cell? ⟨wr.heap.size,2,none⟩=some (.int .i64 e.b.x)∧V.cell? ⟨wr.heap.size,3,none⟩=some (.int .i64 e.b.y)∧Sem.run Tryz.prog (Instr.lookup 179 (.map (some b)) (.agg #[.int .i64 e.b.x,.int .i64 e.b.y,.int .i64 e.a.x,.int .i64 e.a.y]) true) V= .ok (.tuple #[ov,.bool tb]) V∧Below W6.heap.size W6 V)→Below V.heap.size V V'→(V'.cell? ⟨w1.heap.size,0,none⟩=some (.map (some b))∧V'.cell? ⟨wr.heap.size,0,none⟩=some (.int .i64 e.a.x)∧V'.cell? ⟨wr.heap.size,1,none⟩=some (.int .i64 e.a.y)∧V'.cell? ⟨wr.heap.size,2,none⟩=some (.int .i64 e.b.x)∧V'.cell? ⟨wr.heap.size,3,none⟩=some (.int .i64 e.b.y)∧Sem.run Tryz.prog (Instr.lookup 179 (.map (some b)) (.agg #[.int .i64 e.b.x,.int .i64 e.b.y,.int .i64 e.a.x,.int .i64 e.a.y]) true) V'= .ok (.tuple #[ov,.bool tb]) V'∧Below W6.heap.size W6 V'):=fun V V' h hb=>hS V' (below_on h.2.2.2.2.2.2 (Nat.le_refl _) hb)
    have HC:=Lib.hid (And.intro htb (And.intro hob (And.intro hlo hx)))
    have HSS:=Lib.hid hS
    clear hlk htb hob hlo hx hS
    go_region_held3 (fun V=>V.cell? ⟨w1.heap.size,0,none⟩=some (.map (some b))∧V.cell? ⟨wr.heap.size,0,none⟩=some (.int .i64 e.a.x)∧V.cell? ⟨wr.heap.size,1,none⟩=some (.int .i64 e.a.y)∧V.cell? ⟨wr.heap.size,2,none⟩=some (.int .i64 e.b.x)∧V.cell? ⟨wr.heap.size,3,none⟩=some (.int .i64 e.b.y)∧Sem.run Tryz.prog (Instr.lookup 179 (.map (some b)) (.agg #[.int .i64 e.b.x,.int .i64 e.b.y,.int .i64 e.a.x,.int .i64 e.a.y]) true) V= .ok (.tuple #[ov,.bool tb]) V∧Below W6.heap.size W6 V)
     (first|with_reducible exact hP0|with_reducible assumption|with_reducible exact hStep _ _ (by assumption) (by assumption))
     (first
       |(go_simp;go_at_call 144;(with_reducible refine(kT _).mono ?_);rintro r w' ⟨rfl,hb'⟩;try dsimp only))
    all_goals
     clear hP0 hStep
     obtain⟨W7,hW7⟩:∃W7,W7=w':=⟨_,rfl⟩
     subst hW7
     obtain⟨g1,g2,g3,g4,g5,-,hbV⟩:=(by assumption:W7.cell? ⟨w1.heap.size,0,none⟩=some (.map (some b))∧W7.cell? ⟨wr.heap.size,0,none⟩=some (.int .i64 e.a.x)∧W7.cell? ⟨wr.heap.size,1,none⟩=some (.int .i64 e.a.y)∧W7.cell? ⟨wr.heap.size,2,none⟩=some (.int .i64 e.b.x)∧W7.cell? ⟨wr.heap.size,3,none⟩=some (.int .i64 e.b.y)∧_∧Below W6.heap.size W6 W7)
     have hlo:=HC.out.2.2.1 W7 hbV
     obtain⟨⟨eI,em,el⟩,e1,e3,e5,eK,eB⟩:=HF.out
     have c5:=Blk.below e5 hbV e5.lt
     have c1:=Blk.below e1 hbV e1.lt
     have x5:=Boxed.cell (t:=182) c5
     have x1:=Boxed.cell (t:=4) c1
     have x2:=Boxed.frozen (t:=4) c1
     have hKl:D<W6.heap.size:=(Array.getElem?_eq_some_iff.1 eK).1
     have HG:=Lib.hid (show IterB W7 rr b (edId p.parcels).length (seen.push i)∧MapB W7 b encE (edId p.parcels)∧MapB W7 (w1.heap.size+1) encE lb∧Boxed W7 (w.heap.size+1) 4 (.bool false)∧Boxed W7 w1.heap.size 179 (.map (some b))∧Boxed W7 (w1.heap.size+1+1) 182 (.map (some (w1.heap.size+1)))∧W7.heap[D]?=some (.deferred (some []))∧Below w.heap.size w W7 from
      ⟨eI.kept (hbV.block _ (Array.getElem?_eq_some_iff.1 eI).1),em.kept (hbV.block _ em.lt),el.kept (hbV.block _ el.lt),c1,Blk.below e3 hbV e3.lt,c5,(hbV.block _ hKl).trans eK,below_on eB (Nat.le_refl _) hbV⟩)
     have HL7:Hid (leftW W7 rr b=leftW W6 rr b):=by
      show _=_
      rw[leftW_eq HG.out.1 HG.out.2.1,leftW_eq eI em]
     clear eI em el e1 e3 e5 eK eB c5 c1
     rcases hto:(tb==ob)with _|_
     ·have hokE:e.back∈allE p.parcels↔e∉edgesOf p.outer:=by
       rw[←HC.out.1,←HC.out.2.1]
       revert hto
       cases tb<;>cases ob<;>simp
      have HOK:Hid (∀j (hj:j<(edId p.parcels).length),(seen.push i).contains j=true→((edId p.parcels)[j].1.back∈allE p.parcels↔(edId p.parcels)[j].1∉edgesOf p.outer)):=fun j hj hc=>by
       by_cases hji:j=i
       ·subst hji
        rw[←HS.out.1]
        exact hokE
       ·refine HS.out.2.2.2.out j hj ?_
        rw[Array.contains_iff_mem]at hc ⊢
        rcases Array.mem_push.1 hc with h|h
        ·exact h
        ·exact absurd h hji
      clear hokE
      go_wp2_with fail
      go_roundw
      case rel=>exact⟨seen.push i,HG.out.1,HG.out.2.1,HG.out.2.2.1,HG.out.2.2.2.1,HG.out.2.2.2.2.1,HG.out.2.2.2.2.2.1,HG.out.2.2.2.2.2.2.1,HG.out.2.2.2.2.2.2.2,HOK⟩
      case measure=>rw[HL7.out,HL5.out];exact HS.out.2.2.1
     ·have hz:Hid (matchB p=false):=matchB_false fun h=>by
       have h1:=h.2.2 e HS.out.2.1
       rw[←HC.out.1,←HC.out.2.1]at h1
       revert hto h1
       cases tb<;>cases ob<;>simp
      go_wp2_with fail
      have hKf:(W7.setCell ⟨w.heap.size+1,0,none⟩ (.bool false)).heap[D]?=some (.deferred (some [])):=by
       rw[Below.heap_setCell _ _ _ D (by simp only;omega)]
       exact HG.out.2.2.2.2.2.2.1
      refine⟨by simp,.inl ⟨_,_,rfl,run_takeDeferred hKf,?_⟩⟩
      have hc5:=cell_kept (HG.out.2.2.2.1.set (.bool false)).cell (grownBy_putObj' _ D (.deferred none)) (fun r e=>by cases e;exact⟨_,hKf,rfl⟩)
      refine⟨.bool false,?_,by rw[hz.out],(HG.out.2.2.2.2.2.2.2.setCell (p:=⟨w.heap.size+1,0,none⟩) (by simp) _).trans (belowK_b (w:=w) (Nat.le_refl _) _ D _ _ (by omega) hKf rfl rfl)⟩
      simp[results,Tryz.results92,go_sem,hc5]
 case stop=>
  rintro D c pre W hD _ ⟨⟨rfl,hno,d1⟩,dB⟩ hK
  have hs:Hid (matchB p=false):=matchB_false fun h=>hno h.2.1
  have i3:=d1.cell
  gi_wp2
  refine⟨by simp,.inl ⟨_,_,rfl,run_takeDeferred hK,?_⟩⟩
  have hc5:=cell_kept i3 (grownBy_putObj' _ D (.deferred none)) (fun r e=>by cases e;exact⟨_,hK,rfl⟩)
  refine⟨.bool false,?_,by rw[hs.out],dB.trans (belowK_b (w:=w) (Nat.le_refl _) W D _ _ (by omega) hK rfl rfl)⟩
  simp[results,Tryz.results92,go_sem,hc5]
end Go.Proofs.YtpkeacnacjnlcaaGreat
namespace Go.Proofs.YtpkeacnacjnlcaaGreat
open Go.RowKit Go.Lib
set_option maxRecDepth 100000 in
set_option maxHeartbeats 3200000 in
theorem apart_any (e f:Ed) (w:World) (he:good e.a=true∧good e.b=true) (hf:good f.a=true∧good f.b=true) (hne:e≠f):
 Calls Tryz.prog 149 #[.agg #[.int .i64 e.a.x,.int .i64 e.a.y,.int .i64 e.b.x,.int .i64 e.b.y],.agg #[.int .i64 f.a.x,.int .i64 f.a.y,.int .i64 f.b.x,.int .i64 f.b.y]] w fun r w'=>r= .returned (.bool (apartB e f))∧Below w.heap.size w w':=by
 have b1:Blk ((w.alloc (.cells #[.int .i64 e.a.x,.int .i64 e.a.y,.int .i64 e.b.x,.int .i64 e.b.y] 76)).alloc (.cells #[.int .i64 f.a.x,.int .i64 f.a.y,.int .i64 f.b.x,.int .i64 f.b.y] 76)) w.heap.size 76 #[.int .i64 e.a.x,.int .i64 e.a.y,.int .i64 e.b.x,.int .i64 e.b.y]:=Blk.alloc (Blk.new w _ _) _
 have b2:=Blk.new (w.alloc (.cells #[.int .i64 e.a.x,.int .i64 e.a.y,.int .i64 e.b.x,.int .i64 e.b.y] 76)) 76 #[.int .i64 f.a.x,.int .i64 f.a.y,.int .i64 f.b.x,.int .i64 f.b.y]
 rw[World.size_alloc]at b2
 have hB:Below w.heap.size w ((w.alloc (.cells #[.int .i64 e.a.x,.int .i64 e.a.y,.int .i64 e.b.x,.int .i64 e.b.y] 76)).alloc (.cells #[.int .i64 f.a.x,.int .i64 f.a.y,.int .i64 f.b.x,.int .i64 f.b.y] 76)):=((Below.refl _ _).alloc (Nat.le_refl _) _).alloc (by simp) _
 have kM:=fun V=>meet_any e.a e.b f.a f.b V he.1 he.2 hf.1 hf.2
 have hmk:meetP e.a e.b f.a f.b=meetE e f:=meet_eq he.1 he.2 hf.1 hf.2
 rw[hmk]at kM
 have hab:apartB e f=if meetE e f=0 then true else if meetE e f=1 then(decide (e.a=f.a)||(decide (e.a=f.b)||(decide (e.b=f.a)||decide (e.b=f.b))))else decide (meetE e f=3)&&decide (e=f.back):=by
  unfold apartB shareB
  rw[decide_eq_false hne,Bool.false_or]
 have hp1:=fun W=>(eqPt_runs (e.a) (f.a) .eql (.tmp 0) (.tmp 0) W).1
 have hq1:=fun op x y W=>(eqPt_runs (e.a) (f.a) op x y W).2
 have hp2:=fun W=>(eqPt_runs (e.a) (f.b) .eql (.tmp 0) (.tmp 0) W).1
 have hq2:=fun op x y W=>(eqPt_runs (e.a) (f.b) op x y W).2
 have hp3:=fun W=>(eqPt_runs (e.b) (f.a) .eql (.tmp 0) (.tmp 0) W).1
 have hq3:=fun op x y W=>(eqPt_runs (e.b) (f.a) op x y W).2
 have hp4:=fun W=>(eqPt_runs (e.b) (f.b) .eql (.tmp 0) (.tmp 0) W).1
 have hq4:=fun op x y W=>(eqPt_runs (e.b) (f.b) op x y W).2
 have hu1:=fun W=>by have h:=(eqEd_runs .eql (.tmp 0) (.tmp 0) e f W).1;rw[decide_eq_false hne]at h;exact h
 have hu2:=fun W=>(eqEd_runs .eql (.tmp 0) (.tmp 0) e f.back W).1
 have hv1:=fun op x y W=>eqGuard_ed op x y e f W
 have hv2:=fun op x y W=>eqGuard_ed op x y e f.back W
 have kT:=fun V=>turnedEd_any f V
 unfold encE at hu1 hu2 hv1 hv2
 unfold Ed.back at hu2 hv2
 unfold ptV at kM
 have hk:=meetE_cases e f
 have HAB:=Lib.hid hab
 clear hab hmk he hf hne
 obtain⟨k,hkk⟩:∃k,k=meetE e f:=⟨_,rfl⟩
 have HKK:=Lib.hid hkk
 rw[←hkk]at kM hk
 clear hkk
 generalize hc1:decide (e.a=f.a)=b1' at hp1
 generalize hc2:decide (e.a=f.b)=b2' at hp2
 generalize hc3:decide (e.b=f.a)=b3' at hp3
 generalize hc4:decide (e.b=f.b)=b4' at hp4
 generalize hc5:decide (e=(⟨f.b,f.a⟩:Ed))=b5 at hu2
 have HR:Hid (apartB e f=if k=0 then true else if k=1 then(b1'||(b2'||(b3'||b4')))else decide (k=3)&&b5):=by
  show _=_
  rw[HAB.out,←HKK.out,hc1,hc2,hc3,hc4]
  unfold Ed.back
  rw[hc5]
 clear HAB HKK hc1 hc2 hc3 hc4 hc5
 have HB0:=Lib.hid (And.intro hB (And.intro b1 b2))
 have x1:((w.alloc (.cells #[.int .i64 e.a.x,.int .i64 e.a.y,.int .i64 e.b.x,.int .i64 e.b.y] 76)).alloc (.cells #[.int .i64 f.a.x,.int .i64 f.a.y,.int .i64 f.b.x,.int .i64 f.b.y] 76)).heap.size=w.heap.size+2:=by simp
 clear hB b1 b2 x1
 go_enter Tryz.func149,Tryz.ntmps149
 go_wp2_with fail
 refine(kM _).mono ?_
 rintro r W1 ⟨rfl,hb1⟩
 have b1:=Blk.below HB0.out.2.1 hb1 (Blk.lt HB0.out.2.1)
 have b2:=Blk.below HB0.out.2.2 hb1 (Blk.lt HB0.out.2.2)
 have HB:=Lib.hid (below_on HB0.out.1 (Nat.le_refl _) hb1)
 have c1:W1.cell? ⟨w.heap.size,0,none⟩=some (.int .i64 e.a.x):=by rw[Blk.cell b1 0];rfl
 have c2:W1.cell? ⟨w.heap.size,1,none⟩=some (.int .i64 e.a.y):=by rw[Blk.cell b1 1];rfl
 have c3:W1.cell? ⟨w.heap.size,2,none⟩=some (.int .i64 e.b.x):=by rw[Blk.cell b1 2];rfl
 have c4:W1.cell? ⟨w.heap.size,3,none⟩=some (.int .i64 e.b.y):=by rw[Blk.cell b1 3];rfl
 have d1:W1.cell? ⟨w.heap.size+1,0,none⟩=some (.int .i64 f.a.x):=by rw[Blk.cell b2 0];rfl
 have d2:W1.cell? ⟨w.heap.size+1,1,none⟩=some (.int .i64 f.a.y):=by rw[Blk.cell b2 1];rfl
 have d3:W1.cell? ⟨w.heap.size+1,2,none⟩=some (.int .i64 f.b.x):=by rw[Blk.cell b2 2];rfl
 have d4:W1.cell? ⟨w.heap.size+1,3,none⟩=some (.int .i64 f.b.y):=by rw[Blk.cell b2 3];rfl
 have HL:=Lib.hid (And.intro b1 b2)
 clear b1 b2 HB0 kM hb1
 rcases hk with rfl|rfl|rfl|rfl
 ·clear hp1 hp2 hp3 hp4 hq1 hq2 hq3 hq4 hu1 hu2 hv1 hv2 kT
  go_wp2_with fail
  go_ret
  exact⟨by rw[HR.out];rfl,HB.out⟩
 ·clear hu1 hu2 hv1 hv2 kT
  rcases b1' with _|_
  ·rcases b2' with _|_
   ·rcases b3' with _|_
    ·rcases b4' with _|_
     ·go_wp2_with fail
      go_ret
      exact⟨by rw[HR.out];rfl,HB.out⟩
     ·go_wp2_with fail
      go_ret
      exact⟨by rw[HR.out];rfl,HB.out⟩
    ·go_wp2_with fail
     go_ret
     exact⟨by rw[HR.out];rfl,HB.out⟩
   ·go_wp2_with fail
    go_ret
    exact⟨by rw[HR.out];rfl,HB.out⟩
  ·go_wp2_with fail
   go_ret
   exact⟨by rw[HR.out];rfl,HB.out⟩
 ·have hP0:W1.drew.cell? ⟨w.heap.size,0,none⟩=some (.int .i64 e.a.x)∧W1.drew.cell? ⟨w.heap.size,1,none⟩=some (.int .i64 e.a.y)∧W1.drew.cell? ⟨w.heap.size,2,none⟩=some (.int .i64 e.b.x)∧W1.drew.cell? ⟨w.heap.size,3,none⟩=some (.int .i64 e.b.y)∧W1.drew.cell? ⟨w.heap.size+1,0,none⟩=some (.int .i64 f.a.x)∧W1.drew.cell? ⟨w.heap.size+1,1,none⟩=some (.int .i64 f.a.y)∧W1.drew.cell? ⟨w.heap.size+1,2,none⟩=some (.int .i64 f.b.x)∧W1.drew.cell? ⟨w.heap.size+1,3,none⟩=some (.int .i64 f.b.y)∧Below W1.heap.size W1 W1.drew:=⟨c1,c2,c3,c4,d1,d2,d3,d4,(Below.refl _ _).drew⟩
  clear hp1 hp2 hp3 hp4 hq1 hq2 hq3 hq4 kT
  go_wp2_with fail
  refine wp_region_held_drew (S:=fun V=>V.cell? ⟨w.heap.size,0,none⟩=some (.int .i64 e.a.x)∧V.cell? ⟨w.heap.size,1,none⟩=some (.int .i64 e.a.y)∧V.cell? ⟨w.heap.size,2,none⟩=some (.int .i64 e.b.x)∧V.cell? ⟨w.heap.size,3,none⟩=some (.int .i64 e.b.y)∧V.cell? ⟨w.heap.size+1,0,none⟩=some (.int .i64 f.a.x)∧V.cell? ⟨w.heap.size+1,1,none⟩=some (.int .i64 f.a.y)∧V.cell? ⟨w.heap.size+1,2,none⟩=some (.int .i64 f.b.x)∧V.cell? ⟨w.heap.size+1,3,none⟩=some (.int .i64 f.b.y)∧Below W1.heap.size W1 V) (by kernel_rfl) ?_ (fun hHeld=>?_)
  ·exact hP0
  refine tk 0 ?_
  refine tk 1 ?_
  refine tk 2 ?_
  refine tu 3 ?_
  refine tu 4 ?_
  refine tu 5 ?_
  refine tu 6 ?_
  refine tu 7 ?_
  refine tu 8 ?_
  refine tu 9 ?_
  refine tu 10 ?_
  refine tu 11 ?_
  refine tk 12 ?_
  refine tk 13 ?_
  refine wpAnyH_done (by kernel_rfl) ?_ _
  clear hP0
  go_wp2_with fail
  go_ret
  exact⟨by rw[HR.out];rfl,HB.out.drew⟩
 ·have hS:∀V,Below W1.heap.size W1 V→V.cell? ⟨w.heap.size,0,none⟩=some (.int .i64 e.a.x)∧V.cell? ⟨w.heap.size,1,none⟩=some (.int .i64 e.a.y)∧V.cell? ⟨w.heap.size,2,none⟩=some (.int .i64 e.b.x)∧V.cell? ⟨w.heap.size,3,none⟩=some (.int .i64 e.b.y)∧V.cell? ⟨w.heap.size+1,0,none⟩=some (.int .i64 f.a.x)∧V.cell? ⟨w.heap.size+1,1,none⟩=some (.int .i64 f.a.y)∧V.cell? ⟨w.heap.size+1,2,none⟩=some (.int .i64 f.b.x)∧V.cell? ⟨w.heap.size+1,3,none⟩=some (.int .i64 f.b.y)∧Below W1.heap.size W1 V:=fun V hb=>by
   have h1:=Blk.below HL.out.1 hb (Blk.lt HL.out.1)
   have h2:=Blk.below HL.out.2 hb (Blk.lt HL.out.2)
   exact⟨by rw[Blk.cell h1 0];rfl,by rw[Blk.cell h1 1];rfl,by rw[Blk.cell h1 2];rfl,by rw[Blk.cell h1 3];rfl,by rw[Blk.cell h2 0];rfl,by rw[Blk.cell h2 1];rfl,by rw[Blk.cell h2 2];rfl,by rw[Blk.cell h2 3];rfl,hb⟩
  have hP0:=hS W1.drew (Below.refl _ _).drew
  have hStep:∀V V',(V.cell? ⟨w.heap.size,0,none⟩=some (.int .i64 e.a.x)∧V.cell? ⟨w.heap.size,1,none⟩=some (.int .i64 e.a.y)∧V.cell? ⟨w.heap.size,2,none⟩=some (.int .i64 e.b.x)∧V.cell? ⟨w.heap.size,3,none⟩=some (.int .i64 e.b.y)∧V.cell? ⟨w.heap.size+1,0,none⟩=some (.int .i64 f.a.x)∧V.cell? ⟨w.heap.size+1,1,none⟩=some (.int .i64 f.a.y)∧V.cell? ⟨w.heap.size+1,2,none⟩=some (.int .i64 f.b.x)∧V.cell? ⟨w.heap.size+1,3,none⟩=some (.int .i64 f.b.y)∧Below W1.heap.size W1 V)→Below V.heap.size V V'→(V'.cell? ⟨w.heap.size,0,none⟩=some (.int .i64 e.a.x)∧V'.cell? ⟨w.heap.size,1,none⟩=some (.int .i64 e.a.y)∧V'.cell? ⟨w.heap.size,2,none⟩=some (.int .i64 e.b.x)∧V'.cell? ⟨w.heap.size,3,none⟩=some (.int .i64 e.b.y)∧V'.cell? ⟨w.heap.size+1,0,none⟩=some (.int .i64 f.a.x)∧V'.cell? ⟨w.heap.size+1,1,none⟩=some (.int .i64 f.a.y)∧V'.cell? ⟨w.heap.size+1,2,none⟩=some (.int .i64 f.b.x)∧V'.cell? ⟨w.heap.size+1,3,none⟩=some (.int .i64 f.b.y)∧Below W1.heap.size W1 V'):=fun V V' h hb=>hS V' (below_on h.2.2.2.2.2.2.2.2 (Nat.le_refl _) hb)
  have hLst:∀V,(V.cell? ⟨w.heap.size,0,none⟩=some (.int .i64 e.a.x)∧V.cell? ⟨w.heap.size,1,none⟩=some (.int .i64 e.a.y)∧V.cell? ⟨w.heap.size,2,none⟩=some (.int .i64 e.b.x)∧V.cell? ⟨w.heap.size,3,none⟩=some (.int .i64 e.b.y)∧V.cell? ⟨w.heap.size+1,0,none⟩=some (.int .i64 f.a.x)∧V.cell? ⟨w.heap.size+1,1,none⟩=some (.int .i64 f.a.y)∧V.cell? ⟨w.heap.size+1,2,none⟩=some (.int .i64 f.b.x)∧V.cell? ⟨w.heap.size+1,3,none⟩=some (.int .i64 f.b.y)∧Below W1.heap.size W1 V)→Below W1.heap.size W1 V:=fun V h=>h.2.2.2.2.2.2.2.2
  have HLST:=Lib.hid hLst
  clear hp1 hp2 hp3 hp4 hq1 hq2 hq3 hq4 hS hLst
  go_wp2_with fail
  go_region_held3 (fun V=>V.cell? ⟨w.heap.size,0,none⟩=some (.int .i64 e.a.x)∧V.cell? ⟨w.heap.size,1,none⟩=some (.int .i64 e.a.y)∧V.cell? ⟨w.heap.size,2,none⟩=some (.int .i64 e.b.x)∧V.cell? ⟨w.heap.size,3,none⟩=some (.int .i64 e.b.y)∧V.cell? ⟨w.heap.size+1,0,none⟩=some (.int .i64 f.a.x)∧V.cell? ⟨w.heap.size+1,1,none⟩=some (.int .i64 f.a.y)∧V.cell? ⟨w.heap.size+1,2,none⟩=some (.int .i64 f.b.x)∧V.cell? ⟨w.heap.size+1,3,none⟩=some (.int .i64 f.b.y)∧Below W1.heap.size W1 V)
   (first|with_reducible exact hP0|with_reducible assumption|with_reducible exact hStep _ _ (by assumption) (by assumption))
   (first
     |(go_simp;go_at_call 144;(with_reducible refine(kT _).mono ?_);rintro r w' ⟨rfl,hb'⟩;try dsimp only))
  all_goals
   clear hP0 hStep
   go_wp2_with fail
   go_ret
   exact⟨by rw[HR.out];rfl,below_on HB.out (Nat.le_refl _) (HLST.out _ (by assumption))⟩
end Go.Proofs.YtpkeacnacjnlcaaGreat
