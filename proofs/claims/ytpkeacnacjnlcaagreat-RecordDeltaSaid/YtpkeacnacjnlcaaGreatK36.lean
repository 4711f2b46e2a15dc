/- Of a sound plan no item's key stands twice; the order of those that are read. Plain laws. -/
import Derived.Test.YtpkeacnacjnlcaaGreatK20
import Derived.Test.YtpkeacnacjnlcaaGreatK27
import Derived.Test.YtpkeacnacjnlcaaGreatK32
import Derived.Test.YtpkeacnacjnlcaaGreatK34
namespace Go.Proofs.YtpkeacnacjnlcaaGreat
/-- What the records' laws ask of a plan: all sound ones have it. -/
structure RecOK (p:Plan):Prop where
 out:(∀q∈p.outer,good q=true)∧p.outer.length≤128
 pcs:∀x∈p.parcels,idB x.id=true∧(∀q∈x.ring,good q=true)∧x.ring.length≤128
 ids:p.parcels.Pairwise (fun x y=>x.id<y.id)
 eds:(allE p.parcels).Nodup
theorem listN_ids:∀ {n:Nat} {l:Int} {ps:List Parc},listN n l ps=true→∀x∈ps,idB x.id=true
 |_,_,[],_,x,hx=>absurd hx (by simp)
 |n,l,y::ps,h,x,hx=>by
  unfold listN at h
  simp only[Bool.and_eq_true]at h
  rcases List.mem_cons.1 hx with rfl|hx
  ·exact h.1
  ·exact listN_ids h.2.2.2.2 x hx
theorem recOK_sound {p:Plan} (h:SoundP p):RecOK p:=by
 have ho:=sound_ring h (.inl rfl)
 refine⟨⟨fun q hq=>goodL_mem ho.1 hq,ho.2.1⟩,fun x hx=>?_,listed_pw h.1,h.2.2.2.1.1⟩
 have hr:=sound_ring h (.inr ⟨x,hx,rfl⟩)
 have hl:=h.1
 unfold listedB at hl
 simp only[Bool.and_eq_true]at hl
 exact⟨listN_ids hl.1 x hx,fun q hq=>goodL_mem hr.1 hq,hr.2.1⟩
theorem ptAt_in {xs:List Pt} (h:∀q∈xs,good q=true) {k:Nat} (hk:k<xs.length):good (ptAt xs k)=true:=h _ (ptAt_mem hk)
theorem edgK_good {xs:List Pt} (h:∀q∈xs,good q=true) {e:Ed} (he:e∈edgesOf xs):good e.a=true∧good e.b=true:=by
 obtain⟨k,hk,rfl⟩:=edgesOf_at he
 exact⟨ptAt_in h hk,ptAt_in h (Nat.mod_lt _ (by omega))⟩
theorem cellsL_key {xs:List Pt} {c:Pt} (h:c∈cellsL xs): -4≤c.x∧c.x≤4∧ -4≤c.y∧c.y≤4:=by
 unfold cellsL at h
 split at h
 ·exact cell_key h
 ·simp at h
theorem cellsL_nodup (xs:List Pt):(cellsL xs).Nodup:=by
 unfold cellsL
 split
 ·exact spanC_nodup _
 ·exact List.nodup_nil
theorem par_keys {x:Parc} {k:List UInt8} (h:k∈(parIts x).map (·.k)):(∃c,k=pcHead x.id++[c])∨(∃e∈edgesOf x.ring,k=edgKy e)∨∃c∈cellsL x.ring,k=clKey x.id c:=by
 obtain⟨i,hi,rfl⟩:=List.mem_map.1 h
 unfold parIts at hi
 rcases List.mem_append.1 hi with hi|hi
 ·rcases List.mem_cons.1 hi with rfl|hi
  ·exact .inl ⟨_,rfl⟩
  ·obtain⟨k,-,rfl⟩:=List.mem_map.1 hi
   exact .inl ⟨_,rfl⟩
 ·rcases List.mem_append.1 hi with hi|hi
  ·obtain⟨e,he,rfl⟩:=List.mem_map.1 hi
   exact .inr (.inl ⟨e,he,rfl⟩)
  ·obtain⟨c,hc,rfl⟩:=List.mem_map.1 hi
   exact .inr (.inr ⟨c,hc,rfl⟩)
theorem clKey_inj {i j:Int} {c d:Pt} (hc: -4≤c.x∧c.x≤4∧ -4≤c.y∧c.y≤4) (hd: -4≤d.x∧d.x≤4∧ -4≤d.y∧d.y≤4) (h:clKey i c=clKey j d):c=d∧idBy i=idBy j:=by
 unfold clKey at h
 have h1:=(List.cons.inj h).2
 have h2:=List.cons.inj h1
 have h3:=List.cons.inj h2.2
 have e1:=congrArg UInt8.toNat h2.1
 have e2:=congrArg UInt8.toNat h3.1
 simp only[UInt8.toNat_ofNat']at e1 e2
 rcases c with ⟨a,b⟩
 rcases d with ⟨a',b'⟩
 simp only at *
 exact⟨by rw[show a=a' by omega,show b=b' by omega],h3.2⟩
theorem parOP_nodup {x:Parc} (hl:x.ring.length≤128):((parOP x).map (·.k)).Nodup:=by
 unfold parOP
 rw[List.map_cons,List.nodup_cons]
 refine⟨fun h=>?_,ringIts_nodup _ _ _ hl (Nat.le_refl 1)⟩
 rw[ringIts_keys]at h
 obtain⟨k,hk,e⟩:=List.mem_map.1 h
 have hk:=List.mem_range.1 hk
 have hc:=chkN_le (n:=x.ring.length) (m:=8) (by omega)
 have e1:=congrArg UInt8.toNat (List.cons.inj (List.append_cancel_left e)).1
 simp only[UInt8.toNat_ofNat']at e1
 simp at e1
 omega
theorem parIts_eq (x:Parc):parIts x=parOP x++((edgesOf x.ring).map (fun e=>⟨edgKy e,idBy x.id⟩)++(cellsL x.ring).map (fun c=>⟨clKey x.id c,[]⟩)):=rfl
theorem parIts_nodup {x:Parc} (hg:∀q∈x.ring,good q=true) (hl:x.ring.length≤128) (he:(edgesOf x.ring).Nodup):((parIts x).map (·.k)).Nodup:=by
 rw[parIts_eq,List.map_append,List.map_append,List.map_map,List.map_map,List.nodup_append,List.nodup_append]
 refine⟨parOP_nodup hl,⟨?_,?_,?_⟩,?_⟩
 ·refine nodup_map_inj he fun e h1 f h2 e3=>?_
  obtain⟨g1,g2⟩:=edgK_good hg h1
  obtain⟨g3,g4⟩:=edgK_good hg h2
  exact edgKy_inj g1 g2 g3 g4 e3
 ·exact nodup_map_inj (cellsL_nodup _) fun c h1 d h2 e3=>(clKey_inj (cellsL_key h1) (cellsL_key h2) e3).1
 ·intro a ha b hb e
  obtain⟨u,-,rfl⟩:=List.mem_map.1 ha
  obtain⟨v,-,rfl⟩:=List.mem_map.1 hb
  exact absurd (List.cons.inj e).1 (by decide)
 ·intro a ha b hb e
  have h1:a.head?=some 112:=by
   obtain⟨i,hi,rfl⟩:=List.mem_map.1 ha
   unfold parOP at hi
   rcases List.mem_cons.1 hi with rfl|hi
   ·rfl
   ·obtain⟨k,-,rfl⟩:=List.mem_map.1 hi
    rfl
  have h2:b.head?=some 101∨b.head?=some 99:=by
   rcases List.mem_append.1 hb with hb|hb
   ·obtain⟨v,-,rfl⟩:=List.mem_map.1 hb
    exact .inl rfl
   ·obtain⟨v,-,rfl⟩:=List.mem_map.1 hb
    exact .inr rfl
  rw[e]at h1
  rw[h1]at h2
  revert h2
  decide
theorem planIts_nodup {p:Plan} (h:RecOK p):((planIts p).map (·.k)).Nodup:=by
 unfold planIts
 rw[List.map_append,List.map_flatMap,List.nodup_append]
 refine⟨ringIts_nodup _ _ _ h.out.2 (Nat.zero_le 1),?_,?_⟩
 ·have hE:=h.eds
  unfold allE at hE
  unfold List.Nodup at hE ⊢
  rw[List.pairwise_flatMap]at hE ⊢
  refine⟨fun x hx=>parIts_nodup (h.pcs x hx).2.1 (h.pcs x hx).2.2 (hE.1 x hx),?_⟩
  have hb:=List.pairwise_and_iff.2 ⟨h.ids,hE.2⟩
  refine List.Pairwise.imp_of_mem (fun {x y} hx hy hxy=>?_) hb
  intro a ha b hb e
  subst e
  have hne:x.id≠y.id:=by omega
  have hni:idBy x.id≠idBy y.id:=fun e=>hne (idBy_inj (h.pcs x hx).1 (h.pcs y hy).1 e)
  rcases par_keys ha with ⟨c,e1⟩|⟨e,he,e1⟩|⟨c,hc,e1⟩<;>rcases par_keys hb with ⟨d,e2⟩|⟨f,hf,e2⟩|⟨d,hd,e2⟩
  ·rw[e1]at e2
   have:=(List.append_inj e2 (by unfold pcHead;rw[List.length_cons,List.length_cons,idBy_len,idBy_len])).1
   exact hni (List.cons.inj this).2
  ·rw[e1]at e2;exact absurd (List.cons.inj e2).1 (by decide)
  ·rw[e1]at e2;exact absurd (List.cons.inj e2).1 (by decide)
  ·rw[e1]at e2;exact absurd (List.cons.inj e2).1 (by decide)
  ·rw[e1]at e2
   obtain⟨g1,g2⟩:=edgK_good (h.pcs x hx).2.1 he
   obtain⟨g3,g4⟩:=edgK_good (h.pcs y hy).2.1 hf
   exact hxy.2 e he f hf (edgKy_inj g1 g2 g3 g4 e2)
  ·rw[e1]at e2;exact absurd (List.cons.inj e2).1 (by decide)
  ·rw[e1]at e2;exact absurd (List.cons.inj e2).1 (by decide)
  ·rw[e1]at e2;exact absurd (List.cons.inj e2).1 (by decide)
  ·rw[e1]at e2;exact hni (clKey_inj (cellsL_key hc) (cellsL_key hd) e2).2
 ·intro a ha b hb e
  have h1:a.head?=some 111:=by
   rw[ringIts_keys]at ha
   obtain⟨k,-,rfl⟩:=List.mem_map.1 ha
   rfl
  obtain⟨x,-,hb⟩:=List.mem_flatMap.1 hb
  rw[e]at h1
  rcases par_keys hb with ⟨d,e2⟩|⟨f,hf,e2⟩|⟨d,hd,e2⟩<;>rw[e2]at h1<;>revert h1<;>simp[pcHead,edgKy,clKey]
end Go.Proofs.YtpkeacnacjnlcaaGreat
