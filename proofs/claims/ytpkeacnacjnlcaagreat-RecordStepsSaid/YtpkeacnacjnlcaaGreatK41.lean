/- What has to be put, and what goes, makes the one's items the other's; in which of them two plans part: plain laws. -/
import Derived.Test.YtpkeacnacjnlcaaGreatK03
import Derived.Test.YtpkeacnacjnlcaaGreatK39
namespace Go.Proofs.YtpkeacnacjnlcaaGreat
/-- The items that stay. -/
def stayL (a put:List It) (gone:List (List UInt8)):List It:=a.filter fun x=>!(decide (x.k∈put.map (·.k))||decide (x.k∈gone))
theorem put_key {a b put:List It} (hp:PutOf a b put) {x y:It} (hy:y∈put) (e:x.k=y.k) (hb:lastV b x.k=some x.v):x=y:=by
 have h:=((hp.2 y).1 hy).1
 rw[←e,hb]at h
 rcases x with ⟨k,v⟩
 rcases y with ⟨k',v'⟩
 simp only at e h
 cases e
 cases h
 rfl
theorem apply_law {a b put:List It} {gone:List (List UInt8)} (ha:(a.map (·.k)).Nodup) (hb:(b.map (·.k)).Nodup) (hp:PutOf a b put) (hg:GoneOf a b gone):(stayL a put gone++put).Perm b:=by
 have nd:∀ {l:List It},(l.map (·.k)).Nodup→l.Nodup:=fun {l} h=>(List.pairwise_map.1 h).imp fun h e=>h (by rw[e])
 have hmem:∀x,x∈stayL a put gone↔x∈a∧x.k∉put.map (·.k)∧x.k∉gone:=fun x=>by
  unfold stayL
  rw[List.mem_filter]
  simp
 refine(List.perm_ext_iff_of_nodup ?_ (nd hb)).2 fun x=>?_
 ·refine List.nodup_append.2 ⟨(nd ha).filter _,nd hp.1.nodup,fun x hx y hy e=>?_⟩
  exact((hmem x).1 hx).2.1 (List.mem_map.2 ⟨y,hy,by rw[e]⟩)
 ·rw[List.mem_append,hmem]
  constructor
  ·rintro(⟨h1,h2,h3⟩|h)
   ·have e1:=lastV_nodup ha h1
    rcases e:lastV b x.k with _|v
    ·exact absurd ((hg.2 x.k).2 ⟨by rw[e1];simp,e⟩) h3
    ·by_cases hv:v=x.v
     ·rw[hv]at e
      exact lastV_mem e
     ·have:(⟨x.k,v⟩:It)∈put:=(hp.2 ⟨x.k,v⟩).2 ⟨e,by rw[e1];intro h;exact hv (Option.some.inj h).symm⟩
      exact absurd (List.mem_map.2 ⟨_,this,rfl⟩) h2
   ·exact lastV_mem ((hp.2 x).1 h).1
  ·intro h
   have e1:=lastV_nodup hb h
   by_cases e:lastV a x.k=some x.v
   ·refine .inl ⟨lastV_mem e,fun hx=>?_,fun hx=>?_⟩
    ·obtain⟨y,hy,ey⟩:=List.mem_map.1 hx
     obtain rfl:=put_key hp hy ey.symm e1
     exact((hp.2 x).1 hy).2 e
    ·have:=((hg.2 x.k).1 hx).2
     rw[e1]at this
     cases this
   ·exact .inr ((hp.2 x).2 ⟨e1,e⟩)
theorem ids_uniq {ps:List Parc} (h:ps.Pairwise (fun x y=>x.id<y.id)) {x y:Parc} (hx:x∈ps) (hy:y∈ps) (e:x.id=y.id):x=y:=by
 induction ps with
 |nil=>simp at hx
 |cons z ps ih=>
  rw[List.pairwise_cons]at h
  rcases List.mem_cons.1 hx with e1|h1
  ·rcases List.mem_cons.1 hy with e2|h2
   ·rw[e1,e2]
   ·have:=h.1 y h2
    rw[e1]at e
    omega
  ·rcases List.mem_cons.1 hy with e2|h2
   ·have:=h.1 x h1
    rw[e2]at e
    omega
   ·exact ih h.2 h1 h2
/-- A parcel whose number is not among those that changed is the same parcel in both. -/
theorem unch {p q:Plan} (hp:RecOK p) {x:Parc} (hx:x∈p.parcels) (h:¬chM p q x.id):x∈q.parcels:=by
 have h0:0≤atP p.parcels x.id:=by
  rcases atP_cases p.parcels x.id with ⟨-,h1⟩|⟨k,-,e,-⟩
  ·exfalso
   obtain⟨j,hj,e⟩:=List.mem_iff_getElem.1 hx
   exact h1 j hj (by rw[pcAt_lt hj,e])
  ·omega
 have h1:¬chA p q x.id:=fun e=>h (.inl ⟨h0,e⟩)
 unfold chA at h1
 rw[not_or]at h1
 obtain⟨j,hj,e1,e2⟩:=atP_has h0
 obtain⟨i,hi,f1,-⟩:=atP_has (ps:=q.parcels) (z:=x.id) (by omega)
 have h2:=h1.2
 rw[Bool.not_eq_false,pcEq_iff,e1,f1,Int.toNat_natCast,Int.toNat_natCast]at h2
 rw[ids_uniq hp.ids hx (pcAt_mem hj) e2.symm,h2]
 exact pcAt_mem hi
/-- Which items of the one are none of the other. -/
theorem part_item {p q:Plan} (hp:RecOK p) {x:It} (hx:x∈planIts p) (hn:x∉planIts q):
 (x.k.getD 0 0=111∧p.outer≠q.outer)∨(x.k.getD 0 0=112∧x.k.length=6∧∃id,idB id=true∧(x.k.drop 1).take 4=idBy id∧chM p q id)∨(x.k.getD 0 0=101)∨(x.k.getD 0 0=99∧x.k.length=7∧∃id,idB id=true∧(x.k.drop 3).take 4=idBy id∧chM p q id):=by
 rcases mem_planIts hx with hm|⟨y,hy,hm⟩
 ·refine .inl ⟨?_,fun e=>hn ?_⟩
  ·obtain⟨k,-,rfl⟩:=List.mem_map.1 hm
   rfl
  ·unfold planIts
   rw[←e]
   exact List.mem_append.2 (.inl hm)
 ·have hid:=(hp.pcs y hy).1
  have hch:chM p q y.id:=by
   by_cases h:chM p q y.id
   ·exact h
   ·exact absurd (in_planIts (unch hp hy h) hm) hn
  rw[parIts_eq]at hm
  rcases List.mem_append.1 hm with hm|hm
  ·obtain⟨c,e⟩:=parOP_head (List.mem_map.2 ⟨x,hm,rfl⟩)
   obtain⟨g1,g2,-⟩:=head_six y.id c
   refine .inr (.inl ⟨by rw[e];exact g2,by rw[e];exact g1,y.id,hid,?_,hch⟩)
   rw[e]
   exact List.take_left' (idBy_len _)
  ·rcases List.mem_append.1 hm with hm|hm
   ·obtain⟨k,-,rfl⟩:=List.mem_map.1 hm
    exact .inr (.inr (.inl rfl))
   ·obtain⟨k,-,rfl⟩:=List.mem_map.1 hm
    refine .inr (.inr (.inr ⟨rfl,by simp[clKey,idBy_len],y.id,hid,?_,hch⟩))
    exact List.take_of_length_le (by show(idBy y.id).length≤4;rw[idBy_len];exact Nat.le_refl _)
/-- Whose a key is that parts them. -/
def partK (p q:Plan) (k:List UInt8):Prop:=(k.getD 0 0=111∧p.outer≠q.outer)∨(k.getD 0 0=112∧k.length=6∧∃id,idB id=true∧(k.drop 1).take 4=idBy id∧chM p q id)∨(k.getD 0 0=101)∨(k.getD 0 0=99∧k.length=7∧∃id,idB id=true∧(k.drop 3).take 4=idBy id∧chM p q id)
theorem parts_law {p q:Plan} (hp:RecOK p) (hq:RecOK q) {a b put:List It} {gone:List (List UInt8)} (ha:a.Perm (planIts p)) (hb:b.Perm (planIts q)) (h1:PutOf a b put) (h2:GoneOf a b gone) {k:List UInt8} (hk:k∈put.map (·.k)∨k∈gone):partK p q k∧1≤k.length:=by
 have na:(a.map (·.k)).Nodup:=((ha.map (·.k)).nodup_iff).2 (planIts_nodup hp)
 have nb:(b.map (·.k)).Nodup:=((hb.map (·.k)).nodup_iff).2 (planIts_nodup hq)
 have len:∀ {k:List UInt8},partK p q k→1≤k.length:=fun {k} h=>by
  rcases k with _|⟨c,t⟩
  ·unfold partK at h
   simp at h
  ·simp
 rcases hk with hk|hk
 ·obtain⟨x,hx,rfl⟩:=List.mem_map.1 hk
  have h3:=(h1.2 x).1 hx
  have h4:x∈planIts q:=(hb.mem_iff).1 (lastV_mem h3.1)
  have h5:x∉planIts p:=fun h=>h3.2 (lastV_nodup na ((ha.mem_iff).2 h))
  have h6:=part_item hq h4 h5
  have:partK p q x.k:=by
   rcases h6 with ⟨e,h⟩|⟨e,h,id,i1,i2,i3⟩|e|⟨e,h,id,i1,i2,i3⟩
   ·exact .inl ⟨e,fun h'=>h h'.symm⟩
   ·exact .inr (.inl ⟨e,h,id,i1,i2,(chM_swap q p id).1 i3⟩)
   ·exact .inr (.inr (.inl e))
   ·exact .inr (.inr (.inr ⟨e,h,id,i1,i2,(chM_swap q p id).1 i3⟩))
  exact⟨this,len this⟩
 ·have h3:=(h2.2 k).1 hk
  rcases e:lastV a k with _|v
  ·exact absurd e h3.1
  ·have h4:(⟨k,v⟩:It)∈planIts p:=(ha.mem_iff).1 (lastV_mem e)
   have h5:(⟨k,v⟩:It)∉planIts q:=fun h=>lastV_none.1 h3.2 _ ((hb.mem_iff).2 h) rfl
   have:partK p q k:=part_item hp h4 h5
   exact⟨this,len this⟩
/-- Where nothing changed nothing parts them. -/
theorem same_law {p q:Plan} (hp:RecOK p) (hq:RecOK q) {a b put:List It} {gone:List (List UInt8)} (ha:a.Perm (planIts p)) (hb:b.Perm (planIts q)) (h1:PutOf a b put) (h2:GoneOf a b gone) (ho:p.outer=q.outer) (hc:∀z,¬chM p q z):put=[]∧gone=[]:=by
 have na:(a.map (·.k)).Nodup:=((ha.map (·.k)).nodup_iff).2 (planIts_nodup hp)
 have hab:∀x,x∈planIts p↔x∈planIts q:=fun x=>by
  constructor
  ·intro h
   rcases mem_planIts h with hm|⟨y,hy,hm⟩
   ·unfold planIts
    rw[←ho]
    exact List.mem_append.2 (.inl hm)
   ·exact in_planIts (unch hp hy (hc _)) hm
  ·intro h
   rcases mem_planIts h with hm|⟨y,hy,hm⟩
   ·unfold planIts
    rw[ho]
    exact List.mem_append.2 (.inl hm)
   ·exact in_planIts (unch hq hy fun h=>hc _ ((chM_swap q p _).1 h)) hm
 constructor
 ·refine List.eq_nil_iff_forall_not_mem.2 fun x hx=>?_
  have h3:=(h1.2 x).1 hx
  exact h3.2 (lastV_nodup na ((ha.mem_iff).2 ((hab x).2 ((hb.mem_iff).1 (lastV_mem h3.1)))))
 ·refine List.eq_nil_iff_forall_not_mem.2 fun k hk=>?_
  have h3:=(h2.2 k).1 hk
  rcases e:lastV a k with _|v
  ·exact absurd e h3.1
  ·exact lastV_none.1 h3.2 _ ((hb.mem_iff).2 ((hab _).1 ((ha.mem_iff).1 (lastV_mem e)))) rfl
end Go.Proofs.YtpkeacnacjnlcaaGreat
