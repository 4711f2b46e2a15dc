/- plan.first: the walk. -/
import Derived.Test.YtpkeacnacjnlcaaGreatK16
import Derived.Test.YtpkeacnacjnlcaaGreatK17
import Derived.Test.YtpkeacnacjnlcaaGreatK33
namespace Go.Proofs.YtpkeacnacjnlcaaGreat
open Go.RowKit Go.Lib
def encI (z:Int):Value:= .int .i64 z
/-- The map of the first k parcels' firsts. -/
structure FirM (ps:List Parc) (B k:Nat) (W:World) (L:List (Int×Value)):Prop where
 keys:(L.map (·.1)).Nodup
 none_:∀z,look L z=none↔∀j,j<k→(pcAt ps j).id≠z
 some_:∀z (j:Nat),j<k→atP ps z=(j:Int)→∃Ax nx cx,look L z=some (pcVal (pcAt ps j) Ax nx cx)∧Reads W B 2 Ax nx (ptsV (pcAt ps j).ring)∧nx≤cx∧cx≤9223372036854775807
theorem FirM.below {ps:List Parc} {B k:Nat} {W W':World} {L:List (Int×Value)} (h:FirM ps B k W L) (hb:Below B W W'):FirM ps B k W' L:=
 ⟨h.keys,h.none_,fun z j hj ha=>by obtain⟨Ax,nx,cx,h1,h2,h3⟩:=h.some_ z j hj ha;exact⟨Ax,nx,cx,h1,h2.below hb,h3⟩⟩
theorem FirM.zero (ps:List Parc) (B:Nat) (W:World):FirM ps B 0 W []:=⟨List.nodup_nil,fun _=>⟨fun _ _ hj=>absurd hj (Nat.not_lt_zero _),fun _=>rfl⟩,fun _ _ hj=>absurd hj (Nat.not_lt_zero _)⟩
theorem atP_first {ps:List Parc} {k:Nat} (hk:k<ps.length):∃j:Nat,j≤k∧atP ps (pcAt ps k).id=(j:Int)∧(pcAt ps j).id=(pcAt ps k).id∧∀i,i<j→(pcAt ps i).id≠(pcAt ps k).id:=by
 have hex:∃j,j≤k∧(pcAt ps j).id=(pcAt ps k).id∧∀i,i<j→(pcAt ps i).id≠(pcAt ps k).id:=by
  induction k using Nat.strongRecOn with
  |ind k ih=>
   by_cases h:∃i,i<k∧(pcAt ps i).id=(pcAt ps k).id
   ·obtain⟨i,hi,e⟩:=h
    obtain⟨j,h1,h2,h3⟩:=ih i hi (by omega)
    exact⟨j,by omega,h2.trans e,fun t ht=>by rw[←e];exact h3 t ht⟩
   ·exact⟨k,Nat.le_refl _,rfl,fun i hi e=>h ⟨i,hi,e⟩⟩
 obtain⟨j,h1,h2,h3⟩:=hex
 exact⟨j,h1,atP_at (by omega) h2 h3,h2,h3⟩
theorem atP_least {ps:List Parc} {z:Int} {k:Nat} (h:atP ps z=(k:Int)):∀i,i<k→(pcAt ps i).id≠z:=by
 rcases atP_cases ps z with ⟨e,-⟩|⟨t,ht,e,hz⟩
 ·omega
 obtain rfl:t=k:=by omega
 obtain⟨j,h1,h2,h3,h4⟩:=atP_first ht
 rw[hz]at h2 h3 h4
 obtain rfl:j=t:=by omega
 exact h4
/-- One parcel more that has been. -/
theorem FirM.skip {ps:List Parc} {B k:Nat} {W:World} {L:List (Int×Value)} (h:FirM ps B k W L) (hs:look L (pcAt ps k).id≠none):FirM ps B (k+1) W L:=by
 have hx:∃j,j<k∧(pcAt ps j).id=(pcAt ps k).id:=by
  apply Classical.byContradiction
  intro hn
  exact hs ((h.none_ _).2 fun j hj e=>hn ⟨j,hj,e⟩)
 refine⟨h.keys,fun z=>?_,fun z j hj ha=>?_⟩
 ·rw[h.none_]
  refine⟨fun hz j hj e=>?_,fun hz j hj=>hz j (by omega)⟩
  by_cases e2:j=k
  ·subst e2
   obtain⟨i,hi,e3⟩:=hx
   exact hz i hi (e3.trans e)
  ·exact hz j (by omega) e
 ·by_cases e2:j=k
  ·subst e2
   obtain⟨i,hi,e3⟩:=hx
   rcases atP_cases ps z with ⟨e4,-⟩|⟨t,ht,e4,hz⟩
   ·omega
   obtain rfl:t=j:=by omega
   exact absurd (e3.trans hz) (atP_least ha i hi)
  ·exact h.some_ z j (by omega) ha
/-- One parcel more that is the first of its number. -/
theorem FirM.put {ps:List Parc} {B k:Nat} {W:World} {L:List (Int×Value)} (h:FirM ps B k W L) (hs:look L (pcAt ps k).id=none) {Ax:Option Addr} {nx cx:Nat} (hr:Reads W B 2 Ax nx (ptsV (pcAt ps k).ring)) (hc:nx≤cx∧cx≤9223372036854775807):
 FirM ps B (k+1) W (L++[((pcAt ps k).id,pcVal (pcAt ps k) Ax nx cx)]):=by
 have hnk:=look_none.1 hs
 have hn:((L++[((pcAt ps k).id,pcVal (pcAt ps k) Ax nx cx)]).map (·.1)).Nodup:=by
  rw[List.map_append,List.nodup_append]
  refine⟨h.keys,by simp,fun a ha b hb=>?_⟩
  simp at hb
  rintro rfl
  exact hnk (hb▸ha)
 refine⟨hn,fun z=>?_,fun z j hj ha=>?_⟩
 ·rw[look_none,List.map_append,List.mem_append,not_or,←look_none,h.none_]
  simp only[List.map_cons,List.map_nil,List.mem_singleton]
  refine⟨fun ⟨h1,h2⟩ j hj e=>?_,fun hz=>⟨fun j hj=>hz j (by omega),fun e=>hz k (by omega) e.symm⟩⟩
  by_cases e2:j=k
  ·subst e2;exact h2 e.symm
  ·exact h1 j (by omega) e
 ·by_cases e2:j=k
  ·subst e2
   rcases atP_cases ps z with ⟨e4,-⟩|⟨t,ht,e4,hz⟩
   ·omega
   obtain rfl:t=j:=by omega
   exact⟨Ax,nx,cx,look_of hn (by rw[←hz];simp),hr,hc⟩
  ·obtain⟨Ay,ny,cy,h1,h2⟩:=h.some_ z j (by omega) ha
   exact⟨Ay,ny,cy,look_of hn (List.mem_append_left _ (look_mem h1)),h2⟩
theorem FirM.form {ps:List Parc} {B k:Nat} {W:World} {L:List (Int×Value)} (h:FirM ps B k W L) (hk:k≤ps.length) {z:Int} {v:Value} (hv:look L z=some v):∃(j:Nat) (Ax:Option Addr) (nx cx:Nat),j<k∧atP ps z=(j:Int)∧v=pcVal (pcAt ps j) Ax nx cx∧Reads W B 2 Ax nx (ptsV (pcAt ps j).ring)∧nx≤cx∧cx≤9223372036854775807:=by
 have hx:∃j,j<k∧(pcAt ps j).id=z:=by
  apply Classical.byContradiction
  intro hn
  rw[(h.none_ z).2 fun j hj e=>hn ⟨j,hj,e⟩]at hv
  cases hv
 obtain⟨i,hi,rfl⟩:=hx
 obtain⟨j,h1,h2,-,-⟩:=atP_first (show i<ps.length by omega)
 obtain⟨Ax,nx,cx,h3,h4⟩:=h.some_ _ j (by omega) h2
 rw[h3]at hv
 exact⟨j,Ax,nx,cx,by omega,h2,(Option.some.inj hv).symm,h4⟩
end Go.Proofs.YtpkeacnacjnlcaaGreat
