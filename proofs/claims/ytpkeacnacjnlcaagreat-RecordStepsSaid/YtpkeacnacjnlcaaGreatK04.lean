/- Sorting by insertion: the words about a row of numbers (split off XChanged). -/
import Derived.Test.YtpkeacnacjnlcaaGreatK01
namespace Go.Proofs.YtpkeacnacjnlcaaGreat
open Go.RowKit Go.Lib
theorem getD_put {L:List Int} {j:Nat} (hj:j<L.length) (v:Int) (a:Nat):(L.set j v).getD a 0=if a=j then v else L.getD a 0:=by
 simp only[List.getD_eq_getElem?_getD,List.getElem?_set]
 by_cases h:a=j
 ·subst h;simp[hj]
 ·simp[h,Ne.symm h]
def SrtP (L:List Int) (k:Nat):Prop:=∀a b,a<b→b<k→L.getD a 0≤L.getD b 0
def SrtJ (L:List Int) (i j:Nat):Prop:=∀a b,a<b→b≤i→b≠j→L.getD a 0≤L.getD b 0
def swI (L:List Int) (j:Nat):List Int:=(L.set j (L.getD (j-1) 0)).set (j-1) (L.getD j 0)
theorem swI_len (L:List Int) (j:Nat):(swI L j).length=L.length:=by simp[swI]
theorem swI_perm {L:List Int} {j:Nat} (hj:j<L.length):(swI L j).Perm L:=by
 have h1:j-1<L.length:=by omega
 have:=List.set_set_perm hj h1
 unfold swI
 rw[List.getD_eq_getElem?_getD,List.getD_eq_getElem?_getD,List.getElem?_eq_getElem hj,List.getElem?_eq_getElem h1]
 exact this
theorem srt_start {L:List Int} {k:Nat} (h:SrtP L k):SrtJ L k k:=fun a b hab hb hne=>h a b hab (by omega)
theorem srt_swap {L:List Int} {i j:Nat} (hj:0<j) (hi:i<L.length) (hji:j≤i) (h:SrtJ L i j) (hgt:L.getD j 0<L.getD (j-1) 0):SrtJ (swI L j) i (j-1):=by
 intro a b hab hb hne
 have e:∀c,(swI L j).getD c 0=if c=j-1 then L.getD j 0 else if c=j then L.getD (j-1) 0 else L.getD c 0:=fun c=>by
  unfold swI
  rw[getD_put (by simp;omega),getD_put (by omega)]
 rw[e,e]
 by_cases c1:b=j
 ·subst c1
  by_cases c2:a=b-1
  ·rw[if_pos c2,if_neg hne,if_pos rfl];omega
  ·have:=h a (b-1) (by omega) (by omega) (by omega)
   rw[if_neg c2,if_neg (show a≠b by omega),if_neg hne,if_pos rfl]
   exact this
 ·rw[if_neg hne,if_neg c1]
  by_cases c2:a=j-1
  ·rw[if_pos c2];exact h j b (by omega) hb c1
  ·rw[if_neg c2]
   by_cases c3:a=j
   ·rw[if_pos c3];exact h (j-1) b (by omega) hb c1
   ·rw[if_neg c3];exact h a b hab hb c1
theorem srt_end {L:List Int} {i j:Nat} (hji:j≤i) (h:SrtJ L i j) (hgt:j=0∨L.getD (j-1) 0≤L.getD j 0):SrtP L (i+1):=by
 intro a b hab hb
 by_cases c:b=j
 ·subst c
  rcases hgt with h0|h1
  ·omega
  ·by_cases c2:a=b-1
   ·rw[c2];exact h1
   ·exact Int.le_trans (h a (b-1) (by omega) (by omega) (by omega)) h1
 ·exact h a b hab (by omega) c
theorem srt_pair {L:List Int} (h:SrtP L L.length):L.Pairwise (· ≤ ·):=by
 rw[List.pairwise_iff_getElem]
 intro i j hi hj hij
 have:=h i j hij hj
 rwa [List.getD_eq_getElem?_getD,List.getD_eq_getElem?_getD,List.getElem?_eq_getElem hi,List.getElem?_eq_getElem hj]at this
theorem at_g {V:World} {g j:Nat} {u:Value} (h:V.cell? (Addr.add ⟨g,0,none⟩ j)=some u):V.cell? ⟨g,j,none⟩=some u:=by
 have e:Addr.add ⟨g,0,none⟩ j=⟨g,j,none⟩:=by unfold Addr.add;split<;>simp_all
 rwa [e]at h
end Go.Proofs.YtpkeacnacjnlcaaGreat
