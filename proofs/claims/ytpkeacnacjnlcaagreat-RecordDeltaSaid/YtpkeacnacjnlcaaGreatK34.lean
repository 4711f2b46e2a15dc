/- What a cut is made of: rings, corners, the parcels' order: plain law. -/
import Derived.Deep.CutBlock
import Derived.Deep.DeepCutAuto
import Derived.Test.YtpkeacnacjnlcaaGreatK07
import Derived.Test.YtpkeacnacjnlcaaGreatK14
import Derived.Test.YtpkeacnacjnlcaaGreatK16
import Derived.Test.YtpkeacnacjnlcaaGreatK19
import Derived.Test.YtpkeacnacjnlcaaGreatK23
import Derived.Test.YtpkeacnacjnlcaaGreatK27
import Derived.Test.YtpkeacnacjnlcaaGreatK30
namespace Go.Proofs.YtpkeacnacjnlcaaGreat
theorem listN_pw {ps:List Parc}:∀ {n:Nat} {last:Int},listN n last ps=true→ps.Pairwise (fun x y=>x.id<y.id)∧∀x∈ps,last<x.id:=by
 induction ps with
 |nil=>intro n last _;exact⟨.nil,fun x hx=>absurd hx List.not_mem_nil⟩
 |cons y ps ih=>
  intro n last h
  rw[listN_cons]at h
  simp only[Bool.and_eq_true,decide_eq_true_eq]at h
  obtain⟨h1,h2,h3,h4,h5⟩:=h
  obtain⟨k1,k2⟩:=ih h5
  refine⟨List.pairwise_cons.2 ⟨k2,k1⟩,fun x hx=>?_⟩
  rcases List.mem_cons.1 hx with rfl|hx
  ·exact h2
  ·have:=k2 x hx;omega
theorem listed_pw {p:Plan} (h:listedB p=true):p.parcels.Pairwise (fun x y=>x.id<y.id):=by
 unfold listedB at h
 rw[Bool.and_eq_true]at h
 exact(listN_pw h.1).1
theorem pcAt_mem {ps:List Parc} {k:Nat} (hk:k<ps.length):pcAt ps k∈ps:=by rw[pcAt_lt hk];exact List.getElem_mem hk
end Go.Proofs.YtpkeacnacjnlcaaGreat
