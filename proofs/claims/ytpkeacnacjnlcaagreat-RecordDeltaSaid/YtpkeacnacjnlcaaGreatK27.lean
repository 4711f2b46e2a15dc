/- Items in memory: to read, and of the call's own; slices.SortFunc of parcels, by their numbers: laid off the shelf, and the order's walk; merestonelaw14.point, few: the walks; plan.Insert: the walk; what it makes of a sound plan; Rings stored into an own plan; ref02.Least at longer rings; least twice is least; record.values: the last value of each key, as a map; slices.SortFunc of items, by their keys: bytes.Compare, record.byItem, laid off the shelf; bytes.Equal, record.same: the walks; merestonelaw14.find, rising: the walks. -/
import Derived.Test.YtpkeacnacjnlcaaGreatK01
import Derived.Test.YtpkeacnacjnlcaaGreatK03
import Derived.Test.YtpkeacnacjnlcaaGreatK11
import Derived.Test.YtpkeacnacjnlcaaGreatK13
import Derived.Test.YtpkeacnacjnlcaaGreatK14
import Derived.Test.YtpkeacnacjnlcaaGreatK15
import Derived.Test.YtpkeacnacjnlcaaGreatK18
import Derived.Test.YtpkeacnacjnlcaaGreatK20
import Derived.Test.YtpkeacnacjnlcaaGreatK23
import Derived.Test.YtpkeacnacjnlcaaGreatK25
namespace Go.Proofs.YtpkeacnacjnlcaaGreat
open Go.RowKit Go.Lib
/-- An item, and where its key and its value lie. -/
abbrev ItH:=It×Hd×Hd
instance:Inhabited ItH:=⟨(⟨[],[]⟩,(none,0,0),(none,0,0))⟩
def hdV (h:Hd):Value:= .slice h.1 h.2.1 h.2.2
def encIt (e:ItH):List Value:=[.slice e.2.1.1 e.2.1.2.1 e.2.1.2.2,.slice e.2.2.1 e.2.2.2.1 e.2.2.2.2]
def itsV (l:List ItH):List Value:=l.flatMap encIt
theorem itsV_length (l:List ItH):(itsV l).length=l.length*2:=by
 induction l with
 |nil=>rfl
 |cons e l ih=>unfold itsV at *;rw[List.flatMap_cons,List.length_append,ih];simp[encIt];omega
theorem itsV_append (a b:List ItH):itsV (a++b)=itsV a++itsV b:=by simp[itsV]
theorem itsV_one (l:List ItH):∀u∈itsV l,u.oneCell'=true:=by
 intro u hu
 unfold itsV encIt at hu
 simp only[List.mem_flatMap]at hu
 obtain⟨e,-,he⟩:=hu
 simp at he
 rcases he with rfl|rfl<;>rfl
theorem itsV_get (l:List ItH) (k:Nat) (h:k<l.length):(itsV l)[k*2]?=some (.slice l[k].2.1.1 l[k].2.1.2.1 l[k].2.1.2.2)∧(itsV l)[k*2+1]?=some (.slice l[k].2.2.1 l[k].2.2.2.1 l[k].2.2.2.2):=by
 induction l generalizing k with
 |nil=>simp at h
 |cons e l ih=>
  have e1:itsV (e::l)=encIt e++itsV l:=rfl
  rw[e1]
  cases k with
  |zero=>exact⟨rfl,rfl⟩
  |succ k=>
   have h':k<l.length:=by simpa using h
   obtain⟨h1,h2⟩:=ih k h'
   rw[List.getElem?_append_right (by simp[encIt];omega),List.getElem?_append_right (by simp[encIt];omega)]
   have e2:(k+1)*2-(encIt e).length=k*2:=by simp[encIt];omega
   have e3:(k+1)*2+1-(encIt e).length=k*2+1:=by simp[encIt];omega
   rw[e2,e3]
   exact⟨h1,h2⟩
/-- Bytes to read: where they lie, and that there are no more than there is room. -/
def RdB (W:World) (B:Nat) (h:Hd) (xs:List UInt8):Prop:=Reads W B 1 h.1 h.2.1 (u8s xs)∧h.2.1≤h.2.2∧h.2.2≤9223372036854775807
theorem RdB.on {W W':World} {h:Hd} {xs:List UInt8} (r:RdB W W.heap.size h xs) (hb:Below W.heap.size W W'):RdB W' W'.heap.size h xs:=⟨r.1.on hb,r.2⟩
def RdIt (W:World) (B:Nat) (e:ItH):Prop:=RdB W B e.2.1 e.1.k∧RdB W B e.2.2 e.1.v
theorem RdIt.on {W W':World} {e:ItH} (r:RdIt W W.heap.size e) (hb:Below W.heap.size W W'):RdIt W' W'.heap.size e:=⟨r.1.on hb,r.2.on hb⟩
/-- Items to read. -/
def ItsAt (W:World) (B:Nat) (A:Option Addr) (n c:Nat) (d:List ItH):Prop:=Reads W B 2 A n (itsV d)∧(∀e∈d,RdIt W B e)∧n≤c∧c≤9223372036854775807
theorem ItsAt.on {W W':World} {A:Option Addr} {n c:Nat} {d:List ItH} (h:ItsAt W W.heap.size A n c d) (hb:Below W.heap.size W W'):ItsAt W' W'.heap.size A n c d:=
 ⟨h.1.on hb,fun e he=>(h.2.1 e he).on hb,h.2.2⟩
theorem ItsAt.len {W:World} {B:Nat} {A:Option Addr} {n c:Nat} {d:List ItH} (h:ItsAt W B A n c d):d.length=n:=by
 have:=h.1.1
 rw[itsV_length]at this
 omega
/-- The cells of an item. -/
theorem ItsAt.cells {W:World} {B:Nat} {ad:Addr} {n c:Nat} {d:List ItH} (h:ItsAt W B (some ad) n c d) {k:Nat} (hk:k<n) (hd:k<d.length):
 ad.block<B∧W.cell? (ad.add (k*2))=some (.slice d[k].2.1.1 d[k].2.1.2.1 d[k].2.1.2.2)∧W.cell? ⟨(ad.add (k*2)).block,(ad.add (k*2)).off+1,none⟩=some (.slice d[k].2.2.1 d[k].2.2.2.1 d[k].2.2.2.2):=by
 obtain⟨ad',e,hb,hc⟩:=h.1.2 (by omega)
 cases e
 obtain⟨h1,h2⟩:=itsV_get d k hd
 exact⟨hb,hc _ _ h1,by rw[add_next];exact hc _ _ h2⟩
/-- Bytes to read in a block that was made since the call began. -/
def NewB (base:Nat) (W:World) (h:Hd) (xs:List UInt8):Prop:=Reads W W.heap.size 1 h.1 h.2.1 (u8s xs)∧(h.2.1≤h.2.2∧h.2.2≤9223372036854775807)∧∀a,h.1=some a→base≤a.block∧∃cs fr,W.heap[a.block]?=some (Obj.cells cs 5 fr)
theorem NewB.of_own {base:Nat} {W:World} {A:Option Addr} {n c:Nat} {xs:List UInt8} (h:W.ownsRow base 5 1 (.slice A n c) n (u8s xs)):NewB base W (A,n,c) xs:=
 ⟨Reads.of_own h,own_cap h,fun a e=>by
   rcases h.2 with ⟨h1,-⟩|⟨g',c',cur,h1,h2,hb,-⟩
   ·cases h1;cases e
   ·cases h1;cases e;exact⟨h2,_,_,hb⟩⟩
theorem NewB.heap {base:Nat} {W W':World} {h:Hd} {xs:List UInt8} (r:NewB base W h xs) (hs:W.heap.size≤W'.heap.size) (hk:∀(g:Nat) (cs:Array Value) (fr:Nat×Nat),W.heap[g]?=some (Obj.cells cs 5 fr)→W'.heap[g]?=W.heap[g]?):NewB base W' h xs:=by
 obtain⟨h1,h2,h3⟩:=r
 refine⟨⟨h1.1,fun h0=>?_⟩,h2,fun a e=>?_⟩
 ·obtain⟨ad,e,hb,hc⟩:=h1.2 h0
  obtain⟨-,cs,fr,hg⟩:=h3 ad e
  refine⟨ad,e,Nat.lt_of_lt_of_le hb hs,fun k u hu=>?_⟩
  rw[←hc k u hu]
  exact World.cell?_of_block (by rw[block_of_add];exact hk _ _ _ hg)
 ·obtain⟨hb,cs,fr,hg⟩:=h3 a e
  exact⟨hb,cs,fr,(hk _ _ _ hg).trans hg⟩
theorem NewB.below {base:Nat} {W W':World} {h:Hd} {xs:List UInt8} (r:NewB base W h xs) (hb:Below W.heap.size W W'):NewB base W' h xs:=
 r.heap hb.size fun g _ _ hg=>hb.block g (Array.getElem?_eq_some_iff.1 hg).1
theorem NewB.mono {base base':Nat} {W:World} {h:Hd} {xs:List UInt8} (r:NewB base W h xs) (hb:base'≤base):NewB base' W h xs:=
 ⟨r.1,r.2.1,fun a e=>⟨Nat.le_trans hb (r.2.2 a e).1,(r.2.2 a e).2⟩⟩
theorem NewB.rd {base:Nat} {W:World} {h:Hd} {xs:List UInt8} (r:NewB base W h xs):RdB W W.heap.size h xs:=⟨r.1,r.2.1⟩
theorem newB_nil (base:Nat) (W:World):NewB base W (none,0,0) []:=NewB.of_own (World.ownsRow_nil _ _ _ _)
/-- An item of the call's own. -/
def OwnIt (base:Nat) (W:World) (e:ItH):Prop:=NewB base W e.2.1 e.1.k∧NewB base W e.2.2 e.1.v
theorem OwnIt.below {base:Nat} {W W':World} {e:ItH} (h:OwnIt base W e) (hb:Below W.heap.size W W'):OwnIt base W' e:=⟨h.1.below hb,h.2.below hb⟩
theorem OwnIt.mono {base base':Nat} {W:World} {e:ItH} (h:OwnIt base W e) (hb:base'≤base):OwnIt base' W e:=⟨h.1.mono hb,h.2.mono hb⟩
theorem OwnIt.rd {base:Nat} {W:World} {e:ItH} (h:OwnIt base W e):RdIt W W.heap.size e:=⟨h.1.rd,h.2.rd⟩
theorem OwnIt.heap {base:Nat} {W W':World} {e:ItH} (h:OwnIt base W e) (hs:W.heap.size≤W'.heap.size) (hk:∀(g:Nat) (cs:Array Value) (fr:Nat×Nat),W.heap[g]?=some (Obj.cells cs 5 fr)→W'.heap[g]?=W.heap[g]?):OwnIt base W' e:=⟨h.1.heap hs hk,h.2.heap hs hk⟩
/-- A row's block is none of another type. -/
theorem own_ne_cells {base:Nat} {W:World} {t u:TypeId} {size n g:Nat} {v:Value} {xs:List Value} {cs:Array Value} {fr:Nat×Nat} (h:W.ownsRow base t size v n xs) (hg:W.heap[g]?=some (Obj.cells cs u fr)) (hne:t≠u):some g≠v.ownBlock:=fun e=>by
 rcases h.2 with ⟨rfl,-⟩|⟨g',c',cur,rfl,-,hb,-⟩
 ·simp[Value.ownBlock]at e
 ·simp[Value.ownBlock]at e
  subst e
  rw[hb]at hg
  cases hg
  exact hne rfl
/-- Items of the call's own: the row, the keys and the values. -/
def ItsOwn (base:Nat) (W:World) (A:Option Addr) (n c:Nat) (d:List ItH):Prop:=W.ownsRow base 52 2 (.slice A n c) n (itsV d)∧∀e∈d,OwnIt base W e
theorem ItsOwn.below {base:Nat} {W W':World} {A:Option Addr} {n c:Nat} {d:List ItH} (h:ItsOwn base W A n c d) (hb:Below W.heap.size W W'):ItsOwn base W' A n c d:=
 ⟨own_below h.1 hb,fun e he=>(h.2 e he).below hb⟩
theorem ItsOwn.mono {base base':Nat} {W:World} {A:Option Addr} {n c:Nat} {d:List ItH} (h:ItsOwn base W A n c d) (hb:base'≤base):ItsOwn base' W A n c d:=
 ⟨own_mono h.1 hb,fun e he=>(h.2 e he).mono hb⟩
theorem ItsOwn.at_ {base:Nat} {W:World} {A:Option Addr} {n c:Nat} {d:List ItH} (h:ItsOwn base W A n c d):ItsAt W W.heap.size A n c d:=
 ⟨Reads.of_own h.1,fun e he=>(h.2 e he).rd,own_cap h.1⟩
theorem ItsOwn.len {base:Nat} {W:World} {A:Option Addr} {n c:Nat} {d:List ItH} (h:ItsOwn base W A n c d):d.length=n:=h.at_.len
theorem itsOwn_nil (base:Nat) (W:World):ItsOwn base W none 0 0 []:=⟨World.ownsRow_nil _ _ _ _,fun _ h=>absurd h (by simp)⟩
/-- Items that are appended to a row. -/
theorem ItsOwn.append {base:Nat} {W W':World} {A A':Option Addr} {n c n' c':Nat} {d e:List ItH} (h:ItsOwn base W A n c d) (he:∀x∈e,OwnIt base W x)
 (hown:W'.ownsRow base 52 2 (.slice A' n' c') n' (itsV d++itsV e)) (hg:W.grownBy W' (Value.slice A n c).ownBlock):ItsOwn base W' A' n' c' (d++e):=by
 have hk:∀(g:Nat) (cs:Array Value) (fr:Nat×Nat),W.heap[g]?=some (Obj.cells cs 5 fr)→W'.heap[g]?=W.heap[g]?:=fun g _ _ hb=>hg.block g (Array.getElem?_eq_some_iff.1 hb).1 (own_ne_cells h.1 hb (by decide))
 refine⟨by rw[itsV_append];exact hown,fun x hx=>?_⟩
 rcases List.mem_append.1 hx with hx|hx
 ·exact(h.2 x hx).heap hg.size hk
 ·exact(he x hx).heap hg.size hk
theorem info_it:(Tryz.prog.info? 52).map (fun i=>(i.zero,i.size,i.bytes))=some (some (.agg #[.slice none 0 0,.slice none 0 0]),2,48):=by kernel_rfl
end Go.Proofs.YtpkeacnacjnlcaaGreat
namespace Go.Proofs.YtpkeacnacjnlcaaGreat
open Go.Shelf
end Go.Proofs.YtpkeacnacjnlcaaGreat
namespace Go.Proofs.YtpkeacnacjnlcaaGreat
open Go.RowKit Go.Shelf Go.Sort
abbrev PcH:=Parc×Hd
instance:Inhabited PcH:=⟨(⟨0,[],ByteArray.empty⟩,(none,0,0))⟩
def encPH (e:PcH):List Value:=[.int .i64 e.1.id,.slice e.2.1 e.2.2.1 e.2.2.2,.string e.1.owner]
def pchV (l:List PcH):List Value:=l.flatMap encPH
theorem rowPV_pch {ps:List Parc} {hs:List Hd} (h:hs.length=ps.length):rowPV ps hs=pchV (ps.zip hs):=by
 induction ps generalizing hs with
 |nil=>simp[rowPV,pchV]
 |cons y ps ih=>
  rcases hs with _|⟨g,hs⟩
  ·simp at h
  ·show pcV y g++rowPV ps hs=_
   rw[ih (by simpa using h)]
   rfl
theorem pch_rowPV (d:List PcH):pchV d=rowPV (d.map (·.1)) (d.map (·.2)):=by
 rw[rowPV_pch (by simp)]
 have e:(d.map (·.1)).zip (d.map (·.2))=d:=by
  induction d with
  |nil=>rfl
  |cons x d ih=>simp[ih]
 rw[e]
end Go.Proofs.YtpkeacnacjnlcaaGreat
namespace Go.Proofs.YtpkeacnacjnlcaaGreat
open Go.RowKit Go.Lib
def SF14 (n n':Nat) (p:Plan) (w:World) (e:Ending) (w':World):Prop:=∃b:Bool,e= .returned (.bool b)∧(b=true→n'≤80∧cornN n p.parcels≤300)∧Below w.heap.size w w'
theorem SF14.mk {n n':Nat} {p:Plan} {w:World} {e:Ending} {w':World} (b:Bool) (h1:e= .returned (.bool b)) (h2:b=true→n'≤80∧cornN n p.parcels≤300) (h3:Below w.heap.size w w'):SF14 n n' p w e w':=⟨b,h1,h2,h3⟩
set_option maxRecDepth 100000 in
set_option maxHeartbeats 1600000 in
theorem few14_any (p:Plan) (A A':Option Addr) (n c n' c':Nat) (w:World) (h:PlanAt w w.heap.size A n c A' n' c' p):
 Calls Tryz.prog 19 #[planV A n c A' n' c'] w (SF14 n n' p w):=by
 obtain⟨hl1,hl2,hl3,hl4⟩:=h.lens
 have HP:=Lib.hid (And.intro h.parcs h.fits)
 have hK0:=PlK.new w A n c A' n' c'
 have hB0:=(Below.refl w.heap.size w).alloc (Nat.le_refl _) (.cells #[.slice A n c,.slice A' n' c'] 30)
 have HL2:=Lib.hid hl2
 have H0:=Lib.hid (And.intro hB0 hK0)
 obtain⟨q1,q2,-⟩:=hK0.facts
 clear hB0 hK0 h hl1 hl2
 go_enter Tryz.func19,Tryz.ntmps19
 go_wp2_with fail
 obtain⟨wo,hwo⟩:∃wo:World,wo=w.alloc (.cells #[.slice A n c,.slice A' n' c'] 30):=⟨_,rfl⟩
 rw[←hwo]at H0 q1 q2
 try rw[←hwo]
 clear hwo q1 q2
 go_loopw [3,4] (fun s i wr=>∃(k N:Nat),k≤n'∧i= .int .i64 (k:Int)∧s= .int .i64 (N:Int)∧N≤17592186044416∧Hid (cornN n p.parcels=cornN N (p.parcels.drop k))∧Below w.heap.size w wr∧PlK wr w.heap.size A n c A' n' c') (fun _ i _=>n'-(intOf i).toNat)
 case atStart=>exact⟨0,n,Nat.zero_le _,rfl,rfl,by omega,rfl,H0.out⟩
 case round=>
  clear H0
  obtain⟨k,N,hk,rfl,rfl,hN,HN,hbel,hK⟩:=hrel
  obtain⟨q1,q2,-⟩:=hK.facts
  by_cases hgo:k<n'∧k<81∧N≤300
  ·obtain⟨hlt,h81,hlim⟩:=hgo
   have g1:(k:Int)<(n':Int):=by omega
   have g2:(k:Int)<81:=by omega
   have g3:(N:Int)≤300:=by omega
   have hw1:IntKind.i64.wrap ((k:Int)+1)=(k:Int)+1:=by rw[IntKind.wrap_i64];omega
   have hlk:k<p.parcels.length:=by have:=HL2.out;omega
   obtain⟨ad,rfl⟩:=HP.out.1.some_ (by omega)
   obtain⟨-,p1,⟨Ak,nk,ck,p2,hrk,-,-⟩,p3⟩:=(HP.out.1.below hbel).at_ hlt
   have hf:=(HP.out.2.pc hlk).1
   rw[hrk.lenPt]at hf
   have hw2:IntKind.i64.wrap ((N:Int)+(nk:Int))=(N:Int)+(nk:Int):=by rw[IntKind.wrap_i64];omega
   have HD:Hid (cornN n p.parcels=cornN (N+nk) (p.parcels.drop (k+1))):=by
    have hdk:p.parcels.drop k=pcAt p.parcels k::p.parcels.drop (k+1):=by rw[List.drop_eq_getElem_cons hlk,pcAt_lt hlk]
    have:=HN.out
    rw[hdk,cornN_cons,hrk.lenPt]at this
    exact this
   have HB:=Lib.hid (And.intro hbel hK)
   clear hbel hK HN hrk
   go_wp2_with fail
   go_roundw
   case rel=>exact⟨k+1,N+nk,by omega,by go_num,by go_num,by omega,HD.out,HB.out⟩
   case measure=>simp[intOf];omega
  ·have HB:=Lib.hid hbel
   clear hbel hK
   by_cases g5:N≤300
   ·have g6:(N:Int)≤300:=by omega
    by_cases g7:n'≤80
    ·have g8:(n':Int)≤80:=by omega
     have hkn:k=n':=by omega
     subst hkn
     have HC:Hid (cornN n p.parcels≤300):=by
      have:=HN.out
      rw[List.drop_of_length_le (by have:=HL2.out;omega),cornN_nil]at this
      show _≤_
      omega
     have g9:¬(k:Int)<(k:Int):=by omega
     clear hgo
     go_wp2_with fail
     go_ret
     exact SF14.mk true rfl (fun _=>⟨g7,HC.out⟩) HB.out
    ·have g8:¬(n':Int)≤80:=by omega
     by_cases g9:k<n'
     ·have g10:(k:Int)<(n':Int):=by omega
      have g11:¬(k:Int)<81:=by omega
      clear hgo
      go_wp2_with fail
      go_ret
      exact SF14.mk false (by first|rfl|(show Ending.returned (.bool (decide ((n':Int)≤80)))=_;rw[decide_eq_false (by omega)])) (fun h=>by cases h) HB.out
     ·have g10:¬(k:Int)<(n':Int):=by omega
      clear hgo
      go_wp2_with fail
      go_ret
      exact SF14.mk false (by first|rfl|(show Ending.returned (.bool (decide ((n':Int)≤80)))=_;rw[decide_eq_false (by omega)])) (fun h=>by cases h) HB.out
   ·have g6:¬(N:Int)≤300:=by omega
    by_cases g9:k<n'
    ·have g10:(k:Int)<(n':Int):=by omega
     by_cases g11:k<81
     ·have g12:(k:Int)<81:=by omega
      clear hgo
      go_wp2_with fail
      go_ret
      exact SF14.mk false rfl (fun h=>by cases h) HB.out
     ·have g12:¬(k:Int)<81:=by omega
      clear hgo
      go_wp2_with fail
      go_ret
      exact SF14.mk false rfl (fun h=>by cases h) HB.out
    ·have g10:¬(k:Int)<(n':Int):=by omega
     clear hgo
     go_wp2_with fail
     go_ret
     exact SF14.mk false rfl (fun h=>by cases h) HB.out
theorem ptAt_mem {xs:List Pt} {k:Nat} (h:k<xs.length):ptAt xs k∈xs:=by rw[ptAt_lt h];exact List.getElem_mem h
theorem sound_ring {p:Plan} {xs:List Pt} (hs:SoundP p) (h:ringOf p xs):goodL xs=true∧xs.length≤128∧3≤xs.length∧checkI xs=0:=by
 have hc:checkI xs=0:=by
  rcases h with rfl|⟨x,hx,rfl⟩
  ·exact hs.2.1.1
  ·exact(hs.2.2.1 x hx).1
 obtain⟨h1,h2,h3,-⟩:=checkI_zero hc
 exact⟨h2,h1,h3,hc⟩
theorem good_in2 {q:Pt} (h:good q=true):q.inI:=by unfold good at h;unfold Pt.inI;simp at h;omega
theorem rowPV_set {ps:List Parc} {hs:List Hd} (hl:hs.length=ps.length) {k:Nat} (hk:k<ps.length) (ys:List Pt) (h:Hd):
 rowPV (ps.set k ⟨(pcAt ps k).id,ys,(pcAt ps k).owner⟩) (hs.set k h)=(rowPV ps hs).set (k*3+1) (.slice h.1 h.2.1 h.2.2):=by
 induction ps generalizing hs k with
 |nil=>simp at hk
 |cons y ps ih=>
  rcases hs with _|⟨g,hs⟩
  ·simp at hl
  ·rcases k with _|k
   ·rfl
   ·have h1:=ih (hs:=hs) (by simpa using hl) (k:=k) (by simpa using hk)
    have h2:pcAt (y::ps) (k+1)=pcAt ps k:=by unfold pcAt;simp
    rw[h2]
    show pcV y g++rowPV (ps.set k _) (hs.set k h)=_
    rw[h1,show(k+1)*3+1=k*3+1+1+1+1 by omega]
    rfl
def setR (p:Plan) (k:Nat) (ys:List Pt):Plan:=⟨p.outer,p.parcels.set k ⟨(pcAt p.parcels k).id,ys,(pcAt p.parcels k).owner⟩⟩
theorem hdAt_set {hs:List Hd} {k j:Nat} {h:Hd} (hk:k<hs.length):hdAt (hs.set k h) j=if j=k then h else hdAt hs j:=by
 unfold hdAt
 rw[List.getElem?_set]
 by_cases e:k=j
 ·rw[if_pos e,if_pos e.symm,if_pos (by omega)];rfl
 ·rw[if_neg e,if_neg (fun h=>e h.symm)]
theorem pcAt_set {ps:List Parc} {k j:Nat} {x:Parc} (hk:k<ps.length):pcAt (ps.set k x) j=if j=k then x else pcAt ps j:=by
 unfold pcAt
 rw[List.getElem?_set]
 by_cases e:k=j
 ·rw[if_pos e,if_pos e.symm,if_pos (by omega)];rfl
 ·rw[if_neg e,if_neg (fun h=>e h.symm)]
/-- The last of the first k items that has a key. -/
def lastH (d:List ItH) (key:List UInt8):Nat→Option ItH
 |0=>none
 |n+1=>match d[n]? with
  |some e=>if e.1.k=key then some e else lastH d key n
  |none=>lastH d key n
theorem lastH_step {d:List ItH} {k:Nat} (h:k<d.length) (key:List UInt8):lastH d key (k+1)=if d[k].1.k=key then some d[k]else lastH d key k:=by
 show(match d[k]? with|some e=>if e.1.k=key then some e else lastH d key k|none=>lastH d key k)=_
 rw[List.getElem?_eq_getElem h]
theorem lastH_mem {d:List ItH} {key:List UInt8}:∀ {k:Nat} {e:ItH},lastH d key k=some e→e∈d∧e.1.k=key
 |0,e,h=>by cases h
 |k+1,e,h=>by
  by_cases hk:k<d.length
  ·rw[lastH_step hk]at h
   by_cases hq:d[k].1.k=key
   ·rw[if_pos hq]at h
    cases h
    exact⟨List.getElem_mem hk,hq⟩
   ·rw[if_neg hq]at h
    exact lastH_mem h
  ·have:lastH d key (k+1)=lastH d key k:=by
    show(match d[k]? with|some e=>if e.1.k=key then some e else lastH d key k|none=>lastH d key k)=_
    rw[List.getElem?_eq_none (by omega)]
   rw[this]at h
   exact lastH_mem h
theorem lastH_find {d:List ItH} {key:List UInt8}:∀k,k≤d.length→(lastH d key k).map (fun e=>e.1)=if findN (d.map (·.1)) key k<0 then none else some (itAt (d.map (·.1)) (findN (d.map (·.1)) key k).toNat)
 |0,_=>rfl
 |k+1,hk=>by
  have h:k<d.length:=by omega
  have e1:itAt (d.map (·.1)) k=d[k].1:=by rw[itAt_lt (by simpa using h)];simp
  rw[lastH_step h]
  show _=if (if (itAt (d.map (·.1)) k).k=key then(k:Int)else findN (d.map (·.1)) key k)<0 then none else some (itAt (d.map (·.1)) (if (itAt (d.map (·.1)) k).k=key then(k:Int)else findN (d.map (·.1)) key k).toNat)
  rw[e1]
  by_cases hq:d[k].1.k=key
  ·rw[if_pos hq,if_pos hq,if_neg (by omega),Int.toNat_natCast,e1]
   rfl
  ·rw[if_neg hq,if_neg hq]
   exact lastH_find k (by omega)
theorem lastH_lastV (d:List ItH) (key:List UInt8):(lastH d key d.length).map (fun e=>e.1.v)=lastV (d.map (·.1)) key:=by
 have h:=lastH_find (d:=d) (key:=key) d.length (Nat.le_refl _)
 unfold lastV findI
 rw[List.length_map]
 have e:(lastH d key d.length).map (fun e=>e.1.v)=((lastH d key d.length).map (fun e=>e.1)).map (·.v):=by rw[Option.map_map];rfl
 rw[e,h]
 split<;>rfl
theorem upd_keys {α:Type} [DecidableEq α] (x:α) (v:Value) (l:List (α×Value)):(upd x v l).map (·.1)=l.map (·.1):=by
 induction l with
 |nil=>rfl
 |cons z l ih=>
  obtain⟨k,u⟩:=z
  unfold upd
  split
  ·rfl
  ·rw[List.map_cons,ih,List.map_cons]
theorem snoc_look {α:Type} [DecidableEq α] {x:α} (v:Value) {l:List (α×Value)} (h:look l x=none) (y:α):look (l++[(x,v)]) y=if y=x then some v else look l y:=by
 induction l with
 |nil=>rfl
 |cons z l ih=>
  obtain⟨k,u⟩:=z
  have h':look l x=none∧x≠k:=by
   unfold look at h
   by_cases e:x=k
   ·rw[if_pos e]at h;cases h
   ·rw[if_neg e]at h;exact⟨h,e⟩
  rw[List.cons_append]
  unfold look
  by_cases e2:y=k
  ·subst e2
   rw[if_pos rfl,if_neg (fun e=>h'.2 e.symm),if_pos rfl]
  ·rw[if_neg e2,ih h'.1,if_neg e2]
theorem run_put {α:Type} {P:Program} [DecidableEq α] {K T E:TypeId} {enc:α→Value} (F:KeyFits P K enc) (ht:P.underlying T=some (.map K E)) {W:World} {b:Nat} {l:List (α×Value)} (h:MapB W b enc l) (hn:(l.map (·.1)).Nodup) (x:α) (v:Value):
 ∃W' l',(Instr.mapUpdate T (.map (some b)) (enc x) v).run P W= .ok () W'∧MapB W' b enc l'∧W.grownBy W' (some b)∧(l'.map (·.1)).Nodup∧l'.length≤l.length+1∧∀y,look l' y=if y=x then some v else look l y:=by
 rcases hx:look l x with _|u
 ·obtain⟨W',h1,h2,h3⟩:=run_put_new F ht h v hx
  refine⟨W',_,h1,h2,h3,?_,by simp,snoc_look v hx⟩
  rw[List.map_append,List.nodup_append]
  refine⟨hn,by simp,fun a ha c hc=>?_⟩
  simp at hc
  rintro rfl
  exact look_none.1 hx (hc▸ha)
 ·obtain⟨W',h1,h2,h3⟩:=run_put_old F ht h v hx
  exact⟨W',_,h1,h2,h3,by rw[upd_keys];exact hn,by rw[upd_len];omega,upd_look hx⟩
/-- The map of the first k items. -/
structure ValM (d:List ItH) (k:Nat) (L:List (List UInt8×Value)):Prop where
 keys:(L.map (·.1)).Nodup
 at_:∀key,look L key=(lastH d key k).map fun e=>hdV e.2.2
 few:L.length≤k
set_option maxRecDepth 100000 in
set_option maxHeartbeats 1600000 in
theorem values_map_any (d:List ItH) (A:Option Addr) (n c:Nat) (w:World) (h:ItsAt w w.heap.size A n c d) (hn:n≤1048576):
 Calls Tryz.prog 40 #[.slice A n c] w fun e w'=>∃b L,e= .returned (.map (some b))∧MapB w' b encS L∧ValM d n L∧w.heap.size≤b∧Below w.heap.size w w':=by
 have hmm:=@run_makeMap Tryz.prog
 obtain⟨wa,hwa⟩:∃wa:World,wa=w.alloc (.map #[] 0):=⟨_,rfl⟩
 have hB0:Below w.heap.size w wa:=by rw[hwa];exact(Below.refl _ _).alloc (Nat.le_refl _) _
 have hM0:MapB wa w.heap.size encS []:=by rw[hwa];exact MapB.made w encS
 have H0:=Lib.hid (And.intro hB0 (And.intro hM0 (And.intro h h.len)))
 clear hB0 hM0 h
 go_enter Tryz.func40,Tryz.ntmps40
 go_upto_region 2 with fail
 rw[←hwa]
 clear hwa hmm
 go_wp2_with fail
 go_loopw [9] (fun i wr=>∃(k:Nat) (L:List (List UInt8×Value)),k≤n∧i= .int .i64 (k:Int)∧Hid (Below w.heap.size w wr∧MapB wr w.heap.size encS L∧ValM d k L)) (fun i _=>n-(intOf i).toNat)
 case atStart=>exact⟨0,[],Nat.zero_le _,rfl,H0.out.1,H0.out.2.1,List.nodup_nil,fun _=>rfl,Nat.le_refl _⟩
 case round=>
  obtain⟨k,L,hk,rfl,HF⟩:=hrel
  by_cases hlt:k<n
  ·have hlt':(k:Int)<(n:Int):=by omega
   have hw1:IntKind.i64.wrap ((k:Int)+1)=(k:Int)+1:=by rw[IntKind.wrap_i64];omega
   have hI:=H0.out.2.2.1.on HF.out.1
   have hkd:k<d.length:=by rw[H0.out.2.2.2];exact hlt
   obtain⟨ad,rfl,-,-⟩:=hI.1.2 (by omega)
   obtain⟨-,p1,p2⟩:=hI.cells hlt hkd
   have hx:=H0.out.2.2.1.2.1 _ (List.getElem_mem hkd)
   have hstep:=lastH_step hkd
   obtain⟨x,hxx⟩:∃x,d[k]=x:=⟨_,rfl⟩
   rw[hxx]at p1 p2 hx hstep
   obtain⟨⟨xk,xv⟩,⟨K,kn,kc⟩,⟨V,vn,vc⟩⟩:=x
   simp only at p1 p2 hx hstep
   obtain⟨W1,hW1⟩:∃W,W=wr.alloc (.cells #[.slice K kn kc,.slice V vn vc] 52):=⟨_,rfl⟩
   have hb1:Below wr.heap.size wr W1:=by rw[hW1];exact(Below.refl _ _).alloc (Nat.le_refl _) _
   obtain⟨xb,hxb⟩:∃xb,xb=wr.heap.size:=⟨_,rfl⟩
   have b1:Blk W1 xb 52 #[.slice K kn kc,.slice V vn vc]:=by rw[hW1,hxb];exact Blk.new wr _ _
   have hbw:=below_on HF.out.1 (Nat.le_refl _) hb1
   have hm1:MapB W1 w.heap.size encS L:=HF.out.2.1.kept (hb1.block _ HF.out.2.1.lt)
   obtain⟨z1,z2⟩:W1.cell? ⟨xb,0,none⟩=some (.slice K kn kc)∧W1.cell? ⟨xb,1,none⟩=some (.slice V vn vc):=⟨by have:=Blk.cell (i:=0) b1;simpa using this,by have:=Blk.cell (i:=1) b1;simpa using this⟩
   have hs:=run_str (c:=kc) (hx.1.1.on hbw)
   obtain⟨W3,L',hup,hm3,hg3,hn3,hl3,hk3⟩:=run_put (P:=Tryz.prog) (T:=79) (strKey Tryz.underlying9) Tryz.underlying79 hm1 HF.out.2.2.keys xk (.slice V vn vc)
   have hup':Sem.run Tryz.prog (Instr.mapUpdate 79 (.map (some w.heap.size)) (.string ⟨xk.toArray⟩) (.slice V vn vc)) W1= .ok () W3:=hup
   have hb3:Below w.heap.size w W3:=hbw.grown hg3 hbw.size (fun j e=>by have:=Option.some.inj e;omega)
   have H3:Hid (Below w.heap.size w W3∧MapB W3 w.heap.size encS L'∧ValM d (k+1) L'):=⟨hb3,hm3,hn3,fun key=>by
    rw[hk3,hstep]
    by_cases e:key=xk
    ·subst e;rw[if_pos rfl,if_pos rfl];rfl
    ·rw[if_neg e,if_neg (fun h=>e h.symm)];exact HF.out.2.2.at_ key,by have:=HF.out.2.2.few;omega⟩
   clear hI hkd hx hstep hxx hb1 b1 hbw hm1 hup hm3 hg3 hn3 hl3 hk3 hb3 HF
   go_upto_region 5 with fail
   rw[←hW1,←hxb]
   clear hW1 hxb p1 p2
   go_wp2_with fail
   go_roundw
   case rel=>exact⟨k+1,_,by omega,by go_num,H3⟩
   case measure=>simp[intOf];omega
  ·obtain rfl:k=n:=by omega
   have HE:=Lib.hid HF.out
   clear HF
   go_wp2_with fail
   go_ret
   exact⟨_,L,rfl,HE.out.2.1,HE.out.2.2,Nat.le_refl _,HE.out.1⟩
end Go.Proofs.YtpkeacnacjnlcaaGreat
namespace Go.Proofs.YtpkeacnacjnlcaaGreat
open Go.Shelf
def sortIt_ren:Go.Shelf.Ren:=⟨fun|6=>43|15=>85|14=>84|28=>130|29=>131|20=>122|21=>123|22=>124|23=>125|24=>126|25=>127|26=>128|27=>129|46=>167|47=>168|48=>169|49=>170|50=>171|57=>192|n=>n,fun|22=>43|24=>52|25=>85|3=>3|39=>127|0=>0|53=>121|55=>35|4=>4|46=>166|45=>165|50=>170|5=>5|9=>9|66=>198|70=>202|76=>217|77=>218|n=>n,fun|n=>n⟩
theorem sortIt:Go.Proofs.SlLaysF0.n6 Tryz.prog sortIt_ren:={
 mixed:=by kernel_rfl
 f6:=⟨Tryz.f43.name,by decide,Tryz.func43.trans (congrArg some (by kernel_rfl))⟩
 f14:=⟨Tryz.f84.name,by decide,Tryz.func84.trans (congrArg some (by kernel_rfl))⟩
 f15:=Tryz.func85.trans (congrArg some (by kernel_rfl))
 f20:=⟨Tryz.f122.name,by decide,Tryz.func122.trans (congrArg some (by kernel_rfl))⟩
 f21:=⟨Tryz.f123.name,by decide,Tryz.func123.trans (congrArg some (by kernel_rfl))⟩
 f22:=⟨Tryz.f124.name,by decide,Tryz.func124.trans (congrArg some (by kernel_rfl))⟩
 f23:=⟨Tryz.f125.name,by decide,Tryz.func125.trans (congrArg some (by kernel_rfl))⟩
 f24:=⟨Tryz.f126.name,by decide,Tryz.func126.trans (congrArg some (by kernel_rfl))⟩
 f25:=⟨Tryz.f127.name,by decide,Tryz.func127.trans (congrArg some (by kernel_rfl))⟩
 f26:=⟨Tryz.f128.name,by decide,Tryz.func128.trans (congrArg some (by kernel_rfl))⟩
 f27:=⟨Tryz.f129.name,by decide,Tryz.func129.trans (congrArg some (by kernel_rfl))⟩
 f28:=Tryz.func130.trans (congrArg some (by kernel_rfl))
 f29:=Tryz.func131.trans (congrArg some (by kernel_rfl))
 f46:=⟨Tryz.f167.name,by decide,Tryz.func167.trans (congrArg some (by kernel_rfl))⟩
 f47:=Tryz.func168.trans (congrArg some (by kernel_rfl))
 f48:=Tryz.func169.trans (congrArg some (by kernel_rfl))
 f49:=⟨Tryz.f170.name,by decide,Tryz.func170.trans (congrArg some (by kernel_rfl))⟩
 f50:=⟨Tryz.f171.name,by decide,Tryz.func171.trans (congrArg some (by kernel_rfl))⟩
 f57:=⟨Tryz.f192.name,by decide,Tryz.func192.trans (congrArg some (by kernel_rfl))⟩
 t0:=Tryz.underlying0
 a0:=Tryz.isAgg0
 z0:=Tryz.sizeOf0
 v0:=Tryz.zeroValue0
 t3:=Tryz.underlying3
 a3:=Tryz.isAgg3
 z3:=Tryz.sizeOf3
 v3:=Tryz.zeroValue3
 t4:=Tryz.underlying4
 a4:=Tryz.isAgg4
 z4:=Tryz.sizeOf4
 v4:=Tryz.zeroValue4
 t5:=Tryz.underlying5
 a5:=Tryz.isAgg5
 z5:=Tryz.sizeOf5
 v5:=Tryz.zeroValue5
 t9:=Tryz.underlying9
 a9:=Tryz.isAgg9
 z9:=Tryz.sizeOf9
 v9:=Tryz.zeroValue9
 t22:=Tryz.underlying43
 a22:=Tryz.isAgg43
 z22:=Tryz.sizeOf43
 v22:=Tryz.zeroValue43
 t25:=Tryz.underlying85
 a25:=Tryz.isAgg85
 z25:=Tryz.sizeOf85
 v25:=Tryz.zeroValue85
 t39:=Tryz.underlying127
 a39:=Tryz.isAgg127
 z39:=Tryz.sizeOf127
 v39:=Tryz.zeroValue127
 t45:=Tryz.underlying165
 a45:=Tryz.isAgg165
 z45:=Tryz.sizeOf165
 v45:=Tryz.zeroValue165
 t46:=Tryz.underlying166
 a46:=Tryz.isAgg166
 z46:=Tryz.sizeOf166
 v46:=Tryz.zeroValue166
 t50:=Tryz.underlying170
 a50:=Tryz.isAgg170
 z50:=Tryz.sizeOf170
 v50:=Tryz.zeroValue170
 t53:=Tryz.underlying121
 a53:=Tryz.isAgg121
 z53:=Tryz.sizeOf121
 v53:=Tryz.zeroValue121
 t55:=Tryz.underlying35
 a55:=Tryz.isAgg35
 z55:=Tryz.sizeOf35
 v55:=Tryz.zeroValue35
 t66:=Tryz.underlying198
 a66:=Tryz.isAgg198
 z66:=Tryz.sizeOf198
 v66:=Tryz.zeroValue198
 t70:=Tryz.underlying202
 a70:=Tryz.isAgg202
 z70:=Tryz.sizeOf202
 v70:=Tryz.zeroValue202
 t76:=Tryz.underlying217
 a76:=Tryz.isAgg217
 z76:=Tryz.sizeOf217
 v76:=Tryz.zeroValue217
 t77:=Tryz.underlying218
 a77:=Tryz.isAgg218
 z77:=Tryz.sizeOf218
 v77:=Tryz.zeroValue218 }
end Go.Proofs.YtpkeacnacjnlcaaGreat
namespace Go.Proofs.YtpkeacnacjnlcaaGreat
open Go.RowKit Go.Shelf Go.Sort Go.Lib
theorem run_loadBytes {P:Program} (W:World):∀(n:Nat) (a:Addr) (acc:ByteArray) (xs:List UInt8),xs.length=n→(∀k (h:k<xs.length),W.cell? (a.add k)=some (.int .u8 (xs[k].toNat:Int)))→(Extern.Bytes.loadBytes a n acc).run P W= .ok ⟨acc.data++xs.toArray⟩ W:=by
 intro n
 induction n with
 |zero=>
  intro a acc xs hl h
  obtain rfl:=List.eq_nil_of_length_eq_zero hl
  simp[Extern.Bytes.loadBytes]
 |succ n ih=>
  intro a acc xs hl h
  rcases xs with _|⟨x,xs⟩
  ·simp at hl
  ·have h0:=h 0 (by simp)
   simp only[List.getElem_cons_zero]at h0
   have e0:a.add 0=a:=by simp[Addr.add]
   rw[e0]at h0
   have hr:=ih (a.add 1) (acc.push x) xs (by simpa using hl) (fun k hk=>by
    have:=h (k+1) (by simpa using hk)
    rw[add_of_add,Nat.add_comm]
    simpa using this)
   unfold Extern.Bytes.loadBytes
   simp[h0,Sem.run_bind,Result.andThen]
   rw[hr]
   simp
theorem run_bytesR {P:Program} {W:World} {B n c:Nat} {A:Option Addr} {xs:List UInt8} (h:Reads W B 1 A n (u8s xs)):(Extern.Bytes.bytesOf (.slice A n c)).run P W= .ok ⟨xs.toArray⟩ W:=by
 have hl:=h.len8
 rcases A with _|a
 ·rcases Nat.eq_zero_or_pos n with h0|h0
  ·subst h0
   obtain rfl:=List.eq_nil_of_length_eq_zero hl
   simp[Extern.Bytes.bytesOf]
   rfl
  ·obtain⟨ad,e,-⟩:=h.2 h0
   cases e
 ·unfold Extern.Bytes.bytesOf
  rw[run_loadBytes W n a .empty xs hl fun k hk=>by
   obtain⟨ad,e,-,hc⟩:=h.2 (by omega)
   cases e
   exact hc k _ (by unfold u8s;rw[List.getElem?_map,List.getElem?_eq_getElem hk];rfl)]
  simp
theorem run_cmpB {P:Program} {W:World} {B n c B' n' c':Nat} {A A':Option Addr} {xs ys:List UInt8} (h:Reads W B 1 A n (u8s xs)) (h':Reads W B' 1 A' n' (u8s ys)):(Extern.BytealgCompare.compare #[.slice A n c,.slice A' n' c']).run P W= .ok (.int .i64 (compareBytes xs ys)) W:=by
 change Sem.run P (do pure (goInt (Extern.BytealgCompare.cmp (←Extern.Bytes.bytesOf (.slice A n c)) (←Extern.Bytes.bytesOf (.slice A' n' c'))))) W=_
 simp only[Sem.run_bind,Sem.run_pure,run_bytesR h,run_bytesR h',Result.andThen]
 rw[cmp_eq]
 rfl
set_option maxRecDepth 100000 in
theorem compare8_any (xs ys:List UInt8) (A A':Option Addr) (n c n' c' B B':Nat) (W:World) (h:Reads W B 1 A n (u8s xs)) (h':Reads W B' 1 A' n' (u8s ys)):
 Calls Tryz.prog 46 #[.slice A n c,.slice A' n' c'] W fun e w'=>e= .returned (.int .i64 (compareBytes xs ys))∧w'=W:=by
 go_enter Tryz.func46,Tryz.ntmps46
 go_wp2
 rw[run_callFunc_extern Tryz.func87 (by kernel_rfl) (by kernel_rfl) (by kernel_rfl) (e:=Extern.BytealgCompare.compare) (by kernel_rfl),run_cmpB h h']
 simp only[Result.andThen]
 rw[Oper.upon_value]
 go_wp2
 go_ret
 exact⟨rfl,rfl⟩
set_option maxRecDepth 100000 in
set_option maxHeartbeats 1600000 in
theorem byItem_any (x y:It) (A A' Av Av':Option Addr) (n c n' c' m d m' d' B B':Nat) (W:World) (h:Reads W B 1 A n (u8s x.k)) (h':Reads W B' 1 A' n' (u8s y.k)) (hB:B≤W.heap.size) (hB':B'≤W.heap.size):
 Calls Tryz.prog 44 #[.agg #[.slice A n c,.slice Av m d],.agg #[.slice A' n' c',.slice Av' m' d']] W fun r w'=>r= .returned (.int .i64 (compareBytes x.k y.k))∧Grows W w':=by
 have hG:Grows W ((W.alloc (.cells #[.slice A n c,.slice Av m d] 52)).alloc (.cells #[.slice A' n' c',.slice Av' m' d'] 52)):=((Grows.refl _).alloc _).alloc _
 have k1:Reads ((W.alloc (.cells #[.slice A n c,.slice Av m d] 52)).alloc (.cells #[.slice A' n' c',.slice Av' m' d'] 52)) B 1 A n (u8s x.k):=(h.alloc hB _).alloc (by simp;omega) _
 have k2:Reads ((W.alloc (.cells #[.slice A n c,.slice Av m d] 52)).alloc (.cells #[.slice A' n' c',.slice Av' m' d'] 52)) B' 1 A' n' (u8s y.k):=(h'.alloc hB' _).alloc (by simp;omega) _
 have HC:=Lib.hid (compare8_any x.k y.k A A' n c n' c' B B' _ k1 k2)
 have HG:=Lib.hid hG
 clear hG k1 k2 h h'
 go_enter Tryz.func44,Tryz.ntmps44
 go_wp2_with fail
 refine HC.out.mono ?_
 rintro r w' ⟨rfl,rfl⟩
 go_wp2_with fail
 go_ret
 exact⟨rfl,HG.out⟩
/-- An item whose key lies elsewhere than in block g. -/
def KeyOff (w:World) (g:Nat) (e:ItH):Prop:=Reads w w.heap.size 1 e.2.1.1 e.2.1.2.1 (u8s e.1.k)∧∀a,e.2.1.1=some a→a.block≠g
abbrev KIt (w:World) (g:Nat):={e:ItH // KeyOff w g e}
def cmpIt (e f:ItH):Int:=compareBytes e.1.k f.1.k
instance (w:World) (g:Nat):Inhabited (KIt w g):=⟨⟨(⟨[],[]⟩,(none,0,0),(none,0,0)),⟨Reads.none_,fun a e=>by cases e⟩⟩⟩
def encKI {w:World} {g:Nat} (e:KIt w g):List Value:=encIt e.1
def kiV {w:World} {g:Nat} (l:List (KIt w g)):List Value:=l.flatMap encKI
theorem kiV_eq {w:World} {g:Nat} (l:List (KIt w g)):kiV l=itsV (l.map (·.1)):=by unfold kiV itsV;rw[List.flatMap_map];rfl
theorem kiV_length {w:World} {g:Nat} (l:List (KIt w g)):(kiV l).length=l.length*2:=by rw[kiV_eq,itsV_length,List.length_map]
theorem kiV_at {w0:World} {g0:Nat} {l:List (KIt w0 g0)} {j:Nat} {u:Value} (h:(kiV l)[j]?=some u):∃hk:j/2<l.length,u=(encKI l[j/2])[j%2]!:=by
 induction l generalizing j with
 |nil=>simp[kiV]at h
 |cons e l ih=>
  have hc:kiV (e::l)=encKI e++kiV l:=rfl
  rw[hc]at h
  have hl:(encKI e).length=2:=rfl
  by_cases hj:j<2
  ·rw[List.getElem?_append_left (by omega)]at h
   have h0:j/2=0:=by omega
   have h1:j%2=j:=by omega
   refine⟨by simp[h0],?_⟩
   simp only[h0,h1,List.getElem_cons_zero]
   rw[List.getElem!_eq_getElem?_getD,h]
   rfl
  ·rw[List.getElem?_append_right (by omega),hl]at h
   obtain⟨hk,hu⟩:=ih h
   have e1:j/2=(j-2)/2+1:=by omega
   have e2:j%2=(j-2)%2:=by omega
   refine⟨by simp;omega,?_⟩
   simp only[e1,e2,List.getElem_cons_succ]
   exact hu
theorem holdsI_own {w0:World} {g0:Nat} {w:World} {base:Nat} {t:TypeId} {g n cap:Nat} {d:List (KIt w0 g0)} (h:w.ownsRow base t 2 (.slice (some ⟨g,0,none⟩) n cap) n (kiV d)):HoldsK encKI 2 w g 0 d.toArray:=fun j hj=>by
 rw[size_flatK]at hj
 have hl:d.length*2=n*2:=by rw[←kiV_length];exact h.1
 have hj':j<n*2:=by simp at hj;omega
 refine⟨?_,?_⟩
 ·rw[Nat.zero_add,h.cellAt j hj',get_flatK _ _ _ _ hj]
  have hl2:j<(kiV d).length:=by rw[h.1];exact hj'
  obtain⟨hk,hu⟩:=kiV_at (List.getElem?_eq_getElem hl2)
  rw[List.getElem?_eq_getElem hl2,hu]
  simp[hk]
 ·rw[Nat.zero_add]
  exact h.frozenAt j
theorem reads_holdsI {w0:World} {g0:Nat} {w:World} {g:Nat} {d:List (KIt w0 g0)} (hg:g<w.heap.size) (h:HoldsK encKI 2 w g 0 d.toArray):Reads w w.heap.size 2 (some ⟨g,0,none⟩) d.length (kiV d):=by
 refine⟨kiV_length d,fun _=>⟨_,rfl,hg,fun j u hu=>?_⟩⟩
 obtain⟨hk,rfl⟩:=kiV_at hu
 rw[add_row]
 have:=(h.cell (i:=j/2) (c:=j%2) (by simpa using hk) (by omega)).1
 rw[show 0+j/2*2+j%2=j by omega]at this
 rw[this]
 simp[hk]
theorem grownBy_sortI {w0:World} {g0:Nat} {w:World} {g n:Nat} {os:Array Obj} (d:Array (KIt w0 g0)):w.grownBy (sortWorldK encKI 2 w g 0 n d os) (some g):=by
 refine⟨rfl,rfl,rfl,by simp[sortWorldK,putRowK,grow,Sort.ahead],fun k hk hne=>?_⟩
 unfold sortWorldK
 rw[heap_grow_old _ _ (by simpa[putRowK,Sort.ahead]using hk)]
 have:g≠k:=fun e=>hne (by rw[e])
 simp[putRowK,putRow,mapBlock,Sort.ahead,Array.getElem?_modify,this]
theorem own_sortI {w0:World} {g0:Nat} {w:World} {base:Nat} {t:TypeId} {g n cap m:Nat} {d:List (KIt w0 g0)} {d':Array (KIt w0 g0)} {os:Array Obj} (h:w.ownsRow base t 2 (.slice (some ⟨g,0,none⟩) n cap) n (kiV d)) (hs:d'.size=n)
 (hR:Reads (sortWorldK encKI 2 w g 0 m d' os) (sortWorldK encKI 2 w g 0 m d' os).heap.size 2 (some ⟨g,0,none⟩) d'.toList.length (kiV d'.toList)):
 (sortWorldK encKI 2 w g 0 m d' os).ownsRow base t 2 (.slice (some ⟨g,0,none⟩) n cap) n (kiV d'.toList):=by
 rcases h.2 with ⟨h0,-⟩|⟨g',cap',cur,he,hb,hg,hnc,hcm,hcs,htk⟩
 ·cases h0
 ·cases he
  have hlt:g<w.heap.size:=(Array.getElem?_eq_some_iff.1 hg).1
  have hW:∃cur',(sortWorldK encKI 2 w g 0 m d' os).heap[g]?=some (.cells cur' t (0,0))∧cur'.size=cur.size:=by
   refine⟨putCells id 0 (flatK encKI 2 d') cur,?_,?_⟩
   ·unfold sortWorldK
    rw[heap_grow_old _ _ (by simpa[putRowK,putRow,mapBlock,Sort.ahead]using hlt)]
    simp[putRowK,putRow,mapBlock,Sort.ahead,Array.getElem?_modify,hg,onCells]
   ·simp[putCells]
  obtain⟨cur',h1,h2⟩:=hW
  refine⟨by rw[kiV_length];simp[hs],.inr ⟨g,cap,cur',rfl,hb,h1,hnc,hcm,by rw[h2,hcs],?_⟩⟩
  apply List.ext_getElem?
  intro j
  by_cases hj:j<n*2
  ·rw[List.getElem?_take,if_pos hj,Array.getElem?_toList,←cell_of_row _ g j cur' t (0,0) h1]
   obtain⟨ad,e,-,hc⟩:=hR.2 (by simp;omega)
   cases e
   have hl:j<(kiV d'.toList).length:=by rw[kiV_length];simp[hs];omega
   have:=hc j _ (List.getElem?_eq_getElem hl)
   rw[add_row]at this
   rw[this,List.getElem?_eq_getElem hl]
  ·rw[List.getElem?_eq_none (by simp;omega),List.getElem?_eq_none (by rw[kiV_length];simp[hs];omega)]
theorem perm_listI {w0:World} {g0:Nat} {d:List (KIt w0 g0)} {d':Array (KIt w0 g0)} (h:PermIn 0 d.toArray.size d.toArray d'):d'.toList.Perm d∧d'.size=d.length:=by
 obtain⟨h1,-,h2⟩:=h
 refine⟨?_,by simpa using h1⟩
 rw[←h1,Array.extract_size,h1,Array.extract_size]at h2
 simpa using h2
theorem cmpIt_swo {w:World} {g:Nat}:SWO (ltOf (fun e f:KIt w g=>cmpIt e.1 f.1)) where
 irrefl x:=by
  show decide (compareBytes x.1.1.k x.1.1.k<0)=false
  rw[cb_self];decide
 trans x y z h1 h2:=by
  unfold ltOf at *
  rw[decide_eq_true_iff]at *
  exact cb_trans h1 h2
 ntrans x y z h1 h2:=by
  unfold ltOf at *
  rw[decide_eq_false_iff_not]at *
  intro h
  by_cases e:ltK y.1.1.k x.1.1.k
  ·exact h2 (by
    have h3:¬ltK y.1.1.k z.1.1.k:=h2
    exact absurd (ltK_trans e h) h3)
  ·have:x.1.1.k=y.1.1.k:=ltK_total h1 e
   exact h2 (by show compareBytes y.1.1.k z.1.1.k<0;rw[←this];exact h)
theorem cmpIt_lays (w:World) (g size:Nat):CmpLays Tryz.prog 44 #[] (encKI (w:=w) (g:=g)) 2 (fun e f=>cmpIt e.1 f.1) g 0 size w:=fun m os dk _ x y=>by
 have hg:=grownBy_sortI (w0:=w) (g0:=g) (w:=w) (g:=g) (n:=m) (os:=os) dk
 have hr:∀e:KIt w g,Reads (sortWorldK encKI 2 w g 0 m dk os) w.heap.size 1 e.1.2.1.1 e.1.2.1.2.1 (u8s e.1.1.k):=fun e=>by
  obtain⟨h1,h2⟩:=e.2
  refine⟨h1.1,fun h0=>?_⟩
  obtain⟨ad,e1,hb,hc⟩:=h1.2 h0
  refine⟨ad,e1,hb,fun k u hu=>?_⟩
  rw[←hc k u hu]
  exact World.cell?_of_block (by rw[block_of_add];exact hg.block _ hb (fun e'=>h2 ad e1 (by cases e';rfl)))
 exact byItem_any x.1.1 y.1.1 _ _ _ _ _ _ _ _ _ _ _ _ _ _ _ (hr x) (hr y) hg.size hg.size
/-- Items whose keys lie elsewhere, sorted by them. -/
theorem sortItR_any (d:List ItH) (g n cap base:Nat) (w:World) (hown:w.ownsRow base 52 2 (.slice (some ⟨g,0,none⟩) n cap) n (itsV d)) (hk:∀e∈d,KeyOff w g e) (hn:n≤1048576):
 Calls Tryz.prog 43 #[.slice (some ⟨g,0,none⟩) n cap,.func (.func 44) #[] #[]] w fun e w'=>e= .returned (.tuple #[])∧∃d':List ItH,d'.Perm d∧d'.Pairwise (fun e f=>¬ltK f.1.k e.1.k)∧w'.ownsRow base 52 2 (.slice (some ⟨g,0,none⟩) n cap) n (itsV d')∧w.grownBy w' (some g):=by
 obtain⟨dk,hdk⟩:∃dk:List (KIt w g),dk.map (·.1)=d:=⟨d.attach.map fun x=>⟨x.1,hk x.1 x.2⟩,by rw[List.map_map];exact List.attach_map_subtype_val d⟩
 rw[←hdk,←kiV_eq]at hown
 have hl:dk.length=n:=by have h:=hown.1;rw[kiV_length]at h;omega
 have hg:g<w.heap.size:=(hown.lt g rfl).2
 have hH:=holdsI_own hown
 have eg:∀args w,(callFunc 44 args).run Tryz.prog w= .ok (.enter 44 args) w:=enters_of Tryz.func44 (by kernel_rfl) rfl
 have hcon:=AnyQ.slices_SortFunc sortIt 2 Tryz.isAgg52 Tryz.sizeOf52 (encKI (w:=w) (g:=g)) (fun _=>rfl) (fun x v hv=>by simp[encKI,encIt]at hv;rcases hv with rfl|rfl<;>rfl) (fun e f=>cmpIt e.1 f.1) cmpIt_swo 44 #[] g 0 cap dk.toArray w eg (cmpIt_lays w g dk.toArray.size) hH hg (by simp;omega)
 change Calls Tryz.prog 43 _ _ _ at hcon
 rw[List.size_toArray,hl]at hcon
 refine hcon.mono ?_
 rintro e w' ⟨he,d',m,os,hp,hsd,rfl⟩
 rw[←hl,←List.size_toArray]at hp hsd
 obtain⟨h1,h2⟩:=perm_listI hp
 have hSW:SWK encKI 2 w g 0 d' (sortWorldK encKI 2 w g 0 m d' os):=⟨m,os,rfl⟩
 have hH':=hSW.holds hg hH (by simpa using h2)
 have hR:=reads_holdsI (d:=d'.toList) (hSW.lt hg) (by simpa using hH')
 have ho:=own_sortI (m:=m) (os:=os) hown (by rw[h2,hl]) hR
 rw[kiV_eq]at ho
 refine⟨he,d'.toList.map (·.1),by rw[←hdk];exact h1.map _,?_,ho,grownBy_sortI d'⟩
 rw[List.pairwise_map,List.pairwise_iff_getElem]
 intro i j hi hj hij
 have:=hsd i j (Nat.zero_le _) hij (by simpa[h2]using hj)
 unfold ltOf at this
 rw[decide_eq_false_iff_not]at this
 rw[getElem!_pos d' j (by simpa using hj),getElem!_pos d' i (by simpa using hi)]at this
 unfold ltK
 unfold cmpIt at this
 simpa using this
/-- Items of the call's own, sorted by their keys. -/
theorem sortIt_any (d:List ItH) (g n cap base:Nat) (w:World) (h:ItsOwn base w (some ⟨g,0,none⟩) n cap d) (hn:n≤1048576):
 Calls Tryz.prog 43 #[.slice (some ⟨g,0,none⟩) n cap,.func (.func 44) #[] #[]] w fun e w'=>e= .returned (.tuple #[])∧∃d':List ItH,d'.Perm d∧d'.Pairwise (fun e f=>¬ltK f.1.k e.1.k)∧ItsOwn base w' (some ⟨g,0,none⟩) n cap d'∧w.grownBy w' (some g):=by
 refine(sortItR_any d g n cap base w h.1 (fun e he=>⟨(h.2 e he).1.1,fun a ha e'=>?_⟩) hn).mono ?_
 ·obtain⟨-,cs,fr,hb⟩:=(h.2 e he).1.2.2 a ha
  rw[e']at hb
  exact own_ne_cells h.1 hb (by decide) rfl
 ·rintro e w' ⟨he,d',hp,hs,ho,hg⟩
  refine⟨he,d',hp,hs,⟨ho,fun x hx=>(h.2 x (hp.mem_iff.1 hx)).heap hg.size fun q _ _ hb=>hg.block q (Array.getElem?_eq_some_iff.1 hb).1 (own_ne_cells h.1 hb (by decide))⟩,hg⟩
end Go.Proofs.YtpkeacnacjnlcaaGreat
namespace Go.Proofs.YtpkeacnacjnlcaaGreat
open Go.RowKit Go.Lib
set_option maxHeartbeats 1600000 in
theorem equal8_any (xs ys:List UInt8) (A A':Option Addr) (n c n' c':Nat) (w:World) (h:Reads w w.heap.size 1 A n (u8s xs)) (h':Reads w w.heap.size 1 A' n' (u8s ys)):
 Calls Tryz.prog 41 #[.slice A n c,.slice A' n' c'] w fun e w'=>e= .returned (.bool (xs==ys))∧Below w.heap.size w w':=by
 have s1:=run_str (c:=c) h
 have s2:=run_str (c:=c') h'
 go_enter Tryz.func41,Tryz.ntmps41
 go_wp2_with fail
 go_ret
 exact⟨rfl,Below.refl _ _⟩
set_option maxHeartbeats 3200000 in
theorem sameIt_any (x y:ItH) (w:World) (h:RdIt w w.heap.size x) (h':RdIt w w.heap.size y):
 Calls Tryz.prog 63 #[.agg #[.slice x.2.1.1 x.2.1.2.1 x.2.1.2.2,.slice x.2.2.1 x.2.2.2.1 x.2.2.2.2],.agg #[.slice y.2.1.1 y.2.1.2.1 y.2.1.2.2,.slice y.2.2.1 y.2.2.2.1 y.2.2.2.2]] w fun e w'=>e= .returned (.bool (decide (x.1=y.1)))∧Below w.heap.size w w':=by
 obtain⟨⟨xk,xv⟩,⟨A,n,c⟩,⟨B,m,d⟩⟩:=x
 obtain⟨⟨yk,yv⟩,⟨A',n',c'⟩,⟨B',m',d'⟩⟩:=y
 obtain⟨w1,hw1⟩:∃X,X=(w.alloc (.cells #[.slice A n c,.slice B m d] 52)).alloc (.cells #[.slice A' n' c',.slice B' m' d'] 52):=⟨_,rfl⟩
 have hb0:Below w.heap.size w (w.alloc (.cells #[.slice A n c,.slice B m d] 52)):=(Below.refl _ _).alloc (Nat.le_refl _) _
 have hb1:Below w.heap.size w w1:=by rw[hw1];exact hb0.alloc (by simp) _
 have b1:Blk w1 w.heap.size 52 #[.slice A n c,.slice B m d]:=by rw[hw1];exact Blk.alloc (Blk.new w _ _) _
 have b2:Blk w1 (w.heap.size+1) 52 #[.slice A' n' c',.slice B' m' d']:=by
  rw[hw1]
  have:=Blk.new (w.alloc (.cells #[.slice A n c,.slice B m d] 52)) 52 #[.slice A' n' c',.slice B' m' d']
  rw[World.size_alloc]at this
  exact this
 have q1:=Blk.cell (i:=0) b1
 have q2:=Blk.cell (i:=1) b1
 have q3:=Blk.cell (i:=0) b2
 have q4:=Blk.cell (i:=1) b2
 simp only[List.getElem?_toArray,List.getElem?_cons_zero,List.getElem?_cons_succ]at q1 q2 q3 q4
 have HR:=Lib.hid (And.intro (h.on hb1) (And.intro (h'.on hb1) (And.intro hb1 (And.intro (Blk.lt b1) (Blk.lt b2)))))
 clear h h' hb0 hb1 b1 b2
 go_enter Tryz.func63,Tryz.ntmps63
 go_upto_region 1 with fail
 try simp only[World.size_alloc]
 rw[←hw1]
 clear hw1
 go_wp2_with fail
 refine(equal8_any xk yk A A' n c n' c' w1 HR.out.1.1.1 HR.out.2.1.1.1).mono ?_
 rintro e w2 ⟨rfl,hb2⟩
 have HR2:=Lib.hid (And.intro (HR.out.1.on hb2) (And.intro (HR.out.2.1.on hb2) (below_on HR.out.2.2.1 (Nat.le_refl _) hb2)))
 have r2:=(hb2.cell (p:=⟨w.heap.size,1,none⟩) HR.out.2.2.2.1).trans q2
 have r4:=(hb2.cell (p:=⟨w.heap.size+1,1,none⟩) HR.out.2.2.2.2).trans q4
 clear HR q1 q2 q3 q4 hb2
 by_cases hk:xk=yk
 ·rw[show (xk==yk)=true from beq_iff_eq.2 hk]
  have HK:=Lib.hid hk
  clear hk
  go_wp2_with fail
  refine(equal8_any xv yv B B' m d m' d' w2 HR2.out.1.2.1 HR2.out.2.1.2.1).mono ?_
  rintro e w3 ⟨rfl,hb3⟩
  have HB:=Lib.hid (below_on HR2.out.2.2 (Nat.le_refl _) hb3)
  obtain⟨b,hb⟩:∃b,(xv==yv)=b:=⟨_,rfl⟩
  have HQ:=Lib.hid hb
  rw[hb]
  clear hb3 hb r2 r4 HR2
  go_wp2_with fail
  go_ret
  refine⟨?_,HB.out⟩
  have hbb:b=decide ((⟨xk,xv⟩:It)=⟨yk,yv⟩):=by
   rw[←HQ.out]
   by_cases hv:xv=yv
   ·rw[beq_iff_eq.2 hv,decide_eq_true (by rw[HK.out,hv])]
   ·rw[beq_eq_false_iff_ne.2 hv,decide_eq_false (fun h=>hv (congrArg It.v h))]
  rw[←hbb]
  rfl
 ·rw[show (xk==yk)=false from beq_eq_false_iff_ne.2 hk]
  have HK:=Lib.hid hk
  have HB:=Lib.hid HR2.out.2.2
  clear hk r2 r4 HR2
  go_wp2_with fail
  go_ret
  refine⟨?_,HB.out⟩
  rw[show decide ((⟨xk,xv⟩:It)=⟨yk,yv⟩)=false from decide_eq_false (fun h=>HK.out (congrArg It.k h))]
  rfl
theorem less_ltK:∀x y:List UInt8,Op.bytesLess x y=decide (ltK x y)
 |[],[]=>rfl
 |[],_::_=>rfl
 |_::_,[]=>rfl
 |a::x,b::y=>by
  unfold Op.bytesLess ltK compareBytes
  rw[less_ltK x y]
  by_cases h1:a<b
  ·rw[if_pos h1];simp[h1]
  ·by_cases h2:b<a
   ·rw[if_neg h1,if_pos h2]
    have:¬a=b:=fun e=>by subst e;exact h1 h2
    simp[h1,this]
   ·rw[if_neg h1,if_neg h2]
    have:a=b:=UInt8.le_antisymm (UInt8.not_lt.1 h2) (UInt8.not_lt.1 h1)
    subst this
    simp[ltK,UInt8.lt_irrefl]
    rfl
set_option maxRecDepth 100000 in
set_option maxHeartbeats 1600000 in
theorem find_any (d:List ItH) (key:List UInt8) (A K:Option Addr) (n c m mc:Nat) (w:World) (h:ItsAt w w.heap.size A n c d) (hk:Reads w w.heap.size 1 K m (u8s key)) (hn:n≤1048576):
 Calls Tryz.prog 18 #[.slice A n c,.slice K m mc] w fun e w'=>e= .returned (.int .i64 (findI (d.map (·.1)) key))∧Below w.heap.size w w':=by
 have e0:IntKind.i64.wrap ((n:Int)-1)=(n:Int)-1:=by rw[IntKind.wrap_i64];omega
 have HRD:=Lib.hid (And.intro h (And.intro hk hn))
 have HL:=Lib.hid h.len
 clear h hk
 go_enter Tryz.func18,Tryz.ntmps18
 go_wp2_with fail
 go_loopw [5] (fun i wr=>∃I:Int,-1≤I∧I<n∧i= .int .i64 I∧Hid (findI (d.map (·.1)) key=findN (d.map (·.1)) key (I+1).toNat)∧Below w.heap.size w wr) (fun i _=>(intOf i+1).toNat)
 case atStart=>exact⟨(n:Int)-1,by omega,by omega,rfl,by unfold findI;rw[List.length_map,HL.out,show((n:Int)-1+1).toNat=n by omega];rfl,Below.refl _ _⟩
 case round=>
  obtain⟨I,hI0,hIn,rfl,HF,hbel⟩:=hrel
  by_cases hlt:0≤I
  ·obtain⟨k,rfl⟩:=Int.eq_ofNat_of_zero_le hlt
   have hkn:k<n:=by omega
   have hw1:IntKind.i64.wrap ((k:Int)-1)=(k:Int)-1:=by rw[IntKind.wrap_i64];omega
   have hI:=HRD.out.1.on hbel
   obtain⟨ad,rfl,-,-⟩:=hI.1.2 (by omega)
   have hkd:k<d.length:=by rw[HL.out];exact hkn
   obtain⟨hbk,p1,-⟩:=hI.cells hkn hkd
   have hrk:=(hI.2.1 _ (List.getElem_mem hkd)).1.1
   have hit:(itAt (d.map (·.1)) k).k=d[k].1.k:=by rw[itAt_lt (by rw[List.length_map];exact hkd),List.getElem_map]
   generalize d[k]=x at *
   obtain⟨⟨xk,xv⟩,⟨xA,xn,xc⟩,xh⟩:=x
   have hst:Hid (findN (d.map (·.1)) key (k+1)=if xk=key then(k:Int)else findN (d.map (·.1)) key k):=by show(if (itAt (d.map (·.1)) k).k=key then _ else _)=_;rw[hit]
   have s1:=run_str (c:=xc) (show Reads wr wr.heap.size 1 xA xn (u8s xk) from hrk)
   have s2:=run_str (c:=mc) (HRD.out.2.1.on hbel)
   have hP0:(wr.drew.cell? (ad.add (k*2))=some (.slice xA xn xc))∧(convert 50 9 (.slice xA xn xc)).run Tryz.prog wr.drew= .ok (.string ⟨xk.toArray⟩) wr.drew∧(convert 50 9 (.slice K m mc)).run Tryz.prog wr.drew= .ok (.string ⟨key.toArray⟩) wr.drew:=⟨p1,run_str (c:=xc) (show Reads wr wr.heap.size 1 xA xn (u8s xk) from hrk).drew,run_str (c:=mc) (HRD.out.2.1.on hbel).drew⟩
   have HB:=Lib.hid hbel
   clear hit hrk hI p1 s1 s2 hbel
   go_upto_region 4 with fail
   refine wp_region_held_drew (S:=fun V=>(V.cell? (ad.add (k*2))=some (.slice xA xn xc))∧(convert 50 9 (.slice xA xn xc)).run Tryz.prog V= .ok (.string ⟨xk.toArray⟩) V∧(convert 50 9 (.slice K m mc)).run Tryz.prog V= .ok (.string ⟨key.toArray⟩) V) (by kernel_rfl) ?_ (fun hHeld=>?_)
   ·exact hP0
   refine tk 0 ?_
   refine tk 1 ?_
   refine tk 2 ?_
   refine tk 3 ?_
   refine tk 4 ?_
   refine tk 6 ?_
   refine tk 7 ?_
   refine tk 5 ?_
   refine tk 8 ?_
   refine wpAnyH_done (by kernel_rfl) ?_ _
   clear hHeld hP0
   obtain⟨b,hb⟩:∃b,b=(xk==key):=⟨_,rfl⟩
   rw[←hb]
   have HQ:=Lib.hid hb
   clear hb
   rcases b with _|_
   rotate_left
   ·have hke:xk=key:=beq_iff_eq.1 HQ.out.symm
    have HE:Hid (findI (d.map (·.1)) key=(k:Int)):=by have:=hst.out;rw[if_pos hke]at this;exact HF.out.trans (by rw[show ((k:Int)+1).toNat=k+1 by omega];exact this)
    clear hke
    go_wp2_with fail
    go_ret
    exact⟨by rw[HE.out];rfl,HB.out.drew⟩
   ·have hke:xk≠key:=beq_eq_false_iff_ne.1 HQ.out.symm
    have HE:Hid (findI (d.map (·.1)) key=findN (d.map (·.1)) key k):=by have:=hst.out;rw[if_neg hke]at this;exact HF.out.trans (by rw[show ((k:Int)+1).toNat=k+1 by omega];exact this)
    clear hke
    go_wp2_with fail
    go_roundw
    case rel=>exact⟨(k:Int)-1,by omega,by omega,by go_num,by rw[show ((k:Int)-1+1).toNat=k by omega];exact HE.out,HB.out.drew⟩
    case measure=>first|(simp [intOf];done)|(simp [intOf];omega)
  ·obtain rfl:I= -1:=by omega
   have HB:=Lib.hid hbel
   clear hbel hlt
   go_wp2_with fail
   go_ret
   exact⟨by rw[HF.out];rfl,HB.out⟩
theorem geq_str (t:TypeId) (a b:ByteArray):binOp .geq t (.string a) (.string b)=pure (.bool !(Op.bytesLess a.toList b.toList)):=by simp[binOp,Op.stringOp]
theorem rising_chain {l:List (List UInt8)} (h:∀j (hj:j+1<l.length),ltK (l[j]'(by omega)) l[j+1]):Rising l:=by
 unfold Rising
 rw[List.pairwise_iff_getElem]
 intro i j hi hj hij
 obtain⟨m,rfl⟩:∃m,j=i+m+1:=⟨j-i-1,by omega⟩
 clear hij
 induction m with
 |zero=>exact h i hj
 |succ m ih=>exact ltK_trans (ih (by omega)) (h (i+(m+1)) hj)
theorem Rising.step {l:List (List UInt8)} (h:Rising l) {j:Nat} (hj:j+1<l.length):ltK (l[j]'(by omega)) l[j+1]:=List.pairwise_iff_getElem.1 h j (j+1) (by omega) hj (by omega)
attribute [local go_sem] geq_str
set_option maxRecDepth 100000 in
set_option maxHeartbeats 1600000 in
theorem rising_any (d:List ItH) (A:Option Addr) (n c:Nat) (w:World) (h:ItsAt w w.heap.size A n c d) (hn:n≤1048576):
 Calls Tryz.prog 17 #[.slice A n c] w fun e w'=>∃b:Bool,e= .returned (.bool b)∧(b=true↔Rising (d.map fun y=>y.1.k))∧Below w.heap.size w w':=by
 have HRD:=Lib.hid (And.intro h hn)
 have HL:=Lib.hid h.len
 clear h
 go_enter Tryz.func17,Tryz.ntmps17
 go_wp2_with fail
 go_loopw [3] (fun i wr=>∃k:Nat,(n=0∨k<n)∧i= .int .i64 ((k:Int)+1)∧Hid (∀j (hj:j<k) (hd:j+1<d.length),ltK (d[j]'(by omega)).1.k d[j+1].1.k)∧Below w.heap.size w wr) (fun i _=>n-(intOf i).toNat)
 case atStart=>exact⟨0,by omega,rfl,fun j hj=>absurd hj (by omega),Below.refl _ _⟩
 case round=>
  obtain⟨k,hk,rfl,HF,hbel⟩:=hrel
  by_cases hlt:k+1<n
  ·have hlt':(k:Int)+1<(n:Int):=by omega
   have hkn:k<n:=by omega
   have hp1:(0:Int)≤(k:Int)+1:=by omega
   have hw1:IntKind.i64.wrap (k:Int)=(k:Int):=by rw[IntKind.wrap_i64];omega
   have hw2:IntKind.i64.wrap ((k:Int)+1+1)=(k:Int)+1+1:=by rw[IntKind.wrap_i64];omega
   have hI:=HRD.out.1.on hbel
   obtain⟨ad,rfl,-,-⟩:=hI.1.2 (by omega)
   have hkd:k+1<d.length:=by rw[HL.out];exact hlt
   have hkd0:k<d.length:=by omega
   obtain⟨hbk,p1,-⟩:=hI.cells (by omega:k<n) hkd0
   obtain⟨-,p2,-⟩:=hI.cells hlt hkd
   have hrk:=(hI.2.1 _ (List.getElem_mem hkd0)).1.1
   have hrk2:=(hI.2.1 _ (List.getElem_mem hkd)).1.1
   obtain⟨x,hx⟩:∃x,x=d[k]:=⟨_,rfl⟩
   obtain⟨y,hy⟩:∃y,y=d[k+1]:=⟨_,rfl⟩
   have HXY:=Lib.hid (And.intro hx hy)
   rw[←hx]at p1 hrk
   rw[←hy]at p2 hrk2
   clear hx hy
   obtain⟨⟨xk,xv⟩,⟨xA,xn,xc⟩,xh⟩:=x
   obtain⟨⟨yk,yv⟩,⟨yA,yn,yc⟩,yh⟩:=y
   have hP0:(wr.drew.cell? (ad.add (k*2))=some (.slice xA xn xc))∧(wr.drew.cell? (ad.add ((k+1)*2))=some (.slice yA yn yc))∧(convert 50 9 (.slice xA xn xc)).run Tryz.prog wr.drew= .ok (.string ⟨xk.toArray⟩) wr.drew∧(convert 50 9 (.slice yA yn yc)).run Tryz.prog wr.drew= .ok (.string ⟨yk.toArray⟩) wr.drew:=⟨p1,p2,run_str (c:=xc) (show Reads wr wr.heap.size 1 xA xn (u8s xk) from hrk).drew,run_str (c:=yc) (show Reads wr wr.heap.size 1 yA yn (u8s yk) from hrk2).drew⟩
   have HB:=Lib.hid hbel
   clear hrk hrk2 hI p1 p2 hbel
   go_upto_region 4 with fail
   refine wp_region_held_drew (S:=fun V=>(V.cell? (ad.add (k*2))=some (.slice xA xn xc))∧(V.cell? (ad.add ((k+1)*2))=some (.slice yA yn yc))∧(convert 50 9 (.slice xA xn xc)).run Tryz.prog V= .ok (.string ⟨xk.toArray⟩) V∧(convert 50 9 (.slice yA yn yc)).run Tryz.prog V= .ok (.string ⟨yk.toArray⟩) V) (by kernel_rfl) ?_ (fun hHeld=>?_)
   ·exact hP0
   refine tk 0 ?_
   refine tk 1 ?_
   refine tk 2 ?_
   refine tk 3 ?_
   refine tk 4 ?_
   refine tk 5 ?_
   refine tk 6 ?_
   refine tk 7 ?_
   refine tk 8 ?_
   refine tk 9 ?_
   refine tk 10 ?_
   refine tk 11 ?_
   refine tk 12 ?_
   refine tk 13 ?_
   refine wpAnyH_done (by kernel_rfl) ?_ _
   clear hHeld hP0
   obtain⟨b,hb⟩:∃b,b=!Op.bytesLess xk yk:=⟨_,rfl⟩
   rw[←hb]
   rw[less_ltK]at hb
   have HQ:=Lib.hid hb
   clear hb
   rcases b with _|_
   ·have hke:ltK xk yk:=by
     have:=HQ.out
     simpa using this
    have HE:Hid (∀j (hj:j<k+1) (hd:j+1<d.length),ltK (d[j]'(by omega)).1.k d[j+1].1.k):=fun j hj hd=>by
     by_cases e:j<k
     ·exact HF.out j e hd
     ·obtain rfl:j=k:=by omega
      rw[←HXY.out.1,←HXY.out.2]
      exact hke
    clear hke
    go_wp2_with fail
    go_roundw
    case rel=>exact⟨k+1,by omega,by go_num,HE.out,HB.out.drew⟩
    case measure=>simp[intOf];omega
   ·have hke:¬ltK xk yk:=by
     have:=HQ.out
     simpa using this
    have HE:Hid (¬Rising (d.map fun y=>y.1.k)):=fun hr=>by
     have:=hr.step (j:=k) (by rw[List.length_map];exact hkd)
     rw[List.getElem_map,List.getElem_map,←HXY.out.1,←HXY.out.2]at this
     exact hke this
    clear hke
    go_wp2_with fail
    go_ret
    exact⟨false,rfl,⟨fun h=>(nomatch h),fun h=>absurd h HE.out⟩,HB.out.drew⟩
  ·have hlt':¬(k:Int)+1<(n:Int):=by omega
   have HE:Hid (Rising (d.map fun y=>y.1.k)):=rising_chain fun j hj=>by
    rw[List.length_map]at hj
    rw[List.getElem_map,List.getElem_map]
    exact HF.out j (by have:=HL.out;omega) hj
   have HB:=Lib.hid hbel
   clear hbel hlt
   go_wp2_with fail
   go_ret
   first
   |exact⟨true,rfl,⟨fun _=>HE.out,fun _=>rfl⟩,HB.out⟩
   |exact Or.inr ⟨rfl,HE.out,HB.out⟩
end Go.Proofs.YtpkeacnacjnlcaaGreat
