/- strings.Builder's methods, as contracts of the machine. -/
import Derived.Test.YtomalcfghdaghaaGreatDoorBldK
import Derived.Test.YtomalcfghdaghaaGreatDoorAmX
set_option linter.unusedVariables false
namespace Go.AM
open Go.RowKit Go.Shelf Go.Lib Go.Proofs
theorem cells_same {w w':World} {b:Nat} (h:w'.heap[b]?=w.heap[b]?) (o:Nat):w'.cell? ⟨b,o,none⟩=w.cell? ⟨b,o,none⟩∧w'.frozen? ⟨b,o,none⟩=w.frozen? ⟨b,o,none⟩:=by
 simp [World.cell?,World.frozen?,h]
open Classical in
theorem bld_post [VR:Vars] {w w':World} {ω:Nat→Nat→Owner} {η:Nat→Nat} {H:List HObj} {id:Nat} {T e:TypeId} {b b':ByteArray} (hpre:Pre w ω η H) (hid:H[id]?=some (.bld T e b))
  (hfr:BldFrame (η id) w w') (hb':IsBuilderF T e 0 (η id) (byteCells b'.data.toList) w') :
  ∃ω',Pre w' ω' η (H.set id (.bld T e b'))∧(∀k,k<w.heap.size→∀o,((∀id i,ω k o≠.ht id i)→ω' k o=ω k o)∧∀id,ω' k o=.h id→ω k o=.h id)∧Keeps w ω w':=by
 obtain ⟨hω00,hbl,hrow⟩:=hpre.heap id _ hid
 have hω0:=hω00 0
 have hlen:(H.set id (.bld T e b')).length=H.length:=List.length_set
 have hidl:id<H.length:=(List.getElem?_eq_some_iff.1 hid).1
 let ω':Nat→Nat→Owner:=fun k o=>if w.heap.size≤k∧BldRow (η id) w' k then .h id else ω k o
 have hold:∀k o,k<w.heap.size→ω' k o=ω k o:=fun k o hk=>if_neg (fun h=>by omega)
 have hfree:∀k o,w.heap.size≤k→ω k o=.free:=fun k o h=>by
  by_cases e:ω k o=.free
  ·exact e
  ·have:=hpre.live k o e;omega
 have hlt:η id<w.heap.size:=hpre.live _ 0 (by rw [hω0];simp)
 have hrowlt:∀q,BldRow (η id) w' q→q<w'.heap.size:=fun q ⟨n,cap,hq⟩=>by
  have key:∀p,BuilderAtF T e 0 (η id) p (byteCells b'.data.toList) w'→q<w'.heap.size:=fun p ⟨_,v,h1,h2,_⟩=>by
   have hv:v=.slice (some ⟨q,0,none⟩) n cap:=by
    have:w'.cell? ⟨η id,1,none⟩=some v:=by simp [World.cell?,h1]
    rw [this] at hq;exact Option.some.inj hq
   rcases h2.2 with ⟨rfl,_⟩ | ⟨g,c,cur,fz,hg,_,h3,_⟩
   ·cases hv
   ·rw [hv] at hg;cases hg
    exact (Array.getElem?_eq_some_iff.1 h3).1
  rcases hb' with h | h
  ·exact key _ h
  ·exact key _ h
 have hcases:∀k o,ω' k o≠.free→(k<w.heap.size∧ω' k o=ω k o)∨(w.heap.size≤k∧BldRow (η id) w' k∧ω' k o=.h id):=fun k o h=>by
  by_cases e:w.heap.size≤k∧BldRow (η id) w' k
  ·exact .inr ⟨e.1,e.2,if_pos e⟩
  ·have e2:ω' k o=ω k o:=if_neg e
   rcases Nat.lt_or_ge k w.heap.size with h1 | h1
   ·exact .inl ⟨h1,e2⟩
   ·rw [e2,hfree k o h1] at h;exact absurd rfl h
 have hblock:∀k o,ω k o≠.free→ω k o≠.h id→w'.heap[k]?=w.heap[k]?:=fun k o h1 h2=>
  hfr.block k (hpre.live k o h1) (fun e=>by
   subst e
   rcases hpre.sep _ 0 o id hω0 with e | e
   ·exact h2 e
   ·exact h1 e) (fun ⟨n,cap,hq⟩=>h2 (hrow k n cap hq o))
 have hsame:Same (fun q=>q=.h id) w ⟨ω,η,fun _=>0⟩ H.length w' ⟨ω',η,fun _=>0⟩:=by
  refine ⟨fun k o h1 h2=>⟨hold k o (hpre.live k o h1),(cells_same (hblock k o h1 h2) o).1⟩,fun k hk ⟨o,j,e1,h2⟩=>hblock k o (by show ω k o≠_;rw [show ω k o=.h j from e1];simp) (fun e2=>h2 ?_),fun _ _=>rfl⟩
  rw [show ω k o=.h j from e1] at e2;exact e2
 have hvars:VarsOk w' ω':=fun k ob hk=>by
  obtain ⟨v1,v2⟩:=hpre.vars k ob hk
  have hkl:k<w.heap.size:=(Array.getElem?_eq_some_iff.1 v1).1
  have hno:∀o,ω k o≠.h id:=fun o e=>by rcases v2 o with h | h<;>(rw [h] at e;cases e)
  refine ⟨(hfr.block k hkl (fun e=>hno 0 (by rw [e];exact hω0)) (fun ⟨n,cap,hq⟩=>hno 0 (hrow k n cap hq 0))).trans v1,fun o=>?_⟩
  rw [hold k o hkl];exact v2 o
 refine ⟨ω',⟨⟨fun j q hj=>?_,fun k o h=>?_,fun k o h1 h2 h3=>?_,fun k o h=>?_,fun k o o' j h=>?_,fun k o j h=>?_,?_⟩,fun k o=>?_,hvars⟩,fun k hk o=>⟨fun _=>hold k o hk,fun j h=>by rw [← hold k o hk];exact h⟩,⟨hfr.os,hfr.tape,hfr.output,hfr.size,fun k hk h1 h2=>?_,fun k o hk h1 h2=>?_,hpre.vars⟩⟩
 ·by_cases e:j=id
  ·subst e
   rw [List.getElem?_set_self hidl] at hj
   cases hj
   refine ⟨fun o=>(hold _ _ hlt).trans (hω00 o),hb',fun q n cap hq o=>?_⟩
   rcases hfr.row q ⟨n,cap,hq⟩ with ⟨n0,c0,h0⟩ | h0
   ·have:=hrow q n0 c0 h0 o
    rw [hold q o (hpre.live q o (by rw [this];simp))];exact this
   ·exact if_pos ⟨h0,n,cap,hq⟩
  ·rw [List.getElem?_set_ne (Ne.symm e)] at hj
   rw [hlen]
   exact hsame.objs (by simp) (Nat.le_refl _) hpre.toBase hj (by simpa using e) (by simp) (fun m es t c hm e2=>by
    subst hm
    have:=(hpre.lock j m es t c hj).2
    cases e2
    rw [hid] at this;cases this)
 ·rcases hcases k o h with ⟨h1,_⟩ | ⟨_,h1,_⟩
  ·have:=hfr.size;omega
  ·exact hrowlt k h1
 ·rcases hcases k o h1 with ⟨h4,h5⟩ | ⟨h4,h5,h6⟩
  ·rw [h5] at h1 h2
   by_cases e:ω k o=.h id
   ·have e2:=h3 id (h5.trans e)
    subst e2
    rcases hb' with ⟨_,v,hv,_⟩ | ⟨_,v,hv,_⟩<;>simp [World.frozen?,hv]
   ·rw [(cells_same (hblock k o h1 e) o).2]
    exact hpre.soft k o h1 h2 (fun j hj=>h3 j (h5.trans hj))
  ·have:=h3 id h6
   omega
 ·have hne:ω' k o≠.free∧ω' k o≠.h id:=by
   rcases h with ⟨s,i,h⟩ | ⟨j,i,h⟩<;>(rw [h];simp)
  rcases hcases k o hne.1 with ⟨h4,h5⟩ | ⟨_,_,h6⟩
  ·rw [h5] at h hne
   rw [(cells_same (hblock k o hne.1 hne.2) o).1]
   exact hpre.tail k o h
  ·exact absurd h6 hne.2
 ·rcases hcases k o (by rw [h];simp) with ⟨h4,h5⟩ | ⟨h4,h5,h6⟩
  ·rw [h5] at h
   rw [hold k o' h4]
   exact hpre.sep k o o' j h
  ·rw [h6] at h;cases h
   exact .inl (if_pos ⟨h4,h5⟩)
 ·rw [hlen]
  have hne:ω' k o≠.free:=by rcases h with h | ⟨i,h⟩<;>(rw [h];simp)
  rcases hcases k o hne with ⟨h4,h5⟩ | ⟨h4,h5,h6⟩
  ·rw [h5] at h;exact hpre.low k o j h
  ·rcases h with h | ⟨i,h⟩
   ·rw [h6] at h;cases h;exact hidl
   ·rw [h6] at h;cases h
 ·exact hpre.lock.set (fun i e=>by rw [hid] at e;cases e) (fun m es t c e=>by cases e)
 ·by_cases e:w.heap.size≤k∧BldRow (η id) w' k
  ·exact .inr (.inr (.inl ⟨id,if_pos e⟩))
  ·have:ω' k o=ω k o:=if_neg e
   rw [this];exact hpre.none k o
 ·exact hfr.block k hk (fun e=>h1 0 id (by rw [e];exact hω0)) (fun ⟨n,cap,hq⟩=>h1 0 id (hrow k n cap hq 0))
 ·by_cases e:k=η id
  ·subst e;exact absurd (hω00 o) (h1 id)
  ·by_cases e2:BldRow (η id) w k
   ·obtain ⟨n,cap,hq⟩:=e2
    exact absurd (hrow k n cap hq o) (h1 id)
   ·exact cells_same (hfr.block k hk e e2) o
theorem one_of {a:Array Value} (h:a.size=1):∃x,a=#[x]:=by
 refine ⟨a[0],?_⟩
 apply Array.ext
 ·simp [h]
 ·intro i h1 h2
  have:i=0:=by omega
  subst this;rfl
theorem two_of {a:Array Value} (h:a.size=2):∃x y,a=#[x,y]:=by
 refine ⟨a[0],a[1],?_⟩
 apply Array.ext
 ·simp [h]
 ·intro i h1 h2
  rcases (show i=0∨i=1 by omega) with rfl | rfl<;>rfl
variable {P:Program} {ρ:Ren}
theorem arg_href {w:World} {I:Nat→Nat→Prop} {η:Nat→Nat} {N id o:Nat} {v:Value} (h:Rep w I η N (.href id o) v):v=.pointer (some ⟨η id,o,none⟩):=by cases h;rfl
theorem sound_write [VR:Vars] (L:Lays.n166 P ρ) (X:Go.Proofs.Builder.Extra P ρ):Sound P (ρ.f 166) (relWrite (ρ.t 72) (ρ.t 5)):=by
 rintro args H r H' ⟨id,b,s,rfl,hid,hsz,rfl,rfl⟩ vals w ω η hpre hargs
 obtain ⟨v0,v1,rfl⟩:=two_of (a:=vals) (by simpa using hargs.len)
 have h0:=arg_href (hargs.rep 0 (.href id 0) v0 rfl rfl)
 have h1:=hargs.rep 1 (.str s) v1 rfl rfl
 have h1:v1=.string s:=by cases h1;rfl
 rw [h0,h1]
 obtain ⟨q1,q2,q3⟩:=hpre.heap id _ hid
 refine (Go.Proofs.bld_write L X (η id) _ s w q2 (by rw [byteCells_length];exact hsz)).mono fun e w' ⟨he,hb,hf⟩=>?_
 have hcs:byteCells b.data.toList++strCells s=byteCells (b++s).data.toList:=by
  rw [strCells_eq];simp [byteCells]
 rw [hcs] at hb
 obtain ⟨ω',g1,g2,g3⟩:=bld_post hpre hid hf (.inr hb)
 refine ⟨_,ω',η,he,g1,?_,by rw [List.length_set];exact Nat.le_refl _,fun _ _=>rfl,g2,g3,.of_not rfl⟩
 exact .tuple _ _ rfl (fun i c v hc hv=>by
  match i with
  | 0=>simp at hc hv;subst hc;subst hv;exact .int _ _
  | 1=>simp at hc hv;subst hc;subst hv;exact .nilIface
  | i+2=>simp at hc)
theorem sound_byte [VR:Vars] (L:Lays.n167 P ρ) (X:Go.Proofs.Builder.Extra P ρ):Sound P (ρ.f 167) (relByte (ρ.t 72) (ρ.t 5)):=by
 rintro args H r H' ⟨id,b,c,rfl,hid,hsz,h0,h1,rfl,rfl⟩ vals w ω η hpre hargs
 obtain ⟨v0,v1,rfl⟩:=two_of (a:=vals) (by simpa using hargs.len)
 have h2:=arg_href (hargs.rep 0 (.href id 0) v0 rfl rfl)
 have h3:=hargs.rep 1 (.int .u8 c) v1 rfl rfl
 have h3:v1=.int .u8 c:=by cases h3;rfl
 rw [h2,h3]
 obtain ⟨q1,q2,q3⟩:=hpre.heap id _ hid
 refine (Go.Proofs.bld_byte L X (η id) _ c w q2 (by rw [byteCells_length];exact hsz)).mono fun e w' ⟨he,hb,hf⟩=>?_
 have hcs:byteCells b.data.toList++[.int .u8 c]=byteCells (b.push (UInt8.ofNat c.toNat)).data.toList:=by
  have:(b.push (UInt8.ofNat c.toNat)).data.toList=b.data.toList++[UInt8.ofNat c.toNat]:=by simp [ByteArray.push]
  rw [this]
  simp only [byteCells,List.map_append,List.map_cons,List.map_nil]
  congr 2
  have:(UInt8.ofNat c.toNat).toNat=c.toNat:=by simp;omega
  rw [this];congr 1;omega
 rw [hcs] at hb
 obtain ⟨ω',g1,g2,g3⟩:=bld_post hpre hid hf (.inr hb)
 exact ⟨_,ω',η,he,g1,.nilIface,by rw [List.length_set];exact Nat.le_refl _,fun _ _=>rfl,g2,g3,.of_not rfl⟩
theorem sound_len [VR:Vars] (L:Lays.n170 P ρ):Sound P (ρ.f 170) (relLen (ρ.t 72) (ρ.t 5)):=by
 rintro args H r H' ⟨id,b,rfl,hid,rfl,rfl⟩ vals w ω η hpre hargs
 obtain ⟨v0,rfl⟩:=one_of (a:=vals) (by simpa using hargs.len)
 have h0:=arg_href (hargs.rep 0 (.href id 0) v0 rfl rfl)
 rw [h0]
 obtain ⟨q1,q2,q3⟩:=hpre.heap id _ hid
 refine (Go.Proofs.bld_len L (η id) _ w q2).mono fun e w' ⟨he,hw⟩=>?_
 subst hw
 rw [byteCells_length] at he
 exact ⟨_,ω,η,he,hpre,.int _ _,Nat.le_refl _,fun _ _=>rfl,fun _ _ _=>⟨fun _=>rfl,fun _ h=>h⟩,Keeps.refl _ _ hpre.vars,.of_not rfl⟩
theorem sound_string [VR:Vars] (L:Lays.n169 P ρ) (X:Go.Proofs.Builder.Extra P ρ):Sound P (ρ.f 169) (relString (ρ.t 72) (ρ.t 5)):=by
 rintro args H' r H ⟨id,b,rfl,hid,hb1,rfl,rfl⟩ vals w ω η hpre hargs
 obtain ⟨v0,rfl⟩:=one_of (a:=vals) (by simpa using hargs.len)
 have h0:=arg_href (hargs.rep 0 (.href id 0) v0 rfl rfl)
 rw [h0]
 obtain ⟨q1,q2,q3⟩:=hpre.heap id _ hid
 refine (Go.Proofs.bld_string L X (η id) _ w q2 (fun e=>?_)).mono fun e w' ⟨he,hb,hf⟩=>?_
 ·have:b.data.toList.length=b.size:=by cases b;rfl
  rw [e] at this;simp at this;omega
 ·obtain ⟨ω',g1,g2,g3⟩:=bld_post hpre hid hf hb
  have hset:H.set id (.bld (ρ.t 72) (ρ.t 5) b)=H:=by
   apply List.ext_getElem?;intro i
   by_cases e:i=id
   ·subst e;rw [List.getElem?_set_self (List.getElem?_eq_some_iff.1 hid).1,hid]
   ·rw [List.getElem?_set_ne (Ne.symm e)]
  rw [hset] at g1
  exact ⟨_,ω',η,he,g1,.str _,Nat.le_refl _,fun _ _=>rfl,g2,g3,.of_not rfl⟩
end Go.AM
