/- Contracts of the library over strings and numbers, for the machine: what is of no program. -/
import Derived.Test.YtomalcfghdaghaaGreatDoorAmW
import Derived.Shelf.Strings.Cut
import Derived.Shelf.Strings.Split
import Derived.Shelf.Strconv.Itoa3
import Derived.Shelf.Strconv.AtoiAll
import Derived.Lib.AppendIntMem
set_option linter.unusedVariables false
set_option linter.unusedSimpArgs false
namespace Go.AM
open Go.RowKit
theorem pre_grow [VR:Vars] {w w':World} {ω ω':Nat→Nat→Owner} {η:Nat→Nat} {H:List HObj} (hpre:Pre w ω η H) (hb:Below w.heap.size w w') (h1:∀b o,b<w.heap.size→ω' b o=ω b o) (h2:∀b o,w.heap.size≤b→ω' b o=.free∨(ω' b o=.imm∧b<w'.heap.size)):Pre w' ω' η H:=by
 have hcell:∀b o,b<w.heap.size→w'.cell? ⟨b,o,none⟩=w.cell? ⟨b,o,none⟩:=fun b o h=>hb.cell (p:=⟨b,o,none⟩) h
 have hsame:∀b o,ω b o≠.free→ω' b o=ω b o:=fun b o h=>h1 b o (hpre.live b o h)
 have hmono:∀{a:AVal} {v:Value},Rep w (fun b o=>ω b o=.imm) η H.length a v→Rep w' (fun b o=>ω' b o=.imm) η H.length a v:=fun hr=>hr.mono (fun b o hi=>by
  have hbl:=hpre.live b o (by rw [hi];simp)
  exact ⟨by rw [h1 b o hbl];exact hi,hcell b o hbl⟩) (Nat.le_refl _) (fun _ _=>rfl)
 have hback:∀b o,ω' b o≠.free→ω' b o≠.imm→b<w.heap.size:=fun b o h3 h4=>by
  rcases Nat.lt_or_ge b w.heap.size with h | h
  ·exact h
  ·rcases h2 b o h with h5 | ⟨h5,_⟩
   ·exact absurd h5 h3
   ·exact absurd h5 h4
 refine ⟨⟨fun id o ho=>?_,fun b o h=>?_,fun b o h3 h4 h5=>?_,fun b o h=>?_,fun b o o' id h=>?_,fun b o id h=>?_,hpre.lock⟩,fun b o=>?_,fun b ob hv=>by
  obtain ⟨v1,v2⟩:=hpre.vars b ob hv
  have hlt:b<w.heap.size:=(Array.getElem?_eq_some_iff.1 v1).1
  exact ⟨(hb.block b hlt).trans v1,fun o=>by rw [h1 b o hlt];exact v2 o⟩⟩
 ·have hr:=hpre.heap id o ho
  cases o with
  | arr cs=>
   refine ⟨fun o ho=>?_,fun o c hc=>?_⟩
   ·have e:=hr.1 o ho
    rw [hsame _ _ (by rw [e];simp)];exact e
   ·obtain ⟨hp,x,hx,hxr,hoh⟩:=hr.2 o c hc
    have e:=hr.1 o (List.getElem?_eq_some_iff.1 hc).1
    refine ⟨hp,x,by rw [hcell _ _ (hpre.live _ _ (by rw [e];simp))];exact hx,hmono hxr,fun e n f he=>?_⟩
    obtain ⟨ad,cap,h5,h6⟩:=hoh e n f he
    refine ⟨ad,cap,h5,fun j h7 h8=>?_⟩
    obtain ⟨b,o',h9,h10⟩:=h6 j h7 h8
    exact ⟨b,o',h9,by rw [hsame _ _ (by rw [h10];simp)];exact h10⟩
  | dfr=>
   obtain ⟨e,h3⟩:=hr
   have hbl:=hpre.live _ _ (show ω (η id) 0≠.free by rw [e];simp)
   exact ⟨by rw [h1 _ _ hbl];exact e,(hb.block _ hbl).trans h3⟩
  | loop L ts s=>
   obtain ⟨e,fn,vs,D,h3,h4,h5⟩:=hr
   have hbl:=hpre.live _ _ (show ω (η id) 0≠.free by rw [e];simp)
   exact ⟨by rw [h1 _ _ hbl];exact e,fn,vs,D,(hb.block _ hbl).trans h3,h4,fun i a v ha hv=>(h5 i a v ha hv).imp (fun e=>e) hmono⟩
  | map es=>
   obtain ⟨e,ents,clock,h3,h4,h5⟩:=hr
   have hbl:=hpre.live _ _ (show ω (η id) 0≠.free by rw [e];simp)
   refine ⟨by rw [h1 _ _ hbl];exact e,ents,clock,(hb.block _ hbl).trans h3,h4,fun i k x e he hi=>?_⟩
   obtain ⟨a,b,c,d⟩:=h5 i k x e he hi
   exact ⟨hmono a,hmono b,c,d⟩
  | bld T e s=>
   obtain ⟨e1,h3,h4⟩:=hr
   have hbl:=hpre.live _ _ (show ω (η id) 0≠.free by rw [e1];simp)
   refine ⟨fun o=>by rw [h1 _ _ hbl];exact e1 o,builder_same h3 (hb.block _ hbl) (fun q n cap hc=>hb.block _ (hpre.live q 0 (by rw [h4 q n cap hc 0];simp))),fun q n cap hc o=>?_⟩
   rw [hcell _ _ hbl] at hc
   have:=h4 q n cap hc o
   rw [hsame _ _ (by rw [this];simp)];exact this
  | locked i=>
   have e:ω (η id) 0=.h id:=hr
   show ω' (η id) 0=.h id
   rw [h1 _ _ (hpre.live _ _ (by rw [e];simp))];exact e
  | iter m es todo cur=>
   obtain ⟨e1,e2,e3,ents,clock,since,c0,seen,rs,h4,h5,h6,h7,h8,h9,h10,h11,h12,h13,h14⟩:=hr
   have hb1:=hpre.live _ _ (show ω (η id) 0≠.free by rw [e1];simp)
   have hb2:=hpre.live _ _ (show ω (η m) 0≠.free by rw [e2];simp)
   refine ⟨by rw [h1 _ _ hb1];exact e1,by rw [h1 _ _ hb2];exact e2,e3,ents,clock,since,c0,seen,rs,(hb.block _ hb2).trans h4,(hb.block _ hb1).trans h5,h6,h7,h8,fun i k x e he hi=>?_,h10,h11,h12,fun i k x e he hi=>?_,fun k x hc=>?_⟩
   ·obtain ⟨a,b,c,d⟩:=h9 i k x e he hi
    exact ⟨hmono a,hmono b,c,d⟩
   ·obtain ⟨a,b,c,d⟩:=h13 i k x e he hi
    exact ⟨hmono a,hmono b,c,d⟩
   ·obtain ⟨e,s',h15,h16,h17,a,b,c,d⟩:=h14 k x hc
    exact ⟨e,s',h15,h16,h17,hmono a,hmono b,c,d⟩
 ·rcases Nat.lt_or_ge b w.heap.size with h3 | h3
  ·exact Nat.lt_of_lt_of_le h3 hb.size
  ·rcases h2 b o h3 with h4 | ⟨_,h4⟩
   ·exact absurd h4 h
   ·exact h4
 ·have hbl:=hback b o h3 h4
  rw [h1 b o hbl] at h3 h4
  exact (hb.frozen (p:=⟨b,o,none⟩) hbl).trans (hpre.soft b o h3 h4 (fun j hj=>h5 j (by rw [h1 b o hbl];exact hj)))
 ·have hbl:b<w.heap.size:=by
   rcases h with ⟨s,i,h⟩ | ⟨id,i,h⟩<;>exact hback b o (by rw [h];simp) (by rw [h];simp)
  rw [h1 b o hbl] at h
  rw [hcell b o hbl]
  exact hpre.tail b o h
 ·have hbl:=hback b o (by rw [h];simp) (by rw [h];simp)
  rw [h1 b o hbl] at h
  rw [h1 b o' hbl]
  exact hpre.sep b o o' id h
 ·have hbl:b<w.heap.size:=by
   rcases h with h | ⟨i,h⟩<;>exact hback b o (by rw [h];simp) (by rw [h];simp)
  rw [h1 b o hbl] at h
  exact hpre.low b o id h
 ·rcases Nat.lt_or_ge b w.heap.size with h3 | h3
  ·rw [h1 b o h3];exact hpre.none b o
  ·rcases h2 b o h3 with h4 | ⟨h4,_⟩
   ·exact .inl h4
   ·exact .inr (.inl h4)
theorem pre_new [VR:Vars] {w w':World} {ω ω':Nat→Nat→Owner} {η:Nat→Nat} {H:List HObj} (cs:List AVal) (gb:Nat) (hpre:Pre w ω η H) (hb:Below w.heap.size w w') (hgb:w.heap.size≤gb) (hgl:gb<w'.heap.size)
  (h1:∀b o,b<w.heap.size→ω' b o=ω b o) (h2:∀b o,w.heap.size≤b→ω' b o=if b=gb∧o<cs.length then .h H.length else .free) (hfz:∀o,o<cs.length→w'.frozen? ⟨gb,o,none⟩=false)
  (hcs:∀(o:Nat) c,cs[o]?=some c→plain c=true∧isOwn c=false∧∃x,w'.cell? ⟨gb,o,none⟩=some x∧∀I η N,Rep w' I η N c x) :
  Pre w' ω' (fun id=>if id<H.length then η id else gb) (H++[.arr cs]):=by
 have hcell:∀b o,b<w.heap.size→w'.cell? ⟨b,o,none⟩=w.cell? ⟨b,o,none⟩:=fun b o h=>hb.cell (p:=⟨b,o,none⟩) h
 have hsame:Same (fun _=>False) w ⟨ω,η,fun _=>0⟩ H.length w' ⟨ω',fun id=>if id<H.length then η id else gb,fun _=>0⟩:=
  ⟨fun b o hf _=>⟨h1 b o (hpre.live b o hf),hcell b o (hpre.live b o hf)⟩,fun b hlt _=>hb.block b hlt,fun id hid=>if_pos hid⟩
 have hnew:∀b o,w.heap.size≤b→ω' b o≠.free→b=gb∧o<cs.length∧ω' b o=.h H.length:=fun b o hle hf=>by
  have e:=h2 b o hle
  by_cases hc:b=gb∧o<cs.length
  ·rw [if_pos hc] at e;exact ⟨hc.1,hc.2,e⟩
  ·rw [if_neg hc] at e;exact absurd e hf
 refine ⟨⟨fun id o ho=>?_,fun b o h=>?_,fun b o h3 h4 h5=>?_,fun b o h=>?_,fun b o o' id h=>?_,fun b o id h=>?_,hpre.lock.append (fun _ _ _ _ e=>by cases e)⟩,fun b o=>?_,fun b ob hv=>by
  obtain ⟨v1,v2⟩:=hpre.vars b ob hv
  have hlt:b<w.heap.size:=(Array.getElem?_eq_some_iff.1 v1).1
  exact ⟨(hb.block b hlt).trans v1,fun o=>by rw [h1 b o hlt];exact v2 o⟩⟩
 ·rcases Nat.lt_or_ge id H.length with hid | hid
  ·rw [List.getElem?_append_left hid] at ho
   exact hsame.objs (g:=⟨ω,η,fun _=>0⟩) (fun h=>h) (by simp) hpre.toBase ho (fun h=>h) (fun _ h=>h) (fun _ _ _ _ _ h=>h)
  ·rw [List.getElem?_append_right hid] at ho
   have e:id-H.length=0:=by have:=(List.getElem?_eq_some_iff.1 ho).1;simp at this;omega
   rw [e] at ho;simp at ho
   have e2:id=H.length:=by omega
   subst e2;subst ho
   have hη:(if H.length<H.length then η H.length else gb)=gb:=if_neg (Nat.lt_irrefl _)
   refine ⟨fun o ho=>by
    show ω' (if H.length<H.length then η H.length else gb) o=_
    rw [hη,h2 gb o hgb,if_pos ⟨rfl,ho⟩],fun o c hc=>?_⟩
   obtain ⟨c1,c2,x,c3,c4⟩:=hcs o c hc
   refine ⟨c1,x,?_,c4 _ _ _,.not (not_own c2)⟩
   show w'.cell? ⟨if H.length<H.length then η H.length else gb,o,none⟩=_
   rw [hη];exact c3
 ·rcases Nat.lt_or_ge b w.heap.size with h3 | h3
  ·exact Nat.lt_of_lt_of_le h3 hb.size
  ·rw [(hnew b o h3 h).1];exact hgl
 ·rcases Nat.lt_or_ge b w.heap.size with hbl | hbl
  ·rw [h1 b o hbl] at h3 h4
   exact (hb.frozen (p:=⟨b,o,none⟩) hbl).trans (hpre.soft b o h3 h4 (fun j hj=>by
    have:=h5 j (by rw [h1 b o hbl];exact hj)
    have hl:=hpre.low b o j (.inl hj)
    simpa [hl] using this))
  ·obtain ⟨e1,e2,_⟩:=hnew b o hbl h3
   rw [e1];exact hfz o e2
 ·have hf:ω' b o≠.free:=by rcases h with ⟨s,i,h⟩ | ⟨id,i,h⟩<;>(rw [h];simp)
  rcases Nat.lt_or_ge b w.heap.size with hbl | hbl
  ·rw [h1 b o hbl] at h
   rw [hcell b o hbl]
   exact hpre.tail b o h
  ·obtain ⟨_,_,e⟩:=hnew b o hbl hf
   rcases h with ⟨s,i,h⟩ | ⟨id,i,h⟩<;>(rw [e] at h;cases h)
 ·rcases Nat.lt_or_ge b w.heap.size with hbl | hbl
  ·rw [h1 b o hbl] at h
   rw [h1 b o' hbl]
   exact hpre.sep b o o' id h
  ·obtain ⟨e1,_,e⟩:=hnew b o hbl (by rw [h];simp)
   rw [e] at h;cases h
   rw [h2 b o' hbl]
   by_cases hc:b=gb∧o'<cs.length
   ·rw [if_pos hc];exact .inl rfl
   ·rw [if_neg hc];exact .inr rfl
 ·rcases Nat.lt_or_ge b w.heap.size with hbl | hbl
  ·rw [h1 b o hbl] at h
   have:=hpre.low b o id h
   simp;omega
  ·have hf:ω' b o≠.free:=by rcases h with h | ⟨i,h⟩<;>(rw [h];simp)
   obtain ⟨_,_,e⟩:=hnew b o hbl hf
   rcases h with h | ⟨i,h⟩<;>rw [e] at h
   ·cases h;simp
   ·cases h
 ·rcases Nat.lt_or_ge b w.heap.size with h3 | h3
  ·rw [h1 b o h3];exact hpre.none b o
  ·by_cases hf:ω' b o=.free
   ·exact .inl hf
   ·exact .inr (.inr (.inl ⟨_,(hnew b o h3 hf).2.2⟩))
theorem keeps_below [VR:Vars] {w w':World} {ω:Nat→Nat→Owner} {η:Nat→Nat} {H:List HObj} (hpre:Pre w ω η H) (hb:Below w.heap.size w w'):Keeps w ω w':=
 ⟨hb.os,hb.tape,hb.output,hb.size,fun b h _ _=>hb.block b h,fun b o h _ _=>⟨hb.cell (p:=⟨b,o,none⟩) h,hb.frozen (p:=⟨b,o,none⟩) h⟩,hpre.vars⟩
theorem post_pure [VR:Vars] {w w':World} {ω:Nat→Nat→Owner} {η:Nat→Nat} {H:List HObj} (hpre:Pre w ω η H) (hb:Below w.heap.size w w') {r:AVal} {v:Value} (hr:Rep w' (fun b o=>ω b o=.imm) η H.length r v) (hn:isOwn r=false):Post w ω η H w' ω η H r v:=
 ⟨pre_grow hpre hb (fun _ _ _=>rfl) (fun b o h=>.inl (by
  by_cases e:ω b o=.free
  ·exact e
  ·have:=hpre.live b o e;omega)),hr,Nat.le_refl _,fun _ _=>rfl,fun _ _ _=>⟨fun _=>rfl,fun _ h=>h⟩,keeps_below hpre hb,.of_not hn⟩
theorem str_of {w:World} {I:Nat→Nat→Prop} {η:Nat→Nat} {N:Nat} {s:ByteArray} {v:Value} (h:Rep w I η N (.str s) v):v=.string s:=by cases h;rfl
theorem int_of {w:World} {I:Nat→Nat→Prop} {η:Nat→Nat} {N:Nat} {k:IntKind} {n:Int} {v:Value} (h:Rep w I η N (.int k n) v):v=.int k n:=by cases h;rfl
theorem vals1 {a:Array Value} {n:Nat} (h:a.size=n) (hn:n=1):∃x,a=#[x]:=by
 subst hn
 refine ⟨a[0],?_⟩
 apply Array.ext
 ·simp [h]
 ·intro i h1 h2
  have:i=0:=by omega
  subst this;rfl
theorem vals2 {a:Array Value} {n:Nat} (h:a.size=n) (hn:n=2):∃x y,a=#[x,y]:=by
 subst hn
 refine ⟨a[0],a[1],?_⟩
 apply Array.ext
 ·simp [h]
 ·intro i h1 h2
  rcases (show i=0∨i=1 by omega) with rfl | rfl<;>rfl
theorem whole_cell {W w:World} {ω:Nat→Nat→Owner} {η:Nat→Nat} {H:List HObj} (hpre:Pre (VR:=wholeV W) w ω η H) {b o:Nat} {v:Value} (h:W.cell? ⟨b,o,none⟩=some v):w.cell? ⟨b,o,none⟩=some v:=by
 unfold World.cell? at h ⊢
 cases hb:W.heap[b]? with
 | none=>simp [hb] at h
 | some ob=>
  have:=(Pre.vars (VR:=wholeV W) hpre b ob hb).1
  simp only [hb] at h
  simp only [this];exact h
def relItoa (args:List AVal) (H:List HObj) (r:AVal) (H':List HObj):Prop:=
 ∃n:Int,args=[.int .i64 n]∧-9223372036854775808≤n∧n≤9223372036854775807∧r=.str ⟨(Go.Lib.itoa n).toArray⟩∧H'=H
def relCut (args:List AVal) (H:List HObj) (r:AVal) (H':List HObj):Prop:=
 ∃s sep:ByteArray,args=[.str s,.str sep]∧s.size<4294967281∧r=.tuple [.str ⟨(Go.Lib.cut s.data.toList sep.data.toList).1.toArray⟩,.str ⟨(Go.Lib.cut s.data.toList sep.data.toList).2.1.toArray⟩,.bool (Go.Lib.cut s.data.toList sep.data.toList).2.2]∧H'=H
def relSplit (args:List AVal) (H:List HObj) (r:AVal) (H':List HObj):Prop:=
 ∃s sep:ByteArray,args=[.str s,.str sep]∧s.size<4294967281∧1≤sep.size∧r=encL 1 AVal.str bE (Go.Lib.splitB sep 0 (Go.Lib.countB s sep) s)∧H'=H
def relAtoi (args:List AVal) (H:List HObj) (r:AVal) (H':List HObj):Prop:=
 ∃s:ByteArray,args=[.str s]∧s.size≤281474976710656∧H'=H∧r=(match Go.Lib.atoiAll s.data.toList with
  | .ok v=>.tuple [.int .i64 v,.nilIface]
  | .range=>.tuple [.int .i64 (Go.Lib.atoiSat s.data.toList),.err]
  | _=>.tuple [.int .i64 0,.err])
def itoaS (n:Nat) (x:Int):Option ByteArray:=match n with
 | 0=>none
 | _+1=>bif decide (-9223372036854775808≤x)&&decide (x≤9223372036854775807) then some ⟨(Go.Lib.itoa x).toArray⟩ else none
def cutS (n:Nat) (s sep:ByteArray):Option (ByteArray×ByteArray×Bool):=match n with
 | 0=>none
 | _+1=>bif decide (s.size<4294967281) then some (⟨(Go.Lib.cut s.data.toList sep.data.toList).1.toArray⟩,⟨(Go.Lib.cut s.data.toList sep.data.toList).2.1.toArray⟩,(Go.Lib.cut s.data.toList sep.data.toList).2.2) else none
def splitS (n:Nat) (s sep:ByteArray):Option (List ByteArray):=match n with
 | 0=>none
 | _+1=>bif decide (s.size<4294967281)&&decide (1≤sep.size) then some (Go.Lib.splitB sep 0 (Go.Lib.countB s sep) s) else none
inductive AtoiR where
 | ok (v:Int)
 | bad (v:Int)
def atoiV (s:ByteArray):AtoiR:=match Go.Lib.atoiAll s.data.toList with
 | .ok v=>.ok v
 | .range=>.bad (Go.Lib.atoiSat s.data.toList)
 | _=>.bad 0
def atoiS (n:Nat) (s:ByteArray):Option AtoiR:=match n with
 | 0=>none
 | _+1=>bif decide (s.size≤281474976710656) then some (atoiV s) else none
def atoiE (H:List HObj) (r:AtoiR):AVal×List HObj:=match r with
 | .ok v=>(.tuple [.int .i64 v,.nilIface],H)
 | .bad v=>(.tuple [.int .i64 v,.err],H)
theorem rel_itoa {n:Nat} {x:Int} {b:ByteArray} (H:List HObj) (h:itoaS n x=some b):relItoa [.int .i64 x] H (.str b) H:=by
 cases n with
 | zero=>cases h
 | succ n=>
  unfold itoaS at h
  cases hc:(decide (-9223372036854775808≤x)&&decide (x≤9223372036854775807)) with
  | false=>rw [hc] at h;cases h
  | true=>
   rw [hc] at h
   simp only [cond_true,Option.some.injEq] at h
   simp only [Bool.and_eq_true,decide_eq_true_eq] at hc
   exact ⟨x,rfl,hc.1,hc.2,by rw [h],rfl⟩
theorem rel_cut {n:Nat} {s sep:ByteArray} {b:ByteArray×ByteArray×Bool} (H:List HObj) (h:cutS n s sep=some b):relCut [.str s,.str sep] H (.tuple [.str b.1,.str b.2.1,.bool b.2.2]) H:=by
 cases n with
 | zero=>cases h
 | succ n=>
  unfold cutS at h
  cases hc:decide (s.size<4294967281) with
  | false=>rw [hc] at h;cases h
  | true=>
   rw [hc] at h
   simp only [cond_true,Option.some.injEq] at h
   subst h
   exact ⟨s,sep,rfl,of_decide_eq_true hc,rfl,rfl⟩
theorem rel_split {n:Nat} {s sep:ByteArray} {b:List ByteArray} (H:List HObj) (h:splitS n s sep=some b):relSplit [.str s,.str sep] H (encL 1 AVal.str bE b) H:=by
 cases n with
 | zero=>cases h
 | succ n=>
  unfold splitS at h
  cases hc:(decide (s.size<4294967281)&&decide (1≤sep.size)) with
  | false=>rw [hc] at h;cases h
  | true=>
   rw [hc] at h
   simp only [cond_true,Option.some.injEq] at h
   subst h
   simp only [Bool.and_eq_true,decide_eq_true_eq] at hc
   exact ⟨s,sep,rfl,hc.1,hc.2,rfl,rfl⟩
theorem rel_atoi {n:Nat} {s:ByteArray} {b:AtoiR} (H:List HObj) (h:atoiS n s=some b):relAtoi [.str s] H (atoiE H b).1 (atoiE H b).2:=by
 cases n with
 | zero=>cases h
 | succ n=>
  unfold atoiS at h
  cases hc:decide (s.size≤281474976710656) with
  | false=>rw [hc] at h;cases h
  | true=>
   rw [hc] at h
   simp only [cond_true,Option.some.injEq] at h
   subst h
   refine ⟨s,rfl,of_decide_eq_true hc,?_,?_⟩
   ·cases atoiV s<;>rfl
   ·unfold atoiV
    cases Go.Lib.atoiAll s.data.toList<;>rfl
variable {P:Program} {ρ:Go.Shelf.Ren}
open Go.Shelf Go.Proofs
theorem sound_itoa (W : World) (L : LaysM.n171 P ρ) (hT : Go.Lib.TabIs P W "internal/strconv.uint64pow10" .u64 Go.Lib.pow10Tab) : @Sound (wholeV W) P (ρ.f 171) relItoa := by
 letI:Vars:=wholeV W
 rintro args H r H' ⟨n,rfl,h0,h1,rfl,rfl⟩ vals w ω η hpre hargs
 obtain ⟨v0,rfl⟩:=vals1 hargs.len rfl
 have e0:=int_of (hargs.rep 0 _ v0 rfl rfl)
 subst e0
 have hT' : Go.Lib.TabIs P w "internal/strconv.uint64pow10" .u64 Go.Lib.pow10Tab := by
  unfold Go.Lib.TabIs World.var? at hT ⊢
  cases hg : P.globalNamed "internal/strconv.uint64pow10" with
  | none=>rw [hg] at hT;cases hT
  | some g=>
   rw [hg] at hT
   simp only [Option.bind_some] at hT ⊢
   cases hb:W.heap[g]? with
   | none=>rw [hb] at hT;cases hT
   | some ob=>
    rw [hb] at hT
    rw [(hpre.vars g ob hb).1];exact hT
 refine (Any.strconv_Itoa L n h0 h1 w hT').mono ?_
 rintro e w' ⟨rfl,k,os,rfl⟩
 exact ⟨_,ω,η,rfl,post_pure hpre (Go.Lib.below_grow _ _ (Nat.le_refl _) _ _) (.str _) rfl⟩
theorem sound_cut (W:World) (L:Lays.n145 P ρ) (hm:∃m,W.cell? ⟨ρ.g 1,0,none⟩=some (.int .i64 m)):@Sound (wholeV W) P (ρ.f 145) relCut:=by
 letI:Vars:=wholeV W
 rintro args H r H' ⟨s,sep,rfl,hs,rfl,rfl⟩ vals w ω η hpre hargs
 obtain ⟨v0,v1,rfl⟩:=vals2 hargs.len rfl
 have e0:=str_of (hargs.rep 0 _ v0 rfl rfl)
 have e1:=str_of (hargs.rep 1 _ v1 rfl rfl)
 subst e0;subst e1
 obtain ⟨m,hm⟩:=hm
 refine (Any.strings_Cut L s sep m w hs (whole_cell hpre hm)).mono ?_
 rintro e w' ⟨rfl,k,rfl⟩
 have hb:Below w.heap.size w (w.drewN k):=⟨rfl,rfl,rfl,Nat.le_refl _,fun _ _=>rfl⟩
 refine ⟨_,ω,η,rfl,post_pure hpre hb (.tuple _ _ rfl (fun i c v hc hv=>?_)) rfl⟩
 match i with
 | 0=>simp at hc hv;subst hc;subst hv;exact .str _
 | 1=>simp at hc hv;subst hc;subst hv;exact .str _
 | 2=>simp at hc hv;subst hc;subst hv;exact .bool _
 | i+3=>simp at hc
theorem sound_atoi (W:World) (L:LaysC.n172 P ρ) (h15:∃ev,W.cell? ⟨ρ.g 15,0,none⟩=some ev∧(ev=.nilIface∨∃te pe,ev=.iface te pe)) (h16:∃ev,W.cell? ⟨ρ.g 16,0,none⟩=some ev∧(ev=.nilIface∨∃te pe,ev=.iface te pe)):@Sound (wholeV W) P (ρ.f 172) relAtoi:=by
 letI:Vars:=wholeV W
 rintro args H r H' ⟨s,rfl,hs,rfl,rfl⟩ vals w ω η hpre hargs
 obtain ⟨v0,rfl⟩:=vals1 hargs.len rfl
 have e0:=str_of (hargs.rep 0 _ v0 rfl rfl)
 subst e0
 obtain ⟨e15,c15,d15⟩:=h15
 obtain ⟨e16,c16,d16⟩:=h16
 cases hA:Go.Lib.atoiAll s.data.toList
 ·rename_i v
  refine (Any.strconv_Atoi_ok L s (by omega) v hA w).mono ?_
  rintro e w' ⟨rfl,hw⟩
  have hb:Below w.heap.size w w':=by
   rcases hw with rfl | ⟨t,rfl⟩
   ·exact Below.refl _ _
   ·exact Go.Lib.bytesWorld_below _ _ _
  refine ⟨_,ω,η,rfl,post_pure hpre hb (.tuple _ _ rfl (fun i c v hc hv=>?_)) rfl⟩
  match i with
  | 0=>simp at hc hv;subst hc;subst hv;exact .int _ _
  | 1=>simp at hc hv;subst hc;subst hv;exact .nilIface
  | i+2=>simp at hc
 ·
  refine (Any.strconv_Atoi_syntax L s hs hA e15 w (whole_cell hpre c15) d15).mono ?_
  rintro e w' ⟨N,rfl,_,_,hb⟩
  refine ⟨_,ω,η,rfl,post_pure hpre hb (.tuple _ _ rfl (fun i c v hc hv=>?_)) rfl⟩
  match i with
  | 0=>simp at hc hv;subst hc;subst hv;exact .int _ _
  | 1=>simp at hc hv;subst hc;subst hv;exact .err _ _
  | i+2=>simp at hc
 ·
  refine (Any.strconv_Atoi_range L s hs hA e16 w (whole_cell hpre c16) d16).mono ?_
  rintro e w' ⟨N,rfl,_,_,hb⟩
  refine ⟨_,ω,η,rfl,post_pure hpre hb (.tuple _ _ rfl (fun i c v hc hv=>?_)) rfl⟩
  match i with
  | 0=>simp at hc hv;subst hc;subst hv;exact .int _ _
  | 1=>simp at hc hv;subst hc;subst hv;exact .err _ _
  | i+2=>simp at hc
theorem sound_split (W:World) (L:Lays.n146 P ρ) (hi9:(P.info? (ρ.t 9)).map (fun i=>(i.zero,i.size,i.bytes))=some (some (.string ByteArray.empty),1,16)) (hm:∃m,W.cell? ⟨ρ.g 1,0,none⟩=some (.int .i64 m)):@Sound (wholeV W) P (ρ.f 146) relSplit:=by
 letI:Vars:=wholeV W
 rintro args H r H' ⟨s,sep,rfl,hs,h1,rfl,rfl⟩ vals w ω η hpre hargs
 obtain ⟨v0,v1,rfl⟩:=vals2 hargs.len rfl
 have e0:=str_of (hargs.rep 0 _ v0 rfl rfl)
 have e1:=str_of (hargs.rep 1 _ v1 rfl rfl)
 subst e0;subst e1
 obtain ⟨m,hm⟩:=hm
 refine (Any.strings_Split L hi9 s sep m w hs (whole_cell hpre hm) h1).mono ?_
 rintro e w' ⟨rfl,rfl⟩
 have hlen:=Go.Lib.splitB_all sep h1 0 _ s rfl
 generalize Go.Lib.splitB sep 0 (Go.Lib.countB s sep) s=l at hlen ⊢
 have hb:Below w.heap.size w (w.alloc (.cells (l.map Value.string).toArray (ρ.t 9))):=⟨rfl,rfl,rfl,by simp,fun k hk=>Below.heap_alloc _ _ _ hk⟩
 have hom:∀b o,b<w.heap.size→(if b=w.heap.size then (if o<l.length then Owner.imm else .free) else ω b o)=ω b o:=fun b o h=>if_neg (by omega)
 have hfree:∀b o,w.heap.size≤b→ω b o=.free:=fun b o h=>by
  by_cases e:ω b o=.free
  ·exact e
  ·have:=hpre.live b o e;omega
 refine ⟨_,fun b o=>if b=w.heap.size then (if o<l.length then .imm else .free) else ω b o,η,rfl,pre_grow hpre hb hom (fun b o h=>?_),?_,Nat.le_refl _,fun _ _=>rfl,fun b h o=>⟨fun _=>hom b o h,fun id h'=>by rw [← hom b o h];exact h'⟩,keeps_below hpre hb,.of_not rfl⟩
 ·by_cases hbg:b=w.heap.size
  ·subst hbg
   by_cases ho:o<l.length
   ·right;simp [ho]
   ·left;simp [ho]
  ·rw [if_neg hbg]
   exact .inl (hfree b o h)
 ·unfold encL
  rw [← hlen]
  refine .slice .shared 1 l.length _ (some ⟨w.heap.size,0,none⟩) l.length (fun i _=>.string (l.getD i bE)) (Nat.le_refl _) (by simp) (by simp) (fun h0=>⟨w.heap.size,0,rfl,fun i hi j hj=>?_⟩) (fun i hi=>rfl) (fun i hi=>⟨rfl,rfl⟩) (fun i hi j c hj=>?_)
  ·have hj0:j=0:=by omega
   subst hj0
   refine ⟨by simp [hi],?_⟩
   simp [List.getD,hi]
  ·cases j with
   | zero=>simp [AVal.cells] at hj;rw [← hj];exact .str _
   | succ j=>simp [AVal.cells] at hj
end Go.AM
