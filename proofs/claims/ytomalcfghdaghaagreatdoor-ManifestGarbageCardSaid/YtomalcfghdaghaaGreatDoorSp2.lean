/- Plain laws, 0: strings, numbers. -/
import Derived.Test.YtomalcfghdaghaaGreatDoorFn
import Derived.Sort.Walk0
import Derived.Laws.Strings
set_option linter.unusedVariables false
set_option linter.unusedSimpArgs false
namespace Go.Proofs.YtomalcfghdaghaaGreatDoor
open Go Go.AM
abbrev ky (s:ByteArray):List UInt8:=s.data.toList
theorem ky_inj {a b:ByteArray} (h:ky a=ky b):a=b:=by
 cases a;cases b;simp only [ky] at h;rw [Array.ext' h]
theorem sEq_eq (a b:ByteArray):sEq a b=decide (a=b):=by
 unfold sEq
 rw [ByteArray.toList_eq,ByteArray.toList_eq,Bool.eq_iff_iff,beq_iff_eq,decide_eq_true_eq]
 exact ⟨ky_inj,fun h=>by rw [h]⟩
theorem sNe_eq (a b:ByteArray):sNe a b=!decide (a=b):=by rw [← sEq_eq];rfl
theorem sLt_eq (a b:ByteArray):sLt a b=decide (ky a<ky b):=by
 unfold sLt;rw [bytesLess_eq,ByteArray.toList_eq,ByteArray.toList_eq]
theorem sLe_eq (a b:ByteArray):sLe a b=(decide (ky a<ky b)||decide (a=b)):=by
 rw [← sLt_eq,← sEq_eq];rfl
theorem sGt_eq (a b:ByteArray):sGt a b=!(decide (ky a<ky b)||decide (a=b)):=by
 rw [← sLe_eq];rfl
theorem beqS (a b:ByteArray):(a==b)=decide (a=b):=by
 cases a with | mk da=>cases b with | mk db=>
 have:((⟨da⟩:ByteArray)==⟨db⟩)=(da==db):=rfl
 rw [this,Bool.eq_iff_iff,beq_iff_eq,decide_eq_true_eq]
 exact ⟨fun h=>by rw [h],fun h=>by cases h;rfl⟩
theorem ky_lt_irrefl (a:ByteArray):¬ky a<ky a:=List.lt_irrefl _
theorem ky_lt_trans {a b c:ByteArray} (h:ky a<ky b) (h':ky b<ky c):ky a<ky c:=List.lt_trans h h'
theorem ky_lt_asymm {a b:ByteArray} (h:ky a<ky b):¬ky b<ky a:=fun h'=>ky_lt_irrefl a (ky_lt_trans h h')
theorem ky_tri (a b:ByteArray):ky a<ky b∨a=b∨ky b<ky a:=by
 by_cases h:ky a<ky b
 ·exact .inl h
 ·by_cases h':ky b<ky a
  ·exact .inr (.inr h')
  ·exact .inr (.inl (ky_inj (List.le_antisymm (List.not_lt.1 h') (List.not_lt.1 h))))
theorem gt_iff {a b:ByteArray}:sGt a b=true↔ky b<ky a:=by
 rw [sGt_eq]
 simp only [Bool.not_eq_true',Bool.or_eq_false_iff,decide_eq_false_iff_not]
 constructor
 ·rintro ⟨h1,h2⟩;rcases ky_tri a b with h | h | h
  ·exact absurd h h1
  ·exact absurd h h2
  ·exact h
 ·intro h;exact ⟨ky_lt_asymm h,fun e=>by subst e;exact ky_lt_irrefl _ h⟩
theorem wr (z:Int) (h1:-9223372036854775808≤z) (h2:z<9223372036854775808):IntKind.wrap .i64 z=z:=by
 simp only [IntKind.wrap,IntKind.bits,IntKind.signed,Bool.true_and,ge_iff_le,decide_eq_true_eq]
 omega
theorem wr1 (i:Nat) (h:i<9223372036854775807):IntKind.wrap .i64 ((i:Int)+1)=((i+1:Nat):Int):=by
 rw [wr _ (by omega) (by omega)];omega
theorem wrp (i:Nat) (h:i<9223372036854775807):IntKind.wrap .i64 (((i+1:Nat):Int)-1)=(i:Int):=by
 rw [wr _ (by omega) (by omega)];omega
theorem dec_in (i n:Nat) (h:i<n):(decide ((0:Int)≤(i:Int))&&decide ((i:Int)<(n:Int)))=true:=by
 simp;omega
theorem toNat_c (i:Nat):(i:Int).toNat=i:=rfl
theorem app_ok {n b:Nat} (h:n*b+b≤140737488355328) (hb:1≤b):(true&&(decide ((n+1)*b≤140737488355328)&&decide (n+1≤9223372036854775807)))=true:=by
 have h0:(n+1)*b=n*b+b:=by rw [Nat.add_mul,Nat.one_mul]
 have h1:n*1≤n*b:=Nat.mul_le_mul_left n hb
 simp only [Bool.true_and,Bool.and_eq_true,decide_eq_true_eq]
 omega
end Go.Proofs.YtomalcfghdaghaaGreatDoor
/- Plain laws,1: names,directories. -/
set_option linter.unusedVariables false
set_option linter.unusedSimpArgs false
namespace Go.Proofs.YtomalcfghdaghaaGreatDoor
open Go Go.AM
def okB (c:Int):Bool:=(decide (c≥65)&&decide (c≤90))||(decide (c≥97)&&decide (c≤122))||(decide (c≥48)&&decide (c≤57))||c==46||c==95||c==45
def allB (s:ByteArray) (i:Nat):Nat→Bool
 | 0=>true
 | k+1=>okB (bt s i)&&allB s (i+1) k
def isNm (s:ByteArray):Bool:=decide (0<s.size)&&decide (s.size≤60)&&allB s 0 s.size
theorem isName_l0 (n:Nat) (s:ByteArray):∀(k i m:Nat),i+k=s.size→s.size≤60→k<m→dk_isName_l0 n s m (s.size:Int) (i:Int)=some (allB s i k)
 | k,i,0,_,_,h=>by omega
 | 0,i,m+1,h,h1,_=>by
  have:¬((i:Int)<(s.size:Int)):=by omega
  simp [dk_isName_l0,this,allB]
 | k+1,i,m+1,h,h1,h2=>by
  have ih:=isName_l0 n s k (i+1) m (by omega) h1 (by omega)
  have hw:=wr1 i (by omega)
  have hin:=dec_in i s.size (by omega)
  have hlt:(i:Int)<(s.size:Int):=by omega
  have h0:(0:Int)≤(i:Int):=by omega
  simp only [dk_isName_l0,dk_isName_s1,hlt,h0,decide_true,Bool.and_true,cond_true,toNat_c,hw,ih,allB,okB]
  have hc:∃c,bt s i=c:=⟨_,rfl⟩
  obtain ⟨c,hc⟩:=hc
  simp only [hc]
  by_cases a1:c≥65<;>by_cases a2:c≤90<;>by_cases a3:c≥97<;>by_cases a4:c≤122<;>by_cases a5:c≥48<;>by_cases a6:c≤57<;>first | (exfalso;omega) | skip
  all_goals (simp only [a1,a2,a3,a4,a5,a6,decide_true,decide_false,cond_true,cond_false,Bool.true_and,Bool.false_and,Bool.and_false,Bool.or_false,Bool.false_or,Bool.true_or,Bool.or_true,Bool.not_true,Bool.not_false,show (c<48)=¬(c≥48) by simp,show (c>57)=¬(c≤57) by simp,not_true_eq_false,not_false_eq_true])
  all_goals first | rfl | skip
  all_goals (cases b1:(c==46)<;>cases b2:(c==95)<;>cases b3:(c==45)<;>simp only [bne,b1,b2,b3,cond_true,cond_false,Bool.not_true,Bool.not_false,Bool.or_true,Bool.or_false,Bool.true_and,Bool.false_and,Bool.false_or,Bool.true_or])
theorem isName_eq (n:Nat) (s:ByteArray) (h:63≤n):dk_isName n s=some (isNm s):=by
 obtain ⟨m,rfl⟩:∃m,n=m+1:=⟨n-1,by omega⟩
 simp only [dk_isName,isNm]
 by_cases h1:s.size<1
 ·have:(s.size:Int)<1:=by omega
  have h2:¬0<s.size:=by omega
  simp only [this,h2,decide_true,decide_false,cond_true,Bool.false_and]
 ·have:¬(s.size:Int)<1:=by omega
  have h2:0<s.size:=by omega
  by_cases h3:s.size≤60
  ·have h4:¬(s.size:Int)>60:=by omega
   simp only [this,h2,h3,h4,decide_true,decide_false,cond_false,Bool.true_and]
   have:=isName_l0 m s s.size 0 m (by omega) h3 (by omega)
   exact this
  ·have h4:(s.size:Int)>60:=by omega
   simp only [this,h2,h3,h4,decide_true,decide_false,cond_false,cond_true,Bool.true_and,Bool.false_and]
abbrev Dir:=List GDE
def lkE (name:ByteArray):Dir→Option Int
 | []=>none
 | e::l=>bif decide (e.Name=name) then some e.Inode else lkE name l
def wo (l:Dir) (name:ByteArray):Dir:=l.filter fun e=>!decide (e.Name=name)
def wi (x:GDE):Dir→Dir
 | []=>[x]
 | e::l=>bif sGt e.Name x.Name then x::e::l else e::wi x l
theorem getD_drop {α:Type} {l:List α} {i:Nat} {d:α} (h:i<l.length):l.drop i=l.getD i d::l.drop (i+1):=by
 rw [List.drop_eq_getElem_cons h];simp [List.getD,List.getElem?_eq_getElem h]
end Go.Proofs.YtomalcfghdaghaaGreatDoor
/- Plain laws,2: directories: a map with marks,and a sorted list. -/
set_option linter.unusedVariables false
set_option linter.unusedSimpArgs false
namespace Go.Proofs.YtomalcfghdaghaaGreatDoor
open Go Go.AM
def usedE (l:Dir) (ino:Int):Bool:=l.any fun e=>e.Inode==ino
theorem usedE_iff {l:Dir} {ino:Int}:usedE l ino=true↔∃e∈l,e.Inode=ino:=by simp [usedE]
section
variable {β:Type}
theorem lk_put (k k':ByteArray) (v:β):∀L:List (ByteArray×β),lk k' (putL k v L)=bif decide (k'=k) then some v else lk k' L
 | []=>by simp only [putL,lk,beqS]
 | (a,b)::l=>by
  have ih:=lk_put k k' v l
  simp only [putL,lk,beqS]
  by_cases h:k=a
  ·subst h;simp only [decide_true,cond_true,lk,beqS];cases decide (k'=k)<;>rfl
  ·simp only [h,decide_false,cond_false,lk,beqS,ih]
   by_cases h1:k'=a
   ·subst h1;simp [Ne.symm h]
   ·simp [h1]
theorem mem_put {k:ByteArray} {v:β} {q:ByteArray}:∀{L:List (ByteArray×β)},q∈(putL k v L).map (·.1)→q=k∨q∈L.map (·.1)
 | [],h=>by simp [putL] at h;exact .inl h
 | (a,b)::l,h=>by
  simp only [putL,beqS] at h
  by_cases e:k=a
  ·subst e;simp only [decide_true,cond_true,List.map_cons,List.mem_cons] at h ⊢;exact h.elim .inl (fun h=>.inr (.inr h))
  ·simp only [e,decide_false,cond_false,List.map_cons,List.mem_cons] at h ⊢
   rcases h with h | h
   ·exact .inr (.inl h)
   ·rcases mem_put h with h | h
    ·exact .inl h
    ·exact .inr (.inr h)
theorem nodup_put {k:ByteArray} {v:β}:∀{L:List (ByteArray×β)},(L.map (·.1)).Nodup→((putL k v L).map (·.1)).Nodup
 | [],_=>by simp [putL]
 | (a,b)::l,h=>by
  simp only [List.map_cons,List.nodup_cons] at h
  simp only [putL,beqS]
  by_cases e:k=a
  ·subst e;simp only [decide_true,cond_true,List.map_cons,List.nodup_cons];exact h
  ·simp only [e,decide_false,cond_false,List.map_cons,List.nodup_cons]
   refine ⟨fun hm=>?_,nodup_put h.2⟩
   rcases mem_put hm with h1 | h1
   ·exact e h1.symm
   ·exact h.1 h1
theorem mem_del {k:ByteArray} {q:ByteArray}:∀{L:List (ByteArray×β)},q∈(delL k L).map (·.1)→q∈L.map (·.1)
 | [],h=>by simp [delL] at h
 | (a,b)::l,h=>by
  simp only [delL,beqS] at h
  by_cases e:k=a
  ·subst e;simp only [decide_true,cond_true] at h;exact List.mem_cons_of_mem _ h
  ·simp only [e,decide_false,cond_false,List.map_cons,List.mem_cons] at h ⊢
   rcases h with h | h
   ·exact .inl h
   ·exact .inr (mem_del h)
theorem nodup_del {k:ByteArray}:∀{L:List (ByteArray×β)},(L.map (·.1)).Nodup→((delL k L).map (·.1)).Nodup
 | [],_=>by simp [delL]
 | (a,b)::l,h=>by
  simp only [List.map_cons,List.nodup_cons] at h
  simp only [delL,beqS]
  by_cases e:k=a
  ·subst e;simp only [decide_true,cond_true];exact h.2
  ·simp only [e,decide_false,cond_false,List.map_cons,List.nodup_cons]
   exact ⟨fun hm=>h.1 (mem_del hm),nodup_del h.2⟩
theorem lk_none {k:ByteArray}:∀{L:List (ByteArray×β)},k∉L.map (·.1)→lk k L=none
 | [],_=>rfl
 | (a,b)::l,h=>by
  simp only [List.map_cons,List.mem_cons,not_or] at h
  simp only [lk,beqS,h.1,decide_false,cond_false]
  exact lk_none h.2
theorem lk_mem {k:ByteArray}:∀{L:List (ByteArray×β)},(lk k L).isSome=true↔k∈L.map (·.1)
 | []=>by simp [lk]
 | (a,b)::l=>by
  have ih:=lk_mem (k:=k) (L:=l)
  simp only [lk,beqS,List.map_cons,List.mem_cons]
  by_cases e:k=a
  ·simp [e]
  ·simp only [e,decide_false,cond_false,false_or];exact ih
theorem lk_del (k k':ByteArray):∀{L:List (ByteArray×β)},(L.map (·.1)).Nodup→lk k' (delL k L)=bif decide (k'=k) then none else lk k' L
 | [],_=>by simp only [delL,lk];cases decide (k'=k)<;>rfl
 | (a,b)::l,h=>by
  simp only [List.map_cons,List.nodup_cons] at h
  have ih:=lk_del k k' h.2
  simp only [delL,lk,beqS]
  by_cases e:k=a
  ·subst e
   simp only [decide_true,cond_true]
   by_cases e2:k'=k
   ·subst e2;simp only [decide_true,cond_true];exact lk_none h.1
   ·simp only [e2,decide_false,cond_false]
  ·simp only [e,decide_false,cond_false,lk,beqS,ih]
   by_cases e2:k'=a
   ·subst e2;simp [Ne.symm e]
   ·simp [e2]
end
theorem perm_wi (x:GDE):∀l:Dir,(wi x l).Perm (x::l)
 | []=>List.Perm.refl _
 | e::l=>by
  simp only [wi]
  cases sGt e.Name x.Name with
  | true=>exact List.Perm.refl _
  | false=>exact ((perm_wi x l).cons e).trans (List.Perm.swap x e l)
theorem mem_wi {x e:GDE} {l:Dir}:e∈wi x l↔e=x∨e∈l:=by rw [(perm_wi x l).mem_iff,List.mem_cons]
theorem len_wi (x:GDE) (l:Dir):(wi x l).length=l.length+1:=(perm_wi x l).length_eq
theorem len_wo (l:Dir) (name:ByteArray):(wo l name).length≤l.length:=List.length_filter_le _ _
theorem mem_wo {e:GDE} {l:Dir} {name:ByteArray}:e∈wo l name↔e∈l∧e.Name≠name:=by simp [wo]
theorem lkE_none {name:ByteArray}:∀{l:Dir},lkE name l=none↔∀e∈l,e.Name≠name
 | []=>by simp [lkE]
 | e::l=>by
  have ih:=lkE_none (name:=name) (l:=l)
  simp only [lkE,List.mem_cons,forall_eq_or_imp]
  by_cases h:e.Name=name
  ·simp [h]
  ·simp only [h,decide_false,cond_false,ih,ne_eq,not_false_eq_true,true_and]
theorem lkE_mem {name:ByteArray} {ino:Int}:∀{l:Dir},lkE name l=some ino→∃e∈l,e.Name=name∧e.Inode=ino
 | [],h=>by cases h
 | e::l,h=>by
  simp only [lkE] at h
  by_cases hn:e.Name=name
  ·simp only [hn,decide_true,cond_true,Option.some.injEq] at h;exact ⟨e,by simp,hn,h⟩
  ·simp only [hn,decide_false,cond_false] at h
   obtain ⟨e',h1,h2⟩:=lkE_mem h
   exact ⟨e',by simp [h1],h2⟩
abbrev Srt (l:Dir):Prop:=l.Pairwise fun a b=>ky a.Name<ky b.Name
theorem srt_name {l:Dir} (h:Srt l) {a b:GDE} (ha:a∈l) (hb:b∈l) (hn:a.Name=b.Name):a=b:=by
 induction l with
 | nil=>cases ha
 | cons e l ih=>
  obtain ⟨h1,h2⟩:=List.pairwise_cons.1 h
  rcases List.mem_cons.1 ha with e1 | ha'<;>rcases List.mem_cons.1 hb with e2 | hb'
  ·rw [e1,e2]
  ·have:=h1 b hb';rw [← e1,hn] at this;exact absurd this (ky_lt_irrefl _)
  ·have:=h1 a ha';rw [← e2,hn] at this;exact absurd this (ky_lt_irrefl _)
  ·exact ih h2 ha' hb'
theorem lkE_some {name:ByteArray} {ino:Int} {l:Dir} (h:Srt l):lkE name l=some ino↔(⟨name,ino⟩:GDE)∈l:=by
 constructor
 ·intro hl
  obtain ⟨e,he,rfl,rfl⟩:=lkE_mem hl
  exact he
 ·intro hm
  cases hl:lkE name l with
  | none=>exact absurd rfl (lkE_none.1 hl _ hm)
  | some i=>
   obtain ⟨e,he,h1,h2⟩:=lkE_mem hl
   have:=srt_name h he hm h1
   subst this;simp at h2;rw [h2]
theorem lkE_eq {name:ByteArray} {l m:Dir} (hl:Srt l) (hm:Srt m) (h:∀ino,(⟨name,ino⟩:GDE)∈l↔(⟨name,ino⟩:GDE)∈m):lkE name l=lkE name m:=by
 cases h1:lkE name l with
 | none=>
  cases h2:lkE name m with
  | none=>rfl
  | some i=>exact absurd rfl (lkE_none.1 h1 _ ((h i).2 ((lkE_some hm).1 h2)))
 | some i=>exact ((lkE_some hm).2 ((h i).1 ((lkE_some hl).1 h1))).symm
theorem srt_wi {x:GDE}:∀{l:Dir},Srt l→lkE x.Name l=none→Srt (wi x l)
 | [],_,_=>by simp [wi,Srt]
 | e::l,h,hn=>by
  obtain ⟨h1,h2⟩:=List.pairwise_cons.1 h
  have hne:e.Name≠x.Name:=lkE_none.1 hn e (by simp)
  have hn':lkE x.Name l=none:=lkE_none.2 fun e' he'=>lkE_none.1 hn e' (by simp [he'])
  simp only [wi]
  cases hg:sGt e.Name x.Name with
  | true=>
   have hg:=gt_iff.1 hg
   refine List.pairwise_cons.2 ⟨fun b hb=>?_,h⟩
   rcases List.mem_cons.1 hb with rfl | hb
   ·exact hg
   ·exact ky_lt_trans hg (h1 b hb)
  | false=>
   refine List.pairwise_cons.2 ⟨fun b hb=>?_,srt_wi h2 hn'⟩
   rcases mem_wi.1 hb with rfl | hb
   ·rcases ky_tri e.Name b.Name with h3 | h3 | h3
    ·exact h3
    ·exact absurd h3 hne
    ·rw [gt_iff.2 h3] at hg;cases hg
   ·exact h1 b hb
theorem srt_wo {l:Dir} {name:ByteArray} (h:Srt l):Srt (wo l name):=h.filter _
theorem lkE_wi {x:GDE} {l:Dir} (h:Srt l) (hn:lkE x.Name l=none) (k:ByteArray):lkE k (wi x l)=bif decide (k=x.Name) then some x.Inode else lkE k l:=by
 by_cases e:k=x.Name
 ·subst e
  simp only [decide_true,cond_true]
  exact (lkE_some (srt_wi h hn)).2 (mem_wi.2 (.inl rfl))
 ·simp only [e,decide_false,cond_false]
  refine lkE_eq (srt_wi h hn) h fun ino=>?_
  rw [mem_wi]
  exact ⟨fun h=>h.elim (fun h=>absurd (congrArg GDE.Name h) e) id,.inr⟩
theorem lkE_wo {l:Dir} (h:Srt l) (name k:ByteArray):lkE k (wo l name)=bif decide (k=name) then none else lkE k l:=by
 by_cases e:k=name
 ·subst e
  simp only [decide_true,cond_true]
  exact lkE_none.2 fun e he=>(mem_wo.1 he).2
 ·simp only [e,decide_false,cond_false]
  refine lkE_eq (srt_wo h) h fun ino=>?_
  rw [mem_wo]
  exact ⟨fun h=>h.1,fun h=>⟨h,e⟩⟩
structure Rd (N:Nat) (files:List (ByteArray×Int)) (taken:List Bool) (l:Dir):Prop where
 srt:Srt l
 lks:∀name,lk name files=lkE name l
 nod:(files.map (·.1)).Nodup
 rng:∀e∈l,0≤e.Inode∧e.Inode<N
 ind:∀a∈l,∀b∈l,a.Inode=b.Inode→a=b
 len:taken.length=N
 tkn:∀i,i<N→taken.getD i false=usedE l (i:Int)
 nms:∀e∈l,isNm e.Name=true
theorem getD_set {taken:List Bool} {i j:Nat} {b:Bool} (h:j<taken.length):(taken.set j b).getD i false=bif decide (i=j) then b else taken.getD i false:=by
 by_cases e:i=j
 ·subst e;simp [List.getD,h]
 ·simp [List.getD,List.getElem?_set,Ne.symm e,e]
theorem Rd.create {N:Nat} {files:List (ByteArray×Int)} {taken:List Bool} {l:Dir} (h:Rd N files taken l) {name:ByteArray} {ino:Int} (h0:0≤ino) (h1:ino<N) (hn:lkE name l=none) (hu:usedE l ino=false) (hm:isNm name=true) :
  Rd N (putL name ino files) (taken.set ino.toNat true) (wi ⟨name,ino⟩ l):=by
 have hlen:ino.toNat<taken.length:=by rw [h.len];omega
 have hnot:∀e∈l,e.Inode≠ino:=fun e he hh=>by
  rw [usedE_iff.2 ⟨e,he,hh⟩] at hu;cases hu
 refine ⟨srt_wi h.srt hn,fun k=>?_,nodup_put h.nod,fun e he=>?_,fun a ha b hb hab=>?_,by simp [h.len],fun i hi=>?_,fun e he=>(mem_wi.1 he).elim (fun e1=>by rw [e1];exact hm) (h.nms e)⟩
 ·rw [lk_put,h.lks,lkE_wi h.srt hn]
 ·rcases mem_wi.1 he with rfl | he
  ·exact ⟨h0,h1⟩
  ·exact h.rng e he
 ·rcases mem_wi.1 ha with rfl | ha<;>rcases mem_wi.1 hb with rfl | hb
  ·rfl
  ·exact absurd hab.symm (hnot b hb)
  ·exact absurd hab (hnot a ha)
  ·exact h.ind a ha b hb hab
 ·rw [getD_set hlen,h.tkn i hi]
  by_cases e:i=ino.toNat
  ·subst e
   simp only [decide_true,cond_true]
   exact (usedE_iff.2 ⟨_,mem_wi.2 (.inl rfl),by simp;omega⟩).symm
  ·simp only [e,decide_false,cond_false]
   rw [Bool.eq_iff_iff,usedE_iff,usedE_iff]
   constructor
   ·rintro ⟨q,hq,hh⟩;exact ⟨q,mem_wi.2 (.inr hq),hh⟩
   ·rintro ⟨q,hq,hh⟩
    rcases mem_wi.1 hq with rfl | hq
    ·simp at hh;omega
    ·exact ⟨q,hq,hh⟩
theorem Rd.remove {N:Nat} {files:List (ByteArray×Int)} {taken:List Bool} {l:Dir} (h:Rd N files taken l) {name:ByteArray} {ino:Int} (hn:lkE name l=some ino) :
  Rd N (delL name files) (taken.set ino.toNat false) (wo l name):=by
 have hm:=(lkE_some h.srt).1 hn
 have hr:=h.rng _ hm
 simp only at hr
 have hlen:ino.toNat<taken.length:=by rw [h.len];omega
 refine ⟨srt_wo h.srt,fun k=>?_,nodup_del h.nod,fun e he=>h.rng e (mem_wo.1 he).1,fun a ha b hb hab=>h.ind a (mem_wo.1 ha).1 b (mem_wo.1 hb).1 hab,by simp [h.len],fun i hi=>?_,fun e he=>h.nms e (mem_wo.1 he).1⟩
 ·rw [lk_del _ _ h.nod,h.lks,lkE_wo h.srt]
 ·rw [getD_set hlen,h.tkn i hi]
  by_cases e:i=ino.toNat
  ·subst e
   simp only [decide_true,cond_true]
   cases hu:usedE (wo l name) ((ino.toNat:Nat):Int) with
   | false=>rfl
   | true=>
    obtain ⟨q,hq,hh⟩:=usedE_iff.1 hu
    obtain ⟨hq1,hq2⟩:=mem_wo.1 hq
    have:=h.ind q hq1 _ hm (by simp only;omega)
    subst this;exact absurd rfl hq2
  ·simp only [e,decide_false,cond_false]
   rw [Bool.eq_iff_iff,usedE_iff,usedE_iff]
   constructor
   ·rintro ⟨q,hq,hh⟩
    refine ⟨q,mem_wo.2 ⟨hq,fun hqn=>?_⟩,hh⟩
    have:=srt_name h.srt hq hm hqn
    subst this;simp at hh;omega
   ·rintro ⟨q,hq,hh⟩;exact ⟨q,(mem_wo.1 hq).1,hh⟩
theorem Rd.ext {N:Nat} {files files':List (ByteArray×Int)} {taken taken':List Bool} {l l':Dir} (h:Rd N files taken l) (hl:l=l') (h1:∀k,lk k files'=lk k files) (h2:(files'.map (·.1)).Nodup) (h3:taken'.length=N) (h4:∀i,i<N→taken'.getD i false=taken.getD i false):Rd N files' taken' l':=by
 subst hl
 exact ⟨h.srt,fun k=>(h1 k).trans (h.lks k),h2,h.rng,h.ind,h3,fun i hi=>(h4 i hi).trans (h.tkn i hi),h.nms⟩
theorem wo_none {l:Dir} {name:ByteArray} (h:lkE name l=none):wo l name=l:=List.filter_eq_self.2 fun e he=>by simp [lkE_none.1 h e he]
theorem wo_comm (l:Dir) (a b:ByteArray):wo (wo l a) b=wo (wo l b) a:=by
 simp only [wo,List.filter_filter];congr 1;funext e;rw [Bool.and_comm]
theorem Rd.rename {N:Nat} {files:List (ByteArray×Int)} {taken:List Bool} {l:Dir} (h:Rd N files taken l) {name to:ByteArray} {ino:Int} (hn:lkE name l=some ino) (hne:to≠name) (hto:isNm to=true) :
  Rd N (delL name (putL to ino files)) (match lkE to l with | some old=>taken.set old.toNat false | none=>taken) (wi ⟨to,ino⟩ (wo (wo l name) to)):=by
 have hm:=(lkE_some h.srt).1 hn
 have hr:=h.rng _ hm
 simp only at hr
 obtain ⟨T,hT,hTR⟩:∃T,(match lkE to l with | some old=>taken.set old.toNat false | none=>taken)=T∧Rd N (delL to files) T (wo l to):=by
  cases ho:lkE to l with
  | some old=>exact ⟨_,rfl,h.remove ho⟩
  | none=>
   refine ⟨_,rfl,h.ext (wo_none ho).symm (fun k=>?_) (nodup_del h.nod) h.len (fun i hi=>rfl)⟩
   rw [lk_del _ _ h.nod]
   by_cases e:k=to
   ·subst e;simp only [decide_true,cond_true];rw [h.lks,ho]
   ·simp only [e,decide_false,cond_false]
 rw [hT]
 have hn2:lkE name (wo l to)=some ino:=by rw [lkE_wo h.srt,hn];simp [Ne.symm hne]
 have h2:=hTR.remove hn2
 have hno:lkE to (wo (wo l to) name)=none:=by rw [lkE_wo (srt_wo h.srt),lkE_wo h.srt];simp [hne]
 have hu:usedE (wo (wo l to) name) ino=false:=by
  cases hu:usedE (wo (wo l to) name) ino with
  | false=>rfl
  | true=>
   obtain ⟨q,hq,hh⟩:=usedE_iff.1 hu
   obtain ⟨hq1,hq2⟩:=mem_wo.1 hq
   have:=h.ind q (mem_wo.1 hq1).1 _ hm hh
   subst this;exact absurd rfl hq2
 have h3:=h2.create hr.1 hr.2 hno hu hto
 have hlen:ino.toNat<T.length:=by rw [hTR.len];omega
 refine h3.ext (by rw [wo_comm]) (fun k=>?_) (nodup_del (nodup_put h.nod)) hTR.len (fun i hi=>?_)
 ·rw [lk_del _ _ (nodup_put h.nod),lk_put,lk_put,lk_del _ _ (nodup_del h.nod),lk_del _ _ h.nod]
  by_cases e:k=name
  ·subst e;simp [Ne.symm hne]
  ·by_cases e2:k=to<;>simp [e,e2,hne]
 ·rw [getD_set (by simpa using hlen),getD_set hlen]
  by_cases e:i=ino.toNat
  ·subst e
   simp only [decide_true,cond_true]
   rw [hTR.tkn _ hi]
   exact usedE_iff.2 ⟨_,mem_wo.2 ⟨hm,Ne.symm hne⟩,by simp only;omega⟩
  ·simp only [e,decide_false,cond_false]
theorem perm_insS (a:ByteArray):∀l,(insS a l).Perm (a::l)
 | []=>List.Perm.refl _
 | b::l=>by
  simp only [insS]
  cases sLe a b with
  | true=>exact List.Perm.refl _
  | false=>exact ((perm_insS a l).cons b).trans (List.Perm.swap a b l)
theorem perm_isort:∀l,(isort l).Perm l
 | []=>List.Perm.refl _
 | a::l=>(perm_insS a _).trans ((perm_isort l).cons a)
abbrev SrtS (l:List ByteArray):Prop:=l.Pairwise fun a b=>ky a<ky b
theorem srt_insS (a:ByteArray):∀l,SrtS l→a∉l→SrtS (insS a l)
 | [],_,_=>by simp [insS,SrtS]
 | b::l,h,hn=>by
  obtain ⟨h1,h2⟩:=List.pairwise_cons.1 h
  simp only [insS]
  cases hg:sLe a b with
  | true=>
   have hab:ky a<ky b:=by
    rw [sLe_eq] at hg
    simp only [Bool.or_eq_true,decide_eq_true_eq] at hg
    rcases hg with h | h
    ·exact h
    ·exact absurd (by simp [h]) hn
   refine List.pairwise_cons.2 ⟨fun c hc=>?_,h⟩
   rcases List.mem_cons.1 hc with rfl | hc
   ·exact hab
   ·exact ky_lt_trans hab (h1 c hc)
  | false=>
   have hba:ky b<ky a:=by
    rw [sLe_eq] at hg
    simp only [Bool.or_eq_false_iff,decide_eq_false_iff_not] at hg
    rcases ky_tri a b with h | h | h
    ·exact absurd h hg.1
    ·exact absurd h hg.2
    ·exact h
   refine List.pairwise_cons.2 ⟨fun c hc=>?_,srt_insS a l h2 (fun hm=>hn (by simp [hm]))⟩
   rcases List.mem_cons.1 ((perm_insS a l).mem_iff.1 hc) with rfl | hc
   ·exact hba
   ·exact h1 c hc
theorem srt_isort:∀l:List ByteArray,l.Nodup→SrtS (isort l)
 | [],_=>List.Pairwise.nil
 | a::l,h=>by
  obtain ⟨h1,h2⟩:=List.nodup_cons.1 h
  exact srt_insS a _ (srt_isort l h2) (fun hm=>h1 ((perm_isort l).mem_iff.1 hm))
theorem srt_unique:∀{l m:List ByteArray},SrtS l→SrtS m→(∀x,x∈l↔x∈m)→l=m
 | [],[],_,_,_=>rfl
 | [],b::m,_,_,h=>absurd ((h b).2 (by simp)) (by simp)
 | a::l,[],_,_,h=>absurd ((h a).1 (by simp)) (by simp)
 | a::l,b::m,h1,h2,h=>by
  obtain ⟨ha,hl⟩:=List.pairwise_cons.1 h1
  obtain ⟨hb,hm⟩:=List.pairwise_cons.1 h2
  have hab:a=b:=by
   rcases List.mem_cons.1 ((h a).1 (by simp)) with e | e
   ·exact e
   ·rcases List.mem_cons.1 ((h b).2 (by simp)) with e2 | e2
    ·exact e2.symm
    ·exact absurd (ky_lt_trans (hb a e) (ha b e2)) (ky_lt_irrefl _)
  subst hab
  congr 1
  refine srt_unique hl hm fun x=>⟨fun hx=>?_,fun hx=>?_⟩
  ·rcases List.mem_cons.1 ((h x).1 (by simp [hx])) with e | e
   ·subst e;exact absurd (ha x hx) (ky_lt_irrefl _)
   ·exact e
  ·rcases List.mem_cons.1 ((h x).2 (by simp [hx])) with e | e
   ·subst e;exact absurd (hb x hx) (ky_lt_irrefl _)
   ·exact e
theorem Rd.names {N:Nat} {files:List (ByteArray×Int)} {taken:List Bool} {l:Dir} (h:Rd N files taken l):isort (files.map (·.1))=l.map (·.Name):=by
 refine srt_unique (srt_isort _ h.nod) (List.pairwise_map.2 h.srt) fun x=>?_
 rw [(perm_isort _).mem_iff,← lk_mem,h.lks]
 constructor
 ·intro hx
  obtain ⟨i,hi⟩:=Option.isSome_iff_exists.1 hx
  exact List.mem_map.2 ⟨_,(lkE_some h.srt).1 hi,rfl⟩
 ·intro hx
  obtain ⟨e,he,rfl⟩:=List.mem_map.1 hx
  rw [(lkE_some (ino:=e.Inode) h.srt).2 he];rfl
theorem nodup_bound:∀(N:Nat) (l:List Int),l.Nodup→(∀x∈l,0≤x∧x<N)→l.length≤N
 | 0,l,_,h=>by
  cases l with
  | nil=>simp
  | cons a l=>have:=h a (by simp);omega
 | N+1,l,hn,h=>by
  have h1:=nodup_bound N (l.erase (N:Int)) (hn.erase _) (fun x hx=>by
   have hx2:=(List.Nodup.mem_erase_iff hn).1 hx
   have:=h x hx2.2
   have:=hx2.1
   omega)
  have:=List.length_erase (a:=(N:Int)) (l:=l)
  split at this<;>omega
theorem Rd.bound {N:Nat} {files:List (ByteArray×Int)} {taken:List Bool} {l:Dir} (h:Rd N files taken l):l.length≤N:=by
 have:=nodup_bound N (l.map (·.Inode)) (by
  refine List.pairwise_map.2 ((List.Pairwise.and_mem.1 h.srt).imp fun {a b} hab he=>?_)
  have:=h.ind a hab.1 b hab.2.1 he
  subst this;exact ky_lt_irrefl _ hab.2.2) (fun x hx=>by
  obtain ⟨e,he,rfl⟩:=List.mem_map.1 hx
  exact h.rng e he)
 simpa using this
end Go.Proofs.YtomalcfghdaghaaGreatDoor
