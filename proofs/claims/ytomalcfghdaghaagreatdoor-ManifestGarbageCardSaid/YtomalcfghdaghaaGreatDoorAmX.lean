/- Typed values and their encodings: what the printed typed functions and their proofs lean on. -/
import Derived.Test.YtomalcfghdaghaaGreatDoorAmR
set_option linter.unusedVariables false
set_option linter.unusedSimpArgs false
namespace Go.AM
def bE:ByteArray:=⟨#[]⟩
def bt (s:ByteArray) (i:Nat):Int:=((s.data.toList.getD i 0).toNat:Int)
def sEq (a b:ByteArray):Bool:=a.toList==b.toList
def sNe (a b:ByteArray):Bool:=!(a.toList==b.toList)
def sLt (a b:ByteArray):Bool:=Op.bytesLess a.toList b.toList
def sLe (a b:ByteArray):Bool:=Op.bytesLess a.toList b.toList||a.toList==b.toList
def sGt (a b:ByteArray):Bool:=!(Op.bytesLess a.toList b.toList||a.toList==b.toList)
def iAnd (k:IntKind) (a b:Int):Int:=k.wrap (BitVec.ofInt k.bits a &&& BitVec.ofInt k.bits b).toNat
def iXor (k:IntKind) (a b:Int):Int:=k.wrap (BitVec.ofInt k.bits a ^^^ BitVec.ofInt k.bits b).toNat
def iShr (k:IntKind) (a b:Int):Int:=a.fdiv (2 ^ (min b.toNat k.bits))
def iNot (k:IntKind) (n:Int):Int:=k.wrap (BitVec.ofInt k.bits (bif k.signed then -1 else k.max) ^^^ BitVec.ofInt k.bits n).toNat
section
variable {R α:Type} {C:FuncId→List AVal→List HObj→AVal→List HObj→Prop} {enc:α→R} {t:Tree R} {c c':Bool} {X Y:Option α}
theorem Dn.retE {a:α} {b:R} (h:t.head=.ret b) (hb:b=enc a):Dn C enc t (some a):=by subst hb;exact Dn.ret h
end
structure KeyOk {α:Type} [BEq α] (enc:α→AVal):Prop where
 eqs:∀a b,eqScalar (enc a) (enc b)=some (a==b)
theorem keyStr:KeyOk AVal.str:=⟨fun _ _=>rfl⟩
section
variable {α β:Type} [BEq α]
def lk (k:α):List (α×β)→Option β
 | []=>none
 | (a,b)::l=>bif k==a then some b else lk k l
def putL (k:α) (v:β):List (α×β)→List (α×β)
 | []=>[(k,v)]
 | (a,b)::l=>bif k==a then (k,v)::l else (a,b)::putL k v l
def delL (k:α):List (α×β)→List (α×β)
 | []=>[]
 | (a,b)::l=>bif k==a then l else (a,b)::delL k l
def entL (encK:α→AVal) (encV:β→AVal) (L:List (α×β)):List (AVal×AVal):=L.map fun p=>(encK p.1,encV p.2)
variable {encK:α→AVal} {encV:β→AVal} {es:List (AVal×AVal)} {L:List (α×β)}
theorem findKey_eq (hk:KeyOk encK) (k:α):∀L:List (α×β),findKey (encK k) (entL encK encV L)=(lk k L).map encV
 | []=>rfl
 | (a,b)::l=>by
  have ih:=findKey_eq hk k l
  unfold entL at ih
  show findKey (encK k) ((encK a,encV b)::l.map _)=_
  simp only [findKey,hk.eqs,lk,ih]
  cases k==a<;>rfl
theorem putKey_eq (hk:KeyOk encK) (k:α) (v:β):∀L:List (α×β),putKey (encK k) (encV v) (entL encK encV L)=entL encK encV (putL k v L)
 | []=>rfl
 | (a,b)::l=>by
  have ih:=putKey_eq hk k v l
  unfold entL at ih
  show putKey (encK k) (encV v) ((encK a,encV b)::l.map _)=_
  simp only [putKey,hk.eqs,putL,ih,Option.getD_some]
  cases k==a<;>rfl
theorem delKey_eq (hk:KeyOk encK) (k:α):∀L:List (α×β),delKey (encK k) (entL encK encV L)=entL encK encV (delL k L)
 | []=>rfl
 | (a,b)::l=>by
  have ih:=delKey_eq hk k l
  unfold entL at ih
  show delKey (encK k) ((encK a,encV b)::l.map _)=_
  simp only [delKey,hk.eqs,delL,ih,Option.getD_some]
  cases k==a<;>rfl
theorem put_eq (hk:KeyOk encK) (h:es=entL encK encV L) (k:α) (v:β):putKey (encK k) (encV v) es=entL encK encV (putL k v L):=by rw [h];exact putKey_eq hk k v L
theorem del_eq (hk:KeyOk encK) (h:es=entL encK encV L) (k:α):delKey (encK k) es=entL encK encV (delL k L):=by rw [h];exact delKey_eq hk k L
theorem find2 (hk:KeyOk encK) (d:β) (h:es=entL encK encV L) (k:α) :
  SameV (.tuple [(findKey (encK k) es).getD (encV d),.bool (findKey (encK k) es).isSome]) (.tuple [encV ((lk k L).getD d),.bool (lk k L).isSome]):=by
 rw [h,findKey_eq hk k L]
 cases lk k L<;>exact .refl _
theorem find1 (hk:KeyOk encK) (hd:∀x,disAgg (encV x)=encV x) (d:β) (h:es=entL encK encV L) (k:α) :
  SameV (disAgg ((findKey (encK k) es).getD (encV d))) (encV ((lk k L).getD d)):=by
 rw [h,findKey_eq hk k L]
 cases lk k L with
 | none=>show SameV (disAgg (encV d)) (encV d);rw [hd];exact .refl _
 | some b=>show SameV (disAgg (encV b)) (encV b);rw [hd];exact .refl _
end
section
variable {α β:Type} {encK:α→AVal} {encV:β→AVal} {es:List (AVal×AVal)} {L:List (α×β)}
theorem all_keys (ti:Option TI) (h:es=entL encK encV L) (hk:∀a,isKey ti (encK a)=true):(es.all fun e=>isKey ti e.1)=true:=by
 rw [h,List.all_eq_true]
 intro e he
 obtain ⟨p,_,rfl⟩:=List.mem_map.1 he
 exact hk _
end
structure EncOk {α:Type} (ag:Bool) (esz:Nat) (enc:α→AVal):Prop where
 pos:0<esz
 len:∀x,(enc x).cells.length=esz
 elem:∀x,mkElem ag esz (enc x).cells 0=enc x
 noRef:∀x,(enc x).cells.all noRef=true
 dis:∀x,disAgg (enc x)=enc x
theorem okInt (k:IntKind):EncOk false 1 (AVal.int k):=⟨by decide,fun _=>rfl,fun _=>rfl,fun _=>rfl,fun _=>rfl⟩
theorem okBool:EncOk false 1 AVal.bool:=⟨by decide,fun _=>rfl,fun _=>rfl,fun _=>rfl,fun _=>rfl⟩
theorem okStr:EncOk false 1 AVal.str:=⟨by decide,fun _=>rfl,fun _=>rfl,fun _=>rfl,fun _=>rfl⟩
section
variable {α:Type} {ag:Bool} {esz:Nat} {enc:α→AVal} {d x y:α} {l m L:List α} {cs ps:List AVal} {z:AVal}
def cellsL (enc:α→AVal) (L:List α):List AVal:=L.flatMap fun x=>(enc x).cells
theorem cellsL_len (ok:EncOk ag esz enc):∀L:List α,(cellsL enc L).length=L.length*esz
 | []=>by simp [cellsL]
 | a::l=>by
  have:=cellsL_len ok l
  simp only [cellsL,List.flatMap_cons,List.length_append,ok.len,List.length_cons,Nat.add_mul,Nat.one_mul] at *
  omega
theorem cellsL_get (ok:EncOk ag esz enc):∀(L:List α) (i o:Nat),i<L.length→o<esz→(cellsL enc L)[i*esz+o]?=((enc (L.getD i d)).cells)[o]?
 | [],i,o,h,_=>by simp at h
 | a::l,0,o,_,ho=>by
  simp only [cellsL,List.flatMap_cons,Nat.zero_mul,Nat.zero_add]
  rw [List.getElem?_append_left (by rw [ok.len];exact ho)]
  rfl
 | a::l,i+1,o,h,ho=>by
  have ih:=cellsL_get ok l i o (by simpa using h) ho
  simp only [cellsL,List.flatMap_cons] at ih ⊢
  rw [List.getElem?_append_right (by rw [ok.len,Nat.add_mul];omega),ok.len,show (i+1)*esz+o-esz=i*esz+o by rw [Nat.add_mul];omega,ih]
  simp [List.getD]
theorem cellsL_part (ok:EncOk ag esz enc) (L:List α) (i:Nat) (h:i<L.length):((cellsL enc L).drop (i*esz)).take esz=(enc (L.getD i d)).cells:=by
 apply List.ext_getElem?;intro o
 by_cases ho:o<esz
 ·rw [List.getElem?_take_of_lt ho,List.getElem?_drop,cellsL_get ok L i o h ho]
 ·rw [List.getElem?_eq_none (by rw [List.length_take];omega),List.getElem?_eq_none (by rw [ok.len];omega)]
theorem cellsL_elem (ok:EncOk ag esz enc) (L:List α) (i:Nat) (h:i<L.length):mkElem ag esz (cellsL enc L) (i*esz)=enc (L.getD i d):=by
 have h1:=ok.elem (L.getD i d)
 have h2:=cellsL_part (d:=d) ok L i h
 unfold mkElem at *
 cases ag with
 | true=>
  simp only [cond_true,List.drop_zero] at *
  rw [h2,← h1,List.take_of_length_le (by rw [ok.len];exact Nat.le_refl _)]
  cases he:enc (L.getD i d)<;>rw [he] at h1<;>simp_all [AVal.cells]
 | false=>
  simp only [cond_false] at *
  rw [← h1]
  simp only [List.getD]
  have:=cellsL_get (d:=d) ok L i 0 h ok.pos
  rw [Nat.add_zero] at this
  rw [this];rfl
theorem cellsL_noRef (ok:EncOk ag esz enc) (L:List α):(cellsL enc L).all noRef=true:=by
 rw [List.all_eq_true];intro c hc
 obtain ⟨x,_,hx⟩:=List.mem_flatMap.1 hc
 exact List.all_eq_true.1 (ok.noRef x) c hx
theorem mul_le_iff {a b k o s:Nat} (ho:o+s≤k) (hs:0<s):a*k+o+s≤b*k↔a<b:=by
 constructor
 ·intro h
  rcases Nat.lt_or_ge a b with h1 | h1
  ·exact h1
  ·have:=Nat.mul_le_mul_right k h1;omega
 ·intro h
  have:=Nat.mul_le_mul_right k (show a+1≤b from h)
  rw [Nat.add_mul] at this;omega
theorem ble_eq (ok:EncOk ag esz enc) (h:cs=cellsL enc L) (i o s:Nat) (ho:o+s≤esz) (hs:0<s):Nat.ble (0+i*esz+o+s) cs.length=Nat.blt i L.length:=by
 rw [h,cellsL_len ok,Nat.zero_add]
 have:=mul_le_iff (a:=i) (b:=L.length) ho hs
 rw [Bool.eq_iff_iff,Nat.ble_eq,Nat.blt_eq];exact this
theorem lt_of_blt {a b:Nat} (h:Nat.blt a b=true):a<b:=by rwa [Nat.blt_eq] at h
theorem get1_eq (ok:EncOk ag esz enc) (h:cs=cellsL enc L) (i o:Nat) (ho:o<esz) (hc:Nat.blt i L.length=true) :
  SameV (dis (cs.getD (0+i*esz+o) .undef)) (dis ((enc (L.getD i d)).cells.getD o .undef)):=by
 rw [h,Nat.zero_add];simp only [List.getD]
 have:=cellsL_get (d:=d) ok L i o (lt_of_blt hc) ho
 rw [this];exact .refl _
theorem overX_get {cs ps:List AVal} {off j:Nat} (h:off+ps.length≤cs.length):(over cs off ps)[j]?=if off≤j∧j<off+ps.length then ps[j-off]? else cs[j]?:=by
 unfold over
 have hl:(cs.take off).length=off:=by rw [List.length_take];omega
 by_cases h1:j<off
 ·rw [if_neg (by omega),List.append_assoc,List.getElem?_append_left (by omega),List.getElem?_take_of_lt h1]
 ·by_cases h2:j<off+ps.length
  ·rw [if_pos ⟨by omega,h2⟩,List.getElem?_append_left (by rw [List.length_append];omega),List.getElem?_append_right (by omega),hl]
  ·rw [if_neg (by omega),List.getElem?_append_right (by rw [List.length_append];omega),List.getElem?_drop,List.length_append,hl]
   congr 1;omega
theorem set_eq (ok:EncOk ag esz enc) (h:cs=cellsL enc L) (i:Nat) (y:α) (o:Nat) (ho:o+ps.length≤esz) (hy:over (enc (L.getD i d)).cells o ps=(enc y).cells) (hc:Nat.blt i L.length=true) :
  over cs (0+i*esz+o) ps=cellsL enc (L.set i y):=by
 have hi:=lt_of_blt hc
 rw [h,Nat.zero_add]
 apply List.ext_getElem?;intro j
 have hlen:=cellsL_len ok L
 have hb:i*esz+esz≤L.length*esz:=by
  have:=Nat.mul_le_mul_right esz (show i+1≤L.length from hi);rw [Nat.add_mul] at this;omega
 rw [overX_get (by rw [hlen];omega)]
 by_cases hj:j<L.length*esz
 ·-- which element is it?
  have hq:j / esz<L.length:=(Nat.div_lt_iff_lt_mul ok.pos).2 hj
  have hm:j % esz<esz:=Nat.mod_lt _ ok.pos
  have hd:j=j / esz*esz+j % esz:=by have:=Nat.div_add_mod j esz;rw [Nat.mul_comm] at this;omega
  have g1:=cellsL_get (d:=d) ok L (j / esz) (j % esz) hq hm
  have g2:=cellsL_get (d:=d) ok (L.set i y) (j / esz) (j % esz) (by simpa using hq) hm
  rw [← hd] at g1 g2
  rw [g2]
  by_cases e:j / esz=i
  ·have hset:(L.set i y).getD (j / esz) d=y:=by rw [e];simp [List.getD,hi]
   rw [hset,← hy,overX_get (by rw [ok.len];exact ho)]
   rw [g1,e]
   have:j=i*esz+j % esz:=by rw [← e];exact hd
   by_cases hin:o≤j % esz∧j % esz<o+ps.length
   ·rw [if_pos hin,if_pos (by omega),show j-(i*esz+o)=j % esz-o by omega]
   ·rw [if_neg hin,if_neg (by omega)]
  ·have hset:(L.set i y).getD (j / esz) d=L.getD (j / esz) d:=by simp [List.getD,List.getElem?_set,Ne.symm e]
   rw [hset,← g1,if_neg]
   intro hh
   have h1:i*esz≤j:=by omega
   have h2:j<i*esz+esz:=by omega
   exact e (Nat.div_eq_of_lt_le (by omega) (by rw [Nat.add_mul];omega))
 ·rw [if_neg (by omega),List.getElem?_eq_none (by rw [hlen];omega),List.getElem?_eq_none (by rw [cellsL_len ok,List.length_set];omega)]
theorem rep_eq (enc:α→AVal) (d:α) (n:Nat):(List.replicate n (enc d).cells).flatten=cellsL enc (List.replicate n d):=by
 induction n with
 | zero=>rfl
 | succ n ih=>simp only [List.replicate_succ,List.flatten_cons,cellsL,List.flatMap_cons] at *;rw [ih]
def clrL (o n:Nat) (d:α) (L:List α):List α:=L.take o++List.replicate n d++L.drop (o+n)
theorem cellsL_app (enc:α→AVal) (a b:List α):cellsL enc (a++b)=cellsL enc a++cellsL enc b:=by simp [cellsL]
theorem cellsL_td (ok:EncOk ag esz enc):∀(L:List α) (o:Nat),(cellsL enc L).take (o*esz)=cellsL enc (L.take o)∧(cellsL enc L).drop (o*esz)=cellsL enc (L.drop o)
 | [],o=>by simp [cellsL]
 | a::l,0=>by simp [cellsL]
 | a::l,o+1=>by
  obtain ⟨h1,h2⟩:=cellsL_td ok l o
  have hl:(enc a).cells.length=esz:=ok.len a
  have he:(o+1)*esz=(enc a).cells.length+o*esz:=by rw [hl,Nat.add_mul];omega
  constructor
  ·rw [he];simp only [cellsL,List.flatMap_cons,List.take_succ_cons,List.take_length_add_append] at *;rw [h1]
  ·rw [he];simp only [cellsL,List.flatMap_cons,List.drop_succ_cons,List.drop_length_add_append] at *;rw [h2]
theorem ble_clear (ok:EncOk ag esz enc) (h:cs=cellsL enc L) (o n:Nat):Nat.ble (0+o*esz+n*esz) cs.length=Nat.ble (o+n) L.length:=by
 rw [h,cellsL_len ok,Nat.zero_add,Bool.eq_iff_iff,Nat.ble_eq,Nat.ble_eq,← Nat.add_mul]
 exact Nat.mul_le_mul_right_iff ok.pos
theorem clear_eq (ok:EncOk ag esz enc) (h:cs=cellsL enc L) (o n:Nat) (d:α):over cs (0+o*esz) (List.replicate n (enc d).cells).flatten=cellsL enc (clrL o n d L):=by
 rw [h,Nat.zero_add,rep_eq]
 unfold over clrL
 rw [cellsL_len ok,List.length_replicate,← Nat.add_mul,(cellsL_td ok L o).1,(cellsL_td ok L (o+n)).2,cellsL_app,cellsL_app]
theorem frz_part {n:Nat} (ok:EncOk ag esz enc) (h:cs=cellsL enc L):(Nat.ble (0+n*esz) cs.length&&cs.all noRef)=Nat.ble n L.length:=by
 rw [h,cellsL_len ok,cellsL_noRef ok,Nat.zero_add,Bool.and_true,Bool.eq_iff_iff,Nat.ble_eq,Nat.ble_eq]
 exact Nat.mul_le_mul_right_iff ok.pos
theorem same_frozenT {n:Nat} (ok:EncOk ag esz enc) (d:α) (h:cs=cellsL enc L) (hn:Nat.ble n L.length=true):SameV (.slice .shared esz n (fun i=>mkElem ag esz cs (0+i*esz))) (encL esz enc d (L.take n)):=by
 have hn:=Nat.le_of_ble_eq_true hn
 have hl:(L.take n).length=n:=by rw [List.length_take];omega
 unfold encL
 rw [hl]
 exact .slice _ _ _ _ _ fun i hi=>by
  rw [h,Nat.zero_add,cellsL_elem (d:=d) ok L i (by omega)]
  simp [List.getD,List.getElem?_take_of_lt hi]
theorem bslS {n:Nat} (ok:EncOk ag esz enc) (hcs:cs=cellsL enc l) (hn:n=l.length:=by rfl):SameV (.slice .exact esz n (fun j=>bif Nat.ble (j+1) n then mkElem ag esz cs (j*esz) else z)) (encO .exact esz enc d l):=by
 unfold encO;rw [hn]
 exact .slice _ _ _ _ _ fun i hi=>by rw [Nat.ble_eq_true_of_le hi,cond_true,hcs];exact cellsL_elem ok l i hi
theorem pushS (ok:EncOk ag esz enc) (hcs:cs=(enc x).cells) :
  SameV (.slice .own esz (l.length+1) (glue l.length (fun i=>enc (l.getD i d)) (fun j=>bif Nat.ble (j+1) 1 then mkElem ag esz cs (j*esz) else z))) (encO .own esz enc d (l++[x])):=
 same_push (fun _ _=>rfl) (by simp only [Nat.zero_add,Nat.zero_mul,hcs,ok.elem];rfl)
section
variable {sp:Spare} {lo hi mx:Int}
theorem partS (hc:(decide ((0:Int)≤lo)&&decide (lo≤hi)&&decide (hi≤(l.length:Int)))=true) :
  SameV (.slice sp esz (hi.toNat-lo.toNat) (fun j=>enc (l.getD (lo.toNat+j) d))) (encO sp esz enc d (List.drop lo.toNat (List.take hi.toNat l))):=by
 simp only [Bool.and_eq_true,decide_eq_true_eq] at hc
 exact same_part (f:=fun i=>enc (l.getD i d)) (by omega) (by omega) (fun _ _=>rfl)
theorem partST (hc:(decide ((0:Int)≤lo)&&decide (lo≤(l.length:Int))&&decide ((l.length:Int)≤(l.length:Int)))=true) :
  SameV (.slice sp esz ((l.length:Int).toNat-lo.toNat) (fun j=>enc (l.getD (lo.toNat+j) d))) (encO sp esz enc d (List.drop lo.toNat l)):=by
 have:=partS (sp:=sp) (esz:=esz) (enc:=enc) (d:=d) hc
 simpa using this
theorem partSA (hc:(decide ((0:Int)≤0)&&decide (0≤(l.length:Int))&&decide ((l.length:Int)≤(l.length:Int)))=true) :
  SameV (.slice sp esz ((l.length:Int).toNat-(0:Int).toNat) (fun j=>enc (l.getD ((0:Int).toNat+j) d))) (encO sp esz enc d l):=partST (lo:=0) hc
theorem and3 {a b:Bool} (h:(a&&b)=true):a=true:=by cases a<;>simp_all
end
end
inductive SameL:List AVal→List AVal→Prop where
 | nil:SameL [] []
 | cons {a b:AVal} {l m:List AVal} (h:SameV a b) (hl:SameL l m):SameL (a::l) (b::m)
theorem SameL.spec {l m:List AVal} (h:SameL l m):l.length=m.length∧∀(i:Nat) c c',l[i]?=some c→m[i]?=some c'→SameV c c':=by
 induction h with
 | nil=>exact ⟨rfl,fun i c c' h=>by simp at h⟩
 | cons h hl ih=>
  refine ⟨by simp [ih.1],fun i c c' h1 h2=>?_⟩
  cases i with
  | zero=>simp at h1 h2;rw [← h1,← h2];exact h
  | succ i=>exact ih.2 i c c' (by simpa using h1) (by simpa using h2)
theorem SameV.tuple_of {l m:List AVal} (h:SameL l m):SameV (.tuple l) (.tuple m):=.tuple _ _ h.spec.1 h.spec.2
theorem HObj.arr_of {a b:List AVal} (h:a=b):HObj.arr a=.arr b:=by rw [h]
theorem HObj.map_of {a b:List (AVal×AVal)} (h:a=b):HObj.map a=.map b:=by rw [h]
theorem cons_of {α:Type} {a b:α} {l m:List α} (h:a=b) (h2:l=m):a::l=b::m:=by rw [h,h2]
theorem ret_of {v:AVal} {H H':List HObj} (h:H=H'):(v,H)=(v,H'):=by rw [h]
theorem SameO.rfl (o:HObj):SameO o o:=.refl o
section
variable {α β:Type}
end
def bytesOf (l:List Int):ByteArray:=⟨(l.map fun n=>UInt8.ofNat n.toNat).toArray⟩
theorem str_bytes (l:List Int) {sp:Nat→AVal} (h:sp=fun i=>.int .u8 (l.getD i 0):=by rfl):SameV (.str (strOf l.length sp)) (.str (bytesOf l)):=by
 have:strOf l.length sp=bytesOf l:=by
  subst h
  unfold strOf bytesOf
  congr 2
  apply List.ext_getElem
  ·simp
  ·intro i h1 h2
   simp at h1
   simp [intOf',List.getD,List.getElem?_eq_getElem h1]
 rw [this];exact .refl _
theorem u8_all (l:List Int) {sp:Nat→AVal} (h:sp=fun i=>.int .u8 (l.getD i 0):=by rfl):(true&&allU8 l.length sp)=true:=by
 subst h
 simp [allU8,isU8]
theorem SameO.of_eq {o o':HObj} (h:o=o'):SameO o o':=h▸.refl o
theorem SameO.arr_of {a b:List AVal} (h:a=b):SameO (.arr a) (.arr b):=h▸SameO.rfl _
theorem SameO.map_of {a b:List (AVal×AVal)} (h:a=b):SameO (.map a) (.map b):=h▸SameO.rfl _
theorem sameH_nil:SameH [] []:=⟨_root_.rfl,fun i o o' h=>by simp at h⟩
theorem sameH_cons {o o':HObj} {H H':List HObj} (h:SameO o o') (hl:SameH H H'):SameH (o::H) (o'::H'):=by
 refine ⟨by simp [hl.1],fun i a b h1 h2=>?_⟩
 cases i with
 | zero=>simp at h1 h2;rw [← h1,← h2];exact h
 | succ i=>exact hl.2 i a b (by simpa using h1) (by simpa using h2)
abbrev U:AVal:=.undef
def lkN {α:Type} (f:Nat):List (Nat×α)→Option α
 | []=>none
 | (g,a)::l=>bif Nat.beq g f then some a else lkN f l
def insS (a:ByteArray):List ByteArray→List ByteArray
 | []=>[a]
 | b::l=>bif sLe a b then a::b::l else b::insS a l
def isort:List ByteArray→List ByteArray
 | []=>[]
 | a::l=>insS a (isort l)
def bWrite (n:Nat) (b s:ByteArray):Option ByteArray:=match n with
 | 0=>none
 | _+1=>bif decide (b.size+s.size≤140737488355328) then some (b++s) else none
def bByte (n:Nat) (b:ByteArray) (c:Int):Option ByteArray:=match n with
 | 0=>none
 | _+1=>bif decide (b.size+1≤140737488355328)&&(decide (0≤c)&&decide (c<256)) then some (b.push (UInt8.ofNat c.toNat)) else none
def bString (n:Nat) (b:ByteArray):Option ByteArray:=match n with
 | 0=>none
 | _+1=>bif decide (1≤b.size) then some b else none
def relWrite (T e:TypeId) (args:List AVal) (H:List HObj) (r:AVal) (H':List HObj):Prop:=
 ∃id b s,args=[.href id 0,.str s]∧H[id]?=some (.bld T e b)∧b.size+s.size≤140737488355328∧r=.tuple [.int .i64 s.size,.nilIface]∧H'=H.set id (.bld T e (b++s))
def relByte (T e:TypeId) (args:List AVal) (H:List HObj) (r:AVal) (H':List HObj):Prop:=
 ∃id b c,args=[.href id 0,.int .u8 c]∧H[id]?=some (.bld T e b)∧b.size+1≤140737488355328∧0≤c∧c<256∧r=.nilIface∧H'=H.set id (.bld T e (b.push (UInt8.ofNat c.toNat)))
def relLen (T e:TypeId) (args:List AVal) (H:List HObj) (r:AVal) (H':List HObj):Prop:=
 ∃id b,args=[.href id 0]∧H[id]?=some (.bld T e b)∧r=.int .i64 b.size∧H'=H
def relString (T e:TypeId) (args:List AVal) (H:List HObj) (r:AVal) (H':List HObj):Prop:=
 ∃id b,args=[.href id 0]∧H[id]?=some (.bld T e b)∧1≤b.size∧r=.str b∧H'=H
def sortedKeys (n:Nat) (L:List (ByteArray×Int)):Option (List ByteArray):=match n with
 | 0=>none
 | _+1=>bif decide (L.length*16≤140737488355328)&&L.all (fun p=>decide (p.1.size≤9223372036854775807)) then some (isort (L.map (·.1))) else none
inductive SortR where
 | nil0
 | row (l:List ByteArray)
def sortR (l:List ByteArray):SortR:=bif l.isEmpty then .nil0 else .row l
def sortedM (n:Nat) (L:List (ByteArray×Int)):Option SortR:=(sortedKeys n L).bind fun l=>some (sortR l)
def sortE (H:List HObj):SortR→AVal×List HObj
 | .nil0=>(encL 1 AVal.str bE [],H)
 | .row l=>(.mslice H.length 0 l.length 1 false,H++[.arr (cellsL AVal.str l)])
def Tree.sk {R:Type}:Nat→Tree R→Tree R
 | 0,t=>t
 | k+1,.cnd b t e=>bif b then Tree.sk k t else Tree.sk k e
 | _+1,_=>.none
def us:Nat→List AVal→List AVal
 | 0,l=>l
 | k+1,l=>.undef::us k l
section
variable {R α β:Type} {C:FuncId→List AVal→List HObj→AVal→List HObj→Prop} {enc:α→R} {t:Tree R} {c:Bool} {X Y:Option α}
theorem Dy:∀(k:Nat) {t:Tree R},Dn C enc (t.sk k) X→Dn C enc t X
 | 0,_,h=>h
 | k+1,t,h=>by
  cases t with
  | cnd b t e=>
   cases b with
   | true=>exact fun r hr=>.cndT (Dy k (t:=t) h r hr)
   | false=>exact fun r hr=>.cndF (Dy k (t:=e) h r hr)
  | _=>exact fun r hr=>(noDen (h r hr)).elim
theorem Dr {a:α} (h:t.head=.ret (enc a):=by kernel_rfl):Dn C enc t (some a):=Dn.ret h
theorem Dc (h1:Dn C enc t.tt X) (h2:Dn C enc t.ff Y) (h:t.head=.cnd c:=by kernel_rfl):Dn C enc t (bif c then X else Y):=Dn.cnd h h1 h2
theorem Dk (h1:Dn C enc t.tt X) (h:t.head=.cnd c:=by kernel_rfl):Dn C enc t (bif c then X else Option.none):=Dn.chk h (fun _=>h1)
theorem Dkh (h1:c=true→Dn C enc t.tt X) (h:t.head=.cnd c:=by kernel_rfl):Dn C enc t (bif c then X else Option.none):=Dn.chk h h1
theorem De {c':Bool} (he:c=c') (h1:c'=true→Dn C enc t.tt X) (h:t.head=.cnd c:=by kernel_rfl):Dn C enc t (bif c' then X else Option.none):=by subst he;exact Dn.chk h h1
theorem Dm (hc:c=true) (h1:Dn C enc t.tt X) (h:t.head=.cnd c:=by kernel_rfl):Dn C enc t X:=Dn.must hc h h1
theorem Ds {a a':AVal} (hs:SameV a a') (h1:Dn C enc (t.sm a') X) (h:t.head=.same a:=by kernel_rfl):Dn C enc t X:=Dn.same h hs h1
theorem Dh {H H':List HObj} (hs:SameH H H') (h1:Dn C enc (t.smH H') X) (h:t.head=.sameH H:=by kernel_rfl):Dn C enc t X:=Dn.sameH h hs h1
theorem Dj {st:St} {K:St→Tree R} (h1:Dn C enc (K st) X) (h:t.head=.join st K:=by kernel_rfl):Dn C enc t X:=Dn.join h h1
theorem Dt {t':Tree R} (h1:Dn C enc t' X) (h:t=t':=by kernel_rfl):Dn C enc t X:=Dn.cast h h1
end
end Go.AM
