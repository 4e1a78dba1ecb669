/- Plain laws of the manifest, 0: names. -/
import Derived.Test.YtomalcfghdaghaaGreatDoorSp15
import Derived.Test.YtomalcfghdaghaaGreatDoorSq1
import Derived.Test.YtomalcfghdaghaaGreatDoorLib0
import Derived.Test.YtomalcfghdaghaaGreatDoorWf
set_option linter.unusedVariables false
set_option linter.unusedSimpArgs false
namespace Go.Proofs.YtomalcfghdaghaaGreatDoor
open Go Go.AM
theorem misName_l0 (n:Nat) (s:ByteArray):∀(k i m:Nat),i+k=s.size→s.size≤60→k<m→mf_isName_l0 n s m (s.size:Int) (i:Int)=some (allB s i k)
 | k,i,0,_,_,h=>by omega
 | 0,i,m+1,h,h1,_=>by
  have:¬((i:Int)<(s.size:Int)):=by omega
  simp [mf_isName_l0,this,allB]
 | k+1,i,m+1,h,h1,h2=>by
  have ih:=misName_l0 n s k (i+1) m (by omega) h1 (by omega)
  have hw:=wr1 i (by omega)
  have hin:=dec_in i s.size (by omega)
  have hlt:(i:Int)<(s.size:Int):=by omega
  have h0:(0:Int)≤(i:Int):=by omega
  simp only [mf_isName_l0,mf_isName_s1,hlt,h0,decide_true,Bool.and_true,cond_true,toNat_c,hw,ih,allB,okB]
  have hc:∃c,bt s i=c:=⟨_,rfl⟩
  obtain ⟨c,hc⟩:=hc
  simp only [hc]
  by_cases a1:c≥65<;>by_cases a2:c≤90<;>by_cases a3:c≥97<;>by_cases a4:c≤122<;>by_cases a5:c≥48<;>by_cases a6:c≤57<;>first | (exfalso;omega) | skip
  all_goals (simp only [a1,a2,a3,a4,a5,a6,decide_true,decide_false,cond_true,cond_false,Bool.true_and,Bool.false_and,Bool.and_false,Bool.or_false,Bool.false_or,Bool.true_or,Bool.or_true,Bool.not_true,Bool.not_false,show (c<48)=¬(c≥48) by simp,show (c>57)=¬(c≤57) by simp,not_true_eq_false,not_false_eq_true])
  all_goals first | rfl | skip
  all_goals (cases b1:(c==46)<;>cases b2:(c==95)<;>cases b3:(c==45)<;>simp only [bne,b1,b2,b3,cond_true,cond_false,Bool.not_true,Bool.not_false,Bool.or_true,Bool.or_false,Bool.true_and,Bool.false_and,Bool.false_or,Bool.true_or])
def mfB:ByteArray:=⟨#[77,65,78,73,70,69,83,84]⟩
def mfnB:ByteArray:=⟨#[77,65,78,73,70,69,83,84,46,110,101,119]⟩
def nmOk (s:ByteArray):Bool:=isNm s&&!decide (s=mfB)&&!decide (s=mfnB)
theorem misName_eq (n:Nat) (s:ByteArray) (h:63≤n):mf_isName n s=some (nmOk s):=by
 obtain ⟨m,rfl⟩:∃m,n=m+1:=⟨n-1,by omega⟩
 simp only [mf_isName,nmOk,isNm,sEq_eq]
 by_cases h1:s.size<1
 ·have:(s.size:Int)<1:=by omega
  have h2:¬0<s.size:=by omega
  simp only [this,h2,decide_true,decide_false,cond_true,Bool.false_and]
 ·have:¬(s.size:Int)<1:=by omega
  have h2:0<s.size:=by omega
  by_cases h3:s.size≤60
  ·have h4:¬(s.size:Int)>60:=by omega
   simp only [this,h2,h3,h4,decide_true,decide_false,cond_false,Bool.true_and]
   have:=misName_l0 m s s.size 0 m (by omega) h3 (by omega)
   rw [show (0:Int)=((0:Nat):Int) from rfl,this]
   change (bif decide (s=mfB) then some false else bif decide (s=mfnB) then some false else _)=_
   cases decide (s=mfB)<;>cases decide (s=mfnB)<;>cases allB s 0 s.size<;>rfl
  ·have h4:(s.size:Int)>60:=by omega
   simp only [this,h2,h3,h4,decide_true,decide_false,cond_false,cond_true,Bool.true_and,Bool.false_and]
end Go.Proofs.YtomalcfghdaghaaGreatDoor
/- Plain laws of the manifest,1: numbers in letters;cutting at a letter. -/
set_option linter.unusedVariables false
set_option linter.unusedSimpArgs false
namespace Go.Proofs.YtomalcfghdaghaaGreatDoor
open Go Go.AM Go.Lib
def ofL (l:List UInt8):ByteArray:=⟨l.toArray⟩
theorem ky_ofL (l:List UInt8):ky (ofL l)=l:=by simp [ky,ofL]
theorem ofL_ky (s:ByteArray):ofL (ky s)=s:=ky_inj (ky_ofL _)
theorem ky_app (a b:ByteArray):ky (a++b)=ky a++ky b:=by simp [ky]
theorem ofL_app (a b:List UInt8):ofL a++ofL b=ofL (a++b):=ky_inj (by rw [ky_app,ky_ofL,ky_ofL,ky_ofL])
theorem ofL_size (l:List UInt8):(ofL l).size=l.length:=by rw [← ky_len,ky_ofL]
def isD (c:UInt8):Prop:=48≤c.toNat∧c.toNat≤57
theorem dig_nat (u:Nat) (h:u<10):(UInt8.ofNat (48+u)).toNat=48+u:=by
 rw [UInt8.toNat_ofNat'];omega
theorem dd_isD:∀(u:Nat),∀c∈decDigits u,isD c:=by
 intro u
 induction u using Nat.strongRecOn with
 | _ u ih=>
  rw [decDigits]
  split
  ·rename_i h
   intro c hc
   have:=List.mem_singleton.1 hc
   subst this
   have:=dig_nat u h
   exact ⟨by omega,by omega⟩
  ·intro c hc
   rcases List.mem_append.1 hc with h | h
   ·exact ih _ (by omega) c h
   ·have:=List.mem_singleton.1 h
    subst this
    have:=dig_nat (u % 10) (by omega)
    exact ⟨by omega,by omega⟩
theorem dd_ne (u:Nat):decDigits u≠[]:=by
 rw [decDigits];split<;>simp
theorem dd_len:∀(k u:Nat),u<10 ^ (k+1)→(decDigits u).length≤k+1
 | 0,u,h=>by rw [decDigits,dif_pos (by simpa using h)];simp
 | k+1,u,h=>by
  rw [decDigits]
  split
  ·simp
  ·have:=dd_len k (u / 10) (by rw [Nat.pow_succ] at h;omega)
   simp;omega
theorem pu_app:∀(a b:List UInt8) (acc:Nat),parseUint10 acc (a++b)=match parseUint10 acc a with | .ok v=>parseUint10 v b | e=>e
 | [],b,acc=>rfl
 | c::a,b,acc=>by
  simp only [List.cons_append,parseUint10]
  split
  ·split
   ·rfl
   ·split
    ·rfl
    ·exact pu_app a b _
  ·rfl
theorem pu_dd (u:Nat):u<9223372036854775808→parseUint10 0 (decDigits u)=.ok u:=by
 induction u using Nat.strongRecOn with
 | _ u ih=>
  intro h
  rw [decDigits]
  split
  ·rename_i h1
   have hd:=dig_nat u h1
   simp only [parseUint10]
   rw [if_pos (by omega),if_neg (by omega),if_neg (by omega)]
   congr 1;omega
  ·have hd:=dig_nat (u % 10) (by omega)
   rw [pu_app,ih (u / 10) (by omega) (by omega)]
   simp only [parseUint10]
   rw [if_pos (by omega),if_neg (by omega),if_neg (by omega)]
   congr 1;omega
theorem itoa_pos {x:Int} (h:0≤x):itoa x=decDigits x.toNat:=by
 unfold itoa;rw [if_neg (by omega)]
theorem atoi_itoa {x:Int} (h0:0≤x) (h:x<9223372036854775808):atoiAll (itoa x)=.ok x:=by
 rw [itoa_pos h0]
 have hp:=pu_dd x.toNat (by omega)
 have hd:=dd_isD x.toNat
 cases hl:decDigits x.toNat with
 | nil=>exact absurd hl (dd_ne _)
 | cons c r=>
  rw [hl] at hp hd
  have hc:=hd c (.head _)
  unfold isD at hc
  unfold atoiAll
  simp only
  rw [if_neg (by omega)]
  unfold parseMag
  rw [if_neg (by simp),hp]
  simp only
  rw [if_neg (by omega),if_neg (by omega),if_neg (by omega)]
  congr 1;omega
theorem atoiV_itoa {x:Int} (h0:0≤x) (h:x<9223372036854775808):atoiV (ofL (itoa x))=.ok x:=by
 unfold atoiV
 have e:(ofL (itoa x)).data.toList=itoa x:=ky_ofL _
 rw [e,atoi_itoa h0 h]
theorem itoa_len {x:Int} (h0:0≤x) (h:x<9223372036854775808):(itoa x).length≤20:=by
 rw [itoa_pos h0];exact dd_len 19 _ (by omega)
theorem idx_word (c:UInt8):∀(w r:List UInt8),c∉w→index (w++c::r) [c]=w.length
 | [],r,_=>by simp [index]
 | x::w,r,h=>by
  have hx:¬c=x:=fun e=>h (e▸.head _)
  have ih:=idx_word c w r (fun e=>h (.tail _ e))
  rw [List.cons_append,index,ih]
  have:((w.length:Int)==-1)=false:=by rw [beq_eq_false_iff_ne];omega
  simp [hx,this]
theorem idx_none (c:UInt8):∀(w:List UInt8),c∉w→index w [c]=-1
 | [],_=>rfl
 | x::w,h=>by
  have hx:¬c=x:=fun e=>h (e▸.head _)
  have ih:=idx_none c w (fun e=>h (.tail _ e))
  rw [index,ih]
  simp [hx]
def words (s:ByteArray):List ByteArray:=splitB ⟨#[32]⟩ 0 (countB s ⟨#[32]⟩) s
theorem take_app (w r:List UInt8):(ofL (w++r)).extract 0 w.length=ofL w:=by
 apply ky_inj
 rw [ky_ofL]
 show ((ofL (w++r)).extract 0 w.length).data.toList=w
 rw [extract_from_zero]
 show (ky (ofL (w++r))).take w.length=w
 rw [ky_ofL];simp
theorem drop_app (w r:List UInt8) (k:Nat) (hk:k=w.length):(ofL (w++r)).extract k (ofL (w++r)).size=ofL r:=by
 subst hk
 apply ky_inj
 rw [ky_ofL]
 show ((ofL (w++r)).extract w.length (ofL (w++r)).size).data.toList=r
 rw [extract_to_end]
 show (ky (ofL (w++r))).drop w.length=r
 rw [ky_ofL];simp
theorem words_cons (w r:List UInt8) (h:(32:UInt8)∉w):words (ofL (w++32::r))=ofL w::words (ofL r):=by
 have hi:indexB (ofL (w++32::r)) ⟨#[32]⟩=w.length:=by
  show index (ky (ofL _)) [32]=_
  rw [ky_ofL];exact idx_word 32 w r h
 have hd:(ofL (w++32::r)).extract (w.length+(⟨#[32]⟩:ByteArray).size) (ofL (w++32::r)).size=ofL r:=by
  have e:w++32::r=(w++[32])++r:=by simp
  rw [e]
  exact drop_app (w++[32]) r _ (by simp;rfl)
 unfold words
 rw [countB_hit _ _ _ (by decide) hi,Nat.add_comm 1,splitB_hit _ _ _ _ _ hi,hd,Nat.add_zero,take_app]
theorem words_one (w:List UInt8) (h:(32:UInt8)∉w):words (ofL w)=[ofL w]:=by
 have hi:indexB (ofL w) ⟨#[32]⟩=-1:=by
  show index (ky (ofL _)) [32]=_
  rw [ky_ofL];exact idx_none 32 w h
 unfold words
 exact splitB_miss _ _ _ _ hi
theorem split_small (sep:ByteArray):∀(k:Nat) (s:ByteArray),∀w∈splitB sep 0 k s,w.size≤s.size
 | 0,s,w,h=>by
  have:=List.mem_singleton.1 h
  subst this;exact Nat.le_refl _
 | k+1,s,w,h=>by
  unfold splitB at h
  split at h
  ·have:=List.mem_singleton.1 h
   subst this;exact Nat.le_refl _
  ·rcases List.mem_cons.1 h with e | e
   ·subst e;simp [ByteArray.size_extract];omega
   ·have:=split_small sep k _ w e
    simp only [ByteArray.size_extract] at this
    omega
theorem split_eq (n:Nat) (s:ByteArray) (hn:1≤n) (hs:s.size<4294967281):splitS n s ⟨#[32]⟩=some (words s):=by
 obtain ⟨m,rfl⟩:∃m,n=m+1:=⟨n-1,by omega⟩
 unfold splitS
 have h1:(decide (s.size<4294967281)&&decide (1≤(⟨#[32]⟩:ByteArray).size))=true:=by
  rw [Bool.and_eq_true,decide_eq_true_eq];exact ⟨hs,rfl⟩
 rw [h1];rfl
theorem cut_line (n:Nat) (w r:List UInt8) (hn:1≤n) (hs:(w++10::r).length<4294967281) (h:(10:UInt8)∉w):cutS n (ofL (w++10::r)) ⟨#[10]⟩=some (ofL w,ofL r,true):=by
 obtain ⟨m,rfl⟩:∃m,n=m+1:=⟨n-1,by omega⟩
 unfold cutS
 rw [decide_eq_true (by rw [ofL_size];exact hs),cond_true]
 have hi:indexB (ofL (w++10::r)) ⟨#[10]⟩=w.length:=by
  show index (ky (ofL _)) [10]=_
  rw [ky_ofL];exact idx_word 10 w r h
 obtain ⟨a,b,c⟩:=cutB_hit _ ⟨#[10]⟩ _ hi
 have hd:(ofL (w++10::r)).extract (w.length+(⟨#[10]⟩:ByteArray).size) (ofL (w++10::r)).size=ofL r:=by
  have e:w++10::r=(w++[10])++r:=by simp
  rw [e]
  exact drop_app (w++[10]) r _ (by simp;rfl)
 rw [a,b,c,hd,take_app]
end Go.Proofs.YtomalcfghdaghaaGreatDoor
/- Plain laws of the manifest,2: what the program writes (writeLine),what it reads (parseLine,parse). -/
set_option linter.unusedVariables false
set_option linter.unusedSimpArgs false
namespace Go.Proofs.YtomalcfghdaghaaGreatDoor
open Go Go.AM Go.Lib
theorem bz {α:Type} {c:Prop} [Decidable c] (h:c) (a b:α):(bif decide c then a else b)=a:=by rw [decide_eq_true h];rfl
theorem bzn {α:Type} {c:Prop} [Decidable c] (h:¬c) (a b:α):(bif decide c then a else b)=b:=by rw [decide_eq_false h];rfl
theorem btt {α:Type} {c:Bool} (h:c=true) (a b:α):(bif c then a else b)=a:=by rw [h];rfl
theorem bff {α:Type} {c:Bool} (h:c=false) (a b:α):(bif c then a else b)=b:=by rw [h];rfl
def nsT:List Int→List UInt8
 | []=>[]
 | x::r=>32::(itoa x++nsT r)
def lnW (w:List UInt8) (ns:List Int) (f:ByteArray):List UInt8:=w++nsT ns++32::ky f
def lnT (w:List UInt8) (ns:List Int) (f:ByteArray):List UInt8:=lnW w ns f++[10]
def numsOk (ns:List Int):Prop:=∀x∈ns,0≤x∧x<9223372036854775808
theorem nsT_len:∀ns,numsOk ns→(nsT ns).length≤21*ns.length
 | [],_=>Nat.le_refl _
 | x::r,h=>by
  have h1:=h x (.head _)
  have h2:=itoa_len h1.1 h1.2
  have h3:=nsT_len r (fun y hy=>h y (.tail _ hy))
  simp only [nsT,List.length_cons,List.length_append];omega
theorem lnT_len (w:List UInt8) (ns:List Int) (f:ByteArray) (h:numsOk ns):(lnT w ns f).length≤w.length+21*ns.length+f.size+2:=by
 have:=nsT_len ns h
 simp only [lnT,lnW,List.length_append,List.length_cons,List.length_nil,ky_len];omega
theorem write_eq (n:Nat) (b s:ByteArray) (hn:1≤n) (h:b.size+s.size≤140737488355328):bWrite n b s=some (b++s):=by
 obtain ⟨m,rfl⟩:∃m,n=m+1:=⟨n-1,by omega⟩
 unfold bWrite;rw [decide_eq_true h];rfl
theorem byte_eq (n:Nat) (b:ByteArray) (c:UInt8) (hn:1≤n) (h:b.size+1≤140737488355328):bByte n b (c.toNat:Int)=some (b++ofL [c]):=by
 obtain ⟨m,rfl⟩:∃m,n=m+1:=⟨n-1,by omega⟩
 have hc:=c.toNat_lt
 have h1:(decide (b.size+1≤140737488355328)&&(decide (0≤(c.toNat:Int))&&decide ((c.toNat:Int)<256)))=true:=by
  simp only [Bool.and_eq_true,decide_eq_true_eq];omega
 unfold bByte
 simp only [h1,cond_true,Option.some.injEq]
 apply ky_inj
 rw [ky_app,ky_ofL]
 simp [ky,ByteArray.push]
theorem itoaS_eq (n:Nat) (x:Int) (hn:1≤n) (h:0≤x∧x<9223372036854775808):itoaS n x=some (ofL (itoa x)):=by
 obtain ⟨m,rfl⟩:∃m,n=m+1:=⟨n-1,by omega⟩
 unfold itoaS
 have h1:(decide (-9223372036854775808≤x)&&decide (x≤9223372036854775807))=true:=by
  simp only [Bool.and_eq_true,decide_eq_true_eq];omega
 rw [h1];rfl
theorem writeLine_l0 (n:Nat) (f:ByteArray) (ns:List Int) (hn:1≤n) (hk:numsOk ns) (hl:ns.length<1000) (hf:f.size≤1000):∀(k i m:Nat) (b:ByteArray),i+k=ns.length→k<m→b.size+21*k+2000≤140737488355328 →
  mf_writeLine_l0 n f ns m (ns.length:Int) (i:Int) b=some (b++ofL (nsT (ns.drop i)++32::(ky f++[10])))
 | k,i,0,b,_,h,_=>by omega
 | 0,i,m+1,b,h,_,hb=>by
  have h1:¬((i:Int)<(ns.length:Int)):=by omega
  have hd:ns.drop i=[]:=List.drop_eq_nil_of_le (by omega)
  unfold mf_writeLine_l0
  rw [bzn h1]
  unfold mf_writeLine_s1
  have e1:=byte_eq n b 32 hn (by omega)
  have e2:=write_eq n (b++ofL [32]) f hn (by rw [ByteArray.size_append,ofL_size];simp;omega)
  have e3:=byte_eq n (b++ofL [32]++f) 10 hn (by rw [ByteArray.size_append,ByteArray.size_append,ofL_size];simp;omega)
  change (bByte n b ((32:UInt8).toNat:Int)).bind _=_
  rw [e1,Option.bind_some,e2,Option.bind_some]
  change (bByte n _ ((10:UInt8).toNat:Int)).bind _=_
  rw [e3,Option.bind_some,hd]
  congr 1
  apply ky_inj
  simp only [ky_app,ky_ofL,nsT]
  simp
 | k+1,i,m+1,b,h,h1,hb=>by
  have hx:i<ns.length:=by omega
  have h2:((i:Int)<(ns.length:Int)):=by omega
  have hd:ns.drop i=ns.getD i 0::ns.drop (i+1):=getD_dropZ hx
  have hok:=hk (ns.getD i 0) (by rw [List.getD_eq_getElem?_getD,List.getElem?_eq_getElem hx];exact List.getElem_mem hx)
  have hlen:=itoa_len hok.1 hok.2
  have e1:=byte_eq n b 32 hn (by omega)
  have e2:=itoaS_eq n _ hn hok
  have e3:=write_eq n (b++ofL [32]) (ofL (itoa (ns.getD i 0))) hn (by rw [ByteArray.size_append,ofL_size,ofL_size];simp only [List.length_cons,List.length_nil];omega)
  have ih:=writeLine_l0 n f ns hn hk hl hf k (i+1) m (b++ofL [32]++ofL (itoa (ns.getD i 0))) (by omega) (by omega) (by rw [ByteArray.size_append,ByteArray.size_append,ofL_size,ofL_size];simp only [List.length_cons,List.length_nil];omega)
  unfold mf_writeLine_l0
  rw [bz h2,dec_in i ns.length hx,cond_true,toNat_c]
  change (bByte n b ((32:UInt8).toNat:Int)).bind _=_
  rw [e1,Option.bind_some,e2,Option.bind_some,e3,Option.bind_some,wr1 i (by omega),ih,hd]
  congr 1
  apply ky_inj
  simp only [ky_app,ky_ofL,nsT]
  simp
where
 getD_dropZ {l:List Int} {i:Nat} (h:i<l.length):l.drop i=l.getD i 0::l.drop (i+1):=by
  rw [List.drop_eq_getElem_cons h,List.getD_eq_getElem?_getD,List.getElem?_eq_getElem h];rfl
theorem writeLine_eq (n:Nat) (w:List UInt8) (ns:List Int) (f b:ByteArray) (hn:ns.length+3≤n) (hk:numsOk ns) (hl:ns.length<1000) (hf:f.size≤1000) (hb:b.size+w.length+30000≤140737488355328) :
  mf_writeLine n (ofL w) ns f b=some (b++ofL (lnT w ns f)):=by
 obtain ⟨m,rfl⟩:∃m,n=m+1:=⟨n-1,by omega⟩
 have e1:=write_eq m b (ofL w) (by omega) (by rw [ofL_size];omega)
 have e2:=writeLine_l0 m f ns (by omega) hk hl hf ns.length 0 m (b++ofL w) (by omega) (by omega) (by rw [ByteArray.size_append,ofL_size];omega)
 unfold mf_writeLine
 simp only
 rw [e1,Option.bind_some]
 refine Eq.trans e2 ?_
 congr 1
 apply ky_inj
 simp only [ky_app,ky_ofL,lnT,lnW,List.drop_zero]
 simp
theorem words_nums:∀(ns:List Int) (w:List UInt8) (f:ByteArray),(32:UInt8)∉w→(32:UInt8)∉ky f→numsOk ns→words (ofL (lnW w ns f))=ofL w::(ns.map (fun x=>ofL (itoa x))++[f])
 | [],w,f,h,h2,_=>by
  show words (ofL (w++[]++32::ky f))=_
  rw [List.append_nil,words_cons _ _ h,words_one _ h2,ofL_ky];rfl
 | x::ns,w,f,h,h2,hk=>by
  have h1:=hk x (.head _)
  have hd:(32:UInt8)∉itoa x:=fun e=>by
   rw [itoa_pos h1.1] at e
   have:=dd_isD _ _ e
   unfold isD at this
   exact absurd this.1 (by decide)
  have ih:=words_nums ns (itoa x) f hd h2 (fun y hy=>hk y (.tail _ hy))
  have e:lnW w (x::ns) f=w++32::lnW (itoa x) ns f:=by simp [lnW,nsT]
  rw [e,words_cons _ _ h,ih];rfl
def atos:List ByteArray→Option (List Int)
 | []=>some []
 | w::r=>match atoiV w with
  | .ok v=>(atos r).map (v::·)
  | .bad _=>none
theorem atos_len:∀(l:List ByteArray) (ns:List Int),atos l=some ns→ns.length=l.length
 | [],ns,h=>by cases h;rfl
 | w::r,ns,h=>by
  unfold atos at h
  split at h
  ·obtain ⟨x,hx,rfl⟩:=Option.map_eq_some_iff.1 h
   simp [atos_len r x hx]
  ·cases h
theorem atos_itoa:∀(ns:List Int),numsOk ns→atos (ns.map fun x=>ofL (itoa x))=some ns
 | [],_=>rfl
 | x::r,h=>by
  have h1:=h x (.head _)
  rw [List.map_cons,atos,atoiV_itoa h1.1 h1.2,atos_itoa r (fun y hy=>h y (.tail _ hy))];rfl
def plP (ws:List ByteArray) (word:ByteArray) (k:Nat):Option (List Int×ByteArray):=
 if ws.length=k+2∧ws.getD 0 bE=word then (atos ((ws.drop 1).take k)).map fun ns=>(ns,ws.getD (k+1) bE) else none
theorem plP_len {ws:List ByteArray} {word:ByteArray} {k:Nat} {ns:List Int} {f:ByteArray} (h:plP ws word k=some (ns,f)):ns.length=k:=by
 unfold plP at h
 split at h
 ·rename_i hc
  obtain ⟨x,hx,e⟩:=Option.map_eq_some_iff.1 h
  cases e
  rw [atos_len _ _ hx,List.length_take,List.length_drop];omega
 ·cases h
theorem atoiS_eq (n:Nat) (s:ByteArray) (hn:1≤n) (hs:s.size≤281474976710656):atoiS n s=some (atoiV s):=by
 obtain ⟨m,rfl⟩:∃m,n=m+1:=⟨n-1,by omega⟩
 unfold atoiS;rw [decide_eq_true hs];rfl
theorem parseLine_l0 (n k:Nat) (ws:List ByteArray) (hn:1≤n) (hk:k<1000) (hw:ws.length=k+2) (hs:∀w∈ws,w.size≤281474976710656):∀(j i m:Nat) (l:List Int),i+j=k→j<m→l.length=k →
  mf_parseLine_l0 n (k:Int) ws m (k:Int) (i:Int) l=some (match atos ((ws.drop (i+1)).take j) with | some ns=>(l.take i++ns,ws.getD (k+1) bE,true) | none=>([],bE,false))
 | j,i,0,l,_,h,_=>by omega
 | 0,i,m+1,l,h,_,hl=>by
  have h1:¬((i:Int)<(k:Int)):=by omega
  have hi:i=k:=by omega
  unfold mf_parseLine_l0
  rw [bzn h1]
  unfold mf_parseLine_s1
  rw [wr1 k (by omega),dec_in (k+1) ws.length (by omega),cond_true,toNat_c,toNat_c,btt (Nat.ble_eq_true_of_le (by omega)),hi]
  simp [atos]
 | j+1,i,m+1,l,h,h1,hl=>by
  have h2:((i:Int)<(k:Int)):=by omega
  have hx:i+1<ws.length:=by omega
  have hd:ws.drop (i+1)=ws.getD (i+1) bE::ws.drop (i+1+1):=by
   rw [List.drop_eq_getElem_cons hx,List.getD_eq_getElem?_getD,List.getElem?_eq_getElem hx];rfl
  have hsz:=hs (ws.getD (i+1) bE) (by rw [List.getD_eq_getElem?_getD,List.getElem?_eq_getElem hx];exact List.getElem_mem hx)
  unfold mf_parseLine_l0
  rw [bz h2,wr1 i (by omega),dec_in (i+1) ws.length hx,cond_true,toNat_c,atoiS_eq n _ hn hsz,Option.bind_some,hd,List.take_succ_cons,atos]
  cases hv:atoiV (ws.getD (i+1) bE) with
  | bad v=>rfl
  | ok v=>
   have ih:=parseLine_l0 n k ws hn hk hw hs j (i+1) m (l.set i v) (by omega) (by omega) (by simp [hl])
   simp only
   rw [toNat_c,toNat_c,dec_in i k (by omega),cond_true,btt (by rw [Nat.blt_eq];omega),ih]
   have ht:(l.set i v).take (i+1)=l.take i++[v]:=by
    rw [List.take_add_one,List.take_set_of_le (by omega),List.getElem?_set_self (by omega)];rfl
   rw [ht]
   cases atos ((ws.drop (i+1+1)).take j) with
   | none=>rfl
   | some ns=>simp
theorem parseLine_eq (n k:Nat) (s word:ByteArray) (hn:k+3≤n) (hk:k<1000) (hs:s.size≤100000) :
  mf_parseLine n s word (k:Int)=some (match plP (words s) word k with | some (ns,f)=>(ns,f,true) | none=>([],bE,false)):=by
 obtain ⟨m,rfl⟩:∃m,n=m+1:=⟨n-1,by omega⟩
 have hw:IntKind.wrap .i64 ((k:Int)+2)=((k+2:Nat):Int):=by rw [wr _ (by omega) (by omega)];omega
 have hsm:∀w∈words s,w.size≤281474976710656:=fun w h=>by have:=split_small _ _ _ w h;omega
 unfold mf_parseLine
 simp only
 rw [split_eq m s (by omega) (by omega),Option.bind_some,hw]
 generalize words s=ws at hsm
 by_cases hl:ws.length=k+2
 ·have h1:((ws.length:Int) != ((k+2:Nat):Int))=false:=by rw [hl];simp
  have h2:(decide ((0:Int)≤0)&&decide ((0:Int)<(ws.length:Int)))=true:=dec_in 0 ws.length (by omega)
  rw [bff h1,btt h2,sNe_eq]
  by_cases hwd:ws.getD 0 bE=word
  ·have h3:(decide (0≤(k:Int))&&decide ((k:Int)*8≤140737488355328)&&decide ((k:Int)≤9223372036854775807))=true:=by
    simp only [Bool.and_eq_true,decide_eq_true_eq];omega
   rw [decide_eq_true hwd,Bool.not_true,cond_false,btt h3,toNat_c]
   have:=parseLine_l0 m k ws (by omega) hk hl hsm k 0 m (List.replicate k 0) (by omega) (by omega) (by simp)
   refine Eq.trans this ?_
   unfold plP
   rw [if_pos ⟨hl,hwd⟩]
   cases atos ((ws.drop (0+1)).take k)<;>rfl
  ·rw [decide_eq_false hwd,Bool.not_false,cond_true]
   unfold plP
   rw [if_neg (fun h=>hwd h.2)]
 ·have h1:((ws.length:Int) != ((k+2:Nat):Int))=true:=by rw [bne_iff_ne];omega
  rw [btt h1]
  unfold plP
  rw [if_neg (fun h=>hl h.1)]
theorem plP_line (w:List UInt8) (ns:List Int) (f:ByteArray) (hw:(32:UInt8)∉w) (hf:(32:UInt8)∉ky f) (hk:numsOk ns):plP (words (ofL (lnW w ns f))) (ofL w) ns.length=some (ns,f):=by
 rw [words_nums ns w f hw hf hk]
 unfold plP
 rw [if_pos (by simp)]
 have h1:((ofL w::(ns.map (fun x=>ofL (itoa x))++[f])).drop 1).take ns.length=ns.map fun x=>ofL (itoa x):=by simp
 rw [h1,atos_itoa ns hk]
 simp
end Go.Proofs.YtomalcfghdaghaaGreatDoor
/- Plain laws of the manifest,3: its canonical text;the program's parse gives it back,and always answers. -/
set_option linter.unusedVariables false
set_option linter.unusedSimpArgs false
namespace Go.Proofs.YtomalcfghdaghaaGreatDoor
open Go Go.AM Go.Lib
theorem dz (c:Int) (k:Nat) (h0:0≤c) (h1:c<(k:Int)):(decide ((0:Int)≤c)&&decide (c<(k:Int)))=true:=by rw [decide_eq_true h0,decide_eq_true h1];rfl
def manL:List UInt8:=[109,97,110,105,102,101,115,116]
def blkL:List UInt8:=[98,108,111,99,107]
def blkNs (b:GBR):List Int:=[b.Id,b.Width,b.MinTime,b.MaxTime,b.Size]
def manNs (m:GMf):List Int:=[m.Version,m.Next,m.RawFrom]
def blkT (b:GBR):List UInt8:=lnT blkL (blkNs b) b.File
def blksT:List GBR→List UInt8
 | []=>[]
 | b::r=>blkT b++blksT r
def txt (m:GMf):List UInt8:=lnT manL (manNs m) m.Log++blksT m.Blocks
def goodF (f:ByteArray):Prop:=(32:UInt8)∉ky f∧(10:UInt8)∉ky f∧f.size≤60
def goodB (b:GBR):Prop:=numsOk (blkNs b)∧goodF b.File
def goodM (m:GMf):Prop:=numsOk (manNs m)∧goodF m.Log∧m.Blocks.length≤100∧∀b∈m.Blocks,goodB b
theorem nsT_no10:∀ns,numsOk ns→(10:UInt8)∉nsT ns
 | [],_=>fun e=>by cases e
 | x::r,h=>fun e=>by
  have h1:=h x (.head _)
  rcases List.mem_cons.1 e with e | e
  ·exact absurd e (by decide)
  ·rcases List.mem_append.1 e with e | e
   ·rw [itoa_pos h1.1] at e
    have:=dd_isD _ _ e
    unfold isD at this
    exact absurd this.1 (by decide)
   ·exact nsT_no10 r (fun y hy=>h y (.tail _ hy)) e
theorem lnW_no10 {w:List UInt8} {ns:List Int} {f:ByteArray} (hw:(10:UInt8)∉w) (hk:numsOk ns) (hf:(10:UInt8)∉ky f):(10:UInt8)∉lnW w ns f:=fun e=>by
 rcases List.mem_append.1 e with e | e
 ·rcases List.mem_append.1 e with e | e
  ·exact hw e
  ·exact nsT_no10 ns hk e
 ·rcases List.mem_cons.1 e with e | e
  ·exact absurd e (by decide)
  ·exact hf e
theorem blkT_len {b:GBR} (h:goodB b):(blkT b).length≤200:=by
 have:=lnT_len blkL (blkNs b) b.File h.1
 have h2:=h.2.2.2
 simp only [blkNs,blkL,List.length_cons,List.length_nil] at this
 unfold blkT blkNs blkL
 omega
theorem blksT_len:∀bs:List GBR,(∀b∈bs,goodB b)→(blksT bs).length≤200*bs.length
 | [],_=>Nat.le_refl _
 | b::r,h=>by
  have h1:=blkT_len (h b (.head _))
  have h2:=blksT_len r (fun x hx=>h x (.tail _ hx))
  simp only [blksT,List.length_append,List.length_cons];omega
theorem txt_len {m:GMf} (h:goodM m):(txt m).length≤21000:=by
 have h1:=lnT_len manL (manNs m) m.Log h.1
 have h2:=blksT_len m.Blocks h.2.2.2
 have h3:=h.2.1.2.2
 have h4:=h.2.2.1
 simp only [manNs,manL,List.length_cons,List.length_nil] at h1
 simp only [txt,List.length_append]
 unfold manNs manL
 omega
theorem r0_true (n:Nat) (s:ByteArray) (p1 p2 p3:Int) (p4:ByteArray) (p5:List GBR) (p6:Bool) (p7 p8 p9:Int) (p10:ByteArray) (p11:List GBR) (hn:10≤n) (hs:s.size≤100000) :
  mf_parse_r0 n s p1 p2 p3 p4 p5 p6 p7 p8 p9 p10 p11 true=some (match plP (words s) (ofL manL) 3 with | some (ns,f)=>.c1 p1 p2 p3 p4 p5 p6 (ns.getD 0 0) (ns.getD 1 0) (ns.getD 2 0) f p11 false | none=>.c0 p7 p8 p9 p10 p11 p7 p8 p9 p10 p11 true):=by
 obtain ⟨m,rfl⟩:∃m,n=m+1:=⟨n-1,by omega⟩
 unfold mf_parse_r0
 simp only [cond_true]
 have e:mf_parseLine m s (⟨#[109,97,110,105,102,101,115,116]⟩:ByteArray) 3=_:=parseLine_eq m 3 s (ofL manL) (by omega) (by omega) hs
 rw [e,Option.bind_some]
 cases hp:plP (words s) (ofL manL) 3 with
 | none=>rfl
 | some x=>
  obtain ⟨ns,f⟩:=x
  have hl:=plP_len hp
  simp only [Bool.not_true,cond_false]
  rw [btt (dz 0 ns.length (by omega) (by omega)),btt (dz 1 ns.length (by omega) (by omega)),btt (dz 2 ns.length (by omega) (by omega))]
theorem r0_false (n:Nat) (s:ByteArray) (p1 p2 p3:Int) (p4:ByteArray) (p5:List GBR) (p6:Bool) (p7 p8 p9:Int) (p10:ByteArray) (p11:List GBR) (hn:10≤n) (hs:s.size≤100000) (hl2:p11.length≤100) :
  mf_parse_r0 n s p1 p2 p3 p4 p5 p6 p7 p8 p9 p10 p11 false=some (match plP (words s) (ofL blkL) 5 with
   | some (ns,f)=>bif decide (p11.length=100) then .c0 p7 p8 p9 p10 p11 p7 p8 p9 p10 p11 false else .c1 p1 p2 p3 p4 p5 p6 p7 p8 p9 p10 (p11++[⟨ns.getD 0 0,ns.getD 1 0,f,ns.getD 2 0,ns.getD 3 0,ns.getD 4 0⟩]) false
   | none=>.c0 p7 p8 p9 p10 p11 p7 p8 p9 p10 p11 false):=by
 obtain ⟨m,rfl⟩:∃m,n=m+1:=⟨n-1,by omega⟩
 unfold mf_parse_r0
 simp only [cond_false]
 have e:mf_parseLine m s (⟨#[98,108,111,99,107]⟩:ByteArray) 5=_:=parseLine_eq m 5 s (ofL blkL) (by omega) (by omega) hs
 rw [e,Option.bind_some]
 cases hp:plP (words s) (ofL blkL) 5 with
 | none=>rfl
 | some x=>
  obtain ⟨ns,f⟩:=x
  have hl:=plP_len hp
  simp only [Bool.not_true,cond_false]
  by_cases hc:p11.length=100
  ·have h1:((p11.length:Int)==100)=true:=by rw [beq_iff_eq];omega
   rw [btt h1,decide_eq_true hc,cond_true]
  ·have h1:((p11.length:Int)==100)=false:=by rw [beq_eq_false_iff_ne];omega
   rw [bff h1,decide_eq_false hc,cond_false,btt (dz 0 ns.length (by omega) (by omega)),btt (dz 1 ns.length (by omega) (by omega)),btt (dz 2 ns.length (by omega) (by omega)),btt (dz 3 ns.length (by omega) (by omega)),btt (dz 4 ns.length (by omega) (by omega)),btt (app_ok (b:=56) (by omega) (by omega))]
theorem blks_ne (b:GBR) (r:List GBR):ofL (blksT (b::r))≠bE:=fun e=>by
 have h:(ofL (blksT (b::r))).size=bE.size:=by rw [e]
 rw [ofL_size] at h
 have h0:bE.size=0:=rfl
 simp only [blksT,blkT,lnT,List.length_append,List.length_cons] at h
 omega
theorem lines_can (n:Nat) (p12:ByteArray) (hn:12≤n):∀(bs:List GBR) (m:Nat) (i1 i2 i3:Int) (s2:ByteArray) (l1:List GBR) (b1:Bool) (i4 i5 i6:Int) (s3:ByteArray) (l2:List GBR),bs≠[]→bs.length≤m→(∀b∈bs,goodB b)→l2.length+bs.length≤100 →
  mf_lines_c1_l0 n p12 m (ofL (blksT bs)) i1 i2 i3 s2 l1 b1 i4 i5 i6 s3 l2 false=some (.c0 i1 i2 i3 s2 l1 b1 i4 i5 i6 s3 (l2++bs) false p12)
 | [],m,_,_,_,_,_,_,_,_,_,_,_,h,_,_,_=>absurd rfl h
 | b::r,0,_,_,_,_,_,_,_,_,_,_,_,_,h,_,_=>by simp at h
 | b::r,m+1,i1,i2,i3,s2,l1,b1,i4,i5,i6,s3,l2,_,hm,hg,hl=>by
  have hb:=hg b (.head _)
  have hlen:=blksT_len (b::r) hg
  have hl':l2.length+(r.length+1)≤100:=hl
  simp only [List.length_cons] at hlen
  have e:blksT (b::r)=lnW blkL (blkNs b) b.File++10::blksT r:=by simp [blksT,blkT,lnT]
  have h10:(10:UInt8)∉lnW blkL (blkNs b) b.File:=lnW_no10 (by decide) hb.1 hb.2.2.1
  have hcut:=cut_line n (lnW blkL (blkNs b) b.File) (blksT r) (by omega) (by rw [← e];omega) h10
  have hsz:(ofL (lnW blkL (blkNs b) b.File)).size≤100000:=by
   rw [ofL_size]
   have:(lnW blkL (blkNs b) b.File).length≤(blksT (b::r)).length:=by rw [e];simp
   omega
  have hp:plP (words (ofL (lnW blkL (blkNs b) b.File))) (ofL blkL) 5=some (blkNs b,b.File):=plP_line blkL (blkNs b) b.File (by decide) hb.2.1 hb.1
  have hr:=r0_false n _ i1 i2 i3 s2 l1 b1 i4 i5 i6 s3 l2 (by omega) hsz (by omega)
  rw [hp] at hr
  simp only at hr
  rw [decide_eq_false (show ¬l2.length=100 by omega),cond_false] at hr
  unfold mf_lines_c1_l0
  rw [e,hcut,Option.bind_some]
  simp only
  rw [hr,Option.bind_some]
  simp only [Bool.not_true,cond_false]
  cases r with
  | nil=>
   have h1:sEq (ofL (blksT [])) bE=true:=by rw [sEq_eq];exact decide_eq_true rfl
   rw [h1,cond_true];rfl
  | cons b2 r2=>
   have h1:sEq (ofL (blksT (b2::r2))) bE=false:=by rw [sEq_eq];exact decide_eq_false (blks_ne b2 r2)
   rw [h1,cond_false]
   have ih:=lines_can n p12 hn (b2::r2) m i1 i2 i3 s2 l1 b1 i4 i5 i6 s3 (l2++[b]) (by simp) (by simpa using hm) (fun x hx=>hg x (.tail _ hx)) (by simp at hl' ⊢;omega)
   refine Eq.trans ih ?_
   simp
theorem parse_can (n:Nat) (m:GMf) (hg:goodM m) (hn:200≤n):mf_parse n (ofL (txt m))=some (m,true):=by
 obtain ⟨k,rfl⟩:∃k,n=k+4:=⟨n-4,by omega⟩
 obtain ⟨hm1,hm2,hm3,hm4⟩:=hg
 have hlen:=txt_len ⟨hm1,hm2,hm3,hm4⟩
 have e:txt m=lnW manL (manNs m) m.Log++10::blksT m.Blocks:=by simp [txt,lnT]
 have h10:(10:UInt8)∉lnW manL (manNs m) m.Log:=lnW_no10 (by decide) hm1 hm2.2.1
 have hcut:=cut_line (k+2) (lnW manL (manNs m) m.Log) (blksT m.Blocks) (by omega) (by rw [← e];omega) h10
 have hsz:(ofL (lnW manL (manNs m) m.Log)).size≤100000:=by
  rw [ofL_size]
  have:(lnW manL (manNs m) m.Log).length≤(txt m).length:=by rw [e];simp
  omega
 have hp:plP (words (ofL (lnW manL (manNs m) m.Log))) (ofL manL) 3=some (manNs m,m.Log):=plP_line manL (manNs m) m.Log (by decide) hm2.1 hm1
 have hr:=r0_true (k+2) _ 0 0 0 bE [] false 0 0 0 bE [] (by omega) hsz
 rw [hp] at hr
 unfold mf_parse mf_lines mf_lines_c1
 simp only [Option.bind_some]
 unfold mf_lines_c1_l0
 generalize hP:ofL (txt m)=P12
 rw [← hP]
 conv=>lhs;rw [e]
 rw [hcut,Option.bind_some]
 simp only
 rw [hr,Option.bind_some]
 simp only [Bool.not_true,cond_false]
 cases hb:m.Blocks with
 | nil=>
  have h1:sEq (ofL (blksT [])) bE=true:=by rw [sEq_eq];exact decide_eq_true rfl
  rw [h1,cond_true]
  cases m;cases hb;rfl
 | cons b2 r2=>
  have h1:sEq (ofL (blksT (b2::r2))) bE=false:=by rw [sEq_eq];exact decide_eq_false (blks_ne b2 r2)
  rw [h1,cond_false]
  rw [hb] at hm3 hm4
  have ih:=lines_can (k+2) (ofL (lnW manL (manNs m) m.Log++10::blksT (b2::r2))) (by omega) (b2::r2) (k+1) 0 0 0 bE [] false m.Version m.Next m.RawFrom m.Log [] (by simp) (by omega) hm4 (by simpa using hm3)
  refine (congrArg (fun z=>Option.bind z _) ih).trans ?_
  cases m;cases hb;rfl
end Go.Proofs.YtomalcfghdaghaaGreatDoor
/- Plain laws of the manifest,4: the check,the program's and the reference's. -/
set_option linter.unusedVariables false
set_option linter.unusedSimpArgs false
namespace Go.Proofs.YtomalcfghdaghaaGreatDoor
open Go Go.AM Go.Lib
instance memDec (x:ByteArray) (l:List ByteArray):Decidable (x∈l):=@List.instDecidableMemOfLawfulBEq _ instBEqOfDecidableEq _ x l
theorem bsome {α:Type} {c:Prop} [Decidable c] {a y:α} {x:Option α} (h:x=some y):(bif decide c then some a else x)=some (if c then a else y):=by
 by_cases hc:c
 ·rw [decide_eq_true hc,if_pos hc];rfl
 ·rw [decide_eq_false hc,if_neg hc];exact h
def rc (next prev:Int) (b:GBR):Int:=
 if b.Id<1 then 2 else if b.Id≥next then 2 else if b.Id≤prev then 9 else if b.Width<0 then 2 else if b.Width>1099511627776 then 2 else if b.MinTime<1 then 2 else if b.MinTime>1099511627776 then 2 else
 if b.MaxTime<b.MinTime then 2 else if b.MaxTime>1099511627776 then 2 else if b.Size<0 then 2 else if b.Size>1048576 then 2 else if nmOk b.File=true then 0 else 5
theorem checkRef_eq (n:Nat) (b:GBR) (next prev:Int) (hn:70≤n):mf_checkRef n b next prev=some (rc next prev b):=by
 obtain ⟨m,rfl⟩:∃m,n=m+1:=⟨n-1,by omega⟩
 unfold mf_checkRef rc
 refine bsome (bsome (bsome (bsome (bsome (bsome (bsome (bsome (bsome (bsome (bsome ?_))))))))))
 rw [misName_eq m b.File (by omega),Option.bind_some]
 cases nmOk b.File<;>rfl
def chkL (next:Int):Int→List ByteArray→List GBR→Int
 | _,_,[]=>0
 | prev,seen,b::r=>if rc next prev b≠0 then rc next prev b else if b.File∈seen then 6 else chkL next b.Id (seen++[b.File]) r
def chk (m:GMf):Int:=
 if m.Version<0 then 2 else if m.Version>1152921504606846976 then 2 else if m.Next<1 then 2 else if m.Next>1152921504606846976 then 2 else if m.RawFrom<0 then 2 else if m.RawFrom>1099511627776 then 2 else
 if nmOk m.Log=false then 5 else if m.Blocks.length>100 then 4 else chkL m.Next 0 [m.Log] m.Blocks
theorem lk_putL (f g:ByteArray) (v:Bool):∀l:List (ByteArray×Bool),lk f (putL g v l)=bif decide (f=g) then some v else lk f l
 | []=>by simp only [putL,lk,beqS]
 | (a,b)::l=>by
  have ih:=lk_putL f g v l
  simp only [putL,beqS]
  by_cases h:g=a
  ·subst h
   rw [decide_eq_true rfl,cond_true]
   simp only [lk,beqS]
   cases decide (f=g)<;>rfl
  ·rw [decide_eq_false h,cond_false]
   simp only [lk,beqS]
   rw [ih]
   by_cases h1:f=a
   ·have h2:¬f=g:=fun e=>h (e▸h1)
    rw [decide_eq_true h1,decide_eq_false h2];rfl
   ·rw [decide_eq_false h1];rfl
theorem getD_dropB {l:List GBR} {i:Nat} (h:i<l.length):l.drop i=l.getD i dGBR::l.drop (i+1):=by
 rw [List.drop_eq_getElem_cons h,List.getD_eq_getElem?_getD,List.getElem?_eq_getElem h];rfl
theorem mcheck_l0 (n:Nat) (m:GMf) (hn:70≤n) (hl:m.Blocks.length≤100):∀(k i f:Nat) (prev:Int) (seen:List ByteArray) (l1:List (ByteArray×Bool)),i+k=m.Blocks.length→k<f→(∀x,(lk x l1).getD false=decide (x∈seen)) →
  mf_Check_l0 n m f prev (m.Blocks.length:Int) (i:Int) l1=some (chkL m.Next prev seen (m.Blocks.drop i))
 | k,i,0,prev,seen,l1,_,h,_=>by omega
 | 0,i,f+1,prev,seen,l1,h,_,hs=>by
  have h1:¬((i:Int)<(m.Blocks.length:Int)):=by omega
  have hd:m.Blocks.drop i=[]:=List.drop_eq_nil_of_le (by omega)
  unfold mf_Check_l0
  rw [bzn h1,hd];rfl
 | k+1,i,f+1,prev,seen,l1,h,h1,hs=>by
  have hx:i<m.Blocks.length:=by omega
  have h2:((i:Int)<(m.Blocks.length:Int)):=by omega
  unfold mf_Check_l0
  rw [bz h2,dec_in i _ hx,cond_true,toNat_c,checkRef_eq n _ _ _ hn,Option.bind_some,getD_dropB hx,chkL]
  generalize m.Blocks.getD i dGBR=b
  by_cases hr:rc m.Next prev b=0
  ·have hb:(rc m.Next prev b != 0)=false:=by rw [hr];rfl
   rw [if_neg (show ¬rc m.Next prev b≠0 from fun e=>e hr),hb,cond_false,hs]
   by_cases hm:b.File∈seen
   ·rw [decide_eq_true hm,if_pos hm];rfl
   ·rw [decide_eq_false hm,if_neg hm,cond_false,wr1 i (by omega)]
    refine mcheck_l0 n m hn hl k (i+1) f b.Id (seen++[b.File]) _ (by omega) (by omega) (fun x=>?_)
    rw [lk_putL]
    by_cases hxf:x=b.File
    ·subst hxf
     simp
    ·rw [decide_eq_false hxf,cond_false,hs]
     rw [Bool.eq_iff_iff,decide_eq_true_eq,decide_eq_true_eq]
     simp [hxf]
  ·have hb:(rc m.Next prev b != 0)=true:=by rw [bne_iff_ne];exact hr
   rw [if_pos hr,hb,cond_true]
theorem mcheck_eq (n:Nat) (m:GMf) (hn:300≤n):mf_Check n m=some (chk m):=by
 obtain ⟨k,rfl⟩:∃k,n=k+1:=⟨n-1,by omega⟩
 unfold mf_Check chk
 refine bsome (bsome (bsome (bsome (bsome (bsome ?_)))))
 rw [misName_eq k m.Log (by omega),Option.bind_some]
 cases nmOk m.Log with
 | false=>rfl
 | true=>
  rw [Bool.not_true,cond_false,if_neg (by simp)]
  by_cases hl:m.Blocks.length>100
  ·rw [if_pos hl,bz (show (m.Blocks.length:Int)>100 by omega)]
  ·rw [if_neg hl,bzn (show ¬(m.Blocks.length:Int)>100 by omega)]
   refine mcheck_l0 k m (by omega) (by omega) m.Blocks.length 0 k 0 [m.Log] _ (by omega) (by omega) (fun x=>?_)
   rw [lk_putL]
   by_cases h:x=m.Log
   ·subst h;simp
   ·rw [decide_eq_false h];simp [lk,h]
end Go.Proofs.YtomalcfghdaghaaGreatDoor
/- Plain laws of the manifest,5: what is encoded,by the program and by the reference. -/
set_option linter.unusedVariables false
set_option linter.unusedSimpArgs false
namespace Go.Proofs.YtomalcfghdaghaaGreatDoor
open Go Go.AM Go.Lib
theorem allB_all (s:ByteArray):∀(k i:Nat),i+k=s.size→allB s i k=true→∀c∈(ky s).drop i,okB (c.toNat:Int)=true
 | 0,i,h,_,c,hc=>by
  rw [List.drop_eq_nil_of_le (by rw [ky_len];omega)] at hc;cases hc
 | k+1,i,h,ha,c,hc=>by
  have hi:i<s.size:=by omega
  unfold allB at ha
  rw [Bool.and_eq_true] at ha
  rw [drop_ky s i hi] at hc
  rcases List.mem_cons.1 hc with e | e
  ·subst e
   have:=ha.1
   rw [bt_get s i hi] at this;exact this
  ·exact allB_all s k (i+1) (by omega) ha.2 c e
theorem nmOk_good {s:ByteArray} (h:nmOk s=true):goodF s:=by
 unfold nmOk isNm at h
 simp only [Bool.and_eq_true,decide_eq_true_eq] at h
 have ha:=allB_all s s.size 0 (by omega) h.1.1.2
 rw [List.drop_zero] at ha
 refine ⟨fun e=>?_,fun e=>?_,h.1.1.1.2⟩
 ·exact absurd (ha _ e) (by decide)
 ·exact absurd (ha _ e) (by decide)
theorem if_zero {c:Prop} [Decidable c] {a x:Int} (ha:a≠0) (h:(if c then a else x)=0):¬c∧x=0:=by
 by_cases hc:c
 ·rw [if_pos hc] at h;exact absurd h ha
 ·rw [if_neg hc] at h;exact ⟨hc,h⟩
theorem rc_good {next prev:Int} {b:GBR} (hx:next≤1152921504606846976) (h:rc next prev b=0):goodB b:=by
 unfold rc at h
 obtain ⟨h1,h⟩:=if_zero (by decide) h
 obtain ⟨h2,h⟩:=if_zero (by decide) h
 obtain ⟨h3,h⟩:=if_zero (by decide) h
 obtain ⟨h4,h⟩:=if_zero (by decide) h
 obtain ⟨h5,h⟩:=if_zero (by decide) h
 obtain ⟨h6,h⟩:=if_zero (by decide) h
 obtain ⟨h7,h⟩:=if_zero (by decide) h
 obtain ⟨h8,h⟩:=if_zero (by decide) h
 obtain ⟨h9,h⟩:=if_zero (by decide) h
 obtain ⟨h10,h⟩:=if_zero (by decide) h
 obtain ⟨h11,h⟩:=if_zero (by decide) h
 have hn:nmOk b.File=true:=by
  by_cases hc:nmOk b.File=true
  ·exact hc
  ·rw [if_neg hc] at h;exact absurd h (by decide)
 refine ⟨fun x hx=>?_,nmOk_good hn⟩
 simp only [blkNs,List.mem_cons,List.not_mem_nil,or_false] at hx
 rcases hx with rfl | rfl | rfl | rfl | rfl<;>constructor<;>omega
theorem chkL_good {next:Int} (hx:next≤1152921504606846976):∀(bs:List GBR) (prev:Int) (seen:List ByteArray),chkL next prev seen bs=0→∀b∈bs,goodB b
 | [],_,_,_,b,hb=>by cases hb
 | a::r,prev,seen,h,b,hb=>by
  unfold chkL at h
  have hr:rc next prev a=0:=by
   by_cases hc:rc next prev a=0
   ·exact hc
   ·rw [if_pos hc] at h;exact h
  rw [if_neg (show ¬rc next prev a≠0 from fun e=>e hr)] at h
  obtain ⟨_,h⟩:=if_zero (by decide) h
  rcases List.mem_cons.1 hb with e | e
  ·subst e;exact rc_good hx hr
  ·exact chkL_good hx r _ _ h b e
theorem chk_good {m:GMf} (h:chk m=0):goodM m:=by
 unfold chk at h
 obtain ⟨h1,h⟩:=if_zero (by decide) h
 obtain ⟨h2,h⟩:=if_zero (by decide) h
 obtain ⟨h3,h⟩:=if_zero (by decide) h
 obtain ⟨h4,h⟩:=if_zero (by decide) h
 obtain ⟨h5,h⟩:=if_zero (by decide) h
 obtain ⟨h6,h⟩:=if_zero (by decide) h
 obtain ⟨h7,h⟩:=if_zero (by decide) h
 obtain ⟨h8,h⟩:=if_zero (by decide) h
 have hn:nmOk m.Log=true:=by cases hc:nmOk m.Log with
  | true=>rfl
  | false=>exact absurd hc h7
 refine ⟨fun x hx=>?_,nmOk_good hn,by omega,chkL_good (by omega) _ _ _ h⟩
 simp only [manNs,List.mem_cons,List.not_mem_nil,or_false] at hx
 rcases hx with rfl | rfl | rfl<;>constructor<;>omega
theorem encode_l0 (n:Nat) (m:GMf) (hn:20≤n) (hl:m.Blocks.length≤100) (hg:∀b∈m.Blocks,goodB b):∀(k i f:Nat) (s:ByteArray),i+k=m.Blocks.length→k<f→s.size+200*k≤100000 →
  mf_Encode_l0 n m f (m.Blocks.length:Int) (i:Int) s=mf_Encode_s1 n (s++ofL (blksT (m.Blocks.drop i)))
 | k,i,0,s,_,h,_=>by omega
 | 0,i,f+1,s,h,_,_=>by
  have h1:¬((i:Int)<(m.Blocks.length:Int)):=by omega
  have hd:m.Blocks.drop i=[]:=List.drop_eq_nil_of_le (by omega)
  have he:s++ofL (blksT [])=s:=ky_inj (by rw [ky_app,ky_ofL];simp [blksT])
  unfold mf_Encode_l0
  rw [bzn h1,hd,he]
 | k+1,i,f+1,s,h,h1,hs=>by
  have hx:i<m.Blocks.length:=by omega
  have h2:((i:Int)<(m.Blocks.length:Int)):=by omega
  have hgb:goodB (m.Blocks.getD i dGBR):=hg _ (by rw [List.getD_eq_getElem?_getD,List.getElem?_eq_getElem hx];exact List.getElem_mem hx)
  unfold mf_Encode_l0
  rw [bz h2,dec_in i _ hx,cond_true,toNat_c,getD_dropB hx]
  generalize m.Blocks.getD i dGBR=b at hgb
  have hlen:=blkT_len hgb
  have hfs:=hgb.2.2.2
  have e:mf_writeLine n (⟨#[98,108,111,99,107]⟩:ByteArray) [b.Id,b.Width,b.MinTime,b.MaxTime,b.Size] b.File s=some (s++ofL (blkT b)):=writeLine_eq n blkL (blkNs b) b.File s (by have:(blkNs b).length=5:=rfl;omega) hgb.1 (by have:(blkNs b).length=5:=rfl;omega) (by omega) (by have:blkL.length=5:=rfl;omega)
  rw [e,Option.bind_some,wr1 i (by omega),encode_l0 n m hn hl hg k (i+1) f _ (by omega) (by omega) (by rw [ByteArray.size_append,ofL_size];omega)]
  exact congrArg (mf_Encode_s1 n) (ky_inj (by simp only [ky_app,ky_ofL,blksT,List.append_assoc]))
def encd (m:GMf):ByteArray×Int:=if chk m≠0 then (bE,1) else (sealed (ofL (txt m)),0)
theorem man_len {m:GMf} (hg:goodM m):(lnT manL (manNs m) m.Log).length≤200:=by
 have hl1:=lnT_len manL (manNs m) m.Log hg.1
 have hls:=hg.2.1.2.2
 have h1:manL.length=8:=rfl
 have h2:(manNs m).length=3:=rfl
 omega
theorem man_write (k:Nat) (m:GMf) (hg:goodM m) (hn:30≤k):mf_writeLine k (⟨#[109,97,110,105,102,101,115,116]⟩:ByteArray) [m.Version,m.Next,m.RawFrom] m.Log bE=some (ofL (lnT manL (manNs m) m.Log)):=by
 have hls:=hg.2.1.2.2
 have h1:manL.length=8:=rfl
 have h2:(manNs m).length=3:=rfl
 have h3:bE.size=0:=rfl
 have e:=writeLine_eq k manL (manNs m) m.Log bE (by omega) hg.1 (by omega) (by omega) (by omega)
 have hbe:∀l:List UInt8,bE++ofL l=ofL l:=fun l=>ky_inj (by rw [ky_app];exact List.nil_append _)
 rw [hbe] at e
 exact e
theorem encode_s1 (k:Nat) (m:GMf) (hg:goodM m) (hn:29999≤k):mf_Encode_s1 k (ofL (txt m))=some (sealed (ofL (txt m)),0):=by
 have hlen:=txt_len hg
 have hsz:(ofL (txt m)).size=(txt m).length:=ofL_size _
 have h1:1≤(ofL (txt m)).size:=by
  rw [hsz];simp only [txt,lnT,List.length_append,List.length_cons];omega
 unfold mf_Encode_s1
 have es:bString k (ofL (txt m))=some (ofL (txt m)):=by
  obtain ⟨j,rfl⟩:∃j,k=j+1:=⟨k-1,by omega⟩
  unfold bString;simp only [decide_eq_true h1,cond_true]
 rw [es,Option.bind_some,seal_eq k _ (by omega) (by omega),Option.bind_some]
theorem encode_eq (n:Nat) (m:GMf) (hn:30000≤n):mf_Encode n m=some (encd m):=by
 obtain ⟨k,rfl⟩:∃k,n=k+1:=⟨n-1,by omega⟩
 unfold mf_Encode encd
 simp only
 rw [mcheck_eq k m (by omega),Option.bind_some]
 by_cases hc:chk m=0
 ·have hb:(chk m != 0)=false:=by rw [hc];rfl
  have hg:=chk_good hc
  have hbl:=hg.2.2.1
  have hml:=man_len hg
  rw [hb,cond_false,if_neg (show ¬chk m≠0 from fun h=>h hc),man_write k m hg (by omega),Option.bind_some]
  have e2:=encode_l0 k m (by omega) hbl hg.2.2.2 m.Blocks.length 0 k (ofL (lnT manL (manNs m) m.Log)) (by omega) (by omega) (by rw [ofL_size];omega)
  rw [Int.natCast_zero] at e2
  rw [e2,List.drop_zero,ofL_app]
  exact encode_s1 k m hg (by omega)
 ·have hb:(chk m != 0)=true:=by rw [bne_iff_ne];exact hc
  rw [hb,cond_true,if_pos (show chk m≠0 from hc)]
end Go.Proofs.YtomalcfghdaghaaGreatDoor
/- Plain laws of the manifest,6: the reference's reading. -/
set_option linter.unusedVariables false
set_option linter.unusedSimpArgs false
namespace Go.Proofs.YtomalcfghdaghaaGreatDoor
open Go Go.AM Go.Lib
theorem ky_ext (s:ByteArray) (i j:Nat):ky (s.extract i j)=((ky s).take j).drop i:=by
 simp [ky,ByteArray.data_extract,List.extract_eq_take_drop,List.drop_take]
end Go.Proofs.YtomalcfghdaghaaGreatDoor
/- Plain laws of the manifest,7: decoding,the program's and the reference's. -/
set_option linter.unusedVariables false
set_option linter.unusedSimpArgs false
namespace Go.Proofs.YtomalcfghdaghaaGreatDoor
open Go Go.AM Go.Lib
theorem d3 (a b c:Int) (h0:0≤a) (h1:a≤b) (h2:b≤c):(decide ((0:Int)≤a)&&decide (a≤b)&&decide (b≤c))=true:=by
 rw [decide_eq_true h0,decide_eq_true h1,decide_eq_true h2];rfl
theorem sealed_pre (t:ByteArray):(sealed t).extract 0 t.size=t:=by
 apply ky_inj
 rw [ky_ext,List.drop_zero]
 unfold sealed
 rw [ky_app,← ky_len,List.take_left']
 rfl
theorem opened_sealed (t:ByteArray):opened (sealed t)=some t:=by
 have h:=seal_size t
 have h4:(sealed t).size-4=t.size:=by omega
 unfold opened
 rw [h4,sealed_pre,if_pos ⟨by omega,rfl⟩]
theorem dec_sealed_p (n:Nat) (m:GMf) (hc:chk m=0) (hn:200000≤n):mf_Decode n (sealed (ofL (txt m)))=some (m,0):=by
 obtain ⟨k,rfl⟩:∃k,n=k+1:=⟨n-1,by omega⟩
 have hg:=chk_good hc
 have hlen:=txt_len hg
 have hsz:(ofL (txt m)).size=(txt m).length:=ofL_size _
 have hss:=seal_size (ofL (txt m))
 unfold mf_Decode
 simp only
 rw [open_eq k _ (by omega) (by omega),Option.bind_some,opened_sealed]
 simp only
 rw [show ((0:Int) != 0)=false from rfl,cond_false,parse_can k m hg (by omega),Option.bind_some]
 simp only [Bool.not_true,cond_false]
 rw [encode_eq k m (by omega),Option.bind_some,encd,if_neg (show ¬chk m≠0 from fun h=>h hc)]
 simp only
 rw [show ((0:Int) != 0)=false from rfl,cond_false,sNe_eq,decide_eq_true rfl];rfl
end Go.Proofs.YtomalcfghdaghaaGreatDoor
/- Plain laws of the manifest,8: the two laws. -/
set_option linter.unusedVariables false
set_option linter.unusedSimpArgs false
namespace Go.Proofs.YtomalcfghdaghaaGreatDoor
open Go Go.AM Go.Lib
theorem msame_l0 (n:Nat) (m:GMf) (hl:m.Blocks.length≤1000):∀(k i f:Nat),i+k=m.Blocks.length→k<f→r24_Same_l0 n m m f (i:Int)=some true
 | k,i,0,_,h=>by omega
 | 0,i,f+1,h,_=>by
  have h1:¬((i:Int)<(m.Blocks.length:Int)):=by omega
  unfold r24_Same_l0
  rw [bzn h1]
 | k+1,i,f+1,h,h1=>by
  have hx:i<m.Blocks.length:=by omega
  have h2:((i:Int)<(m.Blocks.length:Int)):=by omega
  unfold r24_Same_l0
  rw [bz h2,dec_in i _ hx,cond_true,cond_true,toNat_c]
  simp only [beqS,decide_true,beq_self_eq_true,Bool.and_self,Bool.not_true,cond_false]
  rw [wr1 i (by omega)]
  exact msame_l0 n m hl k (i+1) f (by omega) (by omega)
theorem same_eq (n:Nat) (m:GMf) (hl:m.Blocks.length≤1000) (hn:1100≤n):r24_Same n m m=some true:=by
 obtain ⟨k,rfl⟩:∃k,n=k+1:=⟨n-1,by omega⟩
 unfold r24_Same
 simp only [bne_self_eq_false,cond_false,sNe_eq,decide_true,Bool.not_true]
 exact msame_l0 k m hl m.Blocks.length 0 k (by omega) (by omega)
def smp:GMf:=⟨1,3,0,(⟨#[119,97,108,46,49]⟩:ByteArray),[(⟨2,0,(⟨#[98,108,111,99,107,46,50]⟩:ByteArray),5,9,100⟩:GBR)]⟩
def smpT:List UInt8:=[109,97,110,105,102,101,115,116,32,49,32,51,32,48,32,119,97,108,46,49,10,98,108,111,99,107,32,50,32,48,32,53,32,57,32,49,48,48,32,98,108,111,99,107,46,50,10]
theorem smp_chk:chk smp=0:=by kernel_rfl
theorem smp_txt:txt smp=smpT:=by
 have h0:itoa 0=[48]:=by show decDigits 0=_;rw [decDigits_one (by decide)];rfl
 have h1:itoa 1=[49]:=by show decDigits 1=_;rw [decDigits_one (by decide)];rfl
 have h2:itoa 2=[50]:=by show decDigits 2=_;rw [decDigits_one (by decide)];rfl
 have h3:itoa 3=[51]:=by show decDigits 3=_;rw [decDigits_one (by decide)];rfl
 have h5:itoa 5=[53]:=by show decDigits 5=_;rw [decDigits_one (by decide)];rfl
 have h9:itoa 9=[57]:=by show decDigits 9=_;rw [decDigits_one (by decide)];rfl
 have h100:itoa 100=[49,48,48]:=by
  show decDigits 100=_
  rw [decDigits,dif_neg (by decide),show 100 / 10=10 from rfl,decDigits_two (by decide) (by decide)];rfl
 simp only [txt,smp,manNs,blksT,blkT,blkNs,lnT,lnW,nsT,h0,h1,h2,h3,h5,h9,h100]
 rfl
theorem awake_eq (n:Nat) (hn:200100≤n):w24_awake n=some true:=by
 obtain ⟨k,rfl⟩:∃k,n=k+1:=⟨n-1,by omega⟩
 obtain ⟨j,rfl⟩:∃j,k=j+1:=⟨k-1,by omega⟩
 have hs:w24_sample (j+1)=some smp:=rfl
 have hsz:(ofL (txt smp)).size=47:=by rw [smp_txt,ofL_size];rfl
 have hss:=seal_size (ofL (txt smp))
 have hpre:=sealed_pre (ofL (txt smp))
 rw [hsz] at hpre hss
 unfold w24_awake
 simp only
 rw [hs,Option.bind_some,encode_eq (j+1) smp (by omega),Option.bind_some,encd,if_neg (show ¬chk smp≠0 from fun h=>h smp_chk)]
 simp only
 rw [dec_sealed_p (j+1) smp smp_chk (by omega),Option.bind_some]
 simp only
 have e51:(((sealed (ofL (txt smp))).size:Int)==51)=true:=by rw [beq_iff_eq,hss];rfl
 have e0:((0:Int)==0)=true:=rfl
 rw [e0,cond_true,cond_true,e51,cond_true,btt (d3 0 47 _ (by omega) (by omega) (by omega)),hpre]
 have et:sEq (ofL (txt smp)) (⟨#[109,97,110,105,102,101,115,116,32,49,32,51,32,48,32,119,97,108,46,49,10,98,108,111,99,107,32,50,32,48,32,53,32,57,32,49,48,48,32,98,108,111,99,107,46,50,10]⟩:ByteArray)=true:=by
  rw [sEq_eq,smp_txt];exact decide_eq_true rfl
 rw [et,cond_true,Option.bind_some,same_eq (j+1) smp (by decide) (by omega)]
 rfl
end Go.Proofs.YtomalcfghdaghaaGreatDoor
