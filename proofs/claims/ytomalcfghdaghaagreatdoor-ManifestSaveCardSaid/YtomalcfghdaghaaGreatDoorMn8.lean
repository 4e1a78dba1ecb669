/- Plain laws of the manifest, 0: names. -/
import Derived.Test.YtomalcfghdaghaaGreatDoorSp15
import Derived.Test.YtomalcfghdaghaaGreatDoorSq1
import Derived.Test.YtomalcfghdaghaaGreatDoorLib0
import Derived.Test.YtomalcfghdaghaaGreatDoorWf
set_option linter.unusedVariables false
set_option linter.unusedSimpArgs false
namespace Go.Proofs.YtomalcfghdaghaaGreatDoor
open Go Go.AM
theorem misName_l0 (n:Nat) (s:ByteArray):∀(k i m:Nat),i+k=s.size→s.size≤60→k<m→mf_isName_l0 n s m (s.size:Int) (i:Int)=some (allB s i k)
 | k,i,0,_,_,h=>by omega
 | 0,i,m+1,h,h1,_=>by
  have:¬((i:Int)<(s.size:Int)):=by omega
  simp [mf_isName_l0,this,allB]
 | k+1,i,m+1,h,h1,h2=>by
  have ih:=misName_l0 n s k (i+1) m (by omega) h1 (by omega)
  have hw:=wr1 i (by omega)
  have hin:=dec_in i s.size (by omega)
  have hlt:(i:Int)<(s.size:Int):=by omega
  have h0:(0:Int)≤(i:Int):=by omega
  simp only [mf_isName_l0,mf_isName_s1,hlt,h0,decide_true,Bool.and_true,cond_true,toNat_c,hw,ih,allB,okB]
  have hc:∃c,bt s i=c:=⟨_,rfl⟩
  obtain ⟨c,hc⟩:=hc
  simp only [hc]
  by_cases a1:c≥65<;>by_cases a2:c≤90<;>by_cases a3:c≥97<;>by_cases a4:c≤122<;>by_cases a5:c≥48<;>by_cases a6:c≤57<;>first | (exfalso;omega) | skip
  all_goals (simp only [a1,a2,a3,a4,a5,a6,decide_true,decide_false,cond_true,cond_false,Bool.true_and,Bool.false_and,Bool.and_false,Bool.or_false,Bool.false_or,Bool.true_or,Bool.or_true,Bool.not_true,Bool.not_false,show (c<48)=¬(c≥48) by simp,show (c>57)=¬(c≤57) by simp,not_true_eq_false,not_false_eq_true])
  all_goals first | rfl | skip
  all_goals (cases b1:(c==46)<;>cases b2:(c==95)<;>cases b3:(c==45)<;>simp only [bne,b1,b2,b3,cond_true,cond_false,Bool.not_true,Bool.not_false,Bool.or_true,Bool.or_false,Bool.true_and,Bool.false_and,Bool.false_or,Bool.true_or])
def mfB:ByteArray:=⟨#[77,65,78,73,70,69,83,84]⟩
def mfnB:ByteArray:=⟨#[77,65,78,73,70,69,83,84,46,110,101,119]⟩
def nmOk (s:ByteArray):Bool:=isNm s&&!decide (s=mfB)&&!decide (s=mfnB)
theorem misName_eq (n:Nat) (s:ByteArray) (h:63≤n):mf_isName n s=some (nmOk s):=by
 obtain ⟨m,rfl⟩:∃m,n=m+1:=⟨n-1,by omega⟩
 simp only [mf_isName,nmOk,isNm,sEq_eq]
 by_cases h1:s.size<1
 ·have:(s.size:Int)<1:=by omega
  have h2:¬0<s.size:=by omega
  simp only [this,h2,decide_true,decide_false,cond_true,Bool.false_and]
 ·have:¬(s.size:Int)<1:=by omega
  have h2:0<s.size:=by omega
  by_cases h3:s.size≤60
  ·have h4:¬(s.size:Int)>60:=by omega
   simp only [this,h2,h3,h4,decide_true,decide_false,cond_false,Bool.true_and]
   have:=misName_l0 m s s.size 0 m (by omega) h3 (by omega)
   rw [show (0:Int)=((0:Nat):Int) from rfl,this]
   change (bif decide (s=mfB) then some false else bif decide (s=mfnB) then some false else _)=_
   cases decide (s=mfB)<;>cases decide (s=mfnB)<;>cases allB s 0 s.size<;>rfl
  ·have h4:(s.size:Int)>60:=by omega
   simp only [this,h2,h3,h4,decide_true,decide_false,cond_false,cond_true,Bool.true_and,Bool.false_and]
theorem mname_l0 (n:Nat) (s:ByteArray):∀(k i m:Nat),i+k=s.size→s.size≤9223372036854775807→k<m→r22_Name_l0 n s m (i:Int)=(bif allB s i k then r22_Name_s1 n s else some false)
 | k,i,0,_,_,h=>by omega
 | 0,i,m+1,h,h1,_=>by
  have:¬((i:Int)<(s.size:Int)):=by omega
  simp [r22_Name_l0,this,allB]
 | k+1,i,m+1,h,h1,h2=>by
  have ih:=mname_l0 n s k (i+1) m (by omega) h1 (by omega)
  have hw:=wr1 i (by omega)
  have hlt:(i:Int)<(s.size:Int):=by omega
  have h0:(0:Int)≤(i:Int):=by omega
  simp only [r22_Name_l0,hlt,h0,decide_true,Bool.and_true,cond_true,toNat_c,hw,ih,allB,okB]
  have hc:∃c,bt s i=c:=⟨_,rfl⟩
  obtain ⟨c,hc⟩:=hc
  simp only [hc]
  by_cases a1:c≥65<;>by_cases a2:c≤90<;>by_cases a3:c≥97<;>by_cases a4:c≤122<;>by_cases a5:c≥48<;>by_cases a6:c≤57<;>first | (exfalso;omega) | skip
  all_goals (simp only [a1,a2,a3,a4,a5,a6,decide_true,decide_false,cond_true,cond_false,Bool.true_and,Bool.false_and,Bool.and_false,Bool.or_false,Bool.false_or,Bool.true_or,Bool.or_true,Bool.not_true,Bool.not_false])
  all_goals first | rfl | skip
  all_goals (cases b1:(c==46)<;>cases b2:(c==95)<;>cases b3:(c==45)<;>simp only [bne,b1,b2,b3,cond_true,cond_false,Bool.not_true,Bool.not_false,Bool.or_true,Bool.or_false,Bool.true_and,Bool.false_and,Bool.false_or,Bool.true_or])
theorem mname_eq (n:Nat) (s:ByteArray) (h:s.size+2≤n) (hs:s.size≤9223372036854775807):r22_Name n s=some (isNm s):=by
 obtain ⟨m,rfl⟩:∃m,n=m+1:=⟨n-1,by omega⟩
 simp only [r22_Name]
 have:=mname_l0 m s s.size 0 m (by omega) hs (by omega)
 refine Eq.trans this ?_
 simp only [isNm,r22_Name_s1]
 by_cases h1:0<s.size
 ·have h2:(s.size:Int)>0:=by omega
  have h3:decide ((s.size:Int)≤60)=decide (s.size≤60):=by rw [Bool.eq_iff_iff,decide_eq_true_eq,decide_eq_true_eq];omega
  simp only [h1,h2,h3,decide_true,cond_true,Bool.true_and]
  cases allB s 0 s.size<;>simp
 ·have h2:¬(s.size:Int)>0:=by omega
  simp only [h1,h2,decide_false,cond_false,Bool.false_and]
  cases allB s 0 s.size<;>rfl
theorem rname_eq (n:Nat) (s:ByteArray) (h:s.size+3≤n) (hs:s.size≤9223372036854775807):r24_name n s=some (nmOk s):=by
 obtain ⟨m,rfl⟩:∃m,n=m+1:=⟨n-1,by omega⟩
 simp only [r24_name,mname_eq m s (by omega) hs,Option.bind_some,sNe_eq,nmOk]
 change (bif isNm s then (bif !decide (s=mfB) then some (!decide (s=mfnB)) else some false) else some false)=_
 cases isNm s<;>cases decide (s=mfB)<;>cases decide (s=mfnB)<;>rfl
end Go.Proofs.YtomalcfghdaghaaGreatDoor
/- Plain laws of the manifest,1: numbers in letters;cutting at a letter. -/
set_option linter.unusedVariables false
set_option linter.unusedSimpArgs false
namespace Go.Proofs.YtomalcfghdaghaaGreatDoor
open Go Go.AM Go.Lib
def ofL (l:List UInt8):ByteArray:=⟨l.toArray⟩
theorem ky_ofL (l:List UInt8):ky (ofL l)=l:=by simp [ky,ofL]
theorem ofL_ky (s:ByteArray):ofL (ky s)=s:=ky_inj (ky_ofL _)
theorem ky_app (a b:ByteArray):ky (a++b)=ky a++ky b:=by simp [ky]
theorem ofL_app (a b:List UInt8):ofL a++ofL b=ofL (a++b):=ky_inj (by rw [ky_app,ky_ofL,ky_ofL,ky_ofL])
theorem ofL_size (l:List UInt8):(ofL l).size=l.length:=by rw [← ky_len,ky_ofL]
def isD (c:UInt8):Prop:=48≤c.toNat∧c.toNat≤57
theorem dig_nat (u:Nat) (h:u<10):(UInt8.ofNat (48+u)).toNat=48+u:=by
 rw [UInt8.toNat_ofNat'];omega
theorem dd_isD:∀(u:Nat),∀c∈decDigits u,isD c:=by
 intro u
 induction u using Nat.strongRecOn with
 | _ u ih=>
  rw [decDigits]
  split
  ·rename_i h
   intro c hc
   have:=List.mem_singleton.1 hc
   subst this
   have:=dig_nat u h
   exact ⟨by omega,by omega⟩
  ·intro c hc
   rcases List.mem_append.1 hc with h | h
   ·exact ih _ (by omega) c h
   ·have:=List.mem_singleton.1 h
    subst this
    have:=dig_nat (u % 10) (by omega)
    exact ⟨by omega,by omega⟩
theorem dd_ne (u:Nat):decDigits u≠[]:=by
 rw [decDigits];split<;>simp
theorem dd_len:∀(k u:Nat),u<10 ^ (k+1)→(decDigits u).length≤k+1
 | 0,u,h=>by rw [decDigits,dif_pos (by simpa using h)];simp
 | k+1,u,h=>by
  rw [decDigits]
  split
  ·simp
  ·have:=dd_len k (u / 10) (by rw [Nat.pow_succ] at h;omega)
   simp;omega
theorem pu_app:∀(a b:List UInt8) (acc:Nat),parseUint10 acc (a++b)=match parseUint10 acc a with | .ok v=>parseUint10 v b | e=>e
 | [],b,acc=>rfl
 | c::a,b,acc=>by
  simp only [List.cons_append,parseUint10]
  split
  ·split
   ·rfl
   ·split
    ·rfl
    ·exact pu_app a b _
  ·rfl
theorem pu_dd (u:Nat):u<9223372036854775808→parseUint10 0 (decDigits u)=.ok u:=by
 induction u using Nat.strongRecOn with
 | _ u ih=>
  intro h
  rw [decDigits]
  split
  ·rename_i h1
   have hd:=dig_nat u h1
   simp only [parseUint10]
   rw [if_pos (by omega),if_neg (by omega),if_neg (by omega)]
   congr 1;omega
  ·have hd:=dig_nat (u % 10) (by omega)
   rw [pu_app,ih (u / 10) (by omega) (by omega)]
   simp only [parseUint10]
   rw [if_pos (by omega),if_neg (by omega),if_neg (by omega)]
   congr 1;omega
theorem itoa_pos {x:Int} (h:0≤x):itoa x=decDigits x.toNat:=by
 unfold itoa;rw [if_neg (by omega)]
theorem atoi_itoa {x:Int} (h0:0≤x) (h:x<9223372036854775808):atoiAll (itoa x)=.ok x:=by
 rw [itoa_pos h0]
 have hp:=pu_dd x.toNat (by omega)
 have hd:=dd_isD x.toNat
 cases hl:decDigits x.toNat with
 | nil=>exact absurd hl (dd_ne _)
 | cons c r=>
  rw [hl] at hp hd
  have hc:=hd c (.head _)
  unfold isD at hc
  unfold atoiAll
  simp only
  rw [if_neg (by omega)]
  unfold parseMag
  rw [if_neg (by simp),hp]
  simp only
  rw [if_neg (by omega),if_neg (by omega),if_neg (by omega)]
  congr 1;omega
theorem atoiV_itoa {x:Int} (h0:0≤x) (h:x<9223372036854775808):atoiV (ofL (itoa x))=.ok x:=by
 unfold atoiV
 have e:(ofL (itoa x)).data.toList=itoa x:=ky_ofL _
 rw [e,atoi_itoa h0 h]
theorem itoa_len {x:Int} (h0:0≤x) (h:x<9223372036854775808):(itoa x).length≤20:=by
 rw [itoa_pos h0];exact dd_len 19 _ (by omega)
def nmL:Nat→List UInt8→Option Nat
 | acc,[]=>some acc
 | acc,c::r=>if c.toNat<48∨57<c.toNat then none else if 115292150460684697<acc then none else nmL (acc*10+(c.toNat-48)) r
theorem nmL_app:∀(a b:List UInt8) (acc:Nat),nmL acc (a++b)=(nmL acc a).bind fun v=>nmL v b
 | [],b,acc=>rfl
 | c::a,b,acc=>by
  simp only [List.cons_append,nmL]
  split
  ·rfl
  ·split
   ·rfl
   ·exact nmL_app a b _
theorem nmL_dd (u:Nat):u≤1152921504606846976→nmL 0 (decDigits u)=some u:=by
 induction u using Nat.strongRecOn with
 | _ u ih=>
  intro h
  rw [decDigits]
  split
  ·rename_i h1
   have hd:=dig_nat u h1
   simp only [nmL]
   rw [if_neg (by omega),if_neg (by omega)]
   congr 1;omega
  ·have hd:=dig_nat (u % 10) (by omega)
   rw [nmL_app,ih (u / 10) (by omega) (by omega),Option.bind_some]
   simp only [nmL]
   rw [if_neg (by omega),if_neg (by omega)]
   congr 1;omega
theorem idx_word (c:UInt8):∀(w r:List UInt8),c∉w→index (w++c::r) [c]=w.length
 | [],r,_=>by simp [index]
 | x::w,r,h=>by
  have hx:¬c=x:=fun e=>h (e▸.head _)
  have ih:=idx_word c w r (fun e=>h (.tail _ e))
  rw [List.cons_append,index,ih]
  have:((w.length:Int)==-1)=false:=by rw [beq_eq_false_iff_ne];omega
  simp [hx,this]
theorem idx_none (c:UInt8):∀(w:List UInt8),c∉w→index w [c]=-1
 | [],_=>rfl
 | x::w,h=>by
  have hx:¬c=x:=fun e=>h (e▸.head _)
  have ih:=idx_none c w (fun e=>h (.tail _ e))
  rw [index,ih]
  simp [hx]
def words (s:ByteArray):List ByteArray:=splitB ⟨#[32]⟩ 0 (countB s ⟨#[32]⟩) s
theorem take_app (w r:List UInt8):(ofL (w++r)).extract 0 w.length=ofL w:=by
 apply ky_inj
 rw [ky_ofL]
 show ((ofL (w++r)).extract 0 w.length).data.toList=w
 rw [extract_from_zero]
 show (ky (ofL (w++r))).take w.length=w
 rw [ky_ofL];simp
theorem drop_app (w r:List UInt8) (k:Nat) (hk:k=w.length):(ofL (w++r)).extract k (ofL (w++r)).size=ofL r:=by
 subst hk
 apply ky_inj
 rw [ky_ofL]
 show ((ofL (w++r)).extract w.length (ofL (w++r)).size).data.toList=r
 rw [extract_to_end]
 show (ky (ofL (w++r))).drop w.length=r
 rw [ky_ofL];simp
theorem words_cons (w r:List UInt8) (h:(32:UInt8)∉w):words (ofL (w++32::r))=ofL w::words (ofL r):=by
 have hi:indexB (ofL (w++32::r)) ⟨#[32]⟩=w.length:=by
  show index (ky (ofL _)) [32]=_
  rw [ky_ofL];exact idx_word 32 w r h
 have hd:(ofL (w++32::r)).extract (w.length+(⟨#[32]⟩:ByteArray).size) (ofL (w++32::r)).size=ofL r:=by
  have e:w++32::r=(w++[32])++r:=by simp
  rw [e]
  exact drop_app (w++[32]) r _ (by simp;rfl)
 unfold words
 rw [countB_hit _ _ _ (by decide) hi,Nat.add_comm 1,splitB_hit _ _ _ _ _ hi,hd,Nat.add_zero,take_app]
theorem words_one (w:List UInt8) (h:(32:UInt8)∉w):words (ofL w)=[ofL w]:=by
 have hi:indexB (ofL w) ⟨#[32]⟩=-1:=by
  show index (ky (ofL _)) [32]=_
  rw [ky_ofL];exact idx_none 32 w h
 unfold words
 exact splitB_miss _ _ _ _ hi
theorem split_small (sep:ByteArray):∀(k:Nat) (s:ByteArray),∀w∈splitB sep 0 k s,w.size≤s.size
 | 0,s,w,h=>by
  have:=List.mem_singleton.1 h
  subst this;exact Nat.le_refl _
 | k+1,s,w,h=>by
  unfold splitB at h
  split at h
  ·have:=List.mem_singleton.1 h
   subst this;exact Nat.le_refl _
  ·rcases List.mem_cons.1 h with e | e
   ·subst e;simp [ByteArray.size_extract];omega
   ·have:=split_small sep k _ w e
    simp only [ByteArray.size_extract] at this
    omega
theorem split_eq (n:Nat) (s:ByteArray) (hn:1≤n) (hs:s.size<4294967281):splitS n s ⟨#[32]⟩=some (words s):=by
 obtain ⟨m,rfl⟩:∃m,n=m+1:=⟨n-1,by omega⟩
 unfold splitS
 have h1:(decide (s.size<4294967281)&&decide (1≤(⟨#[32]⟩:ByteArray).size))=true:=by
  rw [Bool.and_eq_true,decide_eq_true_eq];exact ⟨hs,rfl⟩
 rw [h1];rfl
theorem cut_tot (n:Nat) (s:ByteArray) (hn:1≤n) (hs:s.size<4294967281):∃a b c,cutS n s ⟨#[10]⟩=some (a,b,c)∧a.size≤s.size∧(c=true→b.size<s.size):=by
 obtain ⟨m,rfl⟩:∃m,n=m+1:=⟨n-1,by omega⟩
 unfold cutS
 rw [decide_eq_true hs,cond_true]
 rcases indexB_cases s ⟨#[10]⟩ with h | ⟨i,h,hr⟩
 ·obtain ⟨a,b,c⟩:=cutB_miss s ⟨#[10]⟩ h
  exact ⟨_,_,_,rfl,by rw [a];exact Nat.le_refl _,fun e=>by rw [c] at e;cases e⟩
 ·obtain ⟨a,b,c⟩:=cutB_hit s ⟨#[10]⟩ i h
  have h1:(⟨#[10]⟩:ByteArray).size=1:=rfl
  rw [h1] at hr b
  refine ⟨_,_,_,rfl,by rw [a,ByteArray.size_extract];omega,fun _=>by rw [b,ByteArray.size_extract];omega⟩
theorem cut_line (n:Nat) (w r:List UInt8) (hn:1≤n) (hs:(w++10::r).length<4294967281) (h:(10:UInt8)∉w):cutS n (ofL (w++10::r)) ⟨#[10]⟩=some (ofL w,ofL r,true):=by
 obtain ⟨m,rfl⟩:∃m,n=m+1:=⟨n-1,by omega⟩
 unfold cutS
 rw [decide_eq_true (by rw [ofL_size];exact hs),cond_true]
 have hi:indexB (ofL (w++10::r)) ⟨#[10]⟩=w.length:=by
  show index (ky (ofL _)) [10]=_
  rw [ky_ofL];exact idx_word 10 w r h
 obtain ⟨a,b,c⟩:=cutB_hit _ ⟨#[10]⟩ _ hi
 have hd:(ofL (w++10::r)).extract (w.length+(⟨#[10]⟩:ByteArray).size) (ofL (w++10::r)).size=ofL r:=by
  have e:w++10::r=(w++[10])++r:=by simp
  rw [e]
  exact drop_app (w++[10]) r _ (by simp;rfl)
 rw [a,b,c,hd,take_app]
end Go.Proofs.YtomalcfghdaghaaGreatDoor
/- Plain laws of the manifest,2: what the program writes (writeLine),what it reads (parseLine,parse). -/
set_option linter.unusedVariables false
set_option linter.unusedSimpArgs false
namespace Go.Proofs.YtomalcfghdaghaaGreatDoor
open Go Go.AM Go.Lib
theorem bz {α:Type} {c:Prop} [Decidable c] (h:c) (a b:α):(bif decide c then a else b)=a:=by rw [decide_eq_true h];rfl
theorem bzn {α:Type} {c:Prop} [Decidable c] (h:¬c) (a b:α):(bif decide c then a else b)=b:=by rw [decide_eq_false h];rfl
theorem btt {α:Type} {c:Bool} (h:c=true) (a b:α):(bif c then a else b)=a:=by rw [h];rfl
theorem bff {α:Type} {c:Bool} (h:c=false) (a b:α):(bif c then a else b)=b:=by rw [h];rfl
def nsT:List Int→List UInt8
 | []=>[]
 | x::r=>32::(itoa x++nsT r)
def lnW (w:List UInt8) (ns:List Int) (f:ByteArray):List UInt8:=w++nsT ns++32::ky f
def lnT (w:List UInt8) (ns:List Int) (f:ByteArray):List UInt8:=lnW w ns f++[10]
def numsOk (ns:List Int):Prop:=∀x∈ns,0≤x∧x<9223372036854775808
theorem nsT_len:∀ns,numsOk ns→(nsT ns).length≤21*ns.length
 | [],_=>Nat.le_refl _
 | x::r,h=>by
  have h1:=h x (.head _)
  have h2:=itoa_len h1.1 h1.2
  have h3:=nsT_len r (fun y hy=>h y (.tail _ hy))
  simp only [nsT,List.length_cons,List.length_append];omega
theorem lnT_len (w:List UInt8) (ns:List Int) (f:ByteArray) (h:numsOk ns):(lnT w ns f).length≤w.length+21*ns.length+f.size+2:=by
 have:=nsT_len ns h
 simp only [lnT,lnW,List.length_append,List.length_cons,List.length_nil,ky_len];omega
theorem write_eq (n:Nat) (b s:ByteArray) (hn:1≤n) (h:b.size+s.size≤140737488355328):bWrite n b s=some (b++s):=by
 obtain ⟨m,rfl⟩:∃m,n=m+1:=⟨n-1,by omega⟩
 unfold bWrite;rw [decide_eq_true h];rfl
theorem byte_eq (n:Nat) (b:ByteArray) (c:UInt8) (hn:1≤n) (h:b.size+1≤140737488355328):bByte n b (c.toNat:Int)=some (b++ofL [c]):=by
 obtain ⟨m,rfl⟩:∃m,n=m+1:=⟨n-1,by omega⟩
 have hc:=c.toNat_lt
 have h1:(decide (b.size+1≤140737488355328)&&(decide (0≤(c.toNat:Int))&&decide ((c.toNat:Int)<256)))=true:=by
  simp only [Bool.and_eq_true,decide_eq_true_eq];omega
 unfold bByte
 simp only [h1,cond_true,Option.some.injEq]
 apply ky_inj
 rw [ky_app,ky_ofL]
 simp [ky,ByteArray.push]
theorem itoaS_eq (n:Nat) (x:Int) (hn:1≤n) (h:0≤x∧x<9223372036854775808):itoaS n x=some (ofL (itoa x)):=by
 obtain ⟨m,rfl⟩:∃m,n=m+1:=⟨n-1,by omega⟩
 unfold itoaS
 have h1:(decide (-9223372036854775808≤x)&&decide (x≤9223372036854775807))=true:=by
  simp only [Bool.and_eq_true,decide_eq_true_eq];omega
 rw [h1];rfl
theorem writeLine_l0 (n:Nat) (f:ByteArray) (ns:List Int) (hn:1≤n) (hk:numsOk ns) (hl:ns.length<1000) (hf:f.size≤1000):∀(k i m:Nat) (b:ByteArray),i+k=ns.length→k<m→b.size+21*k+2000≤140737488355328 →
  mf_writeLine_l0 n f ns m (ns.length:Int) (i:Int) b=some (b++ofL (nsT (ns.drop i)++32::(ky f++[10])))
 | k,i,0,b,_,h,_=>by omega
 | 0,i,m+1,b,h,_,hb=>by
  have h1:¬((i:Int)<(ns.length:Int)):=by omega
  have hd:ns.drop i=[]:=List.drop_eq_nil_of_le (by omega)
  unfold mf_writeLine_l0
  rw [bzn h1]
  unfold mf_writeLine_s1
  have e1:=byte_eq n b 32 hn (by omega)
  have e2:=write_eq n (b++ofL [32]) f hn (by rw [ByteArray.size_append,ofL_size];simp;omega)
  have e3:=byte_eq n (b++ofL [32]++f) 10 hn (by rw [ByteArray.size_append,ByteArray.size_append,ofL_size];simp;omega)
  change (bByte n b ((32:UInt8).toNat:Int)).bind _=_
  rw [e1,Option.bind_some,e2,Option.bind_some]
  change (bByte n _ ((10:UInt8).toNat:Int)).bind _=_
  rw [e3,Option.bind_some,hd]
  congr 1
  apply ky_inj
  simp only [ky_app,ky_ofL,nsT]
  simp
 | k+1,i,m+1,b,h,h1,hb=>by
  have hx:i<ns.length:=by omega
  have h2:((i:Int)<(ns.length:Int)):=by omega
  have hd:ns.drop i=ns.getD i 0::ns.drop (i+1):=getD_dropZ hx
  have hok:=hk (ns.getD i 0) (by rw [List.getD_eq_getElem?_getD,List.getElem?_eq_getElem hx];exact List.getElem_mem hx)
  have hlen:=itoa_len hok.1 hok.2
  have e1:=byte_eq n b 32 hn (by omega)
  have e2:=itoaS_eq n _ hn hok
  have e3:=write_eq n (b++ofL [32]) (ofL (itoa (ns.getD i 0))) hn (by rw [ByteArray.size_append,ofL_size,ofL_size];simp only [List.length_cons,List.length_nil];omega)
  have ih:=writeLine_l0 n f ns hn hk hl hf k (i+1) m (b++ofL [32]++ofL (itoa (ns.getD i 0))) (by omega) (by omega) (by rw [ByteArray.size_append,ByteArray.size_append,ofL_size,ofL_size];simp only [List.length_cons,List.length_nil];omega)
  unfold mf_writeLine_l0
  rw [bz h2,dec_in i ns.length hx,cond_true,toNat_c]
  change (bByte n b ((32:UInt8).toNat:Int)).bind _=_
  rw [e1,Option.bind_some,e2,Option.bind_some,e3,Option.bind_some,wr1 i (by omega),ih,hd]
  congr 1
  apply ky_inj
  simp only [ky_app,ky_ofL,nsT]
  simp
where
 getD_dropZ {l:List Int} {i:Nat} (h:i<l.length):l.drop i=l.getD i 0::l.drop (i+1):=by
  rw [List.drop_eq_getElem_cons h,List.getD_eq_getElem?_getD,List.getElem?_eq_getElem h];rfl
theorem writeLine_eq (n:Nat) (w:List UInt8) (ns:List Int) (f b:ByteArray) (hn:ns.length+3≤n) (hk:numsOk ns) (hl:ns.length<1000) (hf:f.size≤1000) (hb:b.size+w.length+30000≤140737488355328) :
  mf_writeLine n (ofL w) ns f b=some (b++ofL (lnT w ns f)):=by
 obtain ⟨m,rfl⟩:∃m,n=m+1:=⟨n-1,by omega⟩
 have e1:=write_eq m b (ofL w) (by omega) (by rw [ofL_size];omega)
 have e2:=writeLine_l0 m f ns (by omega) hk hl hf ns.length 0 m (b++ofL w) (by omega) (by omega) (by rw [ByteArray.size_append,ofL_size];omega)
 unfold mf_writeLine
 simp only
 rw [e1,Option.bind_some]
 refine Eq.trans e2 ?_
 congr 1
 apply ky_inj
 simp only [ky_app,ky_ofL,lnT,lnW,List.drop_zero]
 simp
theorem words_nums:∀(ns:List Int) (w:List UInt8) (f:ByteArray),(32:UInt8)∉w→(32:UInt8)∉ky f→numsOk ns→words (ofL (lnW w ns f))=ofL w::(ns.map (fun x=>ofL (itoa x))++[f])
 | [],w,f,h,h2,_=>by
  show words (ofL (w++[]++32::ky f))=_
  rw [List.append_nil,words_cons _ _ h,words_one _ h2,ofL_ky];rfl
 | x::ns,w,f,h,h2,hk=>by
  have h1:=hk x (.head _)
  have hd:(32:UInt8)∉itoa x:=fun e=>by
   rw [itoa_pos h1.1] at e
   have:=dd_isD _ _ e
   unfold isD at this
   exact absurd this.1 (by decide)
  have ih:=words_nums ns (itoa x) f hd h2 (fun y hy=>hk y (.tail _ hy))
  have e:lnW w (x::ns) f=w++32::lnW (itoa x) ns f:=by simp [lnW,nsT]
  rw [e,words_cons _ _ h,ih];rfl
def atos:List ByteArray→Option (List Int)
 | []=>some []
 | w::r=>match atoiV w with
  | .ok v=>(atos r).map (v::·)
  | .bad _=>none
theorem atos_len:∀(l:List ByteArray) (ns:List Int),atos l=some ns→ns.length=l.length
 | [],ns,h=>by cases h;rfl
 | w::r,ns,h=>by
  unfold atos at h
  split at h
  ·obtain ⟨x,hx,rfl⟩:=Option.map_eq_some_iff.1 h
   simp [atos_len r x hx]
  ·cases h
theorem atos_itoa:∀(ns:List Int),numsOk ns→atos (ns.map fun x=>ofL (itoa x))=some ns
 | [],_=>rfl
 | x::r,h=>by
  have h1:=h x (.head _)
  rw [List.map_cons,atos,atoiV_itoa h1.1 h1.2,atos_itoa r (fun y hy=>h y (.tail _ hy))];rfl
def plP (ws:List ByteArray) (word:ByteArray) (k:Nat):Option (List Int×ByteArray):=
 if ws.length=k+2∧ws.getD 0 bE=word then (atos ((ws.drop 1).take k)).map fun ns=>(ns,ws.getD (k+1) bE) else none
theorem plP_len {ws:List ByteArray} {word:ByteArray} {k:Nat} {ns:List Int} {f:ByteArray} (h:plP ws word k=some (ns,f)):ns.length=k:=by
 unfold plP at h
 split at h
 ·rename_i hc
  obtain ⟨x,hx,e⟩:=Option.map_eq_some_iff.1 h
  cases e
  rw [atos_len _ _ hx,List.length_take,List.length_drop];omega
 ·cases h
theorem atoiS_eq (n:Nat) (s:ByteArray) (hn:1≤n) (hs:s.size≤281474976710656):atoiS n s=some (atoiV s):=by
 obtain ⟨m,rfl⟩:∃m,n=m+1:=⟨n-1,by omega⟩
 unfold atoiS;rw [decide_eq_true hs];rfl
theorem parseLine_l0 (n k:Nat) (ws:List ByteArray) (hn:1≤n) (hk:k<1000) (hw:ws.length=k+2) (hs:∀w∈ws,w.size≤281474976710656):∀(j i m:Nat) (l:List Int),i+j=k→j<m→l.length=k →
  mf_parseLine_l0 n (k:Int) ws m (k:Int) (i:Int) l=some (match atos ((ws.drop (i+1)).take j) with | some ns=>(l.take i++ns,ws.getD (k+1) bE,true) | none=>([],bE,false))
 | j,i,0,l,_,h,_=>by omega
 | 0,i,m+1,l,h,_,hl=>by
  have h1:¬((i:Int)<(k:Int)):=by omega
  have hi:i=k:=by omega
  unfold mf_parseLine_l0
  rw [bzn h1]
  unfold mf_parseLine_s1
  rw [wr1 k (by omega),dec_in (k+1) ws.length (by omega),cond_true,toNat_c,toNat_c,btt (Nat.ble_eq_true_of_le (by omega)),hi]
  simp [atos]
 | j+1,i,m+1,l,h,h1,hl=>by
  have h2:((i:Int)<(k:Int)):=by omega
  have hx:i+1<ws.length:=by omega
  have hd:ws.drop (i+1)=ws.getD (i+1) bE::ws.drop (i+1+1):=by
   rw [List.drop_eq_getElem_cons hx,List.getD_eq_getElem?_getD,List.getElem?_eq_getElem hx];rfl
  have hsz:=hs (ws.getD (i+1) bE) (by rw [List.getD_eq_getElem?_getD,List.getElem?_eq_getElem hx];exact List.getElem_mem hx)
  unfold mf_parseLine_l0
  rw [bz h2,wr1 i (by omega),dec_in (i+1) ws.length hx,cond_true,toNat_c,atoiS_eq n _ hn hsz,Option.bind_some,hd,List.take_succ_cons,atos]
  cases hv:atoiV (ws.getD (i+1) bE) with
  | bad v=>rfl
  | ok v=>
   have ih:=parseLine_l0 n k ws hn hk hw hs j (i+1) m (l.set i v) (by omega) (by omega) (by simp [hl])
   simp only
   rw [toNat_c,toNat_c,dec_in i k (by omega),cond_true,btt (by rw [Nat.blt_eq];omega),ih]
   have ht:(l.set i v).take (i+1)=l.take i++[v]:=by
    rw [List.take_add_one,List.take_set_of_le (by omega),List.getElem?_set_self (by omega)];rfl
   rw [ht]
   cases atos ((ws.drop (i+1+1)).take j) with
   | none=>rfl
   | some ns=>simp
theorem parseLine_eq (n k:Nat) (s word:ByteArray) (hn:k+3≤n) (hk:k<1000) (hs:s.size≤100000) :
  mf_parseLine n s word (k:Int)=some (match plP (words s) word k with | some (ns,f)=>(ns,f,true) | none=>([],bE,false)):=by
 obtain ⟨m,rfl⟩:∃m,n=m+1:=⟨n-1,by omega⟩
 have hw:IntKind.wrap .i64 ((k:Int)+2)=((k+2:Nat):Int):=by rw [wr _ (by omega) (by omega)];omega
 have hsm:∀w∈words s,w.size≤281474976710656:=fun w h=>by have:=split_small _ _ _ w h;omega
 unfold mf_parseLine
 simp only
 rw [split_eq m s (by omega) (by omega),Option.bind_some,hw]
 generalize words s=ws at hsm
 by_cases hl:ws.length=k+2
 ·have h1:((ws.length:Int) != ((k+2:Nat):Int))=false:=by rw [hl];simp
  have h2:(decide ((0:Int)≤0)&&decide ((0:Int)<(ws.length:Int)))=true:=dec_in 0 ws.length (by omega)
  rw [bff h1,btt h2,sNe_eq]
  by_cases hwd:ws.getD 0 bE=word
  ·have h3:(decide (0≤(k:Int))&&decide ((k:Int)*8≤140737488355328)&&decide ((k:Int)≤9223372036854775807))=true:=by
    simp only [Bool.and_eq_true,decide_eq_true_eq];omega
   rw [decide_eq_true hwd,Bool.not_true,cond_false,btt h3,toNat_c]
   have:=parseLine_l0 m k ws (by omega) hk hl hsm k 0 m (List.replicate k 0) (by omega) (by omega) (by simp)
   refine Eq.trans this ?_
   unfold plP
   rw [if_pos ⟨hl,hwd⟩]
   cases atos ((ws.drop (0+1)).take k)<;>rfl
  ·rw [decide_eq_false hwd,Bool.not_false,cond_true]
   unfold plP
   rw [if_neg (fun h=>hwd h.2)]
 ·have h1:((ws.length:Int) != ((k+2:Nat):Int))=true:=by rw [bne_iff_ne];omega
  rw [btt h1]
  unfold plP
  rw [if_neg (fun h=>hl h.1)]
theorem plP_line (w:List UInt8) (ns:List Int) (f:ByteArray) (hw:(32:UInt8)∉w) (hf:(32:UInt8)∉ky f) (hk:numsOk ns):plP (words (ofL (lnW w ns f))) (ofL w) ns.length=some (ns,f):=by
 rw [words_nums ns w f hw hf hk]
 unfold plP
 rw [if_pos (by simp)]
 have h1:((ofL w::(ns.map (fun x=>ofL (itoa x))++[f])).drop 1).take ns.length=ns.map fun x=>ofL (itoa x):=by simp
 rw [h1,atos_itoa ns hk]
 simp
end Go.Proofs.YtomalcfghdaghaaGreatDoor
/- Plain laws of the manifest,3: its canonical text;the program's parse gives it back,and always answers. -/
set_option linter.unusedVariables false
set_option linter.unusedSimpArgs false
namespace Go.Proofs.YtomalcfghdaghaaGreatDoor
open Go Go.AM Go.Lib
theorem dz (c:Int) (k:Nat) (h0:0≤c) (h1:c<(k:Int)):(decide ((0:Int)≤c)&&decide (c<(k:Int)))=true:=by rw [decide_eq_true h0,decide_eq_true h1];rfl
def manL:List UInt8:=[109,97,110,105,102,101,115,116]
def blkL:List UInt8:=[98,108,111,99,107]
def blkNs (b:GBR):List Int:=[b.Id,b.Width,b.MinTime,b.MaxTime,b.Size]
def manNs (m:GMf):List Int:=[m.Version,m.Next,m.RawFrom]
def blkT (b:GBR):List UInt8:=lnT blkL (blkNs b) b.File
def blksT:List GBR→List UInt8
 | []=>[]
 | b::r=>blkT b++blksT r
def txt (m:GMf):List UInt8:=lnT manL (manNs m) m.Log++blksT m.Blocks
def goodF (f:ByteArray):Prop:=(32:UInt8)∉ky f∧(10:UInt8)∉ky f∧f.size≤60
def goodB (b:GBR):Prop:=numsOk (blkNs b)∧goodF b.File
def goodM (m:GMf):Prop:=numsOk (manNs m)∧goodF m.Log∧m.Blocks.length≤100∧∀b∈m.Blocks,goodB b
theorem nsT_no10:∀ns,numsOk ns→(10:UInt8)∉nsT ns
 | [],_=>fun e=>by cases e
 | x::r,h=>fun e=>by
  have h1:=h x (.head _)
  rcases List.mem_cons.1 e with e | e
  ·exact absurd e (by decide)
  ·rcases List.mem_append.1 e with e | e
   ·rw [itoa_pos h1.1] at e
    have:=dd_isD _ _ e
    unfold isD at this
    exact absurd this.1 (by decide)
   ·exact nsT_no10 r (fun y hy=>h y (.tail _ hy)) e
theorem lnW_no10 {w:List UInt8} {ns:List Int} {f:ByteArray} (hw:(10:UInt8)∉w) (hk:numsOk ns) (hf:(10:UInt8)∉ky f):(10:UInt8)∉lnW w ns f:=fun e=>by
 rcases List.mem_append.1 e with e | e
 ·rcases List.mem_append.1 e with e | e
  ·exact hw e
  ·exact nsT_no10 ns hk e
 ·rcases List.mem_cons.1 e with e | e
  ·exact absurd e (by decide)
  ·exact hf e
theorem blkT_len {b:GBR} (h:goodB b):(blkT b).length≤200:=by
 have:=lnT_len blkL (blkNs b) b.File h.1
 have h2:=h.2.2.2
 simp only [blkNs,blkL,List.length_cons,List.length_nil] at this
 unfold blkT blkNs blkL
 omega
theorem blksT_len:∀bs:List GBR,(∀b∈bs,goodB b)→(blksT bs).length≤200*bs.length
 | [],_=>Nat.le_refl _
 | b::r,h=>by
  have h1:=blkT_len (h b (.head _))
  have h2:=blksT_len r (fun x hx=>h x (.tail _ hx))
  simp only [blksT,List.length_append,List.length_cons];omega
theorem txt_len {m:GMf} (h:goodM m):(txt m).length≤21000:=by
 have h1:=lnT_len manL (manNs m) m.Log h.1
 have h2:=blksT_len m.Blocks h.2.2.2
 have h3:=h.2.1.2.2
 have h4:=h.2.2.1
 simp only [manNs,manL,List.length_cons,List.length_nil] at h1
 simp only [txt,List.length_append]
 unfold manNs manL
 omega
theorem r0_true (n:Nat) (s:ByteArray) (p1 p2 p3:Int) (p4:ByteArray) (p5:List GBR) (p6:Bool) (p7 p8 p9:Int) (p10:ByteArray) (p11:List GBR) (hn:10≤n) (hs:s.size≤100000) :
  mf_parse_r0 n s p1 p2 p3 p4 p5 p6 p7 p8 p9 p10 p11 true=some (match plP (words s) (ofL manL) 3 with | some (ns,f)=>.c1 p1 p2 p3 p4 p5 p6 (ns.getD 0 0) (ns.getD 1 0) (ns.getD 2 0) f p11 false | none=>.c0 p7 p8 p9 p10 p11 p7 p8 p9 p10 p11 true):=by
 obtain ⟨m,rfl⟩:∃m,n=m+1:=⟨n-1,by omega⟩
 unfold mf_parse_r0
 simp only [cond_true]
 have e:mf_parseLine m s (⟨#[109,97,110,105,102,101,115,116]⟩:ByteArray) 3=_:=parseLine_eq m 3 s (ofL manL) (by omega) (by omega) hs
 rw [e,Option.bind_some]
 cases hp:plP (words s) (ofL manL) 3 with
 | none=>rfl
 | some x=>
  obtain ⟨ns,f⟩:=x
  have hl:=plP_len hp
  simp only [Bool.not_true,cond_false]
  rw [btt (dz 0 ns.length (by omega) (by omega)),btt (dz 1 ns.length (by omega) (by omega)),btt (dz 2 ns.length (by omega) (by omega))]
theorem r0_false (n:Nat) (s:ByteArray) (p1 p2 p3:Int) (p4:ByteArray) (p5:List GBR) (p6:Bool) (p7 p8 p9:Int) (p10:ByteArray) (p11:List GBR) (hn:10≤n) (hs:s.size≤100000) (hl2:p11.length≤100) :
  mf_parse_r0 n s p1 p2 p3 p4 p5 p6 p7 p8 p9 p10 p11 false=some (match plP (words s) (ofL blkL) 5 with
   | some (ns,f)=>bif decide (p11.length=100) then .c0 p7 p8 p9 p10 p11 p7 p8 p9 p10 p11 false else .c1 p1 p2 p3 p4 p5 p6 p7 p8 p9 p10 (p11++[⟨ns.getD 0 0,ns.getD 1 0,f,ns.getD 2 0,ns.getD 3 0,ns.getD 4 0⟩]) false
   | none=>.c0 p7 p8 p9 p10 p11 p7 p8 p9 p10 p11 false):=by
 obtain ⟨m,rfl⟩:∃m,n=m+1:=⟨n-1,by omega⟩
 unfold mf_parse_r0
 simp only [cond_false]
 have e:mf_parseLine m s (⟨#[98,108,111,99,107]⟩:ByteArray) 5=_:=parseLine_eq m 5 s (ofL blkL) (by omega) (by omega) hs
 rw [e,Option.bind_some]
 cases hp:plP (words s) (ofL blkL) 5 with
 | none=>rfl
 | some x=>
  obtain ⟨ns,f⟩:=x
  have hl:=plP_len hp
  simp only [Bool.not_true,cond_false]
  by_cases hc:p11.length=100
  ·have h1:((p11.length:Int)==100)=true:=by rw [beq_iff_eq];omega
   rw [btt h1,decide_eq_true hc,cond_true]
  ·have h1:((p11.length:Int)==100)=false:=by rw [beq_eq_false_iff_ne];omega
   rw [bff h1,decide_eq_false hc,cond_false,btt (dz 0 ns.length (by omega) (by omega)),btt (dz 1 ns.length (by omega) (by omega)),btt (dz 2 ns.length (by omega) (by omega)),btt (dz 3 ns.length (by omega) (by omega)),btt (dz 4 ns.length (by omega) (by omega)),btt (app_ok (b:=56) (by omega) (by omega))]
theorem r0_tot (n:Nat) (s:ByteArray) (p1 p2 p3:Int) (p4:ByteArray) (p5:List GBR) (p6:Bool) (p7 p8 p9:Int) (p10:ByteArray) (p11:List GBR) (b2:Bool) (hn:10≤n) (hs:s.size≤100000) (hl2:p11.length≤100) :
  ∃r,mf_parse_r0 n s p1 p2 p3 p4 p5 p6 p7 p8 p9 p10 p11 b2=some r∧∀a0 a1 a2 a3 a4 a5 a6 a7 a8 a9 a10 a11,r=.c1 a0 a1 a2 a3 a4 a5 a6 a7 a8 a9 a10 a11→a10.length≤100:=by
 cases b2 with
 | true=>
  refine ⟨_,r0_true n s p1 p2 p3 p4 p5 p6 p7 p8 p9 p10 p11 hn hs,fun a0 a1 a2 a3 a4 a5 a6 a7 a8 a9 a10 a11 h=>?_⟩
  split at h
  ·cases h;exact hl2
  ·cases h
 | false=>
  refine ⟨_,r0_false n s p1 p2 p3 p4 p5 p6 p7 p8 p9 p10 p11 hn hs hl2,fun a0 a1 a2 a3 a4 a5 a6 a7 a8 a9 a10 a11 h=>?_⟩
  split at h
  ·by_cases hc:p11.length=100
   ·rw [decide_eq_true hc] at h;cases h
   ·rw [decide_eq_false hc] at h;cases h
    simp;omega
  ·cases h
theorem lines_tot (n:Nat) (p12:ByteArray) (hn:12≤n):∀(m:Nat) (s:ByteArray) (i1 i2 i3:Int) (s2:ByteArray) (l1:List GBR) (b1:Bool) (i4 i5 i6:Int) (s3:ByteArray) (l2:List GBR) (b2:Bool),s.size<m→s.size≤100000→l2.length≤100 →
  ∃r,mf_lines_c1_l0 n p12 m s i1 i2 i3 s2 l1 b1 i4 i5 i6 s3 l2 b2=some r
 | 0,s,_,_,_,_,_,_,_,_,_,_,_,_,h,_,_=>by omega
 | m+1,s,i1,i2,i3,s2,l1,b1,i4,i5,i6,s3,l2,b2,h,hs,hl=>by
  obtain ⟨a,b,c,hc,ha,hb⟩:=cut_tot n s (by omega) (by omega)
  obtain ⟨r,hr,hr2⟩:=r0_tot n a i1 i2 i3 s2 l1 b1 i4 i5 i6 s3 l2 b2 (by omega) (by omega) hl
  unfold mf_lines_c1_l0
  rw [hc,Option.bind_some]
  simp only
  rw [hr,Option.bind_some]
  cases r with
  | c0=>exact ⟨_,rfl⟩
  | c1 a0 a1 a2 a3 a4 a5 a6 a7 a8 a9 a10 a11=>
   have:=hr2 _ _ _ _ _ _ _ _ _ _ _ _ rfl
   cases c with
   | false=>exact ⟨_,rfl⟩
   | true=>
    have hb:=hb rfl
    simp only [Bool.not_true,cond_false]
    cases sEq b bE with
    | true=>exact ⟨_,rfl⟩
    | false=>exact lines_tot n p12 hn m b a0 a1 a2 a3 a4 a5 a6 a7 a8 a9 a10 a11 (by omega) (by omega) this
theorem parse_tot (n:Nat) (s:ByteArray) (hs:s.size≤100000) (hn:s.size+20≤n):∃r,mf_parse n s=some r:=by
 obtain ⟨m,rfl⟩:∃m,n=m+3:=⟨n-3,by omega⟩
 unfold mf_parse mf_lines mf_lines_c1
 simp only [Option.bind_some]
 obtain ⟨r,hr⟩:=lines_tot (m+1) s (by omega) (m+1) s 0 0 0 bE [] false 0 0 0 bE [] true (by omega) hs (by simp)
 rw [hr,Option.bind_some]
 cases r with
 | c0=>exact ⟨_,rfl⟩
 | c1=>exact ⟨_,rfl⟩
theorem blks_ne (b:GBR) (r:List GBR):ofL (blksT (b::r))≠bE:=fun e=>by
 have h:(ofL (blksT (b::r))).size=bE.size:=by rw [e]
 rw [ofL_size] at h
 have h0:bE.size=0:=rfl
 simp only [blksT,blkT,lnT,List.length_append,List.length_cons] at h
 omega
theorem lines_can (n:Nat) (p12:ByteArray) (hn:12≤n):∀(bs:List GBR) (m:Nat) (i1 i2 i3:Int) (s2:ByteArray) (l1:List GBR) (b1:Bool) (i4 i5 i6:Int) (s3:ByteArray) (l2:List GBR),bs≠[]→bs.length≤m→(∀b∈bs,goodB b)→l2.length+bs.length≤100 →
  mf_lines_c1_l0 n p12 m (ofL (blksT bs)) i1 i2 i3 s2 l1 b1 i4 i5 i6 s3 l2 false=some (.c0 i1 i2 i3 s2 l1 b1 i4 i5 i6 s3 (l2++bs) false p12)
 | [],m,_,_,_,_,_,_,_,_,_,_,_,h,_,_,_=>absurd rfl h
 | b::r,0,_,_,_,_,_,_,_,_,_,_,_,_,h,_,_=>by simp at h
 | b::r,m+1,i1,i2,i3,s2,l1,b1,i4,i5,i6,s3,l2,_,hm,hg,hl=>by
  have hb:=hg b (.head _)
  have hlen:=blksT_len (b::r) hg
  have hl':l2.length+(r.length+1)≤100:=hl
  simp only [List.length_cons] at hlen
  have e:blksT (b::r)=lnW blkL (blkNs b) b.File++10::blksT r:=by simp [blksT,blkT,lnT]
  have h10:(10:UInt8)∉lnW blkL (blkNs b) b.File:=lnW_no10 (by decide) hb.1 hb.2.2.1
  have hcut:=cut_line n (lnW blkL (blkNs b) b.File) (blksT r) (by omega) (by rw [← e];omega) h10
  have hsz:(ofL (lnW blkL (blkNs b) b.File)).size≤100000:=by
   rw [ofL_size]
   have:(lnW blkL (blkNs b) b.File).length≤(blksT (b::r)).length:=by rw [e];simp
   omega
  have hp:plP (words (ofL (lnW blkL (blkNs b) b.File))) (ofL blkL) 5=some (blkNs b,b.File):=plP_line blkL (blkNs b) b.File (by decide) hb.2.1 hb.1
  have hr:=r0_false n _ i1 i2 i3 s2 l1 b1 i4 i5 i6 s3 l2 (by omega) hsz (by omega)
  rw [hp] at hr
  simp only at hr
  rw [decide_eq_false (show ¬l2.length=100 by omega),cond_false] at hr
  unfold mf_lines_c1_l0
  rw [e,hcut,Option.bind_some]
  simp only
  rw [hr,Option.bind_some]
  simp only [Bool.not_true,cond_false]
  cases r with
  | nil=>
   have h1:sEq (ofL (blksT [])) bE=true:=by rw [sEq_eq];exact decide_eq_true rfl
   rw [h1,cond_true];rfl
  | cons b2 r2=>
   have h1:sEq (ofL (blksT (b2::r2))) bE=false:=by rw [sEq_eq];exact decide_eq_false (blks_ne b2 r2)
   rw [h1,cond_false]
   have ih:=lines_can n p12 hn (b2::r2) m i1 i2 i3 s2 l1 b1 i4 i5 i6 s3 (l2++[b]) (by simp) (by simpa using hm) (fun x hx=>hg x (.tail _ hx)) (by simp at hl' ⊢;omega)
   refine Eq.trans ih ?_
   simp
theorem parse_can (n:Nat) (m:GMf) (hg:goodM m) (hn:200≤n):mf_parse n (ofL (txt m))=some (m,true):=by
 obtain ⟨k,rfl⟩:∃k,n=k+4:=⟨n-4,by omega⟩
 obtain ⟨hm1,hm2,hm3,hm4⟩:=hg
 have hlen:=txt_len ⟨hm1,hm2,hm3,hm4⟩
 have e:txt m=lnW manL (manNs m) m.Log++10::blksT m.Blocks:=by simp [txt,lnT]
 have h10:(10:UInt8)∉lnW manL (manNs m) m.Log:=lnW_no10 (by decide) hm1 hm2.2.1
 have hcut:=cut_line (k+2) (lnW manL (manNs m) m.Log) (blksT m.Blocks) (by omega) (by rw [← e];omega) h10
 have hsz:(ofL (lnW manL (manNs m) m.Log)).size≤100000:=by
  rw [ofL_size]
  have:(lnW manL (manNs m) m.Log).length≤(txt m).length:=by rw [e];simp
  omega
 have hp:plP (words (ofL (lnW manL (manNs m) m.Log))) (ofL manL) 3=some (manNs m,m.Log):=plP_line manL (manNs m) m.Log (by decide) hm2.1 hm1
 have hr:=r0_true (k+2) _ 0 0 0 bE [] false 0 0 0 bE [] (by omega) hsz
 rw [hp] at hr
 unfold mf_parse mf_lines mf_lines_c1
 simp only [Option.bind_some]
 unfold mf_lines_c1_l0
 generalize hP:ofL (txt m)=P12
 rw [← hP]
 conv=>lhs;rw [e]
 rw [hcut,Option.bind_some]
 simp only
 rw [hr,Option.bind_some]
 simp only [Bool.not_true,cond_false]
 cases hb:m.Blocks with
 | nil=>
  have h1:sEq (ofL (blksT [])) bE=true:=by rw [sEq_eq];exact decide_eq_true rfl
  rw [h1,cond_true]
  cases m;cases hb;rfl
 | cons b2 r2=>
  have h1:sEq (ofL (blksT (b2::r2))) bE=false:=by rw [sEq_eq];exact decide_eq_false (blks_ne b2 r2)
  rw [h1,cond_false]
  rw [hb] at hm3 hm4
  have ih:=lines_can (k+2) (ofL (lnW manL (manNs m) m.Log++10::blksT (b2::r2))) (by omega) (b2::r2) (k+1) 0 0 0 bE [] false m.Version m.Next m.RawFrom m.Log [] (by simp) (by omega) hm4 (by simpa using hm3)
  refine (congrArg (fun z=>Option.bind z _) ih).trans ?_
  cases m;cases hb;rfl
end Go.Proofs.YtomalcfghdaghaaGreatDoor
/- Plain laws of the manifest,4: the check,the program's and the reference's. -/
set_option linter.unusedVariables false
set_option linter.unusedSimpArgs false
namespace Go.Proofs.YtomalcfghdaghaaGreatDoor
open Go Go.AM Go.Lib
instance memDec (x:ByteArray) (l:List ByteArray):Decidable (x∈l):=@List.instDecidableMemOfLawfulBEq _ instBEqOfDecidableEq _ x l
theorem bsome {α:Type} {c:Prop} [Decidable c] {a y:α} {x:Option α} (h:x=some y):(bif decide c then some a else x)=some (if c then a else y):=by
 by_cases hc:c
 ·rw [decide_eq_true hc,if_pos hc];rfl
 ·rw [decide_eq_false hc,if_neg hc];exact h
def rc (next prev:Int) (b:GBR):Int:=
 if b.Id<1 then 2 else if b.Id≥next then 2 else if b.Id≤prev then 9 else if b.Width<0 then 2 else if b.Width>1099511627776 then 2 else if b.MinTime<1 then 2 else if b.MinTime>1099511627776 then 2 else
 if b.MaxTime<b.MinTime then 2 else if b.MaxTime>1099511627776 then 2 else if b.Size<0 then 2 else if b.Size>1048576 then 2 else if nmOk b.File=true then 0 else 5
theorem checkRef_eq (n:Nat) (b:GBR) (next prev:Int) (hn:70≤n):mf_checkRef n b next prev=some (rc next prev b):=by
 obtain ⟨m,rfl⟩:∃m,n=m+1:=⟨n-1,by omega⟩
 unfold mf_checkRef rc
 refine bsome (bsome (bsome (bsome (bsome (bsome (bsome (bsome (bsome (bsome (bsome ?_))))))))))
 rw [misName_eq m b.File (by omega),Option.bind_some]
 cases nmOk b.File<;>rfl
def chkL (next:Int):Int→List ByteArray→List GBR→Int
 | _,_,[]=>0
 | prev,seen,b::r=>if rc next prev b≠0 then rc next prev b else if b.File∈seen then 6 else chkL next b.Id (seen++[b.File]) r
def chk (m:GMf):Int:=
 if m.Version<0 then 2 else if m.Version>1152921504606846976 then 2 else if m.Next<1 then 2 else if m.Next>1152921504606846976 then 2 else if m.RawFrom<0 then 2 else if m.RawFrom>1099511627776 then 2 else
 if nmOk m.Log=false then 5 else if m.Blocks.length>100 then 4 else chkL m.Next 0 [m.Log] m.Blocks
theorem lk_putL (f g:ByteArray) (v:Bool):∀l:List (ByteArray×Bool),lk f (putL g v l)=bif decide (f=g) then some v else lk f l
 | []=>by simp only [putL,lk,beqS]
 | (a,b)::l=>by
  have ih:=lk_putL f g v l
  simp only [putL,beqS]
  by_cases h:g=a
  ·subst h
   rw [decide_eq_true rfl,cond_true]
   simp only [lk,beqS]
   cases decide (f=g)<;>rfl
  ·rw [decide_eq_false h,cond_false]
   simp only [lk,beqS]
   rw [ih]
   by_cases h1:f=a
   ·have h2:¬f=g:=fun e=>h (e▸h1)
    rw [decide_eq_true h1,decide_eq_false h2];rfl
   ·rw [decide_eq_false h1];rfl
theorem getD_dropB {l:List GBR} {i:Nat} (h:i<l.length):l.drop i=l.getD i dGBR::l.drop (i+1):=by
 rw [List.drop_eq_getElem_cons h,List.getD_eq_getElem?_getD,List.getElem?_eq_getElem h];rfl
theorem mcheck_l0 (n:Nat) (m:GMf) (hn:70≤n) (hl:m.Blocks.length≤100):∀(k i f:Nat) (prev:Int) (seen:List ByteArray) (l1:List (ByteArray×Bool)),i+k=m.Blocks.length→k<f→(∀x,(lk x l1).getD false=decide (x∈seen)) →
  mf_Check_l0 n m f prev (m.Blocks.length:Int) (i:Int) l1=some (chkL m.Next prev seen (m.Blocks.drop i))
 | k,i,0,prev,seen,l1,_,h,_=>by omega
 | 0,i,f+1,prev,seen,l1,h,_,hs=>by
  have h1:¬((i:Int)<(m.Blocks.length:Int)):=by omega
  have hd:m.Blocks.drop i=[]:=List.drop_eq_nil_of_le (by omega)
  unfold mf_Check_l0
  rw [bzn h1,hd];rfl
 | k+1,i,f+1,prev,seen,l1,h,h1,hs=>by
  have hx:i<m.Blocks.length:=by omega
  have h2:((i:Int)<(m.Blocks.length:Int)):=by omega
  unfold mf_Check_l0
  rw [bz h2,dec_in i _ hx,cond_true,toNat_c,checkRef_eq n _ _ _ hn,Option.bind_some,getD_dropB hx,chkL]
  generalize m.Blocks.getD i dGBR=b
  by_cases hr:rc m.Next prev b=0
  ·have hb:(rc m.Next prev b != 0)=false:=by rw [hr];rfl
   rw [if_neg (show ¬rc m.Next prev b≠0 from fun e=>e hr),hb,cond_false,hs]
   by_cases hm:b.File∈seen
   ·rw [decide_eq_true hm,if_pos hm];rfl
   ·rw [decide_eq_false hm,if_neg hm,cond_false,wr1 i (by omega)]
    refine mcheck_l0 n m hn hl k (i+1) f b.Id (seen++[b.File]) _ (by omega) (by omega) (fun x=>?_)
    rw [lk_putL]
    by_cases hxf:x=b.File
    ·subst hxf
     simp
    ·rw [decide_eq_false hxf,cond_false,hs]
     rw [Bool.eq_iff_iff,decide_eq_true_eq,decide_eq_true_eq]
     simp [hxf]
  ·have hb:(rc m.Next prev b != 0)=true:=by rw [bne_iff_ne];exact hr
   rw [if_pos hr,hb,cond_true]
theorem mcheck_eq (n:Nat) (m:GMf) (hn:300≤n):mf_Check n m=some (chk m):=by
 obtain ⟨k,rfl⟩:∃k,n=k+1:=⟨n-1,by omega⟩
 unfold mf_Check chk
 refine bsome (bsome (bsome (bsome (bsome (bsome ?_)))))
 rw [misName_eq k m.Log (by omega),Option.bind_some]
 cases nmOk m.Log with
 | false=>rfl
 | true=>
  rw [Bool.not_true,cond_false,if_neg (by simp)]
  by_cases hl:m.Blocks.length>100
  ·rw [if_pos hl,bz (show (m.Blocks.length:Int)>100 by omega)]
  ·rw [if_neg hl,bzn (show ¬(m.Blocks.length:Int)>100 by omega)]
   refine mcheck_l0 k m (by omega) (by omega) m.Blocks.length 0 k 0 [m.Log] _ (by omega) (by omega) (fun x=>?_)
   rw [lk_putL]
   by_cases h:x=m.Log
   ·subst h;simp
   ·rw [decide_eq_false h];simp [lk,h]
theorem within_eq (n:Nat) (a lo hi:Int) (hn:1≤n):r24_within n a lo hi=some (decide (lo≤a)&&decide (a≤hi)):=by
 obtain ⟨m,rfl⟩:∃m,n=m+1:=⟨n-1,by omega⟩
 unfold r24_within
 simp only
 by_cases h:a≥lo
 ·rw [bz h,decide_eq_true (show lo≤a from h),Bool.true_and]
 ·rw [bzn h,decide_eq_false (show ¬lo≤a from h)];rfl
theorem wsome {lo hi a:Int} {x:Option Int} {y:Int} {c:Int} (h:x=some y):(bif (!(decide (lo≤a)&&decide (a≤hi))) then some c else x)=some (if a<lo then c else if a>hi then c else y):=by
 by_cases h1:a<lo
 ·rw [if_pos h1,decide_eq_false (show ¬lo≤a by omega)];rfl
 ·rw [if_neg h1,decide_eq_true (show lo≤a by omega),Bool.true_and]
  by_cases h2:a>hi
  ·rw [if_pos h2,decide_eq_false (show ¬a≤hi by omega)];rfl
  ·rw [if_neg h2,decide_eq_true (show a≤hi by omega)];exact h
theorem checkBlock_l0 (n i:Nat) (m:GMf) (a1 a2 a3 a4 a5:Int) (s:ByteArray) (hi:i≤m.Blocks.length) (hb:i<1000000):∀(k j f:Nat),j+k=i→k<f →
  r24_checkBlock_l0 n (i:Int) m f a1 a2 s a3 a4 a5 (j:Int)=some (if s∈((m.Blocks.take i).drop j).map (·.File) then 6 else 0)
 | k,j,0,_,h=>by omega
 | 0,j,f+1,h,_=>by
  have h1:¬((j:Int)<(i:Int)):=by omega
  have hd:(m.Blocks.take i).drop j=[]:=List.drop_eq_nil_of_le (by rw [List.length_take];omega)
  unfold r24_checkBlock_l0
  rw [bzn h1,hd];rfl
 | k+1,j,f+1,h,h1=>by
  have hx:j<m.Blocks.length:=by omega
  have h2:((j:Int)<(i:Int)):=by omega
  have ih:=checkBlock_l0 n i m a1 a2 a3 a4 a5 s hi hb k (j+1) f (by omega) (by omega)
  have hg:(m.Blocks.take i).getD j dGBR=m.Blocks.getD j dGBR:=by
   rw [List.getD_eq_getElem?_getD,List.getD_eq_getElem?_getD,List.getElem?_take_of_lt (by omega)]
  have hd:=getD_dropB (l:=m.Blocks.take i) (i:=j) (by rw [List.length_take];omega)
  unfold r24_checkBlock_l0
  rw [bz h2,dec_in j _ hx,cond_true,toNat_c,sEq_eq,wr1 j (by omega),ih,hd,hg,List.map_cons]
  by_cases he:(m.Blocks.getD j dGBR).File=s
  ·rw [decide_eq_true he,cond_true,if_pos (by rw [he];exact .head _)]
  ·rw [decide_eq_false he,cond_false]
   by_cases hm:s∈((m.Blocks.take i).drop (j+1)).map (·.File)
   ·rw [if_pos hm,if_pos (.tail _ hm)]
   ·rw [if_neg hm,if_neg (fun e=>by
     rcases List.mem_cons.1 e with e | e
     ·exact he e.symm
     ·exact hm e)]
def prevId (m:GMf) (i:Nat):Int:=if i=0 then 0 else (m.Blocks.getD (i-1) dGBR).Id
def blockR (m:GMf) (i:Nat):Int:=
 if rc m.Next (prevId m i) (m.Blocks.getD i dGBR)≠0 then rc m.Next (prevId m i) (m.Blocks.getD i dGBR) else if (m.Blocks.getD i dGBR).File∈m.Log::(m.Blocks.take i).map (·.File) then 6 else 0
theorem rest_eq (n:Nat) (m:GMf) (i:Nat) (b:GBR) (hb:m.Blocks.getD i dGBR=b) (hi:i<m.Blocks.length) (hl:m.Blocks.length≤100) (hn:500≤n) (hf:b.File.size+400≤n) (hfs:b.File.size≤9223372036854775807) (w:Int) :
  ((r24_name n b.File).bind fun r6=>(bif (!r6) then (some 5) else (bif (sEq b.File m.Log) then (some 6) else (r24_checkBlock_l0 n (i:Int) m n b.Id b.Width b.File b.MinTime b.MaxTime b.Size 0)))) =
   some (if (if nmOk b.File=true then (0:Int) else 5)≠0 then (if nmOk b.File=true then (0:Int) else 5) else if b.File∈m.Log::(m.Blocks.take i).map (·.File) then 6 else 0):=by
 rw [rname_eq n b.File (by omega) hfs,Option.bind_some]
 have hc:r24_checkBlock_l0 n (i:Int) m n b.Id b.Width b.File b.MinTime b.MaxTime b.Size 0=_:=checkBlock_l0 n i m b.Id b.Width b.MinTime b.MaxTime b.Size b.File (by omega) (by omega) i 0 n (by omega) (by omega)
 rw [hc]
 cases nmOk b.File with
 | false=>rfl
 | true=>
  rw [Bool.not_true,cond_false,sEq_eq,List.drop_zero]
  by_cases h1:b.File=m.Log
  ·rw [decide_eq_true h1,cond_true,if_neg (show ¬(if true=true then (0:Int) else 5)≠0 by decide),if_pos (by rw [h1];exact .head _)]
  ·rw [decide_eq_false h1,cond_false,if_neg (show ¬(if true=true then (0:Int) else 5)≠0 by decide)]
   by_cases hm:b.File∈(m.Blocks.take i).map (·.File)
   ·rw [if_pos hm,if_pos (.tail _ hm)]
   ·rw [if_neg hm,if_neg (fun e=>by
     rcases List.mem_cons.1 e with e | e
     ·exact h1 e
     ·exact hm e)]
theorem if_push {c:Prop} [Decidable c] {k x y z:Int} (hk:k≠0) (h:y=if x≠0 then x else z):(if c then k else y)=if (if c then k else x)≠0 then (if c then k else x) else z:=by
 by_cases hc:c
 ·rw [if_pos hc,if_pos hc,if_pos hk]
 ·rw [if_neg hc,if_neg hc];exact h
theorem checkBlock_eq (n:Nat) (m:GMf) (i:Nat) (hi:i<m.Blocks.length) (hl:m.Blocks.length≤100) (hnx:1≤m.Next∧m.Next≤1152921504606846976) (hn:501≤n) (hf:∀b∈m.Blocks,b.File.size+401≤n∧b.File.size≤9223372036854775807) :
  r24_checkBlock n m (i:Int)=some (blockR m i):=by
 obtain ⟨k,rfl⟩:∃k,n=k+1:=⟨n-1,by omega⟩
 have hmem:m.Blocks.getD i dGBR∈m.Blocks:=by rw [List.getD_eq_getElem?_getD,List.getElem?_eq_getElem hi];exact List.getElem_mem hi
 have hfi:=hf _ hmem
 have hw:IntKind.wrap .i64 (m.Next-1)=m.Next-1:=wr _ (by omega) (by omega)
 have hrest:=rest_eq k m i _ rfl hi hl (by omega) (by omega) hfi.2 0
 unfold r24_checkBlock
 simp only
 rw [dec_in i _ hi,cond_true,toNat_c,hw]
 simp only [within_eq k _ _ _ (show 1≤k by omega),Option.bind_some]
 have hid:∀{x:Option Int} {y:Int},x=some y→∀a:Int,(bif (!(decide (1≤a)&&decide (a≤m.Next-1))) then some (2:Int) else x)=some (if a<1 then 2 else if a≥m.Next then 2 else y):=by
  intro x y h a
  rw [wsome h]
  by_cases h1:a<1
  ·rw [if_pos h1,if_pos h1]
  ·rw [if_neg h1,if_neg h1]
   by_cases h2:a≥m.Next
   ·rw [if_pos h2,if_pos (by omega)]
   ·rw [if_neg h2,if_neg (by omega)]
 have fin:∀prev:Int,(if (m.Blocks.getD i dGBR).Id<1 then 2 else if (m.Blocks.getD i dGBR).Id≥m.Next then 2 else if (m.Blocks.getD i dGBR).Id≤prev then 9 else if (m.Blocks.getD i dGBR).Width<0 then 2 else if (m.Blocks.getD i dGBR).Width>1099511627776 then 2 else if (m.Blocks.getD i dGBR).MinTime<1 then 2 else if (m.Blocks.getD i dGBR).MinTime>1099511627776 then 2 else if (m.Blocks.getD i dGBR).MaxTime<(m.Blocks.getD i dGBR).MinTime then 2 else if (m.Blocks.getD i dGBR).MaxTime>1099511627776 then 2 else if (m.Blocks.getD i dGBR).Size<0 then 2 else if (m.Blocks.getD i dGBR).Size>1048576 then 2 else
   (if (if nmOk (m.Blocks.getD i dGBR).File=true then (0:Int) else 5)≠0 then (if nmOk (m.Blocks.getD i dGBR).File=true then (0:Int) else 5) else if (m.Blocks.getD i dGBR).File∈m.Log::(m.Blocks.take i).map (·.File) then 6 else 0)) =
   if rc m.Next prev (m.Blocks.getD i dGBR)≠0 then rc m.Next prev (m.Blocks.getD i dGBR) else if (m.Blocks.getD i dGBR).File∈m.Log::(m.Blocks.take i).map (·.File) then 6 else 0:=fun prev=>by
  unfold rc
  exact if_push (by decide) (if_push (by decide) (if_push (by decide) (if_push (by decide) (if_push (by decide) (if_push (by decide) (if_push (by decide) (if_push (by decide) (if_push (by decide) (if_push (by decide) (if_push (by decide) rfl))))))))))
 unfold blockR
 rw [← fin (prevId m i)]
 by_cases h0:i=0
 ·subst h0
  have hp:prevId m 0=0:=rfl
  rw [hp]
  have hgt:¬(((0:Nat):Int)>0):=by omega
  rw [bzn hgt]
  refine (hid (wsome (wsome (wsome (wsome hrest)))) _).trans ?_
  congr 1
  by_cases h1:(m.Blocks.getD 0 dGBR).Id<1
  ·rw [if_pos h1,if_pos h1]
  ·rw [if_neg h1,if_neg h1]
   rw [if_neg (show ¬(m.Blocks.getD 0 dGBR).Id≤0 by omega)]
 ·have hp:prevId m i=(m.Blocks.getD (i-1) dGBR).Id:=if_neg h0
  rw [hp]
  have hgt:((i:Int)>0):=by omega
  have hw1:IntKind.wrap .i64 ((i:Int)-1)=((i-1:Nat):Int):=by rw [wr _ (by omega) (by omega)];omega
  rw [bz hgt,hw1,dec_in (i-1) _ (by omega),cond_true,toNat_c]
  exact hid (bsome (wsome (wsome (wsome (wsome hrest))))) _
theorem rcheck_l0 (n:Nat) (m:GMf) (hl:m.Blocks.length≤100) (hnx:1≤m.Next∧m.Next≤1152921504606846976) (hn:501≤n) (hf:∀b∈m.Blocks,b.File.size+401≤n∧b.File.size≤9223372036854775807):∀(k i f:Nat),i+k=m.Blocks.length→k<f →
  r24_Check_l0 n m f (i:Int)=some (chkL m.Next (prevId m i) (m.Log::(m.Blocks.take i).map (·.File)) (m.Blocks.drop i))
 | k,i,0,_,h=>by omega
 | 0,i,f+1,h,_=>by
  have h1:¬((i:Int)<(m.Blocks.length:Int)):=by omega
  have hd:m.Blocks.drop i=[]:=List.drop_eq_nil_of_le (by omega)
  unfold r24_Check_l0
  rw [bzn h1,hd];rfl
 | k+1,i,f+1,h,h1=>by
  have hx:i<m.Blocks.length:=by omega
  have h2:((i:Int)<(m.Blocks.length:Int)):=by omega
  have ih:=rcheck_l0 n m hl hnx hn hf k (i+1) f (by omega) (by omega)
  unfold r24_Check_l0
  rw [bz h2,checkBlock_eq n m i hx hl hnx hn hf,Option.bind_some,wr1 i (by omega),ih,getD_dropB hx,chkL]
  have ht:m.Log::(m.Blocks.take i).map (·.File)++[(m.Blocks.getD i dGBR).File]=m.Log::(m.Blocks.take (i+1)).map (·.File):=by
   rw [List.take_add_one,List.getD_eq_getElem?_getD,List.getElem?_eq_getElem hx]
   simp only [Option.toList_some,Option.getD_some,List.map_append,List.map_cons,List.map_nil,List.cons_append]
  have hp:prevId m (i+1)=(m.Blocks.getD i dGBR).Id:=by unfold prevId;rw [if_neg (by omega),Nat.add_sub_cancel]
  rw [ht,hp]
  unfold blockR
  generalize rc m.Next (prevId m i) (m.Blocks.getD i dGBR)=z
  by_cases hz:z=0
  ·rw [if_neg (show ¬z≠0 from fun e=>e hz),if_neg (show ¬z≠0 from fun e=>e hz)]
   by_cases hm:(m.Blocks.getD i dGBR).File∈m.Log::(m.Blocks.take i).map (·.File)
   ·rw [if_pos hm,if_pos hm];rfl
   ·rw [if_neg hm,if_neg hm];rfl
  ·rw [if_pos (show z≠0 from hz),if_pos (show z≠0 from hz)]
   have:(z != 0)=true:=by rw [bne_iff_ne];exact hz
   rw [this,cond_true]
theorem rcheck_eq (n:Nat) (m:GMf) (hn:600≤n) (hlg:m.Log.size+500≤n∧m.Log.size≤9223372036854775807) (hf:∀b∈m.Blocks,b.File.size+500≤n∧b.File.size≤9223372036854775807):r24_Check n m=some (chk m):=by
 obtain ⟨k,rfl⟩:∃k,n=k+1:=⟨n-1,by omega⟩
 unfold r24_Check chk
 simp only [within_eq k _ _ _ (show 1≤k by omega),Option.bind_some]
 by_cases h3:m.Next<1
 ·refine wsome ?_
  rw [decide_eq_false (show ¬1≤m.Next by omega),if_pos h3];rfl
 ·by_cases h4:m.Next>1152921504606846976
  ·refine wsome ?_
   rw [decide_eq_false (show ¬m.Next≤1152921504606846976 by omega),if_neg h3,if_pos h4,Bool.and_false];rfl
  ·refine wsome (wsome (wsome ?_))
   rw [rname_eq k m.Log (by omega) hlg.2,Option.bind_some]
   cases nmOk m.Log with
   | false=>rfl
   | true=>
    rw [Bool.not_true,cond_false,if_neg (by simp)]
    by_cases hl:m.Blocks.length>100
    ·rw [if_pos hl,bz (show (m.Blocks.length:Int)>100 by omega)]
    ·rw [if_neg hl,bzn (show ¬(m.Blocks.length:Int)>100 by omega)]
     exact rcheck_l0 k m (by omega) ⟨by omega,by omega⟩ (by omega) (fun b hb=>⟨by have:=(hf b hb).1;omega,(hf b hb).2⟩) m.Blocks.length 0 k (by omega) (by omega)
end Go.Proofs.YtomalcfghdaghaaGreatDoor
/- Plain laws of the manifest,5: what is encoded,by the program and by the reference. -/
set_option linter.unusedVariables false
set_option linter.unusedSimpArgs false
namespace Go.Proofs.YtomalcfghdaghaaGreatDoor
open Go Go.AM Go.Lib
theorem allB_all (s:ByteArray):∀(k i:Nat),i+k=s.size→allB s i k=true→∀c∈(ky s).drop i,okB (c.toNat:Int)=true
 | 0,i,h,_,c,hc=>by
  rw [List.drop_eq_nil_of_le (by rw [ky_len];omega)] at hc;cases hc
 | k+1,i,h,ha,c,hc=>by
  have hi:i<s.size:=by omega
  unfold allB at ha
  rw [Bool.and_eq_true] at ha
  rw [drop_ky s i hi] at hc
  rcases List.mem_cons.1 hc with e | e
  ·subst e
   have:=ha.1
   rw [bt_get s i hi] at this;exact this
  ·exact allB_all s k (i+1) (by omega) ha.2 c e
theorem nmOk_good {s:ByteArray} (h:nmOk s=true):goodF s:=by
 unfold nmOk isNm at h
 simp only [Bool.and_eq_true,decide_eq_true_eq] at h
 have ha:=allB_all s s.size 0 (by omega) h.1.1.2
 rw [List.drop_zero] at ha
 refine ⟨fun e=>?_,fun e=>?_,h.1.1.1.2⟩
 ·exact absurd (ha _ e) (by decide)
 ·exact absurd (ha _ e) (by decide)
theorem if_zero {c:Prop} [Decidable c] {a x:Int} (ha:a≠0) (h:(if c then a else x)=0):¬c∧x=0:=by
 by_cases hc:c
 ·rw [if_pos hc] at h;exact absurd h ha
 ·rw [if_neg hc] at h;exact ⟨hc,h⟩
theorem rc_good {next prev:Int} {b:GBR} (hx:next≤1152921504606846976) (h:rc next prev b=0):goodB b:=by
 unfold rc at h
 obtain ⟨h1,h⟩:=if_zero (by decide) h
 obtain ⟨h2,h⟩:=if_zero (by decide) h
 obtain ⟨h3,h⟩:=if_zero (by decide) h
 obtain ⟨h4,h⟩:=if_zero (by decide) h
 obtain ⟨h5,h⟩:=if_zero (by decide) h
 obtain ⟨h6,h⟩:=if_zero (by decide) h
 obtain ⟨h7,h⟩:=if_zero (by decide) h
 obtain ⟨h8,h⟩:=if_zero (by decide) h
 obtain ⟨h9,h⟩:=if_zero (by decide) h
 obtain ⟨h10,h⟩:=if_zero (by decide) h
 obtain ⟨h11,h⟩:=if_zero (by decide) h
 have hn:nmOk b.File=true:=by
  by_cases hc:nmOk b.File=true
  ·exact hc
  ·rw [if_neg hc] at h;exact absurd h (by decide)
 refine ⟨fun x hx=>?_,nmOk_good hn⟩
 simp only [blkNs,List.mem_cons,List.not_mem_nil,or_false] at hx
 rcases hx with rfl | rfl | rfl | rfl | rfl<;>constructor<;>omega
theorem chkL_good {next:Int} (hx:next≤1152921504606846976):∀(bs:List GBR) (prev:Int) (seen:List ByteArray),chkL next prev seen bs=0→∀b∈bs,goodB b
 | [],_,_,_,b,hb=>by cases hb
 | a::r,prev,seen,h,b,hb=>by
  unfold chkL at h
  have hr:rc next prev a=0:=by
   by_cases hc:rc next prev a=0
   ·exact hc
   ·rw [if_pos hc] at h;exact h
  rw [if_neg (show ¬rc next prev a≠0 from fun e=>e hr)] at h
  obtain ⟨_,h⟩:=if_zero (by decide) h
  rcases List.mem_cons.1 hb with e | e
  ·subst e;exact rc_good hx hr
  ·exact chkL_good hx r _ _ h b e
theorem chk_good {m:GMf} (h:chk m=0):goodM m:=by
 unfold chk at h
 obtain ⟨h1,h⟩:=if_zero (by decide) h
 obtain ⟨h2,h⟩:=if_zero (by decide) h
 obtain ⟨h3,h⟩:=if_zero (by decide) h
 obtain ⟨h4,h⟩:=if_zero (by decide) h
 obtain ⟨h5,h⟩:=if_zero (by decide) h
 obtain ⟨h6,h⟩:=if_zero (by decide) h
 obtain ⟨h7,h⟩:=if_zero (by decide) h
 obtain ⟨h8,h⟩:=if_zero (by decide) h
 have hn:nmOk m.Log=true:=by cases hc:nmOk m.Log with
  | true=>rfl
  | false=>exact absurd hc h7
 refine ⟨fun x hx=>?_,nmOk_good hn,by omega,chkL_good (by omega) _ _ _ h⟩
 simp only [manNs,List.mem_cons,List.not_mem_nil,or_false] at hx
 rcases hx with rfl | rfl | rfl<;>constructor<;>omega
theorem encode_l0 (n:Nat) (m:GMf) (hn:20≤n) (hl:m.Blocks.length≤100) (hg:∀b∈m.Blocks,goodB b):∀(k i f:Nat) (s:ByteArray),i+k=m.Blocks.length→k<f→s.size+200*k≤100000 →
  mf_Encode_l0 n m f (m.Blocks.length:Int) (i:Int) s=mf_Encode_s1 n (s++ofL (blksT (m.Blocks.drop i)))
 | k,i,0,s,_,h,_=>by omega
 | 0,i,f+1,s,h,_,_=>by
  have h1:¬((i:Int)<(m.Blocks.length:Int)):=by omega
  have hd:m.Blocks.drop i=[]:=List.drop_eq_nil_of_le (by omega)
  have he:s++ofL (blksT [])=s:=ky_inj (by rw [ky_app,ky_ofL];simp [blksT])
  unfold mf_Encode_l0
  rw [bzn h1,hd,he]
 | k+1,i,f+1,s,h,h1,hs=>by
  have hx:i<m.Blocks.length:=by omega
  have h2:((i:Int)<(m.Blocks.length:Int)):=by omega
  have hgb:goodB (m.Blocks.getD i dGBR):=hg _ (by rw [List.getD_eq_getElem?_getD,List.getElem?_eq_getElem hx];exact List.getElem_mem hx)
  unfold mf_Encode_l0
  rw [bz h2,dec_in i _ hx,cond_true,toNat_c,getD_dropB hx]
  generalize m.Blocks.getD i dGBR=b at hgb
  have hlen:=blkT_len hgb
  have hfs:=hgb.2.2.2
  have e:mf_writeLine n (⟨#[98,108,111,99,107]⟩:ByteArray) [b.Id,b.Width,b.MinTime,b.MaxTime,b.Size] b.File s=some (s++ofL (blkT b)):=writeLine_eq n blkL (blkNs b) b.File s (by have:(blkNs b).length=5:=rfl;omega) hgb.1 (by have:(blkNs b).length=5:=rfl;omega) (by omega) (by have:blkL.length=5:=rfl;omega)
  rw [e,Option.bind_some,wr1 i (by omega),encode_l0 n m hn hl hg k (i+1) f _ (by omega) (by omega) (by rw [ByteArray.size_append,ofL_size];omega)]
  exact congrArg (mf_Encode_s1 n) (ky_inj (by simp only [ky_app,ky_ofL,blksT,List.append_assoc]))
def encd (m:GMf):ByteArray×Int:=if chk m≠0 then (bE,1) else (sealed (ofL (txt m)),0)
theorem man_len {m:GMf} (hg:goodM m):(lnT manL (manNs m) m.Log).length≤200:=by
 have hl1:=lnT_len manL (manNs m) m.Log hg.1
 have hls:=hg.2.1.2.2
 have h1:manL.length=8:=rfl
 have h2:(manNs m).length=3:=rfl
 omega
theorem man_write (k:Nat) (m:GMf) (hg:goodM m) (hn:30≤k):mf_writeLine k (⟨#[109,97,110,105,102,101,115,116]⟩:ByteArray) [m.Version,m.Next,m.RawFrom] m.Log bE=some (ofL (lnT manL (manNs m) m.Log)):=by
 have hls:=hg.2.1.2.2
 have h1:manL.length=8:=rfl
 have h2:(manNs m).length=3:=rfl
 have h3:bE.size=0:=rfl
 have e:=writeLine_eq k manL (manNs m) m.Log bE (by omega) hg.1 (by omega) (by omega) (by omega)
 have hbe:∀l:List UInt8,bE++ofL l=ofL l:=fun l=>ky_inj (by rw [ky_app];exact List.nil_append _)
 rw [hbe] at e
 exact e
theorem encode_s1 (k:Nat) (m:GMf) (hg:goodM m) (hn:29999≤k):mf_Encode_s1 k (ofL (txt m))=some (sealed (ofL (txt m)),0):=by
 have hlen:=txt_len hg
 have hsz:(ofL (txt m)).size=(txt m).length:=ofL_size _
 have h1:1≤(ofL (txt m)).size:=by
  rw [hsz];simp only [txt,lnT,List.length_append,List.length_cons];omega
 unfold mf_Encode_s1
 have es:bString k (ofL (txt m))=some (ofL (txt m)):=by
  obtain ⟨j,rfl⟩:∃j,k=j+1:=⟨k-1,by omega⟩
  unfold bString;simp only [decide_eq_true h1,cond_true]
 rw [es,Option.bind_some,seal_eq k _ (by omega) (by omega),Option.bind_some]
theorem encode_eq (n:Nat) (m:GMf) (hn:30000≤n):mf_Encode n m=some (encd m):=by
 obtain ⟨k,rfl⟩:∃k,n=k+1:=⟨n-1,by omega⟩
 unfold mf_Encode encd
 simp only
 rw [mcheck_eq k m (by omega),Option.bind_some]
 by_cases hc:chk m=0
 ·have hb:(chk m != 0)=false:=by rw [hc];rfl
  have hg:=chk_good hc
  have hbl:=hg.2.2.1
  have hml:=man_len hg
  rw [hb,cond_false,if_neg (show ¬chk m≠0 from fun h=>h hc),man_write k m hg (by omega),Option.bind_some]
  have e2:=encode_l0 k m (by omega) hbl hg.2.2.2 m.Blocks.length 0 k (ofL (lnT manL (manNs m) m.Log)) (by omega) (by omega) (by rw [ofL_size];omega)
  rw [Int.natCast_zero] at e2
  rw [e2,List.drop_zero,ofL_app]
  exact encode_s1 k m hg (by omega)
 ·have hb:(chk m != 0)=true:=by rw [bne_iff_ne];exact hc
  rw [hb,cond_true,if_pos (show chk m≠0 from hc)]
theorem rlines_l0 (n:Nat) (m:GMf) (hn:1≤n) (hl:m.Blocks.length≤100) (hg:∀b∈m.Blocks,goodB b):∀(k i f:Nat) (s:ByteArray),i+k=m.Blocks.length→k<f→s.size+200*k≤100000 →
  r24_lines_l0 n m f s (i:Int)=some (s++ofL (blksT (m.Blocks.drop i)))
 | k,i,0,s,_,h,_=>by omega
 | 0,i,f+1,s,h,_,_=>by
  have h1:¬((i:Int)<(m.Blocks.length:Int)):=by omega
  have hd:m.Blocks.drop i=[]:=List.drop_eq_nil_of_le (by omega)
  have he:s++ofL (blksT [])=s:=ky_inj (by rw [ky_app,ky_ofL];simp [blksT])
  unfold r24_lines_l0
  rw [bzn h1,hd,he]
 | k+1,i,f+1,s,h,h1,hs=>by
  have hx:i<m.Blocks.length:=by omega
  have h2:((i:Int)<(m.Blocks.length:Int)):=by omega
  have hgb:goodB (m.Blocks.getD i dGBR):=hg _ (by rw [List.getD_eq_getElem?_getD,List.getElem?_eq_getElem hx];exact List.getElem_mem hx)
  have ih:=fun s' hs'=>rlines_l0 n m hn hl hg k (i+1) f s' (by omega) (by omega) hs'
  unfold r24_lines_l0
  rw [bz h2,dec_in i _ hx,cond_true,toNat_c,getD_dropB hx]
  generalize m.Blocks.getD i dGBR=b at hgb
  have hlen:=blkT_len hgb
  have hfs:=hgb.2.2.2
  have sz:∀x∈blkNs b,(ofL (itoa x)).size≤20:=fun x hx=>by rw [ofL_size];exact itoa_len (hgb.1 x hx).1 (hgb.1 x hx).2
  have x1:=itoaS_eq n b.Id hn (hgb.1 _ (by simp [blkNs]))
  have x2:=itoaS_eq n b.Width hn (hgb.1 _ (by simp [blkNs]))
  have x3:=itoaS_eq n b.MinTime hn (hgb.1 _ (by simp [blkNs]))
  have x4:=itoaS_eq n b.MaxTime hn (hgb.1 _ (by simp [blkNs]))
  have x5:=itoaS_eq n b.Size hn (hgb.1 _ (by simp [blkNs]))
  have y1:=sz b.Id (by simp [blkNs])
  have y2:=sz b.Width (by simp [blkNs])
  have y3:=sz b.MinTime (by simp [blkNs])
  have y4:=sz b.MaxTime (by simp [blkNs])
  have y5:=sz b.Size (by simp [blkNs])
  have z1:(⟨#[32]⟩:ByteArray).size=1:=rfl
  have z2:(⟨#[98,108,111,99,107,32]⟩:ByteArray).size=6:=rfl
  refine (bz (by omega) _ _).trans ?_
  rw [x1,Option.bind_some]
  refine (bz (by simp only [ByteArray.size_append,z1,z2];omega) _ _).trans ?_
  refine (bz (by simp only [ByteArray.size_append,z1,z2];omega) _ _).trans ?_
  rw [x2,Option.bind_some]
  refine (bz (by simp only [ByteArray.size_append,z1,z2];omega) _ _).trans ?_
  refine (bz (by simp only [ByteArray.size_append,z1,z2];omega) _ _).trans ?_
  rw [x3,Option.bind_some]
  refine (bz (by simp only [ByteArray.size_append,z1,z2];omega) _ _).trans ?_
  refine (bz (by simp only [ByteArray.size_append,z1,z2];omega) _ _).trans ?_
  rw [x4,Option.bind_some]
  refine (bz (by simp only [ByteArray.size_append,z1,z2];omega) _ _).trans ?_
  refine (bz (by simp only [ByteArray.size_append,z1,z2];omega) _ _).trans ?_
  rw [x5,Option.bind_some]
  refine (bz (by simp only [ByteArray.size_append,z1,z2];omega) _ _).trans ?_
  refine (bz (by simp only [ByteArray.size_append,z1,z2];omega) _ _).trans ?_
  refine (bz (by simp only [ByteArray.size_append,z1,z2];omega) _ _).trans ?_
  refine (bz (by simp only [ByteArray.size_append,z1,z2];omega) _ _).trans ?_
  have eq:∀t:ByteArray,t=s++ofL (blkT b)→r24_lines_l0 n m f t (IntKind.wrap .i64 ((i:Int)+1))=some (s++ofL (blksT (b::m.Blocks.drop (i+1)))):=by
   intro t ht
   subst ht
   rw [wr1 i (by omega),ih _ (by rw [ByteArray.size_append,ofL_size];omega)]
   congr 1
   apply ky_inj
   simp only [ky_app,ky_ofL,blksT,List.append_assoc]
  apply eq
  apply ky_inj
  simp only [ky_app,ky_ofL,blkT,lnT,lnW,blkNs,nsT,blkL]
  simp [ky]
theorem rlines_eq (n:Nat) (m:GMf) (hg:goodM m) (hn:200≤n):r24_lines n m=some (ofL (txt m)):=by
 obtain ⟨k,rfl⟩:∃k,n=k+1:=⟨n-1,by omega⟩
 have hls:=hg.2.1.2.2
 have hl1:=lnT_len manL (manNs m) m.Log hg.1
 simp only [manNs,manL,List.length_cons,List.length_nil] at hl1
 have hbl:=hg.2.2.1
 have sz:∀x∈manNs m,(ofL (itoa x)).size≤20:=fun x hx=>by rw [ofL_size];exact itoa_len (hg.1 x hx).1 (hg.1 x hx).2
 have x1:=itoaS_eq k m.Version (by omega) (hg.1 _ (by simp [manNs]))
 have x2:=itoaS_eq k m.Next (by omega) (hg.1 _ (by simp [manNs]))
 have x3:=itoaS_eq k m.RawFrom (by omega) (hg.1 _ (by simp [manNs]))
 have y1:=sz m.Version (by simp [manNs])
 have y2:=sz m.Next (by simp [manNs])
 have y3:=sz m.RawFrom (by simp [manNs])
 have z1:(⟨#[32]⟩:ByteArray).size=1:=rfl
 have z2:(⟨#[109,97,110,105,102,101,115,116,32]⟩:ByteArray).size=9:=rfl
 unfold r24_lines
 simp only
 rw [x1,Option.bind_some]
 refine (bz (by omega) _ _).trans ?_
 refine (bz (by simp only [ByteArray.size_append,z1,z2];omega) _ _).trans ?_
 rw [x2,Option.bind_some]
 refine (bz (by simp only [ByteArray.size_append,z1,z2];omega) _ _).trans ?_
 refine (bz (by simp only [ByteArray.size_append,z1,z2];omega) _ _).trans ?_
 rw [x3,Option.bind_some]
 refine (bz (by simp only [ByteArray.size_append,z1,z2];omega) _ _).trans ?_
 refine (bz (by simp only [ByteArray.size_append,z1,z2];omega) _ _).trans ?_
 refine (bz (by simp only [ByteArray.size_append,z1,z2];omega) _ _).trans ?_
 refine (bz (by simp only [ByteArray.size_append,z1,z2];omega) _ _).trans ?_
 have eq:∀t:ByteArray,t=ofL (lnT manL (manNs m) m.Log)→r24_lines_l0 k m k t 0=some (ofL (txt m)):=by
  intro t ht
  subst ht
  refine (rlines_l0 k m (by omega) hbl hg.2.2.2 m.Blocks.length 0 k _ (by omega) (by omega) (by rw [ofL_size];unfold manL manNs;omega)).trans ?_
  rw [List.drop_zero,ofL_app];rfl
 apply eq
 apply ky_inj
 simp only [ky_app,ky_ofL,lnT,lnW,manNs,nsT,manL]
 simp [ky]
theorem rencode_eq (n:Nat) (m:GMf) (hn:30000≤n) (hlg:m.Log.size+600≤n∧m.Log.size≤9223372036854775807) (hf:∀b∈m.Blocks,b.File.size+600≤n∧b.File.size≤9223372036854775807):r24_Encode n m=some (encd m):=by
 obtain ⟨k,rfl⟩:∃k,n=k+1:=⟨n-1,by omega⟩
 unfold r24_Encode encd
 simp only
 rw [rcheck_eq k m (by omega) ⟨by omega,hlg.2⟩ (fun b hb=>⟨by have:=(hf b hb).1;omega,(hf b hb).2⟩),Option.bind_some]
 by_cases hc:chk m=0
 ·have hb:(chk m != 0)=false:=by rw [hc];rfl
  have hg:=chk_good hc
  have hlen:=txt_len hg
  have hsz:(ofL (txt m)).size=(txt m).length:=ofL_size _
  rw [hb,cond_false,if_neg (show ¬chk m≠0 from fun h=>h hc),rlines_eq k m hg (by omega),Option.bind_some,rseal_eq k _ (by omega) (by omega),Option.bind_some]
 ·have hb:(chk m != 0)=true:=by rw [bne_iff_ne];exact hc
  rw [hb,cond_true,if_pos (show chk m≠0 from hc)]
end Go.Proofs.YtomalcfghdaghaaGreatDoor
/- Plain laws of the manifest,6: the reference's reading. -/
set_option linter.unusedVariables false
set_option linter.unusedSimpArgs false
namespace Go.Proofs.YtomalcfghdaghaaGreatDoor
open Go Go.AM Go.Lib
def wd:List UInt8→List ByteArray→ByteArray→List ByteArray×List UInt8×Bool
 | [],l,_=>(l,[],false)
 | x::r,l,s=>if x=32 then wd r (l++[s]) bE else if x=10 then (l++[s],r,true) else wd r l (s++ofL [x])
theorem u8_eq (x c:UInt8):((x.toNat:Int)==(c.toNat:Int))=decide (x=c):=by
 rw [Bool.eq_iff_iff,beq_iff_eq,decide_eq_true_eq]
 constructor
 ·intro h;exact UInt8.toNat_inj.1 (by omega)
 ·intro h;rw [h]
theorem ky_ext (s:ByteArray) (i j:Nat):ky (s.extract i j)=((ky s).take j).drop i:=by
 simp [ky,ByteArray.data_extract,List.extract_eq_take_drop,List.drop_take]
theorem ext_one (s:ByteArray) (i:Nat) (h:i<s.size):s.extract i (i+1)=ofL [(ky s)[i]'(by rw [ky_len];exact h)]:=by
 apply ky_inj
 rw [ky_ext,ky_ofL]
 have hl:i<(ky s).length:=by rw [ky_len];exact h
 rw [List.take_add_one,List.getElem?_eq_getElem hl,Option.toList_some,List.drop_append]
 have h1:((ky s).take i).length=i:=by rw [List.length_take];omega
 rw [h1,Nat.sub_self,List.drop_zero,List.drop_eq_nil_of_le (by omega)];rfl
theorem ext_rest (s:ByteArray) (i:Nat):s.extract i s.size=ofL ((ky s).drop i):=by
 apply ky_inj
 rw [ky_ext,ky_ofL,List.take_of_length_le (by rw [ky_len];exact Nat.le_refl _)]
theorem words_l0 (n:Nat) (S:ByteArray) (hS:S.size≤100000):∀(k i m:Nat) (l:List ByteArray) (s:ByteArray),i+k=S.size→k<m→l.length≤i→s.size≤i →
  r24_words_l0 n S m l s (i:Int)=some ((wd ((ky S).drop i) l s).1,ofL (wd ((ky S).drop i) l s).2.1,(wd ((ky S).drop i) l s).2.2)
 | k,i,0,l,s,_,h,_,_=>by omega
 | 0,i,m+1,l,s,h,_,_,_=>by
  have h1:¬((i:Int)<(S.size:Int)):=by omega
  unfold r24_words_l0
  rw [bzn h1,List.drop_eq_nil_of_le (by rw [ky_len];omega)];rfl
 | k+1,i,m+1,l,s,h,h1,hl,hs=>by
  have hx:i<S.size:=by omega
  have h2:((i:Int)<(S.size:Int)):=by omega
  have ih:=fun l' s'=>words_l0 n S hS k (i+1) m l' s' (by omega) (by omega)
  unfold r24_words_l0
  rw [bz h2,dec_in i _ hx,cond_true,toNat_c,bt_get S i hx,drop_ky S i hx]
  have e1:=ext_one S i hx
  have e2:=ext_rest S (i+1)
  have hw:=wr1 i (by omega)
  have hbt:=bt_get S i hx
  generalize (ky S)[i]'(by rw [ky_len];exact hx)=x at e1 hbt
  have c1:((x.toNat:Int)==32)=decide (x=32):=u8_eq x 32
  have c2:((x.toNat:Int)==10)=decide (x=10):=u8_eq x 10
  have g1:(true&&(decide ((l.length+1)*16≤140737488355328)&&decide (l.length+1≤9223372036854775807)))=true:=app_ok (b:=16) (by omega) (by omega)
  rw [c1,c2,g1]
  simp only [cond_true]
  rw [wd]
  by_cases h32:x=32
  ·subst h32
   rw [decide_eq_true rfl,cond_true,if_pos rfl]
   unfold r24_words_s1
   rw [dec_in i _ hx,cond_true,toNat_c,hbt]
   rw [show (((32:UInt8).toNat:Int)==10)=false from rfl,cond_false,hw]
   exact ih _ _ (by simp;omega) (by rw [show bE.size=0 from rfl];omega)
  ·rw [decide_eq_false h32,cond_false,if_neg h32]
   by_cases h10:x=10
   ·subst h10
    rw [decide_eq_true rfl,cond_true,if_pos rfl]
    unfold r24_words_s1
    rw [dec_in i _ hx,cond_true,toNat_c,hbt]
    rw [show (((10:UInt8).toNat:Int)==10)=true from rfl,cond_true,hw,dec3 (i+1) S.size S.size (by omega) (by omega),cond_true,toNat_c,e2]
   ·rw [decide_eq_false h10,cond_false,if_neg h10,hw,dec3 i (i+1) S.size (by omega) (by omega),cond_true,toNat_c,e1]
    have hsz:s.size+(ofL [x]).size≤9223372036854775807:=by rw [ofL_size];simp only [List.length_cons,List.length_nil];omega
    rw [bz hsz]
    unfold r24_words_s1
    rw [dec_in i _ hx,cond_true,toNat_c,hbt,c2,decide_eq_false h10,cond_false,hw]
    exact ih _ _ (by omega) (by rw [ByteArray.size_append,ofL_size];simp only [List.length_cons,List.length_nil];omega)
theorem rwords_eq (n:Nat) (S:ByteArray) (hS:S.size≤100000) (hn:S.size+3≤n):r24_words n S=some ((wd (ky S) [] bE).1,ofL (wd (ky S) [] bE).2.1,(wd (ky S) [] bE).2.2):=by
 obtain ⟨m,rfl⟩:∃m,n=m+1:=⟨n-1,by omega⟩
 unfold r24_words
 have:=words_l0 m S hS S.size 0 m [] bE (by omega) (by omega) (by simp) (by rw [show bE.size=0 from rfl];omega)
 rw [Int.natCast_zero,List.drop_zero] at this
 exact this
theorem wd_small (B:Nat):∀(t:List UInt8) (l:List ByteArray) (s:ByteArray),(∀w∈l,w.size≤B)→s.size+t.length≤B→(∀w∈(wd t l s).1,w.size≤B)∧(wd t l s).2.1.length≤t.length∧((wd t l s).2.2=true→(wd t l s).2.1.length<t.length)
 | [],l,s,hl,_=>⟨hl,Nat.le_refl _,fun h=>by cases h⟩
 | x::r,l,s,hl,hs=>by
  simp only [List.length_cons] at hs
  have hl2:∀w∈l++[s],w.size≤B:=fun w hw=>by
   rcases List.mem_append.1 hw with h | h
   ·exact hl w h
   ·have:=List.mem_singleton.1 h
    subst this;omega
  unfold wd
  split
  ·obtain ⟨a,b,c⟩:=wd_small B r (l++[s]) bE hl2 (by rw [show bE.size=0 from rfl];omega)
   exact ⟨a,by simp only [List.length_cons];omega,fun h=>by have:=c h;simp only [List.length_cons];omega⟩
  ·split
   ·exact ⟨hl2,by simp,fun _=>by simp⟩
   ·obtain ⟨a,b,c⟩:=wd_small B r l (s++ofL [x]) hl (by rw [ByteArray.size_append,ofL_size];simp only [List.length_cons,List.length_nil];omega)
    exact ⟨a,by simp only [List.length_cons];omega,fun h=>by have:=c h;simp only [List.length_cons];omega⟩
theorem wd_word:∀(w r:List UInt8) (l:List ByteArray) (s:ByteArray),(32:UInt8)∉w→(10:UInt8)∉w→wd (w++r) l s=wd r l (s++ofL w)
 | [],r,l,s,_,_=>by
  have:s++ofL []=s:=ky_inj (by rw [ky_app,ky_ofL];simp)
  rw [this];rfl
 | x::w,r,l,s,h1,h2=>by
  rw [List.cons_append,wd,if_neg (show ¬x=32 from fun e=>by subst e;exact h1 (.head _)),if_neg (show ¬x=10 from fun e=>by subst e;exact h2 (.head _)),wd_word w r l _ (fun e=>h1 (.tail _ e)) (fun e=>h2 (.tail _ e))]
  congr 1
  apply ky_inj
  simp only [ky_app,ky_ofL];simp
theorem bE_app (l:List UInt8):bE++ofL l=ofL l:=ky_inj (by rw [ky_app];exact List.nil_append _)
theorem wd_line:∀(ns:List Int) (w:List UInt8) (f:ByteArray) (r:List UInt8) (l:List ByteArray),(32:UInt8)∉w→(10:UInt8)∉w→(32:UInt8)∉ky f→(10:UInt8)∉ky f→numsOk ns →
  wd (lnW w ns f++10::r) l bE=(l++ofL w::(ns.map (fun x=>ofL (itoa x))++[f]),r,true)
 | [],w,f,r,l,h1,h2,h3,h4,_=>by
  have e:lnW w [] f++10::r=w++(32::(ky f++10::r)):=by simp [lnW,nsT]
  rw [e,wd_word _ _ _ _ h1 h2,bE_app,wd,if_pos rfl,wd_word _ _ _ _ h3 h4,bE_app,wd,if_neg (by decide),if_pos rfl,ofL_ky]
  simp
 | x::ns,w,f,r,l,h1,h2,h3,h4,hk=>by
  have hx:=hk x (.head _)
  have hd:∀c:UInt8,c.toNat<48→c∉itoa x:=fun c hc e=>by
   rw [itoa_pos hx.1] at e
   have:=dd_isD _ _ e
   unfold isD at this
   omega
  have e:lnW w (x::ns) f++10::r=w++(32::(lnW (itoa x) ns f++10::r)):=by simp [lnW,nsT]
  rw [e,wd_word _ _ _ _ h1 h2,bE_app,wd,if_pos rfl,wd_line ns (itoa x) f r _ (hd 32 (by decide)) (hd 10 (by decide)) h3 h4 (fun y hy=>hk y (.tail _ hy))]
  simp
def numP (s:ByteArray):Int×Bool:=match nmL 0 (ky s) with
 | some v=>((v:Int),decide (0<s.size)&&decide ((v:Int)≤1152921504606846976))
 | none=>(0,false)
theorem wrap8 (c:UInt8) (h:48≤c.toNat):IntKind.wrap .i64 (IntKind.wrap .u8 ((c.toNat:Int)-48))=((c.toNat-48:Nat):Int):=by
 have h1:=c.toNat_lt
 have:IntKind.wrap .u8 ((c.toNat:Int)-48)=((c.toNat-48:Nat):Int):=by
  simp only [IntKind.wrap,IntKind.bits,IntKind.signed,Bool.false_and,ge_iff_le]
  have:((c.toNat:Int)-48) % 2 ^ 8=((c.toNat-48:Nat):Int):=by omega
  simpa using this
 rw [this,wr _ (by omega) (by omega)]
theorem number_l0 (n:Nat) (s:ByteArray) (hs:s.size≤100000):∀(k i m acc:Nat),i+k=s.size→k<m→acc≤1152921504606846980 →
  r24_number_l0 n s m (acc:Int) (i:Int)=match nmL acc ((ky s).drop i) with | some v=>r24_number_s1 n s (v:Int) | none=>some (0,false)
 | k,i,0,acc,_,h,_=>by omega
 | 0,i,m+1,acc,h,_,_=>by
  have h1:¬((i:Int)<(s.size:Int)):=by omega
  unfold r24_number_l0
  rw [bzn h1,List.drop_eq_nil_of_le (by rw [ky_len];omega)];rfl
 | k+1,i,m+1,acc,h,h1,ha=>by
  have hx:i<s.size:=by omega
  have h2:((i:Int)<(s.size:Int)):=by omega
  unfold r24_number_l0
  rw [bz h2,dec_in i _ hx,cond_true,toNat_c,bt_get s i hx,drop_ky s i hx,nmL]
  generalize (ky s)[i]'(by rw [ky_len];exact hx)=x
  simp only [cond_true]
  by_cases h48:x.toNat<48
  ·rw [bz (show (x.toNat:Int)<48 by omega),if_pos (.inl h48)]
  ·rw [bzn (show ¬(x.toNat:Int)<48 by omega)]
   by_cases h57:57<x.toNat
   ·rw [bz (show (x.toNat:Int)>57 by omega),if_pos (.inr h57)]
   ·rw [bzn (show ¬(x.toNat:Int)>57 by omega),if_neg (by omega)]
    by_cases hac:115292150460684697<acc
    ·rw [bz (show (acc:Int)>115292150460684697 by omega),if_pos hac]
    ·rw [bzn (show ¬(acc:Int)>115292150460684697 by omega),if_neg hac,wrap8 x (by omega),wr ((acc:Int)*10) (by omega) (by omega),wr _ (by omega) (by omega),wr1 i (by omega)]
     have ih:=number_l0 n s hs k (i+1) m (acc*10+(x.toNat-48)) (by omega) (by omega) (by omega)
     have e:(acc:Int)*10+((x.toNat-48:Nat):Int)=((acc*10+(x.toNat-48):Nat):Int):=by omega
     rw [e,ih]
theorem number_eq (n:Nat) (s:ByteArray) (hs:s.size≤100000) (hn:s.size+3≤n):r24_number n s=some (numP s):=by
 obtain ⟨m,rfl⟩:∃m,n=m+1:=⟨n-1,by omega⟩
 unfold r24_number
 have:=number_l0 m s hs s.size 0 m 0 (by omega) (by omega) (by omega)
 rw [Int.natCast_zero,List.drop_zero] at this
 refine this.trans ?_
 unfold numP
 cases nmL 0 (ky s) with
 | none=>rfl
 | some v=>
  unfold r24_number_s1
  simp only
  by_cases h0:0<s.size
  ·rw [bz (show (s.size:Int)>0 by omega),decide_eq_true h0,Bool.true_and]
  ·rw [bzn (show ¬(s.size:Int)>0 by omega),decide_eq_false h0,Bool.false_and]
def numsP:List Int→List ByteArray→List Int×Bool
 | acc,[]=>(acc,true)
 | acc,w::r=>bif (numP w).2 then numsP (acc++[(numP w).1]) r else (acc,false)
theorem numbers_l0 (n:Nat) (ws:List ByteArray) (hw:∀w∈ws,w.size≤100000) (hl:ws.length≤1000) (hn:100003≤n):∀(k i m:Nat) (acc:List Int),i+k=ws.length→k<m→acc.length≤i →
  r24_numbers_l0 n ws m acc (i:Int)=some (numsP acc (ws.drop i))
 | k,i,0,acc,_,h,_=>by omega
 | 0,i,m+1,acc,h,_,_=>by
  have h1:¬((i:Int)<(ws.length:Int)):=by omega
  unfold r24_numbers_l0
  rw [bzn h1,List.drop_eq_nil_of_le (by omega)];rfl
 | k+1,i,m+1,acc,h,h1,ha=>by
  have hx:i<ws.length:=by omega
  have h2:((i:Int)<(ws.length:Int)):=by omega
  have hd:ws.drop i=ws.getD i bE::ws.drop (i+1):=by
   rw [List.drop_eq_getElem_cons hx,List.getD_eq_getElem?_getD,List.getElem?_eq_getElem hx];rfl
  have hsz:=hw (ws.getD i bE) (by rw [List.getD_eq_getElem?_getD,List.getElem?_eq_getElem hx];exact List.getElem_mem hx)
  unfold r24_numbers_l0
  rw [bz h2,dec_in i _ hx,cond_true,toNat_c,number_eq n _ hsz (by omega),Option.bind_some,hd,numsP]
  cases (numP (ws.getD i bE)).2 with
  | false=>rfl
  | true=>
   have g1:(true&&(decide ((acc.length+1)*8≤140737488355328)&&decide (acc.length+1≤9223372036854775807)))=true:=app_ok (b:=8) (by omega) (by omega)
   rw [Bool.not_true,cond_false,g1,cond_true,cond_true,wr1 i (by omega)]
   exact numbers_l0 n ws hw hl hn k (i+1) m _ (by omega) (by omega) (by simp;omega)
theorem numbers_eq (n:Nat) (ws:List ByteArray) (hw:∀w∈ws,w.size≤100000) (hl:ws.length≤1000) (hn:100010≤n):r24_numbers n ws=some (numsP [] ws):=by
 obtain ⟨m,rfl⟩:∃m,n=m+1:=⟨n-1,by omega⟩
 unfold r24_numbers
 have:=numbers_l0 m ws hw hl (by omega) ws.length 0 m [] (by omega) (by omega) (by simp)
 rw [Int.natCast_zero,List.drop_zero] at this
 exact this
theorem numsP_len:∀(ws:List ByteArray) (acc:List Int),(numsP acc ws).2=true→(numsP acc ws).1.length=acc.length+ws.length
 | [],acc,_=>rfl
 | w::r,acc,h=>by
  unfold numsP at h ⊢
  cases hb:(numP w).2 with
  | false=>rw [hb] at h;cases h
  | true=>
   rw [hb,cond_true] at h
   rw [cond_true,numsP_len r _ h];simp;omega
theorem numP_itoa {x:Int} (h0:0≤x) (h:x≤1152921504606846976):numP (ofL (itoa x))=(x,true):=by
 unfold numP
 rw [ky_ofL,itoa_pos h0,nmL_dd x.toNat (by omega)]
 have h1:0<(ofL (decDigits x.toNat)).size:=by
  rw [ofL_size];exact List.length_pos_iff.2 (dd_ne _)
 have h2:((x.toNat:Int))=x:=by omega
 simp only
 rw [h2,decide_eq_true h1,decide_eq_true h];rfl
theorem numsP_itoa:∀(ns acc:List Int),(∀x∈ns,0≤x∧x≤1152921504606846976)→numsP acc (ns.map fun x=>ofL (itoa x))=(acc++ns,true)
 | [],acc,_=>by simp [numsP]
 | x::r,acc,h=>by
  have hx:=h x (.head _)
  rw [List.map_cons,numsP,numP_itoa hx.1 hx.2,cond_true,numsP_itoa r _ (fun y hy=>h y (.tail _ hy))]
  simp
end Go.Proofs.YtomalcfghdaghaaGreatDoor
/- Plain laws of the manifest,7: decoding,the program's and the reference's. -/
set_option linter.unusedVariables false
set_option linter.unusedSimpArgs false
namespace Go.Proofs.YtomalcfghdaghaaGreatDoor
open Go Go.AM Go.Lib
def zM:GMf:=⟨0,0,0,bE,[]⟩
def smallN (ns:List Int):Prop:=∀x∈ns,0≤x∧x≤1152921504606846976
theorem rc_small {next prev:Int} {b:GBR} (hx:next≤1152921504606846976) (h:rc next prev b=0):smallN (blkNs b):=by
 unfold rc at h
 obtain ⟨h1,h⟩:=if_zero (by decide) h
 obtain ⟨h2,h⟩:=if_zero (by decide) h
 obtain ⟨h3,h⟩:=if_zero (by decide) h
 obtain ⟨h4,h⟩:=if_zero (by decide) h
 obtain ⟨h5,h⟩:=if_zero (by decide) h
 obtain ⟨h6,h⟩:=if_zero (by decide) h
 obtain ⟨h7,h⟩:=if_zero (by decide) h
 obtain ⟨h8,h⟩:=if_zero (by decide) h
 obtain ⟨h9,h⟩:=if_zero (by decide) h
 obtain ⟨h10,h⟩:=if_zero (by decide) h
 obtain ⟨h11,h⟩:=if_zero (by decide) h
 intro x hx
 simp only [blkNs,List.mem_cons,List.not_mem_nil,or_false] at hx
 rcases hx with rfl | rfl | rfl | rfl | rfl<;>constructor<;>omega
theorem chkL_small {next:Int} (hx:next≤1152921504606846976):∀(bs:List GBR) (prev:Int) (seen:List ByteArray),chkL next prev seen bs=0→∀b∈bs,smallN (blkNs b)
 | [],_,_,_,b,hb=>by cases hb
 | a::r,prev,seen,h,b,hb=>by
  unfold chkL at h
  have hr:rc next prev a=0:=by
   by_cases hc:rc next prev a=0
   ·exact hc
   ·rw [if_pos hc] at h;exact h
  rw [if_neg (show ¬rc next prev a≠0 from fun e=>e hr)] at h
  obtain ⟨_,h⟩:=if_zero (by decide) h
  rcases List.mem_cons.1 hb with e | e
  ·subst e;exact rc_small hx hr
  ·exact chkL_small hx r _ _ h b e
theorem chk_small {m:GMf} (h:chk m=0):smallN (manNs m)∧∀b∈m.Blocks,smallN (blkNs b):=by
 unfold chk at h
 obtain ⟨h1,h⟩:=if_zero (by decide) h
 obtain ⟨h2,h⟩:=if_zero (by decide) h
 obtain ⟨h3,h⟩:=if_zero (by decide) h
 obtain ⟨h4,h⟩:=if_zero (by decide) h
 obtain ⟨h5,h⟩:=if_zero (by decide) h
 obtain ⟨h6,h⟩:=if_zero (by decide) h
 obtain ⟨h7,h⟩:=if_zero (by decide) h
 obtain ⟨h8,h⟩:=if_zero (by decide) h
 refine ⟨fun x hx=>?_,chkL_small (by omega) _ _ _ h⟩
 simp only [manNs,List.mem_cons,List.not_mem_nil,or_false] at hx
 rcases hx with rfl | rfl | rfl<;>constructor<;>omega
theorem sub_mem {ws:List ByteArray} {a b:Nat} {w:ByteArray} (h:w∈(ws.take b).drop a):w∈ws:=List.mem_of_mem_take (List.mem_of_mem_drop h)
theorem getW_mem {ws:List ByteArray} {i:Nat} (h:i<ws.length):ws.getD i bE∈ws:=by
 rw [List.getD_eq_getElem?_getD,List.getElem?_eq_getElem h];exact List.getElem_mem h
theorem d3 (a b c:Int) (h0:0≤a) (h1:a≤b) (h2:b≤c):(decide ((0:Int)≤a)&&decide (a≤b)&&decide (b≤c))=true:=by
 rw [decide_eq_true h0,decide_eq_true h1,decide_eq_true h2];rfl
def smallM (r:GMf×Bool):Prop:=r.1.Log.size≤100000∧∀b∈r.1.Blocks,b.File.size≤100000
theorem smallZ (b:Bool):smallM (zM,b):=⟨by show bE.size≤_;rw [show bE.size=0 from rfl];omega,fun b hb=>by cases hb⟩
theorem rparse_tot (n:Nat) (hn:100020≤n):∀(m:Nat) (s:ByteArray) (i1 i2 i3:Int) (lg:ByteArray) (l1:List GBR),s.size<m→l1.length+s.size≤100000→lg.size≤100000→(∀b∈l1,b.File.size≤100000) →
  ∃r,r24_parse_l0 n m s i1 i2 i3 lg l1=some r∧smallM r
 | 0,s,_,_,_,_,_,h,_,_,_=>by omega
 | m+1,s,i1,i2,i3,lg,l1,h,hl,hlg,hf=>by
  unfold r24_parse_l0
  cases hc:sNe s bE with
  | false=>exact ⟨_,rfl,hlg,hf⟩
  | true=>
   rw [cond_true,rwords_eq n s (by omega) (by omega),Option.bind_some]
   obtain ⟨a,b,c⟩:=wd_small 100000 (ky s) [] bE (fun w hw=>by cases hw) (by rw [show bE.size=0 from rfl,ky_len];omega)
   generalize wd (ky s) [] bE=W at a b c
   obtain ⟨ws,rest,ok⟩:=W
   simp only at a b c ⊢
   cases ok with
   | false=>exact ⟨_,rfl,smallZ _⟩
   | true=>
    have hlt:=c rfl
    rw [ky_len] at hlt
    rw [Bool.not_true,cond_false]
    by_cases h7:ws.length=7
    ·have e7:((ws.length:Int) != 7)=false:=by rw [h7];rfl
     rw [bff e7,btt (d3 1 6 _ (by omega) (by omega) (by omega)),numbers_eq n _ (fun w hw=>a w (sub_mem hw)) (by rw [List.length_drop,List.length_take];omega) (by omega),Option.bind_some]
     have hlen:=numsP_len (List.drop 1 (List.take 6 ws)) []
     generalize numsP [] (List.drop 1 (List.take 6 ws))=R at hlen
     obtain ⟨ns,ok2⟩:=R
     cases ok2 with
     | false=>exact ⟨_,rfl,smallZ _⟩
     | true=>
      have hns:ns.length=5:=by
       have:=hlen rfl
       simp only [List.length_nil,List.length_drop,List.length_take] at this
       omega
      simp only [Bool.not_true,cond_false]
      rw [btt (dz 0 ns.length (by omega) (by omega)),btt (dz 1 ns.length (by omega) (by omega)),btt (dz 2 ns.length (by omega) (by omega)),btt (dz 3 ns.length (by omega) (by omega)),btt (dz 4 ns.length (by omega) (by omega)),btt (dz 6 ws.length (by omega) (by omega)),btt (app_ok (b:=56) (by omega) (by omega))]
      refine rparse_tot n hn m (ofL rest) i1 i2 i3 lg _ (by rw [ofL_size];omega) (by rw [ofL_size,List.length_append,List.length_cons,List.length_nil];omega) hlg (fun b hb=>?_)
      rcases List.mem_append.1 hb with hb | hb
      ·exact hf b hb
      ·have:=List.mem_singleton.1 hb
       subst this
       exact a _ (getW_mem (by omega))
    ·have e7:((ws.length:Int) != 7)=true:=by rw [bne_iff_ne];omega
     rw [btt e7]
     exact ⟨_,rfl,smallZ _⟩
theorem rparse_all (n:Nat) (s:ByteArray) (hs:s.size≤90000) (hn:100030≤n):∃r,r24_parse n s=some r∧smallM r:=by
 obtain ⟨m,rfl⟩:∃m,n=m+1:=⟨n-1,by omega⟩
 unfold r24_parse
 simp only
 rw [rwords_eq m s (by omega) (by omega),Option.bind_some]
 obtain ⟨a,b,c⟩:=wd_small 100000 (ky s) [] bE (fun w hw=>by cases hw) (by rw [show bE.size=0 from rfl,ky_len];omega)
 generalize wd (ky s) [] bE=W at a b c
 obtain ⟨ws,rest,ok⟩:=W
 simp only at a b c ⊢
 cases ok with
 | false=>exact ⟨_,rfl,smallZ _⟩
 | true=>
  have hlt:=c rfl
  rw [ky_len] at hlt
  rw [Bool.not_true,cond_false]
  by_cases h7:ws.length=5
  ·have e7:((ws.length:Int) != 5)=false:=by rw [h7];rfl
   rw [bff e7,btt (d3 1 4 _ (by omega) (by omega) (by omega)),numbers_eq m _ (fun w hw=>a w (sub_mem hw)) (by rw [List.length_drop,List.length_take];omega) (by omega),Option.bind_some]
   have hlen:=numsP_len (List.drop 1 (List.take 4 ws)) []
   generalize numsP [] (List.drop 1 (List.take 4 ws))=R at hlen
   obtain ⟨ns,ok2⟩:=R
   cases ok2 with
   | false=>exact ⟨_,rfl,smallZ _⟩
   | true=>
    have hns:ns.length=3:=by
     have:=hlen rfl
     simp only [List.length_nil,List.length_drop,List.length_take] at this
     omega
    simp only [Bool.not_true,cond_false]
    rw [btt (dz 0 ns.length (by omega) (by omega)),btt (dz 1 ns.length (by omega) (by omega)),btt (dz 2 ns.length (by omega) (by omega)),btt (dz 4 ws.length (by omega) (by omega))]
    exact rparse_tot m (by omega) m (ofL rest) _ _ _ _ [] (by rw [ofL_size];omega) (by rw [ofL_size,List.length_nil];omega) (a _ (getW_mem (by omega))) (fun b hb=>by cases hb)
  ·have e7:((ws.length:Int) != 5)=true:=by rw [bne_iff_ne];omega
   rw [btt e7]
   exact ⟨_,rfl,smallZ _⟩
theorem rparse_can0 (n:Nat) (hn:100020≤n):∀(bs:List GBR) (m:Nat) (i1 i2 i3:Int) (lg:ByteArray) (l1:List GBR),bs.length<m→(∀b∈bs,goodB b)→(∀b∈bs,smallN (blkNs b))→l1.length+bs.length≤100 →
  r24_parse_l0 n m (ofL (blksT bs)) i1 i2 i3 lg l1=some (⟨i1,i2,i3,lg,l1++bs⟩,true)
 | bs,0,_,_,_,_,_,h,_,_,_=>by omega
 | [],m+1,i1,i2,i3,lg,l1,_,_,_,_=>by
  unfold r24_parse_l0
  have hc:sNe (ofL (blksT [])) bE=false:=by rw [sNe_eq];rfl
  rw [bff hc,List.append_nil];rfl
 | b::r,m+1,i1,i2,i3,lg,l1,hm,hg,hsm,hl=>by
  have hb:=hg b (.head _)
  have hs:=hsm b (.head _)
  have hlen:=blksT_len (b::r) hg
  have hl':l1.length+(r.length+1)≤100:=hl
  simp only [List.length_cons] at hlen hm
  have e:blksT (b::r)=lnW blkL (blkNs b) b.File++10::blksT r:=by simp [blksT,blkT,lnT]
  have hw:=wd_line (blkNs b) blkL b.File (blksT r) [] (by decide) (by decide) hb.2.1 hb.2.2.1 hb.1
  have hc:sNe (ofL (blksT (b::r))) bE=true:=by rw [sNe_eq,decide_eq_false (blks_ne b r)];rfl
  unfold r24_parse_l0
  rw [btt hc,rwords_eq n _ (by rw [ofL_size];omega) (by rw [ofL_size];omega),Option.bind_some,ky_ofL,e,hw]
  simp only [Bool.not_true,cond_false]
  have h7:(([]++ofL blkL::((blkNs b).map (fun x=>ofL (itoa x))++[b.File])).length:Int)=7:=rfl
  have htd:List.drop 1 (List.take 6 ([]++ofL blkL::((blkNs b).map (fun x=>ofL (itoa x))++[b.File])))=(blkNs b).map (fun x=>ofL (itoa x)):=rfl
  have h6:([]++ofL blkL::((blkNs b).map (fun x=>ofL (itoa x))++[b.File])).getD 6 bE=b.File:=rfl
  have hsz:∀w∈(blkNs b).map (fun x=>ofL (itoa x)),w.size≤100000:=fun w hw=>by
   obtain ⟨x,hx,rfl⟩:=List.mem_map.1 hw
   have:=itoa_len (hb.1 x hx).1 (hb.1 x hx).2
   rw [ofL_size];omega
  rw [h7,htd,h6,numbers_eq n _ hsz (by simp [blkNs]) (by omega),Option.bind_some]
  have hR:=numsP_itoa (blkNs b) [] hs
  generalize numsP [] ((blkNs b).map (fun x=>ofL (itoa x)))=R at hR
  obtain ⟨ns,ok⟩:=R
  obtain ⟨hns,rfl⟩:=Prod.mk.inj hR
  rw [List.nil_append] at hns
  have h5:ns.length=5:=by rw [hns];rfl
  simp only [Bool.not_true,cond_false]
  have g1:(true&&(decide ((l1.length+1)*56≤140737488355328)&&decide (l1.length+1≤9223372036854775807)))=true:=app_ok (b:=56) (by omega) (by omega)
  rw [show ((7:Int) != 7)=false from rfl,cond_false,btt (d3 1 6 7 (by omega) (by omega) (by omega)),btt (dz 0 ns.length (by omega) (by omega)),btt (dz 1 ns.length (by omega) (by omega)),btt (dz 2 ns.length (by omega) (by omega)),btt (dz 3 ns.length (by omega) (by omega)),btt (dz 4 ns.length (by omega) (by omega)),g1,cond_true]
  subst hns
  refine (rparse_can0 n hn r m i1 i2 i3 lg (l1++[b]) (by omega) (fun x hx=>hg x (.tail _ hx)) (fun x hx=>hsm x (.tail _ hx)) (by simp;omega)).trans ?_
  simp
theorem rparse_can (n:Nat) (m:GMf) (hg:goodM m) (hs1:smallN (manNs m)) (hs2:∀b∈m.Blocks,smallN (blkNs b)) (hn:100030≤n):r24_parse n (ofL (txt m))=some (m,true):=by
 obtain ⟨k,rfl⟩:∃k,n=k+1:=⟨n-1,by omega⟩
 have hlen:=txt_len hg
 have hbl:=hg.2.2.1
 have e:txt m=lnW manL (manNs m) m.Log++10::blksT m.Blocks:=by simp [txt,lnT]
 have hw:=wd_line (manNs m) manL m.Log (blksT m.Blocks) [] (by decide) (by decide) hg.2.1.1 hg.2.1.2.1 hg.1
 unfold r24_parse
 simp only
 rw [rwords_eq k _ (by rw [ofL_size];omega) (by rw [ofL_size];omega),Option.bind_some,ky_ofL,e,hw]
 simp only [Bool.not_true,cond_false]
 have h7:(([]++ofL manL::((manNs m).map (fun x=>ofL (itoa x))++[m.Log])).length:Int)=5:=rfl
 have htd:List.drop 1 (List.take 4 ([]++ofL manL::((manNs m).map (fun x=>ofL (itoa x))++[m.Log])))=(manNs m).map (fun x=>ofL (itoa x)):=rfl
 have h6:([]++ofL manL::((manNs m).map (fun x=>ofL (itoa x))++[m.Log])).getD 4 bE=m.Log:=rfl
 have hsz:∀w∈(manNs m).map (fun x=>ofL (itoa x)),w.size≤100000:=fun w hw=>by
  obtain ⟨x,hx,rfl⟩:=List.mem_map.1 hw
  have:=itoa_len (hg.1 x hx).1 (hg.1 x hx).2
  rw [ofL_size];omega
 rw [h7,htd,h6,numbers_eq k _ hsz (by simp [manNs]) (by omega),Option.bind_some]
 have hR:=numsP_itoa (manNs m) [] hs1
 generalize numsP [] ((manNs m).map (fun x=>ofL (itoa x)))=R at hR
 obtain ⟨ns,ok⟩:=R
 obtain ⟨hns,rfl⟩:=Prod.mk.inj hR
 rw [List.nil_append] at hns
 have h5:ns.length=3:=by rw [hns];rfl
 simp only [Bool.not_true,cond_false]
 rw [show ((5:Int) != 5)=false from rfl,cond_false,btt (d3 1 4 5 (by omega) (by omega) (by omega)),btt (dz 0 ns.length (by omega) (by omega)),btt (dz 1 ns.length (by omega) (by omega)),btt (dz 2 ns.length (by omega) (by omega))]
 subst hns
 exact rparse_can0 k (by omega) m.Blocks k m.Version m.Next m.RawFrom m.Log [] (by omega) hg.2.2.2 hs2 (by simp;omega)
theorem sealed_pre (t:ByteArray):(sealed t).extract 0 t.size=t:=by
 apply ky_inj
 rw [ky_ext,List.drop_zero]
 unfold sealed
 rw [ky_app,← ky_len,List.take_left']
 rfl
theorem opened_sealed (t:ByteArray):opened (sealed t)=some t:=by
 have h:=seal_size t
 have h4:(sealed t).size-4=t.size:=by omega
 unfold opened
 rw [h4,sealed_pre,if_pos ⟨by omega,rfl⟩]
theorem opened_some {s t:ByteArray} (h:opened s=some t):s=sealed t:=by
 unfold opened at h
 split at h
 ·rename_i hc
  cases h
  exact hc.2.symm
 ·cases h
theorem sealed_inj {a b:ByteArray} (h:sealed a=sealed b):a=b:=by
 have:=opened_sealed a
 rw [h,opened_sealed] at this
 exact (Option.some.inj this).symm
theorem dec_sealed_p (n:Nat) (m:GMf) (hc:chk m=0) (hn:200000≤n):mf_Decode n (sealed (ofL (txt m)))=some (m,0):=by
 obtain ⟨k,rfl⟩:∃k,n=k+1:=⟨n-1,by omega⟩
 have hg:=chk_good hc
 have hlen:=txt_len hg
 have hsz:(ofL (txt m)).size=(txt m).length:=ofL_size _
 have hss:=seal_size (ofL (txt m))
 unfold mf_Decode
 simp only
 rw [open_eq k _ (by omega) (by omega),Option.bind_some,opened_sealed]
 simp only
 rw [show ((0:Int) != 0)=false from rfl,cond_false,parse_can k m hg (by omega),Option.bind_some]
 simp only [Bool.not_true,cond_false]
 rw [encode_eq k m (by omega),Option.bind_some,encd,if_neg (show ¬chk m≠0 from fun h=>h hc)]
 simp only
 rw [show ((0:Int) != 0)=false from rfl,cond_false,sNe_eq,decide_eq_true rfl];rfl
theorem dec_sealed (n:Nat) (m:GMf) (hc:chk m=0) (hn:200000≤n):mf_Decode n (sealed (ofL (txt m)))=some (m,0)∧r24_Decode n (sealed (ofL (txt m)))=some (m,0):=by
 refine ⟨dec_sealed_p n m hc hn,?_⟩
 obtain ⟨k,rfl⟩:∃k,n=k+1:=⟨n-1,by omega⟩
 have hg:=chk_good hc
 obtain ⟨hs1,hs2⟩:=chk_small hc
 have hlen:=txt_len hg
 have hsz:(ofL (txt m)).size=(txt m).length:=ofL_size _
 have hss:=seal_size (ofL (txt m))
 unfold r24_Decode
 simp only
 rw [ropen_eq k _ (by omega) (by omega),Option.bind_some,opened_sealed]
 simp only
 rw [show ((0:Int) != 0)=false from rfl,cond_false,rparse_can k m hg hs1 hs2 (by omega),Option.bind_some]
 simp only [Bool.not_true,cond_false]
 have hlg:=hg.2.1.2.2
 rw [rcheck_eq k m (by omega) ⟨by omega,by omega⟩ (fun b hb=>by have:=(hg.2.2.2 b hb).2.2.2;omega),Option.bind_some,hc,show ((0:Int) != 0)=false from rfl,cond_false,rlines_eq k m hg (by omega),Option.bind_some,sNe_eq,decide_eq_true rfl];rfl
theorem decode_both (n:Nat) (s:ByteArray) (hs:s.size≤80000) (hn:200000≤n):∃r,mf_Decode n s=some r∧r24_Decode n s=some r∧(r.2=0→chk r.1=0∧s=sealed (ofL (txt r.1)))∧(r.2≠0→r.1=zM):=by
 cases ho:opened s with
 | none=>
  obtain ⟨k,rfl⟩:∃k,n=k+1:=⟨n-1,by omega⟩
  have hne:(if s.size<4 then (11:Int) else 13)≠0:=by split<;>decide
  have hb:((if s.size<4 then (11:Int) else 13) != 0)=true:=by rw [bne_iff_ne];exact hne
  refine ⟨(zM,if s.size<4 then 11 else 13),?_,?_,fun h=>absurd h hne,fun _=>rfl⟩
  ·unfold mf_Decode
   simp only
   rw [open_eq k _ (by omega) (by omega),Option.bind_some,ho]
   simp only
   rw [hb];rfl
  ·unfold r24_Decode
   simp only
   rw [ropen_eq k _ (by omega) (by omega),Option.bind_some,ho]
   simp only
   rw [hb];rfl
 | some t=>
  have hst:=opened_some ho
  have hss:=seal_size t
  rw [← hst] at hss
  by_cases hex:∃m,chk m=0∧ofL (txt m)=t
  ·obtain ⟨m,hc,rfl⟩:=hex
   obtain ⟨h1,h2⟩:=dec_sealed n m hc hn
   rw [hst]
   exact ⟨(m,0),h1,h2,fun _=>⟨hc,rfl⟩,fun h=>absurd rfl h⟩
  ·obtain ⟨k,rfl⟩:∃k,n=k+1:=⟨n-1,by omega⟩
   refine ⟨(zM,12),?_,?_,fun h=>absurd h (by decide),fun _=>rfl⟩
   ·unfold mf_Decode
    simp only
    rw [open_eq k _ (by omega) (by omega),Option.bind_some,ho]
    simp only
    rw [show ((0:Int) != 0)=false from rfl,cond_false]
    obtain ⟨⟨m,ok⟩,hp⟩:=parse_tot k t (by omega) (by omega)
    rw [hp,Option.bind_some]
    cases ok with
    | false=>rfl
    | true=>
     simp only [Bool.not_true,cond_false]
     rw [encode_eq k m (by omega),Option.bind_some,encd]
     by_cases hc:chk m=0
     ·rw [if_neg (show ¬chk m≠0 from fun h=>h hc)]
      simp only
      have hne:¬sealed (ofL (txt m))=s:=fun h=>hex ⟨m,hc,sealed_inj (h.trans hst)⟩
      rw [show ((0:Int) != 0)=false from rfl,cond_false,sNe_eq,decide_eq_false hne];rfl
     ·rw [if_pos (show chk m≠0 from hc)];rfl
   ·unfold r24_Decode
    simp only
    rw [ropen_eq k _ (by omega) (by omega),Option.bind_some,ho]
    simp only
    rw [show ((0:Int) != 0)=false from rfl,cond_false]
    obtain ⟨⟨m,ok⟩,hp,hsm⟩:=rparse_all k t (by omega) (by omega)
    rw [hp,Option.bind_some]
    cases ok with
    | false=>rfl
    | true=>
     simp only [Bool.not_true,cond_false]
     have h1:m.Log.size≤100000:=hsm.1
     rw [rcheck_eq k m (by omega) ⟨by omega,by omega⟩ (fun b hb=>by have:b.File.size≤100000:=hsm.2 b hb;omega),Option.bind_some]
     by_cases hc:chk m=0
     ·have hg:=chk_good hc
      have hne:¬ofL (txt m)=t:=fun h=>hex ⟨m,hc,h⟩
      rw [hc,show ((0:Int) != 0)=false from rfl,cond_false,rlines_eq k m hg (by omega),Option.bind_some,sNe_eq,decide_eq_false hne];rfl
     ·have hb:(chk m != 0)=true:=by rw [bne_iff_ne];exact hc
      rw [hb];rfl
end Go.Proofs.YtomalcfghdaghaaGreatDoor
/- Plain laws of the manifest,8: the two laws. -/
set_option linter.unusedVariables false
set_option linter.unusedSimpArgs false
namespace Go.Proofs.YtomalcfghdaghaaGreatDoor
open Go Go.AM Go.Lib
theorem msame_l0 (n:Nat) (m:GMf) (hl:m.Blocks.length≤1000):∀(k i f:Nat),i+k=m.Blocks.length→k<f→r24_Same_l0 n m m f (i:Int)=some true
 | k,i,0,_,h=>by omega
 | 0,i,f+1,h,_=>by
  have h1:¬((i:Int)<(m.Blocks.length:Int)):=by omega
  unfold r24_Same_l0
  rw [bzn h1]
 | k+1,i,f+1,h,h1=>by
  have hx:i<m.Blocks.length:=by omega
  have h2:((i:Int)<(m.Blocks.length:Int)):=by omega
  unfold r24_Same_l0
  rw [bz h2,dec_in i _ hx,cond_true,cond_true,toNat_c]
  simp only [beqS,decide_true,beq_self_eq_true,Bool.and_self,Bool.not_true,cond_false]
  rw [wr1 i (by omega)]
  exact msame_l0 n m hl k (i+1) f (by omega) (by omega)
theorem same_eq (n:Nat) (m:GMf) (hl:m.Blocks.length≤1000) (hn:1100≤n):r24_Same n m m=some true:=by
 obtain ⟨k,rfl⟩:∃k,n=k+1:=⟨n-1,by omega⟩
 unfold r24_Same
 simp only [bne_self_eq_false,cond_false,sNe_eq,decide_true,Bool.not_true]
 exact msame_l0 k m hl m.Blocks.length 0 k (by omega) (by omega)
def smp:GMf:=⟨1,3,0,(⟨#[119,97,108,46,49]⟩:ByteArray),[(⟨2,0,(⟨#[98,108,111,99,107,46,50]⟩:ByteArray),5,9,100⟩:GBR)]⟩
def smpT:List UInt8:=[109,97,110,105,102,101,115,116,32,49,32,51,32,48,32,119,97,108,46,49,10,98,108,111,99,107,32,50,32,48,32,53,32,57,32,49,48,48,32,98,108,111,99,107,46,50,10]
theorem smp_chk:chk smp=0:=by kernel_rfl
theorem smp_txt:txt smp=smpT:=by
 have h0:itoa 0=[48]:=by show decDigits 0=_;rw [decDigits_one (by decide)];rfl
 have h1:itoa 1=[49]:=by show decDigits 1=_;rw [decDigits_one (by decide)];rfl
 have h2:itoa 2=[50]:=by show decDigits 2=_;rw [decDigits_one (by decide)];rfl
 have h3:itoa 3=[51]:=by show decDigits 3=_;rw [decDigits_one (by decide)];rfl
 have h5:itoa 5=[53]:=by show decDigits 5=_;rw [decDigits_one (by decide)];rfl
 have h9:itoa 9=[57]:=by show decDigits 9=_;rw [decDigits_one (by decide)];rfl
 have h100:itoa 100=[49,48,48]:=by
  show decDigits 100=_
  rw [decDigits,dif_neg (by decide),show 100 / 10=10 from rfl,decDigits_two (by decide) (by decide)];rfl
 simp only [txt,smp,manNs,blksT,blkT,blkNs,lnT,lnW,nsT,h0,h1,h2,h3,h5,h9,h100]
 rfl
theorem awake_eq (n:Nat) (hn:200100≤n):w24_awake n=some true:=by
 obtain ⟨k,rfl⟩:∃k,n=k+1:=⟨n-1,by omega⟩
 obtain ⟨j,rfl⟩:∃j,k=j+1:=⟨k-1,by omega⟩
 have hs:w24_sample (j+1)=some smp:=rfl
 have hsz:(ofL (txt smp)).size=47:=by rw [smp_txt,ofL_size];rfl
 have hss:=seal_size (ofL (txt smp))
 have hpre:=sealed_pre (ofL (txt smp))
 rw [hsz] at hpre hss
 unfold w24_awake
 simp only
 rw [hs,Option.bind_some,encode_eq (j+1) smp (by omega),Option.bind_some,encd,if_neg (show ¬chk smp≠0 from fun h=>h smp_chk)]
 simp only
 rw [dec_sealed_p (j+1) smp smp_chk (by omega),Option.bind_some]
 simp only
 have e51:(((sealed (ofL (txt smp))).size:Int)==51)=true:=by rw [beq_iff_eq,hss];rfl
 have e0:((0:Int)==0)=true:=rfl
 rw [e0,cond_true,cond_true,e51,cond_true,btt (d3 0 47 _ (by omega) (by omega) (by omega)),hpre]
 have et:sEq (ofL (txt smp)) (⟨#[109,97,110,105,102,101,115,116,32,49,32,51,32,48,32,119,97,108,46,49,10,98,108,111,99,107,32,50,32,48,32,53,32,57,32,49,48,48,32,98,108,111,99,107,46,50,10]⟩:ByteArray)=true:=by
  rw [sEq_eq,smp_txt];exact decide_eq_true rfl
 rw [et,cond_true,Option.bind_some,same_eq (j+1) smp (by decide) (by omega)]
 rfl
theorem files_bound:∀bs:List GBR,∃B:Nat,∀b∈bs,b.File.size≤B
 | []=>⟨0,fun b hb=>by cases hb⟩
 | a::r=>by
  obtain ⟨B,h⟩:=files_bound r
  exact ⟨B+a.File.size,fun b hb=>by
   rcases List.mem_cons.1 hb with e | e
   ·subst e;omega
   ·have:=h b e;omega⟩
theorem zM_len:zM.Blocks.length≤1000:=by decide
theorem good_len {m:GMf} (h:chk m=0):m.Blocks.length≤1000:=by have:=(chk_good h).2.2.1;omega
end Go.Proofs.YtomalcfghdaghaaGreatDoor
