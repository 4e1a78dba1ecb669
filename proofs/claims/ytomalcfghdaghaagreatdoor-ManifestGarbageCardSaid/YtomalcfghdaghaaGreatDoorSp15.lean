/- Plain laws, 3: one pending operation, and all of them, in the reference and in the program. -/
import Derived.Test.YtomalcfghdaghaaGreatDoorSp2
import Derived.Test.YtomalcfghdaghaaGreatDoorWf
set_option linter.unusedVariables false
set_option linter.unusedSimpArgs false
namespace Go.Proofs.YtomalcfghdaghaaGreatDoor
open Go Go.AM
def ap (N:Int) (l:Dir) (x:GDO):Dir×Bool:=
 bif x.Kind==1 then (wi ⟨x.Name,x.Inode⟩ l,isNm x.Name&&((lkE x.Name l).isNone&&(decide (x.Inode≥0)&&(decide (x.Inode<N)&&(!usedE l x.Inode&&decide (x.To=bE))))))
 else match lkE x.Name l with
  | none=>(l,false)
  | some ino=>bif x.Inode != 0 then (l,false) else bif x.Kind==2 then (wi ⟨x.To,ino⟩ (wo (wo l x.Name) x.To),isNm x.To&&!decide (x.To=x.Name)) else (wo l x.Name,x.Kind==3&&decide (x.To=bE))
def aft (N:Int):List GDO→Dir→Dir×Bool
 | [],l=>(l,true)
 | x::ops,l=>bif (ap N l x).2 then aft N ops (ap N l x).1 else ((ap N l x).1,false)
theorem ap_len (N:Int) (l:Dir) (x:GDO):(ap N l x).1.length≤l.length+1:=by
 unfold ap
 cases x.Kind==1 with
 | true=>simp [len_wi]
 | false=>
  simp only [cond_false]
  cases lkE x.Name l with
  | none=>simp
  | some ino=>
   cases x.Inode != 0<;>simp only [cond_true,cond_false]
   ·cases x.Kind==2<;>simp only [cond_true,cond_false]
    ·have:=len_wo l x.Name;omega
    ·rw [len_wi];have:=len_wo l x.Name;have:=len_wo (wo l x.Name) x.To;omega
   ·omega
theorem lk_is {N:Nat} {files:List (ByteArray×Int)} {taken:List Bool} {l:Dir} (h:Rd N files taken l) (k:ByteArray):(lk k files).isSome=!(lkE k l).isNone:=by
 rw [h.lks];cases lkE k l<;>rfl
theorem rng_of {N:Nat} {files:List (ByteArray×Int)} {taken:List Bool} {l:Dir} (h:Rd N files taken l) {k:ByteArray} {ino:Int} (hk:lkE k l=some ino):0≤ino∧ino<N:=h.rng _ ((lkE_some h.srt).1 hk)
theorem blt_of {i n:Nat} (h:i<n):Nat.blt i n=true:=by rw [Nat.blt_eq];exact h
theorem mayCreate_eq {N n:Nat} {files:List (ByteArray×Int)} {taken:List Bool} {l:Dir} (h:Rd N files taken l) (x:GDO) (hk:x.Kind=1) (hn:70≤n):dk_mayCreate n N x files taken=some ((ap N l x).2,files,taken):=by
 obtain ⟨m,rfl⟩:∃m,n=m+1:=⟨n-1,by omega⟩
 simp only [dk_mayCreate,isName_eq m x.Name (by omega),Option.bind_some,lk_is h,sEq_eq,Bool.not_not,ap,hk,beq_self_eq_true,cond_true]
 cases isNm x.Name<;>cases (lkE x.Name l).isNone<;>cases decide (x.To=bE)<;>simp only [cond_true,cond_false,Bool.true_and,Bool.false_and,Bool.and_true,Bool.and_false]
 by_cases h1:x.Inode≥0
 ·by_cases h2:x.Inode<(N:Int)
  ·have h3:(0:Int)≤x.Inode:=h1
   have hb:x.Inode.toNat<taken.length:=by rw [h.len];omega
   have ht:=h.tkn x.Inode.toNat (by omega)
   have he:((x.Inode.toNat:Nat):Int)=x.Inode:=by omega
   rw [he] at ht
   simp only [h1,h2,h3,decide_true,cond_true,Bool.and_true,Bool.true_and,blt_of hb,ht]
  ·simp only [h1,h2,decide_true,decide_false,cond_true,cond_false,Bool.and_false,Bool.false_and]
 ·simp only [h1,decide_false,cond_false,Bool.false_and]
theorem create_eq {N n:Nat} {files:List (ByteArray×Int)} {taken:List Bool} {l:Dir} (h:Rd N files taken l) (x:GDO) (hk:x.Kind=1) (ha:(ap N l x).2=true) (hn:1≤n):∃f t,dk_create n N x files taken=some (f,t)∧Rd N f t (ap N l x).1:=by
 obtain ⟨m,rfl⟩:∃m,n=m+1:=⟨n-1,by omega⟩
 simp only [ap,hk,beq_self_eq_true,cond_true,Bool.and_eq_true,decide_eq_true_eq,Bool.not_eq_true'] at ha ⊢
 obtain ⟨h0,h1,h2,h3,h4,_⟩:=ha
 have h5:(0:Int)≤x.Inode:=h2
 have hb:x.Inode.toNat<taken.length:=by rw [h.len];omega
 refine ⟨_,_,by simp only [dk_create,h3,h5,decide_true,Bool.and_true,cond_true,blt_of hb],h.create h2 h3 (by simpa using h1) h4 h0⟩
theorem mayRename_eq {N n:Nat} {files:List (ByteArray×Int)} {taken:List Bool} {l:Dir} (h:Rd N files taken l) (x:GDO) (hk:x.Kind=2) (hn:70≤n):dk_mayRename n N x files taken=some ((ap N l x).2,files,taken):=by
 obtain ⟨m,rfl⟩:∃m,n=m+1:=⟨n-1,by omega⟩
 simp only [dk_mayRename,isName_eq m x.To (by omega),Option.bind_some,lk_is h,sNe_eq,ap,hk,show ((2:Int)==1)=false by rfl,show ((2:Int)==2)=true by rfl,cond_true,cond_false]
 cases lkE x.Name l with
 | none=>rfl
 | some ino=>
  simp only [Option.isNone_some,Bool.not_false,cond_true]
  cases hi:x.Inode==0<;>simp only [bne,hi,Bool.not_true,Bool.not_false,cond_true,cond_false]<;>cases isNm x.To<;>cases decide (x.To=x.Name)<;>rfl
theorem rename_eq {N n:Nat} {files:List (ByteArray×Int)} {taken:List Bool} {l:Dir} (h:Rd N files taken l) (x:GDO) (hk:x.Kind=2) (ha:(ap N l x).2=true) (hn:1≤n):∃f t,dk_rename n N x files taken=some (f,t)∧Rd N f t (ap N l x).1:=by
 obtain ⟨m,rfl⟩:∃m,n=m+1:=⟨n-1,by omega⟩
 simp only [ap,hk,show ((2:Int)==1)=false by rfl,show ((2:Int)==2)=true by rfl,cond_true,cond_false] at ha ⊢
 cases hl:lkE x.Name l with
 | none=>rw [hl] at ha;cases ha
 | some ino=>
  rw [hl] at ha
  simp only at ha
  cases hi:x.Inode != 0 with
  | true=>rw [hi] at ha;cases ha
  | false=>
   rw [hi] at ha
   simp only [cond_false,Bool.and_eq_true,Bool.not_eq_true',decide_eq_false_iff_not] at ha ⊢
   have hR:=h.rename hl ha.2 ha.1
   simp only [dk_rename,dk_rename_s0,h.lks,hl,Option.getD_some]
   cases ho:lkE x.To l with
   | none=>
    rw [ho] at hR
    exact ⟨_,_,rfl,hR⟩
   | some old=>
    rw [ho] at hR
    obtain ⟨r1,r2⟩:=rng_of h ho
    have hb:old.toNat<taken.length:=by rw [h.len];omega
    simp only [Option.isSome_some,cond_true,Option.getD_some,r1,r2,decide_true,Bool.and_true,blt_of hb]
    exact ⟨_,_,rfl,hR⟩
theorem mayRemove_eq {N n:Nat} {files:List (ByteArray×Int)} {taken:List Bool} {l:Dir} (h:Rd N files taken l) (x:GDO) (hk:x.Kind=3) (hn:1≤n):dk_mayRemove n N x files taken=some ((ap N l x).2,files,taken):=by
 obtain ⟨m,rfl⟩:∃m,n=m+1:=⟨n-1,by omega⟩
 simp only [dk_mayRemove,lk_is h,sEq_eq,ap,hk,show ((3:Int)==1)=false by rfl,show ((3:Int)==2)=false by rfl,show ((3:Int)==3)=true by rfl,cond_false]
 cases lkE x.Name l with
 | none=>rfl
 | some ino=>
  simp only [Option.isNone_some,Bool.not_false,cond_true]
  cases hi:x.Inode==0<;>simp only [bne,hi,Bool.not_true,Bool.not_false,cond_true,cond_false]<;>cases decide (x.To=bE)<;>rfl
theorem remove_eq {N n:Nat} {files:List (ByteArray×Int)} {taken:List Bool} {l:Dir} (h:Rd N files taken l) (x:GDO) (hk:x.Kind=3) (ha:(ap N l x).2=true) (hn:1≤n):∃f t,dk_remove n N x files taken=some (f,t)∧Rd N f t (ap N l x).1:=by
 obtain ⟨m,rfl⟩:∃m,n=m+1:=⟨n-1,by omega⟩
 simp only [ap,hk,show ((3:Int)==1)=false by rfl,show ((3:Int)==2)=false by rfl,show ((3:Int)==3)=true by rfl,cond_false] at ha ⊢
 cases hl:lkE x.Name l with
 | none=>rw [hl] at ha;cases ha
 | some ino=>
  rw [hl] at ha
  simp only at ha
  cases hi:x.Inode != 0 with
  | true=>rw [hi] at ha;cases ha
  | false=>
   obtain ⟨r1,r2⟩:=rng_of h hl
   have hb:ino.toNat<taken.length:=by rw [h.len];omega
   simp only [dk_remove,h.lks,hl,Option.getD_some,r1,r2,decide_true,Bool.and_true,cond_true,cond_false,blt_of hb]
   exact ⟨_,_,rfl,h.remove hl⟩
theorem ap_none {N:Int} {l:Dir} {x:GDO} (h1:x.Kind≠1) (h2:x.Kind≠2) (h3:x.Kind≠3):(ap N l x).2=false:=by
 have e1:(x.Kind==1)=false:=by simpa using h1
 have e2:(x.Kind==2)=false:=by simpa using h2
 have e3:(x.Kind==3)=false:=by simpa using h3
 simp only [ap,e1,e2,e3,cond_false,Bool.false_and]
 cases lkE x.Name l with
 | none=>rfl
 | some ino=>cases x.Inode != 0<;>rfl
end Go.Proofs.YtomalcfghdaghaaGreatDoor
/- Plain laws,4: which disks are valid,and their directories. -/
set_option linter.unusedVariables false
set_option linter.unusedSimpArgs false
namespace Go.Proofs.YtomalcfghdaghaaGreatDoor
open Go Go.AM
def okI (x:GI):Bool:=decide (x.Data.size≤1048576)&&(decide (0≤x.Synced)&&decide (x.Synced≤(x.Data.size:Int)))
def okD (N:Nat) (D:Dir) (i:Nat):Bool:=
 isNm (D.getD i dGDE).Name&&((decide (i=0)||decide (ky (D.getD (i-1) dGDE).Name<ky (D.getD i dGDE).Name))&&(decide (0≤(D.getD i dGDE).Inode)&&(decide ((D.getD i dGDE).Inode<(N:Int))&&!usedE (D.take i) (D.getD i dGDE).Inode)))
def durB (N:Nat) (D:Dir) (i:Nat):Nat→Bool
 | 0=>true
 | k+1=>okD N D i&&durB N D (i+1) k
def durA (d:GDisk):Bool:=durB d.Inodes.length d.Durable 0 d.Durable.length
def cur (d:GDisk):Dir×Bool:=aft (d.Inodes.length:Int) d.Pending d.Durable
def valid (d:GDisk):Bool:=decide (d.Inodes.length≤1000)&&(decide (d.Pending.length≤1000)&&(decide (-1≤d.Left)&&(d.Inodes.all okI&&(durA d&&(cur d).2))))
theorem take_succ {α:Type} {l:List α} {i:Nat} {d:α} (h:i<l.length):l.take (i+1)=l.take i++[l.getD i d]:=by
 rw [List.take_add_one];simp [List.getD,List.getElem?_eq_getElem h]
theorem wi_last {x:GDE}:∀{l:Dir},(∀a∈l,ky a.Name<ky x.Name)→wi x l=l++[x]
 | [],_=>rfl
 | e::l,h=>by
  have h1:=h e (by simp)
  have:sGt e.Name x.Name=false:=by
   cases hg:sGt e.Name x.Name with
   | false=>rfl
   | true=>exact absurd (gt_iff.1 hg) (ky_lt_asymm h1)
  simp only [wi,this,cond_false,List.cons_append]
  rw [wi_last fun a ha=>h a (by simp [ha])]
theorem below_all {N:Nat} {files:List (ByteArray×Int)} {taken:List Bool} {D:Dir} {i:Nat} {x:GDE} (h:Srt (D.take i)) (hi:i≤D.length) (hx:i=0∨ky (D.getD (i-1) dGDE).Name<ky x.Name):∀a∈D.take i,ky a.Name<ky x.Name:=by
 intro a ha
 rcases hx with h0 | hx
 ·subst h0;simp at ha
 ·by_cases h0:i=0
  ·subst h0;simp at ha
  ·obtain ⟨j,rfl⟩:∃j,i=j+1:=⟨i-1,by omega⟩
   rw [take_succ (d:=dGDE) (show j<D.length by omega)] at ha h
   simp only [Nat.add_sub_cancel] at hx
   rcases List.mem_append.1 ha with ha | ha
   ·have:=(List.pairwise_append.1 h).2.2 a ha _ (List.mem_singleton.2 rfl)
    exact ky_lt_trans this hx
   ·simp at ha;subst ha;exact hx
theorem durable_l0 (n:Nat) (d:GDisk) (hn:70≤n) (hD:d.Durable.length≤1000000000):∀(k i m:Nat) (files:List (ByteArray×Int)) (taken:List Bool),i+k=d.Durable.length→Rd d.Inodes.length files taken (d.Durable.take i)→k<m →
  ∃f t,dk_durable_l0 n d m (d.Durable.length:Int) (i:Int) files taken=some (d.Inodes.length,durB d.Inodes.length d.Durable i k,f,t)∧(durB d.Inodes.length d.Durable i k=true→Rd d.Inodes.length f t d.Durable)
 | k,i,0,_,_,_,_,h=>by omega
 | 0,i,m+1,files,taken,h,hR,_=>by
  have:¬((i:Int)<(d.Durable.length:Int)):=by omega
  refine ⟨files,taken,by simp only [dk_durable_l0,dk_durable_s1,this,decide_false,cond_false,durB],fun _=>?_⟩
  rwa [List.take_of_length_le (by omega)] at hR
 | k+1,i,m+1,files,taken,h,hR,h2=>by
  have hw:=wr1 i (by omega)
  have hlt:(i:Int)<(d.Durable.length:Int):=by omega
  have h0:(0:Int)≤(i:Int):=by omega
  obtain ⟨e,he⟩:∃e,d.Durable.getD i dGDE=e:=⟨_,rfl⟩
  have hrest:∀(b:Bool),(b=true→i=0∨ky (d.Durable.getD (i-1) dGDE).Name<ky e.Name)→b=(decide (i=0)||decide (ky (d.Durable.getD (i-1) dGDE).Name<ky e.Name))→isNm e.Name=true→b=true →
    ∃f t,(bif decide (e.Inode<0) then some (d.Inodes.length,false,files,taken) else bif decide (e.Inode≥(d.Inodes.length:Int)) then some (d.Inodes.length,false,files,taken) else bif decide ((0:Int)≤e.Inode)&&decide (e.Inode<(d.Inodes.length:Int)) then
     bif Nat.blt e.Inode.toNat taken.length then bif taken.getD e.Inode.toNat false then some (d.Inodes.length,false,files,taken) else bif decide ((0:Int)≤e.Inode)&&decide (e.Inode<(d.Inodes.length:Int)) then bif Nat.blt e.Inode.toNat taken.length then
      dk_durable_l0 n d m (d.Durable.length:Int) ((i+1:Nat):Int) (putL e.Name e.Inode files) (taken.set e.Inode.toNat true) else none else none else none else none)=some (d.Inodes.length,durB d.Inodes.length d.Durable i (k+1),f,t)∧(durB d.Inodes.length d.Durable i (k+1)=true→Rd d.Inodes.length f t d.Durable):=by
   intro b hb1 hb2 hnm hbt
   have hlast:=hb1 hbt
   simp only [durB,okD,he,hnm,← hb2,hbt,Bool.true_and]
   by_cases c1:e.Inode<0
   ·have:¬(0:Int)≤e.Inode:=by omega
    exact ⟨files,taken,by simp only [c1,this,decide_true,decide_false,cond_true,Bool.false_and],by simp [this]⟩
   ·have c1':(0:Int)≤e.Inode:=by omega
    by_cases c2:e.Inode≥(d.Inodes.length:Int)
    ·have:¬e.Inode<(d.Inodes.length:Int):=by omega
     exact ⟨files,taken,by simp only [c1,c2,this,decide_true,decide_false,cond_true,cond_false,Bool.false_and,Bool.and_false],by simp [this]⟩
    ·have c2':e.Inode<(d.Inodes.length:Int):=by omega
     have hbl:e.Inode.toNat<taken.length:=by rw [hR.len];omega
     have ht:=hR.tkn e.Inode.toNat (by omega)
     have hee:((e.Inode.toNat:Nat):Int)=e.Inode:=by omega
     rw [hee] at ht
     simp only [c1,c1',c2,c2',decide_true,decide_false,cond_true,cond_false,Bool.and_true,Bool.true_and,blt_of hbl,ht]
     cases hu:usedE (d.Durable.take i) e.Inode with
     | true=>exact ⟨files,taken,rfl,fun h=>by cases h⟩
     | false=>
      simp only [cond_false,Bool.not_false,Bool.true_and]
      have hall:=below_all (N:=d.Inodes.length) (files:=files) (taken:=taken) hR.srt (by omega) hlast
      have hno:lkE e.Name (d.Durable.take i)=none:=lkE_none.2 fun a ha hh=>by have:=hall a ha;rw [hh] at this;exact ky_lt_irrefl _ this
      have hR':=hR.create c1' c2' hno hu hnm
      rw [wi_last hall] at hR'
      have htk:=take_succ (d:=dGDE) (show i<d.Durable.length by omega)
      rw [he] at htk
      have hR2:Rd d.Inodes.length (putL e.Name e.Inode files) (taken.set e.Inode.toNat true) (d.Durable.take (i+1)):=by rw [htk];exact hR'
      exact durable_l0 n d hn hD k (i+1) m _ _ (by omega) hR2 (by omega)
  simp only [dk_durable_l0,hlt,h0,decide_true,Bool.and_true,cond_true,toNat_c,hw,he,isName_eq n e.Name (by omega),Option.bind_some]
  cases hnm:isNm e.Name with
  | false=>
   refine ⟨files,taken,by simp only [durB,okD,he,hnm,Bool.false_and,Bool.not_false,cond_true],?_⟩
   intro hh;simp only [durB,okD,he,hnm,Bool.false_and] at hh;cases hh
  | true=>
   simp only [Bool.not_true,cond_false]
   by_cases hi:i=0
   ·have:¬(i:Int)>0:=by omega
    simp only [this,decide_false,cond_false]
    exact hrest true (fun _=>.inl hi) (by simp [hi]) hnm rfl
   ·have hgt:(i:Int)>0:=by omega
    obtain ⟨j,rfl⟩:∃j,i=j+1:=⟨i-1,by omega⟩
    have hp:=wrp j (by omega)
    have q1:(0:Int)≤(j:Int):=by omega
    have q2:(j:Int)<(d.Durable.length:Int):=by omega
    simp only [hgt,hp,q1,q2,decide_true,Bool.and_true,cond_true,toNat_c]
    cases hs:sLe e.Name (d.Durable.getD j dGDE).Name with
    | true=>
     have hnl:¬ky (d.Durable.getD j dGDE).Name<ky e.Name:=by
      rw [sLe_eq] at hs
      simp only [Bool.or_eq_true,decide_eq_true_eq] at hs
      rcases hs with h | h
      ·exact ky_lt_asymm h
      ·rw [h];exact ky_lt_irrefl _
     have hok:okD d.Inodes.length d.Durable (j+1)=false:=by
      simp only [okD,he,Nat.add_sub_cancel,hnl,decide_false,show ¬(j+1=0) by omega,Bool.or_false,Bool.false_and,Bool.and_false]
     refine ⟨files,taken,by simp only [durB,hok,Bool.false_and,cond_true],?_⟩
     intro hh
     simp only [durB,hok,Bool.false_and] at hh;cases hh
    | false=>
     have hl:ky (d.Durable.getD j dGDE).Name<ky e.Name:=by
      rw [sLe_eq] at hs
      simp only [Bool.or_eq_false_iff,decide_eq_false_iff_not] at hs
      rcases ky_tri e.Name (d.Durable.getD j dGDE).Name with h | h | h
      ·exact absurd h hs.1
      ·exact absurd h hs.2
      ·exact h
     simp only [cond_false]
     exact hrest true (fun _=>.inr (by rw [Nat.add_sub_cancel];exact hl)) (by rw [Nat.add_sub_cancel];simp only [hl,decide_true,Bool.or_true]) hnm rfl
theorem rd0 (N:Nat):Rd N [] (List.replicate N false) []:=by
 refine ⟨List.Pairwise.nil,fun _=>rfl,by simp,fun e he=>by simp at he,fun a ha=>by simp at ha,by simp,fun i hi=>?_,?_⟩
 ·simp [List.getD,usedE,hi]
 ·intro e he;simp at he
theorem durable_eq (n:Nat) (d:GDisk) (hn:d.Durable.length+80≤n) (hD:d.Durable.length≤1000000000) (hI:d.Inodes.length≤1000000) :
  ∃f t,dk_durable n d=some (d.Inodes.length,durA d,f,t)∧(durA d=true→Rd d.Inodes.length f t d.Durable):=by
 obtain ⟨m,rfl⟩:∃m,n=m+1:=⟨n-1,by omega⟩
 have h1:(0:Int)≤(d.Inodes.length:Int):=by omega
 have h2:(d.Inodes.length:Int)*1≤140737488355328:=by omega
 have h3:(d.Inodes.length:Int)≤9223372036854775807:=by omega
 simp only [dk_durable,h1,h2,h3,decide_true,Bool.and_true,cond_true]
 exact durable_l0 m d (by omega) hD d.Durable.length 0 m [] _ (by omega) (by simpa using rd0 _) (by omega)
def curOut (d:GDisk) (r:dk_current_R):Prop:=
 if valid d=true then ∃f t,r=.c2 d.Inodes.length f t∧Rd d.Inodes.length f t (cur d).1 else ∀a f t,r≠.c2 a f t
theorem current_l2 (n:Nat) (N:Nat) (r1:Nat×Bool×(List (ByteArray×Int))×(List Bool)) (h1:r1.1=N) (d:GDisk) (hn:80≤n) (hP:d.Pending.length≤1000000000):∀(k i m:Nat) (f:List (ByteArray×Int)) (t:List Bool) (l:Dir),i+k=d.Pending.length→Rd N f t l→k<m →
  ∃r,dk_current_l2 n r1 d m (d.Pending.length:Int) (i:Int) f t=some r∧(if (aft N (d.Pending.drop i) l).2=true then ∃f' t',r=.c2 N f' t'∧Rd N f' t' (aft N (d.Pending.drop i) l).1 else ∀a f t,r≠.c2 a f t)
 | k,i,0,_,_,_,_,_,h=>by omega
 | 0,i,m+1,f,t,l,h,hR,_=>by
  have:¬((i:Int)<(d.Pending.length:Int)):=by omega
  have h2:d.Pending.drop i=[]:=List.drop_eq_nil_of_le (by omega)
  refine ⟨_,by simp only [dk_current_l2,dk_current_s3,this,decide_false,cond_false];rfl,?_⟩
  rw [h2,h1]
  simp only [aft,if_true]
  exact ⟨f,t,rfl,hR⟩
 | k+1,i,m+1,f,t,l,h,hR,h2=>by
  have hw:=wr1 i (by omega)
  have hlt:(i:Int)<(d.Pending.length:Int):=by omega
  have h0:(0:Int)≤(i:Int):=by omega
  rw [getD_drop (d:=dGDO) (show i<d.Pending.length by omega)]
  obtain ⟨x,hx⟩:∃x,d.Pending.getD i dGDO=x:=⟨_,rfl⟩
  obtain ⟨q,rfl⟩:∃q,n=q+1:=⟨n-1,by omega⟩
  simp only [dk_current_l2,hlt,h0,decide_true,Bool.and_true,cond_true,toNat_c,hw,hx,dk_operationOf,aft,h1]
  have bad:(ap N l x).2=false→∀r:dk_current_R,(∀a f t,r≠.c2 a f t)→(if (bif (ap N l x).2 then aft N (d.Pending.drop (i+1)) (ap N l x).1 else ((ap N l x).1,false)).2=true then ∃f' t',r=.c2 N f' t'∧Rd N f' t' (bif (ap N l x).2 then aft N (d.Pending.drop (i+1)) (ap N l x).1 else ((ap N l x).1,false)).1 else ∀a f t,r≠.c2 a f t):=fun hb r hr=>by
   rw [hb];simpa using hr
  by_cases k1:x.Kind=1
  ·simp only [k1,show ((1:Int)==1)=true by rfl,cond_true,Option.bind_some,mayCreate_eq hR x k1 (show 70≤q+1 by omega)]
   cases ha:(ap N l x).2 with
   | false=>exact ⟨.c1 [] f t,rfl,by simp⟩
   | true=>
    obtain ⟨f',t',e1,e2⟩:=create_eq (n:=q+1) hR x k1 ha (by omega)
    simp only [Bool.not_true,cond_false,cond_true,e1,Option.bind_some]
    exact current_l2 (q+1) N r1 h1 d hn hP k (i+1) m f' t' _ (by omega) e2 (by omega)
  ·have e1:(x.Kind==1)=false:=by simpa using k1
   by_cases k2:x.Kind=2
   ·simp only [k2,show ((2:Int)==1)=false by rfl,show ((2:Int)==2)=true by rfl,cond_true,cond_false,Option.bind_some,mayRename_eq hR x k2 (show 70≤q+1 by omega)]
    cases ha:(ap N l x).2 with
    | false=>exact ⟨.c1 [] f t,rfl,by simp⟩
    | true=>
     obtain ⟨f',t',e1,e2⟩:=rename_eq (n:=q+1) hR x k2 ha (by omega)
     simp only [Bool.not_true,cond_false,cond_true,e1,Option.bind_some]
     exact current_l2 (q+1) N r1 h1 d hn hP k (i+1) m f' t' _ (by omega) e2 (by omega)
   ·have e2:(x.Kind==2)=false:=by simpa using k2
    by_cases k3:x.Kind=3
    ·simp only [k3,show ((3:Int)==1)=false by rfl,show ((3:Int)==2)=false by rfl,show ((3:Int)==3)=true by rfl,cond_true,cond_false,Option.bind_some,mayRemove_eq hR x k3 (show 1≤q+1 by omega)]
     cases ha:(ap N l x).2 with
     | false=>exact ⟨.c1 [] f t,rfl,by simp⟩
     | true=>
      obtain ⟨f',t',e1,e2⟩:=remove_eq (n:=q+1) hR x k3 ha (by omega)
      simp only [Bool.not_true,cond_false,cond_true,e1,Option.bind_some]
      exact current_l2 (q+1) N r1 h1 d hn hP k (i+1) m f' t' _ (by omega) e2 (by omega)
    ·have e3:(x.Kind==3)=false:=by simpa using k3
     simp only [e1,e2,e3,cond_false,Option.bind_some]
     exact ⟨.c1 [] f t,rfl,bad (ap_none k1 k2 k3) _ (by simp)⟩
theorem current_s1 (n:Nat) (d:GDisk) (hn:d.Durable.length+1100≤n) (hD:d.Durable.length≤1000000000) (hI:d.Inodes.length≤1000) (hP:d.Pending.length≤1000) (hL:-1≤d.Left) (hO:d.Inodes.all okI=true):∃r,dk_current_s1 n d=some r∧curOut d r:=by
 obtain ⟨f,t,h1,h2⟩:=durable_eq n d (by omega) hD (by omega)
 simp only [dk_current_s1,h1,Option.bind_some,curOut,valid,hI,hP,hL,hO,decide_true,Bool.true_and]
 cases hd:durA d with
 | false=>exact ⟨_,rfl,by simp⟩
 | true=>
  simp only [Bool.not_true,cond_false,Bool.true_and]
  exact current_l2 n d.Inodes.length (d.Inodes.length,true,f,t) rfl d (by omega) (by omega) d.Pending.length 0 n f t d.Durable (by omega) (h2 hd) (by omega)
theorem current_l0 (n:Nat) (d:GDisk) (hn:d.Durable.length+1100≤n) (hD:d.Durable.length≤1000000000) (hI:d.Inodes.length≤1000) (hP:d.Pending.length≤1000) (hL:-1≤d.Left):∀(k i m:Nat),i+k=d.Inodes.length→(d.Inodes.take i).all okI=true→k<m →
  ∃r,dk_current_l0 n d m (d.Inodes.length:Int) (i:Int)=some r∧curOut d r
 | k,i,0,_,_,h=>by omega
 | 0,i,m+1,h,hO,_=>by
  have:¬((i:Int)<(d.Inodes.length:Int)):=by omega
  rw [List.take_of_length_le (by omega)] at hO
  simp only [dk_current_l0,this,decide_false,cond_false]
  exact current_s1 n d hn hD hI hP hL hO
 | k+1,i,m+1,h,hO,h2=>by
  have hw:=wr1 i (by omega)
  have hlt:(i:Int)<(d.Inodes.length:Int):=by omega
  have h0:(0:Int)≤(i:Int):=by omega
  have hm:d.Inodes.getD i dGI∈d.Inodes:=by
   have:=List.drop_subset i d.Inodes;rw [getD_drop (d:=dGI) (show i<d.Inodes.length by omega)] at this;exact this (by simp)
  have htk:=take_succ (d:=dGI) (show i<d.Inodes.length by omega)
  obtain ⟨x,hx⟩:∃x,d.Inodes.getD i dGI=x:=⟨_,rfl⟩
  rw [hx] at hm htk
  have bad:okI x=false→∀r:dk_current_R,(∀a f t,r≠.c2 a f t)→curOut d r:=fun hb r hr=>by
   have:d.Inodes.all okI=false:=by
    cases ha:d.Inodes.all okI with
    | false=>rfl
    | true=>rw [List.all_eq_true.1 ha x hm] at hb;cases hb
   unfold curOut
   rw [if_neg (by simp [valid,this])]
   exact hr
  simp only [dk_current_l0,hlt,h0,decide_true,Bool.and_true,cond_true,toNat_c,hw,hx]
  by_cases c1:(x.Data.size:Int)>1048576
  ·simp only [c1,decide_true,cond_true]
   exact ⟨_,rfl,bad (by simp only [okI,show ¬x.Data.size≤1048576 by omega,decide_false,Bool.false_and]) _ (by simp)⟩
  ·by_cases c2:x.Synced<0
   ·simp only [c1,c2,decide_true,decide_false,cond_true,cond_false]
    exact ⟨_,rfl,bad (by simp only [okI,show ¬0≤x.Synced by omega,decide_false,Bool.false_and,Bool.and_false]) _ (by simp)⟩
   ·by_cases c3:x.Synced>(x.Data.size:Int)
    ·simp only [c1,c2,c3,decide_true,decide_false,cond_true,cond_false]
     exact ⟨_,rfl,bad (by simp only [okI,show ¬x.Synced≤(x.Data.size:Int) by omega,decide_false,Bool.and_false]) _ (by simp)⟩
    ·simp only [c1,c2,c3,decide_false,cond_false]
     refine current_l0 n d hn hD hI hP hL k (i+1) m (by omega) ?_ (by omega)
     rw [htk,List.all_append,hO]
     simp only [List.all_cons,List.all_nil,Bool.and_true,Bool.true_and,okI,show x.Data.size≤1048576 by omega,show 0≤x.Synced by omega,show x.Synced≤(x.Data.size:Int) by omega,decide_true]
theorem current_eq (n:Nat) (d:GDisk) (hn:d.Durable.length+1101≤n) (hD:d.Durable.length≤1000000000):∃r,dk_current n d=some r∧curOut d r:=by
 obtain ⟨m,rfl⟩:∃m,n=m+1:=⟨n-1,by omega⟩
 simp only [dk_current]
 by_cases c1:(d.Inodes.length:Int)>1000
 ·simp only [c1,decide_true,cond_true]
  refine ⟨_,rfl,?_⟩
  unfold curOut;rw [if_neg (by simp only [valid,show ¬d.Inodes.length≤1000 by omega,decide_false,Bool.false_and];simp)];simp
 ·by_cases c2:(d.Pending.length:Int)>1000
  ·simp only [c1,c2,decide_true,decide_false,cond_true,cond_false]
   refine ⟨_,rfl,?_⟩
   unfold curOut;rw [if_neg (by simp only [valid,show ¬d.Pending.length≤1000 by omega,decide_false,Bool.false_and,Bool.and_false];simp)];simp
  ·by_cases c3:d.Left < -1
   ·simp only [c1,c2,c3,decide_true,decide_false,cond_true,cond_false]
    refine ⟨_,rfl,?_⟩
    unfold curOut;rw [if_neg (by simp only [valid,show ¬-1≤d.Left by omega,decide_false,Bool.false_and,Bool.and_false];simp)];simp
   ·simp only [c1,c2,c3,decide_false,cond_false]
    exact current_l0 m d (by omega) hD (by omega) (by omega) (by omega) d.Inodes.length 0 m (by omega) (by simp) (by omega)
end Go.Proofs.YtomalcfghdaghaaGreatDoor
/- Plain laws,5: the reference's check;files are found and read alike. -/
set_option linter.unusedVariables false
set_option linter.unusedSimpArgs false
namespace Go.Proofs.YtomalcfghdaghaaGreatDoor
open Go Go.AM
structure Bd (B:Nat) (d:GDisk):Prop where
 dn:∀e∈d.Durable,e.Name.size≤B
 pn:∀x∈d.Pending,x.Name.size+x.To.size≤B
 dl:d.Durable.length≤B
 pl:d.Pending.length≤B
 il:d.Inodes.length≤B
 big:B≤100000
theorem check_eq (n B:Nat) (d:GDisk) (hb:Bd B d) (hn:B+1110≤n):dk_Check n d=some (bif valid d then 0 else 1):=by
 obtain ⟨m,rfl⟩:∃m,n=m+1:=⟨n-1,by omega⟩
 have hB:=hb.big;have hdl:=hb.dl
 obtain ⟨r,h1,h2⟩:=current_eq m d (by omega) (by omega)
 simp only [dk_Check,h1,Option.bind_some]
 unfold curOut at h2
 cases hv:valid d with
 | true=>
  rw [if_pos hv] at h2
  obtain ⟨f,t,rfl,_⟩:=h2;rfl
 | false=>
  rw [if_neg (by simp [hv])] at h2
  cases r with
  | c0 a=>rfl
  | c1 a b c=>rfl
  | c2 a f t=>exact absurd rfl (h2 a f t)
theorem cur_rd {d:GDisk} (hv:valid d=true) (hD:d.Durable.length≤1000000000):∃f t,Rd d.Inodes.length f t (cur d).1:=by
 obtain ⟨r,h1,h2⟩:=current_eq (d.Durable.length+1101) d (by omega) hD
 unfold curOut at h2
 rw [if_pos hv] at h2
 obtain ⟨f,t,_,h⟩:=h2
 exact ⟨f,t,h⟩
theorem valid_il {d:GDisk} (hv:valid d=true):d.Inodes.length≤1000∧d.Pending.length≤1000∧-1≤d.Left∧d.Inodes.all okI=true∧durA d=true∧(cur d).2=true:=by
 simpa [valid,and_assoc] using hv
theorem cur_len {d:GDisk} (hv:valid d=true) (hD:d.Durable.length≤1000000000):(cur d).1.length≤1000:=by
 obtain ⟨f,t,h⟩:=cur_rd hv hD
 have:=h.bound;have:=(valid_il hv).1;omega
def fnd (d:GDisk) (name:ByteArray):Int×Int:=bif valid d then (match lkE name (cur d).1 with | none=>(0,7) | some i=>(i,0)) else (0,1)
theorem find_d (n B:Nat) (d:GDisk) (name:ByteArray) (hb:Bd B d) (hn:B+1110≤n):dk_find n d name=some (fnd d name):=by
 obtain ⟨m,rfl⟩:∃m,n=m+1:=⟨n-1,by omega⟩
 have hB:=hb.big;have hdl:=hb.dl
 obtain ⟨r,h1,h2⟩:=current_eq m d (by omega) (by omega)
 simp only [dk_find,h1,Option.bind_some,fnd]
 unfold curOut at h2
 cases hv:valid d with
 | true=>
  rw [if_pos hv] at h2
  obtain ⟨f,t,rfl,hR⟩:=h2
  simp only [cond_true,lk_is hR,hR.lks,Bool.not_not]
  cases lkE name (cur d).1<;>rfl
 | false=>
  rw [if_neg (by simp [hv])] at h2
  cases r with
  | c0 a=>rfl
  | c1 a b c=>rfl
  | c2 a f t=>exact absurd rfl (h2 a f t)
theorem fnd_in {d:GDisk} {name:ByteArray} (hD:d.Durable.length≤1000000000) (h:(fnd d name).2=0):valid d=true∧0≤(fnd d name).1∧(fnd d name).1<d.Inodes.length:=by
 unfold fnd at *
 cases hv:valid d with
 | false=>rw [hv] at h;simp at h
 | true=>
  obtain ⟨f,t,hR⟩:=cur_rd hv hD
  rw [hv] at h
  simp only [cond_true] at *
  cases hl:lkE name (cur d).1 with
  | none=>rw [hl] at h;simp at h
  | some i=>exact ⟨trivial,rng_of hR hl⟩
def lsF (d:GDisk):List ByteArray:=bif valid d then (cur d).1.map (·.Name) else []
theorem sorted_rd {N:Nat} {f:List (ByteArray×Int)} {t:List Bool} {l:Dir} (h:Rd N f t l) (n:Nat) (hn:1≤n) (hl:l.length≤1000000000):sortedKeys n f=some (l.map (·.Name)):=by
 obtain ⟨m,rfl⟩:∃m,n=m+1:=⟨n-1,by omega⟩
 have hnm:=h.names
 have hlen:f.length=l.length:=by
  have:=(perm_isort (f.map (·.1))).length_eq
  rw [hnm] at this;simpa using this.symm
 have hsz:f.all (fun p=>decide (p.1.size≤9223372036854775807))=true:=List.all_eq_true.2 fun p hp=>by
  have h1:p.1∈isort (f.map (·.1)):=(perm_isort _).mem_iff.2 (List.mem_map.2 ⟨p,hp,rfl⟩)
  rw [hnm] at h1
  obtain ⟨e,he,e1⟩:=List.mem_map.1 h1
  have h2:=h.nms e he
  simp only [isNm,Bool.and_eq_true,decide_eq_true_eq] at h2
  rw [e1] at h2
  exact decide_eq_true (by omega)
 simp only [sortedKeys,hsz,show f.length*16≤140737488355328 by omega,decide_true,Bool.true_and,cond_true,hnm]
end Go.Proofs.YtomalcfghdaghaaGreatDoor
/- Plain laws,6: a loss of power;disks held against each other. -/
set_option linter.unusedVariables false
set_option linter.unusedSimpArgs false
namespace Go.Proofs.YtomalcfghdaghaaGreatDoor
open Go Go.AM
theorem inode_ok {d:GDisk} (hO:d.Inodes.all okI=true) {i:Int} (h0:0≤i) (h1:i<d.Inodes.length):okI (d.Inodes.getD i.toNat dGI)=true:=by
 have hi:i.toNat<d.Inodes.length:=by omega
 have hm:d.Inodes.getD i.toNat dGI∈d.Inodes:=by
  have:=List.drop_subset i.toNat d.Inodes;rw [getD_drop (d:=dGI) hi] at this;exact this (by simp)
 exact List.all_eq_true.1 hO _ hm
end Go.Proofs.YtomalcfghdaghaaGreatDoor
/- Plain laws,7: sizes;DiskReads. -/
set_option linter.unusedVariables false
set_option linter.unusedSimpArgs false
namespace Go.Proofs.YtomalcfghdaghaaGreatDoor
open Go Go.AM
theorem great_l4 (n:Nat) (d:GDisk) (h1:d.Pending.length≤1000000000):∀(k i m:Nat) (s:Int),i+k=d.Pending.length→k<m→∃b,r22_Great_l4 n d m s (i:Int)=some b∧(b=false→∀x∈d.Pending.drop i,x.Name.size≤100∧x.To.size≤100)
 | k,i,0,_,_,h=>by omega
 | 0,i,m+1,s,h,_=>by
  have:¬((i:Int)<(d.Pending.length:Int)):=by omega
  rw [List.drop_eq_nil_of_le (by omega)]
  exact ⟨decide (s>60000),by simp only [r22_Great_l4,r22_Great_s5,this,decide_false,cond_false],fun _ x hx=>by simp at hx⟩
 | k+1,i,m+1,s,h,h2=>by
  rw [getD_drop (d:=dGDO) (show i<d.Pending.length by omega)]
  obtain ⟨b,e1,e2⟩:=great_l4 n d h1 k (i+1) m s (by omega) (by omega)
  obtain ⟨x,hx⟩:∃x,d.Pending.getD i dGDO=x:=⟨_,rfl⟩
  simp only [r22_Great_l4,show (i:Int)<(d.Pending.length:Int) by omega,show (0:Int)≤(i:Int) by omega,decide_true,Bool.and_true,cond_true,toNat_c,wr1 i (by omega),hx,e1]
  by_cases c1:(x.Name.size:Int)>100
  ·exact ⟨true,by simp only [c1,decide_true,cond_true],fun h=>by cases h⟩
  ·by_cases c2:(x.To.size:Int)>100
   ·exact ⟨true,by simp only [c1,c2,decide_true,decide_false,cond_true,cond_false],fun h=>by cases h⟩
   ·refine ⟨b,by simp only [c1,c2,decide_false,cond_false],fun h y hy=>?_⟩
    rcases List.mem_cons.1 hy with rfl | hy
    ·omega
    ·exact e2 h y hy
theorem great_l2 (n:Nat) (d:GDisk) (h1:d.Pending.length<n) (h1':d.Durable.length≤1000000000) (hn:d.Pending.length≤1000000000∧d.Durable.length≤1000000000):∀(k i m:Nat) (s:Int),i+k=d.Durable.length→k<m→∃b,r22_Great_l2 n d m s (i:Int)=some b∧(b=false→(∀x∈d.Durable.drop i,x.Name.size≤100)∧∀x∈d.Pending,x.Name.size≤100∧x.To.size≤100)
 | k,i,0,_,_,h=>by omega
 | 0,i,m+1,s,h,_=>by
  have:¬((i:Int)<(d.Durable.length:Int)):=by omega
  rw [List.drop_eq_nil_of_le (by omega)]
  obtain ⟨b,e1,e2⟩:=great_l4 n d (by omega) d.Pending.length 0 n s (by omega) h1
  refine ⟨b,by simp only [r22_Great_l2,r22_Great_s3,this,decide_false,cond_false];exact e1,fun h=>⟨fun x hx=>by simp at hx,?_⟩⟩
  simpa using e2 h
 | k+1,i,m+1,s,h,h2=>by
  rw [getD_drop (d:=dGDE) (show i<d.Durable.length by omega)]
  obtain ⟨b,e1,e2⟩:=great_l2 n d h1 h1' hn k (i+1) m s (by omega) (by omega)
  obtain ⟨x,hx⟩:∃x,d.Durable.getD i dGDE=x:=⟨_,rfl⟩
  simp only [r22_Great_l2,show (i:Int)<(d.Durable.length:Int) by omega,show (0:Int)≤(i:Int) by omega,decide_true,Bool.and_true,cond_true,toNat_c,wr1 i (by omega),hx,e1]
  by_cases c1:(x.Name.size:Int)>100
  ·exact ⟨true,by simp only [c1,decide_true,cond_true],fun h=>by cases h⟩
  ·refine ⟨b,by simp only [c1,decide_false,cond_false],fun h=>⟨fun y hy=>?_,(e2 h).2⟩⟩
   rcases List.mem_cons.1 hy with rfl | hy
   ·omega
   ·exact (e2 h).1 y hy
theorem great_l0 (n:Nat) (d:GDisk) (h1:d.Pending.length<n) (h1':d.Durable.length<n) (hn:d.Pending.length≤1000000000∧d.Durable.length≤1000000000) (hI:d.Inodes.length≤1000000000):∀(k i m:Nat) (s:Int),i+k=d.Inodes.length→k<m→∃b,r22_Great_l0 n d m s (i:Int)=some b∧(b=false→(∀x∈d.Durable,x.Name.size≤100)∧∀x∈d.Pending,x.Name.size≤100∧x.To.size≤100)
 | k,i,0,_,_,h=>by omega
 | 0,i,m+1,s,h,_=>by
  have:¬((i:Int)<(d.Inodes.length:Int)):=by omega
  obtain ⟨b,e1,e2⟩:=great_l2 n d h1 (by omega) hn d.Durable.length 0 n s (by omega) h1'
  refine ⟨b,by simp only [r22_Great_l0,r22_Great_s1,this,decide_false,cond_false];exact e1,fun h=>?_⟩
  simpa using e2 h
 | k+1,i,m+1,s,h,h2=>by
  obtain ⟨x,hx⟩:∃x,d.Inodes.getD i dGI=x:=⟨_,rfl⟩
  obtain ⟨b,e1,e2⟩:=great_l0 n d h1 h1' hn hI k (i+1) m (IntKind.wrap .i64 (s+(x.Data.size:Int))) (by omega) (by omega)
  simp only [r22_Great_l0,show (i:Int)<(d.Inodes.length:Int) by omega,show (0:Int)≤(i:Int) by omega,decide_true,Bool.and_true,cond_true,toNat_c,wr1 i (by omega),hx,e1]
  by_cases c1:(x.Data.size:Int)>20000
  ·exact ⟨true,by simp only [c1,decide_true,cond_true],fun h=>by cases h⟩
  ·exact ⟨b,by simp only [c1,decide_false,cond_false],e2⟩
theorem great_all (n:Nat) (d:GDisk) (hn:50≤n):∃b,r22_Great n d=some b∧(b=false→Bd 200 d∧d.Inodes.length≤40∧d.Durable.length≤40∧d.Pending.length≤40):=by
 obtain ⟨m,rfl⟩:∃m,n=m+1:=⟨n-1,by omega⟩
 by_cases c1:(d.Inodes.length:Int)>40
 ·exact ⟨true,by simp only [r22_Great,c1,decide_true,cond_true],fun h=>by cases h⟩
 ·by_cases c2:(d.Durable.length:Int)>40
  ·exact ⟨true,by simp only [r22_Great,c1,c2,decide_true,decide_false,cond_true,cond_false],fun h=>by cases h⟩
  ·by_cases c3:(d.Pending.length:Int)>40
   ·exact ⟨true,by simp only [r22_Great,c1,c2,c3,decide_true,decide_false,cond_true,cond_false],fun h=>by cases h⟩
   ·obtain ⟨b,e1,e2⟩:=great_l0 m d (by omega) (by omega) ⟨by omega,by omega⟩ (by omega) d.Inodes.length 0 m 0 (by omega) (by omega)
    refine ⟨b,by simp only [r22_Great,c1,c2,c3,decide_false,cond_false];exact e1,fun h=>⟨⟨fun e he=>?_,fun x hx=>?_,by omega,by omega,by omega,by omega⟩,by omega,by omega,by omega⟩⟩
    ·have:=(e2 h).1 e he;omega
    ·have:=(e2 h).2 x hx;omega
end Go.Proofs.YtomalcfghdaghaaGreatDoor
/- Plain laws,8: the program's operations. -/
set_option linter.unusedVariables false
set_option linter.unusedSimpArgs false
namespace Go.Proofs.YtomalcfghdaghaaGreatDoor
open Go Go.AM
def prf (d next:GDisk):GDisk×Int:=if d.Left=0 then (d,19) else (⟨next.Inodes,next.Durable,next.Pending,if d.Left>0 then d.Left-1 else d.Left⟩,0)
def no (e:Int):GDisk×Int:=(⟨[],[],[],0⟩,e)
structure Lw (d:GDisk):Prop where
 lo:-9223372036854775808≤d.Left
 hi:d.Left≤9223372036854775807
theorem perform_eq (n:Nat) (d next:GDisk) (hn:1≤n) (hL:next.Left=d.Left) (hw:Lw d):dk_perform n d next=some (prf d next):=by
 obtain ⟨m,rfl⟩:∃m,n=m+1:=⟨n-1,by omega⟩
 have h1:=hw.lo;have h2:=hw.hi
 simp only [dk_perform,dk_perform_s0,prf]
 by_cases c:d.Left=0
 ·simp [c]
 ·have e:(d.Left==0)=false:=by simpa using c
  rw [e];simp only [cond_false]
  rw [if_neg c]
  by_cases c2:d.Left>0
  ·simp only [c2,decide_true,cond_true,if_true,wr (d.Left-1) (by omega) (by omega)]
  ·simp only [c2,decide_false,cond_false,if_false,hL]
theorem pend_eq (n:Nat) (d:GDisk) (x:GDO) (hn:2≤n) (hl:d.Pending.length≤1000):dk_pend n d x=some ⟨d.Inodes,d.Durable,d.Pending++[x],d.Left⟩:=by
 obtain ⟨m,rfl⟩:∃m,n=m+2:=⟨n-2,by omega⟩
 simp only [dk_pend,sl_Clip,show (0:Int)≤0 by omega,show (0:Int)≤(d.Pending.length:Int) by omega,show ((d.Pending.length:Int)≤(d.Pending.length:Int)) by omega,decide_true,Bool.and_true,cond_true,Option.bind_some,app_ok (n:=d.Pending.length) (b:=48) (by omega) (by omega)]
def ino (d:GDisk) (name:ByteArray):Nat:=(fnd d name).1.toNat
def file (d:GDisk) (name:ByteArray):GI:=d.Inodes.getD (ino d name) dGI
def remF (d:GDisk) (name:ByteArray):GDisk×Int:=
 if (fnd d name).2≠0 then no (fnd d name).2 else if d.Pending.length≥1000 then no 18 else prf d ⟨d.Inodes,d.Durable,d.Pending++[⟨3,name,bE,0⟩],d.Left⟩
theorem file_ok {d:GDisk} {name:ByteArray} (hD:d.Durable.length≤1000000000) (h:(fnd d name).2=0):okI (file d name)=true∧ino d name<d.Inodes.length∧0≤(fnd d name).1∧(fnd d name).1<d.Inodes.length∧d.Inodes.length≤1000∧d.Pending.length≤1000:=by
 obtain ⟨hv,h1,h2⟩:=fnd_in hD h
 obtain ⟨i1,i2,i3,i4,i5,i6⟩:=valid_il hv
 exact ⟨inode_ok i4 h1 h2,by unfold ino;omega,h1,h2,i1,i2⟩
theorem remove_f (n B:Nat) (d:GDisk) (name:ByteArray) (hb:Bd B d) (hw:Lw d) (hn:B+1200≤n):dk_Remove n d name=some (remF d name):=by
 obtain ⟨m,rfl⟩:∃m,n=m+1:=⟨n-1,by omega⟩
 have hB:=hb.big;have hdl:=hb.dl
 simp only [dk_Remove,find_d m B d name hb (by omega),Option.bind_some,remF]
 by_cases he:(fnd d name).2=0
 ·obtain ⟨o1,o2,o3,o4,o5,o6⟩:=file_ok (by omega) he
  simp only [he,show ((0:Int) != 0)=false by rfl,cond_false,ne_eq,not_true_eq_false,if_false]
  by_cases c:d.Pending.length≥1000
  ·rw [if_pos c];simp only [show (d.Pending.length:Int)≥1000 by omega,decide_true,cond_true];rfl
  ·rw [if_neg c]
   simp only [show ¬(d.Pending.length:Int)≥1000 by omega,decide_false,cond_false,pend_eq m d _ (by omega) o6,Option.bind_some]
   rw [perform_eq m d _ (by omega) (by rfl) hw];rfl
 ·have e:((fnd d name).2 != 0)=true:=by simpa [bne] using he
  rw [if_pos he]
  simp only [e,cond_true];rfl
end Go.Proofs.YtomalcfghdaghaaGreatDoor
/- Plain laws,9: what the operations leave of sizes and power;DiskPower. -/
set_option linter.unusedVariables false
set_option linter.unusedSimpArgs false
namespace Go.Proofs.YtomalcfghdaghaaGreatDoor
open Go Go.AM
structure Bg (c:Nat) (d:GDisk):Prop where
 dn:∀e∈d.Durable,e.Name.size≤200
 pn:∀x∈d.Pending,x.Name.size+x.To.size≤200
 dl:d.Durable.length+d.Pending.length≤c
 il:d.Inodes.length≤c
theorem Bg.bd {c:Nat} {d:GDisk} (h:Bg c d) (hc:c≤200):Bd 200 d:=⟨h.dn,h.pn,by have:=h.dl;omega,by have:=h.dl;omega,by have:=h.il;omega,by omega⟩
theorem Bg.mono {c c':Nat} {d:GDisk} (h:Bg c d) (hc:c≤c'):Bg c' d:=⟨h.dn,h.pn,by have:=h.dl;omega,by have:=h.il;omega⟩
theorem aft_len (N:Int):∀(ops:List GDO) (l:Dir),(aft N ops l).1.length≤l.length+ops.length
 | [],l=>by simp [aft]
 | x::ops,l=>by
  have h1:=ap_len N l x
  have ih:=aft_len N ops (ap N l x).1
  simp only [aft,List.length_cons]
  cases (ap N l x).2<;>simp only [cond_true,cond_false]<;>omega
theorem isNm_size {s:ByteArray} (h:isNm s=true):s.size≤60:=by
 simp only [isNm,Bool.and_eq_true,decide_eq_true_eq] at h;exact h.1.2
structure Out (c:Nat) (d:GDisk) (r:GDisk×Int):Prop where
 ok:r.2=0→d.Left≠0∧r.1.Left=(if d.Left>0 then d.Left-1 else d.Left)∧Bg (c+1) r.1
 lost:r.2=19→d.Left=0∧r.1=d
 err:r.2≠0→r.2≠19→r.1=⟨[],[],[],0⟩
theorem bg_pend {c:Nat} {d:GDisk} {x:GDO} {I:List GI} (h:Bg c d) (hx:x.Name.size+x.To.size≤200) (hI:I.length≤c+1):Bg (c+1) ⟨I,d.Durable,d.Pending++[x],d.Left⟩:=by
 refine ⟨h.dn,fun y hy=>?_,?_,hI⟩
 ·rcases List.mem_append.1 hy with hy | hy
  ·exact h.pn y hy
  ·have:=List.mem_singleton.1 hy;rw [this];exact hx
 ·have:=h.dl;simp only [List.length_append,List.length_singleton];omega
end Go.Proofs.YtomalcfghdaghaaGreatDoor
/- Plain laws,10: the reference's operations;DiskChanges,DiskRun. -/
set_option linter.unusedVariables false
set_option linter.unusedSimpArgs false
namespace Go.Proofs.YtomalcfghdaghaaGreatDoor
open Go Go.AM
end Go.Proofs.YtomalcfghdaghaaGreatDoor
/- Plain laws,11: what is valid stays valid;DiskValid,DiskReplaces. -/
set_option linter.unusedVariables false
set_option linter.unusedSimpArgs false
namespace Go.Proofs.YtomalcfghdaghaaGreatDoor
open Go Go.AM
theorem aft_app {N:Int} {x:GDO}:∀{ops:List GDO} {l:Dir},(aft N ops l).2=true→aft N (ops++[x]) l=ap N (aft N ops l).1 x
 | [],l,_=>by
  simp only [List.nil_append,aft]
  cases ha:(ap N l x).2<;>simp only [cond_true,cond_false]<;>rw [← ha]
 | y::ops,l,h=>by
  simp only [List.cons_append,aft] at h ⊢
  cases ha:(ap N l y).2 with
  | false=>rw [ha] at h;cases h
  | true=>
   rw [ha] at h
   simp only [cond_true] at h ⊢
   exact aft_app h
theorem valid_of {d:GDisk} (h1:d.Inodes.length≤1000) (h2:d.Pending.length≤1000) (h3:-1≤d.Left) (h4:d.Inodes.all okI=true) (h5:durA d=true) (h6:(cur d).2=true):valid d=true:=by
 simp only [valid,h1,h2,h3,h4,h5,h6,decide_true,Bool.and_true]
theorem valid_pend {d:GDisk} {x:GDO} (h:valid d=true) (hp:d.Pending.length<1000) (hx:(ap (d.Inodes.length:Int) (cur d).1 x).2=true) (L:Int) (hL:-1≤L):valid ⟨d.Inodes,d.Durable,d.Pending++[x],L⟩=true:=by
 obtain ⟨h1,h2,h3,h4,h5,h6⟩:=valid_il h
 refine valid_of h1 (by simp;omega) hL h4 h5 ?_
 show (aft (d.Inodes.length:Int) (d.Pending++[x]) d.Durable).2=true
 rw [aft_app h6];exact hx
end Go.Proofs.YtomalcfghdaghaaGreatDoor
/- Plain laws,12: losing power twice;what is read after a loss;DiskValid,DiskReplaces. -/
set_option linter.unusedVariables false
set_option linter.unusedSimpArgs false
namespace Go.Proofs.YtomalcfghdaghaaGreatDoor
open Go Go.AM
end Go.Proofs.YtomalcfghdaghaaGreatDoor
/- Plain laws,13: what a disk's files hold;maps held against each other;DiskLoss,DiskDurable. -/
set_option linter.unusedVariables false
set_option linter.unusedSimpArgs false
namespace Go.Proofs.YtomalcfghdaghaaGreatDoor
open Go Go.AM
def con (d:GDisk) (name:ByteArray):Option ByteArray:=bif valid d then (lkE name (cur d).1).map (fun i=>(d.Inodes.getD i.toNat dGI).Data) else none
end Go.Proofs.YtomalcfghdaghaaGreatDoor
/- Plain laws,14: what the operations do to the files;DiskDurable,DiskFiles. -/
set_option linter.unusedVariables false
set_option linter.unusedSimpArgs false
namespace Go.Proofs.YtomalcfghdaghaaGreatDoor
open Go Go.AM
structure Dur (d D:GDisk) (names:List ByteArray):Prop where
 v:valid D=true
 du:D.Durable=d.Durable
 pe:D.Pending=d.Pending
 le:D.Left=-1
 il:D.Inodes.length=d.Inodes.length
 da:∀q,con D q=con d q
 sy:∀x∈names,∀i,lkE x (cur d).1=some i→(D.Inodes.getD i.toNat dGI).Synced=((D.Inodes.getD i.toNat dGI).Data.size:Int)
theorem Dur.cur {d D:GDisk} {l:List ByteArray} (h:Dur d D l):cur D=cur d:=by unfold Go.Proofs.YtomalcfghdaghaaGreatDoor.cur;rw [h.du,h.pe,h.il]
theorem Dur.bd {d D:GDisk} {l:List ByteArray} {B:Nat} (h:Dur d D l) (hb:Bd B d):Bd B D:=⟨fun e he=>hb.dn e (by rw [← h.du];exact he),fun e he=>hb.pn e (by rw [← h.pe];exact he),by rw [h.du];exact hb.dl,by rw [h.pe];exact hb.pl,by rw [h.il];exact hb.il,hb.big⟩
end Go.Proofs.YtomalcfghdaghaaGreatDoor
/- Plain laws,15: DiskFiles. -/
set_option linter.unusedVariables false
set_option linter.unusedSimpArgs false
namespace Go.Proofs.YtomalcfghdaghaaGreatDoor
open Go Go.AM
end Go.Proofs.YtomalcfghdaghaaGreatDoor
