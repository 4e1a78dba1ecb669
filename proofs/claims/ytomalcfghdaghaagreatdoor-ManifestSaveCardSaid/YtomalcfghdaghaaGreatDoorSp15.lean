/- Plain laws, 3: one pending operation, and all of them, in the reference and in the program. -/
import Derived.Test.YtomalcfghdaghaaGreatDoorSp2
import Derived.Test.YtomalcfghdaghaaGreatDoorWf
set_option linter.unusedVariables false
set_option linter.unusedSimpArgs false
namespace Go.Proofs.YtomalcfghdaghaaGreatDoor
open Go Go.AM
def ap (N:Int) (l:Dir) (x:GDO):Dir×Bool:=
 bif x.Kind==1 then (wi ⟨x.Name,x.Inode⟩ l,isNm x.Name&&((lkE x.Name l).isNone&&(decide (x.Inode≥0)&&(decide (x.Inode<N)&&(!usedE l x.Inode&&decide (x.To=bE))))))
 else match lkE x.Name l with
  | none=>(l,false)
  | some ino=>bif x.Inode != 0 then (l,false) else bif x.Kind==2 then (wi ⟨x.To,ino⟩ (wo (wo l x.Name) x.To),isNm x.To&&!decide (x.To=x.Name)) else (wo l x.Name,x.Kind==3&&decide (x.To=bE))
def aft (N:Int):List GDO→Dir→Dir×Bool
 | [],l=>(l,true)
 | x::ops,l=>bif (ap N l x).2 then aft N ops (ap N l x).1 else ((ap N l x).1,false)
theorem ap_len (N:Int) (l:Dir) (x:GDO):(ap N l x).1.length≤l.length+1:=by
 unfold ap
 cases x.Kind==1 with
 | true=>simp [len_wi]
 | false=>
  simp only [cond_false]
  cases lkE x.Name l with
  | none=>simp
  | some ino=>
   cases x.Inode != 0<;>simp only [cond_true,cond_false]
   ·cases x.Kind==2<;>simp only [cond_true,cond_false]
    ·have:=len_wo l x.Name;omega
    ·rw [len_wi];have:=len_wo l x.Name;have:=len_wo (wo l x.Name) x.To;omega
   ·omega
theorem apply_l0 (n:Nat) (l:Dir) (N:Int) (x:GDO) (r1:Int):∀(k i m:Nat) (b:Bool),i+k=l.length→l.length≤1000000000→k<m →
  r22_apply_l0 n l N x r1 m b (i:Int)=r22_apply_s2 n l N x r1 (b||usedE (l.drop i) x.Inode)
 | k,i,0,_,_,_,h=>by omega
 | 0,i,m+1,b,h,h1,_=>by
  have:¬((i:Int)<(l.length:Int)):=by omega
  have h2:l.drop i=[]:=List.drop_eq_nil_of_le (by omega)
  simp [r22_apply_l0,this,h2,usedE]
 | k+1,i,m+1,b,h,h1,h2=>by
  have hw:=wr1 i (by omega)
  have hlt:(i:Int)<(l.length:Int):=by omega
  have h0:(0:Int)≤(i:Int):=by omega
  have ih:∀b,r22_apply_l0 n l N x r1 m b ((i+1:Nat):Int)=r22_apply_s2 n l N x r1 (b||usedE (l.drop (i+1)) x.Inode):=fun b=>apply_l0 n l N x r1 k (i+1) m b (by omega) h1 (by omega)
  rw [getD_drop (d:=dGDE) (show i<l.length by omega)]
  simp only [r22_apply_l0,r22_apply_s1,hlt,h0,decide_true,Bool.and_true,cond_true,toNat_c,hw,ih,usedE,List.any_cons]
  cases b<;>simp
theorem apply_s3 (n:Nat) (l:Dir) (x:GDO) (b:Bool) (h:l.length+2≤n) (hl:l.length≤1000000000):r22_apply_s3 n l x b=some (wi ⟨x.Name,x.Inode⟩ l,b):=by
 simp only [r22_apply_s3,with_eq n l _ h hl,Option.bind_some]
theorem apply_eq (n:Nat) (l:Dir) (x:GDO) (N:Int) (h:l.length+x.Name.size+x.To.size+5≤n) (hl:l.length+10≤1000000000) (hs:x.Name.size+x.To.size<1000000000):r22_apply n l x N=some (ap N l x):=by
 obtain ⟨m,rfl⟩:∃m,n=m+1:=⟨n-1,by omega⟩
 obtain ⟨i1,i2⟩:=ix_lk x.Name l
 simp only [r22_apply,find_eq m l x.Name (by omega) (by omega),Option.bind_some,ap]
 cases hk:x.Kind==1 with
 | true=>
  simp only [cond_true]
  have e:=apply_l0 m l N x (match ixE x.Name l with | some j=>(j:Int) | none=>-1) l.length 0 m false (by omega) (by omega) (by omega)
  refine Eq.trans e ?_
  simp only [Bool.false_or,List.drop_zero,r22_apply_s2,name_eq m x.Name (by omega) (by omega),Option.bind_some,apply_s3 m l x _ (show l.length+2≤m by omega) (by omega),sEq_eq]
  have hr:decide ((match ixE x.Name l with | some j=>(j:Int) | none=>-1)<0)=(lkE x.Name l).isNone:=by
   rw [← i1];cases ixE x.Name l<;>simp
  rw [hr]
  cases isNm x.Name<;>cases (lkE x.Name l).isNone<;>cases decide (x.Inode≥0)<;>cases decide (x.Inode<N)<;>cases usedE l x.Inode<;>rfl
 | false=>
  simp only [cond_false,r22_apply_s4]
  cases hx:ixE x.Name l with
  | none=>
   rw [hx] at i1
   rw [← i1]
   simp
  | some j=>
   rw [hx] at i1
   have hj:=i2 j hx
   rw [← i1]
   have h1:¬((j:Int)<0):=by omega
   have h2:(0:Int)≤(j:Int):=by omega
   have h3:(j:Int)<(l.length:Int):=by omega
   simp only [Option.map_some,h1,h2,h3,decide_false,decide_true,Bool.and_true,cond_false,cond_true,toNat_c,without_eq m l x.Name (by omega) (by omega),Option.bind_some]
   have l1:=len_wo l x.Name
   have l2:=len_wo (wo l x.Name) x.To
   cases hi:x.Inode != 0 with
   | true=>rfl
   | false=>
    simp only [cond_false]
    cases hk2:x.Kind==2 with
    | true=>
     simp only [cond_true,without_eq m (wo l x.Name) x.To (by omega) (by omega),Option.bind_some,with_eq m (wo (wo l x.Name) x.To) _ (by omega) (by omega),name_eq m x.To (by omega) (by omega),sNe_eq]
     cases isNm x.To<;>rfl
    | false=>
     simp only [cond_false,sEq_eq]
     cases x.Kind==3<;>rfl
theorem after_l0 (n:Nat) (ops:List GDO) (N:Int) (S:Nat) (hS:∀x∈ops,x.Name.size+x.To.size≤S):∀(k i m:Nat) (l:Dir) (b:Bool),i+k=ops.length→l.length+k+S+5≤n→l.length+k+10≤1000000000→S<1000000000→ops.length≤1000000000→k<m →
  r22_after_l0 n ops N m l b (i:Int)=some (bif b then aft N (ops.drop i) l else (l,false))
 | k,i,0,_,_,_,_,_,_,_,h=>by omega
 | 0,i,m+1,l,b,h,_,_,_,_,_=>by
  have:¬((i:Int)<(ops.length:Int)):=by omega
  have h2:ops.drop i=[]:=List.drop_eq_nil_of_le (by omega)
  simp only [r22_after_l0,r22_after_s1,this,decide_false,cond_false,h2,aft]
  cases b<;>rfl
 | k+1,i,m+1,l,b,h,h1,h2,h3,h4,h5=>by
  have hw:=wr1 i (by omega)
  have hlt:(i:Int)<(ops.length:Int):=by omega
  have h0:(0:Int)≤(i:Int):=by omega
  have hd:=getD_drop (d:=dGDO) (show i<ops.length by omega)
  have hm:ops.getD i dGDO∈ops:=by have:=List.drop_subset i ops;rw [hd] at this;exact this (by simp)
  have hsz:=hS _ hm
  cases b with
  | false=>simp only [r22_after_l0,r22_after_s1,cond_false]
  | true=>
   have hlen:=ap_len N l (ops.getD i dGDO)
   have ih:=after_l0 n ops N S hS k (i+1) m (ap N l (ops.getD i dGDO)).1 (ap N l (ops.getD i dGDO)).2 (by omega) (by omega) (by omega) h3 h4 (by omega)
   rw [hd]
   simp only [r22_after_l0,hlt,h0,decide_true,Bool.and_true,cond_true,toNat_c,hw,apply_eq n l (ops.getD i dGDO) N (by omega) (by omega) (by omega),Option.bind_some,ih,aft]
theorem after_eq (n:Nat) (l:Dir) (ops:List GDO) (N:Int) (S:Nat) (hS:∀x∈ops,x.Name.size+x.To.size≤S) (h:l.length+ops.length+S+6≤n) (hl:l.length+ops.length+10≤1000000000) (h3:S<1000000000):r22_after n l ops N=some (aft N ops l):=by
 obtain ⟨m,rfl⟩:∃m,n=m+1:=⟨n-1,by omega⟩
 simp only [r22_after]
 have:=after_l0 m ops N S hS ops.length 0 m l true (by omega) (by omega) (by omega) h3 (by omega) (by omega)
 exact this.trans (by simp)
theorem lk_is {N:Nat} {files:List (ByteArray×Int)} {taken:List Bool} {l:Dir} (h:Rd N files taken l) (k:ByteArray):(lk k files).isSome=!(lkE k l).isNone:=by
 rw [h.lks];cases lkE k l<;>rfl
theorem rng_of {N:Nat} {files:List (ByteArray×Int)} {taken:List Bool} {l:Dir} (h:Rd N files taken l) {k:ByteArray} {ino:Int} (hk:lkE k l=some ino):0≤ino∧ino<N:=h.rng _ ((lkE_some h.srt).1 hk)
theorem blt_of {i n:Nat} (h:i<n):Nat.blt i n=true:=by rw [Nat.blt_eq];exact h
theorem mayCreate_eq {N n:Nat} {files:List (ByteArray×Int)} {taken:List Bool} {l:Dir} (h:Rd N files taken l) (x:GDO) (hk:x.Kind=1) (hn:70≤n):dk_mayCreate n N x files taken=some ((ap N l x).2,files,taken):=by
 obtain ⟨m,rfl⟩:∃m,n=m+1:=⟨n-1,by omega⟩
 simp only [dk_mayCreate,isName_eq m x.Name (by omega),Option.bind_some,lk_is h,sEq_eq,Bool.not_not,ap,hk,beq_self_eq_true,cond_true]
 cases isNm x.Name<;>cases (lkE x.Name l).isNone<;>cases decide (x.To=bE)<;>simp only [cond_true,cond_false,Bool.true_and,Bool.false_and,Bool.and_true,Bool.and_false]
 by_cases h1:x.Inode≥0
 ·by_cases h2:x.Inode<(N:Int)
  ·have h3:(0:Int)≤x.Inode:=h1
   have hb:x.Inode.toNat<taken.length:=by rw [h.len];omega
   have ht:=h.tkn x.Inode.toNat (by omega)
   have he:((x.Inode.toNat:Nat):Int)=x.Inode:=by omega
   rw [he] at ht
   simp only [h1,h2,h3,decide_true,cond_true,Bool.and_true,Bool.true_and,blt_of hb,ht]
  ·simp only [h1,h2,decide_true,decide_false,cond_true,cond_false,Bool.and_false,Bool.false_and]
 ·simp only [h1,decide_false,cond_false,Bool.false_and]
theorem create_eq {N n:Nat} {files:List (ByteArray×Int)} {taken:List Bool} {l:Dir} (h:Rd N files taken l) (x:GDO) (hk:x.Kind=1) (ha:(ap N l x).2=true) (hn:1≤n):∃f t,dk_create n N x files taken=some (f,t)∧Rd N f t (ap N l x).1:=by
 obtain ⟨m,rfl⟩:∃m,n=m+1:=⟨n-1,by omega⟩
 simp only [ap,hk,beq_self_eq_true,cond_true,Bool.and_eq_true,decide_eq_true_eq,Bool.not_eq_true'] at ha ⊢
 obtain ⟨h0,h1,h2,h3,h4,_⟩:=ha
 have h5:(0:Int)≤x.Inode:=h2
 have hb:x.Inode.toNat<taken.length:=by rw [h.len];omega
 refine ⟨_,_,by simp only [dk_create,h3,h5,decide_true,Bool.and_true,cond_true,blt_of hb],h.create h2 h3 (by simpa using h1) h4 h0⟩
theorem mayRename_eq {N n:Nat} {files:List (ByteArray×Int)} {taken:List Bool} {l:Dir} (h:Rd N files taken l) (x:GDO) (hk:x.Kind=2) (hn:70≤n):dk_mayRename n N x files taken=some ((ap N l x).2,files,taken):=by
 obtain ⟨m,rfl⟩:∃m,n=m+1:=⟨n-1,by omega⟩
 simp only [dk_mayRename,isName_eq m x.To (by omega),Option.bind_some,lk_is h,sNe_eq,ap,hk,show ((2:Int)==1)=false by rfl,show ((2:Int)==2)=true by rfl,cond_true,cond_false]
 cases lkE x.Name l with
 | none=>rfl
 | some ino=>
  simp only [Option.isNone_some,Bool.not_false,cond_true]
  cases hi:x.Inode==0<;>simp only [bne,hi,Bool.not_true,Bool.not_false,cond_true,cond_false]<;>cases isNm x.To<;>cases decide (x.To=x.Name)<;>rfl
theorem rename_eq {N n:Nat} {files:List (ByteArray×Int)} {taken:List Bool} {l:Dir} (h:Rd N files taken l) (x:GDO) (hk:x.Kind=2) (ha:(ap N l x).2=true) (hn:1≤n):∃f t,dk_rename n N x files taken=some (f,t)∧Rd N f t (ap N l x).1:=by
 obtain ⟨m,rfl⟩:∃m,n=m+1:=⟨n-1,by omega⟩
 simp only [ap,hk,show ((2:Int)==1)=false by rfl,show ((2:Int)==2)=true by rfl,cond_true,cond_false] at ha ⊢
 cases hl:lkE x.Name l with
 | none=>rw [hl] at ha;cases ha
 | some ino=>
  rw [hl] at ha
  simp only at ha
  cases hi:x.Inode != 0 with
  | true=>rw [hi] at ha;cases ha
  | false=>
   rw [hi] at ha
   simp only [cond_false,Bool.and_eq_true,Bool.not_eq_true',decide_eq_false_iff_not] at ha ⊢
   have hR:=h.rename hl ha.2 ha.1
   simp only [dk_rename,dk_rename_s0,h.lks,hl,Option.getD_some]
   cases ho:lkE x.To l with
   | none=>
    rw [ho] at hR
    exact ⟨_,_,rfl,hR⟩
   | some old=>
    rw [ho] at hR
    obtain ⟨r1,r2⟩:=rng_of h ho
    have hb:old.toNat<taken.length:=by rw [h.len];omega
    simp only [Option.isSome_some,cond_true,Option.getD_some,r1,r2,decide_true,Bool.and_true,blt_of hb]
    exact ⟨_,_,rfl,hR⟩
theorem mayRemove_eq {N n:Nat} {files:List (ByteArray×Int)} {taken:List Bool} {l:Dir} (h:Rd N files taken l) (x:GDO) (hk:x.Kind=3) (hn:1≤n):dk_mayRemove n N x files taken=some ((ap N l x).2,files,taken):=by
 obtain ⟨m,rfl⟩:∃m,n=m+1:=⟨n-1,by omega⟩
 simp only [dk_mayRemove,lk_is h,sEq_eq,ap,hk,show ((3:Int)==1)=false by rfl,show ((3:Int)==2)=false by rfl,show ((3:Int)==3)=true by rfl,cond_false]
 cases lkE x.Name l with
 | none=>rfl
 | some ino=>
  simp only [Option.isNone_some,Bool.not_false,cond_true]
  cases hi:x.Inode==0<;>simp only [bne,hi,Bool.not_true,Bool.not_false,cond_true,cond_false]<;>cases decide (x.To=bE)<;>rfl
theorem remove_eq {N n:Nat} {files:List (ByteArray×Int)} {taken:List Bool} {l:Dir} (h:Rd N files taken l) (x:GDO) (hk:x.Kind=3) (ha:(ap N l x).2=true) (hn:1≤n):∃f t,dk_remove n N x files taken=some (f,t)∧Rd N f t (ap N l x).1:=by
 obtain ⟨m,rfl⟩:∃m,n=m+1:=⟨n-1,by omega⟩
 simp only [ap,hk,show ((3:Int)==1)=false by rfl,show ((3:Int)==2)=false by rfl,show ((3:Int)==3)=true by rfl,cond_false] at ha ⊢
 cases hl:lkE x.Name l with
 | none=>rw [hl] at ha;cases ha
 | some ino=>
  rw [hl] at ha
  simp only at ha
  cases hi:x.Inode != 0 with
  | true=>rw [hi] at ha;cases ha
  | false=>
   obtain ⟨r1,r2⟩:=rng_of h hl
   have hb:ino.toNat<taken.length:=by rw [h.len];omega
   simp only [dk_remove,h.lks,hl,Option.getD_some,r1,r2,decide_true,Bool.and_true,cond_true,cond_false,blt_of hb]
   exact ⟨_,_,rfl,h.remove hl⟩
theorem ap_none {N:Int} {l:Dir} {x:GDO} (h1:x.Kind≠1) (h2:x.Kind≠2) (h3:x.Kind≠3):(ap N l x).2=false:=by
 have e1:(x.Kind==1)=false:=by simpa using h1
 have e2:(x.Kind==2)=false:=by simpa using h2
 have e3:(x.Kind==3)=false:=by simpa using h3
 simp only [ap,e1,e2,e3,cond_false,Bool.false_and]
 cases lkE x.Name l with
 | none=>rfl
 | some ino=>cases x.Inode != 0<;>rfl
end Go.Proofs.YtomalcfghdaghaaGreatDoor
/- Plain laws,4: which disks are valid,and their directories. -/
set_option linter.unusedVariables false
set_option linter.unusedSimpArgs false
namespace Go.Proofs.YtomalcfghdaghaaGreatDoor
open Go Go.AM
def okI (x:GI):Bool:=decide (x.Data.size≤1048576)&&(decide (0≤x.Synced)&&decide (x.Synced≤(x.Data.size:Int)))
def okD (N:Nat) (D:Dir) (i:Nat):Bool:=
 isNm (D.getD i dGDE).Name&&((decide (i=0)||decide (ky (D.getD (i-1) dGDE).Name<ky (D.getD i dGDE).Name))&&(decide (0≤(D.getD i dGDE).Inode)&&(decide ((D.getD i dGDE).Inode<(N:Int))&&!usedE (D.take i) (D.getD i dGDE).Inode)))
def durB (N:Nat) (D:Dir) (i:Nat):Nat→Bool
 | 0=>true
 | k+1=>okD N D i&&durB N D (i+1) k
def durA (d:GDisk):Bool:=durB d.Inodes.length d.Durable 0 d.Durable.length
def cur (d:GDisk):Dir×Bool:=aft (d.Inodes.length:Int) d.Pending d.Durable
def valid (d:GDisk):Bool:=decide (d.Inodes.length≤1000)&&(decide (d.Pending.length≤1000)&&(decide (-1≤d.Left)&&(d.Inodes.all okI&&(durA d&&(cur d).2))))
theorem take_succ {α:Type} {l:List α} {i:Nat} {d:α} (h:i<l.length):l.take (i+1)=l.take i++[l.getD i d]:=by
 rw [List.take_add_one];simp [List.getD,List.getElem?_eq_getElem h]
theorem wi_last {x:GDE}:∀{l:Dir},(∀a∈l,ky a.Name<ky x.Name)→wi x l=l++[x]
 | [],_=>rfl
 | e::l,h=>by
  have h1:=h e (by simp)
  have:sGt e.Name x.Name=false:=by
   cases hg:sGt e.Name x.Name with
   | false=>rfl
   | true=>exact absurd (gt_iff.1 hg) (ky_lt_asymm h1)
  simp only [wi,this,cond_false,List.cons_append]
  rw [wi_last fun a ha=>h a (by simp [ha])]
theorem below_all {N:Nat} {files:List (ByteArray×Int)} {taken:List Bool} {D:Dir} {i:Nat} {x:GDE} (h:Srt (D.take i)) (hi:i≤D.length) (hx:i=0∨ky (D.getD (i-1) dGDE).Name<ky x.Name):∀a∈D.take i,ky a.Name<ky x.Name:=by
 intro a ha
 rcases hx with h0 | hx
 ·subst h0;simp at ha
 ·by_cases h0:i=0
  ·subst h0;simp at ha
  ·obtain ⟨j,rfl⟩:∃j,i=j+1:=⟨i-1,by omega⟩
   rw [take_succ (d:=dGDE) (show j<D.length by omega)] at ha h
   simp only [Nat.add_sub_cancel] at hx
   rcases List.mem_append.1 ha with ha | ha
   ·have:=(List.pairwise_append.1 h).2.2 a ha _ (List.mem_singleton.2 rfl)
    exact ky_lt_trans this hx
   ·simp at ha;subst ha;exact hx
theorem durable_l0 (n:Nat) (d:GDisk) (hn:70≤n) (hD:d.Durable.length≤1000000000):∀(k i m:Nat) (files:List (ByteArray×Int)) (taken:List Bool),i+k=d.Durable.length→Rd d.Inodes.length files taken (d.Durable.take i)→k<m →
  ∃f t,dk_durable_l0 n d m (d.Durable.length:Int) (i:Int) files taken=some (d.Inodes.length,durB d.Inodes.length d.Durable i k,f,t)∧(durB d.Inodes.length d.Durable i k=true→Rd d.Inodes.length f t d.Durable)
 | k,i,0,_,_,_,_,h=>by omega
 | 0,i,m+1,files,taken,h,hR,_=>by
  have:¬((i:Int)<(d.Durable.length:Int)):=by omega
  refine ⟨files,taken,by simp only [dk_durable_l0,dk_durable_s1,this,decide_false,cond_false,durB],fun _=>?_⟩
  rwa [List.take_of_length_le (by omega)] at hR
 | k+1,i,m+1,files,taken,h,hR,h2=>by
  have hw:=wr1 i (by omega)
  have hlt:(i:Int)<(d.Durable.length:Int):=by omega
  have h0:(0:Int)≤(i:Int):=by omega
  obtain ⟨e,he⟩:∃e,d.Durable.getD i dGDE=e:=⟨_,rfl⟩
  have hrest:∀(b:Bool),(b=true→i=0∨ky (d.Durable.getD (i-1) dGDE).Name<ky e.Name)→b=(decide (i=0)||decide (ky (d.Durable.getD (i-1) dGDE).Name<ky e.Name))→isNm e.Name=true→b=true →
    ∃f t,(bif decide (e.Inode<0) then some (d.Inodes.length,false,files,taken) else bif decide (e.Inode≥(d.Inodes.length:Int)) then some (d.Inodes.length,false,files,taken) else bif decide ((0:Int)≤e.Inode)&&decide (e.Inode<(d.Inodes.length:Int)) then
     bif Nat.blt e.Inode.toNat taken.length then bif taken.getD e.Inode.toNat false then some (d.Inodes.length,false,files,taken) else bif decide ((0:Int)≤e.Inode)&&decide (e.Inode<(d.Inodes.length:Int)) then bif Nat.blt e.Inode.toNat taken.length then
      dk_durable_l0 n d m (d.Durable.length:Int) ((i+1:Nat):Int) (putL e.Name e.Inode files) (taken.set e.Inode.toNat true) else none else none else none else none)=some (d.Inodes.length,durB d.Inodes.length d.Durable i (k+1),f,t)∧(durB d.Inodes.length d.Durable i (k+1)=true→Rd d.Inodes.length f t d.Durable):=by
   intro b hb1 hb2 hnm hbt
   have hlast:=hb1 hbt
   simp only [durB,okD,he,hnm,← hb2,hbt,Bool.true_and]
   by_cases c1:e.Inode<0
   ·have:¬(0:Int)≤e.Inode:=by omega
    exact ⟨files,taken,by simp only [c1,this,decide_true,decide_false,cond_true,Bool.false_and],by simp [this]⟩
   ·have c1':(0:Int)≤e.Inode:=by omega
    by_cases c2:e.Inode≥(d.Inodes.length:Int)
    ·have:¬e.Inode<(d.Inodes.length:Int):=by omega
     exact ⟨files,taken,by simp only [c1,c2,this,decide_true,decide_false,cond_true,cond_false,Bool.false_and,Bool.and_false],by simp [this]⟩
    ·have c2':e.Inode<(d.Inodes.length:Int):=by omega
     have hbl:e.Inode.toNat<taken.length:=by rw [hR.len];omega
     have ht:=hR.tkn e.Inode.toNat (by omega)
     have hee:((e.Inode.toNat:Nat):Int)=e.Inode:=by omega
     rw [hee] at ht
     simp only [c1,c1',c2,c2',decide_true,decide_false,cond_true,cond_false,Bool.and_true,Bool.true_and,blt_of hbl,ht]
     cases hu:usedE (d.Durable.take i) e.Inode with
     | true=>exact ⟨files,taken,rfl,fun h=>by cases h⟩
     | false=>
      simp only [cond_false,Bool.not_false,Bool.true_and]
      have hall:=below_all (N:=d.Inodes.length) (files:=files) (taken:=taken) hR.srt (by omega) hlast
      have hno:lkE e.Name (d.Durable.take i)=none:=lkE_none.2 fun a ha hh=>by have:=hall a ha;rw [hh] at this;exact ky_lt_irrefl _ this
      have hR':=hR.create c1' c2' hno hu hnm
      rw [wi_last hall] at hR'
      have htk:=take_succ (d:=dGDE) (show i<d.Durable.length by omega)
      rw [he] at htk
      have hR2:Rd d.Inodes.length (putL e.Name e.Inode files) (taken.set e.Inode.toNat true) (d.Durable.take (i+1)):=by rw [htk];exact hR'
      exact durable_l0 n d hn hD k (i+1) m _ _ (by omega) hR2 (by omega)
  simp only [dk_durable_l0,hlt,h0,decide_true,Bool.and_true,cond_true,toNat_c,hw,he,isName_eq n e.Name (by omega),Option.bind_some]
  cases hnm:isNm e.Name with
  | false=>
   refine ⟨files,taken,by simp only [durB,okD,he,hnm,Bool.false_and,Bool.not_false,cond_true],?_⟩
   intro hh;simp only [durB,okD,he,hnm,Bool.false_and] at hh;cases hh
  | true=>
   simp only [Bool.not_true,cond_false]
   by_cases hi:i=0
   ·have:¬(i:Int)>0:=by omega
    simp only [this,decide_false,cond_false]
    exact hrest true (fun _=>.inl hi) (by simp [hi]) hnm rfl
   ·have hgt:(i:Int)>0:=by omega
    obtain ⟨j,rfl⟩:∃j,i=j+1:=⟨i-1,by omega⟩
    have hp:=wrp j (by omega)
    have q1:(0:Int)≤(j:Int):=by omega
    have q2:(j:Int)<(d.Durable.length:Int):=by omega
    simp only [hgt,hp,q1,q2,decide_true,Bool.and_true,cond_true,toNat_c]
    cases hs:sLe e.Name (d.Durable.getD j dGDE).Name with
    | true=>
     have hnl:¬ky (d.Durable.getD j dGDE).Name<ky e.Name:=by
      rw [sLe_eq] at hs
      simp only [Bool.or_eq_true,decide_eq_true_eq] at hs
      rcases hs with h | h
      ·exact ky_lt_asymm h
      ·rw [h];exact ky_lt_irrefl _
     have hok:okD d.Inodes.length d.Durable (j+1)=false:=by
      simp only [okD,he,Nat.add_sub_cancel,hnl,decide_false,show ¬(j+1=0) by omega,Bool.or_false,Bool.false_and,Bool.and_false]
     refine ⟨files,taken,by simp only [durB,hok,Bool.false_and,cond_true],?_⟩
     intro hh
     simp only [durB,hok,Bool.false_and] at hh;cases hh
    | false=>
     have hl:ky (d.Durable.getD j dGDE).Name<ky e.Name:=by
      rw [sLe_eq] at hs
      simp only [Bool.or_eq_false_iff,decide_eq_false_iff_not] at hs
      rcases ky_tri e.Name (d.Durable.getD j dGDE).Name with h | h | h
      ·exact absurd h hs.1
      ·exact absurd h hs.2
      ·exact h
     simp only [cond_false]
     exact hrest true (fun _=>.inr (by rw [Nat.add_sub_cancel];exact hl)) (by rw [Nat.add_sub_cancel];simp only [hl,decide_true,Bool.or_true]) hnm rfl
theorem rd0 (N:Nat):Rd N [] (List.replicate N false) []:=by
 refine ⟨List.Pairwise.nil,fun _=>rfl,by simp,fun e he=>by simp at he,fun a ha=>by simp at ha,by simp,fun i hi=>?_,?_⟩
 ·simp [List.getD,usedE,hi]
 ·intro e he;simp at he
theorem durable_eq (n:Nat) (d:GDisk) (hn:d.Durable.length+80≤n) (hD:d.Durable.length≤1000000000) (hI:d.Inodes.length≤1000000) :
  ∃f t,dk_durable n d=some (d.Inodes.length,durA d,f,t)∧(durA d=true→Rd d.Inodes.length f t d.Durable):=by
 obtain ⟨m,rfl⟩:∃m,n=m+1:=⟨n-1,by omega⟩
 have h1:(0:Int)≤(d.Inodes.length:Int):=by omega
 have h2:(d.Inodes.length:Int)*1≤140737488355328:=by omega
 have h3:(d.Inodes.length:Int)≤9223372036854775807:=by omega
 simp only [dk_durable,h1,h2,h3,decide_true,Bool.and_true,cond_true]
 exact durable_l0 m d (by omega) hD d.Durable.length 0 m [] _ (by omega) (by simpa using rd0 _) (by omega)
def curOut (d:GDisk) (r:dk_current_R):Prop:=
 if valid d=true then ∃f t,r=.c2 d.Inodes.length f t∧Rd d.Inodes.length f t (cur d).1 else ∀a f t,r≠.c2 a f t
theorem current_l2 (n:Nat) (N:Nat) (r1:Nat×Bool×(List (ByteArray×Int))×(List Bool)) (h1:r1.1=N) (d:GDisk) (hn:80≤n) (hP:d.Pending.length≤1000000000):∀(k i m:Nat) (f:List (ByteArray×Int)) (t:List Bool) (l:Dir),i+k=d.Pending.length→Rd N f t l→k<m →
  ∃r,dk_current_l2 n r1 d m (d.Pending.length:Int) (i:Int) f t=some r∧(if (aft N (d.Pending.drop i) l).2=true then ∃f' t',r=.c2 N f' t'∧Rd N f' t' (aft N (d.Pending.drop i) l).1 else ∀a f t,r≠.c2 a f t)
 | k,i,0,_,_,_,_,_,h=>by omega
 | 0,i,m+1,f,t,l,h,hR,_=>by
  have:¬((i:Int)<(d.Pending.length:Int)):=by omega
  have h2:d.Pending.drop i=[]:=List.drop_eq_nil_of_le (by omega)
  refine ⟨_,by simp only [dk_current_l2,dk_current_s3,this,decide_false,cond_false];rfl,?_⟩
  rw [h2,h1]
  simp only [aft,if_true]
  exact ⟨f,t,rfl,hR⟩
 | k+1,i,m+1,f,t,l,h,hR,h2=>by
  have hw:=wr1 i (by omega)
  have hlt:(i:Int)<(d.Pending.length:Int):=by omega
  have h0:(0:Int)≤(i:Int):=by omega
  rw [getD_drop (d:=dGDO) (show i<d.Pending.length by omega)]
  obtain ⟨x,hx⟩:∃x,d.Pending.getD i dGDO=x:=⟨_,rfl⟩
  obtain ⟨q,rfl⟩:∃q,n=q+1:=⟨n-1,by omega⟩
  simp only [dk_current_l2,hlt,h0,decide_true,Bool.and_true,cond_true,toNat_c,hw,hx,dk_operationOf,aft,h1]
  have bad:(ap N l x).2=false→∀r:dk_current_R,(∀a f t,r≠.c2 a f t)→(if (bif (ap N l x).2 then aft N (d.Pending.drop (i+1)) (ap N l x).1 else ((ap N l x).1,false)).2=true then ∃f' t',r=.c2 N f' t'∧Rd N f' t' (bif (ap N l x).2 then aft N (d.Pending.drop (i+1)) (ap N l x).1 else ((ap N l x).1,false)).1 else ∀a f t,r≠.c2 a f t):=fun hb r hr=>by
   rw [hb];simpa using hr
  by_cases k1:x.Kind=1
  ·simp only [k1,show ((1:Int)==1)=true by rfl,cond_true,Option.bind_some,mayCreate_eq hR x k1 (show 70≤q+1 by omega)]
   cases ha:(ap N l x).2 with
   | false=>exact ⟨.c1 [] f t,rfl,by simp⟩
   | true=>
    obtain ⟨f',t',e1,e2⟩:=create_eq (n:=q+1) hR x k1 ha (by omega)
    simp only [Bool.not_true,cond_false,cond_true,e1,Option.bind_some]
    exact current_l2 (q+1) N r1 h1 d hn hP k (i+1) m f' t' _ (by omega) e2 (by omega)
  ·have e1:(x.Kind==1)=false:=by simpa using k1
   by_cases k2:x.Kind=2
   ·simp only [k2,show ((2:Int)==1)=false by rfl,show ((2:Int)==2)=true by rfl,cond_true,cond_false,Option.bind_some,mayRename_eq hR x k2 (show 70≤q+1 by omega)]
    cases ha:(ap N l x).2 with
    | false=>exact ⟨.c1 [] f t,rfl,by simp⟩
    | true=>
     obtain ⟨f',t',e1,e2⟩:=rename_eq (n:=q+1) hR x k2 ha (by omega)
     simp only [Bool.not_true,cond_false,cond_true,e1,Option.bind_some]
     exact current_l2 (q+1) N r1 h1 d hn hP k (i+1) m f' t' _ (by omega) e2 (by omega)
   ·have e2:(x.Kind==2)=false:=by simpa using k2
    by_cases k3:x.Kind=3
    ·simp only [k3,show ((3:Int)==1)=false by rfl,show ((3:Int)==2)=false by rfl,show ((3:Int)==3)=true by rfl,cond_true,cond_false,Option.bind_some,mayRemove_eq hR x k3 (show 1≤q+1 by omega)]
     cases ha:(ap N l x).2 with
     | false=>exact ⟨.c1 [] f t,rfl,by simp⟩
     | true=>
      obtain ⟨f',t',e1,e2⟩:=remove_eq (n:=q+1) hR x k3 ha (by omega)
      simp only [Bool.not_true,cond_false,cond_true,e1,Option.bind_some]
      exact current_l2 (q+1) N r1 h1 d hn hP k (i+1) m f' t' _ (by omega) e2 (by omega)
    ·have e3:(x.Kind==3)=false:=by simpa using k3
     simp only [e1,e2,e3,cond_false,Option.bind_some]
     exact ⟨.c1 [] f t,rfl,bad (ap_none k1 k2 k3) _ (by simp)⟩
theorem current_s1 (n:Nat) (d:GDisk) (hn:d.Durable.length+1100≤n) (hD:d.Durable.length≤1000000000) (hI:d.Inodes.length≤1000) (hP:d.Pending.length≤1000) (hL:-1≤d.Left) (hO:d.Inodes.all okI=true):∃r,dk_current_s1 n d=some r∧curOut d r:=by
 obtain ⟨f,t,h1,h2⟩:=durable_eq n d (by omega) hD (by omega)
 simp only [dk_current_s1,h1,Option.bind_some,curOut,valid,hI,hP,hL,hO,decide_true,Bool.true_and]
 cases hd:durA d with
 | false=>exact ⟨_,rfl,by simp⟩
 | true=>
  simp only [Bool.not_true,cond_false,Bool.true_and]
  exact current_l2 n d.Inodes.length (d.Inodes.length,true,f,t) rfl d (by omega) (by omega) d.Pending.length 0 n f t d.Durable (by omega) (h2 hd) (by omega)
theorem current_l0 (n:Nat) (d:GDisk) (hn:d.Durable.length+1100≤n) (hD:d.Durable.length≤1000000000) (hI:d.Inodes.length≤1000) (hP:d.Pending.length≤1000) (hL:-1≤d.Left):∀(k i m:Nat),i+k=d.Inodes.length→(d.Inodes.take i).all okI=true→k<m →
  ∃r,dk_current_l0 n d m (d.Inodes.length:Int) (i:Int)=some r∧curOut d r
 | k,i,0,_,_,h=>by omega
 | 0,i,m+1,h,hO,_=>by
  have:¬((i:Int)<(d.Inodes.length:Int)):=by omega
  rw [List.take_of_length_le (by omega)] at hO
  simp only [dk_current_l0,this,decide_false,cond_false]
  exact current_s1 n d hn hD hI hP hL hO
 | k+1,i,m+1,h,hO,h2=>by
  have hw:=wr1 i (by omega)
  have hlt:(i:Int)<(d.Inodes.length:Int):=by omega
  have h0:(0:Int)≤(i:Int):=by omega
  have hm:d.Inodes.getD i dGI∈d.Inodes:=by
   have:=List.drop_subset i d.Inodes;rw [getD_drop (d:=dGI) (show i<d.Inodes.length by omega)] at this;exact this (by simp)
  have htk:=take_succ (d:=dGI) (show i<d.Inodes.length by omega)
  obtain ⟨x,hx⟩:∃x,d.Inodes.getD i dGI=x:=⟨_,rfl⟩
  rw [hx] at hm htk
  have bad:okI x=false→∀r:dk_current_R,(∀a f t,r≠.c2 a f t)→curOut d r:=fun hb r hr=>by
   have:d.Inodes.all okI=false:=by
    cases ha:d.Inodes.all okI with
    | false=>rfl
    | true=>rw [List.all_eq_true.1 ha x hm] at hb;cases hb
   unfold curOut
   rw [if_neg (by simp [valid,this])]
   exact hr
  simp only [dk_current_l0,hlt,h0,decide_true,Bool.and_true,cond_true,toNat_c,hw,hx]
  by_cases c1:(x.Data.size:Int)>1048576
  ·simp only [c1,decide_true,cond_true]
   exact ⟨_,rfl,bad (by simp only [okI,show ¬x.Data.size≤1048576 by omega,decide_false,Bool.false_and]) _ (by simp)⟩
  ·by_cases c2:x.Synced<0
   ·simp only [c1,c2,decide_true,decide_false,cond_true,cond_false]
    exact ⟨_,rfl,bad (by simp only [okI,show ¬0≤x.Synced by omega,decide_false,Bool.false_and,Bool.and_false]) _ (by simp)⟩
   ·by_cases c3:x.Synced>(x.Data.size:Int)
    ·simp only [c1,c2,c3,decide_true,decide_false,cond_true,cond_false]
     exact ⟨_,rfl,bad (by simp only [okI,show ¬x.Synced≤(x.Data.size:Int) by omega,decide_false,Bool.and_false]) _ (by simp)⟩
    ·simp only [c1,c2,c3,decide_false,cond_false]
     refine current_l0 n d hn hD hI hP hL k (i+1) m (by omega) ?_ (by omega)
     rw [htk,List.all_append,hO]
     simp only [List.all_cons,List.all_nil,Bool.and_true,Bool.true_and,okI,show x.Data.size≤1048576 by omega,show 0≤x.Synced by omega,show x.Synced≤(x.Data.size:Int) by omega,decide_true]
theorem current_eq (n:Nat) (d:GDisk) (hn:d.Durable.length+1101≤n) (hD:d.Durable.length≤1000000000):∃r,dk_current n d=some r∧curOut d r:=by
 obtain ⟨m,rfl⟩:∃m,n=m+1:=⟨n-1,by omega⟩
 simp only [dk_current]
 by_cases c1:(d.Inodes.length:Int)>1000
 ·simp only [c1,decide_true,cond_true]
  refine ⟨_,rfl,?_⟩
  unfold curOut;rw [if_neg (by simp only [valid,show ¬d.Inodes.length≤1000 by omega,decide_false,Bool.false_and];simp)];simp
 ·by_cases c2:(d.Pending.length:Int)>1000
  ·simp only [c1,c2,decide_true,decide_false,cond_true,cond_false]
   refine ⟨_,rfl,?_⟩
   unfold curOut;rw [if_neg (by simp only [valid,show ¬d.Pending.length≤1000 by omega,decide_false,Bool.false_and,Bool.and_false];simp)];simp
  ·by_cases c3:d.Left < -1
   ·simp only [c1,c2,c3,decide_true,decide_false,cond_true,cond_false]
    refine ⟨_,rfl,?_⟩
    unfold curOut;rw [if_neg (by simp only [valid,show ¬-1≤d.Left by omega,decide_false,Bool.false_and,Bool.and_false];simp)];simp
   ·simp only [c1,c2,c3,decide_false,cond_false]
    exact current_l0 m d (by omega) hD (by omega) (by omega) (by omega) d.Inodes.length 0 m (by omega) (by simp) (by omega)
end Go.Proofs.YtomalcfghdaghaaGreatDoor
/- Plain laws,5: the reference's check;files are found and read alike. -/
set_option linter.unusedVariables false
set_option linter.unusedSimpArgs false
namespace Go.Proofs.YtomalcfghdaghaaGreatDoor
open Go Go.AM
structure Bd (B:Nat) (d:GDisk):Prop where
 dn:∀e∈d.Durable,e.Name.size≤B
 pn:∀x∈d.Pending,x.Name.size+x.To.size≤B
 dl:d.Durable.length≤B
 pl:d.Pending.length≤B
 il:d.Inodes.length≤B
 big:B≤100000
theorem durA_bound {d:GDisk} (hD:d.Durable.length≤1000000000) (hI:d.Inodes.length≤1000000) (h:durA d=true):d.Durable.length≤d.Inodes.length:=by
 obtain ⟨f,t,_,h2⟩:=durable_eq (d.Durable.length+80) d (by omega) hD hI
 exact (h2 h).bound
theorem check_l3 (n:Nat) (k_l2:Int→Option Int) (d:GDisk) (name:ByteArray) (ino:Int) (i:Nat) (hi:i<d.Durable.length) (hD:d.Durable.length≤1000000000):∀(k j m:Nat),j+k=i→k<m →
  r22_Check_l3 n k_l2 d m (i:Int) name ino (j:Int)=bif usedE ((d.Durable.take i).drop j) ino then some 1 else k_l2 ((i+1:Nat):Int)
 | k,j,0,_,h=>by omega
 | 0,j,m+1,h,_=>by
  have:¬((j:Int)<(i:Int)):=by omega
  have hw:=wr1 i (by omega)
  have h2:(d.Durable.take i).drop j=[]:=List.drop_eq_nil_of_le (by rw [List.length_take];omega)
  simp only [r22_Check_l3,r22_Check_s4,this,decide_false,cond_false,h2,usedE,List.any_nil,hw]
 | k+1,j,m+1,h,h2=>by
  have hw:=wr1 j (by omega)
  have hlt:(j:Int)<(i:Int):=by omega
  have hlt2:(j:Int)<(d.Durable.length:Int):=by omega
  have h0:(0:Int)≤(j:Int):=by omega
  have hg:(d.Durable.take i).getD j dGDE=d.Durable.getD j dGDE:=by simp only [List.getD];rw [List.getElem?_take_of_lt (by omega)]
  rw [getD_drop (d:=dGDE) (show j<(d.Durable.take i).length by rw [List.length_take];omega),hg]
  have ih:=check_l3 n k_l2 d name ino i hi hD k (j+1) m (by omega) (by omega)
  simp only [r22_Check_l3,hlt,hlt2,h0,decide_true,Bool.and_true,cond_true,toNat_c,hw,ih,usedE,List.any_cons]
  cases (d.Durable.getD j dGDE).Inode==ino<;>rfl
theorem check_l2 (n B:Nat) (d:GDisk) (hb:Bd B d) (hn:2*B+10≤n):∀(k i m:Nat),i+k=d.Durable.length→k<m →
  r22_Check_l2 n d m (i:Int)=bif durB d.Inodes.length d.Durable i k then r22_Check_s5 n d else some 1
 | k,i,0,_,h=>by omega
 | 0,i,m+1,h,_=>by
  have:¬((i:Int)<(d.Durable.length:Int)):=by omega
  simp only [r22_Check_l2,this,decide_false,cond_false,durB,cond_true]
 | k+1,i,m+1,h,h2=>by
  have hB:=hb.big;have hdl:=hb.dl
  have hw:=wr1 i (by omega)
  have hlt:(i:Int)<(d.Durable.length:Int):=by omega
  have h0:(0:Int)≤(i:Int):=by omega
  have hm:d.Durable.getD i dGDE∈d.Durable:=by
   have:=List.drop_subset i d.Durable;rw [getD_drop (d:=dGDE) (show i<d.Durable.length by omega)] at this;exact this (by simp)
  have hsz:=hb.dn _ hm
  obtain ⟨e,he⟩:∃e,d.Durable.getD i dGDE=e:=⟨_,rfl⟩
  rw [he] at hsz
  have ih:=check_l2 n B d hb hn k (i+1) m (by omega) (by omega)
  have hl3:=check_l3 n (fun a0=>r22_Check_l2 n d m a0) d e.Name e.Inode i (by omega) (by omega) i 0 n (by omega) (by omega)
  rw [List.drop_zero,ih] at hl3
  have hl3':r22_Check_l3 n (fun a0=>r22_Check_l2 n d m a0) d n (i:Int) e.Name e.Inode 0=_:=hl3
  simp only [r22_Check_l2,hlt,h0,decide_true,Bool.and_true,cond_true,toNat_c,he,name_eq n e.Name (by omega) (by omega),Option.bind_some,hl3',durB,okD]
  have tail:(bif decide (e.Inode<0) then some (1:Int) else bif decide (e.Inode≥(d.Inodes.length:Int)) then some 1 else bif usedE (d.Durable.take i) e.Inode then some 1 else bif durB d.Inodes.length d.Durable (i+1) k then r22_Check_s5 n d else some 1) =
    bif (decide (0≤e.Inode)&&(decide (e.Inode<(d.Inodes.length:Int))&&!usedE (d.Durable.take i) e.Inode))&&durB d.Inodes.length d.Durable (i+1) k then r22_Check_s5 n d else some 1:=by
   by_cases c1:e.Inode<0
   ·simp only [c1,show ¬(0:Int)≤e.Inode by omega,decide_true,decide_false,cond_true,cond_false,Bool.false_and]
   ·by_cases c2:e.Inode≥(d.Inodes.length:Int)
    ·simp only [c1,c2,show ¬e.Inode<(d.Inodes.length:Int) by omega,decide_true,decide_false,cond_true,cond_false,Bool.false_and,Bool.and_false]
    ·simp only [c1,c2,show (0:Int)≤e.Inode by omega,show e.Inode<(d.Inodes.length:Int) by omega,decide_true,decide_false,cond_false,Bool.true_and]
     cases usedE (d.Durable.take i) e.Inode<;>rfl
  cases hnm:isNm e.Name with
  | false=>simp only [Bool.not_false,cond_true,Bool.false_and,cond_false]
  | true=>
   simp only [Bool.not_true,cond_false,Bool.true_and]
   by_cases hi:i=0
   ·have:¬(i:Int)>0:=by omega
    simp only [this,decide_false,cond_false,hi,decide_true,Bool.true_or,Bool.true_and]
    rw [hi] at tail
    exact tail
   ·have hgt:(i:Int)>0:=by omega
    obtain ⟨j,rfl⟩:∃j,i=j+1:=⟨i-1,by omega⟩
    have hp:=wrp j (by omega)
    have q1:(0:Int)≤(j:Int):=by omega
    have q2:(j:Int)<(d.Durable.length:Int):=by omega
    simp only [hgt,hp,q1,q2,decide_true,Bool.and_true,cond_true,toNat_c,Nat.add_sub_cancel,show ¬(j+1=0) by omega,decide_false,Bool.false_or,sGe_eq]
    by_cases hl:ky (d.Durable.getD j dGDE).Name<ky e.Name
    ·simp only [hl,decide_true,Bool.not_true,cond_false,Bool.true_and]
     exact tail
    ·simp only [hl,decide_false,Bool.not_false,cond_true,Bool.false_and,cond_false]
theorem check_s5 (n B:Nat) (d:GDisk) (hb:Bd B d) (hn:4*B+20≤n):r22_Check_s5 n d=some (bif (cur d).2 then 0 else 1):=by
 have hB:=hb.big;have h1:=hb.dl;have h2:=hb.pl
 simp only [r22_Check_s5,after_eq n d.Durable d.Pending (d.Inodes.length:Int) B hb.pn (by omega) (by omega) (by omega),Option.bind_some]
 show _=some (bif (aft (d.Inodes.length:Int) d.Pending d.Durable).2 then 0 else 1)
 cases (aft (d.Inodes.length:Int) d.Pending d.Durable).2<;>rfl
theorem check_l0 (n B:Nat) (d:GDisk) (hb:Bd B d) (hn:4*B+20≤n):∀(k i m:Nat),i+k=d.Inodes.length→k<m →
  r22_Check_l0 n d m (i:Int)=bif (d.Inodes.drop i).all okI&&durA d then some (bif (cur d).2 then 0 else 1) else some 1
 | k,i,0,_,h=>by omega
 | 0,i,m+1,h,_=>by
  have hB:=hb.big;have hdl:=hb.dl;have hil:=hb.il
  have:¬((i:Int)<(d.Inodes.length:Int)):=by omega
  have h2:d.Inodes.drop i=[]:=List.drop_eq_nil_of_le (by omega)
  have hc:=check_l2 n B d hb (by omega) d.Durable.length 0 n (by omega) (by omega)
  simp only [r22_Check_l0,r22_Check_s1,this,decide_false,cond_false,h2,List.all_nil,Bool.true_and]
  refine Eq.trans hc ?_
  rw [check_s5 n B d hb hn];rfl
 | k+1,i,m+1,h,h2=>by
  have hB:=hb.big;have hil:=hb.il
  have hw:=wr1 i (by omega)
  have hlt:(i:Int)<(d.Inodes.length:Int):=by omega
  have h0:(0:Int)≤(i:Int):=by omega
  rw [getD_drop (d:=dGI) (show i<d.Inodes.length by omega)]
  obtain ⟨x,hx⟩:∃x,d.Inodes.getD i dGI=x:=⟨_,rfl⟩
  have ih:=check_l0 n B d hb hn k (i+1) m (by omega) (by omega)
  simp only [r22_Check_l0,hlt,h0,decide_true,Bool.and_true,cond_true,toNat_c,hw,hx,List.all_cons,ih,okI]
  by_cases c1:(x.Data.size:Int)>1048576
  ·simp only [c1,show ¬x.Data.size≤1048576 by omega,decide_true,decide_false,cond_true,cond_false,Bool.false_and]
  ·by_cases c2:x.Synced<0
   ·simp only [c1,c2,show ¬0≤x.Synced by omega,decide_true,decide_false,cond_true,cond_false,Bool.false_and,Bool.and_false]
   ·by_cases c3:x.Synced>(x.Data.size:Int)
    ·simp only [c1,c2,c3,show ¬x.Synced≤(x.Data.size:Int) by omega,decide_true,decide_false,cond_true,cond_false,Bool.false_and,Bool.and_false]
    ·simp only [c1,c2,c3,show x.Data.size≤1048576 by omega,show 0≤x.Synced by omega,show x.Synced≤(x.Data.size:Int) by omega,decide_true,decide_false,cond_true,cond_false,Bool.true_and]
theorem refCheck_eq (n B:Nat) (d:GDisk) (hb:Bd B d) (hn:4*B+30≤n):r22_Check n d=some (bif valid d then 0 else 1):=by
 obtain ⟨m,rfl⟩:∃m,n=m+1:=⟨n-1,by omega⟩
 have hB:=hb.big;have hdl:=hb.dl;have hil:=hb.il
 simp only [r22_Check,valid]
 by_cases c1:(d.Inodes.length:Int)>1000
 ·simp only [c1,show ¬d.Inodes.length≤1000 by omega,decide_true,decide_false,cond_true,cond_false,Bool.false_and]
 ·simp only [c1,show d.Inodes.length≤1000 by omega,decide_true,decide_false,cond_false,Bool.true_and]
  by_cases c2:(d.Durable.length:Int)>(d.Inodes.length:Int)
  ·have:durA d=false:=by
    cases hd:durA d with
    | false=>rfl
    | true=>have:=durA_bound (by omega) (by omega) hd;omega
   simp only [c2,this,decide_true,cond_true,Bool.false_and,Bool.and_false,cond_false]
  ·simp only [c2,decide_false,cond_false]
   by_cases c3:(d.Pending.length:Int)>1000
   ·simp only [c3,show ¬d.Pending.length≤1000 by omega,decide_true,decide_false,cond_true,cond_false,Bool.false_and]
   ·simp only [c3,show d.Pending.length≤1000 by omega,decide_true,decide_false,cond_false,Bool.true_and]
    by_cases c4:d.Left < -1
    ·simp only [c4,show ¬-1≤d.Left by omega,decide_true,decide_false,cond_true,cond_false,Bool.false_and]
    ·simp only [c4,show -1≤d.Left by omega,decide_true,decide_false,cond_false,Bool.true_and]
     have:=check_l0 m B d hb (by omega) d.Inodes.length 0 m (by omega) (by omega)
     refine Eq.trans this ?_
     rw [List.drop_zero]
     cases d.Inodes.all okI<;>cases durA d<;>cases (cur d).2<;>rfl
theorem check_eq (n B:Nat) (d:GDisk) (hb:Bd B d) (hn:B+1110≤n):dk_Check n d=some (bif valid d then 0 else 1):=by
 obtain ⟨m,rfl⟩:∃m,n=m+1:=⟨n-1,by omega⟩
 have hB:=hb.big;have hdl:=hb.dl
 obtain ⟨r,h1,h2⟩:=current_eq m d (by omega) (by omega)
 simp only [dk_Check,h1,Option.bind_some]
 unfold curOut at h2
 cases hv:valid d with
 | true=>
  rw [if_pos hv] at h2
  obtain ⟨f,t,rfl,_⟩:=h2;rfl
 | false=>
  rw [if_neg (by simp [hv])] at h2
  cases r with
  | c0 a=>rfl
  | c1 a b c=>rfl
  | c2 a f t=>exact absurd rfl (h2 a f t)
theorem cur_rd {d:GDisk} (hv:valid d=true) (hD:d.Durable.length≤1000000000):∃f t,Rd d.Inodes.length f t (cur d).1:=by
 obtain ⟨r,h1,h2⟩:=current_eq (d.Durable.length+1101) d (by omega) hD
 unfold curOut at h2
 rw [if_pos hv] at h2
 obtain ⟨f,t,_,h⟩:=h2
 exact ⟨f,t,h⟩
theorem valid_il {d:GDisk} (hv:valid d=true):d.Inodes.length≤1000∧d.Pending.length≤1000∧-1≤d.Left∧d.Inodes.all okI=true∧durA d=true∧(cur d).2=true:=by
 simpa [valid,and_assoc] using hv
theorem cur_len {d:GDisk} (hv:valid d=true) (hD:d.Durable.length≤1000000000):(cur d).1.length≤1000:=by
 obtain ⟨f,t,h⟩:=cur_rd hv hD
 have:=h.bound;have:=(valid_il hv).1;omega
def fnd (d:GDisk) (name:ByteArray):Int×Int:=bif valid d then (match lkE name (cur d).1 with | none=>(0,7) | some i=>(i,0)) else (0,1)
theorem find_d (n B:Nat) (d:GDisk) (name:ByteArray) (hb:Bd B d) (hn:B+1110≤n):dk_find n d name=some (fnd d name):=by
 obtain ⟨m,rfl⟩:∃m,n=m+1:=⟨n-1,by omega⟩
 have hB:=hb.big;have hdl:=hb.dl
 obtain ⟨r,h1,h2⟩:=current_eq m d (by omega) (by omega)
 simp only [dk_find,h1,Option.bind_some,fnd]
 unfold curOut at h2
 cases hv:valid d with
 | true=>
  rw [if_pos hv] at h2
  obtain ⟨f,t,rfl,hR⟩:=h2
  simp only [cond_true,lk_is hR,hR.lks,Bool.not_not]
  cases lkE name (cur d).1<;>rfl
 | false=>
  rw [if_neg (by simp [hv])] at h2
  cases r with
  | c0 a=>rfl
  | c1 a b c=>rfl
  | c2 a f t=>exact absurd rfl (h2 a f t)
theorem refCur_eq (n B:Nat) (d:GDisk) (hb:Bd B d) (hn:4*B+30≤n):r22_current n d=some (cur d).1:=by
 obtain ⟨m,rfl⟩:∃m,n=m+1:=⟨n-1,by omega⟩
 have hB:=hb.big;have h1:=hb.dl;have h2:=hb.pl
 simp only [r22_current,after_eq m d.Durable d.Pending (d.Inodes.length:Int) B hb.pn (by omega) (by omega) (by omega),Option.bind_some]
 rfl
theorem find_r (n B:Nat) (d:GDisk) (name:ByteArray) (hb:Bd B d) (hn:4*B+1100≤n):r22_inode n d name=some (fnd d name):=by
 obtain ⟨m,rfl⟩:∃m,n=m+1:=⟨n-1,by omega⟩
 have hB:=hb.big;have hdl:=hb.dl
 simp only [r22_inode,refCheck_eq m B d hb (by omega),Option.bind_some,fnd]
 cases hv:valid d with
 | false=>rfl
 | true=>
  have hl:=cur_len hv (by omega)
  obtain ⟨i1,i2⟩:=ix_lk name (cur d).1
  simp only [cond_true,show ((0:Int) != 0)=false by rfl,cond_false,refCur_eq m B d hb (by omega),Option.bind_some,find_eq m (cur d).1 name (by omega) (by omega)]
  cases hx:ixE name (cur d).1 with
  | none=>rw [hx] at i1;rw [← i1];rfl
  | some j=>
   rw [hx] at i1
   have hj:=i2 j hx
   rw [← i1]
   simp only [Option.map_some,show ¬((j:Int)<0) by omega,show (0:Int)≤(j:Int) by omega,show (j:Int)<((cur d).1.length:Int) by omega,decide_false,decide_true,Bool.and_true,cond_false,cond_true,toNat_c]
theorem fnd_in {d:GDisk} {name:ByteArray} (hD:d.Durable.length≤1000000000) (h:(fnd d name).2=0):valid d=true∧0≤(fnd d name).1∧(fnd d name).1<d.Inodes.length:=by
 unfold fnd at *
 cases hv:valid d with
 | false=>rw [hv] at h;simp at h
 | true=>
  obtain ⟨f,t,hR⟩:=cur_rd hv hD
  rw [hv] at h
  simp only [cond_true] at *
  cases hl:lkE name (cur d).1 with
  | none=>rw [hl] at h;simp at h
  | some i=>exact ⟨trivial,rng_of hR hl⟩
def rdF (d:GDisk) (name:ByteArray):ByteArray×Int:=bif (fnd d name).2==0 then ((d.Inodes.getD (fnd d name).1.toNat dGI).Data,0) else (bE,(fnd d name).2)
theorem read_d (n B:Nat) (d:GDisk) (name:ByteArray) (hb:Bd B d) (hn:B+1120≤n):dk_Read n d name=some (rdF d name):=by
 obtain ⟨m,rfl⟩:∃m,n=m+1:=⟨n-1,by omega⟩
 have hB:=hb.big;have hdl:=hb.dl
 simp only [dk_Read,find_d m B d name hb (by omega),Option.bind_some,rdF,bne]
 cases h:(fnd d name).2==0 with
 | false=>rfl
 | true=>
  obtain ⟨_,h1,h2⟩:=fnd_in (name:=name) (d:=d) (by omega) (by simpa using h)
  simp only [Bool.not_true,cond_false,cond_true,h1,h2,decide_true,Bool.and_true]
theorem read_r (n B:Nat) (d:GDisk) (name:ByteArray) (hb:Bd B d) (hn:4*B+1110≤n):r22_Read n d name=some (rdF d name):=by
 obtain ⟨m,rfl⟩:∃m,n=m+1:=⟨n-1,by omega⟩
 have hB:=hb.big;have hdl:=hb.dl
 simp only [r22_Read,find_r m B d name hb (by omega),Option.bind_some,rdF,bne]
 cases h:(fnd d name).2==0 with
 | false=>rfl
 | true=>
  obtain ⟨_,h1,h2⟩:=fnd_in (name:=name) (d:=d) (by omega) (by simpa using h)
  simp only [Bool.not_true,cond_false,cond_true,h1,h2,decide_true,Bool.and_true]
def lsF (d:GDisk):List ByteArray:=bif valid d then (cur d).1.map (·.Name) else []
theorem sorted_rd {N:Nat} {f:List (ByteArray×Int)} {t:List Bool} {l:Dir} (h:Rd N f t l) (n:Nat) (hn:1≤n) (hl:l.length≤1000000000):sortedKeys n f=some (l.map (·.Name)):=by
 obtain ⟨m,rfl⟩:∃m,n=m+1:=⟨n-1,by omega⟩
 have hnm:=h.names
 have hlen:f.length=l.length:=by
  have:=(perm_isort (f.map (·.1))).length_eq
  rw [hnm] at this;simpa using this.symm
 have hsz:f.all (fun p=>decide (p.1.size≤9223372036854775807))=true:=List.all_eq_true.2 fun p hp=>by
  have h1:p.1∈isort (f.map (·.1)):=(perm_isort _).mem_iff.2 (List.mem_map.2 ⟨p,hp,rfl⟩)
  rw [hnm] at h1
  obtain ⟨e,he,e1⟩:=List.mem_map.1 h1
  have h2:=h.nms e he
  simp only [isNm,Bool.and_eq_true,decide_eq_true_eq] at h2
  rw [e1] at h2
  exact decide_eq_true (by omega)
 simp only [sortedKeys,hsz,show f.length*16≤140737488355328 by omega,decide_true,Bool.true_and,cond_true,hnm]
theorem list_l0 (n:Nat) (l:Dir):∀(k i m:Nat) (acc:List ByteArray),i+k=l.length→acc.length=i→l.length≤1000000000→k<m→r22_List_l0 n l m acc (i:Int)=some (acc++(l.drop i).map (·.Name))
 | k,i,0,_,_,_,_,h=>by omega
 | 0,i,m+1,acc,h,_,_,_=>by
  have:¬((i:Int)<(l.length:Int)):=by omega
  have h2:l.drop i=[]:=List.drop_eq_nil_of_le (by omega)
  simp only [r22_List_l0,this,decide_false,cond_false,h2,List.map_nil,List.append_nil]
 | k+1,i,m+1,acc,h,ha,h1,h2=>by
  have hw:=wr1 i (by omega)
  have hlt:(i:Int)<(l.length:Int):=by omega
  have h0:(0:Int)≤(i:Int):=by omega
  rw [getD_drop (d:=dGDE) (show i<l.length by omega)]
  have ih:=list_l0 n l k (i+1) m (acc++[(l.getD i dGDE).Name]) (by omega) (by simp [ha]) h1 (by omega)
  simp only [r22_List_l0,hlt,h0,decide_true,Bool.and_true,cond_true,toNat_c,hw,ih,app_ok (n:=acc.length) (b:=16) (by omega) (by omega),List.map_cons,List.append_assoc,List.singleton_append]
theorem list_r (n B:Nat) (d:GDisk) (hb:Bd B d) (hn:4*B+1110≤n):r22_List n d=some (lsF d):=by
 obtain ⟨m,rfl⟩:∃m,n=m+1:=⟨n-1,by omega⟩
 have hB:=hb.big;have hdl:=hb.dl
 simp only [r22_List,refCheck_eq m B d hb (by omega),Option.bind_some,lsF]
 cases hv:valid d with
 | false=>rfl
 | true=>
  have hl:=cur_len hv (by omega)
  simp only [cond_true,show ((0:Int) != 0)=false by rfl,cond_false,refCur_eq m B d hb (by omega),Option.bind_some]
  exact (list_l0 m (cur d).1 (cur d).1.length 0 m [] (by omega) rfl (by omega) (by omega)).trans (by simp)
end Go.Proofs.YtomalcfghdaghaaGreatDoor
/- Plain laws,6: a loss of power;disks held against each other. -/
set_option linter.unusedVariables false
set_option linter.unusedSimpArgs false
namespace Go.Proofs.YtomalcfghdaghaaGreatDoor
open Go Go.AM
theorem inode_ok {d:GDisk} (hO:d.Inodes.all okI=true) {i:Int} (h0:0≤i) (h1:i<d.Inodes.length):okI (d.Inodes.getD i.toNat dGI)=true:=by
 have hi:i.toNat<d.Inodes.length:=by omega
 have hm:d.Inodes.getD i.toNat dGI∈d.Inodes:=by
  have:=List.drop_subset i.toNat d.Inodes;rw [getD_drop (d:=dGI) hi] at this;exact this (by simp)
 exact List.all_eq_true.1 hO _ hm
theorem okI_spec {x:GI} (h:okI x=true):x.Data.size≤1048576∧0≤x.Synced∧x.Synced≤(x.Data.size:Int):=by simpa [okI] using h
theorem getD_mem {l:Dir} {i:Nat} (h:i<l.length):l.getD i dGDE∈l:=by
 have:=List.drop_subset i l;rw [getD_drop (d:=dGDE) h] at this;exact this (by simp)
theorem getD_map_name {l:Dir} {i:Nat} (h:i<l.length):(l.map (·.Name)).getD i bE=(l.getD i dGDE).Name:=by
 simp [List.getD,List.getElem?_eq_getElem h]
theorem beqS_refl (a:ByteArray):(a==a)=true:=by rw [beqS];simp
theorem same_l4 (n:Nat) (d:GDisk) (h1:d.Pending.length≤1000000000):∀(k i m:Nat),i+k=d.Pending.length→k<m→r22_Same_l4 n d d m (i:Int)=some true
 | k,i,0,_,h=>by omega
 | 0,i,m+1,h,_=>by
  have:¬((i:Int)<(d.Pending.length:Int)):=by omega
  simp only [r22_Same_l4,this,decide_false,cond_false]
 | k+1,i,m+1,h,h2=>by
  have ih:=same_l4 n d h1 k (i+1) m (by omega) (by omega)
  simp only [r22_Same_l4,show (i:Int)<(d.Pending.length:Int) by omega,show (0:Int)≤(i:Int) by omega,decide_true,Bool.and_true,cond_true,toNat_c,wr1 i (by omega),beq_self_eq_true,beqS_refl,Bool.not_true,cond_false,ih]
theorem same_l2 (n:Nat) (d:GDisk) (h1:d.Pending.length≤1000000000) (h1':d.Durable.length≤1000000000) (hn:d.Pending.length<n):∀(k i m:Nat),i+k=d.Durable.length→k<m→r22_Same_l2 n d d m (i:Int)=some true
 | k,i,0,_,h=>by omega
 | 0,i,m+1,h,_=>by
  have:¬((i:Int)<(d.Durable.length:Int)):=by omega
  simp only [r22_Same_l2,r22_Same_s3,this,decide_false,cond_false]
  exact same_l4 n d h1 d.Pending.length 0 n (by omega) hn
 | k+1,i,m+1,h,h2=>by
  have ih:=same_l2 n d h1 h1' hn k (i+1) m (by omega) (by omega)
  simp only [r22_Same_l2,show (i:Int)<(d.Durable.length:Int) by omega,show (0:Int)≤(i:Int) by omega,decide_true,Bool.and_true,cond_true,toNat_c,wr1 i (by omega),beq_self_eq_true,beqS_refl,Bool.not_true,cond_false,ih]
theorem same_l0 (n:Nat) (d:GDisk) (h1:d.Pending.length≤1000000000) (h1':d.Durable.length≤1000000000) (h1'':d.Inodes.length≤1000000000) (hn:d.Pending.length<n) (hn':d.Durable.length<n):∀(k i m:Nat),i+k=d.Inodes.length→k<m→r22_Same_l0 n d d m (i:Int)=some true
 | k,i,0,_,h=>by omega
 | 0,i,m+1,h,_=>by
  have:¬((i:Int)<(d.Inodes.length:Int)):=by omega
  simp only [r22_Same_l0,r22_Same_s1,this,decide_false,cond_false]
  exact same_l2 n d h1 h1' hn d.Durable.length 0 n (by omega) hn'
 | k+1,i,m+1,h,h2=>by
  have ih:=same_l0 n d h1 h1' h1'' hn hn' k (i+1) m (by omega) (by omega)
  simp only [r22_Same_l0,show (i:Int)<(d.Inodes.length:Int) by omega,show (0:Int)≤(i:Int) by omega,decide_true,Bool.and_true,cond_true,toNat_c,wr1 i (by omega),beq_self_eq_true,beqS_refl,Bool.not_true,cond_false,ih]
end Go.Proofs.YtomalcfghdaghaaGreatDoor
/- Plain laws,7: sizes;DiskReads. -/
set_option linter.unusedVariables false
set_option linter.unusedSimpArgs false
namespace Go.Proofs.YtomalcfghdaghaaGreatDoor
open Go Go.AM
theorem great_l4 (n:Nat) (d:GDisk) (h1:d.Pending.length≤1000000000):∀(k i m:Nat) (s:Int),i+k=d.Pending.length→k<m→∃b,r22_Great_l4 n d m s (i:Int)=some b∧(b=false→∀x∈d.Pending.drop i,x.Name.size≤100∧x.To.size≤100)
 | k,i,0,_,_,h=>by omega
 | 0,i,m+1,s,h,_=>by
  have:¬((i:Int)<(d.Pending.length:Int)):=by omega
  rw [List.drop_eq_nil_of_le (by omega)]
  exact ⟨decide (s>60000),by simp only [r22_Great_l4,r22_Great_s5,this,decide_false,cond_false],fun _ x hx=>by simp at hx⟩
 | k+1,i,m+1,s,h,h2=>by
  rw [getD_drop (d:=dGDO) (show i<d.Pending.length by omega)]
  obtain ⟨b,e1,e2⟩:=great_l4 n d h1 k (i+1) m s (by omega) (by omega)
  obtain ⟨x,hx⟩:∃x,d.Pending.getD i dGDO=x:=⟨_,rfl⟩
  simp only [r22_Great_l4,show (i:Int)<(d.Pending.length:Int) by omega,show (0:Int)≤(i:Int) by omega,decide_true,Bool.and_true,cond_true,toNat_c,wr1 i (by omega),hx,e1]
  by_cases c1:(x.Name.size:Int)>100
  ·exact ⟨true,by simp only [c1,decide_true,cond_true],fun h=>by cases h⟩
  ·by_cases c2:(x.To.size:Int)>100
   ·exact ⟨true,by simp only [c1,c2,decide_true,decide_false,cond_true,cond_false],fun h=>by cases h⟩
   ·refine ⟨b,by simp only [c1,c2,decide_false,cond_false],fun h y hy=>?_⟩
    rcases List.mem_cons.1 hy with rfl | hy
    ·omega
    ·exact e2 h y hy
theorem great_l2 (n:Nat) (d:GDisk) (h1:d.Pending.length<n) (h1':d.Durable.length≤1000000000) (hn:d.Pending.length≤1000000000∧d.Durable.length≤1000000000):∀(k i m:Nat) (s:Int),i+k=d.Durable.length→k<m→∃b,r22_Great_l2 n d m s (i:Int)=some b∧(b=false→(∀x∈d.Durable.drop i,x.Name.size≤100)∧∀x∈d.Pending,x.Name.size≤100∧x.To.size≤100)
 | k,i,0,_,_,h=>by omega
 | 0,i,m+1,s,h,_=>by
  have:¬((i:Int)<(d.Durable.length:Int)):=by omega
  rw [List.drop_eq_nil_of_le (by omega)]
  obtain ⟨b,e1,e2⟩:=great_l4 n d (by omega) d.Pending.length 0 n s (by omega) h1
  refine ⟨b,by simp only [r22_Great_l2,r22_Great_s3,this,decide_false,cond_false];exact e1,fun h=>⟨fun x hx=>by simp at hx,?_⟩⟩
  simpa using e2 h
 | k+1,i,m+1,s,h,h2=>by
  rw [getD_drop (d:=dGDE) (show i<d.Durable.length by omega)]
  obtain ⟨b,e1,e2⟩:=great_l2 n d h1 h1' hn k (i+1) m s (by omega) (by omega)
  obtain ⟨x,hx⟩:∃x,d.Durable.getD i dGDE=x:=⟨_,rfl⟩
  simp only [r22_Great_l2,show (i:Int)<(d.Durable.length:Int) by omega,show (0:Int)≤(i:Int) by omega,decide_true,Bool.and_true,cond_true,toNat_c,wr1 i (by omega),hx,e1]
  by_cases c1:(x.Name.size:Int)>100
  ·exact ⟨true,by simp only [c1,decide_true,cond_true],fun h=>by cases h⟩
  ·refine ⟨b,by simp only [c1,decide_false,cond_false],fun h=>⟨fun y hy=>?_,(e2 h).2⟩⟩
   rcases List.mem_cons.1 hy with rfl | hy
   ·omega
   ·exact (e2 h).1 y hy
theorem great_l0 (n:Nat) (d:GDisk) (h1:d.Pending.length<n) (h1':d.Durable.length<n) (hn:d.Pending.length≤1000000000∧d.Durable.length≤1000000000) (hI:d.Inodes.length≤1000000000):∀(k i m:Nat) (s:Int),i+k=d.Inodes.length→k<m→∃b,r22_Great_l0 n d m s (i:Int)=some b∧(b=false→(∀x∈d.Durable,x.Name.size≤100)∧∀x∈d.Pending,x.Name.size≤100∧x.To.size≤100)
 | k,i,0,_,_,h=>by omega
 | 0,i,m+1,s,h,_=>by
  have:¬((i:Int)<(d.Inodes.length:Int)):=by omega
  obtain ⟨b,e1,e2⟩:=great_l2 n d h1 (by omega) hn d.Durable.length 0 n s (by omega) h1'
  refine ⟨b,by simp only [r22_Great_l0,r22_Great_s1,this,decide_false,cond_false];exact e1,fun h=>?_⟩
  simpa using e2 h
 | k+1,i,m+1,s,h,h2=>by
  obtain ⟨x,hx⟩:∃x,d.Inodes.getD i dGI=x:=⟨_,rfl⟩
  obtain ⟨b,e1,e2⟩:=great_l0 n d h1 h1' hn hI k (i+1) m (IntKind.wrap .i64 (s+(x.Data.size:Int))) (by omega) (by omega)
  simp only [r22_Great_l0,show (i:Int)<(d.Inodes.length:Int) by omega,show (0:Int)≤(i:Int) by omega,decide_true,Bool.and_true,cond_true,toNat_c,wr1 i (by omega),hx,e1]
  by_cases c1:(x.Data.size:Int)>20000
  ·exact ⟨true,by simp only [c1,decide_true,cond_true],fun h=>by cases h⟩
  ·exact ⟨b,by simp only [c1,decide_false,cond_false],e2⟩
theorem great_all (n:Nat) (d:GDisk) (hn:50≤n):∃b,r22_Great n d=some b∧(b=false→Bd 200 d∧d.Inodes.length≤40∧d.Durable.length≤40∧d.Pending.length≤40):=by
 obtain ⟨m,rfl⟩:∃m,n=m+1:=⟨n-1,by omega⟩
 by_cases c1:(d.Inodes.length:Int)>40
 ·exact ⟨true,by simp only [r22_Great,c1,decide_true,cond_true],fun h=>by cases h⟩
 ·by_cases c2:(d.Durable.length:Int)>40
  ·exact ⟨true,by simp only [r22_Great,c1,c2,decide_true,decide_false,cond_true,cond_false],fun h=>by cases h⟩
  ·by_cases c3:(d.Pending.length:Int)>40
   ·exact ⟨true,by simp only [r22_Great,c1,c2,c3,decide_true,decide_false,cond_true,cond_false],fun h=>by cases h⟩
   ·obtain ⟨b,e1,e2⟩:=great_l0 m d (by omega) (by omega) ⟨by omega,by omega⟩ (by omega) d.Inodes.length 0 m 0 (by omega) (by omega)
    refine ⟨b,by simp only [r22_Great,c1,c2,c3,decide_false,cond_false];exact e1,fun h=>⟨⟨fun e he=>?_,fun x hx=>?_,by omega,by omega,by omega,by omega⟩,by omega,by omega,by omega⟩⟩
    ·have:=(e2 h).1 e he;omega
    ·have:=(e2 h).2 x hx;omega
end Go.Proofs.YtomalcfghdaghaaGreatDoor
/- Plain laws,8: the program's operations. -/
set_option linter.unusedVariables false
set_option linter.unusedSimpArgs false
namespace Go.Proofs.YtomalcfghdaghaaGreatDoor
open Go Go.AM
def prf (d next:GDisk):GDisk×Int:=if d.Left=0 then (d,19) else (⟨next.Inodes,next.Durable,next.Pending,if d.Left>0 then d.Left-1 else d.Left⟩,0)
def no (e:Int):GDisk×Int:=(⟨[],[],[],0⟩,e)
structure Lw (d:GDisk):Prop where
 lo:-9223372036854775808≤d.Left
 hi:d.Left≤9223372036854775807
theorem perform_eq (n:Nat) (d next:GDisk) (hn:1≤n) (hL:next.Left=d.Left) (hw:Lw d):dk_perform n d next=some (prf d next):=by
 obtain ⟨m,rfl⟩:∃m,n=m+1:=⟨n-1,by omega⟩
 have h1:=hw.lo;have h2:=hw.hi
 simp only [dk_perform,dk_perform_s0,prf]
 by_cases c:d.Left=0
 ·simp [c]
 ·have e:(d.Left==0)=false:=by simpa using c
  rw [e];simp only [cond_false]
  rw [if_neg c]
  by_cases c2:d.Left>0
  ·simp only [c2,decide_true,cond_true,if_true,wr (d.Left-1) (by omega) (by omega)]
  ·simp only [c2,decide_false,cond_false,if_false,hL]
def chg (d:GDisk) (i:Nat) (x:GI):GDisk:=⟨d.Inodes.set i x,d.Durable,d.Pending,d.Left⟩
theorem change_eq (n:Nat) (d:GDisk) (i:Int) (x:GI) (hn:2≤n) (h0:0≤i) (h1:i<d.Inodes.length) (hl:d.Inodes.length≤1000):dk_change n d i x=some (chg d i.toNat x):=by
 obtain ⟨m,rfl⟩:∃m,n=m+2:=⟨n-2,by omega⟩
 have hpos:0<d.Inodes.length:=by omega
 have hb:i.toNat<d.Inodes.length:=by omega
 have hck:(true&&(decide ((0+d.Inodes.length)*24≤140737488355328)&&decide (0+d.Inodes.length≤9223372036854775807)))=true:=by
  simp only [Bool.true_and,Bool.and_eq_true,decide_eq_true_eq];omega
 have hble:Nat.ble d.Inodes.length (d.Inodes.set i.toNat x).length=true:=by rw [List.length_set];exact Nat.ble_eq_true_of_le (Nat.le_refl _)
 have htk:(d.Inodes.set i.toNat x).take d.Inodes.length=d.Inodes.set i.toNat x:=List.take_of_length_le (by rw [List.length_set];exact Nat.le_refl _)
 simp only [dk_change,sl_Clone,hpos,hck,decide_true,cond_true,Option.bind_some,h0,h1,Bool.and_true,blt_of hb,hble,htk,chg]
theorem pend_eq (n:Nat) (d:GDisk) (x:GDO) (hn:2≤n) (hl:d.Pending.length≤1000):dk_pend n d x=some ⟨d.Inodes,d.Durable,d.Pending++[x],d.Left⟩:=by
 obtain ⟨m,rfl⟩:∃m,n=m+2:=⟨n-2,by omega⟩
 simp only [dk_pend,sl_Clip,show (0:Int)≤0 by omega,show (0:Int)≤(d.Pending.length:Int) by omega,show ((d.Pending.length:Int)≤(d.Pending.length:Int)) by omega,decide_true,Bool.and_true,cond_true,Option.bind_some,app_ok (n:=d.Pending.length) (b:=48) (by omega) (by omega)]
def crtF (d:GDisk) (name:ByteArray):GDisk×Int:=
 if valid d=false then no 1 else if isNm name=false then no 5 else if (lkE name (cur d).1).isNone=false then no 6 else if d.Inodes.length≥1000 then no 18 else if d.Pending.length≥1000 then no 18
 else prf d ⟨d.Inodes++[⟨bE,0⟩],d.Durable,d.Pending++[⟨1,name,bE,(d.Inodes.length:Int)⟩],d.Left⟩
def ino (d:GDisk) (name:ByteArray):Nat:=(fnd d name).1.toNat
def file (d:GDisk) (name:ByteArray):GI:=d.Inodes.getD (ino d name) dGI
def appF (d:GDisk) (name data:ByteArray):GDisk×Int:=
 if (fnd d name).2≠0 then no (fnd d name).2 else if (data.size:Int)>1048576-((file d name).Data.size:Int) then no 18 else prf d (chg d (ino d name) ⟨(file d name).Data++data,(file d name).Synced⟩)
def synF (d:GDisk) (name:ByteArray):GDisk×Int:=
 if (fnd d name).2≠0 then no (fnd d name).2 else prf d (chg d (ino d name) ⟨(file d name).Data,((file d name).Data.size:Int)⟩)
def renF (d:GDisk) (name to:ByteArray):GDisk×Int:=
 if (fnd d name).2≠0 then no (fnd d name).2 else if isNm to=false then no 5 else if to=name then no 6 else if d.Pending.length≥1000 then no 18 else prf d ⟨d.Inodes,d.Durable,d.Pending++[⟨2,name,to,0⟩],d.Left⟩
def remF (d:GDisk) (name:ByteArray):GDisk×Int:=
 if (fnd d name).2≠0 then no (fnd d name).2 else if d.Pending.length≥1000 then no 18 else prf d ⟨d.Inodes,d.Durable,d.Pending++[⟨3,name,bE,0⟩],d.Left⟩
def acI (d:GDisk) (l:Dir) (i:Nat):Nat→List GI
 | 0=>[]
 | k+1=>bif usedE l (i:Int) then d.Inodes.getD i dGI::acI d l (i+1) k else acI d l (i+1) k
def rnk (l:Dir):Nat→Nat
 | 0=>0
 | i+1=>bif usedE l (i:Int) then rnk l i+1 else rnk l i
def rnkE (l:Dir) (e:GDE):GDE:=⟨e.Name,(rnk l e.Inode.toNat:Int)⟩
def sdF (d:GDisk):GDisk×Int:=
 if valid d=false then no 1 else prf d ⟨acI d (cur d).1 0 d.Inodes.length,(cur d).1.map (rnkE (cur d).1),[],d.Left⟩
theorem create_f (n B:Nat) (d:GDisk) (name:ByteArray) (hb:Bd B d) (hw:Lw d) (hn:B+1200≤n):dk_Create n d name=some (crtF d name):=by
 obtain ⟨m,rfl⟩:∃m,n=m+1:=⟨n-1,by omega⟩
 have hB:=hb.big;have hdl:=hb.dl
 obtain ⟨r,h1,h2⟩:=current_eq m d (by omega) (by omega)
 simp only [dk_Create,h1,Option.bind_some,crtF]
 unfold curOut at h2
 cases hv:valid d with
 | false=>
  rw [if_neg (by simp [hv])] at h2
  cases r with
  | c0 a=>rfl
  | c1 a b c=>rfl
  | c2 a f t=>exact absurd rfl (h2 a f t)
 | true=>
  rw [if_pos hv] at h2
  obtain ⟨f,t,rfl,hR⟩:=h2
  obtain ⟨i1,i2,i3,i4,i5,i6⟩:=valid_il hv
  simp only [isName_eq m name (by omega),Option.bind_some,lk_is hR,Bool.true_eq_false,if_false]
  cases hnm:isNm name with
  | false=>rfl
  | true=>
   cases hnn:(lkE name (cur d).1).isNone with
   | false=>rfl
   | true=>
    simp only [Bool.not_true,cond_false,Bool.true_eq_false,if_false]
    by_cases c1:d.Inodes.length≥1000
    ·rw [if_pos c1]
     simp only [show (d.Inodes.length:Int)≥1000 by omega,decide_true,cond_true];rfl
    ·rw [if_neg c1]
     by_cases c2:d.Pending.length≥1000
     ·rw [if_pos c2]
      simp only [show ¬(d.Inodes.length:Int)≥1000 by omega,show (d.Pending.length:Int)≥1000 by omega,decide_true,decide_false,cond_true,cond_false];rfl
     ·rw [if_neg c2]
      obtain ⟨q,rfl⟩:∃q,m=q+1:=⟨m-1,by omega⟩
      simp only [show ¬(d.Inodes.length:Int)≥1000 by omega,show ¬(d.Pending.length:Int)≥1000 by omega,decide_true,decide_false,cond_true,cond_false,pend_eq (q+1) d _ (by omega) (show d.Pending.length≤1000 by omega),Option.bind_some,
       sl_Clip_97,show (0:Int)≤0 by omega,show (0:Int)≤(d.Inodes.length:Int) by omega,show ((d.Inodes.length:Int)≤(d.Inodes.length:Int)) by omega,Bool.and_true,app_ok (n:=d.Inodes.length) (b:=24) (by omega) (by omega)]
      rw [perform_eq (q+1) d _ (by omega) (by rfl) hw];rfl
theorem fnd_e (d:GDisk) (name:ByteArray):(fnd d name).2=0∨(fnd d name).2=1∨(fnd d name).2=7:=by
 unfold fnd
 cases valid d with
 | false=>simp
 | true=>cases lkE name (cur d).1<;>simp
theorem file_ok {d:GDisk} {name:ByteArray} (hD:d.Durable.length≤1000000000) (h:(fnd d name).2=0):okI (file d name)=true∧ino d name<d.Inodes.length∧0≤(fnd d name).1∧(fnd d name).1<d.Inodes.length∧d.Inodes.length≤1000∧d.Pending.length≤1000:=by
 obtain ⟨hv,h1,h2⟩:=fnd_in hD h
 obtain ⟨i1,i2,i3,i4,i5,i6⟩:=valid_il hv
 exact ⟨inode_ok i4 h1 h2,by unfold ino;omega,h1,h2,i1,i2⟩
theorem append_f (n B:Nat) (d:GDisk) (name data:ByteArray) (hb:Bd B d) (hw:Lw d) (hn:B+1200≤n) (hs:data.size≤1000000000):dk_Append n d name data=some (appF d name data):=by
 obtain ⟨m,rfl⟩:∃m,n=m+1:=⟨n-1,by omega⟩
 have hB:=hb.big;have hdl:=hb.dl
 simp only [dk_Append,find_d m B d name hb (by omega),Option.bind_some,appF]
 by_cases he:(fnd d name).2=0
 ·obtain ⟨o1,o2,o3,o4,o5,o6⟩:=file_ok (by omega) he
  obtain ⟨p1,p2,p3⟩:=okI_spec o1
  have hx:d.Inodes.getD (fnd d name).1.toNat dGI=file d name:=rfl
  simp only [he,show ((0:Int) != 0)=false by rfl,cond_false,o3,o4,decide_true,Bool.and_true,cond_true,hx,wr (1048576-((file d name).Data.size:Int)) (by omega) (by omega),ne_eq,not_true_eq_false,if_false]
  by_cases c:(data.size:Int)>1048576-((file d name).Data.size:Int)
  ·rw [if_pos c];simp only [c,decide_true,cond_true];rfl
  ·rw [if_neg c]
   simp only [c,decide_false,cond_false,show (file d name).Data.size+data.size≤9223372036854775807 by omega,decide_true,cond_true,change_eq m d (fnd d name).1 _ (by omega) o3 o4 o5,Option.bind_some]
   rw [perform_eq m d _ (by omega) (by rfl) hw];rfl
 ·have e:((fnd d name).2 != 0)=true:=by simpa [bne] using he
  rw [if_pos he]
  simp only [e,cond_true];rfl
theorem sync_f (n B:Nat) (d:GDisk) (name:ByteArray) (hb:Bd B d) (hw:Lw d) (hn:B+1200≤n):dk_Sync n d name=some (synF d name):=by
 obtain ⟨m,rfl⟩:∃m,n=m+1:=⟨n-1,by omega⟩
 have hB:=hb.big;have hdl:=hb.dl
 simp only [dk_Sync,find_d m B d name hb (by omega),Option.bind_some,synF]
 by_cases he:(fnd d name).2=0
 ·obtain ⟨o1,o2,o3,o4,o5,o6⟩:=file_ok (by omega) he
  have hx:d.Inodes.getD (fnd d name).1.toNat dGI=file d name:=rfl
  simp only [he,show ((0:Int) != 0)=false by rfl,cond_false,o3,o4,decide_true,Bool.and_true,cond_true,hx,ne_eq,not_true_eq_false,if_false,change_eq m d (fnd d name).1 _ (by omega) o3 o4 o5,Option.bind_some]
  rw [perform_eq m d _ (by omega) (by rfl) hw];rfl
 ·have e:((fnd d name).2 != 0)=true:=by simpa [bne] using he
  rw [if_pos he]
  simp only [e,cond_true];rfl
theorem rename_f (n B:Nat) (d:GDisk) (name to:ByteArray) (hb:Bd B d) (hw:Lw d) (hn:B+1200≤n):dk_Rename n d name to=some (renF d name to):=by
 obtain ⟨m,rfl⟩:∃m,n=m+1:=⟨n-1,by omega⟩
 have hB:=hb.big;have hdl:=hb.dl
 simp only [dk_Rename,find_d m B d name hb (by omega),Option.bind_some,renF]
 by_cases he:(fnd d name).2=0
 ·obtain ⟨o1,o2,o3,o4,o5,o6⟩:=file_ok (by omega) he
  simp only [he,show ((0:Int) != 0)=false by rfl,cond_false,ne_eq,not_true_eq_false,if_false,isName_eq m to (by omega),Option.bind_some,sEq_eq]
  cases hnm:isNm to with
  | false=>rfl
  | true=>
   simp only [Bool.not_true,cond_false,Bool.true_eq_false,if_false]
   by_cases ht:to=name
   ·rw [if_pos ht];simp only [ht,decide_true,cond_true];rfl
   ·rw [if_neg ht]
    simp only [ht,decide_false,cond_false]
    by_cases c:d.Pending.length≥1000
    ·rw [if_pos c];simp only [show (d.Pending.length:Int)≥1000 by omega,decide_true,cond_true];rfl
    ·rw [if_neg c]
     simp only [show ¬(d.Pending.length:Int)≥1000 by omega,decide_false,cond_false,pend_eq m d _ (by omega) o6,Option.bind_some]
     rw [perform_eq m d _ (by omega) (by rfl) hw];rfl
 ·have e:((fnd d name).2 != 0)=true:=by simpa [bne] using he
  rw [if_pos he]
  simp only [e,cond_true];rfl
theorem remove_f (n B:Nat) (d:GDisk) (name:ByteArray) (hb:Bd B d) (hw:Lw d) (hn:B+1200≤n):dk_Remove n d name=some (remF d name):=by
 obtain ⟨m,rfl⟩:∃m,n=m+1:=⟨n-1,by omega⟩
 have hB:=hb.big;have hdl:=hb.dl
 simp only [dk_Remove,find_d m B d name hb (by omega),Option.bind_some,remF]
 by_cases he:(fnd d name).2=0
 ·obtain ⟨o1,o2,o3,o4,o5,o6⟩:=file_ok (by omega) he
  simp only [he,show ((0:Int) != 0)=false by rfl,cond_false,ne_eq,not_true_eq_false,if_false]
  by_cases c:d.Pending.length≥1000
  ·rw [if_pos c];simp only [show (d.Pending.length:Int)≥1000 by omega,decide_true,cond_true];rfl
  ·rw [if_neg c]
   simp only [show ¬(d.Pending.length:Int)≥1000 by omega,decide_false,cond_false,pend_eq m d _ (by omega) o6,Option.bind_some]
   rw [perform_eq m d _ (by omega) (by rfl) hw];rfl
 ·have e:((fnd d name).2 != 0)=true:=by simpa [bne] using he
  rw [if_pos he]
  simp only [e,cond_true];rfl
theorem rnk_le (l:Dir):∀i,rnk l i≤i
 | 0=>Nat.le_refl _
 | i+1=>by have:=rnk_le l i;simp only [rnk];cases usedE l (i:Int)<;>simp<;>omega
theorem acI_len (d:GDisk) (l:Dir):∀k i,(acI d l i k).length+rnk l i=rnk l (i+k)
 | 0,i=>by simp [acI]
 | k+1,i=>by
  have ih:=acI_len d l k (i+1)
  have e:i+(k+1)=i+1+k:=by omega
  rw [e,← ih]
  simp only [acI,rnk]
  cases usedE l (i:Int)<;>simp<;>omega
theorem syncdir_l0 (n:Nat) (d:GDisk) (l:Dir) (f:List (ByteArray×Int)) (t:List Bool) (hR:Rd d.Inodes.length f t l) (hI:d.Inodes.length≤1000):∀(k i m:Nat) (acc:List GI) (p:List Int),i+k=d.Inodes.length→acc.length=rnk l i→p.length=d.Inodes.length→(∀j,j<i→usedE l (j:Int)=true→p.getD j 0=(rnk l j:Int))→k<m →
  ∃p',dk_SyncDir_l0 n d d.Inodes.length f t m acc (d.Inodes.length:Int) (i:Int) p=dk_SyncDir_s2 n d d.Inodes.length f t p' (acc++acI d l i k)∧p'.length=d.Inodes.length∧∀j,j<d.Inodes.length→usedE l (j:Int)=true→p'.getD j 0=(rnk l j:Int)
 | k,i,0,_,_,_,_,_,_,h=>by omega
 | 0,i,m+1,acc,p,h,h1,h2,h3,_=>by
  have:¬((i:Int)<(d.Inodes.length:Int)):=by omega
  exact ⟨p,by simp only [dk_SyncDir_l0,this,decide_false,cond_false,acI,List.append_nil],h2,fun j hj=>h3 j (by omega)⟩
 | k+1,i,m+1,acc,p,h,h1,h2,h3,h4=>by
  have hlt:(i:Int)<(d.Inodes.length:Int):=by omega
  have h0:(0:Int)≤(i:Int):=by omega
  have hbt:i<t.length:=by rw [hR.len];omega
  have hbp:i<p.length:=by omega
  have hrk:=rnk_le l i
  simp only [dk_SyncDir_l0,dk_SyncDir_s1,hlt,h0,decide_true,Bool.and_true,cond_true,toNat_c,blt_of hbt,blt_of hbp,hR.tkn i (by omega),wr1 i (by omega),acI,app_ok (n:=acc.length) (b:=24) (by omega) (by omega)]
  cases hu:usedE l (i:Int) with
  | false=>
   simp only [cond_false]
   exact syncdir_l0 n d l f t hR hI k (i+1) m acc p (by omega) (by simp only [rnk,hu,cond_false];exact h1) h2 (fun j hj hju=>by
    by_cases e:j=i
    ·subst e;rw [hu] at hju;cases hju
    ·exact h3 j (by omega) hju) (by omega)
  | true=>
   simp only [cond_true]
   obtain ⟨p',e1,e2,e3⟩:=syncdir_l0 n d l f t hR hI k (i+1) m (acc++[d.Inodes.getD i dGI]) (p.set i (acc.length:Int)) (by omega) (by simp only [rnk,hu,cond_true,List.length_append,List.length_singleton];omega) (by simp [h2]) (fun j hj hju=>by
    by_cases e:j=i
    ·subst e;simp only [List.getD];rw [List.getElem?_set_self hbp];simp only [Option.getD_some,h1]
    ·simp only [List.getD];rw [List.getElem?_set_ne (Ne.symm e)];exact h3 j (by omega) hju) (by omega)
   exact ⟨p',by rw [e1];simp only [List.append_assoc,List.singleton_append],e2,e3⟩
theorem syncdir_l3 (n:Nat) (d:GDisk) (l:Dir) (f:List (ByteArray×Int)) (t:List Bool) (hR:Rd d.Inodes.length f t l) (hI:d.Inodes.length≤1000) (r6:Nat) (p:List Int) (hp:p.length=d.Inodes.length) (hpp:∀j,j<d.Inodes.length→usedE l (j:Int)=true→p.getD j 0=(rnk l j:Int)) (a1:List GI) :
  ∀(k i m:Nat) (a2:Dir),i+k=l.length→a2.length=i→k<m→dk_SyncDir_l3 n d r6 (l.map (·.Name)) f t p m a1 a2 (l.length:Int) (i:Int)=dk_SyncDir_s4 n d f t p a1 (a2++(l.drop i).map (rnkE l))
 | k,i,0,_,_,_,h=>by omega
 | 0,i,m+1,a2,h,_,_=>by
  have:¬((i:Int)<(l.length:Int)):=by omega
  rw [List.drop_eq_nil_of_le (by omega)]
  simp only [dk_SyncDir_l3,this,decide_false,cond_false,List.map_nil,List.append_nil]
 | k+1,i,m+1,a2,h,h1,h2=>by
  have hl:=hR.bound
  have hlt:(i:Int)<(l.length:Int):=by omega
  have hlt2:(i:Int)<((l.map (·.Name)).length:Int):=by rw [List.length_map];omega
  have h0:(0:Int)≤(i:Int):=by omega
  have hi:i<l.length:=by omega
  have hmem:=getD_mem hi
  have hlk:lk (l.getD i dGDE).Name f=some (l.getD i dGDE).Inode:=by rw [hR.lks];exact (lkE_some hR.srt).2 hmem
  obtain ⟨g1,g2⟩:=hR.rng _ hmem
  have hbp:(l.getD i dGDE).Inode.toNat<p.length:=by omega
  have hpv:=hpp (l.getD i dGDE).Inode.toNat (by omega) (usedE_iff.2 ⟨_,hmem,by omega⟩)
  have ih:=syncdir_l3 n d l f t hR hI r6 p hp hpp a1 k (i+1) m (a2++[⟨(l.getD i dGDE).Name,p.getD (l.getD i dGDE).Inode.toNat 0⟩]) (by omega) (by simp [h1]) (by omega)
  rw [hpv] at ih
  rw [getD_drop (d:=dGDE) hi]
  simp only [dk_SyncDir_l3,hlt,hlt2,h0,decide_true,Bool.and_true,cond_true,toNat_c,getD_map_name hi,hlk,Option.getD_some,g1,g2,blt_of hbp,app_ok (n:=a2.length) (b:=24) (by omega) (by omega),wr1 i (by omega),hpv,ih,List.map_cons,List.append_assoc,List.singleton_append]
  rfl
theorem syncdir_f (n B:Nat) (d:GDisk) (hb:Bd B d) (hw:Lw d) (hn:B+1200≤n):dk_SyncDir n d=some (sdF d):=by
 obtain ⟨m,rfl⟩:∃m,n=m+1:=⟨n-1,by omega⟩
 have hB:=hb.big;have hdl:=hb.dl
 obtain ⟨r,h1,h2⟩:=current_eq m d (by omega) (by omega)
 simp only [dk_SyncDir,h1,Option.bind_some,sdF]
 unfold curOut at h2
 cases hv:valid d with
 | false=>
  rw [if_neg (by simp [hv])] at h2
  cases r with
  | c0 a=>rfl
  | c1 a b c=>rfl
  | c2 a f t=>exact absurd rfl (h2 a f t)
 | true=>
  rw [if_pos hv] at h2
  obtain ⟨f,t,rfl,hR⟩:=h2
  obtain ⟨i1,i2,i3,i4,i5,i6⟩:=valid_il hv
  have hl:=hR.bound
  simp only [Bool.true_eq_false,if_false,show (0:Int)≤(d.Inodes.length:Int) by omega,show (d.Inodes.length:Int)*8≤140737488355328 by omega,show (d.Inodes.length:Int)≤9223372036854775807 by omega,decide_true,Bool.and_true,cond_true]
  obtain ⟨p,e1,e2,e3⟩:=syncdir_l0 m d (cur d).1 f t hR i1 d.Inodes.length 0 m [] (List.replicate d.Inodes.length 0) (by omega) rfl (by simp) (fun j hj=>by omega) (by omega)
  refine Eq.trans e1 ?_
  obtain ⟨q,rfl⟩:∃q,m=q+1:=⟨m-1,by omega⟩
  simp only [dk_SyncDir_s2,maps_Keys,Option.bind_some,sorted_rd hR (q+1) (by omega) (by omega),List.length_map,List.nil_append]
  have:=syncdir_l3 (q+1) d (cur d).1 f t hR i1 d.Inodes.length p e2 e3 (acI d (cur d).1 0 d.Inodes.length) (cur d).1.length 0 (q+1) [] (by omega) rfl (by omega)
  refine Eq.trans this ?_
  simp only [dk_SyncDir_s4,List.drop_zero,List.nil_append]
  rw [perform_eq (q+1) d _ (by omega) (by rfl) hw];rfl
end Go.Proofs.YtomalcfghdaghaaGreatDoor
/- Plain laws,9: what the operations leave of sizes and power;DiskPower. -/
set_option linter.unusedVariables false
set_option linter.unusedSimpArgs false
namespace Go.Proofs.YtomalcfghdaghaaGreatDoor
open Go Go.AM
structure Bg (c:Nat) (d:GDisk):Prop where
 dn:∀e∈d.Durable,e.Name.size≤200
 pn:∀x∈d.Pending,x.Name.size+x.To.size≤200
 dl:d.Durable.length+d.Pending.length≤c
 il:d.Inodes.length≤c
theorem Bg.bd {c:Nat} {d:GDisk} (h:Bg c d) (hc:c≤200):Bd 200 d:=⟨h.dn,h.pn,by have:=h.dl;omega,by have:=h.dl;omega,by have:=h.il;omega,by omega⟩
theorem Bg.mono {c c':Nat} {d:GDisk} (h:Bg c d) (hc:c≤c'):Bg c' d:=⟨h.dn,h.pn,by have:=h.dl;omega,by have:=h.il;omega⟩
theorem aft_len (N:Int):∀(ops:List GDO) (l:Dir),(aft N ops l).1.length≤l.length+ops.length
 | [],l=>by simp [aft]
 | x::ops,l=>by
  have h1:=ap_len N l x
  have ih:=aft_len N ops (ap N l x).1
  simp only [aft,List.length_cons]
  cases (ap N l x).2<;>simp only [cond_true,cond_false]<;>omega
theorem isNm_size {s:ByteArray} (h:isNm s=true):s.size≤60:=by
 simp only [isNm,Bool.and_eq_true,decide_eq_true_eq] at h;exact h.1.2
structure Out (c:Nat) (d:GDisk) (r:GDisk×Int):Prop where
 ok:r.2=0→d.Left≠0∧r.1.Left=(if d.Left>0 then d.Left-1 else d.Left)∧Bg (c+1) r.1
 lost:r.2=19→d.Left=0∧r.1=d
 err:r.2≠0→r.2≠19→r.1=⟨[],[],[],0⟩
theorem out_prf {c:Nat} {d next:GDisk} (h:Bg (c+1) next):Out c d (prf d next):=by
 unfold prf
 by_cases h0:d.Left=0
 ·rw [if_pos h0];exact ⟨fun e=>(by cases e),fun _=>⟨h0,rfl⟩,fun _ h=>absurd rfl h⟩
 ·rw [if_neg h0];exact ⟨fun _=>⟨h0,rfl,⟨h.dn,h.pn,h.dl,h.il⟩⟩,fun e=>(by cases e),fun h=>absurd rfl h⟩
theorem out_no {c:Nat} {d:GDisk} {e:Int} (h0:e≠0) (h1:e≠19):Out c d (no e):=⟨fun h=>absurd h h0,fun h=>absurd h h1,fun _ _=>rfl⟩
theorem out_fnd {c:Nat} {d:GDisk} {name:ByteArray} (h:(fnd d name).2≠0):Out c d (no (fnd d name).2):=by
 refine out_no h ?_
 rcases fnd_e d name with e | e | e<;>rw [e]<;>omega
theorem bg_chg {c:Nat} {d:GDisk} {i:Nat} {x:GI} (h:Bg c d):Bg (c+1) (chg d i x):=⟨h.dn,h.pn,by have:=h.dl;simp only [chg];omega,by have:=h.il;simp only [chg,List.length_set];omega⟩
theorem bg_pend {c:Nat} {d:GDisk} {x:GDO} {I:List GI} (h:Bg c d) (hx:x.Name.size+x.To.size≤200) (hI:I.length≤c+1):Bg (c+1) ⟨I,d.Durable,d.Pending++[x],d.Left⟩:=by
 refine ⟨h.dn,fun y hy=>?_,?_,hI⟩
 ·rcases List.mem_append.1 hy with hy | hy
  ·exact h.pn y hy
  ·have:=List.mem_singleton.1 hy;rw [this];exact hx
 ·have:=h.dl;simp only [List.length_append,List.length_singleton];omega
end Go.Proofs.YtomalcfghdaghaaGreatDoor
/- Plain laws,10: the reference's operations;DiskChanges,DiskRun. -/
set_option linter.unusedVariables false
set_option linter.unusedSimpArgs false
namespace Go.Proofs.YtomalcfghdaghaaGreatDoor
open Go Go.AM
theorem powered_eq (n:Nat) (d next:GDisk) (hn:1≤n) (hw:Lw d):r22_powered n d next=some (prf d next):=by
 obtain ⟨m,rfl⟩:∃m,n=m+1:=⟨n-1,by omega⟩
 have h1:=hw.lo;have h2:=hw.hi
 simp only [r22_powered,r22_powered_s0,prf]
 by_cases c:d.Left=0
 ·simp [c]
 ·have e:(d.Left==0)=false:=by simpa using c
  rw [e];simp only [cond_false]
  rw [if_neg c]
  by_cases c2:d.Left>0
  ·simp only [c2,decide_true,cond_true,if_true,wr (d.Left-1) (by omega) (by omega)]
  ·simp only [c2,decide_false,cond_false,if_false]
theorem app_ok0 {n b:Nat} (h:n*b≤140737488355328) (hb:1≤b):(true&&(decide ((0+n)*b≤140737488355328)&&decide (0+n≤9223372036854775807)))=true:=by
 have h1:n*1≤n*b:=Nat.mul_le_mul_left n hb
 simp only [Bool.true_and,Bool.and_eq_true,decide_eq_true_eq,Nat.zero_add]
 omega
theorem changed_eq (n:Nat) (d:GDisk) (i:Int) (x:GI) (hn:2≤n) (h0:0≤i) (h1:i<d.Inodes.length) (hl:d.Inodes.length≤1000) (hw:Lw d):r22_changed n d i x=some (prf d (chg d i.toNat x)):=by
 obtain ⟨m,rfl⟩:∃m,n=m+2:=⟨n-2,by omega⟩
 have w1:=hw.lo;have w2:=hw.hi
 have hpos:0<d.Inodes.length:=by omega
 have hb:i.toNat<d.Inodes.length:=by omega
 have hble:Nat.ble d.Inodes.length (d.Inodes.set i.toNat x).length=true:=by rw [List.length_set];exact Nat.ble_eq_true_of_le (Nat.le_refl _)
 have htk:(d.Inodes.set i.toNat x).take d.Inodes.length=d.Inodes.set i.toNat x:=List.take_of_length_le (by rw [List.length_set];exact Nat.le_refl _)
 simp only [r22_changed,app_ok0 (n:=d.Inodes.length) (b:=24) (by omega) (by omega),cond_true,hpos,decide_true,h0,h1,Bool.and_true,blt_of hb,r22_powered_v1,r22_powered_v1_s0,prf,chg]
 by_cases c:d.Left=0
 ·simp [c]
 ·have e:(d.Left==0)=false:=by simpa using c
  rw [e];simp only [cond_false]
  rw [if_neg c]
  by_cases c2:d.Left>0
  ·simp only [c2,decide_true,cond_true,if_true,wr (d.Left-1) (by omega) (by omega),Option.bind_some,hble,htk]
  ·simp only [c2,decide_false,cond_false,if_false,Option.bind_some,hble,htk,cond_true]
theorem pending_eq (n:Nat) (d:GDisk) (x:GDO) (hn:2≤n) (hl:d.Pending.length≤1000) (hI:d.Inodes.length≤1000) (hw:Lw d):r22_pending n d x=some (if d.Pending.length≥1000 then no 18 else prf d ⟨if x.Kind=1 then d.Inodes++[⟨bE,0⟩] else d.Inodes,d.Durable,d.Pending++[x],d.Left⟩):=by
 obtain ⟨m,rfl⟩:∃m,n=m+1:=⟨n-1,by omega⟩
 simp only [r22_pending]
 by_cases c:d.Pending.length≥1000
 ·rw [if_pos c];simp only [show (d.Pending.length:Int)≥1000 by omega,decide_true,cond_true];rfl
 ·rw [if_neg c]
  simp only [show ¬(d.Pending.length:Int)≥1000 by omega,decide_false,cond_false,app_ok0 (n:=d.Pending.length) (b:=48) (by omega) (by omega),app_ok (n:=d.Pending.length) (b:=48) (by omega) (by omega),app_ok0 (n:=d.Inodes.length) (b:=24) (by omega) (by omega),app_ok (n:=d.Inodes.length) (b:=24) (by omega) (by omega),cond_true,
   r22_pending_s0,r22_pending_s1,powered_eq m d _ (show 1≤m by omega) hw,Option.bind_some]
  by_cases k:x.Kind=1
  ·rw [if_pos k];simp only [k,show ((1:Int)==1)=true by rfl,cond_true]
  ·rw [if_neg k]
   have e:(x.Kind==1)=false:=by simpa using k
   simp only [e,cond_false]
theorem create_r (n B:Nat) (d:GDisk) (name:ByteArray) (hb:Bd B d) (hw:Lw d) (hn:4*B+1200≤n) (hs:name.size+10≤n) (hs2:name.size≤1000000000):r22_Create n d name=some (crtF d name):=by
 obtain ⟨m,rfl⟩:∃m,n=m+1:=⟨n-1,by omega⟩
 have hB:=hb.big;have hdl:=hb.dl
 simp only [r22_Create,find_r m B d name hb (by omega),Option.bind_some,crtF,fnd]
 cases hv:valid d with
 | false=>rfl
 | true=>
  obtain ⟨i1,i2,i3,i4,i5,i6⟩:=valid_il hv
  simp only [cond_true,Bool.true_eq_false,if_false,name_eq m name (by omega) (by omega),Option.bind_some]
  have hp:=pending_eq m d ⟨1,name,bE,(d.Inodes.length:Int)⟩ (by omega) i2 i1 hw
  cases hl:lkE name (cur d).1 with
  | none=>
   simp only [show ((7:Int)==1)=false by rfl,show ((7:Int)==0)=false by rfl,cond_false,Option.isNone_none,Bool.true_eq_false,if_false]
   cases hnm:isNm name with
   | false=>rfl
   | true=>
    simp only [Bool.not_true,cond_false,Bool.true_eq_false,if_false]
    by_cases c1:d.Inodes.length≥1000
    ·rw [if_pos c1];simp only [show (d.Inodes.length:Int)≥1000 by omega,decide_true,cond_true];rfl
    ·rw [if_neg c1];simp only [show ¬(d.Inodes.length:Int)≥1000 by omega,decide_false,cond_false,hp,Option.bind_some,if_true]
  | some i=>
   simp only [show ((0:Int)==1)=false by rfl,show ((0:Int)==0)=true by rfl,cond_false,cond_true,Option.isNone_some,if_true]
   cases hnm:isNm name with
   | false=>rfl
   | true=>rfl
theorem append_r (n B:Nat) (d:GDisk) (name data:ByteArray) (hb:Bd B d) (hw:Lw d) (hn:4*B+1200≤n) (hs:data.size≤1000000000):r22_Append n d name data=some (appF d name data):=by
 obtain ⟨m,rfl⟩:∃m,n=m+1:=⟨n-1,by omega⟩
 have hB:=hb.big;have hdl:=hb.dl
 simp only [r22_Append,find_r m B d name hb (by omega),Option.bind_some,appF]
 by_cases he:(fnd d name).2=0
 ·obtain ⟨o1,o2,o3,o4,o5,o6⟩:=file_ok (by omega) he
  obtain ⟨p1,p2,p3⟩:=okI_spec o1
  have hx:d.Inodes.getD (fnd d name).1.toNat dGI=file d name:=rfl
  simp only [he,show ((0:Int) != 0)=false by rfl,cond_false,o3,o4,decide_true,Bool.and_true,cond_true,hx,wr (((file d name).Data.size:Int)+(data.size:Int)) (by omega) (by omega),ne_eq,not_true_eq_false,if_false]
  by_cases c:(data.size:Int)>1048576-((file d name).Data.size:Int)
  ·rw [if_pos c];simp only [show ((file d name).Data.size:Int)+(data.size:Int)>1048576 by omega,decide_true,cond_true];rfl
  ·rw [if_neg c]
   simp only [show ¬((file d name).Data.size:Int)+(data.size:Int)>1048576 by omega,decide_false,cond_false,show (file d name).Data.size+data.size≤9223372036854775807 by omega,decide_true,cond_true,changed_eq m d (fnd d name).1 _ (by omega) o3 o4 o5 hw,Option.bind_some]
   rfl
 ·have e:((fnd d name).2 != 0)=true:=by simpa [bne] using he
  rw [if_pos he]
  simp only [e,cond_true];rfl
theorem sync_r (n B:Nat) (d:GDisk) (name:ByteArray) (hb:Bd B d) (hw:Lw d) (hn:4*B+1200≤n):r22_Sync n d name=some (synF d name):=by
 obtain ⟨m,rfl⟩:∃m,n=m+1:=⟨n-1,by omega⟩
 have hB:=hb.big;have hdl:=hb.dl
 simp only [r22_Sync,find_r m B d name hb (by omega),Option.bind_some,synF]
 by_cases he:(fnd d name).2=0
 ·obtain ⟨o1,o2,o3,o4,o5,o6⟩:=file_ok (by omega) he
  have hx:d.Inodes.getD (fnd d name).1.toNat dGI=file d name:=rfl
  simp only [he,show ((0:Int) != 0)=false by rfl,cond_false,o3,o4,decide_true,Bool.and_true,cond_true,hx,ne_eq,not_true_eq_false,if_false,changed_eq m d (fnd d name).1 _ (by omega) o3 o4 o5 hw,Option.bind_some]
  rfl
 ·have e:((fnd d name).2 != 0)=true:=by simpa [bne] using he
  rw [if_pos he]
  simp only [e,cond_true];rfl
theorem rename_r (n B:Nat) (d:GDisk) (name to:ByteArray) (hb:Bd B d) (hw:Lw d) (hn:4*B+1200≤n) (hs:to.size+10≤n) (hs2:to.size≤1000000000):r22_Rename n d name to=some (renF d name to):=by
 obtain ⟨m,rfl⟩:∃m,n=m+1:=⟨n-1,by omega⟩
 have hB:=hb.big;have hdl:=hb.dl
 simp only [r22_Rename,find_r m B d name hb (by omega),Option.bind_some,renF]
 by_cases he:(fnd d name).2=0
 ·obtain ⟨o1,o2,o3,o4,o5,o6⟩:=file_ok (by omega) he
  simp only [he,show ((0:Int) != 0)=false by rfl,cond_false,ne_eq,not_true_eq_false,if_false,name_eq m to (by omega) (by omega),Option.bind_some,sEq_eq]
  cases hnm:isNm to with
  | false=>rfl
  | true=>
   simp only [Bool.not_true,cond_false,Bool.true_eq_false,if_false]
   by_cases ht:to=name
   ·rw [if_pos ht];simp only [ht,decide_true,cond_true];rfl
   ·rw [if_neg ht]
    simp only [ht,decide_false,cond_false,pending_eq m d ⟨2,name,to,0⟩ (by omega) o6 o5 hw,Option.bind_some,show ¬((2:Int)=1) by omega,if_false]
 ·have e:((fnd d name).2 != 0)=true:=by simpa [bne] using he
  rw [if_pos he]
  simp only [e,cond_true];rfl
theorem remove_r (n B:Nat) (d:GDisk) (name:ByteArray) (hb:Bd B d) (hw:Lw d) (hn:4*B+1200≤n):r22_Remove n d name=some (remF d name):=by
 obtain ⟨m,rfl⟩:∃m,n=m+1:=⟨n-1,by omega⟩
 have hB:=hb.big;have hdl:=hb.dl
 simp only [r22_Remove,find_r m B d name hb (by omega),Option.bind_some,remF]
 by_cases he:(fnd d name).2=0
 ·obtain ⟨o1,o2,o3,o4,o5,o6⟩:=file_ok (by omega) he
  simp only [he,show ((0:Int) != 0)=false by rfl,cond_false,ne_eq,not_true_eq_false,if_false,pending_eq m d ⟨3,name,bE,0⟩ (by omega) o6 o5 hw,Option.bind_some,show ¬((3:Int)=1) by omega]
 ·have e:((fnd d name).2 != 0)=true:=by simpa [bne] using he
  rw [if_pos he]
  simp only [e,cond_true];rfl
def inn (d:GDisk) (l:Dir) (i:Nat) (j:Nat):Nat→List GI×Dir→List GI×Dir
 | 0,s=>s
 | k+1,s=>bif (l.getD j dGDE).Inode==(i:Int) then inn d l i (j+1) k (s.1++[d.Inodes.getD i dGI],s.2.set j ⟨(s.2.getD j dGDE).Name,(s.1.length:Int)⟩) else inn d l i (j+1) k s
theorem srt_inj {l:Dir} (h:Srt l) {a b:Nat} (ha:a<l.length) (hb:b<l.length) (e:l.getD a dGDE=l.getD b dGDE):a=b:=by
 have hg:∀{c:Nat} (hc:c<l.length),l.getD c dGDE=l[c]:=fun hc=>by simp [List.getD,List.getElem?_eq_getElem hc]
 rw [hg ha,hg hb] at e
 rcases Nat.lt_trichotomy a b with h1 | h1 | h1
 ·have:=List.pairwise_iff_getElem.1 h a b ha hb h1;rw [e] at this;exact absurd this (ky_lt_irrefl _)
 ·exact h1
 ·have:=List.pairwise_iff_getElem.1 h b a hb ha h1;rw [e] at this;exact absurd this (ky_lt_irrefl _)
theorem inn_none (d:GDisk) (l:Dir) (i:Nat):∀(k j:Nat) (s:List GI×Dir),j+k=l.length→(∀q,j≤q→q<l.length→(l.getD q dGDE).Inode≠(i:Int))→inn d l i j k s=s
 | 0,j,s,_,_=>rfl
 | k+1,j,s,h,hno=>by
  have e:((l.getD j dGDE).Inode==(i:Int))=false:=by simpa using hno j (Nat.le_refl _) (by omega)
  simp only [inn,e,cond_false]
  exact inn_none d l i k (j+1) s (by omega) (fun q h1 h2=>hno q (by omega) h2)
theorem inn_some (d:GDisk) (l:Dir) (hs:Srt l) (hind:∀a∈l,∀b∈l,a.Inode=b.Inode→a=b) (i q:Nat) (hq:q<l.length) (hqi:(l.getD q dGDE).Inode=(i:Int)):∀(k j:Nat) (s:List GI×Dir),j+k=l.length→j≤q →
  inn d l i j k s=(s.1++[d.Inodes.getD i dGI],s.2.set q ⟨(s.2.getD q dGDE).Name,(s.1.length:Int)⟩)
 | 0,j,s,h,hj=>by omega
 | k+1,j,s,h,hj=>by
  have hu:∀p,p<l.length→(l.getD p dGDE).Inode=(i:Int)→p=q:=fun p hp hpi=>srt_inj hs hp hq (hind _ (getD_mem hp) _ (getD_mem hq) (hpi.trans hqi.symm))
  by_cases e:j=q
  ·subst e
   have e1:((l.getD j dGDE).Inode==(i:Int))=true:=by simpa using hqi
   simp only [inn,e1,cond_true]
   exact inn_none d l i k (j+1) _ (by omega) (fun p h1 h2 h3=>by have:=hu p h2 h3;omega)
  ·have e1:((l.getD j dGDE).Inode==(i:Int))=false:=by
    simp only [beq_eq_false_iff_ne,ne_eq]
    intro h3;exact e (hu j (by omega) h3)
   simp only [inn,e1,cond_false]
   exact inn_some d l hs hind i q hq hqi k (j+1) s (by omega) (by omega)
theorem rsync_l6 (n B:Nat) (d:GDisk) (hb:Bd B d) (hn:4*B+1200≤n) (k_l5:List GI→Int→List GDE→Option (GDisk×Int)) (l:Dir) (hl:l=(cur d).1) (hll:l.length≤1000) (hI:d.Inodes.length≤1000) (i:Nat) (hi:i<d.Inodes.length):∀(k j m:Nat) (s:List GI×Dir),j+k=l.length→s.2.length=l.length→s.1.length+k≤10000000→k<m →
  r22_SyncDir_l6 n k_l5 d l m s.1 (i:Int) (j:Int) s.2=k_l5 (inn d l i j k s).1 ((i+1:Nat):Int) (inn d l i j k s).2
 | k,j,0,s,_,_,_,h=>by omega
 | 0,j,m+1,s,h,_,_,_=>by
  have:¬((j:Int)<(l.length:Int)):=by omega
  simp only [r22_SyncDir_l6,r22_SyncDir_s8,this,decide_false,cond_false,inn,wr1 i (by omega)]
 | k+1,j,m+1,s,h,h1,h2,h3=>by
  have hlt:(j:Int)<(l.length:Int):=by omega
  have hlt2:(j:Int)<((cur d).1.length:Int):=by rw [← hl];omega
  have h0:(0:Int)≤(j:Int):=by omega
  have hbs:j<s.2.length:=by omega
  have hc:=refCur_eq n B d hb (by omega)
  simp only [r22_SyncDir_l6,r22_SyncDir_s7,hlt,hlt2,h0,decide_true,Bool.and_true,cond_true,toNat_c,hc,Option.bind_some,blt_of hbs,show (0:Int)≤(i:Int) by omega,show (i:Int)<(d.Inodes.length:Int) by omega,app_ok (n:=s.1.length) (b:=24) (by omega) (by omega),wr1 j (by omega),inn,← hl]
  cases he:(l.getD j dGDE).Inode==(i:Int) with
  | false=>
   simp only [cond_false]
   exact rsync_l6 n B d hb hn k_l5 l hl hll hI i hi k (j+1) m s (by omega) h1 (by omega) (by omega)
  | true=>
   simp only [cond_true]
   exact rsync_l6 n B d hb hn k_l5 l hl hll hI i hi k (j+1) m (s.1++[d.Inodes.getD i dGI],s.2.set j ⟨(s.2.getD j dGDE).Name,(s.1.length:Int)⟩) (by omega) (by simpa using h1) (by simp;omega) (by omega)
def dst (l:Dir) (i:Nat):Dir:=l.map fun e=>if e.Inode<(i:Int) then rnkE l e else e
theorem dst_get {l:Dir} {i q:Nat} (hq:q<l.length):(dst l i).getD q dGDE=(if (l.getD q dGDE).Inode<(i:Int) then rnkE l (l.getD q dGDE) else l.getD q dGDE):=by
 simp [dst,List.getD,List.getElem?_eq_getElem hq]
theorem inn_dst (d:GDisk) (l:Dir) (hs:Srt l) (hind:∀a∈l,∀b∈l,a.Inode=b.Inode→a=b) (i:Nat) (acc:List GI) (ha:acc.length=rnk l i) :
  inn d l i 0 l.length (acc,dst l i)=(acc++acI d l i 1,dst l (i+1))∧(acc++acI d l i 1).length=rnk l (i+1):=by
 cases hu:usedE l (i:Int) with
 | false=>
  have hno:∀q,0≤q→q<l.length→(l.getD q dGDE).Inode≠(i:Int):=fun q _ hq hh=>by
   rw [usedE_iff.2 ⟨_,getD_mem hq,hh⟩] at hu;cases hu
  rw [inn_none d l i l.length 0 _ (by omega) hno]
  simp only [acI,hu,cond_false,List.append_nil,rnk]
  refine ⟨?_,ha⟩
  congr 1
  refine List.map_congr_left fun e he=>?_
  have hne:e.Inode≠(i:Int):=fun hh=>by rw [usedE_iff.2 ⟨e,he,hh⟩] at hu;cases hu
  by_cases c:e.Inode<(i:Int)
  ·rw [if_pos c,if_pos (by omega)]
  ·rw [if_neg c,if_neg (by omega)]
 | true=>
  obtain ⟨e,he,hei⟩:=usedE_iff.1 hu
  obtain ⟨q,hq,hqe⟩:=List.getElem_of_mem he
  have hqg:l.getD q dGDE=e:=by simp [List.getD,List.getElem?_eq_getElem hq,hqe]
  rw [inn_some d l hs hind i q hq (by rw [hqg];exact hei) l.length 0 _ (by omega) (by omega)]
  simp only [acI,hu,cond_true,rnk,List.length_append,List.length_singleton]
  refine ⟨?_,by omega⟩
  congr 1
  apply List.ext_getElem?
  intro p
  rw [List.getElem?_set]
  by_cases hp:q=p
  ·subst hp
   rw [if_pos rfl,if_pos (by simpa [dst] using hq)]
   simp only [dst,List.getElem?_map,List.getElem?_eq_getElem hq,Option.map_some,hqe]
   have hd:(dst l i).getD q dGDE=e:=by rw [dst_get hq,hqg,if_neg (by omega)]
   rw [show (List.map (fun e=>if e.Inode<(i:Int) then rnkE l e else e) l)=dst l i from rfl,hd]
   rw [if_pos (by omega)]
   simp only [rnkE,hei,ha]
   rfl
  ·rw [if_neg hp]
   simp only [dst,List.getElem?_map]
   cases hlp:l[p]? with
   | none=>rfl
   | some e'=>
    have hpl:=(List.getElem?_eq_some_iff.1 hlp).1
    have hpg:l.getD p dGDE=e':=by simp [List.getD,hlp]
    have hne:e'.Inode≠(i:Int):=fun hh=>hp (srt_inj hs hq hpl (by rw [hqg,hpg];exact hind e he e' (List.mem_of_getElem? hlp) (by omega)))
    simp only [Option.map_some]
    by_cases c:e'.Inode<(i:Int)
    ·rw [if_pos c,if_pos (by omega)]
    ·rw [if_neg c,if_neg (by omega)]
theorem acI_add (d:GDisk) (l:Dir):∀(k i:Nat),acI d l i (k+1)=acI d l i 1++acI d l (i+1) k:=fun k i=>by
 simp only [acI];cases usedE l (i:Int)<;>simp
theorem powered_v2 (n:Nat) (d:GDisk) (a:List GI) (D:Dir) (k:Nat) (hk:k=D.length) (hn:1≤n) (hw:Lw d):r22_SyncDir_s9 n d D a D=some (prf d ⟨a,D,[],d.Left⟩):=by
 obtain ⟨m,rfl⟩:∃m,n=m+1:=⟨n-1,by omega⟩
 have w1:=hw.lo;have w2:=hw.hi
 have hble:Nat.ble D.length D.length=true:=Nat.ble_eq_true_of_le (Nat.le_refl _)
 simp only [r22_SyncDir_s9,r22_powered_v2,r22_powered_v2_s0,prf]
 by_cases c:d.Left=0
 ·simp [c]
 ·have e:(d.Left==0)=false:=by simpa using c
  rw [e];simp only [cond_false]
  rw [if_neg c]
  by_cases c2:d.Left>0
  ·simp only [c2,decide_true,cond_true,if_true,wr (d.Left-1) (by omega) (by omega),Option.bind_some,hble,List.take_length]
  ·simp only [c2,decide_false,cond_false,if_false,Option.bind_some,hble,List.take_length,cond_true]
theorem s9_len (n:Nat) (d:GDisk) (l D:Dir) (a:List GI) (h:l.length=D.length):r22_SyncDir_s9 n d l a D=r22_SyncDir_s9 n d D a D:=by
 simp only [r22_SyncDir_s9,h]
theorem rsync_l5 (n B:Nat) (d:GDisk) (hb:Bd B d) (hw:Lw d) (hn:4*B+1200≤n) (l:Dir) (hl:l=(cur d).1) (hs:Srt l) (hind:∀a∈l,∀b∈l,a.Inode=b.Inode→a=b) (hrng:∀e∈l,0≤e.Inode∧e.Inode<d.Inodes.length) (hll:l.length≤1000) (hI:d.Inodes.length≤1000):∀(k i m:Nat) (acc:List GI),i+k=d.Inodes.length→acc.length=rnk l i→k<m →
  r22_SyncDir_l5 n d l m acc (i:Int) (dst l i)=some (prf d ⟨acc++acI d l i k,l.map (rnkE l),[],d.Left⟩)
 | k,i,0,acc,_,_,h=>by omega
 | 0,i,m+1,acc,h,ha,_=>by
  have:¬((i:Int)<(d.Inodes.length:Int)):=by omega
  have hd:dst l i=l.map (rnkE l):=List.map_congr_left fun e he=>by rw [if_pos (by have:=(hrng e he).2;omega)]
  simp only [r22_SyncDir_l5,this,decide_false,cond_false,acI,List.append_nil]
  rw [s9_len n d l (dst l i) acc (by simp [dst]),powered_v2 n d acc (dst l i) _ rfl (by omega) hw,hd]
 | k+1,i,m+1,acc,h,ha,h2=>by
  have hlt:(i:Int)<(d.Inodes.length:Int):=by omega
  have hr:=rnk_le l i
  obtain ⟨e1,e2⟩:=inn_dst d l hs hind i acc ha
  have h6:=rsync_l6 n B d hb hn (fun a0 a1 a2=>r22_SyncDir_l5 n d l m a0 a1 a2) l hl hll hI i (by omega) l.length 0 n (acc,dst l i) (by omega) (by simp [dst]) (by simp only;omega) (by omega)
  rw [e1] at h6
  have h6':r22_SyncDir_l6 n (fun a0 a1 a2=>r22_SyncDir_l5 n d l m a0 a1 a2) d l n acc (i:Int) 0 (dst l i)=_:=h6
  simp only [r22_SyncDir_l5,hlt,decide_true,cond_true,h6']
  rw [rsync_l5 n B d hb hw hn l hl hs hind hrng hll hI k (i+1) m (acc++acI d l i 1) (by omega) e2 (by omega),acI_add d l k i,List.append_assoc]
theorem rsync_l1 (n:Nat) (d:GDisk) (k_l0:Int→Option (GDisk×Int)) (i:Nat) (hi:i<1000000) (m:Nat):r22_SyncDir_l1 n k_l0 d [] (m+1) (i:Int) 0=k_l0 ((i+1:Nat):Int):=by
 simp only [r22_SyncDir_l1,r22_SyncDir_s3,List.length_nil,show ¬((0:Int)<((0:Nat):Int)) by omega,decide_false,cond_false,wr1 i (by omega)]
theorem rsync_l0 (n:Nat) (d:GDisk) (hw:Lw d) (hn:2≤n) (hI:d.Inodes.length≤1000):∀(k i m:Nat),i+k=d.Inodes.length→k<m→r22_SyncDir_l0 n d [] m (i:Int)=some (prf d ⟨[],[],[],0⟩)
 | k,i,0,_,h=>by omega
 | 0,i,m+1,h,_=>by
  have:¬((i:Int)<(d.Inodes.length:Int)):=by omega
  simp only [r22_SyncDir_l0,r22_SyncDir_s4,this,decide_false,cond_false,powered_eq n d _ (by omega) hw,Option.bind_some]
 | k+1,i,m+1,h,h2=>by
  obtain ⟨q,rfl⟩:∃q,n=q+1:=⟨n-1,by omega⟩
  simp only [r22_SyncDir_l0,show (i:Int)<(d.Inodes.length:Int) by omega,decide_true,cond_true,rsync_l1 (q+1) d _ i (by omega) q]
  exact rsync_l0 (q+1) d hw hn hI k (i+1) m (by omega) (by omega)
theorem syncdir_r (n B:Nat) (d:GDisk) (hb:Bd B d) (hw:Lw d) (hn:4*B+1300≤n):r22_SyncDir n d=some (sdF d):=by
 obtain ⟨m,rfl⟩:∃m,n=m+1:=⟨n-1,by omega⟩
 have hB:=hb.big;have hdl:=hb.dl
 simp only [r22_SyncDir,refCheck_eq m B d hb (by omega),Option.bind_some,sdF]
 cases hv:valid d with
 | false=>rfl
 | true=>
  obtain ⟨i1,i2,i3,i4,i5,i6⟩:=valid_il hv
  obtain ⟨f,t,hR⟩:=cur_rd hv (by omega)
  have hll:=hR.bound
  simp only [cond_true,show ((0:Int) != 0)=false by rfl,cond_false,refCur_eq m B d hb (by omega),Option.bind_some,app_ok0 (n:=(cur d).1.length) (b:=24) (by omega) (by omega),Bool.true_eq_false,if_false]
  by_cases hp:0<(cur d).1.length
  ·simp only [hp,decide_true,cond_true]
   have hd:dst (cur d).1 0=(cur d).1:=by
    have:(cur d).1=(cur d).1.map id:=by simp
    unfold dst
    conv=>rhs;rw [this]
    exact List.map_congr_left fun e he=>by rw [if_neg (by have:=(hR.rng e he).1;omega)];rfl
   have:=rsync_l5 m B d hb hw (by omega) (cur d).1 rfl hR.srt hR.ind hR.rng (by omega) i1 d.Inodes.length 0 m [] (by omega) rfl (by omega)
   rw [hd] at this
   exact this
  ·have hnil:(cur d).1=[]:=List.eq_nil_of_length_eq_zero (by omega)
   have hac:∀k i,acI d [] i k=[]:=fun k=>by
    induction k with
    | zero=>intro i;rfl
    | succ k ih=>intro i;simp only [acI,usedE,List.any_nil,cond_false];exact ih (i+1)
   simp only [hp,decide_false,cond_false,hnil,hac,List.map_nil]
   have:=rsync_l0 m d hw (by omega) i1 d.Inodes.length 0 m (by omega) (by omega)
   exact this
theorem lw_of {d:GDisk} (hw:wfGDisk d):Lw d:=by
 have h:=hw.2.2.2.1
 simp only [wfInt,Lit.wf,Bool.and_eq_true,decide_eq_true_eq] at h
 exact ⟨h.1,h.2⟩
end Go.Proofs.YtomalcfghdaghaaGreatDoor
/- Plain laws,11: what is valid stays valid;DiskValid,DiskReplaces. -/
set_option linter.unusedVariables false
set_option linter.unusedSimpArgs false
namespace Go.Proofs.YtomalcfghdaghaaGreatDoor
open Go Go.AM
end Go.Proofs.YtomalcfghdaghaaGreatDoor
/- Plain laws,12: losing power twice;what is read after a loss;DiskValid,DiskReplaces. -/
set_option linter.unusedVariables false
set_option linter.unusedSimpArgs false
namespace Go.Proofs.YtomalcfghdaghaaGreatDoor
open Go Go.AM
end Go.Proofs.YtomalcfghdaghaaGreatDoor
/- Plain laws,13: what a disk's files hold;maps held against each other;DiskLoss,DiskDurable. -/
set_option linter.unusedVariables false
set_option linter.unusedSimpArgs false
namespace Go.Proofs.YtomalcfghdaghaaGreatDoor
open Go Go.AM
def con (d:GDisk) (name:ByteArray):Option ByteArray:=bif valid d then (lkE name (cur d).1).map (fun i=>(d.Inodes.getD i.toNat dGI).Data) else none
end Go.Proofs.YtomalcfghdaghaaGreatDoor
/- Plain laws,14: what the operations do to the files;DiskDurable,DiskFiles. -/
set_option linter.unusedVariables false
set_option linter.unusedSimpArgs false
namespace Go.Proofs.YtomalcfghdaghaaGreatDoor
open Go Go.AM
structure Dur (d D:GDisk) (names:List ByteArray):Prop where
 v:valid D=true
 du:D.Durable=d.Durable
 pe:D.Pending=d.Pending
 le:D.Left=-1
 il:D.Inodes.length=d.Inodes.length
 da:∀q,con D q=con d q
 sy:∀x∈names,∀i,lkE x (cur d).1=some i→(D.Inodes.getD i.toNat dGI).Synced=((D.Inodes.getD i.toNat dGI).Data.size:Int)
theorem Dur.cur {d D:GDisk} {l:List ByteArray} (h:Dur d D l):cur D=cur d:=by unfold Go.Proofs.YtomalcfghdaghaaGreatDoor.cur;rw [h.du,h.pe,h.il]
theorem Dur.bd {d D:GDisk} {l:List ByteArray} {B:Nat} (h:Dur d D l) (hb:Bd B d):Bd B D:=⟨fun e he=>hb.dn e (by rw [← h.du];exact he),fun e he=>hb.pn e (by rw [← h.pe];exact he),by rw [h.du];exact hb.dl,by rw [h.pe];exact hb.pl,by rw [h.il];exact hb.il,hb.big⟩
end Go.Proofs.YtomalcfghdaghaaGreatDoor
/- Plain laws,15: DiskFiles. -/
set_option linter.unusedVariables false
set_option linter.unusedSimpArgs false
namespace Go.Proofs.YtomalcfghdaghaaGreatDoor
open Go Go.AM
end Go.Proofs.YtomalcfghdaghaaGreatDoor
