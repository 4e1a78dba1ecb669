/- Plain laws: manifest.Garbage of the program. -/
import Derived.Test.YtomalcfghdaghaaGreatDoorMn8
set_option linter.unusedVariables false
set_option linter.unusedSimpArgs false
namespace Go.Proofs.YtomalcfghdaghaaGreatDoor
open Go Go.AM
def nmd (m:GMf) (s:ByteArray):Bool:=decide (s=mfB)||(decide (s=m.Log)||m.Blocks.any fun b=>decide (b.File=s))
theorem g11 (n:Nat) (b:GBR) (s:ByteArray) (hn:1≤n):mf_Garbage_c1_c1 n b s=some (decide (b.File=s)):=by
 obtain ⟨k,rfl⟩:∃k,n=k+1:=⟨n-1,by omega⟩
 simp only [mf_Garbage_c1_c1,sEq_eq]
theorem ib_l0 (n:Nat) (bs:List GBR) (s:ByteArray) (hn:1≤n) (hl:bs.length≤1000000000):∀(k i f:Nat),i+k=bs.length→k<f→∃r,sl_IndexFunc_55_l0 n bs s f (bs.length:Int) (i:Int)=some r∧decide (r≥0)=(bs.drop i).any fun b=>decide (b.File=s)
 | k,i,0,_,h=>by omega
 | 0,i,f+1,h,_=>by
  refine ⟨-1,?_,?_⟩
  ·unfold sl_IndexFunc_55_l0
   rw [bzn (by omega)]
  ·rw [List.drop_eq_nil_of_le (by omega)];rfl
 | k+1,i,f+1,h,h2=>by
  obtain ⟨r,e1,e2⟩:=ib_l0 n bs s hn hl k (i+1) f (by omega) (by omega)
  rw [getD_drop (d:=dGBR) (show i<bs.length by omega)]
  obtain ⟨b,hb⟩:∃b,bs.getD i dGBR=b:=⟨_,rfl⟩
  have e:sl_IndexFunc_55_l0 n bs s (f+1) (bs.length:Int) (i:Int)=if b.File=s then some (i:Int) else sl_IndexFunc_55_l0 n bs s f (bs.length:Int) ((i+1:Nat):Int):=by
   conv=>lhs;unfold sl_IndexFunc_55_l0
   rw [bz (show (i:Int)<(bs.length:Int) by omega),btt (by rw [decide_eq_true (by omega),decide_eq_true (by omega)];rfl),toNat_c,hb,g11 n b s hn,Option.bind_some,wr1 i (by omega)]
   by_cases hs:b.File=s
   ·rw [bz hs,if_pos hs]
   ·rw [bzn hs,if_neg hs]
  by_cases hs:b.File=s
  ·refine ⟨(i:Int),by rw [e,if_pos hs],?_⟩
   rw [hb,List.any_cons,decide_eq_true hs,decide_eq_true (by omega)];rfl
  ·refine ⟨r,by rw [e,if_neg hs,e1],?_⟩
   rw [e2,hb,List.any_cons,decide_eq_false hs];rfl
theorem cb_eq (n:Nat) (bs:List GBR) (s:ByteArray) (hn:bs.length+4≤n) (hl:bs.length≤1000000000):sl_ContainsFunc n bs s=some (bs.any fun b=>decide (b.File=s)):=by
 obtain ⟨k,rfl⟩:∃k,n=k+2:=⟨n-2,by omega⟩
 obtain ⟨r,e1,e2⟩:=ib_l0 k bs s (by omega) hl bs.length 0 k (by omega) (by omega)
 have e:sl_IndexFunc_55 (k+1) bs s=some r:=e1
 show (sl_IndexFunc_55 (k+1) bs s).bind _=_
 rw [e,Option.bind_some,e2];rfl
theorem gc1 (n:Nat) (m:GMf) (s:ByteArray) (hn:m.Blocks.length+5≤n) (hl:m.Blocks.length≤1000000000):mf_Garbage_c1 n s m=some (nmd m s):=by
 obtain ⟨k,rfl⟩:∃k,n=k+1:=⟨n-1,by omega⟩
 unfold mf_Garbage_c1 nmd
 simp only
 rw [sEq_eq,sEq_eq]
 by_cases h1:s=mfB
 ·rw [bz (show s=(⟨#[77,65,78,73,70,69,83,84]⟩:ByteArray) from h1),decide_eq_true h1];rfl
 ·rw [bzn (show ¬s=(⟨#[77,65,78,73,70,69,83,84]⟩:ByteArray) from h1),decide_eq_false h1]
  by_cases h2:s=m.Log
  ·rw [bz h2,decide_eq_true h2];rfl
  ·rw [bzn h2,decide_eq_false h2,cb_eq k m.Blocks s (by omega) hl];rfl
theorem im_l0 (n:Nat) (m:GMf) (l:List ByteArray) (hn:m.Blocks.length+5≤n) (hm:m.Blocks.length≤1000000000) (hl:l.length≤1000000000):∀(k i f:Nat),i+k=l.length→k<f →
  ∃r:Int,sl_IndexFunc_v1_l0 n l.length m l f (l.length:Int) (i:Int)=some (r,l)∧((r=-1∧∀x∈l.drop i,nmd m x=false)∨∃q:Nat,r=(q:Int)∧i≤q∧q<l.length∧nmd m (l.getD q bE)=true∧∀x∈(l.take q).drop i,nmd m x=false)
 | k,i,0,_,h=>by omega
 | 0,i,f+1,h,_=>by
  refine ⟨-1,?_,.inl ⟨rfl,?_⟩⟩
  ·unfold sl_IndexFunc_v1_l0
   rw [bzn (by omega)]
  ·rw [List.drop_eq_nil_of_le (by omega)];intro x hx;simp at hx
 | k+1,i,f+1,h,h2=>by
  obtain ⟨r,e1,e2⟩:=im_l0 n m l hn hm hl k (i+1) f (by omega) (by omega)
  obtain ⟨b,hb⟩:∃b,l.getD i bE=b:=⟨_,rfl⟩
  have e:sl_IndexFunc_v1_l0 n l.length m l (f+1) (l.length:Int) (i:Int)=bif nmd m b then some ((i:Int),l) else sl_IndexFunc_v1_l0 n l.length m l f (l.length:Int) ((i+1:Nat):Int):=by
   conv=>lhs;unfold sl_IndexFunc_v1_l0
   rw [bz (show (i:Int)<(l.length:Int) by omega),btt (by rw [decide_eq_true (by omega),decide_eq_true (by omega)];rfl),toNat_c,btt (by rw [Nat.blt_eq];omega),hb,gc1 n m b hn hm,Option.bind_some,wr1 i (by omega)]
  cases hs:nmd m b with
  | true=>
   refine ⟨(i:Int),by rw [e,hs,cond_true],.inr ⟨i,rfl,Nat.le_refl _,by omega,by rw [hb];exact hs,?_⟩⟩
   rw [List.drop_eq_nil_of_le (by rw [List.length_take];omega)];intro x hx;simp at hx
  | false=>
   refine ⟨r,by rw [e,hs,cond_false,e1],?_⟩
   have hd:∀q,i<q→q≤l.length→(l.take q).drop i=b::(l.take q).drop (i+1):=fun q h3 h4=>by
    rw [getD_drop (d:=bE) (show i<(l.take q).length by rw [List.length_take];omega)]
    congr 1
    rw [← hb];simp only [List.getD];rw [List.getElem?_take_of_lt h3]
   rcases e2 with ⟨h3,h4⟩ | ⟨q,h3,h4,h5,h6,h7⟩
   ·refine .inl ⟨h3,?_⟩
    rw [getD_drop (d:=bE) (show i<l.length by omega),hb]
    intro x hx
    rcases List.mem_cons.1 hx with rfl | hx
    ·exact hs
    ·exact h4 x hx
   ·refine .inr ⟨q,h3,by omega,h5,h6,?_⟩
    rw [hd q (by omega) (by omega)]
    intro x hx
    rcases List.mem_cons.1 hx with rfl | hx
    ·exact hs
    ·exact h7 x hx
def kpt (m:GMf) (l:List ByteArray):List ByteArray:=l.filter fun s=>!nmd m s
theorem kpt_snoc (m:GMf) (l:List ByteArray) (i:Nat) (h:i<l.length):kpt m (l.take (i+1))=kpt m (l.take i)++(bif nmd m (l.getD i bE) then [] else [l.getD i bE]):=by
 have e:l.take (i+1)=l.take i++[l.getD i bE]:=by
  rw [List.take_add_one];congr 1
  simp [List.getD,h]
 unfold kpt
 rw [e,List.filter_append]
 congr 1
 cases hn:nmd m (l.getD i bE) with
 | true=>simp only [List.filter_cons,hn];rfl
 | false=>simp only [List.filter_cons,hn];rfl
theorem kpt_all {m:GMf} {l:List ByteArray} (h:∀x∈l,nmd m x=false):kpt m l=l:=List.filter_eq_self.2 fun x hx=>by rw [h x hx];rfl
theorem kpt_le (m:GMf) (l:List ByteArray):(kpt m l).length≤l.length:=List.length_filter_le _ _
def dlOut (m:GMf) (l:List ByteArray) (r:sl_DeleteFunc_v1_R):Prop:=match r with
 | .c0 k l2=>k≤l2.length∧l2.take k=kpt m l
 | .c1 a l2=>a=[]∧kpt m l=[]
theorem del_l0 (n:Nat) (m:GMf) (l:List ByteArray) (hn:m.Blocks.length+5≤n) (hm:m.Blocks.length≤1000000000) (hl:l.length≤1000000000):∀(k i f:Nat) (q:Nat) (l2:List ByteArray),i+k=l.length→k<f →
  l2.length=l.length→q=(kpt m (l.take i)).length→q≤i→l2.take q=kpt m (l.take i)→l2.drop i=l.drop i→∃r,sl_DeleteFunc_v1_l0 n l.length m f (q:Int) (i:Int) l2=some r∧dlOut m l r
 | k,i,0,_,_,_,h,_,_,_,_,_=>by omega
 | 0,i,f+1,q,l2,h,_,h3,h4,h5,h6,h7=>by
  have hi:l.take i=l:=List.take_of_length_le (by omega)
  rw [hi] at h6 h4
  have hg:(decide ((0:Int)≤0)&&decide ((0:Int)≤(q:Int))&&decide ((q:Int)≤(l.length:Int)))=true:=by rw [decide_eq_true (by omega),decide_eq_true (by omega),decide_eq_true (by omega)];rfl
  have hg2:(decide ((0:Int)≤(q:Int))&&decide ((q:Int)≤(l.length:Int))&&decide ((l.length:Int)≤(l.length:Int)))=true:=by rw [decide_eq_true (by omega),decide_eq_true (by omega),decide_eq_true (by omega)];rfl
  have e:sl_DeleteFunc_v1_l0 n l.length m (f+1) (q:Int) (i:Int) l2=sl_DeleteFunc_v1_s2 n l.length (q:Int) l2:=by
   conv=>lhs;unfold sl_DeleteFunc_v1_l0
   rw [bzn (by omega)]
  rw [e]
  unfold sl_DeleteFunc_v1_s2
  rw [btt hg2,toNat_c]
  by_cases hq:q<l.length
  ·rw [bz hq,btt (by rw [Nat.ble_eq];omega),btt hg]
   have hc:(clrL q (l.length-q) bE l2).take q=kpt m l:=by
    rw [← h6]
    unfold clrL
    rw [List.append_assoc,List.take_append_of_le_length (by rw [List.length_take];omega),List.take_take,Nat.min_self]
   have hcl:q≤(clrL q (l.length-q) bE l2).length:=by
    unfold clrL
    rw [List.length_append,List.length_append,List.length_take];omega
   by_cases h0:0<q
   ·rw [bz h0];exact ⟨_,rfl,hcl,hc⟩
   ·rw [bzn h0];exact ⟨_,rfl,rfl,List.eq_nil_of_length_eq_zero (by omega)⟩
  ·rw [bzn hq,btt hg]
   by_cases h0:0<q
   ·rw [bz h0];exact ⟨_,rfl,by omega,h6⟩
   ·rw [bzn h0];exact ⟨_,rfl,rfl,List.eq_nil_of_length_eq_zero (by omega)⟩
 | k+1,i,f+1,q,l2,h,h2,h3,h4,h5,h6,h7=>by
  have hi:i<l.length:=by omega
  have hgi:l2.getD i bE=l.getD i bE:=by
   have e1:=getD_drop (d:=bE) hi
   have e2:=getD_drop (d:=bE) (l:=l2) (i:=i) (by omega)
   rw [h7,e1] at e2
   exact (List.cons.inj e2).1.symm
  have hd1:l2.drop (i+1)=l.drop (i+1):=by
   have e1:=getD_drop (d:=bE) hi
   have e2:=getD_drop (d:=bE) (l:=l2) (i:=i) (by omega)
   rw [h7,e1] at e2
   exact (List.cons.inj e2).2.symm
  have hk:=kpt_snoc m l i hi
  have e:sl_DeleteFunc_v1_l0 n l.length m (f+1) (q:Int) (i:Int) l2=bif nmd m (l.getD i bE) then sl_DeleteFunc_v1_l0 n l.length m f (q:Int) ((i+1:Nat):Int) l2 else sl_DeleteFunc_v1_l0 n l.length m f ((q+1:Nat):Int) ((i+1:Nat):Int) (l2.set q (l.getD i bE)):=by
   conv=>lhs;unfold sl_DeleteFunc_v1_l0
   rw [bz (show (i:Int)<(l.length:Int) by omega),btt (by rw [decide_eq_true (by omega),decide_eq_true (by omega)];rfl),toNat_c,btt (by rw [Nat.blt_eq];omega),hgi,gc1 n m _ hn hm,Option.bind_some]
   cases hs:nmd m (l.getD i bE) with
   | true=>
    simp only [Bool.not_true,cond_false,cond_true]
    unfold sl_DeleteFunc_v1_s1
    rw [wr1 i (by omega)]
   | false=>
    simp only [Bool.not_false,cond_false,cond_true]
    rw [btt (by rw [decide_eq_true (by omega),decide_eq_true (by omega)];rfl),toNat_c,btt (by rw [Nat.blt_eq];omega)]
    unfold sl_DeleteFunc_v1_s1
    rw [wr1 i (by omega),wr1 q (by omega)]
  rw [e]
  cases hs:nmd m (l.getD i bE) with
  | true=>
   rw [hs] at hk
   simp only [cond_true,List.append_nil] at hk
   rw [cond_true]
   exact del_l0 n m l hn hm hl k (i+1) f q l2 (by omega) (by omega) h3 (by rw [hk];exact h4) (by omega) (by rw [hk];exact h6) hd1
  | false=>
   rw [hs] at hk
   simp only [cond_false] at hk
   rw [cond_false]
   refine del_l0 n m l hn hm hl k (i+1) f (q+1) _ (by omega) (by omega) (by rw [List.length_set];exact h3) (by rw [hk,List.length_append,← h4];rfl) (by omega) ?_ ?_
   ·rw [hk,← h6,List.take_add_one,List.take_set_of_le (Nat.le_refl _)]
    congr 1
    rw [List.getElem?_set_self (by omega)];rfl
   ·rw [List.drop_set_of_lt (by omega)];exact hd1
theorem del_eq (n:Nat) (m:GMf) (l:List ByteArray) (hn:m.Blocks.length+l.length+10≤n) (hm:m.Blocks.length≤1000000000) (hl:l.length≤1000000000):∃r,sl_DeleteFunc_v1 n l.length m l=some r∧dlOut m l r:=by
 obtain ⟨k,rfl⟩:∃k,n=k+2:=⟨n-2,by omega⟩
 obtain ⟨r,e1,e2⟩:=im_l0 k m l (by omega) hm hl l.length 0 k (by omega) (by omega)
 have e:sl_IndexFunc_v1 (k+1) l.length m l=some (r,l):=e1
 unfold sl_DeleteFunc_v1
 simp only
 rw [e,Option.bind_some]
 simp only
 rcases e2 with ⟨rfl,h1⟩ | ⟨q,rfl,h1,h2,h3,h4⟩
 ·rw [btt (show ((-1:Int)==-1)=true from rfl)]
  refine ⟨_,rfl,Nat.le_refl _,?_⟩
  rw [List.drop_zero] at h1
  rw [List.take_of_length_le (Nat.le_refl _),kpt_all h1]
 ·rw [bff (show ((q:Int)==-1)=false by rw [beq_eq_false_iff_ne];omega),wr1 q (by omega)]
  rw [List.drop_zero] at h4
  have hk:=kpt_snoc m l q h2
  rw [h3,kpt_all h4] at hk
  simp only [cond_true,List.append_nil] at hk
  have hlen:(l.take q).length=q:=by rw [List.length_take];omega
  exact del_l0 (k+1) m l (by omega) hm hl (l.length-(q+1)) (q+1) (k+1) q l (by omega) (by omega) rfl (by rw [hk,hlen]) (by omega) hk.symm rfl
theorem del_nil (n:Nat) (m:GMf) (hn:5≤n):sl_DeleteFunc n [] m=some []:=by
 obtain ⟨k,rfl⟩:∃k,n=k+3:=⟨n-3,by omega⟩
 rfl
def lsOut (l:List ByteArray) (r:dk_List_m_R):Prop:=match r with
 | .c0 a=>a=[]∧l=[]
 | .c1 a _ _=>a=[]∧l=[]
 | .c2 a _ _=>a=[]∧l=[]
 | .c3 k _ _ a=>k=a.length∧a=l
theorem list_m (n B:Nat) (d:GDisk) (hb:Bd B d) (hn:B+1120≤n):∃r,dk_List_m n d=some r∧lsOut (lsF d) r:=by
 obtain ⟨m,rfl⟩:∃m,n=m+1:=⟨n-1,by omega⟩
 obtain ⟨m,rfl⟩:∃q,m=q+1:=⟨m-1,by omega⟩
 have hB:=hb.big;have hdl:=hb.dl
 obtain ⟨r,h1,h2⟩:=current_eq (m+1) d (by omega) (by omega)
 simp only [dk_List_m,h1,Option.bind_some,lsF]
 unfold curOut at h2
 cases hv:valid d with
 | true=>
  rw [if_pos hv] at h2
  obtain ⟨f,t,rfl,hR⟩:=h2
  simp only [maps_Keys,Option.bind_some,sortedM,sorted_rd hR (m+1) (by omega) (by have:=hR.bound;have:=(valid_il hv).1;omega),cond_true]
  cases hl:(cur d).1.map (·.Name) with
  | nil=>exact ⟨_,rfl,rfl,rfl⟩
  | cons a l=>exact ⟨_,rfl,rfl,rfl⟩
 | false=>
  rw [if_neg (by simp [hv])] at h2
  cases r with
  | c0 a=>exact ⟨_,rfl,rfl,rfl⟩
  | c1 a b c=>exact ⟨_,rfl,rfl,rfl⟩
  | c2 a f t=>exact absurd rfl (h2 a f t)
theorem ls_len {d:GDisk} (hD:d.Durable.length≤1000000000):(lsF d).length≤1000:=by
 unfold lsF
 cases hv:valid d with
 | true=>rw [cond_true,List.length_map];exact cur_len hv hD
 | false=>simp
theorem garbage_p (n B:Nat) (d:GDisk) (m:GMf) (hb:Bd B d) (hn:B+3000≤n) (hm:m.Blocks.length≤12):mf_Garbage n d m=some (if chk m≠0 then [] else kpt m (lsF d)):=by
 obtain ⟨k,rfl⟩:∃k,n=k+1:=⟨n-1,by omega⟩
 have hB:=hb.big;have hdl:=hb.dl
 have hll:=ls_len (d:=d) (by omega)
 unfold mf_Garbage
 simp only
 rw [mcheck_eq k m (by omega),Option.bind_some]
 by_cases hc:chk m=0
 ·rw [bff (by rw [hc];rfl),if_neg (fun e=>e hc)]
  obtain ⟨r,e1,e2⟩:=list_m k B d hb (by omega)
  rw [e1,Option.bind_some]
  cases r with
  | c0 a=>
   obtain ⟨rfl,h2⟩:=e2
   simp only
   rw [del_nil k m (by omega),h2];rfl
  | c1 a b c=>
   obtain ⟨rfl,h2⟩:=e2
   simp only
   rw [del_nil k m (by omega),h2];rfl
  | c2 a b c=>
   obtain ⟨rfl,h2⟩:=e2
   simp only
   rw [del_nil k m (by omega),h2];rfl
  | c3 q b c a=>
   obtain ⟨rfl,rfl⟩:=e2
   simp only
   obtain ⟨r,d1,d2⟩:=del_eq k m (lsF d) (by omega) (by omega) (by omega)
   rw [d1,Option.bind_some]
   cases r with
   | c0 x y=>
    simp only
    rw [btt (by rw [Nat.ble_eq];exact d2.1),d2.2]
   | c1 x y=>
    simp only
    rw [d2.1,d2.2]
 ·rw [btt (by rw [bne_iff_ne];exact hc),if_pos hc]
end Go.Proofs.YtomalcfghdaghaaGreatDoor
/- Plain laws: ManifestGarbage. -/
set_option linter.unusedVariables false
set_option linter.unusedSimpArgs false
namespace Go.Proofs.YtomalcfghdaghaaGreatDoor
open Go Go.AM Go.Lib
theorem h11 (n:Nat) (b:GBR) (s:ByteArray) (hn:1≤n):lookoutlaw24_ManifestGarbage_c1_c1 n b s=some (decide (b.File=s)):=by
 obtain ⟨k,rfl⟩:∃k,n=k+1:=⟨n-1,by omega⟩
 simp only [lookoutlaw24_ManifestGarbage_c1_c1,sEq_eq]
theorem hb_l0 (n:Nat) (bs:List GBR) (s:ByteArray) (hn:1≤n) (hl:bs.length≤1000000000):∀(k i f:Nat),i+k=bs.length→k<f→∃r,sl_IndexFunc_55_v1_l0 n bs s f (bs.length:Int) (i:Int)=some r∧decide (r≥0)=(bs.drop i).any fun b=>decide (b.File=s)
 | k,i,0,_,h=>by omega
 | 0,i,f+1,h,_=>by
  refine ⟨-1,?_,?_⟩
  ·unfold sl_IndexFunc_55_v1_l0
   rw [bzn (by omega)]
  ·rw [List.drop_eq_nil_of_le (by omega)];rfl
 | k+1,i,f+1,h,h2=>by
  obtain ⟨r,e1,e2⟩:=hb_l0 n bs s hn hl k (i+1) f (by omega) (by omega)
  rw [getD_drop (d:=dGBR) (show i<bs.length by omega)]
  obtain ⟨b,hb⟩:∃b,bs.getD i dGBR=b:=⟨_,rfl⟩
  have e:sl_IndexFunc_55_v1_l0 n bs s (f+1) (bs.length:Int) (i:Int)=if b.File=s then some (i:Int) else sl_IndexFunc_55_v1_l0 n bs s f (bs.length:Int) ((i+1:Nat):Int):=by
   conv=>lhs;unfold sl_IndexFunc_55_v1_l0
   rw [bz (show (i:Int)<(bs.length:Int) by omega),btt (by rw [decide_eq_true (by omega),decide_eq_true (by omega)];rfl),toNat_c,hb,h11 n b s hn,Option.bind_some,wr1 i (by omega)]
   by_cases hs:b.File=s
   ·rw [bz hs,if_pos hs]
   ·rw [bzn hs,if_neg hs]
  by_cases hs:b.File=s
  ·refine ⟨(i:Int),by rw [e,if_pos hs],?_⟩
   rw [hb,List.any_cons,decide_eq_true hs,decide_eq_true (by omega)];rfl
  ·refine ⟨r,by rw [e,if_neg hs,e1],?_⟩
   rw [e2,hb,List.any_cons,decide_eq_false hs];rfl
theorem hcb_eq (n:Nat) (bs:List GBR) (s:ByteArray) (hn:bs.length+4≤n) (hl:bs.length≤1000000000):sl_ContainsFunc_v1 n bs s=some (bs.any fun b=>decide (b.File=s)):=by
 obtain ⟨k,rfl⟩:∃k,n=k+2:=⟨n-2,by omega⟩
 obtain ⟨r,e1,e2⟩:=hb_l0 k bs s (by omega) hl bs.length 0 k (by omega) (by omega)
 have e:sl_IndexFunc_55_v1 (k+1) bs s=some r:=e1
 show (sl_IndexFunc_55_v1 (k+1) bs s).bind _=_
 rw [e,Option.bind_some,e2];rfl
theorem hc1 (n:Nat) (m:GMf) (s:ByteArray) (hn:m.Blocks.length+5≤n) (hl:m.Blocks.length≤1000000000):lookoutlaw24_ManifestGarbage_c1 n s m=some (nmd m s):=by
 obtain ⟨k,rfl⟩:∃k,n=k+1:=⟨n-1,by omega⟩
 unfold lookoutlaw24_ManifestGarbage_c1 nmd
 simp only
 rw [sEq_eq,sEq_eq]
 by_cases h1:s=mfB
 ·rw [bz (show s=(⟨#[77,65,78,73,70,69,83,84]⟩:ByteArray) from h1),decide_eq_true h1];rfl
 ·rw [bzn (show ¬s=(⟨#[77,65,78,73,70,69,83,84]⟩:ByteArray) from h1),decide_eq_false h1]
  by_cases h2:s=m.Log
  ·rw [bz h2,decide_eq_true h2];rfl
  ·rw [bzn h2,decide_eq_false h2,hcb_eq k m.Blocks s (by omega) hl];rfl
theorem hc2 (n:Nat) (m:GMf) (s:ByteArray) (hn:m.Blocks.length+6≤n) (hl:m.Blocks.length≤1000000000):lookoutlaw24_ManifestGarbage_c2 n s m=some (!nmd m s):=by
 obtain ⟨k,rfl⟩:∃k,n=k+1:=⟨n-1,by omega⟩
 unfold lookoutlaw24_ManifestGarbage_c2
 simp only
 rw [hc1 k m s (by omega) hl];rfl
theorem cu_l0 (n:Nat) (m:GMf) (l:List ByteArray) (hn:m.Blocks.length+6≤n) (hm:m.Blocks.length≤1000000000) (hl:l.length≤1000000000):∀(k i f:Nat),i+k=l.length→k<f→∃r,sl_IndexFunc_v2_l0 n l m f (l.length:Int) (i:Int)=some r∧decide (r≥0)=(l.drop i).any fun s=>(!nmd m s)
 | k,i,0,_,h=>by omega
 | 0,i,f+1,h,_=>by
  refine ⟨-1,?_,?_⟩
  ·unfold sl_IndexFunc_v2_l0
   rw [bzn (by omega)]
  ·rw [List.drop_eq_nil_of_le (by omega)];rfl
 | k+1,i,f+1,h,h2=>by
  obtain ⟨r,e1,e2⟩:=cu_l0 n m l hn hm hl k (i+1) f (by omega) (by omega)
  rw [getD_drop (d:=bE) (show i<l.length by omega)]
  obtain ⟨s,hs⟩:∃s,l.getD i bE=s:=⟨_,rfl⟩
  have e:sl_IndexFunc_v2_l0 n l m (f+1) (l.length:Int) (i:Int)=bif (!nmd m s) then some (i:Int) else sl_IndexFunc_v2_l0 n l m f (l.length:Int) ((i+1:Nat):Int):=by
   conv=>lhs;unfold sl_IndexFunc_v2_l0
   rw [bz (show (i:Int)<(l.length:Int) by omega),btt (by rw [decide_eq_true (by omega),decide_eq_true (by omega)];rfl),toNat_c,hs,hc2 n m s (by omega) hm,Option.bind_some,wr1 i (by omega)]
  rw [hs,List.any_cons]
  cases hp:(!nmd m s) with
  | true=>
   rw [hp] at e
   exact ⟨(i:Int),e,by rw [decide_eq_true (by omega)];rfl⟩
  | false=>
   rw [hp] at e
   exact ⟨r,by rw [e,cond_false,e1],by rw [e2];rfl⟩
theorem cu_eq (n:Nat) (m:GMf) (l:List ByteArray) (hn:m.Blocks.length+l.length+10≤n) (hm:m.Blocks.length≤1000000000) (hl:l.length≤1000000000):sl_ContainsFunc_24 n l m=some (l.any fun s=>(!nmd m s)):=by
 obtain ⟨k,rfl⟩:∃k,n=k+2:=⟨n-2,by omega⟩
 obtain ⟨r,e1,e2⟩:=cu_l0 k m l (by omega) hm hl l.length 0 k (by omega) (by omega)
 have e:sl_IndexFunc_v2 (k+1) l m=some r:=e1
 show (sl_IndexFunc_v2 (k+1) l m).bind _=_
 rw [e,Option.bind_some,e2];rfl
theorem cn_l0 (n:Nat) (m:GMf) (l:List ByteArray) (hn:m.Blocks.length+6≤n) (hm:m.Blocks.length≤1000000000) (hl:l.length≤1000000000):∀(k i f:Nat),i+k=l.length→k<f→∃r,sl_IndexFunc_v3_l0 n l m f (l.length:Int) (i:Int)=some r∧decide (r≥0)=(l.drop i).any fun s=>nmd m s
 | k,i,0,_,h=>by omega
 | 0,i,f+1,h,_=>by
  refine ⟨-1,?_,?_⟩
  ·unfold sl_IndexFunc_v3_l0
   rw [bzn (by omega)]
  ·rw [List.drop_eq_nil_of_le (by omega)];rfl
 | k+1,i,f+1,h,h2=>by
  obtain ⟨r,e1,e2⟩:=cn_l0 n m l hn hm hl k (i+1) f (by omega) (by omega)
  rw [getD_drop (d:=bE) (show i<l.length by omega)]
  obtain ⟨s,hs⟩:∃s,l.getD i bE=s:=⟨_,rfl⟩
  have e:sl_IndexFunc_v3_l0 n l m (f+1) (l.length:Int) (i:Int)=bif nmd m s then some (i:Int) else sl_IndexFunc_v3_l0 n l m f (l.length:Int) ((i+1:Nat):Int):=by
   conv=>lhs;unfold sl_IndexFunc_v3_l0
   rw [bz (show (i:Int)<(l.length:Int) by omega),btt (by rw [decide_eq_true (by omega),decide_eq_true (by omega)];rfl),toNat_c,hs,hc1 n m s (by omega) hm,Option.bind_some,wr1 i (by omega)]
  rw [hs,List.any_cons]
  cases hp:nmd m s with
  | true=>
   rw [hp] at e
   exact ⟨(i:Int),e,by rw [decide_eq_true (by omega)];rfl⟩
  | false=>
   rw [hp] at e
   exact ⟨r,by rw [e,cond_false,e1],by rw [e2];rfl⟩
theorem cn_eq (n:Nat) (m:GMf) (l:List ByteArray) (hn:m.Blocks.length+l.length+10≤n) (hm:m.Blocks.length≤1000000000) (hl:l.length≤1000000000):sl_ContainsFunc_24_v1 n l m=some (l.any fun s=>nmd m s):=by
 obtain ⟨k,rfl⟩:∃k,n=k+2:=⟨n-2,by omega⟩
 obtain ⟨r,e1,e2⟩:=cn_l0 k m l (by omega) hm hl l.length 0 k (by omega) (by omega)
 have e:sl_IndexFunc_v3 (k+1) l m=some r:=e1
 show (sl_IndexFunc_v3 (k+1) l m).bind _=_
 rw [e,Option.bind_some,e2];rfl
theorem prf_neg {d next:GDisk} (hL:d.Left=-1):prf d next=(⟨next.Inodes,next.Durable,next.Pending,-1⟩,0):=by
 unfold prf
 rw [if_neg (by rw [hL];decide),if_neg (by rw [hL];decide),hL]
theorem rm_step {c:Nat} {d:GDisk} {name:ByteArray} (hv:valid d=true) (hL:d.Left=-1) (hb:Bg c d) (hc:c≤900) (hm:name∈lsF d) :
  ∃d',remF d name=(d',0)∧valid d'=true∧d'.Left=-1∧Bg (c+1) d'∧lsF d'=(lsF d).filter fun s=>!decide (s=name):=by
 have hdl:=hb.dl;have hil:=hb.il
 have hbE:bE.size=0:=rfl
 obtain ⟨f,t,hR⟩:=cur_rd hv (by omega)
 have hls:lsF d=(cur d).1.map (·.Name):=by unfold lsF;rw [hv];rfl
 rw [hls] at hm
 obtain ⟨e,he,e1⟩:=List.mem_map.1 hm
 have hnm:name.size≤100:=by have:=isNm_size (hR.nms e he);rw [e1] at this;omega
 obtain ⟨i,hl⟩:∃i,lkE name (cur d).1=some i:=by
  cases hl:lkE name (cur d).1 with
  | none=>exact absurd e1 (lkE_none.1 hl e he)
  | some i=>exact ⟨i,rfl⟩
 have hf:(fnd d name).2=0:=by unfold fnd;rw [hv,hl];rfl
 have hx:valid ⟨d.Inodes,d.Durable,d.Pending++[⟨3,name,bE,0⟩],-1⟩=true:=valid_pend hv (by omega) (by
  simp only [ap,hl,show ((3:Int)==1)=false by rfl,show ((3:Int)==2)=false by rfl,show ((3:Int)==3)=true by rfl,show ((0:Int) != 0)=false by rfl,cond_false,decide_true,Bool.and_true]) (-1) (by omega)
 refine ⟨⟨d.Inodes,d.Durable,d.Pending++[⟨3,name,bE,0⟩],-1⟩,?_,hx,rfl,?_,?_⟩
 ·unfold remF;rw [if_neg (fun e=>e hf),if_neg (by omega),prf_neg hL]
 ·have:=bg_pend (x:=⟨3,name,bE,0⟩) (I:=d.Inodes) hb (by simp only [hbE];omega) (by omega)
  exact ⟨this.dn,this.pn,this.dl,this.il⟩
 ·have i6:=(valid_il hv).2.2.2.2.2
  have hcur:cur ⟨d.Inodes,d.Durable,d.Pending++[⟨3,name,bE,0⟩],-1⟩=ap (d.Inodes.length:Int) (cur d).1 ⟨3,name,bE,0⟩:=aft_app i6
  have hap:(ap (d.Inodes.length:Int) (cur d).1 ⟨3,name,bE,0⟩).1=wo (cur d).1 name:=by
   simp only [ap,hl,show ((3:Int)==1)=false by rfl,show ((3:Int)==2)=false by rfl,show ((0:Int) != 0)=false by rfl,cond_false]
  rw [hls]
  unfold lsF
  rw [hx,cond_true,hcur,hap,List.filter_map]
  rfl
theorem ls_nodup {d:GDisk} (hv:valid d=true) (hD:d.Durable.length≤1000000000):(lsF d).Nodup:=by
 obtain ⟨f,t,hR⟩:=cur_rd hv hD
 unfold lsF
 rw [hv,cond_true]
 have:=hR.srt
 unfold Srt at this
 exact List.Pairwise.map _ (fun a b h e=>by rw [e] at h;exact absurd h (List.lt_irrefl _)) this
def lsR (l:List ByteArray) (r:dk_List_R):Prop:=match r with
 | .c0 a=>False
 | .c1 a _ _=>False
 | .c2 a _ _=>a=l
theorem list_v (n B:Nat) (d:GDisk) (hb:Bd B d) (hv:valid d=true) (hn:B+1120≤n):∃r,dk_List n d=some r∧lsR (lsF d) r:=by
 obtain ⟨m,rfl⟩:∃m,n=m+1:=⟨n-1,by omega⟩
 obtain ⟨m,rfl⟩:∃q,m=q+1:=⟨m-1,by omega⟩
 have hB:=hb.big;have hdl:=hb.dl
 obtain ⟨r,h1,h2⟩:=current_eq (m+1) d (by omega) (by omega)
 simp only [dk_List,h1,Option.bind_some,lsF]
 unfold curOut at h2
 rw [if_pos hv] at h2
 obtain ⟨f,t,rfl,hR⟩:=h2
 simp only [maps_Keys,Option.bind_some,sorted_rd hR (m+1) (by omega) (by have:=hR.bound;have:=(valid_il hv).1;omega),hv,cond_true]
 exact ⟨_,rfl,rfl⟩
theorem gl2 (N:Nat) (m:GMf) (L bef R:List ByteArray) (f:List (ByteArray×Int)) (t:List Bool) (hN:300000≤N) (aw:w24_awake N=some true) (hm:m.Blocks.length≤12) (hL:L.length≤1000) (hR:R.length≤1000)
  (h1:∀s∈R,nmd m s=true) (h2:∀s∈L,nmd m s=false) (h3:bef.length=R.length+L.length):∀(k i fl c:Nat) (x:GDisk),i+k=L.length→k<fl→valid x=true→x.Left=-1→Bg c x→c+k≤170 →
   (∀s∈L.drop i,s∈lsF x)→(L.drop i).Nodup→(lsF x).filter (fun s=>!decide (s∈L.drop i))=R →
   lookoutlaw24_ManifestGarbage_l2 N m L bef f t fl x.Inodes x.Durable x.Pending x.Left (L.length:Int) (i:Int)=some true
 | k,i,0,_,_,_,h,_,_,_,_,_,_,_=>by omega
 | 0,i,fl+1,c,x,h,_,hv,hl,hb,hc,hmem,hnd,hfl=>by
  unfold lookoutlaw24_ManifestGarbage_l2
  rw [bzn (by omega)]
  have e0:L.drop i=[]:=List.drop_eq_nil_of_le (by omega)
  rw [e0] at hfl
  have hxR:lsF x=R:=by
   rw [← hfl];symm;exact List.filter_eq_self.2 fun s _=>by simp
  obtain ⟨r,e1,e2⟩:=list_v N 200 x (hb.bd (by omega)) hv (by omega)
  rw [show (⟨x.Inodes,x.Durable,x.Pending,x.Left⟩:GDisk)=x from rfl,e1,Option.bind_some]
  cases r with
  | c0 a=>exact e2.elim
  | c1 a b c=>exact e2.elim
  | c2 a b c=>
   obtain rfl:a=lsF x:=e2
   simp only
   have hx1:(lsF x).any (fun s=>(!nmd m s))=false:=List.any_eq_false.2 fun s hs=>by rw [hxR] at hs;rw [h1 s hs];decide
   have hx2:L.any (fun s=>nmd m s)=false:=List.any_eq_false.2 fun s hs=>by rw [h2 s hs];decide
   have hlen:(lsF x).length=R.length:=by rw [hxR]
   rw [cu_eq N m (lsF x) (by omega) (by omega) (by omega),Option.bind_some,hx1,btt (by rfl),cn_eq N m L (by omega) (by omega) (by omega),Option.bind_some,hx2,btt (by rfl),wr _ (by omega) (by omega),btt (by rw [beq_iff_eq];omega),aw]
   rfl
 | k+1,i,fl+1,c,x,h,hk,hv,hl,hb,hc,hmem,hnd,hfl=>by
  have hi:i<L.length:=by omega
  obtain ⟨s,hs⟩:∃s,L.getD i bE=s:=⟨_,rfl⟩
  have hdr:L.drop i=s::L.drop (i+1):=by rw [← hs];exact getD_drop hi
  rw [hdr] at hmem hnd hfl
  obtain ⟨x',e1,v',l',b',ls'⟩:=rm_step hv hl hb (by omega) (hmem s (by simp))
  have hw:Lw x:=⟨by rw [hl];decide,by rw [hl];decide⟩
  unfold lookoutlaw24_ManifestGarbage_l2
  rw [bz (by omega),btt (by rw [decide_eq_true (by omega),decide_eq_true (by omega)];rfl),toNat_c,hs,show (⟨x.Inodes,x.Durable,x.Pending,x.Left⟩:GDisk)=x from rfl,remove_f N 200 x s (hb.bd (by omega)) hw (by omega),e1,Option.bind_some]
  simp only
  rw [bff (show ((0:Int)==18)=false from rfl),bff (show ((0:Int) != 0)=false from rfl),wr1 i (by omega)]
  refine gl2 N m L bef R f t hN aw hm hL hR h1 h2 h3 k (i+1) fl (c+1) x' (by omega) (by omega) v' l' b' (by omega) (fun s' hs'=>?_) (List.nodup_cons.1 hnd).2 ?_
  ·rw [ls']
   refine List.mem_filter.2 ⟨hmem s' (List.mem_cons_of_mem _ hs'),?_⟩
   have:s'≠s:=fun e=>(List.nodup_cons.1 hnd).1 (e▸hs')
   rw [decide_eq_false this];rfl
  ·rw [ls',List.filter_filter,← hfl]
   refine List.filter_congr fun q _=>?_
   by_cases hq:q=s
   ·subst hq;simp
   ·simp [hq]
theorem g24 (n:Nat) (m:GMf) (hn:1≤n):∃b,r24_Great n m=some b∧(b=false→m.Blocks.length≤12):=by
 obtain ⟨k,rfl⟩:∃k,n=k+1:=⟨n-1,by omega⟩
 unfold r24_Great
 simp only
 by_cases h:(m.Blocks.length:Int)>12
 ·rw [bz h];exact ⟨true,rfl,fun e=>by cases e⟩
 ·rw [bzn h];exact ⟨_,rfl,fun _=>by omega⟩
theorem flen {p:ByteArray→Bool}:∀l:List ByteArray,l.length=(l.filter p).length+(l.filter fun s=>!p s).length
 | []=>rfl
 | a::l=>by
  have ih:=flen (p:=p) l
  simp only [List.filter_cons,List.length_cons]
  cases p a<;>simp<;>omega
theorem garbage_law (x0:GDisk) (x1:GMf) (h0:wfGDisk x0) (h1:wfGMf x1):∃n,lookoutlaw24_ManifestGarbage n x0 x1=some true:=by
 refine ⟨300000+1,?_⟩
 generalize hN:300000=N
 have aw:=awake_eq N (by omega)
 obtain ⟨g1,e1,hm⟩:=g24 N x1 (by omega)
 obtain ⟨g3,e3,hg3⟩:=great_all N x0 (by omega)
 unfold lookoutlaw24_ManifestGarbage
 simp only
 rw [e1,Option.bind_some]
 cases g1 with
 | true=>rw [cond_true,aw];rfl
 | false=>
  rw [cond_false,e3,Option.bind_some]
  cases g3 with
  | true=>rw [cond_true,aw];rfl
  | false=>
   obtain ⟨b1,b2,b3,b4⟩:=hg3 rfl
   have hm:=hm rfl
   obtain ⟨d,hd⟩:∃d:GDisk,(⟨x0.Inodes,x0.Durable,x0.Pending,-1⟩:GDisk)=d:=⟨_,rfl⟩
   have hbg:Bg 80 d:=by rw [← hd];exact ⟨b1.dn,b1.pn,by show x0.Durable.length+x0.Pending.length≤80;omega,by show x0.Inodes.length≤80;omega⟩
   have hbd:=hbg.bd (by omega)
   have hdl:=hbg.dl
   have hL:d.Left=-1:=by rw [← hd]
   have hsh:∀(a:List ByteArray) (q:List (ByteArray×Int)) (z:List Bool) (y:Int) (fl:Nat),lookoutlaw24_ManifestGarbage_l2 N x1 a (lsF d) q z fl x0.Inodes x0.Durable x0.Pending (-1) y 0=lookoutlaw24_ManifestGarbage_l2 N x1 a (lsF d) q z fl d.Inodes d.Durable d.Pending d.Left y ((0:Nat):Int):=fun _ _ _ _ _=>by rw [← hd];rfl
   rw [cond_false,hd,garbage_p N 200 d x1 hbd (by omega) hm,Option.bind_some,check_eq N 200 d hbd (by omega),Option.bind_some]
   cases hv:valid d with
   | false=>
    have:lsF d=[]:=by unfold lsF;rw [hv];rfl
    have hE:(if chk x1≠0 then ([]:List ByteArray) else kpt x1 (lsF d))=[]:=by rw [this];split<;>rfl
    rw [hE,cond_false,btt (by rfl),btt (by rfl),aw];rfl
   | true=>
    rw [cond_true,bff (show ((0:Int) != 0)=false from rfl),mcheck_eq N x1 (by omega),Option.bind_some]
    by_cases hc:chk x1=0
    ·rw [bff (show (chk x1 != 0)=false by rw [hc];rfl),if_neg (fun e=>e hc)]
     obtain ⟨r,l1,l2⟩:=list_v N 200 d hbd hv (by omega)
     rw [l1,Option.bind_some]
     cases r with
     | c0 a=>exact l2.elim
     | c1 a b c=>exact l2.elim
     | c2 a b c=>
      obtain rfl:a=lsF d:=l2
      simp only
      have hll:=ls_len (d:=d) (by omega)
      have hkl:=kpt_le x1 (lsF d)
      have hcl:(cur d).1.length≤80:=by
       have:=aft_len (d.Inodes.length:Int) d.Pending d.Durable
       unfold cur;omega
      have hl80:(lsF d).length≤80:=by unfold lsF;rw [hv,cond_true,List.length_map];exact hcl
      rw [hsh]
      refine gl2 N x1 (kpt x1 (lsF d)) (lsF d) ((lsF d).filter fun s=>nmd x1 s) b c (by omega) aw hm (by omega) (by have:=List.length_filter_le (fun s=>nmd x1 s) (lsF d);omega) (fun s hs=>(List.mem_filter.1 hs).2) (fun s hs=>?_) ?_ (kpt x1 (lsF d)).length 0 N 80 d (by omega) (by omega) hv hL hbg (by omega) (fun s hs=>?_) ?_ ?_
      ·have:=(List.mem_filter.1 hs).2
       simpa using this
      ·exact flen _
      ·rw [List.drop_zero] at hs;exact (List.mem_filter.1 hs).1
      ·rw [List.drop_zero];exact (ls_nodup hv (by omega)).filter _
      ·rw [List.drop_zero]
       refine List.filter_congr fun s hs=>?_
       cases hn:nmd x1 s with
       | true=>
        have:¬s∈kpt x1 (lsF d):=fun h=>by have:=(List.mem_filter.1 h).2;rw [hn] at this;cases this
        rw [decide_eq_false this];rfl
       | false=>
        have:s∈kpt x1 (lsF d):=List.mem_filter.2 ⟨hs,by rw [hn];rfl⟩
        rw [decide_eq_true this];rfl
    ·rw [btt (show (chk x1 != 0)=true by rw [bne_iff_ne];exact hc),if_pos hc,btt (by rfl),aw];rfl
end Go.Proofs.YtomalcfghdaghaaGreatDoor
