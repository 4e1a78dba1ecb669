/- Plain laws of saving, 1: what Save does to a disk. -/
import Derived.Test.YtomalcfghdaghaaGreatDoorMn8
set_option linter.unusedVariables false
set_option linter.unusedSimpArgs false
namespace Go.Proofs.YtomalcfghdaghaaGreatDoor
open Go Go.AM Go.Lib
theorem out_crt {c:Nat} {d:GDisk} {name:ByteArray} (h:Bg c d):Out c d (crtF d name):=by
 have hil:=h.il;have hdl:=h.dl
 have hb:bE.size=0:=rfl
 unfold crtF
 split
 ·exact out_no (by omega) (by omega)
 ·split
  ·exact out_no (by omega) (by omega)
  ·split
   ·exact out_no (by omega) (by omega)
   ·split
    ·exact out_no (by omega) (by omega)
    ·split
     ·exact out_no (by omega) (by omega)
     ·rename_i hn _ _ _
      have:=isNm_size (s:=name) (by simpa using hn)
      exact out_prf (bg_pend h (by simp only [hb];omega) (by simp;omega))
theorem out_sd {c:Nat} {d:GDisk} (h:Bg c d) (hD:c≤1000000):Out c d (sdF d):=by
 have hil:=h.il;have hdl:=h.dl
 unfold sdF
 split
 ·exact out_no (by omega) (by omega)
 ·rename_i hv
  have hv:valid d=true:=by simpa using hv
  obtain ⟨f,t,hR⟩:=cur_rd hv (by omega)
  have hl:(cur d).1.length≤d.Durable.length+d.Pending.length:=aft_len _ _ _
  have hal:=acI_len d (cur d).1 d.Inodes.length 0
  have hrk:=rnk_le (cur d).1 (0+d.Inodes.length)
  refine out_prf ⟨fun e he=>?_,fun x hx=>by simp at hx,by simp;omega,by simp only;omega⟩
  obtain ⟨e0,he0,rfl⟩:=List.mem_map.1 he
  have:=isNm_size (hR.nms e0 he0)
  simp only [rnkE];omega
theorem out_syn {c:Nat} {d:GDisk} {name:ByteArray} (h:Bg c d):Out c d (synF d name):=by
 unfold synF
 split
 ·rename_i e;exact out_fnd e
 ·exact out_prf (bg_chg h)
theorem out_app {c:Nat} {d:GDisk} {name data:ByteArray} (h:Bg c d):Out c d (appF d name data):=by
 unfold appF
 split
 ·rename_i e;exact out_fnd e
 ·split
  ·exact out_no (by omega) (by omega)
  ·exact out_prf (bg_chg h)
theorem out_ren {c:Nat} {d:GDisk} {name to:ByteArray} (h:Bg c d) (hs:name.size+to.size≤200):Out c d (renF d name to):=by
 have hil:=h.il
 unfold renF
 split
 ·rename_i e;exact out_fnd e
 ·split
  ·exact out_no (by omega) (by omega)
  ·split
   ·exact out_no (by omega) (by omega)
   ·split
    ·exact out_no (by omega) (by omega)
    ·exact out_prf (bg_pend h hs (by omega))
theorem out_rem {c:Nat} {d:GDisk} {name:ByteArray} (h:Bg c d) (hs:name.size≤200):Out c d (remF d name):=by
 have hil:=h.il
 have hb:bE.size=0:=rfl
 unfold remF
 split
 ·rename_i e;exact out_fnd e
 ·split
  ·exact out_no (by omega) (by omega)
  ·exact out_prf (bg_pend h (by simp only [hb];omega) (by omega))
theorem out_next {c:Nat} {d:GDisk} {r:GDisk×Int} (h:Out c d r) (h0:r.2=0) (hw:Lw d):Bg (c+1) r.1∧Lw r.1:=by
 obtain ⟨h1,h2,h3⟩:=h.ok h0
 have w1:=hw.lo;have w2:=hw.hi
 refine ⟨h3,?_,?_⟩<;>rw [h2]<;>split<;>omega
def thn (r:GDisk×Int) (f:GDisk→GDisk×Int):GDisk×Int:=if r.2≠0 then r else f r.1
def svT (d:GDisk) (t:ByteArray):GDisk×Int:=thn (crtF d mfnB) fun d2=>thn (appF d2 mfnB t) fun d3=>thn (synF d3 mfnB) fun d4=>thn (renF d4 mfnB mfB) sdF
def svF (d:GDisk) (t:ByteArray):GDisk×Int:=if (rdF d mfnB).2=0 then thn (remF d mfnB) (fun d1=>svT d1 t) else svT d t
theorem thn_bind {x:Option (GDisk×Int)} {r:GDisk×Int} (hx:x=some r) {K:GDisk×Int→Option (GDisk×Int)} {f:GDisk→GDisk×Int} (hK:r.2=0→K r=some (f r.1)):(x.bind fun r=>bif (r.2 != 0) then some (r.1,r.2) else K r)=some (thn r f):=by
 rw [hx,Option.bind_some]
 unfold thn
 by_cases h:r.2=0
 ·rw [bff (by rw [h];rfl),if_neg (fun e=>e h)];exact hK h
 ·rw [btt (by rw [bne_iff_ne];exact h),if_pos h]
theorem mfn_size:mfnB.size=12:=rfl
theorem mf_size:mfB.size=8:=rfl
theorem sv_tail (n:Nat) (d:GDisk) (t:ByteArray) (h:Bg 150 d) (hw:Lw d) (ht:t.size≤1000000000) (hn:5000≤n) :
  ((mf_Save_c2 n d).bind fun r10=>(bif (r10.2 != 0) then (some (r10.1,r10.2)) else ((mf_Save_c3 n r10.1 t).bind fun r11=>(bif (r11.2 != 0) then (some (r11.1,r11.2)) else ((mf_Save_c4 n r11.1).bind fun r12=>(bif (r12.2 != 0) then (some (r12.1,r12.2)) else ((mf_Save_c5 n r12.1).bind fun r13=>(bif (r13.2 != 0) then (some (r13.1,r13.2)) else ((dk_SyncDir n r13.1).bind fun r14=>(bif (r14.2 != 0) then (some (r14.1,r14.2)) else (some (r14.1,0))))))))))))=some (svT d t):=by
 obtain ⟨m,rfl⟩:∃m,n=m+1:=⟨n-1,by omega⟩
 have e2:mf_Save_c2 (m+1) d=some (crtF d mfnB):=by
  show (dk_Create m d mfnB).bind _=_
  rw [create_f m 200 d mfnB (h.bd (by omega)) hw (by omega)];rfl
 refine thn_bind e2 fun z2=>?_
 obtain ⟨g2,w2⟩:=out_next (out_crt h) z2 hw
 have e3:mf_Save_c3 (m+1) (crtF d mfnB).1 t=some (appF (crtF d mfnB).1 mfnB t):=by
  show (dk_Append m _ mfnB t).bind _=_
  rw [append_f m 200 _ mfnB t (g2.bd (by omega)) w2 (by omega) ht];rfl
 refine thn_bind e3 fun z3=>?_
 obtain ⟨g3,w3⟩:=out_next (out_app g2) z3 w2
 have e4:mf_Save_c4 (m+1) (appF (crtF d mfnB).1 mfnB t).1=some (synF (appF (crtF d mfnB).1 mfnB t).1 mfnB):=by
  show (dk_Sync m _ mfnB).bind _=_
  rw [sync_f m 200 _ mfnB (g3.bd (by omega)) w3 (by omega)];rfl
 refine thn_bind e4 fun z4=>?_
 obtain ⟨g4,w4⟩:=out_next (out_syn g3) z4 w3
 have e5:mf_Save_c5 (m+1) (synF (appF (crtF d mfnB).1 mfnB t).1 mfnB).1=some (renF (synF (appF (crtF d mfnB).1 mfnB t).1 mfnB).1 mfnB mfB):=by
  show (dk_Rename m _ mfnB mfB).bind _=_
  rw [rename_f m 200 _ mfnB mfB (g4.bd (by omega)) w4 (by omega)];rfl
 refine thn_bind e5 fun z5=>?_
 obtain ⟨g5,w5⟩:=out_next (out_ren g4 (by rw [mfn_size,mf_size];omega)) z5 w4
 rw [syncdir_f (m+1) 200 _ (g5.bd (by omega)) w5 (by omega),Option.bind_some]
 generalize sdF (renF (synF (appF (crtF d mfnB).1 mfnB t).1 mfnB).1 mfnB mfB).1=r
 by_cases h6:r.2=0
 ·rw [bff (by rw [h6];rfl),← h6]
 ·rw [btt (by rw [bne_iff_ne];exact h6)]
theorem save_eq (n:Nat) (d:GDisk) (m:GMf) (h:Bg 120 d) (hw:Lw d) (hn:40000≤n):mf_Save n d m=some (if chk m≠0 then no 1 else if valid d=false then no 1 else svF d (sealed (ofL (txt m)))):=by
 obtain ⟨k,rfl⟩:∃k,n=k+9:=⟨n-9,by omega⟩
 unfold mf_Save
 simp only
 rw [encode_eq (k+8) m (by omega),Option.bind_some,encd]
 by_cases hc:chk m=0
 ·have hlen:=txt_len (chk_good hc)
  have hsz:(ofL (txt m)).size=(txt m).length:=ofL_size _
  have hss:=seal_size (ofL (txt m))
  rw [if_neg (show ¬chk m≠0 from fun e=>e hc),if_neg (show ¬chk m≠0 from fun e=>e hc)]
  simp only
  rw [show ((0:Int) != 0)=false from rfl,cond_false,check_eq (k+8) 200 d (h.bd (by omega)) (by omega),Option.bind_some]
  generalize sealed (ofL (txt m))=t at hss
  cases hv:valid d with
  | false=>rfl
  | true=>
   rw [cond_true,show ((0:Int) != 0)=false from rfl,cond_false,if_neg (show ¬true=false by decide)]
   have er:dk_Read (k+8) d (⟨#[77,65,78,73,70,69,83,84,46,110,101,119]⟩:ByteArray)=some (rdF d mfnB):=read_d (k+8) 200 d mfnB (h.bd (by omega)) (by omega)
   rw [er,Option.bind_some]
   unfold svF
   by_cases hr:(rdF d mfnB).2=0
   ·rw [btt (show ((rdF d mfnB).2==0)=true by rw [hr];rfl),if_pos hr]
    have e1:mf_Save_c1 (k+8) d=some (remF d mfnB):=by
     show (dk_Remove (k+7) d mfnB).bind _=_
     rw [remove_f (k+7) 200 d mfnB (h.bd (by omega)) hw (by omega)];rfl
    refine thn_bind e1 fun z1=>?_
    obtain ⟨g1,w1⟩:=out_next (out_rem h (by rw [mfn_size];omega)) z1 hw
    exact sv_tail (k+8) _ t (g1.mono (by omega)) w1 (by omega) (by omega)
   ·rw [bff (show ((rdF d mfnB).2==0)=false by rw [beq_eq_false_iff_ne];exact hr),if_neg hr]
    exact sv_tail (k+8) d t (h.mono (by omega)) hw (by omega) (by omega)
 ·rw [if_pos (show chk m≠0 from hc),if_pos (show chk m≠0 from hc)];rfl
end Go.Proofs.YtomalcfghdaghaaGreatDoor
/- Plain laws: manifest.Garbage of the program. -/
set_option linter.unusedVariables false
set_option linter.unusedSimpArgs false
namespace Go.Proofs.YtomalcfghdaghaaGreatDoor
open Go Go.AM
def nmd (m:GMf) (s:ByteArray):Bool:=decide (s=mfB)||(decide (s=m.Log)||m.Blocks.any fun b=>decide (b.File=s))
theorem g11 (n:Nat) (b:GBR) (s:ByteArray) (hn:1≤n):mf_Garbage_c1_c1 n b s=some (decide (b.File=s)):=by
 obtain ⟨k,rfl⟩:∃k,n=k+1:=⟨n-1,by omega⟩
 simp only [mf_Garbage_c1_c1,sEq_eq]
theorem ib_l0 (n:Nat) (bs:List GBR) (s:ByteArray) (hn:1≤n) (hl:bs.length≤1000000000):∀(k i f:Nat),i+k=bs.length→k<f→∃r,sl_IndexFunc_55_l0 n bs s f (bs.length:Int) (i:Int)=some r∧decide (r≥0)=(bs.drop i).any fun b=>decide (b.File=s)
 | k,i,0,_,h=>by omega
 | 0,i,f+1,h,_=>by
  refine ⟨-1,?_,?_⟩
  ·unfold sl_IndexFunc_55_l0
   rw [bzn (by omega)]
  ·rw [List.drop_eq_nil_of_le (by omega)];rfl
 | k+1,i,f+1,h,h2=>by
  obtain ⟨r,e1,e2⟩:=ib_l0 n bs s hn hl k (i+1) f (by omega) (by omega)
  rw [getD_drop (d:=dGBR) (show i<bs.length by omega)]
  obtain ⟨b,hb⟩:∃b,bs.getD i dGBR=b:=⟨_,rfl⟩
  have e:sl_IndexFunc_55_l0 n bs s (f+1) (bs.length:Int) (i:Int)=if b.File=s then some (i:Int) else sl_IndexFunc_55_l0 n bs s f (bs.length:Int) ((i+1:Nat):Int):=by
   conv=>lhs;unfold sl_IndexFunc_55_l0
   rw [bz (show (i:Int)<(bs.length:Int) by omega),btt (by rw [decide_eq_true (by omega),decide_eq_true (by omega)];rfl),toNat_c,hb,g11 n b s hn,Option.bind_some,wr1 i (by omega)]
   by_cases hs:b.File=s
   ·rw [bz hs,if_pos hs]
   ·rw [bzn hs,if_neg hs]
  by_cases hs:b.File=s
  ·refine ⟨(i:Int),by rw [e,if_pos hs],?_⟩
   rw [hb,List.any_cons,decide_eq_true hs,decide_eq_true (by omega)];rfl
  ·refine ⟨r,by rw [e,if_neg hs,e1],?_⟩
   rw [e2,hb,List.any_cons,decide_eq_false hs];rfl
theorem cb_eq (n:Nat) (bs:List GBR) (s:ByteArray) (hn:bs.length+4≤n) (hl:bs.length≤1000000000):sl_ContainsFunc n bs s=some (bs.any fun b=>decide (b.File=s)):=by
 obtain ⟨k,rfl⟩:∃k,n=k+2:=⟨n-2,by omega⟩
 obtain ⟨r,e1,e2⟩:=ib_l0 k bs s (by omega) hl bs.length 0 k (by omega) (by omega)
 have e:sl_IndexFunc_55 (k+1) bs s=some r:=e1
 show (sl_IndexFunc_55 (k+1) bs s).bind _=_
 rw [e,Option.bind_some,e2];rfl
theorem gc1 (n:Nat) (m:GMf) (s:ByteArray) (hn:m.Blocks.length+5≤n) (hl:m.Blocks.length≤1000000000):mf_Garbage_c1 n s m=some (nmd m s):=by
 obtain ⟨k,rfl⟩:∃k,n=k+1:=⟨n-1,by omega⟩
 unfold mf_Garbage_c1 nmd
 simp only
 rw [sEq_eq,sEq_eq]
 by_cases h1:s=mfB
 ·rw [bz (show s=(⟨#[77,65,78,73,70,69,83,84]⟩:ByteArray) from h1),decide_eq_true h1];rfl
 ·rw [bzn (show ¬s=(⟨#[77,65,78,73,70,69,83,84]⟩:ByteArray) from h1),decide_eq_false h1]
  by_cases h2:s=m.Log
  ·rw [bz h2,decide_eq_true h2];rfl
  ·rw [bzn h2,decide_eq_false h2,cb_eq k m.Blocks s (by omega) hl];rfl
theorem im_l0 (n:Nat) (m:GMf) (l:List ByteArray) (hn:m.Blocks.length+5≤n) (hm:m.Blocks.length≤1000000000) (hl:l.length≤1000000000):∀(k i f:Nat),i+k=l.length→k<f →
  ∃r:Int,sl_IndexFunc_v1_l0 n l.length m l f (l.length:Int) (i:Int)=some (r,l)∧((r=-1∧∀x∈l.drop i,nmd m x=false)∨∃q:Nat,r=(q:Int)∧i≤q∧q<l.length∧nmd m (l.getD q bE)=true∧∀x∈(l.take q).drop i,nmd m x=false)
 | k,i,0,_,h=>by omega
 | 0,i,f+1,h,_=>by
  refine ⟨-1,?_,.inl ⟨rfl,?_⟩⟩
  ·unfold sl_IndexFunc_v1_l0
   rw [bzn (by omega)]
  ·rw [List.drop_eq_nil_of_le (by omega)];intro x hx;simp at hx
 | k+1,i,f+1,h,h2=>by
  obtain ⟨r,e1,e2⟩:=im_l0 n m l hn hm hl k (i+1) f (by omega) (by omega)
  obtain ⟨b,hb⟩:∃b,l.getD i bE=b:=⟨_,rfl⟩
  have e:sl_IndexFunc_v1_l0 n l.length m l (f+1) (l.length:Int) (i:Int)=bif nmd m b then some ((i:Int),l) else sl_IndexFunc_v1_l0 n l.length m l f (l.length:Int) ((i+1:Nat):Int):=by
   conv=>lhs;unfold sl_IndexFunc_v1_l0
   rw [bz (show (i:Int)<(l.length:Int) by omega),btt (by rw [decide_eq_true (by omega),decide_eq_true (by omega)];rfl),toNat_c,btt (by rw [Nat.blt_eq];omega),hb,gc1 n m b hn hm,Option.bind_some,wr1 i (by omega)]
  cases hs:nmd m b with
  | true=>
   refine ⟨(i:Int),by rw [e,hs,cond_true],.inr ⟨i,rfl,Nat.le_refl _,by omega,by rw [hb];exact hs,?_⟩⟩
   rw [List.drop_eq_nil_of_le (by rw [List.length_take];omega)];intro x hx;simp at hx
  | false=>
   refine ⟨r,by rw [e,hs,cond_false,e1],?_⟩
   have hd:∀q,i<q→q≤l.length→(l.take q).drop i=b::(l.take q).drop (i+1):=fun q h3 h4=>by
    rw [getD_drop (d:=bE) (show i<(l.take q).length by rw [List.length_take];omega)]
    congr 1
    rw [← hb];simp only [List.getD];rw [List.getElem?_take_of_lt h3]
   rcases e2 with ⟨h3,h4⟩ | ⟨q,h3,h4,h5,h6,h7⟩
   ·refine .inl ⟨h3,?_⟩
    rw [getD_drop (d:=bE) (show i<l.length by omega),hb]
    intro x hx
    rcases List.mem_cons.1 hx with rfl | hx
    ·exact hs
    ·exact h4 x hx
   ·refine .inr ⟨q,h3,by omega,h5,h6,?_⟩
    rw [hd q (by omega) (by omega)]
    intro x hx
    rcases List.mem_cons.1 hx with rfl | hx
    ·exact hs
    ·exact h7 x hx
def kpt (m:GMf) (l:List ByteArray):List ByteArray:=l.filter fun s=>!nmd m s
theorem kpt_snoc (m:GMf) (l:List ByteArray) (i:Nat) (h:i<l.length):kpt m (l.take (i+1))=kpt m (l.take i)++(bif nmd m (l.getD i bE) then [] else [l.getD i bE]):=by
 have e:l.take (i+1)=l.take i++[l.getD i bE]:=by
  rw [List.take_add_one];congr 1
  simp [List.getD,h]
 unfold kpt
 rw [e,List.filter_append]
 congr 1
 cases hn:nmd m (l.getD i bE) with
 | true=>simp only [List.filter_cons,hn];rfl
 | false=>simp only [List.filter_cons,hn];rfl
theorem kpt_all {m:GMf} {l:List ByteArray} (h:∀x∈l,nmd m x=false):kpt m l=l:=List.filter_eq_self.2 fun x hx=>by rw [h x hx];rfl
theorem kpt_le (m:GMf) (l:List ByteArray):(kpt m l).length≤l.length:=List.length_filter_le _ _
def dlOut (m:GMf) (l:List ByteArray) (r:sl_DeleteFunc_v1_R):Prop:=match r with
 | .c0 k l2=>k≤l2.length∧l2.take k=kpt m l
 | .c1 a l2=>a=[]∧kpt m l=[]
theorem del_l0 (n:Nat) (m:GMf) (l:List ByteArray) (hn:m.Blocks.length+5≤n) (hm:m.Blocks.length≤1000000000) (hl:l.length≤1000000000):∀(k i f:Nat) (q:Nat) (l2:List ByteArray),i+k=l.length→k<f →
  l2.length=l.length→q=(kpt m (l.take i)).length→q≤i→l2.take q=kpt m (l.take i)→l2.drop i=l.drop i→∃r,sl_DeleteFunc_v1_l0 n l.length m f (q:Int) (i:Int) l2=some r∧dlOut m l r
 | k,i,0,_,_,_,h,_,_,_,_,_=>by omega
 | 0,i,f+1,q,l2,h,_,h3,h4,h5,h6,h7=>by
  have hi:l.take i=l:=List.take_of_length_le (by omega)
  rw [hi] at h6 h4
  have hg:(decide ((0:Int)≤0)&&decide ((0:Int)≤(q:Int))&&decide ((q:Int)≤(l.length:Int)))=true:=by rw [decide_eq_true (by omega),decide_eq_true (by omega),decide_eq_true (by omega)];rfl
  have hg2:(decide ((0:Int)≤(q:Int))&&decide ((q:Int)≤(l.length:Int))&&decide ((l.length:Int)≤(l.length:Int)))=true:=by rw [decide_eq_true (by omega),decide_eq_true (by omega),decide_eq_true (by omega)];rfl
  have e:sl_DeleteFunc_v1_l0 n l.length m (f+1) (q:Int) (i:Int) l2=sl_DeleteFunc_v1_s2 n l.length (q:Int) l2:=by
   conv=>lhs;unfold sl_DeleteFunc_v1_l0
   rw [bzn (by omega)]
  rw [e]
  unfold sl_DeleteFunc_v1_s2
  rw [btt hg2,toNat_c]
  by_cases hq:q<l.length
  ·rw [bz hq,btt (by rw [Nat.ble_eq];omega),btt hg]
   have hc:(clrL q (l.length-q) bE l2).take q=kpt m l:=by
    rw [← h6]
    unfold clrL
    rw [List.append_assoc,List.take_append_of_le_length (by rw [List.length_take];omega),List.take_take,Nat.min_self]
   have hcl:q≤(clrL q (l.length-q) bE l2).length:=by
    unfold clrL
    rw [List.length_append,List.length_append,List.length_take];omega
   by_cases h0:0<q
   ·rw [bz h0];exact ⟨_,rfl,hcl,hc⟩
   ·rw [bzn h0];exact ⟨_,rfl,rfl,List.eq_nil_of_length_eq_zero (by omega)⟩
  ·rw [bzn hq,btt hg]
   by_cases h0:0<q
   ·rw [bz h0];exact ⟨_,rfl,by omega,h6⟩
   ·rw [bzn h0];exact ⟨_,rfl,rfl,List.eq_nil_of_length_eq_zero (by omega)⟩
 | k+1,i,f+1,q,l2,h,h2,h3,h4,h5,h6,h7=>by
  have hi:i<l.length:=by omega
  have hgi:l2.getD i bE=l.getD i bE:=by
   have e1:=getD_drop (d:=bE) hi
   have e2:=getD_drop (d:=bE) (l:=l2) (i:=i) (by omega)
   rw [h7,e1] at e2
   exact (List.cons.inj e2).1.symm
  have hd1:l2.drop (i+1)=l.drop (i+1):=by
   have e1:=getD_drop (d:=bE) hi
   have e2:=getD_drop (d:=bE) (l:=l2) (i:=i) (by omega)
   rw [h7,e1] at e2
   exact (List.cons.inj e2).2.symm
  have hk:=kpt_snoc m l i hi
  have e:sl_DeleteFunc_v1_l0 n l.length m (f+1) (q:Int) (i:Int) l2=bif nmd m (l.getD i bE) then sl_DeleteFunc_v1_l0 n l.length m f (q:Int) ((i+1:Nat):Int) l2 else sl_DeleteFunc_v1_l0 n l.length m f ((q+1:Nat):Int) ((i+1:Nat):Int) (l2.set q (l.getD i bE)):=by
   conv=>lhs;unfold sl_DeleteFunc_v1_l0
   rw [bz (show (i:Int)<(l.length:Int) by omega),btt (by rw [decide_eq_true (by omega),decide_eq_true (by omega)];rfl),toNat_c,btt (by rw [Nat.blt_eq];omega),hgi,gc1 n m _ hn hm,Option.bind_some]
   cases hs:nmd m (l.getD i bE) with
   | true=>
    simp only [Bool.not_true,cond_false,cond_true]
    unfold sl_DeleteFunc_v1_s1
    rw [wr1 i (by omega)]
   | false=>
    simp only [Bool.not_false,cond_false,cond_true]
    rw [btt (by rw [decide_eq_true (by omega),decide_eq_true (by omega)];rfl),toNat_c,btt (by rw [Nat.blt_eq];omega)]
    unfold sl_DeleteFunc_v1_s1
    rw [wr1 i (by omega),wr1 q (by omega)]
  rw [e]
  cases hs:nmd m (l.getD i bE) with
  | true=>
   rw [hs] at hk
   simp only [cond_true,List.append_nil] at hk
   rw [cond_true]
   exact del_l0 n m l hn hm hl k (i+1) f q l2 (by omega) (by omega) h3 (by rw [hk];exact h4) (by omega) (by rw [hk];exact h6) hd1
  | false=>
   rw [hs] at hk
   simp only [cond_false] at hk
   rw [cond_false]
   refine del_l0 n m l hn hm hl k (i+1) f (q+1) _ (by omega) (by omega) (by rw [List.length_set];exact h3) (by rw [hk,List.length_append,← h4];rfl) (by omega) ?_ ?_
   ·rw [hk,← h6,List.take_add_one,List.take_set_of_le (Nat.le_refl _)]
    congr 1
    rw [List.getElem?_set_self (by omega)];rfl
   ·rw [List.drop_set_of_lt (by omega)];exact hd1
theorem del_eq (n:Nat) (m:GMf) (l:List ByteArray) (hn:m.Blocks.length+l.length+10≤n) (hm:m.Blocks.length≤1000000000) (hl:l.length≤1000000000):∃r,sl_DeleteFunc_v1 n l.length m l=some r∧dlOut m l r:=by
 obtain ⟨k,rfl⟩:∃k,n=k+2:=⟨n-2,by omega⟩
 obtain ⟨r,e1,e2⟩:=im_l0 k m l (by omega) hm hl l.length 0 k (by omega) (by omega)
 have e:sl_IndexFunc_v1 (k+1) l.length m l=some (r,l):=e1
 unfold sl_DeleteFunc_v1
 simp only
 rw [e,Option.bind_some]
 simp only
 rcases e2 with ⟨rfl,h1⟩ | ⟨q,rfl,h1,h2,h3,h4⟩
 ·rw [btt (show ((-1:Int)==-1)=true from rfl)]
  refine ⟨_,rfl,Nat.le_refl _,?_⟩
  rw [List.drop_zero] at h1
  rw [List.take_of_length_le (Nat.le_refl _),kpt_all h1]
 ·rw [bff (show ((q:Int)==-1)=false by rw [beq_eq_false_iff_ne];omega),wr1 q (by omega)]
  rw [List.drop_zero] at h4
  have hk:=kpt_snoc m l q h2
  rw [h3,kpt_all h4] at hk
  simp only [cond_true,List.append_nil] at hk
  have hlen:(l.take q).length=q:=by rw [List.length_take];omega
  exact del_l0 (k+1) m l (by omega) hm hl (l.length-(q+1)) (q+1) (k+1) q l (by omega) (by omega) rfl (by rw [hk,hlen]) (by omega) hk.symm rfl
theorem del_nil (n:Nat) (m:GMf) (hn:5≤n):sl_DeleteFunc n [] m=some []:=by
 obtain ⟨k,rfl⟩:∃k,n=k+3:=⟨n-3,by omega⟩
 rfl
def lsOut (l:List ByteArray) (r:dk_List_m_R):Prop:=match r with
 | .c0 a=>a=[]∧l=[]
 | .c1 a _ _=>a=[]∧l=[]
 | .c2 a _ _=>a=[]∧l=[]
 | .c3 k _ _ a=>k=a.length∧a=l
theorem list_m (n B:Nat) (d:GDisk) (hb:Bd B d) (hn:B+1120≤n):∃r,dk_List_m n d=some r∧lsOut (lsF d) r:=by
 obtain ⟨m,rfl⟩:∃m,n=m+1:=⟨n-1,by omega⟩
 obtain ⟨m,rfl⟩:∃q,m=q+1:=⟨m-1,by omega⟩
 have hB:=hb.big;have hdl:=hb.dl
 obtain ⟨r,h1,h2⟩:=current_eq (m+1) d (by omega) (by omega)
 simp only [dk_List_m,h1,Option.bind_some,lsF]
 unfold curOut at h2
 cases hv:valid d with
 | true=>
  rw [if_pos hv] at h2
  obtain ⟨f,t,rfl,hR⟩:=h2
  simp only [maps_Keys,Option.bind_some,sortedM,sorted_rd hR (m+1) (by omega) (by have:=hR.bound;have:=(valid_il hv).1;omega),cond_true]
  cases hl:(cur d).1.map (·.Name) with
  | nil=>exact ⟨_,rfl,rfl,rfl⟩
  | cons a l=>exact ⟨_,rfl,rfl,rfl⟩
 | false=>
  rw [if_neg (by simp [hv])] at h2
  cases r with
  | c0 a=>exact ⟨_,rfl,rfl,rfl⟩
  | c1 a b c=>exact ⟨_,rfl,rfl,rfl⟩
  | c2 a f t=>exact absurd rfl (h2 a f t)
theorem ls_len {d:GDisk} (hD:d.Durable.length≤1000000000):(lsF d).length≤1000:=by
 unfold lsF
 cases hv:valid d with
 | true=>rw [cond_true,List.length_map];exact cur_len hv hD
 | false=>simp
theorem garbage_p (n B:Nat) (d:GDisk) (m:GMf) (hb:Bd B d) (hn:B+3000≤n) (hm:m.Blocks.length≤12):mf_Garbage n d m=some (if chk m≠0 then [] else kpt m (lsF d)):=by
 obtain ⟨k,rfl⟩:∃k,n=k+1:=⟨n-1,by omega⟩
 have hB:=hb.big;have hdl:=hb.dl
 have hll:=ls_len (d:=d) (by omega)
 unfold mf_Garbage
 simp only
 rw [mcheck_eq k m (by omega),Option.bind_some]
 by_cases hc:chk m=0
 ·rw [bff (by rw [hc];rfl),if_neg (fun e=>e hc)]
  obtain ⟨r,e1,e2⟩:=list_m k B d hb (by omega)
  rw [e1,Option.bind_some]
  cases r with
  | c0 a=>
   obtain ⟨rfl,h2⟩:=e2
   simp only
   rw [del_nil k m (by omega),h2];rfl
  | c1 a b c=>
   obtain ⟨rfl,h2⟩:=e2
   simp only
   rw [del_nil k m (by omega),h2];rfl
  | c2 a b c=>
   obtain ⟨rfl,h2⟩:=e2
   simp only
   rw [del_nil k m (by omega),h2];rfl
  | c3 q b c a=>
   obtain ⟨rfl,rfl⟩:=e2
   simp only
   obtain ⟨r,d1,d2⟩:=del_eq k m (lsF d) (by omega) (by omega) (by omega)
   rw [d1,Option.bind_some]
   cases r with
   | c0 x y=>
    simp only
    rw [btt (by rw [Nat.ble_eq];exact d2.1),d2.2]
   | c1 x y=>
    simp only
    rw [d2.1,d2.2]
 ·rw [btt (by rw [bne_iff_ne];exact hc),if_pos hc]
end Go.Proofs.YtomalcfghdaghaaGreatDoor
/- Plain laws: ManifestSave. -/
set_option linter.unusedVariables false
set_option linter.unusedSimpArgs false
namespace Go.Proofs.YtomalcfghdaghaaGreatDoor
open Go Go.AM Go.Lib
theorem gdata_l0 (n:Nat) (d:GDisk) (hI:d.Inodes.length≤1000000000):∀(k i m:Nat) (s:Int),i+k=d.Inodes.length→r22_Great_l0 n d m s (i:Int)=some false→∀x∈d.Inodes.drop i,x.Data.size≤20000
 | _,i,0,_,_,h=>by cases h
 | 0,i,m+1,s,h,_=>by rw [List.drop_eq_nil_of_le (by omega)];intro x hx;simp at hx
 | k+1,i,m+1,s,h,h2=>by
  rw [getD_drop (d:=dGI) (show i<d.Inodes.length by omega)]
  obtain ⟨x,hx⟩:∃x,d.Inodes.getD i dGI=x:=⟨_,rfl⟩
  simp only [r22_Great_l0,show (i:Int)<(d.Inodes.length:Int) by omega,show (0:Int)≤(i:Int) by omega,decide_true,Bool.and_true,cond_true,toNat_c,wr1 i (by omega),hx] at h2
  by_cases c1:(x.Data.size:Int)>20000
  ·rw [bz c1] at h2;cases h2
  ·rw [bzn c1] at h2
   have ih:=gdata_l0 n d hI k (i+1) m _ (by omega) h2
   rw [hx]
   intro y hy
   rcases List.mem_cons.1 hy with rfl | hy
   ·omega
   ·exact ih y hy
theorem great_data (n:Nat) (d:GDisk) (h:r22_Great n d=some false):∀x∈d.Inodes,x.Data.size≤20000:=by
 cases n with
 | zero=>cases h
 | succ n=>
  unfold r22_Great at h
  simp only at h
  by_cases c1:(d.Inodes.length:Int)>40
  ·rw [bz c1] at h;cases h
  ·rw [bzn c1] at h
   by_cases c2:(d.Durable.length:Int)>40
   ·rw [bz c2] at h;cases h
   ·rw [bzn c2] at h
    by_cases c3:(d.Pending.length:Int)>40
    ·rw [bz c3] at h;cases h
    ·rw [bzn c3] at h
     have:=gdata_l0 n d (by omega) d.Inodes.length 0 n 0 (by omega) h
     simpa using this
structure Sz (r:GDisk×Int):Prop where
 il:r.1.Inodes.length≤500
 dl:r.1.Durable.length≤500
 pl:r.1.Pending.length≤500
theorem sz_bg {c:Nat} {r:GDisk×Int} (h:Bg c r.1) (hc:c≤500):Sz r:=⟨by have:=h.il;omega,by have:=h.dl;omega,by have:=h.dl;omega⟩
theorem sz_out {c:Nat} {d:GDisk} {r:GDisk×Int} (hb:Bg c d) (h:Out c d r) (hc:c≤400):Sz r:=by
 by_cases h0:r.2=0
 ·exact sz_bg (h.ok h0).2.2 (by omega)
 ·by_cases h19:r.2=19
  ·have e:=(h.lost h19).2
   exact ⟨by rw [e];have:=hb.il;omega,by rw [e];have:=hb.dl;omega,by rw [e];have:=hb.dl;omega⟩
  ·have e:=h.err h0 h19
   exact ⟨by rw [e];simp,by rw [e];simp,by rw [e];simp⟩
theorem sz_thn {r:GDisk×Int} {f:GDisk→GDisk×Int} (h:Sz r) (hf:r.2=0→Sz (f r.1)):Sz (thn r f):=by
 unfold thn
 split
 ·exact h
 ·rename_i e;exact hf (by simpa using e)
theorem sz_svT {c:Nat} {d:GDisk} {t:ByteArray} (h:Bg c d) (hw:Lw d) (hc:c≤150):Sz (svT d t):=by
 unfold svT
 refine sz_thn (sz_out h (out_crt h) (by omega)) fun z2=>?_
 obtain ⟨g2,w2⟩:=out_next (out_crt h) z2 hw
 refine sz_thn (sz_out g2 (out_app g2) (by omega)) fun z3=>?_
 obtain ⟨g3,w3⟩:=out_next (out_app g2) z3 w2
 refine sz_thn (sz_out g3 (out_syn g3) (by omega)) fun z4=>?_
 obtain ⟨g4,w4⟩:=out_next (out_syn g3) z4 w3
 refine sz_thn (sz_out g4 (out_ren g4 (by rw [mfn_size,mf_size];omega)) (by omega)) fun z5=>?_
 obtain ⟨g5,w5⟩:=out_next (out_ren g4 (by rw [mfn_size,mf_size];omega)) z5 w4
 exact sz_out g5 (out_sd g5 (by omega)) (by omega)
theorem sz_svF {c:Nat} {d:GDisk} {t:ByteArray} (h:Bg c d) (hw:Lw d) (hc:c≤140):Sz (svF d t):=by
 unfold svF
 split
 ·refine sz_thn (sz_out h (out_rem h (by rw [mfn_size];omega)) (by omega)) fun z1=>?_
  obtain ⟨g1,w1⟩:=out_next (out_rem h (by rw [mfn_size];omega)) z1 hw
  exact sz_svT g1 w1 (by omega)
 ·exact sz_svT h hw (by omega)
theorem same_r {r:GDisk×Int} (n:Nat) (h:Sz r) (hn:600≤n):r22_Same n r.1 r.1=some true:=by
 obtain ⟨m,rfl⟩:∃m,n=m+1:=⟨n-1,by omega⟩
 have h1:=h.il;have h2:=h.dl;have h3:=h.pl
 simp only [r22_Same,bne,beq_self_eq_true,Bool.not_true,cond_false]
 exact same_l0 m r.1 (by omega) (by omega) (by omega) (by omega) (by omega) r.1.Inodes.length 0 m (by omega) (by omega)
theorem has_l0 (n:Nat) (l:List ByteArray) (s:ByteArray) (hl:l.length≤1000000000):∀(k i f:Nat),i+k=l.length→k<f→r24_Has_l0 n l s f (i:Int)=some (decide (s∈l.drop i))
 | k,i,0,_,h=>by omega
 | 0,i,f+1,h,_=>by
  unfold r24_Has_l0
  rw [bzn (by omega),List.drop_eq_nil_of_le (by omega),decide_eq_false (by simp)]
 | k+1,i,f+1,h,h2=>by
  have ih:=has_l0 n l s hl k (i+1) f (by omega) (by omega)
  rw [getD_drop (d:=bE) (show i<l.length by omega)]
  unfold r24_Has_l0
  rw [bz (by omega),btt (by rw [decide_eq_true (by omega),decide_eq_true (by omega)];rfl),toNat_c,wr1 i (by omega),ih,sEq_eq]
  by_cases hs:l.getD i bE=s
  ·rw [bz hs,decide_eq_true (by rw [hs];simp)]
  ·rw [bzn hs]
   congr 1
   rw [decide_eq_decide]
   exact ⟨fun h=>List.mem_cons_of_mem _ h,fun h=>(List.mem_cons.1 h).resolve_left (fun e=>hs e.symm)⟩
theorem has_eq (n:Nat) (l:List ByteArray) (s:ByteArray) (hl:l.length≤1000000000) (hn:l.length+3≤n):r24_Has n l s=some (decide (s∈l)):=by
 obtain ⟨k,rfl⟩:∃k,n=k+1:=⟨n-1,by omega⟩
 have:=has_l0 k l s hl l.length 0 k (by omega) (by omega)
 rw [List.drop_zero] at this
 exact this
def opF (i:Nat) (d:GDisk) (t:ByteArray):GDisk×Int:=match i with
 | 0=>if mfnB∈lsF d then remF d mfnB else (d,0)
 | 1=>crtF d mfnB
 | 2=>appF d mfnB t
 | 3=>synF d mfnB
 | 4=>renF d mfnB mfB
 | _=>sdF d
theorem operation_eq (n i:Nat) (d:GDisk) (t:ByteArray) (hi:i<6) (h:Bg 150 d) (hw:Lw d) (ht:t.size≤1000000000) (hn:5000≤n):r24_operation n (i:Int) d t=some (opF i d t):=by
 obtain ⟨m,rfl⟩:∃m,n=m+1:=⟨n-1,by omega⟩
 have hb:=h.bd (by omega)
 have hil:=h.dl
 unfold r24_operation
 simp only
 match i,hi with
 | 0,_=>
  have hll:=ls_len (d:=d) (by omega)
  rw [btt (by rfl),list_r m 200 d hb (by omega),Option.bind_some,show (⟨#[77,65,78,73,70,69,83,84,46,110,101,119]⟩:ByteArray)=mfnB from rfl,has_eq m _ mfnB (by omega) (by omega),Option.bind_some]
  simp only [opF]
  by_cases hm:mfnB∈lsF d
  ·rw [decide_eq_true hm,if_pos hm,remove_r m 200 d mfnB hb hw (by omega)];rfl
  ·rw [decide_eq_false hm,if_neg hm];rfl
 | 1,_=>
  rw [bff (by rfl),btt (by rfl),show (⟨#[77,65,78,73,70,69,83,84,46,110,101,119]⟩:ByteArray)=mfnB from rfl,create_r m 200 d mfnB hb hw (by omega) (by rw [mfn_size];omega) (by rw [mfn_size];omega)];rfl
 | 2,_=>
  rw [bff (by rfl),bff (by rfl),btt (by rfl),show (⟨#[77,65,78,73,70,69,83,84,46,110,101,119]⟩:ByteArray)=mfnB from rfl,append_r m 200 d mfnB t hb hw (by omega) ht];rfl
 | 3,_=>
  rw [bff (by rfl),bff (by rfl),bff (by rfl),btt (by rfl),show (⟨#[77,65,78,73,70,69,83,84,46,110,101,119]⟩:ByteArray)=mfnB from rfl,sync_r m 200 d mfnB hb hw (by omega)];rfl
 | 4,_=>
  rw [bff (by rfl),bff (by rfl),bff (by rfl),bff (by rfl),btt (by rfl),show (⟨#[77,65,78,73,70,69,83,84,46,110,101,119]⟩:ByteArray)=mfnB from rfl,show (⟨#[77,65,78,73,70,69,83,84]⟩:ByteArray)=mfB from rfl,rename_r m 200 d mfnB mfB hb hw (by omega) (by rw [mf_size];omega) (by rw [mf_size];omega)];rfl
 | 5,_=>
  rw [bff (by rfl),bff (by rfl),bff (by rfl),bff (by rfl),bff (by rfl),syncdir_r m 200 d hb hw (by omega)];rfl
theorem op_out {c i:Nat} {d:GDisk} {t:ByteArray} (h:Bg c d) (hw:Lw d) (hc:c≤400):(opF i d t=(d,0))∨Out c d (opF i d t):=by
 unfold opF
 split
 ·split
  ·exact .inr (out_rem h (by rw [mfn_size];omega))
  ·exact .inl rfl
 ·exact .inr (out_crt h)
 ·exact .inr (out_app h)
 ·exact .inr (out_syn h)
 ·exact .inr (out_ren h (by rw [mfn_size,mf_size];omega))
 ·exact .inr (out_sd h (by omega))
def rs (t:ByteArray):Nat→Nat→GDisk→GDisk×Int
 | 0,_,d=>(d,0)
 | k+1,i,d=>thn (opF i d t) (fun d1=>rs t k (i+1) d1)
theorem rsave_l0 (n:Nat) (t:ByteArray×Int) (ht:t.1.size≤1000000000) (hn:5000≤n):∀(k i f c:Nat) (d:GDisk),i+k=6→k<f→Bg c d→Lw d→c+k≤140 →
  r24_Save_l0 n t f d.Inodes d.Durable d.Pending d.Left (i:Int)=some (rs t.1 k i d)
 | k,i,0,_,_,_,h,_,_,_=>by omega
 | 0,i,f+1,c,d,h,_,hb,hw,hc=>by
  unfold r24_Save_l0
  rw [bzn (by omega)];rfl
 | k+1,i,f+1,c,d,h,h2,hb,hw,hc=>by
  unfold r24_Save_l0
  rw [bz (by omega),show (⟨d.Inodes,d.Durable,d.Pending,d.Left⟩:GDisk)=d from rfl,operation_eq n i d t.1 (by omega) (hb.mono (by omega)) hw ht hn,Option.bind_some]
  have ho:=op_out (i:=i) (t:=t.1) hb hw (by omega)
  show _=some (thn (opF i d t.1) _)
  generalize opF i d t.1=r at ho
  unfold thn
  by_cases h19:r.2=19
  ·rw [btt (show (r.2==19)=true by rw [h19];rfl),if_pos (by rw [h19];decide)]
  ·rw [bff (show (r.2==19)=false by rw [beq_eq_false_iff_ne];exact h19)]
   by_cases h0:r.2=0
   ·rw [bff (show (r.2 != 0)=false by rw [h0];rfl),if_neg (fun e=>e h0),wr1 i (by omega)]
    have hnx:Bg (c+1) r.1∧Lw r.1:=by
     rcases ho with e | ho
     ·rw [e];exact ⟨hb.mono (by omega),hw⟩
     ·exact out_next ho h0 hw
    exact rsave_l0 n t ht hn k (i+1) f (c+1) r.1 (by omega) (by omega) hnx.1 hnx.2 (by omega)
   ·rw [btt (show (r.2 != 0)=true by rw [bne_iff_ne];exact h0),if_pos h0]
    rcases ho with e | ho
    ·rw [e] at h0;exact absurd rfl h0
    ·rw [← ho.err h0 h19]
theorem thn_id (r:GDisk×Int):thn r (fun d=>(d,0))=r:=by
 unfold thn
 by_cases h:r.2=0
 ·rw [if_neg (fun e=>e h)];exact Prod.ext rfl h.symm
 ·rw [if_pos h]
theorem rs_tail (t:ByteArray) (d:GDisk):rs t 5 1 d=svT d t:=by
 unfold svT
 show thn (crtF d mfnB) (fun d2=>thn (appF d2 mfnB t) fun d3=>thn (synF d3 mfnB) fun d4=>thn (renF d4 mfnB mfB) fun d5=>thn (sdF d5) fun d6=>(d6,0))=_
 congr 1;funext d2;congr 1;funext d3;congr 1;funext d4;congr 1;funext d5
 exact thn_id _
theorem ls_rd {d:GDisk} (hv:valid d=true) (s:ByteArray):s∈lsF d↔(rdF d s).2=0:=by
 unfold lsF rdF fnd
 rw [hv]
 simp only [cond_true]
 cases hl:lkE s (cur d).1 with
 | none=>
  have:=lkE_none.1 hl
  refine ⟨fun h=>?_,fun h=>by cases h⟩
  obtain ⟨e,he,e1⟩:=List.mem_map.1 h
  exact absurd e1 (this e he)
 | some i=>
  obtain ⟨e,he,e1,_⟩:=lkE_mem hl
  exact ⟨fun _=>rfl,fun _=>List.mem_map.2 ⟨e,he,e1⟩⟩
theorem rs_all (t:ByteArray) (d:GDisk) (hv:valid d=true):rs t 6 0 d=svF d t:=by
 show thn (opF 0 d t) (fun d1=>rs t 5 1 d1)=_
 unfold svF opF
 simp only [rs_tail]
 by_cases hm:mfnB∈lsF d
 ·rw [if_pos hm,if_pos ((ls_rd hv mfnB).1 hm)]
 ·rw [if_neg hm,if_neg (fun e=>hm ((ls_rd hv mfnB).2 e))]
  unfold thn
  rw [if_neg (fun e=>e rfl)]
theorem rsave_eq (n:Nat) (d:GDisk) (m:GMf) (h:Bg 120 d) (hw:Lw d) (hn:40000≤n) (hlg:m.Log.size+601≤n∧m.Log.size≤9223372036854775807) (hf:∀b∈m.Blocks,b.File.size+601≤n∧b.File.size≤9223372036854775807):r24_Save n d m=some (if chk m≠0 then no 1 else if valid d=false then no 1 else svF d (sealed (ofL (txt m)))):=by
 obtain ⟨k,rfl⟩:∃k,n=k+1:=⟨n-1,by omega⟩
 unfold r24_Save
 simp only
 rw [rencode_eq k m (by omega) ⟨by omega,hlg.2⟩ (fun b hb=>⟨by have:=(hf b hb).1;omega,(hf b hb).2⟩),Option.bind_some,refCheck_eq k 200 d (h.bd (by omega)) (by omega),Option.bind_some,encd]
 cases hv:valid d with
 | false=>
  rw [cond_false,btt (by rfl),if_pos rfl]
  split<;>rfl
 | true=>
  rw [cond_true,bff (by rfl),if_neg (show ¬true=false by decide)]
  by_cases hc:chk m=0
  ·have hlen:=txt_len (chk_good hc)
   have hsz:(ofL (txt m)).size=(txt m).length:=ofL_size _
   have hss:=seal_size (ofL (txt m))
   rw [if_neg (show ¬chk m≠0 from fun e=>e hc),if_neg (show ¬chk m≠0 from fun e=>e hc)]
   simp only
   rw [bff (show ((0:Int) != 0)=false from rfl)]
   have:=rsave_l0 k (sealed (ofL (txt m)),0) (by show (sealed (ofL (txt m))).size≤_;omega) (by omega) 6 0 k 120 d rfl (by omega) h hw (by omega)
   rw [rs_all _ d hv] at this
   exact this
  ·rw [if_pos (show chk m≠0 from hc),if_pos (show chk m≠0 from hc)];rfl
theorem load_both (n:Nat) (d:GDisk) (hb:Bd 200 d) (hd:∀x∈d.Inodes,x.Data.size≤20000) (hn:210000≤n):∃r,mf_Load n d=some r∧r24_Load n d=some r∧r.1.Blocks.length≤1000:=by
 obtain ⟨k,rfl⟩:∃k,n=k+1:=⟨n-1,by omega⟩
 unfold mf_Load r24_Load
 simp only
 rw [show (⟨#[77,65,78,73,70,69,83,84]⟩:ByteArray)=mfB from rfl,read_d k 200 d mfB hb (by omega),read_r k 200 d mfB hb (by omega),Option.bind_some]
 have hs:(rdF d mfB).1.size≤20000:=by
  unfold rdF
  cases hf:((fnd d mfB).2==0) with
  | false=>exact Nat.zero_le _
  | true=>
   rw [cond_true]
   simp only [List.getD]
   cases hi:d.Inodes[(fnd d mfB).1.toNat]? with
   | none=>exact Nat.zero_le _
   | some x=>exact hd x (List.mem_of_getElem? hi)
 generalize rdF d mfB=q at hs
 by_cases h0:q.2=0
 ·rw [bff (show (q.2 != 0)=false by rw [h0];rfl),Option.bind_some,bff (show (q.2 != 0)=false by rw [h0];rfl)]
  obtain ⟨r,d1,d2,d3,d4⟩:=decode_both k q.1 (by omega) (by omega)
  rw [d1,d2,Option.bind_some]
  refine ⟨r,rfl,rfl,?_⟩
  by_cases hr:r.2=0
  ·exact good_len (d3 hr).1
  ·rw [d4 hr];exact zM_len
 ·rw [btt (show (q.2 != 0)=true by rw [bne_iff_ne];exact h0),Option.bind_some,btt (show (q.2 != 0)=true by rw [bne_iff_ne];exact h0)]
  exact ⟨_,rfl,rfl,zM_len⟩
theorem rg_l2 (n:Nat) (nm l:List ByteArray) (hnm:nm.length+10≤n) (hn2:nm.length≤1000000000) (hl:l.length≤1000000):∀(k i f:Nat) (acc:List ByteArray),i+k=l.length→k<f→acc.length≤i→r24_Garbage_l2 n nm l f acc (i:Int)=some (acc++(l.drop i).filter fun s=>!decide (s∈nm))
 | k,i,0,_,_,h,_=>by omega
 | 0,i,f+1,acc,h,_,_=>by
  unfold r24_Garbage_l2
  rw [bzn (by omega),List.drop_eq_nil_of_le (by omega)];simp
 | k+1,i,f+1,acc,h,h2,h3=>by
  rw [getD_drop (d:=bE) (show i<l.length by omega)]
  obtain ⟨x,hx⟩:∃x,l.getD i bE=x:=⟨_,rfl⟩
  unfold r24_Garbage_l2
  rw [bz (by omega),btt (by rw [decide_eq_true (by omega),decide_eq_true (by omega)];rfl),toNat_c,hx,has_eq n nm x hn2 (by omega),Option.bind_some]
  by_cases hs:x∈nm
  ·rw [decide_eq_true hs]
   simp only [Bool.not_true,cond_false]
   unfold r24_Garbage_s3
   rw [wr1 i (by omega)]
   simp only
   rw [rg_l2 n nm l hnm hn2 hl k (i+1) f acc (by omega) (by omega) (by omega),List.filter_cons,decide_eq_true hs];rfl
  ·rw [decide_eq_false hs]
   simp only [Bool.not_false,cond_true]
   rw [btt (by rw [decide_eq_true (by omega),decide_eq_true (by omega)];rfl),app_ok (n:=acc.length) (b:=16) (by omega) (by omega),cond_true]
   unfold r24_Garbage_s3
   rw [wr1 i (by omega)]
   simp only
   rw [rg_l2 n nm l hnm hn2 hl k (i+1) f (acc++[x]) (by omega) (by omega) (by simp;omega),List.filter_cons,decide_eq_false hs]
   simp
theorem rg_l0 (n:Nat) (d:GDisk) (m:GMf) (hb:Bd 200 d) (hn:5000≤n) (hm:m.Blocks.length≤12):∀(k i f:Nat) (acc:List ByteArray),i+k=m.Blocks.length→k<f→acc.length≤i+2→r24_Garbage_l0 n d m f acc (i:Int)=some ((lsF d).filter fun s=>!decide (s∈acc++(m.Blocks.drop i).map (·.File)))
 | k,i,0,_,_,h,_=>by omega
 | 0,i,f+1,acc,h,_,h3=>by
  have hdl:=hb.dl
  have hll:=ls_len (d:=d) (by omega)
  unfold r24_Garbage_l0
  rw [bzn (by omega),List.drop_eq_nil_of_le (by omega),List.map_nil,List.append_nil]
  unfold r24_Garbage_s1
  rw [list_r n 200 d hb (by omega),Option.bind_some]
  refine (rg_l2 n acc (lsF d) (by omega) (by omega) (by omega) (lsF d).length 0 n [] (by omega) (by omega) (by simp)).trans ?_
  simp
 | k+1,i,f+1,acc,h,h2,h3=>by
  rw [getD_drop (d:=dGBR) (show i<m.Blocks.length by omega)]
  obtain ⟨x,hx⟩:∃x,m.Blocks.getD i dGBR=x:=⟨_,rfl⟩
  unfold r24_Garbage_l0
  rw [bz (by omega),btt (by rw [decide_eq_true (by omega),decide_eq_true (by omega)];rfl),toNat_c,hx,app_ok (n:=acc.length) (b:=16) (by omega) (by omega),cond_true,wr1 i (by omega),rg_l0 n d m hb hn hm k (i+1) f (acc++[x.File]) (by omega) (by omega) (by simp;omega)]
  simp
theorem nmd_mem (m:GMf) (s:ByteArray):nmd m s=decide (s∈[mfB,m.Log]++m.Blocks.map (·.File)):=by
 unfold nmd
 rw [Bool.eq_iff_iff]
 simp only [Bool.or_eq_true,decide_eq_true_eq,List.any_eq_true,List.mem_append,List.mem_cons,List.not_mem_nil,or_false,List.mem_map]
 constructor
 ·rintro (h | h | ⟨b,h1,h2⟩)
  ·exact .inl (.inl h)
  ·exact .inl (.inr h)
  ·exact .inr ⟨b,h1,h2⟩
 ·rintro ((h | h) | ⟨b,h1,h2⟩)
  ·exact .inl h
  ·exact .inr (.inl h)
  ·exact .inr (.inr ⟨b,h1,h2⟩)
theorem garbage_r (n:Nat) (d:GDisk) (m:GMf) (hb:Bd 200 d) (hn:6000≤n) (hm:m.Blocks.length≤12) (hlg:m.Log.size+501≤n∧m.Log.size≤9223372036854775807) (hf:∀b∈m.Blocks,b.File.size+501≤n∧b.File.size≤9223372036854775807):r24_Garbage n d m=some (if chk m≠0 then [] else kpt m (lsF d)):=by
 obtain ⟨k,rfl⟩:∃k,n=k+1:=⟨n-1,by omega⟩
 unfold r24_Garbage
 simp only
 rw [refCheck_eq k 200 d hb (by omega),Option.bind_some]
 cases hv:valid d with
 | false=>
  have:lsF d=[]:=by unfold lsF;rw [hv];rfl
  rw [cond_false,btt (by rfl),this]
  split<;>rfl
 | true=>
  rw [cond_true,bff (by rfl),rcheck_eq k m (by omega) ⟨by omega,hlg.2⟩ (fun b hb=>⟨by have:=(hf b hb).1;omega,(hf b hb).2⟩),Option.bind_some]
  by_cases hc:chk m=0
  ·rw [bff (by rw [hc];rfl),if_neg (fun e=>e hc),show (⟨#[77,65,78,73,70,69,83,84]⟩:ByteArray)=mfB from rfl]
   refine (rg_l0 k d m hb (by omega) hm m.Blocks.length 0 k [mfB,m.Log] (by omega) (by omega) (by simp)).trans ?_
   congr 1
   unfold kpt
   rw [List.drop_zero]
   exact List.filter_congr fun s _=>by rw [nmd_mem]
  ·rw [btt (by rw [bne_iff_ne];exact hc),if_pos hc]
theorem eqL_l0 (n:Nat) (a:List ByteArray) (ha:a.length≤1000000000):∀(k i f:Nat),i+k=a.length→k<f→sl_Equal_l0 n a a f (a.length:Int) (i:Int)=some true
 | k,i,0,_,h=>by omega
 | 0,i,f+1,h,_=>by
  unfold sl_Equal_l0
  rw [bzn (by omega)]
 | k+1,i,f+1,h,h2=>by
  unfold sl_Equal_l0
  have hg:(decide ((0:Int)≤(i:Int))&&decide ((i:Int)<(a.length:Int)))=true:=by rw [decide_eq_true (by omega),decide_eq_true (by omega)];rfl
  rw [bz (by omega),btt hg,btt hg,sNe_eq,decide_eq_true rfl,wr1 i (by omega),eqL_l0 n a ha k (i+1) f (by omega) (by omega)];rfl
theorem eqL (n:Nat) (a:List ByteArray) (ha:a.length≤1000000000) (hn:a.length+3≤n):sl_Equal n a a=some true:=by
 obtain ⟨k,rfl⟩:∃k,n=k+1:=⟨n-1,by omega⟩
 unfold sl_Equal
 simp only
 rw [bff (by simp),]
 exact eqL_l0 k a ha a.length 0 k (by omega) (by omega)
theorem g24 (n:Nat) (m:GMf) (hn:1≤n):∃b,r24_Great n m=some b∧(b=false→m.Blocks.length≤12):=by
 obtain ⟨k,rfl⟩:∃k,n=k+1:=⟨n-1,by omega⟩
 unfold r24_Great
 simp only
 by_cases h:(m.Blocks.length:Int)>12
 ·rw [bz h];exact ⟨true,rfl,fun e=>by cases e⟩
 ·rw [bzn h];exact ⟨_,rfl,fun _=>by omega⟩
theorem save_law (x0:GDisk) (x1:GMf) (h0:wfGDisk x0) (h1:wfGMf x1):∃n,lookoutlaw24_ManifestSave n x0 x1=some true:=by
 obtain ⟨B,hB⟩:=files_bound x1.Blocks
 have hlg:x1.Log.size≤9223372036854775807:=h1.2.2.2.1
 have hfs:∀b∈x1.Blocks,b.File.size≤9223372036854775807:=fun b hb=>(h1.2.2.2.2.1.2 b hb).2.2.1
 refine ⟨B+x1.Log.size+300000+1,?_⟩
 have hg1:∀b∈x1.Blocks,b.File.size+601≤B+x1.Log.size+300000∧b.File.size≤9223372036854775807:=fun b hb=>⟨by have:=hB b hb;omega,hfs b hb⟩
 have hlg1:x1.Log.size+601≤B+x1.Log.size+300000∧x1.Log.size≤9223372036854775807:=⟨by omega,hlg⟩
 have hN0:300000≤B+x1.Log.size+300000:=by omega
 generalize B+x1.Log.size+300000=N at hg1 hlg1 hN0
 have aw:=awake_eq N (by omega)
 have hw:=lw_of h0
 obtain ⟨g1,e1,hm⟩:=g24 N x1 (by omega)
 obtain ⟨g3,e3,hg3⟩:=great_all N x0 (by omega)
 unfold lookoutlaw24_ManifestSave
 simp only
 rw [e1,Option.bind_some]
 cases g1 with
 | true=>rw [cond_true,aw];rfl
 | false=>
  rw [cond_false,e3,Option.bind_some]
  cases g3 with
  | true=>rw [cond_true,aw];rfl
  | false=>
   obtain ⟨b1,b2,b3,b4⟩:=hg3 rfl
   have hm:=hm rfl
   have hdat:=great_data N x0 e3
   have hbg:Bg 80 x0:=⟨b1.dn,b1.pn,by omega,by omega⟩
   rw [cond_false,save_eq N x0 x1 (hbg.mono (by omega)) hw (by omega),rsave_eq N x0 x1 (hbg.mono (by omega)) hw (by omega) hlg1 hg1,Option.bind_some,Option.bind_some]
   obtain ⟨r,l1,l2,l3⟩:=load_both N x0 b1 hdat (by omega)
   rw [l1,l2,Option.bind_some,Option.bind_some]
   have hsz:Sz (if chk x1≠0 then no 1 else if valid x0=false then no 1 else svF x0 (sealed (ofL (txt x1)))):=by
    split
    ·exact ⟨by simp [no],by simp [no],by simp [no]⟩
    ·split
     ·exact ⟨by simp [no],by simp [no],by simp [no]⟩
     ·exact sz_svF hbg hw (by omega)
   generalize (if chk x1≠0 then no 1 else if valid x0=false then no 1 else svF x0 (sealed (ofL (txt x1))))=q at hsz
   rw [same_r N hsz (by omega),Option.bind_some,cond_true,btt (by exact beq_self_eq_true q.2),same_eq N r.1 l3 (by omega),Option.bind_some,cond_true,btt (by exact beq_self_eq_true r.2)]
   rw [garbage_p N 200 x0 x1 b1 (by omega) hm,garbage_r N x0 x1 b1 (by omega) hm ⟨by omega,hlg1.2⟩ (fun b hb=>⟨by have:=(hg1 b hb).1;omega,(hg1 b hb).2⟩),Option.bind_some,Option.bind_some]
   have hgl:(if chk x1≠0 then ([]:List ByteArray) else kpt x1 (lsF x0)).length≤1000:=by
    split
    ·simp
    ·have:=kpt_le x1 (lsF x0);have:=ls_len (d:=x0) (by omega);omega
   rw [eqL N _ (by omega) (by omega),Option.bind_some,cond_true,aw]
   rfl
end Go.Proofs.YtomalcfghdaghaaGreatDoor
