/- The contract of slices.Sorted over the keys of a map, as the machine has it. -/
import Derived.Test.YtomalcfghdaghaaGreatDoorPg
import Derived.Test.YtomalcfghdaghaaGreatDoorSp2
import Derived.Test.YtomalcfghdaghaaGreatDoorIter
import Derived.Test.YtomalcfghdaghaaGreatDoorLib0
import Derived.Test.YtomalcfghdaghaaGreatDoorAmW
set_option linter.unusedVariables false
set_option linter.unusedSimpArgs false
set_option maxRecDepth 100000
namespace Go.Proofs.YtomalcfghdaghaaGreatDoor
open Go Go.AM Go.RowKit Go.Maps Go.Sort Go.Shelf
set_option maxHeartbeats 1000000 in
theorem sorted_at {H:Type} (q b nn:Nat) (D0:DataW H) (R:Value→Option (DataW H×List MemPlace)) (W:World) (hq:q<W.heap.size) (hc:W.cell? ⟨q,0,none⟩=some (.map (some b))) (hown:W.ownsMap Tryz.prog 9 R b nn D0) (hmax:Maps.size D0≤maxLen) (hbytes:Maps.size D0*16≤140737488355328) :
  CallsIn Fence.wide 5 Tryz.prog 50 #[.func (.func 94) #[] #[.pointer (some ⟨q,0,none⟩)]] W fun e w'=>∃(v:Value) (ss:List (List UInt8)),e=.returned v∧ss.Perm (strKeys D0) ∧
   w'.ownsRow W.heap.size 9 1 v ss.length ((ss.mergeSort (fun x y=>decide (x≤y))).map encStr)∧(v=.slice none 0 0↔ss=[])∧Below W.heap.size W w':=by
 have hseq:SeqGives Fence.wide 2 Tryz.prog 94 #[.pointer (some ⟨q,0,none⟩)] encStr (fun ss=>ss.Perm (strKeys D0)) (Maps.size D0) W:=
  AnyZ.keys_gives (ρ:=Tryz.keys86_ren) { Tryz.keys86 with } Fence.wide _ trivial rfl (by omega) q b nn D0 _ hq hc hown
 exact AnyZ.sorted_in Tryz.sorted85 Fence.wide 5 trivial trivial trivial trivial rfl (by omega) (Tryz.sorts85 _) (enters_of Tryz.func93 (by kernel_rfl) rfl) 94 #[.pointer (some ⟨q,0,none⟩)] trivial (enters_of Tryz.func94 (by kernel_rfl) rfl) _ _ hmax hbytes _ hseq
theorem perm_insert {H:Type} (x:Lit×DataW H):∀l,(DataW.insert x l).Perm (x::l)
 | []=>List.Perm.refl _
 | y::r=>by
  unfold DataW.insert
  split
  ·exact List.Perm.refl _
  ·exact ((perm_insert x r).cons y).trans (List.Perm.swap x y r)
theorem perm_sorted {H:Type}:∀l:List (Lit×DataW H),(l.foldr DataW.insert []).Perm l
 | []=>List.Perm.refl _
 | x::l=>(perm_insert x _).trans ((perm_sorted l).cons x)
def Rany (v:Value):Option (DataW Unit×List MemPlace):=some (.nil,[])
theorem ky_enc (s:ByteArray):encStr (ky s)=.string s:=by simp [encStr,ky]
theorem map_reads {w:World} {ω:Nat→Nat→Owner} {η:Nat→Nat} {N id:Nat} {L:List (ByteArray×Int)} (h:RepObj w (fun b o=>ω b o=.imm) ω η N id (.map (entL AVal.str (AVal.int .i64) L))) (hs:∀p∈L,p.1.size≤9223372036854775807) (hl:L.length*16≤140737488355328) :
  ∃D0:DataW Unit,w.ownsMap Tryz.prog 9 Rany (η id) L.length D0∧(strKeys D0).Perm (L.map fun p=>ky p.1)∧Maps.size D0=L.length∧(L.map (·.1)).Nodup:=by
 obtain ⟨_,ents,clock,h2,⟨h3,hst⟩,h4⟩:=h
 have hlen:ents.size=L.length:=by rw [h3];simp [entL]
 have hkey:∀(i:Nat) e,ents[i]?=some e→∃p,L[i]?=some p∧e.key=.string p.1:=fun i e he=>by
  have hi:i<L.length:=by rw [← hlen];exact alt_of_some he
  have:=(h4 i (AVal.str L[i].1) (AVal.int .i64 L[i].2) e (by simp [entL,List.getElem?_eq_getElem hi]) he).1
  refine ⟨L[i],List.getElem?_eq_getElem hi,?_⟩
  generalize e.key=q at this
  cases this;rfl
 have hk9:Tryz.prog.underlying 9=some .string:=by kernel_rfl
 have hrd:∀(i:Nat) e p,ents[i]?=some e→L[i]?=some p→WideElems.rd Tryz.prog 9 Rany e=some (.string (ky p.1),.nil):=fun i e p he hp=>by
  obtain ⟨p',hp',hk⟩:=hkey i e he
  rw [hp] at hp';cases hp'
  have hsz:=hs p (List.mem_of_getElem? hp)
  unfold WideElems.rd
  have:keyOf Tryz.prog 9 e.key=some (.string (ky p.1)):=by
   rw [hk];simp only [keyOf,hk9,mapKey]
   rw [if_pos (by unfold maxLen;omega)]
  rw [this];rfl
 have hmap:ents.toList.map (WideElems.rg Tryz.prog 9 Rany)=L.map fun p=>(Lit.string (ky p.1),DataW.nil):=by
  apply List.ext_getElem?;intro i
  simp only [List.getElem?_map,Array.getElem?_toList]
  cases he:ents[i]? with
  | none=>
   have:L[i]?=none:=List.getElem?_eq_none (by rw [← hlen];rw [Array.getElem?_eq_none_iff] at he;exact he)
   rw [this];rfl
  | some e=>
   obtain ⟨p,hp,_⟩:=hkey i e he
   rw [hp]
   simp only [Option.map_some,Option.some.injEq]
   exact WideElems.rg_of (hrd i e p he hp)
 refine ⟨.map ((ents.toList.map (WideElems.rg Tryz.prog 9 Rany)).foldr DataW.insert []),⟨ents,clock,h2,⟨by rw [hlen];unfold maxLen;omega,hst,fun x hx=>?_⟩,by omega,rfl⟩,?_,?_,?_⟩
 ·obtain ⟨i,hi⟩:=List.getElem?_of_mem hx
  have he:ents[i]?=some x:=by simpa using hi
  obtain ⟨p,hp,_⟩:=hkey i x he
  exact ⟨_,hrd i x p he hp⟩
 ·rw [hmap]
  show List.Perm (((L.map fun p=>(Lit.string (ky p.1),DataW.nil)).foldr DataW.insert []).map fun p=>strOf p.1) _
  refine ((perm_sorted _).map _).trans ?_
  rw [List.map_map]
  exact List.Perm.of_eq (List.map_congr_left fun p _=>rfl)
 ·rw [hmap]
  show ((L.map fun p=>(Lit.string (ky p.1),DataW.nil)).foldr DataW.insert []:List (Lit×DataW Unit)).length=_
  rw [(perm_sorted _).length_eq,List.length_map]
 ·have hnd:=hst.2.2
  have:ents.toList.map (·.key)=(L.map (·.1)).map Value.string:=by
   apply List.ext_getElem?;intro i
   simp only [List.getElem?_map,Array.getElem?_toList]
   cases he:ents[i]? with
   | none=>
    have:L[i]?=none:=List.getElem?_eq_none (by rw [← hlen];rw [Array.getElem?_eq_none_iff] at he;exact he)
    rw [this];rfl
   | some e=>
    obtain ⟨p,hp,hk⟩:=hkey i e he
    rw [hp];simp [hk]
  rw [this] at hnd
  exact List.Pairwise.imp (fun hne e=>hne (by rw [e])) (List.pairwise_map.1 hnd)
theorem sorts_alike {L:List (ByteArray×Int)} {ss:List (List UInt8)} (hnd:(L.map (·.1)).Nodup) (hp:ss.Perm (L.map fun p=>ky p.1)):ss.mergeSort (fun x y=>decide (x≤y))=(isort (L.map (·.1))).map ky:=by
 have tr:∀a b c:List UInt8,leB a b=true→leB b c=true→leB a c=true:=fun a b c h1 h2=>by simp only [leB,decide_eq_true_eq] at *;exact List.le_trans h1 h2
 have to:∀a b:List UInt8,(leB a b||leB b a)=true:=fun a b=>by simp only [leB,Bool.or_eq_true,decide_eq_true_eq];exact List.le_total a b
 refine List.Perm.eq_of_pairwise (le:=fun a b=>leB a b=true) (fun a b _ _ h1 h2=>?_) (List.pairwise_mergeSort tr to ss) (List.pairwise_map.2 ((srt_isort _ hnd).imp fun {a b} h=>?_)) ?_
 ·simp only [leB,decide_eq_true_eq] at h1 h2
  exact List.le_antisymm h1 h2
 ·simp only [leB,decide_eq_true_eq];exact List.not_lt.1 (ky_lt_asymm h)
 ·refine (List.mergeSort_perm ss leB).trans (hp.trans ?_)
  have:(L.map fun p=>ky p.1)=(L.map (·.1)).map ky:=by rw [List.map_map];rfl
  rw [this]
  exact ((perm_isort _).map ky).symm
theorem one_elem {a:Array Value} (h:a.size=1):a=#[a[0]]:=by
 apply Array.ext
 ·simp [h]
 ·intro i h1 h2
  have:i=0:=by omega
  subst this;rfl
theorem ext_sound [VR:Vars] (f:FuncId):Sound Tryz.checked.prog f (relSorted f):=by
 rintro args H r H' ⟨rfl,q,id,L,rfl,hq,hid,hl,hs,hout⟩ vals w ω η hpre hargs
 obtain ⟨v,rfl⟩:∃v,vals=#[v]:=⟨_,one_elem (by simpa using hargs.len)⟩
 have hrep:=hargs.rep 0 _ v rfl rfl
 have hv:v=.func (.func 94) #[] #[.pointer (some ⟨η q,0,none⟩)]:=by
  cases hrep with
  | func f cs vs hlen hr=>
   have h1:vs.size=1:=by simpa using hlen.symm
   have h0:=hr 0 (.href q 0) vs[0] rfl (by rw [Array.getElem?_eq_getElem (by omega)])
   rw [one_elem h1]
   generalize vs[0]=z at h0
   cases h0;rfl
 subst hv
 have hQ:=hpre.heap q _ hq
 obtain ⟨hQ1,hQ2⟩:=hQ
 obtain ⟨_,xm,hxm,hxr,_⟩:=hQ2 0 (.map id) rfl
 have hxe:xm=.map (some (η id)):=by cases hxr;rfl
 subst hxe
 have hqb:η q<w.heap.size:=(cell_in hxm).2
 obtain ⟨D0,hown,hperm,hsz,hnd⟩:=map_reads (hpre.heap id _ hid) hs hl
 have hcall:=(callsIn_wide (n:=5)).1 (sorted_at (η q) (η id) L.length D0 Rany w hqb hxm hown (by rw [hsz];unfold maxLen;omega) (by rw [hsz];exact hl))
 refine hcall.mono fun e w' ⟨v,ss,he,hss,hrow,hnil,hb⟩=>?_
 have hsort:=sorts_alike hnd (hss.trans hperm)
 have hlen:ss.length=(isort (L.map (·.1))).length:=by
  have:=congrArg List.length hsort
  rw [List.length_mergeSort,List.length_map] at this;exact this
 have hkeeps:Keeps w ω w':=keeps_below hpre hb
 have hfree:∀b o,w.heap.size≤b→ω b o=.free:=fun b o h=>by
  by_cases e:ω b o=.free
  ·exact e
  ·have:=hpre.live b o e;omega
 have hcell:∀(g:Nat) (cur:Array Value),cur.toList.take (ss.length*1)=(ss.mergeSort (fun x y=>decide (x≤y))).map encStr→∀i,i<ss.length→cur[i]?=some (Value.string ((isort (L.map (·.1))).getD i bE)):=fun (g:Nat) (cur:Array Value) hxs i hi=>by
  rw [← Array.getElem?_toList]
  have h1:(cur.toList.take (ss.length*1))[i]?=cur.toList[i]?:=List.getElem?_take_of_lt (by omega)
  rw [← h1,hxs,hsort,List.map_map,List.getElem?_map]
  have hii:i<(isort (L.map (·.1))).length:=by omega
  rw [List.getElem?_eq_getElem hii]
  simp only [Option.map_some,Function.comp,ky_enc,List.getD,List.getElem?_eq_getElem hii,Option.getD_some]
 rcases hout with ⟨rfl,rfl⟩ | hM
 ·rcases hrow.2 with ⟨rfl,hz⟩ | ⟨g,cap,cur,rfl,hg,hgh,hn,hcap,hcs,hxs⟩
  ·have he0:isort (L.map (·.1))=[]:=List.eq_nil_of_length_eq_zero (by omega)
   refine ⟨_,ω,η,he,pre_grow hpre hb (fun _ _ _=>rfl) (fun b o h=>.inl (hfree b o h)),?_,Nat.le_refl _,fun _ _=>rfl,fun _ _ _=>⟨fun _=>rfl,fun _ h=>h⟩,hkeeps,.of_not rfl⟩
   ·rw [he0]
    exact .slice .shared 1 0 _ none 0 (fun _ _=>undef) (by omega) (by simp) (by simp) (by omega) (by omega) (by omega) (by omega)
  ·have hom:∀b o,b<w.heap.size→(if b=g then (if o<ss.length then Owner.imm else .free) else ω b o)=ω b o:=fun b o h=>if_neg (by omega)
   have hgl:g<w'.heap.size:=(Array.getElem?_eq_some_iff.1 hgh).1
   refine ⟨_,fun b o=>if b=g then (if o<ss.length then .imm else .free) else ω b o,η,he,pre_grow hpre hb hom (fun b o h=>?_),?_,Nat.le_refl _,fun _ _=>rfl,fun b h o=>⟨fun _=>hom b o h,fun id h'=>by rw [← hom b o h];exact h'⟩,hkeeps,.of_not rfl⟩
   ·by_cases hbg:b=g
    ·subst hbg
     by_cases ho:o<ss.length
     ·right;simp [ho,hgl]
     ·left;simp [ho]
    ·rw [if_neg hbg]
     exact .inl (hfree b o h)
   ·unfold encL
    rw [← hlen]
    refine .slice .shared 1 ss.length _ (some ⟨g,0,none⟩) cap (fun i _=>.string ((isort (L.map (·.1))).getD i bE)) hn (by simp) (by simp) (fun h0=>⟨g,0,rfl,fun i hi j hj=>?_⟩) (fun i hi=>rfl) (fun i hi=>⟨rfl,rfl⟩) (fun i hi j c hj=>?_)
    ·have hj0:j=0:=by omega
     subst hj0
     refine ⟨by simp [hi],?_⟩
     have hcur:cur[0+i*1+0]?=some (.string ((isort (L.map (·.1))).getD i bE)):=by
      rw [Nat.zero_add,Nat.mul_one,Nat.add_zero,← Array.getElem?_toList]
      have h1:(cur.toList.take (ss.length*1))[i]?=cur.toList[i]?:=List.getElem?_take_of_lt (by omega)
      rw [← h1,hxs,hsort,List.map_map,List.getElem?_map]
      have hii:i<(isort (L.map (·.1))).length:=by omega
      rw [List.getElem?_eq_getElem hii]
      simp only [Option.map_some,Function.comp,ky_enc,List.getD,List.getElem?_eq_getElem hii,Option.getD_some]
     unfold World.cell?
     rw [hgh]
     exact hcur
    ·cases j with
     | zero=>simp [AVal.cells] at hj;rw [← hj];exact .str _
     | succ j=>simp [AVal.cells] at hj
 ·rcases hrow.2 with ⟨rfl,hz⟩ | ⟨g,cap,cur,rfl,hg,hgh,hn,hcap,hcs,hxs⟩
  ·have he0:isort (L.map (·.1))=[]:=List.eq_nil_of_length_eq_zero (by omega)
   rw [he0] at hM
   obtain ⟨rfl,rfl⟩:r=encL 1 AVal.str bE []∧H'=H:=Prod.mk.inj hM
   refine ⟨_,ω,η,he,pre_grow hpre hb (fun _ _ _=>rfl) (fun b o h=>.inl (hfree b o h)),?_,Nat.le_refl _,fun _ _=>rfl,fun _ _ _=>⟨fun _=>rfl,fun _ h=>h⟩,hkeeps,.of_not rfl⟩
   exact .slice .shared 1 0 _ none 0 (fun _ _=>undef) (by omega) (by simp) (by simp) (by omega) (by omega) (by omega) (by omega)
  ·have hgl:g<w'.heap.size:=(Array.getElem?_eq_some_iff.1 hgh).1
   by_cases hz:ss.length=0
   ·have he0:isort (L.map (·.1))=[]:=List.eq_nil_of_length_eq_zero (by omega)
    rw [he0] at hM
    obtain ⟨rfl,rfl⟩:r=encL 1 AVal.str bE []∧H'=H:=Prod.mk.inj hM
    refine ⟨_,ω,η,he,pre_grow hpre hb (fun _ _ _=>rfl) (fun b o h=>.inl (hfree b o h)),?_,Nat.le_refl _,fun _ _=>rfl,fun _ _ _=>⟨fun _=>rfl,fun _ h=>h⟩,hkeeps,.of_not rfl⟩
    rw [hz]
    exact .slice .shared 1 0 _ _ cap (fun _ _=>undef) (by omega) (by simp) (by simp) (by omega) (by omega) (by omega) (by omega)
   ·have hrow':sortR (isort (L.map (·.1)))=.row (isort (L.map (·.1))):=by
     unfold sortR
     cases hi:isort (L.map (·.1)) with
     | nil=>rw [hi] at hlen;exact absurd hlen hz
     | cons a l=>rfl
    rw [hrow'] at hM
    obtain ⟨rfl,rfl⟩:r=.mslice H.length 0 (isort (L.map (·.1))).length 1 false∧H'=H++[HObj.arr (cellsL AVal.str (isort (L.map (·.1))))]:=Prod.mk.inj hM
    have hcl:(cellsL AVal.str (isort (L.map (·.1)))).length=ss.length:=by rw [cellsL_len okStr];omega
    have hom:∀b o,b<w.heap.size→(if b<w.heap.size then ω b o else if b=g∧o<(cellsL AVal.str (isort (L.map (·.1)))).length then Owner.h H.length else .free)=ω b o:=fun b o h=>if_pos h
    refine ⟨_,fun b o=>if b<w.heap.size then ω b o else if b=g∧o<(cellsL AVal.str (isort (L.map (·.1)))).length then Owner.h H.length else .free,fun id=>if id<H.length then η id else g,he,pre_new _ g hpre hb hg hgl hom (fun b o h=>if_neg (by omega)) (fun o _=>by simp [World.frozen?,hgh]) (fun o c hc=>?_),?_,by simp,fun id hid=>if_pos hid,fun b h o=>⟨fun _=>hom b o h,fun id h'=>by rw [← hom b o h];exact h'⟩,hkeeps,.of_not rfl⟩
    ·have ho:=(List.getElem?_eq_some_iff.1 hc).1
     rw [hcl] at ho
     have:=cellsL_get (d:=bE) okStr (isort (L.map (·.1))) o 0 (by omega) (by omega)
     rw [Nat.mul_one,Nat.add_zero] at this
     rw [this] at hc
     simp only [AVal.cells,List.getElem?_cons_zero,Option.some.injEq] at hc
     subst hc
     refine ⟨rfl,rfl,_,?_,fun _ _ _=>.str _⟩
     unfold World.cell?
     rw [hgh]
     exact hcell g cur hxs o ho
    ·rw [← hlen]
     have:=Rep.mslice (w:=w') (I:=fun b o=>(if b<w.heap.size then ω b o else if b=g∧o<(cellsL AVal.str (isort (L.map (·.1)))).length then Owner.h H.length else .free)=.imm) (η:=fun id=>if id<H.length then η id else g) (N:=(H++[HObj.arr (cellsL AVal.str (isort (L.map (·.1))))]).length) H.length 0 ss.length 1 false cap (by simp) hn (by simp)
     simpa using this
end Go.Proofs.YtomalcfghdaghaaGreatDoor
