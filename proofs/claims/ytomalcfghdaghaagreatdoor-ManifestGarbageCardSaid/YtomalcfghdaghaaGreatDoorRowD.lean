/- Out of what a row lists (and the world's shape) to what the machine's externals ask of the world. -/
import Derived.Test.YtomalcfghdaghaaGreatDoorRows
import Derived.Test.YtomalcfghdaghaaGreatDoorExtD
import Derived.ProofKit
import Derived.SizedLaws
import Derived.Lay
import Derived.MakeChecks
import Derived.Shelf.Vars
import Derived.Lib.LaidTab
set_option linter.unusedVariables false
set_option maxRecDepth 100000
namespace Go.Proofs.YtomalcfghdaghaaGreatDoor
open Go Go.AM
theorem handed_laid {H:Type} {enc:TypeId×Value→H} {a:Assume} {C:Checked} {os:Os} {f:FuncId} {fn:Func} {s:ChangeSpec} {conds:List PathCond} {apart fresh handsOn again:Bool} {X:World→Array Value→Prop}
  (hX:∀(w w':World) (args:Array Value),w.heap=w'.heap→X w args→X w' args)
  (own:ownKnob C.prog.godebug=none) (started:os.Started) (noInit:C.prog.inits.idxOf? f=none) (hfn:C.prog.funcs[f]?=some fn)
  (witness:∃(w:World) (tape:Tape) (i:Input),w.os=os∧(w.forCall tape i).Shaped C.prog∧i.vars=[]∧Input.okWide C.prog (w.forCall tape i) .any w.heap.size f i ∧
   ((s.pre enc C.prog fn conds apart (w.forCall tape i).memory i.args∧X (w.forCall tape i).memory i.args)∧sizedMet enc C.prog fn (OpenSpec.ofChange s) apart (w.forCall tape i).memory i.args)∧a.holds C.prog (lone (Frame.enter C.prog f i.args .normal) [] (w.forCall tape i)))
  (contract:∀(W:World) (base:Nat) (args:Array Value) (ds gs:List (DataW H)) (before:List MemPlace),
   (∀(j:Nat) t v,fn.params[j]?=some t→args[j]?=some v→Value.okWide C.prog W .any base t v) →
   DataW.Whole enc C.prog fn.params.toList s.vars apart W args.toList ds gs before →
   X W args→W.ShapedOpen C.prog →
   Calls C.prog f args W fun e W'=>∃v,e=.returned v∧s.post enc C.prog fn apart fresh handsOn again W args v W') :
  ReturnsInHanded a C os f .any (fun w args=>(s.pre enc C.prog fn conds apart w args∧X w args)∧sizedMet enc C.prog fn (OpenSpec.ofChange s) apart w args) (s.post enc C.prog fn apart fresh handsOn again):=by
 refine returnsInHanded_of_calls own started noInit witness ?_
 intro w tape i _ hsh _ hok hpre hholds
 obtain ⟨_,_,_,fn',hfn',_,_,_,_,hval⟩:=hok
 have e:fn'=fn:=Option.some.inj (hfn'.symm.trans hfn)
 subst e
 obtain ⟨⟨⟨ds,gs,before,hw,hc⟩,hx⟩,hz⟩:=hpre
 have hw':=DataW.Whole.of_heap (w':=w.forCall tape i) (by rfl) hw
 refine (contract (w.forCall tape i) w.heap.size i.args ds gs before hval hw' (hX _ _ _ (by rfl) hx) hsh).mono fun e W' ⟨v,he,hp⟩=>?_
 subst he
 exact ChangeSpec.post_blind hp
theorem laid_reads {P:Program} {w:World}:∀{l:List (String×DataW Unit)} {ps:List MemPlace},DataW.LaidVars P w l ps→∀n d,(n,d)∈l→∃ps,DataW.LaidVars P w [(n,d)] ps
 | [],_,_,_,_,hm=>by cases hm
 | (n',d')::r,ps,h,n,d,hm=>by
  obtain ⟨g,t,cs,fuel,p,q,h1,h2,h3,h4,h5,_⟩:=h
  rcases List.mem_cons.1 hm with e | e
  ·cases e
   exact ⟨_,g,t,cs,fuel,p,[],h1,h2,h3,h4,rfl,rfl⟩
  ·exact laid_reads h5 n d e
theorem err_cell {P:Program} {w:World} {n nm:String} {d:DataW Unit} {ps:List MemPlace} {g:Nat} {ti:TypeId} {ms:Array (String×TypeId)} (h:DataW.LaidVars P w [(n,.iface nm d)] ps) (hg:P.globalNamed n=some g) (ht:(P.globals[g]?).map (·.type)=some ti) (hi:P.underlying ti=some (.interface ms)) :
  ∃ev,w.cell? ⟨g,0,none⟩=some ev∧(ev=.nilIface∨∃te pe,ev=.iface te pe):=by
 obtain ⟨g',t',cs,fuel,p,q,hg',ht',hv,hd,_,_⟩:=h
 obtain rfl:=Option.some.inj (hg.symm.trans hg')
 obtain rfl:=Option.some.inj (ht.symm.trans ht')
 obtain ⟨fu,u,v,hcs,_,_⟩:=iface_of_trod hi hd
 refine ⟨_,?_,.inr ⟨u,v,rfl⟩⟩
 have:=World.var?_cell hg hv 0
 rw [this]
 have e:cs[0]?=cs.toList[0]?:=by simp
 rw [e,hcs];rfl
theorem tab_laid:(Rows.laid_internal_strconv_uint64pow10:DataW Unit)=Go.Lib.tabData .u64 Go.Lib.pow10Tab:=by kernel_rfl
theorem gRow {l:List (String×DataW Unit)} {W:World} (hl:l=Rows.manifestRefRow.laid) (h:laidMetH Tryz.checked.prog l W) (hsh:W.ShapedOpen Tryz.checked.prog):@ProgOk (wholeV W) Tryz.checked.prog G:=by
 subst hl
 have h:laidMetH Tryz.prog Rows.manifestRefRow.laid W:=h
 rw [MakeChecks.laidMetH_plain _ _ _ (by kernel_rfl)] at h
 obtain ⟨ps,hv,hn,hr⟩:=h
 have hT : Go.Lib.TabIs Tryz.prog W "internal/strconv.uint64pow10" .u64 Go.Lib.pow10Tab := by
  obtain ⟨ps', h'⟩ := laid_reads hv "internal/strconv.uint64pow10" Rows.laid_internal_strconv_uint64pow10 (.tail _ (.tail _ (.head _)))
  rw [tab_laid] at h'
  obtain ⟨g,t,cs,fuel,p,q,h1,h2,h3,h4,h5,h6⟩:=h'
  have e0 : Tryz.prog.globalNamed "internal/strconv.uint64pow10" = some 0 := by kernel_rfl
  have hg:g=0:=Option.some.inj (h1.symm.trans e0)
  subst hg
  have ht:t=201:=Option.some.inj (h2.symm.trans (by kernel_rfl))
  subst ht
  unfold Go.Lib.TabIs
  rw [h3,← Go.Lib.cells_of_tab Tryz.underlying201 Tryz.underlying178 (by kernel_rfl) (by kernel_rfl) h4]
 have hm:∃m,W.cell? ⟨3,0,none⟩=some (.int .i64 m):=cell_of_shapedOpen_int hsh (of_decide_eq_true (by kernel_rfl)) (t:=3) (zero:=#[.int .i64 0]) (by kernel_rfl) (by kernel_rfl) (by kernel_rfl) (by kernel_rfl) Tryz.underlying3
 have h2 := (laid_reads hv "strconv.ErrSyntax" _ (.tail _ (.tail _ (.tail _ (.tail _ (.tail _ (.head _))))))).elim fun _ h => err_cell (g := 4) h (by kernel_rfl) (by kernel_rfl) Tryz.underlying152
 have h3 := (laid_reads hv "strconv.ErrRange" _ (.tail _ (.tail _ (.tail _ (.tail _ (.head _)))))).elim fun _ h => err_cell (g := 5) h (by kernel_rfl) (by kernel_rfl) Tryz.underlying152
 exact gOk W hT hm h2 h3 hm
end Go.Proofs.YtomalcfghdaghaaGreatDoor
