/- The machine's program is the given one: what is handed to it from outside is true. -/
import Derived.Test.YtomalcfghdaghaaGreatDoorPg
import Derived.Test.YtomalcfghdaghaaGreatDoorLib0
import Derived.Test.YtomalcfghdaghaaGreatDoorExtQ
import Derived.Test.YtomalcfghdaghaaGreatDoorLaid
import Derived.Test.YtomalcfghdaghaaGreatDoorBld
import Derived.Test.YtomalcfghdaghaaGreatDoorBldS
import Derived.Test.YtomalcfghdaghaaGreatDoorAmW
set_option linter.unusedVariables false
set_option linter.unusedSimpArgs false
set_option maxRecDepth 100000
namespace Go.Proofs.YtomalcfghdaghaaGreatDoor
open Go Go.AM Go.RowKit Go.Shelf
theorem u16 {x:Int} (h:wfInt .u16 x):0≤x∧x<65536:=by
 unfold wfInt Lit.wf at h
 simp [Go.IntKind.min,Go.IntKind.max,IntKind.bits,IntKind.signed] at h
 omega
theorem u8 {x:Int} (h:wfInt .u8 x):0≤x∧x<256:=by
 unfold wfInt Lit.wf at h
 simp [Go.IntKind.min,Go.IntKind.max,IntKind.bits,IntKind.signed] at h
 omega
theorem strOk (h':AM.Hint) (h1:h'.bs.all (fun p=>decide (p=(85,126,5)))=true) (h2:h'.bl.all (fun p=>false)=true):StrOk h' extRel:=by
 have key:∀(l:List (Nat×Nat×Nat)) (q:Nat×Nat×Nat),l.all (fun p=>decide (p=q))=true→∀g T e,bsOf l g=some (T,e)→(g,T,e)=q:=by
  intro l q hl
  induction l with
  | nil=>intro g T e h;cases h
  | cons p l ih=>
   intro g T e h
   simp only [List.all_cons,Bool.and_eq_true,decide_eq_true_eq] at hl
   obtain ⟨a,b,c⟩:=p
   unfold bsOf at h
   cases hg:Nat.beq a g with
   | true=>
    rw [hg] at h
    simp only [cond_true,Option.some.injEq,Prod.mk.injEq] at h
    rw [← hl.1,← h.1,← h.2,Nat.eq_of_beq_eq_true hg]
   | false=>rw [hg] at h;exact ih hl.2 g T e h
 refine ⟨fun g T e h H id b hH hb=>?_,fun g T e h H id b hH=>?_⟩
 ·have:=key _ _ h1 g T e h
  cases this
  exact .inr (.inr (.inr (.inl ⟨rfl,id,b,rfl,hH,hb,rfl,rfl⟩)))
 ·cases hl:h'.bl with
  | nil=>rw [hl] at h;cases h
  | cons p l=>rw [hl] at h2;cases h2
theorem lkN_all {α:Type} {p:α→Bool}:∀{l:List (Nat×α)},l.all (fun x=>p x.2)=true→∀{f:Nat} {a:α},lkN f l=some a→p a=true
 | [],_,f,a,h=>by cases h
 | (g,x)::l,hl,f,a,h=>by
  simp only [List.all_cons,Bool.and_eq_true] at hl
  unfold lkN at h
  cases hg:Nat.beq g f with
  | true=>rw [hg] at h;cases h;exact hl.1
  | false=>rw [hg] at h;exact lkN_all hl.2 h
def hintFine (x:AM.Hint×Keep):Bool:=x.1.bs.all (fun p=>decide (p=(85,126,5)))&&x.1.bl.all (fun p=>false)
theorem funOf_hint {F:Func} {h:AM.Hint} {kp:Keep} {fn:Fun} (e:funOf F h kp=some fn):fn.hint=h:=by
 unfold funOf at e
 split at e<;>cases e
 rfl
theorem gOk (W : World) (hT : Go.Lib.TabIs Tryz.prog W "internal/strconv.uint64pow10" .u64 Go.Lib.pow10Tab) (hm : ∃ m, W.cell? ⟨3, 0, none⟩ = some (.int .i64 m)) (h15 : ∃ ev, W.cell? ⟨4, 0, none⟩ = some ev ∧ (ev = .nilIface ∨ ∃ te pe, ev = .iface te pe)) (h16 : ∃ ev, W.cell? ⟨5, 0, none⟩ = some ev ∧ (ev = .nilIface ∨ ∃ te pe, ev = .iface te pe)) (hm2 : ∃ m, W.cell? ⟨3, 0, none⟩ = some (.int .i64 m)) : @ProgOk (wholeV W) Tryz.checked.prog G := by
 letI:Vars:=wholeV W
 refine ⟨tOk,fun f fn h=>?_,fun f args H r H' h=>?_,fun f args H r H' h=>?_,Checked.mixed _,of_decide_eq_true (by kernel_rfl),fun f fn h=>?_,fun i h kp hr=>?_⟩
 ·have h:fnOf f=some fn:=h
  unfold fnOf at h
  split at h
  ·split at h
   ·rename_i F hF
    cases hn : F.name == "runtime.NumGoroutine" with
    | true=>rw [hn] at h;cases h
    | false=>rw [hn] at h;exact funOf_ok hF hn h
   ·cases h
  ·cases h
 ·rcases h with h | ⟨rfl,h⟩ | ⟨rfl,h⟩ | ⟨rfl,h⟩ | ⟨rfl,h⟩ | ⟨rfl,h⟩ | ⟨rfl,h⟩ | ⟨rfl,h⟩
  ·exact ext_sound f args H r H' h
  ·exact sound_write Tryz.bld166 Tryz.bldX args H r H' h
  ·exact sound_byte Tryz.bld167 Tryz.bldX args H r H' h
  ·exact sound_string Tryz.bld169 Tryz.bldX args H r H' h
  ·exact sound_itoa W Tryz.lay171 hT args H r H' h
  ·exact sound_atoi W Tryz.lay172 h15 h16 args H r H' h
  ·exact sound_cut W Tryz.lay145 hm args H r H' h
  ·exact sound_split W Tryz.lay146 (by kernel_rfl) hm2 args H r H' h
 ·rcases h with h | ⟨rfl,h⟩ | ⟨rfl,h⟩ | ⟨rfl,h⟩ | ⟨rfl,h⟩ | ⟨rfl,h⟩ | ⟨rfl,h⟩ | ⟨rfl,h⟩
  ·obtain ⟨rfl,_⟩:=h
   exact ⟨_,Tryz.func50,by kernel_rfl,by kernel_rfl⟩
  ·exact ⟨_,Tryz.func129,by kernel_rfl,by kernel_rfl⟩
  ·exact ⟨_,Tryz.func130,by kernel_rfl,by kernel_rfl⟩
  ·exact ⟨_,Tryz.func85,by kernel_rfl,by kernel_rfl⟩
  ·exact ⟨_,Tryz.func38,by kernel_rfl,by kernel_rfl⟩
  ·exact ⟨_,Tryz.func166,by kernel_rfl,by kernel_rfl⟩
  ·exact ⟨_,Tryz.func164,by kernel_rfl,by kernel_rfl⟩
  ·exact ⟨_,Tryz.func165,by kernel_rfl,by kernel_rfl⟩
 ·have h:fnOf f=some fn:=h
  unfold fnOf at h
  split at h
  ·rename_i hh kp hl
   split at h
   ·rename_i F hF
    cases hn : F.name == "runtime.NumGoroutine" with
    | true=>rw [hn] at h;cases h
    | false=>
     rw [hn] at h
     have e:=funOf_hint h
     have:=lkN_all (p:=hintFine) (by kernel_rfl) hl
     simp only [hintFine,Bool.and_eq_true] at this
     rw [e];exact strOk _ this.1 this.2
   ·cases h
  ·cases h
 ·have:=lkN_all (p:=hintFine) (by kernel_rfl) (show lkN i rndTab=some (h,kp) from hr)
  simp only [hintFine,Bool.and_eq_true] at this
  exact strOk _ this.1 this.2
end Go.Proofs.YtomalcfghdaghaaGreatDoor
