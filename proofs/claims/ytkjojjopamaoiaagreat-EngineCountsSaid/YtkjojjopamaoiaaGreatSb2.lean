/- Parts. -/
import Derived.Sort.Grow
import Derived.Test.YtkjojjopamaoiaaGreatSb1
set_option linter.unusedSimpArgs false
set_option linter.unusedVariables false
set_option linter.unusedSectionVars false
set_option maxRecDepth 100000
set_option maxHeartbeats 8000000
open Array renaming size->Array.j,setIfInBounds->Array.b
open ByteArray renaming size->ByteArray.j
open Except renaming ok->Except.Z
open Go renaming World->ak,Addr->aT,Program->eG,Value->aB,Frame->yI,Machine->EI,Calls->aP
open Go.FrameMode renaming run->Go.FrameMode.I
open Go.Result renaming ok->Go.Result.Z
open Go.RowKit.Below renaming size->Go.RowKit.Below.j
open Go.Sem renaming run->Go.Sem.I
open Go.World renaming heap->Go.World.a,setCell->Go.World.F
open Nat renaming le_refl->av,le_trans->aO,le_succ->LP,le_of_eq->aX
namespace Go.Proofs.YtkjojjopamaoiaaGreat
open Go.RowKit
def GM(n:Nat):GStep->Prop
 | .go _ w _=>n<=w.drawn
 | .comm _ _ _ _ w _=>n<=w.drawn
 | .spawn _ _ w _=>n<=w.drawn
 | .count _ w _=>n<=w.drawn
 | .timer _ _ w _=>n<=w.drawn
 | .alone _ _ w _=>n<=w.drawn
 | .newcoro _ _ _ w _=>n<=w.drawn
 | .coroswitch _ _ _ w _=>n<=w.drawn
 | .collect _ w _=>n<=w.drawn
 | .watch _ w _=>n<=w.drawn
 | .ended _ _ _=>True
def SM(n:Nat):Stepped->Prop
 | .next m=>n<=m.world.drawn
 | .ended _ _=>True
def as1{α:Type}:Result α->ak
 | .Z _ w=>w
 | .halt _ w=>w
theorem GM.after{n:Nat}{es:Array Event}{s:GStep}(h:GM n s):GM n (s.after es):=by cases s<;>exact h
theorem aaq(w:ak)(a:aT)(n:Nat):(w.freeze a n).drawn=w.drawn:=by unfold World.freeze;split<;>rfl
theorem aiD{α:Type}(a:Ask α):∀w:ak,w.drawn<=(w.ask a).2.drawn:=by
 induction a with
 | done a=>intro w;exact av _
 | ask what range k ih=>
   intro w;unfold World.ask;simp only;split
   ·exact ih _ w
   ·have:=ih ((Question.extern what range).cut (w.tape w.drawn (Question.extern what range))) {w with drawn:=w.drawn+1}
    exact aO (LP _) this
theorem aiE(w:ak)(c:Sys):w.drawn<=(w.sys c).2.drawn:=by
 have h:=aiD (Kernel.perform c w.os) w;unfold World.sys;split
 ·exact av _
 ·rename_i e;rw[e]at h;exact h
theorem RL{p:eG}{w w':ak}{fI:aT}{u:TypeId}{k:aT}{v:aB}{atomic:Bool}{t:List aT}(h:w.viewStore p fI u k v atomic = .Z (w',t)):w'.drawn=w.drawn:=by
 unfold World.viewStore at h;simp only[bind,Except.bind,pure,Except.pure,throw,throwThe,MonadExceptOf.throw]at h
 repeat' split at h
 all_goals first
  | cases h;done
  | (injection h with h;injection h with h1 h2;rw[<-h1])
theorem UM{p:eG}{w w':ak}{a:aT}{v:aB}{atomic:Bool}{t:List aT}(h:w.farStore p a v atomic = .Z (w',t)):w'.drawn=w.drawn:=by
 unfold World.farStore at h;split at h
 ·split at h
  ·rename_i r hr
   injection h with h
   subst h;exact RL hr
  ·cases h
 ·cases h
theorem JJ{α:Type}(p:eG)(s:Sem α):∀w:ak,w.drawn<=(as1 (s.I p w)).drawn:=by
 induction s with
 | pure a=>intro w;exact av _
 | load m a k ih=>
   intro w;unfold Sem.run;split
   ·exact ih _ w
   ·split
    ·exact ih _ w
    ·exact av _
 | store m a v k ih=>
   intro w;cases v<;>simp only[Sem.run]<;>first
    | exact av _
    | (split
       ·split
        ·exact av _
        ·exact ih (w.F a _)
       ·split
        ·rename_i e
         rw[<-UM e];exact ih _
        ·exact av _)
 | new o k ih=>intro w;exact ih _ {w with heap:=w.a.push o}
 | shape r k ih=>intro w;exact ih _ w
 | freeze a n k ih=>intro w;have:=ih (w.freeze a n);rw[aaq]at this;exact this
 | frozen a k ih=>intro w;exact ih _ w
 | getObj r k ih=>
   intro w;unfold Sem.run;split
   ·exact av _
   ·exact ih _ w
   ·exact av _
 | setObj r o k ih=>
   intro w;unfold Sem.run;split
   ·exact av _
   ·exact ih {w with heap:=w.a.b r o}
   ·exact av _
 | choose q k ih=>
   intro w;unfold Sem.run;split
   ·exact ih _ w
   ·exact aO (LP _) (ih _ {w with drawn:=w.drawn+1})
 | sys c k ih=>intro w;exact aO (aiE w c) (ih _ _)
 | program k ih=>intro w;exact ih _ w
 | mark m k ih=>intro w;exact ih w
 | halt h=>intro w;exact av _
theorem rR{α:Type}(p:eG)(s:Sem α):∀(w:ak)(es:Array Event),w.drawn<=(as1 (s.runT p w es).1).drawn:=fun w es=>by rw[Sem.runT_fst];exact JJ p s w
theorem vR{α:Type}{p:eG}{s:Sem α}{w w':ak}{v:α}(h:s.I p w = .Z v w'):w.drawn<=w'.drawn:=by have:=JJ p s w;rw[h]at this;exact this
theorem alr{α:Type}{p:eG}{s:Sem α}{w w':ak}{v:Halt}(h:s.I p w=.halt v w'):w.drawn<=w'.drawn:=by have:=JJ p s w;rw[h]at this;exact this
theorem UN{n:Nat}{c:Prop}[Decidable c]{a b:GStep}(ha:GM n a)(hb:GM n b):GM n (if c then a else b):=by split<;>assumption
theorem aoY{α:Type}{p:eG}{s:Sem α}{w w':ak}{v:α}{es es':Array Event}(h:s.runT p w es=(.Z v w',es')):w.drawn<=w'.drawn:=by have:=rR p s w es;rw[h]at this;exact this
theorem aiF{α:Type}{p:eG}{s:Sem α}{w w':ak}{v:Halt}{es es':Array Event}(h:s.runT p w es=(.halt v w',es')):w.drawn<=w'.drawn:=by have:=rR p s w es;rw[h]at this;exact this
theorem ae2(n:Nat)(w:ak)(fd:Nat)(text:ByteArray)(o:Outcome):GM n (endWith w fd text o):=by
 unfold endWith;simp only
 repeat' split
 all_goals trivial
theorem als(fr:yI)(ahead:List ByteArray)(m:String)(whole:Bool)(w:ak):GM w.drawn (dieOf fr ahead m whole w):=av _
theorem zD(fr:yI)(m:String)(w:ak):GM w.drawn (endThrow fr m w):=av _
theorem Iz(p:eG)(fr:yI)(v:aB)(w:ak):GM w.drawn (endPrinting p fr v w):=by
 unfold endPrinting;simp only;split
 ·exact zD _ _ _
 ·trivial
theorem GM.le{n m:Nat}{s:GStep}(h:GM m s)(hn:n<=m):GM n s:=by
 cases s<;>first|exact aO hn h|trivial
theorem QS(p:eG)(fr:yI)(callers:List yI)(dying:Option Dying)(m:String)(w:ak):GM w.drawn (endFatal p fr callers dying m w):=by
 unfold endFatal;simp only;split
 ·rename_i h;exact(als _ _ _ _ _).le (vR h)
 ·trivial
 ·trivial
theorem ae3(p:eG)(fr:yI)(d:Dying)(f:Fatal)(w:ak):GM w.drawn (writeOn p fr d f w):=by
 unfold writeOn;simp only;split
 ·trivial
 ·split
  ·rename_i h;exact aoY h
  ·rename_i h;exact aiF h
  ·trivial
  ·trivial
theorem IB(p:eG)(main:Bool)(fr:yI)(callers:List yI)(dying:Option Dying)(v:aB)(w:ak):GM w.drawn (doReturn p main fr callers dying v w):=by
 unfold doReturn
 repeat' split
 all_goals first|exact av _|trivial
theorem RV(p:eG)(fr:yI)(callers:List yI)(dying:Option Dying)(d:Deferred)(w:ak):GM w.drawn (callDeferred p fr callers dying d w):=by
 unfold callDeferred;refine UN trivial ?_
 ·have h:=rR p (invoke d.target d.args) w #[]
  generalize(invoke d.target d.args).runT p w #[]=x at h ⊢;obtain⟨r,es⟩:=x;simp only at h ⊢;refine GM.after ?_
  repeat' split
  all_goals first|exact h|trivial|exact(QS _ _ _ _ _ _).le h|exact(zD _ _ _).le h
theorem aiG(p:eG)(main:Bool)(fr:yI)(callers:List yI)(dying:Option Dying)(w:ak):GM w.drawn (unwind p main fr callers dying w):=by
 unfold unwind;split
 ·rename_i block _ ds hd
  have h:=rR p (Instr.takeDeferred block) w #[];generalize(Instr.takeDeferred block).runT p w #[]=x at h ⊢;obtain⟨r,es⟩:=x;simp only at h ⊢;refine GM.after ?_;split
  ·exact h
  ·trivial
 ·exact RV _ _ _ _ _ _
 ·split
  ·trivial
  ·split
   ·trivial
   ·split
    ·exact av _
    ·split
     ·split
      ·exact av _
      ·split
       ·rename_i h;exact vR h
       ·trivial
       ·trivial
     ·split
      ·exact Iz _ _ _ _
      ·trivial
  ·split
   ·exact IB _ _ _ _ _ _ _
   ·rename_i fn hfn
    have h:=rR p (results fn fr.tmps) w #[];generalize(results fn fr.tmps).runT p w #[]=x at h ⊢;obtain⟨r,es⟩:=x;simp only at h ⊢;refine GM.after ?_;split
    ·exact(IB _ _ _ _ _ _ _).le h
    ·trivial
    ·trivial
theorem alu(p:eG)(fr:yI)(callers:List yI)(dying:Option Dying)(g:Nat)(w:ak):GM w.drawn (early p fr callers dying g w):=by
 unfold early;simp only
 repeat' split
 all_goals first|exact av _|trivial|(have h:=vR (p:=p) (w:=w) (by assumption);exact h)
theorem as2(p:eG)(fr:yI)(d:Dying)(w:ak):GM w.drawn (die p fr d w):=by
 unfold die;split
 ·exact ae3 _ _ _ _ _
 ·split
  ·exact UN (av _) (ae2 _ _ _ _ _)
  ·simp only
   split
   ·exact av _
   ·split
    ·rename_i h;exact vR h
    ·trivial
   ·rename_i t recv name hp
    have h:=rR p (invoke (.fn (.method name) #[]) #[.iface t recv]) w #[];generalize(invoke (.fn (.method name) #[]) #[.iface t recv]).runT p w #[]=x at h ⊢;obtain⟨r,es⟩:=x;simp only at h ⊢;refine GM.after ?_
    repeat' split
    all_goals first|exact h|trivial|exact(Iz _ _ _ _).le h
   ·trivial
theorem IC(p:eG)(listen:Bool)(fr:yI)(callers:List yI)(dying:Option Dying)(s:Sem Next)(w:ak):GM w.drawn (stepG.apply p listen fr callers dying s w):=by
 unfold stepG.apply;have h:w.drawn<=(as1 (if listen=true then s.runT p w #[]else(s.I p w,#[])).1).drawn:=by
  split
  ·exact rR p s w #[]
  ·exact JJ p s w
 generalize(if listen=true then s.runT p w #[]else(s.I p w,#[]))=x at h ⊢;obtain⟨r,es⟩:=x;simp only at h ⊢;refine GM.after ?_
 repeat' split
 all_goals first|exact h|trivial|exact(QS _ _ _ _ _ _).le h|exact(zD _ _ _).le h|exact(alu _ _ _ _ _ _).le h
theorem aoZ(p:eG)(listen:Bool)(fr:yI)(callers:List yI)(dying:Option Dying)(w:ak):GM w.drawn (stepG.oper p listen fr callers dying w):=by
 unfold stepG.oper
 repeat' split
 all_goals first|trivial|exact IC _ _ _ _ _ _ _
theorem alv(p:eG)(main listen:Bool)(fr:yI)(callers:List yI)(dying:Option Dying)(w:ak)(l:Nat)(jump:Option Code):GM w.drawn (match (Instr.endRound l jump).runT p w #[]with
 | (r,es)=>GStep.after (seen p fr.fn es) (match r with
  | .Z v w=>doReturn p main fr callers dying v w
  | .halt _ w=>.ended (.stuck "range over a function: no such loop" (fr.pos p)) w)):=by
 have h:=rR p (Instr.endRound l jump) w #[];generalize(Instr.endRound l jump).runT p w #[]=x at h ⊢;obtain⟨r,es⟩:=x;simp only at h ⊢;refine GM.after ?_;split
 ·exact(IB _ _ _ _ _ _ _).le h
 ·trivial
theorem ao0(p:eG)(main listen:Bool)(fr:yI)(callers:List yI)(dying:Option Dying)(w:ak):GM w.drawn (stepG.exec p main listen fr callers dying w):=by
 unfold stepG.exec;extract_lets go t0o lost leave;have hl:∀jump:Option Code,GM w.drawn (leave jump):=by
  intro jump;unfold leave;split
  ·exact UN (av _) trivial
  ·exact alv p main listen fr callers dying w _ jump
 split
 ·exact hl none
 ·exact hl (some .ret)
 ·exact av _
 ·exact av _
 ·exact av _
 ·exact av _
 ·exact av _
 ·split
  ·exact av _
  ·trivial
 ·exact av _
 ·exact av _
 ·exact av _
 ·exact av _
 ·rename_i id k hk
  cases exitTo id k with
  | none=>exact hl (some (.exit id))
  | some y=>exact av _
 ·rename_i l k hk
  cases gotoIn l k with
  | none=>exact hl (some (.goto l))
  | some y=>exact av _
 ·rename_i f params assign body k hk
  have h:=rR p (Instr.enterLoop fr.fn fr.tmps params assign body fr.roundOf) w #[];generalize(Instr.enterLoop fr.fn fr.tmps params assign body fr.roundOf).runT p w #[]=x at h ⊢;obtain⟨r,es⟩:=x;simp only at h ⊢;refine GM.after ?_;split
  ·exact(IC _ _ _ _ _ _ _).le h
  ·trivial
 ·trivial
 ·exact IC _ _ _ _ _ _ _
 ·rename_i l k hk
  have h:=rR p (Instr.endLoop l) w #[];generalize(Instr.endLoop l).runT p w #[]=x at h ⊢;obtain⟨r,es⟩:=x;simp only at h ⊢;refine GM.after ?_;split
  ·exact h
  ·exact h
  ·trivial
 ·trivial
 ·exact IC _ _ _ _ _ _ _
 ·rename_i row args _ hk
  cases Extern.next row with
  | none=>trivial
  | some e=>exact IC _ _ _ _ _ _ _
 ·refine UN (av _) ?_
  split
  ·rename_i h;exact vR h
  ·trivial
 ·exact av _
 ·exact UN (aoZ _ _ _ _ _ _) (av _)
theorem ao1(p:eG)(main:Bool)(g:Goroutine)(w:ak)(listen:Bool):GM w.drawn (stepG p main g w listen):=by
 unfold stepG;simp only;split
 ·exact as2 _ _ _ _
 ·exact ao0 _ _ _ _ _ _ _
 ·exact aiG _ _ _ _ _ _
theorem ae4{n:Nat}{c:Prop}[Decidable c]{a b:Stepped×Array MemOp}(ha:SM n a.1)(hb:SM n b.1):SM n (if c then a else b).1:=by split<;>assumption
theorem ag5{n:Nat}{c:Prop}[Decidable c]{a b:Stepped}(ha:SM n a)(hb:SM n b):SM n (if c then a else b):=by split<;>assumption
theorem Xm{rest:Rest}{cs:Array CommCase}{w w':ak}(h:waitingAt rest cs w=some w'):w'.drawn=w.drawn:=by
 unfold waitingAt at h;split at h
 ·split at h
  ·injection h with h;rw[<-h]
  ·cases h
 ·injection h with h;rw[h]
theorem ao2(p:eG)(rest:Rest)(gs:Array Goroutine)(i:Nat)(g:Goroutine)(aar:Array CommCase)(blocking:Bool)(shape:CommShape)(w:ak):SM w.drawn (communicate p rest gs i g aar blocking shape w).1:=by
 unfold communicate;extract_lets put illMade me aFU ready pick;have hp:∀g gs (w':ak) ops,w.drawn<=w'.drawn->SM w.drawn (put g gs w' ops).1:=fun _ _ _ _ h=>h
 refine ae4 trivial (ae4 (ae4 ?_ ?_) ?_)
 ·split
  ·rename_i h;exact aX (Xm h).symm
  ·trivial
 ·exact hp _ _ _ _ (av _)
 ·split
  ·trivial
  ·rename_i k c way w1 hr
   have h1:=vR hr;extract_lets r;split
   ·split
    ·rename_i hh
     exact hp _ _ _ _ (aO h1 (alr hh))
    ·trivial
   ·exact hp _ _ _ _ h1
   ·exact hp _ _ _ _ h1
   ·extract_lets v aIb
    split
    ·exact hp _ _ _ _ h1
    ·split
     ·rename_i hb
      have h2:=vR hb;exact aO h1 h2
     ·trivial
   ·exact hp _ _ _ _ h1
   ·exact hp _ _ _ _ h1
   ·trivial
theorem ag6(p:eG)(gs:Array Goroutine)(rest:Rest)(w:ak):SM w.drawn (look p gs rest w):=by
 unfold look;split
 ·split
  extract_lets;refine ag5 trivial ?_;split
  ·trivial
  ·extract_lets
   split
   ·rename_i h
    have h2:=vR h;exact h2
   ·trivial
   ·trivial
 ·trivial
theorem Yi(m:EI)(k:Nat)(t:Timer)(a b:Nat):(retime m k t a b).2.world.drawn=m.world.drawn:=by
 unfold retime;simp only;split
 ·unfold drain;split<;>rfl
 ·rfl
theorem alx{m m':EI}{op:TimerOp}{v:aB}(h:timerOp m op = .Z (v,m')):m'.world.drawn=m.world.drawn:=by
 unfold timerOp at h;split at h
 ·split at h
  ·injection h with h;injection h with h1 h2;rw[<-h2];rfl
  ·split at h
   ·split at h
    ·cases h
    ·injection h with h;injection h with h1 h2;rw[<-h2]
   ·cases h
 ·unfold timerOp.named at h
  split at h
  ·injection h with h
   have:=congrArg (fun x=>x.2.world.drawn) h;simp only at this;rw[<-this,Yi]
  ·cases h
 ·split at h
  ·rename_i m1 hm
   have e:m1.world.drawn=m.world.drawn:=by
    unfold timerOp.opened at hm;split at hm
    ·split at hm
     ·injection hm with hm;rw[<-hm]
     ·cases hm
    ·injection hm with hm;rw[<-hm]
   unfold timerOp.named at h;split at h
   ·injection h with h
    have:=congrArg (fun x=>x.2.world.drawn) h;simp only at this;rw[<-this,Yi,e]
   ·cases h
  ·cases h
 ·extract_lets at h
  injection h with h;injection h with h1 h2;rw[<-h2];rfl
theorem aly(p:eG)(m:EI)(k:Nat):SM m.world.drawn (serve p m k):=by
 unfold serve;split
 ·trivial
 ·exact av _
 ·extract_lets
  split
  ·trivial
  ·exact av _
theorem ao3(p:eG)(m:EI)(i:Nat)(listen:Bool):SM m.world.drawn (runT p m i listen).1:=by
 unfold runT;extract_lets rest world;split;rename_i g gs hsw;extract_lets wake fn pos s ops done;have h:GM m.world.drawn s:=ao1 p (i==0) g world listen;have hd:∀r,(done r).1=r:=fun _=>rfl
 generalize s=s at h;cases s with
 | ended o w es=>trivial
 | comm g aar b sh w es=>
   have h2:=ao2 p rest gs i g aar b sh w;simp only;generalize communicate p rest gs i g aar b sh w=x at h2 ⊢;obtain⟨r,lF⟩:=x;simp only at h2 ⊢;cases r with
   | next m2=>exact aO h h2
   | ended=>trivial
 | go g w es=>exact h
 | spawn g c w es=>exact h
 | count g w es=>
   simp only;rw[hd];refine ag5 trivial ?_;exact h
 | alone g on w es=>exact h
 | collect g w es=>
   simp only;rw[hd];have h2:=ag6 p (gs.b i g) rest w;generalize look p (gs.b i g) rest w=r at h2 ⊢;cases r with
   | next m2=>exact aO h h2
   | ended=>trivial
 | watch g w es=>exact h
 | newcoro g c d w es=>exact h
 | coroswitch g c exit w es=>
   simp only;rw[hd];split
   ·exact h
   ·have h2:=zD g.frame "coroswitch on exited coro" w
    split
    ·rename_i e;rw[e]at h2;exact aO h h2
    ·trivial
   ·trivial
 | timer g op w es=>
   simp only;rw[hd];split
   ·rename_i ht;have h2:=alx ht;show _<=_;exact aO h (aX h2.symm)
   ·rename_i msg ht
    have h2:=zD g.frame msg w;split
    ·rename_i e;rw[e]at h2;exact aO h h2
    ·trivial
   ·trivial
   ·trivial
theorem SM.le{n m:Nat}{s:Stepped}(h:SM m s)(hn:n<=m):SM n s:=by cases s with|next m2=>exact aO hn h|ended=>trivial
def MM(n:Nat):Move->Prop
 | .goroutine m _=>n<=m.world.drawn
 | .machine s _=>SM n s
theorem UO(p:eG)(m:EI):MM m.world.drawn (askOn p m):=by
 unfold askOn;extract_lets mono rs ds pick;have hp:∀m2:EI,m.world.drawn<=m2.world.drawn->MM m.world.drawn (pick m2):=by
  intro m2 h;unfold pick;split
  ·trivial
  ·rename_i hk
   have h1:=vR hk;split
   ·exact aO h h1
   ·split
    ·trivial
    ·rename_i hn
     have h2:=vR hn;exact aO h (aO h1 h2)
 split
 ·trivial
 ·rename_i k world hk
  have h1:=vR hk;extract_lets m1;have hm:m.world.drawn<=m1.world.drawn:=h1
  clear_value pick m1
  clear hk
  clear_value ds rs
  split
  ·exact SM.le (aly p m1 _) hm
  ·cases rs with
   | nil=>
     simp only;split
     ·exact hm
     ·split
      ·exact hm
      ·split<;>trivial
   | cons r rs=>
     simp only;split
     ·exact hp _ hm
     ·split
      ·trivial
      ·rename_i hw;have h2:=vR hw;exact hp _ (by first|exact aO hm h2|exact aO h1 h2)
      ·rename_i hw;have h2:=vR hw;first|exact aO hm h2|exact aO h1 h2
      ·rename_i hw;have h2:=vR hw;exact hp _ (by first|exact aO hm h2|exact aO h1 h2)
theorem MM.le{n m:Nat}{s:Move}(h:MM m s)(hn:n<=m):MM n s:=by
 cases s with
 | goroutine m2 i=>exact aO hn h
 | machine s ops=>exact SM.le h hn
theorem alz(p:eG)(m:EI):MM m.world.drawn (ask p m):=by
 unfold ask;split
 ·split
  ·trivial
  ·rename_i hk
   have h1:=vR hk;have h2:=ag6 p m.gs m.rest (by assumption);split
   ·rename_i e
    rw[e]at h2;exact(UO p _).le (aO h1 h2)
   ·exact SM.le h2 h1
  ·rename_i hk
   have h1:=vR hk;exact(UO p _).le h1
 ·exact UO p m
theorem ao4(p:eG)(m:EI):MM m.world.drawn (move p m):=by
 unfold move;split
 ·split
  ·exact av _
  ·trivial
 ·split
  ·split
   ·exact av _
   ·exact alz p _
  ·exact alz p m
theorem ao5(p:eG)(m:EI):SM m.world.drawn (step p m):=by
 unfold step stepT;have h:=ao4 p m;split
 ·rename_i m2 i e
  rw[e]at h;exact(ao3 p m2 i true).le h
 ·rename_i s ops e
  rw[e]at h;exact h
theorem ag7(p:eG):∀(n:Nat)(m:EI),SM m.world.drawn (runN p n m)
 | 0,m=>av _
 | n+1,m=>by
   unfold runN;have h:=ao5 p m;split
   ·rename_i m2 e
    rw[e]at h;exact(ag7 p n m2).le h
   ·exact h
theorem QT{P:eG}{m m':EI}(h:Steps P m m'):m.world.drawn<=m'.world.drawn:=by
 obtain⟨n,hn⟩:=h;have:=ag7 P n m;rw[hn]at this;exact this
theorem Calls.drawn{P:eG}{f:FuncId}{args:Array aB}{w:ak}{R:Ending->ak->Prop}(h:aP P f args w R):aP P f args w (fun e w'=>R e w'/\(e≠.outgrown->w.drawn<=w'.drawn)):=by
 intro cs;obtain⟨e,w',fr,h1,h2,h3,h4⟩:=h cs;refine⟨e,w',fr,⟨h1,fun he=>?_⟩,h2,h3,h4⟩;cases e with
 | returned v=>exact QT h2
 | panicked c=>exact QT h2
 | outgrown=>exact absurd rfl he
open Go.RowKit in
theorem ao6 {w w':ak} (hb:Below w.a.j w w') (hd:w.drawn<=w'.drawn):∃q os,w'=Sort.grow (w.drewN q) os:=by
 refine⟨w'.drawn-w.drawn,w'.a.extract w.a.j w'.a.j,?_⟩;have hh:w'.a=w.a++w'.a.extract w.a.j w'.a.j:=by
  apply Array.ext_getElem?;intro i;rw[Array.getElem?_append];split
  ·rename_i h;exact hb.block i h
  ·rename_i h
   rw[Array.getElem?_extract];have:=hb.j;by_cases hi:i<w'.a.j
   ·rw[if_pos (by omega),show w.a.j+(i-w.a.j)=i by omega]
   ·rw[if_neg (by omega),Array.getElem?_eq_none (by omega)]
 obtain⟨h,t,d,o,u⟩:=w';have h1:=hb.os;have h2:=hb.tape;have h3:=hb.output;simp only at h1 h2 h3 hh hd;subst h1 h2 h3;unfold Sort.grow World.drewN;simp only;congr 1;omega
open Go.RowKit in
theorem Calls.axj {P:eG} {f:FuncId} {args:Array aB} {w:ak} {v:aB} (h:aP P f args w fun e w'=>e=.returned v/\Below w.a.j w w'):aP P f args w fun e w'=>e=.returned v/\∃q os,w'=Sort.grow (w.drewN q) os:=by
 refine(Calls.drawn h).mono ?_;rintro e w' ⟨⟨rfl,hb⟩,hd⟩;exact⟨rfl,ao6 hb (hd (fun h=>by cases h))⟩
end Go.Proofs.YtkjojjopamaoiaaGreat
