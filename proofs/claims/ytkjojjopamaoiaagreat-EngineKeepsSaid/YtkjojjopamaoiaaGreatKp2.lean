/- Parts. -/
import Derived.Sort.Grow
import Derived.Test.YtkjojjopamaoiaaGreatKp1
set_option linter.all false
set_option maxRecDepth 100000
set_option maxHeartbeats 8000000
open Array renaming size->Array.j,setIfInBounds->Array.b
open ByteArray renaming size->ByteArray.j
open Go renaming World->au,Addr->aU,Program->eX,Value->aC,Frame->yS,Machine->Fu,Calls->aQ
open Go.FrameMode renaming run->Go.FrameMode.J
open Go.RowKit.Below renaming size->Go.RowKit.Below.j
open Go.Sem renaming run->Go.Sem.J
open Go.World renaming heap->Go.World.a,setCell->Go.World.G
open Nat renaming le_refl->ay,le_trans->aP,le_succ->Mv,le_of_eq->aY
namespace Go.Proofs.YtkjojjopamaoiaaGreat
open Go.RowKit
def GM(n:Nat):GStep->Prop
 | .go _ w _=>n<=w.drawn
 | .comm _ _ _ _ w _=>n<=w.drawn
 | .spawn _ _ w _=>n<=w.drawn
 | .count _ w _=>n<=w.drawn
 | .timer _ _ w _=>n<=w.drawn
 | .alone _ _ w _=>n<=w.drawn
 | .newcoro _ _ _ w _=>n<=w.drawn
 | .coroswitch _ _ _ w _=>n<=w.drawn
 | .collect _ w _=>n<=w.drawn
 | .watch _ w _=>n<=w.drawn
 | .ended _ _ _=>True
def SM(n:Nat):Stepped->Prop
 | .next m=>n<=m.world.drawn
 | .ended _ _=>True
def atr{α:Type}:Result α->au
 | .ok _ w=>w
 | .halt _ w=>w
theorem GM.after{n:Nat}{es:Array Event}{s:GStep}(h:GM n s):GM n (s.after es):=by cases s<;>exact h
theorem aaB(w:au)(a:aU)(n:Nat):(w.freeze a n).drawn=w.drawn:=by unfold World.freeze;split<;>rfl
theorem aiT{α:Type}(a:Ask α):∀w:au,w.drawn<=(w.ask a).2.drawn:=by
 induction a with
 | done a=>intro w;exact ay _
 | ask what range k ih=>
   intro w;unfold World.ask;simp only;split
   ·exact ih _ w
   ·have:=ih ((Question.extern what range).cut (w.tape w.drawn (Question.extern what range))) {w with drawn:=w.drawn+1}
    exact aP (Mv _) this
theorem aiU(w:au)(c:Sys):w.drawn<=(w.sys c).2.drawn:=by
 have h:=aiT (Kernel.perform c w.os) w;unfold World.sys;split
 ·exact ay _
 ·rename_i e;rw[e]at h;exact h
theorem Rk{p:eX}{w w':au}{fG:aU}{u:TypeId}{k:aU}{v:aC}{atomic:Bool}{t:List aU}(h:w.viewStore p fG u k v atomic=.ok (w',t)):w'.drawn=w.drawn:=by
 unfold World.viewStore at h;simp only[bind,Except.bind,pure,Except.pure,throw,throwThe,MonadExceptOf.throw]at h
 repeat' split at h
 all_goals first
  | cases h;done
  | (injection h with h;injection h with h1 h2;rw[<-h1])
theorem UO{p:eX}{w w':au}{a:aU}{v:aC}{atomic:Bool}{t:List aU}(h:w.farStore p a v atomic=.ok (w',t)):w'.drawn=w.drawn:=by
 unfold World.farStore at h;split at h
 ·split at h
  ·rename_i r hr
   injection h with h
   subst h;exact Rk hr
  ·cases h
 ·cases h
theorem J8{α:Type}(p:eX)(s:Sem α):∀w:au,w.drawn<=(atr (s.J p w)).drawn:=by
 induction s with
 | pure a=>intro w;exact ay _
 | load m a k ih=>
   intro w;unfold Sem.run;split
   ·exact ih _ w
   ·split
    ·exact ih _ w
    ·exact ay _
 | store m a v k ih=>
   intro w;cases v<;>simp only[Sem.run]<;>first
    | exact ay _
    | (split
       ·split
        ·exact ay _
        ·exact ih (w.G a _)
       ·split
        ·rename_i e
         rw[<-UO e];exact ih _
        ·exact ay _)
 | new o k ih=>intro w;exact ih _ {w with heap:=w.a.push o}
 | shape r k ih=>intro w;exact ih _ w
 | freeze a n k ih=>intro w;have:=ih (w.freeze a n);rw[aaB]at this;exact this
 | frozen a k ih=>intro w;exact ih _ w
 | getObj r k ih=>
   intro w;unfold Sem.run;split
   ·exact ay _
   ·exact ih _ w
   ·exact ay _
 | setObj r o k ih=>
   intro w;unfold Sem.run;split
   ·exact ay _
   ·exact ih {w with heap:=w.a.b r o}
   ·exact ay _
 | choose q k ih=>
   intro w;unfold Sem.run;split
   ·exact ih _ w
   ·exact aP (Mv _) (ih _ {w with drawn:=w.drawn+1})
 | sys c k ih=>intro w;exact aP (aiU w c) (ih _ _)
 | program k ih=>intro w;exact ih _ w
 | mark m k ih=>intro w;exact ih w
 | halt h=>intro w;exact ay _
theorem rV{α:Type}(p:eX)(s:Sem α):∀(w:au)(es:Array Event),w.drawn<=(atr (s.runT p w es).1).drawn:=fun w es=>by rw[Sem.runT_fst];exact J8 p s w
theorem vU{α:Type}{p:eX}{s:Sem α}{w w':au}{v:α}(h:s.J p w=.ok v w'):w.drawn<=w'.drawn:=by have:=J8 p s w;rw[h]at this;exact this
theorem alJ{α:Type}{p:eX}{s:Sem α}{w w':au}{v:Halt}(h:s.J p w=.halt v w'):w.drawn<=w'.drawn:=by have:=J8 p s w;rw[h]at this;exact this
theorem UQ{n:Nat}{c:Prop}[Decidable c]{a b:GStep}(ha:GM n a)(hb:GM n b):GM n (if c then a else b):=by split<;>assumption
theorem aph{α:Type}{p:eX}{s:Sem α}{w w':au}{v:α}{es es':Array Event}(h:s.runT p w es=(.ok v w',es')):w.drawn<=w'.drawn:=by have:=rV p s w es;rw[h]at this;exact this
theorem aiV{α:Type}{p:eX}{s:Sem α}{w w':au}{v:Halt}{es es':Array Event}(h:s.runT p w es=(.halt v w',es')):w.drawn<=w'.drawn:=by have:=rV p s w es;rw[h]at this;exact this
theorem afi(n:Nat)(w:au)(fd:Nat)(text:ByteArray)(o:Outcome):GM n (endWith w fd text o):=by
 unfold endWith;simp only
 repeat' split
 all_goals trivial
theorem alK(fr:yS)(ahead:List ByteArray)(m:String)(whole:Bool)(w:au):GM w.drawn (dieOf fr ahead m whole w):=ay _
theorem zN(fr:yS)(m:String)(w:au):GM w.drawn (endThrow fr m w):=ay _
theorem I9(p:eX)(fr:yS)(v:aC)(w:au):GM w.drawn (endPrinting p fr v w):=by
 unfold endPrinting;simp only;split
 ·exact zN _ _ _
 ·trivial
theorem GM.le{n m:Nat}{s:GStep}(h:GM m s)(hn:n<=m):GM n s:=by
 cases s<;>first|exact aP hn h|trivial
theorem Qz(p:eX)(fr:yS)(callers:List yS)(dying:Option Dying)(m:String)(w:au):GM w.drawn (endFatal p fr callers dying m w):=by
 unfold endFatal;simp only;split
 ·rename_i h;exact(alK _ _ _ _ _).le (vU h)
 ·trivial
 ·trivial
theorem afj(p:eX)(fr:yS)(d:Dying)(f:Fatal)(w:au):GM w.drawn (writeOn p fr d f w):=by
 unfold writeOn;simp only;split
 ·trivial
 ·split
  ·rename_i h;exact aph h
  ·rename_i h;exact aiV h
  ·trivial
  ·trivial
theorem Ja(p:eX)(main:Bool)(fr:yS)(callers:List yS)(dying:Option Dying)(v:aC)(w:au):GM w.drawn (doReturn p main fr callers dying v w):=by
 unfold doReturn
 repeat' split
 all_goals first|exact ay _|trivial
theorem Rl(p:eX)(fr:yS)(callers:List yS)(dying:Option Dying)(d:Deferred)(w:au):GM w.drawn (callDeferred p fr callers dying d w):=by
 unfold callDeferred;refine UQ trivial ?_
 ·have h:=rV p (invoke d.target d.args) w #[]
  generalize(invoke d.target d.args).runT p w #[]=x at h ⊢;obtain⟨r,es⟩:=x;simp only at h ⊢;refine GM.after ?_
  repeat' split
  all_goals first|exact h|trivial|exact(Qz _ _ _ _ _ _).le h|exact(zN _ _ _).le h
theorem aiW(p:eX)(main:Bool)(fr:yS)(callers:List yS)(dying:Option Dying)(w:au):GM w.drawn (unwind p main fr callers dying w):=by
 unfold unwind;split
 ·rename_i block _ ds hd
  have h:=rV p (Instr.takeDeferred block) w #[];generalize(Instr.takeDeferred block).runT p w #[]=x at h ⊢;obtain⟨r,es⟩:=x;simp only at h ⊢;refine GM.after ?_;split
  ·exact h
  ·trivial
 ·exact Rl _ _ _ _ _ _
 ·split
  ·trivial
  ·split
   ·trivial
   ·split
    ·exact ay _
    ·split
     ·split
      ·exact ay _
      ·split
       ·rename_i h;exact vU h
       ·trivial
       ·trivial
     ·split
      ·exact I9 _ _ _ _
      ·trivial
  ·split
   ·exact Ja _ _ _ _ _ _ _
   ·rename_i fn hfn
    have h:=rV p (results fn fr.tmps) w #[];generalize(results fn fr.tmps).runT p w #[]=x at h ⊢;obtain⟨r,es⟩:=x;simp only at h ⊢;refine GM.after ?_;split
    ·exact(Ja _ _ _ _ _ _ _).le h
    ·trivial
    ·trivial
theorem alL(p:eX)(fr:yS)(callers:List yS)(dying:Option Dying)(g:Nat)(w:au):GM w.drawn (early p fr callers dying g w):=by
 unfold early;simp only
 repeat' split
 all_goals first|exact ay _|trivial|(have h:=vU (p:=p) (w:=w) (by assumption);exact h)
theorem att(p:eX)(fr:yS)(d:Dying)(w:au):GM w.drawn (die p fr d w):=by
 unfold die;split
 ·exact afj _ _ _ _ _
 ·split
  ·exact UQ (ay _) (afi _ _ _ _ _)
  ·simp only
   split
   ·exact ay _
   ·split
    ·rename_i h;exact vU h
    ·trivial
   ·rename_i t recv name hp
    have h:=rV p (invoke (.fn (.method name) #[]) #[.iface t recv]) w #[];generalize(invoke (.fn (.method name) #[]) #[.iface t recv]).runT p w #[]=x at h ⊢;obtain⟨r,es⟩:=x;simp only at h ⊢;refine GM.after ?_
    repeat' split
    all_goals first|exact h|trivial|exact(I9 _ _ _ _).le h
   ·trivial
theorem Jb(p:eX)(listen:Bool)(fr:yS)(callers:List yS)(dying:Option Dying)(s:Sem Next)(w:au):GM w.drawn (stepG.apply p listen fr callers dying s w):=by
 unfold stepG.apply;have h:w.drawn<=(atr (if listen=true then s.runT p w #[]else(s.J p w,#[])).1).drawn:=by
  split
  ·exact rV p s w #[]
  ·exact J8 p s w
 generalize(if listen=true then s.runT p w #[]else(s.J p w,#[]))=x at h ⊢;obtain⟨r,es⟩:=x;simp only at h ⊢;refine GM.after ?_
 repeat' split
 all_goals first|exact h|trivial|exact(Qz _ _ _ _ _ _).le h|exact(zN _ _ _).le h|exact(alL _ _ _ _ _ _).le h
theorem apj(p:eX)(listen:Bool)(fr:yS)(callers:List yS)(dying:Option Dying)(w:au):GM w.drawn (stepG.oper p listen fr callers dying w):=by
 unfold stepG.oper
 repeat' split
 all_goals first|trivial|exact Jb _ _ _ _ _ _ _
theorem alM(p:eX)(main listen:Bool)(fr:yS)(callers:List yS)(dying:Option Dying)(w:au)(l:Nat)(jump:Option Code):GM w.drawn (match (Instr.endRound l jump).runT p w #[]with
 | (r,es)=>GStep.after (seen p fr.fn es) (match r with
  | .ok v w=>doReturn p main fr callers dying v w
  | .halt _ w=>.ended (.stuck "range over a function: no such loop" (fr.pos p)) w)):=by
 have h:=rV p (Instr.endRound l jump) w #[];generalize(Instr.endRound l jump).runT p w #[]=x at h ⊢;obtain⟨r,es⟩:=x;simp only at h ⊢;refine GM.after ?_;split
 ·exact(Ja _ _ _ _ _ _ _).le h
 ·trivial
theorem apk(p:eX)(main listen:Bool)(fr:yS)(callers:List yS)(dying:Option Dying)(w:au):GM w.drawn (stepG.exec p main listen fr callers dying w):=by
 unfold stepG.exec;extract_lets go t0o lost leave;have hl:∀jump:Option Code,GM w.drawn (leave jump):=by
  intro jump;unfold leave;split
  ·exact UQ (ay _) trivial
  ·exact alM p main listen fr callers dying w _ jump
 split
 ·exact hl none
 ·exact hl (some .ret)
 ·exact ay _
 ·exact ay _
 ·exact ay _
 ·exact ay _
 ·exact ay _
 ·split
  ·exact ay _
  ·trivial
 ·exact ay _
 ·exact ay _
 ·exact ay _
 ·exact ay _
 ·rename_i id k hk
  cases exitTo id k with
  | none=>exact hl (some (.exit id))
  | some y=>exact ay _
 ·rename_i l k hk
  cases gotoIn l k with
  | none=>exact hl (some (.goto l))
  | some y=>exact ay _
 ·rename_i f params assign body k hk
  have h:=rV p (Instr.enterLoop fr.fn fr.tmps params assign body fr.roundOf) w #[];generalize(Instr.enterLoop fr.fn fr.tmps params assign body fr.roundOf).runT p w #[]=x at h ⊢;obtain⟨r,es⟩:=x;simp only at h ⊢;refine GM.after ?_;split
  ·exact(Jb _ _ _ _ _ _ _).le h
  ·trivial
 ·trivial
 ·exact Jb _ _ _ _ _ _ _
 ·rename_i l k hk
  have h:=rV p (Instr.endLoop l) w #[];generalize(Instr.endLoop l).runT p w #[]=x at h ⊢;obtain⟨r,es⟩:=x;simp only at h ⊢;refine GM.after ?_;split
  ·exact h
  ·exact h
  ·trivial
 ·trivial
 ·exact Jb _ _ _ _ _ _ _
 ·rename_i row args _ hk
  cases Extern.next row with
  | none=>trivial
  | some e=>exact Jb _ _ _ _ _ _ _
 ·refine UQ (ay _) ?_
  split
  ·rename_i h;exact vU h
  ·trivial
 ·exact ay _
 ·exact UQ (apj _ _ _ _ _ _) (ay _)
theorem apl(p:eX)(main:Bool)(g:Goroutine)(w:au)(listen:Bool):GM w.drawn (stepG p main g w listen):=by
 unfold stepG;simp only;split
 ·exact att _ _ _ _
 ·exact apk _ _ _ _ _ _ _
 ·exact aiW _ _ _ _ _ _
theorem afk{n:Nat}{c:Prop}[Decidable c]{a b:Stepped×Array MemOp}(ha:SM n a.1)(hb:SM n b.1):SM n (if c then a else b).1:=by split<;>assumption
theorem ahm{n:Nat}{c:Prop}[Decidable c]{a b:Stepped}(ha:SM n a)(hb:SM n b):SM n (if c then a else b):=by split<;>assumption
theorem Xr{rest:Rest}{cs:Array CommCase}{w w':au}(h:waitingAt rest cs w=some w'):w'.drawn=w.drawn:=by
 unfold waitingAt at h;split at h
 ·split at h
  ·injection h with h;rw[<-h]
  ·cases h
 ·injection h with h;rw[h]
theorem apm(p:eX)(rest:Rest)(gs:Array Goroutine)(i:Nat)(g:Goroutine)(aaC:Array CommCase)(blocking:Bool)(shape:CommShape)(w:au):SM w.drawn (communicate p rest gs i g aaC blocking shape w).1:=by
 unfold communicate;extract_lets put illMade me arW ready pick;have hp:∀g gs (w':au) ops,w.drawn<=w'.drawn->SM w.drawn (put g gs w' ops).1:=fun _ _ _ _ h=>h
 refine afk trivial (afk (afk ?_ ?_) ?_)
 ·split
  ·rename_i h;exact aY (Xr h).symm
  ·trivial
 ·exact hp _ _ _ _ (ay _)
 ·split
  ·trivial
  ·rename_i k c way w1 hr
   have h1:=vU hr;extract_lets r;split
   ·split
    ·rename_i hh
     exact hp _ _ _ _ (aP h1 (alJ hh))
    ·trivial
   ·exact hp _ _ _ _ h1
   ·exact hp _ _ _ _ h1
   ·extract_lets v aI2
    split
    ·exact hp _ _ _ _ h1
    ·split
     ·rename_i hb
      have h2:=vU hb;exact aP h1 h2
     ·trivial
   ·exact hp _ _ _ _ h1
   ·exact hp _ _ _ _ h1
   ·trivial
theorem ahn(p:eX)(gs:Array Goroutine)(rest:Rest)(w:au):SM w.drawn (look p gs rest w):=by
 unfold look;split
 ·split
  extract_lets;refine ahm trivial ?_;split
  ·trivial
  ·extract_lets
   split
   ·rename_i h
    have h2:=vU h;exact h2
   ·trivial
   ·trivial
 ·trivial
theorem Yo(m:Fu)(k:Nat)(t:Timer)(a b:Nat):(retime m k t a b).2.world.drawn=m.world.drawn:=by
 unfold retime;simp only;split
 ·unfold drain;split<;>rfl
 ·rfl
theorem alN{m m':Fu}{op:TimerOp}{v:aC}(h:timerOp m op=.ok (v,m')):m'.world.drawn=m.world.drawn:=by
 unfold timerOp at h;split at h
 ·split at h
  ·injection h with h;injection h with h1 h2;rw[<-h2];rfl
  ·split at h
   ·split at h
    ·cases h
    ·injection h with h;injection h with h1 h2;rw[<-h2]
   ·cases h
 ·unfold timerOp.named at h
  split at h
  ·injection h with h
   have:=congrArg (fun x=>x.2.world.drawn) h;simp only at this;rw[<-this,Yo]
  ·cases h
 ·split at h
  ·rename_i m1 hm
   have e:m1.world.drawn=m.world.drawn:=by
    unfold timerOp.opened at hm;split at hm
    ·split at hm
     ·injection hm with hm;rw[<-hm]
     ·cases hm
    ·injection hm with hm;rw[<-hm]
   unfold timerOp.named at h;split at h
   ·injection h with h
    have:=congrArg (fun x=>x.2.world.drawn) h;simp only at this;rw[<-this,Yo,e]
   ·cases h
  ·cases h
 ·extract_lets at h
  injection h with h;injection h with h1 h2;rw[<-h2];rfl
theorem alO(p:eX)(m:Fu)(k:Nat):SM m.world.drawn (serve p m k):=by
 unfold serve;split
 ·trivial
 ·exact ay _
 ·extract_lets
  split
  ·trivial
  ·exact ay _
theorem apn(p:eX)(m:Fu)(i:Nat)(listen:Bool):SM m.world.drawn (runT p m i listen).1:=by
 unfold runT;extract_lets rest world;split;rename_i g gs hsw;extract_lets wake fn pos s ops done;have h:GM m.world.drawn s:=apl p (i==0) g world listen;have hd:∀r,(done r).1=r:=fun _=>rfl
 generalize s=s at h;cases s with
 | ended o w es=>trivial
 | comm g aaC b sh w es=>
   have h2:=apm p rest gs i g aaC b sh w;simp only;generalize communicate p rest gs i g aaC b sh w=x at h2 ⊢;obtain⟨r,lH⟩:=x;simp only at h2 ⊢;cases r with
   | next m2=>exact aP h h2
   | ended=>trivial
 | go g w es=>exact h
 | spawn g c w es=>exact h
 | count g w es=>
   simp only;rw[hd];refine ahm trivial ?_;exact h
 | alone g on w es=>exact h
 | collect g w es=>
   simp only;rw[hd];have h2:=ahn p (gs.b i g) rest w;generalize look p (gs.b i g) rest w=r at h2 ⊢;cases r with
   | next m2=>exact aP h h2
   | ended=>trivial
 | watch g w es=>exact h
 | newcoro g c d w es=>exact h
 | coroswitch g c exit w es=>
   simp only;rw[hd];split
   ·exact h
   ·have h2:=zN g.frame "coroswitch on exited coro" w
    split
    ·rename_i e;rw[e]at h2;exact aP h h2
    ·trivial
   ·trivial
 | timer g op w es=>
   simp only;rw[hd];split
   ·rename_i ht;have h2:=alN ht;show _<=_;exact aP h (aY h2.symm)
   ·rename_i msg ht
    have h2:=zN g.frame msg w;split
    ·rename_i e;rw[e]at h2;exact aP h h2
    ·trivial
   ·trivial
   ·trivial
theorem SM.le{n m:Nat}{s:Stepped}(h:SM m s)(hn:n<=m):SM n s:=by cases s with|next m2=>exact aP hn h|ended=>trivial
def MM(n:Nat):Move->Prop
 | .goroutine m _=>n<=m.world.drawn
 | .machine s _=>SM n s
theorem UR(p:eX)(m:Fu):MM m.world.drawn (askOn p m):=by
 unfold askOn;extract_lets mono rs ds pick;have hp:∀m2:Fu,m.world.drawn<=m2.world.drawn->MM m.world.drawn (pick m2):=by
  intro m2 h;unfold pick;split
  ·trivial
  ·rename_i hk
   have h1:=vU hk;split
   ·exact aP h h1
   ·split
    ·trivial
    ·rename_i hn
     have h2:=vU hn;exact aP h (aP h1 h2)
 split
 ·trivial
 ·rename_i k world hk
  have h1:=vU hk;extract_lets m1;have hm:m.world.drawn<=m1.world.drawn:=h1
  clear_value pick m1
  clear hk
  clear_value ds rs
  split
  ·exact SM.le (alO p m1 _) hm
  ·cases rs with
   | nil=>
     simp only;split
     ·exact hm
     ·split
      ·exact hm
      ·split<;>trivial
   | cons r rs=>
     simp only;split
     ·exact hp _ hm
     ·split
      ·trivial
      ·rename_i hw;have h2:=vU hw;exact hp _ (by first|exact aP hm h2|exact aP h1 h2)
      ·rename_i hw;have h2:=vU hw;first|exact aP hm h2|exact aP h1 h2
      ·rename_i hw;have h2:=vU hw;exact hp _ (by first|exact aP hm h2|exact aP h1 h2)
theorem MM.le{n m:Nat}{s:Move}(h:MM m s)(hn:n<=m):MM n s:=by
 cases s with
 | goroutine m2 i=>exact aP hn h
 | machine s ops=>exact SM.le h hn
theorem alP(p:eX)(m:Fu):MM m.world.drawn (ask p m):=by
 unfold ask;split
 ·split
  ·trivial
  ·rename_i hk
   have h1:=vU hk;have h2:=ahn p m.gs m.rest (by assumption);split
   ·rename_i e
    rw[e]at h2;exact(UR p _).le (aP h1 h2)
   ·exact SM.le h2 h1
  ·rename_i hk
   have h1:=vU hk;exact(UR p _).le h1
 ·exact UR p m
theorem apo(p:eX)(m:Fu):MM m.world.drawn (move p m):=by
 unfold move;split
 ·split
  ·exact ay _
  ·trivial
 ·split
  ·split
   ·exact ay _
   ·exact alP p _
  ·exact alP p m
theorem apq(p:eX)(m:Fu):SM m.world.drawn (step p m):=by
 unfold step stepT;have h:=apo p m;split
 ·rename_i m2 i e
  rw[e]at h;exact(apn p m2 i true).le h
 ·rename_i s ops e
  rw[e]at h;exact h
theorem aho(p:eX):∀(n:Nat)(m:Fu),SM m.world.drawn (runN p n m)
 | 0,m=>ay _
 | n+1,m=>by
   unfold runN;have h:=apq p m;split
   ·rename_i m2 e
    rw[e]at h;exact(aho p n m2).le h
   ·exact h
theorem QA{P:eX}{m m':Fu}(h:Steps P m m'):m.world.drawn<=m'.world.drawn:=by
 obtain⟨n,hn⟩:=h;have:=aho P n m;rw[hn]at this;exact this
theorem Calls.drawn{P:eX}{f:FuncId}{args:Array aC}{w:au}{R:Ending->au->Prop}(h:aQ P f args w R):aQ P f args w (fun e w'=>R e w'/\(e≠.outgrown->w.drawn<=w'.drawn)):=by
 intro cs;obtain⟨e,w',fr,h1,h2,h3,h4⟩:=h cs;refine⟨e,w',fr,⟨h1,fun he=>?_⟩,h2,h3,h4⟩;cases e with
 | returned v=>exact QA h2
 | panicked c=>exact QA h2
 | outgrown=>exact absurd rfl he
open Go.RowKit in
theorem apr {w w':au} (hb:Below w.a.j w w') (hd:w.drawn<=w'.drawn):∃q os,w'=Sort.grow (w.drewN q) os:=by
 refine⟨w'.drawn-w.drawn,w'.a.extract w.a.j w'.a.j,?_⟩;have hh:w'.a=w.a++w'.a.extract w.a.j w'.a.j:=by
  apply Array.ext_getElem?;intro i;rw[Array.getElem?_append];split
  ·rename_i h;exact hb.block i h
  ·rename_i h
   rw[Array.getElem?_extract];have:=hb.j;by_cases hi:i<w'.a.j
   ·rw[if_pos (by omega),show w.a.j+(i-w.a.j)=i by omega]
   ·rw[if_neg (by omega),Array.getElem?_eq_none (by omega)]
 obtain⟨h,t,d,o,u⟩:=w';have h1:=hb.os;have h2:=hb.tape;have h3:=hb.output;simp only at h1 h2 h3 hh hd;subst h1 h2 h3;unfold Sort.grow World.drewN;simp only;congr 1;omega
open Go.RowKit in
theorem Calls.axU {P:eX} {f:FuncId} {args:Array aC} {w:au} {v:aC} (h:aQ P f args w fun e w'=>e=.returned v/\Below w.a.j w w'):aQ P f args w fun e w'=>e=.returned v/\∃q os,w'=Sort.grow (w.drewN q) os:=by
 refine(Calls.drawn h).mono ?_;rintro e w' ⟨⟨rfl,hb⟩,hd⟩;exact⟨rfl,apr hb (hd (fun h=>by cases h))⟩
end Go.Proofs.YtkjojjopamaoiaaGreat
