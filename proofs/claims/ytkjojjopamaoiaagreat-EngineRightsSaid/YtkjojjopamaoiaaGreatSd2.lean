/- Parts. -/
import Derived.Sort.Grow
import Derived.Test.YtkjojjopamaoiaaGreatSd1
set_option linter.all false
set_option maxRecDepth 100000
set_option maxHeartbeats 8000000
open Array renaming size->Array.j,setIfInBounds->Array.c
open ByteArray renaming size->ByteArray.j
open Except renaming ok->Except.Y
open Go renaming World->ak,Addr->aT,Program->eD,Value->aB,Frame->zm,Machine->FZ,Calls->aP,wpQuiet_nil->eG,wp_region_any->zk
open Go.FrameMode renaming run->Go.FrameMode.G
open Go.Lib renaming hid->ab
open Go.Obj renaming cells->Go.Obj.D
open Go.Result renaming ok->Go.Result.Y
open Go.RowKit renaming Below->aL
open Go.RowKit.Below renaming size->Go.RowKit.Below.j
open Go.RowKit.Hid renaming out->Go.RowKit.Hid.i
open Go.Sem renaming run->Go.Sem.G
open Go.Timer renaming name->Go.Timer.E
open Go.Value renaming cells->Go.Value.D
open Go.World renaming heap->Go.World.a,cell?->Go.World.b,setCell->Go.World.F,drawn->Go.World.Z
open List renaming range->bY,length->List.a
open Nat renaming le_refl->av,le_trans->aO,le_succ->Nl,le_of_eq->aX,add_sub_cancel->yR,below->Nat.M
namespace Go.Proofs.YtkjojjopamaoiaaGreat
open Go.RowKit
def GM(n:Nat):GStep->Prop
 | .go _ w _=>n<=w.Z
 | .comm _ _ _ _ w _=>n<=w.Z
 | .spawn _ _ w _=>n<=w.Z
 | .count _ w _=>n<=w.Z
 | .timer _ _ w _=>n<=w.Z
 | .alone _ _ w _=>n<=w.Z
 | .newcoro _ _ _ w _=>n<=w.Z
 | .coroswitch _ _ _ w _=>n<=w.Z
 | .collect _ w _=>n<=w.Z
 | .watch _ w _=>n<=w.Z
 | .ended _ _ _=>True
def SM(n:Nat):Stepped->Prop
 | .next m=>n<=m.world.Z
 | .ended _ _=>True
def atS{α:Type}:Result α->ak
 | .Y _ w=>w
 | .halt _ w=>w
theorem GM.after{n:Nat}{es:Array Event}{s:GStep}(h:GM n s):GM n (s.after es):=by cases s<;>exact h
theorem aa0(w:ak)(a:aT)(n:Nat):(w.freeze a n).Z=w.Z:=by unfold World.freeze;split<;>rfl
theorem ajl{α:Type}(a:Ask α):∀w:ak,w.Z<=(w.ask a).2.Z:=by
 induction a with
 | done a=>intro w;exact av _
 | ask what range k ih=>
   intro w;unfold World.ask;simp only;split
   ·exact ih _ w
   ·have:=ih ((Question.extern what range).cut (w.tape w.Z (Question.extern what range))) {w with drawn:=w.Z+1}
    exact aO (Nl _) this
theorem ajm(w:ak)(c:Sys):w.Z<=(w.sys c).2.Z:=by
 have h:=ajl (Kernel.perform c w.os) w;unfold World.sys;split
 ·exact av _
 ·rename_i e;rw[e]at h;exact h
theorem TU{p:eD}{w w':ak}{fH:aT}{u:TypeId}{k:aT}{v:aB}{atomic:Bool}{t:List aT}(h:w.viewStore p fH u k v atomic = .Y (w',t)):w'.Z=w.Z:=by
 unfold World.viewStore at h;simp only[bind,Except.bind,pure,Except.pure,throw,throwThe,MonadExceptOf.throw]at h
 repeat' split at h
 all_goals first
  | cases h;done
  | (injection h with h;injection h with h1 h2;rw[<-h1])
theorem VD{p:eD}{w w':ak}{a:aT}{v:aB}{atomic:Bool}{t:List aT}(h:w.farStore p a v atomic = .Y (w',t)):w'.Z=w.Z:=by
 unfold World.farStore at h;split at h
 ·split at h
  ·rename_i r hr
   injection h with h
   subst h;exact TU hr
  ·cases h
 ·cases h
theorem KR{α:Type}(p:eD)(s:Sem α):∀w:ak,w.Z<=(atS (s.G p w)).Z:=by
 induction s with
 | pure a=>intro w;exact av _
 | load m a k ih=>
   intro w;unfold Sem.run;split
   ·exact ih _ w
   ·split
    ·exact ih _ w
    ·exact av _
 | store m a v k ih=>
   intro w;cases v<;>simp only[Sem.run]<;>first
    | exact av _
    | (split
       ·split
        ·exact av _
        ·exact ih (w.F a _)
       ·split
        ·rename_i e
         rw[<-VD e];exact ih _
        ·exact av _)
 | new o k ih=>intro w;exact ih _ {w with heap:=w.a.push o}
 | shape r k ih=>intro w;exact ih _ w
 | freeze a n k ih=>intro w;have:=ih (w.freeze a n);rw[aa0]at this;exact this
 | frozen a k ih=>intro w;exact ih _ w
 | getObj r k ih=>
   intro w;unfold Sem.run;split
   ·exact av _
   ·exact ih _ w
   ·exact av _
 | setObj r o k ih=>
   intro w;unfold Sem.run;split
   ·exact av _
   ·exact ih {w with heap:=w.a.c r o}
   ·exact av _
 | choose q k ih=>
   intro w;unfold Sem.run;split
   ·exact ih _ w
   ·exact aO (Nl _) (ih _ {w with drawn:=w.Z+1})
 | sys c k ih=>intro w;exact aO (ajm w c) (ih _ _)
 | program k ih=>intro w;exact ih _ w
 | mark m k ih=>intro w;exact ih w
 | halt h=>intro w;exact av _
theorem sG{α:Type}(p:eD)(s:Sem α):∀(w:ak)(es:Array Event),w.Z<=(atS (s.runT p w es).1).Z:=fun w es=>by rw[Sem.runT_fst];exact KR p s w
theorem wC{α:Type}{p:eD}{s:Sem α}{w w':ak}{v:α}(h:s.G p w = .Y v w'):w.Z<=w'.Z:=by have:=KR p s w;rw[h]at this;exact this
theorem amd{α:Type}{p:eD}{s:Sem α}{w w':ak}{v:Halt}(h:s.G p w=.halt v w'):w.Z<=w'.Z:=by have:=KR p s w;rw[h]at this;exact this
theorem VE{n:Nat}{c:Prop}[Decidable c]{a b:GStep}(ha:GM n a)(hb:GM n b):GM n (if c then a else b):=by split<;>assumption
theorem apT{α:Type}{p:eD}{s:Sem α}{w w':ak}{v:α}{es es':Array Event}(h:s.runT p w es=(.Y v w',es')):w.Z<=w'.Z:=by have:=sG p s w es;rw[h]at this;exact this
theorem ajn{α:Type}{p:eD}{s:Sem α}{w w':ak}{v:Halt}{es es':Array Event}(h:s.runT p w es=(.halt v w',es')):w.Z<=w'.Z:=by have:=sG p s w es;rw[h]at this;exact this
theorem afS(n:Nat)(w:ak)(fd:Nat)(text:ByteArray)(o:Outcome):GM n (endWith w fd text o):=by
 unfold endWith;simp only
 repeat' split
 all_goals trivial
theorem ame(fr:zm)(ahead:List ByteArray)(m:String)(whole:Bool)(w:ak):GM w.Z (dieOf fr ahead m whole w):=av _
theorem zV(fr:zm)(m:String)(w:ak):GM w.Z (endThrow fr m w):=av _
theorem Jz(p:eD)(fr:zm)(v:aB)(w:ak):GM w.Z (endPrinting p fr v w):=by
 unfold endPrinting;simp only;split
 ·exact zV _ _ _
 ·trivial
theorem GM.le{n m:Nat}{s:GStep}(h:GM m s)(hn:n<=m):GM n s:=by
 cases s<;>first|exact aO hn h|trivial
theorem Sn(p:eD)(fr:zm)(callers:List zm)(dying:Option Dying)(m:String)(w:ak):GM w.Z (endFatal p fr callers dying m w):=by
 unfold endFatal;simp only;split
 ·rename_i h;exact(ame _ _ _ _ _).le (wC h)
 ·trivial
 ·trivial
theorem afT(p:eD)(fr:zm)(d:Dying)(f:Fatal)(w:ak):GM w.Z (writeOn p fr d f w):=by
 unfold writeOn;simp only;split
 ·trivial
 ·split
  ·rename_i h;exact apT h
  ·rename_i h;exact ajn h
  ·trivial
  ·trivial
theorem JA(p:eD)(main:Bool)(fr:zm)(callers:List zm)(dying:Option Dying)(v:aB)(w:ak):GM w.Z (doReturn p main fr callers dying v w):=by
 unfold doReturn
 repeat' split
 all_goals first|exact av _|trivial
theorem TV(p:eD)(fr:zm)(callers:List zm)(dying:Option Dying)(d:Deferred)(w:ak):GM w.Z (callDeferred p fr callers dying d w):=by
 unfold callDeferred;refine VE trivial ?_
 ·have h:=sG p (invoke d.target d.args) w #[]
  generalize(invoke d.target d.args).runT p w #[]=x at h ⊢;obtain⟨r,es⟩:=x;simp only at h ⊢;refine GM.after ?_
  repeat' split
  all_goals first|exact h|trivial|exact(Sn _ _ _ _ _ _).le h|exact(zV _ _ _).le h
theorem ajo(p:eD)(main:Bool)(fr:zm)(callers:List zm)(dying:Option Dying)(w:ak):GM w.Z (unwind p main fr callers dying w):=by
 unfold unwind;split
 ·rename_i block _ ds hd
  have h:=sG p (Instr.takeDeferred block) w #[];generalize(Instr.takeDeferred block).runT p w #[]=x at h ⊢;obtain⟨r,es⟩:=x;simp only at h ⊢;refine GM.after ?_;split
  ·exact h
  ·trivial
 ·exact TV _ _ _ _ _ _
 ·split
  ·trivial
  ·split
   ·trivial
   ·split
    ·exact av _
    ·split
     ·split
      ·exact av _
      ·split
       ·rename_i h;exact wC h
       ·trivial
       ·trivial
     ·split
      ·exact Jz _ _ _ _
      ·trivial
  ·split
   ·exact JA _ _ _ _ _ _ _
   ·rename_i fn hfn
    have h:=sG p (results fn fr.tmps) w #[];generalize(results fn fr.tmps).runT p w #[]=x at h ⊢;obtain⟨r,es⟩:=x;simp only at h ⊢;refine GM.after ?_;split
    ·exact(JA _ _ _ _ _ _ _).le h
    ·trivial
    ·trivial
theorem amf(p:eD)(fr:zm)(callers:List zm)(dying:Option Dying)(g:Nat)(w:ak):GM w.Z (early p fr callers dying g w):=by
 unfold early;simp only
 repeat' split
 all_goals first|exact av _|trivial|(have h:=wC (p:=p) (w:=w) (by assumption);exact h)
theorem atT(p:eD)(fr:zm)(d:Dying)(w:ak):GM w.Z (die p fr d w):=by
 unfold die;split
 ·exact afT _ _ _ _ _
 ·split
  ·exact VE (av _) (afS _ _ _ _ _)
  ·simp only
   split
   ·exact av _
   ·split
    ·rename_i h;exact wC h
    ·trivial
   ·rename_i t recv name hp
    have h:=sG p (invoke (.fn (.method name) #[]) #[.iface t recv]) w #[];generalize(invoke (.fn (.method name) #[]) #[.iface t recv]).runT p w #[]=x at h ⊢;obtain⟨r,es⟩:=x;simp only at h ⊢;refine GM.after ?_
    repeat' split
    all_goals first|exact h|trivial|exact(Jz _ _ _ _).le h
   ·trivial
theorem JB(p:eD)(listen:Bool)(fr:zm)(callers:List zm)(dying:Option Dying)(s:Sem Next)(w:ak):GM w.Z (stepG.apply p listen fr callers dying s w):=by
 unfold stepG.apply;have h:w.Z<=(atS (if listen=true then s.runT p w #[]else(s.G p w,#[])).1).Z:=by
  split
  ·exact sG p s w #[]
  ·exact KR p s w
 generalize(if listen=true then s.runT p w #[]else(s.G p w,#[]))=x at h ⊢;obtain⟨r,es⟩:=x;simp only at h ⊢;refine GM.after ?_
 repeat' split
 all_goals first|exact h|trivial|exact(Sn _ _ _ _ _ _).le h|exact(zV _ _ _).le h|exact(amf _ _ _ _ _ _).le h
theorem apU(p:eD)(listen:Bool)(fr:zm)(callers:List zm)(dying:Option Dying)(w:ak):GM w.Z (stepG.oper p listen fr callers dying w):=by
 unfold stepG.oper
 repeat' split
 all_goals first|trivial|exact JB _ _ _ _ _ _ _
theorem amg(p:eD)(main listen:Bool)(fr:zm)(callers:List zm)(dying:Option Dying)(w:ak)(l:Nat)(jump:Option Code):GM w.Z (match (Instr.endRound l jump).runT p w #[]with
 | (r,es)=>GStep.after (seen p fr.fn es) (match r with
  | .Y v w=>doReturn p main fr callers dying v w
  | .halt _ w=>.ended (.stuck "range over a function: no such loop" (fr.pos p)) w)):=by
 have h:=sG p (Instr.endRound l jump) w #[];generalize(Instr.endRound l jump).runT p w #[]=x at h ⊢;obtain⟨r,es⟩:=x;simp only at h ⊢;refine GM.after ?_;split
 ·exact(JA _ _ _ _ _ _ _).le h
 ·trivial
theorem apV(p:eD)(main listen:Bool)(fr:zm)(callers:List zm)(dying:Option Dying)(w:ak):GM w.Z (stepG.exec p main listen fr callers dying w):=by
 unfold stepG.exec;extract_lets go t0o lost leave;have hl:∀jump:Option Code,GM w.Z (leave jump):=by
  intro jump;unfold leave;split
  ·exact VE (av _) trivial
  ·exact amg p main listen fr callers dying w _ jump
 split
 ·exact hl none
 ·exact hl (some .ret)
 ·exact av _
 ·exact av _
 ·exact av _
 ·exact av _
 ·exact av _
 ·split
  ·exact av _
  ·trivial
 ·exact av _
 ·exact av _
 ·exact av _
 ·exact av _
 ·rename_i id k hk
  cases exitTo id k with
  | none=>exact hl (some (.exit id))
  | some y=>exact av _
 ·rename_i l k hk
  cases gotoIn l k with
  | none=>exact hl (some (.goto l))
  | some y=>exact av _
 ·rename_i f params assign body k hk
  have h:=sG p (Instr.enterLoop fr.fn fr.tmps params assign body fr.roundOf) w #[];generalize(Instr.enterLoop fr.fn fr.tmps params assign body fr.roundOf).runT p w #[]=x at h ⊢;obtain⟨r,es⟩:=x;simp only at h ⊢;refine GM.after ?_;split
  ·exact(JB _ _ _ _ _ _ _).le h
  ·trivial
 ·trivial
 ·exact JB _ _ _ _ _ _ _
 ·rename_i l k hk
  have h:=sG p (Instr.endLoop l) w #[];generalize(Instr.endLoop l).runT p w #[]=x at h ⊢;obtain⟨r,es⟩:=x;simp only at h ⊢;refine GM.after ?_;split
  ·exact h
  ·exact h
  ·trivial
 ·trivial
 ·exact JB _ _ _ _ _ _ _
 ·rename_i row args _ hk
  cases Extern.next row with
  | none=>trivial
  | some e=>exact JB _ _ _ _ _ _ _
 ·refine VE (av _) ?_
  split
  ·rename_i h;exact wC h
  ·trivial
 ·exact av _
 ·exact VE (apU _ _ _ _ _ _) (av _)
theorem apW(p:eD)(main:Bool)(g:Goroutine)(w:ak)(listen:Bool):GM w.Z (stepG p main g w listen):=by
 unfold stepG;simp only;split
 ·exact atT _ _ _ _
 ·exact apV _ _ _ _ _ _ _
 ·exact ajo _ _ _ _ _ _
theorem afU{n:Nat}{c:Prop}[Decidable c]{a b:Stepped×Array MemOp}(ha:SM n a.1)(hb:SM n b.1):SM n (if c then a else b).1:=by split<;>assumption
theorem ahN{n:Nat}{c:Prop}[Decidable c]{a b:Stepped}(ha:SM n a)(hb:SM n b):SM n (if c then a else b):=by split<;>assumption
theorem Ye{rest:Rest}{cs:Array CommCase}{w w':ak}(h:waitingAt rest cs w=some w'):w'.Z=w.Z:=by
 unfold waitingAt at h;split at h
 ·split at h
  ·injection h with h;rw[<-h]
  ·cases h
 ·injection h with h;rw[h]
theorem apX(p:eD)(rest:Rest)(gs:Array Goroutine)(i:Nat)(g:Goroutine)(aa1:Array CommCase)(blocking:Bool)(shape:CommShape)(w:ak):SM w.Z (communicate p rest gs i g aa1 blocking shape w).1:=by
 unfold communicate;extract_lets put illMade me aGO ready pick;have hp:∀g gs (w':ak) ops,w.Z<=w'.Z->SM w.Z (put g gs w' ops).1:=fun _ _ _ _ h=>h
 refine afU trivial (afU (afU ?_ ?_) ?_)
 ·split
  ·rename_i h;exact aX (Ye h).symm
  ·trivial
 ·exact hp _ _ _ _ (av _)
 ·split
  ·trivial
  ·rename_i k c way w1 hr
   have h1:=wC hr;extract_lets r;split
   ·split
    ·rename_i hh
     exact hp _ _ _ _ (aO h1 (amd hh))
    ·trivial
   ·exact hp _ _ _ _ h1
   ·exact hp _ _ _ _ h1
   ·extract_lets v aI7
    split
    ·exact hp _ _ _ _ h1
    ·split
     ·rename_i hb
      have h2:=wC hb;exact aO h1 h2
     ·trivial
   ·exact hp _ _ _ _ h1
   ·exact hp _ _ _ _ h1
   ·trivial
theorem ahO(p:eD)(gs:Array Goroutine)(rest:Rest)(w:ak):SM w.Z (look p gs rest w):=by
 unfold look;split
 ·split
  extract_lets;refine ahN trivial ?_;split
  ·trivial
  ·extract_lets
   split
   ·rename_i h
    have h2:=wC h;exact h2
   ·trivial
   ·trivial
 ·trivial
theorem YS(m:FZ)(k:Nat)(t:Timer)(a b:Nat):(retime m k t a b).2.world.Z=m.world.Z:=by
 unfold retime;simp only;split
 ·unfold drain;split<;>rfl
 ·rfl
theorem amh{m m':FZ}{op:TimerOp}{v:aB}(h:timerOp m op = .Y (v,m')):m'.world.Z=m.world.Z:=by
 unfold timerOp at h;split at h
 ·split at h
  ·injection h with h;injection h with h1 h2;rw[<-h2];rfl
  ·split at h
   ·split at h
    ·cases h
    ·injection h with h;injection h with h1 h2;rw[<-h2]
   ·cases h
 ·unfold timerOp.named at h
  split at h
  ·injection h with h
   have:=congrArg (fun x=>x.2.world.Z) h;simp only at this;rw[<-this,YS]
  ·cases h
 ·split at h
  ·rename_i m1 hm
   have e:m1.world.Z=m.world.Z:=by
    unfold timerOp.opened at hm;split at hm
    ·split at hm
     ·injection hm with hm;rw[<-hm]
     ·cases hm
    ·injection hm with hm;rw[<-hm]
   unfold timerOp.named at h;split at h
   ·injection h with h
    have:=congrArg (fun x=>x.2.world.Z) h;simp only at this;rw[<-this,YS,e]
   ·cases h
  ·cases h
 ·extract_lets at h
  injection h with h;injection h with h1 h2;rw[<-h2];rfl
theorem ami(p:eD)(m:FZ)(k:Nat):SM m.world.Z (serve p m k):=by
 unfold serve;split
 ·trivial
 ·exact av _
 ·extract_lets
  split
  ·trivial
  ·exact av _
theorem apY(p:eD)(m:FZ)(i:Nat)(listen:Bool):SM m.world.Z (runT p m i listen).1:=by
 unfold runT;extract_lets rest world;split;rename_i g gs hsw;extract_lets wake fn pos s ops done;have h:GM m.world.Z s:=apW p (i==0) g world listen;have hd:∀r,(done r).1=r:=fun _=>rfl
 generalize s=s at h;cases s with
 | ended o w es=>trivial
 | comm g aa1 b sh w es=>
   have h2:=apX p rest gs i g aa1 b sh w;simp only;generalize communicate p rest gs i g aa1 b sh w=x at h2 ⊢;obtain⟨r,lN⟩:=x;simp only at h2 ⊢;cases r with
   | next m2=>exact aO h h2
   | ended=>trivial
 | go g w es=>exact h
 | spawn g c w es=>exact h
 | count g w es=>
   simp only;rw[hd];refine ahN trivial ?_;exact h
 | alone g on w es=>exact h
 | collect g w es=>
   simp only;rw[hd];have h2:=ahO p (gs.c i g) rest w;generalize look p (gs.c i g) rest w=r at h2 ⊢;cases r with
   | next m2=>exact aO h h2
   | ended=>trivial
 | watch g w es=>exact h
 | newcoro g c d w es=>exact h
 | coroswitch g c exit w es=>
   simp only;rw[hd];split
   ·exact h
   ·have h2:=zV g.frame "coroswitch on exited coro" w
    split
    ·rename_i e;rw[e]at h2;exact aO h h2
    ·trivial
   ·trivial
 | timer g op w es=>
   simp only;rw[hd];split
   ·rename_i ht;have h2:=amh ht;show _<=_;exact aO h (aX h2.symm)
   ·rename_i msg ht
    have h2:=zV g.frame msg w;split
    ·rename_i e;rw[e]at h2;exact aO h h2
    ·trivial
   ·trivial
   ·trivial
theorem SM.le{n m:Nat}{s:Stepped}(h:SM m s)(hn:n<=m):SM n s:=by cases s with|next m2=>exact aO hn h|ended=>trivial
def MM(n:Nat):Move->Prop
 | .goroutine m _=>n<=m.world.Z
 | .machine s _=>SM n s
theorem VF(p:eD)(m:FZ):MM m.world.Z (askOn p m):=by
 unfold askOn;extract_lets mono rs ds pick;have hp:∀m2:FZ,m.world.Z<=m2.world.Z->MM m.world.Z (pick m2):=by
  intro m2 h;unfold pick;split
  ·trivial
  ·rename_i hk
   have h1:=wC hk;split
   ·exact aO h h1
   ·split
    ·trivial
    ·rename_i hn
     have h2:=wC hn;exact aO h (aO h1 h2)
 split
 ·trivial
 ·rename_i k world hk
  have h1:=wC hk;extract_lets m1;have hm:m.world.Z<=m1.world.Z:=h1
  clear_value pick m1
  clear hk
  clear_value ds rs
  split
  ·exact SM.le (ami p m1 _) hm
  ·cases rs with
   | nil=>
     simp only;split
     ·exact hm
     ·split
      ·exact hm
      ·split<;>trivial
   | cons r rs=>
     simp only;split
     ·exact hp _ hm
     ·split
      ·trivial
      ·rename_i hw;have h2:=wC hw;exact hp _ (by first|exact aO hm h2|exact aO h1 h2)
      ·rename_i hw;have h2:=wC hw;first|exact aO hm h2|exact aO h1 h2
      ·rename_i hw;have h2:=wC hw;exact hp _ (by first|exact aO hm h2|exact aO h1 h2)
theorem MM.le{n m:Nat}{s:Move}(h:MM m s)(hn:n<=m):MM n s:=by
 cases s with
 | goroutine m2 i=>exact aO hn h
 | machine s ops=>exact SM.le h hn
theorem amj(p:eD)(m:FZ):MM m.world.Z (ask p m):=by
 unfold ask;split
 ·split
  ·trivial
  ·rename_i hk
   have h1:=wC hk;have h2:=ahO p m.gs m.rest (by assumption);split
   ·rename_i e
    rw[e]at h2;exact(VF p _).le (aO h1 h2)
   ·exact SM.le h2 h1
  ·rename_i hk
   have h1:=wC hk;exact(VF p _).le h1
 ·exact VF p m
theorem apZ(p:eD)(m:FZ):MM m.world.Z (move p m):=by
 unfold move;split
 ·split
  ·exact av _
  ·trivial
 ·split
  ·split
   ·exact av _
   ·exact amj p _
  ·exact amj p m
theorem ap0(p:eD)(m:FZ):SM m.world.Z (step p m):=by
 unfold step stepT;have h:=apZ p m;split
 ·rename_i m2 i e
  rw[e]at h;exact(apY p m2 i true).le h
 ·rename_i s ops e
  rw[e]at h;exact h
theorem ahP(p:eD):∀(n:Nat)(m:FZ),SM m.world.Z (runN p n m)
 | 0,m=>av _
 | n+1,m=>by
   unfold runN;have h:=ap0 p m;split
   ·rename_i m2 e
    rw[e]at h;exact(ahP p n m2).le h
   ·exact h
theorem Sq{P:eD}{m m':FZ}(h:Steps P m m'):m.world.Z<=m'.world.Z:=by
 obtain⟨n,hn⟩:=h;have:=ahP P n m;rw[hn]at this;exact this
theorem Calls.Z{P:eD}{f:FuncId}{args:Array aB}{w:ak}{R:Ending->ak->Prop}(h:aP P f args w R):aP P f args w (fun e w'=>R e w'/\(e≠.outgrown->w.Z<=w'.Z)):=by
 intro cs;obtain⟨e,w',fr,h1,h2,h3,h4⟩:=h cs;refine⟨e,w',fr,⟨h1,fun he=>?_⟩,h2,h3,h4⟩;cases e with
 | returned v=>exact Sq h2
 | panicked c=>exact Sq h2
 | outgrown=>exact absurd rfl he
open Go.RowKit in
theorem ap1 {w w':ak} (hb:aL w.a.j w w') (hd:w.Z<=w'.Z):∃q os,w'=Sort.grow (w.drewN q) os:=by
 refine⟨w'.Z-w.Z,w'.a.extract w.a.j w'.a.j,?_⟩;have hh:w'.a=w.a++w'.a.extract w.a.j w'.a.j:=by
  apply Array.ext_getElem?;intro i;rw[Array.getElem?_append];split
  ·rename_i h;exact hb.block i h
  ·rename_i h
   rw[Array.getElem?_extract];have:=hb.j;by_cases hi:i<w'.a.j
   ·rw[if_pos (by omega),show w.a.j+(i-w.a.j)=i by omega]
   ·rw[if_neg (by omega),Array.getElem?_eq_none (by omega)]
 obtain⟨h,t,d,o,u⟩:=w';have h1:=hb.os;have h2:=hb.tape;have h3:=hb.output;simp only at h1 h2 h3 hh hd;subst h1 h2 h3;unfold Sort.grow World.drewN;simp only;congr 1;omega
open Go.RowKit in
theorem Calls.aym {P:eD} {f:FuncId} {args:Array aB} {w:ak} {v:aB} (h:aP P f args w fun e w'=>e=.returned v/\aL w.a.j w w'):aP P f args w fun e w'=>e=.returned v/\∃q os,w'=Sort.grow (w.drewN q) os:=by
 refine(Calls.Z h).mono ?_;rintro e w' ⟨⟨rfl,hb⟩,hd⟩;exact⟨rfl,ap1 hb (hd (fun h=>by cases h))⟩
theorem aa2(l:List Bk)(hf:∀x∈l,x.oQ)(v:Int)(A:Option aT)(c:Nat)(w:ak)(hR:Dg w w.a.j A l.a l)(hn:l.a<4611686018427387904):
 aP Tryz.prog 50 #[.agg #[.int .i64 v,.slice A l.a c]] w (fT w (.bool (rU v l))):=by
 have hb0:∀ob,aL w.a.j w (w.alloc ob):=fun ob=>(Below.refl _ _).alloc (av _) _
 have HB0:=ab hb0;clear hb0;have HR:=ab hR;have HF:=ab hf;clear hR hf;have hp:rU v l=(decide (0<=v)&&decide (v<=1099511627776)&&decide (l.a<=1024)&&(bY l.a).all (xV l)):=rfl;have HP:=ab hp;clear hp;by_cases h1:0<=v;rotate_left
 ·have h1':v<0:=by omega
  go_enter Tryz.func50,Tryz.ntmps50;go_wp2;go_ret;exact⟨by rw[HP.i];simp<;>intros<;>omega,HB0.i _⟩
 by_cases h2:v<=1099511627776;rotate_left
 ·go_enter Tryz.func50,Tryz.ntmps50
  go_wp2;go_ret;exact⟨by rw[HP.i];simp<;>intros<;>omega,HB0.i _⟩
 by_cases h3:l.a<=1024;rotate_left
 ·go_enter Tryz.func50,Tryz.ntmps50
  go_wp2;go_ret;exact⟨by rw[HP.i];simp<;>intros<;>omega,HB0.i _⟩
 obtain⟨n,hnl⟩:=bZ l.a;rw[<-hnl]at HR hn h3 ⊢;have HN:=ab hnl;clear hnl;go_enter Tryz.func50,Tryz.ntmps50;go_wp2;go_loopw [3] (fun s3 wr=>∃i:Nat,i<=n/\s3=.int .i64 i/\(bY i).all (xV l)=true/\aL (w.a.j+1) (w.alloc (.D #[.int .i64 v,.slice A n c] 32)) wr) (fun s3 _=>n-(intOf s3).toNat)
 case atStart=>exact⟨0,by omega,rfl,rfl,by simpa using Below.refl _ _⟩
 case round=>
  obtain⟨i,hin,rfl,hall,hb⟩:=hrel;have HA:=ab hall;have hB:=(HB0.i (.D #[.int .i64 v,.slice A n c] 32)).trans (hb.mono (by simp));have hcl:wr.b ⟨w.a.j,1,none⟩=some (.slice A n c):=by
   rw[hb.cell (by simp)];go_simp
  have HB:=ab hb;have HBW:=ab hB;have hsz:=hb.j;clear hall hb hB;by_cases hlt:i<n
  ·have hi:(i:Int)<n:=by omega
   have hR1:=HR.i.M HBW.i;obtain⟨b,o,rfl,hbb,hh,hc⟩:=hR1.fH hlt;have hbs:b<wr.a.j:=by simp at hsz;omega
   have hmem:l.getD i iO∈l:=by
    have:=HN.i;rw[List.getD_eq_getElem?_getD,List.getElem?_eq_getElem (by omega)];simp
   obtain⟨hx1,hx2⟩:=HF.i _ hmem;have hok:xV l i=((l.getD i iO).yh&&Li (l.getD i iO).w&&(decide (i=0)||decide (mg (nm l (i-1)) (nm l i)<0))):=rfl;have hnm:nm l i=(l.getD i iO).E:=rfl;rw[hnm]at hok;obtain⟨x,hx⟩:=bZ (l.getD i iO);rw[<-hx]at hc hx1 hx2 hok;have Dt:=ab hok;clear hx hok hnm hmem;obtain⟨K1,hK1⟩:∃K,x.yh=K:=⟨_,rfl⟩
   have hn4:wr.a.j<(wr.alloc (.D x.ay 62)).a.j:=by simp
   have HX1:=ab hx1;have hS:∀b' o' pn,b'<wr.a.j->wr.b ⟨b',o',none⟩=some (.string (bP pn))->SR wr.a.j x w.a.j (.slice (some ⟨b,o,none⟩) n c) b' o' pn (wr.alloc (.D x.ay 62)):=by
    intro b' o' pn h1 h2;refine⟨by simp,by simp at hsz⊢;omega,by simp;omega,?_,?_,?_,?_,?_,?_⟩
    ·rw[Ms];trivial
    ·exact BU _ _ _
    ·rw[lX];exact Bk.nS x
    ·rw[lX];exact Bk.aaz x
    ·rw[World.cell?_alloc_lt _ _ _ (by simp at hsz⊢;omega)];exact hcl
    ·rw[World.cell?_alloc_lt _ _ _ (by simpa using h1)];exact h2
   have hpn:∃pn,(0<i->wr.b ⟨b,o+(i-1)*27,none⟩=some (.string (bP pn))/\nm l (i-1)=pn):=by
    refine⟨nm l (i-1),fun h0=>⟨?_,rfl⟩⟩;obtain⟨b',o',Vj,_,hcc⟩:=hR1.cell (k:=i-1) (by omega);injection Vj with Vj
    injection Vj with e1 e2
    subst e1 e2;have:=hcc 0 (by omega);rw[Bk.nS]at this;simpa[nm]using this
   have hn0:wr.b ⟨b,o+i*27,none⟩=some (.string (bP x.E)):=by
    have:=hh 0 (by omega);obtain⟨u,hu⟩:=this;have hg:=DJ wr b (o+i*27) 27 0 (by omega);rw[hc,Bk.nS]at hg;rw[hu]at hg;simp at hg hu;rw[hu,<-hg]
   have Jp:∀b' o' pn,b'<wr.a.j->wr.b ⟨b',o',none⟩=some (.string (bP pn))->∃(T:Type)(f:T->ak)(n0:T),f n0=(wr.alloc (.D x.ay 62)).drew/\(∀m W1,aL (f m).a.j (f m) W1->∃m',W1=f m')/\(∀m,aL (w.a.j+1) (w.alloc (.D #[.int .i64 v,.slice (some ⟨b,o,none⟩) n c] 32)) (f m)) /\
    (∀m,(Jj (.pointer (some ⟨wr.a.j,0,none⟩))).G Tryz.prog (f m) = .Y (.agg x.ay) (f m))/\(∀m,(f m).b ⟨wr.a.j,0,none⟩=some (.string (bP x.E)))/\(∀m,(f m).b ⟨wr.a.j,25,none⟩=some (.float .f64 x.w)) /\
     (∀m,(f m).b ⟨w.a.j,1,none⟩=some (.slice (some ⟨b,o,none⟩) n c))/\(∀m,(f m).b ⟨b',o',none⟩=some (.string (bP pn))):=by
    intro b' o' pn h1 h2;obtain⟨T,f,n0,e0,eS,eT⟩:=Cc (fun W=>SR wr.a.j x w.a.j (.slice (some ⟨b,o,none⟩) n c) b' o' pn W/\aL (w.a.j+1) (w.alloc (.D #[.int .i64 v,.slice (some ⟨b,o,none⟩) n c] 32)) W)
     (wr.alloc (.D x.ay 62)) ⟨hS _ _ _ h1 h2,(HB.i.alloc (by simp at hsz;omega) _).drew⟩
    refine⟨T,f,n0,e0,?_,fun m=>(eS m).2,fun m=>(eS m).1.load,fun m=>(eS m).1.2.2.2.2.2.1,fun m=>(eS m).1.2.2.2.2.2.2.1,fun m=>(eS m).1.2.2.2.2.2.2.2.1,fun m=>(eS m).1.2.2.2.2.2.2.2.2⟩;intro m W1 hb;have:=(eS m).2.j;exact eT _ ⟨(eS m).1.M hb,(eS m).2.trans (hb.mono (by simpa using this))⟩
   have pJ:∀K,x.yh=K->∀W,aP Tryz.prog 118 #[.agg x.ay] W fun e w'=>e=.returned (.bool K)/\aL W.a.j W w':=fun K h W=>by
    have:=apw x W hx1 hx2;rw[h]at this;exact this
   have aa3:∀b' o' pn,b'<wr.a.j->wr.b ⟨b',o',none⟩=some (.string (bP pn))->∃S:ak->Prop,S (wr.alloc (.D x.ay 62)).drew/\(∀W W1,S W->aL W.a.j W W1->S W1) /\
    (∀W,S W->W.b ⟨wr.a.j,25,none⟩=some (.float .f64 x.w)) /\
    (∀(W:ak)(A2:Option aT),S W->gu W W.a.j A2 8 (BZ x.w)->∃(a2:aT)(T:Type)(f:T->ak)(n0:T),A2=some a2/\f n0=W/\(∀m,aL (w.a.j+1) (w.alloc (.D #[.int .i64 v,.slice (some ⟨b,o,none⟩) n c] 32)) (f m)) /\
     (∀m,(f m).b ⟨wr.a.j,0,none⟩=some (.string (bP x.E))) /\
     (∀m,(f m).b ⟨w.a.j,1,none⟩=some (.slice (some ⟨b,o,none⟩) n c))/\(∀m,(f m).b ⟨b',o',none⟩=some (.string (bP pn)))/\(∀m,(f m).b a2=some (.int .u8 (((BZ x.w).getD 0 0).toNat:Nat)))):=by
    intro b' o' pn h1 h2;refine⟨fun W=>SR wr.a.j x w.a.j (.slice (some ⟨b,o,none⟩) n c) b' o' pn W/\aL (w.a.j+1) (w.alloc (.D #[.int .i64 v,.slice (some ⟨b,o,none⟩) n c] 32)) W,?_,?_,fun W h=>h.1.2.2.2.2.2.2.1,?_⟩
    ·exact⟨hS _ _ _ h1 h2,(HB.i.alloc (by simp at hsz;omega) _).drew⟩
    ·intro W W1 h hb
     have:=h.2.j;exact⟨h.1.M hb,h.2.trans (hb.mono (by simpa using this))⟩
    ·intro W A2 h hr
     obtain⟨a2,rfl,hab,hcell⟩:=hr.fH (k:=0) (by omega);rw[Kt]at hcell;obtain⟨T,f,n0,e0,eS,eT⟩:=alP (fun W=>(SR wr.a.j x w.a.j (.slice (some ⟨b,o,none⟩) n c) b' o' pn W/\aL (w.a.j+1) (w.alloc (.D #[.int .i64 v,.slice (some ⟨b,o,none⟩) n c] 32)) W)/\W.b a2=some (bv ((BZ x.w).getD 0 0))) W ⟨h,hcell⟩;exact⟨a2,T,f,n0,rfl,e0,fun m=>(eS m).1.2,fun m=>(eS m).1.1.2.2.2.2.2.1,fun m=>(eS m).1.1.2.2.2.2.2.2.2.1,fun m=>(eS m).1.1.2.2.2.2.2.2.2.2,fun m=>(eS m).2⟩
   cases K1
   ·have hno:xV l i=false:=by rw[Dt.i,hK1];rfl
    have Jq:=ji (xV l) i n hlt hno;have hPF:rU v l=false:=by rw[HP.i,<-HN.i,Jq];simp
    have HPF:=ab hPF;have XV:=ab (pJ _ hK1);clear hK1 hpn hno Jq hPF pJ;obtain⟨T,f,n0,e0,es,ew,r1,r2,r3,r4,r5⟩:=Jp _ _ _ hbs hn0;have hne:Nonempty T:=⟨n0⟩
    have E0:=ab e0;have ES:=ab es;have EW:=ab ew;clear hS Jp e0 es ew;go_upto_region 7 with fail
    refine lQ f (by kernel_rfl) (by kernel_rfl) n0 E0.i ?_
    repeat(go_big_quiet_step ((first
     | (go_at_call 118;refine(XV.i _).mono ?_;rintro e w1 ⟨rfl,hb1⟩;exact⟨rfl,ES.i _ _ hb1⟩))))
    refine eG ?_;rintro _ ⟨m,rfl⟩;go_wp2;go_ret;exact⟨by rw[HPF.i];rfl,(HB0.i _).trans ((EW.i _).mono (by simp))⟩
   ·have hfb:decide (128<=((BZ x.w).getD 0 0).toNat) = !Li x.w:=ai4 (by
     unfold Bk.yh at hK1;simp only[Bool.and_eq_true]at hK1;exact hK1.2)
    obtain⟨nb,hnb⟩:=bZ (((BZ x.w).getD 0 0).toNat);rw[<-hnb]at hfb aa3;clear hnb;cases hK2:Li x.w
    ·have h128:(128:Int)<=nb:=by
      rw[hK2]at hfb;simp at hfb;omega
     have hno:xV l i=false:=by rw[Dt.i,hK2];simp
     have Jq:=ji (xV l) i n hlt hno;have hPF:rU v l=false:=by rw[HP.i,<-HN.i,Jq];simp
     have HPF:=ab hPF;have XV:=ab (pJ _ hK1);clear hK1 hK2 hpn hno Jq hPF pJ hfb;obtain⟨S,s0,s1,s2,s3⟩:=aa3 _ _ _ hbs hn0;have S0:=ab s0;have S1:=ab s1;have S2:=ab s2;have S3:=ab s3;clear hS Jp aa3 s0 s1 s2 s3;go_upto_region 7 with fail
     refine zk (by kernel_rfl) ?_;change wpAny _ _ _ _ _ _ _ (World.drew _);refine kr 0 (by kernel_rfl) rfl (fun K hK=>?_);go_simp;refine hK _ _ ?_;clear hK K;refine kr 1 (by kernel_rfl) rfl (fun K hK=>?_);go_simp;go_wp2_with (go_at_call 118;refine(XV.i _).mono ?_;rintro e w1 ⟨rfl,hb1⟩;have T1:=ab (S1.i _ _ S0.i hb1);clear hb1;have hw1:=S2.i _ T1.i)
     try(refine hK _ _ ?_;clear hK K)
     refine kr 2 (by kernel_rfl) rfl (fun K hK=>?_);go_simp;refine hK _ _ ?_;clear hK K;refine kr 3 (by kernel_rfl) rfl (fun K hK=>?_);go_simp;refine hK _ _ ?_;clear hK K;refine kr 4 (by kernel_rfl) rfl (fun K hK=>?_);go_simp;refine hK _ _ ?_;clear hK K;refine kr 5 (by kernel_rfl) rfl (fun K hK=>?_);go_simp;refine hK _ _ ?_;clear hK K;refine kr 6 (by kernel_rfl) rfl (fun K hK=>?_);go_simp;go_wp2_with (go_at_call 119;refine(Ca _ hx2 _).mono ?_;rintro e w2 ⟨A2,c2,rfl,hr2,hb2⟩;have T2:=ab (S1.i _ _ T1.i hb2);clear hb2;have HR2:=ab hr2;clear hr2)
     try(refine hK _ _ ?_;clear hK K)
     obtain⟨a2,T,f,n0,rfl,e0,ew,r2,r4,r5,r6⟩:=S3.i _ _ T2.i HR2.i;have hne:Nonempty T:=⟨n0⟩
     have E0:=ab e0;have EW:=ab ew;clear e0 ew;refine GD f (by kernel_rfl) (by kernel_rfl) rfl n0 E0.i ?_
     repeat(go_big_quiet_step (fail))
     refine eG ?_;rintro _ ⟨m,rfl⟩;go_wp2;go_ret;exact⟨by rw[HPF.i];rfl,(HB0.i _).trans ((EW.i _).mono (by simp))⟩
    ·have h128:decide ((128:Int)<=nb)=false:=by
      rw[hK2]at hfb;simp at hfb ⊢;omega
     rcases i with _|i
     ·simp only[Nat.zero_mul,Nat.add_zero]at hh hc hn0
      have hyes:(bY (0+1)).all (xV l)=(bY 0).all (xV l):=by
       rw[yj,Dt.i,hK1,hK2];simp
      have HY:=ab hyes;have XV:=ab (pJ _ hK1);clear hK1 hK2 hpn hyes pJ hfb;obtain⟨S,s0,s1,s2,s3⟩:=aa3 _ _ _ hbs hn0;have S0:=ab s0;have S1:=ab s1;have S2:=ab s2;have S3:=ab s3;clear hS Jp aa3 s0 s1 s2 s3;go_upto_region 7 with fail
      refine zk (by kernel_rfl) ?_;change wpAny _ _ _ _ _ _ _ (World.drew _);refine kr 0 (by kernel_rfl) rfl (fun K hK=>?_);go_simp;refine hK _ _ ?_;clear hK K;refine kr 1 (by kernel_rfl) rfl (fun K hK=>?_);go_simp;go_wp2_with (go_at_call 118;refine(XV.i _).mono ?_;rintro e w1 ⟨rfl,hb1⟩;have T1:=ab (S1.i _ _ S0.i hb1);clear hb1;have hw1:=S2.i _ T1.i)
      try(refine hK _ _ ?_;clear hK K)
      refine kr 2 (by kernel_rfl) rfl (fun K hK=>?_);go_simp;refine hK _ _ ?_;clear hK K;refine kr 3 (by kernel_rfl) rfl (fun K hK=>?_);go_simp;refine hK _ _ ?_;clear hK K;refine kr 4 (by kernel_rfl) rfl (fun K hK=>?_);go_simp;refine hK _ _ ?_;clear hK K;refine kr 5 (by kernel_rfl) rfl (fun K hK=>?_);go_simp;refine hK _ _ ?_;clear hK K;refine kr 6 (by kernel_rfl) rfl (fun K hK=>?_);go_simp;go_wp2_with (go_at_call 119;refine(Ca _ hx2 _).mono ?_;rintro e w2 ⟨A2,c2,rfl,hr2,hb2⟩;have T2:=ab (S1.i _ _ T1.i hb2);clear hb2;have HR2:=ab hr2;clear hr2)
      try(refine hK _ _ ?_;clear hK K)
      obtain⟨a2,T,f,n0,rfl,e0,ew,r2,r4,r5,r6⟩:=S3.i _ _ T2.i HR2.i;have hne:Nonempty T:=⟨n0⟩
      have E0:=ab e0;have EW:=ab ew;clear e0 ew;refine GD f (by kernel_rfl) (by kernel_rfl) rfl n0 E0.i ?_
      repeat(go_big_quiet_step (fail))
      refine eG ?_;rintro _ ⟨m,rfl⟩;go_wp2;go_roundw
      case rel=>exact⟨0+1,by omega,by go_num,by rw[HY.i];exact HA.i,EW.i _⟩
      case measure=>simp[intOf]<;>omega
     ·obtain⟨pn,hpn⟩:=hpn
      obtain⟨hp1,hp2⟩:=hpn (by omega);clear hpn;simp only[yR]at hp1 hp2;have hok2:xV l (i+1)=(x.yh&&Li x.w&&(decide (i+1=0)||decide (mg pn x.E<0))):=by rw[Dt.i,yR,hp2]
      have hbl:=vN pn x.E;by_cases ht:mg pn x.E<0
      ·have hbt:Op.bytesLess pn x.E=true:=by rw[hbl];simpa using ht
       have hyes:(bY (i+1+1)).all (xV l)=(bY (i+1)).all (xV l):=by
        rw[yj,hok2,hK1,hK2];simp[ht]
       have HY:=ab hyes;have XV:=ab (pJ _ hK1);clear hK1 hK2 hyes pJ hok2 hbl hp2 ht hfb;obtain⟨S,s0,s1,s2,s3⟩:=aa3 _ _ _ hbs hp1;have S0:=ab s0;have S1:=ab s1;have S2:=ab s2;have S3:=ab s3;clear hS Jp aa3 s0 s1 s2 s3;go_upto_region 7 with fail
       refine zk (by kernel_rfl) ?_;change wpAny _ _ _ _ _ _ _ (World.drew _);refine kr 0 (by kernel_rfl) rfl (fun K hK=>?_);go_simp;refine hK _ _ ?_;clear hK K;refine kr 1 (by kernel_rfl) rfl (fun K hK=>?_);go_simp;go_wp2_with (go_at_call 118;refine(XV.i _).mono ?_;rintro e w1 ⟨rfl,hb1⟩;have T1:=ab (S1.i _ _ S0.i hb1);clear hb1;have hw1:=S2.i _ T1.i)
       try(refine hK _ _ ?_;clear hK K)
       refine kr 2 (by kernel_rfl) rfl (fun K hK=>?_);go_simp;refine hK _ _ ?_;clear hK K;refine kr 3 (by kernel_rfl) rfl (fun K hK=>?_);go_simp;refine hK _ _ ?_;clear hK K;refine kr 4 (by kernel_rfl) rfl (fun K hK=>?_);go_simp;refine hK _ _ ?_;clear hK K;refine kr 5 (by kernel_rfl) rfl (fun K hK=>?_);go_simp;refine hK _ _ ?_;clear hK K;refine kr 6 (by kernel_rfl) rfl (fun K hK=>?_);go_simp;go_wp2_with (go_at_call 119;refine(Ca _ hx2 _).mono ?_;rintro e w2 ⟨A2,c2,rfl,hr2,hb2⟩;have T2:=ab (S1.i _ _ T1.i hb2);clear hb2;have HR2:=ab hr2;clear hr2)
       try(refine hK _ _ ?_;clear hK K)
       obtain⟨a2,T,f,n0,rfl,e0,ew,r2,r4,r5,r6⟩:=S3.i _ _ T2.i HR2.i;have hne:Nonempty T:=⟨n0⟩
       have E0:=ab e0;have EW:=ab ew;clear e0 ew;refine GD f (by kernel_rfl) (by kernel_rfl) rfl n0 E0.i ?_
       repeat(go_big_quiet_step (fail))
       refine eG ?_;rintro _ ⟨m,rfl⟩;go_wp2;go_roundw
       case rel=>exact⟨i+1+1,by omega,by go_num,by rw[HY.i];exact HA.i,EW.i _⟩
       case measure=>simp[intOf]<;>omega
      ·have hbt:Op.bytesLess pn x.E=false:=by rw[hbl];simpa using ht
       have hno:xV l (i+1)=false:=by rw[hok2];simp[ht]
       have Jq:=ji (xV l) (i+1) n hlt hno;have hPF:rU v l=false:=by rw[HP.i,<-HN.i,Jq];simp
       have HPF:=ab hPF;have XV:=ab (pJ _ hK1);clear hK1 hK2 hno Jq hPF pJ hok2 hbl hp2 ht hfb;obtain⟨S,s0,s1,s2,s3⟩:=aa3 _ _ _ hbs hp1;have S0:=ab s0;have S1:=ab s1;have S2:=ab s2;have S3:=ab s3;clear hS Jp aa3 s0 s1 s2 s3;go_upto_region 7 with fail
       refine zk (by kernel_rfl) ?_;change wpAny _ _ _ _ _ _ _ (World.drew _);refine kr 0 (by kernel_rfl) rfl (fun K hK=>?_);go_simp;refine hK _ _ ?_;clear hK K;refine kr 1 (by kernel_rfl) rfl (fun K hK=>?_);go_simp;go_wp2_with (go_at_call 118;refine(XV.i _).mono ?_;rintro e w1 ⟨rfl,hb1⟩;have T1:=ab (S1.i _ _ S0.i hb1);clear hb1;have hw1:=S2.i _ T1.i)
       try(refine hK _ _ ?_;clear hK K)
       refine kr 2 (by kernel_rfl) rfl (fun K hK=>?_);go_simp;refine hK _ _ ?_;clear hK K;refine kr 3 (by kernel_rfl) rfl (fun K hK=>?_);go_simp;refine hK _ _ ?_;clear hK K;refine kr 4 (by kernel_rfl) rfl (fun K hK=>?_);go_simp;refine hK _ _ ?_;clear hK K;refine kr 5 (by kernel_rfl) rfl (fun K hK=>?_);go_simp;refine hK _ _ ?_;clear hK K;refine kr 6 (by kernel_rfl) rfl (fun K hK=>?_);go_simp;go_wp2_with (go_at_call 119;refine(Ca _ hx2 _).mono ?_;rintro e w2 ⟨A2,c2,rfl,hr2,hb2⟩;have T2:=ab (S1.i _ _ T1.i hb2);clear hb2;have HR2:=ab hr2;clear hr2)
       try(refine hK _ _ ?_;clear hK K)
       obtain⟨a2,T,f,n0,rfl,e0,ew,r2,r4,r5,r6⟩:=S3.i _ _ T2.i HR2.i;have hne:Nonempty T:=⟨n0⟩
       have E0:=ab e0;have EW:=ab ew;clear e0 ew;refine GD f (by kernel_rfl) (by kernel_rfl) rfl n0 E0.i ?_
       repeat(go_big_quiet_step (fail))
       refine eG ?_;rintro _ ⟨m,rfl⟩;go_wp2;go_ret;exact⟨by rw[HPF.i];rfl,(HB0.i _).trans ((EW.i _).mono (by simp))⟩
  ·obtain rfl:i=n:=by omega
   have hPT:rU v l=true:=by rw[HP.i,<-HN.i,HA.i];simp[h1,h2,h3]<;>omega
   have HPT:=ab hPT;clear hPT;have hd:decide ((i:Int)<i)=false:=by simp
   go_wp2;go_ret;exact⟨by rw[HPT.i];rfl,HBW.i⟩
end Go.Proofs.YtkjojjopamaoiaaGreat
