/- Parts. -/
import Derived.Test.YtkjojjopamaoiaaGreatXx1
set_option linter.unusedSimpArgs false
set_option linter.unusedVariables false
set_option linter.unusedSectionVars false
set_option maxRecDepth 100000
set_option maxHeartbeats 8000000
open Array renaming ext_getElem?->dV,getElem?_eq_none->aV,size_extract->jF
open Bool renaming and_eq_true->bl
open Go renaming Value->aC,World->au,Calls->aR,TypeId->bM,Addr->aU,Ending->kX
open Go.DataW renaming trod->lX,trod_struct->uX,trod_bool->I5
open Go.Instr renaming loadAt->bZ,buildSlice->bJ
open Go.Proofs.Tryz renaming prog->aj,underlying64->vH,underlying30->jd
open List renaming getElem?_toArray->dZ,getElem?_append->kR,take_append_drop->iF,length_take->bK,take_of_length_le->aL,drop_of_length_le->iR,length_set->aW,getD_eq_getElem?_getD->av,getElem?_eq_none->aT,getElem?_eq_getElem->aD,getElem_of_mem->mR,pairwise_iff_getElem->fQ,getElem_mem->eO,mem_append->qB,mem_cons->bD,pairwise_cons->gL,drop_eq_getElem_cons->kT,mem_append_left->Bo,foldl_cons->jV,length_map->bR
open Nat renaming lt_or_ge->bf,add_comm->uN,le_refl->ay,eq_zero_or_pos->dX,mod_lt->fD,add_assoc->ny
namespace Go.Proofs.YtkjojjopamaoiaaGreat
open Go.RowKit
@[go_sem]theorem Bk.eu(x:Bk):eu x.aA=27:=Bk.ak x
@[go_sem]theorem fu.eu(x:fu):eu x.aA=17:=fu.ak x
@[go_sem]theorem Bk.kg(x:Bk):x.aA.extract 0 27=x.aA:=by
 have:=Bk.ak x;rw[<-this];simp
@[go_sem]theorem Bk.GN(x:Bk):x.aA.extract 1 18=x.jk.aA:=by
 apply dV;intro j;rcases bf j 17 with hj|hj
 ·rw[show(18:Nat)=1+17 from rfl,nX x.aA 1 17 j hj (by rw[Bk.ak];omega),uN,Bk.adC x j hj]
 ·rw[aV (by rw[jF,Bk.ak];omega),aV (by rw[fu.ak];exact hj)]
structure qX where
 kind:Int
 bk:Bk
 name:List UInt8
 w:Nat
def qX.aA(o:qX):Array aC:=(Value.int .i64 o.kind::(o.bk.aA.toList++[Value.string (bV o.name),fv o.w])).toArray
theorem qX.ak(o:qX):o.aA.size=30:=by simp[qX.aA,Bk.ak]
@[go_sem]theorem qX.eu(o:qX):eu o.aA=30:=qX.ak o
@[go_sem]theorem qX.qH(o:qX):o.aA[0]? = some (.int .i64 o.kind):=by simp[qX.aA]
theorem qX.anS(o:qX)(j:Nat)(hj:j<27):o.aA[j+1]? = o.bk.aA[j]?:=by
 simp[qX.aA,dZ,kR,Bk.ak,hj]
@[go_sem]theorem qX.Il(o:qX):o.aA[1]? = some (.string (bV o.bk.name)):=by rw[qX.anS o 0 (by omega),Bk.qH]
@[go_sem]theorem qX.aGR(o:qX):o.aA[28]? = some (.string (bV o.name)):=by simp[qX.aA,dZ,kR,Bk.ak]
@[go_sem]theorem qX.aGS(o:qX):o.aA[29]? = some (.float .f64 o.w):=by simp[qX.aA,dZ,kR,Bk.ak,fv]
@[go_sem]theorem qX.awc(o:qX):o.aA.extract 1 28=o.bk.aA:=by
 apply dV;intro j;rcases bf j 27 with hj|hj
 ·rw[show(28:Nat)=1+27 from rfl,nX o.aA 1 27 j hj (by rw[qX.ak];omega),uN,qX.anS o j hj]
 ·rw[aV (by rw[jF,qX.ak];omega),aV (by rw[Bk.ak];exact hj)]
@[go_sem]theorem qX.kg(o:qX):o.aA.extract 0 30=o.aA:=by
 have:=qX.ak o;rw[<-this];simp
def Ov(v:aC):Sem aC:=bZ 64 v
@[go_sem ↓]theorem awd(v:aC):bZ 64 v=Ov v:=rfl
@[go_sem]theorem anT(W:au)(b o:Nat)(h:xS W b o 30):(Ov (.pointer (some ⟨b,o,none⟩))).run aj W=.ok (.agg (dY W b o 30)) W:=
 ko W b o 30 _ _ vH rfl (by kernel_rfl) h
@[go_sem]theorem arQ(W:au)(c:Array aC)(x:Bk)(b:Nat)(hb:b=W.heap.size)(hc:eu c=27):
 (Kw (.pointer (some ⟨b,0,none⟩)) (.agg x.aA)).run aj (W.alloc (.cells c 62))=.ok () (W.alloc (.cells x.aA 62)):=by
 subst hb;exact NU W c x hc
def auw(n:Nat)(ps:Array (Nat×aC)):Sem aC:=bJ 30 n ps
@[go_sem ↓]theorem aAR(n:Nat)(ps:Array (Nat×aC)):bJ 30 n ps=auw n ps:=rfl
@[go_sem]theorem azj(w:au)(x:Bk):(auw 1 #[(0,.agg x.aA)]).run aj w=.ok (.slice (some ⟨w.heap.size,0,none⟩) 1 1) (w.alloc (.cells x.aA 62)):=by
 obtain⟨i0,oz,mZ,nu,Ar⟩:=QC;exact rX w _ _ i0 (.agg jo.aA) 27 jd oz mZ nu (Bk.ak jo) (by omega) (by omega) x.aA (Bk.ak x)
def qX.who(o:qX):List UInt8:=if o.kind=1 then o.bk.name else o.name
def qE(v:Int)(l:List Bk)(o:qX):Int:=
 if o.kind<1 then 1 else if 5<o.kind then 1 else if o.kind=1/\o.bk.Dq=false then 1 else if o.kind=3/\YM o.w=false then 1
 else if o.kind=1/\sZ l o.who=true then 6 else if o.kind=1/\1024<=l.length then 7 else if o.kind≠1/\sZ l o.who=false then 5
 else if o.kind=4/\(qp l o.who).drain=true then 6 else if o.kind=5/\(qp l o.who).drain=false then 6 else if 1099511627776<=v then 7 else 0
theorem aei(x:Nat)(hx:x<18446744073709551616)(w:au):aR aj 170 #[.float .f64 x] w fun e w'=>e=.returned (.bool (YM x))/\w=w':=by
 rw[<-Kz hx];exact Ky x w
theorem KT(l:List Bk)(hs:Gy l)(v:Int)(o:qX)(hf:o.bk.ru)(hw:o.w<18446744073709551616)(A:Option aU)(c:Nat)(w:au)(hR:Gv w w.heap.size A l.length l)(hn:l.length<4611686018427387904):
 aR aj 140 #[.agg #[.int .i64 v,.slice A l.length c],.agg o.aA] w (gP w (.int .i64 (qE v l o))):=by
 obtain⟨Wt,hf2⟩:=hf;have HS:=Lib.hid hs;have IK:=Lib.hid (fun ob uy=>((hR.alloc (ay _) ob).alloc (by simp) uy).lF (B':=((w.alloc ob).alloc uy).heap.size) (by simp;omega));have vV:=Lib.hid (fun ob uy=>(((Below.refl w.heap.size w).alloc (ay _) ob).alloc (by simp) uy:Below w.heap.size w ((w.alloc ob).alloc uy)));clear hR hs;have Ck:qE v l o=(if o.kind<1 then 1 else if 5<o.kind then 1 else if o.kind=1/\o.bk.Dq=false then 1 else if o.kind=3/\YM o.w=false then 1
  else if o.kind=1/\sZ l o.who=true then 6 else if o.kind=1/\1024<=l.length then 7 else if o.kind≠1/\sZ l o.who=false then 5
  else if o.kind=4/\(qp l o.who).drain=true then 6 else if o.kind=5/\(qp l o.who).drain=false then 6 else if 1099511627776<=v then 7 else 0):=rfl
 have HW:=Lib.hid Ck;clear Ck;by_cases h1:o.kind=1
 ·have anU:o.who=o.bk.name:=by simp[qX.who,h1]
  have agQ:=Lib.hid anU;obtain⟨K,hK⟩:∃K,o.bk.Dq=K:=⟨_,rfl⟩
  have hri:=fun W=>adQ o.bk W Wt hf2
  rw[hK]at hri;have HRI:=Lib.hid hri;have HK:=Lib.hid hK;have H1:=Lib.hid h1;clear anU hri hK;go_enter Tryz.func140,Tryz.ntmps140;go_wp2_with fail;refine(Ce l HS.out _ v A c _ (IK.out _ _) hn).mono ?_;rintro e w1 ⟨rfl,gI⟩;obtain⟨Qk,Ql,hx3,hx4,Wu⟩:=Vu gI;have mZ:w.heap.size<w1.heap.size:=by simp at Wu;omega
  have nu:w.heap.size+1<w1.heap.size:=by simp at Wu;omega
  clear Wu;have qd:=Lib.hid ((vV.out _ _).trans (gI.mono (by simp;omega)));have ze:=Lib.hid (qd.out.alloc (by omega) (.cells (qp l o.bk.name).aA 62));clear gI;go_wp2_with fail;refine(HRI.out _).mono ?_;rintro e w2 ⟨rfl,kF⟩;obtain⟨hy1,hy2,hy3,hy4,hy5⟩:=Vu kF;have wX:w1.heap.size<w2.heap.size:=by simp at hy5;omega
  have hz3:w.heap.size<w2.heap.size:=by omega
  have hz4:w.heap.size+1<w2.heap.size:=by omega
  clear hy5;have ze:=Lib.hid ((qd.out.alloc (by omega) (.cells (qp l o.bk.name).aA 62)).trans (kF.mono (by simp;omega)));clear kF;cases K
  all_goals
   go_wp2_with fail
  all_goals
   go_ret;exact⟨by rw[HW.out,agQ.out,HK.out,H1.out];simp[*];try omega,ze.out⟩
 have anU:o.who=o.name:=by simp[qX.who,h1]
 have agQ:=Lib.hid anU;have H1:=Lib.hid h1;clear anU;have g1:(o.kind==1)=false:=by simpa using h1
 have g1':(o.kind != 1)=true:=by simpa using h1
 rcases(show o.kind<1\/5<o.kind\/o.kind=2\/o.kind=3\/o.kind=4\/o.kind=5 by omega)with h2|h2|h2|h2|h2|h2
 ·clear h1
  go_enter Tryz.func140,Tryz.ntmps140;go_wp2_with fail;refine(Ce l HS.out _ v A c _ (IK.out _ _) hn).mono ?_;rintro e w1 ⟨rfl,gI⟩;obtain⟨Qk,Ql,hx3,hx4,Wu⟩:=Vu gI;have mZ:w.heap.size<w1.heap.size:=by simp at Wu;omega
  have nu:w.heap.size+1<w1.heap.size:=by simp at Wu;omega
  clear Wu;have qd:=Lib.hid ((vV.out _ _).trans (gI.mono (by simp;omega)));have ze:=Lib.hid (qd.out.alloc (by omega) (.cells (qp l o.name).aA 62));clear gI;go_wp2_with fail;go_ret;exact⟨by rw[HW.out,agQ.out];simp[*],ze.out⟩
 ·clear h1
  have g2:¬o.kind<1:=by omega
  go_enter Tryz.func140,Tryz.ntmps140;go_wp2_with fail;refine(Ce l HS.out _ v A c _ (IK.out _ _) hn).mono ?_;rintro e w1 ⟨rfl,gI⟩;obtain⟨Qk,Ql,hx3,hx4,Wu⟩:=Vu gI;have mZ:w.heap.size<w1.heap.size:=by simp at Wu;omega
  have nu:w.heap.size+1<w1.heap.size:=by simp at Wu;omega
  clear Wu;have qd:=Lib.hid ((vV.out _ _).trans (gI.mono (by simp;omega)));have ze:=Lib.hid (qd.out.alloc (by omega) (.cells (qp l o.name).aA 62));clear gI;go_wp2_with fail;go_ret;exact⟨by rw[HW.out,agQ.out];simp[*],ze.out⟩
 ·have H2:=Lib.hid h2
  clear h1 g1 g1';go_enter Tryz.func140,Tryz.ntmps140;go_wp2_with fail;refine(Ce l HS.out _ v A c _ (IK.out _ _) hn).mono ?_;rintro e w1 ⟨rfl,gI⟩;obtain⟨Qk,Ql,hx3,hx4,Wu⟩:=Vu gI;have mZ:w.heap.size<w1.heap.size:=by simp at Wu;omega
  have nu:w.heap.size+1<w1.heap.size:=by simp at Wu;omega
  clear Wu;have qd:=Lib.hid ((vV.out _ _).trans (gI.mono (by simp;omega)));have ze:=Lib.hid (qd.out.alloc (by omega) (.cells (qp l o.name).aA 62));clear gI;go_wp2_with fail
  all_goals
   go_ret;exact⟨by rw[HW.out,agQ.out,H2.out];clear Qk Ql hx3 hx4 IK vV qd;first|(simp[*];done)|(simp_all;done)|(simp_all;omega),ze.out⟩
 ·have H2:=Lib.hid h2
  clear h1 g1 g1';go_enter Tryz.func140,Tryz.ntmps140;go_wp2_with fail;refine(Ce l HS.out _ v A c _ (IK.out _ _) hn).mono ?_;rintro e w1 ⟨rfl,gI⟩;obtain⟨Qk,Ql,hx3,hx4,Wu⟩:=Vu gI;have mZ:w.heap.size<w1.heap.size:=by simp at Wu;omega
  have nu:w.heap.size+1<w1.heap.size:=by simp at Wu;omega
  clear Wu;have qd:=Lib.hid ((vV.out _ _).trans (gI.mono (by simp;omega)));have ze:=Lib.hid (qd.out.alloc (by omega) (.cells (qp l o.name).aA 62));clear gI;go_wp2_with fail;refine(aei o.w hw _).mono ?_;rintro e w' ⟨rfl,rfl⟩;go_wp2_with fail
  all_goals
   go_ret;exact⟨by rw[HW.out,agQ.out,H2.out];clear Qk Ql hx3 hx4 IK vV qd;first|(simp[*];done)|(simp_all;done)|(simp_all;omega),ze.out⟩
 all_goals
  have H2:=Lib.hid h2;clear h1 g1 g1';go_enter Tryz.func140,Tryz.ntmps140;go_wp2_with fail;refine(Ce l HS.out _ v A c _ (IK.out _ _) hn).mono ?_;rintro e w1 ⟨rfl,gI⟩;obtain⟨Qk,Ql,hx3,hx4,Wu⟩:=Vu gI;have mZ:w.heap.size<w1.heap.size:=by simp at Wu;omega
  have nu:w.heap.size+1<w1.heap.size:=by simp at Wu;omega
  clear Wu;have qd:=Lib.hid ((vV.out _ _).trans (gI.mono (by simp;omega)));have ze:=Lib.hid (qd.out.alloc (by omega) (.cells (qp l o.name).aA 62));clear gI;go_wp2_with fail
  all_goals
   go_ret;exact⟨by rw[HW.out,agQ.out,H2.out];clear Qk Ql hx3 hx4 IK vV qd;first|(simp[*];done)|(simp_all;done)|(simp_all;omega),ze.out⟩
theorem yH(a b:List Bk):dH (a++b)=dH a++dH b:=by simp[dH]
theorem abU(x:Bk)(b:List Bk):dH (x::b)=x.aA.toList++dH b:=by simp[dH]
theorem Ox(l:List Bk)(i:Nat)(hi:i<=l.length):dH (l.take i)=(dH l).take (i*27):=by
 have h:=yH (l.take i) (l.drop i);rw[iF]at h;rw[h,List.take_append_of_le_length (by rw[jC,bK];omega)];exact(aL (by rw[jC,bK];omega)).symm
theorem Oy(l:List Bk)(i:Nat)(hi:i<=l.length):dH (l.drop i)=(dH l).drop (i*27):=by
 have h:=yH (l.take i) (l.drop i);rw[iF]at h;have hl:(dH (l.take i)).length=i*27:=by rw[jC,bK];omega
 rw[h,<-hl,List.drop_left]
def Ah(l:List Bk)(i:Nat)(x:Bk):List Bk:=l.take i++x::l.drop i
theorem yI(l:List Bk)(i:Nat)(x:Bk):(Ah l i x).length=l.length+1:=by
 simp[Ah];omega
theorem JC(l:List Bk)(i:Nat)(x:Bk)(hi:i<=l.length):dH (Ah l i x)=(dH l).take (i*27)++x.aA.toList++(dH l).drop (i*27):=by
 rw[Ah,yH,abU,Ox l i hi,Oy l i hi,List.append_assoc]
theorem abV(w:au)(g:Nat)(c:Array aC)(t:bM)(fr:Nat×Nat)(hg:w.heap[g]? = some (.cells c t fr)):∀j v,c.toList[j]? = some v->w.cell? ((⟨g,0,none⟩:aU).add j)=some v:=fun j v hv=>by
 rw[Addr.add_mid,cell_of_row w g _ c _ _ hg,Nat.zero_add]
 rwa [Array.getElem?_toList]at hv
def aej(base:Nat)(w:au)(row:Option Nat)(m:List Bk)(e:kX)(w':au):Prop:=
 ∃A c,e=.returned (.slice A m.length c)/\w'.ownsRow base 62 27 (.slice A m.length c) m.length (dH m)/\w.grownBy w' row
theorem Y0(w:au)(g g2:Nat)(cur Wv:Array aC)(t t2:bM)(hg:w.heap[g]? = some (.cells cur t (0,0)))(h2:w.heap[g2]? = some (.cells Wv t2 (0,0)))(pY:g≠g2)(hc:cur.size≠0)(o la ca lb cb:Nat):
 (callFunc 210 #[.slice (some ⟨g2,0,none⟩) la ca,.slice (some ⟨g,o,none⟩) lb cb]).run aj w=.ok (.value (.bool false)) w:=by
 rw[run_callFunc_extern Tryz.func210 (by kernel_rfl) (by kernel_rfl) (by kernel_rfl) (e:=Extern.SlicesOverlaps.overlaps #[30,30] #[4]) (by kernel_rfl)];obtain⟨i0,oz,mZ,nu,Ar⟩:=QC;rw[Lib.run_overlaps_apart w _ _ 62 jd 27 (fun w=>by simp[sizeOf,typeInfo,oz,nu]) ⟨g2,0,none⟩ ⟨g,o,none⟩ la ca lb cb (fun e=>pY e.symm) t2 t Wv.size cur.size (by simp[World.shape?,h2]) (by simp[World.shape?,hg]) hc (by simp[World.frozen?,h2]) (by simp[World.frozen?,h2])];rfl
theorem abW(l:List Bk)(x:Bk)(i:Nat)(hi:i<l.length)(base g c:Nat)(cur:Array aC)(w:au)(hb:base<=g)(hg:w.heap[g]? = some (.cells cur 62 (0,0)))(hc:l.length+1<=c)(hcm:c<=maxLen)(hcs:cur.size=c*27)
 (ht:cur.toList.take (l.length*27)=dH l) (g2:Nat) (h2:w.heap[g2]? = some (.cells x.aA 62 (0,0))) (pY:g≠g2) (hn:l.length<=100000) :
 aR aj 141 #[.slice (some ⟨g,0,none⟩) l.length c,.int .i64 i,.slice (some ⟨g2,0,none⟩) 1 1] w (aej base w (some g) (Ah l i x)):=by
 unfold maxLen at hcm;obtain⟨n,zC⟩:∃n,n=l.length:=⟨_,rfl⟩
 rw[<-zC]at hi hc hn ht ⊢;have HN:=Lib.hid zC;have HG:=Lib.hid (show w.drew.heap[g]? = some (.cells cur 62 (0,0))from hg);have H2:=Lib.hid h2;have HT:=Lib.hid ht;have HCS:=Lib.hid hcs;have hov:=fun o la ca lb cb=>Y0 w g g2 cur x.aA _ _ hg h2 pY (by omega) o la ca lb cb
 have SZ:=Lib.hid (show(aj.info? 62).map (·.size)=some 27 by kernel_rfl);have M1:=Lib.hid (show n-i=Nat.min (n+1-i) (n-i)from(Nat.min_eq_right (by omega)).symm);have M2:=Lib.hid (show((dH l).drop (i*27)).length=(n-i)*27 by rw[List.length_drop,jC,<-zC,Nat.sub_mul]);have M3:=Lib.hid (show∀j v,((dH l).drop (i*27))[j]? = some v->w.drew.cell? ((⟨g,i*27,none⟩:aU).add j)=some v from fun j v hv=>by
  show w.cell? _=_;rw[Addr.add_mid,cell_of_row w g _ cur _ _ hg];rw[List.getElem?_drop]at hv;rw[<-ht,List.getElem?_take]at hv;split at hv
  ·rw[Array.getElem?_toList]at hv;exact hv
  ·cases hv)
 have M4:=Lib.hid (show(i+1)*27+((dH l).drop (i*27)).length<=cur.size by rw[M2.out,hcs];have:=Nat.mul_le_mul_right 27 hc;have:=Nat.sub_mul n i 27;have:=Nat.mul_le_mul_right 27 (Nat.le_of_lt hi);omega);have M5:=Lib.hid (show∀v∈(dH l).drop (i*27),v.oneCell'=true from fun v hv=>DJ l v (List.mem_of_mem_drop hv));clear zC hg h2 ht hcs;go_enter Tryz.func141,Tryz.ntmps141;go_wp2_with fail;clear hov;have a1:IntKind.i64.wrap ((i:Int)+1)=(i:Int)+1:=IntWalk.i64_in _ (by omega);have a2:(0:Int)<=(i:Int)+1:=by omega
 have a3:(i:Int)+1<=(n:Int)+1:=by omega
 have a4:((i:Int)+1).toNat=i+1:=by omega
 have a5:¬c=i+1:=by omega
 have a6:¬c=i:=by omega
 have a7:(i:Int)<=(n:Int)+1:=by omega
 go_region_law (refine Jr rfl (.tmp 73) (.tmp 76) _ _ rfl 62 27 jd SZ.out g ((i+1)*27) (n-i) (c-(i+1)) ⟨g,i*27,none⟩ (n+1-i) (c-i) (by kernel_rfl) (by kernel_rfl) cur _ HG.out ((dH l).drop (i*27)) (n-i) M1.out M2.out M3.out M4.out M5.out ?_;intro w1 Io;have HW1:=Lib.hid Io;clear Io);clear a1 a2 a3 a4 a5 a6 a7;obtain⟨uI,Fg⟩:∃uI:Array aC,uI=(splice cur.toList ((i+1)*27) ((dH l).drop (i*27))).toArray:=⟨_,rfl⟩
 have G1:=Lib.hid (show w1.heap[g]? = some (.cells uI 62 (0,0))by rw[HW1.out,Fg];exact setRow_heap w.drew g cur _ _ _ HG.out);have G2:=Lib.hid (show w1.heap[g2]? = some (.cells x.aA 62 (0,0))by rw[HW1.out,setRow_other w.drew g g2 _ (fun e=>pY e.symm)];exact H2.out);have G3:=Lib.hid (show w.grownBy w1 (some g)by rw[HW1.out];exact⟨rfl,rfl,rfl,by simp[World.setRow],fun k hk hkg=>setRow_other w.drew g k _ (fun e=>hkg (by rw[e]))⟩);have HC1:=Lib.hid Fg;clear Fg;have N1:=Lib.hid (show 1=Nat.min 1 (n+1-i)from(Nat.min_eq_left (by omega)).symm);have N2:=Lib.hid (show x.aA.toList.length=1*27 by rw[Array.length_toList,Bk.ak]);have N3:=Lib.hid (show∀j v,x.aA.toList[j]? = some v->w1.cell? ((⟨g2,0,none⟩:aU).add j)=some v from fun j v hv=>by
  rw[Addr.add_mid,cell_of_row w1 g2 _ x.aA _ _ G2.out,Nat.zero_add]
  rwa [Array.getElem?_toList]at hv)
 have Nw:uI.size=c*27:=by
  rw[HC1.out,List.size_toArray,length_splice _ _ _ (by rw[Array.length_toList];exact M4.out),Array.length_toList,HCS.out]
 have N4:=Lib.hid (show i*27+x.aA.toList.length<=uI.size by rw[N2.out,Nw];have:=Nat.mul_le_mul_right 27 hc;have:=Nat.mul_le_mul_right 27 (Nat.le_of_lt hi);omega);have N5:=Lib.hid (show∀v∈x.aA.toList,v.oneCell'=true from fun v hv=>Array.all_eq_true_iff_forall_mem.1 (Bk.cB x) v (by simpa using hv));have UQ:=Lib.hid Nw;clear Nw;go_wp2_with (refine Fa rfl (.tmp 80) (.tmp 81) _ _ rfl 62 27 jd SZ.out g (i*27) (n+1-i) (c-i) ⟨g2,0,none⟩ 1 1 rfl rfl uI _ G1.out x.aA.toList 1 N1.out N2.out N3.out N4.out N5.out ?_;intro w2 Gf;have HW2:=Lib.hid Gf;clear Gf);go_ret;have hln:=yI l i x;rw[<-HN.out]at hln;refine⟨some ⟨g,0,none⟩,c,by rw[hln];rfl,?_,?_⟩
 ·rw[hln]
  refine⟨by rw[jC,hln],.inr ⟨g,c,(splice uI.toList (i*27) x.aA.toList).toArray,rfl,hb,?_,hc,by unfold maxLen;omega,?_,?_⟩⟩
  ·rw[HW2.out];exact setRow_heap w1 g uI _ _ _ G1.out
  ·rw[List.size_toArray,length_splice _ _ _ (by rw[Array.length_toList];exact N4.out),Array.length_toList,UQ.out]
  ·rw[JC l i x (by rw[<-HN.out];omega),HC1.out]
   have hx:=HT.out;have uh:=jC l;rw[<-HN.out]at uh;have:=akt cur.toList (dH l) x.aA.toList (i*27) 27 (by rw[uh];exact hx) (by rw[uh];omega) (by rw[Array.length_toList,Bk.ak]) (by rw[uh,Array.length_toList,HCS.out];omega);rw[uh]at this;rw[show(n+1)*27=n*27+27 by omega];rw[show(i+1)*27=i*27+27 by omega];exact this
 ·rw[HW2.out]
  refine NM G3.out ⟨rfl,rfl,rfl,by simp[World.setRow],fun k hk hkg=>setRow_other w1 g k _ (fun e=>hkg (by rw[e]))⟩
theorem agR(l:List Bk)(x:Bk)(i:Nat)(hi:i<l.length)(base g c:Nat)(cur:Array aC)(w:au)(Jd:base<=w.heap.size)(hg:w.heap[g]? = some (.cells cur 62 (0,0)))(hc:c<l.length+1)(hlc:l.length<=c)(hcs:cur.size=c*27)
 (ht:cur.toList.take (l.length*27)=dH l) (g2:Nat) (h2:w.heap[g2]? = some (.cells x.aA 62 (0,0))) (hn:l.length<=100000) :
 aR aj 141 #[.slice (some ⟨g,0,none⟩) l.length c,.int .i64 i,.slice (some ⟨g2,0,none⟩) 1 1] w (aej base w (some g) (Ah l i x)):=by
 obtain⟨n,zC⟩:∃n,n=l.length:=⟨_,rfl⟩
 rw[<-zC]at hi hc hlc hn ht ⊢;have HN:=Lib.hid zC;have HG:=Lib.hid hg;have H2:=Lib.hid h2;have HT:=Lib.hid ht;have HCS:=Lib.hid hcs;obtain⟨i0,oz,mZ,nu,Ar⟩:=QC;have HI0:=Lib.hid oz;have Nz:=Lib.hid mZ;have HZ1:=Lib.hid nu;have UO:=Lib.hid (show(Value.agg jo.aA).cells.size=27 by simp[Value.cells,Bk.ak]);have SZ:=Lib.hid (show(aj.info? 62).map (·.size)=some 27 by kernel_rfl);have uh:=jC l;rw[<-zC]at uh;have HX:=Lib.hid (show Value.int .i64 ((n:Int)+1-i)=.int .i64 ((n+1-i:Nat):Int)by congr 1;omega);have L1:=Lib.hid (show((dH l).take (i*27)).length=i*27 by rw[bK,uh];omega);have L2:=Lib.hid (show∀j u,((dH l).take (i*27))[j]? = some u->w.cell? ((⟨g,0,none⟩:aU).add j)=some u from fun j v hv=>by
  rw[Addr.add_mid,cell_of_row w g _ cur _ _ hg,Nat.zero_add];rw[List.getElem?_take]at hv;split at hv
  ·rw[<-ht,List.getElem?_take]at hv
   split at hv
   ·rw[Array.getElem?_toList]at hv;exact hv
   ·cases hv
  ·cases hv)
 have L3:=Lib.hid (show 0<n+1-i by omega);have L4:=Lib.hid (show c<i+(n+1-i)by omega);have L5:=Lib.hid (show i+(n+1-i)<=maxLen by unfold maxLen;omega);have L6:=Lib.hid (show(i+(n+1-i))*i0.bytes<=140737488355328 from Nat.le_trans (Nat.mul_le_mul (show i+(n+1-i)<=100001 by omega) Ar) (by omega));have M1:=Lib.hid (show n-i=Nat.min (n-i) (n-i)from(Nat.min_self _).symm);have M2:=Lib.hid (show((dH l).drop (i*27)).length=(n-i)*27 by rw[List.length_drop,uh,Nat.sub_mul]);have M5:=Lib.hid (show∀v∈(dH l).drop (i*27),v.oneCell'=true from fun v hv=>DJ l v (List.mem_of_mem_drop hv));have N1:=Lib.hid (show 1=Nat.min 1 (n+1-i)from(Nat.min_eq_left (by omega)).symm);have N2:=Lib.hid (show x.aA.toList.length=1*27 by rw[Array.length_toList,Bk.ak]);have N5:=Lib.hid (show∀v∈x.aA.toList,v.oneCell'=true from fun v hv=>Array.all_eq_true_iff_forall_mem.1 (Bk.cB x) v (by simpa using hv));have HCL:=Lib.hid uh;have EN:=Lib.hid (show i+(n+1-i)=n+1 by omega);have hgl:g<w.heap.size:=(Array.getElem?_eq_some_iff.1 hg).1;have aGW:g2<w.heap.size:=(Array.getElem?_eq_some_iff.1 h2).1;clear zC hg h2 ht hcs oz mZ nu uh;go_enter Tryz.func141,Tryz.ntmps141;go_wp2_with (first
  | (refine QE rfl (.tmp 34) (.tmp 39) _ _ rfl 62 i0 (.agg jo.aA) 27 .i64 .i64 jd Tryz.underlying3 HI0.out Nz.out HZ1.out UO.out ⟨g,0,none⟩ i c rfl (n+1-i) HX.out ((dH l).take (i*27)) L1.out L2.out L3.out (Nat.succ_pos _) L4.out L5.out L6.out ?_
     rw[EN.out];intro c' uI w1 Fg VY hc3 hc4 hc5 hc6;have C2:=Lib.hid VY;have C3:=Lib.hid hc3;have C4:=Lib.hid hc4;have C6:=Lib.hid hc6;have G1:=Lib.hid (show w1.heap[w.heap.size]? = some (.cells uI 62 (0,0))from hc5);have Gx:=Lib.hid (show w1.heap[g2]? = some (.cells x.aA 62 (0,0))from(hc6.block g2 aGW).trans H2.out);have Gg:=Lib.hid (show w1.heap[g]? = some (.cells cur 62 (0,0))from(hc6.block g hgl).trans HG.out);have N3:=Lib.hid (abV w1 g2 x.aA _ _ Gx.out);have N4:=Lib.hid (show i*27+x.aA.toList.length<=uI.size by rw[N2.out,C3.out];have:=Nat.mul_le_mul_right 27 Fg;omega);clear VY hc3 hc4 hc5 hc6)
  | (refine Fa rfl (.tmp 43) (.tmp 44) _ _ rfl 62 27 jd SZ.out w.heap.size (i*27) (n+1-i) (c'-i) ⟨g2,0,none⟩ 1 1 rfl rfl uI _ G1.out x.aA.toList 1 N1.out N2.out N3.out N4.out N5.out ?_
     intro w2 Gf;have HW2:=Lib.hid Gf;clear Gf))
 obtain⟨Wv,VY⟩:∃Wv:Array aC,Wv=(splice uI.toList (i*27) x.aA.toList).toArray:=⟨_,rfl⟩
 have K1:=Lib.hid (show w2.drew.heap[w.heap.size]? = some (.cells Wv 62 (0,0))by rw[HW2.out,VY];exact setRow_heap w1 w.heap.size uI _ _ _ G1.out);have Kg:=Lib.hid (show w2.heap[g]? = some (.cells cur 62 (0,0))by rw[HW2.out,setRow_other w1 w.heap.size g _ (by omega)];exact Gg.out);have KB:=Lib.hid (show Below w.heap.size w w2 by rw[HW2.out];exact C6.out.trans ⟨rfl,rfl,rfl,by simp[World.setRow],fun k hk=>setRow_other w1 w.heap.size k _ (by omega)⟩);have UR:Wv.size=c'*27:=by
  rw[VY,List.size_toArray,length_splice _ _ _ (by rw[Array.length_toList];exact N4.out),Array.length_toList,C3.out]
 have M3:=Lib.hid (show∀j v,((dH l).drop (i*27))[j]? = some v->w2.drew.cell? ((⟨g,i*27,none⟩:aU).add j)=some v from fun j v hv=>by
  show w2.cell? _=_;rw[Addr.add_mid,cell_of_row w2 g _ cur _ _ Kg.out];rw[List.getElem?_drop]at hv;rw[<-HT.out,List.getElem?_take]at hv;split at hv
  ·rw[Array.getElem?_toList]at hv;exact hv
  ·cases hv)
 have M4:=Lib.hid (show(i+1)*27+((dH l).drop (i*27)).length<=Wv.size by rw[M2.out,UR];have:=Nat.mul_le_mul_right 27 Fg;have:=Nat.sub_mul n i 27;have:=Nat.mul_le_mul_right 27 (Nat.le_of_lt hi);omega);have HC2:=Lib.hid VY;have HS2:=Lib.hid UR;clear VY UR;have a5:¬c'=i+1:=by omega
 have a6:¬c=i:=by omega
 have a7:(i:Int)<=(n:Int):=by omega
 have a2:(0:Int)<=(i:Int)+1:=by omega
 have a3:(i:Int)+1<=(n:Int)+1:=by omega
 have a4:((i:Int)+1).toNat=i+1:=by omega
 have a1:IntKind.i64.wrap ((i:Int)+1)=(i:Int)+1:=IntWalk.i64_in _ (by omega);go_region_law (refine Jr rfl (.tmp 50) (.tmp 53) _ _ rfl 62 27 jd SZ.out w.heap.size ((i+1)*27) (n-i) (c'-(i+1)) ⟨g,i*27,none⟩ (n-i) (c-i) (by kernel_rfl) (by kernel_rfl) Wv _ K1.out ((dH l).drop (i*27)) (n-i) M1.out M2.out M3.out M4.out M5.out ?_;intro w3 Me;have HW3:=Lib.hid Me;clear Me);clear a1 a2 a3 a4 a5 a6 a7;go_wp2_with fail;go_ret;have hln:=yI l i x;rw[<-HN.out]at hln;refine⟨some ⟨w.heap.size,0,none⟩,c',by rw[hln];rfl,?_,?_⟩
 ·rw[hln]
  refine⟨by rw[jC,hln],.inr ⟨w.heap.size,c',(splice Wv.toList ((i+1)*27) ((dH l).drop (i*27))).toArray,rfl,Jd,?_,Fg,C2.out,?_,?_⟩⟩
  ·rw[HW3.out];exact setRow_heap w2.drew w.heap.size Wv _ _ _ K1.out
  ·rw[List.size_toArray,length_splice _ _ _ (by rw[Array.length_toList];exact M4.out),Array.length_toList,HS2.out]
  ·rw[JC l i x (by rw[<-HN.out];omega),HC2.out]
   have:=ars uI.toList (dH l) x.aA.toList (i*27) 27 C4.out (by rw[HCL.out];omega) (by rw[Array.length_toList,Bk.ak]) (by rw[HCL.out,Array.length_toList,C3.out];omega);rw[HCL.out]at this;rw[show(n+1)*27=n*27+27 by omega,show(i+1)*27=i*27+27 by omega];exact this
 ·rw[HW3.out]
  have hb:=KB.out;exact⟨hb.os,hb.tape,hb.output,by have:=hb.size;simpa[World.setRow]using this,fun k hk hkg=>(setRow_other w2.drew w.heap.size k _ (by omega)).trans (hb.block k hk)⟩
theorem akJ(l:List Bk)(x:Bk):dH (Ah l l.length x)=dH l++x.aA.toList:=by
 rw[JC l l.length x (ay _),aL (by rw[jC];omega),iR (by rw[jC];omega),List.append_nil]
theorem Ww(l:List Bk)(x:Bk)(base c:Nat)(A:Option aU)(w:au)(Jd:base<=w.heap.size)(Az:w.ownsRow base 62 27 (.slice A l.length c) l.length (dH l))(hlc:l.length<=c)(g2:Nat)(h2:w.heap[g2]? = some (.cells x.aA 62 (0,0)))(hn:l.length<=100000):
 aR aj 141 #[.slice A l.length c,.int .i64 l.length,.slice (some ⟨g2,0,none⟩) 1 1] w (aej base w (Value.slice A l.length c).ownBlock (Ah l l.length x)):=by
 have hln:=yI l l.length x;have hce:=akJ l x;obtain⟨n,zC⟩:∃n,n=l.length:=⟨_,rfl⟩
 rw[<-zC]at hln hce hn hlc Az ⊢;obtain⟨m,hm⟩:∃m,m=Ah l n x:=⟨_,rfl⟩
 rw[<-hm]at hln hce ⊢;have HLN:=Lib.hid hln;have HCE:=Lib.hid hce;have HO:=Lib.hid Az;obtain⟨i0,oz,mZ,nu,Ar⟩:=QC;have HI0:=Lib.hid oz;have Nz:=Lib.hid mZ;have HZ1:=Lib.hid nu;have UO:=Lib.hid (show(Value.agg jo.aA).cells.size=27 by simp[Value.cells,Bk.ak]);have L5:=Lib.hid (show n+1<=maxLen by unfold maxLen;omega);have L6:=Lib.hid (show(n+1)*i0.bytes<=140737488355328 from Nat.le_trans (Nat.mul_le_mul (show n+1<=100001 by omega) Ar) (by omega));have HR:=Lib.hid (show Rd w (g2+1) 27 (some ⟨g2,0,none⟩) 1 x.aA.toList from⟨by rw[Array.length_toList,Bk.ak],fun _=>⟨_,rfl,Nat.lt_succ_self _,abV w g2 x.aA _ _ h2⟩⟩);have N5:=Lib.hid (show∀v∈x.aA.toList,v.oneCell'=true from fun v hv=>Array.all_eq_true_iff_forall_mem.1 (Bk.cB x) v (by simpa using hv));clear zC hm hln hce Az oz mZ nu h2;have Ue:((n:Int)==(n:Int))=true:=by simp
 go_enter Tryz.func141,Tryz.ntmps141;go_wp2_with (refine jI _ rfl (.tmp 23) (.tmp 24) _ rfl base 62 i0 (.agg jo.aA) 27 i0.bytes jd HI0.out Nz.out HZ1.out rfl UO.out (Nat.succ_pos _) (.slice A n c) n (dH l) rfl HO.out (g2+1) (some ⟨g2,0,none⟩) 1 1 x.aA.toList rfl HR.out N5.out L5.out L6.out Jd ?_;intro v1 w1 kJ AA yj;have O1:=Lib.hid kJ;have GR:=Lib.hid AA;clear kJ AA yj)
 all_goals
  go_ret;obtain⟨A',c',rfl,_,_⟩:=jT O1.out;refine⟨A',c',by rw[HLN.out];rfl,?_,by have:=GR.out;cases A<;>exact this⟩;rw[HLN.out,HCE.out];exact O1.out
def arR(base:Nat)(w:au)(A:Option aU)(c:Nat)(l:List Bk)(g2:Nat)(x:Bk):Prop:=
 w.ownsRow base 62 27 (.slice A l.length c) l.length (dH l)/\w.heap[g2]? = some (.cells x.aA 62 (0,0))/\(∀g,A=some g->g.block≠g2)/\base<=w.heap.size/\l.length<=100000
theorem agT(l:List Bk)(x:Bk)(i:Nat)(hi:i<=l.length)(base c g2:Nat)(A:Option aU)(w:au)(h:arR base w A c l g2 x):
 aR aj 141 #[.slice A l.length c,.int .i64 i,.slice (some ⟨g2,0,none⟩) 1 1] w (aej base w (Value.slice A l.length c).ownBlock (Ah l i x)):=by
 obtain⟨Az,h2,pY,hb,hn⟩:=h;have Ip:=Az;rcases Az.2 with⟨hv,h0⟩|⟨g,cap,cur,hv,hbg,hg,tX,hcm,hcs,auz⟩
 ·injection hv with e1 e2 e3
  subst e1 e3;obtain rfl:i=l.length:=by omega
  exact Ww l x base 0 none w hb Az (by omega) g2 h2 hn
 ·injection hv with e1 e2 e3
  subst e1 e3;rcases bf i l.length with h1|h1
  ·rcases bf c (l.length+1)with h3|h3
   ·exact agR l x i h1 base g c cur w hb hg h3 tX hcs auz g2 h2 hn
   ·exact abW l x i h1 base g c cur w hbg hg h3 hcm hcs auz g2 h2 (pY _ rfl) hn
  ·obtain rfl:i=l.length:=by omega
   exact Ww l x base c _ w hb Az tX g2 h2 hn
def Fh(l:List Bk)(i:Nat):List Bk:=l.take i++l.drop (i+1)
theorem OD(l:List Bk)(i:Nat)(hi:i<l.length):(Fh l i).length=l.length-1:=by
 simp[Fh];omega
theorem S9(l:List Bk)(i:Nat)(hi:i<l.length):dH (Fh l i)=(dH l).take (i*27)++(dH l).drop (i*27+27):=by
 rw[Fh,yH,Ox l i (by omega),Oy l (i+1) (by omega),show(i+1)*27=i*27+27 by omega]
theorem agU(l:List Bk)(i:Nat)(hi:i<l.length)(base g c:Nat)(cur:Array aC)(w:au)(hb:base<=g)(hg:w.heap[g]? = some (.cells cur 62 (0,0)))(hc:l.length<=c)(hcm:c<=maxLen)(hcs:cur.size=c*27)
 (ht:cur.toList.take (l.length*27)=dH l) (hn:l.length<=100000) :
 aR aj 142 #[.slice (some ⟨g,0,none⟩) l.length c,.int .i64 i,.int .i64 ((i:Int)+1)] w (aej base w (some g) (Fh l i)):=by
 have hln:=OD l i hi;have uh:=jC l;unfold maxLen at hcm;obtain⟨n,zC⟩:∃n,n=l.length:=⟨_,rfl⟩
 rw[<-zC]at hi hc hn ht hln uh ⊢;have HN:=Lib.hid zC;have HG:=Lib.hid (show w.drew.heap[g]? = some (.cells cur 62 (0,0))from hg);have HT:=Lib.hid ht;have HCS:=Lib.hid hcs;have HLN:=Lib.hid hln;have HCL:=Lib.hid uh;obtain⟨i0,oz,mZ,nu,Ar⟩:=QC;have HI0:=Lib.hid oz;have Nz:=Lib.hid mZ;have HZ1:=Lib.hid nu;have UO:=Lib.hid (show(Value.agg jo.aA).cells.size=27 by simp[Value.cells,Bk.ak]);have HZ3:=Lib.hid (show(Value.agg jo.aA).cells.all (·.oneCell')=true from Bk.cB jo);have M2:=Lib.hid (show((dH l).drop (i*27+27)).length=(n-(i+1))*27 by rw[List.length_drop,uh,Nat.sub_mul];omega);have M3:=Lib.hid (show∀j v,((dH l).drop (i*27+27))[j]? = some v->w.drew.cell? ((⟨g,(i+1)*27,none⟩:aU).add j)=some v from fun j v hv=>by
  show w.cell? _=_;rw[Addr.add_mid,cell_of_row w g _ cur _ _ hg,show(i+1)*27=i*27+27 by omega];rw[List.getElem?_drop]at hv;rw[<-ht,List.getElem?_take]at hv;split at hv
  ·rw[Array.getElem?_toList]at hv;exact hv
  ·cases hv)
 have M4:=Lib.hid (show i*27+((dH l).drop (i*27+27)).length<=cur.size by rw[M2.out,hcs];have:=Nat.mul_le_mul_right 27 hc;have:=Nat.sub_mul n (i+1) 27;omega);have M5:=Lib.hid (show∀v∈(dH l).drop (i*27+27),v.oneCell'=true from fun v hv=>DJ l v (List.mem_of_mem_drop hv));have M6:=Lib.hid (show i+(n-(i+1))<=c by omega);have EN:=Lib.hid (show i+(n-(i+1))=n-1 by omega);have M7':=Lib.hid (show c=i+1->Hid (∀j v,((dH l).drop (i*27+27))[j]? = some v->w.drew.cell? ((⟨g,0,none⟩:aU).add j)=some v)from fun h=>Lib.hid fun j v hv=>by
  have hz:(dH l).drop (i*27+27)=[]:=List.eq_nil_of_length_eq_zero (by rw[M2.out,show n-(i+1)=0 by omega,Nat.zero_mul]);rw[hz]at hv;simp at hv)
 have HN1:=Lib.hid (show 1<=n by omega);clear zC hg ht hcs oz mZ nu uh hln;have b1:(i:Int)<=n:=by omega
 have b2:(i:Int)+1<=n:=by omega
 go_enter Tryz.func142,Tryz.ntmps142;go_wp2_with fail;by_cases hci:c=i+1;rotate_left
 ·have a4:((i:Int)+1).toNat=i+1:=by omega
  have a2:(0:Int)<=(i:Int)+1:=by omega
  have a8:¬c=i:=by omega
  have a9:(i:Int)<=c:=by omega
  go_region_law (refine Md rfl (.tmp 22) (.tmp 25) _ rfl 62 i0 27 jd HI0.out HZ1.out g i c ⟨g,(i+1)*27,none⟩ (n-(i+1)) (c-(i+1)) (by kernel_rfl) (by kernel_rfl) cur HG.out ((dH l).drop (i*27+27)) M2.out M3.out M5.out M6.out M4.out ?_;intro w1 Io;rw[EN.out];have HW1:=Lib.hid Io;clear Io);clear a2 a4 a8 a9;obtain⟨uI,Fg⟩:∃uI:Array aC,uI=(splice cur.toList (i*27) ((dH l).drop (i*27+27))).toArray:=⟨_,rfl⟩
  have G1:=Lib.hid (show w1.heap[g]? = some (.cells uI 62 (0,0))by rw[HW1.out,Fg];exact setRow_heap w.drew g cur _ _ _ HG.out);have Nw:uI.size=c*27:=by
   rw[Fg,List.size_toArray,length_splice _ _ _ (by rw[Array.length_toList];exact M4.out),Array.length_toList,HCS.out]
  have E1:=Lib.hid (show 0<n-(n-1)by have:=HN1.out;omega);have E2:=Lib.hid (show(n-1)*27+(n-(n-1))*27<=uI.size by rw[Nw,show n-(n-1)=1 by have:=HN1.out;omega];have:=HN1.out;omega);have HC1:=Lib.hid Fg;have UQ:=Lib.hid Nw;clear Fg Nw;go_wp2_with (refine Fb rfl (.tmp 31) _ rfl 62 i0 (.agg jo.aA) 27 jd HI0.out Nz.out UO.out HZ3.out g ((n-1)*27) (n-(n-1)) (c-(n-1)) rfl E1.out uI _ G1.out E2.out ?_;intro w2 zs Qs Gf;have HW2:=Lib.hid Gf;have HZS:=Lib.hid Qs;clear Gf Qs);go_ret;refine⟨some ⟨g,0,none⟩,c,by rw[HLN.out];rfl,?_,?_⟩
  ·rw[HLN.out]
   refine⟨by rw[jC,HLN.out],.inr ⟨g,c,(splice uI.toList ((n-1)*27) zs).toArray,rfl,hb,?_,by omega,by unfold maxLen;omega,?_,?_⟩⟩
   ·rw[HW2.out];exact setRow_heap w1 g uI _ _ _ G1.out
   ·rw[List.size_toArray,length_splice _ _ _ (by rw[Array.length_toList];have h1:=HZS.out;have h2:=E2.out;first|(rw[h1];exact h2)|(simp only[List.size_toArray,h1];exact h2)),Array.length_toList,UQ.out]
   ·rw[S9 l i (by rw[<-HN.out];exact hi)]
    have h1:=ZL cur.toList (dH l) (i*27) 27 (by rw[HCL.out];exact HT.out) (by rw[HCL.out];omega);have hcu:uI.toList=splice cur.toList (i*27) ((dH l).drop (i*27+27)):=by rw[HC1.out]
    rw[HCL.out,show n*27-27=(n-1)*27 by omega,<-hcu]at h1;show List.take ((n-1)*27) (splice uI.toList ((n-1)*27) zs)=_;rw[splice,List.take_append_of_le_length (by rw[bK,Array.length_toList,UQ.out];omega),List.take_take,Nat.min_self];exact h1
  ·rw[HW2.out]
   have hG:w.grownBy w1 (some g):=by rw[HW1.out];exact⟨rfl,rfl,rfl,by simp[World.setRow],fun k hk hkg=>setRow_other w.drew g k _ (fun e=>hkg (by rw[e]))⟩
   refine NM hG ⟨rfl,rfl,rfl,by simp[World.setRow],fun k hk hkg=>setRow_other w1 g k _ (fun e=>hkg (by rw[e]))⟩
 ·have M3:=M7'.out hci
  have HCI:=Lib.hid hci;have a0:(c=i+1)=True:=by simpa using hci
  clear hci;have a4:((i:Int)+1).toNat=i+1:=by omega
  have a2:(0:Int)<=(i:Int)+1:=by omega
  have a8:¬c=i:=by have:=HCI.out;omega
  have a9:(i:Int)<=c:=by omega
  go_region_law (refine Md rfl (.tmp 22) (.tmp 25) _ rfl 62 i0 27 jd HI0.out HZ1.out g i c ⟨g,0,none⟩ (n-(i+1)) (c-(i+1)) (by kernel_rfl) (by kernel_rfl) cur HG.out ((dH l).drop (i*27+27)) M2.out M3.out M5.out M6.out M4.out ?_;intro w1 Io;rw[EN.out];have HW1:=Lib.hid Io;clear Io);clear a2 a4 a8 a9;obtain⟨uI,Fg⟩:∃uI:Array aC,uI=(splice cur.toList (i*27) ((dH l).drop (i*27+27))).toArray:=⟨_,rfl⟩
  have G1:=Lib.hid (show w1.heap[g]? = some (.cells uI 62 (0,0))by rw[HW1.out,Fg];exact setRow_heap w.drew g cur _ _ _ HG.out);have Nw:uI.size=c*27:=by
   rw[Fg,List.size_toArray,length_splice _ _ _ (by rw[Array.length_toList];exact M4.out),Array.length_toList,HCS.out]
  have E1:=Lib.hid (show 0<n-(n-1)by have:=HN1.out;omega);have E2:=Lib.hid (show(n-1)*27+(n-(n-1))*27<=uI.size by rw[Nw,show n-(n-1)=1 by have:=HN1.out;omega];have:=HN1.out;omega);have HC1:=Lib.hid Fg;have UQ:=Lib.hid Nw;clear Fg Nw;go_wp2_with (refine Fb rfl (.tmp 31) _ rfl 62 i0 (.agg jo.aA) 27 jd HI0.out Nz.out UO.out HZ3.out g ((n-1)*27) (n-(n-1)) (c-(n-1)) rfl E1.out uI _ G1.out E2.out ?_;intro w2 zs Qs Gf;have HW2:=Lib.hid Gf;have HZS:=Lib.hid Qs;clear Gf Qs);go_ret;refine⟨some ⟨g,0,none⟩,c,by rw[HLN.out];rfl,?_,?_⟩
  ·rw[HLN.out]
   refine⟨by rw[jC,HLN.out],.inr ⟨g,c,(splice uI.toList ((n-1)*27) zs).toArray,rfl,hb,?_,by omega,by unfold maxLen;omega,?_,?_⟩⟩
   ·rw[HW2.out];exact setRow_heap w1 g uI _ _ _ G1.out
   ·rw[List.size_toArray,length_splice _ _ _ (by rw[Array.length_toList];have h1:=HZS.out;have h2:=E2.out;first|(rw[h1];exact h2)|(simp only[List.size_toArray,h1];exact h2)),Array.length_toList,UQ.out]
   ·rw[S9 l i (by rw[<-HN.out];exact hi)]
    have h1:=ZL cur.toList (dH l) (i*27) 27 (by rw[HCL.out];exact HT.out) (by rw[HCL.out];omega);have hcu:uI.toList=splice cur.toList (i*27) ((dH l).drop (i*27+27)):=by rw[HC1.out]
    rw[HCL.out,show n*27-27=(n-1)*27 by omega,<-hcu]at h1;show List.take ((n-1)*27) (splice uI.toList ((n-1)*27) zs)=_;rw[splice,List.take_append_of_le_length (by rw[bK,Array.length_toList,UQ.out];omega),List.take_take,Nat.min_self];exact h1
  ·rw[HW2.out]
   have hG:w.grownBy w1 (some g):=by rw[HW1.out];exact⟨rfl,rfl,rfl,by simp[World.setRow],fun k hk hkg=>setRow_other w.drew g k _ (fun e=>hkg (by rw[e]))⟩
   refine NM hG ⟨rfl,rfl,rfl,by simp[World.setRow],fun k hk hkg=>setRow_other w1 g k _ (fun e=>hkg (by rw[e]))⟩
def abY(w:au)(l:List Bk)(e:kX)(w':au):Prop:=
 ∃A c,e=.returned (.slice A l.length c)/\w'.ownsRow w.heap.size 62 27 (.slice A l.length c) l.length (dH l)/\Below w.heap.size w w'
theorem xX(l:List Bk)(A:Option aU)(c:Nat)(w:au)(hR:Gv w w.heap.size A l.length l)(hn:l.length<=100000):
 aR aj 61 #[.slice A l.length c] w (abY w l):=by
 cases A with
 | some a=>exact adX l a c w hR (by omega)
 | none=>
   have h0:l.length=0:=by
    rcases dX l.length with h0|h0
    ·exact h0
    ·obtain⟨a,ha,_⟩:=hR.2.1.2 h0;cases ha
   have hl:l=[]:=List.eq_nil_of_length_eq_zero h0;subst hl;have GH:∀W:au,(binOp .eql 30 (.slice none 0 c) (.slice none 0 0)).run aj W=.ok (.bool true) W:=fun W=>by
    simp only[binOp];simp[run_equal_slice_nil,jd]
   have fin:abY w [] (.returned (.slice none 0 0)) w:=⟨none,0,rfl,World.ownsRow_nil _ _ _ _,Below.refl _ _⟩
   have FIN:=Lib.hid fin;clear fin;clear hR;simp only[List.length_nil];go_enter Tryz.func61,Tryz.ntmps61;go_wp2;go_ret;exact FIN.out
theorem oL{w:au}{base:Nat}{l:List Bk}{A:Option aU}{c:Nat}(h:w.ownsRow base 62 27 (.slice A l.length c) l.length (dH l)):Gv w w.heap.size A l.length l:=
 ⟨rfl,Rd.iX h,fun a ha _=>by
  rcases h.2 with⟨hv,h0⟩|⟨g,cap,cur,hv,_⟩
  ·injection hv with e1 _ _
   rw[e1]at ha;cases ha
  ·injection hv with e1 _ _
   rw[e1]at ha;injection ha with ha
   rw[<-ha]⟩
theorem JD(l:List Bk)(k:Nat)(hk:k<l.length)(y:Bk)(j:Nat)(hj:j<27)(u:aC)(h:y.aA=(l.getD k jo).aA.setIfInBounds j u):(dH l).set (k*27+j) u=dH (l.set k y):=by
 have hs:=Bk.ak (l.getD k jo);have hlen:=jC l;have Wx:=jC (l.set k y);rw[aW]at Wx;apply List.ext_getElem?;intro i;rcases bf i (l.length*27)with h1|h1
 ·have e1:i=i/27*27+i%27:=by omega
  have h2:i/27<l.length:=by omega
  have h3:i%27<27:=fD _ (by omega);have g1:=Jl l (i/27) (i%27) h2 h3;have g2:=Jl (l.set k y) (i/27) (i%27) (by rw[aW];exact h2) h3;rw[<-e1]at g1 g2;rw[g2,List.getElem?_set,hlen];by_cases h4:i/27=k
  ·have e2:(l.set k y).getD (i/27) jo=y:=by
    rw[av,h4,List.getElem?_set_self hk];rfl
   rw[e2,h,Array.getElem?_setIfInBounds,hs];by_cases h5:j=i%27
   ·have:k*27+j=i:=by omega
    simp[h5,h3];rw[if_pos (by omega),if_pos (by omega)]
   ·have:¬k*27+j=i:=by omega
    rw[if_neg this,if_neg h5,g1,h4]
  ·have e2:(l.set k y).getD (i/27) jo=l.getD (i/27) jo:=by
    rw[av,av,List.getElem?_set_ne (fun e=>h4 e.symm)]
   have:¬k*27+j=i:=by omega
   rw[if_neg this,e2,g1]
 ·rw[aT (by rw[aW,hlen];exact h1),aT (by rw[Wx];exact h1)]
theorem abZ{v:Int}{l:List Bk}{o:qX}(h:qE v l o=0):1<=o.kind/\o.kind<=5/\v<1099511627776/\(o.kind=1->o.bk.Dq=true/\sZ l o.bk.name=false/\l.length<1024)/\(o.kind=3->YM o.w=true)/\(o.kind≠1->sZ l o.name=true):=by
 unfold qE at h
 repeat' split at h
 all_goals first|(exact absurd h (by decide))|skip
 rename_i h1 h2 h3 h4 h5 h6 h7 h8 h9 h10;refine⟨by omega,by omega,by omega,fun hk=>⟨?_,?_,?_⟩,fun hk=>?_,fun hk=>?_⟩
 ·simpa[hk]using h3
 ·simpa[hk,qX.who]using h5
 ·simp[hk]at h6;omega
 ·simpa[hk]using h4
 ·simpa[hk,qX.who]using h7
def Rm(l:List Bk)(o:qX):List Bk:=
 if o.kind=1 then Ah l (kH l o.bk.name) (o.bk.Qm (kG o.bk.w))
 else if o.kind=2 then Fh l (kH l o.name)
 else if o.kind=3 then l.set (kH l o.name) ((qp l o.name).Qm (kG o.w))
 else l.set (kH l o.name) ((qp l o.name).toD (o.kind==4))
def Wz(w:au)(v:Int)(l:List Bk)(er:Int)(e:kX)(w':au):Prop:=
 ∃A c,e=.returned (.tuple #[.agg #[.int .i64 v,.slice A l.length c],.int .i64 er])/\w'.ownsRow w.heap.size 62 27 (.slice A l.length c) l.length (dH l)/\Below w.heap.size w w'
theorem Fj{fn:Func}{p u:Tmp}(h:fn.results = #[.cell p 32,.tmp u])(tmps:Array aC)(W:au)(b o:Nat)(hp:tmps.getD p undef=.pointer (some ⟨b,o,none⟩))(hh:xS W b o 2):
 (results fn tmps).run aj W=.ok (.tuple #[.agg (dY W b o 2),tmps.getD u undef]) W:=by
 have hl:=ko W b o 2 _ _ Tryz.underlying32 rfl (by kernel_rfl) hh;simp only[bZ,Instr.sureAddr,Sem.run_bind,Sem.run_pure,Result.andThen_ok]at hl;rw[results_cell_tmp h,hp];simp[asAddr,Result.andThen,hl]
theorem awf(l:List Bk)(hs:Gy l)(v:Int)(o:qX)(hf:o.bk.ru)(hw:o.w<18446744073709551616)(Ck:qE v l o≠0)(A:Option aU)(c:Nat)(w:au)(hR:Gv w w.heap.size A l.length l)(hn:l.length<=100000):
 aR aj 71 #[.agg #[.int .i64 v,.slice A l.length c],.agg o.aA] w (Wz w v l (qE v l o)):=by
 have HS:=Lib.hid hs;have IK:=Lib.hid (fun ob uy Ij=>(((hR.alloc (ay _) ob).alloc (by simp) uy).alloc (by simp;omega) Ij).lF (B':=(((w.alloc ob).alloc uy).alloc Ij).heap.size) (by simp;omega));have vV:=Lib.hid (fun ob uy Ij=>((((Below.refl w.heap.size w).alloc (ay _) ob).alloc (by simp) uy).alloc (by simp;omega) Ij:Below w.heap.size w (((w.alloc ob).alloc uy).alloc Ij)));obtain⟨K,hK⟩:∃K,qE v l o=K:=⟨_,rfl⟩
 have Qn:=fun A c W (hR:Gv W W.heap.size A l.length l)=>KT l hs v o hf hw A c W hR (by omega)
 rw[hK]at Ck Qn ⊢;have OE:=Lib.hid Qn;clear hR hs Qn hK;have Ny:(K != 0)=true:=by simpa using Ck
 clear Ck;go_enter Tryz.func71,Tryz.ntmps71;go_wp2_with fail;refine(xX l A c _ (IK.out _ _ _) hn).mono ?_;rintro e w1 ⟨A1,c1,rfl,YD,gI⟩;have b0:=(((dL.new w _ _).alloc _).alloc _).below gI (by simp;omega);have b1:=((dL.Vv w _ _ _).alloc _).below gI (by simp);have b2:=(dL.aj2 w _ _ _ _).below gI (by simp);have nu:w.heap.size+2<w1.heap.size:=b2.lt;have O1:=Lib.hid (iG YD (show w.heap.size+3<=_ by simp));have qd:=Lib.hid ((vV.out _ _ _).trans (gI.mono (by simp;omega)));clear YD gI;obtain⟨x1,x2,x3,x4⟩:=b0.aI;obtain⟨y1,y2,y3,y4⟩:=b1.aI;have B0:=Lib.hid b0;have B1:=Lib.hid b1;have B2:=Lib.hid b2;clear b0 b1 b2;go_wp2_with fail;refine(OE.out A1 c1 _ (oL (jM O1.out (by simp) _))).mono ?_;rintro e w2 ⟨rfl,kF⟩;have jB:(w1.setCell ⟨w.heap.size,1,none⟩ (Value.slice A1 l.length c1)).heap.size=w1.heap.size:=by simp[World.setCell]
 have b0:=(B0.out.eG 1 (Value.slice A1 l.length c1)).below kF (by rw[jB];omega);have b2:=(B2.out.dM ⟨w.heap.size,1,none⟩ (Value.slice A1 l.length c1) (by simp)).below kF (by rw[jB];omega);have O2:=Lib.hid (jv (jM O1.out (by simp) _) kF);have ze:=Lib.hid ((qd.out.setCell (ay _) _).trans (kF.mono (by rw[jB];omega)));clear kF jB x1 x2 x3 x4 y1 y2 y3 y4;obtain⟨x1,x2,x3,x4⟩:=b0.aI;obtain⟨y1,y2,y3,y4⟩:=b2.aI;have B0:=Lib.hid b0;have B2:=Lib.hid b2;clear b0 b2;go_wp2_with fail;have b2:=(B2.out.eG 0 (.int .i64 v)).eG 1 (.slice A1 l.length c1);obtain⟨z1,z2,z3,z4⟩:=b2.aI;have hZ:=z3 0 2 (ay _);refine bodyPost_ret (Fj rfl _ _ _ _ rfl (by rw[hZ];trivial)) rfl ⟨A1,c1,?_,iG (jM (jM O2.out (by simp) _) (by simp) _) (by omega),(ze.out.setCell (show w.heap.size<=w.heap.size+2 by omega) _).setCell (show w.heap.size<=w.heap.size+2 by omega) _⟩;rw[z4 0 2 (ay _)];rfl
theorem arS(l:List Bk)(s:List UInt8):kH l s<=l.length:=by
 unfold kH;exact(List.takeWhile_sublist _).length_le
theorem awg(l:List Bk)(hs:Gy l)(v:Int)(hv : -9223372036854775808<=v/\v<9223372036854775807)(o:qX)(hf:o.bk.ru)(hw:o.w<18446744073709551616)(Ck:qE v l o=0)(h1:o.kind=1)(A:Option aU)(c:Nat)(w:au)(hR:Gv w w.heap.size A l.length l)(hn:l.length<=100000):
 aR aj 71 #[.agg #[.int .i64 v,.slice A l.length c],.agg o.aA] w (Wz w (v+1) (Ah l (kH l o.bk.name) (o.bk.Qm (kG o.bk.w))) 0):=by
 have HS:=Lib.hid hs;have IK:=Lib.hid (fun ob uy Ij=>(((hR.alloc (ay _) ob).alloc (by simp) uy).alloc (by simp;omega) Ij).lF (B':=(((w.alloc ob).alloc uy).alloc Ij).heap.size) (by simp;omega));have vV:=Lib.hid (fun ob uy Ij=>((((Below.refl w.heap.size w).alloc (ay _) ob).alloc (by simp) uy).alloc (by simp;omega) Ij:Below w.heap.size w (((w.alloc ob).alloc uy).alloc Ij)));have Qn:=fun A c W (hR:Gv W W.heap.size A l.length l)=>KT l hs v o hf hw A c W hR (by omega)
 rw[Ck]at Qn;have OE:=Lib.hid Qn;clear hR hs Qn Ck;obtain⟨hv1,hv2⟩:=hv;go_enter Tryz.func71,Tryz.ntmps71;go_wp2_with fail;refine(xX l A c _ (IK.out _ _ _) hn).mono ?_;rintro e w1 ⟨A1,c1,rfl,YD,gI⟩;have b0:=(((dL.new w _ _).alloc _).alloc _).below gI (by simp;omega);have b1:=((dL.Vv w _ _ _).alloc _).below gI (by simp);have b2:=(dL.aj2 w _ _ _ _).below gI (by simp);have nu:w.heap.size+2<w1.heap.size:=b2.lt;have O1:=Lib.hid (iG YD (show w.heap.size+3<=_ by simp));have qd:=Lib.hid ((vV.out _ _ _).trans (gI.mono (by simp;omega)));clear YD gI;obtain⟨x1,x2,x3,x4⟩:=b0.aI;obtain⟨y1,y2,y3,y4⟩:=b1.aI;have B0:=Lib.hid b0;have B1:=Lib.hid b1;have B2:=Lib.hid b2;clear b0 b1 b2;go_wp2_with fail;refine(OE.out A1 c1 _ (oL (jM O1.out (by simp) _))).mono ?_;rintro e w2 ⟨rfl,kF⟩;have jB:(w1.setCell ⟨w.heap.size,1,none⟩ (Value.slice A1 l.length c1)).heap.size=w1.heap.size:=by simp[World.setCell]
 have b0:=(B0.out.eG 1 (Value.slice A1 l.length c1)).below kF (by rw[jB];omega);have b1:=(B1.out.dM ⟨w.heap.size,1,none⟩ (Value.slice A1 l.length c1) (by simp)).below kF (by rw[jB];omega);have b2:=(B2.out.dM ⟨w.heap.size,1,none⟩ (Value.slice A1 l.length c1) (by simp)).below kF (by rw[jB];omega);have O2:=Lib.hid (jv (jM O1.out (by simp) _) kF);have ze:=Lib.hid ((qd.out.setCell (ay _) _).trans (kF.mono (by rw[jB];omega)));have wX:w.heap.size+2<w2.heap.size:=b2.lt;have arT:w.heap.size+1<w2.heap.size:=b1.lt;have arU:w.heap.size<w2.heap.size:=b0.lt;clear kF jB x1 x2 x3 x4 y1 y2 y3 y4 nu qd O1 IK OE;obtain⟨x1,x2,x3,x4⟩:=b0.aI;obtain⟨y1,y2,y3,y4⟩:=b1.aI;have B0:=Lib.hid b0;have B1:=Lib.hid b1;have B2:=Lib.hid b2;clear b0 b1 b2;go_wp2_with fail;refine(zK _ _).mono ?_;rintro e w' ⟨rfl,rfl⟩;go_wp2_with fail;refine(MB l HS.out o.bk.name (v+1) A1 c1 _ (oL (vM (jM O2.out (by simp) _) _)) (by omega)).mono ?_;rintro e w3 ⟨rfl,uH⟩;have jB:((w2.setCell ⟨w.heap.size,0,none⟩ (Value.int .i64 (v+1))).alloc (.cells (o.bk.Qm (kG o.bk.w)).aA 62)).heap.size=w2.heap.size+1:=by simp[World.setCell]
 have b0:=((B0.out.eG 0 (Value.int .i64 (v+1))).alloc (.cells (o.bk.Qm (kG o.bk.w)).aA 62)).below uH (by rw[jB];omega);have b2:=((B2.out.dM ⟨w.heap.size,0,none⟩ (Value.int .i64 (v+1)) (by simp)).alloc (.cells (o.bk.Qm (kG o.bk.w)).aA 62)).below uH (by rw[jB];omega);have b3:=(dL.new (w2.setCell ⟨w.heap.size,0,none⟩ (Value.int .i64 (v+1))) (o.bk.Qm (kG o.bk.w)).aA 62).below uH (by simp);rw[show(w2.setCell ⟨w.heap.size,0,none⟩ (Value.int .i64 (v+1))).heap.size=w2.heap.size by simp[World.setCell]]at b3;have O3:=Lib.hid (jv (vM (jM O2.out (by simp) _) (.cells (o.bk.Qm (kG o.bk.w)).aA 62)) uH);have HB3:=Lib.hid (((ze.out.setCell (ay _) (Value.int .i64 (v+1))).alloc (by simp[World.setCell];omega) (.cells (o.bk.Qm (kG o.bk.w)).aA 62)).trans (uH.mono (by rw[jB];omega)));have hz3:w2.heap.size<w3.heap.size:=b3.lt;clear uH jB x1 x2 x3 x4 y1 y2 y3 y4 ze O2;obtain⟨x1,x2,x3,x4⟩:=b0.aI;obtain⟨z1,z2,z3,z4⟩:=b3.aI;have B0:=Lib.hid b0;have B2:=Lib.hid b2;have B3:=Lib.hid b3;clear b0 b2 b3;go_wp2_with fail;have hli:kH l o.bk.name<=l.length:=arS l _;have nH:∀k,(Value.slice A1 l.length c1).ownBlock=some k->w.heap.size+3<=k:=fun k hk=>(O3.out.lt k hk).1
 refine(agT l (o.bk.Qm (kG o.bk.w)) (kH l o.bk.name) hli (w.heap.size+3) c1 w3.heap.size A1 _ ⟨vM O3.out _,heap_alloc_new w3 _,fun g hg=>?_,by simp;omega,hn⟩).mono ?_
 ·have:=(O3.out.lt g.block (by rw[hg];rfl)).2
  omega
 rintro e w4 ⟨A4,c4,rfl,ho4,hg4⟩;have b0:=(B0.out.alloc (.cells (o.bk.Qm (kG o.bk.w)).aA 62)).grown hg4 (fun e=>by have:=nH _ e.symm;omega);have b2:=(B2.out.alloc (.cells (o.bk.Qm (kG o.bk.w)).aA 62)).grown hg4 (fun e=>by have:=nH _ e.symm;omega);have O4:=Lib.hid ho4;have hz4:w.heap.size+2<w4.heap.size:=b2.lt;have HB4:=Lib.hid ((HB3.out.alloc (by omega) (.cells (o.bk.Qm (kG o.bk.w)).aA 62)).grown hg4 (by simp;omega) (fun k hk=>by have:=nH k hk;omega));have hil:=yI l (kH l o.bk.name) (o.bk.Qm (kG o.bk.w));obtain⟨l4,hl4⟩:∃l4,l4=Ah l (kH l o.bk.name) (o.bk.Qm (kG o.bk.w)):=⟨_,rfl⟩
 rw[<-hl4]at ho4 O4 ⊢;have HL4:=Lib.hid hl4;clear hg4 ho4 x1 x2 x3 x4 z1 z2 z3 z4 HB3 O3 hl4 hil;obtain⟨x1,x2,x3,x4⟩:=b0.aI;obtain⟨y1,y2,y3,y4⟩:=b2.aI;have B0:=Lib.hid b0;have B2:=Lib.hid b2;clear b0 b2;go_wp2_with fail;have b2:=(B2.out.dM ⟨w.heap.size,1,none⟩ (.slice A4 l4.length c4) (by simp)).eG 0 (.int .i64 (v+1)) |>.eG 1 (.slice A4 l4.length c4)
 obtain⟨z1,z2,z3,z4⟩:=b2.aI;have hl4:=HL4.out;subst hl4;have hZ:=z3 0 2 (ay _);refine bodyPost_ret (Fj rfl _ _ _ _ rfl (by rw[hZ];trivial)) rfl ⟨A4,c4,?_,iG (base:=w.heap.size+3) (jM (jM (jM O4.out (show w.heap.size<w.heap.size+3 by omega) _) (show w.heap.size+2<w.heap.size+3 by omega) _) (show w.heap.size+2<w.heap.size+3 by omega) _) (by omega),((HB4.out.setCell (ay _) _).setCell (show w.heap.size<=w.heap.size+2 by omega) _).setCell (show w.heap.size<=w.heap.size+2 by omega) _⟩;rw[z4 0 2 (ay _)];rfl
theorem yJ{l:List Bk}{s:List UInt8}(h:sZ l s=true):kH l s<l.length:=by
 unfold sZ at h;simp at h;exact h.1
theorem awh(l:List Bk)(hs:Gy l)(v:Int)(hv : -9223372036854775808<=v/\v<9223372036854775807)(o:qX)(hf:o.bk.ru)(hw:o.w<18446744073709551616)(Ck:qE v l o=0)(h1:o.kind=2)(hn0:sZ l o.name=true)(A:Option aU)(c:Nat)(w:au)(hR:Gv w w.heap.size A l.length l)(hn:l.length<=100000):
 aR aj 71 #[.agg #[.int .i64 v,.slice A l.length c],.agg o.aA] w (Wz w (v+1) (Fh l (kH l o.name)) 0):=by
 have HS:=Lib.hid hs;have IK:=Lib.hid (fun ob uy Ij=>(((hR.alloc (ay _) ob).alloc (by simp) uy).alloc (by simp;omega) Ij).lF (B':=(((w.alloc ob).alloc uy).alloc Ij).heap.size) (by simp;omega));have vV:=Lib.hid (fun ob uy Ij=>((((Below.refl w.heap.size w).alloc (ay _) ob).alloc (by simp) uy).alloc (by simp;omega) Ij:Below w.heap.size w (((w.alloc ob).alloc uy).alloc Ij)));have Qn:=fun A c W (hR:Gv W W.heap.size A l.length l)=>KT l hs v o hf hw A c W hR (by omega)
 rw[Ck]at Qn;have OE:=Lib.hid Qn;clear hR hs Qn Ck;obtain⟨hv1,hv2⟩:=hv;have hli:=yJ hn0;have wW:((kH l o.name:Nat):Int)<(l.length:Nat):=by omega
 clear hn0;go_enter Tryz.func71,Tryz.ntmps71;go_wp2_with fail;refine(xX l A c _ (IK.out _ _ _) hn).mono ?_;rintro e w1 ⟨A1,c1,rfl,YD,gI⟩;have b0:=(((dL.new w _ _).alloc _).alloc _).below gI (by simp;omega);have b1:=((dL.Vv w _ _ _).alloc _).below gI (by simp);have b2:=(dL.aj2 w _ _ _ _).below gI (by simp);have nu:w.heap.size+2<w1.heap.size:=b2.lt;have O1:=Lib.hid (iG YD (show w.heap.size+3<=_ by simp));have qd:=Lib.hid ((vV.out _ _ _).trans (gI.mono (by simp;omega)));clear YD gI;obtain⟨x1,x2,x3,x4⟩:=b0.aI;obtain⟨y1,y2,y3,y4⟩:=b1.aI;have B0:=Lib.hid b0;have B1:=Lib.hid b1;have B2:=Lib.hid b2;clear b0 b1 b2;go_wp2_with fail;refine(OE.out A1 c1 _ (oL (jM O1.out (by simp) _))).mono ?_;rintro e w2 ⟨rfl,kF⟩;have jB:(w1.setCell ⟨w.heap.size,1,none⟩ (Value.slice A1 l.length c1)).heap.size=w1.heap.size:=by simp[World.setCell]
 have b0:=(B0.out.eG 1 (Value.slice A1 l.length c1)).below kF (by rw[jB];omega);have b1:=(B1.out.dM ⟨w.heap.size,1,none⟩ (Value.slice A1 l.length c1) (by simp)).below kF (by rw[jB];omega);have b2:=(B2.out.dM ⟨w.heap.size,1,none⟩ (Value.slice A1 l.length c1) (by simp)).below kF (by rw[jB];omega);have O2:=Lib.hid (jv (jM O1.out (by simp) _) kF);have ze:=Lib.hid ((qd.out.setCell (ay _) _).trans (kF.mono (by rw[jB];omega)));have wX:w.heap.size+2<w2.heap.size:=b2.lt;have arT:w.heap.size+1<w2.heap.size:=b1.lt;have arU:w.heap.size<w2.heap.size:=b0.lt;clear kF jB x1 x2 x3 x4 y1 y2 y3 y4 nu qd O1 IK OE;obtain⟨x1,x2,x3,x4⟩:=b0.aI;obtain⟨y1,y2,y3,y4⟩:=b1.aI;have B0:=Lib.hid b0;have B1:=Lib.hid b1;have B2:=Lib.hid b2;clear b0 b1 b2;go_wp2_with fail;refine(MB l HS.out o.name (v+1) A1 c1 _ (oL (jM O2.out (by simp) _)) (by omega)).mono ?_;rintro e w3 ⟨rfl,uH⟩;have jB:(w2.setCell ⟨w.heap.size,0,none⟩ (Value.int .i64 (v+1))).heap.size=w2.heap.size:=by simp[World.setCell]
 have b0:=(B0.out.eG 0 (Value.int .i64 (v+1))).below uH (by rw[jB];omega);have b1:=(B1.out.dM ⟨w.heap.size,0,none⟩ (Value.int .i64 (v+1)) (by simp)).below uH (by rw[jB];omega);have b2:=(B2.out.dM ⟨w.heap.size,0,none⟩ (Value.int .i64 (v+1)) (by simp)).below uH (by rw[jB];omega);have Bj:=jv (jM O2.out (show w.heap.size<w.heap.size+3 by omega) (Value.int .i64 (v+1))) uH;have HB3:=Lib.hid ((ze.out.setCell (ay _) (Value.int .i64 (v+1))).trans (uH.mono (by rw[jB];omega)));obtain⟨g,hA1⟩:∃g,A1=some ⟨g,0,none⟩:=by
  rcases Bj.2 with⟨hv,h0⟩|⟨g,cap,cur,hv,_⟩
  ·omega
  ·injection hv with e1 _ _
   exact⟨g,e1⟩
 subst hA1;have hgb:w.heap.size+3<=g:=(Bj.lt g rfl).1;have hgl:g<w3.heap.size:=(Bj.lt g rfl).2;obtain⟨bb,oo,hbo,_,VG⟩:=(oL Bj).cell hli;injection hbo with hbo
 injection hbo with e1 e2
 subst e1 e2;have O3:=Lib.hid Bj;have hz3:w.heap.size<w3.heap.size:=b0.lt;have awi:w.heap.size+1<w3.heap.size:=b1.lt;have awj:w.heap.size+2<w3.heap.size:=b2.lt;clear uH jB x1 x2 x3 x4 y1 y2 y3 y4 ze O2 Bj;obtain⟨x1,x2,x3,x4⟩:=b0.aI;obtain⟨y1,y2,y3,y4⟩:=b1.aI;obtain⟨u1,u2,u3,u4⟩:=b2.aI;have B0:=Lib.hid b0;have B2:=Lib.hid b2;clear b0 b1 b2;clear VG;go_wp2_with fail;rcases O3.out.2 with⟨hv,h0⟩|⟨g',cap,cur,hv,q2,q3,q4,q5,q6,q7⟩
 ·cases hv
 injection hv with e1 e2 e3
 injection e1 with e1
 injection e1 with e1
 subst e1 e3;refine(agU l (kH l o.name) hli (w.heap.size+3) g c1 cur _ q2 q3 q4 q5 q6 q7 hn).mono ?_;rintro e w4 ⟨A4,c4,rfl,ho4,hg4⟩;have b0:=B0.out.grown hg4 (fun e=>by injection e with e;omega);have b2:=B2.out.grown hg4 (fun e=>by injection e with e;omega);have hz4:w.heap.size+2<w4.heap.size:=b2.lt;have HB4:=Lib.hid (HB3.out.grown hg4 (by omega) (fun k hk=>by injection hk with hk;omega));obtain⟨l4,hl4⟩:∃l4,l4=Fh l (kH l o.name):=⟨_,rfl⟩
 rw[<-hl4]at ho4 ⊢;have O4:=Lib.hid ho4;have HL4:=Lib.hid hl4;clear hg4 ho4 x1 x2 x3 x4 y1 y2 y3 y4 u1 u2 u3 u4 HB3 O3 hl4 q3 q6 q7;obtain⟨x1,x2,x3,x4⟩:=b0.aI;obtain⟨y1,y2,y3,y4⟩:=b2.aI;have B0:=Lib.hid b0;have B2:=Lib.hid b2;clear b0 b2;go_wp2_with fail;have b2:=(B2.out.dM ⟨w.heap.size,1,none⟩ (.slice A4 l4.length c4) (by simp)).eG 0 (.int .i64 (v+1)) |>.eG 1 (.slice A4 l4.length c4)
 obtain⟨z1,z2,z3,z4⟩:=b2.aI;have hl4:=HL4.out;subst hl4;have hZ:=z3 0 2 (ay _);refine bodyPost_ret (Fj rfl _ _ _ _ rfl (by rw[hZ];trivial)) rfl ⟨A4,c4,?_,iG (base:=w.heap.size+3) (jM (jM (jM O4.out (show w.heap.size<w.heap.size+3 by omega) _) (show w.heap.size+2<w.heap.size+3 by omega) _) (show w.heap.size+2<w.heap.size+3 by omega) _) (by omega),((HB4.out.setCell (ay _) _).setCell (show w.heap.size<=w.heap.size+2 by omega) _).setCell (show w.heap.size<=w.heap.size+2 by omega) _⟩;rw[z4 0 2 (ay _)];rfl
theorem akK(l:List Bk)(hs:Gy l)(v:Int)(hv : -9223372036854775808<=v/\v<9223372036854775807)(o:qX)(hf:o.bk.ru)(hw:o.w<18446744073709551616)(Ck:qE v l o=0)(h1:o.kind=3)(hn0:sZ l o.name=true)(A:Option aU)(c:Nat)(w:au)(hR:Gv w w.heap.size A l.length l)(hn:l.length<=100000):
 aR aj 71 #[.agg #[.int .i64 v,.slice A l.length c],.agg o.aA] w (Wz w (v+1) (l.set (kH l o.name) ((qp l o.name).Qm (kG o.w))) 0):=by
 have HS:=Lib.hid hs;have IK:=Lib.hid (fun ob uy Ij=>(((hR.alloc (ay _) ob).alloc (by simp) uy).alloc (by simp;omega) Ij).lF (B':=(((w.alloc ob).alloc uy).alloc Ij).heap.size) (by simp;omega));have vV:=Lib.hid (fun ob uy Ij=>((((Below.refl w.heap.size w).alloc (ay _) ob).alloc (by simp) uy).alloc (by simp;omega) Ij:Below w.heap.size w (((w.alloc ob).alloc uy).alloc Ij)));have Qn:=fun A c W (hR:Gv W W.heap.size A l.length l)=>KT l hs v o hf hw A c W hR (by omega)
 rw[Ck]at Qn;have OE:=Lib.hid Qn;clear hR hs Qn Ck;obtain⟨hv1,hv2⟩:=hv;have hli:=yJ hn0;have wW:((kH l o.name:Nat):Int)<(l.length:Nat):=by omega
 have HG:=Lib.hid (EZ hn0);clear hn0;go_enter Tryz.func71,Tryz.ntmps71;go_wp2_with fail;refine(xX l A c _ (IK.out _ _ _) hn).mono ?_;rintro e w1 ⟨A1,c1,rfl,YD,gI⟩;have b0:=(((dL.new w _ _).alloc _).alloc _).below gI (by simp;omega);have b1:=((dL.Vv w _ _ _).alloc _).below gI (by simp);have b2:=(dL.aj2 w _ _ _ _).below gI (by simp);have nu:w.heap.size+2<w1.heap.size:=b2.lt;have O1:=Lib.hid (iG YD (show w.heap.size+3<=_ by simp));have qd:=Lib.hid ((vV.out _ _ _).trans (gI.mono (by simp;omega)));clear YD gI;obtain⟨x1,x2,x3,x4⟩:=b0.aI;obtain⟨y1,y2,y3,y4⟩:=b1.aI;have B0:=Lib.hid b0;have B1:=Lib.hid b1;have B2:=Lib.hid b2;clear b0 b1 b2;go_wp2_with fail;refine(OE.out A1 c1 _ (oL (jM O1.out (by simp) _))).mono ?_;rintro e w2 ⟨rfl,kF⟩;have jB:(w1.setCell ⟨w.heap.size,1,none⟩ (Value.slice A1 l.length c1)).heap.size=w1.heap.size:=by simp[World.setCell]
 have b0:=(B0.out.eG 1 (Value.slice A1 l.length c1)).below kF (by rw[jB];omega);have b1:=(B1.out.dM ⟨w.heap.size,1,none⟩ (Value.slice A1 l.length c1) (by simp)).below kF (by rw[jB];omega);have b2:=(B2.out.dM ⟨w.heap.size,1,none⟩ (Value.slice A1 l.length c1) (by simp)).below kF (by rw[jB];omega);have O2:=Lib.hid (jv (jM O1.out (by simp) _) kF);have ze:=Lib.hid ((qd.out.setCell (ay _) _).trans (kF.mono (by rw[jB];omega)));have wX:w.heap.size+2<w2.heap.size:=b2.lt;have arT:w.heap.size+1<w2.heap.size:=b1.lt;have arU:w.heap.size<w2.heap.size:=b0.lt;clear kF jB x1 x2 x3 x4 y1 y2 y3 y4 nu qd O1 IK OE;obtain⟨x1,x2,x3,x4⟩:=b0.aI;obtain⟨y1,y2,y3,y4⟩:=b1.aI;have B0:=Lib.hid b0;have B1:=Lib.hid b1;have B2:=Lib.hid b2;clear b0 b1 b2;go_wp2_with fail;refine(MB l HS.out o.name (v+1) A1 c1 _ (oL (jM O2.out (by simp) _)) (by omega)).mono ?_;rintro e w3 ⟨rfl,uH⟩;have jB:(w2.setCell ⟨w.heap.size,0,none⟩ (Value.int .i64 (v+1))).heap.size=w2.heap.size:=by simp[World.setCell]
 have b0:=(B0.out.eG 0 (Value.int .i64 (v+1))).below uH (by rw[jB];omega);have b1:=(B1.out.dM ⟨w.heap.size,0,none⟩ (Value.int .i64 (v+1)) (by simp)).below uH (by rw[jB];omega);have b2:=(B2.out.dM ⟨w.heap.size,0,none⟩ (Value.int .i64 (v+1)) (by simp)).below uH (by rw[jB];omega);have Bj:=jv (jM O2.out (show w.heap.size<w.heap.size+3 by omega) (Value.int .i64 (v+1))) uH;have HB3:=Lib.hid ((ze.out.setCell (ay _) (Value.int .i64 (v+1))).trans (uH.mono (by rw[jB];omega)));obtain⟨g,hA1⟩:∃g,A1=some ⟨g,0,none⟩:=by
  rcases Bj.2 with⟨hv,h0⟩|⟨g,cap,cur,hv,_⟩
  ·omega
  ·injection hv with e1 _ _
   exact⟨g,e1⟩
 subst hA1;have hgb:w.heap.size+3<=g:=(Bj.lt g rfl).1;have hgl:g<w3.heap.size:=(Bj.lt g rfl).2;obtain⟨bb,oo,hbo,_,VG⟩:=(oL Bj).cell hli;injection hbo with hbo
 injection hbo with e1 e2
 subst e1 e2;have O3:=Lib.hid Bj;have hz3:w.heap.size<w3.heap.size:=b0.lt;have awi:w.heap.size+1<w3.heap.size:=b1.lt;have awj:w.heap.size+2<w3.heap.size:=b2.lt;clear uH jB x1 x2 x3 x4 y1 y2 y3 y4 ze O2 Bj;have uh:w3.cell? ⟨g,kH l o.name*27+25,none⟩=some (.float .f64 (qp l o.name).w):=by
  have:=VG 25 (by omega);rw[Nat.zero_add]at this;rw[this,<-HG.out];exact Bk.agh _
 have Au:w3.frozen? ⟨g,kH l o.name*27+25,none⟩=false:=by
  rcases O3.out.2 with⟨hv,h0⟩|⟨g',cap,cur,hv,q2,q3,q4,q5,q6,q7⟩
  ·cases hv
  injection hv with e1 e2 e3
  injection e1 with e1
  injection e1 with e1
  subst e1;simp[World.frozen?,q3]
 clear VG;obtain⟨x1,x2,x3,x4⟩:=b0.aI;obtain⟨y1,y2,y3,y4⟩:=b1.aI;obtain⟨u1,u2,u3,u4⟩:=b2.aI;have B0:=Lib.hid b0;have B2:=Lib.hid b2;clear b0 b1 b2;go_wp2_with fail;refine(zK _ _).mono ?_;rintro e w' ⟨rfl,rfl⟩;go_wp2_with fail;have O4:=Lib.hid (UE O3.out (kH l o.name*27+25) (by omega) (.float .f64 (kG o.w)));have hxs:(dH l).set (kH l o.name*27+25) (.float .f64 (kG o.w))=dH (l.set (kH l o.name) ((qp l o.name).Qm (kG o.w))):=
  JD l (kH l o.name) hli _ 25 (by omega) _ (by rw[<-HG.out];exact(Bk.aAB (qp l o.name) _).symm)
 rw[hxs]at O4;have b2:=((B2.out.dM ⟨g,kH l o.name*27+25,none⟩ (.float .f64 (kG o.w)) (by show g≠_;omega)).eG 0 (.int .i64 (v+1))).eG 1 (.slice (some ⟨g,0,none⟩) l.length c1);obtain⟨z1,z2,z3,z4⟩:=b2.aI;have hZ:=z3 0 2 (ay _);have hlen:(l.set (kH l o.name) ((qp l o.name).Qm (kG o.w))).length=l.length:=aW;refine bodyPost_ret (Fj rfl _ _ _ _ rfl (by rw[hZ];trivial)) rfl ⟨some ⟨g,0,none⟩,c1,?_,?_,((HB3.out.setCell (show w.heap.size<=g by omega) _).setCell (show w.heap.size<=w.heap.size+2 by omega) _).setCell (show w.heap.size<=w.heap.size+2 by omega) _⟩
 ·rw[z4 0 2 (ay _),hlen]
  rfl
 ·rw[hlen]
  exact iG (base:=w.heap.size+3) (jM (jM O4.out (show w.heap.size+2<w.heap.size+3 by omega) _) (show w.heap.size+2<w.heap.size+3 by omega) _) (by omega)
theorem anY(l:List Bk)(hs:Gy l)(v:Int)(hv : -9223372036854775808<=v/\v<9223372036854775807)(o:qX)(hf:o.bk.ru)(hw:o.w<18446744073709551616)(Ck:qE v l o=0)(h1:o.kind=4)(hn0:sZ l o.name=true)(A:Option aU)(c:Nat)(w:au)(hR:Gv w w.heap.size A l.length l)(hn:l.length<=100000):
 aR aj 71 #[.agg #[.int .i64 v,.slice A l.length c],.agg o.aA] w (Wz w (v+1) (l.set (kH l o.name) ((qp l o.name).toD true)) 0):=by
 have HS:=Lib.hid hs;have IK:=Lib.hid (fun ob uy Ij=>(((hR.alloc (ay _) ob).alloc (by simp) uy).alloc (by simp;omega) Ij).lF (B':=(((w.alloc ob).alloc uy).alloc Ij).heap.size) (by simp;omega));have vV:=Lib.hid (fun ob uy Ij=>((((Below.refl w.heap.size w).alloc (ay _) ob).alloc (by simp) uy).alloc (by simp;omega) Ij:Below w.heap.size w (((w.alloc ob).alloc uy).alloc Ij)));have Qn:=fun A c W (hR:Gv W W.heap.size A l.length l)=>KT l hs v o hf hw A c W hR (by omega)
 rw[Ck]at Qn;have OE:=Lib.hid Qn;clear hR hs Qn Ck;obtain⟨hv1,hv2⟩:=hv;have hli:=yJ hn0;have wW:((kH l o.name:Nat):Int)<(l.length:Nat):=by omega
 have HG:=Lib.hid (EZ hn0);clear hn0;go_enter Tryz.func71,Tryz.ntmps71;go_wp2_with fail;refine(xX l A c _ (IK.out _ _ _) hn).mono ?_;rintro e w1 ⟨A1,c1,rfl,YD,gI⟩;have b0:=(((dL.new w _ _).alloc _).alloc _).below gI (by simp;omega);have b1:=((dL.Vv w _ _ _).alloc _).below gI (by simp);have b2:=(dL.aj2 w _ _ _ _).below gI (by simp);have nu:w.heap.size+2<w1.heap.size:=b2.lt;have O1:=Lib.hid (iG YD (show w.heap.size+3<=_ by simp));have qd:=Lib.hid ((vV.out _ _ _).trans (gI.mono (by simp;omega)));clear YD gI;obtain⟨x1,x2,x3,x4⟩:=b0.aI;obtain⟨y1,y2,y3,y4⟩:=b1.aI;have B0:=Lib.hid b0;have B1:=Lib.hid b1;have B2:=Lib.hid b2;clear b0 b1 b2;go_wp2_with fail;refine(OE.out A1 c1 _ (oL (jM O1.out (by simp) _))).mono ?_;rintro e w2 ⟨rfl,kF⟩;have jB:(w1.setCell ⟨w.heap.size,1,none⟩ (Value.slice A1 l.length c1)).heap.size=w1.heap.size:=by simp[World.setCell]
 have b0:=(B0.out.eG 1 (Value.slice A1 l.length c1)).below kF (by rw[jB];omega);have b1:=(B1.out.dM ⟨w.heap.size,1,none⟩ (Value.slice A1 l.length c1) (by simp)).below kF (by rw[jB];omega);have b2:=(B2.out.dM ⟨w.heap.size,1,none⟩ (Value.slice A1 l.length c1) (by simp)).below kF (by rw[jB];omega);have O2:=Lib.hid (jv (jM O1.out (by simp) _) kF);have ze:=Lib.hid ((qd.out.setCell (ay _) _).trans (kF.mono (by rw[jB];omega)));have wX:w.heap.size+2<w2.heap.size:=b2.lt;have arT:w.heap.size+1<w2.heap.size:=b1.lt;have arU:w.heap.size<w2.heap.size:=b0.lt;clear kF jB x1 x2 x3 x4 y1 y2 y3 y4 nu qd O1 IK OE;obtain⟨x1,x2,x3,x4⟩:=b0.aI;obtain⟨y1,y2,y3,y4⟩:=b1.aI;have B0:=Lib.hid b0;have B1:=Lib.hid b1;have B2:=Lib.hid b2;clear b0 b1 b2;go_wp2_with fail;refine(MB l HS.out o.name (v+1) A1 c1 _ (oL (jM O2.out (by simp) _)) (by omega)).mono ?_;rintro e w3 ⟨rfl,uH⟩;have jB:(w2.setCell ⟨w.heap.size,0,none⟩ (Value.int .i64 (v+1))).heap.size=w2.heap.size:=by simp[World.setCell]
 have b0:=(B0.out.eG 0 (Value.int .i64 (v+1))).below uH (by rw[jB];omega);have b1:=(B1.out.dM ⟨w.heap.size,0,none⟩ (Value.int .i64 (v+1)) (by simp)).below uH (by rw[jB];omega);have b2:=(B2.out.dM ⟨w.heap.size,0,none⟩ (Value.int .i64 (v+1)) (by simp)).below uH (by rw[jB];omega);have Bj:=jv (jM O2.out (show w.heap.size<w.heap.size+3 by omega) (Value.int .i64 (v+1))) uH;have HB3:=Lib.hid ((ze.out.setCell (ay _) (Value.int .i64 (v+1))).trans (uH.mono (by rw[jB];omega)));obtain⟨g,hA1⟩:∃g,A1=some ⟨g,0,none⟩:=by
  rcases Bj.2 with⟨hv,h0⟩|⟨g,cap,cur,hv,_⟩
  ·omega
  ·injection hv with e1 _ _
   exact⟨g,e1⟩
 subst hA1;have hgb:w.heap.size+3<=g:=(Bj.lt g rfl).1;have hgl:g<w3.heap.size:=(Bj.lt g rfl).2;obtain⟨bb,oo,hbo,_,VG⟩:=(oL Bj).cell hli;injection hbo with hbo
 injection hbo with e1 e2
 subst e1 e2;have O3:=Lib.hid Bj;have hz3:w.heap.size<w3.heap.size:=b0.lt;have awi:w.heap.size+1<w3.heap.size:=b1.lt;have awj:w.heap.size+2<w3.heap.size:=b2.lt;clear uH jB x1 x2 x3 x4 y1 y2 y3 y4 ze O2 Bj;have uh:w3.cell? ⟨g,kH l o.name*27+26,none⟩=some (.bool (qp l o.name).drain):=by
  have:=VG 26 (by omega);rw[Nat.zero_add]at this;rw[this,<-HG.out];exact Bk.agi _
 have Au:w3.frozen? ⟨g,kH l o.name*27+26,none⟩=false:=by
  rcases O3.out.2 with⟨hv,h0⟩|⟨g',cap,cur,hv,q2,q3,q4,q5,q6,q7⟩
  ·cases hv
  injection hv with e1 e2 e3
  injection e1 with e1
  injection e1 with e1
  subst e1;simp[World.frozen?,q3]
 clear VG;obtain⟨x1,x2,x3,x4⟩:=b0.aI;obtain⟨y1,y2,y3,y4⟩:=b1.aI;obtain⟨u1,u2,u3,u4⟩:=b2.aI;have B0:=Lib.hid b0;have B2:=Lib.hid b2;clear b0 b1 b2;go_wp2_with fail;have O4:=Lib.hid (UE O3.out (kH l o.name*27+26) (by omega) (.bool true));have hxs:(dH l).set (kH l o.name*27+26) (.bool true)=dH (l.set (kH l o.name) ((qp l o.name).toD true)):=
  JD l (kH l o.name) hli _ 26 (by omega) _ (by rw[<-HG.out];exact(Bk.auk (qp l o.name) _).symm)
 rw[hxs]at O4;have b2:=((B2.out.dM ⟨g,kH l o.name*27+26,none⟩ (.bool true) (by show g≠_;omega)).eG 0 (.int .i64 (v+1))).eG 1 (.slice (some ⟨g,0,none⟩) l.length c1);obtain⟨z1,z2,z3,z4⟩:=b2.aI;have hZ:=z3 0 2 (ay _);have hlen:(l.set (kH l o.name) ((qp l o.name).toD true)).length=l.length:=aW;refine bodyPost_ret (Fj rfl _ _ _ _ rfl (by rw[hZ];trivial)) rfl ⟨some ⟨g,0,none⟩,c1,?_,?_,((HB3.out.setCell (show w.heap.size<=g by omega) _).setCell (show w.heap.size<=w.heap.size+2 by omega) _).setCell (show w.heap.size<=w.heap.size+2 by omega) _⟩
 ·rw[z4 0 2 (ay _),hlen]
  rfl
 ·rw[hlen]
  exact iG (base:=w.heap.size+3) (jM (jM O4.out (show w.heap.size+2<w.heap.size+3 by omega) _) (show w.heap.size+2<w.heap.size+3 by omega) _) (by omega)
theorem arX(l:List Bk)(hs:Gy l)(v:Int)(hv : -9223372036854775808<=v/\v<9223372036854775807)(o:qX)(hf:o.bk.ru)(hw:o.w<18446744073709551616)(Ck:qE v l o=0)(h1:o.kind=5)(hn0:sZ l o.name=true)(A:Option aU)(c:Nat)(w:au)(hR:Gv w w.heap.size A l.length l)(hn:l.length<=100000):
 aR aj 71 #[.agg #[.int .i64 v,.slice A l.length c],.agg o.aA] w (Wz w (v+1) (l.set (kH l o.name) ((qp l o.name).toD false)) 0):=by
 have HS:=Lib.hid hs;have IK:=Lib.hid (fun ob uy Ij=>(((hR.alloc (ay _) ob).alloc (by simp) uy).alloc (by simp;omega) Ij).lF (B':=(((w.alloc ob).alloc uy).alloc Ij).heap.size) (by simp;omega));have vV:=Lib.hid (fun ob uy Ij=>((((Below.refl w.heap.size w).alloc (ay _) ob).alloc (by simp) uy).alloc (by simp;omega) Ij:Below w.heap.size w (((w.alloc ob).alloc uy).alloc Ij)));have Qn:=fun A c W (hR:Gv W W.heap.size A l.length l)=>KT l hs v o hf hw A c W hR (by omega)
 rw[Ck]at Qn;have OE:=Lib.hid Qn;clear hR hs Qn Ck;obtain⟨hv1,hv2⟩:=hv;have hli:=yJ hn0;have wW:((kH l o.name:Nat):Int)<(l.length:Nat):=by omega
 have HG:=Lib.hid (EZ hn0);clear hn0;go_enter Tryz.func71,Tryz.ntmps71;go_wp2_with fail;refine(xX l A c _ (IK.out _ _ _) hn).mono ?_;rintro e w1 ⟨A1,c1,rfl,YD,gI⟩;have b0:=(((dL.new w _ _).alloc _).alloc _).below gI (by simp;omega);have b1:=((dL.Vv w _ _ _).alloc _).below gI (by simp);have b2:=(dL.aj2 w _ _ _ _).below gI (by simp);have nu:w.heap.size+2<w1.heap.size:=b2.lt;have O1:=Lib.hid (iG YD (show w.heap.size+3<=_ by simp));have qd:=Lib.hid ((vV.out _ _ _).trans (gI.mono (by simp;omega)));clear YD gI;obtain⟨x1,x2,x3,x4⟩:=b0.aI;obtain⟨y1,y2,y3,y4⟩:=b1.aI;have B0:=Lib.hid b0;have B1:=Lib.hid b1;have B2:=Lib.hid b2;clear b0 b1 b2;go_wp2_with fail;refine(OE.out A1 c1 _ (oL (jM O1.out (by simp) _))).mono ?_;rintro e w2 ⟨rfl,kF⟩;have jB:(w1.setCell ⟨w.heap.size,1,none⟩ (Value.slice A1 l.length c1)).heap.size=w1.heap.size:=by simp[World.setCell]
 have b0:=(B0.out.eG 1 (Value.slice A1 l.length c1)).below kF (by rw[jB];omega);have b1:=(B1.out.dM ⟨w.heap.size,1,none⟩ (Value.slice A1 l.length c1) (by simp)).below kF (by rw[jB];omega);have b2:=(B2.out.dM ⟨w.heap.size,1,none⟩ (Value.slice A1 l.length c1) (by simp)).below kF (by rw[jB];omega);have O2:=Lib.hid (jv (jM O1.out (by simp) _) kF);have ze:=Lib.hid ((qd.out.setCell (ay _) _).trans (kF.mono (by rw[jB];omega)));have wX:w.heap.size+2<w2.heap.size:=b2.lt;have arT:w.heap.size+1<w2.heap.size:=b1.lt;have arU:w.heap.size<w2.heap.size:=b0.lt;clear kF jB x1 x2 x3 x4 y1 y2 y3 y4 nu qd O1 IK OE;obtain⟨x1,x2,x3,x4⟩:=b0.aI;obtain⟨y1,y2,y3,y4⟩:=b1.aI;have B0:=Lib.hid b0;have B1:=Lib.hid b1;have B2:=Lib.hid b2;clear b0 b1 b2;go_wp2_with fail;refine(MB l HS.out o.name (v+1) A1 c1 _ (oL (jM O2.out (by simp) _)) (by omega)).mono ?_;rintro e w3 ⟨rfl,uH⟩;have jB:(w2.setCell ⟨w.heap.size,0,none⟩ (Value.int .i64 (v+1))).heap.size=w2.heap.size:=by simp[World.setCell]
 have b0:=(B0.out.eG 0 (Value.int .i64 (v+1))).below uH (by rw[jB];omega);have b1:=(B1.out.dM ⟨w.heap.size,0,none⟩ (Value.int .i64 (v+1)) (by simp)).below uH (by rw[jB];omega);have b2:=(B2.out.dM ⟨w.heap.size,0,none⟩ (Value.int .i64 (v+1)) (by simp)).below uH (by rw[jB];omega);have Bj:=jv (jM O2.out (show w.heap.size<w.heap.size+3 by omega) (Value.int .i64 (v+1))) uH;have HB3:=Lib.hid ((ze.out.setCell (ay _) (Value.int .i64 (v+1))).trans (uH.mono (by rw[jB];omega)));obtain⟨g,hA1⟩:∃g,A1=some ⟨g,0,none⟩:=by
  rcases Bj.2 with⟨hv,h0⟩|⟨g,cap,cur,hv,_⟩
  ·omega
  ·injection hv with e1 _ _
   exact⟨g,e1⟩
 subst hA1;have hgb:w.heap.size+3<=g:=(Bj.lt g rfl).1;have hgl:g<w3.heap.size:=(Bj.lt g rfl).2;obtain⟨bb,oo,hbo,_,VG⟩:=(oL Bj).cell hli;injection hbo with hbo
 injection hbo with e1 e2
 subst e1 e2;have O3:=Lib.hid Bj;have hz3:w.heap.size<w3.heap.size:=b0.lt;have awi:w.heap.size+1<w3.heap.size:=b1.lt;have awj:w.heap.size+2<w3.heap.size:=b2.lt;clear uH jB x1 x2 x3 x4 y1 y2 y3 y4 ze O2 Bj;have uh:w3.cell? ⟨g,kH l o.name*27+26,none⟩=some (.bool (qp l o.name).drain):=by
  have:=VG 26 (by omega);rw[Nat.zero_add]at this;rw[this,<-HG.out];exact Bk.agi _
 have Au:w3.frozen? ⟨g,kH l o.name*27+26,none⟩=false:=by
  rcases O3.out.2 with⟨hv,h0⟩|⟨g',cap,cur,hv,q2,q3,q4,q5,q6,q7⟩
  ·cases hv
  injection hv with e1 e2 e3
  injection e1 with e1
  injection e1 with e1
  subst e1;simp[World.frozen?,q3]
 clear VG;obtain⟨x1,x2,x3,x4⟩:=b0.aI;obtain⟨y1,y2,y3,y4⟩:=b1.aI;obtain⟨u1,u2,u3,u4⟩:=b2.aI;have B0:=Lib.hid b0;have B2:=Lib.hid b2;clear b0 b1 b2;go_wp2_with fail;have O4:=Lib.hid (UE O3.out (kH l o.name*27+26) (by omega) (.bool false));have hxs:(dH l).set (kH l o.name*27+26) (.bool false)=dH (l.set (kH l o.name) ((qp l o.name).toD false)):=
  JD l (kH l o.name) hli _ 26 (by omega) _ (by rw[<-HG.out];exact(Bk.auk (qp l o.name) _).symm)
 rw[hxs]at O4;have b2:=((B2.out.dM ⟨g,kH l o.name*27+26,none⟩ (.bool false) (by show g≠_;omega)).eG 0 (.int .i64 (v+1))).eG 1 (.slice (some ⟨g,0,none⟩) l.length c1);obtain⟨z1,z2,z3,z4⟩:=b2.aI;have hZ:=z3 0 2 (ay _);have hlen:(l.set (kH l o.name) ((qp l o.name).toD false)).length=l.length:=aW;refine bodyPost_ret (Fj rfl _ _ _ _ rfl (by rw[hZ];trivial)) rfl ⟨some ⟨g,0,none⟩,c1,?_,?_,((HB3.out.setCell (show w.heap.size<=g by omega) _).setCell (show w.heap.size<=w.heap.size+2 by omega) _).setCell (show w.heap.size<=w.heap.size+2 by omega) _⟩
 ·rw[z4 0 2 (ay _),hlen]
  rfl
 ·rw[hlen]
  exact iG (base:=w.heap.size+3) (jM (jM O4.out (show w.heap.size+2<w.heap.size+3 by omega) _) (show w.heap.size+2<w.heap.size+3 by omega) _) (by omega)
theorem GQ(l:List Bk)(i:Nat)(hi:i<l.length):nm l i=(l[i]'hi).name:=by
 unfold nm;rw[av,aD hi];rfl
theorem aag(a:List UInt8):mE a a=0:=KE.2 rfl
theorem xH{v:Int}{l:List Bk}:yD v l=true↔0<=v/\v<=1099511627776/\l.length<=1024/\(∀x∈l,x.Dq=true/\YO x.w=true)/\Gy l:=by
 unfold yD Ll;simp only[bl,decide_eq_true_eq,List.all_eq_true,List.mem_range,Bool.or_eq_true];constructor
 ·rintro⟨⟨⟨h1,h2⟩,h3⟩,h4⟩
  refine⟨h1,h2,h3,fun x hx=>?_,?_⟩
  ·obtain⟨i,hi,rfl⟩:=mR hx
   have:=(h4 i hi).1;rw[av,aD hi]at this;exact this
  ·unfold Gy
   have key:∀d i (hi:i+d+1<l.length),mE (nm l i) (nm l (i+d+1))<0:=by
    intro d
    induction d with
    | zero=>
      intro i hi;have:=(h4 (i+1) hi).2;rcases this with h|h
      ·omega
      ·simpa using h
    | succ d ih=>
      intro i hi;have h5:=ih i (by omega);have h6:=(h4 (i+d+1+1) hi).2;rcases h6 with h|h
      ·omega
      ·have h7:mE (nm l (i+d+1)) (nm l (i+(d+1)+1))<0:=by simpa[ny]using h
       exact Gw h5 h7
   rw[fQ];intro i j hi hj SE;have:=key (j-i-1) i (by omega);rw[show i+(j-i-1)+1=j by omega,GQ l i hi,GQ l j hj]at this;exact this
 ·rintro⟨h1,h2,h3,h4,h5⟩
  refine⟨⟨⟨h1,h2⟩,h3⟩,fun i hi=>⟨?_,?_⟩⟩
  ·have:=h4 (l[i]'hi) (eO hi)
   rw[av,aD hi];exact this
  ·rcases dX i with h|h
   ·exact .inl h
   ·exact .inr (h5.lt (by omega) hi)
theorem anZ{l:List Bk}(hs:Gy l){x:Bk}(hx:x∈l):qp l x.name=x:=by
 obtain⟨i,hi,rfl⟩:=mR hx;obtain⟨h1,h2⟩:=aru hs hi (GQ l i hi);rw[EZ h2,h1,av,aD hi];rfl
theorem UU{l:List Bk}{s:List UInt8}(h:sZ l s=true):qp l s∈l/\(qp l s).name=s:=by
 have hl:=yJ h;rw[EZ h,av,aD hl];refine⟨eO hl,?_⟩;unfold sZ at h;simp at h;show(l[kH l s]).name=s;rw[<-GQ l _ hl];exact KE.1 h.2
theorem agX{l:List Bk}{s:List UInt8}(h:sZ l s=true):nm l (kH l s)=s:=by
 unfold sZ at h;simp at h;exact KE.1 h.2
theorem aah(l:List Bk)(s:List UInt8):(∀i,i<kH l s->mE (nm l i) s<0)/\(kH l s<l.length->¬mE (nm l (kH l s)) s<0):=by
 induction l with
 | nil=>exact⟨fun i hi=>absurd hi (by simp[kH]),fun h=>absurd h (by simp)⟩
 | cons x l ih=>
   by_cases hx:mE x.name s<0
   ·have e:kH (x::l) s=kH l s+1:=by unfold kH;rw[List.takeWhile_cons];simp[hx]
    rw[e];refine⟨fun i hi=>?_,fun h=>?_⟩
    ·rcases i with _|i
     ·exact hx
     ·exact ih.1 i (by omega)
    ·exact ih.2 (by simpa using h)
   ·have e:kH (x::l) s=0:=by unfold kH;rw[List.takeWhile_cons];simp[hx]
    rw[e];exact⟨fun i hi=>by omega,fun _=>hx⟩
theorem WA{l:List Bk}(s:List UInt8){x:Bk}(hx:x∈l.take (kH l s)):mE x.name s<0:=by
 obtain⟨i,hi,rfl⟩:=mR hx;rw[bK]at hi;rw[List.getElem_take,<-GQ l i (by omega)];exact(aah l s).1 i (by omega)
theorem an0{l:List Bk}(s:List UInt8)(h:kH l s<l.length):¬mE (nm l (kH l s)) s<0:=(aah l s).2 h
theorem aai{l:List Bk}(hs:Gy l)(s:List UInt8)(uU:sZ l s=false){x:Bk}(hx:x∈l.drop (kH l s)):mE s x.name<0:=by
 obtain⟨i,hi,rfl⟩:=mR hx;rw[List.length_drop]at hi;rw[List.getElem_drop];have h0:=an0 s (show kH l s<l.length by omega);have h1:mE (nm l (kH l s)) s≠0:=by
  intro h;unfold sZ at uU;simp[show kH l s<l.length by omega,h]at uU
 have h2:mE s (nm l (kH l s))<0:=by
  rw[akk];have:=agr (nm l (kH l s)) s;omega
 rw[<-GQ l _ (by omega)];rcases dX i with h|h
 ·subst h;simpa using h2
 ·exact Gw h2 (hs.lt (by omega) (by omega))
theorem arY{l:List Bk}{k:Nat}{x y:Bk}:y∈Ah l k x↔y=x\/y∈l:=by
 unfold Ah;rw[qB,bD];have:y∈l↔y∈l.take k\/y∈l.drop k:=by rw[<-qB,iF]
 rw[this];constructor
 ·rintro(h|h|h)
  ·exact .inr (.inl h)
  ·exact .inl h
  ·exact .inr (.inr h)
 ·rintro(h|h|h)
  ·exact .inr (.inl h)
  ·exact .inl h
  ·exact .inr (.inr h)
theorem arZ{l:List Bk}(hs:Gy l){x:Bk}(uU:sZ l x.name=false):Gy (Ah l (kH l x.name) x):=by
 unfold Gy Ah;rw[List.pairwise_append];refine⟨hs.sublist (List.take_sublist _ _),?_,?_⟩
 ·rw[gL]
  exact⟨fun y hy=>aai hs x.name uU hy,hs.sublist (List.drop_sublist _ _)⟩
 ·intro a ha b hb
  rcases bD.1 hb with rfl|hb
  ·exact WA _ ha
  ·exact Gw (WA _ ha) (aai hs x.name uU hb)
theorem ar0{l:List Bk}(hs:Gy l)(i:Nat):Gy (Fh l i):=by
 unfold Fh;refine hs.sublist ?_
 conv=>rhs;rw[<-iF i l]
 exact List.Sublist.append_left (by rw[<-List.drop_drop];exact List.drop_sublist _ _) _
theorem ai6{l:List Bk}(hs:Gy l){i:Nat}(hi:i<l.length){y:Bk}:y∈Fh l i↔y∈l/\y.name≠nm l i:=by
 have e:l=l.take i++l[i]::l.drop (i+1):=by
  conv=>lhs;rw[<-iF i l,kT hi]
 unfold Fh;constructor
 ·intro h
  have hm:y∈l:=by
   rw[e];rcases qB.1 h with h|h
   ·exact Bo _ h
   ·exact List.mem_append_right _ (List.mem_cons_of_mem _ h)
  refine⟨hm,fun hn=>?_⟩;rw[GQ l i hi]at hn;have UR:=hs;unfold Gy at UR;rw[e,List.pairwise_append,gL]at UR;rcases qB.1 h with h|h
  ·have:=UR.2.2 y h l[i] (List.mem_cons_self ..)
   rw[hn,aag]at this;omega
  ·have:=UR.2.1.1 y h
   rw[hn,aag]at this;omega
 ·rintro⟨hm,hn⟩
  rw[e]at hm;rcases qB.1 hm with h|h
  ·exact Bo _ h
  ·rcases bD.1 h with rfl|h
   ·exact absurd (GQ l i hi).symm hn
   ·exact List.mem_append_right _ h
theorem ai7{l:List Bk}(hs:Gy l){i:Nat}(hi:i<l.length){z:Bk}(hz:z.name=nm l i):Gy (l.set i z):=by
 unfold Gy;rw[fQ];intro a b ha hb EH;rw[aW]at ha hb;have hn:∀j (hj:j<(l.set i z).length),((l.set i z)[j]).name=nm l j:=by
  intro j hj;rw[aW]at hj;rw[List.getElem_set];split
  ·rename_i h;subst h;exact hz
  ·exact(GQ l j hj).symm
 rw[hn,hn];exact hs.lt EH hb
theorem ai8{l:List Bk}(hs:Gy l){i:Nat}(hi:i<l.length){z y:Bk}(hz:z.name=nm l i):y∈l.set i z↔y=z\/(y∈l/\y.name≠nm l i):=by
 have e:l=l.take i++l[i]::l.drop (i+1):=by
  conv=>lhs;rw[<-iF i l,kT hi]
 have e2:l.set i z=l.take i++z::l.drop (i+1):=List.set_eq_take_append_cons_drop ▸ (by rw[if_pos hi]);have hd:=@ai6 l hs i hi y;rw[e2,qB,bD];unfold Fh at hd;rw[qB]at hd;rw[<-hd];constructor
 ·rintro(h|h|h)
  ·exact .inr (.inl h)
  ·exact .inl h
  ·exact .inr (.inr h)
 ·rintro(h|h|h)
  ·exact .inr (.inl h)
  ·exact .inl h
  ·exact .inr (.inr h)
def doV(v:Int)(l:List Bk)(o:qX):Int:=if qE v l o=0 then v+1 else v
def doL(v:Int)(l:List Bk)(o:qX):List Bk:=if qE v l o=0 then Rm l o else l
theorem awk(l:List Bk)(hs:Gy l)(v:Int)(hv : -9223372036854775808<=v/\v<9223372036854775807)(o:qX)(hf:o.bk.ru)(hw:o.w<18446744073709551616)(A:Option aU)(c:Nat)(w:au)(hR:Gv w w.heap.size A l.length l)(hn:l.length<=100000):
 aR aj 71 #[.agg #[.int .i64 v,.slice A l.length c],.agg o.aA] w (Wz w (doV v l o) (doL v l o) (qE v l o)):=by
 by_cases h:qE v l o=0
 ·have hV:doV v l o=v+1:=by simp[doV,h]
  have hL:doL v l o=Rm l o:=by simp[doL,h]
  rw[hV,hL,h];obtain⟨k1,k2,k3,k4,k5,k6⟩:=abZ h;unfold Rm;by_cases h1:o.kind=1
  ·rw[if_pos h1]
   exact awg l hs v hv o hf hw h h1 A c w hR hn
  ·rw[if_neg h1]
   by_cases h2:o.kind=2
   ·rw[if_pos h2]
    exact awh l hs v hv o hf hw h h2 (k6 h1) A c w hR hn
   ·rw[if_neg h2]
    by_cases h3:o.kind=3
    ·rw[if_pos h3]
     exact akK l hs v hv o hf hw h h3 (k6 h1) A c w hR hn
    ·rw[if_neg h3]
     by_cases h4:o.kind=4
     ·rw[show(o.kind==4)=true by simpa using h4]
      exact anY l hs v hv o hf hw h h4 (k6 h1) A c w hR hn
     ·rw[show(o.kind==4)=false by simpa using h4]
      exact arX l hs v hv o hf hw h (by omega) (k6 h1) A c w hR hn
 ·have hV:doV v l o=v:=by simp[doV,h]
  have hL:doL v l o=l:=by simp[doL,h]
  rw[hV,hL];exact awf l hs v o hf hw h A c w hR hn
structure o9 where
 name:List UInt8
 q:Int
deriving DecidableEq
def o9.aA(x:o9):Array aC:=#[.string (bV x.name),.int .i64 x.q]
def Bt(l:List o9):List aC:=l.flatMap (·.aA.toList)
theorem GU(l:List o9)(x:o9):Bt (l++[x])=Bt l++x.aA.toList:=by simp[Bt]
theorem ab1:∃i:TypeInfo,aj.info? 151=some i/\i.zero=some (.agg #[.string ⟨#[]⟩,.int .i64 0])/\i.size=2/\i.bytes<=200:=by
 cases h:aj.info? 151 with
 | none=>exact absurd h (by have:(aj.info? 151).isSome=true:=by kernel_rfl
                            intro e;rw[e]at this;cases this)
 | some i=>
   have h1:(aj.info? 151).map (·.size)=some 2:=by kernel_rfl
   have h2:(aj.info? 151).map (fun i=>decide (i.bytes<=200))=some true:=by kernel_rfl
   have h3:(aj.info? 151).map (·.zero)=some (some (.agg #[.string ⟨#[]⟩,.int .i64 0])):=by kernel_rfl
   rw[h]at h1 h2 h3;simp at h1 h2 h3;exact⟨i,rfl,h3,h1,h2⟩
def an1(n:Nat)(ps:Array (Nat×aC)):Sem aC:=bJ 75 n ps
@[go_sem ↓]theorem aAY(n:Nat)(ps:Array (Nat×aC)):bJ 75 n ps=an1 n ps:=rfl
@[go_sem]theorem akL(w:au)(s:List UInt8)(q:Int):(an1 1 #[(0,.agg #[.string (bV s),.int .i64 q])]).run aj w=.ok (.slice (some ⟨w.heap.size,0,none⟩) 1 1) (w.alloc (.cells #[.string (bV s),.int .i64 q] 151)):=by
 obtain⟨i0,oz,mZ,nu,Ar⟩:=ab1;exact rX w _ _ i0 _ 2 Tryz.underlying75 oz mZ nu rfl (by omega) (by omega) _ rfl
def GV(ls:List (List UInt8))(x:Bk):o9:=⟨x.name,if x.drain||xW ls x.name then 0 else wQ x.w⟩
def kV(ls:List (List UInt8))(l:List Bk):List o9:=l.map (GV ls)
theorem Y1(ls:List (List UInt8))(l:List Bk)(i:Nat)(hi:i<l.length):kV ls (l.take (i+1))=kV ls (l.take i)++[GV ls (l.getD i jo)]:=by
 rw[List.take_succ_eq_append_getElem hi,kV,kV,List.map_append,av,aD hi];rfl
def DL(key:Vector UInt8 16)(s:List UInt8)(n:Nat):Nat:=yF key (s++[0])%n
def Bl(key:Vector UInt8 16)(s:List UInt8)(n:Nat):Nat:=yF key (s++[1])%(n-1)+1
def chF(key:Vector UInt8 16)(n:Nat)(l:List (List UInt8))(i k:Nat):Nat:=rO (DL key (l.getD i []) n) (Bl key (l.getD i []) n) n k
theorem WC(key:Vector UInt8 16)(s:List UInt8){n:Nat}(hn:2<=n):1<=Bl key s n/\Bl key s n<n:=by
 unfold Bl;have:=fD (yF key (s++[1])) (show 0<n-1 by omega);omega
theorem an2(key:Vector UInt8 16)(s:List UInt8){n:Nat}(hn:2<=n):DL key s n<n:=fD _ (by omega)
theorem an3{key:Vector UInt8 16}{n:Nat}{l:List (List UInt8)}(h:lI n=true):ad0 n l.length (chF key n l):=by
 intro i hi;have h2:=xD h;obtain⟨s1,s2⟩:=WC key (l.getD i []) h2;refine⟨fun t=>QF (by omega),fun j hj=>V7 h s1 s2 hj⟩
def wF(g n:Nat)(q:List Nat)(ch:Nat->Nat->Nat):Nat->Mg
 | 0=>⟨q.map fun _=>0,List.replicate n (-1),n⟩
 | j+1=>if(wF g n q ch j).left=0 then wF g n q ch j else sO g n q ch (wF g n q ch j) (j%q.length)
theorem Te{g n:Nat}{q:List Nat}{ch:Nat->Nat->Nat}:∀j,(∀t,t<j->(jN g n q ch t).left≠0)->wF g n q ch j=jN g n q ch j
 | 0,_=>rfl
 | j+1,h=>by
   have ih:=Te (g:=g) (n:=n) (q:=q) (ch:=ch) j (fun t ht=>h t (by omega));unfold wF jN;rw[ih,if_neg (h j (by omega))]
theorem Tf{g n:Nat}{q:List Nat}{ch:Nat->Nat->Nat}{j:Nat}(h:(wF g n q ch j).left=0):∀d,wF g n q ch (j+d)=wF g n q ch j
 | 0=>rfl
 | d+1=>by
   have e:wF g n q ch (j+d+1)=if(wF g n q ch (j+d)).left=0 then wF g n q ch (j+d)else sO g n q ch (wF g n q ch (j+d)) ((j+d)%q.length):=rfl
   rw[<-ny,e,Tf h d,if_pos h]
def lQ(q:List Nat):Nat:=q.foldl max 0
def Fp(n:Nat)(q:List Nat)(ch:Nat->Nat->Nat):List Int:=(wF (lQ q) n q ch (n*q.length)).sl
theorem aaj:∀(q:List Nat)(b:Nat),q.foldl max b=b\/∃i,i<q.length/\q.getD i 0=q.foldl max b
 | [],b=>.inl rfl
 | x::q,b=>by
   rw[jV];rcases aaj q (max b x)with h|⟨i,hi,h⟩
   ·rw[h]
    rcases Nat.le_total x b with hx|hx
    ·left;omega
    ·right;exact⟨0,by simp,by simp;omega⟩
   ·exact .inr ⟨i+1,by simpa using hi,by simpa using h⟩
theorem DN{q:List Nat}(h:q≠[])(h0:∀x∈q,0<x):∃i,i<q.length/\q.getD i 0=lQ q:=by
 rcases aaj q 0 with e|e
 ·cases q with
  | nil=>exact absurd rfl h
  | cons x t=>
    exfalso;have h1:∀(t:List Nat)(b:Nat),b<=t.foldl max b:=by
     intro t
     induction t with
     | nil=>intro b;exact ay _
     | cons y t ih=>intro b;rw[jV];exact Nat.le_trans (Nat.le_max_left _ _) (ih _)
    have h2:=h1 t (max 0 x);have h3:=h0 x (by simp);rw[jV]at e;omega
 ·exact e
theorem aak{n:Nat}{q:List Nat}{ch:Nat->Nat->Nat}(h:q≠[])(h0:∀x∈q,0<x):∃K,K<=n*q.length/\(jN (lQ q) n q ch K).left=0/\(∀j,j<K->(jN (lQ q) n q ch j).left≠0)/\Fp n q ch=(jN (lQ q) n q ch K).sl:=by
 obtain⟨i,hi,hg⟩:=DN h h0;obtain⟨K,h1,h2⟩:=arv (n:=n) (ch:=ch) hi hg;have hm:∀m,(jN (lQ q) n q ch (m*q.length)).left<=n-m:=by
  intro m
  induction m with
  | zero=>simp[jN]
  | succ m ih=>have:=abH (n:=n) (ch:=ch) hi hg m;omega
 have hK:K<=n*q.length:=by
  rcases bf (n*q.length) K with h3|h3
  ·have:=h2 _ h3
   have:=hm n;omega
  ·exact h3
 refine⟨K,hK,h1,h2,?_⟩;unfold Fp;obtain⟨d,hd⟩:∃d,n*q.length=K+d:=⟨n*q.length-K,by omega⟩
 have e:=Te (g:=lQ q) (n:=n) (q:=q) (ch:=ch) K h2;rw[hd,Tf (by rw[e];exact h1),e]
structure Tl where
 names:List (List UInt8)
 uP:List Int
deriving DecidableEq
def uJ(key:Vector UInt8 16)(n:Nat)(l:List o9):Tl:=
 let r:=l.filter fun x=>decide (x.q≠0)
 if r=[]then⟨[],[]⟩else⟨r.map (·.name),Fp n (r.map fun x=>x.q.toNat) (chF key n (r.map (·.name)))⟩
def Iq(t:Tl)(h:Nat):Option (List UInt8):=if t.uP.length=0 then none else some (t.names.getD (t.uP.getD (h%t.uP.length) 0).toNat [])
theorem ael{n:Nat}{q:List Nat}{ch:Nat->Nat->Nat}(h:q≠[])(h0:∀x∈q,0<x)(hf:ad0 n q.length ch):(Fp n q ch).length=n/\∀j,j<n->∃i,i<q.length/\(Fp n q ch).getD j 0=(i:Int):=by
 obtain⟨K,_,h1,h2,h3⟩:=aak (n:=n) (ch:=ch) h h0;have hq:0<q.length:=List.length_pos_iff.2 h;have ok:=ant (g:=lQ q) hq hf K h2;rw[h3];refine⟨ok.sll,fun j hj=>?_⟩;rcases ok.rng j hj with e|e
 ·exfalso
  have Au:=ok.fr;rw[h1]at Au;have:rY (jN (lQ q) n q ch K).sl j=true:=by unfold rY;rw[e];rfl
  have EO:=QG _ j 0 this (by rw[ok.sll];exact hj) (by decide);omega
 ·exact e
theorem aal{key:Vector UInt8 16}{n:Nat}{l:List o9}(hp:lI n=true)(h0:∀x∈l,0<=x.q):(uJ key n l).uP=[]/\(uJ key n l).names=[]\/(uJ key n l).uP.length=n/\∀j,j<n->∃i,i<(uJ key n l).names.length/\(uJ key n l).uP.getD j 0=(i:Int):=by
 unfold uJ;simp only;split
 ·exact .inl ⟨rfl,rfl⟩
 ·rename_i hr
  right;have:=ael (n:=n) (q:=(l.filter fun x=>decide (x.q≠0)).map fun x=>x.q.toNat) (ch:=chF key n ((l.filter fun x=>decide (x.q≠0)).map (·.name))) (by simpa using hr) (by
   intro x hx;obtain⟨y,hy,rfl⟩:=List.mem_map.1 hx;obtain⟨h1,h2⟩:=List.mem_filter.1 hy;have:=h0 y h1;simp at h2;omega) (by rw[bR];have:=an3 (key:=key) (n:=n) (l:=(l.filter fun x=>decide (x.q≠0)).map (·.name)) hp;rwa [bR]at this)
  simp only[bR]at this ⊢;exact this
section
open Go.ChangeShapes Go.WideShapes Go.ChangeAt Go.RowKit Go.Deep
section
variable {H:Type} {enc:bM×aC->H} {w:au} {base:Nat} {spare:Nat->Bool} {held:Bool} {fuel:Nat} {t:bM} {cs:List aC} {x:DataW H×List MemPlace}
theorem OH(h:lX enc aj w base spare held fuel 27 cs=some x):∃a:fu,cs=a.aA.toList:=by
 obtain⟨xs,n,_,_,hl,Dh,hf⟩:=uX Tryz.underlying27 h;rw[show aj.cellsOf 27=17 by kernel_rfl]at hl;obtain⟨y0,h0⟩:=Li Dh hf 0 _ rfl;obtain⟨y1,h1⟩:=Li Dh hf 1 _ rfl;obtain⟨b,hb,_⟩:=I5 (by kernel_rfl) h0;obtain⟨v,hv⟩:=NR (k:=16) (e:=5) (by kernel_rfl) (by kernel_rfl) (by kernel_rfl) (by kernel_rfl) h1;have c0:(cs.drop 0).take 1=[.bool b]:=hb;have c1:(cs.drop 1).take 16=v.toList.map bv:=hv;refine⟨⟨b,v⟩,?_⟩;have e:=tK cs 0 1;rw[c0,tK cs (0+1) 16,c1,iR (i:=0+1+16) (by omega)]at e;simpa[fu.aA]using e
def Bk.Lj(b:Bk):Prop:=b.ru/\-9223372036854775808<=b.nL/\b.nL<=9223372036854775807
theorem ar1(h:lX enc aj w base spare held fuel 62 cs=some x):∃b:Bk,cs=b.aA.toList/\b.Lj:=by
 obtain⟨xs,n,_,_,hl,Dh,hf⟩:=uX Tryz.underlying62 h;rw[show aj.cellsOf 62=27 by kernel_rfl]at hl;obtain⟨y0,h0⟩:=Li Dh hf 0 _ rfl;obtain⟨y1,h1⟩:=Li Dh hf 1 _ rfl;obtain⟨y2,h2⟩:=Li Dh hf 2 _ rfl;obtain⟨y3,h3⟩:=Li Dh hf 3 _ rfl;obtain⟨y4,h4⟩:=Li Dh hf 4 _ rfl;obtain⟨y5,h5⟩:=Li Dh hf 5 _ rfl;obtain⟨s,hs,hsl⟩:=Vx (by kernel_rfl) h0;obtain⟨a,ha⟩:=OH h1;obtain⟨p,hp,hp1,hp2⟩:=sK (by kernel_rfl) h2;obtain⟨m,hm⟩:=NR (k:=6) (e:=5) (by kernel_rfl) (by kernel_rfl) (by kernel_rfl) (by kernel_rfl) h3;obtain⟨f,hf,hf2⟩:=adz (by kernel_rfl) h4;obtain⟨d,hd,_⟩:=I5 (by kernel_rfl) h5;have c0:(cs.drop 0).take 1=[.string (bV s)]:=hs;have c1:(cs.drop 1).take 17=a.aA.toList:=ha;have c2:(cs.drop 18).take 1=[.int .i64 p]:=hp;have c3:(cs.drop 19).take 6=m.toList.map bv:=hm;have c4:(cs.drop 25).take 1=[fv f]:=hf;have c5:(cs.drop 26).take 1=[.bool d]:=hd;refine⟨⟨s,a,p,m,f,d⟩,?_,⟨hsl,hf2⟩,hp1,hp2⟩;have e:=tK cs 0 1;rw[c0,tK cs (0+1) 17,c1,tK cs (0+1+17) 1,c2,tK cs (0+1+17+1) 6,c3,tK cs (0+1+17+1+6) 1,c4,tK cs (0+1+17+1+6+1) 1,c5,iR (i:=0+1+17+1+6+1+1) (by omega)]at e;simpa[Bk.aA,fu.aA]using e
def qX.Lj(o:qX):Prop:=o.bk.Lj/\o.w<18446744073709551616/\o.name.length<=9223372036854775807
theorem an4(h:lX enc aj w base spare held fuel 64 cs=some x):∃o:qX,cs=o.aA.toList/\o.Lj:=by
 obtain⟨xs,n,_,_,hl,Dh,hf⟩:=uX vH h;rw[show aj.cellsOf 64=30 by kernel_rfl]at hl;obtain⟨y0,h0⟩:=Li Dh hf 0 _ rfl;obtain⟨y1,h1⟩:=Li Dh hf 1 _ rfl;obtain⟨y2,h2⟩:=Li Dh hf 2 _ rfl;obtain⟨y3,h3⟩:=Li Dh hf 3 _ rfl;obtain⟨k,hk,_,_⟩:=sK (by kernel_rfl) h0;obtain⟨b,hb,hbg⟩:=ar1 h1;obtain⟨s,hs,hsl⟩:=Vx (by kernel_rfl) h2;obtain⟨f,hf,hf2⟩:=adz (by kernel_rfl) h3;have c0:(cs.drop 0).take 1=[.int .i64 k]:=hk;have c1:(cs.drop 1).take 27=b.aA.toList:=hb;have c2:(cs.drop 28).take 1=[.string (bV s)]:=hs;have c3:(cs.drop 29).take 1=[fv f]:=hf;refine⟨⟨k,b,s,f⟩,?_,hbg,hf2,hsl⟩;have e:=tK cs 0 1;rw[c0,tK cs (0+1) 27,c1,tK cs (0+1+27) 1,c2,tK cs (0+1+27+1) 1,c3,iR (i:=0+1+27+1+1) (by omega)]at e;simpa[qX.aA]using e
end
end
theorem an5{v:Int}{l:List Bk}(hs:Gy l)(o:qX):Gy (doL v l o):=by
 unfold doL;split
 ·rename_i h
  obtain⟨_,_,_,h1,_,h6⟩:=abZ h;unfold Rm;split
  ·rename_i hk
   exact arZ (x:=o.bk.Qm (kG o.bk.w)) hs (h1 hk).2.1
  ·rename_i hk
   have hh:=h6 hk;split
   ·exact ar0 hs _
   ·split
    ·exact ai7 hs (yJ hh) (by rw[agX hh];exact(UU hh).2)
    ·exact ai7 hs (yJ hh) (by rw[agX hh];exact(UU hh).2)
 ·exact hs
theorem an6{v:Int}{l:List Bk}(o:qX):(doL v l o).length=if qE v l o=0/\o.kind=1 then l.length+1 else if qE v l o=0/\o.kind=2 then l.length-1 else l.length:=by
 unfold doL;by_cases h:qE v l o=0
 ·obtain⟨_,_,_,h1,_,h6⟩:=abZ h
  simp only[h,true_and,if_true];unfold Rm;by_cases h1:o.kind=1
  ·simp only[h1,if_true];exact yI _ _ _
  ·simp only[h1,if_false]
   by_cases h2:o.kind=2
   ·simp only[h2,if_true];exact OD _ _ (yJ (h6 h1))
   ·simp only[h2,if_false]
    split<;>exact aW
 ·simp[h]
theorem aem(x:Nat):kG x=0\/kG x=x:=by unfold kG;split<;>simp
theorem aen{x:Nat}(h:YM x=true):YM (kG x)=true:=by
 rcases aem x with h1|h1<;>rw[h1]
 ·decide +kernel
 ·exact h
theorem aeo{x:Nat}(h:x<18446744073709551616):kG x<18446744073709551616:=by
 rcases aem x with h1|h1<;>rw[h1]
 ·decide
 ·exact h
theorem aep(x:Nat):kG (kG x)=kG x:=by
 unfold kG;by_cases h:(ord x 0==some .eq)=true
 ·simp only[h,if_true]
  split<;>rfl
 ·simp only[h]
  simp[h]
theorem aam(x:Nat):YO (kG x)=true:=by unfold YO;rw[aep];exact akm _
theorem aeq{x:Bk}{u:Nat}(h:x.Dq=true)(hu:YM u=true):(x.Qm u).Dq=true:=by
 unfold Bk.Dq at h ⊢;simp only[bl]at h ⊢;exact⟨⟨⟨⟨h.1.1.1.1,h.1.1.1.2⟩,h.1.1.2⟩,h.1.2⟩,hu⟩
theorem awl{x:Bk}(h:x.Dq=true):YM x.w=true:=by
 unfold Bk.Dq at h;simp only[bl]at h;exact h.2
theorem agY{v:Int}{l:List Bk}{o:qX}(hr:yD v l=true)(hf:∀x∈l,x.ru)(hof:o.bk.ru)(how:o.w<18446744073709551616)(h:qE v l o=0):
 yD (v+1) (doL v l o)=true/\∀x∈doL v l o,x.ru:=by
 obtain⟨h1,h2,h3,h4,h5⟩:=xH.1 hr;obtain⟨w1,w2,w3,w4,w5,w6⟩:=abZ h;have hl:=an6 (v:=v) (l:=l) o;have hs:=an5 (v:=v) h5 o;have key:∀x∈doL v l o,(x.Dq=true/\YO x.w=true)/\x.ru:=by
  unfold doL;rw[if_pos h];unfold Rm;split
  ·rename_i hk
   intro x hx;rcases arY.1 hx with rfl|hx
   ·have hb:=(w4 hk).1
    exact⟨⟨aeq hb (aen (awl hb)),aam _⟩,hof.1,aeo hof.2⟩
   ·exact⟨h4 x hx,hf x hx⟩
  ·rename_i hk
   have hh:=w6 hk;have wW:=UU hh;have YQ:=agX hh;split
   ·intro x hx
    have:=((ai6 h5 (yJ hh)).1 hx).1;exact⟨h4 x this,hf x this⟩
   ·split
    ·rename_i hk3
     intro x hx;rcases(ai8 h5 (yJ hh) (z:=(qp l o.name).Qm (kG o.w)) (by rw[YQ];exact wW.2)).1 hx with rfl|⟨hx,_⟩
     ·exact⟨⟨aeq (h4 _ wW.1).1 (aen (w5 hk3)),aam _⟩,(hf _ wW.1).1,aeo how⟩
     ·exact⟨h4 x hx,hf x hx⟩
    ·intro x hx
     rcases(ai8 h5 (yJ hh) (z:=(qp l o.name).toD (o.kind==4)) (by rw[YQ];exact wW.2)).1 hx with rfl|⟨hx,_⟩
     ·have e1:((qp l o.name).toD (o.kind==4)).Dq=(qp l o.name).Dq:=rfl
      have e2:((qp l o.name).toD (o.kind==4)).w=(qp l o.name).w:=rfl;rw[e1,e2];exact⟨h4 _ wW.1,(hf (qp l o.name) wW.1:(qp l o.name).ru)⟩
     ·exact⟨h4 x hx,hf x hx⟩
 refine⟨xH.2 ⟨by omega,by omega,?_,fun x hx=>(key x hx).1,hs⟩,fun x hx=>(key x hx).2⟩;rw[hl];split
 ·rename_i hk
  have:=(w4 hk.2).2.2;omega
 ·split<;>omega
def ab2(w:au)(m:List o9)(e:kX)(w':au):Prop:=
 ∃A c,e=.returned (.slice A m.length c)/\w'.ownsRow w.heap.size 151 2 (.slice A m.length c) m.length (Bt m)/\Below w.heap.size w w'
theorem agZ{w wr:au}{v:aC}{m:List o9}{n:Nat}(hn:m.length=n)(ho:wr.ownsRow (w.heap.size+1) 151 2 v n (Bt m))(hb:Below w.heap.size w wr):ab2 w m (.returned v) wr:=by
 subst hn;obtain⟨A,c,rfl,_,_⟩:=jT ho;exact⟨A,c,rfl,iG ho (by omega),hb⟩
theorem ag0(l:List Bk)(hf:∀x∈l,x.ru)(v:Int)(A:Option aU)(c:Nat)(ls:List (List UInt8))(D:Option aU)(d:Nat)(w:au)(hR:Gv w w.heap.size A l.length l)(hD:abO w w.heap.size D ls.length ls)(hn:l.length<=100000)(hd:ls.length<4611686018427387904):
 aR aj 28 #[.agg #[.int .i64 v,.slice A l.length c],.slice D ls.length d] w (ab2 w (kV ls l)):=by
 have HR:=Lib.hid hR;have HF:=Lib.hid hf;have HD:=Lib.hid hD;have vV:=Lib.hid (fun ob=>((Below.refl w.heap.size w).alloc (ay _) ob:Below w.heap.size w (w.alloc ob)));have Ej:=Lib.hid (fun i=>Y1 ls l i);have ND:=Lib.hid (show l.take l.length=l from List.take_length);obtain⟨i0,oz,mZ,nu,Ar⟩:=ab1;have HI0:=Lib.hid oz;have Nz:=Lib.hid mZ;have HZ1:=Lib.hid nu;have UO:=Lib.hid (show(Value.agg #[Value.string ⟨#[]⟩,Value.int .i64 0]).cells.size=2 from rfl);clear hR hf hD oz mZ nu;obtain⟨n,zC⟩:∃n,n=l.length:=⟨_,rfl⟩
 rw[<-zC]at HR hn ND ⊢;have HN:=Lib.hid zC;clear zC;go_enter Tryz.func28,Tryz.ntmps28;go_wp2;go_loopw [5,13] (fun s5 s13 wr=>∃(i:Nat)(O:Option aU)(cap:Nat),i<=n/\s5=.slice O i cap/\s13=.int .i64 i/\wr.ownsRow (w.heap.size+1) 151 2 (.slice O i cap) i (Bt (kV ls (l.take i)))/\Below (w.heap.size+1) (w.alloc (.cells #[.int .i64 v,.slice A n c] 32)) wr) (fun _ s13 _=>n-(intOf s13).toNat)
 case atStart=>exact⟨0,none,0,by omega,rfl,rfl,World.ownsRow_nil _ _ _ _,by simpa using Below.refl _ _⟩
 case round=>
  obtain⟨i,O,cap,wW,rfl,rfl,ho,hb⟩:=hrel;have HB:=Lib.hid hb;have hbw:=(vV.out (.cells #[.int .i64 v,.slice A n c] 32)).trans (hb.mono (by simp));have HBW:=Lib.hid hbw;have jB:=hb.size;have OW:=Lib.hid (fun ob uy=>(ho.alloc ob).alloc uy);have O0:=Lib.hid ho;clear hb hbw ho;by_cases fP:i<n
  ·have hi:(i:Int)<n:=by omega
   obtain⟨b,o,rfl,Cb,hh,hc⟩:=(HR.out.below HBW.out).fE fP;have Em:b<wr.heap.size:=by simp at jB;omega
   have anc:l.getD i jo∈l:=by
    have:=HN.out;rw[av,aD (by omega)];simp
   obtain⟨Qk,Ql⟩:=HF.out _ anc;have hsn:=Ej.out i (by have:=HN.out;omega);obtain⟨x,hx⟩:∃x,x=l.getD i jo:=⟨_,rfl⟩
   rw[<-hx]at hc Qk Ql hsn;have awm:=Lib.hid hsn;clear hx anc hsn Cb;have HDB:=Lib.hid (fun ob=>(((HD.out.below HBW.out).alloc (show w.heap.size<=wr.heap.size by simp at jB;omega) ob).lF (B':=(wr.alloc ob).heap.size) (by simp at jB⊢;omega):abO (wr.alloc ob) (wr.alloc ob).heap.size D ls.length ls));have HQ:∀W,aR aj 86 #[.float .f64 x.w] W fun e w'=>e=.returned (.tuple #[.int .i64 (wQ x.w),.bool (YM x.w)])/\W=w':=fun W=>agm x.w Ql W
   have HQU:=Lib.hid HQ;have UM:=Lib.hid (show i+1<=maxLen by unfold maxLen;omega);have UN:=Lib.hid (show(i+1)*i0.bytes<=140737488355328 from Nat.le_trans (Nat.mul_le_mul (show i+1<=100001 by omega) Ar) (by omega));have HBS:=Lib.hid (fun ob uy=>show w.heap.size+1<=((wr.alloc ob).alloc uy).heap.size by simp at jB⊢;omega);have Uf:=Lib.hid (fun(ob:Obj) (cc:Array aC) (h2:cc.size=2)=>(⟨by simp[h2],fun _=>⟨_,rfl,Nat.lt_succ_self _,abV _ _ cc _ _ (by have:=heap_alloc_new (wr.alloc ob) (.cells cc 151);rwa [show(wr.alloc ob).heap.size=wr.heap.size+1 by simp]at this)⟩⟩:Rd ((wr.alloc ob).alloc (.cells cc 151)) (wr.heap.size+1+1) 2 (some ⟨wr.heap.size+1,0,none⟩) 1 cc.toList));have HBN:=Lib.hid (fun ob uy=>((HB.out.alloc (show w.heap.size+1<=wr.heap.size by simpa using jB) ob).alloc (by simp at jB⊢;omega) uy:Below (w.heap.size+1) _ ((wr.alloc ob).alloc uy)));clear HQ Qk Ql;have hso:GV ls x=⟨x.name,if x.drain||xW ls x.name then 0 else wQ x.w⟩:=rfl;have HSO:=Lib.hid hso;clear hso;cases kd:x.drain
   ·have HKD:=Lib.hid kd
    have HCO:∀ob,aR aj 87 #[.slice D ls.length d,.string (bV x.name)] (wr.alloc ob) fun e w'=>e=.returned (.bool (xW ls x.name))/\wr.alloc ob=w':=fun ob=>Oj ls x.name D d _ (HDB.out ob) hd
    cases kc:xW ls x.name
    all_goals
     rw[kc]at HCO;have aAZ:=Lib.hid HCO;have HKC:=Lib.hid kc;clear HCO kc
    ·go_wp2_with (first
      | (go_at_call 86;refine(HQU.out _).mono ?_;rintro e w' ⟨rfl,rfl⟩)
      | (go_at_call 87;refine(aAZ.out _).mono ?_;rintro e w' ⟨rfl,rfl⟩)
      | (at_builtin;refine jI _ rfl (.tmp 31) (.tmp 36) _ rfl (w.heap.size+1) 151 i0 (.agg #[.string ⟨#[]⟩,.int .i64 0]) 2 i0.bytes Tryz.underlying75 HI0.out Nz.out HZ1.out rfl UO.out (Nat.succ_pos _) (.slice O i cap) i (Bt (kV ls (l.take i))) rfl (OW.out _ _) (wr.heap.size+1+1) (some ⟨wr.heap.size+1,0,none⟩) 1 1 [.string (bV x.name),.int .i64 (wQ x.w)] rfl (Uf.out _ #[.string (bV x.name),.int .i64 (wQ x.w)] rfl) (by simp[Value.oneCell']) UM.out UN.out (HBS.out _ _) ?_
         intro v1 w1 kJ AA yj;have O1:=Lib.hid kJ;have G1:=Lib.hid AA;clear kJ AA yj))
     obtain⟨O',Ls,rfl,_,_⟩:=jT O1.out;go_roundw
     case rel=>exact⟨i+1,O',Ls,by omega,rfl,by go_num,by rw[awm.out,GU,HSO.out,HKD.out,HKC.out];exact O1.out,(HBN.out _ _).grown G1.out (by simp at jB⊢;omega) (fun k hk=>(O0.out.lt k hk).1)⟩
     case measure=>simp[intOf]<;>omega
    ·go_wp2_with (first
      | (go_at_call 86;refine(HQU.out _).mono ?_;rintro e w' ⟨rfl,rfl⟩)
      | (go_at_call 87;refine(aAZ.out _).mono ?_;rintro e w' ⟨rfl,rfl⟩)
      | (at_builtin;refine jI _ rfl (.tmp 31) (.tmp 36) _ rfl (w.heap.size+1) 151 i0 (.agg #[.string ⟨#[]⟩,.int .i64 0]) 2 i0.bytes Tryz.underlying75 HI0.out Nz.out HZ1.out rfl UO.out (Nat.succ_pos _) (.slice O i cap) i (Bt (kV ls (l.take i))) rfl (OW.out _ _) (wr.heap.size+1+1) (some ⟨wr.heap.size+1,0,none⟩) 1 1 [.string (bV x.name),.int .i64 0] rfl (Uf.out _ #[.string (bV x.name),.int .i64 0] rfl) (by simp[Value.oneCell']) UM.out UN.out (HBS.out _ _) ?_
         intro v1 w1 kJ AA yj;have O1:=Lib.hid kJ;have G1:=Lib.hid AA;clear kJ AA yj))
     obtain⟨O',Ls,rfl,_,_⟩:=jT O1.out;go_roundw
     case rel=>exact⟨i+1,O',Ls,by omega,rfl,by go_num,by rw[awm.out,GU,HSO.out,HKD.out,HKC.out];exact O1.out,(HBN.out _ _).grown G1.out (by simp at jB⊢;omega) (fun k hk=>(O0.out.lt k hk).1)⟩
     case measure=>simp[intOf]<;>omega
   ·have HKD:=Lib.hid kd
    go_wp2_with (first
     | (go_at_call 86;refine(HQU.out _).mono ?_;rintro e w' ⟨rfl,rfl⟩)
     | (at_builtin;refine jI _ rfl (.tmp 31) (.tmp 36) _ rfl (w.heap.size+1) 151 i0 (.agg #[.string ⟨#[]⟩,.int .i64 0]) 2 i0.bytes Tryz.underlying75 HI0.out Nz.out HZ1.out rfl UO.out (Nat.succ_pos _) (.slice O i cap) i (Bt (kV ls (l.take i))) rfl (OW.out _ _) (wr.heap.size+1+1) (some ⟨wr.heap.size+1,0,none⟩) 1 1 [.string (bV x.name),.int .i64 0] rfl (Uf.out _ #[.string (bV x.name),.int .i64 0] rfl) (by simp[Value.oneCell']) UM.out UN.out (HBS.out _ _) ?_
        intro v1 w1 kJ AA yj;have O1:=Lib.hid kJ;have G1:=Lib.hid AA;clear kJ AA yj))
    obtain⟨O',Ls,rfl,_,_⟩:=jT O1.out;go_roundw
    case rel=>exact⟨i+1,O',Ls,by omega,rfl,by go_num,by rw[awm.out,GU,HSO.out,HKD.out];exact O1.out,(HBN.out _ _).grown G1.out (by simp at jB⊢;omega) (fun k hk=>(O0.out.lt k hk).1)⟩
    case measure=>simp[intOf]<;>omega
  ·obtain rfl:i=n:=by omega
   have hd:decide ((i:Int)<i)=false:=by simp
   go_wp2;go_ret;have hO:=O0.out;rw[ND.out]at hO;exact agZ (n:=i) (by rw[kV,bR];exact HN.out.symm) hO HBW.out
end Go.Proofs.YtkjojjopamaoiaaGreat
