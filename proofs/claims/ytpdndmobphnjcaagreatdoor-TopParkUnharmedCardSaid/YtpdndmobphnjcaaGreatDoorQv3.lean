/- Helpers for TopParkUnharmed:. Conditions: none. -/
import Derived.Test.YtpdndmobphnjcaaGreatDoorQv2
set_option linter.defProp false
set_option linter.unusedVariables false
set_option linter.unusedSimpArgs false
noncomputable section
open List renaming length→M,length→aa,replicate→aq,range→au
open Bool renaming true→U,true→ae,false→X,false→af
open Go.Value renaming int→ag
open Option renaming some→ah,none→aj
open Go.IntKind renaming i64→J,i64→ai,u8→aw,u32→ax
open True renaming intro→ak
open Decidable renaming decide→an
open ByteArray renaming mk→av
open Go.Region renaming ready→ay,wanted→az
open Go.Instr renaming findNow→aA
namespace Go.Proofs.YtpdndmobphnjcaaGreatDoor
set_option maxRecDepth 100000
set_option maxHeartbeats 4000000
open Go.Proofs.Tryz
open Go.Sx
structure Db where
  g:bn
  m:aD->aG->T (LV×List AB)
  c:Dn prog AT g m
instance {f:bn} {S:aD->T LV}:CoeOut (Valid prog AT f S) Bd:=⟨λv=>⟨f,S,v⟩⟩
instance:Coe (List Bd) Specs:=⟨gm⟩
instance:Coe Ax Hand:=⟨Ax.K⟩
def kN:Ax:=⟨ER,Qe⟩
def l0 (l:aN):LBx:=⟨EM prog AT (gm l) 20 2,I9<|gk l⟩
def la (id:aC) {g:bn}{N:aC}{t:aD->aG->T (Ex×List LV×List AB)}{fn:aXX}{bd:bB}(hfn:prog.funcs[g]? =ah fn) (ht:Gx prog AT (AN N) (.loop bd) t) (h:LBx) (hc:fn.body=ah (fn.body.getD .skip):=by kernel_rfl) (hid:(BC<|fn.body.getD .skip).filter (λb=>H3 b==id)=[bd]:=by kernel_rfl):LBx:=⟨DG g N id t h.L,DR hfn hc hid ht h.h⟩
def kI (l:aN) (h:LBx):Ax:=⟨inl prog AT (gm l) h.L 9,aFN (gk l) h.h 9⟩
def dm:List Db->Does
  | [],_=>aj
  |p::ps,g=>if g=p.g then ah p.m else dm ps g
def dk:∀(l:List Db) g m,dm l g=ah m->Dn prog AT g m
  | [],_,_,e=>Om
  | p::ps,g,m,e=>by
    simp only [dm] at e;split at e
    · rename_i hg;simp only [Aj] at e;subst e hg;exact p.c
    · exact dk ps g m e
def IT (l:aN) (h:LBx) (C:List Db):Ax:=⟨Vn prog AT (gm l) h.L (dm C) 9,aEz (gk l) h.h (dk C) 9⟩
abbrev VV (f:bn) (S:aD->T LV):=Valid prog AT f S
abbrev SA {σ:Type}(N:aC) (b:bB) (D:AR σ):=Gx prog AT (AN N) (.loop b) D.lp
abbrev uS (fn:aXX) (S:aD->T LV):=upS prog fn.params.toList S
abbrev lN (c:bB) (k:aC):bB:=((BC c)[k]?).getD .skip
abbrev bN (fn:aXX) (k:aC):bB:=lN (fn.body.getD .skip) k
def vo {f:bn}{fn:aXX}{S:aD->T LV}(hfn:prog.funcs[f]? =ah fn) (l:aN) (h:Ax) (hS:∀args lv,(S args).all (λx=>x=lv)->Sc (λx=>x=lv) (Bw prog AT (gm l) h.K Ao fn<|canL args)) (hc:fn.body=ah (fn.body.getD .skip):=by kernel_rfl) (e:BC (fn.body.getD .skip)=[]:=by kernel_rfl):Valid prog AT f (upS prog fn.params.toList S):=qy hfn hc (gk l) h.h (tE e) λa v q=>(hS a v q).out
def vl {f:bn}{fn:aXX}{S:aD->T LV}{t:aD->aG->T (Ex×List LV×List AB)}{bd:bB}(hfn:prog.funcs[f]? =ah fn) (l:aN) (h:Ax) (k:aC) (sn:Sound prog AT (.loop bd) t) (hS:∀args lv,(S args).all (λx=>x=lv)->Sc (λx=>x=lv) (Bw prog AT (gm l) h.K (λi=>if i=k then t else Ao i) fn<|canL args)) (hc:fn.body=ah (fn.body.getD .skip):=by kernel_rfl) (e:BC (fn.body.getD .skip)=[bd]:=by kernel_rfl) (hk:H3 bd=k:=by kernel_rfl):Valid prog AT f (upS prog fn.params.toList S):=qy hfn hc (gk l) h.h (L:=λi=>if i=k then t else Ao i) (λb hb=>by
  rw [e,Hz] at hb;subst hb
  show Sound _ _ _ (if H3 b=k then t else Ao (H3 b))
  rw [AD hk];exact sn) λa v q=>(hS a v q).out
def vm {f:bn}{fn:aXX}{S:aD->T LV}{L:Lv}(hfn:prog.funcs[f]? =ah fn) (l:aN) (h:Ax) (hL:∀b∈BC (fn.body.getD .skip),Sound prog AT (.loop b)<|L<|H3 b) (hS:∀args lv,(S args).all (λx=>x=lv)->Sc (λx=>x=lv) (Bw prog AT (gm l) h.K L fn<|canL args)) (hc:fn.body=ah (fn.body.getD .skip):=by kernel_rfl):Valid prog AT f (upS prog fn.params.toList S):=qy hfn hc (gk l) h.h hL λa v q=>(hS a v q).out
def Aq {t:T LV}(t':T LV) {K:LV->Prop}(h':t'.all K) (h:t=t':=by kernel_rfl):Sc K t:=⟨aGl h h'⟩
def Da {σ:Type}(I:σ->Prop) (mu:σ->aC) (Q:Ex->σ->σ->Prop) (t:σ->T (Rd σ)):Prop:=∀s,I s->DF (λs'=>I s'/\mu s'<mu s) (λx s'=>Q x s s') ((t s).rd s)
def Rq {σ:Type}(I:σ->Prop) (t:σ->T (Rd σ)):Prop:=∀s,I s->(t s).all (λ_=>True)
def Fi {σ:Type}(E I:σ->Prop) (Q:Ex->σ->σ->Prop) (x:σ->Ex) (r:σ->σ):Prop:=∀s,E s->∃s',I s'/\Q (x s) s' (r s)
def Rs {σ Y:Type}(E:σ->Prop) (x:σ->Ex) (r:σ->σ) (V:σ->Y) (K:Ex->σ->Y->Prop):Prop:=∀s,E s->K (x s) (r s) (V s)
variable {σ : Type} {D : AR σ} {Q : Ex -> σ -> σ -> Prop} {b : Code}
def Dp (o:D.Ok) (p:D.Pf Q) {Y:Type}{V:σ->Y}{K:Ex->σ->Y->Prop}(hv:∀s,D.I s->DF (λs'=>V s'=V s) (λx s'=>K x s'<|V s) (D.f s)):Rs D.E D.At D.run V K:=λs hE=>AR.yV o p V K hv s hE
def s1 (o:D.Ok) (p:D.Pf Q) (l:aN) (h:Ax) (e:BC b=[]:=by kernel_rfl) (hn:∀s,Y3 D.N D.lv D.us (DL prog AT (gm l) h.K (LF Ao) b (HO D.n D.lv<|D.A<|D.rd s)<|D.B<|D.rd s)=(D.t<|D.rd s).mp (rdV D.n D.A D.B):=by intro s;kernel_rfl):Gx prog AT (AN D.N) (.loop b) D.lp:=AR.snd o p (Fp (gk l) h.h b (λb hb=>by rw [e] at hb;cases hb)) hn
def s2 (o:D.Ok) (p:D.Pf Q) (l:aN) (h:Ax) (hn:∀s,Y3 D.N D.lv D.us (DL prog AT (gm l) h.K (EY prog AT (gm l) h.K 20 2) b (HO D.n D.lv<|D.A<|D.rd s)<|D.B<|D.rd s)=(D.t<|D.rd s).mp (rdV D.n D.A D.B):=by intro s;kernel_rfl):Gx prog AT (AN D.N) (.loop b) D.lp:=AR.snd o p (Fp (gk l) h.h b λb _=>MQ (gk l) h.h 20 2 b) hn
end Go.Proofs.YtpdndmobphnjcaaGreatDoor
namespace Go.Proofs.YtpdndmobphnjcaaGreatDoor
set_option maxRecDepth 100000
set_option maxHeartbeats 4000000
open Go.Proofs.Tryz
open Go.Sx
abbrev B4:Ty:=.pair A7<|.pair A7<|.pair A7 .bool
abbrev St:=Int×Int×Int×Bool
def bf:qT (List St):=⟨⟩
instance:Coe (List St) LV:=⟨.xl B4⟩
def BJ (l:bf) (n:Y):St:=l.getD n.toNat (0,0,0,X)
def sV (c:Ch) (s:St):aM:=J0 c.2.2.1 c.2.2.2.1 c.2.2.2.2.1 c.2.2.2.2.2.1 c.2.2.2.2.2.2.1&&(inB s.1 0 5&&(inB s.2.2.1 0 1000000&&(inB s.2.1 0 c.2.2.2.2.1&&((s.2.2.1 !=0 ||s.2.1==0)&&(!s.2.2.2 ||s.1==5)))))
def Mc {c:Ch}{s:St}:sV c s=U↔J0 c.2.2.1 c.2.2.2.1 c.2.2.2.2.1 c.2.2.2.2.2.1 c.2.2.2.2.2.2.1=U/\0<=s.1/\s.1<=5/\0<=s.2.2.1/\s.2.2.1<=1000000/\0<=s.2.1/\s.2.1<=c.2.2.2.2.1/\(s.2.2.1=0->s.2.1=0)/\(s.2.2.2=U->s.1=5):=by
 obtain ⟨p,a,l,w⟩:=s;unfold sV;cases w<;>simp [B8]<;>omega
def evV (mx k n m:Y):aM:=if k=4 then inB n 0 1 else if k=6 then inB n 0 2 else if k=7 then inB m 1 1000000&&inB n 0 mx else U
def IP (p:Y) (w:aM) (k n:Y):Y:=
 if k=1 then (if p=0 then 1 else -1)
 else if k=2 then (if p=5/\w=U then 5 else if p=1\/p=5 then 0 else -1)
 else if k=3 then (if p=1 then 2 else -1)
 else if k=4 then (if p=2 then (if n=1 then 3 else 5) else -1)
 else if k=5 then (if p=3 then 4 else -1)
 else if k=6 then (if p=4 then (if n=0 then 1 else 5) else -1)
 else if k=9 then (if p=0\/w=U then p else 1)
 else p
def tkF (l:Y):Y:=if 0<l-1 then l-1 else 0
def sL (l k m:Y):Y:=if k=7 then m else if k=8 then tkF l else if k=9 then 0 else l
def sA (a l k n:Y):Y:=if k=7 then n else if k=8 then (if tkF l=0 then 0 else a) else if k=9 then 0 else a
def sW (w:aM) (k n:Y):aM:=w ||(k==6&&n==1)
def sE (c:Ch) (s:St) (k n m:Y):Y:=
 if sV c s=U then (if inB k 1 9=U then (if evV c.2.2.2.2.1 k n m=U then (if IP s.1 s.2.2.2 k n<0 then 6 else 0) else 1) else 9) else 1
def sN (c:Ch) (s:St) (k n m:Y):St:=if sE c s k n m=0 then (IP s.1 s.2.2.2 k n,sA s.2.1 s.2.2.1 k n,sL s.2.2.1 k m,sW s.2.2.2 k n) else (0,0,0,X)
def Bk (c:Ch) (s:St):Y:=if sV c s=U then (if s.2.2.2=U then c.2.2.2.2.1 else if s.1≠4 then 0 else if s.2.2.1≠0 then s.2.1 else c.2.2.2.2.2.2.1) else 0
def EE (c:Ch) (s:St) (k n m:Y):St:=if sE c s k n m=0 then sN c s k n m else s
def pt (k p:Y):Y:=
 if k=1 then (if p=0 then 1 else -1)
 else if k=2 then (if p=1 then 0 else if p=5 then -3 else -1)
 else if k=3 then (if p=1 then 2 else -1)
 else if k=4 then (if p=2 then -3 else -1)
 else if k=5 then (if p=3 then 4 else -1)
 else if k=6 then (if p=4 then -3 else -1)
 else if k=7 then -2
 else if k=8 then -2
 else if p=0 then 0 else if p=5 then -3 else 1
def akE {k p:Y}(h1:1<=k) (h2:k<=9) (h3:0<=p) (h4:p<=5):Tt (k.toNat*6+(p.toNat*1+0))=pt k p:=by
 have key:∀e:Fin 10,∀s:Fin 6,1<=e.val->Tt (e.val*6+(s.val*1+0))=pt (e.val:Y) (s.val:Y):=Ad
 have:=key ⟨k.toNat,A0⟩ ⟨p.toNat,A0⟩ A8
 grind
def dcP (p:Y) (w:aM) (k n:Y):Y:=if k=4 then (if n=1 then 3 else 5) else if k=6 then (if n=0 then 1 else 5) else if k=2 then (if w=U then p else 0) else if k=9 then (if w=U then p else 1) else p
def dcW (w:aM) (k n:Y):aM:=if k=6 then n==1 else w
def nine {k:Y}(h1:1<=k) (h2:k<=9):k=1\/k=2\/k=3\/k=4\/k=5\/k=6\/k=7\/k=8\/k=9:=A0
def ap1 {p:Y}(h1:0<=p) (h2:p<=5):p=0\/p=1\/p=2\/p=3\/p=4\/p=5:=A0
def awS {mx k n m:Y}(h:evV mx k n m=U):(k=4->0<=n/\n<=1)/\(k=6->0<=n/\n<=2)/\(k=7->1<=m/\m<=1000000/\0<=n/\n<=mx):=by
 unfold evV at h;refine ⟨λe=>?_,λe=>?_,λe=>?_⟩
 ·subst e;simpa [B8] using h
 ·subst e;simpa [B8] using h
 ·subst e;simp [B8] at h;omega
def am6 {c:Ch}{s:St}{k n m:Y}(h:sE c s k n m=0):sV c s=U/\1<=k/\k<=9/\evV c.2.2.2.2.1 k n m=U/\0<=IP s.1 s.2.2.2 k n:=by
 unfold sE at h
 repeat' split at h
 all_goals first|(exfalso;omega) |skip
 rename_i h1 h2 h3 h4
 have h2:=B8.1 h2
 grind
def am5 {c:Ch}{s:St}{k n m:Y}(h:sE c s k n m=0):sV c (sN c s k n m)=true:=by
 obtain ⟨h1,h2,h3,h4,h5⟩:=am6 h
 have he:=awS h4
 obtain ⟨p,a,l,w⟩:=s
 have h1:=Mc.1 h1
 rw [Mc];unfold sN;rw [AD h];obtain ⟨g1,g2,g3,g4,g5,g6,g7,g8,g9⟩:=h1
 have gc:=Wu.1 g1
 simp only at*
 have hp:IP p w k n<=5:=by
  unfold IP
  repeat' split
  all_goals omega
 have ht:0<=tkF l/\tkF l<=l:=by unfold tkF;split<;>omega
 have hL:0<=sL l k m/\sL l k m<=1000000:=by
  unfold sL
  repeat' split
  all_goals omega
 have hA:0<=sA a l k n/\sA a l k n<=c.2.2.2.2.1:=by
  unfold sA
  repeat' split
  all_goals omega
 refine ⟨g1,h5,hp,hL.1,hL.2,hA.1,hA.2,λhl=>?_,λhw=>?_⟩
 ·unfold sL at hl
  unfold sA
  repeat' split
  all_goals repeat' split at hl
  all_goals omega
 ·unfold sW at hw
  simp only [CS,AY,Cl] at hw;rcases hw with hw|⟨e1,e2⟩
  ·have hs:=g9 hw
   subst hs;unfold IP at h5|-;simp only [hw] at h5|-;rcases nine h2 h3 with rfl|rfl|rfl|rfl|rfl|rfl|rfl|rfl|rfl<;>simp at h5|-
  ·subst e1 e2
   unfold IP at h5|-
   simp at h5|-
   split at h5
   ·rename_i h4;simp [h4]
   ·omega
def xx {c:Ch}{s:St}{k n m:Y}(h:sV c s=U):sV c (EE c s k n m)=true:=by
 unfold EE;split
 ·rename_i h1;exact am5 h1
 ·exact h
abbrev Ca:=Int×Int×Int×Int×Int
def aXV:qT (List Ca):=⟨⟩
def Be (l:aXV) (n:Y):Ca:=l.getD n.toNat (0,0,0,0,0)
abbrev BB:Ty:=.pair (.sl A7)<|.pair A7 A7
abbrev Mi:=List Int×Int×Int
def aXZ:qT (List Mi):=⟨⟩
instance:Coe (List Mi) LV:=⟨.xl BB⟩
def CH (l:aXZ) (n:Y):Mi:=l.getD n.toNat ([],0,0)
abbrev BS:Ty:=.pair A7<|.pair A7 .bool
abbrev Me:=Int×Int×Bool
def aX4:qT (List Me):=⟨⟩
instance:Coe (List Me) LV:=⟨.xl BS⟩
def Gk (l:aX4) (n:Y):Me:=l.getD n.toNat (0,0,X)
def GI (c:Ca):aM:=inB c.1 0 4&&(inB c.2.1 1 7&&(inB c.2.2.1 1 80&&(inB c.2.2.2.1 0 1000000000&&(inB c.2.2.2.2 0 20&&(c.1 !=3 ||an (c.2.2.2.2>=1))))))
def Wt {c:Ca}:GI c=U↔0<=c.1/\c.1<=4/\1<=c.2.1/\c.2.1<=7/\1<=c.2.2.1/\c.2.2.1<=80/\0<=c.2.2.2.1/\c.2.2.2.1<=1000000000/\0<=c.2.2.2.2/\c.2.2.2.2<=20/\(c.1=3->1<=c.2.2.2.2):=by
 simp [GI,inB];omega
def IQ (m:Mi):aM:=an (M m.1<=21)&&(inB m.2.1 0 1000000&&(inB m.2.2 0 2000000000&&m.1.all (λp=>inB p 0 80)))
def fX {m:Mi}:IQ m=U↔M m.1<=21/\0<=m.2.1/\m.2.1<=1000000/\0<=m.2.2/\m.2.2<=2000000000/\∀p∈m.1,0<=p/\p<=80:=by
 simp [IQ,B8,and_assoc]
def cnt (n:Y):Y:=n%2+n / 2%2+n / 4%2
def apu {n:Y}:0<=cnt n/\cnt n<=3:=by unfold cnt;omega
def eight {n:Y}(h1:0<=n) (h2:n<=7):n=0\/n=1\/n=2\/n=3\/n=4\/n=5\/n=6\/n=7:=A0
def land (a b:Y):Y:=Bn J a b
def KC (k ph p:Y):Y:=if k=2 then land (land ph p) (-land ph p) else land ph p
def aG0 {a b:Y}(ha:0<=a/\a<=7) (hb:0<=b/\b<=7):0<=land a b/\land a b<=7/\0<=land (land a b) (-land a b)/\land (land a b) (-land a b)<=7/\(land a b≠0->land (land a b) (-land a b)≠0):=by
 have key:∀x y:Fin 8,0<=land x.val y.val/\land x.val y.val<=7/\0<=land (land x.val y.val) (-land x.val y.val)/\land (land x.val y.val) (-land x.val y.val)<=7/\(land x.val y.val≠0->land (land x.val y.val) (-land x.val y.val)≠0):=Ad
 have:=key ⟨a.toNat,A0⟩ ⟨b.toNat,A0⟩
 simp only [Bs ha.1,Bs hb.1] at this;exact this
def dH (dl:Y) (pil:aB):Y:=if (M pil:Y)-dl>=0 then pil.getD ((M pil:Y)-dl).toNat 0 else 0
def H9 (c:Ca) (m:Mi) (al:Y):Y:=
 if c.1=1 then (if c.2.2.2.2=0 then al else min al (dH c.2.2.2.2 m.1))
 else if c.1=3 then (if (m.2.1.tdiv c.2.2.2.2).tmod 2=1 then 0 else al)
 else if c.1=4 then (if al=0 then 0 else c.2.2.1) else al
def Ey (c:Ca) (m:Mi) (p al:Y):Y:=if KC c.1 c.2.1 p=0\/m.2.2>=c.2.2.2.1 then 0 else min c.2.2.1 (H9 c m al)
def Hc (c:Ca) (m:Mi) (p al:Y):Y:=if Ey c m p al=0 then 0 else KC c.1 c.2.1 p
def dwP (pil:aB) (al:Y):aB:=(pil++[al]).drop<|M pil-20
def dwG (c:Ca) (m:Mi) (p al:Y):Y:=m.2.2+2300*Ey c m p al*cnt (Hc c m p al)
def dwB (c:Ca) (m:Mi) (p al:Y):aM:=GI c&&(IQ m&&(inB p 1 7&&(inB al 0 80&&m.2.1 !=1000000)))
def gr {c:Ca}{m:Mi}{p al:Y}:dwB c m p al=U↔GI c=U/\IQ m=U/\1<=p/\p<=7/\0<=al/\al<=80/\m.2.1≠1000000:=by
 simp [dwB,B8,and_assoc]
def aFG {k ph p:Y}(h1:1<=ph/\ph<=7) (h2:1<=p/\p<=7):0<=KC k ph p/\KC k ph p<=7:=by
 obtain ⟨a1,a2,a3,a4,_⟩:=aG0 (a:=ph) (b:=p) ⟨A0,A0⟩ ⟨A0,A0⟩;unfold KC;exact cH
def af6 {dl:Y}{pil:aB}(h:∀p∈pil,0<=p/\p<=80):0<=dH dl pil:=by
 unfold dH;split
 ·rw [DH]
  cases hg:pil[((M pil:Y)-dl).toNat]? with
  |none=>simp
  |some x=>simp;exact (h x<|Of hg).1
 ·omega
def aeR {c:Ca}{m:Mi}{al:Y}(hc:GI c=U) (hm:IQ m=U) (ha:0<=al):0<=H9 c m al:=by
 have hc:=Wt.1 hc
 have hm:=fX.1 hm
 have:=af6 (dl:=c.2.2.2.2) hm.2.2.2.2.2
 unfold H9
 repeat' split
 all_goals omega
def aGv {c:Ca}{m:Mi}{p al:Y}(hc:GI c=U) (hm:IQ m=U) (hp:1<=p/\p<=7) (ha:0<=al/\al<=80):
  0<=Ey c m p al/\Ey c m p al<=c.2.2.1/\0<=Hc c m p al/\Hc c m p al<=7:=by
 have hw:=aeR hc hm ha.1
 have hc:=Wt.1 hc
 have hs:=aFG (k:=c.1) (ph:=c.2.1) (p:=p) ⟨A0,A0⟩ hp
 have h1:0<=Ey c m p al/\Ey c m p al<=c.2.2.1:=by unfold Ey;split<;>omega
 refine ⟨h1.1,h1.2,?_⟩;unfold Hc;omega
def Fg (c:Ca) (m:Mi) (p al:Y):Y:=if dwB c m p al=U then Ey c m p al else 0
def Ei (c:Ca) (m:Mi) (p al:Y):Y:=if dwB c m p al=U then Hc c m p al else 0
def Jm (c:Ca) (m:Mi) (p al:Y):Mi:=if dwB c m p al=U then (dwP m.1 al,m.2.1+1,dwG c m p al) else ([],0,0)
def Jc (c:Ca) (m:Mi) (p al:Y):Y:=if dwB c m p al=U then 0 else 1
def meV (m:Me):aM:=inB m.1 0 1000000&&(an (m.2.1>=-1000000000000000)&&an (m.2.1<=1000000000000000))
def mcR (m:Me) (a p:Y):Y:=if m.2.2=U then m.2.1-2300*a*p else m.2.1+2300*a*p
def mcB (m:Me) (a p:Y):aM:=meV m&&(inB a 0 80&&inB p 0 3)
def GA (m:Me) (a p:Y):Y:=if mcB m a p=U then (if meV (m.1,mcR m a p,m.2.2)=U then 0 else 3) else 1
def Hq (m:Me) (a p:Y):Me:=if GA m a p=0 then (m.1,mcR m a p,m.2.2) else (0,0,X)
def Bh (t d:Y):Y:=if (inB t 0 1000000&&inB d (-200) 200)=U then t*(1000000+d) / 1000000 else 0
def HE (t d:Y):Y:=if (inB t 0 1000000&&inB d (-200) 200)=U then 0 else 1
def aW4 {l:aB}{f:Y->aM}:l.all f=D5 (M l) (λj=>f<|gi l j):=by
 rw [IZ,BO,DQ];refine ⟨λh j hj=>h _<|Kf A0 hj,λh x hx=>?_⟩
 obtain ⟨k,hk,rfl⟩:=Hx.1 hx
 have:=h k A0
 rwa [Im A8] at this
section
variable {lt : Int -> Int -> Bool}
def LA (lt:Y->Y->aM):aB->Y->List Int
 | [],x=>[x]
 |y::q,x=>if lt x y=U then y::LA lt q x else x::y::q
def qx {x:Y}:∀ {q:aB},(LA lt q x).Perm (x::q)
 | []=>List.Perm.refl _
 |y::q=>by
  unfold LA;split
  ·exact (List.Perm.cons y qx).trans<|List.Perm.swap x y q
  ·grind
def arN {q:aB}{x:Y}:M (LA lt q x)=M q+1:=by rw [qx.length_eq];rfl
def aFv:∀ {l acc:aB},(l.foldl (LA lt) acc).Perm (acc++l)
 | [],acc=>AJ
 |x::l,acc=>by
  rw [KK];refine aFv.trans ?_;refine (zA l qx).trans ?_
  grind
def sortB (lt:Y->Y->aM) (l:aB):aB:=(l.foldl (LA lt) []).reverse
def aeJ {l:aB}:(sortB lt l).Perm l:=by
 exact (z9 _).trans (by have:=aFv (lt:=lt) (l:=l) (acc:=[]);simpa using this)
def exB (l:aB) (j:aC):aB:=(l.set (j+1)<|l.getD j 0).set j<|l.getD (j+1) 0
def bub (lt:Y->Y->aM):aC->aB->List Int
 |0,l=>l
 |j+1,l=>if lt (l.getD (j+1) 0) (l.getD j 0)=U then bub lt j (exB l j) else l
def ax7 {p post:aB}{x y:Y}:exB (p++y::x::post) (M p)=p++x::y::post:=by
 unfold exB
 simp
def ud {post:aB}{x:Y}:∀ {q:aB},bub lt (M q) (q.reverse++x::post)=(LA lt q x).reverse++post
 | []=>by simp [bub,LA]
 | y::q=>by
  have e1:((y::q).reverse++x::post)=q.reverse++y::x::post:=AJ
  rw [e1,Bm,bub]
  have g1:(q.reverse++y::x::post).getD (M q) 0=y:=AJ
  have g2:(q.reverse++y::x::post).getD (M q+1) 0=x:=AJ
  rw [g1,g2];unfold LA;split
  ·have e2:exB (q.reverse++y::x::post) (M q)=q.reverse++x::y::post:=by
    have:=ax7 (p:=q.reverse) (x:=x) (y:=y) (post:=post)
    grind
   rw [e2,ud]
   simp
  ·simp
def arX:∀ {j:aC}{l:aB},j<M l->(bub lt j l).Perm l:=λ{j l} h=>by
 have e:l=(l.take j).reverse.reverse++l[j]::l.drop (j+1):=AJ
 have hj:M (l.take j).reverse=j:=A8
 have h2:=ud (lt:=lt) (q:=(l.take j).reverse) (x:=l[j]) (post:=l.drop<|j+1)
 rw [hj,<-e] at h2;rw [h2];refine (zA _<|(z9 _).trans qx).trans ?_;refine (List.perm_middle.symm.trans ?_);refine (zA _<|z9 _).trans ?_
 grind
def Mn (lt:Y->Y->aM) (l:aB) (i:aC):aB:=((l.drop i).foldl (LA lt) (l.take i).reverse).reverse
def aeP {l:aB}{i:aC}(h:i<M l):Mn lt (bub lt i l) (i+1)=Mn lt l i:=by
 have e:l=(l.take i).reverse.reverse++l[i]::l.drop (i+1):=AJ
 have hi:M (l.take i).reverse=i:=A8
 have h2:=ud (lt:=lt) (q:=(l.take i).reverse) (x:=l[i]) (post:=l.drop<|i+1)
 have hl:M ((LA lt (l.take i).reverse l[i]).reverse)=i+1:=by rw [List.length_reverse,arN,hi]
 unfold Mn
 grind
def apw {l:aB}:Mn lt l 1=sortB lt l:=by
 cases l with
 |nil=>rfl
 |cons x l=>simp [Mn,sortB,LA]
def apx {l:aB}{i:aC}(h:M l<=i):Mn lt l i=l:=by
 unfold Mn;rw [List.drop_of_length_le h,Dj h]
 simp
end
abbrev Ai:Ty:=.pair .bool<|.pair A7<|.pair A7 A7
abbrev Dm:=Bool×Int×Int×Int
def ba:qT (List Dm):=⟨⟩
instance:Coe (List Dm) LV:=⟨.xl Ai⟩
def E8 (l:ba) (n:Y):Dm:=l.getD n.toNat (X,0,0,0)
def slk (d:ba) (t i:Y):Y:=(E8 d i).2.2.1-t-(E8 d i).2.1
def cm (a b:Y):Y:=if a<b then -1 else if a>b then 1 else 0
def orI:aB->Int
 | []=>0
 |x::l=>if (x !=0)=U then x else orI l
def cmD (d:ba) (t a b:Y):Y:=orI [cm (E8 d a).2.2.2 (E8 d b).2.2.2,cm (slk d t a)<|slk d t b,cm a b]
def ltD (d:ba) (t a b:Y):aM:=an<|cmD d t a b<0
def Iv (d:ba) (t:Y):Prop:=(∀x∈d,(-2000000000<=x.2.1/\x.2.1<=2000000000)/\-2000000000<=x.2.2.1/\x.2.2.1<=2000000000)/\-2000000000<=t/\t<=2000000000
def avd {d:ba}{i:Y}(h0:0<=i) (h1:i<(M d:Y)):E8 d i∈d:=by
 unfold E8
 grind
def ay5 {d:ba}{t i:Y}(h:Iv d t) (h0:0<=i) (h1:i<(M d:Y)):(-2000000000<=(E8 d i).2.1/\(E8 d i).2.1<=2000000000)/\-2000000000<=(E8 d i).2.2.1/\(E8 d i).2.2.1<=2000000000:=h.1 _<|avd h0 h1
def G2 (n:aC):aB:=(au n).map λk:aC=>(k:Y)
def HT (d:ba) (t:Y):aB:=sortB (ltD d t)<|G2<|M d
def aGO {n:aC}:G2 (n+1)=G2 n++[(n:Y)]:=by simp [G2,Sk]
def Oz {n:aC}:M (G2 n)=n:=by simp [G2]
def aHM {n:aC}{x:Y}:x∈G2 n↔0<=x/\x<(n:Y):=by
 unfold G2;rw [FP]
 constructor
 ·rintro ⟨k,hk,rfl⟩
  rw [LQ] at hk;omega
 ·exact λh=>⟨x.toNat,A8,A0⟩
def aeO {n:aC}:(G2 n).Nodup:=z8 _ (λa b h=>A0) nH
def aFU {d:ba}{t:Y}:(HT d t).Perm (G2<|M d):=aeJ
def aHD {d:ba}{t:Y}:M (HT d t)=M d:=by rw [aFU.length_eq,Oz]
def aqr {d:ba}{t x:Y}:x∈HT d t↔0<=x/\x<(M d:Y):=aFU.mem_iff.trans aHM
def aeW {d:ba}{t:Y}:(HT d t).Nodup:=aFU.nodup_iff.2 aeO
def uC {mi ma st a k:Y}(hh:Dv mi ma st=U) (ha:0<=a) (h0:0<=k) (h1:k<Ec mi ma st):EA mi st k<=a↔k<=Hr mi ma st a:=by
 obtain ⟨g1,g2,g3,g4,g5⟩:=Ig.1 hh
 have hn:¬(Dv mi ma st=X\/a<0):=A8
 unfold Hr;rw [AE hn];unfold EA
 by_cases e:k=0
 ·subst e
  simp only [Bu];exact aOk
 ·rw [AE e]
  have hp:0<=(k-1)*st:=F7 A0 A0
  split
  ·omega
  ·have:=(Int.le_ediv_iff_mul_le (a:=k-1) (b:=a-mi) (c:=st) A0)
   omega
def aTz {mi ma st a:Y}(hh:Dv mi ma st=U):Hr mi ma st a<Ec mi ma st:=by
 have:=uB hh
 unfold Hr;split
 ·omega
 ·omega
def aeo {mi ma st a:Y}(hh:Dv mi ma st=U) (ha:0<=a):0<=Hr mi ma st a:=by
 have:=uB hh
 obtain ⟨g1,g2,g3,g4,g5⟩:=Ig.1 hh
 have hn:¬(Dv mi ma st=X\/a<0):=A8
 unfold Hr;rw [AE hn];exact aOk
def aeY {l:aB}:once l=U↔l.Nodup:=by
 rw [tC,List.nodup_iff_pairwise_ne,my]
 constructor
 ·intro h i j hi hj hij e
  exact h j hj (by rw [<-e,Hx];exact ⟨i,A8,AJ⟩)
 ·intro h j hj hm
  obtain ⟨i,hi,e⟩:=Hx.1 hm
  grind
def acy:∀ {r l:aB},r.Nodup->(∀x∈r,x∈l)->M r=M l->l.Nodup/\∀x∈l,x∈r
 | [],l,_,_,h=>by
  have:l=[]:=MH.1 h.symm
  subst this
  simp
 | x::r,l,hn,hs,h=>by
  obtain ⟨n1,n2⟩:=MK.1 hn
  have hx:=hs x AJ
  have hp:=List.perm_cons_erase hx
  obtain ⟨i1,i2⟩:=acy (l:=l.erase x) n2 (λy hy=>by
   have hy2:=hs y A8
   have hne:y≠x:=λe=>n1<|e▸hy
   exact (List.mem_erase_of_ne hne).2 hy2) A8
  refine ⟨hp.nodup_iff.2<|MK.2 ⟨λhm=>n1<|i2 x hm,i1⟩,λy hy=>?_⟩
  by_cases e:y=x
  ·simp [e]
  ·grind
def cy (n:aC):aB:=(au n).map λk:aC=>(k:Y)
def aHN {n:aC}{x:Y}:x∈cy n↔0<=x/\x<(n:Y):=by
 unfold cy;rw [FP]
 constructor
 ·rintro ⟨k,hk,rfl⟩
  have:=LQ.1 hk
  omega
 ·rintro ⟨h1,h2⟩
  exact ⟨x.toNat,LQ.2 A0,A0⟩
def ae2 {n:aC}:M (cy n)=n:=by simp [cy]
def aGr {l:aB}{n:aC}:H4 l n=U↔M l=n/\l.Nodup/\∀i∈l,0<=i/\i<(n:Y):=by
 unfold H4;simp only [AY,Ac,BO,rW,aeY]
 constructor
 ·grind
 ·grind
def aqC {l:aB}{n:aC}(h:H4 l n=U) {i:Y}(h0:0<=i) (h1:i<(n:Y)):i∈l:=by
 obtain ⟨g1,g2,g3⟩:=aGr.1 h;exact (acy g2 (l:=cy n) (λx hx=>aHN.2<|g3 x hx) (by rw [ae2];exact g1)).2 i<|aHN.2 ⟨h0,h1⟩
def IM (al am ms:aB):Y:=(ms.map λm=>mx (gi al m)<|gi am m).sum
def rowB (al am:aB) (r:Rw):aM:=r.2.all (λm=>gi am m==0) ||an (IM al am r.2<=r.1)
def PN (rows:aY) (al am:aB):aM:=rows.all<|rowB al am
def TN {al am ms:aB}{m:Y}:IM al am (m::ms)=mx (gi al m) (gi am m)+IM al am ms:=by simp [IM]
def aNN (gs:aF) (i k:Y):Y:=amA (AG gs i).2.2.2.1 (AG gs i).2.2.2.2.1 (AG gs i).2.2.2.2.2.1 k
def aNM (gs:aF) (i k:Y):Y:=amE (AG gs i).2.2.2.1 (AG gs i).2.2.2.2.1 (AG gs i).2.2.2.2.2.1 k
structure ym (gs:aF) (out:aB):Prop where
 len:M out=M gs
 bd:∀a∈out,0<=a/\a<=1000000
def ym.put {gs:aF}{out:aB}(h:ym gs out) {k:aC}{v:Y}(hv:0<=v/\v<=1000000):ym gs (out.set k v):=
 ⟨by rw [C4];exact h.len,λa ha=>by
  rcases Oa ha with h2|h2
  ·exact h.bd a h2
  ·rw [h2];exact hv⟩
section
variable {P : List Int -> Bool} {tp : Int -> Int}
def IL (P:aB->aM) (tp:Y->Y) (L:Y) (lv:aB) (i:Y):aB:=
 if gi lv i=L-1/\L<=tp i then (if P (lv.set i.toNat L)=U then lv.set i.toNat L else lv) else lv
def Jf (P:aB->aM) (tp:Y->Y) (L:Y) (lv l:aB):aB:=l.foldl (IL P tp L) lv
def Fo (P:aB->aM) (tp:Y->Y) (od:aB):aC->Y->aB->List Int
 |0,_,lv=>lv
 |f+1,L,lv=>Fo P tp od f (L+1)<|Jf P tp L lv od
def JC {l:aB}{i j v:Y}(h0:0<=i) (h1:i<(M l:Y)) (hj:0<=j):gi (l.set i.toNat v) j=if j=i then v else gi l j:=by
 unfold gi;rw [TQ]
 by_cases e:j=i
 ·subst e
  omega
 ·omega
def SF (n:aC) (l:aB):Prop:=∀i∈l,0<=i/\i<(n:Y)
def aH0 {L i:Y}{lv:aB}:M (IL P tp L lv i)=M lv:=by
 unfold IL;split
 ·split
  ·grind
  ·rfl
 ·rfl
def aio {L i j:Y}{lv:aB}(h:0<=i/\i<(M lv:Y)) (hj:0<=j):gi lv j<=gi (IL P tp L lv i) j:=by
 exact aP3
def aip {L i j:Y}{lv:aB}(h:0<=i/\i<(M lv:Y)) (hj:0<=j):gi (IL P tp L lv i) j<=gi lv j\/(gi (IL P tp L lv i) j=L/\L<=tp j):=by
 exact aP3
def anX {L i:Y}{lv:aB}(h:P lv=U):P (IL P tp L lv i)=true:=by
 unfold IL;split
 ·split
  ·grind
  ·exact h
 ·exact h
def fC {L i:Y}{lv l:aB}:Jf P tp L lv (i::l)=Jf P tp L (IL P tp L lv i) l:=rfl
def fy {L:Y}:∀ {l lv:aB},M (Jf P tp L lv l)=M lv
 | [],_=>rfl
 |i::l,lv=>by rw [fC,fy (l:=l),aH0]
def aUY {L j:Y}(hj:0<=j):∀ {l lv:aB},SF (M lv) l->gi lv j<=gi (Jf P tp L lv l) j
 | [],_,_=>Cb _
 |i::l,lv,h=>by
  rw [fC]
  have h1:=aio (P:=P) (tp:=tp) (L:=L) (h i AJ) hj
  have h2:=aUY (L:=L) hj (l:=l) (lv:=IL P tp L lv i) aQA
  omega
def xz {L j:Y}(hj:0<=j):∀ {l lv:aB},SF (M lv) l->gi (Jf P tp L lv l) j<=gi lv j\/(gi (Jf P tp L lv l) j<=L/\gi (Jf P tp L lv l) j<=tp j)
 | [],_,_=> .inl (Cb _)
 |i::l,lv,h=>by
  rw [fC]
  have h1:=aip (P:=P) (tp:=tp) (L:=L) (h i AJ) hj
  have h2:=xz (L:=L) hj (l:=l) (lv:=IL P tp L lv i) aQA
  omega
def abo {L:Y}:∀ {l lv:aB},P lv=U->P (Jf P tp L lv l)=U
 | [],_,h=>h
 |i::l,lv,h=>by rw [fC];exact abo (l:=l)<|anX h
def aJl {od:aB}:∀ {f:aC}{L:Y}{lv:aB},M (Fo P tp od f L lv)=M lv
 |0,_,_=>rfl
 |f+1,L,lv=>by rw [Fo,aJl,fy]
def aUZ {od:aB}{j:Y}(hj:0<=j):∀ {f:aC}{L:Y}{lv:aB},SF (M lv) od->gi lv j<=gi (Fo P tp od f L lv) j
 |0,_,_,_=>Cb _
 |f+1,L,lv,h=>by
  rw [Fo]
  have h1:=aUY (P:=P) (tp:=tp) (L:=L) hj h
  have h2:=aUZ (f:=f) (L:=L+1) (lv:=Jf P tp L lv od) hj (by rw [fy];exact h)
  omega
def aUa {od:aB}{j:Y}(hj:0<=j):∀ {f:aC}{L:Y}{lv:aB},SF (M lv) od->gi (Fo P tp od f L lv) j<=gi lv j\/(gi (Fo P tp od f L lv) j<=L+f-1/\gi (Fo P tp od f L lv) j<=tp j)
 |0,_,_,_=> .inl (Cb _)
 |f+1,L,lv,h=>by
  rw [Fo]
  have h1:=xz (P:=P) (tp:=tp) (L:=L) hj h
  have h2:=aUa (f:=f) (L:=L+1) (lv:=Jf P tp L lv od) hj (by rw [fy];exact h)
  omega
def abp {od:aB}:∀ {f:aC}{L:Y}{lv:aB},P lv=U->P (Fo P tp od f L lv)=U
 |0,_,_,h=>h
 |f+1,L,lv,h=>by rw [Fo];exact abp<|abo h
def aI2 {od:aB}:∀ {f:aC}{L:Y}{lv:aB},Fo P tp od (f+1) L lv=Jf P tp (L+f) (Fo P tp od f L lv) od
 |0,L,lv=>by simp [Fo]
 |f+1,L,lv=>by
  rw [Fo,aI2 (f:=f) (L:=L+1),Fo,show L+1+(f:Y)=L+((f+1:aC):Y) by omega]
def aFP {L:Y}:∀ {l lv:aB},(∀i∈l,gi lv i≠L-1\/tp i<L)->Jf P tp L lv l=lv
 | [],_,_=>rfl
 | i::l,lv,h=>by
  have e:IL P tp L lv i=lv:=by
   unfold IL
   grind
  rw [fC,e,aFP λj hj=>h j A8]
def aGs {od:aB}:∀ {f:aC}{L:Y}{lv:aB},(∀i∈od,gi lv i<L-1)->Fo P tp od f L lv=lv
 |0,_,_,_=>rfl
 |f+1,L,lv,h=>by
  rw [Fo,aFP λi hi=> .inl A8,aGs λi hi=>A8]
end
structure HY (rows:aY) (gs:aF) (al mo od:aB):Prop where
 mem:∀r∈rows,r.2.Nodup/\∀m∈r.2,0<=m/\m<(M gs:Y)
 has:∀i:Y,0<=i->i<(M gs:Y)->Dv (AG gs i).2.2.2.1 (AG gs i).2.2.2.2.1 (AG gs i).2.2.2.2.2.1=U
 gl:M gs<=16
 all:M al=M gs
 mol:M mo=M gs
 al:∀a∈al,0<=a/\a<=80
 mo:∀a∈mo,0<=a/\a<=80
 nd:od.Nodup
 ord:SF (M gs) od
 cov:∀i:Y,0<=i->i<(M gs:Y)->i∈od
def aBh {cs:aJ}{os:aE}{ks:aP}{gs:aF}{bs:aQ}{al mo od:aB}(h:G1 cs os ks gs bs al mo od=U):HY (D3 cs gs<|M cs) gs al mo od:=by
 obtain ⟨hv,h1,h2,h3,h4,h5⟩:=Lc.1 h
 have hl:=(Cz.1 hv).1
 obtain ⟨o1,o2,o3⟩:=aGr.1 h5;refine ⟨λr hr=>⟨(row_mem hr).1,(row_mem hr).2.1⟩,λi h0 h1=>?_,A0,h1,h2,λa ha=>Qm.1<|BO.1 h3 a ha,λa ha=>Qm.1<|BO.1 h4 a ha,o2,o3,λi h0 h1=>aqC h5 h0 h1⟩
 have:=NU hv h0 h1
 exact aOm
def PP (rows:aY) (gs:aF) (al lv:aB):aM:=PN rows al<|FZ gs lv
def tpO (gs:aF) (mo:aB) (i:Y):Y:=Ff gs i<|gi mo i
def aI6 {gs:aF}{lv:aB}:M (FZ gs lv)=M gs:=by simp [FZ]
def Te {gs:aF}{lv:aB}{i:Y}(h0:0<=i) (h1:i<(M gs:Y)):gi (FZ gs lv) i=D9 gs i (gi lv i):=by
 rw [Im (by rw [aI6];omega)]
 simp only [FZ,zd,nP];rfl
def ab8 {gs:aF}{i:Y}:D9 gs i 0=0:=by simp [D9,EA]
def aI9 {gs:aF}{i a b:Y}(hh:Dv (AG gs i).2.2.2.1 (AG gs i).2.2.2.2.1 (AG gs i).2.2.2.2.2.1=U) (h0:0<=a) (h1:a<=b):D9 gs i a<=D9 gs i b:=by
 obtain ⟨g1,g2,g3,g4,g5⟩:=Ig.1 hh;exact aI7 ⟨g1,g4⟩ h0 h1
def aW2 {gs:aF}{i a b:Y}(hh:Dv (AG gs i).2.2.2.1 (AG gs i).2.2.2.2.1 (AG gs i).2.2.2.2.2.1=U) (h0:0<=a) (h1:a<b):D9 gs i a<D9 gs i b:=by
 obtain ⟨g1,g2,g3,g4,g5⟩:=Ig.1 hh
 have h2:=aI9 hh (show 0<=a+1 by omega) (show a+1<=b by omega)
 have h3:D9 gs i a<D9 gs i (a+1):=by
  unfold D9 EA;split
  ·grind
  ·have:(a+1-1)*(AG gs i).2.2.2.2.2.1=(a-1)*(AG gs i).2.2.2.2.2.1+(AG gs i).2.2.2.2.2.1:=by
    grind
   omega
 omega
def aW1 {gs:aF}{i a:Y}(hh:Dv (AG gs i).2.2.2.1 (AG gs i).2.2.2.2.1 (AG gs i).2.2.2.2.2.1=U) (h0:0<=a):0<=D9 gs i a:=by
 have:=aI9 hh (Cb 0) h0
 exact this
def auy {a b c:Y}(h:b<=c):mx a b<=mx a c:=by
 exact NG
def aHZ {al am bm:aB}:∀ {ms:aB},(∀m∈ms,gi am m<=gi bm m)->IM al am ms<=IM al bm ms
 | [],_=>Cb _
 |m::ms,h=>by
  have h1:=aHZ (al:=al) (ms:=ms) λx hx=>h x A8
  have h2:=auy (a:=gi al m)<|h m AJ
  rw [TN,TN];omega
def qz {al am bm:aB}:∀ {ms:aB},(∀m∈ms,gi am m=gi bm m)->IM al am ms=IM al bm ms
 | [],_=>rfl
 |m::ms,h=>by rw [TN,TN,qz (ms:=ms) λx hx=>h x A8,h m AJ]
def aJc {al am bm:aB}{i:Y}:∀ {ms:aB},ms.Nodup->i∈ms->(∀m∈ms,m≠i->gi am m=gi bm m)->IM al bm ms=IM al am ms+(mx (gi al i) (gi bm i)-mx (gi al i) (gi am i))
 | [],_,h,_=>As
 | m::ms,hn,hi,h=>by
  obtain ⟨n1,n2⟩:=MK.1 hn;rw [TN,TN]
  by_cases e:m=i
  ·subst e
   rw [qz (am:=am) (bm:=bm) λx hx=>h x A8 λe=>n1<|e▸hx]
   omega
  ·have hi2:i∈ms:=by
    rcases B6.1 hi with h|h
    ·grind
    ·exact h
   rw [aJc n2 hi2 λx hx=>h x A8,h m AJ e]
   omega
def aeM {al am bm:aB}{r:Rw}(h:∀m∈r.2,gi am m=gi bm m):rowB al am r=rowB al bm r:=by
 unfold rowB;rw [qz h]
 congr 1
 rw [IZ,BO,BO]
 constructor
 ·grind
 ·grind
structure Inv (rows:aY) (gs:aF) (al sm lv:aB):Prop where
 sl:M sm=M rows
 sm:∀k:aC,k<M rows->sm.getD k 0=IM al (FZ gs lv) (Cn rows k).2
 ll:M lv=M gs
 nn:∀j,0<=j->0<=gi lv j
 pp:PP rows gs al lv=U
def gB {rows:aY}{k:Y}(h0:0<=k) (h1:k<(M rows:Y)):Cn rows k∈rows:=by
 rw [sD A0];exact Gl _
def uQ {rows:aY}{gs:aF}{al mo od lv:aB}(H:HY rows gs al mo od) {i L:Y}(hl:M lv=M gs) (h0:0<=i) (h1:i<(M gs:Y)) {r:Rw}(hr:r∈rows):
  (∀m∈r.2,m≠i->gi (FZ gs lv) m=gi (FZ gs<|lv.set i.toNat L) m)/\gi (FZ gs<|lv.set i.toNat L) i=D9 gs i L:=by
 refine ⟨λm hm e=>?_,?_⟩
 ·obtain ⟨m0,m1⟩:=(H.mem r hr).2 m hm
  rw [Te m0 m1,Te m0 m1,JC h0 A0 m0,AE e]
 ·rw [Te h0 h1,JC h0 A0 h0,AD rfl]
def aRZ {rows:aY}{gs:aF}{al mo od lv:aB}(H:HY rows gs al mo od) {i L:Y}(hl:M lv=M gs) (h0:0<=i) (h1:i<(M gs:Y)) {r:Rw}(hr:r∈rows) (hc:gi lv i=L-1):
  IM al (FZ gs<|lv.set i.toNat L) r.2=IM al (FZ gs lv) r.2+(if i∈r.2 then G9 gs al i L else 0):=by
 obtain ⟨p1,p2⟩:=uQ (L:=L) H hl h0 h1 hr;split
 ·rename_i hi
  rw [aJc (am:=FZ gs lv) (H.mem r hr).1 hi p1,p2,Te h0 h1,hc];rfl
 ·rename_i hi
  rw [<-qz (am:=FZ gs lv) λm hm=>p1 m hm λe=>hi<|e▸hm]
  omega
def avh {rows:aY}{gs:aF}{al mo od sm lv:aB}(H:HY rows gs al mo od) (hI:Inv rows gs al sm lv) {i L:Y}(h0:0<=i) (h1:i<(M gs:Y)) (hL:1<=L) (hc:gi lv i=L-1):
  ((OL rows).getD i.toNat []).all (Kz rows sm<|G9 gs al i L)=PP rows gs al (lv.set i.toNat L):=by
 have hg:=H.gl
 rw [yH (λr hr=>⟨(H.mem r hr).1,λm hm=>((H.mem r hr).2 m hm).1⟩) A0,IZ,BO]
 unfold PP PN;rw [BO]
 have hpp:=hI.pp
 unfold PP PN at hpp;rw [BO] at hpp
 have hpos:1<=D9 gs i L:=by
  have:=aW2 (H.has i h0 h1) (Cb 0) (show 0<L by omega)
  rw [ab8] at this;omega
 have hfit:∀k:Y,0<=k->k<(M rows:Y)->i∈(Cn rows k).2->(Kz rows sm (G9 gs al i L) k=rowB al (FZ gs<|lv.set i.toNat L) (Cn rows k)):=λk k0 k1 hk=>by
  have hr:=gB k0 k1
  have hs:=hI.sm k.toNat A0
  have hp:=aRZ (L:=L) H hI.ll h0 h1 hr hc
  have hz:(Cn rows k).2.all (λm=>gi (FZ gs<|lv.set i.toNat L) m==0)=false:=by
   rw [IX];intro hz
   have:=BO.1 hz i hk
   rw [(uQ (L:=L) H hI.ll h0 h1 hr).2,Cl] at this;omega
  unfold Kz rowB
  grind
 constructor
 ·intro h r hr
  obtain ⟨k,hk,rfl⟩:=Hx.1 hr
  have ek:Cn rows (k:Y)=rows[k]:=sD aAq
  by_cases hi:i∈rows[k].2
  ·have:=h (k:Y)<|TX.2 ⟨A0,A0,by
    rw [QJ,ek,Bs h0]
    simpa using hi⟩
   rw [hfit k A0 A0 A8,ek] at this;exact this
  ·rw [<-aeM (am:=FZ gs lv) λm hm=>(uQ (L:=L) H hI.ll h0 h1 hr).1 m hm λe=>hi<|e▸hm]
   exact hpp _ hr
 ·intro h x hx
  obtain ⟨x0,x1,x2⟩:=TX.1 hx;rw [hfit x x0 A0 A8];exact h _<|gB x0 A0
def aty {rows:aY}{gs:aF}{al mo od sm lv:aB}{b:aM}(H:HY rows gs al mo od) (hI:Inv rows gs al sm lv) {i L:Y}(h0:0<=i) (h1:i<(M gs:Y)) (hL:1<=L):
  (G6 (OL rows) rows gs al mo L (sm,lv,b) i).2.1=IL (PP rows gs al) (tpO gs mo) L lv i/\Inv rows gs al (G6 (OL rows) rows gs al mo L (sm,lv,b) i).1 (G6 (OL rows) rows gs al mo L (sm,lv,b) i).2.1/\((G6 (OL rows) rows gs al mo L (sm,lv,b) i).2.2=X->b=X/\(G6 (OL rows) rows gs al mo L (sm,lv,b) i).2.1=lv):=by
 unfold G6 IL
 by_cases hc:gi lv i=L-1/\L<=tpO gs mo i
 ·have hf:=avh H hI h0 h1 hL hc.1
  rw [AD (show lv.getD i.toNat 0=L-1/\L<=Ff gs i (gi mo i) from hc),AD hc,hf]
  by_cases hp:PP rows gs al (lv.set i.toNat L)=U
  ·rw [AD hp,AD hp]
   have hg:=H.gl
   refine ⟨rfl,⟨by rw [qf];exact hI.sl,λk hk=>?_,by rw [C4];exact hI.ll,λj hj=>?_,hp⟩,λh=>As⟩
   ·have hr:Cn rows (k:Y)∈rows:=gB A0 A0
    rw [yH (λr hr=>⟨(H.mem r hr).1,λm hm=>((H.mem r hr).2 m hm).1⟩) A0,tS rH (λr hr=>(TX.1 hr).1) (by rw [hI.sl];exact hk),hI.sm k hk,aRZ (L:=L) H hI.ll h0 h1 hr hc.1]
    have:(k:Y)∈ofF 0 rows (i.toNat:Y)↔i∈(Cn rows (k:Y)).2:=by
     rw [TX,QJ,Bs h0]
     constructor
     ·grind
     ·grind
    by_cases hm:i∈(Cn rows (k:Y)).2
    ·grind
    ·grind
   ·simp only
    rw [JC h0 (by rw [hI.ll];exact h1) hj]
    split
    ·omega
    ·exact hI.nn j hj
  ·rw [AE hp,AE hp]
   grind
 ·rw [AE (show ¬(lv.getD i.toNat 0=L-1/\L<=Ff gs i (gi mo i)) from hc),AE hc]
  grind
def aJS {rows:aY}{gs:aF}{al mo od:aB}(H:HY rows gs al mo od) {L:Y}(hL:1<=L):∀ {l sm lv:aB}{b:aM},SF (M gs) l->Inv rows gs al sm lv->
  (swp (OL rows) rows gs al mo L (sm,lv,b) l).2.1=Jf (PP rows gs al) (tpO gs mo) L lv l/\Inv rows gs al (swp (OL rows) rows gs al mo L (sm,lv,b) l).1 (swp (OL rows) rows gs al mo L (sm,lv,b) l).2.1/\((swp (OL rows) rows gs al mo L (sm,lv,b) l).2.2=X->b=X/\(swp (OL rows) rows gs al mo L (sm,lv,b) l).2.1=lv)
 | [],sm,lv,b,_,hI=>⟨rfl,hI,λh=>⟨h,rfl⟩⟩
 |i::l,sm,lv,b,hr,hI=>by
  obtain ⟨i0,i1⟩:=hr i AJ;obtain ⟨r1,r2,r3⟩:=aty (b:=b) H hI i0 i1 hL;obtain ⟨s1,s2,s3⟩:=aJS H hL (l:=l) (b:=(G6 (OL rows) rows gs al mo L (sm,lv,b) i).2.2) (λx hx=>hr x A8) r2
  refine ⟨s1.trans (by rw [r1];rfl),s2,λh=>?_⟩
  obtain ⟨t1,t2⟩:=s3 h;obtain ⟨t3,t4⟩:=r3 t1;exact ⟨t3,t2.trans t4⟩
def aJe {rows:aY}{gs:aF}{al mo od:aB}(H:HY rows gs al mo od):∀ {f:aC}{L:Y}{sm lv:aB},1<=L->Inv rows gs al sm lv->(∀i∈od,gi lv i<=L-1)->shl (OL rows) rows gs al mo od f L sm lv=Fo (PP rows gs al) (tpO gs mo) od f L lv
 |0,_,_,_,_,_,_=>rfl
 | f+1,L,sm,lv,hL,hI,hb=>by
  obtain ⟨s1,s2,s3⟩:=aJS (b:=X) H hL H.ord hI;rw [shl,Fo];split
  ·rw [aJe H A0 s2 (λi hi=>by
    rw [s1]
    have h1:=xz (P:=PP rows gs al) (tp:=tpO gs mo) (L:=L) (H.ord i hi).1 (l:=od) (lv:=lv) (by rw [hI.ll];exact H.ord)
    have h2:=hb i hi
    omega),s1]
  ·rename_i hc
   have hc:(swp (OL rows) rows gs al mo L (sm,lv,X) od).2.2=false:=A8
   have e:=(s3 hc).2
   rw [<-s1,e,aGs λi hi=>A8]
def Jx {n:aC}{j:Y}:gi (aq n 0) j=0:=by
 unfold gi
 grind
def aXz {rows:aY}{gs:aF}{al mo od:aB}(H:HY rows gs al mo od):Inv rows gs al (SM al rows) (aq (M gs) 0):=by
 have hz:∀r∈rows,∀m∈r.2,gi (FZ gs<|aq (M gs) 0) m=0:=λr hr m hm=>by
  obtain ⟨m0,m1⟩:=(H.mem r hr).2 m hm;rw [Te m0 m1,Jx,ab8]
 refine ⟨sK,λk hk=>?_,CV,λj _=>by rw [Jx];omega,?_⟩
 ·rw [aW5 hk]
  have hr:Cn rows (k:Y)∈rows:=gB A0 A0
  unfold smA IM
  congr 1
  refine Jo λm hm=>?_
  obtain ⟨m0,m1⟩:=(H.mem _ hr).2 m hm;rw [hz _ hr m hm]
  have:=H.al _<|Kf m0 (by rw [H.all];exact m1)
  unfold mx;omega
 ·unfold PP PN
  rw [BO];intro r hr;unfold rowB
  grind
def lvF (rows:aY) (gs:aF) (al mo od:aB):aB:=Fo (PP rows gs al) (tpO gs mo) od 80 1<|aq (M gs) 0
def vQ {rows:aY}{gs:aF}{al mo od:aB}(H:HY rows gs al mo od) {i:Y}(h0:0<=i) (h1:i<(M gs:Y)):0<=tpO gs mo i/\tpO gs mo i<=80/\tpO gs mo i<Ec (AG gs i).2.2.2.1 (AG gs i).2.2.2.2.1 (AG gs i).2.2.2.2.2.1:=
 ⟨aeo (H.has i h0 h1) (H.mo _<|Kf h0 (by rw [H.mol];exact h1)).1,xm,aTz<|H.has i h0 h1⟩
def azF {rows:aY}{gs:aF}{al mo od:aB}(H:HY rows gs al mo od):shV rows gs al mo od=lvF rows gs al mo od:=by
 unfold shV lvF;rw [H.all,aJe H A0 (aXz H) (λi _=>by rw [Jx];omega),aI2,aFP λi hi=> .inr ?_]
 have:=vQ H (H.ord i hi).1 (H.ord i hi).2
 omega
section
variable {rows : List Rw} {gs : List Ch} {al mo od : List Int}
def auW:M (lvF rows gs al mo od)=M gs:=by
 unfold lvF;rw [aJl,CV]
def aKB (H:HY rows gs al mo od):SF (M<|aq (M gs) (0:Y)) od:=by rw [CV];exact H.ord
def ahy (H:HY rows gs al mo od) {j:Y}(hj:0<=j):0<=gi (lvF rows gs al mo od) j:=by
 have:=aUZ (P:=PP rows gs al) (tp:=tpO gs mo) (f:=80) (L:=1) hj<|aKB H
 rw [Jx] at this;exact this
def aU7 (H:HY rows gs al mo od) {j:Y}(h0:0<=j) (h1:j<(M gs:Y)):gi (lvF rows gs al mo od) j<=tpO gs mo j:=by
 have h2:=aUa (P:=PP rows gs al) (tp:=tpO gs mo) (f:=80) (L:=1) h0<|aKB H
 rw [Jx] at h2
 have h3:=vQ H h0 h1
 unfold lvF;omega
def ahx (H:HY rows gs al mo od):PP rows gs al (lvF rows gs al mo od)=true:=abp (aXz H).pp
def aw1 {i k:Y}(hh:Dv (AG gs i).2.2.2.1 (AG gs i).2.2.2.2.1 (AG gs i).2.2.2.2.2.1=U) (h0:0<=k) (h1:k<Ec (AG gs i).2.2.2.1 (AG gs i).2.2.2.2.1 (AG gs i).2.2.2.2.2.1):Ff gs i (D9 gs i k)=k:=by
 have h2:=aW1 hh h0
 have h3:=(uC hh h2 h0 h1).1<|Cb _
 have h4:=aTz (a:=D9 gs i k) hh
 have h5:=(uC hh h2 (k:=Hr (AG gs i).2.2.2.1 (AG gs i).2.2.2.2.1 (AG gs i).2.2.2.2.2.1<|D9 gs i k) A0 h4).2<|Cb _
 by_cases e:k<Hr (AG gs i).2.2.2.1 (AG gs i).2.2.2.2.1 (AG gs i).2.2.2.2.2.1 (D9 gs i k)
 ·have:=aW2 hh h0 e
  have h5:D9 gs i (Hr (AG gs i).2.2.2.1 (AG gs i).2.2.2.2.1 (AG gs i).2.2.2.2.2.1<|D9 gs i k)<=D9 gs i k:=h5
  omega
 ·unfold Ff
  omega
end
def axG {mi ma st k:Y}(hh:Dv mi ma st=U) (h0:0<=k) (h1:k<Ec mi ma st):EA mi st k<=ma:=by
 obtain ⟨g1,g2,g3,g4,g5⟩:=Ig.1 hh;unfold EA;split
 ·omega
 ·unfold Ec at h1
  have h2:(k-1)<=(ma-mi) / st:=A0
  have:=(Int.le_ediv_iff_mul_le (a:=k-1) (b:=ma-mi) (c:=st) A0).1 h2
  omega
def ak8 {mi ma st k:Y}(h0:0<=k) (h1:k<Ec mi ma st):amA mi ma st k=EA mi st k/\amE mi ma st k=0:=by
 unfold amA amE
 grind
section
variable {rows : List Rw} {gs : List Ch} {al mo od lv : List Int}
def lvR (gs:aF) (lv:aB):Prop:=M lv=M gs/\∀j,0<=j->j<(M gs:Y)->0<=gi lv j/\gi lv j<Ec (AG gs j).2.2.2.1 (AG gs j).2.2.2.2.1 (AG gs j).2.2.2.2.2.1
def aCh (H:HY rows gs al mo od):lvR gs (lvF rows gs al mo od):=⟨auW,λj h0 h1=>⟨ahy H h0,by
 have:=aU7 H h0 h1
 have:=vQ H h0 h1
 omega⟩⟩
def axH (H:HY rows gs al mo od) {j k:Y}(h0:0<=j) (h1:j<(M gs:Y)) (k0:0<=k) (k1:k<Ec (AG gs j).2.2.2.1 (AG gs j).2.2.2.2.1 (AG gs j).2.2.2.2.2.1):(0<=D9 gs j k/\D9 gs j k<=80)/\aNM gs j k=0/\aNN gs j k=D9 gs j k/\Ff gs j (D9 gs j k)=k:=by
 have hh:=H.has j h0 h1
 obtain ⟨g1,g2,g3,g4,g5⟩:=Ig.1 hh
 have h2:=axG hh k0 k1
 obtain ⟨e1,e2⟩:=ak8 k0 k1;refine ⟨⟨aW1 hh k0,?_⟩,e2,e1,aw1 hh k0 k1⟩;unfold D9;omega
def ak6 (H:HY rows gs al mo od) (R:lvR gs lv) {j:Y}(h0:0<=j) (h1:j<(M gs:Y)):letI a:=FZ gs lv;Ff gs j (gi a j)=gi lv j/\aNM gs j (gi lv j)=0/\aNN gs j (gi lv j)=gi a j/\0<=gi a j/\gi a j<=80:=by
 obtain ⟨r0,r1⟩:=R.2 j h0 h1;obtain ⟨a1,a2,a3,a4⟩:=axH H h0 h1 r0 r1;rw [Te h0 h1]
 grind
def akW (H:HY rows gs al mo od) {j k:Y}(h0:0<=j) (h1:j<(M gs:Y)) (k0:0<=k) (k1:k<Ec (AG gs j).2.2.2.1 (AG gs j).2.2.2.2.1 (AG gs j).2.2.2.2.2.1):D9 gs j k<=gi mo j↔k<=tpO gs mo j:=
 uC (H.has j h0 h1) (H.mo _<|Kf h0 (by rw [H.mol];exact h1)).1 k0 k1
def ad1 {a b:aB}(hl:M a=M b) (h:∀j:Y,0<=j->j<(M b:Y)->gi a j=gi b j):a=b:=bL hl λk h1 h2=>by
 have:=h (k:Y) A0 A0
 rw [Im A8,Im A8] at this
 grind
def g4 (gs:aF) (mo b am:aB) (j:Y):Prop:=(0<=gi b j/\gi b j<Ec (AG gs j).2.2.2.1 (AG gs j).2.2.2.2.1 (AG gs j).2.2.2.2.2.1)/\gi am j=D9 gs j (gi b j)/\gi am j<=gi mo j
end
section
variable {cs : List Cd} {os : List ByteArray} {ks : List Ko} {gs : List Ch} {bs : List Ba} {al mo od : List Int}
def aRT (h:G1 cs os ks gs bs al mo od=U):Fe cs os ks gs bs al mo od=FZ gs (lvF (D3 cs gs<|M cs) gs al mo od):=by
 unfold Fe;rw [AD h,azF<|aBh h]
def aWs (h:G1 cs os ks gs bs al mo od=U):shE cs os ks gs bs al mo od=0:=by unfold shE;rw [AD h]
end
abbrev Ag:Ty:=.pair A7 A7
abbrev Ra:=Int×Int
def bw:qT (List Ra):=⟨⟩
def bC:qT (List<|Int×Ra):=⟨⟩
instance:Coe (List Ra) LV:=⟨.xl Ag⟩
def C6 (l:bw) (n:Y):Ra:=l.getD n.toNat (0,0)
def xh {l:bw}{n:Y}(h:n.toNat<M l):C6 l n=l[n.toNat]:=Lu h
def aUc {l:aB}{j:Y}(h:M l<=j.toNat):gi l j=0:=by
 unfold gi;rw [DH,Su h];rfl
def ahs {l:aB}{a:Y}(h:a∈l):∃j:Y,(0<=j/\j<(M l:Y))/\gi l j=a:=by
 obtain ⟨k,hk,e⟩:=Hx.1 h;exact ⟨k,A0,by rw [Im A8];simpa using e⟩
def neN {a b:aC}:((a:Y) !=(b:Y))=!an (a=b):=by
 by_cases h:a=b
 ·simp [h]
 ·have h':(a:Y)≠(b:Y):=A0
  simp [h,h']
def Fc (t:Y) (x:Le):aM:=an (x.2.2.2.1<=t)&&an (DS x>t)
def Jh (o:aB) (x:Le):aB:=o.set x.2.1.toNat<|mx (gi o x.2.1) x.2.2.1
def GY (n:aC) (l:aL) (t:Y):aB:=(l.filter<|Fc t).foldl Jh<|aq n 0
def below (n:Y) (l:aL):aM:=l.all λx=>an<|x.2.1<n
def K8 (l:aL) (n t:Y):aM:=(B2 l&&(inB n 0 16&&inB t 0 1100000))&&below n l
def HP (l:aL) (n t:Y):aB:=if K8 l n t=U then GY n.toNat l t else []
def JY (l:aL) (n t:Y):Y:=if K8 l n t=U then 0 else 1
def aGz {o:aB}{x:Le}:M (Jh o x)=M o:=by simp [Jh]
def aJr:∀ {l:aL}{o:aB},M (l.foldl Jh o)=M o
 | [],_=>rfl
 |x::l,o=>by rw [KK,aJr,aGz]
def fQ {n:aC}{l:aL}{t:Y}:M (GY n l t)=n:=by rw [GY,aJr,CV]
def aGq {l:aL}(h:B2 l=U):l.Pairwise (λa b=>a.1<b.1/\a.2.2.2.1<=b.2.2.2.1):=by
 unfold B2 at h;rw [AY] at h
 have hs:∀k:aC,(hk:k+1<M l)->l[k].1<l[k+1].1/\l[k].2.2.2.1<=l[k+1].2.2.2.1:=λk hk=>by
  have:=DQ.1 h.2 (k+1) A0
  unfold HC KA at this;rw [Mh (n:=((k+1:aC):Y)) A8,Mh (n:=((k+1:aC):Y)-1) A0] at this;simp only [AY,CS,Ac] at this;obtain ⟨_,h1|h1⟩:=this
  ·omega
  ·have e:(((k+1:aC):Y)-1).toNat=k:=A0
   simp only [e,C2] at h1;omega
 rw [my];intro i j hi hj hij
 induction j with
 |zero=>omega
 | succ j ih=>
  have h1:=hs j A0
  by_cases e:i=j
  ·grind
  ·have h2:=ih A0 A0
   omega
def Ce (c:Ch):Y:=c.2.2.2.2.2.2.1
def raC (c:Ch) (r:Ra):aM:=IN c.2.2.1 c.2.2.2.1 c.2.2.2.2.1 c.2.2.2.2.2.1 (Ce c) r.1 r.2
def HK (x:Dm):aM:=inB x.2.1 0 1000000000&&(inB x.2.2.1 0 1000000&&inB x.2.2.2 1 9)
def Je (cs:aJ) (os:aE) (ks:aP) (gs:aF) (bs:aQ) (l:aL) (rs:bw) (d:ba) (t n:Y):aM:=
 (B9 cs os ks gs bs&&B2 l)&&((an (M rs=M gs)&&(an (M d=M gs)&&(inB t 0 1000000&&inB n 1 999900)))&&(below (M gs) l&&D5 (M gs) (λj=>raC (AG gs j) (C6 rs j)&&HK (E8 d j))))
def HX (n:aC) (f:Y->Y):aB:=(au n).map λk:aC=>f (k:Y)
def Ib {n:aC}{f:Y->Y}:M (HX n f)=n:=by simp [HX]
def NQ {n:aC}{f:Y->Y}{j:Y}(h0:0<=j) (h1:j<(n:Y)):gi (HX n f) j=f j:=by
 rw [Im (by rw [Ib];omega)]
 simp only [HX,zd,nP]
 grind
def aG9 {n:aC}{f:Y->Y}{x:Y}(h:x∈HX n f):∃j,(0<=j/\j<(n:Y))/\f j=x:=by
 obtain ⟨k,hk,e⟩:=FP.1 h
 grind
def Bq (gs:aF):aB:=HX (M gs) λk=>Ce<|AG gs k
def JL (gs:aF) (d:ba):aB:=HX (M gs) (λk=>if (E8 d k).1=U then (AG gs k).2.2.2.2.1 else 0)
def D4 (gs:aF) (l:aL) (t:Y):aB:=HX (M gs) λk=>mx (Ce<|AG gs k)<|gi (GY (M gs) l t) k
def tgL (cs:aJ) (os:aE) (ks:aP) (gs:aF) (bs:aQ) (d:ba) (t:Y):aB:=Fe cs os ks gs bs (Bq gs) (JL gs d)<|HT d t
def Ha (cs:aJ) (os:aE) (ks:aP) (gs:aF) (bs:aQ) (l:aL) (d:ba) (t:Y):aB:=Fe cs os ks gs bs (D4 gs l t) (tgL cs os ks gs bs d t)<|HT d t
def af9 {l:bw}{i j:Y}{v:Ra}(h0:0<=i) (h1:i<(M l:Y)) (hj:0<=j):C6 (l.set i.toNat v) j=if j=i then v else C6 l j:=by
 unfold C6;rw [DH,DH,IY]
 by_cases e:j=i
 ·subst e
  rw [AD rfl,AD rfl,AD A0];rfl
 ·grind
def avb {a b:bw}(hl:M a=M b) (h:∀j:Y,0<=j->j<(M b:Y)->C6 a j=C6 b j):a=b:=bL hl λk h1 h2=>by
 have:=h (k:Y) A0 A0
 rw [xh A8,xh A8] at this
 grind
def ofO (cs:aJ) (os:aE) (ks:aP) (gs:aF) (bs:aQ) (l:aL) (d:ba) (t:Y) (od:aB):aB:=Fe cs os ks gs bs (D4 gs l t) (Fe cs os ks gs bs (Bq gs) (JL gs d) od) od
def nwO (a t:Y):Option Le->Bool
 |none=>U
 |some x=>x.2.2.1 !=a ||an (x.2.2.2.1<=t-6)
def nwB (gs:aF) (l:aL) (t i a:Y):aM:=!an (a<=Ce (AG gs i))&&nwO a t (l.reverse.find? λx=>x.2.1==i)
def nxA (c:Ch) (r:Ra) (w:Y):Y:=nA c.2.2.1 c.2.2.2.1 c.2.2.2.2.1 c.2.2.2.2.2.1 (Ce c) r.1 r.2 w
def nxS (c:Ch) (r:Ra) (w:Y):Y:=nS c.2.2.1 c.2.2.2.1 c.2.2.2.2.1 c.2.2.2.2.2.1 (Ce c) r.1 r.2 w
def FJ (gs:aF) (rs:bw) (w:aB) (k:aC):aB:=HX k λk=>nxA (AG gs k) (C6 rs k)<|gi w k
def dcR (gs:aF) (rs:bw) (w:aB) (k:aC):bw:=(au k).map λk:aC=>(nxA (AG gs k) (C6 rs k)<|gi w k,nxS (AG gs k) (C6 rs k)<|gi w k)
def HL (gs:aF) (l:aL) (t n:Y) (am:aB):aC->List Le
 |0=>[]
 |k+1=>HL gs l t n am k++(if nwB gs l t k (gi am k)=U then [(n+M (HL gs l t n am k),(k:Y),gi am k,t,12)] else [])
def gu {gs:aF}{rs:bw}{w:aB}{k:aC}:M (dcR gs rs w k)=k:=by simp [dcR]
def ajm {gs:aF}{rs:bw}{w:aB}{k:aC}{j:Y}(h0:0<=j) (h1:j<(k:Y)):C6 (dcR gs rs w k) j=(nxA (AG gs j) (C6 rs j)<|gi w j,nxS (AG gs j) (C6 rs j)<|gi w j):=by
 rw [xh (by rw [gu];omega)]
 simp only [dcR,zd,nP]
 grind
def okC (c:Ch) (r:Ra) (w:Y):aM:=okB c.2.2.1 c.2.2.2.1 c.2.2.2.2.1 c.2.2.2.2.2.1 (Ce c) r.1 r.2 w
def dcK (gs:aF) (rs:bw) (w:aB):Prop:=∀j,0<=j->j<(M gs:Y)->okC (AG gs j) (C6 rs j) (gi w j)=U
def aFJ {gs:aF}{l:aL}{t n:Y}{am:aB}:∀ {k:aC},M (HL gs l t n am k)<=k
 |0=>by simp [HL]
 |k+1=>by
  have:=aFJ (gs:=gs) (l:=l) (t:=t) (n:=n) (am:=am) (k:=k)
  rw [HL,BG];exact cH
section
variable (cs : List Cd) (os : List ByteArray) (ks : List Ko) (gs : List Ch) (bs : List Ba) (l : List Le) (rs : List Ra) (d : List Dm) (t n : Int)
def deA:aB:=if Je cs os ks gs bs l rs d t n=U then FJ gs rs (Ha cs os ks gs bs l d t) (M gs) else []
def deR:bw:=if Je cs os ks gs bs l rs d t n=U then dcR gs rs (Ha cs os ks gs bs l d t) (M gs) else []
def deL:aL:=if Je cs os ks gs bs l rs d t n=U then HL gs l t n (FJ gs rs (Ha cs os ks gs bs l d t)<|M gs) (M gs) else []
def deE:Y:=if Je cs os ks gs bs l rs d t n=U then 0 else 1
end
section
variable {cs : List Cd} {os : List ByteArray} {ks : List Ko} {gs : List Ch} {bs : List Ba} {l : List Le} {rs : List Ra} {d : List Dm} {t n : Int}
structure Vd (cs:aJ) (os:aE) (ks:aP) (gs:aF) (bs:aQ) (l:aL) (rs:bw) (d:ba) (t n:Y):Prop where
 site:B9 cs os ks gs bs=U
 les:B2 l=U
 rl:M rs=M gs
 dl:M d=M gs
 gl:M gs<=16
 tb:0<=t/\t<=1000000
 nb:1<=n/\n<=999900
 co:below (M gs) l=U
 ra:∀j:Y,0<=j->j<(M gs:Y)->raC (AG gs j) (C6 rs j)=U
 dm:∀j:Y,0<=j->j<(M gs:Y)->HK (E8 d j)=U
 ch:∀j:Y,0<=j->j<(M gs:Y)->chW (AG gs j)=U
def aXm (h:Je cs os ks gs bs l rs d t n=U):Vd cs os ks gs bs l rs d t n:=by
 unfold Je at h;simp only [AY,Ac,B8] at h;obtain ⟨⟨h1,h2⟩,⟨h3,h4,h5,h6⟩,h7,h8⟩:=h
 have hj:∀j:Y,0<=j->j<(M gs:Y)->raC (AG gs j) (C6 rs j)=U/\HK (E8 d j)=true:=λj h0 hj=>by
  have:=DQ.1 h8 j.toNat A0
  rw [Bs h0,AY] at this;exact this
 exact ⟨h1,h2,h3,h4,(Cz.1 h1).1.2.2.2.2.1,h5,h6,h7,λj h0 h1=>(hj j h0 h1).1,λj h0 h1=>(hj j h0 h1).2,λj h0 hj=>by
  have:=NU h1 h0 hj
  unfold G7 at this;simp only [AY] at this;exact this.2.2⟩
def iE {c:Ch}(h:chW c=U):(1<=c.2.2.1/\c.2.2.1<=7)/\(1<=c.2.2.2.1/\c.2.2.2.1<=c.2.2.2.2.1)/\c.2.2.2.2.1<=80/\(1<=c.2.2.2.2.2.1/\c.2.2.2.2.2.1<=80)/\0<=Ce c/\Ce c<=c.2.2.2.2.1:=by
 unfold chW at h;unfold Ce;simp only [AY,CS,B8,Cl] at h;omega
def uU (hv:B2 l=U) {m:aC}:∀a∈GY m l t,0<=a/\a<=80:=by
 have key:∀(l:aL) (o:aB),(∀x∈l,DN x=U)->(∀a∈o,0<=a/\a<=80)->∀a∈l.foldl Jh o,0<=a/\a<=80:=λl=>by
  induction l with
  |nil=>exact λo _ h=>h
  | cons x l ih=>
   intro o hl ho;refine ih _ (λy hy=>hl y A8) λa ha=>?_
   have hx:=Ka.1<|hl x AJ
   rcases Oa ha with ha|rfl
   ·grind
   ·have:0<=gi o x.2.1/\gi o x.2.1<=80:=by
     by_cases h:x.2.1.toNat<M o
     ·rw [Im h];exact ho _<|Gl _
     ·rw [aUc A0];omega
    exact NG
 refine key _ _ (λx hx=>(GP hv).2 x (Ck.1 hx).1) λa ha=>?_
 rw [List.eq_of_mem_replicate ha];omega
def aJx (hd:M d=M gs):H4 (HT d t) (M gs)=true:=by
 unfold H4;rw [aHD,hd,Ci rfl,ET,AY,BO];refine ⟨λx hx=>rW.2 (by have:=aqr.1 hx;rw [hd] at this;exact this),tC.2 λj hj hm=>?_⟩
 obtain ⟨k,hk,e⟩:=Hx.1 hm;rw [MG] at hk;rw [List.getElem_take] at e
 have:=(my.1<|aeW (d:=d) (t:=t)) k j A0 hj A0
 exact this e
def kH {l:aB}{a b:Y}(hz:a<=0/\0<=b) (h:∀x∈l,a<=x/\x<=b) {j:Y}:a<=gi l j/\gi l j<=b:=by
 by_cases hj:j.toNat<M l
 ·rw [Im hj];exact h _<|Gl _
 ·rw [aUc A0];exact hz
structure Si (cs:aJ) (os:aE) (ks:aP) (gs:aF) (bs:aQ) (d:ba):Prop where
 site:B9 cs os ks gs bs=U
 dl:M d=M gs
def Si.ch (h:Si cs os ks gs bs d) {j:Y}(h0:0<=j) (hj:j<(M gs:Y)):chW (AG gs j)=true:=by
 have:=NU h.site h0 hj
 unfold G7 at this
 grind
def Vd.si (h:Vd cs os ks gs bs l rs d t n):Si cs os ks gs bs d:=⟨h.site,h.dl⟩
def aiy (h:Si cs os ks gs bs d):∀a∈Bq gs,0<=a/\a<=80:=λa ha=>by
 exact aOR
def ay3 (h:Si cs os ks gs bs d):∀a∈JL gs d,0<=a/\a<=80:=λa ha=>by
 exact aOR
def ak9 (h:Vd cs os ks gs bs l rs d t n):∀a∈D4 gs l t,0<=a/\a<=80:=λa ha=>by
 obtain ⟨j,⟨h0,h1⟩,rfl⟩:=aG9 ha
 have:=iE<|h.ch j h0 h1
 have:=kH (j:=j) ⟨Cb 0,Ad⟩<|uU h.les (m:=M gs) (t:=t)
 exact NG
def aRU {al mo od:aB}(hk:G1 cs os ks gs bs al mo od=U):letI a:=Fe cs os ks gs bs al mo od;M a=M gs/\∀j,0<=j->j<(M gs:Y)->(0<=gi a j/\gi a j<=80)/\gi a j<=gi mo j:=by
 have H:=aBh hk
 rw [aRT hk];refine ⟨aI6,λj h0 h1=>?_⟩
 obtain ⟨_,_,_,e4,e5⟩:=ak6 H (aCh H) h0 h1
 have h3:=(akW H h0 h1 ((aCh H).2 j h0 h1).1 ((aCh H).2 j h0 h1).2).2<|aU7 H h0 h1
 rw [Te h0 h1] at e4 e5|-
 grind
def aJf {al mo od:aB}(hk:G1 cs os ks gs bs al mo od=U):M (Fe cs os ks gs bs al mo od)=M gs/\∀a∈Fe cs os ks gs bs al mo od,0<=a/\a<=80:=by
 obtain ⟨h1,h2⟩:=aRU hk;refine ⟨h1,λa ha=>?_⟩
 obtain ⟨j,hj,rfl⟩:=ahs ha
 grind
def aXf (h:Si cs os ks gs bs d):G1 cs os ks gs bs (Bq gs) (JL gs d) (HT d t)=true:=
 Lc.2 ⟨h.site,Ib,Ib,BO.2 λa ha=>Qm.2<|aiy h a ha,BO.2 λa ha=>Qm.2<|ay3 h a ha,aJx h.dl⟩
def aXg (h:Si cs os ks gs bs d):M (tgL cs os ks gs bs d t)=M gs/\∀a∈tgL cs os ks gs bs d t,0<=a/\a<=80:=by
 exact aJf<|aXf (t:=t) h
def ka (h:Vd cs os ks gs bs l rs d t n):G1 cs os ks gs bs (D4 gs l t) (tgL cs os ks gs bs d t) (HT d t)=true:=
 Lc.2 ⟨h.site,Ib,(aXg h.si).1,BO.2 λa ha=>Qm.2<|ak9 h a ha,BO.2 λa ha=>Qm.2<|(aXg h.si).2 a ha,aJx h.dl⟩
def aaK (h:Vd cs os ks gs bs l rs d t n):M (Ha cs os ks gs bs l d t)=M gs/\∀a∈Ha cs os ks gs bs l d t,0<=a/\a<=80:=by
 exact aJf<|ka h
def amM (h:Vd cs os ks gs bs l rs d t n) {j:Y}:letI a:=Ha cs os ks gs bs l d t;0<=gi a j/\gi a j<=80:=kH ⟨Cb 0,Ad⟩ (aaK h).2
def aUv (h:Vd cs os ks gs bs l rs d t n):dcK gs rs (Ha cs os ks gs bs l d t):=λj j0 j1=>by
 have hr:=h.ra j j0 j1
 have hb:=amM h (j:=j)
 unfold raC at hr;unfold okC okB;rw [hr,Ci hb.1,Ci hb.2];rfl
def axI (h:Vd cs os ks gs bs l rs d t n):K8 l (M gs) t=true:=by
 have:=h.gl
 have:=h.tb
 unfold K8;rw [h.les,B8.2 ⟨A0,A0⟩,B8.2 ⟨A0,A0⟩,h.co];rfl
end
section
variable {P : List Int -> Bool} {tp : Int -> Int}
end
def isL (mn mx st a:Y):aM:=a==0 ||(an (mn<=a)&&(an (a<=mx)&&((a-mn) %st==0)))
def Wi {mn mx st a:Y}:isL mn mx st a=U↔a=0\/(mn<=a/\a<=mx/\(a-mn) %st=0):=by simp [isL]
def fS {mn mx st a:Y}(hc:E0 mn mx st):isL mn mx st (C5 mn mx st a)=true:=by
 unfold E0 at hc;rw [Wi];unfold C5;split
 ·grind
 ·right
  have e1:=aEp (x:=min a mx-mn) (s:=st) A0 A0
  refine ⟨A0,A0,?_⟩
  have h:=nK (min a mx-mn) st
  rw [show min a mx-(min a mx-mn) %st-mn=st*((min a mx-mn) / st) by omega]
  simp_all
def il {mn mx st a:Y}(hc:E0 mn mx st) (ha:0<=a):C5 mn mx st a<=a:=by
 have hc':=hc
 have:=eE (a:=a) hc'.1 hc'.2.1 hc'.2.2.1 hc'.2.2.2.1
 by_cases h:a<mn
 ·omega
 ·omega
def auz {x y s:Y}(hs:1<=s) (hy:y%s=0) (h:y<=x):y<=x-x%s:=by
 have h1:=nK x s
 have h2:=nK y s
 have h3:=Int.emod_lt_of_pos x (b:=s) A0
 by_cases hq:y / s<=x / s
 ·have:=N8 hq (show 0<=s by omega)
  omega
 ·have:=N8 (show x / s+1<=y / s by omega) (show 0<=s by omega)
  rw [nj,Int.mul_one] at this;omega
def qW {mn mx st a L:Y}(hc:E0 mn mx st) (hL:isL mn mx st L=U) (h:L<=a):L<=C5 mn mx st a:=by
 have hc':=hc
 unfold E0 at hc';rw [Wi] at hL;rcases hL with rfl|⟨h1,h2,h3⟩
 ·exact (eE (a:=a) hc'.1 hc'.2.1 hc'.2.2.1 hc'.2.2.2.1).1
 ·unfold C5
  have:=auz (x:=min a mx-mn) (y:=L-mn) (s:=st) A0 h3 A0
  omega
def aHv {mn mx st a:Y}(hc:E0 mn mx st) (h:isL mn mx st a=U) (ha:0<=a):C5 mn mx st a=a:=by
 have h1:=il hc ha
 have h2:=qW hc h<|Cb a
 omega
def aHG {ph mn mx st fb a s want:Y}(h:okB ph mn mx st fb a s want=U):E0 mn mx st/\0<=s/\s<=1000000/\0<=want/\want<=80/\0<=a/\a<=80/\isL mn mx st a=U/\a<=mx/\(a≠0->mn<=a):=by
 have h':=h
 simp only [okB,IN,AY,Ac,Cl] at h';obtain ⟨⟨_,_,_,_,h5⟩,_⟩:=h';obtain ⟨_,h2,h3,h4,h6,h7,_⟩:=aKC h
 have hl:isL mn mx st a=true:=by rw [<-h5];exact fS h2
 have hl':=Wi.1 hl
 have h2':=h2
 unfold E0 at h2'
 grind
def amd {ph mn mx st fb a s want:Y}(h:okB ph mn mx st fb a s want=U):nE ph mn mx st fb a s want=0:=by rw [nE,AD h]
def aaM {ph mn mx st fb a s want:Y}(h:okB ph mn mx st fb a s want=U):nA ph mn mx st fb a s want=if a=0 then (if C5 mn mx st want≠0/\5<=s then mn else 0) else if C5 mn mx st want=0 then 0 else min (C5 mn mx st want) (a+st):=by rw [nA,AD h]
def amc {ph mn mx st fb a s want:Y}(h:okB ph mn mx st fb a s want=U):nS ph mn mx st fb a s want=if a=0 then (if C5 mn mx st want≠0/\5<=s then 0 else min (s+1) 1000000) else if C5 mn mx st want=0 then 0 else min (s+1) 1000000:=by rw [nS,AD h]
def aUk {mn mx st:Y}(hc:E0 mn mx st):isL mn mx st mn=true:=by
 unfold E0 at hc;rw [Wi];right;exact ⟨A0,A0,AJ⟩
def awF {mn mx st a:Y}(ha:isL mn mx st a=U) (h0:a≠0) (h1:a+st<=mx) (hs:1<=st):isL mn mx st (a+st)=true:=by
 rw [Wi] at ha|-;rcases ha with h|⟨h2,h3,h4⟩
 ·grind
 ·right
  exact ⟨A0,h1,by rw [show a+st-mn=(a-mn)+st by omega,Int.add_emod_right];exact h4⟩
def aHw {mn mx st a b:Y}(hc:E0 mn mx st) (h0:0<=a) (h:a<=b):C5 mn mx st a<=C5 mn mx st b:=by
 have h1:=il hc h0
 exact qW hc (fS (a:=a) hc) A0
def aq7 {mn mx st a:Y}(hc:E0 mn mx st):C5 mn mx st a<=mx:=by
 have h:=Wi.1<|fS (a:=a) hc
 unfold E0 at hc;omega
def atX {mn mx st a want:Y}(hc:E0 mn mx st) (ha:isL mn mx st a=U) (h0:a≠0) (ha0:0<=a) (hw:0<=want):(if C5 mn mx st want=0 then 0 else min (C5 mn mx st want) (a+st))=C5 mn mx st (min want<|a+st):=by
 have hc':=hc
 unfold E0 at hc'
 by_cases h1:want<=a+st
 ·rw [show min want (a+st)=want by omega]
  have:=il hc hw
  omega
 ·rw [show min want (a+st)=a+st by omega]
  by_cases h2:a+st<=mx
  ·have hl:=awF ha h0 h2 A0
   rw [aHv hc hl A0]
   have:=qW hc hl (show a+st<=want by omega)
   omega
  ·have m1:=aq7 (a:=want) hc
   have g1:=qW hc (fS (a:=want) hc) (show C5 mn mx st want<=a+st by omega)
   have g2:=aHw hc (show 0<=a+st by omega) (show a+st<=want by omega)
   omega
def aue {ph mn mx st fb a s want most:Y}(hk:okB ph mn mx st fb a s want=U) (hm:most=if a=0 then mn else a+st):
  isL mn mx st (nA ph mn mx st fb a s want)=U/\nA ph mn mx st fb a s want<=want/\nA ph mn mx st fb a s want<=most/\(nA ph mn mx st fb a s want=C5 mn mx st (min want most)\/(a=0/\s<5/\nA ph mn mx st fb a s want=0))/\(a≠0\/5<=s\/nA ph mn mx st fb a s want=0):=by
 obtain ⟨hc,h1,h2,h3,h4,h5,h6,h7,h8,h9⟩:=aHG hk
 have hc':=hc
 unfold E0 at hc';rw [aaM hk]
 by_cases h0:a=0
 ·rw [AD h0] at hm|-
  by_cases hh:C5 mn mx st want≠0/\5<=s
  ·rw [AD hh]
   have hw:mn<=want:=by
    apply Classical.byContradiction
    intro hn;exact hh.1<|by rw [C5,AD A0]
   refine ⟨aUk hc,hw,A0,.inl ?_,.inr<|.inl hh.2⟩;rw [hm,show min want mn=mn by omega,aHv hc (aUk hc) A0]
  ·rw [AE hh]
   refine ⟨A8,h3,A0,?_,.inr<|.inr rfl⟩
   by_cases hs:s<5
   ·grind
   ·left
    have h10:C5 mn mx st want=0:=by
     apply Classical.byContradiction
     omega
    have:=aHw hc (show 0<=min want most by omega) (show min want most<=want by omega)
    have:=(eE (a:=min want most) hc'.1 hc'.2.1 hc'.2.2.1 hc'.2.2.2.1).1
    omega
 ·rw [AE h0] at hm|-
  rw [atX hc h7 h0 h5 h3]
  have:=il hc (show 0<=min want (a+st) by omega)
  exact ⟨fS hc,A0,A0,.inl<|by rw [hm],.inl h0⟩
def aeU {ph mn mx st fb a s want:Y}(hk:okB ph mn mx st fb a s want=U):
  0<=nA ph mn mx st fb a s want/\(0<=nS ph mn mx st fb a s want/\nS ph mn mx st fb a s want<=1000000/\nS ph mn mx st fb a s want<=s+1)/\(a=0->nA ph mn mx st fb a s want≠0->5<=s)/\(a≠0->nA ph mn mx st fb a s want=0->nS ph mn mx st fb a s want=0)/\
  (¬((nA ph mn mx st fb a s want=0)↔(a=0))->nS ph mn mx st fb a s want=0)/\(((nA ph mn mx st fb a s want=0)↔(a=0))->nS ph mn mx st fb a s want=min (s+1) 1000000):=by
 obtain ⟨hc,h1,h2,h3,h4,h5,h6,h7,h8,h9⟩:=aHG hk
 have hc':=hc
 unfold E0 at hc'
 have hb:=(eE (a:=want) hc'.1 hc'.2.1 hc'.2.2.1 hc'.2.2.2.1).1
 rw [aaM hk,amc hk]
 by_cases h0:a=0
 ·simp only [AD h0]
  by_cases hh:C5 mn mx st want≠0/\5<=s
  ·omega
  ·omega
 ·simp only [AE h0]
  by_cases hh:C5 mn mx st want=0
  ·omega
  ·omega
def atW {al x y:aB}{r:Rw}(hm:∀m∈r.2,0<=gi y m/\gi y m<=gi x m) (h:rowB al x r=U):rowB al y r=true:=by
 unfold rowB at h|-;rw [CS] at h|-;rcases h with h|h
 ·left
  rw [BO] at h|-;intro m hmm
  have h1:=h m hmm
  have h2:=hm m hmm
  rw [Cl] at h1|-;omega
 ·right
  exact Ci<|F9 (aHZ λm hmm=>(hm m hmm).2)<|DJ h
def aqi {rows:aY}{al x y:aB}(hm:∀r∈rows,∀m∈r.2,0<=gi y m/\gi y m<=gi x m) (h:PN rows al x=U):PN rows al y=true:=by
 unfold PN at h|-;rw [BO] at h|-;exact λr hr=>atW (hm r hr)<|h r hr
section
variable {cs : List Cd} {os : List ByteArray} {ks : List Ko} {gs : List Ch} {bs : List Ba} {l : List Le} {rs : List Ra} {d : List Dm} {t n : Int}
def aqS {al mo od:aB}(hk:G1 cs os ks gs bs al mo od=U):PN (D3 cs gs<|M cs) al (Fe cs os ks gs bs al mo od)=true:=by
 rw [aRT hk];exact ahx<|aBh hk
def ajn {w:aB}{k:aC}{j:Y}(h0:0<=j) (h1:j<(k:Y)):gi (FJ gs rs w k) j=nxA (AG gs j) (C6 rs j) (gi w j):=NQ h0 h1
def acB (V:Vd cs os ks gs bs l rs d t n) {j:Y}(j0:0<=j) (j1:j<(M gs:Y)):letI a:=Ha cs os ks gs bs l d t;0<=gi (FJ gs rs a<|M gs) j/\gi (FJ gs rs a<|M gs) j<=gi a j/\gi a j<=gi (tgL cs os ks gs bs d t) j:=by
 have hk:=aUv V j j0 j1
 rw [ajn j0 j1];exact ⟨(aeU hk).1,(aue hk rfl).2.1,((aRU<|ka V).2 j j0 j1).2⟩
def au0 {r:Rw}{m:Y}(hr:r∈D3 cs gs (M cs)) (hm:m∈r.2):0<=m/\m<(M gs:Y):=(row_mem hr).2.1 m hm
def awn (V:Vd cs os ks gs bs l rs d t n):PN (D3 cs gs<|M cs) (D4 gs l t) (FJ gs rs (Ha cs os ks gs bs l d t)<|M gs)=true:=
 aqi (λr hr m hm=>by
  have hm:=au0 hr hm
  have:=acB V hm.1 hm.2
  exact ⟨this.1,this.2.1⟩) (aqS<|ka V)
def ah7 {i a:Y}(h:nwB gs l t i a=U):Ce (AG gs i)<a:=by
 unfold nwB at h;rw [AY] at h
 have h1:=h.1
 simp only [DB,DI] at h1;omega
end
abbrev Ld:=Int×Ra
def aW:qT (List Ld):=⟨⟩
def BT (l:aW) (i:aC):Ld:=l.getD i<|Ty.dflt<|.pair A7 Ag
def Xm (l:aW) (i:aC) (v:Y):aW:=l.set i ((AA<|(l.getD i<|Ty.dflt<|.pair A7 Ag).1+v),(l.getD i<|Ty.dflt<|.pair A7 Ag).2)
def V5 (l:aW) (i:aC) (v:Y):aW:=letI a:=l.getD i<|Ty.dflt<|.pair A7 Ag;l.set i (a.1,((AA<|a.2.1+v),a.2.2))
def up3 (l:aW) (i:aC) (v:Y):aW:=letI a:=l.getD i<|Ty.dflt<|.pair A7 Ag;l.set i (a.1,(a.2.1,(AA<|a.2.2+v)))
def aEc {l:aW}{i:aC}{v:Y}:M (Xm l i v)=M l:=by simp [Xm]
def aEb {l:aW}{i:aC}{v:Y}:M (V5 l i v)=M l:=by simp [V5]
def aEa {l:aW}{i:aC}{v:Y}:M (up3 l i v)=M l:=by simp [up3]
def adE (ph v:Y) (e:Ld):Ld:=
 (if (Bn J ph 1 !=0)=U then AA (e.1+v) else e.1,
  (if (Bn J ph 2 !=0)=U then AA (e.2.1+v) else e.2.1,
   if (Bn J ph 4 !=0)=U then AA (e.2.2+v) else e.2.2))
def adP (ph v:Y) (l:aW) (i:aC):aW:=l.set i<|adE ph v<|BT l i
def fj {l:aW}{i j:aC}{e:Ld}(h:i<M l):BT (l.set i e) j=if i=j then e else BT l j:=by
 unfold BT;rw [DH,DH,IY]
 by_cases hij:i=j
 ·subst hij
  rw [AD rfl,AD rfl,AD h];rfl
 ·grind
def arG {l:aW}{i:aC}(h:i<M l):l.set i (BT l i)=l:=by
 unfold BT
 simp_all
def ayV {l:aW}{i:aC}{v:Y}:Xm l i v=l.set i (AA<|(BT l i).1+v,(BT l i).2):=rfl
def ayU {l:aW}{i:aC}{v:Y}:V5 l i v=l.set i ((BT l i).1,(AA<|(BT l i).2.1+v,(BT l i).2.2)):=rfl
def ayT {l:aW}{i:aC}{v:Y}:up3 l i v=l.set i ((BT l i).1,((BT l i).2.1,AA<|(BT l i).2.2+v)):=rfl
def akF {ph v:Y}{l:aW}{i:aC}(h:i<M l):adP ph v l i=
  (let a:=if (Bn J ph 1 !=0)=U then Xm l i v else l
   let b:=if (Bn J ph 2 !=0)=U then V5 a i v else a
   if (Bn J ph 4 !=0)=U then up3 b i v else b):=by
 unfold adP adE
 by_cases h1:(Bn J ph 1 !=0)=U<;>by_cases h2:(Bn J ph 2 !=0)=U<;>by_cases h4:(Bn J ph 4 !=0)=U<;>
  simp only [h1,h2,h4,Bu,Hy,GL,ayV,ayU,ayT,fj h,List.set_set]<;>exact arG h
def axM {ph v:Y}{l:aW}{i:aC}:M (adP ph v l i)=M l:=by simp [adP]
def ldW:aC->aJ->Y->Y->Y->aW->List Ld
 |0,_,_,_,_,l=>l
 |k+1,cs,ph,v,c,l=>if c>=0 then ldW k cs ph v (AZ cs c).2.1 (adP ph v l c.toNat) else l
def HI (cs:aJ) (ph v c:Y) (l:aW):aW:=ldW (c.toNat+2) cs ph v c l
def aU0 {cs:aJ}{ph v:Y}(hu:Fm cs=U):∀(k k':aC) (c:Y) (l:aW),c<M cs->(c+1).toNat<k->(c+1).toNat<k'->ldW k cs ph v c l=ldW k' cs ph v c l
 |0,_,_,_,_,h,_=>A0
 |_+1,0,_,_,_,_,h=>A0
 | k+1,k'+1,c,l,hc,h,h'=>by
  simp only [ldW]
  by_cases h0:c>=0
  ·rw [AD h0,AD h0]
   have:=R6 hu h0 hc
   exact aU0 hu k k' _ _ A0 A0 A0
  ·grind
def ahM {cs:aJ}{ph v c:Y}{l:aW}(hu:Fm cs=U) (hc:c<M cs):HI cs ph v c l=if c>=0 then HI cs ph v (AZ cs c).2.1 (adP ph v l c.toNat) else l:=by
 unfold HI;rw [ldW]
 by_cases h0:c>=0
 ·rw [AD h0,AD h0]
  have:=R6 hu h0 hc
  rw [aU0 hu (c.toNat+1) ((AZ cs c).2.1.toNat+2) (AZ cs c).2.1 _ A0 A0 A0]
 ·grind
def aSH {cs:aJ}{o:Y}(hu:Fm cs=U):∀(k:aC) (c:Y),c<M cs->Gi k cs o c=U->o<=c
 |0,_,_,h=>by simp [Gi] at h
 | k+1,c,hc,h=>by
  simp only [Gi] at h;split at h
  ·rename_i h0
   rw [CS] at h;rcases h with h|h
   ·have:=eq_of_beq h
    omega
   ·have h1:=R6 hu h0 hc
    have:=aSH hu k _ A0 h
    omega
  ·cases h
def aUf {cs:aJ}{ph v:Y}(hu:Fm cs=U) {o:aC}:∀(k:aC) (c:Y) (l:aW),c<M cs->M l=M cs->M (ldW k cs ph v c l)=M cs/\BT (ldW k cs ph v c l) o=if Gi k cs (o:Y) c=U then adE ph v (BT l o) else BT l o
 |0,c,l,hc,hl=>⟨hl,by simp [ldW,Gi]⟩
 | k +1,c,l,hc,hl=>by
  simp only [ldW]
  by_cases h0:c>=0
  ·have e0:Gi (k+1) cs (o:Y) c=(c==(o:Y) ||Gi k cs (o:Y) (AZ cs c).2.1):=by
    show (if c>=0 then _ else _)=_
    grind
   rw [AD h0,e0]
   have h1:=R6 hu h0 hc
   have hct:c.toNat<M l:=A0
   obtain ⟨q1,q2⟩:=aUf hu (o:=o) k (AZ cs c).2.1 (adP ph v l c.toNat) A0 (by rw [axM];exact hl)
   refine ⟨q1,?_⟩;rw [q2];unfold adP;rw [fj hct]
   by_cases hco:c.toNat=o
   ·have hb:(c==(o:Y))=true:=A8
    have hn:Gi k cs (o:Y) (AZ cs c).2.1=false:=by
     cases hq:Gi k cs (o:Y) (AZ cs c).2.1 with
     |false=>rfl
     |true=>
      have:=aSH hu k _ A0 hq
      omega
    rw [hb,hn,AD hco,hco]
    simp
   ·have hb:(c==(o:Y))=false:=by
     cases hq:c==(o:Y) with
     |false=>rfl
     |true=>
      have:=eq_of_beq hq
      omega
    grind
  ·have e0:Gi (k+1) cs (o:Y) c=false:=by
    show (if c>=0 then _ else _)=_
    grind
   grind
def xp {cs:aJ}{ph v c:Y}{l:aW}(hu:Fm cs=U) (hc:c<M cs) (hl:M l=M cs) (o:aC):M (HI cs ph v c l)=M cs/\BT (HI cs ph v c l) o=if Fk cs (o:Y) c=U then adE ph v (BT l o) else BT l o:=
 aUf hu _ c l hc hl
def Iy (cs:aJ) (gs:aF) (am:aB):aC->List Ld
 |0=>aq (M cs) (Ty.dflt<|.pair A7 Ag)
 |k+1=>HI cs (AG gs k).2.2.1 (gi am k) (AG gs k).2.1<|Iy cs gs am k
def ED (am:aB):aB->Int
 | []=>0
 |k::l=>gi am k+ED am l
def aJd {am:aB}:∀ {l m:aB},ED am (l++m)=ED am l+ED am m
 | [],m=>by simp [ED]
 |k::l,m=>by
  rw [LP];simp only [ED];rw [aJd];omega
def vB {am:aB}{b:Y}:∀ {l:aB},(∀k∈l,0<=gi am k/\gi am k<=b)->0<=ED am l/\ED am l<=b*(M l:Y)
 | [],_=>by simp [ED]
 |k::l,h=>by
  have h1:=h k AJ
  have h2:=vB (b:=b) λj hj=>h j<|NB _ hj
  simp only [ED,Bm,Int.natCast_add,nj];omega
def akP {ph:Y}:usA ph 0=(Bn J ph 1 !=0):=rfl
def akO {ph:Y}:usA ph 1=(Bn J ph 2 !=0):=rfl
def akx {ph:Y}:usA ph 2=(Bn J ph 4 !=0):=rfl
def axj {gs:aF}{p:Y}{l m:aB}:C1 gs p (l++m)=C1 gs p l++C1 gs p m:=by simp [C1]
def axh {gs:aF}{p k:Y}:C1 gs p [k]=if usA (AG gs k).2.2.1 p=U then [k] else []:=by
 unfold C1;rw [NC];rfl
def ldO (cs:aJ) (gs:aF) (am:aB) (o:Y) (k:aC):Ld:=letI a:=Ct cs gs o k;(ED am<|C1 gs 0 a,(ED am<|C1 gs 1 a,ED am<|C1 gs 2 a))
def td {cs:aJ}{gs:aF}{am:aB}{o:Y}{k:aC}{p:Y}:ED am (C1 gs p<|Ct cs gs o<|k+1)=ED am (C1 gs p<|Ct cs gs o k)+(if Fk cs o (AG gs k).2.1=U then (if usA (AG gs k).2.2.1 p=U then gi am k else 0) else 0):=by
 rw [aGx,axj,aJd]
 by_cases h:Fk cs o (AG gs k).2.1=U
 ·rw [AD h,AD h,axh]
  split<;>simp [ED]
 ·rw [AE h,AE h]
  simp [C1,ED]
def uF {cs:aJ}{gs:aF}{am:aB}(hu:Fm cs=U) (ha:atB cs gs=U):∀k:aC,k<=M gs->M (Iy cs gs am k)=M cs
 |0,_=>by simp [Iy]
 |k+1,hk=>(xp hu (jH ha A0 A0) (uF hu ha k A0) 0).1
def xo {cs:aJ}{gs:aF}{am:aB}(hu:Fm cs=U) (ha:atB cs gs=U) (hg:M gs<=1000) (hm:∀k:aC,k<M gs->0<=gi am k/\gi am k<=80):
  ∀k:aC,k<=M gs->M (Iy cs gs am k)=M cs/\∀o:aC,o<M cs->BT (Iy cs gs am k) o=ldO cs gs am o k
 |0,_=>⟨by simp [Iy],λo ho=>by
  simp only [Iy,ldO,BT];rw [DH,Ss,AD ho];rfl⟩
 | k+1,hk=>by
  obtain ⟨q1,q2⟩:=xo hu ha hg hm k A0
  have hc:(AG gs k).2.1<(M cs:Y):=jH ha A0 A0
  refine ⟨(xp hu hc q1 0).1,λo ho=>?_⟩
  show BT (HI _ _ _ _ _) o=_
  rw [(xp hu hc q1 o).2,q2 o ho]
  have bd:∀p:Y,0<=ED am (C1 gs p<|Ct cs gs o k)/\ED am (C1 gs p<|Ct cs gs o k)<=80000:=λp=>by
   have h1:=vB (am:=am) (b:=80) (l:=C1 gs p<|Ct cs gs o k) (λj hj=>by
    have h2:=Wa (Ck.1 hj).1
    have:=hm j.toNat A0
    rwa [Bs h2.1] at this)
   have h2:=aKW (gs:=gs) (p:=p) (l:=Ct cs gs o k)
   have h3:=rk (cs:=cs) (gs:=gs) (o:=o) (k:=k)
   omega
  have hv:=hm k A0
  have b0:=bd 0
  have b1:=bd 1
  have b2:=bd 2
  unfold ldO;rw [td,td,td]
  by_cases h:Fk cs o (AG gs k).2.1=U
  ·rw [AD h,AD h,AD h,AD h]
   unfold adE;rw [<-akP,<-akO,<-akx];dsimp only;rw [AI,AI,AI]
   grind
  ·grind
abbrev BM:Ty:=.pair A7 AO
abbrev Lk:=Int×Le
def aXP:qT (List Lk):=⟨⟩
def Fy (l:aXP) (n:Y):Lk:=l.getD n.toNat (0,0,0,0,0,0)
structure PK where
 cs:aJ
 os:aE
 ks:aP
 gs:aF
 bs:aQ
 tk:Y
 up:aM
 ls:aL
 se:Y
 fl:aB
 ra:bw
 nx:Y
 st:bf
 ca:aXV
 mi:aXZ
 me:aX4
 dm:ba
 lk:aXP
 (dr tg:aB)
instance:Coe PK LV:=⟨λp=> .agg [.xl Ae p.cs,.xl .str p.os,.xl Ak p.ks,.xl Af p.gs,.xl Al p.bs,.v<|ag J p.tk,.v<|.bool p.up,.xl AO p.ls,.v<|ag J p.se,.xl (.int aw) p.fl,.xl Ag p.ra,.v<|ag J p.nx,.xl B4 p.st,.xl AO p.ca,.xl BB p.mi,.xl BS p.me,.xl Ai p.dm,.xl BM p.lk,.xl A7 p.dr,.xl A7 p.tg]⟩
def rQ (b:aG) (q:aC):PK:=letI a:=Cc b q;⟨Ar Ae<|BD a 0,Ar .str<|BD a 1,Ar Ak<|BD a 2,Ar Af<|BD a 3,Ar Al<|BD a 4,gI<|BD a 5,gBo<|BD a 6,Ar AO<|BD a 7,gI<|BD a 8,Ar (.int aw)<|BD a 9,Ar Ag<|BD a 10,gI<|BD a 11,Ar B4<|BD a 12,Ar AO<|BD a 13,Ar BB<|BD a 14,Ar BS<|BD a 15,Ar Ai<|BD a 16,Ar BM<|BD a 17,Ar A7<|BD a 18,Ar A7<|BD a 19⟩
def rV (b:aG) (q j k:aC) (e:Ty):List e.D:=bif Nat.beq k 0 then Ar e (BD (Cc b q) j) else gVe e (Cc b k)
def rB (b:aG) (q acs als afl ara ast aca ami ame adm alk adr atg:aC):PK:=letI a:=Cc b q;⟨rV b q 0 acs Ae,Ar .str<|BD a 1,Ar Ak<|BD a 2,Ar Af<|BD a 3,Ar Al<|BD a 4,gI<|BD a 5,gBo<|BD a 6,rV b q 7 als AO,gI<|BD a 8,rV b q 9 afl<|.int aw,rV b q 10 ara Ag,gI<|BD a 11,rV b q 12 ast B4,rV b q 13 aca AO,rV b q 14 ami BB,rV b q 15 ame BS,rV b q 16 adm Ai,rV b q 17 alk BM,rV b q 18 adr A7,rV b q 19 atg A7⟩
def rF (b:aG):PK:=rB b 16 4 5 6 7 8 9 10 11 12 13 14 15
def rT (b:aG):PK:=rB b 16 4 0 0 0 8 9 10 11 0 0 14 15
abbrev _root_.Go.Sx.T.pc {α:Type}(p:PK) (t:T α):T α:=.rl p.cs<|.rl p.ls<|.rl p.fl<|.rl p.ra<|.rl p.st<|.rl p.ca<|.rl p.mi<|.rl p.me<|.rl p.dm<|.rl p.lk<|.rl p.dr<|.rl p.tg t
abbrev _root_.Go.Sx.T.pd {α:Type}(p:PK) (t:T α):T α:=.rl p.cs<|.rl p.st<|.rl p.ca<|.rl p.mi<|.rl p.me<|.rl p.dr<|.rl p.tg t
abbrev _root_.Go.Sx.T.pb {α:Type}(p:PK) (t:T α):T α:=.rl p.st<|.rl p.ca<|.rl p.mi<|.rl p.me<|.rl p.dm<|.rl p.lk<|.rl p.dr<|.rl p.tg t
abbrev _root_.Go.Sx.T.pa {α:Type}(p:PK) (t:T α):T α:=.rl p.cs<|.rl p.ls<|.rl p.fl<|.rl p.ra t
instance:Coe (List Lk) LV:=⟨.xl BM⟩
namespace PK
variable (p : PK)
def sV:aM:=B9 p.cs p.os p.ks p.gs p.bs
end PK
def GG (c:Cd) (t:Y):Cd:=(c.1,c.2.1,t,c.2.2.2)
def E6 (cs:aJ) (tg:aB):aC->List Cd
 |0=>cs
 |k+1=>(E6 cs tg k).set k<|GG (AZ (E6 cs tg k) k)<|gi tg k
def CX (gs:aF) (st:bf) (i k n m:Y):bf:=if sE (AG gs i) (BJ st i) k n m=0 then st.set i.toNat (sN (AG gs i) (BJ st i) k n m) else st
def LH (gs:aF) (lk:aXP) (t:Y) (st:bf):aC->List St
 |0=>st
 |k+1=>if (Fy lk k).1>t then LH gs lk t st k else CX gs (LH gs lk t st k) (Fy lk k).2.2.1 7 (Fy lk k).2.2.2.1 (Fy lk k).2.2.2.2.2
def L5 (gs:aF) (st:bf) (i:Y):aC->List St
 |0=>st
 |k+1=>CX gs (L5 gs st i k) i 8 0 0
def JS (gs:aF) (dr:aB) (t:Y) (st:bf):aC->List St
 |0=>st
 |k+1=>if HE t (gi dr k)=0/\HE (t+1) (gi dr k)=0 then L5 gs (JS gs dr t st k) k (Bh (t+1) (gi dr k)-Bh t (gi dr k)).toNat else JS gs dr t st k
structure DW where
 st:bf
 mi:aXZ
 me:aX4
 dw:aB
def Fh (gs:aF) (ca:aXV) (s:DW) (i:Y):DW:=
 if (Be ca i).2.2.1=0 then s
 else if Jc (Be ca i) (CH s.mi i) (AG gs i).2.2.1 (Bk (AG gs i)<|BJ s.st i)=0 then
  let a:=Fg (Be ca i) (CH s.mi i) (AG gs i).2.2.1<|Bk (AG gs i)<|BJ s.st i
  let o:=cnt<|Ei (Be ca i) (CH s.mi i) (AG gs i).2.2.1<|Bk (AG gs i)<|BJ s.st i
  ⟨if a>Bk (AG gs i) (BJ s.st i) then CX gs s.st i 6 2 0 else s.st,s.mi.set i.toNat<|Jm (Be ca i) (CH s.mi i) (AG gs i).2.2.1<|Bk (AG gs i)<|BJ s.st i,
   if GA (Gk s.me i) a o=0 then s.me.set i.toNat (Hq (Gk s.me i) a o) else s.me,s.dw.set i.toNat a⟩
 else s
def DV (gs:aF) (ca:aXV) (s:DW):aC->DW
 |0=>s
 |k+1=>Fh gs ca (DV gs ca s k) k
def Ws {cs:aJ}{k:aC}{x:Cd}{j:aC}(hk:k<M cs):AZ (cs.set k x) (j:Y)=if j=k then x else AZ cs j:=by
 unfold AZ
 by_cases e:j=k
 ·grind
 ·grind
def Qx {cs:aJ}{k:aC}(hk:k<M cs):AZ cs (k:Y)=cs[k]:=by
 unfold AZ
 simp [hk]
def eU {cs:aJ}{os:aE}{ks:aP}{gs:aF}{bs:aQ}(h:B9 cs os ks gs bs=U) {k:aC}(hk:k<M cs) {t:Y}(ht:1<=t/\t<=1000):
  B9 (cs.set k<|GG (AZ cs k) t) os ks gs bs=true:=by
 have hm:(cs.set k<|GG (AZ cs k) t).map (·.1)=cs.map (·.1):=by
  rw [List.map_set]
  have:(GG (AZ cs k) t).1=(cs.map (·.1))[k]' A8:=by
   rw [Qx hk];simp [GG]
  rw [this,List.set_getElem_self]
 unfold B9 Lq vpB at h|-;rw [hm,C4];simp only [AY] at h|-;obtain ⟨h1,h2,h3,h4,h5⟩:=h;refine ⟨h1,h2,h3,?_,h5⟩;rw [DQ] at h4|-;intro j hj
 have hc:=h4 j hj
 rw [Ws hk];split
 ·rename_i e
  subst e;unfold F4 GG at*;simp only [AY] at hc|-;exact ⟨hc.1,B8.2 ht,hc.2.2⟩
 ·exact hc
def BL (l:aB):Prop:=∀x∈l,0<=x/\x<=255
def pz (x b:Y):Y:=IntKind.u32.wrap<|aMb ax x (IntKind.u32.wrap b)*16777619
def Sd (x:Y) (l:aB):Y:=l.foldl pz x
def PL (ps:aI):Y:=ps.foldl Sd 2166136261
def D6 (n:Y):aB:=[IntKind.u8.wrap<|n.fdiv<|2^24,IntKind.u8.wrap<|n.fdiv<|2^16,IntKind.u8.wrap<|n.fdiv<|2^8,IntKind.u8.wrap n]
def nm4 (a b c d:Y):Y:=Df ax (Df ax (Df ax (IntKind.u32.wrap<|IntKind.u32.wrap a*2^24)<|IntKind.u32.wrap<|IntKind.u32.wrap b*2^16)<|IntKind.u32.wrap<|IntKind.u32.wrap c*2^8)<|IntKind.u32.wrap d
def HD (l:aB):Y:=nm4 (gi l 0) (gi l 1) (gi l 2)<|gi l 3
def szL (d:aB):aB:=[IntKind.u8.wrap<|(M d:Y).fdiv<|2^8,IntKind.u8.wrap (M d:Y)]
def C0 (d:aB):aB:=80::(szL d++(D6 (PL [szL d,d])++d))
def Gy {n:Y}:IntKind.u8.wrap n=n%256:=aPi
def TF {n:Y}:IntKind.u32.wrap n=n%4294967296:=aPi
def axc (x b:Y):0<=pz x b/\pz x b<4294967296:=by unfold pz;rw [TF];omega
def axe {x:Y}(h:0<=x/\x<4294967296) (l:aB):0<=Sd x l/\Sd x l<4294967296:=by
 induction l generalizing x with
 |nil=>exact h
 |cons b l ih=>exact ih<|axc x b
def axd (ps:aI):0<=PL ps/\PL ps<4294967296:=by
 have:∀(ps:aI) (x:Y),0<=x/\x<4294967296->0<=ps.foldl Sd x/\ps.foldl Sd x<4294967296:=by
  intro ps
  induction ps with
  |nil=>intro x h;exact h
  |cons p ps ih=>intro x h;exact ih _<|axe h p
 exact this ps _ Ad
def j3 {a b k:aC}(h:b<2^k):a*2^k |||b=a*2^k+b:=by
 rw [Nat.mul_comm,<-Nat.two_pow_add_eq_or_of_lt h]
def uI {a b:aC}(ha:a<4294967296) (hb:b<4294967296):Df ax (a:Y) (b:Y)=((a |||b:aC):Y):=by
 have h:=Nat.or_lt_two_pow (n:=32) ha hb
 unfold Df;rw [TF]
 have e:∀n:aC,n<4294967296->(BitVec.ofInt (IntKind.bits ax) (n:Y)).toNat=n:=λn hn=>by
  show (BitVec.ofInt 32 (n:Y)).toNat=n
  grind
 rw [BitVec.toNat_or,e a ha,e b hb];omega
def agS {a b c d:Y}(ha:0<=a/\a<=255) (hb:0<=b/\b<=255) (hc:0<=c/\c<=255) (hd:0<=d/\d<=255):nm4 a b c d=a*16777216+b*65536+c*256+d:=by
 obtain ⟨a,rfl⟩:=QP ha.1;obtain ⟨b,rfl⟩:=QP hb.1;obtain ⟨c,rfl⟩:=QP hc.1;obtain ⟨d,rfl⟩:=QP hd.1;unfold nm4
 have e1:IntKind.u32.wrap (IntKind.u32.wrap (a:Y)*2^24)=((a*2^24:aC):Y):=aAS
 have e2:IntKind.u32.wrap (IntKind.u32.wrap (b:Y)*2^16)=((b*2^16:aC):Y):=aAS
 have e3:IntKind.u32.wrap (IntKind.u32.wrap (c:Y)*2^8)=((c*2^8:aC):Y):=aAS
 have e4:IntKind.u32.wrap (d:Y)=((d:aC):Y):=by rw [TF];omega
 rw [e1,e2,e3,e4,uI A0 A0,j3 A0,
  uI A0 A0,show a*2^24+b*2^16=(a*2^8+b)*2^16 by omega,j3 A0,
  uI A0 A0,show (a*2^8+b)*2^16+c*2^8=(a*2^16+b*2^8+c)*2^8 by omega,j3 A0]
 omega
def WU (n:Y):BL (D6 n):=by
 intro x hx;simp only [D6,B6,Bv,Bt] at hx;rcases hx with rfl|rfl|rfl|rfl<;>rw [Gy]<;>omega
def aKE {n:Y}(h:0<=n/\n<4294967296):HD (D6 n)=n:=by
 have e:HD (D6 n)=nm4 (IntKind.u8.wrap<|n.fdiv<|2^24) (IntKind.u8.wrap<|n.fdiv<|2^16) (IntKind.u8.wrap<|n.fdiv<|2^8) (IntKind.u8.wrap n):=rfl
 rw [e,agS cX cX cX cX,Gy,Gy,Gy,Gy,
  QN _ Ad,QN _ Ad,QN _ Ad]
 omega
def GD (b:aB) (f:aC):aC:=(gi b<|(f:Y)+1).toNat*256+(gi b<|(f:Y)+2).toNat
def rcF (b:aB) (f:aC):aM:=an (f+7<=M b)&&an (f+7+GD b f<=M b)
def HZ (b:aB) (f:aC):aB:=(b.drop<|f+7).take<|GD b f
def rcG (b:aB) (f:aC):aM:=rcF b f&&(PL [(b.drop<|f+1).take 2,HZ b f]==HD ((b.drop<|f+3).take 4))
def He (b:aB):aC->aC->List (List Int)×Nat×Bool
 |0,f=>([],f,U)
 |n+1,f=>if f<M b/\gi b (f:Y)=80 then (if rcG b f then (HZ b f::(He b n<|f+7+GD b f).1,(He b n<|f+7+GD b f).2) else ([],f,X)) else ([],f,U)
def XV {pre l:aB}{k:aC}:gi (pre++l) ((M pre+k:aC):Y)=l.getD k 0:=by
 unfold gi
 grind
def tI {pre l:aB}{k:aC}:(pre++l).drop (M pre+k)=l.drop k:=by
 simp_all
def MR (d:aB):M (C0 d)=7+M d:=by simp [C0,szL,D6];omega
def atY {pre rest d:aB}(hd:M d<=65535):let b:=pre++(C0 d++rest);gi b (M pre:Y)=80/\M pre<M b/\GD b (M pre)=M d/\HZ b (M pre)=d/\rcG b (M pre)=true:=by
 intro b
 have hl:M b=M pre+(7+M d+M rest):=by simp [b,MR]
 have g0:gi b (M pre:Y)=80:=XV (k:=0)
 have hn:GD b (M pre)=M d:=by
  have e1:gi b ((M pre:Y)+1)=IntKind.u8.wrap ((M d:Y).fdiv<|2^8):=XV (k:=1)
  have e2:gi b ((M pre:Y)+2)=IntKind.u8.wrap (M d:Y):=XV (k:=2)
  unfold GD;rw [e1,e2,Gy,Gy,QN _ Ad];omega
 have d7:b.drop (M pre+7)=d++rest:=by
  rw [tI]
  simp [C0,szL,D6]
 have hD:HZ b (M pre)=d:=by
  unfold HZ
  grind
 have d1:(b.drop<|M pre+1).take 2=szL d:=by
  rw [tI]
  simp [C0,szL]
 have d3:(b.drop<|M pre+3).take 4=D6 (PL [szL d,d]):=by
  rw [tI]
  simp [C0,szL,D6]
 refine ⟨g0,A0,hn,hD,?_⟩;unfold rcG rcF;rw [hn,hD,d1,d3,aKE<|axd _]
 simp;omega
def BR (ds:aI):aB:=ds.flatMap C0
def aHx {rest:aB}(hr:gi rest 0≠80):∀(ds:aI) (pre:aB) (n:aC),(∀d∈ds,M d<=65535)->M ds<n->
  He (pre++(BR ds++rest)) n (M pre)=(ds,M pre+M (BR ds),U)
 | [],pre,n,_,hn=>by
  obtain ⟨n,rfl⟩:∃m,n=m+1:=⟨n-1,A0⟩;simp only [BR,List.flatMap_nil,Ek,He];rw [AE]
  ·simp
  ·rintro ⟨_,h⟩
   rw [show ((M pre:aC):Y)=((M pre+0:aC):Y) by simp,XV] at h
   exact hr h
 |d::ds,pre,n,hd,hn=>by
  obtain ⟨n,rfl⟩:∃m,n=m+1:=⟨n-1,A0⟩
  have e:pre++(BR (d::ds)++rest)=pre++(C0 d++(BR ds++rest)):=by simp [BR]
  rw [e];obtain ⟨h1,h2,h3,h4,h5⟩:=atY (pre:=pre) (rest:=BR ds++rest)<|hd d AJ;simp only [He];rw [AD ⟨h2,h1⟩,AD h5,h3,h4]
  have e2:pre++(C0 d++(BR ds++rest))=(pre++C0 d)++(BR ds++rest):=AJ
  have e3:M pre+7+M d=M (pre++C0 d):=by simp [MR];omega
  rw [e2,e3,aHx hr ds (pre++C0 d) n (λx hx=>hd x A8) A8]
  simp [BR,MR];omega
abbrev Bo:Ty:=.pair A7<|.sl<|.int aw
abbrev Fl:=Int×List Int
def bc:qT (List Fl):=⟨⟩
def Gc (l:bc) (n:Y):Fl:=l.getD n.toNat (0,[])
def Ho (se:Y) (l:aB):aM:=letI a:=(M l:Y);decide (se>=1)&&(an (se<=512)&&(an (a>=se)&&(an (a<=4096)&&(a.tmod se==0))))
def NZ {se:Y}{l:aB}:Ho se l=U↔1<=se/\se<=512/\se<=(M l:Y)/\M l<=4096/\(M l:Y).tmod se=0:=by
 simp [Ho];omega
def FF (se:Y) (l:aB):aM:=Ho se l&&(((M l:Y).tdiv se).tmod 2==0&&an ((M l:Y)>=32))
def MX {se:Y}{l:aB}:FF se l=U↔Ho se l=U/\((M l:Y).tdiv se).tmod 2=0/\32<=M l/\M l<=4096/\1<=se:=by
 unfold FF;simp only [AY,Cl,Ac];refine ⟨λ⟨h1,h2,h3⟩=>⟨h1,h2,A0,(NZ.1 h1).2.2.2.1,(NZ.1 h1).1⟩,λ⟨h1,h2,h3,_,_⟩=>⟨h1,h2,A0⟩⟩
def Bp (l:aB) (w:Y):aB:=if w=0 then l.take (M l / 2) else (l.drop<|M l / 2).take (M l / 2)
def eQ (l:aB) (w:Y):M (Bp l w)=M l / 2:=by
 unfold Bp
 grind
def JW (l:aB) (w:Y):Y:=HD<|((Bp l w).drop 1).take 4
def Aw (l:aB):Y:=if gi (Bp l 0) 0=80 then (if gi (Bp l 1) 0=80 then (if JW l 1>JW l 0 then 1 else 0) else 0) else if gi (Bp l 1) 0=80 then 1 else 0
def IG (l:aB):Y:=if gi (Bp l 0) 0=80\/gi (Bp l 1) 0=80 then 0 else 4
def Dq (fl:aB) (a:Y) (d:aB):aC->List Int
 |0=>fl
 |k+1=>(Dq fl a d k).set (a+k).toNat<|Bn aw (gi (Dq fl a d k)<|a+k)<|gi d k
def Dw (se:Y) (fl:aB) (a:Y) (d:aB):bc:=(au<|M d+1).map λk=>(se,Dq fl a d k)
def FG (se:Y) (fl:aB) (a:Y) (d:aB):Y:=if (!Ho se fl ||an (a<0))=U then 1 else if a>(M fl:Y)-M d then 3 else 0
def F5 (fl:aB) (a:Y):aC->List Int
 |0=>fl
 |k+1=>(F5 fl a k).set (a+k).toNat 255
def erL (se:Y) (fl:aB) (s:Y):bc:=(au<|se.toNat+1).map λk=>(se,F5 fl (s*se) k)
def IU (se:Y) (fl:aB) (s:Y):Y:=if (!Ho se fl ||(an (s<0) ||an (s>=(M fl:Y).tdiv se)))=U then 1 else 0
def TE (fl:aB) (a:Y) (d:aB) (k:aC):M (Dq fl a d k)=M fl:=by
 induction k with
 |zero=>rfl
 |succ k ih=>simp [Dq,ih]
def ep (fl:aB) (a:Y) (k:aC):M (F5 fl a k)=M fl:=by
 induction k with
 |zero=>rfl
 |succ k ih=>simp [F5,ih]
def Kc {a b:aB}:BL (a++b)↔BL a/\BL b:=by
 unfold BL
 grind
def Qn {x:Y}{l:aB}:BL (x::l)↔(0<=x/\x<=255)/\BL l:=by
 unfold BL
 simp
def gw (k:aC):BL (aq k 255):=by
 intro x hx;rw [Sp] at hx;omega
def aKa {l:aB}(h:BL l) (i:aC) {x:Y}(hx:0<=x/\x<=255):BL (l.set i x):=by
 intro y hy;rcases Oa hy with h1|h1
 ·exact h y h1
 ·grind
def axF (x y:Y):0<=Bn aw x y/\Bn aw x y<=255:=by
 unfold Bn;rw [Gy];omega
def vJ {fl:aB}(h:BL fl) (a:Y) (d:aB) (k:aC):BL (Dq fl a d k):=by
 induction k with
 |zero=>exact h
 |succ k ih=>exact aKa ih _<|axF _ _
def aVG {fl:aB}(h:BL fl) (a:Y) (k:aC):BL (F5 fl a k):=by
 induction k with
 |zero=>exact h
 |succ k ih=>exact aKa ih _ Ad
def arj {x:Y}(h:0<=x/\x<=255):Bn aw 255 x=x:=by
 unfold Bn;rw [Gy];obtain ⟨n,rfl⟩:=QP h.1
 have e:(BitVec.ofInt (IntKind.bits aw) 255&&&BitVec.ofInt (IntKind.bits aw) (n:Y)).toNat=n:=by
  show (BitVec.ofInt 8 255&&&BitVec.ofInt 8 (n:Y)).toNat=n
  rw [show BitVec.ofInt 8 255=BitVec.allOnes 8 from rfl,BitVec.allOnes_and,BitVec.toNat_ofInt];omega
 omega
def aRq {pre post d:aB}(hd:BL d):∀k,k<=M d->Dq (pre++(aq (M d) 255++post)) (M pre:Y) d k=pre++(d.take k++(aq (M d-k) 255++post))
 |0,_=>by simp [Dq]
 | k+1,hk=>by
  simp only [Dq];rw [aRq hd k A0];obtain ⟨j,hj⟩:∃j,M d-k=j+1:=⟨M d-k-1,A0⟩
  have e1:(M pre:Y)+(k:Y)=((M pre+k:aC):Y):=A0
  have ht:M (d.take k)=k:=DK
  have e2:gi (pre++(d.take k++(aq (M d-k) 255++post))) ((M pre:Y)+k)=255:=by
   rw [e1,XV,DH,Gp A0,ht,ni,hj,Zr];rfl
  have e3:gi d (k:Y)=d[k]:=Im A0
  rw [e2,e3,arj<|hd _<|Gl _,e1,C2,nL _ _ A0,zU,nL _ _ A0,ht,ni,hj,Zr];rw [show M d-(k+1)=j by omega,Zx<|Nat.lt_of_succ_le hk]
  grind
def gT {pre post d:aB}(hd:BL d):Dq (pre++(aq (M d) 255++post)) (M pre:Y) d (M d)=pre++(d++post):=by
 rw [aRq hd _<|Au _];simp
def Dh (g:Y) (ds:aI) (k:aC):aB:=(80::D6 g)++(BR ds++aq k 255)
def JT (w:Y) (A O:aB):aB:=if w=0 then A++O else O++A
def aH5 (a b:aI):BR (a++b)=BR a++BR b:=by simp [BR]
def sQ (ds:aI):M (BR ds)=(ds.map λd=>7+M d).sum:=by
 induction ds with
 |nil=>rfl
 |cons d ds ih=>simp only [BR,nF,BG,ES,List.sum_cons,MR] at*;rw [ih]
def ate (ds:aI):7*M ds<=M (BR ds):=by
 induction ds with
 |nil=>simp [BR]
 |cons d ds ih=>simp only [BR,nF,BG,Bm,MR] at*;omega
def ay8 (d:aB):BL (szL d):=by
 intro x hx;simp only [szL,B6,Bv,Bt] at hx;rcases hx with rfl|rfl<;>rw [Gy]<;>omega
def aKA {d:aB}(h:BL d):BL (C0 d):=by
 unfold C0;rw [Qn,Kc,Kc];exact ⟨Ad,ay8 d,WU _,h⟩
def tX {ds:aI}(h:∀d∈ds,BL d):BL (BR ds):=by
 induction ds with
 |nil=>intro x hx;simp [BR] at hx
 |cons d ds ih=>
  have e:BR (d::ds)=C0 d++BR ds:=rfl
  rw [e,Kc];exact ⟨aKA<|h d AJ,ih λx hx=>h x A8⟩
def air (k:aC) (rest:aB) (h:gi rest 0≠80):gi (aq k 255++rest) 0≠80:=by
 cases k with
 |zero=>simpa using h
 |succ k=>simp [gi,Zr]
structure JI (fl:aB) (w g:Y) (ds:aI) (k:aC) (O:aB):Prop where
 eq:fl=JT w (Dh g ds k) O
 la:M (Dh g ds k)=1024
 lo:M O=1024
 bo:BL O
 hw:w=0\/w=1
 hg:0<=g/\g<4294967296
 old:gi O 0=80->HD ((O.drop 1).take 4)<g
 bd:∀d∈ds,BL d/\M d<=65535
def P2 (g:Y) (ds:aI) (k:aC):M (Dh g ds k)=5+M (BR ds)+k:=by
 simp [Dh,D6];omega
def aJs {g:Y}(hg:0<=g/\g<4294967296) (ds:aI) (k:aC):HD (((Dh g ds k).drop 1).take 4)=g:=by
 have:((Dh g ds k).drop 1).take 4=D6 g:=by simp [Dh,D6]
 rw [this,aKE hg]
def aGj {w:Y}{A O:aB}(hA:M A=1024) (hO:M O=1024) (hw:w=0\/w=1):Bp (JT w A O) w=A/\Bp (JT w A O) (1-w)=O:=by
 have hl:∀a b:aB,M a=1024->M b=1024->Bp (a++b) 0=a/\Bp (a++b) 1=b:=by
  intro a b ha hb
  have e:M (a++b) / 2=1024:=A8
  unfold Bp
  grind
 rcases hw with rfl|rfl
 ·exact hl A O hA hO
 ·have:=hl O A hO hA
  exact ⟨this.2,this.1⟩
namespace JI
variable {fl : List Int} {w g : Int} {ds : List (List Int)} {k : Nat} {O : List Int}
def len (h:JI fl w g ds k O):M fl=2048:=by
 rw [h.eq];unfold JT;split<;>simp [h.la,h.lo]
def bja (h:JI fl w g ds k O):BL (Dh g ds k):=by
 unfold Dh;rw [Kc,Kc,Qn];exact ⟨⟨Ad,WU _⟩,tX λd hd=>(h.bd d hd).1,gw _⟩
def FM (h:JI fl w g ds k O):BL fl:=by
 rw [h.eq];unfold JT;split
 ·rw [Kc];exact ⟨h.bja,h.bo⟩
 ·rw [Kc];exact ⟨h.bo,h.bja⟩
def jv (h:JI fl w g ds k O):FF 512 fl=true:=by
 rw [MX,NZ,h.len]
 decide
def ar (h:JI fl w g ds k O):Bp fl w=Dh g ds k:=by rw [h.eq];exact (aGj h.la h.lo h.hw).1
def ao (h:JI fl w g ds k O):Bp fl (1-w)=O:=by rw [h.eq];exact (aGj h.la h.lo h.hw).2
def gen (h:JI fl w g ds k O):JW fl w=g:=by unfold JW;rw [h.ar,aJs h.hg]
def cur (h:JI fl w g ds k O):Aw fl=w/\IG fl=0:=by
 have ha:=h.ar;have ho:=h.ao;have hgn:=h.gen
 have g80:gi (Dh g ds k) 0=80:=rfl
 have hold:gi (Bp fl<|1-w) 0=80->JW fl (1-w)<g:=by rw [ho];unfold JW;rw [ho];exact h.old
 unfold Aw IG;rcases h.hw with rfl|rfl
 ·have e:(1:Y)-0=1:=rfl
  rw [e] at hold;rw [ha,hgn];refine ⟨?_,A8⟩;rw [AD g80];split
  ·omega
  ·rfl
 ·have e:(1:Y)-1=0:=rfl
  rw [e] at hold;rw [ha,hgn];refine ⟨?_,A8⟩;split
  ·omega
  ·rfl
end JI
def F6 (fl:aB):List (List Int)×Nat×Bool:=He (Bp fl<|Aw fl) (M<|Bp fl<|Aw fl) 5
def By (se:Y) (fl:aB):Y:=if FF se fl=X then 1 else if IG fl≠0 then IG fl else if (F6 fl).2.2=U then 0 else 11
def lkC (fl:aB):aM:=((Bp fl<|Aw fl).drop (F6 fl).2.1).all λb=>b==255
def apF (se:Y) (fl d:aB):aM:=an (M d>65535) ||an (7+M d+(F6 fl).2.1>M fl / 2)
def Gj (fl:aB):Y:=Aw fl*((M fl / 2:aC):Y)+(F6 fl).2.1
def apB (fl d:aB):aB:=Dq fl (Gj fl+1) ((C0 d).drop 1)<|M<|(C0 d).drop 1
def Ht (se:Y) (fl d:aB):bc:=Dw se fl (Gj fl+1) ((C0 d).drop 1)++(Dw se (apB fl d) (Gj fl) [80]).drop 1
def B3 (x:Le):aB:=D6 x.1++(IntKind.u8.wrap x.2.1::IntKind.u8.wrap x.2.2.1::(D6 x.2.2.2.1++[IntKind.u8.wrap<|x.2.2.2.2.fdiv<|2^8,IntKind.u8.wrap x.2.2.2.2]))
def b4 (d:aB) (i:Y):Y:=gi d i*16777216+gi d (i+1)*65536+gi d (i+2)*256+gi d (i+3)
def Gb (d:aB):Le:=(b4 d 0,gi d 4,gi d 5,b4 d 6,gi d 10*256+gi d 11)
def KX (x:Le):M (B3 x)=12:=rfl
def jY (n:Y):0<=IntKind.u8.wrap n/\IntKind.u8.wrap n<=255:=cX
def uf (x:Le):BL (B3 x):=by
 unfold B3;rw [Kc,Qn,Qn,Kc,Qn,Qn];exact ⟨WU _,jY _,jY _,WU _,jY _,jY _,λx hx=>T7⟩
def aKn {n:Y}(h:0<=n/\n<4294967296):IntKind.u8.wrap (n.fdiv<|2^24)*16777216+IntKind.u8.wrap (n.fdiv<|2^16)*65536+IntKind.u8.wrap (n.fdiv<|2^8)*256+IntKind.u8.wrap n=n:=by
 rw [Gy,Gy,Gy,Gy,QN _ Ad,QN _ Ad,QN _ Ad];omega
def atG {x:Le}(h:DN x=U):Gb (B3 x)=x:=by
 obtain ⟨nu,co,am,fr,tk⟩:=x;obtain ⟨h1,h2,h3,h4,h5⟩:=Ka.1 h;simp only at h1 h2 h3 h4 h5
 have e1:b4 (B3 (nu,co,am,fr,tk)) 0=nu:=aKn (n:=nu) A0
 have e2:b4 (B3 (nu,co,am,fr,tk)) 6=fr:=aKn (n:=fr) A0
 have e3:gi (B3 (nu,co,am,fr,tk)) 4=co:=by show IntKind.u8.wrap co=co;rw [Gy];omega
 have e4:gi (B3 (nu,co,am,fr,tk)) 5=am:=by show IntKind.u8.wrap am=am;rw [Gy];omega
 have e5:gi (B3 (nu,co,am,fr,tk)) 10*256+gi (B3 (nu,co,am,fr,tk)) 11=tk:=by
  show IntKind.u8.wrap (tk.fdiv<|2^8)*256+IntKind.u8.wrap tk=tk
  rw [Gy,Gy,QN _ Ad];omega
 unfold Gb
 grind
def ldB (rs:aI):aM:=rs.all λd=>M d==12
def Cg (se:Y) (fl:aB):Y:=if (!(se==512) || !((M fl:Y)==2048))=U then 1 else if By se fl≠0 then By se fl else if ldB (F6 fl).1=U then (if B2 ((F6 fl).1.map Gb)=U then 0 else 9) else 9
def An (se:Y) (fl:aB):aL:=if Cg se fl=0 then (F6 fl).1.map Gb else []
namespace JI
variable {fl : List Int} {w g : Int} {ds : List (List Int)} {k : Nat} {O : List Int}
def lk (h:JI fl w g ds k O):F6 fl=(ds,5+M (BR ds),U):=by
 unfold F6;rw [h.cur.1,h.ar,h.la]
 have hp:=ate ds
 have hl:=h.la
 rw [P2] at hl
 have:=aHx (rest:=aq k 255) (by have:=air k [] Ad;simpa using this) ds (80::D6 g) 1024 (λd hd=>(h.bd d hd).2) A0
 exact this
def V7 (h:JI fl w g ds k O):By 512 fl=0:=by
 unfold By;rw [h.jv,h.cur.2,h.lk];rfl
def cl (h:JI fl w g ds k O):lkC fl=true:=by
 unfold lkC;rw [h.lk,h.cur.1,h.ar,BO];intro x hx
 have e:(Dh g ds k).drop (5+M (BR ds))=aq k 255:=by
  unfold Dh;rw [<-Cw];exact List.drop_left' (by simp [D6];omega)
 simp only [e,Sp] at hx
 simp [hx.2]
def half (h:JI fl w g ds k O):M fl / 2=1024:=by rw [h.len]
def full (h:JI fl w g ds k O) {d:aB}(hd:M d<=65535) (hk:7+M d<=k):apF 512 fl d=false:=by
 unfold apF;rw [h.half,h.lk]
 have hl:=h.la
 rw [P2] at hl
 simp;omega
def aqB (g:Y) (ds:aI) {k:aC}(n:aC) (hk:n<=k):Dh g ds k=((80::D6 g)++BR ds)++(aq n 255++aq (k-n) 255):=by
 unfold Dh
 simp_all
def split (h:JI fl w g ds k O) (n:aC) (hk:n<=k):∃pre post,fl=pre++(aq n 255++post)/\(M pre:Y)=Gj fl/\
  ∀x:aB,pre++(x++post)=JT w (((80::D6 g)++BR ds)++(x++aq (k-n) 255)) O:=by
 have hP:Gj fl=w*1024+((5+M (BR ds):aC):Y):=by unfold Gj;rw [h.half,h.cur.1,h.lk];rfl
 have h5:(M ((80::D6 g)++BR ds):Y)=((5+M (BR ds):aC):Y):=by simp [D6];omega
 have he:=h.eq
 rw [aqB g ds n hk] at he;rcases h.hw with rfl|rfl
 ·refine ⟨(80::D6 g)++BR ds,aq (k-n) 255++O,?_,A0,λx=>?_⟩
  ·rw [he];unfold JT;rw [AD rfl];simp only [Cw]
  ·unfold JT;rw [AD rfl];simp only [Cw]
 ·refine ⟨O++((80::D6 g)++BR ds),aq (k-n) 255,?_,by rw [hP,BG];have:=h.lo;omega,λx=>?_⟩
  ·rw [he];unfold JT;rw [AE Ad];simp only [Cw]
  ·unfold JT;rw [AE Ad];simp only [Cw]
def app (h:JI fl w g ds k O) {d:aB}(hb:BL d) (hd:M d<=65535) (hk:7+M d<=k):
  JI (Dq (apB fl d) (Gj fl) [80] 1) w g (ds++[d]) (k-(7+M d)) O:=by
 obtain ⟨pre,post,e1,e2,e3⟩:=h.split (7+M d) hk
 have hp:C0 d=80::(C0 d).drop 1:=rfl
 have hl:=MR d
 have hby:BL ((C0 d).drop 1):=by have:=aKA hb;rw [hp,Qn] at this;exact this.2
 have eA:apB fl d=pre++(aq 1 255++((C0 d).drop 1++post)):=by
  unfold apB
  have:=gT (pre:=pre++[255]) (post:=post) (d:=(C0 d).drop 1) hby
  rw [<-e2]
  have e9:(M ((pre++[255]:aB)):Y)=(M pre:Y)+1:=AJ
  rw [e9] at this
  have e0:fl=pre++[255]++(aq (M<|(C0 d).drop 1) 255++post):=by
   grind
  rw [<-e0] at this;rw [this];simp
 have eB:Dq (apB fl d) (Gj fl) [80] 1=pre++(C0 d++post):=by
  rw [eA,<-e2]
  have:=gT (pre:=pre) (post:=(C0 d).drop 1++post) (d:=[80]) aQw
  grind
 have eJ:Dh g (ds++[d]) (k-(7+M d))=((80::D6 g)++BR ds)++(C0 d++aq (k-(7+M d)) 255):=by
  unfold Dh;rw [aH5,show BR [d]=C0 d by simp [BR]]
  simp only [Cw]
 refine ⟨by rw [eB,e3,eJ],?_,h.lo,h.bo,h.hw,h.hg,h.old,?_⟩
 ·have:=h.la
  rw [P2] at this;rw [P2,aH5,BG,show BR [d]=C0 d by simp [BR],hl];omega
 ·intro x hx
  rw [Bf,Hz] at hx;rcases hx with hx|rfl
  ·exact h.bd x hx
  ·exact ⟨hb,hd⟩
end JI
def aId (se:Y) (fl d:aB) (y:Fl):(Ht se fl d).getLastD y=(se,Dq (apB fl d) (Gj fl) [80] 1):=by
 unfold Ht Dw;rw [show au (M ([80]:aB)+1)=[0,1] from rfl]
 simp
def aXt {fl:aB}{w g:Y}{ls:aL}{k:aC}{O:aB}(h:JI fl w g (ls.map B3) k O) (hv:B2 ls=U):Cg 512 fl=0/\An 512 fl=ls:=by
 have h1:(ls.map B3).map Gb=ls:=by
  rw [HM]
  have:=(GP hv).2
  calc ls.map (Gb∘B3)=ls.map id:=Jo (λx hx=>atG<|this x hx)
   _=ls:=VE _
 have h2:ldB (ls.map B3)=true:=by
  unfold ldB;rw [BO];intro d hd;obtain ⟨x,_,rfl⟩:=FP.1 hd
  simp [KX]
 have h3:Cg 512 fl=0:=by
  unfold Cg;rw [h.V7,h.lk,h.len];simp only [h2,h1,hv];rfl
 refine ⟨h3,?_⟩;unfold An
 rwa [AD h3,h.lk]
section
variable {cs : List Cd} {os : List ByteArray} {ks : List Ko} {gs : List Ch} {bs : List Ba} {l : List Le} {rs : List Ra} {d : List Dm} {t n : Int}
structure NwL (gs:aF) (am:aB) (t n:Y) (m:aL):Prop where
 at_:∀k:Y,0<=k->k<(M m:Y)->Ap m k=(n+k,(Ap m k).2.1,gi am (Ap m k).2.1,t,12)/\(0<=(Ap m k).2.1/\(Ap m k).2.1<(M gs:Y))/\Ce (AG gs (Ap m k).2.1)<gi am (Ap m k).2.1
 up:∀k:Y,1<=k->k<(M m:Y)->(Ap m (k-1)).2.1<(Ap m k).2.1
def Wk {m:aL}{x:Le}{k:Y}(h0:0<=k):Ap (m++[x]) k=if k<(M m:Y) then Ap m k else if k=(M m:Y) then x else (0,0,0,0,0):=by
 unfold Ap;rw [DH,DH];split
 ·grind
 ·rw [Gp A0]
  split
  ·rw [show k.toNat-M m=0 by omega]
   rfl
  ·rw [Su A8]
   rfl
def jM {am:aB}:∀ {K:aC},K<=M gs->NwL gs am t n (HL gs l t n am K)/\∀x∈HL gs l t n am K,x.2.1<(K:Y)
 |0,_=>⟨⟨λk h0 h1=>aR8,λk h0 h1=>aR8⟩,λx hx=>T7⟩
 | K +1,h=>by
  obtain ⟨⟨h1,h2⟩,h3⟩:=jM (am:=am) (K:=K) A0;rw [HL];split
  ·rename_i hn
   have hf:=ah7 hn
   refine ⟨⟨λk k0 k1=>?_,λk k0 k1=>?_⟩,λx hx=>?_⟩
   ·simp only [BG,Bm,C3] at k1
    rw [Wk k0];split
    ·grind
    ·rename_i hk
     have e:k=(M (HL gs l t n am K):Y):=A0
     rw [AD e,e]
     grind
   ·simp only [BG,Bm,C3] at k1
    rw [Wk A0,Wk A0,AD (show k-1<(M (HL gs l t n am K):Y) by omega)]
    split
    ·grind
    ·rename_i hk
     rw [AD (show k=(M (HL gs l t n am K):Y) by omega)]
     exact h3 _<|Ll A0 A0
   ·rw [Bf,Hz] at hx
    rcases hx with hx|rfl
    ·have:=h3 x hx;omega
    ·simp only;omega
  ·rw [Gm]
   exact ⟨⟨h1,h2⟩,λx hx=>by have:=h3 x hx;omega⟩
def aI0:B2 l=U↔M l<=64/\∀k:Y,0<=k->k<(M l:Y)->DN (Ap l k)=U/\(k=0\/KA (Ap l<|k-1) (Ap l k)=U):=by
 unfold B2;rw [AY,Ac,DQ];refine and_congr_right λ_=>⟨λh k k0 k1=>?_,λh j hj=>?_⟩
 ·have:=h k.toNat A0
  rw [Bs k0] at this;unfold HC at this;rw [AY,CS,Ac] at this;exact this
 ·obtain ⟨h1,h2⟩:=h j A0 hj
  unfold HC
  grind
def aGp {x:Le}(h:B2 l=U) (hx:DN x=U) (hl:M l<64) (hf:M l=0\/KA (Ap l<|(M l:Y)-1) x=U):B2 (l++[x])=true:=by
 rw [aI0] at h|-;refine ⟨A8,λk k0 k1=>?_⟩
 simp only [BG,Bm,C3] at k1;rw [Wk k0];split
 ·rename_i hk
  obtain ⟨h1,h2⟩:=h.2 k k0 hk;refine ⟨h1,?_⟩;rcases h2 with h2|h2
  ·grind
  ·by_cases e:k=0
   ·exact .inl e
   ·rw [Wk A0,AD A0]
    grind
 ·rename_i hk
  have e:k=(M l:Y):=A0
  rw [AD e];refine ⟨hx,?_⟩;rcases hf with hf|hf
  ·omega
  ·by_cases e0:k=0
   ·grind
   ·rw [Wk A0,AD A0,e]
    grind
structure Fit (l:aL) (n t:Y):Prop where
 les:B2 l=U
 last:M l=0\/((Ap l ((M l:Y)-1)).1<n/\(Ap l ((M l:Y)-1)).2.2.2.1<=t)
def Fit.mono {n' t':Y}(h:Fit l n t) (hn:n<=n') (ht:t<=t'):Fit l n' t':=⟨h.les,by
 rcases h.last with h1|h1
 ·exact .inl h1
 ·exact .inr A0⟩
def aXv {b:Y}{j:Y}(hj:0<=j):∀(l:aL) (o:aB),(∀x∈l,0<=x.2.1/\x.2.1<(M o:Y))->gi o j<=b->(∀x∈l,x.2.1=j->x.2.2.1<=b)->gi (l.foldl Jh o) j<=b
 | [],_,_,h,_=>h
 | x::l,o,hc,h,hx=>by
  have hx0:=hc x AJ
  refine aXv hj l _ (λy hy=>aQr) ?_ λy hy=>hx y A8
  unfold Jh;rw [JC hx0.1 hx0.2 hj];split
  ·rename_i e
   have:=hx x AJ e.symm
   rw [<-e];exact NG
  ·exact h
def aXw {j:Y}(hj:0<=j):∀(l:aL) (o:aB),(∀x∈l,0<=x.2.1/\x.2.1<(M o:Y))->gi o j<=gi (l.foldl Jh o) j/\∀x∈l,x.2.1=j->x.2.2.1<=gi (l.foldl Jh o) j
 | [],_,_=>⟨Cb _,λx hx=>T7⟩
 | x::l,o,hc=>by
  rw [KK]
  have hx0:=hc x AJ
  obtain ⟨h1,h2⟩:=aXw hj l (Jh o x) λy hy=>aQr
  have h3:gi o j<=gi (Jh o x) j/\(x.2.1=j->x.2.2.1<=gi (Jh o x) j):=by
   unfold Jh;rw [JC hx0.1 hx0.2 hj];split
   ·rename_i e
    rw [<-e];exact NG
   ·rename_i e
    omega
  refine ⟨A0,λy hy e=>?_⟩
  rcases B6.1 hy with rfl|hy
  ·have:=h3.2 e
   omega
  ·grind
def aW3 (hv:B2 l=U) (hb:below (M gs) l=U):∀x∈l.filter (Fc t),0<=x.2.1/\x.2.1<(M (aq (M gs) (0:Y)):Y):=λx hx=>by
 have hx:=(Ck.1 hx).1
 have h1:=Ka.1<|(GP hv).2 x hx
 have h2:=DJ<|BO.1 hb x hx
 rw [CV];omega
def aKG {b j:Y}(hv:B2 l=U) (hb:below (M gs) l=U) (hj:0<=j) (b0:0<=b) (h:∀x∈l,Fc t x=U->x.2.1=j->x.2.2.1<=b):gi (GY (M gs) l t) j<=b:=
 aXv hj _ _ (aW3 hv hb) (by rw [Jx];exact b0) (λx hx e=>h x (Ck.1 hx).1 (Ck.1 hx).2 e)
def uT (hv:B2 l=U) (hb:below (M gs) l=U) {x:Le}(hx:x∈l) (ha:Fc t x=U):x.2.2.1<=gi (GY (M gs) l t) x.2.1:=by
 have h1:=Ka.1<|(GP hv).2 x hx
 exact (aXw h1.2.1.1 _ _<|aW3 hv hb).2 x (Ck.2 ⟨hx,ha⟩) rfl
end
abbrev aow (a b:Le):Prop:=a.1<b.1/\a.2.2.2.1<=b.2.2.2.1
def uD {l:aL}:B2 l=U↔M l<=64/\(∀x∈l,DN x=U)/\l.Pairwise aow:=by
 refine ⟨λh=>⟨(GP h).1,(GP h).2,aGq h⟩,λ⟨h1,h2,h3⟩=>aI0.2 ⟨h1,λk k0 k1=>⟨h2 _<|Ll k0 k1,?_⟩⟩⟩
 by_cases e:k=0
 ·exact .inl e
 ·right
  have:=my.1 h3 (k-1).toNat k.toNat A0 A0 A0
  rw [<-Mh,<-Mh] at this;unfold KA;rw [Ci (p:=(Ap l k).1>_) this.1,Ci (p:=(Ap l k).2.2.2.1>=_) this.2];rfl
def rP {l m:aL}(h:B2 l=U) (hs:m.Sublist l):B2 m=true:=by
 rw [uD] at h|-
 grind
def grS (o:aL) (x:Le):aL:=if Fa o x=0 then GS o x else o
def y6 {o:aL}{x:Le}(h:B2 o=U):B2 (grS o x)=U/\(grS o x=o\/grS o x=o++[x]):=by
 unfold grS;split
 ·rename_i e
  have e2:GS o x=o++[x]:=by unfold GS;rw [AD e]
  rw [e2];refine ⟨?_,.inr rfl⟩;unfold Fa at e;split at e
  ·rename_i c
   rw [AY] at c;split at e
   ·omega
   ·rename_i c2
    split at e
    ·omega
    ·rename_i c3
     have:=(GP h).1
     refine aGp h c.2 A0 ?_
     by_cases q:M o=0
     ·exact .inl q
     ·right
      grind
  ·omega
 ·grind
def ckO (m:Y) (e:Ld):aM:=an (e.1<=m)&&(an (e.2.1<=m)&&an (e.2.2<=m))
def ckN (cs:aJ) (L:aW) (k:aC):aM:=D5 k λo=>ckO (CW<|AZ cs o)<|BT L o.toNat
def gLi (l:aW) (i:Y):Ld:=gx (e:=.pair A7 Ag) l i
def MF (m:Y) (e:Ld) (t:Y):aM:=(an (t>0) ||an (e.1<=m))&&((an (t>1) ||an (e.2.1<=m))&&(an (t>2) ||an (e.2.2<=m)))
def aoM {m:Y}{e:Ld}:MF m e 0=ckO m e:=by simp [MF,ckO]
def DO (cs:aJ) (gs:aF) (m:aB):aM:=ckN cs (Iy cs gs m<|M gs)<|M cs
section
variable {cs : List Cd} {os : List ByteArray} {ks : List Ko} {gs : List Ch} {bs : List Ba} {l : List Le} {rs : List Ra} {d : List Dm} {t n : Int}
def fh {m:aB}(hs:B9 cs os ks gs bs=U) (hm:∀k:aC,k<M gs->0<=gi m k/\gi m k<=80):DO cs gs m=U↔∀o:aC,o<M cs->∀p:Y,(p=0\/p=1\/p=2)->ED m (C1 gs p<|Ct cs gs o<|M gs)<=CW (AZ cs o):=by
 have gl:=(Cz.1 hs).1.2.2.2.2.1
 have hat:=(xo (fI hs) (fJ hs) A0 hm (M gs)<|Au _).2
 unfold DO ckN;rw [DQ]
 constructor
 ·intro h o ho p hp
  have h1:=h o A0
  rw [C2,hat o ho] at h1;unfold ckO ldO at h1;simp only [AY,Ac] at h1;rcases hp with rfl|rfl|rfl
  ·exact h1.1
  ·exact h1.2.1
  ·exact h1.2.2
 ·intro h o ho
  rw [C2,hat o A0];unfold ckO ldO
  grind
def vA {a b:aB}:∀ {L:aB},(∀k∈L,gi a k<=gi b k)->ED a L<=ED b L
 | [],_=>Cb _
 |k::L,h=>by
  have h1:=h k AJ
  have h2:=vA (a:=a) (b:=b) (L:=L) λj hj=>h j<|NB _ hj
  simp only [ED];omega
def aRa {a al am:aB}:∀ {L:aB},(∀k∈L,gi a k<=mx (gi al k) (gi am k))->ED a L<=IM al am L
 | [],_=>by simp [ED,IM]
 |k::L,h=>by
  have h1:=h k AJ
  have h2:=aRa (a:=a) (al:=al) (am:=am) (L:=L) λj hj=>h j<|NB _ hj
  rw [TN];simp only [ED];omega
def aHL {c:aC}{p:Y}(hp:p=0\/p=1\/p=2) (hl:M (C1 gs p<|Ct cs gs c<|M gs)>0):∀ {k:aC},c<k->(CW<|AZ cs c,C1 gs p<|Ct cs gs c<|M gs)∈D3 cs gs k
 |0,h=>A0
 | k+1,h=>by
  rw [D3,Bf]
  by_cases e:c=k
  ·right
   unfold cx
   have:(CW<|AZ cs c,C1 gs p<|Ct cs gs c<|M gs)∈rowP cs gs c p:=by
    unfold rowP;rw [AD hl]
    simp
   rcases hp with rfl|rfl|rfl
   ·grind
   ·grind
   ·grind
  ·exact .inl<|aHL hp hl A0
def Qr {j:Y}(j0:0<=j) (j1:j<(M gs:Y)):gi (D4 gs l t) j=mx (Ce<|AG gs j) (gi (GY (M gs) l t) j):=NQ j0 j1
def Ie {l2:aL}{t2:Y}(hs:B9 cs os ks gs bs=U) (hv:B2 l2=U) {j:Y}(j0:0<=j) (j1:j<(M gs:Y)):0<=gi (D4 gs l2 t2) j/\gi (D4 gs l2 t2) j<=80:=by
 have hch:chW (AG gs j)=true:=by
  have:=NU hs j0 j1
  unfold G7 at this
  grind
 have hc:=iE hch
 have h:=kH (a:=0) (b:=80) (j:=j) Ad<|uU (t:=t2) (m:=M gs) hv
 rw [Qr j0 j1];exact NG
end
def isW (se:Y) (fl:aB) (s:Y):aM:=!(((fl.drop (s*se).toNat).take se.toNat).all λb=>b==255)
def G3 (se:Y) (f0:aB) (s:Y):aC->List Fl×List Int->List Fl×List Int
 |0,a=>a
 |n+1,a=>G3 se f0 (s+1) n (if isW se f0 s=U then (a.1++(erL se a.2 s).drop 1,F5 a.2 (s*se) se.toNat) else a)
def rwF (fl:aB) (ds:aI):aM:=an (5+(ds.map λd=>7+M d).sum<=M fl / 2)&&ds.all (λd=>an<|M d<=65535)
def GC (se:Y) (fl:aB) (ds:aI):Y:=if By se fl≠0 then By se fl else if (!rwF fl ds ||(JW fl (Aw fl)==4294967295))=U then 10 else 0
def Hf (se:Y) (fl:aB):List Fl×List Int:=letI a:=((M fl / 2:aC):Y);G3 se fl ((1-Aw fl)*a.tdiv se) (a.tdiv se).toNat ([(se,fl)],fl)
def HF (fl:aB):Y:=(1-Aw fl)*((M fl / 2:aC):Y)
def Eh (fl:aB) (ds:aI):aB:=D6 (JW fl (Aw fl)+1)++BR ds
def rwP (se:Y) (fl:aB) (ds:aI):aB:=Dq (Hf se fl).2 (HF fl+1) (Eh fl ds)<|M<|Eh fl ds
def GB (se:Y) (fl:aB) (ds:aI):bc:=if GC se fl ds=0 then (Hf se fl).1++((Dw se (Hf se fl).2 (HF fl+1)<|Eh fl ds).drop 1++(Dw se (rwP se fl ds) (HF fl) [80]).drop 1) else []
def Ez (se:Y) (fl d:aB):Y:=if By se fl≠0 then By se fl else if apF se fl d=U then 10 else if lkC fl=U then 0 else GC se fl ((F6 fl).1++[d])
def Hs (se:Y) (fl d:aB):bc:=if By se fl≠0 then [] else if apF se fl d=U then [] else if lkC fl=U then Ht se fl d else GB se fl ((F6 fl).1++[d])
def IS (l:aL) (x:Le) (t:Y):aI:=letI a:=(Ap l<|(M l:Y)-1);((BX l t).map B3)++((if M l>0/\(M (BX l t)=0\/(Ap (BX l t)<|(M (BX l t):Y)-1).1≠a.1) then [B3 a] else [])++[B3 x])
def Hd (l:aL) (x:Le):aM:=letI a:=(Ap l<|(M l:Y)-1);decide (M l>0)&&(an (x.1<=a.1) ||an (x.2.2.2.1<a.2.2.2.1))
def EO (se:Y) (fl:aB) (x:Le) (t:Y):Y:=
 if Cg se fl≠0 then Cg se fl else if (!DN x || !inB t 0 1100000)=U then 1 else if Hd (An se fl) x=U then 12 else
 if Ez se fl (B3 x)≠10 then Ez se fl (B3 x) else GC se fl (IS (An se fl) x t)
def Cu (se:Y) (fl:aB) (x:Le) (t:Y):bc:=
 if Cg se fl≠0 then [] else if (!DN x || !inB t 0 1100000)=U then [] else if Hd (An se fl) x=U then [] else
 if Ez se fl (B3 x)≠10 then Hs se fl (B3 x) else GB se fl (IS (An se fl) x t)
def Iw (se:Y) (fl:aB):Y:=if Cg se fl≠0 then Cg se fl else if M (An se fl)=0 then 0 else if (Ap (An se fl)<|(M (An se fl):Y)-1).1=1000000 then 10 else 0
def Jl (se:Y) (fl:aB):Y:=letI a:=(Ap (An se fl)<|(M (An se fl):Y)-1);if Cg se fl≠0 then 0 else if M (An se fl)=0 then 1 else if a.1=1000000 then 0 else a.1+1
structure SN where
 ls:aL
 se:Y
 fl:aB
 nx:Y
 lk:aXP
def Tv (t:Y) (x:Le):Lk:=(t+(7*t+3*x.2.1).tmod 5,x)
def FD (t:Y) (s:SN) (x:Le):SN:=
 if Fa s.ls x=0/\EO s.se s.fl x t=0 then
  ⟨GS s.ls x,(Gc (Cu s.se s.fl x t)<|(M (Cu s.se s.fl x t):Y)-1).1,(Gc (Cu s.se s.fl x t)<|(M (Cu s.se s.fl x t):Y)-1).2,x.1+1,s.lk++[Tv t x]⟩
 else s
def EN (t:Y) (xs:aL) (s:SN):aC->SN
 |0=>s
 |k+1=>FD t (EN t xs s k)<|Ap xs k
def Dx (l:aL) (t:Y):aL:=if DT l t=0 then BX l t else l
namespace PK
variable (p : PK)
def EG:aJ:=E6 p.cs p.tg<|M p.tg
def dE:Y:=deE p.EG p.os p.ks p.gs p.bs (Dx p.ls p.tk) p.ra p.dm p.tk p.nx
def dR:bw:=deR p.EG p.os p.ks p.gs p.bs (Dx p.ls p.tk) p.ra p.dm p.tk p.nx
def dL:aL:=deL p.EG p.os p.ks p.gs p.bs (Dx p.ls p.tk) p.ra p.dm p.tk p.nx
def Gf:SN:=⟨Dx p.ls p.tk,p.se,p.fl,p.nx,p.lk⟩
def sn1:SN:=EN p.tk p.dL p.Gf<|M p.dL
def AK:PK:=if p.up=X then p else if p.dE≠0 then {p with ls:=Dx p.ls p.tk} else {p with ra:=p.dR,ls:=p.sn1.ls,se:=p.sn1.se,fl:=p.sn1.fl,nx:=p.sn1.nx,lk:=p.sn1.lk}
def KD:PK:={p with st:=LH p.gs p.lk p.tk p.st<|M p.lk,lk:=p.lk.filter λl=>an<|l.1>p.tk}
def dD:PK:={p with st:=JS p.gs p.dr p.tk p.st<|M p.dr}
def dw:DW:=DV p.gs p.ca ⟨p.st,p.mi,p.me,aq (M p.gs) 0⟩<|M p.gs
def BU:PK:={p with st:=p.dw.st,mi:=p.dw.mi,me:=p.dw.me}
end PK
def Cp (gs:aF) (tg:aB) (am:aB) (cs:aJ):aC->List Cd
 |0=>cs
 |k+1=>if gi tg k>=(AZ (Cp gs tg am cs k) k).2.2.1 then Cp gs tg am cs k else
  if (an (M am=M gs)&&DO ((Cp gs tg am cs k).set k<|GG (AZ (Cp gs tg am cs k) k)<|gi tg k) gs am)=U then (Cp gs tg am cs k).set k (GG (AZ (Cp gs tg am cs k) k)<|gi tg k) else Cp gs tg am cs k
namespace PK
variable (p : PK)
def Jj:aB:=if JY p.ls (M p.gs) (p.tk+1)=0 then D4 p.gs p.ls (p.tk+1) else []
def It:PK:={p with cs:=if p.up=X then p.cs else Cp p.gs p.tg p.Jj p.cs (M p.tg)}
def endP:PK:={p with tk:=p.tk+1}
def Ah:PK:=p.AK.KD.dD
def BZ:PK:=p.Ah.BU.It.endP
def Fu:aB:=p.Ah.dw.dw
def JM:Y:=if p.tk=1000000 then 15 else 0
end PK
namespace PK
variable (p : PK) (n m : Int) (c : Ca) (d : Dm)
def isC:aM:=inB n 0<|(M p.gs:Y)-1
def GR:Y:=if p.isC n=X then 1 else if (!GI c || !HK d)=U then 1 else if ((Be p.ca n).2.2.1 !=0 ||(BJ p.st n).1 !=0)=U then 6 else 0
def aCE:bf:=CX p.gs (CX p.gs (CX p.gs (CX p.gs p.st n 1 0 0) n 3 0 0) n 4 1 0) n 5 0 0
def Nr:PK:={p with ca:=p.ca.set n.toNat c,mi:=p.mi.set n.toNat ([],0,0),dm:=p.dm.set n.toNat d,st:=p.aCE n}
def JN:Y:=if p.isC n=X then 1 else if (Be p.ca n).2.2.1=0 then 4 else 0
def Pr:PK:={p with ca:=p.ca.set n.toNat (0,0,0,0,0),mi:=p.mi.set n.toNat ([],0,0),dm:=p.dm.set n.toNat (X,0,0,9),st:=CX p.gs (CX p.gs p.st n 6 0 0) n 2 0 0}
def Nt:Y:=if p.isC n=X then 1 else 0
def kO:PK:={p with lk:=p.lk.filter λl=>l.2.2.1 !=n}
def Nv:Y:=if p.up=X then 6 else 0
def Ur:PK:={p with up:=X,ls:=[]}
def Fv:Y:=if p.up=U then 6 else if Cg p.se p.fl≠0 then Cg p.se p.fl else if DT (An p.se p.fl) p.tk≠0 then DT (An p.se p.fl) p.tk else Iw p.se p.fl
def UK:PK:={p with up:=U,ls:=BX (An p.se p.fl) p.tk,nx:=Jl p.se p.fl,ra:=aq (M p.gs) (0,0)}
def Np:Y:=if p.isC n=X then 1 else sE (AG p.gs n) (BJ p.st n) 6 1 0
def aXk:PK:={p with st:=CX p.gs p.st n 6 1 0}
def LD:PK:={p with tg:=p.tg.set n.toNat m}
def IF:Y:=if (!inB n 0 ((M p.cs:Y)-1) || !inB m 1 (AZ p.cs n).2.2.1)=U then 1 else if DO (p.LD n m).EG p.gs (Bq p.gs)=X then 13 else 0
end PK
def Eu (p:PK):aM:=(B9 p.cs p.os p.ks p.gs p.bs&&inB p.tk 0 1000000)&&((an (M p.st=M p.gs)&&(an (M p.ca=M p.gs)&&(an (M p.mi=M p.gs)&&(an (M p.me=M p.gs)&&(an (M p.dm=M p.gs)&&an (M p.dr=M p.gs))))))&&
 (an (M p.tg=M p.cs)&&(D5 (M p.tg) (λk=>inB (gi p.tg k) 1 (AZ p.cs k).2.2.1)&&(p.dr.all (λx=>inB x (-200) 200)&&p.lk.all (λl=>inB l.2.2.1 0<|(M p.gs:Y)-1)))))
structure EV where
 (ek en em:Y)
 c:Ca
 d:Dm
def PK0:PK:=⟨[],[],[],[],[],0,X,[],0,[],[],0,[],[],[],[],[],[],[],[]⟩
def Br (p:PK) (e:EV):Y:=if Eu p=X then 1 else if e.ek=1 then p.JM else if e.ek=2 then p.GR e.en e.c e.d else if e.ek=3 then p.JN e.en else if e.ek=4 then p.Nt e.en else if e.ek=5 then p.Nv else if e.ek=6 then p.Fv else if e.ek=7 then p.Np e.en else if e.ek=8 then p.IF e.en e.em else 9
def BN (p:PK) (e:EV):PK:=if Br p e≠0 then PK0 else if e.ek=1 then p.BZ else if e.ek=2 then p.Nr e.en e.c e.d else if e.ek=3 then p.Pr e.en else if e.ek=4 then p.kO e.en else if e.ek=5 then p.Ur else if e.ek=6 then p.UK else if e.ek=7 then p.aXk e.en else p.LD e.en e.em
def D8 (p:PK) (e:EV):aB:=if Br p e≠0 then [] else if e.ek=1 then p.Fu else []
def HW (cs:aJ) (os:aE) (ks:aP) (gs:aF) (bs:aQ) (dr:aB):Y:=
 if B9 cs os ks gs bs=X\/M dr≠M gs then 1 else if dr.all (λx=>inB x (-200) 200)=X then 1 else if DO cs gs (Bq gs)=X then 13 else 0
def Eb:aB:=Dh 0 [] 1019++aq 1024 255
def newP (cs:aJ) (os:aE) (ks:aP) (gs:aF) (bs:aQ) (dr:aB):PK:=if HW cs os ks gs bs dr≠0 then PK0 else
 ⟨cs,os,ks,gs,bs,0,U,[],512,Eb,aq (M gs) (0,0),1,aq (M gs) (0,0,0,X),aq (M gs) (0,0,0,0,0),aq (M gs) ([],0,0),(G2<|M gs).map λk=>(k+1,0,X),aq (M gs) (X,0,0,9),[],dr,cs.map λc=>c.2.2.1⟩
structure VP (p:PK):Prop where
 site:B9 p.cs p.os p.ks p.gs p.bs=U
 tk:0<=p.tk/\p.tk<=1000000
 st:M p.st=M p.gs
 ca:M p.ca=M p.gs
 mi:M p.mi=M p.gs
 me:M p.me=M p.gs
 dm:M p.dm=M p.gs
 dr:M p.dr=M p.gs
 Ew:M p.tg=M p.cs
 tg:∀k:aC,k<M p.tg->1<=gi p.tg k/\gi p.tg k<=(AZ p.cs k).2.2.1
 dr8:p.dr.all (λx=>inB x (-200) 200)=U
 lk:∀l∈p.lk,0<=l.2.2.1/\l.2.2.1<(M p.gs:Y)
def WH {p:PK}:Eu p=U↔VP p:=by
 unfold Eu;simp only [AY,Ac,B8,DQ]
 constructor
 ·rintro ⟨⟨h1,h2⟩,⟨h3,h4,h5,h6,h7,h8⟩,h9,h10,h11,h12⟩
  exact ⟨h1,h2,h3,h4,h5,h6,h7,h8,h9,λk hk=>h10 k A0,h11,λl hl=>by have:=BO.1 h12 l hl;rw [B8] at this;omega⟩
 ·intro h
  refine ⟨⟨h.site,h.tk⟩,⟨h.st,h.ca,h.mi,h.me,h.dm,h.dr⟩,h.Ew,λk hk=>h.tg k A0,h.dr8,BO.2 λl hl=>B8.2 ?_⟩
  have:=h.lk l hl
  omega
def JG {gs:aF}{st:bf}{i k n m:Y}:M (CX gs st i k n m)=M st:=by
 unfold CX
 grind
def tQ {gs:aF}{lk:aXP}{t:Y}{st:bf}:∀k,M (LH gs lk t st k)=M st
 |0=>rfl
 |k+1=>by
  unfold LH;split
  ·exact tQ k
  ·rw [JG];exact tQ k
def aHQ {gs:aF}{st:bf}{i:Y}:∀k,M (L5 gs st i k)=M st
 |0=>rfl
 |k+1=>by unfold L5;rw [JG];exact aHQ k
def tJ {gs:aF}{dr:aB}{t:Y}{st:bf}:∀k,M (JS gs dr t st k)=M st
 |0=>rfl
 |k+1=>by
  unfold JS;split
  ·rw [aHQ];exact tJ k
  ·exact tJ k
def awY {gs:aF}{ca:aXV}{s:DW}{i:Y}:letI a:=Fh gs ca s i;M a.st=M s.st/\M a.mi=M s.mi/\M a.me=M s.me/\M a.dw=M s.dw:=by
 unfold Fh;split
 ·grind
 ·split
  ·refine ⟨?_,AJ,?_,AJ⟩
   ·simp only;split
    ·exact JG
    ·rfl
   ·grind
  ·grind
def fp {gs:aF}{ca:aXV}{s:DW}:∀k,M (DV gs ca s k).st=M s.st/\M (DV gs ca s k).mi=M s.mi/\M (DV gs ca s k).me=M s.me/\M (DV gs ca s k).dw=M s.dw
 |0=>⟨rfl,rfl,rfl,rfl⟩
 |k+1=>by
  obtain ⟨h1,h2,h3,h4⟩:=fp (gs:=gs) (ca:=ca) (s:=s) k;obtain ⟨g1,g2,g3,g4⟩:=awY (gs:=gs) (ca:=ca) (s:=DV gs ca s k) (i:=(k:Y));unfold DV
  grind
def jO {cs:aJ}{os:aE}{ks:aP}{gs:aF}{bs:aQ}(h:B9 cs os ks gs bs=U) {k:aC}(hk:k<M cs):1<=(AZ cs k).2.2.1/\(AZ cs k).2.2.1<=1000:=by
 have:=sT h (c:=(k:Y)) A0 A0
 unfold F4 at this;simp only [AY,B8] at this
 grind
def TO {gs:aF}{tg am:aB}{cs:aJ}:∀n,M (Cp gs tg am cs n)=M cs
 |0=>rfl
 | n+1=>by
  unfold Cp;split
  ·exact TO n
  ·split
   ·rw [C4];exact TO n
   ·exact TO n
def gR {gs:aF}{tg am:aB}{cs:aJ}:∀n,n<=M cs->∀j:aC,(AZ (Cp gs tg am cs n) j=AZ cs j\/(j<n/\gi tg j<(AZ cs j).2.2.1/\AZ (Cp gs tg am cs n) j=GG (AZ cs j) (gi tg j)))/\(n<=j->AZ (Cp gs tg am cs n) j=AZ cs j)
 |0,_,j=>⟨.inl rfl,λ_=>rfl⟩
 | n +1,hn,j=>by
  obtain ⟨h1,h2⟩:=gR (gs:=gs) (tg:=tg) (am:=am) (cs:=cs) n A0 j
  have hl:n<M (Cp gs tg am cs n):=by rw [TO];omega
  unfold Cp;split
  ·grind
  ·rename_i hlt
   split
   ·rw [Ws hl]
    by_cases e:j=n
    ·subst e
     grind
    ·rw [AE e]
     grind
   ·grind
def rC {gs:aF}{tg am:aB}{cs:aJ}{os:aE}{ks:aP}{bs:aQ}(h:B9 cs os ks gs bs=U) (ht:∀k:aC,k<M cs->1<=gi tg k/\gi tg k<=1000):∀n,n<=M cs->B9 (Cp gs tg am cs n) os ks gs bs=U
 |0,_=>h
 | n+1,hn=>by
  have h1:=rC (am:=am) h ht n A0
  unfold Cp;split
  ·exact h1
  ·split
   ·exact eU h1 (by rw [TO];omega)<|ht n A0
   ·exact h1
def NR {cs:aJ}{tg:aB}:∀n,M (E6 cs tg n)=M cs
 |0=>rfl
 |n+1=>by unfold E6;rw [C4];exact NR n
def rN {tg:aB}{cs:aJ}{os:aE}{ks:aP}{gs:aF}{bs:aQ}(h:B9 cs os ks gs bs=U) (ht:∀k:aC,k<M cs->1<=gi tg k/\gi tg k<=1000):∀n,n<=M cs->B9 (E6 cs tg n) os ks gs bs=U
 |0,_=>h
 |n+1,hn=>by
  exact eU (rN h ht n A0) (by rw [NR];omega)<|ht n A0
def aCy {p:PK}:∀x∈p.dL,0<=x.2.1/\x.2.1<(M p.gs:Y):=by
 intro x hx;unfold PK.dL deL at hx;split at hx
 ·obtain ⟨k,hk,rfl⟩:=Hx.1 hx
  have:=(jM (gs:=p.gs) (l:=Dx p.ls p.tk) (t:=p.tk) (n:=p.nx) (am:=FJ p.gs p.ra (Ha p.EG p.os p.ks p.gs p.bs (Dx p.ls p.tk) p.dm p.tk)<|M p.gs)<|Au _).1.at_ (k:Y) A0 A0
  rw [Mh A8] at this
  grind
 ·cases hx
def ath {t:Y}{s:SN}{x:Le}:(FD t s x).lk=s.lk\/(FD t s x).lk=s.lk++[Tv t x]:=by
 unfold FD;exact cH
def tc {t:Y}{xs:aL}{s:SN}:∀n,n<=M xs->(∀l∈(EN t xs s n).lk,l∈s.lk\/∃x∈xs,l=Tv t x)/\M (EN t xs s n).lk<=M s.lk+n
 |0,_=>⟨λl hl=> .inl hl,Au _⟩
 | n+1,hn=>by
  obtain ⟨h1,h2⟩:=tc (t:=t) (xs:=xs) (s:=s) n A0;unfold EN;rcases ath (t:=t) (s:=EN t xs s n) (x:=Ap xs n) with e|e<;>rw [e]
  ·grind
  ·refine ⟨λl hl=>?_,A8⟩
   rw [Bf,Hz] at hl;rcases hl with hl|rfl
   ·grind
   ·exact .inr ⟨_,Ll A0 A0,rfl⟩
def awm {p:PK}(h:∀l∈p.lk,0<=l.2.2.1/\l.2.2.1<(M p.gs:Y)):∀l∈p.AK.lk,0<=l.2.2.1/\l.2.2.1<(M p.gs:Y):=by
 unfold PK.AK;split
 ·exact h
 ·split
  ·exact h
  ·intro l hl
   rcases (tc (t:=p.tk) (xs:=p.dL) (s:=p.Gf) _<|Au _).1 l hl with e|⟨x,hx,rfl⟩
   ·exact h l e
   ·exact aCy x hx
def Ic (p:PK):p.AK.cs=p.cs/\p.AK.os=p.os/\p.AK.ks=p.ks/\p.AK.gs=p.gs/\p.AK.bs=p.bs/\p.AK.tk=p.tk/\p.AK.up=p.up/\p.AK.st=p.st/\p.AK.ca=p.ca/\p.AK.mi=p.mi/\p.AK.me=p.me/\p.AK.dm=p.dm/\p.AK.dr=p.dr/\p.AK.tg=p.tg:=by
 unfold PK.AK;exact cH
def VP.dec {p:PK}(h:VP p):VP p.AK:=by
 obtain ⟨e1,e2,e3,e4,e5,e6,e7,e8,e9,e10,e11,e12,e13,e14⟩:=Ic p;refine ⟨?_,?_,?_,?_,?_,?_,?_,?_,?_,?_,?_,?_⟩
 ·rw [e1,e2,e3,e4,e5];exact h.site
 ·rw [e6];exact h.tk
 ·rw [e8,e4];exact h.st
 ·rw [e9,e4];exact h.ca
 ·rw [e10,e4];exact h.mi
 ·rw [e11,e4];exact h.me
 ·rw [e12,e4];exact h.dm
 ·rw [e13,e4];exact h.dr
 ·rw [e14,e1];exact h.Ew
 ·rw [e14,e1];exact h.tg
 ·rw [e13];exact h.dr8
 ·rw [e4];exact awm h.lk
def VP.arr {p:PK}(h:VP p):VP p.KD:={h with st:=(tQ _).trans h.st,lk:=λl hl=>h.lk l<|(Ck.1 hl).1}
def VP.cnt {p:PK}(h:VP p):VP p.dD:={h with st:=(tJ _).trans h.st}
def VP.drw {p:PK}(h:VP p):VP p.BU:=
 have hl:=fp (gs:=p.gs) (ca:=p.ca) (s:=⟨p.st,p.mi,p.me,aq (M p.gs) 0⟩)<|M p.gs
 {h with st:=hl.1.trans h.st,mi:=hl.2.1.trans h.mi,me:=hl.2.2.1.trans h.me}
def VP.tg1 {p:PK}(h:VP p):∀k:aC,k<M p.cs->1<=gi p.tg k/\gi p.tg k<=1000:=λk hk=>by
 have:=h.tg k (by rw [h.Ew];omega)
 have:=jO h.site hk
 omega
def VP.rst {p:PK}(h:VP p):VP p.It:=by
 have hs:B9 p.It.cs p.os p.ks p.gs p.bs=true:=by
  unfold PK.It;split
  ·exact h.site
  ·rw [h.Ew];exact rC h.site h.tg1 _<|Au _
 have hl:M p.It.cs=M p.cs:=by
  unfold PK.It;split
  ·rfl
  ·exact TO _
 refine {h with site:=hs,Ew:=h.Ew.trans hl.symm,tg:=λk hk=>?_}
 have ht:=h.tg k hk
 refine ⟨ht.1,?_⟩;unfold PK.It;split
 ·exact ht.2
 ·rcases (gR (gs:=p.gs) (tg:=p.tg) (am:=p.Jj) (cs:=p.cs) (M p.tg) (by rw [h.Ew];omega) k).1 with e|⟨_,_,e⟩<;>rw [e]
  ·exact ht.2
  ·exact Cb _
def VP.tick {p:PK}(h:VP p) (ht:p.tk≠1000000):VP p.BZ:=by
 have h5:=h.dec.arr.cnt.drw.rst
 have et:p.Ah.BU.It.tk=p.tk:=(Ic p).2.2.2.2.2.1
 have:=h.tk
 exact {h5 with tk:=by show 0<=p.Ah.BU.It.tk+1/\p.Ah.BU.It.tk+1<=1000000;omega}
def apz {p:PK}{n:Y}:M (p.aCE n)=M p.st:=by
 unfold PK.aCE;rw [JG,JG,JG,JG]
def VP.step {p:PK}(h:VP p) {e:EV}(he:Br p e=0):VP (BN p e):=by
 unfold BN;rw [AE A0];unfold Br at he;rw [AE (by rw [WH.2 h];decide)] at he
 split
 ·rename_i h1
  rw [AD h1] at he;unfold PK.JM at he;exact h.tick λhh=>aQT
 rename_i h1;rw [AE h1] at he;split
 ·exact {h with ca:=by simp only [PK.Nr,C4];exact h.ca,mi:=by simp only [PK.Nr,C4];exact h.mi,dm:=by simp only [PK.Nr,C4];exact h.dm,st:=apz.trans h.st}
 rename_i h2;rw [AE h2] at he;split
 ·exact {h with ca:=by simp only [PK.Pr,C4];exact h.ca,mi:=by simp only [PK.Pr,C4];exact h.mi,dm:=by simp only [PK.Pr,C4];exact h.dm,st:=by simp only [PK.Pr,JG];exact h.st}
 rename_i h3;rw [AE h3] at he;split
 ·exact {h with lk:=λl hl=>h.lk l<|(Ck.1 hl).1}
 rename_i h4;rw [AE h4] at he;split
 ·exact {h with}
 rename_i h5;rw [AE h5] at he;split
 ·exact {h with}
 rename_i h6;rw [AE h6] at he;split
 ·exact {h with st:=JG.trans h.st}
 rename_i h7;rw [AE h7] at he;split at he
 ·unfold PK.IF at he
  split at he
  ·cases he
  ·rename_i hb
   simp only [CS,DB,not_or,Sm,B8] at hb;obtain ⟨⟨n0,n1⟩,m0,m1⟩:=hb;refine {h with Ew:=by simp only [PK.LD,C4];exact h.Ew,tg:=λk hk=>?_}
   have hk':k<M p.tg:=by simpa only [PK.LD,C4] using hk
   have ht:=h.tg k hk'
   show 1<=gi (p.tg.set e.en.toNat e.em) k/\gi (p.tg.set e.en.toNat e.em) k<=(AZ p.cs k).2.2.1
   unfold gi at ht|-;rw [DH,IY]
   by_cases ek:e.en.toNat=(k:Y).toNat
   ·rw [AD ek,AD (by rw [C2] at ek;omega)]
    rw [C2] at ek
    have:e.en=(k:Y):=A0
    rw [<-this];exact ⟨m0,m1⟩
   ·rw [AE ek,<-DH]
    exact ht
 ·cases he
def P3 {α:Type}{l:List α}{d x:α}{i j:aC}:(l.set i x).getD j d=if i=j/\i<M l then x else l.getD j d:=by
 by_cases e:i=j
 ·subst e
  by_cases h:i<M l
  ·grind
  ·grind
 ·grind
def ain {gs:aF}{st:bf}{i j k n m:Y}(hi:0<=i) (hj:0<=j) (hij:i≠j):BJ (CX gs st i k n m) j=BJ st j:=by
 unfold CX;split
 ·unfold BJ;rw [P3,AE A0]
 ·rfl
structure D1 where
 c:Ca
 m:Mi
 e:Me
 (ph al:Y)
namespace D1
variable (d : D1)
def ok:aM:=!(d.c.2.2.1==0)&&(Jc d.c d.m d.ph d.al==0)
def a:Y:=Fg d.c d.m d.ph d.al
def o:Y:=cnt<|Ei d.c d.m d.ph d.al
end D1
def d1 (gs:aF) (ca:aXV) (s:DW) (j:Y):D1:=⟨Be ca j,CH s.mi j,Gk s.me j,(AG gs j).2.2.1,Bk (AG gs j)<|BJ s.st j⟩
def aVL {gs:aF}{ca:aXV}{s:DW}{i:Y}(h:(d1 gs ca s i).ok=X):Fh gs ca s i=s:=by
 unfold D1.ok d1 at h;unfold Fh
 by_cases h1:(Be ca i).2.2.1=0
 ·grind
 ·grind
def aLD {gs:aF}{ca:aXV}{s:DW}{i:Y}(h:(d1 gs ca s i).ok=U):Fh gs ca s i=
  ⟨if (d1 gs ca s i).a>(d1 gs ca s i).al then CX gs s.st i 6 2 0 else s.st,s.mi.set i.toNat<|Jm (d1 gs ca s i).c (d1 gs ca s i).m (d1 gs ca s i).ph (d1 gs ca s i).al,
   if GA (d1 gs ca s i).e (d1 gs ca s i).a (d1 gs ca s i).o=0 then s.me.set i.toNat (Hq (d1 gs ca s i).e (d1 gs ca s i).a (d1 gs ca s i).o) else s.me,s.dw.set i.toNat (d1 gs ca s i).a⟩:=by
 unfold D1.ok d1 at h;simp only [AY,DB,CY,Cl] at h;unfold Fh;rw [AE h.1,AD h.2];rfl
def aVM {gs:aF}{ca:aXV}{s:DW}{i j:aC}(h:i≠j):
  BJ (Fh gs ca s i).st j=BJ s.st j/\CH (Fh gs ca s i).mi j=CH s.mi j/\Gk (Fh gs ca s i).me j=Gk s.me j/\gi (Fh gs ca s i).dw j=gi s.dw j:=by
 cases hk:(d1 gs ca s i).ok
 ·rw [aVL hk];exact ⟨rfl,rfl,rfl,rfl⟩
 ·rw [aLD hk]
  refine ⟨?_,?_,?_,?_⟩
  ·simp only;split
   ·exact ain A0 A0 A0
   ·rfl
  ·unfold CH;rw [P3,AE A0]
  ·simp only;split
   ·unfold Gk;rw [P3,AE A0]
   ·rfl
  ·unfold gi;rw [P3,AE A0]
def aVJ {gs:aF}{ca:aXV}{s:DW}:∀(k j:aC),k<=j->
  BJ (DV gs ca s k).st j=BJ s.st j/\CH (DV gs ca s k).mi j=CH s.mi j/\Gk (DV gs ca s k).me j=Gk s.me j/\gi (DV gs ca s k).dw j=gi s.dw j
 |0,_,_=>⟨rfl,rfl,rfl,rfl⟩
 |k+1,j,h=>by
  obtain ⟨h1,h2,h3,h4⟩:=aVJ (gs:=gs) (ca:=ca) (s:=s) k j A0;obtain ⟨g1,g2,g3,g4⟩:=aVM (gs:=gs) (ca:=ca) (s:=DV gs ca s k) (i:=k) (j:=j) A0;unfold DV
  grind
def aVK {gs:aF}{ca:aXV}{s:DW}{n:aC}(hm:M s.mi=n) (he:M s.me=n) (hd:M s.dw=n) {j:aC}(hj:j<n):∀(k:aC),j<k->
  CH (DV gs ca s k).mi j=(if (d1 gs ca s j).ok=U then Jm (d1 gs ca s j).c (d1 gs ca s j).m (d1 gs ca s j).ph (d1 gs ca s j).al else CH s.mi j)/\
  Gk (DV gs ca s k).me j=(if (d1 gs ca s j).ok=U/\GA (d1 gs ca s j).e (d1 gs ca s j).a (d1 gs ca s j).o=0 then Hq (d1 gs ca s j).e (d1 gs ca s j).a (d1 gs ca s j).o else Gk s.me j)/\
  gi (DV gs ca s k).dw j=(if (d1 gs ca s j).ok=U then (d1 gs ca s j).a else gi s.dw j)
 |0,h=>A0
 | k +1,h=>by
  by_cases e:j=k
  ·subst e
   obtain ⟨h1,h2,h3,h4⟩:=aVJ (gs:=gs) (ca:=ca) (s:=s) j j<|Au _;obtain ⟨l1,l2,l3,l4⟩:=fp (gs:=gs) (ca:=ca) (s:=s) j
   have ed:d1 gs ca (DV gs ca s j) j=d1 gs ca s j:=by unfold d1;rw [h1,h2,h3]
   unfold DV;cases hk:(d1 gs ca s j).ok
   ·rw [aVL A8]
    grind
   ·rw [aLD A8,ed]
    simp only [Bu,Em];refine ⟨?_,?_,?_⟩
    ·unfold CH;rw [P3,AD ⟨rfl,A0⟩]
    ·split
     ·unfold Gk;rw [P3,AD ⟨rfl,A0⟩]
     ·exact h3
    ·unfold gi;rw [P3,AD ⟨rfl,A0⟩]
  ·obtain ⟨g1,g2,g3,g4⟩:=aVM (gs:=gs) (ca:=ca) (s:=DV gs ca s k) (i:=k) (j:=j) A0
   obtain ⟨h1,h2,h3⟩:=aVK hm he hd hj k A0;exact ⟨g2.trans h1,g3.trans h2,g4.trans h3⟩
def axa {k ph p:Y}(h1:1<=ph/\ph<=7) (h2:1<=p/\p<=7) (h:KC k ph p≠0):1<=cnt (KC k ph p):=by
 have:=aFG (k:=k) h1 h2
 unfold cnt;omega
def D1.bd {d:D1}(h:d.ok=U):0<=d.a/\d.a<=80/\0<=d.o/\d.o<=3/\(d.a≠0->1<=d.o)/\(Jm d.c d.m d.ph d.al).2.2=d.m.2.2+2300*d.a*d.o:=by
 unfold D1.ok at h;simp only [AY,DB,CY,Cl] at h
 have hB:dwB d.c d.m d.ph d.al=true:=by
  exact aPN
 obtain ⟨hc,hm,h1,h2,h3,h4,_⟩:=gr.1 hB;obtain ⟨b1,b2,b3,b4⟩:=aGv hc hm ⟨h1,h2⟩ ⟨h3,h4⟩
 have hc':=Wt.1 hc
 have hs:=apu (n:=Ei d.c d.m d.ph d.al)
 have ea:d.a=Ey d.c d.m d.ph d.al:=aQb
 have eo:d.o=cnt (Hc d.c d.m d.ph d.al):=by unfold D1.o Ei;rw [AD hB]
 refine ⟨A0,A0,hs.1,hs.2,λhz=>?_,?_⟩
 ·rw [eo]
  rw [ea] at hz;unfold Hc;rw [AE hz];refine axa ⟨A0,A0⟩ ⟨h1,h2⟩ λhq=>hz ?_
  unfold Ey
  grind
 ·unfold Jm
  rw [AD hB,ea,eo];rfl
def kG {c:Ch}{s:St}{k n m:Y}(h:s.2.2.2=X) (hk:k≠6\/n≠1):(EE c s k n m).2.2.2=false:=by
 unfold EE;split
 ·rename_i he
  unfold sN;rw [AD he];simp only [sW,h,DC,yw,CY];exact hk
 ·exact h
def anL {c:Ch}{s:St}{k n m:Y}(h:0<=s.2.2.1):(EE c s k n m).2.2.1<=s.2.2.1\/(k=7/\(EE c s k n m).2.2.1=m):=by
 unfold EE;split
 ·rename_i he
  unfold sN;rw [AD he];simp only [sL];split
  ·exact .inr ⟨by assumption,rfl⟩
  ·refine .inl ?_
   split
   ·unfold tkF;split<;>omega
   ·split<;>omega
 ·exact .inl<|Cb _
def anK {c:Ch}{s:St}(h:sV c s=U):(EE c s 8 0 0).2.2.1=tkF s.2.2.1:=by
 have hv:=Mc.1 h
 have he:sE c s 8 0 0=0:=by
  unfold sE;rw [AD h,AD Ad,AD<|by simp [evV]]
  have:IP s.1 s.2.2.2 8 0=s.1:=by simp [IP]
  rw [this,AE A0]
 unfold EE sN;rw [AD he,AD he]
 simp [sL]
def xy {gs:aF}{st:bf}{i k n m:Y}(h0:0<=i) (h1:i<(M st:Y)) {j:Y}(hj:0<=j):BJ (CX gs st i k n m) j=if j=i then EE (AG gs i) (BJ st i) k n m else BJ st j:=by
 unfold CX EE
 by_cases e:j=i
 ·subst e
  rw [AD rfl];split
  ·unfold BJ;rw [P3,AD ⟨rfl,A0⟩]
  ·rfl
 ·rw [AE e]
  split
  ·unfold BJ;rw [P3,AE A0]
  ·rfl
def Bz (gs:aF) (Q:Y->St->Prop) (st:bf):Prop:=M st=M gs/\∀j:Y,0<=j->j<(M gs:Y)->Q j (BJ st j)
def Bz.gv {gs:aF}{Q:Y->St->Prop}{st:bf}(h:Bz gs Q st) {i k n m:Y}(h0:0<=i) (h1:i<(M gs:Y)) (hq:Q i (BJ st i)->Q i (EE (AG gs i) (BJ st i) k n m)):Bz gs Q (CX gs st i k n m):=by
 refine ⟨JG.trans h.1,λj j0 j1=>?_⟩
 rw [xy h0 (by rw [h.1];exact h1) j0]
 split
 ·rename_i e;subst e;exact hq<|h.2 j j0 j1
 ·exact h.2 j j0 j1
def Bz.arr {gs:aF}{Q:Y->St->Prop}{st:bf}{lk:aXP}{t:Y}(h:Bz gs Q st) (hl:∀l∈lk,(0<=l.2.2.1/\l.2.2.1<(M gs:Y))/\(l.1<=t->∀s,Q l.2.2.1 s->Q l.2.2.1 (EE (AG gs l.2.2.1) s 7 l.2.2.2.1 l.2.2.2.2.2))):∀n,n<=M lk->Bz gs Q (LH gs lk t st n)
 |0,_=>h
 | n+1,hn=>by
  have ih:=Bz.arr h hl n A0
  have hm:Fy lk n∈lk:=by
   unfold Fy;rw [Lu (by rw [C2];omega)]
   exact Gl _
  obtain ⟨⟨c0,c1⟩,hq⟩:=hl _ hm;unfold LH;split
  ·exact ih
  ·exact ih.gv c0 c1<|hq A0 _
def Bz.dw {gs:aF}{ca:aXV}{Q:Y->St->Prop}{s:DW}(h:Bz gs Q s.st) (hq:∀j st,Q j st->Q j (EE (AG gs j) st 6 2 0)):∀n,n<=M gs->Bz gs Q (DV gs ca s n).st
 |0,_=>h
 | n+1,hn=>by
  have ih:=Bz.dw (ca:=ca) h hq n A0
  unfold DV Fh;split
  ·exact ih
  ·split
   ·simp only
    split
    ·exact ih.gv A0 A0<|hq _ _
    ·exact ih
   ·exact ih
def J1 (gs:aF) (b:Y->Y) (j:Y) (s:St):Prop:=sV (AG gs j) s=U/\s.2.2.2=X/\s.2.2.1<=b j
def J1.le {gs:aF}{b b':Y->Y}{j:Y}{s:St}(h:J1 gs b j s) (hb:b j<=b' j):J1 gs b' j s:=⟨h.1,h.2.1,F9 h.2.2 hb⟩
def J1.gv {gs:aF}{b:Y->Y}{j k n m:Y}{s:St}(h:J1 gs b j s) (hk:k≠6\/n≠1) (hm:k=7->m<=b j):J1 gs b j (EE (AG gs j) s k n m):=by
 have hv:=Mc.1 h.1
 refine ⟨xx h.1,kG h.2.1 hk,?_⟩;rcases anL (c:=AG gs j) (k:=k) (n:=n) (m:=m) hv.2.2.2.1 with e|⟨e1,e2⟩
 ·exact F9 e h.2.2
 ·rw [e2];exact hm e1
def aXe {gs:aF}{b:Y->Y}{st:bf}(h:Bz gs (J1 gs b) st) (hb:∀j,0<=b j) {i:Y}(h0:0<=i) (h1:i<(M gs:Y)):∀k:aC,Bz gs (J1 gs (λj=>if j=i then (if b j-k<0 then 0 else b j-k) else b j)) (L5 gs st i k)
 |0=>⟨h.1,λj j0 j1=>(h.2 j j0 j1).le aPn⟩
 | k+1=>by
  have ih:=aXe h hb h0 h1 k
  unfold L5;refine ⟨JG.trans ih.1,λj j0 j1=>?_⟩
  rw [xy h0 (by rw [ih.1];exact h1) j0]
  have hj:=ih.2 j j0 j1
  split
  ·rename_i e
   subst e
   have hv:=Mc.1 hj.1
   have h3:=hj.2.2
   have hbj:=hb j
   simp only [Bu] at h3;refine ⟨xx hj.1,kG hj.2.1<|.inl Ad,?_⟩;rw [anK hj.1];simp only [Bu];unfold tkF;split at h3<;>split<;>split<;>omega
  ·rename_i e
   refine hj.le ?_;rw [AE e,AE e];exact Cb _
def Q9 (dr:aB) (t:Y) (j:Y):Y:=Bh (t+1) (gi dr j)-Bh t (gi dr j)
def ab4 {gs:aF}{b:Y->Y}{st:bf}{dr:aB}{t:Y}(h:Bz gs (J1 gs b) st) (hb:∀j,0<=b j) (hd:∀j:Y,0<=j->j<(M dr:Y)->-200<=gi dr j/\gi dr j<=200) (hl:M dr=M gs) (ht:0<=t/\t<1000000):
  ∀n:aC,n<=M dr->Bz gs (J1 gs (λj=>if j<n then (if b j-Q9 dr t j<0 then 0 else b j-Q9 dr t j) else b j)) (JS gs dr t st n)
 | 0,_=>⟨h.1,λj j0 j1=>by
   have:=h.2 j j0 j1
   refine this.le ?_;rw [AE A0];exact Cb _⟩
 | n+1,hn=>by
  have ih:=ab4 h hb hd hl ht n A0
  have hdn:=hd (n:Y) A0 A0
  have hs:HE t (gi dr n)=0/\HE (t+1) (gi dr n)=0:=by
   unfold HE;rw [AD,AD]
   ·exact ⟨rfl,rfl⟩
   ·rw [AY,B8,B8];omega
   ·rw [AY,B8,B8];omega
  have ho:0<=Q9 dr t n:=by
   unfold Q9 Bh;rw [AD VT,AD VT]
   have:t*(1000000+gi dr n)<=(t+1)*(1000000+gi dr n):=Gn A0 A0
   have:=ze (by decide:(0:Y)<1000000) this
   omega
  unfold JS;rw [AD hs]
  have:=aXe ih (λj=>aPn) (i:=(n:Y)) A0 A0 (Bh (t+1) (gi dr n)-Bh t (gi dr n)).toNat
  refine ⟨this.1,λj j0 j1=>(this.2 j j0 j1).le ?_⟩
  have e:(((Bh (t+1) (gi dr n)-Bh t (gi dr n)).toNat:aC):Y)=Q9 dr t n:=by unfold Q9 at ho|-;omega
  simp only [e]
  have hbj:=hb j
  by_cases ej:j=n
  ·subst ej
   rw [AD rfl,AE (show ¬((n:Y)<(n:Y)) by omega),AD (show (n:Y)<((n+1:aC):Y) by omega)]
   exact Cb _
  ·rw [AE ej]
   by_cases hj:j<(n:Y)
   ·rw [AD hj,AD (show j<((n+1:aC):Y) by omega)];exact Cb _
   ·rw [AE hj,AE (show ¬j<((n+1:aC):Y) by omega)];exact Cb _
structure FI (p:PK):Prop where
 st:Bz p.gs (J1 p.gs (λ_=>12)) p.st
 lk:∀l∈p.lk,p.tk<=l.1/\l.1<=p.tk+10/\l.2.2.2.2.2=12
 ca:∀c∈p.ca,c.1≠4
def aou {p:PK}:∀x∈p.dL,x.2.2.2.2=12:=by
 intro x hx;unfold PK.dL deL at hx;split at hx
 ·obtain ⟨k,hk,rfl⟩:=Hx.1 hx
  have:=(jM (gs:=p.gs) (l:=Dx p.ls p.tk) (t:=p.tk) (n:=p.nx) (am:=FJ p.gs p.ra (Ha p.EG p.os p.ks p.gs p.bs (Dx p.ls p.tk) p.dm p.tk)<|M p.gs)<|Au _).1.at_ (k:Y) A0 A0
  have:=this.1
  rw [Mh aAq] at this;simp only [C2] at this;rw [this]
 ·cases hx
def ajk {p:PK}(hv:VP p) (h:∀l∈p.lk,p.tk<=l.1/\l.1<=p.tk+10/\l.2.2.2.2.2=12):∀l∈p.AK.lk,p.tk<=l.1/\l.1<=p.tk+10/\l.2.2.2.2.2=12:=by
 unfold PK.AK;split
 ·exact λl hl=>by have:=h l hl;omega
 ·split
  ·exact λl hl=>by have:=h l hl;omega
  ·intro l hl
   rcases (tc (t:=p.tk) (xs:=p.dL) (s:=p.Gf) _<|Au _).1 l hl with e|⟨x,hx,rfl⟩
   ·have:=h l e;omega
   ·have h1:=(aCy x hx).1
    have h2:=hv.tk
    have h3:0<=(7*p.tk+3*x.2.1).tmod 5/\(7*p.tk+3*x.2.1).tmod 5<=4:=by
     rw [Int.tmod_eq_emod_of_nonneg A0];omega
    exact ⟨aQE,aQE,aou x hx⟩
def Xx {p:PK}(hv:VP p):∀j:Y,0<=j->j<(M p.dr:Y)->-200<=gi p.dr j/\gi p.dr j<=200:=λj j0 j1=>by
 have:=BO.1 hv.dr8 (gi p.dr j)<|Kf j0 j1
 rwa [B8] at this
def FI.tick {p:PK}(h:FI p) (hv:VP p) (ht:p.tk≠1000000):FI p.BZ:=by
 obtain ⟨e1,e2,e3,e4,e5,e6,e7,e8,e9,e10,e11,e12,e13,e14⟩:=Ic p
 have htk:=hv.tk
 have hl:=ajk hv h.lk
 have hvd:=hv.dec
 have s0:Bz p.AK.gs (J1 p.AK.gs λ_=>12) p.AK.st:=by rw [e4,e8];exact h.st
 have s1:Bz p.AK.gs (J1 p.AK.gs λ_=>12) p.AK.KD.st:=s0.arr (t:=p.AK.tk) (λl hl'=>⟨hvd.lk l hl',λ_ s hs=>hs.gv (.inl Ad) (λ_=>by have:=(hl l hl').2.2;(try simp only []);omega)⟩) _<|Au _
 have s2:Bz p.AK.gs (J1 p.AK.gs λ_=>12) p.Ah.st:=by
  have:=ab4 (t:=p.AK.tk) (dr:=p.AK.dr) s1 (λ_=>Ad) (Xx hvd) hvd.dr (by rw [e6];omega) (M p.AK.dr)<|Au _
  refine ⟨this.1,λj j0 j1=>(this.2 j j0 j1).le ?_⟩
  rw [AD (by rw [hvd.dr];exact j1)]
  have ho:0<=Q9 p.AK.dr p.AK.tk j:=by
   have hd:=Xx hvd j j0 (by rw [hvd.dr];exact j1)
   unfold Q9 Bh;rw [AD aQU,AD aQU]
   have:p.AK.tk*(1000000+gi p.AK.dr j)<=(p.AK.tk+1)*(1000000+gi p.AK.dr j):=Gn A0 A0
   have:=ze (by decide:(0:Y)<1000000) this
   omega
  split<;>omega
 have s3:Bz p.AK.gs (J1 p.AK.gs λ_=>12) p.Ah.dw.st:=Bz.dw s2 (λj s hs=>hs.gv (.inr Ad) λhk=>NJ) _<|Au _
 refine ⟨s3,λl hl'=>?_,?_⟩
 ·have hm:l∈p.AK.lk/\an (l.1>p.AK.tk)=true:=Ck.1 hl'
  have:=hl l hm.1
  have h2:=DJ hm.2
  rw [e6] at h2
  have et:p.BZ.tk=p.tk+1:=by show p.AK.tk+1=_;rw [e6]
  rw [et];omega
 ·show ∀c∈p.AK.ca,_
  rw [e9];exact h.ca
def FI.step {p:PK}(h:FI p) (hv:VP p) {e:EV}(he:Br p e=0) (hw:e.ek≠7) (hc:e.c.1≠4):FI (BN p e):=by
 unfold BN;rw [AE A0];unfold Br at he;rw [AE aAZ] at he;split
 ·rename_i h1
  rw [AD h1] at he;unfold PK.JM at he;exact h.tick hv λhh=>aQT
 rename_i h1;rw [AE h1] at he
 have cr:∀ {i:Y},p.isC i≠X->0<=i/\i<(M p.gs:Y):=λ{i} hh=>by
  exact aPY
 split
 ·rename_i h2
  rw [AD h2] at he;unfold PK.GR at he;split at he
  ·cases he
  rename_i hi;obtain ⟨i0,i1⟩:=cr hi;refine {h with st:=?_,ca:=λc hc'=>?_}
  ·exact (((h.st.gv i0 i1 λhs=>hs.gv (.inl Ad) λhk=>NJ).gv i0 i1 λhs=>hs.gv (.inl Ad) λhk=>NJ).gv i0 i1 λhs=>hs.gv (.inl Ad) λhk=>NJ).gv i0 i1 λhs=>hs.gv (.inl Ad) λhk=>NJ
  ·rcases Oa hc' with hx|rfl
   ·exact h.ca c hx
   ·exact hc
 rename_i h2;rw [AE h2] at he;split
 ·rename_i h3
  rw [AD h3] at he;unfold PK.JN at he;split at he
  ·cases he
  rename_i hi;obtain ⟨i0,i1⟩:=cr hi;refine {h with st:=?_,ca:=λc hc'=>?_}
  ·exact (h.st.gv i0 i1 λhs=>hs.gv (.inr Ad) λhk=>NJ).gv i0 i1 λhs=>hs.gv (.inl Ad) λhk=>NJ
  ·rcases Oa hc' with hx|rfl
   ·exact h.ca c hx
   ·decide
 rename_i h3;rw [AE h3] at he;split
 ·exact {h with lk:=λl hl=>h.lk l (Ck.1 hl).1}
 rename_i h4;rw [AE h4] at he;split
 ·exact {h with}
 rename_i h5;rw [AE h5] at he;split
 ·exact {h with}
 rename_i h6;rw [AE h6] at he;exact {h with}
def aqV {d t t':Y}(hd:-200<=d/\d<=200) (h0:0<=t) (h1:t<=t') (h2:t'<=1000000):Bh t d<=Bh t' d:=by
 unfold Bh;rw [AD VT,AD VT];exact ze (by decide:(0:Y)<1000000)<|Gn h1 A0
def ay2 {c:Ca}{m:Mi}{al:Y}(hm:IQ m=U) (ha:0<=al) (h4:c.1≠4):H9 c m al<=al:=by
 have hm:=fX.1 hm
 unfold H9
 repeat' split
 all_goals omega
def D1.le {d:D1}(h:d.ok=U) (h4:d.c.1≠4):d.a<=d.al:=by
 unfold D1.ok at h;simp only [AY,DB,CY,Cl] at h
 have hB:dwB d.c d.m d.ph d.al=true:=by
  exact aPN
 obtain ⟨hc,hm,h1,h2,h3,h5,_⟩:=gr.1 hB
 have ea:d.a=Ey d.c d.m d.ph d.al:=aQb
 have:=ay2 (c:=d.c) hm h3 h4
 rw [ea];unfold Ey;split<;>omega
def anB {ca:aXV}(h:∀c∈ca,c.1≠4) (i:Y):(Be ca i).1≠4:=by
 unfold Be;rw [DH];cases hx:ca[i.toNat]? with
 |none=>simp
 |some y=>exact h y<|Of hx
structure Hu (C cs:aJ):Prop where
 len:M cs=M C
 up:∀o:aC,(AZ cs o).2.1=(AZ C o).2.1
 lim:∀o:aC,CW (AZ C o)<=CW (AZ cs o)
def Hu.on {C cs:aJ}(h:Hu C cs) {o:Y}:∀(k:aC) (c:Y),Gi k cs o c=Gi k C o c
 |0,_=>rfl
 | k+1,c=>by
  simp only [Gi];split
  ·rename_i c0
   have e:=h.up c.toNat
   rw [Bs c0] at e;rw [e,h.on k]
  ·rfl
def Hu.bel {C cs:aJ}(h:Hu C cs) {gs:aF}{o:Y}{k:aC}:Ct cs gs o k=Ct C gs o k:=by
 unfold Ct Fk;simp only [h.on]
section
variable {cs C : List Cd} {os : List ByteArray} {ks : List Ko} {gs : List Ch} {bs : List Ba} {l : List Le} {rs : List Ra} {d : List Dm} {t n : Int}
def Qs (hC:B9 C os ks gs bs=U) (hs:B9 cs os ks gs bs=U) (hL:Hu C cs) {a b:aB}(hb:∀k:aC,k<M gs->0<=gi b k/\gi b k<=80)
  (ha:∀k:aC,k<M gs->0<=gi a k/\gi a k<=gi b k) (h:DO C gs b=U):DO cs gs a=true:=by
 rw [fh hC hb] at h;rw [fh hs λk hk=>⟨(ha k hk).1,F9 (ha k hk).2 (hb k hk).2⟩]
 intro o ho p hp;rw [hL.bel];refine F9 (vA λk hk=>?_)<|F9 (h o aR2 p hp)<|hL.lim o
 have hk:=Wa (Ck.1 hk).1
 have:=(ha k.toNat A0).2
 grind
def arl {B N:aL}(bv:B2 B=U) (bb:below (M gs) B=U) (nv:B2 N=U) (nb:below (M gs) N=U) {t t':Y}(h:∀x∈N,Fc t' x=U->x∈B/\Fc t x=U) {j:Y}(j0:0<=j):
  gi (GY (M gs) N t') j<=gi (GY (M gs) B t) j:=
 aKG nv nb j0 (kH (a:=0) (b:=80) Ad<|uU bv).1 λx hx ha e=>by
  obtain ⟨h1,h2⟩:=h x hx ha
  have:=uT bv bb h1 h2
  grind
def fP {B N:aL}(bv:B2 B=U) (bb:below (M gs) B=U) (nv:B2 N=U) (nb:below (M gs) N=U) {t t':Y}(h:∀x∈N,Fc t' x=U->x∈B/\Fc t x=U) {j:Y}(j0:0<=j) (j1:j<(M gs:Y)):
  gi (D4 gs N t') j<=gi (D4 gs B t) j:=by
 have:=arl bv bb nv nb h j0
 rw [Qr j0 j1,Qr j0 j1];unfold mx;omega
def tR {t t':Y}{x:Le}(ht:t<=t') (hx:x.2.2.2.1<=t) (h:Fc t' x=U):Fc t x=true:=by
 unfold Fc at h|-;simp only [AY,Ac] at h|-;omega
def aHI (V:Vd C os ks gs bs l rs d t n) (hs:B9 cs os ks gs bs=U) (hL:Hu C cs) {m:aL}(M:NwL gs (FJ gs rs (Ha C os ks gs bs l d t)<|aa gs) t n m) {B N:aL}
  (bv:B2 B=U) (bb:below (aa gs) B=U) (nv:B2 N=U) (nb:below (aa gs) N=U) (hB:∀x∈B,x.2.2.2.1<=t/\(DS x>t->x∈l)) (hN:∀x∈N,x∈B\/x∈m)
  (hk:DO cs gs (D4 gs B t)=U) {t':Y} (ht:t<=t'):DO cs gs (D4 gs N t')=true:=by
 rw [fh hs λk hk=>Ie hs nv A0 A0]
 rw [fh hs λk hk=>Ie hs bv A0 A0] at hk
 intro o ho p hp
 have h1:=hk o ho p hp
 rw [hL.bel] at h1|-
 have hin:∀k∈C1 gs p (Ct C gs o<|aa gs),0<=k/\k<(aa gs:Y):=λk hk=>Wa (Ck.1 hk).1
 have hBl:∀j:Y,0<=j->j<(aa gs:Y)->gi (D4 gs B t) j<=gi (D4 gs l t) j:=λj j0 j1=>
  fP V.les V.co bv bb (λx hx ha=>⟨(hB x hx).2 (by unfold Fc at ha;simp only [AY,Ac] at ha;exact ha.2),ha⟩) j0 j1
 have hmx:∀k∈C1 gs p (Ct C gs o<|aa gs),gi (D4 gs N t') k<=mx (gi (D4 gs B t) k) (gi (FJ gs rs (Ha C os ks gs bs l d t)<|aa gs) k):=λk hk=>by
  obtain ⟨j0,j1⟩:=hin k hk
  have hj:=(acB V j0 j1).1
  have key:gi (GY (aa gs) N t') k<=mx (gi (GY (aa gs) B t) k) (gi (FJ gs rs (Ha C os ks gs bs l d t)<|aa gs) k):=by
   refine aKG nv nb j0 (by unfold mx;split<;>omega) λx hx ha e=>?_
   rcases hN x hx with h|h
   ·have:=uT bv bb h (tR ht (hB x h).1 ha)
    rw [e] at this;exact oC
   ·obtain ⟨i,hi,rfl⟩:=Hx.1 h
    have q:=(M.at_ i A0 A0).1
    rw [Mh A0] at q;simp only [C2] at q
    have:=B0 (λz:Le=>z.2.2.1) q
    simp only [e] at this;exact oC
  rw [Qr j0 j1,Qr j0 j1];unfold mx at key|-;omega
 by_cases hl:aa (C1 gs p<|Ct C gs o<|aa gs)>0
 ·have hr:=BO.1 (awn V) _ (aHL hp hl aR2)
  unfold rowB at hr;rw [CS] at hr;rcases hr with hr|hr
  ·refine F9 (vA λk hk=>?_) h1
   have h2:=hmx k hk
   have h3:gi (FJ gs rs (Ha C os ks gs bs l d t)<|aa gs) k=0:=A8
   have h4:=Ie (t2:=t) hs bv (hin k hk).1 (hin k hk).2
   rw [h3] at h2;unfold mx at h2;split at h2<;>omega
  ·refine F9 (aRa λk hk=>F9 (hmx k hk) ?_) (F9 (DJ hr)<|hL.lim o)
   have:=hBl k (hin k hk).1 (hin k hk).2
   exact NG
 ·have e:C1 gs p (Ct C gs o<|aa gs)=[]:=aNU A0
  rw [e] at h1|-;exact h1
end
def aWK:aD->T LV
 | [.v (ag J r),.v (ag J m)]=> .req ((0<=r/\r<=1000000)/\0<=m/\m<=3000000) (.ok<|.v<|ag J<|m*r / 1000000)
 |_=> .no
def ac6:aN:=[]
def akl:=vo (S:=aWK) func129 ac6 kN (λargs lv h=>by
 unfold aWK at h;split at h
 ·rename_i r m
  refine Aq (.req ((1000000:Y)≠0)<|.ok<|AA<|(AA<|m*r).tdiv 1000000) ?_;obtain ⟨⟨hr,hm⟩,rfl⟩:=h
  have h1:=apA (a:=m) (b:=r) hm.1 hm.2 hr.1 hr.2
  refine ⟨A0,B0 (λz=>LV.v<|ag J z) ?_⟩
  rw [AI (x:=m*r),I0 h1.1,AI]
 ·cases h)
def aMZ:aD->T LV
 | [.v (ag J n)]=> .ok (inB n 0 1000000)
 |_=> .no
def aRL:=vo (S:=aMZ) func128 ac6 kN (λargs lv h=>by
 unfold aMZ at h;split at h
 ·rename_i n
  refine Aq (.ok<|.v<|.bool<|(an<|n>=0)&&(an<|n<=1000000)) ?_;exact h
 ·cases h)
structure PZ where
 (low high r n:Y)
def aB6 (s:PZ):T (Rd PZ):=letI a:=AA<|s.low+(AA<|(AA<|s.high-s.low).tdiv 2);.br (an<|s.low<s.high) (.req ((2:Y)≠0)<|.req ((0<=s.r/\s.r<=1000000)/\0<=a/\a<=3000000)<|.br (an<|(a*s.r / 1000000)>=s.n) (.nx {s with high:=a})<|.nx {s with low:=AA<|a+1})<|.so (.exit 0) s
def lr (s:PZ):Prop:=s.low=0/\s.high=2*s.n+2/\s.r=999800/\0<=s.n/\s.n<=1000000
def YD (s:PZ):Prop:=(0<=s.low/\s.low<=wt s.n)/\(wt s.n<=s.high/\s.high<=2*s.n+2)/\s.r=999800/\0<=s.n/\s.n<=1000000
def j6 (s:PZ):aC:=(s.high-s.low).toNat
def aD7 (x:Ex) (s s':PZ):Prop:=x=.exit 0/\s'.low=wt s'.n
def am9:∀s,lr s->YD s:=by
 rintro s ⟨h0,h1,h2,h3,h4⟩
 have:=aXi h3
 exact zv
def ahz:Da YD j6 aD7 aB6:=by
 intro s hI;obtain ⟨⟨h0,h1⟩,⟨h2,h3⟩,h4,h5,h6⟩:=hI;refine AH (λc1=>?_) λc1=>?_
 ·have c1:s.low<s.high:=AX
  have hd:(s.high-s.low).tdiv 2=(s.high-s.low) / 2:=I0 A0
  have hm:AA (s.low+AA ((AA<|s.high-s.low).tdiv 2))=s.low+(s.high-s.low) / 2:=by
   rw [AI (x:=s.high-s.low),hd,AI (x:=(s.high-s.low) / 2),AI]
  rw [hm];refine AH (λc2=>?_) λc2=>?_
  ·rw [Ac,h4,aRH] at c2
   exact ⟨⟨⟨h0,h1⟩,⟨Aa,Aa⟩,h4,h5,h6⟩,by simp only [j6];omega⟩
  ·rw [DI,h4,aRH] at c2
   rw [AI (x:=s.low+(s.high-s.low) / 2+1)];exact ⟨⟨⟨A8,Aa⟩,⟨h2,h3⟩,h4,h5,h6⟩,by simp only [j6];omega⟩
 ·have c1:s.high<=s.low:=AX
  exact VL
def ZI:AR PZ:=⟨3,24,[0,1,2],[],λs=>[s.low,s.high,.fn 226 [.own 1 0,.own 0 0,.own 2 0]],λs=>[⟨[s.r],238,.cl,X⟩,⟨[.fn 129 []],305,.cl,X⟩,⟨[s.n],3,.cl,X⟩],λv b=>⟨AL v 0,AL v 1,Am b 0 0,Am b 2 0⟩,aB6,λs r=> {r with r:=s.r,n:=s.n},λs=>s,λ_ s=>s,[.exit 0],lr,YD,j6⟩
abbrev aJI:=ZI.run
abbrev avS:=ZI.At
def Ul:aN:=[aRL,akl]
def ao7:Ax:=kI Ul<|l0 Ul
def ag7:Rq YD aB6:=by
 intro s hI;refine ⟨λc1=>⟨?_,?_,λ_=>trivial,λ_=>trivial⟩,λ_=>trivial⟩
 all_goals ((obtain ⟨⟨h0,h1⟩,⟨h2,h3⟩,h4,h5,h6⟩:=hI;simp only [Ac] at c1;first|decide|(have hd:(s.high-s.low).tdiv 2=(s.high-s.low) / 2:=I0 A0;have hm:AA (s.low+AA ((AA<|s.high-s.low).tdiv 2))=s.low+(s.high-s.low) / 2:=(by rw [AI (x:=s.high-s.low),hd,AI (x:=(s.high-s.low) / 2),AI]);rw [hm];omega)))
def aTJ:ZI.Ok:={}
def aSl:ZI.Pf (aD7):=⟨am9,λs h=>rfl,ahz,ag7⟩
def au2:=s2 (b:=bN f225 0) aTJ aSl Ul ao7
def auX:Fi lr YD aD7 avS aJI:=AR.fin aTJ aSl
def aKK:aD->T LV
 | [.v (ag J n)]=> .tu #[wtA n,wtE n]
 |_=> .no
def ao6:Ax:=kI Ul<|la 1 func225 au2<|l0 Ul
def axx:=vo (S:=aKK) func150 Ul ao6 (λargs lv h=>by
 unfold aKK at h;split at h
 ·rename_i n
  refine Aq (.br (!(inB n 0 1000000)) (.tu #[(0:Y),(1:Y)])<|.req (ZI.q (⟨0,(AA<|(AA<|2*n)+2),999800,n⟩:PZ))<|.tu #[(aJI (⟨0,(AA<|(AA<|2*n)+2),999800,n⟩:PZ)).low,(0:Y)]) ?_;obtain rfl:=h;refine ⟨λc=>?_,λc=>?_⟩
  ·have c:=ntW c
   unfold wtA wtE;rw [c];rfl
  ·have c:=nfW c
   have hb:=B8.1 c
   have hE:lr ⟨0,AA<|AA (2*n)+2,999800,n⟩:=⟨rfl,by
    rw [AI (x:=2*n),AI],rfl,hb.1,hb.2⟩
   obtain ⟨_,_,_,q⟩:=auX _ hE;refine ⟨⟨hE,rfl,rfl⟩,?_⟩;rw [q];unfold wtA wtE;rw [AD c,AD c];exact rfl
 ·cases h)
def aVu:aD->T LV
 | [.v (ag J n),.v (ag J a),.v (ag J b)]=> .ok (inB n a b)
 |_=> .no
def ac5:aN:=[]
def aBb:=vo (S:=aVu) func112 ac5 kN (λargs lv h=>by
 unfold aVu at h;split at h
 ·rename_i n a b
  refine Aq (.ok<|.v<|.bool<|(an<|n>=a)&&(an<|n<=b)) ?_;exact h
 ·cases h)
def aMU:aD->T LV
 | [.v (.agg ⟨[ag J nu,ag J co,ag J am,ag J fr,ag J tk]⟩)]=> .ok (DN (nu,co,am,fr,tk))
 |_=> .no
def anl:aN:=[aBb]
def aRJ:=vo (S:=aMU) func148 anl kN (λargs lv h=>by
 unfold aMU at h;split at h
 ·rename_i nu co am fr tk
  refine Aq (.ok<|.v<|.bool<|(inB nu (1:Y) (1000000:Y))&&((inB co (0:Y) (15:Y))&&((inB am (0:Y) (80:Y))&&((inB fr (0:Y) (1000000:Y))&&(inB tk (1:Y) (1000:Y)))))) ?_;exact h
 ·cases h)
def aVv:aD->T LV
 | [.v (.agg ⟨[ag J nu,ag J co,ag J am,ag J fr,ag J tk]⟩),.v (.agg ⟨[ag J nu2,ag J co2,ag J am2,ag J fr2,ag J tk2]⟩)]=> .ok (KA (nu,co,am,fr,tk) (nu2,co2,am2,fr2,tk2))
 |_=> .no
def aWx:=vo (S:=aVv) func149 ac5 kN (λargs lv h=>by
 unfold aVv at h;split at h
 ·rename_i nu co am fr tk nu2 co2 am2 fr2 tk2
  refine Aq (.ok<|.v<|.bool<|(an<|nu2>nu)&&(an<|fr2>=fr)) ?_;exact h
 ·cases h)
def aMV:aD->T LV
 | [.v (.agg ⟨[ag J nu,ag J co,ag J am,ag J fr,ag J tk]⟩)]=> .req ((0<=fr/\fr<=1000000)/\0<=tk/\tk<=1000000) (.ok<|DS (nu,co,am,fr,tk))
 |_=> .no
def ank:aN:=[axx]
def aRK:=vo (S:=aMV) func113 ank kN (λargs lv h=>by
 unfold aMV at h;split at h
 ·rename_i nu co am fr tk
  refine Aq (.br ((wtE tk) !=0) (.ok fr)<|.ok<|AA<|(AA<|fr+10)+(wtA tk)) ?_;obtain ⟨⟨hf,ht⟩,rfl⟩:=h
  have c:=B8.2 ht
  have hw:=aXi ht.1
  have ea:wtA tk=wt tk:=by unfold wtA;rw [AD c]
  have ee:wtE tk=0:=by unfold wtE;rw [AD c]
  rw [ea,ee,AI (x:=fr+10),AI];exact ⟨λh=>As,λ_=>rfl⟩
 ·cases h)
structure OH where
 l:aL
 r:aM
 m:aL
 (n i:Y)
def aJ4:=bN f111 0
def jw (s:OH):T (Rd OH):=
 .br (an<|s.i<s.n) (.ix s.i (M s.m)<|.br (!(DN<|Ap s.m s.i)) (.so (.ret) {s with r:=X})<|.br (an<|s.i>0) (.ix (AA<|s.i-1) (M s.l)<|.br (!(KA (Ap s.l<|AA<|s.i-1)<|Ap s.m s.i)) (.so (.ret) {s with r:=X})<|.nx {s with i:=AA<|s.i+1})<|.nx {s with i:=AA<|s.i+1}) (.so (.exit 0) s)
def lq (s:OH):Prop:=s.i=0/\s.n=(M s.l:Y)/\s.n<=1000/\s.m=s.l
def YC (s:OH):Prop:=(0<=s.i/\s.i<=s.n)/\s.n=(M s.l:Y)/\s.n<=1000/\s.m=s.l/\∀j:aC,(j:Y)<s.i->HC s.l j=U
def j5 (s:OH):aC:=(s.n-s.i).toNat
def aD6 (x:Ex) (s s':OH):Prop:=(x=.exit 0/\∀j:aC,(j:Y)<s'.n->HC s'.l j=U)\/(x=.ret/\s'.r=X/\∃j:aC,(j:Y)<s'.n/\HC s'.l j=X)
def amj:∀s,lq s->YC s:=by
 rintro s ⟨h0,h2,h3,h4⟩
 exact ⟨A0,h2,h3,h4,λj hj=>A0⟩
def ahw:Da YC j5 aD6 jw:=by
 intro s hI;unfold jw;obtain ⟨⟨h0,h1⟩,h2,h3,h4,hA⟩:=hI;refine AH (λc1=>?_) λc1=>?_
 ·refine AH (λc2=>?_) (λc2=>?_)
  ·have c1:s.i<s.n:=AX
   rw [h4] at c2;refine .inr ⟨rfl,rfl,s.i.toNat,Aa,?_⟩;rw [Bs h0];unfold HC;rw [ntW c2];rfl
  ·refine AH (λc3=>?_) (λc3=>?_)
   ·refine AH (λc4=>?_) (λc4=>?_)
    ·have c1:s.i<s.n:=AX
     rw [h4] at c2
     have c3:0<s.i:=NI
     rw [AI (x:=s.i-1),h4] at c4;refine .inr ⟨rfl,rfl,s.i.toNat,Aa,?_⟩;rw [Bs h0];unfold HC;rw [nfW c2,IV A0,ntW c4];rfl
    ·have c1:s.i<s.n:=AX
     rw [h4] at c2
     have c3:0<s.i:=NI
     rw [AI (x:=s.i-1),h4] at c4
     have hg:HC s.l s.i=true:=by unfold HC;rw [nfW c2,IV A0,nfW c4];rfl
     rw [AI (x:=s.i+1)]
     exact ⟨⟨⟨Aa,Aa⟩,h2,h3,h4,λj hj=>by
      by_cases e:(j:Y)<s.i
      ·exact hA j e
      ·have e:(j:Y)=s.i:=oY
       show HC s.l j=U
       rw [e];exact hg⟩,by simp only [j5];omega⟩
   ·have c1:s.i<s.n:=AX
    rw [h4] at c2
    have hg:HC s.l s.i=true:=by unfold HC;rw [nfW c2,Ci oL];rfl
    rw [AI (x:=s.i+1)]
    exact ⟨⟨⟨Aa,Aa⟩,h2,h3,h4,λj hj=>by
     by_cases e:(j:Y)<s.i
     ·exact hA j e
     ·have e:(j:Y)=s.i:=oY
      rw [e];exact hg⟩,by simp only [j5];omega⟩
 ·have c1:s.n<=s.i:=AX
  exact .inl ⟨rfl,λj hj=>hA j A0⟩
def SD:AR OH:=⟨0,33,[0,2,8,9,10],[],λs=>[s.l,s.r,s.m,s.n,s.i],λ_=>[],λv b=>⟨B1 AO v 0,EB v 1,B1 AO v 2,AL v 3,AL v 4⟩,jw,λs r=> {s with r:=r.r,i:=r.i},λs=>s,λ_ s=>s,[.ret,.exit 0],lq,YC,j5⟩
abbrev aJH:=SD.run
abbrev aKw:=SD.At
def ag6:Rq YC jw:=by
 intro s hI;refine ⟨λc1=>⟨?_,λ_=>trivial,λc2=>⟨λc3=>⟨?_,λ_=>trivial,λ_=>trivial⟩,λ_=>trivial⟩⟩,λ_=>trivial⟩
 all_goals ((obtain ⟨⟨h0,h1⟩,h2,h3,h4,hA⟩:=hI;simp only [Ac] at c1;have hl:M s.m=M s.l:=B0 M h4;first|omega|(simp only [Ac,gt_iff_lt] at c3;rw [AI (x:=s.i-1)];omega)))
def ac4:aN:=[aRJ,aWx]
def aTI:SD.Ok:={}
def aSk:SD.Pf (aD6):=⟨amj,λs h=>rfl,ahw,ag6⟩
def asY:SA 0 aJ4 SD:=s1 aTI aSk ac4 kN
def auV:Fi lq YC aD6 aKw aJH:=AR.fin aTI aSk
def aMQ:aD->T LV
 | [.xl (.pair (.int J) (.pair (.int J) (.pair (.int J) (.pair (.int J) (.int J))))) l]=> .ok (B2 l)
 |_=> .no
def XC:=vm (S:=aMQ) func111 ac4 kN (L:=(λi=>if i=4 then SD.lp else Ao i)) (λb hb=>by
 rw [show BC _=[aJ4] by kernel_rfl] at hb
 simp only [B6,Bv,Bt] at hb;subst hb;exact asY) (λargs lv h=>by
 unfold aMQ at h;split at h
 ·rename_i l
  refine Aq (letI a:=(M l:Y);.br (an<|a>64) (.ok X)<|.req (SD.q (⟨l,X,l,a,0⟩:OH))<|.br (Bj (aKw (⟨l,X,l,a,0⟩:OH))<|.ret) (.ok (aJH (⟨l,X,l,a,0⟩:OH)).r)<|.ok U) ?_;obtain rfl:=h;refine ⟨λc=>B0 (λz=>LV.v<|.bool z) ?_,λc=>?_⟩
  ·have c:64<(M l:Y):=I3
   unfold B2;rw [IV A0];rfl
  ·have c:(M l:Y)<=64:=I3
   have hE:lq ⟨l,X,l,(M l:Y),0⟩:=⟨rfl,rfl,Aa,rfl⟩
   refine ⟨⟨hE,rfl,rfl⟩,?_⟩;obtain ⟨_,_,hq⟩:=auV _ hE;rcases hq with ⟨q1,q2⟩ |⟨q1,q2,j,q3,q4⟩<;>rw [q1]
   ·have e:D5 (M l) (HC l)=true:=DQ.2 (λj hj=>q2 j (by show (j:Y)<(M l:Y);omega))
    unfold B2;rw [Ci A0,e];exact ⟨λh=>As,λ_=>rfl⟩
   ·have e:D5 (M l) (HC l)=false:=Nd j (by have q3:(j:Y)<(M l:Y):=q3;omega) q4
    rw [q2];unfold B2;rw [Ci A0,e];exact ⟨λ_=>rfl,λh=>As⟩
 ·cases h)
structure PI where
 tick:Y
 l:aL
 (n i:Y)
 out:aL
def aIN:=bN f79 0
def aBz (s:PI):T (Rd PI):=letI a:=Ap s.l s.i;.br (an<|s.i<s.n) (.ix s.i (M s.l)<|.req ((0<=a.2.2.2.1/\a.2.2.2.1<=1000000)/\0<=a.2.2.2.2/\a.2.2.2.2<=1000000)<|.br (an<|(DS a)>s.tick) (.rb (M s.out) (M<|[a]) 40<|.re (M s.out+M ([a])) (s.out++([a]))<|.nx {s with i:=AA<|s.i+1,out:=s.out++([a])})<|.rl s.out<|.nx {s with i:=AA<|s.i+1})<|.rl s.out<|.so (.exit 0) s
def mB (s:PI):Prop:=s.i=0/\s.out=[]/\s.n=(M s.l:Y)/\s.n<=1000/\∀x∈s.l,DN x=U
def ZU (s:PI):Prop:=(0<=s.i/\s.i<=s.n)/\s.out=(s.l.take s.i.toNat).filter (LC s.tick)/\s.n=(M s.l:Y)/\s.n<=1000/\∀x∈s.l,DN x=U
def xG (s:PI):aC:=(s.n-s.i).toNat
def aD9 (x:Ex) (s s':PI):Prop:=x=.exit 0/\s'.out=s'.l.filter (LC s'.tick)
def aoY:∀s,mB s->ZU s:=by
 rintro s ⟨h0,h1,h2⟩
 exact ⟨A0,GN,h2⟩
def aiT:Da ZU xG aD9 aBz:=by
 intro s hI;obtain ⟨⟨h0,h1⟩,hA,h2,h3,h4⟩:=hI;refine AH (λc1=>?_) λc1=>?_
 ·have c1:s.i<s.n:=AX
  have e:=(Wf h0 (show s.i<M s.l by omega)).2
  rw [AI (x:=s.i+1)];refine AH (λc2=>?_) λc2=>?_
  all_goals
   refine ⟨⟨⟨A8,Aa⟩,?_,h2,h3,h4⟩,by simp only [xG];omega⟩
   simp only
   have c2:LC s.tick (Ap s.l s.i)=_:=c2
   rw [e,bI,hA,NC,c2]
   simp
 ·have c1:s.n<=s.i:=AX
  refine ⟨rfl,?_⟩;rw [hA,Dj A0]
def Ri:AR PI:=⟨0,33,[1,6,17,18,19],[.nl 6 139 AO],λs=>[s.tick,.os 0 5 0<|M s.out,s.l,s.n,s.i],λs=>[bV 139 AO s.out],λv b=>⟨AL v 0,B1 AO v 2,AL v 3,AL v 4,Ab AO b 0⟩,aBz,λs r=> {s with i:=r.i,out:=r.out},λs=>s,λ_ s=>s,[.exit 0],mB,ZU,xG⟩
abbrev aFE:=Ri.run
abbrev awq:=Ri.At
def afQ:Rq ZU aBz:=by
 intro s hI;refine ⟨λc1=>⟨?_,?_,λc2=>⟨?_,?_,ak⟩,λc2=>⟨A9,ak⟩⟩,λc1=>⟨A9,ak⟩⟩
 all_goals ((obtain ⟨⟨h0,h1⟩,hA,h2,h3,h4⟩:=hI;simp only [Ac] at c1;have hv:=Ka.1<|h4 _<|Ll h0 (show s.i<M s.l by omega);have hl:M s.out<=s.i.toNat:=A8;first|omega|(refine ⟨A0,?_,?_⟩<;>simp only [Bm,C3]<;>omega) |exact ⟨rfl,AJ⟩))
def ac3:aN:=[XC,aBb,aRK]
def aTS:Ri.Ok:={}
def aSu:Ri.Pf (aD9):=⟨aoY,λs h=>rfl,aiT,afQ⟩
def auB:SA 0 aIN Ri:=s1 aTS aSu ac3 kN
def avi:Fi mB ZU aD9 awq aFE:=AR.fin aTS aSu
def aLK:aD->T LV
 | [.xl (.pair (.int J) (.pair (.int J) (.pair (.int J) (.pair (.int J) (.int J))))) l,.v (ag J t)]=> .ok (.AQ [BX l t,DT l t])
 |_=> .no
def yG:=uS f79 aLK
def iR:VV 79 yG:=vm func79 ac3 kN (L:=(λi=>if i=5 then Ri.lp else Ao i)) (λb hb=>by
 rw [show BC _=[aIN] by kernel_rfl] at hb
 simp only [B6,Bv,Bt] at hb;subst hb;exact auB) (λargs lv h=>by
 unfold aLK at h;split at h
 ·rename_i l t
  refine Aq (letI a:=(aFE (⟨t,l,(M l:Y),(0:Y),([]:aL)⟩:PI));.br ((!(B2 l)) ||(!(inB t (0:Y) (1100000:Y)))) (.ok<|.AQ [.xl AO ([]:aL),(1:Y)])<|.r0 Le<|.req (Ri.q (⟨t,l,(M l:Y),(0:Y),([]:aL)⟩:PI))<|.rz a.out<|.ok<|.AQ [((a.out.drop 0).take<|M a.out),(0:Y)]) ?_;obtain rfl:=h;refine ⟨λc=>?_,λc=>?_⟩
  ·have c:L0 l t=false:=aPl
   unfold BX DT;rw [c];rfl
  ·have c:L0 l t=true:=aPl
   have hv:B2 l=true:=A8
   have hl:=GP hv
   have hE:mB ⟨t,l,(M l:Y),0,[]⟩:=⟨rfl,rfl,rfl,Aa,hl.2⟩
   obtain ⟨_,_,q1,q2⟩:=avi _ hE
   have q2:(aFE ⟨t,l,(M l:Y),0,[]⟩).out=l.filter (LC t):=q2
   refine ⟨A9,⟨hE,rfl,rfl⟩,A0,?_⟩
   show LV.AQ [LV.xl _ _,_]=_
   unfold BX DT
   grind
 ·cases h)
structure O8 where
 l:aL
 (fL tick e:Y)
 m:aL
 (k i:Y)
def aIb:=bN f106 0
def aBo (s:O8):T (Rd O8):=
 .br (an<|s.i<s.k) (.ix s.i (M s.m)<|.br (an<|(Ap s.m s.i).2.1>=s.fL) (.so (.ret) {s with e:=(1:Y)})<|.nx {s with i:=AA<|s.i+1}) (.so (.exit 0) s)
def pD (s:O8):Prop:=s.i=0/\s.k=(M s.m:Y)/\s.k<=1000
def Zi (s:O8):Prop:=(0<=s.i/\s.i<=s.k)/\s.k=(M s.m:Y)/\s.k<=1000/\∀x∈s.m.take s.i.toNat,x.2.1<s.fL
def wY (s:O8):aC:=(s.k-s.i).toNat
def aDs (x:Ex) (s s':O8):Prop:=(x=.exit 0/\below s'.fL s'.m=U)\/(x=.ret/\s'.e=1/\below s'.fL s'.m=X)
def aoX:∀s,pD s->Zi s:=by
 rintro s ⟨h0,h1,h2⟩
 exact ⟨A0,h1,h2,GN⟩
def akD:Da Zi wY aDs aBo:=by
 intro s hI;obtain ⟨⟨h0,h1⟩,h2,h3,h4⟩:=hI;refine AH (λc1=>?_) λc1=>?_
 ·have c1:s.i<s.k:=AX
  refine AH (λc2=>?_) λc2=>?_
  ·refine .inr ⟨rfl,rfl,?_⟩
   unfold below;rw [List.all_eq_false];exact ⟨Ap s.m s.i,Ll h0 A8,Dl⟩
  ·rw [AI (x:=s.i+1)]
   refine ⟨⟨⟨A8,A8⟩,h2,h3,λx hx=>?_⟩,by simp only [wY];omega⟩
   rw [(Wf h0 A8).2,Bf,Hz] at hx;rcases hx with hx|rfl
   ·exact h4 x hx
   ·simpa using c2
 ·have c1:s.k<=s.i:=AX
  refine .inl ⟨rfl,?_⟩;rw [Dj A0] at h4;unfold below
  grind
def Rp:AR O8:=⟨0,48,[0,1,2,6,7,26,27,28],[],λs=>[s.l,s.fL,s.tick,.v<|.slice aj 0 0,s.e,s.m,s.k,s.i],λ_=>[],λv b=>⟨B1 AO v 0,AL v 1,AL v 2,AL v 4,B1 AO v 5,AL v 6,AL v 7⟩,aBo,λs r=> {s with e:=r.e,i:=r.i},λs=>s,λ_ s=>s,[.ret,.exit 0],pD,Zi,wY⟩
abbrev aK1:=Rp.run
abbrev aLA:=Rp.At
def afG:Rq Zi aBo:=by
 exact aNy
def RH:aN:=[XC,aBb,aRK]
def abk:Ax:=kI RH<|l0 RH
def aUA:Rp.Ok:={}
def aSa:Rp.Pf (aDs):=⟨aoX,λs h=>rfl,akD,afG⟩
def auQ:SA 0 aIb Rp:=s1 aUA aSa RH abk
def axK:Fi pD Zi aDs aLA aK1:=AR.fin aUA aSa
def aCM:Array Tmp×Code×Code:=((JA<|f106.body.getD .skip)[0]?).getD (#[],.skip,.skip)
def alL:aX3:=aCM.1
def amy:bB:=aCM.2.1
def amo:bB:=aCM.2.2
structure Nn where
 m:aL
 (k i:Y)
 o:aB
 q:aL
 t:Y
 st:LS
def aBn (s:Nn):T (Rd Nn):=letI b:=Ap s.m s.i;letI c:=s.o.getD b.2.1.toNat<|Ty.dflt A7;letI a:=s.o.set b.2.1.toNat (if c<b.2.2.1 then b.2.2.1 else c);.br (an<|s.i<s.k) (.ix s.i (M s.m)<|.br (an<|b.2.2.2.1>s.t) (.rl s.o<|.so (.exit 0) s)<|.req ((0<=b.2.2.2.1/\b.2.2.2.1<=1000000)/\0<=b.2.2.2.2/\b.2.2.2.2<=1000000)<|.br (an<|(DS b)<=s.t) (.rl s.o<|.nx {s with i:=AA<|s.i+1})<|.ik b.2.1 (M s.o)<|.ik b.2.1 (M s.o)<|.re (M s.o) a<|.nx {s with i:=AA<|s.i+1,o:=a})<|.rl s.o<|.so (.exit 0) s
def pC (s:Nn):Prop:=s.st=.ready/\s.i=0/\s.k=(M s.m:Y)/\s.k<=1000/\(∀x∈s.m,DN x=U/\x.2.1<(M s.o:Y))/\s.m.Pairwise (λa b=>a.1<b.1/\a.2.2.2.1<=b.2.2.2.1)
def mS (s:Nn):Prop:=s.st=.ready/\(0<=s.i/\s.i<=s.k)/\s.k=(M s.m:Y)/\s.k<=1000/\(∀x∈s.m,DN x=U/\x.2.1<(M s.o:Y))/\s.m.Pairwise (λa b=>a.1<b.1/\a.2.2.2.1<=b.2.2.2.1)
def jD (s:Nn):aC:=(s.k-s.i).toNat
def acj (x:Ex) (s s':Nn):Prop:=x=.exit 0
def aoW:∀s,pC s->mS s:=by
 rintro s ⟨h0,h1,h2⟩
 exact ⟨h0,A0,h2⟩
def akC:Da mS jD acj aBn:=by
 intro s hI;obtain ⟨hs,⟨h0,h1⟩,h2,h3,h4,h5⟩:=hI;refine AH (λc1=>?_) λc1=>rfl
 have c1:s.i<s.k:=AX
 rw [AI (x:=s.i+1)];refine AH (λc2=>rfl) λc2=>AH (λc3=>?_) λc3=>?_
 ·exact ⟨⟨hs,⟨A8,Aa⟩,h2,h3,h4,h5⟩,by simp only [jD];omega⟩
 ·exact ⟨⟨hs,⟨A8,A8⟩,h2,h3,λx hx=>A8,h5⟩,by simp only [jD];omega⟩
def ZN:AR Nn:=⟨6,27,[0,2,6,7,8],[],λs=>[.CU 5,.own 4 0,s.m,s.k,s.i],λs=>[bV 3 A7 s.o,⟨[.os 0 1 0<|M s.o],29,.cl,X⟩,⟨[.fn 141 [.own 1 0]],198,.cl,X⟩,⟨[s.q],44,.cl,X⟩,⟨[s.t],3,.cl,X⟩,⟨[.junk,.junk,.junk,.junk,.junk,.junk,.junk,.junk,.junk,.junk,.junk,.own 2 0,.junk,.junk,.junk,.junk,.junk,.junk,.junk,.junk,.junk,.junk,.junk,.junk,.junk,.junk,.junk,.junk,.junk,.junk,.junk,.junk,.junk,.junk,.junk,.junk,.junk,.junk,.junk,.junk,.junk,.junk,.junk,.junk,.junk,.junk,.junk,.junk],0,.Cq alL amy amo s.st,X⟩],λv b=>⟨B1 AO v 2,AL v 3,AL v 4,Ab A7 b 0,AF AO b 3 0,Am b 4 0,.ready⟩,aBn,λs r=> {r with m:=s.m,k:=s.k,q:=s.q,t:=s.t,st:=s.st},λs=> {s with st:=.ready},λx s=> {s with st:=(match x with| .exit 0=> .ready|_=> .ready)},[.exit 0],pC,mS,jD⟩
abbrev aFi:=ZN.run
abbrev ax5:=ZN.At
def afF:Rq mS aBn:=by
 intro s hI;refine ⟨λc1=>⟨?_,λc2=>⟨A9,ak⟩,λc2=>⟨?_,λc3=>⟨A9,ak⟩,λc3=>⟨?_,?_,?_,?_,?_,ak⟩⟩⟩,λc1=>⟨A9,ak⟩⟩
 all_goals ((obtain ⟨hs,⟨h0,h1⟩,h2,h3,h4,h5⟩:=hI;simp only [Ac] at c1;have hv:=(h4 _<|Ll h0 (show s.i<M s.m by omega)).2;have hl:=Ka.1 (h4 _<|Ll h0 (show s.i<M s.m by omega)).1;first|omega|exact ⟨rfl,AJ⟩))
def aU9:ZN.Ok:={}
def aSZ:ZN.Pf (acj):=⟨aoW,λs h=>by
 obtain ⟨m,k,i,o,q,t,st⟩:=s
 have e:=h.1
 subst e;rfl,akC,afF⟩
def auP:=s2 (b:=bN f181 0) aU9 aSZ RH abk
def axJ:Rs pC ax5 aFi (λs:Nn=>((s.m.drop s.i.toNat).filter<|Fc s.t).foldl Jh s.o) (λx s' (v:aB)=>x=.exit 0/\s'.o=v):=Dp aU9 aSZ (λs hI=>by
  obtain ⟨hs,⟨h0,h1⟩,h2,h3,h4,h5⟩:=hI;refine AH (λc1=>?_) λc1=>?_
  ·have c1:s.i<s.k:=AX
   have e:=(Wf h0 (show s.i<(M s.m:Y) by omega)).1
   rw [AI (x:=s.i+1)];refine AH (λc2=>?_) λc2=>AH (λc3=>?_) λc3=>?_
   ·refine ⟨rfl,?_⟩
    have c2:(Ap s.m s.i).2.2.2.1>s.t:=Dl
    have hp:(s.m.drop s.i.toNat).Pairwise (λa b=>a.1<b.1/\a.2.2.2.1<=b.2.2.2.1):=List.Pairwise.sublist (List.drop_sublist _ _) h5
    rw [e,nN] at hp;rw [List.filter_eq_nil_iff.2]
    ·rfl
    ·rw [e]
     intro x hx;unfold Fc;rw [IV,QM]
     ·decide
     ·rcases B6.1 hx with rfl|hx
      ·omega
      ·have:=(hp.1 x hx).2
       omega
   ·show List.foldl _ _ _=List.foldl _ _ _
    have c3:DS (Ap s.m s.i)<=s.t:=NI
    have hb:¬Fc s.t (Ap s.m s.i)=true:=by
     unfold Fc;rw [IV (p:=DS _>_) A0,Sv]
     decide
    simp only
    grind
   ·show List.foldl _ _ _=List.foldl _ _ _
    have c2:(Ap s.m s.i).2.2.2.1<=s.t:=Dl
    have c3:s.t<DS (Ap s.m s.i):=NI
    have hb:Fc s.t (Ap s.m s.i)=true:=by
     unfold Fc;rw [Ci c2,Ci c3];rfl
    rw [e,NC,AD hb,KK];rfl
  ·have c1:s.k<=s.i:=A8
   refine ⟨rfl,?_⟩;rw [FA A0];rfl)
def aLv:aD->T LV
 | [.xl (.pair (.int J) (.pair (.int J) (.pair (.int J) (.pair (.int J) (.int J))))) l,.v (ag J n),.v (ag J t)]=> .ok (.AQ [.xl A7<|HP l n t,JY l n t])
 |_=> .no
def ao5:Ax:=kI RH<|la 1 func181 auP<|l0 RH
def XE:=vm (S:=aLv) func106 RH ao5 (L:=(λi=>if i=4 then Rp.lp else Ao i)) (λb hb=>by
 rw [show BC _=[aIb] by kernel_rfl] at hb
 simp only [B6,Bv,Bt] at hb;subst hb;exact auQ) (λargs lv h=>by
 unfold aLv at h;split at h
 ·rename_i l n t
  refine Aq (letI b:=(aq n.toNat (0:Y));letI d:=(M l:Y);letI a:=(aFi (⟨l,d,0,b,l,t,.ready⟩:Nn));.br ((!(B2 l)) ||((!(inB n (0:Y) (16:Y))) ||(!(inB t (0:Y) (1100000:Y))))) (.ok<|.AQ [.xl A7 ([]:aB),(1:Y)])<|.req (Rp.q (⟨l,n,t,0,l,d,0⟩:O8))<|.br (Bj (aLA (⟨l,n,t,0,l,d,0⟩:O8))<|.ret) (.ok<|.AQ [.xl A7 ([]:aB),(aK1 (⟨l,n,t,0,l,d,0⟩:O8)).e])<|.rm 8 n<|.re n.toNat b<|.req (ZN.q (⟨l,d,0,b,l,t,.ready⟩:Nn))<|.rz a.o<|.ok<|.AQ [.xl A7<|(a.o.drop 0).take<|M a.o,(0:Y)]) ?_;obtain rfl:=h
  have bad:K8 l n t=X->LV.AQ [.xl A7 ([]:aB),.v<|ag J 1]=LV.AQ [.xl A7<|HP l n t,.v<|ag J<|JY l n t]:=λc=>by
   unfold HP JY;rw [c];rfl
  refine ⟨λc=>bad ?_,λc=>?_⟩
  ·unfold K8
   grind
  have c:(B2 l&&(inB n 0 16&&inB t 0 1100000))=true:=A8
  have c':=c
  rw [AY,AY,B8,B8] at c';obtain ⟨hv,hn,ht⟩:=c'
  have hl:=GP hv
  have hE:pD ⟨l,n,t,0,l,(M l:Y),0⟩:=⟨rfl,rfl,Aa⟩
  refine ⟨⟨hE,rfl,rfl⟩,?_⟩;obtain ⟨_,_,hq⟩:=axK _ hE;rcases hq with ⟨q1,q2⟩ |⟨q1,q2,q3⟩<;>rw [q1]
  ·refine ⟨λh=>As,λ_=>?_⟩
   have q2:below n l=true:=q2
   have hE2:pC ⟨l,(M l:Y),0,aq n.toNat 0,l,t,.ready⟩:=⟨rfl,rfl,rfl,Aa,λx hx=>⟨hl.2 x hx,by
    have:=DJ<|BO.1 q2 x hx
    simp only [CV];omega⟩,aGq hv⟩
   obtain ⟨_,q4⟩:=axJ _ hE2;refine ⟨A0,⟨rfl,AJ⟩,⟨hE2,rfl,rfl⟩,A0,?_⟩;rw [CZ,El,q4];unfold HP JY K8;rw [c,q2];rfl
  ·have q3:below n l=false:=q3
   rw [q2];exact ⟨λ_=>bad (by unfold K8;rw [q3,Sv]),λh=>As⟩
 ·cases h)
def aMP:aD->T LV
 | [.v (.agg ⟨[.string nm,ag J at_,ag J ph,ag J mi,ag J ma,ag J st,ag J fb,ag J ow]⟩)]=> .ok (Ec mi ma st)
 |_=> .no
def pV:aN:=[]
def aul (nm:bz) (at_ ph mi ma st fb ow:Y):Bw prog AT (pV) kN Ao f233 [.v<|.agg #[.string nm,at_,ph,mi,ma,st,fb,ow]]=.br ((an<|mi<1) ||((an<|mi>ma) ||((an<|ma>80) ||((an<|st<1) ||(an<|st>80))))) (.ok (0:Y)) (.req (st≠0)<|.ok<|AA<|(AA<|(AA<|ma-mi).tdiv st)+2):=AV
def ayg:=vo (S:=aMP) func233 pV kN (λargs lv h=>by
 refine ⟨?_⟩;unfold aMP at h;split at h
 ·simp only [canL,canX]
  rw [aul];rename_i mi ma st _ _;obtain rfl:=h;refine ⟨λc=>B0 (λz=>LV.v<|ag J z) ?_,λc=>⟨?_,B0 (λz=>LV.v<|ag J z) ?_⟩⟩
  ·have:Dv mi ma st=false:=by
    rw [IX];intro h;have:=Ig.1 h;simp at c;omega
   rw [aHu this]
  ·grind
  ·have hh:=Ig.2 VZ
   obtain ⟨h1,h2,h3,h4,h5⟩:=Ig.1 hh
   have:=fq (x:=ma-mi) (st:=st) A0 A0
   rw [AI (x:=ma-mi),I0 A0,AI (x:=(ma-mi) / st),AI]
   simp [Ec,hh]
 ·cases h)
def aLu:aD->T LV
 | [.v (.agg ⟨[.string nm,ag J at_,ag J ph,ag J mi,ag J ma,ag J st,ag J fb,ag J ow]⟩),.v (ag J k)]=> .req ((1<=mi/\mi<=80/\1<=st/\st<=80)/\0<=k/\k<=1000) (.ok<|EA mi st k)
 |_=> .no
def auv (nm:bz) (at_ ph mi ma st fb ow k:Y):Bw prog AT (pV) kN Ao f207 [.v<|.agg #[.string nm,at_,ph,mi,ma,st,fb,ow],k]=.br (k==0) (.ok (0:Y)) (.ok<|AA<|mi+(AA<|(AA<|k-1)*st)):=AV
def XP:=vo (S:=aLu) func207 pV kN (λargs lv h=>by
 refine ⟨?_⟩;unfold aLu at h;split at h
 ·simp only [canL,canX]
  rw [auv];rename_i mi _ st _ _ k;obtain ⟨⟨⟨h1,h2,h3,h4⟩,h5,h6⟩,rfl⟩:=h;refine ⟨λc=>B0 (λz=>LV.v<|ag J z) ?_,λc=>B0 (λz=>LV.v<|ag J z) ?_⟩
  ·have c:k=0:=A8
   simp [EA,c]
  ·have c:k≠0:=A8
   have:=ahr (a:=k-1) (b:=st) A0 A0 A0 A0
   rw [AI (x:=k-1),AI (x:=(k-1)*st),AI]
   simp [EA,c]
 ·cases h)
def aMT:aD->T LV
 | [.v (.agg ⟨[.string nm,ag J at_,ag J ph,ag J mi,ag J ma,ag J st,ag J fb,ag J ow]⟩),.v (ag J a)]=> .req (a<=9223372036854775807) (.ok<|Hr mi ma st a)
 |_=> .no
def aNF:aN:=[ayg]
def aum (nm:bz) (at_ ph mi ma st fb ow a:Y):letI b:=(AA<|(AA<|a-mi).tdiv st)+1;letI c:=Ec mi ma st;Bw prog AT (aNF) kN Ao f205 [.v<|.agg #[.string nm,at_,ph,mi,ma,st,fb,ow],a]=.br ((c==0) ||(an<|a<0)) (.ok<|.v<|ag J (-1)) (.br (an<|a<mi) (.ok (0:Y))<|.req (st≠0)<|.ok<|.v<|ag J (if (AA b)<(AA<|c-1) then AA b else AA (c-1))):=AV
def XN:=vo (S:=aMT) func205 aNF kN (λargs lv h=>by
 refine ⟨?_⟩;unfold aMT at h;split at h
 ·simp only [canL,canX]
  rw [aum];rename_i mi ma st _ _ a;obtain ⟨ha,rfl⟩:=h
  have hb:=aU6 (mi:=mi) (ma:=ma) (st:=st)
  refine ⟨λc=>B0 (λz=>LV.v<|ag J z) ?_,λc=>⟨λc2=>B0 (λz=>LV.v<|ag J z) ?_,λc2=>?_⟩⟩
  ·have c:Dv mi ma st=X\/a<0:=by
    simp at c
    rcases c with c|c
    ·left
     cases e:Dv mi ma st with
     |false=>rfl
     |true=>have:=uB e;omega
    ·exact .inr c
   simp only [Hr,AD c]
  all_goals
   simp at c c2
   have hh:Dv mi ma st=true:=by
    cases e:Dv mi ma st with
    |true=>rfl
    |false=>exact absurd (aHu e) c.1
   have hn:¬(Dv mi ma st=X\/a<0):=A8
   have:=Ig.1 hh
  ·simp only [Hr,AE hn,AD c2]
  ·have:=fq (x:=a-mi) (st:=st) A0 A0
   refine ⟨A0,B0 (λz=>LV.v<|ag J z) ?_⟩
   rw [AI (x:=a-mi),I0 A0,AI (x:=(a-mi) / st),AI (x:=(a-mi) / st+1),AI (x:=Ec mi ma st-1)];simp only [Hr,AE hn,AE (show ¬a<mi by omega)]
   omega
 ·cases h)
def aGm:aD->T LV
 | [.v (.string w)]=> .ok (isIn ke w)
 |_=> .no
def Vg:aN:=[]
def aH3:=vo (S:=aGm) func193 Vg kN (λargs lv h=>by
 unfold aGm at h;split at h
 ·rename_i w
  refine Aq (.br (w.toList==(av #[108,105,109,105,116]).toList) (.ok U)<|.br (w.toList==(av #[110,101,117,116,114,97,108]).toList) (.ok U)<|.br (w.toList==(av #[102,117,115,101]).toList) (.ok U)<|.br (w.toList==(av #[116,104,101,114,109,97,108]).toList) (.ok U)<|.br (w.toList==(av #[102,114,111,109]).toList) (.ok U)<|.br (w.toList==(av #[97,116]).toList) (.ok U)<|.br (w.toList==(av #[112,104,97,115,101,115]).toList) (.ok U)<|.br (w.toList==(av #[97,109,112,115]).toList) (.ok U)<|.br (w.toList==(av #[102,97,108,108,98,97,99,107]).toList) (.ok U)<|.br (w.toList==(av #[111,119,110,101,114]).toList) (.ok U)<|.br (w.toList==(av #[99,97,114,100]).toList) (.ok U)<|.br (w.toList==(av #[114,97,110,107]).toList) (.ok U)<|.br (w.toList==(av #[99,104,97,114,103,101,114]).toList) (.ok U)<|.ok X) ?_;obtain rfl:=h;simp only [XQ];unfold isIn ke;simp only [bE,nh];refine ⟨λc0=>aAL,λc0=>?_⟩
  rw [c0,DC];refine ⟨λc1=>aAM,λc1=>?_⟩
  rw [c1,DC];refine ⟨λc2=>aAj,λc2=>?_⟩
  rw [c2,DC];refine ⟨λc3=>aAk,λc3=>?_⟩
  rw [c3,DC];refine ⟨λc4=>aAl,λc4=>?_⟩
  rw [c4,DC];refine ⟨λc5=>aAm,λc5=>?_⟩
  rw [c5,DC];refine ⟨λc6=>by simp [c6,T.all],λc6=>?_⟩
  rw [c6,DC];refine ⟨λc7=>by simp [c7,T.all],λc7=>?_⟩
  rw [c7,DC];refine ⟨λc8=>by simp [c8,T.all],λc8=>?_⟩
  rw [c8,DC];refine ⟨λc9=>by simp [c9,T.all],λc9=>?_⟩
  rw [c9,DC];refine ⟨λc10=>by simp [c10,T.all],λc10=>?_⟩
  rw [c10,DC];refine ⟨λc11=>by simp [c11,T.all],λc11=>?_⟩
  rw [c11,DC];refine ⟨λc12=>by simp [c12,T.all],λc12=>?_⟩
  rw [c12,DC];rfl
 ·cases h)
def aIG:aD->T LV
 | [.v (.string w)]=> .ok (isIn ru w)
 |_=> .no
def aJG:=vo (S:=aIG) func194 Vg kN (λargs lv h=>by
 unfold aIG at h;split at h
 ·rename_i w
  refine Aq (.br (w.toList==(av #[115,116,97,114,116]).toList) (.ok U)<|.br (w.toList==(av #[101,110,101,114,103,121]).toList) (.ok U)<|.br (w.toList==(av #[116,105,109,101]).toList) (.ok U)<|.br (w.toList==(av #[105,100,108,101]).toList) (.ok U)<|.br (w.toList==(av #[99,97,112]).toList) (.ok U)<|.br (w.toList==(av #[116,97,120]).toList) (.ok U)<|.ok X) ?_;obtain rfl:=h;simp only [XQ];unfold isIn ru;simp only [bE,nh];refine ⟨λc0=>aAL,λc0=>?_⟩
  rw [c0,DC];refine ⟨λc1=>aAM,λc1=>?_⟩
  rw [c1,DC];refine ⟨λc2=>aAj,λc2=>?_⟩
  rw [c2,DC];refine ⟨λc3=>aAk,λc3=>?_⟩
  rw [c3,DC];refine ⟨λc4=>aAl,λc4=>?_⟩
  rw [c4,DC];refine ⟨λc5=>aAm,λc5=>?_⟩
  rw [c5,DC];rfl
 ·cases h)
def aIE:aD->T LV
 | [.v (.string w)]=> .ok (isIn words w)
 |_=> .no
def aJF:=vo (S:=aIE) func228 Vg kN (λargs lv h=>by
 unfold aIE at h;split at h
 ·rename_i w
  refine Aq (.br (w.toList==(av #[111,110]).toList) (.ok U)<|.br (w.toList==(av #[119,111,114,107]).toList) (.ok U)<|.br (w.toList==(av #[115,97,116,117,114,100,97,121]).toList) (.ok U)<|.br (w.toList==(av #[115,117,110,100,97,121]).toList) (.ok U)<|.br (w.toList==(av #[98,101,116,119,101,101,110]).toList) (.ok U)<|.br (w.toList==(av #[112,101,114]).toList) (.ok U)<|.br (w.toList==(av #[102,114,101,101]).toList) (.ok U)<|.ok X) ?_;obtain rfl:=h;simp only [XQ];unfold isIn words;simp only [bE,nh];refine ⟨λc0=>aAL,λc0=>?_⟩
  rw [c0,DC];refine ⟨λc1=>aAM,λc1=>?_⟩
  rw [c1,DC];refine ⟨λc2=>aAj,λc2=>?_⟩
  rw [c2,DC];refine ⟨λc3=>aAk,λc3=>?_⟩
  rw [c3,DC];refine ⟨λc4=>aAl,λc4=>?_⟩
  rw [c4,DC];refine ⟨λc5=>aAm,λc5=>?_⟩
  rw [c5,DC];refine ⟨λc6=>by simp [c6,T.all],λc6=>?_⟩
  rw [c6,DC];rfl
 ·cases h)
def aMY:aD->T LV
 | [.v (.string w)]=> .ok (Vl 1 kinds w)
 |_=> .no
def ayi:=vo (S:=aMY) func227 Vg kN (λargs lv h=>by
 unfold aMY at h;split at h
 ·rename_i w
  refine Aq (.br (w.toList==(av #[102,101,101,100,101,114]).toList) (.ok (1:Y))<|.br (w.toList==(av #[99,97,98,108,101]).toList) (.ok (2:Y))<|.br (w.toList==(av #[111,119,110,101,114]).toList) (.ok (3:Y))<|.br (w.toList==(av #[99,111,110,116,114,97,99,116]).toList) (.ok (4:Y))<|.br (w.toList==(av #[99,104,97,114,103,101,114]).toList) (.ok (5:Y))<|.br (w.toList==(av #[98,97,121]).toList) (.ok (6:Y))<|.br (w.toList==(av #[116,97,114,105,102,102]).toList) (.ok (7:Y))<|.ok (0:Y)) ?_;obtain rfl:=h;simp only [XQ];simp only [Vl,kinds];refine ⟨λc0=>by rw [AD c0];rfl,λc0=>?_⟩
  rw [AE<|by simp [c0]]
  refine ⟨λc1=>by rw [AD c1];rfl,λc1=>?_⟩
  rw [AE<|by simp [c1]]
  refine ⟨λc2=>by rw [AD c2];rfl,λc2=>?_⟩
  rw [AE<|by simp [c2]]
  refine ⟨λc3=>by rw [AD c3];rfl,λc3=>?_⟩
  rw [AE<|by simp [c3]]
  refine ⟨λc4=>by rw [AD c4];rfl,λc4=>?_⟩
  rw [AE<|by simp [c4]]
  refine ⟨λc5=>by rw [AD c5];rfl,λc5=>?_⟩
  rw [AE A8];refine ⟨λc6=>by rw [AD c6];rfl,λc6=>?_⟩
  rw [AE A8];rfl
 ·cases h)
def aIF:aD->T LV
 | [.v (.string w)]=> .ok (yM w)
 |_=> .no
def aov:aN:=[aH3,aJG,ayi,aJF]
def asG:=vo (S:=aIF) func192 aov kN (λargs lv h=>by
 unfold aIF at h;split at h
 ·rename_i w
  refine Aq (.ok<|.v<|.bool (((Vl 1 kinds w) !=0) ||((isIn ke w) ||((isIn ru w) ||(isIn words w))))) ?_;obtain rfl:=h;rw [aI1 1 kinds _ Ad];rfl
 ·cases h)
structure MD where
 text:bz
 r:aM
 i:Y
def aKj:=bN f191 0
def pO (s:MD):T (Rd MD):=letI a:=Ja s.text s.i;.br (an<|s.i<(s.text.size:Y)) (.req (0<=s.i/\s.i<(s.text.size:Y))<|.br (if an (a>=97) then !(an<|a<=122)&&(if an (a>=48) then !(an<|a<=57)&&(!(a==95)) else !(a==95)) else if an (a>=48) then !(an<|a<=57)&&(!(a==95)) else !(a==95)) (.so (.ret) {s with r:=X})<|.nx {s with i:=AA<|s.i+1})<|.so (.exit 0) s
def OQ (s:MD) (j:Y):aM:=an (j<1) ||(chB<|Ja s.text j)
def qL (s:MD):Prop:=s.i=1/\1<=(s.text.size:Y)/\(s.text.size:Y)<=1000/\True
def dO (s:MD):Prop:=1<=s.i/\s.i<=(s.text.size:Y)/\(s.text.size:Y)<=1000/\(True)/\∀j:aC,(j:Y)<s.i->OQ s j=U
def aCe (s:MD):aC:=((s.text.size:Y)-s.i).toNat
def yj (x:Ex) (s s':MD):Prop:=(x=.exit 0/\∀j:aC,(j:Y)<(s'.text.size:Y)->OQ s' j=U)\/(x=.ret/\s'.r=X/\∃j:aC,(j:Y)<(s'.text.size:Y)/\OQ s' j=X)
def apS:∀s,qL s->dO s:=by
 rintro s ⟨h0,h1,h2,h3⟩
 exact ⟨A0,A0,h2,h3,λj hj=>by unfold OQ;rw [Ci A0];rfl⟩
def anJ:Da dO aCe yj pO:=by
 intro s hI;unfold pO;obtain ⟨h0,h1,h2,h3,h4⟩:=hI;refine AH (λc1=>AH (λc2=>?_) λc2=>?_) λc1=>?_
 ·have c1:s.i<(s.text.size:Y):=AX
  refine .inr ⟨rfl,rfl,s.i.toNat,Aa,?_⟩;rw [Bs A0]
  have hg:OQ s s.i=false:=aPK
  exact hg
 ·have c1:s.i<(s.text.size:Y):=AX
  have hg:OQ s s.i=true:=aPK
  rw [AI (x:=s.i+1)];refine ⟨⟨Aa,Aa,h2,h3,λj hj=>?_⟩,by simp only [aCe];omega⟩
  by_cases hji:(j:Y)<s.i
  ·exact h4 j hji
  ·have:(j:Y)=s.i:=A8
   rw [this];exact hg
 ·have c1:(s.text.size:Y)<=s.i:=AX
  exact bZ
def SZ:AR MD:=⟨0,51,[0,2,3],[],λs=>[.v<|.string s.text,s.r,s.i],λ_=>[],λv b=>⟨gSr<|v.getD 0 .junk,EB v 1,AL v 2⟩,pO,λs r=> {r with text:=s.text},λs=>s,λ_ s=>s,[.ret,.exit 0],qL,dO,aCe⟩
abbrev iM:=SZ.run
abbrev aVB:=SZ.At
def alj:Rq dO pO:=by
 exact QS
def aaG:SZ.Ok:={}
def aak:SZ.Pf (yj):=⟨apS,λs h=>rfl,anJ,alj⟩
def azu:SA 0 aKj SZ:=s1 aaG aak Vg kN
def aim:Fi qL dO yj aVB iM:=AR.fin aaG aak
def aJ7:aD->T LV
 | [.v (.string w)]=> .ok (gwB w)
 |_=> .no
def asI:=vm (S:=aJ7) func191 Vg kN (L:=(λi=>if i=4 then SZ.lp else Ao i)) (λb hb=>by
 rw [show BC _=[aKj] by kernel_rfl] at hb
 simp only [B6,Bv,Bt] at hb;subst hb;exact azu) (λargs lv h=>by
 unfold aJ7 at h;split at h
 ·rename_i w
  refine Aq (letI a:=(w.size:Y);.br (an<|a<1) (.ok X)<|.br (an<|a>12) (.ok X)<|.req (0<=(0:Y)/\(0:Y)<a)<|.br (an<|(Ja w (0:Y))<97) (.ok X)<|.req (0<=(0:Y)/\(0:Y)<a)<|.br (an<|(Ja w (0:Y))>122) (.ok X)<|.req (SZ.q (⟨w,X,1⟩:MD))<|.br (Bj (aVB (⟨w,X,1⟩:MD))<|.ret) (.ok (iM (⟨w,X,1⟩:MD)).r)<|.ok U) ?_;obtain rfl:=h
  have bad:¬(((1<=w.size/\w.size<=12)/\(97<=Ja w 0/\Ja w 0<=122)))->LV.v (.bool X)=LV.v (.bool<|gwB w):=λhn=>B0 (λz=>LV.v<|.bool z) (by
   rw [T1,IX];intro h;simp only [gwB,chA,AY,Ac] at h;exact hn ⟨h.1,A0,A0⟩)
  refine ⟨λc=>bad VZ,λc=>⟨λc2=>bad A8,λc2=>⟨VZ,λc3=>bad oL,λc3=>⟨VZ,λc4=>bad aAT,λc4=>?_⟩⟩⟩⟩
  simp only [DI] at c c2 c3 c4
  have hE:qL ⟨w,X,1⟩:=⟨rfl,Aa,Aa,ak⟩
  have key:gwB w=(au w.size).all λi=>i==0 ||chB (Ja w i):=by
   simp only [gwB,chA];rw [Ci A0,Ci A0,Ci A0];rfl
  obtain ⟨s',_,hq⟩:=aim _ hE;refine ⟨⟨hE,rfl,rfl⟩,?_⟩;rw [key];rcases hq with ⟨h1,h2⟩ |⟨h1,h2,j,h3,h4⟩
  ·rw [h1]
   refine ⟨λh=>As,λ_=>B0 (λz=>LV.v<|.bool z) ?_⟩
   rw [T1,BO];intro i hi
   have:=h2 i (by show (i:Y)<(w.size:Y);have:=LQ.1 hi;omega)
   simp only [OQ] at this;rw [show (iM ⟨w,X,1⟩).text=w from rfl] at this;rw [CS] at this;rcases this with h|h
   ·have:i=0:=by simp at h;omega
    simp [this]
   ·rw [h];simp
  ·rw [h1,h2]
   refine ⟨λ_=>B0 (λz=>LV.v<|.bool z) ?_,λh=>As⟩
   rw [T1,IX];intro hx;rw [BO] at hx
   have h3:(j:Y)<(w.size:Y):=h3
   have:=hx j<|LQ.2 A0
   simp only [OQ] at h4;rw [show (iM ⟨w,X,1⟩).text=w from rfl] at h4;rw [HN] at h4
   have h5:=h4.1
   simp at h5
   rw [h4.2] at this
   simp at this
   omega
 ·cases h)
def aJ8:aD->T LV
 | [.v (.string w)]=> .ok (nameB w)
 |_=> .no
def apV:aN:=[asI,asG]
def asJ:=vo (S:=aJ8) func151 apV kN (λargs lv h=>by
 unfold aJ8 at h;split at h
 ·rename_i w
  refine Aq (.ok<|.v<|.bool<|(gwB w)&&(!(yM w))) ?_;exact h
 ·cases h)
def aLG:aD->T LV
 | [.v (.string w)]=> .ok (nameB w)
 |_=> .no
def yX:aN:=[asJ,aH3,aJG,aJF]
def apO:Ax:=kI yX<|l0 yX
def ayj:=vo (S:=aLG) func48 yX apO (λargs lv h=>by
 unfold aLG at h;split at h
 ·rename_i w
  refine Aq (.br (((1:Y) !=1) ||((!(ByteArray.empty.toList==(av #[]).toList)) ||((0:Y) !=0))) (.ok X)<|.br (((2:Y) !=2) ||((an<|(3:Y)<1) ||((an<|(3:Y)>7) ||(!(nameB w))))) (.br (!X) (.ok X)<|.ok U)<|.br (!U) (.ok X)<|.ok U) ?_;obtain rfl:=h;refine ⟨λc=>?_,λ_=>?_⟩
  ·exfalso
   rw [XQ] at c
   revert c
   decide
  ·cases nameB w<;>simp [T.all]
 ·cases h)
def aJ6:aD->T LV
 | [.v (.agg ⟨[ag J a,ag J b]⟩),.v (ag J n)]=> .ok (inB n a b)
 |_=> .no
def yW:aN:=[]
def u0:=vo (S:=aJ6) func92 yW kN (λargs lv h=>by
 unfold aJ6 at h;split at h
 ·rename_i a b n
  refine Aq (.ok<|.v<|.bool<|(an<|n>=a)&&(an<|n<=b)) ?_;exact h
 ·cases h)
def aLH:aD->T LV
 | [.v (.agg ⟨[ag J am,ag J mo,ag J ga,ag J lo,ag J de]⟩)]=> .ok (an<|mo>am)
 |_=> .no
def ayk:=vo (S:=aLH) func115 yW kN (λargs lv h=>by
 unfold aLH at h;split at h
 ·rename_i am mo ga lo de
  refine Aq (.ok<|an<|mo>am) ?_;exact h
 ·cases h)
def aLI:aD->T LV
 | [.v (.agg ⟨[.string nm,ag J at_,ag J ph,ag J mi,ag J ma,ag J st,ag J fb,ag J ow]⟩)]=> .ok (.v<|.bool<|an (mi<=ma)&&((fb==0) ||inB fb mi ma))
 |_=> .no
def ayl:=vo (S:=aLI) func116 yW kN (λargs lv h=>by
 unfold aLI at h;split at h
 ·rename_i nm at_ ph mi ma st fb ow
  refine Aq (.ok<|.v<|.bool<|(an<|mi<=ma)&&((fb==0) ||((an<|fb>=mi)&&(an<|fb<=ma)))) ?_;exact h
 ·cases h)
def aKM:aD->T LV
 | [.v (.agg ⟨[.string nm,ag J up_,ag J li,ag J ne,ag J ra,ag J he,ag J am,ag J mo,ag J ga,ag J lo,ag J de]⟩),.v (ag J i)]=> .req (0<=i) (.ok<|F4 i (nm,up_,li,ne,(ra,he),am,mo,ga,lo,de))
 |_=> .no
def apU:aN:=[u0,ayk]
def axz:=vo (S:=aKM) func91 apU kN (λargs lv h=>by
 unfold aKM at h;split at h
 ·rename_i nm up_ li ne ra he am mo ga lo de i
  refine Aq (.br (if i==0 then (up_ !=(-1)) ||((an<|i>0)&&((an<|up_<0) ||(an<|up_>=i))) else (an<|i>0)&&((an<|up_<0) ||(an<|up_>=i))) (.ok X)<|.br ((!(inB li (1:Y) (1000:Y))) ||(!(inB ne (1:Y) (1000:Y)))) (.ok X)<|.br ((!((ra==0)&&(he==0)))&&(!(inB ra (1:Y) (1000:Y)) ||(!(inB he (0:Y) (1000000:Y))))) (.ok X)<|.br ((am==0)&&((mo==0)&&((ga==0)&&((lo==0)&&(de==0))))) (.ok U)<|.ok<|.v<|.bool<|(inB am (0:Y) (200000:Y))&&((inB mo (0:Y) (200000:Y))&&((inB ga (0:Y) (1000:Y))&&((inB lo (0:Y) (1000:Y))&&((inB de (1:Y) (1000000:Y))&&(an<|mo>am)))))) ?_
  obtain ⟨hi,h⟩:=h;exact ajT (K:=λz=>LV.v (.bool z)=lv) hi h
 ·cases h)
def aKR:aD->T LV
 | .agg a::r=>s5 a λcs os ks gs bs=>(match r with
  | [.v (.agg ⟨[.string nm,ag J at_,ag J ph,ag J mi,ag J ma,ag J st,ag J fb,ag J ow]⟩)]=> .req ((M cs:Y)<=1000/\(M os:Y)<=1000) (.ok<|G7 (M cs) (M os) (nm,at_,ph,mi,ma,st,fb,ow))
  |_=> .no)
 |_=> .no
def anA:aN:=[u0,ayl]
def aya:=vo (S:=aKR) func93 anA kN (λargs lv h=>by
 unfold aKR at h;split at h
 case h_2=>cases h
 replace h:=Ij h
 obtain ⟨cs,os,ks,gs,bs,rfl,h⟩:=h;split at h
 ·rename_i nm at_ ph mi ma st fb ow
  refine Aq (.ok<|.v<|.bool<|(inB at_ (0:Y)<|AA<|(M cs:Y)-1)&&((inB ow (0:Y)<|AA<|(M os:Y)-1)&&((inB ph (1:Y) (7:Y))&&((inB mi (1:Y) (80:Y))&&((inB ma (1:Y) (80:Y))&&((inB st (1:Y) (80:Y))&&((inB fb (0:Y) (80:Y))&&(an (mi<=ma)&&((fb==0) ||inB fb mi ma))))))))) ?_;obtain ⟨⟨h1,h2⟩,rfl⟩:=h;refine B0 (λz=>LV.v<|.bool z) ?_
  rw [AI (x:=(M cs:Y)-1),AI (x:=(M os:Y)-1)];unfold G7 chW;rw [IZ];simp only [AY,CS,B8,Ac,Cl];omega
 ·cases h)
structure NW where
 l:aJ
 (n i:Y)
 BE:aJ
 Bg:aE
 C9:aP
 BP:aF
 CA:aQ
 out:aE
def aJ1:=bN f47 0
def aB2 (s:NW):T (Rd NW):=letI a:=AZ s.l s.i;.br (an<|s.i<s.n) (.ix s.i (M s.l)<|.rb (M s.out) (M<|[a.1]) 16<|.re (M s.out+M ([a.1])) (s.out++([a.1]))<|.nx {s with i:=AA<|s.i+1,out:=s.out++([a.1])})<|.rl s.out<|.so (.exit 0) s
def Z7 (s:NW):Prop:=s.i=0/\s.n=(M s.l:Y)/\s.n<=1000/\(M s.out:Y)<=10000
def Y8 (s:NW):Prop:=0<=s.i/\s.i<=s.n/\s.n=(M s.l:Y)/\s.n<=1000/\(M s.out:Y)<=10000+s.i
def wy (s:NW):aC:=(s.n-s.i).toNat
def aDc (x:Ex) (s s':NW):Prop:=x=.exit 0/\s'.i=s'.n
def amZ:∀s,Z7 s->Y8 s:=by
 exact bT
def agQ:Da Y8 wy aDc aB2:=by
 intro s hI;obtain ⟨h0,h1,h2,h3,h4⟩:=hI;refine AH (λc1=>?_) λc1=>?_
 ·have c1:s.i<s.n:=A8
  rw [AI (x:=s.i+1)];exact ⟨⟨A8,A8,h2,h3,A8⟩,by simp only [wy];omega⟩
 ·exact T0
def S9:AR NW:=⟨0,80,[1,3,15,16,17],[.nl 3 9 .str],λs=>[.own 0 0,.os 1 1 0<|M s.out,s.l,s.n,s.i],λs=>[⟨[s.BE,s.Bg,s.C9,s.BP,s.CA],28,.cl,X⟩,bV 9 .str s.out],λv b=>⟨B1 Ae v 2,AL v 3,AL v 4,AF Ae b 0 0,AF .str b 0 1,AF Ak b 0 2,AF Af b 0 3,AF Al b 0 4,Ab .str b 1⟩,aB2,λs r=> {s with i:=r.i,out:=r.out},λs=>s,λ_ s=>s,[.exit 0],Z7,Y8,wy⟩
abbrev W3:=S9.run
abbrev avP:=S9.At
def ag1:Rq Y8 aB2:=by
 exact bY
def Uq:aN:=[]
def wH:S9.Ok:={}
def ur:S9.Pf (aDc):=⟨amZ,λs h=>rfl,agQ,ag1⟩
def asU:SA 0 aJ1 S9:=s1 wH ur Uq kN
def aud:Fi Z7 Y8 aDc avP W3:=AR.fin wH ur
def auc (s:NW) (hE:Z7 s):(W3 s).out=s.out++s.l.map (·.1):=by
 have hk:=AR.Kv wH ur (λs=>s.out++(s.l.drop s.i.toNat).map (·.1)) (λs hI=>by
  obtain ⟨h0,h1,h2,h3,h4⟩:=hI;refine AH (λc1=>?_) λc1=>?_
  ·have c1:s.i<s.n:=A8
   rw [AI (x:=s.i+1)]
   show _++_=_++_
   rw [(arY h0 (show s.i<M s.l by omega)).1]
   simp
  ·rfl) s hE
 obtain ⟨s',hI,q1,q2⟩:=aud s hE
 have q3:=q2
 have hn:(W3 s).n=(M s.l:Y):=hE.2.1
 have hl:(W3 s).l=s.l:=rfl
 exact cA
structure Nc where
 l:aE
 (n i:Y)
 BE:aJ
 Bg:aE
 C9:aP
 BP:aF
 CA:aQ
 out:aE
def aJ0:=bN f47 1
def aB1 (s:Nc):T (Rd Nc):=letI a:=gS s.l s.i;.br (an<|s.i<s.n) (.ix s.i (M s.l)<|.rb (M s.out) (M<|[a]) 16<|.re (M s.out+M ([a])) (s.out++([a]))<|.nx {s with i:=AA<|s.i+1,out:=s.out++([a])})<|.rl s.out<|.so (.exit 2) s
def Z6 (s:Nc):Prop:=s.i=0/\s.n=(M s.l:Y)/\s.n<=1000/\(M s.out:Y)<=10000
def Y7 (s:Nc):Prop:=0<=s.i/\s.i<=s.n/\s.n=(M s.l:Y)/\s.n<=1000/\(M s.out:Y)<=10000+s.i
def wv (s:Nc):aC:=(s.n-s.i).toNat
def aDb (x:Ex) (s s':Nc):Prop:=x=.exit 2/\s'.i=s'.n
def amY:∀s,Z6 s->Y7 s:=by
 exact bT
def agP:Da Y7 wv aDb aB1:=by
 intro s hI;obtain ⟨h0,h1,h2,h3,h4⟩:=hI;refine AH (λc1=>?_) λc1=>?_
 ·have c1:s.i<s.n:=A8
  rw [AI (x:=s.i+1)];exact ⟨⟨A8,A8,h2,h3,A8⟩,by simp only [wv];omega⟩
 ·exact T0
def S8:AR Nc:=⟨0,80,[1,3,28,29,30],[],λs=>[.own 0 0,.os 1 1 0<|M s.out,s.l,s.n,s.i],λs=>[⟨[s.BE,s.Bg,s.C9,s.BP,s.CA],28,.cl,X⟩,bV 9 .str s.out],λv b=>⟨B1 .str v 2,AL v 3,AL v 4,AF Ae b 0 0,AF .str b 0 1,AF Ak b 0 2,AF Af b 0 3,AF Al b 0 4,Ab .str b 1⟩,aB1,λs r=> {s with i:=r.i,out:=r.out},λs=>s,λ_ s=>s,[.exit 2],Z6,Y7,wv⟩
abbrev W6:=S8.run
abbrev avO:=S8.At
def ag0:Rq Y7 aB1:=by
 exact bY
def wG:S8.Ok:={}
def uq:S8.Pf (aDb):=⟨amY,λs h=>rfl,agP,ag0⟩
def asT:SA 0 aJ0 S8:=s1 wG uq Uq kN
def aub:Fi Z6 Y7 aDb avO W6:=AR.fin wG uq
def avN (s:Nc) (hE:Z6 s):(W6 s).out=s.out++s.l:=by
 have hk:=AR.Kv wG uq (λs=>s.out++(s.l.drop s.i.toNat)) (λs hI=>by
  obtain ⟨h0,h1,h2,h3,h4⟩:=hI;refine AH (λc1=>?_) λc1=>?_
  ·have c1:s.i<s.n:=A8
   rw [AI (x:=s.i+1)]
   show _++_=_++_
   rw [(aJo h0 (show s.i<M s.l by omega)).1]
   simp
  ·rfl) s hE
 obtain ⟨s',hI,q1,q2⟩:=aub s hE
 have q3:=q2
 have hn:(W6 s).n=(M s.l:Y):=hE.2.1
 have hl:(W6 s).l=s.l:=rfl
 exact cA
structure Nf where
 l:aP
 (n i:Y)
 BE:aJ
 Bg:aE
 C9:aP
 BP:aF
 CA:aQ
 out:aE
def aIz:=bN f47 2
def aBa (s:Nf):T (Rd Nf):=letI a:=OR s.l s.i;.br (an<|s.i<s.n) (.ix s.i (M s.l)<|.rb (M s.out) (M<|[a.1]) 16<|.re (M s.out+M ([a.1])) (s.out++([a.1]))<|.nx {s with i:=AA<|s.i+1,out:=s.out++([a.1])})<|.rl s.out<|.so (.exit 4) s
def Z5 (s:Nf):Prop:=s.i=0/\s.n=(M s.l:Y)/\s.n<=1000/\(M s.out:Y)<=10000
def Y6 (s:Nf):Prop:=0<=s.i/\s.i<=s.n/\s.n=(M s.l:Y)/\s.n<=1000/\(M s.out:Y)<=10000+s.i
def wu (s:Nf):aC:=(s.n-s.i).toNat
def aDa (x:Ex) (s s':Nf):Prop:=x=.exit 4/\s'.i=s'.n
def amX:∀s,Z5 s->Y6 s:=by
 exact bT
def agO:Da Y6 wu aDa aBa:=by
 intro s hI;obtain ⟨h0,h1,h2,h3,h4⟩:=hI;refine AH (λc1=>?_) λc1=>?_
 ·have c1:s.i<s.n:=A8
  rw [AI (x:=s.i+1)];exact ⟨⟨A8,A8,h2,h3,A8⟩,by simp only [wu];omega⟩
 ·exact T0
def S7:AR Nf:=⟨0,80,[1,3,41,42,43],[],λs=>[.own 0 0,.os 1 1 0<|M s.out,s.l,s.n,s.i],λs=>[⟨[s.BE,s.Bg,s.C9,s.BP,s.CA],28,.cl,X⟩,bV 9 .str s.out],λv b=>⟨B1 Ak v 2,AL v 3,AL v 4,AF Ae b 0 0,AF .str b 0 1,AF Ak b 0 2,AF Af b 0 3,AF Al b 0 4,Ab .str b 1⟩,aBa,λs r=> {s with i:=r.i,out:=r.out},λs=>s,λ_ s=>s,[.exit 4],Z5,Y6,wu⟩
abbrev W9:=S7.run
abbrev avz:=S7.At
def afz:Rq Y6 aBa:=by
 exact bY
def wF:S7.Ok:={}
def uo:S7.Pf (aDa):=⟨amX,λs h=>rfl,agO,afz⟩
def asR:SA 0 aIz S7:=s1 wF uo Uq kN
def avM:Fi Z5 Y6 aDa avz W9:=AR.fin wF uo
def avL (s:Nf) (hE:Z5 s):(W9 s).out=s.out++s.l.map (·.1):=by
 have hk:=AR.Kv wF uo (λs=>s.out++(s.l.drop s.i.toNat).map (·.1)) (λs hI=>by
  obtain ⟨h0,h1,h2,h3,h4⟩:=hI;refine AH (λc1=>?_) λc1=>?_
  ·have c1:s.i<s.n:=A8
   rw [AI (x:=s.i+1)]
   show _++_=_++_
   rw [(aHk h0 (show s.i<M s.l by omega)).1]
   simp
  ·rfl) s hE
 obtain ⟨s',hI,q1,q2⟩:=avM s hE
 have q3:=q2
 have hn:(W9 s).n=(M s.l:Y):=hE.2.1
 have hl:(W9 s).l=s.l:=rfl
 exact cA
structure Ng where
 l:aF
 (n i:Y)
 BE:aJ
 Bg:aE
 C9:aP
 BP:aF
 CA:aQ
 out:aE
def aIy:=bN f47 3
def aBZ (s:Ng):T (Rd Ng):=letI a:=AG s.l s.i;.br (an<|s.i<s.n) (.ix s.i (M s.l)<|.rb (M s.out) (M<|[a.1]) 16<|.re (M s.out+M ([a.1])) (s.out++([a.1]))<|.nx {s with i:=AA<|s.i+1,out:=s.out++([a.1])})<|.rl s.out<|.so (.exit 6) s
def Z4 (s:Ng):Prop:=s.i=0/\s.n=(M s.l:Y)/\s.n<=1000/\(M s.out:Y)<=10000
def Y5 (s:Ng):Prop:=0<=s.i/\s.i<=s.n/\s.n=(M s.l:Y)/\s.n<=1000/\(M s.out:Y)<=10000+s.i
def wq (s:Ng):aC:=(s.n-s.i).toNat
def aDZ (x:Ex) (s s':Ng):Prop:=x=.exit 6/\s'.i=s'.n
def amW:∀s,Z4 s->Y5 s:=by
 exact bT
def agN:Da Y5 wq aDZ aBZ:=by
 intro s hI;obtain ⟨h0,h1,h2,h3,h4⟩:=hI;refine AH (λc1=>?_) λc1=>?_
 ·have c1:s.i<s.n:=A8
  rw [AI (x:=s.i+1)];exact ⟨⟨A8,A8,h2,h3,A8⟩,by simp only [wq];omega⟩
 ·exact T0
def S6:AR Ng:=⟨0,80,[1,3,54,55,56],[],λs=>[.own 0 0,.os 1 1 0<|M s.out,s.l,s.n,s.i],λs=>[⟨[s.BE,s.Bg,s.C9,s.BP,s.CA],28,.cl,X⟩,bV 9 .str s.out],λv b=>⟨B1 Af v 2,AL v 3,AL v 4,AF Ae b 0 0,AF .str b 0 1,AF Ak b 0 2,AF Af b 0 3,AF Al b 0 4,Ab .str b 1⟩,aBZ,λs r=> {s with i:=r.i,out:=r.out},λs=>s,λ_ s=>s,[.exit 6],Z4,Y5,wq⟩
abbrev WG:=S6.run
abbrev avy:=S6.At
def afy:Rq Y5 aBZ:=by
 exact bY
def wE:S6.Ok:={}
def um:S6.Pf (aDZ):=⟨amW,λs h=>rfl,agN,afy⟩
def asQ:SA 0 aIy S6:=s1 wE um Uq kN
def avK:Fi Z4 Y5 aDZ avy WG:=AR.fin wE um
def avJ (s:Ng) (hE:Z4 s):(WG s).out=s.out++s.l.map (·.1):=by
 have hk:=AR.Kv wE um (λs=>s.out++(s.l.drop s.i.toNat).map (·.1)) (λs hI=>by
  obtain ⟨h0,h1,h2,h3,h4⟩:=hI;refine AH (λc1=>?_) λc1=>?_
  ·have c1:s.i<s.n:=A8
   rw [AI (x:=s.i+1)]
   show _++_=_++_
   rw [(arH h0 (show s.i<M s.l by omega)).1]
   simp
  ·rfl) s hE
 obtain ⟨s',hI,q1,q2⟩:=avK s hE
 have q3:=q2
 have hn:(WG s).n=(M s.l:Y):=hE.2.1
 have hl:(WG s).l=s.l:=rfl
 exact cA
structure Nm where
 l:aQ
 (n i:Y)
 out:aE
def aIv:=bN f47 4
def aBY (s:Nm):T (Rd Nm):=letI a:=OZ s.l s.i;.br (an<|s.i<s.n) (.ix s.i (M s.l)<|.rb (M s.out) (M<|[a.1]) 16<|.re (M s.out+M ([a.1])) (s.out++([a.1]))<|.nx {s with i:=AA<|s.i+1,out:=s.out++([a.1])})<|.rl s.out<|.so (.exit 8) s
def Z3 (s:Nm):Prop:=s.i=0/\s.n=(M s.l:Y)/\s.n<=1000/\(M s.out:Y)<=10000
def Y4 (s:Nm):Prop:=0<=s.i/\s.i<=s.n/\s.n=(M s.l:Y)/\s.n<=1000/\(M s.out:Y)<=10000+s.i
def wo (s:Nm):aC:=(s.n-s.i).toNat
def aDY (x:Ex) (s s':Nm):Prop:=x=.exit 8/\s'.i=s'.n
def amV:∀s,Z3 s->Y4 s:=by
 exact bT
def agM:Da Y4 wo aDY aBY:=by
 intro s hI;obtain ⟨h0,h1,h2,h3,h4⟩:=hI;refine AH (λc1=>?_) λc1=>?_
 ·have c1:s.i<s.n:=A8
  rw [AI (x:=s.i+1)];exact ⟨⟨A8,A8,h2,h3,A8⟩,by simp only [wo];omega⟩
 ·exact T0
def S5:AR Nm:=⟨0,80,[3,67,68,69],[],λs=>[.os 0 1 0<|M s.out,s.l,s.n,s.i],λs=>[bV 9 .str s.out],λv b=>⟨B1 Al v 1,AL v 2,AL v 3,Ab .str b 0⟩,aBY,λs r=> {r with l:=s.l,n:=s.n},λs=>s,λ_ s=>s,[.exit 8],Z3,Y4,wo⟩
abbrev WS:=S5.run
abbrev avx:=S5.At
def afx:Rq Y4 aBY:=by
 exact bY
def wD:S5.Ok:={}
def uk:S5.Pf (aDY):=⟨amV,λs h=>rfl,agM,afx⟩
def asP:SA 0 aIv S5:=s1 wD uk Uq kN
def avI:Fi Z3 Y4 aDY avx WS:=AR.fin wD uk
def avH (s:Nm) (hE:Z3 s):(WS s).out=s.out++s.l.map (·.1):=by
 have hk:=AR.Kv wD uk (λs=>s.out++(s.l.drop s.i.toNat).map (·.1)) (λs hI=>by
  obtain ⟨h0,h1,h2,h3,h4⟩:=hI;refine AH (λc1=>?_) λc1=>?_
  ·have c1:s.i<s.n:=A8
   rw [AI (x:=s.i+1)]
   show _++_=_++_
   rw [(arZ h0 (show s.i<M s.l by omega)).1]
   simp
  ·rfl) s hE
 obtain ⟨s',hI,q1,q2⟩:=avI s hE
 have q3:=q2
 have hn:(WS s).n=(M s.l:Y):=hE.2.1
 have hl:(WS s).l=s.l:=rfl
 exact cA
def aMN:aD->T LV
 | .agg a::r=>s5 a λcs os ks gs bs=>(match r with
  | []=> .req ((M cs:Y)<=1000/\(M os:Y)<=1000/\(M ks:Y)<=1000/\(M gs:Y)<=1000/\(M bs:Y)<=1000) (.ok<|.xl .str<|Lq cs os ks gs bs)
  |_=> .no)
 |_=> .no
def aye:=vm (S:=aMN) func47 Uq kN (L:=(λi=>if i=3 then S9.lp else if i=8 then S8.lp else if i=13 then S7.lp else if i=18 then S6.lp else if i=23 then S5.lp else Ao i)) (λb hb=>by
 rw [show BC _=[aJ1,aJ0,aIz,aIy,aIv] by kernel_rfl] at hb
 simp only [B6,Bv,Bt] at hb;rcases hb with rfl|rfl|rfl|rfl|rfl
 ·exact asU
 ·exact asT
 ·exact asR
 ·exact asQ
 ·exact asP) (λargs lv h=>by
 unfold aMN at h;split at h
 case h_2=>cases h
 replace h:=Ij h
 obtain ⟨cs,os,ks,gs,bs,rfl,h⟩:=h;split at h
 ·refine Aq (letI b:=(W3 (⟨cs,(M cs:Y),0,cs,os,ks,gs,bs,([]:aE)⟩:NW));letI d:=(W6 (⟨os,(M os:Y),0,cs,os,ks,gs,bs,b.out⟩:Nc));letI a:=(W9 (⟨ks,(M ks:Y),0,cs,os,ks,gs,bs,d.out⟩:Nf));letI c:=(WG (⟨gs,(M gs:Y),0,cs,os,ks,gs,bs,a.out⟩:Ng));letI e:=(WS (⟨bs,(M bs:Y),0,c.out⟩:Nm));.r0 ByteArray<|.req (S9.q (⟨cs,(M cs:Y),0,cs,os,ks,gs,bs,([]:aE)⟩:NW))<|.rl b.out<|.req (S8.q (⟨os,(M os:Y),0,cs,os,ks,gs,bs,b.out⟩:Nc))<|.rl d.out<|.req (S7.q (⟨ks,(M ks:Y),0,cs,os,ks,gs,bs,d.out⟩:Nf))<|.rl a.out<|.req (S6.q (⟨gs,(M gs:Y),0,cs,os,ks,gs,bs,a.out⟩:Ng))<|.rl c.out<|.req (S5.q (⟨bs,(M bs:Y),0,c.out⟩:Nm))<|.rz e.out<|.ok<|.xl .str<|(e.out.drop 0).take<|M e.out) ?_
  obtain ⟨⟨hc,ho,hk,hg,hb⟩,rfl⟩:=h
  have hE0:Z7 ⟨cs,(M cs:Y),0,cs,os,ks,gs,bs,([]:aE)⟩:=⟨rfl,rfl,hc,by simp only;decide⟩
  have o0:=auc _ hE0
  refine ⟨A9,⟨hE0,rfl,rfl⟩,?_⟩;generalize (W3 ⟨cs,(M cs:Y),0,cs,os,ks,gs,bs,([]:aE)⟩).out=r0 at*
  have o0:r0=([]:aE)++cs.map (·.1):=o0
  have l0:(M r0:Y)<=1000:=by rw [o0];simp only [BG,GK,C3];omega
  have hE1:Z6 ⟨os,(M os:Y),0,cs,os,ks,gs,bs,r0⟩:=⟨rfl,rfl,ho,Aa⟩
  have o1:=avN _ hE1
  refine ⟨A9,⟨hE1,rfl,rfl⟩,?_⟩;generalize (W6 ⟨os,(M os:Y),0,cs,os,ks,gs,bs,r0⟩).out=r1 at*
  have o1:r1=r0++os:=o1
  have l1:(M r1:Y)<=2000:=by rw [o1];simp only [BG,GK,C3];omega
  have hE2:Z5 ⟨ks,(M ks:Y),0,cs,os,ks,gs,bs,r1⟩:=⟨rfl,rfl,hk,Aa⟩
  have o2:=avL _ hE2
  refine ⟨A9,⟨hE2,rfl,rfl⟩,?_⟩;generalize (W9 ⟨ks,(M ks:Y),0,cs,os,ks,gs,bs,r1⟩).out=r2 at*
  have o2:r2=r1++ks.map (·.1):=o2
  have l2:(M r2:Y)<=3000:=A8
  have hE3:Z4 ⟨gs,(M gs:Y),0,cs,os,ks,gs,bs,r2⟩:=⟨rfl,rfl,hg,Aa⟩
  have o3:=avJ _ hE3
  refine ⟨A9,⟨hE3,rfl,rfl⟩,?_⟩;generalize (WG ⟨gs,(M gs:Y),0,cs,os,ks,gs,bs,r2⟩).out=r3 at*
  have o3:r3=r2++gs.map (·.1):=o3
  have l3:(M r3:Y)<=4000:=A8
  have hE4:Z3 ⟨bs,(M bs:Y),0,r3⟩:=⟨rfl,rfl,hb,Aa⟩
  have o4:=avH _ hE4
  refine ⟨A9,⟨hE4,rfl,rfl⟩,?_⟩;generalize (WS ⟨bs,(M bs:Y),0,r3⟩).out=r4 at*
  have o4:r4=r3++bs.map (·.1):=o4
  refine ⟨A0,?_⟩
  show LV.xl _ _=_
  rw [CZ,Dj A0,o4,o3,o2,o1,o0,Ek];rfl
 ·cases h)
structure MZ where
 r:aM
 l:aJ
 (n i:Y)
 BE:aJ
 Bg:aE
 C9:aP
 BP:aF
 CA:aQ
def aHg:=bN f49 0
def aBD (s:MZ):T (Rd MZ):=
 .br (an<|s.i<s.n) (.ix s.i (M s.l)<|.req (0<=s.i)<|.br (!(F4 s.i<|AZ s.l s.i)) (.so (.ret) {s with r:=X})<|.nx {s with i:=AA<|s.i+1}) (.so (.exit 0) s)
def U1 (s:MZ) (j:Y):aM:=F4 j<|AZ s.l j
def aE5 (s:MZ):Prop:=s.i=0/\0<=s.n/\s.n<=1000/\s.n=(M s.l:Y)
def YH (s:MZ):Prop:=0<=s.i/\s.i<=s.n/\s.n<=1000/\(s.n=(M s.l:Y))/\∀j:aC,(j:Y)<s.i->U1 s j=U
def vj (s:MZ):aC:=(s.n-s.i).toNat
def aDE (x:Ex) (s s':MZ):Prop:=(x=.exit 0/\∀j:aC,(j:Y)<s'.n->U1 s' j=U)\/(x=.ret/\s'.r=X/\∃j:aC,(j:Y)<s'.n/\U1 s' j=X)
def al6:∀s,aE5 s->YH s:=by
 exact Jq
def axt:Da YH vj aDE aBD:=by
 intro s hI;obtain ⟨h0,h1,h2,h3,h4⟩:=hI;refine AH (λc1=>AH (λc2=>?_) λc2=>?_) λc1=>?_
 ·have c1:s.i<s.n:=AX
  refine .inr ⟨rfl,rfl,s.i.toNat,A8,?_⟩;rw [Bs A0]
  have hg:U1 s s.i=false:=aPB
  exact hg
 ·have c1:s.i<s.n:=AX
  have hg:U1 s s.i=true:=aPB
  rw [AI (x:=s.i+1)];refine ⟨⟨A8,A8,h2,h3,λj hj=>?_⟩,by simp only [vj];omega⟩
  exact LR
 ·exact Sy
def RS:AR MZ:=⟨0,95,[1,2,13,14,15],[],λs=>[.own 0 0,s.r,s.l,s.n,s.i],λs=>[⟨[s.BE,s.Bg,s.C9,s.BP,s.CA],28,.cl,X⟩],λv b=>⟨EB v 1,B1 Ae v 2,AL v 3,AL v 4,AF Ae b 0 0,AF .str b 0 1,AF Ak b 0 2,AF Af b 0 3,AF Al b 0 4⟩,aBD,λs r=> {s with r:=r.r,i:=r.i},λs=>s,λ_ s=>s,[.ret,.exit 0],aE5,YH,vj⟩
abbrev acv:=RS.run
abbrev aKt:=RS.At
def azV:Rq YH aBD:=by
 exact za
def Xw:aN:=[axz,u0,aya]
def aTd:RS.Ok:={}
def aRx:RS.Pf (aDE):=⟨al6,λs h=>rfl,axt,azV⟩
def asZ:SA 0 aHg RS:=s1 aTd aRx Xw kN
def as9:Fi aE5 YH aDE aKt acv:=AR.fin aTd aRx
structure Mb where
 r:aM
 l:aP
 (n i:Y)
 BE:aJ
 Bg:aE
 C9:aP
 BP:aF
 CA:aQ
 cards:aB
def aHf:=bN f49 1
def jZ (s:Mb):T (Rd Mb):=letI a:=OR s.l s.i;.br (an<|s.i<s.n) (.ix s.i (M s.l)<|.br ((!(inB a.2.1 (0:Y)<|AA<|(M s.Bg:Y)-1)) ||((!(inB a.2.2.1 (1:Y) (9:Y))) ||((!(inB a.2.2.2 (1:Y) (1000000:Y))) ||(List.contains s.cards a.2.2.2)))) (.so (.ret) {s with r:=X})<|.req (List.contains s.cards a.2.2.2=X)<|.nx {s with i:=AA<|s.i+1,cards:=s.cards++[a.2.2.2]})<|.so (.exit 2) s
def U0 (s:Mb) (j:Y):aM:=koV (M s.Bg) (OR s.l j)&&!(((s.l.take j.toNat).map (·.2.2.2)).contains (OR s.l j).2.2.2)
def aE4 (s:Mb):Prop:=s.i=0/\s.cards=[]/\s.n=(M s.l:Y)/\s.n<=1000/\(M s.Bg:Y)<=1000
def YG (s:Mb):Prop:=0<=s.i/\s.i<=s.n/\s.n=(M s.l:Y)/\s.n<=1000/\((M s.Bg:Y)<=1000)/\s.cards=(s.l.take s.i.toNat).map (·.2.2.2)/\∀j:aC,(j:Y)<s.i->U0 s j=U
def vi (s:Mb):aC:=(s.n-s.i).toNat
def aDD (x:Ex) (s s':Mb):Prop:=(x=.exit 2/\∀j:aC,(j:Y)<s'.n->U0 s' j=U)\/(x=.ret/\s'.r=X/\∃j:aC,(j:Y)<s'.n/\U0 s' j=X)
def al5:∀s,aE4 s->YG s:=by
 exact aP0
def axs:Da YG vi aDD jZ:=by
 intro s hI;unfold jZ;obtain ⟨h0,h1,h2,h3,h4,h5,h6⟩:=hI;refine AH (λc1=>AH (λc2=>?_) λc2=>?_) λc1=>?_
 ·have c1:s.i<s.n:=AX
  refine .inr ⟨rfl,rfl,s.i.toNat,Aa,?_⟩;rw [Bs h0]
  have hg:U0 s s.i=false:=by
   exact aNf
  exact hg
 ·have c1:s.i<s.n:=AX
  have hg:U0 s s.i=true:=by
   exact aNf
  rw [AI (x:=s.i+1)];refine ⟨⟨Aa,Aa,h2,h3,h4,?_,λj hj=>?_⟩,by simp only [vi];omega⟩
  ·simp only
   rw [(aHk h0 (show s.i<M s.l by omega)).2,h5]
   try rw [KJ]
   try rfl
  ·exact aPH
 ·exact aOc
def RR:AR Mb:=⟨0,95,[1,2,5,27,28,29],[],λs=>[.own 0 0,s.r,.om 1,s.l,s.n,s.i],λs=>[⟨[s.BE,s.Bg,s.C9,s.BP,s.CA],28,.cl,X⟩,⟨[],185,.st A7 s.cards,X⟩],λv b=>⟨EB v 1,B1 Ak v 3,AL v 4,AL v 5,AF Ae b 0 0,AF .str b 0 1,AF Ak b 0 2,AF Af b 0 3,AF Al b 0 4,gSe A7<|Cc b 1⟩,jZ,λs r=> {s with r:=r.r,i:=r.i,cards:=r.cards},λs=>s,λ_ s=>s,[.ret,.exit 2],aE4,YG,vi⟩
abbrev acw:=RR.run
abbrev aKs:=RR.At
def azU:Rq YG jZ:=by
 intro s hI;refine ⟨λc1=>⟨?_,λ_=>trivial,λc2=>⟨?_,ak⟩⟩,λ_=>trivial⟩
 all_goals ((obtain ⟨h0,h1,h2,h3,h4,h5,h6⟩:=hI;first|(simp at c1;omega) |(simp only [HN] at c2;exact c2.2.2.2)))
def aTc:RR.Ok:={}
def aRw:RR.Pf (aDD):=⟨al5,λs h=>rfl,axs,azU⟩
def atV:SA 0 aHf RR:=s1 aTc aRw Xw kN
def as8:Fi aE4 YG aDD aKs acw:=AR.fin aTc aRw
structure Mj where
 r:aM
 l:aF
 (n i:Y)
 BE:aJ
 Bg:aE
 C9:aP
 BP:aF
 CA:aQ
def aHe:=bN f49 2
def aBC (s:Mj):T (Rd Mj):=
 .br (an<|s.i<s.n) (.ix s.i (M s.l)<|.req ((M s.BE:Y)<=1000/\(M s.Bg:Y)<=1000)<|.br (!(G7 (M s.BE) (M s.Bg)<|AG s.l s.i)) (.so (.ret) {s with r:=X})<|.nx {s with i:=AA<|s.i+1}) (.so (.exit 4) s)
def Tz (s:Mj) (j:Y):aM:=G7 (M s.BE) (M s.Bg)<|AG s.l j
def aDh (s:Mj):Prop:=s.i=0/\0<=s.n/\s.n<=1000/\s.n=(M s.l:Y)/\(M s.BE:Y)<=1000/\(M s.Bg:Y)<=1000
def YF (s:Mj):Prop:=0<=s.i/\s.i<=s.n/\s.n<=1000/\(s.n=(M s.l:Y)/\(M s.BE:Y)<=1000/\(M s.Bg:Y)<=1000)/\∀j:aC,(j:Y)<s.i->Tz s j=U
def vh (s:Mj):aC:=(s.n-s.i).toNat
def aDf (x:Ex) (s s':Mj):Prop:=(x=.exit 4/\∀j:aC,(j:Y)<s'.n->Tz s' j=U)\/(x=.ret/\s'.r=X/\∃j:aC,(j:Y)<s'.n/\Tz s' j=X)
def al4:∀s,aDh s->YF s:=by
 exact Jq
def axr:Da YF vh aDf aBC:=by
 intro s hI;obtain ⟨h0,h1,h2,h3,h4⟩:=hI;refine AH (λc1=>AH (λc2=>?_) λc2=>?_) λc1=>?_
 ·have c1:s.i<s.n:=AX
  refine .inr ⟨rfl,rfl,s.i.toNat,Aa,?_⟩
  have hg:Tz s s.i=false:=aPA
  exact hg
 ·have c1:s.i<s.n:=AX
  have hg:Tz s s.i=true:=aPA
  rw [AI (x:=s.i+1)];refine ⟨⟨A8,A8,h2,h3,λj hj=>?_⟩,by simp only [vh];omega⟩
  exact LR
 ·exact Sy
def RM:AR Mj:=⟨0,95,[1,2,67,68,69],[],λs=>[.own 0 0,s.r,s.l,s.n,s.i],λs=>[⟨[s.BE,s.Bg,s.C9,s.BP,s.CA],28,.cl,X⟩],λv b=>⟨EB v 1,B1 Af v 2,AL v 3,AL v 4,AF Ae b 0 0,AF .str b 0 1,AF Ak b 0 2,AF Af b 0 3,AF Al b 0 4⟩,aBC,λs r=> {s with r:=r.r,i:=r.i},λs=>s,λ_ s=>s,[.ret,.exit 4],aDh,YF,vh⟩
abbrev adJ:=RM.run
abbrev aKr:=RM.At
def azT:Rq YF aBC:=by
 intro s hI;refine ⟨λc1=>⟨?_,?_,λ_=>trivial,λ_=>trivial⟩,λ_=>trivial⟩
 all_goals ((obtain ⟨h0,h1,h2,h3,h4⟩:=hI;simp at c1;first|omega|exact h3.2))
def aSL:RM.Ok:={}
def aRv:RM.Pf (aDf):=⟨al4,λs h=>rfl,axr,azT⟩
def atU:SA 0 aHe RM:=s1 aSL aRv Xw kN
def asN:Fi aDh YF aDf aKr adJ:=AR.fin aSL aRv
structure Mt where
 r:aM
 l:aQ
 (n i:Y)
 BE:aJ
 Bg:aE
 C9:aP
 BP:aF
 CA:aQ
def aHd:=bN f49 3
def aBB (s:Mt):T (Rd Mt):=
 .br (an<|s.i<s.n) (.ix s.i (M s.l)<|.br (!(inB (OZ s.l s.i).2 (0:Y)<|AA<|(M s.BP:Y)-1)) (.so (.ret) {s with r:=X})<|.nx {s with i:=AA<|s.i+1}) (.so (.exit 6) s)
def Tx (s:Mt) (j:Y):aM:=inB (OZ s.l j).2 0<|AA<|(M s.BP:Y)-1
def aDg (s:Mt):Prop:=s.i=0/\0<=s.n/\s.n<=1000/\s.n=(M s.l:Y)
def YE (s:Mt):Prop:=0<=s.i/\s.i<=s.n/\s.n<=1000/\(s.n=(M s.l:Y))/\∀j:aC,(j:Y)<s.i->Tx s j=U
def vg (s:Mt):aC:=(s.n-s.i).toNat
def aDe (x:Ex) (s s':Mt):Prop:=(x=.exit 6/\∀j:aC,(j:Y)<s'.n->Tx s' j=U)\/(x=.ret/\s'.r=X/\∃j:aC,(j:Y)<s'.n/\Tx s' j=X)
def al3:∀s,aDg s->YE s:=by
 exact Jq
def axq:Da YE vg aDe aBB:=by
 intro s hI;obtain ⟨h0,h1,h2,h3,h4⟩:=hI;refine AH (λc1=>AH (λc2=>?_) λc2=>?_) λc1=>?_
 ·have c1:s.i<s.n:=AX
  refine .inr ⟨rfl,rfl,s.i.toNat,A8,?_⟩
  have hg:Tx s s.i=false:=aP9
  exact hg
 ·have c1:s.i<s.n:=AX
  have hg:Tx s s.i=true:=aP9
  rw [AI (x:=s.i+1)];refine ⟨⟨A8,A8,h2,h3,λj hj=>?_⟩,by simp only [vg];omega⟩
  exact LR
 ·exact Sy
def RK:AR Mt:=⟨0,95,[1,2,79,80,81],[],λs=>[.own 0 0,s.r,s.l,s.n,s.i],λs=>[⟨[s.BE,s.Bg,s.C9,s.BP,s.CA],28,.cl,X⟩],λv b=>⟨EB v 1,B1 Al v 2,AL v 3,AL v 4,AF Ae b 0 0,AF .str b 0 1,AF Ak b 0 2,AF Af b 0 3,AF Al b 0 4⟩,aBB,λs r=> {s with r:=r.r,i:=r.i},λs=>s,λ_ s=>s,[.ret,.exit 6],aDg,YE,vg⟩
abbrev aJj:=RK.run
abbrev aKq:=RK.At
def azS:Rq YE aBB:=by
 exact QS
def aSK:RK.Ok:={}
def aRu:RK.Pf (aDe):=⟨al3,λs h=>rfl,axq,azS⟩
def atT:SA 0 aHd RK:=s1 aSK aRu Xw kN
def asM:Fi aDg YE aDe aKq aJj:=AR.fin aSK aRu
def aKL:aD->T LV
 | .agg a::r=>s5 a λcs os ks gs bs=>(match r with
  | []=> .req ((M cs:Y)<=1000/\(M os:Y)<=1000/\(M ks:Y)<=1000/\(M gs:Y)<=1000/\(M bs:Y)<=1000) (.ok<|vpB cs os ks gs bs)
  |_=> .no)
 |_=> .no
def axy:=vm (S:=aKL) func49 Xw kN (L:=(λi=>if i=2 then RS.lp else if i=9 then RR.lp else if i=16 then RM.lp else if i=22 then RK.lp else Ao i)) (λb hb=>by
 rw [show BC _=[aHg,aHf,aHe,aHd] by kernel_rfl] at hb
 simp only [B6,Bv,Bt] at hb;rcases hb with rfl|rfl|rfl|rfl
 ·exact asZ
 ·exact atV
 ·exact atU
 ·exact atT) (λargs lv h=>by
 unfold aKL at h;split at h
 case h_2=>cases h
 replace h:=Ij h
 obtain ⟨cs,os,ks,gs,bs,rfl,h⟩:=h;split at h
 ·refine Aq (letI g:=(M cs:Y);letI k:=(M ks:Y);letI l:=(M gs:Y);letI m:=(M bs:Y);letI c:=(acv (⟨X,cs,g,0,cs,os,ks,gs,bs⟩:MZ));letI a:=(acw (⟨c.r,ks,k,0,cs,os,ks,gs,bs,([]:aB)⟩:Mb));letI e:=(adJ (⟨a.r,gs,l,0,cs,os,ks,gs,bs⟩:Mj));.req (RS.q (⟨X,cs,g,0,cs,os,ks,gs,bs⟩:MZ))<|.br (Bj (aKt (⟨X,cs,g,0,cs,os,ks,gs,bs⟩:MZ))<|.ret) (.ok c.r)<|.req (RR.q (⟨c.r,ks,k,0,cs,os,ks,gs,bs,([]:aB)⟩:Mb))<|.br (Bj (aKs (⟨c.r,ks,k,0,cs,os,ks,gs,bs,([]:aB)⟩:Mb))<|.ret) (.ok a.r)<|.req (RM.q (⟨a.r,gs,l,0,cs,os,ks,gs,bs⟩:Mj))<|.br (Bj (aKr (⟨a.r,gs,l,0,cs,os,ks,gs,bs⟩:Mj))<|.ret) (.ok e.r)<|.req (RK.q (⟨e.r,bs,m,0,cs,os,ks,gs,bs⟩:Mt))<|.br (Bj (aKq (⟨e.r,bs,m,0,cs,os,ks,gs,bs⟩:Mt))<|.ret) (.ok (aJj (⟨e.r,bs,m,0,cs,os,ks,gs,bs⟩:Mt)).r)<|.ok U) ?_
  obtain ⟨⟨hc,ho,hk,hg,hb⟩,rfl⟩:=h;refine L4 ⟨⟨rfl,Aa,hc,rfl⟩,rfl,rfl⟩ λhE0=>?_
  obtain ⟨s',_,hq⟩:=as9 _ hE0.1;rcases hq with ⟨q1,q2⟩ |⟨q1,q2,j,q3,q4⟩
  rotate_left
  ·rw [q1,q2]
   refine ⟨λ_=>B0 (λz=>LV.v<|.bool z) ?_,λh=>As⟩
   unfold vpB;rw [Nd (f:=λj=>F4 j<|AZ cs j) j q3 q4]
   rfl
  rw [q1];refine ⟨λh=>As,λ_=>?_⟩
  have g0:D5 (M cs) (λj=>F4 j<|AZ cs j)=true:=DQ.2 q2
  refine L4 ⟨⟨rfl,rfl,rfl,hk,ho⟩,rfl,rfl⟩ λhE1=>?_
  obtain ⟨s',_,hq⟩:=as8 _ hE1.1;rcases hq with ⟨q1,q2⟩ |⟨q1,q2,j,q3,q4⟩
  rotate_left
  ·rw [q1,q2]
   refine ⟨λ_=>B0 (λz=>LV.v<|.bool z) ?_,λh=>As⟩
   unfold vpB
   have hn:(ks.all (koV<|M os)&&once (ks.map (·.2.2.2)))=false:=by
    rw [IX];intro hx
    have:=(We (d:=(emp,0,0,0))).2 hx j q3
    exact Bool.noConfusion<|this.symm.trans q4
   rw [g0,ET,<-VG,hn];rfl
  rw [q1];refine ⟨λh=>As,λ_=>?_⟩
  have g1:(ks.all (koV<|M os)&&once (ks.map (·.2.2.2)))=true:=(We (d:=(emp,0,0,0))).1 q2
  refine L4 ⟨⟨rfl,Aa,hg,rfl,hc,ho⟩,rfl,rfl⟩ λhE2=>?_
  obtain ⟨s',_,hq⟩:=asN _ hE2.1;rcases hq with ⟨q1,q2⟩ |⟨q1,q2,j,q3,q4⟩
  rotate_left
  ·rw [q1,q2]
   refine ⟨λ_=>B0 (λz=>LV.v<|.bool z) ?_,λh=>As⟩
   unfold vpB
   have hn:gs.all (G7 (M cs)<|M os)=false:=by
    rw [IX];intro hx
    have:=(Qo (d:=(emp,0,0,0,0,0,0,0))).2 hx j q3
    exact Bool.noConfusion<|this.symm.trans q4
   rw [g0,ET,<-VG,g1,hn];rfl
  rw [q1];refine ⟨λh=>As,λ_=>?_⟩
  have g2:gs.all (G7 (M cs)<|M os)=true:=(Qo (d:=(emp,0,0,0,0,0,0,0))).1 q2
  have hw:=AI (x:=(M gs:Y)-1)
  refine L4 ⟨⟨rfl,AJ,hb,rfl⟩,rfl,rfl⟩ λhE3=>?_
  obtain ⟨s',_,hq⟩:=asM _ hE3.1;rcases hq with ⟨q1,q2⟩ |⟨q1,q2,j,q3,q4⟩
  rotate_left
  ·rw [q1,q2]
   refine ⟨λ_=>B0 (λz=>LV.v<|.bool z) ?_,λh=>As⟩
   unfold vpB
   have hn:bs.all (λb=>inB b.2 0<|(M gs:Y)-1)=false:=by
    rw [IX];intro hx
    have:=(Qo (d:=(emp,0))).2 hx j q3
    have q4:inB (OZ bs j).2 0 (AA<|(M gs:Y)-1)=false:=q4
    rw [hw] at q4;exact Bool.noConfusion<|this.symm.trans q4
   rw [g0,ET,<-VG,g1,g2,hn];rfl
  rw [q1];refine ⟨λh=>As,λ_=>?_⟩
  have g3:bs.all (λb=>inB b.2 0<|(M gs:Y)-1)=true:=(Qo (d:=(emp,0))).1 (λj hj=>by
   have:inB (OZ bs j).2 0 (AA<|(M gs:Y)-1)=true:=q2 j hj
   rw [hw] at this;exact this)
  refine B0 (λz=>LV.v<|.bool z) ?_
  unfold vpB;rw [g0,ET,<-VG,g1,g2,g3];rfl
 ·cases h)
structure MA where
 r:aM
 l:aE
 (n i:Y)
 BE:aJ
 Bg:aE
 C9:aP
 BP:aF
 CA:aQ
 seen:aE
def aKf:=bN f18 0
def pK (s:MA):T (Rd MA):=letI a:=gS s.l s.i;.br (an<|s.i<s.n) (.ix s.i (M s.l)<|.br ((!(nameB a)) ||(List.contains s.seen a)) (.so (.ret) {s with r:=X})<|.req (List.contains s.seen a=X)<|.nx {s with i:=AA<|s.i+1,seen:=s.seen++[a]})<|.so (.exit 0) s
def SR (s:MA) (j:Y):aM:=nameB (gS s.l j)&&!(((s.l.take j.toNat).map id).contains<|gS s.l j)
def yn (s:MA):Prop:=s.i=0/\s.seen=[]/\s.n=(M s.l:Y)/\s.n<=1000/\True
def dU (s:MA):Prop:=0<=s.i/\s.i<=s.n/\s.n=(M s.l:Y)/\s.n<=1000/\(True)/\s.seen=(s.l.take s.i.toNat).map id/\∀j:aC,(j:Y)<s.i->SR s j=U
def aCX (s:MA):aC:=(s.n-s.i).toNat
def yd (x:Ex) (s s':MA):Prop:=(x=.exit 0/\∀j:aC,(j:Y)<s'.n->SR s' j=U)\/(x=.ret/\s'.r=X/\∃j:aC,(j:Y)<s'.n/\SR s' j=X)
def ap0:∀s,yn s->dU s:=by
 exact aP0
def alq:Da dU aCX yd pK:=by
 intro s hI;unfold pK;obtain ⟨h0,h1,h2,h3,h4,h5,h6⟩:=hI;refine AH (λc1=>AH (λc2=>?_) λc2=>?_) λc1=>?_
 ·have c1:s.i<s.n:=AX
  refine .inr ⟨rfl,rfl,s.i.toNat,Aa,?_⟩;rw [Bs h0]
  have hg:SR s s.i=false:=by
   unfold SR
   grind
  exact hg
 ·have c1:s.i<s.n:=AX
  have hg:SR s s.i=true:=by
   unfold SR
   grind
  rw [AI (x:=s.i+1)];refine ⟨⟨Aa,Aa,h2,h3,h4,?_,λj hj=>?_⟩,by simp only [aCX];omega⟩
  ·simp only
   rw [(aJo h0 (show s.i<M s.l by omega)).2,h5]
   try rw [KJ]
   try rfl
  ·exact aPH
 ·exact aOc
def SW:AR MA:=⟨0,61,[1,2,3,42,43,44],[],λs=>[.own 0 0,s.r,.om 1,s.l,s.n,s.i],λs=>[⟨[s.BE,s.Bg,s.C9,s.BP,s.CA],28,.cl,X⟩,⟨[],126,.st .str s.seen,X⟩],λv b=>⟨EB v 1,B1 .str v 3,AL v 4,AL v 5,AF Ae b 0 0,AF .str b 0 1,AF Ak b 0 2,AF Af b 0 3,AF Al b 0 4,gSe .str<|Cc b 1⟩,pK,λs r=> {s with r:=r.r,i:=r.i,seen:=r.seen},λs=>s,λ_ s=>s,[.ret,.exit 0],yn,dU,aCX⟩
abbrev aSB:=SW.run
abbrev aV8:=SW.At
def ala:Rq dU pK:=by
 intro s hI;refine ⟨λc1=>⟨?_,λ_=>trivial,λc2=>⟨?_,ak⟩⟩,λ_=>trivial⟩
 all_goals ((obtain ⟨h0,h1,h2,h3,h4,h5,h6⟩:=hI;first|(simp at c1;omega) |(simp only [HN] at c2;exact c2.2)))
def ac9:aN:=[aye,ayj,axy]
def aa7:SW.Ok:={}
def aad:SW.Pf (yd):=⟨ap0,λs h=>rfl,alq,ala⟩
def azo:SA 0 aKf SW:=s1 aa7 aad ac9 kN
def ay9:Fi yn dU yd aV8 aSB:=AR.fin aa7 aad
def aLy:aD->T LV
 | .agg a::r=>s5 a λcs os ks gs bs=>(match r with
  | []=> .ok (B9 cs os ks gs bs)
  |_=> .no)
 |_=> .no
def PC:=vm (S:=aLy) func18 ac9 kN (L:=(λi=>if i=5 then SW.lp else Ao i)) (λb hb=>by
 rw [show BC _=[aKf] by kernel_rfl] at hb
 simp only [B6,Bv,Bt] at hb;subst hb;exact azo) (λargs lv h=>by
 unfold aLy at h;split at h
 case h_2=>cases h
 replace h:=Ij h
 obtain ⟨cs,os,ks,gs,bs,rfl,h⟩:=h;split at h
 ·refine Aq (letI b:=Lq cs os ks gs bs;letI e:=(M b:Y);letI f:=(M cs:Y);letI a:=(f<=1000/\(M os:Y)<=1000/\(M ks:Y)<=1000/\(M gs:Y)<=1000/\(M bs:Y)<=1000);.br ((an<|f<1) ||((an<|f>16) ||((an<|(M os:Y)>8) ||((an<|(M ks:Y)>32) ||((an<|(M gs:Y)>16) ||(an<|(M bs:Y)>24)))))) (.ok X)<|.req a<|.req (SW.q (⟨X,b,e,0,cs,os,ks,gs,bs,([]:aE)⟩:MA))<|.br (Bj (aV8 (⟨X,b,e,0,cs,os,ks,gs,bs,([]:aE)⟩:MA))<|.ret) (.ok (aSB (⟨X,b,e,0,cs,os,ks,gs,bs,([]:aE)⟩:MA)).r)<|.req a<|.ok<|vpB cs os ks gs bs) ?_
  obtain rfl:=h;refine ⟨λc=>B0 (λz=>LV.v<|.bool z) ?_,λc=>?_⟩
  ·rw [T1,IX]
   intro hx;unfold B9 at hx;rw [AY,Ac] at hx;simp only [CS,Ac] at c;omega
  have hd:1<=M cs/\M cs<=16/\M os<=8/\M ks<=32/\M gs<=16/\M bs<=24:=by
   simp only [HN,DI] at c;omega
  have hs:B9 cs os ks gs bs=(((Lq cs os ks gs bs).all nameB&&once (Lq cs os ks gs bs))&&vpB cs os ks gs bs):=by
   unfold B9
   grind
  have hl:(M (Lq cs os ks gs bs):Y)<=1000:=by
   unfold Lq;simp only [BG,GK];omega
  rw [hs]
  have hr:(M cs:Y)<=1000/\(M os:Y)<=1000/\(M ks:Y)<=1000/\(M gs:Y)<=1000/\(M bs:Y)<=1000:=A0
  refine ⟨hr,?_⟩;generalize Lq cs os ks gs bs=l at*;refine L4 ⟨⟨rfl,rfl,rfl,hl,ak⟩,rfl,rfl⟩ λhE=>?_
  obtain ⟨s',_,hq⟩:=ay9 _ hE.1;rcases hq with ⟨q1,q2⟩ |⟨q1,q2,j,q3,q4⟩
  ·rw [q1]
   have hk:=(We (d:=emp) (p:=nameB) (k:=id)).1 q2
   rw [VE] at hk;refine ⟨λh=>As,λ_=>⟨hr,?_⟩⟩
   rw [hk,ET];rfl
  ·rw [q1,q2]
   refine ⟨λ_=>B0 (λz=>LV.v<|.bool z) ?_,λh=>As⟩
   have hn:(l.all nameB&&once l)=false:=by
    rw [IX];intro hx
    have:=(We (d:=emp) (p:=nameB) (k:=id)).2 (by rw [VE];exact hx) j q3
    exact Bool.noConfusion<|this.symm.trans q4
   rw [hn];rfl
 ·cases h)
def aM8:aD->T LV
 | .agg a::r=>s5 a λcs os ks gs bs=>(match r with
  | [.v (ag J c)]=> .ok (.fn 82 [xQ 1 [c],xQ 5 [cs,os,ks,gs,bs]])
  |_=> .no)
 |_=> .no
def Px:aN:=[]
def abn:Ax:=kI Px<|l0 Px
def iP:=vo (S:=aM8) func33 Px abn (λargs lv h=>by
 unfold aM8 at h;split at h
 case h_2=>cases h
 replace h:=Ij h
 obtain ⟨cs,os,ks,gs,bs,rfl,h⟩:=h;split at h
 ·rename_i c
  refine Aq (.ok<|.fn 82 [(xQ 1 [c]),(xQ 5 [cs,os,ks,gs,bs])]) ?_;exact h
 ·cases h)
def aCP:Array Tmp×Code×Code:=((JA<|f232.body.getD .skip)[0]?).getD (#[],.skip,.skip)
def alN:aX3:=aCP.1
def an0:bB:=aCP.2.1
def amr:bB:=aCP.2.2
structure Mw where
 cs:aJ
 os:aE
 ks:aP
 gs:aF
 bs:aQ
 (c b0:Y)
 b1:aM
 st:LS
def jq (s:Mw):T (Rd Mw):=
 .br (an<|s.c>=0) (.br (s.c==s.b0) (.so (.ret) {s with b1:=U,st:=.done<|.ret})<|.ix s.c (M s.cs)<|.nx {s with c:=(AZ s.cs s.c).2.1}) (.so (.exit 0) s)
def aE8 (s:Mw):Prop:=s.st=.ready/\Fm s.cs=U/\s.c<(M s.cs:Y)/\s.b1=X
def lI (s:Mw):Prop:=s.st=.ready/\Fm s.cs=U/\s.c<(M s.cs:Y)
def vY (s:Mw):aC:=(s.c+1).toNat
def acN (x:Ex) (s s':Mw):Prop:=(x=.ret/\s'.b1=U/\Fk s.cs s.b0 s.c=U)\/(x=.exit 0/\Fk s.cs s.b0 s.c=X)
def an4:∀s,aE8 s->lI s:=by
 rintro s ⟨h0,h1,h2,h3⟩
 exact ⟨h0,h1,h2⟩
def aRo:Da lI vY acN jq:=by
 intro s hI;obtain ⟨h0,h1,h2⟩:=hI
 have hp:=aSJ (o:=s.b0) h1 h2
 refine AH (λc1=>AH (λc2=>?_) λc2=>?_) λc1=>?_
 ·have c1:0<=s.c:=A8
  exact .inl ⟨rfl,rfl,A8⟩
 ·have c1:0<=s.c:=A8
  have:=R6 h1 c1 h2
  exact ⟨⟨h0,h1,A8⟩,by simp only [vY];omega⟩
 ·have c1:¬(0<=s.c):=A8
  exact .inr ⟨rfl,A8⟩
def ZE:AR Mw:=⟨3,18,[0,2,4],[],λs=>[.CU 2,xQ 5 [s.cs,s.os,s.ks,s.gs,s.bs],s.c],λs=>[⟨[s.b0],3,.cl,X⟩,⟨[s.b1],4,.cl,X⟩,⟨[.junk,.junk,.junk,.own 0 0,.own 1 0,.v<|.tuple #[],.junk,.v<|.tuple #[],.v<|.tuple #[],.v<|.tuple #[],.v<|.tuple #[]],0,.Cq alN an0 amr s.st,X⟩],λv b=>⟨Ar Ae<|BV (v.getD 1 .junk) 0,Ar .str<|BV (v.getD 1 .junk) 1,Ar Ak<|BV (v.getD 1 .junk) 2,Ar Af<|BV (v.getD 1 .junk) 3,Ar Al<|BV (v.getD 1 .junk) 4,AL v 2,Am b 0 0,cgB b 1 0,.ready⟩,jq,λs r=> {r with cs:=s.cs,os:=s.os,ks:=s.ks,gs:=s.gs,bs:=s.bs,b0:=s.b0},λs=> {s with st:=.ready},λx s=> {s with st:=(match x with| .ret=>(.done<|.ret) | .exit 0=> .ready|_=> .ready)},[.ret,.exit 0],aE8,lI,vY⟩
abbrev tq:=ZE.run
abbrev uY:=ZE.At
def afm:Rq lI jq:=by
 intro s hI;refine ⟨λc1=>⟨λ_=>trivial,λc2=>⟨?_,ak⟩⟩,λ_=>trivial⟩
 ·(obtain ⟨h0,h1,h2⟩:=hI;simp at c1 h2;exact ⟨c1,h2⟩)
def wA:ZE.Ok:={}
def uh:ZE.Pf (acN):=⟨an4,λs h=>by
 obtain ⟨cs,os,ks,gs,bs,c,b0,b1,st⟩:=s
 have e:=h.1
 subst e;rfl,aRo,afm⟩
def asy:=s2 (b:=bN f82 0) wA uh Px abn
def agr (s:Mw) (hE:aE8 s):(uY s=.ret/\(tq s).b1=U/\Fk s.cs s.b0 s.c=U)\/(uY s=.exit 0/\Fk s.cs s.b0 s.c=X):=by
 have hk:=AR.Kv wA uh (λs=>Fk s.cs s.b0 s.c) (λs hI=>by
  obtain ⟨h0,h1,h2⟩:=hI
  have hp:=aSJ (o:=s.b0) h1 h2
  refine AH (λc1=>AH (λc2=>rfl) λc2=>?_) λc1=>rfl
  have c1:0<=s.c:=A8
  show Fk _ _ _=Fk _ _ _
  rw [hp,AD c1,c2,DC]) s hE
 have hk:Fk s.cs s.b0 (tq s).c=Fk s.cs s.b0 s.c:=hk
 obtain ⟨s',hI,hf⟩:=AR.end_ wA uh s hE
 have hq:=eR (aRo s' hI) hf
 have hc:=eR (Pn:=λ_=>True) (Ps:=λ_ r=>r.cs=s'.cs/\r.b0=s'.b0/\r.c=s'.c) (r:=(jq s').rd s') (by
   exact AH (λ_=>AH (λ_=>⟨rfl,rfl,rfl⟩) λ_=>trivial) λ_=>⟨rfl,rfl,rfl⟩) hf
 obtain ⟨hc1,hc3,hc2⟩:=hc
 have e1:s.cs=s'.cs:=hc1
 have e2:s.b0=s'.b0:=hc3
 rwa [<-hk,hc2,e1,e2]
def aVR:aD->T LV
 | [.fn 82 [.xq 1 q0,.xq 5 q1],.v (ag J o)]=>(match ([q0 0]:aD) with
  | [.v (ag J c)]=>(match ([q1 0,q1 1,q1 2,q1 3,q1 4]:aD) with
  | [.xl (.pair .str (.pair (.int J) (.pair (.int J) (.pair (.int J) (.pair (.pair (.int J) (.int J)) (.pair (.int J) (.pair (.int J) (.pair (.int J) (.pair (.int J) (.int J)))))))))) cs,.xl (.str) os,.xl (.pair .str (.pair (.int J) (.pair (.int J) (.int J)))) ks,.xl (.pair .str (.pair (.int J) (.pair (.int J) (.pair (.int J) (.pair (.int J) (.pair (.int J) (.pair (.int J) (.int J)))))))) gs,.xl (.pair .str (.int J)) bs]=> .req (Fm cs=U/\c<(M cs:Y)) (.ok<|Fk cs o c)
  |_=> .no)
  |_=> .no)
 |_=> .no
def abm:Ax:=kI Px<|la 1 func82 asy<|l0 Px
def agC (c:Y) (cs:aJ) (os:aE) (ks:aP) (gs:aF) (bs:aQ) (o:Y):Bw prog AT (Px) abm Ao f232 [.fn 82 [xQ 1 [c],xQ 5 [cs,os,ks,gs,bs]],o]=.req (ZE.q (⟨cs,os,ks,gs,bs,c,o,X,.ready⟩:Mw)) (.br (Bj (uY (⟨cs,os,ks,gs,bs,c,o,X,.ready⟩:Mw))<|.ret) (.ok (tq (⟨cs,os,ks,gs,bs,c,o,X,.ready⟩:Mw)).b1)<|.ok X):=AV
def aki:=vo (S:=aVR) func232 Px abm (λargs lv h=>by
 refine ⟨?_⟩;unfold aVR at h;split at h
 ·split at h
  case h_2=>cases h
  rename_i heq0;split at h
  case h_2=>cases h
  rename_i heq1;simp only [canL,canX];rw [E7 (n:=1) heq0];rw [E7 (n:=5) heq1];simp only [canL,canX];rw [agC];obtain ⟨⟨hu,hc⟩,rfl⟩:=h;refine L4 ⟨⟨rfl,hu,hc,rfl⟩,rfl,rfl⟩ λhE=>?_
  rcases agr _ hE.1 with ⟨h1,h2,h3⟩ |⟨h1,h2⟩
  ·rw [h1,h2]
   exact ⟨λ_=>B0 (λz=>LV.v<|.bool z) h3.symm,λh=>As⟩
  ·rw [h1]
   exact ⟨λh=>As,λ_=>B0 (λz=>LV.v<|.bool z) h2.symm⟩
 ·cases h)
structure OP where
 l:aF
 (n i:Y)
 Bi:aJ
 Gs:aE
 Gq:aP
 Gt:aF
 Gv:aQ
 b1:Y
 out:aB
def aKl:=bN f198 0
def pQ (s:OP):T (Rd OP):=
 .br (an<|s.i<s.n) (.ix s.i (M s.l)<|.req (Fm s.Bi=U/\(AG s.l s.i).2.1<(M s.Bi:Y))<|.br (Fk s.Bi s.b1 (AG s.l s.i).2.1) (.rb (M s.out) (M<|[s.i]) 8<|.re (M s.out+M ([s.i])) (s.out++([s.i]))<|.nx {s with i:=AA<|s.i+1,out:=s.out++([s.i])})<|.rl s.out<|.nx {s with i:=AA<|s.i+1}) (.rl s.out<|.so (.exit 0) s)
def qN (s:OP):Prop:=s.i=0/\s.out=[]/\s.n=(M s.l:Y)/\s.n<=1000/\Fm s.Bi=U/\atB s.Bi s.l=U
def dQ (s:OP):Prop:=(0<=s.i/\s.i<=s.n)/\s.out=Ct s.Bi s.l s.b1 s.i.toNat/\s.n=(M s.l:Y)/\s.n<=1000/\Fm s.Bi=U/\atB s.Bi s.l=U
def kM (s:OP):aC:=(s.n-s.i).toNat
def yl (x:Ex) (s s':OP):Prop:=x=.exit 0/\s'.out=Ct s'.Bi s'.l s'.b1 (M s'.l)
def apj:∀s,qN s->dQ s:=by
 rintro s ⟨h0,h1,h2,h3,h4,h5⟩
 exact ⟨⟨A0,A0⟩,oe,h2,h3,h4,h5⟩
def aoT:Da dQ kM yl pQ:=by
 intro s hI;unfold pQ;obtain ⟨⟨h0,h1⟩,h2,h3,h4,h5,h6⟩:=hI;refine AH (λc1=>?_) λc1=>?_
 ·have c1:s.i<s.n:=AX
  have hs:=aGx (cs:=s.Bi) (gs:=s.l) (o:=s.b1) (k:=s.i.toNat)
  rw [AI (x:=s.i+1)];refine AH (λc2=>?_) λc2=>?_
  ·refine ⟨⟨⟨Aa,Aa⟩,?_,h3,h4,h5,h6⟩,by simp only [kM];omega⟩
   simp only
   grind
  ·refine ⟨⟨⟨A8,A8⟩,?_,h3,h4,h5,h6⟩,by simp only [kM];omega⟩
   simp only
   grind
 ·have c1:s.n<=s.i:=AX
  exact ⟨rfl,A8⟩
def Sb:AR OP:=⟨0,42,[6,7,26,27,28],[.nl 7 3 A7],λs=>[.fn 231 [.own 0 0,.own 1 0],.os 2 1 0<|M s.out,s.l,s.n,s.i],λs=>[⟨[s.Bi,s.Gs,s.Gq,s.Gt,s.Gv],28,.cl,X⟩,⟨[s.b1],3,.cl,X⟩,bV 3 A7 s.out],λv b=>⟨B1 Af v 2,AL v 3,AL v 4,AF Ae b 0 0,AF .str b 0 1,AF Ak b 0 2,AF Af b 0 3,AF Al b 0 4,Am b 1 0,Ab A7 b 2⟩,pQ,λs r=> {s with i:=r.i,out:=r.out},λs=>s,λ_ s=>s,[.exit 0],qN,dQ,kM⟩
abbrev sX:=Sb.run
abbrev aiB:=Sb.At
def alo:Rq dQ pQ:=by
 intro s hI;refine ⟨λc1=>⟨?_,?_,λc2=>⟨?_,?_,ak⟩,λc2=>⟨A9,ak⟩⟩,λc1=>⟨A9,ak⟩⟩
 all_goals ((obtain ⟨⟨h0,h1⟩,h2,h3,h4,h5,h6⟩:=hI;have hol:M s.out<=s.i.toNat:=(by rw [h2];exact rk);(try simp only [Ac] at c1);first|omega|exact ⟨h5,jH h6 h0 A0⟩ |(refine ⟨A0,?_,?_⟩<;>simp only [Bm,C3]<;>omega) |exact ⟨rfl,AJ⟩ |exact ⟨rfl,rfl⟩))
def kL:aN:=[PC,iP,aki]
def abl:Ax:=kI kL<|l0 kL
def aaJ:Sb.Ok:={}
def aan:Sb.Pf (yl):=⟨apj,λs h=>rfl,aoT,alo⟩
def azx:SA 0 aKl Sb:=s1 aaJ aan kL abl
def aiv:Fi qN dQ yl aiB sX:=AR.fin aaJ aan
def aJ9:aD->T LV
 | .agg a::r=>s5 a λcs os ks gs bs=>(match r with
  | [.v (ag J o)]=> .ok (.AQ [.xl A7<|Qa cs os ks gs bs o,yY cs os ks gs bs o])
  |_=> .no)
 |_=> .no
def atF:=vm (S:=aJ9) func198 kL abl (L:=(λi=>if i=6 then Sb.lp else Ao i)) (λb hb=>by
 rw [show BC _=[aKl] by kernel_rfl] at hb
 simp only [B6,Bv,Bt] at hb;subst hb;exact azx) (λargs lv h=>by
 unfold aJ9 at h;split at h
 case h_2=>cases h
 replace h:=Ij h
 obtain ⟨cs,os,ks,gs,bs,rfl,h⟩:=h;split at h
 ·rename_i o
  refine Aq (letI a:=(sX (⟨gs,(M gs:Y),0,cs,os,ks,gs,bs,o,([]:aB)⟩:OP));.br ((!(B9 cs os ks gs bs)) ||((an<|o<0) ||(an<|o>=(M cs:Y)))) (.ok<|.AQ [.xl A7 ([]:aB),(1:Y)])<|.r0 Int<|.req (Sb.q (⟨gs,(M gs:Y),0,cs,os,ks,gs,bs,o,([]:aB)⟩:OP))<|.rz a.out<|.ok<|.AQ [.xl A7<|(a.out.drop 0).take<|M a.out,(0:Y)]) ?_;obtain rfl:=h;refine ⟨λc=>?_,λc=>?_⟩
  ·have hn:¬(B9 cs os ks gs bs=U/\0<=o/\o<(M cs:Y)):=by
    rintro ⟨h1,h2,h3⟩
    rw [h1] at c
    simp at c
    omega
   show LV.AQ _=_
   unfold Qa yY
   grind
  ·simp only [HN,IW,DI] at c
   have hl:=(Cz.1 c.1).1
   have hE:qN ⟨gs,(M gs:Y),0,cs,os,ks,gs,bs,o,([]:aB)⟩:=⟨rfl,rfl,rfl,Aa,fI c.1,fJ c.1⟩
   obtain ⟨s',_,q1,q2⟩:=aiv _ hE
   have q2:(sX ⟨gs,(M gs:Y),0,cs,os,ks,gs,bs,o,([]:aB)⟩).out=Ct cs gs o (M gs):=q2
   refine ⟨A9,⟨hE,rfl,rfl⟩,A0,?_⟩
   show LV.AQ [LV.xl _ _,_]=_
   unfold Qa yY
   grind
 ·cases h)
def aLW:aD->T LV
 | [.v (.agg ⟨[ag J am,ag J mo,ag J ga,ag J lo,ag J de]⟩)]=> .ok (GJ (am,mo,ga,lo,de))
 |_=> .no
def RI:aN:=[]
def hnd20:Ax:=kI RI<|l0 RI
def aRN:=vo (S:=aLW) func43 RI hnd20 (λargs lv h=>by
 unfold aLW at h;split at h
 ·rename_i am mo ga lo de
  refine Aq (.br ((am==0)&&((mo==0)&&((ga==0)&&((lo==0)&&(de==0))))) (.ok U)<|.br ((an<|am>=0)&&(an<|am<=200000)) (.br (an<|mo>am) (.br (an<|mo<=200000) (.br ((an<|ga>=0)&&(an<|ga<=1000)) (.br ((an<|lo>=0)&&(an<|lo<=1000)) (.ok<|.v<|.bool<|(an<|de>=1)&&(an<|de<=1000000))<|.ok X)<|.ok X)<|.ok X)<|.ok X)<|.ok X) ?_;obtain rfl:=h;unfold GJ cbZ;refine ⟨λc=>by rw [c];rfl,λc=>?_⟩
  unfold inB;refine ⟨λc1=>⟨λc2=>⟨λc3=>⟨λc4=>⟨λc5=>?_,λc5=>?_⟩,λc4=>?_⟩,λc3=>?_⟩,λc2=>?_⟩,λc1=>?_⟩
  all_goals refine B0 (λz=>LV.v<|.bool z) ?_
  all_goals
   grind
 ·cases h)
def aKJ:aD->T LV
 | [.xq 6 q0]=>(match ([q0 0,q0 1,q0 2,q0 3,q0 4,q0 5]:aD) with
  | [.v (ag J am),.v (ag J mo),.v (ag J ga),.v (ag J lo),.v (ag J de),.v (ag J now)]=> .ok (.v<|ag J (if de<lo then de else lo))
  |_=> .no)
 |_=> .no
def aug (am mo ga lo de now:Y):Bw prog AT (RI) kN Ao f89 [xQ 6 [am,mo,ga,lo,de,now]]=.ok (.v<|ag J (if de<lo then de else lo)):=AV
def axw:=vo (S:=aKJ) func89 RI kN (λargs lv h=>by
 refine ⟨?_⟩;unfold aKJ at h;split at h
 ·split at h
  case h_2=>cases h
  rename_i heq0;simp only [canL,canX];rw [E7 (n:=6) heq0];simp only [canL,canX]
  rwa [aug]
 ·cases h)
def aKI:aD->T LV
 | [.xq 6 q0]=>(match ([q0 0,q0 1,q0 2,q0 3,q0 4,q0 5]:aD) with
  | [.v (ag J am),.v (ag J mo),.v (ag J ga),.v (ag J lo),.v (ag J de),.v (ag J now)]=> .ok (cbZ (am,mo,ga,lo,de))
  |_=> .no)
 |_=> .no
def auf (am mo ga lo de now:Y):Bw prog AT (RI) kN Ao f87 [xQ 6 [am,mo,ga,lo,de,now]]=.ok (.v<|.bool<|(am==0)&&((mo==0)&&((ga==0)&&((lo==0)&&(de==0))))):=AV
def aRC:=vo (S:=aKI) func87 RI kN (λargs lv h=>by
 refine ⟨?_⟩;unfold aKI at h;split at h
 ·split at h
  case h_2=>cases h
  rename_i heq0;simp only [canL,canX];rw [E7 (n:=6) heq0];simp only [canL,canX]
  rwa [auf]
 ·cases h)
structure OY where
 (low high af2 ax9 axC axB aj0 arT b11 b12 b13 b14 aiz b3:Y)
def pP (s:OY):T (Rd OY):=letI a:=AA<|s.low+(AA<|(AA<|(AA<|s.high-s.low)+1).tdiv 2);.br (an<|s.low<s.high) (.req ((2:Y)≠0)<|.br (an<|(AA<|(AA<|s.b12*a)*a)<=s.b3) (.nx {s with low:=a})<|.nx {s with high:=AA<|a-1})<|.so (.exit 0) s
def yo (s:OY):Prop:=s.low=0/\s.high=1000/\(0<=s.b12/\s.b12<=1000)/\0<=s.b3
def dP (s:OY):Prop:=(0<=s.low/\s.low<=s.high/\s.high<=1000)/\s.b12*s.low*s.low<=s.b3/\(∀a:Y,s.high<a->a<=1000->¬s.b12*a*a<=s.b3)/\(0<=s.b12/\s.b12<=1000)/\0<=s.b3
def kc (s:OY):aC:=(s.high-s.low).toNat
def yk (x:Ex) (s s':OY):Prop:=x=.exit 0/\s'.low=prm s'.b12 s'.b3
def apT:∀s,yo s->dP s:=by
 rintro s ⟨h0,h1,h2,h3⟩
 exact ⟨A0,A8,λa h h2=>A0,h2,h3⟩
def anY:Da dP kc yk pP:=by
 intro s hI;unfold pP;obtain ⟨⟨h0,h1,h2⟩,h3,h4,⟨h5,h6⟩,h7⟩:=hI
 have em:s.low<s.high->AA (s.low+AA ((AA<|AA (s.high-s.low)+1).tdiv 2))=s.low+(s.high-s.low+1) / 2:=λc=>by
  rw [AI (x:=s.high-s.low),AI (x:=s.high-s.low+1),I0 A0,AI (x:=(s.high-s.low+1) / 2),AI]
 refine AH (λc1=>?_) λc1=>?_
 ·have c1:s.low<s.high:=AX
  rw [em c1]
  have hm1:s.low<s.low+(s.high-s.low+1) / 2:=A0
  have hm2:s.low+(s.high-s.low+1) / 2<=s.high:=A0
  generalize s.low+(s.high-s.low+1) / 2=m at hm1 hm2|-;obtain ⟨⟨b1,b2⟩,b3,b4⟩:=aBp h5 h6 (m:=m) A0 A0;rw [AI (x:=s.b12*m),AI (x:=s.b12*m*m),AI (x:=m-1)];refine AH (λc2=>?_) λc2=>?_
  ·have c2:s.b12*m*m<=s.b3:=Dl
   exact ⟨⟨⟨Aa,Aa,h2⟩,c2,h4,⟨h5,h6⟩,h7⟩,by simp only [kc];omega⟩
  ·have c2:¬s.b12*m*m<=s.b3:=Dl
   refine ⟨⟨⟨h0,Aa,Aa⟩,h3,λa ha hk=>?_,⟨h5,h6⟩,h7⟩,by simp only [kc];omega⟩
   have:=fc h5 (a:=m) (b:=a) A0 A8
   simp only;omega
 ·have c1:s.high<=s.low:=AX
  refine ⟨rfl,(aK8 (k:=1000) h0 A0 (.inr h3) λa ha hk=>h4 a A0 A0).symm⟩
def dW:AR OY:=⟨4,25,[0,1,2],[],λs=>[s.low,s.high,.fn 154 [.own 2 0,.own 3 0]],λs=>[⟨[s.af2,s.ax9,s.axC,s.axB,s.aj0],40,.cl,X⟩,⟨[s.arT,s.b11,s.b12,s.b13,s.b14,s.aiz],125,.cl,X⟩,⟨[.own 1 0],123,.cl,X⟩,⟨[s.b3],3,.cl,X⟩],λv b=>⟨AL v 0,AL v 1,Am b 0 0,Am b 0 1,Am b 0 2,Am b 0 3,Am b 0 4,Am b 1 0,Am b 1 1,Am b 1 2,Am b 1 3,Am b 1 4,Am b 1 5,Am b 3 0⟩,pP,λs r=> {s with low:=r.low,high:=r.high},λs=>s,λ_ s=>s,[.exit 0],yo,dP,kc⟩
abbrev aSC:=dW.run
abbrev aiA:=dW.At
def Uo:aN:=[aRN,aRC,axw]
def anH:Ax:=kI Uo<|l0 Uo
def alm:Rq dP pP:=by
 intro s hI;refine ⟨λc1=>⟨?_,λ_=>trivial,λ_=>trivial⟩,λ_=>trivial⟩
 ·omega
def aaH:dW.Ok:={}
def aal:dW.Pf (yk):=⟨apT,λs h=>rfl,anY,alm⟩
def azv:=s2 (b:=bN f153 0) aaH aal Uo anH
def aiq:Fi yo dP yk aiA aSC:=AR.fin aaH aal
def aM6:aD->T LV
 | [.v (.agg ⟨[ag J am,ag J mo,ag J ga,ag J lo,ag J de]⟩)]=> .tu #[Hb (am,mo,ga,lo,de),pmE (am,mo,ga,lo,de)]
 |_=> .no
def anG:Ax:=kI Uo<|la 1 func153 azv<|l0 Uo
def ayc:=vo (S:=aM6) func118 Uo anG (λargs lv h=>by
 unfold aM6 at h;split at h
 ·rename_i am mo ga lo de
  refine Aq (letI a:=AA<|(if de<lo then de else lo)*(AA<|mo-am);.br (!(GJ (am,mo,ga,lo,de))) (.tu #[(0:Y),(1:Y)])<|.br (cbZ (am,mo,ga,lo,de)) (.tu #[(1000:Y),(0:Y)])<|.req (dW.q (⟨0,1000,am,mo,ga,lo,de,am,mo,ga,lo,de,0,a⟩:OY))<|.tu #[(aSC (⟨0,1000,am,mo,ga,lo,de,am,mo,ga,lo,de,0,a⟩:OY)).low,(0:Y)]) ?_
  obtain rfl:=h;refine ⟨λc=>?_,λc=>⟨λc2=>?_,λc2=>?_⟩⟩
  ·have c:GJ (am,mo,ga,lo,de)=false:=I3
   simp [T.all,Hb,pmE,c]
  ·have c:GJ (am,mo,ga,lo,de)=true:=I3
   simp [T.all,Hb,pmE,c,c2]
  ·have c:GJ (am,mo,ga,lo,de)=true:=I3
   obtain ⟨⟨h1,h2,h3⟩,⟨h4,h5⟩,⟨h6,h7⟩,h8,h9⟩:=jQ c c2;simp only at h1 h2 h3 h4 h5 h6 h7 h8 h9
   have hm:0<=(if de<lo then de else lo)/\(if de<lo then de else lo)<=1000:=by split<;>omega
   have e:Hb (am,mo,ga,lo,de)=prm ga ((if de<lo then de else lo)*(mo-am)):=by
    unfold Hb
    grind
   have e2:pmE (am,mo,ga,lo,de)=0:=by
    unfold pmE;rw [AD c]
   rw [e,e2,AI (x:=mo-am)];generalize (if de<lo then de else lo)=mn at hm|-
   have a1:0<=mn*(mo-am):=F7 hm.1 A0
   have a2:mn*(mo-am)<=1000*(mo-am):=Gn hm.2 A0
   rw [AI (x:=mn*(mo-am))];refine L4 ⟨⟨rfl,rfl,⟨h4,h5⟩,a1⟩,rfl,rfl⟩ λhE=>?_
   obtain ⟨s',_,q1,q2⟩:=aiq _ hE.1;rw [q2];rfl
 ·cases h)
structure Kt where
 first:Y
 l:aB
 (n i:Y)
def aIH:=bN f119 0
def aB7 (s:Kt):T (Rd Kt):=
 .br (an<|s.i<s.n) (.ix s.i (M s.l)<|.nx {s with first:=(if (gi s.l s.i)<s.first then (gi s.l s.i) else s.first),i:=AA<|s.i+1}) (.so (.exit 0) s)
def lu (s:Kt):Prop:=s.i=0/\s.n=(M s.l:Y)/\s.n<=1000
def ZQ (s:Kt):Prop:=0<=s.i/\s.i<=s.n/\s.n=(M s.l:Y)/\s.n<=1000
def x8 (s:Kt):aC:=(s.n-s.i).toNat
def aD8 (x:Ex) (s s':Kt):Prop:=x=.exit 0/\s'.i=s'.n
def amB:∀s,lu s->ZQ s:=by
 exact nz
def ai0:Da ZQ x8 aD8 aB7:=by
 intro s hI;obtain ⟨h0,h1,h2,h3⟩:=hI;refine AH (λc1=>?_) λc1=>?_
 ·have c1:s.i<s.n:=A8
  rw [AI (x:=s.i+1)];exact ⟨⟨A8,A8,h2,h3⟩,by simp only [x8];omega⟩
 ·exact T0
def SE:AR Kt:=⟨0,18,[0,7,8,9],[],λs=>[s.first,.xl A7 s.l,s.n,s.i],λ_=>[],λv b=>⟨AL v 0,B1 A7 v 1,AL v 2,AL v 3⟩,aB7,λs r=> {r with l:=s.l,n:=s.n},λs=>s,λ_ s=>s,[.exit 0],lu,ZQ,x8⟩
abbrev fV:=SE.run
abbrev avU:=SE.At
def ag8:Rq ZQ aB7:=by
 intro s hI;refine ⟨λc1=>⟨?_,ak⟩,λ_=>trivial⟩
 ·(obtain ⟨h0,h1,h2,h3⟩:=hI;simp at c1;omega)
def kK:aN:=[]
def wJ:SE.Ok:={}
def vv:SE.Pf (aD8):=⟨amB,λs h=>rfl,ai0,ag8⟩
def au3:SA 0 aIH SE:=s1 wJ vv kK kN
def auY:Fi lu ZQ aD8 avU fV:=AR.fin wJ vv
def ar0 (s:Kt) (hE:lu s):(λs:Kt=>Ix s.first<|s.l.drop s.i.toNat) (fV s)=(λs:Kt=>Ix s.first<|s.l.drop s.i.toNat) s:=by
 exact AR.Kv wJ vv (λs:Kt=>Ix s.first<|s.l.drop s.i.toNat) (λs hI=>by
  obtain ⟨h0,h1,h2,h3⟩:=hI;refine AH (λc1=>?_) λc1=>rfl
  have c1:s.i<s.n:=A8
  rw [AI (x:=s.i+1)];rw [(gi_step h0 (show s.i<M s.l by omega)).1]
  rfl) s hE
def aMW:aD->T LV
 | [.v (ag J f),.xl (.int J) l]=> .req ((M l:Y)<=1000) (.ok<|Ix f l)
 |_=> .no
def ayh:=vm (S:=aMW) func119 kK kN (L:=(λi=>if i=2 then SE.lp else Ao i)) (λb hb=>by
 rw [show BC _=[aIH] by kernel_rfl] at hb
 simp only [B6,Bv,Bt] at hb;subst hb;exact au3) (λargs lv h=>by
 unfold aMW at h;split at h
 ·rename_i f l
  refine Aq (.req (SE.q (⟨f,l,(M l:Y),0⟩:Kt))<|.ok (fV (⟨f,l,(M l:Y),0⟩:Kt)).first) ?_;obtain ⟨hl,rfl⟩:=h;refine L4 ⟨⟨rfl,rfl,hl⟩,rfl,rfl⟩ λhE=>?_
  obtain ⟨s',_,q1,q2⟩:=auY _ hE.1
  have q3:=ar0 _ hE.1
  simp only at q3;rw [q2] at q3
  have e:(fV ⟨f,l,(M l:Y),0⟩).n=(M l:Y):=rfl
  have e2:(fV ⟨f,l,(M l:Y),0⟩).l=l:=rfl
  rw [e,e2,FA A0] at q3;exact B0 (λz=>LV.v<|ag J z) q3
 ·cases h)
def aMS:aD->T LV
 | [.v (.agg ⟨[.string nm,ag J up_,ag J li,ag J ne,ag J ra,ag J he,ag J am,ag J mo,ag J ga,ag J lo,ag J de]⟩)]=> .ok (CW (nm,up_,li,ne,(ra,he),am,mo,ga,lo,de))
 |_=> .no
def an9:aN:=[ayc,ayh]
def vL:=vo (S:=aMS) func95 an9 kN (λargs lv h=>by
 unfold aMS at h;split at h
 ·rename_i nm up_ li ne ra he am mo ga lo de
  refine Aq (letI a:=(Hb (am,mo,ga,lo,de));.br ((pmE (am,mo,ga,lo,de)) !=0) (.br (ra==0) (.req ((M ([ne,(0:Y)]):Y)<=1000)<|.ok<|Ix li<|[ne,(0:Y)])<|.req ((M ([ne,(0:Y),ra]):Y)<=1000)<|.ok<|Ix li<|[ne,(0:Y),ra])<|.br (ra==0) (.req ((M ([ne,a]):Y)<=1000)<|.ok<|Ix li<|[ne,a])<|.req ((M ([ne,a,ra]):Y)<=1000)<|.ok<|Ix li<|[ne,a,ra]) ?_;obtain rfl:=h;unfold CW;simp only;refine ⟨λc=>?_,λc=>?_⟩
  ·have e:Hb (am,mo,ga,lo,de)=0:=by
    rw [atd] at c
    have c:GJ (am,mo,ga,lo,de)=false:=I3
    unfold Hb;rw [c];rfl
   rw [e];refine ⟨λc2=>⟨AJ,?_⟩,λc2=>⟨AJ,?_⟩⟩
   ·rw [AD Dl];rfl
   ·rw [AE Dl];rfl
  ·refine ⟨λc2=>⟨AJ,?_⟩,λc2=>⟨AJ,?_⟩⟩
   ·rw [AD A8];rfl
   ·rw [AE A8];rfl
 ·cases h)
def aM2:aD->T LV
 | [.v (ag J k),.xq 5 q0,.xq 2 q1]=>(match ([q0 0,q0 1,q0 2,q0 3,q0 4]:aD) with
  | [.xl (.pair .str (.pair (.int J) (.pair (.int J) (.pair (.int J) (.pair (.pair (.int J) (.int J)) (.pair (.int J) (.pair (.int J) (.pair (.int J) (.pair (.int J) (.int J)))))))))) cs,.xl (.str) os,.xl (.pair .str (.pair (.int J) (.pair (.int J) (.int J)))) ks,.xl (.pair .str (.pair (.int J) (.pair (.int J) (.pair (.int J) (.pair (.int J) (.pair (.int J) (.pair (.int J) (.int J)))))))) gs,.xl (.pair .str (.int J)) bs]=>(match ([q1 0,q1 1]:aD) with
  | [.v (ag J c),.v (ag J p)]=> .req ((0<=k/\k<(M gs:Y))/\0<=p) (.ok<|usA (AG gs k).2.2.1 p)
  |_=> .no)
  |_=> .no)
 |_=> .no
def auj (k:Y) (cs:aJ) (os:aE) (ks:aP) (gs:aF) (bs:aQ) (c p:Y):Bw prog AT (kK) kN Ao f200 [k,xQ 5 [cs,os,ks,gs,bs],xQ 2 [c,p]]=.ix k (M gs) (.req (0<=p)<|.ok<|.v<|.bool<|(Bn J (AG gs k).2.2.1<|AA<|(1:Y)*2^(min p.toNat 64)) !=0):=AV
def aRE:=vo (S:=aM2) func200 kK kN (λargs lv h=>by
 refine ⟨?_⟩;unfold aM2 at h;split at h
 ·split at h
  case h_2=>cases h
  rename_i heq0;split at h
  case h_2=>cases h
  rename_i heq1;simp only [canL,canX];rw [E7 (n:=5) heq0];rw [E7 (n:=2) heq1];simp only [canL,canX];rw [auj];obtain ⟨⟨h1,h2⟩,h3⟩:=h;exact ⟨h1,h2,h3⟩
 ·cases h)
structure Jz where
 cs:aJ
 os:aE
 ks:aP
 gs:aF
 bs:aQ
 (c p:Y)
 l:aB
 (n i:Y)
 out:aB
def aIa:=bN f199 0
def aBm (s:Jz):T (Rd Jz):=letI a:=gi s.l s.i;.br (an<|s.i<s.n) (.ix s.i (M s.l)<|.req ((0<=a/\a<(M s.gs:Y))/\0<=s.p)<|.br (usA (AG s.gs a).2.2.1 s.p) (.rb (M s.out) (M<|[a]) 8<|.re (M s.out+M ([a])) (s.out++([a]))<|.nx {s with i:=AA<|s.i+1,out:=s.out++([a])})<|.rl s.out<|.nx {s with i:=AA<|s.i+1})<|.rl s.out<|.so (.exit 0) s
def ZB (s:Jz):Prop:=s.i=0/\s.out=[]/\s.n=(M s.l:Y)/\s.n<=1000/\0<=s.p/\∀k∈s.l,0<=k/\k<(M s.gs:Y)
def Zh (s:Jz):Prop:=(0<=s.i/\s.i<=s.n)/\(M s.out:Y)<=s.i/\s.n=(M s.l:Y)/\s.n<=1000/\0<=s.p/\∀k∈s.l,0<=k/\k<(M s.gs:Y)
def jC (s:Jz):aC:=(s.n-s.i).toNat
def aDr (x:Ex) (s s':Jz):Prop:=x=.exit 0/\s'.i=s'.n
def aoP:∀s,ZB s->Zh s:=by
 rintro s ⟨h0,h1,h2,h3,h4,h5⟩
 exact ⟨A0,A8,h2,h3,h4,h5⟩
def ajS:Da Zh jC aDr aBm:=by
 intro s hI;obtain ⟨⟨h0,h1⟩,h2,h3,h4,h5,h6⟩:=hI;refine AH (λc1=>?_) λc1=>?_
 ·have c1:s.i<s.n:=AX
  rw [AI (x:=s.i+1)];refine AH (λc2=>?_) λc2=>?_
  ·exact ⟨⟨⟨Aa,Aa⟩,A8,h3,h4,h5,h6⟩,by simp only [jC];omega⟩
  ·exact ⟨⟨⟨A8,A8⟩,Aa,h3,h4,h5,h6⟩,by simp only [jC];omega⟩
 ·have c1:s.n<=s.i:=AX
  exact VL
def Q8:AR Jz:=⟨0,23,[1,5,8,9,10],[.nl 5 3 A7],λs=>[.fn 200 [xQ 5 [s.cs,s.os,s.ks,s.gs,s.bs],xQ 2 [s.c,s.p]],.os 0 1 0<|M s.out,.xl A7 s.l,s.n,s.i],λs=>[bV 3 A7 s.out],λv b=>⟨Ar Ae<|BV (gFn (v.getD 0 .junk) 0) 0,Ar .str<|BV (gFn (v.getD 0 .junk) 0) 1,Ar Ak<|BV (gFn (v.getD 0 .junk) 0) 2,Ar Af<|BV (gFn (v.getD 0 .junk) 0) 3,Ar Al<|BV (gFn (v.getD 0 .junk) 0) 4,gI<|BV (gFn (v.getD 0 .junk) 1) 0,gI<|BV (gFn (v.getD 0 .junk) 1) 1,B1 A7 v 2,AL v 3,AL v 4,Ab A7 b 0⟩,aBm,λs r=> {s with i:=r.i,out:=r.out},λs=>s,λ_ s=>s,[.exit 0],ZB,Zh,jC⟩
abbrev WQ:=Q8.run
abbrev ax3:=Q8.At
def afD:Rq Zh aBm:=by
 intro s hI;refine ⟨λc1=>⟨?_,?_,λc2=>⟨?_,?_,ak⟩,λc2=>⟨A9,ak⟩⟩,λc1=>⟨A9,ak⟩⟩
 all_goals ((obtain ⟨⟨h0,h1⟩,h2,h3,h4,h5,h6⟩:=hI;(try simp only [Ac] at c1);first|omega|(refine ⟨h6 _ ?_,h5⟩;rw [Im A0];exact Gl _) |(refine ⟨A0,?_,?_⟩<;>simp only [Bm,C3]<;>omega) |exact ⟨rfl,AJ⟩ |exact ⟨rfl,rfl⟩))
def aCq:aN:=[aRE]
def vb:Q8.Ok:={}
def vz:Q8.Pf (aDr):=⟨aoP,λs h=>rfl,ajS,afD⟩
def auO:SA 0 aIa Q8:=s1 vb vz aCq kN
def axl:Fi ZB Zh aDr ax3 WQ:=AR.fin vb vz
def arV (s:Jz) (hE:ZB s):(λs:Jz=>s.out++C1 s.gs s.p (s.l.drop s.i.toNat)) (WQ s)=(λs:Jz=>s.out++C1 s.gs s.p (s.l.drop s.i.toNat)) s:=by
 exact AR.Kv vb vz (λs:Jz=>s.out++C1 s.gs s.p (s.l.drop s.i.toNat)) (λs hI=>by
  obtain ⟨⟨h0,h1⟩,h2,h3,h4,h5,h6⟩:=hI;refine AH (λc1=>?_) λc1=>rfl
  have c1:s.i<s.n:=A8
  rw [AI (x:=s.i+1)];refine AH (λc2=>?_) λc2=>?_
  ·show _++C1 _ _ _=_++C1 _ _ _
   rw [(gi_step h0 (show s.i<M s.l by omega)).1]
   simp [C1,NC,c2]
  ·show _++C1 _ _ _=_++C1 _ _ _
   rw [(gi_step h0 (show s.i<M s.l by omega)).1]
   simp [C1,NC,c2]) s hE
def axk (s:Jz) (hE:ZB s):(WQ s).out=C1 s.gs s.p s.l:=by
 obtain ⟨s',_,q1,q2⟩:=axl s hE
 have q3:=arV s hE
 obtain ⟨h0,h1,h2,h3⟩:=hE;simp only at q3;rw [q2,show (WQ s).n=s.n from rfl,show (WQ s).l=s.l from rfl,FA A0,h0,h1] at q3
 simpa [C1] using q3
def aLc:aD->T LV
 | [.xl (.int J) l,.fn 200 [.xq 5 q0,.xq 2 q1]]=>(match ([q0 0,q0 1,q0 2,q0 3,q0 4]:aD) with
  | [.xl (.pair .str (.pair (.int J) (.pair (.int J) (.pair (.int J) (.pair (.pair (.int J) (.int J)) (.pair (.int J) (.pair (.int J) (.pair (.int J) (.pair (.int J) (.int J)))))))))) cs,.xl (.str) os,.xl (.pair .str (.pair (.int J) (.pair (.int J) (.int J)))) ks,.xl (.pair .str (.pair (.int J) (.pair (.int J) (.pair (.int J) (.pair (.int J) (.pair (.int J) (.pair (.int J) (.int J)))))))) gs,.xl (.pair .str (.int J)) bs]=>(match ([q1 0,q1 1]:aD) with
  | [.v (ag J c),.v (ag J p)]=> .req (Xz gs p l) (.ok<|.xl A7<|C1 gs p l)
  |_=> .no)
  |_=> .no)
 |_=> .no
def aut (l:aB) (cs:aJ) (os:aE) (ks:aP) (gs:aF) (bs:aQ) (c p:Y):letI a:=(WQ (⟨cs,os,ks,gs,bs,c,p,l,(M l:Y),(0:Y),([]:aB)⟩:Jz));Bw prog AT (aCq) kN (λi=>if i=3 then Q8.lp else Ao i) f199 [.xl A7 l,.fn 200 [xQ 5 [cs,os,ks,gs,bs],xQ 2 [c,p]]]=.r0 Int (.req (Q8.q (⟨cs,os,ks,gs,bs,c,p,l,(M l:Y),(0:Y),([]:aB)⟩:Jz))<|.rz a.out<|.ok<|.xl A7<|(a.out.drop 0).take<|M a.out):=AV
def ayJ:=vm (S:=aLc) func199 aCq kN (L:=(λi=>if i=3 then Q8.lp else Ao i)) (λb hb=>by
 rw [show BC _=[aIa] by kernel_rfl] at hb
 simp only [B6,Bv,Bt] at hb;subst hb;exact auO) (λargs lv h=>by
 refine ⟨?_⟩;unfold aLc at h;split at h
 ·split at h
  case h_2=>cases h
  rename_i heq0;split at h
  case h_2=>cases h
  rename_i heq1;simp only [canL,canX];rw [E7 (n:=5) heq0];simp only [canL,canX];rw [E7 (n:=2) heq1];simp only [canL,canX];rw [aut];obtain ⟨⟨hp,hl,hm⟩,rfl⟩:=h;refine ⟨A9,L4 ⟨⟨rfl,rfl,rfl,Aa,hp,hm⟩,rfl,rfl⟩ λhE=>⟨A0,?_⟩⟩
  show LV.xl _ _=_
  rw [CZ,El,axk _ hE.1]
 ·cases h)
def aCN:Array Tmp×Code×Code:=((JA<|f160.body.getD .skip)[0]?).getD (#[],.skip,.skip)
def alM:aX3:=aCN.1
def amz:bB:=aCN.2.1
def amq:bB:=aCN.2.2
structure OO where
 (n c:Y)
 FB:aJ
 Oo:aE
 On:aP
 DX:aF
 Oq:aQ
 below:aB
 KQ:aJ
 KU:aE
 KS:aP
 KT:aF
 Kd:aQ
 rows:aY
 st:LS
def pL (s:OO):T (Rd OO):=letI a:=Qa s.FB s.Oo s.On s.DX s.Oq s.c;letI b:=CW<|AZ s.FB s.c;letI d:=(b,C1 s.DX (0:Y) a);letI e:=(b,C1 s.DX (1:Y) a);letI f:=(b,C1 s.DX (2:Y) a);letI g:=(an<|(M (C1 s.DX (2:Y) a):Y)>0);letI h:=s.rows++([d]);letI i:=M s.rows+M ([d])+M ([e]);letI j:=AA<|s.c+1;letI k:=M s.rows+M ([d])+M ([e])+M ([f]);letI l:=M s.FB;letI m:=M s.rows+M ([d]);letI o:=s.rows++([e]);letI p:=(Xz s.DX (2:Y) a);letI q:=M s.rows+M ([d])+M ([f]);letI r:=M s.rows+M ([e])+M ([f]);letI t:=(an<|(M (C1 s.DX (1:Y) a):Y)>0);letI u:=h++([e]);letI v:=M s.rows+M ([e]);letI w:=M s.rows;.br (an<|s.c<s.n) (.req (Xz s.DX (0:Y) a)<|.br (an<|(M (C1 s.DX (0:Y) a):Y)>0) (.ix s.c l<|.rb w (M<|[d]) 32<|.req (Xz s.DX (1:Y) a)<|.br t (.ix s.c l<|.ra m (M h) i 32<|.req p<|.br g (.ix s.c l<|.ra i (M u) k 32<|.re k (u++([f]))<|.nx {s with c:=j,below:=a,rows:=(u++([f]))})<|.re i u<|.nx {s with c:=j,below:=a,rows:=u})<|.req p<|.br g (.ix s.c l<|.ra m (M h) q 32<|.re q (h++([f]))<|.nx {s with c:=j,below:=a,rows:=(h++([f]))})<|.re m h<|.nx {s with c:=j,below:=a,rows:=h})<|.req (Xz s.DX (1:Y) a)<|.br t (.ix s.c l<|.rb w (M<|[e]) 32<|.req p<|.br g (.ix s.c l<|.ra v (M o) r 32<|.re r (o++([f]))<|.nx {s with c:=j,below:=a,rows:=(o++([f]))})<|.re v o<|.nx {s with c:=j,below:=a,rows:=o})<|.req p<|.br g (.ix s.c l<|.rb w (M<|[f]) 32<|.re (M s.rows+M ([f])) (s.rows++([f]))<|.nx {s with c:=j,below:=a,rows:=(s.rows++([f]))})<|.rl s.rows<|.nx {s with c:=j,below:=a})<|.rl s.rows<|.so (.exit 0) s
def qF (s:OO):Prop:=s.st=.ready/\s.c=0/\s.rows=[]/\B9 s.FB s.Oo s.On s.DX s.Oq=U/\s.n=(M s.FB:Y)
def dJ (s:OO):Prop:=s.st=.ready/\(0<=s.c/\s.c<=s.n)/\s.rows=D3 s.FB s.DX s.c.toNat/\B9 s.FB s.Oo s.On s.DX s.Oq=U/\s.n=(M s.FB:Y)
def aCY (s:OO):aC:=(s.n-s.c).toNat
def ye (x:Ex) (s s':OO):Prop:=x=.exit 0/\s'.rows=D3 s'.FB s'.DX (M s'.FB)
def ap2:∀s,qF s->dJ s:=by
 rintro s ⟨h0,h1,h2,h3,h4⟩
 exact ⟨h0,A0,by rw [h1,h2];rfl,h3,h4⟩
def am8:Da dJ aCY ye pL:=by
 intro s hI;unfold pL;obtain ⟨h0,⟨h1,h2⟩,h3,h4,h5⟩:=hI;refine AH (λc1=>?_) λc1=>?_
 rotate_left
 ·have c1:s.n<=s.c:=AX
  exact ⟨rfl,A8⟩
 have c1:s.c<s.n:=AX
 have hl:=(Cz.1 h4).1
 rw [AI (x:=s.c+1)]
 have eb:Qa s.FB s.Oo s.On s.DX s.Oq s.c=Ct s.FB s.DX s.c (M s.DX):=by
  unfold Qa
  grind
 rw [eb]
 have fin:∀r:aY,r=D3 s.FB s.DX s.c.toNat++(rowP s.FB s.DX s.c 0++rowP s.FB s.DX s.c 1++rowP s.FB s.DX s.c 2)->r=D3 s.FB s.DX (s.c+1).toNat:=λr hr=>by
  rw [hr,show (s.c+1).toNat=s.c.toNat+1 by omega,D3,Bs h1]
  rfl
 refine AH (λc2=>?_) (λc2=>?_)<;>refine AH (λc3=>?_) (λc3=>?_)<;>refine AH (λc4=>?_) λc4=>?_
 all_goals
  refine ⟨⟨h0,⟨Aa,Aa⟩,?_,h4,h5⟩,by simp only [aCY];omega⟩
  simp only [Ac,DI] at c2 c3 c4;refine fin _ ?_;simp only [h3,rowP]
  first|rw [AD A0] |rw [AE A0]
  first|rw [AD A0] |rw [AE A0]
  first|rw [AD A0] |rw [AE A0]
  grind
def dc:AR OO:=⟨5,22,[0,7,8],[.nc 1 0 311 Eg,.pc 2 0 A7,.pk 0],λs=>[.CU 4,s.n,s.c],λs=>[⟨[s.FB,s.Oo,s.On,s.DX,s.Oq],28,.cl,U⟩,⟨[.os 5 2 0<|M s.rows],274,.cl,X⟩,⟨[.xl A7 s.below],29,.cl,X⟩,⟨[s.KQ,s.KU,s.KS,s.KT,s.Kd],28,.cl,X⟩,⟨[.junk,.own 0 0,.junk,.junk,.own 1 0,.own 2 0,.v<|.tuple #[],.v<|.tuple #[],.junk,.junk,.junk,.junk,.junk,.v<|.tuple #[],.v<|.tuple #[],.v<|.tuple #[],.v<|.tuple #[],.v<|.tuple #[],.v<|.tuple #[],.v<|.tuple #[],.v<|.tuple #[],.v<|.tuple #[],.v<|.tuple #[],.junk,.v<|.tuple #[],.v<|.tuple #[],.v<|.tuple #[],.v<|.tuple #[],.v<|.tuple #[],.v<|.tuple #[],.v<|.tuple #[],.v<|.tuple #[],.v<|.tuple #[],.v<|.tuple #[],.v<|.tuple #[],.v<|.tuple #[],.v<|.tuple #[],.v<|.tuple #[],.v<|.tuple #[],.v<|.tuple #[],.v<|.tuple #[],.v<|.tuple #[],.junk],0,.Cq alM amz amq s.st,X⟩,bV 311 Eg s.rows],λv b=>⟨AL v 1,AL v 2,AF Ae b 0 0,AF .str b 0 1,AF Ak b 0 2,AF Af b 0 3,AF Al b 0 4,AF A7 b 2 0,AF Ae b 3 0,AF .str b 3 1,AF Ak b 3 2,AF Af b 3 3,AF Al b 3 4,Ab Eg b 5,.ready⟩,pL,λs r=> {r with n:=s.n,FB:=s.FB,Oo:=s.Oo,On:=s.On,DX:=s.DX,Oq:=s.Oq,KQ:=s.KQ,KU:=s.KU,KS:=s.KS,KT:=s.KT,Kd:=s.Kd,st:=s.st},λs=> {s with st:=.ready},λx s=> {s with st:=(match x with| .exit 0=> .ready|_=> .ready)},[.exit 0],qF,dJ,aCY⟩
abbrev sU:=dc.run
abbrev aiU:=dc.At
def Un:aN:=[PC,vL,atF,ayJ,aRE]
def aoG:Ax:=kI Un<|l0 Un
def alb:Rq dJ pL:=by
 intro s hI;refine ⟨λc1=>⟨?_,λc2=>⟨?_,?_,?_,λc3=>⟨?_,?_,?_,λc4=>⟨?_,?_,?_,ak⟩,λc4=>⟨?_,ak⟩⟩,λc3=>⟨?_,λc5=>⟨?_,?_,?_,ak⟩,λc5=>⟨?_,ak⟩⟩⟩,λc2=>⟨?_,λc6=>⟨?_,?_,?_,λc7=>⟨?_,?_,?_,ak⟩,λc7=>⟨?_,ak⟩⟩,λc6=>⟨?_,λc8=>⟨?_,?_,?_,ak⟩,λc8=>⟨A9,ak⟩⟩⟩⟩,λc1=>⟨A9,ak⟩⟩
 all_goals ((obtain ⟨h0,⟨h1,h2⟩,h3,h4,h5⟩:=hI;have hl:=(Cz.1 h4).1;(try simp only [Ac] at c1);have hr:M s.rows<=3*s.c.toNat:=(by rw [h3];exact rU);have eb:Qa s.FB s.Oo s.On s.DX s.Oq s.c=Ct s.FB s.DX s.c (M s.DX):=(by unfold Qa;rw [AD ⟨h4,h1,A0⟩]);first|omega|((try simp only);rw [eb];refine ⟨Ad,I2 rk A0,λk hk=>Wa hk⟩) |(refine ⟨A0,?_,?_⟩<;>simp only [BG,Bm,C3]<;>omega) |(simp only [BG,Bm,C3];omega) |exact ⟨rfl,AJ⟩ |exact ⟨rfl,rfl⟩))
def aa8:dc.Ok:={}
def aae:dc.Pf (ye):=⟨ap2,λs h=>by
 obtain ⟨n,c,FB,Oo,On,DX,Oq,below,KQ,KU,KS,KT,Kd,rows,st⟩:=s
 have e:=h.1
 subst e;rfl,am8,alb⟩
def azp:=s2 (b:=bN f117 0) aa8 aae Un aoG
def azL:Fi qF dJ ye aiU sU:=AR.fin aa8 aae
def aM3:aD->T LV
 | .agg a::r=>s5 a λcs os ks gs bs=>(match r with
  | []=> .ok (.AQ [.xl Eg<|Jy cs os ks gs bs,OT cs os ks gs bs])
  |_=> .no)
 |_=> .no
def aoF:Ax:=kI Un<|la 1 func117 azp<|l0 Un
def XA:=vo (S:=aM3) func160 Un aoF (λargs lv h=>by
 unfold aM3 at h;split at h
 case h_2=>cases h
 replace h:=Ij h
 obtain ⟨cs,os,ks,gs,bs,rfl,h⟩:=h;split at h
 ·refine Aq (letI a:=(sU (⟨(M cs:Y),0,cs,os,ks,gs,bs,([]:aB),cs,os,ks,gs,bs,([]:aY),.ready⟩:OO));.br (!(B9 cs os ks gs bs)) (.ok<|.AQ [.xl Eg ([]:aY),(1:Y)])<|.r0 Rw<|.req (dc.q (⟨(M cs:Y),0,cs,os,ks,gs,bs,([]:aB),cs,os,ks,gs,bs,([]:aY),.ready⟩:OO))<|.rz a.rows<|.ok<|.AQ [.xl Eg<|(a.rows.drop 0).take<|M a.rows,(0:Y)]) ?_
  obtain rfl:=h;refine ⟨λc=>?_,λc=>?_⟩
  ·have c:B9 cs os ks gs bs=false:=A8
   unfold Jy OT;rw [c];rfl
  ·have c:B9 cs os ks gs bs=true:=A8
   have hE:qF ⟨(M cs:Y),0,cs,os,ks,gs,bs,([]:aB),cs,os,ks,gs,bs,([]:aYd),.ready⟩:=⟨rfl,rfl,rfl,c,rfl⟩
   obtain ⟨s',_,q1,q2⟩:=azL _ hE
   have q2:(sU ⟨(M cs:Y),0,cs,os,ks,gs,bs,([]:aB),cs,os,ks,gs,bs,([]:aYd),.ready⟩).rows=D3 cs gs (M cs):=q2
   refine ⟨A9,⟨hE,rfl,rfl⟩,A0,?_⟩
   show LV.AQ [LV.xl _ _,_]=_
   unfold Jy OT
   grind
 ·cases h)
def aGn:aD->T LV
 | [.v (ag J n),.v (ag J a),.v (ag J b)]=> .ok (inB n a b)
 |_=> .no
def Kw:aN:=[]
def fF:=vo (S:=aGn) func143 Kw kN (λargs lv h=>by
 unfold aGn at h;split at h
 ·rename_i n a b
  refine Aq (.ok<|.v<|.bool<|(an<|n>=a)&&(an<|n<=b)) ?_;exact h
 ·cases h)
def aWG:aD->T LV
 | [.v (.agg ⟨[.string nm,ag J at_,ag J ph,ag J mn,ag J mx,ag J st,ag J fb,ag J ow]⟩)]=> .ok (J0 ph mn mx st fb)
 |_=> .no
def anp:aN:=[fF]
def aXp:=vo (S:=aWG) func178 anp kN (λargs lv h=>by
 unfold aWG at h;split at h
 ·rename_i nm at_ ph mn mx st fb ow
  refine Aq (.ok<|.v<|.bool<|(inB ph (1:Y) (7:Y))&&((inB mn (1:Y) (80:Y))&&((inB mx (1:Y) (80:Y))&&((inB st (1:Y) (80:Y))&&((an<|mn<=mx)&&((fb==0) ||(inB fb mn mx))))))) ?_;exact h
 ·cases h)
def aIC:aD->T LV
 | []=> .ok (.v<|.agg #[(0:Y),(0:Y),(0:Y),X])
 |_=> .no
def ar4  :Bw prog AT Kw kN Ao f22 []=.ok (.v<|.agg #[(0:Y),(0:Y),(0:Y),X]):=AV
def Wl:=vo (S:=aIC) func22 Kw kN (λargs lv h=>by
 refine ⟨?_⟩;unfold aIC at h;split at h
 ·simp only [canL]
  rwa [ar4]
 ·cases h)
def aWU:aD->T LV
 | [.v (.agg ⟨[.string nm,ag J at_,ag J ph,ag J mn,ag J mx,ag J st,ag J fb,ag J ow]⟩),.v (.agg ⟨[ag J 0,ag J 0,ag J 0,.bool X]⟩)]=> .ok (J0 ph mn mx st fb)
 |_=> .no
def ano:aN:=[Wl,fF,aXp]
def ako:=vo (S:=aWU) func130 ano kN (λargs lv h=>by
 unfold aWU at h;split at h
 ·rename_i nm at_ ph mn mx st fb ow
  refine Aq (.br (!(J0 ph mn mx st fb)) (.ok X)<|.br (((0:Y)==0)&&(((0:Y)==0)&&(((0:Y)==0)&&(X==X)))) (.ok U)<|.ok<|.v<|.bool<|(inB (0:Y) (0:Y) (5:Y))&&((inB (0:Y) (0:Y) (1000000:Y))&&((inB (0:Y) (0:Y) mx)&&(if (0:Y) !=0 then (!X) ||((0:Y)==5) else ((0:Y)==0)&&((!X) ||((0:Y)==5)))))) ?_
  obtain rfl:=h;refine ⟨λhb=>?_,λhb=>⟨λ_=>?_,λhf=>absurd hf Ad⟩⟩
  ·show LV.v (.bool X)=_
   rw [show J0 _ _ _ _ _=X by simpa using hb]
  ·show LV.v (.bool U)=_
   rw [show J0 _ _ _ _ _=U by simpa using hb]
 ·cases h)
def aM4:aD->T LV
 | [.v (.agg ⟨[.string nm,ag J at_,ag J ph,ag J mn,ag J mx,ag J st,ag J fb,ag J ow]⟩),.v (ag J am)]=> .req (E0 mn mx st) (.ok<|C5 mn mx st am)
 |_=> .no
def aRG:=vo (S:=aM4) func167 Kw kN (λargs lv h=>by
 unfold aM4 at h;split at h
 ·rename_i nm at_ ph mn mx st fb ow am
  refine Aq (.br (an<|am<mn) (.ok (0:Y))<|.req (st≠0)<|.ok<|AA<|(if mx<am then mx else am)-((AA<|(if mx<am then mx else am)-mn).tmod st)) ?_
  obtain ⟨hc,rfl⟩:=h;refine ⟨λhb=>?_,λhb=>⟨by unfold E0 at hc;omega,?_⟩⟩
  ·exact B0 (λz=>LV.v<|ag J z)<|aix A8
  ·exact B0 (λz=>LV.v<|ag J z)<|aiw hc A8
 ·cases h)
def aVc:aD->T LV
 | [.v (.agg ⟨[.string nm,ag J at_,ag J ph,ag J mn,ag J mx,ag J st,ag J fb,ag J ow]⟩),.v (.agg ⟨[ag J a,ag J si]⟩)]=> .ok (IN ph mn mx st fb a si)
 |_=> .no
def ann:aN:=[Wl,ako,aRG]
def aXs:=vo (S:=aVc) func162 ann kN (λargs lv h=>by
 unfold aVc at h;split at h
 ·rename_i nm at_ ph mn mx st fb ow a si
  refine Aq (.br ((!(J0 ph mn mx st fb)) ||((an<|si<0) ||((an<|si>1000000) ||(an<|a<0)))) (.ok X)<|.req (E0 mn mx st)<|.ok<|.v<|.bool<|(C5 mn mx st a)==a) ?_;obtain rfl:=h;refine ⟨λhb=>?_,λhb=>⟨?_,?_⟩⟩
  ·exact B0 (λz=>LV.v<|.bool z)<|ap9 hb
  ·exact (aNC hb).1
  ·exact B0 (λz=>LV.v<|.bool z) (aNC hb).2
 ·cases h)
def aJ5:aD->T LV
 | [.v (.bool b)]=> .ok (.v<|ag J (if b then (1:Y) else 0))
 |_=> .no
def asH:=vo (S:=aJ5) func172 Kw kN (λargs lv h=>by
 unfold aJ5 at h;split at h
 ·rename_i b
  refine Aq (.br b (.ok (1:Y))<|.ok (0:Y)) ?_;obtain rfl:=h;cases b
  ·exact ⟨λhb=>LU,λ_=>rfl⟩
  ·exact ⟨λ_=>rfl,λhb=>LU⟩
 ·cases h)
def aVn:aD->T LV
 | [.xq 8 q0]=>(match ([q0 0,q0 1,q0 2,q0 3,q0 4,q0 5,q0 6,q0 7]:aD) with
  | [.v (.string nm),.v (ag J at_),.v (ag J ph),.v (ag J mn),.v (ag J mx),.v (ag J st),.v (ag J fb),.v (ag J ow)]=> .ok (.v<|.agg #[mn,(0:Y)])
  |_=> .no)
 |_=> .no
def agc (nm:bz) (at_ ph mn mx st fb ow:Y):Bw prog AT Kw kN Ao f168 [xQ 8 [.v<|.string nm,at_,ph,mn,mx,st,fb,ow]]=.ok (.v<|.agg #[mn,(0:Y)]):=AV
def akd:=vo (S:=aVn) func168 Kw kN (λargs lv h=>by
 refine ⟨?_⟩;unfold aVn at h;split at h
 ·split at h
  case h_2=>cases h
  rename_i heq0;simp only [canL,canX];rw [E7 (n:=8) heq0];simp only [canL,canX]
  rwa [agc]
 ·cases h)
def aVm:aD->T LV
 | [.xq 1 q0]=>(match ([q0 0]:aD) with
  | [.v (ag J lo)]=> .ok (.v<|.agg #[(0:Y),lo])
  |_=> .no)
 |_=> .no
def agb (lo:Y):Bw prog AT Kw kN Ao f169 [xQ 1 [lo]]=.ok (.v<|.agg #[(0:Y),lo]):=AV
def akc:=vo (S:=aVm) func169 Kw kN (λargs lv h=>by
 refine ⟨?_⟩;unfold aVm at h;split at h
 ·split at h
  case h_2=>cases h
  rename_i heq0;simp only [canL,canX];rw [E7 (n:=1) heq0];simp only [canL,canX]
  rwa [agb]
 ·cases h)
def aVl:aD->T LV
 | []=> .ok (.v<|.agg #[(0:Y),(0:Y)])
 |_=> .no
def aga  :Bw prog AT Kw kN Ao f170 []=.ok (.v<|.agg #[(0:Y),(0:Y)]):=AV
def akb:=vo (S:=aVl) func170 Kw kN (λargs lv h=>by
 refine ⟨?_⟩;unfold aVl at h;split at h
 ·simp only [canL]
  rwa [aga]
 ·cases h)
def aVk:aD->T LV
 | [.xq 1 q0,.xq 2 q1,.xq 8 q2,.xq 1 q3]=>(match ([q0 0]:aD) with
  | [.v (ag J lv)]=>(match ([q1 0,q1 1]:aD) with
  | [.v (ag J a),.v (ag J si)]=>(match ([q2 0,q2 1,q2 2,q2 3,q2 4,q2 5,q2 6,q2 7]:aD) with
  | [.v (.string nm),.v (ag J at_),.v (ag J ph),.v (ag J mn),.v (ag J mx),.v (ag J st),.v (ag J fb),.v (ag J ow)]=>(match ([q3 0]:aD) with
  | [.v (ag J lo)]=> .ok (.v<|.agg #[ag J (if AA (a+st)<lv then AA (a+st) else lv),lo])
  |_=> .no)
  |_=> .no)
  |_=> .no)
  |_=> .no)
 |_=> .no
def agZ (lv a si:Y) (nm:bz) (at_ ph mn mx st fb ow lo:Y):Bw prog AT Kw kN Ao f171 [xQ 1 [lv],xQ 2 [a,si],xQ 8 [.v<|.string nm,at_,ph,mn,mx,st,fb,ow],xQ 1 [lo]]=.ok (.v<|.agg #[ag J (if (AA<|a+st)<lv then AA (a+st) else lv),lo]):=AV
def akZ:=vo (S:=aVk) func171 Kw kN (λargs lv h=>by
 refine ⟨?_⟩;unfold aVk at h;split at h
 ·split at h
  case h_2=>cases h
  rename_i heq0;split at h
  case h_2=>cases h
  rename_i heq1;split at h
  case h_2=>cases h
  rename_i heq2;split at h
  case h_2=>cases h
  rename_i heq3;simp only [canL,canX];rw [E7 (n:=1) heq0];rw [E7 (n:=2) heq1];rw [E7 (n:=8) heq2];rw [E7 (n:=1) heq3];simp only [canL,canX]
  rwa [agZ]
 ·cases h)
def ail {a l si:Y}:V3 ((if (a !=0) then (1:Y) else 0).toNat*4+((if (l !=0) then (1:Y) else 0).toNat*2+((if (an<|si>=5) then (1:Y) else 0).toNat*1+0)))=if a=0 then (if l=0 then 1 else if 5<=si then 0 else 1) else if l=0 then 2 else 3:=by
 by_cases c1:a=0<;>by_cases c2:l=0<;>by_cases c3:5<=si<;>simp [c1,c2,c3,V3]
def aMO:aD->T LV
 | [.v (.agg ⟨[.string nm,ag J at_,ag J ph,ag J mn,ag J mx,ag J st,ag J fb,ag J ow]⟩),.v (.agg ⟨[ag J a,ag J si]⟩),.v (ag J want)]=> .tu #[.agg #[nA ph mn mx st fb a si want,nS ph mn mx st fb a si want],nE ph mn mx st fb a si want]
 |_=> .no
def anm:aN:=[aXs,aRG,akd,akc,akb,akZ,asH]
def ayf:=vo (S:=aMO) func124 anm kN (λargs lv h=>by
 unfold aMO at h;split at h
 ·rename_i nm at_ ph mn mx st fb ow a si want
  refine Aq (letI d:=C5 mn mx st want;letI e:=an<|si>=5;letI c:=(V3<|(if (a !=0) then (1:Y) else 0).toNat*4+((if (d !=0) then (1:Y) else 0).toNat*2+((if e then (1:Y) else 0).toNat*1+0)));.br ((!(IN ph mn mx st fb a si)) ||((an<|want<0) ||(an<|want>80))) (.tu #[.agg #[(0:Y),(0:Y)],(1:Y)])<|.req (E0 mn mx st)<|.req (0<=(if (a !=0) then (1:Y) else 0)/\(if (a !=0) then (1:Y) else 0)<(2:Y))<|.req (0<=(if (d !=0) then (1:Y) else 0)/\(if (d !=0) then (1:Y) else 0)<(2:Y))<|.req (0<=(if e then (1:Y) else 0)/\(if e then (1:Y) else 0)<(2:Y))<|.br (c==0) (.tu #[.agg #[mn,(0:Y)],(0:Y)])<|.br (c==1) (.tu #[.agg #[(0:Y),ag J (if (1000000:Y)<(AA<|si+1) then 1000000 else AA (si+1))],(0:Y)])<|.br (c==2) (.tu #[.agg #[(0:Y),(0:Y)],(0:Y)])<|.br (c==3) (.tu #[.agg #[ag J (if AA (a+st)<d then AA (a+st) else d),ag J (if (1000000:Y)<(AA<|si+1) then 1000000 else AA (si+1))],(0:Y)])<|.no) ?_
  obtain rfl:=h
  by_cases hk:okB ph mn mx st fb a si want=U
  ·obtain ⟨k1,k2,k3,k4,k5⟩:=aKC hk
   have w1:AA (si+1)=si+1:=AI
   have w2:AA (a+st)=a+st:=AI
   have i0:∀b:aM,0<=(if b=U then (1:Y) else 0)/\(if b=U then (1:Y) else 0)<2:=λb=>by cases b<;>simp
   simp only [T.all,nA,nS,nE,k1,w1,w2,hk,aJt,Bu,ail,i0,Em]
   grind
  ·have hn:=av5 hk
   simp only [T.all,nA,nS,nE,hk,hn]
   simp
 ·cases h)
def aWT:aD->T LV
 | [.v (ag J n),.v (ag J a),.v (ag J b)]=> .ok (inB n a b)
 |_=> .no
def ani:aN:=[]
def aXK:=vo (S:=aWT) func161 ani kN (λargs lv h=>by
 unfold aWT at h;split at h
 ·rename_i n a b
  refine Aq (.ok<|.v<|.bool<|(an<|n>=a)&&(an<|n<=b)) ?_;exact h
 ·cases h)
def aWF:aD->T LV
 | [.v (.agg ⟨[.bool wa,ag J ow,ag J le,ag J ra]⟩)]=> .ok (HK (wa,ow,le,ra))
 |_=> .no
def anh:aN:=[aXK]
def alE:=vo (S:=aWF) func163 anh kN (λargs lv h=>by
 unfold aWF at h;split at h
 ·rename_i wa ow le ra
  refine Aq (.ok<|.v<|.bool<|(inB ow (0:Y) (1000000000:Y))&&((inB le (0:Y) (1000000:Y))&&(inB ra (1:Y) (9:Y)))) ?_;exact h
 ·cases h)
structure Mk where
 cs:aJ
 os:aE
 ks:aP
 gs:aF
 bs:aQ
 l:aL
 d:ba
 t:Y
 od:aB
 amu:bw
 r:aM
 n:Y
 m:aL
 (k i:Y)
def aIP:=bN f122 0
def aC2 (s:Mk):T (Rd Mk):=
 .br (an<|s.i<s.k) (.ix s.i (M s.m)<|.br (an<|(Ap s.m s.i).2.1>=s.n) (.so (.ret) {s with r:=X})<|.nx {s with i:=AA<|s.i+1}) (.so (.exit 0) s)
def Tw (s:Mk) (j:Y):aM:=an<|(Ap s.m j).2.1<s.n
def mF (s:Mk):Prop:=s.i=0/\0<=s.k/\s.k<=1000/\s.k=(M s.m:Y)
def ZY (s:Mk):Prop:=0<=s.i/\s.i<=s.k/\s.k<=1000/\(s.k=(M s.m:Y))/\∀j:aC,(j:Y)<s.i->Tw s j=U
def wO (s:Mk):aC:=(s.k-s.i).toNat
def aDj (x:Ex) (s s':Mk):Prop:=(x=.exit 0/\∀j:aC,(j:Y)<s'.k->Tw s' j=U)\/(x=.ret/\s'.r=X/\∃j:aC,(j:Y)<s'.k/\Tw s' j=X)
def aoi:∀s,mF s->ZY s:=by
 exact Jq
def ajb:Da ZY wO aDj aC2:=by
 intro s hI;obtain ⟨h0,h1,h2,h3,h4⟩:=hI;refine AH (λc1=>AH (λc2=>?_) λc2=>?_) λc1=>?_
 ·have c1:s.i<s.k:=AX
  refine .inr ⟨rfl,rfl,s.i.toNat,A8,?_⟩
  have hg:Tw s s.i=false:=aQL
  exact hg
 ·have c1:s.i<s.k:=AX
  have hg:Tw s s.i=true:=aQL
  rw [AI (x:=s.i+1)];refine ⟨⟨A8,A8,h2,h3,λj hj=>?_⟩,by simp only [wO];omega⟩
  exact LR
 ·have c1:s.k<=s.i:=AX
  exact bZ
def Pp:AR Mk:=⟨0,108,[0,1,6,9,67,68,69],[],λs=>[xQ 9 [s.cs,s.os,s.ks,s.gs,s.bs,s.l,s.d,s.t,.xl A7 s.od],s.amu,s.r,s.n,s.m,s.k,s.i],λ_=>[],λv b=>⟨Ar Ae<|BV (v.getD 0 .junk) 0,Ar .str<|BV (v.getD 0 .junk) 1,Ar Ak<|BV (v.getD 0 .junk) 2,Ar Af<|BV (v.getD 0 .junk) 3,Ar Al<|BV (v.getD 0 .junk) 4,Ar AO<|BV (v.getD 0 .junk) 5,Ar Ai<|BV (v.getD 0 .junk) 6,gI<|BV (v.getD 0 .junk) 7,Ar A7<|BV (v.getD 0 .junk) 8,B1 Ag v 1,EB v 2,AL v 3,B1 AO v 4,AL v 5,AL v 6⟩,aC2,λs r=> {s with r:=r.r,i:=r.i},λs=>s,λ_ s=>s,[.ret,.exit 0],mF,ZY,wO⟩
abbrev aEx:=Pp.run
abbrev aL4:=Pp.At
def afV:Rq ZY aC2:=by
 exact QS
def kJ:aN:=[XC,XA,aXK,aXs,alE]
def aTX:Pp.Ok:={}
def aSz:Pp.Pf (aDj):=⟨aoi,λs h=>rfl,ajb,afV⟩
def auD:SA 0 aIP Pp:=s1 aTX aSz kJ kN
def awc:Fi mF ZY aDj aL4 aEx:=AR.fin aTX aSz
structure Mp where
 cs:aJ
 os:aE
 ks:aP
 gs:aF
 bs:aQ
 l:aL
 d:ba
 t:Y
 od:aB
 rs:bw
 r:aM
 m:aF
 (k i:Y)
def aIO:=bN f122 1
def aC1 (s:Mp):T (Rd Mp):=letI a:=AG s.m s.i;.br (an<|s.i<s.k) (.ix s.i (M s.m)<|.ix s.i (M s.rs)<|.br (!(IN a.2.2.1 a.2.2.2.1 a.2.2.2.2.1 a.2.2.2.2.2.1 a.2.2.2.2.2.2.1 (C6 s.rs s.i).1 (C6 s.rs s.i).2)) (.so (.ret) {s with r:=X})<|.ix s.i (M s.d)<|.br (!(HK<|E8 s.d s.i)) (.so (.ret) {s with r:=X})<|.nx {s with i:=AA<|s.i+1})<|.so (.exit 2) s
def Wx (s:Mp) (j:Y):aM:=raC (AG s.m j) (C6 s.rs j)&&HK (E8 s.d j)
def mE (s:Mp):Prop:=s.i=0/\0<=s.k/\s.k<=1000/\s.k=(M s.m:Y)/\M s.rs=M s.m/\M s.d=M s.m
def ZX (s:Mp):Prop:=0<=s.i/\s.i<=s.k/\s.k<=1000/\(s.k=(M s.m:Y)/\M s.rs=M s.m/\M s.d=M s.m)/\∀j:aC,(j:Y)<s.i->Wx s j=U
def wN (s:Mp):aC:=(s.k-s.i).toNat
def aDi (x:Ex) (s s':Mp):Prop:=(x=.exit 2/\∀j:aC,(j:Y)<s'.k->Wx s' j=U)\/(x=.ret/\s'.r=X/\∃j:aC,(j:Y)<s'.k/\Wx s' j=X)
def aoh:∀s,mE s->ZX s:=by
 exact Jq
def aja:Da ZX wN aDi aC1:=by
 intro s hI;obtain ⟨h0,h1,h2,h3,h4⟩:=hI;refine AH (λc1=>AH (λc2=>?_) λc2=>AH (λc3=>?_) λc3=>?_) λc1=>?_
 ·exact aNq
 ·exact aNq
 ·have c1:s.i<s.k:=AX
  have hg:Wx s s.i=true:=aPu
  rw [AI (x:=s.i+1)];refine ⟨⟨Aa,Aa,h2,h3,λj hj=>?_⟩,by simp only [wN];omega⟩
  exact LR
 ·have c1:s.k<=s.i:=AX
  exact bZ
def Po:AR Mp:=⟨0,108,[0,1,6,82,83,84],[],λs=>[xQ 9 [s.cs,s.os,s.ks,s.gs,s.bs,s.l,s.d,s.t,.xl A7 s.od],s.rs,s.r,s.m,s.k,s.i],λ_=>[],λv b=>⟨Ar Ae<|BV (v.getD 0 .junk) 0,Ar .str<|BV (v.getD 0 .junk) 1,Ar Ak<|BV (v.getD 0 .junk) 2,Ar Af<|BV (v.getD 0 .junk) 3,Ar Al<|BV (v.getD 0 .junk) 4,Ar AO<|BV (v.getD 0 .junk) 5,Ar Ai<|BV (v.getD 0 .junk) 6,gI<|BV (v.getD 0 .junk) 7,Ar A7<|BV (v.getD 0 .junk) 8,B1 Ag v 1,EB v 2,B1 Af v 3,AL v 4,AL v 5⟩,aC1,λs r=> {s with r:=r.r,i:=r.i},λs=>s,λ_ s=>s,[.ret,.exit 2],mE,ZX,wN⟩
abbrev aJN:=Po.run
abbrev aL0:=Po.At
def afU:Rq ZX aC1:=by
 intro s hI;refine ⟨λc1=>⟨?_,?_,λ_=>trivial,λc2=>⟨?_,λ_=>trivial,λ_=>trivial⟩⟩,λ_=>trivial⟩
 all_goals ((obtain ⟨h0,h1,h2,h3,h4⟩:=hI;obtain ⟨h3,h5,h6⟩:=h3;simp at c1;omega))
def aTW:Po.Ok:={}
def aSy:Po.Pf (aDi):=⟨aoh,λs h=>rfl,aja,afU⟩
def auC:SA 0 aIO Po:=s1 aTW aSy kJ kN
def awZ:Fi mE ZX aDi aL0 aJN:=AR.fin aTW aSy
def aLP:aD->T LV
 | [.xq 9 q0,.xl (.pair (.int J) (.int J)) rs,.v (ag J n)]=>(match ([q0 0,q0 1,q0 2,q0 3,q0 4,q0 5,q0 6,q0 7,q0 8]:aD) with
  | [.xl (.pair .str (.pair (.int J) (.pair (.int J) (.pair (.int J) (.pair (.pair (.int J) (.int J)) (.pair (.int J) (.pair (.int J) (.pair (.int J) (.pair (.int J) (.int J)))))))))) cs,.xl (.str) os,.xl (.pair .str (.pair (.int J) (.pair (.int J) (.int J)))) ks,.xl (.pair .str (.pair (.int J) (.pair (.int J) (.pair (.int J) (.pair (.int J) (.pair (.int J) (.pair (.int J) (.int J)))))))) gs,.xl (.pair .str (.int J)) bs,.xl (.pair (.int J) (.pair (.int J) (.pair (.int J) (.pair (.int J) (.int J))))) l,.xl (.pair .bool (.pair (.int J) (.pair (.int J) (.int J)))) d,.v (ag J t),.xl (.int J) od]=> .ok (Je cs os ks gs bs l rs d t n)
  |_=> .no)
 |_=> .no
def aun (cs:aJ) (os:aE) (ks:aP) (gs:aF) (bs:aQ) (l:aL) (d:ba) (t:Y) (od:aB) (rs:bw) (n:Y):letI b:=(M gs:Y);letI c:=(M l:Y);letI a:=(aEx (⟨cs,os,ks,gs,bs,l,d,t,od,rs,X,b,l,c,(0:Y)⟩:Mk));Bw prog AT (kJ) kN (λi=>if i=8 then Pp.lp else if i=14 then Po.lp else Ao i) f122 [xQ 9 [cs,os,ks,gs,bs,l,d,t,.xl A7 od],rs,n]=.br (((OT cs os ks gs bs) !=0) ||(!(B2 l))) (.ok X) (.br (((M rs:Y) !=b) ||(((M d:Y) !=b) ||((!(inB t (0:Y) (1000000:Y))) ||(!(inB n (1:Y) (999900:Y)))))) (.ok X)<|.req (Pp.q (⟨cs,os,ks,gs,bs,l,d,t,od,rs,X,b,l,c,(0:Y)⟩:Mk))<|.br (Bj (aL4 (⟨cs,os,ks,gs,bs,l,d,t,od,rs,X,b,l,c,(0:Y)⟩:Mk))<|.ret) (.ok a.r)<|.req (Po.q (⟨cs,os,ks,gs,bs,l,d,t,od,rs,a.r,gs,b,(0:Y)⟩:Mp))<|.br (Bj (aL0 (⟨cs,os,ks,gs,bs,l,d,t,od,rs,a.r,gs,b,(0:Y)⟩:Mp))<|.ret) (.ok (aJN (⟨cs,os,ks,gs,bs,l,d,t,od,rs,a.r,gs,b,(0:Y)⟩:Mp)).r)<|.ok U):=AV
def ayo:=vm (S:=aLP) func122 kJ kN (L:=(λi=>if i=8 then Pp.lp else if i=14 then Po.lp else Ao i)) (λb hb=>by
 rw [show BC _=[aIP,aIO] by kernel_rfl] at hb
 simp only [B6,Bv,Bt] at hb;rcases hb with rfl|rfl
 ·exact auD
 ·exact auC) (λargs lv h=>by
 refine ⟨?_⟩;unfold aLP at h;split at h
 ·split at h
  case h_2=>cases h
  rename_i heq0;simp only [canL,canX];rw [E7 (n:=9) heq0];simp only [canL,canX];rw [aun];rename_i rs n _ cs os ks gs bs l d t od;obtain rfl:=h
  have e0:((OT cs os ks gs bs !=0) || !B2 l)=!(B9 cs os ks gs bs&&B2 l):=by
   unfold OT;cases B9 cs os ks gs bs<;>cases B2 l<;>rfl
  have e1:(((M rs:Y) !=(M gs:Y)) ||(((M d:Y) !=(M gs:Y)) ||(!inB t 0 1000000 || !inB n 1 999900)))=!(an (M rs=M gs)&&(an (M d=M gs)&&(inB t 0 1000000&&inB n 1 999900))):=by
   rw [neN,neN,Bool.not_and,Bool.not_and,Bool.not_and]
  rw [e0,e1]
  have bad:Je cs os ks gs bs l rs d t n=X->LV.v (.bool X)=LV.v (.bool<|Je cs os ks gs bs l rs d t n):=λh=>Ve
  refine ⟨λc=>bad (by unfold Je;rw [ntW c];rfl),λc=>⟨λc2=>bad (by unfold Je;rw [ntW c2,QM,Sv]),λc2=>?_⟩⟩
  have c:=nfW c
  have c2:=nfW c2
  have c':=c
  have c2':=c2
  simp only [AY,Ac] at c' c2'
  have hl:=GP c'.2
  have hg:=(Cz.1 c'.1).1.2.2.2.2.1
  have hE:mF ⟨cs,os,ks,gs,bs,l,d,t,od,rs,X,(M gs:Y),l,(M l:Y),0⟩:=⟨rfl,Aa,Aa,rfl⟩
  have ev:Je cs os ks gs bs l rs d t n=(below (M gs) l&&D5 (M gs) (λj=>raC (AG gs j) (C6 rs j)&&HK (E8 d j))):=by
   unfold Je;rw [c,c2,ET,ET]
  refine ⟨⟨hE,rfl,rfl⟩,?_⟩;obtain ⟨_,_,hq⟩:=awc _ hE
  have eb:below (M gs) l=D5 (M l) (λj=>an<|(Ap l j).2.1<(M gs:Y)):=by
   rw [IZ,DQ];exact (Qo (d:=(0,0,0,0,0)) (p:=λx:Le=>an<|x.2.1<(M gs:Y))).symm
  rcases hq with ⟨q1,q2⟩ |⟨q1,q2,j,q3,q4⟩<;>rw [q1]
  rotate_left
  ·rw [q2]
   exact ⟨λ_=>bad (by rw [ev,eb,Nd (f:=λj=>an<|(Ap l j).2.1<(M gs:Y)) j q3 q4];rfl),λh=>As⟩
  refine ⟨λh=>As,λ_=>?_⟩
  have g0:below (M gs) l=true:=by rw [eb];exact DQ.2 q2
  have hE2:mE ⟨cs,os,ks,gs,bs,l,d,t,od,rs,(aEx ⟨cs,os,ks,gs,bs,l,d,t,od,rs,X,(M gs:Y),l,(M l:Y),0⟩).r,gs,(M gs:Y),0⟩:=⟨rfl,Aa,Aa,rfl,c2'.1,c2'.2.1⟩
  refine ⟨⟨hE2,rfl,rfl⟩,?_⟩;obtain ⟨_,_,hq⟩:=awZ _ hE2;rcases hq with ⟨q5,q6⟩ |⟨q5,q6,j,q7,q8⟩<;>rw [q5]
  ·exact ⟨λh=>As,λ_=>by rw [ev,g0,(DQ (f:=λj=>raC (AG gs j) (C6 rs j)&&HK (E8 d j))).2 q6];rfl⟩
  ·rw [q6]
   exact ⟨λ_=>bad<|by rw [ev,Nd (f:=λj=>raC (AG gs j) (C6 rs j)&&HK (E8 d j)) j q7 q8,Sv],λh=>As⟩
 ·cases h)
structure Mz where
 n:Y
 r:aM
 l:aB
 (m k:Y)
 seen:bh
def aIK:=bN f203 0
def jx (s:Mz):T (Rd Mz):=letI a:=gi s.l s.k;letI b:=M s.seen;letI c:=s.seen.set a.toNat U;.br (an<|s.k<s.m) (.ix s.k (M s.l)<|.br (an<|a<0) (.rl s.seen<|.so (.ret) {s with r:=X})<|.br (an<|a>=s.n) (.rl s.seen<|.so (.ret) {s with r:=X})<|.ik a b<|.br (s.seen.getD a.toNat<|Ty.dflt .bool) (.rl s.seen<|.so (.ret) {s with r:=X})<|.ik a b<|.re b c<|.nx {s with k:=AA<|s.k+1,seen:=c})<|.rl s.seen<|.so (.exit 0) s
def Pc (s:Mz) (j:Y):aM:=QA s.n (gi s.l j)&&!(((s.l.take j.toNat).map id).contains<|id<|gi s.l j)
def aE9 (s:Mz):Prop:=s.k=0/\s.seen=aq (M s.seen) X/\s.m=(M s.l:Y)/\s.m<=1000/\s.n=(M s.seen:Y)
def ZS (s:Mz):Prop:=(0<=s.k/\s.k<=s.m)/\(∀j:aC,j<M s.seen->s.seen.getD j X=(s.l.take s.k.toNat).contains (j:Y))/\(∀j:aC,(j:Y)<s.k->Pc s j=U)/\s.m=(M s.l:Y)/\s.m<=1000/\s.n=(M s.seen:Y)
def xC (s:Mz):aC:=(s.m-s.k).toNat
def lD (x:Ex) (s s':Mz):Prop:=(x=.exit 0/\∀j:aC,(j:Y)<s'.m->Pc s' j=U)\/(x=.ret/\s'.r=X/\∃j:aC,(j:Y)<s'.m/\Pc s' j=X)
def anx:∀s,aE9 s->ZS s:=by
 rintro s ⟨h0,h1,h2,h3,h4⟩
 refine ⟨A0,λj hj=>?_,λj hj=>A0,h2,h3,h4⟩
 rw [h1,h0]
 grind
def ahR:Da ZS xC lD jx:=by
 intro s hI;unfold jx;obtain ⟨⟨h0,h1⟩,h2,h3,h4,h5,h6⟩:=hI;refine AH (λc1=>?_) λc1=>?_
 rotate_left
 ·have c1:s.m<=s.k:=AX
  exact .inl ⟨rfl,λj hj=>h3 j A0⟩
 have c1:s.k<s.m:=AX
 have bad:Pc s s.k=X->lD .ret s {s with r:=X}:=λhg=> .inr ⟨rfl,rfl,s.k.toNat,Aa,by rw [Bs h0];exact hg⟩
 refine AH (λc2=>bad ?_) λc2=>AH (λc3=>bad ?_) λc3=>AH (λc4=>bad ?_) λc4=>?_
 ·unfold Pc QA
  simp only [Ac] at c2;rw [IV A0];rfl
 ·unfold Pc QA
  simp only [Ac] at c3;rw [IV (p:=gi s.l s.k<s.n) A0,Sv];rfl
 all_goals
  have c2:0<=gi s.l s.k:=Dl
  have c3:gi s.l s.k<s.n:=NI
  have e:=h2 (gi s.l s.k).toNat A0
  rw [Bs c2] at e
 ·have c4:s.seen.getD (gi s.l s.k).toNat X=true:=c4
  unfold Pc;rw [VE,id,<-e,c4]
  simp
 ·have c4:s.seen.getD (gi s.l s.k).toNat X=false:=c4
  have hg:Pc s s.k=true:=by
   unfold Pc;rw [VE,id,<-e,c4,rW.2 ⟨c2,c3⟩];rfl
  rw [AI (x:=s.k+1)];refine ⟨⟨⟨Aa,Aa⟩,λj hj=>?_,λj hj=>?_,h4,h5,A8⟩,by simp only [xC];omega⟩
  ·simp only [C4] at hj
   simp only;rw [(gi_step h0 (show s.k<M s.l by omega)).2,List.contains_append,<-h2 j hj]
   by_cases hj2:(gi s.l s.k).toNat=j
   ·subst hj2
    rw [Bs c2]
    simp [List.getD,hj]
   ·have:¬(j:Y)=gi s.l s.k:=A0
    grind
  ·by_cases hji:(j:Y)<s.k
   ·exact h3 j hji
   ·have:(j:Y)=s.k:=oY
    rw [this];exact hg
def Rf:AR Mz:=⟨0,37,[1,4,5,14,15,16],[],λs=>[s.n,s.r,.os 0 1 0<|M s.seen,.xl A7 s.l,s.m,s.k],λs=>[bV 4 .bool s.seen],λv b=>⟨AL v 0,EB v 1,B1 A7 v 3,AL v 4,AL v 5,gVe .bool<|Cc b 0⟩,jx,λs r=> {r with n:=s.n,l:=s.l,m:=s.m},λs=>s,λ_ s=>s,[.ret,.exit 0],aE9,ZS,xC⟩
abbrev aJM:=Rf.run
abbrev aKy:=Rf.At
def afM:Rq ZS jx:=by
 intro s hI;refine ⟨λc1=>⟨?_,λc2=>⟨A9,ak⟩,λc2=>⟨λc3=>⟨A9,ak⟩,λc3=>⟨?_,?_,λc4=>⟨A9,ak⟩,λc4=>⟨?_,?_,?_,ak⟩⟩⟩⟩,λc1=>⟨A9,ak⟩⟩
 iterate 5 · (obtain ⟨⟨h0,h1⟩,h2,h3,h4,h5,h6⟩:=hI;simp only [Ac,DI] at*;omega)
 ·grind
def ac8:aN:=[]
def aTO:Rf.Ok:={}
def aSq:Rf.Pf (lD):=⟨anx,λs h=>rfl,ahR,afM⟩
def au8:SA 0 aIK Rf:=s1 aTO aSq ac8 kN
def awC:Fi aE9 ZS lD aKy aJM:=AR.fin aTO aSq
def aLF:aD->T LV
 | [.xl (.int J) l,.v (ag J n)]=> .req (n<=1000) (.ok<|H4 l n)
 |_=> .no
def XO:=vm (S:=aLF) func203 ac8 kN (L:=(λi=>if i=5 then Rf.lp else Ao i)) (λb hb=>by
 rw [show BC _=[aIK] by kernel_rfl] at hb
 simp only [B6,Bv,Bt] at hb;subst hb;exact au8) (λargs lv h=>by
 unfold aLF at h;split at h
 ·rename_i l n
  refine Aq (letI a:=aq n.toNat X;letI b:=(M l:Y);.br (b !=n) (.ok X)<|.rm 1 n<|.re n.toNat a<|.req (Rf.q (⟨n,X,l,b,0,a⟩:Mz))<|.br (Bj (aKy (⟨n,X,l,b,0,a⟩:Mz))<|.ret) (.ok (aJM (⟨n,X,l,b,0,a⟩:Mz)).r)<|.ok U) ?_;obtain ⟨hl,rfl⟩:=h;refine ⟨λc=>B0 (λz=>LV.v<|.bool z) ?_,λc=>?_⟩
  ·have c:¬(M l:Y)=n:=A8
   unfold H4;rw [IV c];rfl
  ·have c:(M l:Y)=n:=A8
   unfold H4;rw [Ci c,ET];refine ⟨A0,⟨rfl,AJ⟩,L4 ⟨⟨rfl,AJ,rfl,A8,A8⟩,rfl,rfl⟩ λhE=>?_⟩
   obtain ⟨s',_,hq⟩:=awC _ hE.1;rcases hq with ⟨q1,q2⟩ |⟨q1,q2,j,q3,q4⟩
   ·rw [q1]
    have hk:=(We (d:=(0:Y)) (p:=QA n) (k:=id)).1 q2
    rw [VE] at hk;rw [hk];exact ⟨λh=>As,λ_=>rfl⟩
   ·rw [q1,q2]
    refine ⟨λ_=>B0 (λz=>LV.v<|.bool z) ?_,λh=>As⟩
    rw [T1,IX];intro hx
    have:=(We (d:=(0:Y)) (p:=QA n) (k:=id)).2 GN j q3
    exact Bool.noConfusion<|this.symm.trans q4
 ·cases h)
structure JK where
 r:aM
 l:aB
 (n i:Y)
 Bi:aJ
 Gs:aE
 Gq:aP
 Gt:aF
 Gv:aQ
def aC0 (s:JK):T (Rd JK):=
 .br (an<|s.i<s.n) (.ix s.i (M s.l)<|.br (!((an<|(gi s.l s.i)>=0)&&(an<|(gi s.l s.i)<=80))) (.so (.ret) {s with r:=X})<|.nx {s with i:=AA<|s.i+1}) (.so (.exit 0) s)
def U5 (s:JK) (j:Y):aM:=ID<|gi s.l j
def mC (s:JK):Prop:=s.i=0/\0<=s.n/\s.n<=1000/\s.n=(M s.l:Y)
def ZV (s:JK):Prop:=0<=s.i/\s.i<=s.n/\s.n<=1000/\(s.n=(M s.l:Y))/\∀j:aC,(j:Y)<s.i->U5 s j=U
def wL (s:JK):aC:=(s.n-s.i).toNat
def aDA (x:Ex) (s s':JK):Prop:=(x=.exit 0/\∀j:aC,(j:Y)<s'.n->U5 s' j=U)\/(x=.ret/\s'.r=X/\∃j:aC,(j:Y)<s'.n/\U5 s' j=X)
def aoZ:∀s,mC s->ZV s:=by
 exact Jq
def aiC:Da ZV wL aDA aC0:=by
 intro s hI;obtain ⟨h0,h1,h2,h3,h4⟩:=hI;refine AH (λc1=>AH (λc2=>?_) λc2=>?_) λc1=>?_
 ·have c1:s.i<s.n:=AX
  refine .inr ⟨rfl,rfl,s.i.toNat,A8,?_⟩
  have hg:U5 s s.i=false:=aPq
  exact hg
 ·have c1:s.i<s.n:=AX
  have hg:U5 s s.i=true:=aPq
  rw [AI (x:=s.i+1)];refine ⟨⟨A8,A8,h2,h3,λj hj=>?_⟩,by simp only [wL];omega⟩
  exact LR
 ·exact Sy
def U7:AR JK:=⟨1,18,[1,4,7,8,9],[],λs=>[.fn 201 [],s.r,.xl A7 s.l,s.n,s.i],λs=>[⟨[s.Bi,s.Gs,s.Gq,s.Gt,s.Gv],28,.cl,X⟩],λv b=>⟨EB v 1,B1 A7 v 2,AL v 3,AL v 4,AF Ae b 0 0,AF .str b 0 1,AF Ak b 0 2,AF Af b 0 3,AF Al b 0 4⟩,aC0,λs r=> {s with r:=r.r,i:=r.i},λs=>s,λ_ s=>s,[.ret,.exit 0],mC,ZV,wL⟩
abbrev fK:=U7.run
abbrev fR:=U7.At
def Pw:aN:=[XA,XO,XN,XP]
def aoE:Ax:=kI Pw<|l0 Pw
def afR:Rq ZV aC0:=by
 exact QS
def aTT:U7.Ok:={}
def aSv:U7.Pf (aDA):=⟨aoZ,λs h=>rfl,aiC,afR⟩
def Wn:=s2 (b:=bN f202 0) aTT aSv Pw aoE
def awQ:Fi mC ZV aDA fR fK:=AR.fin aTT aSv
def aLB (s:JK) (hE:mC s):(fR s=.exit 0/\s.l.all ID=U)\/(fR s=.ret/\(fK s).r=X/\s.l.all ID=X):=by
 obtain ⟨s',hI,hq⟩:=awQ s hE;obtain ⟨h0,h1,h2,h3⟩:=hE
 have en:(fK s).n=s.n:=rfl
 rcases hq with ⟨q1,q2⟩ |⟨q1,q2,j,q3,q4⟩
 ·refine .inl ⟨q1,(Qo (d:=(0:Y))).1 λj hj=>?_⟩
  have:=q2 j A0
  exact this
 ·exact aO3
structure FY where
 alive:aB
 i:Y
 rows:aY
 (rn ri:Y)
 l:aB
 (n k:Y)
 KQ:aJ
 KU:aE
 KS:aP
 KT:aF
 Kd:aQ
 Hk:aJ
 Hj:aE
 Ef:aP
 B5:aF
 Hl:aQ
 BH:aY
 (BI CP CO CN CM CL CK CJ CI CR CQ CG CF CE CD CC CB sums levels:aB)
def aIu:=lN (bN f204 0) 0
def H6 (s:FY):aI:=[s.CP,s.CO,s.CN,s.CM,s.CL,s.CK,s.CJ,s.CI,s.CR,s.CQ,s.CG,s.CF,s.CE,s.CD,s.CC,s.CB]
def nsO (s:FY) (l:aI):FY:={s with CP:=l.getD 0 [],CO:=l.getD 1 [],CN:=l.getD 2 [],CM:=l.getD 3 [],CL:=l.getD 4 [],CK:=l.getD 5 [],CJ:=l.getD 6 [],CI:=l.getD 7 [],CR:=l.getD 8 [],CQ:=l.getD 9 [],CG:=l.getD 10 [],CF:=l.getD 11 [],CE:=l.getD 12 [],CD:=l.getD 13 [],CC:=l.getD 14 [],CB:=l.getD 15 []}
def ns (s:FY) (j:aC):FY:={nsO s ((H6 s).modify j (·++[s.i])) with k:=AA<|s.k+1,sums:=s.sums.set s.i.toNat<|AA<|s.sums.getD s.i.toNat 0+gi s.alive (j:Y)}
def rO {α:Type}(x:aB):aI->aC->T α->T α
 | [],_,t=>t
 |o::l,0,t=> .re (M o+M x) (o++x) (rO x l 1000 t)
 |o::l,j+1,t=> .rl o<|rO x l j t
def Xr {σ:Type}{s:σ}{x:aB}{t:T<|Rd σ}:∀l j,(rO x l j t).rd s=t.rd s
 | [],_=>rfl
 |_::l,0=>Xr l 1000
 |_::l,j+1=>Xr l j
def iG {α:Type}{K:α->Prop}{x:aB}{t:T α}(h:t.all K):∀l j,(rO x l j t).all K
 | [],_=>h
 |_::l,0=>⟨⟨rfl,AJ⟩,iG h l 1000⟩
 |_::l,j+1=>⟨⟨rfl,rfl⟩,iG h l j⟩
def aGJ {α:Type}{K:α->Prop}{f:aC->T α}{n:Y}:∀m j:aC,(j:Y)<=n->n<j+m->(∀i:aC,n=i->(f i).all K)->(splitN f n m j).all K
 |0,_,_,_,_=>A0
 |1,j,_,_,h=>h j A0
 |m+2,j,_,_,h=>⟨λc=>h j<|eq_of_beq c,λc=>aGJ (m+1) (j+1) A8 A0 h⟩
def sS {σ:Type}{A:σ->Prop}{B:Ex->σ->Prop}{s:σ}{f:aC->T (Rd σ)}{n:Y}:∀m j:aC,(j:Y)<=n->n<j+m->(∀i:aC,n=i->DF A B ((f i).rd s))->DF A B ((splitN f n m j).rd s)
 |0,_,_,_,_=>A0
 |1,j,_,_,h=>h j A0
 |m+2,j,_,_,h=>AH (λc=>h j<|eq_of_beq c) λc=>sS (m+1) (j+1) A8 A0 h
def amU (s:FY) {l:aI}(h:M l=16):H6 (nsO s l)=l:=by
 show (au 16).map (λi=>l.getD i [])=l
 refine bL oo λi h1 h2=>?_
 grind
def aBX (s:FY):T (Rd FY):=letI a:=M s.sums;.br (an<|s.k<s.n) (.ix s.k (M s.l)<|.req (0<=(gi s.l s.k)/\(gi s.l s.k)<(16:Y))<|splitN (λj=> .rb (M<|(H6 s).getD j []) (M<|[s.i]) 8<|.ix s.i a<|.ix (j:Y) (M s.alive)<|.req (s.i.toNat<M s.sums)<|.ik s.i a<|rO [s.i] (H6 s) j<|.re a (ns s j).sums<|.rl s.levels<|.nx<|ns s j) (gi s.l s.k) 16 0)<|rO [] (H6 s) 1000<|.rl s.sums<|.rl s.levels<|.so (.exit 2) s
def Zk (s:FY):Prop:=s.k=0/\(∀o∈H6 s,(M o:Y)<=1000000)/\(0<=gi s.sums s.i/\gi s.sums s.i<=1000)/\s.n=(M s.l:Y)/\s.n<=1000/\(∀m∈s.l,0<=m/\m<16/\m<(M s.alive:Y))/\(∀a∈s.alive,0<=a/\a<=80)/\(0<=s.i/\s.i<(M s.sums:Y))
def Pz (s:FY):Prop:=(0<=s.k/\s.k<=s.n)/\(∀o∈H6 s,(M o:Y)<=1000000+s.k)/\(0<=gi s.sums s.i/\gi s.sums s.i<=1000+80*s.k)/\s.n=(M s.l:Y)/\s.n<=1000/\(∀m∈s.l,0<=m/\m<16/\m<(M s.alive:Y))/\(∀a∈s.alive,0<=a/\a<=80)/\(0<=s.i/\s.i<(M s.sums:Y))
def Xa (s:FY):aC:=(s.n-s.k).toNat
def acP (x:Ex) (s s':FY):Prop:=x=.exit 2/\s'.k=s'.n
def amT:∀s,Zk s->Pz s:=by
 rintro s ⟨h0,h1,h2,h3⟩
 exact ⟨A0,λo ho=>A8,A0,h3⟩
def fu (s:FY) (hI:Pz s) (c1:s.k<s.n):0<=gi s.l s.k/\gi s.l s.k<16/\gi s.l s.k<(M s.alive:Y):=by
 obtain ⟨⟨h0,h1⟩,h2,h3,h4,h5,h6,h7,h8⟩:=hI;exact h6 _ aQq
abbrev kf (s:FY):=(L7 s.i (H6 s)<|s.l.drop s.k.toNat,s.sums.set s.i.toNat<|s.sums.getD s.i.toNat 0+smA s.alive (s.l.drop s.k.toNat))
def aUE (s:FY) (j:aC) (hI:Pz s) (c1:s.k<s.n) (em:gi s.l s.k=(j:Y)):(Pz (ns s j)/\Xa (ns s j)<Xa s)/\kf (ns s j)=kf s:=by
 generalize e:ns s j=s'
 have hO:H6 s'=(H6 s).modify j (·++[s.i]):=by rw [<-e];exact amU s (by rw [nO];rfl)
 have hs:s'.sums=s.sums.set s.i.toNat (AA<|s.sums.getD s.i.toNat 0+gi s.alive (j:Y)):=VY
 have hk:s'.k=AA (s.k+1):=VY
 have hn:s'.n=s.n:=VY
 have hl:s'.l=s.l:=VY
 have ha:s'.alive=s.alive:=VY
 have hi:s'.i=s.i:=VY
 have hm:=fu s hI c1
 obtain ⟨⟨h0,h1⟩,h2,⟨h3,h3'⟩,h4,h5,h6,h7,h8⟩:=hI;rw [AI (x:=s.k+1)] at hk
 have hav:=h7 (gi s.alive (j:Y)) aQq
 have hgi:gi s.sums s.i=s.sums.getD s.i.toNat 0:=rfl
 rw [AI (x:=s.sums.getD s.i.toNat 0+gi s.alive (j:Y))] at hs
 have hs2:gi s'.sums s'.i=s.sums.getD s.i.toNat 0+gi s.alive (j:Y):=by
  rw [hi,hs]
  show List.getD _ _ _=_
  grind
 refine ⟨⟨⟨⟨A0,A0⟩,λo ho=>?_,⟨by rw [hs2];omega,by rw [hs2];omega⟩,by rw [hn,hl];exact h4,A0,by rw [hl,ha];exact h6,by rw [ha];exact h7,⟨by rw [hi];omega,by rw [hi,hs,C4];omega⟩⟩,by simp only [Xa];omega⟩,?_⟩
 ·rw [hO] at ho
  obtain ⟨k,hk2,rfl⟩:=Hx.1 ho;rw [nO] at hk2
  have:=h2 (H6 s)[k]<|Gl _
  rw [List.getElem_modify];split
  ·grind
  ·omega
 ·unfold kf
  rw [hO,hs,hl,ha,hi,hk,(gi_step h0 (show s.k<M s.l by omega)).1,rD,aHc,em,C2,ae1 A0]
def aUF:Da Pz Xa acP aBX:=by
 intro s hI;refine AH (λc1=>?_) λc1=>?_
 ·have hm:=fu s hI A8
  refine sS 16 0 A0 A0 λi em=>?_
  show DF _ _ ((rO _ _ i _).rd s)
  rw [Xr];exact (aUE s i hI A8 em).1
 ·have c1:s.n<=s.k:=A8
  have h0:=hI.1
  exact VL
def Ud:AR FY:=⟨1,67,[2,7,8,23,24,25,31,32,33],[.ns 7 6 3 A7,.ns 7 7 3 A7,.ns 7 8 3 A7,.ns 7 9 3 A7,.ns 7 10 3 A7,.ns 7 11 3 A7,.ns 7 12 3 A7,.ns 7 13 3 A7,.ns 7 14 3 A7,.ns 7 15 3 A7,.ns 7 16 3 A7,.ns 7 17 3 A7,.ns 7 18 3 A7,.ns 7 19 3 A7,.ns 7 20 3 A7,.ns 7 21 3 A7],λs=>[.xl A7 s.alive,.own 1 0,s.i,.xl Eg s.rows,s.rn,s.ri,.xl A7 s.l,s.n,s.k],λs=>[⟨[s.KQ,s.KU,s.KS,s.KT,s.Kd],28,.cl,X⟩,⟨[s.Hk,s.Hj,s.Ef,s.B5,s.Hl,.xl Eg s.BH,.os 2 1 0<|M s.CP,.os 3 1 0<|M s.CO,.os 4 1 0<|M s.CN,.os 5 1 0<|M s.CM,.os 6 1 0<|M s.CL,.os 7 1 0<|M s.CK,.os 8 1 0<|M s.CJ,.os 9 1 0<|M s.CI,.os 10 1 0<|M s.CR,.os 11 1 0<|M s.CQ,.os 12 1 0<|M s.CG,.os 13 1 0<|M s.CF,.os 14 1 0<|M s.CE,.os 15 1 0<|M s.CD,.os 16 1 0<|M s.CC,.os 17 1 0<|M s.CB,.os 18 1 0<|M s.sums,.xl A7 s.BI,.os 19 1 0<|M s.levels],318,.cl,X⟩,bV 3 A7 s.CP,bV 3 A7 s.CO,bV 3 A7 s.CN,bV 3 A7 s.CM,bV 3 A7 s.CL,bV 3 A7 s.CK,bV 3 A7 s.CJ,bV 3 A7 s.CI,bV 3 A7 s.CR,bV 3 A7 s.CQ,bV 3 A7 s.CG,bV 3 A7 s.CF,bV 3 A7 s.CE,bV 3 A7 s.CD,bV 3 A7 s.CC,bV 3 A7 s.CB,bV 3 A7 s.sums,bV 3 A7 s.levels],λv b=>⟨B1 A7 v 0,AL v 2,B1 Eg v 3,AL v 4,AL v 5,B1 A7 v 6,AL v 7,AL v 8,AF Ae b 0 0,AF .str b 0 1,AF Ak b 0 2,AF Af b 0 3,AF Al b 0 4,AF Ae b 1 0,AF .str b 1 1,AF Ak b 1 2,AF Af b 1 3,AF Al b 1 4,AF Eg b 1 5,AF A7 b 1 23,Ab A7 b 2,Ab A7 b 3,Ab A7 b 4,Ab A7 b 5,Ab A7 b 6,Ab A7 b 7,Ab A7 b 8,Ab A7 b 9,Ab A7 b 10,Ab A7 b 11,Ab A7 b 12,Ab A7 b 13,Ab A7 b 14,Ab A7 b 15,Ab A7 b 16,Ab A7 b 17,Ab A7 b 18,Ab A7 b 19⟩,aBX,λs r=> {s with k:=r.k,CP:=r.CP,CO:=r.CO,CN:=r.CN,CM:=r.CM,CL:=r.CL,CK:=r.CK,CJ:=r.CJ,CI:=r.CI,CR:=r.CR,CQ:=r.CQ,CG:=r.CG,CF:=r.CF,CE:=r.CE,CD:=r.CD,CC:=r.CC,CB:=r.CB,sums:=r.sums},λs=>s,λ_ s=>s,[.exit 2],Zk,Pz,Xa⟩
abbrev Gr:=Ud.run
def aCv:Ax:=kI Pw<|la 2 func202 Wn<|l0 Pw
def afw:Rq Pz aBX:=by
 intro s hI;refine ⟨λc1=>?_,λ_=>iG (by exact ⟨A9,A9,ak⟩) _ _⟩
 have hm:=fu s hI A8
 simp only [Ac] at c1;obtain ⟨⟨h0,h1⟩,h2,h3,h4,h5,h6,h7,h8,h9⟩:=id hI;refine ⟨⟨A0,A0⟩,⟨A0,A0⟩,aGJ 16 0 A0 A0 λi em=>?_⟩
 refine ⟨⟨A0,?_⟩,⟨A0,A0⟩,⟨A0,A0⟩,A0,⟨A0,A0⟩,A0,iG ?_ _ _⟩
 ·grind
 ·exact ⟨⟨rfl,(C4 ..).symm⟩,A9,ak⟩
def wC:Ud.Ok:={}
def uj:Ud.Pf (acP):=⟨amT,λs h=>rfl,aUF,afw⟩
def asO:SA 1 aIu Ud:=s2 wC uj Pw aCv
def ar2 (s:FY) (hE:Zk s):(λs:FY=>(L7 s.i (H6 s)<|s.l.drop s.k.toNat,s.sums.set s.i.toNat<|s.sums.getD s.i.toNat 0+smA s.alive (s.l.drop s.k.toNat))) (Gr s)=(λs:FY=>(L7 s.i (H6 s)<|s.l.drop s.k.toNat,s.sums.set s.i.toNat<|s.sums.getD s.i.toNat 0+smA s.alive (s.l.drop s.k.toNat))) s:=by
 exact AR.Kv wC uj kf (λs hI=>by
  refine AH (λc1=>?_) λc1=>?_
  ·have hm:=fu s hI A8
   refine sS 16 0 A0 A0 λi em=>?_
   show DF _ _ ((rO _ _ i _).rd s)
   rw [Xr];exact (aUE s i hI A8 em).2
  ·rw [Xr]
   exact rfl) s hE
def avG (s:FY) (hE:Zk s):H6 (Gr s)=L7 s.i (H6 s) s.l/\(Gr s).sums=s.sums.set s.i.toNat (s.sums.getD s.i.toNat 0+smA s.alive s.l):=by
 have q3:=ar2 s hE
 obtain ⟨hI2,hf⟩:=AR.inv wC uj (λs=>AV) s hE
 have hI2:Pz (Gr s):=hI2
 have hq:=eR (aUF _ hI2) hf
 have q2:(Gr s).k=(Gr s).n:=hq.2
 obtain ⟨h0,h1,h2,h3,h4,h5,h6,h7⟩:=hE;obtain ⟨g0,g1,g2,g3,g4,g5,g6,g7⟩:=hI2
 have el:(Gr s).l=s.l:=rfl
 have en:(Gr s).n=s.n:=rfl
 have ei:(Gr s).i=s.i:=rfl
 have ea:(Gr s).alive=s.alive:=rfl
 simp only at q3;rw [q2,en,el,ei,ea,FA A0,h0,show (0:Y).toNat=0 from rfl,CZ] at q3
 have e1:=B0 Prod.fst q3
 have e2:=B0 Prod.snd q3
 simp only at e1 e2;refine ⟨e1,?_⟩;rw [<-e2];exact (aqT (by rw [ei] at g7;omega)).symm
structure EL where
 alive:aB
 rows:aY
 (rn ri:Y)
 KQ:aJ
 KU:aE
 KS:aP
 KT:aF
 Kd:aQ
 Hk:aJ
 Hj:aE
 Ef:aP
 B5:aF
 Hl:aQ
 BH:aY
 (BI CP CO CN CM CL CK CJ CI CR CQ CG CF CE CD CC CB sums levels:aB)
def aIt:=bN f204 0
def MO (s:EL):FY:=(⟨s.alive,s.ri,s.rows,s.rn,s.ri,(Cn s.rows s.ri).2,(M (Cn s.rows s.ri).2:Y),0,s.KQ,s.KU,s.KS,s.KT,s.Kd,s.Hk,s.Hj,s.Ef,s.B5,s.Hl,s.BH,s.BI,s.CP,s.CO,s.CN,s.CM,s.CL,s.CK,s.CJ,s.CI,s.CR,s.CQ,s.CG,s.CF,s.CE,s.CD,s.CC,s.CB,s.sums,s.levels⟩:FY)
def aBW (s:EL):T (Rd EL):=letI a:=Gr<|MO s;.br (an<|s.ri<s.rn) (.ix s.ri (M s.rows)<|.rl s.CP<|.rl s.CO<|.rl s.CN<|.rl s.CM<|.rl s.CL<|.rl s.CK<|.rl s.CJ<|.rl s.CI<|.rl s.CR<|.rl s.CQ<|.rl s.CG<|.rl s.CF<|.rl s.CE<|.rl s.CD<|.rl s.CC<|.rl s.CB<|.rl s.sums<|.rl s.levels<|.req (Ud.q<|MO s)<|.rl a.CP<|.rl a.CO<|.rl a.CN<|.rl a.CM<|.rl a.CL<|.rl a.CK<|.rl a.CJ<|.rl a.CI<|.rl a.CR<|.rl a.CQ<|.rl a.CG<|.rl a.CF<|.rl a.CE<|.rl a.CD<|.rl a.CC<|.rl a.CB<|.rl a.sums<|.rl s.levels<|.nx {s with ri:=AA<|s.ri+1,CP:=a.CP,CO:=a.CO,CN:=a.CN,CM:=a.CM,CL:=a.CL,CK:=a.CK,CJ:=a.CJ,CI:=a.CI,CR:=a.CR,CQ:=a.CQ,CG:=a.CG,CF:=a.CF,CE:=a.CE,CD:=a.CD,CC:=a.CC,CB:=a.CB,sums:=a.sums})<|.rl s.CP<|.rl s.CO<|.rl s.CN<|.rl s.CM<|.rl s.CL<|.rl s.CK<|.rl s.CJ<|.rl s.CI<|.rl s.CR<|.rl s.CQ<|.rl s.CG<|.rl s.CF<|.rl s.CE<|.rl s.CD<|.rl s.CC<|.rl s.CB<|.rl s.sums<|.rl s.levels<|.so (.exit 0) s
def Fx (s:EL):aI:=[s.CP,s.CO,s.CN,s.CM,s.CL,s.CK,s.CJ,s.CI,s.CR,s.CQ,s.CG,s.CF,s.CE,s.CD,s.CC,s.CB]
def UZ (s:EL):Prop:=s.ri=0/\(∀o∈Fx s,o=[])/\s.sums=aq (M s.rows) 0/\s.rn=(M s.rows:Y)/\s.rn<=1000/\(∀r∈s.rows,(M r.2:Y)<=1000/\∀m∈r.2,0<=m/\m<16/\m<(M s.alive:Y))/\(∀a∈s.alive,0<=a/\a<=80)/\M s.sums=M s.rows
def Ms (s:EL):Prop:=(0<=s.ri/\s.ri<=s.rn)/\(∀o∈Fx s,(M o:Y)<=1000*s.ri)/\(∀k:aC,s.ri<=(k:Y)->s.sums.getD k 0=0)/\s.rn=(M s.rows:Y)/\s.rn<=1000/\(∀r∈s.rows,(M r.2:Y)<=1000/\∀m∈r.2,0<=m/\m<16/\m<(M s.alive:Y))/\(∀a∈s.alive,0<=a/\a<=80)/\M s.sums=M s.rows
def Tj (s:EL):aC:=(s.rn-s.ri).toNat
def lC (x:Ex) (s s':EL):Prop:=x=.exit 0/\s'.ri=s'.rn
def amS:∀s,UZ s->Ms s:=by
 rintro s ⟨h0,h1,h2,h3⟩
 refine ⟨A0,λo ho=>A8,λk _=>?_,h3⟩
 grind
def aUD (s:EL) (hI:Ms s) (c1:s.ri<s.rn):Zk (MO s):=by
 obtain ⟨⟨h0,h1⟩,h2,h3,h4,h5,h6,h7,h8⟩:=hI
 have hr:=h6 (Cn s.rows s.ri) aAF
 refine ⟨rfl,λo ho=>?_,?_,rfl,hr.1,hr.2,h7,h0,?_⟩
 ·have:=h2 o ho
  omega
 ·have:=h3 s.ri.toNat A0
  show 0<=s.sums.getD s.ri.toNat 0/\s.sums.getD s.ri.toNat 0<=1000
  omega
 ·show s.ri<(M s.sums:Y)
  omega
def aUC (s s':EL) (hI:Ms s) (c1:s.ri<s.rn) (hO:Fx s'=H6 (Gr<|MO s)) (hs:s'.sums=(Gr<|MO s).sums) (hk:s'.ri=AA (s.ri+1)) (hn:s'.rn=s.rn) (hl:s'.rows=s.rows) (ha:s'.alive=s.alive):
  (Ms s'/\Tj s'<Tj s)/\(λs:EL=>(Hi (Fx s) s.ri<|s.rows.drop s.ri.toNat,Hh s.alive s.sums s.ri<|s.rows.drop s.ri.toNat)) s'=(λs:EL=>(Hi (Fx s) s.ri<|s.rows.drop s.ri.toNat,Hh s.alive s.sums s.ri<|s.rows.drop s.ri.toNat)) s:=by
 obtain ⟨r1,r2⟩:=avG _<|aUD s hI c1;obtain ⟨⟨h0,h1⟩,h2,h3,h4,h5,h6,h7,h8⟩:=hI
 have hr:=h6 (Cn s.rows s.ri) aAF
 rw [AI (x:=s.ri+1)] at hk
 have r1:H6 (Gr<|MO s)=L7 s.ri (Fx s) (Cn s.rows s.ri).2:=r1
 have r2:(Gr<|MO s).sums=s.sums.set s.ri.toNat (s.sums.getD s.ri.toNat 0+smA s.alive (Cn s.rows s.ri).2):=r2
 refine ⟨⟨⟨⟨A0,A0⟩,λo ho=>?_,λk hk2=>?_,A8,A0,by rw [hl,ha];exact h6,by rw [ha];exact h7,A8⟩,by simp only [Tj];omega⟩,?_⟩
 ·rw [hO,r1] at ho
  have:=aK3 h2 o ho
  have:=hr.1
  rw [hk];omega
 ·rw [hs,r2]
  have:=h3 k A0
  simp only [List.getD] at this|-;rw [Zq A0];exact this
 ·simp only
  rw [hO,hs,hl,ha,r1,r2,hk,(arD h0 (show s.ri<M s.rows by omega)).1]
  rfl
def avE (s s':EL) (hI:Ms s) (c1:s.ri<s.rn) (hO:Fx s'=H6 (Gr<|MO s)) (hs:s'.sums=(Gr<|MO s).sums) (hk:s'.ri=AA (s.ri+1)) (hn:s'.rn=s.rn) (hl:s'.rows=s.rows) (ha:s'.alive=s.alive):DF (λs'=>Ms s'/\Tj s'<Tj s) (λx s'=>lC x s s') (.next s'):=(aUC s s' hI c1 hO hs hk hn hl ha).1
def avD (s s':EL) (hI:Ms s) (c1:s.ri<s.rn) (hO:Fx s'=H6 (Gr<|MO s)) (hs:s'.sums=(Gr<|MO s).sums) (hk:s'.ri=AA (s.ri+1)) (hn:s'.rn=s.rn) (hl:s'.rows=s.rows) (ha:s'.alive=s.alive):DF (λs'=>(λs:EL=>(Hi (Fx s) s.ri<|s.rows.drop s.ri.toNat,Hh s.alive s.sums s.ri<|s.rows.drop s.ri.toNat)) s'=(λs:EL=>(Hi (Fx s) s.ri<|s.rows.drop s.ri.toNat,Hh s.alive s.sums s.ri<|s.rows.drop s.ri.toNat)) s) (λ_ s'=>(λs:EL=>(Hi (Fx s) s.ri<|s.rows.drop s.ri.toNat,Hh s.alive s.sums s.ri<|s.rows.drop s.ri.toNat)) s'=(λs:EL=>(Hi (Fx s) s.ri<|s.rows.drop s.ri.toNat,Hh s.alive s.sums s.ri<|s.rows.drop s.ri.toNat)) s) (.next s'):=(aUC s s' hI c1 hO hs hk hn hl ha).2
def agL:Da Ms Tj lC aBW:=by
 intro s hI;refine AH (λc1=>?_) λc1=>?_
 ·exact avE s _ hI A8 rfl rfl rfl rfl rfl rfl
 ·have c1:s.rn<=s.ri:=A8
  have h0:=hI.1
  exact VL
def Pe:AR EL:=⟨1,67,[2,7,23,24,25],[.ns 7 6 3 A7,.ns 7 7 3 A7,.ns 7 8 3 A7,.ns 7 9 3 A7,.ns 7 10 3 A7,.ns 7 11 3 A7,.ns 7 12 3 A7,.ns 7 13 3 A7,.ns 7 14 3 A7,.ns 7 15 3 A7,.ns 7 16 3 A7,.ns 7 17 3 A7,.ns 7 18 3 A7,.ns 7 19 3 A7,.ns 7 20 3 A7,.ns 7 21 3 A7],λs=>[.xl A7 s.alive,.own 1 0,.xl Eg s.rows,s.rn,s.ri],λs=>[⟨[s.KQ,s.KU,s.KS,s.KT,s.Kd],28,.cl,X⟩,⟨[s.Hk,s.Hj,s.Ef,s.B5,s.Hl,.xl Eg s.BH,.os 2 1 0<|M s.CP,.os 3 1 0<|M s.CO,.os 4 1 0<|M s.CN,.os 5 1 0<|M s.CM,.os 6 1 0<|M s.CL,.os 7 1 0<|M s.CK,.os 8 1 0<|M s.CJ,.os 9 1 0<|M s.CI,.os 10 1 0<|M s.CR,.os 11 1 0<|M s.CQ,.os 12 1 0<|M s.CG,.os 13 1 0<|M s.CF,.os 14 1 0<|M s.CE,.os 15 1 0<|M s.CD,.os 16 1 0<|M s.CC,.os 17 1 0<|M s.CB,.os 18 1 0<|M s.sums,.xl A7 s.BI,.os 19 1 0<|M s.levels],318,.cl,X⟩,bV 3 A7 s.CP,bV 3 A7 s.CO,bV 3 A7 s.CN,bV 3 A7 s.CM,bV 3 A7 s.CL,bV 3 A7 s.CK,bV 3 A7 s.CJ,bV 3 A7 s.CI,bV 3 A7 s.CR,bV 3 A7 s.CQ,bV 3 A7 s.CG,bV 3 A7 s.CF,bV 3 A7 s.CE,bV 3 A7 s.CD,bV 3 A7 s.CC,bV 3 A7 s.CB,bV 3 A7 s.sums,bV 3 A7 s.levels],λv b=>⟨B1 A7 v 0,B1 Eg v 2,AL v 3,AL v 4,AF Ae b 0 0,AF .str b 0 1,AF Ak b 0 2,AF Af b 0 3,AF Al b 0 4,AF Ae b 1 0,AF .str b 1 1,AF Ak b 1 2,AF Af b 1 3,AF Al b 1 4,AF Eg b 1 5,AF A7 b 1 23,Ab A7 b 2,Ab A7 b 3,Ab A7 b 4,Ab A7 b 5,Ab A7 b 6,Ab A7 b 7,Ab A7 b 8,Ab A7 b 9,Ab A7 b 10,Ab A7 b 11,Ab A7 b 12,Ab A7 b 13,Ab A7 b 14,Ab A7 b 15,Ab A7 b 16,Ab A7 b 17,Ab A7 b 18,Ab A7 b 19⟩,aBW,λs r=> {s with ri:=r.ri,CP:=r.CP,CO:=r.CO,CN:=r.CN,CM:=r.CM,CL:=r.CL,CK:=r.CK,CJ:=r.CJ,CI:=r.CI,CR:=r.CR,CQ:=r.CQ,CG:=r.CG,CF:=r.CF,CE:=r.CE,CD:=r.CD,CC:=r.CC,CB:=r.CB,sums:=r.sums},λs=>s,λ_ s=>s,[.exit 0],UZ,Ms,Tj⟩
abbrev J4:=Pe.run
abbrev avw:=Pe.At
def afv:Rq Ms aBW:=by
 intro s hI;refine ⟨λc1=>⟨?_,A9,A9,A9,A9,A9,A9,A9,A9,A9,A9,A9,A9,A9,A9,A9,A9,A9,A9,?_,A9,A9,A9,A9,A9,A9,A9,A9,A9,A9,A9,A9,A9,A9,A9,A9,A9,A9,ak⟩,λc1=>⟨A9,A9,A9,A9,A9,A9,A9,A9,A9,A9,A9,A9,A9,A9,A9,A9,A9,A9,ak⟩⟩
 ·(obtain ⟨h0,h2,h3,h4,h5,h6,h7,h8⟩:=hI;simp only [Ac] at c1;omega)
 ·exact ⟨aUD s hI A8,rfl,rfl⟩
def wB:Pe.Ok:={}
def ui:Pe.Pf (lC):=⟨amS,λs h=>rfl,agL,afv⟩
def fT:SA 1 aIt Pe:=AR.snd wB ui (Fp (Γ:=Pw) (K:=aCv) (L:=(LF (λi=>if i=6 then Ud.lp else Ao i))) (gk Pw) aCv.h aIt (λb hb=>by
 rw [show BC _=[aIu] by kernel_rfl] at hb
 simp only [B6,Bv,Bt] at hb;subst hb;exact asO)) λs=>AV
def avF:Fi UZ Ms lC avw J4:=AR.fin wB ui
def ar1 (s:EL) (hE:UZ s):(λs:EL=>(Hi (Fx s) s.ri<|s.rows.drop s.ri.toNat,Hh s.alive s.sums s.ri<|s.rows.drop s.ri.toNat)) (J4 s)=(λs:EL=>(Hi (Fx s) s.ri<|s.rows.drop s.ri.toNat,Hh s.alive s.sums s.ri<|s.rows.drop s.ri.toNat)) s:=by
 exact AR.Kv wB ui (λs:EL=>(Hi (Fx s) s.ri<|s.rows.drop s.ri.toNat,Hh s.alive s.sums s.ri<|s.rows.drop s.ri.toNat)) (λs hI=>by
  refine AH (λc1=>?_) λc1=>?_
  ·exact avD s _ hI A8 rfl rfl rfl rfl rfl rfl
  ·rfl) s hE
def avC (s:EL) (hE:UZ s):Fx (J4 s)=Hi (Fx s) 0 s.rows/\(J4 s).sums=Hh s.alive s.sums 0 s.rows:=by
 have q3:=ar1 s hE
 obtain ⟨s',hI,q1,q2⟩:=avF s hE;obtain ⟨h0,h1,h2,h3,h4,h5⟩:=hE
 have el:(J4 s).rows=s.rows:=rfl
 have en:(J4 s).rn=s.rn:=rfl
 have ea:(J4 s).alive=s.alive:=rfl
 simp only at q3;rw [q2,en,el,ea,FA A0,h0] at q3;exact ⟨B0 Prod.fst q3,B0 Prod.snd q3⟩
structure Mo where
 r:aM
 l:aB
 (n i:Y)
 KQ:aJ
 KU:aE
 KS:aP
 KT:aF
 Kd:aQ
 Hk:aJ
 Hj:aE
 Ef:aP
 B5:aF
 Hl:aQ
 BH:aY
 (CP CO CN CM CL CK CJ CI CR CQ CG CF CE CD CC CB BI sums levels:aB)
 aiu:bz
 (aph arW aoR aoS ajV aew axo more:Y)
def kC (s:Mo):T (Rd Mo):=letI a:=gi s.l s.i;.br (an<|s.i<s.n) (.ix s.i (M s.l)<|.ik a (M s.sums)<|.ix a (M s.BH)<|.br (!(an<|(AA<|(s.sums.getD a.toNat<|Ty.dflt A7)+s.more)<=(Cn s.BH a).1)) (.rl s.sums<|.rl s.levels<|.so (.ret) {s with r:=X})<|.rl s.sums<|.rl s.levels<|.nx {s with i:=AA<|s.i+1})<|.rl s.sums<|.rl s.levels<|.so (.exit 0) s
def U6 (s:Mo) (j:Y):aM:=Kz s.BH s.sums s.more<|gi s.l j
def Z8 (s:Mo):Prop:=s.i=0/\0<=s.n/\s.n<=1000/\s.n=(M s.l:Y)/\(∀r∈s.l,0<=r/\r<(M s.BH:Y))/\M s.sums=M s.BH/\(∀k:aC,0<=s.sums.getD k 0/\s.sums.getD k 0<=2000)/\(0<=s.more/\s.more<=10000)
def ZW (s:Mo):Prop:=0<=s.i/\s.i<=s.n/\s.n<=1000/\(s.n=(M s.l:Y)/\(∀r∈s.l,0<=r/\r<(M s.BH:Y))/\M s.sums=M s.BH/\(∀k:aC,0<=s.sums.getD k 0/\s.sums.getD k 0<=2000)/\(0<=s.more/\s.more<=10000))/\∀j:aC,(j:Y)<s.i->U6 s j=U
def wM (s:Mo):aC:=(s.n-s.i).toNat
def aDB (x:Ex) (s s':Mo):Prop:=(x=.exit 0/\∀j:aC,(j:Y)<s'.n->U6 s' j=U)\/(x=.ret/\s'.r=X/\∃j:aC,(j:Y)<s'.n/\U6 s' j=X)
def aoa:∀s,Z8 s->ZW s:=by
 exact Jq
def ajX:Da ZW wM aDB kC:=by
 intro s hI;unfold kC;obtain ⟨h0,h1,h2,h3,h4⟩:=hI;refine AH (λc1=>AH (λc2=>?_) λc2=>?_) λc1=>?_
 ·have c1:s.i<s.n:=AX
  refine .inr ⟨rfl,rfl,s.i.toNat,Aa,?_⟩
  have hg:U6 s s.i=false:=aPJ
  exact hg
 ·have c1:s.i<s.n:=AX
  have hg:U6 s s.i=true:=aPJ
  rw [AI (x:=s.i+1)];refine ⟨⟨Aa,Aa,h2,h3,λj hj=>?_⟩,by simp only [wM];omega⟩
  exact LR
 ·exact Sy
def ZK:AR Mo:=⟨7,18,[1,4,7,8,9],[],λs=>[.fn 234 [.own 4 0,.own 6 0],s.r,.xl A7 s.l,s.n,s.i],λs=>[⟨[s.KQ,s.KU,s.KS,s.KT,s.Kd],28,.cl,X⟩,⟨[s.Hk,s.Hj,s.Ef,s.B5,s.Hl,.xl Eg s.BH,.xl A7 s.CP,.xl A7 s.CO,.xl A7 s.CN,.xl A7 s.CM,.xl A7 s.CL,.xl A7 s.CK,.xl A7 s.CJ,.xl A7 s.CI,.xl A7 s.CR,.xl A7 s.CQ,.xl A7 s.CG,.xl A7 s.CF,.xl A7 s.CE,.xl A7 s.CD,.xl A7 s.CC,.xl A7 s.CB,.os 2 1 0<|M s.sums,.xl A7 s.BI,.os 3 1 0<|M s.levels],318,.cl,X⟩,bV 3 A7 s.sums,bV 3 A7 s.levels,⟨[.own 1 0],314,.cl,X⟩,⟨[.v<|.string s.aiu,s.aph,s.arW,s.aoR,s.aoS,s.ajV,s.aew,s.axo],69,.cl,X⟩,⟨[s.more],3,.cl,X⟩],λv b=>⟨EB v 1,B1 A7 v 2,AL v 3,AL v 4,AF Ae b 0 0,AF .str b 0 1,AF Ak b 0 2,AF Af b 0 3,AF Al b 0 4,AF Ae b 1 0,AF .str b 1 1,AF Ak b 1 2,AF Af b 1 3,AF Al b 1 4,AF Eg b 1 5,AF A7 b 1 6,AF A7 b 1 7,AF A7 b 1 8,AF A7 b 1 9,AF A7 b 1 10,AF A7 b 1 11,AF A7 b 1 12,AF A7 b 1 13,AF A7 b 1 14,AF A7 b 1 15,AF A7 b 1 16,AF A7 b 1 17,AF A7 b 1 18,AF A7 b 1 19,AF A7 b 1 20,AF A7 b 1 21,AF A7 b 1 23,Ab A7 b 2,Ab A7 b 3,gSr<|BD (Cc b 5) 0,Am b 5 1,Am b 5 2,Am b 5 3,Am b 5 4,Am b 5 5,Am b 5 6,Am b 5 7,Am b 6 0⟩,kC,λs r=> {s with r:=r.r,i:=r.i},λs=>s,λ_ s=>s,[.ret,.exit 0],Z8,ZW,wM⟩
abbrev gP:=ZK.run
abbrev gj:=ZK.At
def Um:aN:=[XA,XO,XN,XP]
def aoD:Ax:=kI Um<|la 3 func204 fT<|la 2 func202 Wn<|l0 Um
def afS:Rq ZW kC:=by
 intro s hI;refine ⟨λc1=>⟨?_,?_,?_,?_,λc2=>⟨A9,A9,ak⟩,λc2=>⟨A9,A9,ak⟩⟩,λc1=>⟨A9,A9,ak⟩⟩
 all_goals ((obtain ⟨h0,h1,h2,⟨e0,e1,e2,e3,e4⟩,h4⟩:=hI;simp only [Ac] at c1;have hm:=e1 (gi s.l s.i)<|Kf A0 A0;omega))
def aTU:ZK.Ok:={}
def aSw:ZK.Pf (aDB):=⟨aoa,λs h=>rfl,ajX,afS⟩
def gG:=s2 (b:=bN f202 0) aTU aSw Um aoD
def awR:Fi Z8 ZW aDB gj gP:=AR.fin aTU aSw
def eN (s:Mo) (hE:Z8 s):(gj s=.exit 0/\s.l.all (Kz s.BH s.sums s.more)=U)\/(gj s=.ret/\(gP s).r=X/\s.l.all (Kz s.BH s.sums s.more)=X):=by
 obtain ⟨s',hI,hq⟩:=awR s hE;obtain ⟨h0,h1,h2,h3,_⟩:=hE
 have en:(gP s).n=s.n:=rfl
 rcases hq with ⟨q1,q2⟩ |⟨q1,q2,j,q3,q4⟩
 ·exact .inl ⟨q1,(Qo (d:=(0:Y))).1 λj hj=>q2 j A0⟩
 ·exact aO3
structure K9 where
 (charger level:Y)
 l:aB
 (n i:Y)
 KQ:aJ
 KU:aE
 KS:aP
 KT:aF
 Kd:aQ
 Hk:aJ
 Hj:aE
 Ef:aP
 B5:aF
 Hl:aQ
 BH:aY
 (CP CO CN CM CL CK CJ CI CR CQ CG CF CE CD CC CB BI sums levels:aB)
 more:Y
def aES (s:K9):T (Rd K9):=letI b:=gi s.l s.i;letI c:=M s.sums;letI a:=s.sums.set b.toNat<|AA<|(s.sums.getD b.toNat<|Ty.dflt A7)+s.more;.br (an<|s.i<s.n) (.ix s.i (M s.l)<|.ik b c<|.ik b c<|.re c a<|.rl s.levels<|.nx {s with i:=AA<|s.i+1,sums:=a})<|.rl s.sums<|.rl s.levels<|.so (.exit 0) s
def Vy (s:K9):Prop:=s.i=0/\(∀k:aC,0<=s.sums.getD k 0/\s.sums.getD k 0<=2000)/\s.n=(M s.l:Y)/\s.n<=1000/\(∀r∈s.l,0<=r/\r<(M s.sums:Y))/\(0<=s.more/\s.more<=10000)
def dK (s:K9):Prop:=(0<=s.i/\s.i<=s.n)/\(∀k:aC,0<=s.sums.getD k 0/\s.sums.getD k 0<=2000+10000*s.i)/\s.n=(M s.l:Y)/\s.n<=1000/\(∀r∈s.l,0<=r/\r<(M s.sums:Y))/\(0<=s.more/\s.more<=10000)
def aCZ (s:K9):aC:=(s.n-s.i).toNat
def yf (x:Ex) (s s':K9):Prop:=x=.exit 0/\s'.i=s'.n
def ap4:∀s,Vy s->dK s:=by
 rintro s ⟨h0,h1,h2,h3⟩
 exact ⟨A0,λk=>A8,h2,h3⟩
def alP:Da dK aCZ yf aES:=by
 intro s hI;obtain ⟨⟨h0,h1⟩,h2,h3,h4,h5,h6⟩:=hI;refine AH (λc1=>?_) λc1=>?_
 ·have c1:s.i<s.n:=AX
  have hb:=h2 (gi s.l s.i).toNat
  rw [AI (x:=s.i+1),AI (x:=s.sums.getD (gi s.l s.i).toNat (Ty.dflt A7)+s.more) aPr aPs];refine ⟨⟨⟨A8,A8⟩,λk=>?_,h3,h4,λr hr=>A8,h6⟩,by simp only [aCZ];omega⟩
  simp only
  have hk:=h2 k
  rw [TQ];split
  ·show 0<=s.sums.getD (gi s.l s.i).toNat 0+s.more/\s.sums.getD (gi s.l s.i).toNat 0+s.more<=_
   omega
  ·omega
 ·exact T0
def W0:AR K9:=⟨4,90,[1,2,6,7,66,67,68],[],λs=>[s.charger,.own 4 0,s.level,.own 5 0,.xl A7 s.l,s.n,s.i],λs=>[⟨[s.KQ,s.KU,s.KS,s.KT,s.Kd],28,.cl,X⟩,⟨[s.Hk,s.Hj,s.Ef,s.B5,s.Hl,.xl Eg s.BH,.xl A7 s.CP,.xl A7 s.CO,.xl A7 s.CN,.xl A7 s.CM,.xl A7 s.CL,.xl A7 s.CK,.xl A7 s.CJ,.xl A7 s.CI,.xl A7 s.CR,.xl A7 s.CQ,.xl A7 s.CG,.xl A7 s.CF,.xl A7 s.CE,.xl A7 s.CD,.xl A7 s.CC,.xl A7 s.CB,.os 2 1 0<|M s.sums,.xl A7 s.BI,.os 3 1 0<|M s.levels],318,.cl,X⟩,bV 3 A7 s.sums,bV 3 A7 s.levels,⟨[.own 1 0],314,.cl,X⟩,⟨[s.more],3,.cl,X⟩],λv b=>⟨AL v 0,AL v 2,B1 A7 v 4,AL v 5,AL v 6,AF Ae b 0 0,AF .str b 0 1,AF Ak b 0 2,AF Af b 0 3,AF Al b 0 4,AF Ae b 1 0,AF .str b 1 1,AF Ak b 1 2,AF Af b 1 3,AF Al b 1 4,AF Eg b 1 5,AF A7 b 1 6,AF A7 b 1 7,AF A7 b 1 8,AF A7 b 1 9,AF A7 b 1 10,AF A7 b 1 11,AF A7 b 1 12,AF A7 b 1 13,AF A7 b 1 14,AF A7 b 1 15,AF A7 b 1 16,AF A7 b 1 17,AF A7 b 1 18,AF A7 b 1 19,AF A7 b 1 20,AF A7 b 1 21,AF A7 b 1 23,Ab A7 b 2,Ab A7 b 3,Am b 5 0⟩,aES,λs r=> {s with i:=r.i,sums:=r.sums},λs=>s,λ_ s=>s,[.exit 0],Vy,dK,aCZ⟩
abbrev Oy:=W0.run
abbrev ai5:=W0.At
def aoC:Ax:=kI Um<|la 2 func202 gG<|la 3 func204 fT<|la 2 func202 Wn<|l0 Um
def alc:Rq dK aES:=by
 intro s hI;refine ⟨λc1=>⟨?_,?_,?_,?_,?_,?_,A9,ak⟩,λc1=>⟨A9,A9,ak⟩⟩
 all_goals ((obtain ⟨⟨h0,h1⟩,h2,h3,h4,h5,h6⟩:=hI;(try simp only [Ac] at c1);first|(have hm:=h5 (gi s.l s.i)<|Kf A0 A0;omega) |exact ⟨rfl,AJ⟩ |exact ⟨rfl,rfl⟩))
def aCR:W0.Ok:={}
def aCG:W0.Pf (yf):=⟨ap4,λs h=>rfl,alP,alc⟩
def ux:=s2 (b:=bN f206 0) aCR aCG Um aoC
def azN:Fi Vy dK yf ai5 Oy:=AR.fin aCR aCG
def atu (s:K9) (hE:Vy s):(λs:K9=>KE s.sums s.more<|s.l.drop s.i.toNat) (Oy s)=(λs:K9=>KE s.sums s.more<|s.l.drop s.i.toNat) s:=by
 exact AR.Kv aCR aCG (λs:K9=>KE s.sums s.more<|s.l.drop s.i.toNat) (λs hI=>by
  obtain ⟨⟨h0,h1⟩,h2,h3,h4,h5,h6⟩:=hI;refine AH (λc1=>?_) λc1=>rfl
  have c1:s.i<s.n:=A8
  have hb:=h2 (gi s.l s.i).toNat
  rw [AI (x:=s.i+1),AI (x:=s.sums.getD (gi s.l s.i).toNat (Ty.dflt A7)+s.more) aPr aPs];rw [(gi_step h0 (show s.i<M s.l by omega)).1]
  rfl) s hE
def aSE (s:K9) (hE:Vy s):(Oy s).sums=KE s.sums s.more s.l:=by
 have q3:=atu s hE
 obtain ⟨s',hI,q1,q2⟩:=azN s hE;obtain ⟨h0,h1,h2,h3⟩:=hE;simp only at q3;rw [q2,show (Oy s).n=s.n from rfl,show (Oy s).l=s.l from rfl,show (Oy s).more=s.more from rfl,FA A0,h0] at q3;exact q3
structure DD where
 (most order:aB)
 (n level:Y)
 some:aM
 l:aB
 (m k:Y)
 BE:aJ
 Bg:aE
 C9:aP
 BP:aF
 CA:aQ
 Hk:aJ
 Hj:aE
 Ef:aP
 B5:aF
 Hl:aQ
 BH:aY
 (CP CO CN CM CL CK CJ CI CR CQ CG CF CE CD CC CB BI sums levels:aB)
def aIg:=lN (bN f166 0) 0
def Ta (s:DD):Mo:=letI c:=gi s.l s.k;letI d:=gi s.BI c;letI a:=AG s.B5 c;letI b:=AA<|(s.levels.getD c.toNat<|Ty.dflt A7)+1;(⟨X,([s.CP,s.CO,s.CN,s.CM,s.CL,s.CK,s.CJ,s.CI,s.CR,s.CQ,s.CG,s.CF,s.CE,s.CD,s.CC,s.CB]:aI).getD c.toNat [],(M (([s.CP,s.CO,s.CN,s.CM,s.CL,s.CK,s.CJ,s.CI,s.CR,s.CQ,s.CG,s.CF,s.CE,s.CD,s.CC,s.CB]:aI).getD c.toNat []):Y),0,s.BE,s.Bg,s.C9,s.BP,s.CA,s.Hk,s.Hj,s.Ef,s.B5,s.Hl,s.BH,s.CP,s.CO,s.CN,s.CM,s.CL,s.CK,s.CJ,s.CI,s.CR,s.CQ,s.CG,s.CF,s.CE,s.CD,s.CC,s.CB,s.BI,s.sums,s.levels,a.1,a.2.1,a.2.2.1,a.2.2.2.1,a.2.2.2.2.1,a.2.2.2.2.2.1,a.2.2.2.2.2.2.1,a.2.2.2.2.2.2.2,AA<|(if d<(EA a.2.2.2.1 a.2.2.2.2.2.1 b) then EA a.2.2.2.1 a.2.2.2.2.2.1 b else d)-(if d<(EA a.2.2.2.1 a.2.2.2.2.2.1<|AA<|b-1) then EA a.2.2.2.1 a.2.2.2.2.2.1 (AA<|b-1) else d)⟩:Mo)
def TD (s:DD):K9:=letI b:=gi s.l s.k;letI c:=AG s.B5 b;letI d:=gi s.BI b;letI a:=AA<|(s.levels.getD b.toNat<|Ty.dflt A7)+1;(⟨b,a,([s.CP,s.CO,s.CN,s.CM,s.CL,s.CK,s.CJ,s.CI,s.CR,s.CQ,s.CG,s.CF,s.CE,s.CD,s.CC,s.CB]:aI).getD b.toNat [],(M (([s.CP,s.CO,s.CN,s.CM,s.CL,s.CK,s.CJ,s.CI,s.CR,s.CQ,s.CG,s.CF,s.CE,s.CD,s.CC,s.CB]:aI).getD b.toNat []):Y),0,s.BE,s.Bg,s.C9,s.BP,s.CA,s.Hk,s.Hj,s.Ef,s.B5,s.Hl,s.BH,s.CP,s.CO,s.CN,s.CM,s.CL,s.CK,s.CJ,s.CI,s.CR,s.CQ,s.CG,s.CF,s.CE,s.CD,s.CC,s.CB,s.BI,s.sums,s.levels,AA<|(if d<(EA c.2.2.2.1 c.2.2.2.2.2.1 a) then EA c.2.2.2.1 c.2.2.2.2.2.1 a else d)-(if d<(EA c.2.2.2.1 c.2.2.2.2.2.1<|AA<|a-1) then EA c.2.2.2.1 c.2.2.2.2.2.1 (AA<|a-1) else d)⟩:K9)
def UI (s:DD):T (Rd DD):=letI b:=gi s.l s.k;letI d:=M s.levels;letI e:=AA<|s.k+1;letI f:=AG s.B5 b;letI g:=Oy<|TD s;letI h:=s.levels.getD b.toNat<|Ty.dflt A7;letI c:=AA<|h+1;letI a:=s.levels.set b.toNat c;.br (an<|s.k<s.m) (.ix s.k (M s.l)<|.ik b d<|.br (h !=(AA<|s.level-1)) (.rl s.sums<|.rl s.levels<|.nx {s with k:=e})<|.ix b (M s.BP)<|.ix b (M s.most)<|.req ((gi s.most b)<=9223372036854775807)<|.br (an<|(Hr (AG s.BP b).2.2.2.1 (AG s.BP b).2.2.2.2.1 (AG s.BP b).2.2.2.2.2.1<|gi s.most b)<s.level) (.rl s.sums<|.rl s.levels<|.nx {s with k:=e})<|.ix b (M s.B5)<|.ik b d<|.ix b (M s.BI)<|.req ((1<=f.2.2.2.1/\f.2.2.2.1<=80/\1<=f.2.2.2.2.2.1/\f.2.2.2.2.2.1<=80)/\0<=c/\c<=1000)<|.ix b (M s.BI)<|.req ((1<=f.2.2.2.1/\f.2.2.2.1<=80/\1<=f.2.2.2.2.2.1/\f.2.2.2.2.2.1<=80)/\0<=(AA<|c-1)/\(AA<|c-1)<=1000)<|.req (0<=b/\b<(16:Y))<|.rl s.sums<|.rl s.levels<|.req (ZK.q<|Ta s)<|.br (Bj (gj<|Ta s)<|.ret) (.br (!(gP<|Ta s).r) (.br X (.rl s.sums<|.rl s.levels<|.nx {s with some:=U,k:=e})<|.rl s.sums<|.rl s.levels<|.nx {s with k:=e})<|.req (0<=b/\b<(16:Y))<|.rl s.sums<|.rl s.levels<|.req (W0.q<|TD s)<|.ik b d<|.br U (.rl g.sums<|.re d a<|.nx {s with some:=U,k:=e,sums:=g.sums,levels:=a})<|.rl g.sums<|.re d a<|.nx {s with k:=e,sums:=g.sums,levels:=a})<|.br (!U) (.br X (.rl s.sums<|.rl s.levels<|.nx {s with some:=U,k:=e})<|.rl s.sums<|.rl s.levels<|.nx {s with k:=e})<|.req (0<=b/\b<(16:Y))<|.rl s.sums<|.rl s.levels<|.req (W0.q<|TD s)<|.ik b d<|.br U (.rl g.sums<|.re d a<|.nx {s with some:=U,k:=e,sums:=g.sums,levels:=a})<|.rl g.sums<|.re d a<|.nx {s with k:=e,sums:=g.sums,levels:=a})<|.rl s.sums<|.rl s.levels<|.so (.exit 2) s
def DM (s:DD):aI:=[s.CP,s.CO,s.CN,s.CM,s.CL,s.CK,s.CJ,s.CI,s.CR,s.CQ,s.CG,s.CF,s.CE,s.CD,s.CC,s.CB]
def UY (s:DD):Prop:=s.k=0/\(s.m=(M s.l:Y)/\s.m<=1000/\1<=s.level/\s.level<=81)/\s.B5=s.BP/\OkT (DM s) s.BH s.B5 s.BI s.most s.l/\OkS s.BH s.l s.sums s.levels
def IB (s:DD):Prop:=(0<=s.k/\s.k<=s.m)/\(s.m=(M s.l:Y)/\s.m<=1000/\1<=s.level/\s.level<=81)/\s.B5=s.BP/\OkT (DM s) s.BH s.B5 s.BI s.most s.l/\OkS s.BH s.l s.sums s.levels
def Ti (s:DD):aC:=(s.m-s.k).toNat
def lB (x:Ex) (s s':DD):Prop:=x=.exit 2/\s'.k=s'.m
def am0:∀s,UY s->IB s:=by
 exact nq
def Qz (s:DD) (hI:IB s) (c1:s.k<s.m):letI a:=gi s.l s.k;gi s.l s.k∈s.l/\(0<=gi s.l s.k/\gi s.l s.k<16)/\gi s.l s.k<(M s.B5:Y)/\gi s.l s.k<(M s.BP:Y)/\gi s.l s.k<(M s.BI:Y)/\gi s.l s.k<(M s.most:Y)/\gi s.l s.k<(M s.levels:Y)/\(0<=gi s.most a/\gi s.most a<=80)/\(0<=gi s.BI a/\gi s.BI a<=80):=by
 obtain ⟨⟨h0,h1⟩,⟨h2,h3,h4,h5⟩,h6,hT,hS⟩:=hI
 have hm:gi s.l s.k∈s.l:=Kf h0 A0
 obtain ⟨o1,o2,o3,o4⟩:=hT.ord _ hm;exact ⟨hm,o1,o2,A8,o3,o4,hS.C5 _ hm,hT.mo _<|Kf o1.1 o4,hT.al _<|Kf o1.1 o3⟩
def Qv {s:DD}(hI:IB s) (c2:((s.levels.getD (gi s.l s.k).toNat<|Ty.dflt A7) !=(AA<|s.level-1))=X):s.levels.getD (gi s.l s.k).toNat 0=s.level-1:=by
 obtain ⟨_,⟨h2,h3,h4,h5⟩,_⟩:=hI
 have c2:((s.levels.getD (gi s.l s.k).toNat 0) !=(AA<|s.level-1))=false:=c2
 rw [AI (x:=s.level-1)] at c2
 grind
def jT {s:DD}(hI:IB s) (c2:s.levels.getD (gi s.l s.k).toNat 0=s.level-1):letI a:=(s.levels.getD (gi s.l s.k).toNat<|Ty.dflt A7)+1;AA a=s.level/\AA ((AA a)-1)=s.level-1:=by
 obtain ⟨_,⟨h2,h3,h4,h5⟩,_⟩:=hI
 have e:AA ((s.levels.getD (gi s.l s.k).toNat<|Ty.dflt A7)+1)=s.level:=by
  have:(s.levels.getD (gi s.l s.k).toNat<|Ty.dflt A7)=s.level-1:=c2
  rw [this,AI (x:=s.level-1+1)];omega
 refine ⟨e,?_⟩;rw [e,AI]
def Wc {s:DD}(hI:IB s) (c1:s.k<s.m) (c2:s.levels.getD (gi s.l s.k).toNat 0=s.level-1):letI a:=gi s.l s.k;(Ta s).more=G9 s.B5 s.BI a s.level/\(TD s).more=G9 s.B5 s.BI a s.level/\0<=G9 s.B5 s.BI a s.level/\G9 s.B5 s.BI a s.level<=10000:=by
 have hx:=Qz s hI c1
 obtain ⟨w1,w2⟩:=jT hI c2;obtain ⟨_,⟨h2,h3,h4,h5⟩,h6,hT,hS⟩:=hI
 have hb:=aU4 (gs:=s.B5) (alive:=s.BI) (k:=s.level) (hT.has _ hx.1) hx.2.2.2.2.2.2.2.2 h4 h5
 have e:(Ta s).more=G9 s.B5 s.BI (gi s.l s.k) s.level:=by
  unfold Ta;simp only [w2];simp only [w1]
  show AA (G9 s.B5 s.BI (gi s.l s.k) s.level)=_
  rw [AI]
 exact ⟨e,e,hb⟩
def aWr {s:DD}(hI:IB s) (c1:s.k<s.m):((DM s).getD (gi s.l s.k).toNat []).Nodup/\(M ((DM s).getD (gi s.l s.k).toNat []):Y)<=1000/\∀r∈(DM s).getD (gi s.l s.k).toNat [],0<=r/\r<(M s.BH:Y):=by
 have hx:=Qz s hI c1
 obtain ⟨_,_,_,hT,_⟩:=hI;refine hT.row _ ?_
 have hl:=hT.ol
 grind
def Wg {s:DD}(hI:IB s) (c1:s.k<s.m) (c2:s.levels.getD (gi s.l s.k).toNat 0=s.level-1):Z8 (Ta s):=by
 obtain ⟨m1,m2,m3⟩:=Wc hI c1 c2;obtain ⟨o1,o2,o3⟩:=aWr hI c1;obtain ⟨_,_,_,hT,hS⟩:=hI;exact ⟨rfl,QL _,o2,rfl,o3,hS.len,hS.bd,A8⟩
def ti {s:DD}(hI:IB s) (c1:s.k<s.m) (c2:s.levels.getD (gi s.l s.k).toNat 0=s.level-1):Vy (TD s):=by
 obtain ⟨m1,m2,m3⟩:=Wc hI c1 c2;obtain ⟨o1,o2,o3⟩:=aWr hI c1;obtain ⟨_,_,_,hT,hS⟩:=hI;refine ⟨rfl,hS.bd,rfl,o2,λr hr=>?_,A8⟩
 have:=o3 r hr
 have hl:=hS.len
 show 0<=r/\r<(M s.sums:Y)
 omega
def aRe (s s':DD) (hI:IB s) (c1:s.k<s.m) (ht:(s'.sums,s'.levels,s'.some)=G6 (DM s) s.BH s.B5 s.BI s.most s.level (s.sums,s.levels,s.some) (gi s.l s.k)) (hk:s'.k=AA (s.k+1))
  (h_m:s'.m=s.m) (h_l:s'.l=s.l) (h_v:s'.level=s.level) (h_g:s'.B5=s.B5) (h_c:s'.BP=s.BP) (h_r:s'.BH=s.BH) (h_a:s'.BI=s.BI) (h_w:s'.most=s.most) (h_O:DM s'=DM s):
  (IB s'/\Ti s'<Ti s)/\(λs:DD=>swp (DM s) s.BH s.B5 s.BI s.most s.level (s.sums,s.levels,s.some)<|s.l.drop s.k.toNat) s'=(λs:DD=>swp (DM s) s.BH s.B5 s.BI s.most s.level (s.sums,s.levels,s.some)<|s.l.drop s.k.toNat) s:=by
 have hx:=Qz s hI c1
 obtain ⟨⟨h0,h1⟩,⟨h2,h3,h4,h5⟩,h6,hT,hS⟩:=hI;rw [AI (x:=s.k+1)] at hk
 have e1:s'.sums=(G6 (DM s) s.BH s.B5 s.BI s.most s.level (s.sums,s.levels,s.some)<|gi s.l s.k).1:=B0 (·.1) ht
 have e2:s'.levels=(G6 (DM s) s.BH s.B5 s.BI s.most s.level (s.sums,s.levels,s.some)<|gi s.l s.k).2.1:=B0 (·.2.1) ht
 refine ⟨⟨⟨⟨A0,A0⟩,⟨A8,A0,A0,A0⟩,A8,A8,?_⟩,by simp only [Ti];omega⟩,?_⟩
 ·rw [h_r,h_l,e1,e2]
  exact aSF hT hS hx.1 h4 h5
 ·simp only
  rw [h_O,h_r,h_g,h_a,h_w,h_v,h_l,ht,hk,(gi_step h0 (show s.k<M s.l by omega)).1]
  rfl
def sO (s s':DD) (hI:IB s) (c1:s.k<s.m) (ht:(s'.sums,s'.levels,s'.some)=G6 (DM s) s.BH s.B5 s.BI s.most s.level (s.sums,s.levels,s.some) (gi s.l s.k)) (hk:s'.k=AA (s.k+1))
  (h_m:s'.m=s.m) (h_l:s'.l=s.l) (h_v:s'.level=s.level) (h_g:s'.B5=s.B5) (h_c:s'.BP=s.BP) (h_r:s'.BH=s.BH) (h_a:s'.BI=s.BI) (h_w:s'.most=s.most) (h_O:DM s'=DM s):DF (λs'=>IB s'/\Ti s'<Ti s) (λx s'=>lB x s s') (.next s'):=(aRe s s' hI c1 ht hk h_m h_l h_v h_g h_c h_r h_a h_w h_O).1
def sM (s s':DD) (hI:IB s) (c1:s.k<s.m) (ht:(s'.sums,s'.levels,s'.some)=G6 (DM s) s.BH s.B5 s.BI s.most s.level (s.sums,s.levels,s.some) (gi s.l s.k)) (hk:s'.k=AA (s.k+1))
  (h_m:s'.m=s.m) (h_l:s'.l=s.l) (h_v:s'.level=s.level) (h_g:s'.B5=s.B5) (h_c:s'.BP=s.BP) (h_r:s'.BH=s.BH) (h_a:s'.BI=s.BI) (h_w:s'.most=s.most) (h_O:DM s'=DM s):DF (λs'=>(λs:DD=>swp (DM s) s.BH s.B5 s.BI s.most s.level (s.sums,s.levels,s.some)<|s.l.drop s.k.toNat) s'=(λs:DD=>swp (DM s) s.BH s.B5 s.BI s.most s.level (s.sums,s.levels,s.some)<|s.l.drop s.k.toNat) s) (λ_ s'=>(λs:DD=>swp (DM s) s.BH s.B5 s.BI s.most s.level (s.sums,s.levels,s.some)<|s.l.drop s.k.toNat) s'=(λs:DD=>swp (DM s) s.BH s.B5 s.BI s.most s.level (s.sums,s.levels,s.some)<|s.l.drop s.k.toNat) s) (.next s'):=(aRe s s' hI c1 ht hk h_m h_l h_v h_g h_c h_r h_a h_w h_O).2
def azE:Da IB Ti lB UI:=by
 intro s hI;unfold UI;dsimp only [T.rd,T.rl,T.rv];refine AH (λc1=>?_) λc1=>?_
 ·refine AH (λc2=>?_) (λc2=>?_)
  ·have c1:s.k<s.m:=AX
   have hn:¬(s.levels.getD (gi s.l s.k).toNat 0=s.level-1/\s.level<=Ff s.B5 (gi s.l s.k) (gi s.most<|gi s.l s.k)):=λh=>by
    exact aNa
   exact aOu
  ·refine AH (λc3=>?_) (λc3=>?_)
   ·have c1:s.k<s.m:=AX
    have hn:¬(s.levels.getD (gi s.l s.k).toNat 0=s.level-1/\s.level<=Ff s.B5 (gi s.l s.k) (gi s.most<|gi s.l s.k)):=λh=>by
     exact aP6
    exact aOu
   ·refine AH (λc4=>?_) (λc4=>?_)
    ·refine AH (λc5=>?_) (λc5=>?_)
     ·refine AH (λc6=>?_) (λc6=>?_)
      ·cases c6
      ·have c1:s.k<s.m:=AX
       have c2:=Qv hI c2
       have hp:s.levels.getD (gi s.l s.k).toNat 0=s.level-1/\s.level<=Ff s.B5 (gi s.l s.k) (gi s.most<|gi s.l s.k):=by
        exact nX
       have hE:=Wg hI c1 c2
       obtain ⟨m1,m2,_⟩:=Wc hI c1 c2;rcases eN _ hE with ⟨q1,q2⟩ |⟨q1,q2,q3⟩
       ·rw [q1] at c4
        cases c4
       ·rw [m1] at q3
        have q3:((DM s).getD (gi s.l s.k).toNat []).all (Kz s.BH s.sums<|G9 s.B5 s.BI (gi s.l s.k) s.level)=false:=q3
        exact sO s _ hI AX aQN rfl rfl rfl rfl rfl rfl rfl rfl rfl rfl
     ·exact aPa
    ·refine AH (λc5=>?_) (λc5=>?_)
     ·exact aPF
     ·refine AH (λc6=>?_) (λc6=>?_)
      ·have c1:s.k<s.m:=AX
       have c2:=Qv hI c2
       have hp:s.levels.getD (gi s.l s.k).toNat 0=s.level-1/\s.level<=Ff s.B5 (gi s.l s.k) (gi s.most<|gi s.l s.k):=by
        exact nX
       have hE:=Wg hI c1 c2
       obtain ⟨m1,m2,_⟩:=Wc hI c1 c2
       have hR:=ti hI c1 c2
       rcases eN _ hE with ⟨q1,q2⟩ |⟨q1,q2,q3⟩
       ·rw [m1] at q2
        have q2:((DM s).getD (gi s.l s.k).toNat []).all (Kz s.BH s.sums<|G9 s.B5 s.BI (gi s.l s.k) s.level)=true:=q2
        have r1:=aSE _ hR
        rw [m2] at r1
        have r1:(Oy<|TD s).sums=KE s.sums (G9 s.B5 s.BI (gi s.l s.k) s.level) ((DM s).getD (gi s.l s.k).toNat []):=r1
        have w1:=(jT hI c2).1
        exact sO s _ hI AX aQ6 rfl rfl rfl rfl rfl rfl rfl rfl rfl rfl
       ·rw [q1] at c4
        cases c4
      ·cases c6
 ·have c1:s.m<=s.k:=AX
  have h0:=hI.1
  exact VL
def Rt:AR DD:=⟨0,129,[2,3,4,12,14,15,16,66,67,68],[],λs=>[.xl A7 s.most,.xl A7 s.order,.own 0 0,s.n,.own 1 0,s.level,s.some,.xl A7 s.l,s.m,s.k],λs=>[⟨[s.BE,s.Bg,s.C9,s.BP,s.CA],28,.cl,X⟩,⟨[s.Hk,s.Hj,s.Ef,s.B5,s.Hl,.xl Eg s.BH,.xl A7 s.CP,.xl A7 s.CO,.xl A7 s.CN,.xl A7 s.CM,.xl A7 s.CL,.xl A7 s.CK,.xl A7 s.CJ,.xl A7 s.CI,.xl A7 s.CR,.xl A7 s.CQ,.xl A7 s.CG,.xl A7 s.CF,.xl A7 s.CE,.xl A7 s.CD,.xl A7 s.CC,.xl A7 s.CB,.os 2 1 0<|M s.sums,.xl A7 s.BI,.os 3 1 0<|M s.levels],318,.cl,X⟩,bV 3 A7 s.sums,bV 3 A7 s.levels],λv b=>⟨B1 A7 v 0,B1 A7 v 1,AL v 3,AL v 5,EB v 6,B1 A7 v 7,AL v 8,AL v 9,AF Ae b 0 0,AF .str b 0 1,AF Ak b 0 2,AF Af b 0 3,AF Al b 0 4,AF Ae b 1 0,AF .str b 1 1,AF Ak b 1 2,AF Af b 1 3,AF Al b 1 4,AF Eg b 1 5,AF A7 b 1 6,AF A7 b 1 7,AF A7 b 1 8,AF A7 b 1 9,AF A7 b 1 10,AF A7 b 1 11,AF A7 b 1 12,AF A7 b 1 13,AF A7 b 1 14,AF A7 b 1 15,AF A7 b 1 16,AF A7 b 1 17,AF A7 b 1 18,AF A7 b 1 19,AF A7 b 1 20,AF A7 b 1 21,AF A7 b 1 23,Ab A7 b 2,Ab A7 b 3⟩,UI,λs r=> {s with some:=r.some,k:=r.k,sums:=r.sums,levels:=r.levels},λs=>s,λ_ s=>s,[.exit 2],UY,IB,Ti⟩
abbrev I6:=Rt.run
abbrev avm:=Rt.At
def az3:Rq IB UI:=by
 intro s hI;refine ⟨λc1=>⟨?_,?_,?_,λc2=>⟨A9,A9,ak⟩,λc2=>⟨?_,?_,?_,λc3=>⟨A9,A9,ak⟩,λc3=>⟨?_,?_,?_,?_,?_,?_,?_,?_,A9,A9,?_,λc4=>⟨λc5=>⟨λc6=>⟨A9,A9,ak⟩,λc6=>⟨A9,A9,ak⟩⟩,λc5=>⟨?_,A9,A9,?_,?_,?_,λc7=>⟨A9,?_,ak⟩,λc7=>⟨A9,?_,ak⟩⟩⟩,λc4=>⟨λc8=>⟨λc9=>⟨A9,A9,ak⟩,λc9=>⟨A9,A9,ak⟩⟩,λc8=>⟨?_,A9,A9,?_,?_,?_,λc10=>⟨A9,?_,ak⟩,λc10=>⟨A9,?_,ak⟩⟩⟩⟩⟩⟩,λc1=>⟨A9,A9,ak⟩⟩
 ·(have:=hI.1;have:=hI.2.1.1;simp only [Ac] at c1;omega)
 iterate 9 · (have hx:=Qz s hI AX;omega)
 ·exact aNr
 ·exact nt
 ·exact aNr
 ·exact nt
 ·exact ⟨Wg hI AX<|Qv hI c2,rfl,rfl⟩
 ·exact nt
 ·exact aPS
 iterate 2 · (have hx:=Qz s hI AX;omega)
 iterate 2 · exact ⟨rfl,AJ⟩
 ·exact nt
 ·exact aPS
 iterate 2 · (have hx:=Qz s hI A8;omega)
 iterate 2 · exact ⟨rfl,AJ⟩
def aCp:aN:=[XA,XO,XN,XP]
def aoB:Ax:=kI aCp<|la 8 func206 ux<|la 2 func202 gG<|la 3 func204 fT<|la 2 func202 Wn<|l0 aCp
def w9:Rt.Ok:={}
def ug:Rt.Pf (lB):=⟨am0,λs h=>rfl,azE,az3⟩
def aso:SA 0 aIg Rt:=s1 w9 ug aCp aoB
def ato:Fi UY IB lB avm I6:=AR.fin w9 ug
def aqc (s:DD) (hE:UY s):(λs:DD=>swp (DM s) s.BH s.B5 s.BI s.most s.level (s.sums,s.levels,s.some)<|s.l.drop s.k.toNat) (I6 s)=(λs:DD=>swp (DM s) s.BH s.B5 s.BI s.most s.level (s.sums,s.levels,s.some)<|s.l.drop s.k.toNat) s:=by
 exact AR.Kv w9 ug (λs:DD=>swp (DM s) s.BH s.B5 s.BI s.most s.level (s.sums,s.levels,s.some)<|s.l.drop s.k.toNat) (λs hI=>by
  show DF _ _ ((UI s).rd s)
  unfold UI;dsimp only [T.rd,T.rl];refine AH (λc1=>?_) λc1=>?_
  ·refine AH (λc2=>?_) (λc2=>?_)
   ·have c1:s.k<s.m:=AX
    have hn:¬(s.levels.getD (gi s.l s.k).toNat 0=s.level-1/\s.level<=Ff s.B5 (gi s.l s.k) (gi s.most<|gi s.l s.k)):=λh=>by
     exact aNa
    exact aOv
   ·refine AH (λc3=>?_) (λc3=>?_)
    ·have c1:s.k<s.m:=AX
     have hn:¬(s.levels.getD (gi s.l s.k).toNat 0=s.level-1/\s.level<=Ff s.B5 (gi s.l s.k) (gi s.most<|gi s.l s.k)):=λh=>by
      exact aP6
     exact aOv
    ·refine AH (λc4=>?_) (λc4=>?_)
     ·refine AH (λc5=>?_) (λc5=>?_)
      ·refine AH (λc6=>?_) (λc6=>?_)
       ·cases c6
       ·have c1:s.k<s.m:=AX
        have c2:=Qv hI c2
        have hp:s.levels.getD (gi s.l s.k).toNat 0=s.level-1/\s.level<=Ff s.B5 (gi s.l s.k) (gi s.most<|gi s.l s.k):=by
         exact nX
        have hE:=Wg hI c1 c2
        obtain ⟨m1,m2,_⟩:=Wc hI c1 c2;rcases eN _ hE with ⟨q1,q2⟩ |⟨q1,q2,q3⟩
        ·rw [q1] at c4
         cases c4
        ·rw [m1] at q3
         have q3:((DM s).getD (gi s.l s.k).toNat []).all (Kz s.BH s.sums<|G9 s.B5 s.BI (gi s.l s.k) s.level)=false:=q3
         exact sM s _ hI AX aQN rfl rfl rfl rfl rfl rfl rfl rfl rfl rfl
      ·exact aPa
     ·refine AH (λc5=>?_) (λc5=>?_)
      ·exact aPF
      ·refine AH (λc6=>?_) (λc6=>?_)
       ·have c1:s.k<s.m:=AX
        have c2:=Qv hI c2
        have hp:s.levels.getD (gi s.l s.k).toNat 0=s.level-1/\s.level<=Ff s.B5 (gi s.l s.k) (gi s.most<|gi s.l s.k):=by
         exact nX
        have hE:=Wg hI c1 c2
        obtain ⟨m1,m2,_⟩:=Wc hI c1 c2
        have hR:=ti hI c1 c2
        rcases eN _ hE with ⟨q1,q2⟩ |⟨q1,q2,q3⟩
        ·rw [m1] at q2
         have q2:((DM s).getD (gi s.l s.k).toNat []).all (Kz s.BH s.sums<|G9 s.B5 s.BI (gi s.l s.k) s.level)=true:=q2
         have r1:=aSE _ hR
         rw [m2] at r1
         have r1:(Oy<|TD s).sums=KE s.sums (G9 s.B5 s.BI (gi s.l s.k) s.level) ((DM s).getD (gi s.l s.k).toNat []):=r1
         have w1:=(jT hI c2).1
         exact sM s _ hI AX aQ6 rfl rfl rfl rfl rfl rfl rfl rfl rfl rfl
        ·rw [q1] at c4
         cases c4
       ·cases c6
  ·rfl) s hE
def atm (s:DD) (hE:UY s):((I6 s).sums,(I6 s).levels,(I6 s).some)=swp (DM s) s.BH s.B5 s.BI s.most s.level (s.sums,s.levels,s.some) s.l:=by
 have q3:=aqc s hE
 obtain ⟨s',hI,q1,q2⟩:=ato s hE;obtain ⟨h0,h1,_⟩:=hE;simp only at q3;rw [q2,show (I6 s).m=s.m from rfl,show (I6 s).l=s.l from rfl,FA A0,h0] at q3;exact q3
structure JO where
 (most order:aB)
 (n level:Y)
 BE:aJ
 Bg:aE
 C9:aP
 BP:aF
 CA:aQ
 Hk:aJ
 Hj:aE
 Ef:aP
 B5:aF
 Hl:aQ
 BH:aY
 (CP CO CN CM CL CK CJ CI CR CQ CG CF CE CD CC CB BI sums levels:aB)
def tL:=bN f166 0
def La (s:JO):DD:=(⟨s.most,s.order,s.n,s.level,X,s.order,(M s.order:Y),0,s.BE,s.Bg,s.C9,s.BP,s.CA,s.Hk,s.Hj,s.Ef,s.B5,s.Hl,s.BH,s.CP,s.CO,s.CN,s.CM,s.CL,s.CK,s.CJ,s.CI,s.CR,s.CQ,s.CG,s.CF,s.CE,s.CD,s.CC,s.CB,s.BI,s.sums,s.levels⟩:DD)
def aBJ (s:JO):T (Rd JO):=letI a:=I6<|La s;.rl s.sums<|.rl s.levels<|.req (Rt.q<|La s)<|.br (! a.some) (.rl a.sums<|.rl a.levels<|.so (.exit 0) {s with sums:=a.sums,levels:=a.levels})<|.rl a.sums<|.rl a.levels<|.nx {s with level:=AA<|s.level+1,sums:=a.sums,levels:=a.levels}
def Ks (s:JO):aI:=[s.CP,s.CO,s.CN,s.CM,s.CL,s.CK,s.CJ,s.CI,s.CR,s.CQ,s.CG,s.CF,s.CE,s.CD,s.CC,s.CB]
def mX (s:JO):Prop:=s.level=1/\(M s.order:Y)<=1000/\s.B5=s.BP/\OkT (Ks s) s.BH s.B5 s.BI s.most s.order/\OkS s.BH s.order s.sums s.levels
def UU (s:JO):Prop:=(1<=s.level/\s.level<=81)/\(M s.order:Y)<=1000/\s.B5=s.BP/\OkT (Ks s) s.BH s.B5 s.BI s.most s.order/\OkS s.BH s.order s.sums s.levels
def vr (s:JO):aC:=(82-s.level).toNat
def ab1 (x:Ex) (s s':JO):Prop:=x=.exit 0
def alz:∀s,mX s->UU s:=by
 exact nq
def aRc (s:JO) (hI:UU s):UY (La s):=by
 obtain ⟨⟨h0,h1⟩,h2,h3,hT,hS⟩:=hI;exact ⟨rfl,⟨rfl,h2,h0,h1⟩,h3,hT,hS⟩
def aWq (s:JO) (hI:UU s):((I6<|La s).sums,(I6<|La s).levels,(I6<|La s).some)=swp (Ks s) s.BH s.B5 s.BI s.most s.level (s.sums,s.levels,X) s.order:=atm _<|aRc s hI
def azD:Da UU vr ab1 aBJ:=by
 intro s hI
 have hr:=aWq s hI
 obtain ⟨⟨h0,h1⟩,h2,h3,hT,hS⟩:=hI;refine AH (λc1=>rfl) λc1=>?_
 have c1:(I6<|La s).some=true:=A8
 have hk:=uv hT h0 h1 s.order (s.sums,s.levels,X) (λ_ h=>h) hS
 have hs:=rh (O:=Ks s) (rows:=s.BH) (gs:=s.B5) (alive:=s.BI) (most:=s.most) (level:=s.level) s.order (s.sums,s.levels,X)
 rw [<-hr] at hk hs
 have h80:s.level<=80:=by
  rcases hs c1 with h|h
  ·cases h
  ·exact h
 rw [AI (x:=s.level+1)];exact ⟨⟨⟨A8,A8⟩,h2,h3,hT,hk⟩,by simp only [vr];omega⟩
def Pd:AR JO:=⟨0,129,[2,3,4,12,14,15],[.ps 14 6 A7,.ps 14 7 A7,.ps 14 8 A7,.ps 14 9 A7,.ps 14 10 A7,.ps 14 11 A7,.ps 14 12 A7,.ps 14 13 A7,.ps 14 14 A7,.ps 14 15 A7,.ps 14 16 A7,.ps 14 17 A7,.ps 14 18 A7,.ps 14 19 A7,.ps 14 20 A7,.ps 14 21 A7],λs=>[.xl A7 s.most,.xl A7 s.order,.own 0 0,s.n,.own 1 0,s.level],λs=>[⟨[s.BE,s.Bg,s.C9,s.BP,s.CA],28,.cl,X⟩,⟨[s.Hk,s.Hj,s.Ef,s.B5,s.Hl,.xl Eg s.BH,.xl A7 s.CP,.xl A7 s.CO,.xl A7 s.CN,.xl A7 s.CM,.xl A7 s.CL,.xl A7 s.CK,.xl A7 s.CJ,.xl A7 s.CI,.xl A7 s.CR,.xl A7 s.CQ,.xl A7 s.CG,.xl A7 s.CF,.xl A7 s.CE,.xl A7 s.CD,.xl A7 s.CC,.xl A7 s.CB,.os 2 1 0<|M s.sums,.xl A7 s.BI,.os 3 1 0<|M s.levels],318,.cl,X⟩,bV 3 A7 s.sums,bV 3 A7 s.levels],λv b=>⟨B1 A7 v 0,B1 A7 v 1,AL v 3,AL v 5,AF Ae b 0 0,AF .str b 0 1,AF Ak b 0 2,AF Af b 0 3,AF Al b 0 4,AF Ae b 1 0,AF .str b 1 1,AF Ak b 1 2,AF Af b 1 3,AF Al b 1 4,AF Eg b 1 5,AF A7 b 1 6,AF A7 b 1 7,AF A7 b 1 8,AF A7 b 1 9,AF A7 b 1 10,AF A7 b 1 11,AF A7 b 1 12,AF A7 b 1 13,AF A7 b 1 14,AF A7 b 1 15,AF A7 b 1 16,AF A7 b 1 17,AF A7 b 1 18,AF A7 b 1 19,AF A7 b 1 20,AF A7 b 1 21,AF A7 b 1 23,Ab A7 b 2,Ab A7 b 3⟩,aBJ,λs r=> {s with level:=r.level,sums:=r.sums,levels:=r.levels},λs=>s,λ_ s=>s,[.exit 0],mX,UU,vr⟩
abbrev J7:=Pd.run
def az2:Rq UU aBJ:=by
 intro s hI;refine ⟨A9,A9,?_,λc1=>⟨A9,A9,ak⟩,λc1=>⟨A9,A9,ak⟩⟩
 ·exact ⟨aRc s hI,rfl,rfl⟩
def Xv:aN:=[XA,XO,XN,XP]
def aCu:Ax:=kI Xv<|la 8 func206 ux<|la 2 func202 gG<|la 3 func204 fT<|la 2 func202 Wn<|l0 Xv
def aTi:Pd.Ok:={}
def aS2:Pd.Pf (ab1):=⟨alz,λs h=>rfl,azD,az2⟩
def asn:SA 0 tL Pd:=AR.snd aTi aS2 (qo (Γ:=Xv) (K:=aCu) (L:=(λi=>if i=13 then Rt.lp else Ao i)) (gk Xv) aCu.h tL (λb hb=>by
 rw [show BC _=[aIg] by kernel_rfl] at hb
 simp only [B6,Bv,Bt] at hb;subst hb;exact aso)) λs=>AV
def atj (s:JO) (hE:mX s):(J7 s).levels=shl (Ks s) s.BH s.B5 s.BI s.most s.order 81 1 s.sums s.levels:=by
 have hk:=AR.yV aTi aS2 (V:=λs:JO=>shl (Ks s) s.BH s.B5 s.BI s.most s.order (82-s.level).toNat s.level s.sums s.levels) (K:=λ_ s' v=>s'.levels=v) (λs hI=>by
  have hr:=aWq s hI
  have hs:=rh (O:=Ks s) (rows:=s.BH) (gs:=s.B5) (alive:=s.BI) (most:=s.most) (level:=s.level) s.order (s.sums,s.levels,X)
  obtain ⟨⟨h0,h1⟩,h2,h3,hT,hS⟩:=hI;rw [<-hr] at hs
  have hf:(82-s.level).toNat=(81-s.level).toNat+1:=A0
  refine AH (λc1=>?_) λc1=>?_
  ·have c1:(I6<|La s).some=false:=A8
   show (I6<|La s).levels=shl _ _ _ _ _ _ _ _ _ _
   rw [hf,shl,<-hr,AE A8]
  ·have c1:(I6<|La s).some=true:=A8
   have h80:s.level<=80:=by
    rcases hs c1 with h|h
    ·cases h
    ·exact h
   rw [AI (x:=s.level+1)]
   show shl (Ks s) s.BH s.B5 s.BI s.most s.order (82-(s.level+1)).toNat (s.level+1) (I6<|La s).sums (I6<|La s).levels=shl (Ks s) s.BH s.B5 s.BI s.most s.order (82-s.level).toNat s.level s.sums s.levels
   rw [hf,show 82-(s.level+1)=81-s.level by omega]
   conv=>rhs;rw [shl,<-hr]
   simp only [c1,Bu]) s hE
 rw [hk,hE.1];rfl
structure PT where
 l:aF
 (m k:Y)
 Hk:aJ
 Hj:aE
 Ef:aP
 B5:aF
 Hl:aQ
 BH:aY
 (CP CO CN CM CL CK CJ CI CR CQ CG CF CE CD CC CB BI out sums levels:aB)
def aIf:=bN f166 1
def aBI (s:PT):T (Rd PT):=letI a:=s.levels.getD s.k.toNat<|Ty.dflt A7;letI c:=AG s.l s.k;letI b:=s.out.set s.k.toNat<|EA c.2.2.2.1 c.2.2.2.2.2.1 a;.br (an<|s.k<s.m) (.ix s.k (M s.l)<|.ik s.k (M s.levels)<|.req ((1<=c.2.2.2.1/\c.2.2.2.1<=80/\1<=c.2.2.2.2.2.1/\c.2.2.2.2.2.1<=80)/\0<=a/\a<=1000)<|.ik s.k (M s.out)<|.re (M s.out) b<|.rl s.sums<|.rl s.levels<|.nx {s with k:=AA<|s.k+1,out:=b})<|.rl s.out<|.rl s.sums<|.rl s.levels<|.so (.exit 4) s
def mW (s:PT):Prop:=s.k=0/\s.out=aq (M s.l) 0/\(s.m=(M s.l:Y)/\s.m<=1000/\M s.levels=M s.l)/\(∀k:Y,0<=k->k<s.m->Dv (AG s.l k).2.2.2.1 (AG s.l k).2.2.2.2.1 (AG s.l k).2.2.2.2.2.1=U)/\(∀k:aC,0<=s.levels.getD k 0/\s.levels.getD k 0<=80)
def YL (s:PT):Prop:=(0<=s.k/\s.k<=s.m)/\s.out=Se s.l s.levels s.k.toNat++aq (M s.l-s.k.toNat) 0/\(s.m=(M s.l:Y)/\s.m<=1000/\M s.levels=M s.l)/\(∀k:Y,0<=k->k<s.m->Dv (AG s.l k).2.2.2.1 (AG s.l k).2.2.2.2.1 (AG s.l k).2.2.2.2.2.1=U)/\(∀k:aC,0<=s.levels.getD k 0/\s.levels.getD k 0<=80)
def vq (s:PT):aC:=(s.m-s.k).toNat
def aDG (x:Ex) (s s':PT):Prop:=x=.exit 4/\s'.out=FZ s'.l s'.levels
def aly:∀s,mW s->YL s:=by
 exact zn
def azC:Da YL vq aDG aBI:=by
 intro s hI;obtain ⟨⟨h0,h1⟩,h2,⟨h3,h4,h5⟩,h6,h7⟩:=hI;refine AH (λc1=>?_) λc1=>?_
 ·have c1:s.k<s.m:=A8
  rw [AI (x:=s.k+1)];refine ⟨⟨⟨A8,A8⟩,?_,⟨h3,h4,h5⟩,h6,h7⟩,by simp only [vq];omega⟩
  have e:M s.l-s.k.toNat=(M s.l-(s.k+1).toNat)+1:=A0
  have hs:=aJh (xs:=Se s.l s.levels s.k.toNat) (r:=M s.l-(s.k+1).toNat) (v:=D9 s.l s.k<|s.levels.getD s.k.toNat 0)
  rw [ad7] at hs;rw [h2,e,show (s.k+1).toNat=s.k.toNat+1 by omega,aqQ,Bs h0]
  rw [show (s.k+1).toNat=s.k.toNat+1 by omega] at hs
  exact hs
 ·have c1:s.m<=s.k:=A8
  refine ⟨rfl,?_⟩;rw [h2,show s.k.toNat=M s.l by omega,ni,List.replicate_zero,Gm]
  rfl
def O9:AR PT:=⟨0,129,[14,19,108,109,110],[],λs=>[.own 0 0,.os 1 1 0<|M s.out,s.l,s.m,s.k],λs=>[⟨[s.Hk,s.Hj,s.Ef,s.B5,s.Hl,.xl Eg s.BH,.xl A7 s.CP,.xl A7 s.CO,.xl A7 s.CN,.xl A7 s.CM,.xl A7 s.CL,.xl A7 s.CK,.xl A7 s.CJ,.xl A7 s.CI,.xl A7 s.CR,.xl A7 s.CQ,.xl A7 s.CG,.xl A7 s.CF,.xl A7 s.CE,.xl A7 s.CD,.xl A7 s.CC,.xl A7 s.CB,.os 2 1 0<|M s.sums,.xl A7 s.BI,.os 3 1 0<|M s.levels],318,.cl,X⟩,bV 3 A7 s.out,bV 3 A7 s.sums,bV 3 A7 s.levels],λv b=>⟨B1 Af v 2,AL v 3,AL v 4,AF Ae b 0 0,AF .str b 0 1,AF Ak b 0 2,AF Af b 0 3,AF Al b 0 4,AF Eg b 0 5,AF A7 b 0 6,AF A7 b 0 7,AF A7 b 0 8,AF A7 b 0 9,AF A7 b 0 10,AF A7 b 0 11,AF A7 b 0 12,AF A7 b 0 13,AF A7 b 0 14,AF A7 b 0 15,AF A7 b 0 16,AF A7 b 0 17,AF A7 b 0 18,AF A7 b 0 19,AF A7 b 0 20,AF A7 b 0 21,AF A7 b 0 23,Ab A7 b 1,Ab A7 b 2,Ab A7 b 3⟩,aBI,λs r=> {s with k:=r.k,out:=r.out},λs=>s,λ_ s=>s,[.exit 4],mW,YL,vq⟩
abbrev Qd:=O9.run
abbrev avl:=O9.At
def az1:Rq YL aBI:=by
 intro s hI;refine ⟨λc1=>⟨?_,?_,?_,?_,?_,?_,?_,A9,A9,ak⟩,λc1=>⟨A9,A9,A9,ak⟩⟩
 iterate 3 · (obtain ⟨⟨h0,h1⟩,h2,⟨h3,h4,h5⟩,h6,h7⟩:=hI;(try simp only [Ac] at c1);have hl:M s.out=M s.l:=aQg;first|omega|exact ⟨rfl,AJ⟩ |exact ⟨rfl,rfl⟩)
 ·(have hh:=Ig.1<|hI.2.2.2.1 s.k hI.1.1 A8;have hb:=hI.2.2.2.2 s.k.toNat;refine ⟨A0,?_⟩;show 0<=s.levels.getD s.k.toNat 0/\s.levels.getD s.k.toNat 0<=1000;omega)
 iterate 3 · (obtain ⟨⟨h0,h1⟩,h2,⟨h3,h4,h5⟩,h6,h7⟩:=hI;(try simp only [Ac] at c1);have hl:M s.out=M s.l:=aQg;first|omega|exact ⟨rfl,AJ⟩ |exact ⟨rfl,rfl⟩)
def aTh:O9.Ok:={}
def aS1:O9.Pf (aDG):=⟨aly,λs h=>rfl,azC,az1⟩
def asl:SA 0 aIf O9:=s1 aTh aS1 Xv aCu
def ati:Fi mW YL aDG avl Qd:=AR.fin aTh aS1
def aM1:aD->T LV
 | .agg a::r=>s5 a λcs os ks gs bs=>(match r with
  | [.xl (.int J) al,.xl (.int J) mo,.xl (.int J) od]=> .ok (.AQ [.xl A7<|Fe cs os ks gs bs al mo od,shE cs os ks gs bs al mo od])
  |_=> .no)
 |_=> .no
def NK (cs:aJ) (os:aE) (ks:aP) (gs:aF) (bs:aQ) (al mo od:aB):EL:=letI a:=Jy cs os ks gs bs;(⟨al,a,(M a:Y),0,cs,os,ks,gs,bs,cs,os,ks,gs,bs,a,al,([]:aB),([]:aB),([]:aB),([]:aB),([]:aB),([]:aB),([]:aB),([]:aB),([]:aB),([]:aB),([]:aB),([]:aB),([]:aB),([]:aB),([]:aB),([]:aB),aq (M a:Y).toNat (0:Y),aq (M al:Y).toNat (0:Y)⟩:EL)
def LZ (cs:aJ) (os:aE) (ks:aP) (gs:aF) (bs:aQ) (al mo od:aB):JO:=letI a:=J4<|NK cs os ks gs bs al mo od;(⟨mo,od,(M gs:Y),1,cs,os,ks,gs,bs,cs,os,ks,gs,bs,Jy cs os ks gs bs,(a.CP.drop 0).take<|M a.CP,(a.CO.drop 0).take<|M a.CO,(a.CN.drop 0).take<|M a.CN,(a.CM.drop 0).take<|M a.CM,(a.CL.drop 0).take<|M a.CL,(a.CK.drop 0).take<|M a.CK,(a.CJ.drop 0).take<|M a.CJ,(a.CI.drop 0).take<|M a.CI,(a.CR.drop 0).take<|M a.CR,(a.CQ.drop 0).take<|M a.CQ,(a.CG.drop 0).take<|M a.CG,(a.CF.drop 0).take<|M a.CF,(a.CE.drop 0).take<|M a.CE,(a.CD.drop 0).take<|M a.CD,(a.CC.drop 0).take<|M a.CC,(a.CB.drop 0).take<|M a.CB,al,a.sums,aq (M al:Y).toNat (0:Y)⟩:JO)
end Go.Proofs.YtpdndmobphnjcaaGreatDoor
end
