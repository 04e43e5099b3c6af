/- Helpers for TopTornStore. Conditions: none. -/
import Derived.Test.YtcdkianomnhhmaaGreatDoorQy2
set_option linter.defProp false
set_option linter.unusedVariables false
set_option linter.unusedSimpArgs false
noncomputable section
open List renaming length→M,length→aa,replicate→aq,range→au
open Bool renaming true→U,true→ae,false→X,false→af
open Go.Value renaming int→ag
open Option renaming some→ah,none→aj
open Go.IntKind renaming i64→J,i64→ai,u8→aw,u32→ax
open True renaming intro→ak
open Decidable renaming decide→an
open ByteArray renaming mk→av
open Go.Region renaming ready→ay,wanted→az
open Go.Instr renaming findNow→aA
namespace Go.Proofs.YtcdkianomnhhmaaGreatDoor
set_option maxRecDepth 100000
set_option maxHeartbeats 4000000
open Go.Proofs.Tryz
open Go.Sx
def alR {gs:aG}{p k:Y}{l:aB}:k∈BY gs p l↔k∈l/\usA (AF gs k).2.2.1 p=true:=by simp [BY,CG]
def azw {cs:aJ}{gs:aG}{c p:Y}{r:Rw}(h:r∈rowP cs gs c p):r=(CY<|AY cs c,BY gs p<|CE cs gs c<|M gs)/\M (BY gs p<|CE cs gs c<|M gs)>0:=by
 unfold rowP at h;exact dU
def wW {cs:aJ}{gs:aG}{r:Rw}:∀ {k:aC},r∈CK cs gs k->∃c p:Y,(0<=c/\c<(k:Y))/\(p=0\/p=1\/p=2)/\r=(CY<|AY cs c,BY gs p<|CE cs gs c<|M gs)/\M r.2>0
 |0,h=>Ai
 | k+1,h=>by
  rw [CK,BC] at h;rcases h with h|h
  ·obtain ⟨c,p,h1,h2,h3⟩:=wW h
   grind
  ·unfold VA at h
   rw [BC,BC] at h;rcases h with (h|h) |h
   ·exact sQ
   ·exact sQ
   ·exact sQ
def row_mem {cs:aJ}{gs:aG}{r:Rw}{k:aC}(h:r∈CK cs gs k):r.2.Nodup/\(∀m∈r.2,0<=m/\m<(M gs:Y))/\M r.2<=M gs/\M r.2>0:=by
 obtain ⟨c,p,h1,h2,h3,h4⟩:=wW h;subst h3;refine ⟨aec _ afX,λm hm=>Wq (alR.1 hm).1,Fy aBB gL,h4⟩
def Dx (gs:aG) (lv:aB):aB:=(au<|M gs).map λk:aC=>CQ gs (k:Y)<|lv.getD k 0
def OL (rows:aX):aI:=Fg (aq 16 []) 0 rows
def SM (alive:aB) (rows:aX):aB:=Ff alive (aq (M rows) 0) 0 rows
def EN (cs:aJ) (os:aF) (ks:aP) (gs:aG) (bs:aQ) (al mo od:aB):aM:=Av cs os ks gs bs&&(an (M al=M gs)&&(an (M mo=M gs)&&(al.all GF&&(mo.all GF&&FE od (M gs)))))
def shV (rows:aX) (gs:aG) (al mo od:aB):aB:=shl (OL rows) rows gs al mo od 81 1 (SM al rows)<|aq (M al) 0
def KX (cs:aJ) (os:aF) (ks:aP) (gs:aG) (bs:aQ) (al mo od:aB):Y:=if EN cs os ks gs bs al mo od=U then 0 else 1
def E5 (cs:aJ) (os:aF) (ks:aP) (gs:aG) (bs:aQ) (al mo od:aB):aB:=if EN cs os ks gs bs al mo od=U then Dx gs (shV (CK cs gs<|M cs) gs al mo od) else []
def J1 {cs:aJ}{os:aF}{ks:aP}{gs:aG}{bs:aQ}{al mo od:aB}:EN cs os ks gs bs al mo od=U↔Av cs os ks gs bs=U/\M al=M gs/\M mo=M gs/\al.all GF=U/\mo.all GF=U/\FE od (M gs)=true:=by
 simp [EN]
def aEd:∀ {l:aB}{f:Y},HL f l<=f
 | [],f=>CN _
 |n::l,f=>by
  have:HL f (n::l)=HL (if n<f then n else f) l:=rfl
  have:=aEd (l:=l) (f:=if n<f then n else f)
  split at this<;>rename_i h
  ·grind
  ·grind
def al3 {c:Cd}:CY c<=c.2.2.1:=by
 unfold CY;split<;>exact aEd
def af2 {rows:aX}:M (OL rows)=16:=by rw [OL,aem,Bc]
def mg {rows:aX}(h:∀r∈rows,pN r) {k:aC}(hk:k<16):(OL rows).getD k []=Hw 0 rows k:=by
 rw [OL,zF h A8]
 have:(aq 16 ([]:aB)).getD k []=[]:=by
  grind
 grind
def aiW {cs:aJ}{gs:aG}{k:aC}:∀r∈CK cs gs k,pN r:=λr hr=>⟨(row_mem hr).1,λm hm=>((row_mem hr).2.1 m hm).1⟩
def wN {al:aB}{rows:aX}:M (SM al rows)=M rows:=by rw [SM,aef,Bc]
def aFl {al:aB}{rows:aX}{k:aC}(hk:k<M rows):(SM al rows).getD k 0=smA al (CA rows k).2:=by
 rw [SM,zD (CN _) A8,AB A0,M4]
 grind
def wE {od:aB}{n i:Y}(h:FE od n=U) (hi:i∈od):0<=i/\i<n:=by
 unfold FE at h;simp only [AP,B9] at h;exact gF.1<|h.2.1 i hi
def awJ {cs:aJ}{os:aF}{ks:aP}{gs:aG}{bs:aQ}{al mo od:aB}(h:EN cs os ks gs bs al mo od=U):letI b:=CK cs gs<|M cs;OkT (OL b) b gs al mo od/\OkS b od (SM al b) (aq (M al) 0):=by
 obtain ⟨hv,h1,h2,h3,h4,h5⟩:=J1.1 h
 have hl:=(Ci.1 hv).1
 have ha:∀a∈al,0<=a/\a<=80:=λa ha=>NV.1<|B9.1 h3 a ha
 refine ⟨⟨af2,λi hi=>?_,ha,λa ha=>NV.1<|B9.1 h4 a ha,λi hi=>?_,λo ho=>?_,λr hr=>?_⟩,⟨wN,λk=>?_,λi hi=>?_,λk=>?_⟩⟩
 ·have:=wE h5 hi
  omega
 ·have hi:=wE h5 hi
  have:=Kp hv hi.1 hi.2
  exact aIm
 ·obtain ⟨k,hk,rfl⟩:=G4.1 ho
  rw [af2] at hk
  have e:=mg (rows:=CK cs gs<|M cs) aiW hk
  rw [CH,Cv A8,cy] at e;rw [e]
  have hln:=aAM (rs:=CK cs gs<|M cs) (i:=0) (j:=k)
  have hrn:=gE (cs:=cs) (gs:=gs) (k:=M cs)
  refine ⟨fk,A0,λr hr=>?_⟩
  have:=P2.1 hr
  omega
 ·obtain ⟨c,p,hc,hp,rfl,_⟩:=wW hr
  have hcv:=wh hv hc.1 hc.2
  unfold GK at hcv;simp only [AP,B6] at hcv
  have:=al3 (c:=AY cs c)
  simp only;omega
 ·by_cases hk:k<M (CK cs gs<|M cs)
  ·rw [aFl hk]
   have hr:CA (CK cs gs<|M cs) (k:Y)∈CK cs gs (M cs):=by rw [gO tI];exact Ee _
   obtain ⟨m1,m2,m3,_⟩:=row_mem hr
   have:=aCA ha (l:=(CA (CK cs gs<|M cs) (k:Y)).2) λm hm=>A8
   omega
  ·rw [CH,OF (by rw [wN];omega)]
   simp
 ·have:=wE h5 hi
  rw [Bc];omega
 ·have:(aq (M al) (0:Y)).getD k 0=0:=by
   simp only [List.getD,Qm];split<;>rfl
  omega
def zW {xs:aB}{r:aC}{v:Y}:(xs++aq (r+1) 0).set (M xs) v=xs++[v]++aq r 0:=by
 grind
def O4 (gs:aG) (lv:aB) (n:aC):aB:=(au n).map λk:aC=>CQ gs (k:Y)<|lv.getD k 0
def ag4 {gs:aG}{lv:aB}{n:aC}:O4 gs lv (n+1)=O4 gs lv n++[CQ gs (n:Y)<|lv.getD n 0]:=by
 simp [O4,OR]
def aeT {gs:aG}{lv:aB}{n:aC}:M (O4 gs lv n)=n:=by simp [O4]
def ntW {b:aM}(h:(!b)=U):b=false:=A8
def nfW {b:aM}(h:(!b)=X):b=true:=A8
def wt (n:Y):Y:=(n*1000000+999799) / 999800
def wtA (n:Y):Y:=if inB n 0 1000000=U then wt n else 0
def wtE (n:Y):Y:=if inB n 0 1000000=U then 0 else 1
def aBr {m n:Y}:m*999800 / 1000000>=n↔wt n<=m:=by
 unfold wt;omega
def azt {a b:Y}(a0:0<=a) (a1:a<=3000000) (b0:0<=b) (b1:b<=1000000):0<=a*b/\a*b<=3000000000000:=
 ⟨Gl a0 b0,FV (NG b1 a0) A0⟩
def aao {n:Y}(h0:0<=n):0<=wt n/\wt n<=2*n+2:=by
 unfold wt;omega
abbrev AK:Ty:=.pair A7<|.pair A7<|.pair A7<|.pair A7 A7
abbrev Le:=Int×Int×Int×Int×Int
def aL:qT (List Le):=⟨⟩
instance:Coe (List Le) LV:=⟨.xl AK⟩
def AU (l:aL) (n:Y):Le:=l.getD n.toNat (0,0,0,0,0)
def Ce (x:Le):aM:=inB x.1 1 1000000&&(inB x.2.1 0 15&&(inB x.2.2.1 0 80&&(inB x.2.2.2.1 0 1000000&&inB x.2.2.2.2 1 1000)))
def Hq (b x:Le):aM:=an (x.1>b.1)&&an (x.2.2.2.1>=b.2.2.2.1)
def FK (l:aL) (j:Y):aM:=Ce (AU l j)&&(an (j=0) ||Hq (AU l<|j-1) (AU l j))
def Ao (l:aL):aM:=an (M l<=64)&&Ck (M l) (FK l)
def Jw {l:aL}{n:Y}(h:n.toNat<M l):AU l n=l[n.toNat]:=K4 h
def Rg {l:aL}{i:Y}(h0:0<=i) (h:i<M l):l.drop i.toNat=AU l i::l.drop (i+1).toNat/\l.take (i+1).toNat=l.take i.toNat++[AU l i]:=NY h0 h
def Hd {l:aL}{i:Y}(h0:0<=i) (h:i<M l):AU l i∈l:=by
 rw [Jw A0]
 grind
def IB {x:Le}:Ce x=U↔(1<=x.1/\x.1<=1000000)/\(0<=x.2.1/\x.2.1<=15)/\(0<=x.2.2.1/\x.2.2.1<=80)/\(0<=x.2.2.2.1/\x.2.2.2.1<=1000000)/\1<=x.2.2.2.2/\x.2.2.2.2<=1000:=by
 unfold Ce;simp only [AP,B6]
def Eh {l:aL}(h:Ao l=U):M l<=64/\∀x∈l,Ce x=true:=by
 unfold Ao at h;rw [AP] at h;refine ⟨CW h.1,λx hx=>?_⟩
 obtain ⟨k,hk,rfl⟩:=G4.1 hx
 have:=D3.1 h.2 k A0
 unfold FK at this;rw [AP,Jw A8] at this
 grind
def Cc (x:Le):Y:=x.2.2.2.1+10+wt x.2.2.2.2
def JK (t:Y) (x:Le):aM:=an<|Cc x>t
def Hp (l:aL) (t:Y):aM:=Ao l&&inB t 0 1100000
def BB (l:aL) (t:Y):aL:=if Hp l t=U then l.filter (JK t) else []
def Cb (l:aL) (t:Y):Y:=if Hp l t=U then 0 else 1
def E0 (l:aL) (x:Le):Y:=if (Ao l&&Ce x)=U then (if (an (M l>0)&&!Hq (AU l<|(M l:Y)-1) x)=U then 12 else if M l=64 then 10 else 0) else 1
def Dr (l:aL) (x:Le):aL:=if E0 l x=0 then l++[x] else []
end Go.Proofs.YtcdkianomnhhmaaGreatDoor
namespace Go.Sx
open Go.Proofs.YtcdkianomnhhmaaGreatDoor
variable {P : Program} {G : Globs} {Γ : Specs} {σ : Type}
structure CpD (σ:Type) where
 A:σ->List LV
 B:σ->List Blk
 g:aD->aE->σ
 E:σ->Prop
 mu:σ->Nat
 r:σ->σ
namespace CpD
variable (D : CpD σ)
def m (n:aC) (args:aD) (H:aE):T (LV×List Blk):=(fixL H args).bind λa=>(fixH H H).bind λb=>
 .req (D.E (D.g a b)/\D.mu (D.g a b)<n/\D.A (D.g a b)=a/\D.B (D.g a b)=b) (.ok (.v<|.tuple #[],D.B<|D.r<|D.g a b))
variable {D}
def Y1 {n:aC}{args:aD}{H:aE}{q:LV×List Blk}(h:(D.m n args H).all λz=>z=q):∃s,D.E s/\D.mu s<n/\D.A s=args/\D.B s=H/\q=(.v<|.tuple #[],D.B<|D.r s):=by
 unfold m at h;obtain ⟨a,h1,h2⟩:=T.bind_all h;obtain ⟨b,h3,h4⟩:=T.bind_all h2
 have e1:=fixL_eq h1
 have e2:=fixH_eq h3
 obtain ⟨⟨g1,g2,g3,g4⟩,g5⟩:=h4;exact ⟨_,g1,g2,g3.trans e1,g4.trans e2,g5.symm⟩
def one (c:bn) (m:aD->aE->T (LV×List Blk)):Does:=λg=>if g=c then ah m else aj
def one_ok {c:bn}{m:aD->aE->T (LV×List Blk)}(h:CSound P G c m):∀g m',one c m g=ah m'->CSound P G g m':=λg m' e=>by
 unfold one at e;split at e
 ·rename_i q
  subst q;cases e;exact h
 ·cases e
def sound {LL:aKC}{c:bn}{d:aC}(hΓ:∀g S,Γ g=ah S->Valid P G g S) (hLL:LLok P G LL)
  (hstep:∀(n:aC) (s:σ),D.E s->D.mu s<=n->AllT (λq=>q=(.v<|.tuple #[],D.B<|D.r s)) ((stepH P G Γ LL<|inlC P G Γ LL (one c<|D.m n) d).k c (D.A s)<|D.B s)):∀n,CSound P G c (D.m n)
 |0=>λw0 Z0 Z β H w args vals lv H' hW hr hok hq=>by
  obtain ⟨s,_,h,_⟩:=Y1 hq;exact absurd h (Nat.not_lt_zero _)
 |n+1=>CSound.walk hΓ hLL (inlC_sound hΓ hLL (one_ok<|sound hΓ hLL hstep n) d) λargs H lv H' hq=>by
  obtain ⟨s,h1,h2,h3,h4,h5⟩:=Y1 hq;rw [<-h3,<-h4,h5];exact (hstep n s h1<|Nat.le_of_lt_succ h2).out
end CpD
end Go.Sx
namespace Go.Sx
open Go Go.RowKit Go.Proofs.YtcdkianomnhhmaaGreatDoor
variable {P : Program} {G : Globs} {Γ : Specs} {σ τ : Type}
def Nu (ks:aH) (H:aE):aE:=ks.foldl (λH k=>H.set k ⟨[],0,.dead,X⟩) H
def afE (ks:aH):∀(H:aE),M (Nu ks H)=M H:=by
 induction ks with
 |nil=>intro H;rfl
 |cons k ks ih=>intro H;simp only [Nu,Hz] at ih|-;rw [ih];simp
def RW.kills {w0 w:aO}{Z0:Gz}{Z:aC->Prop}{β:aC->aKA}(ks:aH):∀ {H:aE},RW G w0 Z0 Z β H w->RW G w0 Z0 Z β (Nu ks H) w:=by
 induction ks with
 |nil=>intro H h;exact h
 |cons k ks ih=>intro H h;simp only [Nu,Hz] at ih|-;exact ih<|h.kill k 0
structure CF (σ τ:Type) where
 A:σ->List LV
 B:σ->List Blk
 g:aD->aE->σ
 E:σ->Prop
 kl:aH
 us:List Up
 V:τ->LV
 C:τ->List Blk
 r:σ->τ
namespace CF
variable {D : CF σ τ}
def m (D:CF σ τ) (args:aD) (H:aE):T (LV×List Blk):=(fixL (Nu D.kl H) args).bind λa=>(fixH (Nu D.kl H)<|Nu D.kl H).bind λb=>
 .req (D.E (D.g a b)/\D.A (D.g a b)=a/\D.B (D.g a b)=b) (.ok (D.V<|D.r<|D.g a b,D.C<|D.r<|D.g a b))
def Y1 {args:aD}{H:aE}{q:LV×List Blk}(h:(D.m args H).all λz=>z=q):∃s,D.E s/\D.A s=args/\D.B s=Nu D.kl H/\q=(D.V<|D.r s,D.C<|D.r s):=by
 obtain ⟨a,h1,h2⟩:=T.bind_all h;obtain ⟨b,h3,h4⟩:=T.bind_all h2
 have e1:=fixL_eq h1
 have e2:=fixH_eq h3
 obtain ⟨⟨g1,g3,g4⟩,g5⟩:=h4;exact ⟨_,g1,g3.trans e1,g4.trans e2,g5.symm⟩
def sound {LL:aKC}{K:aKP}{c:bn}{t:σ->T τ}(hΓ:∀g S,Γ g=ah S->Valid P G g S) (hLL:LLok P G LL) (hK:KSound P G K)
  (hnf:∀s,((stepH P G Γ LL K).k c (D.A s)<|D.B s).bind (λq=>canT (M<|D.B s) [0] D.us .normal (q.1::D.A s) q.2)=(t s).mp (λs2=>⟨.normal,M (D.A s)+1,[D.V s2],D.C s2,U⟩))
  (ht:∀s,D.E s->AllT (λs2=>s2=D.r s) (t s)):CSound P G c D.m:=λw0 Z0 Z β H w args vals lv H' hW hr hok hq=>by
 obtain ⟨s,h1,h2,h3,h4⟩:=Y1 hq;simp only [Am] at h4;obtain ⟨rfl,rfl⟩:=h4
 have hall:((t s).mp λs2=>(⟨.normal,M (D.A s)+1,[D.V s2],D.C s2,U⟩:Vw)).all (λz=>z=⟨.normal,M (D.A s)+1,[D.V<|D.r s],D.C<|D.r s,U⟩):=T.mp_all<|T.all_mono (λx hx=>by rw [hx]) (ht s h1).out
 rw [<-hnf s] at hall;obtain ⟨⟨lv1,H1⟩,q1,q2⟩:=T.bind_all hall;simp only at q2
 have hWk:RW G w0 Z0 Z β (D.B s) w:=by rw [h3];exact hW.kills D.kl
 have hlen:M (D.B s)=M H:=by rw [h3,afE]
 have hsz:vals.size=M args:=by have:=hr.length;simpa using this
 let a0:bg:={tmps:=vals,defers:=[]}
 have hF0:RF [] β Z w (M<|D.B s) args a0:=by
  refine ⟨hsz,λt x hx=>?_,rfl,λd hd=>WE⟩
  obtain ⟨y,e1,e2⟩:=RL.get t x hr hx
  have:vals.getD t undef=y:=by
   have e3:t<vals.size:=A8
   have e4:vals[t]? =ah y:=by simpa using e1
   rw [qk e3] at e4
   simp [Array.getD,e3,Dd e4]
  refine ⟨?_,by rw [hlen];exact okL.get t x hok hx⟩
  show R β Z w x (vals.getD t undef)
  rw [this];exact e2
 rw [h2] at q1;refine ((stepH_sound hΓ hLL hK).k w0 _ Z β (D.B s) w c args vals lv1 H1 (hWk.hold hF0) hr (by rw [hlen];exact hok) q1).mono λe w' ⟨v,he,Z',β',r1,r2,r3⟩=>⟨v,he,?_⟩
 have hF1:=RW.held hF0 r1
 have hF2:RF [] β' Z' w' (M H1) (lv1::D.A s) {tmps:=#[v]++vals,defers:=[]}:=by
  refine ⟨by simp [h2,hsz];omega,λt x hx=>?_,rfl,λd hd=>WE⟩
  cases t with
  | zero=>
   simp only [List.getElem?_cons_zero,Ab] at hx;subst hx
   exact ⟨by
    have e:(#[v]++vals).getD 0 undef=v:=aJK
    rw [e];exact r2,r3⟩
  | succ t=>
   rw [h2] at hx
   have:=hF1.get t x hx
   have e:(#[v]++vals).getD (t+1) undef=vals.getD t undef:=by
    have ht:t<vals.size:=A8
    simp [Array.getD,ht,Array.getElem_append,show t+1<1+vals.size by omega]
   grind
 have hgh:AN (M<|D.B s) Z0:=λp hp=>by rw [hlen];exact (hW.gh p hp).2
 obtain ⟨_,_,Z2,β2,k1,k2⟩:=canT_sound hgh r1.less hF2 q2 rfl;refine ⟨Z2,β2,k1,?_⟩
 have hx:(frameOf (M (lv1::D.A s)) [0] [D.V<|D.r s])[0]? =ah (D.V<|D.r s):=by
  simp [frameOf,frameGo,at_]
 have:=k2.get 0 _ hx
 have e:(#[v]++vals).getD 0 undef=v:=aJK
 refine ⟨?_,this.2⟩
 have h5:=this.1
 rwa [e] at h5
end CF
def DX (n m:aC):aH:=(au n).map (·+m)++au m
def ao7 {n m i:aC}(h:i<n):(DX n m)[i]? =ah (i+m):=by
 unfold DX;rw [G5 A8]
 simp [h]
def ao8 {n m i:aC}(h:i<m):(DX n m)[n+i]? =ah i:=by
 unfold DX
 simp [h]
def zU {n m:aC}:M (DX n m)=n+m:=by simp [DX]
def iA {n m k:aC}:k∈DX n m↔k<n+m:=by
 unfold DX;simp only [BC,EH,Ir];refine ⟨λh=>?_,λh=>?_⟩
 ·omega
 ·by_cases h1:k<m
  ·grind
  ·exact .inl ⟨k-m,A0,A0⟩
def af9:∀ {ks:aH},ks.Nodup->nodupB ks=U
 | [],_=>rfl
 |k::ks,h=>by
  obtain ⟨h1,h2⟩:=Jb.1 h;simp only [nodupB,AP,CS];exact ⟨A8,af9 h2⟩
def afm {n m:aC}:nodupB (DX n m)=true:=by
 apply af9
 unfold DX;rw [rS];refine ⟨?_,cz,λx hx y hy e=>?_⟩
 ·exact qt _ (λa b (h:a≠b) e=>h A8)<|cz (n:=n)
 ·obtain ⟨j,_,rfl⟩:=EH.1 hx
  have:=Ir.1 hy
  omega
def RW.join {w0 w w':aO}{Z0:Gz}{Z Z':aC->Prop}{β β':aC->aKA}{H Hn:aE}(hW:RW G w0 Z0 Z β H w) (hS:RW G w ⟨Z,[],[]⟩ Z' β' Hn w'):
  ∃β2,(∀k,k<M H->β2 k=β k)/\(∃β1,(∀k,k<M Hn->β1 k=β' k)/\Rn (DX (M H)<|M Hn) β1 β2)/\RW G w0 Z0 (λb=>Z b\/Z' b) β2 (H++Hn.map (renB<|DX (M H)<|M Hn)) w':=by
 generalize hn:M H=n;generalize hm:M Hn=m
 let β1:aC->aKA:=λk=>if k<m then β' k else β (k-m)
 have hb1:∀k,k<m->β1 k=β' k:=λk hk=>by simp only [β1];rw [AB hk]
 have hb1':∀k,β1 (k+m)=β k:=λk=>A8
 have hD:RW G w ⟨Z,[],[]⟩ Z' β1 (Hn++aq n deadBk) w':=hS.deads λk hk=>hb1 k<|hm▸hk
 have hget:∀k,k<m->(Hn++aq n deadBk)[k]? =Hn[k]? :=λk hk=>G5<|hm▸hk
 have hgetd:∀k,m<=k->k<n+m->(Hn++aq n deadBk)[k]? =ah deadBk:=λk h1 h2=>by
  grind
 have hcl:closedB (Hn++aq n deadBk) (DX n m) []=true:=by
  unfold closedB;simp only [AP,B9];refine ⟨λx hx=>by simp [ownsL] at hx,λk hk=>?_⟩
  have hk:=iA.1 hk
  by_cases h1:k<m
  ·rw [hget k h1]
   obtain ⟨b,hb⟩:∃b,Hn[k]? =ah b:=⟨_,Cv<|hm▸h1⟩;rw [hb];simp only [B9];intro j hj
   have:=okB_owns (hS.blk k b hb).2 j hj
   rw [VY,iA];omega
  ·rw [hgetd k A0 hk]
   simp [deadBk,Blk.owns,ownsL]
 obtain ⟨β2,r1,r2⟩:=hD.ren (N:=0) (Z0:=⟨Z,[],[]⟩) (λp hp=>eQ) hcl afm Iy
 have hag:∀k,k<n->β2 k=β k:=λk hk=>by rw [r1 k (k+m)<|ao7 hk,hb1']
 have hnew:∀i,i<m->((DX n m).map λk=>renB (DX n m)<|(Hn++aq n deadBk).getD k deadB)[n+i]? =(Hn[i]?).map (renB<|DX n m):=λi hi=>by
  rw [Cy,ao8 hi];simp only [HV,CH,hget i hi];rw [Cv<|hm▸hi]
  simp
 refine ⟨β2,hag,⟨β1,hb1,r1⟩,?_⟩
 have hbw:Below w.heap.size w w':=hS.below
 have old:∀i b,(H++Hn.map (renB<|DX n m))[i]? =ah b->(i<n/\H[i]? =ah b/\β2 i=β i)\/(n<=i/\((DX n m).map λk=>renB (DX n m)<|(Hn++aq n deadBk).getD k deadB)[i]? =ah b):=λi b h=>by
  by_cases hi:i<n
  ·rw [G5<|hn▸hi] at h
   exact .inl ⟨hi,h,hag i hi⟩
  ·have hlt:=(DI.1 h).1
   simp only [Ax,Eb,hn,hm] at hlt;rw [Ef A0,Cy,hn] at h;refine .inr ⟨A0,?_⟩
   have:=hnew (i-n) A0
   rw [show n+(i-n)=i by omega] at this
   rw [this];exact h
 have hlive:∀i b,i<n->β2 i=β i->(live β2 i b↔live β i b):=λi b _ e=>by unfold live;rw [e]
 have hlen:M (H++Hn.map (renB<|DX n m))=n+m:=by simp [hn,hm]
 have hlen2:M ((DX n m).map λk=>renB (DX n m)<|(Hn++aq n deadBk).getD k deadB)=n+m:=by simp [zU]
 refine ⟨⟨hbw.os.trans hW.below.os,hbw.tape.trans hW.below.tape,hbw.output.trans hW.below.output,Fy hW.below.size hbw.size,λk hk=>?_⟩,λb hz=>?_,λb hz=>?_,λi b hb hl hp=>?_,λi b hb hl hp=>?_,λi b hb hl=>?_,λi j bi bj hi hj li lj pi e=>?_,λi b hb=>?_,?_,λp hp=>?_,λD hD=>?_⟩
 ·rw [hbw.block k<|VL hk hW.below.size];exact hW.below.block k hk
 ·rcases hz with h|h
  ·exact VL (hW.zlt b h) hbw.size
  ·exact hS.zlt b h
 ·rcases hz with h|h
  ·exact hW.znew b h
  ·rcases hS.znew b h with h|h
   ·exact hW.znew b h
   ·exact .inr<|Fy hW.below.size h
 ·rcases old i b hb with ⟨h1,h2,h3⟩ |⟨h1,h2⟩
  ·have hl':=(hlive i b h1 h3).1 hl
   rw [h3];intro hz;rcases hz with h|h
   ·exact hW.zown i b h2 hl' hp h
   ·rcases hS.znew _ h with h|h
    ·exact hW.zown i b h2 hl' hp h
    ·have:=hW.lt h2 hl'
     omega
  ·intro hz
   rcases hz with h|h
   ·have h4:=r2.low i b h2 hl
    have:=hW.zlt _ h
    omega
   ·exact r2.zown i b h2 hl hp h
 ·rcases old i b hb with ⟨h1,h2,h3⟩ |⟨h1,h2⟩
  ·rw [h3];exact .inl<|hW.zpub i b h2 ((hlive i b h1 h3).1 hl) hp
  ·exact .inr<|r2.zpub i b h2 hl hp
 ·rcases old i b hb with ⟨h1,h2,h3⟩ |⟨h1,h2⟩
  ·rw [h3];exact hW.low i b h2<|(hlive i b h1 h3).1 hl
  ·exact Fy hW.below.size<|r2.low i b h2 hl
 ·rcases old i bi hi with ⟨h1,h2,h3⟩ |⟨h1,h2⟩<;>rcases old j bj hj with ⟨g1,g2,g3⟩ |⟨g1,g2⟩
  ·rw [h3,g3] at e
   exact hW.inj i j bi bj h2 g2 ((hlive i bi h1 h3).1 li) ((hlive j bj g1 g3).1 lj) pi e
  ·rw [h3] at e
   have:=hW.lt h2<|(hlive i bi h1 h3).1 li
   have:=r2.low j bj g2 lj
   omega
  ·rw [g3] at e
   have:=hW.lt g2<|(hlive j bj g1 g3).1 lj
   have:=r2.low i bi h2 li
   omega
  ·exact r2.inj i j bi bj h2 g2 li lj pi e
 ·rcases old i b hb with ⟨h1,h2,h3⟩ |⟨h1,h2⟩
  ·obtain ⟨q1,q2⟩:=hW.blk i b h2
   refine ⟨BlkR.keep (n:=M H) (λk hk=>hag k<|hn▸hk) (λ_ h=> .inl h) (λb hz=>hbw.block b<|hW.zlt b hz) h3 (λhl=>hbw.block _<|hW.lt h2 hl) q2 q1,?_⟩
   rw [hlen]
   exact ⟨okL.mono A0 _ q2.1,by
    have:=q2.2
    cases hk:b.k with
    |mp kd ks vs=>rw [hk] at this;exact okL.mono A0 _ this
    |_=>trivial⟩
  ·obtain ⟨q1,q2⟩:=r2.blk i b h2
   refine ⟨BlkR.keep (n:=n+m) (λ_ _=>rfl) (λ_ h=> .inr h) (λ_ _=>rfl) rfl (λ_=>rfl) (by rw [hlen2] at q2;exact q2) q1,?_⟩
   rw [hlen];rw [hlen2] at q2;exact q2
 ·exact hW.glob.mono (λ_ h=> .inl h) λb hz=>hbw.block b<|hW.zlt b hz
 ·obtain ⟨q1,q2⟩:=hW.gh p hp
  exact ⟨R.mono (n:=M H) (λk hk=>hag k<|hn▸hk) (λ_ h=> .inl h) (λb hz=>hbw.block b<|hW.zlt b hz) _ _ q2 q1,okV.mono (by rw [hlen];omega) _ q2⟩
 ·obtain ⟨q1,q2⟩:=hW.mks D hD
  exact ⟨.inl q1,by unfold MkAt at*;rw [hbw.block D<|hW.zlt D q1];exact q2⟩
def Hf (S:aD->T (LV×List Blk)) (args:aD) (H:aE):T (LV×List Blk):=
 if noOwnL args then (S args).bind λq=> .ok (renV (DX (M H)<|M q.2) q.1,H++q.2.map (renB<|DX (M H)<|M q.2)) else .no
def wo {g:bn}{m:aD->aE->T (LV×List Blk)}(h:CSound P G g m):CSound P G g (Hf λargs=>m args []):=λw0 Z0 Z β H w args vals lv H' hW hr hok hq=>by
 unfold Hf at hq;split at hq
 ·rename_i hno
  obtain ⟨⟨lv1,Hn⟩,h1,h2⟩:=T.bind_all hq;obtain ⟨rfl,rfl⟩:=h2
  have hok0:=noOwnL_ok args hno hok
  have hW1:RW G w ⟨Z,[],[]⟩ Z β [] w:=⟨Below.refl _ _,hW.zlt,λb hz=> .inl hz,λk b hb=>A8,λk b hb=>A8,λk b hb=>A8,λi j bi bj hb=>AG,λk b hb=>A8,hW.glob,λp hp=>eQ,λD hD=>(by cases hD)⟩
  refine (h w ⟨Z,[],[]⟩ Z β [] w args vals lv1 Hn hW1 hr hok0 h1).mono λe w' ⟨v,he,Z',β',r1,r2,r3⟩=>⟨v,he,?_⟩
  obtain ⟨β2,a1,⟨β1,a2,a3⟩,a4⟩:=hW.join r1;refine ⟨_,β2,a4,?_,?_⟩
  ·have q:=R.mono (n:=M Hn) (Z':=λb=>Z b\/Z' b) (w':=w') a2 (λ_ h=> .inr h) (λ_ _=>rfl) _ _ r3 r2
   exact ren_R a3 _ _ (λk hk=>iA.2 aJj) r3 q
  ·have:=ren_ok (ks:=DX (M H)<|M Hn) _ (λk hk=>iA.2 aJj) r3
   rw [zU] at this
   grind
 ·cases hq
end Go.Sx
namespace Go.Proofs.YtcdkianomnhhmaaGreatDoor
set_option maxRecDepth 100000
set_option maxHeartbeats 4000000
open Go.Proofs.Tryz
open Go.Sx
def QX:aC->Int
 |0=>1
 |1=>1
 |2=>1
 |3=>0
 |4=>2
 |5=>2
 |_=>3
def SV (j:aC):Y:=[-1,-1,-1,-1,-1,-1,1,-1,-1,-1,-1,-1,-1,0,-1,-1,-1,-3,-1,2,-1,-1,-1,-1,-1,-1,-3,-1,-1,-1,-1,-1,-1,4,-1,-1,-1,-1,-1,-1,-3,-1,-2,-2,-2,-2,-2,-2,-2,-2,-2,-2,-2,-2,0,1,1,1,1,-3].getD j 0
def v5:aC->Int
 |0=>4
 |1=>1
 |2=>1
 |3=>4
 |_=>2
def AM:bf:=fun
 |2=>ah (8,λj=> ag J<|QX j)
 |1=>ah (60,λj=> ag J<|SV j)
 |0=>ah (5,λj=> ag J<|v5 j)
 |_=>aj
structure Bd where
  f:bn
  S:aD->T LV
  v:Valid prog AM f S
def aN:qT (List Bd):=⟨⟩
def gm:aN->Specs
  | [],_=>aj
  |b::l,g=>if g=b.f then ah b.S else gm l g
def gk:∀(l:aN) g S,gm l g=ah S->Valid prog AM g S
  | [],_,_,h=>Ai
  | b::l,g,S,h=>by
    simp only [gm] at h;split at h
    · rename_i hg;simp only [Ab] at h;subst h hg;exact b.v
    · exact gk l g S h
structure LBx where
  L:aKC
  h:LLok prog AM L
structure Ap where
  K:aKP
  h:KSound prog AM K
structure Db where
  g:bn
  m:aD->aE->T (LV×List Blk)
  c:CSound prog AM g m
instance {f:bn} {S:aD->T LV}:CoeOut (Valid prog AM f S) Bd:=⟨λv=>⟨f,S,v⟩⟩
instance:Coe (List Bd) Specs:=⟨gm⟩
instance:Coe Ap Hand:=⟨Ap.K⟩
def kN:Ap:=⟨noK,noK_sound⟩
def l0 (l:aN):LBx:=⟨unrL prog AM (gm l) 20 2,unrL_ok<|gk l⟩
def la (id:aC) {g:bn}{N:aC}{t:aD->aE->T (Ex×List LV×List Blk)}{fn:aKG}{bd:bC}(hfn:prog.funcs[g]? =ah fn) (ht:SoundA prog AM (AN N) (.loop bd) t) (h:LBx) (hc:fn.body=ah (fn.body.getD .skip):=by kernel_rfl) (hid:(loopsIn<|fn.body.getD .skip).filter (λb=>firstR b==id)=[bd]:=by kernel_rfl):LBx:=⟨addL g N id t h.L,addL_ok hfn hc hid ht h.h⟩
def kI (l:aN) (h:LBx):Ap:=⟨inl prog AM (gm l) h.L 9,inl_sound (gk l) h.h 9⟩
def dm:List Db->Does
  | [],_=>aj
  |p::ps,g=>if g=p.g then ah p.m else dm ps g
def dk:∀(l:List Db) g m,dm l g=ah m->CSound prog AM g m
  | [],_,_,e=>MA
  | p::ps,g,m,e=>by
    simp only [dm] at e;split at e
    · rename_i hg;simp only [Ab] at e;subst e hg;exact p.c
    · exact dk ps g m e
def Fx (l:aN) (h:LBx) (C:List Db):Ap:=⟨inlC prog AM (gm l) h.L (dm C) 9,inlC_sound (gk l) h.h (dk C) 9⟩
abbrev VV (f:bn) (S:aD->T LV):=Valid prog AM f S
abbrev SA {σ:Type}(N:aC) (b:bC) (D:LpD σ):=SoundA prog AM (AN N) (.loop b) D.lp
abbrev uS (fn:aKG) (S:aD->T LV):=upS prog fn.params.toList S
abbrev lN (c:bC) (k:aC):bC:=((loopsIn c)[k]?).getD .skip
abbrev bN (fn:aKG) (k:aC):bC:=lN (fn.body.getD .skip) k
def vo {f:bn}{fn:aKG}{S:aD->T LV}(hfn:prog.funcs[f]? =ah fn) (l:aN) (h:Ap) (hS:∀args lv,(S args).all (λx=>x=lv)->AllT (λx=>x=lv) (BO prog AM (gm l) h.K noLoops fn<|canL args)) (hc:fn.body=ah (fn.body.getD .skip):=by kernel_rfl) (e:loopsIn (fn.body.getD .skip)=[]:=by kernel_rfl):Valid prog AM f (upS prog fn.params.toList S):=fo hfn hc (gk l) h.h (no_loops e) λa v q=>(hS a v q).out
def vl {f:bn}{fn:aKG}{S:aD->T LV}{t:aD->aE->T (Ex×List LV×List Blk)}{bd:bC}(hfn:prog.funcs[f]? =ah fn) (l:aN) (h:Ap) (k:aC) (sn:Sound prog AM (.loop bd) t) (hS:∀args lv,(S args).all (λx=>x=lv)->AllT (λx=>x=lv) (BO prog AM (gm l) h.K (λi=>if i=k then t else noLoops i) fn<|canL args)) (hc:fn.body=ah (fn.body.getD .skip):=by kernel_rfl) (e:loopsIn (fn.body.getD .skip)=[bd]:=by kernel_rfl) (hk:firstR bd=k:=by kernel_rfl):Valid prog AM f (upS prog fn.params.toList S):=fo hfn hc (gk l) h.h (L:=λi=>if i=k then t else noLoops i) (λb hb=>by
  rw [e,FX] at hb;subst hb
  show Sound _ _ _ (if firstR b=k then t else noLoops (firstR b))
  rw [AB hk];exact sn) λa v q=>(hS a v q).out
def vm {f:bn}{fn:aKG}{S:aD->T LV}{L:aK2}(hfn:prog.funcs[f]? =ah fn) (l:aN) (h:Ap) (hL:∀b∈loopsIn (fn.body.getD .skip),Sound prog AM (.loop b)<|L<|firstR b) (hS:∀args lv,(S args).all (λx=>x=lv)->AllT (λx=>x=lv) (BO prog AM (gm l) h.K L fn<|canL args)) (hc:fn.body=ah (fn.body.getD .skip):=by kernel_rfl):Valid prog AM f (upS prog fn.params.toList S):=fo hfn hc (gk l) h.h hL λa v q=>(hS a v q).out
def Al {t:T LV}(t':T LV) {K:LV->Prop}(h':t'.all K) (h:t=t':=by kernel_rfl):AllT K t:=⟨all_of_eq h h'⟩
def Da {σ:Type}(I:σ->Prop) (mu:σ->aC) (Q:Ex->σ->σ->Prop) (t:σ->T (Rd σ)):Prop:=∀s,I s->allR (λs'=>I s'/\mu s'<mu s) (λx s'=>Q x s s') ((t s).rd s)
def Rq {σ:Type}(I:σ->Prop) (t:σ->T (Rd σ)):Prop:=∀s,I s->(t s).all (λ_=>True)
def Fi {σ:Type}(E I:σ->Prop) (Q:Ex->σ->σ->Prop) (x:σ->Ex) (r:σ->σ):Prop:=∀s,E s->∃s',I s'/\Q (x s) s' (r s)
def Rs {σ Y:Type}(E:σ->Prop) (x:σ->Ex) (r:σ->σ) (V:σ->Y) (K:Ex->σ->Y->Prop):Prop:=∀s,E s->K (x s) (r s) (V s)
variable {σ : Type} {D : LpD σ} {Q : Ex -> σ -> σ -> Prop} {b : Code}
def Cq (o:D.Ok) (p:D.Pf Q) {Y:Type}{V:σ->Y}{K:Ex->σ->Y->Prop}(hv:∀s,D.I s->allR (λs'=>V s'=V s) (λx s'=>K x s'<|V s) (D.f s)):Rs D.E D.exn D.run V K:=λs hE=>LpD.finV o p V K hv s hE
def s1 (o:D.Ok) (p:D.Pf Q) (l:aN) (h:Ap) (e:loopsIn b=[]:=by kernel_rfl) (hn:∀s,backT D.N D.lv D.us (codex prog AM (gm l) h.K (byId noLoops) b (frameOf D.n D.lv<|D.A<|D.rd s)<|D.B<|D.rd s)=(D.t<|D.rd s).mp (rdV D.n D.A D.B):=by intro s;kernel_rfl):SoundA prog AM (AN D.N) (.loop b) D.lp:=LpD.snd o p (code_soundA (gk l) h.h b (λb hb=>by rw [e] at hb;cases hb)) hn
def s2 (o:D.Ok) (p:D.Pf Q) (l:aN) (h:Ap) (hn:∀s,backT D.N D.lv D.us (codex prog AM (gm l) h.K (unrC prog AM (gm l) h.K 20 2) b (frameOf D.n D.lv<|D.A<|D.rd s)<|D.B<|D.rd s)=(D.t<|D.rd s).mp (rdV D.n D.A D.B):=by intro s;kernel_rfl):SoundA prog AM (AN D.N) (.loop b) D.lp:=LpD.snd o p (code_soundA (gk l) h.h b λb _=>unrC_sound (gk l) h.h 20 2 b) hn
end Go.Proofs.YtcdkianomnhhmaaGreatDoor
namespace Go.Proofs.YtcdkianomnhhmaaGreatDoor
set_option maxRecDepth 100000
set_option maxHeartbeats 4000000
open Go.Proofs.Tryz
open Go.Sx
abbrev Aq:Ty:=.pair A7<|.pair A7<|.pair A7 .bool
abbrev St:=Int×Int×Int×Bool
def bc:qT (List St):=⟨⟩
instance:Coe (List St) LV:=⟨.xl Aq⟩
def B1 (l:bc) (n:Y):St:=l.getD n.toNat (0,0,0,X)
def sV (c:Ch) (s:St):aM:=Gi c.2.2.1 c.2.2.2.1 c.2.2.2.2.1 c.2.2.2.2.2.1 c.2.2.2.2.2.2.1&&(inB s.1 0 5&&(inB s.2.2.1 0 1000000&&(inB s.2.1 0 c.2.2.2.2.1&&((s.2.2.1 !=0 ||s.2.1==0)&&(!s.2.2.2 ||s.1==5)))))
def Jx {c:Ch}{s:St}:sV c s=U↔Gi c.2.2.1 c.2.2.2.1 c.2.2.2.2.1 c.2.2.2.2.2.1 c.2.2.2.2.2.2.1=U/\0<=s.1/\s.1<=5/\0<=s.2.2.1/\s.2.2.1<=1000000/\0<=s.2.1/\s.2.1<=c.2.2.2.2.1/\(s.2.2.1=0->s.2.1=0)/\(s.2.2.2=U->s.1=5):=by
 obtain ⟨p,a,l,w⟩:=s;unfold sV;cases w<;>simp [B6]<;>omega
def evV (mx k n m:Y):aM:=if k=4 then inB n 0 1 else if k=6 then inB n 0 2 else if k=7 then inB m 1 1000000&&inB n 0 mx else U
def GO (p:Y) (w:aM) (k n:Y):Y:=
 if k=1 then (if p=0 then 1 else -1)
 else if k=2 then (if p=5/\w=U then 5 else if p=1\/p=5 then 0 else -1)
 else if k=3 then (if p=1 then 2 else -1)
 else if k=4 then (if p=2 then (if n=1 then 3 else 5) else -1)
 else if k=5 then (if p=3 then 4 else -1)
 else if k=6 then (if p=4 then (if n=0 then 1 else 5) else -1)
 else if k=9 then (if p=0\/w=U then p else 1)
 else p
def JU (l:Y):Y:=if 0<l-1 then l-1 else 0
def sL (l k m:Y):Y:=if k=7 then m else if k=8 then JU l else if k=9 then 0 else l
def sA (a l k n:Y):Y:=if k=7 then n else if k=8 then (if JU l=0 then 0 else a) else if k=9 then 0 else a
def sW (w:aM) (k n:Y):aM:=w ||(k==6&&n==1)
def sE (c:Ch) (s:St) (k n m:Y):Y:=
 if sV c s=U then (if inB k 1 9=U then (if evV c.2.2.2.2.1 k n m=U then (if GO s.1 s.2.2.2 k n<0 then 6 else 0) else 1) else 9) else 1
def sN (c:Ch) (s:St) (k n m:Y):St:=if sE c s k n m=0 then (GO s.1 s.2.2.2 k n,sA s.2.1 s.2.2.1 k n,sL s.2.2.1 k m,sW s.2.2.2 k n) else (0,0,0,X)
def BL (c:Ch) (s:St):Y:=if sV c s=U then (if s.2.2.2=U then c.2.2.2.2.1 else if s.1≠4 then 0 else if s.2.2.1≠0 then s.2.1 else c.2.2.2.2.2.2.1) else 0
def DO (c:Ch) (s:St) (k n m:Y):St:=if sE c s k n m=0 then sN c s k n m else s
def fS (k p:Y):Y:=
 if k=1 then (if p=0 then 1 else -1)
 else if k=2 then (if p=1 then 0 else if p=5 then -3 else -1)
 else if k=3 then (if p=1 then 2 else -1)
 else if k=4 then (if p=2 then -3 else -1)
 else if k=5 then (if p=3 then 4 else -1)
 else if k=6 then (if p=4 then -3 else -1)
 else if k=7 then -2
 else if k=8 then -2
 else if p=0 then 0 else if p=5 then -3 else 1
def auU {k p:Y}(h1:1<=k) (h2:k<=9) (h3:0<=p) (h4:p<=5):SV (k.toNat*6+(p.toNat*1+0))=fS k p:=by
 have key:∀e:Fin 10,∀s:Fin 6,1<=e.val->SV (e.val*6+(s.val*1+0))=fS (e.val:Y) (s.val:Y):=AS
 have:=key ⟨k.toNat,A0⟩ ⟨p.toNat,A0⟩ A8
 grind
def OE (p:Y) (w:aM) (k n:Y):Y:=if k=4 then (if n=1 then 3 else 5) else if k=6 then (if n=0 then 1 else 5) else if k=2 then (if w=U then p else 0) else if k=9 then (if w=U then p else 1) else p
def OD (w:aM) (k n:Y):aM:=if k=6 then n==1 else w
def nine {k:Y}(h1:1<=k) (h2:k<=9):k=1\/k=2\/k=3\/k=4\/k=5\/k=6\/k=7\/k=8\/k=9:=A0
def azm {p:Y}(h1:0<=p) (h2:p<=5):p=0\/p=1\/p=2\/p=3\/p=4\/p=5:=A0
def am8 {mx k n m:Y}(h:evV mx k n m=U):(k=4->0<=n/\n<=1)/\(k=6->0<=n/\n<=2)/\(k=7->1<=m/\m<=1000000/\0<=n/\n<=mx):=by
 unfold evV at h;refine ⟨λe=>?_,λe=>?_,λe=>?_⟩
 ·subst e;simpa [B6] using h
 ·subst e;simpa [B6] using h
 ·subst e;simp [B6] at h;omega
def avX {c:Ch}{s:St}{k n m:Y}(h:sE c s k n m=0):sV c s=U/\1<=k/\k<=9/\evV c.2.2.2.2.1 k n m=U/\0<=GO s.1 s.2.2.2 k n:=by
 unfold sE at h
 repeat' split at h
 all_goals first|(exfalso;omega) |skip
 rename_i h1 h2 h3 h4
 have h2:=B6.1 h2
 grind
def avW {c:Ch}{s:St}{k n m:Y}(h:sE c s k n m=0):sV c (sN c s k n m)=true:=by
 obtain ⟨h1,h2,h3,h4,h5⟩:=avX h
 have he:=am8 h4
 obtain ⟨p,a,l,w⟩:=s
 have h1:=Jx.1 h1
 rw [Jx];unfold sN;rw [AB h];obtain ⟨g1,g2,g3,g4,g5,g6,g7,g8,g9⟩:=h1
 have gc:=S2.1 g1
 simp only at*
 have hp:GO p w k n<=5:=by
  unfold GO
  repeat' split
  all_goals omega
 have ht:0<=JU l/\JU l<=l:=by unfold JU;split<;>omega
 have hL:0<=sL l k m/\sL l k m<=1000000:=by
  unfold sL
  repeat' split
  all_goals omega
 have hA:0<=sA a l k n/\sA a l k n<=c.2.2.2.2.1:=by
  unfold sA
  repeat' split
  all_goals omega
 refine ⟨g1,h5,hp,hL.1,hL.2,hA.1,hA.2,λhl=>?_,λhw=>?_⟩
 ·unfold sL at hl
  unfold sA
  repeat' split
  all_goals repeat' split at hl
  all_goals omega
 ·unfold sW at hw
  simp only [C6,AP,CO] at hw;rcases hw with hw|⟨e1,e2⟩
  ·have hs:=g9 hw
   subst hs;unfold GO at h5|-;simp only [hw] at h5|-;rcases nine h2 h3 with rfl|rfl|rfl|rfl|rfl|rfl|rfl|rfl|rfl<;>simp at h5|-
  ·subst e1 e2
   unfold GO at h5|-
   simp at h5|-
   split at h5
   ·rename_i h4;simp [h4]
   ·omega
def mP {c:Ch}{s:St}{k n m:Y}(h:sV c s=U):sV c (DO c s k n m)=true:=by
 unfold DO;split
 ·rename_i h1;exact avW h1
 ·exact h
abbrev Ca:=Int×Int×Int×Int×Int
def aKE:qT (List Ca):=⟨⟩
def BE (l:aKE) (n:Y):Ca:=l.getD n.toNat (0,0,0,0,0)
abbrev At:Ty:=.pair (.sl A7)<|.pair A7 A7
abbrev Mi:=List Int×Int×Int
def aKH:qT (List Mi):=⟨⟩
instance:Coe (List Mi) LV:=⟨.xl At⟩
def Bo (l:aKH) (n:Y):Mi:=l.getD n.toNat ([],0,0)
abbrev B8:Ty:=.pair A7<|.pair A7 .bool
abbrev Me:=Int×Int×Bool
def aKL:qT (List Me):=⟨⟩
instance:Coe (List Me) LV:=⟨.xl B8⟩
def Ez (l:aKL) (n:Y):Me:=l.getD n.toNat (0,0,X)
def Ey (c:Ca):aM:=inB c.1 0 4&&(inB c.2.1 1 7&&(inB c.2.2.1 1 80&&(inB c.2.2.2.1 0 1000000000&&(inB c.2.2.2.2 0 20&&(c.1 !=3 ||an (c.2.2.2.2>=1))))))
def S1 {c:Ca}:Ey c=U↔0<=c.1/\c.1<=4/\1<=c.2.1/\c.2.1<=7/\1<=c.2.2.1/\c.2.2.1<=80/\0<=c.2.2.2.1/\c.2.2.2.1<=1000000000/\0<=c.2.2.2.2/\c.2.2.2.2<=20/\(c.1=3->1<=c.2.2.2.2):=by
 simp [Ey,inB];omega
def GQ (m:Mi):aM:=an (M m.1<=21)&&(inB m.2.1 0 1000000&&(inB m.2.2 0 2000000000&&m.1.all (λp=>inB p 0 80)))
def Wy {m:Mi}:GQ m=U↔M m.1<=21/\0<=m.2.1/\m.2.1<=1000000/\0<=m.2.2/\m.2.2<=2000000000/\∀p∈m.1,0<=p/\p<=80:=by
 simp [GQ,B6,and_assoc]
def cnt (n:Y):Y:=n%2+n / 2%2+n / 4%2
def afz {n:Y}:0<=cnt n/\cnt n<=3:=by unfold cnt;omega
def eight {n:Y}(h1:0<=n) (h2:n<=7):n=0\/n=1\/n=2\/n=3\/n=4\/n=5\/n=6\/n=7:=A0
def land (a b:Y):Y:=BG J a b
def IS (k ph p:Y):Y:=if k=2 then land (land ph p) (-land ph p) else land ph p
def ael {a b:Y}(ha:0<=a/\a<=7) (hb:0<=b/\b<=7):0<=land a b/\land a b<=7/\0<=land (land a b) (-land a b)/\land (land a b) (-land a b)<=7/\(land a b≠0->land (land a b) (-land a b)≠0):=by
 have key:∀x y:Fin 8,0<=land x.val y.val/\land x.val y.val<=7/\0<=land (land x.val y.val) (-land x.val y.val)/\land (land x.val y.val) (-land x.val y.val)<=7/\(land x.val y.val≠0->land (land x.val y.val) (-land x.val y.val)≠0):=AS
 have:=key ⟨a.toNat,A0⟩ ⟨b.toNat,A0⟩
 simp only [C2 ha.1,C2 hb.1] at this;exact this
def VC (dl:Y) (pil:aB):Y:=if (M pil:Y)-dl>=0 then pil.getD ((M pil:Y)-dl).toNat 0 else 0
def FH (c:Ca) (m:Mi) (al:Y):Y:=
 if c.1=1 then (if c.2.2.2.2=0 then al else min al (VC c.2.2.2.2 m.1))
 else if c.1=3 then (if (m.2.1.tdiv c.2.2.2.2).tmod 2=1 then 0 else al)
 else if c.1=4 then (if al=0 then 0 else c.2.2.1) else al
def Ds (c:Ca) (m:Mi) (p al:Y):Y:=if IS c.1 c.2.1 p=0\/m.2.2>=c.2.2.2.1 then 0 else min c.2.2.1 (FH c m al)
def GJ (c:Ca) (m:Mi) (p al:Y):Y:=if Ds c m p al=0 then 0 else IS c.1 c.2.1 p
def dwP (pil:aB) (al:Y):aB:=(pil++[al]).drop<|M pil-20
def dwG (c:Ca) (m:Mi) (p al:Y):Y:=m.2.2+2300*Ds c m p al*cnt (GJ c m p al)
def Ij (c:Ca) (m:Mi) (p al:Y):aM:=Ey c&&(GQ m&&(inB p 1 7&&(inB al 0 80&&m.2.1 !=1000000)))
def gq {c:Ca}{m:Mi}{p al:Y}:Ij c m p al=U↔Ey c=U/\GQ m=U/\1<=p/\p<=7/\0<=al/\al<=80/\m.2.1≠1000000:=by
 simp [Ij,B6,and_assoc]
def vw {k ph p:Y}(h1:1<=ph/\ph<=7) (h2:1<=p/\p<=7):0<=IS k ph p/\IS k ph p<=7:=by
 obtain ⟨a1,a2,a3,a4,_⟩:=ael (a:=ph) (b:=p) ⟨A0,A0⟩ ⟨A0,A0⟩;unfold IS;exact Qw
def afg {dl:Y}{pil:aB}(h:∀p∈pil,0<=p/\p<=80):0<=VC dl pil:=by
 unfold VC;split
 ·rw [CH]
  cases hg:pil[((M pil:Y)-dl).toNat]? with
  |none=>simp
  |some x=>simp;exact (h x<|Lz hg).1
 ·omega
def afT {c:Ca}{m:Mi}{al:Y}(hc:Ey c=U) (hm:GQ m=U) (ha:0<=al):0<=FH c m al:=by
 have hc:=S1.1 hc
 have hm:=Wy.1 hm
 have:=afg (dl:=c.2.2.2.2) hm.2.2.2.2.2
 unfold FH
 repeat' split
 all_goals omega
def aeu {c:Ca}{m:Mi}{p al:Y}(hc:Ey c=U) (hm:GQ m=U) (hp:1<=p/\p<=7) (ha:0<=al/\al<=80):
  0<=Ds c m p al/\Ds c m p al<=c.2.2.1/\0<=GJ c m p al/\GJ c m p al<=7:=by
 have hw:=afT hc hm ha.1
 have hc:=S1.1 hc
 have hs:=vw (k:=c.1) (ph:=c.2.1) (p:=p) ⟨A0,A0⟩ hp
 have h1:0<=Ds c m p al/\Ds c m p al<=c.2.2.1:=by unfold Ds;split<;>omega
 refine ⟨h1.1,h1.2,?_⟩;unfold GJ;omega
def E7 (c:Ca) (m:Mi) (p al:Y):Y:=if Ij c m p al=U then Ds c m p al else 0
def Dh (c:Ca) (m:Mi) (p al:Y):Y:=if Ij c m p al=U then GJ c m p al else 0
def HR (c:Ca) (m:Mi) (p al:Y):Mi:=if Ij c m p al=U then (dwP m.1 al,m.2.1+1,dwG c m p al) else ([],0,0)
def HG (c:Ca) (m:Mi) (p al:Y):Y:=if Ij c m p al=U then 0 else 1
def meV (m:Me):aM:=inB m.1 0 1000000&&(an (m.2.1>=-1000000000000000)&&an (m.2.1<=1000000000000000))
def mcR (m:Me) (a p:Y):Y:=if m.2.2=U then m.2.1-2300*a*p else m.2.1+2300*a*p
def mcB (m:Me) (a p:Y):aM:=meV m&&(inB a 0 80&&inB p 0 3)
def Eu (m:Me) (a p:Y):Y:=if mcB m a p=U then (if meV (m.1,mcR m a p,m.2.2)=U then 0 else 3) else 1
def Fu (m:Me) (a p:Y):Me:=if Eu m a p=0 then (m.1,mcR m a p,m.2.2) else (0,0,X)
def BH (t d:Y):Y:=if (inB t 0 1000000&&inB d (-200) 200)=U then t*(1000000+d) / 1000000 else 0
def FR (t d:Y):Y:=if (inB t 0 1000000&&inB d (-200) 200)=U then 0 else 1
def aFk {l:aB}{f:Y->aM}:l.all f=Ck (M l) (λj=>f<|gi l j):=by
 rw [Gn,B9,D3];refine ⟨λh j hj=>h _<|IG A0 hj,λh x hx=>?_⟩
 obtain ⟨k,hk,rfl⟩:=G4.1 hx
 have:=h k A0
 rwa [Gc A8] at this
section
variable {lt : Int -> Int -> Bool}
def JJ (lt:Y->Y->aM):aB->Y->List Int
 | [],x=>[x]
 |y::q,x=>if lt x y=U then y::JJ lt q x else x::y::q
def fm {x:Y}:∀ {q:aB},(JJ lt q x).Perm (x::q)
 | []=>List.Perm.refl _
 |y::q=>by
  unfold JJ;split
  ·exact (List.Perm.cons y fm).trans<|List.Perm.swap x y q
  ·grind
def agP {q:aB}{x:Y}:M (JJ lt q x)=M q+1:=by rw [fm.length_eq];rfl
def aeo:∀ {l acc:aB},(l.foldl (JJ lt) acc).Perm (acc++l)
 | [],acc=>AG
 |x::l,acc=>by
  rw [Hz];refine aeo.trans ?_;refine (qf l fm).trans ?_
  grind
def sortB (lt:Y->Y->aM) (l:aB):aB:=(l.foldl (JJ lt) []).reverse
def afU {l:aB}:(sortB lt l).Perm l:=by
 exact (qu _).trans (by have:=aeo (lt:=lt) (l:=l) (acc:=[]);simpa using this)
def exB (l:aB) (j:aC):aB:=(l.set (j+1)<|l.getD j 0).set j<|l.getD (j+1) 0
def Il (lt:Y->Y->aM):aC->aB->List Int
 |0,l=>l
 |j+1,l=>if lt (l.getD (j+1) 0) (l.getD j 0)=U then Il lt j (exB l j) else l
def am4 {p post:aB}{x y:Y}:exB (p++y::x::post) (M p)=p++x::y::post:=by
 unfold exB
 simp
def j6 {post:aB}{x:Y}:∀ {q:aB},Il lt (M q) (q.reverse++x::post)=(JJ lt q x).reverse++post
 | []=>by simp [Il,JJ]
 | y::q=>by
  have e1:((y::q).reverse++x::post)=q.reverse++y::x::post:=AG
  rw [e1,BI,Il]
  have g1:(q.reverse++y::x::post).getD (M q) 0=y:=AG
  have g2:(q.reverse++y::x::post).getD (M q+1) 0=x:=AG
  rw [g1,g2];unfold JJ;split
  ·have e2:exB (q.reverse++y::x::post) (M q)=q.reverse++x::y::post:=by
    have:=am4 (p:=q.reverse) (x:=x) (y:=y) (post:=post)
    grind
   rw [e2,j6]
   simp
  ·simp
def agy:∀ {j:aC}{l:aB},j<M l->(Il lt j l).Perm l:=λ{j l} h=>by
 have e:l=(l.take j).reverse.reverse++l[j]::l.drop (j+1):=AG
 have hj:M (l.take j).reverse=j:=A8
 have h2:=j6 (lt:=lt) (q:=(l.take j).reverse) (x:=l[j]) (post:=l.drop<|j+1)
 rw [hj,<-e] at h2;rw [h2];refine (qf _<|(qu _).trans fm).trans ?_;refine (List.perm_middle.symm.trans ?_);refine (qf _<|qu _).trans ?_
 grind
def K3 (lt:Y->Y->aM) (l:aB) (i:aC):aB:=((l.drop i).foldl (JJ lt) (l.take i).reverse).reverse
def afS {l:aB}{i:aC}(h:i<M l):K3 lt (Il lt i l) (i+1)=K3 lt l i:=by
 have e:l=(l.take i).reverse.reverse++l[i]::l.drop (i+1):=AG
 have hi:M (l.take i).reverse=i:=A8
 have h2:=j6 (lt:=lt) (q:=(l.take i).reverse) (x:=l[i]) (post:=l.drop<|i+1)
 have hl:M ((JJ lt (l.take i).reverse l[i]).reverse)=i+1:=by rw [List.length_reverse,agP,hi]
 unfold K3
 grind
def afn {l:aB}:K3 lt l 1=sortB lt l:=by
 cases l with
 |nil=>rfl
 |cons x l=>simp [K3,sortB,JJ]
def afo {l:aB}{i:aC}(h:M l<=i):K3 lt l i=l:=by
 unfold K3;rw [List.drop_of_length_le h,Cx h]
 simp
end
abbrev Ac:Ty:=.pair .bool<|.pair A7<|.pair A7 A7
abbrev Dm:=Bool×Int×Int×Int
def aZ:qT (List Dm):=⟨⟩
instance:Coe (List Dm) LV:=⟨.xl Ac⟩
def DC (l:aZ) (n:Y):Dm:=l.getD n.toNat (X,0,0,0)
def slk (d:aZ) (t i:Y):Y:=(DC d i).2.2.1-t-(DC d i).2.1
def cm (a b:Y):Y:=if a<b then -1 else if a>b then 1 else 0
def orI:aB->Int
 | []=>0
 |x::l=>if (x !=0)=U then x else orI l
def cmD (d:aZ) (t a b:Y):Y:=orI [cm (DC d a).2.2.2 (DC d b).2.2.2,cm (slk d t a)<|slk d t b,cm a b]
def ltD (d:aZ) (t a b:Y):aM:=an<|cmD d t a b<0
def Gg (d:aZ) (t:Y):Prop:=(∀x∈d,(-2000000000<=x.2.1/\x.2.1<=2000000000)/\-2000000000<=x.2.2.1/\x.2.2.1<=2000000000)/\-2000000000<=t/\t<=2000000000
def alG {d:aZ}{i:Y}(h0:0<=i) (h1:i<(M d:Y)):DC d i∈d:=by
 unfold DC
 grind
def amh {d:aZ}{t i:Y}(h:Gg d t) (h0:0<=i) (h1:i<(M d:Y)):(-2000000000<=(DC d i).2.1/\(DC d i).2.1<=2000000000)/\-2000000000<=(DC d i).2.2.1/\(DC d i).2.2.1<=2000000000:=h.1 _<|alG h0 h1
def EO (n:aC):aB:=(au n).map λk:aC=>(k:Y)
def Fa (d:aZ) (t:Y):aB:=sortB (ltD d t)<|EO<|M d
def af7 {n:aC}:EO (n+1)=EO n++[(n:Y)]:=by simp [EO,OR]
def MK {n:aC}:M (EO n)=n:=by simp [EO]
def xD {n:aC}{x:Y}:x∈EO n↔0<=x/\x<(n:Y):=by
 unfold EO;rw [EH]
 constructor
 ·rintro ⟨k,hk,rfl⟩
  rw [Ir] at hk;omega
 ·exact λh=>⟨x.toNat,A8,A0⟩
def afR {n:aC}:(EO n).Nodup:=qt _ (λa b h=>A0) cz
def wK {d:aZ}{t:Y}:(Fa d t).Perm (EO<|M d):=afU
def xu {d:aZ}{t:Y}:M (Fa d t)=M d:=by rw [wK.length_eq,MK]
def agM {d:aZ}{t x:Y}:x∈Fa d t↔0<=x/\x<(M d:Y):=wK.mem_iff.trans xD
def afM {d:aZ}{t:Y}:(Fa d t).Nodup:=wK.nodup_iff.2 afR
def j3 {mi ma st a k:Y}(hh:D5 mi ma st=U) (ha:0<=a) (h0:0<=k) (h1:k<DV mi ma st):DD mi st k<=a↔k<=Fv mi ma st a:=by
 obtain ⟨g1,g2,g3,g4,g5⟩:=GY.1 hh
 have hn:¬(D5 mi ma st=X\/a<0):=A8
 unfold Fv;rw [AD hn];unfold DD
 by_cases e:k=0
 ·subst e
  simp only [BP];exact aIj
 ·rw [AD e]
  have hp:0<=(k-1)*st:=Gl A0 A0
  split
  ·omega
  ·have:=(Int.le_ediv_iff_mul_le (a:=k-1) (b:=a-mi) (c:=st) A0)
   omega
def aEg {mi ma st a:Y}(hh:D5 mi ma st=U):Fv mi ma st a<DV mi ma st:=by
 have:=iz hh
 unfold Fv;split
 ·omega
 ·omega
def afZ {mi ma st a:Y}(hh:D5 mi ma st=U) (ha:0<=a):0<=Fv mi ma st a:=by
 have:=iz hh
 obtain ⟨g1,g2,g3,g4,g5⟩:=GY.1 hh
 have hn:¬(D5 mi ma st=X\/a<0):=A8
 unfold Fv;rw [AD hn];exact aIj
def afO {l:aB}:once l=U↔l.Nodup:=by
 rw [wZ,List.nodup_iff_pairwise_ne,cb]
 constructor
 ·intro h i j hi hj hij e
  exact h j hj (by rw [<-e,G4];exact ⟨i,A8,AG⟩)
 ·intro h j hj hm
  obtain ⟨i,hi,e⟩:=G4.1 hm
  grind
def aeR:∀ {r l:aB},r.Nodup->(∀x∈r,x∈l)->M r=M l->l.Nodup/\∀x∈l,x∈r
 | [],l,_,_,h=>by
  have:l=[]:=Jd.1 h.symm
  subst this
  simp
 | x::r,l,hn,hs,h=>by
  obtain ⟨n1,n2⟩:=Jb.1 hn
  have hx:=hs x AG
  have hp:=List.perm_cons_erase hx
  obtain ⟨i1,i2⟩:=aeR (l:=l.erase x) n2 (λy hy=>by
   have hy2:=hs y A8
   have hne:y≠x:=λe=>n1<|e▸hy
   exact (List.mem_erase_of_ne hne).2 hy2) A8
  refine ⟨hp.nodup_iff.2<|Jb.2 ⟨λhm=>n1<|i2 x hm,i1⟩,λy hy=>?_⟩
  by_cases e:y=x
  ·simp [e]
  ·grind
def VB (n:aC):aB:=(au n).map λk:aC=>(k:Y)
def xE {n:aC}{x:Y}:x∈VB n↔0<=x/\x<(n:Y):=by
 unfold VB;rw [EH]
 constructor
 ·rintro ⟨k,hk,rfl⟩
  have:=Ir.1 hk
  omega
 ·rintro ⟨h1,h2⟩
  exact ⟨x.toNat,Ir.2 A0,A0⟩
def afH {n:aC}:M (VB n)=n:=by simp [VB]
def afC {l:aB}{n:aC}:FE l n=U↔M l=n/\l.Nodup/\∀i∈l,0<=i/\i<(n:Y):=by
 unfold FE;simp only [AP,AT,B9,gF,afO]
 constructor
 ·grind
 ·grind
def afw {l:aB}{n:aC}(h:FE l n=U) {i:Y}(h0:0<=i) (h1:i<(n:Y)):i∈l:=by
 obtain ⟨g1,g2,g3⟩:=afC.1 h;exact (aeR g2 (l:=VB n) (λx hx=>xE.2<|g3 x hx) (by rw [afH];exact g1)).2 i<|xE.2 ⟨h0,h1⟩
def GM (al am ms:aB):Y:=(ms.map λm=>mx (gi al m)<|gi am m).sum
def rowB (al am:aB) (r:Rw):aM:=r.2.all (λm=>gi am m==0) ||an (GM al am r.2<=r.1)
def Mc (rows:aX) (al am:aB):aM:=rows.all<|rowB al am
def Ot {al am ms:aB}{m:Y}:GM al am (m::ms)=mx (gi al m) (gi am m)+GM al am ms:=by simp [GM]
def aeJ (gs:aG) (i k:Y):Y:=amA (AF gs i).2.2.2.1 (AF gs i).2.2.2.2.1 (AF gs i).2.2.2.2.2.1 k
def aeI (gs:aG) (i k:Y):Y:=amE (AF gs i).2.2.2.1 (AF gs i).2.2.2.2.1 (AF gs i).2.2.2.2.2.1 k
structure vZ (gs:aG) (out:aB):Prop where
 len:M out=M gs
 bd:∀a∈out,0<=a/\a<=1000000
def vZ.put {gs:aG}{out:aB}(h:vZ gs out) {k:aC}{v:Y}(hv:0<=v/\v<=1000000):vZ gs (out.set k v):=
 ⟨by rw [Bf];exact h.len,λa ha=>by
  rcases Lx ha with h2|h2
  ·exact h.bd a h2
  ·rw [h2];exact hv⟩
section
variable {P : List Int -> Bool} {tp : Int -> Int}
def GL (P:aB->aM) (tp:Y->Y) (L:Y) (lv:aB) (i:Y):aB:=
 if gi lv i=L-1/\L<=tp i then (if P (lv.set i.toNat L)=U then lv.set i.toNat L else lv) else lv
def HJ (P:aB->aM) (tp:Y->Y) (L:Y) (lv l:aB):aB:=l.foldl (GL P tp L) lv
def EY (P:aB->aM) (tp:Y->Y) (od:aB):aC->Y->aB->List Int
 |0,_,lv=>lv
 |f+1,L,lv=>EY P tp od f (L+1)<|HJ P tp L lv od
def H5 {l:aB}{i j v:Y}(h0:0<=i) (h1:i<(M l:Y)) (hj:0<=j):gi (l.set i.toNat v) j=if j=i then v else gi l j:=by
 unfold gi;rw [Ow]
 by_cases e:j=i
 ·subst e
  omega
 ·omega
def O0 (n:aC) (l:aB):Prop:=∀i∈l,0<=i/\i<(n:Y)
def xA {L i:Y}{lv:aB}:M (GL P tp L lv i)=M lv:=by
 unfold GL;split
 ·split
  ·grind
  ·rfl
 ·rfl
def aro {L i j:Y}{lv:aB}(h:0<=i/\i<(M lv:Y)) (hj:0<=j):gi lv j<=gi (GL P tp L lv i) j:=by
 exact aHm
def arp {L i j:Y}{lv:aB}(h:0<=i/\i<(M lv:Y)) (hj:0<=j):gi (GL P tp L lv i) j<=gi lv j\/(gi (GL P tp L lv i) j=L/\L<=tp j):=by
 exact aHm
def axM {L i:Y}{lv:aB}(h:P lv=U):P (GL P tp L lv i)=true:=by
 unfold GL;split
 ·split
  ·grind
  ·exact h
 ·exact h
def Wm {L i:Y}{lv l:aB}:HJ P tp L lv (i::l)=HJ P tp L (GL P tp L lv i) l:=rfl
def gT {L:Y}:∀ {l lv:aB},M (HJ P tp L lv l)=M lv
 | [],_=>rfl
 |i::l,lv=>by rw [Wm,gT (l:=l),xA]
def aFQ {L j:Y}(hj:0<=j):∀ {l lv:aB},O0 (M lv) l->gi lv j<=gi (HJ P tp L lv l) j
 | [],_,_=>CN _
 |i::l,lv,h=>by
  rw [Wm]
  have h1:=aro (P:=P) (tp:=tp) (L:=L) (h i AG) hj
  have h2:=aFQ (L:=L) hj (l:=l) (lv:=GL P tp L lv i) aJw
  omega
def mS {L j:Y}(hj:0<=j):∀ {l lv:aB},O0 (M lv) l->gi (HJ P tp L lv l) j<=gi lv j\/(gi (HJ P tp L lv l) j<=L/\gi (HJ P tp L lv l) j<=tp j)
 | [],_,_=> .inl (CN _)
 |i::l,lv,h=>by
  rw [Wm]
  have h1:=arp (P:=P) (tp:=tp) (L:=L) (h i AG) hj
  have h2:=mS (L:=L) hj (l:=l) (lv:=GL P tp L lv i) aJw
  omega
def acp {L:Y}:∀ {l lv:aB},P lv=U->P (HJ P tp L lv l)=U
 | [],_,h=>h
 |i::l,lv,h=>by rw [Wm];exact acp (l:=l)<|axM h
def aA5 {od:aB}:∀ {f:aC}{L:Y}{lv:aB},M (EY P tp od f L lv)=M lv
 |0,_,_=>rfl
 |f+1,L,lv=>by rw [EY,aA5,gT]
def aFR {od:aB}{j:Y}(hj:0<=j):∀ {f:aC}{L:Y}{lv:aB},O0 (M lv) od->gi lv j<=gi (EY P tp od f L lv) j
 |0,_,_,_=>CN _
 |f+1,L,lv,h=>by
  rw [EY]
  have h1:=aFQ (P:=P) (tp:=tp) (L:=L) hj h
  have h2:=aFR (f:=f) (L:=L+1) (lv:=HJ P tp L lv od) hj (by rw [gT];exact h)
  omega
def aFS {od:aB}{j:Y}(hj:0<=j):∀ {f:aC}{L:Y}{lv:aB},O0 (M lv) od->gi (EY P tp od f L lv) j<=gi lv j\/(gi (EY P tp od f L lv) j<=L+f-1/\gi (EY P tp od f L lv) j<=tp j)
 |0,_,_,_=> .inl (CN _)
 |f+1,L,lv,h=>by
  rw [EY]
  have h1:=mS (P:=P) (tp:=tp) (L:=L) hj h
  have h2:=aFS (f:=f) (L:=L+1) (lv:=HJ P tp L lv od) hj (by rw [gT];exact h)
  omega
def acr {od:aB}:∀ {f:aC}{L:Y}{lv:aB},P lv=U->P (EY P tp od f L lv)=U
 |0,_,_,h=>h
 |f+1,L,lv,h=>by rw [EY];exact acr<|acp h
def y9 {od:aB}:∀ {f:aC}{L:Y}{lv:aB},EY P tp od (f+1) L lv=HJ P tp (L+f) (EY P tp od f L lv) od
 |0,L,lv=>by simp [EY]
 |f+1,L,lv=>by
  rw [EY,y9 (f:=f) (L:=L+1),EY,show L+1+(f:Y)=L+((f+1:aC):Y) by omega]
def wF {L:Y}:∀ {l lv:aB},(∀i∈l,gi lv i≠L-1\/tp i<L)->HJ P tp L lv l=lv
 | [],_,_=>rfl
 | i::l,lv,h=>by
  have e:GL P tp L lv i=lv:=by
   unfold GL
   grind
  rw [Wm,e,wF λj hj=>h j A8]
def afD {od:aB}:∀ {f:aC}{L:Y}{lv:aB},(∀i∈od,gi lv i<L-1)->EY P tp od f L lv=lv
 |0,_,_,_=>rfl
 |f+1,L,lv,h=>by
  rw [EY,wF λi hi=> .inl A8,afD λi hi=>A8]
end
structure Fc (rows:aX) (gs:aG) (al mo od:aB):Prop where
 mem:∀r∈rows,r.2.Nodup/\∀m∈r.2,0<=m/\m<(M gs:Y)
 has:∀i:Y,0<=i->i<(M gs:Y)->D5 (AF gs i).2.2.2.1 (AF gs i).2.2.2.2.1 (AF gs i).2.2.2.2.2.1=U
 gl:M gs<=16
 all:M al=M gs
 mol:M mo=M gs
 al:∀a∈al,0<=a/\a<=80
 mo:∀a∈mo,0<=a/\a<=80
 nd:od.Nodup
 ord:O0 (M gs) od
 cov:∀i:Y,0<=i->i<(M gs:Y)->i∈od
def oC {cs:aJ}{os:aF}{ks:aP}{gs:aG}{bs:aQ}{al mo od:aB}(h:EN cs os ks gs bs al mo od=U):Fc (CK cs gs<|M cs) gs al mo od:=by
 obtain ⟨hv,h1,h2,h3,h4,h5⟩:=J1.1 h
 have hl:=(Ci.1 hv).1
 obtain ⟨o1,o2,o3⟩:=afC.1 h5;refine ⟨λr hr=>⟨(row_mem hr).1,(row_mem hr).2.1⟩,λi h0 h1=>?_,A0,h1,h2,λa ha=>NV.1<|B9.1 h3 a ha,λa ha=>NV.1<|B9.1 h4 a ha,o2,o3,λi h0 h1=>afw h5 h0 h1⟩
 have:=Kp hv h0 h1
 exact aIm
def PP (rows:aX) (gs:aG) (al lv:aB):aM:=Mc rows al<|Dx gs lv
def tpO (gs:aG) (mo:aB) (i:Y):Y:=E6 gs i<|gi mo i
def yQ {gs:aG}{lv:aB}:M (Dx gs lv)=M gs:=by simp [Dx]
def P3 {gs:aG}{lv:aB}{i:Y}(h0:0<=i) (h1:i<(M gs:Y)):gi (Dx gs lv) i=CQ gs i (gi lv i):=by
 rw [Gc (by rw [yQ];omega)]
 simp only [Dx,qx,cM];rfl
def acM {gs:aG}{i:Y}:CQ gs i 0=0:=by simp [CQ,DD]
def yS {gs:aG}{i a b:Y}(hh:D5 (AF gs i).2.2.2.1 (AF gs i).2.2.2.2.1 (AF gs i).2.2.2.2.2.1=U) (h0:0<=a) (h1:a<=b):CQ gs i a<=CQ gs i b:=by
 obtain ⟨g1,g2,g3,g4,g5⟩:=GY.1 hh;exact yR ⟨g1,g4⟩ h0 h1
def aFi {gs:aG}{i a b:Y}(hh:D5 (AF gs i).2.2.2.1 (AF gs i).2.2.2.2.1 (AF gs i).2.2.2.2.2.1=U) (h0:0<=a) (h1:a<b):CQ gs i a<CQ gs i b:=by
 obtain ⟨g1,g2,g3,g4,g5⟩:=GY.1 hh
 have h2:=yS hh (show 0<=a+1 by omega) (show a+1<=b by omega)
 have h3:CQ gs i a<CQ gs i (a+1):=by
  unfold CQ DD;split
  ·grind
  ·have:(a+1-1)*(AF gs i).2.2.2.2.2.1=(a-1)*(AF gs i).2.2.2.2.2.1+(AF gs i).2.2.2.2.2.1:=by
    grind
   omega
 omega
def aFh {gs:aG}{i a:Y}(hh:D5 (AF gs i).2.2.2.1 (AF gs i).2.2.2.2.1 (AF gs i).2.2.2.2.2.1=U) (h0:0<=a):0<=CQ gs i a:=by
 have:=yS hh (CN 0) h0
 exact this
def ajU {a b c:Y}(h:b<=c):mx a b<=mx a c:=by
 exact M7
def xP {al am bm:aB}:∀ {ms:aB},(∀m∈ms,gi am m<=gi bm m)->GM al am ms<=GM al bm ms
 | [],_=>CN _
 |m::ms,h=>by
  have h1:=xP (al:=al) (ms:=ms) λx hx=>h x A8
  have h2:=ajU (a:=gi al m)<|h m AG
  rw [Ot,Ot];omega
def fp {al am bm:aB}:∀ {ms:aB},(∀m∈ms,gi am m=gi bm m)->GM al am ms=GM al bm ms
 | [],_=>rfl
 |m::ms,h=>by rw [Ot,Ot,fp (ms:=ms) λx hx=>h x A8,h m AG]
def zv {al am bm:aB}{i:Y}:∀ {ms:aB},ms.Nodup->i∈ms->(∀m∈ms,m≠i->gi am m=gi bm m)->GM al bm ms=GM al am ms+(mx (gi al i) (gi bm i)-mx (gi al i) (gi am i))
 | [],_,h,_=>Ai
 | m::ms,hn,hi,h=>by
  obtain ⟨n1,n2⟩:=Jb.1 hn;rw [Ot,Ot]
  by_cases e:m=i
  ·subst e
   rw [fp (am:=am) (bm:=bm) λx hx=>h x A8 λe=>n1<|e▸hx]
   omega
  ·have hi2:i∈ms:=by
    rcases Au.1 hi with h|h
    ·grind
    ·exact h
   rw [zv n2 hi2 λx hx=>h x A8,h m AG e]
   omega
def afQ {al am bm:aB}{r:Rw}(h:∀m∈r.2,gi am m=gi bm m):rowB al am r=rowB al bm r:=by
 unfold rowB;rw [fp h]
 congr 1
 rw [Gn,B9,B9]
 constructor
 ·grind
 ·grind
structure Inv (rows:aX) (gs:aG) (al sm lv:aB):Prop where
 sl:M sm=M rows
 sm:∀k:aC,k<M rows->sm.getD k 0=GM al (Dx gs lv) (CA rows k).2
 ll:M lv=M gs
 nn:∀j,0<=j->0<=gi lv j
 pp:PP rows gs al lv=U
def gV {rows:aX}{k:Y}(h0:0<=k) (h1:k<(M rows:Y)):CA rows k∈rows:=by
 rw [gO A0];exact Ee _
def jA {rows:aX}{gs:aG}{al mo od lv:aB}(H:Fc rows gs al mo od) {i L:Y}(hl:M lv=M gs) (h0:0<=i) (h1:i<(M gs:Y)) {r:Rw}(hr:r∈rows):
  (∀m∈r.2,m≠i->gi (Dx gs lv) m=gi (Dx gs<|lv.set i.toNat L) m)/\gi (Dx gs<|lv.set i.toNat L) i=CQ gs i L:=by
 refine ⟨λm hm e=>?_,?_⟩
 ·obtain ⟨m0,m1⟩:=(H.mem r hr).2 m hm
  rw [P3 m0 m1,P3 m0 m1,H5 h0 A0 m0,AD e]
 ·rw [P3 h0 h1,H5 h0 A0 h0,AB rfl]
def aC7 {rows:aX}{gs:aG}{al mo od lv:aB}(H:Fc rows gs al mo od) {i L:Y}(hl:M lv=M gs) (h0:0<=i) (h1:i<(M gs:Y)) {r:Rw}(hr:r∈rows) (hc:gi lv i=L-1):
  GM al (Dx gs<|lv.set i.toNat L) r.2=GM al (Dx gs lv) r.2+(if i∈r.2 then Et gs al i L else 0):=by
 obtain ⟨p1,p2⟩:=jA (L:=L) H hl h0 h1 hr;split
 ·rename_i hi
  rw [zv (am:=Dx gs lv) (H.mem r hr).1 hi p1,p2,P3 h0 h1,hc];rfl
 ·rename_i hi
  rw [<-fp (am:=Dx gs lv) λm hm=>p1 m hm λe=>hi<|e▸hm]
  omega
def alI {rows:aX}{gs:aG}{al mo od sm lv:aB}(H:Fc rows gs al mo od) (hI:Inv rows gs al sm lv) {i L:Y}(h0:0<=i) (h1:i<(M gs:Y)) (hL:1<=L) (hc:gi lv i=L-1):
  ((OL rows).getD i.toNat []).all (IQ rows sm<|Et gs al i L)=PP rows gs al (lv.set i.toNat L):=by
 have hg:=H.gl
 rw [mg (λr hr=>⟨(H.mem r hr).1,λm hm=>((H.mem r hr).2 m hm).1⟩) A0,Gn,B9]
 unfold PP Mc;rw [B9]
 have hpp:=hI.pp
 unfold PP Mc at hpp;rw [B9] at hpp
 have hpos:1<=CQ gs i L:=by
  have:=aFi (H.has i h0 h1) (CN 0) (show 0<L by omega)
  rw [acM] at this;omega
 have hfit:∀k:Y,0<=k->k<(M rows:Y)->i∈(CA rows k).2->(IQ rows sm (Et gs al i L) k=rowB al (Dx gs<|lv.set i.toNat L) (CA rows k)):=λk k0 k1 hk=>by
  have hr:=gV k0 k1
  have hs:=hI.sm k.toNat A0
  have hp:=aC7 (L:=L) H hI.ll h0 h1 hr hc
  have hz:(CA rows k).2.all (λm=>gi (Dx gs<|lv.set i.toNat L) m==0)=false:=by
   rw [GS];intro hz
   have:=B9.1 hz i hk
   rw [(jA (L:=L) H hI.ll h0 h1 hr).2,CO] at this;omega
  unfold IQ rowB
  grind
 constructor
 ·intro h r hr
  obtain ⟨k,hk,rfl⟩:=G4.1 hr
  have ek:CA rows (k:Y)=rows[k]:=gO tI
  by_cases hi:i∈rows[k].2
  ·have:=h (k:Y)<|P2.2 ⟨A0,A0,by
    rw [M4,ek,C2 h0]
    simpa using hi⟩
   rw [hfit k A0 A0 A8,ek] at this;exact this
  ·rw [<-afQ (am:=Dx gs lv) λm hm=>(jA (L:=L) H hI.ll h0 h1 hr).1 m hm λe=>hi<|e▸hm]
   exact hpp _ hr
 ·intro h x hx
  obtain ⟨x0,x1,x2⟩:=P2.1 hx;rw [hfit x x0 A0 A8];exact h _<|gV x0 A0
def aiV {rows:aX}{gs:aG}{al mo od sm lv:aB}{b:aM}(H:Fc rows gs al mo od) (hI:Inv rows gs al sm lv) {i L:Y}(h0:0<=i) (h1:i<(M gs:Y)) (hL:1<=L):
  (ER (OL rows) rows gs al mo L (sm,lv,b) i).2.1=GL (PP rows gs al) (tpO gs mo) L lv i/\Inv rows gs al (ER (OL rows) rows gs al mo L (sm,lv,b) i).1 (ER (OL rows) rows gs al mo L (sm,lv,b) i).2.1/\((ER (OL rows) rows gs al mo L (sm,lv,b) i).2.2=X->b=X/\(ER (OL rows) rows gs al mo L (sm,lv,b) i).2.1=lv):=by
 unfold ER GL
 by_cases hc:gi lv i=L-1/\L<=tpO gs mo i
 ·have hf:=alI H hI h0 h1 hL hc.1
  rw [AB (show lv.getD i.toNat 0=L-1/\L<=E6 gs i (gi mo i) from hc),AB hc,hf]
  by_cases hp:PP rows gs al (lv.set i.toNat L)=U
  ·rw [AB hp,AB hp]
   have hg:=H.gl
   refine ⟨rfl,⟨by rw [ff];exact hI.sl,λk hk=>?_,by rw [Bf];exact hI.ll,λj hj=>?_,hp⟩,λh=>Ai⟩
   ·have hr:CA rows (k:Y)∈rows:=gV A0 A0
    rw [mg (λr hr=>⟨(H.mem r hr).1,λm hm=>((H.mem r hr).2 m hm).1⟩) A0,x9 fk (λr hr=>(P2.1 hr).1) (by rw [hI.sl];exact hk),hI.sm k hk,aC7 (L:=L) H hI.ll h0 h1 hr hc.1]
    have:(k:Y)∈Hw 0 rows (i.toNat:Y)↔i∈(CA rows (k:Y)).2:=by
     rw [P2,M4,C2 h0]
     constructor
     ·grind
     ·grind
    by_cases hm:i∈(CA rows (k:Y)).2
    ·grind
    ·grind
   ·simp only
    rw [H5 h0 (by rw [hI.ll];exact h1) hj]
    split
    ·omega
    ·exact hI.nn j hj
  ·rw [AD hp,AD hp]
   grind
 ·rw [AD (show ¬(lv.getD i.toNat 0=L-1/\L<=E6 gs i (gi mo i)) from hc),AD hc]
  grind
def zl {rows:aX}{gs:aG}{al mo od:aB}(H:Fc rows gs al mo od) {L:Y}(hL:1<=L):∀ {l sm lv:aB}{b:aM},O0 (M gs) l->Inv rows gs al sm lv->
  (swp (OL rows) rows gs al mo L (sm,lv,b) l).2.1=HJ (PP rows gs al) (tpO gs mo) L lv l/\Inv rows gs al (swp (OL rows) rows gs al mo L (sm,lv,b) l).1 (swp (OL rows) rows gs al mo L (sm,lv,b) l).2.1/\((swp (OL rows) rows gs al mo L (sm,lv,b) l).2.2=X->b=X/\(swp (OL rows) rows gs al mo L (sm,lv,b) l).2.1=lv)
 | [],sm,lv,b,_,hI=>⟨rfl,hI,λh=>⟨h,rfl⟩⟩
 |i::l,sm,lv,b,hr,hI=>by
  obtain ⟨i0,i1⟩:=hr i AG;obtain ⟨r1,r2,r3⟩:=aiV (b:=b) H hI i0 i1 hL;obtain ⟨s1,s2,s3⟩:=zl H hL (l:=l) (b:=(ER (OL rows) rows gs al mo L (sm,lv,b) i).2.2) (λx hx=>hr x A8) r2
  refine ⟨s1.trans (by rw [r1];rfl),s2,λh=>?_⟩
  obtain ⟨t1,t2⟩:=s3 h;obtain ⟨t3,t4⟩:=r3 t1;exact ⟨t3,t2.trans t4⟩
def zS {rows:aX}{gs:aG}{al mo od:aB}(H:Fc rows gs al mo od):∀ {f:aC}{L:Y}{sm lv:aB},1<=L->Inv rows gs al sm lv->(∀i∈od,gi lv i<=L-1)->shl (OL rows) rows gs al mo od f L sm lv=EY (PP rows gs al) (tpO gs mo) od f L lv
 |0,_,_,_,_,_,_=>rfl
 | f+1,L,sm,lv,hL,hI,hb=>by
  obtain ⟨s1,s2,s3⟩:=zl (b:=X) H hL H.ord hI;rw [shl,EY];split
  ·rw [zS H A0 s2 (λi hi=>by
    rw [s1]
    have h1:=mS (P:=PP rows gs al) (tp:=tpO gs mo) (L:=L) (H.ord i hi).1 (l:=od) (lv:=lv) (by rw [hI.ll];exact H.ord)
    have h2:=hb i hi
    omega),s1]
  ·rename_i hc
   have hc:(swp (OL rows) rows gs al mo L (sm,lv,X) od).2.2=false:=A8
   have e:=(s3 hc).2
   rw [<-s1,e,afD λi hi=>A8]
def IF {n:aC}{j:Y}:gi (aq n 0) j=0:=by
 unfold gi
 grind
def ach {rows:aX}{gs:aG}{al mo od:aB}(H:Fc rows gs al mo od):Inv rows gs al (SM al rows) (aq (M gs) 0):=by
 have hz:∀r∈rows,∀m∈r.2,gi (Dx gs<|aq (M gs) 0) m=0:=λr hr m hm=>by
  obtain ⟨m0,m1⟩:=(H.mem r hr).2 m hm;rw [P3 m0 m1,IF,acM]
 refine ⟨wN,λk hk=>?_,Bc,λj _=>by rw [IF];omega,?_⟩
 ·rw [aFl hk]
  have hr:CA rows (k:Y)∈rows:=gV A0 A0
  unfold smA GM
  congr 1
  refine HU λm hm=>?_
  obtain ⟨m0,m1⟩:=(H.mem _ hr).2 m hm;rw [hz _ hr m hm]
  have:=H.al _<|IG m0 (by rw [H.all];exact m1)
  unfold mx;omega
 ·unfold PP Mc
  rw [B9];intro r hr;unfold rowB
  grind
def lvF (rows:aX) (gs:aG) (al mo od:aB):aB:=EY (PP rows gs al) (tpO gs mo) od 80 1<|aq (M gs) 0
def je {rows:aX}{gs:aG}{al mo od:aB}(H:Fc rows gs al mo od) {i:Y}(h0:0<=i) (h1:i<(M gs:Y)):0<=tpO gs mo i/\tpO gs mo i<=80/\tpO gs mo i<DV (AF gs i).2.2.2.1 (AF gs i).2.2.2.2.1 (AF gs i).2.2.2.2.2.1:=
 ⟨afZ (H.has i h0 h1) (H.mo _<|IG h0 (by rw [H.mol];exact h1)).1,mI,aEg<|H.has i h0 h1⟩
def ao6 {rows:aX}{gs:aG}{al mo od:aB}(H:Fc rows gs al mo od):shV rows gs al mo od=lvF rows gs al mo od:=by
 unfold shV lvF;rw [H.all,zS H A0 (ach H) (λi _=>by rw [IF];omega),y9,wF λi hi=> .inr ?_]
 have:=je H (H.ord i hi).1 (H.ord i hi).2
 omega
section
variable {rows : List Rw} {gs : List Ch} {al mo od : List Int}
def ajb:M (lvF rows gs al mo od)=M gs:=by
 unfold lvF;rw [aA5,Bc]
def aAK (H:Fc rows gs al mo od):O0 (M<|aq (M gs) (0:Y)) od:=by rw [Bc];exact H.ord
def aqw (H:Fc rows gs al mo od) {j:Y}(hj:0<=j):0<=gi (lvF rows gs al mo od) j:=by
 have:=aFR (P:=PP rows gs al) (tp:=tpO gs mo) (f:=80) (L:=1) hj<|aAK H
 rw [IF] at this;exact this
def aEc (H:Fc rows gs al mo od) {j:Y}(h0:0<=j) (h1:j<(M gs:Y)):gi (lvF rows gs al mo od) j<=tpO gs mo j:=by
 have h2:=aFS (P:=PP rows gs al) (tp:=tpO gs mo) (f:=80) (L:=1) h0<|aAK H
 rw [IF] at h2
 have h3:=je H h0 h1
 unfold lvF;omega
def aqv (H:Fc rows gs al mo od):PP rows gs al (lvF rows gs al mo od)=true:=acr (ach H).pp
def al4 {i k:Y}(hh:D5 (AF gs i).2.2.2.1 (AF gs i).2.2.2.2.1 (AF gs i).2.2.2.2.2.1=U) (h0:0<=k) (h1:k<DV (AF gs i).2.2.2.1 (AF gs i).2.2.2.2.1 (AF gs i).2.2.2.2.2.1):E6 gs i (CQ gs i k)=k:=by
 have h2:=aFh hh h0
 have h3:=(j3 hh h2 h0 h1).1<|CN _
 have h4:=aEg (a:=CQ gs i k) hh
 have h5:=(j3 hh h2 (k:=Fv (AF gs i).2.2.2.1 (AF gs i).2.2.2.2.1 (AF gs i).2.2.2.2.2.1<|CQ gs i k) A0 h4).2<|CN _
 by_cases e:k<Fv (AF gs i).2.2.2.1 (AF gs i).2.2.2.2.1 (AF gs i).2.2.2.2.2.1 (CQ gs i k)
 ·have:=aFi hh h0 e
  have h5:CQ gs i (Fv (AF gs i).2.2.2.1 (AF gs i).2.2.2.2.1 (AF gs i).2.2.2.2.2.1<|CQ gs i k)<=CQ gs i k:=h5
  omega
 ·unfold E6
  omega
end
def amW {mi ma st k:Y}(hh:D5 mi ma st=U) (h0:0<=k) (h1:k<DV mi ma st):DD mi st k<=ma:=by
 obtain ⟨g1,g2,g3,g4,g5⟩:=GY.1 hh;unfold DD;split
 ·omega
 ·unfold DV at h1
  have h2:(k-1)<=(ma-mi) / st:=A0
  have:=(Int.le_ediv_iff_mul_le (a:=k-1) (b:=ma-mi) (c:=st) A0).1 h2
  omega
def auP {mi ma st k:Y}(h0:0<=k) (h1:k<DV mi ma st):amA mi ma st k=DD mi st k/\amE mi ma st k=0:=by
 unfold amA amE
 grind
section
variable {rows : List Rw} {gs : List Ch} {al mo od lv : List Int}
def lvR (gs:aG) (lv:aB):Prop:=M lv=M gs/\∀j,0<=j->j<(M gs:Y)->0<=gi lv j/\gi lv j<DV (AF gs j).2.2.2.1 (AF gs j).2.2.2.2.1 (AF gs j).2.2.2.2.2.1
def pO (H:Fc rows gs al mo od):lvR gs (lvF rows gs al mo od):=⟨ajb,λj h0 h1=>⟨aqw H h0,by
 have:=aEc H h0 h1
 have:=je H h0 h1
 omega⟩⟩
def amX (H:Fc rows gs al mo od) {j k:Y}(h0:0<=j) (h1:j<(M gs:Y)) (k0:0<=k) (k1:k<DV (AF gs j).2.2.2.1 (AF gs j).2.2.2.2.1 (AF gs j).2.2.2.2.2.1):(0<=CQ gs j k/\CQ gs j k<=80)/\aeI gs j k=0/\aeJ gs j k=CQ gs j k/\E6 gs j (CQ gs j k)=k:=by
 have hh:=H.has j h0 h1
 obtain ⟨g1,g2,g3,g4,g5⟩:=GY.1 hh
 have h2:=amW hh k0 k1
 obtain ⟨e1,e2⟩:=auP k0 k1;refine ⟨⟨aFh hh k0,?_⟩,e2,e1,al4 hh k0 k1⟩;unfold CQ;omega
def auN (H:Fc rows gs al mo od) (R:lvR gs lv) {j:Y}(h0:0<=j) (h1:j<(M gs:Y)):letI a:=Dx gs lv;E6 gs j (gi a j)=gi lv j/\aeI gs j (gi lv j)=0/\aeJ gs j (gi lv j)=gi a j/\0<=gi a j/\gi a j<=80:=by
 obtain ⟨r0,r1⟩:=R.2 j h0 h1;obtain ⟨a1,a2,a3,a4⟩:=amX H h0 h1 r0 r1;rw [P3 h0 h1]
 grind
def avx (H:Fc rows gs al mo od) {j k:Y}(h0:0<=j) (h1:j<(M gs:Y)) (k0:0<=k) (k1:k<DV (AF gs j).2.2.2.1 (AF gs j).2.2.2.2.1 (AF gs j).2.2.2.2.2.1):CQ gs j k<=gi mo j↔k<=tpO gs mo j:=
 j3 (H.has j h0 h1) (H.mo _<|IG h0 (by rw [H.mol];exact h1)).1 k0 k1
def aeS {a b:aB}(hl:M a=M b) (h:∀j:Y,0<=j->j<(M b:Y)->gi a j=gi b j):a=b:=VQ hl λk h1 h2=>by
 have:=h (k:Y) A0 A0
 rw [Gc A8,Gc A8] at this
 grind
def g4 (gs:aG) (mo b am:aB) (j:Y):Prop:=(0<=gi b j/\gi b j<DV (AF gs j).2.2.2.1 (AF gs j).2.2.2.2.1 (AF gs j).2.2.2.2.2.1)/\gi am j=CQ gs j (gi b j)/\gi am j<=gi mo j
end
section
variable {cs : List Cd} {os : List ByteArray} {ks : List Ko} {gs : List Ch} {bs : List Ba} {al mo od : List Int}
def aBz (h:EN cs os ks gs bs al mo od=U):E5 cs os ks gs bs al mo od=Dx gs (lvF (CK cs gs<|M cs) gs al mo od):=by
 unfold E5;rw [AB h,ao6<|oC h]
def aby (h:EN cs os ks gs bs al mo od=U):KX cs os ks gs bs al mo od=0:=by unfold KX;rw [AB h]
end
abbrev Ag:Ty:=.pair A7 A7
abbrev Ra:=Int×Int
def bu:qT (List Ra):=⟨⟩
def aKO:qT (List<|Int×Ra):=⟨⟩
instance:Coe (List Ra) LV:=⟨.xl Ag⟩
def Bb (l:bu) (n:Y):Ra:=l.getD n.toNat (0,0)
def lz {l:bu}{n:Y}(h:n.toNat<M l):Bb l n=l[n.toNat]:=K4 h
def aFW {l:aB}{j:Y}(h:M l<=j.toNat):gi l j=0:=by
 unfold gi;rw [CH,OF h];rfl
def arW {l:aB}{a:Y}(h:a∈l):∃j:Y,(0<=j/\j<(M l:Y))/\gi l j=a:=by
 obtain ⟨k,hk,e⟩:=G4.1 h;exact ⟨k,A0,by rw [Gc A8];simpa using e⟩
def neN {a b:aC}:((a:Y) !=(b:Y))=!an (a=b):=by
 by_cases h:a=b
 ·simp [h]
 ·have h':(a:Y)≠(b:Y):=A0
  simp [h,h']
def E4 (t:Y) (x:Le):aM:=an (x.2.2.2.1<=t)&&an (Cc x>t)
def HO (o:aB) (x:Le):aB:=o.set x.2.1.toNat<|mx (gi o x.2.1) x.2.2.1
def FL (n:aC) (l:aL) (t:Y):aB:=(l.filter<|E4 t).foldl HO<|aq n 0
def below (n:Y) (l:aL):aM:=l.all λx=>an<|x.2.1<n
def IU (l:aL) (n t:Y):aM:=(Ao l&&(inB n 0 16&&inB t 0 1100000))&&below n l
def FY (l:aL) (n t:Y):aB:=if IU l n t=U then FL n.toNat l t else []
def Hs (l:aL) (n t:Y):Y:=if IU l n t=U then 0 else 1
def xB {o:aB}{x:Le}:M (HO o x)=M o:=by simp [HO]
def aAP:∀ {l:aL}{o:aB},M (l.foldl HO o)=M o
 | [],_=>rfl
 |x::l,o=>by rw [Hz,aAP,xB]
def Wt {n:aC}{l:aL}{t:Y}:M (FL n l t)=n:=by rw [FL,aAP,Bc]
def afB {l:aL}(h:Ao l=U):l.Pairwise (λa b=>a.1<b.1/\a.2.2.2.1<=b.2.2.2.1):=by
 unfold Ao at h;rw [AP] at h
 have hs:∀k:aC,(hk:k+1<M l)->l[k].1<l[k+1].1/\l[k].2.2.2.1<=l[k+1].2.2.2.1:=λk hk=>by
  have:=D3.1 h.2 (k+1) A0
  unfold FK Hq at this;rw [Jw (n:=((k+1:aC):Y)) A8,Jw (n:=((k+1:aC):Y)-1) A0] at this;simp only [AP,C6,AT] at this;obtain ⟨_,h1|h1⟩:=this
  ·omega
  ·have e:(((k+1:aC):Y)-1).toNat=k:=A0
   simp only [e,BW] at h1;omega
 rw [cb];intro i j hi hj hij
 induction j with
 |zero=>omega
 | succ j ih=>
  have h1:=hs j A0
  by_cases e:i=j
  ·grind
  ·have h2:=ih A0 A0
   omega
def C7 (c:Ch):Y:=c.2.2.2.2.2.2.1
def Lt (c:Ch) (r:Ra):aM:=GN c.2.2.1 c.2.2.2.1 c.2.2.2.2.1 c.2.2.2.2.2.1 (C7 c) r.1 r.2
def Ft (x:Dm):aM:=inB x.2.1 0 1000000000&&(inB x.2.2.1 0 1000000&&inB x.2.2.2 1 9)
def HI (cs:aJ) (os:aF) (ks:aP) (gs:aG) (bs:aQ) (l:aL) (rs:bu) (d:aZ) (t n:Y):aM:=
 (Av cs os ks gs bs&&Ao l)&&((an (M rs=M gs)&&(an (M d=M gs)&&(inB t 0 1000000&&inB n 1 999900)))&&(below (M gs) l&&Ck (M gs) (λj=>Lt (AF gs j) (Bb rs j)&&Ft (DC d j))))
def Fb (n:aC) (f:Y->Y):aB:=(au n).map λk:aC=>f (k:Y)
def HY {n:aC}{f:Y->Y}:M (Fb n f)=n:=by simp [Fb]
def MH {n:aC}{f:Y->Y}{j:Y}(h0:0<=j) (h1:j<(n:Y)):gi (Fb n f) j=f j:=by
 rw [Gc (by rw [HY];omega)]
 simp only [Fb,qx,cM]
 grind
def aej {n:aC}{f:Y->Y}{x:Y}(h:x∈Fb n f):∃j,(0<=j/\j<(n:Y))/\f j=x:=by
 obtain ⟨k,hk,e⟩:=EH.1 h
 grind
def BT (gs:aG):aB:=Fb (M gs) λk=>C7<|AF gs k
def H8 (gs:aG) (d:aZ):aB:=Fb (M gs) (λk=>if (DC d k).1=U then (AF gs k).2.2.2.2.1 else 0)
def Cr (gs:aG) (l:aL) (t:Y):aB:=Fb (M gs) λk=>mx (C7<|AF gs k)<|gi (FL (M gs) l t) k
def tgL (cs:aJ) (os:aF) (ks:aP) (gs:aG) (bs:aQ) (d:aZ) (t:Y):aB:=E5 cs os ks gs bs (BT gs) (H8 gs d)<|Fa d t
def GI (cs:aJ) (os:aF) (ks:aP) (gs:aG) (bs:aQ) (l:aL) (d:aZ) (t:Y):aB:=E5 cs os ks gs bs (Cr gs l t) (tgL cs os ks gs bs d t)<|Fa d t
def afj {l:bu}{i j:Y}{v:Ra}(h0:0<=i) (h1:i<(M l:Y)) (hj:0<=j):Bb (l.set i.toNat v) j=if j=i then v else Bb l j:=by
 unfold Bb;rw [CH,CH,G1]
 by_cases e:j=i
 ·subst e
  rw [AB rfl,AB rfl,AB A0];rfl
 ·grind
def alF {a b:bu}(hl:M a=M b) (h:∀j:Y,0<=j->j<(M b:Y)->Bb a j=Bb b j):a=b:=VQ hl λk h1 h2=>by
 have:=h (k:Y) A0 A0
 rw [lz A8,lz A8] at this
 grind
def cI (cs:aJ) (os:aF) (ks:aP) (gs:aG) (bs:aQ) (l:aL) (d:aZ) (t:Y) (od:aB):aB:=E5 cs os ks gs bs (Cr gs l t) (E5 cs os ks gs bs (BT gs) (H8 gs d) od) od
def nwO (a t:Y):Option Le->Bool
 |none=>U
 |some x=>x.2.2.1 !=a ||an (x.2.2.2.1<=t-6)
def JW (gs:aG) (l:aL) (t i a:Y):aM:=!an (a<=C7 (AF gs i))&&nwO a t (l.reverse.find? λx=>x.2.1==i)
def Ih (c:Ch) (r:Ra) (w:Y):Y:=nA c.2.2.1 c.2.2.2.1 c.2.2.2.2.1 c.2.2.2.2.2.1 (C7 c) r.1 r.2 w
def nxS (c:Ch) (r:Ra) (w:Y):Y:=nS c.2.2.1 c.2.2.2.1 c.2.2.2.2.1 c.2.2.2.2.2.1 (C7 c) r.1 r.2 w
def EC (gs:aG) (rs:bu) (w:aB) (k:aC):aB:=Fb k λk=>Ih (AF gs k) (Bb rs k)<|gi w k
def dcR (gs:aG) (rs:bu) (w:aB) (k:aC):bu:=(au k).map λk:aC=>(Ih (AF gs k) (Bb rs k)<|gi w k,nxS (AF gs k) (Bb rs k)<|gi w k)
def FO (gs:aG) (l:aL) (t n:Y) (am:aB):aC->List Le
 |0=>[]
 |k+1=>FO gs l t n am k++(if JW gs l t k (gi am k)=U then [(n+M (FO gs l t n am k),(k:Y),gi am k,t,12)] else [])
def gr {gs:aG}{rs:bu}{w:aB}{k:aC}:M (dcR gs rs w k)=k:=by simp [dcR]
def au0 {gs:aG}{rs:bu}{w:aB}{k:aC}{j:Y}(h0:0<=j) (h1:j<(k:Y)):Bb (dcR gs rs w k) j=(Ih (AF gs j) (Bb rs j)<|gi w j,nxS (AF gs j) (Bb rs j)<|gi w j):=by
 rw [lz (by rw [gr];omega)]
 simp only [dcR,qx,cM]
 grind
def okC (c:Ch) (r:Ra) (w:Y):aM:=okB c.2.2.1 c.2.2.2.1 c.2.2.2.2.1 c.2.2.2.2.2.1 (C7 c) r.1 r.2 w
def dcK (gs:aG) (rs:bu) (w:aB):Prop:=∀j,0<=j->j<(M gs:Y)->okC (AF gs j) (Bb rs j) (gi w j)=U
def wC {gs:aG}{l:aL}{t n:Y}{am:aB}:∀ {k:aC},M (FO gs l t n am k)<=k
 |0=>by simp [FO]
 |k+1=>by
  have:=wC (gs:=gs) (l:=l) (t:=t) (n:=n) (am:=am) (k:=k)
  rw [FO,Ax];exact Qw
section
variable (cs : List Cd) (os : List ByteArray) (ks : List Ko) (gs : List Ch) (bs : List Ba) (l : List Le) (rs : List Ra) (d : List Dm) (t n : Int)
def deA:aB:=if HI cs os ks gs bs l rs d t n=U then EC gs rs (GI cs os ks gs bs l d t) (M gs) else []
def deR:bu:=if HI cs os ks gs bs l rs d t n=U then dcR gs rs (GI cs os ks gs bs l d t) (M gs) else []
def KY:aL:=if HI cs os ks gs bs l rs d t n=U then FO gs l t n (EC gs rs (GI cs os ks gs bs l d t)<|M gs) (M gs) else []
def deE:Y:=if HI cs os ks gs bs l rs d t n=U then 0 else 1
end
section
variable {cs : List Cd} {os : List ByteArray} {ks : List Ko} {gs : List Ch} {bs : List Ba} {l : List Le} {rs : List Ra} {d : List Dm} {t n : Int}
structure Vd (cs:aJ) (os:aF) (ks:aP) (gs:aG) (bs:aQ) (l:aL) (rs:bu) (d:aZ) (t n:Y):Prop where
 site:Av cs os ks gs bs=U
 les:Ao l=U
 rl:M rs=M gs
 dl:M d=M gs
 gl:M gs<=16
 tb:0<=t/\t<=1000000
 nb:1<=n/\n<=999900
 co:below (M gs) l=U
 ra:∀j:Y,0<=j->j<(M gs:Y)->Lt (AF gs j) (Bb rs j)=U
 dm:∀j:Y,0<=j->j<(M gs:Y)->Ft (DC d j)=U
 ch:∀j:Y,0<=j->j<(M gs:Y)->JR (AF gs j)=U
def aar (h:HI cs os ks gs bs l rs d t n=U):Vd cs os ks gs bs l rs d t n:=by
 unfold HI at h;simp only [AP,AT,B6] at h;obtain ⟨⟨h1,h2⟩,⟨h3,h4,h5,h6⟩,h7,h8⟩:=h
 have hj:∀j:Y,0<=j->j<(M gs:Y)->Lt (AF gs j) (Bb rs j)=U/\Ft (DC d j)=true:=λj h0 hj=>by
  have:=D3.1 h8 j.toNat A0
  rw [C2 h0,AP] at this;exact this
 exact ⟨h1,h2,h3,h4,(Ci.1 h1).1.2.2.2.2.1,h5,h6,h7,λj h0 h1=>(hj j h0 h1).1,λj h0 h1=>(hj j h0 h1).2,λj h0 hj=>by
  have:=Kp h1 h0 hj
  unfold Ek at this;simp only [AP] at this;exact this.2.2⟩
def iN {c:Ch}(h:JR c=U):(1<=c.2.2.1/\c.2.2.1<=7)/\(1<=c.2.2.2.1/\c.2.2.2.1<=c.2.2.2.2.1)/\c.2.2.2.2.1<=80/\(1<=c.2.2.2.2.2.1/\c.2.2.2.2.2.1<=80)/\0<=C7 c/\C7 c<=c.2.2.2.2.1:=by
 unfold JR at h;unfold C7;simp only [AP,C6,B6,CO] at h;omega
def jC (hv:Ao l=U) {m:aC}:∀a∈FL m l t,0<=a/\a<=80:=by
 have key:∀(l:aL) (o:aB),(∀x∈l,Ce x=U)->(∀a∈o,0<=a/\a<=80)->∀a∈l.foldl HO o,0<=a/\a<=80:=λl=>by
  induction l with
  |nil=>exact λo _ h=>h
  | cons x l ih=>
   intro o hl ho;refine ih _ (λy hy=>hl y A8) λa ha=>?_
   have hx:=IB.1<|hl x AG
   rcases Lx ha with ha|rfl
   ·grind
   ·have:0<=gi o x.2.1/\gi o x.2.1<=80:=by
     by_cases h:x.2.1.toNat<M o
     ·rw [Gc h];exact ho _<|Ee _
     ·rw [aFW A0];omega
    exact M7
 refine key _ _ (λx hx=>(Eh hv).2 x (CG.1 hx).1) λa ha=>?_
 rw [List.eq_of_mem_replicate ha];omega
def aAV (hd:M d=M gs):FE (Fa d t) (M gs)=true:=by
 unfold FE;rw [xu,hd,CB rfl,DP,AP,B9];refine ⟨λx hx=>gF.2 (by have:=agM.1 hx;rw [hd] at this;exact this),wZ.2 λj hj hm=>?_⟩
 obtain ⟨k,hk,e⟩:=G4.1 hm;rw [Is] at hk;rw [List.getElem_take] at e
 have:=(cb.1<|afM (d:=d) (t:=t)) k j A0 hj A0
 exact this e
def Yr {l:aB}{a b:Y}(hz:a<=0/\0<=b) (h:∀x∈l,a<=x/\x<=b) {j:Y}:a<=gi l j/\gi l j<=b:=by
 by_cases hj:j.toNat<M l
 ·rw [Gc hj];exact h _<|Ee _
 ·rw [aFW A0];exact hz
structure Si (cs:aJ) (os:aF) (ks:aP) (gs:aG) (bs:aQ) (d:aZ):Prop where
 site:Av cs os ks gs bs=U
 dl:M d=M gs
def Si.ch (h:Si cs os ks gs bs d) {j:Y}(h0:0<=j) (hj:j<(M gs:Y)):JR (AF gs j)=true:=by
 have:=Kp h.site h0 hj
 unfold Ek at this
 grind
def Vd.si (h:Vd cs os ks gs bs l rs d t n):Si cs os ks gs bs d:=⟨h.site,h.dl⟩
def asz (h:Si cs os ks gs bs d):∀a∈BT gs,0<=a/\a<=80:=λa ha=>by
 exact aIC
def amw (h:Si cs os ks gs bs d):∀a∈H8 gs d,0<=a/\a<=80:=λa ha=>by
 exact aIC
def auQ (h:Vd cs os ks gs bs l rs d t n):∀a∈Cr gs l t,0<=a/\a<=80:=λa ha=>by
 obtain ⟨j,⟨h0,h1⟩,rfl⟩:=aej ha
 have:=iN<|h.ch j h0 h1
 have:=Yr (j:=j) ⟨CN 0,AS⟩<|jC h.les (m:=M gs) (t:=t)
 exact M7
def aC0 {al mo od:aB}(hk:EN cs os ks gs bs al mo od=U):letI a:=E5 cs os ks gs bs al mo od;M a=M gs/\∀j,0<=j->j<(M gs:Y)->(0<=gi a j/\gi a j<=80)/\gi a j<=gi mo j:=by
 have H:=oC hk
 rw [aBz hk];refine ⟨yQ,λj h0 h1=>?_⟩
 obtain ⟨_,_,_,e4,e5⟩:=auN H (pO H) h0 h1
 have h3:=(avx H h0 h1 ((pO H).2 j h0 h1).1 ((pO H).2 j h0 h1).2).2<|aEc H h0 h1
 rw [P3 h0 h1] at e4 e5|-
 grind
def zT {al mo od:aB}(hk:EN cs os ks gs bs al mo od=U):M (E5 cs os ks gs bs al mo od)=M gs/\∀a∈E5 cs os ks gs bs al mo od,0<=a/\a<=80:=by
 obtain ⟨h1,h2⟩:=aC0 hk;refine ⟨h1,λa ha=>?_⟩
 obtain ⟨j,hj,rfl⟩:=arW ha
 grind
def abt (h:Si cs os ks gs bs d):EN cs os ks gs bs (BT gs) (H8 gs d) (Fa d t)=true:=
 J1.2 ⟨h.site,HY,HY,B9.2 λa ha=>NV.2<|asz h a ha,B9.2 λa ha=>NV.2<|amw h a ha,aAV h.dl⟩
def abu (h:Si cs os ks gs bs d):M (tgL cs os ks gs bs d t)=M gs/\∀a∈tgL cs os ks gs bs d t,0<=a/\a<=80:=by
 exact zT<|abt (t:=t) h
def Yw (h:Vd cs os ks gs bs l rs d t n):EN cs os ks gs bs (Cr gs l t) (tgL cs os ks gs bs d t) (Fa d t)=true:=
 J1.2 ⟨h.site,HY,(abu h.si).1,B9.2 λa ha=>NV.2<|auQ h a ha,B9.2 λa ha=>NV.2<|(abu h.si).2 a ha,aAV h.dl⟩
def ab6 (h:Vd cs os ks gs bs l rs d t n):M (GI cs os ks gs bs l d t)=M gs/\∀a∈GI cs os ks gs bs l d t,0<=a/\a<=80:=by
 exact zT<|Yw h
def awL (h:Vd cs os ks gs bs l rs d t n) {j:Y}:letI a:=GI cs os ks gs bs l d t;0<=gi a j/\gi a j<=80:=Yr ⟨CN 0,AS⟩ (ab6 h).2
def aG5 (h:Vd cs os ks gs bs l rs d t n):dcK gs rs (GI cs os ks gs bs l d t):=λj j0 j1=>by
 have hr:=h.ra j j0 j1
 have hb:=awL h (j:=j)
 unfold Lt at hr;unfold okC okB;rw [hr,CB hb.1,CB hb.2];rfl
def amY (h:Vd cs os ks gs bs l rs d t n):IU l (M gs) t=true:=by
 have:=h.gl
 have:=h.tb
 unfold IU;rw [h.les,B6.2 ⟨A0,A0⟩,B6.2 ⟨A0,A0⟩,h.co];rfl
end
section
variable {P : List Int -> Bool} {tp : Int -> Int}
end
def Ii (mn mx st a:Y):aM:=a==0 ||(an (mn<=a)&&(an (a<=mx)&&((a-mn) %st==0)))
def Ro {mn mx st a:Y}:Ii mn mx st a=U↔a=0\/(mn<=a/\a<=mx/\(a-mn) %st=0):=by simp [Ii]
def Wz {mn mx st a:Y}(hc:DG mn mx st):Ii mn mx st (BZ mn mx st a)=true:=by
 unfold DG at hc;rw [Ro];unfold BZ;split
 ·grind
 ·right
  have e1:=vq (x:=min a mx-mn) (s:=st) A0 A0
  refine ⟨A0,A0,?_⟩
  have h:=cU (min a mx-mn) st
  rw [show min a mx-(min a mx-mn) %st-mn=st*((min a mx-mn) / st) by omega]
  simp_all
def Y2 {mn mx st a:Y}(hc:DG mn mx st) (ha:0<=a):BZ mn mx st a<=a:=by
 have hc':=hc
 have:=Wf (a:=a) hc'.1 hc'.2.1 hc'.2.2.1 hc'.2.2.2.1
 by_cases h:a<mn
 ·omega
 ·omega
def ajV {x y s:Y}(hs:1<=s) (hy:y%s=0) (h:y<=x):y<=x-x%s:=by
 have h1:=cU x s
 have h2:=cU y s
 have h3:=rP x (b:=s) A0
 by_cases hq:y / s<=x / s
 ·have:=NG hq (show 0<=s by omega)
  omega
 ·have:=NG (show x / s+1<=y / s by omega) (show 0<=s by omega)
  rw [Int.mul_add,Int.mul_one] at this;omega
def fa {mn mx st a L:Y}(hc:DG mn mx st) (hL:Ii mn mx st L=U) (h:L<=a):L<=BZ mn mx st a:=by
 have hc':=hc
 unfold DG at hc';rw [Ro] at hL;rcases hL with rfl|⟨h1,h2,h3⟩
 ·exact (Wf (a:=a) hc'.1 hc'.2.1 hc'.2.2.1 hc'.2.2.2.1).1
 ·unfold BZ
  have:=ajV (x:=min a mx-mn) (y:=L-mn) (s:=st) A0 h3 A0
  omega
def xx {mn mx st a:Y}(hc:DG mn mx st) (h:Ii mn mx st a=U) (ha:0<=a):BZ mn mx st a=a:=by
 have h1:=Y2 hc ha
 have h2:=fa hc h<|CN a
 omega
def xv {ph mn mx st fb a s want:Y}(h:okB ph mn mx st fb a s want=U):DG mn mx st/\0<=s/\s<=1000000/\0<=want/\want<=80/\0<=a/\a<=80/\Ii mn mx st a=U/\a<=mx/\(a≠0->mn<=a):=by
 have h':=h
 simp only [okB,GN,AP,AT,CO] at h';obtain ⟨⟨_,_,_,_,h5⟩,_⟩:=h';obtain ⟨_,h2,h3,h4,h6,h7,_⟩:=aAL h
 have hl:Ii mn mx st a=true:=by rw [<-h5];exact Wz h2
 have hl':=Ro.1 hl
 have h2':=h2
 unfold DG at h2'
 grind
def awc {ph mn mx st fb a s want:Y}(h:okB ph mn mx st fb a s want=U):nE ph mn mx st fb a s want=0:=by rw [nE,AB h]
def ab7 {ph mn mx st fb a s want:Y}(h:okB ph mn mx st fb a s want=U):nA ph mn mx st fb a s want=if a=0 then (if BZ mn mx st want≠0/\5<=s then mn else 0) else if BZ mn mx st want=0 then 0 else min (BZ mn mx st want) (a+st):=by rw [nA,AB h]
def awZ {ph mn mx st fb a s want:Y}(h:okB ph mn mx st fb a s want=U):nS ph mn mx st fb a s want=if a=0 then (if BZ mn mx st want≠0/\5<=s then 0 else min (s+1) 1000000) else if BZ mn mx st want=0 then 0 else min (s+1) 1000000:=by rw [nS,AB h]
def aEX {mn mx st:Y}(hc:DG mn mx st):Ii mn mx st mn=true:=by
 unfold DG at hc;rw [Ro];right;exact ⟨A0,A0,AG⟩
def alE {mn mx st a:Y}(ha:Ii mn mx st a=U) (h0:a≠0) (h1:a+st<=mx) (hs:1<=st):Ii mn mx st (a+st)=true:=by
 rw [Ro] at ha|-;rcases ha with h|⟨h2,h3,h4⟩
 ·grind
 ·right
  exact ⟨A0,h1,by rw [show a+st-mn=(a-mn)+st by omega,Int.add_emod_right];exact h4⟩
def xy {mn mx st a b:Y}(hc:DG mn mx st) (h0:0<=a) (h:a<=b):BZ mn mx st a<=BZ mn mx st b:=by
 have h1:=Y2 hc h0
 exact fa hc (Wz (a:=a) hc) A0
def aft {mn mx st a:Y}(hc:DG mn mx st):BZ mn mx st a<=mx:=by
 have h:=Ro.1<|Wz (a:=a) hc
 unfold DG at hc;omega
def ak5 {mn mx st a want:Y}(hc:DG mn mx st) (ha:Ii mn mx st a=U) (h0:a≠0) (ha0:0<=a) (hw:0<=want):(if BZ mn mx st want=0 then 0 else min (BZ mn mx st want) (a+st))=BZ mn mx st (min want<|a+st):=by
 have hc':=hc
 unfold DG at hc'
 by_cases h1:want<=a+st
 ·rw [show min want (a+st)=want by omega]
  have:=Y2 hc hw
  omega
 ·rw [show min want (a+st)=a+st by omega]
  by_cases h2:a+st<=mx
  ·have hl:=alE ha h0 h2 A0
   rw [xx hc hl A0]
   have:=fa hc hl (show a+st<=want by omega)
   omega
  ·have m1:=aft (a:=want) hc
   have g1:=fa hc (Wz (a:=want) hc) (show BZ mn mx st want<=a+st by omega)
   have g2:=xy hc (show 0<=a+st by omega) (show a+st<=want by omega)
   omega
def ajm {ph mn mx st fb a s want most:Y}(hk:okB ph mn mx st fb a s want=U) (hm:most=if a=0 then mn else a+st):
  Ii mn mx st (nA ph mn mx st fb a s want)=U/\nA ph mn mx st fb a s want<=want/\nA ph mn mx st fb a s want<=most/\(nA ph mn mx st fb a s want=BZ mn mx st (min want most)\/(a=0/\s<5/\nA ph mn mx st fb a s want=0))/\(a≠0\/5<=s\/nA ph mn mx st fb a s want=0):=by
 obtain ⟨hc,h1,h2,h3,h4,h5,h6,h7,h8,h9⟩:=xv hk
 have hc':=hc
 unfold DG at hc';rw [ab7 hk]
 by_cases h0:a=0
 ·rw [AB h0] at hm|-
  by_cases hh:BZ mn mx st want≠0/\5<=s
  ·rw [AB hh]
   have hw:mn<=want:=by
    apply Classical.byContradiction
    intro hn;exact hh.1<|by rw [BZ,AB A0]
   refine ⟨aEX hc,hw,A0,.inl ?_,.inr<|.inl hh.2⟩;rw [hm,show min want mn=mn by omega,xx hc (aEX hc) A0]
  ·rw [AD hh]
   refine ⟨A8,h3,A0,?_,.inr<|.inr rfl⟩
   by_cases hs:s<5
   ·grind
   ·left
    have h10:BZ mn mx st want=0:=by
     apply Classical.byContradiction
     omega
    have:=xy hc (show 0<=min want most by omega) (show min want most<=want by omega)
    have:=(Wf (a:=min want most) hc'.1 hc'.2.1 hc'.2.2.1 hc'.2.2.2.1).1
    omega
 ·rw [AD h0] at hm|-
  rw [ak5 hc h7 h0 h5 h3]
  have:=Y2 hc (show 0<=min want (a+st) by omega)
  exact ⟨Wz hc,A0,A0,.inl<|by rw [hm],.inl h0⟩
def afV {ph mn mx st fb a s want:Y}(hk:okB ph mn mx st fb a s want=U):
  0<=nA ph mn mx st fb a s want/\(0<=nS ph mn mx st fb a s want/\nS ph mn mx st fb a s want<=1000000/\nS ph mn mx st fb a s want<=s+1)/\(a=0->nA ph mn mx st fb a s want≠0->5<=s)/\(a≠0->nA ph mn mx st fb a s want=0->nS ph mn mx st fb a s want=0)/\
  (¬((nA ph mn mx st fb a s want=0)↔(a=0))->nS ph mn mx st fb a s want=0)/\(((nA ph mn mx st fb a s want=0)↔(a=0))->nS ph mn mx st fb a s want=min (s+1) 1000000):=by
 obtain ⟨hc,h1,h2,h3,h4,h5,h6,h7,h8,h9⟩:=xv hk
 have hc':=hc
 unfold DG at hc'
 have hb:=(Wf (a:=want) hc'.1 hc'.2.1 hc'.2.2.1 hc'.2.2.2.1).1
 rw [ab7 hk,awZ hk]
 by_cases h0:a=0
 ·simp only [AB h0]
  by_cases hh:BZ mn mx st want≠0/\5<=s
  ·omega
  ·omega
 ·simp only [AD h0]
  by_cases hh:BZ mn mx st want=0
  ·omega
  ·omega
def aiY {al x y:aB}{r:Rw}(hm:∀m∈r.2,0<=gi y m/\gi y m<=gi x m) (h:rowB al x r=U):rowB al y r=true:=by
 unfold rowB at h|-;rw [C6] at h|-;rcases h with h|h
 ·left
  rw [B9] at h|-;intro m hmm
  have h1:=h m hmm
  have h2:=hm m hmm
  rw [CO] at h1|-;omega
 ·right
  exact CB<|FV (xP λm hmm=>(hm m hmm).2)<|CW h
def agK {rows:aX}{al x y:aB}(hm:∀r∈rows,∀m∈r.2,0<=gi y m/\gi y m<=gi x m) (h:Mc rows al x=U):Mc rows al y=true:=by
 unfold Mc at h|-;rw [B9] at h|-;exact λr hr=>aiY (hm r hr)<|h r hr
section
variable {cs : List Cd} {os : List ByteArray} {ks : List Ko} {gs : List Ch} {bs : List Ba} {l : List Le} {rs : List Ra} {d : List Dm} {t n : Int}
def ag6 {al mo od:aB}(hk:EN cs os ks gs bs al mo od=U):Mc (CK cs gs<|M cs) al (E5 cs os ks gs bs al mo od)=true:=by
 rw [aBz hk];exact aqv<|oC hk
def au1 {w:aB}{k:aC}{j:Y}(h0:0<=j) (h1:j<(k:Y)):gi (EC gs rs w k) j=Ih (AF gs j) (Bb rs j) (gi w j):=MH h0 h1
def acG (V:Vd cs os ks gs bs l rs d t n) {j:Y}(j0:0<=j) (j1:j<(M gs:Y)):letI a:=GI cs os ks gs bs l d t;0<=gi (EC gs rs a<|M gs) j/\gi (EC gs rs a<|M gs) j<=gi a j/\gi a j<=gi (tgL cs os ks gs bs d t) j:=by
 have hk:=aG5 V j j0 j1
 rw [au1 j0 j1];exact ⟨(afV hk).1,(ajm hk rfl).2.1,((aC0<|Yw V).2 j j0 j1).2⟩
def aiX {r:Rw}{m:Y}(hr:r∈CK cs gs (M cs)) (hm:m∈r.2):0<=m/\m<(M gs:Y):=(row_mem hr).2.1 m hm
def ald (V:Vd cs os ks gs bs l rs d t n):Mc (CK cs gs<|M cs) (Cr gs l t) (EC gs rs (GI cs os ks gs bs l d t)<|M gs)=true:=
 agK (λr hr m hm=>by
  have hm:=aiX hr hm
  have:=acG V hm.1 hm.2
  exact ⟨this.1,this.2.1⟩) (ag6<|Yw V)
def aq1 {i a:Y}(h:JW gs l t i a=U):C7 (AF gs i)<a:=by
 unfold JW at h;rw [AP] at h
 have h1:=h.1
 simp only [CS,CX] at h1;omega
end
abbrev Ld:=Int×Ra
def aKw:qT (List Ld):=⟨⟩
def D8 (l:aKw) (i:aC):Ld:=l.getD i<|Ty.dflt<|.pair A7 Ag
def TD (l:aKw) (i:aC) (v:Y):aKw:=l.set i ((AA<|(l.getD i<|Ty.dflt<|.pair A7 Ag).1+v),(l.getD i<|Ty.dflt<|.pair A7 Ag).2)
def QY (l:aKw) (i:aC) (v:Y):aKw:=letI a:=l.getD i<|Ty.dflt<|.pair A7 Ag;l.set i (a.1,((AA<|a.2.1+v),a.2.2))
def Ia (l:aKw) (i:aC) (v:Y):aKw:=letI a:=l.getD i<|Ty.dflt<|.pair A7 Ag;l.set i (a.1,(a.2.1,(AA<|a.2.2+v)))
def vh {l:aKw}{i:aC}{v:Y}:M (TD l i v)=M l:=by simp [TD]
def vg {l:aKw}{i:aC}{v:Y}:M (QY l i v)=M l:=by simp [QY]
def vf {l:aKw}{i:aC}{v:Y}:M (Ia l i v)=M l:=by simp [Ia]
def adE (ph v:Y) (e:Ld):Ld:=
 (if (BG J ph 1 !=0)=U then AA (e.1+v) else e.1,
  (if (BG J ph 2 !=0)=U then AA (e.2.1+v) else e.2.1,
   if (BG J ph 4 !=0)=U then AA (e.2.2+v) else e.2.2))
def adP (ph v:Y) (l:aKw) (i:aC):aKw:=l.set i<|adE ph v<|D8 l i
def aAA {l:aKw}{i j:aC}{e:Ld}(h:i<M l):D8 (l.set i e) j=if i=j then e else D8 l j:=by
 unfold D8;rw [CH,CH,G1]
 by_cases hij:i=j
 ·subst hij
  rw [AB rfl,AB rfl,AB h];rfl
 ·grind
def agl {l:aKw}{i:aC}(h:i<M l):l.set i (D8 l i)=l:=by
 unfold D8
 simp_all
def anL {l:aKw}{i:aC}{v:Y}:TD l i v=l.set i (AA<|(D8 l i).1+v,(D8 l i).2):=rfl
def anK {l:aKw}{i:aC}{v:Y}:QY l i v=l.set i ((D8 l i).1,(AA<|(D8 l i).2.1+v,(D8 l i).2.2)):=rfl
def anJ {l:aKw}{i:aC}{v:Y}:Ia l i v=l.set i ((D8 l i).1,((D8 l i).2.1,AA<|(D8 l i).2.2+v)):=rfl
def auV {ph v:Y}{l:aKw}{i:aC}(h:i<M l):adP ph v l i=
  (let a:=if (BG J ph 1 !=0)=U then TD l i v else l
   let b:=if (BG J ph 2 !=0)=U then QY a i v else a
   if (BG J ph 4 !=0)=U then Ia b i v else b):=by
 unfold adP adE
 by_cases h1:(BG J ph 1 !=0)=U<;>by_cases h2:(BG J ph 2 !=0)=U<;>by_cases h4:(BG J ph 4 !=0)=U<;>
  simp only [h1,h2,h4,BP,Fz,EZ,anL,anK,anJ,aAA h,List.set_set]<;>exact agl h
def amb {ph v:Y}{l:aKw}{i:aC}:M (adP ph v l i)=M l:=by simp [adP]
def JY:aC->aJ->Y->Y->Y->aKw->List Ld
 |0,_,_,_,_,l=>l
 |k+1,cs,ph,v,c,l=>if c>=0 then JY k cs ph v (AY cs c).2.1 (adP ph v l c.toNat) else l
def FT (cs:aJ) (ph v c:Y) (l:aKw):aKw:=JY (c.toNat+2) cs ph v c l
def aEh {cs:aJ}{ph v:Y}(hu:ET cs=U):∀(k k':aC) (c:Y) (l:aKw),c<M cs->(c+1).toNat<k->(c+1).toNat<k'->JY k cs ph v c l=JY k' cs ph v c l
 |0,_,_,_,_,h,_=>A0
 |_+1,0,_,_,_,_,h=>A0
 | k+1,k'+1,c,l,hc,h,h'=>by
  simp only [JY]
  by_cases h0:c>=0
  ·rw [AB h0,AB h0]
   have:=Nb hu h0 hc
   exact aEh hu k k' _ _ A0 A0 A0
  ·grind
def ar6 {cs:aJ}{ph v c:Y}{l:aKw}(hu:ET cs=U) (hc:c<M cs):FT cs ph v c l=if c>=0 then FT cs ph v (AY cs c).2.1 (adP ph v l c.toNat) else l:=by
 unfold FT;rw [JY]
 by_cases h0:c>=0
 ·rw [AB h0,AB h0]
  have:=Nb hu h0 hc
  rw [aEh hu (c.toNat+1) ((AY cs c).2.1.toNat+2) (AY cs c).2.1 _ A0 A0 A0]
 ·grind
def aDA {cs:aJ}{o:Y}(hu:ET cs=U):∀(k:aC) (c:Y),c<M cs->F4 k cs o c=U->o<=c
 |0,_,_,h=>by simp [F4] at h
 | k+1,c,hc,h=>by
  simp only [F4] at h;split at h
  ·rename_i h0
   rw [C6] at h;rcases h with h|h
   ·have:=eq_of_beq h
    omega
   ·have h1:=Nb hu h0 hc
    have:=aDA hu k _ A0 h
    omega
  ·cases h
def aEi {cs:aJ}{ph v:Y}(hu:ET cs=U) {o:aC}:∀(k:aC) (c:Y) (l:aKw),c<M cs->M l=M cs->M (JY k cs ph v c l)=M cs/\D8 (JY k cs ph v c l) o=if F4 k cs (o:Y) c=U then adE ph v (D8 l o) else D8 l o
 |0,c,l,hc,hl=>⟨hl,by simp [JY,F4]⟩
 | k +1,c,l,hc,hl=>by
  simp only [JY]
  by_cases h0:c>=0
  ·have e0:F4 (k+1) cs (o:Y) c=(c==(o:Y) ||F4 k cs (o:Y) (AY cs c).2.1):=by
    show (if c>=0 then _ else _)=_
    grind
   rw [AB h0,e0]
   have h1:=Nb hu h0 hc
   have hct:c.toNat<M l:=A0
   obtain ⟨q1,q2⟩:=aEi hu (o:=o) k (AY cs c).2.1 (adP ph v l c.toNat) A0 (by rw [amb];exact hl)
   refine ⟨q1,?_⟩;rw [q2];unfold adP;rw [aAA hct]
   by_cases hco:c.toNat=o
   ·have hb:(c==(o:Y))=true:=A8
    have hn:F4 k cs (o:Y) (AY cs c).2.1=false:=by
     cases hq:F4 k cs (o:Y) (AY cs c).2.1 with
     |false=>rfl
     |true=>
      have:=aDA hu k _ A0 hq
      omega
    rw [hb,hn,AB hco,hco]
    simp
   ·have hb:(c==(o:Y))=false:=by
     cases hq:c==(o:Y) with
     |false=>rfl
     |true=>
      have:=eq_of_beq hq
      omega
    grind
  ·have e0:F4 (k+1) cs (o:Y) c=false:=by
    show (if c>=0 then _ else _)=_
    grind
   grind
def mJ {cs:aJ}{ph v c:Y}{l:aKw}(hu:ET cs=U) (hc:c<M cs) (hl:M l=M cs) (o:aC):M (FT cs ph v c l)=M cs/\D8 (FT cs ph v c l) o=if EX cs (o:Y) c=U then adE ph v (D8 l o) else D8 l o:=
 aEi hu _ c l hc hl
def HN (cs:aJ) (gs:aG) (am:aB):aC->List Ld
 |0=>aq (M cs) (Ty.dflt<|.pair A7 Ag)
 |k+1=>FT cs (AF gs k).2.2.1 (gi am k) (AF gs k).2.1<|HN cs gs am k
def DM (am:aB):aB->Int
 | []=>0
 |k::l=>gi am k+DM am l
def zw {am:aB}:∀ {l m:aB},DM am (l++m)=DM am l+DM am m
 | [],m=>by simp [DM]
 |k::l,m=>by
  rw [Ip];simp only [DM];rw [zw];omega
def aC9 {am:aB}{b:Y}:∀ {l:aB},(∀k∈l,0<=gi am k/\gi am k<=b)->0<=DM am l/\DM am l<=b*(M l:Y)
 | [],_=>by simp [DM]
 |k::l,h=>by
  have h1:=h k AG
  have h2:=aC9 (b:=b) λj hj=>h j<|Kb _ hj
  simp only [DM,BI,Int.natCast_add,Int.mul_add];omega
def aud {ph:Y}:usA ph 0=(BG J ph 1 !=0):=rfl
def auc {ph:Y}:usA ph 1=(BG J ph 2 !=0):=rfl
def av6 {ph:Y}:usA ph 2=(BG J ph 4 !=0):=rfl
def alT {gs:aG}{p:Y}{l m:aB}:BY gs p (l++m)=BY gs p l++BY gs p m:=by simp [BY]
def alP {gs:aG}{p k:Y}:BY gs p [k]=if usA (AF gs k).2.2.1 p=U then [k] else []:=by
 unfold BY;rw [KZ];rfl
def ldO (cs:aJ) (gs:aG) (am:aB) (o:Y) (k:aC):Ld:=letI a:=CE cs gs o k;(DM am<|BY gs 0 a,(DM am<|BY gs 1 a,DM am<|BY gs 2 a))
def iU {cs:aJ}{gs:aG}{am:aB}{o:Y}{k:aC}{p:Y}:DM am (BY gs p<|CE cs gs o<|k+1)=DM am (BY gs p<|CE cs gs o k)+(if EX cs o (AF gs k).2.1=U then (if usA (AF gs k).2.2.1 p=U then gi am k else 0) else 0):=by
 rw [aew,alT,zw]
 by_cases h:EX cs o (AF gs k).2.1=U
 ·rw [AB h,AB h,alP]
  split<;>simp [DM]
 ·rw [AD h,AD h]
  simp [BY,DM]
def j5 {cs:aJ}{gs:aG}{am:aB}(hu:ET cs=U) (ha:atB cs gs=U):∀k:aC,k<=M gs->M (HN cs gs am k)=M cs
 |0,_=>by simp [HN]
 |k+1,hk=>(mJ hu (Y6 ha A0 A0) (j5 hu ha k A0) 0).1
def aEj {cs:aJ}{gs:aG}{am:aB}(hu:ET cs=U) (ha:atB cs gs=U) (hg:M gs<=1000) (hm:∀k:aC,k<M gs->0<=gi am k/\gi am k<=80):
  ∀k:aC,k<=M gs->M (HN cs gs am k)=M cs/\∀o:aC,o<M cs->D8 (HN cs gs am k) o=ldO cs gs am o k
 |0,_=>⟨by simp [HN],λo ho=>by
  simp only [HN,ldO,D8];rw [CH,Qm,AB ho];rfl⟩
 | k+1,hk=>by
  obtain ⟨q1,q2⟩:=aEj hu ha hg hm k A0
  have hc:(AF gs k).2.1<(M cs:Y):=Y6 ha A0 A0
  refine ⟨(mJ hu hc q1 0).1,λo ho=>?_⟩
  show D8 (FT _ _ _ _ _) o=_
  rw [(mJ hu hc q1 o).2,q2 o ho]
  have bd:∀p:Y,0<=DM am (BY gs p<|CE cs gs o k)/\DM am (BY gs p<|CE cs gs o k)<=80000:=λp=>by
   have h1:=aC9 (am:=am) (b:=80) (l:=BY gs p<|CE cs gs o k) (λj hj=>by
    have h2:=Wq (CG.1 hj).1
    have:=hm j.toNat A0
    rwa [C2 h2.1] at this)
   have h2:=aBB (gs:=gs) (p:=p) (l:=CE cs gs o k)
   have h3:=gL (cs:=cs) (gs:=gs) (o:=o) (k:=k)
   omega
  have hv:=hm k A0
  have b0:=bd 0
  have b1:=bd 1
  have b2:=bd 2
  unfold ldO;rw [iU,iU,iU]
  by_cases h:EX cs o (AF gs k).2.1=U
  ·rw [AB h,AB h,AB h,AB h]
   unfold adE;rw [<-aud,<-auc,<-av6];dsimp only;rw [AH,AH,AH]
   grind
  ·grind
abbrev B4:Ty:=.pair A7 AK
abbrev Lk:=Int×Le
def aKx:qT (List Lk):=⟨⟩
def EL (l:aKx) (n:Y):Lk:=l.getD n.toNat (0,0,0,0,0,0)
structure PK where
 cs:aJ
 os:aF
 ks:aP
 gs:aG
 bs:aQ
 tk:Y
 up:aM
 ls:aL
 se:Y
 fl:aB
 ra:bu
 nx:Y
 st:bc
 ca:aKE
 mi:aKH
 me:aKL
 dm:aZ
 lk:aKx
 (dr tg:aB)
instance:Coe PK LV:=⟨λp=> .agg [.xl AX p.cs,.xl .str p.os,.xl Ad p.ks,.xl AZ p.gs,.xl Ae p.bs,.v<|ag J p.tk,.v<|.bool p.up,.xl AK p.ls,.v<|ag J p.se,.xl (.int aw) p.fl,.xl Ag p.ra,.v<|ag J p.nx,.xl Aq p.st,.xl AK p.ca,.xl At p.mi,.xl B8 p.me,.xl Ac p.dm,.xl B4 p.lk,.xl A7 p.dr,.xl A7 p.tg]⟩
def rQ (b:aE) (q:aC):PK:=letI a:=gBk b q;⟨gXl AX<|gCe a 0,gXl .str<|gCe a 1,gXl Ad<|gCe a 2,gXl AZ<|gCe a 3,gXl Ae<|gCe a 4,gI<|gCe a 5,gBo<|gCe a 6,gXl AK<|gCe a 7,gI<|gCe a 8,gXl (.int aw)<|gCe a 9,gXl Ag<|gCe a 10,gI<|gCe a 11,gXl Aq<|gCe a 12,gXl AK<|gCe a 13,gXl At<|gCe a 14,gXl B8<|gCe a 15,gXl Ac<|gCe a 16,gXl B4<|gCe a 17,gXl A7<|gCe a 18,gXl A7<|gCe a 19⟩
def rV (b:aE) (q j k:aC) (e:Ty):List e.D:=bif Nat.beq k 0 then gXl e (gCe (gBk b q) j) else gVe e (gBk b k)
def rB (b:aE) (q acs als afl ara ast aca ami ame adm alk adr atg:aC):PK:=letI a:=gBk b q;⟨rV b q 0 acs AX,gXl .str<|gCe a 1,gXl Ad<|gCe a 2,gXl AZ<|gCe a 3,gXl Ae<|gCe a 4,gI<|gCe a 5,gBo<|gCe a 6,rV b q 7 als AK,gI<|gCe a 8,rV b q 9 afl<|.int aw,rV b q 10 ara Ag,gI<|gCe a 11,rV b q 12 ast Aq,rV b q 13 aca AK,rV b q 14 ami At,rV b q 15 ame B8,rV b q 16 adm Ac,rV b q 17 alk B4,rV b q 18 adr A7,rV b q 19 atg A7⟩
def rF (b:aE):PK:=rB b 16 4 5 6 7 8 9 10 11 12 13 14 15
def rT (b:aE):PK:=rB b 16 4 0 0 0 8 9 10 11 0 0 14 15
abbrev _root_.Go.Sx.T.pc {α:Type}(p:PK) (t:T α):T α:=.rl p.cs<|.rl p.ls<|.rl p.fl<|.rl p.ra<|.rl p.st<|.rl p.ca<|.rl p.mi<|.rl p.me<|.rl p.dm<|.rl p.lk<|.rl p.dr<|.rl p.tg t
abbrev _root_.Go.Sx.T.pd {α:Type}(p:PK) (t:T α):T α:=.rl p.cs<|.rl p.st<|.rl p.ca<|.rl p.mi<|.rl p.me<|.rl p.dr<|.rl p.tg t
abbrev _root_.Go.Sx.T.pb {α:Type}(p:PK) (t:T α):T α:=.rl p.st<|.rl p.ca<|.rl p.mi<|.rl p.me<|.rl p.dm<|.rl p.lk<|.rl p.dr<|.rl p.tg t
abbrev _root_.Go.Sx.T.pa {α:Type}(p:PK) (t:T α):T α:=.rl p.cs<|.rl p.ls<|.rl p.fl<|.rl p.ra t
instance:Coe (List Lk) LV:=⟨.xl B4⟩
namespace PK
variable (p : PK)
def sV:aM:=Av p.cs p.os p.ks p.gs p.bs
end PK
def FP (c:Cd) (t:Y):Cd:=(c.1,c.2.1,t,c.2.2.2)
def DS (cs:aJ) (tg:aB):aC->List Cd
 |0=>cs
 |k+1=>(DS cs tg k).set k<|FP (AY (DS cs tg k) k)<|gi tg k
def C3 (gs:aG) (st:bc) (i k n m:Y):bc:=if sE (AF gs i) (B1 st i) k n m=0 then st.set i.toNat (sN (AF gs i) (B1 st i) k n m) else st
def JD (gs:aG) (lk:aKx) (t:Y) (st:bc):aC->List St
 |0=>st
 |k+1=>if (EL lk k).1>t then JD gs lk t st k else C3 gs (JD gs lk t st k) (EL lk k).2.2.1 7 (EL lk k).2.2.2.1 (EL lk k).2.2.2.2.2
def JF (gs:aG) (st:bc) (i:Y):aC->List St
 |0=>st
 |k+1=>C3 gs (JF gs st i k) i 8 0 0
def HD (gs:aG) (dr:aB) (t:Y) (st:bc):aC->List St
 |0=>st
 |k+1=>if FR t (gi dr k)=0/\FR (t+1) (gi dr k)=0 then JF gs (HD gs dr t st k) k (BH (t+1) (gi dr k)-BH t (gi dr k)).toNat else HD gs dr t st k
structure DW where
 st:bc
 mi:aKH
 me:aKL
 dw:aB
def ES (gs:aG) (ca:aKE) (s:DW) (i:Y):DW:=
 if (BE ca i).2.2.1=0 then s
 else if HG (BE ca i) (Bo s.mi i) (AF gs i).2.2.1 (BL (AF gs i)<|B1 s.st i)=0 then
  let a:=E7 (BE ca i) (Bo s.mi i) (AF gs i).2.2.1<|BL (AF gs i)<|B1 s.st i
  let o:=cnt<|Dh (BE ca i) (Bo s.mi i) (AF gs i).2.2.1<|BL (AF gs i)<|B1 s.st i
  ⟨if a>BL (AF gs i) (B1 s.st i) then C3 gs s.st i 6 2 0 else s.st,s.mi.set i.toNat<|HR (BE ca i) (Bo s.mi i) (AF gs i).2.2.1<|BL (AF gs i)<|B1 s.st i,
   if Eu (Ez s.me i) a o=0 then s.me.set i.toNat (Fu (Ez s.me i) a o) else s.me,s.dw.set i.toNat a⟩
 else s
def Cl (gs:aG) (ca:aKE) (s:DW):aC->DW
 |0=>s
 |k+1=>ES gs ca (Cl gs ca s k) k
def ij {cs:aJ}{k:aC}{x:Cd}{j:aC}(hk:k<M cs):AY (cs.set k x) (j:Y)=if j=k then x else AY cs j:=by
 unfold AY
 by_cases e:j=k
 ·grind
 ·grind
def Na {cs:aJ}{k:aC}(hk:k<M cs):AY cs (k:Y)=cs[k]:=by
 unfold AY
 simp [hk]
def fq {cs:aJ}{os:aF}{ks:aP}{gs:aG}{bs:aQ}(h:Av cs os ks gs bs=U) {k:aC}(hk:k<M cs) {t:Y}(ht:1<=t/\t<=1000):
  Av (cs.set k<|FP (AY cs k) t) os ks gs bs=true:=by
 have hm:(cs.set k<|FP (AY cs k) t).map (·.1)=cs.map (·.1):=by
  rw [List.map_set]
  have:(FP (AY cs k) t).1=(cs.map (·.1))[k]' A8:=by
   rw [Na hk];simp [FP]
  rw [this,List.set_getElem_self]
 unfold Av J6 JT at h|-;rw [hm,Bf];simp only [AP] at h|-;obtain ⟨h1,h2,h3,h4,h5⟩:=h;refine ⟨h1,h2,h3,?_,h5⟩;rw [D3] at h4|-;intro j hj
 have hc:=h4 j hj
 rw [ij hk];split
 ·rename_i e
  subst e;unfold GK FP at*;simp only [AP] at hc|-;exact ⟨hc.1,B6.2 ht,hc.2.2⟩
 ·exact hc
def Ay (l:aB):Prop:=∀x∈l,0<=x/\x<=255
def fC (x b:Y):Y:=IntKind.u32.wrap<|ae1 ax x (IntKind.u32.wrap b)*16777619
def O2 (x:Y) (l:aB):Y:=l.foldl fC x
def MY (ps:aI):Y:=ps.foldl O2 2166136261
def CP (n:Y):aB:=[IntKind.u8.wrap<|n.fdiv<|2^24,IntKind.u8.wrap<|n.fdiv<|2^16,IntKind.u8.wrap<|n.fdiv<|2^8,IntKind.u8.wrap n]
def nm4 (a b c d:Y):Y:=Ct ax (Ct ax (Ct ax (IntKind.u32.wrap<|IntKind.u32.wrap a*2^24)<|IntKind.u32.wrap<|IntKind.u32.wrap b*2^16)<|IntKind.u32.wrap<|IntKind.u32.wrap c*2^8)<|IntKind.u32.wrap d
def FQ (l:aB):Y:=nm4 (gi l 0) (gi l 1) (gi l 2)<|gi l 3
def Hv (d:aB):aB:=[IntKind.u8.wrap<|(M d:Y).fdiv<|2^8,IntKind.u8.wrap (M d:Y)]
def BR (d:aB):aB:=80::(Hv d++(CP (MY [Hv d,d])++d))
def FD {n:Y}:IntKind.u8.wrap n=n%256:=aJE
def Om {n:Y}:IntKind.u32.wrap n=n%4294967296:=aJE
def alu (x b:Y):0<=fC x b/\fC x b<4294967296:=by unfold fC;rw [Om];omega
def alM {x:Y}(h:0<=x/\x<4294967296) (l:aB):0<=O2 x l/\O2 x l<4294967296:=by
 induction l generalizing x with
 |nil=>exact h
 |cons b l ih=>exact ih<|alu x b
def alv (ps:aI):0<=MY ps/\MY ps<4294967296:=by
 have:∀(ps:aI) (x:Y),0<=x/\x<4294967296->0<=ps.foldl O2 x/\ps.foldl O2 x<4294967296:=by
  intro ps
  induction ps with
  |nil=>intro x h;exact h
  |cons p ps ih=>intro x h;exact ih _<|alM h p
 exact this ps _ AS
def Xq {a b k:aC}(h:b<2^k):a*2^k |||b=a*2^k+b:=by
 rw [Nat.mul_comm,<-Nat.two_pow_add_eq_or_of_lt h]
def iw {a b:aC}(ha:a<4294967296) (hb:b<4294967296):Ct ax (a:Y) (b:Y)=((a |||b:aC):Y):=by
 have h:=Nat.or_lt_two_pow (n:=32) ha hb
 unfold Ct;rw [Om]
 have e:∀n:aC,n<4294967296->(BitVec.ofInt (IntKind.bits ax) (n:Y)).toNat=n:=λn hn=>by
  show (BitVec.ofInt 32 (n:Y)).toNat=n
  grind
 rw [BitVec.toNat_or,e a ha,e b hb];omega
def aqE {a b c d:Y}(ha:0<=a/\a<=255) (hb:0<=b/\b<=255) (hc:0<=c/\c<=255) (hd:0<=d/\d<=255):nm4 a b c d=a*16777216+b*65536+c*256+d:=by
 obtain ⟨a,rfl⟩:=NC ha.1;obtain ⟨b,rfl⟩:=NC hb.1;obtain ⟨c,rfl⟩:=NC hc.1;obtain ⟨d,rfl⟩:=NC hd.1;unfold nm4
 have e1:IntKind.u32.wrap (IntKind.u32.wrap (a:Y)*2^24)=((a*2^24:aC):Y):=tZ
 have e2:IntKind.u32.wrap (IntKind.u32.wrap (b:Y)*2^16)=((b*2^16:aC):Y):=tZ
 have e3:IntKind.u32.wrap (IntKind.u32.wrap (c:Y)*2^8)=((c*2^8:aC):Y):=tZ
 have e4:IntKind.u32.wrap (d:Y)=((d:aC):Y):=by rw [Om];omega
 rw [e1,e2,e3,e4,iw A0 A0,Xq A0,
  iw A0 A0,show a*2^24+b*2^16=(a*2^8+b)*2^16 by omega,Xq A0,
  iw A0 A0,show (a*2^8+b)*2^16+c*2^8=(a*2^16+b*2^8+c)*2^8 by omega,Xq A0]
 omega
def Wn (n:Y):Ay (CP n):=by
 intro x hx;simp only [CP,Au,BX,BV] at hx;rcases hx with rfl|rfl|rfl|rfl<;>rw [FD]<;>omega
def aAN {n:Y}(h:0<=n/\n<4294967296):FQ (CP n)=n:=by
 have e:FQ (CP n)=nm4 (IntKind.u8.wrap<|n.fdiv<|2^24) (IntKind.u8.wrap<|n.fdiv<|2^16) (IntKind.u8.wrap<|n.fdiv<|2^8) (IntKind.u8.wrap n):=rfl
 rw [e,aqE W7 W7 W7 W7,FD,FD,FD,FD,
  NA _ AS,NA _ AS,NA _ AS]
 omega
def Es (b:aB) (f:aC):aC:=(gi b<|(f:Y)+1).toNat*256+(gi b<|(f:Y)+2).toNat
def rcF (b:aB) (f:aC):aM:=an (f+7<=M b)&&an (f+7+Es b f<=M b)
def Fe (b:aB) (f:aC):aB:=(b.drop<|f+7).take<|Es b f
def JV (b:aB) (f:aC):aM:=rcF b f&&(MY [(b.drop<|f+1).take 2,Fe b f]==FQ ((b.drop<|f+3).take 4))
def Fm (b:aB):aC->aC->List (List Int)×Nat×Bool
 |0,f=>([],f,U)
 |n+1,f=>if f<M b/\gi b (f:Y)=80 then (if JV b f then (Fe b f::(Fm b n<|f+7+Es b f).1,(Fm b n<|f+7+Es b f).2) else ([],f,X)) else ([],f,U)
def XE {pre l:aB}{k:aC}:gi (pre++l) ((M pre+k:aC):Y)=l.getD k 0:=by
 unfold gi
 grind
def wu {pre l:aB}{k:aC}:(pre++l).drop (M pre+k)=l.drop k:=by
 simp_all
def J2 (d:aB):M (BR d)=7+M d:=by simp [BR,Hv,CP];omega
def ak6 {pre rest d:aB}(hd:M d<=65535):let b:=pre++(BR d++rest);gi b (M pre:Y)=80/\M pre<M b/\Es b (M pre)=M d/\Fe b (M pre)=d/\JV b (M pre)=true:=by
 intro b
 have hl:M b=M pre+(7+M d+M rest):=by simp [b,J2]
 have g0:gi b (M pre:Y)=80:=XE (k:=0)
 have hn:Es b (M pre)=M d:=by
  have e1:gi b ((M pre:Y)+1)=IntKind.u8.wrap ((M d:Y).fdiv<|2^8):=XE (k:=1)
  have e2:gi b ((M pre:Y)+2)=IntKind.u8.wrap (M d:Y):=XE (k:=2)
  unfold Es;rw [e1,e2,FD,FD,NA _ AS];omega
 have d7:b.drop (M pre+7)=d++rest:=by
  rw [wu]
  simp [BR,Hv,CP]
 have hD:Fe b (M pre)=d:=by
  unfold Fe
  grind
 have d1:(b.drop<|M pre+1).take 2=Hv d:=by
  rw [wu]
  simp [BR,Hv]
 have d3:(b.drop<|M pre+3).take 4=CP (MY [Hv d,d]):=by
  rw [wu]
  simp [BR,Hv,CP]
 refine ⟨g0,A0,hn,hD,?_⟩;unfold JV rcF;rw [hn,hD,d1,d3,aAN<|alv _]
 simp;omega
def B2 (ds:aI):aB:=ds.flatMap BR
def xz {rest:aB}(hr:gi rest 0≠80):∀(ds:aI) (pre:aB) (n:aC),(∀d∈ds,M d<=65535)->M ds<n->
  Fm (pre++(B2 ds++rest)) n (M pre)=(ds,M pre+M (B2 ds),U)
 | [],pre,n,_,hn=>by
  obtain ⟨n,rfl⟩:∃m,n=m+1:=⟨n-1,A0⟩;simp only [B2,List.flatMap_nil,De,Fm];rw [AD]
  ·simp
  ·rintro ⟨_,h⟩
   rw [show ((M pre:aC):Y)=((M pre+0:aC):Y) by simp,XE] at h
   exact hr h
 |d::ds,pre,n,hd,hn=>by
  obtain ⟨n,rfl⟩:∃m,n=m+1:=⟨n-1,A0⟩
  have e:pre++(B2 (d::ds)++rest)=pre++(BR d++(B2 ds++rest)):=by simp [B2]
  rw [e];obtain ⟨h1,h2,h3,h4,h5⟩:=ak6 (pre:=pre) (rest:=B2 ds++rest)<|hd d AG;simp only [Fm];rw [AB ⟨h2,h1⟩,AB h5,h3,h4]
  have e2:pre++(BR d++(B2 ds++rest))=(pre++BR d)++(B2 ds++rest):=AG
  have e3:M pre+7+M d=M (pre++BR d):=by simp [J2];omega
  rw [e2,e3,xz hr ds (pre++BR d) n (λx hx=>hd x A8) A8]
  simp [B2,J2];omega
abbrev BM:Ty:=.pair A7<|.sl<|.int aw
abbrev Fl:=Int×List Int
def ba:qT (List Fl):=⟨⟩
def Fp (l:ba) (n:Y):Fl:=l.getD n.toNat (0,[])
def Fs (se:Y) (l:aB):aM:=letI a:=(M l:Y);decide (se>=1)&&(an (se<=512)&&(an (a>=se)&&(an (a<=4096)&&(a.tmod se==0))))
def Kw {se:Y}{l:aB}:Fs se l=U↔1<=se/\se<=512/\se<=(M l:Y)/\M l<=4096/\(M l:Y).tmod se=0:=by
 simp [Fs];omega
def E8 (se:Y) (l:aB):aM:=Fs se l&&(((M l:Y).tdiv se).tmod 2==0&&an ((M l:Y)>=32))
def Jo {se:Y}{l:aB}:E8 se l=U↔Fs se l=U/\((M l:Y).tdiv se).tmod 2=0/\32<=M l/\M l<=4096/\1<=se:=by
 unfold E8;simp only [AP,CO,AT];refine ⟨λ⟨h1,h2,h3⟩=>⟨h1,h2,A0,(Kw.1 h1).2.2.2.1,(Kw.1 h1).1⟩,λ⟨h1,h2,h3,_,_⟩=>⟨h1,h2,A0⟩⟩
def BD (l:aB) (w:Y):aB:=if w=0 then l.take (M l / 2) else (l.drop<|M l / 2).take (M l / 2)
def Wi (l:aB) (w:Y):M (BD l w)=M l / 2:=by
 unfold BD
 grind
def HC (l:aB) (w:Y):Y:=FQ<|((BD l w).drop 1).take 4
def Aj (l:aB):Y:=if gi (BD l 0) 0=80 then (if gi (BD l 1) 0=80 then (if HC l 1>HC l 0 then 1 else 0) else 0) else if gi (BD l 1) 0=80 then 1 else 0
def GH (l:aB):Y:=if gi (BD l 0) 0=80\/gi (BD l 1) 0=80 then 0 else 4
def CD (fl:aB) (a:Y) (d:aB):aC->List Int
 |0=>fl
 |k+1=>(CD fl a d k).set (a+k).toNat<|BG aw (gi (CD fl a d k)<|a+k)<|gi d k
def DL (se:Y) (fl:aB) (a:Y) (d:aB):ba:=(au<|M d+1).map λk=>(se,CD fl a d k)
def EA (se:Y) (fl:aB) (a:Y) (d:aB):Y:=if (!Fs se fl ||an (a<0))=U then 1 else if a>(M fl:Y)-M d then 3 else 0
def D7 (fl:aB) (a:Y):aC->List Int
 |0=>fl
 |k+1=>(D7 fl a k).set (a+k).toNat 255
def HQ (se:Y) (fl:aB) (s:Y):ba:=(au<|se.toNat+1).map λk=>(se,D7 fl (s*se) k)
def GR (se:Y) (fl:aB) (s:Y):Y:=if (!Fs se fl ||(an (s<0) ||an (s>=(M fl:Y).tdiv se)))=U then 1 else 0
def fu (fl:aB) (a:Y) (d:aB) (k:aC):M (CD fl a d k)=M fl:=by
 induction k with
 |zero=>rfl
 |succ k ih=>simp [CD,ih]
def vz (fl:aB) (a:Y) (k:aC):M (D7 fl a k)=M fl:=by
 induction k with
 |zero=>rfl
 |succ k ih=>simp [D7,ih]
def Kx {a b:aB}:Ay (a++b)↔Ay a/\Ay b:=by
 unfold Ay
 grind
def On {x:Y}{l:aB}:Ay (x::l)↔(0<=x/\x<=255)/\Ay l:=by
 unfold Ay
 simp
def X4 (k:aC):Ay (aq k 255):=by
 intro x hx;rw [Qr] at hx;omega
def ig {l:aB}(h:Ay l) (i:aC) {x:Y}(hx:0<=x/\x<=255):Ay (l.set i x):=by
 intro y hy;rcases Lx hy with h1|h1
 ·exact h y h1
 ·grind
def aBM (x y:Y):0<=BG aw x y/\BG aw x y<=255:=by
 unfold BG;rw [FD];omega
def ah5 {x:Y}(h:0<=x/\x<=255):BG aw 255 x=x:=by
 unfold BG;rw [FD];obtain ⟨n,rfl⟩:=NC h.1
 have e:(BitVec.ofInt (IntKind.bits aw) 255&&&BitVec.ofInt (IntKind.bits aw) (n:Y)).toNat=n:=by
  show (BitVec.ofInt 8 255&&&BitVec.ofInt 8 (n:Y)).toNat=n
  rw [show BitVec.ofInt 8 255=BitVec.allOnes 8 from rfl,BitVec.allOnes_and,BitVec.toNat_ofInt];omega
 omega
def aCP {pre post d:aB}(hd:Ay d):∀k,k<=M d->CD (pre++(aq (M d) 255++post)) (M pre:Y) d k=pre++(d.take k++(aq (M d-k) 255++post))
 |0,_=>by simp [CD]
 | k+1,hk=>by
  simp only [CD];rw [aCP hd k A0];obtain ⟨j,hj⟩:∃j,M d-k=j+1:=⟨M d-k-1,A0⟩
  have e1:(M pre:Y)+(k:Y)=((M pre+k:aC):Y):=A0
  have ht:M (d.take k)=k:=A8
  have e2:gi (pre++(d.take k++(aq (M d-k) 255++post))) ((M pre:Y)+k)=255:=by
   rw [e1,XE,CH,Ef A0,ht,Vg,hj,VJ];rfl
  have e3:gi d (k:Y)=d[k]:=Gc A0
  rw [e2,e3,ah5<|hd _<|Ee _,e1,BW,NF _ _ A0,cR,NF _ _ A0,ht,Vg,hj,VJ];rw [show M d-(k+1)=j by omega,VF<|Nat.lt_of_succ_le hk]
  grind
def iI {pre post d:aB}(hd:Ay d):CD (pre++(aq (M d) 255++post)) (M pre:Y) d (M d)=pre++(d++post):=by
 rw [aCP hd _<|Ak _];simp
def C8 (g:Y) (ds:aI) (k:aB):aB:=(80::CP g)++(B2 ds++k)
def EM (w:Y) (A O:aB):aB:=if w=0 then A++O else O++A
def xt (a b:aI):B2 (a++b)=B2 a++B2 b:=by simp [B2]
def wX (ds:aI):M (B2 ds)=(ds.map λd=>7+M d).sum:=by
 induction ds with
 |nil=>rfl
 |cons d ds ih=>simp only [B2,cP,Ax,DH,List.sum_cons,J2] at*;rw [ih]
def akC (ds:aI):7*M ds<=M (B2 ds):=by
 induction ds with
 |nil=>simp [B2]
 |cons d ds ih=>simp only [B2,cP,Ax,BI,J2] at*;omega
def amx (d:aB):Ay (Hv d):=by
 intro x hx;simp only [Hv,Au,BX,BV] at hx;rcases hx with rfl|rfl<;>rw [FD]<;>omega
def zR {d:aB}(h:Ay d):Ay (BR d):=by
 unfold BR;rw [On,Kx,Kx];exact ⟨AS,amx d,Wn _,h⟩
def zQ {ds:aI}(h:∀d∈ds,Ay d):Ay (B2 ds):=by
 induction ds with
 |nil=>intro x hx;simp [B2] at hx
 |cons d ds ih=>
  have e:B2 (d::ds)=BR d++B2 ds:=rfl
  rw [e,Kx];exact ⟨zR<|h d AG,ih λx hx=>h x A8⟩
def mV (k:aC) (rest:aB) (h:gi rest 0≠80):gi (aq k 255++rest) 0≠80:=by
 cases k with
 |zero=>simpa using h
 |succ k=>simp [gi,VJ]
structure JI (fl:aB) (w g:Y) (ds:aI) (k O:aB):Prop where
 eq:fl=EM w (C8 g ds k) O
 la:M (C8 g ds k)=1024
 lo:M O=1024
 bo:Ay O
 hw:w=0\/w=1
 hg:0<=g/\g<4294967296
 old:gi O 0=80->FQ ((O.drop 1).take 4)<g
 bd:∀d∈ds,Ay d/\M d<=65535
 bk:Ay k
 tl:gi k 0≠80
def Jp (g:Y) (ds:aI) (k:aB):M (C8 g ds k)=5+M (B2 ds)+M k:=by
 simp [C8,CP];omega
def aAQ {g:Y}(hg:0<=g/\g<4294967296) (ds:aI) (k:aB):FQ (((C8 g ds k).drop 1).take 4)=g:=by
 have:((C8 g ds k).drop 1).take 4=CP g:=by simp [C8,CP]
 rw [this,aAN hg]
def aey {w:Y}{A O:aB}(hA:M A=1024) (hO:M O=1024) (hw:w=0\/w=1):BD (EM w A O) w=A/\BD (EM w A O) (1-w)=O:=by
 have hl:∀a b:aB,M a=1024->M b=1024->BD (a++b) 0=a/\BD (a++b) 1=b:=by
  intro a b ha hb
  have e:M (a++b) / 2=1024:=A8
  unfold BD
  grind
 rcases hw with rfl|rfl
 ·exact hl A O hA hO
 ·have:=hl O A hO hA
  exact ⟨this.2,this.1⟩
namespace JI
variable {fl : List Int} {w g : Int} {ds : List (List Int)} {k O : List Int}
def len (h:JI fl w g ds k O):M fl=2048:=by
 rw [h.eq];unfold EM;split<;>simp [h.la,h.lo]
def bja (h:JI fl w g ds k O):Ay (C8 g ds k):=by
 unfold C8;rw [Kx,Kx,On];exact ⟨⟨AS,Wn _⟩,zQ λd hd=>(h.bd d hd).1,h.bk⟩
def by_ (h:JI fl w g ds k O):Ay fl:=by
 rw [h.eq];unfold EM;split
 ·rw [Kx];exact ⟨h.bja,h.bo⟩
 ·rw [Kx];exact ⟨h.bo,h.bja⟩
def jv (h:JI fl w g ds k O):E8 512 fl=true:=by
 rw [Jo,Kw,h.len]
 decide
def ar (h:JI fl w g ds k O):BD fl w=C8 g ds k:=by rw [h.eq];exact (aey h.la h.lo h.hw).1
def ao (h:JI fl w g ds k O):BD fl (1-w)=O:=by rw [h.eq];exact (aey h.la h.lo h.hw).2
def gen (h:JI fl w g ds k O):HC fl w=g:=by unfold HC;rw [h.ar,aAQ h.hg]
def cur (h:JI fl w g ds k O):Aj fl=w/\GH fl=0:=by
 have ha:=h.ar;have ho:=h.ao;have hgn:=h.gen
 have g80:gi (C8 g ds k) 0=80:=rfl
 have hold:gi (BD fl<|1-w) 0=80->HC fl (1-w)<g:=by rw [ho];unfold HC;rw [ho];exact h.old
 unfold Aj GH;rcases h.hw with rfl|rfl
 ·have e:(1:Y)-0=1:=rfl
  rw [e] at hold;rw [ha,hgn];refine ⟨?_,A8⟩;rw [AB g80];split
  ·omega
  ·rfl
 ·have e:(1:Y)-1=0:=rfl
  rw [e] at hold;rw [ha,hgn];refine ⟨?_,A8⟩;split
  ·omega
  ·rfl
end JI
def DN (fl:aB):List (List Int)×Nat×Bool:=Fm (BD fl<|Aj fl) (M<|BD fl<|Aj fl) 5
def Bz (se:Y) (fl:aB):Y:=if E8 se fl=X then 1 else if GH fl≠0 then GH fl else if (DN fl).2.2=U then 0 else 11
def lkC (fl:aB):aM:=((BD fl<|Aj fl).drop (DN fl).2.1).all λb=>b==255
def apF (se:Y) (fl d:aB):aM:=an (M d>65535) ||an (7+M d+(DN fl).2.1>M fl / 2)
def Cj (fl:aB):Y:=Aj fl*((M fl / 2:aC):Y)+(DN fl).2.1
def Im (fl d:aB):aB:=CD fl (Cj fl+1) ((BR d).drop 1)<|M<|(BR d).drop 1
def Gf (se:Y) (fl d:aB):ba:=DL se fl (Cj fl+1) ((BR d).drop 1)++(DL se (Im fl d) (Cj fl) [80]).drop 1
def plL (x:Le):aB:=CP x.1++(IntKind.u8.wrap x.2.1::IntKind.u8.wrap x.2.2.1::(CP x.2.2.2.1++[IntKind.u8.wrap<|x.2.2.2.2.fdiv<|2^8,IntKind.u8.wrap x.2.2.2.2]))
def b4 (d:aB) (i:Y):Y:=gi d i*16777216+gi d (i+1)*65536+gi d (i+2)*256+gi d (i+3)
def FN (d:aB):Le:=(b4 d 0,gi d 4,gi d 5,b4 d 6,gi d 10*256+gi d 11)
def Hc (x:Le):M (plL x)=12:=rfl
def YR (n:Y):0<=IntKind.u8.wrap n/\IntKind.u8.wrap n<=255:=W7
def jL (x:Le):Ay (plL x):=by
 unfold plL;rw [Kx,On,On,Kx,On,On];exact ⟨Wn _,YR _,YR _,Wn _,YR _,YR _,λx hx=>Oe⟩
def aAB {n:Y}(h:0<=n/\n<4294967296):IntKind.u8.wrap (n.fdiv<|2^24)*16777216+IntKind.u8.wrap (n.fdiv<|2^16)*65536+IntKind.u8.wrap (n.fdiv<|2^8)*256+IntKind.u8.wrap n=n:=by
 rw [FD,FD,FD,FD,NA _ AS,NA _ AS,NA _ AS];omega
def aiJ {x:Le}(h:Ce x=U):FN (plL x)=x:=by
 obtain ⟨nu,co,am,fr,tk⟩:=x;obtain ⟨h1,h2,h3,h4,h5⟩:=IB.1 h;simp only at h1 h2 h3 h4 h5
 have e1:b4 (plL (nu,co,am,fr,tk)) 0=nu:=aAB (n:=nu) A0
 have e2:b4 (plL (nu,co,am,fr,tk)) 6=fr:=aAB (n:=fr) A0
 have e3:gi (plL (nu,co,am,fr,tk)) 4=co:=by show IntKind.u8.wrap co=co;rw [FD];omega
 have e4:gi (plL (nu,co,am,fr,tk)) 5=am:=by show IntKind.u8.wrap am=am;rw [FD];omega
 have e5:gi (plL (nu,co,am,fr,tk)) 10*256+gi (plL (nu,co,am,fr,tk)) 11=tk:=by
  show IntKind.u8.wrap (tk.fdiv<|2^8)*256+IntKind.u8.wrap tk=tk
  rw [FD,FD,NA _ AS];omega
 unfold FN
 grind
def ldB (rs:aI):aM:=rs.all λd=>M d==12
def C5 (se:Y) (fl:aB):Y:=if (!(se==512) || !((M fl:Y)==2048))=U then 1 else if Bz se fl≠0 then Bz se fl else if ldB (DN fl).1=U then (if Ao ((DN fl).1.map FN)=U then 0 else 9) else 9
def Aa (se:Y) (fl:aB):aL:=if C5 se fl=0 then (DN fl).1.map FN else []
namespace JI
variable {fl : List Int} {w g : Int} {ds : List (List Int)} {k O : List Int} {n : Nat}
def lk (h:JI fl w g ds k O):DN fl=(ds,5+M (B2 ds),U):=by
 unfold DN;rw [h.cur.1,h.ar,h.la]
 have hp:=akC ds
 have hl:=h.la
 rw [Jp] at hl
 have:=xz (rest:=k) h.tl ds (80::CP g) 1024 (λd hd=>(h.bd d hd).2) A0
 exact this
def ep (h:JI fl w g ds k O):Bz 512 fl=0:=by
 unfold Bz;rw [h.jv,h.cur.2,h.lk];rfl
def clK (h:JI fl w g ds k O):lkC fl=k.all (λb=>b==255):=by
 unfold lkC;rw [h.lk,h.cur.1,h.ar]
 have e:(C8 g ds k).drop (5+M (B2 ds))=k:=by
  unfold C8;rw [<-CC];exact List.drop_left' dz
 grind
def cl (h:JI fl w g ds (aq n 255) O):lkC fl=true:=by
 rw [h.clK,B9]
 grind
def half (h:JI fl w g ds k O):M fl / 2=1024:=by rw [h.len]
def full (h:JI fl w g ds k O) {d:aB}(hd:M d<=65535) (hk:7+M d<=M k):apF 512 fl d=false:=by
 unfold apF;rw [h.half,h.lk]
 have hl:=h.la
 rw [Jp] at hl
 simp;omega
def afv (g:Y) (ds:aI) {k:aC}(n:aC) (hk:n<=k):C8 g ds (aq k 255)=((80::CP g)++B2 ds)++(aq n 255++aq (k-n) 255):=by
 unfold C8
 simp_all
def split {k:aC}(h:JI fl w g ds (aq k 255) O) (n:aC) (hk:n<=k):∃pre post,fl=pre++(aq n 255++post)/\(M pre:Y)=Cj fl/\
  ∀x:aB,pre++(x++post)=EM w (((80::CP g)++B2 ds)++(x++aq (k-n) 255)) O:=by
 have hP:Cj fl=w*1024+((5+M (B2 ds):aC):Y):=aJr
 have h5:(M ((80::CP g)++B2 ds):Y)=((5+M (B2 ds):aC):Y):=dz
 have he:=h.eq
 rw [afv g ds n hk] at he;rcases h.hw with rfl|rfl
 ·refine ⟨(80::CP g)++B2 ds,aq (k-n) 255++O,?_,A0,λx=>?_⟩
  ·rw [he];unfold EM;rw [AB rfl];simp only [CC]
  ·unfold EM;rw [AB rfl];simp only [CC]
 ·refine ⟨O++((80::CP g)++B2 ds),aq (k-n) 255,?_,by rw [hP,Ax];have:=h.lo;omega,λx=>?_⟩
  ·rw [he];unfold EM;rw [AD AS];simp only [CC]
  ·unfold EM;rw [AD AS];simp only [CC]
def app {k:aC}(h:JI fl w g ds (aq k 255) O) {d:aB}(hb:Ay d) (hd:M d<=65535) (hk:7+M d<=k):
  JI (CD (Im fl d) (Cj fl) [80] 1) w g (ds++[d]) (aq (k-(7+M d)) 255) O:=by
 obtain ⟨pre,post,e1,e2,e3⟩:=h.split (7+M d) hk
 have hp:BR d=80::(BR d).drop 1:=rfl
 have hl:=J2 d
 have hby:Ay ((BR d).drop 1):=by have:=zR hb;rw [hp,On] at this;exact this.2
 have eA:Im fl d=pre++(aq 1 255++((BR d).drop 1++post)):=by
  unfold Im
  have:=iI (pre:=pre++[255]) (post:=post) (d:=(BR d).drop 1) hby
  rw [<-e2]
  have e9:(M ((pre++[255]:aB)):Y)=(M pre:Y)+1:=AG
  rw [e9] at this
  have e0:fl=pre++[255]++(aq (M<|(BR d).drop 1) 255++post):=by
   grind
  rw [<-e0] at this;rw [this];simp
 have eB:CD (Im fl d) (Cj fl) [80] 1=pre++(BR d++post):=by
  rw [eA,<-e2]
  have:=iI (pre:=pre) (post:=(BR d).drop 1++post) (d:=[80]) aa4
  grind
 have eJ:C8 g (ds++[d]) (aq (k-(7+M d)) 255)=((80::CP g)++B2 ds)++(BR d++aq (k-(7+M d)) 255):=by
  unfold C8;rw [xt,show B2 [d]=BR d by simp [B2]]
  simp only [CC]
 refine ⟨by rw [eB,e3,eJ],?_,h.lo,h.bo,h.hw,h.hg,h.old,?_,?_,?_⟩
 ·have:=h.la
  rw [Jp] at this;rw [Bc] at this;rw [Jp,xt,Ax,show B2 [d]=BR d by simp [B2],hl,Bc];omega
 ·intro x hx
  rw [BC,FX] at hx;rcases hx with hx|rfl
  ·exact h.bd x hx
  ·exact ⟨hb,hd⟩
 ·exact X4 _
 ·have:=mV (k-(7+M d)) [] AS;simpa using this
end JI
def yP (se:Y) (fl d:aB) (y:Fl):(Gf se fl d).getLastD y=(se,CD (Im fl d) (Cj fl) [80] 1):=by
 exact aIa
def acY {fl:aB}{w g:Y}{ls:aL}{k O:aB}(h:JI fl w g (ls.map plL) k O) (hv:Ao ls=U):C5 512 fl=0/\Aa 512 fl=ls:=by
 have h1:(ls.map plL).map FN=ls:=by
  rw [F5]
  have:=(Eh hv).2
  calc ls.map (FN∘plL)=ls.map id:=HU (λx hx=>aiJ<|this x hx)
   _=ls:=Qs _
 have h2:ldB (ls.map plL)=true:=by
  unfold ldB;rw [B9];intro d hd;obtain ⟨x,_,rfl⟩:=EH.1 hd
  simp [Hc]
 have h3:C5 512 fl=0:=by
  unfold C5;rw [h.ep,h.lk,h.len];simp only [h2,h1,hv];rfl
 refine ⟨h3,?_⟩;unfold Aa
 rwa [AB h3,h.lk]
section
variable {cs : List Cd} {os : List ByteArray} {ks : List Ko} {gs : List Ch} {bs : List Ba} {l : List Le} {rs : List Ra} {d : List Dm} {t n : Int}
structure NwL (gs:aG) (am:aB) (t n:Y) (m:aL):Prop where
 at_:∀k:Y,0<=k->k<(M m:Y)->AU m k=(n+k,(AU m k).2.1,gi am (AU m k).2.1,t,12)/\(0<=(AU m k).2.1/\(AU m k).2.1<(M gs:Y))/\C7 (AF gs (AU m k).2.1)<gi am (AU m k).2.1
 up:∀k:Y,1<=k->k<(M m:Y)->(AU m (k-1)).2.1<(AU m k).2.1
def Rz {m:aL}{x:Le}{k:Y}(h0:0<=k):AU (m++[x]) k=if k<(M m:Y) then AU m k else if k=(M m:Y) then x else (0,0,0,0,0):=by
 unfold AU;rw [CH,CH];split
 ·grind
 ·rw [Ef A0]
  split
  ·rw [show k.toNat-M m=0 by omega]
   rfl
  ·rw [OF A8]
   rfl
def XZ {am:aB}:∀ {K:aC},K<=M gs->NwL gs am t n (FO gs l t n am K)/\∀x∈FO gs l t n am K,x.2.1<(K:Y)
 |0,_=>⟨⟨λk h0 h1=>aaH,λk h0 h1=>aaH⟩,λx hx=>Oe⟩
 | K +1,h=>by
  obtain ⟨⟨h1,h2⟩,h3⟩:=XZ (am:=am) (K:=K) A0;rw [FO];split
  ·rename_i hn
   have hf:=aq1 hn
   refine ⟨⟨λk k0 k1=>?_,λk k0 k1=>?_⟩,λx hx=>?_⟩
   ·simp only [Ax,BI,BQ] at k1
    rw [Rz k0];split
    ·grind
    ·rename_i hk
     have e:k=(M (FO gs l t n am K):Y):=A0
     rw [AB e,e]
     grind
   ·simp only [Ax,BI,BQ] at k1
    rw [Rz A0,Rz A0,AB (show k-1<(M (FO gs l t n am K):Y) by omega)]
    split
    ·grind
    ·rename_i hk
     rw [AB (show k=(M (FO gs l t n am K):Y) by omega)]
     exact h3 _<|Hd A0 A0
   ·rw [BC,FX] at hx
    rcases hx with hx|rfl
    ·have:=h3 x hx;omega
    ·simp only;omega
  ·rw [Ec]
   exact ⟨⟨h1,h2⟩,λx hx=>by have:=h3 x hx;omega⟩
def y7:Ao l=U↔M l<=64/\∀k:Y,0<=k->k<(M l:Y)->Ce (AU l k)=U/\(k=0\/Hq (AU l<|k-1) (AU l k)=U):=by
 unfold Ao;rw [AP,AT,D3];refine and_congr_right λ_=>⟨λh k k0 k1=>?_,λh j hj=>?_⟩
 ·have:=h k.toNat A0
  rw [C2 k0] at this;unfold FK at this;rw [AP,C6,AT] at this;exact this
 ·obtain ⟨h1,h2⟩:=h j A0 hj
  unfold FK
  grind
def afA {x:Le}(h:Ao l=U) (hx:Ce x=U) (hl:M l<64) (hf:M l=0\/Hq (AU l<|(M l:Y)-1) x=U):Ao (l++[x])=true:=by
 rw [y7] at h|-;refine ⟨A8,λk k0 k1=>?_⟩
 simp only [Ax,BI,BQ] at k1;rw [Rz k0];split
 ·rename_i hk
  obtain ⟨h1,h2⟩:=h.2 k k0 hk;refine ⟨h1,?_⟩;rcases h2 with h2|h2
  ·grind
  ·by_cases e:k=0
   ·exact .inl e
   ·rw [Rz A0,AB A0]
    grind
 ·rename_i hk
  have e:k=(M l:Y):=A0
  rw [AB e];refine ⟨hx,?_⟩;rcases hf with hf|hf
  ·omega
  ·by_cases e0:k=0
   ·grind
   ·rw [Rz A0,AB A0,e]
    grind
structure Fit (l:aL) (n t:Y):Prop where
 les:Ao l=U
 last:M l=0\/((AU l ((M l:Y)-1)).1<n/\(AU l ((M l:Y)-1)).2.2.2.1<=t)
def Fit.mono {n' t':Y}(h:Fit l n t) (hn:n<=n') (ht:t<=t'):Fit l n' t':=⟨h.les,by
 rcases h.last with h1|h1
 ·exact .inl h1
 ·exact .inr A0⟩
def acZ {b:Y}{j:Y}(hj:0<=j):∀(l:aL) (o:aB),(∀x∈l,0<=x.2.1/\x.2.1<(M o:Y))->gi o j<=b->(∀x∈l,x.2.1=j->x.2.2.1<=b)->gi (l.foldl HO o) j<=b
 | [],_,_,h,_=>h
 | x::l,o,hc,h,hx=>by
  have hx0:=hc x AG
  refine acZ hj l _ (λy hy=>aJU) ?_ λy hy=>hx y A8
  unfold HO;rw [H5 hx0.1 hx0.2 hj];split
  ·rename_i e
   have:=hx x AG e.symm
   rw [<-e];exact M7
  ·exact h
def acd {j:Y}(hj:0<=j):∀(l:aL) (o:aB),(∀x∈l,0<=x.2.1/\x.2.1<(M o:Y))->gi o j<=gi (l.foldl HO o) j/\∀x∈l,x.2.1=j->x.2.2.1<=gi (l.foldl HO o) j
 | [],_,_=>⟨CN _,λx hx=>Oe⟩
 | x::l,o,hc=>by
  rw [Hz]
  have hx0:=hc x AG
  obtain ⟨h1,h2⟩:=acd hj l (HO o x) λy hy=>aJU
  have h3:gi o j<=gi (HO o x) j/\(x.2.1=j->x.2.2.1<=gi (HO o x) j):=by
   unfold HO;rw [H5 hx0.1 hx0.2 hj];split
   ·rename_i e
    rw [<-e];exact M7
   ·rename_i e
    omega
  refine ⟨A0,λy hy e=>?_⟩
  rcases Au.1 hy with rfl|hy
  ·have:=h3.2 e
   omega
  ·grind
def aFj (hv:Ao l=U) (hb:below (M gs) l=U):∀x∈l.filter (E4 t),0<=x.2.1/\x.2.1<(M (aq (M gs) (0:Y)):Y):=λx hx=>by
 have hx:=(CG.1 hx).1
 have h1:=IB.1<|(Eh hv).2 x hx
 have h2:=CW<|B9.1 hb x hx
 rw [Bc];omega
def aBN {b j:Y}(hv:Ao l=U) (hb:below (M gs) l=U) (hj:0<=j) (b0:0<=b) (h:∀x∈l,E4 t x=U->x.2.1=j->x.2.2.1<=b):gi (FL (M gs) l t) j<=b:=
 acZ hj _ _ (aFj hv hb) (by rw [IF];exact b0) (λx hx e=>h x (CG.1 hx).1 (CG.1 hx).2 e)
def jB (hv:Ao l=U) (hb:below (M gs) l=U) {x:Le}(hx:x∈l) (ha:E4 t x=U):x.2.2.1<=gi (FL (M gs) l t) x.2.1:=by
 have h1:=IB.1<|(Eh hv).2 x hx
 exact (acd h1.2.1.1 _ _<|aFj hv hb).2 x (CG.2 ⟨hx,ha⟩) rfl
end
abbrev azU (a b:Le):Prop:=a.1<b.1/\a.2.2.2.1<=b.2.2.2.1
def j4 {l:aL}:Ao l=U↔M l<=64/\(∀x∈l,Ce x=U)/\l.Pairwise azU:=by
 refine ⟨λh=>⟨(Eh h).1,(Eh h).2,afB h⟩,λ⟨h1,h2,h3⟩=>y7.2 ⟨h1,λk k0 k1=>⟨h2 _<|Hd k0 k1,?_⟩⟩⟩
 by_cases e:k=0
 ·exact .inl e
 ·right
  have:=cb.1 h3 (k-1).toNat k.toNat A0 A0 A0
  rw [<-Jw,<-Jw] at this;unfold Hq;rw [CB (p:=(AU l k).1>_) this.1,CB (p:=(AU l k).2.2.2.1>=_) this.2];rfl
def wc {l m:aL}(h:Ao l=U) (hs:m.Sublist l):Ao m=true:=by
 rw [j4] at h|-
 grind
def grS (o:aL) (x:Le):aL:=if E0 o x=0 then Dr o x else o
def mT {o:aL}{x:Le}(h:Ao o=U):Ao (grS o x)=U/\(grS o x=o\/grS o x=o++[x]):=by
 unfold grS;split
 ·rename_i e
  have e2:Dr o x=o++[x]:=by unfold Dr;rw [AB e]
  rw [e2];refine ⟨?_,.inr rfl⟩;unfold E0 at e;split at e
  ·rename_i c
   rw [AP] at c;split at e
   ·omega
   ·rename_i c2
    split at e
    ·omega
    ·rename_i c3
     have:=(Eh h).1
     refine afA h c.2 A0 ?_
     by_cases q:M o=0
     ·exact .inl q
     ·right
      grind
  ·omega
 ·grind
def ckO (m:Y) (e:Ld):aM:=an (e.1<=m)&&(an (e.2.1<=m)&&an (e.2.2<=m))
def ckN (cs:aJ) (L:aKw) (k:aC):aM:=Ck k λo=>ckO (CY<|AY cs o)<|D8 L o.toNat
def gLi (l:aKw) (i:Y):Ld:=gx (e:=.pair A7 Ag) l i
def JN (m:Y) (e:Ld) (t:Y):aM:=(an (t>0) ||an (e.1<=m))&&((an (t>1) ||an (e.2.1<=m))&&(an (t>2) ||an (e.2.2<=m)))
def azJ {m:Y}{e:Ld}:JN m e 0=ckO m e:=by simp [JN,ckO]
def Cw (cs:aJ) (gs:aG) (m:aB):aM:=ckN cs (HN cs gs m<|M gs)<|M cs
section
variable {cs : List Cd} {os : List ByteArray} {ks : List Ko} {gs : List Ch} {bs : List Ba} {l : List Le} {rs : List Ra} {d : List Dm} {t n : Int}
def gR {m:aB}(hs:Av cs os ks gs bs=U) (hm:∀k:aC,k<M gs->0<=gi m k/\gi m k<=80):Cw cs gs m=U↔∀o:aC,o<M cs->∀p:Y,(p=0\/p=1\/p=2)->DM m (BY gs p<|CE cs gs o<|M gs)<=CY (AY cs o):=by
 have gl:=(Ci.1 hs).1.2.2.2.2.1
 have hat:=(aEj (gC hs) (gD hs) A0 hm (M gs)<|Ak _).2
 unfold Cw ckN;rw [D3]
 constructor
 ·intro h o ho p hp
  have h1:=h o A0
  rw [BW,hat o ho] at h1;unfold ckO ldO at h1;simp only [AP,AT] at h1;rcases hp with rfl|rfl|rfl
  ·exact h1.1
  ·exact h1.2.1
  ·exact h1.2.2
 ·intro h o ho
  rw [BW,hat o A0];unfold ckO ldO
  grind
def jH {a b:aB}:∀ {L:aB},(∀k∈L,gi a k<=gi b k)->DM a L<=DM b L
 | [],_=>CN _
 |k::L,h=>by
  have h1:=h k AG
  have h2:=jH (a:=a) (b:=b) (L:=L) λj hj=>h j<|Kb _ hj
  simp only [DM];omega
def aC8 {a al am:aB}:∀ {L:aB},(∀k∈L,gi a k<=mx (gi al k) (gi am k))->DM a L<=GM al am L
 | [],_=>by simp [DM,GM]
 |k::L,h=>by
  have h1:=h k AG
  have h2:=aC8 (a:=a) (al:=al) (am:=am) (L:=L) λj hj=>h j<|Kb _ hj
  rw [Ot];simp only [DM];omega
def xC {c:aC}{p:Y}(hp:p=0\/p=1\/p=2) (hl:M (BY gs p<|CE cs gs c<|M gs)>0):∀ {k:aC},c<k->(CY<|AY cs c,BY gs p<|CE cs gs c<|M gs)∈CK cs gs k
 |0,h=>A0
 | k+1,h=>by
  rw [CK,BC]
  by_cases e:c=k
  ·right
   unfold VA
   have:(CY<|AY cs c,BY gs p<|CE cs gs c<|M gs)∈rowP cs gs c p:=by
    unfold rowP;rw [AB hl]
    simp
   rcases hp with rfl|rfl|rfl
   ·grind
   ·grind
   ·grind
  ·exact .inl<|xC hp hl A0
def P4 {j:Y}(j0:0<=j) (j1:j<(M gs:Y)):gi (Cr gs l t) j=mx (C7<|AF gs j) (gi (FL (M gs) l t) j):=MH j0 j1
def I9 {l2:aL}{t2:Y}(hs:Av cs os ks gs bs=U) (hv:Ao l2=U) {j:Y}(j0:0<=j) (j1:j<(M gs:Y)):0<=gi (Cr gs l2 t2) j/\gi (Cr gs l2 t2) j<=80:=by
 have hch:JR (AF gs j)=true:=by
  have:=Kp hs j0 j1
  unfold Ek at this
  grind
 have hc:=iN hch
 have h:=Yr (a:=0) (b:=80) (j:=j) AS<|jC (t:=t2) (m:=M gs) hv
 rw [P4 j0 j1];exact M7
end
def JX (se:Y) (fl:aB) (s:Y):aM:=!(((fl.drop (s*se).toNat).take se.toNat).all λb=>b==255)
def FJ (se:Y) (f0:aB) (s:Y):aC->List Fl×List Int->List Fl×List Int
 |0,a=>a
 |n+1,a=>FJ se f0 (s+1) n (if JX se f0 s=U then (a.1++(HQ se a.2 s).drop 1,D7 a.2 (s*se) se.toNat) else a)
def rwF (fl:aB) (ds:aI):aM:=an (5+(ds.map λd=>7+M d).sum<=M fl / 2)&&ds.all (λd=>an<|M d<=65535)
def EE (se:Y) (fl:aB) (ds:aI):Y:=if Bz se fl≠0 then Bz se fl else if (!rwF fl ds ||(HC fl (Aj fl)==4294967295))=U then 10 else 0
def Er (se:Y) (fl:aB):List Fl×List Int:=letI a:=((M fl / 2:aC):Y);FJ se fl ((1-Aj fl)*a.tdiv se) (a.tdiv se).toNat ([(se,fl)],fl)
def Eo (fl:aB):Y:=(1-Aj fl)*((M fl / 2:aC):Y)
def DY (fl:aB) (ds:aI):aB:=CP (HC fl (Aj fl)+1)++B2 ds
def Ie (se:Y) (fl:aB) (ds:aI):aB:=CD (Er se fl).2 (Eo fl+1) (DY fl ds)<|M<|DY fl ds
def EU (se:Y) (fl:aB) (ds:aI):ba:=if EE se fl ds=0 then (Er se fl).1++((DL se (Er se fl).2 (Eo fl+1)<|DY fl ds).drop 1++(DL se (Ie se fl ds) (Eo fl) [80]).drop 1) else []
def El (se:Y) (fl d:aB):Y:=if Bz se fl≠0 then Bz se fl else if apF se fl d=U then 10 else if lkC fl=U then 0 else EE se fl ((DN fl).1++[d])
def HS (se:Y) (fl d:aB):ba:=if Bz se fl≠0 then [] else if apF se fl d=U then [] else if lkC fl=U then Gf se fl d else EU se fl ((DN fl).1++[d])
def JZ (l:aL) (x:Le) (t:Y):aI:=letI a:=(AU l<|(M l:Y)-1);((BB l t).map plL)++((if M l>0/\(M (BB l t)=0\/(AU (BB l t)<|(M (BB l t):Y)-1).1≠a.1) then [plL a] else [])++[plL x])
def Fq (l:aL) (x:Le):aM:=letI a:=(AU l<|(M l:Y)-1);decide (M l>0)&&(an (x.1<=a.1) ||an (x.2.2.2.1<a.2.2.2.1))
def Cs (se:Y) (fl:aB) (x:Le) (t:Y):Y:=
 if C5 se fl≠0 then C5 se fl else if (!Ce x || !inB t 0 1100000)=U then 1 else if Fq (Aa se fl) x=U then 12 else
 if El se fl (plL x)≠10 then El se fl (plL x) else EE se fl (JZ (Aa se fl) x t)
def C1 (se:Y) (fl:aB) (x:Le) (t:Y):ba:=
 if C5 se fl≠0 then [] else if (!Ce x || !inB t 0 1100000)=U then [] else if Fq (Aa se fl) x=U then [] else
 if El se fl (plL x)≠10 then HS se fl (plL x) else EU se fl (JZ (Aa se fl) x t)
def GP (se:Y) (fl:aB):Y:=if C5 se fl≠0 then C5 se fl else if M (Aa se fl)=0 then 0 else if (AU (Aa se fl)<|(M (Aa se fl):Y)-1).1=1000000 then 10 else 0
def Hx (se:Y) (fl:aB):Y:=letI a:=(AU (Aa se fl)<|(M (Aa se fl):Y)-1);if C5 se fl≠0 then 0 else if M (Aa se fl)=0 then 1 else if a.1=1000000 then 0 else a.1+1
structure SN where
 ls:aL
 se:Y
 fl:aB
 nx:Y
 lk:aKx
def XO (t:Y) (x:Le):Lk:=(t+(7*t+3*x.2.1).tmod 5,x)
def Dq (t:Y) (s:SN) (x:Le):SN:=
 if E0 s.ls x=0/\Cs s.se s.fl x t=0 then
  ⟨Dr s.ls x,(Fp (C1 s.se s.fl x t)<|(M (C1 s.se s.fl x t):Y)-1).1,(Fp (C1 s.se s.fl x t)<|(M (C1 s.se s.fl x t):Y)-1).2,x.1+1,s.lk++[XO t x]⟩
 else s
def DU (t:Y) (xs:aL) (s:SN):aC->SN
 |0=>s
 |k+1=>Dq t (DU t xs s k)<|AU xs k
def CM (l:aL) (t:Y):aL:=if Cb l t=0 then BB l t else l
namespace PK
variable (p : PK)
def EF:aJ:=DS p.cs p.tg<|M p.tg
def dE:Y:=deE p.EF p.os p.ks p.gs p.bs (CM p.ls p.tk) p.ra p.dm p.tk p.nx
def dR:bu:=deR p.EF p.os p.ks p.gs p.bs (CM p.ls p.tk) p.ra p.dm p.tk p.nx
def dL:aL:=KY p.EF p.os p.ks p.gs p.bs (CM p.ls p.tk) p.ra p.dm p.tk p.nx
def Ep:SN:=⟨CM p.ls p.tk,p.se,p.fl,p.nx,p.lk⟩
def Ic:SN:=DU p.tk p.dL p.Ep<|M p.dL
def AI:PK:=if p.up=X then p else if p.dE≠0 then {p with ls:=CM p.ls p.tk} else {p with ra:=p.dR,ls:=p.Ic.ls,se:=p.Ic.se,fl:=p.Ic.fl,nx:=p.Ic.nx,lk:=p.Ic.lk}
def IT:PK:={p with st:=JD p.gs p.lk p.tk p.st<|M p.lk,lk:=p.lk.filter λl=>an<|l.1>p.tk}
def VD:PK:={p with st:=HD p.gs p.dr p.tk p.st<|M p.dr}
def dw:DW:=Cl p.gs p.ca ⟨p.st,p.mi,p.me,aq (M p.gs) 0⟩<|M p.gs
def Be:PK:={p with st:=p.dw.st,mi:=p.dw.mi,me:=p.dw.me}
end PK
def Cp (gs:aG) (tg:aB) (am:aB) (cs:aJ):aC->List Cd
 |0=>cs
 |k+1=>if gi tg k>=(AY (Cp gs tg am cs k) k).2.2.1 then Cp gs tg am cs k else
  if (an (M am=M gs)&&Cw ((Cp gs tg am cs k).set k<|FP (AY (Cp gs tg am cs k) k)<|gi tg k) gs am)=U then (Cp gs tg am cs k).set k (FP (AY (Cp gs tg am cs k) k)<|gi tg k) else Cp gs tg am cs k
namespace PK
variable (p : PK)
def Ig:aB:=if Hs p.ls (M p.gs) (p.tk+1)=0 then Cr p.gs p.ls (p.tk+1) else []
def Hr:PK:={p with cs:=if p.up=X then p.cs else Cp p.gs p.tg p.Ig p.cs (M p.tg)}
def endP:PK:={p with tk:=p.tk+1}
def Ah:PK:=p.AI.IT.VD
def B5:PK:=p.Ah.Be.Hr.endP
def Ej:aB:=p.Ah.dw.dw
def H7:Y:=if p.tk=1000000 then 15 else 0
end PK
namespace PK
variable (p : PK) (n m : Int) (c : Ca) (d : Dm)
def isC:aM:=inB n 0<|(M p.gs:Y)-1
def Ei:Y:=if p.isC n=X then 1 else if (!Ey c || !Ft d)=U then 1 else if ((BE p.ca n).2.2.1 !=0 ||(B1 p.st n).1 !=0)=U then 6 else 0
def ov:bc:=C3 p.gs (C3 p.gs (C3 p.gs (C3 p.gs p.st n 1 0 0) n 3 0 0) n 4 1 0) n 5 0 0
def LA:PK:={p with ca:=p.ca.set n.toNat c,mi:=p.mi.set n.toNat ([],0,0),dm:=p.dm.set n.toNat d,st:=p.ov n}
def HB:Y:=if p.isC n=X then 1 else if (BE p.ca n).2.2.1=0 then 4 else 0
def Nt:PK:={p with ca:=p.ca.set n.toNat (0,0,0,0,0),mi:=p.mi.set n.toNat ([],0,0),dm:=p.dm.set n.toNat (X,0,0,9),st:=C3 p.gs (C3 p.gs p.st n 6 0 0) n 2 0 0}
def LC:Y:=if p.isC n=X then 1 else 0
def Yz:PK:={p with lk:=p.lk.filter λl=>l.2.2.1 !=n}
def LF:Y:=if p.up=X then 6 else 0
def So:PK:={p with up:=X,ls:=[]}
def Dp:Y:=if p.up=U then 6 else if C5 p.se p.fl≠0 then C5 p.se p.fl else if Cb (Aa p.se p.fl) p.tk≠0 then Cb (Aa p.se p.fl) p.tk else GP p.se p.fl
def PI:PK:={p with up:=U,ls:=BB (Aa p.se p.fl) p.tk,nx:=Hx p.se p.fl,ra:=aq (M p.gs) (0,0)}
def L8:Y:=if p.isC n=X then 1 else sE (AF p.gs n) (B1 p.st n) 6 1 0
def aaq:PK:={p with st:=C3 p.gs p.st n 6 1 0}
def JL:PK:={p with tg:=p.tg.set n.toNat m}
def GG:Y:=if (!inB n 0 ((M p.cs:Y)-1) || !inB m 1 (AY p.cs n).2.2.1)=U then 1 else if Cw (p.JL n m).EF p.gs (BT p.gs)=X then 13 else 0
end PK
def Df (p:PK):aM:=(Av p.cs p.os p.ks p.gs p.bs&&inB p.tk 0 1000000)&&((an (M p.st=M p.gs)&&(an (M p.ca=M p.gs)&&(an (M p.mi=M p.gs)&&(an (M p.me=M p.gs)&&(an (M p.dm=M p.gs)&&an (M p.dr=M p.gs))))))&&
 (an (M p.tg=M p.cs)&&(Ck (M p.tg) (λk=>inB (gi p.tg k) 1 (AY p.cs k).2.2.1)&&(p.dr.all (λx=>inB x (-200) 200)&&p.lk.all (λl=>inB l.2.2.1 0<|(M p.gs:Y)-1)))))
structure EV where
 (ek en em:Y)
 c:Ca
 d:Dm
def PK0:PK:=⟨[],[],[],[],[],0,X,[],0,[],[],0,[],[],[],[],[],[],[],[]⟩
def BS (p:PK) (e:EV):Y:=if Df p=X then 1 else if e.ek=1 then p.H7 else if e.ek=2 then p.Ei e.en e.c e.d else if e.ek=3 then p.HB e.en else if e.ek=4 then p.LC e.en else if e.ek=5 then p.LF else if e.ek=6 then p.Dp else if e.ek=7 then p.L8 e.en else if e.ek=8 then p.GG e.en e.em else 9
def B3 (p:PK) (e:EV):PK:=if BS p e≠0 then PK0 else if e.ek=1 then p.B5 else if e.ek=2 then p.LA e.en e.c e.d else if e.ek=3 then p.Nt e.en else if e.ek=4 then p.Yz e.en else if e.ek=5 then p.So else if e.ek=6 then p.PI else if e.ek=7 then p.aaq e.en else p.JL e.en e.em
def D6 (p:PK) (e:EV):aB:=if BS p e≠0 then [] else if e.ek=1 then p.Ej else []
def Dz (cs:aJ) (os:aF) (ks:aP) (gs:aG) (bs:aQ) (dr:aB):Y:=
 if Av cs os ks gs bs=X\/M dr≠M gs then 1 else if dr.all (λx=>inB x (-200) 200)=X then 1 else if Cw cs gs (BT gs)=X then 13 else 0
def E9:aB:=C8 0 [] (aq 1019 255)++aq 1024 255
def newP (cs:aJ) (os:aF) (ks:aP) (gs:aG) (bs:aQ) (dr:aB):PK:=if Dz cs os ks gs bs dr≠0 then PK0 else
 ⟨cs,os,ks,gs,bs,0,U,[],512,E9,aq (M gs) (0,0),1,aq (M gs) (0,0,0,X),aq (M gs) (0,0,0,0,0),aq (M gs) ([],0,0),(EO<|M gs).map λk=>(k+1,0,X),aq (M gs) (X,0,0,9),[],dr,cs.map λc=>c.2.2.1⟩
structure VP (p:PK):Prop where
 site:Av p.cs p.os p.ks p.gs p.bs=U
 tk:0<=p.tk/\p.tk<=1000000
 st:M p.st=M p.gs
 ca:M p.ca=M p.gs
 mi:M p.mi=M p.gs
 me:M p.me=M p.gs
 dm:M p.dm=M p.gs
 dr:M p.dr=M p.gs
 Em:M p.tg=M p.cs
 tg:∀k:aC,k<M p.tg->1<=gi p.tg k/\gi p.tg k<=(AY p.cs k).2.2.1
 dr8:p.dr.all (λx=>inB x (-200) 200)=U
 lk:∀l∈p.lk,0<=l.2.2.1/\l.2.2.1<(M p.gs:Y)
def Of {p:PK}:Df p=U↔VP p:=by
 unfold Df;simp only [AP,AT,B6,D3]
 constructor
 ·rintro ⟨⟨h1,h2⟩,⟨h3,h4,h5,h6,h7,h8⟩,h9,h10,h11,h12⟩
  exact ⟨h1,h2,h3,h4,h5,h6,h7,h8,h9,λk hk=>h10 k A0,h11,λl hl=>by have:=B9.1 h12 l hl;rw [B6] at this;omega⟩
 ·intro h
  refine ⟨⟨h.site,h.tk⟩,⟨h.st,h.ca,h.mi,h.me,h.dm,h.dr⟩,h.Em,λk hk=>h.tg k A0,h.dr8,B9.2 λl hl=>B6.2 ?_⟩
  have:=h.lk l hl
  omega
def Gx {gs:aG}{st:bc}{i k n m:Y}:M (C3 gs st i k n m)=M st:=by
 unfold C3
 grind
def x8 {gs:aG}{lk:aKx}{t:Y}{st:bc}:∀k,M (JD gs lk t st k)=M st
 |0=>rfl
 |k+1=>by
  unfold JD;split
  ·exact x8 k
  ·rw [Gx];exact x8 k
def xJ {gs:aG}{st:bc}{i:Y}:∀k,M (JF gs st i k)=M st
 |0=>rfl
 |k+1=>by unfold JF;rw [Gx];exact xJ k
def wv {gs:aG}{dr:aB}{t:Y}{st:bc}:∀k,M (HD gs dr t st k)=M st
 |0=>rfl
 |k+1=>by
  unfold HD;split
  ·rw [xJ];exact wv k
  ·exact wv k
def amI {gs:aG}{ca:aKE}{s:DW}{i:Y}:letI a:=ES gs ca s i;M a.st=M s.st/\M a.mi=M s.mi/\M a.me=M s.me/\M a.dw=M s.dw:=by
 unfold ES;split
 ·grind
 ·split
  ·refine ⟨?_,AG,?_,AG⟩
   ·simp only;split
    ·exact Gx
    ·rfl
   ·grind
  ·grind
def X3 {gs:aG}{ca:aKE}{s:DW}:∀k,M (Cl gs ca s k).st=M s.st/\M (Cl gs ca s k).mi=M s.mi/\M (Cl gs ca s k).me=M s.me/\M (Cl gs ca s k).dw=M s.dw
 |0=>⟨rfl,rfl,rfl,rfl⟩
 |k+1=>by
  obtain ⟨h1,h2,h3,h4⟩:=X3 (gs:=gs) (ca:=ca) (s:=s) k;obtain ⟨g1,g2,g3,g4⟩:=amI (gs:=gs) (ca:=ca) (s:=Cl gs ca s k) (i:=(k:Y));unfold Cl
  grind
def lL {cs:aJ}{os:aF}{ks:aP}{gs:aG}{bs:aQ}(h:Av cs os ks gs bs=U) {k:aC}(hk:k<M cs):1<=(AY cs k).2.2.1/\(AY cs k).2.2.1<=1000:=by
 have:=wh h (c:=(k:Y)) A0 A0
 unfold GK at this;simp only [AP,B6] at this
 grind
def Ou {gs:aG}{tg am:aB}{cs:aJ}:∀n,M (Cp gs tg am cs n)=M cs
 |0=>rfl
 | n+1=>by
  unfold Cp;split
  ·exact Ou n
  ·split
   ·rw [Bf];exact Ou n
   ·exact Ou n
def ia {gs:aG}{tg am:aB}{cs:aJ}:∀n,n<=M cs->∀j:aC,(AY (Cp gs tg am cs n) j=AY cs j\/(j<n/\gi tg j<(AY cs j).2.2.1/\AY (Cp gs tg am cs n) j=FP (AY cs j) (gi tg j)))/\(n<=j->AY (Cp gs tg am cs n) j=AY cs j)
 |0,_,j=>⟨.inl rfl,λ_=>rfl⟩
 | n +1,hn,j=>by
  obtain ⟨h1,h2⟩:=ia (gs:=gs) (tg:=tg) (am:=am) (cs:=cs) n A0 j
  have hl:n<M (Cp gs tg am cs n):=by rw [Ou];omega
  unfold Cp;split
  ·grind
  ·rename_i hlt
   split
   ·rw [ij hl]
    by_cases e:j=n
    ·subst e
     grind
    ·rw [AD e]
     grind
   ·grind
def wJ {gs:aG}{tg am:aB}{cs:aJ}{os:aF}{ks:aP}{bs:aQ}(h:Av cs os ks gs bs=U) (ht:∀k:aC,k<M cs->1<=gi tg k/\gi tg k<=1000):∀n,n<=M cs->Av (Cp gs tg am cs n) os ks gs bs=U
 |0,_=>h
 | n+1,hn=>by
  have h1:=wJ (am:=am) h ht n A0
  unfold Cp;split
  ·exact h1
  ·split
   ·exact fq h1 (by rw [Ou];omega)<|ht n A0
   ·exact h1
def Kl {cs:aJ}{tg:aB}:∀n,M (DS cs tg n)=M cs
 |0=>rfl
 |n+1=>by unfold DS;rw [Bf];exact Kl n
def wL {tg:aB}{cs:aJ}{os:aF}{ks:aP}{gs:aG}{bs:aQ}(h:Av cs os ks gs bs=U) (ht:∀k:aC,k<M cs->1<=gi tg k/\gi tg k<=1000):∀n,n<=M cs->Av (DS cs tg n) os ks gs bs=U
 |0,_=>h
 |n+1,hn=>by
  exact fq (wL h ht n A0) (by rw [Kl];omega)<|ht n A0
def q9 {p:PK}:∀x∈p.dL,0<=x.2.1/\x.2.1<(M p.gs:Y):=by
 intro x hx;unfold PK.dL KY at hx;split at hx
 ·obtain ⟨k,hk,rfl⟩:=G4.1 hx
  have:=(XZ (gs:=p.gs) (l:=CM p.ls p.tk) (t:=p.tk) (n:=p.nx) (am:=EC p.gs p.ra (GI p.EF p.os p.ks p.gs p.bs (CM p.ls p.tk) p.dm p.tk)<|M p.gs)<|Ak _).1.at_ (k:Y) A0 A0
  rw [Jw A8] at this
  grind
 ·cases hx
def aip {t:Y}{s:SN}{x:Le}:(Dq t s x).lk=s.lk\/(Dq t s x).lk=s.lk++[XO t x]:=by
 unfold Dq;exact Qw
def iT {t:Y}{xs:aL}{s:SN}:∀n,n<=M xs->(∀l∈(DU t xs s n).lk,l∈s.lk\/∃x∈xs,l=XO t x)/\M (DU t xs s n).lk<=M s.lk+n
 |0,_=>⟨λl hl=> .inl hl,Ak _⟩
 | n+1,hn=>by
  obtain ⟨h1,h2⟩:=iT (t:=t) (xs:=xs) (s:=s) n A0;unfold DU;rcases aip (t:=t) (s:=DU t xs s n) (x:=AU xs n) with e|e<;>rw [e]
  ·grind
  ·refine ⟨λl hl=>?_,A8⟩
   rw [BC,FX] at hl;rcases hl with hl|rfl
   ·grind
   ·exact .inr ⟨_,Hd A0 A0,rfl⟩
def alc {p:PK}(h:∀l∈p.lk,0<=l.2.2.1/\l.2.2.1<(M p.gs:Y)):∀l∈p.AI.lk,0<=l.2.2.1/\l.2.2.1<(M p.gs:Y):=by
 unfold PK.AI;split
 ·exact h
 ·split
  ·exact h
  ·intro l hl
   rcases (iT (t:=p.tk) (xs:=p.dL) (s:=p.Ep) _<|Ak _).1 l hl with e|⟨x,hx,rfl⟩
   ·exact h l e
   ·exact q9 x hx
def I7 (p:PK):p.AI.cs=p.cs/\p.AI.os=p.os/\p.AI.ks=p.ks/\p.AI.gs=p.gs/\p.AI.bs=p.bs/\p.AI.tk=p.tk/\p.AI.up=p.up/\p.AI.st=p.st/\p.AI.ca=p.ca/\p.AI.mi=p.mi/\p.AI.me=p.me/\p.AI.dm=p.dm/\p.AI.dr=p.dr/\p.AI.tg=p.tg:=by
 unfold PK.AI;exact Qw
def VP.dec {p:PK}(h:VP p):VP p.AI:=by
 obtain ⟨e1,e2,e3,e4,e5,e6,e7,e8,e9,e10,e11,e12,e13,e14⟩:=I7 p;refine ⟨?_,?_,?_,?_,?_,?_,?_,?_,?_,?_,?_,?_⟩
 ·rw [e1,e2,e3,e4,e5];exact h.site
 ·rw [e6];exact h.tk
 ·rw [e8,e4];exact h.st
 ·rw [e9,e4];exact h.ca
 ·rw [e10,e4];exact h.mi
 ·rw [e11,e4];exact h.me
 ·rw [e12,e4];exact h.dm
 ·rw [e13,e4];exact h.dr
 ·rw [e14,e1];exact h.Em
 ·rw [e14,e1];exact h.tg
 ·rw [e13];exact h.dr8
 ·rw [e4];exact alc h.lk
def VP.arr {p:PK}(h:VP p):VP p.IT:={h with st:=(x8 _).trans h.st,lk:=λl hl=>h.lk l<|(CG.1 hl).1}
def VP.cnt {p:PK}(h:VP p):VP p.VD:={h with st:=(wv _).trans h.st}
def VP.drw {p:PK}(h:VP p):VP p.Be:=
 have hl:=X3 (gs:=p.gs) (ca:=p.ca) (s:=⟨p.st,p.mi,p.me,aq (M p.gs) 0⟩)<|M p.gs
 {h with st:=hl.1.trans h.st,mi:=hl.2.1.trans h.mi,me:=hl.2.2.1.trans h.me}
def VP.tg1 {p:PK}(h:VP p):∀k:aC,k<M p.cs->1<=gi p.tg k/\gi p.tg k<=1000:=λk hk=>by
 have:=h.tg k (by rw [h.Em];omega)
 have:=lL h.site hk
 omega
def VP.rst {p:PK}(h:VP p):VP p.Hr:=by
 have hs:Av p.Hr.cs p.os p.ks p.gs p.bs=true:=by
  unfold PK.Hr;split
  ·exact h.site
  ·rw [h.Em];exact wJ h.site h.tg1 _<|Ak _
 have hl:M p.Hr.cs=M p.cs:=by
  unfold PK.Hr;split
  ·rfl
  ·exact Ou _
 refine {h with site:=hs,Em:=h.Em.trans hl.symm,tg:=λk hk=>?_}
 have ht:=h.tg k hk
 refine ⟨ht.1,?_⟩;unfold PK.Hr;split
 ·exact ht.2
 ·rcases (ia (gs:=p.gs) (tg:=p.tg) (am:=p.Ig) (cs:=p.cs) (M p.tg) (by rw [h.Em];omega) k).1 with e|⟨_,_,e⟩<;>rw [e]
  ·exact ht.2
  ·exact CN _
def VP.tick {p:PK}(h:VP p) (ht:p.tk≠1000000):VP p.B5:=by
 have h5:=h.dec.arr.cnt.drw.rst
 have et:p.Ah.Be.Hr.tk=p.tk:=(I7 p).2.2.2.2.2.1
 have:=h.tk
 exact {h5 with tk:=by show 0<=p.Ah.Be.Hr.tk+1/\p.Ah.Be.Hr.tk+1<=1000000;omega}
def afq {p:PK}{n:Y}:M (p.ov n)=M p.st:=by
 unfold PK.ov;rw [Gx,Gx,Gx,Gx]
def VP.step {p:PK}(h:VP p) {e:EV}(he:BS p e=0):VP (B3 p e):=by
 unfold B3;rw [AD A0];unfold BS at he;rw [AD (by rw [Of.2 h];decide)] at he
 split
 ·rename_i h1
  rw [AB h1] at he;unfold PK.H7 at he;exact h.tick λhh=>aKo
 rename_i h1;rw [AD h1] at he;split
 ·exact {h with ca:=by simp only [PK.LA,Bf];exact h.ca,mi:=by simp only [PK.LA,Bf];exact h.mi,dm:=by simp only [PK.LA,Bf];exact h.dm,st:=afq.trans h.st}
 rename_i h2;rw [AD h2] at he;split
 ·exact {h with ca:=by simp only [PK.Nt,Bf];exact h.ca,mi:=by simp only [PK.Nt,Bf];exact h.mi,dm:=by simp only [PK.Nt,Bf];exact h.dm,st:=by simp only [PK.Nt,Gx];exact h.st}
 rename_i h3;rw [AD h3] at he;split
 ·exact {h with lk:=λl hl=>h.lk l<|(CG.1 hl).1}
 rename_i h4;rw [AD h4] at he;split
 ·exact {h with}
 rename_i h5;rw [AD h5] at he;split
 ·exact {h with}
 rename_i h6;rw [AD h6] at he;split
 ·exact {h with st:=Gx.trans h.st}
 rename_i h7;rw [AD h7] at he;split at he
 ·unfold PK.GG at he
  split at he
  ·cases he
  ·rename_i hb
   simp only [C6,CS,not_or,OK,B6] at hb;obtain ⟨⟨n0,n1⟩,m0,m1⟩:=hb;refine {h with Em:=by simp only [PK.JL,Bf];exact h.Em,tg:=λk hk=>?_}
   have hk':k<M p.tg:=by simpa only [PK.JL,Bf] using hk
   have ht:=h.tg k hk'
   show 1<=gi (p.tg.set e.en.toNat e.em) k/\gi (p.tg.set e.en.toNat e.em) k<=(AY p.cs k).2.2.1
   unfold gi at ht|-;rw [CH,G1]
   by_cases ek:e.en.toNat=(k:Y).toNat
   ·rw [AB ek,AB (by rw [BW] at ek;omega)]
    rw [BW] at ek
    have:e.en=(k:Y):=A0
    rw [<-this];exact ⟨m0,m1⟩
   ·rw [AD ek,<-CH]
    exact ht
 ·cases he
def MM {α:Type}{l:List α}{d x:α}{i j:aC}:(l.set i x).getD j d=if i=j/\i<M l then x else l.getD j d:=by
 by_cases e:i=j
 ·subst e
  by_cases h:i<M l
  ·grind
  ·grind
 ·grind
def aso {gs:aG}{st:bc}{i j k n m:Y}(hi:0<=i) (hj:0<=j) (hij:i≠j):B1 (C3 gs st i k n m) j=B1 st j:=by
 unfold C3;split
 ·unfold B1;rw [MM,AD A0]
 ·rfl
structure D1 where
 c:Ca
 m:Mi
 e:Me
 (ph al:Y)
namespace D1
variable (d : D1)
def ok:aM:=!(d.c.2.2.1==0)&&(HG d.c d.m d.ph d.al==0)
def a:Y:=E7 d.c d.m d.ph d.al
def o:Y:=cnt<|Dh d.c d.m d.ph d.al
end D1
def d1 (gs:aG) (ca:aKE) (s:DW) (j:Y):D1:=⟨BE ca j,Bo s.mi j,Ez s.me j,(AF gs j).2.2.1,BL (AF gs j)<|B1 s.st j⟩
def aEw {gs:aG}{ca:aKE}{s:DW}{i:Y}(h:(d1 gs ca s i).ok=X):ES gs ca s i=s:=by
 unfold D1.ok d1 at h;unfold ES
 by_cases h1:(BE ca i).2.2.1=0
 ·grind
 ·grind
def aB8 {gs:aG}{ca:aKE}{s:DW}{i:Y}(h:(d1 gs ca s i).ok=U):ES gs ca s i=
  ⟨if (d1 gs ca s i).a>(d1 gs ca s i).al then C3 gs s.st i 6 2 0 else s.st,s.mi.set i.toNat<|HR (d1 gs ca s i).c (d1 gs ca s i).m (d1 gs ca s i).ph (d1 gs ca s i).al,
   if Eu (d1 gs ca s i).e (d1 gs ca s i).a (d1 gs ca s i).o=0 then s.me.set i.toNat (Fu (d1 gs ca s i).e (d1 gs ca s i).a (d1 gs ca s i).o) else s.me,s.dw.set i.toNat (d1 gs ca s i).a⟩:=by
 unfold D1.ok d1 at h;simp only [AP,CS,C4,CO] at h;unfold ES;rw [AD h.1,AB h.2];rfl
def aEx {gs:aG}{ca:aKE}{s:DW}{i j:aC}(h:i≠j):
  B1 (ES gs ca s i).st j=B1 s.st j/\Bo (ES gs ca s i).mi j=Bo s.mi j/\Ez (ES gs ca s i).me j=Ez s.me j/\gi (ES gs ca s i).dw j=gi s.dw j:=by
 cases hk:(d1 gs ca s i).ok
 ·rw [aEw hk];exact ⟨rfl,rfl,rfl,rfl⟩
 ·rw [aB8 hk]
  refine ⟨?_,?_,?_,?_⟩
  ·simp only;split
   ·exact aso A0 A0 A0
   ·rfl
  ·unfold Bo;rw [MM,AD A0]
  ·simp only;split
   ·unfold Ez;rw [MM,AD A0]
   ·rfl
  ·unfold gi;rw [MM,AD A0]
def aEu {gs:aG}{ca:aKE}{s:DW}:∀(k j:aC),k<=j->
  B1 (Cl gs ca s k).st j=B1 s.st j/\Bo (Cl gs ca s k).mi j=Bo s.mi j/\Ez (Cl gs ca s k).me j=Ez s.me j/\gi (Cl gs ca s k).dw j=gi s.dw j
 |0,_,_=>⟨rfl,rfl,rfl,rfl⟩
 |k+1,j,h=>by
  obtain ⟨h1,h2,h3,h4⟩:=aEu (gs:=gs) (ca:=ca) (s:=s) k j A0;obtain ⟨g1,g2,g3,g4⟩:=aEx (gs:=gs) (ca:=ca) (s:=Cl gs ca s k) (i:=k) (j:=j) A0;unfold Cl
  grind
def aEv {gs:aG}{ca:aKE}{s:DW}{n:aC}(hm:M s.mi=n) (he:M s.me=n) (hd:M s.dw=n) {j:aC}(hj:j<n):∀(k:aC),j<k->
  Bo (Cl gs ca s k).mi j=(if (d1 gs ca s j).ok=U then HR (d1 gs ca s j).c (d1 gs ca s j).m (d1 gs ca s j).ph (d1 gs ca s j).al else Bo s.mi j)/\
  Ez (Cl gs ca s k).me j=(if (d1 gs ca s j).ok=U/\Eu (d1 gs ca s j).e (d1 gs ca s j).a (d1 gs ca s j).o=0 then Fu (d1 gs ca s j).e (d1 gs ca s j).a (d1 gs ca s j).o else Ez s.me j)/\
  gi (Cl gs ca s k).dw j=(if (d1 gs ca s j).ok=U then (d1 gs ca s j).a else gi s.dw j)
 |0,h=>A0
 | k +1,h=>by
  by_cases e:j=k
  ·subst e
   obtain ⟨h1,h2,h3,h4⟩:=aEu (gs:=gs) (ca:=ca) (s:=s) j j<|Ak _;obtain ⟨l1,l2,l3,l4⟩:=X3 (gs:=gs) (ca:=ca) (s:=s) j
   have ed:d1 gs ca (Cl gs ca s j) j=d1 gs ca s j:=by unfold d1;rw [h1,h2,h3]
   unfold Cl;cases hk:(d1 gs ca s j).ok
   ·rw [aEw A8]
    grind
   ·rw [aB8 A8,ed]
    simp only [BP,DZ];refine ⟨?_,?_,?_⟩
    ·unfold Bo;rw [MM,AB ⟨rfl,A0⟩]
    ·split
     ·unfold Ez;rw [MM,AB ⟨rfl,A0⟩]
     ·exact h3
    ·unfold gi;rw [MM,AB ⟨rfl,A0⟩]
  ·obtain ⟨g1,g2,g3,g4⟩:=aEx (gs:=gs) (ca:=ca) (s:=Cl gs ca s k) (i:=k) (j:=j) A0
   obtain ⟨h1,h2,h3⟩:=aEv hm he hd hj k A0;exact ⟨g2.trans h1,g3.trans h2,g4.trans h3⟩
def alq {k ph p:Y}(h1:1<=ph/\ph<=7) (h2:1<=p/\p<=7) (h:IS k ph p≠0):1<=cnt (IS k ph p):=by
 have:=vw (k:=k) h1 h2
 unfold cnt;omega
def D1.bd {d:D1}(h:d.ok=U):0<=d.a/\d.a<=80/\0<=d.o/\d.o<=3/\(d.a≠0->1<=d.o)/\(HR d.c d.m d.ph d.al).2.2=d.m.2.2+2300*d.a*d.o:=by
 unfold D1.ok at h;simp only [AP,CS,C4,CO] at h
 have hB:Ij d.c d.m d.ph d.al=true:=by
  exact aIM
 obtain ⟨hc,hm,h1,h2,h3,h4,_⟩:=gq.1 hB;obtain ⟨b1,b2,b3,b4⟩:=aeu hc hm ⟨h1,h2⟩ ⟨h3,h4⟩
 have hc':=S1.1 hc
 have hs:=afz (n:=Dh d.c d.m d.ph d.al)
 have ea:d.a=Ds d.c d.m d.ph d.al:=aaB
 have eo:d.o=cnt (GJ d.c d.m d.ph d.al):=by unfold D1.o Dh;rw [AB hB]
 refine ⟨A0,A0,hs.1,hs.2,λhz=>?_,?_⟩
 ·rw [eo]
  rw [ea] at hz;unfold GJ;rw [AD hz];refine alq ⟨A0,A0⟩ ⟨h1,h2⟩ λhq=>hz ?_
  unfold Ds
  grind
 ·unfold HR
  rw [AB hB,ea,eo];rfl
def Yq {c:Ch}{s:St}{k n m:Y}(h:s.2.2.2=X) (hk:k≠6\/n≠1):(DO c s k n m).2.2.2=false:=by
 unfold DO;split
 ·rename_i he
  unfold sN;rw [AB he];simp only [sW,h,CR,qm,C4];exact hk
 ·exact h
def axG {c:Ch}{s:St}{k n m:Y}(h:0<=s.2.2.1):(DO c s k n m).2.2.1<=s.2.2.1\/(k=7/\(DO c s k n m).2.2.1=m):=by
 unfold DO;split
 ·rename_i he
  unfold sN;rw [AB he];simp only [sL];split
  ·exact .inr ⟨by assumption,rfl⟩
  ·refine .inl ?_
   split
   ·unfold JU;split<;>omega
   ·split<;>omega
 ·exact .inl<|CN _
def axF {c:Ch}{s:St}(h:sV c s=U):(DO c s 8 0 0).2.2.1=JU s.2.2.1:=by
 have hv:=Jx.1 h
 have he:sE c s 8 0 0=0:=by
  unfold sE;rw [AB h,AB AS,AB<|by simp [evV]]
  have:GO s.1 s.2.2.2 8 0=s.1:=by simp [GO]
  rw [this,AD A0]
 unfold DO sN;rw [AB he,AB he]
 simp [sL]
def mQ {gs:aG}{st:bc}{i k n m:Y}(h0:0<=i) (h1:i<(M st:Y)) {j:Y}(hj:0<=j):B1 (C3 gs st i k n m) j=if j=i then DO (AF gs i) (B1 st i) k n m else B1 st j:=by
 unfold C3 DO
 by_cases e:j=i
 ·subst e
  rw [AB rfl];split
  ·unfold B1;rw [MM,AB ⟨rfl,A0⟩]
  ·rfl
 ·rw [AD e]
  split
  ·unfold B1;rw [MM,AD A0]
  ·rfl
def BU (gs:aG) (Q:Y->St->Prop) (st:bc):Prop:=M st=M gs/\∀j:Y,0<=j->j<(M gs:Y)->Q j (B1 st j)
def BU.gv {gs:aG}{Q:Y->St->Prop}{st:bc}(h:BU gs Q st) {i k n m:Y}(h0:0<=i) (h1:i<(M gs:Y)) (hq:Q i (B1 st i)->Q i (DO (AF gs i) (B1 st i) k n m)):BU gs Q (C3 gs st i k n m):=by
 refine ⟨Gx.trans h.1,λj j0 j1=>?_⟩
 rw [mQ h0 (by rw [h.1];exact h1) j0]
 split
 ·rename_i e;subst e;exact hq<|h.2 j j0 j1
 ·exact h.2 j j0 j1
def BU.arr {gs:aG}{Q:Y->St->Prop}{st:bc}{lk:aKx}{t:Y}(h:BU gs Q st) (hl:∀l∈lk,(0<=l.2.2.1/\l.2.2.1<(M gs:Y))/\(l.1<=t->∀s,Q l.2.2.1 s->Q l.2.2.1 (DO (AF gs l.2.2.1) s 7 l.2.2.2.1 l.2.2.2.2.2))):∀n,n<=M lk->BU gs Q (JD gs lk t st n)
 |0,_=>h
 | n+1,hn=>by
  have ih:=BU.arr h hl n A0
  have hm:EL lk n∈lk:=by
   unfold EL;rw [K4 (by rw [BW];omega)]
   exact Ee _
  obtain ⟨⟨c0,c1⟩,hq⟩:=hl _ hm;unfold JD;split
  ·exact ih
  ·exact ih.gv c0 c1<|hq A0 _
def BU.dw {gs:aG}{ca:aKE}{Q:Y->St->Prop}{s:DW}(h:BU gs Q s.st) (hq:∀j st,Q j st->Q j (DO (AF gs j) st 6 2 0)):∀n,n<=M gs->BU gs Q (Cl gs ca s n).st
 |0,_=>h
 | n+1,hn=>by
  have ih:=BU.dw (ca:=ca) h hq n A0
  unfold Cl ES;split
  ·exact ih
  ·split
   ·simp only
    split
    ·exact ih.gv A0 A0<|hq _ _
    ·exact ih
   ·exact ih
def Gk (gs:aG) (b:Y->Y) (j:Y) (s:St):Prop:=sV (AF gs j) s=U/\s.2.2.2=X/\s.2.2.1<=b j
def Gk.le {gs:aG}{b b':Y->Y}{j:Y}{s:St}(h:Gk gs b j s) (hb:b j<=b' j):Gk gs b' j s:=⟨h.1,h.2.1,FV h.2.2 hb⟩
def Gk.gv {gs:aG}{b:Y->Y}{j k n m:Y}{s:St}(h:Gk gs b j s) (hk:k≠6\/n≠1) (hm:k=7->m<=b j):Gk gs b j (DO (AF gs j) s k n m):=by
 have hv:=Jx.1 h.1
 refine ⟨mP h.1,Yq h.2.1 hk,?_⟩;rcases axG (c:=AF gs j) (k:=k) (n:=n) (m:=m) hv.2.2.2.1 with e|⟨e1,e2⟩
 ·exact FV e h.2.2
 ·rw [e2];exact hm e1
def abr {gs:aG}{b:Y->Y}{st:bc}(h:BU gs (Gk gs b) st) (hb:∀j,0<=b j) {i:Y}(h0:0<=i) (h1:i<(M gs:Y)):∀k:aC,BU gs (Gk gs (λj=>if j=i then (if b j-k<0 then 0 else b j-k) else b j)) (JF gs st i k)
 |0=>⟨h.1,λj j0 j1=>(h.2 j j0 j1).le aJQ⟩
 | k+1=>by
  have ih:=abr h hb h0 h1 k
  unfold JF;refine ⟨Gx.trans ih.1,λj j0 j1=>?_⟩
  rw [mQ h0 (by rw [ih.1];exact h1) j0]
  have hj:=ih.2 j j0 j1
  split
  ·rename_i e
   subst e
   have hv:=Jx.1 hj.1
   have h3:=hj.2.2
   have hbj:=hb j
   simp only [BP] at h3;refine ⟨mP hj.1,Yq hj.2.1<|.inl AS,?_⟩;rw [axF hj.1];simp only [BP];unfold JU;split at h3<;>split<;>split<;>omega
  ·rename_i e
   refine hj.le ?_;rw [AD e,AD e];exact CN _
def N6 (dr:aB) (t:Y) (j:Y):Y:=BH (t+1) (gi dr j)-BH t (gi dr j)
def acI {gs:aG}{b:Y->Y}{st:bc}{dr:aB}{t:Y}(h:BU gs (Gk gs b) st) (hb:∀j,0<=b j) (hd:∀j:Y,0<=j->j<(M dr:Y)->-200<=gi dr j/\gi dr j<=200) (hl:M dr=M gs) (ht:0<=t/\t<1000000):
  ∀n:aC,n<=M dr->BU gs (Gk gs (λj=>if j<n then (if b j-N6 dr t j<0 then 0 else b j-N6 dr t j) else b j)) (HD gs dr t st n)
 | 0,_=>⟨h.1,λj j0 j1=>by
   have:=h.2 j j0 j1
   refine this.le ?_;rw [AD A0];exact CN _⟩
 | n+1,hn=>by
  have ih:=acI h hb hd hl ht n A0
  have hdn:=hd (n:Y) A0 A0
  have hs:FR t (gi dr n)=0/\FR (t+1) (gi dr n)=0:=by
   unfold FR;rw [AB,AB]
   ·exact ⟨rfl,rfl⟩
   ·rw [AP,B6,B6];omega
   ·rw [AP,B6,B6];omega
  have ho:0<=N6 dr t n:=by
   unfold N6 BH;rw [AB R7,AB R7]
   have:t*(1000000+gi dr n)<=(t+1)*(1000000+gi dr n):=Ji A0 A0
   have:=qy (by decide:(0:Y)<1000000) this
   omega
  unfold HD;rw [AB hs]
  have:=abr ih (λj=>aJQ) (i:=(n:Y)) A0 A0 (BH (t+1) (gi dr n)-BH t (gi dr n)).toNat
  refine ⟨this.1,λj j0 j1=>(this.2 j j0 j1).le ?_⟩
  have e:(((BH (t+1) (gi dr n)-BH t (gi dr n)).toNat:aC):Y)=N6 dr t n:=by unfold N6 at ho|-;omega
  simp only [e]
  have hbj:=hb j
  by_cases ej:j=n
  ·subst ej
   rw [AB rfl,AD (show ¬((n:Y)<(n:Y)) by omega),AB (show (n:Y)<((n+1:aC):Y) by omega)]
   exact CN _
  ·rw [AD ej]
   by_cases hj:j<(n:Y)
   ·rw [AB hj,AB (show j<((n+1:aC):Y) by omega)];exact CN _
   ·rw [AD hj,AD (show ¬j<((n+1:aC):Y) by omega)];exact CN _
structure FI (p:PK):Prop where
 st:BU p.gs (Gk p.gs (λ_=>12)) p.st
 lk:∀l∈p.lk,p.tk<=l.1/\l.1<=p.tk+10/\l.2.2.2.2.2=12
 ca:∀c∈p.ca,c.1≠4
def azF {p:PK}:∀x∈p.dL,x.2.2.2.2=12:=by
 intro x hx;unfold PK.dL KY at hx;split at hx
 ·obtain ⟨k,hk,rfl⟩:=G4.1 hx
  have:=(XZ (gs:=p.gs) (l:=CM p.ls p.tk) (t:=p.tk) (n:=p.nx) (am:=EC p.gs p.ra (GI p.EF p.os p.ks p.gs p.bs (CM p.ls p.tk) p.dm p.tk)<|M p.gs)<|Ak _).1.at_ (k:Y) A0 A0
  have:=this.1
  rw [Jw tI] at this;simp only [BW] at this;rw [this]
 ·cases hx
def aty {p:PK}(hv:VP p) (h:∀l∈p.lk,p.tk<=l.1/\l.1<=p.tk+10/\l.2.2.2.2.2=12):∀l∈p.AI.lk,p.tk<=l.1/\l.1<=p.tk+10/\l.2.2.2.2.2=12:=by
 unfold PK.AI;split
 ·exact λl hl=>by have:=h l hl;omega
 ·split
  ·exact λl hl=>by have:=h l hl;omega
  ·intro l hl
   rcases (iT (t:=p.tk) (xs:=p.dL) (s:=p.Ep) _<|Ak _).1 l hl with e|⟨x,hx,rfl⟩
   ·have:=h l e;omega
   ·have h1:=(q9 x hx).1
    have h2:=hv.tk
    have h3:0<=(7*p.tk+3*x.2.1).tmod 5/\(7*p.tk+3*x.2.1).tmod 5<=4:=by
     rw [cY A0];omega
    exact ⟨aJW,aJW,azF x hx⟩
def Sq {p:PK}(hv:VP p):∀j:Y,0<=j->j<(M p.dr:Y)->-200<=gi p.dr j/\gi p.dr j<=200:=λj j0 j1=>by
 have:=B9.1 hv.dr8 (gi p.dr j)<|IG j0 j1
 rwa [B6] at this
def FI.tick {p:PK}(h:FI p) (hv:VP p) (ht:p.tk≠1000000):FI p.B5:=by
 obtain ⟨e1,e2,e3,e4,e5,e6,e7,e8,e9,e10,e11,e12,e13,e14⟩:=I7 p
 have htk:=hv.tk
 have hl:=aty hv h.lk
 have hvd:=hv.dec
 have s0:BU p.AI.gs (Gk p.AI.gs λ_=>12) p.AI.st:=by rw [e4,e8];exact h.st
 have s1:BU p.AI.gs (Gk p.AI.gs λ_=>12) p.AI.IT.st:=s0.arr (t:=p.AI.tk) (λl hl'=>⟨hvd.lk l hl',λ_ s hs=>hs.gv (.inl AS) (λ_=>by have:=(hl l hl').2.2;(try simp only []);omega)⟩) _<|Ak _
 have s2:BU p.AI.gs (Gk p.AI.gs λ_=>12) p.Ah.st:=by
  have:=acI (t:=p.AI.tk) (dr:=p.AI.dr) s1 (λ_=>AS) (Sq hvd) hvd.dr (by rw [e6];omega) (M p.AI.dr)<|Ak _
  refine ⟨this.1,λj j0 j1=>(this.2 j j0 j1).le ?_⟩
  rw [AB (by rw [hvd.dr];exact j1)]
  have ho:0<=N6 p.AI.dr p.AI.tk j:=by
   have hd:=Sq hvd j j0 (by rw [hvd.dr];exact j1)
   unfold N6 BH;rw [AB aKp,AB aKp]
   have:p.AI.tk*(1000000+gi p.AI.dr j)<=(p.AI.tk+1)*(1000000+gi p.AI.dr j):=Ji A0 A0
   have:=qy (by decide:(0:Y)<1000000) this
   omega
  split<;>omega
 have s3:BU p.AI.gs (Gk p.AI.gs λ_=>12) p.Ah.dw.st:=BU.dw s2 (λj s hs=>hs.gv (.inr AS) λhk=>Kf) _<|Ak _
 refine ⟨s3,λl hl'=>?_,?_⟩
 ·have hm:l∈p.AI.lk/\an (l.1>p.AI.tk)=true:=CG.1 hl'
  have:=hl l hm.1
  have h2:=CW hm.2
  rw [e6] at h2
  have et:p.B5.tk=p.tk+1:=by show p.AI.tk+1=_;rw [e6]
  rw [et];omega
 ·show ∀c∈p.AI.ca,_
  rw [e9];exact h.ca
def FI.step {p:PK}(h:FI p) (hv:VP p) {e:EV}(he:BS p e=0) (hw:e.ek≠7) (hc:e.c.1≠4):FI (B3 p e):=by
 unfold B3;rw [AD A0];unfold BS at he;rw [AD su] at he;split
 ·rename_i h1
  rw [AB h1] at he;unfold PK.H7 at he;exact h.tick hv λhh=>aKo
 rename_i h1;rw [AD h1] at he
 have cr:∀ {i:Y},p.isC i≠X->0<=i/\i<(M p.gs:Y):=λ{i} hh=>by
  exact aI6
 split
 ·rename_i h2
  rw [AB h2] at he;unfold PK.Ei at he;split at he
  ·cases he
  rename_i hi;obtain ⟨i0,i1⟩:=cr hi;refine {h with st:=?_,ca:=λc hc'=>?_}
  ·exact (((h.st.gv i0 i1 λhs=>hs.gv (.inl AS) λhk=>Kf).gv i0 i1 λhs=>hs.gv (.inl AS) λhk=>Kf).gv i0 i1 λhs=>hs.gv (.inl AS) λhk=>Kf).gv i0 i1 λhs=>hs.gv (.inl AS) λhk=>Kf
  ·rcases Lx hc' with hx|rfl
   ·exact h.ca c hx
   ·exact hc
 rename_i h2;rw [AD h2] at he;split
 ·rename_i h3
  rw [AB h3] at he;unfold PK.HB at he;split at he
  ·cases he
  rename_i hi;obtain ⟨i0,i1⟩:=cr hi;refine {h with st:=?_,ca:=λc hc'=>?_}
  ·exact (h.st.gv i0 i1 λhs=>hs.gv (.inr AS) λhk=>Kf).gv i0 i1 λhs=>hs.gv (.inl AS) λhk=>Kf
  ·rcases Lx hc' with hx|rfl
   ·exact h.ca c hx
   ·decide
 rename_i h3;rw [AD h3] at he;split
 ·exact {h with lk:=λl hl=>h.lk l (CG.1 hl).1}
 rename_i h4;rw [AD h4] at he;split
 ·exact {h with}
 rename_i h5;rw [AD h5] at he;split
 ·exact {h with}
 rename_i h6;rw [AD h6] at he;exact {h with}
def ag9 {d t t':Y}(hd:-200<=d/\d<=200) (h0:0<=t) (h1:t<=t') (h2:t'<=1000000):BH t d<=BH t' d:=by
 unfold BH;rw [AB R7,AB R7];exact qy (by decide:(0:Y)<1000000)<|Ji h1 A0
def amv {c:Ca}{m:Mi}{al:Y}(hm:GQ m=U) (ha:0<=al) (h4:c.1≠4):FH c m al<=al:=by
 have hm:=Wy.1 hm
 unfold FH
 repeat' split
 all_goals omega
def D1.le {d:D1}(h:d.ok=U) (h4:d.c.1≠4):d.a<=d.al:=by
 unfold D1.ok at h;simp only [AP,CS,C4,CO] at h
 have hB:Ij d.c d.m d.ph d.al=true:=by
  exact aIM
 obtain ⟨hc,hm,h1,h2,h3,h5,_⟩:=gq.1 hB
 have ea:d.a=Ds d.c d.m d.ph d.al:=aaB
 have:=amv (c:=d.c) hm h3 h4
 rw [ea];unfold Ds;split<;>omega
def ax5 {ca:aKE}(h:∀c∈ca,c.1≠4) (i:Y):(BE ca i).1≠4:=by
 unfold BE;rw [CH];cases hx:ca[i.toNat]? with
 |none=>simp
 |some y=>exact h y<|Lz hx
structure HT (C cs:aJ):Prop where
 len:M cs=M C
 up:∀o:aC,(AY cs o).2.1=(AY C o).2.1
 lim:∀o:aC,CY (AY C o)<=CY (AY cs o)
def HT.on {C cs:aJ}(h:HT C cs) {o:Y}:∀(k:aC) (c:Y),F4 k cs o c=F4 k C o c
 |0,_=>rfl
 | k+1,c=>by
  simp only [F4];split
  ·rename_i c0
   have e:=h.up c.toNat
   rw [C2 c0] at e;rw [e,h.on k]
  ·rfl
def HT.bel {C cs:aJ}(h:HT C cs) {gs:aG}{o:Y}{k:aC}:CE cs gs o k=CE C gs o k:=by
 unfold CE EX;simp only [h.on]
section
variable {cs C : List Cd} {os : List ByteArray} {ks : List Ko} {gs : List Ch} {bs : List Ba} {l : List Le} {rs : List Ra} {d : List Dm} {t n : Int}
def X0 (hC:Av C os ks gs bs=U) (hs:Av cs os ks gs bs=U) (hL:HT C cs) {a b:aB}(hb:∀k:aC,k<M gs->0<=gi b k/\gi b k<=80)
  (ha:∀k:aC,k<M gs->0<=gi a k/\gi a k<=gi b k) (h:Cw C gs b=U):Cw cs gs a=true:=by
 rw [gR hC hb] at h;rw [gR hs λk hk=>⟨(ha k hk).1,FV (ha k hk).2 (hb k hk).2⟩]
 intro o ho p hp;rw [hL.bel];refine FV (jH λk hk=>?_)<|FV (h o aKu p hp)<|hL.lim o
 have hk:=Wq (CG.1 hk).1
 have:=(ha k.toNat A0).2
 grind
def agv {B N:aL}(bv:Ao B=U) (bb:below (M gs) B=U) (nv:Ao N=U) (nb:below (M gs) N=U) {t t':Y}(h:∀x∈N,E4 t' x=U->x∈B/\E4 t x=U) {j:Y}(j0:0<=j):
  gi (FL (M gs) N t') j<=gi (FL (M gs) B t) j:=
 aBN nv nb j0 (Yr (a:=0) (b:=80) AS<|jC bv).1 λx hx ha e=>by
  obtain ⟨h1,h2⟩:=h x hx ha
  have:=jB bv bb h1 h2
  grind
def gJ {B N:aL}(bv:Ao B=U) (bb:below (M gs) B=U) (nv:Ao N=U) (nb:below (M gs) N=U) {t t':Y}(h:∀x∈N,E4 t' x=U->x∈B/\E4 t x=U) {j:Y}(j0:0<=j) (j1:j<(M gs:Y)):
  gi (Cr gs N t') j<=gi (Cr gs B t) j:=by
 have:=agv bv bb nv nb h j0
 rw [P4 j0 j1,P4 j0 j1];unfold mx;omega
def yT {t t':Y}{x:Le}(ht:t<=t') (hx:x.2.2.2.1<=t) (h:E4 t' x=U):E4 t x=true:=by
 unfold E4 at h|-;simp only [AP,AT] at h|-;omega
def ag8 (V:Vd C os ks gs bs l rs d t n) (hs:Av cs os ks gs bs=U) (hL:HT C cs) {m:aL}(M:NwL gs (EC gs rs (GI C os ks gs bs l d t)<|aa gs) t n m) {B N:aL}
  (bv:Ao B=U) (bb:below (aa gs) B=U) (nv:Ao N=U) (nb:below (aa gs) N=U) (hB:∀x∈B,x.2.2.2.1<=t/\(Cc x>t->x∈l)) (hN:∀x∈N,x∈B\/x∈m)
  (hk:Cw cs gs (Cr gs B t)=U) {t':Y} (ht:t<=t'):Cw cs gs (Cr gs N t')=true:=by
 rw [gR hs λk hk=>I9 hs nv A0 A0]
 rw [gR hs λk hk=>I9 hs bv A0 A0] at hk
 intro o ho p hp
 have h1:=hk o ho p hp
 rw [hL.bel] at h1|-
 have hin:∀k∈BY gs p (CE C gs o<|aa gs),0<=k/\k<(aa gs:Y):=λk hk=>Wq (CG.1 hk).1
 have hBl:∀j:Y,0<=j->j<(aa gs:Y)->gi (Cr gs B t) j<=gi (Cr gs l t) j:=λj j0 j1=>
  gJ V.les V.co bv bb (λx hx ha=>⟨(hB x hx).2 (by unfold E4 at ha;simp only [AP,AT] at ha;exact ha.2),ha⟩) j0 j1
 have hmx:∀k∈BY gs p (CE C gs o<|aa gs),gi (Cr gs N t') k<=mx (gi (Cr gs B t) k) (gi (EC gs rs (GI C os ks gs bs l d t)<|aa gs) k):=λk hk=>by
  obtain ⟨j0,j1⟩:=hin k hk
  have hj:=(acG V j0 j1).1
  have key:gi (FL (aa gs) N t') k<=mx (gi (FL (aa gs) B t) k) (gi (EC gs rs (GI C os ks gs bs l d t)<|aa gs) k):=by
   refine aBN nv nb j0 (by unfold mx;split<;>omega) λx hx ha e=>?_
   rcases hN x hx with h|h
   ·have:=jB bv bb h (yT ht (hB x h).1 ha)
    rw [e] at this;unfold mx;split<;>omega
   ·obtain ⟨i,hi,rfl⟩:=G4.1 h
    have q:=(M.at_ i A0 A0).1
    rw [Jw A0] at q;simp only [BW] at q
    have:=An (λz:Le=>z.2.2.1) q
    simp only [e] at this;unfold mx;split<;>omega
  rw [P4 j0 j1,P4 j0 j1];unfold mx at key|-;omega
 by_cases hl:aa (BY gs p<|CE C gs o<|aa gs)>0
 ·have hr:=B9.1 (ald V) _ (xC hp hl aKu)
  unfold rowB at hr;rw [C6] at hr;rcases hr with hr|hr
  ·refine FV (jH λk hk=>?_) h1
   have h2:=hmx k hk
   have h3:gi (EC gs rs (GI C os ks gs bs l d t)<|aa gs) k=0:=A8
   have h4:=I9 (t2:=t) hs bv (hin k hk).1 (hin k hk).2
   rw [h3] at h2;unfold mx at h2;split at h2<;>omega
  ·refine FV (aC8 λk hk=>FV (hmx k hk) ?_) (FV (CW hr)<|hL.lim o)
   have:=hBl k (hin k hk).1 (hin k hk).2
   exact M7
 ·have e:BY gs p (CE C gs o<|aa gs)=[]:=aGr A0
  rw [e] at h1|-;exact h1
end
def aGf:aD->T LV
 | [.v (ag J r),.v (ag J m)]=> .req ((0<=r/\r<=1000000)/\0<=m/\m<=3000000) (.ok<|.v<|ag J<|m*r / 1000000)
 |_=> .no
def ad5:aN:=[]
def av2:=vo (S:=aGf) func127 ad5 kN (λargs lv h=>by
 unfold aGf at h;split at h
 ·rename_i r m
  refine Al (.req ((1000000:Y)≠0)<|.ok<|AA<|(AA<|m*r).tdiv 1000000) ?_;obtain ⟨⟨hr,hm⟩,rfl⟩:=h
  have h1:=azt (a:=m) (b:=r) hm.1 hm.2 hr.1 hr.2
  refine ⟨A0,An (λz=>LV.v<|ag J z) ?_⟩
  rw [AH (x:=m*r),GV h1.1,AH]
 ·cases h)
def aAc:aD->T LV
 | [.v (ag J n)]=> .ok (inB n 0 1000000)
 |_=> .no
def aBp:=vo (S:=aAc) func126 ad5 kN (λargs lv h=>by
 unfold aAc at h;split at h
 ·rename_i n
  refine Al (.ok<|.v<|.bool<|(an<|n>=0)&&(an<|n<=1000000)) ?_;exact h
 ·cases h)
structure Mp where
 (low high r n:Y)
def nB (s:Mp):T (Rd Mp):=letI a:=AA<|s.low+(AA<|(AA<|s.high-s.low).tdiv 2);.br (an<|s.low<s.high) (.req ((2:Y)≠0)<|.req ((0<=s.r/\s.r<=1000000)/\0<=a/\a<=3000000)<|.br (an<|(a*s.r / 1000000)>=s.n) (.nx {s with high:=a})<|.nx {s with low:=AA<|a+1})<|.so (.exit 0) s
def bZ (s:Mp):Prop:=s.low=0/\s.high=2*s.n+2/\s.r=999800/\0<=s.n/\s.n<=1000000
def Ts (s:Mp):Prop:=(0<=s.low/\s.low<=wt s.n)/\(wt s.n<=s.high/\s.high<=2*s.n+2)/\s.r=999800/\0<=s.n/\s.n<=1000000
def Xt (s:Mp):aC:=(s.high-s.low).toNat
def u7 (x:Ex) (s s':Mp):Prop:=x=.exit 0/\s'.low=wt s'.n
def awh:∀s,bZ s->Ts s:=by
 rintro s ⟨h0,h1,h2,h3,h4⟩
 have:=aao h3
 exact sM
def aqx:Da Ts Xt u7 nB:=by
 intro s hI;obtain ⟨⟨h0,h1⟩,⟨h2,h3⟩,h4,h5,h6⟩:=hI;refine allR_ite (λc1=>?_) λc1=>?_
 ·have c1:s.low<s.high:=AQ
  have hd:(s.high-s.low).tdiv 2=(s.high-s.low) / 2:=GV A0
  have hm:AA (s.low+AA ((AA<|s.high-s.low).tdiv 2))=s.low+(s.high-s.low) / 2:=by
   rw [AH (x:=s.high-s.low),hd,AH (x:=(s.high-s.low) / 2),AH]
  rw [hm];refine allR_ite (λc2=>?_) λc2=>?_
  ·rw [AT,h4,aBr] at c2
   exact ⟨⟨⟨h0,h1⟩,⟨AR,AR⟩,h4,h5,h6⟩,by simp only [Xt];omega⟩
  ·rw [CX,h4,aBr] at c2
   rw [AH (x:=s.low+(s.high-s.low) / 2+1)];exact ⟨⟨⟨A8,AR⟩,⟨h2,h3⟩,h4,h5,h6⟩,by simp only [Xt];omega⟩
 ·have c1:s.high<=s.low:=AQ
  exact Qv
def UX:LpD Mp:=⟨3,24,[0,1,2],[],λs=>[s.low,s.high,.fn 215 [.own 1 0,.own 0 0,.own 2 0]],λs=>[⟨[s.r],247,.cl,X⟩,⟨[.fn 127 []],319,.cl,X⟩,⟨[s.n],3,.cl,X⟩],λv b=>⟨AJ v 0,AJ v 1,Af b 0 0,Af b 2 0⟩,nB,λs r=> {r with r:=s.r,n:=s.n},λs=>s,λ_ s=>s,[.exit 0],bZ,Ts,Xt⟩
abbrev za:=UX.run
abbrev akr:=UX.exn
def T0:aN:=[aBp,av2]
def axz:Ap:=kI T0<|l0 T0
def aox:Rq Ts nB:=by
 intro s hI;refine ⟨λc1=>⟨?_,?_,λ_=>trivial,λ_=>trivial⟩,λ_=>trivial⟩
 all_goals ((obtain ⟨⟨h0,h1⟩,⟨h2,h3⟩,h4,h5,h6⟩:=hI;simp only [AT] at c1;first|decide|(have hd:(s.high-s.low).tdiv 2=(s.high-s.low) / 2:=GV A0;have hm:AA (s.low+AA ((AA<|s.high-s.low).tdiv 2))=s.low+(s.high-s.low) / 2:=(by rw [AH (x:=s.high-s.low),hd,AH (x:=(s.high-s.low) / 2),AH]);rw [hm];omega)))
def aEP:UX.Ok:={}
def aDO:UX.Pf (u7):=⟨awh,λs h=>rfl,aqx,aox⟩
def ajE:=s2 (b:=bN f214 0) aEP aDO T0 axz
def ajc:Fi bZ Ts u7 akr za:=LpD.fin aEP aDO
def aAi:aD->T LV
 | [.v (ag J n)]=> .tu #[wtA n,wtE n]
 |_=> .no
def axy:Ap:=kI T0<|la 1 func214 ajE<|l0 T0
def anR:=vo (S:=aAi) func145 T0 axy (λargs lv h=>by
 unfold aAi at h;split at h
 ·rename_i n
  refine Al (.br (!(inB n 0 1000000)) (.tu #[(0:Y),(1:Y)])<|.req (UX.q (⟨0,(AA<|(AA<|2*n)+2),999800,n⟩:Mp))<|.tu #[(za (⟨0,(AA<|(AA<|2*n)+2),999800,n⟩:Mp)).low,(0:Y)]) ?_;obtain rfl:=h;refine ⟨λc=>?_,λc=>?_⟩
  ·have c:=ntW c
   unfold wtA wtE;rw [c];rfl
  ·have c:=nfW c
   have hb:=B6.1 c
   have hE:bZ ⟨0,AA<|AA (2*n)+2,999800,n⟩:=⟨rfl,by
    rw [AH (x:=2*n),AH],rfl,hb.1,hb.2⟩
   obtain ⟨_,_,_,q⟩:=ajc _ hE;refine ⟨⟨hE,rfl,rfl⟩,?_⟩;rw [q];unfold wtA wtE;rw [AB c,AB c];exact rfl
 ·cases h)
def aGQ:aD->T LV
 | [.v (ag J n),.v (ag J a),.v (ag J b)]=> .ok (inB n a b)
 |_=> .no
def ad4:aN:=[]
def mr:=vo (S:=aGQ) func97 ad4 kN (λargs lv h=>by
 unfold aGQ at h;split at h
 ·rename_i n a b
  refine Al (.ok<|.v<|.bool<|(an<|n>=a)&&(an<|n<=b)) ?_;exact h
 ·cases h)
def aAX:aD->T LV
 | [.v (.agg ⟨[ag J nu,ag J co,ag J am,ag J fr,ag J tk]⟩)]=> .ok (Ce (nu,co,am,fr,tk))
 |_=> .no
def axh:aN:=[mr]
def aBn:=vo (S:=aAX) func66 axh kN (λargs lv h=>by
 unfold aAX at h;split at h
 ·rename_i nu co am fr tk
  refine Al (.ok<|.v<|.bool<|(inB nu (1:Y) (1000000:Y))&&((inB co (0:Y) (15:Y))&&((inB am (0:Y) (80:Y))&&((inB fr (0:Y) (1000000:Y))&&(inB tk (1:Y) (1000:Y)))))) ?_;exact h
 ·cases h)
def aGR:aD->T LV
 | [.v (.agg ⟨[ag J nu,ag J co,ag J am,ag J fr,ag J tk]⟩),.v (.agg ⟨[ag J nu2,ag J co2,ag J am2,ag J fr2,ag J tk2]⟩)]=> .ok (Hq (nu,co,am,fr,tk) (nu2,co2,am2,fr2,tk2))
 |_=> .no
def ab3:=vo (S:=aGR) func67 ad4 kN (λargs lv h=>by
 unfold aGR at h;split at h
 ·rename_i nu co am fr tk nu2 co2 am2 fr2 tk2
  refine Al (.ok<|.v<|.bool<|(an<|nu2>nu)&&(an<|fr2>=fr)) ?_;exact h
 ·cases h)
def aAY:aD->T LV
 | [.v (.agg ⟨[ag J nu,ag J co,ag J am,ag J fr,ag J tk]⟩)]=> .req ((0<=fr/\fr<=1000000)/\0<=tk/\tk<=1000000) (.ok<|Cc (nu,co,am,fr,tk))
 |_=> .no
def axg:aN:=[anR]
def aBo:=vo (S:=aAY) func98 axg kN (λargs lv h=>by
 unfold aAY at h;split at h
 ·rename_i nu co am fr tk
  refine Al (.br ((wtE tk) !=0) (.ok fr)<|.ok<|AA<|(AA<|fr+10)+(wtA tk)) ?_;obtain ⟨⟨hf,ht⟩,rfl⟩:=h
  have c:=B6.2 ht
  have hw:=aao ht.1
  have ea:wtA tk=wt tk:=by unfold wtA;rw [AB c]
  have ee:wtE tk=0:=by unfold wtE;rw [AB c]
  rw [ea,ee,AH (x:=fr+10),AH];exact ⟨λh=>Ai,λ_=>rfl⟩
 ·cases h)
structure LP where
 l:aL
 r:aM
 m:aL
 (n i:Y)
def yo:=bN f25 0
def YE (s:LP):T (Rd LP):=
 .br (an<|s.i<s.n) (.ix s.i (M s.m)<|.br (!(Ce<|AU s.m s.i)) (.so (.ret) {s with r:=X})<|.br (an<|s.i>0) (.ix (AA<|s.i-1) (M s.l)<|.br (!(Hq (AU s.l<|AA<|s.i-1)<|AU s.m s.i)) (.so (.ret) {s with r:=X})<|.nx {s with i:=AA<|s.i+1})<|.nx {s with i:=AA<|s.i+1}) (.so (.exit 0) s)
def bY (s:LP):Prop:=s.i=0/\s.n=(M s.l:Y)/\s.n<=1000/\s.m=s.l
def Tq (s:LP):Prop:=(0<=s.i/\s.i<=s.n)/\s.n=(M s.l:Y)/\s.n<=1000/\s.m=s.l/\∀j:aC,(j:Y)<s.i->FK s.l j=U
def Xs (s:LP):aC:=(s.n-s.i).toNat
def u6 (x:Ex) (s s':LP):Prop:=(x=.exit 0/\∀j:aC,(j:Y)<s'.n->FK s'.l j=U)\/(x=.ret/\s'.r=X/\∃j:aC,(j:Y)<s'.n/\FK s'.l j=X)
def awg:∀s,bY s->Tq s:=by
 rintro s ⟨h0,h2,h3,h4⟩
 exact ⟨A0,h2,h3,h4,λj hj=>A0⟩
def aqu:Da Tq Xs u6 YE:=by
 intro s hI;unfold YE;obtain ⟨⟨h0,h1⟩,h2,h3,h4,hA⟩:=hI;refine allR_ite (λc1=>?_) λc1=>?_
 ·refine allR_ite (λc2=>?_) (λc2=>?_)
  ·have c1:s.i<s.n:=AQ
   rw [h4] at c2;refine .inr ⟨rfl,rfl,s.i.toNat,AR,?_⟩;rw [C2 h0];unfold FK;rw [ntW c2];rfl
  ·refine allR_ite (λc3=>?_) (λc3=>?_)
   ·refine allR_ite (λc4=>?_) (λc4=>?_)
    ·have c1:s.i<s.n:=AQ
     rw [h4] at c2
     have c3:0<s.i:=M9
     rw [AH (x:=s.i-1),h4] at c4;refine .inr ⟨rfl,rfl,s.i.toNat,AR,?_⟩;rw [C2 h0];unfold FK;rw [nfW c2,GU A0,ntW c4];rfl
    ·have c1:s.i<s.n:=AQ
     rw [h4] at c2
     have c3:0<s.i:=M9
     rw [AH (x:=s.i-1),h4] at c4
     have hg:FK s.l s.i=true:=by unfold FK;rw [nfW c2,GU A0,nfW c4];rfl
     rw [AH (x:=s.i+1)]
     exact ⟨⟨⟨AR,AR⟩,h2,h3,h4,λj hj=>by
      by_cases e:(j:Y)<s.i
      ·exact hA j e
      ·have e:(j:Y)=s.i:=dZ
       show FK s.l j=U
       rw [e];exact hg⟩,by simp only [Xs];omega⟩
   ·have c1:s.i<s.n:=AQ
    rw [h4] at c2
    have hg:FK s.l s.i=true:=by unfold FK;rw [nfW c2,CB dy];rfl
    rw [AH (x:=s.i+1)]
    exact ⟨⟨⟨AR,AR⟩,h2,h3,h4,λj hj=>by
     by_cases e:(j:Y)<s.i
     ·exact hA j e
     ·have e:(j:Y)=s.i:=dZ
      rw [e];exact hg⟩,by simp only [Xs];omega⟩
 ·have c1:s.n<=s.i:=AQ
  exact .inl ⟨rfl,λj hj=>hA j A0⟩
def Pv:LpD LP:=⟨0,33,[0,2,8,9,10],[],λs=>[s.l,s.r,s.m,s.n,s.i],λ_=>[],λv b=>⟨As AK v 0,DE v 1,As AK v 2,AJ v 3,AJ v 4⟩,YE,λs r=> {s with r:=r.r,i:=r.i},λs=>s,λ_ s=>s,[.ret,.exit 0],bY,Tq,Xs⟩
abbrev zZ:=Pv.run
abbrev zy:=Pv.exn
def aow:Rq Tq YE:=by
 intro s hI;refine ⟨λc1=>⟨?_,λ_=>trivial,λc2=>⟨λc3=>⟨?_,λ_=>trivial,λ_=>trivial⟩,λ_=>trivial⟩⟩,λ_=>trivial⟩
 all_goals ((obtain ⟨⟨h0,h1⟩,h2,h3,h4,hA⟩:=hI;simp only [AT] at c1;have hl:M s.m=M s.l:=An M h4;first|omega|(simp only [AT,gt_iff_lt] at c3;rw [AH (x:=s.i-1)];omega)))
def ad3:aN:=[aBn,ab3]
def aEO:Pv.Ok:={}
def aDN:Pv.Pf (u6):=⟨awg,λs h=>rfl,aqu,aow⟩
def ajC:SA 0 yo Pv:=s1 aEO aDN ad3 kN
def aja:Fi bY Tq u6 zy zZ:=LpD.fin aEO aDN
def aB2:aD->T LV
 | [.xl (.pair (.int J) (.pair (.int J) (.pair (.int J) (.pair (.int J) (.int J))))) l]=> .ok (Ao l)
 |_=> .no
def SQ:=vm (S:=aB2) func25 ad3 kN (L:=(λi=>if i=4 then Pv.lp else noLoops i)) (λb hb=>by
 rw [show loopsIn _=[yo] by kernel_rfl] at hb
 simp only [Au,BX,BV] at hb;subst hb;exact ajC) (λargs lv h=>by
 unfold aB2 at h;split at h
 ·rename_i l
  refine Al (letI a:=(M l:Y);.br (an<|a>64) (.ok X)<|.req (Pv.q (⟨l,X,l,a,0⟩:LP))<|.br (isEx (zy (⟨l,X,l,a,0⟩:LP))<|.ret) (.ok (zZ (⟨l,X,l,a,0⟩:LP)).r)<|.ok U) ?_;obtain rfl:=h;refine ⟨λc=>An (λz=>LV.v<|.bool z) ?_,λc=>?_⟩
  ·have c:64<(M l:Y):=FW
   unfold Ao;rw [GU A0];rfl
  ·have c:(M l:Y)<=64:=FW
   have hE:bY ⟨l,X,l,(M l:Y),0⟩:=⟨rfl,rfl,AR,rfl⟩
   refine ⟨⟨hE,rfl,rfl⟩,?_⟩;obtain ⟨_,_,hq⟩:=aja _ hE;rcases hq with ⟨q1,q2⟩ |⟨q1,q2,j,q3,q4⟩<;>rw [q1]
   ·have e:Ck (M l) (FK l)=true:=D3.2 (λj hj=>q2 j (by show (j:Y)<(M l:Y);omega))
    unfold Ao;rw [CB A0,e];exact ⟨λh=>Ai,λ_=>rfl⟩
   ·have e:Ck (M l) (FK l)=false:=MP j (by have q3:(j:Y)<(M l:Y):=q3;omega) q4
    rw [q2];unfold Ao;rw [CB A0,e];exact ⟨λ_=>rfl,λh=>Ai⟩
 ·cases h)
structure MZ where
 tick:Y
 l:aL
 (n i:Y)
 out:aL
def yw:=bN f50 0
def oL (s:MZ):T (Rd MZ):=letI a:=AU s.l s.i;.br (an<|s.i<s.n) (.ix s.i (M s.l)<|.req ((0<=a.2.2.2.1/\a.2.2.2.1<=1000000)/\0<=a.2.2.2.2/\a.2.2.2.2<=1000000)<|.br (an<|(Cc a)>s.tick) (.rb (M s.out) (M<|[a]) 40<|.re (M s.out+M ([a])) (s.out++([a]))<|.nx {s with i:=AA<|s.i+1,out:=s.out++([a])})<|.rl s.out<|.nx {s with i:=AA<|s.i+1})<|.rl s.out<|.so (.exit 0) s
def Zh (s:MZ):Prop:=s.i=0/\s.out=[]/\s.n=(M s.l:Y)/\s.n<=1000/\∀x∈s.l,Ce x=U
def TS (s:MZ):Prop:=(0<=s.i/\s.i<=s.n)/\s.out=(s.l.take s.i.toNat).filter (JK s.tick)/\s.n=(M s.l:Y)/\s.n<=1000/\∀x∈s.l,Ce x=U
def jq (s:MZ):aC:=(s.n-s.i).toNat
def uA (x:Ex) (s s':MZ):Prop:=x=.exit 0/\s'.out=s'.l.filter (JK s'.tick)
def ax8:∀s,Zh s->TS s:=by
 rintro s ⟨h0,h1,h2⟩
 exact ⟨A0,Ed,h2⟩
def arb:Da TS jq uA oL:=by
 intro s hI;obtain ⟨⟨h0,h1⟩,hA,h2,h3,h4⟩:=hI;refine allR_ite (λc1=>?_) λc1=>?_
 ·have c1:s.i<s.n:=AQ
  have e:=(Rg h0 (show s.i<M s.l by omega)).2
  rw [AH (x:=s.i+1)];refine allR_ite (λc2=>?_) λc2=>?_
  all_goals
   refine ⟨⟨⟨A8,AR⟩,?_,h2,h3,h4⟩,by simp only [jq];omega⟩
   simp only
   have c2:JK s.tick (AU s.l s.i)=_:=c2
   rw [e,VM,hA,KZ,c2]
   simp
 ·have c1:s.n<=s.i:=AQ
  refine ⟨rfl,?_⟩;rw [hA,Cx A0]
def Q3:LpD MZ:=⟨0,33,[1,6,17,18,19],[.nl 6 62 AK],λs=>[s.tick,.os 0 5 0<|M s.out,s.l,s.n,s.i],λs=>[bV 62 AK s.out],λv b=>⟨AJ v 0,As AK v 2,AJ v 3,AJ v 4,AV AK b 0⟩,oL,λs r=> {s with i:=r.i,out:=r.out},λs=>s,λ_ s=>s,[.exit 0],Zh,TS,jq⟩
abbrev wA:=Q3.run
abbrev aky:=Q3.exn
def ap7:Rq TS oL:=by
 intro s hI;refine ⟨λc1=>⟨?_,?_,λc2=>⟨?_,?_,ak⟩,λc2=>⟨A9,ak⟩⟩,λc1=>⟨A9,ak⟩⟩
 all_goals ((obtain ⟨⟨h0,h1⟩,hA,h2,h3,h4⟩:=hI;simp only [AT] at c1;have hv:=IB.1<|h4 _<|Hd h0 (show s.i<M s.l by omega);have hl:M s.out<=s.i.toNat:=A8;first|omega|(refine ⟨A0,?_,?_⟩<;>simp only [BI,BQ]<;>omega) |exact ⟨rfl,AG⟩))
def ad2:aN:=[SQ,mr,aBo]
def aDq:Q3.Ok:={}
def aDX:Q3.Pf (uA):=⟨ax8,λs h=>rfl,arb,ap7⟩
def ajR:SA 0 yw Q3:=s1 aDq aDX ad2 kN
def alJ:Fi Zh TS uA aky wA:=LpD.fin aDq aDX
def aBP:aD->T LV
 | [.xl (.pair (.int J) (.pair (.int J) (.pair (.int J) (.pair (.int J) (.int J))))) l,.v (ag J t)]=> .ok (.tup [BB l t,Cb l t])
 |_=> .no
def mf:=uS f50 aBP
def XT:VV 50 mf:=vm func50 ad2 kN (L:=(λi=>if i=5 then Q3.lp else noLoops i)) (λb hb=>by
 rw [show loopsIn _=[yw] by kernel_rfl] at hb
 simp only [Au,BX,BV] at hb;subst hb;exact ajR) (λargs lv h=>by
 unfold aBP at h;split at h
 ·rename_i l t
  refine Al (letI a:=(wA (⟨t,l,(M l:Y),(0:Y),([]:aL)⟩:MZ));.br ((!(Ao l)) ||(!(inB t (0:Y) (1100000:Y)))) (.ok<|.tup [.xl AK ([]:aL),(1:Y)])<|.r0 Le<|.req (Q3.q (⟨t,l,(M l:Y),(0:Y),([]:aL)⟩:MZ))<|.rz a.out<|.ok<|.tup [((a.out.drop 0).take<|M a.out),(0:Y)]) ?_;obtain rfl:=h;refine ⟨λc=>?_,λc=>?_⟩
  ·have c:Hp l t=false:=aJO
   unfold BB Cb;rw [c];rfl
  ·have c:Hp l t=true:=aJO
   have hv:Ao l=true:=A8
   have hl:=Eh hv
   have hE:Zh ⟨t,l,(M l:Y),0,[]⟩:=⟨rfl,rfl,rfl,AR,hl.2⟩
   obtain ⟨_,_,q1,q2⟩:=alJ _ hE
   have q2:(wA ⟨t,l,(M l:Y),0,[]⟩).out=l.filter (JK t):=q2
   refine ⟨A9,⟨hE,rfl,rfl⟩,A0,?_⟩
   show LV.tup [LV.xl _ _,_]=_
   unfold BB Cb
   grind
 ·cases h)
structure Ll where
 l:aL
 (Wp tick e:Y)
 m:aL
 (k i:Y)
def yO:=bN f94 0
def oE (s:Ll):T (Rd Ll):=
 .br (an<|s.i<s.k) (.ix s.i (M s.m)<|.br (an<|(AU s.m s.i).2.1>=s.Wp) (.so (.ret) {s with e:=(1:Y)})<|.nx {s with i:=AA<|s.i+1}) (.so (.exit 0) s)
def bH (s:Ll):Prop:=s.i=0/\s.k=(M s.m:Y)/\s.k<=1000
def Uv (s:Ll):Prop:=(0<=s.i/\s.i<=s.k)/\s.k=(M s.m:Y)/\s.k<=1000/\∀x∈s.m.take s.i.toNat,x.2.1<s.Wp
def mG (s:Ll):aC:=(s.k-s.i).toNat
def uO (x:Ex) (s s':Ll):Prop:=(x=.exit 0/\below s'.Wp s'.m=U)\/(x=.ret/\s'.e=1/\below s'.Wp s'.m=X)
def ayu:∀s,bH s->Uv s:=by
 rintro s ⟨h0,h1,h2⟩
 exact ⟨A0,h1,h2,Ed⟩
def auT:Da Uv mG uO oE:=by
 intro s hI;obtain ⟨⟨h0,h1⟩,h2,h3,h4⟩:=hI;refine allR_ite (λc1=>?_) λc1=>?_
 ·have c1:s.i<s.k:=AQ
  refine allR_ite (λc2=>?_) λc2=>?_
  ·refine .inr ⟨rfl,rfl,?_⟩
   unfold below;rw [List.all_eq_false];exact ⟨AU s.m s.i,Hd h0 A8,DQ⟩
  ·rw [AH (x:=s.i+1)]
   refine ⟨⟨⟨A8,A8⟩,h2,h3,λx hx=>?_⟩,by simp only [mG];omega⟩
   rw [(Rg h0 A8).2,BC,FX] at hx;rcases hx with hx|rfl
   ·exact h4 x hx
   ·simpa using c2
 ·have c1:s.k<=s.i:=AQ
  refine .inl ⟨rfl,?_⟩;rw [Cx A0] at h4;unfold below
  grind
def Pc:LpD Ll:=⟨0,48,[0,1,2,6,7,26,27,28],[],λs=>[s.l,s.Wp,s.tick,.v<|.slice aj 0 0,s.e,s.m,s.k,s.i],λ_=>[],λv b=>⟨As AK v 0,AJ v 1,AJ v 2,AJ v 4,As AK v 5,AJ v 6,AJ v 7⟩,oE,λs r=> {s with e:=r.e,i:=r.i},λs=>s,λ_ s=>s,[.ret,.exit 0],bH,Uv,mG⟩
abbrev zk:=Pc.run
abbrev aB5:=Pc.exn
def aqU:Rq Uv oE:=by
 exact aHu
def PH:aN:=[SQ,mr,aBo]
def acj:Ap:=kI PH<|l0 PH
def aDk:Pc.Ok:={}
def aD9:Pc.Pf (uO):=⟨ayu,λs h=>rfl,auT,aqU⟩
def aio:SA 0 yO Pc:=s1 aDk aD9 PH acj
def ama:Fi bH Uv uO aB5 zk:=LpD.fin aDk aD9
def pB:Array Tmp×Code×Code:=((rangesIn<|f94.body.getD .skip)[0]?).getD (#[],.skip,.skip)
def avQ:aKN:=pB.1
def awt:bC:=pB.2.1
def awl:bC:=pB.2.2
structure L3 where
 m:aL
 (k i:Y)
 o:aB
 q:aL
 t:Y
 st:LS
def oD (s:L3):T (Rd L3):=letI b:=AU s.m s.i;letI c:=s.o.getD b.2.1.toNat<|Ty.dflt A7;letI a:=s.o.set b.2.1.toNat (if c<b.2.2.1 then b.2.2.1 else c);.br (an<|s.i<s.k) (.ix s.i (M s.m)<|.br (an<|b.2.2.2.1>s.t) (.rl s.o<|.so (.exit 0) s)<|.req ((0<=b.2.2.2.1/\b.2.2.2.1<=1000000)/\0<=b.2.2.2.2/\b.2.2.2.2<=1000000)<|.br (an<|(Cc b)<=s.t) (.rl s.o<|.nx {s with i:=AA<|s.i+1})<|.ik b.2.1 (M s.o)<|.ik b.2.1 (M s.o)<|.re (M s.o) a<|.nx {s with i:=AA<|s.i+1,o:=a})<|.rl s.o<|.so (.exit 0) s
def bG (s:L3):Prop:=s.st=.ready/\s.i=0/\s.k=(M s.m:Y)/\s.k<=1000/\(∀x∈s.m,Ce x=U/\x.2.1<(M s.o:Y))/\s.m.Pairwise (λa b=>a.1<b.1/\a.2.2.2.1<=b.2.2.2.1)
def Zd (s:L3):Prop:=s.st=.ready/\(0<=s.i/\s.i<=s.k)/\s.k=(M s.m:Y)/\s.k<=1000/\(∀x∈s.m,Ce x=U/\x.2.1<(M s.o:Y))/\s.m.Pairwise (λa b=>a.1<b.1/\a.2.2.2.1<=b.2.2.2.1)
def Y0 (s:L3):aC:=(s.k-s.i).toNat
def adB (x:Ex) (s s':L3):Prop:=x=.exit 0
def ayt:∀s,bG s->Zd s:=by
 rintro s ⟨h0,h1,h2⟩
 exact ⟨h0,A0,h2⟩
def auS:Da Zd Y0 adB oD:=by
 intro s hI;obtain ⟨hs,⟨h0,h1⟩,h2,h3,h4,h5⟩:=hI;refine allR_ite (λc1=>?_) λc1=>rfl
 have c1:s.i<s.k:=AQ
 rw [AH (x:=s.i+1)];refine allR_ite (λc2=>rfl) λc2=>allR_ite (λc3=>?_) λc3=>?_
 ·exact ⟨⟨hs,⟨A8,AR⟩,h2,h3,h4,h5⟩,by simp only [Y0];omega⟩
 ·exact ⟨⟨hs,⟨A8,A8⟩,h2,h3,λx hx=>A8,h5⟩,by simp only [Y0];omega⟩
def Uc:LpD L3:=⟨6,27,[0,2,6,7,8],[],λs=>[.yld 5,.own 4 0,s.m,s.k,s.i],λs=>[bV 3 A7 s.o,⟨[.os 0 1 0<|M s.o],29,.cl,X⟩,⟨[.fn 139 [.own 1 0]],164,.cl,X⟩,⟨[s.q],34,.cl,X⟩,⟨[s.t],3,.cl,X⟩,⟨[.junk,.junk,.junk,.junk,.junk,.junk,.junk,.junk,.junk,.junk,.junk,.own 2 0,.junk,.junk,.junk,.junk,.junk,.junk,.junk,.junk,.junk,.junk,.junk,.junk,.junk,.junk,.junk,.junk,.junk,.junk,.junk,.junk,.junk,.junk,.junk,.junk,.junk,.junk,.junk,.junk,.junk,.junk,.junk,.junk,.junk,.junk,.junk,.junk],0,.lrec avQ awt awl s.st,X⟩],λv b=>⟨As AK v 2,AJ v 3,AJ v 4,AV A7 b 0,AE AK b 3 0,Af b 4 0,.ready⟩,oD,λs r=> {r with m:=s.m,k:=s.k,q:=s.q,t:=s.t,st:=s.st},λs=> {s with st:=.ready},λx s=> {s with st:=(match x with| .exit 0=> .ready|_=> .ready)},[.exit 0],bG,Zd,Y0⟩
abbrev aei:=Uc.run
abbrev am1:=Uc.exn
def aqT:Rq Zd oD:=by
 intro s hI;refine ⟨λc1=>⟨?_,λc2=>⟨A9,ak⟩,λc2=>⟨?_,λc3=>⟨A9,ak⟩,λc3=>⟨?_,?_,?_,?_,?_,ak⟩⟩⟩,λc1=>⟨A9,ak⟩⟩
 all_goals ((obtain ⟨hs,⟨h0,h1⟩,h2,h3,h4,h5⟩:=hI;simp only [AT] at c1;have hv:=(h4 _<|Hd h0 (show s.i<M s.m by omega)).2;have hl:=IB.1 (h4 _<|Hd h0 (show s.i<M s.m by omega)).1;first|omega|exact ⟨rfl,AG⟩))
def aDj:Uc.Ok:={}
def aD8:Uc.Pf (adB):=⟨ayt,λs h=>by
 obtain ⟨m,k,i,o,q,t,st⟩:=s
 have e:=h.1
 subst e;rfl,auS,aqT⟩
def aim:=s2 (b:=bN f185 0) aDj aD8 PH acj
def amZ:Rs bG am1 aei (λs:L3=>((s.m.drop s.i.toNat).filter<|E4 s.t).foldl HO s.o) (λx s' (v:aB)=>x=.exit 0/\s'.o=v):=Cq aDj aD8 (λs hI=>by
  obtain ⟨hs,⟨h0,h1⟩,h2,h3,h4,h5⟩:=hI;refine allR_ite (λc1=>?_) λc1=>?_
  ·have c1:s.i<s.k:=AQ
   have e:=(Rg h0 (show s.i<(M s.m:Y) by omega)).1
   rw [AH (x:=s.i+1)];refine allR_ite (λc2=>?_) λc2=>allR_ite (λc3=>?_) λc3=>?_
   ·refine ⟨rfl,?_⟩
    have c2:(AU s.m s.i).2.2.2.1>s.t:=DQ
    have hp:(s.m.drop s.i.toNat).Pairwise (λa b=>a.1<b.1/\a.2.2.2.1<=b.2.2.2.1):=List.Pairwise.sublist (List.drop_sublist _ _) h5
    rw [e,cJ] at hp;rw [List.filter_eq_nil_iff.2]
    ·rfl
    ·rw [e]
     intro x hx;unfold E4;rw [GU,NH]
     ·decide
     ·rcases Au.1 hx with rfl|hx
      ·omega
      ·have:=(hp.1 x hx).2
       omega
   ·show List.foldl _ _ _=List.foldl _ _ _
    have c3:Cc (AU s.m s.i)<=s.t:=M9
    have hb:¬E4 s.t (AU s.m s.i)=true:=by
     unfold E4;rw [GU (p:=Cc _>_) A0,OJ]
     decide
    simp only
    grind
   ·show List.foldl _ _ _=List.foldl _ _ _
    have c2:(AU s.m s.i).2.2.2.1<=s.t:=DQ
    have c3:s.t<Cc (AU s.m s.i):=M9
    have hb:E4 s.t (AU s.m s.i)=true:=by
     unfold E4;rw [CB c2,CB c3];rfl
    rw [e,KZ,AB hb,Hz];rfl
  ·have c1:s.k<=s.i:=A8
   refine ⟨rfl,?_⟩;rw [Dj A0];rfl)
def aBj:aD->T LV
 | [.xl (.pair (.int J) (.pair (.int J) (.pair (.int J) (.pair (.int J) (.int J))))) l,.v (ag J n),.v (ag J t)]=> .ok (.tup [.xl A7<|FY l n t,Hs l n t])
 |_=> .no
def axx:Ap:=kI PH<|la 1 func185 aim<|l0 PH
def SR:=vm (S:=aBj) func94 PH axx (L:=(λi=>if i=4 then Pc.lp else noLoops i)) (λb hb=>by
 rw [show loopsIn _=[yO] by kernel_rfl] at hb
 simp only [Au,BX,BV] at hb;subst hb;exact aio) (λargs lv h=>by
 unfold aBj at h;split at h
 ·rename_i l n t
  refine Al (letI b:=(aq n.toNat (0:Y));letI d:=(M l:Y);letI a:=(aei (⟨l,d,0,b,l,t,.ready⟩:L3));.br ((!(Ao l)) ||((!(inB n (0:Y) (16:Y))) ||(!(inB t (0:Y) (1100000:Y))))) (.ok<|.tup [.xl A7 ([]:aB),(1:Y)])<|.req (Pc.q (⟨l,n,t,0,l,d,0⟩:Ll))<|.br (isEx (aB5 (⟨l,n,t,0,l,d,0⟩:Ll))<|.ret) (.ok<|.tup [.xl A7 ([]:aB),(zk (⟨l,n,t,0,l,d,0⟩:Ll)).e])<|.rm 8 n<|.re n.toNat b<|.req (Uc.q (⟨l,d,0,b,l,t,.ready⟩:L3))<|.rz a.o<|.ok<|.tup [.xl A7<|(a.o.drop 0).take<|M a.o,(0:Y)]) ?_;obtain rfl:=h
  have bad:IU l n t=X->LV.tup [.xl A7 ([]:aB),.v<|ag J 1]=LV.tup [.xl A7<|FY l n t,.v<|ag J<|Hs l n t]:=λc=>by
   unfold FY Hs;rw [c];rfl
  refine ⟨λc=>bad ?_,λc=>?_⟩
  ·unfold IU
   grind
  have c:(Ao l&&(inB n 0 16&&inB t 0 1100000))=true:=A8
  have c':=c
  rw [AP,AP,B6,B6] at c';obtain ⟨hv,hn,ht⟩:=c'
  have hl:=Eh hv
  have hE:bH ⟨l,n,t,0,l,(M l:Y),0⟩:=⟨rfl,rfl,AR⟩
  refine ⟨⟨hE,rfl,rfl⟩,?_⟩;obtain ⟨_,_,hq⟩:=ama _ hE;rcases hq with ⟨q1,q2⟩ |⟨q1,q2,q3⟩<;>rw [q1]
  ·refine ⟨λh=>Ai,λ_=>?_⟩
   have q2:below n l=true:=q2
   have hE2:bG ⟨l,(M l:Y),0,aq n.toNat 0,l,t,.ready⟩:=⟨rfl,rfl,rfl,AR,λx hx=>⟨hl.2 x hx,by
    have:=CW<|B9.1 q2 x hx
    simp only [Bc];omega⟩,afB hv⟩
   obtain ⟨_,q4⟩:=amZ _ hE2;refine ⟨A0,⟨rfl,AG⟩,⟨hE2,rfl,rfl⟩,A0,?_⟩;rw [C0,DA,q4];unfold FY Hs IU;rw [c,q2];rfl
  ·have q3:below n l=false:=q3
   rw [q2];exact ⟨λ_=>bad (by unfold IU;rw [q3,OJ]),λh=>Ai⟩
 ·cases h)
def aB1:aD->T LV
 | [.v (.agg ⟨[.string nm,ag J at_,ag J ph,ag J mi,ag J ma,ag J st,ag J fb,ag J ow]⟩)]=> .ok (DV mi ma st)
 |_=> .no
def fA:aN:=[]
def aju (nm:bA) (at_ ph mi ma st fb ow:Y):BO prog AM (fA) kN noLoops f225 [.v<|.agg #[.string nm,at_,ph,mi,ma,st,fb,ow]]=.br ((an<|mi<1) ||((an<|mi>ma) ||((an<|ma>80) ||((an<|st<1) ||(an<|st>80))))) (.ok (0:Y)) (.req (st≠0)<|.ok<|AA<|(AA<|(AA<|ma-mi).tdiv st)+2):=AO
def ana:=vo (S:=aB1) func225 fA kN (λargs lv h=>by
 refine ⟨?_⟩;unfold aB1 at h;split at h
 ·simp only [canL,canX]
  rw [aju];rename_i mi ma st _ _;obtain rfl:=h;refine ⟨λc=>An (λz=>LV.v<|ag J z) ?_,λc=>⟨?_,An (λz=>LV.v<|ag J z) ?_⟩⟩
  ·have:D5 mi ma st=false:=by
    rw [GS];intro h;have:=GY.1 h;simp at c;omega
   rw [xw this]
  ·grind
  ·have hh:=GY.2 R4
   obtain ⟨h1,h2,h3,h4,h5⟩:=GY.1 hh
   have:=gP (x:=ma-mi) (st:=st) A0 A0
   rw [AH (x:=ma-mi),GV A0,AH (x:=(ma-mi) / st),AH]
   simp [DV,hh]
 ·cases h)
def aBi:aD->T LV
 | [.v (.agg ⟨[.string nm,ag J at_,ag J ph,ag J mi,ag J ma,ag J st,ag J fb,ag J ow]⟩),.v (ag J k)]=> .req ((1<=mi/\mi<=80/\1<=st/\st<=80)/\0<=k/\k<=1000) (.ok<|DD mi st k)
 |_=> .no
def ak4 (nm:bA) (at_ ph mi ma st fb ow k:Y):BO prog AM (fA) kN noLoops f207 [.v<|.agg #[.string nm,at_,ph,mi,ma,st,fb,ow],k]=.br (k==0) (.ok (0:Y)) (.ok<|AA<|mi+(AA<|(AA<|k-1)*st)):=AO
def X7:=vo (S:=aBi) func207 fA kN (λargs lv h=>by
 refine ⟨?_⟩;unfold aBi at h;split at h
 ·simp only [canL,canX]
  rw [ak4];rename_i mi _ st _ _ k;obtain ⟨⟨⟨h1,h2,h3,h4⟩,h5,h6⟩,rfl⟩:=h;refine ⟨λc=>An (λz=>LV.v<|ag J z) ?_,λc=>An (λz=>LV.v<|ag J z) ?_⟩
  ·have c:k=0:=A8
   simp [DD,c]
  ·have c:k≠0:=A8
   have:=arV (a:=k-1) (b:=st) A0 A0 A0 A0
   rw [AH (x:=k-1),AH (x:=(k-1)*st),AH]
   simp [DD,c]
 ·cases h)
def aAW:aD->T LV
 | [.v (.agg ⟨[.string nm,ag J at_,ag J ph,ag J mi,ag J ma,ag J st,ag J fb,ag J ow]⟩),.v (ag J a)]=> .req (a<=9223372036854775807) (.ok<|Fv mi ma st a)
 |_=> .no
def aeE:aN:=[ana]
def ajv (nm:bA) (at_ ph mi ma st fb ow a:Y):letI b:=(AA<|(AA<|a-mi).tdiv st)+1;letI c:=DV mi ma st;BO prog AM (aeE) kN noLoops f205 [.v<|.agg #[.string nm,at_,ph,mi,ma,st,fb,ow],a]=.br ((c==0) ||(an<|a<0)) (.ok<|.v<|ag J (-1)) (.br (an<|a<mi) (.ok (0:Y))<|.req (st≠0)<|.ok<|.v<|ag J (if (AA b)<(AA<|c-1) then AA b else AA (c-1))):=AO
def X9:=vo (S:=aAW) func205 aeE kN (λargs lv h=>by
 refine ⟨?_⟩;unfold aAW at h;split at h
 ·simp only [canL,canX]
  rw [ajv];rename_i mi ma st _ _ a;obtain ⟨ha,rfl⟩:=h
  have hb:=aEb (mi:=mi) (ma:=ma) (st:=st)
  refine ⟨λc=>An (λz=>LV.v<|ag J z) ?_,λc=>⟨λc2=>An (λz=>LV.v<|ag J z) ?_,λc2=>?_⟩⟩
  ·have c:D5 mi ma st=X\/a<0:=by
    simp at c
    rcases c with c|c
    ·left
     cases e:D5 mi ma st with
     |false=>rfl
     |true=>have:=iz e;omega
    ·exact .inr c
   simp only [Fv,AB c]
  all_goals
   simp at c c2
   have hh:D5 mi ma st=true:=by
    cases e:D5 mi ma st with
    |true=>rfl
    |false=>exact absurd (xw e) c.1
   have hn:¬(D5 mi ma st=X\/a<0):=A8
   have:=GY.1 hh
  ·simp only [Fv,AD hn,AB c2]
  ·have:=gP (x:=a-mi) (st:=st) A0 A0
   refine ⟨A0,An (λz=>LV.v<|ag J z) ?_⟩
   rw [AH (x:=a-mi),GV A0,AH (x:=(a-mi) / st),AH (x:=(a-mi) / st+1),AH (x:=DV mi ma st-1)];simp only [Fv,AD hn,AD (show ¬a<mi by omega)]
   omega
 ·cases h)
def aez:aD->T LV
 | [.v (.string w)]=> .ok (isIn Z5 w)
 |_=> .no
def Qg:aN:=[]
def xI:=vo (S:=aez) func218 Qg kN (λargs lv h=>by
 unfold aez at h;split at h
 ·rename_i w
  refine Al (.br (w.toList==(av #[108,105,109,105,116]).toList) (.ok U)<|.br (w.toList==(av #[110,101,117,116,114,97,108]).toList) (.ok U)<|.br (w.toList==(av #[102,117,115,101]).toList) (.ok U)<|.br (w.toList==(av #[116,104,101,114,109,97,108]).toList) (.ok U)<|.br (w.toList==(av #[102,114,111,109]).toList) (.ok U)<|.br (w.toList==(av #[97,116]).toList) (.ok U)<|.br (w.toList==(av #[112,104,97,115,101,115]).toList) (.ok U)<|.br (w.toList==(av #[97,109,112,115]).toList) (.ok U)<|.br (w.toList==(av #[102,97,108,108,98,97,99,107]).toList) (.ok U)<|.br (w.toList==(av #[111,119,110,101,114]).toList) (.ok U)<|.br (w.toList==(av #[99,97,114,100]).toList) (.ok U)<|.br (w.toList==(av #[114,97,110,107]).toList) (.ok U)<|.br (w.toList==(av #[99,104,97,114,103,101,114]).toList) (.ok U)<|.ok X) ?_;obtain rfl:=h;simp only [XH];unfold isIn Z5;simp only [Ve,cv];refine ⟨λc0=>tN,λc0=>?_⟩
  rw [c0,CR];refine ⟨λc1=>tO,λc1=>?_⟩
  rw [c1,CR];refine ⟨λc2=>tP,λc2=>?_⟩
  rw [c2,CR];refine ⟨λc3=>tQ,λc3=>?_⟩
  rw [c3,CR];refine ⟨λc4=>tR,λc4=>?_⟩
  rw [c4,CR];refine ⟨λc5=>tS,λc5=>?_⟩
  rw [c5,CR];refine ⟨λc6=>by simp [c6,T.all],λc6=>?_⟩
  rw [c6,CR];refine ⟨λc7=>by simp [c7,T.all],λc7=>?_⟩
  rw [c7,CR];refine ⟨λc8=>by simp [c8,T.all],λc8=>?_⟩
  rw [c8,CR];refine ⟨λc9=>by simp [c9,T.all],λc9=>?_⟩
  rw [c9,CR];refine ⟨λc10=>by simp [c10,T.all],λc10=>?_⟩
  rw [c10,CR];refine ⟨λc11=>by simp [c11,T.all],λc11=>?_⟩
  rw [c11,CR];refine ⟨λc12=>by simp [c12,T.all],λc12=>?_⟩
  rw [c12,CR];rfl
 ·cases h)
def yZ:aD->T LV
 | [.v (.string w)]=> .ok (isIn gN w)
 |_=> .no
def z8:=vo (S:=yZ) func219 Qg kN (λargs lv h=>by
 unfold yZ at h;split at h
 ·rename_i w
  refine Al (.br (w.toList==(av #[115,116,97,114,116]).toList) (.ok U)<|.br (w.toList==(av #[101,110,101,114,103,121]).toList) (.ok U)<|.br (w.toList==(av #[116,105,109,101]).toList) (.ok U)<|.br (w.toList==(av #[105,100,108,101]).toList) (.ok U)<|.br (w.toList==(av #[99,97,112]).toList) (.ok U)<|.br (w.toList==(av #[116,97,120]).toList) (.ok U)<|.ok X) ?_;obtain rfl:=h;simp only [XH];unfold isIn gN;simp only [Ve,cv];refine ⟨λc0=>tN,λc0=>?_⟩
  rw [c0,CR];refine ⟨λc1=>tO,λc1=>?_⟩
  rw [c1,CR];refine ⟨λc2=>tP,λc2=>?_⟩
  rw [c2,CR];refine ⟨λc3=>tQ,λc3=>?_⟩
  rw [c3,CR];refine ⟨λc4=>tR,λc4=>?_⟩
  rw [c4,CR];refine ⟨λc5=>tS,λc5=>?_⟩
  rw [c5,CR];rfl
 ·cases h)
def yX:aD->T LV
 | [.v (.string w)]=> .ok (isIn words w)
 |_=> .no
def z7:=vo (S:=yX) func228 Qg kN (λargs lv h=>by
 unfold yX at h;split at h
 ·rename_i w
  refine Al (.br (w.toList==(av #[111,110]).toList) (.ok U)<|.br (w.toList==(av #[119,111,114,107]).toList) (.ok U)<|.br (w.toList==(av #[115,97,116,117,114,100,97,121]).toList) (.ok U)<|.br (w.toList==(av #[115,117,110,100,97,121]).toList) (.ok U)<|.br (w.toList==(av #[98,101,116,119,101,101,110]).toList) (.ok U)<|.br (w.toList==(av #[112,101,114]).toList) (.ok U)<|.br (w.toList==(av #[102,114,101,101]).toList) (.ok U)<|.ok X) ?_;obtain rfl:=h;simp only [XH];unfold isIn words;simp only [Ve,cv];refine ⟨λc0=>tN,λc0=>?_⟩
  rw [c0,CR];refine ⟨λc1=>tO,λc1=>?_⟩
  rw [c1,CR];refine ⟨λc2=>tP,λc2=>?_⟩
  rw [c2,CR];refine ⟨λc3=>tQ,λc3=>?_⟩
  rw [c3,CR];refine ⟨λc4=>tR,λc4=>?_⟩
  rw [c4,CR];refine ⟨λc5=>tS,λc5=>?_⟩
  rw [c5,CR];refine ⟨λc6=>by simp [c6,T.all],λc6=>?_⟩
  rw [c6,CR];rfl
 ·cases h)
def aAb:aD->T LV
 | [.v (.string w)]=> .ok (Qf 1 kinds w)
 |_=> .no
def anc:=vo (S:=aAb) func227 Qg kN (λargs lv h=>by
 unfold aAb at h;split at h
 ·rename_i w
  refine Al (.br (w.toList==(av #[102,101,101,100,101,114]).toList) (.ok (1:Y))<|.br (w.toList==(av #[99,97,98,108,101]).toList) (.ok (2:Y))<|.br (w.toList==(av #[111,119,110,101,114]).toList) (.ok (3:Y))<|.br (w.toList==(av #[99,111,110,116,114,97,99,116]).toList) (.ok (4:Y))<|.br (w.toList==(av #[99,104,97,114,103,101,114]).toList) (.ok (5:Y))<|.br (w.toList==(av #[98,97,121]).toList) (.ok (6:Y))<|.br (w.toList==(av #[116,97,114,105,102,102]).toList) (.ok (7:Y))<|.ok (0:Y)) ?_;obtain rfl:=h;simp only [XH];simp only [Qf,kinds];refine ⟨λc0=>by rw [AB c0];rfl,λc0=>?_⟩
  rw [AD<|by simp [c0]]
  refine ⟨λc1=>by rw [AB c1];rfl,λc1=>?_⟩
  rw [AD<|by simp [c1]]
  refine ⟨λc2=>by rw [AB c2];rfl,λc2=>?_⟩
  rw [AD<|by simp [c2]]
  refine ⟨λc3=>by rw [AB c3];rfl,λc3=>?_⟩
  rw [AD<|by simp [c3]]
  refine ⟨λc4=>by rw [AB c4];rfl,λc4=>?_⟩
  rw [AD<|by simp [c4]]
  refine ⟨λc5=>by rw [AB c5];rfl,λc5=>?_⟩
  rw [AD A8];refine ⟨λc6=>by rw [AB c6];rfl,λc6=>?_⟩
  rw [AD A8];rfl
 ·cases h)
def yY:aD->T LV
 | [.v (.string w)]=> .ok (vI w)
 |_=> .no
def azT:aN:=[xI,z8,anc,z7]
def ahV:=vo (S:=yY) func217 azT kN (λargs lv h=>by
 unfold yY at h;split at h
 ·rename_i w
  refine Al (.ok<|.v<|.bool (((Qf 1 kinds w) !=0) ||((isIn Z5 w) ||((isIn gN w) ||(isIn words w))))) ?_;obtain rfl:=h;rw [y8 1 kinds _ AS];rfl
 ·cases h)
structure KP where
 text:bA
 r:aM
 i:Y
def aBI:=bN f216 0
def eZ (s:KP):T (Rd KP):=letI a:=byI s.text s.i;.br (an<|s.i<(s.text.size:Y)) (.req (0<=s.i/\s.i<(s.text.size:Y))<|.br (if an (a>=97) then !(an<|a<=122)&&(if an (a>=48) then !(an<|a<=57)&&(!(a==95)) else !(a==95)) else if an (a>=48) then !(an<|a<=57)&&(!(a==95)) else !(a==95)) (.so (.ret) {s with r:=X})<|.nx {s with i:=AA<|s.i+1})<|.so (.exit 0) s
def My (s:KP) (j:Y):aM:=an (j<1) ||(chB<|byI s.text j)
def fM (s:KP):Prop:=s.i=1/\1<=(s.text.size:Y)/\(s.text.size:Y)<=1000/\True
def WQ (s:KP):Prop:=1<=s.i/\s.i<=(s.text.size:Y)/\(s.text.size:Y)<=1000/\(True)/\∀j:aC,(j:Y)<s.i->My s j=U
def pZ (s:KP):aC:=((s.text.size:Y)-s.i).toNat
def vW (x:Ex) (s s':KP):Prop:=(x=.exit 0/\∀j:aC,(j:Y)<(s'.text.size:Y)->My s' j=U)\/(x=.ret/\s'.r=X/\∃j:aC,(j:Y)<(s'.text.size:Y)/\My s' j=X)
def azP:∀s,fM s->WQ s:=by
 rintro s ⟨h0,h1,h2,h3⟩
 exact ⟨A0,A0,h2,h3,λj hj=>by unfold My;rw [CB A0];rfl⟩
def axE:Da WQ pZ vW eZ:=by
 intro s hI;unfold eZ;obtain ⟨h0,h1,h2,h3,h4⟩:=hI;refine allR_ite (λc1=>allR_ite (λc2=>?_) λc2=>?_) λc1=>?_
 ·have c1:s.i<(s.text.size:Y):=AQ
  refine .inr ⟨rfl,rfl,s.i.toNat,AR,?_⟩;rw [C2 A0]
  have hg:My s s.i=false:=aJ4
  exact hg
 ·have c1:s.i<(s.text.size:Y):=AQ
  have hg:My s s.i=true:=aJ4
  rw [AH (x:=s.i+1)];refine ⟨⟨AR,AR,h2,h3,λj hj=>?_⟩,by simp only [pZ];omega⟩
  by_cases hji:(j:Y)<s.i
  ·exact h4 j hji
  ·have:(j:Y)=s.i:=A8
   rw [this];exact hg
 ·have c1:(s.text.size:Y)<=s.i:=AQ
  exact VZ
def OA:LpD KP:=⟨0,51,[0,2,3],[],λs=>[.v<|.string s.text,s.r,s.i],λ_=>[],λv b=>⟨gSr<|v.getD 0 .junk,DE v 1,AJ v 2⟩,eZ,λs r=> {r with text:=s.text},λs=>s,λ_ s=>s,[.ret,.exit 0],fM,WQ,pZ⟩
abbrev XX:=OA.run
abbrev aFD:=OA.exn
def avs:Rq WQ eZ:=by
 exact OV
def abh:OA.Ok:={}
def abL:OA.Pf (vW):=⟨azP,λs h=>rfl,axE,avs⟩
def anw:SA 0 aBI OA:=s1 abh abL Qg kN
def asn:Fi fM WQ vW aFD XX:=LpD.fin abh abL
def yC:aD->T LV
 | [.v (.string w)]=> .ok (gwB w)
 |_=> .no
def ahX:=vm (S:=yC) func216 Qg kN (L:=(λi=>if i=4 then OA.lp else noLoops i)) (λb hb=>by
 rw [show loopsIn _=[aBI] by kernel_rfl] at hb
 simp only [Au,BX,BV] at hb;subst hb;exact anw) (λargs lv h=>by
 unfold yC at h;split at h
 ·rename_i w
  refine Al (letI a:=(w.size:Y);.br (an<|a<1) (.ok X)<|.br (an<|a>12) (.ok X)<|.req (0<=(0:Y)/\(0:Y)<a)<|.br (an<|(byI w (0:Y))<97) (.ok X)<|.req (0<=(0:Y)/\(0:Y)<a)<|.br (an<|(byI w (0:Y))>122) (.ok X)<|.req (OA.q (⟨w,X,1⟩:KP))<|.br (isEx (aFD (⟨w,X,1⟩:KP))<|.ret) (.ok (XX (⟨w,X,1⟩:KP)).r)<|.ok U) ?_;obtain rfl:=h
  have bad:¬(((1<=w.size/\w.size<=12)/\(97<=byI w 0/\byI w 0<=122)))->LV.v (.bool X)=LV.v (.bool<|gwB w):=λhn=>An (λz=>LV.v<|.bool z) (by
   rw [OU,GS];intro h;simp only [gwB,chA,AP,AT] at h;exact hn ⟨h.1,A0,A0⟩)
  refine ⟨λc=>bad R4,λc=>⟨λc2=>bad A8,λc2=>⟨R4,λc3=>bad dy,λc3=>⟨R4,λc4=>bad tJ,λc4=>?_⟩⟩⟩⟩
  simp only [CX] at c c2 c3 c4
  have hE:fM ⟨w,X,1⟩:=⟨rfl,AR,AR,ak⟩
  have key:gwB w=(au w.size).all λi=>i==0 ||chB (byI w i):=by
   simp only [gwB,chA];rw [CB A0,CB A0,CB A0];rfl
  obtain ⟨s',_,hq⟩:=asn _ hE;refine ⟨⟨hE,rfl,rfl⟩,?_⟩;rw [key];rcases hq with ⟨h1,h2⟩ |⟨h1,h2,j,h3,h4⟩
  ·rw [h1]
   refine ⟨λh=>Ai,λ_=>An (λz=>LV.v<|.bool z) ?_⟩
   rw [OU,B9];intro i hi
   have:=h2 i (by show (i:Y)<(w.size:Y);have:=Ir.1 hi;omega)
   simp only [My] at this;rw [show (XX ⟨w,X,1⟩).text=w from rfl] at this;rw [C6] at this;rcases this with h|h
   ·have:i=0:=by simp at h;omega
    simp [this]
   ·rw [h];simp
  ·rw [h1,h2]
   refine ⟨λ_=>An (λz=>LV.v<|.bool z) ?_,λh=>Ai⟩
   rw [OU,GS];intro hx;rw [B9] at hx
   have h3:(j:Y)<(w.size:Y):=h3
   have:=hx j<|Ir.2 A0
   simp only [My] at h4;rw [show (XX ⟨w,X,1⟩).text=w from rfl] at h4;rw [F6] at h4
   have h5:=h4.1
   simp at h5
   rw [h4.2] at this
   simp at this
   omega
 ·cases h)
def yD:aD->T LV
 | [.v (.string w)]=> .ok (nameB w)
 |_=> .no
def azS:aN:=[ahX,ahV]
def aiH:=vo (S:=yD) func194 azS kN (λargs lv h=>by
 unfold yD at h;split at h
 ·rename_i w
  refine Al (.ok<|.v<|.bool<|(gwB w)&&(!(vI w))) ?_;exact h
 ·cases h)
def aAe:aD->T LV
 | [.v (.string w)]=> .ok (nameB w)
 |_=> .no
def vL:aN:=[aiH,xI,z8,z7]
def azO:Ap:=kI vL<|l0 vL
def ane:=vo (S:=aAe) func82 vL azO (λargs lv h=>by
 unfold aAe at h;split at h
 ·rename_i w
  refine Al (.br (((1:Y) !=1) ||((!(ByteArray.empty.toList==(av #[]).toList)) ||((0:Y) !=0))) (.ok X)<|.br (((2:Y) !=2) ||((an<|(3:Y)<1) ||((an<|(3:Y)>7) ||(!(nameB w))))) (.br (!X) (.ok X)<|.ok U)<|.br (!U) (.ok X)<|.ok U) ?_;obtain rfl:=h;refine ⟨λc=>?_,λ_=>?_⟩
  ·exfalso
   rw [XH] at c
   revert c
   decide
  ·cases nameB w<;>simp [T.all]
 ·cases h)
def yb:aD->T LV
 | [.v (.agg ⟨[ag J a,ag J b]⟩),.v (ag J n)]=> .ok (inB n a b)
 |_=> .no
def vK:aN:=[]
def iQ:=vo (S:=yb) func117 vK kN (λargs lv h=>by
 unfold yb at h;split at h
 ·rename_i a b n
  refine Al (.ok<|.v<|.bool<|(an<|n>=a)&&(an<|n<=b)) ?_;exact h
 ·cases h)
def aAf:aD->T LV
 | [.v (.agg ⟨[ag J am,ag J mo,ag J ga,ag J lo,ag J de]⟩)]=> .ok (an<|mo>am)
 |_=> .no
def anf:=vo (S:=aAf) func161 vK kN (λargs lv h=>by
 unfold aAf at h;split at h
 ·rename_i am mo ga lo de
  refine Al (.ok<|an<|mo>am) ?_;exact h
 ·cases h)
def aBO:aD->T LV
 | [.v (.agg ⟨[.string nm,ag J at_,ag J ph,ag J mi,ag J ma,ag J st,ag J fb,ag J ow]⟩)]=> .ok (.v<|.bool<|an (mi<=ma)&&((fb==0) ||inB fb mi ma))
 |_=> .no
def ang:=vo (S:=aBO) func162 vK kN (λargs lv h=>by
 unfold aBO at h;split at h
 ·rename_i nm at_ ph mi ma st fb ow
  refine Al (.ok<|.v<|.bool<|(an<|mi<=ma)&&((fb==0) ||((an<|fb>=mi)&&(an<|fb<=ma)))) ?_;exact h
 ·cases h)
def aAk:aD->T LV
 | [.v (.agg ⟨[.string nm,ag J up_,ag J li,ag J ne,ag J ra,ag J he,ag J am,ag J mo,ag J ga,ag J lo,ag J de]⟩),.v (ag J i)]=> .req (0<=i) (.ok<|GK i (nm,up_,li,ne,(ra,he),am,mo,ga,lo,de))
 |_=> .no
def azR:aN:=[iQ,anf]
def anT:=vo (S:=aAk) func116 azR kN (λargs lv h=>by
 unfold aAk at h;split at h
 ·rename_i nm up_ li ne ra he am mo ga lo de i
  refine Al (.br (if i==0 then (up_ !=(-1)) ||((an<|i>0)&&((an<|up_<0) ||(an<|up_>=i))) else (an<|i>0)&&((an<|up_<0) ||(an<|up_>=i))) (.ok X)<|.br ((!(inB li (1:Y) (1000:Y))) ||(!(inB ne (1:Y) (1000:Y)))) (.ok X)<|.br ((!((ra==0)&&(he==0)))&&(!(inB ra (1:Y) (1000:Y)) ||(!(inB he (0:Y) (1000000:Y))))) (.ok X)<|.br ((am==0)&&((mo==0)&&((ga==0)&&((lo==0)&&(de==0))))) (.ok U)<|.ok<|.v<|.bool<|(inB am (0:Y) (200000:Y))&&((inB mo (0:Y) (200000:Y))&&((inB ga (0:Y) (1000:Y))&&((inB lo (0:Y) (1000:Y))&&((inB de (1:Y) (1000000:Y))&&(an<|mo>am)))))) ?_
  obtain ⟨hi,h⟩:=h;exact atX (K:=λz=>LV.v (.bool z)=lv) hi h
 ·cases h)
def aAl:aD->T LV
 | .agg a::r=>s5 a λcs os ks gs bs=>(match r with
  | [.v (.agg ⟨[.string nm,ag J at_,ag J ph,ag J mi,ag J ma,ag J st,ag J fb,ag J ow]⟩)]=> .req ((M cs:Y)<=1000/\(M os:Y)<=1000) (.ok<|Ek (M cs) (M os) (nm,at_,ph,mi,ma,st,fb,ow))
  |_=> .no)
 |_=> .no
def ax4:aN:=[iQ,ang]
def anU:=vo (S:=aAl) func118 ax4 kN (λargs lv h=>by
 unfold aAl at h;split at h
 case h_2=>cases h
 replace h:=GB h
 obtain ⟨cs,os,ks,gs,bs,rfl,h⟩:=h;split at h
 ·rename_i nm at_ ph mi ma st fb ow
  refine Al (.ok<|.v<|.bool<|(inB at_ (0:Y)<|AA<|(M cs:Y)-1)&&((inB ow (0:Y)<|AA<|(M os:Y)-1)&&((inB ph (1:Y) (7:Y))&&((inB mi (1:Y) (80:Y))&&((inB ma (1:Y) (80:Y))&&((inB st (1:Y) (80:Y))&&((inB fb (0:Y) (80:Y))&&(an (mi<=ma)&&((fb==0) ||inB fb mi ma))))))))) ?_;obtain ⟨⟨h1,h2⟩,rfl⟩:=h;refine An (λz=>LV.v<|.bool z) ?_
  rw [AH (x:=(M cs:Y)-1),AH (x:=(M os:Y)-1)];unfold Ek JR;rw [Gn];simp only [AP,C6,B6,AT,CO];omega
 ·cases h)
structure Kr where
 l:aJ
 (n i:Y)
 Aw:aJ
 BF:aF
 Bg:aP
 B7:aG
 Bh:aQ
 out:aF
def yl:=bN f81 0
def nZ (s:Kr):T (Rd Kr):=letI a:=AY s.l s.i;.br (an<|s.i<s.n) (.ix s.i (M s.l)<|.rb (M s.out) (M<|[a.1]) 16<|.re (M s.out+M ([a.1])) (s.out++([a.1]))<|.nx {s with i:=AA<|s.i+1,out:=s.out++([a.1])})<|.rl s.out<|.so (.exit 0) s
def V4 (s:Kr):Prop:=s.i=0/\s.n=(M s.l:Y)/\s.n<=1000/\(M s.out:Y)<=10000
def Tn (s:Kr):Prop:=0<=s.i/\s.i<=s.n/\s.n=(M s.l:Y)/\s.n<=1000/\(M s.out:Y)<=10000+s.i
def kR (s:Kr):aC:=(s.n-s.i).toNat
def qH (x:Ex) (s s':Kr):Prop:=x=.exit 0/\s'.i=s'.n
def awY:∀s,V4 s->Tn s:=by
 exact Vn
def aqB:Da Tn kR qH nZ:=by
 intro s hI;obtain ⟨h0,h1,h2,h3,h4⟩:=hI;refine allR_ite (λc1=>?_) λc1=>?_
 ·have c1:s.i<s.n:=A8
  rw [AH (x:=s.i+1)];exact ⟨⟨A8,A8,h2,h3,A8⟩,by simp only [kR];omega⟩
 ·exact OY
def Pr:LpD Kr:=⟨0,80,[1,3,15,16,17],[.nl 3 9 .str],λs=>[.own 0 0,.os 1 1 0<|M s.out,s.l,s.n,s.i],λs=>[⟨[s.Aw,s.BF,s.Bg,s.B7,s.Bh],28,.cl,X⟩,bV 9 .str s.out],λv b=>⟨As AX v 2,AJ v 3,AJ v 4,AE AX b 0 0,AE .str b 0 1,AE Ad b 0 2,AE AZ b 0 3,AE Ae b 0 4,AV .str b 1⟩,nZ,λs r=> {s with i:=r.i,out:=r.out},λs=>s,λ_ s=>s,[.exit 0],V4,Tn,kR⟩
abbrev RK:=Pr.run
abbrev akp:=Pr.exn
def aos:Rq Tn nZ:=by
 exact Vc
def Sn:aN:=[]
def ke:Pr.Ok:={}
def jU:Pr.Pf (qH):=⟨awY,λs h=>rfl,aqB,aos⟩
def aj8:SA 0 yl Pr:=s1 ke jU Sn kN
def ajl:Fi V4 Tn qH akp RK:=LpD.fin ke jU
def ajk (s:Kr) (hE:V4 s):(RK s).out=s.out++s.l.map (·.1):=by
 have hk:=LpD.keepV ke jU (λs=>s.out++(s.l.drop s.i.toNat).map (·.1)) (λs hI=>by
  obtain ⟨h0,h1,h2,h3,h4⟩:=hI;refine allR_ite (λc1=>?_) λc1=>?_
  ·have c1:s.i<s.n:=A8
   rw [AH (x:=s.i+1)]
   show _++_=_++_
   rw [(agp h0 (show s.i<M s.l by omega)).1]
   simp
  ·rfl) s hE
 obtain ⟨s',hI,q1,q2⟩:=ajl s hE
 have q3:=q2
 have hn:(RK s).n=(M s.l:Y):=hE.2.1
 have hl:(RK s).l=s.l:=rfl
 exact Vi
structure Ks where
 l:aF
 (n i:Y)
 Aw:aJ
 BF:aF
 Bg:aP
 B7:aG
 Bh:aQ
 out:aF
def yk:=bN f81 1
def nY (s:Ks):T (Rd Ks):=letI a:=gS s.l s.i;.br (an<|s.i<s.n) (.ix s.i (M s.l)<|.rb (M s.out) (M<|[a]) 16<|.re (M s.out+M ([a])) (s.out++([a]))<|.nx {s with i:=AA<|s.i+1,out:=s.out++([a])})<|.rl s.out<|.so (.exit 2) s
def V3 (s:Ks):Prop:=s.i=0/\s.n=(M s.l:Y)/\s.n<=1000/\(M s.out:Y)<=10000
def Tm (s:Ks):Prop:=0<=s.i/\s.i<=s.n/\s.n=(M s.l:Y)/\s.n<=1000/\(M s.out:Y)<=10000+s.i
def kQ (s:Ks):aC:=(s.n-s.i).toNat
def qG (x:Ex) (s s':Ks):Prop:=x=.exit 2/\s'.i=s'.n
def awX:∀s,V3 s->Tm s:=by
 exact Vn
def aqA:Da Tm kQ qG nY:=by
 intro s hI;obtain ⟨h0,h1,h2,h3,h4⟩:=hI;refine allR_ite (λc1=>?_) λc1=>?_
 ·have c1:s.i<s.n:=A8
  rw [AH (x:=s.i+1)];exact ⟨⟨A8,A8,h2,h3,A8⟩,by simp only [kQ];omega⟩
 ·exact OY
def Pq:LpD Ks:=⟨0,80,[1,3,28,29,30],[],λs=>[.own 0 0,.os 1 1 0<|M s.out,s.l,s.n,s.i],λs=>[⟨[s.Aw,s.BF,s.Bg,s.B7,s.Bh],28,.cl,X⟩,bV 9 .str s.out],λv b=>⟨As .str v 2,AJ v 3,AJ v 4,AE AX b 0 0,AE .str b 0 1,AE Ad b 0 2,AE AZ b 0 3,AE Ae b 0 4,AV .str b 1⟩,nY,λs r=> {s with i:=r.i,out:=r.out},λs=>s,λ_ s=>s,[.exit 2],V3,Tm,kQ⟩
abbrev RJ:=Pq.run
abbrev ako:=Pq.exn
def aor:Rq Tm nY:=by
 exact Vc
def kc:Pq.Ok:={}
def jT:Pq.Pf (qG):=⟨awX,λs h=>rfl,aqA,aor⟩
def aj6:SA 0 yk Pq:=s1 kc jT Sn kN
def ajj:Fi V3 Tm qG ako RJ:=LpD.fin kc jT
def aji (s:Ks) (hE:V3 s):(RJ s).out=s.out++s.l:=by
 have hk:=LpD.keepV kc jT (λs=>s.out++(s.l.drop s.i.toNat)) (λs hI=>by
  obtain ⟨h0,h1,h2,h3,h4⟩:=hI;refine allR_ite (λc1=>?_) λc1=>?_
  ·have c1:s.i<s.n:=A8
   rw [AH (x:=s.i+1)]
   show _++_=_++_
   rw [(aA8 h0 (show s.i<M s.l by omega)).1]
   simp
  ·rfl) s hE
 obtain ⟨s',hI,q1,q2⟩:=ajj s hE
 have q3:=q2
 have hn:(RJ s).n=(M s.l:Y):=hE.2.1
 have hl:(RJ s).l=s.l:=rfl
 exact Vi
structure Kt where
 l:aP
 (n i:Y)
 Aw:aJ
 BF:aF
 Bg:aP
 B7:aG
 Bh:aQ
 out:aF
def yj:=bN f81 2
def nX (s:Kt):T (Rd Kt):=letI a:=Mz s.l s.i;.br (an<|s.i<s.n) (.ix s.i (M s.l)<|.rb (M s.out) (M<|[a.1]) 16<|.re (M s.out+M ([a.1])) (s.out++([a.1]))<|.nx {s with i:=AA<|s.i+1,out:=s.out++([a.1])})<|.rl s.out<|.so (.exit 4) s
def V2 (s:Kt):Prop:=s.i=0/\s.n=(M s.l:Y)/\s.n<=1000/\(M s.out:Y)<=10000
def Tl (s:Kt):Prop:=0<=s.i/\s.i<=s.n/\s.n=(M s.l:Y)/\s.n<=1000/\(M s.out:Y)<=10000+s.i
def kP (s:Kt):aC:=(s.n-s.i).toNat
def qF (x:Ex) (s s':Kt):Prop:=x=.exit 4/\s'.i=s'.n
def awW:∀s,V2 s->Tl s:=by
 exact Vn
def aq9:Da Tl kP qF nX:=by
 intro s hI;obtain ⟨h0,h1,h2,h3,h4⟩:=hI;refine allR_ite (λc1=>?_) λc1=>?_
 ·have c1:s.i<s.n:=A8
  rw [AH (x:=s.i+1)];exact ⟨⟨A8,A8,h2,h3,A8⟩,by simp only [kP];omega⟩
 ·exact OY
def Pp:LpD Kt:=⟨0,80,[1,3,41,42,43],[],λs=>[.own 0 0,.os 1 1 0<|M s.out,s.l,s.n,s.i],λs=>[⟨[s.Aw,s.BF,s.Bg,s.B7,s.Bh],28,.cl,X⟩,bV 9 .str s.out],λv b=>⟨As Ad v 2,AJ v 3,AJ v 4,AE AX b 0 0,AE .str b 0 1,AE Ad b 0 2,AE AZ b 0 3,AE Ae b 0 4,AV .str b 1⟩,nX,λs r=> {s with i:=r.i,out:=r.out},λs=>s,λ_ s=>s,[.exit 4],V2,Tl,kP⟩
abbrev RR:=Pp.run
abbrev akn:=Pp.exn
def aoq:Rq Tl nX:=by
 exact Vc
def ka:Pp.Ok:={}
def jS:Pp.Pf (qF):=⟨awW,λs h=>rfl,aq9,aoq⟩
def aj3:SA 0 yj Pp:=s1 ka jS Sn kN
def ajh:Fi V2 Tl qF akn RR:=LpD.fin ka jS
def ajg (s:Kt) (hE:V2 s):(RR s).out=s.out++s.l.map (·.1):=by
 have hk:=LpD.keepV ka jS (λs=>s.out++(s.l.drop s.i.toNat).map (·.1)) (λs hI=>by
  obtain ⟨h0,h1,h2,h3,h4⟩:=hI;refine allR_ite (λc1=>?_) λc1=>?_
  ·have c1:s.i<s.n:=A8
   rw [AH (x:=s.i+1)]
   show _++_=_++_
   rw [(xb h0 (show s.i<M s.l by omega)).1]
   simp
  ·rfl) s hE
 obtain ⟨s',hI,q1,q2⟩:=ajh s hE
 have q3:=q2
 have hn:(RR s).n=(M s.l:Y):=hE.2.1
 have hl:(RR s).l=s.l:=rfl
 exact Vi
structure Kz where
 l:aG
 (n i:Y)
 Aw:aJ
 BF:aF
 Bg:aP
 B7:aG
 Bh:aQ
 out:aF
def yi:=bN f81 3
def nW (s:Kz):T (Rd Kz):=letI a:=AF s.l s.i;.br (an<|s.i<s.n) (.ix s.i (M s.l)<|.rb (M s.out) (M<|[a.1]) 16<|.re (M s.out+M ([a.1])) (s.out++([a.1]))<|.nx {s with i:=AA<|s.i+1,out:=s.out++([a.1])})<|.rl s.out<|.so (.exit 6) s
def V1 (s:Kz):Prop:=s.i=0/\s.n=(M s.l:Y)/\s.n<=1000/\(M s.out:Y)<=10000
def Tk (s:Kz):Prop:=0<=s.i/\s.i<=s.n/\s.n=(M s.l:Y)/\s.n<=1000/\(M s.out:Y)<=10000+s.i
def kO (s:Kz):aC:=(s.n-s.i).toNat
def qE (x:Ex) (s s':Kz):Prop:=x=.exit 6/\s'.i=s'.n
def awV:∀s,V1 s->Tk s:=by
 exact Vn
def aq8:Da Tk kO qE nW:=by
 intro s hI;obtain ⟨h0,h1,h2,h3,h4⟩:=hI;refine allR_ite (λc1=>?_) λc1=>?_
 ·have c1:s.i<s.n:=A8
  rw [AH (x:=s.i+1)];exact ⟨⟨A8,A8,h2,h3,A8⟩,by simp only [kO];omega⟩
 ·exact OY
def Po:LpD Kz:=⟨0,80,[1,3,54,55,56],[],λs=>[.own 0 0,.os 1 1 0<|M s.out,s.l,s.n,s.i],λs=>[⟨[s.Aw,s.BF,s.Bg,s.B7,s.Bh],28,.cl,X⟩,bV 9 .str s.out],λv b=>⟨As AZ v 2,AJ v 3,AJ v 4,AE AX b 0 0,AE .str b 0 1,AE Ad b 0 2,AE AZ b 0 3,AE Ae b 0 4,AV .str b 1⟩,nW,λs r=> {s with i:=r.i,out:=r.out},λs=>s,λ_ s=>s,[.exit 6],V1,Tk,kO⟩
abbrev RX:=Po.run
abbrev akm:=Po.exn
def aop:Rq Tk nW:=by
 exact Vc
def kZ:Po.Ok:={}
def jR:Po.Pf (qE):=⟨awV,λs h=>rfl,aq8,aop⟩
def aj2:SA 0 yi Po:=s1 kZ jR Sn kN
def ajf:Fi V1 Tk qE akm RX:=LpD.fin kZ jR
def aje (s:Kz) (hE:V1 s):(RX s).out=s.out++s.l.map (·.1):=by
 have hk:=LpD.keepV kZ jR (λs=>s.out++(s.l.drop s.i.toNat).map (·.1)) (λs hI=>by
  obtain ⟨h0,h1,h2,h3,h4⟩:=hI;refine allR_ite (λc1=>?_) λc1=>?_
  ·have c1:s.i<s.n:=A8
   rw [AH (x:=s.i+1)]
   show _++_=_++_
   rw [(agn h0 (show s.i<M s.l by omega)).1]
   simp
  ·rfl) s hE
 obtain ⟨s',hI,q1,q2⟩:=ajf s hE
 have q3:=q2
 have hn:(RX s).n=(M s.l:Y):=hE.2.1
 have hl:(RX s).l=s.l:=rfl
 exact Vi
structure L4 where
 l:aQ
 (n i:Y)
 out:aF
def yh:=bN f81 4
def nV (s:L4):T (Rd L4):=letI a:=Ls s.l s.i;.br (an<|s.i<s.n) (.ix s.i (M s.l)<|.rb (M s.out) (M<|[a.1]) 16<|.re (M s.out+M ([a.1])) (s.out++([a.1]))<|.nx {s with i:=AA<|s.i+1,out:=s.out++([a.1])})<|.rl s.out<|.so (.exit 8) s
def V0 (s:L4):Prop:=s.i=0/\s.n=(M s.l:Y)/\s.n<=1000/\(M s.out:Y)<=10000
def Tj (s:L4):Prop:=0<=s.i/\s.i<=s.n/\s.n=(M s.l:Y)/\s.n<=1000/\(M s.out:Y)<=10000+s.i
def kM (s:L4):aC:=(s.n-s.i).toNat
def qD (x:Ex) (s s':L4):Prop:=x=.exit 8/\s'.i=s'.n
def awU:∀s,V0 s->Tj s:=by
 exact Vn
def aq7:Da Tj kM qD nV:=by
 intro s hI;obtain ⟨h0,h1,h2,h3,h4⟩:=hI;refine allR_ite (λc1=>?_) λc1=>?_
 ·have c1:s.i<s.n:=A8
  rw [AH (x:=s.i+1)];exact ⟨⟨A8,A8,h2,h3,A8⟩,by simp only [kM];omega⟩
 ·exact OY
def Pm:LpD L4:=⟨0,80,[3,67,68,69],[],λs=>[.os 0 1 0<|M s.out,s.l,s.n,s.i],λs=>[bV 9 .str s.out],λv b=>⟨As Ae v 1,AJ v 2,AJ v 3,AV .str b 0⟩,nV,λs r=> {r with l:=s.l,n:=s.n},λs=>s,λ_ s=>s,[.exit 8],V0,Tj,kM⟩
abbrev Rc:=Pm.run
abbrev akl:=Pm.exn
def aoo:Rq Tj nV:=by
 exact Vc
def kY:Pm.Ok:={}
def jQ:Pm.Pf (qD):=⟨awU,λs h=>rfl,aq7,aoo⟩
def aj1:SA 0 yh Pm:=s1 kY jQ Sn kN
def akR:Fi V0 Tj qD akl Rc:=LpD.fin kY jQ
def akQ (s:L4) (hE:V0 s):(Rc s).out=s.out++s.l.map (·.1):=by
 have hk:=LpD.keepV kY jQ (λs=>s.out++(s.l.drop s.i.toNat).map (·.1)) (λs hI=>by
  obtain ⟨h0,h1,h2,h3,h4⟩:=hI;refine allR_ite (λc1=>?_) λc1=>?_
  ·have c1:s.i<s.n:=A8
   rw [AH (x:=s.i+1)]
   show _++_=_++_
   rw [(agq h0 (show s.i<M s.l by omega)).1]
   simp
  ·rfl) s hE
 obtain ⟨s',hI,q1,q2⟩:=akR s hE
 have q3:=q2
 have hn:(Rc s).n=(M s.l:Y):=hE.2.1
 have hl:(Rc s).l=s.l:=rfl
 exact Vi
def aAz:aD->T LV
 | .agg a::r=>s5 a λcs os ks gs bs=>(match r with
  | []=> .req ((M cs:Y)<=1000/\(M os:Y)<=1000/\(M ks:Y)<=1000/\(M gs:Y)<=1000/\(M bs:Y)<=1000) (.ok<|.xl .str<|J6 cs os ks gs bs)
  |_=> .no)
 |_=> .no
def anY:=vm (S:=aAz) func81 Sn kN (L:=(λi=>if i=3 then Pr.lp else if i=8 then Pq.lp else if i=13 then Pp.lp else if i=18 then Po.lp else if i=23 then Pm.lp else noLoops i)) (λb hb=>by
 rw [show loopsIn _=[yl,yk,yj,yi,yh] by kernel_rfl] at hb
 simp only [Au,BX,BV] at hb;rcases hb with rfl|rfl|rfl|rfl|rfl
 ·exact aj8
 ·exact aj6
 ·exact aj3
 ·exact aj2
 ·exact aj1) (λargs lv h=>by
 unfold aAz at h;split at h
 case h_2=>cases h
 replace h:=GB h
 obtain ⟨cs,os,ks,gs,bs,rfl,h⟩:=h;split at h
 ·refine Al (letI b:=(RK (⟨cs,(M cs:Y),0,cs,os,ks,gs,bs,([]:aF)⟩:Kr));letI d:=(RJ (⟨os,(M os:Y),0,cs,os,ks,gs,bs,b.out⟩:Ks));letI a:=(RR (⟨ks,(M ks:Y),0,cs,os,ks,gs,bs,d.out⟩:Kt));letI c:=(RX (⟨gs,(M gs:Y),0,cs,os,ks,gs,bs,a.out⟩:Kz));letI e:=(Rc (⟨bs,(M bs:Y),0,c.out⟩:L4));.r0 ByteArray<|.req (Pr.q (⟨cs,(M cs:Y),0,cs,os,ks,gs,bs,([]:aF)⟩:Kr))<|.rl b.out<|.req (Pq.q (⟨os,(M os:Y),0,cs,os,ks,gs,bs,b.out⟩:Ks))<|.rl d.out<|.req (Pp.q (⟨ks,(M ks:Y),0,cs,os,ks,gs,bs,d.out⟩:Kt))<|.rl a.out<|.req (Po.q (⟨gs,(M gs:Y),0,cs,os,ks,gs,bs,a.out⟩:Kz))<|.rl c.out<|.req (Pm.q (⟨bs,(M bs:Y),0,c.out⟩:L4))<|.rz e.out<|.ok<|.xl .str<|(e.out.drop 0).take<|M e.out) ?_
  obtain ⟨⟨hc,ho,hk,hg,hb⟩,rfl⟩:=h
  have hE0:V4 ⟨cs,(M cs:Y),0,cs,os,ks,gs,bs,([]:aF)⟩:=⟨rfl,rfl,hc,by simp only;decide⟩
  have o0:=ajk _ hE0
  refine ⟨A9,⟨hE0,rfl,rfl⟩,?_⟩;generalize (RK ⟨cs,(M cs:Y),0,cs,os,ks,gs,bs,([]:aF)⟩).out=r0 at*
  have o0:r0=([]:aF)++cs.map (·.1):=o0
  have l0:(M r0:Y)<=1000:=by rw [o0];simp only [Ax,Eb,BQ];omega
  have hE1:V3 ⟨os,(M os:Y),0,cs,os,ks,gs,bs,r0⟩:=⟨rfl,rfl,ho,AR⟩
  have o1:=aji _ hE1
  refine ⟨A9,⟨hE1,rfl,rfl⟩,?_⟩;generalize (RJ ⟨os,(M os:Y),0,cs,os,ks,gs,bs,r0⟩).out=r1 at*
  have o1:r1=r0++os:=o1
  have l1:(M r1:Y)<=2000:=by rw [o1];simp only [Ax,Eb,BQ];omega
  have hE2:V2 ⟨ks,(M ks:Y),0,cs,os,ks,gs,bs,r1⟩:=⟨rfl,rfl,hk,AR⟩
  have o2:=ajg _ hE2
  refine ⟨A9,⟨hE2,rfl,rfl⟩,?_⟩;generalize (RR ⟨ks,(M ks:Y),0,cs,os,ks,gs,bs,r1⟩).out=r2 at*
  have o2:r2=r1++ks.map (·.1):=o2
  have l2:(M r2:Y)<=3000:=A8
  have hE3:V1 ⟨gs,(M gs:Y),0,cs,os,ks,gs,bs,r2⟩:=⟨rfl,rfl,hg,AR⟩
  have o3:=aje _ hE3
  refine ⟨A9,⟨hE3,rfl,rfl⟩,?_⟩;generalize (RX ⟨gs,(M gs:Y),0,cs,os,ks,gs,bs,r2⟩).out=r3 at*
  have o3:r3=r2++gs.map (·.1):=o3
  have l3:(M r3:Y)<=4000:=A8
  have hE4:V0 ⟨bs,(M bs:Y),0,r3⟩:=⟨rfl,rfl,hb,AR⟩
  have o4:=akQ _ hE4
  refine ⟨A9,⟨hE4,rfl,rfl⟩,?_⟩;generalize (Rc ⟨bs,(M bs:Y),0,r3⟩).out=r4 at*
  have o4:r4=r3++bs.map (·.1):=o4
  refine ⟨A0,?_⟩
  show LV.xl _ _=_
  rw [C0,Cx A0,o4,o3,o2,o1,o0,De];rfl
 ·cases h)
structure Jm where
 r:aM
 l:aJ
 (n i:Y)
 Aw:aJ
 BF:aF
 Bg:aP
 B7:aG
 Bh:aQ
def xi:=bN f83 0
def nj (s:Jm):T (Rd Jm):=
 .br (an<|s.i<s.n) (.ix s.i (M s.l)<|.req (0<=s.i)<|.br (!(GK s.i<|AY s.l s.i)) (.so (.ret) {s with r:=X})<|.nx {s with i:=AA<|s.i+1}) (.so (.exit 0) s)
def SZ (s:Jm) (j:Y):aM:=GK j<|AY s.l j
def uf (s:Jm):Prop:=s.i=0/\0<=s.n/\s.n<=1000/\s.n=(M s.l:Y)
def UB (s:Jm):Prop:=0<=s.i/\s.i<=s.n/\s.n<=1000/\(s.n=(M s.l:Y))/\∀j:aC,(j:Y)<s.i->SZ s j=U
def l9 (s:Jm):aC:=(s.n-s.i).toNat
def qM (x:Ex) (s s':Jm):Prop:=(x=.exit 0/\∀j:aC,(j:Y)<s'.n->SZ s' j=U)\/(x=.ret/\s'.r=X/\∃j:aC,(j:Y)<s'.n/\SZ s' j=X)
def avH:∀s,uf s->UB s:=by
 exact I1
def amo:Da UB l9 qM nj:=by
 intro s hI;obtain ⟨h0,h1,h2,h3,h4⟩:=hI;refine allR_ite (λc1=>allR_ite (λc2=>?_) λc2=>?_) λc1=>?_
 ·have c1:s.i<s.n:=AQ
  refine .inr ⟨rfl,rfl,s.i.toNat,A8,?_⟩;rw [C2 A0]
  have hg:SZ s s.i=false:=aIt
  exact hg
 ·have c1:s.i<s.n:=AQ
  have hg:SZ s s.i=true:=aIt
  rw [AH (x:=s.i+1)];refine ⟨⟨A8,A8,h2,h3,λj hj=>?_⟩,by simp only [l9];omega⟩
  exact Iv
 ·exact OW
def PV:LpD Jm:=⟨0,95,[1,2,13,14,15],[],λs=>[.own 0 0,s.r,s.l,s.n,s.i],λs=>[⟨[s.Aw,s.BF,s.Bg,s.B7,s.Bh],28,.cl,X⟩],λv b=>⟨DE v 1,As AX v 2,AJ v 3,AJ v 4,AE AX b 0 0,AE .str b 0 1,AE Ad b 0 2,AE AZ b 0 3,AE Ae b 0 4⟩,nj,λs r=> {s with r:=r.r,i:=r.i},λs=>s,λ_ s=>s,[.ret,.exit 0],uf,UB,l9⟩
abbrev aeP:=PV.run
abbrev aAG:=PV.exn
def anp:Rq UB nj:=by
 exact rh
def TI:aN:=[anT,iQ,anU]
def aDG:PV.Ok:={}
def aCV:PV.Pf (qM):=⟨avH,λs h=>rfl,amo,anp⟩
def ahv:SA 0 xi PV:=s1 aDG aCV TI kN
def ahR:Fi uf UB qM aAG aeP:=LpD.fin aDG aCV
structure Ju where
 r:aM
 l:aP
 (n i:Y)
 Aw:aJ
 BF:aF
 Bg:aP
 B7:aG
 Bh:aQ
 cards:aB
def xh:=bN f83 1
def YS (s:Ju):T (Rd Ju):=letI a:=Mz s.l s.i;.br (an<|s.i<s.n) (.ix s.i (M s.l)<|.br ((!(inB a.2.1 (0:Y)<|AA<|(M s.BF:Y)-1)) ||((!(inB a.2.2.1 (1:Y) (9:Y))) ||((!(inB a.2.2.2 (1:Y) (1000000:Y))) ||(List.contains s.cards a.2.2.2)))) (.so (.ret) {s with r:=X})<|.req (List.contains s.cards a.2.2.2=X)<|.nx {s with i:=AA<|s.i+1,cards:=s.cards++[a.2.2.2]})<|.so (.exit 2) s
def SY (s:Ju) (j:Y):aM:=koV (M s.BF) (Mz s.l j)&&!(((s.l.take j.toNat).map (·.2.2.2)).contains (Mz s.l j).2.2.2)
def ue (s:Ju):Prop:=s.i=0/\s.cards=[]/\s.n=(M s.l:Y)/\s.n<=1000/\(M s.BF:Y)<=1000
def UA (s:Ju):Prop:=0<=s.i/\s.i<=s.n/\s.n=(M s.l:Y)/\s.n<=1000/\((M s.BF:Y)<=1000)/\s.cards=(s.l.take s.i.toNat).map (·.2.2.2)/\∀j:aC,(j:Y)<s.i->SY s j=U
def l8 (s:Ju):aC:=(s.n-s.i).toNat
def qL (x:Ex) (s s':Ju):Prop:=(x=.exit 2/\∀j:aC,(j:Y)<s'.n->SY s' j=U)\/(x=.ret/\s'.r=X/\∃j:aC,(j:Y)<s'.n/\SY s' j=X)
def avG:∀s,ue s->UA s:=by
 exact aHk
def amn:Da UA l8 qL YS:=by
 intro s hI;unfold YS;obtain ⟨h0,h1,h2,h3,h4,h5,h6⟩:=hI;refine allR_ite (λc1=>allR_ite (λc2=>?_) λc2=>?_) λc1=>?_
 ·have c1:s.i<s.n:=AQ
  refine .inr ⟨rfl,rfl,s.i.toNat,AR,?_⟩;rw [C2 h0]
  have hg:SY s s.i=false:=by
   exact aHO
  exact hg
 ·have c1:s.i<s.n:=AQ
  have hg:SY s s.i=true:=by
   exact aHO
  rw [AH (x:=s.i+1)];refine ⟨⟨AR,AR,h2,h3,h4,?_,λj hj=>?_⟩,by simp only [l8];omega⟩
  ·simp only
   rw [(xb h0 (show s.i<M s.l by omega)).2,h5]
   try rw [Iq]
   try rfl
  ·exact aJ2
 ·exact aIY
def PU:LpD Ju:=⟨0,95,[1,2,5,27,28,29],[],λs=>[.own 0 0,s.r,.om 1,s.l,s.n,s.i],λs=>[⟨[s.Aw,s.BF,s.Bg,s.B7,s.Bh],28,.cl,X⟩,⟨[],233,.st A7 s.cards,X⟩],λv b=>⟨DE v 1,As Ad v 3,AJ v 4,AJ v 5,AE AX b 0 0,AE .str b 0 1,AE Ad b 0 2,AE AZ b 0 3,AE Ae b 0 4,gSe A7<|gBk b 1⟩,YS,λs r=> {s with r:=r.r,i:=r.i,cards:=r.cards},λs=>s,λ_ s=>s,[.ret,.exit 2],ue,UA,l8⟩
abbrev aeQ:=PU.run
abbrev aAF:=PU.exn
def ano:Rq UA YS:=by
 intro s hI;refine ⟨λc1=>⟨?_,λ_=>trivial,λc2=>⟨?_,ak⟩⟩,λ_=>trivial⟩
 all_goals ((obtain ⟨h0,h1,h2,h3,h4,h5,h6⟩:=hI;first|(simp at c1;omega) |(simp only [F6] at c2;exact c2.2.2.2)))
def aDF:PU.Ok:={}
def aCU:PU.Pf (qL):=⟨avG,λs h=>rfl,amn,ano⟩
def ahu:SA 0 xh PU:=s1 aDF aCU TI kN
def ahQ:Fi ue UA qL aAF aeQ:=LpD.fin aDF aCU
structure Jy where
 r:aM
 l:aG
 (n i:Y)
 Aw:aJ
 BF:aF
 Bg:aP
 B7:aG
 Bh:aQ
def xg:=bN f83 2
def ni (s:Jy):T (Rd Jy):=
 .br (an<|s.i<s.n) (.ix s.i (M s.l)<|.req ((M s.Aw:Y)<=1000/\(M s.BF:Y)<=1000)<|.br (!(Ek (M s.Aw) (M s.BF)<|AF s.l s.i)) (.so (.ret) {s with r:=X})<|.nx {s with i:=AA<|s.i+1}) (.so (.exit 4) s)
def SX (s:Jy) (j:Y):aM:=Ek (M s.Aw) (M s.BF)<|AF s.l j
def ud (s:Jy):Prop:=s.i=0/\0<=s.n/\s.n<=1000/\s.n=(M s.l:Y)/\(M s.Aw:Y)<=1000/\(M s.BF:Y)<=1000
def U9 (s:Jy):Prop:=0<=s.i/\s.i<=s.n/\s.n<=1000/\(s.n=(M s.l:Y)/\(M s.Aw:Y)<=1000/\(M s.BF:Y)<=1000)/\∀j:aC,(j:Y)<s.i->SX s j=U
def kz (s:Jy):aC:=(s.n-s.i).toNat
def qK (x:Ex) (s s':Jy):Prop:=(x=.exit 4/\∀j:aC,(j:Y)<s'.n->SX s' j=U)\/(x=.ret/\s'.r=X/\∃j:aC,(j:Y)<s'.n/\SX s' j=X)
def avF:∀s,ud s->U9 s:=by
 exact I1
def amm:Da U9 kz qK ni:=by
 intro s hI;obtain ⟨h0,h1,h2,h3,h4⟩:=hI;refine allR_ite (λc1=>allR_ite (λc2=>?_) λc2=>?_) λc1=>?_
 ·have c1:s.i<s.n:=AQ
  refine .inr ⟨rfl,rfl,s.i.toNat,AR,?_⟩
  have hg:SX s s.i=false:=aIs
  exact hg
 ·have c1:s.i<s.n:=AQ
  have hg:SX s s.i=true:=aIs
  rw [AH (x:=s.i+1)];refine ⟨⟨A8,A8,h2,h3,λj hj=>?_⟩,by simp only [kz];omega⟩
  exact Iv
 ·exact OW
def PT:LpD Jy:=⟨0,95,[1,2,67,68,69],[],λs=>[.own 0 0,s.r,s.l,s.n,s.i],λs=>[⟨[s.Aw,s.BF,s.Bg,s.B7,s.Bh],28,.cl,X⟩],λv b=>⟨DE v 1,As AZ v 2,AJ v 3,AJ v 4,AE AX b 0 0,AE .str b 0 1,AE Ad b 0 2,AE AZ b 0 3,AE Ae b 0 4⟩,ni,λs r=> {s with r:=r.r,i:=r.i},λs=>s,λ_ s=>s,[.ret,.exit 4],ud,U9,kz⟩
abbrev aeb:=PT.run
abbrev aAE:=PT.exn
def ann:Rq U9 ni:=by
 intro s hI;refine ⟨λc1=>⟨?_,?_,λ_=>trivial,λ_=>trivial⟩,λ_=>trivial⟩
 all_goals ((obtain ⟨h0,h1,h2,h3,h4⟩:=hI;simp at c1;first|omega|exact h3.2))
def aDE:PT.Ok:={}
def aCT:PT.Pf (qK):=⟨avF,λs h=>rfl,amm,ann⟩
def aht:SA 0 xg PT:=s1 aDE aCT TI kN
def ahP:Fi ud U9 qK aAE aeb:=LpD.fin aDE aCT
structure KB where
 r:aM
 l:aQ
 (n i:Y)
 Aw:aJ
 BF:aF
 Bg:aP
 B7:aG
 Bh:aQ
def xf:=bN f83 3
def nh (s:KB):T (Rd KB):=
 .br (an<|s.i<s.n) (.ix s.i (M s.l)<|.br (!(inB (Ls s.l s.i).2 (0:Y)<|AA<|(M s.B7:Y)-1)) (.so (.ret) {s with r:=X})<|.nx {s with i:=AA<|s.i+1}) (.so (.exit 6) s)
def SW (s:KB) (j:Y):aM:=inB (Ls s.l j).2 0<|AA<|(M s.B7:Y)-1
def uc (s:KB):Prop:=s.i=0/\0<=s.n/\s.n<=1000/\s.n=(M s.l:Y)
def U8 (s:KB):Prop:=0<=s.i/\s.i<=s.n/\s.n<=1000/\(s.n=(M s.l:Y))/\∀j:aC,(j:Y)<s.i->SW s j=U
def kv (s:KB):aC:=(s.n-s.i).toNat
def qJ (x:Ex) (s s':KB):Prop:=(x=.exit 6/\∀j:aC,(j:Y)<s'.n->SW s' j=U)\/(x=.ret/\s'.r=X/\∃j:aC,(j:Y)<s'.n/\SW s' j=X)
def avE:∀s,uc s->U8 s:=by
 exact I1
def aml:Da U8 kv qJ nh:=by
 intro s hI;obtain ⟨h0,h1,h2,h3,h4⟩:=hI;refine allR_ite (λc1=>allR_ite (λc2=>?_) λc2=>?_) λc1=>?_
 ·have c1:s.i<s.n:=AQ
  refine .inr ⟨rfl,rfl,s.i.toNat,A8,?_⟩
  have hg:SW s s.i=false:=aJ5
  exact hg
 ·have c1:s.i<s.n:=AQ
  have hg:SW s s.i=true:=aJ5
  rw [AH (x:=s.i+1)];refine ⟨⟨A8,A8,h2,h3,λj hj=>?_⟩,by simp only [kv];omega⟩
  exact Iv
 ·exact OW
def PS:LpD KB:=⟨0,95,[1,2,79,80,81],[],λs=>[.own 0 0,s.r,s.l,s.n,s.i],λs=>[⟨[s.Aw,s.BF,s.Bg,s.B7,s.Bh],28,.cl,X⟩],λv b=>⟨DE v 1,As Ae v 2,AJ v 3,AJ v 4,AE AX b 0 0,AE .str b 0 1,AE Ad b 0 2,AE AZ b 0 3,AE Ae b 0 4⟩,nh,λs r=> {s with r:=r.r,i:=r.i},λs=>s,λ_ s=>s,[.ret,.exit 6],uc,U8,kv⟩
abbrev zX:=PS.run
abbrev aAD:=PS.exn
def anm:Rq U8 nh:=by
 exact OV
def aDD:PS.Ok:={}
def aCS:PS.Pf (qJ):=⟨avE,λs h=>rfl,aml,anm⟩
def ahs:SA 0 xf PS:=s1 aDD aCS TI kN
def ahZ:Fi uc U8 qJ aAD zX:=LpD.fin aDD aCS
def aAj:aD->T LV
 | .agg a::r=>s5 a λcs os ks gs bs=>(match r with
  | []=> .req ((M cs:Y)<=1000/\(M os:Y)<=1000/\(M ks:Y)<=1000/\(M gs:Y)<=1000/\(M bs:Y)<=1000) (.ok<|JT cs os ks gs bs)
  |_=> .no)
 |_=> .no
def anS:=vm (S:=aAj) func83 TI kN (L:=(λi=>if i=2 then PV.lp else if i=9 then PU.lp else if i=16 then PT.lp else if i=22 then PS.lp else noLoops i)) (λb hb=>by
 rw [show loopsIn _=[xi,xh,xg,xf] by kernel_rfl] at hb
 simp only [Au,BX,BV] at hb;rcases hb with rfl|rfl|rfl|rfl
 ·exact ahv
 ·exact ahu
 ·exact aht
 ·exact ahs) (λargs lv h=>by
 unfold aAj at h;split at h
 case h_2=>cases h
 replace h:=GB h
 obtain ⟨cs,os,ks,gs,bs,rfl,h⟩:=h;split at h
 ·refine Al (letI g:=(M cs:Y);letI k:=(M ks:Y);letI l:=(M gs:Y);letI m:=(M bs:Y);letI c:=(aeP (⟨X,cs,g,0,cs,os,ks,gs,bs⟩:Jm));letI a:=(aeQ (⟨c.r,ks,k,0,cs,os,ks,gs,bs,([]:aB)⟩:Ju));letI e:=(aeb (⟨a.r,gs,l,0,cs,os,ks,gs,bs⟩:Jy));.req (PV.q (⟨X,cs,g,0,cs,os,ks,gs,bs⟩:Jm))<|.br (isEx (aAG (⟨X,cs,g,0,cs,os,ks,gs,bs⟩:Jm))<|.ret) (.ok c.r)<|.req (PU.q (⟨c.r,ks,k,0,cs,os,ks,gs,bs,([]:aB)⟩:Ju))<|.br (isEx (aAF (⟨c.r,ks,k,0,cs,os,ks,gs,bs,([]:aB)⟩:Ju))<|.ret) (.ok a.r)<|.req (PT.q (⟨a.r,gs,l,0,cs,os,ks,gs,bs⟩:Jy))<|.br (isEx (aAE (⟨a.r,gs,l,0,cs,os,ks,gs,bs⟩:Jy))<|.ret) (.ok e.r)<|.req (PS.q (⟨e.r,bs,m,0,cs,os,ks,gs,bs⟩:KB))<|.br (isEx (aAD (⟨e.r,bs,m,0,cs,os,ks,gs,bs⟩:KB))<|.ret) (.ok (zX (⟨e.r,bs,m,0,cs,os,ks,gs,bs⟩:KB)).r)<|.ok U) ?_
  obtain ⟨⟨hc,ho,hk,hg,hb⟩,rfl⟩:=h;refine JE ⟨⟨rfl,AR,hc,rfl⟩,rfl,rfl⟩ λhE0=>?_
  obtain ⟨s',_,hq⟩:=ahR _ hE0.1;rcases hq with ⟨q1,q2⟩ |⟨q1,q2,j,q3,q4⟩
  rotate_left
  ·rw [q1,q2]
   refine ⟨λ_=>An (λz=>LV.v<|.bool z) ?_,λh=>Ai⟩
   unfold JT;rw [MP (f:=λj=>GK j<|AY cs j) j q3 q4]
   rfl
  rw [q1];refine ⟨λh=>Ai,λ_=>?_⟩
  have g0:Ck (M cs) (λj=>GK j<|AY cs j)=true:=D3.2 q2
  refine JE ⟨⟨rfl,rfl,rfl,hk,ho⟩,rfl,rfl⟩ λhE1=>?_
  obtain ⟨s',_,hq⟩:=ahQ _ hE1.1;rcases hq with ⟨q1,q2⟩ |⟨q1,q2,j,q3,q4⟩
  rotate_left
  ·rw [q1,q2]
   refine ⟨λ_=>An (λz=>LV.v<|.bool z) ?_,λh=>Ai⟩
   unfold JT
   have hn:(ks.all (koV<|M os)&&once (ks.map (·.2.2.2)))=false:=by
    rw [GS];intro hx
    have:=(RZ (d:=(emp,0,0,0))).2 hx j q3
    exact Bool.noConfusion<|this.symm.trans q4
   rw [g0,DP,<-Qo,hn];rfl
  rw [q1];refine ⟨λh=>Ai,λ_=>?_⟩
  have g1:(ks.all (koV<|M os)&&once (ks.map (·.2.2.2)))=true:=(RZ (d:=(emp,0,0,0))).1 q2
  refine JE ⟨⟨rfl,AR,hg,rfl,hc,ho⟩,rfl,rfl⟩ λhE2=>?_
  obtain ⟨s',_,hq⟩:=ahP _ hE2.1;rcases hq with ⟨q1,q2⟩ |⟨q1,q2,j,q3,q4⟩
  rotate_left
  ·rw [q1,q2]
   refine ⟨λ_=>An (λz=>LV.v<|.bool z) ?_,λh=>Ai⟩
   unfold JT
   have hn:gs.all (Ek (M cs)<|M os)=false:=by
    rw [GS];intro hx
    have:=(NS (d:=(emp,0,0,0,0,0,0,0))).2 hx j q3
    exact Bool.noConfusion<|this.symm.trans q4
   rw [g0,DP,<-Qo,g1,hn];rfl
  rw [q1];refine ⟨λh=>Ai,λ_=>?_⟩
  have g2:gs.all (Ek (M cs)<|M os)=true:=(NS (d:=(emp,0,0,0,0,0,0,0))).1 q2
  have hw:=AH (x:=(M gs:Y)-1)
  refine JE ⟨⟨rfl,AG,hb,rfl⟩,rfl,rfl⟩ λhE3=>?_
  obtain ⟨s',_,hq⟩:=ahZ _ hE3.1;rcases hq with ⟨q1,q2⟩ |⟨q1,q2,j,q3,q4⟩
  rotate_left
  ·rw [q1,q2]
   refine ⟨λ_=>An (λz=>LV.v<|.bool z) ?_,λh=>Ai⟩
   unfold JT
   have hn:bs.all (λb=>inB b.2 0<|(M gs:Y)-1)=false:=by
    rw [GS];intro hx
    have:=(NS (d:=(emp,0))).2 hx j q3
    have q4:inB (Ls bs j).2 0 (AA<|(M gs:Y)-1)=false:=q4
    rw [hw] at q4;exact Bool.noConfusion<|this.symm.trans q4
   rw [g0,DP,<-Qo,g1,g2,hn];rfl
  rw [q1];refine ⟨λh=>Ai,λ_=>?_⟩
  have g3:bs.all (λb=>inB b.2 0<|(M gs:Y)-1)=true:=(NS (d:=(emp,0))).1 (λj hj=>by
   have:inB (Ls bs j).2 0 (AA<|(M gs:Y)-1)=true:=q2 j hj
   rw [hw] at this;exact this)
  refine An (λz=>LV.v<|.bool z) ?_
  unfold JT;rw [g0,DP,<-Qo,g1,g2,g3];rfl
 ·cases h)
structure KU where
 r:aM
 l:aF
 (n i:Y)
 Aw:aJ
 BF:aF
 Bg:aP
 B7:aG
 Bh:aQ
 seen:aF
def aBF:=bN f31 0
def eV (s:KU):T (Rd KU):=letI a:=gS s.l s.i;.br (an<|s.i<s.n) (.ix s.i (M s.l)<|.br ((!(nameB a)) ||(List.contains s.seen a)) (.so (.ret) {s with r:=X})<|.req (List.contains s.seen a=X)<|.nx {s with i:=AA<|s.i+1,seen:=s.seen++[a]})<|.so (.exit 0) s
def O6 (s:KU) (j:Y):aM:=nameB (gS s.l j)&&!(((s.l.take j.toNat).map id).contains<|gS s.l j)
def va (s:KU):Prop:=s.i=0/\s.seen=[]/\s.n=(M s.l:Y)/\s.n<=1000/\True
def WI (s:KU):Prop:=0<=s.i/\s.i<=s.n/\s.n=(M s.l:Y)/\s.n<=1000/\(True)/\s.seen=(s.l.take s.i.toNat).map id/\∀j:aC,(j:Y)<s.i->O6 s j=U
def pS (s:KU):aC:=(s.n-s.i).toNat
def vQ (x:Ex) (s s':KU):Prop:=(x=.exit 0/\∀j:aC,(j:Y)<s'.n->O6 s' j=U)\/(x=.ret/\s'.r=X/\∃j:aC,(j:Y)<s'.n/\O6 s' j=X)
def azl:∀s,va s->WI s:=by
 exact aHk
def avy:Da WI pS vQ eV:=by
 intro s hI;unfold eV;obtain ⟨h0,h1,h2,h3,h4,h5,h6⟩:=hI;refine allR_ite (λc1=>allR_ite (λc2=>?_) λc2=>?_) λc1=>?_
 ·have c1:s.i<s.n:=AQ
  refine .inr ⟨rfl,rfl,s.i.toNat,AR,?_⟩;rw [C2 h0]
  have hg:O6 s s.i=false:=by
   unfold O6
   grind
  exact hg
 ·have c1:s.i<s.n:=AQ
  have hg:O6 s s.i=true:=by
   unfold O6
   grind
  rw [AH (x:=s.i+1)];refine ⟨⟨AR,AR,h2,h3,h4,?_,λj hj=>?_⟩,by simp only [pS];omega⟩
  ·simp only
   rw [(aA8 h0 (show s.i<M s.l by omega)).2,h5]
   try rw [Iq]
   try rfl
  ·exact aJ2
 ·exact aIY
def O9:LpD KU:=⟨0,61,[1,2,3,42,43,44],[],λs=>[.own 0 0,s.r,.om 1,s.l,s.n,s.i],λs=>[⟨[s.Aw,s.BF,s.Bg,s.B7,s.Bh],28,.cl,X⟩,⟨[],178,.st .str s.seen,X⟩],λv b=>⟨DE v 1,As .str v 3,AJ v 4,AJ v 5,AE AX b 0 0,AE .str b 0 1,AE Ad b 0 2,AE AZ b 0 3,AE Ae b 0 4,gSe .str<|gBk b 1⟩,eV,λs r=> {s with r:=r.r,i:=r.i,seen:=r.seen},λs=>s,λ_ s=>s,[.ret,.exit 0],va,WI,pS⟩
abbrev aCj:=O9.run
abbrev aFA:=O9.exn
def avj:Rq WI eV:=by
 intro s hI;refine ⟨λc1=>⟨?_,λ_=>trivial,λc2=>⟨?_,ak⟩⟩,λ_=>trivial⟩
 all_goals ((obtain ⟨h0,h1,h2,h3,h4,h5,h6⟩:=hI;first|(simp at c1;omega) |(simp only [F6] at c2;exact c2.2)))
def acF:aN:=[anY,ane,anS]
def abY:O9.Ok:={}
def abD:O9.Pf (vQ):=⟨azl,λs h=>rfl,avy,avj⟩
def aoZ:SA 0 aBF O9:=s1 abY abD acF kN
def amy:Fi va WI vQ aFA aCj:=LpD.fin abY abD
def aAm:aD->T LV
 | .agg a::r=>s5 a λcs os ks gs bs=>(match r with
  | []=> .ok (Av cs os ks gs bs)
  |_=> .no)
 |_=> .no
def MT:=vm (S:=aAm) func31 acF kN (L:=(λi=>if i=5 then O9.lp else noLoops i)) (λb hb=>by
 rw [show loopsIn _=[aBF] by kernel_rfl] at hb
 simp only [Au,BX,BV] at hb;subst hb;exact aoZ) (λargs lv h=>by
 unfold aAm at h;split at h
 case h_2=>cases h
 replace h:=GB h
 obtain ⟨cs,os,ks,gs,bs,rfl,h⟩:=h;split at h
 ·refine Al (letI b:=J6 cs os ks gs bs;letI e:=(M b:Y);letI f:=(M cs:Y);letI a:=(f<=1000/\(M os:Y)<=1000/\(M ks:Y)<=1000/\(M gs:Y)<=1000/\(M bs:Y)<=1000);.br ((an<|f<1) ||((an<|f>16) ||((an<|(M os:Y)>8) ||((an<|(M ks:Y)>32) ||((an<|(M gs:Y)>16) ||(an<|(M bs:Y)>24)))))) (.ok X)<|.req a<|.req (O9.q (⟨X,b,e,0,cs,os,ks,gs,bs,([]:aF)⟩:KU))<|.br (isEx (aFA (⟨X,b,e,0,cs,os,ks,gs,bs,([]:aF)⟩:KU))<|.ret) (.ok (aCj (⟨X,b,e,0,cs,os,ks,gs,bs,([]:aF)⟩:KU)).r)<|.req a<|.ok<|JT cs os ks gs bs) ?_
  obtain rfl:=h;refine ⟨λc=>An (λz=>LV.v<|.bool z) ?_,λc=>?_⟩
  ·rw [OU,GS]
   intro hx;unfold Av at hx;rw [AP,AT] at hx;simp only [C6,AT] at c;omega
  have hd:1<=M cs/\M cs<=16/\M os<=8/\M ks<=32/\M gs<=16/\M bs<=24:=by
   simp only [F6,CX] at c;omega
  have hs:Av cs os ks gs bs=(((J6 cs os ks gs bs).all nameB&&once (J6 cs os ks gs bs))&&JT cs os ks gs bs):=by
   unfold Av
   grind
  have hl:(M (J6 cs os ks gs bs):Y)<=1000:=by
   unfold J6;simp only [Ax,Eb];omega
  rw [hs]
  have hr:(M cs:Y)<=1000/\(M os:Y)<=1000/\(M ks:Y)<=1000/\(M gs:Y)<=1000/\(M bs:Y)<=1000:=A0
  refine ⟨hr,?_⟩;generalize J6 cs os ks gs bs=l at*;refine JE ⟨⟨rfl,rfl,rfl,hl,ak⟩,rfl,rfl⟩ λhE=>?_
  obtain ⟨s',_,hq⟩:=amy _ hE.1;rcases hq with ⟨q1,q2⟩ |⟨q1,q2,j,q3,q4⟩
  ·rw [q1]
   have hk:=(RZ (d:=emp) (p:=nameB) (k:=id)).1 q2
   rw [Qs] at hk;refine ⟨λh=>Ai,λ_=>⟨hr,?_⟩⟩
   rw [hk,DP];rfl
  ·rw [q1,q2]
   refine ⟨λ_=>An (λz=>LV.v<|.bool z) ?_,λh=>Ai⟩
   have hn:(l.all nameB&&once l)=false:=by
    rw [GS];intro hx
    have:=(RZ (d:=emp) (p:=nameB) (k:=id)).2 (by rw [Qs];exact hx) j q3
    exact Bool.noConfusion<|this.symm.trans q4
   rw [hn];rfl
 ·cases h)
def aAw:aD->T LV
 | .agg a::r=>s5 a λcs os ks gs bs=>(match r with
  | [.v (ag J c)]=> .ok (.fn 154 [xQ 1 [c],xQ 5 [cs,os,ks,gs,bs]])
  |_=> .no)
 |_=> .no
def Ny:aN:=[]
def aco:Ap:=kI Ny<|l0 Ny
def XS:=vo (S:=aAw) func110 Ny aco (λargs lv h=>by
 unfold aAw at h;split at h
 case h_2=>cases h
 replace h:=GB h
 obtain ⟨cs,os,ks,gs,bs,rfl,h⟩:=h;split at h
 ·rename_i c
  refine Al (.ok<|.fn 154 [(xQ 1 [c]),(xQ 5 [cs,os,ks,gs,bs])]) ?_;exact h
 ·cases h)
def pD:Array Tmp×Code×Code:=((rangesIn<|f224.body.getD .skip)[0]?).getD (#[],.skip,.skip)
def avS:aKN:=pD.1
def awv:bC:=pD.2.1
def awn:bC:=pD.2.2
structure KE where
 cs:aJ
 os:aF
 ks:aP
 gs:aG
 bs:aQ
 (c b0:Y)
 b1:aM
 st:LS
def YB (s:KE):T (Rd KE):=
 .br (an<|s.c>=0) (.br (s.c==s.b0) (.so (.ret) {s with b1:=U,st:=.done<|.ret})<|.ix s.c (M s.cs)<|.nx {s with c:=(AY s.cs s.c).2.1}) (.so (.exit 0) s)
def ui (s:KE):Prop:=s.st=.ready/\ET s.cs=U/\s.c<(M s.cs:Y)/\s.b1=X
def ZO (s:KE):Prop:=s.st=.ready/\ET s.cs=U/\s.c<(M s.cs:Y)
def kD (s:KE):aC:=(s.c+1).toNat
def adh (x:Ex) (s s':KE):Prop:=(x=.ret/\s'.b1=U/\EX s.cs s.b0 s.c=U)\/(x=.exit 0/\EX s.cs s.b0 s.c=X)
def awz:∀s,ui s->ZO s:=by
 rintro s ⟨h0,h1,h2,h3⟩
 exact ⟨h0,h1,h2⟩
def aCN:Da ZO kD adh YB:=by
 intro s hI;obtain ⟨h0,h1,h2⟩:=hI
 have hp:=aDC (o:=s.b0) h1 h2
 refine allR_ite (λc1=>allR_ite (λc2=>?_) λc2=>?_) λc1=>?_
 ·have c1:0<=s.c:=A8
  exact .inl ⟨rfl,rfl,A8⟩
 ·have c1:0<=s.c:=A8
  have:=Nb h1 c1 h2
  exact ⟨⟨h0,h1,A8⟩,by simp only [kD];omega⟩
 ·have c1:¬(0<=s.c):=A8
  exact .inr ⟨rfl,A8⟩
def UT:LpD KE:=⟨3,18,[0,2,4],[],λs=>[.yld 2,xQ 5 [s.cs,s.os,s.ks,s.gs,s.bs],s.c],λs=>[⟨[s.b0],3,.cl,X⟩,⟨[s.b1],4,.cl,X⟩,⟨[.junk,.junk,.junk,.own 0 0,.own 1 0,.v<|.tuple #[],.junk,.v<|.tuple #[],.v<|.tuple #[],.v<|.tuple #[],.v<|.tuple #[]],0,.lrec avS awv awn s.st,X⟩],λv b=>⟨gXl AX<|gXq (v.getD 1 .junk) 0,gXl .str<|gXq (v.getD 1 .junk) 1,gXl Ad<|gXq (v.getD 1 .junk) 2,gXl AZ<|gXq (v.getD 1 .junk) 3,gXl Ae<|gXq (v.getD 1 .junk) 4,AJ v 2,Af b 0 0,Ik b 1 0,.ready⟩,YB,λs r=> {r with cs:=s.cs,os:=s.os,ks:=s.ks,gs:=s.gs,bs:=s.bs,b0:=s.b0},λs=> {s with st:=.ready},λx s=> {s with st:=(match x with| .ret=>(.done<|.ret) | .exit 0=> .ready|_=> .ready)},[.ret,.exit 0],ui,ZO,kD⟩
abbrev iZ:=UT.run
abbrev ir:=UT.exn
def apa:Rq ZO YB:=by
 intro s hI;refine ⟨λc1=>⟨λ_=>trivial,λc2=>⟨?_,ak⟩⟩,λ_=>trivial⟩
 ·(obtain ⟨h0,h1,h2⟩:=hI;simp at c1 h2;exact ⟨c1,h2⟩)
def jE:UT.Ok:={}
def jN:UT.Pf (adh):=⟨awz,λs h=>by
 obtain ⟨cs,os,ks,gs,bs,c,b0,b1,st⟩:=s
 have e:=h.1
 subst e;rfl,aCN,apa⟩
def ahc:=s2 (b:=bN f154 0) jE jN Ny aco
def aqb (s:KE) (hE:ui s):(ir s=.ret/\(iZ s).b1=U/\EX s.cs s.b0 s.c=U)\/(ir s=.exit 0/\EX s.cs s.b0 s.c=X):=by
 have hk:=LpD.keepV jE jN (λs=>EX s.cs s.b0 s.c) (λs hI=>by
  obtain ⟨h0,h1,h2⟩:=hI
  have hp:=aDC (o:=s.b0) h1 h2
  refine allR_ite (λc1=>allR_ite (λc2=>rfl) λc2=>?_) λc1=>rfl
  have c1:0<=s.c:=A8
  show EX _ _ _=EX _ _ _
  rw [hp,AB c1,c2,CR]) s hE
 have hk:EX s.cs s.b0 (iZ s).c=EX s.cs s.b0 s.c:=hk
 obtain ⟨s',hI,hf⟩:=LpD.end_ jE jN s hE
 have hq:=allR_stop (aCN s' hI) hf
 have hc:=allR_stop (Pn:=λ_=>True) (Ps:=λ_ r=>r.cs=s'.cs/\r.b0=s'.b0/\r.c=s'.c) (r:=(YB s').rd s') (by
   exact allR_ite (λ_=>allR_ite (λ_=>⟨rfl,rfl,rfl⟩) λ_=>trivial) λ_=>⟨rfl,rfl,rfl⟩) hf
 obtain ⟨hc1,hc3,hc2⟩:=hc
 have e1:s.cs=s'.cs:=hc1
 have e2:s.b0=s'.b0:=hc3
 rwa [<-hk,hc2,e1,e2]
def aGX:aD->T LV
 | [.fn 154 [.xq 1 q0,.xq 5 q1],.v (ag J o)]=>(match ([q0 0]:aD) with
  | [.v (ag J c)]=>(match ([q1 0,q1 1,q1 2,q1 3,q1 4]:aD) with
  | [.xl (.pair .str (.pair (.int J) (.pair (.int J) (.pair (.int J) (.pair (.pair (.int J) (.int J)) (.pair (.int J) (.pair (.int J) (.pair (.int J) (.pair (.int J) (.int J)))))))))) cs,.xl (.str) os,.xl (.pair .str (.pair (.int J) (.pair (.int J) (.int J)))) ks,.xl (.pair .str (.pair (.int J) (.pair (.int J) (.pair (.int J) (.pair (.int J) (.pair (.int J) (.pair (.int J) (.int J)))))))) gs,.xl (.pair .str (.int J)) bs]=> .req (ET cs=U/\c<(M cs:Y)) (.ok<|EX cs o c)
  |_=> .no)
  |_=> .no)
 |_=> .no
def acn:Ap:=kI Ny<|la 1 func154 ahc<|l0 Ny
def arI (c:Y) (cs:aJ) (os:aF) (ks:aP) (gs:aG) (bs:aQ) (o:Y):BO prog AM Ny acn noLoops f224 [.fn 154 [xQ 1 [c],xQ 5 [cs,os,ks,gs,bs]],o]=.req (UT.q (⟨cs,os,ks,gs,bs,c,o,X,.ready⟩:KE)) (.br (isEx (ir (⟨cs,os,ks,gs,bs,c,o,X,.ready⟩:KE))<|.ret) (.ok (iZ (⟨cs,os,ks,gs,bs,c,o,X,.ready⟩:KE)).b1)<|.ok X):=AO
def auy:=vo (S:=aGX) func224 Ny acn (λargs lv h=>by
 refine ⟨?_⟩;unfold aGX at h;split at h
 ·split at h
  case h_2=>cases h
  rename_i heq0;split at h
  case h_2=>cases h
  rename_i heq1;simp only [canL,canX];rw [DB (n:=1) heq0];rw [DB (n:=5) heq1];simp only [canL,canX];rw [arI];obtain ⟨⟨hu,hc⟩,rfl⟩:=h;refine JE ⟨⟨rfl,hu,hc,rfl⟩,rfl,rfl⟩ λhE=>?_
  rcases aqb _ hE.1 with ⟨h1,h2,h3⟩ |⟨h1,h2⟩
  ·rw [h1,h2]
   exact ⟨λ_=>An (λz=>LV.v<|.bool z) h3.symm,λh=>Ai⟩
  ·rw [h1]
   exact ⟨λh=>Ai,λ_=>An (λz=>LV.v<|.bool z) h2.symm⟩
 ·cases h)
structure Mx where
 l:aG
 (n i:Y)
 BJ:aJ
 FB:aF
 F7:aP
 F8:aG
 FC:aQ
 b1:Y
 out:aB
def aBK:=bN f198 0
def eR (s:Mx):T (Rd Mx):=
 .br (an<|s.i<s.n) (.ix s.i (M s.l)<|.req (ET s.BJ=U/\(AF s.l s.i).2.1<(M s.BJ:Y))<|.br (EX s.BJ s.b1 (AF s.l s.i).2.1) (.rb (M s.out) (M<|[s.i]) 8<|.re (M s.out+M ([s.i])) (s.out++([s.i]))<|.nx {s with i:=AA<|s.i+1,out:=s.out++([s.i])})<|.rl s.out<|.nx {s with i:=AA<|s.i+1}) (.rl s.out<|.so (.exit 0) s)
def fO (s:Mx):Prop:=s.i=0/\s.out=[]/\s.n=(M s.l:Y)/\s.n<=1000/\ET s.BJ=U/\atB s.BJ s.l=U
def WW (s:Mx):Prop:=(0<=s.i/\s.i<=s.n)/\s.out=CE s.BJ s.l s.b1 s.i.toNat/\s.n=(M s.l:Y)/\s.n<=1000/\ET s.BJ=U/\atB s.BJ s.l=U
def Yy (s:Mx):aC:=(s.n-s.i).toNat
def vY (x:Ex) (s s':Mx):Prop:=x=.exit 0/\s'.out=CE s'.BJ s'.l s'.b1 (M s'.l)
def azX:∀s,fO s->WW s:=by
 rintro s ⟨h0,h1,h2,h3,h4,h5⟩
 exact ⟨⟨A0,A0⟩,dv,h2,h3,h4,h5⟩
def ayr:Da WW Yy vY eR:=by
 intro s hI;unfold eR;obtain ⟨⟨h0,h1⟩,h2,h3,h4,h5,h6⟩:=hI;refine allR_ite (λc1=>?_) λc1=>?_
 ·have c1:s.i<s.n:=AQ
  have hs:=aew (cs:=s.BJ) (gs:=s.l) (o:=s.b1) (k:=s.i.toNat)
  rw [AH (x:=s.i+1)];refine allR_ite (λc2=>?_) λc2=>?_
  ·refine ⟨⟨⟨AR,AR⟩,?_,h3,h4,h5,h6⟩,by simp only [Yy];omega⟩
   simp only
   grind
  ·refine ⟨⟨⟨A8,A8⟩,?_,h3,h4,h5,h6⟩,by simp only [Yy];omega⟩
   simp only
   grind
 ·have c1:s.n<=s.i:=AQ
  exact ⟨rfl,A8⟩
def OC:LpD Mx:=⟨0,42,[6,7,26,27,28],[.nl 7 3 A7],λs=>[.fn 223 [.own 0 0,.own 1 0],.os 2 1 0<|M s.out,s.l,s.n,s.i],λs=>[⟨[s.BJ,s.FB,s.F7,s.F8,s.FC],28,.cl,X⟩,⟨[s.b1],3,.cl,X⟩,bV 3 A7 s.out],λv b=>⟨As AZ v 2,AJ v 3,AJ v 4,AE AX b 0 0,AE .str b 0 1,AE Ad b 0 2,AE AZ b 0 3,AE Ae b 0 4,Af b 1 0,AV A7 b 2⟩,eR,λs r=> {s with i:=r.i,out:=r.out},λs=>s,λ_ s=>s,[.exit 0],fO,WW,Yy⟩
abbrev wT:=OC.run
abbrev arn:=OC.exn
def avM:Rq WW eR:=by
 intro s hI;refine ⟨λc1=>⟨?_,?_,λc2=>⟨?_,?_,ak⟩,λc2=>⟨A9,ak⟩⟩,λc1=>⟨A9,ak⟩⟩
 all_goals ((obtain ⟨⟨h0,h1⟩,h2,h3,h4,h5,h6⟩:=hI;have hol:M s.out<=s.i.toNat:=(by rw [h2];exact gL);(try simp only [AT] at c1);first|omega|exact ⟨h5,Y6 h6 h0 A0⟩ |(refine ⟨A0,?_,?_⟩<;>simp only [BI,BQ]<;>omega) |exact ⟨rfl,AG⟩ |exact ⟨rfl,rfl⟩))
def Yu:aN:=[MT,XS,auy]
def ack:Ap:=kI Yu<|l0 Yu
def ab5:OC.Ok:={}
def abO:OC.Pf (vY):=⟨azX,λs h=>rfl,ayr,avM⟩
def ao0:SA 0 aBK OC:=s1 ab5 abO Yu ack
def asw:Fi fO WW vY arn wT:=LpD.fin ab5 abO
def yE:aD->T LV
 | .agg a::r=>s5 a λcs os ks gs bs=>(match r with
  | [.v (ag J o)]=> .ok (.tup [.xl A7<|NO cs os ks gs bs o,vM cs os ks gs bs o])
  |_=> .no)
 |_=> .no
def aiI:=vm (S:=yE) func198 Yu ack (L:=(λi=>if i=6 then OC.lp else noLoops i)) (λb hb=>by
 rw [show loopsIn _=[aBK] by kernel_rfl] at hb
 simp only [Au,BX,BV] at hb;subst hb;exact ao0) (λargs lv h=>by
 unfold yE at h;split at h
 case h_2=>cases h
 replace h:=GB h
 obtain ⟨cs,os,ks,gs,bs,rfl,h⟩:=h;split at h
 ·rename_i o
  refine Al (letI a:=(wT (⟨gs,(M gs:Y),0,cs,os,ks,gs,bs,o,([]:aB)⟩:Mx));.br ((!(Av cs os ks gs bs)) ||((an<|o<0) ||(an<|o>=(M cs:Y)))) (.ok<|.tup [.xl A7 ([]:aB),(1:Y)])<|.r0 Int<|.req (OC.q (⟨gs,(M gs:Y),0,cs,os,ks,gs,bs,o,([]:aB)⟩:Mx))<|.rz a.out<|.ok<|.tup [.xl A7<|(a.out.drop 0).take<|M a.out,(0:Y)]) ?_;obtain rfl:=h;refine ⟨λc=>?_,λc=>?_⟩
  ·have hn:¬(Av cs os ks gs bs=U/\0<=o/\o<(M cs:Y)):=by
    rintro ⟨h1,h2,h3⟩
    rw [h1] at c
    simp at c
    omega
   show LV.tup _=_
   unfold NO vM
   grind
  ·simp only [F6,G0,CX] at c
   have hl:=(Ci.1 c.1).1
   have hE:fO ⟨gs,(M gs:Y),0,cs,os,ks,gs,bs,o,([]:aB)⟩:=⟨rfl,rfl,rfl,AR,gC c.1,gD c.1⟩
   obtain ⟨s',_,q1,q2⟩:=asw _ hE
   have q2:(wT ⟨gs,(M gs:Y),0,cs,os,ks,gs,bs,o,([]:aB)⟩).out=CE cs gs o (M gs):=q2
   refine ⟨A9,⟨hE,rfl,rfl⟩,A0,?_⟩
   show LV.tup [LV.xl _ _,_]=_
   unfold NO vM
   grind
 ·cases h)
def aBY:aD->T LV
 | [.v (.agg ⟨[ag J am,ag J mo,ag J ga,ag J lo,ag J de]⟩)]=> .ok (Gj (am,mo,ga,lo,de))
 |_=> .no
def PE:aN:=[]
def hnd20:Ap:=kI PE<|l0 PE
def an8:=vo (S:=aBY) func155 PE hnd20 (λargs lv h=>by
 unfold aBY at h;split at h
 ·rename_i am mo ga lo de
  refine Al (.br ((am==0)&&((mo==0)&&((ga==0)&&((lo==0)&&(de==0))))) (.ok U)<|.br ((an<|am>=0)&&(an<|am<=200000)) (.br (an<|mo>am) (.br (an<|mo<=200000) (.br ((an<|ga>=0)&&(an<|ga<=1000)) (.br ((an<|lo>=0)&&(an<|lo<=1000)) (.ok<|.v<|.bool<|(an<|de>=1)&&(an<|de<=1000000))<|.ok X)<|.ok X)<|.ok X)<|.ok X)<|.ok X) ?_;obtain rfl:=h;unfold Gj cbZ;refine ⟨λc=>by rw [c];rfl,λc=>?_⟩
  unfold inB;refine ⟨λc1=>⟨λc2=>⟨λc3=>⟨λc4=>⟨λc5=>?_,λc5=>?_⟩,λc4=>?_⟩,λc3=>?_⟩,λc2=>?_⟩,λc1=>?_⟩
  all_goals refine An (λz=>LV.v<|.bool z) ?_
  all_goals
   grind
 ·cases h)
def aAh:aD->T LV
 | [.xq 6 q0]=>(match ([q0 0,q0 1,q0 2,q0 3,q0 4,q0 5]:aD) with
  | [.v (ag J am),.v (ag J mo),.v (ag J ga),.v (ag J lo),.v (ag J de),.v (ag J now)]=> .ok (.v<|ag J (if de<lo then de else lo))
  |_=> .no)
 |_=> .no
def ajp (am mo ga lo de now:Y):BO prog AM PE kN noLoops f157 [xQ 6 [am,mo,ga,lo,de,now]]=.ok (.v<|ag J (if de<lo then de else lo)):=AO
def anQ:=vo (S:=aAh) func157 PE kN (λargs lv h=>by
 refine ⟨?_⟩;unfold aAh at h;split at h
 ·split at h
  case h_2=>cases h
  rename_i heq0;simp only [canL,canX];rw [DB (n:=6) heq0];simp only [canL,canX]
  rwa [ajp]
 ·cases h)
def aAg:aD->T LV
 | [.xq 6 q0]=>(match ([q0 0,q0 1,q0 2,q0 3,q0 4,q0 5]:aD) with
  | [.v (ag J am),.v (ag J mo),.v (ag J ga),.v (ag J lo),.v (ag J de),.v (ag J now)]=> .ok (cbZ (am,mo,ga,lo,de))
  |_=> .no)
 |_=> .no
def ajo (am mo ga lo de now:Y):BO prog AM PE kN noLoops f156 [xQ 6 [am,mo,ga,lo,de,now]]=.ok (.v<|.bool<|(am==0)&&((mo==0)&&((ga==0)&&((lo==0)&&(de==0))))):=AO
def anP:=vo (S:=aAg) func156 PE kN (λargs lv h=>by
 refine ⟨?_⟩;unfold aAg at h;split at h
 ·split at h
  case h_2=>cases h
  rename_i heq0;simp only [canL,canX];rw [DB (n:=6) heq0];simp only [canL,canX]
  rwa [ajo]
 ·cases h)
structure Lr where
 (low high aff amS amU amT auK ah4 b11 b12 b13 b14 auJ b3:Y)
def eh (s:Lr):T (Rd Lr):=letI a:=AA<|s.low+(AA<|(AA<|(AA<|s.high-s.low)+1).tdiv 2);.br (an<|s.low<s.high) (.req ((2:Y)≠0)<|.br (an<|(AA<|(AA<|s.b12*a)*a)<=s.b3) (.nx {s with low:=a})<|.nx {s with high:=AA<|a-1})<|.so (.exit 0) s
def vN (s:Lr):Prop:=s.low=0/\s.high=1000/\(0<=s.b12/\s.b12<=1000)/\0<=s.b3
def WV (s:Lr):Prop:=(0<=s.low/\s.low<=s.high/\s.high<=1000)/\s.b12*s.low*s.low<=s.b3/\(∀a:Y,s.high<a->a<=1000->¬s.b12*a*a<=s.b3)/\(0<=s.b12/\s.b12<=1000)/\0<=s.b3
def Yx (s:Lr):aC:=(s.high-s.low).toNat
def vX (x:Ex) (s s':Lr):Prop:=x=.exit 0/\s'.low=prm s'.b12 s'.b3
def azQ:∀s,vN s->WV s:=by
 rintro s ⟨h0,h1,h2,h3⟩
 exact ⟨A0,A8,λa h h2=>A0,h2,h3⟩
def axN:Da WV Yx vX eh:=by
 intro s hI;unfold eh;obtain ⟨⟨h0,h1,h2⟩,h3,h4,⟨h5,h6⟩,h7⟩:=hI
 have em:s.low<s.high->AA (s.low+AA ((AA<|AA (s.high-s.low)+1).tdiv 2))=s.low+(s.high-s.low+1) / 2:=λc=>by
  rw [AH (x:=s.high-s.low),AH (x:=s.high-s.low+1),GV A0,AH (x:=(s.high-s.low+1) / 2),AH]
 refine allR_ite (λc1=>?_) λc1=>?_
 ·have c1:s.low<s.high:=AQ
  rw [em c1]
  have hm1:s.low<s.low+(s.high-s.low+1) / 2:=A0
  have hm2:s.low+(s.high-s.low+1) / 2<=s.high:=A0
  generalize s.low+(s.high-s.low+1) / 2=m at hm1 hm2|-;obtain ⟨⟨b1,b2⟩,b3,b4⟩:=aw3 h5 h6 (m:=m) A0 A0;rw [AH (x:=s.b12*m),AH (x:=s.b12*m*m),AH (x:=m-1)];refine allR_ite (λc2=>?_) λc2=>?_
  ·have c2:s.b12*m*m<=s.b3:=DQ
   exact ⟨⟨⟨AR,AR,h2⟩,c2,h4,⟨h5,h6⟩,h7⟩,by simp only [Yx];omega⟩
  ·have c2:¬s.b12*m*m<=s.b3:=DQ
   refine ⟨⟨⟨h0,AR,AR⟩,h3,λa ha hk=>?_,⟨h5,h6⟩,h7⟩,by simp only [Yx];omega⟩
   have:=ahp h5 (a:=m) (b:=a) A0 A8
   simp only;omega
 ·have c1:s.high<=s.low:=AQ
  refine ⟨rfl,(zM (k:=1000) h0 A0 (.inr h3) λa ha hk=>h4 a A0 A0).symm⟩
def WU:LpD Lr:=⟨4,25,[0,1,2],[],λs=>[s.low,s.high,.fn 159 [.own 2 0,.own 3 0]],λs=>[⟨[s.aff,s.amS,s.amU,s.amT,s.auK],71,.cl,X⟩,⟨[s.ah4,s.b11,s.b12,s.b13,s.b14,s.auJ],290,.cl,X⟩,⟨[.own 1 0],288,.cl,X⟩,⟨[s.b3],3,.cl,X⟩],λv b=>⟨AJ v 0,AJ v 1,Af b 0 0,Af b 0 1,Af b 0 2,Af b 0 3,Af b 0 4,Af b 1 0,Af b 1 1,Af b 1 2,Af b 1 3,Af b 1 4,Af b 1 5,Af b 3 0⟩,eh,λs r=> {s with low:=r.low,high:=r.high},λs=>s,λ_ s=>s,[.exit 0],vN,WV,Yx⟩
abbrev aCk:=WU.run
abbrev arl:=WU.exn
def T3:aN:=[an8,anP,anQ]
def ayK:Ap:=kI T3<|l0 T3
def avt:Rq WV eh:=by
 intro s hI;refine ⟨λc1=>⟨?_,λ_=>trivial,λ_=>trivial⟩,λ_=>trivial⟩
 ·omega
def abj:WU.Ok:={}
def abM:WU.Pf (vX):=⟨azQ,λs h=>rfl,axN,avt⟩
def anx:=s2 (b:=bN f158 0) abj abM T3 ayK
def arq:Fi vN WV vX arl aCk:=LpD.fin abj abM
def aAu:aD->T LV
 | [.v (.agg ⟨[ag J am,ag J mo,ag J ga,ag J lo,ag J de]⟩)]=> .tu #[KW (am,mo,ga,lo,de),pmE (am,mo,ga,lo,de)]
 |_=> .no
def ayJ:Ap:=kI T3<|la 1 func158 anx<|l0 T3
def anW:=vo (S:=aAu) func113 T3 ayJ (λargs lv h=>by
 unfold aAu at h;split at h
 ·rename_i am mo ga lo de
  refine Al (letI a:=AA<|(if de<lo then de else lo)*(AA<|mo-am);.br (!(Gj (am,mo,ga,lo,de))) (.tu #[(0:Y),(1:Y)])<|.br (cbZ (am,mo,ga,lo,de)) (.tu #[(1000:Y),(0:Y)])<|.req (WU.q (⟨0,1000,am,mo,ga,lo,de,am,mo,ga,lo,de,0,a⟩:Lr))<|.tu #[(aCk (⟨0,1000,am,mo,ga,lo,de,am,mo,ga,lo,de,0,a⟩:Lr)).low,(0:Y)]) ?_
  obtain rfl:=h;refine ⟨λc=>?_,λc=>⟨λc2=>?_,λc2=>?_⟩⟩
  ·have c:Gj (am,mo,ga,lo,de)=false:=FW
   simp [T.all,KW,pmE,c]
  ·have c:Gj (am,mo,ga,lo,de)=true:=FW
   simp [T.all,KW,pmE,c,c2]
  ·have c:Gj (am,mo,ga,lo,de)=true:=FW
   obtain ⟨⟨h1,h2,h3⟩,⟨h4,h5⟩,⟨h6,h7⟩,h8,h9⟩:=asq c c2;simp only at h1 h2 h3 h4 h5 h6 h7 h8 h9
   have hm:0<=(if de<lo then de else lo)/\(if de<lo then de else lo)<=1000:=by split<;>omega
   have e:KW (am,mo,ga,lo,de)=prm ga ((if de<lo then de else lo)*(mo-am)):=by
    unfold KW
    grind
   have e2:pmE (am,mo,ga,lo,de)=0:=by
    unfold pmE;rw [AB c]
   rw [e,e2,AH (x:=mo-am)];generalize (if de<lo then de else lo)=mn at hm|-
   have a1:0<=mn*(mo-am):=Gl hm.1 A0
   have a2:mn*(mo-am)<=1000*(mo-am):=Ji hm.2 A0
   rw [AH (x:=mn*(mo-am))];refine JE ⟨⟨rfl,rfl,⟨h4,h5⟩,a1⟩,rfl,rfl⟩ λhE=>?_
   obtain ⟨s',_,q1,q2⟩:=arq _ hE.1;rw [q2];rfl
 ·cases h)
structure IP where
 first:Y
 l:aB
 (n i:Y)
def yp:=bN f114 0
def nC (s:IP):T (Rd IP):=
 .br (an<|s.i<s.n) (.ix s.i (M s.l)<|.nx {s with first:=(if (gi s.l s.i)<s.first then (gi s.l s.i) else s.first),i:=AA<|s.i+1}) (.so (.exit 0) s)
def cA (s:IP):Prop:=s.i=0/\s.n=(M s.l:Y)/\s.n<=1000
def Tt (s:IP):Prop:=0<=s.i/\s.i<=s.n/\s.n=(M s.l:Y)/\s.n<=1000
def kU (s:IP):aC:=(s.n-s.i).toNat
def u9 (x:Ex) (s s':IP):Prop:=x=.exit 0/\s'.i=s'.n
def awD:∀s,cA s->Tt s:=by
 exact dB
def aqz:Da Tt kU u9 nC:=by
 intro s hI;obtain ⟨h0,h1,h2,h3⟩:=hI;refine allR_ite (λc1=>?_) λc1=>?_
 ·have c1:s.i<s.n:=A8
  rw [AH (x:=s.i+1)];exact ⟨⟨A8,A8,h2,h3⟩,by simp only [kU];omega⟩
 ·exact OY
def Pw:LpD IP:=⟨0,18,[0,7,8,9],[],λs=>[s.first,.xl A7 s.l,s.n,s.i],λ_=>[],λv b=>⟨AJ v 0,As A7 v 1,AJ v 2,AJ v 3⟩,nC,λs r=> {r with l:=s.l,n:=s.n},λs=>s,λ_ s=>s,[.exit 0],cA,Tt,kU⟩
abbrev X2:=Pw.run
abbrev aks:=Pw.exn
def aoy:Rq Tt nC:=by
 intro s hI;refine ⟨λc1=>⟨?_,ak⟩,λ_=>trivial⟩
 ·(obtain ⟨h0,h1,h2,h3⟩:=hI;simp at c1;omega)
def Yt:aN:=[]
def kg:Pw.Ok:={}
def jW:Pw.Pf (u9):=⟨awD,λs h=>rfl,aqz,aoy⟩
def ajF:SA 0 yp Pw:=s1 kg jW Yt kN
def ajd:Fi cA Tt u9 aks X2:=LpD.fin kg jW
def agR (s:IP) (hE:cA s):(λs:IP=>HL s.first<|s.l.drop s.i.toNat) (X2 s)=(λs:IP=>HL s.first<|s.l.drop s.i.toNat) s:=by
 exact LpD.keepV kg jW (λs:IP=>HL s.first<|s.l.drop s.i.toNat) (λs hI=>by
  obtain ⟨h0,h1,h2,h3⟩:=hI;refine allR_ite (λc1=>?_) λc1=>rfl
  have c1:s.i<s.n:=A8
  rw [AH (x:=s.i+1)];rw [(gi_step h0 (show s.i<M s.l by omega)).1]
  rfl) s hE
def aAZ:aD->T LV
 | [.v (ag J f),.xl (.int J) l]=> .req ((M l:Y)<=1000) (.ok<|HL f l)
 |_=> .no
def anb:=vm (S:=aAZ) func114 Yt kN (L:=(λi=>if i=2 then Pw.lp else noLoops i)) (λb hb=>by
 rw [show loopsIn _=[yp] by kernel_rfl] at hb
 simp only [Au,BX,BV] at hb;subst hb;exact ajF) (λargs lv h=>by
 unfold aAZ at h;split at h
 ·rename_i f l
  refine Al (.req (Pw.q (⟨f,l,(M l:Y),0⟩:IP))<|.ok (X2 (⟨f,l,(M l:Y),0⟩:IP)).first) ?_;obtain ⟨hl,rfl⟩:=h;refine JE ⟨⟨rfl,rfl,hl⟩,rfl,rfl⟩ λhE=>?_
  obtain ⟨s',_,q1,q2⟩:=ajd _ hE.1
  have q3:=agR _ hE.1
  simp only at q3;rw [q2] at q3
  have e:(X2 ⟨f,l,(M l:Y),0⟩).n=(M l:Y):=rfl
  have e2:(X2 ⟨f,l,(M l:Y),0⟩).l=l:=rfl
  rw [e,e2,Dj A0] at q3;exact An (λz=>LV.v<|ag J z) q3
 ·cases h)
def aB3:aD->T LV
 | [.v (.agg ⟨[.string nm,ag J up_,ag J li,ag J ne,ag J ra,ag J he,ag J am,ag J mo,ag J ga,ag J lo,ag J de]⟩)]=> .ok (CY (nm,up_,li,ne,(ra,he),am,mo,ga,lo,de))
 |_=> .no
def axn:aN:=[anW,anb]
def jd:=vo (S:=aB3) func80 axn kN (λargs lv h=>by
 unfold aB3 at h;split at h
 ·rename_i nm up_ li ne ra he am mo ga lo de
  refine Al (letI a:=(KW (am,mo,ga,lo,de));.br ((pmE (am,mo,ga,lo,de)) !=0) (.br (ra==0) (.req ((M ([ne,(0:Y)]):Y)<=1000)<|.ok<|HL li<|[ne,(0:Y)])<|.req ((M ([ne,(0:Y),ra]):Y)<=1000)<|.ok<|HL li<|[ne,(0:Y),ra])<|.br (ra==0) (.req ((M ([ne,a]):Y)<=1000)<|.ok<|HL li<|[ne,a])<|.req ((M ([ne,a,ra]):Y)<=1000)<|.ok<|HL li<|[ne,a,ra]) ?_;obtain rfl:=h;unfold CY;simp only;refine ⟨λc=>?_,λc=>?_⟩
  ·have e:KW (am,mo,ga,lo,de)=0:=by
    rw [akA] at c
    have c:Gj (am,mo,ga,lo,de)=false:=FW
    unfold KW;rw [c];rfl
   rw [e];refine ⟨λc2=>⟨AG,?_⟩,λc2=>⟨AG,?_⟩⟩
   ·rw [AB DQ];rfl
   ·rw [AD DQ];rfl
  ·refine ⟨λc2=>⟨AG,?_⟩,λc2=>⟨AG,?_⟩⟩
   ·rw [AB A8];rfl
   ·rw [AD A8];rfl
 ·cases h)
def aAq:aD->T LV
 | [.v (ag J k),.xq 5 q0,.xq 2 q1]=>(match ([q0 0,q0 1,q0 2,q0 3,q0 4]:aD) with
  | [.xl (.pair .str (.pair (.int J) (.pair (.int J) (.pair (.int J) (.pair (.pair (.int J) (.int J)) (.pair (.int J) (.pair (.int J) (.pair (.int J) (.pair (.int J) (.int J)))))))))) cs,.xl (.str) os,.xl (.pair .str (.pair (.int J) (.pair (.int J) (.int J)))) ks,.xl (.pair .str (.pair (.int J) (.pair (.int J) (.pair (.int J) (.pair (.int J) (.pair (.int J) (.pair (.int J) (.int J)))))))) gs,.xl (.pair .str (.int J)) bs]=>(match ([q1 0,q1 1]:aD) with
  | [.v (ag J c),.v (ag J p)]=> .req ((0<=k/\k<(M gs:Y))/\0<=p) (.ok<|usA (AF gs k).2.2.1 p)
  |_=> .no)
  |_=> .no)
 |_=> .no
def ajs (k:Y) (cs:aJ) (os:aF) (ks:aP) (gs:aG) (bs:aQ) (c p:Y):BO prog AM (Yt) kN noLoops f200 [k,xQ 5 [cs,os,ks,gs,bs],xQ 2 [c,p]]=.ix k (M gs) (.req (0<=p)<|.ok<|.v<|.bool<|(BG J (AF gs k).2.2.1<|AA<|(1:Y)*2^(min p.toNat 64)) !=0):=AO
def aBk:=vo (S:=aAq) func200 Yt kN (λargs lv h=>by
 refine ⟨?_⟩;unfold aAq at h;split at h
 ·split at h
  case h_2=>cases h
  rename_i heq0;split at h
  case h_2=>cases h
  rename_i heq1;simp only [canL,canX];rw [DB (n:=5) heq0];rw [DB (n:=2) heq1];simp only [canL,canX];rw [ajs];obtain ⟨⟨h1,h2⟩,h3⟩:=h;exact ⟨h1,h2,h3⟩
 ·cases h)
structure Hh where
 cs:aJ
 os:aF
 ks:aP
 gs:aG
 bs:aQ
 (c p:Y)
 l:aB
 (n i:Y)
 out:aB
def yN:=bN f199 0
def oq (s:Hh):T (Rd Hh):=letI a:=gi s.l s.i;.br (an<|s.i<s.n) (.ix s.i (M s.l)<|.req ((0<=a/\a<(M s.gs:Y))/\0<=s.p)<|.br (usA (AF s.gs a).2.2.1 s.p) (.rb (M s.out) (M<|[a]) 8<|.re (M s.out+M ([a])) (s.out++([a]))<|.nx {s with i:=AA<|s.i+1,out:=s.out++([a])})<|.rl s.out<|.nx {s with i:=AA<|s.i+1})<|.rl s.out<|.so (.exit 0) s
def UQ (s:Hh):Prop:=s.i=0/\s.out=[]/\s.n=(M s.l:Y)/\s.n<=1000/\0<=s.p/\∀k∈s.l,0<=k/\k<(M s.gs:Y)
def Uu (s:Hh):Prop:=(0<=s.i/\s.i<=s.n)/\(M s.out:Y)<=s.i/\s.n=(M s.l:Y)/\s.n<=1000/\0<=s.p/\∀k∈s.l,0<=k/\k<(M s.gs:Y)
def Xz (s:Hh):aC:=(s.n-s.i).toNat
def uN (x:Ex) (s s':Hh):Prop:=x=.exit 0/\s'.i=s'.n
def ayo:∀s,UQ s->Uu s:=by
 rintro s ⟨h0,h1,h2,h3,h4,h5⟩
 exact ⟨A0,A8,h2,h3,h4,h5⟩
def atW:Da Uu Xz uN oq:=by
 intro s hI;obtain ⟨⟨h0,h1⟩,h2,h3,h4,h5,h6⟩:=hI;refine allR_ite (λc1=>?_) λc1=>?_
 ·have c1:s.i<s.n:=AQ
  rw [AH (x:=s.i+1)];refine allR_ite (λc2=>?_) λc2=>?_
  ·exact ⟨⟨⟨AR,AR⟩,A8,h3,h4,h5,h6⟩,by simp only [Xz];omega⟩
  ·exact ⟨⟨⟨A8,A8⟩,AR,h3,h4,h5,h6⟩,by simp only [Xz];omega⟩
 ·have c1:s.n<=s.i:=AQ
  exact Qv
def Nr:LpD Hh:=⟨0,23,[1,5,8,9,10],[.nl 5 3 A7],λs=>[.fn 200 [xQ 5 [s.cs,s.os,s.ks,s.gs,s.bs],xQ 2 [s.c,s.p]],.os 0 1 0<|M s.out,.xl A7 s.l,s.n,s.i],λs=>[bV 3 A7 s.out],λv b=>⟨gXl AX<|gXq (gFn (v.getD 0 .junk) 0) 0,gXl .str<|gXq (gFn (v.getD 0 .junk) 0) 1,gXl Ad<|gXq (gFn (v.getD 0 .junk) 0) 2,gXl AZ<|gXq (gFn (v.getD 0 .junk) 0) 3,gXl Ae<|gXq (gFn (v.getD 0 .junk) 0) 4,gI<|gXq (gFn (v.getD 0 .junk) 1) 0,gI<|gXq (gFn (v.getD 0 .junk) 1) 1,As A7 v 2,AJ v 3,AJ v 4,AV A7 b 0⟩,oq,λs r=> {s with i:=r.i,out:=r.out},λs=>s,λ_ s=>s,[.exit 0],UQ,Uu,Xz⟩
abbrev Re:=Nr.run
abbrev alz:=Nr.exn
def aqR:Rq Uu oq:=by
 intro s hI;refine ⟨λc1=>⟨?_,?_,λc2=>⟨?_,?_,ak⟩,λc2=>⟨A9,ak⟩⟩,λc1=>⟨A9,ak⟩⟩
 all_goals ((obtain ⟨⟨h0,h1⟩,h2,h3,h4,h5,h6⟩:=hI;(try simp only [AT] at c1);first|omega|(refine ⟨h6 _ ?_,h5⟩;rw [Gc A0];exact Ee _) |(refine ⟨A0,?_,?_⟩<;>simp only [BI,BQ]<;>omega) |exact ⟨rfl,AG⟩ |exact ⟨rfl,rfl⟩))
def pj:aN:=[aBk]
def kr:Nr.Ok:={}
def jY:Nr.Pf (uN):=⟨ayo,λs h=>rfl,atW,aqR⟩
def ail:SA 0 yN Nr:=s1 kr jY pj kN
def alV:Fi UQ Uu uN alz Re:=LpD.fin kr jY
def agw (s:Hh) (hE:UQ s):(λs:Hh=>s.out++BY s.gs s.p (s.l.drop s.i.toNat)) (Re s)=(λs:Hh=>s.out++BY s.gs s.p (s.l.drop s.i.toNat)) s:=by
 exact LpD.keepV kr jY (λs:Hh=>s.out++BY s.gs s.p (s.l.drop s.i.toNat)) (λs hI=>by
  obtain ⟨⟨h0,h1⟩,h2,h3,h4,h5,h6⟩:=hI;refine allR_ite (λc1=>?_) λc1=>rfl
  have c1:s.i<s.n:=A8
  rw [AH (x:=s.i+1)];refine allR_ite (λc2=>?_) λc2=>?_
  ·show _++BY _ _ _=_++BY _ _ _
   rw [(gi_step h0 (show s.i<M s.l by omega)).1]
   simp [BY,KZ,c2]
  ·show _++BY _ _ _=_++BY _ _ _
   rw [(gi_step h0 (show s.i<M s.l by omega)).1]
   simp [BY,KZ,c2]) s hE
def alU (s:Hh) (hE:UQ s):(Re s).out=BY s.gs s.p s.l:=by
 obtain ⟨s',_,q1,q2⟩:=alV s hE
 have q3:=agw s hE
 obtain ⟨h0,h1,h2,h3⟩:=hE;simp only at q3;rw [q2,show (Re s).n=s.n from rfl,show (Re s).l=s.l from rfl,Dj A0,h0,h1] at q3
 simpa [BY] using q3
def aBf:aD->T LV
 | [.xl (.int J) l,.fn 200 [.xq 5 q0,.xq 2 q1]]=>(match ([q0 0,q0 1,q0 2,q0 3,q0 4]:aD) with
  | [.xl (.pair .str (.pair (.int J) (.pair (.int J) (.pair (.int J) (.pair (.pair (.int J) (.int J)) (.pair (.int J) (.pair (.int J) (.pair (.int J) (.pair (.int J) (.int J)))))))))) cs,.xl (.str) os,.xl (.pair .str (.pair (.int J) (.pair (.int J) (.int J)))) ks,.xl (.pair .str (.pair (.int J) (.pair (.int J) (.pair (.int J) (.pair (.int J) (.pair (.int J) (.pair (.int J) (.int J)))))))) gs,.xl (.pair .str (.int J)) bs]=>(match ([q1 0,q1 1]:aD) with
  | [.v (ag J c),.v (ag J p)]=> .req (TK gs p l) (.ok<|.xl A7<|BY gs p l)
  |_=> .no)
  |_=> .no)
 |_=> .no
def ak2 (l:aB) (cs:aJ) (os:aF) (ks:aP) (gs:aG) (bs:aQ) (c p:Y):letI a:=(Re (⟨cs,os,ks,gs,bs,c,p,l,(M l:Y),(0:Y),([]:aB)⟩:Hh));BO prog AM (pj) kN (λi=>if i=3 then Nr.lp else noLoops i) f199 [.xl A7 l,.fn 200 [xQ 5 [cs,os,ks,gs,bs],xQ 2 [c,p]]]=.r0 Int (.req (Nr.q (⟨cs,os,ks,gs,bs,c,p,l,(M l:Y),(0:Y),([]:aB)⟩:Hh))<|.rz a.out<|.ok<|.xl A7<|(a.out.drop 0).take<|M a.out):=AO
def anE:=vm (S:=aBf) func199 pj kN (L:=(λi=>if i=3 then Nr.lp else noLoops i)) (λb hb=>by
 rw [show loopsIn _=[yN] by kernel_rfl] at hb
 simp only [Au,BX,BV] at hb;subst hb;exact ail) (λargs lv h=>by
 refine ⟨?_⟩;unfold aBf at h;split at h
 ·split at h
  case h_2=>cases h
  rename_i heq0;split at h
  case h_2=>cases h
  rename_i heq1;simp only [canL,canX];rw [DB (n:=5) heq0];simp only [canL,canX];rw [DB (n:=2) heq1];simp only [canL,canX];rw [ak2];obtain ⟨⟨hp,hl,hm⟩,rfl⟩:=h;refine ⟨A9,JE ⟨⟨rfl,rfl,rfl,AR,hp,hm⟩,rfl,rfl⟩ λhE=>⟨A0,?_⟩⟩
  show LV.xl _ _=_
  rw [C0,DA,alU _ hE.1]
 ·cases h)
def pC:Array Tmp×Code×Code:=((rangesIn<|f168.body.getD .skip)[0]?).getD (#[],.skip,.skip)
def avR:aKN:=pC.1
def awu:bC:=pC.2.1
def awm:bC:=pC.2.2
structure Mw where
 (n c:Y)
 Dl:aJ
 MC:aF
 MB:aP
 Cn:aG
 MD:aQ
 below:aB
 I5:aJ
 I8:aF
 I6:aP
 I4:aG
 IE:aQ
 rows:aX
 st:LS
def eW (s:Mw):T (Rd Mw):=letI a:=NO s.Dl s.MC s.MB s.Cn s.MD s.c;letI b:=CY<|AY s.Dl s.c;letI d:=(b,BY s.Cn (0:Y) a);letI e:=(b,BY s.Cn (1:Y) a);letI f:=(b,BY s.Cn (2:Y) a);letI g:=(an<|(M (BY s.Cn (2:Y) a):Y)>0);letI h:=s.rows++([d]);letI i:=M s.rows+M ([d])+M ([e]);letI j:=AA<|s.c+1;letI k:=M s.rows+M ([d])+M ([e])+M ([f]);letI l:=M s.Dl;letI m:=M s.rows+M ([d]);letI o:=s.rows++([e]);letI p:=(TK s.Cn (2:Y) a);letI q:=M s.rows+M ([d])+M ([f]);letI r:=M s.rows+M ([e])+M ([f]);letI t:=(an<|(M (BY s.Cn (1:Y) a):Y)>0);letI u:=h++([e]);letI v:=M s.rows+M ([e]);letI w:=M s.rows;.br (an<|s.c<s.n) (.req (TK s.Cn (0:Y) a)<|.br (an<|(M (BY s.Cn (0:Y) a):Y)>0) (.ix s.c l<|.rb w (M<|[d]) 32<|.req (TK s.Cn (1:Y) a)<|.br t (.ix s.c l<|.ra m (M h) i 32<|.req p<|.br g (.ix s.c l<|.ra i (M u) k 32<|.re k (u++([f]))<|.nx {s with c:=j,below:=a,rows:=(u++([f]))})<|.re i u<|.nx {s with c:=j,below:=a,rows:=u})<|.req p<|.br g (.ix s.c l<|.ra m (M h) q 32<|.re q (h++([f]))<|.nx {s with c:=j,below:=a,rows:=(h++([f]))})<|.re m h<|.nx {s with c:=j,below:=a,rows:=h})<|.req (TK s.Cn (1:Y) a)<|.br t (.ix s.c l<|.rb w (M<|[e]) 32<|.req p<|.br g (.ix s.c l<|.ra v (M o) r 32<|.re r (o++([f]))<|.nx {s with c:=j,below:=a,rows:=(o++([f]))})<|.re v o<|.nx {s with c:=j,below:=a,rows:=o})<|.req p<|.br g (.ix s.c l<|.rb w (M<|[f]) 32<|.re (M s.rows+M ([f])) (s.rows++([f]))<|.nx {s with c:=j,below:=a,rows:=(s.rows++([f]))})<|.rl s.rows<|.nx {s with c:=j,below:=a})<|.rl s.rows<|.so (.exit 0) s
def fG (s:Mw):Prop:=s.st=.ready/\s.c=0/\s.rows=[]/\Av s.Dl s.MC s.MB s.Cn s.MD=U/\s.n=(M s.Dl:Y)
def WK (s:Mw):Prop:=s.st=.ready/\(0<=s.c/\s.c<=s.n)/\s.rows=CK s.Dl s.Cn s.c.toNat/\Av s.Dl s.MC s.MB s.Cn s.MD=U/\s.n=(M s.Dl:Y)
def pT (s:Mw):aC:=(s.n-s.c).toNat
def vR (x:Ex) (s s':Mw):Prop:=x=.exit 0/\s'.rows=CK s'.Dl s'.Cn (M s'.Dl)
def azn:∀s,fG s->WK s:=by
 rintro s ⟨h0,h1,h2,h3,h4⟩
 exact ⟨h0,A0,by rw [h1,h2];rfl,h3,h4⟩
def avZ:Da WK pT vR eW:=by
 intro s hI;unfold eW;obtain ⟨h0,⟨h1,h2⟩,h3,h4,h5⟩:=hI;refine allR_ite (λc1=>?_) λc1=>?_
 rotate_left
 ·have c1:s.n<=s.c:=AQ
  exact ⟨rfl,A8⟩
 have c1:s.c<s.n:=AQ
 have hl:=(Ci.1 h4).1
 rw [AH (x:=s.c+1)]
 have eb:NO s.Dl s.MC s.MB s.Cn s.MD s.c=CE s.Dl s.Cn s.c (M s.Cn):=by
  unfold NO
  grind
 rw [eb]
 have fin:∀r:aX,r=CK s.Dl s.Cn s.c.toNat++(rowP s.Dl s.Cn s.c 0++rowP s.Dl s.Cn s.c 1++rowP s.Dl s.Cn s.c 2)->r=CK s.Dl s.Cn (s.c+1).toNat:=λr hr=>by
  rw [hr,show (s.c+1).toNat=s.c.toNat+1 by omega,CK,C2 h1]
  rfl
 refine allR_ite (λc2=>?_) (λc2=>?_)<;>refine allR_ite (λc3=>?_) (λc3=>?_)<;>refine allR_ite (λc4=>?_) λc4=>?_
 all_goals
  refine ⟨⟨h0,⟨AR,AR⟩,?_,h4,h5⟩,by simp only [pT];omega⟩
  simp only [AT,CX] at c2 c3 c4;refine fin _ ?_;simp only [h3,rowP]
  first|rw [AB A0] |rw [AD A0]
  first|rw [AB A0] |rw [AD A0]
  first|rw [AB A0] |rw [AD A0]
  grind
def WR:LpD Mw:=⟨5,22,[0,7,8],[.nc 1 0 336 Dg,.pc 2 0 A7,.pk 0],λs=>[.yld 4,s.n,s.c],λs=>[⟨[s.Dl,s.MC,s.MB,s.Cn,s.MD],28,.cl,U⟩,⟨[.os 5 2 0<|M s.rows],299,.cl,X⟩,⟨[.xl A7 s.below],29,.cl,X⟩,⟨[s.I5,s.I8,s.I6,s.I4,s.IE],28,.cl,X⟩,⟨[.junk,.own 0 0,.junk,.junk,.own 1 0,.own 2 0,.v<|.tuple #[],.v<|.tuple #[],.junk,.junk,.junk,.junk,.junk,.v<|.tuple #[],.v<|.tuple #[],.v<|.tuple #[],.v<|.tuple #[],.v<|.tuple #[],.v<|.tuple #[],.v<|.tuple #[],.v<|.tuple #[],.v<|.tuple #[],.v<|.tuple #[],.junk,.v<|.tuple #[],.v<|.tuple #[],.v<|.tuple #[],.v<|.tuple #[],.v<|.tuple #[],.v<|.tuple #[],.v<|.tuple #[],.v<|.tuple #[],.v<|.tuple #[],.v<|.tuple #[],.v<|.tuple #[],.v<|.tuple #[],.v<|.tuple #[],.v<|.tuple #[],.v<|.tuple #[],.v<|.tuple #[],.v<|.tuple #[],.v<|.tuple #[],.junk],0,.lrec avR awu awm s.st,X⟩,bV 336 Dg s.rows],λv b=>⟨AJ v 1,AJ v 2,AE AX b 0 0,AE .str b 0 1,AE Ad b 0 2,AE AZ b 0 3,AE Ae b 0 4,AE A7 b 2 0,AE AX b 3 0,AE .str b 3 1,AE Ad b 3 2,AE AZ b 3 3,AE Ae b 3 4,AV Dg b 5,.ready⟩,eW,λs r=> {r with n:=s.n,Dl:=s.Dl,MC:=s.MC,MB:=s.MB,Cn:=s.Cn,MD:=s.MD,I5:=s.I5,I8:=s.I8,I6:=s.I6,I4:=s.I4,IE:=s.IE,st:=s.st},λs=> {s with st:=.ready},λx s=> {s with st:=(match x with| .exit 0=> .ready|_=> .ready)},[.exit 0],fG,WK,pT⟩
abbrev wj:=WR.run
abbrev ard:=WR.exn
def T2:aN:=[MT,jd,aiI,anE,aBk]
def ayI:Ap:=kI T2<|l0 T2
def avk:Rq WK eW:=by
 intro s hI;refine ⟨λc1=>⟨?_,λc2=>⟨?_,?_,?_,λc3=>⟨?_,?_,?_,λc4=>⟨?_,?_,?_,ak⟩,λc4=>⟨?_,ak⟩⟩,λc3=>⟨?_,λc5=>⟨?_,?_,?_,ak⟩,λc5=>⟨?_,ak⟩⟩⟩,λc2=>⟨?_,λc6=>⟨?_,?_,?_,λc7=>⟨?_,?_,?_,ak⟩,λc7=>⟨?_,ak⟩⟩,λc6=>⟨?_,λc8=>⟨?_,?_,?_,ak⟩,λc8=>⟨A9,ak⟩⟩⟩⟩,λc1=>⟨A9,ak⟩⟩
 all_goals ((obtain ⟨h0,⟨h1,h2⟩,h3,h4,h5⟩:=hI;have hl:=(Ci.1 h4).1;(try simp only [AT] at c1);have hr:M s.rows<=3*s.c.toNat:=(by rw [h3];exact gE);have eb:NO s.Dl s.MC s.MB s.Cn s.MD s.c=CE s.Dl s.Cn s.c (M s.Cn):=(by unfold NO;rw [AB ⟨h4,h1,A0⟩]);first|omega|((try simp only);rw [eb];refine ⟨AS,Fy gL A0,λk hk=>Wq hk⟩) |(refine ⟨A0,?_,?_⟩<;>simp only [Ax,BI,BQ]<;>omega) |(simp only [Ax,BI,BQ];omega) |exact ⟨rfl,AG⟩ |exact ⟨rfl,rfl⟩))
def abZ:WR.Ok:={}
def abE:WR.Pf (vR):=⟨azn,λs h=>by
 obtain ⟨n,c,Dl,MC,MB,Cn,MD,below,I5,I8,I6,I4,IE,rows,st⟩:=s
 have e:=h.1
 subst e;rfl,avZ,avk⟩
def aoa:=s2 (b:=bN f112 0) abZ abE T2 ayI
def aoC:Fi fG WK vR ard wj:=LpD.fin abZ abE
def aAr:aD->T LV
 | .agg a::r=>s5 a λcs os ks gs bs=>(match r with
  | []=> .ok (.tup [.xl Dg<|Hg cs os ks gs bs,Lq cs os ks gs bs])
  |_=> .no)
 |_=> .no
def ayH:Ap:=kI T2<|la 1 func112 aoa<|l0 T2
def SO:=vo (S:=aAr) func168 T2 ayH (λargs lv h=>by
 unfold aAr at h;split at h
 case h_2=>cases h
 replace h:=GB h
 obtain ⟨cs,os,ks,gs,bs,rfl,h⟩:=h;split at h
 ·refine Al (letI a:=(wj (⟨(M cs:Y),0,cs,os,ks,gs,bs,([]:aB),cs,os,ks,gs,bs,([]:aX),.ready⟩:Mw));.br (!(Av cs os ks gs bs)) (.ok<|.tup [.xl Dg ([]:aX),(1:Y)])<|.r0 Rw<|.req (WR.q (⟨(M cs:Y),0,cs,os,ks,gs,bs,([]:aB),cs,os,ks,gs,bs,([]:aX),.ready⟩:Mw))<|.rz a.rows<|.ok<|.tup [.xl Dg<|(a.rows.drop 0).take<|M a.rows,(0:Y)]) ?_
  obtain rfl:=h;refine ⟨λc=>?_,λc=>?_⟩
  ·have c:Av cs os ks gs bs=false:=A8
   unfold Hg Lq;rw [c];rfl
  ·have c:Av cs os ks gs bs=true:=A8
   have hE:fG ⟨(M cs:Y),0,cs,os,ks,gs,bs,([]:aB),cs,os,ks,gs,bs,([]:aKX),.ready⟩:=⟨rfl,rfl,rfl,c,rfl⟩
   obtain ⟨s',_,q1,q2⟩:=aoC _ hE
   have q2:(wj ⟨(M cs:Y),0,cs,os,ks,gs,bs,([]:aB),cs,os,ks,gs,bs,([]:aKX),.ready⟩).rows=CK cs gs (M cs):=q2
   refine ⟨A9,⟨hE,rfl,rfl⟩,A0,?_⟩
   show LV.tup [LV.xl _ _,_]=_
   unfold Hg Lq
   grind
 ·cases h)
def af0:aD->T LV
 | [.v (ag J n),.v (ag J a),.v (ag J b)]=> .ok (inB n a b)
 |_=> .no
def II:aN:=[]
def Wj:=vo (S:=af0) func141 II kN (λargs lv h=>by
 unfold af0 at h;split at h
 ·rename_i n a b
  refine Al (.ok<|.v<|.bool<|(an<|n>=a)&&(an<|n<=b)) ?_;exact h
 ·cases h)
def aFw:aD->T LV
 | [.v (.agg ⟨[.string nm,ag J at_,ag J ph,ag J mn,ag J mx,ag J st,ag J fb,ag J ow]⟩)]=> .ok (Gi ph mn mx st fb)
 |_=> .no
def axl:aN:=[Wj]
def aat:=vo (S:=aFw) func182 axl kN (λargs lv h=>by
 unfold aFw at h;split at h
 ·rename_i nm at_ ph mn mx st fb ow
  refine Al (.ok<|.v<|.bool<|(inB ph (1:Y) (7:Y))&&((inB mn (1:Y) (80:Y))&&((inB mx (1:Y) (80:Y))&&((inB st (1:Y) (80:Y))&&((an<|mn<=mx)&&((fb==0) ||(inB fb mn mx))))))) ?_;exact h
 ·cases h)
def yV:aD->T LV
 | []=> .ok (.v<|.agg #[(0:Y),(0:Y),(0:Y),X])
 |_=> .no
def agX  :BO prog AM II kN noLoops f35 []=.ok (.v<|.agg #[(0:Y),(0:Y),(0:Y),X]):=AO
def Rp:=vo (S:=yV) func35 II kN (λargs lv h=>by
 refine ⟨?_⟩;unfold yV at h;split at h
 ·simp only [canL]
  rwa [agX]
 ·cases h)
def aGG:aD->T LV
 | [.v (.agg ⟨[.string nm,ag J at_,ag J ph,ag J mn,ag J mx,ag J st,ag J fb,ag J ow]⟩),.v (.agg ⟨[ag J 0,ag J 0,ag J 0,.bool X]⟩)]=> .ok (Gi ph mn mx st fb)
 |_=> .no
def axk:aN:=[Rp,Wj,aat]
def av3:=vo (S:=aGG) func128 axk kN (λargs lv h=>by
 unfold aGG at h;split at h
 ·rename_i nm at_ ph mn mx st fb ow
  refine Al (.br (!(Gi ph mn mx st fb)) (.ok X)<|.br (((0:Y)==0)&&(((0:Y)==0)&&(((0:Y)==0)&&(X==X)))) (.ok U)<|.ok<|.v<|.bool<|(inB (0:Y) (0:Y) (5:Y))&&((inB (0:Y) (0:Y) (1000000:Y))&&((inB (0:Y) (0:Y) mx)&&(if (0:Y) !=0 then (!X) ||((0:Y)==5) else ((0:Y)==0)&&((!X) ||((0:Y)==5)))))) ?_
  obtain rfl:=h;refine ⟨λhb=>?_,λhb=>⟨λ_=>?_,λhf=>absurd hf AS⟩⟩
  ·show LV.v (.bool X)=_
   rw [show Gi _ _ _ _ _=X by simpa using hb]
  ·show LV.v (.bool U)=_
   rw [show Gi _ _ _ _ _=U by simpa using hb]
 ·cases h)
def aAs:aD->T LV
 | [.v (.agg ⟨[.string nm,ag J at_,ag J ph,ag J mn,ag J mx,ag J st,ag J fb,ag J ow]⟩),.v (ag J am)]=> .req (DG mn mx st) (.ok<|BZ mn mx st am)
 |_=> .no
def aBm:=vo (S:=aAs) func175 II kN (λargs lv h=>by
 unfold aAs at h;split at h
 ·rename_i nm at_ ph mn mx st fb ow am
  refine Al (.br (an<|am<mn) (.ok (0:Y))<|.req (st≠0)<|.ok<|AA<|(if mx<am then mx else am)-((AA<|(if mx<am then mx else am)-mn).tmod st)) ?_
  obtain ⟨hc,rfl⟩:=h;refine ⟨λhb=>?_,λhb=>⟨by unfold DG at hc;omega,?_⟩⟩
  ·exact An (λz=>LV.v<|ag J z)<|asy A8
  ·exact An (λz=>LV.v<|ag J z)<|asx hc A8
 ·cases h)
def aG3:aD->T LV
 | [.v (.agg ⟨[.string nm,ag J at_,ag J ph,ag J mn,ag J mx,ag J st,ag J fb,ag J ow]⟩),.v (.agg ⟨[ag J a,ag J si]⟩)]=> .ok (GN ph mn mx st fb a si)
 |_=> .no
def axj:aN:=[Rp,av3,aBm]
def aaz:=vo (S:=aG3) func170 axj kN (λargs lv h=>by
 unfold aG3 at h;split at h
 ·rename_i nm at_ ph mn mx st fb ow a si
  refine Al (.br ((!(Gi ph mn mx st fb)) ||((an<|si<0) ||((an<|si>1000000) ||(an<|a<0)))) (.ok X)<|.req (DG mn mx st)<|.ok<|.v<|.bool<|(BZ mn mx st a)==a) ?_;obtain rfl:=h;refine ⟨λhb=>?_,λhb=>⟨?_,?_⟩⟩
  ·exact An (λz=>LV.v<|.bool z)<|azs hb
  ·exact (aeC hb).1
  ·exact An (λz=>LV.v<|.bool z) (aeC hb).2
 ·cases h)
def ya:aD->T LV
 | [.v (.bool b)]=> .ok (.v<|ag J (if b then (1:Y) else 0))
 |_=> .no
def ahW:=vo (S:=ya) func180 II kN (λargs lv h=>by
 unfold ya at h;split at h
 ·rename_i b
  refine Al (.br b (.ok (1:Y))<|.ok (0:Y)) ?_;obtain rfl:=h;cases b
  ·exact ⟨λhb=>Iw,λ_=>rfl⟩
  ·exact ⟨λ_=>rfl,λhb=>Iw⟩
 ·cases h)
def aFg:aD->T LV
 | [.xq 8 q0]=>(match ([q0 0,q0 1,q0 2,q0 3,q0 4,q0 5,q0 6,q0 7]:aD) with
  | [.v (.string nm),.v (ag J at_),.v (ag J ph),.v (ag J mn),.v (ag J mx),.v (ag J st),.v (ag J fb),.v (ag J ow)]=> .ok (.v<|.agg #[mn,(0:Y)])
  |_=> .no)
 |_=> .no
def apq (nm:bA) (at_ ph mn mx st fb ow:Y):BO prog AM II kN noLoops f176 [xQ 8 [.v<|.string nm,at_,ph,mn,mx,st,fb,ow]]=.ok (.v<|.agg #[mn,(0:Y)]):=AO
def aus:=vo (S:=aFg) func176 II kN (λargs lv h=>by
 refine ⟨?_⟩;unfold aFg at h;split at h
 ·split at h
  case h_2=>cases h
  rename_i heq0;simp only [canL,canX];rw [DB (n:=8) heq0];simp only [canL,canX]
  rwa [apq]
 ·cases h)
def aFf:aD->T LV
 | [.xq 1 q0]=>(match ([q0 0]:aD) with
  | [.v (ag J lo)]=> .ok (.v<|.agg #[(0:Y),lo])
  |_=> .no)
 |_=> .no
def apo (lo:Y):BO prog AM II kN noLoops f177 [xQ 1 [lo]]=.ok (.v<|.agg #[(0:Y),lo]):=AO
def aur:=vo (S:=aFf) func177 II kN (λargs lv h=>by
 refine ⟨?_⟩;unfold aFf at h;split at h
 ·split at h
  case h_2=>cases h
  rename_i heq0;simp only [canL,canX];rw [DB (n:=1) heq0];simp only [canL,canX]
  rwa [apo]
 ·cases h)
def aFe:aD->T LV
 | []=> .ok (.v<|.agg #[(0:Y),(0:Y)])
 |_=> .no
def apn  :BO prog AM II kN noLoops f178 []=.ok (.v<|.agg #[(0:Y),(0:Y)]):=AO
def auq:=vo (S:=aFe) func178 II kN (λargs lv h=>by
 refine ⟨?_⟩;unfold aFe at h;split at h
 ·simp only [canL]
  rwa [apn]
 ·cases h)
def aFd:aD->T LV
 | [.xq 1 q0,.xq 2 q1,.xq 8 q2,.xq 1 q3]=>(match ([q0 0]:aD) with
  | [.v (ag J lv)]=>(match ([q1 0,q1 1]:aD) with
  | [.v (ag J a),.v (ag J si)]=>(match ([q2 0,q2 1,q2 2,q2 3,q2 4,q2 5,q2 6,q2 7]:aD) with
  | [.v (.string nm),.v (ag J at_),.v (ag J ph),.v (ag J mn),.v (ag J mx),.v (ag J st),.v (ag J fb),.v (ag J ow)]=>(match ([q3 0]:aD) with
  | [.v (ag J lo)]=> .ok (.v<|.agg #[ag J (if AA (a+st)<lv then AA (a+st) else lv),lo])
  |_=> .no)
  |_=> .no)
  |_=> .no)
  |_=> .no)
 |_=> .no
def apm (lv a si:Y) (nm:bA) (at_ ph mn mx st fb ow lo:Y):BO prog AM II kN noLoops f179 [xQ 1 [lv],xQ 2 [a,si],xQ 8 [.v<|.string nm,at_,ph,mn,mx,st,fb,ow],xQ 1 [lo]]=.ok (.v<|.agg #[ag J (if (AA<|a+st)<lv then AA (a+st) else lv),lo]):=AO
def aup:=vo (S:=aFd) func179 II kN (λargs lv h=>by
 refine ⟨?_⟩;unfold aFd at h;split at h
 ·split at h
  case h_2=>cases h
  rename_i heq0;split at h
  case h_2=>cases h
  rename_i heq1;split at h
  case h_2=>cases h
  rename_i heq2;split at h
  case h_2=>cases h
  rename_i heq3;simp only [canL,canX];rw [DB (n:=1) heq0];rw [DB (n:=2) heq1];rw [DB (n:=8) heq2];rw [DB (n:=1) heq3];simp only [canL,canX]
  rwa [apm]
 ·cases h)
def asl {a l si:Y}:QX ((if (a !=0) then (1:Y) else 0).toNat*4+((if (l !=0) then (1:Y) else 0).toNat*2+((if (an<|si>=5) then (1:Y) else 0).toNat*1+0)))=if a=0 then (if l=0 then 1 else if 5<=si then 0 else 1) else if l=0 then 2 else 3:=by
 by_cases c1:a=0<;>by_cases c2:l=0<;>by_cases c3:5<=si<;>simp [c1,c2,c3,QX]
def aB0:aD->T LV
 | [.v (.agg ⟨[.string nm,ag J at_,ag J ph,ag J mn,ag J mx,ag J st,ag J fb,ag J ow]⟩),.v (.agg ⟨[ag J a,ag J si]⟩),.v (ag J want)]=> .tu #[.agg #[nA ph mn mx st fb a si want,nS ph mn mx st fb a si want],nE ph mn mx st fb a si want]
 |_=> .no
def axi:aN:=[aaz,aBm,aus,aur,auq,aup,ahW]
def anZ:=vo (S:=aB0) func123 axi kN (λargs lv h=>by
 unfold aB0 at h;split at h
 ·rename_i nm at_ ph mn mx st fb ow a si want
  refine Al (letI d:=BZ mn mx st want;letI e:=an<|si>=5;letI c:=(QX<|(if (a !=0) then (1:Y) else 0).toNat*4+((if (d !=0) then (1:Y) else 0).toNat*2+((if e then (1:Y) else 0).toNat*1+0)));.br ((!(GN ph mn mx st fb a si)) ||((an<|want<0) ||(an<|want>80))) (.tu #[.agg #[(0:Y),(0:Y)],(1:Y)])<|.req (DG mn mx st)<|.req (0<=(if (a !=0) then (1:Y) else 0)/\(if (a !=0) then (1:Y) else 0)<(2:Y))<|.req (0<=(if (d !=0) then (1:Y) else 0)/\(if (d !=0) then (1:Y) else 0)<(2:Y))<|.req (0<=(if e then (1:Y) else 0)/\(if e then (1:Y) else 0)<(2:Y))<|.br (c==0) (.tu #[.agg #[mn,(0:Y)],(0:Y)])<|.br (c==1) (.tu #[.agg #[(0:Y),ag J (if (1000000:Y)<(AA<|si+1) then 1000000 else AA (si+1))],(0:Y)])<|.br (c==2) (.tu #[.agg #[(0:Y),(0:Y)],(0:Y)])<|.br (c==3) (.tu #[.agg #[ag J (if AA (a+st)<d then AA (a+st) else d),ag J (if (1000000:Y)<(AA<|si+1) then 1000000 else AA (si+1))],(0:Y)])<|.no) ?_
  obtain rfl:=h
  by_cases hk:okB ph mn mx st fb a si want=U
  ·obtain ⟨k1,k2,k3,k4,k5⟩:=aAL hk
   have w1:AA (si+1)=si+1:=AH
   have w2:AA (a+st)=a+st:=AH
   have i0:∀b:aM,0<=(if b=U then (1:Y) else 0)/\(if b=U then (1:Y) else 0)<2:=λb=>by cases b<;>simp
   simp only [T.all,nA,nS,nE,k1,w1,w2,hk,aAR,BP,asl,i0,DZ]
   grind
  ·have hn:=akF hk
   simp only [T.all,nA,nS,nE,hk,hn]
   simp
 ·cases h)
def aGF:aD->T LV
 | [.v (ag J n),.v (ag J a),.v (ag J b)]=> .ok (inB n a b)
 |_=> .no
def axe:aN:=[]
def abn:=vo (S:=aGF) func169 axe kN (λargs lv h=>by
 unfold aGF at h;split at h
 ·rename_i n a b
  refine Al (.ok<|.v<|.bool<|(an<|n>=a)&&(an<|n<=b)) ?_;exact h
 ·cases h)
def aFv:aD->T LV
 | [.v (.agg ⟨[.bool wa,ag J ow,ag J le,ag J ra]⟩)]=> .ok (Ft (wa,ow,le,ra))
 |_=> .no
def axd:aN:=[abn]
def aul:=vo (S:=aFv) func171 axd kN (λargs lv h=>by
 unfold aFv at h;split at h
 ·rename_i wa ow le ra
  refine Al (.ok<|.v<|.bool<|(inB ow (0:Y) (1000000000:Y))&&((inB le (0:Y) (1000000:Y))&&(inB ra (1:Y) (9:Y)))) ?_;exact h
 ·cases h)
structure Jz where
 cs:aJ
 os:aF
 ks:aP
 gs:aG
 bs:aQ
 l:aL
 d:aZ
 t:Y
 od:aB
 awp:bu
 r:aM
 n:Y
 m:aL
 (k i:Y)
def yy:=bN f121 0
def oQ (s:Jz):T (Rd Jz):=
 .br (an<|s.i<s.k) (.ix s.i (M s.m)<|.br (an<|(AU s.m s.i).2.1>=s.n) (.so (.ret) {s with r:=X})<|.nx {s with i:=AA<|s.i+1}) (.so (.exit 0) s)
def Se (s:Jz) (j:Y):aM:=an<|(AU s.m j).2.1<s.n
def Zl (s:Jz):Prop:=s.i=0/\0<=s.k/\s.k<=1000/\s.k=(M s.m:Y)
def TW (s:Jz):Prop:=0<=s.i/\s.i<=s.k/\s.k<=1000/\(s.k=(M s.m:Y))/\∀j:aC,(j:Y)<s.i->Se s j=U
def jw (s:Jz):aC:=(s.k-s.i).toNat
def uG (x:Ex) (s s':Jz):Prop:=(x=.exit 0/\∀j:aC,(j:Y)<s'.k->Se s' j=U)\/(x=.ret/\s'.r=X/\∃j:aC,(j:Y)<s'.k/\Se s' j=X)
def az3:∀s,Zl s->TW s:=by
 exact I1
def atn:Da TW jw uG oQ:=by
 intro s hI;obtain ⟨h0,h1,h2,h3,h4⟩:=hI;refine allR_ite (λc1=>allR_ite (λc2=>?_) λc2=>?_) λc1=>?_
 ·have c1:s.i<s.k:=AQ
  refine .inr ⟨rfl,rfl,s.i.toNat,A8,?_⟩
  have hg:Se s s.i=false:=aJL
  exact hg
 ·have c1:s.i<s.k:=AQ
  have hg:Se s s.i=true:=aJL
  rw [AH (x:=s.i+1)];refine ⟨⟨A8,A8,h2,h3,λj hj=>?_⟩,by simp only [jw];omega⟩
  exact Iv
 ·have c1:s.k<=s.i:=AQ
  exact VZ
def Nn:LpD Jz:=⟨0,108,[0,1,6,9,67,68,69],[],λs=>[xQ 9 [s.cs,s.os,s.ks,s.gs,s.bs,s.l,s.d,s.t,.xl A7 s.od],s.awp,s.r,s.n,s.m,s.k,s.i],λ_=>[],λv b=>⟨gXl AX<|gXq (v.getD 0 .junk) 0,gXl .str<|gXq (v.getD 0 .junk) 1,gXl Ad<|gXq (v.getD 0 .junk) 2,gXl AZ<|gXq (v.getD 0 .junk) 3,gXl Ae<|gXq (v.getD 0 .junk) 4,gXl AK<|gXq (v.getD 0 .junk) 5,gXl Ac<|gXq (v.getD 0 .junk) 6,gI<|gXq (v.getD 0 .junk) 7,gXl A7<|gXq (v.getD 0 .junk) 8,As Ag v 1,DE v 2,AJ v 3,As AK v 4,AJ v 5,AJ v 6⟩,oQ,λs r=> {s with r:=r.r,i:=r.i},λs=>s,λ_ s=>s,[.ret,.exit 0],Zl,TW,jw⟩
abbrev vv:=Nn.run
abbrev aA3:=Nn.exn
def aoc:Rq TW oQ:=by
 exact OV
def Ys:aN:=[SQ,SO,abn,aaz,aul]
def aDv:Nn.Ok:={}
def aDc:Nn.Pf (uG):=⟨az3,λs h=>rfl,atn,aoc⟩
def ajT:SA 0 yy Nn:=s1 aDv aDc Ys kN
def amK:Fi Zl TW uG aA3 vv:=LpD.fin aDv aDc
structure K7 where
 cs:aJ
 os:aF
 ks:aP
 gs:aG
 bs:aQ
 l:aL
 d:aZ
 t:Y
 od:aB
 rs:bu
 r:aM
 m:aG
 (k i:Y)
def yx:=bN f121 1
def oN (s:K7):T (Rd K7):=letI a:=AF s.m s.i;.br (an<|s.i<s.k) (.ix s.i (M s.m)<|.ix s.i (M s.rs)<|.br (!(GN a.2.2.1 a.2.2.2.1 a.2.2.2.2.1 a.2.2.2.2.2.1 a.2.2.2.2.2.2.1 (Bb s.rs s.i).1 (Bb s.rs s.i).2)) (.so (.ret) {s with r:=X})<|.ix s.i (M s.d)<|.br (!(Ft<|DC s.d s.i)) (.so (.ret) {s with r:=X})<|.nx {s with i:=AA<|s.i+1})<|.so (.exit 2) s
def S3 (s:K7) (j:Y):aM:=Lt (AF s.m j) (Bb s.rs j)&&Ft (DC s.d j)
def Zk (s:K7):Prop:=s.i=0/\0<=s.k/\s.k<=1000/\s.k=(M s.m:Y)/\M s.rs=M s.m/\M s.d=M s.m
def TV (s:K7):Prop:=0<=s.i/\s.i<=s.k/\s.k<=1000/\(s.k=(M s.m:Y)/\M s.rs=M s.m/\M s.d=M s.m)/\∀j:aC,(j:Y)<s.i->S3 s j=U
def ju (s:K7):aC:=(s.k-s.i).toNat
def uF (x:Ex) (s s':K7):Prop:=(x=.exit 2/\∀j:aC,(j:Y)<s'.k->S3 s' j=U)\/(x=.ret/\s'.r=X/\∃j:aC,(j:Y)<s'.k/\S3 s' j=X)
def az2:∀s,Zk s->TV s:=by
 exact I1
def atm:Da TV ju uF oN:=by
 intro s hI;obtain ⟨h0,h1,h2,h3,h4⟩:=hI;refine allR_ite (λc1=>allR_ite (λc2=>?_) λc2=>allR_ite (λc3=>?_) λc3=>?_) λc1=>?_
 ·exact aH0
 ·exact aH0
 ·have c1:s.i<s.k:=AQ
  have hg:S3 s s.i=true:=aJZ
  rw [AH (x:=s.i+1)];refine ⟨⟨AR,AR,h2,h3,λj hj=>?_⟩,by simp only [ju];omega⟩
  exact Iv
 ·have c1:s.k<=s.i:=AQ
  exact VZ
def Nm:LpD K7:=⟨0,108,[0,1,6,82,83,84],[],λs=>[xQ 9 [s.cs,s.os,s.ks,s.gs,s.bs,s.l,s.d,s.t,.xl A7 s.od],s.rs,s.r,s.m,s.k,s.i],λ_=>[],λv b=>⟨gXl AX<|gXq (v.getD 0 .junk) 0,gXl .str<|gXq (v.getD 0 .junk) 1,gXl Ad<|gXq (v.getD 0 .junk) 2,gXl AZ<|gXq (v.getD 0 .junk) 3,gXl Ae<|gXq (v.getD 0 .junk) 4,gXl AK<|gXq (v.getD 0 .junk) 5,gXl Ac<|gXq (v.getD 0 .junk) 6,gI<|gXq (v.getD 0 .junk) 7,gXl A7<|gXq (v.getD 0 .junk) 8,As Ag v 1,DE v 2,As AZ v 3,AJ v 4,AJ v 5⟩,oN,λs r=> {s with r:=r.r,i:=r.i},λs=>s,λ_ s=>s,[.ret,.exit 2],Zk,TV,ju⟩
abbrev zf:=Nm.run
abbrev aA2:=Nm.exn
def aob:Rq TV oN:=by
 intro s hI;refine ⟨λc1=>⟨?_,?_,λ_=>trivial,λc2=>⟨?_,λ_=>trivial,λ_=>trivial⟩⟩,λ_=>trivial⟩
 all_goals ((obtain ⟨h0,h1,h2,h3,h4⟩:=hI;obtain ⟨h3,h5,h6⟩:=h3;simp at c1;omega))
def aDu:Nm.Ok:={}
def aDb:Nm.Pf (uF):=⟨az2,λs h=>rfl,atm,aob⟩
def ajS:SA 0 yx Nm:=s1 aDu aDb Ys kN
def amJ:Fi Zk TV uF aA2 zf:=LpD.fin aDu aDb
def aBR:aD->T LV
 | [.xq 9 q0,.xl (.pair (.int J) (.int J)) rs,.v (ag J n)]=>(match ([q0 0,q0 1,q0 2,q0 3,q0 4,q0 5,q0 6,q0 7,q0 8]:aD) with
  | [.xl (.pair .str (.pair (.int J) (.pair (.int J) (.pair (.int J) (.pair (.pair (.int J) (.int J)) (.pair (.int J) (.pair (.int J) (.pair (.int J) (.pair (.int J) (.int J)))))))))) cs,.xl (.str) os,.xl (.pair .str (.pair (.int J) (.pair (.int J) (.int J)))) ks,.xl (.pair .str (.pair (.int J) (.pair (.int J) (.pair (.int J) (.pair (.int J) (.pair (.int J) (.pair (.int J) (.int J)))))))) gs,.xl (.pair .str (.int J)) bs,.xl (.pair (.int J) (.pair (.int J) (.pair (.int J) (.pair (.int J) (.int J))))) l,.xl (.pair .bool (.pair (.int J) (.pair (.int J) (.int J)))) d,.v (ag J t),.xl (.int J) od]=> .ok (HI cs os ks gs bs l rs d t n)
  |_=> .no)
 |_=> .no
def ajw (cs:aJ) (os:aF) (ks:aP) (gs:aG) (bs:aQ) (l:aL) (d:aZ) (t:Y) (od:aB) (rs:bu) (n:Y):letI b:=(M gs:Y);letI c:=(M l:Y);letI a:=(vv (⟨cs,os,ks,gs,bs,l,d,t,od,rs,X,b,l,c,(0:Y)⟩:Jz));BO prog AM (Ys) kN (λi=>if i=8 then Nn.lp else if i=14 then Nm.lp else noLoops i) f121 [xQ 9 [cs,os,ks,gs,bs,l,d,t,.xl A7 od],rs,n]=.br (((Lq cs os ks gs bs) !=0) ||(!(Ao l))) (.ok X) (.br (((M rs:Y) !=b) ||(((M d:Y) !=b) ||((!(inB t (0:Y) (1000000:Y))) ||(!(inB n (1:Y) (999900:Y)))))) (.ok X)<|.req (Nn.q (⟨cs,os,ks,gs,bs,l,d,t,od,rs,X,b,l,c,(0:Y)⟩:Jz))<|.br (isEx (aA3 (⟨cs,os,ks,gs,bs,l,d,t,od,rs,X,b,l,c,(0:Y)⟩:Jz))<|.ret) (.ok a.r)<|.req (Nm.q (⟨cs,os,ks,gs,bs,l,d,t,od,rs,a.r,gs,b,(0:Y)⟩:K7))<|.br (isEx (aA2 (⟨cs,os,ks,gs,bs,l,d,t,od,rs,a.r,gs,b,(0:Y)⟩:K7))<|.ret) (.ok (zf (⟨cs,os,ks,gs,bs,l,d,t,od,rs,a.r,gs,b,(0:Y)⟩:K7)).r)<|.ok U):=AO
def ani:=vm (S:=aBR) func121 Ys kN (L:=(λi=>if i=8 then Nn.lp else if i=14 then Nm.lp else noLoops i)) (λb hb=>by
 rw [show loopsIn _=[yy,yx] by kernel_rfl] at hb
 simp only [Au,BX,BV] at hb;rcases hb with rfl|rfl
 ·exact ajT
 ·exact ajS) (λargs lv h=>by
 refine ⟨?_⟩;unfold aBR at h;split at h
 ·split at h
  case h_2=>cases h
  rename_i heq0;simp only [canL,canX];rw [DB (n:=9) heq0];simp only [canL,canX];rw [ajw];rename_i rs n _ cs os ks gs bs l d t od;obtain rfl:=h
  have e0:((Lq cs os ks gs bs !=0) || !Ao l)=!(Av cs os ks gs bs&&Ao l):=by
   unfold Lq;cases Av cs os ks gs bs<;>cases Ao l<;>rfl
  have e1:(((M rs:Y) !=(M gs:Y)) ||(((M d:Y) !=(M gs:Y)) ||(!inB t 0 1000000 || !inB n 1 999900)))=!(an (M rs=M gs)&&(an (M d=M gs)&&(inB t 0 1000000&&inB n 1 999900))):=by
   rw [neN,neN,Bool.not_and,Bool.not_and,Bool.not_and]
  rw [e0,e1]
  have bad:HI cs os ks gs bs l rs d t n=X->LV.v (.bool X)=LV.v (.bool<|HI cs os ks gs bs l rs d t n):=λh=>RG
  refine ⟨λc=>bad (by unfold HI;rw [ntW c];rfl),λc=>⟨λc2=>bad (by unfold HI;rw [ntW c2,NH,OJ]),λc2=>?_⟩⟩
  have c:=nfW c
  have c2:=nfW c2
  have c':=c
  have c2':=c2
  simp only [AP,AT] at c' c2'
  have hl:=Eh c'.2
  have hg:=(Ci.1 c'.1).1.2.2.2.2.1
  have hE:Zl ⟨cs,os,ks,gs,bs,l,d,t,od,rs,X,(M gs:Y),l,(M l:Y),0⟩:=⟨rfl,AR,AR,rfl⟩
  have ev:HI cs os ks gs bs l rs d t n=(below (M gs) l&&Ck (M gs) (λj=>Lt (AF gs j) (Bb rs j)&&Ft (DC d j))):=by
   unfold HI;rw [c,c2,DP,DP]
  refine ⟨⟨hE,rfl,rfl⟩,?_⟩;obtain ⟨_,_,hq⟩:=amK _ hE
  have eb:below (M gs) l=Ck (M l) (λj=>an<|(AU l j).2.1<(M gs:Y)):=by
   rw [Gn,D3];exact (NS (d:=(0,0,0,0,0)) (p:=λx:Le=>an<|x.2.1<(M gs:Y))).symm
  rcases hq with ⟨q1,q2⟩ |⟨q1,q2,j,q3,q4⟩<;>rw [q1]
  rotate_left
  ·rw [q2]
   exact ⟨λ_=>bad (by rw [ev,eb,MP (f:=λj=>an<|(AU l j).2.1<(M gs:Y)) j q3 q4];rfl),λh=>Ai⟩
  refine ⟨λh=>Ai,λ_=>?_⟩
  have g0:below (M gs) l=true:=by rw [eb];exact D3.2 q2
  have hE2:Zk ⟨cs,os,ks,gs,bs,l,d,t,od,rs,(vv ⟨cs,os,ks,gs,bs,l,d,t,od,rs,X,(M gs:Y),l,(M l:Y),0⟩).r,gs,(M gs:Y),0⟩:=⟨rfl,AR,AR,rfl,c2'.1,c2'.2.1⟩
  refine ⟨⟨hE2,rfl,rfl⟩,?_⟩;obtain ⟨_,_,hq⟩:=amJ _ hE2;rcases hq with ⟨q5,q6⟩ |⟨q5,q6,j,q7,q8⟩<;>rw [q5]
  ·exact ⟨λh=>Ai,λ_=>by rw [ev,g0,(D3 (f:=λj=>Lt (AF gs j) (Bb rs j)&&Ft (DC d j))).2 q6];rfl⟩
  ·rw [q6]
   exact ⟨λ_=>bad<|by rw [ev,MP (f:=λj=>Lt (AF gs j) (Bb rs j)&&Ft (DC d j)) j q7 q8,OJ],λh=>Ai⟩
 ·cases h)
structure KI where
 n:Y
 r:aM
 l:aB
 (m k:Y)
 seen:bh
def yt:=bN f203 0
def YG (s:KI):T (Rd KI):=letI a:=gi s.l s.k;letI b:=M s.seen;letI c:=s.seen.set a.toNat U;.br (an<|s.k<s.m) (.ix s.k (M s.l)<|.br (an<|a<0) (.rl s.seen<|.so (.ret) {s with r:=X})<|.br (an<|a>=s.n) (.rl s.seen<|.so (.ret) {s with r:=X})<|.ik a b<|.br (s.seen.getD a.toNat<|Ty.dflt .bool) (.rl s.seen<|.so (.ret) {s with r:=X})<|.ik a b<|.re b c<|.nx {s with k:=AA<|s.k+1,seen:=c})<|.rl s.seen<|.so (.exit 0) s
def Ms (s:KI) (j:Y):aM:=N0 s.n (gi s.l j)&&!(((s.l.take j.toNat).map id).contains<|id<|gi s.l j)
def uk (s:KI):Prop:=s.k=0/\s.seen=aq (M s.seen) X/\s.m=(M s.l:Y)/\s.m<=1000/\s.n=(M s.seen:Y)
def Tv (s:KI):Prop:=(0<=s.k/\s.k<=s.m)/\(∀j:aC,j<M s.seen->s.seen.getD j X=(s.l.take s.k.toNat).contains (j:Y))/\(∀j:aC,(j:Y)<s.k->Ms s j=U)/\s.m=(M s.l:Y)/\s.m<=1000/\s.n=(M s.seen:Y)
def jl (s:KI):aC:=(s.m-s.k).toNat
def ZI (x:Ex) (s s':KI):Prop:=(x=.exit 0/\∀j:aC,(j:Y)<s'.m->Ms s' j=U)\/(x=.ret/\s'.r=X/\∃j:aC,(j:Y)<s'.m/\Ms s' j=X)
def axr:∀s,uk s->Tv s:=by
 rintro s ⟨h0,h1,h2,h3,h4⟩
 refine ⟨A0,λj hj=>?_,λj hj=>A0,h2,h3,h4⟩
 rw [h1,h0]
 grind
def aqk:Da Tv jl ZI YG:=by
 intro s hI;unfold YG;obtain ⟨⟨h0,h1⟩,h2,h3,h4,h5,h6⟩:=hI;refine allR_ite (λc1=>?_) λc1=>?_
 rotate_left
 ·have c1:s.m<=s.k:=AQ
  exact .inl ⟨rfl,λj hj=>h3 j A0⟩
 have c1:s.k<s.m:=AQ
 have bad:Ms s s.k=X->ZI .ret s {s with r:=X}:=λhg=> .inr ⟨rfl,rfl,s.k.toNat,AR,by rw [C2 h0];exact hg⟩
 refine allR_ite (λc2=>bad ?_) λc2=>allR_ite (λc3=>bad ?_) λc3=>allR_ite (λc4=>bad ?_) λc4=>?_
 ·unfold Ms N0
  simp only [AT] at c2;rw [GU A0];rfl
 ·unfold Ms N0
  simp only [AT] at c3;rw [GU (p:=gi s.l s.k<s.n) A0,OJ];rfl
 all_goals
  have c2:0<=gi s.l s.k:=DQ
  have c3:gi s.l s.k<s.n:=M9
  have e:=h2 (gi s.l s.k).toNat A0
  rw [C2 c2] at e
 ·have c4:s.seen.getD (gi s.l s.k).toNat X=true:=c4
  unfold Ms;rw [Qs,id,<-e,c4]
  simp
 ·have c4:s.seen.getD (gi s.l s.k).toNat X=false:=c4
  have hg:Ms s s.k=true:=by
   unfold Ms;rw [Qs,id,<-e,c4,gF.2 ⟨c2,c3⟩];rfl
  rw [AH (x:=s.k+1)];refine ⟨⟨⟨AR,AR⟩,λj hj=>?_,λj hj=>?_,h4,h5,A8⟩,by simp only [jl];omega⟩
  ·simp only [Bf] at hj
   simp only;rw [(gi_step h0 (show s.k<M s.l by omega)).2,List.contains_append,<-h2 j hj]
   by_cases hj2:(gi s.l s.k).toNat=j
   ·subst hj2
    rw [C2 c2]
    simp [List.getD,hj]
   ·have:¬(j:Y)=gi s.l s.k:=A0
    grind
  ·by_cases hji:(j:Y)<s.k
   ·exact h3 j hji
   ·have:(j:Y)=s.k:=dZ
    rw [this];exact hg
def Q0:LpD KI:=⟨0,37,[1,4,5,14,15,16],[],λs=>[s.n,s.r,.os 0 1 0<|M s.seen,.xl A7 s.l,s.m,s.k],λs=>[bV 4 .bool s.seen],λv b=>⟨AJ v 0,DE v 1,As A7 v 3,AJ v 4,AJ v 5,gVe .bool<|gBk b 0⟩,YG,λs r=> {r with n:=s.n,l:=s.l,m:=s.m},λs=>s,λ_ s=>s,[.ret,.exit 0],uk,Tv,jl⟩
abbrev ze:=Q0.run
abbrev aA0:=Q0.exn
def ap3:Rq Tv YG:=by
 intro s hI;refine ⟨λc1=>⟨?_,λc2=>⟨A9,ak⟩,λc2=>⟨λc3=>⟨A9,ak⟩,λc3=>⟨?_,?_,λc4=>⟨A9,ak⟩,λc4=>⟨?_,?_,?_,ak⟩⟩⟩⟩,λc1=>⟨A9,ak⟩⟩
 iterate 5 · (obtain ⟨⟨h0,h1⟩,h2,h3,h4,h5,h6⟩:=hI;simp only [AT,CX] at*;omega)
 ·grind
def ad7:aN:=[]
def aEU:Q0.Ok:={}
def aDT:Q0.Pf (ZI):=⟨axr,λs h=>rfl,aqk,ap3⟩
def ajN:SA 0 yt Q0:=s1 aEU aDT ad7 kN
def alC:Fi uk Tv ZI aA0 ze:=LpD.fin aEU aDT
def aAd:aD->T LV
 | [.xl (.int J) l,.v (ag J n)]=> .req (n<=1000) (.ok<|FE l n)
 |_=> .no
def X6:=vm (S:=aAd) func203 ad7 kN (L:=(λi=>if i=5 then Q0.lp else noLoops i)) (λb hb=>by
 rw [show loopsIn _=[yt] by kernel_rfl] at hb
 simp only [Au,BX,BV] at hb;subst hb;exact ajN) (λargs lv h=>by
 unfold aAd at h;split at h
 ·rename_i l n
  refine Al (letI a:=aq n.toNat X;letI b:=(M l:Y);.br (b !=n) (.ok X)<|.rm 1 n<|.re n.toNat a<|.req (Q0.q (⟨n,X,l,b,0,a⟩:KI))<|.br (isEx (aA0 (⟨n,X,l,b,0,a⟩:KI))<|.ret) (.ok (ze (⟨n,X,l,b,0,a⟩:KI)).r)<|.ok U) ?_;obtain ⟨hl,rfl⟩:=h;refine ⟨λc=>An (λz=>LV.v<|.bool z) ?_,λc=>?_⟩
  ·have c:¬(M l:Y)=n:=A8
   unfold FE;rw [GU c];rfl
  ·have c:(M l:Y)=n:=A8
   unfold FE;rw [CB c,DP];refine ⟨A0,⟨rfl,AG⟩,JE ⟨⟨rfl,AG,rfl,A8,A8⟩,rfl,rfl⟩ λhE=>?_⟩
   obtain ⟨s',_,hq⟩:=alC _ hE.1;rcases hq with ⟨q1,q2⟩ |⟨q1,q2,j,q3,q4⟩
   ·rw [q1]
    have hk:=(RZ (d:=(0:Y)) (p:=N0 n) (k:=id)).1 q2
    rw [Qs] at hk;rw [hk];exact ⟨λh=>Ai,λ_=>rfl⟩
   ·rw [q1,q2]
    refine ⟨λ_=>An (λz=>LV.v<|.bool z) ?_,λh=>Ai⟩
    rw [OU,GS];intro hx
    have:=(RZ (d:=(0:Y)) (p:=N0 n) (k:=id)).2 Ed j q3
    exact Bool.noConfusion<|this.symm.trans q4
 ·cases h)
structure H6 where
 r:aM
 l:aB
 (n i:Y)
 BJ:aJ
 FB:aF
 F7:aP
 F8:aG
 FC:aQ
def oM (s:H6):T (Rd H6):=
 .br (an<|s.i<s.n) (.ix s.i (M s.l)<|.br (!((an<|(gi s.l s.i)>=0)&&(an<|(gi s.l s.i)<=80))) (.so (.ret) {s with r:=X})<|.nx {s with i:=AA<|s.i+1}) (.so (.exit 0) s)
def Sc (s:H6) (j:Y):aM:=GF<|gi s.l j
def Zi (s:H6):Prop:=s.i=0/\0<=s.n/\s.n<=1000/\s.n=(M s.l:Y)
def TT (s:H6):Prop:=0<=s.i/\s.i<=s.n/\s.n<=1000/\(s.n=(M s.l:Y))/\∀j:aC,(j:Y)<s.i->Sc s j=U
def jr (s:H6):aC:=(s.n-s.i).toNat
def uB (x:Ex) (s s':H6):Prop:=(x=.exit 0/\∀j:aC,(j:Y)<s'.n->Sc s' j=U)\/(x=.ret/\s'.r=X/\∃j:aC,(j:Y)<s'.n/\Sc s' j=X)
def ax9:∀s,Zi s->TT s:=by
 exact I1
def atY:Da TT jr uB oM:=by
 intro s hI;obtain ⟨h0,h1,h2,h3,h4⟩:=hI;refine allR_ite (λc1=>allR_ite (λc2=>?_) λc2=>?_) λc1=>?_
 ·have c1:s.i<s.n:=AQ
  refine .inr ⟨rfl,rfl,s.i.toNat,A8,?_⟩
  have hg:Sc s s.i=false:=aIu
  exact hg
 ·have c1:s.i<s.n:=AQ
  have hg:Sc s s.i=true:=aIu
  rw [AH (x:=s.i+1)];refine ⟨⟨A8,A8,h2,h3,λj hj=>?_⟩,by simp only [jr];omega⟩
  exact Iv
 ·exact OW
def Sj:LpD H6:=⟨1,18,[1,4,7,8,9],[],λs=>[.fn 201 [],s.r,.xl A7 s.l,s.n,s.i],λs=>[⟨[s.BJ,s.FB,s.F7,s.F8,s.FC],28,.cl,X⟩],λv b=>⟨DE v 1,As A7 v 2,AJ v 3,AJ v 4,AE AX b 0 0,AE .str b 0 1,AE Ad b 0 2,AE AZ b 0 3,AE Ae b 0 4⟩,oM,λs r=> {s with r:=r.r,i:=r.i},λs=>s,λ_ s=>s,[.ret,.exit 0],Zi,TT,jr⟩
abbrev Ws:=Sj.run
abbrev Wu:=Sj.exn
def Nx:aN:=[SO,X6,X9,X7]
def ayG:Ap:=kI Nx<|l0 Nx
def ap8:Rq TT oM:=by
 exact OV
def aDr:Sj.Ok:={}
def aDY:Sj.Pf (uB):=⟨ax9,λs h=>rfl,atY,ap8⟩
def Rt:=s2 (b:=bN f202 0) aDr aDY Nx ayG
def am6:Fi Zi TT uB Wu Ws:=LpD.fin aDr aDY
def aB6 (s:H6) (hE:Zi s):(Wu s=.exit 0/\s.l.all GF=U)\/(Wu s=.ret/\(Ws s).r=X/\s.l.all GF=X):=by
 obtain ⟨s',hI,hq⟩:=am6 s hE;obtain ⟨h0,h1,h2,h3⟩:=hE
 have en:(Ws s).n=s.n:=rfl
 rcases hq with ⟨q1,q2⟩ |⟨q1,q2,j,q3,q4⟩
 ·refine .inl ⟨q1,(NS (d:=(0:Y))).1 λj hj=>?_⟩
  have:=q2 j A0
  exact this
 ·exact aHz
structure Dw where
 alive:aB
 i:Y
 rows:aX
 (rn ri:Y)
 l:aB
 (n k:Y)
 I5:aJ
 I8:aF
 I6:aP
 I4:aG
 IE:aQ
 Fj:aJ
 Fh:aF
 ED:aP
 Ar:aG
 Fk:aQ
 B0:aX
 (Az By Bx Bw Bv Bu Bt Bs Br Bq Bp Bn Bm Bl Bk Bj Bi sums levels:aB)
def yg:=lN (bN f204 0) 0
def FF (s:Dw):aI:=[s.By,s.Bx,s.Bw,s.Bv,s.Bu,s.Bt,s.Bs,s.Br,s.Bq,s.Bp,s.Bn,s.Bm,s.Bl,s.Bk,s.Bj,s.Bi]
def nsO (s:Dw) (l:aI):Dw:={s with By:=l.getD 0 [],Bx:=l.getD 1 [],Bw:=l.getD 2 [],Bv:=l.getD 3 [],Bu:=l.getD 4 [],Bt:=l.getD 5 [],Bs:=l.getD 6 [],Br:=l.getD 7 [],Bq:=l.getD 8 [],Bp:=l.getD 9 [],Bn:=l.getD 10 [],Bm:=l.getD 11 [],Bl:=l.getD 12 [],Bk:=l.getD 13 [],Bj:=l.getD 14 [],Bi:=l.getD 15 []}
def ns (s:Dw) (j:aC):Dw:={nsO s ((FF s).modify j (·++[s.i])) with k:=AA<|s.k+1,sums:=s.sums.set s.i.toNat<|AA<|s.sums.getD s.i.toNat 0+gi s.alive (j:Y)}
def rO {α:Type}(x:aB):aI->aC->T α->T α
 | [],_,t=>t
 |o::l,0,t=> .re (M o+M x) (o++x) (rO x l 1000 t)
 |o::l,j+1,t=> .rl o<|rO x l j t
def T6 {σ:Type}{s:σ}{x:aB}{t:T<|Rd σ}:∀l j,(rO x l j t).rd s=t.rd s
 | [],_=>rfl
 |_::l,0=>T6 l 1000
 |_::l,j+1=>T6 l j
def XP {α:Type}{K:α->Prop}{x:aB}{t:T α}(h:t.all K):∀l j,(rO x l j t).all K
 | [],_=>h
 |_::l,0=>⟨⟨rfl,AG⟩,XP h l 1000⟩
 |_::l,j+1=>⟨⟨rfl,rfl⟩,XP h l j⟩
def af4 {α:Type}{K:α->Prop}{f:aC->T α}{n:Y}:∀m j:aC,(j:Y)<=n->n<j+m->(∀i:aC,n=i->(f i).all K)->(splitN f n m j).all K
 |0,_,_,_,_=>A0
 |1,j,_,_,h=>h j A0
 |m+2,j,_,_,h=>⟨λc=>h j<|eq_of_beq c,λc=>af4 (m+1) (j+1) A8 A0 h⟩
def wg {σ:Type}{A:σ->Prop}{B:Ex->σ->Prop}{s:σ}{f:aC->T (Rd σ)}{n:Y}:∀m j:aC,(j:Y)<=n->n<j+m->(∀i:aC,n=i->allR A B ((f i).rd s))->allR A B ((splitN f n m j).rd s)
 |0,_,_,_,_=>A0
 |1,j,_,_,h=>h j A0
 |m+2,j,_,_,h=>allR_ite (λc=>h j<|eq_of_beq c) λc=>wg (m+1) (j+1) A8 A0 h
def awT (s:Dw) {l:aI}(h:M l=16):FF (nsO s l)=l:=by
 show (au 16).map (λi=>l.getD i [])=l
 refine VQ (by simp [h]) λi h1 h2=>?_
 grind
def nU (s:Dw):T (Rd Dw):=letI a:=M s.sums;.br (an<|s.k<s.n) (.ix s.k (M s.l)<|.req (0<=(gi s.l s.k)/\(gi s.l s.k)<(16:Y))<|splitN (λj=> .rb (M<|(FF s).getD j []) (M<|[s.i]) 8<|.ix s.i a<|.ix (j:Y) (M s.alive)<|.req (s.i.toNat<M s.sums)<|.ik s.i a<|rO [s.i] (FF s) j<|.re a (ns s j).sums<|.rl s.levels<|.nx<|ns s j) (gi s.l s.k) 16 0)<|rO [] (FF s) 1000<|.rl s.sums<|.rl s.levels<|.so (.exit 2) s
def Uz (s:Dw):Prop:=s.k=0/\(∀o∈FF s,(M o:Y)<=1000000)/\(0<=gi s.sums s.i/\gi s.sums s.i<=1000)/\s.n=(M s.l:Y)/\s.n<=1000/\(∀m∈s.l,0<=m/\m<16/\m<(M s.alive:Y))/\(∀a∈s.alive,0<=a/\a<=80)/\(0<=s.i/\s.i<(M s.sums:Y))
def Nd (s:Dw):Prop:=(0<=s.k/\s.k<=s.n)/\(∀o∈FF s,(M o:Y)<=1000000+s.k)/\(0<=gi s.sums s.i/\gi s.sums s.i<=1000+80*s.k)/\s.n=(M s.l:Y)/\s.n<=1000/\(∀m∈s.l,0<=m/\m<16/\m<(M s.alive:Y))/\(∀a∈s.alive,0<=a/\a<=80)/\(0<=s.i/\s.i<(M s.sums:Y))
def XC (s:Dw):aC:=(s.n-s.k).toNat
def adk (x:Ex) (s s':Dw):Prop:=x=.exit 2/\s'.k=s'.n
def awS:∀s,Uz s->Nd s:=by
 rintro s ⟨h0,h1,h2,h3⟩
 exact ⟨A0,λo ho=>A8,A0,h3⟩
def iK (s:Dw) (hI:Nd s) (c1:s.k<s.n):0<=gi s.l s.k/\gi s.l s.k<16/\gi s.l s.k<(M s.alive:Y):=by
 obtain ⟨⟨h0,h1⟩,h2,h3,h4,h5,h6,h7,h8⟩:=hI;exact h6 _ aJk
abbrev Z3 (s:Dw):=(JH s.i (FF s)<|s.l.drop s.k.toNat,s.sums.set s.i.toNat<|s.sums.getD s.i.toNat 0+smA s.alive (s.l.drop s.k.toNat))
def aEk (s:Dw) (j:aC) (hI:Nd s) (c1:s.k<s.n) (em:gi s.l s.k=(j:Y)):(Nd (ns s j)/\XC (ns s j)<XC s)/\Z3 (ns s j)=Z3 s:=by
 generalize e:ns s j=s'
 have hO:FF s'=(FF s).modify j (·++[s.i]):=by rw [<-e];exact awT s (by rw [cK];rfl)
 have hs:s'.sums=s.sums.set s.i.toNat (AA<|s.sums.getD s.i.toNat 0+gi s.alive (j:Y)):=RB
 have hk:s'.k=AA (s.k+1):=RB
 have hn:s'.n=s.n:=RB
 have hl:s'.l=s.l:=RB
 have ha:s'.alive=s.alive:=RB
 have hi:s'.i=s.i:=RB
 have hm:=iK s hI c1
 obtain ⟨⟨h0,h1⟩,h2,⟨h3,h3'⟩,h4,h5,h6,h7,h8⟩:=hI;rw [AH (x:=s.k+1)] at hk
 have hav:=h7 (gi s.alive (j:Y)) aJk
 have hgi:gi s.sums s.i=s.sums.getD s.i.toNat 0:=rfl
 rw [AH (x:=s.sums.getD s.i.toNat 0+gi s.alive (j:Y))] at hs
 have hs2:gi s'.sums s'.i=s.sums.getD s.i.toNat 0+gi s.alive (j:Y):=by
  rw [hi,hs]
  show List.getD _ _ _=_
  grind
 refine ⟨⟨⟨⟨A0,A0⟩,λo ho=>?_,⟨by rw [hs2];omega,by rw [hs2];omega⟩,by rw [hn,hl];exact h4,A0,by rw [hl,ha];exact h6,by rw [ha];exact h7,⟨by rw [hi];omega,by rw [hi,hs,Bf];omega⟩⟩,by simp only [XC];omega⟩,?_⟩
 ·rw [hO] at ho
  obtain ⟨k,hk2,rfl⟩:=G4.1 ho;rw [cK] at hk2
  have:=h2 (FF s)[k]<|Ee _
  rw [List.getElem_modify];split
  ·grind
  ·omega
 ·unfold Z3
  rw [hO,hs,hl,ha,hi,hk,(gi_step h0 (show s.k<M s.l by omega)).1,ft,xR,em,BW,afI A0]
def aEl:Da Nd XC adk nU:=by
 intro s hI;refine allR_ite (λc1=>?_) λc1=>?_
 ·have hm:=iK s hI A8
  refine wg 16 0 A0 A0 λi em=>?_
  show allR _ _ ((rO _ _ i _).rd s)
  rw [T6];exact (aEk s i hI A8 em).1
 ·have c1:s.n<=s.k:=A8
  have h0:=hI.1
  exact Qv
def Q9:LpD Dw:=⟨1,67,[2,7,8,23,24,25,31,32,33],[.ns 7 6 3 A7,.ns 7 7 3 A7,.ns 7 8 3 A7,.ns 7 9 3 A7,.ns 7 10 3 A7,.ns 7 11 3 A7,.ns 7 12 3 A7,.ns 7 13 3 A7,.ns 7 14 3 A7,.ns 7 15 3 A7,.ns 7 16 3 A7,.ns 7 17 3 A7,.ns 7 18 3 A7,.ns 7 19 3 A7,.ns 7 20 3 A7,.ns 7 21 3 A7],λs=>[.xl A7 s.alive,.own 1 0,s.i,.xl Dg s.rows,s.rn,s.ri,.xl A7 s.l,s.n,s.k],λs=>[⟨[s.I5,s.I8,s.I6,s.I4,s.IE],28,.cl,X⟩,⟨[s.Fj,s.Fh,s.ED,s.Ar,s.Fk,.xl Dg s.B0,.os 2 1 0<|M s.By,.os 3 1 0<|M s.Bx,.os 4 1 0<|M s.Bw,.os 5 1 0<|M s.Bv,.os 6 1 0<|M s.Bu,.os 7 1 0<|M s.Bt,.os 8 1 0<|M s.Bs,.os 9 1 0<|M s.Br,.os 10 1 0<|M s.Bq,.os 11 1 0<|M s.Bp,.os 12 1 0<|M s.Bn,.os 13 1 0<|M s.Bm,.os 14 1 0<|M s.Bl,.os 15 1 0<|M s.Bk,.os 16 1 0<|M s.Bj,.os 17 1 0<|M s.Bi,.os 18 1 0<|M s.sums,.xl A7 s.Az,.os 19 1 0<|M s.levels],343,.cl,X⟩,bV 3 A7 s.By,bV 3 A7 s.Bx,bV 3 A7 s.Bw,bV 3 A7 s.Bv,bV 3 A7 s.Bu,bV 3 A7 s.Bt,bV 3 A7 s.Bs,bV 3 A7 s.Br,bV 3 A7 s.Bq,bV 3 A7 s.Bp,bV 3 A7 s.Bn,bV 3 A7 s.Bm,bV 3 A7 s.Bl,bV 3 A7 s.Bk,bV 3 A7 s.Bj,bV 3 A7 s.Bi,bV 3 A7 s.sums,bV 3 A7 s.levels],λv b=>⟨As A7 v 0,AJ v 2,As Dg v 3,AJ v 4,AJ v 5,As A7 v 6,AJ v 7,AJ v 8,AE AX b 0 0,AE .str b 0 1,AE Ad b 0 2,AE AZ b 0 3,AE Ae b 0 4,AE AX b 1 0,AE .str b 1 1,AE Ad b 1 2,AE AZ b 1 3,AE Ae b 1 4,AE Dg b 1 5,AE A7 b 1 23,AV A7 b 2,AV A7 b 3,AV A7 b 4,AV A7 b 5,AV A7 b 6,AV A7 b 7,AV A7 b 8,AV A7 b 9,AV A7 b 10,AV A7 b 11,AV A7 b 12,AV A7 b 13,AV A7 b 14,AV A7 b 15,AV A7 b 16,AV A7 b 17,AV A7 b 18,AV A7 b 19⟩,nU,λs r=> {s with k:=r.k,By:=r.By,Bx:=r.Bx,Bw:=r.Bw,Bv:=r.Bv,Bu:=r.Bu,Bt:=r.Bt,Bs:=r.Bs,Br:=r.Br,Bq:=r.Bq,Bp:=r.Bp,Bn:=r.Bn,Bm:=r.Bm,Bl:=r.Bl,Bk:=r.Bk,Bj:=r.Bj,Bi:=r.Bi,sums:=r.sums},λs=>s,λ_ s=>s,[.exit 2],Uz,Nd,XC⟩
abbrev F9:=Q9.run
def pL:Ap:=kI Nx<|la 2 func202 Rt<|l0 Nx
def aon:Rq Nd nU:=by
 intro s hI;refine ⟨λc1=>?_,λ_=>XP (by exact ⟨A9,A9,ak⟩) _ _⟩
 have hm:=iK s hI A8
 simp only [AT] at c1;obtain ⟨⟨h0,h1⟩,h2,h3,h4,h5,h6,h7,h8,h9⟩:=id hI;refine ⟨⟨A0,A0⟩,⟨A0,A0⟩,af4 16 0 A0 A0 λi em=>?_⟩
 refine ⟨⟨A0,?_⟩,⟨A0,A0⟩,⟨A0,A0⟩,A0,⟨A0,A0⟩,A0,XP ?_ _ _⟩
 ·grind
 ·exact ⟨⟨rfl,(Bf ..).symm⟩,A9,ak⟩
def jG:Q9.Ok:={}
def jP:Q9.Pf (adk):=⟨awS,λs h=>rfl,aEl,aon⟩
def aj0:SA 1 yg Q9:=s2 jG jP Nx pL
def agW (s:Dw) (hE:Uz s):(λs:Dw=>(JH s.i (FF s)<|s.l.drop s.k.toNat,s.sums.set s.i.toNat<|s.sums.getD s.i.toNat 0+smA s.alive (s.l.drop s.k.toNat))) (F9 s)=(λs:Dw=>(JH s.i (FF s)<|s.l.drop s.k.toNat,s.sums.set s.i.toNat<|s.sums.getD s.i.toNat 0+smA s.alive (s.l.drop s.k.toNat))) s:=by
 exact LpD.keepV jG jP Z3 (λs hI=>by
  refine allR_ite (λc1=>?_) λc1=>?_
  ·have hm:=iK s hI A8
   refine wg 16 0 A0 A0 λi em=>?_
   show allR _ _ ((rO _ _ i _).rd s)
   rw [T6];exact (aEk s i hI A8 em).2
  ·rw [T6]
   exact rfl) s hE
def akP (s:Dw) (hE:Uz s):FF (F9 s)=JH s.i (FF s) s.l/\(F9 s).sums=s.sums.set s.i.toNat (s.sums.getD s.i.toNat 0+smA s.alive s.l):=by
 have q3:=agW s hE
 obtain ⟨hI2,hf⟩:=LpD.inv jG jP (λs=>AO) s hE
 have hI2:Nd (F9 s):=hI2
 have hq:=allR_stop (aEl _ hI2) hf
 have q2:(F9 s).k=(F9 s).n:=hq.2
 obtain ⟨h0,h1,h2,h3,h4,h5,h6,h7⟩:=hE;obtain ⟨g0,g1,g2,g3,g4,g5,g6,g7⟩:=hI2
 have el:(F9 s).l=s.l:=rfl
 have en:(F9 s).n=s.n:=rfl
 have ei:(F9 s).i=s.i:=rfl
 have ea:(F9 s).alive=s.alive:=rfl
 simp only at q3;rw [q2,en,el,ei,ea,Dj A0,h0,show (0:Y).toNat=0 from rfl,C0] at q3
 have e1:=An Prod.fst q3
 have e2:=An Prod.snd q3
 simp only at e1 e2;refine ⟨e1,?_⟩;rw [<-e2];exact (ag7 (by rw [ei] at g7;omega)).symm
structure DK where
 alive:aB
 rows:aX
 (rn ri:Y)
 I5:aJ
 I8:aF
 I6:aP
 I4:aG
 IE:aQ
 Fj:aJ
 Fh:aF
 ED:aP
 Ar:aG
 Fk:aQ
 B0:aX
 (Az By Bx Bw Bv Bu Bt Bs Br Bq Bp Bn Bm Bl Bk Bj Bi sums levels:aB)
def yf:=bN f204 0
def Jk (s:DK):Dw:=(⟨s.alive,s.ri,s.rows,s.rn,s.ri,(CA s.rows s.ri).2,(M (CA s.rows s.ri).2:Y),0,s.I5,s.I8,s.I6,s.I4,s.IE,s.Fj,s.Fh,s.ED,s.Ar,s.Fk,s.B0,s.Az,s.By,s.Bx,s.Bw,s.Bv,s.Bu,s.Bt,s.Bs,s.Br,s.Bq,s.Bp,s.Bn,s.Bm,s.Bl,s.Bk,s.Bj,s.Bi,s.sums,s.levels⟩:Dw)
def nT (s:DK):T (Rd DK):=letI a:=F9<|Jk s;.br (an<|s.ri<s.rn) (.ix s.ri (M s.rows)<|.rl s.By<|.rl s.Bx<|.rl s.Bw<|.rl s.Bv<|.rl s.Bu<|.rl s.Bt<|.rl s.Bs<|.rl s.Br<|.rl s.Bq<|.rl s.Bp<|.rl s.Bn<|.rl s.Bm<|.rl s.Bl<|.rl s.Bk<|.rl s.Bj<|.rl s.Bi<|.rl s.sums<|.rl s.levels<|.req (Q9.q<|Jk s)<|.rl a.By<|.rl a.Bx<|.rl a.Bw<|.rl a.Bv<|.rl a.Bu<|.rl a.Bt<|.rl a.Bs<|.rl a.Br<|.rl a.Bq<|.rl a.Bp<|.rl a.Bn<|.rl a.Bm<|.rl a.Bl<|.rl a.Bk<|.rl a.Bj<|.rl a.Bi<|.rl a.sums<|.rl s.levels<|.nx {s with ri:=AA<|s.ri+1,By:=a.By,Bx:=a.Bx,Bw:=a.Bw,Bv:=a.Bv,Bu:=a.Bu,Bt:=a.Bt,Bs:=a.Bs,Br:=a.Br,Bq:=a.Bq,Bp:=a.Bp,Bn:=a.Bn,Bm:=a.Bm,Bl:=a.Bl,Bk:=a.Bk,Bj:=a.Bj,Bi:=a.Bi,sums:=a.sums})<|.rl s.By<|.rl s.Bx<|.rl s.Bw<|.rl s.Bv<|.rl s.Bu<|.rl s.Bt<|.rl s.Bs<|.rl s.Br<|.rl s.Bq<|.rl s.Bp<|.rl s.Bn<|.rl s.Bm<|.rl s.Bl<|.rl s.Bk<|.rl s.Bj<|.rl s.Bi<|.rl s.sums<|.rl s.levels<|.so (.exit 0) s
def EK (s:DK):aI:=[s.By,s.Bx,s.Bw,s.Bv,s.Bu,s.Bt,s.Bs,s.Br,s.Bq,s.Bp,s.Bn,s.Bm,s.Bl,s.Bk,s.Bj,s.Bi]
def Sm (s:DK):Prop:=s.ri=0/\(∀o∈EK s,o=[])/\s.sums=aq (M s.rows) 0/\s.rn=(M s.rows:Y)/\s.rn<=1000/\(∀r∈s.rows,(M r.2:Y)<=1000/\∀m∈r.2,0<=m/\m<16/\m<(M s.alive:Y))/\(∀a∈s.alive,0<=a/\a<=80)/\M s.sums=M s.rows
def KA (s:DK):Prop:=(0<=s.ri/\s.ri<=s.rn)/\(∀o∈EK s,(M o:Y)<=1000*s.ri)/\(∀k:aC,s.ri<=(k:Y)->s.sums.getD k 0=0)/\s.rn=(M s.rows:Y)/\s.rn<=1000/\(∀r∈s.rows,(M r.2:Y)<=1000/\∀m∈r.2,0<=m/\m<16/\m<(M s.alive:Y))/\(∀a∈s.alive,0<=a/\a<=80)/\M s.sums=M s.rows
def P6 (s:DK):aC:=(s.rn-s.ri).toNat
def ZH (x:Ex) (s s':DK):Prop:=x=.exit 0/\s'.ri=s'.rn
def awR:∀s,Sm s->KA s:=by
 rintro s ⟨h0,h1,h2,h3⟩
 refine ⟨A0,λo ho=>A8,λk _=>?_,h3⟩
 grind
def aDm (s:DK) (hI:KA s) (c1:s.ri<s.rn):Uz (Jk s):=by
 obtain ⟨⟨h0,h1⟩,h2,h3,h4,h5,h6,h7,h8⟩:=hI
 have hr:=h6 (CA s.rows s.ri) sZ
 refine ⟨rfl,λo ho=>?_,?_,rfl,hr.1,hr.2,h7,h0,?_⟩
 ·have:=h2 o ho
  omega
 ·have:=h3 s.ri.toNat A0
  show 0<=s.sums.getD s.ri.toNat 0/\s.sums.getD s.ri.toNat 0<=1000
  omega
 ·show s.ri<(M s.sums:Y)
  omega
def aDl (s s':DK) (hI:KA s) (c1:s.ri<s.rn) (hO:EK s'=FF (F9<|Jk s)) (hs:s'.sums=(F9<|Jk s).sums) (hk:s'.ri=AA (s.ri+1)) (hn:s'.rn=s.rn) (hl:s'.rows=s.rows) (ha:s'.alive=s.alive):
  (KA s'/\P6 s'<P6 s)/\(λs:DK=>(Fg (EK s) s.ri<|s.rows.drop s.ri.toNat,Ff s.alive s.sums s.ri<|s.rows.drop s.ri.toNat)) s'=(λs:DK=>(Fg (EK s) s.ri<|s.rows.drop s.ri.toNat,Ff s.alive s.sums s.ri<|s.rows.drop s.ri.toNat)) s:=by
 obtain ⟨r1,r2⟩:=akP _<|aDm s hI c1;obtain ⟨⟨h0,h1⟩,h2,h3,h4,h5,h6,h7,h8⟩:=hI
 have hr:=h6 (CA s.rows s.ri) sZ
 rw [AH (x:=s.ri+1)] at hk
 have r1:FF (F9<|Jk s)=JH s.ri (EK s) (CA s.rows s.ri).2:=r1
 have r2:(F9<|Jk s).sums=s.sums.set s.ri.toNat (s.sums.getD s.ri.toNat 0+smA s.alive (CA s.rows s.ri).2):=r2
 refine ⟨⟨⟨⟨A0,A0⟩,λo ho=>?_,λk hk2=>?_,A8,A0,by rw [hl,ha];exact h6,by rw [ha];exact h7,A8⟩,by simp only [P6];omega⟩,?_⟩
 ·rw [hO,r1] at ho
  have:=zL h2 o ho
  have:=hr.1
  rw [hk];omega
 ·rw [hs,r2]
  have:=h3 k A0
  simp only [List.getD] at this|-;rw [VG A0];exact this
 ·simp only
  rw [hO,hs,hl,ha,r1,r2,hk,(agi h0 (show s.ri<M s.rows by omega)).1]
  rfl
def akN (s s':DK) (hI:KA s) (c1:s.ri<s.rn) (hO:EK s'=FF (F9<|Jk s)) (hs:s'.sums=(F9<|Jk s).sums) (hk:s'.ri=AA (s.ri+1)) (hn:s'.rn=s.rn) (hl:s'.rows=s.rows) (ha:s'.alive=s.alive):allR (λs'=>KA s'/\P6 s'<P6 s) (λx s'=>ZH x s s') (.next s'):=(aDl s s' hI c1 hO hs hk hn hl ha).1
def akM (s s':DK) (hI:KA s) (c1:s.ri<s.rn) (hO:EK s'=FF (F9<|Jk s)) (hs:s'.sums=(F9<|Jk s).sums) (hk:s'.ri=AA (s.ri+1)) (hn:s'.rn=s.rn) (hl:s'.rows=s.rows) (ha:s'.alive=s.alive):allR (λs'=>(λs:DK=>(Fg (EK s) s.ri<|s.rows.drop s.ri.toNat,Ff s.alive s.sums s.ri<|s.rows.drop s.ri.toNat)) s'=(λs:DK=>(Fg (EK s) s.ri<|s.rows.drop s.ri.toNat,Ff s.alive s.sums s.ri<|s.rows.drop s.ri.toNat)) s) (λ_ s'=>(λs:DK=>(Fg (EK s) s.ri<|s.rows.drop s.ri.toNat,Ff s.alive s.sums s.ri<|s.rows.drop s.ri.toNat)) s'=(λs:DK=>(Fg (EK s) s.ri<|s.rows.drop s.ri.toNat,Ff s.alive s.sums s.ri<|s.rows.drop s.ri.toNat)) s) (.next s'):=(aDl s s' hI c1 hO hs hk hn hl ha).2
def aq6:Da KA P6 ZH nT:=by
 intro s hI;refine allR_ite (λc1=>?_) λc1=>?_
 ·exact akN s _ hI A8 rfl rfl rfl rfl rfl rfl
 ·have c1:s.rn<=s.ri:=A8
  have h0:=hI.1
  exact Qv
def Mu:LpD DK:=⟨1,67,[2,7,23,24,25],[.ns 7 6 3 A7,.ns 7 7 3 A7,.ns 7 8 3 A7,.ns 7 9 3 A7,.ns 7 10 3 A7,.ns 7 11 3 A7,.ns 7 12 3 A7,.ns 7 13 3 A7,.ns 7 14 3 A7,.ns 7 15 3 A7,.ns 7 16 3 A7,.ns 7 17 3 A7,.ns 7 18 3 A7,.ns 7 19 3 A7,.ns 7 20 3 A7,.ns 7 21 3 A7],λs=>[.xl A7 s.alive,.own 1 0,.xl Dg s.rows,s.rn,s.ri],λs=>[⟨[s.I5,s.I8,s.I6,s.I4,s.IE],28,.cl,X⟩,⟨[s.Fj,s.Fh,s.ED,s.Ar,s.Fk,.xl Dg s.B0,.os 2 1 0<|M s.By,.os 3 1 0<|M s.Bx,.os 4 1 0<|M s.Bw,.os 5 1 0<|M s.Bv,.os 6 1 0<|M s.Bu,.os 7 1 0<|M s.Bt,.os 8 1 0<|M s.Bs,.os 9 1 0<|M s.Br,.os 10 1 0<|M s.Bq,.os 11 1 0<|M s.Bp,.os 12 1 0<|M s.Bn,.os 13 1 0<|M s.Bm,.os 14 1 0<|M s.Bl,.os 15 1 0<|M s.Bk,.os 16 1 0<|M s.Bj,.os 17 1 0<|M s.Bi,.os 18 1 0<|M s.sums,.xl A7 s.Az,.os 19 1 0<|M s.levels],343,.cl,X⟩,bV 3 A7 s.By,bV 3 A7 s.Bx,bV 3 A7 s.Bw,bV 3 A7 s.Bv,bV 3 A7 s.Bu,bV 3 A7 s.Bt,bV 3 A7 s.Bs,bV 3 A7 s.Br,bV 3 A7 s.Bq,bV 3 A7 s.Bp,bV 3 A7 s.Bn,bV 3 A7 s.Bm,bV 3 A7 s.Bl,bV 3 A7 s.Bk,bV 3 A7 s.Bj,bV 3 A7 s.Bi,bV 3 A7 s.sums,bV 3 A7 s.levels],λv b=>⟨As A7 v 0,As Dg v 2,AJ v 3,AJ v 4,AE AX b 0 0,AE .str b 0 1,AE Ad b 0 2,AE AZ b 0 3,AE Ae b 0 4,AE AX b 1 0,AE .str b 1 1,AE Ad b 1 2,AE AZ b 1 3,AE Ae b 1 4,AE Dg b 1 5,AE A7 b 1 23,AV A7 b 2,AV A7 b 3,AV A7 b 4,AV A7 b 5,AV A7 b 6,AV A7 b 7,AV A7 b 8,AV A7 b 9,AV A7 b 10,AV A7 b 11,AV A7 b 12,AV A7 b 13,AV A7 b 14,AV A7 b 15,AV A7 b 16,AV A7 b 17,AV A7 b 18,AV A7 b 19⟩,nT,λs r=> {s with ri:=r.ri,By:=r.By,Bx:=r.Bx,Bw:=r.Bw,Bv:=r.Bv,Bu:=r.Bu,Bt:=r.Bt,Bs:=r.Bs,Br:=r.Br,Bq:=r.Bq,Bp:=r.Bp,Bn:=r.Bn,Bm:=r.Bm,Bl:=r.Bl,Bk:=r.Bk,Bj:=r.Bj,Bi:=r.Bi,sums:=r.sums},λs=>s,λ_ s=>s,[.exit 0],Sm,KA,P6⟩
abbrev Gq:=Mu.run
abbrev akk:=Mu.exn
def aom:Rq KA nT:=by
 intro s hI;refine ⟨λc1=>⟨?_,A9,A9,A9,A9,A9,A9,A9,A9,A9,A9,A9,A9,A9,A9,A9,A9,A9,A9,?_,A9,A9,A9,A9,A9,A9,A9,A9,A9,A9,A9,A9,A9,A9,A9,A9,A9,A9,ak⟩,λc1=>⟨A9,A9,A9,A9,A9,A9,A9,A9,A9,A9,A9,A9,A9,A9,A9,A9,A9,A9,ak⟩⟩
 ·(obtain ⟨h0,h2,h3,h4,h5,h6,h7,h8⟩:=hI;simp only [AT] at c1;omega)
 ·exact ⟨aDm s hI A8,rfl,rfl⟩
def jF:Mu.Ok:={}
def jO:Mu.Pf (ZH):=⟨awR,λs h=>rfl,aq6,aom⟩
def Ww:SA 1 yf Mu:=LpD.snd jF jO (code_soundA (Γ:=Nx) (K:=pL) (L:=(byId (λi=>if i=6 then Q9.lp else noLoops i))) (gk Nx) pL.h yf (λb hb=>by
 rw [show loopsIn _=[yg] by kernel_rfl] at hb
 simp only [Au,BX,BV] at hb;subst hb;exact aj0)) λs=>AO
def akO:Fi Sm KA ZH akk Gq:=LpD.fin jF jO
def agO (s:DK) (hE:Sm s):(λs:DK=>(Fg (EK s) s.ri<|s.rows.drop s.ri.toNat,Ff s.alive s.sums s.ri<|s.rows.drop s.ri.toNat)) (Gq s)=(λs:DK=>(Fg (EK s) s.ri<|s.rows.drop s.ri.toNat,Ff s.alive s.sums s.ri<|s.rows.drop s.ri.toNat)) s:=by
 exact LpD.keepV jF jO (λs:DK=>(Fg (EK s) s.ri<|s.rows.drop s.ri.toNat,Ff s.alive s.sums s.ri<|s.rows.drop s.ri.toNat)) (λs hI=>by
  refine allR_ite (λc1=>?_) λc1=>?_
  ·exact akM s _ hI A8 rfl rfl rfl rfl rfl rfl
  ·rfl) s hE
def akL (s:DK) (hE:Sm s):EK (Gq s)=Fg (EK s) 0 s.rows/\(Gq s).sums=Ff s.alive s.sums 0 s.rows:=by
 have q3:=agO s hE
 obtain ⟨s',hI,q1,q2⟩:=akO s hE;obtain ⟨h0,h1,h2,h3,h4,h5⟩:=hE
 have el:(Gq s).rows=s.rows:=rfl
 have en:(Gq s).rn=s.rn:=rfl
 have ea:(Gq s).alive=s.alive:=rfl
 simp only at q3;rw [q2,en,el,ea,Dj A0,h0] at q3;exact ⟨An Prod.fst q3,An Prod.snd q3⟩
structure K6 where
 r:aM
 l:aB
 (n i:Y)
 I5:aJ
 I8:aF
 I6:aP
 I4:aG
 IE:aQ
 Fj:aJ
 Fh:aF
 ED:aP
 Ar:aG
 Fk:aQ
 B0:aX
 (By Bx Bw Bv Bu Bt Bs Br Bq Bp Bn Bm Bl Bk Bj Bi Az sums levels:aB)
 asv:bA
 (azW agx ayp ayq asr afW amP more:Y)
def Yj (s:K6):T (Rd K6):=letI a:=gi s.l s.i;.br (an<|s.i<s.n) (.ix s.i (M s.l)<|.ik a (M s.sums)<|.ix a (M s.B0)<|.br (!(an<|(AA<|(s.sums.getD a.toNat<|Ty.dflt A7)+s.more)<=(CA s.B0 a).1)) (.rl s.sums<|.rl s.levels<|.so (.ret) {s with r:=X})<|.rl s.sums<|.rl s.levels<|.nx {s with i:=AA<|s.i+1})<|.rl s.sums<|.rl s.levels<|.so (.exit 0) s
def Sd (s:K6) (j:Y):aM:=IQ s.B0 s.sums s.more<|gi s.l j
def V5 (s:K6):Prop:=s.i=0/\0<=s.n/\s.n<=1000/\s.n=(M s.l:Y)/\(∀r∈s.l,0<=r/\r<(M s.B0:Y))/\M s.sums=M s.B0/\(∀k:aC,0<=s.sums.getD k 0/\s.sums.getD k 0<=2000)/\(0<=s.more/\s.more<=10000)
def TU (s:K6):Prop:=0<=s.i/\s.i<=s.n/\s.n<=1000/\(s.n=(M s.l:Y)/\(∀r∈s.l,0<=r/\r<(M s.B0:Y))/\M s.sums=M s.B0/\(∀k:aC,0<=s.sums.getD k 0/\s.sums.getD k 0<=2000)/\(0<=s.more/\s.more<=10000))/\∀j:aC,(j:Y)<s.i->Sd s j=U
def jt (s:K6):aC:=(s.n-s.i).toNat
def uC (x:Ex) (s s':K6):Prop:=(x=.exit 0/\∀j:aC,(j:Y)<s'.n->Sd s' j=U)\/(x=.ret/\s'.r=X/\∃j:aC,(j:Y)<s'.n/\Sd s' j=X)
def axB:∀s,V5 s->TU s:=by
 exact I1
def atZ:Da TU jt uC Yj:=by
 intro s hI;unfold Yj;obtain ⟨h0,h1,h2,h3,h4⟩:=hI;refine allR_ite (λc1=>allR_ite (λc2=>?_) λc2=>?_) λc1=>?_
 ·have c1:s.i<s.n:=AQ
  refine .inr ⟨rfl,rfl,s.i.toNat,AR,?_⟩
  have hg:Sd s s.i=false:=aJ3
  exact hg
 ·have c1:s.i<s.n:=AQ
  have hg:Sd s s.i=true:=aJ3
  rw [AH (x:=s.i+1)];refine ⟨⟨AR,AR,h2,h3,λj hj=>?_⟩,by simp only [jt];omega⟩
  exact Iv
 ·exact OW
def UZ:LpD K6:=⟨7,18,[1,4,7,8,9],[],λs=>[.fn 226 [.own 4 0,.own 6 0],s.r,.xl A7 s.l,s.n,s.i],λs=>[⟨[s.I5,s.I8,s.I6,s.I4,s.IE],28,.cl,X⟩,⟨[s.Fj,s.Fh,s.ED,s.Ar,s.Fk,.xl Dg s.B0,.xl A7 s.By,.xl A7 s.Bx,.xl A7 s.Bw,.xl A7 s.Bv,.xl A7 s.Bu,.xl A7 s.Bt,.xl A7 s.Bs,.xl A7 s.Br,.xl A7 s.Bq,.xl A7 s.Bp,.xl A7 s.Bn,.xl A7 s.Bm,.xl A7 s.Bl,.xl A7 s.Bk,.xl A7 s.Bj,.xl A7 s.Bi,.os 2 1 0<|M s.sums,.xl A7 s.Az,.os 3 1 0<|M s.levels],343,.cl,X⟩,bV 3 A7 s.sums,bV 3 A7 s.levels,⟨[.own 1 0],339,.cl,X⟩,⟨[.v<|.string s.asv,s.azW,s.agx,s.ayp,s.ayq,s.asr,s.afW,s.amP],77,.cl,X⟩,⟨[s.more],3,.cl,X⟩],λv b=>⟨DE v 1,As A7 v 2,AJ v 3,AJ v 4,AE AX b 0 0,AE .str b 0 1,AE Ad b 0 2,AE AZ b 0 3,AE Ae b 0 4,AE AX b 1 0,AE .str b 1 1,AE Ad b 1 2,AE AZ b 1 3,AE Ae b 1 4,AE Dg b 1 5,AE A7 b 1 6,AE A7 b 1 7,AE A7 b 1 8,AE A7 b 1 9,AE A7 b 1 10,AE A7 b 1 11,AE A7 b 1 12,AE A7 b 1 13,AE A7 b 1 14,AE A7 b 1 15,AE A7 b 1 16,AE A7 b 1 17,AE A7 b 1 18,AE A7 b 1 19,AE A7 b 1 20,AE A7 b 1 21,AE A7 b 1 23,AV A7 b 2,AV A7 b 3,gSr<|gCe (gBk b 5) 0,Af b 5 1,Af b 5 2,Af b 5 3,Af b 5 4,Af b 5 5,Af b 5 6,Af b 5 7,Af b 6 0⟩,Yj,λs r=> {s with r:=r.r,i:=r.i},λs=>s,λ_ s=>s,[.ret,.exit 0],V5,TU,jt⟩
abbrev iG:=UZ.run
abbrev gn:=UZ.exn
def T1:aN:=[SO,X6,X9,X7]
def ayF:Ap:=kI T1<|la 3 func204 Ww<|la 2 func202 Rt<|l0 T1
def ap9:Rq TU Yj:=by
 intro s hI;refine ⟨λc1=>⟨?_,?_,?_,?_,λc2=>⟨A9,A9,ak⟩,λc2=>⟨A9,A9,ak⟩⟩,λc1=>⟨A9,A9,ak⟩⟩
 all_goals ((obtain ⟨h0,h1,h2,⟨e0,e1,e2,e3,e4⟩,h4⟩:=hI;simp only [AT] at c1;have hm:=e1 (gi s.l s.i)<|IG A0 A0;omega))
def aDs:UZ.Ok:={}
def aDZ:UZ.Pf (uC):=⟨axB,λs h=>rfl,atZ,ap9⟩
def hU:=s2 (b:=bN f202 0) aDs aDZ T1 ayF
def am7:Fi V5 TU uC gn iG:=LpD.fin aDs aDZ
def Wg (s:K6) (hE:V5 s):(gn s=.exit 0/\s.l.all (IQ s.B0 s.sums s.more)=U)\/(gn s=.ret/\(iG s).r=X/\s.l.all (IQ s.B0 s.sums s.more)=X):=by
 obtain ⟨s',hI,hq⟩:=am7 s hE;obtain ⟨h0,h1,h2,h3,_⟩:=hE
 have en:(iG s).n=s.n:=rfl
 rcases hq with ⟨q1,q2⟩ |⟨q1,q2,j,q3,q4⟩
 ·exact .inl ⟨q1,(NS (d:=(0:Y))).1 λj hj=>q2 j A0⟩
 ·exact aHz
structure Ht where
 (charger level:Y)
 l:aB
 (n i:Y)
 I5:aJ
 I8:aF
 I6:aP
 I4:aG
 IE:aQ
 Fj:aJ
 Fh:aF
 ED:aP
 Ar:aG
 Fk:aQ
 B0:aX
 (By Bx Bw Bv Bu Bt Bs Br Bq Bp Bn Bm Bl Bk Bj Bi Az sums levels:aB)
 more:Y
def v7 (s:Ht):T (Rd Ht):=letI b:=gi s.l s.i;letI c:=M s.sums;letI a:=s.sums.set b.toNat<|AA<|(s.sums.getD b.toNat<|Ty.dflt A7)+s.more;.br (an<|s.i<s.n) (.ix s.i (M s.l)<|.ik b c<|.ik b c<|.re c a<|.rl s.levels<|.nx {s with i:=AA<|s.i+1,sums:=a})<|.rl s.sums<|.rl s.levels<|.so (.exit 0) s
def Qj (s:Ht):Prop:=s.i=0/\(∀k:aC,0<=s.sums.getD k 0/\s.sums.getD k 0<=2000)/\s.n=(M s.l:Y)/\s.n<=1000/\(∀r∈s.l,0<=r/\r<(M s.sums:Y))/\(0<=s.more/\s.more<=10000)
def WM (s:Ht):Prop:=(0<=s.i/\s.i<=s.n)/\(∀k:aC,0<=s.sums.getD k 0/\s.sums.getD k 0<=2000+10000*s.i)/\s.n=(M s.l:Y)/\s.n<=1000/\(∀r∈s.l,0<=r/\r<(M s.sums:Y))/\(0<=s.more/\s.more<=10000)
def pU (s:Ht):aC:=(s.n-s.i).toNat
def vS (x:Ex) (s s':Ht):Prop:=x=.exit 0/\s'.i=s'.n
def azo:∀s,Qj s->WM s:=by
 rintro s ⟨h0,h1,h2,h3⟩
 exact ⟨A0,λk=>A8,h2,h3⟩
def avc:Da WM pU vS v7:=by
 intro s hI;obtain ⟨⟨h0,h1⟩,h2,h3,h4,h5,h6⟩:=hI;refine allR_ite (λc1=>?_) λc1=>?_
 ·have c1:s.i<s.n:=AQ
  have hb:=h2 (gi s.l s.i).toNat
  rw [AH (x:=s.i+1),AH (x:=s.sums.getD (gi s.l s.i).toNat (Ty.dflt A7)+s.more) aIv aIw];refine ⟨⟨⟨A8,A8⟩,λk=>?_,h3,h4,λr hr=>A8,h6⟩,by simp only [pU];omega⟩
  simp only
  have hk:=h2 k
  rw [Ow];split
  ·show 0<=s.sums.getD (gi s.l s.i).toNat 0+s.more/\s.sums.getD (gi s.l s.i).toNat 0+s.more<=_
   omega
  ·omega
 ·exact OY
def Qk:LpD Ht:=⟨4,90,[1,2,6,7,66,67,68],[],λs=>[s.charger,.own 4 0,s.level,.own 5 0,.xl A7 s.l,s.n,s.i],λs=>[⟨[s.I5,s.I8,s.I6,s.I4,s.IE],28,.cl,X⟩,⟨[s.Fj,s.Fh,s.ED,s.Ar,s.Fk,.xl Dg s.B0,.xl A7 s.By,.xl A7 s.Bx,.xl A7 s.Bw,.xl A7 s.Bv,.xl A7 s.Bu,.xl A7 s.Bt,.xl A7 s.Bs,.xl A7 s.Br,.xl A7 s.Bq,.xl A7 s.Bp,.xl A7 s.Bn,.xl A7 s.Bm,.xl A7 s.Bl,.xl A7 s.Bk,.xl A7 s.Bj,.xl A7 s.Bi,.os 2 1 0<|M s.sums,.xl A7 s.Az,.os 3 1 0<|M s.levels],343,.cl,X⟩,bV 3 A7 s.sums,bV 3 A7 s.levels,⟨[.own 1 0],339,.cl,X⟩,⟨[s.more],3,.cl,X⟩],λv b=>⟨AJ v 0,AJ v 2,As A7 v 4,AJ v 5,AJ v 6,AE AX b 0 0,AE .str b 0 1,AE Ad b 0 2,AE AZ b 0 3,AE Ae b 0 4,AE AX b 1 0,AE .str b 1 1,AE Ad b 1 2,AE AZ b 1 3,AE Ae b 1 4,AE Dg b 1 5,AE A7 b 1 6,AE A7 b 1 7,AE A7 b 1 8,AE A7 b 1 9,AE A7 b 1 10,AE A7 b 1 11,AE A7 b 1 12,AE A7 b 1 13,AE A7 b 1 14,AE A7 b 1 15,AE A7 b 1 16,AE A7 b 1 17,AE A7 b 1 18,AE A7 b 1 19,AE A7 b 1 20,AE A7 b 1 21,AE A7 b 1 23,AV A7 b 2,AV A7 b 3,Af b 5 0⟩,v7,λs r=> {s with i:=r.i,sums:=r.sums},λs=>s,λ_ s=>s,[.exit 0],Qj,WM,pU⟩
abbrev MI:=Qk.run
abbrev arf:=Qk.exn
def ayE:Ap:=kI T1<|la 2 func202 hU<|la 3 func204 Ww<|la 2 func202 Rt<|l0 T1
def avl:Rq WM v7:=by
 intro s hI;refine ⟨λc1=>⟨?_,?_,?_,?_,?_,?_,A9,ak⟩,λc1=>⟨A9,A9,ak⟩⟩
 all_goals ((obtain ⟨⟨h0,h1⟩,h2,h3,h4,h5,h6⟩:=hI;(try simp only [AT] at c1);first|(have hm:=h5 (gi s.l s.i)<|IG A0 A0;omega) |exact ⟨rfl,AG⟩ |exact ⟨rfl,rfl⟩))
def pF:Qk.Ok:={}
def ox:Qk.Pf (vS):=⟨azo,λs h=>rfl,avc,avl⟩
def jh:=s2 (b:=bN f206 0) pF ox T1 ayE
def aoE:Fi Qj WM vS arf MI:=LpD.fin pF ox
def aiQ (s:Ht) (hE:Qj s):(λs:Ht=>IV s.sums s.more<|s.l.drop s.i.toNat) (MI s)=(λs:Ht=>IV s.sums s.more<|s.l.drop s.i.toNat) s:=by
 exact LpD.keepV pF ox (λs:Ht=>IV s.sums s.more<|s.l.drop s.i.toNat) (λs hI=>by
  obtain ⟨⟨h0,h1⟩,h2,h3,h4,h5,h6⟩:=hI;refine allR_ite (λc1=>?_) λc1=>rfl
  have c1:s.i<s.n:=A8
  have hb:=h2 (gi s.l s.i).toNat
  rw [AH (x:=s.i+1),AH (x:=s.sums.getD (gi s.l s.i).toNat (Ty.dflt A7)+s.more) aIv aIw];rw [(gi_step h0 (show s.i<M s.l by omega)).1]
  rfl) s hE
def aCm (s:Ht) (hE:Qj s):(MI s).sums=IV s.sums s.more s.l:=by
 have q3:=aiQ s hE
 obtain ⟨s',hI,q1,q2⟩:=aoE s hE;obtain ⟨h0,h1,h2,h3⟩:=hE;simp only at q3;rw [q2,show (MI s).n=s.n from rfl,show (MI s).l=s.l from rfl,show (MI s).more=s.more from rfl,Dj A0,h0] at q3;exact q3
structure CU where
 (most order:aB)
 (n level:Y)
 some:aM
 l:aB
 (m k:Y)
 Aw:aJ
 BF:aF
 Bg:aP
 B7:aG
 Bh:aQ
 Fj:aJ
 Fh:aF
 ED:aP
 Ar:aG
 Fk:aQ
 B0:aX
 (By Bx Bw Bv Bu Bt Bs Br Bq Bp Bn Bm Bl Bk Bj Bi Az sums levels:aB)
def xp:=lN (bN f174 0) 0
def Oy (s:CU):K6:=letI c:=gi s.l s.k;letI d:=gi s.Az c;letI a:=AF s.Ar c;letI b:=AA<|(s.levels.getD c.toNat<|Ty.dflt A7)+1;(⟨X,([s.By,s.Bx,s.Bw,s.Bv,s.Bu,s.Bt,s.Bs,s.Br,s.Bq,s.Bp,s.Bn,s.Bm,s.Bl,s.Bk,s.Bj,s.Bi]:aI).getD c.toNat [],(M (([s.By,s.Bx,s.Bw,s.Bv,s.Bu,s.Bt,s.Bs,s.Br,s.Bq,s.Bp,s.Bn,s.Bm,s.Bl,s.Bk,s.Bj,s.Bi]:aI).getD c.toNat []):Y),0,s.Aw,s.BF,s.Bg,s.B7,s.Bh,s.Fj,s.Fh,s.ED,s.Ar,s.Fk,s.B0,s.By,s.Bx,s.Bw,s.Bv,s.Bu,s.Bt,s.Bs,s.Br,s.Bq,s.Bp,s.Bn,s.Bm,s.Bl,s.Bk,s.Bj,s.Bi,s.Az,s.sums,s.levels,a.1,a.2.1,a.2.2.1,a.2.2.2.1,a.2.2.2.2.1,a.2.2.2.2.2.1,a.2.2.2.2.2.2.1,a.2.2.2.2.2.2.2,AA<|(if d<(DD a.2.2.2.1 a.2.2.2.2.2.1 b) then DD a.2.2.2.1 a.2.2.2.2.2.1 b else d)-(if d<(DD a.2.2.2.1 a.2.2.2.2.2.1<|AA<|b-1) then DD a.2.2.2.1 a.2.2.2.2.2.1 (AA<|b-1) else d)⟩:K6)
def Oh (s:CU):Ht:=letI b:=gi s.l s.k;letI c:=AF s.Ar b;letI d:=gi s.Az b;letI a:=AA<|(s.levels.getD b.toNat<|Ty.dflt A7)+1;(⟨b,a,([s.By,s.Bx,s.Bw,s.Bv,s.Bu,s.Bt,s.Bs,s.Br,s.Bq,s.Bp,s.Bn,s.Bm,s.Bl,s.Bk,s.Bj,s.Bi]:aI).getD b.toNat [],(M (([s.By,s.Bx,s.Bw,s.Bv,s.Bu,s.Bt,s.Bs,s.Br,s.Bq,s.Bp,s.Bn,s.Bm,s.Bl,s.Bk,s.Bj,s.Bi]:aI).getD b.toNat []):Y),0,s.Aw,s.BF,s.Bg,s.B7,s.Bh,s.Fj,s.Fh,s.ED,s.Ar,s.Fk,s.B0,s.By,s.Bx,s.Bw,s.Bv,s.Bu,s.Bt,s.Bs,s.Br,s.Bq,s.Bp,s.Bn,s.Bm,s.Bl,s.Bk,s.Bj,s.Bi,s.Az,s.sums,s.levels,AA<|(if d<(DD c.2.2.2.1 c.2.2.2.2.2.1 a) then DD c.2.2.2.1 c.2.2.2.2.2.1 a else d)-(if d<(DD c.2.2.2.1 c.2.2.2.2.2.1<|AA<|a-1) then DD c.2.2.2.1 c.2.2.2.2.2.1 (AA<|a-1) else d)⟩:Ht)
def Sg (s:CU):T (Rd CU):=letI b:=gi s.l s.k;letI d:=M s.levels;letI e:=AA<|s.k+1;letI f:=AF s.Ar b;letI g:=MI<|Oh s;letI h:=s.levels.getD b.toNat<|Ty.dflt A7;letI c:=AA<|h+1;letI a:=s.levels.set b.toNat c;.br (an<|s.k<s.m) (.ix s.k (M s.l)<|.ik b d<|.br (h !=(AA<|s.level-1)) (.rl s.sums<|.rl s.levels<|.nx {s with k:=e})<|.ix b (M s.B7)<|.ix b (M s.most)<|.req ((gi s.most b)<=9223372036854775807)<|.br (an<|(Fv (AF s.B7 b).2.2.2.1 (AF s.B7 b).2.2.2.2.1 (AF s.B7 b).2.2.2.2.2.1<|gi s.most b)<s.level) (.rl s.sums<|.rl s.levels<|.nx {s with k:=e})<|.ix b (M s.Ar)<|.ik b d<|.ix b (M s.Az)<|.req ((1<=f.2.2.2.1/\f.2.2.2.1<=80/\1<=f.2.2.2.2.2.1/\f.2.2.2.2.2.1<=80)/\0<=c/\c<=1000)<|.ix b (M s.Az)<|.req ((1<=f.2.2.2.1/\f.2.2.2.1<=80/\1<=f.2.2.2.2.2.1/\f.2.2.2.2.2.1<=80)/\0<=(AA<|c-1)/\(AA<|c-1)<=1000)<|.req (0<=b/\b<(16:Y))<|.rl s.sums<|.rl s.levels<|.req (UZ.q<|Oy s)<|.br (isEx (gn<|Oy s)<|.ret) (.br (!(iG<|Oy s).r) (.br X (.rl s.sums<|.rl s.levels<|.nx {s with some:=U,k:=e})<|.rl s.sums<|.rl s.levels<|.nx {s with k:=e})<|.req (0<=b/\b<(16:Y))<|.rl s.sums<|.rl s.levels<|.req (Qk.q<|Oh s)<|.ik b d<|.br U (.rl g.sums<|.re d a<|.nx {s with some:=U,k:=e,sums:=g.sums,levels:=a})<|.rl g.sums<|.re d a<|.nx {s with k:=e,sums:=g.sums,levels:=a})<|.br (!U) (.br X (.rl s.sums<|.rl s.levels<|.nx {s with some:=U,k:=e})<|.rl s.sums<|.rl s.levels<|.nx {s with k:=e})<|.req (0<=b/\b<(16:Y))<|.rl s.sums<|.rl s.levels<|.req (Qk.q<|Oh s)<|.ik b d<|.br U (.rl g.sums<|.re d a<|.nx {s with some:=U,k:=e,sums:=g.sums,levels:=a})<|.rl g.sums<|.re d a<|.nx {s with k:=e,sums:=g.sums,levels:=a})<|.rl s.sums<|.rl s.levels<|.so (.exit 2) s
def CZ (s:CU):aI:=[s.By,s.Bx,s.Bw,s.Bv,s.Bu,s.Bt,s.Bs,s.Br,s.Bq,s.Bp,s.Bn,s.Bm,s.Bl,s.Bk,s.Bj,s.Bi]
def Sl (s:CU):Prop:=s.k=0/\(s.m=(M s.l:Y)/\s.m<=1000/\1<=s.level/\s.level<=81)/\s.Ar=s.B7/\OkT (CZ s) s.B0 s.Ar s.Az s.most s.l/\OkS s.B0 s.l s.sums s.levels
def GD (s:CU):Prop:=(0<=s.k/\s.k<=s.m)/\(s.m=(M s.l:Y)/\s.m<=1000/\1<=s.level/\s.level<=81)/\s.Ar=s.B7/\OkT (CZ s) s.B0 s.Ar s.Az s.most s.l/\OkS s.B0 s.l s.sums s.levels
def P5 (s:CU):aC:=(s.m-s.k).toNat
def Ze (x:Ex) (s s':CU):Prop:=x=.exit 2/\s'.k=s'.m
def aw7:∀s,Sl s->GD s:=by
 exact dT
def Nc (s:CU) (hI:GD s) (c1:s.k<s.m):letI a:=gi s.l s.k;gi s.l s.k∈s.l/\(0<=gi s.l s.k/\gi s.l s.k<16)/\gi s.l s.k<(M s.Ar:Y)/\gi s.l s.k<(M s.B7:Y)/\gi s.l s.k<(M s.Az:Y)/\gi s.l s.k<(M s.most:Y)/\gi s.l s.k<(M s.levels:Y)/\(0<=gi s.most a/\gi s.most a<=80)/\(0<=gi s.Az a/\gi s.Az a<=80):=by
 obtain ⟨⟨h0,h1⟩,⟨h2,h3,h4,h5⟩,h6,hT,hS⟩:=hI
 have hm:gi s.l s.k∈s.l:=IG h0 A0
 obtain ⟨o1,o2,o3,o4⟩:=hT.ord _ hm;exact ⟨hm,o1,o2,A8,o3,o4,hS.BZ _ hm,hT.mo _<|IG o1.1 o4,hT.al _<|IG o1.1 o3⟩
def NX {s:CU}(hI:GD s) (c2:((s.levels.getD (gi s.l s.k).toNat<|Ty.dflt A7) !=(AA<|s.level-1))=X):s.levels.getD (gi s.l s.k).toNat 0=s.level-1:=by
 obtain ⟨_,⟨h2,h3,h4,h5⟩,_⟩:=hI
 have c2:((s.levels.getD (gi s.l s.k).toNat 0) !=(AA<|s.level-1))=false:=c2
 rw [AH (x:=s.level-1)] at c2
 grind
def Y3 {s:CU}(hI:GD s) (c2:s.levels.getD (gi s.l s.k).toNat 0=s.level-1):letI a:=(s.levels.getD (gi s.l s.k).toNat<|Ty.dflt A7)+1;AA a=s.level/\AA ((AA a)-1)=s.level-1:=by
 obtain ⟨_,⟨h2,h3,h4,h5⟩,_⟩:=hI
 have e:AA ((s.levels.getD (gi s.l s.k).toNat<|Ty.dflt A7)+1)=s.level:=by
  have:(s.levels.getD (gi s.l s.k).toNat<|Ty.dflt A7)=s.level-1:=c2
  rw [this,AH (x:=s.level-1+1)];omega
 refine ⟨e,?_⟩;rw [e,AH]
def Rb {s:CU}(hI:GD s) (c1:s.k<s.m) (c2:s.levels.getD (gi s.l s.k).toNat 0=s.level-1):letI a:=gi s.l s.k;(Oy s).more=Et s.Ar s.Az a s.level/\(Oh s).more=Et s.Ar s.Az a s.level/\0<=Et s.Ar s.Az a s.level/\Et s.Ar s.Az a s.level<=10000:=by
 have hx:=Nc s hI c1
 obtain ⟨w1,w2⟩:=Y3 hI c2;obtain ⟨_,⟨h2,h3,h4,h5⟩,h6,hT,hS⟩:=hI
 have hb:=aEZ (gs:=s.Ar) (alive:=s.Az) (k:=s.level) (hT.has _ hx.1) hx.2.2.2.2.2.2.2.2 h4 h5
 have e:(Oy s).more=Et s.Ar s.Az (gi s.l s.k) s.level:=by
  unfold Oy;simp only [w2];simp only [w1]
  show AA (Et s.Ar s.Az (gi s.l s.k) s.level)=_
  rw [AH]
 exact ⟨e,e,hb⟩
def abx {s:CU}(hI:GD s) (c1:s.k<s.m):((CZ s).getD (gi s.l s.k).toNat []).Nodup/\(M ((CZ s).getD (gi s.l s.k).toNat []):Y)<=1000/\∀r∈(CZ s).getD (gi s.l s.k).toNat [],0<=r/\r<(M s.B0:Y):=by
 have hx:=Nc s hI c1
 obtain ⟨_,_,_,hT,_⟩:=hI;refine hT.row _ ?_
 have hl:=hT.ol
 grind
def Rf {s:CU}(hI:GD s) (c1:s.k<s.m) (c2:s.levels.getD (gi s.l s.k).toNat 0=s.level-1):V5 (Oy s):=by
 obtain ⟨m1,m2,m3⟩:=Rb hI c1 c2;obtain ⟨o1,o2,o3⟩:=abx hI c1;obtain ⟨_,_,_,hT,hS⟩:=hI;exact ⟨rfl,OP _,o2,rfl,o3,hS.len,hS.bd,A8⟩
def iV {s:CU}(hI:GD s) (c1:s.k<s.m) (c2:s.levels.getD (gi s.l s.k).toNat 0=s.level-1):Qj (Oh s):=by
 obtain ⟨m1,m2,m3⟩:=Rb hI c1 c2;obtain ⟨o1,o2,o3⟩:=abx hI c1;obtain ⟨_,_,_,hT,hS⟩:=hI;refine ⟨rfl,hS.bd,rfl,o2,λr hr=>?_,A8⟩
 have:=o3 r hr
 have hl:=hS.len
 show 0<=r/\r<(M s.sums:Y)
 omega
end Go.Proofs.YtcdkianomnhhmaaGreatDoor
end
