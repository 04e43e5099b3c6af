/- Helpers for TopParkUnharmed:. Conditions: none. -/
import Derived.Test.YtpdndmobphnjcaaGreatDoorQv1
set_option linter.defProp false
set_option linter.unusedVariables false
set_option linter.unusedSimpArgs false
noncomputable section
open List renaming length→M,length→aa,replicate→aq,range→au
open Bool renaming true→U,true→ae,false→X,false→af
open Go.Value renaming int→ag
open Option renaming some→ah,none→aj
open Go.IntKind renaming i64→J,i64→ai,u8→aw,u32→ax
open True renaming intro→ak
open Decidable renaming decide→an
open ByteArray renaming mk→av
open Go.Region renaming ready→ay,wanted→az
open Go.Instr renaming findNow→aA
namespace Go.Sx
open Go Go.RowKit Go.Proofs.YtpdndmobphnjcaaGreatDoor
variable {P : Program} {G : BA} {Γ : Specs} {K : Hand} {β : Nat -> Loc} {Z : Nat -> Prop} {Z0 : Gz} {w w0 : World} {F : List LV} {H : List AB} {a : Act} {ds : List Deferred} {n : Nat}
def sG {o:aU}{g:bn}{l:aD}(h:callOf G F o=ah (g,l)):∃f args ty,o.op=.call {callee:=.value f,args,argTypes:=ty}/\uc G F f args g l:=by
 unfold callOf at h;split at h
 ·rename_i f args ty ho
  split at h
  ·rename_i g' cap hf
   obtain ⟨rfl,rfl⟩:=h;exact ⟨f,args,ty,ho,.inl ⟨cap,hf,rfl⟩⟩
  ·rename_i g' fs hf
   obtain ⟨rfl,rfl⟩:=h;exact ⟨f,args,ty,ho,.inr<|.inl ⟨fs,hf,rfl⟩⟩
  ·rename_i g' hf
   obtain ⟨rfl,rfl⟩:=h;exact ⟨f,args,ty,ho,.inr<|.inr ⟨hf,rfl⟩⟩
  ·cases h
 ·cases h
def aH4 {o:aU}{k:aC}{l:aD}(h:aAz G F o=ah (k,l)):∃f args ty,o.op=.call {callee:=.value f,args,argTypes:=ty}/\AM G F f=.CU k/\l=args.toList.map (λx=>norm<|AM G F x):=by
 unfold aAz at h;split at h
 ·rename_i f args ty ho
  split at h
  ·rename_i k' hf
   grind
  ·cases h
 ·cases h
def aGT (hΓ:∀g S,Γ g=ah S->Valid P G g S) (hK:Ft P G K) (hW:RW G w0 Z0 Z β H w) (hF:RF ds β Z w (M H) F a) {o:aU}{lv:LV}{H':aG}(h:(opk P G Γ K F H o).all λq=>q=(lv,H')):
  Dt P (λv w'=>∃Z' β',RW G w0 Z0 Z' β' H' w'/\RF ds β' Z' w' (M H') F a/\R β' Z' w' lv v/\okV (M H') lv) ((execOp a.eval o).run P w):=by
 unfold opk at h
 have old:(Ay P G Γ F H o).all (λq=>q=(lv,H'))->Dt P (λv w'=>∃Z' β',RW G w0 Z0 Z' β' H' w'/\RF ds β' Z' w' (M H') F a/\R β' Z' w' lv v/\okV (M H') lv) ((execOp a.eval o).run P w):=λh=>
  LY (λv w' ⟨Z',β',e1,e2,e3,e4,_⟩=>⟨Z',β',e1,e2,e3,e4⟩) (eY hΓ hW hF h)
 split at h
 ·rename_i g l hc
  split at h
  ·exact old h
  ·split at h
   ·rename_i fn hfn
    split at h
    ·rename_i hb
     obtain ⟨f,args,ty,ho,hf⟩:=sG hc;simp only [AY,DB] at hb;obtain ⟨hb1,hb2⟩:=hb;obtain ⟨vals,hrun,hargs,hoka⟩:=aGB ho hW hF hf hfn A8 A8;rw [hrun];exact (hK.k w0 _ Z β H w g _ _ lv H' (hW.hold hF) hargs hoka h).mono λe w' ⟨v,he,Z',β',r1,r2,r3⟩=>⟨v,he,Z',β',r1.less,RW.held hF r1,r2,r3⟩
    ·cases h
   ·cases h
 ·split at h
  ·rename_i k l hy
   obtain ⟨f,args,ty,ho,hf,rfl⟩:=aH4 hy
   have hfr:=hF.eval hW.Cy f
   rw [hf] at hfr;simp only [R,okV] at hfr
   have hargs:RL β Z w (args.toList.map λx=>norm<|AM G F x) (args.map a.eval).toList:=by
    exact aOG
   have hoka:AU (M H) (args.toList.map λx=>norm<|AM G F x):=by
    exact aO1
   obtain ⟨r,h1,h2,h3⟩:=hK.y w0 _ Z β H w k _ _ lv H' (hW.hold hF) hargs hoka h
   have hrun:(execOp a.eval o).run P w=.ok (.round (β k).b r.fn ((r.params.zip<|args.map a.eval).foldl (λt (p,v)=>t.setIfInBounds p v) r.tmps) r.assign r.body) w:=by
    unfold execOp;simp only [ho]
    have:=run_yield (P:=P) h1 h2
    simp [resolve,Deferred.ofValue,hfr.1,invoke,this]
   rw [hrun];exact h3.mono λe w' ⟨v,he,Z',β',r1,r2,r3⟩=>⟨v,he,Z',β',r1.less,RW.held hF r1,r2,r3⟩
  ·exact old h
def ah1 {o:aU}(hm:SO P Γ o=U):opk P G Γ K F H o=Ay P G Γ F H o:=by
 unfold opk;split
 ·rename_i g l hc
  obtain ⟨f,args,ty,ho,hf⟩:=sG hc;unfold SO at hm;simp only [AY] at hm
  have hm2:=hm.2
  rw [ho] at hm2;cases f with
  |func g'=>
   rcases hf with ⟨_,hf,_⟩ |⟨_,hf,_⟩ |⟨hf,_⟩
   rotate_left
   ·simp [AM] at hf
   ·simp [AM] at hf
   obtain ⟨rfl,_⟩:=hf
   grind
  |tmp _=>simp at hm2
  |const _=>simp at hm2
  |global _=>simp at hm2
 ·split
  ·rename_i k l hy
   obtain ⟨f,args,ty,ho,hf,rfl⟩:=aH4 hy;unfold SO at hm;simp only [AY] at hm
   have hm2:=hm.2
   rw [ho] at hm2;cases f with
   |func g'=>simp [AM] at hf
   |tmp _=>simp at hm2
   |const _=>simp at hm2
   |global _=>simp at hm2
  ·rfl
def aq6 {o:aU}(hm:SO P Γ o=U):P1 P o=true:=by
 unfold SO at hm;simp only [AY] at hm;exact hm.1
def aGd {ty:Ty}:∀(cs:aD) (ls:List<|List ty.D),jb ty cs=ah ls->∀(j:aC) (x:LV),cs[j]? =ah x->∃l,x=.xl ty l/\ls[j]? =ah l
 | [],_,_,j,x,hx=>A8
 | c ::cs,ls,h,j,x,hx=>by
  simp only [jb] at h;split at h
  ·rename_i e l
   split at h
   ·rename_i he r _ hr
    simp only [Aj] at h;subst h;subst he;cases j with
    |zero=>
     simp only [List.getElem?_cons_zero,Aj] at hx;exact ⟨l,hx.symm,rfl⟩
    |succ j=>
     exact aGd cs r hr j x hx
   ·cases h
  ·cases h
def aer {o o2:aU} {num:Y} {len:aC} {lv:LV} (hW:RW G w0 Z0 Z β H w) (hF:RF ds β Z w (M H) F a) (h:yN P G F H o o2=ah (num,len,lv)) (h0:0<=num/\num<(len:Y)):
  o.guard=aj/\o2.guard=aj/\∃v z,(execOp a.eval o).run P w=.ok (.value v) w/\(execOp (a.put o.dst v).eval o2).run P w=.ok (.value z) w/\R β Z w lv z/\okV (M H) lv:=by
 unfold yN at h;split at h
 ·rename_i hg
  simp only [AY,Zs] at hg;refine ⟨hg.1,hg.2,?_⟩;split at h
  ·rename_i t x i d t2 d2 ho hd ho2
   split at h
   ·rename_i hc
    obtain ⟨rfl,hdl,hagg⟩:=hc;split at h
    ·rename_i len' e k off kd n hu hx hi
     split at h
     ·rename_i hsz
      split at h
      ·rename_i b hb
       split at h
       ·rename_i hcl
        split at h
        ·rename_i ty l rest hcs
         split at h
         ·rename_i ls hls
          simp only [Aj,Az] at h;obtain ⟨rfl,rfl,rfl⟩:=h
          have exv:=hF.eval hW.Cy x
          have eiv:=hF.eval hW.Cy i
          rw [hx] at exv;rw [hi] at eiv
          have hix:(R3 P t (.own k off) U<|.ki kd n).all (λr=>r=.own k (off+n.toNat*(0+1))):=by
           unfold R3;simp only [pl,hu,hsz,Bu];rw [AD h0];simp only [T.all]
          obtain ⟨v,e1,e2,e3⟩:=aEq (w:=w) hix exv.1 (show R β Z w (.ki kd n) (a.eval i) by simp only [R];exact eiv.1) exv.2
          have hj:n.toNat<len':=A0
          obtain ⟨c,hc⟩:∃c,b.c[off+n.toNat]? =ah c:=⟨_,Di A0⟩
          have hcc:(LV.xl ty l::rest)[n.toNat]? =ah c:=by
           rw [<-hcs,LN,AD hj,FR];exact hc
          obtain ⟨l',rfl,hl'⟩:=aGd _ _ hls _ _ hcc
          have hld:(FX P H t2<|.own k<|off+n.toNat*(0+1)).all (λz=>z=.xl ty l'):=by
           unfold FX;simp only [hagg,hb,F8,Nat.mul_one,hcl.1,Bu,hc,T.all]
          obtain ⟨z,f1,f2,f3⟩:=qh hW hld e2 e3;refine ⟨v,z,KN,?_,?_,?_⟩
          ·have hda:d2<a.tmps.size:=by rw [hF.size];exact hdl
           have ev:(a.put o.dst v).eval (.tmp d2)=v:=by simp [hd,Act.put,Act.eval,Array.getD,hda]
           simp [execOp,ho2,ev,f1]
          ·have:ls.getD n.toNat []=l':=A8
           rw [this];exact f2
          ·trivial
         ·cases h
        ·cases h
       ·cases h
      ·cases h
     ·cases h
    ·cases h
   ·cases h
  ·cases h
 ·cases h
def eV (hΓ:∀g S,Γ g=ah S->Valid P G g S) (hK:Ft P G K) {ops:aK}{Q:aYb->bg->aO->Prop}{F':aD}{H':aG}(hQ:∀Z' β' a' w',RW G w0 Z0 Z' β' H' w'->RF ds β' Z' w' (M H') F' a'->Q .normal a' w') (r:bp) (m:aC):
  ∀(os:bx) (k:aC) (F:aD) (H:aG) (Z:aC->Prop) (β:aC->aXS) (a:bg) (w:aO),(∀j,os[j]? =ops[k+j]?)->RW G w0 Z0 Z β H w->RF ds β Z w (M H) F a->
   (Is P G Γ K ops os F H).all (λq=>q=(F',H'))->wpOpsIn (Dy r) m P ops Q (List.range' k<|M os) a w
 | [],k,F,H,Z,β,a,w,_,hW,hF,h=>by
  simp only [Is,T.all,Az] at h;obtain ⟨rfl,rfl⟩:=h;simp only [C3,List.range'_zero,wpOpsIn];exact hQ Z β a w hW hF
 | o ::os,k,F,H,Z,β,a,w,hl,hW,hF,h=>by
  have h0:ops[k]? =ah o:=by simpa using (hl 0).symm
  have hl':∀j,os[j]? =ops[k+1+j]? :=λj=>by have:=hl<|j+1;simpa [Hw,zM 1 j] using this
  simp only [Bm,List.range'_succ,wpOpsIn,h0]
  have goOk:∀(F:aD),RF ds β Z w (M H) F a->((opk P G Γ K F H o).bind λq=>Is P G Γ K ops os (Av F o.dst q.1) q.2).all (λq=>q=(F',H'))->o.wpIn (Dy r) m P a w (wpOpsIn (Dy r) m P ops Q<|List.range' (k+1)<|M os) Q:=λF hF h=>by
   obtain ⟨⟨lv,H1⟩,h1,h2⟩:=T.B7 h;refine eI (LY (λv w' ⟨Z',β',e1,e2,e3,e4⟩=>?_)<|aGT hΓ hK hW hF h1) r m
   exact eV hΓ hK hQ r m os (k+1) _ H1 Z' β' _ w' hl' e1 (e2.put e3 e4 o.dst) h2
  have passOk:∀(F:aD),RF ds β Z w (M H) F a->(Is P G Γ K ops os (Av F o.dst<|.v undef) H).all (λq=>q=(F',H'))->(∀f,o.about P w a.eval=ah f->(Dy r).fn f)/\wpOpsIn (Dy r) m P ops Q (List.range' (k+1)<|M os) (a.put o.dst undef) w:=λF hF h=>
   ⟨λ_ _=>trivial,eV hΓ hK hQ r m os (k+1) _ H Z β _ w hl' hW (hF.pass o.dst) h⟩
  unfold Is at h;simp only at h;split at h
  ·rename_i hg
   have hw:az o (yielded ops a.tmps)=true:=oR
   rw [AD hw];split at h
   ·exact goOk F hF h
   ·rename_i o2 os2
    split at h
    ·rename_i num len lv hix
     simp only [T.all] at h;obtain ⟨h1,h2⟩:=h;obtain ⟨_,hg2,v,z,r1,r2,r3,r4⟩:=aer hW hF hix h1
     have h02:ops[k+1]? =ah o2:=by simpa using (hl' 0).symm
     have hl2:∀j,os2[j]? =ops[k+1+1+j]? :=λj=>by have:=hl'<|j+1;rw [nJ] at this;rw [this];congr 1;omega
     have act1:∀ {K:aV->aO->Prop},K v w->Dt P K ((execOp a.eval o).run P w):=λh=>by rw [r1];exact h
     have act2:∀ {K:aV->aO->Prop},K z w->Dt P K ((execOp (a.put o.dst v).eval o2).run P w):=λh=>by rw [r2];exact h
     refine eI (act1 ?_) r m;simp only [Bm,List.range'_succ,wpOpsIn,h02]
     have hw2:az o2 (yielded ops (a.put o.dst v).tmps)=true:=by simp [az,hg2]
     rw [AD hw2];refine eI (act2 ?_) r m;exact eV hΓ hK hQ r m os2 (k+1+1) _ H Z β _ w hl2 hW ((hF.put (lv:=.junk) KM trivial o.dst).put r3 r4 o2.dst) h2
    ·exact goOk F hF h
  ·rename_i j want hg
   split at h
   ·rename_i d hd
    split at h
    ·rename_i b hb
     obtain ⟨s1,s2⟩:=hF.slot hb AJ
     have hv:=(hF.get d _ s1).1
     simp only [R] at hv;rw [hv] at s2;rw [WK hg hd s2];split at h
     ·grind
     ·rename_i e;rw [AE aAe];exact passOk F hF h
    ·rename_i g hb
     obtain ⟨s1,s2⟩:=hF.slot hb AJ
     have hv:=(hF.get d _ s1).1
     simp only [R] at hv
     have kn:∀b,g=b->RF ds β Z w (M H) (F.set d<|.bl b) a:=λb e=>hF.know oS trivial
     rw [hv] at s2;rw [WK hg hd s2];split at h
     ·rename_i hwt
      subst hwt;simp only [T.all] at h;cases hgg:g with
      |true=>simp only [Oc,Bu];exact goOk _ (kn U hgg) (h.1 hgg)
      |false=>rw [AE AJ];exact passOk _ (kn X hgg)<|h.2 hgg
     ·rename_i hwt
      have hwt':want=false:=aAK
      subst hwt';simp only [T.all] at h;cases hgg:g with
      |true=>rw [AE AJ];exact passOk _ (kn U hgg) (h.1 hgg)
      |false=>simp only [Oc,Bu];exact goOk _ (kn X hgg)<|h.2 hgg
    ·rename_i vs hb
     obtain ⟨s1,s2⟩:=hF.slot hb AJ
     have hv:=(hF.get d _ s1).1
     simp only [R] at hv;exact aOS
    ·cases h
   ·cases h
def T.lv {α:Type}(p:α->Prop):T α->Prop
 | .ok x=>p x
 | .br _ t e=>t.lv p/\e.lv p
 | .req _ t=>t.lv p
 | .no=>True
def T.TZ {α γ:Type}{p:α->Prop}{q:γ->Prop}{k:α->T γ}(hk:∀x,p x->(k x).lv q):∀ {t:T α},t.lv p->(t.bind k).lv q
 | .ok _,h=>hk _ h
 | .br _ t e,h=>⟨T.TZ hk (t:=t) h.1,T.TZ hk (t:=e) h.2⟩
 | .req _ t,h=>T.TZ hk (t:=t) h
 | .no,_=>trivial
def T.Wq {α:Type}{p:α->Prop}(hp:∀x,p x):∀(t:T α),t.lv p
 | .ok _=>hp _
 | .br _ t e=>⟨T.Wq hp t,T.Wq hp e⟩
 | .req _ t=>T.Wq hp t
 | .no=>trivial
def aev {o:aU}(hpt:Lj P 8 o.type=U) {g:bn}{l:aD}:(Nw P Γ H o g l).lv (λq=>q.2=H):=by
 have bd:∀(t:T LV),(t.bind λy=>(T.ok (y,H):T<|LV×List AB)).lv (λq=>q.2=H):=λt=>T.TZ (p:=λ_=>True) (q:=λq:LV×List AB=>q.2=H) (k:=λy=>T.ok (y,H)) (λx _=>(rfl:(x,H).2=H))<|T.Wq (λ_=>trivial) t
 unfold Nw;split
 ·split
  ·split
   ·split
    ·exact bd _
    ·grind
   ·trivial
  ·trivial
 ·trivial
def sv {o:aU}(hm:P1 P o=U):(Ay P G Γ F H o).lv (λq=>q.2=H):=by
 have bd:∀(t:T LV),(t.bind λy=>(T.ok (y,H):T<|LV×List AB)).lv (λq=>q.2=H):=λt=>T.TZ (p:=λ_=>True) (q:=λq:LV×List AB=>q.2=H) (k:=λy=>T.ok (y,H)) (λx _=>(rfl:(x,H).2=H))<|T.Wq (λ_=>trivial) t
 have c1:∀ {f:aXT} {args:aX0} {ty:aX8},o.op=.call {callee:=.value f,args,argTypes:=ty}->Lj P 8 o.type=true:=λho=>aR0
 have c2:∀ {r:aXT} {name:String} {args:aX0} {ty:aX8},o.op=.call {callee:=.invoke r name,args,argTypes:=ty}->Lj P 8 o.type=true:=λho=>aR0
 unfold Ay;split<;>(try exact bd _)<;>(try trivial)<;>(try rfl)<;>(try (rename_i ho;simp [P1,ho] at hm;done))<;>(try (rename_i ho;have hpt:=c1 ho))<;>(try (rename_i ho;have hpt:=c2 ho))
 all_goals (split<;>(try exact bd _)<;>(try trivial)<;>(try rfl)<;>(try exact aev hpt))
 all_goals (split<;>(try exact bd _)<;>(try trivial)<;>(try rfl))
def Keeps (ds:aH) (F:aD) (H:aG) (q:List LV×List AB):Prop:=M q.1=M F/\(∀i,i∉ds->q.1[i]? =F[i]?)/\q.2=H
def di {ds:aH}{F F1:aD}(h:M F1=M F/\∀i,i∉ds->F1[i]? =F[i]?) {d:aC}(hd:d∈ds) (x:LV):M (F1.set d x)=M F/\∀i,i∉ds->(F1.set d x)[i]? =F[i]? :=by
 refine ⟨A8,λi hi=>?_⟩
 grind
def WE {ds:aH}{F F1:aD}(h:M F1=M F/\∀i,i∉ds->F1[i]? =F[i]?) {d:bp}(hd:∀t,d=ah t->t∈ds) (x:LV):M (Av F1 d x)=M F/\∀i,i∉ds->(Av F1 d x)[i]? =F[i]? :=by
 cases d with
 |none=>exact h
 |some t=>exact di h (hd t rfl) x
def qk {ops:aK}{F0:aD}:∀(os:bx) (F:aD),(∀o∈os,o∈ops.toList)->(∀o∈os,SO P Γ o=U)->M F=M F0/\(∀i,i∉Fb ops.toList->F[i]? =F0[i]?)->
  (Is P G Γ K ops os F H).lv (Keeps (Fb ops.toList) F0 H)
 | [],F,_,_,h=>by simp only [Is,T.lv,Keeps];exact ⟨h.1,h.2,ak⟩
 | o ::os,F,hin,hm,h=>by
  have hdo:∀t,o.dst=ah t->t∈Fb ops.toList:=λt ht=>So.2 ⟨o,hin o AJ,ht⟩
  have go:∀F:aD,M F=M F0/\(∀i,i∉Fb ops.toList->F[i]? =F0[i]?)->((opk P G Γ K F H o).bind λq=>Is P G Γ K ops os (Av F o.dst q.1) q.2).lv (Keeps (Fb ops.toList) F0 H):=λF hF=>
   T.TZ (p:=λq=>q.2=H) (λq hq=>by rw [hq];exact qk os _ (λo ho=>hin o Vc) (λo ho=>hm o Vc)<|WE hF hdo _) (by rw [ah1<|hm o AJ];exact sv<|aq6<|hm o AJ)
  have pass:∀F:aD,M F=M F0/\(∀i,i∉Fb ops.toList->F[i]? =F0[i]?)->(Is P G Γ K ops os (Av F o.dst<|.v undef) H).lv (Keeps (Fb ops.toList) F0 H):=λF hF=>
   qk os _ (λo ho=>hin o Vc) (λo ho=>hm o Vc) (WE hF hdo _)
  unfold Is;simp only;split
  ·split
   ·exact go F h
   ·rename_i o2 os2
    split
    ·have hdo2:∀t,o2.dst=ah t->t∈Fb ops.toList:=λt ht=>So.2 ⟨o2,hin o2 AJ,ht⟩
     exact qk os2 _ (λo ho=>hin o Vc) (λo ho=>hm o Vc)<|WE (WE h hdo _) hdo2 _
    ·exact go F h
  ·rename_i j want hg
   split
   ·rename_i d hd
    have hdd:d∈Fb ops.toList:=by
     cases hj:ops[j]? with
     |none=>simp [hj] at hd
     |some oj=>simp [hj] at hd;exact So.2 ⟨oj,A8,hd⟩
    split
    ·split
     ·exact go F h
     ·exact pass F h
    ·exact aNp
    ·grind
    ·trivial
   ·trivial
def aaL {x:LV}{v:aV}(h:R β Z w x v):R β Z w (nki x) v:=aAO
def adq {x y:LV}{v:aV}(h:R β Z w x v):R β Z w (TY U x y) v:=by
 unfold TY;split<;>simp_all [R]
 split<;>simp_all [R]
def adg {x y:LV}{v:aV}(h:R β Z w y v):R β Z w (TY X x y) v:=by
 unfold TY;split<;>simp_all [R]
 split<;>simp_all [R]
def aej {b:aM}{x y:LV}:okV n (TY b x y):=by
 unfold TY;split<;>(try trivial)
 split<;>trivial
def aeF {x y:LV}{v:aV}(h:R β Z w x v):R β Z w (Xc U x y) v:=adq<|aaL h
def adv {x y:LV}{v:aV}(h:R β Z w y v):R β Z w (Xc X x y) v:=adg<|aaL h
def aq5 {b:aM}{x y:LV}:okV n (Xc b x y):=aej
def aGH {dl:aXR}{ds:aH}{b:aM}{F F1 F2:aD}(k1:M F1=M F/\∀i,i∉ds->F1[i]? =F[i]?) (k2:M F2=M F/\∀i,i∉ds->F2[i]? =F[i]?) (h:RF dl β Z w n (if b then F1 else F2) a):RF dl β Z w n (Tk ds b F F1 F2) a:=by
 refine ⟨by rw [h.size];cases b<;>simp [Tk,k1.1,k2.1],λt x hx=>?_,h.defers⟩
 have ht:t<M F:=by have:=(EI.1 hx).1;simpa [Tk] using this
 have hx':x=if ds.contains t then Xc b (F1.getD t .junk) (F2.getD t .junk) else F.getD t .junk:=by
  simp [Tk,ht] at hx
  rw [<-hx]
  grind
 have g1:∀q,(if b then F1 else F2)[t]? =ah q->R β Z w q (a.tmps.getD t undef)/\okV n q:=λq hq=>h.get t q hq
 by_cases hc:t∈ds
 ·rw [AD<|by simpa using hc] at hx'
  rw [hx'];refine ⟨?_,aq5⟩;cases b with
  |true=>
   have:=(g1 (F1[t]' A0) AJ).1
   have e2:F1.getD t .junk=F1[t]' A0:=A8
   rw [e2];exact aeF this
  |false=>
   have:=(g1 (F2[t]' A0) AJ).1
   have e2:F2.getD t .junk=F2[t]' A0:=A8
   rw [e2];exact adv this
 ·rw [AE<|by simpa using hc] at hx'
  have e:=Di ht
  have e2:F.getD t .junk=F[t]'ht:=A8
  rw [hx',e2];refine g1 _ ?_;cases b with
  |true=>simp only [Bu];rw [k1.2 t hc,e]
  |false=>simp only [Hy,GL];rw [k2.2 t hc,e]
def dp {ds:aH}:∀ {t:T<|List LV×List AB},t.lv (Keeps ds F H)->(Ke ds F H t).lv (Keeps ds F H)
 | .ok _,h=>h
 | .no,_=>trivial
 | .req _ t,h=>dp (t:=t) h
 | .br b t e,h=>by
  have h1:=dp h.1
  have h2:=dp h.2
  simp only [Ke];split
  ·rename_i x y hx hy
   rw [hx] at h1;rw [hy] at h2;split
   ·exact ⟨h1,h2⟩
   refine ⟨by simp [Tk],λi hi=>?_,rfl⟩
   simp only [Tk]
   by_cases ht:i<M F
   ·grind
   ·simp [ht]
  ·exact ⟨h1,h2⟩
def Ow {ds:aH}:∀ {t:T<|List LV×List AB}{r:List LV×List AB},t.lv (Keeps ds F H)->(Ke ds F H t).all (λq=>q=r)->
  ∃q,t.all (λz=>z=q)/\q.2=r.2/\∀(dl:aXR) (β:aC->aXS) (Z:aC->Prop) (w:aO) (n:aC) (a:bg),RF dl β Z w n q.1 a->RF dl β Z w n r.1 a
 | .ok x,r,_,h=>⟨x,rfl,by rw [show x=r from h],λ_ _ _ _ _ _ hh=>by rw [<-show x=r from h];exact hh⟩
 | .no,_,_,h=>As
 | .req p t,r,hk,h=>by
  obtain ⟨q,h1,h2,h3⟩:=Ow (t:=t) hk h.2;exact ⟨q,⟨h.1,h1⟩,h2,h3⟩
 | .br b t e,r,hk,h=>by
  have k1:=dp hk.1
  have k2:=dp hk.2
  have apart:(T.br b (Ke ds F H t)<|Ke ds F H e).all (λq=>q=r)->∃q,(T.br b t e).all (λz=>z=q)/\q.2=r.2/\∀(dl:aXR) (β:aC->aXS) (Z:aC->Prop) (w:aO) (n:aC) (a:bg),RF dl β Z w n q.1 a->RF dl β Z w n r.1 a:=λh=>by
   cases b with
   |true=>
    obtain ⟨q,h1,h2,h3⟩:=Ow (t:=t) hk.1<|h.1 rfl;exact ⟨q,⟨λ_=>h1,λhb=>LU⟩,h2,h3⟩
   |false=>
    obtain ⟨q,h1,h2,h3⟩:=Ow (t:=e) hk.2<|h.2 rfl;exact ⟨q,⟨λhb=>LU,λ_=>h1⟩,h2,h3⟩
  simp only [Ke] at h;split at h
  ·rename_i x y hx hy
   split at h
   ·simp_all
   rw [hx] at k1;rw [hy] at k2
   have hr:=h
   cases b with
   |true=>
    obtain ⟨q,h1,h2,h3⟩:=Ow (t:=t) (r:=x) hk.1 (by rw [hx];rfl)
    refine ⟨q,⟨λ_=>h1,λhb=>LU⟩,by rw [<-hr,h2];exact k1.2.2,λdl β Z w n a hh=>?_⟩
    rw [<-hr];exact aGH ⟨k1.1,k1.2.1⟩ ⟨k2.1,k2.2.1⟩ (h3 dl β Z w n a hh)
   |false=>
    obtain ⟨q,h1,h2,h3⟩:=Ow (t:=e) (r:=y) hk.2 (by rw [hy];rfl)
    refine ⟨q,⟨λhb=>LU,λ_=>h1⟩,by rw [<-hr,h2];exact k2.2.2,λdl β Z w n a hh=>?_⟩
    rw [<-hr];exact aGH ⟨k1.1,k1.2.1⟩ ⟨k2.1,k2.2.1⟩<|h3 dl β Z w n a hh
  ·simp_all
def apy (hΓ:∀g S,Γ g=ah S->Valid P G g S) (hK:Ft P G K) {id:aC}{ops:aK}{Q:aYb->bg->aO->Prop}{F':aD}{H':aG}(hQ:∀Z' β' a' w',RW G w0 Z0 Z' β' H' w'->RF ds β' Z' w' (M H') F' a'->Q .normal a' w')
  (hW:RW G w0 Z0 Z β H w) (hF:RF ds β Z w (M H) F a) (h:(yJ P G Γ K ops F H).all λq=>q=(F',H')) (r:bp) (m:aC):(Code.region id ops X).wpIn (Dy r) m P Q a w:=by
 refine wpIn_region ?_
 have e:au ops.size=List.range' 0 (M ops.toList):=by rw [List.range_eq_range'];simp
 rw [e];unfold yJ at h;split at h
 ·rename_i hm
  have hk:(Is P G Γ K ops ops.toList F H).lv (Keeps (Fb ops.toList) F H):=qk _ _ (λ_ h=>h) (λo ho=>BO.1 hm o ho) ⟨rfl,λ_ _=>rfl⟩
  obtain ⟨q,h1,h2,h3⟩:=Ow hk h;refine eV hΓ hK (F':=q.1) (H':=q.2) (λZ' β' a' w' e1 e2=>hQ Z' β' a' w' A8 A8) r m ops.toList 0 F H Z β a w AJ hW hF h1
 ·exact eV hΓ hK hQ r m ops.toList 0 F H Z β a w AJ hW hF h
end Go.Sx
namespace Go.Sx
open Go Go.RowKit Go.Proofs.YtpdndmobphnjcaaGreatDoor
variable {P : Program} {G : BA} {Γ : Specs} {β : Nat -> Loc} {Z : Nat -> Prop} {Z0 : Gz} {w w0 wr : World} {F : List LV} {H : List AB} {a : Act} {ds : List Deferred} {n : Nat}
def T.R2 {α:Type}{p:α->Prop}{x:α}:∀ {t:T α},t.lv p->t.all (λz=>z=x)->p x
 | .ok y,h,e=>by rw [<-show y=x from e];exact h
 | .br b t e,h,hh=>by
  cases b with
  |true=>exact T.R2 (t:=t) h.1 (hh.1 rfl)
  |false=>exact T.R2 (t:=e) h.2 (hh.2 rfl)
 | .req _ t,h,hh=>T.R2 (t:=t) h hh.2
 | .no,_,hh=>by cases hh
def aed {t:aS}{x lv:LV}{y:aV}(hW:RW G w0 Z0 Z β H w) (h:(FX P H t x).all λz=>z=lv) (hr:R β Z w x y):∀k,k∈owns x->(∃b,H[k]? =ah b/\live β k b)/\((∃off,x=.own k off)\/∃es i j,x=.op k es i j):=by
 intro k hk
 have cl:∀b:AB,b.E5=U->live β k b:=λb hc=>by
  unfold AB.E5 at hc;split at hc
  ·rename_i hb;unfold live;rw [hb];trivial
  ·cases hc
 unfold FX at h;split at h
 ·exact aNe
 ·exact aNe
 ·cases h
def aea {t:aS}{x q lv:LV}(h:(UB P H t x q).all λr=>r=lv):∀k,x=.om k->∃b,H[k]? =ah b/\live β k b:=by
 intro k hk;subst hk;unfold UB at h;exact aNv
def aeH {t:aS}{x q lv:LV}(h:(Xd P H t x q).all λr=>r=lv):∀k,x=.om k->∃b,H[k]? =ah b/\live β k b:=by
 intro k hk;subst hk;unfold Xd at h;exact aNv
def aec {t:aS}{x q lv:LV}(h:(Y2 P H t x q).all λr=>r=lv):∀k,x=.om k->∃b,H[k]? =ah b/\live β k b:=by
 intro k hk;subst hk;unfold Y2 at h;simp only at h;split at h
 ·rename_i hb;exact ⟨_,hb,ak⟩
 ·exact aea h k rfl
def aeZ (hΓ:∀g S,Γ g=ah S->Valid P G g S) {tr:aH} {D:aO->Prop} {o:aU} {lv:LV} (hW:RW G w0 Z0 Z β H wr) (hF:RF ds β Z wr (M H) F a)
  (hD:∀w',D w'->RW G w0 Z0 Z β H w'/\∀b,(Z b\/∃k bk,H[k]? =ah bk/\live β k bk/\tr.contains k=X/\b=(β k).b)->w'.heap[b]? =wr.heap[b]?)
  (h:(Y0 P G Γ tr F H o).all λz=>z=lv):∃v,(∀w',D w'->Nj P o a w' v)/\R β Z wr lv v/\okV (M H) lv:=by
 unfold Y0 at h;split at h
 ·cases h
 ·rename_i hsp
  simp only [CS,DB,not_or,Bool.not_eq_true,Sm] at hsp;obtain ⟨hsp,hap⟩:=hsp
  have ev:=λx=>hF.eval hW.Cy x
  have hFD:∀w',D w'->RF ds β Z w' (M H) F a:=λw' hw'=>hF.mono (Au _) (λ_ _=>rfl) (λ_ h=>h) λb hz=>(hD w' hw').2 b<|.inl hz
  split at h
  ·rename_i hcall
   obtain ⟨h1,hpl⟩:=aG6 h;obtain ⟨⟨lv',H'⟩,h2,h3⟩:=T.B7 h1
   have e3:lv'=lv:=h3
   subst e3;obtain ⟨x,hx⟩:=Zu.1 hpl
   have hm:P1 P o=true:=by unfold X2 at hcall;unfold P1;unfold isSp at hsp;split at hcall<;>simp_all
   have hH:H'=H:=T.R2 (p:=λq:LV×List AB=>q.2=H) (x:=(lv',H')) (sv hm) h2
   subst hH;refine ⟨x,λw' hw'=>?_,aNO hx,?_⟩
   ·have hs:=eY hΓ (hD w' hw').1 (hFD w' hw') h2
    have hrun:∃g vals,(execOp a.eval o).run P w'=.ok (.enter g vals) w':=by
     unfold X2 at hcall;split at hcall
     ·rename_i f args ty ho
      have h2':=h2
      unfold Ay at h2';simp only [ho] at h2';split at h2'
      ·rename_i g cap hf
       have hfr:=(ev f).1
       rw [hf] at hfr;simp only [R] at hfr;obtain ⟨ys,hy,_⟩:=hfr;obtain ⟨fn,S,k1,k2,k3,_⟩:=fM h2';exact ⟨_,_,aFR ho hy k1 k2 k3 w'⟩
      ·rename_i g fs hf
       have hfr:=(ev f).1
       rw [hf] at hfr;simp only [R] at hfr;obtain ⟨ys,hy,_⟩:=hfr;obtain ⟨fn,S,k1,k2,k3,_⟩:=fM h2';exact ⟨_,_,aFt ho hy k1 k2 k3 w'⟩
      ·cases h2'
     ·rename_i r name args ty ho
      have h2':=h2
      unfold Ay at h2';simp only [ho] at h2';cases h2'
     ·cases hcall
    obtain ⟨g,vals,hr⟩:=hrun;unfold Nj;rw [hr] at hs|-;simp only [Dt] at hs;refine ⟨rfl,hs.mono λe w'' ⟨v,he,Z',β',_,_,hrv,_,_,_,_,hn⟩=>?_⟩
    have hv:=Cs hx hrv
    subst hv;refine ⟨he,hn.os,hn.tape,hn.output,hn.size,λk hk=>hn.block k hk ?_⟩
    unfold X2 at hcall;split at hcall
    ·rename_i ho;simp [P5,Ed,ho,Dg]
    ·rename_i ho;simp [P5,Ed,ho,Dg]
    ·cases hcall
   ·cases lv' with
    |fn f l=>cases l with
     |nil=>trivial
     |cons _ _=>simp [pl] at hx
    |v _=>trivial
    |bl _=>trivial
    |ki _ _=>trivial
    |_=>simp [pl] at hx
  ·rename_i hnc
   obtain ⟨⟨lv',H'⟩,h2,h3⟩:=T.B7 h
   have e3:lv'=lv:=h3
   subst e3
   clear h3
   have val:∀ {v:aV},(∀w',D w'->(execOp a.eval o).run P w'=.ok (.value v) w')->R β Z wr lv' v->okV (M H) lv'->∃v,(∀w',D w'->Nj P o a w' v)/\R β Z wr lv' v/\okV (M H) lv':=λ{v} hrun hr hk=>
    ⟨v,λw' hw'=>by unfold Nj;rw [hrun w' hw'];exact A9,hr,hk⟩
   have hsel:∀cs b,o.op≠ .select cs b:=λcs b e=>by unfold Ay at h2;simp only [e] at h2;cases h2
   have same:∀ {t:T LV},(t.bind λy=>(T.ok (y,H):T<|LV×List AB)).all (λq=>q=(lv',H'))->t.all (λz=>z=lv'):=λh=>by
    obtain ⟨x,g1,g2⟩:=T.B7 h;simp only [T.all,Az] at g2;obtain ⟨rfl,rfl⟩:=g2;exact g1
   have gen:(Dd P G F o).all (λz=>z=lv')->∃v,(∀w',D w'->Nj P o a w' v)/\R β Z wr lv' v/\okV (M H) lv':=λhg=>by
    unfold Dd at hg;split at hg
    ·rename_i hpl
     split at hg
     ·rename_i y hy
      simp only [T.all] at hg
      have hcong:execOp a.eval o=execOp (λx=>(pl<|AM G F x).getD undef) o:=ng o hsel λx hx=>by
       have h1:=BO.1 hpl x aAn
       obtain ⟨z,hz⟩:=Zu.1 h1;rw [hz];exact Cs hz (ev x).1
      refine val (v:=y) (λw' _=>by rw [hcong];exact aI5 hy w') ?_ ?_<;>rw [<-hg]
      ·split
       ·exact aNH y
       ·exact E4
      ·split
       ·exact aXy y
       ·trivial
     ·cases hg
    ·cases hg
   have h:=h2
   unfold Ay at h;split at h
   ·cases h
   ·exact aNz
   ·exact aNz
   ·rename_i c x y ho
    obtain ⟨g,e1,e2,e3⟩:=aFf (same h) (ev c).1 (ev x).1 (ev y).1 (ev x).2 (ev y).2;exact val (v:=if g then a.eval x else a.eval y) (λw' _=>aQZ) e2 e3
   ·exact ND
   ·exact ND
   ·rename_i t x ho
    obtain ⟨z,e1,e2,e3⟩:=qh hW (same h) (ev x).1 (ev x).2;refine val (v:=z) (λw' hw'=>?_) e2 e3
    have hlv:=aed hW (same h) (ev x).1
    have:=e1 w' λb hb=>(hD w' hw').2 b (by
     rcases hb with hb|⟨k,e4,e5⟩
     ·exact .inl hb
     ·obtain ⟨⟨bk,l1,l2⟩,l3⟩:=hlv k e4
      refine .inr ⟨k,bk,l1,l2,?_,e5⟩;unfold uP at hap;simp only [ho] at hap;rcases l3 with ⟨off,l3⟩ |⟨es,i,j,l3⟩
      ·rw [l3] at hap;simpa using hap
      ·rw [l3] at hap;simpa using hap)
    simp [execOp,ho,this]
   ·exact ND
   ·rename_i s x i ho
    obtain ⟨z,e1,e2,e3⟩:=adU (w:=wr) (same h) (ev x).1 (ev x).2;exact nr
   ·rename_i t x i ho
    obtain ⟨z,e1,e2,e3⟩:=aEq (w:=wr) (same h) (ev x).1 (ev i).1 (ev x).2;exact nr
   ·rename_i t parts ho
    obtain ⟨z,e1,e2,e3⟩:=adV (β:=β) (Z:=Z) (w:=wr) (n:=M H) (pv:=parts.map λq=>(q.1,a.eval q.2)) (same h) Vb (by
     simp only [Oe,HM];refine RL.Cm AJ λi x hx=>?_
     rw [Dr] at hx|-;cases hq:parts.toList[i]? with
     |none=>simp [hq] at hx
     |some q=>simp [hq] at hx;subst hx;exact ⟨a.eval q.2,AJ,(gp<|ev q.2).1⟩) (by
     simp only [HM];refine AU.Cm λi x hx=>?_
     rw [Dr] at hx;cases hq:parts.toList[i]? with
     |none=>simp [hq] at hx
     |some q=>simp [hq] at hx;subst hx;exact (gp<|ev q.2).2)
    exact val (v:=z) (λw' _=>KN) e2 e3
   ·exact ND
   ·exact ND
   ·rename_i t x lo hi ho
    split at h
    ·exact NH
    ·have ro:∀q:Option Operand,RO β Z wr (q.map<|AM G F) (q.map a.eval):=λq=>by
      cases q with
      |none=>trivial
      |some q=>exact (ev q).1
     obtain ⟨z,e1,e2,e3⟩:=adI (w:=wr) (same h) (ev x).1 (ro lo) (ro hi) (ev x).2;exact nr
   ·rename_i t x lo hi mx ho
    split at h
    ·exact NH
    ·have ro:RO β Z wr (lo.map<|AM G F) (lo.map a.eval):=by
      cases lo with
      |none=>trivial
      |some q=>exact (ev q).1
     obtain ⟨z,e1,e2,e3⟩:=adC (w:=wr) (N:=M H) (same h) (ev x).1 ro (ev hi).1 (ev mx).1;exact nr
   ·exact ND
   ·exact ND
   ·exact ND
   ·rename_i t x i ho
    obtain ⟨z,e1,e2,e3⟩:=aFa hW (same h) (ev x).1 (ev i).1 (ev x).2;refine val (v:=z) (λw' hw'=>?_) e2 e3
    have hlv:=aec (β:=β)<|same h
    exact aNY
   ·rename_i t x i ho
    split at h
    ·exact NH
    ·obtain ⟨z,e1,e2,e3⟩:=adH hW (same h) (ev x).1 (ev i).1 (ev x).2
     refine val (v:=z) (λw' hw'=>?_) e2 e3
     have hlv:=aeH (β:=β)<|same h
     exact aNY
   ·rename_i x i ho
    split at h
    ·rename_i l hl
     split at h
     ·rename_i y hy
      simp only [T.all,Az] at h;obtain ⟨h1,_⟩:=h
      have hx:=ev x
      rw [hl] at hx;simp only [R,okV] at hx;obtain ⟨⟨ys,e1,e2⟩,e3⟩:=hx;obtain ⟨z,e4,e5⟩:=RL.get _ _ e2 hy
      have e6:ys[i]? =ah z:=by simpa using e4
      refine val (v:=z) (λw' _=>aQ8) ?_ ?_<;>rw [<-h1]
      ·exact e5
      ·exact AU.get _ _ e3 hy
     ·cases h
    ·exact NH
   ·rename_i t x i ho
    split at h
    ·rename_i l hl
     have hx:=ev x
     rw [hl] at hx;simp only [R,okV] at hx;obtain ⟨⟨ys,e1,e2⟩,e3⟩:=hx;obtain ⟨z,f1,f2,f3⟩:=aFw (same h) e2 e3;exact aPM
    ·exact NH
   ·rename_i f first cap ho
    split at h
    ·rename_i he
     simp only [T.all,Az] at h;obtain ⟨h1,_⟩:=h
     have hfirst:first=#[]:=by
      have:first.toList=[]:=cb
      exact QW
     refine val (v:=.func (.func f) #[]<|cap.map a.eval) (λw' _=>aQ4) ?_ ?_<;>rw [<-h1]
     ·exact aO8
     ·exact aNu
    ·split at h
     ·rename_i he
      simp only [T.all,Az] at h;obtain ⟨h1,_⟩:=h
      have hcap:cap=#[]:=by
       have:cap.toList=[]:=cb
       exact QW
      refine val (v:=.func (.func f) (first.map a.eval) #[]) (λw' _=>aQ9) ?_ ?_<;>rw [<-h1]
      ·exact aO6
      ·exact aNs
     ·cases h
   ·rename_i x ho
    have hx:=ev x
    split at h
    ·rename_i k off hl
     exact aOI
    ·rename_i k es i j hl
     exact aOI
    ·rename_i n f hl
     simp only [T.all,Az] at h;rw [hl] at hx
     have hx1:=hx.1
     simp only [R] at hx1;obtain ⟨b,off,e1,_⟩:=hx1;refine val (v:=a.eval x) (λw' _=>KN) ?_ ?_<;>rw [<-h.1]
     ·exact hx.1
     ·exact hx.2
    ·exact aOC
    ·exact aOC
    ·exact NH
   ·rename_i t x y t' ho
    split at h
    ·rename_i k n k' m hx hy
     split at h
     ·rename_i hk
      subst hk;simp only [T.all,Az] at h;obtain ⟨h0,h1,_⟩:=h
      have e1:=Cs hx (ev x).1
      have e2:=Cs hy (ev y).1
      refine val (v:=ag k<|k.wrap<|n.tdiv m) (λw' _=>oK) ?_ ?_<;>rw [<-h1]
      ·exact E4
      ·trivial
     ·cases h
    ·cases h
   ·rename_i t x y t' ho
    split at h
    ·rename_i k n k' m hx hy
     split at h
     ·rename_i hk
      subst hk;simp only [T.all,Az] at h;obtain ⟨h0,h1,_⟩:=h
      have e1:=Cs hx (ev x).1
      have e2:=Cs hy (ev y).1
      refine val (v:=ag k<|n.tmod m) (λw' _=>oK) ?_ ?_<;>rw [<-h1]
      ·exact E4
      ·trivial
     ·cases h
    ·cases h
   ·rename_i t x y t' ho
    split at h
    ·exact NH
    ·split at h
     ·rename_i k n k' m hx hy
      simp only [T.all,Az] at h;obtain ⟨h0,h1,_⟩:=h
      have e1:=Cs hx (ev x).1
      have e2:=Cs hy (ev y).1
      refine val (v:=ag k<|k.wrap<|n*2^(min m.toNat k.bits)) (λw' _=>oH) ?_ ?_<;>rw [<-h1]
      ·exact E4
      ·trivial
     ·cases h
   ·rename_i t x y t' ho
    split at h
    ·exact NH
    ·split at h
     ·rename_i k n k' m hx hy
      simp only [T.all,Az] at h;obtain ⟨h0,h1,_⟩:=h
      have e1:=Cs hx (ev x).1
      have e2:=Cs hy (ev y).1
      refine val (v:=ag k<|n.fdiv<|2^(min m.toNat k.bits)) (λw' _=>oH) ?_ ?_<;>rw [<-h1]
      ·exact E4
      ·trivial
     ·cases h
   ·rename_i t x i ho
    split at h
    ·rename_i l hl
     obtain ⟨ys,e1,e2,e3⟩:=aGE hl (ev x).1 (ev x).2;obtain ⟨z,f1,f2,f3⟩:=aG3 (same h) e2 e3 (ev i).1;exact aPM
    ·split at h
     ·rename_i s kd n hu hx hi
      simp only [T.all,Az] at h;obtain ⟨⟨h0,hlt⟩,h1,_⟩:=h
      have e1:=Cs hx (ev x).1
      have e2:=Cs hi (ev i).1
      have hb:n.toNat<s.size:=A0
      have hg:s[n.toNat]? =ah s[n.toNat]:=by simp [hb]
      refine val (v:=ag aw<|Ja s n) (λw' _=>aPm) ?_ ?_<;>rw [<-h1]
      ·exact E4
      ·trivial
     ·cases h
   ·rename_i ho;simp [X2,ho] at hnc
   ·rename_i ho;simp [X2,ho] at hnc
   ·exact ND
   ·exact ND
   ·rename_i args ty ho
    split at h
    ·rename_i k es off n e hl hu
     simp only [T.all,Az] at h;obtain ⟨h1,_⟩:=h;cases hargs:args.toList with
     |nil=>simp [hargs] at hl
     | cons x xs=>
      cases xs with
      |cons _ _=>simp [hargs] at hl
      | nil=>
       simp only [hargs,ES,LO,Hv,Oi] at hl
       have hx:=(ev x).1
       rw [hl] at hx;simp only [R] at hx
       have e1:∃ad cap,a.eval x=.slice ad n cap:=by
        exact aOs
       obtain ⟨ad,cap,e1⟩:=e1
       have ha:args=#[x]:=QY
       cases ht:ty[0]? with
       |none=>simp [ht] at hu
       |some t=>
        simp only [ht,Oh] at hu;refine val (v:=ag J n) (λw' _=>VO) ?_ ?_<;>rw [<-h1]
        ·exact E4
        ·trivial
    ·rename_i e' l e hl hu
     simp only [T.all,Az] at h;obtain ⟨h1,_⟩:=h;cases hargs:args.toList with
     |nil=>simp [hargs] at hl
     | cons x xs=>
      cases xs with
      |cons _ _=>simp [hargs] at hl
      | nil=>
       simp only [hargs,ES,LO,Hv,Oi] at hl
       have hx:=(ev x).1
       rw [hl] at hx;simp only [R] at hx;obtain ⟨ad,cap,e1,_⟩:=hx
       have ha:args=#[x]:=QY
       cases ht:ty[0]? with
       |none=>simp [ht] at hu
       |some t=>
        simp only [ht,Oh] at hu;refine val (v:=ag J (M l:Y)) (λw' _=>VO) ?_ ?_<;>rw [<-h1]
        ·exact E4
        ·trivial
    ·rename_i k' es' off' n' c' e hl hu
     simp only [T.all,Az] at h;obtain ⟨h1,_⟩:=h;cases hargs:args.toList with
     |nil=>simp [hargs] at hl
     | cons x xs=>
      cases xs with
      |cons _ _=>simp [hargs] at hl
      | nil=>
       simp only [hargs,ES,LO,Hv,Oi] at hl
       have hx:=(ev x).1
       rw [hl] at hx;simp only [R] at hx;obtain ⟨_,ad,e1,_⟩:=hx
       have ha:args=#[x]:=QY
       cases ht:ty[0]? with
       |none=>simp [ht] at hu
       |some t=>
        simp only [ht,Oh] at hu;refine val (v:=ag J n') (λw' _=>VO) ?_ ?_<;>rw [<-h1]
        ·exact E4
        ·trivial
    ·exact NH
   ·exact NH
def aEd (tr:aH):∀(H:aG) (k i:aC),(Eo tr k H)[i]? =(H[i]?).map λb=>if tr.contains (k+i) then Pq b else b
 | [],k,i=>by simp [Eo]
 |b::bs,k,0=>by simp [Eo]
 |b::bs,k,i+1=>by
  simp only [Eo,nJ];rw [aEd tr bs (k+1) i]
  have:k+1+i=k+(i+1):=A0
  rw [this]
def W5 (tr:aH):∀(H:aG) (k:aC),M (Eo tr k H)=M H
 | [],_=>rfl
 |_::bs,k=>by simp [Eo,W5 tr bs<|k+1]
def aLw:∀(ys:aT),RL β Z w (aq (M ys) .junk) ys
 | []=>cg
 |y::ys=>by simp only [Bm,Zr,RL];exact ⟨y,ys,rfl,KM,aLw ys⟩
def aHE (m:aC):∀(k:aC),AU m (aq k .junk)
 |0=>trivial
 |k+1=>⟨ak,aHE m k⟩
def Shp (tr:aH) (β:aC->aXS) (H:aG) (w:aO):Prop:=∀(k:aC) (b:AB),tr.contains k=U->H[k]? =ah b->b.E5=U->∃cs,w.heap[(β k).b]? =ah (.cells cs b.t (0,0))/\cs.size=M b.c
def ahU {b:AB}(h:b.E5=U):b.k=.cl:=by
 unfold AB.E5 at h;split at h
 ·assumption
 ·cases h
def aFW (b:AB):(b.E5=U/\Pq b=⟨aq (M b.c) .junk,b.t,.cl,b.p⟩)\/(b.E5=X/\Pq b=⟨[],b.t,.dead,X⟩):=by
 unfold Pq AB.E5;exact cH
def aek {b:AB}{k:aC}(h:live β k<|Pq b):live β k b/\(Pq b).p=b.p:=by
 rcases aFW b with ⟨h1,h2⟩ |⟨h1,h2⟩
 ·rw [h2];exact ⟨by unfold live;rw [ahU h1];trivial,rfl⟩
 ·rw [h2] at h;exact absurd h λh=>h
def RW.qq {tr:aH}(hW:RW G w0 Z0 Z β H wr) {b:aC}(hz:Z b):b∉Dg β H tr:=λhm=>by
 obtain ⟨k,bk,_,h2,h3,h4,rfl⟩:=fY.1 hm;exact hW.Cr k bk h2 h3 h4 hz
def RW.ad4 {tr:aH}(hW:RW G w0 Z0 Z β H wr) {k:aC}{b:AB}(hb:H[k]? =ah b) (hl:live β k b) (ht:k∉tr):(β k).b∉Dg β H tr:=λhm=>by
 obtain ⟨j,bj,h1,h2,h3,h4,h5⟩:=fY.1 hm
 have:=hW.inj j k bj b h2 hb h3 hl h4 h5.symm
 subst this;exact ht h1
def RW.mask {tr:aH}{w':aO}(hW:RW G w0 Z0 Z β H wr) (hn:De (Dg β H tr) wr w') (hb0:Below w0.heap.size w0 w') (hs:Shp tr β H w'):RW G w0 Z0 Z β (Eo tr 0 H) w':=by
 have hw:∀b,Z b->w'.heap[b]? =wr.heap[b]? :=λb hz=>hn.block b (hW.Bc b hz)<|hW.qq hz
 have old:∀k b,(Eo tr 0 H)[k]? =ah b->∃b0,H[k]? =ah b0/\(live β k b->live β k b0/\b.p=b0.p)/\((tr.contains k=U/\b=Pq b0)\/(tr.contains k=X/\b=b0)):=λk b hb=>by
  rw [aEd] at hb;cases hH:H[k]? with
  |none=>simp [hH] at hb
  | some b0=>
   simp only [hH,Jn,Aj,F8] at hb;refine ⟨b0,rfl,?_⟩;split at hb
   ·rename_i ht
    subst hb;exact ⟨aek,.inl ⟨ht,rfl⟩⟩
   ·rename_i ht
    grind
 refine ⟨hb0,λb hz=>?_,hW.Et,λk b hk hl hp=>?_,λk b hk hl hp=>?_,λk b hk hl=>?_,λi j bi bj hi hj li lj pi e=>?_,λk b hb=>?_,hW.Cy.mono (λ_ h=>h) hw,λp hp=>⟨R.mono (n:=M H) (λ_ _=>rfl) (λ_ h=>h) hw _ _ (hW.gh p hp).2 (hW.gh p hp).1,by rw [W5];exact (hW.gh p hp).2⟩,λD hD=>⟨(hW.Cv D hD).1,cG⟩⟩
 ·have:=hW.Bc b hz;have:=hn.size;omega
 ·obtain ⟨b0,h1,h2,_⟩:=old k b hk
  obtain ⟨h3,h4⟩:=h2 hl;exact hW.Cr k b0 h1 h3<|h4▸hp
 ·obtain ⟨b0,h1,h2,_⟩:=old k b hk
  obtain ⟨h3,h4⟩:=h2 hl;exact hW.GV k b0 h1 h3<|h4▸hp
 ·obtain ⟨b0,h1,h2,_⟩:=old k b hk
  exact hW.low k b0 h1 (h2 hl).1
 ·obtain ⟨b0,h1,h2,_⟩:=old i bi hi
  obtain ⟨c0,g1,g2,_⟩:=old j bj hj;exact hW.inj i j b0 c0 h1 g1 (h2 li).1 (g2 lj).1 ((h2 li).2▸pi) e
 ·obtain ⟨b0,h1,h2,h3⟩:=old k b hb
  obtain ⟨f1,f2⟩:=hW.blk k b0 h1;rw [W5];rcases h3 with ⟨ht,rfl⟩ |⟨ht,rfl⟩
  ·rcases aFW b0 with ⟨m1,m2⟩ |⟨m1,m2⟩
   ·rw [m2]
    obtain ⟨cs',g1,g2⟩:=hs k b0 ht h1 m1;refine ⟨⟨cs',g1,?_⟩,aHE _ _,ak⟩
    have:=aLw (β:=β) (Z:=Z) (w:=w') cs'.toList
    grind
   ·rw [m2]
    exact ⟨ak,ak,ak⟩
  ·have hkt:k∉tr:=A8
   exact ⟨f1.keep (λ_ _=>rfl) (λ_ h=>h) hw rfl (λhl=>hn.block _ (hW.lt h1 hl)<|hW.ad4 h1 hl hkt) f2,f2⟩
def aHt {o:aU}{g:bn}{l:aD}{lv:LV}{H':aG}(h:(Nw P Γ H o g l).all λq=>q=(lv,H')):EvL H H':=by
 have bd:∀ {t:T LV} {H1:aG},(t.bind λy=>(T.ok (y,H1):T<|LV×List AB)).all (λq=>q=(lv,H'))->H'=H1:=λh=>by
  obtain ⟨x,h1,h2⟩:=T.B7 h;simp only [T.all,Az] at h2
  grind
 obtain ⟨_,_,_,_,_,_,h⟩:=fM h;split at h
 ·rw [bd h];exact EvL.refl H
 ·split at h
  ·rw [bd h];exact EvL.refl H
  ·split at h
   ·rw [bd h];exact EvL.pub _
   ·cases h
def ah0 {o:aU} {lv:LV} {H':aG} (h:(Ay P G Γ F H o).all λq=>q=(lv,H')):EvL H H':=by
 by_cases hm:P1 P o=U
 ·have hH:H'=H:=T.R2 (p:=λq:LV×List AB=>q.2=H) (x:=(lv,H')) (sv hm) h
  rw [hH];exact EvL.refl H
 ·have bd:∀ {t:T LV} {H1:aG},(t.bind λy=>(T.ok (y,H1):T<|LV×List AB)).all (λq=>q=(lv,H'))->H'=H1:=λh=>by
   obtain ⟨x,h1,h2⟩:=T.B7 h;simp only [T.all,Az] at h2;exact h2.2.symm
  unfold P1 at hm;split at hm
  ·rename_i t ho
   unfold Ay at h;simp only [ho] at h;split at h
   ·exact bR
   ·cases h
  ·rename_i t x ho
   unfold Ay at h;simp only [ho] at h;exact bR
  ·rename_i t x y ho
   unfold Ay at h;simp only [ho] at h;obtain ⟨H1,h1,h2⟩:=T.B7 h;simp only [T.all,Az] at h2;obtain ⟨_,rfl⟩:=h2;exact aqF h1
  ·rename_i t n c ho
   unfold Ay at h;simp only [ho] at h;exact aqy h
  ·rename_i t r ho
   unfold Ay at h;cases r with
   | none=>
    simp only [ho] at h;split at h
    ·simp only [T.all,Az] at h
     rw [<-h.2];exact EvL.app _ _
    ·exact bR
   |some r=>
    simp only [ho] at h;rw [bd h];exact EvL.refl H
  ·exact aO0
  ·exact aO0
  ·rename_i t len parts ho
   unfold Ay at h;simp only [ho] at h;split at h
   ·split at h
    ·unfold Tp at h
     exact bR
    ·cases h
   ·split at h
    ·split at h
     ·unfold dA at h
      split at h
      ·obtain ⟨y,h1,h2⟩:=T.B7 h
       split at h2
       ·simp only [T.all,Az] at h2
        rw [<-h2.2];exact (EvL.pub _).trans<|EvL.app _ _
       ·cases h2
      ·cases h
     split at h
     ·rw [bd h];exact EvL.refl H
     ·unfold pW at h
      split at h
      ·obtain ⟨y,h1,h2⟩:=T.B7 h
       simp only [T.all,Az] at h2;rw [<-h2.2];exact EvL.pub _
      ·cases h
    unfold pX at h;split at h
    ·split at h
     ·split at h
      ·exact bR
      ·cases h
     ·cases h
    ·cases h
  ·rename_i args ty ho
   unfold Ay at h;simp only [ho] at h;split at h
   ·exact af4 h
   ·cases h
  ·rename_i args ty ho
   unfold Ay at h;simp only [ho] at h;split at h
   ·exact arU h
   ·cases h
  ·rename_i f args ty ho
   unfold Ay at h;simp only [ho] at h;split at h
   ·exact aHt h
   ·exact aHt h
   ·cases h
  ·rename_i r name args ty ho
   unfold Ay at h;simp only [ho] at h;cases h
  ·simp at hm
def Wd (hΓ:∀g S,Γ g=ah S->Valid P G g S) {ops:aK}{tr:aH}{Hm:aG}{D:aO->Prop}{K:bg->Prop}{F':aD}{HH:aG}(hlen:M Hm=M H)
  (hW:RW G w0 Z0 Z β Hm wr) (hD:∀w',D w'->RW G w0 Z0 Z β Hm w'/\∀b,(Z b\/∃k bk,Hm[k]? =ah bk/\live β k bk/\tr.contains k=X/\b=(β k).b)->w'.heap[b]? =wr.heap[b]?)
  (hK:∀a1,RF ds β Z wr (M H) F' a1->K a1):∀(fs:bh) (os:bx) (F:aD) (a:bg),M fs=M os->RF ds β Z wr (M H) F a->
   (II P G Γ ops tr HH Hm fs os F).all (λq=>q=(F',HH))->IH P ops D K fs os a
 | [],[],F,a,_,hF,h=>by
  simp only [II,T.all,Az,Oi] at h;subst h;exact aqJ (hK a hF)
 | [],_::_,_,_,hl,_,_=>cj
 |_::_,[],_,_,hl,_,_=>cj
 | f ::fs,o::os,F,a,hl,hF,h=>by
  have hl':M fs=M os:=oa
  simp only [II] at h;simp only [IH];split at h
  ·rename_i hf
   rw [AD hf];exact Wd hΓ hlen hW hD hK fs os F a hl' hF h
  ·rename_i hf
   rw [AE hf]
   have goOk:∀(F:aD),RF ds β Z wr (M H) F a->((Y0 P G Γ tr F Hm o).bind λy=>II P G Γ ops tr HH Hm fs os<|Av F o.dst y).all (λq=>q=(F',HH))->calm P o a D (IH P ops D K fs os):=λF hF h=>by
    obtain ⟨lv,h1,h2⟩:=T.B7 h;obtain ⟨v,g1,g2,g3⟩:=aeZ hΓ hW (by rw [hlen];exact hF) hD h1
    exact ⟨v,g1,Wd hΓ hlen hW hD hK fs os _ _ hl' (hF.put g2 (by rw [<-hlen];exact g3) o.dst) h2⟩
   have passOk:∀(F:aD),RF ds β Z wr (M H) F a->(II P G Γ ops tr HH Hm fs os<|Av F o.dst<|.v undef).all (λq=>q=(F',HH))->IH P ops D K fs os (a.put o.dst undef):=λF hF h=>
    Wd hΓ hlen hW hD hK fs os _ _ hl' (hF.pass o.dst) h
   split at h
   ·rename_i hg
    have hw:az o (yielded ops a.tmps)=true:=oR
    rw [AD hw];exact goOk F hF h
   ·rename_i j want hg
    split at h
    ·rename_i d hd
     split at h
     ·rename_i b hb
      obtain ⟨s1,s2⟩:=hF.slot hb AJ
      have hv:=(hF.get d _ s1).1
      simp only [R] at hv;rw [hv] at s2;rw [WK hg hd s2];split at h
      ·grind
      ·grind
     ·rename_i g hb
      obtain ⟨s1,s2⟩:=hF.slot hb AJ
      have hv:=(hF.get d _ s1).1
      simp only [R] at hv
      have kn:∀b,g=b->RF ds β Z wr (M H) (F.set d<|.bl b) a:=λb e=>hF.know oS trivial
      rw [hv] at s2;rw [WK hg hd s2];split at h
      ·rename_i hwt
       subst hwt;cases hgg:g with
       |true=>simp only [Oc,Bu];exact goOk _ (kn U hgg) (h.1 hgg)
       |false=>rw [AE AJ];exact passOk _ (kn X hgg)<|h.2 hgg
      ·rename_i hwt
       have hwt':want=false:=aAK
       subst hwt';cases hgg:g with
       |true=>rw [AE AJ];exact passOk _ (kn U hgg) (h.1 hgg)
       |false=>simp only [Oc,Bu];exact goOk _ (kn X hgg)<|h.2 hgg
     ·rename_i vs hb
      obtain ⟨s1,s2⟩:=hF.slot hb AJ
      have hv:=(hF.get d _ s1).1
      exact aOS
     ·cases h
    ·cases h
def WN {ops:aK}{tr:aH}{Hm:aG}{F0:aD}:∀(fs:bh) (os:bx) (F:aD),(∀o∈os,o∈ops.toList)->M F=M F0/\(∀i,i∉Fb ops.toList->F[i]? =F0[i]?)->
  (II P G Γ ops tr H Hm fs os F).lv (Keeps (Fb ops.toList) F0 H)
 | [],_,F,_,h=>aPp
 |_::_,[],F,_,h=>aPp
 | f ::fs,o::os,F,hin,h=>by
  have hin':∀o∈os,o∈ops.toList:=λo ho=>hin o A8
  have hdo:∀t,o.dst=ah t->t∈Fb ops.toList:=λt ht=>So.2 ⟨o,hin o AJ,ht⟩
  have go:∀F:aD,M F=M F0/\(∀i,i∉Fb ops.toList->F[i]? =F0[i]?)->((Y0 P G Γ tr F Hm o).bind λy=>II P G Γ ops tr H Hm fs os<|Av F o.dst y).lv (Keeps (Fb ops.toList) F0 H):=λF hF=>
   T.TZ (p:=λ_=>True) (λq _=>WN fs os _ hin'<|WE hF hdo _) (T.Wq (λ_=>trivial) _)
  have pass:∀F:aD,M F=M F0/\(∀i,i∉Fb ops.toList->F[i]? =F0[i]?)->(II P G Γ ops tr H Hm fs os<|Av F o.dst<|.v undef).lv (Keeps (Fb ops.toList) F0 H):=λF hF=>
   WN fs os _ hin' (WE hF hdo _)
  simp only [II];split
  ·exact WN fs os F hin' h
  ·split
   ·exact go F h
   ·rename_i j want hg
    split
    ·rename_i d hd
     have hdd:d∈Fb ops.toList:=by
      cases hj:ops[j]? with
      |none=>simp [hj] at hd
      |some oj=>simp [hj] at hd;exact So.2 ⟨oj,A8,hd⟩
     split
     ·split
      ·exact go F h
      ·grind
     ·exact aNp
     ·grind
     ·trivial
    ·trivial
structure Gh where
 Z:aC->Prop
 β:aC->Loc
 H:aG
 F:aD
 a:bg
structure Co (ds:aXR) (G:BA) (w0:aO) (Z0:Gz) (tr:aH) (β:aC->aXS) (H:aG) (wr:aO) (g:Gh) (w':aO):Prop where
 rw:RW G w0 Z0 g.Z g.β g.H w'
 rf:RF ds g.β g.Z w' (M g.H) g.F g.a
 near:De (Dg β H tr) wr w'
 len:M H<=M g.H
 old:∀k,k<M H->g.β k=β k
 new:∀k,M H<=k->k<M g.H->wr.heap.size<=(g.β k).b\/(g.β k).b∈Dg β H tr
 KH:EvL H g.H
def Co.keep {tr:aH}{g:Gh}{w' w'':aO}(h:Co ds G w0 Z0 tr β H wr g w') (hb:Below w'.heap.size w' w''):Co ds G w0 Z0 tr β H wr g w'':=
 ⟨h.rw.same hb,h.rf.mono (Au _) (λ_ _=>rfl) (λ_ h=>h) λb hz=>EJ hb<|h.rw.Bc b hz,aeV h.near hb,h.len,h.old,h.new,h.KH⟩
def Co.shape {tr:aH}{g:Gh}{w':aO}(h:Co ds G w0 Z0 tr β H wr g w'):Shp tr β H w':=λk b _ hb hcl=>by
 obtain ⟨b',e1,e2⟩:=h.KH k b hb;obtain ⟨c1,c2,c3⟩:=e2.cl hcl;obtain ⟨_,⟨cs,f2,f3⟩,_⟩:=tN h.rw e1 c1
 have hk:=(EI.1 hb).1
 rw [h.old k hk,c2] at f2;refine ⟨cs,f2,?_⟩
 have:=RL.length f3
 simp at this
 omega
def Co.touch {tr:aH}{g:Gh}{o:aU}{w':aO}(hc:Co ds G w0 Z0 tr β H wr g w') (hst:C7 G g.F tr (M H) o=U) {x:aC}(hx:x∈Dg g.β g.H (Ed G g.F o)):wr.heap.size<=x\/x∈Dg β H tr:=by
 obtain ⟨k,b,h1,h2,h3,h4,rfl⟩:=fY.1 hx
 have hkg:=(EI.1 h2).1
 by_cases hk:k<M H
 ·right
  have:=BO.1 hst k h1
  simp only [CS,Ac] at this
  have hkt:k∈tr:=by
   rcases this with h|h
   ·grind
   ·omega
  obtain ⟨b0,hb0⟩:∃b0,H[k]? =ah b0:=⟨_,Di hk⟩;obtain ⟨b',e1,e2⟩:=hc.KH k b0 hb0;rw [h2] at e1;simp only [Aj] at e1;subst e1;refine fY.2 ⟨k,b0,hkt,hb0,?_,e2.p h4,by rw [hc.old k hk]⟩
  have:=e2.live g.β k h3
  rwa [KY<|hc.old k hk] at this
 ·exact hc.new k A0 hkg
def fE (hΓ:∀g S,Γ g=ah S->Valid P G g S) {tr:aH}{g:Gh}{o:aU}{lv:LV}{H1:aG}{w':aO}(hst:C7 G g.F tr (M H) o=U) (h1:(Ay P G Γ g.F g.H o).all λq=>q=(lv,H1)) (hc:Co ds G w0 Z0 tr β H wr g w'):
  Dt P (λv w''=>∃g':Gh,Co ds G w0 Z0 tr β H wr g' w''/\g'.F=Av g.F o.dst lv/\g'.H=H1/\g'.a=g.a.put o.dst v) ((execOp g.a.eval o).run P w'):=by
 refine LY (λv w'' ⟨Z',β',e1,e2,e3,e4,e5,e6,e7,e8⟩=>?_)<|eY hΓ hc.rw hc.rf h1
 refine ⟨⟨Z',β',H1,Av g.F o.dst lv,g.a.put o.dst v⟩,?_,rfl,rfl,rfl⟩
 have hsz:=hc.near.size
 refine ⟨e1,e2.put e3 e4 o.dst,⟨e8.os.trans hc.near.os,e8.tape.trans hc.near.tape,e8.output.trans hc.near.output,I2 hsz e8.size,λk hk hn=>?_⟩,I2 hc.len e5,λk hk=>?_,λk h3 h4=>?_,hc.KH.trans<|ah0 h1⟩
 ·exact aO5
 ·show β' k=β k
  rw [e6 k<|bH hk hc.len];exact hc.old k hk
 ·show wr.heap.size<=(β' k).b\/(β' k).b∈Dg β H tr
  by_cases hkk:k<M g.H
  ·rw [e6 k hkk];exact hc.new k h3 hkk
  ·rcases e7 k A0 h4 with h|h
   ·omega
   ·exact hc.touch hst h
def rZ {T':Type}{C:T'->aO->Prop}{Q':bg->aO->Prop}{ops:aK}{g g1:T'}(hs:∀w',C g w'->C g1 w'):∀(fs:bh) (os:bx) (a:bg),
  HA P ops C (λa' g'=>∀w',C g' w'->Q' a' w') fs os a g1->HA P ops C (λa' g'=>∀w',C g' w'->Q' a' w') fs os a g
 | [],_,a,h=>by
  simp only [HA] at h|-
  grind
 |_::_,[],a,h=>by
  simp only [HA] at h|-
  grind
 | f::fs,o::os,a,h=>by
  simp only [HA] at h|-;split
  ·rename_i hf
   rw [AD hf] at h;split
   ·rename_i hw
    rw [AD hw] at h;exact λw' hw'=>h w'<|hs w' hw'
   ·rename_i hw
    rw [AE hw] at h;exact rZ hs fs os _ h
  ·rename_i hf
   rw [AE hf] at h;exact rZ hs fs os a h
def rY (hΓ:∀g S,Γ g=ah S->Valid P G g S) {ops:aK}{tr:aH}{Q:bg->aO->Prop}{F':aD}{H':aG}
  (hQ:∀g:Gh,g.F=F'->g.H=H'->∀w',Co ds G w0 Z0 tr β H wr g w'->Q g.a w'):∀(fs:bh) (os:bx) (g:Gh),M fs=M os->(∃w',Co ds G w0 Z0 tr β H wr g w')->
   (p2x P G Γ ops tr (M H) fs os g.F g.H).all (λq=>q=(F',H'))->HA P ops (Co ds G w0 Z0 tr β H wr) (λa' g'=>∀w',Co ds G w0 Z0 tr β H wr g' w'->Q a' w') fs os g.a g
 | [],[],g,_,_,h=>by
  simp only [p2x,T.all,Az] at h;exact aqI (hQ g h.1 h.2)
 | [],_::_,_,hl,_,_=>cj
 |_::_,[],_,hl,_,_=>cj
 | f ::fs,o::os,g,hl,hex,h=>by
  have hl':M fs=M os:=oa
  simp only [p2x] at h;simp only [HA];split at h
  ·rename_i hf
   rw [AD hf]
   have turn:∀(F1:aD),(∀w',Co ds G w0 Z0 tr β H wr g w'->RF ds g.β g.Z w' (M g.H) F1 g.a)->∀w',Co ds G w0 Z0 tr β H wr g w'->Co ds G w0 Z0 tr β H wr ⟨g.Z,g.β,g.H,F1,g.a⟩ w':=λF1 hF1 w' hc=>⟨hc.rw,hF1 w' hc,hc.near,hc.len,hc.old,hc.new,hc.KH⟩
   have goOk:∀(F1:aD),(∀w',Co ds G w0 Z0 tr β H wr g w'->RF ds g.β g.Z w' (M g.H) F1 g.a)->(if C7 G F1 tr (M H) o then (Ay P G Γ F1 g.H o).bind λq=>p2x P G Γ ops tr (M H) fs os (Av F1 o.dst q.1) q.2 else .no).all (λq=>q=(F',H'))->
     UT P o g.a (Co ds G w0 Z0 tr β H wr) g (HA P ops (Co ds G w0 Z0 tr β H wr) (λa' g'=>∀w',Co ds G w0 Z0 tr β H wr g' w'->Q a' w') fs os):=λF1 hF1 h=>by
    split at h
    ·rename_i hst
     obtain ⟨⟨lv,H1⟩,h1,h2⟩:=T.B7 h;intro w' hc;refine LY (λv w'' ⟨g',e1,e2,e3,e4⟩=>⟨g',e1,?_⟩)<|fE (g:=⟨g.Z,g.β,g.H,F1,g.a⟩) hΓ hst h1<|turn F1 hF1 w' hc
     have:=rY hΓ hQ fs os g' hl' ⟨w'',e1⟩ (by rw [e2,e3];exact h2)
     rw [e4] at this;exact this
    ·cases h
   have passOk:∀(F1:aD),(∀w',Co ds G w0 Z0 tr β H wr g w'->RF ds g.β g.Z w' (M g.H) F1 g.a)->(p2x P G Γ ops tr (M H) fs os (Av F1 o.dst<|.v undef) g.H).all (λq=>q=(F',H'))->
     HA P ops (Co ds G w0 Z0 tr β H wr) (λa' g'=>∀w',Co ds G w0 Z0 tr β H wr g' w'->Q a' w') fs os (g.a.put o.dst undef) g:=λF1 hF1 h=>by
    have ps:∀w',Co ds G w0 Z0 tr β H wr g w'->Co ds G w0 Z0 tr β H wr ⟨g.Z,g.β,g.H,Av F1 o.dst<|.v undef,g.a.put o.dst undef⟩ w':=λw' hc=>⟨hc.rw,(hF1 w' hc).pass o.dst,hc.near,hc.len,hc.old,hc.new,hc.KH⟩
    refine rZ (Q':=Q) (g1:=⟨g.Z,g.β,g.H,Av F1 o.dst<|.v undef,g.a.put o.dst undef⟩) ps fs os _ ?_;exact rY hΓ hQ fs os ⟨g.Z,g.β,g.H,Av F1 o.dst<|.v undef,g.a.put o.dst undef⟩ hl' (hex.imp λw' hc=>ps w' hc) h
   obtain ⟨wx,hcx⟩:=hex
   have hF:=hcx.rf
   split at h
   ·rename_i hg
    have hw:az o (yielded ops g.a.tmps)=true:=oR
    rw [AD hw];exact goOk g.F (λw' hc=>hc.rf) h
   ·rename_i j want hg
    split at h
    ·rename_i d hd
     split at h
     ·rename_i b hb
      obtain ⟨s1,s2⟩:=hF.slot hb AJ
      have hv:=(hF.get d _ s1).1
      simp only [R] at hv;rw [hv] at s2;rw [WK hg hd s2];split at h
      ·rename_i e;subst e;simp only [Oc,Bu];exact goOk g.F (λw' hc=>hc.rf) h
      ·rename_i e;rw [AE aAe];exact passOk g.F (λw' hc=>hc.rf) h
     ·rename_i b hb
      obtain ⟨s1,s2⟩:=hF.slot hb AJ
      have hv:=(hF.get d _ s1).1
      simp only [R] at hv
      have kn:∀c,b=c->∀w',Co ds G w0 Z0 tr β H wr g w'->RF ds g.β g.Z w' (M g.H) (g.F.set d<|.bl c) g.a:=λc e w' hc=>hc.rf.know oS trivial
      rw [hv] at s2;rw [WK hg hd s2];split at h
      ·rename_i hwt
       subst hwt;cases hgg:b with
       |true=>simp only [Oc,Bu];exact goOk _ (kn U hgg) (h.1 hgg)
       |false=>rw [AE AJ];exact passOk _ (kn X hgg)<|h.2 hgg
      ·rename_i hwt
       have hwt':want=false:=aAK
       subst hwt';cases hgg:b with
       |true=>rw [AE AJ];exact passOk _ (kn U hgg) (h.1 hgg)
       |false=>simp only [Oc,Bu];exact goOk _ (kn X hgg)<|h.2 hgg
     ·rename_i vs hb
      obtain ⟨s1,s2⟩:=hF.slot hb AJ
      have hv:=(hF.get d _ s1).1
      simp only [R] at hv;rw [hv] at s2;rw [ad3 hg hd s2,AE AJ];exact passOk g.F (λw' hc=>hc.rf) h
     ·cases h
    ·cases h
  ·rename_i hf
   rw [AE hf];exact rY hΓ hQ fs os g hl' hex h
def T.swap {α γ:Type}{K:α->γ->Prop}{t:T α}{u:T γ}:t.all (λx=>u.all λy=>K x y)->u.all (λy=>t.all λx=>K x y):=by
 intro h;obtain ⟨x,h1,h2⟩:=T.pick h;refine T.BQ (λy hy=>?_) h1
 exact T.BQ (λz hz=>A8) h2
def FT {F:aD}{d:bA}{y:LV}{x:aXT}(h:∀t,d=ah t->x≠ .tmp t):AM G (Av F d y) x=AM G F x:=by
 cases d with
 |none=>rfl
 | some t=>
  cases x with
  |tmp s=>
   have hne:s≠t:=λe=>h t rfl<|by rw [e]
   simp only [AM,Av,List.getD,Zq<|KL hne]
  |_=>rfl
def looks {ops:aK}{o:aU}{d:bA}(h:∀t,d=ah t->t∉o.looksAt ops):∀x∈o.op.operands,∀t,d=ah t->x≠ .tmp t:=λx hx t ht e=>h t ht (by
 subst e;exact List.mem_append_left _<|So.2 ⟨.tmp t,A8,rfl⟩)
def Lb {F:aD}{d e:bA}{x y:LV}(h:∀t,d=ah t->e≠ah t):Av (Av F d x) e y=Av (Av F e y) d x:=by
 cases d with
 |none=>rfl
 | some t=>
  cases e with
  |none=>rfl
  |some s=>
   have:t≠s:=λe=>h t rfl<|by rw [e]
   exact List.set_comm _ _ A0
def Lf {ops:aK}{o:aU}{d:bA}{y:LV}(h:∀t,d=ah t->t∉o.looksAt ops):Hp P G Γ (Av F d y) o=Hp P G Γ F o:=by
 have hl:=looks h
 unfold Hp;split
 ·rename_i t len parts ho
  have em:(parts.toList.map λq=>(q.1,AM G (Av F d y) q.2))=parts.toList.map λq=>(q.1,AM G F q.2):=Jo λq hq=>by
   rw [FT<|hl q.2 aAB]
  rw [em]
 ·rename_i f args ty ho
  have e1:AM G (Av F d y) f=AM G F f:=FT<|hl f aQP
  have e2:(args.toList.map λx=>norm<|AM G (Av F d y) x)=args.toList.map λx=>norm (AM G F x):=Jo λx hx=>by
   rw [FT<|hl x cE]
  rw [e1,e2]
 ·rfl
def uR {ops:aK}{o:aU}{d:bA}{y:LV}(ha:Kx o=U) (h:∀t,d=ah t->t∉o.looksAt ops):Ay P G Γ (Av F d y) H o=Ay P G Γ F H o:=by
 have hl:=looks h
 unfold Kx at ha;split at ha
 ·rename_i t ho
  unfold Ay
  grind
 ·rename_i t x ho
  unfold Ay;simp only [ho];exact nQ
 ·rename_i t x ho
  unfold Ay;simp only [ho];exact nQ
 ·cases ha
def dz {tr:aH}{n0:aC}{o:aU}{F:aD}(h:Er o=U\/HU o=U):C7 G F tr n0 o=true:=by
 have hw:Ed G F o=[]:=by
  unfold Ed;split
  ·exact bU
  ·exact bU
  ·exact bU
  ·exact bU
  ·exact bU
  ·rfl
 unfold C7;rw [hw];rfl
def W8 {tr:aH}{n0:aC}{o:aU}{F:aD}(h:Kx o=U\/HU o=U):C7 G F tr n0 o=true:=by
 have hw:Ed G F o=[]:=by
  unfold Ed;split
  ·exact bW
  ·exact bW
  ·exact bW
  ·exact bW
  ·exact bW
  ·rfl
 unfold C7;rw [hw];rfl
def PB {ops:aK}{i:aC}{o:aU}(h:FK ops i o=U):HU o=true:=by
 unfold FK at h;rw [AY,AY] at h;exact h.1.1
def aq2 {ops:aK}{tr:aH}{n0:aC}{i j:aC}{is:aH}{K:List LV×List AB->Prop}(x y:aU) (hx:ops[i]? =ah x) (hy:ops[j]? =ah y) (g1:x.guard.isNone=U) (g2:y.guard.isNone=U) (g3:((Kx x=U/\FK ops j y=U)\/(FK ops i x=U/\Kx y=U))\/(FK ops i x=U/\FK ops j y=U)) (hap:x.apart ops y=U) (h:(Fj P G Γ ops tr n0 (j::i::is) F H).all K):(Fj P G Γ ops tr n0 (i::j::is) F H).all K:=by
 obtain ⟨a1,a2,a3⟩:=bP hap
 have sx:∀F:aD,C7 G F tr n0 x=true:=λF=>by
  rcases g3 with (g3|g3) |g3
  ·exact W8<|.inl g3.1
  ·exact W8<|.inr<|PB g3.1
  ·exact W8<|.inr<|PB g3.1
 have sy:∀F:aD,C7 G F tr n0 y=true:=λF=>by
  rcases g3 with (g3|g3) |g3
  ·exact W8<|.inr<|PB g3.2
  ·exact W8<|.inl g3.2
  ·exact W8<|.inr<|PB g3.2
 have notboth:∀o:aU,HU o=U->Kx o=U->False:=λo h1 h2=>by
  unfold HU at h1;split at h1
  ·rename_i ho;simp [Kx,ho] at h2
  ·rename_i ho;simp [Kx,ho] at h2
  ·cases h1
 simp only [Fj,hx,hy,g1,g2,sx,sy,Bool.and_self,Bu] at h|-;rw [T.all_bind] at h|-;rcases g3 with (⟨g3,g4⟩ |⟨g3,g4⟩) |⟨g3,g4⟩
 ·have nx:¬FK ops i x=true:=λe=>notboth x (PB e) g3
  simp only [GH,AD g4,AE nx] at h|-;rw [T.all_bind] at h
  have h2:=T.BQ (λz hz=>by
   simp only [T.all] at hz;rw [T.all_bind,uR g3 a3] at hz;exact hz) h
  refine T.BQ (λq hq=>?_)<|T.swap h2
  rw [T.all_bind,T.all_bind,Lf a1];refine T.BQ (λz hz=>?_) hq
  simp only [T.all]
  rwa [Lb a2]
 ·have ny:¬FK ops j y=true:=λe=>notboth y (PB e) g4
  simp only [GH,AD g3,AE ny] at h|-;rw [T.all_bind]
  have h2:=T.BQ (λz hz=>by
   rw [T.all_bind,T.all_bind,Lf a3] at hz;exact hz) h
  refine T.BQ (λq hq=>?_)<|T.swap h2
  simp only [T.all];rw [T.all_bind,uR g4 a1];refine T.BQ (λz hz=>?_) hq
  rwa [Lb a2]
 ·simp only [GH,AD g3,AD g4] at h|-
  rw [T.all_bind] at h|-
  have h2:=T.BQ (λz hz=>by
   simp only [T.all] at hz;rw [T.all_bind,T.all_bind,Lf a3] at hz;exact hz) h
  refine T.BQ (λq hq=>?_)<|T.swap h2
  simp only [T.all];rw [T.all_bind,T.all_bind,Lf a1];refine T.BQ (λz hz=>?_) hq
  simp only [T.all] at hz|-
  rwa [Lb a2]
def qj {ops:aK}{o:aU}{d:bA}{y:LV}(hs:∀cs b,o.op≠ .select cs b) (h:∀t,d=ah t->t∉o.looksAt ops):Dd P G (Av F d y) o=Dd P G F o:=by
 have hl:=looks h
 have e:∀x∈o.op.operands,AM G (Av F d y) x=AM G F x:=λx hx=>FT<|hl x hx
 unfold Dd
 have e1:o.op.operands.toList.all (λx=>SP<|AM G (Av F d y) x)=o.op.operands.toList.all (λx=>SP<|AM G F x):=by
  grind
 have e3:o.op.operands.toList.all (λx=>dB<|AM G (Av F d y) x)=o.op.operands.toList.all (λx=>dB<|AM G F x):=by
  grind
 have e2:OW P o (λx=>(pl<|AM G (Av F d y) x).getD undef)=OW P o (λx=>(pl<|AM G F x).getD undef):=by
  have c:=ng (ρ:=λx=>(pl<|AM G (Av F d y) x).getD undef) (ρ':=λx=>(pl<|AM G F x).getD undef) o hs λx hx=>A8
  unfold OW;rw [c]
  have a:R8 P o.op (λx=>(pl<|AM G (Av F d y) x).getD undef)=R8 P o.op (λx=>(pl<|AM G F x).getD undef):=by
   exact aO2
  rw [a]
 grind
def adX {ops:aK}{o:aU}{d:bA}{y:LV}(h:∀t,d=ah t->t∉o.looksAt ops):pux P G Γ (Av F d y) o=pux P G Γ F o:=by
 have hl:=looks h
 have e:∀x∈o.op.operands,AM G (Av F d y) x=AM G F x:=λx hx=>FT<|hl x hx
 unfold pux;split
 ·exact aPW
 ·exact aPW
 ·rename_i c x z ho;rw [e c EU,e x EU,e z EU]
 ·rename_i t x ho;rw [e x EU]
 ·rename_i s x i ho;rw [e x EU]
 ·rename_i t x i ho;rw [e x EU,e i EU]
 ·rename_i t parts ho
  congr 1
  refine Jo λq hq=>?_
  have e':=e q.2 aAB
  have:IC G (Av F d y) q.2=IC G F q.2:=by
   generalize q.2=x at e';cases x<;>first|rfl|exact e'
  rw [this]
 ·exact Lf h
 ·exact Lf h
 ·rename_i ho;exact qj (λcs b e=>A8) h
 ·rename_i op _ _ _ _ ho
  split
  ·rfl
  ·rfl
  ·rfl
  ·rfl
  ·exact qj (λcs b e=>A8) h
 ·rfl
def ade {d:bA}{y:LV}{x:aXT}(h:AM G (Av F d y) x=AM G F x):IC G (Av F d y) x=IC G F x:=by
 cases x<;>simp only [IC,h]
def hpx (P:aR) (G:BA) (F:aD) (H:aG) (o:aU):T LV:=
 match o.op with
 | .move x=> .ok (AM G F x)
 | .assign x=> .ok (AM G F x)
 | .load t x=>FX P H t (AM G F x)
 | .indexAddr t x i=>R3 P t (AM G F x) (SQ<|AM G F i) (AM G F i)
 | .fieldAddr s x i=>Wz P s (AM G F x) i
 | .extract x i=>(match AM G F x with
  | .AQ l=>(match l[i]? with
   |some y=> .ok y
   |none=> .no)
  |_=>Dd P G F o)
 | .binOp ..=>Dd P G F o
 | .call ..=>Dd P G F o
 | .build t parts=>Nk P t (parts.toList.map λq=>(q.1,IC G F q.2))
 |_=> .no
def sq {o:aU}(h:(Iq o ||GZ o)=U):(∃x,o.op=.move x)\/(∃x,o.op=.assign x)\/(∃t x,o.op=.load t x)\/(∃t x i,o.op=.indexAddr t x i)\/(∃t x y u,o.op=.binOp .add t x y u)\/(∃t x y u,o.op=.binOp .sub t x y u)\/(∃x i,o.op=.extract x i)\/(∃x i,o.op=.call {callee:=.builtin .max,args:=x,argTypes:=i})\/(∃x i,o.op=.call {callee:=.builtin .min,args:=x,argTypes:=i})\/(∃s x i,o.op=.fieldAddr s x i)\/(∃t x y u,o.op=.binOp .mul t x y u)\/(∃t ps,o.op=.build t ps):=by
 rcases Sn.1 h with h|h
 ·unfold Iq at h
  split at h
  ·grind
  ·grind
  ·grind
  ·grind
  ·grind
  ·grind
  ·grind
  ·grind
  ·rename_i ho
   split at h
   ·grind
   ·grind
   ·grind
   ·cases h
  ·cases h
 ·unfold GZ at h
  exact o5
def ahV {ops:aK}{k:aC}{o:aU}(h:(Iq o ||GZ o)=U):GH P G Γ ops k F H o=(hpx P G F H o).bind λy=> .ok (y,H):=by
 rcases sq h with ⟨x,ho⟩ |⟨x,ho⟩ |⟨t,x,ho⟩ |⟨t,x,i,ho⟩ |⟨t,x,y,u,ho⟩ |⟨t,x,y,u,ho⟩ |⟨x,i,ho⟩ |⟨x,i,ho⟩ |⟨x,i,ho⟩ |⟨t,x,i,ho⟩ |⟨t,x,y,u,ho⟩ |⟨t,ps,ho⟩
 case inr.inr.inr.inr.inr.inr.inl=>
  unfold GH FK HU Ay hpx;simp only [ho,QM,Hy,GL];generalize AM G F x=v;cases v
  case AQ l=>
   dsimp only;cases l[i]? <;>rfl
  all_goals rfl
 all_goals (unfold GH FK HU Ay hpx;simp [ho,T.bind])
def s7 {ops:aK}{o:aU}{d:bA}{y:LV}(hh:(Iq o ||GZ o)=U) (h:∀t,d=ah t->t∉o.looksAt ops):hpx P G (Av F d y) H o=hpx P G F H o:=by
 have hl:=looks h
 rcases sq hh with ⟨x,ho⟩ |⟨x,ho⟩ |⟨t,x,ho⟩ |⟨t,x,i,ho⟩ |⟨t,x,z,u,ho⟩ |⟨t,x,z,u,ho⟩ |⟨x,i,ho⟩ |⟨x,i,ho⟩ |⟨x,i,ho⟩ |⟨t,x,i,ho⟩ |⟨t,x,z,u,ho⟩ |⟨t,ps,ho⟩
 ·exact o9
 ·exact o9
 ·exact o9
 ·unfold hpx;simp only [ho]
  rw [FT<|hl x EU,FT<|hl i EU]
 ·exact zW
 ·exact zW
 ·unfold hpx;simp only [ho]
  rw [FT<|hl x EU,qj (λcs b e=>A8) h]
 ·exact aPT
 ·exact aPT
 ·exact o9
 ·exact zW
 ·unfold hpx;simp only [ho]
  have em:(ps.toList.map λq=>(q.1,IC G (Av F d y) q.2))=ps.toList.map λq=>(q.1,IC G F q.2):=Jo λq hq=>by
   exact aO4
  rw [em]
def aUH {o:aU}{H':aG}(h:Iq o=U):hpx P G F H o=hpx P G F H' o:=by
 unfold hpx;cases ho:o.op<;>simp_all [Iq]
def TA {o:aU}{tr:aH}{n0:aC}(h:(Iq o ||GZ o)=U) (F:aD):C7 G F tr n0 o=true:=by
 rcases sq h with ⟨x,ho⟩ |⟨x,ho⟩ |⟨t,x,ho⟩ |⟨t,x,i,ho⟩ |⟨t,x,y,u,ho⟩ |⟨t,x,y,u,ho⟩ |⟨x,i,ho⟩ |⟨x,i,ho⟩ |⟨x,i,ho⟩ |⟨t,x,i,ho⟩ |⟨t,x,y,u,ho⟩ |⟨t,ps,ho⟩<;>simp [C7,Ed,ho]
def aHT {ops:aK}{k:aC}{o:aU}{d:bA}{y:LV}(hh:kP o=U) (h:∀t,d=ah t->t∉o.looksAt ops):GH P G Γ ops k (Av F d y) H o=GH P G Γ ops k F H o/\∀tr n0,C7 G (Av F d y) tr n0 o=C7 G F tr n0 o:=by
 have hl:=looks h
 unfold kP at hh;split at hh
 ·rename_i t x z ho
  have e1:=FT (G:=G) (F:=F) (y:=y)<|hl x EU
  have e2:=FT (G:=G) (F:=F) (y:=y)<|hl z EU
  refine ⟨?_,λtr n0=>?_⟩
  ·unfold GH FK HU Ay
   simp only [ho,QM,Hy,GL];rw [e1,e2]
  ·unfold C7 Ed
   simp only [ho];rw [e1]
 ·rename_i t ho
  refine ⟨?_,λtr n0=>?_⟩
  ·unfold GH FK HU Ay
   grind
  ·unfold C7 Ed
   grind
 ·rename_i t x ho
  have e1:=FT (G:=G) (F:=F) (y:=y)<|hl x EU
  refine ⟨?_,λtr n0=>?_⟩
  ·unfold GH FK HU Ay
   simp only [ho,QM,Hy,GL];rw [e1]
  ·unfold C7 Ed
   grind
 ·cases hh
def jE {ops:aK}{k:aC}{o:aU}(h:FK ops k o=U):GH P G Γ ops k F H o=(Hp P G Γ F o).bind λy=> .ok (y,H):=by
 unfold GH
 grind
def aIc {ops:aK}{k:aC}{o:aU}{d:bA}{y:LV}(hh:M5 o=U) (h:∀t,d=ah t->t∉o.looksAt ops):GH P G Γ ops k (Av F d y) H o=GH P G Γ ops k F H o/\∀tr n0,C7 G (Av F d y) tr n0 o=C7 G F tr n0 o:=by
 have hl:=looks h
 unfold M5 at hh;split at hh
 ·rename_i args tys ho
  have e:args.toList.map (AM G<|Av F d y)=args.toList.map (AM G F):=Jo λx hx=>FT<|hl x cE
  refine ⟨?_,λtr n0=>?_⟩
  ·unfold GH FK HU Ay
   simp only [ho,QM,Hy,GL];rw [e]
  ·unfold C7 Ed
   exact T3
 ·cases hh
def T.Qg {α:Type}{A:Prop}:∀ {t:T α},t.all (λ_=>A)->A
 | .ok _,h=>h
 | .br b x y,h=>by
  cases b with
  |true=>exact T.Qg (t:=x) (h.1 rfl)
  |false=>exact T.Qg (t:=y) (h.2 rfl)
 | .req _ x,h=>T.Qg (t:=x) h.2
 | .no,h=>h.elim
def aqm {ops:aK}{tr:aH}{n0:aC}{i j:aC}{is:aH}{K:List LV×List AB->Prop}(hc:RZ ops i j=U) (h:(Fj P G Γ ops tr n0 (j::i::is) F H).all K):(Fj P G Γ ops tr n0 (i::j::is) F H).all K:=by
 unfold RZ at hc;split at hc
 ·rename_i x y hx hy
  simp only [AY,CS] at hc;obtain ⟨⟨⟨g1,g2⟩,g3⟩,hap⟩:=hc;obtain ⟨a1,a2,a3⟩:=bP hap
  have step:∀(k:aC) (o:aU) (l:aH) (F:aD) (H:aG),ops[k]? =ah o->o.guard.isNone=U->((Fj P G Γ ops tr n0 (k::l) F H).all K↔(C7 G F tr n0 o=U/\(GH P G Γ ops k F H o).all (λq=>(Fj P G Γ ops tr n0 l (Av F o.dst q.1) q.2).all K))):=λk o l F H hk hg=>by
   simp only [Fj,hk,hg,ET];split
   ·rename_i hs
    rw [T.all_bind];simp only [hs,Em]
   ·rename_i hs
    constructor
    ·exact λh=>h.elim
    ·grind
  have hpS:∀(k:aC) (o:aU) (F:aD) (H:aG) (K:LV×List AB->Prop),(Iq o ||GZ o)=U->((GH P G Γ ops k F H o).all K↔(hpx P G F H o).all (λv=>K (v,H))):=λk o F H K ho=>by
   rw [ahV ho,T.all_bind];rfl
  rcases g3 with ((((g3|g3) |g3) |g3) |g3) |g3
  ·exact aq2 x y hx hy g1 g2 g3 hap h
  ·have gx:=Sn.2 g3.1
   have gy:=Sn.2 g3.2
   rw [step _ _ _ _ _ hy g2,hpS j y _ _ _ gy] at h;rw [step _ _ _ _ _ hx g1,hpS i x _ _ _ gx];refine ⟨TA gx F,?_⟩
   have h2:=T.BQ (λv hv=>by
    rw [step _ _ _ _ _ hx g1,hpS i x _ _ _ gx,s7 gx a3] at hv;exact hv.2) h.2
   refine T.BQ (λu hu=>?_)<|T.swap h2
   rw [step _ _ _ _ _ hy g2,hpS j y _ _ _ gy,s7 gy a1];refine ⟨TA gy _,T.BQ (λv hv=>?_) hu⟩
   rw [Lb a2];exact hv
  ·obtain ⟨gx,gy⟩:=g3
   have gx':(Iq x ||GZ x)=true:=by rw [gx];rfl
   rw [step _ _ _ _ _ hy g2] at h;rw [step _ _ _ _ _ hx g1,hpS i x _ _ _ gx'];refine ⟨TA gx' F,?_⟩
   have h2:=T.BQ (λq hq=>by
    rw [step _ _ _ _ _ hx g1,hpS i x _ _ _ gx',s7 gx' a3,aUH (H':=H) gx] at hq;exact hq.2) h.2
   refine T.BQ (λu hu=>?_)<|T.swap h2
   obtain ⟨e1,e2⟩:=aHT (P:=P) (G:=G) (Γ:=Γ) (F:=F) (H:=H) (y:=u) gy a1;rw [step _ _ _ _ _ hy g2,e1,e2];refine ⟨h.1,T.BQ (λq hq=>?_) hu⟩
   rw [Lb a2];exact hq
  ·obtain ⟨gx,gy⟩:=g3
   have gy':(Iq y ||GZ y)=true:=by rw [gy];rfl
   rw [step _ _ _ _ _ hy g2,hpS j y _ _ _ gy'] at h
   have h2:=T.BQ (λv hv=>by
    obtain ⟨e1,e2⟩:=aHT (P:=P) (G:=G) (Γ:=Γ) (F:=F) (H:=H) (y:=v) gx a3;rw [step _ _ _ _ _ hx g1,e1,e2] at hv;exact hv) h.2
   rw [step _ _ _ _ _ hx g1];refine ⟨T.Qg<|T.BQ (λv hv=>hv.1) h2,?_⟩
   have h3:=T.BQ (λv hv=>hv.2) h2
   refine T.BQ (λq hq=>?_)<|T.swap h3
   rw [step _ _ _ _ _ hy g2,hpS j y _ _ _ gy',s7 gy' a1,aUH (H':=H) gy];refine ⟨TA gy' _,T.BQ (λv hv=>?_) hq⟩
   rw [Lb a2];exact hv
  ·obtain ⟨gx,gy⟩:=g3
   rw [step _ _ _ _ _ hy g2] at h;rw [step _ _ _ _ _ hx g1,jE gx,T.all_bind];refine ⟨dz<|.inr<|PB gx,?_⟩
   have h2:=T.BQ (λq hq=>by
    rw [step _ _ _ _ _ hx g1,jE gx,T.all_bind,Lf a3] at hq;exact hq.2) h.2
   refine T.BQ (λu hu=>?_)<|T.swap h2
   obtain ⟨e1,e2⟩:=aIc (P:=P) (G:=G) (Γ:=Γ) (F:=F) (H:=H) (y:=u) gy a1;exact aOJ
  ·obtain ⟨gx,gy⟩:=g3
   rw [step _ _ _ _ _ hy g2,jE gy,T.all_bind] at h
   have h2:=T.BQ (λv hv=>by
    obtain ⟨e1,e2⟩:=aIc (P:=P) (G:=G) (Γ:=Γ) (F:=F) (H:=H) (y:=v) gx a3
    (try simp only [T.all] at hv)
    rw [step _ _ _ _ _ hx g1,e1,e2] at hv;exact hv) h.2
   rw [step _ _ _ _ _ hx g1];refine ⟨T.Qg<|T.BQ (λv hv=>hv.1) h2,?_⟩
   have h3:=T.BQ (λv hv=>hv.2) h2
   refine T.BQ (λq hq=>?_)<|T.swap h3
   rw [step _ _ _ _ _ hy g2,jE gy,T.all_bind,Lf a1];refine ⟨dz<|.inr<|PB gy,T.BQ (λv hv=>?_) hq⟩
   exact aOi
 ·cases hc
def aqn {ops:aK}{tr:aH}{n0:aC}{j:aC}{R R':aH}{K:List LV×List AB->Prop}(hh:∀(F:aD) (H:aG),(Fj P G Γ ops tr n0 R F H).all K->(Fj P G Γ ops tr n0 R' F H).all K) (h:(Fj P G Γ ops tr n0 (j::R) F H).all K):(Fj P G Γ ops tr n0 (j::R') F H).all K:=by
 simp only [Fj] at h|-;exact zc
def aGR {ops:aK}{tr:aH}{n0:aC}{i:aC}{K:List LV×List AB->Prop}:∀(R:aH) (F:aD) (H:aG),i∈R->(G5 i R).all (λj=>RZ ops i j)=U->(Fj P G Γ ops tr n0 R F H).all K->(Fj P G Γ ops tr n0 (i::R.erase i) F H).all K
 | [],_,_,hi,_,_=>oq
 | j::R,F,H,hi,hb,h=>by
  by_cases hj:j=i
  ·subst hj
   grind
  ·have hi':i∈R:=by
    rcases B6.1 hi with e|e
    ·grind
    ·exact e
   simp only [G5,AE hj,J2,AY] at hb;rw [V9 A8];exact aqm hb.1<|aqn (λF H h=>aGR R F H hi' hb.2 h) h
def aqu {t:aS}{len:aC}{l:bq}{K:LV->Prop}(h:(L8 P t len l).all K):¬len=0:=by
 unfold L8 at h
 rintro rfl
 split at h
 ·split at h
  ·split at h
   ·omega
   ·cases h
  ·cases h
 ·cases h
def aeg {t:aS}{len:aC}{l:bq}{K:LV->Prop}(h:(L8 P t len l).all K):Wm P t=true:=by
 unfold L8 at h;unfold Wm;split at h
 ·rename_i e hu
  split at h
  ·rename_i ty m z h1 h2 h3
   simp [h1]
  ·cases h
 ·cases h
def uL {o:aU}{lv:LV}(hm:HU o=U) (h:(Hp P G Γ F o).all λz=>z=lv):(Ay P G Γ F H o).all (λq=>q=(lv,H)):=by
 unfold Hp at h;split at h
 ·rename_i t len parts ho
  split at h
  ·cases h
  rename_i hrl;split at h
  ·rename_i hno
   unfold Ay;simp only [ho];rw [AE<|aqu h,AD<|aeg h,AE hrl,AD hno,T.all_bind];exact aPE
  ·cases h
 ·rename_i f args ty ho
  unfold Ay;simp only [ho];split at h
  ·rename_i g cap hf
   split at h
   ·rename_i fn hfn
    split at h
    ·rename_i hb
     split at h
     ·rename_i S hS
      split at h
      ·rename_i hno
       simp only [hf,Nw,hfn,hb,Bu,hS,hno];rw [T.all_bind];exact aPE
      ·cases h
     ·cases h
    ·cases h
   ·cases h
  ·cases h
 ·cases h
def aJp {l:aZ}{i j:aC}{d:aM}:(l.setIfInBounds i U).getD j d=if i=j/\i<l.size then U else l.getD j d:=by
 by_cases e:i=j
 ·subst e
  by_cases h:i<l.size
  ·simp [h]
  ·simp [h]
 ·simp [e]
def wZ {l:aZ}{i:aC}(h:l.getD i U=X):i<l.size/\l.getD i X=false:=by
 rw [mv] at h|-;cases hq:l[i]? with
 |none=>rw [hq] at h;cases h
 |some b=>
  grind
def tO {i:aC}:∀ {R:aH}{j:aC},j∈G5 i R->j∈R/\j≠i
 | [],_,h=>As
 | k::R,j,h=>by
  simp only [G5] at h;split at h
  ·cases h
  ·rename_i hk
   rcases B6.1 h with rfl|h
   ·grind
   ·exact ⟨NB _ (tO h).1,(tO h).2⟩
def aGh {p:aC->aC->Prop}{i:aC}:∀ {R:aH}{j:aC},R.Pairwise p->i∈R->j∈G5 i R->p j i
 | [],_,_,h,_=>As
 | k::R,j,hp,hi,hj=>by
  rw [nN] at hp;simp only [G5] at hj;split at hj
  ·cases hj
  ·rename_i hk
   have hi2:i∈R:=by
    rcases B6.1 hi with e|hi
    ·grind
    ·exact hi
   rcases B6.1 hj with rfl|hj
   ·grind
   ·exact aGh hp.2 hi2 hj
def aGD {i k q:aC}(hk:k≠i) (hq:q≠i):∀ {R:aH},q∈G5 k R->q∈G5 k (R.erase i)
 | [],h=>As
 | x::R,h=>by
  simp only [G5] at h;split at h
  ·cases h
  ·rename_i hx
   by_cases e:x=i
   ·subst e
    rw [List.erase_cons_head];rcases B6.1 h with rfl|h
    ·grind
    ·exact h
   ·rw [V9 A8]
    simp only [G5,AE hx];rcases B6.1 h with rfl|h
    ·simp
    ·exact NB _<|aGD hk hq h
inductive KF (ops:Array Oper) (R:List Nat):Nat->Nat->Prop
 |dir {i j:Nat}:preB ops i j=U->KF ops R i j
 |step {i p j:Nat}:p∈R->preB ops i p=U->KF ops R p j->KF ops R i j
def KF.aGY {ops:aK}{R:aH}{listed:aZ}(hm:∀i,i∈R↔listed.getD i U=X) {i j:aC}(hi:i∈ay .any ops listed) (hj:j∈R) (h:KF ops R i j):False:=by
 have no:∀p,preB ops i p=U->p∈R->False:=λp h hp=>by
  obtain ⟨_,o,ho,r2⟩:=Jp.1 hi;unfold preB at h;rw [ho] at h;simp only [Od,AY] at h;obtain ⟨e,he,hb,hq⟩:=h
  have hq:e.on=p:=A8
  have h3:=r2 e A8 hb
  rw [hq] at h3
  have h4:=(wZ<|(hm p).1 hp).2
  rw [h3] at h4;cases h4
 cases h with
 |dir h=>exact no _ h hj
 |step hp h _=>exact no _ h hp
def KF.erase {ops:aK}{R:aH}{listed:aZ}(hm:∀i,i∈R↔listed.getD i U=X) (hnd:R.Nodup) {k:aC}(hk:k∈ay .any ops listed) {i j:aC}(h:KF ops R i j) (hj:j∈R):KF ops (R.erase k) i j:=by
 induction h with
 |dir h=>exact .dir h
 |step hp h hr ih=>exact .step (hnd.mem_erase_iff.2 ⟨λe=>by subst e;exact KF.aGY hm hk hj hr,hp⟩) h<|ih hj
def aK9 {ops:aK}{R:aH}:∀ {n i j:aC},kX ops R n i j=U->KF ops R i j
 |0,_,_,h=> .dir h
 |n+1,_,_,h=>by
  simp only [kX,CS,Od,AY] at h;rcases h with h|⟨p,hp,h1,h2⟩
  ·exact .dir h
  ·exact .step hp h1<|aK9 h2
structure apk (ops:aK) (R:aH) (listed:aZ):Prop where
 nd:R.Nodup
 mem:∀i,i∈R↔listed.getD i U=X
 pr:R.Pairwise λj i=>KF ops R i j\/RZ ops i j=U
 tp:∀i∈R,∃o,ops[i]? =ah o/\∀e∈o.after,Region.binds .any e=U->listed.getD e.on X=U\/e.on∈G5 i R
def aSc {ops:aK}:∀(n:aC) (R:aH) (listed:aZ),M R=n->apk ops R listed->Lz ops n R listed=U
 |0,R,listed,hn,I=>by
  have e:=aNU hn
  subst e;simp only [Lz,List.isEmpty_nil,ET,bK];refine aNT.2 λi hi=>?_
  exact absurd ((I.mem i).2 (Jp.1 hi).1) AJ
 | n +1,R,listed,hn,I=>by
  simp only [Lz,AY,BO,DB,mw];refine ⟨λh0=>?_,λi hi=>?_⟩
  ·match R,hn,I with
   | k::R,_,I=>
    obtain ⟨o,ho,h1⟩:=I.tp k AJ
    have:k∈ay .any ops listed:=Jp.2 ⟨(I.mem k).1 AJ,o,ho,λe he hb=>by
     rcases h1 e he hb with h2|h2
     ·exact h2
     ·simp [G5] at h2⟩
    rw [h0] at this;cases this
  ·obtain ⟨r1,o,ho,r2⟩:=Jp.1 hi
   have hR:=(I.mem i).2 r1
   refine ⟨⟨A8,λj hj=>?_⟩,aSc n _ _ A8 ⟨I.nd.erase i,λj=>?_,(I.pr.sublist List.erase_sublist).imp_of_mem λ{a b} ha _ h=>h.imp_left λh=>h.erase I.mem I.nd hi<|QQ ha,λk hk=>?_⟩⟩
   ·obtain ⟨j1,j2⟩:=tO hj
    rcases aGh I.pr hR hj with h|h
    ·exact (KF.aGY I.mem hi j1 h).elim
    ·exact h
   ·rw [I.nd.mem_erase_iff,I.mem j,aJp]
    have hb:=(wZ r1).1
    by_cases e:i=j
    ·subst e
     simp [hb]
    ·grind
   ·have hk':=I.nd.mem_erase_iff.1 hk
    obtain ⟨o',ho',h1⟩:=I.tp k hk'.2;refine ⟨o',ho',λe he hb=>?_⟩
    rw [aJp]
    by_cases q:i=e.on
    ·left
     grind
    ·rw [AE λh=>q h.1]
     rcases h1 e he hb with h2|h2
     ·grind
     ·exact .inr<|aGD hk'.1 (KL q) h2
def aLE:∀ {l:aH},pe l=U->l.Nodup
 | [],_=>List.nodup_nil
 |x::l,h=>by
  simp only [pe,AY,DB,List.contains_eq_mem,DI] at h;exact MK.2 ⟨h.1,aLE h.2⟩
def aGP {ops:aK}{R0:aH}:∀ {R:aH},iz ops R0 R=U->R.Pairwise λj i=>KF ops R0 i j\/RZ ops i j=U
 | [],_=>List.Pairwise.nil
 |j::R,h=>by
  simp only [iz,AY,BO,CS] at h;exact nN.2 ⟨λi hi=>(h.1 i hi).symm.imp_left aK9,aGP h.2⟩
def aSb {ops:aK}{R:aH}{listed:aZ}(h:pT ops R listed=U):Lz ops (M R) R listed=true:=by
 unfold pT aXb at h;simp only [AY,BO,LQ] at h;obtain ⟨h1,h2,h3,h4,h5,h6⟩:=h
 have h2:listed.size=ops.size:=A8
 refine aSc _ R listed rfl ⟨aLE h1,λi=>?_,aGP h5,λi hi=>?_⟩
 ·by_cases hi:i<ops.size
  ·have:=h3 i hi
   constructor
   ·intro hm
    grind
   ·intro hm
    grind
  ·constructor
   ·intro hm
    grind
   ·intro hm
    have:=(wZ hm).1
    omega
 ·have:=h6 i hi
  split at this
  ·rename_i o ho
   refine ⟨o,ho,λe he hb=>?_⟩
   grind
  ·cases this
def aEw (hΓ:∀g S,Γ g=ah S->Valid P G g S) {ops:aK}{tr:aH}{D:aO->Prop}{sp:aC->aM}{Q:bg->Gh->Prop}{F':aD}{H':aG}
  (hQ:∀g:Gh,g.F=F'->g.H=H'->Q g.a g):∀(n:aC) (R:aH) (listed:aZ) (g:Gh),(∀i∈R,sp i=U)->Lz ops n R listed=U->
   (Fj P G Γ ops tr (M H) R g.F g.H).all (λq=>q=(F',H'))->Ki P .any ops D (Co ds G w0 Z0 tr β H wr) sp Q n listed g.a g
 |0,R,listed,g,_,hB,h=>by
  simp only [Lz,AY,bK] at hB;obtain ⟨rfl,h2⟩:=hB;simp only [Fj,T.all,Az] at h;exact ⟨h2,hQ g h.1 h.2⟩
 | n +1,R,listed,g,hs,hB,h=>by
  simp only [Lz,AY,BO,DB,mw] at hB;obtain ⟨hne,hall⟩:=hB;refine ⟨λh0=>absurd h0 hne,λi hi=>?_⟩
  obtain ⟨⟨hR,hbef⟩,hrest⟩:=hall i hi
  have hiR:i∈R:=A8
  have hf:=aGR R g.F g.H hiR A8 h
  simp only [Fj] at hf;split at hf
  ·rename_i o ho
   split at hf
   ·rename_i hgs
    simp only [AY,Zs] at hgs;obtain ⟨hgd,hst⟩:=hgs
    have hw:az o (yielded ops g.a.tmps)=true:=aAC
    unfold E9;simp only [ho,hw,Bu,hs i hiR];obtain ⟨⟨lv,H1⟩,h1,h2⟩:=T.B7 hf
    have h1':(Ay P G Γ g.F g.H o).all (λq=>q=(lv,H1)):=by
     unfold GH at h1;split at h1
     ·rename_i hm
      obtain ⟨y,k1,k2⟩:=T.B7 h1;obtain ⟨rfl,rfl⟩:=k2;exact uL (PB hm) k1
     ·exact h1
    intro w' hc;refine LY (λv w'' ⟨g',e1,e2,e3,e4⟩=>⟨g',e1,?_⟩)<|fE hΓ hst h1' hc
    rw [<-e4];refine aEw hΓ hQ n (R.erase i) _ g' (λj hj=>hs j<|QQ hj) hrest ?_
    rwa [e2,e3]
   ·cases hf
  ·cases hf
def T.Ev {α:Type}(t:T α) (K:α->Prop):Prop:=∀K1:α->Prop,t.all K1->t.all (λq=>K1 q/\K q)
def T.Us {α:Type}{x:α}{K:α->Prop}(h:K x):T.Ev (.ok x) K:=λ_ h1=>⟨h1,h⟩
def T.Kp {α:Type}{K:α->Prop}:T.Ev (.no:T α) K:=λ_ h1=>h1.elim
def T.aVE {α:Type}{p:Prop}{t:T α}{K:α->Prop}(h:T.Ev t K):T.Ev (.req p t) K:=λ_ h1=>⟨h1.1,h _ h1.2⟩
def T.gq {α γ:Type}{t:T α}{f:α->T γ}{K:γ->Prop}(h:∀x,T.Ev (f x) K):T.Ev (t.bind f) K:=λK1 h1=>by
 rw [T.all_bind] at h1|-;exact T.BQ (λx hx=>h x _ hx) h1
def HR (H H':aG):Prop:=∀(k:aC) (b:AB),H'[k]? =ah b->b.E5=U->∃b0:AB,H[k]? =ah b0/\b0.E5=U/\b0.c=b.c
def HR.refl (H:aG):HR H H:=λ_ b h1 h2=>⟨b,h1,h2,rfl⟩
def HR.snoc {H H':aG}(h:HR H H') {nb:AB}(hn:nb.E5=X):HR H (H'++[nb]):=λk b h1 h2=>by
 rw [List.getElem?_append] at h1;split at h1
 ·exact h k b h1 h2
 ·cases e:k-M H' with
  |zero=>
   grind
  |succ n=>rw [e] at h1;simp at h1
def HR.set {H:aG}{k:aC}{nb:AB}(hn:nb.E5=X):HR H (H.set k nb):=λj b h1 h2=>by
 rw [IY] at h1;split at h1
 ·split at h1
  ·simp only [Aj] at h1
   grind
  ·cases h1
 ·grind
def HR.pub (ks:aH) {H:aG}:HR H (Fw ks 0 H):=λk b h1 h2=>by
 rw [eX] at h1;cases e:H[k]? with
 |none=>rw [e] at h1;cases h1
 | some b0=>
  rw [e] at h1;simp only [Jn,Aj] at h1;refine ⟨b0,rfl,?_,?_⟩
  ·rw [<-h1] at h2
   split at h2
   ·exact h2
   ·exact h2
  ·rw [<-h1]
   grind
def aq9 {H:aG}{t:aS}{k off:aC}:(∃v,FX P H t (.own k off)=.ok v)\/FX P H t (.own k off)=.no:=by
 generalize hx:FX P H t (.own k off)=x;unfold FX at hx;cases e:H[k]? with
 |none=>
  grind
 | some b=>
  simp only [e] at hx;split at hx
  ·split at hx
   ·grind
   ·grind
  ·split at hx
   ·split at hx
    ·grind
    ·grind
   ·grind
  ·grind
def aee {H H':aG}(hk:HR H H') {t:aS}{k off:aC}{v:LV}(h:FX P H' t (.own k off)=.ok v):FX P H t (.own k off)=.ok v:=by
 unfold FX at h|-;cases e:H'[k]? with
 |none=>
  grind
 | some b=>
  simp only [e] at h;cases ec:b.E5 with
  |false=>
   grind
  |true=>
   obtain ⟨b0,e0,e1,e2⟩:=hk k b e ec;simp only [e0,e1,e2];simp only [ec] at h;exact h
def aqP {H:aG}{t tx:aS}{x y:LV}:T.Ev (Lm P H t tx x y) (λq=>HR H q.2):=by
 unfold Lm;split
 ·split
  ·split
   ·refine T.gq λq=>?_
    split
    ·exact T.aVE<|T.Us<|(HR.refl H).snoc rfl
    ·split
     ·split
      ·split
       ·exact T.aVE<|T.Us<|(HR.set rfl).snoc rfl
       ·exact T.Kp
      ·exact T.Kp
     ·exact T.Kp
    ·exact T.Kp
   ·exact T.Kp
  ·exact T.Kp
 ·exact T.Kp
def aoU {o:aU}(h:L9 P o=U):T.Ev (Ay P G Γ F H o) (λq=>HR H q.2):=by
 unfold L9 at h;split at h
 ·rename_i args tys ho
  unfold Ay;simp only [ho];split
  ·exact aqP
  ·exact T.Kp
 ·rename_i t len parts ho
  unfold Ay;simp only [ho];split
  ·split
   ·unfold Tp
    split
    ·exact T.Us<|(HR.refl H).snoc rfl
    ·exact T.Kp
   ·exact T.Kp
  ·rename_i hl
   have ht:Wm P t=true:=A8
   rw [AD ht];split
   ·unfold dA
    split
    ·refine T.gq λy=>?_
     split
     ·exact T.Us<|(HR.pub _).snoc rfl
     ·exact T.Kp
    ·exact T.Kp
   ·split
    ·exact T.gq λy=>T.Us<|HR.refl H
    ·unfold pW
     split
     ·exact T.gq λy=>T.Us<|HR.pub _
     ·exact T.Kp
 ·cases h
def aKm {ops:aK}{o:aU}{d:bA}{y:LV}(hh:L9 P o=U) (h:∀t,d=ah t->t∉o.looksAt ops):Ay P G Γ (Av F d y) H o=Ay P G Γ F H o/\∀tr n0,C7 G (Av F d y) tr n0 o=C7 G F tr n0 o:=by
 have hl:=looks h
 unfold L9 at hh;split at hh
 ·rename_i args tys ho
  have e:args.toList.map (AM G<|Av F d y)=args.toList.map (AM G F):=Jo λx hx=>FT<|hl x cE
  refine ⟨?_,λtr n0=>?_⟩
  ·unfold Ay
   exact T3
  ·unfold C7 Ed
   exact T3
 ·rename_i t len parts ho
  have e:(parts.toList.map λq=>(q.1,AM G (Av F d y) q.2))=parts.toList.map λq=>(q.1,AM G F q.2):=Jo λq hq=>by
   rw [FT<|hl q.2 aPt]
  refine ⟨?_,λtr n0=>?_⟩
  ·unfold Ay
   exact T3
  ·unfold C7 Ed
   grind
 ·cases hh
variable {zb : Bool}
def jF {ops:aK}{i:aC}{o:aU}(h:mkZ zb P ops i o=U):HU o=U/\L9 P o=U/\∀F,Ns G F o=true:=by
 unfold mkZ isLt at h;rw [AY,AY] at h
 have h:=h.2.1
 split at h
 ·rename_i t len parts ho
  rw [AY] at h;exact ⟨by unfold HU;rw [ho],by unfold L9;rw [ho];simp [h.2],λF=>by unfold Ns;rw [ho]⟩
 ·cases h
def fw {ops:aK}{k:aC}{o:aU}(h:mkZ zb P ops k o=U):spz zb P G Γ ops k F H o=(Hp P G Γ F o).bind λy=> .ok (y,H):=by
 unfold spz;rw [AD<|(jF (G:=G) h).2.2 F,AD h]
def aHX {ops:aK}{k:aC}{o:aU}{d:bA}{y:LV}(hh:L9 P o=U\/GZ o=U) (h:∀t,d=ah t->t∉o.looksAt ops):spz zb P G Γ ops k (Av F d y) H o=spz zb P G Γ ops k F H o/\∀tr n0,C7 G (Av F d y) tr n0 o=C7 G F tr n0 o:=by
 rcases hh with hh|hh
 ·obtain ⟨e1,e2⟩:=aKm (P:=P) (G:=G) (Γ:=Γ) (F:=F) (H:=H) (y:=y) hh h
  have e3:∀F,Ns G F o=true:=λF=>by
   unfold Ns;unfold L9 at hh;split at hh
   ·rename_i ho;rw [ho]
   ·rename_i ho;rw [ho]
   ·cases hh
  unfold spz;rw [e1,e3,e3,Lf h];exact ⟨rfl,e2⟩
 ·have g:(Iq o ||GZ o)=true:=by rw [hh,Ob]
  refine ⟨?_,λtr n0=>by rw [TA g,TA g]⟩
  have ha:Kx o=true:=by
   unfold GZ at hh;split at hh
   ·rename_i ho;unfold Kx;rw [ho]
   ·cases hh
  have e3:Ns G (Av F d y) o=Ns G F o:=by
   unfold GZ at hh;split at hh
   ·rename_i t x ho
    unfold Ns;rw [ho];simp only [FT (G:=G) (F:=F) (y:=y)<|looks h x EU]
   ·cases hh
  unfold spz;rw [e3,uR ha h,Lf h]
def aqk {ops:aK}{tr:aH}{n0:aC}{i j:aC}{is:aH}{K:List LV×List AB->Prop}(hc:kr zb P ops i j=U) (h:(HG zb P G Γ ops tr n0 (j::i::is) F H).all K):(HG zb P G Γ ops tr n0 (i::j::is) F H).all K:=by
 unfold kr at hc;split at hc
 ·rename_i x y hx hy
  simp only [AY,CS,DB] at hc;obtain ⟨⟨⟨g1,g2⟩,g3⟩,hap⟩:=hc;obtain ⟨a1,a2,a3⟩:=bP hap
  have step:∀(k:aC) (o:aU) (l:aH) (F:aD) (H:aG),ops[k]? =ah o->o.guard.isNone=U->((HG zb P G Γ ops tr n0 (k::l) F H).all K↔(C7 G F tr n0 o=U/\(spz zb P G Γ ops k F H o).all (λq=>(HG zb P G Γ ops tr n0 l (Av F o.dst q.1) q.2).all K))):=λk o l F H hk hg=>by
   simp only [HG,hk,hg,ET];split
   ·rename_i hs
    rw [T.all_bind];simp only [hs,Em]
   ·rename_i hs
    constructor
    ·exact λh=>h.elim
    ·exact λh=>(hs h.1).elim
  rcases g3 with (g3|⟨gx,gy⟩) |⟨gx,gy⟩
  ·obtain ⟨⟨gx,gy⟩,gz⟩:=g3
   have sy:∀F H,spz zb P G Γ ops j F H y=Ay P G Γ F H y:=λF H=>by
    unfold spz;rw [AD,AE (by rw [gz];decide)]
    unfold Ns;unfold L9 at gy;split at gy
    ·rename_i ho;rw [ho]
    ·rename_i ho;rw [ho]
    ·cases gy
   have gx':(Iq x ||GZ x)=true:=by rw [gx,Ob]
   obtain ⟨t,ad,ho⟩:∃t ad,x.op=.load t ad:=by
    unfold GZ at gx;split at gx
    ·rename_i ho;exact ⟨_,_,ho⟩
    ·cases gx
   have hl:=looks a3
   have mx:mkZ zb P ops i x=false:=by unfold mkZ isLt;rw [ho];cases zb<;>rfl
   have sx:∀F H,spz zb P G Γ ops i F H x=match AM G F ad with
    | .own k off=>(FX P H t<|.own k off).bind λy=> .ok (y,H)
    |_=> .no:=λF H=>by
    unfold spz Ns Ay;simp only [ho,mx,Hy,GL];split
    ·rename_i k off e
     rw [AD rfl,e]
    ·rename_i hne
     rw [AE Ad];split
     ·rename_i k off e;exact absurd e<|hne k off
     ·rfl
   have ea:∀v,AM G (Av F y.dst v) ad=AM G F ad:=λv=>FT<|hl ad EU
   rw [step _ _ _ _ _ hy g2,sy] at h;obtain ⟨h1,h2⟩:=h
   have h3:=aoU gy _ h2
   rw [step _ _ _ _ _ hx g1,sx];refine ⟨TA gx' F,?_⟩
   have h4:(Ay P G Γ F H y).all (λq=>∃k off v,AM G F ad=.own k off/\FX P H t (.own k off)=.ok v/\(HG zb P G Γ ops tr n0 is (Av (Av F y.dst q.1) x.dst v) q.2).all K):=T.BQ (λq hq=>by
    obtain ⟨q1,q2⟩:=hq;rw [step _ _ _ _ _ hx g1,sx,ea] at q1
    have q3:=q1.2
    split at q3
    ·rename_i k off e
     rcases aq9 (P:=P) (H:=q.2) (t:=t) (k:=k) (off:=off) with ⟨v,hv⟩ |hv
     ·rw [hv] at q3
      exact ⟨k,off,v,e,aee q2 hv,q3⟩
     ·rw [hv] at q3;exact q3.elim
    ·exact q3.elim) h3
   obtain ⟨k,off,v,e,hv⟩:=T.Qg<|T.BQ (λq hq=>(⟨hq.choose,hq.choose_spec.choose,hq.choose_spec.choose_spec.choose,hq.choose_spec.choose_spec.choose_spec.1,hq.choose_spec.choose_spec.choose_spec.2.1⟩:∃k off v,AM G F ad=.own k off/\FX P H t (.own k off)=.ok v)) h4
   rw [e];simp only [hv,T.bind,T.all];obtain ⟨e1,e2⟩:=aKm (P:=P) (G:=G) (Γ:=Γ) (F:=F) (H:=H) (y:=v) gy a1;rw [step _ _ _ _ _ hy g2,sy,e1,e2];refine ⟨h1,T.BQ (λq hq=>?_) h4⟩
   obtain ⟨k',off',v',e',hv',hp⟩:=hq;rw [e] at e';cases e';rw [hv] at hv';cases hv';rw [Lb a2];exact hp
  ·obtain ⟨m1,_,m3⟩:=jF (G:=G) gx
   rw [step _ _ _ _ _ hy g2] at h;rw [step _ _ _ _ _ hx g1,fw gx,T.all_bind];refine ⟨dz<|.inr m1,?_⟩
   have h2:=T.BQ (λq hq=>by
    rw [step _ _ _ _ _ hx g1,fw gx,T.all_bind,Lf a3] at hq;exact hq.2) h.2
   refine T.BQ (λu hu=>?_)<|T.swap h2
   obtain ⟨e1,e2⟩:=aHX (P:=P) (G:=G) (Γ:=Γ) (F:=F) (H:=H) (k:=j) (y:=u) gy a1;exact aOJ
  ·obtain ⟨m1,_,m3⟩:=jF (G:=G) gy
   rw [step _ _ _ _ _ hy g2,fw gy,T.all_bind] at h
   have h2:=T.BQ (λv hv=>by
    obtain ⟨e1,e2⟩:=aHX (P:=P) (G:=G) (Γ:=Γ) (F:=F) (H:=H) (k:=i) (y:=v) gx a3
    (try simp only [T.all] at hv)
    rw [step _ _ _ _ _ hx g1,e1,e2] at hv;exact hv) h.2
   rw [step _ _ _ _ _ hx g1];refine ⟨T.Qg<|T.BQ (λv hv=>hv.1) h2,?_⟩
   have h3:=T.BQ (λv hv=>hv.2) h2
   refine T.BQ (λq hq=>?_)<|T.swap h3
   rw [step _ _ _ _ _ hy g2,fw gy,T.all_bind,Lf a1];refine ⟨dz<|.inr m1,T.BQ (λv hv=>?_) hq⟩
   exact aOi
 ·cases hc
def aql {ops:aK}{tr:aH}{n0:aC}{j:aC}{R R':aH}{K:List LV×List AB->Prop}(hh:∀(F:aD) (H:aG),(HG zb P G Γ ops tr n0 R F H).all K->(HG zb P G Γ ops tr n0 R' F H).all K) (h:(HG zb P G Γ ops tr n0 (j::R) F H).all K):(HG zb P G Γ ops tr n0 (j::R') F H).all K:=by
 simp only [HG] at h|-;exact zc
def aGQ {ops:aK}{tr:aH}{n0:aC}{i:aC}{K:List LV×List AB->Prop}:∀(R:aH) (F:aD) (H:aG),i∈R->(G5 i R).all (λj=>kr zb P ops i j)=U->(HG zb P G Γ ops tr n0 R F H).all K->(HG zb P G Γ ops tr n0 (i::R.erase i) F H).all K
 | [],_,_,hi,_,_=>oq
 | j::R,F,H,hi,hb,h=>by
  by_cases hj:j=i
  ·subst hj
   simpa using h
  ·have hi':i∈R:=by
    rcases B6.1 hi with e|e
    ·exact absurd e.symm hj
    ·exact e
   simp only [G5,AE hj,J2,AY] at hb;rw [V9 aAp];exact aqk hb.1<|aql (λF H h=>aGQ R F H hi' hb.2 h) h
def adT (hΓ:∀g S,Γ g=ah S->Valid P G g S) {ops:aK}{tr:aH}{D:aO->Prop}{sp:aC->aM}{Q:bg->Gh->Prop}{F':aD}{H':aG}
  (hQ:∀g:Gh,g.F=F'->g.H=H'->Q g.a g):∀(n:aC) (R:aH) (listed:aZ) (g:Gh),(∀i∈R,sp i=U)->Vk zb P ops n R listed=U->
   (HG zb P G Γ ops tr (M H) R g.F g.H).all (λq=>q=(F',H'))->Ki P .any ops D (Co ds G w0 Z0 tr β H wr) sp Q n listed g.a g
 |0,R,listed,g,_,hB,h=>by
  simp only [Vk,AY,bK] at hB;obtain ⟨rfl,h2⟩:=hB;simp only [HG,T.all,Az] at h;exact ⟨h2,hQ g h.1 h.2⟩
 | n + 1,R,listed,g,hs,hB,h=>by
  simp only [Vk,AY,BO,DB,mw] at hB;obtain ⟨hne,hall⟩:=hB;refine ⟨λh0=>absurd h0 hne,λi hi=>?_⟩
  obtain ⟨⟨hR,hbef⟩,hrest⟩:=hall i hi
  have hiR:i∈R:=by simpa using hR
  have hf:=aGQ R g.F g.H hiR (by rw [BO];exact hbef) h
  simp only [HG] at hf;split at hf
  ·rename_i o ho
   split at hf
   ·rename_i hgs
    simp only [AY,Zs] at hgs;obtain ⟨hgd,hst⟩:=hgs
    have hw:az o (yielded ops g.a.tmps)=true:=aAC
    unfold E9;simp only [ho,hw,Bu,hs i hiR];obtain ⟨⟨lv,H1⟩,h1,h2⟩:=T.B7 hf
    have h1':(Ay P G Γ g.F g.H o).all (λq=>q=(lv,H1)):=by
     unfold spz at h1;split at h1
     ·split at h1
      ·rename_i hm
       obtain ⟨y,k1,k2⟩:=T.B7 h1;simp only [T.all,Az] at k2;obtain ⟨rfl,rfl⟩:=k2;exact uL (jF (G:=G) hm).1 k1
      ·exact h1
     ·cases h1
    intro w' hc;refine LY (λv w'' ⟨g',e1,e2,e3,e4⟩=>⟨g',e1,?_⟩)<|fE hΓ hst h1' hc
    rw [<-e4];refine adT hΓ hQ n (R.erase i) _ g' (λj hj=>hs j<|QQ hj) hrest ?_
    rw [e2,e3];exact h2
   ·cases hf
  ·cases hf
def eK {T':Type}{md:aYa}{D:aO->Prop}{sp:aC->aM}{C:T'->aO->Prop}{Q':bg->aO->Prop}{ops:aK}{g g1:T'}(hs:∀w',C g w'->C g1 w'):∀(n:aC) (listed:aZ) (a:bg),
  Ki P md ops D C sp (λa' g'=>∀w',C g' w'->Q' a' w') n listed a g1->Ki P md ops D C sp (λa' g'=>∀w',C g' w'->Q' a' w') n listed a g
 |0,_,_,h=>⟨h.1,λw' hw'=>h.2 w'<|hs w' hw'⟩
 | n +1,listed,a,h=>⟨λh0 w' hw'=>h.1 h0 w'<|hs w' hw',λi hi=>by
   have:=h.2 i hi
   unfold E9 at this|-;split
   ·rename_i ho;simp only [ho] at this;exact eK hs n _ _ this
   ·rename_i o ho
    simp only [ho] at this;split
    ·rename_i hw
     simp only [hw,Bu] at this;split
     ·rename_i hsp
      simp only [hsp,Bu] at this;exact λw hw=>this w<|hs w hw
     ·rename_i hsp
      simp only [hsp] at this;exact rK (λa' hk=>eK hs n _ a' hk) this
    ·rename_i hw
     simp only [hw] at this;exact eK hs n _ _ this⟩
mutual
def R.Ky {β':aC->aXS}{n:aC}:∀(x:LV) (y:aV),(∀j,j∈owns x->β' j=β j)->okV n x->R β Z w x y->R β' Z w x y
 | .v _,_,_,_,h=>h
 | .bl _,_,_,_,h=>h
 | .ki _ _,_,_,_,h=>h
 | .own k off,y,hj,_,h=>aQF
 | .agg l,y,hj,hk,h=>by
  exact nY
 | .AQ l,y,hj,hk,h=>by
  exact nY
 | .fn f l,y,hj,hk,h=>by
  exact nY
 | .fb f l,y,hj,hk,h=>by
  exact nY
 | .xq m f,y,_,hk,h=>by
  simp only [R,okV] at*;obtain ⟨b,off,h1,h2,h3⟩:=h;refine ⟨b,off,h1,h2,λj hj=>?_⟩
  obtain ⟨z,h4,h5⟩:=h3 j hj;exact ⟨z,h4,R.mono (n:=0) (λ_ hk=>absurd hk A0) (λ_ h=>h) (λ_ _=>rfl) _ _ (hk j) h5⟩
 | .xl e l,y,_,_,h=>by simp only [R] at*;exact h
 | .os k es off n,y,hj,_,h=>oJ
 | .op k es i j,y,hj,_,h=>oJ
 | .om k,y,hj,_,h=>oJ
 | .mp kd ks l,y,hj,hk,h=>by
  simp only [R,owns,okV] at*;obtain ⟨r,es,clock,h1,h2,h3,h4,h5⟩:=h;exact ⟨r,es,clock,h1,h2,h3,h4,RL.Ky l _ hj hk h5⟩
 | .oc k es off n c,y,hj,_,h=>oJ
 | .CU k,y,hj,_,h=>aQF
 | .junk,_,_,_,_=>KM
def RL.Ky {β':aC->aXS}{n:aC}:∀(l:aD) (ys:aT),(∀j,j∈ownsL l->β' j=β j)->AU n l->RL β Z w l ys->RL β' Z w l ys
 | [],_,_,_,h=>aQR
 |x::xs,ys,hj,hk,h=>by
  simp only [RL,ownsL,Bf,AU] at*;obtain ⟨y,zs,h1,h2,h3⟩:=h;exact ⟨y,zs,h1,R.Ky x y (λj h=>hj j (.inl h)) hk.1 h2,RL.Ky xs zs (λj h=>hj j (.inr h)) hk.2 h3⟩
end
mutual
def okV_owns {n:aC}:∀(x:LV),okV n x->∀j,j∈owns x->j<n
 | .v _,_,j,h=>VQ
 | .bl _,_,j,h=>VQ
 | .ki _ _,_,j,h=>VQ
 | .own k _,hk,j,h=>VX
 | .agg l,hk,j,h=>cR
 | .AQ l,hk,j,h=>cR
 | .fn _ l,hk,j,h=>cR
 | .fb _ l,hk,j,h=>cR
 | .xq _ _,_,j,h=>VQ
 | .xl _ _,_,j,h=>VQ
 | .os k _ _ _,hk,j,h=>VX
 | .op k _ _ _,hk,j,h=>VX
 | .om k,hk,j,h=>VX
 | .mp _ _ l,hk,j,h=>cR
 | .oc k _ _ _ _,hk,j,h=>VX
 | .CU k,hk,j,h=>VX
 | .junk,_,j,h=>VQ
def okL_owns {n:aC}:∀(l:aD),AU n l->∀j,j∈ownsL l->j<n
 | [],_,j,h=>by simp [ownsL] at h
 |x::xs,hk,j,h=>by
  simp only [ownsL,Bf,AU] at*;rcases h with h|h
  ·exact okV_owns x hk.1 j h
  ·exact okL_owns xs hk.2 j h
end
mutual
def okV_lower {n m:aC}:∀(x:LV),okV n x->(∀j,j∈owns x->j<m)->okV m x
 | .v _,_,_=>trivial
 | .bl _,_,_=>trivial
 | .ki _ _,_,_=>trivial
 | .own k _,_,h=>h k J3
 | .agg l,hk,h=>cS
 | .AQ l,hk,h=>cS
 | .fn _ l,hk,h=>cS
 | .fb _ l,hk,h=>cS
 | .xq _ _,hk,_=>aQc
 | .xl _ _,_,_=>trivial
 | .os k _ _ _,_,h=>h k J3
 | .op k _ _ _,_,h=>h k J3
 | .om k,_,h=>h k J3
 | .mp _ _ l,hk,h=>cS
 | .oc k _ _ _ _,_,h=>h k J3
 | .CU k,_,h=>h k J3
 | .junk,_,_=>trivial
def okL_lower {n m:aC}:∀(l:aD),AU n l->(∀j,j∈ownsL l->j<m)->AU m l
 | [],_,_=>trivial
 |x::xs,hk,h=>by
  simp only [ownsL,Bf,AU] at*;exact ⟨okV_lower x hk.1 (λj hj=>h j (.inl hj)),okL_lower xs hk.2 (λj hj=>h j (.inr hj))⟩
end
def aHF {n:aC}{b:AB}(h:okB n b):∀j,j∈b.owns->j<n:=λj hj=>by
 rcases Bf.1 hj with hj|hj
 ·exact okL_owns _ h.1 j hj
 ·have h2:=h.2
  split at hj
  ·rename_i hk;rw [hk] at h2;exact okL_owns _ h2 j hj
  ·cases hj
def Bb.Ky {β':aC->aXS}{n k k':aC}{b:AB}(hk:β' k'=β k) (hj:∀j,j∈b.owns->β' j=β j) (hok:okB n b) (h:Bb β Z w k b):Bb β' Z w k' b:=by
 have hc:∀j,j∈ownsL b.c->β' j=β j:=λj h=>hj j<|Bf.2<|.inl h
 unfold Bb at*;rw [hk];cases hbk:b.k with
 |cl=>
  simp only [hbk] at h|-;obtain ⟨cs,h1,h2⟩:=h;exact ⟨cs,h1,RL.Ky _ _ hc hok.1 h2⟩
 |vec e l=>simp only [hbk] at h|-;exact h
 |mp kd ks vs=>
  simp only [hbk] at h|-;obtain ⟨es,clock,h1,h2,h3⟩:=h
  have ho:=hok.2
  rw [hbk] at ho;exact ⟨es,clock,h1,h2,RL.Ky _ _ (λj h=>hj j (by unfold AB.owns;rw [hbk];exact Bf.2<|.inr h)) ho h3⟩
 |Cq ps asg body st=>
  simp only [hbk] at h|-;obtain ⟨r,h1,h2,h3,h4,h5,h6⟩:=h;exact ⟨r,h1,h2,h3,h4,h5,RL.Ky _ _ hc hok.1 h6⟩
 |st e l=>simp only [hbk] at h|-;exact h
 |dead=>trivial
def L1 (β:aC->aXS) (k m:aC):aC->aXS:=λj=>if j=k then β m else β j
def Qk {k m:aC}:L1 β k m k=β m:=by simp [L1]
def JF {k m j:aC}(h:j≠k):L1 β k m j=β j:=by simp [L1,h]
def RW.move {k:aC}{nb db:AB}(hW:RW G w0 Z0 Z β (H++[nb]) w) (hk:H[k]? =ah db) (hp:nb.p=X)
  (hB:∀(j:aC) (b:AB),H[j]? =ah b->okB (M H) b/\k∉b.owns) (hn:okB (M H) nb/\k∉nb.owns) (hg:∀p,p∈Z0.gh->okV (M H) p.1/\k∉owns p.1):
  RW G w0 Z0 Z (L1 β k<|M H) (H.set k nb) w:=by
 have hkl:k<M H:=(EI.1 hk).1
 have at_:∀(j:aC) (b:AB),(H.set k nb)[j]? =ah b->(j=k/\b=nb)\/(j≠k/\H[j]? =ah b):=λj b h=>by
  rw [IY] at h;split at h
  ·rename_i e
   grind
  ·grind
 have last:(H++[nb])[M H]? =ah nb:=AJ
 have old:∀(j:aC) (b:AB),H[j]? =ah b->(H++[nb])[j]? =ah b:=λj b h=>A8
 have lt:∀(j:aC) (b:AB),H[j]? =ah b->j<M H:=λj b h=>(EI.1 h).1
 have lk:live (L1 β k<|M H) k nb=live β (M H) nb:=by unfold live;rw [Qk]
 have lj:∀j b,j≠k->live (L1 β k<|M H) j b=live β j b:=λj b h=>KY<|JF h
 refine ⟨hW.below,hW.Bc,hW.Et,λj b hj hl hq=>?_,λj b hj hl hq=>?_,λj b hj hl=>?_,λi j bi bj hi hj li lj' pi e=>?_,λj b hj=>?_,hW.Cy,λp hp=>?_,hW.Cv⟩
 ·rcases at_ j b hj with ⟨rfl,rfl⟩ |⟨h1,h2⟩
  ·rw [Qk];rw [lk] at hl;exact hW.Cr _ _ last hl hq
  ·rw [JF h1];rw [lj j b h1] at hl;exact hW.Cr j b (old j b h2) hl hq
 ·rcases at_ j b hj with ⟨rfl,rfl⟩ |⟨h1,h2⟩
  ·rw [hp] at hq;cases hq
  ·rw [JF h1];rw [lj j b h1] at hl;exact hW.GV j b (old j b h2) hl hq
 ·rcases at_ j b hj with ⟨rfl,rfl⟩ |⟨h1,h2⟩
  ·rw [Qk];rw [lk] at hl;exact hW.low _ _ last hl
  ·rw [JF h1];rw [lj j b h1] at hl;exact hW.low j b (old j b h2) hl
 ·rcases at_ i bi hi with ⟨rfl,rfl⟩ |⟨h1,h2⟩
  ·rcases at_ j bj hj with ⟨rfl,rfl⟩ |⟨g1,g2⟩
   ·rfl
   ·rw [lk] at li;rw [lj j bj g1] at lj';rw [Qk,JF g1] at e
    have:=hW.inj _ j _ bj last (old j bj g2) li lj' pi e
    have:=lt j bj g2;omega
  ·rcases at_ j bj hj with ⟨rfl,rfl⟩ |⟨g1,g2⟩
   ·rw [lj i bi h1] at li;rw [lk] at lj';rw [JF h1,Qk] at e
    have:=hW.inj i _ bi _ (old i bi h2) last li lj' pi e
    have:=lt i bi h2;omega
   ·rw [lj i bi h1] at li;rw [lj j bj g1] at lj';rw [JF h1,JF g1] at e
    exact hW.inj i j bi bj (old i bi h2) (old j bj g2) li lj' pi e
 ·rw [C4]
  rcases at_ j b hj with ⟨rfl,rfl⟩ |⟨h1,h2⟩
  ·exact ⟨Bb.Ky Qk (λi hi=>JF λe=>hn.2<|e▸hi) hn.1 (hW.blk _ _ last).1,hn.1⟩
  ·obtain ⟨q1,q2⟩:=hB j b h2
   exact ⟨Bb.Ky (JF h1) (λi hi=>JF λe=>q2<|e▸hi) q1 (hW.blk j b<|old j b h2).1,q1⟩
 ·obtain ⟨q1,q2⟩:=hg p hp
  rw [C4];exact ⟨R.Ky _ _ (λj hj=>JF λe=>q2<|e▸hj) q1 (hW.gh p hp).1,q1⟩
def RB:∀ {l:aD}{x:LV}{j:aC},x∈l->j∈owns x->j∈ownsL l
 |y::ys,x,j,hx,hj=>by
  simp only [ownsL,Bf];rcases B6.1 hx with rfl|h
  ·grind
  ·exact .inr<|RB h hj
def fB:∀ {l:aD}{j:aC},j∈ownsL l->∃x,x∈l/\j∈owns x
 |x::xs,j,h=>by
  simp only [ownsL,Bf] at h;rcases h with h|h
  ·grind
  ·obtain ⟨y,h1,h2⟩:=fB h;exact ⟨y,A8,h2⟩
 | [],j,h=>by simp [ownsL] at h
def TB {x:aXT}{j:aC}(h:j∈owns (AM G F x)):j∈ownsL F:=by
 cases x with
 |tmp t=>
  simp only [AM] at h;cases ht:F[t]? with
  |none=>simp [List.getD,ht,owns] at h
  |some y=>simp [List.getD,ht] at h;exact RB (Of ht) h
 |const v=>simp only [AM] at h;split at h<;>simp [owns] at h
 |global g=>simp only [AM] at h;split at h<;>simp [owns] at h
 |func f=>simp [AM,owns,ownsL] at h
def aEu:∀(l:aT),ownsL (l.map .v)=[]
 | []=>rfl
 |x::xs=>by simp [ownsL,owns,aEu xs]
def qd {x:LV}{cs:aD}(h:CT x=ah cs):∀j,j∈ownsL cs->j∈owns x:=λj hj=>by
 unfold CT at h;split at h
 ·split at h
  ·simp only [Aj] at h;subst h;rw [aEu] at hj;cases hj
  ·cases h
 ·split at h
  ·simp only [Aj] at h;subst h;simpa only [owns] using hj
  ·cases h
 ·cases h
 ·cases h
 ·simp only [Aj] at h;subst h;simpa [ownsL] using hj
def rA {d:bA}{x:LV}{j:aC}(h:j∈ownsL (Av F d x)):j∈ownsL F\/j∈owns x:=by
 cases d with
 |none=>exact .inl h
 |some t=>
  obtain ⟨y,h1,h2⟩:=fB h;rcases Oa h1 with e|e
  ·exact .inl<|RB e h2
  ·grind
def aIB {k:aC}{o:aU}{lv:LV}{H1:aG}(h:(JZ P G F H k o).all λq=>q=(lv,H1)):(∃cs t,lv=.own k 0/\H1=H.set k ⟨cs,t,.cl,X⟩/\(Ay P G Γ F H o).all (λq=>q=(.own (M H) 0,H++[⟨cs,t,.cl,X⟩]))/\∀j,j∈ownsL cs->j∈ownsL F)\/
  ∃(m n:aC) (e:aS) (ty:Ty) (l:List ty.D),lv=.os k m 0 n/\H1=H.set k ⟨[],e,.vec ty l,X⟩/\(Ay P G Γ F H o).all (λq=>q=(.os (M H) m 0 n,H++[⟨[],e,.vec ty l,X⟩])):=by
 unfold JZ at h;split at h
 ·rename_i t ho
  split at h
  ·rename_i z hz
   split at h
   ·rename_i cs hcs
    simp only [T.all,Az] at h;refine .inl ⟨cs,t,h.1.symm,h.2.symm,?_,λj hj=>?_⟩
    ·unfold Ay;simp only [ho,hz,hcs,T.all]
    ·have:=qd hcs j hj;simp [owns] at this
   ·cases h
  ·cases h
 ·rename_i t x ho
  split at h
  ·rename_i cs hcs
   simp only [T.all,Az] at h;refine .inl ⟨cs,t,h.1.symm,h.2.symm,?_,λj hj=>TB<|qd hcs j hj⟩
   unfold Ay;simp only [ho,hcs,T.all]
  ·cases h
 ·rename_i t n c ho
  split at h
  ·rename_i e ty m FM n' c' he hn hc
   split at h
   ·rename_i z hz
    split at h
    ·rename_i d hd
     split at h
     ·rename_i hsz
      simp only [T.all,Az] at h;obtain ⟨h0,h1,h2⟩:=h;refine .inr ⟨m,n'.toNat,e,ty,aq n'.toNat d,h1.symm,h2.symm,?_⟩;unfold Ay;simp only [ho,UA,he,hn,hc,hz,hd,hsz,Bu,T.all]
      grind
     ·cases h
    ·cases h
   ·cases h
  ·cases h
 ·rename_i t len parts ho
  split at h
  ·rename_i hlen
   split at h
   ·rename_i hp
    split at h
    ·rename_i e ty m FM he
     simp only [T.all,Az] at h;refine .inr ⟨m,0,e,ty,[],h.1.symm,h.2.symm,?_⟩;unfold Ay;simp only [ho,hlen,hp,Bu,Tp,he,T.all]
    ·cases h
   ·cases h
  ·cases h
 ·cases h
structure Sh (n0:aC) (done:aC->Prop) (R:aH) (g:Gh):Prop where
 f:∀j,j∈ownsL g.F->j<n0\/∃i,done i/\j=n0+i
 h:∀(k:aC) (b:AB),g.H[k]? =ah b->∀j,j∈b.owns->j<n0\/∃i,done i/\j=n0+i
 dead:∀i,i∈R->¬done i/\∃b,g.H[n0+i]? =ah b
def aKV (hΓ:∀g S,Γ g=ah S->Valid P G g S) {tr:aH}{g:Gh}{o:aU}{lv:LV}{H1:aG}{w':aO}{done:aC->Prop}{R':aH}{i:aC}(hgh:∀p,p∈Z0.gh->okV (M H) p.1) (hI:Sh (M H) done R' g) (hi:i∈R')
  (hst:C7 G g.F tr (M H) o=U) {nb:AB} {lv0:LV} (hop:(Ay P G Γ g.F g.H o).all λq=>q=(lv0,g.H++[nb])) (hpn:nb.p=X) (hcs:∀j,j∈nb.owns->j∈ownsL g.F) (hlow:∀n m,okB n nb->(∀j,j∈nb.owns->j<m)->okB m nb)
  (hlv:∀β' Z' w'' v,R β' Z' w'' lv0 v->R (L1 β' (M H+i)<|M g.H) Z' w'' lv v) (hlo:∀n,M H+i<n->okV n lv) (hH1:H1=g.H.set (M H+i) nb) (hc:Co ds G w0 Z0 tr β H wr g w'):
  Dt P (λv w''=>∃g':Gh,Co ds G w0 Z0 tr β H wr g' w''/\g'.F=Av g.F o.dst lv/\g'.H=H1/\g'.a=g.a.put o.dst v) ((execOp g.a.eval o).run P w'):=by
 subst hH1;refine LY (λv w'' ⟨Z',β',e1,e2,e3,e4,e5,e6,e7,e8⟩=>?_)<|eY hΓ hc.rw hc.rf hop
 obtain ⟨hnd,db,hdb⟩:=hI.dead i hi
 have fresh:∀j,(j<M H\/∃i',done i'/\j=M H+i')->j≠M H+i:=λj hj e=>by
  rcases hj with hj|⟨i',hd,e'⟩
  ·omega
  ·have:i'=i:=A0
   grind
 have hsz:=hc.near.size
 have hcl:∀j,j∈nb.owns->j<M g.H:=λj hj=>by
  obtain ⟨x,q1,q2⟩:=fB<|hcs j hj;obtain ⟨t',q3⟩:=List.getElem?_of_mem q1;exact okV_owns x (hc.rf.get t' x q3).2 j q2
 have okcs:okB (M g.H) nb:=hlow _ _ (e1.blk (M g.H) nb AJ).2 hcl
 have hMv:=e1.move (k:=M H+i) hdb hpn (λj b hj=>⟨(hc.rw.blk j b hj).2,λhm=>fresh _ (hI.h j b hj _ hm) rfl⟩) ⟨okcs,λhm=>fresh _ (hI.f _<|hcs _ hm) rfl⟩ λp hp=>⟨okV.mono hc.len _<|hgh p hp,λhm=>by have:=okV_owns _ (hgh p hp) _ hm;omega⟩
 have hF2:RF ds (L1 β' (M H+i)<|M g.H) Z' w'' (M<|g.H.set (M H+i) nb) g.F g.a:=by
  rw [C4];refine ⟨hc.rf.size,λt' x hx=>?_,e2.defers⟩
  have q:=hc.rf.get t' x hx
  exact ⟨R.Ky x _ (λj hj=>JF<|fresh j<|hI.f j<|RB (Of hx) hj) q.2 (e2.get t' x hx).1,q.2⟩
 refine ⟨⟨Z',L1 β' (M H+i)<|M g.H,g.H.set (M H+i) nb,Av g.F o.dst lv,g.a.put o.dst v⟩,?_,rfl,rfl,rfl⟩;refine ⟨hMv,hF2.put (hlv _ _ _ _ e3) (hlo _ A8) o.dst,⟨e8.os.trans hc.near.os,e8.tape.trans hc.near.tape,e8.output.trans hc.near.output,I2 hsz e8.size,λk hk hn=>?_⟩,A8,λk hk=>?_,λk h3 h4=>?_,λk b hb=>?_⟩
 ·exact aO5
 ·show L1 β' (M H+i) (M g.H) k=β k
  rw [JF A0,e6 k<|bH hk hc.len];exact hc.old k hk
 ·show wr.heap.size<=(L1 β' (M H+i) (M g.H) k).b\/(L1 β' (M H+i) (M g.H) k).b∈Dg β H tr
  simp only [C4] at h4
  by_cases hkk:k=M H+i
  ·subst hkk
   rw [Qk];rcases e7 (M g.H) (Au _) AJ with h|h
   ·exact .inl A0
   ·exact hc.touch hst h
  ·rw [JF hkk,e6 k h4];exact hc.new k h3 h4
 ·have hkl:k<M H:=(EI.1 hb).1
  obtain ⟨b',q1,q2⟩:=hc.KH k b hb
  grind
def ajP (hΓ:∀g S,Γ g=ah S->Valid P G g S) {tr:aH}{g:Gh}{o:aU}{lv:LV}{H1:aG}{w':aO}{done:aC->Prop}{R':aH}{i:aC}(hgh:∀p,p∈Z0.gh->okV (M H) p.1) (hI:Sh (M H) done R' g) (hi:i∈R')
  (hst:C7 G g.F tr (M H) o=U) (h1:(JZ P G g.F g.H (M H+i) o).all λq=>q=(lv,H1)) (hc:Co ds G w0 Z0 tr β H wr g w'):
  Dt P (λv w''=>∃g':Gh,Co ds G w0 Z0 tr β H wr g' w''/\g'.F=Av g.F o.dst lv/\g'.H=H1/\g'.a=g.a.put o.dst v) ((execOp g.a.eval o).run P w'):=by
 rcases aIB (Γ:=Γ) h1 with ⟨cs,t,rfl,hH1,hop,hcs⟩ |⟨m,n,e,ty,l,rfl,hH1,hop⟩
 ·refine aKV hΓ hgh hI hi hst hop rfl (λj hj=>?_) (λn m h1 h2=>⟨okL_lower cs h1.1 λj hj=>h2 j ?_,ak⟩) (λβ' Z' w'' v hr=>aQ5) (λn hn=>hn) hH1 hc
  ·unfold AB.owns at hj
   grind
  ·unfold AB.owns
   simp only [Gm];exact hj
 ·refine aKV hΓ hgh hI hi hst hop rfl (λj hj=>?_) (λn m h1 h2=>⟨ak,ak⟩) (λβ' Z' w'' v hr=>aQ5) (λn hn=>hn) hH1 hc
  unfold AB.owns at hj
  simp [ownsL] at hj
def af5 {ops:aK}{o:aU}{d:bA}{y:LV}{k:aC}(ha:Er o=U) (h:∀t,d=ah t->t∉o.looksAt ops):JZ P G (Av F d y) H k o=JZ P G F H k o:=by
 have hl:=looks h
 unfold Er at ha;split at ha
 ·rename_i t ho
  unfold JZ
  grind
 ·rename_i t x ho
  unfold JZ;simp only [ho];exact nQ
 ·rename_i t n c ho
  unfold JZ;simp only [ho];rw [FT<|hl n EU,FT<|hl c EU]
 ·rename_i t len parts ho
  unfold JZ
  grind
 ·cases ha
def arn {o:aU}{k:aC}(ha:Er o=U):∃(p:Prop) (lv:LV) (nb:AB),∀(H:aG) (K:LV×List AB->Prop),(JZ P G F H k o).all K↔(p/\K (lv,H.set k nb)):=by
 unfold Er at ha;split at ha
 ·rename_i t ho
  unfold JZ;simp only [ho];split
  ·exact aNl
  ·exact Sz
 ·rename_i t x ho
  unfold JZ;simp only [ho];exact aNl
 ·rename_i t n c ho
  unfold JZ;simp only [ho];split
  ·split
   ·split
    ·split
     ·exact ⟨_,_,_,λH K=>LW⟩
     ·exact Sz
    ·exact Sz
   ·exact Sz
  ·exact Sz
 ·rename_i t len parts ho
  unfold JZ;simp only [ho];split
  ·split
   ·split
    ·rename_i e ty m FM _
     exact ⟨True,.os k m 0 0,⟨[],e,.vec ty [],X⟩,λH K=>aR7⟩
    ·exact Sz
   ·grind
  ·grind
 ·cases ha
def vf {o:aU}(hm:JV o=U):Er o=X/\QD o=U/\∀G tr n0 (F:aD),C7 G F tr n0 o=true:=by
 unfold JV at hm;split at hm
 ·rename_i x ho
  simp [Er,QD,C7,Ed,ho]
 ·rename_i x ho
  simp [Er,QD,C7,Ed,ho]
 ·rename_i t parts ho
  simp [Er,QD,C7,Ed,ho]
 ·cases hm
def rS {ops:aK}{o:aU}{d:bA}{y:LV}{n0 i:aC}(ha:(Er o ||JV o)=U) (h:∀t,d=ah t->t∉o.looksAt ops):IJ P G Γ ops n0 i (Av F d y) H o=IJ P G Γ ops n0 i F H o:=by
 rcases Sn.1 ha with ha|ha
 ·unfold IJ
  rw [AD ha,AD ha,af5 ha h]
 ·obtain ⟨h1,h2,_⟩:=vf ha
  have hl:=looks h
  unfold IJ;rw [h1,h2];unfold JV at ha;split at ha
  ·exact aOZ
  ·exact aOZ
  ·rename_i t parts ho
   have e:(parts.toList.map λq=>(q.1,IC G (Av F d y) q.2))=parts.toList.map λq=>(q.1,IC G F q.2):=Jo λq hq=>by
    exact aO4
   unfold Ay;simp only [ho,e];rfl
  ·cases ha
def putAt (k:aC) (nb:aX1) (H:aG):aG:=
 match nb with
 |some b=>H.set k b
 |none=>H
def aeQ {i j:aC}{a b:aX1}{H:aG}(h:i≠j):putAt i a (putAt j b H)=putAt j b (putAt i a H):=by
 cases a<;>cases b<;>simp only [putAt]
 exact List.set_comm _ _<|KL h
def gF {ops:aK}{o:aU}{n0 i:aC}(ha:(Er o ||JV o)=U):∃(p:Prop) (lv:LV) (nb:aX1),∀(H:aG) (K:LV×List AB->Prop),(IJ P G Γ ops n0 i F H o).all K↔(p/\K (lv,putAt (n0+i) nb H)):=by
 rcases Sn.1 ha with ha|ha
 ·obtain ⟨p,lv,nb,h⟩:=arn (P:=P) (G:=G) (F:=F) (k:=n0+i) ha
  refine ⟨p,lv,ah nb,λH K=>?_⟩
  unfold IJ;rw [AD ha];exact h H K
 ·obtain ⟨h1,h2,_⟩:=vf ha
  unfold JV at ha;split at ha
  ·exact aOz
  ·exact aOz
  ·rename_i t parts ho
   have key:∀l:bq,(∃y,Nk P t l=.ok y)\/Nk P t l=.no:=λl=>by
    unfold Nk;split
    ·split
     ·grind
     ·exact .inr rfl
    ·grind
   rcases key (parts.toList.map λq=>(q.1,IC G F q.2)) with ⟨y,hy⟩ |hy
   ·refine ⟨True,y,aj,λH K=>?_⟩
    unfold IJ Ay;rw [h1,h2]
    simp [ho,hy,T.bind,T.all,putAt]
   ·refine ⟨False,.junk,aj,λH K=>?_⟩
    unfold IJ Ay;rw [h1,h2]
    simp [ho,hy,T.bind,T.all]
  ·cases ha
def iB {o:aU}{tr:aH}{n0:aC}(ha:(Er o ||JV o)=U) (F:aD):C7 G F tr n0 o=true:=by
 rcases Sn.1 ha with ha|ha
 ·exact dz<|.inl ha
 ·exact (vf ha).2.2 G tr n0 F
def aj2 {o:aU}(h:M5 o=U):Er o=X/\QD o=false:=by
 unfold M5 at h;split at h
 ·rename_i args tys ho
  simp [Er,QD,ho]
 ·cases h
def aKF {ops:aK}{o:aU}{d:bA}{y:LV}(hh:M5 o=U) (h:∀t,d=ah t->t∉o.looksAt ops):
  Ay P G Γ (Av F d y) H o=Ay P G Γ F H o/\(∀tr n0,C7 G (Av F d y) tr n0 o=C7 G F tr n0 o)/\∀n0 H,L3 G ops n0 (Av F d y) H o=L3 G ops n0 F H o:=by
 have hl:=looks h
 unfold M5 at hh;split at hh
 ·rename_i args tys ho
  have e:args.toList.map (AM G<|Av F d y)=args.toList.map (AM G F):=Jo λx hx=>FT<|hl x cE
  refine ⟨?_,λtr n0=>?_,λn0 H=>?_⟩
  ·unfold Ay
   exact T3
  ·unfold C7 Ed
   exact T3
  ·unfold L3
   exact T3
 ·cases hh
def adS {t tx:aS} {k es off n:aC} {e0:Ty} {q0:List e0.D}:∃f:aX1->Option (Prop×Nat×Nat×TypeId×AB),(∀b p m n' e nb,f b=ah (p,m,n',e,nb)->nb.owns=[])/\(f aj=aj)/\
  ∀(H:aG) (K:LV×List AB->Prop),(Lm P H t tx (.os k es off n)<|.xl e0 q0).all K↔match f H[k]? with
   |some (p,m,n',e,nb)=>p/\K (.os (M H) m 0 n',H.set k ⟨[],e,.dead,X⟩++[nb])
   |none=>False:=by
 have bad:∀ {g:aG->T (LV×List AB)},(∀H,g H=.no)->∃f:aX1->Option (Prop×Nat×Nat×TypeId×AB),(∀b p m n' e nb,f b=ah (p,m,n',e,nb)->nb.owns=[])/\(f aj=aj)/\
   ∀(H:aG) (K:LV×List AB->Prop),(g H).all K↔match f H[k]? with
    |some (p,m,n',e,nb)=>p/\K (.os (M H) m 0 n',H.set k ⟨[],e,.dead,X⟩++[nb])
    |none=>False:=λhg=>⟨λ_=>aj,(λ_ _ _ _ _ _ h=>As),rfl,λH K=>by rw [hg];simp [T.all]⟩
 unfold Lm;cases he:Pk P t with
 |none=>exact bad λH=>rfl
 | some q=>
  obtain ⟨e,ty,m,FM⟩:=q;simp only;split
  ·rename_i z _ _
   by_cases hz:z.cells.size=m
   ·simp only [AD hz]
    have hs:∀H:aG,FW H ty (.xl e0 q0)=(match N3 ty (.xl e0 q0) with|some l=> .ok l|none=> .no):=λH=>rfl
    cases hd:N3 ty (.xl e0 q0) with
    |none=>exact bad λH=>by rw [hs,hd];rfl
    | some q=>
     refine ⟨λob=>match ob with
      |some ⟨_,bt,.vec e' l,X⟩=>match K7 e' ty with
       |some ⟨h⟩=>if es=m/\bt=e then ah (off+n=M l/\((n+M q:aC):Y)*FM<=2^47/\((n+M q:aC):Y)<2^62,m,n+M q,e,⟨[],e,.vec ty<|Kq h (l.drop off)++q,X⟩) else aj
       |none=>aj
      |_=>aj,λb p m' n' e' nb hf=>?_,rfl,λH K=>?_⟩
     ·simp only at hf
      split at hf
      ·split at hf
       ·split at hf
        ·simp only [Aj,Az] at hf
         rw [<-hf.2.2.2.2];rfl
        ·cases hf
       ·cases hf
      ·cases hf
     ·rw [hs,hd]
      simp only [T.bind];split
      ·rename_i hb
       simp only [hb];split
       ·rename_i ht
        simp only [ht];split
        ·simp only [T.all]
        ·simp [T.all]
       ·rename_i ht
        simp only [ht]
        simp [T.all]
      ·rename_i hb
       split
       ·rename_i hf
        exfalso;split at hf
        ·rename_i h1
         grind
        ·cases hf
       ·simp [T.all]
   ·simp_all
  ·simp_all
def sI {ops:aK} {n0:aC} {o:aU} (h:L3 G ops n0 F H o=U):∃d k es off n,∃e0:Ty,∃q0:List e0.D,∃t tx,apD ops o=ah d/\n0+ops.size<=M H/\k=n0+d/\(∀tr,C7 G F tr n0 o=U)/\((∀H':aG,Ay P G Γ F H' o=Lm P H' t tx (.os k es off n) (.xl e0 q0))\/∀H':aG,Ay P G Γ F H' o=.no):=by
 unfold L3 at h;split at h
 ·rename_i args tys ho
  split at h
  ·rename_i d hd
   simp only [AY,Ac] at h;obtain ⟨h1,h2⟩:=h;cases hm:args.toList.map (AM G F) with
   |nil=>rw [hm] at h2;simp [apK] at h2
   | cons a l=>
    cases l with
    |nil=>rw [hm] at h2;cases a<;>simp [apK] at h2
    | cons b l=>
     cases l with
     |cons c l=>rw [hm] at h2;cases a<;>cases b<;>simp [apK] at h2
     | nil=>
      rw [hm] at h2;cases a with
      | os k es off n=>
       cases b with
       | xl e0 q0=>
        simp only [apK,Cl] at h2
        have hok:∀tr,C7 G F tr n0 o=true:=λtr=>by
         unfold C7 Ed;simp only [ho,hm,owns,J2,List.all_nil,nC,CS,Ac];omega
        cases ht:tys.toList with
        |nil=>exact ⟨d,k,es,off,n,e0,q0,0,0,hd,h1,h2,hok,.inr λH'=>oG⟩
        | cons t1 l=>cases l with
         |nil=>exact ⟨d,k,es,off,n,e0,q0,0,0,hd,h1,h2,hok,.inr λH'=>oG⟩
         |cons t2 l=>cases l with
          |nil=>exact ⟨d,k,es,off,n,e0,q0,t1,t2,hd,h1,h2,hok,.inl λH'=>oG⟩
          |cons _ _=>exact ⟨d,k,es,off,n,e0,q0,0,0,hd,h1,h2,hok,.inr λH'=>oG⟩
       |_=>simp [apK] at h2
      |_=>simp [apK] at h2
  ·cases h
 ·cases h
def adl {k:aC}{nb:aX1}{H:aG}:M (putAt k nb H)=M H:=by cases nb<;>simp [putAt]
def aVz {ops:aK}{n0 j:aC}{nb:aX1}{o:aU}(h:L3 G ops n0 F H o=U) (hj:apD ops o≠ah j) (hlt:j<ops.size) (K:LV×List AB->Prop):
  (Ay P G Γ F (putAt (n0+j) nb H) o).all K↔(Ay P G Γ F H o).all (λq=>K (q.1,putAt (n0+j) nb q.2)):=by
 obtain ⟨d,k,es,off,n,e0,q0,t,tx,hd,hl,hk,_,ho⟩:=sI (P:=P) (Γ:=Γ) h
 have hkj:k≠n0+j:=by
  rintro e
  grind
 cases nb with
 |none=>exact Iff.rfl
 | some b=>
  have e1:(H.set (n0+j) b)[k]? =H[k]? :=Zq<|KL hkj
  obtain ⟨f,_,_,hf⟩:=adS (P:=P) (t:=t) (tx:=tx) (k:=k) (es:=es) (off:=off) (n:=n) (e0:=e0) (q0:=q0)
  have key:(Lm P (putAt (n0+j) (ah b) H) t tx (.os k es off n)<|.xl e0 q0).all K↔(Lm P H t tx (.os k es off n)<|.xl e0 q0).all (λq=>K (q.1,putAt (n0+j) (ah b) q.2)):=by
   rw [hf,hf];simp only [putAt,e1,C4];split
   ·rename_i e nb' _
    rw [List.set_comm _ _ hkj.symm,<-List.set_append_left _ _ A8]
   ·grind
  rcases ho with hb|hb
  ·grind
  ·rw [hb,hb];simp [T.all]
def aW0 {ops:aK}{n0:aC}{nb:aX1}{j:aC}{o:aU}:L3 G ops n0 F (putAt j nb H) o=L3 G ops n0 F H o:=by
 unfold L3;rw [adl]
def aqo {ops:aK}{tr:aH}{n0:aC}{i j:aC}{is:aH}{K:List LV×List AB->Prop}(hc:ku ops i j=U) (h:(GF P G Γ ops tr n0 (j::i::is) F H).all K):(GF P G Γ ops tr n0 (i::j::is) F H).all K:=by
 unfold ku at hc;split at hc
 ·rename_i x y hx hy
  simp only [AY,CS,DB,CY] at hc;obtain ⟨⟨⟨⟨hne,g1⟩,g2⟩,g3⟩,hap⟩:=hc;obtain ⟨a1,a2,a3⟩:=bP hap
  have hij:n0+j≠n0+i:=A0
  have step:∀(k:aC) (o:aU) (l:aH) (F:aD) (H:aG),ops[k]? =ah o->o.guard.isNone=U->((GF P G Γ ops tr n0 (k::l) F H).all K↔(C7 G F tr n0 o=U/\(IJ P G Γ ops n0 k F H o).all (λq=>(GF P G Γ ops tr n0 l (Av F o.dst q.1) q.2).all K))):=λk o l F H hk hg=>by
   simp only [GF,hk,hg,ET]
   by_cases hs:C7 G F tr n0 o=U
   ·rw [AD hs,T.all_bind];exact ⟨λh=>⟨hs,h⟩,λh=>h.2⟩
   ·exact aPX
  have ap:∀(k:aC) (o:aU) (F:aD) (H:aG) (K:LV×List AB->Prop),M5 o=U->((IJ P G Γ ops n0 k F H o).all K↔(L3 G ops n0 F H o=U/\(Ay P G Γ F H o).all K)):=λk o F H K ha=>by
   obtain ⟨q1,q2⟩:=aj2 ha;unfold IJ;rw [q1,q2]
   by_cases hs:L3 G ops n0 F H o=U
   ·grind
   ·exact aPX
  have hil:i<ops.size:=(Ia.1 hx).1
  have hjl:j<ops.size:=(Ia.1 hy).1
  rw [step j y _ F H hy g2] at h;rw [step i x _ F H hx g1];obtain ⟨_,h⟩:=h
  have st1:∀(F:aD) (H:aG),((GF P G Γ ops tr n0 (i::is) F H).all K↔_):=λF H=>step i x is F H hx g1
  have st2:∀(F:aD) (H:aG),((GF P G Γ ops tr n0 (j::is) F H).all K↔_):=λF H=>step j y is F H hy g2
  simp only [st1] at h;simp only [st2];rcases g3 with (⟨g3,g4⟩ |⟨g3,g4,g5⟩) |⟨⟨g3,g5⟩,g4⟩
  ·have g3':(Er x ||JV x)=true:=by simpa using g3
   have g4':(Er y ||JV y)=true:=by simpa using g4
   obtain ⟨px,lx,nx,ex⟩:=gF (P:=P) (G:=G) (Γ:=Γ) (ops:=ops) (F:=F) (n0:=n0) (i:=i) g3';obtain ⟨py,ly,ny,ey⟩:=gF (P:=P) (G:=G) (Γ:=Γ) (ops:=ops) (F:=F) (n0:=n0) (i:=j) g4';rw [ey] at h;obtain ⟨h1,_,h2⟩:=h;rw [rS g3' a3,ex] at h2;refine ⟨iB g3' F,?_⟩;rw [ex];refine ⟨h2.1,iB g4' _,?_⟩;rw [rS g4' a1,ey];refine ⟨h1,?_⟩;rw [Lb a2,aeQ hij];exact h2.2
  ·have g3':(Er x ||JV x)=true:=by simpa using g3
   obtain ⟨px,lx,nx,ex⟩:=gF (P:=P) (G:=G) (Γ:=Γ) (ops:=ops) (F:=F) (n0:=n0) (i:=i) g3';rw [ap j y F H _ g4] at h;obtain ⟨h1,h2⟩:=h
   have h2:(Ay P G Γ F H y).all (λq=>px/\(GF P G Γ ops tr n0 is (Av (Av F y.dst q.1) x.dst lx)<|putAt (n0+i) nx q.2).all K):=T.BQ (λq hq=>by
    have:=hq.2
    rw [rS g3' a3,ex] at this;exact this) h2
   have hp:px:=T.Qg<|T.BQ (λq hq=>hq.1) h2
   refine ⟨iB g3' F,?_⟩;rw [ex];refine ⟨hp,?_⟩;simp only;obtain ⟨b1,b2,b3⟩:=aKF (P:=P) (G:=G) (Γ:=Γ) (F:=F) (H:=putAt (n0+i) nx H) (d:=x.dst) (y:=lx) g4 a1;refine ⟨A8,?_⟩;rw [ap j y _ _ _ g4,b3,aW0,b1,aVz h1 g5 hil];refine ⟨h1,T.BQ (λq hq=>?_) h2⟩
   simp only;rw [Lb a2];exact hq.2
  ·have g4':(Er y ||JV y)=true:=by simpa using g4
   obtain ⟨py,ly,ny,ey⟩:=gF (P:=P) (G:=G) (Γ:=Γ) (ops:=ops) (F:=F) (n0:=n0) (i:=j) g4';rw [ey] at h;obtain ⟨h1,_,h2⟩:=h;obtain ⟨b1,b2,b3⟩:=aKF (P:=P) (G:=G) (Γ:=Γ) (F:=F) (H:=putAt (n0+j) ny H) (d:=y.dst) (y:=ly) g3 a3;rw [ap i x _ _ _ g3,b3,aW0,b1] at h2;obtain ⟨h2,h3⟩:=h2;rw [aVz h2 g5 hjl] at h3;obtain ⟨_,_,_,_,_,_,_,_,_,_,_,_,hok,_⟩:=sI (P:=P) (Γ:=Γ) h2;refine ⟨hok tr,?_⟩;rw [ap i x _ _ _ g3];refine ⟨h2,T.BQ (λq hq=>⟨iB g4' _,?_⟩) h3⟩
   rw [rS g4' a1,ey];refine ⟨h1,?_⟩;rw [Lb a2];exact hq
 ·cases hc
def aqp {ops:aK}{tr:aH}{n0:aC}{j:aC}{R R':aH}{K:List LV×List AB->Prop}(hh:∀(F:aD) (H:aG),(GF P G Γ ops tr n0 R F H).all K->(GF P G Γ ops tr n0 R' F H).all K) (h:(GF P G Γ ops tr n0 (j::R) F H).all K):(GF P G Γ ops tr n0 (j::R') F H).all K:=by
 simp only [GF] at h|-;exact zc
def aGS {ops:aK}{tr:aH}{n0:aC}{i:aC}{K:List LV×List AB->Prop}:∀(R:aH) (F:aD) (H:aG),i∈R->(G5 i R).all (λj=>ku ops i j)=U->(GF P G Γ ops tr n0 R F H).all K->(GF P G Γ ops tr n0 (i::R.erase i) F H).all K
 | [],_,_,hi,_,_=>oq
 | j::R,F,H,hi,hb,h=>by
  by_cases hj:j=i
  ·subst hj
   grind
  ·have hi':i∈R:=by
    rcases B6.1 hi with e|e
    ·grind
    ·exact e
   simp only [G5,AE hj,J2,AY] at hb;rw [V9 A8];exact aqo hb.1<|aqp (λF H h=>aGS R F H hi' hb.2 h) h
def adL {i:aC}:∀ {R:aH},PA R=U->∀i'∈R.erase i,i'≠i
 | [],_,_,h=>A8
 | k::R,hn,i',h=>by
  simp only [PA,AY,DB] at hn
  by_cases hk:k=i
  ·subst hk
   simp only [List.erase_cons_head] at h
   rintro rfl
   have:i'∉R:=A8
   exact this h
  ·rw [V9 A8] at h
   rcases B6.1 h with rfl|h
   ·exact hk
   ·exact adL hn.2 i' h
def aG7 {i:aC}:∀ {R:aH},PA R=U->PA (R.erase i)=U
 | [],_=>A8
 | k::R,hn=>by
  simp only [PA,AY,DB] at hn
  by_cases hk:k=i
  ·grind
  ·rw [V9 A8]
   simp only [PA,AY,DB];refine ⟨?_,aG7 hn.2⟩
   grind
def aFg {l cs:aD}{off:aC}{j:aC}(h:j∈ownsL (setAt l off cs)):j∈ownsL l\/j∈ownsL cs:=by
 obtain ⟨x,h1,h2⟩:=fB h;rcases Bf.1 h1 with h1|h1
 ·rcases Bf.1 h1 with h1|h1
  ·exact .inl<|RB (VA h1) h2
  ·exact .inr<|RB h1 h2
 ·exact .inl<|RB (QR h1) h2
def ae3 {t:aS}{x y:LV}{H1:aG}(h:(Th P H t x y).all λq=>q=H1):∃(k:aC) (b nb:AB),H[k]? =ah b/\H1=H.set k nb/\∀j,j∈nb.owns->j∈b.owns\/j∈owns y:=by
 unfold Th at h;split at h
 ·rename_i n cs hn hcs
  split at h
  ·rename_i k off
   split at h
   ·rename_i b hb
    split at h
    ·rename_i hc
     refine ⟨k,b,_,hb,h.symm,λj hj=>?_⟩
     have hcl:b.k=.cl:=by
      have:=hc.1
      unfold AB.E5 at this;split at this
      ·assumption
      ·cases this
     unfold AB.owns at hj|-;simp only [hcl,Gm] at hj|-;rcases aFg hj with h|h
     ·exact .inl h
     ·exact .inr<|qd hcs j h
    ·cases h
   ·cases h
  ·rename_i k es i j
   split at h
   ·rename_i bt e l hb
    split at h
    ·simp only [T.all] at h
     obtain ⟨_,h⟩:=h;split at h
     ·simp only [T.all] at h
      refine ⟨k,_,_,hb,h.symm,λj hj=>?_⟩
      unfold AB.owns at hj
      simp [ownsL] at hj
     ·cases h
    ·cases h
   ·cases h
  ·cases h
 ·cases h
def aGZ {x:LV}:owns (norm x)=owns x:=by cases x<;>simp [norm,owns]
def aFk:∀(l:aD),ownsL (l.map norm)=ownsL l
 | []=>rfl
 |x::xs=>by simp only [ES,ownsL,aGZ,aFk xs]
def aei {l:aD}{j:aC}(h:j∈owns (K4 l)):j∈ownsL l:=by
 unfold K4 at h;split at h
 ·simp [owns] at h
 ·simp only [owns,aFk] at h;exact h
def aFy {place:aC->aX9}:∀(parts:bq) (cells cs:aD),Kn place cells parts=ah cs->∀j,j∈ownsL cs->j∈ownsL cells\/∃q,q∈parts/\j∈owns q.2
 | [],cells,cs,h,j,hj=>by simp only [Kn,Aj] at h;subst h;exact .inl hj
 | (i,x)::rest,cells,cs,h,j,hj=>by
  simp only [Kn] at h;split at h
  ·rename_i off size c hp hc
   split at h
   ·rcases aFy rest _ cs h j hj with h1|⟨q,q1,q2⟩
    ·rcases aFg h1 with h2|h2
     ·grind
     ·exact .inr ⟨(i,x),AJ,qd hc j h2⟩
    ·grind
   ·cases h
  ·cases h
def ae4 {t:aS}{parts:bq}{lv:LV}(h:(Nk P t parts).all λz=>z=lv) (j:aC) (hj:j∈owns lv):∃q,q∈parts/\j∈owns q.2:=by
 unfold Nk at h;split at h
 ·split at h
  ·rename_i z pf _ _ cs hcs
   have hj':j∈ownsL cs:=by
    rw [<-h] at hj;split at hj
    ·exact hj
    ·exact aei hj
   rcases aFy parts _ cs hcs j hj' with h1|h1
   ·rw [aEu] at h1;cases h1
   ·exact h1
  ·cases h
 ·cases h
def aen {x:aXT}{j:aC}(h:j∈owns (IC G F x)):j∈ownsL F:=by
 cases x with
 |const v=>simp only [IC,aGZ] at h;exact TB h
 |tmp t=>exact TB (G:=G) (x:=.tmp t) h
 |global g=>exact TB (G:=G) (x:=.global g) h
 |func f=>exact TB (G:=G) (x:=.func f) h
def arM {ops:aK} {n0:aC} {done:aC->Prop} {R:aH} {g g':Gh} {o:aU} {i:aC} {lv:LV} {H1:aG} (hI:Sh n0 done R g) (hnd:∀i'∈R.erase i,i'≠i) (hs:(IJ P G Γ ops n0 i g.F g.H o).all λq=>q=(lv,H1)) (eF:g'.F=Av g.F o.dst lv) (eH:g'.H=H1):∃done',Sh n0 done' (R.erase i) g':=by
 have up:∀j,(j<n0\/∃i',done i'/\j=n0+i')->j<n0\/∃i',(done i'\/i'=i)/\j=n0+i':=λj h=>by
  rcases h with h|⟨i',h1,h2⟩
  ·exact .inl h
  ·exact aA6
 unfold IJ at hs;split at hs
 ·refine ⟨λi'=>done i'\/i'=i,?_⟩
  have al:∀nb:AB,owns lv=[n0+i]->H1=g.H.set (n0+i) nb->(∀j,j∈nb.owns->j∈ownsL g.F)->Sh n0 (λi'=>done i'\/i'=i) (R.erase i) g':=λnb ho hH1 hcs=>by
   subst hH1;refine ⟨λj hj=>?_,λk b hb j hj=>?_,λi' hi'=>?_⟩
   ·rw [eF] at hj
    rcases rA hj with h|h
    ·exact up j<|hI.f j h
    ·grind
   ·rw [eH,IY] at hb
    split at hb
    ·split at hb
     ·simp only [Aj] at hb
      subst hb;exact up j<|hI.f j<|hcs j hj
     ·cases hb
    ·exact up j<|hI.h k b hb j hj
   ·obtain ⟨h1,b,h2⟩:=hI.dead i' (QQ hi')
    refine ⟨λh=>h.elim h1<|hnd i' hi',b,?_⟩
    grind
  rcases aIB (Γ:=Γ) hs with ⟨cs,t,rfl,hH1,_,hcs⟩ |⟨m,n,e,ty,l,rfl,hH1,_⟩
  ·exact al _ rfl hH1 (λj hj=>by
    unfold AB.owns at hj;simp only [Gm] at hj;exact hcs j hj)
  ·exact al _ rfl hH1 (λj hj=>by
    unfold AB.owns at hj
    simp [ownsL] at hj)
 ·split at hs
  ·rename_i hst
   refine ⟨λi'=>done i'\/i'=i,?_⟩
   have other:∀(x:LV),lv=x->H1=g.H->(∀j,j∈owns x->j∈ownsL g.F)->Sh n0 (λi'=>done i'\/i'=i) (R.erase i) g':=λx e1 e2 e3=>by
    subst e1 e2;refine ⟨λj hj=>?_,λk b hb j hj=>?_,λi' hi'=>?_⟩
    ·rw [eF] at hj
     rcases rA hj with h|h
     ·exact up j<|hI.f j h
     ·exact up j<|hI.f j<|e3 j h
    ·rw [eH] at hb;exact up j<|hI.h k b hb j hj
    ·obtain ⟨h1,b,h2⟩:=hI.dead i' (QQ hi')
     grind
   unfold QD at hst;split at hst
   ·rename_i t x y ho
    unfold Ay at hs;simp only [ho] at hs;obtain ⟨H2,h1,h2⟩:=T.B7 hs;obtain ⟨rfl,rfl⟩:=h2;obtain ⟨k,b,nb,q1,q2,q3⟩:=ae3 h1;subst q2;refine ⟨λj hj=>?_,λk' b' hb j hj=>?_,λi' hi'=>?_⟩
    ·rw [eF] at hj
     rcases rA hj with h|h
     ·exact up j<|hI.f j h
     ·simp [owns] at h
    ·rw [eH,IY] at hb
     split at hb
     ·split at hb
      ·simp only [Aj] at hb
       subst hb;rcases q3 j hj with h|h
       ·exact up j<|hI.h k b q1 j h
       ·exact up j<|hI.f j<|TB h
      ·cases hb
     ·exact up j<|hI.h k' b' hb j hj
    ·obtain ⟨h1,b0,h2⟩:=hI.dead i' (QQ hi')
     refine ⟨λh=>h.elim h1<|hnd i' hi',?_⟩
     rw [eH]
     grind
   ·exact aOr
   ·exact aOr
   ·rename_i t parts ho
    unfold Ay at hs;simp only [ho] at hs;obtain ⟨y,h1,h2⟩:=T.B7 hs;simp only [T.all,Az] at h2;refine other _ h2.1.symm h2.2.symm λj hj=>?_
    obtain ⟨q,q1,q2⟩:=ae4 h1 j hj;obtain ⟨q0,_,rfl⟩:=FP.1 q1;exact aen q2
   ·cases hst
  ·split at hs
   ·rename_i hap
    obtain ⟨d,k,es,off,n,e0,q0,t,tx,_,hl,_,_,ho⟩:=sI (P:=P) (Γ:=Γ) hap;rcases ho with ho|ho
    ·obtain ⟨f,f1,_,hf⟩:=adS (P:=P) (t:=t) (tx:=tx) (k:=k) (es:=es) (off:=off) (n:=n) (e0:=e0) (q0:=q0)
     rw [ho,hf] at hs;split at hs
     ·rename_i p m n' e nb he
      obtain ⟨_,hs⟩:=hs;simp only [Az] at hs;obtain ⟨rfl,hH⟩:=hs
      have hnb:=f1 _ _ _ _ _ _ he
      refine ⟨λi'=>(done i'\/i'=i)\/i'=M g.H-n0,λj hj=>?_,λk' b hb j hj=>?_,λi' hi'=>?_⟩
      ·rw [eF] at hj
       rcases rA hj with h|h
       ·rcases up j (hI.f j h) with h|⟨i',h1,h2⟩
        ·exact .inl h
        ·exact aA6
       ·simp only [owns,Hz] at h
        grind
      ·rw [eH,<-hH] at hb
       by_cases hk:k'<M g.H
       ·rw [I1 (by rw [C4];exact hk),IY] at hb
        split at hb
        ·split at hb
         ·simp only [Aj] at hb
          subst hb
          simp [AB.owns,ownsL] at hj
         ·cases hb
        ·rcases up j (hI.h k' b hb j hj) with h|⟨i',h1,h2⟩
         ·exact .inl h
         ·exact aA6
       ·rw [Gp (by rw [C4];omega)] at hb
        have:b=nb:=by
         cases hq:k'-M (g.H.set k ⟨[],e,.dead,X⟩) with
         |zero=>rw [hq] at hb;simpa using hb.symm
         |succ z=>rw [hq] at hb;simp at hb
        subst this;rw [hnb] at hj;cases hj
      ·obtain ⟨h1,b,h2⟩:=hI.dead i' (QQ hi')
       have hlt:=(EI.1 h2).1
       refine ⟨λh=>h.elim (λh=>h.elim h1<|hnd i' hi') λh=>A0,?_⟩
       rw [eH,<-hH]
       grind
     ·exact hs.elim
    ·rw [ho] at hs
     cases hs
   ·cases hs
def aGk (hΓ:∀g S,Γ g=ah S->Valid P G g S) {ops:aK}{tr:aH}{D:aO->Prop}{sp:aC->aM}{Q:bg->Gh->Prop}{F':aD}{H':aG}(hgh:∀p,p∈Z0.gh->okV (M H) p.1)
  (hQ:∀g:Gh,g.F=F'->g.H=H'->Q g.a g):∀(n:aC) (R:aH) (listed:aZ) (g:Gh) (done:aC->Prop),PA R=U->Sh (M H) done R g->(∀i∈R,sp i=U)->cz ops n R listed=U->
   (GF P G Γ ops tr (M H) R g.F g.H).all (λq=>q=(F',H'))->Ki P .any ops D (Co ds G w0 Z0 tr β H wr) sp Q n listed g.a g
 |0,R,listed,g,_,_,_,_,hB,h=>by
  simp only [cz,AY,bK] at hB;obtain ⟨rfl,h2⟩:=hB;simp only [GF,T.all,Az] at h;exact ⟨h2,hQ g h.1 h.2⟩
 | n + 1,R,listed,g,done,hnd,hI,hs,hB,h=>by
  simp only [cz,AY,BO,DB,mw] at hB;obtain ⟨hne,hall⟩:=hB;refine ⟨λh0=>absurd h0 hne,λi hi=>?_⟩
  obtain ⟨⟨hR,hbef⟩,hrest⟩:=hall i hi
  have hiR:i∈R:=A8
  have hf:=aGS R g.F g.H hiR A8 h
  simp only [GF] at hf;split at hf
  ·rename_i o ho
   split at hf
   ·rename_i hgs
    simp only [AY,Zs] at hgs;obtain ⟨hgd,hst⟩:=hgs
    have hw:az o (yielded ops g.a.tmps)=true:=aAC
    unfold E9;simp only [ho,hw,Bu,hs i hiR];obtain ⟨⟨lv,H1⟩,h1,h2⟩:=T.B7 hf
    have hne2:∀i'∈R.erase i,i'≠i:=adL hnd
    intro w' hc
    have goal:Dt P (λv w''=>∃g':Gh,Co ds G w0 Z0 tr β H wr g' w''/\g'.F=Av g.F o.dst lv/\g'.H=H1/\g'.a=g.a.put o.dst v) ((execOp g.a.eval o).run P w'):=by
     unfold IJ at h1;split at h1
     ·exact ajP hΓ hgh hI hiR hst h1 hc
     ·split at h1
      ·exact fE hΓ hst h1 hc
      ·split at h1
       ·exact fE hΓ hst h1 hc
       ·cases h1
    refine LY (λv w'' ⟨g',e1,e2,e3,e4⟩=>⟨g',e1,?_⟩) goal
    rw [<-e4];obtain ⟨done',hI'⟩:=arM hI hne2 h1 e2 e3;refine aGk hΓ hgh hQ n (R.erase i) _ g' done' (aG7 hnd) hI' (λj hj=>hs j<|QQ hj) hrest ?_
    rwa [e2,e3]
   ·cases hf
  ·cases hf
def RW.acA {βd:aC->aXS}{m:aC}(hW:RW G w0 Z0 Z β H w) (hd:∀k,k<M H->βd k=β k):RW G w0 Z0 Z βd (H++aq m GQ) w:=by
 have old:∀(k:aC) (b:AB),(H++aq m GQ)[k]? =ah b->(k<M H/\H[k]? =ah b)\/b=GQ:=λk b hb=>by
  by_cases h0:k<M H
  ·grind
  ·rw [Gp A0,Ss] at hb
   split at hb
   ·grind
   ·cases hb
 have nl:∀k,¬live βd k GQ:=λk h=>by simp [live,GQ] at h
 refine ⟨hW.below,hW.Bc,hW.Et,λk b hk hl hp=>?_,λk b hk hl hp=>?_,λk b hk hl=>?_,λi j bi bj hi hj li lj pi e=>?_,λk b hk=>?_,hW.Cy,λp hp=>⟨R.mono hd (λ_ h=>h) (λ_ _=>rfl) _ _ (hW.gh p hp).2 (hW.gh p hp).1,okV.mono AJ _ (hW.gh p hp).2⟩,hW.Cv⟩
 ·rcases old k b hk with ⟨h1,h2⟩ |rfl
  ·rw [hd k h1];rw [KY<|hd k h1] at hl;exact hW.Cr k b h2 hl hp
  ·grind
 ·rcases old k b hk with ⟨h1,h2⟩ |rfl
  ·rw [hd k h1];rw [KY<|hd k h1] at hl;exact hW.GV k b h2 hl hp
  ·grind
 ·rcases old k b hk with ⟨h1,h2⟩ |rfl
  ·rw [hd k h1];rw [KY<|hd k h1] at hl;exact hW.low k b h2 hl
  ·grind
 ·rcases old i bi hi with ⟨h1,h2⟩ |rfl
  ·rcases old j bj hj with ⟨g1,g2⟩ |rfl
   ·rw [KY<|hd i h1] at li;rw [KY<|hd j g1] at lj;rw [hd i h1,hd j g1] at e
    exact hW.inj i j bi bj h2 g2 li lj pi e
   ·grind
  ·grind
 ·rcases old k b hk with ⟨h1,h2⟩ |rfl
  ·obtain ⟨g1,g2⟩:=hW.blk k b h2
   exact ⟨g1.keep hd (λ_ h=>h) (λ_ _=>rfl) (hd k h1) (λ_=>rfl) g2,g2.mono AJ⟩
  ·exact ⟨by simp [Bb,GQ],ak,ak⟩
def aHs (hΓ:∀g S,Γ g=ah S->Valid P G g S) {ops:aK} {Q:aYb->bg->aO->Prop} {F':aD} {H':aG} (hQ:∀Z' β' a' w',RW G w0 Z0 Z' β' H' w'->RF ds β' Z' w' (M H') F' a'->Q .normal a' w')
  (hW0:RW G w0 Z0 Z β H w) (hF0:RF ds β Z w (M H) F a) (h:(kg P G Γ ops F H).all λq=>q=(F',H')) (r:bp) (m:aC):P.follows .mixedOrders=U/\wpAnyIn (Dy r) m P .any ops Q ops.size (Array.replicate ops.size X) a {w with drawn:=w.drawn+1}:=by
 unfold kg at h;simp only at h;split at h
 ·rename_i hc
  simp only [AY] at hc;obtain ⟨⟨hcalm,hmix⟩,htr0⟩:=hc;generalize hfl:fk _ [] ops.toList=flags at h hcalm;generalize htrd:tracked H ops.toList F=tr at h htr0
  have htr:∀k∈tr,k<M H:=λk hk=>aAI
  obtain ⟨⟨F1,H1⟩,h1,h2⟩:=T.B7 h
  have hk:=WN (P:=P) (G:=G) (Γ:=Γ) (H:=H) (tr:=tr) (Hm:=Eo tr 0 H) (F0:=F) flags ops.toList F (λ_ h=>h) ⟨rfl,λ_ _=>rfl⟩
  obtain ⟨⟨F2,H2⟩,g1,g2,g3⟩:=Ow hk h1
  have hH2:H2=H:=(T.R2 hk g1).2.2
  subst hH2
  have hbd:Below w.heap.size w {w with drawn:=w.drawn+1}:=⟨rfl,rfl,rfl,Au _,λ_ _=>rfl⟩
  have hW:=hW0.same hbd
  have hF:RF ds β Z {w with drawn:=w.drawn+1} (M H2) F a:=hF0.mono (Au _) (λ_ _=>rfl) (λ_ h=>h) λ_ _=>rfl
  have hflen:M flags=M ops.toList:=by
   unfold kv at hcalm;exact zz
  have hops:ops=ops.toList.toArray:=AJ
  have hshp0:Shp tr β H2 {w with drawn:=w.drawn+1}:=λk b _ hb hcl=>by
   exact zp
  refine ⟨hmix,?_⟩;rw [hops]
  refine adw (P:=P) (G:=Gh) (D:=λw'=>De (Dg β H2 tr) {w with drawn:=w.drawn+1} w'/\Below w0.heap.size w0 w'/\Shp tr β H2 w') (C:=λg w'=>Co ds G w0 Z0 tr β H2 {w with drawn:=w.drawn+1} g w') flags ⟨Z,β,H2,F,a⟩ aAD (λg w' hc=>⟨hc.near,hc.rw.below,hc.shape⟩) (λg w1 w2 hc hb=>hc.keep hb)
   ⟨hW,hF,De.refl _ _,Au _,λ_ _=>rfl,λk k1 k2=>absurd k2<|VC.2 k1,EvL.refl _⟩ ?_
  rw [<-hops]
  have hlm:M (Eo tr 0 H2)=M H2:=W5 tr H2 0
  have hDm:∀w',(De (Dg β H2 tr) {w with drawn:=w.drawn+1} w'/\Below w0.heap.size w0 w'/\Shp tr β H2 w')->RW G w0 Z0 Z β (Eo tr 0 H2) w'/\∀b,(Z b\/∃k bk,(Eo tr 0 H2)[k]? =ah bk/\live β k bk/\tr.contains k=X/\b=(β k).b)->w'.heap[b]? =({w with drawn:=w.drawn+1}:aO).heap[b]? :=λw' ⟨d1,d2,d3⟩=>by
   exact zh
  refine Wd (H:=H2) (HH:=H2) (F':=F2) hΓ hlm (hW.mask (De.refl _ _) hW.below hshp0) hDm (λa1 hF1=>?_) flags ops.toList F a hflen hF g1
  have hF1':=g3 _ _ _ _ _ _ hF1
  refine rZ (Q':=λa' w'=>Q .normal a' w') (g1:=⟨Z,β,H2,F1,a1⟩) (λw' hc=>?_) flags ops.toList a1 ?_
  ·exact aNt
  ·exact rY (H:=H2) (F':=F') (H':=H') hΓ (λg e1 e2 w' hc=>hQ g.Z g.β g.a w' cI cK) flags ops.toList ⟨Z,β,H2,F1,a1⟩ hflen ⟨_,hW,hF1',De.refl _ _,Au _,λ_ _=>rfl,λk k1 k2=>absurd k2<|VC.2 k1,EvL.refl _⟩ h2
 ·split at h
  ·rename_i hc
   simp only [AY] at hc;obtain ⟨⟨hcalm,hmix⟩,htr0⟩:=hc
   replace hord:(Wy ops _ ||jK P ops _)=true:=hcalm
   replace hcalm:=(Sn.1 hcalm).elim (λe=>by unfold Wy at e;exact (Bool.and_eq_true_iff.1 e).1) (λe=>by unfold jK at e;exact (Bool.and_eq_true_iff.1 e).1)
   generalize hfl:fk _ [] ops.toList=flags at h hcalm hord;generalize htrd:tracked H ops.toList F=tr at h htr0
   have htr:∀k∈tr,k<M H:=λk hk=>aAI
   obtain ⟨⟨F1,H1⟩,h1,h2⟩:=T.B7 h
   have hk:=WN (P:=P) (G:=G) (Γ:=Γ) (H:=H) (tr:=tr) (Hm:=Eo tr 0 H) (F0:=F) flags ops.toList F (λ_ h=>h) ⟨rfl,λ_ _=>rfl⟩
   obtain ⟨⟨F2,H2⟩,g1,g2,g3⟩:=Ow hk h1
   have hH2:H2=H:=(T.R2 hk g1).2.2
   subst hH2
   have hbd:Below w.heap.size w {w with drawn:=w.drawn+1}:=⟨rfl,rfl,rfl,Au _,λ_ _=>rfl⟩
   have hW:=hW0.same hbd
   have hF:RF ds β Z {w with drawn:=w.drawn+1} (M H2) F a:=hF0.mono (Au _) (λ_ _=>rfl) (λ_ h=>h) λ_ _=>rfl
   have hflen:M flags=M ops.toList:=by
    unfold Tm at hcalm;exact zz
   have hops:ops=ops.toList.toArray:=AJ
   have hshp0:Shp tr β H2 {w with drawn:=w.drawn+1}:=λk b _ hb hcl=>by
    exact zp
   refine ⟨hmix,?_⟩;rw [hops]
   refine adN (P:=P) (G:=Gh) (D:=λw'=>De (Dg β H2 tr) {w with drawn:=w.drawn+1} w'/\Below w0.heap.size w0 w'/\Shp tr β H2 w') (C:=λg w'=>Co ds G w0 Z0 tr β H2 {w with drawn:=w.drawn+1} g w') flags ⟨Z,β,H2,F,a⟩ aAD (λg w' hc=>⟨hc.near,hc.rw.below,hc.shape⟩) (λg w1 w2 hc hb=>hc.keep hb)
    ⟨hW,hF,De.refl _ _,Au _,λ_ _=>rfl,λk k1 k2=>absurd k2<|VC.2 k1,EvL.refl _⟩ ?_
   rw [<-hops]
   have hlm:M (Eo tr 0 H2)=M H2:=W5 tr H2 0
   have hDm:∀w',(De (Dg β H2 tr) {w with drawn:=w.drawn+1} w'/\Below w0.heap.size w0 w'/\Shp tr β H2 w')->RW G w0 Z0 Z β (Eo tr 0 H2) w'/\∀b,(Z b\/∃k bk,(Eo tr 0 H2)[k]? =ah bk/\live β k bk/\tr.contains k=X/\b=(β k).b)->w'.heap[b]? =({w with drawn:=w.drawn+1}:aO).heap[b]? :=λw' ⟨d1,d2,d3⟩=>by
    exact zh
   refine Wd (H:=H2) (HH:=H2) (F':=F2) hΓ hlm (hW.mask (De.refl _ _) hW.below hshp0) hDm (λa1 hF1=>?_) flags ops.toList F a hflen hF g1
   have hF1':=g3 _ _ _ _ _ _ hF1
   refine eK (Q':=λa' w'=>Q .normal a' w') (g1:=⟨Z,β,H2,F1,a1⟩) (λw' hc=>?_) _ _ a1 ?_
   ·exact aNt
   ·cases hfx:Wy ops flags with
    | true=>
     rw [AD hfx] at h2
     have hord2:=hfx
     unfold Wy at hord2;simp only [AY,CS] at hord2
     exact aEw (H:=H2) (F':=F') (H':=H') hΓ (λg e1 e2 w' hc=>hQ g.Z g.β g.a w' cI cK) _ (idxs U flags 0) _ ⟨Z,β,H2,F1,a1⟩ (λi hi=>by
      obtain ⟨_,h⟩:=qt U flags 0 i hi;simp only [Nat.sub_zero] at h
      simp [List.getD,h]) (hord2.2.elim aSb id) h2
    |false=>
     rw [AE (by rw [hfx];decide)] at h2
     rw [hfx,DC] at hord;unfold jK at hord;simp only [AY,BO] at hord;exact adT (H:=H2) (F':=F') (H':=H') hΓ (λg e1 e2 w' hc=>hQ g.Z g.β g.a w' cI cK) _ (RE ops<|idxs U flags 0) _ ⟨Z,β,H2,F1,a1⟩ (λi hi=>hord.2.1 i hi) hord.2.2 h2
  ·split at h
   ·rename_i hc
    simp only [AY] at hc;obtain ⟨⟨hcalm,hmix⟩,htr0⟩:=hc;unfold alx at hcalm;simp only [AY] at hcalm;obtain ⟨⟨⟨hcalm,hnd⟩,hlt⟩,hord⟩:=hcalm;generalize hfl:fk _ [] ops.toList=flags at h hcalm hord hnd hlt;generalize htrd:tracked H ops.toList F=tr at h htr0
    have htr:∀k∈tr,k<M H:=λk hk=>aAI
    obtain ⟨⟨F1,H1⟩,h1,h2⟩:=T.B7 h
    have hk:=WN (P:=P) (G:=G) (Γ:=Γ) (H:=H) (tr:=tr) (Hm:=Eo tr 0 H) (F0:=F) flags ops.toList F (λ_ h=>h) ⟨rfl,λ_ _=>rfl⟩
    obtain ⟨⟨F2,H2⟩,g1,g2,g3⟩:=Ow hk h1
    have hH2:H2=H:=(T.R2 hk g1).2.2
    subst hH2
    have hbd:Below w.heap.size w {w with drawn:=w.drawn+1}:=⟨rfl,rfl,rfl,Au _,λ_ _=>rfl⟩
    have hW:=hW0.same hbd
    have hF:RF ds β Z {w with drawn:=w.drawn+1} (M H2) F a:=hF0.mono (Au _) (λ_ _=>rfl) (λ_ h=>h) λ_ _=>rfl
    have hflen:M flags=M ops.toList:=by
     unfold Tm at hcalm;exact zz
    have hops:ops=ops.toList.toArray:=AJ
    have hshp0:Shp tr β H2 {w with drawn:=w.drawn+1}:=λk b _ hb hcl=>by
     exact zp
    refine ⟨hmix,?_⟩;rw [hops]
    refine adN (P:=P) (G:=Gh) (D:=λw'=>De (Dg β H2 tr) {w with drawn:=w.drawn+1} w'/\Below w0.heap.size w0 w'/\Shp tr β H2 w') (C:=λg w'=>Co ds G w0 Z0 tr β H2 {w with drawn:=w.drawn+1} g w') flags ⟨Z,β,H2,F,a⟩ aAD (λg w' hc=>⟨hc.near,hc.rw.below,hc.shape⟩) (λg w1 w2 hc hb=>hc.keep hb)
     ⟨hW,hF,De.refl _ _,Au _,λ_ _=>rfl,λk k1 k2=>absurd k2<|VC.2 k1,EvL.refl _⟩ ?_
    rw [<-hops]
    have hlm:M (Eo tr 0 H2)=M H2:=W5 tr H2 0
    have hDm:∀w',(De (Dg β H2 tr) {w with drawn:=w.drawn+1} w'/\Below w0.heap.size w0 w'/\Shp tr β H2 w')->RW G w0 Z0 Z β (Eo tr 0 H2) w'/\∀b,(Z b\/∃k bk,(Eo tr 0 H2)[k]? =ah bk/\live β k bk/\tr.contains k=X/\b=(β k).b)->w'.heap[b]? =({w with drawn:=w.drawn+1}:aO).heap[b]? :=λw' ⟨d1,d2,d3⟩=>by
     exact zh
    refine Wd (H:=H2) (HH:=H2) (F':=F2) hΓ hlm (hW.mask (De.refl _ _) hW.below hshp0) hDm (λa1 hF1=>?_) flags ops.toList F a hflen hF g1
    have hF1':=g3 _ _ _ _ _ _ hF1
    have d1:∀k,k<M H2->(λk=>if k<M H2 then β k else ⟨w.heap.size,0,aj⟩:aC->aXS) k=β k:=λk hk=>by simp [hk]
    have d2:∀k,M H2<=k->((λk=>if k<M H2 then β k else ⟨w.heap.size,0,aj⟩:aC->aXS) k).b=w.heap.size:=λk hk=>by simp [VC.2 hk]
    generalize (λk=>if k<M H2 then β k else ⟨w.heap.size,0,aj⟩:aC->aXS)=βd at d1 d2
    refine eK (Q':=λa' w'=>Q .normal a' w') (g1:=⟨Z,βd,H2++aq ops.size GQ,F1,a1⟩) (λw' hc=>?_) _ _ a1 ?_
    ·refine ⟨hc.rw.acA d1,?_,hc.near,AJ,λk hk=>d1 k hk,λk k1 k2=> .inl (by rw [d2 k k1];exact Au _),EvL.app _ _⟩
     exact hF1'.mono AJ d1 (λ_ h=>h) λb hz=>hc.near.block b (hW.Bc b hz)<|hW.qq hz
    ·refine aGk (H:=H2) (F':=F') (H':=H') hΓ (λp hp=>(hW.gh p hp).2) (λg e1 e2 w' hc=>hQ g.Z g.β g.a w' cI cK) _ (idxs U flags 0) _ ⟨Z,βd,H2++aq ops.size GQ,F1,a1⟩ (λ_=>False) hnd ⟨λj hj=>?_,λk b hb j hj=>?_,λi hi=>⟨λh=>h,?_⟩⟩ (λi hi=>by
      obtain ⟨_,h⟩:=qt U flags 0 i hi;simp only [Nat.sub_zero] at h
      simp [List.getD,h]) hord h2
     ·obtain ⟨x,q1,q2⟩:=fB hj
      obtain ⟨t',q3⟩:=List.getElem?_of_mem q1;exact .inl<|okV_owns x (hF1'.get t' x q3).2 j q2
     ·by_cases h0:k<M H2
      ·simp only at hb
       rw [I1 h0] at hb;exact .inl<|aHF (hW.blk k b hb).2 j hj
      ·simp only at hb
       rw [Gp A0,Ss] at hb;split at hb
       ·simp only [Aj] at hb
        subst hb
        simp [AB.owns,GQ,ownsL] at hj
       ·cases hb
     ·have hlt':i<ops.size:=by simpa using BO.1 hlt i hi
      exact ⟨_,Di DK⟩
   ·cases h
def aFr {α:Type}{f:aC->T α}{n:Y}{p:α->Prop}:∀(m j:aC),(splitN f n m j).all p->(j:Y)<=n->n<(j:Y)+m->∃i:aC,n=(i:Y)/\(f i).all p
 |0,j,_,h1,h2=>A0
 |1,j,h,h1,h2=>⟨j,A0,h⟩
 |m+2,j,h,h1,h2=>by
  simp only [splitN,T.all] at h
  by_cases e:n=(j:Y)
  ·grind
  ·exact aFr (m+1) (j+1) (h.2 A8) A0 A0
def adn {ops:bx}{s len:aC}{k:aXU}{n:Y}(h:tY P ops F=ah (s,k,n,len)):F.getD s .junk=.v (ag k n):=by
 unfold tY at h;split at h
 ·obtain ⟨o,_,ho⟩:=List.exists_of_findSome?_eq_some h
  split at ho
  ·split at ho
   ·split at ho
    ·rename_i hx
     obtain ⟨rfl,rfl,rfl,rfl⟩:=ho;exact hx
    ·cases ho
   ·cases ho
  ·cases ho
 ·cases h
def apr (hΓ:∀g S,Γ g=ah S->Valid P G g S) {ops:aK}{Q:aYb->bg->aO->Prop}{F':aD}{H':aG}(hQ:∀Z' β' a' w',RW G w0 Z0 Z' β' H' w'->RF ds β' Z' w' (M H') F' a'->Q .normal a' w')
  (hW0:RW G w0 Z0 Z β H w) (hF0:RF ds β Z w (M H) F a) (h:(lA P G Γ ops F H).all λq=>q=(F',H')) (r:bp) (m:aC):P.follows .mixedOrders=U/\wpAnyIn (Dy r) m P .any ops Q ops.size (Array.replicate ops.size X) a {w with drawn:=w.drawn+1}:=by
 unfold lA at h;split at h
 ·rename_i s k n len hs
  obtain ⟨⟨h0,h1⟩,h2⟩:=h;obtain ⟨i,hi,h3⟩:=aFr len 0 h2 A0 A0
  have hx:=adn hs
  obtain ⟨s1,s2⟩:=hF0.slot hx AJ
  have hv:=(hF0.get s _ s1).1
  exact aHs hΓ hQ hW0 (hF0.know (lv:=.ki k i) (by simp only [R];rw [hv,hi]) trivial) h3 r m
 ·exact aHs hΓ hQ hW0 hF0 h r m
def ae7 (hΓ:∀g S,Γ g=ah S->Valid P G g S) {id:aC}{ops:aK}{Q:aYb->bg->aO->Prop}{F':aD}{H':aG}(hQ:∀Z' β' a' w',RW G w0 Z0 Z' β' H' w'->RF ds β' Z' w' (M H') F' a'->Q .normal a' w')
  (hW0:RW G w0 Z0 Z β H w) (hF0:RF ds β Z w (M H) F a) (h:(lA P G Γ ops F H).all λq=>q=(F',H')) (r:bp) (m:aC):(Code.region id ops U).wpIn (Dy r) m P Q a w:=
 have h1:=apr hΓ hQ hW0 hF0 h r m
 wpIn_region_any h1.1 h1.2
end Go.Sx
namespace Go.Sx
open Go Go.RowKit Go.Proofs.YtpdndmobphnjcaaGreatDoor
variable {P : Program} {G : BA} {Γ : Specs} {K : Hand} {β : Nat -> Loc} {Z : Nat -> Prop} {Z0 : Gz} {w w0 : World} {F : List LV} {H : List AB} {a : Act} {ds : List Deferred}
def aqs {ops:aK}{o:aU}{t:Tmp}(h:Operand.tmp t∈o.op.operands):t∈o.looksAt ops:=by
 exact List.mem_append_left _<|So.2 ⟨.tmp t,A8,rfl⟩
def qb {ops:aK}{F F':aD}{o:aU}(h:∀t,t∈o.looksAt ops->F.getD t .junk=F'.getD t .junk) {x:aXT}(hx:x∈o.op.operands):AM G F x=AM G F' x:=by
 cases x with
 |tmp t=>exact h t (aqs hx)
 |const _=>rfl
 |global _=>rfl
 |func _=>rfl
def aG5 {ops:aK}{F F':aD}{o:aU}(hs:∀cs b,o.op≠ .select cs b) (h:∀t,t∈o.looksAt ops->F.getD t .junk=F'.getD t .junk):Dd P G F o=Dd P G F' o:=by
 have e:∀x∈o.op.operands,AM G F x=AM G F' x:=λx hx=>qb h hx
 unfold Dd
 have e1:o.op.operands.toList.all (λx=>SP<|AM G F x)=o.op.operands.toList.all (λx=>SP<|AM G F' x):=by
  grind
 have e3:o.op.operands.toList.all (λx=>dB<|AM G F x)=o.op.operands.toList.all (λx=>dB<|AM G F' x):=by
  grind
 have e2:OW P o (λx=>(pl<|AM G F x).getD undef)=OW P o (λx=>(pl<|AM G F' x).getD undef):=by
  have c:=ng (ρ:=λx=>(pl<|AM G F x).getD undef) (ρ':=λx=>(pl<|AM G F' x).getD undef) o hs λx hx=>A8
  unfold OW;rw [c]
  have a:R8 P o.op (λx=>(pl<|AM G F x).getD undef)=R8 P o.op (λx=>(pl<|AM G F' x).getD undef):=by
   exact aO2
  rw [a]
 grind
def aq4 {ops:aK}{F F':aD}{o:aU}(h:∀t,t∈o.looksAt ops->F.getD t .junk=F'.getD t .junk):Hp P G Γ F o=Hp P G Γ F' o:=by
 have e:=λx hx=>qb (G:=G) h (x:=x) hx
 unfold Hp;split
 ·rename_i t len parts ho
  have em:(parts.toList.map λq=>(q.1,AM G F q.2))=parts.toList.map λq=>(q.1,AM G F' q.2):=Jo λq hq=>by
   rw [e q.2 aAB]
  rw [em]
 ·rename_i f args ty ho
  have e1:=e f aQP
  have e2:(args.toList.map λx=>norm<|AM G F x)=args.toList.map λx=>norm (AM G F' x):=Jo λx hx=>by
   rw [e x cE]
  rw [e1,e2]
 ·rfl
def aFO {ops:aK}{F F':aD}{o:aU}(h:∀t,t∈o.looksAt ops->F.getD t .junk=F'.getD t .junk):hwx P G Γ F H o=hwx P G Γ F' H o:=by
 have e:=λx hx=>qb (G:=G) h (x:=x) hx
 unfold hwx;cases ho:o.op<;>simp only
 case binOp op t x y u=>cases op<;>simp only<;>exact aG5 (ops:=ops) (λcs b q=>by rw [ho] at q;cases q) h
 case indexAddr t x i=>rw [e x EU,e i EU]
 case call c=>
  split
  ·exact aG5 (ops:=ops) (λcs b q=>by rw [ho] at q;cases q) h
  ·exact aq4 (ops:=ops) h
 all_goals rw [e _ EU]
def aeu {o:aU}{g:bn}{l:aD}(h:callOf G [] o=ah (g,l)):∃f args ty,o.op=.call {callee:=.value f,args,argTypes:=ty}/\∀F:aD,AM G F f=AM G [] f:=by
 obtain ⟨f,args,ty,ho,hf⟩:=sG h;refine ⟨f,args,ty,ho,λF=>?_⟩
 cases f with
 |tmp t=>
  have:AM G [] (.tmp t)=.junk:=by simp [AM]
  rcases hf with ⟨_,hf,_⟩ |⟨_,hf,_⟩ |⟨hf,_⟩<;>rw [this] at hf<;>cases hf
 |const _=>rfl
 |global _=>rfl
 |func _=>rfl
def aGU {ops:aK}{F F':aD}{o:aU}{g:bn}{l:aD}(hc:callOf G [] o=ah (g,l)) (hg:Γ g=aj) (h:∀t,t∈o.looksAt ops->F.getD t .junk=F'.getD t .junk):opk P G Γ K F H o=opk P G Γ K F' H o:=by
 obtain ⟨f,args,ty,ho,hf⟩:=aeu hc
 have ha:args.toList.map (λx=>norm<|AM G F x)=args.toList.map (λx=>norm<|AM G F' x):=Jo λx hx=>by
  rw [qb (G:=G) h (by rw [ho];simp [Op.operands,Call.operands];exact .inr A8)]
 have hcall:callOf G F o=callOf G F' o:=by
  unfold callOf
  grind
 have h2:∃l2,callOf G F' o=ah (g,l2):=by
  unfold callOf at hc|-;simp only [ho] at hc|-;split at hc
  ·grind
  ·grind
  ·grind
  ·cases hc
 unfold opk
 grind
def T.fW {t:T LV}{lv:LV}{H:aG}(h:t.all λy=>y=lv):(t.bind λy=>(T.ok (y,H):T<|LV×List AB)).all (λq=>q=(lv,H)):=by
 rw [T.all_bind];exact T.BQ (λx hx=>by rw [hx];exact rfl) h
def aqw {o:aU}{lv:LV}(h:(Hp P G Γ F o).all λz=>z=lv):(Ay P G Γ F H o).all (λq=>q=(lv,H)):=by
 refine uL ?_ h;unfold Hp at h;unfold HU;split at h
 ·rfl
 ·rfl
 ·cases h
def ava {o:aU}{lv:LV}(h:(hwx P G Γ F H o).all λy=>y=lv):(Ay P G Γ F H o).all (λq=>q=(lv,H)):=by
 by_cases hcl:∃c,o.op=.call c
 ·obtain ⟨c,ho⟩:=hcl
  unfold hwx at h;simp only [ho] at h;split at h
  ·rename_i hm
   obtain ⟨callee,args,tys⟩:=c;obtain rfl:callee=.builtin .max:=hm;unfold Ay;simp only [ho];exact T.fW h
  ·exact aqw h
 unfold hwx at h;unfold Ay;cases ho:o.op<;>simp only [ho] at h|-
 case call c=>exact absurd ⟨c,ho⟩ hcl
 case move x=>simp only [T.all] at h|-;rw [h]
 case assign x=>simp only [T.all] at h|-;rw [h]
 case load t x=>exact T.fW h
 case fieldAddr s x i=>exact T.fW h
 case indexAddr t x i=>exact T.fW h
 case nilCheck x=>
  generalize AM G F x=v at h|-;cases v<;>simp only [T.all] at h|-<;>first|rw [h] |cases h
 case binOp op t x y u=>cases op<;>simp only at h|-<;>first|exact T.fW h|cases h
 all_goals cases h
def aFQ {F:aD}{d t:aC}{y:LV}(hd:d<M F):(F.set d y).getD t .junk=if t=d then y else F.getD t .junk:=by
 by_cases e:t=d
 ·grind
 ·grind
def ss {ops:aK}:∀(is:aH) (F F1:aD),is.Pairwise (λi j=>∀d,G4 ops j=ah d->d∉NX ops i/\G4 ops i≠ah d)->(∀i∈is,∃d,G4 ops i=ah d/\d<M F/\d∉NX ops i)->
  (goW P G Γ ops H is F).all (λz=>z=F1)->M F1=M F/\(∀t,(∀i∈is,G4 ops i≠ah t)->F1.getD t .junk=F.getD t .junk)/\∀i∈is,∀o d,ops[i]? =ah o->o.dst=ah d->(hwx P G Γ F1 H o).all (λy=>y=F1.getD d .junk)
 | [],F,F1,_,_,h=>by
  subst h
  grind
 | i ::is,F,F1,hp,hd,h=>by
  simp only [goW] at h;split at h
  ·rename_i o ho
   obtain ⟨y,h1,h2⟩:=T.B7 h;obtain ⟨d,e1,e2,e3⟩:=hd i AJ
   have hod:o.dst=ah d:=by simpa [G4,ho] using e1
   obtain ⟨p1,p2⟩:=nN.1 hp
   have hset:Av F o.dst y=F.set d y:=by rw [hod];rfl
   rw [hset] at h2;obtain ⟨g1,g2,g3⟩:=ss is (F.set d y) F1 p2 (λj hj=>A8) h2
   have hFd:F1.getD d .junk=y:=by
    grind
   refine ⟨A8,λt ht=>?_,λj hj o' d' ho' hd'=>?_⟩
   ·rw [g2 t λj hj=>ht j A8,aFQ e2,AE]
    grind
   ·rcases B6.1 hj with rfl|hj
    ·obtain rfl:=Ej (ho.symm.trans ho')
     obtain rfl:=Ej<|hod.symm.trans hd';rw [hFd,aFO (ops:=ops) (F':=F) λt ht=>?_]
     ·exact h1
     ·have hl:t∈NX ops j:=oW
      grind
    ·grind
  ·cases h
def sF {ops:aK}{F1:aD}:∀(is:aH),(dF P G Γ ops H F1 is).all (λ_=>True)->∀i∈is,∀o d t x,ops[i]? =ah o->o.dst=ah d->o.op=.load t x->(hwx P G Γ F1 H o).all (λy=>y=F1.getD d .junk)
 | [],_,i,hi=>oq
 | j ::is,h,i,hi=>λo d t x ho hd hop=>by
  simp only [dF] at h;split at h
  ·rename_i o' ho'
   split at h
   ·rename_i hop'
    rw [T.all_bind] at h;rcases B6.1 hi with rfl|hi
    ·obtain rfl:=Ej (ho'.symm.trans ho)
     refine T.BQ (λy hy=>?_) h
     simp only [T.all,hd] at hy;exact hy.1
    ·obtain ⟨y,hy,_⟩:=T.pick h
     exact sF is hy.2 i hi o d t x ho hd hop
   ·rename_i hop'
    rcases B6.1 hi with rfl|hi
    ·obtain rfl:=Ej (ho'.symm.trans ho)
     grind
    ·exact sF is h i hi o d t x ho hd hop
  ·cases h
def ae9 (n:aC) (p q:aC->aM) (hp:∃k,k<n/\p k=U/\∀j,j<n->p j=U->j=k):n=(M ((au n).filter λi=>!p i&&!q i)+1)+M ((au n).filter λi=>!p i&&q i):=by
 obtain ⟨k,hk,hpk,hu⟩:=hp
 have h1:∀m,m<=n->m=M ((au m).filter λi=>!p i&&!q i)+(if k<m then 1 else 0)+M ((au m).filter λi=>!p i&&q i):=λm=>by
  induction m with
  |zero=>intro _;simp
  | succ m ih=>
   intro hm;rw [Sk,bI,bI,BG,BG]
   by_cases e:m=k
   ·subst e
    grind
   ·have hpm:p m=false:=by
     cases hb:p m with
     |false=>rfl
     |true=>exact absurd (hu m A0 hb) e
    by_cases hlt:k<m
    ·have h2:k<m+1:=A0
     grind
    ·have h2:¬k<m+1:=A0
     grind
 have:=h1 n<|Au _
 rw [AD hk] at this;omega
def Iz (ops:aK) (AW:aH) (F F2:aD) (l:aZ):aD:=
 (au<|M F).map λt=>if AW.any (λi=>l.getD i X&&G4 ops i==ah t) then F2.getD t .junk else F.getD t .junk
def WA {ops:aK}{AW:aH}{F F2:aD}{l:aZ}:M (Iz ops AW F F2 l)=M F:=by simp [Iz]
def fg {ops:aK}{AW:aH}{F F2:aD}{l:aZ}{t:aC}(h:t<M F):(Iz ops AW F F2 l).getD t .junk=if AW.any (λi=>l.getD i X&&G4 ops i==ah t) then F2.getD t .junk else F.getD t .junk:=by
 simp [Iz,List.getD,h]
def su {A B:aD}(hl:M A=M B) (h:∀t,t<M A->A.getD t .junk=B.getD t .junk):A=B:=by
 apply bL hl
 grind
def aJn {A:aD}{t:aC}(h:M A<=t):A.getD t .junk=.junk:=A8
def aEy {ops:aK}{l:aZ}{i j:aC}(hc:Closed .any ops l) (hr:i∈ay .any ops l) (hj:j∈H5 ops i):l.getD j X=true:=by
 obtain ⟨_,o,ho,h2⟩:=Jp.1 hr;refine hc.back ops.size (OX ops i) (λk hk=>?_) j hj
 unfold OX at hk
 grind
def ae0 {ops:aK}{l:aZ}{i j:aC}(hc:Closed .any ops l) (hi:l.getD i X=U) (hlt:i<ops.size) (hj:j∈H5 ops i):l.getD j X=true:=by
 refine hc.back ops.size (OX ops i) (λk hk=>?_) j hj
 unfold OX at hk;rw [zR hlt] at hk;obtain ⟨e,h3,rfl⟩:=FP.1 hk;obtain ⟨h4,h5⟩:=Ck.1 h3;exact hc i _ (zR hlt) hi e A8 h5
def ady {α:Type}(l:List α) (p q:α->aM):M (l.filter p)=M (l.filter λi=>p i&&q i)+M (l.filter λi=>p i&&!q i):=by
 induction l with
 |nil=>rfl
 |cons x l ih=>
  grind
def aps (hΓ:∀g S,Γ g=ah S->Valid P G g S) (hK:Ft P G K) {ops:aK} {wi:aC} {Q:aYb->bg->aO->Prop} {F':aD} {H':aG} (hQ:∀Z' β' a' w',RW G w0 Z0 Z' β' H' w'->RF ds β' Z' w' (M H') F' a'->Q .normal a' w')
  (hwi:aRI G Γ ops=ah wi) (hW0:RW G w0 Z0 Z β H w) (hF0:RF ds β Z w (M H) F a) (h:(aCx P G Γ K ops wi F H).all λq=>q=(F',H')) (r:bp) (m:aC):P.follows .mixedOrders=U/\wpAnyIn (Dy r) m P .any ops Q ops.size (Array.replicate ops.size X) a {w with drawn:=w.drawn+1}:=by
 unfold aCx at h;split at h
 case isFalse=>cases h
 rename_i hc;simp only [AY,CS] at hc;obtain ⟨⟨⟨hok,hmix⟩,hbl⟩,hord⟩:=hc
 have hbl:M (JU ops wi)=M (K3 ops wi):=by simpa using hbl
 have hord:Lz ops (M<|JU ops wi) (JU ops wi) (KZ ops wi)=true:=hord.elim aSb id
 refine ⟨hmix,?_⟩;split at h
 case h_2=>cases h
 rename_i ow how;obtain ⟨F1,h1,h⟩:=T.B7 h;obtain ⟨⟨lvW,H1⟩,h2,h⟩:=T.B7 h;obtain ⟨_,h3,h⟩:=T.B7 h;obtain ⟨F3,h5,h4⟩:=T.B7 h;simp only at h3 h4 h5
 obtain ⟨gW,lW,hcW,hgW⟩:∃g l,callOf G [] ow=ah (g,l)/\Γ g=none:=by
  have:=List.find?_some hwi
  simp only [how] at this;split at this
  ·rename_i g l e;exact ⟨g,l,e,by simpa using this⟩
  ·cases this
 have hwlt:wi<ops.size:=(Ia.1 how).1
 generalize hA:Q4 ops wi=A at*
 have hAm:∀i,i∈A↔i<ops.size/\i≠wi/\wi∉H5 ops i:=λi=>by
  rw [<-hA];unfold Q4;simp
 generalize hC:RA ops wi=C at*
 have hCm:∀i,i∈C↔i<ops.size/\i≠wi/\wi∈H5 ops i/\allA ops wi i=false:=λi=>by
  rw [<-hC];unfold RA;simp
 have hPW:kZ ops wi=A++([wi]++C):=by unfold kZ;rw [hA,hC]
 unfold okW at hok;rw [hPW,hA,hC] at hok;generalize hAWd:A++([wi]++C)=AW at*;simp only [AY,BO] at hok;obtain ⟨hAW,hB,hNL⟩:=hok
 have hAWm:∀i,i∈AW↔i∈A\/i=wi\/i∈C:=λi=>by rw [<-hAWd];simp
 have cNL:∀i,(i∈A\/i=wi)->∀j,(j=wi\/j∈C)->∀d,G4 ops j=ah d->d∉NX ops i:=λi hi j hj d hd hm=>by
  have:=hNL i (by simpa using hi) j aAp
  unfold aUG at this;simp only [hd] at this
  simp [hm] at this
 have cDst:∀i∈AW,∃o d,ops[i]? =ah o/\o.guard=aj/\o.dst=ah d/\G4 ops i=ah d/\d<M F:=λi hi=>by
  obtain ⟨⟨⟨g1,g2⟩,_⟩,_⟩:=hAW i hi;cases ho:ops[i]? with
  |none=>simp [ho] at g1
  | some o=>
   simp only [ho,Zs] at g1;cases hd:G4 ops i with
   |none=>simp [hd] at g2
   |some d=>
    simp only [hd,Ac] at g2;exact ⟨o,d,rfl,g1,by simpa [G4,ho] using hd,rfl,g2⟩
 have cOns:∀i∈AW,∀p∈OX ops i,p<i/\p∈AW:=λi hi p hp=>by
  obtain ⟨⟨_,g3⟩,_⟩:=hAW i hi
  simpa using g3 p hp
 have cLay:∀i∈AW,∀j∈AW,∀d,G4 ops j=ah d->(i=j\/G4 ops i≠ah d)/\(d∈NX ops i->i≠j/\j<i/\j∈H5 ops i):=λi hi j hj d hd=>by
  obtain ⟨_,g4⟩:=hAW i hi
  have:=g4 j hj
  unfold aXu at this;simp only [hd,AY,CS,DB,CY,Cl,Ac,ne_eq,Zv] at this;refine ⟨this.1,λhm=>?_⟩
  rcases this.2 with g|g
  ·exact absurd hm<|by simpa using g
  ·exact ⟨g.1.1,g.1.2,by simpa using g.2⟩
 have hwA:wi∈AW:=(hAWm wi).2<|.inr<|.inl rfl
 have hAA:∀i∈A,i∈AW:=λi hi=>(hAWm i).2<|.inl hi
 have hCA:∀i∈C,i∈AW:=λi hi=>(hAWm i).2<|.inr<|.inr hi
 obtain ⟨_,dw,how',hgw,hdw,hdwI,hdwlt⟩:=cDst wi hwA;obtain rfl:=Ej<|how.symm.trans how'
 have hAnd:A.Pairwise (λi j=>i<j):=by
  rw [<-hA];unfold Q4;exact (List.pairwise_lt_range).filter _
 obtain ⟨k1,k2,k3⟩:=ss A F F1 (hAnd.imp_of_mem λ{i j} hi hj hlt d hd=>by
   obtain ⟨q1,q2⟩:=cLay i (hAA i hi) j (hAA j hj) d hd;exact ⟨λhm=>aQS,q1.resolve_left A0⟩) (λi hi=>by
   obtain ⟨o,d,_,_,_,e1,e2⟩:=cDst i<|hAA i hi;exact ⟨d,e1,e2,λhm=>((cLay i (hAA i hi) i (hAA i hi) d e1).2 hm).1 rfl⟩) h1
 have hset:Av F1 ow.dst lvW=F1.set dw lvW:=by rw [hdw];rfl
 rw [hset] at h5;generalize hF2:F1.set dw lvW=F2 at h5
 have hF2g:∀t,F2.getD t .junk=if t=dw then lvW else F1.getD t .junk:=λt=>by rw [<-hF2,aFQ (F:=F1) (d:=dw) (by rw [k1];exact hdwlt)]
 have hF2l:M F2=M F:=by rw [<-hF2];simp [k1]
 have hCnd:C.Pairwise (λi j=>i<j):=by
  rw [<-hC];unfold RA;exact (List.pairwise_lt_range).filter _
 obtain ⟨c1,c2,c3⟩:=ss C F2 F3 (hCnd.imp_of_mem λ{i j} hi hj hlt d hd=>by
   obtain ⟨q1,q2⟩:=cLay i (hCA i hi) j (hCA j hj) d hd;exact ⟨λhm=>aQS,q1.resolve_left A0⟩) (λi hi=>by
   obtain ⟨o,d,_,_,_,e1,e2⟩:=cDst i<|hCA i hi;exact ⟨d,e1,by rw [hF2l];exact e2,λhm=>((cLay i (hCA i hi) i (hCA i hi) d e1).2 hm).1 rfl⟩) h5
 have hF3l:M F3=M F:=c1.trans hF2l
 have hAC:∀i,i∈A->i∉C:=λi h1 h2=>((hAm i).1 h1).2.2 ((hCm i).1 h2).2.2.1
 have hF3A:∀t,(∀j,(j=wi\/j∈C)->G4 ops j≠ah t)->F3.getD t .junk=F1.getD t .junk:=λt ht=>by
  rw [c2 t λj hj=>ht j<|.inr hj,hF2g,AE]
  intro e;subst e;exact ht wi (.inl rfl) hdwI
 have hF3w:F3.getD dw .junk=lvW:=by
  rw [c2 dw (λj hj e=>by
   rcases (cLay j (hCA j hj) wi hwA _ hdwI).1 with q|q
   ·exact ((hCm j).1 hj).2.1 q
   ·exact q e),hF2g,AD rfl]
 let Inv:aZ->bg->aO->Prop:=λl a w'=>∃Z β,RW G w0 Z0 Z β (if l.getD wi X then H1 else H) w'/\RF ds β Z w' (M (if l.getD wi X then H1 else H)) (Iz ops AW F F3 l) a
 have agree:∀(l:aZ),Closed .any ops l->∀i∈AW,i∈ay .any ops l->∀t,t∈NX ops i->(Iz ops AW F F3 l).getD t .junk=F3.getD t .junk:=λl hcl i hi hr t ht=>by
  by_cases hlt:t<M F
  ·rw [fg hlt]
   by_cases hex:∃j,j∈AW/\G4 ops j=ah t
   ·obtain ⟨j,hj,hd⟩:=hex
    have hb:=(cLay i hi j hj t hd).2 ht
    have hl:=aEy hcl hr hb.2.2
    rw [AD<|Od.2 ⟨j,hj,by simp [hl,hd]⟩]
   ·rw [AE,hF3A t λj hj e=>hex ⟨j,(hAWm j).2<|.inr hj,e⟩,k2 t λj hj e=>hex ⟨j,hAA j hj,e⟩]
    intro hany;obtain ⟨j,hj,e⟩:=Od.1 hany;simp only [AY,Cl] at e;exact hex ⟨j,hj,e.2⟩
  ·rw [aJn (A:=Iz ops AW F F3 l) (t:=t) (by rw [WA];exact Nat.le_of_not_lt hlt),aJn (A:=F3) (t:=t) (by rw [hF3l];exact Nat.le_of_not_lt hlt)]
 have agreeA:∀i,(i∈A\/i=wi)->∀t,t∈NX ops i->F3.getD t .junk=F1.getD t .junk:=λi hi t ht=>hF3A t λj hj e=>cNL i hi j hj t e ht
 have next:∀(l:aZ),l.size=ops.size->∀i∈AW,∀d,G4 ops i=ah d->d<M F->(Iz ops AW F F3 l).set d (F3.getD d .junk)=Iz ops AW F F3 (l.setIfInBounds i U):=λl hls i hi d hd hdl=>by
  have hilt:i<ops.size:=by
   obtain ⟨o,_,ho,_⟩:=cDst i hi;exact (Ia.1 ho).1
  refine su (by simp [WA]) λt ht=>?_
  have ht':t<M F:=aAX
  rw [aFQ (F:=Iz ops AW F F3 l) (d:=d) (by rw [WA];exact hdl),fg (l:=l.setIfInBounds i U) ht']
  by_cases e:t=d
  ·subst e
   rw [AD rfl,AD<|Od.2 ⟨i,hi,by simp [hd,hls,hilt]⟩]
  ·rw [AE e,fg ht']
   congr 1
   refine B0 (λb=>b=U) ?_
   rw [IZ,Od,Od];refine exists_congr λj=>and_congr_right λhj=>?_
   by_cases hji:i=j
   ·subst hji;simp [hd,KL e]
   ·rw [Zy X hji]
 have hH1:∀l:aZ,l.size=ops.size->(l.setIfInBounds wi U).getD wi X=true:=λl hl=>by simp [hl,hwlt]
 have step:∀(l:aZ) (a':bg) (w':aO),l.size=ops.size->Closed .any ops l->Inv l a' w'->∀i∈AW,i∈ay .any ops l->wpOpIn (Dy r) m P ops Q i (λa2 w2=>Inv (l.setIfInBounds i U) a2 w2) a' w':=λl a' w' hls hcl hI i hi hr=>by
  obtain ⟨Z1,β1,i1,i2⟩:=hI;obtain ⟨o,d,ho,hg,hd,hdI,hdl⟩:=cDst i hi;unfold wpOpIn
  have hw:az o (yielded ops a'.tmps)=true:=oR
  simp only [ho,hw,Bu]
  have hlk:∀t,t∈o.looksAt ops->(Iz ops AW F F3 l).getD t .junk=F3.getD t .junk:=λt ht=>agree l hcl i hi hr t oW
  have hnl:l.getD i X=false:=by
   have:=(Jp.1 hr).1
   rwa [uG aQv] at this
  have fin:i≠wi->(hwx P G Γ F3 (if l.getD wi X then H1 else H) o).all (λy=>y=F3.getD d .junk)->o.wpIn (Dy r) m P a' w' (λa2 w2=>Inv (l.setIfInBounds i U) a2 w2) Q:=λhne hv=>by
   have hv2:(Ay P G Γ (Iz ops AW F F3 l) (if l.getD wi X then H1 else H) o).all (λq=>q=(F3.getD d .junk,(if l.getD wi X then H1 else H))):=ava (by rw [aFO (ops:=ops) hlk];exact hv)
   have hsame:(l.setIfInBounds i U).getD wi X=l.getD wi false:=Zy X hne
   refine eI (LY (λv w2 ⟨Z',β',e1,e2,e3,e4,_⟩=>⟨Z',β',?_,?_⟩)<|eY hΓ i1 i2 hv2) r m
   ·rw [hsame];exact e1
   ·rw [hsame,<-next l hls i hi d hdI hdl]
    have:=e2.put e3 e4 o.dst
    rw [hd] at this|-;exact this
  rcases (hAWm i).1 hi with hiA|rfl|hiC
  ·have hne:i≠wi:=((hAm i).1 hiA).2.1
   refine fin hne ?_
   have hF3d:F3.getD d .junk=F1.getD d .junk:=hF3A d (λj hj e=>by
    rcases (cLay i hi j ((hAWm j).2<|.inr hj) _ e).1 with q|q
    ·rcases hj with rfl|hj
     ·exact hne q
     ·subst q;exact hAC i hiA hj
    ·exact q hdI)
   have hag:∀t,t∈o.looksAt ops->F3.getD t .junk=F1.getD t .junk:=λt ht=>agreeA i (.inl hiA) t oW
   rw [hF3d,aFO (ops:=ops) hag]
   by_cases hl:l.getD wi X=U
   ·rw [AD hl]
    cases hop:o.op with
    | load t x=>
     refine sF _ (T.BQ (λ_ _=>trivial) h3) i ?_ o d t x ho hd hop
     rw [Ck];refine ⟨hiA,?_⟩;rw [DB];cases hct:(H5 ops wi).contains i with
     |false=>rfl
     |true=>
      have:=ae0 hcl hl hwlt<|by simpa using hct
      rw [hnl] at this;cases this
    |_=>
     have:=k3 i hiA o d ho hd
     unfold hwx at this|-;simp only [hop] at this|-;exact this
   ·rw [AE hl];exact k3 i hiA o d ho hd
  ·obtain rfl:=Ej (how.symm.trans ho)
   obtain rfl:=Ej<|hdwI.symm.trans hdI;simp only [hnl,Hy,GL] at i1 i2
   have hag:∀t,t∈ow.looksAt ops->F3.getD t .junk=F1.getD t .junk:=λt ht=>agreeA i (.inr rfl) t oW
   have hv:(opk P G Γ K (Iz ops AW F F3 l) H ow).all (λq=>q=(lvW,H1)):=by
    rw [aGU (ops:=ops) hcW hgW hlk,aGU (ops:=ops) hcW hgW hag];exact h2
   refine eI (LY (λv w2 ⟨Z',β',e1,e2,e3,e4⟩=>⟨Z',β',?_,?_⟩)<|aGT hΓ hK i1 i2 hv) r m
   ·rw [AD<|hH1 l hls];exact e1
   ·rw [AD<|hH1 l hls,<-next l hls i hi dw hdI hdl,hF3w]
    have:=e2.put e3 e4 ow.dst
    rw [hd] at this|-;exact this
  ·have hne:i≠wi:=((hCm i).1 hiC).2.1
   refine fin hne ?_
   have hl:l.getD wi X=true:=aEy hcl hr ((hCm i).1 hiC).2.2.1
   rw [AD hl];exact c3 i hiC o d ho hd
 have behind:∀(a':bg) (w':aO),Inv (KZ ops wi) a' w'->wpAnyIn (Dy r) m P .any ops Q (M<|K3 ops wi) (KZ ops wi) a' w':=λa' w' hI=>by
  rw [<-hbl];obtain ⟨Z1,β1,i1,i2⟩:=hI
  have hl:∀i,i<ops.size->(KZ ops wi).getD i X=an (i∈AW):=λi hi=>by
   unfold KZ;rw [hPW]
   simp [hi]
  rw [hl wi hwlt,Ci hwA] at i1 i2;simp only [Bu] at i1 i2
  have hFS:Iz ops AW F F3 (KZ ops wi)=F3:=by
   refine su (by rw [WA,hF3l]) λt ht=>?_
   have ht':t<M F:=aAX
   rw [fg ht'];split
   ·rfl
   ·rename_i hn
    have hno:∀j,j∈AW->G4 ops j≠ah t:=λj hj e=>by
     obtain ⟨o,_,ho,_⟩:=cDst j hj;refine hn<|Od.2 ⟨j,hj,?_⟩;rw [hl j (Ia.1 ho).1,Ci hj]
     simp [e]
    rw [hF3A t λj hj=>hno j<|(hAWm j).2<|.inr hj,k2 t λj hj=>hno j<|hAA j hj]
  rw [hFS] at i2;refine ql (D:=λ_=>True) (C:=Co ds G w0 Z0 (au<|M H1) β1 H1 w') (sp:=λ_=>U) (Q:=λa' g'=>∀w'',Co ds G w0 Z0 (au<|M H1) β1 H1 w' g' w''->Q .normal a' w'') (λ_ _ _=>trivial) (λg w1 w2 hc hb=>hc.keep hb) (λa g w hc hq=>hq w hc) r m _ _ a' ⟨Z1,β1,H1,F3,a'⟩ w' ⟨i1,i2,De.refl _ _,Au _,λ_ _=>rfl,λk k1 k2=>absurd k2<|VC.2 k1,EvL.refl _⟩ ?_
  exact aEw hΓ (λg e1 e2 w'' hc=>hQ g.Z g.β g.a w'' cI cK) _ (JU ops wi) _ ⟨Z1,β1,H1,F3,a'⟩ (λ_ _=>rfl) hord h4
 have main:∀(k:aC) (l:aZ) (a':bg) (w':aO),l.size=ops.size->Closed .any ops l->(∀i,l.getD i X=U->i∈AW)->M ((AW).filter λi=>!l.getD i X)=k->Inv l a' w'->wpAnyIn (Dy r) m P .any ops Q (k+M (K3 ops wi)) l a' w':=λk=>by
  induction k with
  | zero=>
   intro l a' w' hls hcl hon hk hI
   have hall:∀i∈AW,l.getD i X=true:=λi hi=>by
    cases hb:l.getD i X with
    |true=>rfl
    |false=>
     have:i∈(AW).filter λi=>!l.getD i false:=Ck.2 ⟨hi,by simp [hb]⟩
     rw [MH.1 hk] at this;cases this
   have he:l=KZ ops wi:=by
    apply Array.ext<|by simp [KZ,hls]
    intro i g1 g2
    have hi:i<ops.size:=by rw [<-hls];exact g1
    have e1:l.getD i X=l[i]:=by simp [g1]
    have e2:(KZ ops wi)[i]=an (i∈AW):=by
     unfold KZ;simp [hPW]
    rw [e2,<-e1];cases hb:l.getD i X with
    |true=>rw [Ci<|hon i hb]
    |false=>rw [IV λhm=>by rw [hall i hm] at hb;cases hb]
   rw [F8,he];exact behind a' w' (he▸hI)
  | succ k ih=>
   intro l a' w' hls hcl hon hk hI
   obtain ⟨i0,hi0⟩:∃i,i∈(AW).filter λi=>!l.getD i false:=by
    cases hL:(AW).filter λi=>!l.getD i X with
    |nil=>rw [hL] at hk;simp at hk
    |cons x xs=>exact ⟨x,AJ⟩
   have hrn:ay .any ops l≠ []:=by
    have:∀n i,i<n->i∈AW->l.getD i X=X->ay .any ops l≠ []:=λn=>by
     induction n with
     |zero=>intro i hi;omega
     | succ n ihn=>
      intro i hin hi hb;obtain ⟨o,d,ho,_⟩:=cDst i hi
      by_cases hp:∃p∈OX ops i,l.getD p X=X
      ·obtain ⟨p,hp,hpb⟩:=hp
       obtain ⟨q1,q2⟩:=cOns i hi p hp;exact ihn p A0 q2 hpb
      ·have:i∈ay .any ops l:=Jp.2 ⟨by rw [uG aQv];exact hb,o,ho,λe he hbd=>by
        cases hx:l.getD e.on X with
        |true=>rfl
        |false=>exact absurd ⟨e.on,by unfold OX;rw [ho];exact FP.2 ⟨e,Ck.2 ⟨cb,hbd⟩,rfl⟩,hx⟩ hp⟩
       intro e;rw [e] at this;cases this
    obtain ⟨m1,m2⟩:=Ck.1 hi0;exact this (i0+1) i0 A0 m1<|by simpa using m2
   rw [show k+1+M (K3 ops wi)=(k+M (K3 ops wi))+1 by omega]
   refine ⟨λh0=>absurd h0 hrn,λi hi=>?_⟩
   have hiAW:i∈AW:=by
    by_cases hm:i∈AW
    ·exact hm
    ·exfalso
     have hiB:i∈K3 ops wi:=by
      unfold K3
      have hlt:=sf hi
      rw [hAWm] at hm;simp only [not_or,hAm,hCm] at hm;simp only [Ck,LQ,AY,DB,CY,Zv]
      by_cases hb:wi∈H5 ops i
      ·cases ha:allA ops wi i with
       |true=>exact ⟨hlt,hm.2.1,hb,rfl⟩
       |false=>exact absurd ⟨hlt,hm.2.1,hb,ha⟩ hm.2.2
      ·exact absurd ⟨hlt,hm.2.1,hb⟩ hm.1
     obtain ⟨m1,m2⟩:=Ck.1 hi0
     have hb:=hB i hiB i0 m1
     have:=aEy hcl hi<|by simpa using hb
     simp [this] at m2
   refine wpOpIn_mono (λa2 w2 hI2=>?_)<|step l a' w' hls hcl hI i hiAW hi
   refine ih _ a2 w2 (by simpa using hls) (hcl.put hi) (λj hj=>?_) ?_ hI2
   ·by_cases e:i=j
    ·exact e▸hiAW
    ·rw [Zy X e] at hj;exact hon j hj
   ·have hnd:(AW).Nodup:=by
     rw [<-hAWd,yz];refine ⟨hAnd.imp λh=>Nat.ne_of_lt h,?_,λx hx y hy e=>?_⟩
     ·rw [zD,MK]
      exact ⟨λhm=>((hCm _).1 hm).2.1 rfl,hCnd.imp λh=>Nat.ne_of_lt h⟩
     ·subst e
      rw [zD,B6] at hy;rcases hy with rfl|hy
      ·exact ((hAm _).1 hx).2.1 rfl
      ·exact hAC _ hx hy
    have hil:l.getD i X=false:=by
     have:=(Jp.1 hi).1
     rwa [uG (by rw [hls];exact sf hi)] at this
    have hlt:i<l.size:=by rw [hls];exact sf hi
    have e:((AW).filter λj=>!(l.setIfInBounds i U).getD j X)=((AW).filter λj=>!l.getD j X).erase i:=by
     rw [List.Nodup.erase_eq_filter<|hnd.filter _,List.filter_filter];refine z7 λj _=>?_
     by_cases e:i=j
     ·subst e;simp [hlt]
     ·rw [Zy X e]
      simp [KL e]
    rw [e,List.length_erase_of_mem<|Ck.2 ⟨hiAW,by simp [hil]⟩,hk]
    rfl
 have hcount:ops.size=M ((AW).filter λi=>!(Array.replicate ops.size X).getD i X)+M (K3 ops wi):=by
  rw [List.filter_eq_self.2 λi hi=>by
   have:i<ops.size:=by
    obtain ⟨o,_,ho,_⟩:=cDst i hi;exact (Ia.1 ho).1
   simp [this]]
  have hlen:=ae9 ops.size (λi=>i==wi) (λi=>(H5 ops i).contains wi) ⟨wi,hwlt,AJ,λj _ hj=>aAp⟩
  have hsp:=ady (au ops.size) (λi=>!(i==wi)&&(H5 ops i).contains wi) λi=>allA ops wi i
  have eC:M C=M ((au ops.size).filter λi=>(!(i==wi)&&(H5 ops i).contains wi)&&!allA ops wi i):=by
   rw [<-hC];unfold RA
   congr 1
   exact z7 λi _=>by rw [VG]
  have eB:M (K3 ops wi)=M ((au ops.size).filter λi=>(!(i==wi)&&(H5 ops i).contains wi)&&allA ops wi i):=by
   unfold K3
   congr 1
   exact z7 λi _=>by rw [VG]
  have eA:M A=M ((au ops.size).filter λi=>!(i==wi)&&!(H5 ops i).contains wi):=by rw [<-hA];rfl
  rw [<-hAWd,BG,BG,List.length_singleton,eA,eC,eB];omega
 have hbd:Below w.heap.size w {w with drawn:=w.drawn+1}:=⟨rfl,rfl,rfl,Au _,λ_ _=>rfl⟩
 rw [show wpAnyIn (Dy r) m P .any ops Q ops.size (Array.replicate ops.size X) a {w with drawn:=w.drawn+1}=wpAnyIn (Dy r) m P .any ops Q (M ((AW).filter λi=>!(Array.replicate ops.size X).getD i X)+M (K3 ops wi)) (Array.replicate ops.size X) a {w with drawn:=w.drawn+1} from congrFun (congrFun (congrFun (B0 _ hcount) _) _) _]
 refine main _ (Array.replicate ops.size X) a _ AJ (λi o ho hL=>?_) (λi hi=>?_) rfl ?_
 ·have:=(Ia.1 ho).1
  simp [this] at hL
 ·exfalso
  rcases nZ i ops.size with h|h<;>simp [h] at hi
 ·have hFS:Iz ops AW F F3 (Array.replicate ops.size X)=F:=by
   refine su WA λt ht=>?_
   rw [fg aAX,AE];intro hany;obtain ⟨j,_,e⟩:=Od.1 hany;rcases nZ j ops.size with h|h<;>simp [h] at e
  have hz:(Array.replicate ops.size X).getD wi X=false:=by simp [hwlt]
  refine ⟨Z,β,?_,?_⟩
  ·rw [hz];exact hW0.same hbd
  ·rw [hz,hFS];exact hF0.mono (Au _) (λ_ _=>rfl) (λ_ h=>h) λ_ _=>rfl
def ae8 (hΓ:∀g S,Γ g=ah S->Valid P G g S) (hK:Ft P G K) {id:aC}{ops:aK}{Q:aYb->bg->aO->Prop}{F':aD}{H':aG}(hQ:∀Z' β' a' w',RW G w0 Z0 Z' β' H' w'->RF ds β' Z' w' (M H') F' a'->Q .normal a' w')
  (hW0:RW G w0 Z0 Z β H w) (hF0:RF ds β Z w (M H) F a) (h:(aD2 P G Γ K ops F H).all λq=>q=(F',H')) (r:bp) (m:aC):(Code.region id ops U).wpIn (Dy r) m P Q a w:=by
 unfold aD2 at h;split at h
 ·rename_i wi hwi
  have:=aps hΓ hK hQ hwi hW0 hF0 h r m
  exact wpIn_region_any this.1 this.2
 ·exact ae7 hΓ hQ hW0 hF0 h r m
end Go.Sx
namespace Go.Sx
open Go Go.RowKit Go.Proofs.YtpdndmobphnjcaaGreatDoor
variable {P : Program} {G : BA} {Γ : Specs} {K : Hand} {A : Gz -> Prop} {β : Nat -> Loc} {Z : Nat -> Prop} {Z0 : Gz} {w w0 : World} {F : List LV} {H : List AB} {a : Act} {ds : List Deferred} {n : Nat}
def yP:Ex->Exit
 | .normal=> .normal
 | .exit n=> .exit n
 | .ret=> .ret
structure M6 (w0:aO) (Z0:Gz) (ds:aXR):Prop where
 new:∀D,H0 D∈ds->w0.heap.size<=D/\D∉Z0.Cv
 nodup:ds.Nodup
def M6.nil {w0:aO}{Z0:Gz}:M6 w0 Z0 []:=⟨λ_ h=>As,List.nodup_nil⟩
def Gx (P:aR) (G:BA) (A:Gz->Prop) (c:bB) (t:aD->aG->T (Ex×List LV×List AB)):Prop:=
 ∀(r:bp) (w0:aO) (Z0:Gz) (Z:aC->Prop) (β:aC->aXS) (F:aD) (H:aG) (a:bg) (w:aO) (ds:aXR) (Q:aYb->bg->aO->Prop) (x:Ex) (F':aD) (H':aG),
  A Z0->(r=aj\/IE c=U)->M6 w0 Z0 ds->RW G w0 Z0 Z β H w->RF ds β Z w (M H) F a->(t F H).all (λq=>q=(x,F',H'))->(∀ds' Z' β' a' w',M6 w0 Z0 ds'->RW G w0 Z0 Z' β' H' w'->RF ds' β' Z' w' (M H') F' a'->Q (yP x) a' w')->c.wpIn (Dy r) 0 P Q a w
def AN (N:aC):Gz->Prop:=λz=>∀p,p∈z.gh->okV N p.1
abbrev Sound (P:aR) (G:BA):=Gx P G<|AN 0
def BC:bB->List Code
 | .seq a b=>BC a++BC b
 | .cond _ a b=>BC a++BC b
 | .block _ b=>BC b
 | .loop b=>[b]
 | .scope b=>BC b
 |_=>[]
def JA:bB->List (Array Tmp×Code×Code)
 | .seq a b=>JA a++JA b
 | .cond _ a b=>JA a++JA b
 | .block _ b=>JA b
 | .loop b=>JA b
 | .rangeFunc _ ps a b=>[(ps,a,b)]
 | .scope b=>JA b
 |_=>[]
def qS {w:aO}{D:aC}(h:Fz w D) (o':Obj) {b o:aC}{z:aV}(hz:w.cell? ⟨b,o,aj⟩=ah z):(w.putObj D o').cell? ⟨b,o,aj⟩=ah z:=by
 have hne:b≠D:=by
  rintro rfl
  unfold Fz at h
  simp [World.cell?,h] at hz
 rwa [Qc<|MI hne]
def RD.shut {D:aC}(h:Fz w D) (o':Obj):∀(t:Ty) (d:t.D) (b o:aC),RD Z w t d b o->RD Z (w.putObj D o') t d b o
 | .int _,_,b,o,hh=>aA7
 | .bool,_,b,o,hh=>aA7
 | .str,_,b,o,hh=>aA7
 | .sl e,l,b,o,hh=>by
  obtain ⟨a,cap,h1,h2,h3⟩:=hh;refine ⟨a,cap,qS h o' h1,h2,λhn=>?_⟩
  obtain ⟨b',o'',h4,h5,h6⟩:=h3 hn;exact ⟨b',o'',h4,h5,λi d hd=>RD.shut h o' e d b' _<|h6 i d hd⟩
 | .pair x y,d,b,o,hh=>by
  exact ⟨RD.shut h o' x d.1 b o hh.1,RD.shut h o' y d.2 b _ hh.2⟩
def WM {w:aO}{D:aC}(h:Fz w D) (o':Obj) {b:aC}{x:Obj}(hx:w.heap[b]? =ah x) (hn:∀q,x≠ .deferred q):(w.putObj D o').heap[b]? =ah x:=by
 have hne:b≠D:=by
  rintro rfl
  rw [h] at hx
  grind
 rwa [MI hne]
mutual
def R.shut {D:aC}(h:Fz w D) (o':Obj):∀(x:LV) (y:aV),R β Z w x y->R β Z (w.putObj D o') x y
 | .v _,_,hh=>hh
 | .bl _,_,hh=>hh
 | .ki _ _,_,hh=>hh
 | .own k off,y,hh=>VS
 | .agg l,y,hh=>by
  exact nR
 | .AQ l,y,hh=>by
  exact nR
 | .fn f l,y,hh=>by
  exact nR
 | .fb f l,y,hh=>by
  exact nR
 | .xq n f,y,hh=>by
  simp only [R] at*;obtain ⟨b,off,h1,hz,h2⟩:=hh;refine ⟨b,off,h1,hz,λj hj=>?_⟩
  obtain ⟨z,h3,h4⟩:=h2 j hj;exact ⟨z,qS h o' h3,R.shut h o' (f j) z h4⟩
 | .xl e l,y,hh=>by
  simp only [R] at*;obtain ⟨a,cap,h1,h2,h3⟩:=hh;refine ⟨a,cap,h1,h2,λhn=>?_⟩
  obtain ⟨b,off,h4,h5,h6⟩:=h3 hn;exact ⟨b,off,h4,h5,λi d hd=>RD.shut h o' e d b _ (h6 i d hd)⟩
 | .os k es off n,y,hh=>VS
 | .op k es i j,y,hh=>VS
 | .om k,y,hh=>VS
 | .mp kd ks vs,y,hh=>by
  simp only [R] at*;obtain ⟨r,es,clock,h1,h2,h3,h4,h5⟩:=hh;exact ⟨r,es,clock,h1,h2,WM h o' h3 (λ_ e=>Om),h4,RL.shut h o' vs _ h5⟩
 | .oc k es off n c,y,hh=>VS
 | .CU k,y,hh=>VS
 | .junk,_,_=>KM
def RL.shut {D:aC}(h:Fz w D) (o':Obj):∀(x:aD) (y:aT),RL β Z w x y->RL β Z (w.putObj D o') x y
 | [],_,hh=>by simpa only [RL] using hh
 |x::xs,ys,hh=>by
  simp only [RL] at*;obtain ⟨y,zs,h1,h2,h3⟩:=hh;exact ⟨y,zs,h1,R.shut h o' x y h2,RL.shut h o' xs zs h3⟩
end
def Bb.shut {D:aC}(h:Fz w D) (o':Obj) {k:aC}{b:AB}(hh:Bb β Z w k b):Bb β Z (w.putObj D o') k b:=by
 unfold Bb at*;cases hk:b.k with
 |cl=>
  simp only [hk] at hh|-;obtain ⟨cs,h1,h2⟩:=hh;exact ⟨cs,WM h o' h1 λ_ e=>Om,RL.shut h o' _ _ h2⟩
 | vec e l=>
  simp only [hk] at hh|-;cases hc:(β k).cap with
  |none=>simp only [hc] at hh|-;exact hh
  |some c=>
   simp only [hc] at hh|-;obtain ⟨cs,h1,h2,h3,h4⟩:=hh;exact ⟨cs,WM h o' h1 λ_ e=>Om,h2,h3,λi d hd=>RD.shut h o' e d _ _<|h4 i d hd⟩
 |mp kd ks vs=>
  simp only [hk] at hh|-;obtain ⟨es,clock,h1,h2,h3⟩:=hh;exact ⟨es,clock,WM h o' h1 λ_ e=>Om,h2,RL.shut h o' _ _ h3⟩
 |Cq ps asg body st=>
  simp only [hk] at hh|-;obtain ⟨r,h1,h2,h3,h4,h5,h6⟩:=hh;exact ⟨r,WM h o' h1 λ_ e=>Om,h2,h3,h4,h5,RL.shut h o' _ _ h6⟩
 |st e l=>
  simp only [hk] at hh|-;obtain ⟨es,clock,h1,h2,h3⟩:=hh;exact ⟨es,clock,WM h o' h1 λ_ e=>Om,h2,h3⟩
 |dead=>trivial
def putObj_size (w:aO) (D:aC) (o:Obj):(w.putObj D o).heap.size=w.heap.size:=AJ
def Fz.lt {w:aO}{D:aC}(h:Fz w D):D<w.heap.size:=(Ia.1 h).1
def RW.shut (hW:RW G w0 Z0 Z β H w) {D:aC}(h:Fz w D) (h0:w0.heap.size<=D) (hm:D∉Z0.Cv) (o':Obj):RW G w0 Z0 Z β H (w.putObj D o'):=
 ⟨hW.below.trans ⟨rfl,rfl,rfl,na (putObj_size _ _ _).symm,λi hi=>MI A0⟩,λb hz=>by rw [putObj_size];exact hW.Bc b hz,hW.Et,hW.Cr,hW.GV,hW.low,hW.inj,
  λk b hb=>⟨(hW.blk k b hb).1.shut h o',(hW.blk k b hb).2⟩,λg n f hg=>⟨(hW.Cy g n f hg).1,λj hj=>qS h o'<|(hW.Cy g n f hg).2 j hj⟩,
  λp hp=>⟨R.shut h o' _ _ (hW.gh p hp).1,(hW.gh p hp).2⟩,λD' hD'=>⟨(hW.Cv D' hD').1,by
   unfold Fz;rw [MI λe=>hm A8]
   exact (hW.Cv D' hD').2⟩⟩
def aEv {fn:aXX}{R:Ending->aO->Prop}:∀(ds:aXR) (w:aO) (a:bg),RW G w0 Z0 Z β H w->RF ds β Z w n F a->M6 w0 Z0 ds->
  (∀w' a',a'.tmps=a.tmps->RW G w0 Z0 Z β H w'->RF [] β Z w' n F a'->∃v,(results fn a.tmps).run P w'=.ok v w'/\R (.returned v) w')->LeavesInM Fence.wide 0 P fn a.tmps R ds .returning w
 | [],w,a,hW,hF,_,hR=>hR w {a with defers:=[]} rfl hW ⟨hF.size,hF.get,rfl,λ_ h=>As⟩
 |d::ds,w,a,hW,hF,hD,hR=>by
  obtain ⟨D,rfl,hz,hm⟩:=hF.defers.2 d AJ;obtain ⟨n1,n2⟩:=hD.new D AJ
  have nd:=MK.1 hD.nodup
  refine ⟨AJ,.inl ⟨D,w.putObj D<|.deferred aj,rfl,run_takeDeferred hm,?_⟩⟩;refine aEv ds (w.putObj D<|.deferred aj) {a with defers:=ds} (hW.shut hm n1 n2 _) ⟨hF.size,λt x hx=>⟨Go.Sx.R.shut hm _ _ _ (hF.get t x hx).1,(hF.get t x hx).2⟩,rfl,λd hd=>?_⟩ ⟨λD' h'=>hD.new D' A8,nd.2⟩ λw' a' e=>hR w' a' e
  obtain ⟨D',e1,e2,e3⟩:=hF.defers.2 d A8;refine ⟨D',e1,e2,?_⟩;unfold Fz
  rwa [MI λe=>nd.1 A8]
def RF.RL (hF:RF ds β Z w n F a):RL β Z w F a.tmps.toList/\AU n F:=by
 refine ⟨RL.Cm (by simp [hF.size]) λi x hx=>?_,AU.Cm λi x hx=>(hF.get i x hx).2⟩
 have hi:i<a.tmps.size:=by rw [hF.size];exact (EI.1 hx).1
 have:=(hF.get i x hx).1
 refine ⟨a.tmps[i],AJ,?_⟩
 have e:a.tmps.getD i undef=a.tmps[i]:=GN
 rw [e] at this;exact this
def aqx (us:aH) {ys:aT}(h:RL β Z w F ys) (hk:AU n F):RL β Z w (PO us F) ys/\AU n (PO us F):=by
 have hl:=RL.length h
 have at_:∀(i:aC) (x:LV),(PO us F)[i]? =ah x->i<M F/\(x=.junk\/F[i]? =ah x):=λi x hx=>by
  simp only [PO,Dr] at hx
  by_cases hi:i<M F
  ·simp only [zK hi,Jn,Aj] at hx
   refine ⟨hi,?_⟩;split at hx
   ·right
    grind
   ·grind
  ·rw [Su A8] at hx
   cases hx
 refine ⟨RL.Cm (by simp [PO,hl]) λi x hx=>?_,AU.Cm λi x hx=>?_⟩
 ·obtain ⟨hi,h1⟩:=at_ i x hx
  rcases h1 with rfl|h1
  ·exact ⟨ys[i]' A0,Di _,KM⟩
  ·exact RL.get i x h h1
 ·obtain ⟨hi,h1⟩:=at_ i x hx
  rcases h1 with rfl|h1
  ·trivial
  ·exact AU.get i x hk h1
def aeI {o:aX1}{x:Ex}(h:xn o=ah x):∃c t ps asg body,(o=ah ⟨c,t,.Cq ps asg body .ready,X⟩/\x=.normal)\/(o=ah ⟨c,t,.Cq ps asg body<|.done x,X⟩/\x≠ .normal):=by
 unfold xn at h;split at h
 ·rename_i c t ps asg body
  grind
 ·rename_i c t ps asg body y
  split at h
  ·cases h
  ·rename_i hn
   have:=Ej h
   subst this
   grind
 ·cases h
def RW.turn {k:aC}{c:aD}{t t':aS}{ps:aX3}{asg body:bB}{st:LS}{nb:BK}{r':Loop}(hW:RW G w0 Z0 Z β H w) (hb:H[k]? =ah ⟨c,t,.Cq ps asg body st,X⟩)
  (hn:Bb β Z (w.putObj (β k).b<|.loop r') k ⟨c,t',nb,X⟩) (hok:okB (M H) ⟨c,t',nb,X⟩):RW G w0 Z0 Z β (H.set k ⟨c,t',nb,X⟩) (w.putObj (β k).b<|.loop r')/\(∀b,Z b->(w.putObj (β k).b<|.loop r').heap[b]? =w.heap[b]?):=
 ⟨hW.set hb trivial rfl rfl hok (putObj_size _ _ _) ⟨rfl,rfl,rfl⟩ (λj hj=>MI hj) hn,λb hz=>MI λe=>hW.Cr k _ hb trivial rfl (e▸hz)⟩
def uK {r:bp}{p q:aM}(h:r=aj\/(p&&q)=U):(r=aj\/p=U)/\(r=aj\/q=U):=by
 rcases h with h|h
 ·grind
 ·simp only [AY] at h
  grind
def W7 {b:Frame}{k:List Item}{cs:List Frame}{c:bB}:step P (lone (b.atR a (.code (.scope c)::k)) cs w)=.next (lone (b.atR a (.code c::.inScope c::k)) cs w):=
 step_lone_go aPy
def adf {b:Frame}{k:List Item}{cs:List Frame}{c:bB}:step P (lone (b.atR a (.inScope c::k)) cs w)=.next (lone (b.atR a k) cs w):=
 step_lone_go aPy
def aeT {E:Fence}{m:aC}{Q:aYb->bg->aO->Prop}{c:bB}(h:c.wpIn E m P (Exit.noGoto Q) a w):(Code.scope c).wpIn E m P Q a w:=by
 intro b k cs hro hb hr
 have h0:(lone (b.atR a (.code (.scope c)::k)) cs w).fenced P E:=fenced_calm hb hr rfl
 obtain ⟨e,a₁,w₁,hq,harr⟩:=h b (.inScope c::k) cs hro hb hr;cases e with
 |normal=>exact ⟨.normal,a₁,w₁,hq,.head h0 W7<|StepsIn.trans harr<|.one (fenced_calm hb hr rfl) adf⟩
 | exit id'=>
  have hx:exitTo id' (.inScope c::k)=exitTo id' k:=by simp [exitTo]
  exact ⟨.exit id',a₁,w₁,hq,λk' hk=> .head h0 W7<|harr.1 k' A8,
   λhr' hk=>let ⟨k₁,h1,h2⟩:=harr.2 hr' A8;⟨k₁,h1,.head h0 W7 h2⟩⟩
 |goto l=>exact hq.elim
 |ret=>exact ⟨_,a₁,w₁,hq,.of_steps (.one h0 W7) harr⟩
 |panic ch=>exact ⟨_,a₁,w₁,hq,.of_steps (.one h0 W7) harr⟩
 |outgrown=>exact ⟨_,a₁,w₁,hq,.of_steps (.one h0 W7) harr⟩
def Fp {L:Py} (hΓ:∀g S,Γ g=ah S->Valid P G g S) (hK:Ft P G K):∀(c:bB),(∀b∈BC c,Gx P G A (.loop b)<|L b)->Gx P G A c (DL P G Γ K L c)
 | .skip,_=>λr w0 Z0 Z β F H a w ds Q x F' H' hA hr hD hW hF h hQ=>by
  simp only [DL,T.all,Az] at h;obtain ⟨rfl,rfl,rfl⟩:=h;exact wpIn_skip (hQ ds Z β a w hD hW hF)
 | .ret,_=>λr w0 Z0 Z β F H a w ds Q x F' H' hA hr hD hW hF h hQ=>by
  simp only [DL,T.all,Az] at h;obtain ⟨rfl,rfl,rfl⟩:=h;exact wpIn_ret (hQ ds Z β a w hD hW hF)
 | .exit m,_=>λr w0 Z0 Z β F H a w ds Q x F' H' hA hr hD hW hF h hQ=>by
  simp only [DL,T.all,Az] at h;obtain ⟨rfl,rfl,rfl⟩:=h;exact wpIn_exit (hQ ds Z β a w hD hW hF)
 | .region id ops d,_=>λr w0 Z0 Z β F H a w ds Q x F' H' hA hr hD hW hF h hQ=>by
  simp only [DL] at h;obtain ⟨⟨F1,H1⟩,h1,h2⟩:=T.B7 h;simp only [T.all,Az] at h2;obtain ⟨rfl,rfl,rfl⟩:=h2;cases d with
  |true=>exact ae8 hΓ hK (λZ' β' a' w' e1 e2=>hQ ds Z' β' a' w' hD e1 e2) hW hF h1 r 0
  |false=>exact apy hΓ hK (λZ' β' a' w' e1 e2=>hQ ds Z' β' a' w' hD e1 e2) hW hF h1 r 0
 | .seq c1 c2,hl=>λr w0 Z0 Z β F H a w ds Q x F' H' hA hr hD hW hF h hQ=>by
  simp only [DL] at h;obtain ⟨⟨y,F1,H1⟩,h1,h2⟩:=T.B7 h;obtain ⟨hr1,hr2⟩:=uK (show r=aj\/(IE c1&&IE c2)=U from hr);refine wpIn_seq<|Fp hΓ hK c1 (λb hb=>hl b T6) r w0 Z0 Z β F H a w ds _ y F1 H1 hA hr1 hD hW hF h1 λds' Z' β' a' w' e0 e1 e2=>?_
  cases y with
  |normal=>exact Fp hΓ hK c2 (λb hb=>hl b T6) r w0 Z0 Z' β' F1 H1 a' w' ds' Q x F' H' hA hr2 e0 e1 e2 h2 hQ
  |exit m=>
   simp only [T.all,Az] at h2;obtain ⟨rfl,rfl,rfl⟩:=h2;exact hQ ds' Z' β' a' w' e0 e1 e2
  |ret=>
   simp only [T.all,Az] at h2;obtain ⟨rfl,rfl,rfl⟩:=h2;exact hQ ds' Z' β' a' w' e0 e1 e2
 | .cond c c1 c2,hl=>λr w0 Z0 Z β F H a w ds Q x F' H' hA hr hD hW hF h hQ=>by
  have s1:=Fp hΓ hK c1 λb hb=>hl b T6
  have s2:=Fp hΓ hK c2 λb hb=>hl b T6
  obtain ⟨hr1,hr2⟩:=uK (show r=aj\/(IE c1&&IE c2)=U from hr);simp only [DL] at h;split at h
  ·rename_i d
   split at h
   ·rename_i hb
    obtain ⟨q1,q2⟩:=hF.slot hb AJ
    have hv:=(hF.get d _ q1).1
    simp only [R] at hv;exact wpIn_cond_true aAG<|s1 r w0 Z0 Z β F H a w ds Q x F' H' hA hr1 hD hW hF h hQ
   ·rename_i hb
    obtain ⟨q1,q2⟩:=hF.slot hb AJ
    have hv:=(hF.get d _ q1).1
    simp only [R] at hv;exact wpIn_cond_false aAG<|s2 r w0 Z0 Z β F H a w ds Q x F' H' hA hr2 hD hW hF h hQ
   ·rename_i g hb
    obtain ⟨q1,q2⟩:=hF.slot hb AJ
    have hv:=(hF.get d _ q1).1
    simp only [R] at hv
    have kn:∀b,g=b->RF ds β Z w H.length (F.set d<|.bl b) a:=λb e=>hF.know oS trivial
    simp only [T.all] at h;refine wpIn_cond_split (t:=g) aAG (λhg=>s1 r w0 Z0 Z β _ H a w ds Q x F' H' hA hr1 hD hW (kn U hg) (h.1 hg) hQ) λhg=>s2 r w0 Z0 Z β _ H a w ds Q x F' H' hA hr2 hD hW (kn X hg) (h.2 hg) hQ
   ·cases h
  ·exact wpIn_cond_true rfl<|s1 r w0 Z0 Z β F H a w ds Q x F' H' hA hr1 hD hW hF h hQ
  ·exact wpIn_cond_false rfl<|s2 r w0 Z0 Z β F H a w ds Q x F' H' hA hr2 hD hW hF h hQ
  ·cases h
 | .block id c,hl=>λr w0 Z0 Z β F H a w ds Q x F' H' hA hr hD hW hF h hQ=>by
  simp only [DL] at h;obtain ⟨⟨y,F1,H1⟩,h1,h2⟩:=T.B7 h;refine wpIn_block<|Fp hΓ hK c (λb hb=>hl b<|by simpa [BC] using hb) r w0 Z0 Z β F H a w ds _ y F1 H1 hA hr hD hW hF h1 λds' Z' β' a' w' e0 e1 e2=>?_
  cases y with
  |normal=>
   simp only [T.all,Az] at h2;obtain ⟨rfl,rfl,rfl⟩:=h2;exact hQ ds' Z' β' a' w' e0 e1 e2
  | exit m=>
   simp only at h2;simp only [yP,Exit.inBlock];split at h2
   ·rename_i hm
    simp only [T.all,Az] at h2;obtain ⟨rfl,rfl,rfl⟩:=h2;rw [AD hm];exact hQ ds' Z' β' a' w' e0 e1 e2
   ·rename_i hm
    simp only [T.all,Az] at h2;obtain ⟨rfl,rfl,rfl⟩:=h2;rw [AE hm];exact hQ ds' Z' β' a' w' e0 e1 e2
  |ret=>
   simp only [T.all,Az] at h2;obtain ⟨rfl,rfl,rfl⟩:=h2;exact hQ ds' Z' β' a' w' e0 e1 e2
 | .loop b,hl=>hl b (by simp [BC])
 | .rangeFunc g ps asg body,_=>λr w0 Z0 Z β F H a w ds Q x F' H' hA hr hD hW hF h hQ=>by
  have hr0:r=none:=by
   rcases hr with h|h
   ·exact h
   ·simp [IE] at h
  subst hr0;simp only [DL] at h;split at h
  ·rename_i gf cap hg
   split at h
   ·rename_i fn hfn
    split at h
    ·rename_i hb
     simp only [AY,DB] at hb;obtain ⟨⟨lv,H1⟩,h1,h2⟩:=T.B7 h;simp only at h2
     have hgr:=hF.eval hW.Cy g
     rw [hg] at hgr;simp only [R,okV] at hgr;obtain ⟨⟨ys,hy,hyr⟩,hcap⟩:=hgr;split at h2
     ·rename_i x' hx'
      simp only [T.all,Az] at h2;obtain ⟨rfl,rfl,rfl⟩:=h2;refine wpIn_rangeFunc ?_;intro fn0 _
      have hb1:Below w.heap.size w (w.alloc<|.deferred<|ah []):=(Below.refl _ _).alloc (Au _) _
      have hWd:=hW.call hb1
      generalize hrec:({state:=.ready,pending:=aj,fn:=fn0,tmps:=a.tmps,params:=ps,assign:=asg,body:=body,defers:=w.heap.size}:Loop)=rec0 at*;generalize hwd:w.alloc (.deferred<|ah [])=wd at*
      have hsd:wd.heap.size=w.heap.size+1:=by rw [<-hwd];simp [World.size_alloc]
      have hmd:Fz wd w.heap.size:=by rw [<-hwd];exact World.alloc_heap_new w _
      have hb2:Below wd.heap.size wd (wd.alloc<|.loop rec0):=(Below.refl _ _).alloc (Au _) _
      have hW1:=hWd.same hb2
      generalize hw1:wd.alloc (.loop rec0)=w1 at*
      have hl1:w1.heap[wd.heap.size]? =ah (.loop rec0):=by rw [<-hw1];exact World.alloc_heap_new wd _
      have hF1:RF ds β (λb=>Z b\/(w.heap.size<=b/\b<wd.heap.size)) w1 H.length F a:=hF.mono (Au _) (λ_ _=>rfl) (λ_ h=> .inl h) (λb hz=>by
       have hlt:=hW.Bc b hz
       rw [EJ hb2 A0,EJ hb1 hlt])
      have hm1:Fz w1 w.heap.size:=by unfold Fz;rw [EJ hb2 A0];exact hmd
      have hF2:RF (H0 w.heap.size::ds) β (λb=>Z b\/(w.heap.size<=b/\b<wd.heap.size)) w1 H.length F {a with defers:=H0 w.heap.size::a.defers}:=by
       refine ⟨hF1.size,hF1.get,by rw [hF1.defers.1],λd hd=>?_⟩
       rcases B6.1 hd with rfl|hd
       ·exact ⟨_,rfl,.inr ⟨Au _,A0⟩,hm1⟩
       ·exact hF1.defers.2 d hd
      have hD2:M6 w0 Z0 (H0 w.heap.size::ds):=by
       refine ⟨λD hd=>?_,MK.2 ⟨λhd=>?_,hD.nodup⟩⟩
       ·rcases B6.1 hd with hd|hd
        ·simp only [H0,Deferred.mk.injEq,Target.collected.injEq] at hd
         rw [hd.1];exact ⟨hW.below.size,λhm=>by have:=(hW.Cv _ hm).2.lt;omega⟩
        ·exact hD.new D hd
       ·obtain ⟨D,e1,_,e3⟩:=hF.defers.2 _ hd
        simp only [H0,Deferred.mk.injEq,Target.collected.injEq] at e1
        have:=e3.lt
        omega
      obtain ⟨fr1,fr2⟩:=hF1.RL;obtain ⟨fr1,fr2⟩:=aqx (H8 asg++H8 body) fr1 fr2
      obtain ⟨β2,b1,b2,hW2⟩:=hW1.Kr (ℓ:=⟨wd.heap.size,0,aj⟩) (nb:=⟨PO (H8 asg++H8 body) F,0,.Cq ps asg body .ready,X⟩) rfl ⟨AU.mono A0 _ fr2,ak⟩ (λ_=>⟨λhz=>by
        rcases hz with hz|hz
        ·have:=hW.Bc _ hz;simp only at this;omega
        ·simp only at hz;omega,by have:=hW.below.size;simp only;omega,λj bj hj lj e=>T4⟩) (λβ' q1 q2=>by
       simp only [Bb,q2];refine ⟨rec0,hl1,aAf,aAf,aAf,by rw [<-hrec];exact A9,?_⟩
       rw [<-hrec];exact RL.mono q1 (λ_ h=>h) (λ_ _=>rfl) _ _ fr2 fr1)
      have hF3:RF (H0 w.heap.size::ds) β2 (λb=>Z b\/(w.heap.size<=b/\b<wd.heap.size)) w1 (H++[(⟨PO (H8 asg++H8 body) F,0,.Cq ps asg body .ready,X⟩:AB)]).length F {a with defers:=H0 w.heap.size::a.defers}:=hF2.mono AJ b1 (λ_ h=>h) λ_ _=>rfl
      have hW3:=hW2.hold hF3
      have hyl:R β2 (λb=>Z b\/(w.heap.size<=b/\b<wd.heap.size)) w1 (.CU H.length) (.func (.yield wd.heap.size) #[] #[]):=by simp only [R,b2]
      have hW4:RW G w0 ⟨Z0.z,(LV.CU H.length,Value.func (.yield wd.heap.size) #[] #[])::(F.zip a.tmps.toList++Z0.gh),dsB (H0 w.heap.size::ds)++Z0.Cv⟩ (λb=>Z b\/(w.heap.size<=b/\b<wd.heap.size)) β2 (H++[⟨PO (H8 asg++H8 body) F,0,.Cq ps asg body .ready,X⟩]) w1:=
       ⟨hW3.below,hW3.Bc,hW3.Et,hW3.Cr,hW3.GV,hW3.low,hW3.inj,hW3.blk,hW3.Cy,λp hp=>by
        rcases B6.1 hp with rfl|hp
        ·exact ⟨hyl,MN⟩
        ·exact hW3.gh p hp,hW3.Cv⟩
      have hyr2:RL β2 (λb=>Z b\/(w.heap.size<=b/\b<wd.heap.size)) w1 cap ys.toList:=RL.mono (n:=H.length) b1 (λ_ h=> .inl h) (λb hz=>by
       have hlt:=hW.Bc b hz
       rw [EJ hb2 A0,EJ hb1 hlt]) _ _ hcap hyr
      have hbn:¬fn.body=none:=by intro hbb;simp [hbb] at hb
      have hb3:¬fn.name= "runtime.NumGoroutine":=by simpa using hb.2
      have eg:∀args w,(callFunc gf args).run P w=.ok (.enter gf args) w:=λargs w=>by simp [callFunc,hfn,hb3,hbn]
      refine ⟨wd.heap.size,[H0 w.heap.size],w1,{target:=.fn (.func gf) ys,args:=#[.func (.yield wd.heap.size) #[] #[]]},w1,gf,#[.func (.yield wd.heap.size) #[] #[]]++ys,w1,?_,?_,λ_ _=>trivial,?_,λh=>As,VD.2 ?_⟩
      ·have:=run_enterLoop_outer (P:=P) (w:=w) fn0 a.tmps ps asg body
       rw [hrec,hwd,hw1,<-hsd] at this;exact this
      ·simp only [resolve,hy]
       simp [go_sem]
      ·simp [invoke,go_sem,eg]
      ·refine (hK.k w0 _ _ β2 _ w1 gf (.CU H.length::cap) _ lv H1 hW4 (by simp only [zJ,RL];exact ⟨_,ys.toList,rfl,hyl,hyr2⟩) ⟨MN,AU.mono AJ _ hcap⟩ h1).mono λe w2 ⟨v,he,Z',β',r1,r2,r3⟩=>?_
       subst he
       have hat:(β' H.length).b=wd.heap.size:=by
        have:=(r1.gh (LV.CU H.length,Value.func (.yield wd.heap.size) #[] #[]) AJ).1
        exact aOj
       have r1':RW G w0 ⟨Z0.z,F.zip a.tmps.toList++Z0.gh,dsB (H0 w.heap.size::ds)++Z0.Cv⟩ Z' β' H1 w2:=⟨r1.below,r1.Bc,r1.Et,r1.Cr,r1.GV,r1.low,r1.inj,r1.blk,r1.Cy,λp hp=>r1.gh p<|NB _ hp,r1.Cv⟩
       have hF5:=RW.held hF3 r1'
       have hW5:RW G w0 Z0 Z' β' H1 w2:=r1'.less
       obtain ⟨c',t',ps',asg',body',hx⟩:=aeI hx'
       have fin:∀st,H1[H.length]? =ah ⟨c',t',.Cq ps' asg' body' st,X⟩->∃rr,w2.heap[wd.heap.size]? =ah (.loop rr)/\LsR st rr/\∀rr',RW G w0 Z0 Z' β' (H1.set H.length ⟨[],0,.dead,X⟩) (w2.putObj wd.heap.size<|.loop rr')/\RF (H0 w.heap.size::ds) β' Z' (w2.putObj wd.heap.size<|.loop rr') (H1.set H.length ⟨[],0,.dead,X⟩).length F {a with defers:=H0 w.heap.size::a.defers}:=λst hst=>by
        have hbk:=(hW5.blk _ _ hst).1
        simp only [Bb,hat] at hbk;obtain ⟨rr,q1,q2,q3,q4,q5,q6⟩:=hbk;refine ⟨rr,q1,q5,λrr'=>?_⟩
        have hs:=hW5.set (nb:=⟨[],0,.dead,X⟩) (w':=w2.putObj wd.heap.size<|.loop rr') hst trivial rfl rfl ⟨ak,ak⟩ (putObj_size _ _ _) ⟨rfl,rfl,rfl⟩ (λj hj=>MI (by rw [hat] at hj;exact hj)) trivial
        refine ⟨hs,?_⟩;rw [C4];exact hF5.mono (Au _) (λ_ _=>rfl) (λ_ h=>h) λb hz=>MI λe=>hW5.Cr _ _ hst trivial rfl (by rw [hat,<-e];exact hz)
       rcases hx with ⟨hx,rfl⟩ |⟨hx,hne⟩
       ·obtain ⟨rr,q1,q2,q3⟩:=fin _ hx
        refine ⟨aj,w2.putObj wd.heap.size<|.loop {rr with state:=.exhausted},(run_endLoop q1 (by rw [q2.1];simp)).trans<|by rw [q2.2],?_⟩
        obtain ⟨f1,f2⟩:=q3 {rr with state:=.exhausted}
        exact hQ _ Z' β' _ _ hD2 f1 f2
       ·obtain ⟨rr,q1,q2,q3⟩:=fin _ hx
        refine ⟨aVD x',w2.putObj wd.heap.size<|.loop {rr with state:=.exhausted},(run_endLoop q1 (by rw [q2.1];simp)).trans<|by rw [q2.2],?_⟩
        obtain ⟨f1,f2⟩:=q3 {rr with state:=.exhausted}
        cases x' with
        |normal=>exact absurd rfl hne
        |exit m=>exact wpIn_exit (hQ _ Z' β' _ _ hD2 f1 f2)
        |ret=>exact wpIn_ret<|hQ _ Z' β' _ _ hD2 f1 f2
     ·cases h2
    ·cases h
   ·cases h
  ·cases h
 | .scope c,hl=>λr w0 Z0 Z β F H a w ds Q x F' H' hA hr hD hW hF h hQ=>by
  simp only [DL] at h;refine aeT<|Fp hΓ hK c (λb hb=>hl b<|by simpa [BC] using hb) r w0 Z0 Z β F H a w ds _ x F' H' hA hr hD hW hF h λds' Z' β' a' w' e0 e1 e2=>?_
  cases x with
  |normal=>exact hQ ds' Z' β' a' w' e0 e1 e2
  |exit m=>exact hQ ds' Z' β' a' w' e0 e1 e2
  |ret=>exact hQ ds' Z' β' a' w' e0 e1 e2
 | .label l,_=>λr w0 Z0 Z β F H a w ds Q x F' H' hA hr hD hW hF h hQ=>by
  simp only [DL,T.all,Az] at h;obtain ⟨rfl,rfl,rfl⟩:=h;exact wpIn_label (hQ ds Z β a w hD hW hF)
 | .goto ..,_=>λr w0 Z0 Z β F H a w ds Q x F' H' hA hr hD hW hF h hQ=>aQd
 | .refuse ..,_=>λr w0 Z0 Z β F H a w ds Q x F' H' hA hr hD hW hF h hQ=>aQd
def qo {L:Lv}(hΓ:∀g S,Γ g=ah S->Valid P G g S) (hK:Ft P G K) (c:bB) (hl:∀b∈BC c,Sound P G (.loop b)<|L<|H3 b):Sound P G c (DL P G Γ K (LF L) c):=Fp (L:=LF L) hΓ hK c hl
def aMc (a:bg):ResultVar->Sem Value
 | .tmp t=>pure (a.tmps.getD t undef)
 | .cell ad t=>do loadVar t (←asAddr (a.tmps.getD ad undef))
def tU (fn:aXX) (a:bg):results fn a.tmps=(do let vs ←fn.results.mapM (aMc a);pure (if h:vs.size=1 then vs[0] else .tuple vs)):=by
 congr 1
def aGI {f:ResultVar->Sem Value}{r:ResultVar}{rs:aYe}{z:aV}{vs:aT}(h1:(f r).run P w=.ok z w) (h2:(rs.mapM f).run P w=.ok vs w):((r::rs).mapM f).run P w=.ok (z::vs) w:=by
 simp_all
def dy {fn:aXX}:∀(rs:aYe) (l:aD),RW G w0 Z0 Z β H w->RF ds β Z w (M H) F a->(SH P fn F H rs).all (λq=>q=l)->
  ∃vs:aT,(rs.mapM<|aMc a).run P w=.ok vs w/\RL β Z w l vs/\AU (M H) l
 | [],l,hW,hF,h=>by
  subst h;exact ⟨[],AJ,cg,ak⟩
 | .tmp t::rs,l,hW,hF,h=>by
  obtain ⟨l1,h1,h2⟩:=T.B7 h;obtain ⟨vs,e1,e2,e3⟩:=dy rs l1 hW hF h1
  have ev:=hF.eval hW.Cy<|.tmp t
  refine ⟨a.tmps.getD t undef::vs,?_,?_,?_⟩
  ·exact aGI rfl e1
  ·rw [<-h2];simp only [RL];exact ⟨_,_,rfl,Qw ev.1,e2⟩
  ·rw [<-h2];exact ⟨Wh ev.2,e3⟩
 | .cell ad t::rs,l,hW,hF,h=>by
  obtain ⟨y,h1,h2⟩:=T.B7 h;obtain ⟨l1,h3,h4⟩:=T.B7 h2;obtain ⟨vs,e1,e2,e3⟩:=dy rs l1 hW hF h3
  have ev:=hF.eval hW.Cy<|.tmp ad
  simp only [AM,Act.eval] at ev;obtain ⟨z,f1,f2,f3⟩:=qh hW h1 ev.1 ev.2
  have f1:=f1 w λ_ _=>rfl
  have f4:(do loadVar t (←asAddr (a.tmps.getD ad undef)):Sem Value).run P w=.ok z w:=by
   have hp:∃q,a.tmps.getD ad undef=.pointer (ah q):=by
    have hr:=ev.1
    generalize hx:F.getD ad .junk=x at h1 hr;cases x with
    |own k off=>simp only [R] at hr;exact ⟨_,hr⟩
    |xq n f=>simp only [R] at hr;obtain ⟨b,off,e,_⟩:=hr;exact ⟨_,e⟩
    |op k es i j=>simp only [R] at hr;exact ⟨_,hr.2⟩
    |_=>unfold FX at h1;split at h1<;>simp only [T.all] at h1
   obtain ⟨q,hq⟩:=hp;rw [hq] at f1|-
   simpa [Instr.loadAt,Instr.sureAddr,asAddr] using f1
  refine ⟨z::vs,?_,?_,?_⟩
  ·exact aGI f4 e1
  ·rw [<-h4];simp only [RL];exact ⟨_,_,rfl,f2,e2⟩
  ·rw [<-h4];exact ⟨f3,e3⟩
def aCQ {l:aD}{vs:aT}(h:RL β Z w l vs):R β Z w (one l) (if hs:vs.toArray.size=1 then vs.toArray[0] else .tuple vs.toArray):=by
 unfold one
 have hl:=RL.length h
 split
 ·rename_i x
  obtain ⟨y,zs,e1,e2,e3⟩:=h
  grind
 ·rename_i hne
  have:¬vs.toArray.size=1:=by
   intro h1
   simp at h1
   rw [h1] at hl;cases l with
   |nil=>simp at hl
   |cons x xs=>cases xs with
    |nil=>exact hne x rfl
    |cons _ _=>simp at hl
  rw [dif_neg this];exact uM A8
def XH {l:aD}(h:AU n l):okV n (one l):=by
 unfold one;split
 ·exact h.1
 ·exact tG h
def aFu {args:aD}{vals:aX}(hr:RL β Z w args vals.toList) (hok:AU (M H) args) (m:aC):RF [] β Z w (M H) (args++aq (m-M args) (.v undef)) {tmps:=vals++Array.replicate (m-vals.size) undef,defers:=[]}:=by
 have hlen:vals.size=M args:=aQD
 refine ⟨A8,λt x hx=>?_,rfl,λ_ h=>As⟩
 by_cases ht:t<M args
 ·rw [I1 ht] at hx
  obtain ⟨y,e1,e2⟩:=RL.get _ _ hr hx
  have e3:(vals++Array.replicate (m-vals.size) undef).getD t undef=y:=by
   have hts:t<vals.size:=A0
   have:vals[t]? =ah y:=A8
   rw [mv,zQ hts,this];rfl
  exact ⟨A8,AU.get _ _ hok hx⟩
 ·rw [Gp A0] at hx
  have hx':x=.v undef:=by
   rw [Ss] at hx;split at hx
   ·grind
   ·cases hx
  have e3:(vals++Array.replicate (m-vals.size) undef).getD t undef=undef:=by
   rw [mv,Array.getElem?_append_right A0,Array.getElem?_replicate]
   grind
  rw [hx',e3];exact ⟨KM,ak⟩
def adD {b:bB}:Gx P G A (.loop b) (fv b):=λ_ _ _ _ _ _ _ _ _ _ _ _ _ _ _ _ _ _ _ h=>As
def ado {b:bB}{t:aD->aG->T (Ex×List LV×List AB)}(hb:Gx P G A b t) (m:aC):Gx P G A (.loop b) (vP t m):=by
 intro r w0 Z0 Z β F H a w ds Q x F' H' hA hr hD hW hF h hQ;refine wpIn_loop_rounds m ?_
 induction m generalizing Z β F H a w ds with
 |zero=>cases h
 | succ m ih=>
  obtain ⟨⟨y,F1,H1⟩,h1,h2⟩:=T.B7 h;refine hb r w0 Z0 Z β F H a w ds _ y F1 H1 hA hr hD hW hF h1 λds' Z' β' a' w' e0 e1 e2=>?_
  cases y with
  |normal=>exact ih Z' β' F1 H1 a' w' ds' e0 e1 e2 h2
  |exit k=>
   obtain ⟨rfl,rfl,rfl⟩:=h2;exact hQ ds' Z' β' a' w' e0 e1 e2
  |ret=>
   obtain ⟨rfl,rfl,rfl⟩:=h2;exact hQ ds' Z' β' a' w' e0 e1 e2
def MQ (hΓ:∀g S,Γ g=ah S->Valid P G g S) (hK:Ft P G K) (m:aC):∀(d:aC) (b:bB),Gx P G A (.loop b) (EY P G Γ K m d b)
 |0,_=>adD
 |d+1,b=>ado (Fp hΓ hK b λb' _=>MQ hΓ hK m d b') m
def aHH:∀(ts:List Tmp) (xs:aD) (vs:aT) (F:aD) (a:bg),RF ds β Z w n F a->RL β Z w xs vs->AU n xs->RF ds β Z w n (Xo F ts xs) {a with tmps:=(ts.zip vs).foldl (λt (p,v)=>t.setIfInBounds p v) a.tmps}
 | [],_,_,F,a,hF,_,_=>by simpa [Xo] using hF
 |_::_,[],vs,F,a,hF,hr,_=>by
  subst hr
  simpa [Xo] using hF
 |t::ts,x::xs,vs,F,a,hF,hr,hk=>by
  obtain ⟨y,zs,rfl,h1,h2⟩:=hr;exact aHH ts xs zs (F.set t x) {a with tmps:=a.tmps.setIfInBounds t y} (hF.put h1 hk.1<|ah t) h2 hk.2
def aqG (ps:aX3) (vs:aX) (t:aX):(ps.zip vs).foldl (λt (p,v)=>t.setIfInBounds p v) t=(ps.toList.zip vs.toList).foldl (λt (p,v)=>t.setIfInBounds p v) t:=by
 rw [<-Array.foldl_toList,Array.toList_zip]
def EZ (P:aR) (G:BA) (LL:DZ):Prop:=∀(K:aX5) (g:bn) (fn:aXX) (c:bB) (N:aC) (b:bB),Ft P G K->P.funcs[g]? =ah fn->fn.body=ah c->b∈BC c->Gx P G (AN N) (.loop b) (LL K g N b)
def RW.ghost {p:LV×Value}(hW:RW G w0 Z0 Z β H w) (h:R β Z w p.1 p.2/\okV (M H) p.1):RW G w0 ⟨Z0.z,p::Z0.gh,Z0.Cv⟩ Z β H w:=
 ⟨hW.below,hW.Bc,hW.Et,hW.Cr,hW.GV,hW.low,hW.inj,hW.blk,hW.Cy,λq hq=>by
  rcases B6.1 hq with rfl|hq
  ·exact h
  ·exact hW.gh q hq,hW.Cv⟩
def RW.atH {p:LV×Value}(hW:RW G w0 ⟨Z0.z,p::Z0.gh,Z0.Cv⟩ Z β H w):RW G w0 Z0 Z β H w:=
 ⟨hW.below,hW.Bc,hW.Et,hW.Cr,hW.GV,hW.low,hW.inj,hW.blk,hW.Cy,λq hq=>hW.gh q<|NB _ hq,hW.Cv⟩
def qa {LL:DZ} {K:aX5} (hΓ:∀g S,Γ g=ah S->Valid P G g S) (hLL:EZ P G LL) (hK:Ft P G K):Ft P G (Ep P G Γ LL K):=by
  refine ⟨λw0 Z0 Z β H w g args vals lv H' hW hr hok h=>?_,λw0 Z0 Z β H w k args vals lv H' hW hr hok h=>?_⟩
  ·simp only [Ep] at h
   split at h
   ·rename_i fn hfn
    split at h
    ·rename_i c hc
     obtain ⟨⟨x,F1,H1⟩,h1,h2⟩:=T.B7 h;refine VD.1<|callsIn_of_wp_marks (n:=0) hfn hc trivial ?_;refine Fp (A:=AN<|M H) (L:=LL K g<|M H) hΓ hK c (λb hb=>hLL _ g fn c (M H) b hK hfn hc hb) aj w0 Z0 Z β _ H _ w [] _ x F1 H1 (λp hp=>(hW.gh p hp).2) (.inl rfl) M6.nil hW (aFu hr hok fn.ntmps) h1 λds' Z' β' a' w' e0 e1 e2=>?_
     have fin:((SH P fn F1 H1 fn.results.toList).bind λl=>(T.ok (one l,H1):T<|LV×List AB)).all (λq=>q=(lv,H'))->LeavesInM Fence.wide 0 P fn a'.tmps (λe w'=>∃v,e=.returned v/\∃Z' β',RW G w0 Z0 Z' β' H' w'/\R β' Z' w' lv v/\okV (M H') lv) a'.defers .returning w':=λh2=>by
      rw [e2.defers.1];refine aEv ds' w' a' e1 e2 e0 λw'' a'' et f1 f2=>?_
      obtain ⟨l,g1,g2⟩:=T.B7 h2;simp only [T.all,Az] at g2;obtain ⟨g2,g3⟩:=g2;subst g3;obtain ⟨vs,g3,g4,g5⟩:=dy fn.results.toList l f1 f2 g1;refine ⟨if hs:vs.toArray.size=1 then vs.toArray[0] else .tuple vs.toArray,?_,_,rfl,Z',β',f1,?_,?_⟩
      ·rw [<-et,tU,zS]
       simp_all
      ·rw [<-g2];exact aCQ g4
      ·rw [<-g2];exact XH g5
     cases x with
     |normal=>exact fin h2
     |ret=>exact fin h2
     |exit m=>cases h2
    ·cases h
   ·cases h
  ·simp only [Ep] at h
   split at h
   ·rename_i Fr t ps asg body hb
    split at h
    ·rename_i hc
     obtain ⟨hc1,hc2,hc3⟩:=hc;obtain ⟨⟨y,F1,H1⟩,h1,h2⟩:=T.B7 h
     have hbk:=(hW.blk k _ hb).1
     simp only [Bb] at hbk;obtain ⟨rr,q1,q2,q3,q4,q5,q6⟩:=hbk
     have hokF:AU (M H) Fr:=(hW.blk k _ hb).2.1
     have hvl:vals.size=M args:=aQD
     have hkH:k<M H:=(EI.1 hb).1
     refine ⟨rr,q1,by rw [q2,hvl,hc1],?_⟩
     have hF0:RF [] β Z w (M H) Fr {tmps:=rr.tmps,defers:=[]}:=by
      refine ⟨by have:=RL.length q6;simpa using this,λi x hx=>?_,rfl,λ_ h=>As⟩
      obtain ⟨v,e1,e2⟩:=RL.get i x q6 hx;refine ⟨?_,AU.get i x hokF hx⟩
      have:rr.tmps.getD i undef=v:=by
       rw [mv]
       have:rr.tmps[i]? =ah v:=by simpa using e1
       rw [this];rfl
      rw [this];exact e2
     have hF1:=aHH ps.toList args vals.toList Fr _ hF0 hr hok
     generalize hl:(β k).b=l at*
     have hyl:R β Z w (.CU k) (.func (.yield l) #[] #[]):=by simp only [R,hl]
     have hW1:=hW.ghost (p:=(LV.CU k,Value.func (.yield l) #[] #[])) ⟨hyl,hkH⟩
     have atl:∀ {Z':aC->Prop} {β':aC->aXS} {H':aG} {w':aO},RW G w0 ⟨Z0.z,(LV.CU k,Value.func (.yield l) #[] #[])::Z0.gh,Z0.Cv⟩ Z' β' H' w'->(β' k).b=l:=λr1=>by
      have:=(r1.gh (LV.CU k,Value.func (.yield l) #[] #[]) AJ).1
      exact aOj
     refine roundIn_of_wpIn trivial ?_;rw [q3,q4,q2,aqG];refine Fp (A:=λ_=>True) (L:=fv) hΓ hK asg (λb _=>adD) (ah l) w0 _ Z β _ H _ w [] _ y F1 H1 trivial (.inr hc2) M6.nil hW1 hF1 h1 λds1 Z1 β1 a1 w1 e0 e1 e2=>?_
     simp only at h2;cases y with
     |exit m=>cases h2
     |ret=>cases h2
     | normal=>
      simp only at h2;split at h2
      ·rename_i Fr1 t1 ps1 asg1 body1 hb1
       obtain ⟨⟨x,F2,H2⟩,h3,h4⟩:=T.B7 h2
       have hbk1:=(e1.blk k _ hb1).1
       simp only [Bb] at hbk1;obtain ⟨r1,p1,p2,p3,p4,p5,p6⟩:=hbk1
       have a1l:=atl e1
       rw [a1l] at p1;refine ⟨_,run_beginRound p1 p5.1,?_⟩
       obtain ⟨t1a,t1b⟩:=RW.turn (t':=t) (nb:=.Cq ps1 asg1 body1 .busy) (r':={r1 with state:=.busy}) e1 hb1 (by
        simp only [Bb];rw [a1l];exact ⟨{r1 with state:=.busy},World.putObj_heap_same (Ia.1 p1).1,p2,p3,p4,rfl,RL.mono (n:=M H1) (λ_ _=>rfl) (λ_ h=>h) (λb hz=>MI λe=>e1.Cr k _ hb1 trivial rfl (by rw [a1l,<-e];exact hz)) _ _ (e1.blk k _ hb1).2.1 p6⟩) ⟨(e1.blk k _ hb1).2.1,ak⟩
       rw [a1l] at t1a t1b
       have hF2:RF ds1 β1 Z1 (w1.putObj l<|.loop {r1 with state:=.busy}) (M<|H1.set k ⟨Fr1,t,.Cq ps1 asg1 body1 .busy,X⟩) F1 a1:=by
        rw [C4];exact e2.mono (Au _) (λ_ _=>rfl) (λ_ h=>h) t1b
       refine Fp (A:=λ_=>True) (L:=EY P G Γ K 20 2) hΓ hK body (λb _=>MQ hΓ hK 20 2 b) (ah l) w0 _ Z1 β1 _ _ a1 _ ds1 _ x F2 H2 trivial (.inr hc3) e0 t1a hF2 h3 λds2 Z2 β2 a2 w2 f0 f1 f2=>?_
       split at h4
       ·rename_i Fr2 t2 ps2 asg2 body2 hb2
        have hbk2:=(f1.blk k _ hb2).1
        obtain ⟨r2,s1,s2,s3,s4,s5,s6⟩:=hbk2
        have a2l:=atl f1
        rw [a2l] at s1
        have fin:∀(st:LS) (jump:Option Code) (b:aM),LsR st {r2 with state:=if jump.isNone then .ready else .done,pending:=jump}->jump.isNone=b->(T.ok (LV.bl b,H2.set k ⟨Fr2,t,.Cq ps2 asg2 body2 st,X⟩):T<|LV×List AB).all (λq=>q=(lv,H'))->
          ∃v w',(Instr.endRound l jump).run P w2=.ok v w'/\(∃v',Ending.returned v=.returned v'/\∃Z' β',RW G w0 Z0 Z' β' H' w'/\R β' Z' w' lv v'/\okV (M H') lv):=λst jump b hst hj h4=>by
         obtain ⟨rfl,rfl⟩:=h4;refine ⟨_,_,run_endRound jump s1,_,rfl,Z2,β2,?_,?_,ak⟩
         ·obtain ⟨t2a,t2b⟩:=RW.turn (t':=t) (nb:=.Cq ps2 asg2 body2 st) (r':={r2 with state:=if jump.isNone then .ready else .done,pending:=jump}) f1 hb2 (by
           simp only [Bb];rw [a2l];exact ⟨_,World.putObj_heap_same (Ia.1 s1).1,s2,s3,s4,hst,RL.mono (n:=M H2) (λ_ _=>rfl) (λ_ h=>h) (λb hz=>MI λe=>f1.Cr k _ hb2 trivial rfl (by rw [a2l,<-e];exact hz)) _ _ (f1.blk k _ hb2).2.1 s6⟩) ⟨(f1.blk k _ hb2).2.1,ak⟩
          rw [a2l] at t2a;exact t2a.atH
         ·simp only [R,hj]
        cases x with
        |normal=>exact fin .ready aj U ⟨rfl,rfl⟩ rfl h4
        |exit m=>exact fin (.done<|.exit m) (ah<|.exit m) X ⟨rfl,rfl⟩ rfl h4
        |ret=>exact fin (.done .ret) (ah .ret) X ⟨rfl,rfl⟩ rfl h4
       ·cases h4
      ·cases h2
    ·cases h
   ·cases h
def aFN {LL:DZ}(hΓ:∀g S,Γ g=ah S->Valid P G g S) (hLL:EZ P G LL):∀(d:aC),Ft P G (inl P G Γ LL d)
 |0=>Qe
 |d+1=>qa hΓ hLL<|aFN hΓ hLL d
def Dn (P:aR) (G:BA) (g:bn) (m:aD->aG->T (LV×List AB)):Prop:=
 ∀(w0:aO) (Z0:Gz) (Z:aC->Prop) (β:aC->aXS) (H:aG) (w:aO) (args:aD) (vals:aX) (lv:LV) (H':aG),RW G w0 Z0 Z β H w->RL β Z w args vals.toList->AU (M H) args->(m args H).all (λq=>q=(lv,H'))->
  Calls P g vals w λe w'=>∃v,e=.returned v/\∃Z' β',RW G w0 Z0 Z' β' H' w'/\R β' Z' w' lv v/\okV (M H') lv
def aEz {LL:DZ}{C:Does}(hΓ:∀g S,Γ g=ah S->Valid P G g S) (hLL:EZ P G LL) (hC:∀g m,C g=ah m->Dn P G g m):∀(d:aC),Ft P G (Vn P G Γ LL C d)
 |0=>Qe
 | d+1=>by
  have h:=qa hΓ hLL<|aEz hΓ hLL hC d
  refine ⟨λw0 Z0 Z β H w g args vals lv H' hW hr hok hq=>?_,h.y⟩
  simp only [Vn] at hq;split at hq
  ·rename_i m hm
   exact hC g m hm w0 Z0 Z β H w args vals lv H' hW hr hok hq
  ·exact h.k w0 Z0 Z β H w g args vals lv H' hW hr hok hq
def Dn.walk {LL:DZ}{K:aX5}{g:bn}{m:aD->aG->T (LV×List AB)}(hΓ:∀g S,Γ g=ah S->Valid P G g S) (hLL:EZ P G LL) (hK:Ft P G K)
  (hm:∀args H lv H',(m args H).all (λq=>q=(lv,H'))->((Ep P G Γ LL K).k g args H).all (λq=>q=(lv,H'))):Dn P G g m:=
 λw0 Z0 Z β H w args vals lv H' hW hr hok hq=>(qa hΓ hLL hK).k w0 Z0 Z β H w g args vals lv H' hW hr hok<|hm args H lv H' hq
def EM (P:aR) (G:BA) (Γ:aXQ) (m d:aC):DZ:=λK _ _=>EY P G Γ K m d
def I9 {m d:aC}(hΓ:∀g S,Γ g=ah S->Valid P G g S):EZ P G (EM P G Γ m d):=λ_ _ _ _ _ b hK _ _ _=>MQ hΓ hK m d b
def DG (g:bn) (N id:aC) (t:aD->aG->T (Ex×List LV×List AB)) (LL:DZ):DZ:=λK g' N' b=>if g'=g/\N'=N/\H3 b=id then t else LL K g' N' b
def DR {g:bn}{N id:aC}{t:aD->aG->T (Ex×List LV×List AB)}{LL:DZ}{fn:aXX}{c bd:bB}(hfn:P.funcs[g]? =ah fn) (hc:fn.body=ah c) (hid:(BC c).filter (λb=>H3 b==id)=[bd]) (ht:Gx P G (AN N) (.loop bd) t) (h:EZ P G LL):EZ P G (DG g N id t LL):=by
 intro K g' fn' c' N' b hK hfn' hc' hb;unfold DG;split
 ·rename_i e
  obtain ⟨rfl,rfl,e⟩:=e;rw [hfn] at hfn'
  have:=Ej hfn'
  subst this;rw [hc] at hc'
  have:=Ej hc'
  subst this
  have hm:b∈(BC c).filter (λb=>H3 b==id):=Ck.2 ⟨hb,A8⟩
  have:b=bd:=A8
  subst this;exact ht
 ·exact h K g' fn' c' N' b hK hfn' hc' hb
def aFm {f:bn}{fn:aXX}{c:bB}{t:aD->aG->T (Ex×List LV×List AB)}(hfn:P.funcs[f]? =ah fn) (hc:fn.body=ah c) (ht:Sound P G c t):Valid P G f (yU P fn t):=by
 intro args vals w Z lv hz hg hok hr h;obtain ⟨⟨x,F',H'⟩,h1,h2⟩:=T.B7 h;refine VD.1<|callsIn_of_wp_marks (n:=0) hfn hc trivial ?_
 have hW:RW G w ⟨Z,[],[]⟩ Z β0 [] w:=⟨Below.refl _ _,hz,λb h=> .inl h,λk b hk=>aAh,λk b hk=>aAh,λk b hk=>aAh,λi j bi bj hi=>by simp at hi,λk b hb=>by simp at hb,hg,λp hp=>ot,λD hD=>(by cases hD)⟩
 have hF:=aFu (H:=[]) hr hok fn.ntmps
 refine ht aj w ⟨Z,[],[]⟩ Z β0 _ [] _ w [] _ x F' H' (λp hp=>ot) (.inl rfl) M6.nil hW hF h1 λds' Z' β' a' w' e0 e1 e2=>?_
 have fin:((SH P fn F' H' fn.results.toList).bind λl=>if noOwn (one l) then (T.ok (one l):T LV) else (EX H' 8<|one l).bind λ_=> .ok<|C8 H' 8<|one l).all (λx=>x=lv)->LeavesInM Fence.wide 0 P fn a'.tmps (λe w'=>Below w.heap.size w w'/\∃v',e=.returned v'/\okV 0 lv/\R β0 (λb=>Z b\/(w.heap.size<=b/\b<w'.heap.size)) w' lv v') a'.defers .returning w':=λh2=>by
  rw [e2.defers.1];refine aEv ds' w' a' e1 e2 e0 λw'' a'' et f1 f2=>?_
  obtain ⟨l,g1,g2⟩:=T.B7 h2;split at g2
  ·rename_i hno
   obtain ⟨vs,g3,g4,g5⟩:=dy fn.results.toList l f1 f2 g1
   have hok0:okV 0 lv:=by rw [<-g2];exact noOwn_ok _ hno<|XH g5
   refine ⟨if hs:vs.toArray.size=1 then vs.toArray[0] else .tuple vs.toArray,?_,f1.below,_,rfl,hok0,?_⟩
   ·rw [<-et,tU,zS]
    simp_all
   ·have:=aCQ g4
    rw [g2] at this
    exact R.mono (n:=0) (λ_ hk=>absurd hk A0) (λb hb=>by
     rcases f1.Et b hb with h|h
     ·exact .inl h
     ·exact .inr ⟨h,f1.Bc b hb⟩) (λ_ _=>rfl) _ _ hok0 this
  ·obtain ⟨_,hg,g2⟩:=T.B7 g2
   have hG:=T.BQ (K':=λ_=>True) (λ_ _=>trivial) hg
   obtain ⟨vs,g3,g4,g5⟩:=dy fn.results.toList l f1 f2 g1
   have hok0:okV 0 lv:=by rw [<-g2];exact Qj H' (λk b hb=>(f1.blk k b hb).2) 8 _<|XH g5
   refine ⟨if hs:vs.toArray.size=1 then vs.toArray[0] else .tuple vs.toArray,?_,f1.below,_,rfl,hok0,?_⟩
   ·rw [<-et,tU,zS]
    simp_all
   ·have:=Mf (S:=λ_=>True) f1 (λ_ _ _ _ _ _=>trivial) 8 _ _ hG (λ_ _=>trivial) (XH g5) (aCQ g4)
    rw [g2] at this
    exact R.mono (n:=0) (λ_ hk=>absurd hk A0) (λb hb=>by
     rcases hb with hb|⟨k,bk,_,h2,h3,rfl⟩
     ·rcases f1.Et b hb with h|h
      ·exact .inl h
      ·exact .inr ⟨h,f1.Bc b hb⟩
     ·exact .inr ⟨f1.low k bk h2 h3,f1.lt h2 h3⟩) (λ_ _=>rfl) _ _ hok0 this
 cases x with
 |normal=>exact fin h2
 |ret=>exact fin h2
 |exit m=>cases h2
def aqK {f:bn}{fn:aXX}{c:bB}{S:aD->T LV}{L:Lv}(hfn:P.funcs[f]? =ah fn) (hc:fn.body=ah c) (hΓ:∀g S,Γ g=ah S->Valid P G g S) (hK:Ft P G K)
  (hL:∀b∈BC c,Sound P G (.loop b)<|L<|H3 b) (hS:∀args lv,(S args).all (λx=>x=lv)->(yR P G Γ K L fn args).all (λx=>x=lv)):Valid P G f S:=λargs vals w Z lv hz hg hok hr h=>
 aFm hfn hc (qo hΓ hK c hL) args vals w Z lv hz hg hok hr (by have:=hS args lv h;unfold yR at this;simpa only [hc] using this)
end Go.Sx
namespace Go.Sx
open Go Go.RowKit Go.Proofs.YtpdndmobphnjcaaGreatDoor
variable {P : Program} {G : BA} {Γ : Specs} {L : Lv} {β : Nat -> Loc} {Z : Nat -> Prop} {Z0 : Gz} {w w0 : World} {F : List LV} {H : List AB} {a : Act} {ds : List Deferred} {n : Nat}
def tE {c:bB}(h:BC c=[]):∀b∈BC c,Sound P G (.loop b) (L<|H3 b):=λb hb=>A8
def Vs (P:aR) (G:BA):List (FuncId×(List LV->T LV))->Prop
 | []=>True
 |p::ps=>Valid P G p.1 p.2/\Vs P G ps
def rR:∀ {l:List<|FuncId×(List LV->T LV)},Vs P G l->∀g S,DY l g=ah S->Valid P G g S
 | [],_,g,S,h=>As
 |p::ps,hv,g,S,h=>by
  simp only [DY] at h;split at h
  ·rename_i hg;simp only [Aj] at h;subst h hg;exact hv.1
  ·exact rR hv.2 g S h
def aGl {α:Type}{t t':T α}{K:α->Prop}(h:t=t') (h':t'.all K):t.all K:=h▸h'
end Go.Sx
namespace Go.Sx
open Go Go.RowKit Go.Proofs.YtpdndmobphnjcaaGreatDoor
variable {P : Program} {G : BA} {Γ : Specs} {L : Lv} {β : Nat -> Loc} {Z : Nat -> Prop} {Z0 : Gz} {w w0 : World} {F : List LV} {H : List AB} {a : Act} {ds : List Deferred} {n : Nat}
def pos (k:aC):aH->aC->Nat
 | [],i=>i
 |j::js,i=>if k=j then i else pos k js (i+1)
def aEj {k:aC}:∀ {ks:aH}(i:aC),k∈ks->i<=pos k ks i/\ks[pos k ks i-i]? =ah k/\pos k ks i<i+M ks
 | [],i,h=>As
 | j::js,i,h=>by
  simp only [pos];split
  ·grind
  ·rename_i e
   have hk:k∈js:=by
    rcases B6.1 h with h|h
    ·grind
    ·exact h
   obtain ⟨h1,h2,h3⟩:=aEj (i+1) hk;refine ⟨A0,?_,A8⟩
   grind
mutual
def renV (ks:aH):LV->LV
 | .v x=> .v x
 | .bl b=> .v (.bool b)
 | .ki k n=> .v (ag k n)
 | .own k off=> .own (pos k ks 0) off
 | .agg l=> .agg (renL ks l)
 | .AQ l=> .AQ (renL ks l)
 | .fn f l=> .fn f (renL ks l)
 | .fb f l=> .fb f (renL ks l)
 | .xq n f=> .xq n f
 | .xl e l=> .xl e l
 | .os k es off n=> .os (pos k ks 0) es off n
 | .op k es i j=> .op (pos k ks 0) es i j
 | .om k=> .om (pos k ks 0)
 | .mp kd kk l=> .mp kd kk (renL ks l)
 | .oc k es off n c=> .oc (pos k ks 0) es off n c
 | .CU k=> .CU (pos k ks 0)
 | .junk=> .junk
def renL (ks:aH):aD->List LV
 | []=>[]
 |x::xs=>renV ks x::renL ks xs
end
def K5 (ks:aH):BK->BK
 | .cl=> .cl
 | .vec e l=> .vec e l
 | .mp kd kk vs=> .mp kd kk (renL ks vs)
 | .Cq ps asg body st=> .Cq ps asg body st
 | .st e l=> .st e l
 | .dead=> .dead
def Ip (ks:aH) (b:AB):AB:=⟨renL ks b.c,b.t,K5 ks b.k,b.p⟩
def Uu:AB:=⟨[],0,.dead,X⟩
def nodupB:aH->Bool
 | []=>U
 |k::ks=>!ks.contains k&&nodupB ks
def aG8:∀ {ks:aH},nodupB ks=U->∀(i j k:aC),ks[i]? =ah k->ks[j]? =ah k->i=j
 | [],_,i,j,k,h,_=>A8
 | x::xs,hn,i,j,k,hi,hj=>by
  simp only [nodupB,AY,DB] at hn;cases i with
  | zero=>
   cases j with
   |zero=>rfl
   |succ j=>
    grind
  | succ i=>
   cases j with
   |zero=>
    grind
   |succ j=>
    rw [aG8 hn.2 i j k hi hj]
def Rn (ks:aH) (β β':aC->aXS):Prop:=∀i k,ks[i]? =ah k->β' i=β k
def Rn.at {ks:aH}{β':aC->aXS}(h:Rn ks β β') {k:aC}(hk:k∈ks):β' (pos k ks 0)=β k/\pos k ks 0<M ks:=by
 obtain ⟨_,h2,h3⟩:=aEj 0 hk;exact ⟨h _ _ A8,A0⟩
mutual
def ren_R {ks:aH}{β':aC->aXS}{n:aC}(h:Rn ks β β'):∀(x:LV) (y:aV),(∀k,k∈owns x->k∈ks)->okV n x->R β Z w x y->R β' Z w (renV ks x) y
 | .v _,_,_,_,hr=>hr
 | .bl _,_,_,_,hr=>hr
 | .ki _ _,_,_,_,hr=>hr
 | .own k off,y,ho,hok,hr=>by
  exact VJ
 | .agg l,y,ho,hok,hr=>by
  exact nV
 | .AQ l,y,ho,hok,hr=>by
  exact nV
 | .fn f l,y,ho,hok,hr=>by
  exact nV
 | .fb f l,y,ho,hok,hr=>by
  exact nV
 | .xq n f,y,ho,hok,hr=>by
  simp only [renV,R,okV] at*;obtain ⟨b,off,h1,h2,h3⟩:=hr;refine ⟨b,off,h1,h2,λj hj=>?_⟩
  obtain ⟨z,h4,h5⟩:=h3 j hj;exact ⟨z,h4,R.mono (n:=0) (λ_ hk=>absurd hk A0) (λ_ h=>h) (λ_ _=>rfl) _ _ (hok j) h5⟩
 | .xl e l,y,ho,hok,hr=>by simp only [renV,R] at*;exact hr
 | .os k es off n,y,ho,hok,hr=>by
  exact VJ
 | .op k es i j,y,ho,hok,hr=>by
  exact VJ
 | .om k,y,ho,hok,hr=>by
  exact VJ
 | .mp kd kk l,y,ho,hok,hr=>by
  simp only [renV,R,owns,okV] at*;obtain ⟨r,es,clock,h1,h2,h3,h4,h5⟩:=hr;exact ⟨r,es,clock,h1,h2,h3,h4,ren_RL h l _ ho hok h5⟩
 | .oc k es off n c,y,ho,hok,hr=>by
  exact VJ
 | .CU k,y,ho,hok,hr=>by
  exact VJ
 | .junk,_,_,_,_=>by simp only [renV,R]
def ren_RL {ks:aH}{β':aC->aXS}{n:aC}(h:Rn ks β β'):∀(l:aD) (ys:aT),(∀k,k∈ownsL l->k∈ks)->AU n l->RL β Z w l ys->RL β' Z w (renL ks l) ys
 | [],_,_,_,hr=>by simpa only [renL,RL] using hr
 |x::xs,ys,ho,hok,hr=>by
  simp only [renL,RL,ownsL,Bf,AU] at*;obtain ⟨y,zs,h1,h2,h3⟩:=hr;exact ⟨y,zs,h1,ren_R h x y (λk hk=>ho k (.inl hk)) hok.1 h2,ren_RL h xs zs (λk hk=>ho k (.inr hk)) hok.2 h3⟩
end
mutual
def ren_ok {ks:aH}{n:aC}:∀(x:LV),(∀k,k∈owns x->k∈ks)->okV n x->okV (M ks) (renV ks x)
 | .v _,_,_=>trivial
 | .bl _,_,_=>trivial
 | .ki _ _,_,_=>trivial
 | .own k off,ho,_=>VM
 | .agg l,ho,hk=>cP
 | .AQ l,ho,hk=>cP
 | .fn f l,ho,hk=>cP
 | .fb f l,ho,hk=>cP
 | .xq n f,_,hk=>by simpa only [renV,okV] using hk
 | .xl _ _,_,_=>trivial
 | .os k _ _ _,ho,_=>VM
 | .op k _ _ _,ho,_=>VM
 | .om k,ho,_=>VM
 | .mp kd kk l,ho,hk=>cP
 | .oc k _ _ _ _,ho,_=>VM
 | .CU k,ho,_=>VM
 | .junk,_,_=>trivial
def ren_okL {ks:aH}{n:aC}:∀(l:aD),(∀k,k∈ownsL l->k∈ks)->AU n l->AU (M ks) (renL ks l)
 | [],_,_=>trivial
 |x::xs,ho,hk=>by
  simp only [renL,AU,ownsL,Bf] at*;exact ⟨ren_ok x (λk hk=>ho k (.inl hk)) hk.1,ren_okL xs (λk hk=>ho k (.inr hk)) hk.2⟩
end
def fA {ks:aH}{β':aC->aXS}{i k:aC}{b:AB}(h:β' i=β k):live β' i (Ip ks b)↔live β k b:=by
 unfold live Ip;cases hb:b.k<;>simp [K5,h]
def pR (N:aC) (ks:aH):aM:=ks.take N==au N
def aH6 {N:aC}{ks:aH}(h:pR N ks=U):N<=M ks/\∀i,i<N->ks[i]? =ah i:=by
 have h:ks.take N=au N:=by simpa [pR] using h
 have hl:=B0 M h
 simp at hl
 refine ⟨A0,λi hi=>?_⟩
 have:=B0 (λl=>l[i]?) h
 simp only [LN,AD hi] at this;rw [this]
 simp [hi]
def RW.ren {N:aC}{ks:aH}{l:aD}(hgh:AN N Z0) (hW:RW G w0 Z0 Z β H w) (hc:Kb H ks l=U) (hn:nodupB ks=U) (hpin:pR N ks=U):
  ∃β',Rn ks β β'/\RW G w0 Z0 Z β' (ks.map λk=>Ip ks<|H.getD k Uu) w:=by
 have hex:∀k,k∈ks->∃b,H[k]? =ah b:=λk hk=>by
  unfold Kb at hc;simp only [AY,BO] at hc
  have:=hc.2 k hk
  cases hb:H[k]? with
  |none=>rw [hb] at this;cases this
  |some b=>exact ⟨b,rfl⟩
 obtain ⟨c1,c2⟩:=T9 hc;refine ⟨λi=>β<|ks.getD i 0,λi k hi=>by simp [List.getD,hi],?_⟩
 have hRn:Rn ks β (λi=>β<|ks.getD i 0):=λi k hi=>by simp [List.getD,hi]
 generalize hβ':(λi=>β<|ks.getD i 0)=β' at hRn|-
 have old:∀i b,(ks.map λk=>Ip ks<|H.getD k Uu)[i]? =ah b->∃k b0,ks[i]? =ah k/\k∈ks/\H[k]? =ah b0/\b=Ip ks b0/\β' i=β k:=λi b hb=>by
  rw [Dr] at hb;cases hk:ks[i]? with
  |none=>simp [hk] at hb
  |some k=>
   have hkm:=Of hk
   grind
 refine ⟨hW.below,hW.Bc,hW.Et,λi b hb hl hp=>?_,λi b hb hl hp=>?_,λi b hb hl=>?_,λi j bi bj hi hj li lj pi e=>?_,λi b hb=>?_,hW.Cy,λp hp=>⟨R.mono (n:=N) (λk hk=>hRn k k<|(aH6 hpin).2 k hk) (λ_ h=>h) (λ_ _=>rfl) _ _ (hgh p hp) (hW.gh p hp).1,okV.mono (by rw [GK];exact (aH6 hpin).1) _<|hgh p hp⟩,hW.Cv⟩
 ·obtain ⟨k,b0,h1,h2,h3,rfl,h5⟩:=old i b hb
  rw [h5];exact hW.Cr k b0 h3 ((fA h5).1 hl) hp
 ·obtain ⟨k,b0,h1,h2,h3,rfl,h5⟩:=old i b hb
  rw [h5];exact hW.GV k b0 h3 ((fA h5).1 hl) hp
 ·obtain ⟨k,b0,h1,h2,h3,rfl,h5⟩:=old i b hb
  rw [h5];exact hW.low k b0 h3<|(fA h5).1 hl
 ·obtain ⟨k,b0,h1,h2,h3,rfl,h5⟩:=old i bi hi
  obtain ⟨k',b1,g1,g2,g3,rfl,g5⟩:=old j bj hj;rw [h5,g5] at e
  have:=hW.inj k k' b0 b1 h3 g3 ((fA h5).1 li) ((fA g5).1 lj) pi e
  subst this;exact aG8 hn i j k h1 g1
 ·obtain ⟨k,b0,h1,h2,h3,rfl,h5⟩:=old i b hb
  obtain ⟨q1,q2⟩:=hW.blk k b0 h3
  have ow:=c2 k b0 h2 h3
  have owc:∀j,j∈ownsL b0.c->j∈ks:=λj hj=>ow j (by unfold AB.owns;exact Bf.2<|.inl hj)
  rw [GK];refine ⟨?_,ren_okL _ owc q2.1,?_⟩
  ·unfold Bb at q1|-
   unfold Ip;cases hbk:b0.k with
   |cl=>
    simp only [hbk,K5] at q1|-;obtain ⟨cs,e1,e2⟩:=q1;exact ⟨cs,aAR,ren_RL hRn _ _ owc q2.1 e2⟩
   |vec e l=>
    simp only [hbk,K5] at q1|-;rw [h5];exact q1
   |mp kd kk vs=>
    simp only [hbk,K5] at q1|-;obtain ⟨es,clock,e1,e2,e3⟩:=q1;exact ⟨es,clock,aAR,e2,ren_RL hRn _ _ (λj hj=>ow j aQJ) (by have:=q2.2;rw [hbk] at this;exact this) e3⟩
   |Cq ps asg body st=>
    simp only [hbk,K5] at q1|-;obtain ⟨r,e1,e2,e3,e4,e5,e6⟩:=q1;exact ⟨r,aAR,e2,e3,e4,e5,ren_RL hRn _ _ owc q2.1 e6⟩
   |st e l=>
    simp only [hbk,K5] at q1|-;rw [h5];exact q1
   |dead=>simp only [K5]
  ·have q22:=q2.2
   unfold Ip;cases hbk:b0.k with
   |mp kd kk vs=>
    simp only [hbk,K5] at q22|-;exact ren_okL _ (λj hj=>ow j aQJ) q22
   |cl=>simp only [K5]
   |vec e l=>simp only [K5]
   |Cq ps asg body st=>simp only [K5]
   |st e l=>simp only [K5]
   |dead=>simp only [K5]
def at_ (i:aC):aH->aD->LV
 |j::js,x::xs=>if i=j then x else at_ i js xs
 |_,_=> .junk
def Qu (live:aH) (vals:aD):aC->aC->List LV
 |0,_=>[]
 |n+1,i=>at_ i live vals::Qu live vals n (i+1)
def HO (n:aC) (live:aH) (vals:aD):aD:=Qu live vals n 0
def aEg (live:aH) (vals:aD):∀n i,M (Qu live vals n i)=n
 |0,_=>rfl
 |n+1,i=>by simp [Qu,aEg live vals n<|i+1]
def aFb (live:aH) (vals:aD):∀n i k,k<n->(Qu live vals n i)[k]? =ah (at_ (i+k) live vals)
 |0,_,k,h=>A0
 |n+1,i,0,_=>by simp [Qu]
 |n+1,i,k+1,h=>by
  simp only [Qu,nJ];rw [aFb live vals n (i+1) k A0]
  grind
def aUs (i:aC):∀(live:aH) (vals:aD),at_ i live vals=.junk\/∃p:aC,live[p]? =ah i/\vals[p]? =ah (at_ i live vals)
 | [],_=> .inl rfl
 |_::_,[]=> .inl rfl
 | j::js,x::xs=>by
  simp only [at_];split
  ·rename_i h;exact .inr ⟨0,oo,AJ⟩
  ·rcases aUs i js xs with h|⟨p,h1,h2⟩
   ·exact .inl h
   ·exact .inr ⟨p+1,A8,A8⟩
def UF (live:aH) (F:aD):aD:=live.map λj=>norm<|F.getD j .junk
def asB {live:aH}(hF:RF ds β Z w n F a):RL β Z w (UF live F) (live.map λj=>a.tmps.getD j undef)/\AU n (UF live F):=by
 have one:∀j,R β Z w (F.getD j .junk) (a.tmps.getD j undef)/\okV n (F.getD j .junk):=λj=>by
  cases hj:F[j]? with
  |none=>simp [List.getD,hj,R,okV]
  |some x=>simp only [List.getD,hj,nG];exact hF.get j x hj
 refine ⟨RL.Cm (by simp [UF]) λi x hx=>?_,AU.Cm λi x hx=>?_⟩
 ·simp only [UF,Dr] at hx|-
  cases hl:live[i]? with
  |none=>simp [hl] at hx
  |some j=>simp [hl] at hx;subst hx;exact ⟨_,AJ,Qw (one j).1⟩
 ·simp only [UF,Dr] at hx
  cases hl:live[i]? with
  |none=>simp [hl] at hx
  |some j=>simp [hl] at hx;subst hx;exact Wh (one j).2
def ard {live:aH}{vals:aD}{N:aC}(hs:a.tmps.size=N) (hd:a.defers=ds/\∀d,d∈ds->∃D,d=H0 D/\Z D/\Fz w D) (h:RL β Z w vals<|live.map λj=>a.tmps.getD j undef) (hk:AU n vals):RF ds β Z w n (HO N live vals) a:=by
 refine ⟨by rw [hs];simp [HO,aEg],λt x hx=>?_,hd⟩
 have ht:t<N:=by have:=(EI.1 hx).1;simpa [HO,aEg] using this
 unfold HO at hx;rw [aFb live _ _ _ t ht] at hx;simp only [Aj,F8] at hx;rcases aUs t live vals with h1|⟨p,h1,h2⟩
 ·rw [hx] at h1;subst h1;exact ⟨KM,ak⟩
 ·rw [hx] at h2
  obtain ⟨y,e1,e2⟩:=RL.get _ _ h h2;simp only [Dr,h1,Jn,Aj] at e1;subst e1;exact ⟨e2,AU.get _ _ hk h2⟩
inductive Up where
 |nl (i:Nat) (t:TypeId) (ty:Ty)
 |pb (i:Nat) (ty:Ty)
 |nc (k j:Nat) (t:TypeId) (ty:Ty)
 |pc (k j:Nat) (ty:Ty)
 |pk (k:Nat)
 |ns (i j:Nat) (t:TypeId) (ty:Ty)
 |ps (i j:Nat) (ty:Ty)
 |mc (k j:Nat)
 |kb (k:Nat)
 |ms (i j:Nat)
def ap5 (F:aD):Up->Up
 | .ns i j t ty=>match F.getD i .junk with
  | .own k _=> .nc k j t ty
  |_=> .ns i j t ty
 | .ps i j ty=>match F.getD i .junk with
  | .own k _=> .pc k j ty
  |_=> .ps i j ty
 | .ms i j=>match F.getD i .junk with
  | .own k _=> .mc k j
  |_=> .ms i j
 |u=>u
def DU:List Up->aD->aG->T (List LV×List AB)
 | [],F,H=> .ok (F,H)
 | .nl i t ty::us,F,H=>match F.getD i .junk with
  | .v (.slice aj 0 0)=>DU us (F.set i<|.os (M H) ty.n 0 0) (H++[⟨[],t,.vec ty [],X⟩])
  |_=>DU us F H
 | .pb i ty::us,F,H=>match F.getD i .junk with
  | .v (.slice aj 0 0)=>DU us (F.set i<|.xl ty []) H
  | .os k es off n=>if Kb H (reach H 64 [k] []) [.os k es off n] then (EX H 6<|.os k es off n).bind λ_=>DU us (F.set i<|C8 H 6<|.os k es off n) (Fw (reach H 64 [k] []) 0 H) else .no
  |_=>DU us F H
 | .nc k j t ty::us,F,H=>match H[k]? with
  |some ⟨c,bt,.cl,X⟩=>(match c[j]? with
   |some (.v (.slice aj 0 0))=>DU us F (H.set k ⟨c.set j<|.os (M H) ty.n 0 0,bt,.cl,X⟩++[⟨[],t,.vec ty [],X⟩])
   |_=>DU us F H)
  |_=>DU us F H
 | .pc k j ty::us,F,H=>match H[k]? with
  |some ⟨c,bt,.cl,X⟩=>(match c[j]? with
   |some (.v (.slice aj 0 0))=>DU us F (H.set k ⟨c.set j<|.xl ty [],bt,.cl,X⟩)
   |some (.os k' es off n)=>if Kb H (reach H 64 [k'] []) [.os k' es off n]&&!(reach H 64 [k'] []).contains k then (EX H 6<|.os k' es off n).bind λ_=>DU us F ((Fw (reach H 64 [k'] []) 0 H).set k ⟨c.set j<|C8 H 6<|.os k' es off n,bt,.cl,X⟩) else .no
   |_=>DU us F H)
  |_=>DU us F H
 | .pk k::us,F,H=>DU us F (Fw (reach H 64 [k] []) 0 H)
 | .kb k::us,F,H=>DU us F (H.set k ⟨[],0,.dead,X⟩)
 | .ns ..::us,F,H=>DU us F H
 | .ps ..::us,F,H=>DU us F H
 | .mc k j::us,F,H=>match H[k]? with
  | some ⟨c,bt,.cl,X⟩=>(match c[j]? with
   |some (.os k' es off n)=>(match H[k']? with
    |some ⟨[],t,.vec e l,X⟩=>DU us F ((H.set k' (⟨[],t,.dead,X⟩:AB)++[(⟨[],t,.vec e l,X⟩:AB)]).set k ⟨c.set j<|.os (M H) es off n,bt,.cl,X⟩)
    |_=>DU us F H)
   |_=>DU us F H)
  |_=>DU us F H
 | .ms ..::us,F,H=>DU us F H
def RL.set':∀ {l:aD}{ys:aT}{j:aC}{x:LV}{y:aV},RL β Z w l ys->ys[j]? =ah y->R β Z w x y->RL β Z w (l.set j x) ys
 | [],ys,j,x,y,h,hy,_=>A8
 |z::l,ys,0,x,y,h,hy,hr=>by
  obtain ⟨y0,zs,rfl,h1,h2⟩:=h
  simp at hy
  subst hy;exact ⟨_,zs,rfl,hr,h2⟩
 |z::l,ys,j+1,x,y,h,hy,hr=>by
  obtain ⟨y0,zs,rfl,h1,h2⟩:=h;exact ⟨y0,zs,rfl,h1,RL.set' h2 A8 hr⟩
def AU.set' {n:aC}:∀ {l:aD}{j:aC}{x:LV},AU n l->okV n x->AU n (l.set j x)
 | [],_,_,h,_=>A8
 |z::l,0,x,h,hx=>⟨hx,h.2⟩
 |z::l,j+1,x,h,hx=>⟨h.1,AU.set' h.2 hx⟩
def RW.tell {k j:aC}{c:aD}{bt:aS}{x:LV}(hW:RW G w0 Z0 Z β H w) (hb:H[k]? =ah ⟨c,bt,.cl,X⟩) (hx:∀y,(∃z,c[j]? =ah z/\R β Z w z y)->R β Z w x y) (hj:∃z,c[j]? =ah z) (hok:okV (M H) x):RW G w0 Z0 Z β (H.set k ⟨c.set j x,bt,.cl,X⟩) w:=by
 obtain ⟨h1,h2⟩:=hW.blk k _ hb;obtain ⟨cs,g1,g2⟩:=h1;obtain ⟨z,hz⟩:=hj;obtain ⟨y,q1,q2⟩:=RL.get j z g2 hz;refine hW.set hb trivial rfl rfl ⟨AU.set' h2.1 hok,ak⟩ rfl ⟨rfl,rfl,rfl⟩ (λ_ _=>rfl) ?_
 exact ⟨cs,g1,RL.set' g2 q1<|hx y ⟨z,hz,q2⟩⟩
def Jt:∀(us:List Up) (F:aD) (H:aG) (Z:aC->Prop) (β:aC->aXS) (F1:aD) (H1:aG),RW G w0 Z0 Z β H w->RF ds β Z w (M H) F a->(DU us F H).all (λq=>q=(F1,H1))->∃Z' β',RW G w0 Z0 Z' β' H1 w/\RF ds β' Z' w (M H1) F1 a/\M F1=M F
 | [],F,H,Z,β,F1,H1,hW,hF,h=>by
  simp only [DU,T.all,Az] at h;obtain ⟨rfl,rfl⟩:=h;exact ⟨Z,β,hW,hF,rfl⟩
 | .nl i t ty::us,F,H,Z,β,F1,H1,hW,hF,h=>by
  simp only [DU] at h;split at h
  ·rename_i hx
   obtain ⟨s1,s2⟩:=hF.slot hx AJ
   have hv:=(hF.get i _ s1).1
   simp only [R] at hv;obtain ⟨β',b1,b2,b3⟩:=hW.Kr (ℓ:=⟨w.heap.size,0,aj⟩) (nb:=⟨[],t,.vec ty [],X⟩) rfl ⟨ak,ak⟩ (λhl=>absurd rfl hl) λβ' g1 g2=>aAP
   have hF1:RF ds β' Z w (M<|H++[(⟨[],t,.vec ty [],X⟩:AB)]) F a:=hF.mono AJ b1 (λ_ h=>h) λ_ _=>rfl
   obtain ⟨Z2,β2,c1,c2,c3⟩:=Jt us (F.set i<|.os (M H) ty.n 0 0) _ Z β' F1 H1 b3 (hF1.know (by simp only [R,b2];exact ⟨ak,ak,hv⟩) MN) h
   exact zu
  ·exact Oj
 | .pb i ty::us,F,H,Z,β,F1,H1,hW,hF,h=>by
  simp only [DU] at h;split at h
  ·rename_i hx
   obtain ⟨s1,s2⟩:=hF.slot hx AJ
   have hv:=(hF.get i _ s1).1
   simp only [R] at hv;obtain ⟨Z2,β2,c1,c2,c3⟩:=Jt us (F.set i<|.xl ty []) H Z β F1 H1 hW (hF.know (by simp only [R];exact ⟨aj,0,hv,Au _,λh=>by simp at h⟩) trivial) h
   exact zu
  ·rename_i k es off n hx
   split at h
   ·rename_i hcl
    obtain ⟨s1,s2⟩:=hF.slot hx AJ
    have hv:=hF.get i _ s1
    obtain ⟨_,hg,h2⟩:=T.B7 h
    have hG:GX H 6 (.os k es off n):=T.BQ (K':=λ_=>True) (λ_ _=>trivial) hg
    obtain ⟨q1,q2⟩:=T9 hcl
    have hP:=hW.pub<|reach H 64 [k] []
    have hH:=λk b hb=>(hW.blk k b hb).2
    have hr:=Mf (S:=λj=>j∈reach H 64 [k] []) hW q2 6 _ _ hG (λj hj=>q1 j aR1) hv.2 hv.1
    have hF1:RF ds β (ZP Z β H λj=>j∈reach H 64 [k] []) w (M<|Fw (reach H 64 [k] []) 0 H) F a:=by
     exact aOg
    obtain ⟨Z2,β2,c1,c2,c3⟩:=Jt us (F.set i<|C8 H 6<|.os k es off n) _ _ β F1 H1 hP (hF1.know hr<|okV.mono (N9 _) _<|Qj H hH 6 _ hv.2) h2;exact zu
   ·cases h
  ·exact Oj
 | .nc k j t ty::us,F,H,Z,β,F1,H1,hW,hF,h=>by
  simp only [DU] at h;split at h
  ·rename_i c bt hb
   split at h
   ·rename_i hj
    have hkl:k<M H:=(EI.1 hb).1
    obtain ⟨β',b1,b2,b3⟩:=hW.Kr (ℓ:=⟨w.heap.size,0,aj⟩) (nb:=⟨[],t,.vec ty [],X⟩) rfl ⟨ak,ak⟩ (λhl=>absurd rfl hl) λβ' g1 g2=>aAP
    have hb':(H++[(⟨[],t,.vec ty [],X⟩:AB)])[k]? =ah ⟨c,bt,.cl,X⟩:=by rw [I1 hkl];exact hb
    have hT:=b3.tell (j:=j) (x:=.os (M H) ty.n 0 0) hb' (λy ⟨z,hz,hr⟩=>by
     rw [hj] at hz
     have:=Ej hz
     subst this;simp only [R] at hr;simp only [R,b2];exact ⟨ak,ak,hr⟩) ⟨_,hj⟩ MN
    rw [List.set_append_left _ _ hkl] at hT
    have hF1:RF ds β' Z w (M<|H.set k ⟨c.set j<|.os (M H) ty.n 0 0,bt,.cl,X⟩++[(⟨[],t,.vec ty [],X⟩:AB)]) F a:=hF.mono AJ b1 (λ_ h=>h) λ_ _=>rfl
    exact Jt us F _ Z β' F1 H1 hT hF1 h
   ·exact Oj
  ·exact Oj
 | .pc k j ty::us,F,H,Z,β,F1,H1,hW,hF,h=>by
  simp only [DU] at h;split at h
  ·rename_i c bt hb
   split at h
   ·rename_i hj
    have hT:=hW.tell (j:=j) (x:=.xl ty []) hb (λy ⟨z,hz,hr⟩=>by
     rw [hj] at hz
     have:=Ej hz
     subst this;simp only [R] at hr|-;exact ⟨aj,0,hr,Au _,λh=>by simp at h⟩) ⟨_,hj⟩ trivial
    exact Jt us F _ Z β F1 H1 hT (hF.mono AJ (λ_ _=>rfl) (λ_ h=>h) λ_ _=>rfl) h
   ·rename_i k' es off n hj
    split at h
    ·rename_i hcl
     simp only [AY,DB] at hcl;obtain ⟨hcl,hnk⟩:=hcl;obtain ⟨_,hg,h2⟩:=T.B7 h
     have hG:GX H 6 (.os k' es off n):=T.BQ (K':=λ_=>True) (λ_ _=>trivial) hg
     obtain ⟨q1,q2⟩:=T9 hcl
     have hP:=hW.pub<|reach H 64 [k'] []
     have hH:=λk b hb=>(hW.blk k b hb).2
     have hok:okV (M H) (.os k' es off n):=AU.get j _ (hH k _ hb).1 hj
     have hb':(Fw (reach H 64 [k'] []) 0 H)[k]? =ah ⟨c,bt,.cl,X⟩:=by
      rw [eX,hb];simp only [Jn,F8,hnk];rfl
     have hT:=hP.tell (j:=j) (x:=C8 H 6<|.os k' es off n) hb' (λy ⟨z,hz,hr⟩=>by
      rw [hj] at hz
      have:=Ej hz
      subst this
      have hr':R β Z w (.os k' es off n) y:=by simpa only [R] using hr
      exact Mf (S:=λj=>j∈reach H 64 [k'] []) hW q2 6 _ _ hG (λj hj=>q1 j aR1) hok hr') ⟨_,hj⟩<|okV.mono (N9 _) _<|Qj H hH 6 _ hok
     exact Jt us F _ _ β F1 H1 hT (hF.mono (by simp [KP]) (λ_ _=>rfl) (λ_ h=> .inl h) λ_ _=>rfl) h2
    ·cases h
   ·exact Oj
  ·exact Oj
 | .pk k::us,F,H,Z,β,F1,H1,hW,hF,h=>by
  simp only [DU] at h
  have hP:=hW.pub<|reach H 64 [k] []
  have hF1:RF ds β (ZP Z β H λj=>j∈reach H 64 [k] []) w (M<|Fw (reach H 64 [k] []) 0 H) F a:=by
   exact aOg
  exact Jt us F _ _ β F1 H1 hP hF1 h
 | .kb k::us,F,H,Z,β,F1,H1,hW,hF,h=>Jt us F _ Z β F1 H1 (hW.kill k 0) (hF.mono AJ (λ_ _=>rfl) (λ_ h=>h) λ_ _=>rfl) oT
 | .mc k j::us,F,H,Z,β,F1,H1,hW,hF,h=>by
  simp only [DU] at h;split at h
  ·rename_i c bt hb
   split at h
   ·rename_i k' es off n hj
    split at h
    ·rename_i t e l hk'
     have hkk:k≠k':=λq=>by subst q;rw [hb] at hk';simp at hk'
     have hK:=hW.kill k' t
     obtain ⟨β',b1,b2,b3⟩:=hK.Kr (ℓ:=β k') (nb:=⟨[],t,.vec e l,X⟩) rfl ⟨ak,ak⟩ (λhl=>by
       have hl':live β k' (⟨[],t,.vec e l,X⟩:AB):=hl
       refine ⟨hW.Cr k' _ hk' hl' rfl,hW.low k' _ hk' hl',λi bi hi li e=>?_⟩
       rw [IY] at hi;split at hi
       ·split at hi
        ·simp only [Aj] at hi;subst hi;exact li
        ·cases hi
       ·rename_i hne
        exact hne<|hW.inj k' i _ _ hk' hi hl' li rfl e.symm) (λβ' g1 g2=>by
       have:=(hW.blk k' _ hk').1
       simp only [Bb] at this|-;rw [g2];exact this)
     simp only [C4] at b1 b2
     have hlen:M (H.set k' ⟨[],t,.dead,X⟩++[(⟨[],t,.vec e l,X⟩:AB)])=M H+1:=AJ
     have hb':(H.set k' ⟨[],t,.dead,X⟩++[(⟨[],t,.vec e l,X⟩:AB)])[k]? =ah ⟨c,bt,.cl,X⟩:=by
      have hkl:k<M H:=(EI.1 hb).1
      rw [I1<|by simpa using hkl,Zq<|KL hkk]
      exact hb
     have hk'l:k'<M H:=(EI.1 hk').1
     have hT:=b3.tell (j:=j) (x:=.os (M H) es off n) hb' (λy ⟨z,hz,hr⟩=>by
      rw [hj] at hz
      have:=Ej hz
      subst this;simp only [R] at hr|-;rw [b1 k' hk'l] at hr;rw [b2];exact hr) ⟨_,hj⟩ (by rw [hlen];exact bM _)
     have hF1:RF ds β' Z w (M<|(H.set k' ⟨[],t,.dead,X⟩++[(⟨[],t,.vec e l,X⟩:AB)]).set k ⟨c.set j<|.os (M H) es off n,bt,.cl,X⟩) F a:=hF.mono AJ b1 (λ_ h=>h) λ_ _=>rfl
     exact Jt us F _ Z β' F1 H1 hT hF1 h
    ·exact Oj
   ·exact Oj
  ·exact Oj
 | .ms ..::us,F,H,Z,β,F1,H1,hW,hF,h=>Jt us F H Z β F1 H1 hW hF oT
 | .ns ..::us,F,H,Z,β,F1,H1,hW,hF,h=>Jt us F H Z β F1 H1 hW hF oT
 | .ps ..::us,F,H,Z,β,F1,H1,hW,hF,h=>Jt us F H Z β F1 H1 hW hF oT
def yT (H:aG):LV->T LV
 | .os k es off n=>match H[k]? with
  |some ⟨_,_,.vec _ l,_⟩=> .req (off=0/\n=M l) (.ok<|.os k es 0<|M l)
  |_=> .ok (.os k es off n)
 |x=> .ok x
def Vh (H:aG):aD->T (List LV)
 | []=> .ok []
 |x::xs=>(yT H x).bind λy=>(Vh H xs).bind λys=> .ok (y::ys)
def avf {x y:LV}(h:(yT H x).all λz=>z=y):y=x:=by
 unfold yT at h;split at h
 ·split at h
  ·simp only [T.all] at h
   obtain ⟨⟨rfl,rfl⟩,h⟩:=h;exact h.symm
  ·exact h.symm
 ·exact h.symm
def fm:∀ {l l':aD},(Vh H l).all (λz=>z=l')->l'=l
 | [],l',h=>h.symm
 |x::xs,l',h=>by
  obtain ⟨y,h1,h2⟩:=T.B7 h;obtain ⟨ys,h3,h4⟩:=T.B7 h2;rw [<-h4,avf h1,fm h3]
def dG (H:aG):aG->T (List AB)
 | []=> .ok []
 |b::bs=>(Vh H b.c).bind λc=>(dG H bs).bind λcs=> .ok (⟨c,b.t,b.k,b.p⟩::cs)
def gC:∀ {l l':aG},(dG H l).all (λz=>z=l')->l'=l
 | [],l',h=>h.symm
 |b::bs,l',h=>by
  obtain ⟨c,h1,h2⟩:=T.B7 h;obtain ⟨cs,h3,h4⟩:=T.B7 h2;rw [<-h4,fm h1,gC h3]
structure Vw where
 ex:Ex
 len:aC
 vals:aD
 JX:aG
 low:aM
def Vj (N:aC) (H:aG) (vals:aD):aH:=reach H 400 (ownsL vals++(H.take N).flatMap AB.owns)<|au N
def apg (N:aC) (live:aH) (x:Ex) (n:aC) (F:aD) (H:aG):T Vw:=
 (Vh H<|UF live F).bind λvals=>(dG H<|(Vj N H vals).map λk=>H.getD k Uu).bind λbs=>
  .ok ⟨x,n,renL (Vj N H vals) vals,bs.map<|Ip<|Vj N H vals,
   Kb H (Vj N H vals) vals&&nodupB (Vj N H vals)&&pR N (Vj N H vals)⟩
def GW (N:aC) (live:aH) (us:List Up) (x:Ex) (F:aD) (H:aG):T Vw:=(DU (us.map<|ap5 F) F H).bind λq=>apg N live x (M F) q.1 q.2
def eM {N:aC}{live:aH}{us:List Up}{x:Ex}{v:Vw}(hgh:AN N Z0) (hW:RW G w0 Z0 Z β H w) (hF:RF ds β Z w (M H) F a) (h:(GW N live us x F H).all λz=>z=v) (hl:v.low=U):
  v.ex=x/\v.len=M F/\∃Z' β',RW G w0 Z0 Z' β' v.JX w/\RF ds β' Z' w (M v.JX) (HO (M F) live v.vals) a:=by
 obtain ⟨⟨F1,H1⟩,h0,h⟩:=T.B7 h;obtain ⟨Z1,β1,c1,c2,c3⟩:=Jt _ F H Z β F1 H1 hW hF h0;obtain ⟨vals,h1,h2⟩:=T.B7 h;obtain ⟨bs,h2b,h2⟩:=T.B7 h2
 have h3:=fm h1
 have h4:=gC h2b
 subst h3;subst h4;rw [HM] at h2;subst h2;refine ⟨rfl,rfl,?_⟩;simp only [AY] at hl;obtain ⟨β2,d1,d2⟩:=c1.ren hgh hl.1.1 hl.1.2 hl.2;obtain ⟨v1,v2⟩:=asB (live:=live) c2;obtain ⟨k1,_⟩:=T9 hl.1.1;refine ⟨Z1,β2,d2,ard (by rw [hF.size]) c2.defers (ren_RL d1 _ _ k1 v2 v1) ?_⟩
 rw [GK];exact ren_okL _ k1 v2
inductive Rd (σ:Type) where
 |next (s:σ)
 |stop (x:Ex) (s:σ)
def rdV {σ:Type}(n:aC) (A:σ->aD) (B:σ->aG):Rd σ->Vw
 | .next s'=>⟨.normal,n,A s',B s',U⟩
 | .stop x s'=>⟨x,n,A s',B s',U⟩
structure Sc {α:Type} (K:α->Prop) (t:T α):Prop where
 out:t.all K
def Dc {σ:Type}(f:σ->Rd σ):aC->σ->Ex×σ
 |0,s=>(.ret,s)
 |k+1,s=>match f s with
  | .next s'=>Dc f k s'
  | .stop x s'=>(x,s')
def aGM {σ:Type}{f:σ->Rd σ}{μ:σ->aC}{I:σ->Prop}(hd:∀s s',I s->f s=.next s'->I s'/\μ s'<μ s):∀(k:aC) (s:σ),I s->μ s<k->∃s',I s'/\f s'=.stop (Dc f k s).1 (Dc f k s).2
 |0,s,_,h=>A0
 | k+1,s,hi,hk=>by
  simp only [Dc];cases hf:f s with
  |next s'=>
   obtain ⟨h1,h2⟩:=hd s s' hi hf;exact aGM hd k s' h1 A0
  |stop x s'=>exact ⟨s,hi,hf⟩
def T.agree {α:Type}{K:α->Prop}{p:α}:∀ {t:T α},t.all (λx=>x=p)->t.all K->K p
 | .ok _,h,hk=>by simp only [T.all] at h hk;exact h▸hk
 | .br b t e,h,hk=>by
  cases b with
  |true=>exact T.agree (h.1 rfl) (hk.1 rfl)
  |false=>exact T.agree (h.2 rfl) (hk.2 rfl)
 | .req _ t,h,hk=>T.agree h.2 hk.2
 | .no,_,h=>As
def aCT {σ:Type}(N n:aC) (live:aH) (us:List Up) (sel:aD->aG->T σ) (out:σ->T (Ex×List LV×List AB)) (F:aD) (H:aG):T (Ex×List LV×List AB):=
 if M F=n then ((GW N live us .normal F H).bind λv=>if v.low then sel v.vals v.JX else .no).bind out else .no
def Y3 (N:aC) (live:aH) (us:List Up) (t:T<|Ex×List LV×List AB):T Vw:=t.bind λq=>GW N live us q.1 q.2.1 q.2.2
def gI:LV->Int
 | .v (.int _ n)=>n
 | .ki _ n=>n
 |_=>0
def gBo:LV->Bool
 | .v (.bool b)=>b
 | .bl b=>b
 |_=>X
def gSr:LV->ByteArray
 | .v (.string s)=>s
 |_=>ByteArray.empty
def HJ:LV->Value
 | .v y=>y
 |_=>undef
def Ar (e:Ty) (x:LV):List e.D:=(N3 e x).getD []
def EF (x:LV) (j:aC):LV:=
 match x with
 | .v (.agg ys)=> .v (ys.toList.getD j undef)
 | .agg l=>l.getD j .junk
 | .v (.tuple ys)=> .v (ys.toList.getD j undef)
 | .AQ l=>l.getD j .junk
 |_=> .junk
def gFn (x:LV) (j:aC):LV:=
 match x with
 | .fn _ l=>l.getD j .junk
 | .fb _ l=>l.getD j .junk
 |_=> .junk
def BV (x:LV) (j:aC):LV:=
 match x with
 | .xq _ f=>f j
 |_=> .junk
def Cc (H:aG) (k:aC):AB:=H.getD k ⟨[],0,.dead,X⟩
def BD (b:AB) (j:aC):LV:=b.c.getD j .junk
def gVe (e:Ty) (b:AB):List e.D:=
 match b.k with
 | .vec e' l=>(match K7 e' e with
  |some ⟨h⟩=>Kq h l
  |none=>[])
 |_=>[]
def AL (v:aD) (k:aC):Y:=gI<|v.getD k .junk
def EB (v:aD) (k:aC):aM:=gBo<|v.getD k .junk
def B1 (e:Ty) (v:aD) (k:aC):List e.D:=Ar e<|v.getD k .junk
def Am (b:aG) (k j:aC):Y:=gI<|BD (Cc b k) j
def cgB (b:aG) (k j:aC):aM:=gBo<|BD (Cc b k) j
def AF (e:Ty) (b:aG) (k j:aC):List e.D:=Ar e<|BD (Cc b k) j
def Ab (e:Ty) (b:aG) (k:aC):List e.D:=gVe e<|Cc b k
def gSe (e:Ty) (b:AB):List e.D:=
 match b.k with
 | .st e' l=>(match K7 e' e with
  |some ⟨h⟩=>Kq h l
  |none=>[])
 |_=>[]
def aN8 {σ:Type}(E:σ->Prop) (A:σ->aD) (B:σ->aG) (s:σ) (vals:aD) (JX:aG):T σ:=.req (E s/\vals=A s/\JX=B s)<|.ok s
def atp {σ:Type}{E:σ->Prop}{A:σ->aD}{B:σ->aG}{s0 s:σ}{vals:aD}{JX:aG}(h:(aN8 E A B s0 vals JX).all λx=>x=s):E s/\vals=A s/\JX=B s:=by
 obtain ⟨h1,rfl⟩:=h;exact h1
def aq8 {σ:Type}(N n:aC) (live:aH) (us:List Up) (A:σ->aD) (B:σ->aG) (I E:σ->Prop) (μ:σ->aC) (f:σ->Rd σ) (sel:aD->aG->T σ) (out:σ->T (Ex×List LV×List AB)) {b:bB}{t:aD->aG->T (Ex×List LV×List AB)}(hb:Gx P G (AN N) b t)
  (hsel:∀vals JX s,(sel vals JX).all (λx=>x=s)->E s/\vals=A s/\JX=B s) (hEI:∀s,E s->I s)
  (hd:∀s s',I s->f s=.next s'->I s'/\μ s'<μ s)
  (hne:∀s x s',f s=.stop x s'->x≠ .normal)
  (step':∀s,I s->Sc (λv=>v=rdV n A B (f s)) (Y3 N live us<|t (HO n live<|A s)<|B s))
  (hout:∀s,E s->(out s).all λq=>q=((Dc f (μ s+1) s).1,HO n live<|A (Dc f (μ s+1) s).2,B (Dc f (μ s+1) s).2)):
  Gx P G (AN N) (.loop b) (aCT N n live us sel out):=by
 intro r w0 Z0 Z β F H a w ds Q x F' H' hgh hr hD hW hF h hQ;unfold aCT at h;split at h
 ·rename_i hlen
  obtain ⟨s,h0,h2⟩:=T.B7 h;obtain ⟨v,hv,h1⟩:=T.B7 h0;split at h1
  ·rename_i hlow
   obtain ⟨hE,hvv,hbk⟩:=hsel _ _ s h1
   have h2:=T.agree h2<|hout s hE
   obtain ⟨_,_,Z1,β1,hW1,hF1⟩:=eM hgh hW hF hv hlow;refine wpIn_loop_rounds (μ s+1) ?_
   have key:∀(k:aC) (s:σ) (ds:aXR) (Z:aC->Prop) (β:aC->aXS) (a:bg) (w:aO),I s->μ s<k->M6 w0 Z0 ds->RW G w0 Z0 Z β (B s) w->RF ds β Z w (M<|B s) (HO n live<|A s) a->
     (∀ds' Z' β' a' w',M6 w0 Z0 ds'->RW G w0 Z0 Z' β' (B (Dc f k s).2) w'->RF ds' β' Z' w' (M<|B (Dc f k s).2) (HO n live<|A (Dc f k s).2) a'->Q (yP (Dc f k s).1) a' w')->Code.roundsIn (Dy r) 0 P b Q k a w:=by
    intro k
    induction k with
    |zero=>intro s ds Z β a w _ h;omega
    | succ k ih=>
     intro s ds Z β a w hI hm hD hW hF hQ;obtain ⟨v,h1,h2⟩:=T.pick (step' s hI).out;obtain ⟨⟨x,F1,H1⟩,h3,h4⟩:=T.B7 h2;refine hb r w0 Z0 Z β _ (B s) a w ds _ x F1 H1 hgh hr hD hW hF h3 λds' Z' β' a' w' e0 e1 e2=>?_
     cases hf:f s with
     |next s'=>
      rw [hf] at h1;subst h1;obtain ⟨g1,g2,Z2,β2,k1,k2⟩:=eM hgh e1 e2 h4 rfl;subst g1;obtain ⟨i1,i2⟩:=hd s s' hI hf;rw [<-g2] at k2;refine ih s' ds' Z2 β2 a' w' i1 A0 e0 k1 k2 ?_
      have:Dc f (k+1) s=Dc f k s':=by simp only [Dc,hf]
      rw [this] at hQ;exact hQ
     |stop y s'=>
      rw [hf] at h1;subst h1;obtain ⟨g1,g2,Z2,β2,k1,k2⟩:=eM hgh e1 e2 h4 rfl;subst g1
      have hn:=hne s y s' hf
      rw [<-g2] at k2
      have:Dc f (k+1) s=(y,s'):=by simp only [Dc,hf]
      rw [this] at hQ
      have hq:=hQ ds' Z2 β2 a' w' e0 k1 k2
      cases y with
      |normal=>exact absurd rfl hn
      |exit k=>exact hq
      |ret=>exact hq
   grind
  ·cases h1
 ·cases h
def DF {σ:Type}(Pn:σ->Prop) (Ps:Ex->σ->Prop):Rd σ->Prop
 | .next s=>Pn s
 | .stop x s=>Ps x s
def AH {σ:Type}{Pn:σ->Prop}{Ps:Ex->σ->Prop}{c:aM}{x y:Rd σ}(h1:c=U->DF Pn Ps x) (h2:c=X->DF Pn Ps y):DF Pn Ps (if c=U then x else y):=by
 cases c with
 |true=>exact h1 rfl
 |false=>exact h2 rfl
def aqR {σ:Type}{Pn:σ->Prop}{Ps:Ex->σ->Prop}{r:Rd σ}(h:DF Pn Ps r) {s:σ}(e:r=.next s):Pn s:=by subst e;exact h
def eR {σ:Type}{Pn:σ->Prop}{Ps:Ex->σ->Prop}{r:Rd σ}(h:DF Pn Ps r) {x:Ex}{s:σ}(e:r=.stop x s):Ps x s:=by subst e;exact h
def Bj:Ex->Ex->Bool
 | .normal,.normal=>U
 | .ret,.ret=>U
 | .exit n,.exit m=>n==m
 |_,_=>X
def aHJ {S Y:Type}{f:S->Rd S}{I:S->Prop}{μ:S->aC}{V:S->Y}{Q:Ex->S->Y->Prop}(hd:∀s s',I s->f s=.next s'->I s'/\μ s'<μ s) (hv:∀s,I s->DF (λs'=>V s'=V s) (λx s'=>Q x s'<|V s) (f s)):∀(k:aC) (s:S),I s->μ s<k->Q (Dc f k s).1 (Dc f k s).2 (V s)
 |0,s,_,h=>A0
 | k+1,s,h,hk=>by
  have h2:=hv s h
  simp only [Dc];cases e:f s with
  |next s'=>
   rw [e] at h2;obtain ⟨d1,d2⟩:=hd s s' h e
   have:=aHJ hd hv k s' d1 A0
   rwa [show V s=V s' from h2.symm]
  |stop x s'=>
   rw [e] at h2;exact h2
def T.rd {σ:Type}(s:σ):T (Rd σ)->Rd σ
 | .ok x=>x
 | .br b x y=>if b=U then x.rd s else y.rd s
 | .req _ x=>x.rd s
 | .no=> .next s
def T.mp {α β:Type}(k:α->β):T α->T β
 | .ok x=> .ok (k x)
 | .br b x y=> .br b (x.mp k) (y.mp k)
 | .req p x=> .req p (x.mp k)
 | .no=> .no
def T.Xb {α β:Type}{k:α->β}{K:β->Prop}:∀ {t:T α},t.all (λx=>K<|k x)->(t.mp k).all K
 | .ok _,h=>h
 | .br _ _ _,h=>⟨λc=>T.Xb<|h.1 c,λc=>T.Xb<|h.2 c⟩
 | .req _ _,h=>⟨h.1,T.Xb h.2⟩
 | .no,h=>h
def T.iF {σ:Type}{s:σ}:∀ {t:T<|Rd σ},t.all (λ_=>True)->t.all (λx=>x=t.rd s)
 | .ok _,_=>rfl
 | .br b _ _,h=>by
  cases b with
  |true=>exact ⟨λc=>T.iF<|h.1 c,λc=>DP⟩
  |false=>exact ⟨λc=>DP,λc=>T.iF<|h.2 c⟩
 | .req _ _,h=>⟨h.1,T.iF h.2⟩
 | .no,h=>h
def T.UC {σ:Type}{s:σ}{k:Rd σ->Rd σ}(h0:k (.next s)=.next s):∀ {t:T<|Rd σ},t.mp k=t->k (t.rd s)=t.rd s
 | .ok x,h=>by
  simp only [T.mp,T.ok.injEq] at h;simp only [T.rd,h]
 | .br b x y,h=>by
  simp only [T.mp,T.br.injEq,Em] at h;simp only [T.rd];split
  ·exact T.UC h0 h.1
  ·exact T.UC h0 h.2
 | .req _ x,h=>by
  simp only [T.mp,T.req.injEq,Em] at h;exact T.UC (t:=x) h0 h
 | .no,_=>h0
structure AR (σ:Type) where
 (N n:aC)
 lv:aH
 us:List Up
 A:σ->List LV
 B:σ->List AB
 g:aD->aG->σ
 t:σ->T (Rd σ)
 kp:σ->σ->σ
 rd:σ->σ
 fx:Ex->σ->σ
 xs:aYh
 (E I:σ->Prop)
 mu:σ->Nat
def outT {β:Type}(e:Ex) (k:Ex->β):aYh->T β
 | []=> .no
 | [x]=> .ok (k x)
 |x::y::xs=> .br (Bj e x) (.ok<|k x)<|outT e k (y::xs)
def Wj:∀ {x y:Ex},Bj x y=U->x=y
 | .normal,.normal,_=>rfl
 | .ret,.ret,_=>rfl
 | .exit _,.exit _,h=>by simpa [Bj] using h
def aH7 {β:Type}{e:Ex}{k:Ex->β}:∀ {xs:aYh},xs.any (Bj e)=U->(outT e k xs).all (λq=>q=k e)
 | [],h=>As
 | [x],h=>by
  simp only [bE,nh,Bool.or_false] at h;rw [Wj h];rfl
 |x::y::xs,h=>by
  refine ⟨λc=>?_,λc=>aH7 ?_⟩
  ·rw [Wj c];rfl
  ·grind
def exB {σ:Type}(xs:aYh):T (Rd σ)->Bool
 | .ok (.next _)=>U
 | .ok (.stop x _)=>xs.any (Bj x)&&!Bj x .normal
 | .br _ x y=>exB xs x&&exB xs y
 | .req _ x=>exB xs x
 | .no=>U
def XT {σ:Type}{xs:aYh}{s s':σ}{x:Ex}:∀ {t:T<|Rd σ},exB xs t=U->t.rd s=.stop x s'->xs.any (Bj x)=U/\x≠ .normal
 | .ok (.next _),_,h=>As
 | .ok (.stop y _),h,e=>by
  simp only [T.rd,Rd.stop.injEq] at e;simp only [exB,AY,DB] at h;rw [e.1] at h;refine ⟨h.1,λe=>?_⟩
  rw [e] at h;exact absurd h.2 (by simp [Bj])
 | .br b x y,h,e=>by
  simp only [exB,AY] at h;simp only [T.rd] at e;split at e
  ·exact XT h.1 e
  ·exact XT h.2 e
 | .req _ x,h,e=>XT (t:=x) h e
 | .no,_,h=>As
namespace AR
variable {σ : Type} (D : AR σ)
def f (s:σ):Rd σ:=(D.t s).rd s
def run (s:σ):σ:=D.kp s (Dc D.f (D.mu s+1) s).2
def At (s:σ):Ex:=(Dc D.f (D.mu s+1) s).1
def sel (vals:aD) (JX:aG):T σ:=aN8 D.E D.A D.B (D.g vals JX) vals JX
def out (s:σ):T (Ex×List LV×List AB):=outT (D.At s) (λx=>(x,HO D.n D.lv<|D.A<|D.fx x<|D.run s,D.B<|D.fx x<|D.run s)) D.xs
def lp:aD->aG->T (Ex×List LV×List AB):=aCT D.N D.n D.lv D.us D.sel D.out
def q (s:σ):Prop:=D.E s/\D.A s=D.A s/\D.B s=D.B s
def Iu (s:σ):Rd σ->Rd σ
 | .next s'=> .next (D.kp s s')
 | .stop x s'=> .stop x<|D.kp s s'
def fxR:Rd σ->Rd σ
 | .next s'=> .next s'
 | .stop x s'=> .stop x<|D.fx x s'
structure Ok:Prop where
 keep:∀s,(D.t (D.rd s)).mp (D.Iu (D.rd s))=D.t (D.rd s):=by intro s;kernel_rfl
 fix:∀s,D.I (D.rd s)->DF (λ_=>True) (λx s'=>D.fx x s'=s') ((D.t (D.rd s)).rd (D.rd s)):=by intro s _;exact AR.anE _ (by kernel_rfl)
 anu:∀s,D.kp s s=s:=by intros;rfl
 ant:∀s t r,D.kp (D.kp s t) r=D.kp s r:=by intros;rfl
 fx0:∀s,D.fx .normal (D.rd s)=D.rd s:=by intros;rfl
 exs:∀s,exB D.xs (D.t s)=true:=by intro s;kernel_rfl
def anE {s:σ}(h:(D.t s).mp D.fxR=D.t s):DF (λ_=>True) (λx s'=>D.fx x s'=s') ((D.t s).rd s):=by
 have hx:=T.UC (s:=s) (by simp only [fxR]) h
 cases hf:(D.t s).rd s with
 |next s'=>exact ak
 |stop x s'=>
  rw [hf] at hx;simp only [fxR,Rd.stop.injEq,Em] at hx;exact hx
structure Pf (Q:Ex->σ->σ->Prop):Prop where
 ei:∀s,D.E s->D.I s
 rdy:∀s,D.I s->D.rd s=s
 da:∀s,D.I s->DF (λs'=>D.I s'/\D.mu s'<D.mu s) (λx s'=>Q x s s') (D.f s)
 rq:∀s,D.I s->(D.t s).all (λ_=>True)
variable {D} {Q : Ex -> σ -> σ -> Prop}
def Pf.nx (p:D.Pf Q) (s s':σ) (h:D.I s) (e:D.f s=.next s'):D.I s'/\D.mu s'<D.mu s:=aqR (p.da s h) e
def kept (o:D.Ok) (p:D.Pf Q):∀(k:aC) (s:σ),D.I s->D.mu s<k->D.kp s (Dc D.f k s).2=(Dc D.f k s).2/\D.fx (Dc D.f k s).1 (Dc D.f k s).2=(Dc D.f k s).2/\D.xs.any (Bj (Dc D.f k s).1)=U
 |0,_,_,h=>A0
 | k+1,s,hI,hk=>by
  have h1:=o.keep s
  have h2:=o.fix s
  have h0:=o.fx0 s
  rw [p.rdy s hI] at h0 h1 h2
  have hl:=T.UC (s:=s) (by simp only [Iu,o.anu]) h1
  have hx:=h2 hI
  change D.Iu s (D.f s)=D.f s at hl
  simp only [Dc];cases hf:D.f s with
  |next s'=>
   rw [hf] at hl;simp only [Iu,Rd.next.injEq] at hl;obtain ⟨h1,h2⟩:=p.nx s s' hI hf;obtain ⟨h3,h4⟩:=kept o p k s' h1 A0;refine ⟨?_,h4⟩
   have e:=o.ant s s' (Dc D.f k s').2
   rw [hl,h3] at e;exact e.symm
  |stop x s'=>
   have hx:=eR hx hf
   rw [hf] at hl;simp only [Iu,Rd.stop.injEq,Em] at hl;exact ⟨hl,hx,(XT (o.exs s) hf).1⟩
def run_eq (o:D.Ok) (p:D.Pf Q) {s:σ}(hE:D.E s):(Dc D.f (D.mu s+1) s).2=D.run s:=(kept o p _ s (p.ei s hE)<|bM _).1.symm
def end_ (o:D.Ok) (p:D.Pf Q) (s:σ) (hE:D.E s):∃s',D.I s'/\D.f s'=.stop (D.At s) (D.run s):=by
 rw [<-run_eq o p hE];exact aGM p.nx (D.mu s+1) s (p.ei s hE)<|bM _
def fin (o:D.Ok) (p:D.Pf Q) (s:σ) (hE:D.E s):∃s',D.I s'/\Q (D.At s) s' (D.run s):=by
 obtain ⟨s',hI,hf⟩:=end_ o p s hE;exact ⟨s',hI,eR (p.da s' hI) hf⟩
def snd (o:D.Ok) (p:D.Pf Q) {b:bB}{t:aD->aG->T (Ex×List LV×List AB)}(hb:Gx P G (AN D.N) b t)
  (hn:∀s,Y3 D.N D.lv D.us (t (HO D.n D.lv<|D.A<|D.rd s)<|D.B<|D.rd s)=(D.t<|D.rd s).mp (rdV D.n D.A D.B)):Gx P G (AN D.N) (.loop b) D.lp:=by
 refine aq8 D.N D.n D.lv D.us D.A D.B D.I D.E D.mu D.f D.sel D.out hb (λ_ _ _ h=>atp h) p.ei p.nx (λs x s' hf=>(XT (o.exs s) hf).2) (λs hI=>⟨?_⟩) λs hE=>?_
 ·have h:=hn s
  rw [p.rdy s hI] at h;rw [h];exact T.Xb<|T.BQ (λx hx=>by rw [hx];rfl)<|T.iF (s:=s)<|p.rq s hI
 ·obtain ⟨h1,h2,h3⟩:=kept o p _ s (p.ei s hE) (bM<|D.mu s)
  have h4:=aH7 (k:=λx=>(x,HO D.n D.lv<|D.A<|D.fx x<|D.run s,D.B<|D.fx x<|D.run s)) h3
  refine T.BQ (λq hq=>?_) h4
  rw [hq];simp only [run,h1,h2]
def yV (o:D.Ok) (p:D.Pf Q) {Y:Type}(V:σ->Y) (K:Ex->σ->Y->Prop) (hv:∀s,D.I s->DF (λs'=>V s'=V s) (λx s'=>K x s'<|V s) (D.f s)) (s:σ) (hE:D.E s):K (D.At s) (D.run s) (V s):=by
 rw [<-run_eq o p hE];exact aHJ p.nx hv (D.mu s+1) s (p.ei s hE)<|bM _
def Kv (o:D.Ok) (p:D.Pf Q) {Y:Type}(V:σ->Y) (hv:∀s,D.I s->DF (λs'=>V s'=V s) (λ_ s'=>V s'=V s) (D.f s)) (s:σ) (hE:D.E s):V (D.run s)=V s:=yV o p V (λ_ s' v=>V s'=v) hv s hE
def stR (s:σ):Rd σ->Rd σ
 | .next s'=> .next s'
 | .stop x _=> .stop x s
def inv (o:D.Ok) (p:D.Pf Q) (hs:∀s,(D.t s).mp (stR s)=D.t s) (s:σ) (hE:D.E s):D.I (D.run s)/\D.f (D.run s)=.stop (D.At s) (D.run s):=by
 obtain ⟨s',hI,hf⟩:=end_ o p s hE
 have h:=T.UC (s:=s') (k:=stR s') rfl<|hs s'
 have h:stR s' (D.f s')=D.f s':=h
 simp only [stR,Rd.stop.injEq,Em] at h
 grind
end AR
abbrev T.ix {α:Type}(i:Y) (n:aC) (t:T α):T α:=.req (0<=i/\i<(n:Y)) t
abbrev T.ik {α:Type}(i:Y) (n:aC) (t:T α):T α:=.ix i n<|.req (i.toNat<n) t
abbrev T.rz {α β:Type}(l:List β) (t:T α):T α:=.req (0+(M l)<=M l) t
abbrev T.rm {α:Type}(w n:Y) (t:T α):T α:=.req (0<=n/\n<=n/\w*n<=2^48/\n<2^63) t
abbrev T.ra {α:Type}(n m k:aC) (w:Y) (t:T α):T α:=.req (0+n=m/\(k:Y)*w<=2^47/\(k:Y)<2^62) t
abbrev T.rb {α:Type}(n x:aC) (w:Y) (t:T α):T α:=.ra n n (n+x) w t
abbrev T.re {α β:Type}(n:aC) (l:List β) (t:T α):T α:=.req (0=0/\n=M l) t
abbrev T.r0 {α:Type}(β:Type) (t:T α):T α:=.re 0 ([]:List β) t
abbrev T.rc {α β:Type}(n:Y) (d:β) (k:aC) (t:T α):T α:=.req (n.toNat=M (aq n.toNat d)/\k<=n.toNat) t
abbrev T.nx {σ:Type}(s:σ):T (Rd σ):=.ok<|.next s
abbrev T.so {σ:Type}(x:Ex) (s:σ):T (Rd σ):=.ok<|.stop x s
abbrev T.tu (l:aX):T LV:=.ok<|.v<|.tuple l
instance:Coe Int LV:=⟨λx=> .v<|ag J x⟩
instance:Coe Bool LV:=⟨λx=> .v<|.bool x⟩
instance:Coe Int Value:=⟨.int J⟩
instance:Coe Bool Value:=⟨.bool⟩
instance:Coe (List Int) LV:=⟨λl=> .xl (.int J) l⟩
instance:Coe (List ByteArray) LV:=⟨λl=> .xl .str l⟩
abbrev xQ (n:aC) (l:aD):LV:=.xq n λj=>l.getD j .junk
abbrev AP:AB:=⟨[],0,.dead,X⟩
abbrev bV (k:aC) (e:Ty) (l:List e.D):AB:=⟨[],k,.vec e l,X⟩
end Go.Sx
namespace Go.Sx
open Go Go.RowKit Go.Proofs.YtpdndmobphnjcaaGreatDoor
variable {P : Program} {G : BA} {Γ : Specs} {K : Hand} {L : Lv} {β : Nat -> Loc} {Z : Nat -> Prop} {w : World} {n : Nat}
def Bn (k:aXU) (x y:Y):Y:=k.wrap<|(BitVec.ofInt k.bits x&&&BitVec.ofInt k.bits y).toNat
def Df (k:aXU) (x y:Y):Y:=k.wrap<|(BitVec.ofInt k.bits x |||BitVec.ofInt k.bits y).toNat
def aMb (k:aXU) (x y:Y):Y:=k.wrap<|(BitVec.ofInt k.bits x^^^BitVec.ofInt k.bits y).toNat
def gi (l:aB) (n:Y):Y:=l.getD n.toNat 0
def Im {l:aB}{n:Y}(h:n.toNat<M l):gi l n=l[n.toNat]:=by simp [gi,List.getD,Di h]
def Kf {l:aB}{n:Y}(h:n.toNat<M l):gi l n∈l:=by rw [Im h];exact Gl h
def kR {α:Type}{f:LV->Option α}{l:aD}{d:α}{ys:aT}(h:hd1 f l=ah d) (hr:RL β Z w l ys):∃x y,f x=ah d/\ys=[y]/\R β Z w x y:=by
 unfold hd1 at h;split at h
 ·rename_i x
  simp only [RL] at hr
  grind
 ·cases h
def RL.one {x:LV}{y:aV}(h:R β Z w x y):RL β Z w [x] [y]:=by simp only [RL];exact ⟨y,[],rfl,h,rfl⟩
def fD:∀(t:Ty) (cs:aD) (d:t.D) (ys:aT),KB t cs=ah d->RL β Z w cs ys->RL β Z w (Bx t d) ys
 | .int k,cs,d,ys,h,hr=>by
  obtain ⟨x,y,h1,rfl,h3⟩:=kR h hr;unfold ya at h1;split at h1
  ·split at h1
   ·rename_i hk;simp only [Aj] at h1;subst h1 hk;exact RL.one h3
   ·cases h1
  ·split at h1
   ·rename_i hk;simp only [Aj] at h1;subst h1 hk;exact RL.one aQa
   ·cases h1
  ·cases h1
 | .bool,cs,d,ys,h,hr=>by
  obtain ⟨x,y,h1,rfl,h3⟩:=kR h hr;unfold yb at h1;split at h1
  ·simp only [Aj] at h1;subst h1;exact RL.one h3
  ·simp only [Aj] at h1;subst h1;exact RL.one aQa
  ·cases h1
 | .str,cs,d,ys,h,hr=>by
  obtain ⟨x,y,h1,rfl,h3⟩:=kR h hr;unfold yZ at h1;split at h1
  ·simp only [Aj] at h1;subst h1;exact RL.one h3
  ·cases h1
 | .sl e,cs,d,ys,h,hr=>by
  obtain ⟨x,y,h1,rfl,h3⟩:=kR h hr;exact RL.one (xJ h1 h3)
 | .pair a b,cs,d,ys,h,hr=>by
  simp only [KB] at h;split at h
  ·rename_i x y h1 h2
   simp only [Aj] at h;subst h
   have e1:=fD a _ x _ h1<|hr.take a.n
   have e2:=fD b _ y _ h2<|hr.drop a.n
   rw [<-List.take_append_drop a.n ys];exact e1.app e2
  ·cases h
def upV (P:aR) (t:aS) (x:LV):LV:=
 match Ir P 8 t,Sf P t with
 | some ty,ah U=>match x with
  | .v (.agg ys)=>(match KB ty (ys.toList.map .v) with
   |some d=>K4 (Bx ty d)
   |none=>x)
  | .agg l=>(match KB ty l with
   |some d=>K4 (Bx ty d)
   |none=>x)
  |_=>x
 | some ty,ah X=>(match KB ty [x] with
  |some d=>(match Bx ty d with
   | [c]=>c
   |_=>x)
  |none=>x)
 |_,_=>x
def Gb (P:aR):bu->aD->List LV
 |t::ts,x::xs=>upV P t x::Gb P ts xs
 |_,xs=>xs
def upR (P:aR) (ts:bu) (x:LV):LV:=
 match ts with
 | [t]=>upV P t x
 |ts=>match x with
  | .v (.tuple ys)=>RJ (Gb P ts<|ys.toList.map .v)
  | .AQ l=>RJ (Gb P ts l)
  |x=>x
def RL.plain:∀(ys:aT),RL β Z w (ys.map .v) ys
 | []=>cg
 |y::ys=>by simp only [ES,RL];exact ⟨y,ys,rfl,KM,RL.plain ys⟩
def aGV:∀(ys:aT),AU n (ys.map .v)
 | []=>trivial
 |y::ys=>⟨ak,aGV ys⟩
def aXO {t:aS}{x:LV}{y:aV}(h:R β Z w x y):R β Z w (upV P t x) y:=by
 unfold upV;split
 ·split
  ·split
   ·rename_i d hd
    subst h;exact WT<|fD _ _ d _ hd<|RL.plain _
   ·exact h
  ·split
   ·rename_i d hd
    obtain ⟨ys,rfl,h2⟩:=h;exact WT<|fD _ _ d _ hd h2
   ·exact h
  ·exact h
 ·split
  ·rename_i d hd
   split
   ·rename_i c hc
    have:=fD _ _ d _ hd<|RL.one h
    rw [hc] at this;obtain ⟨y',zs,e1,e2,e3⟩:=this
    grind
   ·exact h
  ·exact h
 ·exact h
def aRQ {t:aS}{x:LV}(h:okV n x):okV n (upV P t x):=by
 unfold upV;split
 ·split
  ·split
   ·exact Ql<|Na _ _ _
   ·exact h
  ·split
   ·exact Ql<|Na _ _ _
   ·exact h
  ·exact h
 ·split
  ·rename_i d hd
   split
   ·rename_i c hc
    have:=Na n _ d
    rw [hc] at this;exact this.1
   ·exact h
  ·exact h
 ·exact h
def jX:∀ {ts:bu}{l:aD}{ys:aT},RL β Z w l ys->RL β Z w (Gb P ts l) ys
 | [],l,ys,h=>oU
 |_::_,[],ys,h=>oU
 |t::ts,x::xs,ys,h=>by
  obtain ⟨y,zs,h1,h2,h3⟩:=h;exact ⟨y,zs,h1,aXO h2,jX h3⟩
def iS:∀ {ts:bu}{l:aD},AU n l->AU n (Gb P ts l)
 | [],l,h=>oU
 |_::_,[],h=>oU
 |t::ts,x::xs,h=>by
  exact ⟨aRQ h.1,iS h.2⟩
def akR {ts:bu}{x:LV}{y:aV}(h:R β Z w x y):R β Z w (upR P ts x) y:=by
 unfold upR;split
 ·exact aXO h
 ·split
  ·simp only [R] at h
   subst h;exact uM<|jX<|RL.plain _
  ·simp only [R] at h
   obtain ⟨ys,rfl,h2⟩:=h;exact uM<|jX h2
  ·exact h
def ayS {ts:bu}{x:LV}(h:okV n x):okV n (upR P ts x):=by
 unfold upR;split
 ·exact aRQ h
 ·split
  ·exact tG<|iS<|aGV _
  ·exact tG<|iS<|by simpa only [okV] using h
  ·exact h
def upS (P:aR) (ts:bu) (S:aD->T LV):aD->T LV:=λl=>S<|Gb P ts l
def Valid.up {f:bn}{S:aD->T LV}(h:Valid P G f S) (ts:bu):Valid P G f (upS P ts S):=by
 intro args vals w Z lv hz hg hok hr hs;exact h (Gb P ts args) vals w Z lv hz hg (iS hok) (jX hr) hs
/-A pointer to cells that are only read,told by the cells. -/
mutual
def canX:LV->LV
 | .xq n f=> .xq n (λj=>((au n).map λi=>canX (f i)).getD j .junk)
 | .fn f l=> .fn f (canL l)
 | .fb f l=> .fb f (canL l)
 |x=>x
def canL:aD->List LV
 | []=>[]
 |x::xs=>canX x::canL xs
end
mutual
def canX_R:∀ {x:LV}{y:aV},R β Z w x y->R β Z w (canX x) y
 | .xq n f,y,h=>by
  simp only [canX,R] at h|-;obtain ⟨b,off,h1,hz,h2⟩:=h;refine ⟨b,off,h1,hz,λj hj=>?_⟩
  have e:((au n).map λi=>canX (f i)).getD j .junk=canX (f j):=aAY
  rw [e];obtain ⟨z,e1,e2⟩:=h2 j hj;exact ⟨z,e1,canX_R e2⟩
 | .fn f l,y,h=>by
  exact aOe
 | .fb f l,y,h=>by
  exact aOe
 | .v _,_,h=>h
 | .bl _,_,h=>h
 | .ki _ _,_,h=>h
 | .own _ _,_,h=>h
 | .agg _,_,h=>h
 | .AQ _,_,h=>h
 | .xl _ _,_,h=>h
 | .os ..,_,h=>h
 | .op ..,_,h=>h
 | .om _,_,h=>h
 | .mp ..,_,h=>h
 | .oc ..,_,h=>h
 | .CU _,_,h=>h
 | .junk,_,h=>h
def canL_R:∀ {l:aD}{ys:aT},RL β Z w l ys->RL β Z w (canL l) ys
 | [],ys,h=>by simpa only [canL,RL] using h
 |x::xs,ys,h=>by
  simp only [canL,RL] at h|-;obtain ⟨y,zs,h1,h2,h3⟩:=h;exact ⟨y,zs,h1,canX_R h2,canL_R h3⟩
end
mutual
def canX_ok:∀ {n:aC}{x:LV},okV n x->okV n (canX x)
 | _,.xq m f,h=>by
  simp only [canX,okV] at h|-;intro j
  by_cases hj:j<m
  ·have e:((au m).map λi=>canX (f i)).getD j .junk=canX (f j):=aAY
   rw [e];exact canX_ok (h j)
  ·have e:((au m).map λi=>canX (f i)).getD j .junk=.junk:=aAY
   rw [e];trivial
 |_,.fn f l,h=>by
  simp only [canX,okV] at h|-;exact canL_ok h
 |_,.fb f l,h=>by
  simp only [canX,okV] at h|-;exact canL_ok h
 |_,.v _,h=>h
 |_,.bl _,h=>h
 |_,.ki _ _,h=>h
 |_,.own _ _,h=>h
 |_,.agg _,h=>h
 |_,.AQ _,h=>h
 |_,.xl _ _,h=>h
 |_,.os ..,h=>h
 |_,.op ..,h=>h
 |_,.om _,h=>h
 |_,.mp ..,h=>h
 |_,.oc ..,h=>h
 |_,.CU _,h=>h
 |_,.junk,h=>h
def canL_ok:∀ {n:aC}{l:aD},AU n l->AU n (canL l)
 |_,[],h=>h
 |_,x::xs,h=>by
  simp only [canL,AU] at h|-;exact ⟨canX_ok h.1,canL_ok h.2⟩
end
def E7 {n:aC}{f:aC->LV}{l:aD}(h:(au n).map f=l):((au n).map λi=>canX<|f i)=canL l:=by
 have e:∀l:aD,canL l=l.map canX:=λl=>by induction l with
  |nil=>rfl
  |cons x l ih=>simp only [canL,ih,ES]
 rw [e,<-h,HM];rfl
def Bw (P:aR) (G:BA) (Γ:aXQ) (K:aX5) (L:Lv) (fn:aXX) (args:aD):T LV:=(yR P G Γ K L fn args).bind λx=> .ok<|canX<|upR P fn.resultTypes.toList x
def aH2 {f:bn}{fn:aXX}{X S:aD->T LV}(h0:Valid P G f X) (hS:∀args lv,(S args).all (λx=>x=lv)->((X<|canL args).bind λx=> .ok<|canX<|upR P fn.resultTypes.toList x).all (λx=>x=lv)):Valid P G f (upS P fn.params.toList S):=by
 refine Valid.up ?_ _;intro args vals w Z lv hz hg hok hr hs
 have hs:=hS args lv hs
 obtain ⟨x,h1,h2⟩:=T.B7 hs;subst h2;exact Calls.mono (h0 (canL args) vals w Z x hz hg (canL_ok hok) (canL_R hr) h1) λe w' ⟨e1,v,e2,e3,e4⟩=>⟨e1,v,e2,canX_ok<|ayS e3,canX_R<|akR e4⟩
def qy {f:bn}{fn:aXX}{c:bB}{S:aD->T LV}(hfn:P.funcs[f]? =ah fn) (hc:fn.body=ah c) (hΓ:∀g S,Γ g=ah S->Valid P G g S) (hK:Ft P G K)
  (hL:∀b∈BC c,Sound P G (.loop b)<|L<|H3 b) (hS:∀args lv,(S args).all (λx=>x=lv)->(Bw P G Γ K L fn<|canL args).all (λx=>x=lv)):Valid P G f (upS P fn.params.toList S):=
 aH2 (aqK hfn hc hΓ hK hL λ_ _ h=>h) hS
def T.red {α:Type}:T α->T α
 | .br U t _=>T.red t
 | .br X _ e=>T.red e
 | .req p t=> .req p (T.red t)
 |t=>t
def T.Ww {α:Type}{K:α->Prop}:∀ {t:T α},t.red.all K->t.all K
 | .ok _,h=>h
 | .br U t e,h=>⟨λ_=>T.Ww h,λhb=>LU⟩
 | .br X t e,h=>⟨λhb=>LU,λ_=>T.Ww h⟩
 | .req p t,h=>⟨h.1,T.Ww h.2⟩
 | .no,h=>h
end Go.Sx
namespace Go.Proofs.YtpdndmobphnjcaaGreatDoor
set_option maxRecDepth 100000
set_option maxHeartbeats 4000000
open Go.Proofs.Tryz
open Go.Sx
abbrev Ae:Ty:=.pair .str<|.pair A7<|.pair A7<|.pair A7<|.pair (.pair A7 A7)<|.pair A7<|.pair A7<|.pair A7<|.pair A7 A7
abbrev Ak:Ty:=.pair .str<|.pair A7<|.pair A7 A7
abbrev Af:Ty:=.pair .str<|.pair A7<|.pair A7<|.pair A7<|.pair A7<|.pair A7<|.pair A7 A7
abbrev Al:Ty:=.pair .str A7
abbrev Cbl:=Int×Int×Int×Int×Int
abbrev Cd:=ByteArray×Int×Int×Int×(Int×Int)×Cbl
def aJ:qT (List Cd):=⟨⟩
instance:Coe (List Cd) LV:=⟨.xl Ae⟩
abbrev Ko:=ByteArray×Int×Int×Int
def aP:qT (List Ko):=⟨⟩
instance:Coe (List Ko) LV:=⟨.xl Ak⟩
abbrev Ch:=ByteArray×Int×Int×Int×Int×Int×Int×Int
def aF:qT (List Ch):=⟨⟩
instance:Coe (List Ch) LV:=⟨.xl Af⟩
abbrev Ba:=ByteArray×Int
def aQ:qT (List Ba):=⟨⟩
instance:Coe (List Ba) LV:=⟨.xl Al⟩
def s5 (a:aD) (k:aJ->aE->aP->aF->aQ->T LV):T LV:=match a with
 | [.xl (.pair .str (.pair (.int J) (.pair (.int J) (.pair (.int J) (.pair (.pair (.int J) (.int J)) (.pair (.int J) (.pair (.int J) (.pair (.int J) (.pair (.int J) (.int J)))))))))) cs,.xl (.str) os,.xl (.pair .str (.pair (.int J) (.pair (.int J) (.int J)))) ks,.xl (.pair .str (.pair (.int J) (.pair (.int J) (.pair (.int J) (.pair (.int J) (.pair (.int J) (.pair (.int J) (.int J)))))))) gs,.xl (.pair .str (.int J)) bs]=>k cs os ks gs bs
 |_=> .no
def Ij {a:aD}{k:aJ->aE->aP->aF->aQ->T LV}{K:LV->Prop}(h:(s5 a k).all K):∃cs os ks gs bs,a=[.xl Ae cs,.xl .str os,.xl Ak ks,.xl Af gs,.xl Al bs]/\(k cs os ks gs bs).all K:=by
 unfold s5 at h;exact o5
def AI {x:Y}(h1:-9223372036854775808<=x:=by omega) (h2:x<=9223372036854775807:=by omega):AA x=x:=by
 exact aPc
def inB (n a b:Y):aM:=an (n>=a)&&an (n<=b)
def B8 {n a b:Y}:inB n a b=U↔a<=n/\n<=b:=by simp [inB]
def Lu {α:Type}{l:List α}{d:α}{n:Y}(h:n.toNat<M l):l.getD n.toNat d=l[n.toNat]:=A8
def Qt {α:Type}{l:List α}{d:α}{i:Y}(h0:0<=i) (h:i<M l):l.drop i.toNat=l.getD i.toNat d::l.drop (i+1).toNat/\l.take (i+1).toNat=l.take i.toNat++[l.getD i.toNat d]:=by
 have hlt:i.toNat<M l:=A0
 rw [Lu hlt,show (i+1).toNat=i.toNat+1 by omega,List.take_add_one,Di hlt,Sr hlt]
 grind
def emp:bz:=av #[]
def AZ (l:aJ) (n:Y):Cd:=l.getD n.toNat (emp,0,0,0,(0,0),0,0,0,0,0)
def AG (l:aF) (n:Y):Ch:=l.getD n.toNat (emp,0,0,0,0,0,0,0)
def OR (l:aP) (n:Y):Ko:=l.getD n.toNat (emp,0,0,0)
def OZ (l:aQ) (n:Y):Ba:=l.getD n.toNat (emp,0)
def gS (l:aE) (n:Y):bz:=l.getD n.toNat emp
def gi_step {l:aB}{i:Y}(h0:0<=i) (h:i<M l):l.drop i.toNat=gi l i::l.drop (i+1).toNat/\l.take (i+1).toNat=l.take i.toNat++[gi l i]:=by
 have hlt:i.toNat<M l:=A0
 rw [Im hlt,show (i+1).toNat=i.toNat+1 by omega,List.take_add_one,Di hlt,Sr hlt]
 grind
def aiQ {l:aF}{n:Y}(h:n.toNat<M l):AG l n=l[n.toNat]:=Lu h
def arY {l:aJ}{i:Y}(h0:0<=i) (h:i<M l):l.drop i.toNat=AZ l i::l.drop (i+1).toNat/\l.take (i+1).toNat=l.take i.toNat++[AZ l i]:=Qt h0 h
def arH {l:aF}{i:Y}(h0:0<=i) (h:i<M l):l.drop i.toNat=AG l i::l.drop (i+1).toNat/\l.take (i+1).toNat=l.take i.toNat++[AG l i]:=Qt h0 h
def aHk {l:aP}{i:Y}(h0:0<=i) (h:i<M l):l.drop i.toNat=OR l i::l.drop (i+1).toNat/\l.take (i+1).toNat=l.take i.toNat++[OR l i]:=Qt h0 h
def arZ {l:aQ}{i:Y}(h0:0<=i) (h:i<M l):l.drop i.toNat=OZ l i::l.drop (i+1).toNat/\l.take (i+1).toNat=l.take i.toNat++[OZ l i]:=Qt h0 h
def aJo {l:aE}{i:Y}(h0:0<=i) (h:i<M l):l.drop i.toNat=gS l i::l.drop (i+1).toNat/\l.take (i+1).toNat=l.take i.toNat++[gS l i]:=Qt h0 h
def Dv (mi ma st:Y):aM:=an (1<=mi)&&(an (mi<=ma)&&(an (ma<=80)&&(an (1<=st)&&an (st<=80))))
def Ig {mi ma st:Y}:Dv mi ma st=U↔1<=mi/\mi<=ma/\ma<=80/\1<=st/\st<=80:=by simp [Dv]
def Ec (mi ma st:Y):Y:=if Dv mi ma st then (ma-mi) / st+2 else 0
def EA (mi st k:Y):Y:=if k=0 then 0 else mi+(k-1)*st
def amE (mi ma st k:Y):Y:=if k<0\/Ec mi ma st<=k then 1 else 0
def amA (mi ma st k:Y):Y:=if k<0\/Ec mi ma st<=k then 0 else EA mi st k
def Hr (mi ma st a:Y):Y:=if Dv mi ma st=X\/a<0 then -1 else if a<mi then 0 else min (Ec mi ma st-1) ((a-mi) / st+1)
def fq {x st:Y}(h0:0<=x) (h1:1<=st):0<=x / st/\x / st<=x:=⟨Sl h0 A0,VB _ h0⟩
def aU6 {mi ma st:Y}:0<=Ec mi ma st/\Ec mi ma st<=81:=by
 unfold Ec;split
 ·rename_i h
  exact aOo
 ·omega
def uB {mi ma st:Y}(h:Dv mi ma st=U):2<=Ec mi ma st:=by
 unfold Ec;rw [AD h];exact aOo
def aHu {mi ma st:Y}(h:Dv mi ma st=X):Ec mi ma st=0:=by simp [Ec,h]
def ahr {a b:Y}(a0:0<=a) (a1:a<=1000) (b0:0<=b) (b1:b<=80):0<=a*b/\a*b<=80000:=
 ⟨F7 a0 b0,F9 (N8 b1 a0) A0⟩
def aJC (bs:bz):∀(n i:aC) (r:List UInt8),bs.size-i=n->ByteArray.toList.loop bs i r=r.reverse++bs.data.toList.drop i
 |0,i,r,h=>by
  rw [ByteArray.toList.loop,AE A0,FA (by simp only [zI];show bs.size<=i;omega),Gm]
 | n+1,i,r,h=>by
  have hi:i<M bs.data.toList:=by simp only [zI];show i<bs.size;omega
  rw [ByteArray.toList.loop,AD A0,aJC bs n (i+1) _ A0,List.reverse_cons,Cw,Sr hi]
  have:bs.get! i=bs.data.toList[i]:=by
   show bs.data[i]! =_
   grind
  rw [this];rfl
def aJD (bs:bz):bs.toList=bs.data.toList:=by
 rw [ByteArray.toList,aJC bs _ 0 [] rfl];rfl
def ayY {a b:bz}(h:a.toList=b.toList):a=b:=by
 rw [aJD,aJD] at h;cases a;cases b;simp at h;rw [h]
def yE {a b:bz}:(a==b)=U↔a=b:=by
 show (a.data==b.data)=U↔_
 rw [Cl];exact ⟨λh=>by cases a;cases b;simp at h;rw [h],λh=>Ve⟩
instance:LawfulBEq ByteArray where
 eq_of_beq h:=yE.1 h
 rfl:=yE.2 rfl
def XQ (a b:bz):(a.toList==b.toList)=(a==b):=by
 rw [IZ,Cl,yE];exact ⟨ayY,λh=>Ve⟩
def kinds:aE:=[av #[102,101,101,100,101,114],av #[99,97,98,108,101],av #[111,119,110,101,114],av #[99,111,110,116,114,97,99,116],av #[99,104,97,114,103,101,114],av #[98,97,121],av #[116,97,114,105,102,102]]
def ke:aE:=[av #[108,105,109,105,116],av #[110,101,117,116,114,97,108],av #[102,117,115,101],av #[116,104,101,114,109,97,108],av #[102,114,111,109],av #[97,116],av #[112,104,97,115,101,115],av #[97,109,112,115],av #[102,97,108,108,98,97,99,107],av #[111,119,110,101,114],av #[99,97,114,100],av #[114,97,110,107],av #[99,104,97,114,103,101,114]]
def ru:aE:=[av #[115,116,97,114,116],av #[101,110,101,114,103,121],av #[116,105,109,101],av #[105,100,108,101],av #[99,97,112],av #[116,97,120]]
def words:aE:=[av #[111,110],av #[119,111,114,107],av #[115,97,116,117,114,100,97,121],av #[115,117,110,100,97,121],av #[98,101,116,119,101,101,110],av #[112,101,114],av #[102,114,101,101]]
def isIn (l:aE) (w:bz):aM:=l.any (w== ·)
def Vl:Y->aE->bz->Int
 |_,[],_=>0
 |n,x::l,w=>if w==x then n else Vl (n+1) l w
def aI1:∀(n:Y) (l:aE) (w:bz),0<n->(Vl n l w !=0)=isIn l w
 |_,[],_,_=>rfl
 | n,x::l,w,h=>by
  simp only [Vl,isIn,bE];split
  ·grind
  ·rename_i c
   have:=aI1 (n+1) l w A0
   simp only [isIn] at this;rw [this]
   simp [c]
def yM (w:bz):aM:=isIn kinds w ||(isIn ke w ||(isIn ru w ||isIn words w))
def chA (b:Y):aM:=an (b>=97)&&an (b<=122)
def chB (b:Y):aM:=chA b ||((an (b>=48)&&an (b<=57)) ||b==95)
def gwB (w:bz):aM:=an (1<=w.size/\w.size<=12)&&(chA (Ja w 0)&&(au w.size).all λi=>i==0 ||chB (Ja w i))
def nameB (w:bz):aM:=gwB w&&!yM w
def L4 {p q:Prop}(h:p) (k:p->q):p/\q:=⟨h,k h⟩
def D5 (n:aC) (f:Y->aM):aM:=(au n).all λj=>f (j:Y)
def DQ {n:aC}{f:Y->aM}:D5 n f=U↔∀j:aC,(j:Y)<(n:Y)->f j=true:=by
 unfold D5
 grind
def Nd {n:aC}{f:Y->aM}(j:aC) (h:(j:Y)<(n:Y)) (hf:f j=X):D5 n f=false:=by
 rw [IX];intro hx;rw [DQ.1 hx j h] at hf;cases hf
def cbZ (c:Cbl):aM:=(c.1==0)&&((c.2.1==0)&&((c.2.2.1==0)&&((c.2.2.2.1==0)&&(c.2.2.2.2==0))))
def GJ (c:Cbl):aM:=cbZ c ||(an (0<=c.1)&&(an (c.1<c.2.1)&&(an (c.2.1<=200000)&&(inB c.2.2.1 0 1000&&(inB c.2.2.2.1 0 1000&&inB c.2.2.2.2 1 1000000)))))
def F4 (i:Y) (c:Cd):aM:=(if i=0 then c.2.1==-1 else inB c.2.1 0 (i-1))&&(inB c.2.2.1 1 1000&&(inB c.2.2.2.1 1 1000&&(((c.2.2.2.2.1.1==0)&&(c.2.2.2.2.1.2==0) ||(inB c.2.2.2.2.1.1 1 1000&&inB c.2.2.2.2.1.2 0 1000000))&&GJ c.2.2.2.2.2)))
def chW (c:Ch):aM:=inB c.2.2.1 1 7&&(inB c.2.2.2.1 1 80&&(inB c.2.2.2.2.1 c.2.2.2.1 80&&(inB c.2.2.2.2.2.1 1 80&&(c.2.2.2.2.2.2.1==0 ||inB c.2.2.2.2.2.2.1 c.2.2.2.1 c.2.2.2.2.1))))
def G7 (nc no:Y) (c:Ch):aM:=inB c.2.1 0 (nc-1)&&(inB c.2.2.2.2.2.2.2 0 (no-1)&&chW c)
def koV (no:Y) (c:Ko):aM:=inB c.2.1 0 (no-1)&&(inB c.2.2.1 1 9&&inB c.2.2.2 1 1000000)
def once {α:Type} [BEq α] (l:List α):aM:=(au<|M l).all λj=>match l[j]? with
 |some x=>!((l.take j).contains x)
 |none=>U
def tC {α:Type} [BEq α] [LawfulBEq α] {l:List α}:once l=U↔∀(j:aC) (h:j<M l),¬l[j]∈l.take j:=by
 unfold once;rw [BO];refine ⟨λh j hj hm=>?_,λh j hj=>?_⟩
 ·have:=h j (LQ.2 hj)
  rw [Di hj] at this;simp only [DB] at this;rw [Zv.2 hm] at this;cases this
 ·have hj:=LQ.1 hj
  grind
def vpB (cs:aJ) (os:aE) (ks:aP) (gs:aF) (bs:aQ):aM:=
 D5 (M cs) (λj=>F4 j<|AZ cs j)&&(ks.all (koV<|M os)&&(once (ks.map (·.2.2.2))&&(gs.all (G7 (M cs)<|M os)&&bs.all (λb=>inB b.2 0<|(M gs:Y)-1))))
def Lq (cs:aJ) (os:aE) (ks:aP) (gs:aF) (bs:aQ):aE:=cs.map (·.1)++os++ks.map (·.1)++gs.map (·.1)++bs.map (·.1)
def B9 (cs:aJ) (os:aE) (ks:aP) (gs:aF) (bs:aQ):aM:=
 an (1<=M cs/\M cs<=16/\M os<=8/\M ks<=32/\M gs<=16/\M bs<=24)&&((Lq cs os ks gs bs).all nameB&&(once (Lq cs os ks gs bs)&&vpB cs os ks gs bs))
def ajT {nm:bz}{i up li ne ra he am mo ga lo de:Y}(hi:0<=i) {K:aM->Prop}(h:K<|F4 i (nm,up,li,ne,(ra,he),am,mo,ga,lo,de)):
  ((if i==0 then (up !=(-1)) ||((an<|i>0)&&((an<|up<0) ||(an<|up>=i))) else (an<|i>0)&&((an<|up<0) ||(an<|up>=i)))=U->K X)/\
  ((if i==0 then (up !=(-1)) ||((an<|i>0)&&((an<|up<0) ||(an<|up>=i))) else (an<|i>0)&&((an<|up<0) ||(an<|up>=i)))=X->
   (((!(inB li (1:Y) (1000:Y))) ||(!(inB ne (1:Y) (1000:Y))))=U->K X)/\
   (((!(inB li (1:Y) (1000:Y))) ||(!(inB ne (1:Y) (1000:Y))))=X->
    (((!((ra==0)&&(he==0)))&&(!(inB ra (1:Y) (1000:Y)) ||(!(inB he (0:Y) (1000000:Y)))))=U->K X)/\
    (((!((ra==0)&&(he==0)))&&(!(inB ra (1:Y) (1000:Y)) ||(!(inB he (0:Y) (1000000:Y)))))=X->
     (((am==0)&&((mo==0)&&((ga==0)&&((lo==0)&&(de==0)))))=U->K U)/\
     (((am==0)&&((mo==0)&&((ga==0)&&((lo==0)&&(de==0)))))=X->K ((inB am (0:Y) (200000:Y))&&((inB mo (0:Y) (200000:Y))&&((inB ga (0:Y) (1000:Y))&&((inB lo (0:Y) (1000:Y))&&((inB de (1:Y) (1000000:Y))&&(an<|mo>am)))))))))):=by
 have e1:(if i==0 then (up !=(-1)) ||((an<|i>0)&&((an<|up<0) ||(an<|up>=i))) else (an<|i>0)&&((an<|up<0) ||(an<|up>=i)))=!(if i=0 then up==-1 else inB up 0 (i-1)):=by
  by_cases h0:i=0
  ·grind
  ·have:(i==0)=false:=by simpa using h0
   rw [this,AE h0,IZ]
   simp [inB]
   omega
 rw [e1];unfold F4 at h;simp only at h;generalize (if i=0 then up==-1 else inB up 0 (i-1))=b1 at*
 refine ⟨λc=>?_,λc=>⟨λc2=>?_,λc2=>⟨λc3=>?_,λc3=>⟨λc4=>?_,λc4=>?_⟩⟩⟩⟩
 ·grind
 all_goals
  have c:b1=true:=I3
  rw [c,ET] at h
 ·have:(inB li 1 1000&&inB ne 1 1000)=false:=A8
  grind
 all_goals
  have c2:inB li 1 1000=U/\inB ne 1 1000=true:=Dl
  rw [c2.1,c2.2,ET,ET] at h
 ·have:((ra==0)&&(he==0) ||(inB ra 1 1000&&inB he 0 1000000))=false:=by
   grind
  grind
 all_goals
  have:((ra==0)&&(he==0) ||(inB ra 1 1000&&inB he 0 1000000))=true:=by
   grind
  rw [this,ET] at h
 ·unfold GJ cbZ at h
  grind
 ·unfold GJ cbZ at h
  rw [c4,DC] at h
  have:((inB am (0:Y) (200000:Y))&&((inB mo (0:Y) (200000:Y))&&((inB ga (0:Y) (1000:Y))&&((inB lo (0:Y) (1000:Y))&&((inB de (1:Y) (1000000:Y))&&(an<|mo>am))))))=(an (0<=am)&&(an (am<mo)&&(an (mo<=200000)&&(inB ga 0 1000&&(inB lo 0 1000&&inB de 1 1000000))))):=by
   rw [IZ];simp only [AY,B8,Ac];omega
  rw [this];exact h
def We {α β:Type} [BEq β] [LawfulBEq β] {l:List α}{d:α}{p:α->aM}{k:α->β}:(∀j:aC,(j:Y)<(M l:Y)->(p (l.getD (j:Y).toNat d)&&!(((l.take (j:Y).toNat).map k).contains<|k<|l.getD (j:Y).toNat d))=U)↔(l.all p&&once (l.map k))=true:=by
 have hg:∀(j:aC) (h:j<M l),l.getD (j:Y).toNat d=l[j]:=λj h=>Lu (n:=(j:Y)) h
 rw [AY,BO,tC]
 constructor
 ·intro h
  refine ⟨λx hx=>?_,λj hj hm=>?_⟩
  ·obtain ⟨j,hj,rfl⟩:=List.getElem_of_mem hx
   have:=h j A0
   rw [hg j hj,AY] at this;exact this.1
  ·have hj':j<M l:=A8
   have:=h j A0
   rw [hg j hj',AY,DB] at this
   have h2:=this.2
   rw [C2,List.map_take,Zv.2 A8] at h2;cases h2
 ·intro ⟨h1,h2⟩ j hj
  have hj':j<M l:=A0
  rw [hg j hj',AY,DB];refine ⟨h1 _<|Gl _,?_⟩;rw [IX,C2,List.map_take]
  grind
def Qo {α:Type}{l:List α}{d:α}{p:α->aM}:(∀j:aC,(j:Y)<(M l:Y)->p (l.getD (j:Y).toNat d)=U)↔l.all p=true:=by
 have hg:∀(j:aC) (h:j<M l),l.getD (j:Y).toNat d=l[j]:=λj h=>Lu (n:=(j:Y)) h
 rw [BO]
 constructor
 ·intro h x hx
  obtain ⟨j,hj,rfl⟩:=List.getElem_of_mem hx
  have:=h j A0
  rw [hg j hj] at this;exact this
 ·intro h j hj
  grind
def J0 (ph mn mx st fb:Y):aM:=inB ph 1 7&&(inB mn 1 80&&(inB mx 1 80&&(inB st 1 80&&(an (mn<=mx)&&(fb==0 ||inB fb mn mx)))))
def Wu {ph mn mx st fb:Y}:J0 ph mn mx st fb=U↔1<=ph/\ph<=7/\1<=mn/\mn<=80/\1<=mx/\mx<=80/\1<=st/\st<=80/\mn<=mx/\(fb=0\/(mn<=fb/\fb<=mx)):=by
 simp [J0,inB];omega
def C5 (mn mx st a:Y):Y:=if a<mn then 0 else min a mx-(min a mx-mn) %st
def aEp {x s:Y}(hx:0<=x) (hs:1<=s):0<=x%s/\x%s<=x/\x%s<s:=by
 have h1:=nK x s
 have h2:0<=x / s:=Sl hx A0
 have h3:0<=s*(x / s):=F7 A0 h2
 have h4:=Int.emod_nonneg x (b:=s) A0
 have h5:=Int.emod_lt_of_pos x (b:=s) A0
 omega
def eE {mn mx st a:Y}(h1:1<=mn) (h2:mn<=mx) (h3:mx<=80) (h4:1<=st):0<=C5 mn mx st a/\C5 mn mx st a<=80/\(a<mn->C5 mn mx st a=0)/\(mn<=a->mn<=C5 mn mx st a/\C5 mn mx st a<=a/\C5 mn mx st a<=mx):=by
 unfold C5;split
 ·omega
 ·have e1:=aEp (x:=min a mx-mn) (s:=st) A0 h4
  omega
def E0 (mn mx st:Y):Prop:=1<=mn/\mn<=mx/\mx<=80/\1<=st/\st<=80
def aV3 {ph mn mx st fb:Y}(h:J0 ph mn mx st fb=U):E0 mn mx st:=by
 rw [Wu] at h;unfold E0;omega
def IN (ph mn mx st fb a s:Y):aM:=J0 ph mn mx st fb&&(an (0<=s)&&(an (s<=1000000)&&(an (0<=a)&&(C5 mn mx st a==a))))
def okB (ph mn mx st fb a s want:Y):aM:=IN ph mn mx st fb a s&&(an (0<=want)&&an (want<=80))
def nE (ph mn mx st fb a s want:Y):Y:=if okB ph mn mx st fb a s want then 0 else 1
def nA (ph mn mx st fb a s want:Y):Y:=
 if okB ph mn mx st fb a s want then (if a=0 then (if C5 mn mx st want≠0/\5<=s then mn else 0) else if C5 mn mx st want=0 then 0 else min (C5 mn mx st want) (a+st)) else 0
def nS (ph mn mx st fb a s want:Y):Y:=
 if okB ph mn mx st fb a s want then (if a=0 then (if C5 mn mx st want≠0/\5<=s then 0 else min (s+1) 1000000) else if C5 mn mx st want=0 then 0 else min (s+1) 1000000) else 0
def aJt (x y:Y):(if y<x then y else x)=min x y:=A0
def aix {mn mx st am:Y}(h:am<mn):0=C5 mn mx st am:=by rw [C5,AD h]
def aiw {mn mx st am:Y}(hc:E0 mn mx st) (h:mn<=am):AA ((if mx<am then mx else am)-(AA<|(if mx<am then mx else am)-mn).tmod st)=C5 mn mx st am:=by
 unfold E0 at hc;rw [aJt]
 have e1:=aEp (x:=min am mx-mn) (s:=st) A0 A0
 rw [AI (x:=min am mx-mn),Int.tmod_eq_emod_of_nonneg A0,AI,C5,AE A0]
def ap9 {ph mn mx st fb a s:Y}(h:((!J0 ph mn mx st fb) ||(an (s<0) ||(an (s>1000000) ||an (a<0))))=U):X=IN ph mn mx st fb a s:=by
 cases hr:IN ph mn mx st fb a s
 ·rfl
 ·simp [IN] at hr h
  rw [hr.1] at h
  simp at h
  omega
def aNC {ph mn mx st fb a s:Y}(h:((!J0 ph mn mx st fb) ||(an (s<0) ||(an (s>1000000) ||an (a<0))))=X):E0 mn mx st/\(C5 mn mx st a==a)=IN ph mn mx st fb a s:=by
 simp at h
 obtain ⟨h1,h2,h3,h4⟩:=h;exact ⟨aV3 h1,by simp [IN,h1,h2,h3,h4]⟩
def aKC {ph mn mx st fb a s want:Y}(h:okB ph mn mx st fb a s want=U):(!IN ph mn mx st fb a s ||(an (want<0) ||an (want>80)))=X/\E0 mn mx st/\(0<=s/\s<=1000000)/\(0<=want/\want<=80)/\0<=a/\a<=80/\1<=st/\st<=80:=by
 simp only [okB,IN,AY,Ac,Cl] at h;obtain ⟨⟨h1,h2,h3,h4,h5⟩,h6,h7⟩:=h
 have hc:=aV3 h1
 have hc':=hc
 have:=eE (a:=a) hc'.1 hc'.2.1 hc'.2.2.1 hc'.2.2.2.1
 refine ⟨?_,hc,⟨h2,h3⟩,⟨h6,h7⟩,h4,A0,hc'.2.2.2.1,hc'.2.2.2.2⟩
 simp [IN,h1,h2,h3,h4,h5];omega
def av5 {ph mn mx st fb a s want:Y}(h:¬okB ph mn mx st fb a s want=U):(!IN ph mn mx st fb a s ||(an (want<0) ||an (want>80)))=true:=by
 cases hr:IN ph mn mx st fb a s
 ·rfl
 ·simp [okB,hr] at h|-;omega
def Fm (cs:aJ):aM:=D5 (M cs) λj=>an<|(AZ cs j).2.1<j
def R6 {cs:aJ}(h:Fm cs=U) {c:Y}(h0:0<=c) (h1:c<M cs):(AZ cs c).2.1<c:=by
 have:=DQ.1 h c.toNat A0
 grind
def Gi:aC->aJ->Y->Y->Bool
 |0,_,_,_=>X
 |k+1,cs,o,c=>if c>=0 then (c==o ||Gi k cs o (AZ cs c).2.1) else X
def Fk (cs:aJ) (o c:Y):aM:=Gi (c.toNat+2) cs o c
def aSI {cs:aJ}{o:Y}(hu:Fm cs=U):∀(k k':aC) (c:Y),c<M cs->(c+1).toNat<k->(c+1).toNat<k'->Gi k cs o c=Gi k' cs o c
 |0,_,_,_,h,_=>A0
 |_+1,0,_,_,_,h=>A0
 | k+1,k'+1,c,hc,h,h'=>by
  simp only [Gi]
  by_cases h0:c>=0
  ·rw [AD h0,AD h0]
   have:=R6 hu h0 hc
   rw [aSI hu k k' (AZ cs c).2.1 A0 A0 A0]
  ·grind
def aSJ {cs:aJ}{o c:Y}(hu:Fm cs=U) (hc:c<M cs):Fk cs o c=if c>=0 then (c==o ||Fk cs o (AZ cs c).2.1) else false:=by
 unfold Fk;rw [Gi]
 by_cases h0:c>=0
 ·rw [AD h0,AD h0]
  have:=R6 hu h0 hc
  rw [aSI hu (c.toNat+1) ((AZ cs c).2.1.toNat+2) (AZ cs c).2.1 A0 A0 A0]
 ·grind
def atB (cs:aJ) (gs:aF):aM:=D5 (M gs) λj=>an<|(AG gs j).2.1<(M cs:Y)
def jH {cs:aJ}{gs:aF}(h:atB cs gs=U) {c:Y}(h0:0<=c) (h1:c<M gs):(AG gs c).2.1<(M cs:Y):=by
 have:=DQ.1 h c.toNat A0
 grind
def Ct (cs:aJ) (gs:aF) (o:Y) (k:aC):aB:=((au k).map λj:aC=>(j:Y)).filter λj=>Fk cs o (AG gs j).2.1
def aGx {cs:aJ}{gs:aF}{o:Y}{k:aC}:Ct cs gs o (k+1)=Ct cs gs o k++(if Fk cs o (AG gs k).2.1=U then [(k:Y)] else []):=by
 unfold Ct;rw [Sk,KJ,bI]
 grind
def rk {cs:aJ}{gs:aF}{o:Y}{k:aC}:M (Ct cs gs o k)<=k:=by
 unfold Ct
 grind
def Cz {cs:aJ}{os:aE}{ks:aP}{gs:aF}{bs:aQ}:B9 cs os ks gs bs=U↔(1<=M cs/\M cs<=16/\M os<=8/\M ks<=32/\M gs<=16/\M bs<=24)/\(Lq cs os ks gs bs).all nameB=U/\once (Lq cs os ks gs bs)=U/\D5 (M cs) (λj=>F4 j<|AZ cs j)=U/\ks.all (koV<|M os)=U/\once (ks.map (·.2.2.2))=U/\gs.all (G7 (M cs)<|M os)=U/\bs.all (λb=>inB b.2 0<|(M gs:Y)-1)=true:=by
 unfold B9 vpB
 grind
def sT {cs:aJ}{os:aE}{ks:aP}{gs:aF}{bs:aQ}(h:B9 cs os ks gs bs=U) {c:Y}(h0:0<=c) (h1:c<M cs):F4 c (AZ cs c)=true:=by
 have:=DQ.1 (Cz.1 h).2.2.2.1 c.toNat A0
 grind
def NU {cs:aJ}{os:aE}{ks:aP}{gs:aF}{bs:aQ}(h:B9 cs os ks gs bs=U) {c:Y}(h0:0<=c) (h1:c<M gs):G7 (M cs) (M os) (AG gs c)=true:=by
 have:=BO.1 (Cz.1 h).2.2.2.2.2.2.1 gs[c.toNat]<|Gl _
 rwa [aiQ A0]
def fI {cs:aJ}{os:aE}{ks:aP}{gs:aF}{bs:aQ}(h:B9 cs os ks gs bs=U):Fm cs=true:=
 DQ.2 λj hj=>by
  have:=sT h (c:=j) A0 hj
  unfold F4 at this;rw [AY] at this
  have h1:=this.1
  rw [Ac];split at h1
  ·grind
  ·have:=B8.1 h1;omega
def fJ {cs:aJ}{os:aE}{ks:aP}{gs:aF}{bs:aQ}(h:B9 cs os ks gs bs=U):atB cs gs=true:=
 DQ.2 λj hj=>by
  have:=NU h (c:=j) A0 hj
  unfold G7 at this;rw [AY] at this
  have:=B8.1 this.1
  rw [Ac];omega
def yY (cs:aJ) (os:aE) (ks:aP) (gs:aF) (bs:aQ) (o:Y):Y:=if B9 cs os ks gs bs=U/\0<=o/\o<M cs then 0 else 1
def Qa (cs:aJ) (os:aE) (ks:aP) (gs:aF) (bs:aQ) (o:Y):aB:=if B9 cs os ks gs bs=U/\0<=o/\o<M cs then Ct cs gs o (M gs) else []
def OS (ga ro:Y):aC->Int
 |0=>0
 |k+1=>if ga*(k+1)*(k+1)<=ro then (k:Y)+1 else OS ga ro k
def aBp {ga m:Y}(h0:0<=ga) (h1:ga<=1000) (m0:0<=m) (m1:m<=1000):(0<=ga*m/\ga*m<=1000000)/\0<=ga*m*m/\ga*m*m<=1000000000:=by
 have a1:=Gn h1 m0
 have a2:=F7 h0 m0
 have a3:ga*m*m<=1000000*m:=Gn A0 m0
 exact ⟨⟨a2,A0⟩,F7 a2 m0,A0⟩
def fc {ga a b:Y}(h0:0<=ga) (a0:0<=a) (h:a<=b):ga*a*a<=ga*b*b:=by
 have h1:=N8 h h0
 exact F9 (Gn h1 a0)<|N8 h<|F7 h0 A0
def aK8 {ga ro r:Y}:∀ {k:aC},0<=r->r<=k->(r=0\/ga*r*r<=ro)->(∀a:Y,r<a->a<=k->¬ga*a*a<=ro)->OS ga ro k=r
 |0,h0,h1,_,_=>by simp only [OS];omega
 | k+1,h0,h1,h2,h3=>by
  simp only [OS]
  by_cases hr:r=(k:Y)+1
  ·subst hr
   omega
  ·rw [AE<|h3 ((k:Y)+1) A0 A0]
   exact aK8 h0 A0 h2 λa ha hk=>h3 a ha A0
def prm (ga ro:Y):Y:=OS ga ro 1000
def pmE (c:Cbl):Y:=if GJ c=U then 0 else 1
def Hb (c:Cbl):Y:=if GJ c=U then (if cbZ c=U then 1000 else prm c.2.2.1 ((if c.2.2.2.2<c.2.2.2.1 then c.2.2.2.2 else c.2.2.2.1)*(c.2.1-c.1))) else 0
def jQ {c:Cbl}(h:GJ c=U) (hz:cbZ c=X):(0<=c.1/\c.1<c.2.1/\c.2.1<=200000)/\(0<=c.2.2.1/\c.2.2.1<=1000)/\(0<=c.2.2.2.1/\c.2.2.2.1<=1000)/\1<=c.2.2.2.2/\c.2.2.2.2<=1000000:=by
 unfold GJ at h;rw [hz,DC] at h;simp only [AY,Ac,B8] at h;omega
def Ix (f:Y) (l:aB):Y:=l.foldl (λa n=>if n<a then n else a) f
def CW (c:Cd):Y:=if c.2.2.2.2.1.1=0 then Ix c.2.2.1 [c.2.2.2.1,Hb c.2.2.2.2.2] else Ix c.2.2.1 [c.2.2.2.1,Hb c.2.2.2.2.2,c.2.2.2.2.1.1]
def atd {c:Cbl}:(pmE c !=0)=!GJ c:=by
 unfold pmE
 grind
abbrev Eg:Ty:=.pair A7<|.sl A7
abbrev Rw:=Int×List Int
def aY:qT (List Rw):=⟨⟩
def Cn (l:aY) (n:Y):Rw:=l.getD n.toNat (0,[])
def sD {l:aY}{n:Y}(h:n.toNat<M l):Cn l n=l[n.toNat]:=Lu h
def arD {l:aY}{i:Y}(h0:0<=i) (h:i<M l):l.drop i.toNat=Cn l i::l.drop (i+1).toNat/\l.take (i+1).toNat=l.take i.toNat++[Cn l i]:=Qt h0 h
def Im {l:aB}{n:Y}(h:n.toNat<M l):gi l n=l[n.toNat]:=Lu h
def usA (ph p:Y):aM:=Bn J ph (AA<|(1:Y)*2^(min p.toNat 64)) !=0
def C1 (gs:aF) (p:Y) (l:aB):aB:=l.filter λk=>usA (AG gs k).2.2.1 p
def Xz (gs:aF) (p:Y) (l:aB):Prop:=0<=p/\M l<=1000/\∀k∈l,0<=k/\k<(M gs:Y)
def aKW {gs:aF}{p:Y}{l:aB}:M (C1 gs p l)<=M l:=zF _ _
def Wa {cs:aJ}{gs:aF}{o:Y}{k:aC}{x:Y}(h:x∈Ct cs gs o k):0<=x/\x<(k:Y):=by
 have:=(Ck.1 h).1
 obtain ⟨j,h1,rfl⟩:=FP.1 this
 have:=LQ.1 h1
 omega
def rowP (cs:aJ) (gs:aF) (c p:Y):aY:=if M (C1 gs p<|Ct cs gs c<|M gs)>0 then [(CW<|AZ cs c,C1 gs p<|Ct cs gs c<|M gs)] else []
def cx (cs:aJ) (gs:aF) (c:Y):aY:=rowP cs gs c 0++rowP cs gs c 1++rowP cs gs c 2
def D3 (cs:aJ) (gs:aF):aC->List Rw
 |0=>[]
 |k+1=>D3 cs gs k++cx cs gs k
def sZ {cs:aJ}{gs:aF}{c p:Y}:M (rowP cs gs c p)<=1:=by
 unfold rowP
 grind
def aqf {cs:aJ}{gs:aF}{c:Y}:M (cx cs gs c)<=3:=by
 unfold cx
 have h0:=sZ (cs:=cs) (gs:=gs) (c:=c) (p:=0)
 have h1:=sZ (cs:=cs) (gs:=gs) (c:=c) (p:=1)
 have h2:=sZ (cs:=cs) (gs:=gs) (c:=c) (p:=2)
 simp only [BG];omega
def rU {cs:aJ}{gs:aF}:∀ {k:aC},M (D3 cs gs k)<=3*k
 |0=>by simp [D3]
 |k+1=>by
  have:=rU (cs:=cs) (gs:=gs) (k:=k)
  have h2:=aqf (cs:=cs) (gs:=gs) (c:=k)
  simp only [D3,BG];omega
def OT (cs:aJ) (os:aE) (ks:aP) (gs:aF) (bs:aQ):Y:=if B9 cs os ks gs bs=U then 0 else 1
def Jy (cs:aJ) (os:aE) (ks:aP) (gs:aF) (bs:aQ):aY:=if B9 cs os ks gs bs=U then D3 cs gs (M cs) else []
def ID (a:Y):aM:=an (a>=0)&&an (a<=80)
def Qm {a:Y}:ID a=U↔0<=a/\a<=80:=by simp [ID]
def QA (n i:Y):aM:=an (0<=i)&&an (i<n)
def rW {n i:Y}:QA n i=U↔0<=i/\i<n:=by simp [QA]
def H4 (l:aB) (n:Y):aM:=an ((M l:Y)=n)&&(l.all (QA n)&&once l)
def smA (alive l:aB):Y:=(l.map λm=>gi alive m).sum
def L7 (i:Y) (o:aI) (l:aB):aI:=l.foldl (λo m=>o.modify m.toNat (·++[i])) o
def Hi (o:aI) (i:Y):aY->List (List Int)
 | []=>o
 |r::rs=>Hi (L7 i o r.2) (i+1) rs
def Hh (alive sm:aB) (i:Y):aY->List Int
 | []=>sm
 |r::rs=>Hh alive (sm.set i.toNat<|sm.getD i.toNat 0+smA alive r.2) (i+1) rs
def aHc {alive l:aB}{m:Y}:smA alive (m::l)=gi alive m+smA alive l:=by simp [smA]
def rD {i m:Y}{o:aI}{l:aB}:L7 i o (m::l)=L7 i (o.modify m.toNat (·++[i])) l:=rfl
def aEt {i:Y}:∀ {l:aB}{o:aI},M (L7 i o l)=M o
 | [],o=>rfl
 |m::l,o=>by rw [rD,aEt,nO]
def aK3 {i:Y}:∀ {l:aB}{o:aI}{b:Y},(∀x∈o,(M x:Y)<=b)->∀x∈L7 i o l,(M x:Y)<=b+M l
 | [],o,b,h,x,hx=>by have:=h x hx;simp only [C3];omega
 | m::l,o,b,h,x,hx=>by
  rw [rD] at hx
  have:=aK3 (b:=b+1) (λy hy=>by
   obtain ⟨k,hk,rfl⟩:=Hx.1 hy;rw [nO] at hk
   have:=h o[k]<|Gl _
   rw [List.getElem_modify];split
   ·grind
   ·omega) x hx
  simp only [Bm];omega
def aqT {l:aB}{i:aC}(h:i<M l):l.set i (l.getD i 0+0)=l:=by
 simp_all
def ae1 {l:aB}{i:aC}{a b:Y}(h:i<M l):letI c:=l.set i<|l.getD i 0+a;c.set i (c.getD i 0+b)=l.set i (l.getD i 0+(a+b)):=by
 have e:(l.set i<|l.getD i 0+a).getD i 0=l.getD i 0+a:=A8
 rw [e,List.set_set]
 congr 1
 omega
def mx (a b:Y):Y:=if a<b then b else a
def D9 (gs:aF) (i k:Y):Y:=EA (AG gs i).2.2.2.1 (AG gs i).2.2.2.2.2.1 k
def Ff (gs:aF) (i a:Y):Y:=Hr (AG gs i).2.2.2.1 (AG gs i).2.2.2.2.1 (AG gs i).2.2.2.2.2.1 a
def G9 (gs:aF) (alive:aB) (i k:Y):Y:=mx (gi alive i) (D9 gs i k)-mx (gi alive i) (D9 gs i<|k-1)
def Kz (rows:aY) (sm:aB) (mo r:Y):aM:=an<|sm.getD r.toNat 0+mo<=(Cn rows r).1
def KE (sm:aB) (mo:Y) (l:aB):aB:=l.foldl (λsm r=>sm.set r.toNat<|sm.getD r.toNat 0+mo) sm
abbrev Tr:=List Int×List Int×Bool
def G6 (O:aI) (rows:aY) (gs:aF) (alive most:aB) (level:Y) (t:Tr) (i:Y):Tr:=
 if t.2.1.getD i.toNat 0=level-1/\level<=Ff gs i (gi most i) then
  (if ((O.getD i.toNat []).all<|Kz rows t.1<|G9 gs alive i level)=U then (KE t.1 (G9 gs alive i level)<|O.getD i.toNat [],t.2.1.set i.toNat level,U) else t)
 else t
def swp (O:aI) (rows:aY) (gs:aF) (alive most:aB) (level:Y) (t:Tr) (l:aB):Tr:=l.foldl (G6 O rows gs alive most level) t
def shl (O:aI) (rows:aY) (gs:aF) (alive most order:aB):aC->Y->aB->aB->List Int
 |0,_,_,lv=>lv
 |f+1,level,sm,lv=>if (swp O rows gs alive most level (sm,lv,X) order).2.2=U then shl O rows gs alive most order f (level+1) (swp O rows gs alive most level (sm,lv,X) order).1 (swp O rows gs alive most level (sm,lv,X) order).2.1 else (swp O rows gs alive most level (sm,lv,X) order).2.1
def sJ {sm l:aB}{mo r:Y}:KE sm mo (r::l)=KE (sm.set r.toNat<|sm.getD r.toNat 0+mo) mo l:=rfl
def qf {mo:Y}:∀ {l sm:aB},M (KE sm mo l)=M sm
 | [],_=>rfl
 |r::l,sm=>by rw [sJ,qf,C4]
def TQ {sm:aB}{i k:aC}{v:Y}:(sm.set i v).getD k 0=if i=k/\k<M sm then v else sm.getD k 0:=by
 by_cases h:i=k
 ·subst h
  by_cases h2:i<M sm
  ·simp [h2]
  ·grind
 ·simp [h]
def aGF {mo:Y}:∀ {l sm:aB}{k:aC},(∀r∈l,r.toNat≠k)->(KE sm mo l).getD k 0=sm.getD k 0
 | [],_,_,_=>rfl
 |r::l,sm,k,h=>by
  rw [sJ,aGF λx hx=>h x A8,TQ,AE λe=>h r AJ e.1]
def tS {mo:Y}:∀ {l sm:aB}{k:aC},l.Nodup->(∀r∈l,0<=r)->k<M sm->(KE sm mo l).getD k 0=sm.getD k 0+(if (k:Y)∈l then mo else 0)
 | [],sm,k,_,_,_=>by simp [KE]
 | r::l,sm,k,hn,h0,hk=>by
  rw [sJ];obtain ⟨n1,n2⟩:=MK.1 hn
  have hr:=h0 r AJ
  by_cases e:r.toNat=k
  ·rw [aGF λx hx e2=>n1 (by
    have:=h0 x A8
    have:r=x:=A0
    rw [this];exact hx),TQ,AD ⟨e,hk⟩,AD A8,e]
  ·rw [tS n2 (λx hx=>h0 x A8) A8,TQ,AE λc=>e c.1]
   have:¬(k:Y)=r:=A0
   simp [this]
def xm {mi ma st a:Y}:Hr mi ma st a<=80:=by
 have:=aU6 (mi:=mi) (ma:=ma) (st:=st)
 unfold Hr;split
 ·omega
 ·split
  ·omega
  ·omega
structure OkT (O:aI) (rows:aY) (gs:aF) (alive most order:aB):Prop where
 ol:M O=16
 ord:∀i∈order,(0<=i/\i<16)/\i<(M gs:Y)/\i<(M alive:Y)/\i<(M most:Y)
 al:∀a∈alive,0<=a/\a<=80
 mo:∀a∈most,0<=a/\a<=80
 has:∀i∈order,Dv (AG gs i).2.2.2.1 (AG gs i).2.2.2.2.1 (AG gs i).2.2.2.2.2.1=U
 row:∀o∈O,o.Nodup/\(M o:Y)<=1000/\∀r∈o,0<=r/\r<(M rows:Y)
 cap:∀r∈rows,r.1<=1000
structure OkS (rows:aY) (order sm lv:aB):Prop where
 len:M sm=M rows
 bd:∀k:aC,0<=sm.getD k 0/\sm.getD k 0<=2000
 C5:∀i∈order,i<(M lv:Y)
 lvb:∀k:aC,0<=lv.getD k 0/\lv.getD k 0<=80
def ak7 {mi st k:Y}(h:1<=mi/\mi<=80/\1<=st/\st<=80) (h0:0<=k) (h1:k<=81):0<=EA mi st k/\EA mi st k<=6480:=by
 unfold EA;split
 ·omega
 ·have a1:0<=(k-1)*st:=F7 A0 A0
  have a2:(k-1)*st<=(k-1)*80:=N8 A0 A0
  omega
def aI7 {mi st j k:Y}(h:1<=mi/\1<=st) (h0:0<=j) (h1:j<=k):EA mi st j<=EA mi st k:=by
 unfold EA;split
 ·split
  ·omega
  ·have a1:0<=(k-1)*st:=F7 A0 A0
   omega
 ·rw [AE A0]
  have:(j-1)*st<=(k-1)*st:=Gn A0 A0
  omega
def aU4 {gs:aF}{alive:aB}{i k:Y}(hh:Dv (AG gs i).2.2.2.1 (AG gs i).2.2.2.2.1 (AG gs i).2.2.2.2.2.1=U) (ha:0<=gi alive i/\gi alive i<=80) (h0:1<=k) (h1:k<=81):0<=G9 gs alive i k/\G9 gs alive i k<=10000:=by
 obtain ⟨g1,g2,g3,g4,g5⟩:=Ig.1 hh
 have b1:=ak7 (mi:=(AG gs i).2.2.2.1) (st:=(AG gs i).2.2.2.2.2.1) (k:=k) ⟨g1,A0,g4,g5⟩ A0 h1
 have b3:=aI7 (mi:=(AG gs i).2.2.2.1) (st:=(AG gs i).2.2.2.2.2.1) (j:=k-1) (k:=k) ⟨g1,g4⟩ A0 A0
 unfold G9 mx D9;omega
def Kf {l:aB}{i:Y}(h0:0<=i) (h:i<(M l:Y)):gi l i∈l:=by
 rw [Im A0];exact Gl _
theorem aSF {O:aI}{rows:aY}{gs:aF}{alive most order:aB}{level:Y}{t:Tr}{i:Y}(hT:OkT O rows gs alive most order) (hS:OkS rows order t.1 t.2.1) (hi:i∈order) (h0:1<=level) (h1:level<=81):letI b:=G6 O rows gs alive most level t i;OkS rows order b.1 b.2.1:=by
 unfold G6;split
 ·split
  ·rename_i hc hf
   obtain ⟨⟨o0,o1⟩,o2,o3,o4⟩:=hT.ord i hi
   have hl80:=xm (mi:=(AG gs i).2.2.2.1) (ma:=(AG gs i).2.2.2.2.1) (st:=(AG gs i).2.2.2.2.2.1) (a:=gi most i)
   have hl81:=hc.2
   unfold Ff at hl81
   have hm:=aU4 (gs:=gs) (alive:=alive) (k:=level) (hT.has i hi) (hT.al _<|Kf o0 o3) h0 h1
   have ho:O.getD i.toNat []∈O:=by
    have hl:=hT.ol
    grind
   obtain ⟨r1,r2,r3⟩:=hT.row _ ho
   refine ⟨by simp only;rw [qf];exact hS.len,λk=>?_,λj hj=>by simp only [C4];exact hS.C5 j hj,λk=>by
    have:=hS.lvb k
    rw [TQ];split<;>omega⟩
   by_cases hk:k<M t.1
   ·rw [tS r1 (λr hr=>(r3 r hr).1) hk]
    have hb:=hS.bd k
    split
    ·rename_i hkm
     have hfit:=BO.1 hf _ hkm
     unfold Kz at hfit;rw [Ac,C2] at hfit
     have hk2:=hS.len
     have:=hT.cap (Cn rows (k:Y)) aAF
     omega
    ·omega
   ·rw [DH,Su (by rw [qf];omega)]
    simp
  ·exact hS
 ·exact hS
def uv {O:aI}{rows:aY}{gs:aF}{alive most order:aB}{level:Y}(hT:OkT O rows gs alive most order) (h0:1<=level) (h1:level<=81):∀(l:aB) (t:Tr),(∀i∈l,i∈order)->OkS rows order t.1 t.2.1->OkS rows order (swp O rows gs alive most level t l).1 (swp O rows gs alive most level t l).2.1
 | [],t,_,h=>h
 |i::l,t,hl,h=>uv hT h0 h1 l _ (λj hj=>hl j A8)<|aSF hT h (hl i AJ) h0 h1
def rh {O:aI}{rows:aY}{gs:aF}{alive most:aB}{level:Y}:∀(l:aB) (t:Tr),(swp O rows gs alive most level t l).2.2=U->t.2.2=U\/level<=80
 | [],t,h=> .inl h
 | i::l,t,h=>by
  rcases rh l _ h with h2|h2
  ·unfold G6 at h2
   split at h2
   ·rename_i hc
    have:=xm (mi:=(AG gs i).2.2.2.1) (ma:=(AG gs i).2.2.2.2.1) (st:=(AG gs i).2.2.2.2.2.1) (a:=gi most i)
    have h3:=hc.2
    unfold Ff at h3;omega
   ·grind
  ·grind
def aeK {O:aI}{rows:aY}{gs:aF}{alive most:aB}{level:Y}{t:Tr}{i:Y}:M (G6 O rows gs alive most level t i).2.1=M t.2.1:=by
 unfold G6;split
 ·split
  ·grind
  ·rfl
 ·rfl
def aFq {O:aI}{rows:aY}{gs:aF}{alive most:aB}{level:Y}:∀(l:aB) (t:Tr),M (swp O rows gs alive most level t l).2.1=M t.2.1
 | [],t=>rfl
 |i::l,t=>(aFq l _).trans aeK
def aRd {O:aI}{rows:aY}{gs:aF}{alive most order:aB}(hT:OkT O rows gs alive most order):∀(f:aC) (level:Y) (sm lv:aB),1<=level->level<=81->OkS rows order sm lv->M (shl O rows gs alive most order f level sm lv)=M lv/\∀k:aC,0<=(shl O rows gs alive most order f level sm lv).getD k 0/\(shl O rows gs alive most order f level sm lv).getD k 0<=80
 |0,_,_,lv,_,_,h=>⟨rfl,h.lvb⟩
 | f+1,level,sm,lv,h0,h1,h=>by
  have hk:=uv hT h0 h1 order (sm,lv,X) (λ_ h=>h) h
  have hl:=aFq (O:=O) (rows:=rows) (gs:=gs) (alive:=alive) (most:=most) (level:=level) order (sm,lv,X)
  have hs:=rh (O:=O) (rows:=rows) (gs:=gs) (alive:=alive) (most:=most) (level:=level) order (sm,lv,X)
  rw [shl];split
  ·rename_i hc
   have h80:level<=80:=by
    rcases hs hc with h|h
    ·cases h
    ·exact h
   obtain ⟨g1,g2⟩:=aRd hT f (level+1) _ _ A0 A0 hk
   grind
  ·exact ⟨hl,hk.lvb⟩
def ofF (i:Y):aY->Y->List Int
 | [],_=>[]
 |r::rs,j=>(if r.2.contains j then [i] else [])++ofF (i+1) rs j
def aeE {o:aI}{f:aB->aB}{j k:aC}(h:k<M o):(o.modify j f).getD k []=if j=k then f (o.getD k []) else o.getD k []:=by
 grind
def aHO {i:Y}:∀ {l:aB}{o:aI}{k:aC},l.Nodup->(∀m∈l,0<=m)->k<M o->(L7 i o l).getD k []=o.getD k []++(if l.contains (k:Y) then [i] else [])
 | [],o,k,_,_,_=>by simp [L7]
 | m::l,o,k,hn,h0,hk=>by
  obtain ⟨n1,n2⟩:=MK.1 hn
  have hm:=h0 m AJ
  rw [rD,aHO n2 (λx hx=>h0 x A8) A8,aeE hk]
  by_cases e:m.toNat=k
  ·have e2:(k:Y)=m:=A0
   grind
  ·rw [AE e]
   have:¬(k:Y)=m:=A0
   simp [this]
def aCg (r:Rw):Prop:=r.2.Nodup/\∀m∈r.2,0<=m
def aFo:∀ {rs:aY}{o:aI}{i:Y},M (Hi o i rs)=M o
 | [],_,_=>rfl
 |r::rs,o,i=>by rw [Hi,aFo,aEt]
def aJB:∀ {rs:aY}{o:aI}{i:Y}{k:aC},(∀r∈rs,aCg r)->k<M o->(Hi o i rs).getD k []=o.getD k []++ofF i rs k
 | [],o,i,k,_,_=>by simp [Hi,ofF]
 |r::rs,o,i,k,h,hk=>by
  obtain ⟨h1,h2⟩:=h r AJ;rw [Hi,aJB (λx hx=>h x A8) (by rw [aEt];exact hk),aHO h1 h2 hk,ofF,Cw]
def TX:∀ {rs:aY}{i j x:Y},x∈ofF i rs j↔i<=x/\x<i+M rs/\(Cn rs<|x-i).2.contains j=U
 | [],i,j,x=>by simp [ofF];omega
 | r ::rs,i,j,x=>by
  rw [ofF,Bf,TX]
  by_cases e:x=i
  ·subst e
   have g0:Cn (r::rs) (x-x)=r:=by simp [Cn]
   rw [g0]
   constructor
   ·rintro (h|h)
    ·split at h
     ·rename_i hc
      grind
     ·cases h
    ·omega
   ·rintro ⟨_,_,h⟩
    rw [AD h]
    simp
  ·have hn:¬x∈(if r.2.contains j then [i] else []):=by
    split
    ·grind
    ·simp
   simp only [Bm]
   constructor
   ·rintro (h|⟨h1,h2,h3⟩)
    ·grind
    ·refine ⟨A0,A0,?_⟩
     exact aNk
   ·rintro ⟨h1,h2,h3⟩
    refine .inr ⟨A0,A0,?_⟩;exact aNk
def rH:∀ {rs:aY}{i j:Y},(ofF i rs j).Nodup
 | [],_,_=>List.nodup_nil
 | r::rs,i,j=>by
  rw [ofF];split
  ·rw [zD,MK]
   refine ⟨λh=>?_,rH⟩
   have:=(TX.1 h).1
   omega
  ·rw [Ek];exact rH
def aKD:∀ {rs:aY}{i j:Y},M (ofF i rs j)<=M rs
 | [],_,_=>Au _
 |r::rs,i,j=>by
  have:=aKD (rs:=rs) (i:=i+1) (j:=j)
  rw [ofF]
  grind
def aFn {alive:aB}:∀ {rs:aY}{sm:aB}{i:Y},M (Hh alive sm i rs)=M sm
 | [],_,_=>rfl
 |r::rs,sm,i=>by rw [Hh,aFn,C4]
def aJA {alive:aB}:∀ {rs:aY}{sm:aB}{i:Y}{k:aC},0<=i->k<M sm->(Hh alive sm i rs).getD k 0=sm.getD k 0+(if i<=(k:Y)/\(k:Y)<i+M rs then smA alive (Cn rs<|(k:Y)-i).2 else 0)
 | [],sm,i,k,_,_=>by
  rw [AE AJ]
  simp [Hh]
 | r ::rs,sm,i,k,hi,hk=>by
  rw [Hh,aJA A0 A8,TQ]
  by_cases e:i.toNat=k
  ·have e2:(k:Y)=i:=A0
   rw [AD ⟨e,hk⟩,AE A0,AD A8,e,e2]
   have:Cn (r::rs) (i-i)=r:=by simp [Cn]
   rw [this];omega
  ·rw [AE λc=>e c.1]
   by_cases c:i+1<=(k:Y)/\(k:Y)<i+1+M rs
   ·rw [AD c,AD A8]
    have:Cn (r::rs) ((k:Y)-i)=Cn rs ((k:Y)-(i+1)):=by
     unfold Cn;rw [show ((k:Y)-i).toNat=((k:Y)-(i+1)).toNat+1 by omega]
     simp
    rw [this]
   ·grind
def aRb {alive:aB}(ha:∀a∈alive,0<=a/\a<=80):∀ {l:aB},(∀m∈l,0<=m/\m<(M alive:Y))->0<=smA alive l/\smA alive l<=80*M l
 | [],_=>by simp [smA]
 |m::l,h=>by
  have h1:=aRb ha (l:=l) λx hx=>h x A8
  have hm:=h m AJ
  have:=ha (gi alive m)<|Kf hm.1 hm.2
  rw [aHc];simp only [Bm];omega
def adK {α:Type}{l:List α}(p:α->aM) (h:l.Nodup):(l.filter p).Nodup:=List.Pairwise.filter p h
def aex {cs:aJ}{gs:aF}{o:Y}{k:aC}:(Ct cs gs o k).Nodup:=by
 refine adK _ ?_;exact z8 _ (λa b h=>A0) nH
def axi {gs:aF}{p k:Y}{l:aB}:k∈C1 gs p l↔k∈l/\usA (AG gs k).2.2.1 p=true:=by simp [C1,Ck]
def adZ {cs:aJ}{gs:aF}{c p:Y}{r:Rw}(h:r∈rowP cs gs c p):r=(CW<|AZ cs c,C1 gs p<|Ct cs gs c<|M gs)/\M (C1 gs p<|Ct cs gs c<|M gs)>0:=by
 unfold rowP at h;exact o5
def sd {cs:aJ}{gs:aF}{r:Rw}:∀ {k:aC},r∈D3 cs gs k->∃c p:Y,(0<=c/\c<(k:Y))/\(p=0\/p=1\/p=2)/\r=(CW<|AZ cs c,C1 gs p<|Ct cs gs c<|M gs)/\M r.2>0
 |0,h=>As
 | k+1,h=>by
  rw [D3,Bf] at h;rcases h with h|h
  ·obtain ⟨c,p,h1,h2,h3⟩:=sd h
   grind
  ·unfold cx at h
   rw [Bf,Bf] at h;rcases h with (h|h) |h
   ·exact aA0
   ·exact aA0
   ·exact aA0
def row_mem {cs:aJ}{gs:aF}{r:Rw}{k:aC}(h:r∈D3 cs gs k):r.2.Nodup/\(∀m∈r.2,0<=m/\m<(M gs:Y))/\M r.2<=M gs/\M r.2>0:=by
 obtain ⟨c,p,h1,h2,h3,h4⟩:=sd h;subst h3;refine ⟨adK _ aex,λm hm=>Wa (axi.1 hm).1,I2 aKW rk,h4⟩
def FZ (gs:aF) (lv:aB):aB:=(au<|M gs).map λk:aC=>D9 gs (k:Y)<|lv.getD k 0
def OL (rows:aY):aI:=Hi (aq 16 []) 0 rows
def SM (alive:aB) (rows:aY):aB:=Hh alive (aq (M rows) 0) 0 rows
def G1 (cs:aJ) (os:aE) (ks:aP) (gs:aF) (bs:aQ) (al mo od:aB):aM:=B9 cs os ks gs bs&&(an (M al=M gs)&&(an (M mo=M gs)&&(al.all ID&&(mo.all ID&&H4 od (M gs)))))
def shV (rows:aY) (gs:aF) (al mo od:aB):aB:=shl (OL rows) rows gs al mo od 81 1 (SM al rows)<|aq (M al) 0
def shE (cs:aJ) (os:aE) (ks:aP) (gs:aF) (bs:aQ) (al mo od:aB):Y:=if G1 cs os ks gs bs al mo od=U then 0 else 1
def Fe (cs:aJ) (os:aE) (ks:aP) (gs:aF) (bs:aQ) (al mo od:aB):aB:=if G1 cs os ks gs bs al mo od=U then FZ gs (shV (D3 cs gs<|M cs) gs al mo od) else []
def Lc {cs:aJ}{os:aE}{ks:aP}{gs:aF}{bs:aQ}{al mo od:aB}:G1 cs os ks gs bs al mo od=U↔B9 cs os ks gs bs=U/\M al=M gs/\M mo=M gs/\al.all ID=U/\mo.all ID=U/\H4 od (M gs)=true:=by
 simp [G1]
def aTx:∀ {l:aB}{f:Y},Ix f l<=f
 | [],f=>Cb _
 |n::l,f=>by
  have:Ix f (n::l)=Ix (if n<f then n else f) l:=rfl
  have:=aTx (l:=l) (f:=if n<f then n else f)
  split at this<;>rename_i h
  ·grind
  ·grind
def aw0 {c:Cd}:CW c<=c.2.2.1:=by
 unfold CW;split<;>exact aTx
def aGo {rows:aY}:M (OL rows)=16:=by rw [OL,aFo,CV]
def yH {rows:aY}(h:∀r∈rows,aCg r) {k:aC}(hk:k<16):(OL rows).getD k []=ofF 0 rows k:=by
 rw [OL,aJB h A8]
 have:(aq 16 ([]:aB)).getD k []=[]:=by
  grind
 grind
def atz {cs:aJ}{gs:aF}{k:aC}:∀r∈D3 cs gs k,aCg r:=λr hr=>⟨(row_mem hr).1,λm hm=>((row_mem hr).2.1 m hm).1⟩
def sK {al:aB}{rows:aY}:M (SM al rows)=M rows:=by rw [SM,aFn,CV]
def aW5 {al:aB}{rows:aY}{k:aC}(hk:k<M rows):(SM al rows).getD k 0=smA al (Cn rows k).2:=by
 rw [SM,aJA (Cb _) A8,AD A0,QJ]
 grind
def aFM {od:aB}{n i:Y}(h:H4 od n=U) (hi:i∈od):0<=i/\i<n:=by
 unfold H4 at h;simp only [AY,BO] at h;exact rW.1<|h.2.1 i hi
def amJ {cs:aJ}{os:aE}{ks:aP}{gs:aF}{bs:aQ}{al mo od:aB}(h:G1 cs os ks gs bs al mo od=U):letI b:=D3 cs gs<|M cs;OkT (OL b) b gs al mo od/\OkS b od (SM al b) (aq (M al) 0):=by
 obtain ⟨hv,h1,h2,h3,h4,h5⟩:=Lc.1 h
 have hl:=(Cz.1 hv).1
 have ha:∀a∈al,0<=a/\a<=80:=λa ha=>Qm.1<|BO.1 h3 a ha
 refine ⟨⟨aGo,λi hi=>?_,ha,λa ha=>Qm.1<|BO.1 h4 a ha,λi hi=>?_,λo ho=>?_,λr hr=>?_⟩,⟨sK,λk=>?_,λi hi=>?_,λk=>?_⟩⟩
 ·have:=aFM h5 hi
  omega
 ·have hi:=aFM h5 hi
  have:=NU hv hi.1 hi.2
  exact aOm
 ·obtain ⟨k,hk,rfl⟩:=Hx.1 ho
  rw [aGo] at hk
  have e:=yH (rows:=D3 cs gs<|M cs) atz hk
  rw [DH,Di A8,nG] at e;rw [e]
  have hln:=aKD (rs:=D3 cs gs<|M cs) (i:=0) (j:=k)
  have hrn:=rU (cs:=cs) (gs:=gs) (k:=M cs)
  refine ⟨rH,A0,λr hr=>?_⟩
  have:=TX.1 hr
  omega
 ·obtain ⟨c,p,hc,hp,rfl,_⟩:=sd hr
  have hcv:=sT hv hc.1 hc.2
  unfold F4 at hcv;simp only [AY,B8] at hcv
  have:=aw0 (c:=AZ cs c)
  simp only;omega
 ·by_cases hk:k<M (D3 cs gs<|M cs)
  ·rw [aW5 hk]
   have hr:Cn (D3 cs gs<|M cs) (k:Y)∈D3 cs gs (M cs):=by rw [sD aAq];exact Gl _
   obtain ⟨m1,m2,m3,_⟩:=row_mem hr
   have:=aRb ha (l:=(Cn (D3 cs gs<|M cs) (k:Y)).2) λm hm=>A8
   omega
  ·rw [DH,Su (by rw [sK];omega)]
   simp
 ·have:=aFM h5 hi
  rw [CV];omega
 ·have:(aq (M al) (0:Y)).getD k 0=0:=by
   simp only [List.getD,Ss];split<;>rfl
  omega
def aJh {xs:aB}{r:aC}{v:Y}:(xs++aq (r+1) 0).set (M xs) v=xs++[v]++aq r 0:=by
 grind
def Se (gs:aF) (lv:aB) (n:aC):aB:=(au n).map λk:aC=>D9 gs (k:Y)<|lv.getD k 0
def aqQ {gs:aF}{lv:aB}{n:aC}:Se gs lv (n+1)=Se gs lv n++[D9 gs (n:Y)<|lv.getD n 0]:=by
 simp [Se,Sk]
def ad7 {gs:aF}{lv:aB}{n:aC}:M (Se gs lv n)=n:=by simp [Se]
def ntW {b:aM}(h:(!b)=U):b=false:=A8
def nfW {b:aM}(h:(!b)=X):b=true:=A8
def wt (n:Y):Y:=(n*1000000+999799) / 999800
def wtA (n:Y):Y:=if inB n 0 1000000=U then wt n else 0
def wtE (n:Y):Y:=if inB n 0 1000000=U then 0 else 1
def aRH {m n:Y}:m*999800 / 1000000>=n↔wt n<=m:=by
 unfold wt;omega
def apA {a b:Y}(a0:0<=a) (a1:a<=3000000) (b0:0<=b) (b1:b<=1000000):0<=a*b/\a*b<=3000000000000:=
 ⟨F7 a0 b0,F9 (N8 b1 a0) A0⟩
def aXi {n:Y}(h0:0<=n):0<=wt n/\wt n<=2*n+2:=by
 unfold wt;omega
abbrev AO:Ty:=.pair A7<|.pair A7<|.pair A7<|.pair A7 A7
abbrev Le:=Int×Int×Int×Int×Int
def aL:qT (List Le):=⟨⟩
instance:Coe (List Le) LV:=⟨.xl AO⟩
def Ap (l:aL) (n:Y):Le:=l.getD n.toNat (0,0,0,0,0)
def DN (x:Le):aM:=inB x.1 1 1000000&&(inB x.2.1 0 15&&(inB x.2.2.1 0 80&&(inB x.2.2.2.1 0 1000000&&inB x.2.2.2.2 1 1000)))
def KA (b x:Le):aM:=an (x.1>b.1)&&an (x.2.2.2.1>=b.2.2.2.1)
def HC (l:aL) (j:Y):aM:=DN (Ap l j)&&(an (j=0) ||KA (Ap l<|j-1) (Ap l j))
def B2 (l:aL):aM:=an (M l<=64)&&D5 (M l) (HC l)
def Mh {l:aL}{n:Y}(h:n.toNat<M l):Ap l n=l[n.toNat]:=Lu h
def Wf {l:aL}{i:Y}(h0:0<=i) (h:i<M l):l.drop i.toNat=Ap l i::l.drop (i+1).toNat/\l.take (i+1).toNat=l.take i.toNat++[Ap l i]:=Qt h0 h
def Ll {l:aL}{i:Y}(h0:0<=i) (h:i<M l):Ap l i∈l:=by
 rw [Mh A0]
 grind
def Ka {x:Le}:DN x=U↔(1<=x.1/\x.1<=1000000)/\(0<=x.2.1/\x.2.1<=15)/\(0<=x.2.2.1/\x.2.2.1<=80)/\(0<=x.2.2.2.1/\x.2.2.2.1<=1000000)/\1<=x.2.2.2.2/\x.2.2.2.2<=1000:=by
 unfold DN;simp only [AY,B8]
def GP {l:aL}(h:B2 l=U):M l<=64/\∀x∈l,DN x=true:=by
 unfold B2 at h;rw [AY] at h;refine ⟨DJ h.1,λx hx=>?_⟩
 obtain ⟨k,hk,rfl⟩:=Hx.1 hx
 have:=DQ.1 h.2 k A0
 unfold HC at this;rw [AY,Mh A8] at this
 grind
def DS (x:Le):Y:=x.2.2.2.1+10+wt x.2.2.2.2
def LC (t:Y) (x:Le):aM:=an<|DS x>t
def L0 (l:aL) (t:Y):aM:=B2 l&&inB t 0 1100000
def BX (l:aL) (t:Y):aL:=if L0 l t=U then l.filter (LC t) else []
def DT (l:aL) (t:Y):Y:=if L0 l t=U then 0 else 1
def Fa (l:aL) (x:Le):Y:=if (B2 l&&DN x)=U then (if (an (M l>0)&&!KA (Ap l<|(M l:Y)-1) x)=U then 12 else if M l=64 then 10 else 0) else 1
def GS (l:aL) (x:Le):aL:=if Fa l x=0 then l++[x] else []
end Go.Proofs.YtpdndmobphnjcaaGreatDoor
namespace Go.Sx
open Go.Proofs.YtpdndmobphnjcaaGreatDoor
variable {P : Program} {G : BA} {Γ : Specs} {σ : Type}
structure CpD (σ:Type) where
 A:σ->List LV
 B:σ->List AB
 g:aD->aG->σ
 E:σ->Prop
 mu:σ->Nat
 r:σ->σ
namespace CpD
variable (D : CpD σ)
def m (n:aC) (args:aD) (H:aG):T (LV×List AB):=(Vh H args).bind λa=>(dG H H).bind λb=>
 .req (D.E (D.g a b)/\D.mu (D.g a b)<n/\D.A (D.g a b)=a/\D.B (D.g a b)=b) (.ok (.v<|.tuple #[],D.B<|D.r<|D.g a b))
variable {D}
def ij {n:aC}{args:aD}{H:aG}{q:LV×List AB}(h:(D.m n args H).all λz=>z=q):∃s,D.E s/\D.mu s<n/\D.A s=args/\D.B s=H/\q=(.v<|.tuple #[],D.B<|D.r s):=by
 unfold m at h;obtain ⟨a,h1,h2⟩:=T.B7 h;obtain ⟨b,h3,h4⟩:=T.B7 h2
 have e1:=fm h1
 have e2:=gC h3
 obtain ⟨⟨g1,g2,g3,g4⟩,g5⟩:=h4;exact ⟨_,g1,g2,g3.trans e1,g4.trans e2,g5.symm⟩
def one (c:bn) (m:aD->aG->T (LV×List AB)):Does:=λg=>if g=c then ah m else aj
def XH {c:bn}{m:aD->aG->T (LV×List AB)}(h:Dn P G c m):∀g m',one c m g=ah m'->Dn P G g m':=λg m' e=>by
 unfold one at e;split at e
 ·rename_i q
  subst q;cases e;exact h
 ·cases e
def sound {LL:DZ}{c:bn}{d:aC}(hΓ:∀g S,Γ g=ah S->Valid P G g S) (hLL:EZ P G LL)
  (hstep:∀(n:aC) (s:σ),D.E s->D.mu s<=n->Sc (λq=>q=(.v<|.tuple #[],D.B<|D.r s)) ((Ep P G Γ LL<|Vn P G Γ LL (one c<|D.m n) d).k c (D.A s)<|D.B s)):∀n,Dn P G c (D.m n)
 |0=>λw0 Z0 Z β H w args vals lv H' hW hr hok hq=>by
  obtain ⟨s,_,h,_⟩:=ij hq;exact absurd h (Nat.not_lt_zero _)
 |n+1=>Dn.walk hΓ hLL (aEz hΓ hLL (XH<|sound hΓ hLL hstep n) d) λargs H lv H' hq=>by
  obtain ⟨s,h1,h2,h3,h4,h5⟩:=ij hq;rw [<-h3,<-h4,h5];exact (hstep n s h1<|Nat.le_of_lt_succ h2).out
end CpD
end Go.Sx
namespace Go.Sx
open Go Go.RowKit Go.Proofs.YtpdndmobphnjcaaGreatDoor
variable {P : Program} {G : BA} {Γ : Specs} {σ τ : Type}
def Pt (ks:aH) (H:aG):aG:=ks.foldl (λH k=>H.set k ⟨[],0,.dead,X⟩) H
def adt (ks:aH):∀(H:aG),M (Pt ks H)=M H:=by
 induction ks with
 |nil=>intro H;rfl
 |cons k ks ih=>intro H;simp only [Pt,KK] at ih|-;rw [ih];simp
def RW.kills {w0 w:aO}{Z0:Gz}{Z:aC->Prop}{β:aC->aXS}(ks:aH):∀ {H:aG},RW G w0 Z0 Z β H w->RW G w0 Z0 Z β (Pt ks H) w:=by
 induction ks with
 |nil=>intro H h;exact h
 |cons k ks ih=>intro H h;simp only [Pt,KK] at ih|-;exact ih<|h.kill k 0
structure DA (σ τ:Type) where
 A:σ->List LV
 B:σ->List AB
 g:aD->aG->σ
 E:σ->Prop
 kl:aH
 us:List Up
 V:τ->LV
 C:τ->List AB
 r:σ->τ
namespace DA
variable {D : DA σ τ}
def m (D:DA σ τ) (args:aD) (H:aG):T (LV×List AB):=(Vh (Pt D.kl H) args).bind λa=>(dG (Pt D.kl H)<|Pt D.kl H).bind λb=>
 .req (D.E (D.g a b)/\D.A (D.g a b)=a/\D.B (D.g a b)=b) (.ok (D.V<|D.r<|D.g a b,D.C<|D.r<|D.g a b))
def ij {args:aD}{H:aG}{q:LV×List AB}(h:(D.m args H).all λz=>z=q):∃s,D.E s/\D.A s=args/\D.B s=Pt D.kl H/\q=(D.V<|D.r s,D.C<|D.r s):=by
 obtain ⟨a,h1,h2⟩:=T.B7 h;obtain ⟨b,h3,h4⟩:=T.B7 h2
 have e1:=fm h1
 have e2:=gC h3
 obtain ⟨⟨g1,g3,g4⟩,g5⟩:=h4;exact ⟨_,g1,g3.trans e1,g4.trans e2,g5.symm⟩
def sound {LL:DZ}{K:aX5}{c:bn}{t:σ->T τ}(hΓ:∀g S,Γ g=ah S->Valid P G g S) (hLL:EZ P G LL) (hK:Ft P G K)
  (hnf:∀s,((Ep P G Γ LL K).k c (D.A s)<|D.B s).bind (λq=>GW (M<|D.B s) [0] D.us .normal (q.1::D.A s) q.2)=(t s).mp (λs2=>⟨.normal,M (D.A s)+1,[D.V s2],D.C s2,U⟩))
  (ht:∀s,D.E s->Sc (λs2=>s2=D.r s) (t s)):Dn P G c D.m:=λw0 Z0 Z β H w args vals lv H' hW hr hok hq=>by
 obtain ⟨s,h1,h2,h3,h4⟩:=ij hq;simp only [Az] at h4;obtain ⟨rfl,rfl⟩:=h4
 have hall:((t s).mp λs2=>(⟨.normal,M (D.A s)+1,[D.V s2],D.C s2,U⟩:Vw)).all (λz=>z=⟨.normal,M (D.A s)+1,[D.V<|D.r s],D.C<|D.r s,U⟩):=T.Xb<|T.BQ (λx hx=>by rw [hx]) (ht s h1).out
 rw [<-hnf s] at hall;obtain ⟨⟨lv1,H1⟩,q1,q2⟩:=T.B7 hall;simp only at q2
 have hWk:RW G w0 Z0 Z β (D.B s) w:=by rw [h3];exact hW.kills D.kl
 have hlen:M (D.B s)=M H:=by rw [h3,adt]
 have hsz:vals.size=M args:=by have:=hr.length;simpa using this
 let a0:bg:={tmps:=vals,defers:=[]}
 have hF0:RF [] β Z w (M<|D.B s) args a0:=by
  refine ⟨hsz,λt x hx=>?_,rfl,λd hd=>Va⟩
  obtain ⟨y,e1,e2⟩:=RL.get t x hr hx
  have:vals.getD t undef=y:=by
   have e3:t<vals.size:=A8
   have e4:vals[t]? =ah y:=by simpa using e1
   rw [zR e3] at e4
   simp [Array.getD,e3,Ej e4]
  refine ⟨?_,by rw [hlen];exact AU.get t x hok hx⟩
  show R β Z w x (vals.getD t undef)
  rw [this];exact e2
 rw [h2] at q1;refine ((qa hΓ hLL hK).k w0 _ Z β (D.B s) w c args vals lv1 H1 (hWk.hold hF0) hr (by rw [hlen];exact hok) q1).mono λe w' ⟨v,he,Z',β',r1,r2,r3⟩=>⟨v,he,?_⟩
 have hF1:=RW.held hF0 r1
 have hF2:RF [] β' Z' w' (M H1) (lv1::D.A s) {tmps:=#[v]++vals,defers:=[]}:=by
  refine ⟨by simp [h2,hsz];omega,λt x hx=>?_,rfl,λd hd=>Va⟩
  cases t with
  | zero=>
   simp only [List.getElem?_cons_zero,Aj] at hx;subst hx
   exact ⟨by
    have e:(#[v]++vals).getD 0 undef=v:=aQK
    rw [e];exact r2,r3⟩
  | succ t=>
   rw [h2] at hx
   have:=hF1.get t x hx
   have e:(#[v]++vals).getD (t+1) undef=vals.getD t undef:=by
    have ht:t<vals.size:=A8
    simp [Array.getD,ht,Array.getElem_append,show t+1<1+vals.size by omega]
   grind
 have hgh:AN (M<|D.B s) Z0:=λp hp=>by rw [hlen];exact (hW.gh p hp).2
 obtain ⟨_,_,Z2,β2,k1,k2⟩:=eM hgh r1.less hF2 q2 rfl;refine ⟨Z2,β2,k1,?_⟩
 have hx:(HO (M (lv1::D.A s)) [0] [D.V<|D.r s])[0]? =ah (D.V<|D.r s):=by
  simp [HO,Qu,at_]
 have:=k2.get 0 _ hx
 have e:(#[v]++vals).getD 0 undef=v:=aQK
 refine ⟨?_,this.2⟩
 have h5:=this.1
 rwa [e] at h5
end DA
def EP (n m:aC):aH:=(au n).map (·+m)++au m
def azG {n m i:aC}(h:i<n):(EP n m)[i]? =ah (i+m):=by
 unfold EP;rw [I1 A8]
 simp [h]
def azH {n m i:aC}(h:i<m):(EP n m)[n+i]? =ah i:=by
 unfold EP
 simp [h]
def aJg {n m:aC}:M (EP n m)=n+m:=by simp [EP]
def gH {n m k:aC}:k∈EP n m↔k<n+m:=by
 unfold EP;simp only [Bf,FP,LQ];refine ⟨λh=>?_,λh=>?_⟩
 ·omega
 ·by_cases h1:k<m
  ·grind
  ·exact .inl ⟨k-m,A0,A0⟩
def aGG:∀ {ks:aH},ks.Nodup->nodupB ks=U
 | [],_=>rfl
 |k::ks,h=>by
  obtain ⟨h1,h2⟩:=MK.1 h;simp only [nodupB,AY,DB];exact ⟨A8,aGG h2⟩
def apv {n m:aC}:nodupB (EP n m)=true:=by
 apply aGG
 unfold EP;rw [yz];refine ⟨?_,nH,λx hx y hy e=>?_⟩
 ·exact z8 _ (λa b (h:a≠b) e=>h A8)<|nH (n:=n)
 ·obtain ⟨j,_,rfl⟩:=FP.1 hx
  have:=LQ.1 hy
  omega
def RW.join {w0 w w':aO}{Z0:Gz}{Z Z':aC->Prop}{β β':aC->aXS}{H Hn:aG}(hW:RW G w0 Z0 Z β H w) (hS:RW G w ⟨Z,[],[]⟩ Z' β' Hn w'):
  ∃β2,(∀k,k<M H->β2 k=β k)/\(∃β1,(∀k,k<M Hn->β1 k=β' k)/\Rn (EP (M H)<|M Hn) β1 β2)/\RW G w0 Z0 (λb=>Z b\/Z' b) β2 (H++Hn.map (Ip<|EP (M H)<|M Hn)) w':=by
 generalize hn:M H=n;generalize hm:M Hn=m
 let β1:aC->aXS:=λk=>if k<m then β' k else β (k-m)
 have hb1:∀k,k<m->β1 k=β' k:=λk hk=>by simp only [β1];rw [AD hk]
 have hb1':∀k,β1 (k+m)=β k:=λk=>A8
 have hD:RW G w ⟨Z,[],[]⟩ Z' β1 (Hn++aq n GQ) w':=hS.acA λk hk=>hb1 k<|hm▸hk
 have hget:∀k,k<m->(Hn++aq n GQ)[k]? =Hn[k]? :=λk hk=>I1<|hm▸hk
 have hgetd:∀k,m<=k->k<n+m->(Hn++aq n GQ)[k]? =ah GQ:=λk h1 h2=>by
  grind
 have hcl:Kb (Hn++aq n GQ) (EP n m) []=true:=by
  unfold Kb;simp only [AY,BO];refine ⟨λx hx=>by simp [ownsL] at hx,λk hk=>?_⟩
  have hk:=gH.1 hk
  by_cases h1:k<m
  ·rw [hget k h1]
   obtain ⟨b,hb⟩:∃b,Hn[k]? =ah b:=⟨_,Di<|hm▸h1⟩;rw [hb];simp only [BO];intro j hj
   have:=aHF (hS.blk k b hb).2 j hj
   rw [Zv,gH];omega
  ·rw [hgetd k A0 hk]
   simp [GQ,AB.owns,ownsL]
 obtain ⟨β2,r1,r2⟩:=hD.ren (N:=0) (Z0:=⟨Z,[],[]⟩) (λp hp=>ot) hcl apv LW
 have hag:∀k,k<n->β2 k=β k:=λk hk=>by rw [r1 k (k+m)<|azG hk,hb1']
 have hnew:∀i,i<m->((EP n m).map λk=>Ip (EP n m)<|(Hn++aq n GQ).getD k Uu)[n+i]? =(Hn[i]?).map (Ip<|EP n m):=λi hi=>by
  rw [Dr,azH hi];simp only [Jn,DH,hget i hi];rw [Di<|hm▸hi]
  simp
 refine ⟨β2,hag,⟨β1,hb1,r1⟩,?_⟩
 have hbw:Below w.heap.size w w':=hS.below
 have old:∀i b,(H++Hn.map (Ip<|EP n m))[i]? =ah b->(i<n/\H[i]? =ah b/\β2 i=β i)\/(n<=i/\((EP n m).map λk=>Ip (EP n m)<|(Hn++aq n GQ).getD k Uu)[i]? =ah b):=λi b h=>by
  by_cases hi:i<n
  ·rw [I1<|hn▸hi] at h
   exact .inl ⟨hi,h,hag i hi⟩
  ·have hlt:=(EI.1 h).1
   simp only [BG,GK,hn,hm] at hlt;rw [Gp A0,Dr,hn] at h;refine .inr ⟨A0,?_⟩
   have:=hnew (i-n) A0
   rw [show n+(i-n)=i by omega] at this
   rw [this];exact h
 have hlive:∀i b,i<n->β2 i=β i->(live β2 i b↔live β i b):=λi b _ e=>by unfold live;rw [e]
 have hlen:M (H++Hn.map (Ip<|EP n m))=n+m:=by simp [hn,hm]
 have hlen2:M ((EP n m).map λk=>Ip (EP n m)<|(Hn++aq n GQ).getD k Uu)=n+m:=by simp [aJg]
 refine ⟨⟨hbw.os.trans hW.below.os,hbw.tape.trans hW.below.tape,hbw.output.trans hW.below.output,I2 hW.below.size hbw.size,λk hk=>?_⟩,λb hz=>?_,λb hz=>?_,λi b hb hl hp=>?_,λi b hb hl hp=>?_,λi b hb hl=>?_,λi j bi bj hi hj li lj pi e=>?_,λi b hb=>?_,?_,λp hp=>?_,λD hD=>?_⟩
 ·rw [hbw.block k<|bH hk hW.below.size];exact hW.below.block k hk
 ·rcases hz with h|h
  ·exact bH (hW.Bc b h) hbw.size
  ·exact hS.Bc b h
 ·rcases hz with h|h
  ·exact hW.Et b h
  ·rcases hS.Et b h with h|h
   ·exact hW.Et b h
   ·exact .inr<|I2 hW.below.size h
 ·rcases old i b hb with ⟨h1,h2,h3⟩ |⟨h1,h2⟩
  ·have hl':=(hlive i b h1 h3).1 hl
   rw [h3];intro hz;rcases hz with h|h
   ·exact hW.Cr i b h2 hl' hp h
   ·rcases hS.Et _ h with h|h
    ·exact hW.Cr i b h2 hl' hp h
    ·have:=hW.lt h2 hl'
     omega
  ·intro hz
   rcases hz with h|h
   ·have h4:=r2.low i b h2 hl
    have:=hW.Bc _ h
    omega
   ·exact r2.Cr i b h2 hl hp h
 ·rcases old i b hb with ⟨h1,h2,h3⟩ |⟨h1,h2⟩
  ·rw [h3];exact .inl<|hW.GV i b h2 ((hlive i b h1 h3).1 hl) hp
  ·exact .inr<|r2.GV i b h2 hl hp
 ·rcases old i b hb with ⟨h1,h2,h3⟩ |⟨h1,h2⟩
  ·rw [h3];exact hW.low i b h2<|(hlive i b h1 h3).1 hl
  ·exact I2 hW.below.size<|r2.low i b h2 hl
 ·rcases old i bi hi with ⟨h1,h2,h3⟩ |⟨h1,h2⟩<;>rcases old j bj hj with ⟨g1,g2,g3⟩ |⟨g1,g2⟩
  ·rw [h3,g3] at e
   exact hW.inj i j bi bj h2 g2 ((hlive i bi h1 h3).1 li) ((hlive j bj g1 g3).1 lj) pi e
  ·rw [h3] at e
   have:=hW.lt h2<|(hlive i bi h1 h3).1 li
   have:=r2.low j bj g2 lj
   omega
  ·rw [g3] at e
   have:=hW.lt g2<|(hlive j bj g1 g3).1 lj
   have:=r2.low i bi h2 li
   omega
  ·exact r2.inj i j bi bj h2 g2 li lj pi e
 ·rcases old i b hb with ⟨h1,h2,h3⟩ |⟨h1,h2⟩
  ·obtain ⟨q1,q2⟩:=hW.blk i b h2
   refine ⟨Bb.keep (n:=M H) (λk hk=>hag k<|hn▸hk) (λ_ h=> .inl h) (λb hz=>hbw.block b<|hW.Bc b hz) h3 (λhl=>hbw.block _<|hW.lt h2 hl) q2 q1,?_⟩
   rw [hlen]
   exact ⟨AU.mono A0 _ q2.1,by
    have:=q2.2
    cases hk:b.k with
    |mp kd ks vs=>rw [hk] at this;exact AU.mono A0 _ this
    |_=>trivial⟩
  ·obtain ⟨q1,q2⟩:=r2.blk i b h2
   refine ⟨Bb.keep (n:=n+m) (λ_ _=>rfl) (λ_ h=> .inr h) (λ_ _=>rfl) rfl (λ_=>rfl) (by rw [hlen2] at q2;exact q2) q1,?_⟩
   rw [hlen];rw [hlen2] at q2;exact q2
 ·exact hW.Cy.mono (λ_ h=> .inl h) λb hz=>hbw.block b<|hW.Bc b hz
 ·obtain ⟨q1,q2⟩:=hW.gh p hp
  exact ⟨R.mono (n:=M H) (λk hk=>hag k<|hn▸hk) (λ_ h=> .inl h) (λb hz=>hbw.block b<|hW.Bc b hz) _ _ q2 q1,okV.mono (by rw [hlen];omega) _ q2⟩
 ·obtain ⟨q1,q2⟩:=hW.Cv D hD
  exact ⟨.inl q1,by unfold Fz at*;rw [hbw.block D<|hW.Bc D q1];exact q2⟩
def R5 (S:aD->T (LV×List AB)) (args:aD) (H:aG):T (LV×List AB):=
 if noOwnL args then (S args).bind λq=> .ok (renV (EP (M H)<|M q.2) q.1,H++q.2.map (Ip<|EP (M H)<|M q.2)) else .no
def aHm {g:bn}{m:aD->aG->T (LV×List AB)}(h:Dn P G g m):Dn P G g (R5 λargs=>m args []):=λw0 Z0 Z β H w args vals lv H' hW hr hok hq=>by
 unfold R5 at hq;split at hq
 ·rename_i hno
  obtain ⟨⟨lv1,Hn⟩,h1,h2⟩:=T.B7 hq;obtain ⟨rfl,rfl⟩:=h2
  have hok0:=noOwnL_ok args hno hok
  have hW1:RW G w ⟨Z,[],[]⟩ Z β [] w:=⟨Below.refl _ _,hW.Bc,λb hz=> .inl hz,λk b hb=>A8,λk b hb=>A8,λk b hb=>A8,λi j bi bj hb=>AJ,λk b hb=>A8,hW.Cy,λp hp=>ot,λD hD=>(by cases hD)⟩
  refine (h w ⟨Z,[],[]⟩ Z β [] w args vals lv1 Hn hW1 hr hok0 h1).mono λe w' ⟨v,he,Z',β',r1,r2,r3⟩=>⟨v,he,?_⟩
  obtain ⟨β2,a1,⟨β1,a2,a3⟩,a4⟩:=hW.join r1;refine ⟨_,β2,a4,?_,?_⟩
  ·have q:=R.mono (n:=M Hn) (Z':=λb=>Z b\/Z' b) (w':=w') a2 (λ_ h=> .inr h) (λ_ _=>rfl) _ _ r3 r2
   exact ren_R a3 _ _ (λk hk=>gH.2 aQp) r3 q
  ·have:=ren_ok (ks:=EP (M H)<|M Hn) _ (λk hk=>gH.2 aQp) r3
   rw [aJg] at this
   grind
 ·cases hq
end Go.Sx
namespace Go.Proofs.YtpdndmobphnjcaaGreatDoor
set_option maxRecDepth 100000
set_option maxHeartbeats 4000000
open Go.Proofs.Tryz
open Go.Sx
def V3:aC->Int
 |0=>1
 |1=>1
 |2=>1
 |3=>0
 |4=>2
 |5=>2
 |_=>3
def Tt (j:aC):Y:=[-1,-1,-1,-1,-1,-1,1,-1,-1,-1,-1,-1,-1,0,-1,-1,-1,-3,-1,2,-1,-1,-1,-1,-1,-1,-3,-1,-1,-1,-1,-1,-1,4,-1,-1,-1,-1,-1,-1,-3,-1,-2,-2,-2,-2,-2,-2,-2,-2,-2,-2,-2,-2,0,1,1,1,1,-3].getD j 0
def aEN:aC->Int
 |0=>4
 |1=>1
 |2=>1
 |3=>4
 |_=>2
def AT:BA:=fun
 |2=>ah (8,λj=> ag J<|V3 j)
 |0=>ah (60,λj=> ag J<|Tt j)
 |1=>ah (5,λj=> ag J<|aEN j)
 |_=>aj
structure Bd where
  f:bn
  S:aD->T LV
  v:Valid prog AT f S
def aN:qT (List Bd):=⟨⟩
def gm:aN->Specs
  | [],_=>aj
  |b::l,g=>if g=b.f then ah b.S else gm l g
def gk:∀(l:aN) g S,gm l g=ah S->Valid prog AT g S
  | [],_,_,h=>As
  | b::l,g,S,h=>by
    simp only [gm] at h;split at h
    · rename_i hg;simp only [Aj] at h;subst h hg;exact b.v
    · exact gk l g S h
structure LBx where
  L:DZ
  h:EZ prog AT L
structure Ax where
  K:aX5
  h:Ft prog AT K
end Go.Proofs.YtpdndmobphnjcaaGreatDoor
end
