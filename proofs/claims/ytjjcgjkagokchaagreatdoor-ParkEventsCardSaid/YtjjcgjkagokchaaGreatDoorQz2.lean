/- Helpers for ParkEvents. Conditions: none. -/
import Derived.Test.YtjjcgjkagokchaaGreatDoorQz1
set_option linter.defProp false
set_option linter.unusedVariables false
set_option linter.unusedSimpArgs false
noncomputable section
open List renaming length→M,length→aa,replicate→aq,range→au
open Bool renaming true→U,true→ae,false→X,false→af
open Go.Value renaming int→ag
open Option renaming some→ah,none→aj
open Go.IntKind renaming i64→J,i64→ai,u8→aw,u32→ax
open True renaming intro→ak
open Decidable renaming decide→an
open ByteArray renaming mk→av
open Go.Region renaming ready→ay,wanted→az
open Go.Instr renaming findNow→aA
namespace Go.Sx
open Go Go.RowKit Go.Proofs.YtjjcgjkagokchaaGreatDoor
variable {P : Program} {G : Globs} {Γ : Specs} {β : Nat -> Loc} {Z : Nat -> Prop} {Z0 : Gz} {w w0 : World} {F : List LV} {H : List Blk} {a : Act} {ds : List Deferred}
def Ev.trans {a b c:bx}(h:Ev a b) (g:Ev b c):Ev a c:=⟨λhc=>by
 obtain ⟨h1,h2,h3⟩:=h.cl hc;obtain ⟨g1,g2,g3⟩:=g.cl h1;exact ⟨g1,g2.trans h2,g3.trans h3⟩,λβ k hl=>h.live β k<|g.live β k hl,λhp=>h.p<|g.p hp⟩
def EvL (H H':aE):Prop:=∀(k:aC) (b:bx),H[k]? =ah b->∃b':bx,H'[k]? =ah b'/\Ev b b'
def EvL.refl (H:aE):EvL H H:=λ_ b hb=>⟨b,hb,Ev.refl b⟩
def EvL.app (H E:aE):EvL H (H++E):=λk b hb=>⟨b,A8,Ev.refl b⟩
def EvL.trans {A B C:aE}(h:EvL A B) (g:EvL B C):EvL A C:=λk b hb=>by
 obtain ⟨b1,h1,h2⟩:=h k b hb;obtain ⟨b2,g1,g2⟩:=g k b1 h1;exact ⟨b2,g1,h2.trans g2⟩
def EvL.set {k0:aC}{b0 nb:bx}(hb0:H[k0]? =ah b0) (he:Ev b0 nb):EvL H (H.set k0 nb):=λk b hb=>by
 rw [Fm]
 by_cases hkk:k0=k
 ·subst hkk
  grind
 ·rw [AE hkk];exact ⟨b,hb,Ev.refl b⟩
def EvL.pub (ks:aH):EvL H (pubGo ks 0 H):=λk b hb=>by
 rw [pubGo_get,hb];split
 ·exact ⟨_,rfl,λh=>⟨h,rfl,rfl⟩,λ_ _ h=>h,λh=>Ab⟩
 ·exact ⟨_,rfl,Ev.refl b⟩
def storeL_ev {t:aS}{x y:LV}{H':aE}(h:(storeL P H t x y).all λq=>q=H'):EvL H H':=by
 unfold storeL at h;split at h
 ·split at h
  ·split at h
   ·rename_i hb
    split at h
    ·rename_i hle
     subst h;refine EvL.set hb ⟨λhc=>⟨hc,rfl,?_⟩,λ_ _ h=>h,λh=>h⟩
     simp only [setAt,Av,IN,DV];omega
    ·cases h
   ·cases h
  ·split at h
   ·rename_i hb
    split at h
    ·simp only [T.all] at h
     obtain ⟨_,h⟩:=h;split at h
     ·simp only [T.all] at h
      subst h;exact aIk
     ·cases h
    ·cases h
   ·cases h
  ·cases h
 ·cases h
def insM_ev {t:aS}{x i y:LV}{H':aE}(h:(insM P H t x i y).all λq=>q=H'):EvL H H':=by
 unfold insM at h;split at h
 ·split at h
  ·split at h
   ·rename_i hb
    split at h
    ·simp only [T.all] at h
     exact aIa
    ·cases h
   ·cases h
  ·cases h
 ·cases h
def insL_ev {t:aS}{x i y:LV}{H':aE}(h:(insL P H t x i y).all λq=>q=H'):EvL H H':=by
 unfold insL at h;split at h
 ·split at h
  ·rename_i hb
   split at h
   ·split at h
    ·simp only [T.all] at h
     obtain ⟨_,h⟩:=h;exact aIa
    ·cases h
   ·cases h
  ·exact insM_ev h
 ·exact insM_ev h
def makeL_ev {t:aS}{n c lv:LV}{H':aE}(h:(makeL P H t n c).all λq=>q=(lv,H')):EvL H H':=by
 unfold makeL at h;split at h
 ·split at h
  ·split at h
   ·split at h
    ·exact aJb
    ·cases h
   ·cases h
  ·cases h
 ·cases h
def copyL_ev {t tx:aS}{x y lv:LV}{H':aE}(h:(copyL P H t tx x y).all λq=>q=(lv,H')):EvL H H':=by
 unfold copyL at h;split at h
 ·split at h
  ·split at h
   ·rename_i hb
    split at h
    ·split at h
     ·obtain ⟨q,_,h⟩:=T.bind_all h
      simp only [T.all,Ai] at h;rw [<-h.2.2];exact aIk
     ·cases h
    ·cases h
   ·cases h
  ·cases h
 ·cases h
def appendL_ev {t tx:aS} {x y lv:LV} {H':aE} (h:(appendL P H t tx x y).all λq=>q=(lv,H')):EvL H H':=by
 unfold appendL at h;split at h
 ·split at h
  ·split at h
   ·obtain ⟨q,_,h⟩:=T.bind_all h
    ·split at h
     ·exact aJb
     ·split at h
      ·rename_i hb
       split at h
       ·split at h
        ·simp only [T.all,Ai] at h
         rw [<-h.2.2];refine (EvL.set hb ?_).trans<|EvL.app _ _;exact ⟨λhc=>sI,λ_ _ h=>by simp [live] at h,λ_=>rfl⟩
        ·cases h
       ·cases h
      ·cases h
     ·cases h
   ·cases h
  ·cases h
 ·cases h
end Go.Sx
namespace Go.Sx
open Go Go.RowKit Go.Proofs.YtjjcgjkagokchaaGreatDoor
variable {P : Program} {G : Globs} {Γ : Specs} {K : Hand} {β : Nat -> Loc} {Z : Nat -> Prop} {Z0 : Gz} {w w0 : World} {F : List LV} {H : List Blk} {a : Act} {ds : List Deferred} {n : Nat}
def RF.put (hF:RF ds β Z w n F a) {lv:LV}{v:aV}(hr:R β Z w lv v) (hk:okV n lv) (d:bB):RF ds β Z w n (setF F d lv) (a.put d v):=by
 cases d with
 |none=>exact hF
 | some d=>
  refine ⟨by simp [setF,Act.put,hF.size],λt x hx=>?_,hF.defers⟩
  simp only [setF] at hx;rw [Fm] at hx;simp only [Act.put]
  have hlt:t<M F:=by
   by_cases ht:t<M F
   ·exact ht
   ·exfalso
    split at hx
    ·split at hx
     ·omega
     ·cases hx
    ·grind
  have hta:t<a.tmps.size:=by rw [hF.size];exact hlt
  by_cases hdt:d=t
  ·subst hdt
   have:(a.tmps.setIfInBounds d v).getD d undef=v:=EN
   grind
  ·rw [AE hdt] at hx
   have:(a.tmps.setIfInBounds d v).getD t undef=a.tmps.getD t undef:=EN
   rw [this];exact hF.get t x hx
def RF.know (hF:RF ds β Z w n F a) {d:aC}{lv:LV}(hr:R β Z w lv<|a.tmps.getD d undef) (hk:okV n lv):RF ds β Z w n (F.set d lv) a:=by
 refine ⟨by simp [hF.size],λt x hx=>?_,hF.defers⟩
 rw [Fm] at hx
 by_cases hdt:d=t
 ·subst hdt
  simp only [BP] at hx;split at hx
  ·grind
  ·cases hx
 ·rw [AE hdt] at hx;exact hF.get t x hx
def RF.pass (hF:RF ds β Z w n F a) (d:bB):RF ds β Z w n (setF F d<|.v undef) (a.put d undef):=hF.put (lv:=.v undef) H0 trivial d
def wp_of_act' {o:aU}{K:bc->aO->Prop}{Q:aMm->bc->aO->Prop}(h:actUpon P (λv w'=>K (a.put o.dst v) w')<|(execOp a.eval o).run P w) (r:bn) (m:aC):o.wpIn (fen r) m P a w K Q:=by
 have hnd:∀c,o.op≠ .defer c:=λc hc=>by
  rcases defer_upon (P:=P) (ρ:=a.eval) (w:=w) hc with ⟨d,w',e⟩ |⟨d,w',e⟩<;>rw [e] at h<;>simp only [actUpon] at h
 refine ⟨λ_ _=>trivial,?_⟩
 rw [semAt_eq hnd];generalize (execOp a.eval o).run P w=res at*;cases res with
 |ok m w'=>
  cases m<;>simp only [actUpon] at h<;>simp only [Oper.uponIn]
  case value u=>exact h
  case skip=>exact h
  case enter f args=>exact ⟨λh=>Ab,QU.2<|h.mono λe w'' ⟨v,he,hk⟩=>A8⟩
  case round l f tmps assign body=>exact ⟨λh=>Ab,round_wide<|h.mono λe w'' ⟨v,he,hk⟩=>A8⟩
 |halt x w'=>simp only [actUpon] at h
def wanted_of {ops:aJ}{o:aU}{j d:aC}{want b:aL}(hg:o.guard=ah (j,want)) (hd:(ops[j]?).bind (·.dst)=ah d) (hv:a.tmps[d]? =ah (.bool b)):az o (yielded ops a.tmps)=(b==want):=by
 exact aJ5
def wanted_none {ops:aJ}{o:aU}{j d:aC}{want:aL}{vs:aW}(hg:o.guard=ah (j,want)) (hd:(ops[j]?).bind (·.dst)=ah d) (hv:a.tmps[d]? =ah (.tuple vs)):az o (yielded ops a.tmps)=false:=by
 exact aJ5
def RF.slot (hF:RF ds β Z w n F a) {d:aC}{x:LV}(hx:F.getD d .junk=x) (hj:x≠ .junk):F[d]? =ah x/\a.tmps[d]? =ah (a.tmps.getD d undef):=by
 cases h:F[d]? with
 |none=>simp [List.getD,h] at hx;exact absurd hx.symm hj
 |some y=>
  simp [List.getD,h] at hx
  subst hx;refine ⟨rfl,?_⟩
  have:d<a.tmps.size:=by rw [hF.size];exact (Ce.1 h).1
  simp_all
def RW.less {gh:List<|LV×Value}{mk:aH}(hW:RW G w0 ⟨Z0.z,gh++Z0.gh,mk++Z0.mks⟩ Z β H w):RW G w0 Z0 Z β H w:=⟨hW.below,hW.zlt,hW.znew,hW.zown,hW.zpub,hW.low,hW.inj,hW.blk,hW.glob,λp hp=>hW.gh p<|BN.2<|.inr hp,λD hD=>hW.mks D<|BN.2<|.inr hD⟩
def dsB:aL0->List Nat
 | []=>[]
 |⟨.collected D,_⟩::ds=>D::dsB ds
 |_::ds=>dsB ds
def mem_dsB:∀ {ds:aL0}{D:aC},markOf D∈ds->D∈dsB ds
 | d::ds,D,h=>by
  rcases Ak.1 h with h|h
  ·rw [<-h];simp [dsB,markOf]
  ·unfold dsB
   split
   ·grind
   ·rename_i e;simp only [FL] at e;rw [<-e.2];exact O9 _<|mem_dsB h
   ·rename_i e;simp only [FL] at e;rw [<-e.2];exact mem_dsB h
def of_dsB:∀ {ds:aL0}{D:aC},D∈dsB ds->(∀d,d∈ds->∃D,d=markOf D)->markOf D∈ds
 | [],D,h,_=>Ab
 |d::ds,D,h,hm=>by
  obtain ⟨D0,rfl⟩:=hm d AH;rcases Ak.1 h with h|h
  ·grind
  ·exact O9 _<|of_dsB h λd hd=>hm d<|O9 _ hd
def RW.hold (hW:RW G w0 Z0 Z β H w) (hF:RF ds β Z w (M H) F a):RW G w0 ⟨Z0.z,F.zip a.tmps.toList++Z0.gh,dsB ds++Z0.mks⟩ Z β H w:=⟨hW.below,hW.zlt,hW.znew,hW.zown,hW.zpub,hW.low,hW.inj,hW.blk,hW.glob,λp hp=>by
  rcases BN.1 hp with hp|hp
  ·obtain ⟨i,hi,hpi⟩:=GB.1 hp
   have hiF:i<M F:=A8
   have hia:i<a.tmps.size:=A8
   have h1:=hF.get i F[i]<|Cs hiF
   have e2:a.tmps.getD i undef=a.tmps[i]:=EN
   grind
  ·exact hW.gh p hp,λD hD=>by
  rcases BN.1 hD with hD|hD
  ·have:=of_dsB hD (λd hd=>by obtain ⟨D,h,_⟩:=hF.defers.2 d hd;exact ⟨D,h⟩)
   obtain ⟨D',h1,h2,h3⟩:=hF.defers.2 _ this
   grind
  ·exact hW.mks D hD⟩
def RW.held {β':aC->aL1}{Z':aC->Prop}{w':aO}{H':aE}(hF:RF ds β Z w (M H) F a) (r1:RW G w0 ⟨Z0.z,F.zip a.tmps.toList++Z0.gh,dsB ds++Z0.mks⟩ Z' β' H' w'):RF ds β' Z' w' (M H') F a:=by
 refine ⟨hF.size,λt x hx=>?_,hF.defers.1,λd hd=>?_⟩
 ·have htF:=(Ce.1 hx).1
  have hta:t<a.tmps.size:=by have:=hF.size;omega
  have e2:a.tmps.getD t undef=a.tmps[t]:=EN
  rw [e2];refine r1.gh (x,a.tmps[t])<|BN.2<|.inl<|GB.2 ⟨t,A8,?_⟩
  have:F[t]=x:=A8
  simp [this]
 ·obtain ⟨D,h1,h2,h3⟩:=hF.defers.2 d hd
  have:=r1.mks D<|BN.2<|.inl<|mem_dsB<|h1▸hd
  grind
def callOf_op {o:aU}{g:bg}{l:aD}(h:callOf G F o=ah (g,l)):∃f args ty,o.op=.call {callee:=.value f,args,argTypes:=ty}/\callee2 G F f args g l:=by
 unfold callOf at h;split at h
 ·rename_i f args ty ho
  split at h
  ·rename_i g' cap hf
   obtain ⟨rfl,rfl⟩:=h;exact ⟨f,args,ty,ho,.inl ⟨cap,hf,rfl⟩⟩
  ·rename_i g' fs hf
   obtain ⟨rfl,rfl⟩:=h;exact ⟨f,args,ty,ho,.inr<|.inl ⟨fs,hf,rfl⟩⟩
  ·rename_i g' hf
   obtain ⟨rfl,rfl⟩:=h;exact ⟨f,args,ty,ho,.inr<|.inr ⟨hf,rfl⟩⟩
  ·cases h
 ·cases h
def yldOf_op {o:aU}{k:aC}{l:aD}(h:yldOf G F o=ah (k,l)):∃f args ty,o.op=.call {callee:=.value f,args,argTypes:=ty}/\evalL G F f=.yld k/\l=args.toList.map (λx=>norm<|evalL G F x):=by
 unfold yldOf at h;split at h
 ·rename_i f args ty ho
  split at h
  ·rename_i k' hf
   grind
  ·cases h
 ·cases h
def opk_sound (hΓ:∀g S,Γ g=ah S->Valid P G g S) (hK:KSound P G K) (hW:RW G w0 Z0 Z β H w) (hF:RF ds β Z w (M H) F a) {o:aU}{lv:LV}{H':aE}(h:(opk P G Γ K F H o).all λq=>q=(lv,H')):
  actUpon P (λv w'=>∃Z' β',RW G w0 Z0 Z' β' H' w'/\RF ds β' Z' w' (M H') F a/\R β' Z' w' lv v/\okV (M H') lv) ((execOp a.eval o).run P w):=by
 unfold opk at h
 have old:(opx P G Γ F H o).all (λq=>q=(lv,H'))->actUpon P (λv w'=>∃Z' β',RW G w0 Z0 Z' β' H' w'/\RF ds β' Z' w' (M H') F a/\R β' Z' w' lv v/\okV (M H') lv) ((execOp a.eval o).run P w):=λh=>
  actUpon_mono (λv w' ⟨Z',β',e1,e2,e3,e4,_⟩=>⟨Z',β',e1,e2,e3,e4⟩) (opx_sound hΓ hW hF h)
 split at h
 ·rename_i g l hc
  split at h
  ·exact old h
  ·split at h
   ·rename_i fn hfn
    split at h
    ·rename_i hb
     obtain ⟨f,args,ty,ho,hf⟩:=callOf_op hc;simp only [AS,C8] at hb;obtain ⟨hb1,hb2⟩:=hb;obtain ⟨vals,hrun,hargs,hoka⟩:=callee_run ho hW hF hf hfn A8 A8;rw [hrun];exact (hK.k w0 _ Z β H w g _ _ lv H' (hW.hold hF) hargs hoka h).mono λe w' ⟨v,he,Z',β',r1,r2,r3⟩=>⟨v,he,Z',β',r1.less,RW.held hF r1,r2,r3⟩
    ·cases h
   ·cases h
 ·split at h
  ·rename_i k l hy
   obtain ⟨f,args,ty,ho,hf,rfl⟩:=yldOf_op hy
   have hfr:=hF.eval hW.glob f
   rw [hf] at hfr;simp only [R,okV] at hfr
   have hargs:RL β Z w (args.toList.map λx=>norm<|evalL G F x) (args.map a.eval).toList:=by
    exact aII
   have hoka:okL (M H) (args.toList.map λx=>norm<|evalL G F x):=by
    exact aHx
   obtain ⟨r,h1,h2,h3⟩:=hK.y w0 _ Z β H w k _ _ lv H' (hW.hold hF) hargs hoka h
   have hrun:(execOp a.eval o).run P w=.ok (.round (β k).b r.fn ((r.params.zip<|args.map a.eval).foldl (λt (p,v)=>t.setIfInBounds p v) r.tmps) r.assign r.body) w:=by
    unfold execOp;simp only [ho]
    have:=run_yield (P:=P) h1 h2
    simp [resolve,Deferred.ofValue,hfr.1,invoke,this]
   rw [hrun];exact h3.mono λe w' ⟨v,he,Z',β',r1,r2,r3⟩=>⟨v,he,Z',β',r1.less,RW.held hF r1,r2,r3⟩
  ·exact old h
def opk_eq {o:aU}(hm:memK P Γ o=U):opk P G Γ K F H o=opx P G Γ F H o:=by
 unfold opk;split
 ·rename_i g l hc
  obtain ⟨f,args,ty,ho,hf⟩:=callOf_op hc;unfold memK at hm;simp only [AS] at hm
  have hm2:=hm.2
  rw [ho] at hm2;cases f with
  |func g'=>
   rcases hf with ⟨_,hf,_⟩ |⟨_,hf,_⟩ |⟨hf,_⟩
   rotate_left
   ·simp [evalL] at hf
   ·simp [evalL] at hf
   obtain ⟨rfl,_⟩:=hf
   grind
  |tmp _=>simp at hm2
  |const _=>simp at hm2
  |global _=>simp at hm2
 ·split
  ·rename_i k l hy
   obtain ⟨f,args,ty,ho,hf,rfl⟩:=yldOf_op hy;unfold memK at hm;simp only [AS] at hm
   have hm2:=hm.2
   rw [ho] at hm2;cases f with
   |func g'=>simp [evalL] at hf
   |tmp _=>simp at hm2
   |const _=>simp at hm2
   |global _=>simp at hm2
  ·rfl
def memK_free {o:aU}(hm:memK P Γ o=U):memFree P o=true:=by
 unfold memK at hm;simp only [AS] at hm;exact hm.1
def xlsOf_get {ty:Ty}:∀(cs:aD) (ls:List<|List ty.D),xlsOf ty cs=ah ls->∀(j:aC) (x:LV),cs[j]? =ah x->∃l,x=.xl ty l/\ls[j]? =ah l
 | [],_,_,j,x,hx=>A8
 | c ::cs,ls,h,j,x,hx=>by
  simp only [xlsOf] at h;split at h
  ·rename_i e l
   split at h
   ·rename_i he r _ hr
    simp only [Ac] at h;subst h;subst he;cases j with
    |zero=>
     simp only [List.getElem?_cons_zero,Ac] at hx;exact ⟨l,hx.symm,rfl⟩
    |succ j=>
     exact xlsOf_get cs r hr j x hx
   ·cases h
  ·cases h
def ixld_sound {o o2:aU} {num:Y} {len:aC} {lv:LV} (hW:RW G w0 Z0 Z β H w) (hF:RF ds β Z w (M H) F a) (h:ixld P G F H o o2=ah (num,len,lv)) (h0:0<=num/\num<(len:Y)):
  o.guard=aj/\o2.guard=aj/\∃v z,(execOp a.eval o).run P w=.ok (.value v) w/\(execOp (a.put o.dst v).eval o2).run P w=.ok (.value z) w/\R β Z w lv z/\okV (M H) lv:=by
 unfold ixld at h;split at h
 ·rename_i hg
  simp only [AS,VJ] at hg;refine ⟨hg.1,hg.2,?_⟩;split at h
  ·rename_i t x i d t2 d2 ho hd ho2
   split at h
   ·rename_i hc
    obtain ⟨rfl,hdl,hagg⟩:=hc;split at h
    ·rename_i len' e k off kd n hu hx hi
     split at h
     ·rename_i hsz
      split at h
      ·rename_i b hb
       split at h
       ·rename_i hcl
        split at h
        ·rename_i ty l rest hcs
         split at h
         ·rename_i ls hls
          simp only [Ac,Ai] at h;obtain ⟨rfl,rfl,rfl⟩:=h
          have exv:=hF.eval hW.glob x
          have eiv:=hF.eval hW.glob i
          rw [hx] at exv;rw [hi] at eiv
          have hix:(indexL P t (.own k off) U<|.ki kd n).all (λr=>r=.own k (off+n.toNat*(0+1))):=by
           unfold indexL;simp only [pl,hu,hsz,BP];rw [AD h0];simp only [T.all]
          obtain ⟨v,e1,e2,e3⟩:=indexL_sound (w:=w) hix exv.1 (show R β Z w (.ki kd n) (a.eval i) by simp only [R];exact eiv.1) exv.2
          have hj:n.toNat<len':=A0
          obtain ⟨c,hc⟩:∃c,b.c[off+n.toNat]? =ah c:=⟨_,Cs A0⟩
          have hcc:(LV.xl ty l::rest)[n.toNat]? =ah c:=by
           rw [<-hcs,IP,AD hj,DX];exact hc
          obtain ⟨l',rfl,hl'⟩:=xlsOf_get _ _ hls _ _ hcc
          have hld:(loadL P H t2<|.own k<|off+n.toNat*(0+1)).all (λz=>z=.xl ty l'):=by
           unfold loadL;simp only [hagg,hb,Ck,Nat.mul_one,hcl.1,BP,hc,T.all]
          obtain ⟨z,f1,f2,f3⟩:=loadL_sound hW hld e2 e3;refine ⟨v,z,Ha,?_,?_,?_⟩
          ·have hda:d2<a.tmps.size:=by rw [hF.size];exact hdl
           have ev:(a.put o.dst v).eval (.tmp d2)=v:=by simp [hd,Act.put,Act.eval,Array.getD,hda]
           simp [execOp,ho2,ev,f1]
          ·have:ls.getD n.toNat []=l':=A8
           rw [this];exact f2
          ·trivial
         ·cases h
        ·cases h
       ·cases h
      ·cases h
     ·cases h
    ·cases h
   ·cases h
  ·cases h
 ·cases h
def seq_sound (hΓ:∀g S,Γ g=ah S->Valid P G g S) (hK:KSound P G K) {ops:aJ}{Q:aMm->bc->aO->Prop}{F':aD}{H':aE}(hQ:∀Z' β' a' w',RW G w0 Z0 Z' β' H' w'->RF ds β' Z' w' (M H') F' a'->Q .normal a' w') (r:bn) (m:aC):
  ∀(os:bw) (k:aC) (F:aD) (H:aE) (Z:aC->Prop) (β:aC->aL1) (a:bc) (w:aO),(∀j,os[j]? =ops[k+j]?)->RW G w0 Z0 Z β H w->RF ds β Z w (M H) F a->
   (seqx P G Γ K ops os F H).all (λq=>q=(F',H'))->wpOpsIn (fen r) m P ops Q (List.range' k<|M os) a w
 | [],k,F,H,Z,β,a,w,_,hW,hF,h=>by
  simp only [seqx,T.all,Ai] at h;obtain ⟨rfl,rfl⟩:=h;simp only [BG,List.range'_zero,wpOpsIn];exact hQ Z β a w hW hF
 | o ::os,k,F,H,Z,β,a,w,hl,hW,hF,h=>by
  have h0:ops[k]? =ah o:=by simpa using (hl 0).symm
  have hl':∀j,os[j]? =ops[k+1+j]? :=λj=>by have:=hl<|j+1;simpa [FM,qB 1 j] using this
  simp only [BB,List.range'_succ,wpOpsIn,h0]
  have goOk:∀(F:aD),RF ds β Z w (M H) F a->((opk P G Γ K F H o).bind λq=>seqx P G Γ K ops os (setF F o.dst q.1) q.2).all (λq=>q=(F',H'))->o.wpIn (fen r) m P a w (wpOpsIn (fen r) m P ops Q<|List.range' (k+1)<|M os) Q:=λF hF h=>by
   obtain ⟨⟨lv,H1⟩,h1,h2⟩:=T.bind_all h;refine wp_of_act' (actUpon_mono (λv w' ⟨Z',β',e1,e2,e3,e4⟩=>?_)<|opk_sound hΓ hK hW hF h1) r m
   exact seq_sound hΓ hK hQ r m os (k+1) _ H1 Z' β' _ w' hl' e1 (e2.put e3 e4 o.dst) h2
  have passOk:∀(F:aD),RF ds β Z w (M H) F a->(seqx P G Γ K ops os (setF F o.dst<|.v undef) H).all (λq=>q=(F',H'))->(∀f,o.about P w a.eval=ah f->(fen r).fn f)/\wpOpsIn (fen r) m P ops Q (List.range' (k+1)<|M os) (a.put o.dst undef) w:=λF hF h=>
   ⟨λ_ _=>trivial,seq_sound hΓ hK hQ r m os (k+1) _ H Z β _ w hl' hW (hF.pass o.dst) h⟩
  unfold seqx at h;simp only at h;split at h
  ·rename_i hg
   have hw:az o (yielded ops a.tmps)=true:=dY
   rw [AD hw];split at h
   ·exact goOk F hF h
   ·rename_i o2 os2
    split at h
    ·rename_i num len lv hix
     simp only [T.all] at h;obtain ⟨h1,h2⟩:=h;obtain ⟨_,hg2,v,z,r1,r2,r3,r4⟩:=ixld_sound hW hF hix h1
     have h02:ops[k+1]? =ah o2:=by simpa using (hl' 0).symm
     have hl2:∀j,os2[j]? =ops[k+1+1+j]? :=λj=>by have:=hl'<|j+1;rw [cS] at this;rw [this];congr 1;omega
     have act1:∀ {K:aV->aO->Prop},K v w->actUpon P K ((execOp a.eval o).run P w):=λh=>by rw [r1];exact h
     have act2:∀ {K:aV->aO->Prop},K z w->actUpon P K ((execOp (a.put o.dst v).eval o2).run P w):=λh=>by rw [r2];exact h
     refine wp_of_act' (act1 ?_) r m;simp only [BB,List.range'_succ,wpOpsIn,h02]
     have hw2:az o2 (yielded ops (a.put o.dst v).tmps)=true:=by simp [az,hg2]
     rw [AD hw2];refine wp_of_act' (act2 ?_) r m;exact seq_sound hΓ hK hQ r m os2 (k+1+1) _ H Z β _ w hl2 hW ((hF.put (lv:=.junk) H0 trivial o.dst).put r3 r4 o2.dst) h2
    ·exact goOk F hF h
  ·rename_i j want hg
   split at h
   ·rename_i d hd
    split at h
    ·rename_i b hb
     obtain ⟨s1,s2⟩:=hF.slot hb AH
     have hv:=(hF.get d _ s1).1
     simp only [R] at hv;rw [hv] at s2;rw [wanted_of hg hd s2];split at h
     ·grind
     ·rename_i e;rw [AE sQ];exact passOk F hF h
    ·rename_i g hb
     obtain ⟨s1,s2⟩:=hF.slot hb AH
     have hv:=(hF.get d _ s1).1
     simp only [R] at hv
     have kn:∀b,g=b->RF ds β Z w (M H) (F.set d<|.bl b) a:=λb e=>hF.know dZ trivial
     rw [hv] at s2;rw [wanted_of hg hd s2];split at h
     ·rename_i hwt
      subst hwt;simp only [T.all] at h;cases hgg:g with
      |true=>simp only [IQ,BP];exact goOk _ (kn U hgg) (h.1 hgg)
      |false=>rw [AE AH];exact passOk _ (kn X hgg)<|h.2 hgg
     ·rename_i hwt
      have hwt':want=false:=sZ
      subst hwt';simp only [T.all] at h;cases hgg:g with
      |true=>rw [AE AH];exact passOk _ (kn U hgg) (h.1 hgg)
      |false=>simp only [IQ,BP];exact goOk _ (kn X hgg)<|h.2 hgg
    ·rename_i vs hb
     obtain ⟨s1,s2⟩:=hF.slot hb AH
     have hv:=(hF.get d _ s1).1
     simp only [R] at hv;exact aIK
    ·cases h
   ·cases h
def T.lv {α:Type}(p:α->Prop):T α->Prop
 | .ok x=>p x
 | .br _ t e=>t.lv p/\e.lv p
 | .req _ t=>t.lv p
 | .no=>True
def T.lv_bind {α γ:Type}{p:α->Prop}{q:γ->Prop}{k:α->T γ}(hk:∀x,p x->(k x).lv q):∀ {t:T α},t.lv p->(t.bind k).lv q
 | .ok _,h=>hk _ h
 | .br _ t e,h=>⟨T.lv_bind hk (t:=t) h.1,T.lv_bind hk (t:=e) h.2⟩
 | .req _ t,h=>T.lv_bind hk (t:=t) h
 | .no,_=>trivial
def T.lv_true {α:Type}{p:α->Prop}(hp:∀x,p x):∀(t:T α),t.lv p
 | .ok _=>hp _
 | .br _ t e=>⟨T.lv_true hp t,T.lv_true hp e⟩
 | .req _ t=>T.lv_true hp t
 | .no=>trivial
def callG_heap {o:aU}(hpt:plainTy P 8 o.type=U) {g:bg}{l:aD}:(callG P Γ H o g l).lv (λq=>q.2=H):=by
 have bd:∀(t:T LV),(t.bind λy=>(T.ok (y,H):T<|LV×List Blk)).lv (λq=>q.2=H):=λt=>T.lv_bind (p:=λ_=>True) (q:=λq:LV×List Blk=>q.2=H) (k:=λy=>T.ok (y,H)) (λx _=>(rfl:(x,H).2=H))<|T.lv_true (λ_=>trivial) t
 unfold callG;split
 ·split
  ·split
   ·split
    ·exact bd _
    ·grind
   ·trivial
  ·trivial
 ·trivial
def opx_heap {o:aU}(hm:memFree P o=U):(opx P G Γ F H o).lv (λq=>q.2=H):=by
 have bd:∀(t:T LV),(t.bind λy=>(T.ok (y,H):T<|LV×List Blk)).lv (λq=>q.2=H):=λt=>T.lv_bind (p:=λ_=>True) (q:=λq:LV×List Blk=>q.2=H) (k:=λy=>T.ok (y,H)) (λx _=>(rfl:(x,H).2=H))<|T.lv_true (λ_=>trivial) t
 have c1:∀ {f:aL2} {args:aMb} {ty:aMj},o.op=.call {callee:=.value f,args,argTypes:=ty}->plainTy P 8 o.type=true:=λho=>aKU
 have c2:∀ {r:aL2} {name:String} {args:aMb} {ty:aMj},o.op=.call {callee:=.invoke r name,args,argTypes:=ty}->plainTy P 8 o.type=true:=λho=>aKU
 unfold opx;split<;>(try exact bd _)<;>(try trivial)<;>(try rfl)<;>(try (rename_i ho;simp [memFree,ho] at hm;done))<;>(try (rename_i ho;have hpt:=c1 ho))<;>(try (rename_i ho;have hpt:=c2 ho))
 all_goals (split<;>(try exact bd _)<;>(try trivial)<;>(try rfl)<;>(try exact callG_heap hpt))
 all_goals (split<;>(try exact bd _)<;>(try trivial)<;>(try rfl))
def Keeps (ds:aH) (F:aD) (H:aE) (q:List LV×List Blk):Prop:=M q.1=M F/\(∀i,i∉ds->q.1[i]? =F[i]?)/\q.2=H
def keeps_set {ds:aH}{F F1:aD}(h:M F1=M F/\∀i,i∉ds->F1[i]? =F[i]?) {d:aC}(hd:d∈ds) (x:LV):M (F1.set d x)=M F/\∀i,i∉ds->(F1.set d x)[i]? =F[i]? :=by
 refine ⟨A8,λi hi=>?_⟩
 grind
def keeps_setF {ds:aH}{F F1:aD}(h:M F1=M F/\∀i,i∉ds->F1[i]? =F[i]?) {d:bn}(hd:∀t,d=ah t->t∈ds) (x:LV):M (setF F1 d x)=M F/\∀i,i∉ds->(setF F1 d x)[i]? =F[i]? :=by
 cases d with
 |none=>exact h
 |some t=>exact keeps_set h (hd t rfl) x
def seqx_keeps {ops:aJ}{F0:aD}:∀(os:bw) (F:aD),(∀o∈os,o∈ops.toList)->(∀o∈os,memK P Γ o=U)->M F=M F0/\(∀i,i∉dsts ops.toList->F[i]? =F0[i]?)->
  (seqx P G Γ K ops os F H).lv (Keeps (dsts ops.toList) F0 H)
 | [],F,_,_,h=>by simp only [seqx,T.lv,Keeps];exact ⟨h.1,h.2,ak⟩
 | o ::os,F,hin,hm,h=>by
  have hdo:∀t,o.dst=ah t->t∈dsts ops.toList:=λt ht=>OC.2 ⟨o,hin o AH,ht⟩
  have go:∀F:aD,M F=M F0/\(∀i,i∉dsts ops.toList->F[i]? =F0[i]?)->((opk P G Γ K F H o).bind λq=>seqx P G Γ K ops os (setF F o.dst q.1) q.2).lv (Keeps (dsts ops.toList) F0 H):=λF hF=>
   T.lv_bind (p:=λq=>q.2=H) (λq hq=>by rw [hq];exact seqx_keeps os _ (λo ho=>hin o Qm) (λo ho=>hm o Qm)<|keeps_setF hF hdo _) (by rw [opk_eq<|hm o AH];exact opx_heap<|memK_free<|hm o AH)
  have pass:∀F:aD,M F=M F0/\(∀i,i∉dsts ops.toList->F[i]? =F0[i]?)->(seqx P G Γ K ops os (setF F o.dst<|.v undef) H).lv (Keeps (dsts ops.toList) F0 H):=λF hF=>
   seqx_keeps os _ (λo ho=>hin o Qm) (λo ho=>hm o Qm) (keeps_setF hF hdo _)
  unfold seqx;simp only;split
  ·split
   ·exact go F h
   ·rename_i o2 os2
    split
    ·have hdo2:∀t,o2.dst=ah t->t∈dsts ops.toList:=λt ht=>OC.2 ⟨o2,hin o2 AH,ht⟩
     exact seqx_keeps os2 _ (λo ho=>hin o Qm) (λo ho=>hm o Qm)<|keeps_setF (keeps_setF h hdo _) hdo2 _
    ·exact go F h
  ·rename_i j want hg
   split
   ·rename_i d hd
    have hdd:d∈dsts ops.toList:=by
     cases hj:ops[j]? with
     |none=>simp [hj] at hd
     |some oj=>simp [hj] at hd;exact OC.2 ⟨oj,A8,hd⟩
    split
    ·split
     ·exact go F h
     ·exact pass F h
    ·exact aHf
    ·grind
    ·trivial
   ·trivial
def nki_R {x:LV}{v:aV}(h:R β Z w x v):R β Z w (nki x) v:=sB
def mergeV0_true {x y:LV}{v:aV}(h:R β Z w x v):R β Z w (mergeV0 U x y) v:=by
 exact aJ6
def mergeV0_false {x y:LV}{v:aV}(h:R β Z w y v):R β Z w (mergeV0 X x y) v:=by
 exact aJ6
def mergeV0_ok {b:aL}{x y:LV}:okV n (mergeV0 b x y):=by
 unfold mergeV0;split<;>(try trivial)
 split<;>trivial
def mergeV_true {x y:LV}{v:aV}(h:R β Z w x v):R β Z w (mergeV U x y) v:=mergeV0_true<|nki_R h
def mergeV_false {x y:LV}{v:aV}(h:R β Z w y v):R β Z w (mergeV X x y) v:=mergeV0_false<|nki_R h
def mergeV_ok {b:aL}{x y:LV}:okV n (mergeV b x y):=mergeV0_ok
def mergeF_RF {dl:aL0}{ds:aH}{b:aL}{F F1 F2:aD}(k1:M F1=M F/\∀i,i∉ds->F1[i]? =F[i]?) (k2:M F2=M F/\∀i,i∉ds->F2[i]? =F[i]?) (h:RF dl β Z w n (if b then F1 else F2) a):RF dl β Z w n (mergeF ds b F F1 F2) a:=by
 refine ⟨by rw [h.size];cases b<;>simp [mergeF,k1.1,k2.1],λt x hx=>?_,h.defers⟩
 have ht:t<M F:=by have:=(Ce.1 hx).1;simpa [mergeF] using this
 have hx':x=if ds.contains t then mergeV b (F1.getD t .junk) (F2.getD t .junk) else F.getD t .junk:=by
  simp [mergeF,ht] at hx
  rw [<-hx]
  grind
 have g1:∀q,(if b then F1 else F2)[t]? =ah q->R β Z w q (a.tmps.getD t undef)/\okV n q:=λq hq=>h.get t q hq
 by_cases hc:t∈ds
 ·rw [AD<|by simpa using hc] at hx'
  rw [hx'];refine ⟨?_,mergeV_ok⟩;cases b with
  |true=>
   have:=(g1 (F1[t]' A0) AH).1
   have e2:F1.getD t .junk=F1[t]' A0:=A8
   rw [e2];exact mergeV_true this
  |false=>
   have:=(g1 (F2[t]' A0) AH).1
   have e2:F2.getD t .junk=F2[t]' A0:=A8
   rw [e2];exact mergeV_false this
 ·rw [AE<|by simpa using hc] at hx'
  have e:=Cs ht
  have e2:F.getD t .junk=F[t]'ht:=A8
  rw [hx',e2];refine g1 _ ?_;cases b with
  |true=>simp only [BP];rw [k1.2 t hc,e]
  |false=>simp only [FJ,E4];rw [k2.2 t hc,e]
def mergeT_keeps {ds:aH}:∀ {t:T<|List LV×List Blk},t.lv (Keeps ds F H)->(mergeT ds F H t).lv (Keeps ds F H)
 | .ok _,h=>h
 | .no,_=>trivial
 | .req _ t,h=>mergeT_keeps (t:=t) h
 | .br b t e,h=>by
  have h1:=mergeT_keeps h.1
  have h2:=mergeT_keeps h.2
  simp only [mergeT];split
  ·rename_i x y hx hy
   rw [hx] at h1;rw [hy] at h2;split
   ·exact ⟨h1,h2⟩
   refine ⟨by simp [mergeF],λi hi=>?_,rfl⟩
   simp only [mergeF]
   by_cases ht:i<M F
   ·grind
   ·simp [ht]
  ·exact ⟨h1,h2⟩
def mergeT_sound {ds:aH}:∀ {t:T<|List LV×List Blk}{r:List LV×List Blk},t.lv (Keeps ds F H)->(mergeT ds F H t).all (λq=>q=r)->
  ∃q,t.all (λz=>z=q)/\q.2=r.2/\∀(dl:aL0) (β:aC->aL1) (Z:aC->Prop) (w:aO) (n:aC) (a:bc),RF dl β Z w n q.1 a->RF dl β Z w n r.1 a
 | .ok x,r,_,h=>⟨x,rfl,by rw [show x=r from h],λ_ _ _ _ _ _ hh=>by rw [<-show x=r from h];exact hh⟩
 | .no,_,_,h=>Ab
 | .req p t,r,hk,h=>by
  obtain ⟨q,h1,h2,h3⟩:=mergeT_sound (t:=t) hk h.2;exact ⟨q,⟨h.1,h1⟩,h2,h3⟩
 | .br b t e,r,hk,h=>by
  have k1:=mergeT_keeps hk.1
  have k2:=mergeT_keeps hk.2
  have apart:(T.br b (mergeT ds F H t)<|mergeT ds F H e).all (λq=>q=r)->∃q,(T.br b t e).all (λz=>z=q)/\q.2=r.2/\∀(dl:aL0) (β:aC->aL1) (Z:aC->Prop) (w:aO) (n:aC) (a:bc),RF dl β Z w n q.1 a->RF dl β Z w n r.1 a:=λh=>by
   cases b with
   |true=>
    obtain ⟨q,h1,h2,h3⟩:=mergeT_sound (t:=t) hk.1<|h.1 rfl;exact ⟨q,⟨λ_=>h1,λhb=>IV⟩,h2,h3⟩
   |false=>
    obtain ⟨q,h1,h2,h3⟩:=mergeT_sound (t:=e) hk.2<|h.2 rfl;exact ⟨q,⟨λhb=>IV,λ_=>h1⟩,h2,h3⟩
  simp only [mergeT] at h;split at h
  ·rename_i x y hx hy
   split at h
   ·simp_all
   rw [hx] at k1;rw [hy] at k2
   have hr:=h
   cases b with
   |true=>
    obtain ⟨q,h1,h2,h3⟩:=mergeT_sound (t:=t) (r:=x) hk.1 (by rw [hx];rfl)
    refine ⟨q,⟨λ_=>h1,λhb=>IV⟩,by rw [<-hr,h2];exact k1.2.2,λdl β Z w n a hh=>?_⟩
    rw [<-hr];exact mergeF_RF ⟨k1.1,k1.2.1⟩ ⟨k2.1,k2.2.1⟩ (h3 dl β Z w n a hh)
   |false=>
    obtain ⟨q,h1,h2,h3⟩:=mergeT_sound (t:=e) (r:=y) hk.2 (by rw [hy];rfl)
    refine ⟨q,⟨λhb=>IV,λ_=>h1⟩,by rw [<-hr,h2];exact k2.2.2,λdl β Z w n a hh=>?_⟩
    rw [<-hr];exact mergeF_RF ⟨k1.1,k1.2.1⟩ ⟨k2.1,k2.2.1⟩<|h3 dl β Z w n a hh
  ·simp_all
def reg_sound (hΓ:∀g S,Γ g=ah S->Valid P G g S) (hK:KSound P G K) {id:aC}{ops:aJ}{Q:aMm->bc->aO->Prop}{F':aD}{H':aE}(hQ:∀Z' β' a' w',RW G w0 Z0 Z' β' H' w'->RF ds β' Z' w' (M H') F' a'->Q .normal a' w')
  (hW:RW G w0 Z0 Z β H w) (hF:RF ds β Z w (M H) F a) (h:(regx P G Γ K ops F H).all λq=>q=(F',H')) (r:bn) (m:aC):(Code.region id ops X).wpIn (fen r) m P Q a w:=by
 refine wpIn_region ?_
 have e:au ops.size=List.range' 0 (M ops.toList):=by rw [List.range_eq_range'];simp
 rw [e];unfold regx at h;split at h
 ·rename_i hm
  have hk:(seqx P G Γ K ops ops.toList F H).lv (Keeps (dsts ops.toList) F H):=seqx_keeps _ _ (λ_ h=>h) (λo ho=>B7.1 hm o ho) ⟨rfl,λ_ _=>rfl⟩
  obtain ⟨q,h1,h2,h3⟩:=mergeT_sound hk h;refine seq_sound hΓ hK (F':=q.1) (H':=q.2) (λZ' β' a' w' e1 e2=>hQ Z' β' a' w' A8 A8) r m ops.toList 0 F H Z β a w AH hW hF h1
 ·exact seq_sound hΓ hK hQ r m ops.toList 0 F H Z β a w AH hW hF h
end Go.Sx
namespace Go.Sx
open Go Go.RowKit Go.Proofs.YtjjcgjkagokchaaGreatDoor
variable {P : Program} {G : Globs} {Γ : Specs} {β : Nat -> Loc} {Z : Nat -> Prop} {Z0 : Gz} {w w0 wr : World} {F : List LV} {H : List Blk} {a : Act} {ds : List Deferred} {n : Nat}
def T.lv_all {α:Type}{p:α->Prop}{x:α}:∀ {t:T α},t.lv p->t.all (λz=>z=x)->p x
 | .ok y,h,e=>by rw [<-show y=x from e];exact h
 | .br b t e,h,hh=>by
  cases b with
  |true=>exact T.lv_all (t:=t) h.1 (hh.1 rfl)
  |false=>exact T.lv_all (t:=e) h.2 (hh.2 rfl)
 | .req _ t,h,hh=>T.lv_all (t:=t) h hh.2
 | .no,_,hh=>by cases hh
def loadL_live {t:aS}{x lv:LV}{y:aV}(hW:RW G w0 Z0 Z β H w) (h:(loadL P H t x).all λz=>z=lv) (hr:R β Z w x y):∀k,k∈owns x->(∃b,H[k]? =ah b/\live β k b)/\((∃off,x=.own k off)\/∃es i j,x=.op k es i j):=by
 intro k hk
 have cl:∀b:bx,b.isCl=U->live β k b:=λb hc=>by
  unfold Blk.isCl at hc;split at hc
  ·rename_i hb;unfold live;rw [hb];trivial
  ·cases hc
 unfold loadL at h;split at h
 ·exact aHY
 ·exact aHY
 ·cases h
def lookM_live {t:aS}{x q lv:LV}(h:(lookM P H t x q).all λr=>r=lv):∀k,x=.om k->∃b,H[k]? =ah b/\live β k b:=by
 intro k hk;subst hk;unfold lookM at h;exact aHy
def lookM2_live {t:aS}{x q lv:LV}(h:(lookM2 P H t x q).all λr=>r=lv):∀k,x=.om k->∃b,H[k]? =ah b/\live β k b:=by
 intro k hk;subst hk;unfold lookM2 at h;exact aHy
def lookL_live {t:aS}{x q lv:LV}(h:(lookL P H t x q).all λr=>r=lv):∀k,x=.om k->∃b,H[k]? =ah b/\live β k b:=by
 intro k hk;subst hk;unfold lookL at h;simp only at h;split at h
 ·rename_i hb;exact ⟨_,hb,ak⟩
 ·exact lookM_live h k rfl
def look_sound (hΓ:∀g S,Γ g=ah S->Valid P G g S) {tr:aH} {D:aO->Prop} {o:aU} {lv:LV} (hW:RW G w0 Z0 Z β H wr) (hF:RF ds β Z wr (M H) F a)
  (hD:∀w',D w'->RW G w0 Z0 Z β H w'/\∀b,(Z b\/∃k bk,H[k]? =ah bk/\live β k bk/\tr.contains k=X/\b=(β k).b)->w'.heap[b]? =wr.heap[b]?)
  (h:(calmx P G Γ tr F H o).all λz=>z=lv):∃v,(∀w',D w'->calmAt P o a w' v)/\R β Z wr lv v/\okV (M H) lv:=by
 unfold calmx at h;split at h
 ·cases h
 ·rename_i hsp
  simp only [C5,C8,not_or,Bool.not_eq_true,cI] at hsp;obtain ⟨hsp,hap⟩:=hsp
  have ev:=λx=>hF.eval hW.glob x
  have hFD:∀w',D w'->RF ds β Z w' (M H) F a:=λw' hw'=>hF.mono (Ar _) (λ_ _=>rfl) (λ_ h=>h) λb hz=>(hD w' hw').2 b<|.inl hz
  split at h
  ·rename_i hcall
   obtain ⟨h1,hpl⟩:=onlyPl_all h;obtain ⟨⟨lv',H'⟩,h2,h3⟩:=T.bind_all h1
   have e3:lv'=lv:=h3
   subst e3;obtain ⟨x,hx⟩:=VH.1 hpl
   have hm:memFree P o=true:=by unfold isCall at hcall;unfold memFree;unfold isSp at hsp;split at hcall<;>simp_all
   have hH:H'=H:=T.lv_all (p:=λq:LV×List Blk=>q.2=H) (x:=(lv',H')) (opx_heap hm) h2
   subst hH;refine ⟨x,λw' hw'=>?_,R_pl hx,?_⟩
   ·have hs:=opx_sound hΓ (hD w' hw').1 (hFD w' hw') h2
    have hrun:∃g vals,(execOp a.eval o).run P w'=.ok (.enter g vals) w':=by
     unfold isCall at hcall;split at hcall
     ·rename_i f args ty ho
      have h2':=h2
      unfold opx at h2';simp only [ho] at h2';split at h2'
      ·rename_i g cap hf
       have hfr:=(ev f).1
       rw [hf] at hfr;simp only [R] at hfr;obtain ⟨ys,hy,_⟩:=hfr;obtain ⟨fn,S,k1,k2,k3,_⟩:=callG_fn h2';exact ⟨_,_,value_run ho hy k1 k2 k3 w'⟩
      ·rename_i g fs hf
       have hfr:=(ev f).1
       rw [hf] at hfr;simp only [R] at hfr;obtain ⟨ys,hy,_⟩:=hfr;obtain ⟨fn,S,k1,k2,k3,_⟩:=callG_fn h2';exact ⟨_,_,value_run2 ho hy k1 k2 k3 w'⟩
      ·cases h2'
     ·rename_i r name args ty ho
      have h2':=h2
      unfold opx at h2';simp only [ho] at h2';cases h2'
     ·cases hcall
    obtain ⟨g,vals,hr⟩:=hrun;unfold calmAt;rw [hr] at hs|-;simp only [actUpon] at hs;refine ⟨rfl,hs.mono λe w'' ⟨v,he,Z',β',_,_,hrv,_,_,_,_,hn⟩=>?_⟩
    have hv:=pl_R hx hrv
    subst hv;refine ⟨he,hn.os,hn.tape,hn.output,hn.size,λk hk=>hn.block k hk ?_⟩
    unfold isCall at hcall;split at hcall
    ·rename_i ho;simp [touchB,wrt,ho,lvB]
    ·rename_i ho;simp [touchB,wrt,ho,lvB]
    ·cases hcall
   ·cases lv' with
    |fn f l=>cases l with
     |nil=>trivial
     |cons _ _=>simp [pl] at hx
    |v _=>trivial
    |bl _=>trivial
    |ki _ _=>trivial
    |_=>simp [pl] at hx
  ·rename_i hnc
   obtain ⟨⟨lv',H'⟩,h2,h3⟩:=T.bind_all h
   have e3:lv'=lv:=h3
   subst e3
   clear h3
   have val:∀ {v:aV},(∀w',D w'->(execOp a.eval o).run P w'=.ok (.value v) w')->R β Z wr lv' v->okV (M H) lv'->∃v,(∀w',D w'->calmAt P o a w' v)/\R β Z wr lv' v/\okV (M H) lv':=λ{v} hrun hr hk=>
    ⟨v,λw' hw'=>by unfold calmAt;rw [hrun w' hw'];exact A9,hr,hk⟩
   have hsel:∀cs b,o.op≠ .select cs b:=λcs b e=>by unfold opx at h2;simp only [e] at h2;cases h2
   have same:∀ {t:T LV},(t.bind λy=>(T.ok (y,H):T<|LV×List Blk)).all (λq=>q=(lv',H'))->t.all (λz=>z=lv'):=λh=>by
    obtain ⟨x,g1,g2⟩:=T.bind_all h;simp only [T.all,Ai] at g2;obtain ⟨rfl,rfl⟩:=g2;exact g1
   have gen:(genL P G F o).all (λz=>z=lv')->∃v,(∀w',D w'->calmAt P o a w' v)/\R β Z wr lv' v/\okV (M H) lv':=λhg=>by
    unfold genL at hg;split at hg
    ·rename_i hpl
     split at hg
     ·rename_i y hy
      simp only [T.all] at hg
      have hcong:execOp a.eval o=execOp (λx=>(pl<|evalL G F x).getD undef) o:=ct o hsel λx hx=>by
       have h1:=B7.1 hpl x su
       obtain ⟨z,hz⟩:=VH.1 h1;rw [hz];exact pl_R hz (ev x).1
      refine val (v:=y) (λw' _=>by rw [hcong];exact genV_run hy w') ?_ ?_<;>rw [<-hg]
      ·split
       ·exact kn_R y
       ·exact Cl
      ·split
       ·exact kn_ok y
       ·trivial
     ·cases hg
    ·cases hg
   have h:=h2
   unfold opx at h;split at h
   ·cases h
   ·exact aI1
   ·exact aI1
   ·rename_i c x y ho
    obtain ⟨g,e1,e2,e3⟩:=pickL_sound (same h) (ev c).1 (ev x).1 (ev y).1 (ev x).2 (ev y).2;exact val (v:=if g then a.eval x else a.eval y) (λw' _=>aKZ) e2 e3
   ·exact K8
   ·exact K8
   ·rename_i t x ho
    obtain ⟨z,e1,e2,e3⟩:=loadL_sound hW (same h) (ev x).1 (ev x).2;refine val (v:=z) (λw' hw'=>?_) e2 e3
    have hlv:=loadL_live hW (same h) (ev x).1
    have:=e1 w' λb hb=>(hD w' hw').2 b (by
     rcases hb with hb|⟨k,e4,e5⟩
     ·exact .inl hb
     ·obtain ⟨⟨bk,l1,l2⟩,l3⟩:=hlv k e4
      refine .inr ⟨k,bk,l1,l2,?_,e5⟩;unfold apartL at hap;simp only [ho] at hap;rcases l3 with ⟨off,l3⟩ |⟨es,i,j,l3⟩
      ·rw [l3] at hap;simpa using hap
      ·rw [l3] at hap;simpa using hap)
    simp [execOp,ho,this]
   ·exact K8
   ·rename_i s x i ho
    obtain ⟨z,e1,e2,e3⟩:=fieldL_sound (w:=wr) (same h) (ev x).1 (ev x).2;exact cx
   ·rename_i t x i ho
    obtain ⟨z,e1,e2,e3⟩:=indexL_sound (w:=wr) (same h) (ev x).1 (ev i).1 (ev x).2;exact cx
   ·rename_i t parts ho
    obtain ⟨z,e1,e2,e3⟩:=buildL_sound (β:=β) (Z:=Z) (w:=wr) (n:=M H) (pv:=parts.map λq=>(q.1,a.eval q.2)) (same h) Qn (by
     simp only [Lb,Ek];refine RL.of_get AH λi x hx=>?_
     rw [CZ] at hx|-;cases hq:parts.toList[i]? with
     |none=>simp [hq] at hx
     |some q=>simp [hq] at hx;subst hx;exact ⟨a.eval q.2,AH,(evalN_R<|ev q.2).1⟩) (by
     simp only [Ek];refine okL.of_get λi x hx=>?_
     rw [CZ] at hx;cases hq:parts.toList[i]? with
     |none=>simp [hq] at hx
     |some q=>simp [hq] at hx;subst hx;exact (evalN_R<|ev q.2).2)
    exact val (v:=z) (λw' _=>Ha) e2 e3
   ·exact K8
   ·exact K8
   ·rename_i t x lo hi ho
    split at h
    ·exact K9
    ·have ro:∀q:Option Operand,RO β Z wr (q.map<|evalL G F) (q.map a.eval):=λq=>by
      cases q with
      |none=>trivial
      |some q=>exact (ev q).1
     obtain ⟨z,e1,e2,e3⟩:=sliceL_sound (w:=wr) (same h) (ev x).1 (ro lo) (ro hi) (ev x).2;exact cx
   ·rename_i t x lo hi mx ho
    split at h
    ·exact K9
    ·have ro:RO β Z wr (lo.map<|evalL G F) (lo.map a.eval):=by
      cases lo with
      |none=>trivial
      |some q=>exact (ev q).1
     obtain ⟨z,e1,e2,e3⟩:=slice3L_sound (w:=wr) (N:=M H) (same h) (ev x).1 ro (ev hi).1 (ev mx).1;exact cx
   ·exact K8
   ·exact K8
   ·exact K8
   ·rename_i t x i ho
    obtain ⟨z,e1,e2,e3⟩:=lookL_sound hW (same h) (ev x).1 (ev i).1 (ev x).2;refine val (v:=z) (λw' hw'=>?_) e2 e3
    have hlv:=lookL_live (β:=β)<|same h
    exact aI5
   ·rename_i t x i ho
    split at h
    ·exact K9
    ·obtain ⟨z,e1,e2,e3⟩:=lookM2_sound hW (same h) (ev x).1 (ev i).1 (ev x).2
     refine val (v:=z) (λw' hw'=>?_) e2 e3
     have hlv:=lookM2_live (β:=β)<|same h
     exact aI5
   ·rename_i x i ho
    split at h
    ·rename_i l hl
     split at h
     ·rename_i y hy
      simp only [T.all,Ai] at h;obtain ⟨h1,_⟩:=h
      have hx:=ev x
      rw [hl] at hx;simp only [R,okV] at hx;obtain ⟨⟨ys,e1,e2⟩,e3⟩:=hx;obtain ⟨z,e4,e5⟩:=RL.get _ _ e2 hy
      have e6:ys[i]? =ah z:=by simpa using e4
      refine val (v:=z) (λw' _=>aK6) ?_ ?_<;>rw [<-h1]
      ·exact e5
      ·exact okL.get _ _ e3 hy
     ·cases h
    ·exact K9
   ·rename_i t x i ho
    split at h
    ·rename_i l hl
     have hx:=ev x
     rw [hl] at hx;simp only [R,okV] at hx;obtain ⟨⟨ys,e1,e2⟩,e3⟩:=hx;obtain ⟨z,f1,f2,f3⟩:=fldL_sound (same h) e2 e3;exact aJW
    ·exact K9
   ·rename_i f first cap ho
    split at h
    ·rename_i he
     simp only [T.all,Ai] at h;obtain ⟨h1,_⟩:=h
     have hfirst:first=#[]:=by
      have:first.toList=[]:=W1
      exact Mv
     refine val (v:=.func (.func f) #[]<|cap.map a.eval) (λw' _=>aK2) ?_ ?_<;>rw [<-h1]
     ·exact aIA
     ·exact aHv
    ·split at h
     ·rename_i he
      simp only [T.all,Ai] at h;obtain ⟨h1,_⟩:=h
      have hcap:cap=#[]:=by
       have:cap.toList=[]:=W1
       exact Mv
      refine val (v:=.func (.func f) (first.map a.eval) #[]) (λw' _=>aK7) ?_ ?_<;>rw [<-h1]
      ·exact aI8
      ·exact aHt
     ·cases h
   ·rename_i x ho
    have hx:=ev x
    split at h
    ·rename_i k off hl
     exact aHn
    ·rename_i k es i j hl
     exact aHn
    ·rename_i n f hl
     simp only [T.all,Ai] at h;rw [hl] at hx
     have hx1:=hx.1
     simp only [R] at hx1;obtain ⟨b,off,e1,_⟩:=hx1;refine val (v:=a.eval x) (λw' _=>Ha) ?_ ?_<;>rw [<-h.1]
     ·exact hx.1
     ·exact hx.2
    ·exact aIE
    ·exact aIE
    ·exact K9
   ·rename_i t x y t' ho
    split at h
    ·rename_i k n k' m hx hy
     split at h
     ·rename_i hk
      subst hk;simp only [T.all,Ai] at h;obtain ⟨h0,h1,_⟩:=h
      have e1:=pl_R hx (ev x).1
      have e2:=pl_R hy (ev y).1
      refine val (v:=ag k<|k.wrap<|n.tdiv m) (λw' _=>dK) ?_ ?_<;>rw [<-h1]
      ·exact Cl
      ·trivial
     ·cases h
    ·cases h
   ·rename_i t x y t' ho
    split at h
    ·rename_i k n k' m hx hy
     split at h
     ·rename_i hk
      subst hk;simp only [T.all,Ai] at h;obtain ⟨h0,h1,_⟩:=h
      have e1:=pl_R hx (ev x).1
      have e2:=pl_R hy (ev y).1
      refine val (v:=ag k<|n.tmod m) (λw' _=>dK) ?_ ?_<;>rw [<-h1]
      ·exact Cl
      ·trivial
     ·cases h
    ·cases h
   ·rename_i t x y t' ho
    split at h
    ·exact K9
    ·split at h
     ·rename_i k n k' m hx hy
      simp only [T.all,Ai] at h;obtain ⟨h0,h1,_⟩:=h
      have e1:=pl_R hx (ev x).1
      have e2:=pl_R hy (ev y).1
      refine val (v:=ag k<|k.wrap<|n*2^(min m.toNat k.bits)) (λw' _=>dO) ?_ ?_<;>rw [<-h1]
      ·exact Cl
      ·trivial
     ·cases h
   ·rename_i t x y t' ho
    split at h
    ·exact K9
    ·split at h
     ·rename_i k n k' m hx hy
      simp only [T.all,Ai] at h;obtain ⟨h0,h1,_⟩:=h
      have e1:=pl_R hx (ev x).1
      have e2:=pl_R hy (ev y).1
      refine val (v:=ag k<|n.fdiv<|2^(min m.toNat k.bits)) (λw' _=>dO) ?_ ?_<;>rw [<-h1]
      ·exact Cl
      ·trivial
     ·cases h
   ·rename_i t x i ho
    split at h
    ·rename_i l hl
     obtain ⟨ys,e1,e2,e3⟩:=aggC_sound hl (ev x).1 (ev x).2;obtain ⟨z,f1,f2,f3⟩:=idxL_sound (same h) e2 e3 (ev i).1;exact aJW
    ·split at h
     ·rename_i s kd n hu hx hi
      simp only [T.all,Ai] at h;obtain ⟨⟨h0,hlt⟩,h1,_⟩:=h
      have e1:=pl_R hx (ev x).1
      have e2:=pl_R hi (ev i).1
      have hb:n.toNat<s.size:=A0
      have hg:s[n.toNat]? =ah s[n.toNat]:=by simp [hb]
      refine val (v:=ag aw<|byI s n) (λw' _=>aJe) ?_ ?_<;>rw [<-h1]
      ·exact Cl
      ·trivial
     ·cases h
   ·rename_i ho;simp [isCall,ho] at hnc
   ·rename_i ho;simp [isCall,ho] at hnc
   ·exact K8
   ·exact K8
   ·rename_i args ty ho
    split at h
    ·rename_i k es off n e hl hu
     simp only [T.all,Ai] at h;obtain ⟨h1,_⟩:=h;cases hargs:args.toList with
     |nil=>simp [hargs] at hl
     | cons x xs=>
      cases xs with
      |cons _ _=>simp [hargs] at hl
      | nil=>
       simp only [hargs,D2,IL,FL,Lf] at hl
       have hx:=(ev x).1
       rw [hl] at hx;simp only [R] at hx
       have e1:∃ad cap,a.eval x=.slice ad n cap:=by
        exact aIu
       obtain ⟨ad,cap,e1⟩:=e1
       have ha:args=#[x]:=Mx
       cases ht:ty[0]? with
       |none=>simp [ht] at hu
       |some t=>
        simp only [ht,LZ] at hu;refine val (v:=ag J n) (λw' _=>Qb) ?_ ?_<;>rw [<-h1]
        ·exact Cl
        ·trivial
    ·rename_i e' l e hl hu
     simp only [T.all,Ai] at h;obtain ⟨h1,_⟩:=h;cases hargs:args.toList with
     |nil=>simp [hargs] at hl
     | cons x xs=>
      cases xs with
      |cons _ _=>simp [hargs] at hl
      | nil=>
       simp only [hargs,D2,IL,FL,Lf] at hl
       have hx:=(ev x).1
       rw [hl] at hx;simp only [R] at hx;obtain ⟨ad,cap,e1,_⟩:=hx
       have ha:args=#[x]:=Mx
       cases ht:ty[0]? with
       |none=>simp [ht] at hu
       |some t=>
        simp only [ht,LZ] at hu;refine val (v:=ag J (M l:Y)) (λw' _=>Qb) ?_ ?_<;>rw [<-h1]
        ·exact Cl
        ·trivial
    ·rename_i k' es' off' n' c' e hl hu
     simp only [T.all,Ai] at h;obtain ⟨h1,_⟩:=h;cases hargs:args.toList with
     |nil=>simp [hargs] at hl
     | cons x xs=>
      cases xs with
      |cons _ _=>simp [hargs] at hl
      | nil=>
       simp only [hargs,D2,IL,FL,Lf] at hl
       have hx:=(ev x).1
       rw [hl] at hx;simp only [R] at hx;obtain ⟨_,ad,e1,_⟩:=hx
       have ha:args=#[x]:=Mx
       cases ht:ty[0]? with
       |none=>simp [ht] at hu
       |some t=>
        simp only [ht,LZ] at hu;refine val (v:=ag J n') (λw' _=>Qb) ?_ ?_<;>rw [<-h1]
        ·exact Cl
        ·trivial
    ·exact K9
   ·exact K9
def maskGo_get (tr:aH):∀(H:aE) (k i:aC),(maskGo tr k H)[i]? =(H[i]?).map λb=>if tr.contains (k+i) then maskB b else b
 | [],k,i=>by simp [maskGo]
 |b::bs,k,0=>by simp [maskGo]
 |b::bs,k,i+1=>by
  simp only [maskGo,cS];rw [maskGo_get tr bs (k+1) i]
  have:k+1+i=k+(i+1):=A0
  rw [this]
def maskGo_length (tr:aH):∀(H:aE) (k:aC),M (maskGo tr k H)=M H
 | [],_=>rfl
 |_::bs,k=>by simp [maskGo,maskGo_length tr bs<|k+1]
def RL_junk:∀(ys:aT),RL β Z w (aq (M ys) .junk) ys
 | []=>W8
 |y::ys=>by simp only [BB,cV,RL];exact ⟨y,ys,rfl,H0,RL_junk ys⟩
def okL_junk (m:aC):∀(k:aC),okL m (aq k .junk)
 |0=>trivial
 |k+1=>⟨ak,okL_junk m k⟩
def Shp (tr:aH) (β:aC->aL1) (H:aE) (w:aO):Prop:=∀(k:aC) (b:bx),tr.contains k=U->H[k]? =ah b->b.isCl=U->∃cs,w.heap[(β k).b]? =ah (.cells cs b.t (0,0))/\cs.size=M b.c
def isCl_k {b:bx}(h:b.isCl=U):b.k=.cl:=by
 unfold Blk.isCl at h;split at h
 ·assumption
 ·cases h
def maskB_cases (b:bx):(b.isCl=U/\maskB b=⟨aq (M b.c) .junk,b.t,.cl,b.p⟩)\/(b.isCl=X/\maskB b=⟨[],b.t,.dead,X⟩):=by
 unfold maskB Blk.isCl;exact Vl
def maskB_live {b:bx}{k:aC}(h:live β k<|maskB b):live β k b/\(maskB b).p=b.p:=by
 rcases maskB_cases b with ⟨h1,h2⟩ |⟨h1,h2⟩
 ·rw [h2];exact ⟨by unfold live;rw [isCl_k h1];trivial,rfl⟩
 ·rw [h2] at h;exact absurd h λh=>h
def RW.lvB_not {tr:aH}(hW:RW G w0 Z0 Z β H wr) {b:aC}(hz:Z b):b∉lvB β H tr:=λhm=>by
 obtain ⟨k,bk,_,h2,h3,h4,rfl⟩:=mem_lvB.1 hm;exact hW.zown k bk h2 h3 h4 hz
def RW.lvB_other {tr:aH}(hW:RW G w0 Z0 Z β H wr) {k:aC}{b:bx}(hb:H[k]? =ah b) (hl:live β k b) (ht:k∉tr):(β k).b∉lvB β H tr:=λhm=>by
 obtain ⟨j,bj,h1,h2,h3,h4,h5⟩:=mem_lvB.1 hm
 have:=hW.inj j k bj b h2 hb h3 hl h4 h5.symm
 subst this;exact ht h1
def RW.mask {tr:aH}{w':aO}(hW:RW G w0 Z0 Z β H wr) (hn:Near (lvB β H tr) wr w') (hb0:Below w0.heap.size w0 w') (hs:Shp tr β H w'):RW G w0 Z0 Z β (maskGo tr 0 H) w':=by
 have hw:∀b,Z b->w'.heap[b]? =wr.heap[b]? :=λb hz=>hn.block b (hW.zlt b hz)<|hW.lvB_not hz
 have old:∀k b,(maskGo tr 0 H)[k]? =ah b->∃b0,H[k]? =ah b0/\(live β k b->live β k b0/\b.p=b0.p)/\((tr.contains k=U/\b=maskB b0)\/(tr.contains k=X/\b=b0)):=λk b hb=>by
  rw [maskGo_get] at hb;cases hH:H[k]? with
  |none=>simp [hH] at hb
  | some b0=>
   simp only [hH,Gx,Ac,Ck] at hb;refine ⟨b0,rfl,?_⟩;split at hb
   ·rename_i ht
    subst hb;exact ⟨maskB_live,.inl ⟨ht,rfl⟩⟩
   ·rename_i ht
    grind
 refine ⟨hb0,λb hz=>?_,hW.znew,λk b hk hl hp=>?_,λk b hk hl hp=>?_,λk b hk hl=>?_,λi j bi bj hi hj li lj pi e=>?_,λk b hb=>?_,hW.glob.mono (λ_ h=>h) hw,λp hp=>⟨R.mono (n:=M H) (λ_ _=>rfl) (λ_ h=>h) hw _ _ (hW.gh p hp).2 (hW.gh p hp).1,by rw [maskGo_length];exact (hW.gh p hp).2⟩,λD hD=>⟨(hW.mks D hD).1,Vu⟩⟩
 ·have:=hW.zlt b hz;have:=hn.size;omega
 ·obtain ⟨b0,h1,h2,_⟩:=old k b hk
  obtain ⟨h3,h4⟩:=h2 hl;exact hW.zown k b0 h1 h3<|h4▸hp
 ·obtain ⟨b0,h1,h2,_⟩:=old k b hk
  obtain ⟨h3,h4⟩:=h2 hl;exact hW.zpub k b0 h1 h3<|h4▸hp
 ·obtain ⟨b0,h1,h2,_⟩:=old k b hk
  exact hW.low k b0 h1 (h2 hl).1
 ·obtain ⟨b0,h1,h2,_⟩:=old i bi hi
  obtain ⟨c0,g1,g2,_⟩:=old j bj hj;exact hW.inj i j b0 c0 h1 g1 (h2 li).1 (g2 lj).1 ((h2 li).2▸pi) e
 ·obtain ⟨b0,h1,h2,h3⟩:=old k b hb
  obtain ⟨f1,f2⟩:=hW.blk k b0 h1;rw [maskGo_length];rcases h3 with ⟨ht,rfl⟩ |⟨ht,rfl⟩
  ·rcases maskB_cases b0 with ⟨m1,m2⟩ |⟨m1,m2⟩
   ·rw [m2]
    obtain ⟨cs',g1,g2⟩:=hs k b0 ht h1 m1;refine ⟨⟨cs',g1,?_⟩,okL_junk _ _,ak⟩
    have:=RL_junk (β:=β) (Z:=Z) (w:=w') cs'.toList
    grind
   ·rw [m2]
    exact ⟨ak,ak,ak⟩
  ·have hkt:k∉tr:=A8
   exact ⟨f1.keep (λ_ _=>rfl) (λ_ h=>h) hw rfl (λhl=>hn.block _ (hW.lt h1 hl)<|hW.lvB_other h1 hl hkt) f2,f2⟩
def callG_ev {o:aU}{g:bg}{l:aD}{lv:LV}{H':aE}(h:(callG P Γ H o g l).all λq=>q=(lv,H')):EvL H H':=by
 have bd:∀ {t:T LV} {H1:aE},(t.bind λy=>(T.ok (y,H1):T<|LV×List Blk)).all (λq=>q=(lv,H'))->H'=H1:=λh=>by
  obtain ⟨x,h1,h2⟩:=T.bind_all h;simp only [T.all,Ai] at h2
  grind
 obtain ⟨_,_,_,_,_,_,h⟩:=callG_fn h;split at h
 ·rw [bd h];exact EvL.refl H
 ·split at h
  ·rw [bd h];exact EvL.refl H
  ·split at h
   ·rw [bd h];exact EvL.pub _
   ·cases h
def opx_ev {o:aU} {lv:LV} {H':aE} (h:(opx P G Γ F H o).all λq=>q=(lv,H')):EvL H H':=by
 by_cases hm:memFree P o=U
 ·have hH:H'=H:=T.lv_all (p:=λq:LV×List Blk=>q.2=H) (x:=(lv,H')) (opx_heap hm) h
  rw [hH];exact EvL.refl H
 ·have bd:∀ {t:T LV} {H1:aE},(t.bind λy=>(T.ok (y,H1):T<|LV×List Blk)).all (λq=>q=(lv,H'))->H'=H1:=λh=>by
   obtain ⟨x,h1,h2⟩:=T.bind_all h;simp only [T.all,Ai] at h2;exact h2.2.symm
  unfold memFree at hm;split at hm
  ·rename_i t ho
   unfold opx at h;simp only [ho] at h;split at h
   ·exact Vb
   ·cases h
  ·rename_i t x ho
   unfold opx at h;simp only [ho] at h;exact Vb
  ·rename_i t x y ho
   unfold opx at h;simp only [ho] at h;obtain ⟨H1,h1,h2⟩:=T.bind_all h;simp only [T.all,Ai] at h2;obtain ⟨_,rfl⟩:=h2;exact storeL_ev h1
  ·rename_i t n c ho
   unfold opx at h;simp only [ho] at h;exact makeL_ev h
  ·rename_i t r ho
   unfold opx at h;cases r with
   | none=>
    simp only [ho] at h;split at h
    ·simp only [T.all,Ai] at h
     rw [<-h.2];exact EvL.app _ _
    ·exact Vb
   |some r=>
    simp only [ho] at h;rw [bd h];exact EvL.refl H
  ·exact aHw
  ·exact aHw
  ·rename_i t len parts ho
   unfold opx at h;simp only [ho] at h;split at h
   ·split at h
    ·unfold emptyL at h
     exact Vb
    ·cases h
   ·split at h
    ·split at h
     ·unfold litV at h
      split at h
      ·obtain ⟨y,h1,h2⟩:=T.bind_all h
       split at h2
       ·simp only [T.all,Ai] at h2
        rw [<-h2.2];exact (EvL.pub _).trans<|EvL.app _ _
       ·cases h2
      ·cases h
     split at h
     ·rw [bd h];exact EvL.refl H
     ·unfold litO at h
      split at h
      ·obtain ⟨y,h1,h2⟩:=T.bind_all h
       simp only [T.all,Ai] at h2;rw [<-h2.2];exact EvL.pub _
      ·cases h
    unfold litC at h;split at h
    ·split at h
     ·split at h
      ·exact Vb
      ·cases h
     ·cases h
    ·cases h
  ·rename_i args ty ho
   unfold opx at h;simp only [ho] at h;split at h
   ·exact appendL_ev h
   ·cases h
  ·rename_i args ty ho
   unfold opx at h;simp only [ho] at h;split at h
   ·exact copyL_ev h
   ·cases h
  ·rename_i f args ty ho
   unfold opx at h;simp only [ho] at h;split at h
   ·exact callG_ev h
   ·exact callG_ev h
   ·cases h
  ·rename_i r name args ty ho
   unfold opx at h;simp only [ho] at h;cases h
  ·simp at hm
def p1_sound (hΓ:∀g S,Γ g=ah S->Valid P G g S) {ops:aJ}{tr:aH}{Hm:aE}{D:aO->Prop}{K:bc->Prop}{F':aD}{HH:aE}(hlen:M Hm=M H)
  (hW:RW G w0 Z0 Z β Hm wr) (hD:∀w',D w'->RW G w0 Z0 Z β Hm w'/\∀b,(Z b\/∃k bk,Hm[k]? =ah bk/\live β k bk/\tr.contains k=X/\b=(β k).b)->w'.heap[b]? =wr.heap[b]?)
  (hK:∀a1,RF ds β Z wr (M H) F' a1->K a1):∀(fs:bh) (os:bw) (F:aD) (a:bc),M fs=M os->RF ds β Z wr (M H) F a->
   (p1x P G Γ ops tr HH Hm fs os F).all (λq=>q=(F',HH))->wpP1 P ops D K fs os a
 | [],[],F,a,_,hF,h=>by
  simp only [p1x,T.all,Ai,Lf] at h;subst h;exact wpP1_end (hK a hF)
 | [],_::_,_,_,hl,_,_=>W5
 |_::_,[],_,_,hl,_,_=>W5
 | f ::fs,o::os,F,a,hl,hF,h=>by
  have hl':M fs=M os:=dh
  simp only [p1x] at h;simp only [wpP1];split at h
  ·rename_i hf
   rw [AD hf];exact p1_sound hΓ hlen hW hD hK fs os F a hl' hF h
  ·rename_i hf
   rw [AE hf]
   have goOk:∀(F:aD),RF ds β Z wr (M H) F a->((calmx P G Γ tr F Hm o).bind λy=>p1x P G Γ ops tr HH Hm fs os<|setF F o.dst y).all (λq=>q=(F',HH))->calm P o a D (wpP1 P ops D K fs os):=λF hF h=>by
    obtain ⟨lv,h1,h2⟩:=T.bind_all h;obtain ⟨v,g1,g2,g3⟩:=look_sound hΓ hW (by rw [hlen];exact hF) hD h1
    exact ⟨v,g1,p1_sound hΓ hlen hW hD hK fs os _ _ hl' (hF.put g2 (by rw [<-hlen];exact g3) o.dst) h2⟩
   have passOk:∀(F:aD),RF ds β Z wr (M H) F a->(p1x P G Γ ops tr HH Hm fs os<|setF F o.dst<|.v undef).all (λq=>q=(F',HH))->wpP1 P ops D K fs os (a.put o.dst undef):=λF hF h=>
    p1_sound hΓ hlen hW hD hK fs os _ _ hl' (hF.pass o.dst) h
   split at h
   ·rename_i hg
    have hw:az o (yielded ops a.tmps)=true:=dY
    rw [AD hw];exact goOk F hF h
   ·rename_i j want hg
    split at h
    ·rename_i d hd
     split at h
     ·rename_i b hb
      obtain ⟨s1,s2⟩:=hF.slot hb AH
      have hv:=(hF.get d _ s1).1
      simp only [R] at hv;rw [hv] at s2;rw [wanted_of hg hd s2];split at h
      ·grind
      ·grind
     ·rename_i g hb
      obtain ⟨s1,s2⟩:=hF.slot hb AH
      have hv:=(hF.get d _ s1).1
      simp only [R] at hv
      have kn:∀b,g=b->RF ds β Z wr (M H) (F.set d<|.bl b) a:=λb e=>hF.know dZ trivial
      rw [hv] at s2;rw [wanted_of hg hd s2];split at h
      ·rename_i hwt
       subst hwt;cases hgg:g with
       |true=>simp only [IQ,BP];exact goOk _ (kn U hgg) (h.1 hgg)
       |false=>rw [AE AH];exact passOk _ (kn X hgg)<|h.2 hgg
      ·rename_i hwt
       have hwt':want=false:=sZ
       subst hwt';cases hgg:g with
       |true=>rw [AE AH];exact passOk _ (kn U hgg) (h.1 hgg)
       |false=>simp only [IQ,BP];exact goOk _ (kn X hgg)<|h.2 hgg
     ·rename_i vs hb
      obtain ⟨s1,s2⟩:=hF.slot hb AH
      have hv:=(hF.get d _ s1).1
      exact aIK
     ·cases h
    ·cases h
def p1x_keeps {ops:aJ}{tr:aH}{Hm:aE}{F0:aD}:∀(fs:bh) (os:bw) (F:aD),(∀o∈os,o∈ops.toList)->M F=M F0/\(∀i,i∉dsts ops.toList->F[i]? =F0[i]?)->
  (p1x P G Γ ops tr H Hm fs os F).lv (Keeps (dsts ops.toList) F0 H)
 | [],_,F,_,h=>aK9
 |_::_,[],F,_,h=>aK9
 | f ::fs,o::os,F,hin,h=>by
  have hin':∀o∈os,o∈ops.toList:=λo ho=>hin o A8
  have hdo:∀t,o.dst=ah t->t∈dsts ops.toList:=λt ht=>OC.2 ⟨o,hin o AH,ht⟩
  have go:∀F:aD,M F=M F0/\(∀i,i∉dsts ops.toList->F[i]? =F0[i]?)->((calmx P G Γ tr F Hm o).bind λy=>p1x P G Γ ops tr H Hm fs os<|setF F o.dst y).lv (Keeps (dsts ops.toList) F0 H):=λF hF=>
   T.lv_bind (p:=λ_=>True) (λq _=>p1x_keeps fs os _ hin'<|keeps_setF hF hdo _) (T.lv_true (λ_=>trivial) _)
  have pass:∀F:aD,M F=M F0/\(∀i,i∉dsts ops.toList->F[i]? =F0[i]?)->(p1x P G Γ ops tr H Hm fs os<|setF F o.dst<|.v undef).lv (Keeps (dsts ops.toList) F0 H):=λF hF=>
   p1x_keeps fs os _ hin' (keeps_setF hF hdo _)
  simp only [p1x];split
  ·exact p1x_keeps fs os F hin' h
  ·split
   ·exact go F h
   ·rename_i j want hg
    split
    ·rename_i d hd
     have hdd:d∈dsts ops.toList:=by
      cases hj:ops[j]? with
      |none=>simp [hj] at hd
      |some oj=>simp [hj] at hd;exact OC.2 ⟨oj,A8,hd⟩
     split
     ·split
      ·exact go F h
      ·grind
     ·exact aHf
     ·grind
     ·trivial
    ·trivial
structure Gh where
 Z:aC->Prop
 β:aC->Loc
 H:aE
 F:aD
 a:bc
structure Cls (ds:aL0) (G:bb) (w0:aO) (Z0:Gz) (tr:aH) (β:aC->aL1) (H:aE) (wr:aO) (g:Gh) (w':aO):Prop where
 rw:RW G w0 Z0 g.Z g.β g.H w'
 rf:RF ds g.β g.Z w' (M g.H) g.F g.a
 near:Near (lvB β H tr) wr w'
 len:M H<=M g.H
 old:∀k,k<M H->g.β k=β k
 new:∀k,M H<=k->k<M g.H->wr.heap.size<=(g.β k).b\/(g.β k).b∈lvB β H tr
 shp:EvL H g.H
def Cls.keep {tr:aH}{g:Gh}{w' w'':aO}(h:Cls ds G w0 Z0 tr β H wr g w') (hb:Below w'.heap.size w' w''):Cls ds G w0 Z0 tr β H wr g w'':=
 ⟨h.rw.same hb,h.rf.mono (Ar _) (λ_ _=>rfl) (λ_ h=>h) λb hz=>below_block hb<|h.rw.zlt b hz,near_below h.near hb,h.len,h.old,h.new,h.shp⟩
def Cls.shape {tr:aH}{g:Gh}{w':aO}(h:Cls ds G w0 Z0 tr β H wr g w'):Shp tr β H w':=λk b _ hb hcl=>by
 obtain ⟨b',e1,e2⟩:=h.shp k b hb;obtain ⟨c1,c2,c3⟩:=e2.cl hcl;obtain ⟨_,⟨cs,f2,f3⟩,_⟩:=blk_cl h.rw e1 c1
 have hk:=(Ce.1 hb).1
 rw [h.old k hk,c2] at f2;refine ⟨cs,f2,?_⟩
 have:=RL.length f3
 simp at this
 omega
def Cls.touch {tr:aH}{g:Gh}{o:aU}{w':aO}(hc:Cls ds G w0 Z0 tr β H wr g w') (hst:okStore G g.F tr (M H) o=U) {x:aC}(hx:x∈lvB g.β g.H (wrt G g.F o)):wr.heap.size<=x\/x∈lvB β H tr:=by
 obtain ⟨k,b,h1,h2,h3,h4,rfl⟩:=mem_lvB.1 hx
 have hkg:=(Ce.1 h2).1
 by_cases hk:k<M H
 ·right
  have:=B7.1 hst k h1
  simp only [C5,AU] at this
  have hkt:k∈tr:=by
   rcases this with h|h
   ·grind
   ·omega
  obtain ⟨b0,hb0⟩:∃b0,H[k]? =ah b0:=⟨_,Cs hk⟩;obtain ⟨b',e1,e2⟩:=hc.shp k b0 hb0;rw [h2] at e1;simp only [Ac] at e1;subst e1;refine mem_lvB.2 ⟨k,b0,hkt,hb0,?_,e2.p h4,by rw [hc.old k hk]⟩
  have:=e2.live g.β k h3
  rwa [live_eq<|hc.old k hk] at this
 ·exact hc.new k A0 hkg
def cls_step (hΓ:∀g S,Γ g=ah S->Valid P G g S) {tr:aH}{g:Gh}{o:aU}{lv:LV}{H1:aE}{w':aO}(hst:okStore G g.F tr (M H) o=U) (h1:(opx P G Γ g.F g.H o).all λq=>q=(lv,H1)) (hc:Cls ds G w0 Z0 tr β H wr g w'):
  actUpon P (λv w''=>∃g':Gh,Cls ds G w0 Z0 tr β H wr g' w''/\g'.F=setF g.F o.dst lv/\g'.H=H1/\g'.a=g.a.put o.dst v) ((execOp g.a.eval o).run P w'):=by
 refine actUpon_mono (λv w'' ⟨Z',β',e1,e2,e3,e4,e5,e6,e7,e8⟩=>?_)<|opx_sound hΓ hc.rw hc.rf h1
 refine ⟨⟨Z',β',H1,setF g.F o.dst lv,g.a.put o.dst v⟩,?_,rfl,rfl,rfl⟩
 have hsz:=hc.near.size
 refine ⟨e1,e2.put e3 e4 o.dst,⟨e8.os.trans hc.near.os,e8.tape.trans hc.near.tape,e8.output.trans hc.near.output,E5 hsz e8.size,λk hk hn=>?_⟩,E5 hc.len e5,λk hk=>?_,λk h3 h4=>?_,hc.shp.trans<|opx_ev h1⟩
 ·exact aHi
 ·show β' k=β k
  rw [e6 k<|VT hk hc.len];exact hc.old k hk
 ·show wr.heap.size<=(β' k).b\/(β' k).b∈lvB β H tr
  by_cases hkk:k<M g.H
  ·rw [e6 k hkk];exact hc.new k h3 hkk
  ·rcases e7 k A0 h4 with h|h
   ·omega
   ·exact hc.touch hst h
def wpP2_sub {T':Type}{C:T'->aO->Prop}{Q':bc->aO->Prop}{ops:aJ}{g g1:T'}(hs:∀w',C g w'->C g1 w'):∀(fs:bh) (os:bw) (a:bc),
  wpP2 P ops C (λa' g'=>∀w',C g' w'->Q' a' w') fs os a g1->wpP2 P ops C (λa' g'=>∀w',C g' w'->Q' a' w') fs os a g
 | [],_,a,h=>by
  simp only [wpP2] at h|-
  grind
 |_::_,[],a,h=>by
  simp only [wpP2] at h|-
  grind
 | f::fs,o::os,a,h=>by
  simp only [wpP2] at h|-;split
  ·rename_i hf
   rw [AD hf] at h;split
   ·rename_i hw
    rw [AD hw] at h;exact λw' hw'=>h w'<|hs w' hw'
   ·rename_i hw
    rw [AE hw] at h;exact wpP2_sub hs fs os _ h
  ·rename_i hf
   rw [AE hf] at h;exact wpP2_sub hs fs os a h
def p2_sound (hΓ:∀g S,Γ g=ah S->Valid P G g S) {ops:aJ}{tr:aH}{Q:bc->aO->Prop}{F':aD}{H':aE}
  (hQ:∀g:Gh,g.F=F'->g.H=H'->∀w',Cls ds G w0 Z0 tr β H wr g w'->Q g.a w'):∀(fs:bh) (os:bw) (g:Gh),M fs=M os->(∃w',Cls ds G w0 Z0 tr β H wr g w')->
   (p2x P G Γ ops tr (M H) fs os g.F g.H).all (λq=>q=(F',H'))->wpP2 P ops (Cls ds G w0 Z0 tr β H wr) (λa' g'=>∀w',Cls ds G w0 Z0 tr β H wr g' w'->Q a' w') fs os g.a g
 | [],[],g,_,_,h=>by
  simp only [p2x,T.all,Ai] at h;exact wpP2_end (hQ g h.1 h.2)
 | [],_::_,_,hl,_,_=>W5
 |_::_,[],_,hl,_,_=>W5
 | f ::fs,o::os,g,hl,hex,h=>by
  have hl':M fs=M os:=dh
  simp only [p2x] at h;simp only [wpP2];split at h
  ·rename_i hf
   rw [AD hf]
   have turn:∀(F1:aD),(∀w',Cls ds G w0 Z0 tr β H wr g w'->RF ds g.β g.Z w' (M g.H) F1 g.a)->∀w',Cls ds G w0 Z0 tr β H wr g w'->Cls ds G w0 Z0 tr β H wr ⟨g.Z,g.β,g.H,F1,g.a⟩ w':=λF1 hF1 w' hc=>⟨hc.rw,hF1 w' hc,hc.near,hc.len,hc.old,hc.new,hc.shp⟩
   have goOk:∀(F1:aD),(∀w',Cls ds G w0 Z0 tr β H wr g w'->RF ds g.β g.Z w' (M g.H) F1 g.a)->(if okStore G F1 tr (M H) o then (opx P G Γ F1 g.H o).bind λq=>p2x P G Γ ops tr (M H) fs os (setF F1 o.dst q.1) q.2 else .no).all (λq=>q=(F',H'))->
     actAt P o g.a (Cls ds G w0 Z0 tr β H wr) g (wpP2 P ops (Cls ds G w0 Z0 tr β H wr) (λa' g'=>∀w',Cls ds G w0 Z0 tr β H wr g' w'->Q a' w') fs os):=λF1 hF1 h=>by
    split at h
    ·rename_i hst
     obtain ⟨⟨lv,H1⟩,h1,h2⟩:=T.bind_all h;intro w' hc;refine actUpon_mono (λv w'' ⟨g',e1,e2,e3,e4⟩=>⟨g',e1,?_⟩)<|cls_step (g:=⟨g.Z,g.β,g.H,F1,g.a⟩) hΓ hst h1<|turn F1 hF1 w' hc
     have:=p2_sound hΓ hQ fs os g' hl' ⟨w'',e1⟩ (by rw [e2,e3];exact h2)
     rw [e4] at this;exact this
    ·cases h
   have passOk:∀(F1:aD),(∀w',Cls ds G w0 Z0 tr β H wr g w'->RF ds g.β g.Z w' (M g.H) F1 g.a)->(p2x P G Γ ops tr (M H) fs os (setF F1 o.dst<|.v undef) g.H).all (λq=>q=(F',H'))->
     wpP2 P ops (Cls ds G w0 Z0 tr β H wr) (λa' g'=>∀w',Cls ds G w0 Z0 tr β H wr g' w'->Q a' w') fs os (g.a.put o.dst undef) g:=λF1 hF1 h=>by
    have ps:∀w',Cls ds G w0 Z0 tr β H wr g w'->Cls ds G w0 Z0 tr β H wr ⟨g.Z,g.β,g.H,setF F1 o.dst<|.v undef,g.a.put o.dst undef⟩ w':=λw' hc=>⟨hc.rw,(hF1 w' hc).pass o.dst,hc.near,hc.len,hc.old,hc.new,hc.shp⟩
    refine wpP2_sub (Q':=Q) (g1:=⟨g.Z,g.β,g.H,setF F1 o.dst<|.v undef,g.a.put o.dst undef⟩) ps fs os _ ?_;exact p2_sound hΓ hQ fs os ⟨g.Z,g.β,g.H,setF F1 o.dst<|.v undef,g.a.put o.dst undef⟩ hl' (hex.imp λw' hc=>ps w' hc) h
   obtain ⟨wx,hcx⟩:=hex
   have hF:=hcx.rf
   split at h
   ·rename_i hg
    have hw:az o (yielded ops g.a.tmps)=true:=dY
    rw [AD hw];exact goOk g.F (λw' hc=>hc.rf) h
   ·rename_i j want hg
    split at h
    ·rename_i d hd
     split at h
     ·rename_i b hb
      obtain ⟨s1,s2⟩:=hF.slot hb AH
      have hv:=(hF.get d _ s1).1
      simp only [R] at hv;rw [hv] at s2;rw [wanted_of hg hd s2];split at h
      ·rename_i e;subst e;simp only [IQ,BP];exact goOk g.F (λw' hc=>hc.rf) h
      ·rename_i e;rw [AE sQ];exact passOk g.F (λw' hc=>hc.rf) h
     ·rename_i b hb
      obtain ⟨s1,s2⟩:=hF.slot hb AH
      have hv:=(hF.get d _ s1).1
      simp only [R] at hv
      have kn:∀c,b=c->∀w',Cls ds G w0 Z0 tr β H wr g w'->RF ds g.β g.Z w' (M g.H) (g.F.set d<|.bl c) g.a:=λc e w' hc=>hc.rf.know dZ trivial
      rw [hv] at s2;rw [wanted_of hg hd s2];split at h
      ·rename_i hwt
       subst hwt;cases hgg:b with
       |true=>simp only [IQ,BP];exact goOk _ (kn U hgg) (h.1 hgg)
       |false=>rw [AE AH];exact passOk _ (kn X hgg)<|h.2 hgg
      ·rename_i hwt
       have hwt':want=false:=sZ
       subst hwt';cases hgg:b with
       |true=>rw [AE AH];exact passOk _ (kn U hgg) (h.1 hgg)
       |false=>simp only [IQ,BP];exact goOk _ (kn X hgg)<|h.2 hgg
     ·rename_i vs hb
      obtain ⟨s1,s2⟩:=hF.slot hb AH
      have hv:=(hF.get d _ s1).1
      simp only [R] at hv;rw [hv] at s2;rw [wanted_none hg hd s2,AE AH];exact passOk g.F (λw' hc=>hc.rf) h
     ·cases h
    ·cases h
  ·rename_i hf
   rw [AE hf];exact p2_sound hΓ hQ fs os g hl' hex h
def T.swap {α γ:Type}{K:α->γ->Prop}{t:T α}{u:T γ}:t.all (λx=>u.all λy=>K x y)->u.all (λy=>t.all λx=>K x y):=by
 intro h;obtain ⟨x,h1,h2⟩:=T.pick h;refine T.all_mono (λy hy=>?_) h1
 exact T.all_mono (λz hz=>A8) h2
def evalL_setF {F:aD}{d:bB}{y:LV}{x:aL2}(h:∀t,d=ah t->x≠ .tmp t):evalL G (setF F d y) x=evalL G F x:=by
 cases d with
 |none=>rfl
 | some t=>
  cases x with
  |tmp s=>
   have hne:s≠t:=λe=>h t rfl<|by rw [e]
   simp only [evalL,setF,List.getD,VS<|Lc hne]
  |_=>rfl
def looks {ops:aJ}{o:aU}{d:bB}(h:∀t,d=ah t->t∉o.looksAt ops):∀x∈o.op.operands,∀t,d=ah t->x≠ .tmp t:=λx hx t ht e=>h t ht (by
 subst e;exact List.mem_append_left _<|OC.2 ⟨.tmp t,A8,rfl⟩)
def setF_comm {F:aD}{d e:bB}{x y:LV}(h:∀t,d=ah t->e≠ah t):setF (setF F d x) e y=setF (setF F e y) d x:=by
 cases d with
 |none=>rfl
 | some t=>
  cases e with
  |none=>rfl
  |some s=>
   have:t≠s:=λe=>h t rfl<|by rw [e]
   exact List.set_comm _ _ A0
def mkx_setF {ops:aJ}{o:aU}{d:bB}{y:LV}(h:∀t,d=ah t->t∉o.looksAt ops):mkx P G Γ (setF F d y) o=mkx P G Γ F o:=by
 have hl:=looks h
 unfold mkx;split
 ·rename_i t len parts ho
  have em:(parts.toList.map λq=>(q.1,evalL G (setF F d y) q.2))=parts.toList.map λq=>(q.1,evalL G F q.2):=Gv λq hq=>by
   rw [evalL_setF<|hl q.2 rP]
  rw [em]
 ·rename_i f args ty ho
  have e1:evalL G (setF F d y) f=evalL G F f:=evalL_setF<|hl f aJw
  have e2:(args.toList.map λx=>norm<|evalL G (setF F d y) x)=args.toList.map λx=>norm (evalL G F x):=Gv λx hx=>by
   rw [evalL_setF<|hl x Vr]
  rw [e1,e2]
 ·rfl
def am_setF {ops:aJ}{o:aU}{d:bB}{y:LV}(ha:isAm o=U) (h:∀t,d=ah t->t∉o.looksAt ops):opx P G Γ (setF F d y) H o=opx P G Γ F H o:=by
 have hl:=looks h
 unfold isAm at ha;split at ha
 ·rename_i t ho
  unfold opx
  grind
 ·rename_i t x ho
  unfold opx;simp only [ho];exact cf
 ·rename_i t x ho
  unfold opx;simp only [ho];exact cf
 ·cases ha
def ok_okStore {tr:aH}{n0:aC}{o:aU}{F:aD}(h:isAl o=U\/isMk o=U):okStore G F tr n0 o=true:=by
 have hw:wrt G F o=[]:=by
  unfold wrt;split
  ·exact Vc
  ·exact Vc
  ·exact Vc
  ·exact Vc
  ·exact Vc
  ·rfl
 unfold okStore;rw [hw];rfl
def ok_okStoreM {tr:aH}{n0:aC}{o:aU}{F:aD}(h:isAm o=U\/isMk o=U):okStore G F tr n0 o=true:=by
 have hw:wrt G F o=[]:=by
  unfold wrt;split
  ·exact VY
  ·exact VY
  ·exact VY
  ·exact VY
  ·exact VY
  ·rfl
 unfold okStore;rw [hw];rfl
def mkI_mk {ops:aJ}{i:aC}{o:aU}(h:mkI ops i o=U):isMk o=true:=by
 unfold mkI at h;rw [AS,AS] at h;exact h.1.1
def p2f_swap0 {ops:aJ}{tr:aH}{n0:aC}{i j:aC}{is:aH}{K:List LV×List Blk->Prop}(x y:aU) (hx:ops[i]? =ah x) (hy:ops[j]? =ah y) (g1:x.guard.isNone=U) (g2:y.guard.isNone=U) (g3:((isAm x=U/\mkI ops j y=U)\/(mkI ops i x=U/\isAm y=U))\/(mkI ops i x=U/\mkI ops j y=U)) (hap:x.apart ops y=U) (h:(p2f P G Γ ops tr n0 (j::i::is) F H).all K):(p2f P G Γ ops tr n0 (i::j::is) F H).all K:=by
 obtain ⟨a1,a2,a3⟩:=VO hap
 have sx:∀F:aD,okStore G F tr n0 x=true:=λF=>by
  rcases g3 with (g3|g3) |g3
  ·exact ok_okStoreM<|.inl g3.1
  ·exact ok_okStoreM<|.inr<|mkI_mk g3.1
  ·exact ok_okStoreM<|.inr<|mkI_mk g3.1
 have sy:∀F:aD,okStore G F tr n0 y=true:=λF=>by
  rcases g3 with (g3|g3) |g3
  ·exact ok_okStoreM<|.inr<|mkI_mk g3.2
  ·exact ok_okStoreM<|.inl g3.2
  ·exact ok_okStoreM<|.inr<|mkI_mk g3.2
 have notboth:∀o:aU,isMk o=U->isAm o=U->False:=λo h1 h2=>by
  unfold isMk at h1;split at h1
  ·rename_i ho;simp [isAm,ho] at h2
  ·rename_i ho;simp [isAm,ho] at h2
  ·cases h1
 simp only [p2f,hx,hy,g1,g2,sx,sy,Bool.and_self,BP] at h|-;rw [T.all_bind] at h|-;rcases g3 with (⟨g3,g4⟩ |⟨g3,g4⟩) |⟨g3,g4⟩
 ·have nx:¬mkI ops i x=true:=λe=>notboth x (mkI_mk e) g3
  simp only [spx,AD g4,AE nx] at h|-;rw [T.all_bind] at h
  have h2:=T.all_mono (λz hz=>by
   simp only [T.all] at hz;rw [T.all_bind,am_setF g3 a3] at hz;exact hz) h
  refine T.all_mono (λq hq=>?_)<|T.swap h2
  rw [T.all_bind,T.all_bind,mkx_setF a1];refine T.all_mono (λz hz=>?_) hq
  simp only [T.all]
  rwa [setF_comm a2]
 ·have ny:¬mkI ops j y=true:=λe=>notboth y (mkI_mk e) g4
  simp only [spx,AD g3,AE ny] at h|-;rw [T.all_bind]
  have h2:=T.all_mono (λz hz=>by
   rw [T.all_bind,T.all_bind,mkx_setF a3] at hz;exact hz) h
  refine T.all_mono (λq hq=>?_)<|T.swap h2
  simp only [T.all];rw [T.all_bind,am_setF g4 a1];refine T.all_mono (λz hz=>?_) hq
  rwa [setF_comm a2]
 ·simp only [spx,AD g3,AD g4] at h|-
  rw [T.all_bind] at h|-
  have h2:=T.all_mono (λz hz=>by
   simp only [T.all] at hz;rw [T.all_bind,T.all_bind,mkx_setF a3] at hz;exact hz) h
  refine T.all_mono (λq hq=>?_)<|T.swap h2
  simp only [T.all];rw [T.all_bind,T.all_bind,mkx_setF a1];refine T.all_mono (λz hz=>?_) hq
  simp only [T.all] at hz|-
  rwa [setF_comm a2]
def genL_setF {ops:aJ}{o:aU}{d:bB}{y:LV}(hs:∀cs b,o.op≠ .select cs b) (h:∀t,d=ah t->t∉o.looksAt ops):genL P G (setF F d y) o=genL P G F o:=by
 have hl:=looks h
 have e:∀x∈o.op.operands,evalL G (setF F d y) x=evalL G F x:=λx hx=>evalL_setF<|hl x hx
 unfold genL
 have e1:o.op.operands.toList.all (λx=>isPl<|evalL G (setF F d y) x)=o.op.operands.toList.all (λx=>isPl<|evalL G F x):=by
  grind
 have e3:o.op.operands.toList.all (λx=>isKn<|evalL G (setF F d y) x)=o.op.operands.toList.all (λx=>isKn<|evalL G F x):=by
  grind
 have e2:genV P o (λx=>(pl<|evalL G (setF F d y) x).getD undef)=genV P o (λx=>(pl<|evalL G F x).getD undef):=by
  have c:=ct (ρ:=λx=>(pl<|evalL G (setF F d y) x).getD undef) (ρ':=λx=>(pl<|evalL G F x).getD undef) o hs λx hx=>A8
  unfold genV;rw [c]
  have a:eqArm P o.op (λx=>(pl<|evalL G (setF F d y) x).getD undef)=eqArm P o.op (λx=>(pl<|evalL G F x).getD undef):=by
   exact aHg
  rw [a]
 grind
def pux_setF {ops:aJ}{o:aU}{d:bB}{y:LV}(h:∀t,d=ah t->t∉o.looksAt ops):pux P G Γ (setF F d y) o=pux P G Γ F o:=by
 have hl:=looks h
 have e:∀x∈o.op.operands,evalL G (setF F d y) x=evalL G F x:=λx hx=>evalL_setF<|hl x hx
 unfold pux;split
 ·exact aJ7
 ·exact aJ7
 ·rename_i c x z ho;rw [e c D3,e x D3,e z D3]
 ·rename_i t x ho;rw [e x D3]
 ·rename_i s x i ho;rw [e x D3]
 ·rename_i t x i ho;rw [e x D3,e i D3]
 ·rename_i t parts ho
  congr 1
  refine Gv λq hq=>?_
  have e':=e q.2 rP
  have:evalN G (setF F d y) q.2=evalN G F q.2:=by
   generalize q.2=x at e';cases x<;>first|rfl|exact e'
  rw [this]
 ·exact mkx_setF h
 ·exact mkx_setF h
 ·rename_i ho;exact genL_setF (λcs b e=>A8) h
 ·rename_i op _ _ _ _ ho
  split
  ·rfl
  ·rfl
  ·rfl
  ·rfl
  ·exact genL_setF (λcs b e=>A8) h
 ·rfl
def evalN_setF {d:bB}{y:LV}{x:aL2}(h:evalL G (setF F d y) x=evalL G F x):evalN G (setF F d y) x=evalN G F x:=by
 cases x<;>simp only [evalN,h]
def hpx (P:aR) (G:bb) (F:aD) (H:aE) (o:aU):T LV:=
 match o.op with
 | .move x=> .ok (evalL G F x)
 | .assign x=> .ok (evalL G F x)
 | .load t x=>loadL P H t (evalL G F x)
 | .indexAddr t x i=>indexL P t (evalL G F x) (isKi<|evalL G F i) (evalL G F i)
 | .fieldAddr s x i=>fieldL P s (evalL G F x) i
 | .extract x i=>(match evalL G F x with
  | .tup l=>(match l[i]? with
   |some y=> .ok y
   |none=> .no)
  |_=>genL P G F o)
 | .binOp ..=>genL P G F o
 | .call ..=>genL P G F o
 | .build t parts=>buildL P t (parts.toList.map λq=>(q.1,evalN G F q.2))
 |_=> .no
def hp_cases {o:aU}(h:(isNm o ||isLd o)=U):(∃x,o.op=.move x)\/(∃x,o.op=.assign x)\/(∃t x,o.op=.load t x)\/(∃t x i,o.op=.indexAddr t x i)\/(∃t x y u,o.op=.binOp .add t x y u)\/(∃t x y u,o.op=.binOp .sub t x y u)\/(∃x i,o.op=.extract x i)\/(∃x i,o.op=.call {callee:=.builtin .max,args:=x,argTypes:=i})\/(∃x i,o.op=.call {callee:=.builtin .min,args:=x,argTypes:=i})\/(∃s x i,o.op=.fieldAddr s x i)\/(∃t x y u,o.op=.binOp .mul t x y u)\/(∃t ps,o.op=.build t ps):=by
 rcases OB.1 h with h|h
 ·unfold isNm at h
  split at h
  ·grind
  ·grind
  ·grind
  ·grind
  ·grind
  ·grind
  ·grind
  ·grind
  ·rename_i ho
   split at h
   ·grind
   ·grind
   ·grind
   ·cases h
  ·cases h
 ·unfold isLd at h
  exact dG
def hp_spx {ops:aJ}{k:aC}{o:aU}(h:(isNm o ||isLd o)=U):spx P G Γ ops k F H o=(hpx P G F H o).bind λy=> .ok (y,H):=by
 rcases hp_cases h with ⟨x,ho⟩ |⟨x,ho⟩ |⟨t,x,ho⟩ |⟨t,x,i,ho⟩ |⟨t,x,y,u,ho⟩ |⟨t,x,y,u,ho⟩ |⟨x,i,ho⟩ |⟨x,i,ho⟩ |⟨x,i,ho⟩ |⟨t,x,i,ho⟩ |⟨t,x,y,u,ho⟩ |⟨t,ps,ho⟩
 case inr.inr.inr.inr.inr.inr.inl=>
  unfold spx mkI isMk opx hpx;simp only [ho,Mg,FJ,E4];generalize evalL G F x=v;cases v
  case tup l=>
   dsimp only;cases l[i]? <;>rfl
  all_goals rfl
 all_goals (unfold spx mkI isMk opx hpx;simp [ho,T.bind])
def hpx_setF {ops:aJ}{o:aU}{d:bB}{y:LV}(hh:(isNm o ||isLd o)=U) (h:∀t,d=ah t->t∉o.looksAt ops):hpx P G (setF F d y) H o=hpx P G F H o:=by
 have hl:=looks h
 rcases hp_cases hh with ⟨x,ho⟩ |⟨x,ho⟩ |⟨t,x,ho⟩ |⟨t,x,i,ho⟩ |⟨t,x,z,u,ho⟩ |⟨t,x,z,u,ho⟩ |⟨x,i,ho⟩ |⟨x,i,ho⟩ |⟨x,i,ho⟩ |⟨t,x,i,ho⟩ |⟨t,x,z,u,ho⟩ |⟨t,ps,ho⟩
 ·exact dB
 ·exact dB
 ·exact dB
 ·unfold hpx;simp only [ho]
  rw [evalL_setF<|hl x D3,evalL_setF<|hl i D3]
 ·exact qh
 ·exact qh
 ·unfold hpx;simp only [ho]
  rw [evalL_setF<|hl x D3,genL_setF (λcs b e=>A8) h]
 ·exact aJO
 ·exact aJO
 ·exact dB
 ·exact qh
 ·unfold hpx;simp only [ho]
  have em:(ps.toList.map λq=>(q.1,evalN G (setF F d y) q.2))=ps.toList.map λq=>(q.1,evalN G F q.2):=Gv λq hq=>by
   exact aI3
  rw [em]
def nm_hpx {o:aU}{H':aE}(h:isNm o=U):hpx P G F H o=hpx P G F H' o:=by
 unfold hpx;cases ho:o.op<;>simp_all [isNm]
def hp_okStore {o:aU}{tr:aH}{n0:aC}(h:(isNm o ||isLd o)=U) (F:aD):okStore G F tr n0 o=true:=by
 rcases hp_cases h with ⟨x,ho⟩ |⟨x,ho⟩ |⟨t,x,ho⟩ |⟨t,x,i,ho⟩ |⟨t,x,y,u,ho⟩ |⟨t,x,y,u,ho⟩ |⟨x,i,ho⟩ |⟨x,i,ho⟩ |⟨x,i,ho⟩ |⟨t,x,i,ho⟩ |⟨t,x,y,u,ho⟩ |⟨t,ps,ho⟩<;>simp [okStore,wrt,ho]
def sto_setF {ops:aJ}{k:aC}{o:aU}{d:bB}{y:LV}(hh:isSto o=U) (h:∀t,d=ah t->t∉o.looksAt ops):spx P G Γ ops k (setF F d y) H o=spx P G Γ ops k F H o/\∀tr n0,okStore G (setF F d y) tr n0 o=okStore G F tr n0 o:=by
 have hl:=looks h
 unfold isSto at hh;split at hh
 ·rename_i t x z ho
  have e1:=evalL_setF (G:=G) (F:=F) (y:=y)<|hl x D3
  have e2:=evalL_setF (G:=G) (F:=F) (y:=y)<|hl z D3
  refine ⟨?_,λtr n0=>?_⟩
  ·unfold spx mkI isMk opx
   simp only [ho,Mg,FJ,E4];rw [e1,e2]
  ·unfold okStore wrt
   simp only [ho];rw [e1]
 ·rename_i t ho
  refine ⟨?_,λtr n0=>?_⟩
  ·unfold spx mkI isMk opx
   grind
  ·unfold okStore wrt
   grind
 ·rename_i t x ho
  have e1:=evalL_setF (G:=G) (F:=F) (y:=y)<|hl x D3
  refine ⟨?_,λtr n0=>?_⟩
  ·unfold spx mkI isMk opx
   simp only [ho,Mg,FJ,E4];rw [e1]
  ·unfold okStore wrt
   grind
 ·cases hh
def mk_spx {ops:aJ}{k:aC}{o:aU}(h:mkI ops k o=U):spx P G Γ ops k F H o=(mkx P G Γ F o).bind λy=> .ok (y,H):=by
 unfold spx
 grind
def app_setF {ops:aJ}{k:aC}{o:aU}{d:bB}{y:LV}(hh:isAp o=U) (h:∀t,d=ah t->t∉o.looksAt ops):spx P G Γ ops k (setF F d y) H o=spx P G Γ ops k F H o/\∀tr n0,okStore G (setF F d y) tr n0 o=okStore G F tr n0 o:=by
 have hl:=looks h
 unfold isAp at hh;split at hh
 ·rename_i args tys ho
  have e:args.toList.map (evalL G<|setF F d y)=args.toList.map (evalL G F):=Gv λx hx=>evalL_setF<|hl x Vr
  refine ⟨?_,λtr n0=>?_⟩
  ·unfold spx mkI isMk opx
   simp only [ho,Mg,FJ,E4];rw [e]
  ·unfold okStore wrt
   exact ON
 ·cases hh
def T.all_const {α:Type}{A:Prop}:∀ {t:T α},t.all (λ_=>A)->A
 | .ok _,h=>h
 | .br b x y,h=>by
  cases b with
  |true=>exact T.all_const (t:=x) (h.1 rfl)
  |false=>exact T.all_const (t:=y) (h.2 rfl)
 | .req _ x,h=>T.all_const (t:=x) h.2
 | .no,h=>h.elim
def p2f_swap {ops:aJ}{tr:aH}{n0:aC}{i j:aC}{is:aH}{K:List LV×List Blk->Prop}(hc:commB ops i j=U) (h:(p2f P G Γ ops tr n0 (j::i::is) F H).all K):(p2f P G Γ ops tr n0 (i::j::is) F H).all K:=by
 unfold commB at hc;split at hc
 ·rename_i x y hx hy
  simp only [AS,C5] at hc;obtain ⟨⟨⟨g1,g2⟩,g3⟩,hap⟩:=hc;obtain ⟨a1,a2,a3⟩:=VO hap
  have step:∀(k:aC) (o:aU) (l:aH) (F:aD) (H:aE),ops[k]? =ah o->o.guard.isNone=U->((p2f P G Γ ops tr n0 (k::l) F H).all K↔(okStore G F tr n0 o=U/\(spx P G Γ ops k F H o).all (λq=>(p2f P G Γ ops tr n0 l (setF F o.dst q.1) q.2).all K))):=λk o l F H hk hg=>by
   simp only [p2f,hk,hg,Cr];split
   ·rename_i hs
    rw [T.all_bind];simp only [hs,DR]
   ·rename_i hs
    constructor
    ·exact λh=>h.elim
    ·grind
  have hpS:∀(k:aC) (o:aU) (F:aD) (H:aE) (K:LV×List Blk->Prop),(isNm o ||isLd o)=U->((spx P G Γ ops k F H o).all K↔(hpx P G F H o).all (λv=>K (v,H))):=λk o F H K ho=>by
   rw [hp_spx ho,T.all_bind];rfl
  rcases g3 with ((((g3|g3) |g3) |g3) |g3) |g3
  ·exact p2f_swap0 x y hx hy g1 g2 g3 hap h
  ·have gx:=OB.2 g3.1
   have gy:=OB.2 g3.2
   rw [step _ _ _ _ _ hy g2,hpS j y _ _ _ gy] at h;rw [step _ _ _ _ _ hx g1,hpS i x _ _ _ gx];refine ⟨hp_okStore gx F,?_⟩
   have h2:=T.all_mono (λv hv=>by
    rw [step _ _ _ _ _ hx g1,hpS i x _ _ _ gx,hpx_setF gx a3] at hv;exact hv.2) h.2
   refine T.all_mono (λu hu=>?_)<|T.swap h2
   rw [step _ _ _ _ _ hy g2,hpS j y _ _ _ gy,hpx_setF gy a1];refine ⟨hp_okStore gy _,T.all_mono (λv hv=>?_) hu⟩
   rw [setF_comm a2];exact hv
  ·obtain ⟨gx,gy⟩:=g3
   have gx':(isNm x ||isLd x)=true:=by rw [gx];rfl
   rw [step _ _ _ _ _ hy g2] at h;rw [step _ _ _ _ _ hx g1,hpS i x _ _ _ gx'];refine ⟨hp_okStore gx' F,?_⟩
   have h2:=T.all_mono (λq hq=>by
    rw [step _ _ _ _ _ hx g1,hpS i x _ _ _ gx',hpx_setF gx' a3,nm_hpx (H':=H) gx] at hq;exact hq.2) h.2
   refine T.all_mono (λu hu=>?_)<|T.swap h2
   obtain ⟨e1,e2⟩:=sto_setF (P:=P) (G:=G) (Γ:=Γ) (F:=F) (H:=H) (y:=u) gy a1;rw [step _ _ _ _ _ hy g2,e1,e2];refine ⟨h.1,T.all_mono (λq hq=>?_) hu⟩
   rw [setF_comm a2];exact hq
  ·obtain ⟨gx,gy⟩:=g3
   have gy':(isNm y ||isLd y)=true:=by rw [gy];rfl
   rw [step _ _ _ _ _ hy g2,hpS j y _ _ _ gy'] at h
   have h2:=T.all_mono (λv hv=>by
    obtain ⟨e1,e2⟩:=sto_setF (P:=P) (G:=G) (Γ:=Γ) (F:=F) (H:=H) (y:=v) gx a3;rw [step _ _ _ _ _ hx g1,e1,e2] at hv;exact hv) h.2
   rw [step _ _ _ _ _ hx g1];refine ⟨T.all_const<|T.all_mono (λv hv=>hv.1) h2,?_⟩
   have h3:=T.all_mono (λv hv=>hv.2) h2
   refine T.all_mono (λq hq=>?_)<|T.swap h3
   rw [step _ _ _ _ _ hy g2,hpS j y _ _ _ gy',hpx_setF gy' a1,nm_hpx (H':=H) gy];refine ⟨hp_okStore gy' _,T.all_mono (λv hv=>?_) hq⟩
   rw [setF_comm a2];exact hv
  ·obtain ⟨gx,gy⟩:=g3
   rw [step _ _ _ _ _ hy g2] at h;rw [step _ _ _ _ _ hx g1,mk_spx gx,T.all_bind];refine ⟨ok_okStore<|.inr<|mkI_mk gx,?_⟩
   have h2:=T.all_mono (λq hq=>by
    rw [step _ _ _ _ _ hx g1,mk_spx gx,T.all_bind,mkx_setF a3] at hq;exact hq.2) h.2
   refine T.all_mono (λu hu=>?_)<|T.swap h2
   obtain ⟨e1,e2⟩:=app_setF (P:=P) (G:=G) (Γ:=Γ) (F:=F) (H:=H) (y:=u) gy a1;exact aIJ
  ·obtain ⟨gx,gy⟩:=g3
   rw [step _ _ _ _ _ hy g2,mk_spx gy,T.all_bind] at h
   have h2:=T.all_mono (λv hv=>by
    obtain ⟨e1,e2⟩:=app_setF (P:=P) (G:=G) (Γ:=Γ) (F:=F) (H:=H) (y:=v) gx a3
    (try simp only [T.all] at hv)
    rw [step _ _ _ _ _ hx g1,e1,e2] at hv;exact hv) h.2
   rw [step _ _ _ _ _ hx g1];refine ⟨T.all_const<|T.all_mono (λv hv=>hv.1) h2,?_⟩
   have h3:=T.all_mono (λv hv=>hv.2) h2
   refine T.all_mono (λq hq=>?_)<|T.swap h3
   rw [step _ _ _ _ _ hy g2,mk_spx gy,T.all_bind,mkx_setF a1];refine ⟨ok_okStore<|.inr<|mkI_mk gy,T.all_mono (λv hv=>?_) hq⟩
   exact aIg
 ·cases hc
def p2f_cons {ops:aJ}{tr:aH}{n0:aC}{j:aC}{R R':aH}{K:List LV×List Blk->Prop}(hh:∀(F:aD) (H:aE),(p2f P G Γ ops tr n0 R F H).all K->(p2f P G Γ ops tr n0 R' F H).all K) (h:(p2f P G Γ ops tr n0 (j::R) F H).all K):(p2f P G Γ ops tr n0 (j::R') F H).all K:=by
 simp only [p2f] at h|-;exact qP
def p2f_front {ops:aJ}{tr:aH}{n0:aC}{i:aC}{K:List LV×List Blk->Prop}:∀(R:aH) (F:aD) (H:aE),i∈R->(befR i R).all (λj=>commB ops i j)=U->(p2f P G Γ ops tr n0 R F H).all K->(p2f P G Γ ops tr n0 (i::R.erase i) F H).all K
 | [],_,_,hi,_,_=>dp
 | j::R,F,H,hi,hb,h=>by
  by_cases hj:j=i
  ·subst hj
   grind
  ·have hi':i∈R:=by
    rcases Ak.1 hi with e|e
    ·grind
    ·exact e
   simp only [befR,AE hj,GD,AS] at hb;rw [QN A8];exact p2f_swap hb.1<|p2f_cons (λF H h=>p2f_front R F H hi' hb.2 h) h
def litL_pos {t:aS}{len:aC}{l:bq}{K:LV->Prop}(h:(litL P t len l).all K):¬len=0:=by
 unfold litL at h
 rintro rfl
 split at h
 ·split at h
  ·split at h
   ·omega
   ·cases h
  ·cases h
 ·cases h
def litL_typed {t:aS}{len:aC}{l:bq}{K:LV->Prop}(h:(litL P t len l).all K):typedSl P t=true:=by
 unfold litL at h;unfold typedSl;split at h
 ·rename_i e hu
  split at h
  ·rename_i ty m z h1 h2 h3
   simp [h1]
  ·cases h
 ·cases h
def mkx_opx {o:aU}{lv:LV}(hm:isMk o=U) (h:(mkx P G Γ F o).all λz=>z=lv):(opx P G Γ F H o).all (λq=>q=(lv,H)):=by
 unfold mkx at h;split at h
 ·rename_i t len parts ho
  split at h
  ·cases h
  rename_i hrl;split at h
  ·rename_i hno
   unfold opx;simp only [ho];rw [AE<|litL_pos h,AD<|litL_typed h,AE hrl,AD hno,T.all_bind];exact aJZ
  ·cases h
 ·rename_i f args ty ho
  unfold opx;simp only [ho];split at h
  ·rename_i g cap hf
   split at h
   ·rename_i fn hfn
    split at h
    ·rename_i hb
     split at h
     ·rename_i S hS
      split at h
      ·rename_i hno
       simp only [hf,callG,hfn,hb,BP,hS,hno];rw [T.all_bind];exact aJZ
      ·cases h
     ·cases h
    ·cases h
   ·cases h
  ·cases h
 ·cases h
def lst_set {l:aY}{i j:aC}{d:aL}:(l.setIfInBounds i U).getD j d=if i=j/\i<l.size then U else l.getD j d:=by
 by_cases e:i=j
 ·subst e
  by_cases h:i<l.size
  ·simp [h]
  ·simp [h]
 ·simp [e]
def lst_in {l:aY}{i:aC}(h:l.getD i U=X):i<l.size/\l.getD i X=false:=by
 rw [cC] at h|-;cases hq:l[i]? with
 |none=>rw [hq] at h;cases h
 |some b=>
  grind
def befR_mem {i:aC}:∀ {R:aH}{j:aC},j∈befR i R->j∈R/\j≠i
 | [],_,h=>Ab
 | k::R,j,h=>by
  simp only [befR] at h;split at h
  ·cases h
  ·rename_i hk
   rcases Ak.1 h with rfl|h
   ·grind
   ·exact ⟨O9 _ (befR_mem h).1,(befR_mem h).2⟩
def befR_pair {p:aC->aC->Prop}{i:aC}:∀ {R:aH}{j:aC},R.Pairwise p->i∈R->j∈befR i R->p j i
 | [],_,_,h,_=>Ab
 | k::R,j,hp,hi,hj=>by
  rw [cD] at hp;simp only [befR] at hj;split at hj
  ·cases hj
  ·rename_i hk
   have hi2:i∈R:=by
    rcases Ak.1 hi with e|hi
    ·grind
    ·exact hi
   rcases Ak.1 hj with rfl|hj
   ·grind
   ·exact befR_pair hp.2 hi2 hj
def befR_erase {i k q:aC}(hk:k≠i) (hq:q≠i):∀ {R:aH},q∈befR k R->q∈befR k (R.erase i)
 | [],h=>Ab
 | x::R,h=>by
  simp only [befR] at h;split at h
  ·cases h
  ·rename_i hx
   by_cases e:x=i
   ·subst e
    rw [List.erase_cons_head];rcases Ak.1 h with rfl|h
    ·grind
    ·exact h
   ·rw [QN A8]
    simp only [befR,AE hx];rcases Ak.1 h with rfl|h
    ·simp
    ·exact O9 _<|befR_erase hk hq h
inductive PreT (ops:Array Oper) (R:List Nat):Nat->Nat->Prop
 |dir {i j:Nat}:preB ops i j=U->PreT ops R i j
 |step {i p j:Nat}:p∈R->preB ops i p=U->PreT ops R p j->PreT ops R i j
def PreT.not_ready {ops:aJ}{R:aH}{listed:aY}(hm:∀i,i∈R↔listed.getD i U=X) {i j:aC}(hi:i∈ay .any ops listed) (hj:j∈R) (h:PreT ops R i j):False:=by
 have no:∀p,preB ops i p=U->p∈R->False:=λp h hp=>by
  obtain ⟨_,o,ho,r2⟩:=Gw.1 hi;unfold preB at h;rw [ho] at h;simp only [La,AS] at h;obtain ⟨e,he,hb,hq⟩:=h
  have hq:e.on=p:=A8
  have h3:=r2 e A8 hb
  rw [hq] at h3
  have h4:=(lst_in<|(hm p).1 hp).2
  rw [h3] at h4;cases h4
 cases h with
 |dir h=>exact no _ h hj
 |step hp h _=>exact no _ h hp
def PreT.erase {ops:aJ}{R:aH}{listed:aY}(hm:∀i,i∈R↔listed.getD i U=X) (hnd:R.Nodup) {k:aC}(hk:k∈ay .any ops listed) {i j:aC}(h:PreT ops R i j) (hj:j∈R):PreT ops (R.erase k) i j:=by
 induction h with
 |dir h=>exact .dir h
 |step hp h hr ih=>exact .step (hnd.mem_erase_iff.2 ⟨λe=>by subst e;exact PreT.not_ready hm hk hj hr,hp⟩) h<|ih hj
def preTB_T {ops:aJ}{R:aH}:∀ {n i j:aC},preTB ops R n i j=U->PreT ops R i j
 |0,_,_,h=> .dir h
 |n+1,_,_,h=>by
  simp only [preTB,C5,La,AS] at h;rcases h with h|⟨p,hp,h1,h2⟩
  ·exact .dir h
  ·exact .step hp h1<|preTB_T h2
structure OrdI (ops:aJ) (R:aH) (listed:aY):Prop where
 nd:R.Nodup
 mem:∀i,i∈R↔listed.getD i U=X
 pr:R.Pairwise λj i=>PreT ops R i j\/commB ops i j=U
 tp:∀i∈R,∃o,ops[i]? =ah o/\∀e∈o.after,Region.binds .any e=U->listed.getD e.on X=U\/e.on∈befR i R
def ordI_F {ops:aJ}:∀(n:aC) (R:aH) (listed:aY),M R=n->OrdI ops R listed->ordF ops n R listed=U
 |0,R,listed,hn,I=>by
  have e:=List.eq_nil_of_length_eq_zero hn
  subst e;simp only [ordF,List.isEmpty_nil,Cr,VU];refine List.eq_nil_iff_forall_not_mem.2 λi hi=>?_
  exact absurd ((I.mem i).2 (Gw.1 hi).1) AH
 | n +1,R,listed,hn,I=>by
  simp only [ordF,AS,B7,C8,cQ];refine ⟨λh0=>?_,λi hi=>?_⟩
  ·match R,hn,I with
   | k::R,_,I=>
    obtain ⟨o,ho,h1⟩:=I.tp k AH
    have:k∈ay .any ops listed:=Gw.2 ⟨(I.mem k).1 AH,o,ho,λe he hb=>by
     rcases h1 e he hb with h2|h2
     ·exact h2
     ·simp [befR] at h2⟩
    rw [h0] at this;cases this
  ·obtain ⟨r1,o,ho,r2⟩:=Gw.1 hi
   have hR:=(I.mem i).2 r1
   refine ⟨⟨A8,λj hj=>?_⟩,ordI_F n _ _ A8 ⟨I.nd.erase i,λj=>?_,(I.pr.sublist List.erase_sublist).imp_of_mem λ{a b} ha _ h=>h.imp_left λh=>h.erase I.mem I.nd hi<|Mh ha,λk hk=>?_⟩⟩
   ·obtain ⟨j1,j2⟩:=befR_mem hj
    rcases befR_pair I.pr hR hj with h|h
    ·exact (PreT.not_ready I.mem hi j1 h).elim
    ·exact h
   ·rw [I.nd.mem_erase_iff,I.mem j,lst_set]
    have hb:=(lst_in r1).1
    by_cases e:i=j
    ·subst e
     simp [hb]
    ·grind
   ·have hk':=I.nd.mem_erase_iff.1 hk
    obtain ⟨o',ho',h1⟩:=I.tp k hk'.2;refine ⟨o',ho',λe he hb=>?_⟩
    rw [lst_set]
    by_cases q:i=e.on
    ·left
     grind
    ·rw [AE λh=>q h.1]
     rcases h1 e he hb with h2|h2
     ·grind
     ·exact .inr<|befR_erase hk'.1 (Lc q) h2
def dupQ_nd:∀ {l:aH},dupQ l=U->l.Nodup
 | [],_=>List.nodup_nil
 |x::l,h=>by
  simp only [dupQ,AS,C8,List.contains_eq_mem,CJ] at h;exact J9.2 ⟨h.1,dupQ_nd h.2⟩
def pairsQ_pw {ops:aJ}{R0:aH}:∀ {R:aH},pairsQ ops R0 R=U->R.Pairwise λj i=>PreT ops R0 i j\/commB ops i j=U
 | [],_=>List.Pairwise.nil
 |j::R,h=>by
  simp only [pairsQ,AS,B7,C5] at h;exact cD.2 ⟨λi hi=>(h.1 i hi).symm.imp_left preTB_T,pairsQ_pw h.2⟩
def ordQ_F {ops:aJ}{R:aH}{listed:aY}(h:ordQ ops R listed=U):ordF ops (M R) R listed=true:=by
 unfold ordQ topoQ at h;simp only [AS,B7,IK] at h;obtain ⟨h1,h2,h3,h4,h5,h6⟩:=h
 have h2:listed.size=ops.size:=A8
 refine ordI_F _ R listed rfl ⟨dupQ_nd h1,λi=>?_,pairsQ_pw h5,λi hi=>?_⟩
 ·by_cases hi:i<ops.size
  ·have:=h3 i hi
   constructor
   ·intro hm
    grind
   ·intro hm
    grind
  ·constructor
   ·intro hm
    grind
   ·intro hm
    have:=(lst_in hm).1
    omega
 ·have:=h6 i hi
  split at this
  ·rename_i o ho
   refine ⟨o,ho,λe he hb=>?_⟩
   grind
  ·cases this
def float_sound (hΓ:∀g S,Γ g=ah S->Valid P G g S) {ops:aJ}{tr:aH}{D:aO->Prop}{sp:aC->aL}{Q:bc->Gh->Prop}{F':aD}{H':aE}
  (hQ:∀g:Gh,g.F=F'->g.H=H'->Q g.a g):∀(n:aC) (R:aH) (listed:aY) (g:Gh),(∀i∈R,sp i=U)->ordF ops n R listed=U->
   (p2f P G Γ ops tr (M H) R g.F g.H).all (λq=>q=(F',H'))->wpAnyG P .any ops D (Cls ds G w0 Z0 tr β H wr) sp Q n listed g.a g
 |0,R,listed,g,_,hB,h=>by
  simp only [ordF,AS,VU] at hB;obtain ⟨rfl,h2⟩:=hB;simp only [p2f,T.all,Ai] at h;exact ⟨h2,hQ g h.1 h.2⟩
 | n +1,R,listed,g,hs,hB,h=>by
  simp only [ordF,AS,B7,C8,cQ] at hB;obtain ⟨hne,hall⟩:=hB;refine ⟨λh0=>absurd h0 hne,λi hi=>?_⟩
  obtain ⟨⟨hR,hbef⟩,hrest⟩:=hall i hi
  have hiR:i∈R:=A8
  have hf:=p2f_front R g.F g.H hiR A8 h
  simp only [p2f] at hf;split at hf
  ·rename_i o ho
   split at hf
   ·rename_i hgs
    simp only [AS,VJ] at hgs;obtain ⟨hgd,hst⟩:=hgs
    have hw:az o (yielded ops g.a.tmps)=true:=rk
    unfold gOp;simp only [ho,hw,BP,hs i hiR];obtain ⟨⟨lv,H1⟩,h1,h2⟩:=T.bind_all hf
    have h1':(opx P G Γ g.F g.H o).all (λq=>q=(lv,H1)):=by
     unfold spx at h1;split at h1
     ·rename_i hm
      obtain ⟨y,k1,k2⟩:=T.bind_all h1;obtain ⟨rfl,rfl⟩:=k2;exact mkx_opx (mkI_mk hm) k1
     ·exact h1
    intro w' hc;refine actUpon_mono (λv w'' ⟨g',e1,e2,e3,e4⟩=>⟨g',e1,?_⟩)<|cls_step hΓ hst h1' hc
    rw [<-e4];refine float_sound hΓ hQ n (R.erase i) _ g' (λj hj=>hs j<|Mh hj) hrest ?_
    rwa [e2,e3]
   ·cases hf
  ·cases hf
def T.Ev {α:Type}(t:T α) (K:α->Prop):Prop:=∀K1:α->Prop,t.all K1->t.all (λq=>K1 q/\K q)
def T.ev_ok {α:Type}{x:α}{K:α->Prop}(h:K x):T.Ev (.ok x) K:=λ_ h1=>⟨h1,h⟩
def T.ev_no {α:Type}{K:α->Prop}:T.Ev (.no:T α) K:=λ_ h1=>h1.elim
def T.ev_req {α:Type}{p:Prop}{t:T α}{K:α->Prop}(h:T.Ev t K):T.Ev (.req p t) K:=λ_ h1=>⟨h1.1,h _ h1.2⟩
def T.ev_bind {α γ:Type}{t:T α}{f:α->T γ}{K:γ->Prop}(h:∀x,T.Ev (f x) K):T.Ev (t.bind f) K:=λK1 h1=>by
 rw [T.all_bind] at h1|-;exact T.all_mono (λx hx=>h x _ hx) h1
def KeepC (H H':aE):Prop:=∀(k:aC) (b:bx),H'[k]? =ah b->b.isCl=U->∃b0:bx,H[k]? =ah b0/\b0.isCl=U/\b0.c=b.c
def KeepC.refl (H:aE):KeepC H H:=λ_ b h1 h2=>⟨b,h1,h2,rfl⟩
def KeepC.snoc {H H':aE}(h:KeepC H H') {nb:bx}(hn:nb.isCl=X):KeepC H (H'++[nb]):=λk b h1 h2=>by
 rw [List.getElem?_append] at h1;split at h1
 ·exact h k b h1 h2
 ·cases e:k-M H' with
  |zero=>
   grind
  |succ n=>rw [e] at h1;simp at h1
def KeepC.set {H:aE}{k:aC}{nb:bx}(hn:nb.isCl=X):KeepC H (H.set k nb):=λj b h1 h2=>by
 rw [Fm] at h1;split at h1
 ·split at h1
  ·simp only [Ac] at h1
   grind
  ·cases h1
 ·grind
def KeepC.pub (ks:aH) {H:aE}:KeepC H (pubGo ks 0 H):=λk b h1 h2=>by
 rw [pubGo_get] at h1;cases e:H[k]? with
 |none=>rw [e] at h1;cases h1
 | some b0=>
  rw [e] at h1;simp only [Gx,Ac] at h1;refine ⟨b0,rfl,?_,?_⟩
  ·rw [<-h1] at h2
   split at h2
   ·exact h2
   ·exact h2
  ·rw [<-h1]
   grind
def loadL_own {H:aE}{t:aS}{k off:aC}:(∃v,loadL P H t (.own k off)=.ok v)\/loadL P H t (.own k off)=.no:=by
 generalize hx:loadL P H t (.own k off)=x;unfold loadL at hx;cases e:H[k]? with
 |none=>
  grind
 | some b=>
  simp only [e] at hx;split at hx
  ·split at hx
   ·grind
   ·grind
  ·split at hx
   ·split at hx
    ·grind
    ·grind
   ·grind
  ·grind
def loadL_keep {H H':aE}(hk:KeepC H H') {t:aS}{k off:aC}{v:LV}(h:loadL P H' t (.own k off)=.ok v):loadL P H t (.own k off)=.ok v:=by
 unfold loadL at h|-;cases e:H'[k]? with
 |none=>
  grind
 | some b=>
  simp only [e] at h;cases ec:b.isCl with
  |false=>
   grind
  |true=>
   obtain ⟨b0,e0,e1,e2⟩:=hk k b e ec;simp only [e0,e1,e2];simp only [ec] at h;exact h
def append_ev {H:aE}{t tx:aS}{x y:LV}:T.Ev (appendL P H t tx x y) (λq=>KeepC H q.2):=by
 unfold appendL;split
 ·split
  ·split
   ·refine T.ev_bind λq=>?_
    split
    ·exact T.ev_req<|T.ev_ok<|(KeepC.refl H).snoc rfl
    ·split
     ·split
      ·split
       ·exact T.ev_req<|T.ev_ok<|(KeepC.set rfl).snoc rfl
       ·exact HZ
      ·exact HZ
     ·exact HZ
    ·exact HZ
   ·exact HZ
  ·exact HZ
 ·exact HZ
def az_ev {o:aU}(h:isAz P o=U):T.Ev (opx P G Γ F H o) (λq=>KeepC H q.2):=by
 unfold isAz at h;split at h
 ·rename_i args tys ho
  unfold opx;simp only [ho];split
  ·exact append_ev
  ·exact HZ
 ·rename_i t len parts ho
  unfold opx;simp only [ho];split
  ·split
   ·unfold emptyL
    split
    ·exact T.ev_ok<|(KeepC.refl H).snoc rfl
    ·exact HZ
   ·exact HZ
  ·rename_i hl
   have ht:typedSl P t=true:=A8
   rw [AD ht];split
   ·unfold litV
    split
    ·refine T.ev_bind λy=>?_
     split
     ·exact T.ev_ok<|(KeepC.pub _).snoc rfl
     ·exact HZ
    ·exact HZ
   ·split
    ·exact T.ev_bind λy=>T.ev_ok<|KeepC.refl H
    ·unfold litO
     split
     ·exact T.ev_bind λy=>T.ev_ok<|KeepC.pub _
     ·exact HZ
 ·cases h
def az_setF {ops:aJ}{o:aU}{d:bB}{y:LV}(hh:isAz P o=U) (h:∀t,d=ah t->t∉o.looksAt ops):opx P G Γ (setF F d y) H o=opx P G Γ F H o/\∀tr n0,okStore G (setF F d y) tr n0 o=okStore G F tr n0 o:=by
 have hl:=looks h
 unfold isAz at hh;split at hh
 ·rename_i args tys ho
  have e:args.toList.map (evalL G<|setF F d y)=args.toList.map (evalL G F):=Gv λx hx=>evalL_setF<|hl x Vr
  refine ⟨?_,λtr n0=>?_⟩
  ·unfold opx
   exact ON
  ·unfold okStore wrt
   exact ON
 ·rename_i t len parts ho
  have e:(parts.toList.map λq=>(q.1,evalL G (setF F d y) q.2))=parts.toList.map λq=>(q.1,evalL G F q.2):=Gv λq hq=>by
   rw [evalL_setF<|hl q.2 aJi]
  refine ⟨?_,λtr n0=>?_⟩
  ·unfold opx
   exact ON
  ·unfold okStore wrt
   grind
 ·cases hh
variable {zb : Bool}
def mkZ_mk {ops:aJ}{i:aC}{o:aU}(h:mkZ zb P ops i o=U):isMk o=U/\isAz P o=U/\∀F,ownAd G F o=true:=by
 unfold mkZ isLt at h;rw [AS,AS] at h
 have h:=h.2.1
 split at h
 ·rename_i t len parts ho
  rw [AS] at h;exact ⟨by unfold isMk;rw [ho],by unfold isAz;rw [ho];simp [h.2],λF=>by unfold ownAd;rw [ho]⟩
 ·cases h
def mkZ_spz {ops:aJ}{k:aC}{o:aU}(h:mkZ zb P ops k o=U):spz zb P G Γ ops k F H o=(mkx P G Γ F o).bind λy=> .ok (y,H):=by
 unfold spz;rw [AD<|(mkZ_mk (G:=G) h).2.2 F,AD h]
def spz_setF {ops:aJ}{k:aC}{o:aU}{d:bB}{y:LV}(hh:isAz P o=U\/isLd o=U) (h:∀t,d=ah t->t∉o.looksAt ops):spz zb P G Γ ops k (setF F d y) H o=spz zb P G Γ ops k F H o/\∀tr n0,okStore G (setF F d y) tr n0 o=okStore G F tr n0 o:=by
 rcases hh with hh|hh
 ·obtain ⟨e1,e2⟩:=az_setF (P:=P) (G:=G) (Γ:=Γ) (F:=F) (H:=H) (y:=y) hh h
  have e3:∀F,ownAd G F o=true:=λF=>by
   unfold ownAd;unfold isAz at hh;split at hh
   ·rename_i ho;rw [ho]
   ·rename_i ho;rw [ho]
   ·cases hh
  unfold spz;rw [e1,e3,e3,mkx_setF h];exact ⟨rfl,e2⟩
 ·have g:(isNm o ||isLd o)=true:=by rw [hh,Lg]
  refine ⟨?_,λtr n0=>by rw [hp_okStore g,hp_okStore g]⟩
  have ha:isAm o=true:=by
   unfold isLd at hh;split at hh
   ·rename_i ho;unfold isAm;rw [ho]
   ·cases hh
  have e3:ownAd G (setF F d y) o=ownAd G F o:=by
   unfold isLd at hh;split at hh
   ·rename_i t x ho
    unfold ownAd;rw [ho];simp only [evalL_setF (G:=G) (F:=F) (y:=y)<|looks h x D3]
   ·cases hh
  unfold spz;rw [e3,am_setF ha h,mkx_setF h]
def p2z_swap {ops:aJ}{tr:aH}{n0:aC}{i j:aC}{is:aH}{K:List LV×List Blk->Prop}(hc:commZ zb P ops i j=U) (h:(p2z zb P G Γ ops tr n0 (j::i::is) F H).all K):(p2z zb P G Γ ops tr n0 (i::j::is) F H).all K:=by
 unfold commZ at hc;split at hc
 ·rename_i x y hx hy
  simp only [AS,C5,C8] at hc;obtain ⟨⟨⟨g1,g2⟩,g3⟩,hap⟩:=hc;obtain ⟨a1,a2,a3⟩:=VO hap
  have step:∀(k:aC) (o:aU) (l:aH) (F:aD) (H:aE),ops[k]? =ah o->o.guard.isNone=U->((p2z zb P G Γ ops tr n0 (k::l) F H).all K↔(okStore G F tr n0 o=U/\(spz zb P G Γ ops k F H o).all (λq=>(p2z zb P G Γ ops tr n0 l (setF F o.dst q.1) q.2).all K))):=λk o l F H hk hg=>by
   simp only [p2z,hk,hg,Cr];split
   ·rename_i hs
    rw [T.all_bind];simp only [hs,DR]
   ·rename_i hs
    constructor
    ·exact λh=>h.elim
    ·exact λh=>(hs h.1).elim
  rcases g3 with (g3|⟨gx,gy⟩) |⟨gx,gy⟩
  ·obtain ⟨⟨gx,gy⟩,gz⟩:=g3
   have sy:∀F H,spz zb P G Γ ops j F H y=opx P G Γ F H y:=λF H=>by
    unfold spz;rw [AD,AE (by rw [gz];decide)]
    unfold ownAd;unfold isAz at gy;split at gy
    ·rename_i ho;rw [ho]
    ·rename_i ho;rw [ho]
    ·cases gy
   have gx':(isNm x ||isLd x)=true:=by rw [gx,Lg]
   obtain ⟨t,ad,ho⟩:∃t ad,x.op=.load t ad:=by
    unfold isLd at gx;split at gx
    ·rename_i ho;exact ⟨_,_,ho⟩
    ·cases gx
   have hl:=looks a3
   have mx:mkZ zb P ops i x=false:=by unfold mkZ isLt;rw [ho];cases zb<;>rfl
   have sx:∀F H,spz zb P G Γ ops i F H x=match evalL G F ad with
    | .own k off=>(loadL P H t<|.own k off).bind λy=> .ok (y,H)
    |_=> .no:=λF H=>by
    unfold spz ownAd opx;simp only [ho,mx,FJ,E4];split
    ·rename_i k off e
     rw [AD rfl,e]
    ·rename_i hne
     rw [AE AT];split
     ·rename_i k off e;exact absurd e<|hne k off
     ·rfl
   have ea:∀v,evalL G (setF F y.dst v) ad=evalL G F ad:=λv=>evalL_setF<|hl ad D3
   rw [step _ _ _ _ _ hy g2,sy] at h;obtain ⟨h1,h2⟩:=h
   have h3:=az_ev gy _ h2
   rw [step _ _ _ _ _ hx g1,sx];refine ⟨hp_okStore gx' F,?_⟩
   have h4:(opx P G Γ F H y).all (λq=>∃k off v,evalL G F ad=.own k off/\loadL P H t (.own k off)=.ok v/\(p2z zb P G Γ ops tr n0 is (setF (setF F y.dst q.1) x.dst v) q.2).all K):=T.all_mono (λq hq=>by
    obtain ⟨q1,q2⟩:=hq;rw [step _ _ _ _ _ hx g1,sx,ea] at q1
    have q3:=q1.2
    split at q3
    ·rename_i k off e
     rcases loadL_own (P:=P) (H:=q.2) (t:=t) (k:=k) (off:=off) with ⟨v,hv⟩ |hv
     ·rw [hv] at q3
      exact ⟨k,off,v,e,loadL_keep q2 hv,q3⟩
     ·rw [hv] at q3;exact q3.elim
    ·exact q3.elim) h3
   obtain ⟨k,off,v,e,hv⟩:=T.all_const<|T.all_mono (λq hq=>(⟨hq.choose,hq.choose_spec.choose,hq.choose_spec.choose_spec.choose,hq.choose_spec.choose_spec.choose_spec.1,hq.choose_spec.choose_spec.choose_spec.2.1⟩:∃k off v,evalL G F ad=.own k off/\loadL P H t (.own k off)=.ok v)) h4
   rw [e];simp only [hv,T.bind,T.all];obtain ⟨e1,e2⟩:=az_setF (P:=P) (G:=G) (Γ:=Γ) (F:=F) (H:=H) (y:=v) gy a1;rw [step _ _ _ _ _ hy g2,sy,e1,e2];refine ⟨h1,T.all_mono (λq hq=>?_) h4⟩
   obtain ⟨k',off',v',e',hv',hp⟩:=hq;rw [e] at e';cases e';rw [hv] at hv';cases hv';rw [setF_comm a2];exact hp
  ·obtain ⟨m1,_,m3⟩:=mkZ_mk (G:=G) gx
   rw [step _ _ _ _ _ hy g2] at h;rw [step _ _ _ _ _ hx g1,mkZ_spz gx,T.all_bind];refine ⟨ok_okStore<|.inr m1,?_⟩
   have h2:=T.all_mono (λq hq=>by
    rw [step _ _ _ _ _ hx g1,mkZ_spz gx,T.all_bind,mkx_setF a3] at hq;exact hq.2) h.2
   refine T.all_mono (λu hu=>?_)<|T.swap h2
   obtain ⟨e1,e2⟩:=spz_setF (P:=P) (G:=G) (Γ:=Γ) (F:=F) (H:=H) (k:=j) (y:=u) gy a1;exact aIJ
  ·obtain ⟨m1,_,m3⟩:=mkZ_mk (G:=G) gy
   rw [step _ _ _ _ _ hy g2,mkZ_spz gy,T.all_bind] at h
   have h2:=T.all_mono (λv hv=>by
    obtain ⟨e1,e2⟩:=spz_setF (P:=P) (G:=G) (Γ:=Γ) (F:=F) (H:=H) (k:=i) (y:=v) gx a3
    (try simp only [T.all] at hv)
    rw [step _ _ _ _ _ hx g1,e1,e2] at hv;exact hv) h.2
   rw [step _ _ _ _ _ hx g1];refine ⟨T.all_const<|T.all_mono (λv hv=>hv.1) h2,?_⟩
   have h3:=T.all_mono (λv hv=>hv.2) h2
   refine T.all_mono (λq hq=>?_)<|T.swap h3
   rw [step _ _ _ _ _ hy g2,mkZ_spz gy,T.all_bind,mkx_setF a1];refine ⟨ok_okStore<|.inr m1,T.all_mono (λv hv=>?_) hq⟩
   exact aIg
 ·cases hc
def p2z_cons {ops:aJ}{tr:aH}{n0:aC}{j:aC}{R R':aH}{K:List LV×List Blk->Prop}(hh:∀(F:aD) (H:aE),(p2z zb P G Γ ops tr n0 R F H).all K->(p2z zb P G Γ ops tr n0 R' F H).all K) (h:(p2z zb P G Γ ops tr n0 (j::R) F H).all K):(p2z zb P G Γ ops tr n0 (j::R') F H).all K:=by
 simp only [p2z] at h|-;exact qP
def p2z_front {ops:aJ}{tr:aH}{n0:aC}{i:aC}{K:List LV×List Blk->Prop}:∀(R:aH) (F:aD) (H:aE),i∈R->(befR i R).all (λj=>commZ zb P ops i j)=U->(p2z zb P G Γ ops tr n0 R F H).all K->(p2z zb P G Γ ops tr n0 (i::R.erase i) F H).all K
 | [],_,_,hi,_,_=>dp
 | j::R,F,H,hi,hb,h=>by
  by_cases hj:j=i
  ·subst hj
   simpa using h
  ·have hi':i∈R:=by
    rcases Ak.1 hi with e|e
    ·exact absurd e.symm hj
    ·exact e
   simp only [befR,AE hj,GD,AS] at hb;rw [QN sv];exact p2z_swap hb.1<|p2z_cons (λF H h=>p2z_front R F H hi' hb.2 h) h
def floatz_sound (hΓ:∀g S,Γ g=ah S->Valid P G g S) {ops:aJ}{tr:aH}{D:aO->Prop}{sp:aC->aL}{Q:bc->Gh->Prop}{F':aD}{H':aE}
  (hQ:∀g:Gh,g.F=F'->g.H=H'->Q g.a g):∀(n:aC) (R:aH) (listed:aY) (g:Gh),(∀i∈R,sp i=U)->ordZ zb P ops n R listed=U->
   (p2z zb P G Γ ops tr (M H) R g.F g.H).all (λq=>q=(F',H'))->wpAnyG P .any ops D (Cls ds G w0 Z0 tr β H wr) sp Q n listed g.a g
 |0,R,listed,g,_,hB,h=>by
  simp only [ordZ,AS,VU] at hB;obtain ⟨rfl,h2⟩:=hB;simp only [p2z,T.all,Ai] at h;exact ⟨h2,hQ g h.1 h.2⟩
 | n + 1,R,listed,g,hs,hB,h=>by
  simp only [ordZ,AS,B7,C8,cQ] at hB;obtain ⟨hne,hall⟩:=hB;refine ⟨λh0=>absurd h0 hne,λi hi=>?_⟩
  obtain ⟨⟨hR,hbef⟩,hrest⟩:=hall i hi
  have hiR:i∈R:=by simpa using hR
  have hf:=p2z_front R g.F g.H hiR (by rw [B7];exact hbef) h
  simp only [p2z] at hf;split at hf
  ·rename_i o ho
   split at hf
   ·rename_i hgs
    simp only [AS,VJ] at hgs;obtain ⟨hgd,hst⟩:=hgs
    have hw:az o (yielded ops g.a.tmps)=true:=rk
    unfold gOp;simp only [ho,hw,BP,hs i hiR];obtain ⟨⟨lv,H1⟩,h1,h2⟩:=T.bind_all hf
    have h1':(opx P G Γ g.F g.H o).all (λq=>q=(lv,H1)):=by
     unfold spz at h1;split at h1
     ·split at h1
      ·rename_i hm
       obtain ⟨y,k1,k2⟩:=T.bind_all h1;simp only [T.all,Ai] at k2;obtain ⟨rfl,rfl⟩:=k2;exact mkx_opx (mkZ_mk (G:=G) hm).1 k1
      ·exact h1
     ·cases h1
    intro w' hc;refine actUpon_mono (λv w'' ⟨g',e1,e2,e3,e4⟩=>⟨g',e1,?_⟩)<|cls_step hΓ hst h1' hc
    rw [<-e4];refine floatz_sound hΓ hQ n (R.erase i) _ g' (λj hj=>hs j<|Mh hj) hrest ?_
    rw [e2,e3];exact h2
   ·cases hf
  ·cases hf
def wpAnyG_sub {T':Type}{md:aMl}{D:aO->Prop}{sp:aC->aL}{C:T'->aO->Prop}{Q':bc->aO->Prop}{ops:aJ}{g g1:T'}(hs:∀w',C g w'->C g1 w'):∀(n:aC) (listed:aY) (a:bc),
  wpAnyG P md ops D C sp (λa' g'=>∀w',C g' w'->Q' a' w') n listed a g1->wpAnyG P md ops D C sp (λa' g'=>∀w',C g' w'->Q' a' w') n listed a g
 |0,_,_,h=>⟨h.1,λw' hw'=>h.2 w'<|hs w' hw'⟩
 | n +1,listed,a,h=>⟨λh0 w' hw'=>h.1 h0 w'<|hs w' hw',λi hi=>by
   have:=h.2 i hi
   unfold gOp at this|-;split
   ·rename_i ho;simp only [ho] at this;exact wpAnyG_sub hs n _ _ this
   ·rename_i o ho
    simp only [ho] at this;split
    ·rename_i hw
     simp only [hw,BP] at this;split
     ·rename_i hsp
      simp only [hsp,BP] at this;exact λw hw=>this w<|hs w hw
     ·rename_i hsp
      simp only [hsp] at this;exact calm_mono (λa' hk=>wpAnyG_sub hs n _ a' hk) this
    ·rename_i hw
     simp only [hw] at this;exact wpAnyG_sub hs n _ _ this⟩
mutual
def R.cong {β':aC->aL1}{n:aC}:∀(x:LV) (y:aV),(∀j,j∈owns x->β' j=β j)->okV n x->R β Z w x y->R β' Z w x y
 | .v _,_,_,_,h=>h
 | .bl _,_,_,_,h=>h
 | .ki _ _,_,_,_,h=>h
 | .own k off,y,hj,_,h=>aKE
 | .agg l,y,hj,hk,h=>by
  exact cX
 | .tup l,y,hj,hk,h=>by
  exact cX
 | .fn f l,y,hj,hk,h=>by
  exact cX
 | .fb f l,y,hj,hk,h=>by
  exact cX
 | .xq m f,y,_,hk,h=>by
  simp only [R,okV] at*;obtain ⟨b,off,h1,h2,h3⟩:=h;refine ⟨b,off,h1,h2,λj hj=>?_⟩
  obtain ⟨z,h4,h5⟩:=h3 j hj;exact ⟨z,h4,R.mono (n:=0) (λ_ hk=>absurd hk A0) (λ_ h=>h) (λ_ _=>rfl) _ _ (hk j) h5⟩
 | .xl e l,y,_,_,h=>by simp only [R] at*;exact h
 | .os k es off n,y,hj,_,h=>dJ
 | .op k es i j,y,hj,_,h=>dJ
 | .om k,y,hj,_,h=>dJ
 | .mp kd ks l,y,hj,hk,h=>by
  simp only [R,owns,okV] at*;obtain ⟨r,es,clock,h1,h2,h3,h4,h5⟩:=h;exact ⟨r,es,clock,h1,h2,h3,h4,RL.cong l _ hj hk h5⟩
 | .oc k es off n c,y,hj,_,h=>dJ
 | .yld k,y,hj,_,h=>aKE
 | .junk,_,_,_,_=>H0
def RL.cong {β':aC->aL1}{n:aC}:∀(l:aD) (ys:aT),(∀j,j∈ownsL l->β' j=β j)->okL n l->RL β Z w l ys->RL β' Z w l ys
 | [],_,_,_,h=>aLE
 |x::xs,ys,hj,hk,h=>by
  simp only [RL,ownsL,BN,okL] at*;obtain ⟨y,zs,h1,h2,h3⟩:=h;exact ⟨y,zs,h1,R.cong x y (λj h=>hj j (.inl h)) hk.1 h2,RL.cong xs zs (λj h=>hj j (.inr h)) hk.2 h3⟩
end
mutual
def okV_owns {n:aC}:∀(x:LV),okV n x->∀j,j∈owns x->j<n
 | .v _,_,j,h=>Qk
 | .bl _,_,j,h=>Qk
 | .ki _ _,_,j,h=>Qk
 | .own k _,hk,j,h=>Qe
 | .agg l,hk,j,h=>Vy
 | .tup l,hk,j,h=>Vy
 | .fn _ l,hk,j,h=>Vy
 | .fb _ l,hk,j,h=>Vy
 | .xq _ _,_,j,h=>Qk
 | .xl _ _,_,j,h=>Qk
 | .os k _ _ _,hk,j,h=>Qe
 | .op k _ _ _,hk,j,h=>Qe
 | .om k,hk,j,h=>Qe
 | .mp _ _ l,hk,j,h=>Vy
 | .oc k _ _ _ _,hk,j,h=>Qe
 | .yld k,hk,j,h=>Qe
 | .junk,_,j,h=>Qk
def okL_owns {n:aC}:∀(l:aD),okL n l->∀j,j∈ownsL l->j<n
 | [],_,j,h=>by simp [ownsL] at h
 |x::xs,hk,j,h=>by
  simp only [ownsL,BN,okL] at*;rcases h with h|h
  ·exact okV_owns x hk.1 j h
  ·exact okL_owns xs hk.2 j h
end
mutual
def okV_lower {n m:aC}:∀(x:LV),okV n x->(∀j,j∈owns x->j<m)->okV m x
 | .v _,_,_=>trivial
 | .bl _,_,_=>trivial
 | .ki _ _,_,_=>trivial
 | .own k _,_,h=>h k GI
 | .agg l,hk,h=>Vz
 | .tup l,hk,h=>Vz
 | .fn _ l,hk,h=>Vz
 | .fb _ l,hk,h=>Vz
 | .xq _ _,hk,_=>aKc
 | .xl _ _,_,_=>trivial
 | .os k _ _ _,_,h=>h k GI
 | .op k _ _ _,_,h=>h k GI
 | .om k,_,h=>h k GI
 | .mp _ _ l,hk,h=>Vz
 | .oc k _ _ _ _,_,h=>h k GI
 | .yld k,_,h=>h k GI
 | .junk,_,_=>trivial
def okL_lower {n m:aC}:∀(l:aD),okL n l->(∀j,j∈ownsL l->j<m)->okL m l
 | [],_,_=>trivial
 |x::xs,hk,h=>by
  simp only [ownsL,BN,okL] at*;exact ⟨okV_lower x hk.1 (λj hj=>h j (.inl hj)),okL_lower xs hk.2 (λj hj=>h j (.inr hj))⟩
end
def okB_owns {n:aC}{b:bx}(h:okB n b):∀j,j∈b.owns->j<n:=λj hj=>by
 rcases BN.1 hj with hj|hj
 ·exact okL_owns _ h.1 j hj
 ·have h2:=h.2
  split at hj
  ·rename_i hk;rw [hk] at h2;exact okL_owns _ h2 j hj
  ·cases hj
def BlkR.cong {β':aC->aL1}{n k k':aC}{b:bx}(hk:β' k'=β k) (hj:∀j,j∈b.owns->β' j=β j) (hok:okB n b) (h:BlkR β Z w k b):BlkR β' Z w k' b:=by
 have hc:∀j,j∈ownsL b.c->β' j=β j:=λj h=>hj j<|BN.2<|.inl h
 unfold BlkR at*;rw [hk];cases hbk:b.k with
 |cl=>
  simp only [hbk] at h|-;obtain ⟨cs,h1,h2⟩:=h;exact ⟨cs,h1,RL.cong _ _ hc hok.1 h2⟩
 |vec e l=>simp only [hbk] at h|-;exact h
 |mp kd ks vs=>
  simp only [hbk] at h|-;obtain ⟨es,clock,h1,h2,h3⟩:=h
  have ho:=hok.2
  rw [hbk] at ho;exact ⟨es,clock,h1,h2,RL.cong _ _ (λj h=>hj j (by unfold Blk.owns;rw [hbk];exact BN.2<|.inr h)) ho h3⟩
 |lrec ps asg body st=>
  simp only [hbk] at h|-;obtain ⟨r,h1,h2,h3,h4,h5,h6⟩:=h;exact ⟨r,h1,h2,h3,h4,h5,RL.cong _ _ hc hok.1 h6⟩
 |st e l=>simp only [hbk] at h|-;exact h
 |dead=>trivial
def mvβ (β:aC->aL1) (k m:aC):aC->aL1:=λj=>if j=k then β m else β j
def mvβ_at {k m:aC}:mvβ β k m k=β m:=by simp [mvβ]
def mvβ_ne {k m j:aC}(h:j≠k):mvβ β k m j=β j:=by simp [mvβ,h]
def RW.move {k:aC}{nb db:bx}(hW:RW G w0 Z0 Z β (H++[nb]) w) (hk:H[k]? =ah db) (hp:nb.p=X)
  (hB:∀(j:aC) (b:bx),H[j]? =ah b->okB (M H) b/\k∉b.owns) (hn:okB (M H) nb/\k∉nb.owns) (hg:∀p,p∈Z0.gh->okV (M H) p.1/\k∉owns p.1):
  RW G w0 Z0 Z (mvβ β k<|M H) (H.set k nb) w:=by
 have hkl:k<M H:=(Ce.1 hk).1
 have at_:∀(j:aC) (b:bx),(H.set k nb)[j]? =ah b->(j=k/\b=nb)\/(j≠k/\H[j]? =ah b):=λj b h=>by
  rw [Fm] at h;split at h
  ·rename_i e
   grind
  ·grind
 have last:(H++[nb])[M H]? =ah nb:=AH
 have old:∀(j:aC) (b:bx),H[j]? =ah b->(H++[nb])[j]? =ah b:=λj b h=>A8
 have lt:∀(j:aC) (b:bx),H[j]? =ah b->j<M H:=λj b h=>(Ce.1 h).1
 have lk:live (mvβ β k<|M H) k nb=live β (M H) nb:=by unfold live;rw [mvβ_at]
 have lj:∀j b,j≠k->live (mvβ β k<|M H) j b=live β j b:=λj b h=>live_eq<|mvβ_ne h
 refine ⟨hW.below,hW.zlt,hW.znew,λj b hj hl hq=>?_,λj b hj hl hq=>?_,λj b hj hl=>?_,λi j bi bj hi hj li lj' pi e=>?_,λj b hj=>?_,hW.glob,λp hp=>?_,hW.mks⟩
 ·rcases at_ j b hj with ⟨rfl,rfl⟩ |⟨h1,h2⟩
  ·rw [mvβ_at];rw [lk] at hl;exact hW.zown _ _ last hl hq
  ·rw [mvβ_ne h1];rw [lj j b h1] at hl;exact hW.zown j b (old j b h2) hl hq
 ·rcases at_ j b hj with ⟨rfl,rfl⟩ |⟨h1,h2⟩
  ·rw [hp] at hq;cases hq
  ·rw [mvβ_ne h1];rw [lj j b h1] at hl;exact hW.zpub j b (old j b h2) hl hq
 ·rcases at_ j b hj with ⟨rfl,rfl⟩ |⟨h1,h2⟩
  ·rw [mvβ_at];rw [lk] at hl;exact hW.low _ _ last hl
  ·rw [mvβ_ne h1];rw [lj j b h1] at hl;exact hW.low j b (old j b h2) hl
 ·rcases at_ i bi hi with ⟨rfl,rfl⟩ |⟨h1,h2⟩
  ·rcases at_ j bj hj with ⟨rfl,rfl⟩ |⟨g1,g2⟩
   ·rfl
   ·rw [lk] at li;rw [lj j bj g1] at lj';rw [mvβ_at,mvβ_ne g1] at e
    have:=hW.inj _ j _ bj last (old j bj g2) li lj' pi e
    have:=lt j bj g2;omega
  ·rcases at_ j bj hj with ⟨rfl,rfl⟩ |⟨g1,g2⟩
   ·rw [lj i bi h1] at li;rw [lk] at lj';rw [mvβ_ne h1,mvβ_at] at e
    have:=hW.inj i _ bi _ (old i bi h2) last li lj' pi e
    have:=lt i bi h2;omega
   ·rw [lj i bi h1] at li;rw [lj j bj g1] at lj';rw [mvβ_ne h1,mvβ_ne g1] at e
    exact hW.inj i j bi bj (old i bi h2) (old j bj g2) li lj' pi e
 ·rw [BR]
  rcases at_ j b hj with ⟨rfl,rfl⟩ |⟨h1,h2⟩
  ·exact ⟨BlkR.cong mvβ_at (λi hi=>mvβ_ne λe=>hn.2<|e▸hi) hn.1 (hW.blk _ _ last).1,hn.1⟩
  ·obtain ⟨q1,q2⟩:=hB j b h2
   exact ⟨BlkR.cong (mvβ_ne h1) (λi hi=>mvβ_ne λe=>q2<|e▸hi) q1 (hW.blk j b<|old j b h2).1,q1⟩
 ·obtain ⟨q1,q2⟩:=hg p hp
  rw [BR];exact ⟨R.cong _ _ (λj hj=>mvβ_ne λe=>q2<|e▸hj) q1 (hW.gh p hp).1,q1⟩
def ownsM:∀ {l:aD}{x:LV}{j:aC},x∈l->j∈owns x->j∈ownsL l
 |y::ys,x,j,hx,hj=>by
  simp only [ownsL,BN];rcases Ak.1 hx with rfl|h
  ·grind
  ·exact .inr<|ownsM h hj
def ownsL_of:∀ {l:aD}{j:aC},j∈ownsL l->∃x,x∈l/\j∈owns x
 |x::xs,j,h=>by
  simp only [ownsL,BN] at h;rcases h with h|h
  ·grind
  ·obtain ⟨y,h1,h2⟩:=ownsL_of h;exact ⟨y,A8,h2⟩
 | [],j,h=>by simp [ownsL] at h
def evalL_owns {x:aL2}{j:aC}(h:j∈owns (evalL G F x)):j∈ownsL F:=by
 cases x with
 |tmp t=>
  simp only [evalL] at h;cases ht:F[t]? with
  |none=>simp [List.getD,ht,owns] at h
  |some y=>simp [List.getD,ht] at h;exact ownsM (Mj ht) h
 |const v=>simp only [evalL] at h;split at h<;>simp [owns] at h
 |global g=>simp only [evalL] at h;split at h<;>simp [owns] at h
 |func f=>simp [evalL,owns,ownsL] at h
def ownsL_map_v:∀(l:aT),ownsL (l.map .v)=[]
 | []=>rfl
 |x::xs=>by simp [ownsL,owns,ownsL_map_v xs]
def cellsL_owns {x:LV}{cs:aD}(h:cellsL x=ah cs):∀j,j∈ownsL cs->j∈owns x:=λj hj=>by
 unfold cellsL at h;split at h
 ·split at h
  ·simp only [Ac] at h;subst h;rw [ownsL_map_v] at hj;cases hj
  ·cases h
 ·split at h
  ·simp only [Ac] at h;subst h;simpa only [owns] using hj
  ·cases h
 ·cases h
 ·cases h
 ·simp only [Ac] at h;subst h;simpa [ownsL] using hj
def setF_owns {d:bB}{x:LV}{j:aC}(h:j∈ownsL (setF F d x)):j∈ownsL F\/j∈owns x:=by
 cases d with
 |none=>exact .inl h
 |some t=>
  obtain ⟨y,h1,h2⟩:=ownsL_of h;rcases O8 h1 with e|e
  ·exact .inl<|ownsM e h2
  ·grind
def alAt_opx {k:aC}{o:aU}{lv:LV}{H1:aE}(h:(alAt P G F H k o).all λq=>q=(lv,H1)):(∃cs t,lv=.own k 0/\H1=H.set k ⟨cs,t,.cl,X⟩/\(opx P G Γ F H o).all (λq=>q=(.own (M H) 0,H++[⟨cs,t,.cl,X⟩]))/\∀j,j∈ownsL cs->j∈ownsL F)\/
  ∃(m n:aC) (e:aS) (ty:Ty) (l:List ty.D),lv=.os k m 0 n/\H1=H.set k ⟨[],e,.vec ty l,X⟩/\(opx P G Γ F H o).all (λq=>q=(.os (M H) m 0 n,H++[⟨[],e,.vec ty l,X⟩])):=by
 unfold alAt at h;split at h
 ·rename_i t ho
  split at h
  ·rename_i z hz
   split at h
   ·rename_i cs hcs
    simp only [T.all,Ai] at h;refine .inl ⟨cs,t,h.1.symm,h.2.symm,?_,λj hj=>?_⟩
    ·unfold opx;simp only [ho,hz,hcs,T.all]
    ·have:=cellsL_owns hcs j hj;simp [owns] at this
   ·cases h
  ·cases h
 ·rename_i t x ho
  split at h
  ·rename_i cs hcs
   simp only [T.all,Ai] at h;refine .inl ⟨cs,t,h.1.symm,h.2.symm,?_,λj hj=>evalL_owns<|cellsL_owns hcs j hj⟩
   unfold opx;simp only [ho,hcs,T.all]
  ·cases h
 ·rename_i t n c ho
  split at h
  ·rename_i e ty m by_ n' c' he hn hc
   split at h
   ·rename_i z hz
    split at h
    ·rename_i d hd
     split at h
     ·rename_i hsz
      simp only [T.all,Ai] at h;obtain ⟨h0,h1,h2⟩:=h;refine .inr ⟨m,n'.toNat,e,ty,aq n'.toNat d,h1.symm,h2.symm,?_⟩;unfold opx;simp only [ho,makeL,he,hn,hc,hz,hd,hsz,BP,T.all]
      grind
     ·cases h
    ·cases h
   ·cases h
  ·cases h
 ·rename_i t len parts ho
  split at h
  ·rename_i hlen
   split at h
   ·rename_i hp
    split at h
    ·rename_i e ty m by_ he
     simp only [T.all,Ai] at h;refine .inr ⟨m,0,e,ty,[],h.1.symm,h.2.symm,?_⟩;unfold opx;simp only [ho,hlen,hp,BP,emptyL,he,T.all]
    ·cases h
   ·cases h
  ·cases h
 ·cases h
structure InvA (n0:aC) (done:aC->Prop) (R:aH) (g:Gh):Prop where
 f:∀j,j∈ownsL g.F->j<n0\/∃i,done i/\j=n0+i
 h:∀(k:aC) (b:bx),g.H[k]? =ah b->∀j,j∈b.owns->j<n0\/∃i,done i/\j=n0+i
 dead:∀i,i∈R->¬done i/\∃b,g.H[n0+i]? =ah b
def cls_al0 (hΓ:∀g S,Γ g=ah S->Valid P G g S) {tr:aH}{g:Gh}{o:aU}{lv:LV}{H1:aE}{w':aO}{done:aC->Prop}{R':aH}{i:aC}(hgh:∀p,p∈Z0.gh->okV (M H) p.1) (hI:InvA (M H) done R' g) (hi:i∈R')
  (hst:okStore G g.F tr (M H) o=U) {nb:bx} {lv0:LV} (hop:(opx P G Γ g.F g.H o).all λq=>q=(lv0,g.H++[nb])) (hpn:nb.p=X) (hcs:∀j,j∈nb.owns->j∈ownsL g.F) (hlow:∀n m,okB n nb->(∀j,j∈nb.owns->j<m)->okB m nb)
  (hlv:∀β' Z' w'' v,R β' Z' w'' lv0 v->R (mvβ β' (M H+i)<|M g.H) Z' w'' lv v) (hlo:∀n,M H+i<n->okV n lv) (hH1:H1=g.H.set (M H+i) nb) (hc:Cls ds G w0 Z0 tr β H wr g w'):
  actUpon P (λv w''=>∃g':Gh,Cls ds G w0 Z0 tr β H wr g' w''/\g'.F=setF g.F o.dst lv/\g'.H=H1/\g'.a=g.a.put o.dst v) ((execOp g.a.eval o).run P w'):=by
 subst hH1;refine actUpon_mono (λv w'' ⟨Z',β',e1,e2,e3,e4,e5,e6,e7,e8⟩=>?_)<|opx_sound hΓ hc.rw hc.rf hop
 obtain ⟨hnd,db,hdb⟩:=hI.dead i hi
 have fresh:∀j,(j<M H\/∃i',done i'/\j=M H+i')->j≠M H+i:=λj hj e=>by
  rcases hj with hj|⟨i',hd,e'⟩
  ·omega
  ·have:i'=i:=A0
   grind
 have hsz:=hc.near.size
 have hcl:∀j,j∈nb.owns->j<M g.H:=λj hj=>by
  obtain ⟨x,q1,q2⟩:=ownsL_of<|hcs j hj;obtain ⟨t',q3⟩:=List.getElem?_of_mem q1;exact okV_owns x (hc.rf.get t' x q3).2 j q2
 have okcs:okB (M g.H) nb:=hlow _ _ (e1.blk (M g.H) nb AH).2 hcl
 have hMv:=e1.move (k:=M H+i) hdb hpn (λj b hj=>⟨(hc.rw.blk j b hj).2,λhm=>fresh _ (hI.h j b hj _ hm) rfl⟩) ⟨okcs,λhm=>fresh _ (hI.f _<|hcs _ hm) rfl⟩ λp hp=>⟨okV.mono hc.len _<|hgh p hp,λhm=>by have:=okV_owns _ (hgh p hp) _ hm;omega⟩
 have hF2:RF ds (mvβ β' (M H+i)<|M g.H) Z' w'' (M<|g.H.set (M H+i) nb) g.F g.a:=by
  rw [BR];refine ⟨hc.rf.size,λt' x hx=>?_,e2.defers⟩
  have q:=hc.rf.get t' x hx
  exact ⟨R.cong x _ (λj hj=>mvβ_ne<|fresh j<|hI.f j<|ownsM (Mj hx) hj) q.2 (e2.get t' x hx).1,q.2⟩
 refine ⟨⟨Z',mvβ β' (M H+i)<|M g.H,g.H.set (M H+i) nb,setF g.F o.dst lv,g.a.put o.dst v⟩,?_,rfl,rfl,rfl⟩;refine ⟨hMv,hF2.put (hlv _ _ _ _ e3) (hlo _ A8) o.dst,⟨e8.os.trans hc.near.os,e8.tape.trans hc.near.tape,e8.output.trans hc.near.output,E5 hsz e8.size,λk hk hn=>?_⟩,A8,λk hk=>?_,λk h3 h4=>?_,λk b hb=>?_⟩
 ·exact aHi
 ·show mvβ β' (M H+i) (M g.H) k=β k
  rw [mvβ_ne A0,e6 k<|VT hk hc.len];exact hc.old k hk
 ·show wr.heap.size<=(mvβ β' (M H+i) (M g.H) k).b\/(mvβ β' (M H+i) (M g.H) k).b∈lvB β H tr
  simp only [BR] at h4
  by_cases hkk:k=M H+i
  ·subst hkk
   rw [mvβ_at];rcases e7 (M g.H) (Ar _) AH with h|h
   ·exact .inl A0
   ·exact hc.touch hst h
  ·rw [mvβ_ne hkk,e6 k h4];exact hc.new k h3 h4
 ·have hkl:k<M H:=(Ce.1 hb).1
  obtain ⟨b',q1,q2⟩:=hc.shp k b hb
  grind
def cls_al (hΓ:∀g S,Γ g=ah S->Valid P G g S) {tr:aH}{g:Gh}{o:aU}{lv:LV}{H1:aE}{w':aO}{done:aC->Prop}{R':aH}{i:aC}(hgh:∀p,p∈Z0.gh->okV (M H) p.1) (hI:InvA (M H) done R' g) (hi:i∈R')
  (hst:okStore G g.F tr (M H) o=U) (h1:(alAt P G g.F g.H (M H+i) o).all λq=>q=(lv,H1)) (hc:Cls ds G w0 Z0 tr β H wr g w'):
  actUpon P (λv w''=>∃g':Gh,Cls ds G w0 Z0 tr β H wr g' w''/\g'.F=setF g.F o.dst lv/\g'.H=H1/\g'.a=g.a.put o.dst v) ((execOp g.a.eval o).run P w'):=by
 rcases alAt_opx (Γ:=Γ) h1 with ⟨cs,t,rfl,hH1,hop,hcs⟩ |⟨m,n,e,ty,l,rfl,hH1,hop⟩
 ·refine cls_al0 hΓ hgh hI hi hst hop rfl (λj hj=>?_) (λn m h1 h2=>⟨okL_lower cs h1.1 λj hj=>h2 j ?_,ak⟩) (λβ' Z' w'' v hr=>aJt) (λn hn=>hn) hH1 hc
  ·unfold Blk.owns at hj
   grind
  ·unfold Blk.owns
   simp only [HX];exact hj
 ·refine cls_al0 hΓ hgh hI hi hst hop rfl (λj hj=>?_) (λn m h1 h2=>⟨ak,ak⟩) (λβ' Z' w'' v hr=>aJt) (λn hn=>hn) hH1 hc
  unfold Blk.owns at hj
  simp [ownsL] at hj
def al_at_setF {ops:aJ}{o:aU}{d:bB}{y:LV}{k:aC}(ha:isAl o=U) (h:∀t,d=ah t->t∉o.looksAt ops):alAt P G (setF F d y) H k o=alAt P G F H k o:=by
 have hl:=looks h
 unfold isAl at ha;split at ha
 ·rename_i t ho
  unfold alAt
  grind
 ·rename_i t x ho
  unfold alAt;simp only [ho];exact cf
 ·rename_i t n c ho
  unfold alAt;simp only [ho];rw [evalL_setF<|hl n D3,evalL_setF<|hl c D3]
 ·rename_i t len parts ho
  unfold alAt
  grind
 ·cases ha
def alAt_set {o:aU}{k:aC}(ha:isAl o=U):∃(p:Prop) (lv:LV) (nb:bx),∀(H:aE) (K:LV×List Blk->Prop),(alAt P G F H k o).all K↔(p/\K (lv,H.set k nb)):=by
 unfold isAl at ha;split at ha
 ·rename_i t ho
  unfold alAt;simp only [ho];split
  ·exact aIp
  ·exact OK
 ·rename_i t x ho
  unfold alAt;simp only [ho];exact aIp
 ·rename_i t n c ho
  unfold alAt;simp only [ho];split
  ·split
   ·split
    ·split
     ·exact ⟨_,_,_,λH K=>Mz⟩
     ·exact OK
    ·exact OK
   ·exact OK
  ·exact OK
 ·rename_i t len parts ho
  unfold alAt;simp only [ho];split
  ·split
   ·split
    ·rename_i e ty m by_ _
     exact ⟨True,.os k m 0 0,⟨[],e,.vec ty [],X⟩,λH K=>aLP⟩
    ·exact OK
   ·grind
  ·grind
 ·cases ha
def mv_not {o:aU}(hm:isMv o=U):isAl o=X/\isSt o=U/\∀G tr n0 (F:aD),okStore G F tr n0 o=true:=by
 unfold isMv at hm;split at hm
 ·rename_i x ho
  exact rA
 ·rename_i x ho
  exact rA
 ·rename_i t parts ho
  exact rA
 ·cases hm
def spa_setF {ops:aJ}{o:aU}{d:bB}{y:LV}{n0 i:aC}(ha:(isAl o ||isMv o)=U) (h:∀t,d=ah t->t∉o.looksAt ops):spa P G Γ ops n0 i (setF F d y) H o=spa P G Γ ops n0 i F H o:=by
 rcases OB.1 ha with ha|ha
 ·unfold spa
  rw [AD ha,AD ha,al_at_setF ha h]
 ·obtain ⟨h1,h2,_⟩:=mv_not ha
  have hl:=looks h
  unfold spa;rw [h1,h2];unfold isMv at ha;split at ha
  ·exact aIR
  ·exact aIR
  ·rename_i t parts ho
   have e:(parts.toList.map λq=>(q.1,evalN G (setF F d y) q.2))=parts.toList.map λq=>(q.1,evalN G F q.2):=Gv λq hq=>by
    exact aI3
   unfold opx;simp only [ho,e];rfl
  ·cases ha
def putAt (k:aC) (nb:aMa) (H:aE):aE:=
 match nb with
 |some b=>H.set k b
 |none=>H
def putAt_comm {i j:aC}{a b:aMa}{H:aE}(h:i≠j):putAt i a (putAt j b H)=putAt j b (putAt i a H):=by
 cases a<;>cases b<;>simp only [putAt]
 exact List.set_comm _ _<|Lc h
def spa_set {ops:aJ}{o:aU}{n0 i:aC}(ha:(isAl o ||isMv o)=U):∃(p:Prop) (lv:LV) (nb:aMa),∀(H:aE) (K:LV×List Blk->Prop),(spa P G Γ ops n0 i F H o).all K↔(p/\K (lv,putAt (n0+i) nb H)):=by
 rcases OB.1 ha with ha|ha
 ·obtain ⟨p,lv,nb,h⟩:=alAt_set (P:=P) (G:=G) (F:=F) (k:=n0+i) ha
  refine ⟨p,lv,ah nb,λH K=>?_⟩
  unfold spa;rw [AD ha];exact h H K
 ·obtain ⟨h1,h2,_⟩:=mv_not ha
  unfold isMv at ha;split at ha
  ·exact aIw
  ·exact aIw
  ·rename_i t parts ho
   have key:∀l:bq,(∃y,buildL P t l=.ok y)\/buildL P t l=.no:=λl=>by
    unfold buildL;split
    ·split
     ·grind
     ·exact .inr rfl
    ·grind
   rcases key (parts.toList.map λq=>(q.1,evalN G F q.2)) with ⟨y,hy⟩ |hy
   ·refine ⟨True,y,aj,λH K=>?_⟩
    unfold spa opx;rw [h1,h2]
    simp [ho,hy,T.bind,T.all,putAt]
   ·refine ⟨False,.junk,aj,λH K=>?_⟩
    unfold spa opx;rw [h1,h2]
    simp [ho,hy,T.bind,T.all]
  ·cases ha
def almv_ok {o:aU}{tr:aH}{n0:aC}(ha:(isAl o ||isMv o)=U) (F:aD):okStore G F tr n0 o=true:=by
 rcases OB.1 ha with ha|ha
 ·exact ok_okStore<|.inl ha
 ·exact (mv_not ha).2.2 G tr n0 F
def ap_not {o:aU}(h:isAp o=U):isAl o=X/\isSt o=false:=by
 unfold isAp at h;split at h
 ·rename_i args tys ho
  simp [isAl,isSt,ho]
 ·cases h
def app_opx {ops:aJ}{o:aU}{d:bB}{y:LV}(hh:isAp o=U) (h:∀t,d=ah t->t∉o.looksAt ops):
  opx P G Γ (setF F d y) H o=opx P G Γ F H o/\(∀tr n0,okStore G (setF F d y) tr n0 o=okStore G F tr n0 o)/\∀n0 H,apOk G ops n0 (setF F d y) H o=apOk G ops n0 F H o:=by
 have hl:=looks h
 unfold isAp at hh;split at hh
 ·rename_i args tys ho
  have e:args.toList.map (evalL G<|setF F d y)=args.toList.map (evalL G F):=Gv λx hx=>evalL_setF<|hl x Vr
  refine ⟨?_,λtr n0=>?_,λn0 H=>?_⟩
  ·unfold opx
   exact ON
  ·unfold okStore wrt
   exact ON
  ·unfold apOk
   exact ON
 ·cases hh
def appendL_form {t tx:aS} {k es off n:aC} {e0:Ty} {q0:List e0.D}:∃f:aMa->Option (Prop×Nat×Nat×TypeId×Blk),(∀b p m n' e nb,f b=ah (p,m,n',e,nb)->nb.owns=[])/\(f aj=aj)/\
  ∀(H:aE) (K:LV×List Blk->Prop),(appendL P H t tx (.os k es off n)<|.xl e0 q0).all K↔match f H[k]? with
   |some (p,m,n',e,nb)=>p/\K (.os (M H) m 0 n',H.set k ⟨[],e,.dead,X⟩++[nb])
   |none=>False:=by
 have bad:∀ {g:aE->T (LV×List Blk)},(∀H,g H=.no)->∃f:aMa->Option (Prop×Nat×Nat×TypeId×Blk),(∀b p m n' e nb,f b=ah (p,m,n',e,nb)->nb.owns=[])/\(f aj=aj)/\
   ∀(H:aE) (K:LV×List Blk->Prop),(g H).all K↔match f H[k]? with
    |some (p,m,n',e,nb)=>p/\K (.os (M H) m 0 n',H.set k ⟨[],e,.dead,X⟩++[nb])
    |none=>False:=λhg=>⟨λ_=>aj,(λ_ _ _ _ _ _ h=>Ab),rfl,λH K=>by rw [hg];simp [T.all]⟩
 unfold appendL;cases he:elemT P t with
 |none=>exact bad λH=>rfl
 | some q=>
  obtain ⟨e,ty,m,by_⟩:=q;simp only;split
  ·rename_i z _ _
   by_cases hz:z.cells.size=m
   ·simp only [AD hz]
    have hs:∀H:aE,srcOf H ty (.xl e0 q0)=(match decX ty (.xl e0 q0) with|some l=> .ok l|none=> .no):=λH=>rfl
    cases hd:decX ty (.xl e0 q0) with
    |none=>exact bad λH=>by rw [hs,hd];rfl
    | some q=>
     refine ⟨λob=>match ob with
      |some ⟨_,bt,.vec e' l,X⟩=>match tyEq e' ty with
       |some ⟨h⟩=>if es=m/\bt=e then ah (off+n=M l/\((n+M q:aC):Y)*by_<=2^47/\((n+M q:aC):Y)<2^62,m,n+M q,e,⟨[],e,.vec ty<|castL h (l.drop off)++q,X⟩) else aj
       |none=>aj
      |_=>aj,λb p m' n' e' nb hf=>?_,rfl,λH K=>?_⟩
     ·simp only at hf
      split at hf
      ·split at hf
       ·split at hf
        ·simp only [Ac,Ai] at hf
         rw [<-hf.2.2.2.2];rfl
        ·cases hf
       ·cases hf
      ·cases hf
     ·rw [hs,hd]
      simp only [T.bind];split
      ·rename_i hb
       simp only [hb];split
       ·rename_i ht
        simp only [ht];split
        ·simp only [T.all]
        ·simp [T.all]
       ·rename_i ht
        simp only [ht]
        simp [T.all]
      ·rename_i hb
       split
       ·rename_i hf
        exfalso;split at hf
        ·rename_i h1
         grind
        ·cases hf
       ·simp [T.all]
   ·simp_all
  ·simp_all
def apOk_spec {ops:aJ} {n0:aC} {o:aU} (h:apOk G ops n0 F H o=U):∃d k es off n,∃e0:Ty,∃q0:List e0.D,∃t tx,apD ops o=ah d/\n0+ops.size<=M H/\k=n0+d/\(∀tr,okStore G F tr n0 o=U)/\((∀H':aE,opx P G Γ F H' o=appendL P H' t tx (.os k es off n) (.xl e0 q0))\/∀H':aE,opx P G Γ F H' o=.no):=by
 unfold apOk at h;split at h
 ·rename_i args tys ho
  split at h
  ·rename_i d hd
   simp only [AS,AU] at h;obtain ⟨h1,h2⟩:=h;cases hm:args.toList.map (evalL G F) with
   |nil=>rw [hm] at h2;simp [apK] at h2
   | cons a l=>
    cases l with
    |nil=>rw [hm] at h2;cases a<;>simp [apK] at h2
    | cons b l=>
     cases l with
     |cons c l=>rw [hm] at h2;cases a<;>cases b<;>simp [apK] at h2
     | nil=>
      rw [hm] at h2;cases a with
      | os k es off n=>
       cases b with
       | xl e0 q0=>
        simp only [apK,Cb] at h2
        have hok:∀tr,okStore G F tr n0 o=true:=λtr=>by
         unfold okStore wrt;simp only [ho,hm,owns,GD,List.all_nil,cj,C5,AU];omega
        cases ht:tys.toList with
        |nil=>exact ⟨d,k,es,off,n,e0,q0,0,0,hd,h1,h2,hok,.inr λH'=>dH⟩
        | cons t1 l=>cases l with
         |nil=>exact ⟨d,k,es,off,n,e0,q0,0,0,hd,h1,h2,hok,.inr λH'=>dH⟩
         |cons t2 l=>cases l with
          |nil=>exact ⟨d,k,es,off,n,e0,q0,t1,t2,hd,h1,h2,hok,.inl λH'=>dH⟩
          |cons _ _=>exact ⟨d,k,es,off,n,e0,q0,0,0,hd,h1,h2,hok,.inr λH'=>dH⟩
       |_=>simp [apK] at h2
      |_=>simp [apK] at h2
  ·cases h
 ·cases h
def putAt_length {k:aC}{nb:aMa}{H:aE}:M (putAt k nb H)=M H:=by cases nb<;>simp [putAt]
def ap_put {ops:aJ}{n0 j:aC}{nb:aMa}{o:aU}(h:apOk G ops n0 F H o=U) (hj:apD ops o≠ah j) (hlt:j<ops.size) (K:LV×List Blk->Prop):
  (opx P G Γ F (putAt (n0+j) nb H) o).all K↔(opx P G Γ F H o).all (λq=>K (q.1,putAt (n0+j) nb q.2)):=by
 obtain ⟨d,k,es,off,n,e0,q0,t,tx,hd,hl,hk,_,ho⟩:=apOk_spec (P:=P) (Γ:=Γ) h
 have hkj:k≠n0+j:=by
  rintro e
  grind
 cases nb with
 |none=>exact Iff.rfl
 | some b=>
  have e1:(H.set (n0+j) b)[k]? =H[k]? :=VS<|Lc hkj
  obtain ⟨f,_,_,hf⟩:=appendL_form (P:=P) (t:=t) (tx:=tx) (k:=k) (es:=es) (off:=off) (n:=n) (e0:=e0) (q0:=q0)
  have key:(appendL P (putAt (n0+j) (ah b) H) t tx (.os k es off n)<|.xl e0 q0).all K↔(appendL P H t tx (.os k es off n)<|.xl e0 q0).all (λq=>K (q.1,putAt (n0+j) (ah b) q.2)):=by
   rw [hf,hf];simp only [putAt,e1,BR];split
   ·rename_i e nb' _
    rw [List.set_comm _ _ hkj.symm,<-List.set_append_left _ _ A8]
   ·grind
  rcases ho with hb|hb
  ·grind
  ·rw [hb,hb];simp [T.all]
def ap_okS {ops:aJ}{n0:aC}{nb:aMa}{j:aC}{o:aU}:apOk G ops n0 F (putAt j nb H) o=apOk G ops n0 F H o:=by
 unfold apOk;rw [putAt_length]
def p2a_swap {ops:aJ}{tr:aH}{n0:aC}{i j:aC}{is:aH}{K:List LV×List Blk->Prop}(hc:commA ops i j=U) (h:(p2a P G Γ ops tr n0 (j::i::is) F H).all K):(p2a P G Γ ops tr n0 (i::j::is) F H).all K:=by
 unfold commA at hc;split at hc
 ·rename_i x y hx hy
  simp only [AS,C5,C8,Bt] at hc;obtain ⟨⟨⟨⟨hne,g1⟩,g2⟩,g3⟩,hap⟩:=hc;obtain ⟨a1,a2,a3⟩:=VO hap
  have hij:n0+j≠n0+i:=A0
  have step:∀(k:aC) (o:aU) (l:aH) (F:aD) (H:aE),ops[k]? =ah o->o.guard.isNone=U->((p2a P G Γ ops tr n0 (k::l) F H).all K↔(okStore G F tr n0 o=U/\(spa P G Γ ops n0 k F H o).all (λq=>(p2a P G Γ ops tr n0 l (setF F o.dst q.1) q.2).all K))):=λk o l F H hk hg=>by
   simp only [p2a,hk,hg,Cr]
   by_cases hs:okStore G F tr n0 o=U
   ·rw [AD hs,T.all_bind];exact ⟨λh=>⟨hs,h⟩,λh=>h.2⟩
   ·exact aJ8
  have ap:∀(k:aC) (o:aU) (F:aD) (H:aE) (K:LV×List Blk->Prop),isAp o=U->((spa P G Γ ops n0 k F H o).all K↔(apOk G ops n0 F H o=U/\(opx P G Γ F H o).all K)):=λk o F H K ha=>by
   obtain ⟨q1,q2⟩:=ap_not ha;unfold spa;rw [q1,q2]
   by_cases hs:apOk G ops n0 F H o=U
   ·grind
   ·exact aJ8
  have hil:i<ops.size:=(Fp.1 hx).1
  have hjl:j<ops.size:=(Fp.1 hy).1
  rw [step j y _ F H hy g2] at h;rw [step i x _ F H hx g1];obtain ⟨_,h⟩:=h
  have st1:∀(F:aD) (H:aE),((p2a P G Γ ops tr n0 (i::is) F H).all K↔_):=λF H=>step i x is F H hx g1
  have st2:∀(F:aD) (H:aE),((p2a P G Γ ops tr n0 (j::is) F H).all K↔_):=λF H=>step j y is F H hy g2
  simp only [st1] at h;simp only [st2];rcases g3 with (⟨g3,g4⟩ |⟨g3,g4,g5⟩) |⟨⟨g3,g5⟩,g4⟩
  ·have g3':(isAl x ||isMv x)=true:=by simpa using g3
   have g4':(isAl y ||isMv y)=true:=by simpa using g4
   obtain ⟨px,lx,nx,ex⟩:=spa_set (P:=P) (G:=G) (Γ:=Γ) (ops:=ops) (F:=F) (n0:=n0) (i:=i) g3';obtain ⟨py,ly,ny,ey⟩:=spa_set (P:=P) (G:=G) (Γ:=Γ) (ops:=ops) (F:=F) (n0:=n0) (i:=j) g4';rw [ey] at h;obtain ⟨h1,_,h2⟩:=h;rw [spa_setF g3' a3,ex] at h2;refine ⟨almv_ok g3' F,?_⟩;rw [ex];refine ⟨h2.1,almv_ok g4' _,?_⟩;rw [spa_setF g4' a1,ey];refine ⟨h1,?_⟩;rw [setF_comm a2,putAt_comm hij];exact h2.2
  ·have g3':(isAl x ||isMv x)=true:=by simpa using g3
   obtain ⟨px,lx,nx,ex⟩:=spa_set (P:=P) (G:=G) (Γ:=Γ) (ops:=ops) (F:=F) (n0:=n0) (i:=i) g3';rw [ap j y F H _ g4] at h;obtain ⟨h1,h2⟩:=h
   have h2:(opx P G Γ F H y).all (λq=>px/\(p2a P G Γ ops tr n0 is (setF (setF F y.dst q.1) x.dst lx)<|putAt (n0+i) nx q.2).all K):=T.all_mono (λq hq=>by
    have:=hq.2
    rw [spa_setF g3' a3,ex] at this;exact this) h2
   have hp:px:=T.all_const<|T.all_mono (λq hq=>hq.1) h2
   refine ⟨almv_ok g3' F,?_⟩;rw [ex];refine ⟨hp,?_⟩;simp only;obtain ⟨b1,b2,b3⟩:=app_opx (P:=P) (G:=G) (Γ:=Γ) (F:=F) (H:=putAt (n0+i) nx H) (d:=x.dst) (y:=lx) g4 a1;refine ⟨A8,?_⟩;rw [ap j y _ _ _ g4,b3,ap_okS,b1,ap_put h1 g5 hil];refine ⟨h1,T.all_mono (λq hq=>?_) h2⟩
   simp only;rw [setF_comm a2];exact hq.2
  ·have g4':(isAl y ||isMv y)=true:=by simpa using g4
   obtain ⟨py,ly,ny,ey⟩:=spa_set (P:=P) (G:=G) (Γ:=Γ) (ops:=ops) (F:=F) (n0:=n0) (i:=j) g4';rw [ey] at h;obtain ⟨h1,_,h2⟩:=h;obtain ⟨b1,b2,b3⟩:=app_opx (P:=P) (G:=G) (Γ:=Γ) (F:=F) (H:=putAt (n0+j) ny H) (d:=y.dst) (y:=ly) g3 a3;rw [ap i x _ _ _ g3,b3,ap_okS,b1] at h2;obtain ⟨h2,h3⟩:=h2;rw [ap_put h2 g5 hjl] at h3;obtain ⟨_,_,_,_,_,_,_,_,_,_,_,_,hok,_⟩:=apOk_spec (P:=P) (Γ:=Γ) h2;refine ⟨hok tr,?_⟩;rw [ap i x _ _ _ g3];refine ⟨h2,T.all_mono (λq hq=>⟨almv_ok g4' _,?_⟩) h3⟩
   rw [spa_setF g4' a1,ey];refine ⟨h1,?_⟩;rw [setF_comm a2];exact hq
 ·cases hc
def p2a_cons {ops:aJ}{tr:aH}{n0:aC}{j:aC}{R R':aH}{K:List LV×List Blk->Prop}(hh:∀(F:aD) (H:aE),(p2a P G Γ ops tr n0 R F H).all K->(p2a P G Γ ops tr n0 R' F H).all K) (h:(p2a P G Γ ops tr n0 (j::R) F H).all K):(p2a P G Γ ops tr n0 (j::R') F H).all K:=by
 simp only [p2a] at h|-;exact qP
def p2a_front {ops:aJ}{tr:aH}{n0:aC}{i:aC}{K:List LV×List Blk->Prop}:∀(R:aH) (F:aD) (H:aE),i∈R->(befR i R).all (λj=>commA ops i j)=U->(p2a P G Γ ops tr n0 R F H).all K->(p2a P G Γ ops tr n0 (i::R.erase i) F H).all K
 | [],_,_,hi,_,_=>dp
 | j::R,F,H,hi,hb,h=>by
  by_cases hj:j=i
  ·subst hj
   grind
  ·have hi':i∈R:=by
    rcases Ak.1 hi with e|e
    ·grind
    ·exact e
   simp only [befR,AE hj,GD,AS] at hb;rw [QN A8];exact p2a_swap hb.1<|p2a_cons (λF H h=>p2a_front R F H hi' hb.2 h) h
def nodupN_erase {i:aC}:∀ {R:aH},nodupN R=U->∀i'∈R.erase i,i'≠i
 | [],_,_,h=>A8
 | k::R,hn,i',h=>by
  simp only [nodupN,AS,C8] at hn
  by_cases hk:k=i
  ·subst hk
   simp only [List.erase_cons_head] at h
   rintro rfl
   have:i'∉R:=A8
   exact this h
  ·rw [QN A8] at h
   rcases Ak.1 h with rfl|h
   ·exact hk
   ·exact nodupN_erase hn.2 i' h
def nodupN_sub {i:aC}:∀ {R:aH},nodupN R=U->nodupN (R.erase i)=U
 | [],_=>A8
 | k::R,hn=>by
  simp only [nodupN,AS,C8] at hn
  by_cases hk:k=i
  ·grind
  ·rw [QN A8]
   simp only [nodupN,AS,C8];refine ⟨?_,nodupN_sub hn.2⟩
   grind
def ownsL_setAt {l cs:aD}{off:aC}{j:aC}(h:j∈ownsL (setAt l off cs)):j∈ownsL l\/j∈ownsL cs:=by
 obtain ⟨x,h1,h2⟩:=ownsL_of h;rcases BN.1 h1 with h1|h1
 ·rcases BN.1 h1 with h1|h1
  ·exact .inl<|ownsM (OA h1) h2
  ·exact .inr<|ownsM h1 h2
 ·exact .inl<|ownsM (LY h1) h2
def storeL_owns {t:aS}{x y:LV}{H1:aE}(h:(storeL P H t x y).all λq=>q=H1):∃(k:aC) (b nb:bx),H[k]? =ah b/\H1=H.set k nb/\∀j,j∈nb.owns->j∈b.owns\/j∈owns y:=by
 unfold storeL at h;split at h
 ·rename_i n cs hn hcs
  split at h
  ·rename_i k off
   split at h
   ·rename_i b hb
    split at h
    ·rename_i hc
     refine ⟨k,b,_,hb,h.symm,λj hj=>?_⟩
     have hcl:b.k=.cl:=by
      have:=hc.1
      unfold Blk.isCl at this;split at this
      ·assumption
      ·cases this
     unfold Blk.owns at hj|-;simp only [hcl,HX] at hj|-;rcases ownsL_setAt hj with h|h
     ·exact .inl h
     ·exact .inr<|cellsL_owns hcs j h
    ·cases h
   ·cases h
  ·rename_i k es i j
   split at h
   ·rename_i bt e l hb
    split at h
    ·simp only [T.all] at h
     obtain ⟨_,h⟩:=h;split at h
     ·simp only [T.all] at h
      refine ⟨k,_,_,hb,h.symm,λj hj=>?_⟩
      unfold Blk.owns at hj
      simp [ownsL] at hj
     ·cases h
    ·cases h
   ·cases h
  ·cases h
 ·cases h
def norm_owns {x:LV}:owns (norm x)=owns x:=by cases x<;>simp [norm,owns]
def ownsL_norm:∀(l:aD),ownsL (l.map norm)=ownsL l
 | []=>rfl
 |x::xs=>by simp only [D2,ownsL,norm_owns,ownsL_norm xs]
def mkAgg_owns {l:aD}{j:aC}(h:j∈owns (mkAgg l)):j∈ownsL l:=by
 unfold mkAgg at h;split at h
 ·simp [owns] at h
 ·simp only [owns,ownsL_norm] at h;exact h
def fillL_owns {place:aC->aMk}:∀(parts:bq) (cells cs:aD),fillL place cells parts=ah cs->∀j,j∈ownsL cs->j∈ownsL cells\/∃q,q∈parts/\j∈owns q.2
 | [],cells,cs,h,j,hj=>by simp only [fillL,Ac] at h;subst h;exact .inl hj
 | (i,x)::rest,cells,cs,h,j,hj=>by
  simp only [fillL] at h;split at h
  ·rename_i off size c hp hc
   split at h
   ·rcases fillL_owns rest _ cs h j hj with h1|⟨q,q1,q2⟩
    ·rcases ownsL_setAt h1 with h2|h2
     ·grind
     ·exact .inr ⟨(i,x),AH,cellsL_owns hc j h2⟩
    ·grind
   ·cases h
  ·cases h
def buildL_owns {t:aS}{parts:bq}{lv:LV}(h:(buildL P t parts).all λz=>z=lv) (j:aC) (hj:j∈owns lv):∃q,q∈parts/\j∈owns q.2:=by
 unfold buildL at h;split at h
 ·split at h
  ·rename_i z pf _ _ cs hcs
   have hj':j∈ownsL cs:=by
    rw [<-h] at hj;split at hj
    ·exact hj
    ·exact mkAgg_owns hj
   rcases fillL_owns parts _ cs hcs j hj' with h1|h1
   ·rw [ownsL_map_v] at h1;cases h1
   ·exact h1
  ·cases h
 ·cases h
def evalN_owns {x:aL2}{j:aC}(h:j∈owns (evalN G F x)):j∈ownsL F:=by
 cases x with
 |const v=>simp only [evalN,norm_owns] at h;exact evalL_owns h
 |tmp t=>exact evalL_owns (G:=G) (x:=.tmp t) h
 |global g=>exact evalL_owns (G:=G) (x:=.global g) h
 |func f=>exact evalL_owns (G:=G) (x:=.func f) h
def inv_step {ops:aJ} {n0:aC} {done:aC->Prop} {R:aH} {g g':Gh} {o:aU} {i:aC} {lv:LV} {H1:aE} (hI:InvA n0 done R g) (hnd:∀i'∈R.erase i,i'≠i) (hs:(spa P G Γ ops n0 i g.F g.H o).all λq=>q=(lv,H1)) (eF:g'.F=setF g.F o.dst lv) (eH:g'.H=H1):∃done',InvA n0 done' (R.erase i) g':=by
 have up:∀j,(j<n0\/∃i',done i'/\j=n0+i')->j<n0\/∃i',(done i'\/i'=i)/\j=n0+i':=λj h=>by
  rcases h with h|⟨i',h1,h2⟩
  ·exact .inl h
  ·exact rC
 unfold spa at hs;split at hs
 ·refine ⟨λi'=>done i'\/i'=i,?_⟩
  have al:∀nb:bx,owns lv=[n0+i]->H1=g.H.set (n0+i) nb->(∀j,j∈nb.owns->j∈ownsL g.F)->InvA n0 (λi'=>done i'\/i'=i) (R.erase i) g':=λnb ho hH1 hcs=>by
   subst hH1;refine ⟨λj hj=>?_,λk b hb j hj=>?_,λi' hi'=>?_⟩
   ·rw [eF] at hj
    rcases setF_owns hj with h|h
    ·exact up j<|hI.f j h
    ·grind
   ·rw [eH,Fm] at hb
    split at hb
    ·split at hb
     ·simp only [Ac] at hb
      subst hb;exact up j<|hI.f j<|hcs j hj
     ·cases hb
    ·exact up j<|hI.h k b hb j hj
   ·obtain ⟨h1,b,h2⟩:=hI.dead i' (Mh hi')
    refine ⟨λh=>h.elim h1<|hnd i' hi',b,?_⟩
    grind
  rcases alAt_opx (Γ:=Γ) hs with ⟨cs,t,rfl,hH1,_,hcs⟩ |⟨m,n,e,ty,l,rfl,hH1,_⟩
  ·exact al _ rfl hH1 (λj hj=>by
    unfold Blk.owns at hj;simp only [HX] at hj;exact hcs j hj)
  ·exact al _ rfl hH1 (λj hj=>by
    unfold Blk.owns at hj
    simp [ownsL] at hj)
 ·split at hs
  ·rename_i hst
   refine ⟨λi'=>done i'\/i'=i,?_⟩
   have other:∀(x:LV),lv=x->H1=g.H->(∀j,j∈owns x->j∈ownsL g.F)->InvA n0 (λi'=>done i'\/i'=i) (R.erase i) g':=λx e1 e2 e3=>by
    subst e1 e2;refine ⟨λj hj=>?_,λk b hb j hj=>?_,λi' hi'=>?_⟩
    ·rw [eF] at hj
     rcases setF_owns hj with h|h
     ·exact up j<|hI.f j h
     ·exact up j<|hI.f j<|e3 j h
    ·rw [eH] at hb;exact up j<|hI.h k b hb j hj
    ·obtain ⟨h1,b,h2⟩:=hI.dead i' (Mh hi')
     grind
   unfold isSt at hst;split at hst
   ·rename_i t x y ho
    unfold opx at hs;simp only [ho] at hs;obtain ⟨H2,h1,h2⟩:=T.bind_all hs;obtain ⟨rfl,rfl⟩:=h2;obtain ⟨k,b,nb,q1,q2,q3⟩:=storeL_owns h1;subst q2;refine ⟨λj hj=>?_,λk' b' hb j hj=>?_,λi' hi'=>?_⟩
    ·rw [eF] at hj
     rcases setF_owns hj with h|h
     ·exact up j<|hI.f j h
     ·simp [owns] at h
    ·rw [eH,Fm] at hb
     split at hb
     ·split at hb
      ·simp only [Ac] at hb
       subst hb;rcases q3 j hj with h|h
       ·exact up j<|hI.h k b q1 j h
       ·exact up j<|hI.f j<|evalL_owns h
      ·cases hb
     ·exact up j<|hI.h k' b' hb j hj
    ·obtain ⟨h1,b0,h2⟩:=hI.dead i' (Mh hi')
     refine ⟨λh=>h.elim h1<|hnd i' hi',?_⟩
     rw [eH]
     grind
   ·exact aHj
   ·exact aHj
   ·rename_i t parts ho
    unfold opx at hs;simp only [ho] at hs;obtain ⟨y,h1,h2⟩:=T.bind_all hs;simp only [T.all,Ai] at h2;refine other _ h2.1.symm h2.2.symm λj hj=>?_
    obtain ⟨q,q1,q2⟩:=buildL_owns h1 j hj;obtain ⟨q0,_,rfl⟩:=Dp.1 q1;exact evalN_owns q2
   ·cases hst
  ·split at hs
   ·rename_i hap
    obtain ⟨d,k,es,off,n,e0,q0,t,tx,_,hl,_,_,ho⟩:=apOk_spec (P:=P) (Γ:=Γ) hap;rcases ho with ho|ho
    ·obtain ⟨f,f1,_,hf⟩:=appendL_form (P:=P) (t:=t) (tx:=tx) (k:=k) (es:=es) (off:=off) (n:=n) (e0:=e0) (q0:=q0)
     rw [ho,hf] at hs;split at hs
     ·rename_i p m n' e nb he
      obtain ⟨_,hs⟩:=hs;simp only [Ai] at hs;obtain ⟨rfl,hH⟩:=hs
      have hnb:=f1 _ _ _ _ _ _ he
      refine ⟨λi'=>(done i'\/i'=i)\/i'=M g.H-n0,λj hj=>?_,λk' b hb j hj=>?_,λi' hi'=>?_⟩
      ·rw [eF] at hj
       rcases setF_owns hj with h|h
       ·rcases up j (hI.f j h) with h|⟨i',h1,h2⟩
        ·exact .inl h
        ·exact rC
       ·simp only [owns,IM] at h
        grind
      ·rw [eH,<-hH] at hb
       by_cases hk:k'<M g.H
       ·rw [FI (by rw [BR];exact hk),Fm] at hb
        split at hb
        ·split at hb
         ·simp only [Ac] at hb
          subst hb
          simp [Blk.owns,ownsL] at hj
         ·cases hb
        ·rcases up j (hI.h k' b hb j hj) with h|⟨i',h1,h2⟩
         ·exact .inl h
         ·exact rC
       ·rw [EK (by rw [BR];omega)] at hb
        have:b=nb:=by
         cases hq:k'-M (g.H.set k ⟨[],e,.dead,X⟩) with
         |zero=>rw [hq] at hb;simpa using hb.symm
         |succ z=>rw [hq] at hb;simp at hb
        subst this;rw [hnb] at hj;cases hj
      ·obtain ⟨h1,b,h2⟩:=hI.dead i' (Mh hi')
       have hlt:=(Ce.1 h2).1
       refine ⟨λh=>h.elim (λh=>h.elim h1<|hnd i' hi') λh=>A0,?_⟩
       rw [eH,<-hH]
       grind
     ·exact hs.elim
    ·rw [ho] at hs
     cases hs
   ·cases hs
def any_sound (hΓ:∀g S,Γ g=ah S->Valid P G g S) {ops:aJ}{tr:aH}{D:aO->Prop}{sp:aC->aL}{Q:bc->Gh->Prop}{F':aD}{H':aE}(hgh:∀p,p∈Z0.gh->okV (M H) p.1)
  (hQ:∀g:Gh,g.F=F'->g.H=H'->Q g.a g):∀(n:aC) (R:aH) (listed:aY) (g:Gh) (done:aC->Prop),nodupN R=U->InvA (M H) done R g->(∀i∈R,sp i=U)->ordA ops n R listed=U->
   (p2a P G Γ ops tr (M H) R g.F g.H).all (λq=>q=(F',H'))->wpAnyG P .any ops D (Cls ds G w0 Z0 tr β H wr) sp Q n listed g.a g
 |0,R,listed,g,_,_,_,_,hB,h=>by
  simp only [ordA,AS,VU] at hB;obtain ⟨rfl,h2⟩:=hB;simp only [p2a,T.all,Ai] at h;exact ⟨h2,hQ g h.1 h.2⟩
 | n + 1,R,listed,g,done,hnd,hI,hs,hB,h=>by
  simp only [ordA,AS,B7,C8,cQ] at hB;obtain ⟨hne,hall⟩:=hB;refine ⟨λh0=>absurd h0 hne,λi hi=>?_⟩
  obtain ⟨⟨hR,hbef⟩,hrest⟩:=hall i hi
  have hiR:i∈R:=A8
  have hf:=p2a_front R g.F g.H hiR A8 h
  simp only [p2a] at hf;split at hf
  ·rename_i o ho
   split at hf
   ·rename_i hgs
    simp only [AS,VJ] at hgs;obtain ⟨hgd,hst⟩:=hgs
    have hw:az o (yielded ops g.a.tmps)=true:=rk
    unfold gOp;simp only [ho,hw,BP,hs i hiR];obtain ⟨⟨lv,H1⟩,h1,h2⟩:=T.bind_all hf
    have hne2:∀i'∈R.erase i,i'≠i:=nodupN_erase hnd
    intro w' hc
    have goal:actUpon P (λv w''=>∃g':Gh,Cls ds G w0 Z0 tr β H wr g' w''/\g'.F=setF g.F o.dst lv/\g'.H=H1/\g'.a=g.a.put o.dst v) ((execOp g.a.eval o).run P w'):=by
     unfold spa at h1;split at h1
     ·exact cls_al hΓ hgh hI hiR hst h1 hc
     ·split at h1
      ·exact cls_step hΓ hst h1 hc
      ·split at h1
       ·exact cls_step hΓ hst h1 hc
       ·cases h1
    refine actUpon_mono (λv w'' ⟨g',e1,e2,e3,e4⟩=>⟨g',e1,?_⟩) goal
    rw [<-e4];obtain ⟨done',hI'⟩:=inv_step hI hne2 h1 e2 e3;refine any_sound hΓ hgh hQ n (R.erase i) _ g' done' (nodupN_sub hnd) hI' (λj hj=>hs j<|Mh hj) hrest ?_
    rwa [e2,e3]
   ·cases hf
  ·cases hf
def RW.deads {βd:aC->aL1}{m:aC}(hW:RW G w0 Z0 Z β H w) (hd:∀k,k<M H->βd k=β k):RW G w0 Z0 Z βd (H++aq m deadBk) w:=by
 have old:∀(k:aC) (b:bx),(H++aq m deadBk)[k]? =ah b->(k<M H/\H[k]? =ah b)\/b=deadBk:=λk b hb=>by
  by_cases h0:k<M H
  ·grind
  ·rw [EK A0,cU] at hb
   split at hb
   ·grind
   ·cases hb
 have nl:∀k,¬live βd k deadBk:=λk h=>by simp [live,deadBk] at h
 refine ⟨hW.below,hW.zlt,hW.znew,λk b hk hl hp=>?_,λk b hk hl hp=>?_,λk b hk hl=>?_,λi j bi bj hi hj li lj pi e=>?_,λk b hk=>?_,hW.glob,λp hp=>⟨R.mono hd (λ_ h=>h) (λ_ _=>rfl) _ _ (hW.gh p hp).2 (hW.gh p hp).1,okV.mono AH _ (hW.gh p hp).2⟩,hW.mks⟩
 ·rcases old k b hk with ⟨h1,h2⟩ |rfl
  ·rw [hd k h1];rw [live_eq<|hd k h1] at hl;exact hW.zown k b h2 hl hp
  ·grind
 ·rcases old k b hk with ⟨h1,h2⟩ |rfl
  ·rw [hd k h1];rw [live_eq<|hd k h1] at hl;exact hW.zpub k b h2 hl hp
  ·grind
 ·rcases old k b hk with ⟨h1,h2⟩ |rfl
  ·rw [hd k h1];rw [live_eq<|hd k h1] at hl;exact hW.low k b h2 hl
  ·grind
 ·rcases old i bi hi with ⟨h1,h2⟩ |rfl
  ·rcases old j bj hj with ⟨g1,g2⟩ |rfl
   ·rw [live_eq<|hd i h1] at li;rw [live_eq<|hd j g1] at lj;rw [hd i h1,hd j g1] at e
    exact hW.inj i j bi bj h2 g2 li lj pi e
   ·grind
  ·grind
 ·rcases old k b hk with ⟨h1,h2⟩ |rfl
  ·obtain ⟨g1,g2⟩:=hW.blk k b h2
   exact ⟨g1.keep hd (λ_ h=>h) (λ_ _=>rfl) (hd k h1) (λ_=>rfl) g2,g2.mono AH⟩
  ·exact ⟨by simp [BlkR,deadBk],ak,ak⟩
def draw_any (hΓ:∀g S,Γ g=ah S->Valid P G g S) {ops:aJ} {Q:aMm->bc->aO->Prop} {F':aD} {H':aE} (hQ:∀Z' β' a' w',RW G w0 Z0 Z' β' H' w'->RF ds β' Z' w' (M H') F' a'->Q .normal a' w')
  (hW0:RW G w0 Z0 Z β H w) (hF0:RF ds β Z w (M H) F a) (h:(drawx P G Γ ops F H).all λq=>q=(F',H')) (r:bn) (m:aC):P.follows .mixedOrders=U/\wpAnyIn (fen r) m P .any ops Q ops.size (Array.replicate ops.size X) a {w with drawn:=w.drawn+1}:=by
 unfold drawx at h;simp only at h;split at h
 ·rename_i hc
  simp only [AS] at hc;obtain ⟨⟨hcalm,hmix⟩,htr0⟩:=hc;generalize hfl:flagsGo _ [] ops.toList=flags at h hcalm;generalize htrd:tracked H ops.toList F=tr at h htr0
  have htr:∀k∈tr,k<M H:=λk hk=>rZ
  obtain ⟨⟨F1,H1⟩,h1,h2⟩:=T.bind_all h
  have hk:=p1x_keeps (P:=P) (G:=G) (Γ:=Γ) (H:=H) (tr:=tr) (Hm:=maskGo tr 0 H) (F0:=F) flags ops.toList F (λ_ h=>h) ⟨rfl,λ_ _=>rfl⟩
  obtain ⟨⟨F2,H2⟩,g1,g2,g3⟩:=mergeT_sound hk h1
  have hH2:H2=H:=(T.lv_all hk g1).2.2
  subst hH2
  have hbd:Below w.heap.size w {w with drawn:=w.drawn+1}:=⟨rfl,rfl,rfl,Ar _,λ_ _=>rfl⟩
  have hW:=hW0.same hbd
  have hF:RF ds β Z {w with drawn:=w.drawn+1} (M H2) F a:=hF0.mono (Ar _) (λ_ _=>rfl) (λ_ h=>h) λ_ _=>rfl
  have hflen:M flags=M ops.toList:=by
   unfold calmB at hcalm;exact qz
  have hops:ops=ops.toList.toArray:=AH
  have hshp0:Shp tr β H2 {w with drawn:=w.drawn+1}:=λk b _ hb hcl=>by
   exact qk
  refine ⟨hmix,?_⟩;rw [hops]
  refine wp_any_calm (P:=P) (G:=Gh) (D:=λw'=>Near (lvB β H2 tr) {w with drawn:=w.drawn+1} w'/\Below w0.heap.size w0 w'/\Shp tr β H2 w') (C:=λg w'=>Cls ds G w0 Z0 tr β H2 {w with drawn:=w.drawn+1} g w') flags ⟨Z,β,H2,F,a⟩ rU (λg w' hc=>⟨hc.near,hc.rw.below,hc.shape⟩) (λg w1 w2 hc hb=>hc.keep hb)
   ⟨hW,hF,Near.refl _ _,Ar _,λ_ _=>rfl,λk k1 k2=>absurd k2<|QS.2 k1,EvL.refl _⟩ ?_
  rw [<-hops]
  have hlm:M (maskGo tr 0 H2)=M H2:=maskGo_length tr H2 0
  have hDm:∀w',(Near (lvB β H2 tr) {w with drawn:=w.drawn+1} w'/\Below w0.heap.size w0 w'/\Shp tr β H2 w')->RW G w0 Z0 Z β (maskGo tr 0 H2) w'/\∀b,(Z b\/∃k bk,(maskGo tr 0 H2)[k]? =ah bk/\live β k bk/\tr.contains k=X/\b=(β k).b)->w'.heap[b]? =({w with drawn:=w.drawn+1}:aO).heap[b]? :=λw' ⟨d1,d2,d3⟩=>by
   exact qQ
  refine p1_sound (H:=H2) (HH:=H2) (F':=F2) hΓ hlm (hW.mask (Near.refl _ _) hW.below hshp0) hDm (λa1 hF1=>?_) flags ops.toList F a hflen hF g1
  have hF1':=g3 _ _ _ _ _ _ hF1
  refine wpP2_sub (Q':=λa' w'=>Q .normal a' w') (g1:=⟨Z,β,H2,F1,a1⟩) (λw' hc=>?_) flags ops.toList a1 ?_
  ·exact aHr
  ·exact p2_sound (H:=H2) (F':=F') (H':=H') hΓ (λg e1 e2 w' hc=>hQ g.Z g.β g.a w' W4 Vq) flags ops.toList ⟨Z,β,H2,F1,a1⟩ hflen ⟨_,hW,hF1',Near.refl _ _,Ar _,λ_ _=>rfl,λk k1 k2=>absurd k2<|QS.2 k1,EvL.refl _⟩ h2
 ·split at h
  ·rename_i hc
   simp only [AS] at hc;obtain ⟨⟨hcalm,hmix⟩,htr0⟩:=hc
   replace hord:(floatx ops _ ||floatz P ops _)=true:=hcalm
   replace hcalm:=(OB.1 hcalm).elim (λe=>by unfold floatx at e;exact (Bool.and_eq_true_iff.1 e).1) (λe=>by unfold floatz at e;exact (Bool.and_eq_true_iff.1 e).1)
   generalize hfl:flagsGo _ [] ops.toList=flags at h hcalm hord;generalize htrd:tracked H ops.toList F=tr at h htr0
   have htr:∀k∈tr,k<M H:=λk hk=>rZ
   obtain ⟨⟨F1,H1⟩,h1,h2⟩:=T.bind_all h
   have hk:=p1x_keeps (P:=P) (G:=G) (Γ:=Γ) (H:=H) (tr:=tr) (Hm:=maskGo tr 0 H) (F0:=F) flags ops.toList F (λ_ h=>h) ⟨rfl,λ_ _=>rfl⟩
   obtain ⟨⟨F2,H2⟩,g1,g2,g3⟩:=mergeT_sound hk h1
   have hH2:H2=H:=(T.lv_all hk g1).2.2
   subst hH2
   have hbd:Below w.heap.size w {w with drawn:=w.drawn+1}:=⟨rfl,rfl,rfl,Ar _,λ_ _=>rfl⟩
   have hW:=hW0.same hbd
   have hF:RF ds β Z {w with drawn:=w.drawn+1} (M H2) F a:=hF0.mono (Ar _) (λ_ _=>rfl) (λ_ h=>h) λ_ _=>rfl
   have hflen:M flags=M ops.toList:=by
    unfold floatB at hcalm;exact qz
   have hops:ops=ops.toList.toArray:=AH
   have hshp0:Shp tr β H2 {w with drawn:=w.drawn+1}:=λk b _ hb hcl=>by
    exact qk
   refine ⟨hmix,?_⟩;rw [hops]
   refine wp_any_float (P:=P) (G:=Gh) (D:=λw'=>Near (lvB β H2 tr) {w with drawn:=w.drawn+1} w'/\Below w0.heap.size w0 w'/\Shp tr β H2 w') (C:=λg w'=>Cls ds G w0 Z0 tr β H2 {w with drawn:=w.drawn+1} g w') flags ⟨Z,β,H2,F,a⟩ rU (λg w' hc=>⟨hc.near,hc.rw.below,hc.shape⟩) (λg w1 w2 hc hb=>hc.keep hb)
    ⟨hW,hF,Near.refl _ _,Ar _,λ_ _=>rfl,λk k1 k2=>absurd k2<|QS.2 k1,EvL.refl _⟩ ?_
   rw [<-hops]
   have hlm:M (maskGo tr 0 H2)=M H2:=maskGo_length tr H2 0
   have hDm:∀w',(Near (lvB β H2 tr) {w with drawn:=w.drawn+1} w'/\Below w0.heap.size w0 w'/\Shp tr β H2 w')->RW G w0 Z0 Z β (maskGo tr 0 H2) w'/\∀b,(Z b\/∃k bk,(maskGo tr 0 H2)[k]? =ah bk/\live β k bk/\tr.contains k=X/\b=(β k).b)->w'.heap[b]? =({w with drawn:=w.drawn+1}:aO).heap[b]? :=λw' ⟨d1,d2,d3⟩=>by
    exact qQ
   refine p1_sound (H:=H2) (HH:=H2) (F':=F2) hΓ hlm (hW.mask (Near.refl _ _) hW.below hshp0) hDm (λa1 hF1=>?_) flags ops.toList F a hflen hF g1
   have hF1':=g3 _ _ _ _ _ _ hF1
   refine wpAnyG_sub (Q':=λa' w'=>Q .normal a' w') (g1:=⟨Z,β,H2,F1,a1⟩) (λw' hc=>?_) _ _ a1 ?_
   ·exact aHr
   ·cases hfx:floatx ops flags with
    | true=>
     rw [AD hfx] at h2
     have hord2:=hfx
     unfold floatx at hord2;simp only [AS,C5] at hord2
     exact float_sound (H:=H2) (F':=F') (H':=H') hΓ (λg e1 e2 w' hc=>hQ g.Z g.β g.a w' W4 Vq) _ (idxs U flags 0) _ ⟨Z,β,H2,F1,a1⟩ (λi hi=>by
      obtain ⟨_,h⟩:=idxs_mem U flags 0 i hi;simp only [Nat.sub_zero] at h
      simp [List.getD,h]) (hord2.2.elim ordQ_F id) h2
    |false=>
     rw [AE (by rw [hfx];decide)] at h2
     rw [hfx,CI] at hord;unfold floatz at hord;simp only [AS,B7] at hord;exact floatz_sound (H:=H2) (F':=F') (H':=H') hΓ (λg e1 e2 w' hc=>hQ g.Z g.β g.a w' W4 Vq) _ (lateR ops<|idxs U flags 0) _ ⟨Z,β,H2,F1,a1⟩ (λi hi=>hord.2.1 i hi) hord.2.2 h2
  ·split at h
   ·rename_i hc
    simp only [AS] at hc;obtain ⟨⟨hcalm,hmix⟩,htr0⟩:=hc;unfold alx at hcalm;simp only [AS] at hcalm;obtain ⟨⟨⟨hcalm,hnd⟩,hlt⟩,hord⟩:=hcalm;generalize hfl:flagsGo _ [] ops.toList=flags at h hcalm hord hnd hlt;generalize htrd:tracked H ops.toList F=tr at h htr0
    have htr:∀k∈tr,k<M H:=λk hk=>rZ
    obtain ⟨⟨F1,H1⟩,h1,h2⟩:=T.bind_all h
    have hk:=p1x_keeps (P:=P) (G:=G) (Γ:=Γ) (H:=H) (tr:=tr) (Hm:=maskGo tr 0 H) (F0:=F) flags ops.toList F (λ_ h=>h) ⟨rfl,λ_ _=>rfl⟩
    obtain ⟨⟨F2,H2⟩,g1,g2,g3⟩:=mergeT_sound hk h1
    have hH2:H2=H:=(T.lv_all hk g1).2.2
    subst hH2
    have hbd:Below w.heap.size w {w with drawn:=w.drawn+1}:=⟨rfl,rfl,rfl,Ar _,λ_ _=>rfl⟩
    have hW:=hW0.same hbd
    have hF:RF ds β Z {w with drawn:=w.drawn+1} (M H2) F a:=hF0.mono (Ar _) (λ_ _=>rfl) (λ_ h=>h) λ_ _=>rfl
    have hflen:M flags=M ops.toList:=by
     unfold floatB at hcalm;exact qz
    have hops:ops=ops.toList.toArray:=AH
    have hshp0:Shp tr β H2 {w with drawn:=w.drawn+1}:=λk b _ hb hcl=>by
     exact qk
    refine ⟨hmix,?_⟩;rw [hops]
    refine wp_any_float (P:=P) (G:=Gh) (D:=λw'=>Near (lvB β H2 tr) {w with drawn:=w.drawn+1} w'/\Below w0.heap.size w0 w'/\Shp tr β H2 w') (C:=λg w'=>Cls ds G w0 Z0 tr β H2 {w with drawn:=w.drawn+1} g w') flags ⟨Z,β,H2,F,a⟩ rU (λg w' hc=>⟨hc.near,hc.rw.below,hc.shape⟩) (λg w1 w2 hc hb=>hc.keep hb)
     ⟨hW,hF,Near.refl _ _,Ar _,λ_ _=>rfl,λk k1 k2=>absurd k2<|QS.2 k1,EvL.refl _⟩ ?_
    rw [<-hops]
    have hlm:M (maskGo tr 0 H2)=M H2:=maskGo_length tr H2 0
    have hDm:∀w',(Near (lvB β H2 tr) {w with drawn:=w.drawn+1} w'/\Below w0.heap.size w0 w'/\Shp tr β H2 w')->RW G w0 Z0 Z β (maskGo tr 0 H2) w'/\∀b,(Z b\/∃k bk,(maskGo tr 0 H2)[k]? =ah bk/\live β k bk/\tr.contains k=X/\b=(β k).b)->w'.heap[b]? =({w with drawn:=w.drawn+1}:aO).heap[b]? :=λw' ⟨d1,d2,d3⟩=>by
     exact qQ
    refine p1_sound (H:=H2) (HH:=H2) (F':=F2) hΓ hlm (hW.mask (Near.refl _ _) hW.below hshp0) hDm (λa1 hF1=>?_) flags ops.toList F a hflen hF g1
    have hF1':=g3 _ _ _ _ _ _ hF1
    have d1:∀k,k<M H2->(λk=>if k<M H2 then β k else ⟨w.heap.size,0,aj⟩:aC->aL1) k=β k:=λk hk=>by simp [hk]
    have d2:∀k,M H2<=k->((λk=>if k<M H2 then β k else ⟨w.heap.size,0,aj⟩:aC->aL1) k).b=w.heap.size:=λk hk=>by simp [QS.2 hk]
    generalize (λk=>if k<M H2 then β k else ⟨w.heap.size,0,aj⟩:aC->aL1)=βd at d1 d2
    refine wpAnyG_sub (Q':=λa' w'=>Q .normal a' w') (g1:=⟨Z,βd,H2++aq ops.size deadBk,F1,a1⟩) (λw' hc=>?_) _ _ a1 ?_
    ·refine ⟨hc.rw.deads d1,?_,hc.near,AH,λk hk=>d1 k hk,λk k1 k2=> .inl (by rw [d2 k k1];exact Ar _),EvL.app _ _⟩
     exact hF1'.mono AH d1 (λ_ h=>h) λb hz=>hc.near.block b (hW.zlt b hz)<|hW.lvB_not hz
    ·refine any_sound (H:=H2) (F':=F') (H':=H') hΓ (λp hp=>(hW.gh p hp).2) (λg e1 e2 w' hc=>hQ g.Z g.β g.a w' W4 Vq) _ (idxs U flags 0) _ ⟨Z,βd,H2++aq ops.size deadBk,F1,a1⟩ (λ_=>False) hnd ⟨λj hj=>?_,λk b hb j hj=>?_,λi hi=>⟨λh=>h,?_⟩⟩ (λi hi=>by
      obtain ⟨_,h⟩:=idxs_mem U flags 0 i hi;simp only [Nat.sub_zero] at h
      simp [List.getD,h]) hord h2
     ·obtain ⟨x,q1,q2⟩:=ownsL_of hj
      obtain ⟨t',q3⟩:=List.getElem?_of_mem q1;exact .inl<|okV_owns x (hF1'.get t' x q3).2 j q2
     ·by_cases h0:k<M H2
      ·simp only at hb
       rw [FI h0] at hb;exact .inl<|okB_owns (hW.blk k b hb).2 j hj
      ·simp only at hb
       rw [EK A0,cU] at hb;split at hb
       ·simp only [Ac] at hb
        subst hb
        simp [Blk.owns,deadBk,ownsL] at hj
       ·cases hb
     ·have hlt':i<ops.size:=by simpa using B7.1 hlt i hi
      exact ⟨_,Cs CN⟩
   ·cases h
def splitN_all {α:Type}{f:aC->T α}{n:Y}{p:α->Prop}:∀(m j:aC),(splitN f n m j).all p->(j:Y)<=n->n<(j:Y)+m->∃i:aC,n=(i:Y)/\(f i).all p
 |0,j,_,h1,h2=>A0
 |1,j,h,h1,h2=>⟨j,A0,h⟩
 |m+2,j,h,h1,h2=>by
  simp only [splitN,T.all] at h
  by_cases e:n=(j:Y)
  ·grind
  ·exact splitN_all (m+1) (j+1) (h.2 A8) A0 A0
def splitOf_slot {ops:bw}{s len:aC}{k:aL5}{n:Y}(h:splitOf P ops F=ah (s,k,n,len)):F.getD s .junk=.v (ag k n):=by
 unfold splitOf at h;split at h
 ·obtain ⟨o,_,ho⟩:=List.exists_of_findSome?_eq_some h
  split at ho
  ·split at ho
   ·split at ho
    ·rename_i hx
     obtain ⟨rfl,rfl,rfl,rfl⟩:=ho;exact hx
    ·cases ho
   ·cases ho
  ·cases ho
 ·cases h
def drawy_any (hΓ:∀g S,Γ g=ah S->Valid P G g S) {ops:aJ}{Q:aMm->bc->aO->Prop}{F':aD}{H':aE}(hQ:∀Z' β' a' w',RW G w0 Z0 Z' β' H' w'->RF ds β' Z' w' (M H') F' a'->Q .normal a' w')
  (hW0:RW G w0 Z0 Z β H w) (hF0:RF ds β Z w (M H) F a) (h:(drawy P G Γ ops F H).all λq=>q=(F',H')) (r:bn) (m:aC):P.follows .mixedOrders=U/\wpAnyIn (fen r) m P .any ops Q ops.size (Array.replicate ops.size X) a {w with drawn:=w.drawn+1}:=by
 unfold drawy at h;split at h
 ·rename_i s k n len hs
  obtain ⟨⟨h0,h1⟩,h2⟩:=h;obtain ⟨i,hi,h3⟩:=splitN_all len 0 h2 A0 A0
  have hx:=splitOf_slot hs
  obtain ⟨s1,s2⟩:=hF0.slot hx AH
  have hv:=(hF0.get s _ s1).1
  exact draw_any hΓ hQ hW0 (hF0.know (lv:=.ki k i) (by simp only [R];rw [hv,hi]) trivial) h3 r m
 ·exact draw_any hΓ hQ hW0 hF0 h r m
def drawy_sound (hΓ:∀g S,Γ g=ah S->Valid P G g S) {id:aC}{ops:aJ}{Q:aMm->bc->aO->Prop}{F':aD}{H':aE}(hQ:∀Z' β' a' w',RW G w0 Z0 Z' β' H' w'->RF ds β' Z' w' (M H') F' a'->Q .normal a' w')
  (hW0:RW G w0 Z0 Z β H w) (hF0:RF ds β Z w (M H) F a) (h:(drawy P G Γ ops F H).all λq=>q=(F',H')) (r:bn) (m:aC):(Code.region id ops U).wpIn (fen r) m P Q a w:=
 have h1:=drawy_any hΓ hQ hW0 hF0 h r m
 wpIn_region_any h1.1 h1.2
end Go.Sx
namespace Go.Sx
open Go Go.RowKit Go.Proofs.YtjjcgjkagokchaaGreatDoor
variable {P : Program} {G : Globs} {Γ : Specs} {K : Hand} {β : Nat -> Loc} {Z : Nat -> Prop} {Z0 : Gz} {w w0 : World} {F : List LV} {H : List Blk} {a : Act} {ds : List Deferred}
def looks_op {ops:aJ}{o:aU}{t:Tmp}(h:Operand.tmp t∈o.op.operands):t∈o.looksAt ops:=by
 exact List.mem_append_left _<|OC.2 ⟨.tmp t,A8,rfl⟩
def evalL_agree {ops:aJ}{F F':aD}{o:aU}(h:∀t,t∈o.looksAt ops->F.getD t .junk=F'.getD t .junk) {x:aL2}(hx:x∈o.op.operands):evalL G F x=evalL G F' x:=by
 cases x with
 |tmp t=>exact h t (looks_op hx)
 |const _=>rfl
 |global _=>rfl
 |func _=>rfl
def genL_agree {ops:aJ}{F F':aD}{o:aU}(hs:∀cs b,o.op≠ .select cs b) (h:∀t,t∈o.looksAt ops->F.getD t .junk=F'.getD t .junk):genL P G F o=genL P G F' o:=by
 have e:∀x∈o.op.operands,evalL G F x=evalL G F' x:=λx hx=>evalL_agree h hx
 unfold genL
 have e1:o.op.operands.toList.all (λx=>isPl<|evalL G F x)=o.op.operands.toList.all (λx=>isPl<|evalL G F' x):=by
  grind
 have e3:o.op.operands.toList.all (λx=>isKn<|evalL G F x)=o.op.operands.toList.all (λx=>isKn<|evalL G F' x):=by
  grind
 have e2:genV P o (λx=>(pl<|evalL G F x).getD undef)=genV P o (λx=>(pl<|evalL G F' x).getD undef):=by
  have c:=ct (ρ:=λx=>(pl<|evalL G F x).getD undef) (ρ':=λx=>(pl<|evalL G F' x).getD undef) o hs λx hx=>A8
  unfold genV;rw [c]
  have a:eqArm P o.op (λx=>(pl<|evalL G F x).getD undef)=eqArm P o.op (λx=>(pl<|evalL G F' x).getD undef):=by
   exact aHg
  rw [a]
 grind
def mkx_agree {ops:aJ}{F F':aD}{o:aU}(h:∀t,t∈o.looksAt ops->F.getD t .junk=F'.getD t .junk):mkx P G Γ F o=mkx P G Γ F' o:=by
 have e:=λx hx=>evalL_agree (G:=G) h (x:=x) hx
 unfold mkx;split
 ·rename_i t len parts ho
  have em:(parts.toList.map λq=>(q.1,evalL G F q.2))=parts.toList.map λq=>(q.1,evalL G F' q.2):=Gv λq hq=>by
   rw [e q.2 rP]
  rw [em]
 ·rename_i f args ty ho
  have e1:=e f aJw
  have e2:(args.toList.map λx=>norm<|evalL G F x)=args.toList.map λx=>norm (evalL G F' x):=Gv λx hx=>by
   rw [e x Vr]
  rw [e1,e2]
 ·rfl
def hwx_agree {ops:aJ}{F F':aD}{o:aU}(h:∀t,t∈o.looksAt ops->F.getD t .junk=F'.getD t .junk):hwx P G Γ F H o=hwx P G Γ F' H o:=by
 have e:=λx hx=>evalL_agree (G:=G) h (x:=x) hx
 unfold hwx;cases ho:o.op<;>simp only
 case binOp op t x y u=>cases op<;>simp only<;>exact genL_agree (ops:=ops) (λcs b q=>by rw [ho] at q;cases q) h
 case indexAddr t x i=>rw [e x D3,e i D3]
 case call c=>
  split
  ·exact genL_agree (ops:=ops) (λcs b q=>by rw [ho] at q;cases q) h
  ·exact mkx_agree (ops:=ops) h
 all_goals rw [e _ D3]
def callOf_nil {o:aU}{g:bg}{l:aD}(h:callOf G [] o=ah (g,l)):∃f args ty,o.op=.call {callee:=.value f,args,argTypes:=ty}/\∀F:aD,evalL G F f=evalL G [] f:=by
 obtain ⟨f,args,ty,ho,hf⟩:=callOf_op h;refine ⟨f,args,ty,ho,λF=>?_⟩
 cases f with
 |tmp t=>
  have:evalL G [] (.tmp t)=.junk:=by simp [evalL]
  rcases hf with ⟨_,hf,_⟩ |⟨_,hf,_⟩ |⟨hf,_⟩<;>rw [this] at hf<;>cases hf
 |const _=>rfl
 |global _=>rfl
 |func _=>rfl
def opk_agree {ops:aJ}{F F':aD}{o:aU}{g:bg}{l:aD}(hc:callOf G [] o=ah (g,l)) (hg:Γ g=aj) (h:∀t,t∈o.looksAt ops->F.getD t .junk=F'.getD t .junk):opk P G Γ K F H o=opk P G Γ K F' H o:=by
 obtain ⟨f,args,ty,ho,hf⟩:=callOf_nil hc
 have ha:args.toList.map (λx=>norm<|evalL G F x)=args.toList.map (λx=>norm<|evalL G F' x):=Gv λx hx=>by
  rw [evalL_agree (G:=G) h (by rw [ho];simp [Op.operands,Call.operands];exact .inr A8)]
 have hcall:callOf G F o=callOf G F' o:=by
  unfold callOf
  grind
 have h2:∃l2,callOf G F' o=ah (g,l2):=by
  unfold callOf at hc|-;simp only [ho] at hc|-;split at hc
  ·grind
  ·grind
  ·grind
  ·cases hc
 unfold opk
 grind
def T.ok_with {t:T LV}{lv:LV}{H:aE}(h:t.all λy=>y=lv):(t.bind λy=>(T.ok (y,H):T<|LV×List Blk)).all (λq=>q=(lv,H)):=by
 rw [T.all_bind];exact T.all_mono (λx hx=>by rw [hx];exact rfl) h
def mkx_opx' {o:aU}{lv:LV}(h:(mkx P G Γ F o).all λz=>z=lv):(opx P G Γ F H o).all (λq=>q=(lv,H)):=by
 refine mkx_opx ?_ h;unfold mkx at h;unfold isMk;split at h
 ·rfl
 ·rfl
 ·cases h
def hwx_opx {o:aU}{lv:LV}(h:(hwx P G Γ F H o).all λy=>y=lv):(opx P G Γ F H o).all (λq=>q=(lv,H)):=by
 by_cases hcl:∃c,o.op=.call c
 ·obtain ⟨c,ho⟩:=hcl
  unfold hwx at h;simp only [ho] at h;split at h
  ·rename_i hm
   obtain ⟨callee,args,tys⟩:=c;obtain rfl:callee=.builtin .max:=hm;unfold opx;simp only [ho];exact T.ok_with h
  ·exact mkx_opx' h
 unfold hwx at h;unfold opx;cases ho:o.op<;>simp only [ho] at h|-
 case call c=>exact absurd ⟨c,ho⟩ hcl
 case move x=>simp only [T.all] at h|-;rw [h]
 case assign x=>simp only [T.all] at h|-;rw [h]
 case load t x=>exact T.ok_with h
 case fieldAddr s x i=>exact T.ok_with h
 case indexAddr t x i=>exact T.ok_with h
 case nilCheck x=>
  generalize evalL G F x=v at h|-;cases v<;>simp only [T.all] at h|-<;>first|rw [h] |cases h
 case binOp op t x y u=>cases op<;>simp only at h|-<;>first|exact T.ok_with h|cases h
 all_goals cases h
def getD_setF {F:aD}{d t:aC}{y:LV}(hd:d<M F):(F.set d y).getD t .junk=if t=d then y else F.getD t .junk:=by
 by_cases e:t=d
 ·grind
 ·grind
def goW_spec {ops:aJ}:∀(is:aH) (F F1:aD),is.Pairwise (λi j=>∀d,dstI ops j=ah d->d∉looksI ops i/\dstI ops i≠ah d)->(∀i∈is,∃d,dstI ops i=ah d/\d<M F/\d∉looksI ops i)->
  (goW P G Γ ops H is F).all (λz=>z=F1)->M F1=M F/\(∀t,(∀i∈is,dstI ops i≠ah t)->F1.getD t .junk=F.getD t .junk)/\∀i∈is,∀o d,ops[i]? =ah o->o.dst=ah d->(hwx P G Γ F1 H o).all (λy=>y=F1.getD d .junk)
 | [],F,F1,_,_,h=>by
  subst h
  grind
 | i ::is,F,F1,hp,hd,h=>by
  simp only [goW] at h;split at h
  ·rename_i o ho
   obtain ⟨y,h1,h2⟩:=T.bind_all h;obtain ⟨d,e1,e2,e3⟩:=hd i AH
   have hod:o.dst=ah d:=by simpa [dstI,ho] using e1
   obtain ⟨p1,p2⟩:=cD.1 hp
   have hset:setF F o.dst y=F.set d y:=by rw [hod];rfl
   rw [hset] at h2;obtain ⟨g1,g2,g3⟩:=goW_spec is (F.set d y) F1 p2 (λj hj=>A8) h2
   have hFd:F1.getD d .junk=y:=by
    grind
   refine ⟨A8,λt ht=>?_,λj hj o' d' ho' hd'=>?_⟩
   ·rw [g2 t λj hj=>ht j A8,getD_setF e2,AE]
    grind
   ·rcases Ak.1 hj with rfl|hj
    ·obtain rfl:=DE (ho.symm.trans ho')
     obtain rfl:=DE<|hod.symm.trans hd';rw [hFd,hwx_agree (ops:=ops) (F':=F) λt ht=>?_]
     ·exact h1
     ·have hl:t∈looksI ops j:=dV
      grind
    ·grind
  ·cases h
def chkW_spec {ops:aJ}{F1:aD}:∀(is:aH),(chkW P G Γ ops H F1 is).all (λ_=>True)->∀i∈is,∀o d t x,ops[i]? =ah o->o.dst=ah d->o.op=.load t x->(hwx P G Γ F1 H o).all (λy=>y=F1.getD d .junk)
 | [],_,i,hi=>dp
 | j ::is,h,i,hi=>λo d t x ho hd hop=>by
  simp only [chkW] at h;split at h
  ·rename_i o' ho'
   split at h
   ·rename_i hop'
    rw [T.all_bind] at h;rcases Ak.1 hi with rfl|hi
    ·obtain rfl:=DE (ho'.symm.trans ho)
     refine T.all_mono (λy hy=>?_) h
     simp only [T.all,hd] at hy;exact hy.1
    ·obtain ⟨y,hy,_⟩:=T.pick h
     exact chkW_spec is hy.2 i hi o d t x ho hd hop
   ·rename_i hop'
    rcases Ak.1 hi with rfl|hi
    ·obtain rfl:=DE (ho'.symm.trans ho)
     grind
    ·exact chkW_spec is h i hi o d t x ho hd hop
  ·cases h
def count_parts (n:aC) (p q:aC->aL) (hp:∃k,k<n/\p k=U/\∀j,j<n->p j=U->j=k):n=(M ((au n).filter λi=>!p i&&!q i)+1)+M ((au n).filter λi=>!p i&&q i):=by
 obtain ⟨k,hk,hpk,hu⟩:=hp
 have h1:∀m,m<=n->m=M ((au m).filter λi=>!p i&&!q i)+(if k<m then 1 else 0)+M ((au m).filter λi=>!p i&&q i):=λm=>by
  induction m with
  |zero=>intro _;simp
  | succ m ih=>
   intro hm;rw [OF,cE,cE,Av,Av]
   by_cases e:m=k
   ·subst e
    grind
   ·have hpm:p m=false:=by
     cases hb:p m with
     |false=>rfl
     |true=>exact absurd (hu m A0 hb) e
    by_cases hlt:k<m
    ·have h2:k<m+1:=A0
     grind
    ·have h2:¬k<m+1:=A0
     grind
 have:=h1 n<|Ar _
 rw [AD hk] at this;omega
def FSw (ops:aJ) (AW:aH) (F F2:aD) (l:aY):aD:=
 (au<|M F).map λt=>if AW.any (λi=>l.getD i X&&dstI ops i==ah t) then F2.getD t .junk else F.getD t .junk
def FSw_length {ops:aJ}{AW:aH}{F F2:aD}{l:aY}:M (FSw ops AW F F2 l)=M F:=by simp [FSw]
def FSw_get {ops:aJ}{AW:aH}{F F2:aD}{l:aY}{t:aC}(h:t<M F):(FSw ops AW F F2 l).getD t .junk=if AW.any (λi=>l.getD i X&&dstI ops i==ah t) then F2.getD t .junk else F.getD t .junk:=by
 simp [FSw,List.getD,h]
def getD_ext {A B:aD}(hl:M A=M B) (h:∀t,t<M A->A.getD t .junk=B.getD t .junk):A=B:=by
 apply VW hl
 grind
def getD_ge {A:aD}{t:aC}(h:M A<=t):A.getD t .junk=.junk:=A8
def back_listed {ops:aJ}{l:aY}{i j:aC}(hc:Closed .any ops l) (hr:i∈ay .any ops l) (hj:j∈backI ops i):l.getD j X=true:=by
 obtain ⟨_,o,ho,h2⟩:=Gw.1 hr;refine hc.back ops.size (onsB ops i) (λk hk=>?_) j hj
 unfold onsB at hk
 grind
def back_listed' {ops:aJ}{l:aY}{i j:aC}(hc:Closed .any ops l) (hi:l.getD i X=U) (hlt:i<ops.size) (hj:j∈backI ops i):l.getD j X=true:=by
 refine hc.back ops.size (onsB ops i) (λk hk=>?_) j hj
 unfold onsB at hk;rw [qL hlt] at hk;obtain ⟨e,h3,rfl⟩:=Dp.1 hk;obtain ⟨h4,h5⟩:=Fs.1 h3;exact hc i _ (qL hlt) hi e A8 h5
def filter_split {α:Type}(l:List α) (p q:α->aL):M (l.filter p)=M (l.filter λi=>p i&&q i)+M (l.filter λi=>p i&&!q i):=by
 induction l with
 |nil=>rfl
 |cons x l ih=>
  grind
def drawW_any (hΓ:∀g S,Γ g=ah S->Valid P G g S) (hK:KSound P G K) {ops:aJ} {wi:aC} {Q:aMm->bc->aO->Prop} {F':aD} {H':aE} (hQ:∀Z' β' a' w',RW G w0 Z0 Z' β' H' w'->RF ds β' Z' w' (M H') F' a'->Q .normal a' w')
  (hwi:walkAt G Γ ops=ah wi) (hW0:RW G w0 Z0 Z β H w) (hF0:RF ds β Z w (M H) F a) (h:(drawW P G Γ K ops wi F H).all λq=>q=(F',H')) (r:bn) (m:aC):P.follows .mixedOrders=U/\wpAnyIn (fen r) m P .any ops Q ops.size (Array.replicate ops.size X) a {w with drawn:=w.drawn+1}:=by
 unfold drawW at h;split at h
 case isFalse=>cases h
 rename_i hc;simp only [AS,C5] at hc;obtain ⟨⟨⟨hok,hmix⟩,hbl⟩,hord⟩:=hc
 have hbl:M (ordB ops wi)=M (partB ops wi):=by simpa using hbl
 have hord:ordF ops (M<|ordB ops wi) (ordB ops wi) (listedW ops wi)=true:=hord.elim ordQ_F id
 refine ⟨hmix,?_⟩;split at h
 case h_2=>cases h
 rename_i ow how;obtain ⟨F1,h1,h⟩:=T.bind_all h;obtain ⟨⟨lvW,H1⟩,h2,h⟩:=T.bind_all h;obtain ⟨_,h3,h⟩:=T.bind_all h;obtain ⟨F3,h5,h4⟩:=T.bind_all h;simp only at h3 h4 h5
 obtain ⟨gW,lW,hcW,hgW⟩:∃g l,callOf G [] ow=ah (g,l)/\Γ g=none:=by
  have:=List.find?_some hwi
  simp only [how] at this;split at this
  ·rename_i g l e;exact ⟨g,l,e,by simpa using this⟩
  ·cases this
 have hwlt:wi<ops.size:=(Fp.1 how).1
 generalize hA:partA ops wi=A at*
 have hAm:∀i,i∈A↔i<ops.size/\i≠wi/\wi∉backI ops i:=λi=>by
  rw [<-hA];unfold partA;simp
 generalize hC:partC ops wi=C at*
 have hCm:∀i,i∈C↔i<ops.size/\i≠wi/\wi∈backI ops i/\allA ops wi i=false:=λi=>by
  rw [<-hC];unfold partC;simp
 have hPW:partW ops wi=A++([wi]++C):=by unfold partW;rw [hA,hC]
 unfold okW at hok;rw [hPW,hA,hC] at hok;generalize hAWd:A++([wi]++C)=AW at*;simp only [AS,B7] at hok;obtain ⟨hAW,hB,hNL⟩:=hok
 have hAWm:∀i,i∈AW↔i∈A\/i=wi\/i∈C:=λi=>by rw [<-hAWd];simp
 have cNL:∀i,(i∈A\/i=wi)->∀j,(j=wi\/j∈C)->∀d,dstI ops j=ah d->d∉looksI ops i:=λi hi j hj d hd hm=>by
  have:=hNL i (by simpa using hi) j sv
  unfold noLook at this;simp only [hd] at this
  simp [hm] at this
 have cDst:∀i∈AW,∃o d,ops[i]? =ah o/\o.guard=aj/\o.dst=ah d/\dstI ops i=ah d/\d<M F:=λi hi=>by
  obtain ⟨⟨⟨g1,g2⟩,_⟩,_⟩:=hAW i hi;cases ho:ops[i]? with
  |none=>simp [ho] at g1
  | some o=>
   simp only [ho,VJ] at g1;cases hd:dstI ops i with
   |none=>simp [hd] at g2
   |some d=>
    simp only [hd,AU] at g2;exact ⟨o,d,rfl,g1,by simpa [dstI,ho] using hd,rfl,g2⟩
 have cOns:∀i∈AW,∀p∈onsB ops i,p<i/\p∈AW:=λi hi p hp=>by
  obtain ⟨⟨_,g3⟩,_⟩:=hAW i hi
  simpa using g3 p hp
 have cLay:∀i∈AW,∀j∈AW,∀d,dstI ops j=ah d->(i=j\/dstI ops i≠ah d)/\(d∈looksI ops i->i≠j/\j<i/\j∈backI ops i):=λi hi j hj d hd=>by
  obtain ⟨_,g4⟩:=hAW i hi
  have:=g4 j hj
  unfold laysB at this;simp only [hd,AS,C5,C8,Bt,Cb,AU,ne_eq,VQ] at this;refine ⟨this.1,λhm=>?_⟩
  rcases this.2 with g|g
  ·exact absurd hm<|by simpa using g
  ·exact ⟨g.1.1,g.1.2,by simpa using g.2⟩
 have hwA:wi∈AW:=(hAWm wi).2<|.inr<|.inl rfl
 have hAA:∀i∈A,i∈AW:=λi hi=>(hAWm i).2<|.inl hi
 have hCA:∀i∈C,i∈AW:=λi hi=>(hAWm i).2<|.inr<|.inr hi
 obtain ⟨_,dw,how',hgw,hdw,hdwI,hdwlt⟩:=cDst wi hwA;obtain rfl:=DE<|how.symm.trans how'
 have hAnd:A.Pairwise (λi j=>i<j):=by
  rw [<-hA];unfold partA;exact (List.pairwise_lt_range).filter _
 obtain ⟨k1,k2,k3⟩:=goW_spec A F F1 (hAnd.imp_of_mem λ{i j} hi hj hlt d hd=>by
   obtain ⟨q1,q2⟩:=cLay i (hAA i hi) j (hAA j hj) d hd;exact ⟨λhm=>aLG,q1.resolve_left A0⟩) (λi hi=>by
   obtain ⟨o,d,_,_,_,e1,e2⟩:=cDst i<|hAA i hi;exact ⟨d,e1,e2,λhm=>((cLay i (hAA i hi) i (hAA i hi) d e1).2 hm).1 rfl⟩) h1
 have hset:setF F1 ow.dst lvW=F1.set dw lvW:=by rw [hdw];rfl
 rw [hset] at h5;generalize hF2:F1.set dw lvW=F2 at h5
 have hF2g:∀t,F2.getD t .junk=if t=dw then lvW else F1.getD t .junk:=λt=>by rw [<-hF2,getD_setF (F:=F1) (d:=dw) (by rw [k1];exact hdwlt)]
 have hF2l:M F2=M F:=by rw [<-hF2];simp [k1]
 have hCnd:C.Pairwise (λi j=>i<j):=by
  rw [<-hC];unfold partC;exact (List.pairwise_lt_range).filter _
 obtain ⟨c1,c2,c3⟩:=goW_spec C F2 F3 (hCnd.imp_of_mem λ{i j} hi hj hlt d hd=>by
   obtain ⟨q1,q2⟩:=cLay i (hCA i hi) j (hCA j hj) d hd;exact ⟨λhm=>aLG,q1.resolve_left A0⟩) (λi hi=>by
   obtain ⟨o,d,_,_,_,e1,e2⟩:=cDst i<|hCA i hi;exact ⟨d,e1,by rw [hF2l];exact e2,λhm=>((cLay i (hCA i hi) i (hCA i hi) d e1).2 hm).1 rfl⟩) h5
 have hF3l:M F3=M F:=c1.trans hF2l
 have hAC:∀i,i∈A->i∉C:=λi h1 h2=>((hAm i).1 h1).2.2 ((hCm i).1 h2).2.2.1
 have hF3A:∀t,(∀j,(j=wi\/j∈C)->dstI ops j≠ah t)->F3.getD t .junk=F1.getD t .junk:=λt ht=>by
  rw [c2 t λj hj=>ht j<|.inr hj,hF2g,AE]
  intro e;subst e;exact ht wi (.inl rfl) hdwI
 have hF3w:F3.getD dw .junk=lvW:=by
  rw [c2 dw (λj hj e=>by
   rcases (cLay j (hCA j hj) wi hwA _ hdwI).1 with q|q
   ·exact ((hCm j).1 hj).2.1 q
   ·exact q e),hF2g,AD rfl]
 let Inv:aY->bc->aO->Prop:=λl a w'=>∃Z β,RW G w0 Z0 Z β (if l.getD wi X then H1 else H) w'/\RF ds β Z w' (M (if l.getD wi X then H1 else H)) (FSw ops AW F F3 l) a
 have agree:∀(l:aY),Closed .any ops l->∀i∈AW,i∈ay .any ops l->∀t,t∈looksI ops i->(FSw ops AW F F3 l).getD t .junk=F3.getD t .junk:=λl hcl i hi hr t ht=>by
  by_cases hlt:t<M F
  ·rw [FSw_get hlt]
   by_cases hex:∃j,j∈AW/\dstI ops j=ah t
   ·obtain ⟨j,hj,hd⟩:=hex
    have hb:=(cLay i hi j hj t hd).2 ht
    have hl:=back_listed hcl hr hb.2.2
    rw [AD<|La.2 ⟨j,hj,by simp [hl,hd]⟩]
   ·rw [AE,hF3A t λj hj e=>hex ⟨j,(hAWm j).2<|.inr hj,e⟩,k2 t λj hj e=>hex ⟨j,hAA j hj,e⟩]
    intro hany;obtain ⟨j,hj,e⟩:=La.1 hany;simp only [AS,Cb] at e;exact hex ⟨j,hj,e.2⟩
  ·rw [getD_ge (A:=FSw ops AW F F3 l) (t:=t) (by rw [FSw_length];exact Nat.le_of_not_lt hlt),getD_ge (A:=F3) (t:=t) (by rw [hF3l];exact Nat.le_of_not_lt hlt)]
 have agreeA:∀i,(i∈A\/i=wi)->∀t,t∈looksI ops i->F3.getD t .junk=F1.getD t .junk:=λi hi t ht=>hF3A t λj hj e=>cNL i hi j hj t e ht
 have next:∀(l:aY),l.size=ops.size->∀i∈AW,∀d,dstI ops i=ah d->d<M F->(FSw ops AW F F3 l).set d (F3.getD d .junk)=FSw ops AW F F3 (l.setIfInBounds i U):=λl hls i hi d hd hdl=>by
  have hilt:i<ops.size:=by
   obtain ⟨o,_,ho,_⟩:=cDst i hi;exact (Fp.1 ho).1
  refine getD_ext (by simp [FSw_length]) λt ht=>?_
  have ht':t<M F:=rh
  rw [getD_setF (F:=FSw ops AW F F3 l) (d:=d) (by rw [FSw_length];exact hdl),FSw_get (l:=l.setIfInBounds i U) ht']
  by_cases e:t=d
  ·subst e
   rw [AD rfl,AD<|La.2 ⟨i,hi,by simp [hd,hls,hilt]⟩]
  ·rw [AE e,FSw_get ht']
   congr 1
   refine Am (λb=>b=U) ?_
   rw [GG,La,La];refine exists_congr λj=>and_congr_right λhj=>?_
   by_cases hji:i=j
   ·subst hji;simp [hd,Lc e]
   ·rw [VN X hji]
 have hH1:∀l:aY,l.size=ops.size->(l.setIfInBounds wi U).getD wi X=true:=λl hl=>by simp [hl,hwlt]
 have step:∀(l:aY) (a':bc) (w':aO),l.size=ops.size->Closed .any ops l->Inv l a' w'->∀i∈AW,i∈ay .any ops l->wpOpIn (fen r) m P ops Q i (λa2 w2=>Inv (l.setIfInBounds i U) a2 w2) a' w':=λl a' w' hls hcl hI i hi hr=>by
  obtain ⟨Z1,β1,i1,i2⟩:=hI;obtain ⟨o,d,ho,hg,hd,hdI,hdl⟩:=cDst i hi;unfold wpOpIn
  have hw:az o (yielded ops a'.tmps)=true:=dY
  simp only [ho,hw,BP]
  have hlk:∀t,t∈o.looksAt ops->(FSw ops AW F F3 l).getD t .junk=F3.getD t .junk:=λt ht=>agree l hcl i hi hr t dV
  have hnl:l.getD i X=false:=by
   have:=(Gw.1 hr).1
   rwa [getD_tt aKV] at this
  have fin:i≠wi->(hwx P G Γ F3 (if l.getD wi X then H1 else H) o).all (λy=>y=F3.getD d .junk)->o.wpIn (fen r) m P a' w' (λa2 w2=>Inv (l.setIfInBounds i U) a2 w2) Q:=λhne hv=>by
   have hv2:(opx P G Γ (FSw ops AW F F3 l) (if l.getD wi X then H1 else H) o).all (λq=>q=(F3.getD d .junk,(if l.getD wi X then H1 else H))):=hwx_opx (by rw [hwx_agree (ops:=ops) hlk];exact hv)
   have hsame:(l.setIfInBounds i U).getD wi X=l.getD wi false:=VN X hne
   refine wp_of_act' (actUpon_mono (λv w2 ⟨Z',β',e1,e2,e3,e4,_⟩=>⟨Z',β',?_,?_⟩)<|opx_sound hΓ i1 i2 hv2) r m
   ·rw [hsame];exact e1
   ·rw [hsame,<-next l hls i hi d hdI hdl]
    have:=e2.put e3 e4 o.dst
    rw [hd] at this|-;exact this
  rcases (hAWm i).1 hi with hiA|rfl|hiC
  ·have hne:i≠wi:=((hAm i).1 hiA).2.1
   refine fin hne ?_
   have hF3d:F3.getD d .junk=F1.getD d .junk:=hF3A d (λj hj e=>by
    rcases (cLay i hi j ((hAWm j).2<|.inr hj) _ e).1 with q|q
    ·rcases hj with rfl|hj
     ·exact hne q
     ·subst q;exact hAC i hiA hj
    ·exact q hdI)
   have hag:∀t,t∈o.looksAt ops->F3.getD t .junk=F1.getD t .junk:=λt ht=>agreeA i (.inl hiA) t dV
   rw [hF3d,hwx_agree (ops:=ops) hag]
   by_cases hl:l.getD wi X=U
   ·rw [AD hl]
    cases hop:o.op with
    | load t x=>
     refine chkW_spec _ (T.all_mono (λ_ _=>trivial) h3) i ?_ o d t x ho hd hop
     rw [Fs];refine ⟨hiA,?_⟩;rw [C8];cases hct:(backI ops wi).contains i with
     |false=>rfl
     |true=>
      have:=back_listed' hcl hl hwlt<|by simpa using hct
      rw [hnl] at this;cases this
    |_=>
     have:=k3 i hiA o d ho hd
     unfold hwx at this|-;simp only [hop] at this|-;exact this
   ·rw [AE hl];exact k3 i hiA o d ho hd
  ·obtain rfl:=DE (how.symm.trans ho)
   obtain rfl:=DE<|hdwI.symm.trans hdI;simp only [hnl,FJ,E4] at i1 i2
   have hag:∀t,t∈ow.looksAt ops->F3.getD t .junk=F1.getD t .junk:=λt ht=>agreeA i (.inr rfl) t dV
   have hv:(opk P G Γ K (FSw ops AW F F3 l) H ow).all (λq=>q=(lvW,H1)):=by
    rw [opk_agree (ops:=ops) hcW hgW hlk,opk_agree (ops:=ops) hcW hgW hag];exact h2
   refine wp_of_act' (actUpon_mono (λv w2 ⟨Z',β',e1,e2,e3,e4⟩=>⟨Z',β',?_,?_⟩)<|opk_sound hΓ hK i1 i2 hv) r m
   ·rw [AD<|hH1 l hls];exact e1
   ·rw [AD<|hH1 l hls,<-next l hls i hi dw hdI hdl,hF3w]
    have:=e2.put e3 e4 ow.dst
    rw [hd] at this|-;exact this
  ·have hne:i≠wi:=((hCm i).1 hiC).2.1
   refine fin hne ?_
   have hl:l.getD wi X=true:=back_listed hcl hr ((hCm i).1 hiC).2.2.1
   rw [AD hl];exact c3 i hiC o d ho hd
 have behind:∀(a':bc) (w':aO),Inv (listedW ops wi) a' w'->wpAnyIn (fen r) m P .any ops Q (M<|partB ops wi) (listedW ops wi) a' w':=λa' w' hI=>by
  rw [<-hbl];obtain ⟨Z1,β1,i1,i2⟩:=hI
  have hl:∀i,i<ops.size->(listedW ops wi).getD i X=an (i∈AW):=λi hi=>by
   unfold listedW;rw [hPW]
   simp [hi]
  rw [hl wi hwlt,Cq hwA] at i1 i2;simp only [BP] at i1 i2
  have hFS:FSw ops AW F F3 (listedW ops wi)=F3:=by
   refine getD_ext (by rw [FSw_length,hF3l]) λt ht=>?_
   have ht':t<M F:=rh
   rw [FSw_get ht'];split
   ·rfl
   ·rename_i hn
    have hno:∀j,j∈AW->dstI ops j≠ah t:=λj hj e=>by
     obtain ⟨o,_,ho,_⟩:=cDst j hj;refine hn<|La.2 ⟨j,hj,?_⟩;rw [hl j (Fp.1 ho).1,Cq hj]
     simp [e]
    rw [hF3A t λj hj=>hno j<|(hAWm j).2<|.inr hj,k2 t λj hj=>hno j<|hAA j hj]
  rw [hFS] at i2;refine wpAny_of_G (D:=λ_=>True) (C:=Cls ds G w0 Z0 (au<|M H1) β1 H1 w') (sp:=λ_=>U) (Q:=λa' g'=>∀w'',Cls ds G w0 Z0 (au<|M H1) β1 H1 w' g' w''->Q .normal a' w'') (λ_ _ _=>trivial) (λg w1 w2 hc hb=>hc.keep hb) (λa g w hc hq=>hq w hc) r m _ _ a' ⟨Z1,β1,H1,F3,a'⟩ w' ⟨i1,i2,Near.refl _ _,Ar _,λ_ _=>rfl,λk k1 k2=>absurd k2<|QS.2 k1,EvL.refl _⟩ ?_
  exact float_sound hΓ (λg e1 e2 w'' hc=>hQ g.Z g.β g.a w'' W4 Vq) _ (ordB ops wi) _ ⟨Z1,β1,H1,F3,a'⟩ (λ_ _=>rfl) hord h4
 have main:∀(k:aC) (l:aY) (a':bc) (w':aO),l.size=ops.size->Closed .any ops l->(∀i,l.getD i X=U->i∈AW)->M ((AW).filter λi=>!l.getD i X)=k->Inv l a' w'->wpAnyIn (fen r) m P .any ops Q (k+M (partB ops wi)) l a' w':=λk=>by
  induction k with
  | zero=>
   intro l a' w' hls hcl hon hk hI
   have hall:∀i∈AW,l.getD i X=true:=λi hi=>by
    cases hb:l.getD i X with
    |true=>rfl
    |false=>
     have:i∈(AW).filter λi=>!l.getD i false:=Fs.2 ⟨hi,by simp [hb]⟩
     rw [K4.1 hk] at this;cases this
   have he:l=listedW ops wi:=by
    apply Array.ext<|by simp [listedW,hls]
    intro i g1 g2
    have hi:i<ops.size:=by rw [<-hls];exact g1
    have e1:l.getD i X=l[i]:=by simp [g1]
    have e2:(listedW ops wi)[i]=an (i∈AW):=by
     unfold listedW;simp [hPW]
    rw [e2,<-e1];cases hb:l.getD i X with
    |true=>rw [Cq<|hon i hb]
    |false=>rw [Fq λhm=>by rw [hall i hm] at hb;cases hb]
   rw [Ck,he];exact behind a' w' (he▸hI)
  | succ k ih=>
   intro l a' w' hls hcl hon hk hI
   obtain ⟨i0,hi0⟩:∃i,i∈(AW).filter λi=>!l.getD i false:=by
    cases hL:(AW).filter λi=>!l.getD i X with
    |nil=>rw [hL] at hk;simp at hk
    |cons x xs=>exact ⟨x,AH⟩
   have hrn:ay .any ops l≠ []:=by
    have:∀n i,i<n->i∈AW->l.getD i X=X->ay .any ops l≠ []:=λn=>by
     induction n with
     |zero=>intro i hi;omega
     | succ n ihn=>
      intro i hin hi hb;obtain ⟨o,d,ho,_⟩:=cDst i hi
      by_cases hp:∃p∈onsB ops i,l.getD p X=X
      ·obtain ⟨p,hp,hpb⟩:=hp
       obtain ⟨q1,q2⟩:=cOns i hi p hp;exact ihn p A0 q2 hpb
      ·have:i∈ay .any ops l:=Gw.2 ⟨by rw [getD_tt aKV];exact hb,o,ho,λe he hbd=>by
        cases hx:l.getD e.on X with
        |true=>rfl
        |false=>exact absurd ⟨e.on,by unfold onsB;rw [ho];exact Dp.2 ⟨e,Fs.2 ⟨W1,hbd⟩,rfl⟩,hx⟩ hp⟩
       intro e;rw [e] at this;cases this
    obtain ⟨m1,m2⟩:=Fs.1 hi0;exact this (i0+1) i0 A0 m1<|by simpa using m2
   rw [show k+1+M (partB ops wi)=(k+M (partB ops wi))+1 by omega]
   refine ⟨λh0=>absurd h0 hrn,λi hi=>?_⟩
   have hiAW:i∈AW:=by
    by_cases hm:i∈AW
    ·exact hm
    ·exfalso
     have hiB:i∈partB ops wi:=by
      unfold partB
      have hlt:=ready_lt hi
      rw [hAWm] at hm;simp only [not_or,hAm,hCm] at hm;simp only [Fs,IK,AS,C8,Bt,VQ]
      by_cases hb:wi∈backI ops i
      ·cases ha:allA ops wi i with
       |true=>exact ⟨hlt,hm.2.1,hb,rfl⟩
       |false=>exact absurd ⟨hlt,hm.2.1,hb,ha⟩ hm.2.2
      ·exact absurd ⟨hlt,hm.2.1,hb⟩ hm.1
     obtain ⟨m1,m2⟩:=Fs.1 hi0
     have hb:=hB i hiB i0 m1
     have:=back_listed hcl hi<|by simpa using hb
     simp [this] at m2
   refine wpOpIn_mono (λa2 w2 hI2=>?_)<|step l a' w' hls hcl hI i hiAW hi
   refine ih _ a2 w2 (by simpa using hls) (hcl.put hi) (λj hj=>?_) ?_ hI2
   ·by_cases e:i=j
    ·exact e▸hiAW
    ·rw [VN X e] at hj;exact hon j hj
   ·have hnd:(AW).Nodup:=by
     rw [<-hAWd,qW];refine ⟨hAnd.imp λh=>Nat.ne_of_lt h,?_,λx hx y hy e=>?_⟩
     ·rw [qF,J9]
      exact ⟨λhm=>((hCm _).1 hm).2.1 rfl,hCnd.imp λh=>Nat.ne_of_lt h⟩
     ·subst e
      rw [qF,Ak] at hy;rcases hy with rfl|hy
      ·exact ((hAm _).1 hx).2.1 rfl
      ·exact hAC _ hx hy
    have hil:l.getD i X=false:=by
     have:=(Gw.1 hi).1
     rwa [getD_tt aKa] at this
    have hlt:i<l.size:=aKa
    have e:((AW).filter λj=>!(l.setIfInBounds i U).getD j X)=((AW).filter λj=>!l.getD j X).erase i:=by
     rw [List.Nodup.erase_eq_filter<|hnd.filter _,List.filter_filter];refine qX λj _=>?_
     by_cases e:i=j
     ·subst e;simp [hlt]
     ·rw [VN X e]
      simp [Lc e]
    rw [e,List.length_erase_of_mem<|Fs.2 ⟨hiAW,by simp [hil]⟩,hk]
    rfl
 have hcount:ops.size=M ((AW).filter λi=>!(Array.replicate ops.size X).getD i X)+M (partB ops wi):=by
  rw [List.filter_eq_self.2 λi hi=>by
   have:i<ops.size:=by
    obtain ⟨o,_,ho,_⟩:=cDst i hi;exact (Fp.1 ho).1
   simp [this]]
  have hlen:=count_parts ops.size (λi=>i==wi) (λi=>(backI ops i).contains wi) ⟨wi,hwlt,AH,λj _ hj=>sv⟩
  have hsp:=filter_split (au ops.size) (λi=>!(i==wi)&&(backI ops i).contains wi) λi=>allA ops wi i
  have eC:M C=M ((au ops.size).filter λi=>(!(i==wi)&&(backI ops i).contains wi)&&!allA ops wi i):=by
   rw [<-hC];unfold partC
   congr 1
   exact qX λi _=>by rw [QX]
  have eB:M (partB ops wi)=M ((au ops.size).filter λi=>(!(i==wi)&&(backI ops i).contains wi)&&allA ops wi i):=by
   unfold partB
   congr 1
   exact qX λi _=>by rw [QX]
  have eA:M A=M ((au ops.size).filter λi=>!(i==wi)&&!(backI ops i).contains wi):=by rw [<-hA];rfl
  rw [<-hAWd,Av,Av,List.length_singleton,eA,eC,eB];omega
 have hbd:Below w.heap.size w {w with drawn:=w.drawn+1}:=⟨rfl,rfl,rfl,Ar _,λ_ _=>rfl⟩
 rw [show wpAnyIn (fen r) m P .any ops Q ops.size (Array.replicate ops.size X) a {w with drawn:=w.drawn+1}=wpAnyIn (fen r) m P .any ops Q (M ((AW).filter λi=>!(Array.replicate ops.size X).getD i X)+M (partB ops wi)) (Array.replicate ops.size X) a {w with drawn:=w.drawn+1} from congrFun (congrFun (congrFun (Am _ hcount) _) _) _]
 refine main _ (Array.replicate ops.size X) a _ AH (λi o ho hL=>?_) (λi hi=>?_) rfl ?_
 ·have:=(Fp.1 ho).1
  simp [this] at hL
 ·exfalso
  rcases ck i ops.size with h|h<;>simp [h] at hi
 ·have hFS:FSw ops AW F F3 (Array.replicate ops.size X)=F:=by
   refine getD_ext FSw_length λt ht=>?_
   rw [FSw_get rh,AE];intro hany;obtain ⟨j,_,e⟩:=La.1 hany;rcases ck j ops.size with h|h<;>simp [h] at e
  have hz:(Array.replicate ops.size X).getD wi X=false:=by simp [hwlt]
  refine ⟨Z,β,?_,?_⟩
  ·rw [hz];exact hW0.same hbd
  ·rw [hz,hFS];exact hF0.mono (Ar _) (λ_ _=>rfl) (λ_ h=>h) λ_ _=>rfl
def drawv_sound (hΓ:∀g S,Γ g=ah S->Valid P G g S) (hK:KSound P G K) {id:aC}{ops:aJ}{Q:aMm->bc->aO->Prop}{F':aD}{H':aE}(hQ:∀Z' β' a' w',RW G w0 Z0 Z' β' H' w'->RF ds β' Z' w' (M H') F' a'->Q .normal a' w')
  (hW0:RW G w0 Z0 Z β H w) (hF0:RF ds β Z w (M H) F a) (h:(drawv P G Γ K ops F H).all λq=>q=(F',H')) (r:bn) (m:aC):(Code.region id ops U).wpIn (fen r) m P Q a w:=by
 unfold drawv at h;split at h
 ·rename_i wi hwi
  have:=drawW_any hΓ hK hQ hwi hW0 hF0 h r m
  exact wpIn_region_any this.1 this.2
 ·exact drawy_sound hΓ hQ hW0 hF0 h r m
end Go.Sx
namespace Go.Sx
open Go Go.RowKit Go.Proofs.YtjjcgjkagokchaaGreatDoor
variable {P : Program} {G : Globs} {Γ : Specs} {K : Hand} {A : Gz -> Prop} {β : Nat -> Loc} {Z : Nat -> Prop} {Z0 : Gz} {w w0 : World} {F : List LV} {H : List Blk} {a : Act} {ds : List Deferred} {n : Nat}
def exOf:Ex->Exit
 | .normal=> .normal
 | .exit n=> .exit n
 | .ret=> .ret
structure DsOk (w0:aO) (Z0:Gz) (ds:aL0):Prop where
 new:∀D,markOf D∈ds->w0.heap.size<=D/\D∉Z0.mks
 nodup:ds.Nodup
def DsOk.nil {w0:aO}{Z0:Gz}:DsOk w0 Z0 []:=⟨λ_ h=>Ab,List.nodup_nil⟩
def SoundA (P:aR) (G:bb) (A:Gz->Prop) (c:bE) (t:aD->aE->T (Ex×List LV×List Blk)):Prop:=
 ∀(r:bn) (w0:aO) (Z0:Gz) (Z:aC->Prop) (β:aC->aL1) (F:aD) (H:aE) (a:bc) (w:aO) (ds:aL0) (Q:aMm->bc->aO->Prop) (x:Ex) (F':aD) (H':aE),
  A Z0->(r=aj\/noRF c=U)->DsOk w0 Z0 ds->RW G w0 Z0 Z β H w->RF ds β Z w (M H) F a->(t F H).all (λq=>q=(x,F',H'))->(∀ds' Z' β' a' w',DsOk w0 Z0 ds'->RW G w0 Z0 Z' β' H' w'->RF ds' β' Z' w' (M H') F' a'->Q (exOf x) a' w')->c.wpIn (fen r) 0 P Q a w
def AN (N:aC):Gz->Prop:=λz=>∀p,p∈z.gh->okV N p.1
abbrev Sound (P:aR) (G:bb):=SoundA P G<|AN 0
def loopsIn:bE->List Code
 | .seq a b=>loopsIn a++loopsIn b
 | .cond _ a b=>loopsIn a++loopsIn b
 | .block _ b=>loopsIn b
 | .loop b=>[b]
 | .scope b=>loopsIn b
 |_=>[]
def rangesIn:bE->List (Array Tmp×Code×Code)
 | .seq a b=>rangesIn a++rangesIn b
 | .cond _ a b=>rangesIn a++rangesIn b
 | .block _ b=>rangesIn b
 | .loop b=>rangesIn b
 | .rangeFunc _ ps a b=>[(ps,a,b)]
 | .scope b=>rangesIn b
 |_=>[]
def putObj_cell {w:aO}{D:aC}(h:MkAt w D) (o':Obj) {b o:aC}{z:aV}(hz:w.cell? ⟨b,o,aj⟩=ah z):(w.putObj D o').cell? ⟨b,o,aj⟩=ah z:=by
 have hne:b≠D:=by
  rintro rfl
  unfold MkAt at h
  simp [World.cell?,h] at hz
 rwa [cell_block<|J7 hne]
def RD.shut {D:aC}(h:MkAt w D) (o':Obj):∀(t:Ty) (d:t.D) (b o:aC),RD Z w t d b o->RD Z (w.putObj D o') t d b o
 | .int _,_,b,o,hh=>rS
 | .bool,_,b,o,hh=>rS
 | .str,_,b,o,hh=>rS
 | .sl e,l,b,o,hh=>by
  obtain ⟨a,cap,h1,h2,h3⟩:=hh;refine ⟨a,cap,putObj_cell h o' h1,h2,λhn=>?_⟩
  obtain ⟨b',o'',h4,h5,h6⟩:=h3 hn;exact ⟨b',o'',h4,h5,λi d hd=>RD.shut h o' e d b' _<|h6 i d hd⟩
 | .pair x y,d,b,o,hh=>by
  exact ⟨RD.shut h o' x d.1 b o hh.1,RD.shut h o' y d.2 b _ hh.2⟩
def putObj_ne {w:aO}{D:aC}(h:MkAt w D) (o':Obj) {b:aC}{x:Obj}(hx:w.heap[b]? =ah x) (hn:∀q,x≠ .deferred q):(w.putObj D o').heap[b]? =ah x:=by
 have hne:b≠D:=by
  rintro rfl
  rw [h] at hx
  grind
 rwa [J7 hne]
mutual
def R.shut {D:aC}(h:MkAt w D) (o':Obj):∀(x:LV) (y:aV),R β Z w x y->R β Z (w.putObj D o') x y
 | .v _,_,hh=>hh
 | .bl _,_,hh=>hh
 | .ki _ _,_,hh=>hh
 | .own k off,y,hh=>Qg
 | .agg l,y,hh=>by
  exact cz
 | .tup l,y,hh=>by
  exact cz
 | .fn f l,y,hh=>by
  exact cz
 | .fb f l,y,hh=>by
  exact cz
 | .xq n f,y,hh=>by
  simp only [R] at*;obtain ⟨b,off,h1,hz,h2⟩:=hh;refine ⟨b,off,h1,hz,λj hj=>?_⟩
  obtain ⟨z,h3,h4⟩:=h2 j hj;exact ⟨z,putObj_cell h o' h3,R.shut h o' (f j) z h4⟩
 | .xl e l,y,hh=>by
  simp only [R] at*;obtain ⟨a,cap,h1,h2,h3⟩:=hh;refine ⟨a,cap,h1,h2,λhn=>?_⟩
  obtain ⟨b,off,h4,h5,h6⟩:=h3 hn;exact ⟨b,off,h4,h5,λi d hd=>RD.shut h o' e d b _ (h6 i d hd)⟩
 | .os k es off n,y,hh=>Qg
 | .op k es i j,y,hh=>Qg
 | .om k,y,hh=>Qg
 | .mp kd ks vs,y,hh=>by
  simp only [R] at*;obtain ⟨r,es,clock,h1,h2,h3,h4,h5⟩:=hh;exact ⟨r,es,clock,h1,h2,putObj_ne h o' h3 (λ_ e=>OT),h4,RL.shut h o' vs _ h5⟩
 | .oc k es off n c,y,hh=>Qg
 | .yld k,y,hh=>Qg
 | .junk,_,_=>H0
def RL.shut {D:aC}(h:MkAt w D) (o':Obj):∀(x:aD) (y:aT),RL β Z w x y->RL β Z (w.putObj D o') x y
 | [],_,hh=>by simpa only [RL] using hh
 |x::xs,ys,hh=>by
  simp only [RL] at*;obtain ⟨y,zs,h1,h2,h3⟩:=hh;exact ⟨y,zs,h1,R.shut h o' x y h2,RL.shut h o' xs zs h3⟩
end
def BlkR.shut {D:aC}(h:MkAt w D) (o':Obj) {k:aC}{b:bx}(hh:BlkR β Z w k b):BlkR β Z (w.putObj D o') k b:=by
 unfold BlkR at*;cases hk:b.k with
 |cl=>
  simp only [hk] at hh|-;obtain ⟨cs,h1,h2⟩:=hh;exact ⟨cs,putObj_ne h o' h1 λ_ e=>OT,RL.shut h o' _ _ h2⟩
 | vec e l=>
  simp only [hk] at hh|-;cases hc:(β k).cap with
  |none=>simp only [hc] at hh|-;exact hh
  |some c=>
   simp only [hc] at hh|-;obtain ⟨cs,h1,h2,h3,h4⟩:=hh;exact ⟨cs,putObj_ne h o' h1 λ_ e=>OT,h2,h3,λi d hd=>RD.shut h o' e d _ _<|h4 i d hd⟩
 |mp kd ks vs=>
  simp only [hk] at hh|-;obtain ⟨es,clock,h1,h2,h3⟩:=hh;exact ⟨es,clock,putObj_ne h o' h1 λ_ e=>OT,h2,RL.shut h o' _ _ h3⟩
 |lrec ps asg body st=>
  simp only [hk] at hh|-;obtain ⟨r,h1,h2,h3,h4,h5,h6⟩:=hh;exact ⟨r,putObj_ne h o' h1 λ_ e=>OT,h2,h3,h4,h5,RL.shut h o' _ _ h6⟩
 |st e l=>
  simp only [hk] at hh|-;obtain ⟨es,clock,h1,h2,h3⟩:=hh;exact ⟨es,clock,putObj_ne h o' h1 λ_ e=>OT,h2,h3⟩
 |dead=>trivial
def putObj_size (w:aO) (D:aC) (o:Obj):(w.putObj D o).heap.size=w.heap.size:=AH
def MkAt.lt {w:aO}{D:aC}(h:MkAt w D):D<w.heap.size:=(Fp.1 h).1
def RW.shut (hW:RW G w0 Z0 Z β H w) {D:aC}(h:MkAt w D) (h0:w0.heap.size<=D) (hm:D∉Z0.mks) (o':Obj):RW G w0 Z0 Z β H (w.putObj D o'):=
 ⟨hW.below.trans ⟨rfl,rfl,rfl,cq (putObj_size _ _ _).symm,λi hi=>J7 A0⟩,λb hz=>by rw [putObj_size];exact hW.zlt b hz,hW.znew,hW.zown,hW.zpub,hW.low,hW.inj,
  λk b hb=>⟨(hW.blk k b hb).1.shut h o',(hW.blk k b hb).2⟩,λg n f hg=>⟨(hW.glob g n f hg).1,λj hj=>putObj_cell h o'<|(hW.glob g n f hg).2 j hj⟩,
  λp hp=>⟨R.shut h o' _ _ (hW.gh p hp).1,(hW.gh p hp).2⟩,λD' hD'=>⟨(hW.mks D' hD').1,by
   unfold MkAt;rw [J7 λe=>hm A8]
   exact (hW.mks D' hD').2⟩⟩
def leave_marks {fn:aL8}{R:Ending->aO->Prop}:∀(ds:aL0) (w:aO) (a:bc),RW G w0 Z0 Z β H w->RF ds β Z w n F a->DsOk w0 Z0 ds->
  (∀w' a',a'.tmps=a.tmps->RW G w0 Z0 Z β H w'->RF [] β Z w' n F a'->∃v,(results fn a.tmps).run P w'=.ok v w'/\R (.returned v) w')->LeavesInM Fence.wide 0 P fn a.tmps R ds .returning w
 | [],w,a,hW,hF,_,hR=>hR w {a with defers:=[]} rfl hW ⟨hF.size,hF.get,rfl,λ_ h=>Ab⟩
 |d::ds,w,a,hW,hF,hD,hR=>by
  obtain ⟨D,rfl,hz,hm⟩:=hF.defers.2 d AH;obtain ⟨n1,n2⟩:=hD.new D AH
  have nd:=J9.1 hD.nodup
  refine ⟨AH,.inl ⟨D,w.putObj D<|.deferred aj,rfl,run_takeDeferred hm,?_⟩⟩;refine leave_marks ds (w.putObj D<|.deferred aj) {a with defers:=ds} (hW.shut hm n1 n2 _) ⟨hF.size,λt x hx=>⟨Go.Sx.R.shut hm _ _ _ (hF.get t x hx).1,(hF.get t x hx).2⟩,rfl,λd hd=>?_⟩ ⟨λD' h'=>hD.new D' A8,nd.2⟩ λw' a' e=>hR w' a' e
  obtain ⟨D',e1,e2,e3⟩:=hF.defers.2 d A8;refine ⟨D',e1,e2,?_⟩;unfold MkAt
  rwa [J7 λe=>nd.1 A8]
def RF.RL (hF:RF ds β Z w n F a):RL β Z w F a.tmps.toList/\okL n F:=by
 refine ⟨RL.of_get (by simp [hF.size]) λi x hx=>?_,okL.of_get λi x hx=>(hF.get i x hx).2⟩
 have hi:i<a.tmps.size:=by rw [hF.size];exact (Ce.1 hx).1
 have:=(hF.get i x hx).1
 refine ⟨a.tmps[i],AH,?_⟩
 have e:a.tmps.getD i undef=a.tmps[i]:=EN
 rw [e] at this;exact this
def maskU_RL (us:aH) {ys:aT}(h:RL β Z w F ys) (hk:okL n F):RL β Z w (maskU us F) ys/\okL n (maskU us F):=by
 have hl:=RL.length h
 have at_:∀(i:aC) (x:LV),(maskU us F)[i]? =ah x->i<M F/\(x=.junk\/F[i]? =ah x):=λi x hx=>by
  simp only [maskU,CZ] at hx
  by_cases hi:i<M F
  ·simp only [q9 hi,Gx,Ac] at hx
   refine ⟨hi,?_⟩;split at hx
   ·right
    grind
   ·grind
  ·rw [VR A8] at hx
   cases hx
 refine ⟨RL.of_get (by simp [maskU,hl]) λi x hx=>?_,okL.of_get λi x hx=>?_⟩
 ·obtain ⟨hi,h1⟩:=at_ i x hx
  rcases h1 with rfl|h1
  ·exact ⟨ys[i]' A0,Cs _,H0⟩
  ·exact RL.get i x h h1
 ·obtain ⟨hi,h1⟩:=at_ i x hx
  rcases h1 with rfl|h1
  ·trivial
  ·exact okL.get i x hk h1
def leftBy_some {o:aMa}{x:Ex}(h:leftBy o=ah x):∃c t ps asg body,(o=ah ⟨c,t,.lrec ps asg body .ready,X⟩/\x=.normal)\/(o=ah ⟨c,t,.lrec ps asg body<|.done x,X⟩/\x≠ .normal):=by
 unfold leftBy at h;split at h
 ·rename_i c t ps asg body
  grind
 ·rename_i c t ps asg body y
  split at h
  ·cases h
  ·rename_i hn
   have:=DE h
   subst this
   grind
 ·cases h
def RW.turn {k:aC}{c:aD}{t t':aS}{ps:aMe}{asg body:bE}{st:LS}{nb:BK}{r':Loop}(hW:RW G w0 Z0 Z β H w) (hb:H[k]? =ah ⟨c,t,.lrec ps asg body st,X⟩)
  (hn:BlkR β Z (w.putObj (β k).b<|.loop r') k ⟨c,t',nb,X⟩) (hok:okB (M H) ⟨c,t',nb,X⟩):RW G w0 Z0 Z β (H.set k ⟨c,t',nb,X⟩) (w.putObj (β k).b<|.loop r')/\(∀b,Z b->(w.putObj (β k).b<|.loop r').heap[b]? =w.heap[b]?):=
 ⟨hW.set hb trivial rfl rfl hok (putObj_size _ _ _) ⟨rfl,rfl,rfl⟩ (λj hj=>J7 hj) hn,λb hz=>J7 λe=>hW.zown k _ hb trivial rfl (e▸hz)⟩
def nr_left {r:bn}{p q:aL}(h:r=aj\/(p&&q)=U):(r=aj\/p=U)/\(r=aj\/q=U):=by
 rcases h with h|h
 ·grind
 ·simp only [AS] at h
  grind
def stepR_scope {b:Frame}{k:List Item}{cs:List Frame}{c:bE}:step P (lone (b.atR a (.code (.scope c)::k)) cs w)=.next (lone (b.atR a (.code c::.inScope c::k)) cs w):=
 step_lone_go aKh
def stepR_inScope {b:Frame}{k:List Item}{cs:List Frame}{c:bE}:step P (lone (b.atR a (.inScope c::k)) cs w)=.next (lone (b.atR a k) cs w):=
 step_lone_go aKh
def wpIn_scope {E:Fence}{m:aC}{Q:aMm->bc->aO->Prop}{c:bE}(h:c.wpIn E m P (Exit.noGoto Q) a w):(Code.scope c).wpIn E m P Q a w:=by
 intro b k cs hro hb hr
 have h0:(lone (b.atR a (.code (.scope c)::k)) cs w).fenced P E:=fenced_calm hb hr rfl
 obtain ⟨e,a₁,w₁,hq,harr⟩:=h b (.inScope c::k) cs hro hb hr;cases e with
 |normal=>exact ⟨.normal,a₁,w₁,hq,.head h0 stepR_scope<|StepsIn.trans harr<|.one (fenced_calm hb hr rfl) stepR_inScope⟩
 | exit id'=>
  have hx:exitTo id' (.inScope c::k)=exitTo id' k:=by simp [exitTo]
  exact ⟨.exit id',a₁,w₁,hq,λk' hk=> .head h0 stepR_scope<|harr.1 k' A8,
   λhr' hk=>let ⟨k₁,h1,h2⟩:=harr.2 hr' A8;⟨k₁,h1,.head h0 stepR_scope h2⟩⟩
 |goto l=>exact hq.elim
 |ret=>exact ⟨_,a₁,w₁,hq,.of_steps (.one h0 stepR_scope) harr⟩
 |panic ch=>exact ⟨_,a₁,w₁,hq,.of_steps (.one h0 stepR_scope) harr⟩
 |outgrown=>exact ⟨_,a₁,w₁,hq,.of_steps (.one h0 stepR_scope) harr⟩
def code_soundA {L:LoopC} (hΓ:∀g S,Γ g=ah S->Valid P G g S) (hK:KSound P G K):∀(c:bE),(∀b∈loopsIn c,SoundA P G A (.loop b)<|L b)->SoundA P G A c (codex P G Γ K L c)
 | .skip,_=>λr w0 Z0 Z β F H a w ds Q x F' H' hA hr hD hW hF h hQ=>by
  simp only [codex,T.all,Ai] at h;obtain ⟨rfl,rfl,rfl⟩:=h;exact wpIn_skip (hQ ds Z β a w hD hW hF)
 | .ret,_=>λr w0 Z0 Z β F H a w ds Q x F' H' hA hr hD hW hF h hQ=>by
  simp only [codex,T.all,Ai] at h;obtain ⟨rfl,rfl,rfl⟩:=h;exact wpIn_ret (hQ ds Z β a w hD hW hF)
 | .exit m,_=>λr w0 Z0 Z β F H a w ds Q x F' H' hA hr hD hW hF h hQ=>by
  simp only [codex,T.all,Ai] at h;obtain ⟨rfl,rfl,rfl⟩:=h;exact wpIn_exit (hQ ds Z β a w hD hW hF)
 | .region id ops d,_=>λr w0 Z0 Z β F H a w ds Q x F' H' hA hr hD hW hF h hQ=>by
  simp only [codex] at h;obtain ⟨⟨F1,H1⟩,h1,h2⟩:=T.bind_all h;simp only [T.all,Ai] at h2;obtain ⟨rfl,rfl,rfl⟩:=h2;cases d with
  |true=>exact drawv_sound hΓ hK (λZ' β' a' w' e1 e2=>hQ ds Z' β' a' w' hD e1 e2) hW hF h1 r 0
  |false=>exact reg_sound hΓ hK (λZ' β' a' w' e1 e2=>hQ ds Z' β' a' w' hD e1 e2) hW hF h1 r 0
 | .seq c1 c2,hl=>λr w0 Z0 Z β F H a w ds Q x F' H' hA hr hD hW hF h hQ=>by
  simp only [codex] at h;obtain ⟨⟨y,F1,H1⟩,h1,h2⟩:=T.bind_all h;obtain ⟨hr1,hr2⟩:=nr_left (show r=aj\/(noRF c1&&noRF c2)=U from hr);refine wpIn_seq<|code_soundA hΓ hK c1 (λb hb=>hl b OO) r w0 Z0 Z β F H a w ds _ y F1 H1 hA hr1 hD hW hF h1 λds' Z' β' a' w' e0 e1 e2=>?_
  cases y with
  |normal=>exact code_soundA hΓ hK c2 (λb hb=>hl b OO) r w0 Z0 Z' β' F1 H1 a' w' ds' Q x F' H' hA hr2 e0 e1 e2 h2 hQ
  |exit m=>
   simp only [T.all,Ai] at h2;obtain ⟨rfl,rfl,rfl⟩:=h2;exact hQ ds' Z' β' a' w' e0 e1 e2
  |ret=>
   simp only [T.all,Ai] at h2;obtain ⟨rfl,rfl,rfl⟩:=h2;exact hQ ds' Z' β' a' w' e0 e1 e2
 | .cond c c1 c2,hl=>λr w0 Z0 Z β F H a w ds Q x F' H' hA hr hD hW hF h hQ=>by
  have s1:=code_soundA hΓ hK c1 λb hb=>hl b OO
  have s2:=code_soundA hΓ hK c2 λb hb=>hl b OO
  obtain ⟨hr1,hr2⟩:=nr_left (show r=aj\/(noRF c1&&noRF c2)=U from hr);simp only [codex] at h;split at h
  ·rename_i d
   split at h
   ·rename_i hb
    obtain ⟨q1,q2⟩:=hF.slot hb AH
    have hv:=(hF.get d _ q1).1
    simp only [R] at hv;exact wpIn_cond_true rW<|s1 r w0 Z0 Z β F H a w ds Q x F' H' hA hr1 hD hW hF h hQ
   ·rename_i hb
    obtain ⟨q1,q2⟩:=hF.slot hb AH
    have hv:=(hF.get d _ q1).1
    simp only [R] at hv;exact wpIn_cond_false rW<|s2 r w0 Z0 Z β F H a w ds Q x F' H' hA hr2 hD hW hF h hQ
   ·rename_i g hb
    obtain ⟨q1,q2⟩:=hF.slot hb AH
    have hv:=(hF.get d _ q1).1
    simp only [R] at hv
    have kn:∀b,g=b->RF ds β Z w H.length (F.set d<|.bl b) a:=λb e=>hF.know dZ trivial
    simp only [T.all] at h;refine wpIn_cond_split (t:=g) rW (λhg=>s1 r w0 Z0 Z β _ H a w ds Q x F' H' hA hr1 hD hW (kn U hg) (h.1 hg) hQ) λhg=>s2 r w0 Z0 Z β _ H a w ds Q x F' H' hA hr2 hD hW (kn X hg) (h.2 hg) hQ
   ·cases h
  ·exact wpIn_cond_true rfl<|s1 r w0 Z0 Z β F H a w ds Q x F' H' hA hr1 hD hW hF h hQ
  ·exact wpIn_cond_false rfl<|s2 r w0 Z0 Z β F H a w ds Q x F' H' hA hr2 hD hW hF h hQ
  ·cases h
 | .block id c,hl=>λr w0 Z0 Z β F H a w ds Q x F' H' hA hr hD hW hF h hQ=>by
  simp only [codex] at h;obtain ⟨⟨y,F1,H1⟩,h1,h2⟩:=T.bind_all h;refine wpIn_block<|code_soundA hΓ hK c (λb hb=>hl b aKg) r w0 Z0 Z β F H a w ds _ y F1 H1 hA hr hD hW hF h1 λds' Z' β' a' w' e0 e1 e2=>?_
  cases y with
  |normal=>
   simp only [T.all,Ai] at h2;obtain ⟨rfl,rfl,rfl⟩:=h2;exact hQ ds' Z' β' a' w' e0 e1 e2
  | exit m=>
   simp only at h2;simp only [exOf,Exit.inBlock];split at h2
   ·rename_i hm
    simp only [T.all,Ai] at h2;obtain ⟨rfl,rfl,rfl⟩:=h2;rw [AD hm];exact hQ ds' Z' β' a' w' e0 e1 e2
   ·rename_i hm
    simp only [T.all,Ai] at h2;obtain ⟨rfl,rfl,rfl⟩:=h2;rw [AE hm];exact hQ ds' Z' β' a' w' e0 e1 e2
  |ret=>
   simp only [T.all,Ai] at h2;obtain ⟨rfl,rfl,rfl⟩:=h2;exact hQ ds' Z' β' a' w' e0 e1 e2
 | .loop b,hl=>hl b (by simp [loopsIn])
 | .rangeFunc g ps asg body,_=>λr w0 Z0 Z β F H a w ds Q x F' H' hA hr hD hW hF h hQ=>by
  have hr0:r=none:=by
   rcases hr with h|h
   ·exact h
   ·simp [noRF] at h
  subst hr0;simp only [codex] at h;split at h
  ·rename_i gf cap hg
   split at h
   ·rename_i fn hfn
    split at h
    ·rename_i hb
     simp only [AS,C8] at hb;obtain ⟨⟨lv,H1⟩,h1,h2⟩:=T.bind_all h;simp only at h2
     have hgr:=hF.eval hW.glob g
     rw [hg] at hgr;simp only [R,okV] at hgr;obtain ⟨⟨ys,hy,hyr⟩,hcap⟩:=hgr;split at h2
     ·rename_i x' hx'
      simp only [T.all,Ai] at h2;obtain ⟨rfl,rfl,rfl⟩:=h2;refine wpIn_rangeFunc ?_;intro fn0 _
      have hb1:Below w.heap.size w (w.alloc<|.deferred<|ah []):=(Below.refl _ _).alloc (Ar _) _
      have hWd:=hW.call hb1
      generalize hrec:({state:=.ready,pending:=aj,fn:=fn0,tmps:=a.tmps,params:=ps,assign:=asg,body:=body,defers:=w.heap.size}:Loop)=rec0 at*;generalize hwd:w.alloc (.deferred<|ah [])=wd at*
      have hsd:wd.heap.size=w.heap.size+1:=by rw [<-hwd];simp [World.size_alloc]
      have hmd:MkAt wd w.heap.size:=by rw [<-hwd];exact World.alloc_heap_new w _
      have hb2:Below wd.heap.size wd (wd.alloc<|.loop rec0):=(Below.refl _ _).alloc (Ar _) _
      have hW1:=hWd.same hb2
      generalize hw1:wd.alloc (.loop rec0)=w1 at*
      have hl1:w1.heap[wd.heap.size]? =ah (.loop rec0):=by rw [<-hw1];exact World.alloc_heap_new wd _
      have hF1:RF ds β (λb=>Z b\/(w.heap.size<=b/\b<wd.heap.size)) w1 H.length F a:=hF.mono (Ar _) (λ_ _=>rfl) (λ_ h=> .inl h) (λb hz=>by
       have hlt:=hW.zlt b hz
       rw [below_block hb2 A0,below_block hb1 hlt])
      have hm1:MkAt w1 w.heap.size:=by unfold MkAt;rw [below_block hb2 A0];exact hmd
      have hF2:RF (markOf w.heap.size::ds) β (λb=>Z b\/(w.heap.size<=b/\b<wd.heap.size)) w1 H.length F {a with defers:=markOf w.heap.size::a.defers}:=by
       refine ⟨hF1.size,hF1.get,by rw [hF1.defers.1],λd hd=>?_⟩
       rcases Ak.1 hd with rfl|hd
       ·exact ⟨_,rfl,.inr ⟨Ar _,A0⟩,hm1⟩
       ·exact hF1.defers.2 d hd
      have hD2:DsOk w0 Z0 (markOf w.heap.size::ds):=by
       refine ⟨λD hd=>?_,J9.2 ⟨λhd=>?_,hD.nodup⟩⟩
       ·rcases Ak.1 hd with hd|hd
        ·simp only [markOf,Deferred.mk.injEq,Target.collected.injEq] at hd
         rw [hd.1];exact ⟨hW.below.size,λhm=>by have:=(hW.mks _ hm).2.lt;omega⟩
        ·exact hD.new D hd
       ·obtain ⟨D,e1,_,e3⟩:=hF.defers.2 _ hd
        simp only [markOf,Deferred.mk.injEq,Target.collected.injEq] at e1
        have:=e3.lt
        omega
      obtain ⟨fr1,fr2⟩:=hF1.RL;obtain ⟨fr1,fr2⟩:=maskU_RL (usedT asg++usedT body) fr1 fr2
      obtain ⟨β2,b1,b2,hW2⟩:=hW1.adopt (ℓ:=⟨wd.heap.size,0,aj⟩) (nb:=⟨maskU (usedT asg++usedT body) F,0,.lrec ps asg body .ready,X⟩) rfl ⟨okL.mono A0 _ fr2,ak⟩ (λ_=>⟨λhz=>by
        rcases hz with hz|hz
        ·have:=hW.zlt _ hz;simp only at this;omega
        ·simp only at hz;omega,by have:=hW.below.size;simp only;omega,λj bj hj lj e=>OQ⟩) (λβ' q1 q2=>by
       simp only [BlkR,q2];refine ⟨rec0,hl1,sT,sT,sT,by rw [<-hrec];exact A9,?_⟩
       rw [<-hrec];exact RL.mono q1 (λ_ h=>h) (λ_ _=>rfl) _ _ fr2 fr1)
      have hF3:RF (markOf w.heap.size::ds) β2 (λb=>Z b\/(w.heap.size<=b/\b<wd.heap.size)) w1 (H++[(⟨maskU (usedT asg++usedT body) F,0,.lrec ps asg body .ready,X⟩:bx)]).length F {a with defers:=markOf w.heap.size::a.defers}:=hF2.mono AH b1 (λ_ h=>h) λ_ _=>rfl
      have hW3:=hW2.hold hF3
      have hyl:R β2 (λb=>Z b\/(w.heap.size<=b/\b<wd.heap.size)) w1 (.yld H.length) (.func (.yield wd.heap.size) #[] #[]):=by simp only [R,b2]
      have hW4:RW G w0 ⟨Z0.z,(LV.yld H.length,Value.func (.yield wd.heap.size) #[] #[])::(F.zip a.tmps.toList++Z0.gh),dsB (markOf w.heap.size::ds)++Z0.mks⟩ (λb=>Z b\/(w.heap.size<=b/\b<wd.heap.size)) β2 (H++[⟨maskU (usedT asg++usedT body) F,0,.lrec ps asg body .ready,X⟩]) w1:=
       ⟨hW3.below,hW3.zlt,hW3.znew,hW3.zown,hW3.zpub,hW3.low,hW3.inj,hW3.blk,hW3.glob,λp hp=>by
        rcases Ak.1 hp with rfl|hp
        ·exact ⟨hyl,IU⟩
        ·exact hW3.gh p hp,hW3.mks⟩
      have hyr2:RL β2 (λb=>Z b\/(w.heap.size<=b/\b<wd.heap.size)) w1 cap ys.toList:=RL.mono (n:=H.length) b1 (λ_ h=> .inl h) (λb hz=>by
       have hlt:=hW.zlt b hz
       rw [below_block hb2 A0,below_block hb1 hlt]) _ _ hcap hyr
      have hbn:¬fn.body=none:=by intro hbb;simp [hbb] at hb
      have hb3:¬fn.name= "runtime.NumGoroutine":=by simpa using hb.2
      have eg:∀args w,(callFunc gf args).run P w=.ok (.enter gf args) w:=λargs w=>by simp [callFunc,hfn,hb3,hbn]
      refine ⟨wd.heap.size,[markOf w.heap.size],w1,{target:=.fn (.func gf) ys,args:=#[.func (.yield wd.heap.size) #[] #[]]},w1,gf,#[.func (.yield wd.heap.size) #[] #[]]++ys,w1,?_,?_,λ_ _=>trivial,?_,λh=>Ab,QU.2 ?_⟩
      ·have:=run_enterLoop_outer (P:=P) (w:=w) fn0 a.tmps ps asg body
       rw [hrec,hwd,hw1,<-hsd] at this;exact this
      ·simp only [resolve,hy]
       simp [go_sem]
      ·simp [invoke,go_sem,eg]
      ·refine (hK.k w0 _ _ β2 _ w1 gf (.yld H.length::cap) _ lv H1 hW4 (by simp only [pz,RL];exact ⟨_,ys.toList,rfl,hyl,hyr2⟩) ⟨IU,okL.mono AH _ hcap⟩ h1).mono λe w2 ⟨v,he,Z',β',r1,r2,r3⟩=>?_
       subst he
       have hat:(β' H.length).b=wd.heap.size:=by
        have:=(r1.gh (LV.yld H.length,Value.func (.yield wd.heap.size) #[] #[]) AH).1
        exact aIM
       have r1':RW G w0 ⟨Z0.z,F.zip a.tmps.toList++Z0.gh,dsB (markOf w.heap.size::ds)++Z0.mks⟩ Z' β' H1 w2:=⟨r1.below,r1.zlt,r1.znew,r1.zown,r1.zpub,r1.low,r1.inj,r1.blk,r1.glob,λp hp=>r1.gh p<|O9 _ hp,r1.mks⟩
       have hF5:=RW.held hF3 r1'
       have hW5:RW G w0 Z0 Z' β' H1 w2:=r1'.less
       obtain ⟨c',t',ps',asg',body',hx⟩:=leftBy_some hx'
       have fin:∀st,H1[H.length]? =ah ⟨c',t',.lrec ps' asg' body' st,X⟩->∃rr,w2.heap[wd.heap.size]? =ah (.loop rr)/\LsR st rr/\∀rr',RW G w0 Z0 Z' β' (H1.set H.length ⟨[],0,.dead,X⟩) (w2.putObj wd.heap.size<|.loop rr')/\RF (markOf w.heap.size::ds) β' Z' (w2.putObj wd.heap.size<|.loop rr') (H1.set H.length ⟨[],0,.dead,X⟩).length F {a with defers:=markOf w.heap.size::a.defers}:=λst hst=>by
        have hbk:=(hW5.blk _ _ hst).1
        simp only [BlkR,hat] at hbk;obtain ⟨rr,q1,q2,q3,q4,q5,q6⟩:=hbk;refine ⟨rr,q1,q5,λrr'=>?_⟩
        have hs:=hW5.set (nb:=⟨[],0,.dead,X⟩) (w':=w2.putObj wd.heap.size<|.loop rr') hst trivial rfl rfl ⟨ak,ak⟩ (putObj_size _ _ _) ⟨rfl,rfl,rfl⟩ (λj hj=>J7 (by rw [hat] at hj;exact hj)) trivial
        refine ⟨hs,?_⟩;rw [BR];exact hF5.mono (Ar _) (λ_ _=>rfl) (λ_ h=>h) λb hz=>J7 λe=>hW5.zown _ _ hst trivial rfl (by rw [hat,<-e];exact hz)
       rcases hx with ⟨hx,rfl⟩ |⟨hx,hne⟩
       ·obtain ⟨rr,q1,q2,q3⟩:=fin _ hx
        refine ⟨aj,w2.putObj wd.heap.size<|.loop {rr with state:=.exhausted},(run_endLoop q1 (by rw [q2.1];simp)).trans<|by rw [q2.2],?_⟩
        obtain ⟨f1,f2⟩:=q3 {rr with state:=.exhausted}
        exact hQ _ Z' β' _ _ hD2 f1 f2
       ·obtain ⟨rr,q1,q2,q3⟩:=fin _ hx
        refine ⟨exCode x',w2.putObj wd.heap.size<|.loop {rr with state:=.exhausted},(run_endLoop q1 (by rw [q2.1];simp)).trans<|by rw [q2.2],?_⟩
        obtain ⟨f1,f2⟩:=q3 {rr with state:=.exhausted}
        cases x' with
        |normal=>exact absurd rfl hne
        |exit m=>exact wpIn_exit (hQ _ Z' β' _ _ hD2 f1 f2)
        |ret=>exact wpIn_ret<|hQ _ Z' β' _ _ hD2 f1 f2
     ·cases h2
    ·cases h
   ·cases h
  ·cases h
 | .scope c,hl=>λr w0 Z0 Z β F H a w ds Q x F' H' hA hr hD hW hF h hQ=>by
  simp only [codex] at h;refine wpIn_scope<|code_soundA hΓ hK c (λb hb=>hl b aKg) r w0 Z0 Z β F H a w ds _ x F' H' hA hr hD hW hF h λds' Z' β' a' w' e0 e1 e2=>?_
  cases x with
  |normal=>exact hQ ds' Z' β' a' w' e0 e1 e2
  |exit m=>exact hQ ds' Z' β' a' w' e0 e1 e2
  |ret=>exact hQ ds' Z' β' a' w' e0 e1 e2
 | .label l,_=>λr w0 Z0 Z β F H a w ds Q x F' H' hA hr hD hW hF h hQ=>by
  simp only [codex,T.all,Ai] at h;obtain ⟨rfl,rfl,rfl⟩:=h;exact wpIn_label (hQ ds Z β a w hD hW hF)
 | .goto ..,_=>λr w0 Z0 Z β F H a w ds Q x F' H' hA hr hD hW hF h hQ=>aKw
 | .refuse ..,_=>λr w0 Z0 Z β F H a w ds Q x F' H' hA hr hD hW hF h hQ=>aKw
def code_sound {L:aMs}(hΓ:∀g S,Γ g=ah S->Valid P G g S) (hK:KSound P G K) (c:bE) (hl:∀b∈loopsIn c,Sound P G (.loop b)<|L<|firstR b):Sound P G c (codex P G Γ K (byId L) c):=code_soundA (L:=byId L) hΓ hK c hl
def resF (a:bc):ResultVar->Sem Value
 | .tmp t=>pure (a.tmps.getD t undef)
 | .cell ad t=>do loadVar t (←asAddr (a.tmps.getD ad undef))
def resF_eq (fn:aL8) (a:bc):results fn a.tmps=(do let vs ←fn.results.mapM (resF a);pure (if h:vs.size=1 then vs[0] else .tuple vs)):=by
 congr 1
def mapM_step {f:ResultVar->Sem Value}{r:ResultVar}{rs:aMp}{z:aV}{vs:aT}(h1:(f r).run P w=.ok z w) (h2:(rs.mapM f).run P w=.ok vs w):((r::rs).mapM f).run P w=.ok (z::vs) w:=by
 simp_all
def resx_sound {fn:aL8}:∀(rs:aMp) (l:aD),RW G w0 Z0 Z β H w->RF ds β Z w (M H) F a->(resx P fn F H rs).all (λq=>q=l)->
  ∃vs:aT,(rs.mapM<|resF a).run P w=.ok vs w/\RL β Z w l vs/\okL (M H) l
 | [],l,hW,hF,h=>by
  subst h;exact ⟨[],AH,W8,ak⟩
 | .tmp t::rs,l,hW,hF,h=>by
  obtain ⟨l1,h1,h2⟩:=T.bind_all h;obtain ⟨vs,e1,e2,e3⟩:=resx_sound rs l1 hW hF h1
  have ev:=hF.eval hW.glob<|.tmp t
  refine ⟨a.tmps.getD t undef::vs,?_,?_,?_⟩
  ·exact mapM_step rfl e1
  ·rw [<-h2];simp only [RL];exact ⟨_,_,rfl,norm_R ev.1,e2⟩
  ·rw [<-h2];exact ⟨norm_ok ev.2,e3⟩
 | .cell ad t::rs,l,hW,hF,h=>by
  obtain ⟨y,h1,h2⟩:=T.bind_all h;obtain ⟨l1,h3,h4⟩:=T.bind_all h2;obtain ⟨vs,e1,e2,e3⟩:=resx_sound rs l1 hW hF h3
  have ev:=hF.eval hW.glob<|.tmp ad
  simp only [evalL,Act.eval] at ev;obtain ⟨z,f1,f2,f3⟩:=loadL_sound hW h1 ev.1 ev.2
  have f1:=f1 w λ_ _=>rfl
  have f4:(do loadVar t (←asAddr (a.tmps.getD ad undef)):Sem Value).run P w=.ok z w:=by
   have hp:∃q,a.tmps.getD ad undef=.pointer (ah q):=by
    have hr:=ev.1
    generalize hx:F.getD ad .junk=x at h1 hr;cases x with
    |own k off=>simp only [R] at hr;exact ⟨_,hr⟩
    |xq n f=>simp only [R] at hr;obtain ⟨b,off,e,_⟩:=hr;exact ⟨_,e⟩
    |op k es i j=>simp only [R] at hr;exact ⟨_,hr.2⟩
    |_=>unfold loadL at h1;split at h1<;>simp only [T.all] at h1
   obtain ⟨q,hq⟩:=hp;rw [hq] at f1|-
   simpa [Instr.loadAt,Instr.sureAddr,asAddr] using f1
  refine ⟨z::vs,?_,?_,?_⟩
  ·exact mapM_step f4 e1
  ·rw [<-h4];simp only [RL];exact ⟨_,_,rfl,f2,e2⟩
  ·rw [<-h4];exact ⟨f3,e3⟩
def one_R {l:aD}{vs:aT}(h:RL β Z w l vs):R β Z w (one l) (if hs:vs.toArray.size=1 then vs.toArray[0] else .tuple vs.toArray):=by
 unfold one
 have hl:=RL.length h
 split
 ·rename_i x
  obtain ⟨y,zs,e1,e2,e3⟩:=h
  grind
 ·rename_i hne
  have:¬vs.toArray.size=1:=by
   intro h1
   simp at h1
   rw [h1] at hl;cases l with
   |nil=>simp at hl
   |cons x xs=>cases xs with
    |nil=>exact hne x rfl
    |cons _ _=>simp at hl
  rw [dif_neg this];exact mkTup_R A8
def one_ok {l:aD}(h:okL n l):okV n (one l):=by
 unfold one;split
 ·exact h.1
 ·exact mkTup_ok h
def frame_args {args:aD}{vals:aW}(hr:RL β Z w args vals.toList) (hok:okL (M H) args) (m:aC):RF [] β Z w (M H) (args++aq (m-M args) (.v undef)) {tmps:=vals++Array.replicate (m-vals.size) undef,defers:=[]}:=by
 have hlen:vals.size=M args:=aJq
 refine ⟨A8,λt x hx=>?_,rfl,λ_ h=>Ab⟩
 by_cases ht:t<M args
 ·rw [FI ht] at hx
  obtain ⟨y,e1,e2⟩:=RL.get _ _ hr hx
  have e3:(vals++Array.replicate (m-vals.size) undef).getD t undef=y:=by
   have hts:t<vals.size:=A0
   have:vals[t]? =ah y:=A8
   rw [cC,qK hts,this];rfl
  exact ⟨A8,okL.get _ _ hok hx⟩
 ·rw [EK A0] at hx
  have hx':x=.v undef:=by
   rw [cU] at hx;split at hx
   ·grind
   ·cases hx
  have e3:(vals++Array.replicate (m-vals.size) undef).getD t undef=undef:=by
   rw [cC,Array.getElem?_append_right A0,Array.getElem?_replicate]
   grind
  rw [hx',e3];exact ⟨H0,ak⟩
def noLoopC_sound {b:bE}:SoundA P G A (.loop b) (noLoopC b):=λ_ _ _ _ _ _ _ _ _ _ _ _ _ _ _ _ _ _ _ h=>Ab
def unroll_sound {b:bE}{t:aD->aE->T (Ex×List LV×List Blk)}(hb:SoundA P G A b t) (m:aC):SoundA P G A (.loop b) (unroll t m):=by
 intro r w0 Z0 Z β F H a w ds Q x F' H' hA hr hD hW hF h hQ;refine wpIn_loop_rounds m ?_
 induction m generalizing Z β F H a w ds with
 |zero=>cases h
 | succ m ih=>
  obtain ⟨⟨y,F1,H1⟩,h1,h2⟩:=T.bind_all h;refine hb r w0 Z0 Z β F H a w ds _ y F1 H1 hA hr hD hW hF h1 λds' Z' β' a' w' e0 e1 e2=>?_
  cases y with
  |normal=>exact ih Z' β' F1 H1 a' w' ds' e0 e1 e2 h2
  |exit k=>
   obtain ⟨rfl,rfl,rfl⟩:=h2;exact hQ ds' Z' β' a' w' e0 e1 e2
  |ret=>
   obtain ⟨rfl,rfl,rfl⟩:=h2;exact hQ ds' Z' β' a' w' e0 e1 e2
def unrC_sound (hΓ:∀g S,Γ g=ah S->Valid P G g S) (hK:KSound P G K) (m:aC):∀(d:aC) (b:bE),SoundA P G A (.loop b) (unrC P G Γ K m d b)
 |0,_=>noLoopC_sound
 |d+1,b=>unroll_sound (code_soundA hΓ hK b λb' _=>unrC_sound hΓ hK m d b') m
def setPs_RF:∀(ts:List Tmp) (xs:aD) (vs:aT) (F:aD) (a:bc),RF ds β Z w n F a->RL β Z w xs vs->okL n xs->RF ds β Z w n (setPs F ts xs) {a with tmps:=(ts.zip vs).foldl (λt (p,v)=>t.setIfInBounds p v) a.tmps}
 | [],_,_,F,a,hF,_,_=>by simpa [setPs] using hF
 |_::_,[],vs,F,a,hF,hr,_=>by
  subst hr
  simpa [setPs] using hF
 |t::ts,x::xs,vs,F,a,hF,hr,hk=>by
  obtain ⟨y,zs,rfl,h1,h2⟩:=hr;exact setPs_RF ts xs zs (F.set t x) {a with tmps:=a.tmps.setIfInBounds t y} (hF.put h1 hk.1<|ah t) h2 hk.2
def zip_fold (ps:aMe) (vs:aW) (t:aW):(ps.zip vs).foldl (λt (p,v)=>t.setIfInBounds p v) t=(ps.toList.zip vs.toList).foldl (λt (p,v)=>t.setIfInBounds p v) t:=by
 rw [<-Array.foldl_toList,Array.toList_zip]
def LLok (P:aR) (G:bb) (LL:aL3):Prop:=∀(K:aMf) (g:bg) (fn:aL8) (c:bE) (N:aC) (b:bE),KSound P G K->P.funcs[g]? =ah fn->fn.body=ah c->b∈loopsIn c->SoundA P G (AN N) (.loop b) (LL K g N b)
def RW.ghost {p:LV×Value}(hW:RW G w0 Z0 Z β H w) (h:R β Z w p.1 p.2/\okV (M H) p.1):RW G w0 ⟨Z0.z,p::Z0.gh,Z0.mks⟩ Z β H w:=
 ⟨hW.below,hW.zlt,hW.znew,hW.zown,hW.zpub,hW.low,hW.inj,hW.blk,hW.glob,λq hq=>by
  rcases Ak.1 hq with rfl|hq
  ·exact h
  ·exact hW.gh q hq,hW.mks⟩
def RW.unghost {p:LV×Value}(hW:RW G w0 ⟨Z0.z,p::Z0.gh,Z0.mks⟩ Z β H w):RW G w0 Z0 Z β H w:=
 ⟨hW.below,hW.zlt,hW.znew,hW.zown,hW.zpub,hW.low,hW.inj,hW.blk,hW.glob,λq hq=>hW.gh q<|O9 _ hq,hW.mks⟩
def stepH_sound {LL:aL3} {K:aMf} (hΓ:∀g S,Γ g=ah S->Valid P G g S) (hLL:LLok P G LL) (hK:KSound P G K):KSound P G (stepH P G Γ LL K):=by
  refine ⟨λw0 Z0 Z β H w g args vals lv H' hW hr hok h=>?_,λw0 Z0 Z β H w k args vals lv H' hW hr hok h=>?_⟩
  ·simp only [stepH] at h
   split at h
   ·rename_i fn hfn
    split at h
    ·rename_i c hc
     obtain ⟨⟨x,F1,H1⟩,h1,h2⟩:=T.bind_all h;refine QU.1<|callsIn_of_wp_marks (n:=0) hfn hc trivial ?_;refine code_soundA (A:=AN<|M H) (L:=LL K g<|M H) hΓ hK c (λb hb=>hLL _ g fn c (M H) b hK hfn hc hb) aj w0 Z0 Z β _ H _ w [] _ x F1 H1 (λp hp=>(hW.gh p hp).2) (.inl rfl) DsOk.nil hW (frame_args hr hok fn.ntmps) h1 λds' Z' β' a' w' e0 e1 e2=>?_
     have fin:((resx P fn F1 H1 fn.results.toList).bind λl=>(T.ok (one l,H1):T<|LV×List Blk)).all (λq=>q=(lv,H'))->LeavesInM Fence.wide 0 P fn a'.tmps (λe w'=>∃v,e=.returned v/\∃Z' β',RW G w0 Z0 Z' β' H' w'/\R β' Z' w' lv v/\okV (M H') lv) a'.defers .returning w':=λh2=>by
      rw [e2.defers.1];refine leave_marks ds' w' a' e1 e2 e0 λw'' a'' et f1 f2=>?_
      obtain ⟨l,g1,g2⟩:=T.bind_all h2;simp only [T.all,Ai] at g2;obtain ⟨g2,g3⟩:=g2;subst g3;obtain ⟨vs,g3,g4,g5⟩:=resx_sound fn.results.toList l f1 f2 g1;refine ⟨if hs:vs.toArray.size=1 then vs.toArray[0] else .tuple vs.toArray,?_,_,rfl,Z',β',f1,?_,?_⟩
      ·exact rD
      ·rw [<-g2];exact one_R g4
      ·rw [<-g2];exact one_ok g5
     cases x with
     |normal=>exact fin h2
     |ret=>exact fin h2
     |exit m=>cases h2
    ·cases h
   ·cases h
  ·simp only [stepH] at h
   split at h
   ·rename_i Fr t ps asg body hb
    split at h
    ·rename_i hc
     obtain ⟨hc1,hc2,hc3⟩:=hc;obtain ⟨⟨y,F1,H1⟩,h1,h2⟩:=T.bind_all h
     have hbk:=(hW.blk k _ hb).1
     simp only [BlkR] at hbk;obtain ⟨rr,q1,q2,q3,q4,q5,q6⟩:=hbk
     have hokF:okL (M H) Fr:=(hW.blk k _ hb).2.1
     have hvl:vals.size=M args:=aJq
     have hkH:k<M H:=(Ce.1 hb).1
     refine ⟨rr,q1,by rw [q2,hvl,hc1],?_⟩
     have hF0:RF [] β Z w (M H) Fr {tmps:=rr.tmps,defers:=[]}:=by
      refine ⟨by have:=RL.length q6;simpa using this,λi x hx=>?_,rfl,λ_ h=>Ab⟩
      obtain ⟨v,e1,e2⟩:=RL.get i x q6 hx;refine ⟨?_,okL.get i x hokF hx⟩
      have:rr.tmps.getD i undef=v:=by
       rw [cC]
       have:rr.tmps[i]? =ah v:=by simpa using e1
       rw [this];rfl
      rw [this];exact e2
     have hF1:=setPs_RF ps.toList args vals.toList Fr _ hF0 hr hok
     generalize hl:(β k).b=l at*
     have hyl:R β Z w (.yld k) (.func (.yield l) #[] #[]):=by simp only [R,hl]
     have hW1:=hW.ghost (p:=(LV.yld k,Value.func (.yield l) #[] #[])) ⟨hyl,hkH⟩
     have atl:∀ {Z':aC->Prop} {β':aC->aL1} {H':aE} {w':aO},RW G w0 ⟨Z0.z,(LV.yld k,Value.func (.yield l) #[] #[])::Z0.gh,Z0.mks⟩ Z' β' H' w'->(β' k).b=l:=λr1=>by
      have:=(r1.gh (LV.yld k,Value.func (.yield l) #[] #[]) AH).1
      exact aIM
     refine roundIn_of_wpIn trivial ?_;rw [q3,q4,q2,zip_fold];refine code_soundA (A:=λ_=>True) (L:=noLoopC) hΓ hK asg (λb _=>noLoopC_sound) (ah l) w0 _ Z β _ H _ w [] _ y F1 H1 trivial (.inr hc2) DsOk.nil hW1 hF1 h1 λds1 Z1 β1 a1 w1 e0 e1 e2=>?_
     simp only at h2;cases y with
     |exit m=>cases h2
     |ret=>cases h2
     | normal=>
      simp only at h2;split at h2
      ·rename_i Fr1 t1 ps1 asg1 body1 hb1
       obtain ⟨⟨x,F2,H2⟩,h3,h4⟩:=T.bind_all h2
       have hbk1:=(e1.blk k _ hb1).1
       simp only [BlkR] at hbk1;obtain ⟨r1,p1,p2,p3,p4,p5,p6⟩:=hbk1
       have a1l:=atl e1
       rw [a1l] at p1;refine ⟨_,run_beginRound p1 p5.1,?_⟩
       obtain ⟨t1a,t1b⟩:=RW.turn (t':=t) (nb:=.lrec ps1 asg1 body1 .busy) (r':={r1 with state:=.busy}) e1 hb1 (by
        simp only [BlkR];rw [a1l];exact ⟨{r1 with state:=.busy},World.putObj_heap_same (Fp.1 p1).1,p2,p3,p4,rfl,RL.mono (n:=M H1) (λ_ _=>rfl) (λ_ h=>h) (λb hz=>J7 λe=>e1.zown k _ hb1 trivial rfl (by rw [a1l,<-e];exact hz)) _ _ (e1.blk k _ hb1).2.1 p6⟩) ⟨(e1.blk k _ hb1).2.1,ak⟩
       rw [a1l] at t1a t1b
       have hF2:RF ds1 β1 Z1 (w1.putObj l<|.loop {r1 with state:=.busy}) (M<|H1.set k ⟨Fr1,t,.lrec ps1 asg1 body1 .busy,X⟩) F1 a1:=by
        rw [BR];exact e2.mono (Ar _) (λ_ _=>rfl) (λ_ h=>h) t1b
       refine code_soundA (A:=λ_=>True) (L:=unrC P G Γ K 20 2) hΓ hK body (λb _=>unrC_sound hΓ hK 20 2 b) (ah l) w0 _ Z1 β1 _ _ a1 _ ds1 _ x F2 H2 trivial (.inr hc3) e0 t1a hF2 h3 λds2 Z2 β2 a2 w2 f0 f1 f2=>?_
       split at h4
       ·rename_i Fr2 t2 ps2 asg2 body2 hb2
        have hbk2:=(f1.blk k _ hb2).1
        obtain ⟨r2,s1,s2,s3,s4,s5,s6⟩:=hbk2
        have a2l:=atl f1
        rw [a2l] at s1
        have fin:∀(st:LS) (jump:Option Code) (b:aL),LsR st {r2 with state:=if jump.isNone then .ready else .done,pending:=jump}->jump.isNone=b->(T.ok (LV.bl b,H2.set k ⟨Fr2,t,.lrec ps2 asg2 body2 st,X⟩):T<|LV×List Blk).all (λq=>q=(lv,H'))->
          ∃v w',(Instr.endRound l jump).run P w2=.ok v w'/\(∃v',Ending.returned v=.returned v'/\∃Z' β',RW G w0 Z0 Z' β' H' w'/\R β' Z' w' lv v'/\okV (M H') lv):=λst jump b hst hj h4=>by
         obtain ⟨rfl,rfl⟩:=h4;refine ⟨_,_,run_endRound jump s1,_,rfl,Z2,β2,?_,?_,ak⟩
         ·obtain ⟨t2a,t2b⟩:=RW.turn (t':=t) (nb:=.lrec ps2 asg2 body2 st) (r':={r2 with state:=if jump.isNone then .ready else .done,pending:=jump}) f1 hb2 (by
           simp only [BlkR];rw [a2l];exact ⟨_,World.putObj_heap_same (Fp.1 s1).1,s2,s3,s4,hst,RL.mono (n:=M H2) (λ_ _=>rfl) (λ_ h=>h) (λb hz=>J7 λe=>f1.zown k _ hb2 trivial rfl (by rw [a2l,<-e];exact hz)) _ _ (f1.blk k _ hb2).2.1 s6⟩) ⟨(f1.blk k _ hb2).2.1,ak⟩
          rw [a2l] at t2a;exact t2a.unghost
         ·simp only [R,hj]
        cases x with
        |normal=>exact fin .ready aj U ⟨rfl,rfl⟩ rfl h4
        |exit m=>exact fin (.done<|.exit m) (ah<|.exit m) X ⟨rfl,rfl⟩ rfl h4
        |ret=>exact fin (.done .ret) (ah .ret) X ⟨rfl,rfl⟩ rfl h4
       ·cases h4
      ·cases h2
    ·cases h
   ·cases h
def inl_sound {LL:aL3}(hΓ:∀g S,Γ g=ah S->Valid P G g S) (hLL:LLok P G LL):∀(d:aC),KSound P G (inl P G Γ LL d)
 |0=>noK_sound
 |d+1=>stepH_sound hΓ hLL<|inl_sound hΓ hLL d
def CSound (P:aR) (G:bb) (g:bg) (m:aD->aE->T (LV×List Blk)):Prop:=
 ∀(w0:aO) (Z0:Gz) (Z:aC->Prop) (β:aC->aL1) (H:aE) (w:aO) (args:aD) (vals:aW) (lv:LV) (H':aE),RW G w0 Z0 Z β H w->RL β Z w args vals.toList->okL (M H) args->(m args H).all (λq=>q=(lv,H'))->
  Calls P g vals w λe w'=>∃v,e=.returned v/\∃Z' β',RW G w0 Z0 Z' β' H' w'/\R β' Z' w' lv v/\okV (M H') lv
def inlC_sound {LL:aL3}{C:Does}(hΓ:∀g S,Γ g=ah S->Valid P G g S) (hLL:LLok P G LL) (hC:∀g m,C g=ah m->CSound P G g m):∀(d:aC),KSound P G (inlC P G Γ LL C d)
 |0=>noK_sound
 | d+1=>by
  have h:=stepH_sound hΓ hLL<|inlC_sound hΓ hLL hC d
  refine ⟨λw0 Z0 Z β H w g args vals lv H' hW hr hok hq=>?_,h.y⟩
  simp only [inlC] at hq;split at hq
  ·rename_i m hm
   exact hC g m hm w0 Z0 Z β H w args vals lv H' hW hr hok hq
  ·exact h.k w0 Z0 Z β H w g args vals lv H' hW hr hok hq
def CSound.walk {LL:aL3}{K:aMf}{g:bg}{m:aD->aE->T (LV×List Blk)}(hΓ:∀g S,Γ g=ah S->Valid P G g S) (hLL:LLok P G LL) (hK:KSound P G K)
  (hm:∀args H lv H',(m args H).all (λq=>q=(lv,H'))->((stepH P G Γ LL K).k g args H).all (λq=>q=(lv,H'))):CSound P G g m:=
 λw0 Z0 Z β H w args vals lv H' hW hr hok hq=>(stepH_sound hΓ hLL hK).k w0 Z0 Z β H w g args vals lv H' hW hr hok<|hm args H lv H' hq
def unrL (P:aR) (G:bb) (Γ:aLY) (m d:aC):aL3:=λK _ _=>unrC P G Γ K m d
def unrL_ok {m d:aC}(hΓ:∀g S,Γ g=ah S->Valid P G g S):LLok P G (unrL P G Γ m d):=λ_ _ _ _ _ b hK _ _ _=>unrC_sound hΓ hK m d b
def addL (g:bg) (N id:aC) (t:aD->aE->T (Ex×List LV×List Blk)) (LL:aL3):aL3:=λK g' N' b=>if g'=g/\N'=N/\firstR b=id then t else LL K g' N' b
def addL_ok {g:bg}{N id:aC}{t:aD->aE->T (Ex×List LV×List Blk)}{LL:aL3}{fn:aL8}{c bd:bE}(hfn:P.funcs[g]? =ah fn) (hc:fn.body=ah c) (hid:(loopsIn c).filter (λb=>firstR b==id)=[bd]) (ht:SoundA P G (AN N) (.loop bd) t) (h:LLok P G LL):LLok P G (addL g N id t LL):=by
 intro K g' fn' c' N' b hK hfn' hc' hb;unfold addL;split
 ·rename_i e
  obtain ⟨rfl,rfl,e⟩:=e;rw [hfn] at hfn'
  have:=DE hfn'
  subst this;rw [hc] at hc'
  have:=DE hc'
  subst this
  have hm:b∈(loopsIn c).filter (λb=>firstR b==id):=Fs.2 ⟨hb,A8⟩
  have:b=bd:=A8
  subst this;exact ht
 ·exact h K g' fn' c' N' b hK hfn' hc' hb
def valid_core {f:bg}{fn:aL8}{c:bE}{t:aD->aE->T (Ex×List LV×List Blk)}(hfn:P.funcs[f]? =ah fn) (hc:fn.body=ah c) (ht:Sound P G c t):Valid P G f (finX P fn t):=by
 intro args vals w Z lv hz hg hok hr h;obtain ⟨⟨x,F',H'⟩,h1,h2⟩:=T.bind_all h;refine QU.1<|callsIn_of_wp_marks (n:=0) hfn hc trivial ?_
 have hW:RW G w ⟨Z,[],[]⟩ Z β0 [] w:=⟨Below.refl _ _,hz,λb h=> .inl h,λk b hk=>sX,λk b hk=>sX,λk b hk=>sX,λi j bi bj hi=>by simp at hi,λk b hb=>by simp at hb,hg,λp hp=>dq,λD hD=>(by cases hD)⟩
 have hF:=frame_args (H:=[]) hr hok fn.ntmps
 refine ht aj w ⟨Z,[],[]⟩ Z β0 _ [] _ w [] _ x F' H' (λp hp=>dq) (.inl rfl) DsOk.nil hW hF h1 λds' Z' β' a' w' e0 e1 e2=>?_
 have fin:((resx P fn F' H' fn.results.toList).bind λl=>if noOwn (one l) then (T.ok (one l):T LV) else (guardX H' 8<|one l).bind λ_=> .ok<|toX H' 8<|one l).all (λx=>x=lv)->LeavesInM Fence.wide 0 P fn a'.tmps (λe w'=>Below w.heap.size w w'/\∃v',e=.returned v'/\okV 0 lv/\R β0 (λb=>Z b\/(w.heap.size<=b/\b<w'.heap.size)) w' lv v') a'.defers .returning w':=λh2=>by
  rw [e2.defers.1];refine leave_marks ds' w' a' e1 e2 e0 λw'' a'' et f1 f2=>?_
  obtain ⟨l,g1,g2⟩:=T.bind_all h2;split at g2
  ·rename_i hno
   obtain ⟨vs,g3,g4,g5⟩:=resx_sound fn.results.toList l f1 f2 g1
   have hok0:okV 0 lv:=by rw [<-g2];exact noOwn_ok _ hno<|one_ok g5
   refine ⟨if hs:vs.toArray.size=1 then vs.toArray[0] else .tuple vs.toArray,?_,f1.below,_,rfl,hok0,?_⟩
   ·exact rD
   ·have:=one_R g4
    rw [g2] at this
    exact R.mono (n:=0) (λ_ hk=>absurd hk A0) (λb hb=>by
     rcases f1.znew b hb with h|h
     ·exact .inl h
     ·exact .inr ⟨h,f1.zlt b hb⟩) (λ_ _=>rfl) _ _ hok0 this
  ·obtain ⟨_,hg,g2⟩:=T.bind_all g2
   have hG:=T.all_mono (K':=λ_=>True) (λ_ _=>trivial) hg
   obtain ⟨vs,g3,g4,g5⟩:=resx_sound fn.results.toList l f1 f2 g1
   have hok0:okV 0 lv:=by rw [<-g2];exact toX_ok H' (λk b hb=>(f1.blk k b hb).2) 8 _<|one_ok g5
   refine ⟨if hs:vs.toArray.size=1 then vs.toArray[0] else .tuple vs.toArray,?_,f1.below,_,rfl,hok0,?_⟩
   ·exact rD
   ·have:=toX_R (S:=λ_=>True) f1 (λ_ _ _ _ _ _=>trivial) 8 _ _ hG (λ_ _=>trivial) (one_ok g5) (one_R g4)
    rw [g2] at this
    exact R.mono (n:=0) (λ_ hk=>absurd hk A0) (λb hb=>by
     rcases hb with hb|⟨k,bk,_,h2,h3,rfl⟩
     ·rcases f1.znew b hb with h|h
      ·exact .inl h
      ·exact .inr ⟨h,f1.zlt b hb⟩
     ·exact .inr ⟨f1.low k bk h2 h3,f1.lt h2 h3⟩) (λ_ _=>rfl) _ _ hok0 this
 cases x with
 |normal=>exact fin h2
 |ret=>exact fin h2
 |exit m=>cases h2
def valid_of {f:bg}{fn:aL8}{c:bE}{S:aD->T LV}{L:aMs}(hfn:P.funcs[f]? =ah fn) (hc:fn.body=ah c) (hΓ:∀g S,Γ g=ah S->Valid P G g S) (hK:KSound P G K)
  (hL:∀b∈loopsIn c,Sound P G (.loop b)<|L<|firstR b) (hS:∀args lv,(S args).all (λx=>x=lv)->(funx P G Γ K L fn args).all (λx=>x=lv)):Valid P G f S:=λargs vals w Z lv hz hg hok hr h=>
 valid_core hfn hc (code_sound hΓ hK c hL) args vals w Z lv hz hg hok hr (by have:=hS args lv h;unfold funx at this;simpa only [hc] using this)
end Go.Sx
namespace Go.Sx
open Go Go.RowKit Go.Proofs.YtjjcgjkagokchaaGreatDoor
variable {P : Program} {G : Globs} {Γ : Specs} {L : Loops} {β : Nat -> Loc} {Z : Nat -> Prop} {Z0 : Gz} {w w0 : World} {F : List LV} {H : List Blk} {a : Act} {ds : List Deferred} {n : Nat}
def no_loops {c:bE}(h:loopsIn c=[]):∀b∈loopsIn c,Sound P G (.loop b) (L<|firstR b):=λb hb=>A8
def Vs (P:aR) (G:bb):List (FuncId×(List LV->T LV))->Prop
 | []=>True
 |p::ps=>Valid P G p.1 p.2/\Vs P G ps
def specs_ok:∀ {l:List<|FuncId×(List LV->T LV)},Vs P G l->∀g S,specsOf l g=ah S->Valid P G g S
 | [],_,g,S,h=>Ab
 |p::ps,hv,g,S,h=>by
  simp only [specsOf] at h;split at h
  ·rename_i hg;simp only [Ac] at h;subst h hg;exact hv.1
  ·exact specs_ok hv.2 g S h
def all_of_eq {α:Type}{t t':T α}{K:α->Prop}(h:t=t') (h':t'.all K):t.all K:=h▸h'
end Go.Sx
namespace Go.Sx
open Go Go.RowKit Go.Proofs.YtjjcgjkagokchaaGreatDoor
variable {P : Program} {G : Globs} {Γ : Specs} {L : Loops} {β : Nat -> Loc} {Z : Nat -> Prop} {Z0 : Gz} {w w0 : World} {F : List LV} {H : List Blk} {a : Act} {ds : List Deferred} {n : Nat}
def pos (k:aC):aH->aC->Nat
 | [],i=>i
 |j::js,i=>if k=j then i else pos k js (i+1)
def pos_get {k:aC}:∀ {ks:aH}(i:aC),k∈ks->i<=pos k ks i/\ks[pos k ks i-i]? =ah k/\pos k ks i<i+M ks
 | [],i,h=>Ab
 | j::js,i,h=>by
  simp only [pos];split
  ·grind
  ·rename_i e
   have hk:k∈js:=by
    rcases Ak.1 h with h|h
    ·grind
    ·exact h
   obtain ⟨h1,h2,h3⟩:=pos_get (i+1) hk;refine ⟨A0,?_,A8⟩
   grind
mutual
def renV (ks:aH):LV->LV
 | .v x=> .v x
 | .bl b=> .v (.bool b)
 | .ki k n=> .v (ag k n)
 | .own k off=> .own (pos k ks 0) off
 | .agg l=> .agg (renL ks l)
 | .tup l=> .tup (renL ks l)
 | .fn f l=> .fn f (renL ks l)
 | .fb f l=> .fb f (renL ks l)
 | .xq n f=> .xq n f
 | .xl e l=> .xl e l
 | .os k es off n=> .os (pos k ks 0) es off n
 | .op k es i j=> .op (pos k ks 0) es i j
 | .om k=> .om (pos k ks 0)
 | .mp kd kk l=> .mp kd kk (renL ks l)
 | .oc k es off n c=> .oc (pos k ks 0) es off n c
 | .yld k=> .yld (pos k ks 0)
 | .junk=> .junk
def renL (ks:aH):aD->List LV
 | []=>[]
 |x::xs=>renV ks x::renL ks xs
end
def renK (ks:aH):BK->BK
 | .cl=> .cl
 | .vec e l=> .vec e l
 | .mp kd kk vs=> .mp kd kk (renL ks vs)
 | .lrec ps asg body st=> .lrec ps asg body st
 | .st e l=> .st e l
 | .dead=> .dead
def renB (ks:aH) (b:bx):bx:=⟨renL ks b.c,b.t,renK ks b.k,b.p⟩
def deadB:bx:=⟨[],0,.dead,X⟩
def nodupB:aH->Bool
 | []=>U
 |k::ks=>!ks.contains k&&nodupB ks
def nodupB_inj:∀ {ks:aH},nodupB ks=U->∀(i j k:aC),ks[i]? =ah k->ks[j]? =ah k->i=j
 | [],_,i,j,k,h,_=>A8
 | x::xs,hn,i,j,k,hi,hj=>by
  simp only [nodupB,AS,C8] at hn;cases i with
  | zero=>
   cases j with
   |zero=>rfl
   |succ j=>
    grind
  | succ i=>
   cases j with
   |zero=>
    grind
   |succ j=>
    rw [nodupB_inj hn.2 i j k hi hj]
def Rn (ks:aH) (β β':aC->aL1):Prop:=∀i k,ks[i]? =ah k->β' i=β k
def Rn.at {ks:aH}{β':aC->aL1}(h:Rn ks β β') {k:aC}(hk:k∈ks):β' (pos k ks 0)=β k/\pos k ks 0<M ks:=by
 obtain ⟨_,h2,h3⟩:=pos_get 0 hk;exact ⟨h _ _ A8,A0⟩
mutual
def ren_R {ks:aH}{β':aC->aL1}{n:aC}(h:Rn ks β β'):∀(x:LV) (y:aV),(∀k,k∈owns x->k∈ks)->okV n x->R β Z w x y->R β' Z w (renV ks x) y
 | .v _,_,_,_,hr=>hr
 | .bl _,_,_,_,hr=>hr
 | .ki _ _,_,_,_,hr=>hr
 | .own k off,y,ho,hok,hr=>by
  exact QY
 | .agg l,y,ho,hok,hr=>by
  exact cg
 | .tup l,y,ho,hok,hr=>by
  exact cg
 | .fn f l,y,ho,hok,hr=>by
  exact cg
 | .fb f l,y,ho,hok,hr=>by
  exact cg
 | .xq n f,y,ho,hok,hr=>by
  simp only [renV,R,okV] at*;obtain ⟨b,off,h1,h2,h3⟩:=hr;refine ⟨b,off,h1,h2,λj hj=>?_⟩
  obtain ⟨z,h4,h5⟩:=h3 j hj;exact ⟨z,h4,R.mono (n:=0) (λ_ hk=>absurd hk A0) (λ_ h=>h) (λ_ _=>rfl) _ _ (hok j) h5⟩
 | .xl e l,y,ho,hok,hr=>by simp only [renV,R] at*;exact hr
 | .os k es off n,y,ho,hok,hr=>by
  exact QY
 | .op k es i j,y,ho,hok,hr=>by
  exact QY
 | .om k,y,ho,hok,hr=>by
  exact QY
 | .mp kd kk l,y,ho,hok,hr=>by
  simp only [renV,R,owns,okV] at*;obtain ⟨r,es,clock,h1,h2,h3,h4,h5⟩:=hr;exact ⟨r,es,clock,h1,h2,h3,h4,ren_RL h l _ ho hok h5⟩
 | .oc k es off n c,y,ho,hok,hr=>by
  exact QY
 | .yld k,y,ho,hok,hr=>by
  exact QY
 | .junk,_,_,_,_=>by simp only [renV,R]
def ren_RL {ks:aH}{β':aC->aL1}{n:aC}(h:Rn ks β β'):∀(l:aD) (ys:aT),(∀k,k∈ownsL l->k∈ks)->okL n l->RL β Z w l ys->RL β' Z w (renL ks l) ys
 | [],_,_,_,hr=>by simpa only [renL,RL] using hr
 |x::xs,ys,ho,hok,hr=>by
  simp only [renL,RL,ownsL,BN,okL] at*;obtain ⟨y,zs,h1,h2,h3⟩:=hr;exact ⟨y,zs,h1,ren_R h x y (λk hk=>ho k (.inl hk)) hok.1 h2,ren_RL h xs zs (λk hk=>ho k (.inr hk)) hok.2 h3⟩
end
mutual
def ren_ok {ks:aH}{n:aC}:∀(x:LV),(∀k,k∈owns x->k∈ks)->okV n x->okV (M ks) (renV ks x)
 | .v _,_,_=>trivial
 | .bl _,_,_=>trivial
 | .ki _ _,_,_=>trivial
 | .own k off,ho,_=>Qc
 | .agg l,ho,hk=>Vv
 | .tup l,ho,hk=>Vv
 | .fn f l,ho,hk=>Vv
 | .fb f l,ho,hk=>Vv
 | .xq n f,_,hk=>by simpa only [renV,okV] using hk
 | .xl _ _,_,_=>trivial
 | .os k _ _ _,ho,_=>Qc
 | .op k _ _ _,ho,_=>Qc
 | .om k,ho,_=>Qc
 | .mp kd kk l,ho,hk=>Vv
 | .oc k _ _ _ _,ho,_=>Qc
 | .yld k,ho,_=>Qc
 | .junk,_,_=>trivial
def ren_okL {ks:aH}{n:aC}:∀(l:aD),(∀k,k∈ownsL l->k∈ks)->okL n l->okL (M ks) (renL ks l)
 | [],_,_=>trivial
 |x::xs,ho,hk=>by
  simp only [renL,okL,ownsL,BN] at*;exact ⟨ren_ok x (λk hk=>ho k (.inl hk)) hk.1,ren_okL xs (λk hk=>ho k (.inr hk)) hk.2⟩
end
def ren_live {ks:aH}{β':aC->aL1}{i k:aC}{b:bx}(h:β' i=β k):live β' i (renB ks b)↔live β k b:=by
 unfold live renB;cases hb:b.k<;>simp [renK,h]
def pinB (N:aC) (ks:aH):aL:=ks.take N==au N
def pinB_get {N:aC}{ks:aH}(h:pinB N ks=U):N<=M ks/\∀i,i<N->ks[i]? =ah i:=by
 have h:ks.take N=au N:=by simpa [pinB] using h
 have hl:=Am M h
 simp at hl
 refine ⟨A0,λi hi=>?_⟩
 have:=Am (λl=>l[i]?) h
 simp only [IP,AD hi] at this;rw [this]
 simp [hi]
def RW.ren {N:aC}{ks:aH}{l:aD}(hgh:AN N Z0) (hW:RW G w0 Z0 Z β H w) (hc:closedB H ks l=U) (hn:nodupB ks=U) (hpin:pinB N ks=U):
  ∃β',Rn ks β β'/\RW G w0 Z0 Z β' (ks.map λk=>renB ks<|H.getD k deadB) w:=by
 have hex:∀k,k∈ks->∃b,H[k]? =ah b:=λk hk=>by
  unfold closedB at hc;simp only [AS,B7] at hc
  have:=hc.2 k hk
  cases hb:H[k]? with
  |none=>rw [hb] at this;cases this
  |some b=>exact ⟨b,rfl⟩
 obtain ⟨c1,c2⟩:=closedB_spec hc;refine ⟨λi=>β<|ks.getD i 0,λi k hi=>by simp [List.getD,hi],?_⟩
 have hRn:Rn ks β (λi=>β<|ks.getD i 0):=λi k hi=>by simp [List.getD,hi]
 generalize hβ':(λi=>β<|ks.getD i 0)=β' at hRn|-
 have old:∀i b,(ks.map λk=>renB ks<|H.getD k deadB)[i]? =ah b->∃k b0,ks[i]? =ah k/\k∈ks/\H[k]? =ah b0/\b=renB ks b0/\β' i=β k:=λi b hb=>by
  rw [CZ] at hb;cases hk:ks[i]? with
  |none=>simp [hk] at hb
  |some k=>
   have hkm:=Mj hk
   grind
 refine ⟨hW.below,hW.zlt,hW.znew,λi b hb hl hp=>?_,λi b hb hl hp=>?_,λi b hb hl=>?_,λi j bi bj hi hj li lj pi e=>?_,λi b hb=>?_,hW.glob,λp hp=>⟨R.mono (n:=N) (λk hk=>hRn k k<|(pinB_get hpin).2 k hk) (λ_ h=>h) (λ_ _=>rfl) _ _ (hgh p hp) (hW.gh p hp).1,okV.mono (by rw [Dz];exact (pinB_get hpin).1) _<|hgh p hp⟩,hW.mks⟩
 ·obtain ⟨k,b0,h1,h2,h3,rfl,h5⟩:=old i b hb
  rw [h5];exact hW.zown k b0 h3 ((ren_live h5).1 hl) hp
 ·obtain ⟨k,b0,h1,h2,h3,rfl,h5⟩:=old i b hb
  rw [h5];exact hW.zpub k b0 h3 ((ren_live h5).1 hl) hp
 ·obtain ⟨k,b0,h1,h2,h3,rfl,h5⟩:=old i b hb
  rw [h5];exact hW.low k b0 h3<|(ren_live h5).1 hl
 ·obtain ⟨k,b0,h1,h2,h3,rfl,h5⟩:=old i bi hi
  obtain ⟨k',b1,g1,g2,g3,rfl,g5⟩:=old j bj hj;rw [h5,g5] at e
  have:=hW.inj k k' b0 b1 h3 g3 ((ren_live h5).1 li) ((ren_live g5).1 lj) pi e
  subst this;exact nodupB_inj hn i j k h1 g1
 ·obtain ⟨k,b0,h1,h2,h3,rfl,h5⟩:=old i b hb
  obtain ⟨q1,q2⟩:=hW.blk k b0 h3
  have ow:=c2 k b0 h2 h3
  have owc:∀j,j∈ownsL b0.c->j∈ks:=λj hj=>ow j (by unfold Blk.owns;exact BN.2<|.inl hj)
  rw [Dz];refine ⟨?_,ren_okL _ owc q2.1,?_⟩
  ·unfold BlkR at q1|-
   unfold renB;cases hbk:b0.k with
   |cl=>
    simp only [hbk,renK] at q1|-;obtain ⟨cs,e1,e2⟩:=q1;exact ⟨cs,sG,ren_RL hRn _ _ owc q2.1 e2⟩
   |vec e l=>
    simp only [hbk,renK] at q1|-;rw [h5];exact q1
   |mp kd kk vs=>
    simp only [hbk,renK] at q1|-;obtain ⟨es,clock,e1,e2,e3⟩:=q1;exact ⟨es,clock,sG,e2,ren_RL hRn _ _ (λj hj=>ow j aKF) (by have:=q2.2;rw [hbk] at this;exact this) e3⟩
   |lrec ps asg body st=>
    simp only [hbk,renK] at q1|-;obtain ⟨r,e1,e2,e3,e4,e5,e6⟩:=q1;exact ⟨r,sG,e2,e3,e4,e5,ren_RL hRn _ _ owc q2.1 e6⟩
   |st e l=>
    simp only [hbk,renK] at q1|-;rw [h5];exact q1
   |dead=>simp only [renK]
  ·have q22:=q2.2
   unfold renB;cases hbk:b0.k with
   |mp kd kk vs=>
    simp only [hbk,renK] at q22|-;exact ren_okL _ (λj hj=>ow j aKF) q22
   |cl=>simp only [renK]
   |vec e l=>simp only [renK]
   |lrec ps asg body st=>simp only [renK]
   |st e l=>simp only [renK]
   |dead=>simp only [renK]
def at_ (i:aC):aH->aD->LV
 |j::js,x::xs=>if i=j then x else at_ i js xs
 |_,_=> .junk
def frameGo (live:aH) (vals:aD):aC->aC->List LV
 |0,_=>[]
 |n+1,i=>at_ i live vals::frameGo live vals n (i+1)
def frameOf (n:aC) (live:aH) (vals:aD):aD:=frameGo live vals n 0
def frameGo_length (live:aH) (vals:aD):∀n i,M (frameGo live vals n i)=n
 |0,_=>rfl
 |n+1,i=>by simp [frameGo,frameGo_length live vals n<|i+1]
def frameGo_get (live:aH) (vals:aD):∀n i k,k<n->(frameGo live vals n i)[k]? =ah (at_ (i+k) live vals)
 |0,_,k,h=>A0
 |n+1,i,0,_=>by simp [frameGo]
 |n+1,i,k+1,h=>by
  simp only [frameGo,cS];rw [frameGo_get live vals n (i+1) k A0]
  grind
def at_get (i:aC):∀(live:aH) (vals:aD),at_ i live vals=.junk\/∃p:aC,live[p]? =ah i/\vals[p]? =ah (at_ i live vals)
 | [],_=> .inl rfl
 |_::_,[]=> .inl rfl
 | j::js,x::xs=>by
  simp only [at_];split
  ·rename_i h;exact .inr ⟨0,dn,AH⟩
  ·rcases at_get i js xs with h|⟨p,h1,h2⟩
   ·exact .inl h
   ·exact .inr ⟨p+1,A8,A8⟩
def viewF (live:aH) (F:aD):aD:=live.map λj=>norm<|F.getD j .junk
def view_RL {live:aH}(hF:RF ds β Z w n F a):RL β Z w (viewF live F) (live.map λj=>a.tmps.getD j undef)/\okL n (viewF live F):=by
 have one:∀j,R β Z w (F.getD j .junk) (a.tmps.getD j undef)/\okV n (F.getD j .junk):=λj=>by
  cases hj:F[j]? with
  |none=>simp [List.getD,hj,R,okV]
  |some x=>simp only [List.getD,hj,cK];exact hF.get j x hj
 refine ⟨RL.of_get (by simp [viewF]) λi x hx=>?_,okL.of_get λi x hx=>?_⟩
 ·simp only [viewF,CZ] at hx|-
  cases hl:live[i]? with
  |none=>simp [hl] at hx
  |some j=>simp [hl] at hx;subst hx;exact ⟨_,AH,norm_R (one j).1⟩
 ·simp only [viewF,CZ] at hx
  cases hl:live[i]? with
  |none=>simp [hl] at hx
  |some j=>simp [hl] at hx;subst hx;exact norm_ok (one j).2
def frame_RF {live:aH}{vals:aD}{N:aC}(hs:a.tmps.size=N) (hd:a.defers=ds/\∀d,d∈ds->∃D,d=markOf D/\Z D/\MkAt w D) (h:RL β Z w vals<|live.map λj=>a.tmps.getD j undef) (hk:okL n vals):RF ds β Z w n (frameOf N live vals) a:=by
 refine ⟨by rw [hs];simp [frameOf,frameGo_length],λt x hx=>?_,hd⟩
 have ht:t<N:=by have:=(Ce.1 hx).1;simpa [frameOf,frameGo_length] using this
 unfold frameOf at hx;rw [frameGo_get live _ _ _ t ht] at hx;simp only [Ac,Ck] at hx;rcases at_get t live vals with h1|⟨p,h1,h2⟩
 ·rw [hx] at h1;subst h1;exact ⟨H0,ak⟩
 ·rw [hx] at h2
  obtain ⟨y,e1,e2⟩:=RL.get _ _ h h2;simp only [CZ,h1,Gx,Ac] at e1;subst e1;exact ⟨e2,okL.get _ _ hk h2⟩
inductive Up where
 |nl (i:Nat) (t:TypeId) (ty:Ty)
 |pb (i:Nat) (ty:Ty)
 |nc (k j:Nat) (t:TypeId) (ty:Ty)
 |pc (k j:Nat) (ty:Ty)
 |pk (k:Nat)
 |ns (i j:Nat) (t:TypeId) (ty:Ty)
 |ps (i j:Nat) (ty:Ty)
 |mc (k j:Nat)
 |kb (k:Nat)
 |ms (i j:Nat)
 |tn (j:Nat) (t:TypeId) (ty:Ty)
def resU (F:aD):Up->Up
 | .ns i j t ty=>match F.getD i .junk with
  | .own k _=> .nc k j t ty
  |_=> .ns i j t ty
 | .ps i j ty=>match F.getD i .junk with
  | .own k _=> .pc k j ty
  |_=> .ps i j ty
 | .ms i j=>match F.getD i .junk with
  | .own k _=> .mc k j
  |_=> .ms i j
 |u=>u
def upF:List Up->aD->aE->T (List LV×List Blk)
 | [],F,H=> .ok (F,H)
 | .nl i t ty::us,F,H=>match F.getD i .junk with
  | .v (.slice aj 0 0)=>upF us (F.set i<|.os (M H) ty.n 0 0) (H++[⟨[],t,.vec ty [],X⟩])
  |_=>upF us F H
 | .pb i ty::us,F,H=>match F.getD i .junk with
  | .v (.slice aj 0 0)=>upF us (F.set i<|.xl ty []) H
  | .os k es off n=>if closedB H (reach H 64 [k] []) [.os k es off n] then (guardX H 6<|.os k es off n).bind λ_=>upF us (F.set i<|toX H 6<|.os k es off n) (pubGo (reach H 64 [k] []) 0 H) else .no
  |_=>upF us F H
 | .nc k j t ty::us,F,H=>match H[k]? with
  |some ⟨c,bt,.cl,X⟩=>(match c[j]? with
   |some (.v (.slice aj 0 0))=>upF us F (H.set k ⟨c.set j<|.os (M H) ty.n 0 0,bt,.cl,X⟩++[⟨[],t,.vec ty [],X⟩])
   |_=>upF us F H)
  |_=>upF us F H
 | .pc k j ty::us,F,H=>match H[k]? with
  |some ⟨c,bt,.cl,X⟩=>(match c[j]? with
   |some (.v (.slice aj 0 0))=>upF us F (H.set k ⟨c.set j<|.xl ty [],bt,.cl,X⟩)
   |some (.os k' es off n)=>if closedB H (reach H 64 [k'] []) [.os k' es off n]&&!(reach H 64 [k'] []).contains k then (guardX H 6<|.os k' es off n).bind λ_=>upF us F ((pubGo (reach H 64 [k'] []) 0 H).set k ⟨c.set j<|toX H 6<|.os k' es off n,bt,.cl,X⟩) else .no
   |_=>upF us F H)
  |_=>upF us F H
 | .pk k::us,F,H=>upF us F (pubGo (reach H 64 [k] []) 0 H)
 | .kb k::us,F,H=>upF us F (H.set k ⟨[],0,.dead,X⟩)
 | .ns ..::us,F,H=>upF us F H
 | .ps ..::us,F,H=>upF us F H
 | .mc k j::us,F,H=>match H[k]? with
  | some ⟨c,bt,.cl,X⟩=>(match c[j]? with
   |some (.os k' es off n)=>(match H[k']? with
    |some ⟨[],t,.vec e l,X⟩=>upF us F ((H.set k' (⟨[],t,.dead,X⟩:bx)++[(⟨[],t,.vec e l,X⟩:bx)]).set k ⟨c.set j<|.os (M H) es off n,bt,.cl,X⟩)
    |_=>upF us F H)
   |_=>upF us F H)
  |_=>upF us F H
 | .ms ..::us,F,H=>upF us F H
 | .tn j t ty::us,F,H=>match F.getD 0 .junk with
  | .v (.tuple ys)=>(match ys.toList with
   | [.agg zs,e]=>(match zs.toList[j]? with
    |some (.slice aj 0 0)=>upF us (F.set 0<|.tup [.agg<|(zs.toList.map LV.v).set j<|.os (M H) ty.n 0 0,.v e]) (H++[⟨[],t,.vec ty [],X⟩])
    |_=>upF us F H)
   |_=>upF us F H)
  |_=>upF us F H
def RL.set':∀ {l:aD}{ys:aT}{j:aC}{x:LV}{y:aV},RL β Z w l ys->ys[j]? =ah y->R β Z w x y->RL β Z w (l.set j x) ys
 | [],ys,j,x,y,h,hy,_=>A8
 |z::l,ys,0,x,y,h,hy,hr=>by
  obtain ⟨y0,zs,rfl,h1,h2⟩:=h
  simp at hy
  subst hy;exact ⟨_,zs,rfl,hr,h2⟩
 |z::l,ys,j+1,x,y,h,hy,hr=>by
  obtain ⟨y0,zs,rfl,h1,h2⟩:=h;exact ⟨y0,zs,rfl,h1,RL.set' h2 A8 hr⟩
def okL.set' {n:aC}:∀ {l:aD}{j:aC}{x:LV},okL n l->okV n x->okL n (l.set j x)
 | [],_,_,h,_=>A8
 |z::l,0,x,h,hx=>⟨hx,h.2⟩
 |z::l,j+1,x,h,hx=>⟨h.1,okL.set' h.2 hx⟩
def RW.tell {k j:aC}{c:aD}{bt:aS}{x:LV}(hW:RW G w0 Z0 Z β H w) (hb:H[k]? =ah ⟨c,bt,.cl,X⟩) (hx:∀y,(∃z,c[j]? =ah z/\R β Z w z y)->R β Z w x y) (hj:∃z,c[j]? =ah z) (hok:okV (M H) x):RW G w0 Z0 Z β (H.set k ⟨c.set j x,bt,.cl,X⟩) w:=by
 obtain ⟨h1,h2⟩:=hW.blk k _ hb;obtain ⟨cs,g1,g2⟩:=h1;obtain ⟨z,hz⟩:=hj;obtain ⟨y,q1,q2⟩:=RL.get j z g2 hz;refine hW.set hb trivial rfl rfl ⟨okL.set' h2.1 hok,ak⟩ rfl ⟨rfl,rfl,rfl⟩ (λ_ _=>rfl) ?_
 exact ⟨cs,g1,RL.set' g2 q1<|hx y ⟨z,hz,q2⟩⟩
def RL.vls:∀(l:aT),RL β Z w (l.map LV.v) l
 | []=>by simp only [IL,RL]
 |x::xs=>by simp only [D2,RL];exact ⟨x,xs,rfl,H0,RL.vls xs⟩
def okL.vls {n:aC}:∀(l:aT),okL n (l.map LV.v)
 | []=>trivial
 |_::xs=>⟨ak,okL.vls xs⟩
def upF_sound:∀(us:List Up) (F:aD) (H:aE) (Z:aC->Prop) (β:aC->aL1) (F1:aD) (H1:aE),RW G w0 Z0 Z β H w->RF ds β Z w (M H) F a->(upF us F H).all (λq=>q=(F1,H1))->∃Z' β',RW G w0 Z0 Z' β' H1 w/\RF ds β' Z' w (M H1) F1 a/\M F1=M F
 | [],F,H,Z,β,F1,H1,hW,hF,h=>by
  simp only [upF,T.all,Ai] at h;obtain ⟨rfl,rfl⟩:=h;exact ⟨Z,β,hW,hF,rfl⟩
 | .nl i t ty::us,F,H,Z,β,F1,H1,hW,hF,h=>by
  simp only [upF] at h;split at h
  ·rename_i hx
   obtain ⟨s1,s2⟩:=hF.slot hx AH
   have hv:=(hF.get i _ s1).1
   simp only [R] at hv;obtain ⟨β',b1,b2,b3⟩:=hW.adopt (ℓ:=⟨w.heap.size,0,aj⟩) (nb:=⟨[],t,.vec ty [],X⟩) rfl ⟨ak,ak⟩ (λhl=>absurd rfl hl) λβ' g1 g2=>dU
   have hF1:RF ds β' Z w (M<|H++[(⟨[],t,.vec ty [],X⟩:bx)]) F a:=hF.mono AH b1 (λ_ h=>h) λ_ _=>rfl
   obtain ⟨Z2,β2,c1,c2,c3⟩:=upF_sound us (F.set i<|.os (M H) ty.n 0 0) _ Z β' F1 H1 b3 (hF1.know (by simp only [R,b2];exact ⟨ak,ak,hv⟩) IU) h
   exact dD
  ·exact IS
 | .pb i ty::us,F,H,Z,β,F1,H1,hW,hF,h=>by
  simp only [upF] at h;split at h
  ·rename_i hx
   obtain ⟨s1,s2⟩:=hF.slot hx AH
   have hv:=(hF.get i _ s1).1
   simp only [R] at hv;obtain ⟨Z2,β2,c1,c2,c3⟩:=upF_sound us (F.set i<|.xl ty []) H Z β F1 H1 hW (hF.know (by simp only [R];exact ⟨aj,0,hv,Ar _,λh=>by simp at h⟩) trivial) h
   exact dD
  ·rename_i k es off n hx
   split at h
   ·rename_i hcl
    obtain ⟨s1,s2⟩:=hF.slot hx AH
    have hv:=hF.get i _ s1
    obtain ⟨_,hg,h2⟩:=T.bind_all h
    have hG:GX H 6 (.os k es off n):=T.all_mono (K':=λ_=>True) (λ_ _=>trivial) hg
    obtain ⟨q1,q2⟩:=closedB_spec hcl
    have hP:=hW.pub<|reach H 64 [k] []
    have hH:=λk b hb=>(hW.blk k b hb).2
    have hr:=toX_R (S:=λk=>k∈reach H 64 [k] []) hW
    have hr:R β (ZP Z β H λj=>j∈reach H 64 [k] []) w (toX H 6<|.os k es off n) (a.tmps.getD i undef):=toX_R (S:=λj=>j∈reach H 64 [k] []) hW q2 6 _ _ hG (λj hj=>q1 j aLJ) hv.2 hv.1
    have hF1:RF ds β (ZP Z β H λj=>j∈reach H 64 [k] []) w (M<|pubGo (reach H 64 [k] []) 0 H) F a:=by
     exact aIc
    obtain ⟨Z2,β2,c1,c2,c3⟩:=upF_sound us (F.set i<|toX H 6<|.os k es off n) _ _ β F1 H1 hP (hF1.know hr<|okV.mono (K6 _) _<|toX_ok H hH 6 _ hv.2) h2;exact dD
   ·cases h
  ·exact IS
 | .nc k j t ty::us,F,H,Z,β,F1,H1,hW,hF,h=>by
  simp only [upF] at h;split at h
  ·rename_i c bt hb
   split at h
   ·rename_i hj
    have hkl:k<M H:=(Ce.1 hb).1
    obtain ⟨β',b1,b2,b3⟩:=hW.adopt (ℓ:=⟨w.heap.size,0,aj⟩) (nb:=⟨[],t,.vec ty [],X⟩) rfl ⟨ak,ak⟩ (λhl=>absurd rfl hl) λβ' g1 g2=>dU
    have hb':(H++[(⟨[],t,.vec ty [],X⟩:bx)])[k]? =ah ⟨c,bt,.cl,X⟩:=by rw [FI hkl];exact hb
    have hT:=b3.tell (j:=j) (x:=.os (M H) ty.n 0 0) hb' (λy ⟨z,hz,hr⟩=>by
     rw [hj] at hz
     have:=DE hz
     subst this;simp only [R] at hr;simp only [R,b2];exact ⟨ak,ak,hr⟩) ⟨_,hj⟩ IU
    rw [List.set_append_left _ _ hkl] at hT
    have hF1:RF ds β' Z w (M<|H.set k ⟨c.set j<|.os (M H) ty.n 0 0,bt,.cl,X⟩++[(⟨[],t,.vec ty [],X⟩:bx)]) F a:=hF.mono AH b1 (λ_ h=>h) λ_ _=>rfl
    exact upF_sound us F _ Z β' F1 H1 hT hF1 h
   ·exact IS
  ·exact IS
 | .pc k j ty::us,F,H,Z,β,F1,H1,hW,hF,h=>by
  simp only [upF] at h;split at h
  ·rename_i c bt hb
   split at h
   ·rename_i hj
    have hT:=hW.tell (j:=j) (x:=.xl ty []) hb (λy ⟨z,hz,hr⟩=>by
     rw [hj] at hz
     have:=DE hz
     subst this;simp only [R] at hr|-;exact ⟨aj,0,hr,Ar _,λh=>by simp at h⟩) ⟨_,hj⟩ trivial
    exact upF_sound us F _ Z β F1 H1 hT (hF.mono AH (λ_ _=>rfl) (λ_ h=>h) λ_ _=>rfl) h
   ·rename_i k' es off n hj
    split at h
    ·rename_i hcl
     simp only [AS,C8] at hcl;obtain ⟨hcl,hnk⟩:=hcl;obtain ⟨_,hg,h2⟩:=T.bind_all h
     have hG:GX H 6 (.os k' es off n):=T.all_mono (K':=λ_=>True) (λ_ _=>trivial) hg
     obtain ⟨q1,q2⟩:=closedB_spec hcl
     have hP:=hW.pub<|reach H 64 [k'] []
     have hH:=λk b hb=>(hW.blk k b hb).2
     have hok:okV (M H) (.os k' es off n):=okL.get j _ (hH k _ hb).1 hj
     have hb':(pubGo (reach H 64 [k'] []) 0 H)[k]? =ah ⟨c,bt,.cl,X⟩:=by
      rw [pubGo_get,hb];simp only [Gx,Ck,hnk];rfl
     have hT:=hP.tell (j:=j) (x:=toX H 6<|.os k' es off n) hb' (λy ⟨z,hz,hr⟩=>by
      rw [hj] at hz
      have:=DE hz
      subst this
      have hr':R β Z w (.os k' es off n) y:=by simpa only [R] using hr
      exact toX_R (S:=λj=>j∈reach H 64 [k'] []) hW q2 6 _ _ hG (λj hj=>q1 j aLJ) hok hr') ⟨_,hj⟩<|okV.mono (K6 _) _<|toX_ok H hH 6 _ hok
     exact upF_sound us F _ _ β F1 H1 hT (hF.mono (by simp [pubGo_length]) (λ_ _=>rfl) (λ_ h=> .inl h) λ_ _=>rfl) h2
    ·cases h
   ·exact IS
  ·exact IS
 | .pk k::us,F,H,Z,β,F1,H1,hW,hF,h=>by
  simp only [upF] at h
  have hP:=hW.pub<|reach H 64 [k] []
  have hF1:RF ds β (ZP Z β H λj=>j∈reach H 64 [k] []) w (M<|pubGo (reach H 64 [k] []) 0 H) F a:=by
   exact aIc
  exact upF_sound us F _ _ β F1 H1 hP hF1 h
 | .kb k::us,F,H,Z,β,F1,H1,hW,hF,h=>upF_sound us F _ Z β F1 H1 (hW.kill k 0) (hF.mono AH (λ_ _=>rfl) (λ_ h=>h) λ_ _=>rfl) dX
 | .mc k j::us,F,H,Z,β,F1,H1,hW,hF,h=>by
  simp only [upF] at h;split at h
  ·rename_i c bt hb
   split at h
   ·rename_i k' es off n hj
    split at h
    ·rename_i t e l hk'
     have hkk:k≠k':=λq=>by subst q;rw [hb] at hk';simp at hk'
     have hK:=hW.kill k' t
     obtain ⟨β',b1,b2,b3⟩:=hK.adopt (ℓ:=β k') (nb:=⟨[],t,.vec e l,X⟩) rfl ⟨ak,ak⟩ (λhl=>by
       have hl':live β k' (⟨[],t,.vec e l,X⟩:bx):=hl
       refine ⟨hW.zown k' _ hk' hl' rfl,hW.low k' _ hk' hl',λi bi hi li e=>?_⟩
       rw [Fm] at hi;split at hi
       ·split at hi
        ·simp only [Ac] at hi;subst hi;exact li
        ·cases hi
       ·rename_i hne
        exact hne<|hW.inj k' i _ _ hk' hi hl' li rfl e.symm) (λβ' g1 g2=>by
       have:=(hW.blk k' _ hk').1
       simp only [BlkR] at this|-;rw [g2];exact this)
     simp only [BR] at b1 b2
     have hlen:M (H.set k' ⟨[],t,.dead,X⟩++[(⟨[],t,.vec e l,X⟩:bx)])=M H+1:=AH
     have hb':(H.set k' ⟨[],t,.dead,X⟩++[(⟨[],t,.vec e l,X⟩:bx)])[k]? =ah ⟨c,bt,.cl,X⟩:=by
      have hkl:k<M H:=(Ce.1 hb).1
      rw [FI<|by simpa using hkl,VS<|Lc hkk]
      exact hb
     have hk'l:k'<M H:=(Ce.1 hk').1
     have hT:=b3.tell (j:=j) (x:=.os (M H) es off n) hb' (λy ⟨z,hz,hr⟩=>by
      rw [hj] at hz
      have:=DE hz
      subst this;simp only [R] at hr|-;rw [b1 k' hk'l] at hr;rw [b2];exact hr) ⟨_,hj⟩ (by rw [hlen];exact VX _)
     have hF1:RF ds β' Z w (M<|(H.set k' ⟨[],t,.dead,X⟩++[(⟨[],t,.vec e l,X⟩:bx)]).set k ⟨c.set j<|.os (M H) es off n,bt,.cl,X⟩) F a:=hF.mono AH b1 (λ_ h=>h) λ_ _=>rfl
     exact upF_sound us F _ Z β' F1 H1 hT hF1 h
    ·exact IS
   ·exact IS
  ·exact IS
 | .ms ..::us,F,H,Z,β,F1,H1,hW,hF,h=>upF_sound us F H Z β F1 H1 hW hF dX
 | .tn j t ty::us,F,H,Z,β,F1,H1,hW,hF,h=>by
  simp only [upF] at h;split at h
  ·rename_i ys hx
   split at h
   ·rename_i zs e hy
    split at h
    ·rename_i hz
     obtain ⟨s1,s2⟩:=hF.slot hx AH
     have hv:=(hF.get 0 _ s1).1
     simp only [R] at hv;obtain ⟨β',b1,b2,b3⟩:=hW.adopt (ℓ:=⟨w.heap.size,0,aj⟩) (nb:=⟨[],t,.vec ty [],X⟩) rfl ⟨ak,ak⟩ (λhl=>absurd rfl hl) λβ' g1 g2=>dU
     have hF1:RF ds β' Z w (M<|H++[(⟨[],t,.vec ty [],X⟩:bx)]) F a:=hF.mono AH b1 (λ_ h=>h) λ_ _=>rfl
     have hr:R β' Z w (.tup [.agg<|(zs.toList.map LV.v).set j<|.os (M H) ty.n 0 0,.v e]) (a.tmps.getD 0 undef):=by
      rw [hv];simp only [R,RL];refine ⟨ys,rfl,.agg zs,[e],hy,⟨zs,rfl,RL.set' (RL.vls _) hz ?_⟩,e,[],rfl,rfl,rfl⟩;simp only [R,b2];exact ⟨ak,ak,ak⟩
     have hk:okV (M<|H++[(⟨[],t,.vec ty [],X⟩:bx)]) (.tup [.agg<|(zs.toList.map LV.v).set j<|.os (M H) ty.n 0 0,.v e]):=by
      simp only [okV,okL];exact ⟨okL.set' (okL.vls _) IU,ak,ak⟩
     obtain ⟨Z2,β2,c1,c2,c3⟩:=upF_sound us (F.set 0 _) _ Z β' F1 H1 b3 (hF1.know hr hk) h;exact dD
    ·exact IS
   ·exact IS
  ·exact IS
 | .ns ..::us,F,H,Z,β,F1,H1,hW,hF,h=>upF_sound us F H Z β F1 H1 hW hF dX
 | .ps ..::us,F,H,Z,β,F1,H1,hW,hF,h=>upF_sound us F H Z β F1 H1 hW hF dX
def fixV (H:aE):LV->T LV
 | .os k es off n=>match H[k]? with
  |some ⟨_,_,.vec _ l,_⟩=> .req (off=0/\n=M l) (.ok<|.os k es 0<|M l)
  |_=> .ok (.os k es off n)
 |x=> .ok x
def fixL (H:aE):aD->T (List LV)
 | []=> .ok []
 |x::xs=>(fixV H x).bind λy=>(fixL H xs).bind λys=> .ok (y::ys)
def fixV_eq {x y:LV}(h:(fixV H x).all λz=>z=y):y=x:=by
 unfold fixV at h;split at h
 ·split at h
  ·simp only [T.all] at h
   obtain ⟨⟨rfl,rfl⟩,h⟩:=h;exact h.symm
  ·exact h.symm
 ·exact h.symm
def fixL_eq:∀ {l l':aD},(fixL H l).all (λz=>z=l')->l'=l
 | [],l',h=>h.symm
 |x::xs,l',h=>by
  obtain ⟨y,h1,h2⟩:=T.bind_all h;obtain ⟨ys,h3,h4⟩:=T.bind_all h2;rw [<-h4,fixV_eq h1,fixL_eq h3]
def fixH (H:aE):aE->T (List Blk)
 | []=> .ok []
 |b::bs=>(fixL H b.c).bind λc=>(fixH H bs).bind λcs=> .ok (⟨c,b.t,b.k,b.p⟩::cs)
def fixH_eq:∀ {l l':aE},(fixH H l).all (λz=>z=l')->l'=l
 | [],l',h=>h.symm
 |b::bs,l',h=>by
  obtain ⟨c,h1,h2⟩:=T.bind_all h;obtain ⟨cs,h3,h4⟩:=T.bind_all h2;rw [<-h4,fixL_eq h1,fixH_eq h3]
structure Vw where
 ex:Ex
 len:aC
 vals:aD
 blks:aE
 low:aL
def rchP (N:aC) (H:aE) (vals:aD):aH:=reach H 400 (ownsL vals++(H.take N).flatMap Blk.owns)<|au N
def canG (N:aC) (live:aH) (x:Ex) (n:aC) (F:aD) (H:aE):T Vw:=
 (fixL H<|viewF live F).bind λvals=>(fixH H<|(rchP N H vals).map λk=>H.getD k deadB).bind λbs=>
  .ok ⟨x,n,renL (rchP N H vals) vals,bs.map<|renB<|rchP N H vals,
   closedB H (rchP N H vals) vals&&nodupB (rchP N H vals)&&pinB N (rchP N H vals)⟩
def canT (N:aC) (live:aH) (us:List Up) (x:Ex) (F:aD) (H:aE):T Vw:=(upF (us.map<|resU F) F H).bind λq=>canG N live x (M F) q.1 q.2
def canT_sound {N:aC}{live:aH}{us:List Up}{x:Ex}{v:Vw}(hgh:AN N Z0) (hW:RW G w0 Z0 Z β H w) (hF:RF ds β Z w (M H) F a) (h:(canT N live us x F H).all λz=>z=v) (hl:v.low=U):
  v.ex=x/\v.len=M F/\∃Z' β',RW G w0 Z0 Z' β' v.blks w/\RF ds β' Z' w (M v.blks) (frameOf (M F) live v.vals) a:=by
 obtain ⟨⟨F1,H1⟩,h0,h⟩:=T.bind_all h;obtain ⟨Z1,β1,c1,c2,c3⟩:=upF_sound _ F H Z β F1 H1 hW hF h0;obtain ⟨vals,h1,h2⟩:=T.bind_all h;obtain ⟨bs,h2b,h2⟩:=T.bind_all h2
 have h3:=fixL_eq h1
 have h4:=fixH_eq h2b
 subst h3;subst h4;rw [Ek] at h2;subst h2;refine ⟨rfl,rfl,?_⟩;simp only [AS] at hl;obtain ⟨β2,d1,d2⟩:=c1.ren hgh hl.1.1 hl.1.2 hl.2;obtain ⟨v1,v2⟩:=view_RL (live:=live) c2;obtain ⟨k1,_⟩:=closedB_spec hl.1.1;refine ⟨Z1,β2,d2,frame_RF (by rw [hF.size]) c2.defers (ren_RL d1 _ _ k1 v2 v1) ?_⟩
 rw [Dz];exact ren_okL _ k1 v2
inductive Rd (σ:Type) where
 |next (s:σ)
 |stop (x:Ex) (s:σ)
def rdV {σ:Type}(n:aC) (A:σ->aD) (B:σ->aE):Rd σ->Vw
 | .next s'=>⟨.normal,n,A s',B s',U⟩
 | .stop x s'=>⟨x,n,A s',B s',U⟩
structure AllT {α:Type} (K:α->Prop) (t:T α):Prop where
 out:t.all K
def runW {σ:Type}(f:σ->Rd σ):aC->σ->Ex×σ
 |0,s=>(.ret,s)
 |k+1,s=>match f s with
  | .next s'=>runW f k s'
  | .stop x s'=>(x,s')
def runW_stop {σ:Type}{f:σ->Rd σ}{μ:σ->aC}{I:σ->Prop}(hd:∀s s',I s->f s=.next s'->I s'/\μ s'<μ s):∀(k:aC) (s:σ),I s->μ s<k->∃s',I s'/\f s'=.stop (runW f k s).1 (runW f k s).2
 |0,s,_,h=>A0
 | k+1,s,hi,hk=>by
  simp only [runW];cases hf:f s with
  |next s'=>
   obtain ⟨h1,h2⟩:=hd s s' hi hf;exact runW_stop hd k s' h1 A0
  |stop x s'=>exact ⟨s,hi,hf⟩
def T.agree {α:Type}{K:α->Prop}{p:α}:∀ {t:T α},t.all (λx=>x=p)->t.all K->K p
 | .ok _,h,hk=>by simp only [T.all] at h hk;exact h▸hk
 | .br b t e,h,hk=>by
  cases b with
  |true=>exact T.agree (h.1 rfl) (hk.1 rfl)
  |false=>exact T.agree (h.2 rfl) (hk.2 rfl)
 | .req _ t,h,hk=>T.agree h.2 hk.2
 | .no,_,h=>Ab
def loopT {σ:Type}(N n:aC) (live:aH) (us:List Up) (sel:aD->aE->T σ) (out:σ->T (Ex×List LV×List Blk)) (F:aD) (H:aE):T (Ex×List LV×List Blk):=
 if M F=n then ((canT N live us .normal F H).bind λv=>if v.low then sel v.vals v.blks else .no).bind out else .no
def backT (N:aC) (live:aH) (us:List Up) (t:T<|Ex×List LV×List Blk):T Vw:=t.bind λq=>canT N live us q.1 q.2.1 q.2.2
def gI:LV->Int
 | .v (.int _ n)=>n
 | .ki _ n=>n
 |_=>0
def gBo:LV->Bool
 | .v (.bool b)=>b
 | .bl b=>b
 |_=>X
def gSr:LV->ByteArray
 | .v (.string s)=>s
 |_=>ByteArray.empty
def gAn:LV->Value
 | .v y=>y
 |_=>undef
def gXl (e:Ty) (x:LV):List e.D:=(decX e x).getD []
def gAg (x:LV) (j:aC):LV:=
 match x with
 | .v (.agg ys)=> .v (ys.toList.getD j undef)
 | .agg l=>l.getD j .junk
 | .v (.tuple ys)=> .v (ys.toList.getD j undef)
 | .tup l=>l.getD j .junk
 |_=> .junk
def gFn (x:LV) (j:aC):LV:=
 match x with
 | .fn _ l=>l.getD j .junk
 | .fb _ l=>l.getD j .junk
 |_=> .junk
def gXq (x:LV) (j:aC):LV:=
 match x with
 | .xq _ f=>f j
 |_=> .junk
def gBk (H:aE) (k:aC):bx:=H.getD k ⟨[],0,.dead,X⟩
def gCe (b:bx) (j:aC):LV:=b.c.getD j .junk
def gVe (e:Ty) (b:bx):List e.D:=
 match b.k with
 | .vec e' l=>(match tyEq e' e with
  |some ⟨h⟩=>castL h l
  |none=>[])
 |_=>[]
def AJ (v:aD) (k:aC):Y:=gI<|v.getD k .junk
def BU (v:aD) (k:aC):aL:=gBo<|v.getD k .junk
def Ag (e:Ty) (v:aD) (k:aC):List e.D:=gXl e<|v.getD k .junk
def Ad (b:aE) (k j:aC):Y:=gI<|gCe (gBk b k) j
def IB (b:aE) (k j:aC):aL:=gBo<|gCe (gBk b k) j
def AB (e:Ty) (b:aE) (k j:aC):List e.D:=gXl e<|gCe (gBk b k) j
def AV (e:Ty) (b:aE) (k:aC):List e.D:=gVe e<|gBk b k
def gSe (e:Ty) (b:bx):List e.D:=
 match b.k with
 | .st e' l=>(match tyEq e' e with
  |some ⟨h⟩=>castL h l
  |none=>[])
 |_=>[]
def selT {σ:Type}(E:σ->Prop) (A:σ->aD) (B:σ->aE) (s:σ) (vals:aD) (blks:aE):T σ:=.req (E s/\vals=A s/\blks=B s)<|.ok s
def selT_ok {σ:Type}{E:σ->Prop}{A:σ->aD}{B:σ->aE}{s0 s:σ}{vals:aD}{blks:aE}(h:(selT E A B s0 vals blks).all λx=>x=s):E s/\vals=A s/\blks=B s:=by
 obtain ⟨h1,rfl⟩:=h;exact h1
def loop_view {σ:Type}(N n:aC) (live:aH) (us:List Up) (A:σ->aD) (B:σ->aE) (I E:σ->Prop) (μ:σ->aC) (f:σ->Rd σ) (sel:aD->aE->T σ) (out:σ->T (Ex×List LV×List Blk)) {b:bE}{t:aD->aE->T (Ex×List LV×List Blk)}(hb:SoundA P G (AN N) b t)
  (hsel:∀vals blks s,(sel vals blks).all (λx=>x=s)->E s/\vals=A s/\blks=B s) (hEI:∀s,E s->I s)
  (hd:∀s s',I s->f s=.next s'->I s'/\μ s'<μ s)
  (hne:∀s x s',f s=.stop x s'->x≠ .normal)
  (step':∀s,I s->AllT (λv=>v=rdV n A B (f s)) (backT N live us<|t (frameOf n live<|A s)<|B s))
  (hout:∀s,E s->(out s).all λq=>q=((runW f (μ s+1) s).1,frameOf n live<|A (runW f (μ s+1) s).2,B (runW f (μ s+1) s).2)):
  SoundA P G (AN N) (.loop b) (loopT N n live us sel out):=by
 intro r w0 Z0 Z β F H a w ds Q x F' H' hgh hr hD hW hF h hQ;unfold loopT at h;split at h
 ·rename_i hlen
  obtain ⟨s,h0,h2⟩:=T.bind_all h;obtain ⟨v,hv,h1⟩:=T.bind_all h0;split at h1
  ·rename_i hlow
   obtain ⟨hE,hvv,hbk⟩:=hsel _ _ s h1
   have h2:=T.agree h2<|hout s hE
   obtain ⟨_,_,Z1,β1,hW1,hF1⟩:=canT_sound hgh hW hF hv hlow;refine wpIn_loop_rounds (μ s+1) ?_
   have key:∀(k:aC) (s:σ) (ds:aL0) (Z:aC->Prop) (β:aC->aL1) (a:bc) (w:aO),I s->μ s<k->DsOk w0 Z0 ds->RW G w0 Z0 Z β (B s) w->RF ds β Z w (M<|B s) (frameOf n live<|A s) a->
     (∀ds' Z' β' a' w',DsOk w0 Z0 ds'->RW G w0 Z0 Z' β' (B (runW f k s).2) w'->RF ds' β' Z' w' (M<|B (runW f k s).2) (frameOf n live<|A (runW f k s).2) a'->Q (exOf (runW f k s).1) a' w')->Code.roundsIn (fen r) 0 P b Q k a w:=by
    intro k
    induction k with
    |zero=>intro s ds Z β a w _ h;omega
    | succ k ih=>
     intro s ds Z β a w hI hm hD hW hF hQ;obtain ⟨v,h1,h2⟩:=T.pick (step' s hI).out;obtain ⟨⟨x,F1,H1⟩,h3,h4⟩:=T.bind_all h2;refine hb r w0 Z0 Z β _ (B s) a w ds _ x F1 H1 hgh hr hD hW hF h3 λds' Z' β' a' w' e0 e1 e2=>?_
     cases hf:f s with
     |next s'=>
      rw [hf] at h1;subst h1;obtain ⟨g1,g2,Z2,β2,k1,k2⟩:=canT_sound hgh e1 e2 h4 rfl;subst g1;obtain ⟨i1,i2⟩:=hd s s' hI hf;rw [<-g2] at k2;refine ih s' ds' Z2 β2 a' w' i1 A0 e0 k1 k2 ?_
      have:runW f (k+1) s=runW f k s':=by simp only [runW,hf]
      rw [this] at hQ;exact hQ
     |stop y s'=>
      rw [hf] at h1;subst h1;obtain ⟨g1,g2,Z2,β2,k1,k2⟩:=canT_sound hgh e1 e2 h4 rfl;subst g1
      have hn:=hne s y s' hf
      rw [<-g2] at k2
      have:runW f (k+1) s=(y,s'):=by simp only [runW,hf]
      rw [this] at hQ
      have hq:=hQ ds' Z2 β2 a' w' e0 k1 k2
      cases y with
      |normal=>exact absurd rfl hn
      |exit k=>exact hq
      |ret=>exact hq
   grind
  ·cases h1
 ·cases h
def allR {σ:Type}(Pn:σ->Prop) (Ps:Ex->σ->Prop):Rd σ->Prop
 | .next s=>Pn s
 | .stop x s=>Ps x s
def allR_ite {σ:Type}{Pn:σ->Prop}{Ps:Ex->σ->Prop}{c:aL}{x y:Rd σ}(h1:c=U->allR Pn Ps x) (h2:c=X->allR Pn Ps y):allR Pn Ps (if c=U then x else y):=by
 cases c with
 |true=>exact h1 rfl
 |false=>exact h2 rfl
def allR_next {σ:Type}{Pn:σ->Prop}{Ps:Ex->σ->Prop}{r:Rd σ}(h:allR Pn Ps r) {s:σ}(e:r=.next s):Pn s:=by subst e;exact h
def allR_stop {σ:Type}{Pn:σ->Prop}{Ps:Ex->σ->Prop}{r:Rd σ}(h:allR Pn Ps r) {x:Ex}{s:σ}(e:r=.stop x s):Ps x s:=by subst e;exact h
def isEx:Ex->Ex->Bool
 | .normal,.normal=>U
 | .ret,.ret=>U
 | .exit n,.exit m=>n==m
 |_,_=>X
def runW_fin {S Y:Type}{f:S->Rd S}{I:S->Prop}{μ:S->aC}{V:S->Y}{Q:Ex->S->Y->Prop}(hd:∀s s',I s->f s=.next s'->I s'/\μ s'<μ s) (hv:∀s,I s->allR (λs'=>V s'=V s) (λx s'=>Q x s'<|V s) (f s)):∀(k:aC) (s:S),I s->μ s<k->Q (runW f k s).1 (runW f k s).2 (V s)
 |0,s,_,h=>A0
 | k+1,s,h,hk=>by
  have h2:=hv s h
  simp only [runW];cases e:f s with
  |next s'=>
   rw [e] at h2;obtain ⟨d1,d2⟩:=hd s s' h e
   have:=runW_fin hd hv k s' d1 A0
   rwa [show V s=V s' from h2.symm]
  |stop x s'=>
   rw [e] at h2;exact h2
def T.rd {σ:Type}(s:σ):T (Rd σ)->Rd σ
 | .ok x=>x
 | .br b x y=>if b=U then x.rd s else y.rd s
 | .req _ x=>x.rd s
 | .no=> .next s
def T.mp {α β:Type}(k:α->β):T α->T β
 | .ok x=> .ok (k x)
 | .br b x y=> .br b (x.mp k) (y.mp k)
 | .req p x=> .req p (x.mp k)
 | .no=> .no
def T.mp_all {α β:Type}{k:α->β}{K:β->Prop}:∀ {t:T α},t.all (λx=>K<|k x)->(t.mp k).all K
 | .ok _,h=>h
 | .br _ _ _,h=>⟨λc=>T.mp_all<|h.1 c,λc=>T.mp_all<|h.2 c⟩
 | .req _ _,h=>⟨h.1,T.mp_all h.2⟩
 | .no,h=>h
def T.rd_all {σ:Type}{s:σ}:∀ {t:T<|Rd σ},t.all (λ_=>True)->t.all (λx=>x=t.rd s)
 | .ok _,_=>rfl
 | .br b _ _,h=>by
  cases b with
  |true=>exact ⟨λc=>T.rd_all<|h.1 c,λc=>CP⟩
  |false=>exact ⟨λc=>CP,λc=>T.rd_all<|h.2 c⟩
 | .req _ _,h=>⟨h.1,T.rd_all h.2⟩
 | .no,h=>h
def T.rd_mp {σ:Type}{s:σ}{k:Rd σ->Rd σ}(h0:k (.next s)=.next s):∀ {t:T<|Rd σ},t.mp k=t->k (t.rd s)=t.rd s
 | .ok x,h=>by
  simp only [T.mp,T.ok.injEq] at h;simp only [T.rd,h]
 | .br b x y,h=>by
  simp only [T.mp,T.br.injEq,DR] at h;simp only [T.rd];split
  ·exact T.rd_mp h0 h.1
  ·exact T.rd_mp h0 h.2
 | .req _ x,h=>by
  simp only [T.mp,T.req.injEq,DR] at h;exact T.rd_mp (t:=x) h0 h
 | .no,_=>h0
structure LpD (σ:Type) where
 (N n:aC)
 lv:aH
 us:List Up
 A:σ->List LV
 B:σ->List Blk
 g:aD->aE->σ
 t:σ->T (Rd σ)
 kp:σ->σ->σ
 rd:σ->σ
 fx:Ex->σ->σ
 xs:aMt
 (E I:σ->Prop)
 mu:σ->Nat
def outT {β:Type}(e:Ex) (k:Ex->β):aMt->T β
 | []=> .no
 | [x]=> .ok (k x)
 |x::y::xs=> .br (isEx e x) (.ok<|k x)<|outT e k (y::xs)
def isEx_eq:∀ {x y:Ex},isEx x y=U->x=y
 | .normal,.normal,_=>rfl
 | .ret,.ret,_=>rfl
 | .exit _,.exit _,h=>by simpa [isEx] using h
def outT_all {β:Type}{e:Ex}{k:Ex->β}:∀ {xs:aMt},xs.any (isEx e)=U->(outT e k xs).all (λq=>q=k e)
 | [],h=>Ab
 | [x],h=>by
  simp only [QT,cu,Bool.or_false] at h;rw [isEx_eq h];rfl
 |x::y::xs,h=>by
  refine ⟨λc=>?_,λc=>outT_all ?_⟩
  ·rw [isEx_eq c];rfl
  ·grind
def exB {σ:Type}(xs:aMt):T (Rd σ)->Bool
 | .ok (.next _)=>U
 | .ok (.stop x _)=>xs.any (isEx x)&&!isEx x .normal
 | .br _ x y=>exB xs x&&exB xs y
 | .req _ x=>exB xs x
 | .no=>U
def exB_rd {σ:Type}{xs:aMt}{s s':σ}{x:Ex}:∀ {t:T<|Rd σ},exB xs t=U->t.rd s=.stop x s'->xs.any (isEx x)=U/\x≠ .normal
 | .ok (.next _),_,h=>Ab
 | .ok (.stop y _),h,e=>by
  simp only [T.rd,Rd.stop.injEq] at e;simp only [exB,AS,C8] at h;rw [e.1] at h;refine ⟨h.1,λe=>?_⟩
  rw [e] at h;exact absurd h.2 (by simp [isEx])
 | .br b x y,h,e=>by
  simp only [exB,AS] at h;simp only [T.rd] at e;split at e
  ·exact exB_rd h.1 e
  ·exact exB_rd h.2 e
 | .req _ x,h,e=>exB_rd (t:=x) h e
 | .no,_,h=>Ab
namespace LpD
variable {σ : Type} (D : LpD σ)
def f (s:σ):Rd σ:=(D.t s).rd s
def run (s:σ):σ:=D.kp s (runW D.f (D.mu s+1) s).2
def exn (s:σ):Ex:=(runW D.f (D.mu s+1) s).1
def sel (vals:aD) (blks:aE):T σ:=selT D.E D.A D.B (D.g vals blks) vals blks
def out (s:σ):T (Ex×List LV×List Blk):=outT (D.exn s) (λx=>(x,frameOf D.n D.lv<|D.A<|D.fx x<|D.run s,D.B<|D.fx x<|D.run s)) D.xs
def lp:aD->aE->T (Ex×List LV×List Blk):=loopT D.N D.n D.lv D.us D.sel D.out
def q (s:σ):Prop:=D.E s/\D.A s=D.A s/\D.B s=D.B s
def kpR (s:σ):Rd σ->Rd σ
 | .next s'=> .next (D.kp s s')
 | .stop x s'=> .stop x<|D.kp s s'
def fxR:Rd σ->Rd σ
 | .next s'=> .next s'
 | .stop x s'=> .stop x<|D.fx x s'
structure Ok:Prop where
 keep:∀s,(D.t (D.rd s)).mp (D.kpR (D.rd s))=D.t (D.rd s):=by intro s;kernel_rfl
 fix:∀s,D.I (D.rd s)->allR (λ_=>True) (λx s'=>D.fx x s'=s') ((D.t (D.rd s)).rd (D.rd s)):=by intro s _;exact LpD.fix_k _ (by kernel_rfl)
 keep0:∀s,D.kp s s=s:=by intros;rfl
 keep2:∀s t r,D.kp (D.kp s t) r=D.kp s r:=by intros;rfl
 fx0:∀s,D.fx .normal (D.rd s)=D.rd s:=by intros;rfl
 exs:∀s,exB D.xs (D.t s)=true:=by intro s;kernel_rfl
def fix_k {s:σ}(h:(D.t s).mp D.fxR=D.t s):allR (λ_=>True) (λx s'=>D.fx x s'=s') ((D.t s).rd s):=by
 have hx:=T.rd_mp (s:=s) (by simp only [fxR]) h
 cases hf:(D.t s).rd s with
 |next s'=>exact ak
 |stop x s'=>
  rw [hf] at hx;simp only [fxR,Rd.stop.injEq,DR] at hx;exact hx
structure Pf (Q:Ex->σ->σ->Prop):Prop where
 ei:∀s,D.E s->D.I s
 rdy:∀s,D.I s->D.rd s=s
 da:∀s,D.I s->allR (λs'=>D.I s'/\D.mu s'<D.mu s) (λx s'=>Q x s s') (D.f s)
 rq:∀s,D.I s->(D.t s).all (λ_=>True)
variable {D} {Q : Ex -> σ -> σ -> Prop}
def Pf.nx (p:D.Pf Q) (s s':σ) (h:D.I s) (e:D.f s=.next s'):D.I s'/\D.mu s'<D.mu s:=allR_next (p.da s h) e
def kept (o:D.Ok) (p:D.Pf Q):∀(k:aC) (s:σ),D.I s->D.mu s<k->D.kp s (runW D.f k s).2=(runW D.f k s).2/\D.fx (runW D.f k s).1 (runW D.f k s).2=(runW D.f k s).2/\D.xs.any (isEx (runW D.f k s).1)=U
 |0,_,_,h=>A0
 | k+1,s,hI,hk=>by
  have h1:=o.keep s
  have h2:=o.fix s
  have h0:=o.fx0 s
  rw [p.rdy s hI] at h0 h1 h2
  have hl:=T.rd_mp (s:=s) (by simp only [kpR,o.keep0]) h1
  have hx:=h2 hI
  change D.kpR s (D.f s)=D.f s at hl
  simp only [runW];cases hf:D.f s with
  |next s'=>
   rw [hf] at hl;simp only [kpR,Rd.next.injEq] at hl;obtain ⟨h1,h2⟩:=p.nx s s' hI hf;obtain ⟨h3,h4⟩:=kept o p k s' h1 A0;refine ⟨?_,h4⟩
   have e:=o.keep2 s s' (runW D.f k s').2
   rw [hl,h3] at e;exact e.symm
  |stop x s'=>
   have hx:=allR_stop hx hf
   rw [hf] at hl;simp only [kpR,Rd.stop.injEq,DR] at hl;exact ⟨hl,hx,(exB_rd (o.exs s) hf).1⟩
def run_eq (o:D.Ok) (p:D.Pf Q) {s:σ}(hE:D.E s):(runW D.f (D.mu s+1) s).2=D.run s:=(kept o p _ s (p.ei s hE)<|VX _).1.symm
def end_ (o:D.Ok) (p:D.Pf Q) (s:σ) (hE:D.E s):∃s',D.I s'/\D.f s'=.stop (D.exn s) (D.run s):=by
 rw [<-run_eq o p hE];exact runW_stop p.nx (D.mu s+1) s (p.ei s hE)<|VX _
def fin (o:D.Ok) (p:D.Pf Q) (s:σ) (hE:D.E s):∃s',D.I s'/\Q (D.exn s) s' (D.run s):=by
 obtain ⟨s',hI,hf⟩:=end_ o p s hE;exact ⟨s',hI,allR_stop (p.da s' hI) hf⟩
def snd (o:D.Ok) (p:D.Pf Q) {b:bE}{t:aD->aE->T (Ex×List LV×List Blk)}(hb:SoundA P G (AN D.N) b t)
  (hn:∀s,backT D.N D.lv D.us (t (frameOf D.n D.lv<|D.A<|D.rd s)<|D.B<|D.rd s)=(D.t<|D.rd s).mp (rdV D.n D.A D.B)):SoundA P G (AN D.N) (.loop b) D.lp:=by
 refine loop_view D.N D.n D.lv D.us D.A D.B D.I D.E D.mu D.f D.sel D.out hb (λ_ _ _ h=>selT_ok h) p.ei p.nx (λs x s' hf=>(exB_rd (o.exs s) hf).2) (λs hI=>⟨?_⟩) λs hE=>?_
 ·have h:=hn s
  rw [p.rdy s hI] at h;rw [h];exact T.mp_all<|T.all_mono (λx hx=>by rw [hx];rfl)<|T.rd_all (s:=s)<|p.rq s hI
 ·obtain ⟨h1,h2,h3⟩:=kept o p _ s (p.ei s hE) (VX<|D.mu s)
  have h4:=outT_all (k:=λx=>(x,frameOf D.n D.lv<|D.A<|D.fx x<|D.run s,D.B<|D.fx x<|D.run s)) h3
  refine T.all_mono (λq hq=>?_) h4
  rw [hq];simp only [run,h1,h2]
def finV (o:D.Ok) (p:D.Pf Q) {Y:Type}(V:σ->Y) (K:Ex->σ->Y->Prop) (hv:∀s,D.I s->allR (λs'=>V s'=V s) (λx s'=>K x s'<|V s) (D.f s)) (s:σ) (hE:D.E s):K (D.exn s) (D.run s) (V s):=by
 rw [<-run_eq o p hE];exact runW_fin p.nx hv (D.mu s+1) s (p.ei s hE)<|VX _
def keepV (o:D.Ok) (p:D.Pf Q) {Y:Type}(V:σ->Y) (hv:∀s,D.I s->allR (λs'=>V s'=V s) (λ_ s'=>V s'=V s) (D.f s)) (s:σ) (hE:D.E s):V (D.run s)=V s:=finV o p V (λ_ s' v=>V s'=v) hv s hE
def stR (s:σ):Rd σ->Rd σ
 | .next s'=> .next s'
 | .stop x _=> .stop x s
def inv (o:D.Ok) (p:D.Pf Q) (hs:∀s,(D.t s).mp (stR s)=D.t s) (s:σ) (hE:D.E s):D.I (D.run s)/\D.f (D.run s)=.stop (D.exn s) (D.run s):=by
 obtain ⟨s',hI,hf⟩:=end_ o p s hE
 have h:=T.rd_mp (s:=s') (k:=stR s') rfl<|hs s'
 have h:stR s' (D.f s')=D.f s':=h
 simp only [stR,Rd.stop.injEq,DR] at h
 grind
end LpD
abbrev T.ix {α:Type}(i:Y) (n:aC) (t:T α):T α:=.req (0<=i/\i<(n:Y)) t
abbrev T.ik {α:Type}(i:Y) (n:aC) (t:T α):T α:=.ix i n<|.req (i.toNat<n) t
abbrev T.rz {α β:Type}(l:List β) (t:T α):T α:=.req (0+(M l)<=M l) t
abbrev T.rm {α:Type}(w n:Y) (t:T α):T α:=.req (0<=n/\n<=n/\w*n<=2^48/\n<2^63) t
abbrev T.ra {α:Type}(n m k:aC) (w:Y) (t:T α):T α:=.req (0+n=m/\(k:Y)*w<=2^47/\(k:Y)<2^62) t
abbrev T.rb {α:Type}(n x:aC) (w:Y) (t:T α):T α:=.ra n n (n+x) w t
abbrev T.re {α β:Type}(n:aC) (l:List β) (t:T α):T α:=.req (0=0/\n=M l) t
abbrev T.r0 {α:Type}(β:Type) (t:T α):T α:=.re 0 ([]:List β) t
abbrev T.rc {α β:Type}(n:Y) (d:β) (k:aC) (t:T α):T α:=.req (n.toNat=M (aq n.toNat d)/\k<=n.toNat) t
abbrev T.nx {σ:Type}(s:σ):T (Rd σ):=.ok<|.next s
abbrev T.so {σ:Type}(x:Ex) (s:σ):T (Rd σ):=.ok<|.stop x s
abbrev T.tu (l:aW):T LV:=.ok<|.v<|.tuple l
instance:Coe Int LV:=⟨λx=> .v<|ag J x⟩
instance:Coe Bool LV:=⟨λx=> .v<|.bool x⟩
instance:Coe Int Value:=⟨.int J⟩
instance:Coe Bool Value:=⟨.bool⟩
instance:Coe (List Int) LV:=⟨λl=> .xl (.int J) l⟩
instance:Coe (List ByteArray) LV:=⟨λl=> .xl .str l⟩
abbrev xQ (n:aC) (l:aD):LV:=.xq n λj=>l.getD j .junk
abbrev bDd:bx:=⟨[],0,.dead,X⟩
abbrev bV (k:aC) (e:Ty) (l:List e.D):bx:=⟨[],k,.vec e l,X⟩
end Go.Sx
namespace Go.Sx
open Go Go.RowKit Go.Proofs.YtjjcgjkagokchaaGreatDoor
variable {P : Program} {G : Globs} {Γ : Specs} {K : Hand} {L : Loops} {β : Nat -> Loc} {Z : Nat -> Prop} {w : World} {n : Nat}
def BM (k:aL5) (x y:Y):Y:=k.wrap<|(BitVec.ofInt k.bits x&&&BitVec.ofInt k.bits y).toNat
def CU (k:aL5) (x y:Y):Y:=k.wrap<|(BitVec.ofInt k.bits x |||BitVec.ofInt k.bits y).toNat
def acv (k:aL5) (x y:Y):Y:=k.wrap<|(BitVec.ofInt k.bits x^^^BitVec.ofInt k.bits y).toNat
def gi (l:aB) (n:Y):Y:=l.getD n.toNat 0
def G0 {l:aB}{n:Y}(h:n.toNat<M l):gi l n=l[n.toNat]:=by simp [gi,List.getD,Cs h]
def Ih {l:aB}{n:Y}(h:n.toNat<M l):gi l n∈l:=by rw [G0 h];exact EL h
def Ye {α:Type}{f:LV->Option α}{l:aD}{d:α}{ys:aT}(h:hd1 f l=ah d) (hr:RL β Z w l ys):∃x y,f x=ah d/\ys=[y]/\R β Z w x y:=by
 unfold hd1 at h;split at h
 ·rename_i x
  simp only [RL] at hr
  grind
 ·cases h
def RL.one {x:LV}{y:aV}(h:R β Z w x y):RL β Z w [x] [y]:=by simp only [RL];exact ⟨y,[],rfl,h,rfl⟩
def Wd:∀(t:Ty) (cs:aD) (d:t.D) (ys:aT),decL t cs=ah d->RL β Z w cs ys->RL β Z w (encL t d) ys
 | .int k,cs,d,ys,h,hr=>by
  obtain ⟨x,y,h1,rfl,h3⟩:=Ye h hr;unfold decI at h1;split at h1
  ·split at h1
   ·rename_i hk;simp only [Ac] at h1;subst h1 hk;exact RL.one h3
   ·cases h1
  ·split at h1
   ·rename_i hk;simp only [Ac] at h1;subst h1 hk;exact RL.one aKb
   ·cases h1
  ·cases h1
 | .bool,cs,d,ys,h,hr=>by
  obtain ⟨x,y,h1,rfl,h3⟩:=Ye h hr;unfold decB at h1;split at h1
  ·simp only [Ac] at h1;subst h1;exact RL.one h3
  ·simp only [Ac] at h1;subst h1;exact RL.one aKb
  ·cases h1
 | .str,cs,d,ys,h,hr=>by
  obtain ⟨x,y,h1,rfl,h3⟩:=Ye h hr;unfold decS at h1;split at h1
  ·simp only [Ac] at h1;subst h1;exact RL.one h3
  ·cases h1
 | .sl e,cs,d,ys,h,hr=>by
  obtain ⟨x,y,h1,rfl,h3⟩:=Ye h hr;exact RL.one (decX_R h1 h3)
 | .pair a b,cs,d,ys,h,hr=>by
  simp only [decL] at h;split at h
  ·rename_i x y h1 h2
   simp only [Ac] at h;subst h
   have e1:=Wd a _ x _ h1<|hr.take a.n
   have e2:=Wd b _ y _ h2<|hr.drop a.n
   rw [<-List.take_append_drop a.n ys];exact e1.app e2
  ·cases h
def upV (P:aR) (t:aS) (x:LV):LV:=
 match tyOf P 8 t,aggT P t with
 | some ty,ah U=>match x with
  | .v (.agg ys)=>(match decL ty (ys.toList.map .v) with
   |some d=>mkAgg (encL ty d)
   |none=>x)
  | .agg l=>(match decL ty l with
   |some d=>mkAgg (encL ty d)
   |none=>x)
  |_=>x
 | some ty,ah X=>(match decL ty [x] with
  |some d=>(match encL ty d with
   | [c]=>c
   |_=>x)
  |none=>x)
 |_,_=>x
def Eg (P:aR):bu->aD->List LV
 |t::ts,x::xs=>upV P t x::Eg P ts xs
 |_,xs=>xs
def upR (P:aR) (ts:bu) (x:LV):LV:=
 match ts with
 | [t]=>upV P t x
 |ts=>match x with
  | .v (.tuple ys)=>mkTup (Eg P ts<|ys.toList.map .v)
  | .tup l=>mkTup (Eg P ts l)
  |x=>x
def RL.plain:∀(ys:aT),RL β Z w (ys.map .v) ys
 | []=>W8
 |y::ys=>by simp only [D2,RL];exact ⟨y,ys,rfl,H0,RL.plain ys⟩
def aeA:∀(ys:aT),okL n (ys.map .v)
 | []=>trivial
 |y::ys=>⟨ak,aeA ys⟩
def aak {t:aS}{x:LV}{y:aV}(h:R β Z w x y):R β Z w (upV P t x) y:=by
 unfold upV;split
 ·split
  ·split
   ·rename_i d hd
    subst h;exact mkAgg_R<|Wd _ _ d _ hd<|RL.plain _
   ·exact h
  ·split
   ·rename_i d hd
    obtain ⟨ys,rfl,h2⟩:=h;exact mkAgg_R<|Wd _ _ d _ hd h2
   ·exact h
  ·exact h
 ·split
  ·rename_i d hd
   split
   ·rename_i c hc
    have:=Wd _ _ d _ hd<|RL.one h
    rw [hc] at this;obtain ⟨y',zs,e1,e2,e3⟩:=this
    grind
   ·exact h
  ·exact h
 ·exact h
def aCV {t:aS}{x:LV}(h:okV n x):okV n (upV P t x):=by
 unfold upV;split
 ·split
  ·split
   ·exact mkAgg_ok<|encL_ok _ _ _
   ·exact h
  ·split
   ·exact mkAgg_ok<|encL_ok _ _ _
   ·exact h
  ·exact h
 ·split
  ·rename_i d hd
   split
   ·rename_i c hc
    have:=encL_ok n _ d
    rw [hc] at this;exact this.1
   ·exact h
  ·exact h
 ·exact h
def YO:∀ {ts:bu}{l:aD}{ys:aT},RL β Z w l ys->RL β Z w (Eg P ts l) ys
 | [],l,ys,h=>dc
 |_::_,[],ys,h=>dc
 |t::ts,x::xs,ys,h=>by
  obtain ⟨y,zs,h1,h2,h3⟩:=h;exact ⟨y,zs,h1,aak h2,YO h3⟩
def XU:∀ {ts:bu}{l:aD},okL n l->okL n (Eg P ts l)
 | [],l,h=>dc
 |_::_,[],h=>dc
 |t::ts,x::xs,h=>by
  exact ⟨aCV h.1,XU h.2⟩
def avj {ts:bu}{x:LV}{y:aV}(h:R β Z w x y):R β Z w (upR P ts x) y:=by
 unfold upR;split
 ·exact aak h
 ·split
  ·simp only [R] at h
   subst h;exact mkTup_R<|YO<|RL.plain _
  ·simp only [R] at h
   obtain ⟨ys,rfl,h2⟩:=h;exact mkTup_R<|YO h2
  ·exact h
def anM {ts:bu}{x:LV}(h:okV n x):okV n (upR P ts x):=by
 unfold upR;split
 ·exact aCV h
 ·split
  ·exact mkTup_ok<|XU<|aeA _
  ·exact mkTup_ok<|XU<|by simpa only [okV] using h
  ·exact h
def IE (P:aR) (ts:bu) (S:aD->T LV):aD->T LV:=λl=>S<|Eg P ts l
def Valid.up {f:bg}{S:aD->T LV}(h:Valid P G f S) (ts:bu):Valid P G f (IE P ts S):=by
 intro args vals w Z lv hz hg hok hr hs;exact h (Eg P ts args) vals w Z lv hz hg (XU hok) (YO hr) hs
/-A pointer to cells that are only read,told by the cells. -/
mutual
def canX:LV->LV
 | .xq n f=> .xq n (λj=>((au n).map λi=>canX (f i)).getD j .junk)
 | .fn f l=> .fn f (canL l)
 | .fb f l=> .fb f (canL l)
 |x=>x
def canL:aD->List LV
 | []=>[]
 |x::xs=>canX x::canL xs
end
mutual
def canX_R:∀ {x:LV}{y:aV},R β Z w x y->R β Z w (canX x) y
 | .xq n f,y,h=>by
  simp only [canX,R] at h|-;obtain ⟨b,off,h1,hz,h2⟩:=h;refine ⟨b,off,h1,hz,λj hj=>?_⟩
  have e:((au n).map λi=>canX (f i)).getD j .junk=canX (f j):=sM
  rw [e];obtain ⟨z,e1,e2⟩:=h2 j hj;exact ⟨z,e1,canX_R e2⟩
 | .fn f l,y,h=>by
  exact aIh
 | .fb f l,y,h=>by
  exact aIh
 | .v _,_,h=>h
 | .bl _,_,h=>h
 | .ki _ _,_,h=>h
 | .own _ _,_,h=>h
 | .agg _,_,h=>h
 | .tup _,_,h=>h
 | .xl _ _,_,h=>h
 | .os ..,_,h=>h
 | .op ..,_,h=>h
 | .om _,_,h=>h
 | .mp ..,_,h=>h
 | .oc ..,_,h=>h
 | .yld _,_,h=>h
 | .junk,_,h=>h
def canL_R:∀ {l:aD}{ys:aT},RL β Z w l ys->RL β Z w (canL l) ys
 | [],ys,h=>by simpa only [canL,RL] using h
 |x::xs,ys,h=>by
  simp only [canL,RL] at h|-;obtain ⟨y,zs,h1,h2,h3⟩:=h;exact ⟨y,zs,h1,canX_R h2,canL_R h3⟩
end
mutual
def canX_ok:∀ {n:aC}{x:LV},okV n x->okV n (canX x)
 | _,.xq m f,h=>by
  simp only [canX,okV] at h|-;intro j
  by_cases hj:j<m
  ·have e:((au m).map λi=>canX (f i)).getD j .junk=canX (f j):=sM
   rw [e];exact canX_ok (h j)
  ·have e:((au m).map λi=>canX (f i)).getD j .junk=.junk:=sM
   rw [e];trivial
 |_,.fn f l,h=>by
  simp only [canX,okV] at h|-;exact canL_ok h
 |_,.fb f l,h=>by
  simp only [canX,okV] at h|-;exact canL_ok h
 |_,.v _,h=>h
 |_,.bl _,h=>h
 |_,.ki _ _,h=>h
 |_,.own _ _,h=>h
 |_,.agg _,h=>h
 |_,.tup _,h=>h
 |_,.xl _ _,h=>h
 |_,.os ..,h=>h
 |_,.op ..,h=>h
 |_,.om _,h=>h
 |_,.mp ..,h=>h
 |_,.oc ..,h=>h
 |_,.yld _,h=>h
 |_,.junk,h=>h
def canL_ok:∀ {n:aC}{l:aD},okL n l->okL n (canL l)
 |_,[],h=>h
 |_,x::xs,h=>by
  simp only [canL,okL] at h|-;exact ⟨canX_ok h.1,canL_ok h.2⟩
end
def Cn {n:aC}{f:aC->LV}{l:aD}(h:(au n).map f=l):((au n).map λi=>canX<|f i)=canL l:=by
 have e:∀l:aD,canL l=l.map canX:=λl=>by induction l with
  |nil=>rfl
  |cons x l ih=>simp only [canL,ih,D2]
 rw [e,<-h,Ek];rfl
def BD (P:aR) (G:bb) (Γ:aLY) (K:aMf) (L:aMs) (fn:aL8) (args:aD):T LV:=(funx P G Γ K L fn args).bind λx=> .ok<|canX<|upR P fn.resultTypes.toList x
def wz {f:bg}{fn:aL8}{X S:aD->T LV}(h0:Valid P G f X) (hS:∀args lv,(S args).all (λx=>x=lv)->((X<|canL args).bind λx=> .ok<|canX<|upR P fn.resultTypes.toList x).all (λx=>x=lv)):Valid P G f (IE P fn.params.toList S):=by
 refine Valid.up ?_ _;intro args vals w Z lv hz hg hok hr hs
 have hs:=hS args lv hs
 obtain ⟨x,h1,h2⟩:=T.bind_all hs;subst h2;exact Calls.mono (h0 (canL args) vals w Z x hz hg (canL_ok hok) (canL_R hr) h1) λe w' ⟨e1,v,e2,e3,e4⟩=>⟨e1,v,e2,canX_ok<|anM e3,canX_R<|avj e4⟩
def fS {f:bg}{fn:aL8}{c:bE}{S:aD->T LV}(hfn:P.funcs[f]? =ah fn) (hc:fn.body=ah c) (hΓ:∀g S,Γ g=ah S->Valid P G g S) (hK:KSound P G K)
  (hL:∀b∈loopsIn c,Sound P G (.loop b)<|L<|firstR b) (hS:∀args lv,(S args).all (λx=>x=lv)->(BD P G Γ K L fn<|canL args).all (λx=>x=lv)):Valid P G f (IE P fn.params.toList S):=
 wz (valid_of hfn hc hΓ hK hL λ_ _ h=>h) hS
def T.red {α:Type}:T α->T α
 | .br U t _=>T.red t
 | .br X _ e=>T.red e
 | .req p t=> .req p (T.red t)
 |t=>t
def T.RE {α:Type}{K:α->Prop}:∀ {t:T α},t.red.all K->t.all K
 | .ok _,h=>h
 | .br U t e,h=>⟨λ_=>T.RE h,λhb=>IV⟩
 | .br X t e,h=>⟨λhb=>IV,λ_=>T.RE h⟩
 | .req p t,h=>⟨h.1,T.RE h.2⟩
 | .no,h=>h
end Go.Sx
namespace Go.Proofs.YtjjcgjkagokchaaGreatDoor
set_option maxRecDepth 100000
set_option maxHeartbeats 4000000
open Go.Proofs.Tryz
open Go.Sx
abbrev AR:Ty:=.pair .str<|.pair A7<|.pair A7<|.pair A7<|.pair (.pair A7 A7)<|.pair A7<|.pair A7<|.pair A7<|.pair A7 A7
abbrev AY:Ty:=.pair .str<|.pair A7<|.pair A7 A7
abbrev AX:Ty:=.pair .str<|.pair A7<|.pair A7<|.pair A7<|.pair A7<|.pair A7<|.pair A7 A7
abbrev AZ:Ty:=.pair .str A7
abbrev Cbl:=Int×Int×Int×Int×Int
abbrev Cd:=ByteArray×Int×Int×Int×(Int×Int)×Cbl
def aK:q_ (List Cd):=⟨⟩
instance:Coe (List Cd) LV:=⟨.xl AR⟩
abbrev Ko:=ByteArray×Int×Int×Int
def aP:q_ (List Ko):=⟨⟩
instance:Coe (List Ko) LV:=⟨.xl AY⟩
abbrev Ch:=ByteArray×Int×Int×Int×Int×Int×Int×Int
def aG:q_ (List Ch):=⟨⟩
instance:Coe (List Ch) LV:=⟨.xl AX⟩
abbrev Ba:=ByteArray×Int
def aQ:q_ (List Ba):=⟨⟩
instance:Coe (List Ba) LV:=⟨.xl AZ⟩
def s5 (a:aD) (k:aK->aF->aP->aG->aQ->T LV):T LV:=match a with
 | [.xl (.pair .str (.pair (.int J) (.pair (.int J) (.pair (.int J) (.pair (.pair (.int J) (.int J)) (.pair (.int J) (.pair (.int J) (.pair (.int J) (.pair (.int J) (.int J)))))))))) cs,.xl (.str) os,.xl (.pair .str (.pair (.int J) (.pair (.int J) (.int J)))) ks,.xl (.pair .str (.pair (.int J) (.pair (.int J) (.pair (.int J) (.pair (.int J) (.pair (.int J) (.pair (.int J) (.int J)))))))) gs,.xl (.pair .str (.int J)) bs]=>k cs os ks gs bs
 |_=> .no
def GV {a:aD}{k:aK->aF->aP->aG->aQ->T LV}{K:LV->Prop}(h:(s5 a k).all K):∃cs os ks gs bs,a=[.xl AR cs,.xl .str os,.xl AY ks,.xl AX gs,.xl AZ bs]/\(k cs os ks gs bs).all K:=by
 unfold s5 at h;exact dG
def AG {x:Y}(h1:-9223372036854775808<=x:=by omega) (h2:x<=9223372036854775807:=by omega):AA x=x:=by
 exact aJB
def inB (n a b:Y):aL:=an (n>=a)&&an (n<=b)
def C1 {n a b:Y}:inB n a b=U↔a<=n/\n<=b:=by simp [inB]
def L8 {α:Type}{l:List α}{d:α}{n:Y}(h:n.toNat<M l):l.getD n.toNat d=l[n.toNat]:=A8
def ND {α:Type}{l:List α}{d:α}{i:Y}(h0:0<=i) (h:i<M l):l.drop i.toNat=l.getD i.toNat d::l.drop (i+1).toNat/\l.take (i+1).toNat=l.take i.toNat++[l.getD i.toNat d]:=by
 have hlt:i.toNat<M l:=A0
 rw [L8 hlt,show (i+1).toNat=i.toNat+1 by omega,List.take_add_one,Cs hlt,QR hlt]
 grind
def emp:bz:=av #[]
def Aa (l:aK) (n:Y):Cd:=l.getD n.toNat (emp,0,0,0,(0,0),0,0,0,0,0)
def AF (l:aG) (n:Y):Ch:=l.getD n.toNat (emp,0,0,0,0,0,0,0)
def Jl (l:aP) (n:Y):Ko:=l.getD n.toNat (emp,0,0,0)
def HO (l:aQ) (n:Y):Ba:=l.getD n.toNat (emp,0)
def gS (l:aF) (n:Y):bz:=l.getD n.toNat emp
def gi_step {l:aB}{i:Y}(h0:0<=i) (h:i<M l):l.drop i.toNat=gi l i::l.drop (i+1).toNat/\l.take (i+1).toNat=l.take i.toNat++[gi l i]:=by
 have hlt:i.toNat<M l:=A0
 rw [G0 hlt,show (i+1).toNat=i.toNat+1 by omega,List.take_add_one,Cs hlt,QR hlt]
 grind
def at7 {l:aG}{n:Y}(h:n.toNat<M l):AF l n=l[n.toNat]:=L8 h
def afr {l:aK}{i:Y}(h0:0<=i) (h:i<M l):l.drop i.toNat=Aa l i::l.drop (i+1).toNat/\l.take (i+1).toNat=l.take i.toNat++[Aa l i]:=ND h0 h
def afq {l:aG}{i:Y}(h0:0<=i) (h:i<M l):l.drop i.toNat=AF l i::l.drop (i+1).toNat/\l.take (i+1).toNat=l.take i.toNat++[AF l i]:=ND h0 h
def xJ {l:aP}{i:Y}(h0:0<=i) (h:i<M l):l.drop i.toNat=Jl l i::l.drop (i+1).toNat/\l.take (i+1).toNat=l.take i.toNat++[Jl l i]:=ND h0 h
def afs {l:aQ}{i:Y}(h0:0<=i) (h:i<M l):l.drop i.toNat=HO l i::l.drop (i+1).toNat/\l.take (i+1).toNat=l.take i.toNat++[HO l i]:=ND h0 h
def zx {l:aF}{i:Y}(h0:0<=i) (h:i<M l):l.drop i.toNat=gS l i::l.drop (i+1).toNat/\l.take (i+1).toNat=l.take i.toNat++[gS l i]:=ND h0 h
def Ci (mi ma st:Y):aL:=an (1<=mi)&&(an (mi<=ma)&&(an (ma<=80)&&(an (1<=st)&&an (st<=80))))
def Fu {mi ma st:Y}:Ci mi ma st=U↔1<=mi/\mi<=ma/\ma<=80/\1<=st/\st<=80:=by simp [Ci]
def D7 (mi ma st:Y):Y:=if Ci mi ma st then (ma-mi) / st+2 else 0
def Co (mi st k:Y):Y:=if k=0 then 0 else mi+(k-1)*st
def amE (mi ma st k:Y):Y:=if k<0\/D7 mi ma st<=k then 1 else 0
def amA (mi ma st k:Y):Y:=if k<0\/D7 mi ma st<=k then 0 else Co mi st k
def FA (mi ma st a:Y):Y:=if Ci mi ma st=X\/a<0 then -1 else if a<mi then 0 else min (D7 mi ma st-1) ((a-mi) / st+1)
def fv {x st:Y}(h0:0<=x) (h1:1<=st):0<=x / st/\x / st<=x:=⟨OG h0 A0,QO _ h0⟩
def aF7 {mi ma st:Y}:0<=D7 mi ma st/\D7 mi ma st<=81:=by
 unfold D7;split
 ·rename_i h
  exact aIQ
 ·omega
def iA {mi ma st:Y}(h:Ci mi ma st=U):2<=D7 mi ma st:=by
 unfold D7;rw [AD h];exact aIQ
def xe {mi ma st:Y}(h:Ci mi ma st=X):D7 mi ma st=0:=by simp [D7,h]
def aqk {a b:Y}(a0:0<=a) (a1:a<=1000) (b0:0<=b) (b1:b<=80):0<=a*b/\a*b<=80000:=
 ⟨GH a0 b0,OH (QQ b1 a0) A0⟩
def yy (bs:bz):∀(n i:aC) (r:List UInt8),bs.size-i=n->ByteArray.toList.loop bs i r=r.reverse++bs.data.toList.drop i
 |0,i,r,h=>by
  rw [ByteArray.toList.loop,AE A0,DD (by simp only [pw];show bs.size<=i;omega),HX]
 | n+1,i,r,h=>by
  have hi:i<M bs.data.toList:=by simp only [pw];show i<bs.size;omega
  rw [ByteArray.toList.loop,AD A0,yy bs n (i+1) _ A0,List.reverse_cons,DQ,QR hi]
  have:bs.get! i=bs.data.toList[i]:=by
   show bs.data[i]! =_
   grind
  rw [this];rfl
def yz (bs:bz):bs.toList=bs.data.toList:=by
 rw [ByteArray.toList,yy bs _ 0 [] rfl];rfl
def an1 {a b:bz}(h:a.toList=b.toList):a=b:=by
 rw [yz,yz] at h;cases a;cases b;simp at h;rw [h]
def lL {a b:bz}:(a==b)=U↔a=b:=by
 show (a.data==b.data)=U↔_
 rw [Cb];exact ⟨λh=>by cases a;cases b;simp at h;rw [h],λh=>Qo⟩
instance:LawfulBEq ByteArray where
 eq_of_beq h:=lL.1 h
 rfl:=lL.2 rfl
def Wx (a b:bz):(a.toList==b.toList)=(a==b):=by
 rw [GG,Cb,lL];exact ⟨an1,λh=>Qo⟩
def kinds:aF:=[av #[102,101,101,100,101,114],av #[99,97,98,108,101],av #[111,119,110,101,114],av #[99,111,110,116,114,97,99,116],av #[99,104,97,114,103,101,114],av #[98,97,121],av #[116,97,114,105,102,102]]
def Yp:aF:=[av #[108,105,109,105,116],av #[110,101,117,116,114,97,108],av #[102,117,115,101],av #[116,104,101,114,109,97,108],av #[102,114,111,109],av #[97,116],av #[112,104,97,115,101,115],av #[97,109,112,115],av #[102,97,108,108,98,97,99,107],av #[111,119,110,101,114],av #[99,97,114,100],av #[114,97,110,107],av #[99,104,97,114,103,101,114]]
def fo:aF:=[av #[115,116,97,114,116],av #[101,110,101,114,103,121],av #[116,105,109,101],av #[105,100,108,101],av #[99,97,112],av #[116,97,120]]
def words:aF:=[av #[111,110],av #[119,111,114,107],av #[115,97,116,117,114,100,97,121],av #[115,117,110,100,97,121],av #[98,101,116,119,101,101,110],av #[112,101,114],av #[102,114,101,101]]
def isIn (l:aF) (w:bz):aL:=l.any (w== ·)
def QM:Y->aF->bz->Int
 |_,[],_=>0
 |n,x::l,w=>if w==x then n else QM (n+1) l w
def xH:∀(n:Y) (l:aF) (w:bz),0<n->(QM n l w !=0)=isIn l w
 |_,[],_,_=>rfl
 | n,x::l,w,h=>by
  simp only [QM,isIn,QT];split
  ·grind
  ·rename_i c
   have:=xH (n+1) l w A0
   simp only [isIn] at this;rw [this]
   simp [c]
def vO (w:bz):aL:=isIn kinds w ||(isIn Yp w ||(isIn fo w ||isIn words w))
def chA (b:Y):aL:=an (b>=97)&&an (b<=122)
def chB (b:Y):aL:=chA b ||((an (b>=48)&&an (b<=57)) ||b==95)
def gwB (w:bz):aL:=an (1<=w.size/\w.size<=12)&&(chA (byI w 0)&&(au w.size).all λi=>i==0 ||chB (byI w i))
def nameB (w:bz):aL:=gwB w&&!vO w
def Cx {p q:Prop}(h:p) (k:p->q):p/\q:=⟨h,k h⟩
def CO (n:aC) (f:Y->aL):aL:=(au n).all λj=>f (j:Y)
def Cm {n:aC}{f:Y->aL}:CO n f=U↔∀j:aC,(j:Y)<(n:Y)->f j=true:=by
 unfold CO
 grind
def Lu {n:aC}{f:Y->aL}(j:aC) (h:(j:Y)<(n:Y)) (hf:f j=X):CO n f=false:=by
 rw [Fk];intro hx;rw [Cm.1 hx j h] at hf;cases hf
def cbZ (c:Cbl):aL:=(c.1==0)&&((c.2.1==0)&&((c.2.2.1==0)&&((c.2.2.2.1==0)&&(c.2.2.2.2==0))))
def G9 (c:Cbl):aL:=cbZ c ||(an (0<=c.1)&&(an (c.1<c.2.1)&&(an (c.2.1<=200000)&&(inB c.2.2.1 0 1000&&(inB c.2.2.2.1 0 1000&&inB c.2.2.2.2 1 1000000)))))
def Fe (i:Y) (c:Cd):aL:=(if i=0 then c.2.1==-1 else inB c.2.1 0 (i-1))&&(inB c.2.2.1 1 1000&&(inB c.2.2.2.1 1 1000&&(((c.2.2.2.2.1.1==0)&&(c.2.2.2.2.1.2==0) ||(inB c.2.2.2.2.1.1 1 1000&&inB c.2.2.2.2.1.2 0 1000000))&&G9 c.2.2.2.2.2)))
def chW (c:Ch):aL:=inB c.2.2.1 1 7&&(inB c.2.2.2.1 1 80&&(inB c.2.2.2.2.1 c.2.2.2.1 80&&(inB c.2.2.2.2.2.1 1 80&&(c.2.2.2.2.2.2.1==0 ||inB c.2.2.2.2.2.2.1 c.2.2.2.1 c.2.2.2.2.1))))
def Es (nc no:Y) (c:Ch):aL:=inB c.2.1 0 (nc-1)&&(inB c.2.2.2.2.2.2.2 0 (no-1)&&chW c)
def koV (no:Y) (c:Ko):aL:=inB c.2.1 0 (no-1)&&(inB c.2.2.1 1 9&&inB c.2.2.2 1 1000000)
def once {α:Type} [BEq α] (l:List α):aL:=(au<|M l).all λj=>match l[j]? with
 |some x=>!((l.take j).contains x)
 |none=>U
def wk {α:Type} [BEq α] [LawfulBEq α] {l:List α}:once l=U↔∀(j:aC) (h:j<M l),¬l[j]∈l.take j:=by
 unfold once;rw [B7];refine ⟨λh j hj hm=>?_,λh j hj=>?_⟩
 ·have:=h j (IK.2 hj)
  rw [Cs hj] at this;simp only [C8] at this;rw [VQ.2 hm] at this;cases this
 ·have hj:=IK.1 hj
  grind
def Iz (cs:aK) (os:aF) (ks:aP) (gs:aG) (bs:aQ):aL:=
 CO (M cs) (λj=>Fe j<|Aa cs j)&&(ks.all (koV<|M os)&&(once (ks.map (·.2.2.2))&&(gs.all (Es (M cs)<|M os)&&bs.all (λb=>inB b.2 0<|(M gs:Y)-1))))
def Ie (cs:aK) (os:aF) (ks:aP) (gs:aG) (bs:aQ):aF:=cs.map (·.1)++os++ks.map (·.1)++gs.map (·.1)++bs.map (·.1)
def B0 (cs:aK) (os:aF) (ks:aP) (gs:aG) (bs:aQ):aL:=
 an (1<=M cs/\M cs<=16/\M os<=8/\M ks<=32/\M gs<=16/\M bs<=24)&&((Ie cs os ks gs bs).all nameB&&(once (Ie cs os ks gs bs)&&Iz cs os ks gs bs))
def auG {nm:bz}{i up li ne ra he am mo ga lo de:Y}(hi:0<=i) {K:aL->Prop}(h:K<|Fe i (nm,up,li,ne,(ra,he),am,mo,ga,lo,de)):
  ((if i==0 then (up !=(-1)) ||((an<|i>0)&&((an<|up<0) ||(an<|up>=i))) else (an<|i>0)&&((an<|up<0) ||(an<|up>=i)))=U->K X)/\
  ((if i==0 then (up !=(-1)) ||((an<|i>0)&&((an<|up<0) ||(an<|up>=i))) else (an<|i>0)&&((an<|up<0) ||(an<|up>=i)))=X->
   (((!(inB li (1:Y) (1000:Y))) ||(!(inB ne (1:Y) (1000:Y))))=U->K X)/\
   (((!(inB li (1:Y) (1000:Y))) ||(!(inB ne (1:Y) (1000:Y))))=X->
    (((!((ra==0)&&(he==0)))&&(!(inB ra (1:Y) (1000:Y)) ||(!(inB he (0:Y) (1000000:Y)))))=U->K X)/\
    (((!((ra==0)&&(he==0)))&&(!(inB ra (1:Y) (1000:Y)) ||(!(inB he (0:Y) (1000000:Y)))))=X->
     (((am==0)&&((mo==0)&&((ga==0)&&((lo==0)&&(de==0)))))=U->K U)/\
     (((am==0)&&((mo==0)&&((ga==0)&&((lo==0)&&(de==0)))))=X->K ((inB am (0:Y) (200000:Y))&&((inB mo (0:Y) (200000:Y))&&((inB ga (0:Y) (1000:Y))&&((inB lo (0:Y) (1000:Y))&&((inB de (1:Y) (1000000:Y))&&(an<|mo>am)))))))))):=by
 have e1:(if i==0 then (up !=(-1)) ||((an<|i>0)&&((an<|up<0) ||(an<|up>=i))) else (an<|i>0)&&((an<|up<0) ||(an<|up>=i)))=!(if i=0 then up==-1 else inB up 0 (i-1)):=by
  by_cases h0:i=0
  ·grind
  ·have:(i==0)=false:=by simpa using h0
   rw [this,AE h0,GG]
   simp [inB]
   omega
 rw [e1];unfold Fe at h;simp only at h;generalize (if i=0 then up==-1 else inB up 0 (i-1))=b1 at*
 refine ⟨λc=>?_,λc=>⟨λc2=>?_,λc2=>⟨λc3=>?_,λc3=>⟨λc4=>?_,λc4=>?_⟩⟩⟩⟩
 ·grind
 all_goals
  have c:b1=true:=EO
  rw [c,Cr] at h
 ·have:(inB li 1 1000&&inB ne 1 1000)=false:=A8
  grind
 all_goals
  have c2:inB li 1 1000=U/\inB ne 1 1000=true:=D4
  rw [c2.1,c2.2,Cr,Cr] at h
 ·have:((ra==0)&&(he==0) ||(inB ra 1 1000&&inB he 0 1000000))=false:=by
   grind
  grind
 all_goals
  have:((ra==0)&&(he==0) ||(inB ra 1 1000&&inB he 0 1000000))=true:=by
   grind
  rw [this,Cr] at h
 ·unfold G9 cbZ at h
  grind
 ·unfold G9 cbZ at h
  rw [c4,CI] at h
  have:((inB am (0:Y) (200000:Y))&&((inB mo (0:Y) (200000:Y))&&((inB ga (0:Y) (1000:Y))&&((inB lo (0:Y) (1000:Y))&&((inB de (1:Y) (1000000:Y))&&(an<|mo>am))))))=(an (0<=am)&&(an (am<mo)&&(an (mo<=200000)&&(inB ga 0 1000&&(inB lo 0 1000&&inB de 1 1000000))))):=by
   rw [GG];simp only [AS,C1,AU];omega
  rw [this];exact h
def R7 {α β:Type} [BEq β] [LawfulBEq β] {l:List α}{d:α}{p:α->aL}{k:α->β}:(∀j:aC,(j:Y)<(M l:Y)->(p (l.getD (j:Y).toNat d)&&!(((l.take (j:Y).toNat).map k).contains<|k<|l.getD (j:Y).toNat d))=U)↔(l.all p&&once (l.map k))=true:=by
 have hg:∀(j:aC) (h:j<M l),l.getD (j:Y).toNat d=l[j]:=λj h=>L8 (n:=(j:Y)) h
 rw [AS,B7,wk]
 constructor
 ·intro h
  refine ⟨λx hx=>?_,λj hj hm=>?_⟩
  ·obtain ⟨j,hj,rfl⟩:=List.getElem_of_mem hx
   have:=h j A0
   rw [hg j hj,AS] at this;exact this.1
  ·have hj':j<M l:=A8
   have:=h j A0
   rw [hg j hj',AS,C8] at this
   have h2:=this.2
   rw [Bs,List.map_take,VQ.2 A8] at h2;cases h2
 ·intro ⟨h1,h2⟩ j hj
  have hj':j<M l:=A0
  rw [hg j hj',AS,C8];refine ⟨h1 _<|EL _,?_⟩;rw [Fk,Bs,List.map_take]
  grind
def N4 {α:Type}{l:List α}{d:α}{p:α->aL}:(∀j:aC,(j:Y)<(M l:Y)->p (l.getD (j:Y).toNat d)=U)↔l.all p=true:=by
 have hg:∀(j:aC) (h:j<M l),l.getD (j:Y).toNat d=l[j]:=λj h=>L8 (n:=(j:Y)) h
 rw [B7]
 constructor
 ·intro h x hx
  obtain ⟨j,hj,rfl⟩:=List.getElem_of_mem hx
  have:=h j A0
  rw [hg j hj] at this;exact this
 ·intro h j hj
  grind
def EB (cs:aK):aL:=CO (M cs) λj=>an<|(Aa cs j).2.1<j
def NJ {cs:aK}(h:EB cs=U) {c:Y}(h0:0<=c) (h1:c<M cs):(Aa cs c).2.1<c:=by
 have:=Cm.1 h c.toNat A0
 grind
def Ff:aC->aK->Y->Y->Bool
 |0,_,_,_=>X
 |k+1,cs,o,c=>if c>=0 then (c==o ||Ff k cs o (Aa cs c).2.1) else X
def FH (cs:aK) (o c:Y):aL:=Ff (c.toNat+2) cs o c
def aDK {cs:aK}{o:Y}(hu:EB cs=U):∀(k k':aC) (c:Y),c<M cs->(c+1).toNat<k->(c+1).toNat<k'->Ff k cs o c=Ff k' cs o c
 |0,_,_,_,h,_=>A0
 |_+1,0,_,_,_,h=>A0
 | k+1,k'+1,c,hc,h,h'=>by
  simp only [Ff]
  by_cases h0:c>=0
  ·rw [AD h0,AD h0]
   have:=NJ hu h0 hc
   rw [aDK hu k k' (Aa cs c).2.1 A0 A0 A0]
  ·grind
def aDL {cs:aK}{o c:Y}(hu:EB cs=U) (hc:c<M cs):FH cs o c=if c>=0 then (c==o ||FH cs o (Aa cs c).2.1) else false:=by
 unfold FH;rw [Ff]
 by_cases h0:c>=0
 ·rw [AD h0,AD h0]
  have:=NJ hu h0 hc
  rw [aDK hu (c.toNat+1) ((Aa cs c).2.1.toNat+2) (Aa cs c).2.1 A0 A0 A0]
 ·grind
def atB (cs:aK) (gs:aG):aL:=CO (M gs) λj=>an<|(AF gs j).2.1<(M cs:Y)
def lO {cs:aK}{gs:aG}(h:atB cs gs=U) {c:Y}(h0:0<=c) (h1:c<M gs):(AF gs c).2.1<(M cs:Y):=by
 have:=Cm.1 h c.toNat A0
 grind
def Er (cs:aK) (gs:aG) (o:Y) (k:aC):aB:=((au k).map λj:aC=>(j:Y)).filter λj=>FH cs o (AF gs j).2.1
def af4 {cs:aK}{gs:aG}{o:Y}{k:aC}:Er cs gs o (k+1)=Er cs gs o k++(if FH cs o (AF gs k).2.1=U then [(k:Y)] else []):=by
 unfold Er;rw [OF,J8,cE]
 grind
def we {cs:aK}{gs:aG}{o:Y}{k:aC}:M (Er cs gs o k)<=k:=by
 unfold Er
 grind
def CV {cs:aK}{os:aF}{ks:aP}{gs:aG}{bs:aQ}:B0 cs os ks gs bs=U↔(1<=M cs/\M cs<=16/\M os<=8/\M ks<=32/\M gs<=16/\M bs<=24)/\(Ie cs os ks gs bs).all nameB=U/\once (Ie cs os ks gs bs)=U/\CO (M cs) (λj=>Fe j<|Aa cs j)=U/\ks.all (koV<|M os)=U/\once (ks.map (·.2.2.2))=U/\gs.all (Es (M cs)<|M os)=U/\bs.all (λb=>inB b.2 0<|(M gs:Y)-1)=true:=by
 unfold B0 Iz
 grind
def wR {cs:aK}{os:aF}{ks:aP}{gs:aG}{bs:aQ}(h:B0 cs os ks gs bs=U) {c:Y}(h0:0<=c) (h1:c<M cs):Fe c (Aa cs c)=true:=by
 have:=Cm.1 (CV.1 h).2.2.2.1 c.toNat A0
 grind
def N7 {cs:aK}{os:aF}{ks:aP}{gs:aG}{bs:aQ}(h:B0 cs os ks gs bs=U) {c:Y}(h0:0<=c) (h1:c<M gs):Es (M cs) (M os) (AF gs c)=true:=by
 have:=B7.1 (CV.1 h).2.2.2.2.2.2.1 gs[c.toNat]<|EL _
 rwa [at7 A0]
def wQ {cs:aK}{os:aF}{ks:aP}{gs:aG}{bs:aQ}(h:B0 cs os ks gs bs=U):EB cs=true:=
 Cm.2 λj hj=>by
  have:=wR h (c:=j) A0 hj
  unfold Fe at this;rw [AS] at this
  have h1:=this.1
  rw [AU];split at h1
  ·grind
  ·have:=C1.1 h1;omega
def wS {cs:aK}{os:aF}{ks:aP}{gs:aG}{bs:aQ}(h:B0 cs os ks gs bs=U):atB cs gs=true:=
 Cm.2 λj hj=>by
  have:=N7 h (c:=j) A0 hj
  unfold Es at this;rw [AS] at this
  have:=C1.1 this.1
  rw [AU];omega
def vR (cs:aK) (os:aF) (ks:aP) (gs:aG) (bs:aQ) (o:Y):Y:=if B0 cs os ks gs bs=U/\0<=o/\o<M cs then 0 else 1
def N0 (cs:aK) (os:aF) (ks:aP) (gs:aG) (bs:aQ) (o:Y):aB:=if B0 cs os ks gs bs=U/\0<=o/\o<M cs then Er cs gs o (M gs) else []
def VA (ga ro:Y):aC->Int
 |0=>0
 |k+1=>if ga*(k+1)*(k+1)<=ro then (k:Y)+1 else VA ga ro k
def avs {ga m:Y}(h0:0<=ga) (h1:ga<=1000) (m0:0<=m) (m1:m<=1000):(0<=ga*m/\ga*m<=1000000)/\0<=ga*m*m/\ga*m*m<=1000000000:=by
 have a1:=OD h1 m0
 have a2:=GH h0 m0
 have a3:ga*m*m<=1000000*m:=OD A0 m0
 exact ⟨⟨a2,A0⟩,GH a2 m0,A0⟩
def ahz {ga a b:Y}(h0:0<=ga) (a0:0<=a) (h:a<=b):ga*a*a<=ga*b*b:=by
 have h1:=QQ h h0
 exact OH (OD h1 a0)<|QQ h<|GH h0 A0
def aAd {ga ro r:Y}:∀ {k:aC},0<=r->r<=k->(r=0\/ga*r*r<=ro)->(∀a:Y,r<a->a<=k->¬ga*a*a<=ro)->VA ga ro k=r
 |0,h0,h1,_,_=>by simp only [VA];omega
 | k+1,h0,h1,h2,h3=>by
  simp only [VA]
  by_cases hr:r=(k:Y)+1
  ·subst hr
   omega
  ·rw [AE<|h3 ((k:Y)+1) A0 A0]
   exact aAd h0 A0 h2 λa ha hk=>h3 a ha A0
def prm (ga ro:Y):Y:=VA ga ro 1000
def pmE (c:Cbl):Y:=if G9 c=U then 0 else 1
def K2 (c:Cbl):Y:=if G9 c=U then (if cbZ c=U then 1000 else prm c.2.2.1 ((if c.2.2.2.2<c.2.2.2.1 then c.2.2.2.2 else c.2.2.2.1)*(c.2.1-c.1))) else 0
def auH {c:Cbl}(h:G9 c=U) (hz:cbZ c=X):(0<=c.1/\c.1<c.2.1/\c.2.1<=200000)/\(0<=c.2.2.1/\c.2.2.1<=1000)/\(0<=c.2.2.2.1/\c.2.2.2.1<=1000)/\1<=c.2.2.2.2/\c.2.2.2.2<=1000000:=by
 unfold G9 at h;rw [hz,CI] at h;simp only [AS,AU,C1] at h;omega
def HW (f:Y) (l:aB):Y:=l.foldl (λa n=>if n<a then n else a) f
def DF (c:Cd):Y:=if c.2.2.2.2.1.1=0 then HW c.2.2.1 [c.2.2.2.1,K2 c.2.2.2.2.2] else HW c.2.2.1 [c.2.2.2.1,K2 c.2.2.2.2.2,c.2.2.2.2.1.1]
def aiJ {c:Cbl}:(pmE c !=0)=!G9 c:=by
 unfold pmE
 grind
abbrev DM:Ty:=.pair A7<|.sl A7
abbrev Rw:=Int×List Int
def aX:q_ (List Rw):=⟨⟩
def By (l:aX) (n:Y):Rw:=l.getD n.toNat (0,[])
def fu {l:aX}{n:Y}(h:n.toNat<M l):By l n=l[n.toNat]:=L8 h
def afn {l:aX}{i:Y}(h0:0<=i) (h:i<M l):l.drop i.toNat=By l i::l.drop (i+1).toNat/\l.take (i+1).toNat=l.take i.toNat++[By l i]:=ND h0 h
def G0 {l:aB}{n:Y}(h:n.toNat<M l):gi l n=l[n.toNat]:=L8 h
def usA (ph p:Y):aL:=BM J ph (AA<|(1:Y)*2^(min p.toNat 64)) !=0
def Cv (gs:aG) (p:Y) (l:aB):aB:=l.filter λk=>usA (AF gs k).2.2.1 p
def T9 (gs:aG) (p:Y) (l:aB):Prop:=0<=p/\M l<=1000/\∀k∈l,0<=k/\k<(M gs:Y)
def alI {gs:aG}{p:Y}{l:aB}:M (Cv gs p l)<=M l:=qG _ _
def xj {cs:aK}{gs:aG}{o:Y}{k:aC}{x:Y}(h:x∈Er cs gs o k):0<=x/\x<(k:Y):=by
 have:=(Fs.1 h).1
 obtain ⟨j,h1,rfl⟩:=Dp.1 this
 have:=IK.1 h1
 omega
def rowP (cs:aK) (gs:aG) (c p:Y):aX:=if M (Cv gs p<|Er cs gs c<|M gs)>0 then [(DF<|Aa cs c,Cv gs p<|Er cs gs c<|M gs)] else []
def eI (cs:aK) (gs:aG) (c:Y):aX:=rowP cs gs c 0++rowP cs gs c 1++rowP cs gs c 2
def CS (cs:aK) (gs:aG):aC->List Rw
 |0=>[]
 |k+1=>CS cs gs k++eI cs gs k
def wM {cs:aK}{gs:aG}{c p:Y}:M (rowP cs gs c p)<=1:=by
 unfold rowP
 grind
def afS {cs:aK}{gs:aG}{c:Y}:M (eI cs gs c)<=3:=by
 unfold eI
 have h0:=wM (cs:=cs) (gs:=gs) (c:=c) (p:=0)
 have h1:=wM (cs:=cs) (gs:=gs) (c:=c) (p:=1)
 have h2:=wM (cs:=cs) (gs:=gs) (c:=c) (p:=2)
 simp only [Av];omega
def fj {cs:aK}{gs:aG}:∀ {k:aC},M (CS cs gs k)<=3*k
 |0=>by simp [CS]
 |k+1=>by
  have:=fj (cs:=cs) (gs:=gs) (k:=k)
  have h2:=afS (cs:=cs) (gs:=gs) (c:=k)
  simp only [CS,Av];omega
def LR (cs:aK) (os:aF) (ks:aP) (gs:aG) (bs:aQ):Y:=if B0 cs os ks gs bs=U then 0 else 1
def H6 (cs:aK) (os:aF) (ks:aP) (gs:aG) (bs:aQ):aX:=if B0 cs os ks gs bs=U then CS cs gs (M cs) else []
def FY (a:Y):aL:=an (a>=0)&&an (a<=80)
def N8 {a:Y}:FY a=U↔0<=a/\a<=80:=by simp [FY]
def Ma (n i:Y):aL:=an (0<=i)&&an (i<n)
def fe {n i:Y}:Ma n i=U↔0<=i/\i<n:=by simp [Ma]
def Ed (l:aB) (n:Y):aL:=an ((M l:Y)=n)&&(l.all (Ma n)&&once l)
def smA (alive l:aB):Y:=(l.map λm=>gi alive m).sum
def Iq (i:Y) (o:aI) (l:aB):aI:=l.foldl (λo m=>o.modify m.toNat (·++[i])) o
def F9 (o:aI) (i:Y):aX->List (List Int)
 | []=>o
 |r::rs=>F9 (Iq i o r.2) (i+1) rs
def F8 (alive sm:aB) (i:Y):aX->List Int
 | []=>sm
 |r::rs=>F8 alive (sm.set i.toNat<|sm.getD i.toNat 0+smA alive r.2) (i+1) rs
def xX {alive l:aB}{m:Y}:smA alive (m::l)=gi alive m+smA alive l:=by simp [smA]
def fW {i m:Y}{o:aI}{l:aB}:Iq i o (m::l)=Iq i (o.modify m.toNat (·++[i])) l:=rfl
def vv {i:Y}:∀ {l:aB}{o:aI},M (Iq i o l)=M o
 | [],o=>rfl
 |m::l,o=>by rw [fW,vv,cF]
def zC {i:Y}:∀ {l:aB}{o:aI}{b:Y},(∀x∈o,(M x:Y)<=b)->∀x∈Iq i o l,(M x:Y)<=b+M l
 | [],o,b,h,x,hx=>by have:=h x hx;simp only [BG];omega
 | m::l,o,b,h,x,hx=>by
  rw [fW] at hx
  have:=zC (b:=b+1) (λy hy=>by
   obtain ⟨k,hk,rfl⟩:=GB.1 hy;rw [cF] at hk
   have:=h o[k]<|EL _
   rw [List.getElem_modify];split
   ·grind
   ·omega) x hx
  simp only [BB];omega
def afQ {l:aB}{i:aC}(h:i<M l):l.set i (l.getD i 0+0)=l:=by
 simp_all
def aeT {l:aB}{i:aC}{a b:Y}(h:i<M l):letI c:=l.set i<|l.getD i 0+a;c.set i (c.getD i 0+b)=l.set i (l.getD i 0+(a+b)):=by
 have e:(l.set i<|l.getD i 0+a).getD i 0=l.getD i 0+a:=A8
 rw [e,List.set_set]
 congr 1
 omega
def mx (a b:Y):Y:=if a<b then b else a
def CB (gs:aG) (i k:Y):Y:=Co (AF gs i).2.2.2.1 (AF gs i).2.2.2.2.2.1 k
def Dg (gs:aG) (i a:Y):Y:=FA (AF gs i).2.2.2.1 (AF gs i).2.2.2.2.1 (AF gs i).2.2.2.2.2.1 a
def EA (gs:aG) (alive:aB) (i k:Y):Y:=mx (gi alive i) (CB gs i k)-mx (gi alive i) (CB gs i<|k-1)
def Hy (rows:aX) (sm:aB) (mo r:Y):aL:=an<|sm.getD r.toNat 0+mo<=(By rows r).1
def I1 (sm:aB) (mo:Y) (l:aB):aB:=l.foldl (λsm r=>sm.set r.toNat<|sm.getD r.toNat 0+mo) sm
abbrev Tr:=List Int×List Int×Bool
def Dx (O:aI) (rows:aX) (gs:aG) (alive most:aB) (level:Y) (t:Tr) (i:Y):Tr:=
 if t.2.1.getD i.toNat 0=level-1/\level<=Dg gs i (gi most i) then
  (if ((O.getD i.toNat []).all<|Hy rows t.1<|EA gs alive i level)=U then (I1 t.1 (EA gs alive i level)<|O.getD i.toNat [],t.2.1.set i.toNat level,U) else t)
 else t
def swp (O:aI) (rows:aX) (gs:aG) (alive most:aB) (level:Y) (t:Tr) (l:aB):Tr:=l.foldl (Dx O rows gs alive most level) t
def shl (O:aI) (rows:aX) (gs:aG) (alive most order:aB):aC->Y->aB->aB->List Int
 |0,_,_,lv=>lv
 |f+1,level,sm,lv=>if (swp O rows gs alive most level (sm,lv,X) order).2.2=U then shl O rows gs alive most order f (level+1) (swp O rows gs alive most level (sm,lv,X) order).1 (swp O rows gs alive most level (sm,lv,X) order).2.1 else (swp O rows gs alive most level (sm,lv,X) order).2.1
def wD {sm l:aB}{mo r:Y}:I1 sm mo (r::l)=I1 (sm.set r.toNat<|sm.getD r.toNat 0+mo) mo l:=rfl
def fQ {mo:Y}:∀ {l sm:aB},M (I1 sm mo l)=M sm
 | [],_=>rfl
 |r::l,sm=>by rw [wD,fQ,BR]
def Om {sm:aB}{i k:aC}{v:Y}:(sm.set i v).getD k 0=if i=k/\k<M sm then v else sm.getD k 0:=by
 by_cases h:i=k
 ·subst h
  by_cases h2:i<M sm
  ·simp [h2]
  ·grind
 ·simp [h]
def ady {mo:Y}:∀ {l sm:aB}{k:aC},(∀r∈l,r.toNat≠k)->(I1 sm mo l).getD k 0=sm.getD k 0
 | [],_,_,_=>rfl
 |r::l,sm,k,h=>by
  rw [wD,ady λx hx=>h x A8,Om,AE λe=>h r AH e.1]
def wV {mo:Y}:∀ {l sm:aB}{k:aC},l.Nodup->(∀r∈l,0<=r)->k<M sm->(I1 sm mo l).getD k 0=sm.getD k 0+(if (k:Y)∈l then mo else 0)
 | [],sm,k,_,_,_=>by simp [I1]
 | r::l,sm,k,hn,h0,hk=>by
  rw [wD];obtain ⟨n1,n2⟩:=J9.1 hn
  have hr:=h0 r AH
  by_cases e:r.toNat=k
  ·rw [ady λx hx e2=>n1 (by
    have:=h0 x A8
    have:r=x:=A0
    rw [this];exact hx),Om,AD ⟨e,hk⟩,AD A8,e]
  ·rw [wV n2 (λx hx=>h0 x A8) A8,Om,AE λc=>e c.1]
   have:¬(k:Y)=r:=A0
   simp [this]
def lr {mi ma st a:Y}:FA mi ma st a<=80:=by
 have:=aF7 (mi:=mi) (ma:=ma) (st:=st)
 unfold FA;split
 ·omega
 ·split
  ·omega
  ·omega
structure OkT (O:aI) (rows:aX) (gs:aG) (alive most order:aB):Prop where
 ol:M O=16
 ord:∀i∈order,(0<=i/\i<16)/\i<(M gs:Y)/\i<(M alive:Y)/\i<(M most:Y)
 al:∀a∈alive,0<=a/\a<=80
 mo:∀a∈most,0<=a/\a<=80
 has:∀i∈order,Ci (AF gs i).2.2.2.1 (AF gs i).2.2.2.2.1 (AF gs i).2.2.2.2.2.1=U
 row:∀o∈O,o.Nodup/\(M o:Y)<=1000/\∀r∈o,0<=r/\r<(M rows:Y)
 cap:∀r∈rows,r.1<=1000
structure OkS (rows:aX) (order sm lv:aB):Prop where
 len:M sm=M rows
 bd:∀k:aC,0<=sm.getD k 0/\sm.getD k 0<=2000
 DJ:∀i∈order,i<(M lv:Y)
 lvb:∀k:aC,0<=lv.getD k 0/\lv.getD k 0<=80
def av6 {mi st k:Y}(h:1<=mi/\mi<=80/\1<=st/\st<=80) (h0:0<=k) (h1:k<=81):0<=Co mi st k/\Co mi st k<=6480:=by
 unfold Co;split
 ·omega
 ·have a1:0<=(k-1)*st:=GH A0 A0
  have a2:(k-1)*st<=(k-1)*80:=QQ A0 A0
  omega
def xm {mi st j k:Y}(h:1<=mi/\1<=st) (h0:0<=j) (h1:j<=k):Co mi st j<=Co mi st k:=by
 unfold Co;split
 ·split
  ·omega
  ·have a1:0<=(k-1)*st:=GH A0 A0
   omega
 ·rw [AE A0]
  have:(j-1)*st<=(k-1)*st:=OD A0 A0
  omega
def aF5 {gs:aG}{alive:aB}{i k:Y}(hh:Ci (AF gs i).2.2.2.1 (AF gs i).2.2.2.2.1 (AF gs i).2.2.2.2.2.1=U) (ha:0<=gi alive i/\gi alive i<=80) (h0:1<=k) (h1:k<=81):0<=EA gs alive i k/\EA gs alive i k<=10000:=by
 obtain ⟨g1,g2,g3,g4,g5⟩:=Fu.1 hh
 have b1:=av6 (mi:=(AF gs i).2.2.2.1) (st:=(AF gs i).2.2.2.2.2.1) (k:=k) ⟨g1,A0,g4,g5⟩ A0 h1
 have b3:=xm (mi:=(AF gs i).2.2.2.1) (st:=(AF gs i).2.2.2.2.2.1) (j:=k-1) (k:=k) ⟨g1,g4⟩ A0 A0
 unfold EA mx CB;omega
def Ih {l:aB}{i:Y}(h0:0<=i) (h:i<(M l:Y)):gi l i∈l:=by
 rw [G0 A0];exact EL _
theorem aDH {O:aI}{rows:aX}{gs:aG}{alive most order:aB}{level:Y}{t:Tr}{i:Y}(hT:OkT O rows gs alive most order) (hS:OkS rows order t.1 t.2.1) (hi:i∈order) (h0:1<=level) (h1:level<=81):letI b:=Dx O rows gs alive most level t i;OkS rows order b.1 b.2.1:=by
 unfold Dx;split
 ·split
  ·rename_i hc hf
   obtain ⟨⟨o0,o1⟩,o2,o3,o4⟩:=hT.ord i hi
   have hl80:=lr (mi:=(AF gs i).2.2.2.1) (ma:=(AF gs i).2.2.2.2.1) (st:=(AF gs i).2.2.2.2.2.1) (a:=gi most i)
   have hl81:=hc.2
   unfold Dg at hl81
   have hm:=aF5 (gs:=gs) (alive:=alive) (k:=level) (hT.has i hi) (hT.al _<|Ih o0 o3) h0 h1
   have ho:O.getD i.toNat []∈O:=by
    have hl:=hT.ol
    grind
   obtain ⟨r1,r2,r3⟩:=hT.row _ ho
   refine ⟨by simp only;rw [fQ];exact hS.len,λk=>?_,λj hj=>by simp only [BR];exact hS.DJ j hj,λk=>by
    have:=hS.lvb k
    rw [Om];split<;>omega⟩
   by_cases hk:k<M t.1
   ·rw [wV r1 (λr hr=>(r3 r hr).1) hk]
    have hb:=hS.bd k
    split
    ·rename_i hkm
     have hfit:=B7.1 hf _ hkm
     unfold Hy at hfit;rw [AU,Bs] at hfit
     have hk2:=hS.len
     have:=hT.cap (By rows (k:Y)) rp
     omega
    ·omega
   ·rw [DC,VR (by rw [fQ];omega)]
    simp
  ·exact hS
 ·exact hS
def im {O:aI}{rows:aX}{gs:aG}{alive most order:aB}{level:Y}(hT:OkT O rows gs alive most order) (h0:1<=level) (h1:level<=81):∀(l:aB) (t:Tr),(∀i∈l,i∈order)->OkS rows order t.1 t.2.1->OkS rows order (swp O rows gs alive most level t l).1 (swp O rows gs alive most level t l).2.1
 | [],t,_,h=>h
 |i::l,t,hl,h=>im hT h0 h1 l _ (λj hj=>hl j A8)<|aDH hT h (hl i AH) h0 h1
def fg {O:aI}{rows:aX}{gs:aG}{alive most:aB}{level:Y}:∀(l:aB) (t:Tr),(swp O rows gs alive most level t l).2.2=U->t.2.2=U\/level<=80
 | [],t,h=> .inl h
 | i::l,t,h=>by
  rcases fg l _ h with h2|h2
  ·unfold Dx at h2
   split at h2
   ·rename_i hc
    have:=lr (mi:=(AF gs i).2.2.2.1) (ma:=(AF gs i).2.2.2.2.1) (st:=(AF gs i).2.2.2.2.2.1) (a:=gi most i)
    have h3:=hc.2
    unfold Dg at h3;omega
   ·grind
  ·grind
def aec {O:aI}{rows:aX}{gs:aG}{alive most:aB}{level:Y}{t:Tr}{i:Y}:M (Dx O rows gs alive most level t i).2.1=M t.2.1:=by
 unfold Dx;split
 ·split
  ·grind
  ·rfl
 ·rfl
def adw {O:aI}{rows:aX}{gs:aG}{alive most:aB}{level:Y}:∀(l:aB) (t:Tr),M (swp O rows gs alive most level t l).2.1=M t.2.1
 | [],t=>rfl
 |i::l,t=>(adw l _).trans aec
def aCc {O:aI}{rows:aX}{gs:aG}{alive most order:aB}(hT:OkT O rows gs alive most order):∀(f:aC) (level:Y) (sm lv:aB),1<=level->level<=81->OkS rows order sm lv->M (shl O rows gs alive most order f level sm lv)=M lv/\∀k:aC,0<=(shl O rows gs alive most order f level sm lv).getD k 0/\(shl O rows gs alive most order f level sm lv).getD k 0<=80
 |0,_,_,lv,_,_,h=>⟨rfl,h.lvb⟩
 | f+1,level,sm,lv,h0,h1,h=>by
  have hk:=im hT h0 h1 order (sm,lv,X) (λ_ h=>h) h
  have hl:=adw (O:=O) (rows:=rows) (gs:=gs) (alive:=alive) (most:=most) (level:=level) order (sm,lv,X)
  have hs:=fg (O:=O) (rows:=rows) (gs:=gs) (alive:=alive) (most:=most) (level:=level) order (sm,lv,X)
  rw [shl];split
  ·rename_i hc
   have h80:level<=80:=by
    rcases hs hc with h|h
    ·cases h
    ·exact h
   obtain ⟨g1,g2⟩:=aCc hT f (level+1) _ _ A0 A0 hk
   grind
  ·exact ⟨hl,hk.lvb⟩
def HU (i:Y):aX->Y->List Int
 | [],_=>[]
 |r::rs,j=>(if r.2.contains j then [i] else [])++HU (i+1) rs j
def aeV {o:aI}{f:aB->aB}{j k:aC}(h:k<M o):(o.modify j f).getD k []=if j=k then f (o.getD k []) else o.getD k []:=by
 grind
def xa {i:Y}:∀ {l:aB}{o:aI}{k:aC},l.Nodup->(∀m∈l,0<=m)->k<M o->(Iq i o l).getD k []=o.getD k []++(if l.contains (k:Y) then [i] else [])
 | [],o,k,_,_,_=>by simp [Iq]
 | m::l,o,k,hn,h0,hk=>by
  obtain ⟨n1,n2⟩:=J9.1 hn
  have hm:=h0 m AH
  rw [fW,xa n2 (λx hx=>h0 x A8) A8,aeV hk]
  by_cases e:m.toNat=k
  ·have e2:(k:Y)=m:=A0
   grind
  ·rw [AE e]
   have:¬(k:Y)=m:=A0
   simp [this]
def ot (r:Rw):Prop:=r.2.Nodup/\∀m∈r.2,0<=m
def adv:∀ {rs:aX}{o:aI}{i:Y},M (F9 o i rs)=M o
 | [],_,_=>rfl
 |r::rs,o,i=>by rw [F9,adv,vv]
def yx:∀ {rs:aX}{o:aI}{i:Y}{k:aC},(∀r∈rs,ot r)->k<M o->(F9 o i rs).getD k []=o.getD k []++HU i rs k
 | [],o,i,k,_,_=>by simp [F9,HU]
 |r::rs,o,i,k,h,hk=>by
  obtain ⟨h1,h2⟩:=h r AH;rw [F9,yx (λx hx=>h x A8) (by rw [vv];exact hk),xa h1 h2 hk,HU,DQ]
def Ow:∀ {rs:aX}{i j x:Y},x∈HU i rs j↔i<=x/\x<i+M rs/\(By rs<|x-i).2.contains j=U
 | [],i,j,x=>by simp [HU];omega
 | r ::rs,i,j,x=>by
  rw [HU,BN,Ow]
  by_cases e:x=i
  ·subst e
   have g0:By (r::rs) (x-x)=r:=by simp [By]
   rw [g0]
   constructor
   ·rintro (h|h)
    ·split at h
     ·rename_i hc
      grind
     ·cases h
    ·omega
   ·rintro ⟨_,_,h⟩
    rw [AD h]
    simp
  ·have hn:¬x∈(if r.2.contains j then [i] else []):=by
    split
    ·grind
    ·simp
   simp only [BB]
   constructor
   ·rintro (h|⟨h1,h2,h3⟩)
    ·grind
    ·refine ⟨A0,A0,?_⟩
     exact aIo
   ·rintro ⟨h1,h2,h3⟩
    refine .inr ⟨A0,A0,?_⟩;exact aIo
def fX:∀ {rs:aX}{i j:Y},(HU i rs j).Nodup
 | [],_,_=>List.nodup_nil
 | r::rs,i,j=>by
  rw [HU];split
  ·rw [qF,J9]
   refine ⟨λh=>?_,fX⟩
   have:=(Ow.1 h).1
   omega
  ·rw [FK];exact fX
def aAi:∀ {rs:aX}{i j:Y},M (HU i rs j)<=M rs
 | [],_,_=>Ar _
 |r::rs,i,j=>by
  have:=aAi (rs:=rs) (i:=i+1) (j:=j)
  rw [HU]
  grind
def adu {alive:aB}:∀ {rs:aX}{sm:aB}{i:Y},M (F8 alive sm i rs)=M sm
 | [],_,_=>rfl
 |r::rs,sm,i=>by rw [F8,adu,BR]
def yw {alive:aB}:∀ {rs:aX}{sm:aB}{i:Y}{k:aC},0<=i->k<M sm->(F8 alive sm i rs).getD k 0=sm.getD k 0+(if i<=(k:Y)/\(k:Y)<i+M rs then smA alive (By rs<|(k:Y)-i).2 else 0)
 | [],sm,i,k,_,_=>by
  rw [AE AH]
  simp [F8]
 | r ::rs,sm,i,k,hi,hk=>by
  rw [F8,yw A0 A8,Om]
  by_cases e:i.toNat=k
  ·have e2:(k:Y)=i:=A0
   rw [AD ⟨e,hk⟩,AE A0,AD A8,e,e2]
   have:By (r::rs) (i-i)=r:=by simp [By]
   rw [this];omega
  ·rw [AE λc=>e c.1]
   by_cases c:i+1<=(k:Y)/\(k:Y)<i+1+M rs
   ·rw [AD c,AD A8]
    have:By (r::rs) ((k:Y)-i)=By rs ((k:Y)-(i+1)):=by
     unfold By;rw [show ((k:Y)-i).toNat=((k:Y)-(i+1)).toNat+1 by omega]
     simp
    rw [this]
   ·grind
def aCZ {alive:aB}(ha:∀a∈alive,0<=a/\a<=80):∀ {l:aB},(∀m∈l,0<=m/\m<(M alive:Y))->0<=smA alive l/\smA alive l<=80*M l
 | [],_=>by simp [smA]
 |m::l,h=>by
  have h1:=aCZ ha (l:=l) λx hx=>h x A8
  have hm:=h m AH
  have:=ha (gi alive m)<|Ih hm.1 hm.2
  rw [xX];simp only [BB];omega
def ado {α:Type}{l:List α}(p:α->aL) (h:l.Nodup):(l.filter p).Nodup:=List.Pairwise.filter p h
def aeo {cs:aK}{gs:aG}{o:Y}{k:aC}:(Er cs gs o k).Nodup:=by
 refine ado _ ?_;exact qY _ (λa b h=>A0) cM
def alo {gs:aG}{p k:Y}{l:aB}:k∈Cv gs p l↔k∈l/\usA (AF gs k).2.2.1 p=true:=by simp [Cv,Fs]
def azr {cs:aK}{gs:aG}{c p:Y}{r:Rw}(h:r∈rowP cs gs c p):r=(DF<|Aa cs c,Cv gs p<|Er cs gs c<|M gs)/\M (Cv gs p<|Er cs gs c<|M gs)>0:=by
 unfold rowP at h;exact dG
def wh {cs:aK}{gs:aG}{r:Rw}:∀ {k:aC},r∈CS cs gs k->∃c p:Y,(0<=c/\c<(k:Y))/\(p=0\/p=1\/p=2)/\r=(DF<|Aa cs c,Cv gs p<|Er cs gs c<|M gs)/\M r.2>0
 |0,h=>Ab
 | k+1,h=>by
  rw [CS,BN] at h;rcases h with h|h
  ·obtain ⟨c,p,h1,h2,h3⟩:=wh h
   grind
  ·unfold eI at h
   rw [BN,BN] at h;rcases h with (h|h) |h
   ·exact rH
   ·exact rH
   ·exact rH
def row_mem {cs:aK}{gs:aG}{r:Rw}{k:aC}(h:r∈CS cs gs k):r.2.Nodup/\(∀m∈r.2,0<=m/\m<(M gs:Y))/\M r.2<=M gs/\M r.2>0:=by
 obtain ⟨c,p,h1,h2,h3,h4⟩:=wh h;subst h3;refine ⟨ado _ aeo,λm hm=>xj (alo.1 hm).1,E5 alI we,h4⟩
def Dd (gs:aG) (lv:aB):aB:=(au<|M gs).map λk:aC=>CB gs (k:Y)<|lv.getD k 0
def OL (rows:aX):aI:=F9 (aq 16 []) 0 rows
def SM (alive:aB) (rows:aX):aB:=F8 alive (aq (M rows) 0) 0 rows
def E8 (cs:aK) (os:aF) (ks:aP) (gs:aG) (bs:aQ) (al mo od:aB):aL:=B0 cs os ks gs bs&&(an (M al=M gs)&&(an (M mo=M gs)&&(al.all FY&&(mo.all FY&&Ed od (M gs)))))
def shV (rows:aX) (gs:aG) (al mo od:aB):aB:=shl (OL rows) rows gs al mo od 81 1 (SM al rows)<|aq (M al) 0
def K3 (cs:aK) (os:aF) (ks:aP) (gs:aG) (bs:aQ) (al mo od:aB):Y:=if E8 cs os ks gs bs al mo od=U then 0 else 1
def Dw (cs:aK) (os:aF) (ks:aP) (gs:aG) (bs:aQ) (al mo od:aB):aB:=if E8 cs os ks gs bs al mo od=U then Dd gs (shV (CS cs gs<|M cs) gs al mo od) else []
def IY {cs:aK}{os:aF}{ks:aP}{gs:aG}{bs:aQ}{al mo od:aB}:E8 cs os ks gs bs al mo od=U↔B0 cs os ks gs bs=U/\M al=M gs/\M mo=M gs/\al.all FY=U/\mo.all FY=U/\Ed od (M gs)=true:=by
 simp [E8]
def aFq:∀ {l:aB}{f:Y},HW f l<=f
 | [],f=>GF _
 |n::l,f=>by
  have:HW f (n::l)=HW (if n<f then n else f) l:=rfl
  have:=aFq (l:=l) (f:=if n<f then n else f)
  split at this<;>rename_i h
  ·grind
  ·grind
def ajL {c:Cd}:DF c<=c.2.2.1:=by
 unfold DF;split<;>exact aFq
def aeK {rows:aX}:M (OL rows)=16:=by rw [OL,adv,Bv]
def mN {rows:aX}(h:∀r∈rows,ot r) {k:aC}(hk:k<16):(OL rows).getD k []=HU 0 rows k:=by
 rw [OL,yx h A8]
 have:(aq 16 ([]:aB)).getD k []=[]:=by
  grind
 grind
def aio {cs:aK}{gs:aG}{k:aC}:∀r∈CS cs gs k,ot r:=λr hr=>⟨(row_mem hr).1,λm hm=>((row_mem hr).2.1 m hm).1⟩
def wE {al:aB}{rows:aX}:M (SM al rows)=M rows:=by rw [SM,adu,Bv]
def aGL {al:aB}{rows:aX}{k:aC}(hk:k<M rows):(SM al rows).getD k 0=smA al (By rows k).2:=by
 rw [SM,yw (GF _) A8,AD A0,Mp]
 grind
def wF {od:aB}{n i:Y}(h:Ed od n=U) (hi:i∈od):0<=i/\i<n:=by
 unfold Ed at h;simp only [AS,B7] at h;exact fe.1<|h.2.1 i hi
end Go.Proofs.YtjjcgjkagokchaaGreatDoor
end
