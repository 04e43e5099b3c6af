/- Helpers for ParkLimits. Conditions: none. -/
import Derived.Test.YtjdlmobanmhohaaGreatDoorQr1
set_option linter.defProp false
set_option linter.unusedVariables false
set_option linter.unusedSimpArgs false
noncomputable section
open List renaming length→M,length→aa,replicate→aq,range→au
open Bool renaming true→U,true→ae,false→X,false→af
open Go.Value renaming int→ag
open Option renaming some→ah,none→aj
open Go.IntKind renaming i64→J,i64→ai,u8→aw,u32→ax
open True renaming intro→ak
open Decidable renaming decide→an
open ByteArray renaming mk→av
open Go.Region renaming ready→ay,wanted→az
open Go.Instr renaming findNow→aA
namespace Go.Sx
open Go Go.RowKit Go.Proofs.YtjdlmobanmhohaaGreatDoor
variable {P : Program} {G : B3} {Γ : Specs} {β : Nat -> Loc} {Z : Nat -> Prop} {Z0 : Gz} {w w0 : World} {F : List LV} {H : List AB} {a : Act} {ds : List Deferred}
def aei {r:aWc}{name:aWC}{args:aWg}{ty:aWo}{o:aVP}{lv:LV}(ho:o.op=.call {callee:=.invoke r name,args,argTypes:=ty}) (hΓ:∀g S,Γ g=ah S->Valid P G g S)
  (hW:RW G w0 Z0 Z β H w) (hF:RF ds β Z w (M H) F a) {g:aVY} {rv:aVQ} (hf:jF P (AM G F r) name=ah (g,rv))
  {H':aVB} (h:(M0 P Γ H o g (.v rv::args.toList.map (λx=>norm<|AM G F x))).all λq=>q=(lv,H')):
  Dn P (Post ds G w0 Z0 F a β H w o lv H') ((execOp a.eval o).run P w):=by
 obtain ⟨t,v,hy,hm⟩:=aIG hf (hF.eval hW.Cl r).1
 have hargs:RL β Z w (.v rv::args.toList.map (λx=>norm<|AM G F x)) (#[rv]++args.map a.eval).toList:=by
  rw [lZ,NS];simp only [KG,ES,RL];refine ⟨rv,_,rfl,Jm,RL.CZ AI λi x hx=>?_⟩
  rw [Dj] at hx|-;cases hq:args.toList[i]? with
  |none=>simp [hq] at hx
  |some q=>simp [hq] at hx;subst hx;exact ⟨a.eval q,AI,PH (hF.eval hW.Cl q).1⟩
 have hoka:AT (M H) (.v rv::args.toList.map (λx=>norm<|AM G F x)):=by
  refine ⟨ak,AT.CZ λi x hx=>?_⟩
  cases hq:args.toList[i]? with
  |none=>simp [hq] at hx
  |some q=>simp [hq] at hx;subst hx;exact Tc (hF.eval hW.Cl q).2
 obtain ⟨fn,S,h1,h2,h3,_⟩:=Ta h;exact aFF hΓ hW hF (aEY ho hy hm h1 h2 h3 w) hargs hoka h
structure FU (P:aVM) (G:B3) (K:aWq):Prop where
 k:∀(w0:aVJ) (Z0:Gz) (Z:aVx->Prop) (β:aVx->aWe) (H:aVB) (w:aVJ) (g:aVY) (args:aVy) (vals:aVS) (lv:LV) (H':aVB),RW G w0 Z0 Z β H w->RL β Z w args vals.toList->AT (M H) args->(K.k g args H).all (λq=>q=(lv,H'))->
  Calls P g vals w λe w'=>∃v,e=.returned v/\∃Z' β',RW G w0 Z0 Z' β' H' w'/\R β' Z' w' lv v/\okV H'.length lv
 y :∀(w0:aVJ) (Z0:Gz) (Z:aVx->Prop) (β:aVx->aWe) (H:aVB) (w:aVJ) (k:aVx) (args:aVy) (vals:aVS) (lv:LV) (H':aVB),RW G w0 Z0 Z β H w->RL β Z w args vals.toList->AT (M H) args->(K.y k args H).all (λq=>q=(lv,H'))->
  ∃r:Loop,w.heap[(β k).b]? =ah (.loop r)/\vals.size=r.params.size/\RoundIn Fence.wide 0 P (β k).b r.fn ((r.params.zip vals).foldl (λt (p,v)=>t.setIfInBounds p v) r.tmps) r.assign r.body w
   λe w'=>∃v,e=.returned v/\∃Z' β',RW G w0 Z0 Z' β' H' w'/\R β' Z' w' lv v/\okV H'.length lv
def Qg:FU P G GB:=⟨λ_ _ _ _ _ _ _ _ _ _ _ _ _ _ h=>Ar,λ_ _ _ _ _ _ _ _ _ _ _ _ _ _ h=>Ar⟩
def cy (hΓ:∀g S,Γ g=ah S->Valid P G g S) (hW:RW G w0 Z0 Z β H w) (hF:RF ds β Z w (M H) F a) {o:aVP}{lv:LV}{H':aVB}
  (h:(Ax P G Γ F H o).all λq=>q=(lv,H')):Dn P (Post ds G w0 Z0 F a β H w o lv H') ((execOp a.eval o).run P w):=by
 have hsel:∀cs b,o.op≠ .select cs b:=λcs b e=>by unfold Ax at h;simp only [e] at h;cases h
 have ev:=λx=>hF.eval hW.Cl x
 have same:∀ {t:T LV},(t.bind λy=>(T.ok (y,H):T<|LV×List AB)).all (λq=>q=(lv,H'))->t.all (λz=>z=lv)/\H'=H:=λh=>by
  obtain ⟨x,h1,h2⟩:=T.B5 h;simp only [T.all,Az] at h2;obtain ⟨rfl,rfl⟩:=h2;exact ⟨h1,rfl⟩
 have gen:(Dq P G F o).all (λz=>z=lv)->H'=H->Dn P (Post ds G w0 Z0 F a β H w o lv H') ((execOp a.eval o).run P w):=λhg e=>by
  subst e;exact aej hsel hW hF hg
 have val:∀ {v:aVQ},H'=H->(execOp a.eval o).run P w=.ok (.value v) w->R β Z w lv v->okV (M H) lv->Dn P (Post ds G w0 Z0 F a β H w o lv H') ((execOp a.eval o).run P w):=λe hrun hr hk=>by
  subst e;exact aEd hW hF hrun hr hk
 unfold Ax at h;split at h
 ·cases h
 ·exact aMu
 ·exact aMu
 ·rename_i c x y ho
  obtain ⟨h1,h2⟩:=same h;obtain ⟨g,e1,e2,e3⟩:=adZ h1 (ev c).1 (ev x).1 (ev y).1 (ev x).2 (ev y).2;exact val h2 (v:=if g then a.eval x else a.eval y) aPO e2 e3
 ·rename_i t ho
  split at h
  ·rename_i z hz
   split at h
   ·rename_i cs hcs
    simp only [T.all,Az] at h;obtain ⟨h1,h2⟩:=h;obtain ⟨c1,_⟩:=qC (β:=β) (Z:=Z) (w:=w) hcs (show R β Z w (.v z) z by simp only [R])
    obtain ⟨β',b1,b2,b3,b4⟩:=hW.alloc (t:=t) c1<|pX hcs trivial
    have hrun:(execOp a.eval o).run P w=.ok (.value<|.pointer<|ah ⟨w.heap.size,0,aj⟩) (w.alloc<|.cells z.cells t):=by
     have e:=λw=>oz hz w
     simp [execOp,ho,Instr.alloc,e,newVar,newRow]
    exact aM3
   ·cases h
  ·cases h
 ·rename_i t x ho
  split at h
  ·rename_i cs hcs
   simp only [T.all,Az] at h;obtain ⟨h1,h2⟩:=h;obtain ⟨c1,_⟩:=qC hcs (ev x).1;obtain ⟨β',b1,b2,b3,b4⟩:=hW.alloc (t:=t) c1<|pX hcs (ev x).2
   have hrun:(execOp a.eval o).run P w=.ok (.value<|.pointer<|ah ⟨w.heap.size,0,aj⟩) (w.alloc<|.cells (a.eval x).cells t):=by
    simp [execOp,ho,Instr.box,newVar,newRow]
   exact aM3
  ·cases h
 ·rename_i t x ho
  obtain ⟨h1,h2⟩:=same h;obtain ⟨z,e1,e2,e3⟩:=pF hW h1 (ev x).1 (ev x).2;exact yN
 ·rename_i t x y ho
  obtain ⟨H1,h1,h2⟩:=T.B5 h;simp only [T.all,Az] at h2;obtain ⟨h2,h3⟩:=h2;subst h3;obtain ⟨w',e1,e2,e3,e4,e6⟩:=adu hW h1 (ev x).1 (ev y).1 (ev y).2;exact aLs
 ·rename_i s x i ho
  obtain ⟨h1,h2⟩:=same h;obtain ⟨z,e1,e2,e3⟩:=adI (w:=w) h1 (ev x).1 (ev x).2;exact aH
 ·rename_i t x i ho
  obtain ⟨h1,h2⟩:=same h;obtain ⟨z,e1,e2,e3⟩:=aDb (w:=w) h1 (ev x).1 (ev i).1 (ev x).2;exact aH
 ·rename_i t parts ho
  obtain ⟨h1,h2⟩:=same h
  obtain ⟨z,e1,e2,e3⟩:=adJ (β:=β) (Z:=Z) (w:=w) (n:=M H) (pv:=parts.map λq=>(q.1,a.eval q.2)) h1 Vu (by
   simp only [NS,HI];refine RL.CZ AI λi x hx=>?_
   rw [Dj] at hx|-;cases hq:parts.toList[i]? with
   |none=>simp [hq] at hx
   |some q=>simp [hq] at hx;subst hx;exact ⟨a.eval q.2,AI,(fc<|ev q.2).1⟩) (by
   simp only [HI];refine AT.CZ λi x hx=>?_
   rw [Dj] at hx;cases hq:parts.toList[i]? with
   |none=>simp [hq] at hx
   |some q=>simp [hq] at hx;subst hx;exact (fc<|ev q.2).2)
  exact val h2 (v:=z) KL e2 e3
 ·rename_i t len parts ho
  split at h
  ·rename_i h0
   subst h0;split at h
   ·rename_i hpe
    have hpa:parts=#[]:=by
     have:=Zr.1 hpe
     rw [<-xN (xs:=parts),this]
    obtain ⟨w',v,e1,e2,β',e3,e4,e5,e6,e7,e8⟩:=ae6 hW h
    have hrun:(execOp a.eval o).run P w=.ok (.value v) w':=by simp [execOp,ho,hpa,e1]
    exact aLv
   ·cases h
  split at h
  rotate_left
  ·obtain ⟨w',v,e1,e2,β',e3,e4,e5,e6,e7,e8⟩:=aev (pv:=parts.map λq=>(q.1,a.eval q.2)) hW h Vu (by
    simp only [NS,HI];refine RL.CZ AI λi x hx=>?_
    rw [Dj] at hx|-;cases hq:parts.toList[i]? with
    |none=>simp [hq] at hx
    |some q=>simp [hq] at hx;subst hx;exact ⟨a.eval q.2,AI,(ev q.2).1⟩) (by
    simp only [HI];refine AT.CZ λi x hx=>?_
    rw [Dj] at hx;cases hq:parts.toList[i]? with
    |none=>simp [hq] at hx
    |some q=>simp [hq] at hx;subst hx;exact (ev q.2).2)
   have hrun:(execOp a.eval o).run P w=.ok (.value v) w':=KL
   rw [hrun];refine ⟨Z,β',e4,hF.mono A0 e3 (λ_ h=>h) λb hz=>EE e2<|hW.Bf b hz,e5,e6,A0,e3,λk k1 k2=>?_,Nc e2⟩
   have:k=M H:=A0
   rw [this,e8];exact .inl<|Aq _
  split at h
  ·obtain ⟨w',v,Z',β',e1,e2,ez,e3,e4,e5,e6,e7,e8⟩:=aes (pv:=parts.map λq=>(q.1,a.eval q.2)) hW h Vu (by
    simp only [NS,HI];refine RL.CZ AI λi x hx=>?_
    rw [Dj] at hx|-;cases hq:parts.toList[i]? with
    |none=>simp [hq] at hx
    |some q=>simp [hq] at hx;subst hx;exact ⟨a.eval q.2,AI,(ev q.2).1⟩) (by
    simp only [HI];refine AT.CZ λi x hx=>?_
    rw [Dj] at hx;cases hq:parts.toList[i]? with
    |none=>simp [hq] at hx
    |some q=>simp [hq] at hx;subst hx;exact (ev q.2).2)
   have hrun:(execOp a.eval o).run P w=.ok (.value v) w':=KL
   rw [hrun];refine ⟨Z',β',e4,hF.mono A0 e3 ez λb hz=>EE e2<|hW.Bf b hz,e5,e6,A0,e3,λk k1 k2=>?_,Nc e2⟩
   have:k=M H:=A0
   rw [this,e8];exact .inl<|Aq _
  split at h
  rotate_left
  ·unfold o7 at h
   split at h
   ·rename_i hcl
    have hargs:RL β Z w ((parts.toList.map λq=>(q.1,AM G F q.2)).map (·.2)) ((parts.map λq=>(q.1,a.eval q.2)).toList.map (·.2)):=by
     simp only [NS,HI];refine RL.CZ AI λi x hx=>?_
     rw [Dj] at hx|-;cases hq:parts.toList[i]? with
     |none=>simp [hq] at hx
     |some q=>simp [hq] at hx;subst hx;exact ⟨a.eval q.2,AI,(ev q.2).1⟩
    have hoka:AT (M H) ((parts.toList.map λq=>(q.1,AM G F q.2)).map (·.2)):=by
     simp only [HI];refine AT.CZ λi x hx=>?_
     rw [Dj] at hx;cases hq:parts.toList[i]? with
     |none=>simp [hq] at hx
     |some q=>simp [hq] at hx;subst hx;exact (ev q.2).2
    generalize hvs:(parts.toList.map λq=>(q.1,AM G F q.2))=vs at h hcl hargs hoka
    obtain ⟨y,h1,h2⟩:=T.B5 h;simp only [T.all,Az] at h2;obtain ⟨rfl,rfl⟩:=h2;obtain ⟨_,hg,h1⟩:=T.B5 h1
    have hG:=T.Bb (K':=λ_=>True) (λ_ _=>trivial) hg
    obtain ⟨c1,c2⟩:=TE hcl
    have hP:=hW.pub<|reach H 64 (ownsL<|vs.map (·.2)) []
    have hH:=λk b hb=>(hW.blk k b hb).2
    have hr0:RL β (ZP Z β H λk=>k∈reach H 64 (ownsL<|vs.map (·.2)) []) w ((vs.map (·.2)).map<|C3 H 6) ((parts.map λq=>(q.1,a.eval q.2)).toList.map (·.2)):=
     Td (S:=λk=>k∈reach H 64 (ownsL<|vs.map (·.2)) []) hargs hoka c1 (λx y hm hs hx hr=>Mv hW c2 6 x y (P5 hG x hm) hs hx hr)
    have hok0:AT 0 ((vs.map (·.2)).map<|C3 H 6):=by
     exact aM0
    have emap:(vs.map λq=>(q.1,C3 H 6 q.2)).map (·.2)=(vs.map (·.2)).map (C3 H 6):=Vu
    obtain ⟨elem,cells,e1,e2,e3⟩:=aEV (β:=β) (Z:=ZP Z β H λk=>k∈reach H 64 (ownsL<|vs.map (·.2)) []) (w:=w) (n:=0) (pv:=parts.map λq=>(q.1,a.eval q.2)) h1 (by rw [<-hvs];simp [Zi]) (by rw [emap];exact hr0) (by rw [emap];exact hok0)
    have hrun:(execOp a.eval o).run P w=.ok (.value<|.slice (ah ⟨w.heap.size,0,aj⟩) len len) (w.alloc<|.cells cells elem):=by
     simp [execOp,ho,e1]
    have hbw:Below w.heap.size w (w.alloc<|.cells cells elem):=(Below.refl _ _).alloc (Aq _) _
    rw [hrun];refine ⟨_,β,hP.call hbw,?_,?_,okV.mono (NV _) _ e3,by rw [KN];exact Aq _,λ_ _=>rfl,λk h1 h2=>by rw [KN] at h2;omega,Nc hbw⟩
    ·exact aMO
    ·exact e2 β _ _ w.heap.size (λ_ h=> .inl h) (λb hz=>EE hbw<|hP.Bf b hz) (λj v hv=>by
      show World.cell? _ _=_
      unfold World.cell?
      have:(w.alloc<|.cells cells elem).heap[w.heap.size]? =ah (.cells cells elem (0,0)):=by
       exact aM
      simp only [this]
      simpa using hv)<|.inr ⟨Aq _,AI⟩
   ·cases h
  ·obtain ⟨h1,h2⟩:=same h
   subst h2
   have hp:=aEV (β:=β) (Z:=Z) (w:=w) (n:=M H') (pv:=parts.map λq=>(q.1,a.eval q.2)) h1 Vu (by
    simp only [NS,HI];refine RL.CZ AI λi x hx=>?_
    rw [Dj] at hx|-;cases hq:parts.toList[i]? with
    |none=>simp [hq] at hx
    |some q=>simp [hq] at hx;subst hx;exact ⟨a.eval q.2,AI,(ev q.2).1⟩) (by
    simp only [HI];refine AT.CZ λi x hx=>?_
    rw [Dj] at hx;cases hq:parts.toList[i]? with
    |none=>simp [hq] at hx
    |some q=>simp [hq] at hx;subst hx;exact (ev q.2).2)
   obtain ⟨elem,cells,e1,e2,e3⟩:=hp
   have hrun:(execOp a.eval o).run P w=.ok (.value<|.slice (ah ⟨w.heap.size,0,aj⟩) len len) (w.alloc<|.cells cells elem):=by
    simp [execOp,ho,e1]
   have hbw:Below w.heap.size w (w.alloc<|.cells cells elem):=(Below.refl _ _).alloc (Aq _) _
   rw [hrun];refine ⟨_,β,hW.call hbw,hF.mono (Aq _) (λ_ _=>rfl) (λ_ h=> .inl h) λb hz=>EE hbw<|hW.Bf b hz,?_,e3,Aq _,λ_ _=>rfl,λk h1 h2=>A0,Nc hbw⟩
   exact e2 β _ _ w.heap.size (λ_ h=> .inl h) (λb hz=>EE hbw<|hW.Bf b hz) (λj v hv=>by
    show World.cell? _ _=_
    unfold World.cell?
    have:(w.alloc<|.cells cells elem).heap[w.heap.size]? =ah (.cells cells elem (0,0)):=by
     exact aM
    simp only [this]
    simpa using hv)<|.inr ⟨Aq _,AI⟩
 ·rename_i t n c ho
  obtain ⟨w',v,e1,e2,β',e3,e4,e5,e6,e7,e8⟩:=aeA hW h (ev n).1 (ev c).1
  have hrun:(execOp a.eval o).run P w=.ok (.value v) w':=KL
  exact aLv
 ·rename_i t x lo hi ho
  split at h
  ·exact NY
  ·obtain ⟨h1,h2⟩:=same h
   have ro:∀q:Option Operand,RO β Z w (q.map<|AM G F) (q.map a.eval):=λq=>by
    cases q with
    |none=>trivial
    |some q=>exact (ev q).1
   obtain ⟨z,e1,e2,e3⟩:=adF (w:=w) h1 (ev x).1 (ro lo) (ro hi) (ev x).2;exact aH
 ·rename_i t x lo hi mx ho
  split at h
  ·exact NY
  ·obtain ⟨h1,h2⟩:=same h
   have ro:RO β Z w (lo.map<|AM G F) (lo.map a.eval):=by
    cases lo with
    |none=>trivial
    |some q=>exact (ev q).1
   obtain ⟨z,e1,e2,e3⟩:=ad6 (w:=w) (N:=M H) h1 (ev x).1 ro (ev hi).1 (ev mx).1;exact aH
 ·rename_i t ho
  split at h
  ·rename_i e he
   simp only [T.all,Az] at h;obtain ⟨h1,h2⟩:=h;obtain ⟨β',b1,b2,b3,b4⟩:=hW.agV (e:=e) (t:=t);exact aMH
  split at h
  ·rename_i kd hkd
   simp only [T.all,Az] at h;obtain ⟨h1,h2⟩:=h;obtain ⟨β',b1,b2,b3,b4⟩:=hW.agW (kd:=kd) (t:=t);exact aMH
  ·cases h
 ·exact aMG
 ·exact aMG
 ·rename_i t x i ho
  obtain ⟨h1,h2⟩:=same h;obtain ⟨z,e1,e2,e3⟩:=adU hW h1 (ev x).1 (ev i).1 (ev x).2;exact yN
 ·rename_i t x i ho
  split at h
  ·exact NY
  ·obtain ⟨h1,h2⟩:=same h
   obtain ⟨z,e1,e2,e3⟩:=adN hW h1 (ev x).1 (ev i).1 (ev x).2;exact yN
 ·rename_i x i ho
  split at h
  ·rename_i l hl
   split at h
   ·rename_i y hy
    simp only [T.all,Az] at h;obtain ⟨h1,h2⟩:=h
    have hx:=ev x
    rw [hl] at hx;simp only [R,okV] at hx;obtain ⟨⟨ys,e1,e2⟩,e3⟩:=hx;obtain ⟨z,e4,e5⟩:=RL.get _ _ e2 hy
    have e6:ys[i]? =ah z:=by simpa using e4
    refine val h2.symm (v:=z) aOp ?_ ?_<;>rw [<-h1]
    ·exact e5
    ·exact AT.get _ _ e3 hy
   ·cases h
  ·exact NY
 ·rename_i t x i ho
  split at h
  ·rename_i l hl
   obtain ⟨h1,h2⟩:=same h
   have hx:=ev x
   rw [hl] at hx;simp only [R,okV] at hx;obtain ⟨⟨ys,e1,e2⟩,e3⟩:=hx;obtain ⟨z,f1,f2,f3⟩:=aEn h1 e2 e3;exact aN8
  ·exact NY
 ·rename_i f first cap ho
  split at h
  ·rename_i he
   simp only [T.all,Az] at h;obtain ⟨h1,h2⟩:=h
   have hfirst:first=#[]:=by
    have:first.toList=[]:=bM
    exact QU
   refine val h2.symm (v:=.func (.func f) #[]<|cap.map a.eval) aOl ?_ ?_<;>rw [<-h1]
   ·exact aM9
   ·exact aMq
  ·split at h
   ·rename_i he
    simp only [T.all,Az] at h;obtain ⟨h1,h2⟩:=h
    have hcap:cap=#[]:=by
     have:cap.toList=[]:=bM
     exact QU
    refine val h2.symm (v:=.func (.func f) (first.map a.eval) #[]) aOq ?_ ?_<;>rw [<-h1]
    ·exact aM7
    ·exact aMo
   ·cases h
 ·rename_i x ho
  have hx:=ev x
  split at h
  ·rename_i k off hl
   exact aLx
  ·rename_i k es i j hl
   exact aLx
  ·rename_i n f hl
   simp only [T.all,Az] at h;rw [hl] at hx
   have hx1:=hx.1
   simp only [R] at hx1;obtain ⟨b,off,e1,_⟩:=hx1;refine val h.2.symm (v:=a.eval x) KL ?_ ?_<;>rw [<-h.1]
   ·exact hx.1
   ·exact hx.2
  ·exact aMC
  ·exact aMC
  ·exact NY
 ·rename_i t x y t' ho
  split at h
  ·rename_i k n k' m hx hy
   split at h
   ·rename_i hk
    subst hk;simp only [T.all,Az] at h;obtain ⟨h0,h1,h2⟩:=h
    have e1:=Cq hx (ev x).1
    have e2:=Cq hy (ev y).1
    refine val h2.symm (v:=ag k<|k.wrap<|n.tdiv m) mr ?_ ?_<;>rw [<-h1]
    ·exact Dz
    ·trivial
   ·cases h
  ·cases h
 ·rename_i t x y t' ho
  split at h
  ·rename_i k n k' m hx hy
   split at h
   ·rename_i hk
    subst hk;simp only [T.all,Az] at h;obtain ⟨h0,h1,h2⟩:=h
    have e1:=Cq hx (ev x).1
    have e2:=Cq hy (ev y).1
    refine val h2.symm (v:=ag k<|n.tmod m) mr ?_ ?_<;>rw [<-h1]
    ·exact Dz
    ·trivial
   ·cases h
  ·cases h
 ·rename_i t x y t' ho
  split at h
  ·exact NY
  ·split at h
   ·rename_i k n k' m hx hy
    simp only [T.all,Az] at h;obtain ⟨h0,h1,h2⟩:=h
    have e1:=Cq hx (ev x).1
    have e2:=Cq hy (ev y).1
    refine val h2.symm (v:=ag k<|k.wrap<|n*2^(min m.toNat k.bits)) mv ?_ ?_<;>rw [<-h1]
    ·exact Dz
    ·trivial
   ·cases h
 ·rename_i t x y t' ho
  split at h
  ·exact NY
  ·split at h
   ·rename_i k n k' m hx hy
    simp only [T.all,Az] at h;obtain ⟨h0,h1,h2⟩:=h
    have e1:=Cq hx (ev x).1
    have e2:=Cq hy (ev y).1
    refine val h2.symm (v:=ag k<|n.fdiv<|2^(min m.toNat k.bits)) mv ?_ ?_<;>rw [<-h1]
    ·exact Dz
    ·trivial
   ·cases h
 ·rename_i t x i ho
  split at h
  ·rename_i l hl
   obtain ⟨h1,h2⟩:=same h;obtain ⟨ys,e1,e2,e3⟩:=aEj hl (ev x).1 (ev x).2;obtain ⟨z,f1,f2,f3⟩:=aEa h1 e2 e3 (ev i).1;exact aN8
  ·split at h
   ·rename_i s kd n hu hx hi
    simp only [T.all,Az] at h;obtain ⟨⟨h0,hlt⟩,h1,h2⟩:=h
    have e1:=Cq hx (ev x).1
    have e2:=Cq hi (ev i).1
    have hb:n.toNat<s.size:=A0
    have hg:s[n.toNat]? =ah s[n.toNat]:=by simp [hb]
    refine val h2.symm (v:=ag aw<|JW s n) aOO ?_ ?_<;>rw [<-h1]
    ·exact Dz
    ·trivial
   ·cases h
 ·rename_i f args ty ho
  split at h
  ·rename_i g cap hf
   exact aEr ho hΓ hW hF (.inl ⟨cap,hf,rfl⟩) h
  ·rename_i g fs hf
   exact aEr ho hΓ hW hF (.inr<|.inl ⟨fs,hf,rfl⟩) h
  ·cases h
 ·rename_i r name args ty ho
  split at h
  ·rename_i g rv hf
   exact aei ho hΓ hW hF hf h
  ·cases h
 ·rename_i args ty ho
  split at h
  ·rename_i x y t tx hl ht
   cases hargs:args.toList with
   |nil=>simp [hargs] at hl
   | cons u us=>
    cases us with
    |nil=>simp [hargs] at hl
    | cons u' us=>
     cases us with
     |cons _ _=>simp [hargs] at hl
     | nil=>
      simp only [hargs,ET,Li,Ht,Ov] at hl;obtain ⟨rfl,rfl⟩:=hl
      have ha:args=#[u,u']:=QW
      have hty:ty=#[t,tx]:=aPB
      obtain ⟨w',v,e1,e2,e3,β',e4,e5,e6,e7,e8,e9⟩:=ads (ty':=o.type) hW h (ev u).1 (ev u').1
      have hrun:(execOp a.eval o).run P w=.ok (.value v) w':=by
       simp [execOp,ho,resolve,invoke,builtin,ha,hty,e1]
      rw [hrun]
      have htb:PD G F β H o=Dd β H (owns<|AM G F u):=by simp [PD,Er,ho,ha]
      refine ⟨Z,β',e5,hF.mono A0 e4 (λ_ h=>h) e3,e6,e7,A0,e4,λk k1 k2=>?_,by rw [htb];exact e2⟩
      have:k=M H:=A0
      rw [this,htb];exact e9
  ·cases h
 ·rename_i args ty ho
  split at h
  ·rename_i x y t tx hl ht
   cases hargs:args.toList with
   |nil=>simp [hargs] at hl
   | cons u us=>
    cases us with
    |nil=>simp [hargs] at hl
    | cons u' us=>
     cases us with
     |cons _ _=>simp [hargs] at hl
     | nil=>
      simp only [hargs,ET,Li,Ht,Ov] at hl;obtain ⟨rfl,rfl⟩:=hl
      have ha:args=#[u,u']:=QW
      have hty:ty=#[t,tx]:=aPB
      obtain ⟨w',v,e1,e2,e3,e4,e5,e6,e7⟩:=aeN (ty':=o.type) hW h (ev u).1 (ev u').1
      have hrun:(execOp a.eval o).run P w=.ok (.value v) w':=by
       simp [execOp,ho,resolve,invoke,builtin,ha,hty,e1]
      rw [hrun]
      have htb:PD G F β H o=Dd β H (owns<|AM G F u):=by simp [PD,Er,ho,ha]
      refine ⟨Z,β,e2,hF.mono A0 (λ_ _=>rfl) (λ_ h=>h) e6,e3,e4,A0,λ_ _=>rfl,λk k1 k2=>?_,by rw [htb];exact e7⟩
      omega
  ·cases h
 ·rename_i args ty ho
  split at h
  ·rename_i k es off n e hl hu
   simp only [T.all,Az] at h;obtain ⟨h1,h2⟩:=h;cases hargs:args.toList with
   |nil=>simp [hargs] at hl
   | cons x xs=>
    cases xs with
    |cons _ _=>simp [hargs] at hl
    | nil=>
     simp only [hargs,ET,Li,Ht,Ov] at hl
     have hx:=(ev x).1
     rw [hl] at hx;simp only [R] at hx
     have e1:∃ad cap,a.eval x=.slice ad n cap:=by
      exact aMd
     obtain ⟨ad,cap,e1⟩:=e1
     have ha:args=#[x]:=QW
     cases ht:ty[0]? with
     |none=>simp [ht] at hu
     |some t=>
      simp only [ht,On] at hu;refine val h2.symm (v:=ag J n) Vk ?_ ?_<;>rw [<-h1]
      ·exact Dz
      ·trivial
  ·rename_i e' l e hl hu
   simp only [T.all,Az] at h;obtain ⟨h1,h2⟩:=h;cases hargs:args.toList with
   |nil=>simp [hargs] at hl
   | cons x xs=>
    cases xs with
    |cons _ _=>simp [hargs] at hl
    | nil=>
     simp only [hargs,ET,Li,Ht,Ov] at hl
     have hx:=(ev x).1
     rw [hl] at hx;simp only [R] at hx;obtain ⟨ad,cap,e1,_⟩:=hx
     have ha:args=#[x]:=QW
     cases ht:ty[0]? with
     |none=>simp [ht] at hu
     |some t=>
      simp only [ht,On] at hu;refine val h2.symm (v:=ag J (M l:Y)) Vk ?_ ?_<;>rw [<-h1]
      ·exact Dz
      ·trivial
  ·rename_i k' es' off' n' c' e hl hu
   simp only [T.all,Az] at h;obtain ⟨h1,h2⟩:=h;cases hargs:args.toList with
   |nil=>simp [hargs] at hl
   | cons x xs=>
    cases xs with
    |cons _ _=>simp [hargs] at hl
    | nil=>
     simp only [hargs,ET,Li,Ht,Ov] at hl
     have hx:=(ev x).1
     rw [hl] at hx;simp only [R] at hx;obtain ⟨_,ad,e1,_⟩:=hx
     have ha:args=#[x]:=QW
     cases ht:ty[0]? with
     |none=>simp [ht] at hu
     |some t=>
      simp only [ht,On] at hu;refine val h2.symm (v:=ag J n') Vk ?_ ?_<;>rw [<-h1]
      ·exact Dz
      ·trivial
  ·exact NY
 ·exact NY
structure Ev (b b':AB):Prop where
 cl:b.E4=U->b'.E4=U/\b'.t=b.t/\M b'.c=M b.c
 live:∀(β:aVx->aWe) (k:aVx),live β k b'->live β k b
 p:b'.p=X->b.p=X
def Ev.refl (b:AB):Ev b b:=⟨λh=>⟨h,rfl,rfl⟩,λ_ _ h=>h,λh=>h⟩
def Ev.trans {a b c:AB}(h:Ev a b) (g:Ev b c):Ev a c:=⟨λhc=>by
 obtain ⟨h1,h2,h3⟩:=h.cl hc;obtain ⟨g1,g2,g3⟩:=g.cl h1;exact ⟨g1,g2.trans h2,g3.trans h3⟩,λβ k hl=>h.live β k<|g.live β k hl,λhp=>h.p<|g.p hp⟩
def EvL (H H':aVB):Prop:=∀(k:aVx) (b:AB),H[k]? =ah b->∃b':AB,H'[k]? =ah b'/\Ev b b'
def EvL.refl (H:aVB):EvL H H:=λ_ b hb=>⟨b,hb,Ev.refl b⟩
def EvL.app (H E:aVB):EvL H (H++E):=λk b hb=>⟨b,A8,Ev.refl b⟩
def EvL.trans {A B C:aVB}(h:EvL A B) (g:EvL B C):EvL A C:=λk b hb=>by
 obtain ⟨b1,h1,h2⟩:=h k b hb;obtain ⟨b2,g1,g2⟩:=g k b1 h1;exact ⟨b2,g1,h2.trans g2⟩
def EvL.set {k0:aVx}{b0 nb:AB}(hb0:H[k0]? =ah b0) (he:Ev b0 nb):EvL H (H.set k0 nb):=λk b hb=>by
 rw [IS]
 by_cases hkk:k0=k
 ·subst hkk
  grind
 ·rw [AE hkk];exact ⟨b,hb,Ev.refl b⟩
def EvL.pub (ks:aVC):EvL H (Ft ks 0 H):=λk b hb=>by
 rw [cx,hb];split
 ·exact ⟨_,rfl,λh=>⟨h,rfl,rfl⟩,λ_ _ h=>h,λh=>Ar⟩
 ·exact ⟨_,rfl,Ev.refl b⟩
def afU {t:aVN}{x y:LV}{H':aVB}(h:(Tt P H t x y).all λq=>q=H'):EvL H H':=by
 unfold Tt at h;split at h
 ·split at h
  ·split at h
   ·rename_i hb
    split at h
    ·rename_i hle
     subst h;refine EvL.set hb ⟨λhc=>⟨hc,rfl,?_⟩,λ_ _ h=>h,λh=>h⟩
     simp only [setAt,BI,MT,FN];omega
    ·cases h
   ·cases h
  ·split at h
   ·rename_i hb
    split at h
    ·simp only [T.all] at h
     obtain ⟨_,h⟩:=h;split at h
     ·simp only [T.all] at h
      subst h;exact aNi
     ·cases h
    ·cases h
   ·cases h
  ·cases h
 ·cases h
def aJV {t:aVN}{x i y:LV}{H':aVB}(h:(VQ P H t x i y).all λq=>q=H'):EvL H H':=by
 unfold VQ at h;split at h
 ·split at h
  ·split at h
   ·rename_i hb
    split at h
    ·simp only [T.all] at h
     exact aNZ
    ·cases h
   ·cases h
  ·cases h
 ·cases h
def afI {t:aVN}{x i y:LV}{H':aVB}(h:(insL P H t x i y).all λq=>q=H'):EvL H H':=by
 unfold insL at h;split at h
 ·split at h
  ·rename_i hb
   split at h
   ·split at h
    ·simp only [T.all] at h
     obtain ⟨_,h⟩:=h;exact aNZ
    ·cases h
   ·cases h
  ·exact aJV h
 ·exact aJV h
def aog {t:aVN}{n c lv:LV}{H':aVB}(h:(UD P H t n c).all λq=>q=(lv,H')):EvL H H':=by
 unfold UD at h;split at h
 ·split at h
  ·split at h
   ·split at h
    ·exact aNS
    ·cases h
   ·cases h
  ·cases h
 ·cases h
def ap5 {t tx:aVN}{x y lv:LV}{H':aVB}(h:(Xy P H t tx x y).all λq=>q=(lv,H')):EvL H H':=by
 unfold Xy at h;split at h
 ·split at h
  ·split at h
   ·rename_i hb
    split at h
    ·split at h
     ·obtain ⟨q,_,h⟩:=T.B5 h
      simp only [T.all,Az] at h;rw [<-h.2.2];exact aNi
     ·cases h
    ·cases h
   ·cases h
  ·cases h
 ·cases h
def afA {t tx:aVN} {x y lv:LV} {H':aVB} (h:(Lu P H t tx x y).all λq=>q=(lv,H')):EvL H H':=by
 unfold Lu at h;split at h
 ·split at h
  ·split at h
   ·obtain ⟨q,_,h⟩:=T.B5 h
    ·split at h
     ·exact aNS
     ·split at h
      ·rename_i hb
       split at h
       ·split at h
        ·simp only [T.all,Az] at h
         rw [<-h.2.2];refine (EvL.set hb ?_).trans<|EvL.app _ _;exact ⟨λhc=>zD,λ_ _ h=>by simp [live] at h,λ_=>rfl⟩
        ·cases h
       ·cases h
      ·cases h
     ·cases h
   ·cases h
  ·cases h
 ·cases h
end Go.Sx
namespace Go.Sx
open Go Go.RowKit Go.Proofs.YtjdlmobanmhohaaGreatDoor
variable {P : Program} {G : B3} {Γ : Specs} {K : Hand} {β : Nat -> Loc} {Z : Nat -> Prop} {Z0 : Gz} {w w0 : World} {F : List LV} {H : List AB} {a : Act} {ds : List Deferred} {n : Nat}
def RF.put (hF:RF ds β Z w n F a) {lv:LV}{v:aVQ}(hr:R β Z w lv v) (hk:okV n lv) (d:aV9):RF ds β Z w n (Aw F d lv) (a.put d v):=by
 cases d with
 |none=>exact hF
 | some d=>
  refine ⟨by simp [Aw,Act.put,hF.size],λt x hx=>?_,hF.defers⟩
  simp only [Aw] at hx;rw [IS] at hx;simp only [Act.put]
  have hlt:t<M F:=by
   by_cases ht:t<M F
   ·exact ht
   ·exfalso
    split at hx
    ·split at hx
     ·omega
     ·cases hx
    ·grind
  have hta:t<a.tmps.size:=by rw [hF.size];exact hlt
  by_cases hdt:d=t
  ·subst hdt
   have:(a.tmps.setIfInBounds d v).getD d undef=v:=GH
   grind
  ·rw [AE hdt] at hx
   have:(a.tmps.setIfInBounds d v).getD t undef=a.tmps.getD t undef:=GH
   rw [this];exact hF.get t x hx
def RF.know (hF:RF ds β Z w n F a) {d:aVx}{lv:LV}(hr:R β Z w lv<|a.tmps.getD d undef) (hk:okV n lv):RF ds β Z w n (F.set d lv) a:=by
 refine ⟨by simp [hF.size],λt x hx=>?_,hF.defers⟩
 rw [IS] at hx
 by_cases hdt:d=t
 ·subst hdt
  simp only [Bp] at hx;split at hx
  ·grind
  ·cases hx
 ·rw [AE hdt] at hx;exact hF.get t x hx
def RF.pass (hF:RF ds β Z w n F a) (d:aV9):RF ds β Z w n (Aw F d<|.v undef) (a.put d undef):=hF.put (lv:=.v undef) Jm trivial d
def WD {o:aVP}{K:aVX->aVJ->Prop}{Q:aWp->aVX->aVJ->Prop}(h:Dn P (λv w'=>K (a.put o.dst v) w')<|(execOp a.eval o).run P w) (r:aVZ) (m:aVx):o.wpIn (Dg r) m P a w K Q:=by
 have hnd:∀c,o.op≠ .defer c:=λc hc=>by
  rcases aDt (P:=P) (ρ:=a.eval) (w:=w) hc with ⟨d,w',e⟩ |⟨d,w',e⟩<;>rw [e] at h<;>simp only [Dn] at h
 refine ⟨λ_ _=>trivial,?_⟩
 rw [semAt_eq hnd];generalize (execOp a.eval o).run P w=res at*;cases res with
 |ok m w'=>
  cases m<;>simp only [Dn] at h<;>simp only [Oper.uponIn]
  case value u=>exact h
  case skip=>exact h
  case enter f args=>exact ⟨λh=>Ar,Ve.2<|h.mono λe w'' ⟨v,he,hk⟩=>A8⟩
  case round l f tmps assign body=>exact ⟨λh=>Ar,aEc<|h.mono λe w'' ⟨v,he,hk⟩=>A8⟩
 |halt x w'=>simp only [Dn] at h
def WI {ops:aVE}{o:aVP}{j d:aVx}{want b:aVH}(hg:o.guard=ah (j,want)) (hd:(ops[j]?).bind (·.dst)=ah d) (hv:a.tmps[d]? =ah (.bool b)):az o (yielded ops a.tmps)=(b==want):=by
 exact aN4
def acu {ops:aVE}{o:aVP}{j d:aVx}{want:aVH}{vs:aVS}(hg:o.guard=ah (j,want)) (hd:(ops[j]?).bind (·.dst)=ah d) (hv:a.tmps[d]? =ah (.tuple vs)):az o (yielded ops a.tmps)=false:=by
 exact aN4
def RF.slot (hF:RF ds β Z w n F a) {d:aVx}{x:LV}(hx:F.getD d .junk=x) (hj:x≠ .junk):F[d]? =ah x/\a.tmps[d]? =ah (a.tmps.getD d undef):=by
 cases h:F[d]? with
 |none=>simp [List.getD,h] at hx;exact absurd hx.symm hj
 |some y=>
  simp [List.getD,h] at hx
  subst hx;refine ⟨rfl,?_⟩
  have:d<a.tmps.size:=by rw [hF.size];exact (EC.1 h).1
  simp_all
def RW.less {gh:List<|LV×Value}{mk:aVC}(hW:RW G w0 ⟨Z0.z,gh++Z0.gh,mk++Z0.Cv⟩ Z β H w):RW G w0 Z0 Z β H w:=⟨hW.below,hW.Bf,hW.Eo,hW.Ct,hW.GQ,hW.low,hW.inj,hW.blk,hW.Cl,λp hp=>hW.gh p<|BZ.2<|.inr hp,λD hD=>hW.Cv D<|BZ.2<|.inr hD⟩
def dsB:aWd->List Nat
 | []=>[]
 |⟨.collected D,_⟩::ds=>D::dsB ds
 |_::ds=>dsB ds
def sJ:∀ {ds:aWd}{D:aVx},Gs D∈ds->D∈dsB ds
 | d::ds,D,h=>by
  rcases BB.1 h with h|h
  ·rw [<-h];simp [dsB,Gs]
  ·unfold dsB
   split
   ·grind
   ·rename_i e;simp only [Ht] at e;rw [<-e.2];exact NU _<|sJ h
   ·rename_i e;simp only [Ht] at e;rw [<-e.2];exact sJ h
def aSP:∀ {ds:aWd}{D:aVx},D∈dsB ds->(∀d,d∈ds->∃D,d=Gs D)->Gs D∈ds
 | [],D,h,_=>Ar
 |d::ds,D,h,hm=>by
  obtain ⟨D0,rfl⟩:=hm d AI;rcases BB.1 h with h|h
  ·grind
  ·exact NU _<|aSP h λd hd=>hm d<|NU _ hd
def RW.hold (hW:RW G w0 Z0 Z β H w) (hF:RF ds β Z w (M H) F a):RW G w0 ⟨Z0.z,F.zip a.tmps.toList++Z0.gh,dsB ds++Z0.Cv⟩ Z β H w:=⟨hW.below,hW.Bf,hW.Eo,hW.Ct,hW.GQ,hW.low,hW.inj,hW.blk,hW.Cl,λp hp=>by
  rcases BZ.1 hp with hp|hp
  ·obtain ⟨i,hi,hpi⟩:=Hs.1 hp
   have hiF:i<M F:=A8
   have hia:i<a.tmps.size:=A8
   have h1:=hF.get i F[i]<|Dh hiF
   have e2:a.tmps.getD i undef=a.tmps[i]:=GH
   grind
  ·exact hW.gh p hp,λD hD=>by
  rcases BZ.1 hD with hD|hD
  ·have:=aSP hD (λd hd=>by obtain ⟨D,h,_⟩:=hF.defers.2 d hd;exact ⟨D,h⟩)
   obtain ⟨D',h1,h2,h3⟩:=hF.defers.2 _ this
   grind
  ·exact hW.Cv D hD⟩
def RW.held {β':aVx->aWe}{Z':aVx->Prop}{w':aVJ}{H':aVB}(hF:RF ds β Z w (M H) F a) (r1:RW G w0 ⟨Z0.z,F.zip a.tmps.toList++Z0.gh,dsB ds++Z0.Cv⟩ Z' β' H' w'):RF ds β' Z' w' (M H') F a:=by
 refine ⟨hF.size,λt x hx=>?_,hF.defers.1,λd hd=>?_⟩
 ·have htF:=(EC.1 hx).1
  have hta:t<a.tmps.size:=by have:=hF.size;omega
  have e2:a.tmps.getD t undef=a.tmps[t]:=GH
  rw [e2];refine r1.gh (x,a.tmps[t])<|BZ.2<|.inl<|Hs.2 ⟨t,A8,?_⟩
  have:F[t]=x:=A8
  simp [this]
 ·obtain ⟨D,h1,h2,h3⟩:=hF.defers.2 d hd
  have:=r1.Cv D<|BZ.2<|.inl<|sJ<|h1▸hd
  grind
def aED {o:aVP}{g:aVY}{l:aVy}(h:callOf G F o=ah (g,l)):∃f args ty,o.op=.call {callee:=.value f,args,argTypes:=ty}/\su G F f args g l:=by
 unfold callOf at h;split at h
 ·rename_i f args ty ho
  split at h
  ·rename_i g' cap hf
   obtain ⟨rfl,rfl⟩:=h;exact ⟨f,args,ty,ho,.inl ⟨cap,hf,rfl⟩⟩
  ·rename_i g' fs hf
   obtain ⟨rfl,rfl⟩:=h;exact ⟨f,args,ty,ho,.inr<|.inl ⟨fs,hf,rfl⟩⟩
  ·rename_i g' hf
   obtain ⟨rfl,rfl⟩:=h;exact ⟨f,args,ty,ho,.inr<|.inr ⟨hf,rfl⟩⟩
  ·cases h
 ·cases h
def aFi {o:aVP}{k:aVx}{l:aVy}(h:wW G F o=ah (k,l)):∃f args ty,o.op=.call {callee:=.value f,args,argTypes:=ty}/\AM G F f=.CS k/\l=args.toList.map (λx=>norm<|AM G F x):=by
 unfold wW at h;split at h
 ·rename_i f args ty ho
  split at h
  ·rename_i k' hf
   grind
  ·cases h
 ·cases h
def aE3 (hΓ:∀g S,Γ g=ah S->Valid P G g S) (hK:FU P G K) (hW:RW G w0 Z0 Z β H w) (hF:RF ds β Z w (M H) F a) {o:aVP}{lv:LV}{H':aVB}(h:(KC P G Γ K F H o).all λq=>q=(lv,H')):
  Dn P (λv w'=>∃Z' β',RW G w0 Z0 Z' β' H' w'/\RF ds β' Z' w' (M H') F a/\R β' Z' w' lv v/\okV (M H') lv) ((execOp a.eval o).run P w):=by
 unfold KC at h
 have old:(Ax P G Γ F H o).all (λq=>q=(lv,H'))->Dn P (λv w'=>∃Z' β',RW G w0 Z0 Z' β' H' w'/\RF ds β' Z' w' (M H') F a/\R β' Z' w' lv v/\okV (M H') lv) ((execOp a.eval o).run P w):=λh=>
  KP (λv w' ⟨Z',β',e1,e2,e3,e4,_⟩=>⟨Z',β',e1,e2,e3,e4⟩) (cy hΓ hW hF h)
 split at h
 ·rename_i g l hc
  split at h
  ·exact old h
  ·split at h
   ·rename_i fn hfn
    split at h
    ·rename_i hb
     obtain ⟨f,args,ty,ho,hf⟩:=aED hc;simp only [AX,DB] at hb;obtain ⟨hb1,hb2⟩:=hb;obtain ⟨vals,hrun,hargs,hoka⟩:=aEq ho hW hF hf hfn A8 A8;rw [hrun];exact (hK.k w0 _ Z β H w g _ _ lv H' (hW.hold hF) hargs hoka h).mono λe w' ⟨v,he,Z',β',r1,r2,r3⟩=>⟨v,he,Z',β',r1.less,RW.held hF r1,r2,r3⟩
    ·cases h
   ·cases h
 ·split at h
  ·rename_i k l hy
   obtain ⟨f,args,ty,ho,hf,rfl⟩:=aFi hy
   have hfr:=hF.eval hW.Cl f
   rw [hf] at hfr;simp only [R,okV] at hfr
   have hargs:RL β Z w (args.toList.map λx=>norm<|AM G F x) (args.map a.eval).toList:=by
    exact aLw
   have hoka:AT (M H) (args.toList.map λx=>norm<|AM G F x):=by
    exact aMx
   obtain ⟨r,h1,h2,h3⟩:=hK.y w0 _ Z β H w k _ _ lv H' (hW.hold hF) hargs hoka h
   have hrun:(execOp a.eval o).run P w=.ok (.round (β k).b r.fn ((r.params.zip<|args.map a.eval).foldl (λt (p,v)=>t.setIfInBounds p v) r.tmps) r.assign r.body) w:=by
    unfold execOp;simp only [ho]
    have:=run_yield (P:=P) h1 h2
    simp [resolve,Deferred.ofValue,hfr.1,invoke,this]
   rw [hrun];exact h3.mono λe w' ⟨v,he,Z',β',r1,r2,r3⟩=>⟨v,he,Z',β',r1.less,RW.held hF r1,r2,r3⟩
  ·exact old h
def azh {o:aVP}(hm:SX P Γ o=U):KC P G Γ K F H o=Ax P G Γ F H o:=by
 unfold KC;split
 ·rename_i g l hc
  obtain ⟨f,args,ty,ho,hf⟩:=aED hc;unfold SX at hm;simp only [AX] at hm
  have hm2:=hm.2
  rw [ho] at hm2;cases f with
  |func g'=>
   rcases hf with ⟨_,hf,_⟩ |⟨_,hf,_⟩ |⟨hf,_⟩
   rotate_left
   ·simp [AM] at hf
   ·simp [AM] at hf
   obtain ⟨rfl,_⟩:=hf
   grind
  |tmp _=>simp at hm2
  |const _=>simp at hm2
  |global _=>simp at hm2
 ·split
  ·rename_i k l hy
   obtain ⟨f,args,ty,ho,hf,rfl⟩:=aFi hy;unfold SX at hm;simp only [AX] at hm
   have hm2:=hm.2
   rw [ho] at hm2;cases f with
   |func g'=>simp [AM] at hf
   |tmp _=>simp at hm2
   |const _=>simp at hm2
   |global _=>simp at hm2
  ·rfl
def afP {o:aVP}(hm:SX P Γ o=U):P9 P o=true:=by
 unfold SX at hm;simp only [AX] at hm;exact hm.1
def aF8 {ty:Ty}:∀(cs:aVy) (ls:List<|List ty.D),il ty cs=ah ls->∀(j:aVx) (x:LV),cs[j]? =ah x->∃l,x=.xl ty l/\ls[j]? =ah l
 | [],_,_,j,x,hx=>A8
 | c ::cs,ls,h,j,x,hx=>by
  simp only [il] at h;split at h
  ·rename_i e l
   split at h
   ·rename_i he r _ hr
    simp only [Ah] at h;subst h;subst he;cases j with
    |zero=>
     simp only [List.getElem?_cons_zero,Ah] at hx;exact ⟨l,hx.symm,rfl⟩
    |succ j=>
     exact aF8 cs r hr j x hx
   ·cases h
  ·cases h
def aez {o o2:aVP} {num:Y} {len:aVx} {lv:LV} (hW:RW G w0 Z0 Z β H w) (hF:RF ds β Z w (M H) F a) (h:wX P G F H o o2=ah (num,len,lv)) (h0:0<=num/\num<(len:Y)):
  o.guard=aj/\o2.guard=aj/\∃v z,(execOp a.eval o).run P w=.ok (.value v) w/\(execOp (a.put o.dst v).eval o2).run P w=.ok (.value z) w/\R β Z w lv z/\okV (M H) lv:=by
 unfold wX at h;split at h
 ·rename_i hg
  simp only [AX,Zs] at hg;refine ⟨hg.1,hg.2,?_⟩;split at h
  ·rename_i t x i d t2 d2 ho hd ho2
   split at h
   ·rename_i hc
    obtain ⟨rfl,hdl,hagg⟩:=hc;split at h
    ·rename_i len' e k off kd n hu hx hi
     split at h
     ·rename_i hsz
      split at h
      ·rename_i b hb
       split at h
       ·rename_i hcl
        split at h
        ·rename_i ty l rest hcs
         split at h
         ·rename_i ls hls
          simp only [Ah,Az] at h;obtain ⟨rfl,rfl,rfl⟩:=h
          have exv:=hF.eval hW.Cl x
          have eiv:=hF.eval hW.Cl i
          rw [hx] at exv;rw [hi] at eiv
          have hix:(Tx P t (.own k off) U<|.ki kd n).all (λr=>r=.own k (off+n.toNat*(0+1))):=by
           unfold Tx;simp only [pl,hu,hsz,Bp];rw [AD h0];simp only [T.all]
          obtain ⟨v,e1,e2,e3⟩:=aDb (w:=w) hix exv.1 (show R β Z w (.ki kd n) (a.eval i) by simp only [R];exact eiv.1) exv.2
          have hj:n.toNat<len':=A0
          obtain ⟨c,hc⟩:∃c,b.c[off+n.toNat]? =ah c:=⟨_,Dh A0⟩
          have hcc:(LV.xl ty l::rest)[n.toNat]? =ah c:=by
           rw [<-hcs,Lg,AD hj,FO];exact hc
          obtain ⟨l',rfl,hl'⟩:=aF8 _ _ hls _ _ hcc
          have hld:(FW P H t2<|.own k<|off+n.toNat*(0+1)).all (λz=>z=.xl ty l'):=by
           unfold FW;simp only [hagg,hb,Eh,Nat.mul_one,hcl.1,Bp,hc,T.all]
          obtain ⟨z,f1,f2,f3⟩:=pF hW hld e2 e3;refine ⟨v,z,KL,?_,?_,?_⟩
          ·have hda:d2<a.tmps.size:=by rw [hF.size];exact hdl
           have ev:(a.put o.dst v).eval (.tmp d2)=v:=by simp [hd,Act.put,Act.eval,Array.getD,hda]
           simp [execOp,ho2,ev,f1]
          ·have:ls.getD n.toNat []=l':=A8
           rw [this];exact f2
          ·trivial
         ·cases h
        ·cases h
       ·cases h
      ·cases h
     ·cases h
    ·cases h
   ·cases h
  ·cases h
 ·cases h
def cv (hΓ:∀g S,Γ g=ah S->Valid P G g S) (hK:FU P G K) {ops:aVE}{Q:aWp->aVX->aVJ->Prop}{F':aVy}{H':aVB}(hQ:∀Z' β' a' w',RW G w0 Z0 Z' β' H' w'->RF ds β' Z' w' (M H') F' a'->Q .normal a' w') (r:aVZ) (m:aVx):
  ∀(os:aV5) (k:aVx) (F:aVy) (H:aVB) (Z:aVx->Prop) (β:aVx->aWe) (a:aVX) (w:aVJ),(∀j,os[j]? =ops[k+j]?)->RW G w0 Z0 Z β H w->RF ds β Z w (M H) F a->
   (Ii P G Γ K ops os F H).all (λq=>q=(F',H'))->wpOpsIn (Dg r) m P ops Q (List.range' k<|M os) a w
 | [],k,F,H,Z,β,a,w,_,hW,hF,h=>by
  simp only [Ii,T.all,Az] at h;obtain ⟨rfl,rfl⟩:=h;simp only [Bv,List.range'_zero,wpOpsIn];exact hQ Z β a w hW hF
 | o ::os,k,F,H,Z,β,a,w,hl,hW,hF,h=>by
  have h0:ops[k]? =ah o:=by simpa using (hl 0).symm
  have hl':∀j,os[j]? =ops[k+1+j]? :=λj=>by have:=hl<|j+1;simpa [Hq,xw 1 j] using this
  simp only [Bk,List.range'_succ,wpOpsIn,h0]
  have goOk:∀(F:aVy),RF ds β Z w (M H) F a->((KC P G Γ K F H o).bind λq=>Ii P G Γ K ops os (Aw F o.dst q.1) q.2).all (λq=>q=(F',H'))->o.wpIn (Dg r) m P a w (wpOpsIn (Dg r) m P ops Q<|List.range' (k+1)<|M os) Q:=λF hF h=>by
   obtain ⟨⟨lv,H1⟩,h1,h2⟩:=T.B5 h;refine WD (KP (λv w' ⟨Z',β',e1,e2,e3,e4⟩=>?_)<|aE3 hΓ hK hW hF h1) r m
   exact cv hΓ hK hQ r m os (k+1) _ H1 Z' β' _ w' hl' e1 (e2.put e3 e4 o.dst) h2
  have passOk:∀(F:aVy),RF ds β Z w (M H) F a->(Ii P G Γ K ops os (Aw F o.dst<|.v undef) H).all (λq=>q=(F',H'))->(∀f,o.about P w a.eval=ah f->(Dg r).fn f)/\wpOpsIn (Dg r) m P ops Q (List.range' (k+1)<|M os) (a.put o.dst undef) w:=λF hF h=>
   ⟨λ_ _=>trivial,cv hΓ hK hQ r m os (k+1) _ H Z β _ w hl' hW (hF.pass o.dst) h⟩
  unfold Ii at h;simp only at h;split at h
  ·rename_i hg
   have hw:az o (yielded ops a.tmps)=true:=bH
   rw [AD hw];split at h
   ·exact goOk F hF h
   ·rename_i o2 os2
    split at h
    ·rename_i num len lv hix
     simp only [T.all] at h;obtain ⟨h1,h2⟩:=h;obtain ⟨_,hg2,v,z,r1,r2,r3,r4⟩:=aez hW hF hix h1
     have h02:ops[k+1]? =ah o2:=by simpa using (hl' 0).symm
     have hl2:∀j,os2[j]? =ops[k+1+1+j]? :=λj=>by have:=hl'<|j+1;rw [lu] at this;rw [this];congr 1;omega
     have act1:∀ {K:aVQ->aVJ->Prop},K v w->Dn P K ((execOp a.eval o).run P w):=λh=>by rw [r1];exact h
     have act2:∀ {K:aVQ->aVJ->Prop},K z w->Dn P K ((execOp (a.put o.dst v).eval o2).run P w):=λh=>by rw [r2];exact h
     refine WD (act1 ?_) r m;simp only [Bk,List.range'_succ,wpOpsIn,h02]
     have hw2:az o2 (yielded ops (a.put o.dst v).tmps)=true:=by simp [az,hg2]
     rw [AD hw2];refine WD (act2 ?_) r m;exact cv hΓ hK hQ r m os2 (k+1+1) _ H Z β _ w hl2 hW ((hF.put (lv:=.junk) Jm trivial o.dst).put r3 r4 o2.dst) h2
    ·exact goOk F hF h
  ·rename_i j want hg
   split at h
   ·rename_i d hd
    split at h
    ·rename_i b hb
     obtain ⟨s1,s2⟩:=hF.slot hb AI
     have hv:=(hF.get d _ s1).1
     simp only [R] at hv;rw [hv] at s2;rw [WI hg hd s2];split at h
     ·grind
     ·rename_i e;rw [AE zQ];exact passOk F hF h
    ·rename_i g hb
     obtain ⟨s1,s2⟩:=hF.slot hb AI
     have hv:=(hF.get d _ s1).1
     simp only [R] at hv
     have kn:∀b,g=b->RF ds β Z w (M H) (F.set d<|.bl b) a:=λb e=>hF.know nC trivial
     rw [hv] at s2;rw [WI hg hd s2];split at h
     ·rename_i hwt
      subst hwt;simp only [T.all] at h;cases hgg:g with
      |true=>simp only [Oo,Bp];exact goOk _ (kn U hgg) (h.1 hgg)
      |false=>rw [AE AI];exact passOk _ (kn X hgg)<|h.2 hgg
     ·rename_i hwt
      have hwt':want=false:=yy
      subst hwt';simp only [T.all] at h;cases hgg:g with
      |true=>rw [AE AI];exact passOk _ (kn U hgg) (h.1 hgg)
      |false=>simp only [Oo,Bp];exact goOk _ (kn X hgg)<|h.2 hgg
    ·rename_i vs hb
     obtain ⟨s1,s2⟩:=hF.slot hb AI
     have hv:=(hF.get d _ s1).1
     simp only [R] at hv;exact aNG
    ·cases h
   ·cases h
def T.lv {α:Type}(p:α->Prop):T α->Prop
 | .ok x=>p x
 | .br _ t e=>t.lv p/\e.lv p
 | .req _ t=>t.lv p
 | .no=>True
def T.Tg {α γ:Type}{p:α->Prop}{q:γ->Prop}{k:α->T γ}(hk:∀x,p x->(k x).lv q):∀ {t:T α},t.lv p->(t.bind k).lv q
 | .ok _,h=>hk _ h
 | .br _ t e,h=>⟨T.Tg hk (t:=t) h.1,T.Tg hk (t:=e) h.2⟩
 | .req _ t,h=>T.Tg hk (t:=t) h
 | .no,_=>trivial
def T.Wk {α:Type}{p:α->Prop}(hp:∀x,p x):∀(t:T α),t.lv p
 | .ok _=>hp _
 | .br _ t e=>⟨T.Wk hp t,T.Wk hp e⟩
 | .req _ t=>T.Wk hp t
 | .no=>trivial
def af2 {o:aVP}(hpt:Ls P 8 o.type=U) {g:aVY}{l:aVy}:(M0 P Γ H o g l).lv (λq=>q.2=H):=by
 have bd:∀(t:T LV),(t.bind λy=>(T.ok (y,H):T<|LV×List AB)).lv (λq=>q.2=H):=λt=>T.Tg (p:=λ_=>True) (q:=λq:LV×List AB=>q.2=H) (k:=λy=>T.ok (y,H)) (λx _=>(rfl:(x,H).2=H))<|T.Wk (λ_=>trivial) t
 unfold M0;split
 ·split
  ·split
   ·split
    ·exact bd _
    ·grind
   ·trivial
  ·trivial
 ·trivial
def qn {o:aVP}(hm:P9 P o=U):(Ax P G Γ F H o).lv (λq=>q.2=H):=by
 have bd:∀(t:T LV),(t.bind λy=>(T.ok (y,H):T<|LV×List AB)).lv (λq=>q.2=H):=λt=>T.Tg (p:=λ_=>True) (q:=λq:LV×List AB=>q.2=H) (k:=λy=>T.ok (y,H)) (λx _=>(rfl:(x,H).2=H))<|T.Wk (λ_=>trivial) t
 have c1:∀ {f:aWc} {args:aWg} {ty:aWo},o.op=.call {callee:=.value f,args,argTypes:=ty}->Ls P 8 o.type=true:=λho=>aPC
 have c2:∀ {r:aWc} {name:aWC} {args:aWg} {ty:aWo},o.op=.call {callee:=.invoke r name,args,argTypes:=ty}->Ls P 8 o.type=true:=λho=>aPC
 unfold Ax;split<;>(try exact bd _)<;>(try trivial)<;>(try rfl)<;>(try (rename_i ho;simp [P9,ho] at hm;done))<;>(try (rename_i ho;have hpt:=c1 ho))<;>(try (rename_i ho;have hpt:=c2 ho))
 all_goals (split<;>(try exact bd _)<;>(try trivial)<;>(try rfl)<;>(try exact af2 hpt))
 all_goals (split<;>(try exact bd _)<;>(try trivial)<;>(try rfl))
def Keeps (ds:aVC) (F:aVy) (H:aVB) (q:List LV×List AB):Prop:=M q.1=M F/\(∀i,i∉ds->q.1[i]? =F[i]?)/\q.2=H
def cQ {ds:aVC}{F F1:aVy}(h:M F1=M F/\∀i,i∉ds->F1[i]? =F[i]?) {d:aVx}(hd:d∈ds) (x:LV):M (F1.set d x)=M F/\∀i,i∉ds->(F1.set d x)[i]? =F[i]? :=by
 refine ⟨A8,λi hi=>?_⟩
 grind
def WE {ds:aVC}{F F1:aVy}(h:M F1=M F/\∀i,i∉ds->F1[i]? =F[i]?) {d:aVZ}(hd:∀t,d=ah t->t∈ds) (x:LV):M (Aw F1 d x)=M F/\∀i,i∉ds->(Aw F1 d x)[i]? =F[i]? :=by
 cases d with
 |none=>exact h
 |some t=>exact cQ h (hd t rfl) x
def pM {ops:aVE}{F0:aVy}:∀(os:aV5) (F:aVy),(∀o∈os,o∈ops.toList)->(∀o∈os,SX P Γ o=U)->M F=M F0/\(∀i,i∉Fa ops.toList->F[i]? =F0[i]?)->
  (Ii P G Γ K ops os F H).lv (Keeps (Fa ops.toList) F0 H)
 | [],F,_,_,h=>by simp only [Ii,T.lv,Keeps];exact ⟨h.1,h.2,ak⟩
 | o ::os,F,hin,hm,h=>by
  have hdo:∀t,o.dst=ah t->t∈Fa ops.toList:=λt ht=>Sz.2 ⟨o,hin o AI,ht⟩
  have go:∀F:aVy,M F=M F0/\(∀i,i∉Fa ops.toList->F[i]? =F0[i]?)->((KC P G Γ K F H o).bind λq=>Ii P G Γ K ops os (Aw F o.dst q.1) q.2).lv (Keeps (Fa ops.toList) F0 H):=λF hF=>
   T.Tg (p:=λq=>q.2=H) (λq hq=>by rw [hq];exact pM os _ (λo ho=>hin o Vy) (λo ho=>hm o Vy)<|WE hF hdo _) (by rw [azh<|hm o AI];exact qn<|afP<|hm o AI)
  have pass:∀F:aVy,M F=M F0/\(∀i,i∉Fa ops.toList->F[i]? =F0[i]?)->(Ii P G Γ K ops os (Aw F o.dst<|.v undef) H).lv (Keeps (Fa ops.toList) F0 H):=λF hF=>
   pM os _ (λo ho=>hin o Vy) (λo ho=>hm o Vy) (WE hF hdo _)
  unfold Ii;simp only;split
  ·split
   ·exact go F h
   ·rename_i o2 os2
    split
    ·have hdo2:∀t,o2.dst=ah t->t∈Fa ops.toList:=λt ht=>Sz.2 ⟨o2,hin o2 AI,ht⟩
     exact pM os2 _ (λo ho=>hin o Vy) (λo ho=>hm o Vy)<|WE (WE h hdo _) hdo2 _
    ·exact go F h
  ·rename_i j want hg
   split
   ·rename_i d hd
    have hdd:d∈Fa ops.toList:=by
     cases hj:ops[j]? with
     |none=>simp [hj] at hd
     |some oj=>simp [hj] at hd;exact Sz.2 ⟨oj,A8,hd⟩
    split
    ·split
     ·exact go F h
     ·exact pass F h
    ·exact aMb
    ·grind
    ·trivial
   ·trivial
def abM {x:LV}{v:aVQ}(h:R β Z w x v):R β Z w (nki x) v:=zF
def ae3 {x y:LV}{v:aVQ}(h:R β Z w x v):R β Z w (Tf U x y) v:=by
 unfold Tf;split<;>simp_all [R]
 split<;>simp_all [R]
def adl {x y:LV}{v:aVQ}(h:R β Z w y v):R β Z w (Tf X x y) v:=by
 unfold Tf;split<;>simp_all [R]
 split<;>simp_all [R]
def aeg {b:aVH}{x y:LV}:okV n (Tf b x y):=by
 unfold Tf;split<;>(try trivial)
 split<;>trivial
def ae9 {x y:LV}{v:aVQ}(h:R β Z w x v):R β Z w (XV U x y) v:=ae3<|abM h
def ae2 {x y:LV}{v:aVQ}(h:R β Z w y v):R β Z w (XV X x y) v:=adl<|abM h
def afO {b:aVH}{x y:LV}:okV n (XV b x y):=aeg
def aF7 {dl:aWd}{ds:aVC}{b:aVH}{F F1 F2:aVy}(k1:M F1=M F/\∀i,i∉ds->F1[i]? =F[i]?) (k2:M F2=M F/\∀i,i∉ds->F2[i]? =F[i]?) (h:RF dl β Z w n (if b then F1 else F2) a):RF dl β Z w n (Tw ds b F F1 F2) a:=by
 refine ⟨by rw [h.size];cases b<;>simp [Tw,k1.1,k2.1],λt x hx=>?_,h.defers⟩
 have ht:t<M F:=by have:=(EC.1 hx).1;simpa [Tw] using this
 have hx':x=if ds.contains t then XV b (F1.getD t .junk) (F2.getD t .junk) else F.getD t .junk:=by
  simp [Tw,ht] at hx
  rw [<-hx]
  grind
 have g1:∀q,(if b then F1 else F2)[t]? =ah q->R β Z w q (a.tmps.getD t undef)/\okV n q:=λq hq=>h.get t q hq
 by_cases hc:t∈ds
 ·rw [AD<|by simpa using hc] at hx'
  rw [hx'];refine ⟨?_,afO⟩;cases b with
  |true=>
   have:=(g1 (F1[t]' A0) AI).1
   have e2:F1.getD t .junk=F1[t]' A0:=A8
   rw [e2];exact ae9 this
  |false=>
   have:=(g1 (F2[t]' A0) AI).1
   have e2:F2.getD t .junk=F2[t]' A0:=A8
   rw [e2];exact ae2 this
 ·rw [AE<|by simpa using hc] at hx'
  have e:=Dh ht
  have e2:F.getD t .junk=F[t]'ht:=A8
  rw [hx',e2];refine g1 _ ?_;cases b with
  |true=>simp only [Bp];rw [k1.2 t hc,e]
  |false=>simp only [IN,FP];rw [k2.2 t hc,e]
def cS {ds:aVC}:∀ {t:T<|List LV×List AB},t.lv (Keeps ds F H)->(Kh ds F H t).lv (Keeps ds F H)
 | .ok _,h=>h
 | .no,_=>trivial
 | .req _ t,h=>cS (t:=t) h
 | .br b t e,h=>by
  have h1:=cS h.1
  have h2:=cS h.2
  simp only [Kh];split
  ·rename_i x y hx hy
   rw [hx] at h1;rw [hy] at h2;split
   ·exact ⟨h1,h2⟩
   refine ⟨by simp [Tw],λi hi=>?_,rfl⟩
   simp only [Tw]
   by_cases ht:i<M F
   ·grind
   ·simp [ht]
  ·exact ⟨h1,h2⟩
def P3 {ds:aVC}:∀ {t:T<|List LV×List AB}{r:List LV×List AB},t.lv (Keeps ds F H)->(Kh ds F H t).all (λq=>q=r)->
  ∃q,t.all (λz=>z=q)/\q.2=r.2/\∀(dl:aWd) (β:aVx->aWe) (Z:aVx->Prop) (w:aVJ) (n:aVx) (a:aVX),RF dl β Z w n q.1 a->RF dl β Z w n r.1 a
 | .ok x,r,_,h=>⟨x,rfl,by rw [show x=r from h],λ_ _ _ _ _ _ hh=>by rw [<-show x=r from h];exact hh⟩
 | .no,_,_,h=>Ar
 | .req p t,r,hk,h=>by
  obtain ⟨q,h1,h2,h3⟩:=P3 (t:=t) hk h.2;exact ⟨q,⟨h.1,h1⟩,h2,h3⟩
 | .br b t e,r,hk,h=>by
  have k1:=cS hk.1
  have k2:=cS hk.2
  have apart:(T.br b (Kh ds F H t)<|Kh ds F H e).all (λq=>q=r)->∃q,(T.br b t e).all (λz=>z=q)/\q.2=r.2/\∀(dl:aWd) (β:aVx->aWe) (Z:aVx->Prop) (w:aVJ) (n:aVx) (a:aVX),RF dl β Z w n q.1 a->RF dl β Z w n r.1 a:=λh=>by
   cases b with
   |true=>
    obtain ⟨q,h1,h2,h3⟩:=P3 (t:=t) hk.1<|h.1 rfl;exact ⟨q,⟨λ_=>h1,λhb=>Ll⟩,h2,h3⟩
   |false=>
    obtain ⟨q,h1,h2,h3⟩:=P3 (t:=e) hk.2<|h.2 rfl;exact ⟨q,⟨λhb=>Ll,λ_=>h1⟩,h2,h3⟩
  simp only [Kh] at h;split at h
  ·rename_i x y hx hy
   split at h
   ·simp_all
   rw [hx] at k1;rw [hy] at k2
   have hr:=h
   cases b with
   |true=>
    obtain ⟨q,h1,h2,h3⟩:=P3 (t:=t) (r:=x) hk.1 (by rw [hx];rfl)
    refine ⟨q,⟨λ_=>h1,λhb=>Ll⟩,by rw [<-hr,h2];exact k1.2.2,λdl β Z w n a hh=>?_⟩
    rw [<-hr];exact aF7 ⟨k1.1,k1.2.1⟩ ⟨k2.1,k2.2.1⟩ (h3 dl β Z w n a hh)
   |false=>
    obtain ⟨q,h1,h2,h3⟩:=P3 (t:=e) (r:=y) hk.2 (by rw [hy];rfl)
    refine ⟨q,⟨λhb=>Ll,λ_=>h1⟩,by rw [<-hr,h2];exact k2.2.2,λdl β Z w n a hh=>?_⟩
    rw [<-hr];exact aF7 ⟨k1.1,k1.2.1⟩ ⟨k2.1,k2.2.1⟩<|h3 dl β Z w n a hh
  ·simp_all
def afY (hΓ:∀g S,Γ g=ah S->Valid P G g S) (hK:FU P G K) {id:aVx}{ops:aVE}{Q:aWp->aVX->aVJ->Prop}{F':aVy}{H':aVB}(hQ:∀Z' β' a' w',RW G w0 Z0 Z' β' H' w'->RF ds β' Z' w' (M H') F' a'->Q .normal a' w')
  (hW:RW G w0 Z0 Z β H w) (hF:RF ds β Z w (M H) F a) (h:(aDC P G Γ K ops F H).all λq=>q=(F',H')) (r:aVZ) (m:aVx):(Code.region id ops X).wpIn (Dg r) m P Q a w:=by
 refine wpIn_region ?_
 have e:au ops.size=List.range' 0 (M ops.toList):=by rw [List.range_eq_range'];simp
 rw [e];unfold aDC at h;split at h
 ·rename_i hm
  have hk:(Ii P G Γ K ops ops.toList F H).lv (Keeps (Fa ops.toList) F H):=pM _ _ (λ_ h=>h) (λo ho=>BH.1 hm o ho) ⟨rfl,λ_ _=>rfl⟩
  obtain ⟨q,h1,h2,h3⟩:=P3 hk h;refine cv hΓ hK (F':=q.1) (H':=q.2) (λZ' β' a' w' e1 e2=>hQ Z' β' a' w' A8 A8) r m ops.toList 0 F H Z β a w AI hW hF h1
 ·exact cv hΓ hK hQ r m ops.toList 0 F H Z β a w AI hW hF h
end Go.Sx
namespace Go.Sx
open Go Go.RowKit Go.Proofs.YtjdlmobanmhohaaGreatDoor
variable {P : Program} {G : B3} {Γ : Specs} {β : Nat -> Loc} {Z : Nat -> Prop} {Z0 : Gz} {w w0 wr : World} {F : List LV} {H : List AB} {a : Act} {ds : List Deferred} {n : Nat}
def T.R1 {α:Type}{p:α->Prop}{x:α}:∀ {t:T α},t.lv p->t.all (λz=>z=x)->p x
 | .ok y,h,e=>by rw [<-show y=x from e];exact h
 | .br b t e,h,hh=>by
  cases b with
  |true=>exact T.R1 (t:=t) h.1 (hh.1 rfl)
  |false=>exact T.R1 (t:=e) h.2 (hh.2 rfl)
 | .req _ t,h,hh=>T.R1 (t:=t) h hh.2
 | .no,_,hh=>by cases hh
def aep {t:aVN}{x lv:LV}{y:aVQ}(hW:RW G w0 Z0 Z β H w) (h:(FW P H t x).all λz=>z=lv) (hr:R β Z w x y):∀k,k∈owns x->(∃b,H[k]? =ah b/\live β k b)/\((∃off,x=.own k off)\/∃es i j,x=.op k es i j):=by
 intro k hk
 have cl:∀b:AB,b.E4=U->live β k b:=λb hc=>by
  unfold AB.E4 at hc;split at hc
  ·rename_i hb;unfold live;rw [hb];trivial
  ·cases hc
 unfold FW at h;split at h
 ·exact aMK
 ·exact aMK
 ·cases h
def aen {t:aVN}{x q lv:LV}(h:(UE P H t x q).all λr=>r=lv):∀k,x=.om k->∃b,H[k]? =ah b/\live β k b:=by
 intro k hk;subst hk;unfold UE at h;exact aMr
def aeB {t:aVN}{x q lv:LV}(h:(XW P H t x q).all λr=>r=lv):∀k,x=.om k->∃b,H[k]? =ah b/\live β k b:=by
 intro k hk;subst hk;unfold XW at h;exact aMr
def aeo {t:aVN}{x q lv:LV}(h:(Xm P H t x q).all λr=>r=lv):∀k,x=.om k->∃b,H[k]? =ah b/\live β k b:=by
 intro k hk;subst hk;unfold Xm at h;simp only at h;split at h
 ·rename_i hb;exact ⟨_,hb,ak⟩
 ·exact aen h k rfl
def aem (hΓ:∀g S,Γ g=ah S->Valid P G g S) {tr:aVC} {D:aVJ->Prop} {o:aVP} {lv:LV} (hW:RW G w0 Z0 Z β H wr) (hF:RF ds β Z wr (M H) F a)
  (hD:∀w',D w'->RW G w0 Z0 Z β H w'/\∀b,(Z b\/∃k bk,H[k]? =ah bk/\live β k bk/\tr.contains k=X/\b=(β k).b)->w'.heap[b]? =wr.heap[b]?)
  (h:(Xt P G Γ tr F H o).all λz=>z=lv):∃v,(∀w',D w'->Ny P o a w' v)/\R β Z wr lv v/\okV (M H) lv:=by
 unfold Xt at h;split at h
 ·cases h
 ·rename_i hsp
  simp only [Cf,DB,not_or,Bool.not_eq_true,QQ] at hsp;obtain ⟨hsp,hap⟩:=hsp
  have ev:=λx=>hF.eval hW.Cl x
  have hFD:∀w',D w'->RF ds β Z w' (M H) F a:=λw' hw'=>hF.mono (Aq _) (λ_ _=>rfl) (λ_ h=>h) λb hz=>(hD w' hw').2 b<|.inl hz
  split at h
  ·rename_i hcall
   obtain ⟨h1,hpl⟩:=aEf h;obtain ⟨⟨lv',H'⟩,h2,h3⟩:=T.B5 h1
   have e3:lv'=lv:=h3
   subst e3;obtain ⟨x,hx⟩:=Zu.1 hpl
   have hm:P9 P o=true:=by unfold X0 at hcall;unfold P9;unfold isSp at hsp;split at hcall<;>simp_all
   have hH:H'=H:=T.R1 (p:=λq:LV×List AB=>q.2=H) (x:=(lv',H')) (qn hm) h2
   subst hH;refine ⟨x,λw' hw'=>?_,aLi hx,?_⟩
   ·have hs:=cy hΓ (hD w' hw').1 (hFD w' hw') h2
    have hrun:∃g vals,(execOp a.eval o).run P w'=.ok (.enter g vals) w':=by
     unfold X0 at hcall;split at hcall
     ·rename_i f args ty ho
      have h2':=h2
      unfold Ax at h2';simp only [ho] at h2';split at h2'
      ·rename_i g cap hf
       have hfr:=(ev f).1
       rw [hf] at hfr;simp only [R] at hfr;obtain ⟨ys,hy,_⟩:=hfr;obtain ⟨fn,S,k1,k2,k3,_⟩:=Ta h2';exact ⟨_,_,aEA ho hy k1 k2 k3 w'⟩
      ·rename_i g fs hf
       have hfr:=(ev f).1
       rw [hf] at hfr;simp only [R] at hfr;obtain ⟨ys,hy,_⟩:=hfr;obtain ⟨fn,S,k1,k2,k3,_⟩:=Ta h2';exact ⟨_,_,aEL ho hy k1 k2 k3 w'⟩
      ·cases h2'
     ·rename_i r name args ty ho
      have h2':=h2
      unfold Ax at h2';simp only [ho] at h2';split at h2'
      ·rename_i g rv hf
       obtain ⟨t,v,hy,hm⟩:=aIG hf (ev r).1;obtain ⟨fn,S,k1,k2,k3,_⟩:=Ta h2';exact ⟨_,_,aEY ho hy hm k1 k2 k3 w'⟩
      ·cases h2'
     ·cases hcall
    obtain ⟨g,vals,hr⟩:=hrun;unfold Ny;rw [hr] at hs|-;simp only [Dn] at hs;refine ⟨rfl,hs.mono λe w'' ⟨v,he,Z',β',_,_,hrv,_,_,_,_,hn⟩=>?_⟩
    have hv:=Cq hx hrv
    subst hv;refine ⟨he,hn.os,hn.tape,hn.output,hn.size,λk hk=>hn.block k hk ?_⟩
    unfold X0 at hcall;split at hcall
    ·rename_i ho;simp [PD,Er,ho,Dd]
    ·rename_i ho;simp [PD,Er,ho,Dd]
    ·cases hcall
   ·cases lv' with
    |fn f l=>cases l with
     |nil=>trivial
     |cons _ _=>simp [pl] at hx
    |v _=>trivial
    |bl _=>trivial
    |ki _ _=>trivial
    |_=>simp [pl] at hx
  ·rename_i hnc
   obtain ⟨⟨lv',H'⟩,h2,h3⟩:=T.B5 h
   have e3:lv'=lv:=h3
   subst e3
   clear h3
   have val:∀ {v:aVQ},(∀w',D w'->(execOp a.eval o).run P w'=.ok (.value v) w')->R β Z wr lv' v->okV (M H) lv'->∃v,(∀w',D w'->Ny P o a w' v)/\R β Z wr lv' v/\okV (M H) lv':=λ{v} hrun hr hk=>
    ⟨v,λw' hw'=>by unfold Ny;rw [hrun w' hw'];exact A9,hr,hk⟩
   have hsel:∀cs b,o.op≠ .select cs b:=λcs b e=>by unfold Ax at h2;simp only [e] at h2;cases h2
   have same:∀ {t:T LV},(t.bind λy=>(T.ok (y,H):T<|LV×List AB)).all (λq=>q=(lv',H'))->t.all (λz=>z=lv'):=λh=>by
    obtain ⟨x,g1,g2⟩:=T.B5 h;simp only [T.all,Az] at g2;obtain ⟨rfl,rfl⟩:=g2;exact g1
   have gen:(Dq P G F o).all (λz=>z=lv')->∃v,(∀w',D w'->Ny P o a w' v)/\R β Z wr lv' v/\okV (M H) lv':=λhg=>by
    unfold Dq at hg;split at hg
    ·rename_i hpl
     split at hg
     ·rename_i y hy
      simp only [T.all] at hg
      have hcong:execOp a.eval o=execOp (λx=>(pl<|AM G F x).getD undef) o:=mF o hsel λx hx=>by
       have h1:=BH.1 hpl x yr
       obtain ⟨z,hz⟩:=Zu.1 h1;rw [hz];exact Cq hz (ev x).1
      refine val (v:=y) (λw' _=>by rw [hcong];exact aFn hy w') ?_ ?_<;>rw [<-hg]
      ·split
       ·exact aLU y
       ·exact Dz
      ·split
       ·exact aal y
       ·trivial
     ·cases hg
    ·cases hg
   have h:=h2
   unfold Ax at h;split at h
   ·cases h
   ·exact aMw
   ·exact aMw
   ·rename_i c x y ho
    obtain ⟨g,e1,e2,e3⟩:=adZ (same h) (ev c).1 (ev x).1 (ev y).1 (ev x).2 (ev y).2;exact val (v:=if g then a.eval x else a.eval y) (λw' _=>aPO) e2 e3
   ·exact NX
   ·exact NX
   ·rename_i t x ho
    obtain ⟨z,e1,e2,e3⟩:=pF hW (same h) (ev x).1 (ev x).2;refine val (v:=z) (λw' hw'=>?_) e2 e3
    have hlv:=aep hW (same h) (ev x).1
    have:=e1 w' λb hb=>(hD w' hw').2 b (by
     rcases hb with hb|⟨k,e4,e5⟩
     ·exact .inl hb
     ·obtain ⟨⟨bk,l1,l2⟩,l3⟩:=hlv k e4
      refine .inr ⟨k,bk,l1,l2,?_,e5⟩;unfold tC at hap;simp only [ho] at hap;rcases l3 with ⟨off,l3⟩ |⟨es,i,j,l3⟩
      ·rw [l3] at hap;simpa using hap
      ·rw [l3] at hap;simpa using hap)
    simp [execOp,ho,this]
   ·exact NX
   ·rename_i s x i ho
    obtain ⟨z,e1,e2,e3⟩:=adI (w:=wr) (same h) (ev x).1 (ev x).2;exact mg
   ·rename_i t x i ho
    obtain ⟨z,e1,e2,e3⟩:=aDb (w:=wr) (same h) (ev x).1 (ev i).1 (ev x).2;exact mg
   ·rename_i t parts ho
    obtain ⟨z,e1,e2,e3⟩:=adJ (β:=β) (Z:=Z) (w:=wr) (n:=M H) (pv:=parts.map λq=>(q.1,a.eval q.2)) (same h) Vu (by
     simp only [NS,HI];refine RL.CZ AI λi x hx=>?_
     rw [Dj] at hx|-;cases hq:parts.toList[i]? with
     |none=>simp [hq] at hx
     |some q=>simp [hq] at hx;subst hx;exact ⟨a.eval q.2,AI,(fc<|ev q.2).1⟩) (by
     simp only [HI];refine AT.CZ λi x hx=>?_
     rw [Dj] at hx;cases hq:parts.toList[i]? with
     |none=>simp [hq] at hx
     |some q=>simp [hq] at hx;subst hx;exact (fc<|ev q.2).2)
    exact val (v:=z) (λw' _=>KL) e2 e3
   ·exact NX
   ·exact NX
   ·rename_i t x lo hi ho
    split at h
    ·exact NZ
    ·have ro:∀q:Option Operand,RO β Z wr (q.map<|AM G F) (q.map a.eval):=λq=>by
      cases q with
      |none=>trivial
      |some q=>exact (ev q).1
     obtain ⟨z,e1,e2,e3⟩:=adF (w:=wr) (same h) (ev x).1 (ro lo) (ro hi) (ev x).2;exact mg
   ·rename_i t x lo hi mx ho
    split at h
    ·exact NZ
    ·have ro:RO β Z wr (lo.map<|AM G F) (lo.map a.eval):=by
      cases lo with
      |none=>trivial
      |some q=>exact (ev q).1
     obtain ⟨z,e1,e2,e3⟩:=ad6 (w:=wr) (N:=M H) (same h) (ev x).1 ro (ev hi).1 (ev mx).1;exact mg
   ·exact NX
   ·exact NX
   ·exact NX
   ·rename_i t x i ho
    obtain ⟨z,e1,e2,e3⟩:=adU hW (same h) (ev x).1 (ev i).1 (ev x).2;refine val (v:=z) (λw' hw'=>?_) e2 e3
    have hlv:=aeo (β:=β)<|same h
    exact aM4
   ·rename_i t x i ho
    split at h
    ·exact NZ
    ·obtain ⟨z,e1,e2,e3⟩:=adN hW (same h) (ev x).1 (ev i).1 (ev x).2
     refine val (v:=z) (λw' hw'=>?_) e2 e3
     have hlv:=aeB (β:=β)<|same h
     exact aM4
   ·rename_i x i ho
    split at h
    ·rename_i l hl
     split at h
     ·rename_i y hy
      simp only [T.all,Az] at h;obtain ⟨h1,_⟩:=h
      have hx:=ev x
      rw [hl] at hx;simp only [R,okV] at hx;obtain ⟨⟨ys,e1,e2⟩,e3⟩:=hx;obtain ⟨z,e4,e5⟩:=RL.get _ _ e2 hy
      have e6:ys[i]? =ah z:=by simpa using e4
      refine val (v:=z) (λw' _=>aOp) ?_ ?_<;>rw [<-h1]
      ·exact e5
      ·exact AT.get _ _ e3 hy
     ·cases h
    ·exact NZ
   ·rename_i t x i ho
    split at h
    ·rename_i l hl
     have hx:=ev x
     rw [hl] at hx;simp only [R,okV] at hx;obtain ⟨⟨ys,e1,e2⟩,e3⟩:=hx;obtain ⟨z,f1,f2,f3⟩:=aEn (same h) e2 e3;exact aNN
    ·exact NZ
   ·rename_i f first cap ho
    split at h
    ·rename_i he
     simp only [T.all,Az] at h;obtain ⟨h1,_⟩:=h
     have hfirst:first=#[]:=by
      have:first.toList=[]:=bM
      exact QU
     refine val (v:=.func (.func f) #[]<|cap.map a.eval) (λw' _=>aOl) ?_ ?_<;>rw [<-h1]
     ·exact aM9
     ·exact aMq
    ·split at h
     ·rename_i he
      simp only [T.all,Az] at h;obtain ⟨h1,_⟩:=h
      have hcap:cap=#[]:=by
       have:cap.toList=[]:=bM
       exact QU
      refine val (v:=.func (.func f) (first.map a.eval) #[]) (λw' _=>aOq) ?_ ?_<;>rw [<-h1]
      ·exact aM7
      ·exact aMo
     ·cases h
   ·rename_i x ho
    have hx:=ev x
    split at h
    ·rename_i k off hl
     exact aLy
    ·rename_i k es i j hl
     exact aLy
    ·rename_i n f hl
     simp only [T.all,Az] at h;rw [hl] at hx
     have hx1:=hx.1
     simp only [R] at hx1;obtain ⟨b,off,e1,_⟩:=hx1;refine val (v:=a.eval x) (λw' _=>KL) ?_ ?_<;>rw [<-h.1]
     ·exact hx.1
     ·exact hx.2
    ·exact aMD
    ·exact aMD
    ·exact NZ
   ·rename_i t x y t' ho
    split at h
    ·rename_i k n k' m hx hy
     split at h
     ·rename_i hk
      subst hk;simp only [T.all,Az] at h;obtain ⟨h0,h1,_⟩:=h
      have e1:=Cq hx (ev x).1
      have e2:=Cq hy (ev y).1
      refine val (v:=ag k<|k.wrap<|n.tdiv m) (λw' _=>mr) ?_ ?_<;>rw [<-h1]
      ·exact Dz
      ·trivial
     ·cases h
    ·cases h
   ·rename_i t x y t' ho
    split at h
    ·rename_i k n k' m hx hy
     split at h
     ·rename_i hk
      subst hk;simp only [T.all,Az] at h;obtain ⟨h0,h1,_⟩:=h
      have e1:=Cq hx (ev x).1
      have e2:=Cq hy (ev y).1
      refine val (v:=ag k<|n.tmod m) (λw' _=>mr) ?_ ?_<;>rw [<-h1]
      ·exact Dz
      ·trivial
     ·cases h
    ·cases h
   ·rename_i t x y t' ho
    split at h
    ·exact NZ
    ·split at h
     ·rename_i k n k' m hx hy
      simp only [T.all,Az] at h;obtain ⟨h0,h1,_⟩:=h
      have e1:=Cq hx (ev x).1
      have e2:=Cq hy (ev y).1
      refine val (v:=ag k<|k.wrap<|n*2^(min m.toNat k.bits)) (λw' _=>mv) ?_ ?_<;>rw [<-h1]
      ·exact Dz
      ·trivial
     ·cases h
   ·rename_i t x y t' ho
    split at h
    ·exact NZ
    ·split at h
     ·rename_i k n k' m hx hy
      simp only [T.all,Az] at h;obtain ⟨h0,h1,_⟩:=h
      have e1:=Cq hx (ev x).1
      have e2:=Cq hy (ev y).1
      refine val (v:=ag k<|n.fdiv<|2^(min m.toNat k.bits)) (λw' _=>mv) ?_ ?_<;>rw [<-h1]
      ·exact Dz
      ·trivial
     ·cases h
   ·rename_i t x i ho
    split at h
    ·rename_i l hl
     obtain ⟨ys,e1,e2,e3⟩:=aEj hl (ev x).1 (ev x).2;obtain ⟨z,f1,f2,f3⟩:=aEa (same h) e2 e3 (ev i).1;exact aNN
    ·split at h
     ·rename_i s kd n hu hx hi
      simp only [T.all,Az] at h;obtain ⟨⟨h0,hlt⟩,h1,_⟩:=h
      have e1:=Cq hx (ev x).1
      have e2:=Cq hi (ev i).1
      have hb:n.toNat<s.size:=A0
      have hg:s[n.toNat]? =ah s[n.toNat]:=by simp [hb]
      refine val (v:=ag aw<|JW s n) (λw' _=>aOO) ?_ ?_<;>rw [<-h1]
      ·exact Dz
      ·trivial
     ·cases h
   ·rename_i ho;simp [X0,ho] at hnc
   ·rename_i ho;simp [X0,ho] at hnc
   ·exact NX
   ·exact NX
   ·rename_i args ty ho
    split at h
    ·rename_i k es off n e hl hu
     simp only [T.all,Az] at h;obtain ⟨h1,_⟩:=h;cases hargs:args.toList with
     |nil=>simp [hargs] at hl
     | cons x xs=>
      cases xs with
      |cons _ _=>simp [hargs] at hl
      | nil=>
       simp only [hargs,ET,Li,Ht,Ov] at hl
       have hx:=(ev x).1
       rw [hl] at hx;simp only [R] at hx
       have e1:∃ad cap,a.eval x=.slice ad n cap:=by
        exact aMd
       obtain ⟨ad,cap,e1⟩:=e1
       have ha:args=#[x]:=QW
       cases ht:ty[0]? with
       |none=>simp [ht] at hu
       |some t=>
        simp only [ht,On] at hu;refine val (v:=ag J n) (λw' _=>Vk) ?_ ?_<;>rw [<-h1]
        ·exact Dz
        ·trivial
    ·rename_i e' l e hl hu
     simp only [T.all,Az] at h;obtain ⟨h1,_⟩:=h;cases hargs:args.toList with
     |nil=>simp [hargs] at hl
     | cons x xs=>
      cases xs with
      |cons _ _=>simp [hargs] at hl
      | nil=>
       simp only [hargs,ET,Li,Ht,Ov] at hl
       have hx:=(ev x).1
       rw [hl] at hx;simp only [R] at hx;obtain ⟨ad,cap,e1,_⟩:=hx
       have ha:args=#[x]:=QW
       cases ht:ty[0]? with
       |none=>simp [ht] at hu
       |some t=>
        simp only [ht,On] at hu;refine val (v:=ag J (M l:Y)) (λw' _=>Vk) ?_ ?_<;>rw [<-h1]
        ·exact Dz
        ·trivial
    ·rename_i k' es' off' n' c' e hl hu
     simp only [T.all,Az] at h;obtain ⟨h1,_⟩:=h;cases hargs:args.toList with
     |nil=>simp [hargs] at hl
     | cons x xs=>
      cases xs with
      |cons _ _=>simp [hargs] at hl
      | nil=>
       simp only [hargs,ET,Li,Ht,Ov] at hl
       have hx:=(ev x).1
       rw [hl] at hx;simp only [R] at hx;obtain ⟨_,ad,e1,_⟩:=hx
       have ha:args=#[x]:=QW
       cases ht:ty[0]? with
       |none=>simp [ht] at hu
       |some t=>
        simp only [ht,On] at hu;refine val (v:=ag J n') (λw' _=>Vk) ?_ ?_<;>rw [<-h1]
        ·exact Dz
        ·trivial
    ·exact NZ
   ·exact NZ
def aDI (tr:aVC):∀(H:aVB) (k i:aVx),(Ej tr k H)[i]? =(H[i]?).map λb=>if tr.contains (k+i) then RA b else b
 | [],k,i=>by simp [Ej]
 |b::bs,k,0=>by simp [Ej]
 |b::bs,k,i+1=>by
  simp only [Ej,lu];rw [aDI tr bs (k+1) i]
  have:k+1+i=k+(i+1):=A0
  rw [this]
def W4 (tr:aVC):∀(H:aVB) (k:aVx),M (Ej tr k H)=M H
 | [],_=>rfl
 |_::bs,k=>by simp [Ej,W4 tr bs<|k+1]
def aL7:∀(ys:aVO),RL β Z w (aq (M ys) .junk) ys
 | []=>bT
 |y::ys=>by simp only [Bk,Zn,RL];exact ⟨y,ys,rfl,Jm,aL7 ys⟩
def aFt (m:aVx):∀(k:aVx),AT m (aq k .junk)
 |0=>trivial
 |k+1=>⟨ak,aFt m k⟩
def Shp (tr:aVC) (β:aVx->aWe) (H:aVB) (w:aVJ):Prop:=∀(k:aVx) (b:AB),tr.contains k=U->H[k]? =ah b->b.E4=U->∃cs,w.heap[(β k).b]? =ah (.cells cs b.t (0,0))/\cs.size=M b.c
def agE {b:AB}(h:b.E4=U):b.k=.cl:=by
 unfold AB.E4 at h;split at h
 ·assumption
 ·cases h
def adS (b:AB):(b.E4=U/\RA b=⟨aq (M b.c) .junk,b.t,.cl,b.p⟩)\/(b.E4=X/\RA b=⟨[],b.t,.dead,X⟩):=by
 unfold RA AB.E4;exact aO
def ael {b:AB}{k:aVx}(h:live β k<|RA b):live β k b/\(RA b).p=b.p:=by
 rcases adS b with ⟨h1,h2⟩ |⟨h1,h2⟩
 ·rw [h2];exact ⟨by unfold live;rw [agE h1];trivial,rfl⟩
 ·rw [h2] at h;exact absurd h λh=>h
def RW.pI {tr:aVC}(hW:RW G w0 Z0 Z β H wr) {b:aVx}(hz:Z b):b∉Dd β H tr:=λhm=>by
 obtain ⟨k,bk,_,h2,h3,h4,rfl⟩:=dt.1 hm;exact hW.Ct k bk h2 h3 h4 hz
def RW.ad9 {tr:aVC}(hW:RW G w0 Z0 Z β H wr) {k:aVx}{b:AB}(hb:H[k]? =ah b) (hl:live β k b) (ht:k∉tr):(β k).b∉Dd β H tr:=λhm=>by
 obtain ⟨j,bj,h1,h2,h3,h4,h5⟩:=dt.1 hm
 have:=hW.inj j k bj b h2 hb h3 hl h4 h5.symm
 subst this;exact ht h1
def RW.mask {tr:aVC}{w':aVJ}(hW:RW G w0 Z0 Z β H wr) (hn:DX (Dd β H tr) wr w') (hb0:Below w0.heap.size w0 w') (hs:Shp tr β H w'):RW G w0 Z0 Z β (Ej tr 0 H) w':=by
 have hw:∀b,Z b->w'.heap[b]? =wr.heap[b]? :=λb hz=>hn.block b (hW.Bf b hz)<|hW.pI hz
 have old:∀k b,(Ej tr 0 H)[k]? =ah b->∃b0,H[k]? =ah b0/\(live β k b->live β k b0/\b.p=b0.p)/\((tr.contains k=U/\b=RA b0)\/(tr.contains k=X/\b=b0)):=λk b hb=>by
  rw [aDI] at hb;cases hH:H[k]? with
  |none=>simp [hH] at hb
  | some b0=>
   simp only [hH,Jk,Ah,Eh] at hb;refine ⟨b0,rfl,?_⟩;split at hb
   ·rename_i ht
    subst hb;exact ⟨ael,.inl ⟨ht,rfl⟩⟩
   ·rename_i ht
    grind
 refine ⟨hb0,λb hz=>?_,hW.Eo,λk b hk hl hp=>?_,λk b hk hl hp=>?_,λk b hk hl=>?_,λi j bi bj hi hj li lj pi e=>?_,λk b hb=>?_,hW.Cl.mono (λ_ h=>h) hw,λp hp=>⟨R.mono (n:=M H) (λ_ _=>rfl) (λ_ h=>h) hw _ _ (hW.gh p hp).2 (hW.gh p hp).1,by rw [W4];exact (hW.gh p hp).2⟩,λD hD=>⟨(hW.Cv D hD).1,aS⟩⟩
 ·have:=hW.Bf b hz;have:=hn.size;omega
 ·obtain ⟨b0,h1,h2,_⟩:=old k b hk
  obtain ⟨h3,h4⟩:=h2 hl;exact hW.Ct k b0 h1 h3<|h4▸hp
 ·obtain ⟨b0,h1,h2,_⟩:=old k b hk
  obtain ⟨h3,h4⟩:=h2 hl;exact hW.GQ k b0 h1 h3<|h4▸hp
 ·obtain ⟨b0,h1,h2,_⟩:=old k b hk
  exact hW.low k b0 h1 (h2 hl).1
 ·obtain ⟨b0,h1,h2,_⟩:=old i bi hi
  obtain ⟨c0,g1,g2,_⟩:=old j bj hj;exact hW.inj i j b0 c0 h1 g1 (h2 li).1 (g2 lj).1 ((h2 li).2▸pi) e
 ·obtain ⟨b0,h1,h2,h3⟩:=old k b hb
  obtain ⟨f1,f2⟩:=hW.blk k b0 h1;rw [W4];rcases h3 with ⟨ht,rfl⟩ |⟨ht,rfl⟩
  ·rcases adS b0 with ⟨m1,m2⟩ |⟨m1,m2⟩
   ·rw [m2]
    obtain ⟨cs',g1,g2⟩:=hs k b0 ht h1 m1;refine ⟨⟨cs',g1,?_⟩,aFt _ _,ak⟩
    have:=aL7 (β:=β) (Z:=Z) (w:=w') cs'.toList
    grind
   ·rw [m2]
    exact ⟨ak,ak,ak⟩
  ·have hkt:k∉tr:=A8
   exact ⟨f1.keep (λ_ _=>rfl) (λ_ h=>h) hw rfl (λhl=>hn.block _ (hW.lt h1 hl)<|hW.ad9 h1 hl hkt) f2,f2⟩
def rL {o:aVP}{g:aVY}{l:aVy}{lv:LV}{H':aVB}(h:(M0 P Γ H o g l).all λq=>q=(lv,H')):EvL H H':=by
 have bd:∀ {t:T LV} {H1:aVB},(t.bind λy=>(T.ok (y,H1):T<|LV×List AB)).all (λq=>q=(lv,H'))->H'=H1:=λh=>by
  exact aNM
 obtain ⟨_,_,_,_,_,_,h⟩:=Ta h;split at h
 ·rw [bd h];exact EvL.refl H
 ·split at h
  ·rw [bd h];exact EvL.refl H
  ·split at h
   ·rw [bd h];exact EvL.pub _
   ·cases h
def azg {o:aVP} {lv:LV} {H':aVB} (h:(Ax P G Γ F H o).all λq=>q=(lv,H')):EvL H H':=by
 by_cases hm:P9 P o=U
 ·have hH:H'=H:=T.R1 (p:=λq:LV×List AB=>q.2=H) (x:=(lv,H')) (qn hm) h
  rw [hH];exact EvL.refl H
 ·have bd:∀ {t:T LV} {H1:aVB},(t.bind λy=>(T.ok (y,H1):T<|LV×List AB)).all (λq=>q=(lv,H'))->H'=H1:=λh=>by
   exact aNM
  unfold P9 at hm;split at hm
  ·rename_i t ho
   unfold Ax at h;simp only [ho] at h;split at h
   ·exact aG
   ·cases h
  ·rename_i t x ho
   unfold Ax at h;simp only [ho] at h;exact aG
  ·rename_i t x y ho
   unfold Ax at h;simp only [ho] at h;obtain ⟨H1,h1,h2⟩:=T.B5 h;obtain ⟨_,rfl⟩:=h2;exact afU h1
  ·rename_i t n c ho
   unfold Ax at h;simp only [ho] at h;exact aog h
  ·rename_i t r ho
   unfold Ax at h;cases r with
   | none=>
    simp only [ho] at h;split at h
    ·simp only [T.all,Az] at h
     rw [<-h.2];exact EvL.app _ _
    ·exact aG
   |some r=>
    simp only [ho] at h;rw [bd h];exact EvL.refl H
  ·exact aMU
  ·exact aMU
  ·rename_i t len parts ho
   unfold Ax at h;simp only [ho] at h;split at h
   ·split at h
    ·unfold XF at h
     exact aG
    ·cases h
   ·split at h
    ·split at h
     ·unfold bg at h
      split at h
      ·obtain ⟨y,h1,h2⟩:=T.B5 h
       split at h2
       ·simp only [T.all,Az] at h2
        rw [<-h2.2];exact (EvL.pub _).trans<|EvL.app _ _
       ·cases h2
      ·cases h
     split at h
     ·rw [bd h];exact EvL.refl H
     ·unfold o7 at h
      split at h
      ·obtain ⟨y,h1,h2⟩:=T.B5 h
       simp only [T.all,Az] at h2;rw [<-h2.2];exact EvL.pub _
      ·cases h
    unfold o9 at h;split at h
    ·split at h
     ·split at h
      ·exact aG
      ·cases h
     ·cases h
    ·cases h
  ·rename_i args ty ho
   unfold Ax at h;simp only [ho] at h;split at h
   ·exact afA h
   ·cases h
  ·rename_i args ty ho
   unfold Ax at h;simp only [ho] at h;split at h
   ·exact ap5 h
   ·cases h
  ·rename_i f args ty ho
   unfold Ax at h;simp only [ho] at h;split at h
   ·exact rL h
   ·exact rL h
   ·cases h
  ·rename_i r name args ty ho
   unfold Ax at h;simp only [ho] at h;split at h
   ·exact rL h
   ·cases h
  ·simp at hm
def WV (hΓ:∀g S,Γ g=ah S->Valid P G g S) {ops:aVE}{tr:aVC}{Hm:aVB}{D:aVJ->Prop}{K:aVX->Prop}{F':aVy}{HH:aVB}(hlen:M Hm=M H)
  (hW:RW G w0 Z0 Z β Hm wr) (hD:∀w',D w'->RW G w0 Z0 Z β Hm w'/\∀b,(Z b\/∃k bk,Hm[k]? =ah bk/\live β k bk/\tr.contains k=X/\b=(β k).b)->w'.heap[b]? =wr.heap[b]?)
  (hK:∀a1,RF ds β Z wr (M H) F' a1->K a1):∀(fs:aV1) (os:aV5) (F:aVy) (a:aVX),M fs=M os->RF ds β Z wr (M H) F a->
   (IC P G Γ ops tr HH Hm fs os F).all (λq=>q=(F',HH))->I5 P ops D K fs os a
 | [],[],F,a,_,hF,h=>by
  simp only [IC,T.all,Az,Ov] at h;subst h;exact afb (hK a hF)
 | [],_::_,_,_,hl,_,_=>bU
 |_::_,[],_,_,hl,_,_=>bU
 | f ::fs,o::os,F,a,hl,hF,h=>by
  have hl':M fs=M os:=nM
  simp only [IC] at h;simp only [I5];split at h
  ·rename_i hf
   rw [AD hf];exact WV hΓ hlen hW hD hK fs os F a hl' hF h
  ·rename_i hf
   rw [AE hf]
   have goOk:∀(F:aVy),RF ds β Z wr (M H) F a->((Xt P G Γ tr F Hm o).bind λy=>IC P G Γ ops tr HH Hm fs os<|Aw F o.dst y).all (λq=>q=(F',HH))->calm P o a D (I5 P ops D K fs os):=λF hF h=>by
    obtain ⟨lv,h1,h2⟩:=T.B5 h;obtain ⟨v,g1,g2,g3⟩:=aem hΓ hW (by rw [hlen];exact hF) hD h1
    exact ⟨v,g1,WV hΓ hlen hW hD hK fs os _ _ hl' (hF.put g2 (by rw [<-hlen];exact g3) o.dst) h2⟩
   have passOk:∀(F:aVy),RF ds β Z wr (M H) F a->(IC P G Γ ops tr HH Hm fs os<|Aw F o.dst<|.v undef).all (λq=>q=(F',HH))->I5 P ops D K fs os (a.put o.dst undef):=λF hF h=>
    WV hΓ hlen hW hD hK fs os _ _ hl' (hF.pass o.dst) h
   split at h
   ·rename_i hg
    have hw:az o (yielded ops a.tmps)=true:=bH
    rw [AD hw];exact goOk F hF h
   ·rename_i j want hg
    split at h
    ·rename_i d hd
     split at h
     ·rename_i b hb
      obtain ⟨s1,s2⟩:=hF.slot hb AI
      have hv:=(hF.get d _ s1).1
      simp only [R] at hv;rw [hv] at s2;rw [WI hg hd s2];split at h
      ·grind
      ·grind
     ·rename_i g hb
      obtain ⟨s1,s2⟩:=hF.slot hb AI
      have hv:=(hF.get d _ s1).1
      simp only [R] at hv
      have kn:∀b,g=b->RF ds β Z wr (M H) (F.set d<|.bl b) a:=λb e=>hF.know nC trivial
      rw [hv] at s2;rw [WI hg hd s2];split at h
      ·rename_i hwt
       subst hwt;cases hgg:g with
       |true=>simp only [Oo,Bp];exact goOk _ (kn U hgg) (h.1 hgg)
       |false=>rw [AE AI];exact passOk _ (kn X hgg)<|h.2 hgg
      ·rename_i hwt
       have hwt':want=false:=yy
       subst hwt';cases hgg:g with
       |true=>rw [AE AI];exact passOk _ (kn U hgg) (h.1 hgg)
       |false=>simp only [Oo,Bp];exact goOk _ (kn X hgg)<|h.2 hgg
     ·rename_i vs hb
      obtain ⟨s1,s2⟩:=hF.slot hb AI
      have hv:=(hF.get d _ s1).1
      exact aNG
     ·cases h
    ·cases h
def WM {ops:aVE}{tr:aVC}{Hm:aVB}{F0:aVy}:∀(fs:aV1) (os:aV5) (F:aVy),(∀o∈os,o∈ops.toList)->M F=M F0/\(∀i,i∉Fa ops.toList->F[i]? =F0[i]?)->
  (IC P G Γ ops tr H Hm fs os F).lv (Keeps (Fa ops.toList) F0 H)
 | [],_,F,_,h=>aO9
 |_::_,[],F,_,h=>aO9
 | f ::fs,o::os,F,hin,h=>by
  have hin':∀o∈os,o∈ops.toList:=λo ho=>hin o A8
  have hdo:∀t,o.dst=ah t->t∈Fa ops.toList:=λt ht=>Sz.2 ⟨o,hin o AI,ht⟩
  have go:∀F:aVy,M F=M F0/\(∀i,i∉Fa ops.toList->F[i]? =F0[i]?)->((Xt P G Γ tr F Hm o).bind λy=>IC P G Γ ops tr H Hm fs os<|Aw F o.dst y).lv (Keeps (Fa ops.toList) F0 H):=λF hF=>
   T.Tg (p:=λ_=>True) (λq _=>WM fs os _ hin'<|WE hF hdo _) (T.Wk (λ_=>trivial) _)
  have pass:∀F:aVy,M F=M F0/\(∀i,i∉Fa ops.toList->F[i]? =F0[i]?)->(IC P G Γ ops tr H Hm fs os<|Aw F o.dst<|.v undef).lv (Keeps (Fa ops.toList) F0 H):=λF hF=>
   WM fs os _ hin' (WE hF hdo _)
  simp only [IC];split
  ·exact WM fs os F hin' h
  ·split
   ·exact go F h
   ·rename_i j want hg
    split
    ·rename_i d hd
     have hdd:d∈Fa ops.toList:=by
      cases hj:ops[j]? with
      |none=>simp [hj] at hd
      |some oj=>simp [hj] at hd;exact Sz.2 ⟨oj,A8,hd⟩
     split
     ·split
      ·exact go F h
      ·grind
     ·exact aMb
     ·grind
     ·trivial
    ·trivial
structure Gh where
 Z:aVx->Prop
 β:aVx->Loc
 H:aVB
 F:aVy
 a:aVX
structure Cn (ds:aWd) (G:B3) (w0:aVJ) (Z0:Gz) (tr:aVC) (β:aVx->aWe) (H:aVB) (wr:aVJ) (g:Gh) (w':aVJ):Prop where
 rw:RW G w0 Z0 g.Z g.β g.H w'
 rf:RF ds g.β g.Z w' (M g.H) g.F g.a
 near:DX (Dd β H tr) wr w'
 len:M H<=M g.H
 old:∀k,k<M H->g.β k=β k
 new:∀k,M H<=k->k<M g.H->wr.heap.size<=(g.β k).b\/(g.β k).b∈Dd β H tr
 KA:EvL H g.H
def Cn.keep {tr:aVC}{g:Gh}{w' w'':aVJ}(h:Cn ds G w0 Z0 tr β H wr g w') (hb:Below w'.heap.size w' w''):Cn ds G w0 Z0 tr β H wr g w'':=
 ⟨h.rw.same hb,h.rf.mono (Aq _) (λ_ _=>rfl) (λ_ h=>h) λb hz=>EE hb<|h.rw.Bf b hz,aeh h.near hb,h.len,h.old,h.new,h.KA⟩
def Cn.shape {tr:aVC}{g:Gh}{w':aVJ}(h:Cn ds G w0 Z0 tr β H wr g w'):Shp tr β H w':=λk b _ hb hcl=>by
 obtain ⟨b',e1,e2⟩:=h.KA k b hb;obtain ⟨c1,c2,c3⟩:=e2.cl hcl;obtain ⟨_,⟨cs,f2,f3⟩,_⟩:=qy h.rw e1 c1
 have hk:=(EC.1 hb).1
 rw [h.old k hk,c2] at f2;refine ⟨cs,f2,?_⟩
 have:=RL.length f3
 simp at this
 omega
def Cn.touch {tr:aVC}{g:Gh}{o:aVP}{w':aVJ}(hc:Cn ds G w0 Z0 tr β H wr g w') (hst:CP G g.F tr (M H) o=U) {x:aVx}(hx:x∈Dd g.β g.H (Er G g.F o)):wr.heap.size<=x\/x∈Dd β H tr:=by
 obtain ⟨k,b,h1,h2,h3,h4,rfl⟩:=dt.1 hx
 have hkg:=(EC.1 h2).1
 by_cases hk:k<M H
 ·right
  have:=BH.1 hst k h1
  simp only [Cf,Ab] at this
  have hkt:k∈tr:=by
   rcases this with h|h
   ·grind
   ·omega
  obtain ⟨b0,hb0⟩:∃b0,H[k]? =ah b0:=⟨_,Dh hk⟩;obtain ⟨b',e1,e2⟩:=hc.KA k b0 hb0;rw [h2] at e1;simp only [Ah] at e1;subst e1;refine dt.2 ⟨k,b0,hkt,hb0,?_,e2.p h4,by rw [hc.old k hk]⟩
  have:=e2.live g.β k h3
  rwa [KW<|hc.old k hk] at this
 ·exact hc.new k A0 hkg
def dF (hΓ:∀g S,Γ g=ah S->Valid P G g S) {tr:aVC}{g:Gh}{o:aVP}{lv:LV}{H1:aVB}{w':aVJ}(hst:CP G g.F tr (M H) o=U) (h1:(Ax P G Γ g.F g.H o).all λq=>q=(lv,H1)) (hc:Cn ds G w0 Z0 tr β H wr g w'):
  Dn P (λv w''=>∃g':Gh,Cn ds G w0 Z0 tr β H wr g' w''/\g'.F=Aw g.F o.dst lv/\g'.H=H1/\g'.a=g.a.put o.dst v) ((execOp g.a.eval o).run P w'):=by
 refine KP (λv w'' ⟨Z',β',e1,e2,e3,e4,e5,e6,e7,e8⟩=>?_)<|cy hΓ hc.rw hc.rf h1
 refine ⟨⟨Z',β',H1,Aw g.F o.dst lv,g.a.put o.dst v⟩,?_,rfl,rfl,rfl⟩
 have hsz:=hc.near.size
 refine ⟨e1,e2.put e3 e4 o.dst,⟨e8.os.trans hc.near.os,e8.tape.trans hc.near.tape,e8.output.trans hc.near.output,Hr hsz e8.size,λk hk hn=>?_⟩,Hr hc.len e5,λk hk=>?_,λk h3 h4=>?_,hc.KA.trans<|azg h1⟩
 ·exact aN1
 ·show β' k=β k
  rw [e6 k<|Zo hk hc.len];exact hc.old k hk
 ·show wr.heap.size<=(β' k).b\/(β' k).b∈Dd β H tr
  by_cases hkk:k<M g.H
  ·rw [e6 k hkk];exact hc.new k h3 hkk
  ·rcases e7 k A0 h4 with h|h
   ·omega
   ·exact hc.touch hst h
def po {T':Type}{C:T'->aVJ->Prop}{Q':aVX->aVJ->Prop}{ops:aVE}{g g1:T'}(hs:∀w',C g w'->C g1 w'):∀(fs:aV1) (os:aV5) (a:aVX),
  H6 P ops C (λa' g'=>∀w',C g' w'->Q' a' w') fs os a g1->H6 P ops C (λa' g'=>∀w',C g' w'->Q' a' w') fs os a g
 | [],_,a,h=>by
  simp only [H6] at h|-
  grind
 |_::_,[],a,h=>by
  simp only [H6] at h|-
  grind
 | f::fs,o::os,a,h=>by
  simp only [H6] at h|-;split
  ·rename_i hf
   rw [AD hf] at h;split
   ·rename_i hw
    rw [AD hw] at h;exact λw' hw'=>h w'<|hs w' hw'
   ·rename_i hw
    rw [AE hw] at h;exact po hs fs os _ h
  ·rename_i hf
   rw [AE hf] at h;exact po hs fs os a h
def qJ (hΓ:∀g S,Γ g=ah S->Valid P G g S) {ops:aVE}{tr:aVC}{Q:aVX->aVJ->Prop}{F':aVy}{H':aVB}
  (hQ:∀g:Gh,g.F=F'->g.H=H'->∀w',Cn ds G w0 Z0 tr β H wr g w'->Q g.a w'):∀(fs:aV1) (os:aV5) (g:Gh),M fs=M os->(∃w',Cn ds G w0 Z0 tr β H wr g w')->
   (p2x P G Γ ops tr (M H) fs os g.F g.H).all (λq=>q=(F',H'))->H6 P ops (Cn ds G w0 Z0 tr β H wr) (λa' g'=>∀w',Cn ds G w0 Z0 tr β H wr g' w'->Q a' w') fs os g.a g
 | [],[],g,_,_,h=>by
  simp only [p2x,T.all,Az] at h;exact aff (hQ g h.1 h.2)
 | [],_::_,_,hl,_,_=>bU
 |_::_,[],_,hl,_,_=>bU
 | f ::fs,o::os,g,hl,hex,h=>by
  have hl':M fs=M os:=nM
  simp only [p2x] at h;simp only [H6];split at h
  ·rename_i hf
   rw [AD hf]
   have turn:∀(F1:aVy),(∀w',Cn ds G w0 Z0 tr β H wr g w'->RF ds g.β g.Z w' (M g.H) F1 g.a)->∀w',Cn ds G w0 Z0 tr β H wr g w'->Cn ds G w0 Z0 tr β H wr ⟨g.Z,g.β,g.H,F1,g.a⟩ w':=λF1 hF1 w' hc=>⟨hc.rw,hF1 w' hc,hc.near,hc.len,hc.old,hc.new,hc.KA⟩
   have goOk:∀(F1:aVy),(∀w',Cn ds G w0 Z0 tr β H wr g w'->RF ds g.β g.Z w' (M g.H) F1 g.a)->(if CP G F1 tr (M H) o then (Ax P G Γ F1 g.H o).bind λq=>p2x P G Γ ops tr (M H) fs os (Aw F1 o.dst q.1) q.2 else .no).all (λq=>q=(F',H'))->
     Ua P o g.a (Cn ds G w0 Z0 tr β H wr) g (H6 P ops (Cn ds G w0 Z0 tr β H wr) (λa' g'=>∀w',Cn ds G w0 Z0 tr β H wr g' w'->Q a' w') fs os):=λF1 hF1 h=>by
    split at h
    ·rename_i hst
     obtain ⟨⟨lv,H1⟩,h1,h2⟩:=T.B5 h;intro w' hc;refine KP (λv w'' ⟨g',e1,e2,e3,e4⟩=>⟨g',e1,?_⟩)<|dF (g:=⟨g.Z,g.β,g.H,F1,g.a⟩) hΓ hst h1<|turn F1 hF1 w' hc
     have:=qJ hΓ hQ fs os g' hl' ⟨w'',e1⟩ (by rw [e2,e3];exact h2)
     rw [e4] at this;exact this
    ·cases h
   have passOk:∀(F1:aVy),(∀w',Cn ds G w0 Z0 tr β H wr g w'->RF ds g.β g.Z w' (M g.H) F1 g.a)->(p2x P G Γ ops tr (M H) fs os (Aw F1 o.dst<|.v undef) g.H).all (λq=>q=(F',H'))->
     H6 P ops (Cn ds G w0 Z0 tr β H wr) (λa' g'=>∀w',Cn ds G w0 Z0 tr β H wr g' w'->Q a' w') fs os (g.a.put o.dst undef) g:=λF1 hF1 h=>by
    have ps:∀w',Cn ds G w0 Z0 tr β H wr g w'->Cn ds G w0 Z0 tr β H wr ⟨g.Z,g.β,g.H,Aw F1 o.dst<|.v undef,g.a.put o.dst undef⟩ w':=λw' hc=>⟨hc.rw,(hF1 w' hc).pass o.dst,hc.near,hc.len,hc.old,hc.new,hc.KA⟩
    refine po (Q':=Q) (g1:=⟨g.Z,g.β,g.H,Aw F1 o.dst<|.v undef,g.a.put o.dst undef⟩) ps fs os _ ?_;exact qJ hΓ hQ fs os ⟨g.Z,g.β,g.H,Aw F1 o.dst<|.v undef,g.a.put o.dst undef⟩ hl' (hex.imp λw' hc=>ps w' hc) h
   obtain ⟨wx,hcx⟩:=hex
   have hF:=hcx.rf
   split at h
   ·rename_i hg
    have hw:az o (yielded ops g.a.tmps)=true:=bH
    rw [AD hw];exact goOk g.F (λw' hc=>hc.rf) h
   ·rename_i j want hg
    split at h
    ·rename_i d hd
     split at h
     ·rename_i b hb
      obtain ⟨s1,s2⟩:=hF.slot hb AI
      have hv:=(hF.get d _ s1).1
      simp only [R] at hv;rw [hv] at s2;rw [WI hg hd s2];split at h
      ·rename_i e;subst e;simp only [Oo,Bp];exact goOk g.F (λw' hc=>hc.rf) h
      ·rename_i e;rw [AE zQ];exact passOk g.F (λw' hc=>hc.rf) h
     ·rename_i b hb
      obtain ⟨s1,s2⟩:=hF.slot hb AI
      have hv:=(hF.get d _ s1).1
      simp only [R] at hv
      have kn:∀c,b=c->∀w',Cn ds G w0 Z0 tr β H wr g w'->RF ds g.β g.Z w' (M g.H) (g.F.set d<|.bl c) g.a:=λc e w' hc=>hc.rf.know nC trivial
      rw [hv] at s2;rw [WI hg hd s2];split at h
      ·rename_i hwt
       subst hwt;cases hgg:b with
       |true=>simp only [Oo,Bp];exact goOk _ (kn U hgg) (h.1 hgg)
       |false=>rw [AE AI];exact passOk _ (kn X hgg)<|h.2 hgg
      ·rename_i hwt
       have hwt':want=false:=yy
       subst hwt';cases hgg:b with
       |true=>rw [AE AI];exact passOk _ (kn U hgg) (h.1 hgg)
       |false=>simp only [Oo,Bp];exact goOk _ (kn X hgg)<|h.2 hgg
     ·rename_i vs hb
      obtain ⟨s1,s2⟩:=hF.slot hb AI
      have hv:=(hF.get d _ s1).1
      simp only [R] at hv;rw [hv] at s2;rw [acu hg hd s2,AE AI];exact passOk g.F (λw' hc=>hc.rf) h
     ·cases h
    ·cases h
  ·rename_i hf
   rw [AE hf];exact qJ hΓ hQ fs os g hl' hex h
def T.swap {α γ:Type}{K:α->γ->Prop}{t:T α}{u:T γ}:t.all (λx=>u.all λy=>K x y)->u.all (λy=>t.all λx=>K x y):=by
 intro h;obtain ⟨x,h1,h2⟩:=T.pick h;refine T.Bb (λy hy=>?_) h1
 exact T.Bb (λz hz=>A8) h2
def Fo {F:aVy}{d:aV9}{y:LV}{x:aWc}(h:∀t,d=ah t->x≠ .tmp t):AM G (Aw F d y) x=AM G F x:=by
 cases d with
 |none=>rfl
 | some t=>
  cases x with
  |tmp s=>
   have hne:s≠t:=λe=>h t rfl<|by rw [e]
   simp only [AM,Aw,List.getD,Zm<|Ou hne]
  |_=>rfl
def looks {ops:aVE}{o:aVP}{d:aV9}(h:∀t,d=ah t->t∉o.looksAt ops):∀x∈o.op.operands,∀t,d=ah t->x≠ .tmp t:=λx hx t ht e=>h t ht (by
 subst e;exact List.mem_append_left _<|Sz.2 ⟨.tmp t,A8,rfl⟩)
def Lo {F:aVy}{d e:aV9}{x y:LV}(h:∀t,d=ah t->e≠ah t):Aw (Aw F d x) e y=Aw (Aw F e y) d x:=by
 cases d with
 |none=>rfl
 | some t=>
  cases e with
  |none=>rfl
  |some s=>
   have:t≠s:=λe=>h t rfl<|by rw [e]
   exact List.set_comm _ _ A0
def Qj {ops:aVE}{o:aVP}{d:aV9}{y:LV}(h:∀t,d=ah t->t∉o.looksAt ops):Ip P G Γ (Aw F d y) o=Ip P G Γ F o:=by
 have hl:=looks h
 unfold Ip;split
 ·rename_i t len parts ho
  have em:(parts.toList.map λq=>(q.1,AM G (Aw F d y) q.2))=parts.toList.map λq=>(q.1,AM G F q.2):=Jl λq hq=>by
   rw [Fo<|hl q.2 yd]
  rw [em]
 ·rename_i f args ty ho
  have e1:AM G (Aw F d y) f=AM G F f:=Fo<|hl f aO7
  have e2:(args.toList.map λx=>norm<|AM G (Aw F d y) x)=args.toList.map λx=>norm (AM G F x):=Jl λx hx=>by
   rw [Fo<|hl x aQ]
  rw [e1,e2]
 ·rfl
def aKT {ops:aVE}{o:aVP}{d:aV9}{y:LV}(ha:NI o=U) (h:∀t,d=ah t->t∉o.looksAt ops):Ax P G Γ (Aw F d y) H o=Ax P G Γ F H o:=by
 have hl:=looks h
 unfold NI at ha;split at ha
 ·rename_i t ho
  unfold Ax
  grind
 ·rename_i t x ho
  unfold Ax;simp only [ho];exact mP
 ·rename_i t x ho
  unfold Ax;simp only [ho];exact mP
 ·cases ha
def aDq {tr:aVC}{n0:aVx}{o:aVP}{F:aVy}(h:En o=U\/Ie o=U):CP G F tr n0 o=true:=by
 have hw:Er G F o=[]:=by
  unfold Er;split
  ·exact aJ
  ·exact aJ
  ·exact aJ
  ·exact aJ
  ·exact aJ
  ·rfl
 unfold CP;rw [hw];rfl
def WC {tr:aVC}{n0:aVx}{o:aVP}{F:aVy}(h:NI o=U\/Ie o=U):CP G F tr n0 o=true:=by
 have hw:Er G F o=[]:=by
  unfold Er;split
  ·exact aK
  ·exact aK
  ·exact aK
  ·exact aK
  ·exact aK
  ·rfl
 unfold CP;rw [hw];rfl
def PJ {ops:aVE}{i:aVx}{o:aVP}(h:FJ ops i o=U):Ie o=true:=by
 unfold FJ at h;rw [AX] at h;exact h.1
def afL {ops:aVE}{tr:aVC}{n0:aVx}{i j:aVx}{is:aVC}{K:List LV×List AB->Prop}(x y:aVP) (hx:ops[i]? =ah x) (hy:ops[j]? =ah y) (g1:x.guard.isNone=U) (g2:y.guard.isNone=U) (g3:((NI x=U/\FJ ops j y=U)\/(FJ ops i x=U/\NI y=U))\/(FJ ops i x=U/\FJ ops j y=U)) (hap:x.apart ops y=U) (h:(Fg P G Γ ops tr n0 (j::i::is) F H).all K):(Fg P G Γ ops tr n0 (i::j::is) F H).all K:=by
 obtain ⟨a1,a2,a3⟩:=Zl hap
 have sx:∀F:aVy,CP G F tr n0 x=true:=λF=>by
  rcases g3 with (g3|g3) |g3
  ·exact WC<|.inl g3.1
  ·exact WC<|.inr<|PJ g3.1
  ·exact WC<|.inr<|PJ g3.1
 have sy:∀F:aVy,CP G F tr n0 y=true:=λF=>by
  rcases g3 with (g3|g3) |g3
  ·exact WC<|.inr<|PJ g3.2
  ·exact WC<|.inl g3.2
  ·exact WC<|.inr<|PJ g3.2
 have notboth:∀o:aVP,Ie o=U->NI o=U->False:=λo h1 h2=>by
  unfold Ie at h1;split at h1
  ·rename_i ho;simp [NI,ho] at h2
  ·rename_i ho;simp [NI,ho] at h2
  ·cases h1
 simp only [Fg,hx,hy,g1,g2,sx,sy,Bool.and_self,Bp] at h|-;rw [T.all_bind] at h|-;rcases g3 with (⟨g3,g4⟩ |⟨g3,g4⟩) |⟨g3,g4⟩
 ·have nx:¬FJ ops i x=true:=λe=>notboth x (PJ e) g3
  simp only [GD,AD g4,AE nx] at h|-;rw [T.all_bind] at h
  have h2:=T.Bb (λz hz=>by
   simp only [T.all] at hz;rw [T.all_bind,aKT g3 a3] at hz;exact hz) h
  refine T.Bb (λq hq=>?_)<|T.swap h2
  rw [T.all_bind,T.all_bind,Qj a1];refine T.Bb (λz hz=>?_) hq
  simp only [T.all]
  rwa [Lo a2]
 ·have ny:¬FJ ops j y=true:=λe=>notboth y (PJ e) g4
  simp only [GD,AD g3,AE ny] at h|-;rw [T.all_bind]
  have h2:=T.Bb (λz hz=>by
   rw [T.all_bind,T.all_bind,Qj a3] at hz;exact hz) h
  refine T.Bb (λq hq=>?_)<|T.swap h2
  simp only [T.all];rw [T.all_bind,aKT g4 a1];refine T.Bb (λz hz=>?_) hq
  rwa [Lo a2]
 ·simp only [GD,AD g3,AD g4] at h|-
  rw [T.all_bind] at h|-
  have h2:=T.Bb (λz hz=>by
   simp only [T.all] at hz;rw [T.all_bind,T.all_bind,Qj a3] at hz;exact hz) h
  refine T.Bb (λq hq=>?_)<|T.swap h2
  simp only [T.all];rw [T.all_bind,T.all_bind,Qj a1];refine T.Bb (λz hz=>?_) hq
  simp only [T.all] at hz|-
  rwa [Lo a2]
def pG {ops:aVE}{o:aVP}{d:aV9}{y:LV}(hs:∀cs b,o.op≠ .select cs b) (h:∀t,d=ah t->t∉o.looksAt ops):Dq P G (Aw F d y) o=Dq P G F o:=by
 have hl:=looks h
 have e:∀x∈o.op.operands,AM G (Aw F d y) x=AM G F x:=λx hx=>Fo<|hl x hx
 unfold Dq
 have e1:o.op.operands.toList.all (λx=>SY<|AM G (Aw F d y) x)=o.op.operands.toList.all (λx=>SY<|AM G F x):=by
  grind
 have e3:o.op.operands.toList.all (λx=>bh<|AM G (Aw F d y) x)=o.op.operands.toList.all (λx=>bh<|AM G F x):=by
  grind
 have e2:Oe P o (λx=>(pl<|AM G (Aw F d y) x).getD undef)=Oe P o (λx=>(pl<|AM G F x).getD undef):=by
  have c:=mF (ρ:=λx=>(pl<|AM G (Aw F d y) x).getD undef) (ρ':=λx=>(pl<|AM G F x).getD undef) o hs λx hx=>A8
  unfold Oe;rw [c]
  have a:R5 P o.op (λx=>(pl<|AM G (Aw F d y) x).getD undef)=R5 P o.op (λx=>(pl<|AM G F x).getD undef):=by
   exact aMy
  rw [a]
 grind
def adh {ops:aVE}{o:aVP}{d:aV9}{y:LV}(h:∀t,d=ah t->t∉o.looksAt ops):pux P G Γ (Aw F d y) o=pux P G Γ F o:=by
 have hl:=looks h
 have e:∀x∈o.op.operands,AM G (Aw F d y) x=AM G F x:=λx hx=>Fo<|hl x hx
 unfold pux;split
 ·exact aN5
 ·exact aN5
 ·rename_i c x z ho;rw [e c FQ,e x FQ,e z FQ]
 ·rename_i t x ho;rw [e x FQ]
 ·rename_i s x i ho;rw [e x FQ]
 ·rename_i t x i ho;rw [e x FQ,e i FQ]
 ·rename_i t parts ho
  congr 1
  refine Jl λq hq=>?_
  have e':=e q.2 yd
  have:I1 G (Aw F d y) q.2=I1 G F q.2:=by
   generalize q.2=x at e';cases x<;>first|rfl|exact e'
  rw [this]
 ·exact Qj h
 ·exact Qj h
 ·rename_i ho;exact pG (λcs b e=>A8) h
 ·rename_i op _ _ _ _ ho
  split
  ·rfl
  ·rfl
  ·rfl
  ·rfl
  ·exact pG (λcs b e=>A8) h
 ·rfl
def adk {d:aV9}{y:LV}{x:aWc}(h:AM G (Aw F d y) x=AM G F x):I1 G (Aw F d y) x=I1 G F x:=by
 cases x<;>simp only [I1,h]
def hpx (P:aVM) (G:B3) (F:aVy) (H:aVB) (o:aVP):T LV:=
 match o.op with
 | .move x=> .ok (AM G F x)
 | .assign x=> .ok (AM G F x)
 | .load t x=>FW P H t (AM G F x)
 | .indexAddr t x i=>Tx P t (AM G F x) (VN<|AM G F i) (AM G F i)
 | .fieldAddr s x i=>XD P s (AM G F x) i
 | .extract x i=>(match AM G F x with
  | .AO l=>(match l[i]? with
   |some y=> .ok y
   |none=> .no)
  |_=>Dq P G F o)
 | .binOp ..=>Dq P G F o
 | .call ..=>Dq P G F o
 | .build t parts=>Nz P t (parts.toList.map λq=>(q.1,I1 G F q.2))
 |_=> .no
def qk {o:aVP}(h:(JQ o ||K8 o)=U):(∃x,o.op=.move x)\/(∃x,o.op=.assign x)\/(∃t x,o.op=.load t x)\/(∃t x i,o.op=.indexAddr t x i)\/(∃t x y u,o.op=.binOp .add t x y u)\/(∃t x y u,o.op=.binOp .sub t x y u)\/(∃x i,o.op=.extract x i)\/(∃x i,o.op=.call {callee:=.builtin .max,args:=x,argTypes:=i})\/(∃x i,o.op=.call {callee:=.builtin .min,args:=x,argTypes:=i})\/(∃s x i,o.op=.fieldAddr s x i)\/(∃t x y u,o.op=.binOp .mul t x y u)\/(∃t ps,o.op=.build t ps):=by
 rcases Sy.1 h with h|h
 ·unfold JQ at h
  split at h
  ·grind
  ·grind
  ·grind
  ·grind
  ·grind
  ·grind
  ·grind
  ·grind
  ·rename_i ho
   split at h
   ·grind
   ·grind
   ·grind
   ·cases h
  ·cases h
 ·unfold K8 at h
  exact ml
def agG {ops:aVE}{k:aVx}{o:aVP}(h:(JQ o ||K8 o)=U):GD P G Γ ops k F H o=(hpx P G F H o).bind λy=> .ok (y,H):=by
 rcases qk h with ⟨x,ho⟩ |⟨x,ho⟩ |⟨t,x,ho⟩ |⟨t,x,i,ho⟩ |⟨t,x,y,u,ho⟩ |⟨t,x,y,u,ho⟩ |⟨x,i,ho⟩ |⟨x,i,ho⟩ |⟨x,i,ho⟩ |⟨t,x,i,ho⟩ |⟨t,x,y,u,ho⟩ |⟨t,ps,ho⟩
 case inr.inr.inr.inr.inr.inr.inl=>
  unfold GD FJ Ie Ax hpx;simp only [ho,QR,IN,FP];generalize AM G F x=v;cases v
  case AO l=>
   dsimp only;cases l[i]? <;>rfl
  all_goals rfl
 all_goals (unfold GD FJ Ie Ax hpx;simp [ho,T.bind])
def qN {ops:aVE}{o:aVP}{d:aV9}{y:LV}(hh:(JQ o ||K8 o)=U) (h:∀t,d=ah t->t∉o.looksAt ops):hpx P G (Aw F d y) H o=hpx P G F H o:=by
 have hl:=looks h
 rcases qk hh with ⟨x,ho⟩ |⟨x,ho⟩ |⟨t,x,ho⟩ |⟨t,x,i,ho⟩ |⟨t,x,z,u,ho⟩ |⟨t,x,z,u,ho⟩ |⟨x,i,ho⟩ |⟨x,i,ho⟩ |⟨x,i,ho⟩ |⟨t,x,i,ho⟩ |⟨t,x,z,u,ho⟩ |⟨t,ps,ho⟩
 ·exact mm
 ·exact mm
 ·exact mm
 ·unfold hpx;simp only [ho]
  rw [Fo<|hl x FQ,Fo<|hl i FQ]
 ·exact xy
 ·exact xy
 ·unfold hpx;simp only [ho]
  rw [Fo<|hl x FQ,pG (λcs b e=>A8) h]
 ·exact aN2
 ·exact aN2
 ·exact mm
 ·exact xy
 ·unfold hpx;simp only [ho]
  have em:(ps.toList.map λq=>(q.1,I1 G (Aw F d y) q.2))=ps.toList.map λq=>(q.1,I1 G F q.2):=Jl λq hq=>by
   exact aN0
  rw [em]
def aSV {o:aVP}{H':aVB}(h:JQ o=U):hpx P G F H o=hpx P G F H' o:=by
 unfold hpx;cases ho:o.op<;>simp_all [JQ]
def cj {o:aVP}{tr:aVC}{n0:aVx}(h:(JQ o ||K8 o)=U) (F:aVy):CP G F tr n0 o=true:=by
 rcases qk h with ⟨x,ho⟩ |⟨x,ho⟩ |⟨t,x,ho⟩ |⟨t,x,i,ho⟩ |⟨t,x,y,u,ho⟩ |⟨t,x,y,u,ho⟩ |⟨x,i,ho⟩ |⟨x,i,ho⟩ |⟨x,i,ho⟩ |⟨t,x,i,ho⟩ |⟨t,x,y,u,ho⟩ |⟨t,ps,ho⟩<;>simp [CP,Er,ho]
def aG2 {ops:aVE}{k:aVx}{o:aVP}{d:aV9}{y:LV}(hh:jQ o=U) (h:∀t,d=ah t->t∉o.looksAt ops):GD P G Γ ops k (Aw F d y) H o=GD P G Γ ops k F H o/\∀tr n0,CP G (Aw F d y) tr n0 o=CP G F tr n0 o:=by
 have hl:=looks h
 unfold jQ at hh;split at hh
 ·rename_i t x z ho
  have e1:=Fo (G:=G) (F:=F) (y:=y)<|hl x FQ
  have e2:=Fo (G:=G) (F:=F) (y:=y)<|hl z FQ
  refine ⟨?_,λtr n0=>?_⟩
  ·unfold GD FJ Ie Ax
   simp only [ho,QR,IN,FP];rw [e1,e2]
  ·unfold CP Er
   simp only [ho];rw [e1]
 ·rename_i t ho
  refine ⟨?_,λtr n0=>?_⟩
  ·unfold GD FJ Ie Ax
   grind
  ·unfold CP Er
   grind
 ·rename_i t x ho
  have e1:=Fo (G:=G) (F:=F) (y:=y)<|hl x FQ
  refine ⟨?_,λtr n0=>?_⟩
  ·unfold GD FJ Ie Ax
   simp only [ho,QR,IN,FP];rw [e1]
  ·unfold CP Er
   grind
 ·cases hh
def gz {ops:aVE}{k:aVx}{o:aVP}(h:FJ ops k o=U):GD P G Γ ops k F H o=(Ip P G Γ F o).bind λy=> .ok (y,H):=by
 unfold GD
 grind
def aGs {ops:aVE}{k:aVx}{o:aVP}{d:aV9}{y:LV}(hh:MC o=U) (h:∀t,d=ah t->t∉o.looksAt ops):GD P G Γ ops k (Aw F d y) H o=GD P G Γ ops k F H o/\∀tr n0,CP G (Aw F d y) tr n0 o=CP G F tr n0 o:=by
 have hl:=looks h
 unfold MC at hh;split at hh
 ·rename_i args tys ho
  have e:args.toList.map (AM G<|Aw F d y)=args.toList.map (AM G F):=Jl λx hx=>Fo<|hl x aQ
  refine ⟨?_,λtr n0=>?_⟩
  ·unfold GD FJ Ie Ax
   simp only [ho,QR,IN,FP];rw [e]
  ·unfold CP Er
   exact TA
 ·cases hh
def T.TM {α:Type}{A:Prop}:∀ {t:T α},t.all (λ_=>A)->A
 | .ok _,h=>h
 | .br b x y,h=>by
  cases b with
  |true=>exact T.TM (t:=x) (h.1 rfl)
  |false=>exact T.TM (t:=y) (h.2 rfl)
 | .req _ x,h=>T.TM (t:=x) h.2
 | .no,h=>h.elim
def aoL {ops:aVE}{tr:aVC}{n0:aVx}{i j:aVx}{is:aVC}{K:List LV×List AB->Prop}(hc:Ri ops i j=U) (h:(Fg P G Γ ops tr n0 (j::i::is) F H).all K):(Fg P G Γ ops tr n0 (i::j::is) F H).all K:=by
 unfold Ri at hc;split at hc
 ·rename_i x y hx hy
  simp only [AX,Cf] at hc;obtain ⟨⟨⟨g1,g2⟩,g3⟩,hap⟩:=hc;obtain ⟨a1,a2,a3⟩:=Zl hap
  have step:∀(k:aVx) (o:aVP) (l:aVC) (F:aVy) (H:aVB),ops[k]? =ah o->o.guard.isNone=U->((Fg P G Γ ops tr n0 (k::l) F H).all K↔(CP G F tr n0 o=U/\(GD P G Γ ops k F H o).all (λq=>(Fg P G Γ ops tr n0 l (Aw F o.dst q.1) q.2).all K))):=λk o l F H hk hg=>by
   simp only [Fg,hk,hg,EU];split
   ·rename_i hs
    rw [T.all_bind];simp only [hs,Ez]
   ·rename_i hs
    constructor
    ·exact λh=>h.elim
    ·grind
  have hpS:∀(k:aVx) (o:aVP) (F:aVy) (H:aVB) (K:LV×List AB->Prop),(JQ o ||K8 o)=U->((GD P G Γ ops k F H o).all K↔(hpx P G F H o).all (λv=>K (v,H))):=λk o F H K ho=>by
   rw [agG ho,T.all_bind];rfl
  rcases g3 with ((((g3|g3) |g3) |g3) |g3) |g3
  ·exact afL x y hx hy g1 g2 g3 hap h
  ·have gx:=Sy.2 g3.1
   have gy:=Sy.2 g3.2
   rw [step _ _ _ _ _ hy g2,hpS j y _ _ _ gy] at h;rw [step _ _ _ _ _ hx g1,hpS i x _ _ _ gx];refine ⟨cj gx F,?_⟩
   have h2:=T.Bb (λv hv=>by
    rw [step _ _ _ _ _ hx g1,hpS i x _ _ _ gx,qN gx a3] at hv;exact hv.2) h.2
   refine T.Bb (λu hu=>?_)<|T.swap h2
   rw [step _ _ _ _ _ hy g2,hpS j y _ _ _ gy,qN gy a1];refine ⟨cj gy _,T.Bb (λv hv=>?_) hu⟩
   rw [Lo a2];exact hv
  ·obtain ⟨gx,gy⟩:=g3
   have gx':(JQ x ||K8 x)=true:=by rw [gx];rfl
   rw [step _ _ _ _ _ hy g2] at h;rw [step _ _ _ _ _ hx g1,hpS i x _ _ _ gx'];refine ⟨cj gx' F,?_⟩
   have h2:=T.Bb (λq hq=>by
    rw [step _ _ _ _ _ hx g1,hpS i x _ _ _ gx',qN gx' a3,aSV (H':=H) gx] at hq;exact hq.2) h.2
   refine T.Bb (λu hu=>?_)<|T.swap h2
   obtain ⟨e1,e2⟩:=aG2 (P:=P) (G:=G) (Γ:=Γ) (F:=F) (H:=H) (y:=u) gy a1;rw [step _ _ _ _ _ hy g2,e1,e2];refine ⟨h.1,T.Bb (λq hq=>?_) hu⟩
   rw [Lo a2];exact hq
  ·obtain ⟨gx,gy⟩:=g3
   have gy':(JQ y ||K8 y)=true:=by rw [gy];rfl
   rw [step _ _ _ _ _ hy g2,hpS j y _ _ _ gy'] at h
   have h2:=T.Bb (λv hv=>by
    obtain ⟨e1,e2⟩:=aG2 (P:=P) (G:=G) (Γ:=Γ) (F:=F) (H:=H) (y:=v) gx a3;rw [step _ _ _ _ _ hx g1,e1,e2] at hv;exact hv) h.2
   rw [step _ _ _ _ _ hx g1];refine ⟨T.TM<|T.Bb (λv hv=>hv.1) h2,?_⟩
   have h3:=T.Bb (λv hv=>hv.2) h2
   refine T.Bb (λq hq=>?_)<|T.swap h3
   rw [step _ _ _ _ _ hy g2,hpS j y _ _ _ gy',qN gy' a1,aSV (H':=H) gy];refine ⟨cj gy' _,T.Bb (λv hv=>?_) hq⟩
   rw [Lo a2];exact hv
  ·obtain ⟨gx,gy⟩:=g3
   rw [step _ _ _ _ _ hy g2] at h;rw [step _ _ _ _ _ hx g1,gz gx,T.all_bind];refine ⟨aDq<|.inr<|PJ gx,?_⟩
   have h2:=T.Bb (λq hq=>by
    rw [step _ _ _ _ _ hx g1,gz gx,T.all_bind,Qj a3] at hq;exact hq.2) h.2
   refine T.Bb (λu hu=>?_)<|T.swap h2
   obtain ⟨e1,e2⟩:=aGs (P:=P) (G:=G) (Γ:=Γ) (F:=F) (H:=H) (y:=u) gy a1
   (try simp only [T.all] at hu)
   (try simp only [T.all])
   rw [step _ _ _ _ _ hy g2,e1,e2];refine ⟨h.1,T.Bb (λq hq=>?_) hu⟩
   (try simp only at hq)
   (try simp only)
   rw [Lo a2];exact hq
  ·obtain ⟨gx,gy⟩:=g3
   rw [step _ _ _ _ _ hy g2,gz gy,T.all_bind] at h
   have h2:=T.Bb (λv hv=>by
    obtain ⟨e1,e2⟩:=aGs (P:=P) (G:=G) (Γ:=Γ) (F:=F) (H:=H) (y:=v) gx a3
    (try simp only [T.all] at hv)
    rw [step _ _ _ _ _ hx g1,e1,e2] at hv;exact hv) h.2
   rw [step _ _ _ _ _ hx g1];refine ⟨T.TM<|T.Bb (λv hv=>hv.1) h2,?_⟩
   have h3:=T.Bb (λv hv=>hv.2) h2
   refine T.Bb (λq hq=>?_)<|T.swap h3
   rw [step _ _ _ _ _ hy g2,gz gy,T.all_bind,Qj a1];refine ⟨aDq<|.inr<|PJ gy,T.Bb (λv hv=>?_) hq⟩
   (try simp only [T.all] at hv)
   (try simp only [T.all])
   rw [Lo a2];exact hv
 ·cases hc
def aoM {ops:aVE}{tr:aVC}{n0:aVx}{j:aVx}{R R':aVC}{K:List LV×List AB->Prop}(hh:∀(F:aVy) (H:aVB),(Fg P G Γ ops tr n0 R F H).all K->(Fg P G Γ ops tr n0 R' F H).all K) (h:(Fg P G Γ ops tr n0 (j::R) F H).all K):(Fg P G Γ ops tr n0 (j::R') F H).all K:=by
 simp only [Fg] at h|-;exact yC
def aF0 {ops:aVE}{tr:aVC}{n0:aVx}{i:aVx}{K:List LV×List AB->Prop}:∀(R:aVC) (F:aVy) (H:aVB),i∈R->(G1 i R).all (λj=>Ri ops i j)=U->(Fg P G Γ ops tr n0 R F H).all K->(Fg P G Γ ops tr n0 (i::R.erase i) F H).all K
 | [],_,_,hi,_,_=>nZ
 | j::R,F,H,hi,hb,h=>by
  by_cases hj:j=i
  ·subst hj
   grind
  ·have hi':i∈R:=by
    exact yR
   simp only [G1,AE hj,It,AX] at hb;rw [VZ A8];exact aoL hb.1<|aoM (λF H h=>aF0 R F H hi' hb.2 h) h
def aor {t:aVN}{len:aVx}{l:aV2}{K:LV->Prop}(h:(LC P t len l).all K):¬len=0:=by
 unfold LC at h
 rintro rfl
 split at h
 ·split at h
  ·split at h
   ·omega
   ·cases h
  ·cases h
 ·cases h
def aeu {t:aVN}{len:aVx}{l:aV2}{K:LV->Prop}(h:(LC P t len l).all K):dZ P t=true:=by
 unfold LC at h;unfold dZ;split at h
 ·rename_i e hu
  split at h
  ·rename_i ty m z h1 h2 h3
   simp [h1]
  ·cases h
 ·cases h
def aIF {o:aVP}{lv:LV}(hm:Ie o=U) (h:(Ip P G Γ F o).all λz=>z=lv):(Ax P G Γ F H o).all (λq=>q=(lv,H)):=by
 unfold Ip at h;split at h
 ·rename_i t len parts ho
  split at h
  ·cases h
  rename_i hrl;split at h
  ·rename_i hno
   unfold Ax;simp only [ho];rw [AE<|aor h,AD<|aeu h,AE hrl,AD hno,T.all_bind];exact aNz
  ·cases h
 ·rename_i f args ty ho
  unfold Ax;simp only [ho];split at h
  ·rename_i g cap hf
   split at h
   ·rename_i fn hfn
    split at h
    ·rename_i hb
     split at h
     ·rename_i S hS
      split at h
      ·rename_i hno
       simp only [hf,M0,hfn,hb,Bp,hS,hno];rw [T.all_bind];exact aNz
      ·cases h
     ·cases h
    ·cases h
   ·cases h
  ·cases h
 ·cases h
def aIJ {l:aVR}{i j:aVx}{d:aVH}:(l.setIfInBounds i U).getD j d=if i=j/\i<l.size then U else l.getD j d:=by
 by_cases e:i=j
 ·subst e
  by_cases h:i<l.size
  ·simp [h]
  ·simp [h]
 ·simp [e]
def vi {l:aVR}{i:aVx}(h:l.getD i U=X):i<l.size/\l.getD i X=false:=by
 rw [m8] at h|-;cases hq:l[i]? with
 |none=>rw [hq] at h;cases h
 |some b=>
  grind
def qz {i:aVx}:∀ {R:aVC}{j:aVx},j∈G1 i R->j∈R/\j≠i
 | [],_,h=>Ar
 | k::R,j,h=>by
  simp only [G1] at h;split at h
  ·cases h
  ·rename_i hk
   rcases BB.1 h with rfl|h
   ·grind
   ·exact ⟨NU _ (qz h).1,(qz h).2⟩
def aFH {p:aVx->aVx->Prop}{i:aVx}:∀ {R:aVC}{j:aVx},R.Pairwise p->i∈R->j∈G1 i R->p j i
 | [],_,_,h,_=>Ar
 | k::R,j,hp,hi,hj=>by
  rw [lf] at hp;simp only [G1] at hj;split at hj
  ·cases hj
  ·rename_i hk
   have hi2:i∈R:=by
    rcases BB.1 hi with e|hi
    ·grind
    ·exact hi
   rcases BB.1 hj with rfl|hj
   ·grind
   ·exact aFH hp.2 hi2 hj
def aEi {i k q:aVx}(hk:k≠i) (hq:q≠i):∀ {R:aVC},q∈G1 k R->q∈G1 k (R.erase i)
 | [],h=>Ar
 | x::R,h=>by
  simp only [G1] at h;split at h
  ·cases h
  ·rename_i hx
   by_cases e:x=i
   ·subst e
    rw [List.erase_cons_head];rcases BB.1 h with rfl|h
    ·grind
    ·exact h
   ·rw [VZ A8]
    simp only [G1,AE hx];rcases BB.1 h with rfl|h
    ·simp
    ·exact NU _<|aEi hk hq h
inductive L4 (ops:Array Oper) (R:List Nat):Nat->Nat->Prop
 |dir {i j:Nat}:preB ops i j=U->L4 ops R i j
 |step {i p j:Nat}:p∈R->preB ops i p=U->L4 ops R p j->L4 ops R i j
def L4.aF4 {ops:aVE}{R:aVC}{listed:aVR}(hm:∀i,i∈R↔listed.getD i U=X) {i j:aVx}(hi:i∈ay .any ops listed) (hj:j∈R) (h:L4 ops R i j):False:=by
 have no:∀p,preB ops i p=U->p∈R->False:=λp h hp=>by
  obtain ⟨_,o,ho,r2⟩:=Ey.1 hi;unfold preB at h;rw [ho] at h;simp only [Oq,AX] at h;obtain ⟨e,he,hb,hq⟩:=h
  have hq:e.on=p:=A8
  have h3:=r2 e A8 hb
  rw [hq] at h3
  have h4:=(vi<|(hm p).1 hp).2
  rw [h3] at h4;cases h4
 cases h with
 |dir h=>exact no _ h hj
 |step hp h _=>exact no _ h hp
def L4.erase {ops:aVE}{R:aVC}{listed:aVR}(hm:∀i,i∈R↔listed.getD i U=X) (hnd:R.Nodup) {k:aVx}(hk:k∈ay .any ops listed) {i j:aVx}(h:L4 ops R i j) (hj:j∈R):L4 ops (R.erase k) i j:=by
 induction h with
 |dir h=>exact .dir h
 |step hp h hr ih=>exact .step (hnd.mem_erase_iff.2 ⟨λe=>by subst e;exact L4.aF4 hm hk hj hr,hp⟩) h<|ih hj
def aHy {ops:aVE}{R:aVC}:∀ {n i j:aVx},j5 ops R n i j=U->L4 ops R i j
 |0,_,_,h=> .dir h
 |n+1,_,_,h=>by
  simp only [j5,Cf,Oq,AX] at h;rcases h with h|⟨p,hp,h1,h2⟩
  ·exact .dir h
  ·exact .step hp h1<|aHy h2
structure anj (ops:aVE) (R:aVC) (listed:aVR):Prop where
 nd:R.Nodup
 mem:∀i,i∈R↔listed.getD i U=X
 pr:R.Pairwise λj i=>L4 ops R i j\/Ri ops i j=U
 tp:∀i∈R,∃o,ops[i]? =ah o/\∀e∈o.after,Region.binds .any e=U->listed.getD e.on X=U\/e.on∈G1 i R
def aQY {ops:aVE}:∀(n:aVx) (R:aVC) (listed:aVR),M R=n->anj ops R listed->MD ops n R listed=U
 |0,R,listed,hn,I=>by
  have e:=xR hn
  subst e;simp only [MD,List.isEmpty_nil,EU,Zr];refine m7.2 λi hi=>?_
  exact absurd ((I.mem i).2 (Ey.1 hi).1) AI
 | n +1,R,listed,hn,I=>by
  simp only [MD,AX,BH,DB,m9];refine ⟨λh0=>?_,λi hi=>?_⟩
  ·match R,hn,I with
   | k::R,_,I=>
    obtain ⟨o,ho,h1⟩:=I.tp k AI
    have:k∈ay .any ops listed:=Ey.2 ⟨(I.mem k).1 AI,o,ho,λe he hb=>by
     rcases h1 e he hb with h2|h2
     ·exact h2
     ·simp [G1] at h2⟩
    rw [h0] at this;cases this
  ·obtain ⟨r1,o,ho,r2⟩:=Ey.1 hi
   have hR:=(I.mem i).2 r1
   refine ⟨⟨A8,λj hj=>?_⟩,aQY n _ _ A8 ⟨I.nd.erase i,λj=>?_,(I.pr.sublist List.erase_sublist).imp_of_mem λ{a b} ha _ h=>h.imp_left λh=>h.erase I.mem I.nd hi<|QH ha,λk hk=>?_⟩⟩
   ·obtain ⟨j1,j2⟩:=qz hj
    rcases aFH I.pr hR hj with h|h
    ·exact (L4.aF4 I.mem hi j1 h).elim
    ·exact h
   ·rw [I.nd.mem_erase_iff,I.mem j,aIJ]
    have hb:=(vi r1).1
    by_cases e:i=j
    ·subst e
     simp [hb]
    ·grind
   ·have hk':=I.nd.mem_erase_iff.1 hk
    obtain ⟨o',ho',h1⟩:=I.tp k hk'.2;refine ⟨o',ho',λe he hb=>?_⟩
    rw [aIJ]
    by_cases q:i=e.on
    ·left
     grind
    ·rw [AE λh=>q h.1]
     rcases h1 e he hb with h2|h2
     ·grind
     ·exact .inr<|aEi hk'.1 (Ou q) h2
def aJP:∀ {l:aVC},oK l=U->l.Nodup
 | [],_=>List.nodup_nil
 |x::l,h=>by
  simp only [oK,AX,DB,List.contains_eq_mem,DI] at h;exact MX.2 ⟨h.1,aJP h.2⟩
def aEy {ops:aVE}{R0:aVC}:∀ {R:aVC},fk ops R0 R=U->R.Pairwise λj i=>L4 ops R0 i j\/Ri ops i j=U
 | [],_=>List.Pairwise.nil
 |j::R,h=>by
  simp only [fk,AX,BH,Cf] at h;exact lf.2 ⟨λi hi=>(h.1 i hi).symm.imp_left aHy,aEy h.2⟩
def aQX {ops:aVE}{R:aVC}{listed:aVR}(h:nt ops R listed=U):MD ops (M R) R listed=true:=by
 unfold nt aaX at h;simp only [AX,BH,Iu] at h;obtain ⟨h1,h2,h3,h4,h5,h6⟩:=h
 have h2:listed.size=ops.size:=A8
 refine aQY _ R listed rfl ⟨aJP h1,λi=>?_,aEy h5,λi hi=>?_⟩
 ·by_cases hi:i<ops.size
  ·have:=h3 i hi
   constructor
   ·intro hm
    grind
   ·intro hm
    grind
  ·constructor
   ·intro hm
    grind
   ·intro hm
    have:=(vi hm).1
    omega
 ·have:=h6 i hi
  split at this
  ·rename_i o ho
   refine ⟨o,ho,λe he hb=>?_⟩
   grind
  ·cases this
def aDk (hΓ:∀g S,Γ g=ah S->Valid P G g S) {ops:aVE}{tr:aVC}{D:aVJ->Prop}{sp:aVx->aVH}{Q:aVX->Gh->Prop}{F':aVy}{H':aVB}
  (hQ:∀g:Gh,g.F=F'->g.H=H'->Q g.a g):∀(n:aVx) (R:aVC) (listed:aVR) (g:Gh),(∀i∈R,sp i=U)->MD ops n R listed=U->
   (Fg P G Γ ops tr (M H) R g.F g.H).all (λq=>q=(F',H'))->Ke P .any ops D (Cn ds G w0 Z0 tr β H wr) sp Q n listed g.a g
 |0,R,listed,g,_,hB,h=>by
  simp only [MD,AX,Zr] at hB;obtain ⟨rfl,h2⟩:=hB;simp only [Fg,T.all,Az] at h;exact ⟨h2,hQ g h.1 h.2⟩
 | n +1,R,listed,g,hs,hB,h=>by
  simp only [MD,AX,BH,DB,m9] at hB;obtain ⟨hne,hall⟩:=hB;refine ⟨λh0=>absurd h0 hne,λi hi=>?_⟩
  obtain ⟨⟨hR,hbef⟩,hrest⟩:=hall i hi
  have hiR:i∈R:=A8
  have hf:=aF0 R g.F g.H hiR A8 h
  simp only [Fg] at hf;split at hf
  ·rename_i o ho
   split at hf
   ·rename_i hgs
    simp only [AX,Zs] at hgs;obtain ⟨hgd,hst⟩:=hgs
    have hw:az o (yielded ops g.a.tmps)=true:=yq
    unfold E8;simp only [ho,hw,Bp,hs i hiR];obtain ⟨⟨lv,H1⟩,h1,h2⟩:=T.B5 hf
    have h1':(Ax P G Γ g.F g.H o).all (λq=>q=(lv,H1)):=by
     unfold GD at h1;split at h1
     ·rename_i hm
      obtain ⟨y,k1,k2⟩:=T.B5 h1;obtain ⟨rfl,rfl⟩:=k2;exact aIF (PJ hm) k1
     ·exact h1
    intro w' hc;refine KP (λv w'' ⟨g',e1,e2,e3,e4⟩=>⟨g',e1,?_⟩)<|dF hΓ hst h1' hc
    rw [<-e4];refine aDk hΓ hQ n (R.erase i) _ g' (λj hj=>hs j<|QH hj) hrest ?_
    rwa [e2,e3]
   ·cases hf
  ·cases hf
def T.Ev {α:Type}(t:T α) (K:α->Prop):Prop:=∀K1:α->Prop,t.all K1->t.all (λq=>K1 q/\K q)
def T.Us {α:Type}{x:α}{K:α->Prop}(h:K x):T.Ev (.ok x) K:=λ_ h1=>⟨h1,h⟩
def T.Kr {α:Type}{K:α->Prop}:T.Ev (.no:T α) K:=λ_ h1=>h1.elim
def T.aTW {α:Type}{p:Prop}{t:T α}{K:α->Prop}(h:T.Ev t K):T.Ev (.req p t) K:=λ_ h1=>⟨h1.1,h _ h1.2⟩
def T.fe {α γ:Type}{t:T α}{f:α->T γ}{K:γ->Prop}(h:∀x,T.Ev (f x) K):T.Ev (t.bind f) K:=λK1 h1=>by
 rw [T.all_bind] at h1|-;exact T.Bb (λx hx=>h x _ hx) h1
def HK (H H':aVB):Prop:=∀(k:aVx) (b:AB),H'[k]? =ah b->b.E4=U->∃b0:AB,H[k]? =ah b0/\b0.E4=U/\b0.c=b.c
def HK.refl (H:aVB):HK H H:=λ_ b h1 h2=>⟨b,h1,h2,rfl⟩
def HK.snoc {H H':aVB}(h:HK H H') {nb:AB}(hn:nb.E4=X):HK H (H'++[nb]):=λk b h1 h2=>by
 rw [List.getElem?_append] at h1;split at h1
 ·exact h k b h1 h2
 ·cases e:k-M H' with
  |zero=>
   grind
  |succ n=>rw [e] at h1;simp at h1
def HK.set {H:aVB}{k:aVx}{nb:AB}(hn:nb.E4=X):HK H (H.set k nb):=λj b h1 h2=>by
 rw [IS] at h1;split at h1
 ·split at h1
  ·simp only [Ah] at h1
   grind
  ·cases h1
 ·grind
def HK.pub (ks:aVC) {H:aVB}:HK H (Ft ks 0 H):=λk b h1 h2=>by
 rw [cx] at h1;cases e:H[k]? with
 |none=>rw [e] at h1;cases h1
 | some b0=>
  rw [e] at h1;simp only [Jk,Ah] at h1;refine ⟨b0,rfl,?_,?_⟩
  ·rw [<-h1] at h2
   split at h2
   ·exact h2
   ·exact h2
  ·rw [<-h1]
   grind
def afg {H:aVB}{t:aVN}{k off:aVx}:(∃v,FW P H t (.own k off)=.ok v)\/FW P H t (.own k off)=.no:=by
 generalize hx:FW P H t (.own k off)=x;unfold FW at hx;cases e:H[k]? with
 |none=>
  grind
 | some b=>
  simp only [e] at hx;split at hx
  ·split at hx
   ·grind
   ·grind
  ·split at hx
   ·split at hx
    ·grind
    ·grind
   ·grind
  ·grind
def aer {H H':aVB}(hk:HK H H') {t:aVN}{k off:aVx}{v:LV}(h:FW P H' t (.own k off)=.ok v):FW P H t (.own k off)=.ok v:=by
 unfold FW at h|-;cases e:H'[k]? with
 |none=>
  grind
 | some b=>
  simp only [e] at h;cases ec:b.E4 with
  |false=>
   grind
  |true=>
   obtain ⟨b0,e0,e1,e2⟩:=hk k b e ec;simp only [e0,e1,e2];simp only [ec] at h;exact h
def afw {H:aVB}{t tx:aVN}{x y:LV}:T.Ev (Lu P H t tx x y) (λq=>HK H q.2):=by
 unfold Lu;split
 ·split
  ·split
   ·refine T.fe λq=>?_
    split
    ·exact T.aTW<|T.Us<|(HK.refl H).snoc rfl
    ·split
     ·split
      ·split
       ·exact T.aTW<|T.Us<|(HK.set rfl).snoc rfl
       ·exact T.Kr
      ·exact T.Kr
     ·exact T.Kr
    ·exact T.Kr
   ·exact T.Kr
  ·exact T.Kr
 ·exact T.Kr
def anV {o:aVP}(h:VO P o=U):T.Ev (Ax P G Γ F H o) (λq=>HK H q.2):=by
 unfold VO at h;split at h
 ·rename_i args tys ho
  unfold Ax;simp only [ho];split
  ·exact afw
  ·exact T.Kr
 ·rename_i t len parts ho
  unfold Ax;simp only [ho];split
  ·split
   ·unfold XF
    split
    ·exact T.Us<|(HK.refl H).snoc rfl
    ·exact T.Kr
   ·exact T.Kr
  ·rename_i hl
   have ht:dZ P t=true:=A8
   rw [AD ht];split
   ·unfold bg
    split
    ·refine T.fe λy=>?_
     split
     ·exact T.Us<|(HK.pub _).snoc rfl
     ·exact T.Kr
    ·exact T.Kr
   ·split
    ·exact T.fe λy=>T.Us<|HK.refl H
    ·unfold o7
     split
     ·exact T.fe λy=>T.Us<|HK.pub _
     ·exact T.Kr
 ·cases h
def avH {ops:aVE}{o:aVP}{d:aV9}{y:LV}(hh:VO P o=U) (h:∀t,d=ah t->t∉o.looksAt ops):Ax P G Γ (Aw F d y) H o=Ax P G Γ F H o/\∀tr n0,CP G (Aw F d y) tr n0 o=CP G F tr n0 o:=by
 have hl:=looks h
 unfold VO at hh;split at hh
 ·rename_i args tys ho
  have e:args.toList.map (AM G<|Aw F d y)=args.toList.map (AM G F):=Jl λx hx=>Fo<|hl x aQ
  refine ⟨?_,λtr n0=>?_⟩
  ·unfold Ax
   exact TA
  ·unfold CP Er
   exact TA
 ·rename_i t len parts ho
  have e:(parts.toList.map λq=>(q.1,AM G (Aw F d y) q.2))=parts.toList.map λq=>(q.1,AM G F q.2):=Jl λq hq=>by
   rw [Fo<|hl q.2 aNp]
  refine ⟨?_,λtr n0=>?_⟩
  ·unfold Ax
   exact TA
  ·unfold CP Er
   grind
 ·cases hh
def aoT {ops:aVE}{tr:aVC}{n0:aVx}{i j:aVx}{is:aVC}{K:List LV×List AB->Prop}(hc:jJ P ops i j=U) (h:(HB P G Γ ops tr n0 (j::i::is) F H).all K):(HB P G Γ ops tr n0 (i::j::is) F H).all K:=by
 unfold jJ at hc;split at hc
 ·rename_i x y hx hy
  simp only [AX] at hc;obtain ⟨⟨⟨g1,g2⟩,gx,gy⟩,hap⟩:=hc;obtain ⟨a1,a2,a3⟩:=Zl hap
  have step:∀(k:aVx) (o:aVP) (l:aVC) (F:aVy) (H:aVB),ops[k]? =ah o->o.guard.isNone=U->((HB P G Γ ops tr n0 (k::l) F H).all K↔(CP G F tr n0 o=U/\(spz P G Γ F H o).all (λq=>(HB P G Γ ops tr n0 l (Aw F o.dst q.1) q.2).all K))):=λk o l F H hk hg=>by
   simp only [HB,hk,hg,EU];split
   ·rename_i hs
    rw [T.all_bind]
    grind
   ·rename_i hs
    constructor
    ·exact λh=>h.elim
    ·grind
  have sy:∀F H,spz P G Γ F H y=Ax P G Γ F H y:=λF H=>by
   unfold spz;rw [AD];unfold aAy;unfold VO at gy;split at gy
   ·rename_i ho;rw [ho]
   ·grind
   ·cases gy
  have gx':(JQ x ||K8 x)=true:=A8
  obtain ⟨t,ad,ho⟩:∃t ad,x.op=.load t ad:=by
   unfold K8 at gx;split at gx
   ·grind
   ·cases gx
  have hl:=looks a3
  have sx:∀F H,spz P G Γ F H x=match AM G F ad with
   | .own k off=>(FW P H t<|.own k off).bind λy=> .ok (y,H)
   |_=> .no:=λF H=>by
   unfold spz aAy Ax;simp only [ho];split
   ·rename_i k off e
    rw [AD rfl,e]
   ·rename_i hne
    rw [AE Aa];split
    ·grind
    ·rfl
  have ea:∀v,AM G (Aw F y.dst v) ad=AM G F ad:=λv=>Fo<|hl ad FQ
  rw [step _ _ _ _ _ hy g2,sy] at h;obtain ⟨h1,h2⟩:=h
  have h3:=anV gy _ h2
  rw [step _ _ _ _ _ hx g1,sx];refine ⟨cj gx' F,?_⟩
  have h4:(Ax P G Γ F H y).all (λq=>∃k off v,AM G F ad=.own k off/\FW P H t (.own k off)=.ok v/\(HB P G Γ ops tr n0 is (Aw (Aw F y.dst q.1) x.dst v) q.2).all K):=T.Bb (λq hq=>by
   obtain ⟨q1,q2⟩:=hq;rw [step _ _ _ _ _ hx g1,sx,ea] at q1
   have q3:=q1.2
   split at q3
   ·rename_i k off e
    rcases afg (P:=P) (H:=q.2) (t:=t) (k:=k) (off:=off) with ⟨v,hv⟩ |hv
    ·rw [hv] at q3
     exact ⟨k,off,v,e,aer q2 hv,q3⟩
    ·rw [hv] at q3;exact q3.elim
   ·exact q3.elim) h3
  obtain ⟨k,off,v,e,hv⟩:=T.TM<|T.Bb (λq hq=>(⟨hq.choose,hq.choose_spec.choose,hq.choose_spec.choose_spec.choose,hq.choose_spec.choose_spec.choose_spec.1,hq.choose_spec.choose_spec.choose_spec.2.1⟩:∃k off v,AM G F ad=.own k off/\FW P H t (.own k off)=.ok v)) h4
  rw [e];simp only [hv,T.bind,T.all];obtain ⟨e1,e2⟩:=avH (P:=P) (G:=G) (Γ:=Γ) (F:=F) (H:=H) (y:=v) gy a1;rw [step _ _ _ _ _ hy g2,sy,e1,e2];refine ⟨h1,T.Bb (λq hq=>?_) h4⟩
  obtain ⟨k',off',v',e',hv',hp⟩:=hq;rw [e] at e';cases e';rw [hv] at hv';cases hv';rw [Lo a2];exact hp
 ·cases hc
def aoU {ops:aVE}{tr:aVC}{n0:aVx}{j:aVx}{R R':aVC}{K:List LV×List AB->Prop}(hh:∀(F:aVy) (H:aVB),(HB P G Γ ops tr n0 R F H).all K->(HB P G Γ ops tr n0 R' F H).all K) (h:(HB P G Γ ops tr n0 (j::R) F H).all K):(HB P G Γ ops tr n0 (j::R') F H).all K:=by
 simp only [HB] at h|-;exact yC
def aEz {ops:aVE}{tr:aVC}{n0:aVx}{i:aVx}{K:List LV×List AB->Prop}:∀(R:aVC) (F:aVy) (H:aVB),i∈R->(G1 i R).all (λj=>jJ P ops i j)=U->(HB P G Γ ops tr n0 R F H).all K->(HB P G Γ ops tr n0 (i::R.erase i) F H).all K
 | [],_,_,hi,_,_=>nZ
 | j::R,F,H,hi,hb,h=>by
  by_cases hj:j=i
  ·subst hj
   grind
  ·have hi':i∈R:=by
    exact yR
   simp only [G1,AE hj,It,AX] at hb;rw [VZ A8];exact aoT hb.1<|aoU (λF H h=>aEz R F H hi' hb.2 h) h
def adO (hΓ:∀g S,Γ g=ah S->Valid P G g S) {ops:aVE}{tr:aVC}{D:aVJ->Prop}{sp:aVx->aVH}{Q:aVX->Gh->Prop}{F':aVy}{H':aVB}
  (hQ:∀g:Gh,g.F=F'->g.H=H'->Q g.a g):∀(n:aVx) (R:aVC) (listed:aVR) (g:Gh),(∀i∈R,sp i=U)->bc P ops n R listed=U->
   (HB P G Γ ops tr (M H) R g.F g.H).all (λq=>q=(F',H'))->Ke P .any ops D (Cn ds G w0 Z0 tr β H wr) sp Q n listed g.a g
 |0,R,listed,g,_,hB,h=>by
  simp only [bc,AX,Zr] at hB;obtain ⟨rfl,h2⟩:=hB;simp only [HB,T.all,Az] at h;exact ⟨h2,hQ g h.1 h.2⟩
 | n +1,R,listed,g,hs,hB,h=>by
  simp only [bc,AX,BH,DB,m9] at hB;obtain ⟨hne,hall⟩:=hB;refine ⟨λh0=>absurd h0 hne,λi hi=>?_⟩
  obtain ⟨⟨hR,hbef⟩,hrest⟩:=hall i hi
  have hiR:i∈R:=A8
  have hf:=aEz R g.F g.H hiR A8 h
  simp only [HB] at hf;split at hf
  ·rename_i o ho
   split at hf
   ·rename_i hgs
    simp only [AX,Zs] at hgs;obtain ⟨hgd,hst⟩:=hgs
    have hw:az o (yielded ops g.a.tmps)=true:=yq
    unfold E8;simp only [ho,hw,Bp,hs i hiR];obtain ⟨⟨lv,H1⟩,h1,h2⟩:=T.B5 hf
    have h1':(Ax P G Γ g.F g.H o).all (λq=>q=(lv,H1)):=by
     unfold spz at h1;split at h1
     ·exact h1
     ·cases h1
    intro w' hc;refine KP (λv w'' ⟨g',e1,e2,e3,e4⟩=>⟨g',e1,?_⟩)<|dF hΓ hst h1' hc
    rw [<-e4];refine adO hΓ hQ n (R.erase i) _ g' (λj hj=>hs j<|QH hj) hrest ?_
    rwa [e2,e3]
   ·cases hf
  ·cases hf
def cb {T':Type}{md:aWv}{D:aVJ->Prop}{sp:aVx->aVH}{C:T'->aVJ->Prop}{Q':aVX->aVJ->Prop}{ops:aVE}{g g1:T'}(hs:∀w',C g w'->C g1 w'):∀(n:aVx) (listed:aVR) (a:aVX),
  Ke P md ops D C sp (λa' g'=>∀w',C g' w'->Q' a' w') n listed a g1->Ke P md ops D C sp (λa' g'=>∀w',C g' w'->Q' a' w') n listed a g
 |0,_,_,h=>⟨h.1,λw' hw'=>h.2 w'<|hs w' hw'⟩
 | n +1,listed,a,h=>⟨λh0 w' hw'=>h.1 h0 w'<|hs w' hw',λi hi=>by
   have:=h.2 i hi
   unfold E8 at this|-;split
   ·rename_i ho;simp only [ho] at this;exact cb hs n _ _ this
   ·rename_i o ho
    simp only [ho] at this;split
    ·rename_i hw
     simp only [hw,Bp] at this;split
     ·rename_i hsp
      simp only [hsp,Bp] at this;exact λw hw=>this w<|hs w hw
     ·rename_i hsp
      simp only [hsp] at this;exact pY (λa' hk=>cb hs n _ a' hk) this
    ·rename_i hw
     simp only [hw] at this;exact cb hs n _ _ this⟩
mutual
def R.Kx {β':aVx->aWe}{n:aVx}:∀(x:LV) (y:aVQ),(∀j,j∈owns x->β' j=β j)->okV n x->R β Z w x y->R β' Z w x y
 | .v _,_,_,_,h=>h
 | .bl _,_,_,_,h=>h
 | .ki _ _,_,_,_,h=>h
 | .own k off,y,hj,_,h=>aOE
 | .agg l,y,hj,hk,h=>by
  exact mO
 | .AO l,y,hj,hk,h=>by
  exact mO
 | .fn f l,y,hj,hk,h=>by
  exact mO
 | .fb f l,y,hj,hk,h=>by
  exact mO
 | .xq m f,y,_,hk,h=>by
  simp only [R,okV] at*;obtain ⟨b,off,h1,h2,h3⟩:=h;refine ⟨b,off,h1,h2,λj hj=>?_⟩
  obtain ⟨z,h4,h5⟩:=h3 j hj;exact ⟨z,h4,R.mono (n:=0) (λ_ hk=>absurd hk A0) (λ_ h=>h) (λ_ _=>rfl) _ _ (hk j) h5⟩
 | .xl e l,y,_,_,h=>by simp only [R] at*;exact h
 | .os k es off n,y,hj,_,h=>mq
 | .op k es i j,y,hj,_,h=>mq
 | .om k,y,hj,_,h=>mq
 | .mp kd ks l,y,hj,hk,h=>by
  simp only [R,owns,okV] at*;obtain ⟨r,es,clock,h1,h2,h3,h4,h5⟩:=h;exact ⟨r,es,clock,h1,h2,h3,h4,RL.Kx l _ hj hk h5⟩
 | .oc k es off n c,y,hj,_,h=>mq
 | .CS k,y,hj,_,h=>aOE
 | .junk,_,_,_,_=>Jm
def RL.Kx {β':aVx->aWe}{n:aVx}:∀(l:aVy) (ys:aVO),(∀j,j∈ownsL l->β' j=β j)->AT n l->RL β Z w l ys->RL β' Z w l ys
 | [],_,_,_,h=>aP6
 |x::xs,ys,hj,hk,h=>by
  simp only [RL,ownsL,BZ,AT] at*;obtain ⟨y,zs,h1,h2,h3⟩:=h;exact ⟨y,zs,h1,R.Kx x y (λj h=>hj j (.inl h)) hk.1 h2,RL.Kx xs zs (λj h=>hj j (.inr h)) hk.2 h3⟩
end
mutual
def okV_owns {n:aVx}:∀(x:LV),okV n x->∀j,j∈owns x->j<n
 | .v _,_,j,h=>Vo
 | .bl _,_,j,h=>Vo
 | .ki _ _,_,j,h=>Vo
 | .own k _,hk,j,h=>Vj
 | .agg l,hk,j,h=>aV
 | .AO l,hk,j,h=>aV
 | .fn _ l,hk,j,h=>aV
 | .fb _ l,hk,j,h=>aV
 | .xq _ _,_,j,h=>Vo
 | .xl _ _,_,j,h=>Vo
 | .os k _ _ _,hk,j,h=>Vj
 | .op k _ _ _,hk,j,h=>Vj
 | .om k,hk,j,h=>Vj
 | .mp _ _ l,hk,j,h=>aV
 | .oc k _ _ _ _,hk,j,h=>Vj
 | .CS k,hk,j,h=>Vj
 | .junk,_,j,h=>Vo
def okL_owns {n:aVx}:∀(l:aVy),AT n l->∀j,j∈ownsL l->j<n
 | [],_,j,h=>by simp [ownsL] at h
 |x::xs,hk,j,h=>by
  simp only [ownsL,BZ,AT] at*;rcases h with h|h
  ·exact okV_owns x hk.1 j h
  ·exact okL_owns xs hk.2 j h
end
mutual
def okV_lower {n m:aVx}:∀(x:LV),okV n x->(∀j,j∈owns x->j<m)->okV m x
 | .v _,_,_=>trivial
 | .bl _,_,_=>trivial
 | .ki _ _,_,_=>trivial
 | .own k _,_,h=>h k Iy
 | .agg l,hk,h=>aW
 | .AO l,hk,h=>aW
 | .fn _ l,hk,h=>aW
 | .fb _ l,hk,h=>aW
 | .xq _ _,hk,_=>aPR
 | .xl _ _,_,_=>trivial
 | .os k _ _ _,_,h=>h k Iy
 | .op k _ _ _,_,h=>h k Iy
 | .om k,_,h=>h k Iy
 | .mp _ _ l,hk,h=>aW
 | .oc k _ _ _ _,_,h=>h k Iy
 | .CS k,_,h=>h k Iy
 | .junk,_,_=>trivial
def okL_lower {n m:aVx}:∀(l:aVy),AT n l->(∀j,j∈ownsL l->j<m)->AT m l
 | [],_,_=>trivial
 |x::xs,hk,h=>by
  simp only [ownsL,BZ,AT] at*;exact ⟨okV_lower x hk.1 (λj hj=>h j (.inl hj)),okL_lower xs hk.2 (λj hj=>h j (.inr hj))⟩
end
def aFu {n:aVx}{b:AB}(h:okB n b):∀j,j∈b.owns->j<n:=λj hj=>by
 rcases BZ.1 hj with hj|hj
 ·exact okL_owns _ h.1 j hj
 ·have h2:=h.2
  split at hj
  ·rename_i hk;rw [hk] at h2;exact okL_owns _ h2 j hj
  ·cases hj
def Bc.Kx {β':aVx->aWe}{n k k':aVx}{b:AB}(hk:β' k'=β k) (hj:∀j,j∈b.owns->β' j=β j) (hok:okB n b) (h:Bc β Z w k b):Bc β' Z w k' b:=by
 have hc:∀j,j∈ownsL b.c->β' j=β j:=λj h=>hj j<|BZ.2<|.inl h
 unfold Bc at*;rw [hk];cases hbk:b.k with
 |cl=>
  simp only [hbk] at h|-;obtain ⟨cs,h1,h2⟩:=h;exact ⟨cs,h1,RL.Kx _ _ hc hok.1 h2⟩
 |vec e l=>simp only [hbk] at h|-;exact h
 |mp kd ks vs=>
  simp only [hbk] at h|-;obtain ⟨es,clock,h1,h2,h3⟩:=h
  have ho:=hok.2
  rw [hbk] at ho;exact ⟨es,clock,h1,h2,RL.Kx _ _ (λj h=>hj j (by unfold AB.owns;rw [hbk];exact BZ.2<|.inr h)) ho h3⟩
 |Cr ps asg body st=>
  simp only [hbk] at h|-;obtain ⟨r,h1,h2,h3,h4,h5,h6⟩:=h;exact ⟨r,h1,h2,h3,h4,h5,RL.Kx _ _ hc hok.1 h6⟩
 |st e l=>simp only [hbk] at h|-;exact h
 |dead=>trivial
def L0 (β:aVx->aWe) (k m:aVx):aVx->aWe:=λj=>if j=k then β m else β j
def Qq {k m:aVx}:L0 β k m k=β m:=by simp [L0]
def JA {k m j:aVx}(h:j≠k):L0 β k m j=β j:=by simp [L0,h]
def RW.move {k:aVx}{nb db:AB}(hW:RW G w0 Z0 Z β (H++[nb]) w) (hk:H[k]? =ah db) (hp:nb.p=X)
  (hB:∀(j:aVx) (b:AB),H[j]? =ah b->okB (M H) b/\k∉b.owns) (hn:okB (M H) nb/\k∉nb.owns) (hg:∀p,p∈Z0.gh->okV (M H) p.1/\k∉owns p.1):
  RW G w0 Z0 Z (L0 β k<|M H) (H.set k nb) w:=by
 have hkl:k<M H:=(EC.1 hk).1
 have at_:∀(j:aVx) (b:AB),(H.set k nb)[j]? =ah b->(j=k/\b=nb)\/(j≠k/\H[j]? =ah b):=λj b h=>by
  rw [IS] at h;split at h
  ·rename_i e
   grind
  ·grind
 have last:(H++[nb])[M H]? =ah nb:=AI
 have old:∀(j:aVx) (b:AB),H[j]? =ah b->(H++[nb])[j]? =ah b:=λj b h=>A8
 have lt:∀(j:aVx) (b:AB),H[j]? =ah b->j<M H:=λj b h=>(EC.1 h).1
 have lk:live (L0 β k<|M H) k nb=live β (M H) nb:=by unfold live;rw [Qq]
 have lj:∀j b,j≠k->live (L0 β k<|M H) j b=live β j b:=λj b h=>KW<|JA h
 refine ⟨hW.below,hW.Bf,hW.Eo,λj b hj hl hq=>?_,λj b hj hl hq=>?_,λj b hj hl=>?_,λi j bi bj hi hj li lj' pi e=>?_,λj b hj=>?_,hW.Cl,λp hp=>?_,hW.Cv⟩
 ·rcases at_ j b hj with ⟨rfl,rfl⟩ |⟨h1,h2⟩
  ·rw [Qq];rw [lk] at hl;exact hW.Ct _ _ last hl hq
  ·rw [JA h1];rw [lj j b h1] at hl;exact hW.Ct j b (old j b h2) hl hq
 ·rcases at_ j b hj with ⟨rfl,rfl⟩ |⟨h1,h2⟩
  ·rw [hp] at hq;cases hq
  ·rw [JA h1];rw [lj j b h1] at hl;exact hW.GQ j b (old j b h2) hl hq
 ·rcases at_ j b hj with ⟨rfl,rfl⟩ |⟨h1,h2⟩
  ·rw [Qq];rw [lk] at hl;exact hW.low _ _ last hl
  ·rw [JA h1];rw [lj j b h1] at hl;exact hW.low j b (old j b h2) hl
 ·rcases at_ i bi hi with ⟨rfl,rfl⟩ |⟨h1,h2⟩
  ·rcases at_ j bj hj with ⟨rfl,rfl⟩ |⟨g1,g2⟩
   ·rfl
   ·rw [lk] at li;rw [lj j bj g1] at lj';rw [Qq,JA g1] at e
    have:=hW.inj _ j _ bj last (old j bj g2) li lj' pi e
    have:=lt j bj g2;omega
  ·rcases at_ j bj hj with ⟨rfl,rfl⟩ |⟨g1,g2⟩
   ·rw [lj i bi h1] at li;rw [lk] at lj';rw [JA h1,Qq] at e
    have:=hW.inj i _ bi _ (old i bi h2) last li lj' pi e
    have:=lt i bi h2;omega
   ·rw [lj i bi h1] at li;rw [lj j bj g1] at lj';rw [JA h1,JA g1] at e
    exact hW.inj i j bi bj (old i bi h2) (old j bj g2) li lj' pi e
 ·rw [C4]
  rcases at_ j b hj with ⟨rfl,rfl⟩ |⟨h1,h2⟩
  ·exact ⟨Bc.Kx Qq (λi hi=>JA λe=>hn.2<|e▸hi) hn.1 (hW.blk _ _ last).1,hn.1⟩
  ·obtain ⟨q1,q2⟩:=hB j b h2
   exact ⟨Bc.Kx (JA h1) (λi hi=>JA λe=>q2<|e▸hi) q1 (hW.blk j b<|old j b h2).1,q1⟩
 ·obtain ⟨q1,q2⟩:=hg p hp
  rw [C4];exact ⟨R.Kx _ _ (λj hj=>JA λe=>q2<|e▸hj) q1 (hW.gh p hp).1,q1⟩
def Rc:∀ {l:aVy}{x:LV}{j:aVx},x∈l->j∈owns x->j∈ownsL l
 |y::ys,x,j,hx,hj=>by
  simp only [ownsL,BZ];rcases BB.1 hx with rfl|h
  ·grind
  ·exact .inr<|Rc h hj
def dI:∀ {l:aVy}{j:aVx},j∈ownsL l->∃x,x∈l/\j∈owns x
 |x::xs,j,h=>by
  simp only [ownsL,BZ] at h;rcases h with h|h
  ·grind
  ·obtain ⟨y,h1,h2⟩:=dI h;exact ⟨y,A8,h2⟩
 | [],j,h=>by simp [ownsL] at h
def TF {x:aWc}{j:aVx}(h:j∈owns (AM G F x)):j∈ownsL F:=by
 cases x with
 |tmp t=>
  simp only [AM] at h;cases ht:F[t]? with
  |none=>simp [List.getD,ht,owns] at h
  |some y=>simp [List.getD,ht] at h;exact Rc (Oj ht) h
 |const v=>simp only [AM] at h;split at h<;>simp [owns] at h
 |global g=>simp only [AM] at h;split at h<;>simp [owns] at h
 |func f=>simp [AM,owns,ownsL] at h
def aDi:∀(l:aVO),ownsL (l.map .v)=[]
 | []=>rfl
 |x::xs=>by simp [ownsL,owns,aDi xs]
def pB {x:LV}{cs:aVy}(h:CQ x=ah cs):∀j,j∈ownsL cs->j∈owns x:=λj hj=>by
 unfold CQ at h;split at h
 ·split at h
  ·simp only [Ah] at h;subst h;rw [aDi] at hj;cases hj
  ·cases h
 ·split at h
  ·simp only [Ah] at h;subst h;simpa only [owns] using hj
  ·cases h
 ·cases h
 ·cases h
 ·simp only [Ah] at h;subst h;simpa [ownsL] using hj
def pR {d:aV9}{x:LV}{j:aVx}(h:j∈ownsL (Aw F d x)):j∈ownsL F\/j∈owns x:=by
 cases d with
 |none=>exact .inl h
 |some t=>
  obtain ⟨y,h1,h2⟩:=dI h;rcases Om h1 with e|e
  ·exact .inl<|Rc e h2
  ·grind
def aGz {k:aVx}{o:aVP}{lv:LV}{H1:aVB}(h:(JV P G F H k o).all λq=>q=(lv,H1)):(∃cs t,lv=.own k 0/\H1=H.set k ⟨cs,t,.cl,X⟩/\(Ax P G Γ F H o).all (λq=>q=(.own (M H) 0,H++[⟨cs,t,.cl,X⟩]))/\∀j,j∈ownsL cs->j∈ownsL F)\/
  ∃(m n:aVx) (e:aVN) (ty:Ty) (l:List ty.D),lv=.os k m 0 n/\H1=H.set k ⟨[],e,.vec ty l,X⟩/\(Ax P G Γ F H o).all (λq=>q=(.os (M H) m 0 n,H++[⟨[],e,.vec ty l,X⟩])):=by
 unfold JV at h;split at h
 ·rename_i t ho
  split at h
  ·rename_i z hz
   split at h
   ·rename_i cs hcs
    simp only [T.all,Az] at h;refine .inl ⟨cs,t,h.1.symm,h.2.symm,?_,λj hj=>?_⟩
    ·unfold Ax;simp only [ho,hz,hcs,T.all]
    ·have:=pB hcs j hj;simp [owns] at this
   ·cases h
  ·cases h
 ·rename_i t x ho
  split at h
  ·rename_i cs hcs
   simp only [T.all,Az] at h;refine .inl ⟨cs,t,h.1.symm,h.2.symm,?_,λj hj=>TF<|pB hcs j hj⟩
   unfold Ax;simp only [ho,hcs,T.all]
  ·cases h
 ·rename_i t n c ho
  split at h
  ·rename_i e ty m FK n' c' he hn hc
   split at h
   ·rename_i z hz
    split at h
    ·rename_i d hd
     split at h
     ·rename_i hsz
      simp only [T.all,Az] at h;obtain ⟨h0,h1,h2⟩:=h;refine .inr ⟨m,n'.toNat,e,ty,aq n'.toNat d,h1.symm,h2.symm,?_⟩;unfold Ax;simp only [ho,UD,he,hn,hc,hz,hd,hsz,Bp,T.all]
      grind
     ·cases h
    ·cases h
   ·cases h
  ·cases h
 ·rename_i t len parts ho
  split at h
  ·rename_i hlen
   split at h
   ·rename_i hp
    split at h
    ·rename_i e ty m FK he
     simp only [T.all,Az] at h;refine .inr ⟨m,0,e,ty,[],h.1.symm,h.2.symm,?_⟩;unfold Ax;simp only [ho,hlen,hp,Bp,XF,he,T.all]
    ·cases h
   ·cases h
  ·cases h
 ·cases h
structure Sa (n0:aVx) (done:aVx->Prop) (R:aVC) (g:Gh):Prop where
 f:∀j,j∈ownsL g.F->j<n0\/∃i,done i/\j=n0+i
 h:∀(k:aVx) (b:AB),g.H[k]? =ah b->∀j,j∈b.owns->j<n0\/∃i,done i/\j=n0+i
 dead:∀i,i∈R->¬done i/\∃b,g.H[n0+i]? =ah b
def aIh (hΓ:∀g S,Γ g=ah S->Valid P G g S) {tr:aVC}{g:Gh}{o:aVP}{lv:LV}{H1:aVB}{w':aVJ}{done:aVx->Prop}{R':aVC}{i:aVx}(hgh:∀p,p∈Z0.gh->okV (M H) p.1) (hI:Sa (M H) done R' g) (hi:i∈R')
  (hst:CP G g.F tr (M H) o=U) {nb:AB} {lv0:LV} (hop:(Ax P G Γ g.F g.H o).all λq=>q=(lv0,g.H++[nb])) (hpn:nb.p=X) (hcs:∀j,j∈nb.owns->j∈ownsL g.F) (hlow:∀n m,okB n nb->(∀j,j∈nb.owns->j<m)->okB m nb)
  (hlv:∀β' Z' w'' v,R β' Z' w'' lv0 v->R (L0 β' (M H+i)<|M g.H) Z' w'' lv v) (hlo:∀n,M H+i<n->okV n lv) (hH1:H1=g.H.set (M H+i) nb) (hc:Cn ds G w0 Z0 tr β H wr g w'):
  Dn P (λv w''=>∃g':Gh,Cn ds G w0 Z0 tr β H wr g' w''/\g'.F=Aw g.F o.dst lv/\g'.H=H1/\g'.a=g.a.put o.dst v) ((execOp g.a.eval o).run P w'):=by
 subst hH1;refine KP (λv w'' ⟨Z',β',e1,e2,e3,e4,e5,e6,e7,e8⟩=>?_)<|cy hΓ hc.rw hc.rf hop
 obtain ⟨hnd,db,hdb⟩:=hI.dead i hi
 have fresh:∀j,(j<M H\/∃i',done i'/\j=M H+i')->j≠M H+i:=λj hj e=>by
  rcases hj with hj|⟨i',hd,e'⟩
  ·omega
  ·have:i'=i:=A0
   grind
 have hsz:=hc.near.size
 have hcl:∀j,j∈nb.owns->j<M g.H:=λj hj=>by
  obtain ⟨x,q1,q2⟩:=dI<|hcs j hj;obtain ⟨t',q3⟩:=List.getElem?_of_mem q1;exact okV_owns x (hc.rf.get t' x q3).2 j q2
 have okcs:okB (M g.H) nb:=hlow _ _ (e1.blk (M g.H) nb AI).2 hcl
 have hMv:=e1.move (k:=M H+i) hdb hpn (λj b hj=>⟨(hc.rw.blk j b hj).2,λhm=>fresh _ (hI.h j b hj _ hm) rfl⟩) ⟨okcs,λhm=>fresh _ (hI.f _<|hcs _ hm) rfl⟩ λp hp=>⟨okV.mono hc.len _<|hgh p hp,λhm=>by have:=okV_owns _ (hgh p hp) _ hm;omega⟩
 have hF2:RF ds (L0 β' (M H+i)<|M g.H) Z' w'' (M<|g.H.set (M H+i) nb) g.F g.a:=by
  rw [C4];refine ⟨hc.rf.size,λt' x hx=>?_,e2.defers⟩
  have q:=hc.rf.get t' x hx
  exact ⟨R.Kx x _ (λj hj=>JA<|fresh j<|hI.f j<|Rc (Oj hx) hj) q.2 (e2.get t' x hx).1,q.2⟩
 refine ⟨⟨Z',L0 β' (M H+i)<|M g.H,g.H.set (M H+i) nb,Aw g.F o.dst lv,g.a.put o.dst v⟩,?_,rfl,rfl,rfl⟩;refine ⟨hMv,hF2.put (hlv _ _ _ _ e3) (hlo _ A8) o.dst,⟨e8.os.trans hc.near.os,e8.tape.trans hc.near.tape,e8.output.trans hc.near.output,Hr hsz e8.size,λk hk hn=>?_⟩,A8,λk hk=>?_,λk h3 h4=>?_,λk b hb=>?_⟩
 ·exact aN1
 ·show L0 β' (M H+i) (M g.H) k=β k
  rw [JA A0,e6 k<|Zo hk hc.len];exact hc.old k hk
 ·show wr.heap.size<=(L0 β' (M H+i) (M g.H) k).b\/(L0 β' (M H+i) (M g.H) k).b∈Dd β H tr
  simp only [C4] at h4
  by_cases hkk:k=M H+i
  ·subst hkk
   rw [Qq];rcases e7 (M g.H) (Aq _) AI with h|h
   ·exact .inl A0
   ·exact hc.touch hst h
  ·rw [JA hkk,e6 k h4];exact hc.new k h3 h4
 ·have hkl:k<M H:=(EC.1 hb).1
  obtain ⟨b',q1,q2⟩:=hc.KA k b hb
  grind
def ai3 (hΓ:∀g S,Γ g=ah S->Valid P G g S) {tr:aVC}{g:Gh}{o:aVP}{lv:LV}{H1:aVB}{w':aVJ}{done:aVx->Prop}{R':aVC}{i:aVx}(hgh:∀p,p∈Z0.gh->okV (M H) p.1) (hI:Sa (M H) done R' g) (hi:i∈R')
  (hst:CP G g.F tr (M H) o=U) (h1:(JV P G g.F g.H (M H+i) o).all λq=>q=(lv,H1)) (hc:Cn ds G w0 Z0 tr β H wr g w'):
  Dn P (λv w''=>∃g':Gh,Cn ds G w0 Z0 tr β H wr g' w''/\g'.F=Aw g.F o.dst lv/\g'.H=H1/\g'.a=g.a.put o.dst v) ((execOp g.a.eval o).run P w'):=by
 rcases aGz (Γ:=Γ) h1 with ⟨cs,t,rfl,hH1,hop,hcs⟩ |⟨m,n,e,ty,l,rfl,hH1,hop⟩
 ·refine aIh hΓ hgh hI hi hst hop rfl (λj hj=>?_) (λn m h1 h2=>⟨okL_lower cs h1.1 λj hj=>h2 j ?_,ak⟩) (λβ' Z' w'' v hr=>aOm) (λn hn=>hn) hH1 hc
  ·unfold AB.owns at hj
   grind
  ·unfold AB.owns
   simp only [Gg];exact hj
 ·refine aIh hΓ hgh hI hi hst hop rfl (λj hj=>?_) (λn m h1 h2=>⟨ak,ak⟩) (λβ' Z' w'' v hr=>aOm) (λn hn=>hn) hH1 hc
  unfold AB.owns at hj
  simp [ownsL] at hj
def afC {ops:aVE}{o:aVP}{d:aV9}{y:LV}{k:aVx}(ha:En o=U) (h:∀t,d=ah t->t∉o.looksAt ops):JV P G (Aw F d y) H k o=JV P G F H k o:=by
 have hl:=looks h
 unfold En at ha;split at ha
 ·rename_i t ho
  unfold JV
  grind
 ·rename_i t x ho
  unfold JV;simp only [ho];exact mP
 ·rename_i t n c ho
  unfold JV;simp only [ho];rw [Fo<|hl n FQ,Fo<|hl c FQ]
 ·rename_i t len parts ho
  unfold JV
  grind
 ·cases ha
def apU {o:aVP}{k:aVx}(ha:En o=U):∃(p:Prop) (lv:LV) (nb:AB),∀(H:aVB) (K:LV×List AB->Prop),(JV P G F H k o).all K↔(p/\K (lv,H.set k nb)):=by
 unfold En at ha;split at ha
 ·rename_i t ho
  unfold JV;simp only [ho];split
  ·exact aMX
  ·exact T8
 ·rename_i t x ho
  unfold JV;simp only [ho];exact aMX
 ·rename_i t n c ho
  unfold JV;simp only [ho];split
  ·split
   ·split
    ·split
     ·exact ⟨_,_,_,λH K=>Mc⟩
     ·exact T8
    ·exact T8
   ·exact T8
  ·exact T8
 ·rename_i t len parts ho
  unfold JV;simp only [ho];split
  ·split
   ·split
    ·rename_i e ty m FK _
     exact ⟨True,.os k m 0 0,⟨[],e,.vec ty [],X⟩,λH K=>aOz⟩
    ·exact T8
   ·grind
  ·grind
 ·cases ha
def um {o:aVP}(hm:JR o=U):En o=X/\QA o=U/\∀G tr n0 (F:aVy),CP G F tr n0 o=true:=by
 unfold JR at hm;split at hm
 ·rename_i x ho
  simp [En,QA,CP,Er,ho]
 ·rename_i x ho
  simp [En,QA,CP,Er,ho]
 ·rename_i t parts ho
  simp [En,QA,CP,Er,ho]
 ·cases hm
def q9 {ops:aVE}{o:aVP}{d:aV9}{y:LV}{n0 i:aVx}(ha:(En o ||JR o)=U) (h:∀t,d=ah t->t∉o.looksAt ops):ID P G Γ ops n0 i (Aw F d y) H o=ID P G Γ ops n0 i F H o:=by
 rcases Sy.1 ha with ha|ha
 ·unfold ID
  rw [AD ha,AD ha,afC ha h]
 ·obtain ⟨h1,h2,_⟩:=um ha
  have hl:=looks h
  unfold ID;rw [h1,h2];unfold JR at ha;split at ha
  ·exact aNX
  ·exact aNX
  ·rename_i t parts ho
   have e:(parts.toList.map λq=>(q.1,I1 G (Aw F d y) q.2))=parts.toList.map λq=>(q.1,I1 G F q.2):=Jl λq hq=>by
    exact aN0
   unfold Ax;simp only [ho,e];rfl
  ·cases ha
def putAt (k:aVx) (nb:aWr) (H:aVB):aVB:=
 match nb with
 |some b=>H.set k b
 |none=>H
def aee {i j:aVx}{a b:aWr}{H:aVB}(h:i≠j):putAt i a (putAt j b H)=putAt j b (putAt i a H):=by
 cases a<;>cases b<;>simp only [putAt]
 exact List.set_comm _ _<|Ou h
def eM {ops:aVE}{o:aVP}{n0 i:aVx}(ha:(En o ||JR o)=U):∃(p:Prop) (lv:LV) (nb:aWr),∀(H:aVB) (K:LV×List AB->Prop),(ID P G Γ ops n0 i F H o).all K↔(p/\K (lv,putAt (n0+i) nb H)):=by
 rcases Sy.1 ha with ha|ha
 ·obtain ⟨p,lv,nb,h⟩:=apU (P:=P) (G:=G) (F:=F) (k:=n0+i) ha
  refine ⟨p,lv,ah nb,λH K=>?_⟩
  unfold ID;rw [AD ha];exact h H K
 ·obtain ⟨h1,h2,_⟩:=um ha
  unfold JR at ha;split at ha
  ·exact aMk
  ·exact aMk
  ·rename_i t parts ho
   have key:∀l:aV2,(∃y,Nz P t l=.ok y)\/Nz P t l=.no:=λl=>by
    unfold Nz;split
    ·split
     ·grind
     ·exact .inr rfl
    ·grind
   rcases key (parts.toList.map λq=>(q.1,I1 G F q.2)) with ⟨y,hy⟩ |hy
   ·refine ⟨True,y,aj,λH K=>?_⟩
    unfold ID Ax;rw [h1,h2]
    simp [ho,hy,T.bind,T.all,putAt]
   ·refine ⟨False,.junk,aj,λH K=>?_⟩
    unfold ID Ax;rw [h1,h2]
    simp [ho,hy,T.bind,T.all]
  ·cases ha
def fF {o:aVP}{tr:aVC}{n0:aVx}(ha:(En o ||JR o)=U) (F:aVy):CP G F tr n0 o=true:=by
 rcases Sy.1 ha with ha|ha
 ·exact aDq<|.inl ha
 ·exact (um ha).2.2 G tr n0 F
def ahm {o:aVP}(h:MC o=U):En o=X/\QA o=false:=by
 unfold MC at h;split at h
 ·rename_i args tys ho
  simp [En,QA,ho]
 ·cases h
def aKS {ops:aVE}{o:aVP}{d:aV9}{y:LV}(hh:MC o=U) (h:∀t,d=ah t->t∉o.looksAt ops):
  Ax P G Γ (Aw F d y) H o=Ax P G Γ F H o/\(∀tr n0,CP G (Aw F d y) tr n0 o=CP G F tr n0 o)/\∀n0 H,L6 G ops n0 (Aw F d y) H o=L6 G ops n0 F H o:=by
 have hl:=looks h
 unfold MC at hh;split at hh
 ·rename_i args tys ho
  have e:args.toList.map (AM G<|Aw F d y)=args.toList.map (AM G F):=Jl λx hx=>Fo<|hl x aQ
  refine ⟨?_,λtr n0=>?_,λn0 H=>?_⟩
  ·unfold Ax
   exact TA
  ·unfold CP Er
   exact TA
  ·unfold L6
   exact TA
 ·cases hh
def adK {t tx:aVN} {k es off n:aVx} {e0:Ty} {q0:List e0.D}:∃f:aWr->Option (Prop×Nat×Nat×TypeId×AB),(∀b p m n' e nb,f b=ah (p,m,n',e,nb)->nb.owns=[])/\(f aj=aj)/\
  ∀(H:aVB) (K:LV×List AB->Prop),(Lu P H t tx (.os k es off n)<|.xl e0 q0).all K↔match f H[k]? with
   |some (p,m,n',e,nb)=>p/\K (.os (M H) m 0 n',H.set k ⟨[],e,.dead,X⟩++[nb])
   |none=>False:=by
 have bad:∀ {g:aVB->T (LV×List AB)},(∀H,g H=.no)->∃f:aWr->Option (Prop×Nat×Nat×TypeId×AB),(∀b p m n' e nb,f b=ah (p,m,n',e,nb)->nb.owns=[])/\(f aj=aj)/\
   ∀(H:aVB) (K:LV×List AB->Prop),(g H).all K↔match f H[k]? with
    |some (p,m,n',e,nb)=>p/\K (.os (M H) m 0 n',H.set k ⟨[],e,.dead,X⟩++[nb])
    |none=>False:=λhg=>⟨λ_=>aj,(λ_ _ _ _ _ _ h=>Ar),rfl,λH K=>by rw [hg];simp [T.all]⟩
 unfold Lu;cases he:Pc P t with
 |none=>exact bad λH=>rfl
 | some q=>
  obtain ⟨e,ty,m,FK⟩:=q;simp only;split
  ·rename_i z _ _
   by_cases hz:z.cells.size=m
   ·simp only [AD hz]
    have hs:∀H:aVB,FV H ty (.xl e0 q0)=(match NL ty (.xl e0 q0) with|some l=> .ok l|none=> .no):=λH=>rfl
    cases hd:NL ty (.xl e0 q0) with
    |none=>exact bad λH=>by rw [hs,hd];rfl
    | some q=>
     refine ⟨λob=>match ob with
      |some ⟨_,bt,.vec e' l,X⟩=>match K0 e' ty with
       |some ⟨h⟩=>if es=m/\bt=e then ah (off+n=M l/\((n+M q:aVx):Y)*FK<=2^47/\((n+M q:aVx):Y)<2^62,m,n+M q,e,⟨[],e,.vec ty<|Ks h (l.drop off)++q,X⟩) else aj
       |none=>aj
      |_=>aj,λb p m' n' e' nb hf=>?_,rfl,λH K=>?_⟩
     ·simp only at hf
      split at hf
      ·split at hf
       ·split at hf
        ·simp only [Ah,Az] at hf
         rw [<-hf.2.2.2.2];rfl
        ·cases hf
       ·cases hf
      ·cases hf
     ·rw [hs,hd]
      simp only [T.bind];split
      ·rename_i hb
       simp only [hb];split
       ·rename_i ht
        simp only [ht];split
        ·simp only [T.all]
        ·simp [T.all]
       ·rename_i ht
        simp only [ht]
        simp [T.all]
      ·rename_i hb
       split
       ·rename_i hf
        exfalso;split at hf
        ·rename_i h1
         grind
        ·cases hf
       ·simp [T.all]
   ·simp_all
  ·simp_all
def aEF {ops:aVE} {n0:aVx} {o:aVP} (h:L6 G ops n0 F H o=U):∃d k es off n,∃e0:Ty,∃q0:List e0.D,∃t tx,apD ops o=ah d/\n0+ops.size<=M H/\k=n0+d/\(∀tr,CP G F tr n0 o=U)/\((∀H':aVB,Ax P G Γ F H' o=Lu P H' t tx (.os k es off n) (.xl e0 q0))\/∀H':aVB,Ax P G Γ F H' o=.no):=by
 unfold L6 at h;split at h
 ·rename_i args tys ho
  split at h
  ·rename_i d hd
   simp only [AX,Ab] at h;obtain ⟨h1,h2⟩:=h;cases hm:args.toList.map (AM G F) with
   |nil=>rw [hm] at h2;simp [apK] at h2
   | cons a l=>
    cases l with
    |nil=>rw [hm] at h2;cases a<;>simp [apK] at h2
    | cons b l=>
     cases l with
     |cons c l=>rw [hm] at h2;cases a<;>cases b<;>simp [apK] at h2
     | nil=>
      rw [hm] at h2;cases a with
      | os k es off n=>
       cases b with
       | xl e0 q0=>
        simp only [apK,Cz] at h2
        have hok:∀tr,CP G F tr n0 o=true:=λtr=>by
         unfold CP Er;simp only [ho,hm,owns,It,List.all_nil,mC,Cf,Ab];omega
        cases ht:tys.toList with
        |nil=>exact ⟨d,k,es,off,n,e0,q0,0,0,hd,h1,h2,hok,.inr λH'=>nL⟩
        | cons t1 l=>cases l with
         |nil=>exact ⟨d,k,es,off,n,e0,q0,0,0,hd,h1,h2,hok,.inr λH'=>nL⟩
         |cons t2 l=>cases l with
          |nil=>exact ⟨d,k,es,off,n,e0,q0,t1,t2,hd,h1,h2,hok,.inl λH'=>nL⟩
          |cons _ _=>exact ⟨d,k,es,off,n,e0,q0,0,0,hd,h1,h2,hok,.inr λH'=>nL⟩
       |_=>simp [apK] at h2
      |_=>simp [apK] at h2
  ·cases h
 ·cases h
def adw {k:aVx}{nb:aWr}{H:aVB}:M (putAt k nb H)=M H:=by cases nb<;>simp [putAt]
def aU9 {ops:aVE}{n0 j:aVx}{nb:aWr}{o:aVP}(h:L6 G ops n0 F H o=U) (hj:apD ops o≠ah j) (hlt:j<ops.size) (K:LV×List AB->Prop):
  (Ax P G Γ F (putAt (n0+j) nb H) o).all K↔(Ax P G Γ F H o).all (λq=>K (q.1,putAt (n0+j) nb q.2)):=by
 obtain ⟨d,k,es,off,n,e0,q0,t,tx,hd,hl,hk,_,ho⟩:=aEF (P:=P) (Γ:=Γ) h
 have hkj:k≠n0+j:=by
  rintro e
  grind
 cases nb with
 |none=>exact Iff.rfl
 | some b=>
  have e1:(H.set (n0+j) b)[k]? =H[k]? :=Zm<|Ou hkj
  obtain ⟨f,_,_,hf⟩:=adK (P:=P) (t:=t) (tx:=tx) (k:=k) (es:=es) (off:=off) (n:=n) (e0:=e0) (q0:=q0)
  have key:(Lu P (putAt (n0+j) (ah b) H) t tx (.os k es off n)<|.xl e0 q0).all K↔(Lu P H t tx (.os k es off n)<|.xl e0 q0).all (λq=>K (q.1,putAt (n0+j) (ah b) q.2)):=by
   rw [hf,hf];simp only [putAt,e1,C4];split
   ·rename_i e nb' _
    rw [List.set_comm _ _ hkj.symm,<-List.set_append_left _ _ A8]
   ·grind
  rcases ho with hb|hb
  ·grind
  ·rw [hb,hb];simp [T.all]
def aUA {ops:aVE}{n0:aVx}{nb:aWr}{j:aVx}{o:aVP}:L6 G ops n0 F (putAt j nb H) o=L6 G ops n0 F H o:=by
 unfold L6;rw [adw]
def aoN {ops:aVE}{tr:aVC}{n0:aVx}{i j:aVx}{is:aVC}{K:List LV×List AB->Prop}(hc:jK ops i j=U) (h:(GA P G Γ ops tr n0 (j::i::is) F H).all K):(GA P G Γ ops tr n0 (i::j::is) F H).all K:=by
 unfold jK at hc;split at hc
 ·rename_i x y hx hy
  simp only [AX,Cf,DB,CT] at hc;obtain ⟨⟨⟨⟨hne,g1⟩,g2⟩,g3⟩,hap⟩:=hc;obtain ⟨a1,a2,a3⟩:=Zl hap
  have hij:n0+j≠n0+i:=A0
  have step:∀(k:aVx) (o:aVP) (l:aVC) (F:aVy) (H:aVB),ops[k]? =ah o->o.guard.isNone=U->((GA P G Γ ops tr n0 (k::l) F H).all K↔(CP G F tr n0 o=U/\(ID P G Γ ops n0 k F H o).all (λq=>(GA P G Γ ops tr n0 l (Aw F o.dst q.1) q.2).all K))):=λk o l F H hk hg=>by
   simp only [GA,hk,hg,EU]
   by_cases hs:CP G F tr n0 o=U
   ·rw [AD hs,T.all_bind];exact ⟨λh=>⟨hs,h⟩,λh=>h.2⟩
   ·exact aN6
  have ap:∀(k:aVx) (o:aVP) (F:aVy) (H:aVB) (K:LV×List AB->Prop),MC o=U->((ID P G Γ ops n0 k F H o).all K↔(L6 G ops n0 F H o=U/\(Ax P G Γ F H o).all K)):=λk o F H K ha=>by
   obtain ⟨q1,q2⟩:=ahm ha;unfold ID;rw [q1,q2]
   by_cases hs:L6 G ops n0 F H o=U
   ·grind
   ·exact aN6
  have hil:i<ops.size:=(Hp.1 hx).1
  have hjl:j<ops.size:=(Hp.1 hy).1
  rw [step j y _ F H hy g2] at h;rw [step i x _ F H hx g1];obtain ⟨_,h⟩:=h
  have st1:∀(F:aVy) (H:aVB),((GA P G Γ ops tr n0 (i::is) F H).all K↔_):=λF H=>step i x is F H hx g1
  have st2:∀(F:aVy) (H:aVB),((GA P G Γ ops tr n0 (j::is) F H).all K↔_):=λF H=>step j y is F H hy g2
  simp only [st1] at h;simp only [st2];rcases g3 with (⟨g3,g4⟩ |⟨g3,g4,g5⟩) |⟨⟨g3,g5⟩,g4⟩
  ·have g3':(En x ||JR x)=true:=by simpa using g3
   have g4':(En y ||JR y)=true:=by simpa using g4
   obtain ⟨px,lx,nx,ex⟩:=eM (P:=P) (G:=G) (Γ:=Γ) (ops:=ops) (F:=F) (n0:=n0) (i:=i) g3';obtain ⟨py,ly,ny,ey⟩:=eM (P:=P) (G:=G) (Γ:=Γ) (ops:=ops) (F:=F) (n0:=n0) (i:=j) g4';rw [ey] at h;obtain ⟨h1,_,h2⟩:=h;rw [q9 g3' a3,ex] at h2;refine ⟨fF g3' F,?_⟩;rw [ex];refine ⟨h2.1,fF g4' _,?_⟩;rw [q9 g4' a1,ey];refine ⟨h1,?_⟩;rw [Lo a2,aee hij];exact h2.2
  ·have g3':(En x ||JR x)=true:=by simpa using g3
   obtain ⟨px,lx,nx,ex⟩:=eM (P:=P) (G:=G) (Γ:=Γ) (ops:=ops) (F:=F) (n0:=n0) (i:=i) g3';rw [ap j y F H _ g4] at h;obtain ⟨h1,h2⟩:=h
   have h2:(Ax P G Γ F H y).all (λq=>px/\(GA P G Γ ops tr n0 is (Aw (Aw F y.dst q.1) x.dst lx)<|putAt (n0+i) nx q.2).all K):=T.Bb (λq hq=>by
    have:=hq.2
    rw [q9 g3' a3,ex] at this;exact this) h2
   have hp:px:=T.TM<|T.Bb (λq hq=>hq.1) h2
   refine ⟨fF g3' F,?_⟩;rw [ex];refine ⟨hp,?_⟩;simp only;obtain ⟨b1,b2,b3⟩:=aKS (P:=P) (G:=G) (Γ:=Γ) (F:=F) (H:=putAt (n0+i) nx H) (d:=x.dst) (y:=lx) g4 a1;refine ⟨A8,?_⟩;rw [ap j y _ _ _ g4,b3,aUA,b1,aU9 h1 g5 hil];refine ⟨h1,T.Bb (λq hq=>?_) h2⟩
   simp only;rw [Lo a2];exact hq.2
  ·have g4':(En y ||JR y)=true:=by simpa using g4
   obtain ⟨py,ly,ny,ey⟩:=eM (P:=P) (G:=G) (Γ:=Γ) (ops:=ops) (F:=F) (n0:=n0) (i:=j) g4';rw [ey] at h;obtain ⟨h1,_,h2⟩:=h;obtain ⟨b1,b2,b3⟩:=aKS (P:=P) (G:=G) (Γ:=Γ) (F:=F) (H:=putAt (n0+j) ny H) (d:=y.dst) (y:=ly) g3 a3;rw [ap i x _ _ _ g3,b3,aUA,b1] at h2;obtain ⟨h2,h3⟩:=h2;rw [aU9 h2 g5 hjl] at h3;obtain ⟨_,_,_,_,_,_,_,_,_,_,_,_,hok,_⟩:=aEF (P:=P) (Γ:=Γ) h2;refine ⟨hok tr,?_⟩;rw [ap i x _ _ _ g3];refine ⟨h2,T.Bb (λq hq=>⟨fF g4' _,?_⟩) h3⟩
   rw [q9 g4' a1,ey];refine ⟨h1,?_⟩;rw [Lo a2];exact hq
 ·cases hc
def aoO {ops:aVE}{tr:aVC}{n0:aVx}{j:aVx}{R R':aVC}{K:List LV×List AB->Prop}(hh:∀(F:aVy) (H:aVB),(GA P G Γ ops tr n0 R F H).all K->(GA P G Γ ops tr n0 R' F H).all K) (h:(GA P G Γ ops tr n0 (j::R) F H).all K):(GA P G Γ ops tr n0 (j::R') F H).all K:=by
 simp only [GA] at h|-;exact yC
def aF1 {ops:aVE}{tr:aVC}{n0:aVx}{i:aVx}{K:List LV×List AB->Prop}:∀(R:aVC) (F:aVy) (H:aVB),i∈R->(G1 i R).all (λj=>jK ops i j)=U->(GA P G Γ ops tr n0 R F H).all K->(GA P G Γ ops tr n0 (i::R.erase i) F H).all K
 | [],_,_,hi,_,_=>nZ
 | j::R,F,H,hi,hb,h=>by
  by_cases hj:j=i
  ·subst hj
   grind
  ·have hi':i∈R:=by
    exact yR
   simp only [G1,AE hj,It,AX] at hb;rw [VZ A8];exact aoN hb.1<|aoO (λF H h=>aF1 R F H hi' hb.2 h) h
def adM {i:aVx}:∀ {R:aVC},PI R=U->∀i'∈R.erase i,i'≠i
 | [],_,_,h=>A8
 | k::R,hn,i',h=>by
  simp only [PI,AX,DB] at hn
  by_cases hk:k=i
  ·subst hk
   simp only [List.erase_cons_head] at h
   rintro rfl
   have:i'∉R:=A8
   exact this h
  ·rw [VZ A8] at h
   rcases BB.1 h with rfl|h
   ·exact hk
   ·exact adM hn.2 i' h
def aEg {i:aVx}:∀ {R:aVC},PI R=U->PI (R.erase i)=U
 | [],_=>A8
 | k::R,hn=>by
  simp only [PI,AX,DB] at hn
  by_cases hk:k=i
  ·grind
  ·rw [VZ A8]
   simp only [PI,AX,DB];refine ⟨?_,aEg hn.2⟩
   grind
def adQ {l cs:aVy}{off:aVx}{j:aVx}(h:j∈ownsL (setAt l off cs)):j∈ownsL l\/j∈ownsL cs:=by
 obtain ⟨x,h1,h2⟩:=dI h;rcases BZ.1 h1 with h1|h1
 ·rcases BZ.1 h1 with h1|h1
  ·exact .inl<|Rc (Va h1) h2
  ·exact .inr<|Rc h1 h2
 ·exact .inl<|Rc (QP h1) h2
def aeD {t:aVN}{x y:LV}{H1:aVB}(h:(Tt P H t x y).all λq=>q=H1):∃(k:aVx) (b nb:AB),H[k]? =ah b/\H1=H.set k nb/\∀j,j∈nb.owns->j∈b.owns\/j∈owns y:=by
 unfold Tt at h;split at h
 ·rename_i n cs hn hcs
  split at h
  ·rename_i k off
   split at h
   ·rename_i b hb
    split at h
    ·rename_i hc
     refine ⟨k,b,_,hb,h.symm,λj hj=>?_⟩
     have hcl:b.k=.cl:=by
      have:=hc.1
      unfold AB.E4 at this;split at this
      ·assumption
      ·cases this
     unfold AB.owns at hj|-;simp only [hcl,Gg] at hj|-;rcases adQ hj with h|h
     ·exact .inl h
     ·exact .inr<|pB hcs j h
    ·cases h
   ·cases h
  ·rename_i k es i j
   split at h
   ·rename_i bt e l hb
    split at h
    ·simp only [T.all] at h
     obtain ⟨_,h⟩:=h;split at h
     ·simp only [T.all] at h
      refine ⟨k,_,_,hb,h.symm,λj hj=>?_⟩
      unfold AB.owns at hj
      simp [ownsL] at hj
     ·cases h
    ·cases h
   ·cases h
  ·cases h
 ·cases h
def aF5 {x:LV}:owns (norm x)=owns x:=by cases x<;>simp [norm,owns]
def aEe:∀(l:aVy),ownsL (l.map norm)=ownsL l
 | []=>rfl
 |x::xs=>by simp only [ET,ownsL,aF5,aEe xs]
def aef {l:aVy}{j:aVx}(h:j∈owns (Jz l)):j∈ownsL l:=by
 unfold Jz at h;split at h
 ·simp [owns] at h
 ·simp only [owns,aEe] at h;exact h
def aEp {place:aVx->aWx}:∀(parts:aV2) (cells cs:aVy),Kq place cells parts=ah cs->∀j,j∈ownsL cs->j∈ownsL cells\/∃q,q∈parts/\j∈owns q.2
 | [],cells,cs,h,j,hj=>by simp only [Kq,Ah] at h;subst h;exact .inl hj
 | (i,x)::rest,cells,cs,h,j,hj=>by
  simp only [Kq] at h;split at h
  ·rename_i off size c hp hc
   split at h
   ·rcases aEp rest _ cs h j hj with h1|⟨q,q1,q2⟩
    ·rcases adQ h1 with h2|h2
     ·grind
     ·exact .inr ⟨(i,x),AI,pB hc j h2⟩
    ·grind
   ·cases h
  ·cases h
def aeH {t:aVN}{parts:aV2}{lv:LV}(h:(Nz P t parts).all λz=>z=lv) (j:aVx) (hj:j∈owns lv):∃q,q∈parts/\j∈owns q.2:=by
 unfold Nz at h;split at h
 ·split at h
  ·rename_i z pf _ _ cs hcs
   have hj':j∈ownsL cs:=by
    rw [<-h] at hj;split at hj
    ·exact hj
    ·exact aef hj
   rcases aEp parts _ cs hcs j hj' with h1|h1
   ·rw [aDi] at h1;cases h1
   ·exact h1
  ·cases h
 ·cases h
def afF {x:aWc}{j:aVx}(h:j∈owns (I1 G F x)):j∈ownsL F:=by
 cases x with
 |const v=>simp only [I1,aF5] at h;exact TF h
 |tmp t=>exact TF (G:=G) (x:=.tmp t) h
 |global g=>exact TF (G:=G) (x:=.global g) h
 |func f=>exact TF (G:=G) (x:=.func f) h
def aow {ops:aVE} {n0:aVx} {done:aVx->Prop} {R:aVC} {g g':Gh} {o:aVP} {i:aVx} {lv:LV} {H1:aVB} (hI:Sa n0 done R g) (hnd:∀i'∈R.erase i,i'≠i) (hs:(ID P G Γ ops n0 i g.F g.H o).all λq=>q=(lv,H1)) (eF:g'.F=Aw g.F o.dst lv) (eH:g'.H=H1):∃done',Sa n0 done' (R.erase i) g':=by
 have up:∀j,(j<n0\/∃i',done i'/\j=n0+i')->j<n0\/∃i',(done i'\/i'=i)/\j=n0+i':=λj h=>by
  rcases h with h|⟨i',h1,h2⟩
  ·exact .inl h
  ·exact yL
 unfold ID at hs;split at hs
 ·refine ⟨λi'=>done i'\/i'=i,?_⟩
  have al:∀nb:AB,owns lv=[n0+i]->H1=g.H.set (n0+i) nb->(∀j,j∈nb.owns->j∈ownsL g.F)->Sa n0 (λi'=>done i'\/i'=i) (R.erase i) g':=λnb ho hH1 hcs=>by
   subst hH1;refine ⟨λj hj=>?_,λk b hb j hj=>?_,λi' hi'=>?_⟩
   ·rw [eF] at hj
    rcases pR hj with h|h
    ·exact up j<|hI.f j h
    ·grind
   ·rw [eH,IS] at hb
    split at hb
    ·split at hb
     ·simp only [Ah] at hb
      subst hb;exact up j<|hI.f j<|hcs j hj
     ·cases hb
    ·exact up j<|hI.h k b hb j hj
   ·obtain ⟨h1,b,h2⟩:=hI.dead i' (QH hi')
    refine ⟨λh=>h.elim h1<|hnd i' hi',b,?_⟩
    grind
  rcases aGz (Γ:=Γ) hs with ⟨cs,t,rfl,hH1,_,hcs⟩ |⟨m,n,e,ty,l,rfl,hH1,_⟩
  ·exact al _ rfl hH1 (λj hj=>by
    unfold AB.owns at hj;simp only [Gg] at hj;exact hcs j hj)
  ·exact al _ rfl hH1 (λj hj=>by
    unfold AB.owns at hj
    simp [ownsL] at hj)
 ·split at hs
  ·rename_i hst
   refine ⟨λi'=>done i'\/i'=i,?_⟩
   have other:∀(x:LV),lv=x->H1=g.H->(∀j,j∈owns x->j∈ownsL g.F)->Sa n0 (λi'=>done i'\/i'=i) (R.erase i) g':=λx e1 e2 e3=>by
    subst e1 e2;refine ⟨λj hj=>?_,λk b hb j hj=>?_,λi' hi'=>?_⟩
    ·rw [eF] at hj
     rcases pR hj with h|h
     ·exact up j<|hI.f j h
     ·exact up j<|hI.f j<|e3 j h
    ·rw [eH] at hb;exact up j<|hI.h k b hb j hj
    ·obtain ⟨h1,b,h2⟩:=hI.dead i' (QH hi')
     grind
   unfold QA at hst;split at hst
   ·rename_i t x y ho
    unfold Ax at hs;simp only [ho] at hs;obtain ⟨H2,h1,h2⟩:=T.B5 hs;obtain ⟨rfl,rfl⟩:=h2;obtain ⟨k,b,nb,q1,q2,q3⟩:=aeD h1;subst q2;refine ⟨λj hj=>?_,λk' b' hb j hj=>?_,λi' hi'=>?_⟩
    ·rw [eF] at hj
     rcases pR hj with h|h
     ·exact up j<|hI.f j h
     ·simp [owns] at h
    ·rw [eH,IS] at hb
     split at hb
     ·split at hb
      ·simp only [Ah] at hb
       subst hb;rcases q3 j hj with h|h
       ·exact up j<|hI.h k b q1 j h
       ·exact up j<|hI.f j<|TF h
      ·cases hb
     ·exact up j<|hI.h k' b' hb j hj
    ·obtain ⟨h1,b0,h2⟩:=hI.dead i' (QH hi')
     refine ⟨λh=>h.elim h1<|hnd i' hi',?_⟩
     rw [eH]
     grind
   ·exact aMc
   ·exact aMc
   ·rename_i t parts ho
    unfold Ax at hs;simp only [ho] at hs;obtain ⟨y,h1,h2⟩:=T.B5 hs;simp only [T.all,Az] at h2;refine other _ h2.1.symm h2.2.symm λj hj=>?_
    obtain ⟨q,q1,q2⟩:=aeH h1 j hj;obtain ⟨q0,_,rfl⟩:=F4.1 q1;exact afF q2
   ·cases hst
  ·split at hs
   ·rename_i hap
    obtain ⟨d,k,es,off,n,e0,q0,t,tx,_,hl,_,_,ho⟩:=aEF (P:=P) (Γ:=Γ) hap;rcases ho with ho|ho
    ·obtain ⟨f,f1,_,hf⟩:=adK (P:=P) (t:=t) (tx:=tx) (k:=k) (es:=es) (off:=off) (n:=n) (e0:=e0) (q0:=q0)
     rw [ho,hf] at hs;split at hs
     ·rename_i p m n' e nb he
      obtain ⟨_,hs⟩:=hs;simp only [Az] at hs;obtain ⟨rfl,hH⟩:=hs
      have hnb:=f1 _ _ _ _ _ _ he
      refine ⟨λi'=>(done i'\/i'=i)\/i'=M g.H-n0,λj hj=>?_,λk' b hb j hj=>?_,λi' hi'=>?_⟩
      ·rw [eF] at hj
       rcases pR hj with h|h
       ·rcases up j (hI.f j h) with h|⟨i',h1,h2⟩
        ·exact .inl h
        ·exact yL
       ·simp only [owns,HJ] at h
        grind
      ·rw [eH,<-hH] at hb
       by_cases hk:k'<M g.H
       ·rw [Ho (by rw [C4];exact hk),IS] at hb
        split at hb
        ·split at hb
         ·simp only [Ah] at hb
          subst hb
          simp [AB.owns,ownsL] at hj
         ·cases hb
        ·rcases up j (hI.h k' b hb j hj) with h|⟨i',h1,h2⟩
         ·exact .inl h
         ·exact yL
       ·rw [Gc (by rw [C4];omega)] at hb
        have:b=nb:=by
         cases hq:k'-M (g.H.set k ⟨[],e,.dead,X⟩) with
         |zero=>rw [hq] at hb;simpa using hb.symm
         |succ z=>rw [hq] at hb;simp at hb
        subst this;rw [hnb] at hj;cases hj
      ·obtain ⟨h1,b,h2⟩:=hI.dead i' (QH hi')
       have hlt:=(EC.1 h2).1
       refine ⟨λh=>h.elim (λh=>h.elim h1<|hnd i' hi') λh=>A0,?_⟩
       rw [eH,<-hH]
       grind
     ·exact hs.elim
    ·rw [ho] at hs
     cases hs
   ·cases hs
def aFM (hΓ:∀g S,Γ g=ah S->Valid P G g S) {ops:aVE}{tr:aVC}{D:aVJ->Prop}{sp:aVx->aVH}{Q:aVX->Gh->Prop}{F':aVy}{H':aVB}(hgh:∀p,p∈Z0.gh->okV (M H) p.1)
  (hQ:∀g:Gh,g.F=F'->g.H=H'->Q g.a g):∀(n:aVx) (R:aVC) (listed:aVR) (g:Gh) (done:aVx->Prop),PI R=U->Sa (M H) done R g->(∀i∈R,sp i=U)->bf ops n R listed=U->
   (GA P G Γ ops tr (M H) R g.F g.H).all (λq=>q=(F',H'))->Ke P .any ops D (Cn ds G w0 Z0 tr β H wr) sp Q n listed g.a g
 |0,R,listed,g,_,_,_,_,hB,h=>by
  simp only [bf,AX,Zr] at hB;obtain ⟨rfl,h2⟩:=hB;simp only [GA,T.all,Az] at h;exact ⟨h2,hQ g h.1 h.2⟩
 | n + 1,R,listed,g,done,hnd,hI,hs,hB,h=>by
  simp only [bf,AX,BH,DB,m9] at hB;obtain ⟨hne,hall⟩:=hB;refine ⟨λh0=>absurd h0 hne,λi hi=>?_⟩
  obtain ⟨⟨hR,hbef⟩,hrest⟩:=hall i hi
  have hiR:i∈R:=A8
  have hf:=aF1 R g.F g.H hiR A8 h
  simp only [GA] at hf;split at hf
  ·rename_i o ho
   split at hf
   ·rename_i hgs
    simp only [AX,Zs] at hgs;obtain ⟨hgd,hst⟩:=hgs
    have hw:az o (yielded ops g.a.tmps)=true:=yq
    unfold E8;simp only [ho,hw,Bp,hs i hiR];obtain ⟨⟨lv,H1⟩,h1,h2⟩:=T.B5 hf
    have hne2:∀i'∈R.erase i,i'≠i:=adM hnd
    intro w' hc
    have goal:Dn P (λv w''=>∃g':Gh,Cn ds G w0 Z0 tr β H wr g' w''/\g'.F=Aw g.F o.dst lv/\g'.H=H1/\g'.a=g.a.put o.dst v) ((execOp g.a.eval o).run P w'):=by
     unfold ID at h1;split at h1
     ·exact ai3 hΓ hgh hI hiR hst h1 hc
     ·split at h1
      ·exact dF hΓ hst h1 hc
      ·split at h1
       ·exact dF hΓ hst h1 hc
       ·cases h1
    refine KP (λv w'' ⟨g',e1,e2,e3,e4⟩=>⟨g',e1,?_⟩) goal
    rw [<-e4];obtain ⟨done',hI'⟩:=aow hI hne2 h1 e2 e3;refine aFM hΓ hgh hQ n (R.erase i) _ g' done' (aEg hnd) hI' (λj hj=>hs j<|QH hj) hrest ?_
    rwa [e2,e3]
   ·cases hf
  ·cases hf
def RW.acA {βd:aVx->aWe}{m:aVx}(hW:RW G w0 Z0 Z β H w) (hd:∀k,k<M H->βd k=β k):RW G w0 Z0 Z βd (H++aq m GJ) w:=by
 have old:∀(k:aVx) (b:AB),(H++aq m GJ)[k]? =ah b->(k<M H/\H[k]? =ah b)\/b=GJ:=λk b hb=>by
  by_cases h0:k<M H
  ·grind
  ·rw [Gc A0,QM] at hb
   split at hb
   ·grind
   ·cases hb
 have nl:∀k,¬live βd k GJ:=λk h=>by simp [live,GJ] at h
 refine ⟨hW.below,hW.Bf,hW.Eo,λk b hk hl hp=>?_,λk b hk hl hp=>?_,λk b hk hl=>?_,λi j bi bj hi hj li lj pi e=>?_,λk b hk=>?_,hW.Cl,λp hp=>⟨R.mono hd (λ_ h=>h) (λ_ _=>rfl) _ _ (hW.gh p hp).2 (hW.gh p hp).1,okV.mono AI _ (hW.gh p hp).2⟩,hW.Cv⟩
 ·rcases old k b hk with ⟨h1,h2⟩ |rfl
  ·rw [hd k h1];rw [KW<|hd k h1] at hl;exact hW.Ct k b h2 hl hp
  ·grind
 ·rcases old k b hk with ⟨h1,h2⟩ |rfl
  ·rw [hd k h1];rw [KW<|hd k h1] at hl;exact hW.GQ k b h2 hl hp
  ·grind
 ·rcases old k b hk with ⟨h1,h2⟩ |rfl
  ·rw [hd k h1];rw [KW<|hd k h1] at hl;exact hW.low k b h2 hl
  ·grind
 ·rcases old i bi hi with ⟨h1,h2⟩ |rfl
  ·rcases old j bj hj with ⟨g1,g2⟩ |rfl
   ·rw [KW<|hd i h1] at li;rw [KW<|hd j g1] at lj;rw [hd i h1,hd j g1] at e
    exact hW.inj i j bi bj h2 g2 li lj pi e
   ·grind
  ·grind
 ·rcases old k b hk with ⟨h1,h2⟩ |rfl
  ·obtain ⟨g1,g2⟩:=hW.blk k b h2
   exact ⟨g1.keep hd (λ_ h=>h) (λ_ _=>rfl) (hd k h1) (λ_=>rfl) g2,g2.mono AI⟩
  ·exact ⟨by simp [Bc,GJ],ak,ak⟩
def aGm (hΓ:∀g S,Γ g=ah S->Valid P G g S) {ops:aVE} {Q:aWp->aVX->aVJ->Prop} {F':aVy} {H':aVB} (hQ:∀Z' β' a' w',RW G w0 Z0 Z' β' H' w'->RF ds β' Z' w' (M H') F' a'->Q .normal a' w')
  (hW0:RW G w0 Z0 Z β H w) (hF0:RF ds β Z w (M H) F a) (h:(jM P G Γ ops F H).all λq=>q=(F',H')) (r:aVZ) (m:aVx):P.follows .mixedOrders=U/\wpAnyIn (Dg r) m P .any ops Q ops.size (Array.replicate ops.size X) a {w with drawn:=w.drawn+1}:=by
 unfold jM at h;simp only at h;split at h
 ·rename_i hc
  simp only [AX] at hc;obtain ⟨⟨hcalm,hmix⟩,htr0⟩:=hc;generalize hfl:dh _ [] ops.toList=flags at h hcalm;generalize htrd:tracked H ops.toList F=tr at h htr0
  have htr:∀k∈tr,k<M H:=λk hk=>yZ
  obtain ⟨⟨F1,H1⟩,h1,h2⟩:=T.B5 h
  have hk:=WM (P:=P) (G:=G) (Γ:=Γ) (H:=H) (tr:=tr) (Hm:=Ej tr 0 H) (F0:=F) flags ops.toList F (λ_ h=>h) ⟨rfl,λ_ _=>rfl⟩
  obtain ⟨⟨F2,H2⟩,g1,g2,g3⟩:=P3 hk h1
  have hH2:H2=H:=(T.R1 hk g1).2.2
  subst hH2
  have hbd:Below w.heap.size w {w with drawn:=w.drawn+1}:=⟨rfl,rfl,rfl,Aq _,λ_ _=>rfl⟩
  have hW:=hW0.same hbd
  have hF:RF ds β Z {w with drawn:=w.drawn+1} (M H2) F a:=hF0.mono (Aq _) (λ_ _=>rfl) (λ_ h=>h) λ_ _=>rfl
  have hflen:M flags=M ops.toList:=by
   unfold jL at hcalm;exact yD
  have hops:ops=ops.toList.toArray:=AI
  have hshp0:Shp tr β H2 {w with drawn:=w.drawn+1}:=λk b _ hb hcl=>by
   exact y7
  refine ⟨hmix,?_⟩;rw [hops]
  refine ae4 (P:=P) (G:=Gh) (D:=λw'=>DX (Dd β H2 tr) {w with drawn:=w.drawn+1} w'/\Below w0.heap.size w0 w'/\Shp tr β H2 w') (C:=λg w'=>Cn ds G w0 Z0 tr β H2 {w with drawn:=w.drawn+1} g w') flags ⟨Z,β,H2,F,a⟩ ym (λg w' hc=>⟨hc.near,hc.rw.below,hc.shape⟩) (λg w1 w2 hc hb=>hc.keep hb)
   ⟨hW,hF,DX.refl _ _,Aq _,λ_ _=>rfl,λk k1 k2=>absurd k2<|Vc.2 k1,EvL.refl _⟩ ?_
  rw [<-hops]
  have hlm:M (Ej tr 0 H2)=M H2:=W4 tr H2 0
  have hDm:∀w',(DX (Dd β H2 tr) {w with drawn:=w.drawn+1} w'/\Below w0.heap.size w0 w'/\Shp tr β H2 w')->RW G w0 Z0 Z β (Ej tr 0 H2) w'/\∀b,(Z b\/∃k bk,(Ej tr 0 H2)[k]? =ah bk/\live β k bk/\tr.contains k=X/\b=(β k).b)->w'.heap[b]? =({w with drawn:=w.drawn+1}:aVJ).heap[b]? :=λw' ⟨d1,d2,d3⟩=>by
   exact xX
  refine WV (H:=H2) (HH:=H2) (F':=F2) hΓ hlm (hW.mask (DX.refl _ _) hW.below hshp0) hDm (λa1 hF1=>?_) flags ops.toList F a hflen hF g1
  have hF1':=g3 _ _ _ _ _ _ hF1
  refine po (Q':=λa' w'=>Q .normal a' w') (g1:=⟨Z,β,H2,F1,a1⟩) (λw' hc=>?_) flags ops.toList a1 ?_
  ·exact aMp
  ·exact qJ (H:=H2) (F':=F') (H':=H') hΓ (λg e1 e2 w' hc=>hQ g.Z g.β g.a w' aY bE) flags ops.toList ⟨Z,β,H2,F1,a1⟩ hflen ⟨_,hW,hF1',DX.refl _ _,Aq _,λ_ _=>rfl,λk k1 k2=>absurd k2<|Vc.2 k1,EvL.refl _⟩ h2
 ·split at h
  ·rename_i hc
   simp only [AX] at hc;obtain ⟨⟨hcalm,hmix⟩,htr0⟩:=hc
   replace hord:(XC ops _ ||gJ P ops _)=true:=hcalm
   replace hcalm:=(Sy.1 hcalm).elim (λe=>by unfold XC at e;exact (Bool.and_eq_true_iff.1 e).1) (λe=>by unfold gJ at e;exact (Bool.and_eq_true_iff.1 e).1)
   generalize hfl:dh _ [] ops.toList=flags at h hcalm hord;generalize htrd:tracked H ops.toList F=tr at h htr0
   have htr:∀k∈tr,k<M H:=λk hk=>yZ
   obtain ⟨⟨F1,H1⟩,h1,h2⟩:=T.B5 h
   have hk:=WM (P:=P) (G:=G) (Γ:=Γ) (H:=H) (tr:=tr) (Hm:=Ej tr 0 H) (F0:=F) flags ops.toList F (λ_ h=>h) ⟨rfl,λ_ _=>rfl⟩
   obtain ⟨⟨F2,H2⟩,g1,g2,g3⟩:=P3 hk h1
   have hH2:H2=H:=(T.R1 hk g1).2.2
   subst hH2
   have hbd:Below w.heap.size w {w with drawn:=w.drawn+1}:=⟨rfl,rfl,rfl,Aq _,λ_ _=>rfl⟩
   have hW:=hW0.same hbd
   have hF:RF ds β Z {w with drawn:=w.drawn+1} (M H2) F a:=hF0.mono (Aq _) (λ_ _=>rfl) (λ_ h=>h) λ_ _=>rfl
   have hflen:M flags=M ops.toList:=by
    unfold U0 at hcalm;exact yD
   have hops:ops=ops.toList.toArray:=AI
   have hshp0:Shp tr β H2 {w with drawn:=w.drawn+1}:=λk b _ hb hcl=>by
    exact y7
   refine ⟨hmix,?_⟩;rw [hops]
   refine adA (P:=P) (G:=Gh) (D:=λw'=>DX (Dd β H2 tr) {w with drawn:=w.drawn+1} w'/\Below w0.heap.size w0 w'/\Shp tr β H2 w') (C:=λg w'=>Cn ds G w0 Z0 tr β H2 {w with drawn:=w.drawn+1} g w') flags ⟨Z,β,H2,F,a⟩ ym (λg w' hc=>⟨hc.near,hc.rw.below,hc.shape⟩) (λg w1 w2 hc hb=>hc.keep hb)
    ⟨hW,hF,DX.refl _ _,Aq _,λ_ _=>rfl,λk k1 k2=>absurd k2<|Vc.2 k1,EvL.refl _⟩ ?_
   rw [<-hops]
   have hlm:M (Ej tr 0 H2)=M H2:=W4 tr H2 0
   have hDm:∀w',(DX (Dd β H2 tr) {w with drawn:=w.drawn+1} w'/\Below w0.heap.size w0 w'/\Shp tr β H2 w')->RW G w0 Z0 Z β (Ej tr 0 H2) w'/\∀b,(Z b\/∃k bk,(Ej tr 0 H2)[k]? =ah bk/\live β k bk/\tr.contains k=X/\b=(β k).b)->w'.heap[b]? =({w with drawn:=w.drawn+1}:aVJ).heap[b]? :=λw' ⟨d1,d2,d3⟩=>by
    exact xX
   refine WV (H:=H2) (HH:=H2) (F':=F2) hΓ hlm (hW.mask (DX.refl _ _) hW.below hshp0) hDm (λa1 hF1=>?_) flags ops.toList F a hflen hF g1
   have hF1':=g3 _ _ _ _ _ _ hF1
   refine cb (Q':=λa' w'=>Q .normal a' w') (g1:=⟨Z,β,H2,F1,a1⟩) (λw' hc=>?_) _ _ a1 ?_
   ·exact aMp
   ·cases hfx:XC ops flags with
    | true=>
     rw [AD hfx] at h2
     have hord2:=hfx
     unfold XC at hord2;simp only [AX,Cf] at hord2
     exact aDk (H:=H2) (F':=F') (H':=H') hΓ (λg e1 e2 w' hc=>hQ g.Z g.β g.a w' aY bE) _ (idxs U flags 0) _ ⟨Z,β,H2,F1,a1⟩ (λi hi=>by
      obtain ⟨_,h⟩:=pO U flags 0 i hi;simp only [Nat.sub_zero] at h
      simp [List.getD,h]) (hord2.2.elim aQX id) h2
    |false=>
     rw [AE (by rw [hfx];decide)] at h2
     rw [hfx,D5] at hord;unfold gJ at hord;simp only [AX,BH] at hord;exact adO (H:=H2) (F':=F') (H':=H') hΓ (λg e1 e2 w' hc=>hQ g.Z g.β g.a w' aY bE) _ (Ul ops<|idxs U flags 0) _ ⟨Z,β,H2,F1,a1⟩ (λi hi=>hord.2.1 i hi) hord.2.2 h2
  ·split at h
   ·rename_i hc
    simp only [AX] at hc;obtain ⟨⟨hcalm,hmix⟩,htr0⟩:=hc;unfold alx at hcalm;simp only [AX] at hcalm;obtain ⟨⟨⟨hcalm,hnd⟩,hlt⟩,hord⟩:=hcalm;generalize hfl:dh _ [] ops.toList=flags at h hcalm hord hnd hlt;generalize htrd:tracked H ops.toList F=tr at h htr0
    have htr:∀k∈tr,k<M H:=λk hk=>yZ
    obtain ⟨⟨F1,H1⟩,h1,h2⟩:=T.B5 h
    have hk:=WM (P:=P) (G:=G) (Γ:=Γ) (H:=H) (tr:=tr) (Hm:=Ej tr 0 H) (F0:=F) flags ops.toList F (λ_ h=>h) ⟨rfl,λ_ _=>rfl⟩
    obtain ⟨⟨F2,H2⟩,g1,g2,g3⟩:=P3 hk h1
    have hH2:H2=H:=(T.R1 hk g1).2.2
    subst hH2
    have hbd:Below w.heap.size w {w with drawn:=w.drawn+1}:=⟨rfl,rfl,rfl,Aq _,λ_ _=>rfl⟩
    have hW:=hW0.same hbd
    have hF:RF ds β Z {w with drawn:=w.drawn+1} (M H2) F a:=hF0.mono (Aq _) (λ_ _=>rfl) (λ_ h=>h) λ_ _=>rfl
    have hflen:M flags=M ops.toList:=by
     unfold U0 at hcalm;exact yD
    have hops:ops=ops.toList.toArray:=AI
    have hshp0:Shp tr β H2 {w with drawn:=w.drawn+1}:=λk b _ hb hcl=>by
     exact y7
    refine ⟨hmix,?_⟩;rw [hops]
    refine adA (P:=P) (G:=Gh) (D:=λw'=>DX (Dd β H2 tr) {w with drawn:=w.drawn+1} w'/\Below w0.heap.size w0 w'/\Shp tr β H2 w') (C:=λg w'=>Cn ds G w0 Z0 tr β H2 {w with drawn:=w.drawn+1} g w') flags ⟨Z,β,H2,F,a⟩ ym (λg w' hc=>⟨hc.near,hc.rw.below,hc.shape⟩) (λg w1 w2 hc hb=>hc.keep hb)
     ⟨hW,hF,DX.refl _ _,Aq _,λ_ _=>rfl,λk k1 k2=>absurd k2<|Vc.2 k1,EvL.refl _⟩ ?_
    rw [<-hops]
    have hlm:M (Ej tr 0 H2)=M H2:=W4 tr H2 0
    have hDm:∀w',(DX (Dd β H2 tr) {w with drawn:=w.drawn+1} w'/\Below w0.heap.size w0 w'/\Shp tr β H2 w')->RW G w0 Z0 Z β (Ej tr 0 H2) w'/\∀b,(Z b\/∃k bk,(Ej tr 0 H2)[k]? =ah bk/\live β k bk/\tr.contains k=X/\b=(β k).b)->w'.heap[b]? =({w with drawn:=w.drawn+1}:aVJ).heap[b]? :=λw' ⟨d1,d2,d3⟩=>by
     exact xX
    refine WV (H:=H2) (HH:=H2) (F':=F2) hΓ hlm (hW.mask (DX.refl _ _) hW.below hshp0) hDm (λa1 hF1=>?_) flags ops.toList F a hflen hF g1
    have hF1':=g3 _ _ _ _ _ _ hF1
    have d1:∀k,k<M H2->(λk=>if k<M H2 then β k else ⟨w.heap.size,0,aj⟩:aVx->aWe) k=β k:=λk hk=>by simp [hk]
    have d2:∀k,M H2<=k->((λk=>if k<M H2 then β k else ⟨w.heap.size,0,aj⟩:aVx->aWe) k).b=w.heap.size:=λk hk=>by simp [Vc.2 hk]
    generalize (λk=>if k<M H2 then β k else ⟨w.heap.size,0,aj⟩:aVx->aWe)=βd at d1 d2
    refine cb (Q':=λa' w'=>Q .normal a' w') (g1:=⟨Z,βd,H2++aq ops.size GJ,F1,a1⟩) (λw' hc=>?_) _ _ a1 ?_
    ·refine ⟨hc.rw.acA d1,?_,hc.near,AI,λk hk=>d1 k hk,λk k1 k2=> .inl (by rw [d2 k k1];exact Aq _),EvL.app _ _⟩
     exact hF1'.mono AI d1 (λ_ h=>h) λb hz=>hc.near.block b (hW.Bf b hz)<|hW.pI hz
    ·refine aFM (H:=H2) (F':=F') (H':=H') hΓ (λp hp=>(hW.gh p hp).2) (λg e1 e2 w' hc=>hQ g.Z g.β g.a w' aY bE) _ (idxs U flags 0) _ ⟨Z,βd,H2++aq ops.size GJ,F1,a1⟩ (λ_=>False) hnd ⟨λj hj=>?_,λk b hb j hj=>?_,λi hi=>⟨λh=>h,?_⟩⟩ (λi hi=>by
      obtain ⟨_,h⟩:=pO U flags 0 i hi;simp only [Nat.sub_zero] at h
      simp [List.getD,h]) hord h2
     ·obtain ⟨x,q1,q2⟩:=dI hj
      obtain ⟨t',q3⟩:=List.getElem?_of_mem q1;exact .inl<|okV_owns x (hF1'.get t' x q3).2 j q2
     ·by_cases h0:k<M H2
      ·simp only at hb
       rw [Ho h0] at hb;exact .inl<|aFu (hW.blk k b hb).2 j hj
      ·simp only at hb
       rw [Gc A0,QM] at hb;split at hb
       ·simp only [Ah] at hb
        subst hb
        simp [AB.owns,GJ,ownsL] at hj
       ·cases hb
     ·have hlt':i<ops.size:=by simpa using BH.1 hlt i hi
      exact ⟨_,Dh DJ⟩
   ·cases h
def aEK {α:Type}{f:aVx->T α}{n:Y}{p:α->Prop}:∀(m j:aVx),(splitN f n m j).all p->(j:Y)<=n->n<(j:Y)+m->∃i:aVx,n=(i:Y)/\(f i).all p
 |0,j,_,h1,h2=>A0
 |1,j,h,h1,h2=>⟨j,A0,h⟩
 |m+2,j,h,h1,h2=>by
  simp only [splitN,T.all] at h
  by_cases e:n=(j:Y)
  ·grind
  ·exact aEK (m+1) (j+1) (h.2 A8) A0 A0
def adv {ops:aV5}{s len:aVx}{k:aWh}{n:Y}(h:rX P ops F=ah (s,k,n,len)):F.getD s .junk=.v (ag k n):=by
 unfold rX at h;split at h
 ·obtain ⟨o,_,ho⟩:=List.exists_of_findSome?_eq_some h
  split at ho
  ·split at ho
   ·split at ho
    ·rename_i hx
     obtain ⟨rfl,rfl,rfl,rfl⟩:=ho;exact hx
    ·cases ho
   ·cases ho
  ·cases ho
 ·cases h
def aFZ (hΓ:∀g S,Γ g=ah S->Valid P G g S) {ops:aVE}{Q:aWp->aVX->aVJ->Prop}{F':aVy}{H':aVB}(hQ:∀Z' β' a' w',RW G w0 Z0 Z' β' H' w'->RF ds β' Z' w' (M H') F' a'->Q .normal a' w')
  (hW0:RW G w0 Z0 Z β H w) (hF0:RF ds β Z w (M H) F a) (h:(Xx P G Γ ops F H).all λq=>q=(F',H')) (r:aVZ) (m:aVx):P.follows .mixedOrders=U/\wpAnyIn (Dg r) m P .any ops Q ops.size (Array.replicate ops.size X) a {w with drawn:=w.drawn+1}:=by
 unfold Xx at h;split at h
 ·rename_i s k n len hs
  obtain ⟨⟨h0,h1⟩,h2⟩:=h;obtain ⟨i,hi,h3⟩:=aEK len 0 h2 A0 A0
  have hx:=adv hs
  obtain ⟨s1,s2⟩:=hF0.slot hx AI
  have hv:=(hF0.get s _ s1).1
  exact aGm hΓ hQ hW0 (hF0.know (lv:=.ki k i) (by simp only [R];rw [hv,hi]) trivial) h3 r m
 ·exact aGm hΓ hQ hW0 hF0 h r m
def aeK (hΓ:∀g S,Γ g=ah S->Valid P G g S) {id:aVx}{ops:aVE}{Q:aWp->aVX->aVJ->Prop}{F':aVy}{H':aVB}(hQ:∀Z' β' a' w',RW G w0 Z0 Z' β' H' w'->RF ds β' Z' w' (M H') F' a'->Q .normal a' w')
  (hW0:RW G w0 Z0 Z β H w) (hF0:RF ds β Z w (M H) F a) (h:(Xx P G Γ ops F H).all λq=>q=(F',H')) (r:aVZ) (m:aVx):(Code.region id ops U).wpIn (Dg r) m P Q a w:=
 have h1:=aFZ hΓ hQ hW0 hF0 h r m
 wpIn_region_any h1.1 h1.2
def adn {ops:aVE}{o:aVP}(h:qL G Γ ops=ah o):∃ys:aVE,ops=ys.push o/\ops.pop=ys/\o.guard=aj/\lastB .any ys o=true:=by
 unfold qL at h;split at h
 ·rename_i o' hb
  split at h
  ·split at h
   ·cases h
   ·split at h
    ·rename_i hl
     obtain rfl:=ED h;obtain ⟨ys,rfl⟩:=Array.back?_eq_some_iff.1 hb;rw [Array.pop_push] at hl|-;refine ⟨ys,rfl,rfl,?_,hl⟩;simp only [lastB,AX] at hl
     simp_all
    ·cases h
  ·cases h
 ·cases h
def adX {K:aWq}(hΓ:∀g S,Γ g=ah S->Valid P G g S) (hK:FU P G K) {id:aVx}{ops:aVE}{Q:aWp->aVX->aVJ->Prop}{F':aVy}{H':aVB}(hQ:∀Z' β' a' w',RW G w0 Z0 Z' β' H' w'->RF ds β' Z' w' (M H') F' a'->Q .normal a' w')
  (hW0:RW G w0 Z0 Z β H w) (hF0:RF ds β Z w (M H) F a) (h:(jO P G Γ K ops F H).all λq=>q=(F',H')) (r:aVZ) (m:aVx):(Code.region id ops U).wpIn (Dg r) m P Q a w:=by
 unfold jO at h;split at h
 ·rename_i o ho
  obtain ⟨ys,rfl,hp,hg,hl⟩:=adn ho;rw [hp] at h;obtain ⟨⟨F1,H1⟩,h1,h2⟩:=T.B5 h;obtain ⟨⟨lv,H2⟩,h3,h4⟩:=T.B5 h2;obtain ⟨rfl,rfl⟩:=h4
  have h5:=aFZ hΓ (Q:=Xj (Dg r) m P (ys.push o) Q ys.size) (λZ' β' a' w' e1 e2=>by
   show wpOpIn (Dg r) m P (ys.push o) Q ys.size (Q .normal) a' w'
   unfold wpOpIn
   have hw:az o (yielded (ys.push o) a'.tmps)=true:=bH
   simp only [Array.getElem?_push_size,hw,Bp];exact WD (KP (λv w' ⟨Z',β',e1,e2,e3,e4⟩=>hQ Z' β' _ w' e1<|e2.put e3 e4 o.dst)<|aE3 hΓ hK e1 e2 h3) r m) hW0 hF0 h1 r m
  exact adf h5.1 hl h5.2
 ·exact aeK hΓ hQ hW0 hF0 h r m
end Go.Sx
namespace Go.Sx
open Go Go.RowKit Go.Proofs.YtjdlmobanmhohaaGreatDoor
variable {P : Program} {G : B3} {Γ : Specs} {K : Hand} {β : Nat -> Loc} {Z : Nat -> Prop} {Z0 : Gz} {w w0 : World} {F : List LV} {H : List AB} {a : Act} {ds : List Deferred}
def aoX {ops:aVE}{o:aVP}{t:Tmp}(h:Operand.tmp t∈o.op.operands):t∈o.looksAt ops:=by
 exact List.mem_append_left _<|Sz.2 ⟨.tmp t,A8,rfl⟩
def pA {ops:aVE}{F F':aVy}{o:aVP}(h:∀t,t∈o.looksAt ops->F.getD t .junk=F'.getD t .junk) {x:aWc}(hx:x∈o.op.operands):AM G F x=AM G F' x:=by
 cases x with
 |tmp t=>exact h t (aoX hx)
 |const _=>rfl
 |global _=>rfl
 |func _=>rfl
def aek {ops:aVE}{F F':aVy}{o:aVP}(hs:∀cs b,o.op≠ .select cs b) (h:∀t,t∈o.looksAt ops->F.getD t .junk=F'.getD t .junk):Dq P G F o=Dq P G F' o:=by
 have e:∀x∈o.op.operands,AM G F x=AM G F' x:=λx hx=>pA h hx
 unfold Dq
 have e1:o.op.operands.toList.all (λx=>SY<|AM G F x)=o.op.operands.toList.all (λx=>SY<|AM G F' x):=by
  grind
 have e3:o.op.operands.toList.all (λx=>bh<|AM G F x)=o.op.operands.toList.all (λx=>bh<|AM G F' x):=by
  grind
 have e2:Oe P o (λx=>(pl<|AM G F x).getD undef)=Oe P o (λx=>(pl<|AM G F' x).getD undef):=by
  have c:=mF (ρ:=λx=>(pl<|AM G F x).getD undef) (ρ':=λx=>(pl<|AM G F' x).getD undef) o hs λx hx=>A8
  unfold Oe;rw [c]
  have a:R5 P o.op (λx=>(pl<|AM G F x).getD undef)=R5 P o.op (λx=>(pl<|AM G F' x).getD undef):=by
   exact aMy
  rw [a]
 grind
def afN {ops:aVE}{F F':aVy}{o:aVP}(h:∀t,t∈o.looksAt ops->F.getD t .junk=F'.getD t .junk):Ip P G Γ F o=Ip P G Γ F' o:=by
 have e:=λx hx=>pA (G:=G) h (x:=x) hx
 unfold Ip;split
 ·rename_i t len parts ho
  have em:(parts.toList.map λq=>(q.1,AM G F q.2))=parts.toList.map λq=>(q.1,AM G F' q.2):=Jl λq hq=>by
   rw [e q.2 yd]
  rw [em]
 ·rename_i f args ty ho
  have e1:=e f aO7
  have e2:(args.toList.map λx=>norm<|AM G F x)=args.toList.map λx=>norm (AM G F' x):=Jl λx hx=>by
   rw [e x aQ]
  rw [e1,e2]
 ·rfl
def aE7 {ops:aVE}{F F':aVy}{o:aVP}(h:∀t,t∈o.looksAt ops->F.getD t .junk=F'.getD t .junk):hwx P G Γ F H o=hwx P G Γ F' H o:=by
 have e:=λx hx=>pA (G:=G) h (x:=x) hx
 unfold hwx;cases ho:o.op<;>simp only
 case binOp op t x y u=>cases op<;>simp only<;>exact aek (ops:=ops) (λcs b q=>A8) h
 case call c=>exact afN (ops:=ops) h
 all_goals rw [e _ FQ]
def af0 {o:aVP}{g:aVY}{l:aVy}(h:callOf G [] o=ah (g,l)):∃f args ty,o.op=.call {callee:=.value f,args,argTypes:=ty}/\∀F:aVy,AM G F f=AM G [] f:=by
 obtain ⟨f,args,ty,ho,hf⟩:=aED h;refine ⟨f,args,ty,ho,λF=>?_⟩
 cases f with
 |tmp t=>
  have:AM G [] (.tmp t)=.junk:=by simp [AM]
  rcases hf with ⟨_,hf,_⟩ |⟨_,hf,_⟩ |⟨hf,_⟩<;>rw [this] at hf<;>cases hf
 |const _=>rfl
 |global _=>rfl
 |func _=>rfl
def aF2 {ops:aVE}{F F':aVy}{o:aVP}{g:aVY}{l:aVy}(hc:callOf G [] o=ah (g,l)) (hg:Γ g=aj) (h:∀t,t∈o.looksAt ops->F.getD t .junk=F'.getD t .junk):KC P G Γ K F H o=KC P G Γ K F' H o:=by
 obtain ⟨f,args,ty,ho,hf⟩:=af0 hc
 have ha:args.toList.map (λx=>norm<|AM G F x)=args.toList.map (λx=>norm<|AM G F' x):=Jl λx hx=>by
  rw [pA (G:=G) h (by rw [ho];simp [Op.operands,Call.operands];exact .inr A8)]
 have hcall:callOf G F o=callOf G F' o:=by
  unfold callOf
  grind
 have h2:∃l2,callOf G F' o=ah (g,l2):=by
  unfold callOf at hc|-;simp only [ho] at hc|-;split at hc
  ·grind
  ·grind
  ·grind
  ·cases hc
 unfold KC
 grind
def T.sQ {t:T LV}{lv:LV}{H:aVB}(h:t.all λy=>y=lv):(t.bind λy=>(T.ok (y,H):T<|LV×List AB)).all (λq=>q=(lv,H)):=by
 rw [T.all_bind];exact T.Bb (λx hx=>by rw [hx];exact rfl) h
def aoe {o:aVP}{lv:LV}(h:(Ip P G Γ F o).all λz=>z=lv):(Ax P G Γ F H o).all (λq=>q=(lv,H)):=by
 refine aIF ?_ h;unfold Ip at h;unfold Ie;split at h
 ·rfl
 ·rfl
 ·cases h
def atm {o:aVP}{lv:LV}(h:(hwx P G Γ F H o).all λy=>y=lv):(Ax P G Γ F H o).all (λq=>q=(lv,H)):=by
 by_cases hcl:∃c,o.op=.call c
 ·obtain ⟨c,ho⟩:=hcl
  unfold hwx at h;simp only [ho] at h;exact aoe h
 unfold hwx at h;unfold Ax;cases ho:o.op<;>simp only [ho] at h|-
 case call c=>exact absurd ⟨c,ho⟩ hcl
 case move x=>simp only [T.all] at h|-;rw [h]
 case assign x=>simp only [T.all] at h|-;rw [h]
 case load t x=>exact T.sQ h
 case fieldAddr s x i=>exact T.sQ h
 case nilCheck x=>
  generalize AM G F x=v at h|-;cases v<;>simp only [T.all] at h|-<;>first|rw [h] |cases h
 case binOp op t x y u=>cases op<;>simp only at h|-<;>first|exact T.sQ h|cases h
 all_goals cases h
def aE9 {F:aVy}{d t:aVx}{y:LV}(hd:d<M F):(F.set d y).getD t .junk=if t=d then y else F.getD t .junk:=by
 by_cases e:t=d
 ·grind
 ·grind
def ql {ops:aVE}:∀(is:aVC) (F F1:aVy),is.Pairwise (λi j=>∀d,Fy ops j=ah d->d∉Nq ops i/\Fy ops i≠ah d)->(∀i∈is,∃d,Fy ops i=ah d/\d<M F/\d∉Nq ops i)->
  (goW P G Γ ops H is F).all (λz=>z=F1)->M F1=M F/\(∀t,(∀i∈is,Fy ops i≠ah t)->F1.getD t .junk=F.getD t .junk)/\∀i∈is,∀o d,ops[i]? =ah o->o.dst=ah d->(hwx P G Γ F1 H o).all (λy=>y=F1.getD d .junk)
 | [],F,F1,_,_,h=>by
  subst h
  grind
 | i ::is,F,F1,hp,hd,h=>by
  simp only [goW] at h;split at h
  ·rename_i o ho
   obtain ⟨y,h1,h2⟩:=T.B5 h;obtain ⟨d,e1,e2,e3⟩:=hd i AI
   have hod:o.dst=ah d:=by simpa [Fy,ho] using e1
   obtain ⟨p1,p2⟩:=lf.1 hp
   have hset:Aw F o.dst y=F.set d y:=by rw [hod];rfl
   rw [hset] at h2;obtain ⟨g1,g2,g3⟩:=ql is (F.set d y) F1 p2 (λj hj=>A8) h2
   have hFd:F1.getD d .junk=y:=by
    grind
   refine ⟨A8,λt ht=>?_,λj hj o' d' ho' hd'=>?_⟩
   ·rw [g2 t λj hj=>ht j A8,aE9 e2,AE]
    grind
   ·rcases BB.1 hj with rfl|hj
    ·obtain rfl:=ED (ho.symm.trans ho')
     obtain rfl:=ED<|hod.symm.trans hd';rw [hFd,aE7 (ops:=ops) (F':=F) λt ht=>?_]
     ·exact h1
     ·have hl:t∈Nq ops j:=nH
      grind
    ·grind
  ·cases h
def aEC {ops:aVE}{F1:aVy}:∀(is:aVC),(bn P G Γ ops H F1 is).all (λ_=>True)->∀i∈is,∀o d t x,ops[i]? =ah o->o.dst=ah d->o.op=.load t x->(hwx P G Γ F1 H o).all (λy=>y=F1.getD d .junk)
 | [],_,i,hi=>nZ
 | j ::is,h,i,hi=>λo d t x ho hd hop=>by
  simp only [bn] at h;split at h
  ·rename_i o' ho'
   split at h
   ·rename_i hop'
    rw [T.all_bind] at h;rcases BB.1 hi with rfl|hi
    ·obtain rfl:=ED (ho'.symm.trans ho)
     refine T.Bb (λy hy=>?_) h
     simp only [T.all,hd] at hy;exact hy.1
    ·obtain ⟨y,hy,_⟩:=T.pick h
     exact aEC is hy.2 i hi o d t x ho hd hop
   ·rename_i hop'
    rcases BB.1 hi with rfl|hi
    ·obtain rfl:=ED (ho'.symm.trans ho)
     grind
    ·exact aEC is h i hi o d t x ho hd hop
  ·cases h
def aeM (n:aVx) (p q:aVx->aVH) (hp:∃k,k<n/\p k=U/\∀j,j<n->p j=U->j=k):n=(M ((au n).filter λi=>!p i&&!q i)+1)+M ((au n).filter λi=>!p i&&q i):=by
 obtain ⟨k,hk,hpk,hu⟩:=hp
 have h1:∀m,m<=n->m=M ((au m).filter λi=>!p i&&!q i)+(if k<m then 1 else 0)+M ((au m).filter λi=>!p i&&q i):=λm=>by
  induction m with
  |zero=>intro _;simp
  | succ m ih=>
   intro hm;rw [Ss,Zp,Zp,BI,BI]
   by_cases e:m=k
   ·subst e
    grind
   ·have hpm:p m=false:=by
     cases hb:p m with
     |false=>rfl
     |true=>exact absurd (hu m A0 hb) e
    by_cases hlt:k<m
    ·have h2:k<m+1:=A0
     grind
    ·have h2:¬k<m+1:=A0
     grind
 have:=h1 n<|Aq _
 rw [AD hk] at this;omega
def Jj (ops:aVE) (AW:aVC) (F F2:aVy) (l:aVR):aVy:=
 (au<|M F).map λt=>if AW.any (λi=>l.getD i X&&Fy ops i==ah t) then F2.getD t .junk else F.getD t .junk
def W8 {ops:aVE}{AW:aVC}{F F2:aVy}{l:aVR}:M (Jj ops AW F F2 l)=M F:=by simp [Jj]
def dv {ops:aVE}{AW:aVC}{F F2:aVy}{l:aVR}{t:aVx}(h:t<M F):(Jj ops AW F F2 l).getD t .junk=if AW.any (λi=>l.getD i X&&Fy ops i==ah t) then F2.getD t .junk else F.getD t .junk:=by
 simp [Jj,List.getD,h]
def qf {A B:aVy}(hl:M A=M B) (h:∀t,t<M A->A.getD t .junk=B.getD t .junk):A=B:=by
 apply Zj hl
 grind
def aJc {A:aVy}{t:aVx}(h:M A<=t):A.getD t .junk=.junk:=A8
def aDn {ops:aVE}{l:aVR}{i j:aVx}(hc:Closed .any ops l) (hr:i∈ay .any ops l) (hj:j∈Gw ops i):l.getD j X=true:=by
 obtain ⟨_,o,ho,h2⟩:=Ey.1 hr;refine hc.back ops.size (Of ops i) (λk hk=>?_) j hj
 unfold Of at hk
 grind
def ae7 {ops:aVE}{l:aVR}{i j:aVx}(hc:Closed .any ops l) (hi:l.getD i X=U) (hlt:i<ops.size) (hj:j∈Gw ops i):l.getD j X=true:=by
 refine hc.back ops.size (Of ops i) (λk hk=>?_) j hj
 unfold Of at hk;rw [QK hlt] at hk;obtain ⟨e,h3,rfl⟩:=F4.1 hk;obtain ⟨h4,h5⟩:=Cg.1 h3;exact hc i _ (QK hlt) hi e A8 h5
def adz {α:Type}(l:List α) (p q:α->aVH):M (l.filter p)=M (l.filter λi=>p i&&q i)+M (l.filter λi=>p i&&!q i):=by
 induction l with
 |nil=>rfl
 |cons x l ih=>
  grind
def afq (hΓ:∀g S,Γ g=ah S->Valid P G g S) (hK:FU P G K) {ops:aVE} {wi:aVx} {Q:aWp->aVX->aVJ->Prop} {F':aVy} {H':aVB} (hQ:∀Z' β' a' w',RW G w0 Z0 Z' β' H' w'->RF ds β' Z' w' (M H') F' a'->Q .normal a' w')
  (hwi:aL8 G Γ ops=ah wi) (hW0:RW G w0 Z0 Z β H w) (hF0:RF ds β Z w (M H) F a) (h:(aBY P G Γ K ops wi F H).all λq=>q=(F',H')) (r:aVZ) (m:aVx):P.follows .mixedOrders=U/\wpAnyIn (Dg r) m P .any ops Q ops.size (Array.replicate ops.size X) a {w with drawn:=w.drawn+1}:=by
 unfold aBY at h;split at h
 case isFalse=>cases h
 rename_i hc;simp only [AX,Cf] at hc;obtain ⟨⟨⟨hok,hmix⟩,hbl⟩,hord⟩:=hc
 have hbl:M (JO ops wi)=M (Jy ops wi):=by simpa using hbl
 have hord:MD ops (M<|JO ops wi) (JO ops wi) (KX ops wi)=true:=hord.elim aQX id
 refine ⟨hmix,?_⟩;split at h
 case h_2=>cases h
 rename_i ow how;obtain ⟨F1,h1,h⟩:=T.B5 h;obtain ⟨⟨lvW,H1⟩,h2,h⟩:=T.B5 h;obtain ⟨_,h3,h⟩:=T.B5 h;obtain ⟨F3,h5,h4⟩:=T.B5 h;simp only at h3 h4 h5
 obtain ⟨gW,lW,hcW,hgW⟩:∃g l,callOf G [] ow=ah (g,l)/\Γ g=none:=by
  have:=List.find?_some hwi
  simp only [how] at this;split at this
  ·rename_i g l e;exact ⟨g,l,e,by simpa using this⟩
  ·cases this
 have hwlt:wi<ops.size:=(Hp.1 how).1
 generalize hA:R9 ops wi=A at*
 have hAm:∀i,i∈A↔i<ops.size/\i≠wi/\wi∉Gw ops i:=λi=>by
  rw [<-hA];unfold R9;simp
 generalize hC:Rb ops wi=C at*
 have hCm:∀i,i∈C↔i<ops.size/\i≠wi/\wi∈Gw ops i/\allA ops wi i=false:=λi=>by
  rw [<-hC];unfold Rb;simp
 have hPW:j7 ops wi=A++([wi]++C):=by unfold j7;rw [hA,hC]
 unfold okW at hok;rw [hPW,hA,hC] at hok;generalize hAWd:A++([wi]++C)=AW at*;simp only [AX,BH] at hok;obtain ⟨hAW,hB,hNL⟩:=hok
 have hAWm:∀i,i∈AW↔i∈A\/i=wi\/i∈C:=λi=>by rw [<-hAWd];simp
 have cNL:∀i,(i∈A\/i=wi)->∀j,(j=wi\/j∈C)->∀d,Fy ops j=ah d->d∉Nq ops i:=λi hi j hj d hd hm=>by
  have:=hNL i (by simpa using hi) j nN
  unfold aSU at this;simp only [hd] at this
  simp [hm] at this
 have cDst:∀i∈AW,∃o d,ops[i]? =ah o/\o.guard=aj/\o.dst=ah d/\Fy ops i=ah d/\d<M F:=λi hi=>by
  obtain ⟨⟨⟨g1,g2⟩,_⟩,_⟩:=hAW i hi;cases ho:ops[i]? with
  |none=>simp [ho] at g1
  | some o=>
   simp only [ho,Zs] at g1;cases hd:Fy ops i with
   |none=>simp [hd] at g2
   |some d=>
    simp only [hd,Ab] at g2;exact ⟨o,d,rfl,g1,by simpa [Fy,ho] using hd,rfl,g2⟩
 have cOns:∀i∈AW,∀p∈Of ops i,p<i/\p∈AW:=λi hi p hp=>by
  obtain ⟨⟨_,g3⟩,_⟩:=hAW i hi
  simpa using g3 p hp
 have cLay:∀i∈AW,∀j∈AW,∀d,Fy ops j=ah d->(i=j\/Fy ops i≠ah d)/\(d∈Nq ops i->i≠j/\j<i/\j∈Gw ops i):=λi hi j hj d hd=>by
  obtain ⟨_,g4⟩:=hAW i hi
  have:=g4 j hj
  unfold abS at this;simp only [hd,AX,Cf,DB,CT,Cz,Ab,ne_eq,Zv] at this;refine ⟨this.1,λhm=>?_⟩
  rcases this.2 with g|g
  ·exact absurd hm<|by simpa using g
  ·exact ⟨g.1.1,g.1.2,by simpa using g.2⟩
 have hwA:wi∈AW:=(hAWm wi).2<|.inr<|.inl rfl
 have hAA:∀i∈A,i∈AW:=λi hi=>(hAWm i).2<|.inl hi
 have hCA:∀i∈C,i∈AW:=λi hi=>(hAWm i).2<|.inr<|.inr hi
 obtain ⟨_,dw,how',hgw,hdw,hdwI,hdwlt⟩:=cDst wi hwA;obtain rfl:=ED<|how.symm.trans how'
 have hAnd:A.Pairwise (λi j=>i<j):=by
  rw [<-hA];unfold R9;exact (List.pairwise_lt_range).filter _
 obtain ⟨k1,k2,k3⟩:=ql A F F1 (hAnd.imp_of_mem λ{i j} hi hj hlt d hd=>by
   obtain ⟨q1,q2⟩:=cLay i (hAA i hi) j (hAA j hj) d hd;exact ⟨λhm=>aP7,q1.resolve_left A0⟩) (λi hi=>by
   obtain ⟨o,d,_,_,_,e1,e2⟩:=cDst i<|hAA i hi;exact ⟨d,e1,e2,λhm=>((cLay i (hAA i hi) i (hAA i hi) d e1).2 hm).1 rfl⟩) h1
 have hset:Aw F1 ow.dst lvW=F1.set dw lvW:=by rw [hdw];rfl
 rw [hset] at h5;generalize hF2:F1.set dw lvW=F2 at h5
 have hF2g:∀t,F2.getD t .junk=if t=dw then lvW else F1.getD t .junk:=λt=>by rw [<-hF2,aE9 (F:=F1) (d:=dw) (by rw [k1];exact hdwlt)]
 have hF2l:M F2=M F:=by rw [<-hF2];simp [k1]
 have hCnd:C.Pairwise (λi j=>i<j):=by
  rw [<-hC];unfold Rb;exact (List.pairwise_lt_range).filter _
 obtain ⟨c1,c2,c3⟩:=ql C F2 F3 (hCnd.imp_of_mem λ{i j} hi hj hlt d hd=>by
   obtain ⟨q1,q2⟩:=cLay i (hCA i hi) j (hCA j hj) d hd;exact ⟨λhm=>aP7,q1.resolve_left A0⟩) (λi hi=>by
   obtain ⟨o,d,_,_,_,e1,e2⟩:=cDst i<|hCA i hi;exact ⟨d,e1,by rw [hF2l];exact e2,λhm=>((cLay i (hCA i hi) i (hCA i hi) d e1).2 hm).1 rfl⟩) h5
 have hF3l:M F3=M F:=c1.trans hF2l
 have hAC:∀i,i∈A->i∉C:=λi h1 h2=>((hAm i).1 h1).2.2 ((hCm i).1 h2).2.2.1
 have hF3A:∀t,(∀j,(j=wi\/j∈C)->Fy ops j≠ah t)->F3.getD t .junk=F1.getD t .junk:=λt ht=>by
  rw [c2 t λj hj=>ht j<|.inr hj,hF2g,AE]
  intro e;subst e;exact ht wi (.inl rfl) hdwI
 have hF3w:F3.getD dw .junk=lvW:=by
  rw [c2 dw (λj hj e=>by
   rcases (cLay j (hCA j hj) wi hwA _ hdwI).1 with q|q
   ·exact ((hCm j).1 hj).2.1 q
   ·exact q e),hF2g,AD rfl]
 let Inv:aVR->aVX->aVJ->Prop:=λl a w'=>∃Z β,RW G w0 Z0 Z β (if l.getD wi X then H1 else H) w'/\RF ds β Z w' (M (if l.getD wi X then H1 else H)) (Jj ops AW F F3 l) a
 have agree:∀(l:aVR),Closed .any ops l->∀i∈AW,i∈ay .any ops l->∀t,t∈Nq ops i->(Jj ops AW F F3 l).getD t .junk=F3.getD t .junk:=λl hcl i hi hr t ht=>by
  by_cases hlt:t<M F
  ·rw [dv hlt]
   by_cases hex:∃j,j∈AW/\Fy ops j=ah t
   ·obtain ⟨j,hj,hd⟩:=hex
    have hb:=(cLay i hi j hj t hd).2 ht
    have hl:=aDn hcl hr hb.2.2
    rw [AD<|Oq.2 ⟨j,hj,by simp [hl,hd]⟩]
   ·rw [AE,hF3A t λj hj e=>hex ⟨j,(hAWm j).2<|.inr hj,e⟩,k2 t λj hj e=>hex ⟨j,hAA j hj,e⟩]
    intro hany;obtain ⟨j,hj,e⟩:=Oq.1 hany;simp only [AX,Cz] at e;exact hex ⟨j,hj,e.2⟩
  ·rw [aJc (A:=Jj ops AW F F3 l) (t:=t) (by rw [W8];exact Nat.le_of_not_lt hlt),aJc (A:=F3) (t:=t) (by rw [hF3l];exact Nat.le_of_not_lt hlt)]
 have agreeA:∀i,(i∈A\/i=wi)->∀t,t∈Nq ops i->F3.getD t .junk=F1.getD t .junk:=λi hi t ht=>hF3A t λj hj e=>cNL i hi j hj t e ht
 have next:∀(l:aVR),l.size=ops.size->∀i∈AW,∀d,Fy ops i=ah d->d<M F->(Jj ops AW F F3 l).set d (F3.getD d .junk)=Jj ops AW F F3 (l.setIfInBounds i U):=λl hls i hi d hd hdl=>by
  have hilt:i<ops.size:=by
   obtain ⟨o,_,ho,_⟩:=cDst i hi;exact (Hp.1 ho).1
  refine qf (by simp [W8]) λt ht=>?_
  have ht':t<M F:=yi
  rw [aE9 (F:=Jj ops AW F F3 l) (d:=d) (by rw [W8];exact hdl),dv (l:=l.setIfInBounds i U) ht']
  by_cases e:t=d
  ·subst e
   rw [AD rfl,AD<|Oq.2 ⟨i,hi,by simp [hd,hls,hilt]⟩]
  ·rw [AE e,dv ht']
   congr 1
   refine B2 (λb=>b=U) ?_
   rw [Iw,Oq,Oq];refine exists_congr λj=>and_congr_right λhj=>?_
   by_cases hji:i=j
   ·subst hji;simp [hd,Ou e]
   ·rw [Zx X hji]
 have hH1:∀l:aVR,l.size=ops.size->(l.setIfInBounds wi U).getD wi X=true:=λl hl=>by simp [hl,hwlt]
 have step:∀(l:aVR) (a':aVX) (w':aVJ),l.size=ops.size->Closed .any ops l->Inv l a' w'->∀i∈AW,i∈ay .any ops l->wpOpIn (Dg r) m P ops Q i (λa2 w2=>Inv (l.setIfInBounds i U) a2 w2) a' w':=λl a' w' hls hcl hI i hi hr=>by
  obtain ⟨Z1,β1,i1,i2⟩:=hI;obtain ⟨o,d,ho,hg,hd,hdI,hdl⟩:=cDst i hi;unfold wpOpIn
  have hw:az o (yielded ops a'.tmps)=true:=bH
  simp only [ho,hw,Bp]
  have hlk:∀t,t∈o.looksAt ops->(Jj ops AW F F3 l).getD t .junk=F3.getD t .junk:=λt ht=>agree l hcl i hi hr t nH
  have hnl:l.getD i X=false:=by
   have:=(Ey.1 hr).1
   rwa [fN aPI] at this
  have fin:i≠wi->(hwx P G Γ F3 (if l.getD wi X then H1 else H) o).all (λy=>y=F3.getD d .junk)->o.wpIn (Dg r) m P a' w' (λa2 w2=>Inv (l.setIfInBounds i U) a2 w2) Q:=λhne hv=>by
   have hv2:=atm (by rw [aE7 (ops:=ops) hlk];exact hv)
   have hsame:(l.setIfInBounds i U).getD wi X=l.getD wi false:=Zx X hne
   refine WD (KP (λv w2 ⟨Z',β',e1,e2,e3,e4,_⟩=>⟨Z',β',?_,?_⟩)<|cy hΓ i1 i2 hv2) r m
   ·rw [hsame];exact e1
   ·rw [hsame,<-next l hls i hi d hdI hdl]
    have:=e2.put e3 e4 o.dst
    rw [hd] at this|-;exact this
  rcases (hAWm i).1 hi with hiA|rfl|hiC
  ·have hne:i≠wi:=((hAm i).1 hiA).2.1
   refine fin hne ?_
   have hF3d:F3.getD d .junk=F1.getD d .junk:=hF3A d (λj hj e=>by
    rcases (cLay i hi j ((hAWm j).2<|.inr hj) _ e).1 with q|q
    ·rcases hj with rfl|hj
     ·exact hne q
     ·subst q;exact hAC i hiA hj
    ·exact q hdI)
   have hag:∀t,t∈o.looksAt ops->F3.getD t .junk=F1.getD t .junk:=λt ht=>agreeA i (.inl hiA) t nH
   rw [hF3d,aE7 (ops:=ops) hag]
   by_cases hl:l.getD wi X=U
   ·rw [AD hl]
    cases hop:o.op with
    | load t x=>
     refine aEC _ (T.Bb (λ_ _=>trivial) h3) i ?_ o d t x ho hd hop
     rw [Cg];refine ⟨hiA,?_⟩;rw [DB];cases hct:(Gw ops wi).contains i with
     |false=>rfl
     |true=>
      have:=ae7 hcl hl hwlt<|by simpa using hct
      rw [hnl] at this;cases this
    |_=>
     have:=k3 i hiA o d ho hd
     unfold hwx at this|-;simp only [hop] at this|-;exact this
   ·rw [AE hl];exact k3 i hiA o d ho hd
  ·obtain rfl:=ED (how.symm.trans ho)
   obtain rfl:=ED<|hdwI.symm.trans hdI;simp only [hnl,IN,FP] at i1 i2
   have hag:∀t,t∈ow.looksAt ops->F3.getD t .junk=F1.getD t .junk:=λt ht=>agreeA i (.inr rfl) t nH
   have hv:(KC P G Γ K (Jj ops AW F F3 l) H ow).all (λq=>q=(lvW,H1)):=by
    rw [aF2 (ops:=ops) hcW hgW hlk,aF2 (ops:=ops) hcW hgW hag];exact h2
   refine WD (KP (λv w2 ⟨Z',β',e1,e2,e3,e4⟩=>⟨Z',β',?_,?_⟩)<|aE3 hΓ hK i1 i2 hv) r m
   ·rw [AD<|hH1 l hls];exact e1
   ·rw [AD<|hH1 l hls,<-next l hls i hi dw hdI hdl,hF3w]
    have:=e2.put e3 e4 ow.dst
    rw [hd] at this|-;exact this
  ·have hne:i≠wi:=((hCm i).1 hiC).2.1
   refine fin hne ?_
   have hl:l.getD wi X=true:=aDn hcl hr ((hCm i).1 hiC).2.2.1
   rw [AD hl];exact c3 i hiC o d ho hd
 have behind:∀(a':aVX) (w':aVJ),Inv (KX ops wi) a' w'->wpAnyIn (Dg r) m P .any ops Q (M<|Jy ops wi) (KX ops wi) a' w':=λa' w' hI=>by
  rw [<-hbl];obtain ⟨Z1,β1,i1,i2⟩:=hI
  have hl:∀i,i<ops.size->(KX ops wi).getD i X=an (i∈AW):=λi hi=>by
   unfold KX;rw [hPW]
   simp [hi]
  rw [hl wi hwlt,CY hwA] at i1 i2;simp only [Bp] at i1 i2
  have hFS:Jj ops AW F F3 (KX ops wi)=F3:=by
   refine qf (by rw [W8,hF3l]) λt ht=>?_
   have ht':t<M F:=yi
   rw [dv ht'];split
   ·rfl
   ·rename_i hn
    have hno:∀j,j∈AW->Fy ops j≠ah t:=λj hj e=>by
     obtain ⟨o,_,ho,_⟩:=cDst j hj;refine hn<|Oq.2 ⟨j,hj,?_⟩;rw [hl j (Hp.1 ho).1,CY hj]
     simp [e]
    rw [hF3A t λj hj=>hno j<|(hAWm j).2<|.inr hj,k2 t λj hj=>hno j<|hAA j hj]
  rw [hFS] at i2;refine pK (D:=λ_=>True) (C:=Cn ds G w0 Z0 [] β1 H1 w') (sp:=λ_=>U) (Q:=λa' g'=>∀w'',Cn ds G w0 Z0 [] β1 H1 w' g' w''->Q .normal a' w'') (λ_ _ _=>trivial) (λg w1 w2 hc hb=>hc.keep hb) (λa g w hc hq=>hq w hc) r m _ _ a' ⟨Z1,β1,H1,F3,a'⟩ w' ⟨i1,i2,DX.refl _ _,Aq _,λ_ _=>rfl,λk k1 k2=>absurd k2<|Vc.2 k1,EvL.refl _⟩ ?_
  exact aDk hΓ (λg e1 e2 w'' hc=>hQ g.Z g.β g.a w'' aY bE) _ (JO ops wi) _ ⟨Z1,β1,H1,F3,a'⟩ (λ_ _=>rfl) hord h4
 have main:∀(k:aVx) (l:aVR) (a':aVX) (w':aVJ),l.size=ops.size->Closed .any ops l->(∀i,l.getD i X=U->i∈AW)->M ((AW).filter λi=>!l.getD i X)=k->Inv l a' w'->wpAnyIn (Dg r) m P .any ops Q (k+M (Jy ops wi)) l a' w':=λk=>by
  induction k with
  | zero=>
   intro l a' w' hls hcl hon hk hI
   have hall:∀i∈AW,l.getD i X=true:=λi hi=>by
    cases hb:l.getD i X with
    |true=>rfl
    |false=>
     have:i∈(AW).filter λi=>!l.getD i false:=Cg.2 ⟨hi,by simp [hb]⟩
     rw [MV.1 hk] at this;cases this
   have he:l=KX ops wi:=by
    apply Array.ext<|by simp [KX,hls]
    intro i g1 g2
    have hi:i<ops.size:=by rw [<-hls];exact g1
    have e1:l.getD i X=l[i]:=by simp [g1]
    have e2:(KX ops wi)[i]=an (i∈AW):=by
     unfold KX;simp [hPW]
    rw [e2,<-e1];cases hb:l.getD i X with
    |true=>rw [CY<|hon i hb]
    |false=>rw [IM λhm=>by rw [hall i hm] at hb;cases hb]
   rw [Eh,he];exact behind a' w' (he▸hI)
  | succ k ih=>
   intro l a' w' hls hcl hon hk hI
   obtain ⟨i0,hi0⟩:∃i,i∈(AW).filter λi=>!l.getD i false:=by
    cases hL:(AW).filter λi=>!l.getD i X with
    |nil=>rw [hL] at hk;simp at hk
    |cons x xs=>exact ⟨x,AI⟩
   have hrn:ay .any ops l≠ []:=by
    have:∀n i,i<n->i∈AW->l.getD i X=X->ay .any ops l≠ []:=λn=>by
     induction n with
     |zero=>intro i hi;omega
     | succ n ihn=>
      intro i hin hi hb;obtain ⟨o,d,ho,_⟩:=cDst i hi
      by_cases hp:∃p∈Of ops i,l.getD p X=X
      ·obtain ⟨p,hp,hpb⟩:=hp
       obtain ⟨q1,q2⟩:=cOns i hi p hp;exact ihn p A0 q2 hpb
      ·have:i∈ay .any ops l:=Ey.2 ⟨by rw [fN aPI];exact hb,o,ho,λe he hbd=>by
        cases hx:l.getD e.on X with
        |true=>rfl
        |false=>exact absurd ⟨e.on,by unfold Of;rw [ho];exact F4.2 ⟨e,Cg.2 ⟨bM,hbd⟩,rfl⟩,hx⟩ hp⟩
       intro e;rw [e] at this;cases this
    obtain ⟨m1,m2⟩:=Cg.1 hi0;exact this (i0+1) i0 A0 m1<|by simpa using m2
   rw [show k+1+M (Jy ops wi)=(k+M (Jy ops wi))+1 by omega]
   refine ⟨λh0=>absurd h0 hrn,λi hi=>?_⟩
   have hiAW:i∈AW:=by
    by_cases hm:i∈AW
    ·exact hm
    ·exfalso
     have hiB:i∈Jy ops wi:=by
      unfold Jy
      have hlt:=Qi hi
      rw [hAWm] at hm;simp only [not_or,hAm,hCm] at hm;simp only [Cg,Iu,AX,DB,CT,Zv]
      by_cases hb:wi∈Gw ops i
      ·cases ha:allA ops wi i with
       |true=>exact ⟨hlt,hm.2.1,hb,rfl⟩
       |false=>exact absurd ⟨hlt,hm.2.1,hb,ha⟩ hm.2.2
      ·exact absurd ⟨hlt,hm.2.1,hb⟩ hm.1
     obtain ⟨m1,m2⟩:=Cg.1 hi0
     have hb:=hB i hiB i0 m1
     have:=aDn hcl hi<|by simpa using hb
     simp [this] at m2
   refine wpOpIn_mono (λa2 w2 hI2=>?_)<|step l a' w' hls hcl hI i hiAW hi
   refine ih _ a2 w2 (by simpa using hls) (hcl.put hi) (λj hj=>?_) ?_ hI2
   ·by_cases e:i=j
    ·exact e▸hiAW
    ·rw [Zx X e] at hj;exact hon j hj
   ·have hnd:(AW).Nodup:=by
     rw [<-hAWd,xb];refine ⟨hAnd.imp λh=>Vf h,?_,λx hx y hy e=>?_⟩
     ·rw [xn,MX]
      exact ⟨λhm=>((hCm _).1 hm).2.1 rfl,hCnd.imp λh=>Vf h⟩
     ·subst e
      rw [xn,BB] at hy;rcases hy with rfl|hy
      ·exact ((hAm _).1 hx).2.1 rfl
      ·exact hAC _ hx hy
    have hil:l.getD i X=false:=by
     have:=(Ey.1 hi).1
     rwa [fN (by rw [hls];exact Qi hi)] at this
    have hlt:i<l.size:=by rw [hls];exact Qi hi
    have e:((AW).filter λj=>!(l.setIfInBounds i U).getD j X)=((AW).filter λj=>!l.getD j X).erase i:=by
     rw [List.Nodup.erase_eq_filter<|hnd.filter _,List.filter_filter];refine xc λj _=>?_
     by_cases e:i=j
     ·subst e;simp [hlt]
     ·rw [Zx X e]
      simp [Ou e]
    rw [e,List.length_erase_of_mem<|Cg.2 ⟨hiAW,by simp [hil]⟩,hk]
    rfl
 have hcount:ops.size=M ((AW).filter λi=>!(Array.replicate ops.size X).getD i X)+M (Jy ops wi):=by
  rw [List.filter_eq_self.2 λi hi=>by
   have:i<ops.size:=by
    obtain ⟨o,_,ho,_⟩:=cDst i hi;exact (Hp.1 ho).1
   simp [this]]
  have hlen:=aeM ops.size (λi=>i==wi) (λi=>(Gw ops i).contains wi) ⟨wi,hwlt,AI,λj _ hj=>nN⟩
  have hsp:=adz (au ops.size) (λi=>!(i==wi)&&(Gw ops i).contains wi) λi=>allA ops wi i
  have eC:M C=M ((au ops.size).filter λi=>(!(i==wi)&&(Gw ops i).contains wi)&&!allA ops wi i):=by
   rw [<-hC];unfold Rb
   congr 1
   exact xc λi _=>by rw [VY]
  have eB:M (Jy ops wi)=M ((au ops.size).filter λi=>(!(i==wi)&&(Gw ops i).contains wi)&&allA ops wi i):=by
   unfold Jy
   congr 1
   exact xc λi _=>by rw [VY]
  have eA:M A=M ((au ops.size).filter λi=>!(i==wi)&&!(Gw ops i).contains wi):=by rw [<-hA];rfl
  rw [<-hAWd,BI,BI,List.length_singleton,eA,eC,eB];omega
 have hbd:Below w.heap.size w {w with drawn:=w.drawn+1}:=⟨rfl,rfl,rfl,Aq _,λ_ _=>rfl⟩
 rw [show wpAnyIn (Dg r) m P .any ops Q ops.size (Array.replicate ops.size X) a {w with drawn:=w.drawn+1}=wpAnyIn (Dg r) m P .any ops Q (M ((AW).filter λi=>!(Array.replicate ops.size X).getD i X)+M (Jy ops wi)) (Array.replicate ops.size X) a {w with drawn:=w.drawn+1} from congrFun (congrFun (congrFun (B2 _ hcount) _) _) _]
 refine main _ (Array.replicate ops.size X) a _ AI (λi o ho hL=>?_) (λi hi=>?_) rfl ?_
 ·have:=(Hp.1 ho).1
  simp [this] at hL
 ·exfalso
  rcases QO i ops.size with h|h<;>simp [h] at hi
 ·have hFS:Jj ops AW F F3 (Array.replicate ops.size X)=F:=by
   refine qf W8 λt ht=>?_
   rw [dv yi,AE];intro hany;obtain ⟨j,_,e⟩:=Oq.1 hany;rcases QO j ops.size with h|h<;>simp [h] at e
  have hz:(Array.replicate ops.size X).getD wi X=false:=by simp [hwlt]
  refine ⟨Z,β,?_,?_⟩
  ·rw [hz];exact hW0.same hbd
  ·rw [hz,hFS];exact hF0.mono (Aq _) (λ_ _=>rfl) (λ_ h=>h) λ_ _=>rfl
def aeL (hΓ:∀g S,Γ g=ah S->Valid P G g S) (hK:FU P G K) {id:aVx}{ops:aVE}{Q:aWp->aVX->aVJ->Prop}{F':aVy}{H':aVB}(hQ:∀Z' β' a' w',RW G w0 Z0 Z' β' H' w'->RF ds β' Z' w' (M H') F' a'->Q .normal a' w')
  (hW0:RW G w0 Z0 Z β H w) (hF0:RF ds β Z w (M H) F a) (h:(aBX P G Γ K ops F H).all λq=>q=(F',H')) (r:aVZ) (m:aVx):(Code.region id ops U).wpIn (Dg r) m P Q a w:=by
 unfold aBX at h;split at h
 ·exact adX hΓ hK hQ hW0 hF0 h r m
 ·split at h
  ·rename_i wi hwi
   have:=afq hΓ hK hQ hwi hW0 hF0 h r m
   exact wpIn_region_any this.1 this.2
  ·exact adX hΓ hK hQ hW0 hF0 h r m
end Go.Sx
namespace Go.Sx
open Go Go.RowKit Go.Proofs.YtjdlmobanmhohaaGreatDoor
variable {P : Program} {G : B3} {Γ : Specs} {K : Hand} {A : Gz -> Prop} {β : Nat -> Loc} {Z : Nat -> Prop} {Z0 : Gz} {w w0 : World} {F : List LV} {H : List AB} {a : Act} {ds : List Deferred} {n : Nat}
def we:Ex->Exit
 | .normal=> .normal
 | .exit n=> .exit n
 | .ret=> .ret
structure ME (w0:aVJ) (Z0:Gz) (ds:aWd):Prop where
 new:∀D,Gs D∈ds->w0.heap.size<=D/\D∉Z0.Cv
 nodup:ds.Nodup
def ME.nil {w0:aVJ}{Z0:Gz}:ME w0 Z0 []:=⟨λ_ h=>Ar,List.nodup_nil⟩
def Gr (P:aVM) (G:B3) (A:Gz->Prop) (c:aV7) (t:aVy->aVB->T (Ex×List LV×List AB)):Prop:=
 ∀(r:aVZ) (w0:aVJ) (Z0:Gz) (Z:aVx->Prop) (β:aVx->aWe) (F:aVy) (H:aVB) (a:aVX) (w:aVJ) (ds:aWd) (Q:aWp->aVX->aVJ->Prop) (x:Ex) (F':aVy) (H':aVB),
  A Z0->(r=aj\/I6 c=U)->ME w0 Z0 ds->RW G w0 Z0 Z β H w->RF ds β Z w (M H) F a->(t F H).all (λq=>q=(x,F',H'))->(∀ds' Z' β' a' w',ME w0 Z0 ds'->RW G w0 Z0 Z' β' H' w'->RF ds' β' Z' w' (M H') F' a'->Q (we x) a' w')->c.wpIn (Dg r) 0 P Q a w
def AN (N:aVx):Gz->Prop:=λz=>∀p,p∈z.gh->okV N p.1
abbrev Sound (P:aVM) (G:B3):=Gr P G<|AN 0
def BE:aV7->List Code
 | .seq a b=>BE a++BE b
 | .cond _ a b=>BE a++BE b
 | .block _ b=>BE b
 | .loop b=>[b]
 | .scope b=>BE b
 |_=>[]
def J5:aV7->List (Array Tmp×Code×Code)
 | .seq a b=>J5 a++J5 b
 | .cond _ a b=>J5 a++J5 b
 | .block _ b=>J5 b
 | .loop b=>J5 b
 | .rangeFunc _ ps a b=>[(ps,a,b)]
 | .scope b=>J5 b
 |_=>[]
def ox {w:aVJ}{D:aVx}(h:Fw w D) (o':Obj) {b o:aVx}{z:aVQ}(hz:w.cell? ⟨b,o,aj⟩=ah z):(w.putObj D o').cell? ⟨b,o,aj⟩=ah z:=by
 have hne:b≠D:=by
  rintro rfl
  unfold Fw at h
  simp [World.cell?,h] at hz
 rwa [Qd<|MW hne]
def RD.shut {D:aVx}(h:Fw w D) (o':Obj):∀(t:Ty) (d:t.D) (b o:aVx),RD Z w t d b o->RD Z (w.putObj D o') t d b o
 | .int _,_,b,o,hh=>yb
 | .bool,_,b,o,hh=>yb
 | .str,_,b,o,hh=>yb
 | .sl e,l,b,o,hh=>by
  obtain ⟨a,cap,h1,h2,h3⟩:=hh;refine ⟨a,cap,ox h o' h1,h2,λhn=>?_⟩
  obtain ⟨b',o'',h4,h5,h6⟩:=h3 hn;exact ⟨b',o'',h4,h5,λi d hd=>RD.shut h o' e d b' _<|h6 i d hd⟩
 | .pair x y,d,b,o,hh=>by
  exact ⟨RD.shut h o' x d.1 b o hh.1,RD.shut h o' y d.2 b _ hh.2⟩
def WK {w:aVJ}{D:aVx}(h:Fw w D) (o':Obj) {b:aVx}{x:Obj}(hx:w.heap[b]? =ah x) (hn:∀q,x≠ .deferred q):(w.putObj D o').heap[b]? =ah x:=by
 have hne:b≠D:=by
  rintro rfl
  rw [h] at hx
  grind
 rwa [MW hne]
mutual
def R.shut {D:aVx}(h:Fw w D) (o':Obj):∀(x:LV) (y:aVQ),R β Z w x y->R β Z (w.putObj D o') x y
 | .v _,_,hh=>hh
 | .bl _,_,hh=>hh
 | .ki _ _,_,hh=>hh
 | .own k off,y,hh=>Vr
 | .agg l,y,hh=>by
  exact mQ
 | .AO l,y,hh=>by
  exact mQ
 | .fn f l,y,hh=>by
  exact mQ
 | .fb f l,y,hh=>by
  exact mQ
 | .xq n f,y,hh=>by
  simp only [R] at*;obtain ⟨b,off,h1,hz,h2⟩:=hh;refine ⟨b,off,h1,hz,λj hj=>?_⟩
  obtain ⟨z,h3,h4⟩:=h2 j hj;exact ⟨z,ox h o' h3,R.shut h o' (f j) z h4⟩
 | .xl e l,y,hh=>by
  simp only [R] at*;obtain ⟨a,cap,h1,h2,h3⟩:=hh;refine ⟨a,cap,h1,h2,λhn=>?_⟩
  obtain ⟨b,off,h4,h5,h6⟩:=h3 hn;exact ⟨b,off,h4,h5,λi d hd=>RD.shut h o' e d b _ (h6 i d hd)⟩
 | .os k es off n,y,hh=>Vr
 | .op k es i j,y,hh=>Vr
 | .om k,y,hh=>Vr
 | .mp kd ks vs,y,hh=>by
  simp only [R] at*;obtain ⟨r,es,clock,h1,h2,h3,h4,h5⟩:=hh;exact ⟨r,es,clock,h1,h2,WK h o' h3 (λ_ e=>Oy),h4,RL.shut h o' vs _ h5⟩
 | .oc k es off n c,y,hh=>Vr
 | .CS k,y,hh=>Vr
 | .junk,_,_=>Jm
def RL.shut {D:aVx}(h:Fw w D) (o':Obj):∀(x:aVy) (y:aVO),RL β Z w x y->RL β Z (w.putObj D o') x y
 | [],_,hh=>by simpa only [RL] using hh
 |x::xs,ys,hh=>by
  simp only [RL] at*;obtain ⟨y,zs,h1,h2,h3⟩:=hh;exact ⟨y,zs,h1,R.shut h o' x y h2,RL.shut h o' xs zs h3⟩
end
def Bc.shut {D:aVx}(h:Fw w D) (o':Obj) {k:aVx}{b:AB}(hh:Bc β Z w k b):Bc β Z (w.putObj D o') k b:=by
 unfold Bc at*;cases hk:b.k with
 |cl=>
  simp only [hk] at hh|-;obtain ⟨cs,h1,h2⟩:=hh;exact ⟨cs,WK h o' h1 λ_ e=>Oy,RL.shut h o' _ _ h2⟩
 | vec e l=>
  simp only [hk] at hh|-;cases hc:(β k).cap with
  |none=>simp only [hc] at hh|-;exact hh
  |some c=>
   simp only [hc] at hh|-;obtain ⟨cs,h1,h2,h3,h4⟩:=hh;exact ⟨cs,WK h o' h1 λ_ e=>Oy,h2,h3,λi d hd=>RD.shut h o' e d _ _<|h4 i d hd⟩
 |mp kd ks vs=>
  simp only [hk] at hh|-;obtain ⟨es,clock,h1,h2,h3⟩:=hh;exact ⟨es,clock,WK h o' h1 λ_ e=>Oy,h2,RL.shut h o' _ _ h3⟩
 |Cr ps asg body st=>
  simp only [hk] at hh|-;obtain ⟨r,h1,h2,h3,h4,h5,h6⟩:=hh;exact ⟨r,WK h o' h1 λ_ e=>Oy,h2,h3,h4,h5,RL.shut h o' _ _ h6⟩
 |st e l=>
  simp only [hk] at hh|-;obtain ⟨es,clock,h1,h2,h3⟩:=hh;exact ⟨es,clock,WK h o' h1 λ_ e=>Oy,h2,h3⟩
 |dead=>trivial
def putObj_size (w:aVJ) (D:aVx) (o:Obj):(w.putObj D o).heap.size=w.heap.size:=AI
def Fw.lt {w:aVJ}{D:aVx}(h:Fw w D):D<w.heap.size:=(Hp.1 h).1
def RW.shut (hW:RW G w0 Z0 Z β H w) {D:aVx}(h:Fw w D) (h0:w0.heap.size<=D) (hm:D∉Z0.Cv) (o':Obj):RW G w0 Z0 Z β H (w.putObj D o'):=
 ⟨hW.below.trans ⟨rfl,rfl,rfl,mD (putObj_size _ _ _).symm,λi hi=>MW A0⟩,λb hz=>by rw [putObj_size];exact hW.Bf b hz,hW.Eo,hW.Ct,hW.GQ,hW.low,hW.inj,
  λk b hb=>⟨(hW.blk k b hb).1.shut h o',(hW.blk k b hb).2⟩,λg n f hg=>⟨(hW.Cl g n f hg).1,λj hj=>ox h o'<|(hW.Cl g n f hg).2 j hj⟩,
  λp hp=>⟨R.shut h o' _ _ (hW.gh p hp).1,(hW.gh p hp).2⟩,λD' hD'=>⟨(hW.Cv D' hD').1,by
   unfold Fw;rw [MW λe=>hm A8]
   exact (hW.Cv D' hD').2⟩⟩
def aDj {fn:aWi}{R:Ending->aVJ->Prop}:∀(ds:aWd) (w:aVJ) (a:aVX),RW G w0 Z0 Z β H w->RF ds β Z w n F a->ME w0 Z0 ds->
  (∀w' a',a'.tmps=a.tmps->RW G w0 Z0 Z β H w'->RF [] β Z w' n F a'->∃v,(results fn a.tmps).run P w'=.ok v w'/\R (.returned v) w')->LeavesInM Fence.wide 0 P fn a.tmps R ds .returning w
 | [],w,a,hW,hF,_,hR=>hR w {a with defers:=[]} rfl hW ⟨hF.size,hF.get,rfl,λ_ h=>Ar⟩
 |d::ds,w,a,hW,hF,hD,hR=>by
  obtain ⟨D,rfl,hz,hm⟩:=hF.defers.2 d AI;obtain ⟨n1,n2⟩:=hD.new D AI
  have nd:=MX.1 hD.nodup
  refine ⟨AI,.inl ⟨D,w.putObj D<|.deferred aj,rfl,run_takeDeferred hm,?_⟩⟩;refine aDj ds (w.putObj D<|.deferred aj) {a with defers:=ds} (hW.shut hm n1 n2 _) ⟨hF.size,λt x hx=>⟨Go.Sx.R.shut hm _ _ _ (hF.get t x hx).1,(hF.get t x hx).2⟩,rfl,λd hd=>?_⟩ ⟨λD' h'=>hD.new D' A8,nd.2⟩ λw' a' e=>hR w' a' e
  obtain ⟨D',e1,e2,e3⟩:=hF.defers.2 d A8;refine ⟨D',e1,e2,?_⟩;unfold Fw
  rwa [MW λe=>nd.1 A8]
def RF.RL (hF:RF ds β Z w n F a):RL β Z w F a.tmps.toList/\AT n F:=by
 refine ⟨RL.CZ (by simp [hF.size]) λi x hx=>?_,AT.CZ λi x hx=>(hF.get i x hx).2⟩
 have hi:i<a.tmps.size:=by rw [hF.size];exact (EC.1 hx).1
 have:=(hF.get i x hx).1
 refine ⟨a.tmps[i],AI,?_⟩
 have e:a.tmps.getD i undef=a.tmps[i]:=GH
 rw [e] at this;exact this
def aof (us:aVC) {ys:aVO}(h:RL β Z w F ys) (hk:AT n F):RL β Z w (Pg us F) ys/\AT n (Pg us F):=by
 have hl:=RL.length h
 have at_:∀(i:aVx) (x:LV),(Pg us F)[i]? =ah x->i<M F/\(x=.junk\/F[i]? =ah x):=λi x hx=>by
  simp only [Pg,Dj] at hx
  by_cases hi:i<M F
  ·simp only [xu hi,Jk,Ah] at hx
   refine ⟨hi,?_⟩;split at hx
   ·right
    grind
   ·grind
  ·rw [Sw A8] at hx
   cases hx
 refine ⟨RL.CZ (by simp [Pg,hl]) λi x hx=>?_,AT.CZ λi x hx=>?_⟩
 ·obtain ⟨hi,h1⟩:=at_ i x hx
  rcases h1 with rfl|h1
  ·exact ⟨ys[i]' A0,Dh _,Jm⟩
  ·exact RL.get i x h h1
 ·obtain ⟨hi,h1⟩:=at_ i x hx
  rcases h1 with rfl|h1
  ·trivial
  ·exact AT.get i x hk h1
def aeC {o:aWr}{x:Ex}(h:vp o=ah x):∃c t ps asg body,(o=ah ⟨c,t,.Cr ps asg body .ready,X⟩/\x=.normal)\/(o=ah ⟨c,t,.Cr ps asg body<|.done x,X⟩/\x≠ .normal):=by
 unfold vp at h;split at h
 ·rename_i c t ps asg body
  grind
 ·rename_i c t ps asg body y
  split at h
  ·cases h
  ·rename_i hn
   have:=ED h
   subst this
   grind
 ·cases h
def RW.turn {k:aVx}{c:aVy}{t t':aVN}{ps:aWt}{asg body:aV7}{st:LS}{nb:BK}{r':Loop}(hW:RW G w0 Z0 Z β H w) (hb:H[k]? =ah ⟨c,t,.Cr ps asg body st,X⟩)
  (hn:Bc β Z (w.putObj (β k).b<|.loop r') k ⟨c,t',nb,X⟩) (hok:okB (M H) ⟨c,t',nb,X⟩):RW G w0 Z0 Z β (H.set k ⟨c,t',nb,X⟩) (w.putObj (β k).b<|.loop r')/\(∀b,Z b->(w.putObj (β k).b<|.loop r').heap[b]? =w.heap[b]?):=
 ⟨hW.set hb trivial rfl rfl hok (putObj_size _ _ _) ⟨rfl,rfl,rfl⟩ (λj hj=>MW hj) hn,λb hz=>MW λe=>hW.Ct k _ hb trivial rfl (e▸hz)⟩
def sS {r:aVZ}{p q:aVH}(h:r=aj\/(p&&q)=U):(r=aj\/p=U)/\(r=aj\/q=U):=by
 rcases h with h|h
 ·grind
 ·simp only [AX] at h
  grind
def WB {b:Frame}{k:List Item}{cs:List Frame}{c:aV7}:step P (lone (b.atR a (.code (.scope c)::k)) cs w)=.next (lone (b.atR a (.code c::.inScope c::k)) cs w):=
 step_lone_go aOV
def ado {b:Frame}{k:List Item}{cs:List Frame}{c:aV7}:step P (lone (b.atR a (.inScope c::k)) cs w)=.next (lone (b.atR a k) cs w):=
 step_lone_go aOV
def aeQ {E:Fence}{m:aVx}{Q:aWp->aVX->aVJ->Prop}{c:aV7}(h:c.wpIn E m P (Exit.noGoto Q) a w):(Code.scope c).wpIn E m P Q a w:=by
 intro b k cs hro hb hr
 have h0:(lone (b.atR a (.code (.scope c)::k)) cs w).fenced P E:=fenced_calm hb hr rfl
 obtain ⟨e,a₁,w₁,hq,harr⟩:=h b (.inScope c::k) cs hro hb hr;cases e with
 |normal=>exact ⟨.normal,a₁,w₁,hq,.head h0 WB<|StepsIn.trans harr<|.one (fenced_calm hb hr rfl) ado⟩
 | exit id'=>
  have hx:exitTo id' (.inScope c::k)=exitTo id' k:=by simp [exitTo]
  exact ⟨.exit id',a₁,w₁,hq,λk' hk=> .head h0 WB<|harr.1 k' A8,
   λhr' hk=>let ⟨k₁,h1,h2⟩:=harr.2 hr' A8;⟨k₁,h1,.head h0 WB h2⟩⟩
 |goto l=>exact hq.elim
 |ret=>exact ⟨_,a₁,w₁,hq,.of_steps (.one h0 WB) harr⟩
 |panic ch=>exact ⟨_,a₁,w₁,hq,.of_steps (.one h0 WB) harr⟩
 |outgrown=>exact ⟨_,a₁,w₁,hq,.of_steps (.one h0 WB) harr⟩
def Gl {L:RK} (hΓ:∀g S,Γ g=ah S->Valid P G g S) (hK:FU P G K):∀(c:aV7),(∀b∈BE c,Gr P G A (.loop b)<|L b)->Gr P G A c (DP P G Γ K L c)
 | .skip,_=>λr w0 Z0 Z β F H a w ds Q x F' H' hA hr hD hW hF h hQ=>by
  simp only [DP,T.all,Az] at h;obtain ⟨rfl,rfl,rfl⟩:=h;exact wpIn_skip (hQ ds Z β a w hD hW hF)
 | .ret,_=>λr w0 Z0 Z β F H a w ds Q x F' H' hA hr hD hW hF h hQ=>by
  simp only [DP,T.all,Az] at h;obtain ⟨rfl,rfl,rfl⟩:=h;exact wpIn_ret (hQ ds Z β a w hD hW hF)
 | .exit m,_=>λr w0 Z0 Z β F H a w ds Q x F' H' hA hr hD hW hF h hQ=>by
  simp only [DP,T.all,Az] at h;obtain ⟨rfl,rfl,rfl⟩:=h;exact wpIn_exit (hQ ds Z β a w hD hW hF)
 | .region id ops d,_=>λr w0 Z0 Z β F H a w ds Q x F' H' hA hr hD hW hF h hQ=>by
  simp only [DP] at h;obtain ⟨⟨F1,H1⟩,h1,h2⟩:=T.B5 h;simp only [T.all,Az] at h2;obtain ⟨rfl,rfl,rfl⟩:=h2;cases d with
  |true=>exact aeL hΓ hK (λZ' β' a' w' e1 e2=>hQ ds Z' β' a' w' hD e1 e2) hW hF h1 r 0
  |false=>exact afY hΓ hK (λZ' β' a' w' e1 e2=>hQ ds Z' β' a' w' hD e1 e2) hW hF h1 r 0
 | .seq c1 c2,hl=>λr w0 Z0 Z β F H a w ds Q x F' H' hA hr hD hW hF h hQ=>by
  simp only [DP] at h;obtain ⟨⟨y,F1,H1⟩,h1,h2⟩:=T.B5 h;obtain ⟨hr1,hr2⟩:=sS (show r=aj\/(I6 c1&&I6 c2)=U from hr);refine wpIn_seq<|Gl hΓ hK c1 (λb hb=>hl b TD) r w0 Z0 Z β F H a w ds _ y F1 H1 hA hr1 hD hW hF h1 λds' Z' β' a' w' e0 e1 e2=>?_
  cases y with
  |normal=>exact Gl hΓ hK c2 (λb hb=>hl b TD) r w0 Z0 Z' β' F1 H1 a' w' ds' Q x F' H' hA hr2 e0 e1 e2 h2 hQ
  |exit m=>
   simp only [T.all,Az] at h2;obtain ⟨rfl,rfl,rfl⟩:=h2;exact hQ ds' Z' β' a' w' e0 e1 e2
  |ret=>
   simp only [T.all,Az] at h2;obtain ⟨rfl,rfl,rfl⟩:=h2;exact hQ ds' Z' β' a' w' e0 e1 e2
 | .cond c c1 c2,hl=>λr w0 Z0 Z β F H a w ds Q x F' H' hA hr hD hW hF h hQ=>by
  have s1:=Gl hΓ hK c1 λb hb=>hl b TD
  have s2:=Gl hΓ hK c2 λb hb=>hl b TD
  obtain ⟨hr1,hr2⟩:=sS (show r=aj\/(I6 c1&&I6 c2)=U from hr);simp only [DP] at h;split at h
  ·rename_i d
   split at h
   ·rename_i hb
    obtain ⟨q1,q2⟩:=hF.slot hb AI
    have hv:=(hF.get d _ q1).1
    simp only [R] at hv;exact wpIn_cond_true yX<|s1 r w0 Z0 Z β F H a w ds Q x F' H' hA hr1 hD hW hF h hQ
   ·rename_i hb
    obtain ⟨q1,q2⟩:=hF.slot hb AI
    have hv:=(hF.get d _ q1).1
    simp only [R] at hv;exact wpIn_cond_false yX<|s2 r w0 Z0 Z β F H a w ds Q x F' H' hA hr2 hD hW hF h hQ
   ·rename_i g hb
    obtain ⟨q1,q2⟩:=hF.slot hb AI
    have hv:=(hF.get d _ q1).1
    simp only [R] at hv
    have kn:∀b,g=b->RF ds β Z w H.length (F.set d<|.bl b) a:=λb e=>hF.know nC trivial
    simp only [T.all] at h;refine wpIn_cond_split (t:=g) yX (λhg=>s1 r w0 Z0 Z β _ H a w ds Q x F' H' hA hr1 hD hW (kn U hg) (h.1 hg) hQ) λhg=>s2 r w0 Z0 Z β _ H a w ds Q x F' H' hA hr2 hD hW (kn X hg) (h.2 hg) hQ
   ·cases h
  ·exact wpIn_cond_true rfl<|s1 r w0 Z0 Z β F H a w ds Q x F' H' hA hr1 hD hW hF h hQ
  ·exact wpIn_cond_false rfl<|s2 r w0 Z0 Z β F H a w ds Q x F' H' hA hr2 hD hW hF h hQ
  ·cases h
 | .block id c,hl=>λr w0 Z0 Z β F H a w ds Q x F' H' hA hr hD hW hF h hQ=>by
  simp only [DP] at h;obtain ⟨⟨y,F1,H1⟩,h1,h2⟩:=T.B5 h;refine wpIn_block<|Gl hΓ hK c (λb hb=>hl b<|by simpa [BE] using hb) r w0 Z0 Z β F H a w ds _ y F1 H1 hA hr hD hW hF h1 λds' Z' β' a' w' e0 e1 e2=>?_
  cases y with
  |normal=>
   simp only [T.all,Az] at h2;obtain ⟨rfl,rfl,rfl⟩:=h2;exact hQ ds' Z' β' a' w' e0 e1 e2
  | exit m=>
   simp only at h2;simp only [we,Exit.inBlock];split at h2
   ·rename_i hm
    simp only [T.all,Az] at h2;obtain ⟨rfl,rfl,rfl⟩:=h2;rw [AD hm];exact hQ ds' Z' β' a' w' e0 e1 e2
   ·rename_i hm
    simp only [T.all,Az] at h2;obtain ⟨rfl,rfl,rfl⟩:=h2;rw [AE hm];exact hQ ds' Z' β' a' w' e0 e1 e2
  |ret=>
   simp only [T.all,Az] at h2;obtain ⟨rfl,rfl,rfl⟩:=h2;exact hQ ds' Z' β' a' w' e0 e1 e2
 | .loop b,hl=>hl b (by simp [BE])
 | .rangeFunc g ps asg body,_=>λr w0 Z0 Z β F H a w ds Q x F' H' hA hr hD hW hF h hQ=>by
  have hr0:r=none:=by
   rcases hr with h|h
   ·exact h
   ·simp [I6] at h
  subst hr0;simp only [DP] at h;split at h
  ·rename_i gf cap hg
   split at h
   ·rename_i fn hfn
    split at h
    ·rename_i hb
     simp only [AX,DB] at hb;obtain ⟨⟨lv,H1⟩,h1,h2⟩:=T.B5 h;simp only at h2
     have hgr:=hF.eval hW.Cl g
     rw [hg] at hgr;simp only [R,okV] at hgr;obtain ⟨⟨ys,hy,hyr⟩,hcap⟩:=hgr;split at h2
     ·rename_i x' hx'
      simp only [T.all,Az] at h2;obtain ⟨rfl,rfl,rfl⟩:=h2;refine wpIn_rangeFunc ?_;intro fn0 _
      have hb1:Below w.heap.size w (w.alloc<|.deferred<|ah []):=(Below.refl _ _).alloc (Aq _) _
      have hWd:=hW.call hb1
      generalize hrec:({state:=.ready,pending:=aj,fn:=fn0,tmps:=a.tmps,params:=ps,assign:=asg,body:=body,defers:=w.heap.size}:Loop)=rec0 at*;generalize hwd:w.alloc (.deferred<|ah [])=wd at*
      have hsd:wd.heap.size=w.heap.size+1:=by rw [<-hwd];simp [World.size_alloc]
      have hmd:Fw wd w.heap.size:=by rw [<-hwd];exact World.alloc_heap_new w _
      have hb2:Below wd.heap.size wd (wd.alloc<|.loop rec0):=(Below.refl _ _).alloc (Aq _) _
      have hW1:=hWd.same hb2
      generalize hw1:wd.alloc (.loop rec0)=w1 at*
      have hl1:w1.heap[wd.heap.size]? =ah (.loop rec0):=by rw [<-hw1];exact World.alloc_heap_new wd _
      have hF1:RF ds β (λb=>Z b\/(w.heap.size<=b/\b<wd.heap.size)) w1 H.length F a:=hF.mono (Aq _) (λ_ _=>rfl) (λ_ h=> .inl h) (λb hz=>by
       have hlt:=hW.Bf b hz
       rw [EE hb2 A0,EE hb1 hlt])
      have hm1:Fw w1 w.heap.size:=by unfold Fw;rw [EE hb2 A0];exact hmd
      have hF2:RF (Gs w.heap.size::ds) β (λb=>Z b\/(w.heap.size<=b/\b<wd.heap.size)) w1 H.length F {a with defers:=Gs w.heap.size::a.defers}:=by
       refine ⟨hF1.size,hF1.get,by rw [hF1.defers.1],λd hd=>?_⟩
       rcases BB.1 hd with rfl|hd
       ·exact ⟨_,rfl,.inr ⟨Aq _,A0⟩,hm1⟩
       ·exact hF1.defers.2 d hd
      have hD2:ME w0 Z0 (Gs w.heap.size::ds):=by
       refine ⟨λD hd=>?_,MX.2 ⟨λhd=>?_,hD.nodup⟩⟩
       ·rcases BB.1 hd with hd|hd
        ·simp only [Gs,Deferred.mk.injEq,Target.collected.injEq] at hd
         rw [hd.1];exact ⟨hW.below.size,λhm=>by have:=(hW.Cv _ hm).2.lt;omega⟩
        ·exact hD.new D hd
       ·obtain ⟨D,e1,_,e3⟩:=hF.defers.2 _ hd
        simp only [Gs,Deferred.mk.injEq,Target.collected.injEq] at e1
        have:=e3.lt
        omega
      obtain ⟨fr1,fr2⟩:=hF1.RL;obtain ⟨fr1,fr2⟩:=aof (Gx asg++Gx body) fr1 fr2
      obtain ⟨β2,b1,b2,hW2⟩:=hW1.Km (ℓ:=⟨wd.heap.size,0,aj⟩) (nb:=⟨Pg (Gx asg++Gx body) F,0,.Cr ps asg body .ready,X⟩) rfl ⟨AT.mono A0 _ fr2,ak⟩ (λ_=>⟨λhz=>by
        rcases hz with hz|hz
        ·have:=hW.Bf _ hz;simp only at this;omega
        ·simp only at hz;omega,by have:=hW.below.size;simp only;omega,λj bj hj lj e=>TC⟩) (λβ' q1 q2=>by
       simp only [Bc,q2];refine ⟨rec0,hl1,zR,zR,zR,by rw [<-hrec];exact A9,?_⟩
       rw [<-hrec];exact RL.mono q1 (λ_ h=>h) (λ_ _=>rfl) _ _ fr2 fr1)
      have hF3:RF (Gs w.heap.size::ds) β2 (λb=>Z b\/(w.heap.size<=b/\b<wd.heap.size)) w1 (H++[(⟨Pg (Gx asg++Gx body) F,0,.Cr ps asg body .ready,X⟩:AB)]).length F {a with defers:=Gs w.heap.size::a.defers}:=hF2.mono AI b1 (λ_ h=>h) λ_ _=>rfl
      have hW3:=hW2.hold hF3
      have hyl:R β2 (λb=>Z b\/(w.heap.size<=b/\b<wd.heap.size)) w1 (.CS H.length) (.func (.yield wd.heap.size) #[] #[]):=by simp only [R,b2]
      have hW4:RW G w0 ⟨Z0.z,(LV.CS H.length,Value.func (.yield wd.heap.size) #[] #[])::(F.zip a.tmps.toList++Z0.gh),dsB (Gs w.heap.size::ds)++Z0.Cv⟩ (λb=>Z b\/(w.heap.size<=b/\b<wd.heap.size)) β2 (H++[⟨Pg (Gx asg++Gx body) F,0,.Cr ps asg body .ready,X⟩]) w1:=
       ⟨hW3.below,hW3.Bf,hW3.Eo,hW3.Ct,hW3.GQ,hW3.low,hW3.inj,hW3.blk,hW3.Cl,λp hp=>by
        rcases BB.1 hp with rfl|hp
        ·exact ⟨hyl,Mb⟩
        ·exact hW3.gh p hp,hW3.Cv⟩
      have hyr2:RL β2 (λb=>Z b\/(w.heap.size<=b/\b<wd.heap.size)) w1 cap ys.toList:=RL.mono (n:=H.length) b1 (λ_ h=> .inl h) (λb hz=>by
       have hlt:=hW.Bf b hz
       rw [EE hb2 A0,EE hb1 hlt]) _ _ hcap hyr
      have hbn:¬fn.body=none:=by intro hbb;simp [hbb] at hb
      have hb3:¬fn.name= "runtime.NumGoroutine":=by simpa using hb.2
      have eg:∀args w,(callFunc gf args).run P w=.ok (.enter gf args) w:=λargs w=>by simp [callFunc,hfn,hb3,hbn]
      refine ⟨wd.heap.size,[Gs w.heap.size],w1,{target:=.fn (.func gf) ys,args:=#[.func (.yield wd.heap.size) #[] #[]]},w1,gf,#[.func (.yield wd.heap.size) #[] #[]]++ys,w1,?_,?_,λ_ _=>trivial,?_,λh=>Ar,Ve.2 ?_⟩
      ·have:=run_enterLoop_outer (P:=P) (w:=w) fn0 a.tmps ps asg body
       rw [hrec,hwd,hw1,<-hsd] at this;exact this
      ·simp only [resolve,hy]
       simp [go_sem]
      ·simp [invoke,go_sem,eg]
      ·refine (hK.k w0 _ _ β2 _ w1 gf (.CS H.length::cap) _ lv H1 hW4 (by simp only [lZ,RL];exact ⟨_,ys.toList,rfl,hyl,hyr2⟩) ⟨Mb,AT.mono AI _ hcap⟩ h1).mono λe w2 ⟨v,he,Z',β',r1,r2,r3⟩=>?_
       subst he
       have hat:(β' H.length).b=wd.heap.size:=by
        have:=(r1.gh (LV.CS H.length,Value.func (.yield wd.heap.size) #[] #[]) AI).1
        exact aNg
       have r1':RW G w0 ⟨Z0.z,F.zip a.tmps.toList++Z0.gh,dsB (Gs w.heap.size::ds)++Z0.Cv⟩ Z' β' H1 w2:=⟨r1.below,r1.Bf,r1.Eo,r1.Ct,r1.GQ,r1.low,r1.inj,r1.blk,r1.Cl,λp hp=>r1.gh p<|NU _ hp,r1.Cv⟩
       have hF5:=RW.held hF3 r1'
       have hW5:RW G w0 Z0 Z' β' H1 w2:=r1'.less
       obtain ⟨c',t',ps',asg',body',hx⟩:=aeC hx'
       have fin:∀st,H1[H.length]? =ah ⟨c',t',.Cr ps' asg' body' st,X⟩->∃rr,w2.heap[wd.heap.size]? =ah (.loop rr)/\LsR st rr/\∀rr',RW G w0 Z0 Z' β' (H1.set H.length ⟨[],0,.dead,X⟩) (w2.putObj wd.heap.size<|.loop rr')/\RF (Gs w.heap.size::ds) β' Z' (w2.putObj wd.heap.size<|.loop rr') (H1.set H.length ⟨[],0,.dead,X⟩).length F {a with defers:=Gs w.heap.size::a.defers}:=λst hst=>by
        have hbk:=(hW5.blk _ _ hst).1
        simp only [Bc,hat] at hbk;obtain ⟨rr,q1,q2,q3,q4,q5,q6⟩:=hbk;refine ⟨rr,q1,q5,λrr'=>?_⟩
        have hs:=hW5.set (nb:=⟨[],0,.dead,X⟩) (w':=w2.putObj wd.heap.size<|.loop rr') hst trivial rfl rfl ⟨ak,ak⟩ (putObj_size _ _ _) ⟨rfl,rfl,rfl⟩ (λj hj=>MW (by rw [hat] at hj;exact hj)) trivial
        refine ⟨hs,?_⟩;rw [C4];exact hF5.mono (Aq _) (λ_ _=>rfl) (λ_ h=>h) λb hz=>MW λe=>hW5.Ct _ _ hst trivial rfl (by rw [hat,<-e];exact hz)
       rcases hx with ⟨hx,rfl⟩ |⟨hx,hne⟩
       ·obtain ⟨rr,q1,q2,q3⟩:=fin _ hx
        refine ⟨aj,w2.putObj wd.heap.size<|.loop {rr with state:=.exhausted},(run_endLoop q1 (by rw [q2.1];simp)).trans<|by rw [q2.2],?_⟩
        obtain ⟨f1,f2⟩:=q3 {rr with state:=.exhausted}
        exact hQ _ Z' β' _ _ hD2 f1 f2
       ·obtain ⟨rr,q1,q2,q3⟩:=fin _ hx
        refine ⟨aTV x',w2.putObj wd.heap.size<|.loop {rr with state:=.exhausted},(run_endLoop q1 (by rw [q2.1];simp)).trans<|by rw [q2.2],?_⟩
        obtain ⟨f1,f2⟩:=q3 {rr with state:=.exhausted}
        cases x' with
        |normal=>exact absurd rfl hne
        |exit m=>exact wpIn_exit (hQ _ Z' β' _ _ hD2 f1 f2)
        |ret=>exact wpIn_ret<|hQ _ Z' β' _ _ hD2 f1 f2
     ·cases h2
    ·cases h
   ·cases h
  ·cases h
 | .scope c,hl=>λr w0 Z0 Z β F H a w ds Q x F' H' hA hr hD hW hF h hQ=>by
  simp only [DP] at h;refine aeQ<|Gl hΓ hK c (λb hb=>hl b<|by simpa [BE] using hb) r w0 Z0 Z β F H a w ds _ x F' H' hA hr hD hW hF h λds' Z' β' a' w' e0 e1 e2=>?_
  cases x with
  |normal=>exact hQ ds' Z' β' a' w' e0 e1 e2
  |exit m=>exact hQ ds' Z' β' a' w' e0 e1 e2
  |ret=>exact hQ ds' Z' β' a' w' e0 e1 e2
 | .label l,_=>λr w0 Z0 Z β F H a w ds Q x F' H' hA hr hD hW hF h hQ=>by
  simp only [DP,T.all,Az] at h;obtain ⟨rfl,rfl,rfl⟩:=h;exact wpIn_label (hQ ds Z β a w hD hW hF)
 | .goto ..,_=>λr w0 Z0 Z β F H a w ds Q x F' H' hA hr hD hW hF h hQ=>aPS
 | .refuse ..,_=>λr w0 Z0 Z β F H a w ds Q x F' H' hA hr hD hW hF h hQ=>aPS
def pN {L:M3}(hΓ:∀g S,Γ g=ah S->Valid P G g S) (hK:FU P G K) (c:aV7) (hl:∀b∈BE c,Sound P G (.loop b)<|L<|Gt b):Sound P G c (DP P G Γ K (MM L) c):=Gl (L:=MM L) hΓ hK c hl
def aLK (a:aVX):ResultVar->Sem Value
 | .tmp t=>pure (a.tmps.getD t undef)
 | .cell ad t=>do loadVar t (←asAddr (a.tmps.getD ad undef))
def sB (fn:aWi) (a:aVX):results fn a.tmps=(do let vs ←fn.results.mapM (aLK a);pure (if h:vs.size=1 then vs[0] else .tuple vs)):=by
 congr 1
def aEs {f:ResultVar->Sem Value}{r:ResultVar}{rs:aWD}{z:aVQ}{vs:aVO}(h1:(f r).run P w=.ok z w) (h2:(rs.mapM f).run P w=.ok vs w):((r::rs).mapM f).run P w=.ok (z::vs) w:=by
 simp_all
def cZ {fn:aWi}:∀(rs:aWD) (l:aVy),RW G w0 Z0 Z β H w->RF ds β Z w (M H) F a->(SV P fn F H rs).all (λq=>q=l)->
  ∃vs:aVO,(rs.mapM<|aLK a).run P w=.ok vs w/\RL β Z w l vs/\AT (M H) l
 | [],l,hW,hF,h=>by
  subst h;exact ⟨[],AI,bT,ak⟩
 | .tmp t::rs,l,hW,hF,h=>by
  obtain ⟨l1,h1,h2⟩:=T.B5 h;obtain ⟨vs,e1,e2,e3⟩:=cZ rs l1 hW hF h1
  have ev:=hF.eval hW.Cl<|.tmp t
  refine ⟨a.tmps.getD t undef::vs,?_,?_,?_⟩
  ·exact aEs rfl e1
  ·rw [<-h2];simp only [RL];exact ⟨_,_,rfl,PH ev.1,e2⟩
  ·rw [<-h2];exact ⟨Tc ev.2,e3⟩
 | .cell ad t::rs,l,hW,hF,h=>by
  obtain ⟨y,h1,h2⟩:=T.B5 h;obtain ⟨l1,h3,h4⟩:=T.B5 h2;obtain ⟨vs,e1,e2,e3⟩:=cZ rs l1 hW hF h3
  have ev:=hF.eval hW.Cl<|.tmp ad
  simp only [AM,Act.eval] at ev;obtain ⟨z,f1,f2,f3⟩:=pF hW h1 ev.1 ev.2
  have f1:=f1 w λ_ _=>rfl
  have f4:(do loadVar t (←asAddr (a.tmps.getD ad undef)):Sem Value).run P w=.ok z w:=by
   have hp:∃q,a.tmps.getD ad undef=.pointer (ah q):=by
    have hr:=ev.1
    generalize hx:F.getD ad .junk=x at h1 hr;cases x with
    |own k off=>simp only [R] at hr;exact ⟨_,hr⟩
    |xq n f=>simp only [R] at hr;obtain ⟨b,off,e,_⟩:=hr;exact ⟨_,e⟩
    |op k es i j=>simp only [R] at hr;exact ⟨_,hr.2⟩
    |_=>unfold FW at h1;split at h1<;>simp only [T.all] at h1
   obtain ⟨q,hq⟩:=hp;rw [hq] at f1|-
   simpa [Instr.loadAt,Instr.sureAddr,asAddr] using f1
  refine ⟨z::vs,?_,?_,?_⟩
  ·exact aEs f4 e1
  ·rw [<-h4];simp only [RL];exact ⟨_,_,rfl,f2,e2⟩
  ·rw [<-h4];exact ⟨f3,e3⟩
def aAz {l:aVy}{vs:aVO}(h:RL β Z w l vs):R β Z w (one l) (if hs:vs.toArray.size=1 then vs.toArray[0] else .tuple vs.toArray):=by
 unfold one
 have hl:=RL.length h
 split
 ·rename_i x
  obtain ⟨y,zs,e1,e2,e3⟩:=h
  grind
 ·rename_i hne
  have:¬vs.toArray.size=1:=by
   intro h1
   simp at h1
   rw [h1] at hl;cases l with
   |nil=>simp at hl
   |cons x xs=>cases xs with
    |nil=>exact hne x rfl
    |cons _ _=>simp at hl
  rw [dif_neg this];exact sT A8
def Wu {l:aVy}(h:AT n l):okV n (one l):=by
 unfold one;split
 ·exact h.1
 ·exact qi h
def aET {args:aVy}{vals:aVS}(hr:RL β Z w args vals.toList) (hok:AT (M H) args) (m:aVx):RF [] β Z w (M H) (args++aq (m-M args) (.v undef)) {tmps:=vals++Array.replicate (m-vals.size) undef,defers:=[]}:=by
 have hlen:vals.size=M args:=aOv
 refine ⟨A8,λt x hx=>?_,rfl,λ_ h=>Ar⟩
 by_cases ht:t<M args
 ·rw [Ho ht] at hx
  obtain ⟨y,e1,e2⟩:=RL.get _ _ hr hx
  have e3:(vals++Array.replicate (m-vals.size) undef).getD t undef=y:=by
   have hts:t<vals.size:=A0
   have:vals[t]? =ah y:=A8
   rw [m8,xS hts,this];rfl
  exact ⟨A8,AT.get _ _ hok hx⟩
 ·rw [Gc A0] at hx
  have hx':x=.v undef:=by
   rw [QM] at hx;split at hx
   ·grind
   ·cases hx
  have e3:(vals++Array.replicate (m-vals.size) undef).getD t undef=undef:=by
   rw [m8,Array.getElem?_append_right A0,Array.getElem?_replicate]
   grind
  rw [hx',e3];exact ⟨Jm,ak⟩
def ad7 {b:aV7}:Gr P G A (.loop b) (fI b):=λ_ _ _ _ _ _ _ _ _ _ _ _ _ _ _ _ _ _ _ h=>Ar
def ady {b:aV7}{t:aVy->aVB->T (Ex×List LV×List AB)}(hb:Gr P G A b t) (m:aVx):Gr P G A (.loop b) (tE t m):=by
 intro r w0 Z0 Z β F H a w ds Q x F' H' hA hr hD hW hF h hQ;refine wpIn_loop_rounds m ?_
 induction m generalizing Z β F H a w ds with
 |zero=>cases h
 | succ m ih=>
  obtain ⟨⟨y,F1,H1⟩,h1,h2⟩:=T.B5 h;refine hb r w0 Z0 Z β F H a w ds _ y F1 H1 hA hr hD hW hF h1 λds' Z' β' a' w' e0 e1 e2=>?_
  cases y with
  |normal=>exact ih Z' β' F1 H1 a' w' ds' e0 e1 e2 h2
  |exit k=>
   obtain ⟨rfl,rfl,rfl⟩:=h2;exact hQ ds' Z' β' a' w' e0 e1 e2
  |ret=>
   obtain ⟨rfl,rfl,rfl⟩:=h2;exact hQ ds' Z' β' a' w' e0 e1 e2
def TK (hΓ:∀g S,Γ g=ah S->Valid P G g S) (hK:FU P G K) (m:aVx):∀(d:aVx) (b:aV7),Gr P G A (.loop b) (JM P G Γ K m d b)
 |0,_=>ad7
 |d+1,b=>ady (Gl hΓ hK b λb' _=>TK hΓ hK m d b') m
def aG8:∀(ts:List Tmp) (xs:aVy) (vs:aVO) (F:aVy) (a:aVX),RF ds β Z w n F a->RL β Z w xs vs->AT n xs->RF ds β Z w n (Xo F ts xs) {a with tmps:=(ts.zip vs).foldl (λt (p,v)=>t.setIfInBounds p v) a.tmps}
 | [],_,_,F,a,hF,_,_=>by simpa [Xo] using hF
 |_::_,[],vs,F,a,hF,hr,_=>by
  subst hr
  simpa [Xo] using hF
 |t::ts,x::xs,vs,F,a,hF,hr,hk=>by
  obtain ⟨y,zs,rfl,h1,h2⟩:=hr;exact aG8 ts xs zs (F.set t x) {a with tmps:=a.tmps.setIfInBounds t y} (hF.put h1 hk.1<|ah t) h2 hk.2
def afd (ps:aWt) (vs:aVS) (t:aVS):(ps.zip vs).foldl (λt (p,v)=>t.setIfInBounds p v) t=(ps.toList.zip vs.toList).foldl (λt (p,v)=>t.setIfInBounds p v) t:=by
 rw [<-Array.foldl_toList,Array.toList_zip]
def EZ (P:aVM) (G:B3) (LL:DU):Prop:=∀(K:aWq) (g:aVY) (fn:aWi) (c:aV7) (N:aVx) (b:aV7),FU P G K->P.funcs[g]? =ah fn->fn.body=ah c->b∈BE c->Gr P G (AN N) (.loop b) (LL K g N b)
def RW.ghost {p:LV×Value}(hW:RW G w0 Z0 Z β H w) (h:R β Z w p.1 p.2/\okV (M H) p.1):RW G w0 ⟨Z0.z,p::Z0.gh,Z0.Cv⟩ Z β H w:=
 ⟨hW.below,hW.Bf,hW.Eo,hW.Ct,hW.GQ,hW.low,hW.inj,hW.blk,hW.Cl,λq hq=>by
  rcases BB.1 hq with rfl|hq
  ·exact h
  ·exact hW.gh q hq,hW.Cv⟩
def RW.aq6 {p:LV×Value}(hW:RW G w0 ⟨Z0.z,p::Z0.gh,Z0.Cv⟩ Z β H w):RW G w0 Z0 Z β H w:=
 ⟨hW.below,hW.Bf,hW.Eo,hW.Ct,hW.GQ,hW.low,hW.inj,hW.blk,hW.Cl,λq hq=>hW.gh q<|NU _ hq,hW.Cv⟩
def p7 {LL:DU} {K:aWq} (hΓ:∀g S,Γ g=ah S->Valid P G g S) (hLL:EZ P G LL) (hK:FU P G K):FU P G (El P G Γ LL K):=by
  refine ⟨λw0 Z0 Z β H w g args vals lv H' hW hr hok h=>?_,λw0 Z0 Z β H w k args vals lv H' hW hr hok h=>?_⟩
  ·simp only [El] at h
   split at h
   ·rename_i fn hfn
    split at h
    ·rename_i c hc
     obtain ⟨⟨x,F1,H1⟩,h1,h2⟩:=T.B5 h;refine Ve.1<|callsIn_of_wp_marks (n:=0) hfn hc trivial ?_;refine Gl (A:=AN<|M H) (L:=LL K g<|M H) hΓ hK c (λb hb=>hLL _ g fn c (M H) b hK hfn hc hb) aj w0 Z0 Z β _ H _ w [] _ x F1 H1 (λp hp=>(hW.gh p hp).2) (.inl rfl) ME.nil hW (aET hr hok fn.ntmps) h1 λds' Z' β' a' w' e0 e1 e2=>?_
     have fin:((SV P fn F1 H1 fn.results.toList).bind λl=>(T.ok (one l,H1):T<|LV×List AB)).all (λq=>q=(lv,H'))->LeavesInM Fence.wide 0 P fn a'.tmps (λe w'=>∃v,e=.returned v/\∃Z' β',RW G w0 Z0 Z' β' H' w'/\R β' Z' w' lv v/\okV (M H') lv) a'.defers .returning w':=λh2=>by
      rw [e2.defers.1];refine aDj ds' w' a' e1 e2 e0 λw'' a'' et f1 f2=>?_
      obtain ⟨l,g1,g2⟩:=T.B5 h2;simp only [T.all,Az] at g2;obtain ⟨g2,g3⟩:=g2;subst g3;obtain ⟨vs,g3,g4,g5⟩:=cZ fn.results.toList l f1 f2 g1;refine ⟨if hs:vs.toArray.size=1 then vs.toArray[0] else .tuple vs.toArray,?_,_,rfl,Z',β',f1,?_,?_⟩
      ·rw [<-et,sB,xO]
       simp_all
      ·rw [<-g2];exact aAz g4
      ·rw [<-g2];exact Wu g5
     cases x with
     |normal=>exact fin h2
     |ret=>exact fin h2
     |exit m=>cases h2
    ·cases h
   ·cases h
  ·simp only [El] at h
   split at h
   ·rename_i Fr t ps asg body hb
    split at h
    ·rename_i hc
     obtain ⟨hc1,hc2,hc3⟩:=hc;obtain ⟨⟨y,F1,H1⟩,h1,h2⟩:=T.B5 h
     have hbk:=(hW.blk k _ hb).1
     simp only [Bc] at hbk;obtain ⟨rr,q1,q2,q3,q4,q5,q6⟩:=hbk
     have hokF:AT (M H) Fr:=(hW.blk k _ hb).2.1
     have hvl:vals.size=M args:=aOv
     have hkH:k<M H:=(EC.1 hb).1
     refine ⟨rr,q1,by rw [q2,hvl,hc1],?_⟩
     have hF0:RF [] β Z w (M H) Fr {tmps:=rr.tmps,defers:=[]}:=by
      refine ⟨by have:=RL.length q6;simpa using this,λi x hx=>?_,rfl,λ_ h=>Ar⟩
      obtain ⟨v,e1,e2⟩:=RL.get i x q6 hx;refine ⟨?_,AT.get i x hokF hx⟩
      have:rr.tmps.getD i undef=v:=by
       rw [m8]
       have:rr.tmps[i]? =ah v:=by simpa using e1
       rw [this];rfl
      rw [this];exact e2
     have hF1:=aG8 ps.toList args vals.toList Fr _ hF0 hr hok
     generalize hl:(β k).b=l at*
     have hyl:R β Z w (.CS k) (.func (.yield l) #[] #[]):=by simp only [R,hl]
     have hW1:=hW.ghost (p:=(LV.CS k,Value.func (.yield l) #[] #[])) ⟨hyl,hkH⟩
     have atl:∀ {Z':aVx->Prop} {β':aVx->aWe} {H':aVB} {w':aVJ},RW G w0 ⟨Z0.z,(LV.CS k,Value.func (.yield l) #[] #[])::Z0.gh,Z0.Cv⟩ Z' β' H' w'->(β' k).b=l:=λr1=>by
      have:=(r1.gh (LV.CS k,Value.func (.yield l) #[] #[]) AI).1
      exact aNg
     refine roundIn_of_wpIn trivial ?_;rw [q3,q4,q2,afd];refine Gl (A:=λ_=>True) (L:=fI) hΓ hK asg (λb _=>ad7) (ah l) w0 _ Z β _ H _ w [] _ y F1 H1 trivial (.inr hc2) ME.nil hW1 hF1 h1 λds1 Z1 β1 a1 w1 e0 e1 e2=>?_
     simp only at h2;cases y with
     |exit m=>cases h2
     |ret=>cases h2
     | normal=>
      simp only at h2;split at h2
      ·rename_i Fr1 t1 ps1 asg1 body1 hb1
       obtain ⟨⟨x,F2,H2⟩,h3,h4⟩:=T.B5 h2
       have hbk1:=(e1.blk k _ hb1).1
       simp only [Bc] at hbk1;obtain ⟨r1,p1,p2,p3,p4,p5,p6⟩:=hbk1
       have a1l:=atl e1
       rw [a1l] at p1;refine ⟨_,run_beginRound p1 p5.1,?_⟩
       obtain ⟨t1a,t1b⟩:=RW.turn (t':=t) (nb:=.Cr ps1 asg1 body1 .busy) (r':={r1 with state:=.busy}) e1 hb1 (by
        simp only [Bc];rw [a1l];exact ⟨{r1 with state:=.busy},World.putObj_heap_same (Hp.1 p1).1,p2,p3,p4,rfl,RL.mono (n:=M H1) (λ_ _=>rfl) (λ_ h=>h) (λb hz=>MW λe=>e1.Ct k _ hb1 trivial rfl (by rw [a1l,<-e];exact hz)) _ _ (e1.blk k _ hb1).2.1 p6⟩) ⟨(e1.blk k _ hb1).2.1,ak⟩
       rw [a1l] at t1a t1b
       have hF2:RF ds1 β1 Z1 (w1.putObj l<|.loop {r1 with state:=.busy}) (M<|H1.set k ⟨Fr1,t,.Cr ps1 asg1 body1 .busy,X⟩) F1 a1:=by
        rw [C4];exact e2.mono (Aq _) (λ_ _=>rfl) (λ_ h=>h) t1b
       refine Gl (A:=λ_=>True) (L:=JM P G Γ K 20 2) hΓ hK body (λb _=>TK hΓ hK 20 2 b) (ah l) w0 _ Z1 β1 _ _ a1 _ ds1 _ x F2 H2 trivial (.inr hc3) e0 t1a hF2 h3 λds2 Z2 β2 a2 w2 f0 f1 f2=>?_
       split at h4
       ·rename_i Fr2 t2 ps2 asg2 body2 hb2
        have hbk2:=(f1.blk k _ hb2).1
        obtain ⟨r2,s1,s2,s3,s4,s5,s6⟩:=hbk2
        have a2l:=atl f1
        rw [a2l] at s1
        have fin:∀(st:LS) (jump:Option Code) (b:aVH),LsR st {r2 with state:=if jump.isNone then .ready else .done,pending:=jump}->jump.isNone=b->(T.ok (LV.bl b,H2.set k ⟨Fr2,t,.Cr ps2 asg2 body2 st,X⟩):T<|LV×List AB).all (λq=>q=(lv,H'))->
          ∃v w',(Instr.endRound l jump).run P w2=.ok v w'/\(∃v',Ending.returned v=.returned v'/\∃Z' β',RW G w0 Z0 Z' β' H' w'/\R β' Z' w' lv v'/\okV (M H') lv):=λst jump b hst hj h4=>by
         obtain ⟨rfl,rfl⟩:=h4;refine ⟨_,_,run_endRound jump s1,_,rfl,Z2,β2,?_,?_,ak⟩
         ·obtain ⟨t2a,t2b⟩:=RW.turn (t':=t) (nb:=.Cr ps2 asg2 body2 st) (r':={r2 with state:=if jump.isNone then .ready else .done,pending:=jump}) f1 hb2 (by
           simp only [Bc];rw [a2l];exact ⟨_,World.putObj_heap_same (Hp.1 s1).1,s2,s3,s4,hst,RL.mono (n:=M H2) (λ_ _=>rfl) (λ_ h=>h) (λb hz=>MW λe=>f1.Ct k _ hb2 trivial rfl (by rw [a2l,<-e];exact hz)) _ _ (f1.blk k _ hb2).2.1 s6⟩) ⟨(f1.blk k _ hb2).2.1,ak⟩
          rw [a2l] at t2a;exact t2a.aq6
         ·simp only [R,hj]
        cases x with
        |normal=>exact fin .ready aj U ⟨rfl,rfl⟩ rfl h4
        |exit m=>exact fin (.done<|.exit m) (ah<|.exit m) X ⟨rfl,rfl⟩ rfl h4
        |ret=>exact fin (.done .ret) (ah .ret) X ⟨rfl,rfl⟩ rfl h4
       ·cases h4
      ·cases h2
    ·cases h
   ·cases h
def aE6 {LL:DU}(hΓ:∀g S,Γ g=ah S->Valid P G g S) (hLL:EZ P G LL):∀(d:aVx),FU P G (inl P G Γ LL d)
 |0=>Qg
 |d+1=>p7 hΓ hLL<|aE6 hΓ hLL d
def Dp (P:aVM) (G:B3) (g:aVY) (m:aVy->aVB->T (LV×List AB)):Prop:=
 ∀(w0:aVJ) (Z0:Gz) (Z:aVx->Prop) (β:aVx->aWe) (H:aVB) (w:aVJ) (args:aVy) (vals:aVS) (lv:LV) (H':aVB),RW G w0 Z0 Z β H w->RL β Z w args vals.toList->AT (M H) args->(m args H).all (λq=>q=(lv,H'))->
  Calls P g vals w λe w'=>∃v,e=.returned v/\∃Z' β',RW G w0 Z0 Z' β' H' w'/\R β' Z' w' lv v/\okV (M H') lv
def aDr {LL:DU}{C:Does}(hΓ:∀g S,Γ g=ah S->Valid P G g S) (hLL:EZ P G LL) (hC:∀g m,C g=ah m->Dp P G g m):∀(d:aVx),FU P G (VR P G Γ LL C d)
 |0=>Qg
 | d+1=>by
  have h:=p7 hΓ hLL<|aDr hΓ hLL hC d
  refine ⟨λw0 Z0 Z β H w g args vals lv H' hW hr hok hq=>?_,h.y⟩
  simp only [VR] at hq;split at hq
  ·rename_i m hm
   exact hC g m hm w0 Z0 Z β H w args vals lv H' hW hr hok hq
  ·exact h.k w0 Z0 Z β H w g args vals lv H' hW hr hok hq
def Dp.walk {LL:DU}{K:aWq}{g:aVY}{m:aVy->aVB->T (LV×List AB)}(hΓ:∀g S,Γ g=ah S->Valid P G g S) (hLL:EZ P G LL) (hK:FU P G K)
  (hm:∀args H lv H',(m args H).all (λq=>q=(lv,H'))->((El P G Γ LL K).k g args H).all (λq=>q=(lv,H'))):Dp P G g m:=
 λw0 Z0 Z β H w args vals lv H' hW hr hok hq=>(p7 hΓ hLL hK).k w0 Z0 Z β H w g args vals lv H' hW hr hok<|hm args H lv H' hq
def E5 (P:aVM) (G:B3) (Γ:aWb) (m d:aVx):DU:=λK _ _=>JM P G Γ K m d
def Hz {m d:aVx}(hΓ:∀g S,Γ g=ah S->Valid P G g S):EZ P G (E5 P G Γ m d):=λ_ _ _ _ _ b hK _ _ _=>TK hΓ hK m d b
def Cb (g:aVY) (N id:aVx) (t:aVy->aVB->T (Ex×List LV×List AB)) (LL:DU):DU:=λK g' N' b=>if g'=g/\N'=N/\Gt b=id then t else LL K g' N' b
def DO {g:aVY}{N id:aVx}{t:aVy->aVB->T (Ex×List LV×List AB)}{LL:DU}{fn:aWi}{c bd:aV7}(hfn:P.funcs[g]? =ah fn) (hc:fn.body=ah c) (hid:(BE c).filter (λb=>Gt b==id)=[bd]) (ht:Gr P G (AN N) (.loop bd) t) (h:EZ P G LL):EZ P G (Cb g N id t LL):=by
 intro K g' fn' c' N' b hK hfn' hc' hb;unfold Cb;split
 ·rename_i e
  obtain ⟨rfl,rfl,e⟩:=e;rw [hfn] at hfn'
  have:=ED hfn'
  subst this;rw [hc] at hc'
  have:=ED hc'
  subst this
  have hm:b∈(BE c).filter (λb=>Gt b==id):=Cg.2 ⟨hb,A8⟩
  have:b=bd:=A8
  subst this;exact ht
 ·exact h K g' fn' c' N' b hK hfn' hc' hb
def aEP {f:aVY}{fn:aWi}{c:aV7}{t:aVy->aVB->T (Ex×List LV×List AB)}(hfn:P.funcs[f]? =ah fn) (hc:fn.body=ah c) (ht:Sound P G c t):Valid P G f (wo P fn t):=by
 intro args vals w Z lv hz hg hok hr h;obtain ⟨⟨x,F',H'⟩,h1,h2⟩:=T.B5 h;refine Ve.1<|callsIn_of_wp_marks (n:=0) hfn hc trivial ?_
 have hW:RW G w ⟨Z,[],[]⟩ Z β0 [] w:=⟨Below.refl _ _,hz,λb h=> .inl h,λk b hk=>zT,λk b hk=>zT,λk b hk=>zT,λi j bi bj hi=>by simp at hi,λk b hb=>by simp at hb,hg,λp hp=>na,λD hD=>(by cases hD)⟩
 have hF:=aET (H:=[]) hr hok fn.ntmps
 refine ht aj w ⟨Z,[],[]⟩ Z β0 _ [] _ w [] _ x F' H' (λp hp=>na) (.inl rfl) ME.nil hW hF h1 λds' Z' β' a' w' e0 e1 e2=>?_
 have fin:((SV P fn F' H' fn.results.toList).bind λl=>if noOwn (one l) then (T.ok (one l):T LV) else (EY H' 8<|one l).bind λ_=> .ok<|C3 H' 8<|one l).all (λx=>x=lv)->LeavesInM Fence.wide 0 P fn a'.tmps (λe w'=>Below w.heap.size w w'/\∃v',e=.returned v'/\okV 0 lv/\R β0 (λb=>Z b\/(w.heap.size<=b/\b<w'.heap.size)) w' lv v') a'.defers .returning w':=λh2=>by
  rw [e2.defers.1];refine aDj ds' w' a' e1 e2 e0 λw'' a'' et f1 f2=>?_
  obtain ⟨l,g1,g2⟩:=T.B5 h2;split at g2
  ·rename_i hno
   obtain ⟨vs,g3,g4,g5⟩:=cZ fn.results.toList l f1 f2 g1
   have hok0:okV 0 lv:=by rw [<-g2];exact noOwn_ok _ hno<|Wu g5
   refine ⟨if hs:vs.toArray.size=1 then vs.toArray[0] else .tuple vs.toArray,?_,f1.below,_,rfl,hok0,?_⟩
   ·rw [<-et,sB,xO]
    simp_all
   ·have:=aAz g4
    rw [g2] at this
    exact R.mono (n:=0) (λ_ hk=>absurd hk A0) (λb hb=>by
     rcases f1.Eo b hb with h|h
     ·exact .inl h
     ·exact .inr ⟨h,f1.Bf b hb⟩) (λ_ _=>rfl) _ _ hok0 this
  ·obtain ⟨_,hg,g2⟩:=T.B5 g2
   have hG:=T.Bb (K':=λ_=>True) (λ_ _=>trivial) hg
   obtain ⟨vs,g3,g4,g5⟩:=cZ fn.results.toList l f1 f2 g1
   have hok0:okV 0 lv:=by rw [<-g2];exact Qh H' (λk b hb=>(f1.blk k b hb).2) 8 _<|Wu g5
   refine ⟨if hs:vs.toArray.size=1 then vs.toArray[0] else .tuple vs.toArray,?_,f1.below,_,rfl,hok0,?_⟩
   ·rw [<-et,sB,xO]
    simp_all
   ·have:=Mv (S:=λ_=>True) f1 (λ_ _ _ _ _ _=>trivial) 8 _ _ hG (λ_ _=>trivial) (Wu g5) (aAz g4)
    rw [g2] at this
    exact R.mono (n:=0) (λ_ hk=>absurd hk A0) (λb hb=>by
     rcases hb with hb|⟨k,bk,_,h2,h3,rfl⟩
     ·rcases f1.Eo b hb with h|h
      ·exact .inl h
      ·exact .inr ⟨h,f1.Bf b hb⟩
     ·exact .inr ⟨f1.low k bk h2 h3,f1.lt h2 h3⟩) (λ_ _=>rfl) _ _ hok0 this
 cases x with
 |normal=>exact fin h2
 |ret=>exact fin h2
 |exit m=>cases h2
def afc {f:aVY}{fn:aWi}{c:aV7}{S:aVy->T LV}{L:M3}(hfn:P.funcs[f]? =ah fn) (hc:fn.body=ah c) (hΓ:∀g S,Γ g=ah S->Valid P G g S) (hK:FU P G K)
  (hL:∀b∈BE c,Sound P G (.loop b)<|L<|Gt b) (hS:∀args lv,(S args).all (λx=>x=lv)->(wg P G Γ K L fn args).all (λx=>x=lv)):Valid P G f S:=λargs vals w Z lv hz hg hok hr h=>
 aEP hfn hc (pN hΓ hK c hL) args vals w Z lv hz hg hok hr (by have:=hS args lv h;unfold wg at this;simpa only [hc] using this)
end Go.Sx
namespace Go.Sx
open Go Go.RowKit Go.Proofs.YtjdlmobanmhohaaGreatDoor
variable {P : Program} {G : B3} {Γ : Specs} {L : M3} {β : Nat -> Loc} {Z : Nat -> Prop} {Z0 : Gz} {w w0 : World} {F : List LV} {H : List AB} {a : Act} {ds : List Deferred} {n : Nat}
def qx {c:aV7}(h:BE c=[]):∀b∈BE c,Sound P G (.loop b) (L<|Gt b):=λb hb=>A8
def Vs (P:aVM) (G:B3):List (FuncId×(List LV->T LV))->Prop
 | []=>True
 |p::ps=>Valid P G p.1 p.2/\Vs P G ps
def pz:∀ {l:List<|FuncId×(List LV->T LV)},Vs P G l->∀g S,DN l g=ah S->Valid P G g S
 | [],_,g,S,h=>Ar
 |p::ps,hv,g,S,h=>by
  simp only [DN] at h;split at h
  ·rename_i hg;simp only [Ah] at h;subst h hg;exact hv.1
  ·exact pz hv.2 g S h
def aFN {α:Type}{t t':T α}{K:α->Prop}(h:t=t') (h':t'.all K):t.all K:=h▸h'
end Go.Sx
namespace Go.Sx
open Go Go.RowKit Go.Proofs.YtjdlmobanmhohaaGreatDoor
variable {P : Program} {G : B3} {Γ : Specs} {L : M3} {β : Nat -> Loc} {Z : Nat -> Prop} {Z0 : Gz} {w w0 : World} {F : List LV} {H : List AB} {a : Act} {ds : List Deferred} {n : Nat}
def pos (k:aVx):aVC->aVx->Nat
 | [],i=>i
 |j::js,i=>if k=j then i else pos k js (i+1)
def aDM {k:aVx}:∀ {ks:aVC}(i:aVx),k∈ks->i<=pos k ks i/\ks[pos k ks i-i]? =ah k/\pos k ks i<i+M ks
 | [],i,h=>Ar
 | j::js,i,h=>by
  simp only [pos];split
  ·grind
  ·rename_i e
   have hk:k∈js:=by
    rcases BB.1 h with h|h
    ·grind
    ·exact h
   obtain ⟨h1,h2,h3⟩:=aDM (i+1) hk;refine ⟨A0,?_,A8⟩
   grind
mutual
def renV (ks:aVC):LV->LV
 | .v x=> .v x
 | .bl b=> .v (.bool b)
 | .ki k n=> .v (ag k n)
 | .own k off=> .own (pos k ks 0) off
 | .agg l=> .agg (renL ks l)
 | .AO l=> .AO (renL ks l)
 | .fn f l=> .fn f (renL ks l)
 | .fb f l=> .fb f (renL ks l)
 | .xq n f=> .xq n f
 | .xl e l=> .xl e l
 | .os k es off n=> .os (pos k ks 0) es off n
 | .op k es i j=> .op (pos k ks 0) es i j
 | .om k=> .om (pos k ks 0)
 | .mp kd kk l=> .mp kd kk (renL ks l)
 | .oc k es off n c=> .oc (pos k ks 0) es off n c
 | .CS k=> .CS (pos k ks 0)
 | .junk=> .junk
def renL (ks:aVC):aVy->List LV
 | []=>[]
 |x::xs=>renV ks x::renL ks xs
end
def K6 (ks:aVC):BK->BK
 | .cl=> .cl
 | .vec e l=> .vec e l
 | .mp kd kk vs=> .mp kd kk (renL ks vs)
 | .Cr ps asg body st=> .Cr ps asg body st
 | .st e l=> .st e l
 | .dead=> .dead
def Ij (ks:aVC) (b:AB):AB:=⟨renL ks b.c,b.t,K6 ks b.k,b.p⟩
def Uu:AB:=⟨[],0,.dead,X⟩
def nodupB:aVC->Bool
 | []=>U
 |k::ks=>!ks.contains k&&nodupB ks
def aEh:∀ {ks:aVC},nodupB ks=U->∀(i j k:aVx),ks[i]? =ah k->ks[j]? =ah k->i=j
 | [],_,i,j,k,h,_=>A8
 | x::xs,hn,i,j,k,hi,hj=>by
  simp only [nodupB,AX,DB] at hn;cases i with
  | zero=>
   cases j with
   |zero=>rfl
   |succ j=>
    grind
  | succ i=>
   cases j with
   |zero=>
    grind
   |succ j=>
    rw [aEh hn.2 i j k hi hj]
def Rn (ks:aVC) (β β':aVx->aWe):Prop:=∀i k,ks[i]? =ah k->β' i=β k
def Rn.at {ks:aVC}{β':aVx->aWe}(h:Rn ks β β') {k:aVx}(hk:k∈ks):β' (pos k ks 0)=β k/\pos k ks 0<M ks:=by
 obtain ⟨_,h2,h3⟩:=aDM 0 hk;exact ⟨h _ _ A8,A0⟩
mutual
def ren_R {ks:aVC}{β':aVx->aWe}{n:aVx}(h:Rn ks β β'):∀(x:LV) (y:aVQ),(∀k,k∈owns x->k∈ks)->okV n x->R β Z w x y->R β' Z w (renV ks x) y
 | .v _,_,_,_,hr=>hr
 | .bl _,_,_,_,hr=>hr
 | .ki _ _,_,_,_,hr=>hr
 | .own k off,y,ho,hok,hr=>by
  exact Vh
 | .agg l,y,ho,hok,hr=>by
  exact mU
 | .AO l,y,ho,hok,hr=>by
  exact mU
 | .fn f l,y,ho,hok,hr=>by
  exact mU
 | .fb f l,y,ho,hok,hr=>by
  exact mU
 | .xq n f,y,ho,hok,hr=>by
  simp only [renV,R,okV] at*;obtain ⟨b,off,h1,h2,h3⟩:=hr;refine ⟨b,off,h1,h2,λj hj=>?_⟩
  obtain ⟨z,h4,h5⟩:=h3 j hj;exact ⟨z,h4,R.mono (n:=0) (λ_ hk=>absurd hk A0) (λ_ h=>h) (λ_ _=>rfl) _ _ (hok j) h5⟩
 | .xl e l,y,ho,hok,hr=>by simp only [renV,R] at*;exact hr
 | .os k es off n,y,ho,hok,hr=>by
  exact Vh
 | .op k es i j,y,ho,hok,hr=>by
  exact Vh
 | .om k,y,ho,hok,hr=>by
  exact Vh
 | .mp kd kk l,y,ho,hok,hr=>by
  simp only [renV,R,owns,okV] at*;obtain ⟨r,es,clock,h1,h2,h3,h4,h5⟩:=hr;exact ⟨r,es,clock,h1,h2,h3,h4,ren_RL h l _ ho hok h5⟩
 | .oc k es off n c,y,ho,hok,hr=>by
  exact Vh
 | .CS k,y,ho,hok,hr=>by
  exact Vh
 | .junk,_,_,_,_=>by simp only [renV,R]
def ren_RL {ks:aVC}{β':aVx->aWe}{n:aVx}(h:Rn ks β β'):∀(l:aVy) (ys:aVO),(∀k,k∈ownsL l->k∈ks)->AT n l->RL β Z w l ys->RL β' Z w (renL ks l) ys
 | [],_,_,_,hr=>by simpa only [renL,RL] using hr
 |x::xs,ys,ho,hok,hr=>by
  simp only [renL,RL,ownsL,BZ,AT] at*;obtain ⟨y,zs,h1,h2,h3⟩:=hr;exact ⟨y,zs,h1,ren_R h x y (λk hk=>ho k (.inl hk)) hok.1 h2,ren_RL h xs zs (λk hk=>ho k (.inr hk)) hok.2 h3⟩
end
mutual
def ren_ok {ks:aVC}{n:aVx}:∀(x:LV),(∀k,k∈owns x->k∈ks)->okV n x->okV (M ks) (renV ks x)
 | .v _,_,_=>trivial
 | .bl _,_,_=>trivial
 | .ki _ _,_,_=>trivial
 | .own k off,ho,_=>Vl
 | .agg l,ho,hk=>aT
 | .AO l,ho,hk=>aT
 | .fn f l,ho,hk=>aT
 | .fb f l,ho,hk=>aT
 | .xq n f,_,hk=>by simpa only [renV,okV] using hk
 | .xl _ _,_,_=>trivial
 | .os k _ _ _,ho,_=>Vl
 | .op k _ _ _,ho,_=>Vl
 | .om k,ho,_=>Vl
 | .mp kd kk l,ho,hk=>aT
 | .oc k _ _ _ _,ho,_=>Vl
 | .CS k,ho,_=>Vl
 | .junk,_,_=>trivial
def ren_okL {ks:aVC}{n:aVx}:∀(l:aVy),(∀k,k∈ownsL l->k∈ks)->AT n l->AT (M ks) (renL ks l)
 | [],_,_=>trivial
 |x::xs,ho,hk=>by
  simp only [renL,AT,ownsL,BZ] at*;exact ⟨ren_ok x (λk hk=>ho k (.inl hk)) hk.1,ren_okL xs (λk hk=>ho k (.inr hk)) hk.2⟩
end
def dH {ks:aVC}{β':aVx->aWe}{i k:aVx}{b:AB}(h:β' i=β k):live β' i (Ij ks b)↔live β k b:=by
 unfold live Ij;cases hb:b.k<;>simp [K6,h]
def nr (N:aVx) (ks:aVC):aVH:=ks.take N==au N
def aFq {N:aVx}{ks:aVC}(h:nr N ks=U):N<=M ks/\∀i,i<N->ks[i]? =ah i:=by
 have h:ks.take N=au N:=by simpa [nr] using h
 have hl:=B2 M h
 simp at hl
 refine ⟨A0,λi hi=>?_⟩
 have:=B2 (λl=>l[i]?) h
 simp only [Lg,AD hi] at this;rw [this]
 simp [hi]
def RW.ren {N:aVx}{ks:aVC}{l:aVy}(hgh:AN N Z0) (hW:RW G w0 Z0 Z β H w) (hc:KZ H ks l=U) (hn:nodupB ks=U) (hpin:nr N ks=U):
  ∃β',Rn ks β β'/\RW G w0 Z0 Z β' (ks.map λk=>Ij ks<|H.getD k Uu) w:=by
 have hex:∀k,k∈ks->∃b,H[k]? =ah b:=λk hk=>by
  unfold KZ at hc;simp only [AX,BH] at hc
  have:=hc.2 k hk
  cases hb:H[k]? with
  |none=>rw [hb] at this;cases this
  |some b=>exact ⟨b,rfl⟩
 obtain ⟨c1,c2⟩:=TE hc;refine ⟨λi=>β<|ks.getD i 0,λi k hi=>by simp [List.getD,hi],?_⟩
 have hRn:Rn ks β (λi=>β<|ks.getD i 0):=λi k hi=>by simp [List.getD,hi]
 generalize hβ':(λi=>β<|ks.getD i 0)=β' at hRn|-
 have old:∀i b,(ks.map λk=>Ij ks<|H.getD k Uu)[i]? =ah b->∃k b0,ks[i]? =ah k/\k∈ks/\H[k]? =ah b0/\b=Ij ks b0/\β' i=β k:=λi b hb=>by
  rw [Dj] at hb;cases hk:ks[i]? with
  |none=>simp [hk] at hb
  |some k=>
   have hkm:=Oj hk
   grind
 refine ⟨hW.below,hW.Bf,hW.Eo,λi b hb hl hp=>?_,λi b hb hl hp=>?_,λi b hb hl=>?_,λi j bi bj hi hj li lj pi e=>?_,λi b hb=>?_,hW.Cl,λp hp=>⟨R.mono (n:=N) (λk hk=>hRn k k<|(aFq hpin).2 k hk) (λ_ h=>h) (λ_ _=>rfl) _ _ (hgh p hp) (hW.gh p hp).1,okV.mono (by rw [GG];exact (aFq hpin).1) _<|hgh p hp⟩,hW.Cv⟩
 ·obtain ⟨k,b0,h1,h2,h3,rfl,h5⟩:=old i b hb
  rw [h5];exact hW.Ct k b0 h3 ((dH h5).1 hl) hp
 ·obtain ⟨k,b0,h1,h2,h3,rfl,h5⟩:=old i b hb
  rw [h5];exact hW.GQ k b0 h3 ((dH h5).1 hl) hp
 ·obtain ⟨k,b0,h1,h2,h3,rfl,h5⟩:=old i b hb
  rw [h5];exact hW.low k b0 h3<|(dH h5).1 hl
 ·obtain ⟨k,b0,h1,h2,h3,rfl,h5⟩:=old i bi hi
  obtain ⟨k',b1,g1,g2,g3,rfl,g5⟩:=old j bj hj;rw [h5,g5] at e
  have:=hW.inj k k' b0 b1 h3 g3 ((dH h5).1 li) ((dH g5).1 lj) pi e
  subst this;exact aEh hn i j k h1 g1
 ·obtain ⟨k,b0,h1,h2,h3,rfl,h5⟩:=old i b hb
  obtain ⟨q1,q2⟩:=hW.blk k b0 h3
  have ow:=c2 k b0 h2 h3
  have owc:∀j,j∈ownsL b0.c->j∈ks:=λj hj=>ow j (by unfold AB.owns;exact BZ.2<|.inl hj)
  rw [GG];refine ⟨?_,ren_okL _ owc q2.1,?_⟩
  ·unfold Bc at q1|-
   unfold Ij;cases hbk:b0.k with
   |cl=>
    simp only [hbk,K6] at q1|-;obtain ⟨cs,e1,e2⟩:=q1;exact ⟨cs,zI,ren_RL hRn _ _ owc q2.1 e2⟩
   |vec e l=>
    simp only [hbk,K6] at q1|-;rw [h5];exact q1
   |mp kd kk vs=>
    simp only [hbk,K6] at q1|-;obtain ⟨es,clock,e1,e2,e3⟩:=q1;exact ⟨es,clock,zI,e2,ren_RL hRn _ _ (λj hj=>ow j aOI) (by have:=q2.2;rw [hbk] at this;exact this) e3⟩
   |Cr ps asg body st=>
    simp only [hbk,K6] at q1|-;obtain ⟨r,e1,e2,e3,e4,e5,e6⟩:=q1;exact ⟨r,zI,e2,e3,e4,e5,ren_RL hRn _ _ owc q2.1 e6⟩
   |st e l=>
    simp only [hbk,K6] at q1|-;rw [h5];exact q1
   |dead=>simp only [K6]
  ·have q22:=q2.2
   unfold Ij;cases hbk:b0.k with
   |mp kd kk vs=>
    simp only [hbk,K6] at q22|-;exact ren_okL _ (λj hj=>ow j aOI) q22
   |cl=>simp only [K6]
   |vec e l=>simp only [K6]
   |Cr ps asg body st=>simp only [K6]
   |st e l=>simp only [K6]
   |dead=>simp only [K6]
def at_ (i:aVx):aVC->aVy->LV
 |j::js,x::xs=>if i=j then x else at_ i js xs
 |_,_=> .junk
def Qs (live:aVC) (vals:aVy):aVx->aVx->List LV
 |0,_=>[]
 |n+1,i=>at_ i live vals::Qs live vals n (i+1)
def I0 (n:aVx) (live:aVC) (vals:aVy):aVy:=Qs live vals n 0
def aDJ (live:aVC) (vals:aVy):∀n i,M (Qs live vals n i)=n
 |0,_=>rfl
 |n+1,i=>by simp [Qs,aDJ live vals n<|i+1]
def adV (live:aVC) (vals:aVy):∀n i k,k<n->(Qs live vals n i)[k]? =ah (at_ (i+k) live vals)
 |0,_,k,h=>A0
 |n+1,i,0,_=>by simp [Qs]
 |n+1,i,k+1,h=>by
  simp only [Qs,lu];rw [adV live vals n (i+1) k A0]
  grind
def aU6 (i:aVx):∀(live:aVC) (vals:aVy),at_ i live vals=.junk\/∃p:aVx,live[p]? =ah i/\vals[p]? =ah (at_ i live vals)
 | [],_=> .inl rfl
 |_::_,[]=> .inl rfl
 | j::js,x::xs=>by
  simp only [at_];split
  ·rename_i h;exact .inr ⟨0,nY,AI⟩
  ·rcases aU6 i js xs with h|⟨p,h1,h2⟩
   ·exact .inl h
   ·exact .inr ⟨p+1,A8,A8⟩
def UI (live:aVC) (F:aVy):aVy:=live.map λj=>norm<|F.getD j .junk
def apy {live:aVC}(hF:RF ds β Z w n F a):RL β Z w (UI live F) (live.map λj=>a.tmps.getD j undef)/\AT n (UI live F):=by
 have one:∀j,R β Z w (F.getD j .junk) (a.tmps.getD j undef)/\okV n (F.getD j .junk):=λj=>by
  cases hj:F[j]? with
  |none=>simp [List.getD,hj,R,okV]
  |some x=>simp only [List.getD,hj,mL];exact hF.get j x hj
 refine ⟨RL.CZ (by simp [UI]) λi x hx=>?_,AT.CZ λi x hx=>?_⟩
 ·simp only [UI,Dj] at hx|-
  cases hl:live[i]? with
  |none=>simp [hl] at hx
  |some j=>simp [hl] at hx;subst hx;exact ⟨_,AI,PH (one j).1⟩
 ·simp only [UI,Dj] at hx
  cases hl:live[i]? with
  |none=>simp [hl] at hx
  |some j=>simp [hl] at hx;subst hx;exact Tc (one j).2
def apH {live:aVC}{vals:aVy}{N:aVx}(hs:a.tmps.size=N) (hd:a.defers=ds/\∀d,d∈ds->∃D,d=Gs D/\Z D/\Fw w D) (h:RL β Z w vals<|live.map λj=>a.tmps.getD j undef) (hk:AT n vals):RF ds β Z w n (I0 N live vals) a:=by
 refine ⟨by rw [hs];simp [I0,aDJ],λt x hx=>?_,hd⟩
 have ht:t<N:=by have:=(EC.1 hx).1;simpa [I0,aDJ] using this
 unfold I0 at hx;rw [adV live _ _ _ t ht] at hx;simp only [Ah,Eh] at hx;rcases aU6 t live vals with h1|⟨p,h1,h2⟩
 ·rw [hx] at h1;subst h1;exact ⟨Jm,ak⟩
 ·rw [hx] at h2
  obtain ⟨y,e1,e2⟩:=RL.get _ _ h h2;simp only [Dj,h1,Jk,Ah] at e1;subst e1;exact ⟨e2,AT.get _ _ hk h2⟩
inductive Up where
 |nl (i:Nat) (t:TypeId) (ty:Ty)
 |pb (i:Nat) (ty:Ty)
 |nc (k j:Nat) (t:TypeId) (ty:Ty)
 |pc (k j:Nat) (ty:Ty)
 |pk (k:Nat)
 |ns (i j:Nat) (t:TypeId) (ty:Ty)
 |ps (i j:Nat) (ty:Ty)
 |mc (k j:Nat)
 |kb (k:Nat)
 |ms (i j:Nat)
def aWz:qT (List Up):=⟨⟩
def ant (F:aVy):Up->Up
 | .ns i j t ty=>match F.getD i .junk with
  | .own k _=> .nc k j t ty
  |_=> .ns i j t ty
 | .ps i j ty=>match F.getD i .junk with
  | .own k _=> .pc k j ty
  |_=> .ps i j ty
 | .ms i j=>match F.getD i .junk with
  | .own k _=> .mc k j
  |_=> .ms i j
 |u=>u
def DR:aWz->aVy->aVB->T (List LV×List AB)
 | [],F,H=> .ok (F,H)
 | .nl i t ty::us,F,H=>match F.getD i .junk with
  | .v (.slice aj 0 0)=>DR us (F.set i<|.os (M H) ty.n 0 0) (H++[⟨[],t,.vec ty [],X⟩])
  |_=>DR us F H
 | .pb i ty::us,F,H=>match F.getD i .junk with
  | .v (.slice aj 0 0)=>DR us (F.set i<|.xl ty []) H
  | .os k es off n=>if KZ H (reach H 64 [k] []) [.os k es off n] then (EY H 6<|.os k es off n).bind λ_=>DR us (F.set i<|C3 H 6<|.os k es off n) (Ft (reach H 64 [k] []) 0 H) else .no
  |_=>DR us F H
 | .nc k j t ty::us,F,H=>match H[k]? with
  |some ⟨c,bt,.cl,X⟩=>(match c[j]? with
   |some (.v (.slice aj 0 0))=>DR us F (H.set k ⟨c.set j<|.os (M H) ty.n 0 0,bt,.cl,X⟩++[⟨[],t,.vec ty [],X⟩])
   |_=>DR us F H)
  |_=>DR us F H
 | .pc k j ty::us,F,H=>match H[k]? with
  |some ⟨c,bt,.cl,X⟩=>(match c[j]? with
   |some (.v (.slice aj 0 0))=>DR us F (H.set k ⟨c.set j<|.xl ty [],bt,.cl,X⟩)
   |some (.os k' es off n)=>if KZ H (reach H 64 [k'] []) [.os k' es off n]&&!(reach H 64 [k'] []).contains k then (EY H 6<|.os k' es off n).bind λ_=>DR us F ((Ft (reach H 64 [k'] []) 0 H).set k ⟨c.set j<|C3 H 6<|.os k' es off n,bt,.cl,X⟩) else .no
   |_=>DR us F H)
  |_=>DR us F H
 | .pk k::us,F,H=>DR us F (Ft (reach H 64 [k] []) 0 H)
 | .kb k::us,F,H=>DR us F (H.set k ⟨[],0,.dead,X⟩)
 | .ns ..::us,F,H=>DR us F H
 | .ps ..::us,F,H=>DR us F H
 | .mc k j::us,F,H=>match H[k]? with
  | some ⟨c,bt,.cl,X⟩=>(match c[j]? with
   |some (.os k' es off n)=>(match H[k']? with
    |some ⟨[],t,.vec e l,X⟩=>DR us F ((H.set k' (⟨[],t,.dead,X⟩:AB)++[(⟨[],t,.vec e l,X⟩:AB)]).set k ⟨c.set j<|.os (M H) es off n,bt,.cl,X⟩)
    |_=>DR us F H)
   |_=>DR us F H)
  |_=>DR us F H
 | .ms ..::us,F,H=>DR us F H
def RL.set':∀ {l:aVy}{ys:aVO}{j:aVx}{x:LV}{y:aVQ},RL β Z w l ys->ys[j]? =ah y->R β Z w x y->RL β Z w (l.set j x) ys
 | [],ys,j,x,y,h,hy,_=>A8
 |z::l,ys,0,x,y,h,hy,hr=>by
  obtain ⟨y0,zs,rfl,h1,h2⟩:=h
  simp at hy
  subst hy;exact ⟨_,zs,rfl,hr,h2⟩
 |z::l,ys,j+1,x,y,h,hy,hr=>by
  obtain ⟨y0,zs,rfl,h1,h2⟩:=h;exact ⟨y0,zs,rfl,h1,RL.set' h2 A8 hr⟩
def AT.set' {n:aVx}:∀ {l:aVy}{j:aVx}{x:LV},AT n l->okV n x->AT n (l.set j x)
 | [],_,_,h,_=>A8
 |z::l,0,x,h,hx=>⟨hx,h.2⟩
 |z::l,j+1,x,h,hx=>⟨h.1,AT.set' h.2 hx⟩
def RW.tell {k j:aVx}{c:aVy}{bt:aVN}{x:LV}(hW:RW G w0 Z0 Z β H w) (hb:H[k]? =ah ⟨c,bt,.cl,X⟩) (hx:∀y,(∃z,c[j]? =ah z/\R β Z w z y)->R β Z w x y) (hj:∃z,c[j]? =ah z) (hok:okV (M H) x):RW G w0 Z0 Z β (H.set k ⟨c.set j x,bt,.cl,X⟩) w:=by
 obtain ⟨h1,h2⟩:=hW.blk k _ hb;obtain ⟨cs,g1,g2⟩:=h1;obtain ⟨z,hz⟩:=hj;obtain ⟨y,q1,q2⟩:=RL.get j z g2 hz;refine hW.set hb trivial rfl rfl ⟨AT.set' h2.1 hok,ak⟩ rfl ⟨rfl,rfl,rfl⟩ (λ_ _=>rfl) ?_
 exact ⟨cs,g1,RL.set' g2 q1<|hx y ⟨z,hz,q2⟩⟩
def Jo:∀(us:aWz) (F:aVy) (H:aVB) (Z:aVx->Prop) (β:aVx->aWe) (F1:aVy) (H1:aVB),RW G w0 Z0 Z β H w->RF ds β Z w (M H) F a->(DR us F H).all (λq=>q=(F1,H1))->∃Z' β',RW G w0 Z0 Z' β' H1 w/\RF ds β' Z' w (M H1) F1 a/\M F1=M F
 | [],F,H,Z,β,F1,H1,hW,hF,h=>by
  simp only [DR,T.all,Az] at h;obtain ⟨rfl,rfl⟩:=h;exact ⟨Z,β,hW,hF,rfl⟩
 | .nl i t ty::us,F,H,Z,β,F1,H1,hW,hF,h=>by
  simp only [DR] at h;split at h
  ·rename_i hx
   obtain ⟨s1,s2⟩:=hF.slot hx AI
   have hv:=(hF.get i _ s1).1
   simp only [R] at hv;obtain ⟨β',b1,b2,b3⟩:=hW.Km (ℓ:=⟨w.heap.size,0,aj⟩) (nb:=⟨[],t,.vec ty [],X⟩) rfl ⟨ak,ak⟩ (λhl=>absurd rfl hl) λβ' g1 g2=>zG
   have hF1:RF ds β' Z w (M<|H++[(⟨[],t,.vec ty [],X⟩:AB)]) F a:=hF.mono AI b1 (λ_ h=>h) λ_ _=>rfl
   obtain ⟨Z2,β2,c1,c2,c3⟩:=Jo us (F.set i<|.os (M H) ty.n 0 0) _ Z β' F1 H1 b3 (hF1.know (by simp only [R,b2];exact ⟨ak,ak,hv⟩) Mb) h
   exact yS
  ·exact Ow
 | .pb i ty::us,F,H,Z,β,F1,H1,hW,hF,h=>by
  simp only [DR] at h;split at h
  ·rename_i hx
   obtain ⟨s1,s2⟩:=hF.slot hx AI
   have hv:=(hF.get i _ s1).1
   simp only [R] at hv;obtain ⟨Z2,β2,c1,c2,c3⟩:=Jo us (F.set i<|.xl ty []) H Z β F1 H1 hW (hF.know (by simp only [R];exact ⟨aj,0,hv,Aq _,λh=>by simp at h⟩) trivial) h
   exact yS
  ·rename_i k es off n hx
   split at h
   ·rename_i hcl
    obtain ⟨s1,s2⟩:=hF.slot hx AI
    have hv:=hF.get i _ s1
    obtain ⟨_,hg,h2⟩:=T.B5 h
    have hG:GX H 6 (.os k es off n):=T.Bb (K':=λ_=>True) (λ_ _=>trivial) hg
    obtain ⟨q1,q2⟩:=TE hcl
    have hP:=hW.pub<|reach H 64 [k] []
    have hH:=λk b hb=>(hW.blk k b hb).2
    have hr:=Mv (S:=λj=>j∈reach H 64 [k] []) hW q2 6 _ _ hG (λj hj=>q1 j aPD) hv.2 hv.1
    have hF1:RF ds β (ZP Z β H λj=>j∈reach H 64 [k] []) w (M<|Ft (reach H 64 [k] []) 0 H) F a:=by
     exact aNe
    obtain ⟨Z2,β2,c1,c2,c3⟩:=Jo us (F.set i<|C3 H 6<|.os k es off n) _ _ β F1 H1 hP (hF1.know hr<|okV.mono (NV _) _<|Qh H hH 6 _ hv.2) h2;exact yS
   ·cases h
  ·exact Ow
 | .nc k j t ty::us,F,H,Z,β,F1,H1,hW,hF,h=>by
  simp only [DR] at h;split at h
  ·rename_i c bt hb
   split at h
   ·rename_i hj
    have hkl:k<M H:=(EC.1 hb).1
    obtain ⟨β',b1,b2,b3⟩:=hW.Km (ℓ:=⟨w.heap.size,0,aj⟩) (nb:=⟨[],t,.vec ty [],X⟩) rfl ⟨ak,ak⟩ (λhl=>absurd rfl hl) λβ' g1 g2=>zG
    have hb':(H++[(⟨[],t,.vec ty [],X⟩:AB)])[k]? =ah ⟨c,bt,.cl,X⟩:=by rw [Ho hkl];exact hb
    have hT:=b3.tell (j:=j) (x:=.os (M H) ty.n 0 0) hb' (λy ⟨z,hz,hr⟩=>by
     rw [hj] at hz
     have:=ED hz
     subst this;simp only [R] at hr;simp only [R,b2];exact ⟨ak,ak,hr⟩) ⟨_,hj⟩ Mb
    rw [List.set_append_left _ _ hkl] at hT
    have hF1:RF ds β' Z w (M<|H.set k ⟨c.set j<|.os (M H) ty.n 0 0,bt,.cl,X⟩++[(⟨[],t,.vec ty [],X⟩:AB)]) F a:=hF.mono AI b1 (λ_ h=>h) λ_ _=>rfl
    exact Jo us F _ Z β' F1 H1 hT hF1 h
   ·exact Ow
  ·exact Ow
 | .pc k j ty::us,F,H,Z,β,F1,H1,hW,hF,h=>by
  simp only [DR] at h;split at h
  ·rename_i c bt hb
   split at h
   ·rename_i hj
    have hT:=hW.tell (j:=j) (x:=.xl ty []) hb (λy ⟨z,hz,hr⟩=>by
     rw [hj] at hz
     have:=ED hz
     subst this;simp only [R] at hr|-;exact ⟨aj,0,hr,Aq _,λh=>by simp at h⟩) ⟨_,hj⟩ trivial
    exact Jo us F _ Z β F1 H1 hT (hF.mono AI (λ_ _=>rfl) (λ_ h=>h) λ_ _=>rfl) h
   ·rename_i k' es off n hj
    split at h
    ·rename_i hcl
     simp only [AX,DB] at hcl;obtain ⟨hcl,hnk⟩:=hcl;obtain ⟨_,hg,h2⟩:=T.B5 h
     have hG:GX H 6 (.os k' es off n):=T.Bb (K':=λ_=>True) (λ_ _=>trivial) hg
     obtain ⟨q1,q2⟩:=TE hcl
     have hP:=hW.pub<|reach H 64 [k'] []
     have hH:=λk b hb=>(hW.blk k b hb).2
     have hok:okV (M H) (.os k' es off n):=AT.get j _ (hH k _ hb).1 hj
     have hb':(Ft (reach H 64 [k'] []) 0 H)[k]? =ah ⟨c,bt,.cl,X⟩:=by
      rw [cx,hb];simp only [Jk,Eh,hnk];rfl
     have hT:=hP.tell (j:=j) (x:=C3 H 6<|.os k' es off n) hb' (λy ⟨z,hz,hr⟩=>by
      rw [hj] at hz
      have:=ED hz
      subst this
      have hr':R β Z w (.os k' es off n) y:=by simpa only [R] using hr
      exact Mv (S:=λj=>j∈reach H 64 [k'] []) hW q2 6 _ _ hG (λj hj=>q1 j aPD) hok hr') ⟨_,hj⟩<|okV.mono (NV _) _<|Qh H hH 6 _ hok
     exact Jo us F _ _ β F1 H1 hT (hF.mono (by simp [KN]) (λ_ _=>rfl) (λ_ h=> .inl h) λ_ _=>rfl) h2
    ·cases h
   ·exact Ow
  ·exact Ow
 | .pk k::us,F,H,Z,β,F1,H1,hW,hF,h=>by
  simp only [DR] at h
  have hP:=hW.pub<|reach H 64 [k] []
  have hF1:RF ds β (ZP Z β H λj=>j∈reach H 64 [k] []) w (M<|Ft (reach H 64 [k] []) 0 H) F a:=by
   exact aNe
  exact Jo us F _ _ β F1 H1 hP hF1 h
 | .kb k::us,F,H,Z,β,F1,H1,hW,hF,h=>Jo us F _ Z β F1 H1 (hW.kill k 0) (hF.mono AI (λ_ _=>rfl) (λ_ h=>h) λ_ _=>rfl) nD
 | .mc k j::us,F,H,Z,β,F1,H1,hW,hF,h=>by
  simp only [DR] at h;split at h
  ·rename_i c bt hb
   split at h
   ·rename_i k' es off n hj
    split at h
    ·rename_i t e l hk'
     have hkk:k≠k':=λq=>by subst q;rw [hb] at hk';simp at hk'
     have hK:=hW.kill k' t
     obtain ⟨β',b1,b2,b3⟩:=hK.Km (ℓ:=β k') (nb:=⟨[],t,.vec e l,X⟩) rfl ⟨ak,ak⟩ (λhl=>by
       have hl':live β k' (⟨[],t,.vec e l,X⟩:AB):=hl
       refine ⟨hW.Ct k' _ hk' hl' rfl,hW.low k' _ hk' hl',λi bi hi li e=>?_⟩
       rw [IS] at hi;split at hi
       ·split at hi
        ·simp only [Ah] at hi;subst hi;exact li
        ·cases hi
       ·rename_i hne
        exact hne<|hW.inj k' i _ _ hk' hi hl' li rfl e.symm) (λβ' g1 g2=>by
       have:=(hW.blk k' _ hk').1
       simp only [Bc] at this|-;rw [g2];exact this)
     simp only [C4] at b1 b2
     have hlen:M (H.set k' ⟨[],t,.dead,X⟩++[(⟨[],t,.vec e l,X⟩:AB)])=M H+1:=AI
     have hb':(H.set k' ⟨[],t,.dead,X⟩++[(⟨[],t,.vec e l,X⟩:AB)])[k]? =ah ⟨c,bt,.cl,X⟩:=by
      have hkl:k<M H:=(EC.1 hb).1
      rw [Ho<|by simpa using hkl,Zm<|Ou hkk]
      exact hb
     have hk'l:k'<M H:=(EC.1 hk').1
     have hT:=b3.tell (j:=j) (x:=.os (M H) es off n) hb' (λy ⟨z,hz,hr⟩=>by
      rw [hj] at hz
      have:=ED hz
      subst this;simp only [R] at hr|-;rw [b1 k' hk'l] at hr;rw [b2];exact hr) ⟨_,hj⟩ (by rw [hlen];exact Zk _)
     have hF1:RF ds β' Z w (M<|(H.set k' ⟨[],t,.dead,X⟩++[(⟨[],t,.vec e l,X⟩:AB)]).set k ⟨c.set j<|.os (M H) es off n,bt,.cl,X⟩) F a:=hF.mono AI b1 (λ_ h=>h) λ_ _=>rfl
     exact Jo us F _ Z β' F1 H1 hT hF1 h
    ·exact Ow
   ·exact Ow
  ·exact Ow
 | .ms ..::us,F,H,Z,β,F1,H1,hW,hF,h=>Jo us F H Z β F1 H1 hW hF nD
 | .ns ..::us,F,H,Z,β,F1,H1,hW,hF,h=>Jo us F H Z β F1 H1 hW hF nD
 | .ps ..::us,F,H,Z,β,F1,H1,hW,hF,h=>Jo us F H Z β F1 H1 hW hF nD
def wj (H:aVB):LV->T LV
 | .os k es off n=>match H[k]? with
  |some ⟨_,_,.vec _ l,_⟩=> .req (off=0/\n=M l) (.ok<|.os k es 0<|M l)
  |_=> .ok (.os k es off n)
 |x=> .ok x
def VT (H:aVB):aVy->T (List LV)
 | []=> .ok []
 |x::xs=>(wj H x).bind λy=>(VT H xs).bind λys=> .ok (y::ys)
def atw {x y:LV}(h:(wj H x).all λz=>z=y):y=x:=by
 unfold wj at h;split at h
 ·split at h
  ·simp only [T.all] at h
   obtain ⟨⟨rfl,rfl⟩,h⟩:=h;exact h.symm
  ·exact h.symm
 ·exact h.symm
def di:∀ {l l':aVy},(VT H l).all (λz=>z=l')->l'=l
 | [],l',h=>h.symm
 |x::xs,l',h=>by
  obtain ⟨y,h1,h2⟩:=T.B5 h;obtain ⟨ys,h3,h4⟩:=T.B5 h2;rw [<-h4,atw h1,di h3]
def bq (H:aVB):aVB->T (List AB)
 | []=> .ok []
 |b::bs=>(VT H b.c).bind λc=>(bq H bs).bind λcs=> .ok (⟨c,b.t,b.k,b.p⟩::cs)
def fQ:∀ {l l':aVB},(bq H l).all (λz=>z=l')->l'=l
 | [],l',h=>h.symm
 |b::bs,l',h=>by
  obtain ⟨c,h1,h2⟩:=T.B5 h;obtain ⟨cs,h3,h4⟩:=T.B5 h2;rw [<-h4,di h1,fQ h3]
structure Vw where
 ex:Ex
 len:aVx
 vals:aVy
 JT:aVB
 low:aVH
def VG (N:aVx) (H:aVB) (vals:aVy):aVC:=reach H 400 (ownsL vals++(H.take N).flatMap AB.owns)<|au N
def ang (N:aVx) (live:aVC) (x:Ex) (n:aVx) (F:aVy) (H:aVB):T Vw:=
 (VT H<|UI live F).bind λvals=>(bq H<|(VG N H vals).map λk=>H.getD k Uu).bind λbs=>
  .ok ⟨x,n,renL (VG N H vals) vals,bs.map<|Ij<|VG N H vals,
   KZ H (VG N H vals) vals&&nodupB (VG N H vals)&&nr N (VG N H vals)⟩
def GO (N:aVx) (live:aVC) (us:aWz) (x:Ex) (F:aVy) (H:aVB):T Vw:=(DR (us.map<|ant F) F H).bind λq=>ang N live x (M F) q.1 q.2
def ck {N:aVx}{live:aVC}{us:aWz}{x:Ex}{v:Vw}(hgh:AN N Z0) (hW:RW G w0 Z0 Z β H w) (hF:RF ds β Z w (M H) F a) (h:(GO N live us x F H).all λz=>z=v) (hl:v.low=U):
  v.ex=x/\v.len=M F/\∃Z' β',RW G w0 Z0 Z' β' v.JT w/\RF ds β' Z' w (M v.JT) (I0 (M F) live v.vals) a:=by
 obtain ⟨⟨F1,H1⟩,h0,h⟩:=T.B5 h;obtain ⟨Z1,β1,c1,c2,c3⟩:=Jo _ F H Z β F1 H1 hW hF h0;obtain ⟨vals,h1,h2⟩:=T.B5 h;obtain ⟨bs,h2b,h2⟩:=T.B5 h2
 have h3:=di h1
 have h4:=fQ h2b
 subst h3;subst h4;rw [HI] at h2;subst h2;refine ⟨rfl,rfl,?_⟩;simp only [AX] at hl;obtain ⟨β2,d1,d2⟩:=c1.ren hgh hl.1.1 hl.1.2 hl.2;obtain ⟨v1,v2⟩:=apy (live:=live) c2;obtain ⟨k1,_⟩:=TE hl.1.1;refine ⟨Z1,β2,d2,apH (by rw [hF.size]) c2.defers (ren_RL d1 _ _ k1 v2 v1) ?_⟩
 rw [GG];exact ren_okL _ k1 v2
inductive Rd (σ:Type) where
 |next (s:σ)
 |stop (x:Ex) (s:σ)
def rdV {σ:Type}(n:aVx) (A:σ->aVy) (B:σ->aVB):Rd σ->Vw
 | .next s'=>⟨.normal,n,A s',B s',U⟩
 | .stop x s'=>⟨x,n,A s',B s',U⟩
structure Sp {α:Type} (K:α->Prop) (t:T α):Prop where
 out:t.all K
def DY {σ:Type}(f:σ->Rd σ):aVx->σ->Ex×σ
 |0,s=>(.ret,s)
 |k+1,s=>match f s with
  | .next s'=>DY f k s'
  | .stop x s'=>(x,s')
def aEv {σ:Type}{f:σ->Rd σ}{μ:σ->aVx}{I:σ->Prop}(hd:∀s s',I s->f s=.next s'->I s'/\μ s'<μ s):∀(k:aVx) (s:σ),I s->μ s<k->∃s',I s'/\f s'=.stop (DY f k s).1 (DY f k s).2
 |0,s,_,h=>A0
 | k+1,s,hi,hk=>by
  simp only [DY];cases hf:f s with
  |next s'=>
   obtain ⟨h1,h2⟩:=hd s s' hi hf;exact aEv hd k s' h1 A0
  |stop x s'=>exact ⟨s,hi,hf⟩
def T.agree {α:Type}{K:α->Prop}{p:α}:∀ {t:T α},t.all (λx=>x=p)->t.all K->K p
 | .ok _,h,hk=>by simp only [T.all] at h hk;exact h▸hk
 | .br b t e,h,hk=>by
  cases b with
  |true=>exact T.agree (h.1 rfl) (hk.1 rfl)
  |false=>exact T.agree (h.2 rfl) (hk.2 rfl)
 | .req _ t,h,hk=>T.agree h.2 hk.2
 | .no,_,h=>Ar
def aB3 {σ:Type}(N n:aVx) (live:aVC) (us:aWz) (sel:aVy->aVB->T σ) (out:σ->T (Ex×List LV×List AB)) (F:aVy) (H:aVB):T (Ex×List LV×List AB):=
 if M F=n then ((GO N live us .normal F H).bind λv=>if v.low then sel v.vals v.JT else .no).bind out else .no
def jZ (N:aVx) (live:aVC) (us:aWz) (t:T<|Ex×List LV×List AB):T Vw:=t.bind λq=>GO N live us q.1 q.2.1 q.2.2
def gI:LV->Int
 | .v (.int _ n)=>n
 | .ki _ n=>n
 |_=>0
def gBo:LV->Bool
 | .v (.bool b)=>b
 | .bl b=>b
 |_=>X
def gSr:LV->ByteArray
 | .v (.string s)=>s
 |_=>ByteArray.empty
def HD:LV->Value
 | .v y=>y
 |_=>undef
def As (e:Ty) (x:LV):List e.D:=(NL e x).getD []
def EK (x:LV) (j:aVx):LV:=
 match x with
 | .v (.agg ys)=> .v (ys.toList.getD j undef)
 | .agg l=>l.getD j .junk
 | .v (.tuple ys)=> .v (ys.toList.getD j undef)
 | .AO l=>l.getD j .junk
 |_=> .junk
def gFn (x:LV) (j:aVx):LV:=
 match x with
 | .fn _ l=>l.getD j .junk
 | .fb _ l=>l.getD j .junk
 |_=> .junk
def BU (x:LV) (j:aVx):LV:=
 match x with
 | .xq _ f=>f j
 |_=> .junk
def Cc (H:aVB) (k:aVx):AB:=H.getD k ⟨[],0,.dead,X⟩
def BC (b:AB) (j:aVx):LV:=b.c.getD j .junk
def gVe (e:Ty) (b:AB):List e.D:=
 match b.k with
 | .vec e' l=>(match K0 e' e with
  |some ⟨h⟩=>Ks h l
  |none=>[])
 |_=>[]
def AL (v:aVy) (k:aVx):Y:=gI<|v.getD k .junk
def EP (v:aVy) (k:aVx):aVH:=gBo<|v.getD k .junk
def B9 (e:Ty) (v:aVy) (k:aVx):List e.D:=As e<|v.getD k .junk
def Ak (b:aVB) (k j:aVx):Y:=gI<|BC (Cc b k) j
def Lc (b:aVB) (k j:aVx):aVH:=gBo<|BC (Cc b k) j
def AG (e:Ty) (b:aVB) (k j:aVx):List e.D:=As e<|BC (Cc b k) j
def Ad (e:Ty) (b:aVB) (k:aVx):List e.D:=gVe e<|Cc b k
def gSe (e:Ty) (b:AB):List e.D:=
 match b.k with
 | .st e' l=>(match K0 e' e with
  |some ⟨h⟩=>Ks h l
  |none=>[])
 |_=>[]
def aLE {σ:Type}(E:σ->Prop) (A:σ->aVy) (B:σ->aVB) (s:σ) (vals:aVy) (JT:aVB):T σ:=.req (E s/\vals=A s/\JT=B s)<|.ok s
def as1 {σ:Type}{E:σ->Prop}{A:σ->aVy}{B:σ->aVB}{s0 s:σ}{vals:aVy}{JT:aVB}(h:(aLE E A B s0 vals JT).all λx=>x=s):E s/\vals=A s/\JT=B s:=by
 obtain ⟨h1,rfl⟩:=h;exact h1
def afR {σ:Type}(N n:aVx) (live:aVC) (us:aWz) (A:σ->aVy) (B:σ->aVB) (I E:σ->Prop) (μ:σ->aVx) (f:σ->Rd σ) (sel:aVy->aVB->T σ) (out:σ->T (Ex×List LV×List AB)) {b:aV7}{t:aVy->aVB->T (Ex×List LV×List AB)}(hb:Gr P G (AN N) b t)
  (hsel:∀vals JT s,(sel vals JT).all (λx=>x=s)->E s/\vals=A s/\JT=B s) (hEI:∀s,E s->I s)
  (hd:∀s s',I s->f s=.next s'->I s'/\μ s'<μ s)
  (hne:∀s x s',f s=.stop x s'->x≠ .normal)
  (step':∀s,I s->Sp (λv=>v=rdV n A B (f s)) (jZ N live us<|t (I0 n live<|A s)<|B s))
  (hout:∀s,E s->(out s).all λq=>q=((DY f (μ s+1) s).1,I0 n live<|A (DY f (μ s+1) s).2,B (DY f (μ s+1) s).2)):
  Gr P G (AN N) (.loop b) (aB3 N n live us sel out):=by
 intro r w0 Z0 Z β F H a w ds Q x F' H' hgh hr hD hW hF h hQ;unfold aB3 at h;split at h
 ·rename_i hlen
  obtain ⟨s,h0,h2⟩:=T.B5 h;obtain ⟨v,hv,h1⟩:=T.B5 h0;split at h1
  ·rename_i hlow
   obtain ⟨hE,hvv,hbk⟩:=hsel _ _ s h1
   have h2:=T.agree h2<|hout s hE
   obtain ⟨_,_,Z1,β1,hW1,hF1⟩:=ck hgh hW hF hv hlow;refine wpIn_loop_rounds (μ s+1) ?_
   have key:∀(k:aVx) (s:σ) (ds:aWd) (Z:aVx->Prop) (β:aVx->aWe) (a:aVX) (w:aVJ),I s->μ s<k->ME w0 Z0 ds->RW G w0 Z0 Z β (B s) w->RF ds β Z w (M<|B s) (I0 n live<|A s) a->
     (∀ds' Z' β' a' w',ME w0 Z0 ds'->RW G w0 Z0 Z' β' (B (DY f k s).2) w'->RF ds' β' Z' w' (M<|B (DY f k s).2) (I0 n live<|A (DY f k s).2) a'->Q (we (DY f k s).1) a' w')->Code.roundsIn (Dg r) 0 P b Q k a w:=by
    intro k
    induction k with
    |zero=>intro s ds Z β a w _ h;omega
    | succ k ih=>
     intro s ds Z β a w hI hm hD hW hF hQ;obtain ⟨v,h1,h2⟩:=T.pick (step' s hI).out;obtain ⟨⟨x,F1,H1⟩,h3,h4⟩:=T.B5 h2;refine hb r w0 Z0 Z β _ (B s) a w ds _ x F1 H1 hgh hr hD hW hF h3 λds' Z' β' a' w' e0 e1 e2=>?_
     cases hf:f s with
     |next s'=>
      rw [hf] at h1;subst h1;obtain ⟨g1,g2,Z2,β2,k1,k2⟩:=ck hgh e1 e2 h4 rfl;subst g1;obtain ⟨i1,i2⟩:=hd s s' hI hf;rw [<-g2] at k2;refine ih s' ds' Z2 β2 a' w' i1 A0 e0 k1 k2 ?_
      have:DY f (k+1) s=DY f k s':=by simp only [DY,hf]
      rw [this] at hQ;exact hQ
     |stop y s'=>
      rw [hf] at h1;subst h1;obtain ⟨g1,g2,Z2,β2,k1,k2⟩:=ck hgh e1 e2 h4 rfl;subst g1
      have hn:=hne s y s' hf
      rw [<-g2] at k2
      have:DY f (k+1) s=(y,s'):=by simp only [DY,hf]
      rw [this] at hQ
      have hq:=hQ ds' Z2 β2 a' w' e0 k1 k2
      cases y with
      |normal=>exact absurd rfl hn
      |exit k=>exact hq
      |ret=>exact hq
   grind
  ·cases h1
 ·cases h
def DV {σ:Type}(Pn:σ->Prop) (Ps:Ex->σ->Prop):Rd σ->Prop
 | .next s=>Pn s
 | .stop x s=>Ps x s
def AH {σ:Type}{Pn:σ->Prop}{Ps:Ex->σ->Prop}{c:aVH}{x y:Rd σ}(h1:c=U->DV Pn Ps x) (h2:c=X->DV Pn Ps y):DV Pn Ps (if c=U then x else y):=by
 cases c with
 |true=>exact h1 rfl
 |false=>exact h2 rfl
def afy {σ:Type}{Pn:σ->Prop}{Ps:Ex->σ->Prop}{r:Rd σ}(h:DV Pn Ps r) {s:σ}(e:r=.next s):Pn s:=by subst e;exact h
def ct {σ:Type}{Pn:σ->Prop}{Ps:Ex->σ->Prop}{r:Rd σ}(h:DV Pn Ps r) {x:Ex}{s:σ}(e:r=.stop x s):Ps x s:=by subst e;exact h
def Bs:Ex->Ex->Bool
 | .normal,.normal=>U
 | .ret,.ret=>U
 | .exit n,.exit m=>n==m
 |_,_=>X
def aGA {S Y:Type}{f:S->Rd S}{I:S->Prop}{μ:S->aVx}{V:S->Y}{Q:Ex->S->Y->Prop}(hd:∀s s',I s->f s=.next s'->I s'/\μ s'<μ s) (hv:∀s,I s->DV (λs'=>V s'=V s) (λx s'=>Q x s'<|V s) (f s)):∀(k:aVx) (s:S),I s->μ s<k->Q (DY f k s).1 (DY f k s).2 (V s)
 |0,s,_,h=>A0
 | k+1,s,h,hk=>by
  have h2:=hv s h
  simp only [DY];cases e:f s with
  |next s'=>
   rw [e] at h2;obtain ⟨d1,d2⟩:=hd s s' h e
   have:=aGA hd hv k s' d1 A0
   rwa [show V s=V s' from h2.symm]
  |stop x s'=>
   rw [e] at h2;exact h2
def T.rd {σ:Type}(s:σ):T (Rd σ)->Rd σ
 | .ok x=>x
 | .br b x y=>if b=U then x.rd s else y.rd s
 | .req _ x=>x.rd s
 | .no=> .next s
def T.mp {α β:Type}(k:α->β):T α->T β
 | .ok x=> .ok (k x)
 | .br b x y=> .br b (x.mp k) (y.mp k)
 | .req p x=> .req p (x.mp k)
 | .no=> .no
def T.XU {α β:Type}{k:α->β}{K:β->Prop}:∀ {t:T α},t.all (λx=>K<|k x)->(t.mp k).all K
 | .ok _,h=>h
 | .br _ _ _,h=>⟨λc=>T.XU<|h.1 c,λc=>T.XU<|h.2 c⟩
 | .req _ _,h=>⟨h.1,T.XU h.2⟩
 | .no,h=>h
def T.ft {σ:Type}{s:σ}:∀ {t:T<|Rd σ},t.all (λ_=>True)->t.all (λx=>x=t.rd s)
 | .ok _,_=>rfl
 | .br b _ _,h=>by
  cases b with
  |true=>exact ⟨λc=>T.ft<|h.1 c,λc=>F6⟩
  |false=>exact ⟨λc=>F6,λc=>T.ft<|h.2 c⟩
 | .req _ _,h=>⟨h.1,T.ft h.2⟩
 | .no,h=>h
def T.UF {σ:Type}{s:σ}{k:Rd σ->Rd σ}(h0:k (.next s)=.next s):∀ {t:T<|Rd σ},t.mp k=t->k (t.rd s)=t.rd s
 | .ok x,h=>by
  simp only [T.mp,T.ok.injEq] at h;simp only [T.rd,h]
 | .br b x y,h=>by
  simp only [T.mp,T.br.injEq,Ez] at h;simp only [T.rd];split
  ·exact T.UF h0 h.1
  ·exact T.UF h0 h.2
 | .req _ x,h=>by
  simp only [T.mp,T.req.injEq,Ez] at h;exact T.UF (t:=x) h0 h
 | .no,_=>h0
structure AS (σ:Type) where
 (N n:aVx)
 lv:aVC
 us:aWz
 A:σ->List LV
 B:σ->List AB
 g:aVy->aVB->σ
 t:σ->T (Rd σ)
 kp:σ->σ->σ
 rd:σ->σ
 fx:Ex->σ->σ
 xs:aWG
 (E I:σ->Prop)
 mu:σ->Nat
def outT {β:Type}(e:Ex) (k:Ex->β):aWG->T β
 | []=> .no
 | [x]=> .ok (k x)
 |x::y::xs=> .br (Bs e x) (.ok<|k x)<|outT e k (y::xs)
def Wm:∀ {x y:Ex},Bs x y=U->x=y
 | .normal,.normal,_=>rfl
 | .ret,.ret,_=>rfl
 | .exit _,.exit _,h=>by simpa [Bs] using h
def aFr {β:Type}{e:Ex}{k:Ex->β}:∀ {xs:aWG},xs.any (Bs e)=U->(outT e k xs).all (λq=>q=k e)
 | [],h=>Ar
 | [x],h=>by
  simp only [aD,mG,Bool.or_false] at h;rw [Wm h];rfl
 |x::y::xs,h=>by
  refine ⟨λc=>?_,λc=>aFr ?_⟩
  ·rw [Wm c];rfl
  ·grind
def LY {σ:Type}(xs:aWG):T (Rd σ)->Bool
 | .ok (.next _)=>U
 | .ok (.stop x _)=>xs.any (Bs x)&&!Bs x .normal
 | .br _ x y=>LY xs x&&LY xs y
 | .req _ x=>LY xs x
 | .no=>U
def Xa {σ:Type}{xs:aWG}{s s':σ}{x:Ex}:∀ {t:T<|Rd σ},LY xs t=U->t.rd s=.stop x s'->xs.any (Bs x)=U/\x≠ .normal
 | .ok (.next _),_,h=>Ar
 | .ok (.stop y _),h,e=>by
  simp only [T.rd,Rd.stop.injEq] at e;simp only [LY,AX,DB] at h;rw [e.1] at h;refine ⟨h.1,λe=>?_⟩
  rw [e] at h;exact absurd h.2 (by simp [Bs])
 | .br b x y,h,e=>by
  simp only [LY,AX] at h;simp only [T.rd] at e;split at e
  ·exact Xa h.1 e
  ·exact Xa h.2 e
 | .req _ x,h,e=>Xa (t:=x) h e
 | .no,_,h=>Ar
namespace AS
variable {σ : Type} (D : AS σ)
def f (s:σ):Rd σ:=(D.t s).rd s
def run (s:σ):σ:=D.kp s (DY D.f (D.mu s+1) s).2
def Au (s:σ):Ex:=(DY D.f (D.mu s+1) s).1
def sel (vals:aVy) (JT:aVB):T σ:=aLE D.E D.A D.B (D.g vals JT) vals JT
def out (s:σ):T (Ex×List LV×List AB):=outT (D.Au s) (λx=>(x,I0 D.n D.lv<|D.A<|D.fx x<|D.run s,D.B<|D.fx x<|D.run s)) D.xs
def lp:aVy->aVB->T (Ex×List LV×List AB):=aB3 D.N D.n D.lv D.us D.sel D.out
def q (s:σ):Prop:=D.E s/\D.A s=D.A s/\D.B s=D.B s
def Il (s:σ):Rd σ->Rd σ
 | .next s'=> .next (D.kp s s')
 | .stop x s'=> .stop x<|D.kp s s'
def fxR:Rd σ->Rd σ
 | .next s'=> .next s'
 | .stop x s'=> .stop x<|D.fx x s'
structure Ok:Prop where
 keep:∀s,(D.t (D.rd s)).mp (D.Il (D.rd s))=D.t (D.rd s):=by intro s;kernel_rfl
 fix:∀s,D.I (D.rd s)->DV (λ_=>True) (λx s'=>D.fx x s'=s') ((D.t (D.rd s)).rd (D.rd s)):=by intro s _;exact AS.amP _ (by kernel_rfl)
 al9:∀s,D.kp s s=s:=by intros;rfl
 al8:∀s t r,D.kp (D.kp s t) r=D.kp s r:=by intros;rfl
 fx0:∀s,D.fx .normal (D.rd s)=D.rd s:=by intros;rfl
 exs:∀s,LY D.xs (D.t s)=true:=by intro s;kernel_rfl
def amP {s:σ}(h:(D.t s).mp D.fxR=D.t s):DV (λ_=>True) (λx s'=>D.fx x s'=s') ((D.t s).rd s):=by
 have hx:=T.UF (s:=s) (by simp only [fxR]) h
 cases hf:(D.t s).rd s with
 |next s'=>exact ak
 |stop x s'=>
  rw [hf] at hx;simp only [fxR,Rd.stop.injEq,Ez] at hx;exact hx
structure Pf (Q:Ex->σ->σ->Prop):Prop where
 ei:∀s,D.E s->D.I s
 rdy:∀s,D.I s->D.rd s=s
 da:∀s,D.I s->DV (λs'=>D.I s'/\D.mu s'<D.mu s) (λx s'=>Q x s s') (D.f s)
 rq:∀s,D.I s->(D.t s).all (λ_=>True)
variable {D} {Q : Ex -> σ -> σ -> Prop}
def Pf.nx (p:D.Pf Q) (s s':σ) (h:D.I s) (e:D.f s=.next s'):D.I s'/\D.mu s'<D.mu s:=afy (p.da s h) e
def kept (o:D.Ok) (p:D.Pf Q):∀(k:aVx) (s:σ),D.I s->D.mu s<k->D.kp s (DY D.f k s).2=(DY D.f k s).2/\D.fx (DY D.f k s).1 (DY D.f k s).2=(DY D.f k s).2/\D.xs.any (Bs (DY D.f k s).1)=U
 |0,_,_,h=>A0
 | k+1,s,hI,hk=>by
  have h1:=o.keep s
  have h2:=o.fix s
  have h0:=o.fx0 s
  rw [p.rdy s hI] at h0 h1 h2
  have hl:=T.UF (s:=s) (by simp only [Il,o.al9]) h1
  have hx:=h2 hI
  change D.Il s (D.f s)=D.f s at hl
  simp only [DY];cases hf:D.f s with
  |next s'=>
   rw [hf] at hl;simp only [Il,Rd.next.injEq] at hl;obtain ⟨h1,h2⟩:=p.nx s s' hI hf;obtain ⟨h3,h4⟩:=kept o p k s' h1 A0;refine ⟨?_,h4⟩
   have e:=o.al8 s s' (DY D.f k s').2
   rw [hl,h3] at e;exact e.symm
  |stop x s'=>
   have hx:=ct hx hf
   rw [hf] at hl;simp only [Il,Rd.stop.injEq,Ez] at hl;exact ⟨hl,hx,(Xa (o.exs s) hf).1⟩
def run_eq (o:D.Ok) (p:D.Pf Q) {s:σ}(hE:D.E s):(DY D.f (D.mu s+1) s).2=D.run s:=(kept o p _ s (p.ei s hE)<|Zk _).1.symm
def end_ (o:D.Ok) (p:D.Pf Q) (s:σ) (hE:D.E s):∃s',D.I s'/\D.f s'=.stop (D.Au s) (D.run s):=by
 rw [<-run_eq o p hE];exact aEv p.nx (D.mu s+1) s (p.ei s hE)<|Zk _
def fin (o:D.Ok) (p:D.Pf Q) (s:σ) (hE:D.E s):∃s',D.I s'/\Q (D.Au s) s' (D.run s):=by
 obtain ⟨s',hI,hf⟩:=end_ o p s hE;exact ⟨s',hI,ct (p.da s' hI) hf⟩
def snd (o:D.Ok) (p:D.Pf Q) {b:aV7}{t:aVy->aVB->T (Ex×List LV×List AB)}(hb:Gr P G (AN D.N) b t)
  (hn:∀s,jZ D.N D.lv D.us (t (I0 D.n D.lv<|D.A<|D.rd s)<|D.B<|D.rd s)=(D.t<|D.rd s).mp (rdV D.n D.A D.B)):Gr P G (AN D.N) (.loop b) D.lp:=by
 refine afR D.N D.n D.lv D.us D.A D.B D.I D.E D.mu D.f D.sel D.out hb (λ_ _ _ h=>as1 h) p.ei p.nx (λs x s' hf=>(Xa (o.exs s) hf).2) (λs hI=>⟨?_⟩) λs hE=>?_
 ·have h:=hn s
  rw [p.rdy s hI] at h;rw [h];exact T.XU<|T.Bb (λx hx=>by rw [hx];rfl)<|T.ft (s:=s)<|p.rq s hI
 ·obtain ⟨h1,h2,h3⟩:=kept o p _ s (p.ei s hE) (Zk<|D.mu s)
  have h4:=aFr (k:=λx=>(x,I0 D.n D.lv<|D.A<|D.fx x<|D.run s,D.B<|D.fx x<|D.run s)) h3
  refine T.Bb (λq hq=>?_) h4
  rw [hq];simp only [run,h1,h2]
def wq (o:D.Ok) (p:D.Pf Q) {Y:Type}(V:σ->Y) (K:Ex->σ->Y->Prop) (hv:∀s,D.I s->DV (λs'=>V s'=V s) (λx s'=>K x s'<|V s) (D.f s)) (s:σ) (hE:D.E s):K (D.Au s) (D.run s) (V s):=by
 rw [<-run_eq o p hE];exact aGA p.nx hv (D.mu s+1) s (p.ei s hE)<|Zk _
def Kn (o:D.Ok) (p:D.Pf Q) {Y:Type}(V:σ->Y) (hv:∀s,D.I s->DV (λs'=>V s'=V s) (λ_ s'=>V s'=V s) (D.f s)) (s:σ) (hE:D.E s):V (D.run s)=V s:=wq o p V (λ_ s' v=>V s'=v) hv s hE
def stR (s:σ):Rd σ->Rd σ
 | .next s'=> .next s'
 | .stop x _=> .stop x s
def inv (o:D.Ok) (p:D.Pf Q) (hs:∀s,(D.t s).mp (stR s)=D.t s) (s:σ) (hE:D.E s):D.I (D.run s)/\D.f (D.run s)=.stop (D.Au s) (D.run s):=by
 obtain ⟨s',hI,hf⟩:=end_ o p s hE
 have h:=T.UF (s:=s') (k:=stR s') rfl<|hs s'
 have h:stR s' (D.f s')=D.f s':=h
 simp only [stR,Rd.stop.injEq,Ez] at h
 grind
end AS
abbrev T.ix {α:Type}(i:Y) (n:aVx) (t:T α):T α:=.req (0<=i/\i<(n:Y)) t
abbrev T.ik {α:Type}(i:Y) (n:aVx) (t:T α):T α:=.ix i n<|.req (i.toNat<n) t
abbrev T.rz {α β:Type}(l:List β) (t:T α):T α:=.req (0+(M l)<=M l) t
abbrev T.rm {α:Type}(w n:Y) (t:T α):T α:=.req (0<=n/\n<=n/\w*n<=2^48/\n<2^63) t
abbrev T.ra {α:Type}(n m k:aVx) (w:Y) (t:T α):T α:=.req (0+n=m/\(k:Y)*w<=2^47/\(k:Y)<2^62) t
abbrev T.rb {α:Type}(n x:aVx) (w:Y) (t:T α):T α:=.ra n n (n+x) w t
abbrev T.re {α β:Type}(n:aVx) (l:List β) (t:T α):T α:=.req (0=0/\n=M l) t
abbrev T.r0 {α:Type}(β:Type) (t:T α):T α:=.re 0 ([]:List β) t
abbrev T.rc {α β:Type}(n:Y) (d:β) (k:aVx) (t:T α):T α:=.req (n.toNat=M (aq n.toNat d)/\k<=n.toNat) t
abbrev T.nx {σ:Type}(s:σ):T (Rd σ):=.ok<|.next s
abbrev T.so {σ:Type}(x:Ex) (s:σ):T (Rd σ):=.ok<|.stop x s
abbrev T.tu (l:aVS):T LV:=.ok<|.v<|.tuple l
instance:Coe Int LV:=⟨λx=> .v<|ag J x⟩
instance:Coe Bool LV:=⟨λx=> .v<|.bool x⟩
instance:Coe Int Value:=⟨.int J⟩
instance:Coe Bool Value:=⟨.bool⟩
instance:Coe (List Int) LV:=⟨λl=> .xl (.int J) l⟩
instance:Coe (List ByteArray) LV:=⟨λl=> .xl .str l⟩
abbrev xQ (n:aVx) (l:aVy):LV:=.xq n λj=>l.getD j .junk
abbrev AP:AB:=⟨[],0,.dead,X⟩
abbrev bV (k:aVx) (e:Ty) (l:List e.D):AB:=⟨[],k,.vec e l,X⟩
end Go.Sx
namespace Go.Sx
open Go Go.RowKit Go.Proofs.YtjdlmobanmhohaaGreatDoor
variable {P : Program} {G : B3} {Γ : Specs} {K : Hand} {L : M3} {β : Nat -> Loc} {Z : Nat -> Prop} {w : World} {n : Nat}
def Bl (k:aWh) (x y:Y):Y:=k.wrap<|(BitVec.ofInt k.bits x&&&BitVec.ofInt k.bits y).toNat
def Dc (k:aWh) (x y:Y):Y:=k.wrap<|(BitVec.ofInt k.bits x |||BitVec.ofInt k.bits y).toNat
def aLA (k:aWh) (x y:Y):Y:=k.wrap<|(BitVec.ofInt k.bits x^^^BitVec.ofInt k.bits y).toNat
def gi (l:aVw) (n:Y):Y:=l.getD n.toNat 0
def Ia {l:aVw}{n:Y}(h:n.toNat<M l):gi l n=l[n.toNat]:=by simp [gi,List.getD,Dh h]
def Ki {l:aVw}{n:Y}(h:n.toNat<M l):gi l n∈l:=by rw [Ia h];exact Gf h
def jS {α:Type}{f:LV->Option α}{l:aVy}{d:α}{ys:aVO}(h:hd1 f l=ah d) (hr:RL β Z w l ys):∃x y,f x=ah d/\ys=[y]/\R β Z w x y:=by
 unfold hd1 at h;split at h
 ·rename_i x
  simp only [RL] at hr
  grind
 ·cases h
def RL.one {x:LV}{y:aVQ}(h:R β Z w x y):RL β Z w [x] [y]:=by simp only [RL];exact ⟨y,[],rfl,h,rfl⟩
def dK:∀(t:Ty) (cs:aVy) (d:t.D) (ys:aVO),K4 t cs=ah d->RL β Z w cs ys->RL β Z w (Br t d) ys
 | .int k,cs,d,ys,h,hr=>by
  obtain ⟨x,y,h1,rfl,h3⟩:=jS h hr;unfold x6 at h1;split at h1
  ·split at h1
   ·rename_i hk;simp only [Ah] at h1;subst h1 hk;exact RL.one h3
   ·cases h1
  ·split at h1
   ·rename_i hk;simp only [Ah] at h1;subst h1 hk;exact RL.one aPP
   ·cases h1
  ·cases h1
 | .bool,cs,d,ys,h,hr=>by
  obtain ⟨x,y,h1,rfl,h3⟩:=jS h hr;unfold x7 at h1;split at h1
  ·simp only [Ah] at h1;subst h1;exact RL.one h3
  ·simp only [Ah] at h1;subst h1;exact RL.one aPP
  ·cases h1
 | .str,cs,d,ys,h,hr=>by
  obtain ⟨x,y,h1,rfl,h3⟩:=jS h hr;unfold wz at h1;split at h1
  ·simp only [Ah] at h1;subst h1;exact RL.one h3
  ·cases h1
 | .sl e,cs,d,ys,h,hr=>by
  obtain ⟨x,y,h1,rfl,h3⟩:=jS h hr;exact RL.one (wN h1 h3)
 | .pair a b,cs,d,ys,h,hr=>by
  simp only [K4] at h;split at h
  ·rename_i x y h1 h2
   simp only [Ah] at h;subst h
   have e1:=dK a _ x _ h1<|hr.take a.n
   have e2:=dK b _ y _ h2<|hr.drop a.n
   rw [<-List.take_append_drop a.n ys];exact e1.app e2
  ·cases h
def upV (P:aVM) (t:aVN) (x:LV):LV:=
 match Ih P 8 t,SZ P t with
 | some ty,ah U=>match x with
  | .v (.agg ys)=>(match K4 ty (ys.toList.map .v) with
   |some d=>Jz (Br ty d)
   |none=>x)
  | .agg l=>(match K4 ty l with
   |some d=>Jz (Br ty d)
   |none=>x)
  |_=>x
 | some ty,ah X=>(match K4 ty [x] with
  |some d=>(match Br ty d with
   | [c]=>c
   |_=>x)
  |none=>x)
 |_,_=>x
def GS (P:aVM):aV4->aVy->List LV
 |t::ts,x::xs=>upV P t x::GS P ts xs
 |_,xs=>xs
def upR (P:aVM) (ts:aV4) (x:LV):LV:=
 match ts with
 | [t]=>upV P t x
 |ts=>match x with
  | .v (.tuple ys)=>RY (GS P ts<|ys.toList.map .v)
  | .AO l=>RY (GS P ts l)
  |x=>x
def RL.plain:∀(ys:aVO),RL β Z w (ys.map .v) ys
 | []=>bT
 |y::ys=>by simp only [ET,RL];exact ⟨y,ys,rfl,Jm,RL.plain ys⟩
def aF3:∀(ys:aVO),AT n (ys.map .v)
 | []=>trivial
 |y::ys=>⟨ak,aF3 ys⟩
def aaW {t:aVN}{x:LV}{y:aVQ}(h:R β Z w x y):R β Z w (upV P t x) y:=by
 unfold upV;split
 ·split
  ·split
   ·rename_i d hd
    subst h;exact WT<|dK _ _ d _ hd<|RL.plain _
   ·exact h
  ·split
   ·rename_i d hd
    obtain ⟨ys,rfl,h2⟩:=h;exact WT<|dK _ _ d _ hd h2
   ·exact h
  ·exact h
 ·split
  ·rename_i d hd
   split
   ·rename_i c hc
    have:=dK _ _ d _ hd<|RL.one h
    rw [hc] at this;obtain ⟨y',zs,e1,e2,e3⟩:=this
    grind
   ·exact h
  ·exact h
 ·exact h
def aPj {t:aVN}{x:LV}(h:okV n x):okV n (upV P t x):=by
 unfold upV;split
 ·split
  ·split
   ·exact Qk<|No _ _ _
   ·exact h
  ·split
   ·exact Qk<|No _ _ _
   ·exact h
  ·exact h
 ·split
  ·rename_i d hd
   split
   ·rename_i c hc
    have:=No n _ d
    rw [hc] at this;exact this.1
   ·exact h
  ·exact h
 ·exact h
def iu:∀ {ts:aV4}{l:aVy}{ys:aVO},RL β Z w l ys->RL β Z w (GS P ts l) ys
 | [],l,ys,h=>nF
 |_::_,[],ys,h=>nF
 |t::ts,x::xs,ys,h=>by
  obtain ⟨y,zs,h1,h2,h3⟩:=h;exact ⟨y,zs,h1,aaW h2,iu h3⟩
def gC:∀ {ts:aV4}{l:aVy},AT n l->AT n (GS P ts l)
 | [],l,h=>nF
 |_::_,[],h=>nF
 |t::ts,x::xs,h=>by
  exact ⟨aPj h.1,gC h.2⟩
def ajR {ts:aV4}{x:LV}{y:aVQ}(h:R β Z w x y):R β Z w (upR P ts x) y:=by
 unfold upR;split
 ·exact aaW h
 ·split
  ·simp only [R] at h
   subst h;exact sT<|iu<|RL.plain _
  ·simp only [R] at h
   obtain ⟨ys,rfl,h2⟩:=h;exact sT<|iu h2
  ·exact h
def awu {ts:aV4}{x:LV}(h:okV n x):okV n (upR P ts x):=by
 unfold upR;split
 ·exact aPj h
 ·split
  ·exact qi<|gC<|aF3 _
  ·exact qi<|gC<|by simpa only [okV] using h
  ·exact h
def KE (P:aVM) (ts:aV4) (S:aVy->T LV):aVy->T LV:=λl=>S<|GS P ts l
def Valid.up {f:aVY}{S:aVy->T LV}(h:Valid P G f S) (ts:aV4):Valid P G f (KE P ts S):=by
 intro args vals w Z lv hz hg hok hr hs;exact h (GS P ts args) vals w Z lv hz hg (gC hok) (iu hr) hs
/-A pointer to cells that are only read,told by the cells. -/
mutual
def canX:LV->LV
 | .xq n f=> .xq n (λj=>((au n).map λi=>canX (f i)).getD j .junk)
 | .fn f l=> .fn f (canL l)
 | .fb f l=> .fb f (canL l)
 |x=>x
def canL:aVy->List LV
 | []=>[]
 |x::xs=>canX x::canL xs
end
mutual
def canX_R:∀ {x:LV}{y:aVQ},R β Z w x y->R β Z w (canX x) y
 | .xq n f,y,h=>by
  simp only [canX,R] at h|-;obtain ⟨b,off,h1,hz,h2⟩:=h;refine ⟨b,off,h1,hz,λj hj=>?_⟩
  have e:((au n).map λi=>canX (f i)).getD j .junk=canX (f j):=yj
  rw [e];obtain ⟨z,e1,e2⟩:=h2 j hj;exact ⟨z,e1,canX_R e2⟩
 | .fn f l,y,h=>by
  exact aNc
 | .fb f l,y,h=>by
  exact aNc
 | .v _,_,h=>h
 | .bl _,_,h=>h
 | .ki _ _,_,h=>h
 | .own _ _,_,h=>h
 | .agg _,_,h=>h
 | .AO _,_,h=>h
 | .xl _ _,_,h=>h
 | .os ..,_,h=>h
 | .op ..,_,h=>h
 | .om _,_,h=>h
 | .mp ..,_,h=>h
 | .oc ..,_,h=>h
 | .CS _,_,h=>h
 | .junk,_,h=>h
def canL_R:∀ {l:aVy}{ys:aVO},RL β Z w l ys->RL β Z w (canL l) ys
 | [],ys,h=>by simpa only [canL,RL] using h
 |x::xs,ys,h=>by
  simp only [canL,RL] at h|-;obtain ⟨y,zs,h1,h2,h3⟩:=h;exact ⟨y,zs,h1,canX_R h2,canL_R h3⟩
end
mutual
def canX_ok:∀ {n:aVx}{x:LV},okV n x->okV n (canX x)
 | _,.xq m f,h=>by
  simp only [canX,okV] at h|-;intro j
  by_cases hj:j<m
  ·have e:((au m).map λi=>canX (f i)).getD j .junk=canX (f j):=yj
   rw [e];exact canX_ok (h j)
  ·have e:((au m).map λi=>canX (f i)).getD j .junk=.junk:=yj
   rw [e];trivial
 |_,.fn f l,h=>by
  simp only [canX,okV] at h|-;exact canL_ok h
 |_,.fb f l,h=>by
  simp only [canX,okV] at h|-;exact canL_ok h
 |_,.v _,h=>h
 |_,.bl _,h=>h
 |_,.ki _ _,h=>h
 |_,.own _ _,h=>h
 |_,.agg _,h=>h
 |_,.AO _,h=>h
 |_,.xl _ _,h=>h
 |_,.os ..,h=>h
 |_,.op ..,h=>h
 |_,.om _,h=>h
 |_,.mp ..,h=>h
 |_,.oc ..,h=>h
 |_,.CS _,h=>h
 |_,.junk,h=>h
def canL_ok:∀ {n:aVx}{l:aVy},AT n l->AT n (canL l)
 |_,[],h=>h
 |_,x::xs,h=>by
  simp only [canL,AT] at h|-;exact ⟨canX_ok h.1,canL_ok h.2⟩
end
def E6 {n:aVx}{f:aVx->LV}{l:aVy}(h:(au n).map f=l):((au n).map λi=>canX<|f i)=canL l:=by
 have e:∀l:aVy,canL l=l.map canX:=λl=>by induction l with
  |nil=>rfl
  |cons x l ih=>simp only [canL,ih,ET]
 rw [e,<-h,HI];rfl
def Bm (P:aVM) (G:B3) (Γ:aWb) (K:aWq) (L:M3) (fn:aWi) (args:aVy):T LV:=(wg P G Γ K L fn args).bind λx=> .ok<|canX<|upR P fn.resultTypes.toList x
def aFj {f:aVY}{fn:aWi}{X S:aVy->T LV}(h0:Valid P G f X) (hS:∀args lv,(S args).all (λx=>x=lv)->((X<|canL args).bind λx=> .ok<|canX<|upR P fn.resultTypes.toList x).all (λx=>x=lv)):Valid P G f (KE P fn.params.toList S):=by
 refine Valid.up ?_ _;intro args vals w Z lv hz hg hok hr hs
 have hs:=hS args lv hs
 obtain ⟨x,h1,h2⟩:=T.B5 hs;subst h2;exact Calls.mono (h0 (canL args) vals w Z x hz hg (canL_ok hok) (canL_R hr) h1) λe w' ⟨e1,v,e2,e3,e4⟩=>⟨e1,v,e2,canX_ok<|awu e3,canX_R<|ajR e4⟩
def pP {f:aVY}{fn:aWi}{c:aV7}{S:aVy->T LV}(hfn:P.funcs[f]? =ah fn) (hc:fn.body=ah c) (hΓ:∀g S,Γ g=ah S->Valid P G g S) (hK:FU P G K)
  (hL:∀b∈BE c,Sound P G (.loop b)<|L<|Gt b) (hS:∀args lv,(S args).all (λx=>x=lv)->(Bm P G Γ K L fn<|canL args).all (λx=>x=lv)):Valid P G f (KE P fn.params.toList S):=
 aFj (afc hfn hc hΓ hK hL λ_ _ h=>h) hS
def T.red {α:Type}:T α->T α
 | .br U t _=>T.red t
 | .br X _ e=>T.red e
 | .req p t=> .req p (T.red t)
 |t=>t
def T.Wi {α:Type}{K:α->Prop}:∀ {t:T α},t.red.all K->t.all K
 | .ok _,h=>h
 | .br U t e,h=>⟨λ_=>T.Wi h,λhb=>Ll⟩
 | .br X t e,h=>⟨λhb=>Ll,λ_=>T.Wi h⟩
 | .req p t,h=>⟨h.1,T.Wi h.2⟩
 | .no,h=>h
end Go.Sx
namespace Go.Proofs.YtjdlmobanmhohaaGreatDoor
set_option maxRecDepth 100000
set_option maxHeartbeats 4000000
open Go.Proofs.Tryz
open Go.Sx
abbrev Af:Ty:=.pair .str<|.pair A7<|.pair A7<|.pair A7<|.pair (.pair A7 A7)<|.pair A7<|.pair A7<|.pair A7<|.pair A7 A7
abbrev An:Ty:=.pair .str<|.pair A7<|.pair A7 A7
abbrev Ag:Ty:=.pair .str<|.pair A7<|.pair A7<|.pair A7<|.pair A7<|.pair A7<|.pair A7 A7
abbrev Am:Ty:=.pair .str A7
abbrev Cbl:=Int×Int×Int×Int×Int
abbrev Cd:=ByteArray×Int×Int×Int×(Int×Int)×Cbl
def aVF:qT (List Cd):=⟨⟩
instance:Coe (List Cd) LV:=⟨.xl Af⟩
abbrev Ko:=ByteArray×Int×Int×Int
def aVK:qT (List Ko):=⟨⟩
instance:Coe (List Ko) LV:=⟨.xl An⟩
abbrev Ch:=ByteArray×Int×Int×Int×Int×Int×Int×Int
def aVA:qT (List Ch):=⟨⟩
instance:Coe (List Ch) LV:=⟨.xl Ag⟩
abbrev Ba:=ByteArray×Int
def aVL:qT (List Ba):=⟨⟩
instance:Coe (List Ba) LV:=⟨.xl Am⟩
def s5 (a:aVy) (k:aVF->aVz->aVK->aVA->aVL->T LV):T LV:=match a with
 | [.xl (.pair .str (.pair (.int J) (.pair (.int J) (.pair (.int J) (.pair (.pair (.int J) (.int J)) (.pair (.int J) (.pair (.int J) (.pair (.int J) (.pair (.int J) (.int J)))))))))) cs,.xl (.str) os,.xl (.pair .str (.pair (.int J) (.pair (.int J) (.int J)))) ks,.xl (.pair .str (.pair (.int J) (.pair (.int J) (.pair (.int J) (.pair (.int J) (.pair (.int J) (.pair (.int J) (.int J)))))))) gs,.xl (.pair .str (.int J)) bs]=>k cs os ks gs bs
 |_=> .no
def IX {a:aVy}{k:aVF->aVz->aVK->aVA->aVL->T LV}{K:LV->Prop}(h:(s5 a k).all K):∃cs os ks gs bs,a=[.xl Af cs,.xl .str os,.xl An ks,.xl Ag gs,.xl Am bs]/\(k cs os ks gs bs).all K:=by
 unfold s5 at h;exact ml
def AJ {x:Y}(h1:-9223372036854775808<=x:=by omega) (h2:x<=9223372036854775807:=by omega):AA x=x:=by
 exact aNu
def inB (n a b:Y):aVH:=an (n>=a)&&an (n<=b)
def BS {n a b:Y}:inB n a b=U↔a<=n/\n<=b:=by simp [inB]
def Lz {α:Type}{l:List α}{d:α}{n:Y}(h:n.toNat<M l):l.getD n.toNat d=l[n.toNat]:=A8
def Qr {α:Type}{l:List α}{d:α}{i:Y}(h0:0<=i) (h:i<M l):l.drop i.toNat=l.getD i.toNat d::l.drop (i+1).toNat/\l.take (i+1).toNat=l.take i.toNat++[l.getD i.toNat d]:=by
 have hlt:i.toNat<M l:=A0
 rw [Lz hlt,show (i+1).toNat=i.toNat+1 by omega,List.take_add_one,Dh hlt,Sq hlt]
 grind
def emp:aV6:=av #[]
def Ae (l:aVF) (n:Y):Cd:=l.getD n.toNat (emp,0,0,0,(0,0),0,0,0,0,0)
def AF (l:aVA) (n:Y):Ch:=l.getD n.toNat (emp,0,0,0,0,0,0,0)
def Ob (l:aVK) (n:Y):Ko:=l.getD n.toNat (emp,0,0,0)
def Oh (l:aVL) (n:Y):Ba:=l.getD n.toNat (emp,0)
def gS (l:aVz) (n:Y):aV6:=l.getD n.toNat emp
def gi_step {l:aVw}{i:Y}(h0:0<=i) (h:i<M l):l.drop i.toNat=gi l i::l.drop (i+1).toNat/\l.take (i+1).toNat=l.take i.toNat++[gi l i]:=by
 have hlt:i.toNat<M l:=A0
 rw [Ia hlt,show (i+1).toNat=i.toNat+1 by omega,List.take_add_one,Dh hlt,Sq hlt]
 grind
def ahB {l:aVA}{n:Y}(h:n.toNat<M l):AF l n=l[n.toNat]:=Lz h
def apC {l:aVF}{i:Y}(h0:0<=i) (h:i<M l):l.drop i.toNat=Ae l i::l.drop (i+1).toNat/\l.take (i+1).toNat=l.take i.toNat++[Ae l i]:=Qr h0 h
def apA {l:aVA}{i:Y}(h0:0<=i) (h:i<M l):l.drop i.toNat=AF l i::l.drop (i+1).toNat/\l.take (i+1).toNat=l.take i.toNat++[AF l i]:=Qr h0 h
def aGe {l:aVK}{i:Y}(h0:0<=i) (h:i<M l):l.drop i.toNat=Ob l i::l.drop (i+1).toNat/\l.take (i+1).toNat=l.take i.toNat++[Ob l i]:=Qr h0 h
def apG {l:aVL}{i:Y}(h0:0<=i) (h:i<M l):l.drop i.toNat=Oh l i::l.drop (i+1).toNat/\l.take (i+1).toNat=l.take i.toNat++[Oh l i]:=Qr h0 h
def aJd {l:aVz}{i:Y}(h0:0<=i) (h:i<M l):l.drop i.toNat=gS l i::l.drop (i+1).toNat/\l.take (i+1).toNat=l.take i.toNat++[gS l i]:=Qr h0 h
def Dw (mi ma st:Y):aVH:=an (1<=mi)&&(an (mi<=ma)&&(an (ma<=80)&&(an (1<=st)&&an (st<=80))))
def IU {mi ma st:Y}:Dw mi ma st=U↔1<=mi/\mi<=ma/\ma<=80/\1<=st/\st<=80:=by simp [Dw]
def Eb (mi ma st:Y):Y:=if Dw mi ma st then (ma-mi) / st+2 else 0
def E9 (mi st k:Y):Y:=if k=0 then 0 else mi+(k-1)*st
def amE (mi ma st k:Y):Y:=if k<0\/Eb mi ma st<=k then 1 else 0
def amA (mi ma st k:Y):Y:=if k<0\/Eb mi ma st<=k then 0 else E9 mi st k
def He (mi ma st a:Y):Y:=if Dw mi ma st=X\/a<0 then -1 else if a<mi then 0 else min (Eb mi ma st-1) ((a-mi) / st+1)
def qR {x st:Y}(h0:0<=x) (h1:1<=st):0<=x / st/\x / st<=x:=⟨Su h0 A0,Vb _ h0⟩
def aS8 {mi ma st:Y}:0<=Eb mi ma st/\Eb mi ma st<=81:=by
 unfold Eb;split
 ·rename_i h
  exact aNk
 ·omega
def sK {mi ma st:Y}(h:Dw mi ma st=U):2<=Eb mi ma st:=by
 unfold Eb;rw [AD h];exact aNk
def aFw {mi ma st:Y}(h:Dw mi ma st=X):Eb mi ma st=0:=by simp [Eb,h]
def agX {a b:Y}(a0:0<=a) (a1:a<=1000) (b0:0<=b) (b1:b<=80):0<=a*b/\a*b<=80000:=
 ⟨Iv a0 b0,Fm (QI b1 a0) A0⟩
def aHn (bs:aV6):∀(n i:aVx) (r:List UInt8),bs.size-i=n->ByteArray.toList.loop bs i r=r.reverse++bs.data.toList.drop i
 |0,i,r,h=>by
  rw [ByteArray.toList.loop,AE A0,Ew (by simp only [xt];show bs.size<=i;omega),Gg]
 | n+1,i,r,h=>by
  have hi:i<M bs.data.toList:=by simp only [xt];show i<bs.size;omega
  rw [ByteArray.toList.loop,AD A0,aHn bs n (i+1) _ A0,List.reverse_cons,Cx,Sq hi]
  have:bs.get! i=bs.data.toList[i]:=by
   show bs.data[i]! =_
   grind
  rw [this];rfl
def aHo (bs:aV6):bs.toList=bs.data.toList:=by
 rw [ByteArray.toList,aHn bs _ 0 [] rfl];rfl
def awz {a b:aV6}(h:a.toList=b.toList):a=b:=by
 rw [aHo,aHo] at h;cases a;cases b;simp at h;rw [h]
def vz {a b:aV6}:(a==b)=U↔a=b:=by
 show (a.data==b.data)=U↔_
 rw [Cz];exact ⟨λh=>by cases a;cases b;simp at h;rw [h],λh=>W0⟩
instance:LawfulBEq ByteArray where
 eq_of_beq h:=vz.1 h
 rfl:=vz.2 rfl
def XO (a b:aV6):(a.toList==b.toList)=(a==b):=by
 rw [Iw,Cz,vz];exact ⟨awz,λh=>W0⟩
def kinds:aVz:=[av #[102,101,101,100,101,114],av #[99,97,98,108,101],av #[111,119,110,101,114],av #[99,111,110,116,114,97,99,116],av #[99,104,97,114,103,101,114],av #[98,97,121],av #[116,97,114,105,102,102]]
def jb:aVz:=[av #[108,105,109,105,116],av #[110,101,117,116,114,97,108],av #[102,117,115,101],av #[116,104,101,114,109,97,108],av #[102,114,111,109],av #[97,116],av #[112,104,97,115,101,115],av #[97,109,112,115],av #[102,97,108,108,98,97,99,107],av #[111,119,110,101,114],av #[99,97,114,100],av #[114,97,110,107],av #[99,104,97,114,103,101,114]]
def qH:aVz:=[av #[115,116,97,114,116],av #[101,110,101,114,103,121],av #[116,105,109,101],av #[105,100,108,101],av #[99,97,112],av #[116,97,120]]
def words:aVz:=[av #[111,110],av #[119,111,114,107],av #[115,97,116,117,114,100,97,121],av #[115,117,110,100,97,121],av #[98,101,116,119,101,101,110],av #[112,101,114],av #[102,114,101,101]]
def isIn (l:aVz) (w:aV6):aVH:=l.any (w== ·)
def VM:Y->aVz->aV6->Int
 |_,[],_=>0
 |n,x::l,w=>if w==x then n else VM (n+1) l w
def aFl:∀(n:Y) (l:aVz) (w:aV6),0<n->(VM n l w !=0)=isIn l w
 |_,[],_,_=>rfl
 | n,x::l,w,h=>by
  simp only [VM,isIn,aD];split
  ·grind
  ·rename_i c
   have:=aFl (n+1) l w A0
   simp only [isIn] at this;rw [this]
   simp [c]
def wc (w:aV6):aVH:=isIn kinds w ||(isIn jb w ||(isIn qH w ||isIn words w))
def chA (b:Y):aVH:=an (b>=97)&&an (b<=122)
def chB (b:Y):aVH:=chA b ||((an (b>=48)&&an (b<=57)) ||b==95)
def gwB (w:aV6):aVH:=an (1<=w.size/\w.size<=12)&&(chA (JW w 0)&&(au w.size).all λi=>i==0 ||chB (JW w i))
def nameB (w:aV6):aVH:=gwB w&&!wc w
def L7 {p q:Prop}(h:p) (k:p->q):p/\q:=⟨h,k h⟩
def DS (n:aVx) (f:Y->aVH):aVH:=(au n).all λj=>f (j:Y)
def Dl {n:aVx}{f:Y->aVH}:DS n f=U↔∀j:aVx,(j:Y)<(n:Y)->f j=true:=by
 unfold DS
 grind
def PA {n:aVx}{f:Y->aVH}(j:aVx) (h:(j:Y)<(n:Y)) (hf:f j=X):DS n f=false:=by
 rw [IQ];intro hx;rw [Dl.1 hx j h] at hf;cases hf
def cbZ (c:Cbl):aVH:=(c.1==0)&&((c.2.1==0)&&((c.2.2.1==0)&&((c.2.2.2.1==0)&&(c.2.2.2.2==0))))
def Ir (c:Cbl):aVH:=cbZ c ||(an (0<=c.1)&&(an (c.1<c.2.1)&&(an (c.2.1<=200000)&&(inB c.2.2.1 0 1000&&(inB c.2.2.2.1 0 1000&&inB c.2.2.2.2 1 1000000)))))
def I9 (i:Y) (c:Cd):aVH:=(if i=0 then c.2.1==-1 else inB c.2.1 0 (i-1))&&(inB c.2.2.1 1 1000&&(inB c.2.2.2.1 1 1000&&(((c.2.2.2.2.1.1==0)&&(c.2.2.2.2.1.2==0) ||(inB c.2.2.2.2.1.1 1 1000&&inB c.2.2.2.2.1.2 0 1000000))&&Ir c.2.2.2.2.2)))
def MQ (c:Ch):aVH:=inB c.2.2.1 1 7&&(inB c.2.2.2.1 1 80&&(inB c.2.2.2.2.1 c.2.2.2.1 80&&(inB c.2.2.2.2.2.1 1 80&&(c.2.2.2.2.2.2.1==0 ||inB c.2.2.2.2.2.2.1 c.2.2.2.1 c.2.2.2.2.1))))
def G4 (nc no:Y) (c:Ch):aVH:=inB c.2.1 0 (nc-1)&&(inB c.2.2.2.2.2.2.2 0 (no-1)&&MQ c)
def koV (no:Y) (c:Ko):aVH:=inB c.2.1 0 (no-1)&&(inB c.2.2.1 1 9&&inB c.2.2.2 1 1000000)
def once {α:Type} [BEq α] (l:List α):aVH:=(au<|M l).all λj=>match l[j]? with
 |some x=>!((l.take j).contains x)
 |none=>U
def qt {α:Type} [BEq α] [LawfulBEq α] {l:List α}:once l=U↔∀(j:aVx) (h:j<M l),¬l[j]∈l.take j:=by
 unfold once;rw [BH];refine ⟨λh j hj hm=>?_,λh j hj=>?_⟩
 ·have:=h j (Iu.2 hj)
  rw [Dh hj] at this;simp only [DB] at this;rw [Zv.2 hm] at this;cases this
 ·have hj:=Iu.1 hj
  grind
def MO (cs:aVF) (os:aVz) (ks:aVK) (gs:aVA) (bs:aVL):aVH:=
 DS (M cs) (λj=>I9 j<|Ae cs j)&&(ks.all (koV<|M os)&&(once (ks.map (·.2.2.2))&&(gs.all (G4 (M cs)<|M os)&&bs.all (λb=>inB b.2 0<|(M gs:Y)-1))))
def Lw (cs:aVF) (os:aVz) (ks:aVK) (gs:aVA) (bs:aVL):aVz:=cs.map (·.1)++os++ks.map (·.1)++gs.map (·.1)++bs.map (·.1)
def B6 (cs:aVF) (os:aVz) (ks:aVK) (gs:aVA) (bs:aVL):aVH:=
 an (1<=M cs/\M cs<=16/\M os<=8/\M ks<=32/\M gs<=16/\M bs<=24)&&((Lw cs os ks gs bs).all nameB&&(once (Lw cs os ks gs bs)&&MO cs os ks gs bs))
end Go.Proofs.YtjdlmobanmhohaaGreatDoor
end
