/- Helpers for ParkRestart. Conditions: none. -/
import Derived.Test.YtoifmkifedcnnaaGreatDoorQu1
set_option linter.defProp false
set_option linter.unusedVariables false
set_option linter.unusedSimpArgs false
noncomputable section
open List renaming length→M,length→aa,replicate→aq,range→au
open Bool renaming true→U,true→ae,false→X,false→af
open Go.Value renaming int→ag
open Option renaming some→ah,none→aj
open Go.IntKind renaming i64→J,i64→ai,u8→aw,u32→ax
open True renaming intro→ak
open Decidable renaming decide→an
open ByteArray renaming mk→av
open Go.Region renaming ready→ay,wanted→az
open Go.Instr renaming findNow→aA
namespace Go.Sx
open Go Go.RowKit Go.Proofs.YtoifmkifedcnnaaGreatDoor
variable {P : Program} {G : B5} {Γ : Specs} {β : Nat -> Loc} {Z : Nat -> Prop} {Z0 : Gz} {w w0 : World} {F : List LV} {H : List AB} {a : Act} {ds : List Deferred}
structure FW (P:aWt) (G:B5) (K:aW5):Prop where
 k:∀(w0:aWq) (Z0:Gz) (Z:aWe->Prop) (β:aWe->aWU) (H:aWi) (w:aWq) (g:aWF) (args:aWf) (vals:aWz) (lv:LV) (H':aWi),RW G w0 Z0 Z β H w->RL β Z w args vals.toList->AT (M H) args->(K.k g args H).all (λq=>q=(lv,H'))->
  Calls P g vals w λe w'=>∃v,e=.returned v/\∃Z' β',RW G w0 Z0 Z' β' H' w'/\R β' Z' w' lv v/\okV H'.length lv
 y :∀(w0:aWq) (Z0:Gz) (Z:aWe->Prop) (β:aWe->aWU) (H:aWi) (w:aWq) (k:aWe) (args:aWf) (vals:aWz) (lv:LV) (H':aWi),RW G w0 Z0 Z β H w->RL β Z w args vals.toList->AT (M H) args->(K.y k args H).all (λq=>q=(lv,H'))->
  ∃r:Loop,w.heap[(β k).b]? =ah (.loop r)/\vals.size=r.params.size/\RoundIn Fence.wide 0 P (β k).b r.fn ((r.params.zip vals).foldl (λt (p,v)=>t.setIfInBounds p v) r.tmps) r.assign r.body w
   λe w'=>∃v,e=.returned v/\∃Z' β',RW G w0 Z0 Z' β' H' w'/\R β' Z' w' lv v/\okV H'.length lv
def QR:FW P G G9:=⟨λ_ _ _ _ _ _ _ _ _ _ _ _ _ _ h=>Ao,λ_ _ _ _ _ _ _ _ _ _ _ _ _ _ h=>Ao⟩
def cq (hΓ:∀g S,Γ g=ah S->Valid P G g S) (hW:RW G w0 Z0 Z β H w) (hF:RF ds β Z w (M H) F a) {o:aWw}{lv:LV}{H':aWi}
  (h:(Ax P G Γ F H o).all λq=>q=(lv,H')):Di P (Post ds G w0 Z0 F a β H w o lv H') ((execOp a.eval o).run P w):=by
 have hsel:∀cs b,o.op≠ .select cs b:=λcs b e=>by unfold Ax at h;simp only [e] at h;cases h
 have ev:=λx=>hF.eval hW.Cb x
 have same:∀ {t:T LV},(t.bind λy=>(T.ok (y,H):T<|LV×List AB)).all (λq=>q=(lv,H'))->t.all (λz=>z=lv)/\H'=H:=λh=>by
  obtain ⟨x,h1,h2⟩:=T.B8 h;simp only [T.all,B0] at h2;obtain ⟨rfl,rfl⟩:=h2;exact ⟨h1,rfl⟩
 have gen:(Dk P G F o).all (λz=>z=lv)->H'=H->Di P (Post ds G w0 Z0 F a β H w o lv H') ((execOp a.eval o).run P w):=λhg e=>by
  subst e;exact af5 hsel hW hF hg
 have val:∀ {v:aWx},H'=H->(execOp a.eval o).run P w=.ok (.value v) w->R β Z w lv v->okV (M H) lv->Di P (Post ds G w0 Z0 F a β H w o lv H') ((execOp a.eval o).run P w):=λe hrun hr hk=>by
  subst e;exact aEc hW hF hrun hr hk
 unfold Ax at h;split at h
 ·cases h
 ·exact aMA
 ·exact aMA
 ·rename_i c x y ho
  obtain ⟨h1,h2⟩:=same h;obtain ⟨g,e1,e2,e3⟩:=adO h1 (ev c).1 (ev x).1 (ev y).1 (ev x).2 (ev y).2;exact val h2 (v:=if g then a.eval x else a.eval y) aP5 e2 e3
 ·rename_i t ho
  split at h
  ·rename_i z hz
   split at h
   ·rename_i cs hcs
    simp only [T.all,B0] at h;obtain ⟨h1,h2⟩:=h;obtain ⟨c1,_⟩:=pY (β:=β) (Z:=Z) (w:=w) hcs (show R β Z w (.v z) z by simp only [R])
    obtain ⟨β',b1,b2,b3,b4⟩:=hW.alloc (t:=t) c1<|pK hcs trivial
    have hrun:(execOp a.eval o).run P w=.ok (.value<|.pointer<|ah ⟨w.heap.size,0,aj⟩) (w.alloc<|.cells z.cells t):=by
     have e:=λw=>oS hz w
     simp [execOp,ho,Instr.alloc,e,newVar,newRow]
    exact aMZ
   ·cases h
  ·cases h
 ·rename_i t x ho
  split at h
  ·rename_i cs hcs
   simp only [T.all,B0] at h;obtain ⟨h1,h2⟩:=h;obtain ⟨c1,_⟩:=pY hcs (ev x).1;obtain ⟨β',b1,b2,b3,b4⟩:=hW.alloc (t:=t) c1<|pK hcs (ev x).2
   have hrun:(execOp a.eval o).run P w=.ok (.value<|.pointer<|ah ⟨w.heap.size,0,aj⟩) (w.alloc<|.cells (a.eval x).cells t):=by
    simp [execOp,ho,Instr.box,newVar,newRow]
   exact aMZ
  ·cases h
 ·rename_i t x ho
  obtain ⟨h1,h2⟩:=same h;obtain ⟨z,e1,e2,e3⟩:=oY hW h1 (ev x).1 (ev x).2;exact yH
 ·rename_i t x y ho
  obtain ⟨H1,h1,h2⟩:=T.B8 h;simp only [T.all,B0] at h2;obtain ⟨h2,h3⟩:=h2;subst h3;obtain ⟨w',e1,e2,e3,e4,e6⟩:=adq hW h1 (ev x).1 (ev y).1 (ev y).2;exact aM4
 ·rename_i s x i ho
  obtain ⟨h1,h2⟩:=same h;obtain ⟨z,e1,e2,e3⟩:=adH (w:=w) h1 (ev x).1 (ev x).2;exact Zw
 ·rename_i t x i ho
  obtain ⟨h1,h2⟩:=same h;obtain ⟨z,e1,e2,e3⟩:=aDH (w:=w) h1 (ev x).1 (ev i).1 (ev x).2;exact Zw
 ·rename_i t parts ho
  obtain ⟨h1,h2⟩:=same h
  obtain ⟨z,e1,e2,e3⟩:=adI (β:=β) (Z:=Z) (w:=w) (n:=M H) (pv:=parts.map λq=>(q.1,a.eval q.2)) h1 Vc (by
   simp only [N9,HK];refine RL.CU AI λi x hx=>?_
   rw [Df] at hx|-;cases hq:parts.toList[i]? with
   |none=>simp [hq] at hx
   |some q=>simp [hq] at hx;subst hx;exact ⟨a.eval q.2,AI,(eY<|ev q.2).1⟩) (by
   simp only [HK];refine AT.CU λi x hx=>?_
   rw [Df] at hx;cases hq:parts.toList[i]? with
   |none=>simp [hq] at hx
   |some q=>simp [hq] at hx;subst hx;exact (eY<|ev q.2).2)
  exact val h2 (v:=z) KI e2 e3
 ·rename_i t len parts ho
  split at h
  ·rename_i h0
   subst h0;split at h
   ·rename_i hpe
    have hpa:parts=#[]:=by
     have:=Zm.1 hpe
     rw [<-x7 (xs:=parts),this]
    obtain ⟨w',v,e1,e2,β',e3,e4,e5,e6,e7,e8⟩:=ae3 hW h
    have hrun:(execOp a.eval o).run P w=.ok (.value v) w':=by simp [execOp,ho,hpa,e1]
    exact aMI
   ·cases h
  split at h
  rotate_left
  ·obtain ⟨w',v,e1,e2,β',e3,e4,e5,e6,e7,e8⟩:=aen (pv:=parts.map λq=>(q.1,a.eval q.2)) hW h Vc (by
    simp only [N9,HK];refine RL.CU AI λi x hx=>?_
    rw [Df] at hx|-;cases hq:parts.toList[i]? with
    |none=>simp [hq] at hx
    |some q=>simp [hq] at hx;subst hx;exact ⟨a.eval q.2,AI,(ev q.2).1⟩) (by
    simp only [HK];refine AT.CU λi x hx=>?_
    rw [Df] at hx;cases hq:parts.toList[i]? with
    |none=>simp [hq] at hx
    |some q=>simp [hq] at hx;subst hx;exact (ev q.2).2)
   have hrun:(execOp a.eval o).run P w=.ok (.value v) w':=KI
   rw [hrun];refine ⟨Z,β',e4,hF.mono A0 e3 (λ_ h=>h) λb hz=>EG e2<|hW.Bc b hz,e5,e6,A0,e3,λk k1 k2=>?_,NI e2⟩
   have:k=M H:=A0
   rw [this,e8];exact .inl<|At _
  split at h
  ·obtain ⟨w',v,Z',β',e1,e2,ez,e3,e4,e5,e6,e7,e8⟩:=ael (pv:=parts.map λq=>(q.1,a.eval q.2)) hW h Vc (by
    simp only [N9,HK];refine RL.CU AI λi x hx=>?_
    rw [Df] at hx|-;cases hq:parts.toList[i]? with
    |none=>simp [hq] at hx
    |some q=>simp [hq] at hx;subst hx;exact ⟨a.eval q.2,AI,(ev q.2).1⟩) (by
    simp only [HK];refine AT.CU λi x hx=>?_
    rw [Df] at hx;cases hq:parts.toList[i]? with
    |none=>simp [hq] at hx
    |some q=>simp [hq] at hx;subst hx;exact (ev q.2).2)
   have hrun:(execOp a.eval o).run P w=.ok (.value v) w':=KI
   rw [hrun];refine ⟨Z',β',e4,hF.mono A0 e3 ez λb hz=>EG e2<|hW.Bc b hz,e5,e6,A0,e3,λk k1 k2=>?_,NI e2⟩
   have:k=M H:=A0
   rw [this,e8];exact .inl<|At _
  split at h
  rotate_left
  ·unfold nX at h
   split at h
   ·rename_i hcl
    have hargs:RL β Z w ((parts.toList.map λq=>(q.1,AL G F q.2)).map (·.2)) ((parts.map λq=>(q.1,a.eval q.2)).toList.map (·.2)):=by
     simp only [N9,HK];refine RL.CU AI λi x hx=>?_
     rw [Df] at hx|-;cases hq:parts.toList[i]? with
     |none=>simp [hq] at hx
     |some q=>simp [hq] at hx;subst hx;exact ⟨a.eval q.2,AI,(ev q.2).1⟩
    have hoka:AT (M H) ((parts.toList.map λq=>(q.1,AL G F q.2)).map (·.2)):=by
     simp only [HK];refine AT.CU λi x hx=>?_
     rw [Df] at hx;cases hq:parts.toList[i]? with
     |none=>simp [hq] at hx
     |some q=>simp [hq] at hx;subst hx;exact (ev q.2).2
    generalize hvs:(parts.toList.map λq=>(q.1,AL G F q.2))=vs at h hcl hargs hoka
    obtain ⟨y,h1,h2⟩:=T.B8 h;simp only [T.all,B0] at h2;obtain ⟨rfl,rfl⟩:=h2;obtain ⟨_,hg,h1⟩:=T.B8 h1
    have hG:=T.BY (K':=λ_=>True) (λ_ _=>trivial) hg
    obtain ⟨c1,c2⟩:=Ss hcl
    have hP:=hW.pub<|reach H 64 (ownsL<|vs.map (·.2)) []
    have hH:=λk b hb=>(hW.blk k b hb).2
    have hr0:RL β (ZP Z β H λk=>k∈reach H 64 (ownsL<|vs.map (·.2)) []) w ((vs.map (·.2)).map<|C1 H 6) ((parts.map λq=>(q.1,a.eval q.2)).toList.map (·.2)):=
     TD (S:=λk=>k∈reach H 64 (ownsL<|vs.map (·.2)) []) hargs hoka c1 (λx y hm hs hx hr=>MV hW c2 6 x y (Og hG x hm) hs hx hr)
    have hok0:AT 0 ((vs.map (·.2)).map<|C1 H 6):=by
     exact aMN
    have emap:(vs.map λq=>(q.1,C1 H 6 q.2)).map (·.2)=(vs.map (·.2)).map (C1 H 6):=Vc
    obtain ⟨elem,cells,e1,e2,e3⟩:=aEY (β:=β) (Z:=ZP Z β H λk=>k∈reach H 64 (ownsL<|vs.map (·.2)) []) (w:=w) (n:=0) (pv:=parts.map λq=>(q.1,a.eval q.2)) h1 (by rw [<-hvs];simp [Zj]) (by rw [emap];exact hr0) (by rw [emap];exact hok0)
    have hrun:(execOp a.eval o).run P w=.ok (.value<|.slice (ah ⟨w.heap.size,0,aj⟩) len len) (w.alloc<|.cells cells elem):=by
     simp [execOp,ho,e1]
    have hbw:Below w.heap.size w (w.alloc<|.cells cells elem):=(Below.refl _ _).alloc (At _) _
    rw [hrun];refine ⟨_,β,hP.call hbw,?_,?_,okV.mono (NA _) _ e3,by rw [KK];exact At _,λ_ _=>rfl,λk h1 h2=>by rw [KK] at h2;omega,NI hbw⟩
    ·exact aMu
    ·exact e2 β _ _ w.heap.size (λ_ h=> .inl h) (λb hz=>EG hbw<|hP.Bc b hz) (λj v hv=>by
      show World.cell? _ _=_
      unfold World.cell?
      have:(w.alloc<|.cells cells elem).heap[w.heap.size]? =ah (.cells cells elem (0,0)):=by
       exact aD
      simp only [this]
      simpa using hv)<|.inr ⟨At _,AI⟩
   ·cases h
  ·obtain ⟨h1,h2⟩:=same h
   subst h2
   have hp:=aEY (β:=β) (Z:=Z) (w:=w) (n:=M H') (pv:=parts.map λq=>(q.1,a.eval q.2)) h1 Vc (by
    simp only [N9,HK];refine RL.CU AI λi x hx=>?_
    rw [Df] at hx|-;cases hq:parts.toList[i]? with
    |none=>simp [hq] at hx
    |some q=>simp [hq] at hx;subst hx;exact ⟨a.eval q.2,AI,(ev q.2).1⟩) (by
    simp only [HK];refine AT.CU λi x hx=>?_
    rw [Df] at hx;cases hq:parts.toList[i]? with
    |none=>simp [hq] at hx
    |some q=>simp [hq] at hx;subst hx;exact (ev q.2).2)
   obtain ⟨elem,cells,e1,e2,e3⟩:=hp
   have hrun:(execOp a.eval o).run P w=.ok (.value<|.slice (ah ⟨w.heap.size,0,aj⟩) len len) (w.alloc<|.cells cells elem):=by
    simp [execOp,ho,e1]
   have hbw:Below w.heap.size w (w.alloc<|.cells cells elem):=(Below.refl _ _).alloc (At _) _
   rw [hrun];refine ⟨_,β,hW.call hbw,hF.mono (At _) (λ_ _=>rfl) (λ_ h=> .inl h) λb hz=>EG hbw<|hW.Bc b hz,?_,e3,At _,λ_ _=>rfl,λk h1 h2=>A0,NI hbw⟩
   exact e2 β _ _ w.heap.size (λ_ h=> .inl h) (λb hz=>EG hbw<|hW.Bc b hz) (λj v hv=>by
    show World.cell? _ _=_
    unfold World.cell?
    have:(w.alloc<|.cells cells elem).heap[w.heap.size]? =ah (.cells cells elem (0,0)):=by
     exact aD
    simp only [this]
    simpa using hv)<|.inr ⟨At _,AI⟩
 ·rename_i t n c ho
  obtain ⟨w',v,e1,e2,β',e3,e4,e5,e6,e7,e8⟩:=ae8 hW h (ev n).1 (ev c).1
  have hrun:(execOp a.eval o).run P w=.ok (.value v) w':=KI
  exact aMI
 ·rename_i t x lo hi ho
  split at h
  ·exact NB
  ·obtain ⟨h1,h2⟩:=same h
   have ro:∀q:Option Operand,RO β Z w (q.map<|AL G F) (q.map a.eval):=λq=>by
    cases q with
    |none=>trivial
    |some q=>exact (ev q).1
   obtain ⟨z,e1,e2,e3⟩:=adA (w:=w) h1 (ev x).1 (ro lo) (ro hi) (ev x).2;exact Zw
 ·rename_i t x lo hi mx ho
  split at h
  ·exact NB
  ·obtain ⟨h1,h2⟩:=same h
   have ro:RO β Z w (lo.map<|AL G F) (lo.map a.eval):=by
    cases lo with
    |none=>trivial
    |some q=>exact (ev q).1
   obtain ⟨z,e1,e2,e3⟩:=ad3 (w:=w) (N:=M H) h1 (ev x).1 ro (ev hi).1 (ev mx).1;exact Zw
 ·rename_i t ho
  split at h
  ·rename_i e he
   simp only [T.all,B0] at h;obtain ⟨h1,h2⟩:=h;obtain ⟨β',b1,b2,b3,b4⟩:=hW.agO (e:=e) (t:=t);exact aM5
  split at h
  ·rename_i kd hkd
   simp only [T.all,B0] at h;obtain ⟨h1,h2⟩:=h;obtain ⟨β',b1,b2,b3,b4⟩:=hW.afp (kd:=kd) (t:=t);exact aM5
  ·cases h
 ·exact aMH
 ·exact aMH
 ·rename_i t x i ho
  obtain ⟨h1,h2⟩:=same h;obtain ⟨z,e1,e2,e3⟩:=adU hW h1 (ev x).1 (ev i).1 (ev x).2;exact yH
 ·rename_i t x i ho
  split at h
  ·exact NB
  ·obtain ⟨h1,h2⟩:=same h
   obtain ⟨z,e1,e2,e3⟩:=adL hW h1 (ev x).1 (ev i).1 (ev x).2;exact yH
 ·rename_i x i ho
  split at h
  ·rename_i l hl
   split at h
   ·rename_i y hy
    simp only [T.all,B0] at h;obtain ⟨h1,h2⟩:=h
    have hx:=ev x
    rw [hl] at hx;simp only [R,okV] at hx;obtain ⟨⟨ys,e1,e2⟩,e3⟩:=hx;obtain ⟨z,e4,e5⟩:=RL.get _ _ e2 hy
    have e6:ys[i]? =ah z:=by simpa using e4
    refine val h2.symm (v:=z) aOJ ?_ ?_<;>rw [<-h1]
    ·exact e5
    ·exact AT.get _ _ e3 hy
   ·cases h
  ·exact NB
 ·rename_i t x i ho
  split at h
  ·rename_i l hl
   obtain ⟨h1,h2⟩:=same h
   have hx:=ev x
   rw [hl] at hx;simp only [R,okV] at hx;obtain ⟨⟨ys,e1,e2⟩,e3⟩:=hx;obtain ⟨z,f1,f2,f3⟩:=aEm h1 e2 e3;exact aNc
  ·exact NB
 ·rename_i f first cap ho
  split at h
  ·rename_i he
   simp only [T.all,B0] at h;obtain ⟨h1,h2⟩:=h
   have hfirst:first=#[]:=by
    have:first.toList=[]:=bF
    exact QF
   refine val h2.symm (v:=.func (.func f) #[]<|cap.map a.eval) aOX ?_ ?_<;>rw [<-h1]
   ·exact aMf
   ·exact aMU
  ·split at h
   ·rename_i he
    simp only [T.all,B0] at h;obtain ⟨h1,h2⟩:=h
    have hcap:cap=#[]:=by
     have:cap.toList=[]:=bF
     exact QF
    refine val h2.symm (v:=.func (.func f) (first.map a.eval) #[]) aOK ?_ ?_<;>rw [<-h1]
    ·exact aMd
    ·exact aMS
   ·cases h
 ·rename_i x ho
  have hx:=ev x
  split at h
  ·rename_i k off hl
   exact aMK
  ·rename_i k es i j hl
   exact aMK
  ·rename_i n f hl
   simp only [T.all,B0] at h;rw [hl] at hx
   have hx1:=hx.1
   simp only [R] at hx1;obtain ⟨b,off,e1,_⟩:=hx1;refine val h.2.symm (v:=a.eval x) KI ?_ ?_<;>rw [<-h.1]
   ·exact hx.1
   ·exact hx.2
  ·exact aME
  ·exact aME
  ·exact NB
 ·rename_i t x y t' ho
  split at h
  ·rename_i k n k' m hx hy
   split at h
   ·rename_i hk
    subst hk;simp only [T.all,B0] at h;obtain ⟨h0,h1,h2⟩:=h
    have e1:=Ck hx (ev x).1
    have e2:=Ck hy (ev y).1
    refine val h2.symm (v:=ag k<|k.wrap<|n.tdiv m) mX ?_ ?_<;>rw [<-h1]
    ·exact Dw
    ·trivial
   ·cases h
  ·cases h
 ·rename_i t x y t' ho
  split at h
  ·rename_i k n k' m hx hy
   split at h
   ·rename_i hk
    subst hk;simp only [T.all,B0] at h;obtain ⟨h0,h1,h2⟩:=h
    have e1:=Ck hx (ev x).1
    have e2:=Ck hy (ev y).1
    refine val h2.symm (v:=ag k<|n.tmod m) mX ?_ ?_<;>rw [<-h1]
    ·exact Dw
    ·trivial
   ·cases h
  ·cases h
 ·rename_i t x y t' ho
  split at h
  ·exact NB
  ·split at h
   ·rename_i k n k' m hx hy
    simp only [T.all,B0] at h;obtain ⟨h0,h1,h2⟩:=h
    have e1:=Ck hx (ev x).1
    have e2:=Ck hy (ev y).1
    refine val h2.symm (v:=ag k<|k.wrap<|n*2^(min m.toNat k.bits)) mV ?_ ?_<;>rw [<-h1]
    ·exact Dw
    ·trivial
   ·cases h
 ·rename_i t x y t' ho
  split at h
  ·exact NB
  ·split at h
   ·rename_i k n k' m hx hy
    simp only [T.all,B0] at h;obtain ⟨h0,h1,h2⟩:=h
    have e1:=Ck hx (ev x).1
    have e2:=Ck hy (ev y).1
    refine val h2.symm (v:=ag k<|n.fdiv<|2^(min m.toNat k.bits)) mV ?_ ?_<;>rw [<-h1]
    ·exact Dw
    ·trivial
   ·cases h
 ·rename_i t x i ho
  split at h
  ·rename_i l hl
   obtain ⟨h1,h2⟩:=same h;obtain ⟨ys,e1,e2,e3⟩:=aEh hl (ev x).1 (ev x).2;obtain ⟨z,f1,f2,f3⟩:=aES h1 e2 e3 (ev i).1;exact aNc
  ·split at h
   ·rename_i s kd n hu hx hi
    simp only [T.all,B0] at h;obtain ⟨⟨h0,hlt⟩,h1,h2⟩:=h
    have e1:=Ck hx (ev x).1
    have e2:=Ck hi (ev i).1
    have hb:n.toNat<s.size:=A0
    have hg:s[n.toNat]? =ah s[n.toNat]:=by simp [hb]
    refine val h2.symm (v:=ag aw<|JR s n) aOa ?_ ?_<;>rw [<-h1]
    ·exact Dw
    ·trivial
   ·cases h
 ·rename_i f args ty ho
  split at h
  ·rename_i g cap hf
   exact aEf ho hΓ hW hF (.inl ⟨cap,hf,rfl⟩) h
  ·rename_i g fs hf
   exact aEf ho hΓ hW hF (.inr<|.inl ⟨fs,hf,rfl⟩) h
  ·cases h
 ·rename_i r name args ty ho
  split at h
  ·rename_i g rv hf
   exact aee ho hΓ hW hF hf h
  ·cases h
 ·rename_i args ty ho
  split at h
  ·rename_i x y t tx hl ht
   cases hargs:args.toList with
   |nil=>simp [hargs] at hl
   | cons u us=>
    cases us with
    |nil=>simp [hargs] at hl
    | cons u' us=>
     cases us with
     |cons _ _=>simp [hargs] at hl
     | nil=>
      simp only [hargs,ET,LC,Ho,OW] at hl;obtain ⟨rfl,rfl⟩:=hl
      have ha:args=#[u,u']:=QG
      have hty:ty=#[t,tx]:=aPj
      obtain ⟨w',v,e1,e2,e3,β',e4,e5,e6,e7,e8,e9⟩:=adn (ty':=o.type) hW h (ev u).1 (ev u').1
      have hrun:(execOp a.eval o).run P w=.ok (.value v) w':=by
       simp [execOp,ho,resolve,invoke,builtin,ha,hty,e1]
      rw [hrun]
      have htb:Oq G F β H o=DZ β H (owns<|AL G F u):=by simp [Oq,Eu,ho,ha]
      refine ⟨Z,β',e5,hF.mono A0 e4 (λ_ h=>h) e3,e6,e7,A0,e4,λk k1 k2=>?_,by rw [htb];exact e2⟩
      have:k=M H:=A0
      rw [this,htb];exact e9
  ·cases h
 ·rename_i args ty ho
  split at h
  ·rename_i x y t tx hl ht
   cases hargs:args.toList with
   |nil=>simp [hargs] at hl
   | cons u us=>
    cases us with
    |nil=>simp [hargs] at hl
    | cons u' us=>
     cases us with
     |cons _ _=>simp [hargs] at hl
     | nil=>
      simp only [hargs,ET,LC,Ho,OW] at hl;obtain ⟨rfl,rfl⟩:=hl
      have ha:args=#[u,u']:=QG
      have hty:ty=#[t,tx]:=aPj
      obtain ⟨w',v,e1,e2,e3,e4,e5,e6,e7⟩:=aeD (ty':=o.type) hW h (ev u).1 (ev u').1
      have hrun:(execOp a.eval o).run P w=.ok (.value v) w':=by
       simp [execOp,ho,resolve,invoke,builtin,ha,hty,e1]
      rw [hrun]
      have htb:Oq G F β H o=DZ β H (owns<|AL G F u):=by simp [Oq,Eu,ho,ha]
      refine ⟨Z,β,e2,hF.mono A0 (λ_ _=>rfl) (λ_ h=>h) e6,e3,e4,A0,λ_ _=>rfl,λk k1 k2=>?_,by rw [htb];exact e7⟩
      omega
  ·cases h
 ·rename_i args ty ho
  split at h
  ·rename_i k es off n e hl hu
   simp only [T.all,B0] at h;obtain ⟨h1,h2⟩:=h;cases hargs:args.toList with
   |nil=>simp [hargs] at hl
   | cons x xs=>
    cases xs with
    |cons _ _=>simp [hargs] at hl
    | nil=>
     simp only [hargs,ET,LC,Ho,OW] at hl
     have hx:=(ev x).1
     rw [hl] at hx;simp only [R] at hx
     have e1:∃ad cap,a.eval x=.slice ad n cap:=by
      exact aNJ
     obtain ⟨ad,cap,e1⟩:=e1
     have ha:args=#[x]:=QG
     cases ht:ty[0]? with
     |none=>simp [ht] at hu
     |some t=>
      simp only [ht,OR] at hu;refine val h2.symm (v:=ag J n) VR ?_ ?_<;>rw [<-h1]
      ·exact Dw
      ·trivial
  ·rename_i e' l e hl hu
   simp only [T.all,B0] at h;obtain ⟨h1,h2⟩:=h;cases hargs:args.toList with
   |nil=>simp [hargs] at hl
   | cons x xs=>
    cases xs with
    |cons _ _=>simp [hargs] at hl
    | nil=>
     simp only [hargs,ET,LC,Ho,OW] at hl
     have hx:=(ev x).1
     rw [hl] at hx;simp only [R] at hx;obtain ⟨ad,cap,e1,_⟩:=hx
     have ha:args=#[x]:=QG
     cases ht:ty[0]? with
     |none=>simp [ht] at hu
     |some t=>
      simp only [ht,OR] at hu;refine val h2.symm (v:=ag J (M l:Y)) VR ?_ ?_<;>rw [<-h1]
      ·exact Dw
      ·trivial
  ·rename_i k' es' off' n' c' e hl hu
   simp only [T.all,B0] at h;obtain ⟨h1,h2⟩:=h;cases hargs:args.toList with
   |nil=>simp [hargs] at hl
   | cons x xs=>
    cases xs with
    |cons _ _=>simp [hargs] at hl
    | nil=>
     simp only [hargs,ET,LC,Ho,OW] at hl
     have hx:=(ev x).1
     rw [hl] at hx;simp only [R] at hx;obtain ⟨_,ad,e1,_⟩:=hx
     have ha:args=#[x]:=QG
     cases ht:ty[0]? with
     |none=>simp [ht] at hu
     |some t=>
      simp only [ht,OR] at hu;refine val h2.symm (v:=ag J n') VR ?_ ?_<;>rw [<-h1]
      ·exact Dw
      ·trivial
  ·exact NB
 ·exact NB
structure Ev (b b':AB):Prop where
 cl:b.E4=U->b'.E4=U/\b'.t=b.t/\M b'.c=M b.c
 live:∀(β:aWe->aWU) (k:aWe),live β k b'->live β k b
 p:b'.p=X->b.p=X
def Ev.refl (b:AB):Ev b b:=⟨λh=>⟨h,rfl,rfl⟩,λ_ _ h=>h,λh=>h⟩
def Ev.trans {a b c:AB}(h:Ev a b) (g:Ev b c):Ev a c:=⟨λhc=>by
 obtain ⟨h1,h2,h3⟩:=h.cl hc;obtain ⟨g1,g2,g3⟩:=g.cl h1;exact ⟨g1,g2.trans h2,g3.trans h3⟩,λβ k hl=>h.live β k<|g.live β k hl,λhp=>h.p<|g.p hp⟩
def EvL (H H':aWi):Prop:=∀(k:aWe) (b:AB),H[k]? =ah b->∃b':AB,H'[k]? =ah b'/\Ev b b'
def EvL.refl (H:aWi):EvL H H:=λ_ b hb=>⟨b,hb,Ev.refl b⟩
def EvL.app (H E:aWi):EvL H (H++E):=λk b hb=>⟨b,A8,Ev.refl b⟩
def EvL.trans {A B C:aWi}(h:EvL A B) (g:EvL B C):EvL A C:=λk b hb=>by
 obtain ⟨b1,h1,h2⟩:=h k b hb;obtain ⟨b2,g1,g2⟩:=g k b1 h1;exact ⟨b2,g1,h2.trans g2⟩
def EvL.set {k0:aWe}{b0 nb:AB}(hb0:H[k0]? =ah b0) (he:Ev b0 nb):EvL H (H.set k0 nb):=λk b hb=>by
 rw [IN]
 by_cases hkk:k0=k
 ·subst hkk
  grind
 ·rw [AE hkk];exact ⟨b,hb,Ev.refl b⟩
def EvL.pub (ks:aWj):EvL H (Ft ks 0 H):=λk b hb=>by
 rw [ck,hb];split
 ·exact ⟨_,rfl,λh=>⟨h,rfl,rfl⟩,λ_ _ h=>h,λh=>Ao⟩
 ·exact ⟨_,rfl,Ev.refl b⟩
def afZ {t:aWu}{x y:LV}{H':aWi}(h:(TW P H t x y).all λq=>q=H'):EvL H H':=by
 unfold TW at h;split at h
 ·split at h
  ·split at h
   ·rename_i hb
    split at h
    ·rename_i hle
     subst h;refine EvL.set hb ⟨λhc=>⟨hc,rfl,?_⟩,λ_ _ h=>h,λh=>h⟩
     simp only [setAt,BL,MA,FO];omega
    ·cases h
   ·cases h
  ·split at h
   ·rename_i hb
    split at h
    ·simp only [T.all] at h
     obtain ⟨_,h⟩:=h;split at h
     ·simp only [T.all] at h
      subst h;exact aNn
     ·cases h
    ·cases h
   ·cases h
  ·cases h
 ·cases h
def aIZ {t:aWu}{x i y:LV}{H':aWi}(h:(Ux P H t x i y).all λq=>q=H'):EvL H H':=by
 unfold Ux at h;split at h
 ·split at h
  ·split at h
   ·rename_i hb
    split at h
    ·simp only [T.all] at h
     exact aN5
    ·cases h
   ·cases h
  ·cases h
 ·cases h
def afE {t:aWu}{x i y:LV}{H':aWi}(h:(insL P H t x i y).all λq=>q=H'):EvL H H':=by
 unfold insL at h;split at h
 ·split at h
  ·rename_i hb
   split at h
   ·split at h
    ·simp only [T.all] at h
     obtain ⟨_,h⟩:=h;exact aN5
    ·cases h
   ·cases h
  ·exact aIZ h
 ·exact aIZ h
def apV {t:aWu}{n c lv:LV}{H':aWi}(h:(UC P H t n c).all λq=>q=(lv,H')):EvL H H':=by
 unfold UC at h;split at h
 ·split at h
  ·split at h
   ·split at h
    ·exact aNU
    ·cases h
   ·cases h
  ·cases h
 ·cases h
def aq2 {t tx:aWu}{x y lv:LV}{H':aWi}(h:(Xi P H t tx x y).all λq=>q=(lv,H')):EvL H H':=by
 unfold Xi at h;split at h
 ·split at h
  ·split at h
   ·rename_i hb
    split at h
    ·split at h
     ·obtain ⟨q,_,h⟩:=T.B8 h
      simp only [T.all,B0] at h;rw [<-h.2.2];exact aNn
     ·cases h
    ·cases h
   ·cases h
  ·cases h
 ·cases h
def af9 {t tx:aWu} {x y lv:LV} {H':aWi} (h:(LR P H t tx x y).all λq=>q=(lv,H')):EvL H H':=by
 unfold LR at h;split at h
 ·split at h
  ·split at h
   ·obtain ⟨q,_,h⟩:=T.B8 h
    ·split at h
     ·exact aNU
     ·split at h
      ·rename_i hb
       split at h
       ·split at h
        ·simp only [T.all,B0] at h
         rw [<-h.2.2];refine (EvL.set hb ?_).trans<|EvL.app _ _;exact ⟨λhc=>yc,λ_ _ h=>by simp [live] at h,λ_=>rfl⟩
        ·cases h
       ·cases h
      ·cases h
     ·cases h
   ·cases h
  ·cases h
 ·cases h
end Go.Sx
namespace Go.Sx
open Go Go.RowKit Go.Proofs.YtoifmkifedcnnaaGreatDoor
variable {P : Program} {G : B5} {Γ : Specs} {K : Hand} {β : Nat -> Loc} {Z : Nat -> Prop} {Z0 : Gz} {w w0 : World} {F : List LV} {H : List AB} {a : Act} {ds : List Deferred} {n : Nat}
def RF.put (hF:RF ds β Z w n F a) {lv:LV}{v:aWx}(hr:R β Z w lv v) (hk:okV n lv) (d:aWQ):RF ds β Z w n (Av F d lv) (a.put d v):=by
 cases d with
 |none=>exact hF
 | some d=>
  refine ⟨by simp [Av,Act.put,hF.size],λt x hx=>?_,hF.defers⟩
  simp only [Av] at hx;rw [IN] at hx;simp only [Act.put]
  have hlt:t<M F:=by
   by_cases ht:t<M F
   ·exact ht
   ·exfalso
    split at hx
    ·split at hx
     ·omega
     ·cases hx
    ·grind
  have hta:t<a.tmps.size:=by rw [hF.size];exact hlt
  by_cases hdt:d=t
  ·subst hdt
   have:(a.tmps.setIfInBounds d v).getD d undef=v:=GD
   grind
  ·rw [AE hdt] at hx
   have:(a.tmps.setIfInBounds d v).getD t undef=a.tmps.getD t undef:=GD
   rw [this];exact hF.get t x hx
def RF.know (hF:RF ds β Z w n F a) {d:aWe}{lv:LV}(hr:R β Z w lv<|a.tmps.getD d undef) (hk:okV n lv):RF ds β Z w n (F.set d lv) a:=by
 refine ⟨by simp [hF.size],λt x hx=>?_,hF.defers⟩
 rw [IN] at hx
 by_cases hdt:d=t
 ·subst hdt
  simp only [Bp] at hx;split at hx
  ·grind
  ·cases hx
 ·rw [AE hdt] at hx;exact hF.get t x hx
def RF.pass (hF:RF ds β Z w n F a) (d:aWQ):RF ds β Z w n (Av F d<|.v undef) (a.put d undef):=hF.put (lv:=.v undef) Ji trivial d
def Vu {o:aWw}{K:aWD->aWq->Prop}{Q:aW4->aWD->aWq->Prop}(h:Di P (λv w'=>K (a.put o.dst v) w')<|(execOp a.eval o).run P w) (r:aWG) (m:aWe):o.wpIn (Dd r) m P a w K Q:=by
 have hnd:∀c,o.op≠ .defer c:=λc hc=>by
  rcases aDW (P:=P) (ρ:=a.eval) (w:=w) hc with ⟨d,w',e⟩ |⟨d,w',e⟩<;>rw [e] at h<;>simp only [Di] at h
 refine ⟨λ_ _=>trivial,?_⟩
 rw [semAt_eq hnd];generalize (execOp a.eval o).run P w=res at*;cases res with
 |ok m w'=>
  cases m<;>simp only [Di] at h<;>simp only [Oper.uponIn]
  case value u=>exact h
  case skip=>exact h
  case enter f args=>exact ⟨λh=>Ao,VB.2<|h.mono λe w'' ⟨v,he,hk⟩=>A8⟩
  case round l f tmps assign body=>exact ⟨λh=>Ao,aEb<|h.mono λe w'' ⟨v,he,hk⟩=>A8⟩
 |halt x w'=>simp only [Di] at h
def W0 {ops:aWm}{o:aWw}{j d:aWe}{want b:aWo}(hg:o.guard=ah (j,want)) (hd:(ops[j]?).bind (·.dst)=ah d) (hv:a.tmps[d]? =ah (.bool b)):az o (yielded ops a.tmps)=(b==want):=by
 exact aNY
def aco {ops:aWm}{o:aWw}{j d:aWe}{want:aWo}{vs:aWz}(hg:o.guard=ah (j,want)) (hd:(ops[j]?).bind (·.dst)=ah d) (hv:a.tmps[d]? =ah (.tuple vs)):az o (yielded ops a.tmps)=false:=by
 exact aNY
def RF.slot (hF:RF ds β Z w n F a) {d:aWe}{x:LV}(hx:F.getD d .junk=x) (hj:x≠ .junk):F[d]? =ah x/\a.tmps[d]? =ah (a.tmps.getD d undef):=by
 cases h:F[d]? with
 |none=>simp [List.getD,h] at hx;exact absurd hx.symm hj
 |some y=>
  simp [List.getD,h] at hx
  subst hx;refine ⟨rfl,?_⟩
  have:d<a.tmps.size:=by rw [hF.size];exact (EE.1 h).1
  simp_all
def RW.less {gh:List<|LV×Value}{mk:aWj}(hW:RW G w0 ⟨Z0.z,gh++Z0.gh,mk++Z0.Cr⟩ Z β H w):RW G w0 Z0 Z β H w:=⟨hW.below,hW.Bc,hW.Et,hW.Cp,hW.GL,hW.low,hW.inj,hW.blk,hW.Cb,λp hp=>hW.gh p<|BX.2<|.inr hp,λD hD=>hW.Cr D<|BX.2<|.inr hD⟩
def dsB:aWT->List Nat
 | []=>[]
 |⟨.collected D,_⟩::ds=>D::dsB ds
 |_::ds=>dsB ds
def rU:∀ {ds:aWT}{D:aWe},Gn D∈ds->D∈dsB ds
 | d::ds,D,h=>by
  rcases BA.1 h with h|h
  ·rw [<-h];simp [dsB,Gn]
  ·unfold dsB
   split
   ·grind
   ·rename_i e;simp only [Ho] at e;rw [<-e.2];exact N7 _<|rU h
   ·rename_i e;simp only [Ho] at e;rw [<-e.2];exact rU h
def aSH:∀ {ds:aWT}{D:aWe},D∈dsB ds->(∀d,d∈ds->∃D,d=Gn D)->Gn D∈ds
 | [],D,h,_=>Ao
 |d::ds,D,h,hm=>by
  obtain ⟨D0,rfl⟩:=hm d AI;rcases BA.1 h with h|h
  ·grind
  ·exact N7 _<|aSH h λd hd=>hm d<|N7 _ hd
def RW.hold (hW:RW G w0 Z0 Z β H w) (hF:RF ds β Z w (M H) F a):RW G w0 ⟨Z0.z,F.zip a.tmps.toList++Z0.gh,dsB ds++Z0.Cr⟩ Z β H w:=⟨hW.below,hW.Bc,hW.Et,hW.Cp,hW.GL,hW.low,hW.inj,hW.blk,hW.Cb,λp hp=>by
  rcases BX.1 hp with hp|hp
  ·obtain ⟨i,hi,hpi⟩:=HG.1 hp
   have hiF:i<M F:=A8
   have hia:i<a.tmps.size:=A8
   have h1:=hF.get i F[i]<|Dg hiF
   have e2:a.tmps.getD i undef=a.tmps[i]:=GD
   grind
  ·exact hW.gh p hp,λD hD=>by
  rcases BX.1 hD with hD|hD
  ·have:=aSH hD (λd hd=>by obtain ⟨D,h,_⟩:=hF.defers.2 d hd;exact ⟨D,h⟩)
   obtain ⟨D',h1,h2,h3⟩:=hF.defers.2 _ this
   grind
  ·exact hW.Cr D hD⟩
def RW.held {β':aWe->aWU}{Z':aWe->Prop}{w':aWq}{H':aWi}(hF:RF ds β Z w (M H) F a) (r1:RW G w0 ⟨Z0.z,F.zip a.tmps.toList++Z0.gh,dsB ds++Z0.Cr⟩ Z' β' H' w'):RF ds β' Z' w' (M H') F a:=by
 refine ⟨hF.size,λt x hx=>?_,hF.defers.1,λd hd=>?_⟩
 ·have htF:=(EE.1 hx).1
  have hta:t<a.tmps.size:=by have:=hF.size;omega
  have e2:a.tmps.getD t undef=a.tmps[t]:=GD
  rw [e2];refine r1.gh (x,a.tmps[t])<|BX.2<|.inl<|HG.2 ⟨t,A8,?_⟩
  have:F[t]=x:=A8
  simp [this]
 ·obtain ⟨D,h1,h2,h3⟩:=hF.defers.2 d hd
  have:=r1.Cr D<|BX.2<|.inl<|rU<|h1▸hd
  grind
def aDz {o:aWw}{g:aWF}{l:aWf}(h:callOf G F o=ah (g,l)):∃f args ty,o.op=.call {callee:=.value f,args,argTypes:=ty}/\sB G F f args g l:=by
 unfold callOf at h;split at h
 ·rename_i f args ty ho
  split at h
  ·rename_i g' cap hf
   obtain ⟨rfl,rfl⟩:=h;exact ⟨f,args,ty,ho,.inl ⟨cap,hf,rfl⟩⟩
  ·rename_i g' fs hf
   obtain ⟨rfl,rfl⟩:=h;exact ⟨f,args,ty,ho,.inr<|.inl ⟨fs,hf,rfl⟩⟩
  ·rename_i g' hf
   obtain ⟨rfl,rfl⟩:=h;exact ⟨f,args,ty,ho,.inr<|.inr ⟨hf,rfl⟩⟩
  ·cases h
 ·cases h
def aFb {o:aWw}{k:aWe}{l:aWf}(h:zb G F o=ah (k,l)):∃f args ty,o.op=.call {callee:=.value f,args,argTypes:=ty}/\AL G F f=.CO k/\l=args.toList.map (λx=>norm<|AL G F x):=by
 unfold zb at h;split at h
 ·rename_i f args ty ho
  split at h
  ·rename_i k' hf
   grind
  ·cases h
 ·cases h
def aDq (hΓ:∀g S,Γ g=ah S->Valid P G g S) (hK:FW P G K) (hW:RW G w0 Z0 Z β H w) (hF:RF ds β Z w (M H) F a) {o:aWw}{lv:LV}{H':aWi}(h:(KB P G Γ K F H o).all λq=>q=(lv,H')):
  Di P (λv w'=>∃Z' β',RW G w0 Z0 Z' β' H' w'/\RF ds β' Z' w' (M H') F a/\R β' Z' w' lv v/\okV (M H') lv) ((execOp a.eval o).run P w):=by
 unfold KB at h
 have old:(Ax P G Γ F H o).all (λq=>q=(lv,H'))->Di P (λv w'=>∃Z' β',RW G w0 Z0 Z' β' H' w'/\RF ds β' Z' w' (M H') F a/\R β' Z' w' lv v/\okV (M H') lv) ((execOp a.eval o).run P w):=λh=>
  KM (λv w' ⟨Z',β',e1,e2,e3,e4,_⟩=>⟨Z',β',e1,e2,e3,e4⟩) (cq hΓ hW hF h)
 split at h
 ·rename_i g l hc
  split at h
  ·exact old h
  ·split at h
   ·rename_i fn hfn
    split at h
    ·rename_i hb
     obtain ⟨f,args,ty,ho,hf⟩:=aDz hc;simp only [AY,D2] at hb;obtain ⟨hb1,hb2⟩:=hb;obtain ⟨vals,hrun,hargs,hoka⟩:=aEe ho hW hF hf hfn A8 A8;rw [hrun];exact (hK.k w0 _ Z β H w g _ _ lv H' (hW.hold hF) hargs hoka h).mono λe w' ⟨v,he,Z',β',r1,r2,r3⟩=>⟨v,he,Z',β',r1.less,RW.held hF r1,r2,r3⟩
    ·cases h
   ·cases h
 ·split at h
  ·rename_i k l hy
   obtain ⟨f,args,ty,ho,hf,rfl⟩:=aFb hy
   have hfr:=hF.eval hW.Cb f
   rw [hf] at hfr;simp only [R,okV] at hfr
   have hargs:RL β Z w (args.toList.map λx=>norm<|AL G F x) (args.map a.eval).toList:=by
    exact aMJ
   have hoka:AT (M H) (args.toList.map λx=>norm<|AL G F x):=by
    exact aMD
   obtain ⟨r,h1,h2,h3⟩:=hK.y w0 _ Z β H w k _ _ lv H' (hW.hold hF) hargs hoka h
   have hrun:(execOp a.eval o).run P w=.ok (.round (β k).b r.fn ((r.params.zip<|args.map a.eval).foldl (λt (p,v)=>t.setIfInBounds p v) r.tmps) r.assign r.body) w:=by
    unfold execOp;simp only [ho]
    have:=run_yield (P:=P) h1 h2
    simp [resolve,Deferred.ofValue,hfr.1,invoke,this]
   rw [hrun];exact h3.mono λe w' ⟨v,he,Z',β',r1,r2,r3⟩=>⟨v,he,Z',β',r1.less,RW.held hF r1,r2,r3⟩
  ·exact old h
def agP {o:aWw}(hm:S9 P Γ o=U):KB P G Γ K F H o=Ax P G Γ F H o:=by
 unfold KB;split
 ·rename_i g l hc
  obtain ⟨f,args,ty,ho,hf⟩:=aDz hc;unfold S9 at hm;simp only [AY] at hm
  have hm2:=hm.2
  rw [ho] at hm2;cases f with
  |func g'=>
   rcases hf with ⟨_,hf,_⟩ |⟨_,hf,_⟩ |⟨hf,_⟩
   rotate_left
   ·simp [AL] at hf
   ·simp [AL] at hf
   obtain ⟨rfl,_⟩:=hf
   grind
  |tmp _=>simp at hm2
  |const _=>simp at hm2
  |global _=>simp at hm2
 ·split
  ·rename_i k l hy
   obtain ⟨f,args,ty,ho,hf,rfl⟩:=aFb hy;unfold S9 at hm;simp only [AY] at hm
   have hm2:=hm.2
   rw [ho] at hm2;cases f with
   |func g'=>simp [AL] at hf
   |tmp _=>simp at hm2
   |const _=>simp at hm2
   |global _=>simp at hm2
  ·rfl
def afm {o:aWw}(hm:S9 P Γ o=U):On P o=true:=by
 unfold S9 at hm;simp only [AY] at hm;exact hm.1
def aEt {ty:Ty}:∀(cs:aWf) (ls:List<|List ty.D),iK ty cs=ah ls->∀(j:aWe) (x:LV),cs[j]? =ah x->∃l,x=.xl ty l/\ls[j]? =ah l
 | [],_,_,j,x,hx=>A8
 | c ::cs,ls,h,j,x,hx=>by
  simp only [iK] at h;split at h
  ·rename_i e l
   split at h
   ·rename_i he r _ hr
    simp only [Ai] at h;subst h;subst he;cases j with
    |zero=>
     simp only [List.getElem?_cons_zero,Ai] at hx;exact ⟨l,hx.symm,rfl⟩
    |succ j=>
     exact aEt cs r hr j x hx
   ·cases h
  ·cases h
def aed {o o2:aWw} {num:Y} {len:aWe} {lv:LV} (hW:RW G w0 Z0 Z β H w) (hF:RF ds β Z w (M H) F a) (h:wJ P G F H o o2=ah (num,len,lv)) (h0:0<=num/\num<(len:Y)):
  o.guard=aj/\o2.guard=aj/\∃v z,(execOp a.eval o).run P w=.ok (.value v) w/\(execOp (a.put o.dst v).eval o2).run P w=.ok (.value z) w/\R β Z w lv z/\okV (M H) lv:=by
 unfold wJ at h;split at h
 ·rename_i hg
  simp only [AY,Ze] at hg;refine ⟨hg.1,hg.2,?_⟩;split at h
  ·rename_i t x i d t2 d2 ho hd ho2
   split at h
   ·rename_i hc
    obtain ⟨rfl,hdl,hagg⟩:=hc;split at h
    ·rename_i len' e k off kd n hu hx hi
     split at h
     ·rename_i hsz
      split at h
      ·rename_i b hb
       split at h
       ·rename_i hcl
        split at h
        ·rename_i ty l rest hcs
         split at h
         ·rename_i ls hls
          simp only [Ai,B0] at h;obtain ⟨rfl,rfl,rfl⟩:=h
          have exv:=hF.eval hW.Cb x
          have eiv:=hF.eval hW.Cb i
          rw [hx] at exv;rw [hi] at eiv
          have hix:(Ta P t (.own k off) U<|.ki kd n).all (λr=>r=.own k (off+n.toNat*(0+1))):=by
           unfold Ta;simp only [pl,hu,hsz,Bp];rw [AD h0];simp only [T.all]
          obtain ⟨v,e1,e2,e3⟩:=aDH (w:=w) hix exv.1 (show R β Z w (.ki kd n) (a.eval i) by simp only [R];exact eiv.1) exv.2
          have hj:n.toNat<len':=A0
          obtain ⟨c,hc⟩:∃c,b.c[off+n.toNat]? =ah c:=⟨_,Dg A0⟩
          have hcc:(LV.xl ty l::rest)[n.toNat]? =ah c:=by
           rw [<-hcs,LD,AD hj,FP];exact hc
          obtain ⟨l',rfl,hl'⟩:=aEt _ _ hls _ _ hcc
          have hld:(FY P H t2<|.own k<|off+n.toNat*(0+1)).all (λz=>z=.xl ty l'):=by
           unfold FY;simp only [hagg,hb,Ek,Nat.mul_one,hcl.1,Bp,hc,T.all]
          obtain ⟨z,f1,f2,f3⟩:=oY hW hld e2 e3;refine ⟨v,z,KI,?_,?_,?_⟩
          ·have hda:d2<a.tmps.size:=by rw [hF.size];exact hdl
           have ev:(a.put o.dst v).eval (.tmp d2)=v:=by simp [hd,Act.put,Act.eval,Array.getD,hda]
           simp [execOp,ho2,ev,f1]
          ·have:ls.getD n.toNat []=l':=A8
           rw [this];exact f2
          ·trivial
         ·cases h
        ·cases h
       ·cases h
      ·cases h
     ·cases h
    ·cases h
   ·cases h
  ·cases h
 ·cases h
def cg (hΓ:∀g S,Γ g=ah S->Valid P G g S) (hK:FW P G K) {ops:aWm}{Q:aW4->aWD->aWq->Prop}{F':aWf}{H':aWi}(hQ:∀Z' β' a' w',RW G w0 Z0 Z' β' H' w'->RF ds β' Z' w' (M H') F' a'->Q .normal a' w') (r:aWG) (m:aWe):
  ∀(os:aWL) (k:aWe) (F:aWf) (H:aWi) (Z:aWe->Prop) (β:aWe->aWU) (a:aWD) (w:aWq),(∀j,os[j]? =ops[k+j]?)->RW G w0 Z0 Z β H w->RF ds β Z w (M H) F a->
   (Ic P G Γ K ops os F H).all (λq=>q=(F',H'))->wpOpsIn (Dd r) m P ops Q (List.range' k<|M os) a w
 | [],k,F,H,Z,β,a,w,_,hW,hF,h=>by
  simp only [Ic,T.all,B0] at h;obtain ⟨rfl,rfl⟩:=h;simp only [Bt,List.range'_zero,wpOpsIn];exact hQ Z β a w hW hF
 | o ::os,k,F,H,Z,β,a,w,hl,hW,hF,h=>by
  have h0:ops[k]? =ah o:=by simpa using (hl 0).symm
  have hl':∀j,os[j]? =ops[k+1+j]? :=λj=>by have:=hl<|j+1;simpa [Hp,xY 1 j] using this
  simp only [Bj,List.range'_succ,wpOpsIn,h0]
  have goOk:∀(F:aWf),RF ds β Z w (M H) F a->((KB P G Γ K F H o).bind λq=>Ic P G Γ K ops os (Av F o.dst q.1) q.2).all (λq=>q=(F',H'))->o.wpIn (Dd r) m P a w (wpOpsIn (Dd r) m P ops Q<|List.range' (k+1)<|M os) Q:=λF hF h=>by
   obtain ⟨⟨lv,H1⟩,h1,h2⟩:=T.B8 h;refine Vu (KM (λv w' ⟨Z',β',e1,e2,e3,e4⟩=>?_)<|aDq hΓ hK hW hF h1) r m
   exact cg hΓ hK hQ r m os (k+1) _ H1 Z' β' _ w' hl' e1 (e2.put e3 e4 o.dst) h2
  have passOk:∀(F:aWf),RF ds β Z w (M H) F a->(Ic P G Γ K ops os (Av F o.dst<|.v undef) H).all (λq=>q=(F',H'))->(∀f,o.about P w a.eval=ah f->(Dd r).fn f)/\wpOpsIn (Dd r) m P ops Q (List.range' (k+1)<|M os) (a.put o.dst undef) w:=λF hF h=>
   ⟨λ_ _=>trivial,cg hΓ hK hQ r m os (k+1) _ H Z β _ w hl' hW (hF.pass o.dst) h⟩
  unfold Ic at h;simp only at h;split at h
  ·rename_i hg
   have hw:az o (yielded ops a.tmps)=true:=aZ
   rw [AD hw];split at h
   ·exact goOk F hF h
   ·rename_i o2 os2
    split at h
    ·rename_i num len lv hix
     simp only [T.all] at h;obtain ⟨h1,h2⟩:=h;obtain ⟨_,hg2,v,z,r1,r2,r3,r4⟩:=aed hW hF hix h1
     have h02:ops[k+1]? =ah o2:=by simpa using (hl' 0).symm
     have hl2:∀j,os2[j]? =ops[k+1+1+j]? :=λj=>by have:=hl'<|j+1;rw [lr] at this;rw [this];congr 1;omega
     have act1:∀ {K:aWx->aWq->Prop},K v w->Di P K ((execOp a.eval o).run P w):=λh=>by rw [r1];exact h
     have act2:∀ {K:aWx->aWq->Prop},K z w->Di P K ((execOp (a.put o.dst v).eval o2).run P w):=λh=>by rw [r2];exact h
     refine Vu (act1 ?_) r m;simp only [Bj,List.range'_succ,wpOpsIn,h02]
     have hw2:az o2 (yielded ops (a.put o.dst v).tmps)=true:=by simp [az,hg2]
     rw [AD hw2];refine Vu (act2 ?_) r m;exact cg hΓ hK hQ r m os2 (k+1+1) _ H Z β _ w hl2 hW ((hF.put (lv:=.junk) Ji trivial o.dst).put r3 r4 o2.dst) h2
    ·exact goOk F hF h
  ·rename_i j want hg
   split at h
   ·rename_i d hd
    split at h
    ·rename_i b hb
     obtain ⟨s1,s2⟩:=hF.slot hb AI
     have hv:=(hF.get d _ s1).1
     simp only [R] at hv;rw [hv] at s2;rw [W0 hg hd s2];split at h
     ·grind
     ·rename_i e;rw [AE yj];exact passOk F hF h
    ·rename_i g hb
     obtain ⟨s1,s2⟩:=hF.slot hb AI
     have hv:=(hF.get d _ s1).1
     simp only [R] at hv
     have kn:∀b,g=b->RF ds β Z w (M H) (F.set d<|.bl b) a:=λb e=>hF.know mr trivial
     rw [hv] at s2;rw [W0 hg hd s2];split at h
     ·rename_i hwt
      subst hwt;simp only [T.all] at h;cases hgg:g with
      |true=>simp only [OS,Bp];exact goOk _ (kn U hgg) (h.1 hgg)
      |false=>rw [AE AI];exact passOk _ (kn X hgg)<|h.2 hgg
     ·rename_i hwt
      have hwt':want=false:=z7
      subst hwt';simp only [T.all] at h;cases hgg:g with
      |true=>rw [AE AI];exact passOk _ (kn U hgg) (h.1 hgg)
      |false=>simp only [OS,Bp];exact goOk _ (kn X hgg)<|h.2 hgg
    ·rename_i vs hb
     obtain ⟨s1,s2⟩:=hF.slot hb AI
     have hv:=(hF.get d _ s1).1
     simp only [R] at hv;exact aNx
    ·cases h
   ·cases h
def T.lv {α:Type}(p:α->Prop):T α->Prop
 | .ok x=>p x
 | .br _ t e=>t.lv p/\e.lv p
 | .req _ t=>t.lv p
 | .no=>True
def T.TI {α γ:Type}{p:α->Prop}{q:γ->Prop}{k:α->T γ}(hk:∀x,p x->(k x).lv q):∀ {t:T α},t.lv p->(t.bind k).lv q
 | .ok _,h=>hk _ h
 | .br _ t e,h=>⟨T.TI hk (t:=t) h.1,T.TI hk (t:=e) h.2⟩
 | .req _ t,h=>T.TI hk (t:=t) h
 | .no,_=>trivial
def T.WW {α:Type}{p:α->Prop}(hp:∀x,p x):∀(t:T α),t.lv p
 | .ok _=>hp _
 | .br _ t e=>⟨T.WW hp t,T.WW hp e⟩
 | .req _ t=>T.WW hp t
 | .no=>trivial
def aev {o:aWw}(hpt:LP P 8 o.type=U) {g:aWF}{l:aWf}:(Lf P Γ H o g l).lv (λq=>q.2=H):=by
 have bd:∀(t:T LV),(t.bind λy=>(T.ok (y,H):T<|LV×List AB)).lv (λq=>q.2=H):=λt=>T.TI (p:=λ_=>True) (q:=λq:LV×List AB=>q.2=H) (k:=λy=>T.ok (y,H)) (λx _=>(rfl:(x,H).2=H))<|T.WW (λ_=>trivial) t
 unfold Lf;split
 ·split
  ·split
   ·split
    ·exact bd _
    ·grind
   ·trivial
  ·trivial
 ·trivial
def qd {o:aWw}(hm:On P o=U):(Ax P G Γ F H o).lv (λq=>q.2=H):=by
 have bd:∀(t:T LV),(t.bind λy=>(T.ok (y,H):T<|LV×List AB)).lv (λq=>q.2=H):=λt=>T.TI (p:=λ_=>True) (q:=λq:LV×List AB=>q.2=H) (k:=λy=>T.ok (y,H)) (λx _=>(rfl:(x,H).2=H))<|T.WW (λ_=>trivial) t
 have c1:∀ {f:aWS} {args:aWV} {ty:aW3},o.op=.call {callee:=.value f,args,argTypes:=ty}->LP P 8 o.type=true:=λho=>aPJ
 have c2:∀ {r:aWS} {name:aXh} {args:aWV} {ty:aW3},o.op=.call {callee:=.invoke r name,args,argTypes:=ty}->LP P 8 o.type=true:=λho=>aPJ
 unfold Ax;split<;>(try exact bd _)<;>(try trivial)<;>(try rfl)<;>(try (rename_i ho;simp [On,ho] at hm;done))<;>(try (rename_i ho;have hpt:=c1 ho))<;>(try (rename_i ho;have hpt:=c2 ho))
 all_goals (split<;>(try exact bd _)<;>(try trivial)<;>(try rfl)<;>(try exact aev hpt))
 all_goals (split<;>(try exact bd _)<;>(try trivial)<;>(try rfl))
def Keeps (ds:aWj) (F:aWf) (H:aWi) (q:List LV×List AB):Prop:=M q.1=M F/\(∀i,i∉ds->q.1[i]? =F[i]?)/\q.2=H
def cM {ds:aWj}{F F1:aWf}(h:M F1=M F/\∀i,i∉ds->F1[i]? =F[i]?) {d:aWe}(hd:d∈ds) (x:LV):M (F1.set d x)=M F/\∀i,i∉ds->(F1.set d x)[i]? =F[i]? :=by
 refine ⟨A8,λi hi=>?_⟩
 grind
def Vv {ds:aWj}{F F1:aWf}(h:M F1=M F/\∀i,i∉ds->F1[i]? =F[i]?) {d:aWG}(hd:∀t,d=ah t->t∈ds) (x:LV):M (Av F1 d x)=M F/\∀i,i∉ds->(Av F1 d x)[i]? =F[i]? :=by
 cases d with
 |none=>exact h
 |some t=>exact cM h (hd t rfl) x
def p7 {ops:aWm}{F0:aWf}:∀(os:aWL) (F:aWf),(∀o∈os,o∈ops.toList)->(∀o∈os,S9 P Γ o=U)->M F=M F0/\(∀i,i∉Fc ops.toList->F[i]? =F0[i]?)->
  (Ic P G Γ K ops os F H).lv (Keeps (Fc ops.toList) F0 H)
 | [],F,_,_,h=>by simp only [Ic,T.lv,Keeps];exact ⟨h.1,h.2,ak⟩
 | o ::os,F,hin,hm,h=>by
  have hdo:∀t,o.dst=ah t->t∈Fc ops.toList:=λt ht=>SW.2 ⟨o,hin o AI,ht⟩
  have go:∀F:aWf,M F=M F0/\(∀i,i∉Fc ops.toList->F[i]? =F0[i]?)->((KB P G Γ K F H o).bind λq=>Ic P G Γ K ops os (Av F o.dst q.1) q.2).lv (Keeps (Fc ops.toList) F0 H):=λF hF=>
   T.TI (p:=λq=>q.2=H) (λq hq=>by rw [hq];exact p7 os _ (λo ho=>hin o Ve) (λo ho=>hm o Ve)<|Vv hF hdo _) (by rw [agP<|hm o AI];exact qd<|afm<|hm o AI)
  have pass:∀F:aWf,M F=M F0/\(∀i,i∉Fc ops.toList->F[i]? =F0[i]?)->(Ic P G Γ K ops os (Av F o.dst<|.v undef) H).lv (Keeps (Fc ops.toList) F0 H):=λF hF=>
   p7 os _ (λo ho=>hin o Ve) (λo ho=>hm o Ve) (Vv hF hdo _)
  unfold Ic;simp only;split
  ·split
   ·exact go F h
   ·rename_i o2 os2
    split
    ·have hdo2:∀t,o2.dst=ah t->t∈Fc ops.toList:=λt ht=>SW.2 ⟨o2,hin o2 AI,ht⟩
     exact p7 os2 _ (λo ho=>hin o Ve) (λo ho=>hm o Ve)<|Vv (Vv h hdo _) hdo2 _
    ·exact go F h
  ·rename_i j want hg
   split
   ·rename_i d hd
    have hdd:d∈Fc ops.toList:=by
     cases hj:ops[j]? with
     |none=>simp [hj] at hd
     |some oj=>simp [hj] at hd;exact SW.2 ⟨oj,A8,hd⟩
    split
    ·split
     ·exact go F h
     ·exact pass F h
    ·exact aNH
    ·grind
    ·trivial
   ·trivial
def abL {x:LV}{v:aWx}(h:R β Z w x v):R β Z w (nki x) v:=yT
def adv {x y:LV}{v:aWx}(h:R β Z w x v):R β Z w (TH U x y) v:=by
 unfold TH;split<;>simp_all [R]
 split<;>simp_all [R]
def adh {x y:LV}{v:aWx}(h:R β Z w y v):R β Z w (TH X x y) v:=by
 unfold TH;split<;>simp_all [R]
 split<;>simp_all [R]
def aes {b:aWo}{x y:LV}:okV n (TH b x y):=by
 unfold TH;split<;>(try trivial)
 split<;>trivial
def ae7 {x y:LV}{v:aWx}(h:R β Z w x v):R β Z w (XF U x y) v:=adv<|abL h
def adu {x y:LV}{v:aWx}(h:R β Z w y v):R β Z w (XF X x y) v:=adh<|abL h
def afk {b:aWo}{x y:LV}:okV n (XF b x y):=aes
def aFN {dl:aWT}{ds:aWj}{b:aWo}{F F1 F2:aWf}(k1:M F1=M F/\∀i,i∉ds->F1[i]? =F[i]?) (k2:M F2=M F/\∀i,i∉ds->F2[i]? =F[i]?) (h:RF dl β Z w n (if b then F1 else F2) a):RF dl β Z w n (TZ ds b F F1 F2) a:=by
 refine ⟨by rw [h.size];cases b<;>simp [TZ,k1.1,k2.1],λt x hx=>?_,h.defers⟩
 have ht:t<M F:=by have:=(EE.1 hx).1;simpa [TZ] using this
 have hx':x=if ds.contains t then XF b (F1.getD t .junk) (F2.getD t .junk) else F.getD t .junk:=by
  simp [TZ,ht] at hx
  rw [<-hx]
  grind
 have g1:∀q,(if b then F1 else F2)[t]? =ah q->R β Z w q (a.tmps.getD t undef)/\okV n q:=λq hq=>h.get t q hq
 by_cases hc:t∈ds
 ·rw [AD<|by simpa using hc] at hx'
  rw [hx'];refine ⟨?_,afk⟩;cases b with
  |true=>
   have:=(g1 (F1[t]' A0) AI).1
   have e2:F1.getD t .junk=F1[t]' A0:=A8
   rw [e2];exact ae7 this
  |false=>
   have:=(g1 (F2[t]' A0) AI).1
   have e2:F2.getD t .junk=F2[t]' A0:=A8
   rw [e2];exact adu this
 ·rw [AE<|by simpa using hc] at hx'
  have e:=Dg ht
  have e2:F.getD t .junk=F[t]'ht:=A8
  rw [hx',e2];refine g1 _ ?_;cases b with
  |true=>simp only [Bp];rw [k1.2 t hc,e]
  |false=>simp only [IJ,FQ];rw [k2.2 t hc,e]
def cP {ds:aWj}:∀ {t:T<|List LV×List AB},t.lv (Keeps ds F H)->(Kb ds F H t).lv (Keeps ds F H)
 | .ok _,h=>h
 | .no,_=>trivial
 | .req _ t,h=>cP (t:=t) h
 | .br b t e,h=>by
  have h1:=cP h.1
  have h2:=cP h.2
  simp only [Kb];split
  ·rename_i x y hx hy
   rw [hx] at h1;rw [hy] at h2;split
   ·exact ⟨h1,h2⟩
   refine ⟨by simp [TZ],λi hi=>?_,rfl⟩
   simp only [TZ]
   by_cases ht:i<M F
   ·grind
   ·simp [ht]
  ·exact ⟨h1,h2⟩
def Oe {ds:aWj}:∀ {t:T<|List LV×List AB}{r:List LV×List AB},t.lv (Keeps ds F H)->(Kb ds F H t).all (λq=>q=r)->
  ∃q,t.all (λz=>z=q)/\q.2=r.2/\∀(dl:aWT) (β:aWe->aWU) (Z:aWe->Prop) (w:aWq) (n:aWe) (a:aWD),RF dl β Z w n q.1 a->RF dl β Z w n r.1 a
 | .ok x,r,_,h=>⟨x,rfl,by rw [show x=r from h],λ_ _ _ _ _ _ hh=>by rw [<-show x=r from h];exact hh⟩
 | .no,_,_,h=>Ao
 | .req p t,r,hk,h=>by
  obtain ⟨q,h1,h2,h3⟩:=Oe (t:=t) hk h.2;exact ⟨q,⟨h.1,h1⟩,h2,h3⟩
 | .br b t e,r,hk,h=>by
  have k1:=cP hk.1
  have k2:=cP hk.2
  have apart:(T.br b (Kb ds F H t)<|Kb ds F H e).all (λq=>q=r)->∃q,(T.br b t e).all (λz=>z=q)/\q.2=r.2/\∀(dl:aWT) (β:aWe->aWU) (Z:aWe->Prop) (w:aWq) (n:aWe) (a:aWD),RF dl β Z w n q.1 a->RF dl β Z w n r.1 a:=λh=>by
   cases b with
   |true=>
    obtain ⟨q,h1,h2,h3⟩:=Oe (t:=t) hk.1<|h.1 rfl;exact ⟨q,⟨λ_=>h1,λhb=>LH⟩,h2,h3⟩
   |false=>
    obtain ⟨q,h1,h2,h3⟩:=Oe (t:=e) hk.2<|h.2 rfl;exact ⟨q,⟨λhb=>LH,λ_=>h1⟩,h2,h3⟩
  simp only [Kb] at h;split at h
  ·rename_i x y hx hy
   split at h
   ·simp_all
   rw [hx] at k1;rw [hy] at k2
   have hr:=h
   cases b with
   |true=>
    obtain ⟨q,h1,h2,h3⟩:=Oe (t:=t) (r:=x) hk.1 (by rw [hx];rfl)
    refine ⟨q,⟨λ_=>h1,λhb=>LH⟩,by rw [<-hr,h2];exact k1.2.2,λdl β Z w n a hh=>?_⟩
    rw [<-hr];exact aFN ⟨k1.1,k1.2.1⟩ ⟨k2.1,k2.2.1⟩ (h3 dl β Z w n a hh)
   |false=>
    obtain ⟨q,h1,h2,h3⟩:=Oe (t:=e) (r:=y) hk.2 (by rw [hy];rfl)
    refine ⟨q,⟨λhb=>LH,λ_=>h1⟩,by rw [<-hr,h2];exact k2.2.2,λdl β Z w n a hh=>?_⟩
    rw [<-hr];exact aFN ⟨k1.1,k1.2.1⟩ ⟨k2.1,k2.2.1⟩<|h3 dl β Z w n a hh
  ·simp_all
def afd (hΓ:∀g S,Γ g=ah S->Valid P G g S) (hK:FW P G K) {id:aWe}{ops:aWm}{Q:aW4->aWD->aWq->Prop}{F':aWf}{H':aWi}(hQ:∀Z' β' a' w',RW G w0 Z0 Z' β' H' w'->RF ds β' Z' w' (M H') F' a'->Q .normal a' w')
  (hW:RW G w0 Z0 Z β H w) (hF:RF ds β Z w (M H) F a) (h:(aD2 P G Γ K ops F H).all λq=>q=(F',H')) (r:aWG) (m:aWe):(Code.region id ops X).wpIn (Dd r) m P Q a w:=by
 refine wpIn_region ?_
 have e:au ops.size=List.range' 0 (M ops.toList):=by rw [List.range_eq_range'];simp
 rw [e];unfold aD2 at h;split at h
 ·rename_i hm
  have hk:(Ic P G Γ K ops ops.toList F H).lv (Keeps (Fc ops.toList) F H):=p7 _ _ (λ_ h=>h) (λo ho=>BO.1 hm o ho) ⟨rfl,λ_ _=>rfl⟩
  obtain ⟨q,h1,h2,h3⟩:=Oe hk h;refine cg hΓ hK (F':=q.1) (H':=q.2) (λZ' β' a' w' e1 e2=>hQ Z' β' a' w' A8 A8) r m ops.toList 0 F H Z β a w AI hW hF h1
 ·exact cg hΓ hK hQ r m ops.toList 0 F H Z β a w AI hW hF h
end Go.Sx
namespace Go.Sx
open Go Go.RowKit Go.Proofs.YtoifmkifedcnnaaGreatDoor
variable {P : Program} {G : B5} {Γ : Specs} {β : Nat -> Loc} {Z : Nat -> Prop} {Z0 : Gz} {w w0 wr : World} {F : List LV} {H : List AB} {a : Act} {ds : List Deferred} {n : Nat}
def T.Qm {α:Type}{p:α->Prop}{x:α}:∀ {t:T α},t.lv p->t.all (λz=>z=x)->p x
 | .ok y,h,e=>by rw [<-show y=x from e];exact h
 | .br b t e,h,hh=>by
  cases b with
  |true=>exact T.Qm (t:=t) h.1 (hh.1 rfl)
  |false=>exact T.Qm (t:=e) h.2 (hh.2 rfl)
 | .req _ t,h,hh=>T.Qm (t:=t) h hh.2
 | .no,_,hh=>by cases hh
def aej {t:aWu}{x lv:LV}{y:aWx}(hW:RW G w0 Z0 Z β H w) (h:(FY P H t x).all λz=>z=lv) (hr:R β Z w x y):∀k,k∈owns x->(∃b,H[k]? =ah b/\live β k b)/\((∃off,x=.own k off)\/∃es i j,x=.op k es i j):=by
 intro k hk
 have cl:∀b:AB,b.E4=U->live β k b:=λb hc=>by
  unfold AB.E4 at hc;split at hc
  ·rename_i hb;unfold live;rw [hb];trivial
  ·cases hc
 unfold FY at h;split at h
 ·exact aMW
 ·exact aMW
 ·cases h
def aeh {t:aWu}{x q lv:LV}(h:(UD P H t x q).all λr=>r=lv):∀k,x=.om k->∃b,H[k]? =ah b/\live β k b:=by
 intro k hk;subst hk;unfold UD at h;exact aMV
def ae4 {t:aWu}{x q lv:LV}(h:(XG P H t x q).all λr=>r=lv):∀k,x=.om k->∃b,H[k]? =ah b/\live β k b:=by
 intro k hk;subst hk;unfold XG at h;exact aMV
def aei {t:aWu}{x q lv:LV}(h:(XW P H t x q).all λr=>r=lv):∀k,x=.om k->∃b,H[k]? =ah b/\live β k b:=by
 intro k hk;subst hk;unfold XW at h;simp only at h;split at h
 ·rename_i hb;exact ⟨_,hb,ak⟩
 ·exact aeh h k rfl
def aeg (hΓ:∀g S,Γ g=ah S->Valid P G g S) {tr:aWj} {D:aWq->Prop} {o:aWw} {lv:LV} (hW:RW G w0 Z0 Z β H wr) (hF:RF ds β Z wr (M H) F a)
  (hD:∀w',D w'->RW G w0 Z0 Z β H w'/\∀b,(Z b\/∃k bk,H[k]? =ah bk/\live β k bk/\tr.contains k=X/\b=(β k).b)->w'.heap[b]? =wr.heap[b]?)
  (h:(Xk P G Γ tr F H o).all λz=>z=lv):∃v,(∀w',D w'->Nb P o a w' v)/\R β Z wr lv v/\okV (M H) lv:=by
 unfold Xk at h;split at h
 ·cases h
 ·rename_i hsp
  simp only [Cj,D2,not_or,Bool.not_eq_true,Q5] at hsp;obtain ⟨hsp,hap⟩:=hsp
  have ev:=λx=>hF.eval hW.Cb x
  have hFD:∀w',D w'->RF ds β Z w' (M H) F a:=λw' hw'=>hF.mono (At _) (λ_ _=>rfl) (λ_ h=>h) λb hz=>(hD w' hw').2 b<|.inl hz
  split at h
  ·rename_i hcall
   obtain ⟨h1,hpl⟩:=aEU h;obtain ⟨⟨lv',H'⟩,h2,h3⟩:=T.B8 h1
   have e3:lv'=lv:=h3
   subst e3;obtain ⟨x,hx⟩:=Zh.1 hpl
   have hm:On P o=true:=by unfold Wq at hcall;unfold On;unfold isSp at hsp;split at hcall<;>simp_all
   have hH:H'=H:=T.Qm (p:=λq:LV×List AB=>q.2=H) (x:=(lv',H')) (qd hm) h2
   subst hH;refine ⟨x,λw' hw'=>?_,aLv hx,?_⟩
   ·have hs:=cq hΓ (hD w' hw').1 (hFD w' hw') h2
    have hrun:∃g vals,(execOp a.eval o).run P w'=.ok (.enter g vals) w':=by
     unfold Wq at hcall;split at hcall
     ·rename_i f args ty ho
      have h2':=h2
      unfold Ax at h2';simp only [ho] at h2';split at h2'
      ·rename_i g cap hf
       have hfr:=(ev f).1
       rw [hf] at hfr;simp only [R] at hfr;obtain ⟨ys,hy,_⟩:=hfr;obtain ⟨fn,S,k1,k2,k3,_⟩:=TC h2';exact ⟨_,_,aDu ho hy k1 k2 k3 w'⟩
      ·rename_i g fs hf
       have hfr:=(ev f).1
       rw [hf] at hfr;simp only [R] at hfr;obtain ⟨ys,hy,_⟩:=hfr;obtain ⟨fn,S,k1,k2,k3,_⟩:=TC h2';exact ⟨_,_,aE6 ho hy k1 k2 k3 w'⟩
      ·cases h2'
     ·rename_i r name args ty ho
      have h2':=h2
      unfold Ax at h2';simp only [ho] at h2';split at h2'
      ·rename_i g rv hf
       obtain ⟨t,v,hy,hm⟩:=aIm hf (ev r).1;obtain ⟨fn,S,k1,k2,k3,_⟩:=TC h2';exact ⟨_,_,aEQ ho hy hm k1 k2 k3 w'⟩
      ·cases h2'
     ·cases hcall
    obtain ⟨g,vals,hr⟩:=hrun;unfold Nb;rw [hr] at hs|-;simp only [Di] at hs;refine ⟨rfl,hs.mono λe w'' ⟨v,he,Z',β',_,_,hrv,_,_,_,_,hn⟩=>?_⟩
    have hv:=Ck hx hrv
    subst hv;refine ⟨he,hn.os,hn.tape,hn.output,hn.size,λk hk=>hn.block k hk ?_⟩
    unfold Wq at hcall;split at hcall
    ·rename_i ho;simp [Oq,Eu,ho,DZ]
    ·rename_i ho;simp [Oq,Eu,ho,DZ]
    ·cases hcall
   ·cases lv' with
    |fn f l=>cases l with
     |nil=>trivial
     |cons _ _=>simp [pl] at hx
    |v _=>trivial
    |bl _=>trivial
    |ki _ _=>trivial
    |_=>simp [pl] at hx
  ·rename_i hnc
   obtain ⟨⟨lv',H'⟩,h2,h3⟩:=T.B8 h
   have e3:lv'=lv:=h3
   subst e3
   clear h3
   have val:∀ {v:aWx},(∀w',D w'->(execOp a.eval o).run P w'=.ok (.value v) w')->R β Z wr lv' v->okV (M H) lv'->∃v,(∀w',D w'->Nb P o a w' v)/\R β Z wr lv' v/\okV (M H) lv':=λ{v} hrun hr hk=>
    ⟨v,λw' hw'=>by unfold Nb;rw [hrun w' hw'];exact A9,hr,hk⟩
   have hsel:∀cs b,o.op≠ .select cs b:=λcs b e=>by unfold Ax at h2;simp only [e] at h2;cases h2
   have same:∀ {t:T LV},(t.bind λy=>(T.ok (y,H):T<|LV×List AB)).all (λq=>q=(lv',H'))->t.all (λz=>z=lv'):=λh=>by
    obtain ⟨x,g1,g2⟩:=T.B8 h;simp only [T.all,B0] at g2;obtain ⟨rfl,rfl⟩:=g2;exact g1
   have gen:(Dk P G F o).all (λz=>z=lv')->∃v,(∀w',D w'->Nb P o a w' v)/\R β Z wr lv' v/\okV (M H) lv':=λhg=>by
    unfold Dk at hg;split at hg
    ·rename_i hpl
     split at hg
     ·rename_i y hy
      simp only [T.all] at hg
      have hcong:execOp a.eval o=execOp (λx=>(pl<|AL G F x).getD undef) o:=lz o hsel λx hx=>by
       have h1:=BO.1 hpl x ym
       obtain ⟨z,hz⟩:=Zh.1 h1;rw [hz];exact Ck hz (ev x).1
      refine val (v:=y) (λw' _=>by rw [hcong];exact aGR hy w') ?_ ?_<;>rw [<-hg]
      ·split
       ·exact aLk y
       ·exact Dw
      ·split
       ·exact abU y
       ·trivial
     ·cases hg
    ·cases hg
   have h:=h2
   unfold Ax at h;split at h
   ·cases h
   ·exact aMC
   ·exact aMC
   ·rename_i c x y ho
    obtain ⟨g,e1,e2,e3⟩:=adO (same h) (ev c).1 (ev x).1 (ev y).1 (ev x).2 (ev y).2;exact val (v:=if g then a.eval x else a.eval y) (λw' _=>aP5) e2 e3
   ·exact NC
   ·exact NC
   ·rename_i t x ho
    obtain ⟨z,e1,e2,e3⟩:=oY hW (same h) (ev x).1 (ev x).2;refine val (v:=z) (λw' hw'=>?_) e2 e3
    have hlv:=aej hW (same h) (ev x).1
    have:=e1 w' λb hb=>(hD w' hw').2 b (by
     rcases hb with hb|⟨k,e4,e5⟩
     ·exact .inl hb
     ·obtain ⟨⟨bk,l1,l2⟩,l3⟩:=hlv k e4
      refine .inr ⟨k,bk,l1,l2,?_,e5⟩;unfold sI at hap;simp only [ho] at hap;rcases l3 with ⟨off,l3⟩ |⟨es,i,j,l3⟩
      ·rw [l3] at hap;simpa using hap
      ·rw [l3] at hap;simpa using hap)
    simp [execOp,ho,this]
   ·exact NC
   ·rename_i s x i ho
    obtain ⟨z,e1,e2,e3⟩:=adH (w:=wr) (same h) (ev x).1 (ev x).2;exact mG
   ·rename_i t x i ho
    obtain ⟨z,e1,e2,e3⟩:=aDH (w:=wr) (same h) (ev x).1 (ev i).1 (ev x).2;exact mG
   ·rename_i t parts ho
    obtain ⟨z,e1,e2,e3⟩:=adI (β:=β) (Z:=Z) (w:=wr) (n:=M H) (pv:=parts.map λq=>(q.1,a.eval q.2)) (same h) Vc (by
     simp only [N9,HK];refine RL.CU AI λi x hx=>?_
     rw [Df] at hx|-;cases hq:parts.toList[i]? with
     |none=>simp [hq] at hx
     |some q=>simp [hq] at hx;subst hx;exact ⟨a.eval q.2,AI,(eY<|ev q.2).1⟩) (by
     simp only [HK];refine AT.CU λi x hx=>?_
     rw [Df] at hx;cases hq:parts.toList[i]? with
     |none=>simp [hq] at hx
     |some q=>simp [hq] at hx;subst hx;exact (eY<|ev q.2).2)
    exact val (v:=z) (λw' _=>KI) e2 e3
   ·exact NC
   ·exact NC
   ·rename_i t x lo hi ho
    split at h
    ·exact ND
    ·have ro:∀q:Option Operand,RO β Z wr (q.map<|AL G F) (q.map a.eval):=λq=>by
      cases q with
      |none=>trivial
      |some q=>exact (ev q).1
     obtain ⟨z,e1,e2,e3⟩:=adA (w:=wr) (same h) (ev x).1 (ro lo) (ro hi) (ev x).2;exact mG
   ·rename_i t x lo hi mx ho
    split at h
    ·exact ND
    ·have ro:RO β Z wr (lo.map<|AL G F) (lo.map a.eval):=by
      cases lo with
      |none=>trivial
      |some q=>exact (ev q).1
     obtain ⟨z,e1,e2,e3⟩:=ad3 (w:=wr) (N:=M H) (same h) (ev x).1 ro (ev hi).1 (ev mx).1;exact mG
   ·exact NC
   ·exact NC
   ·exact NC
   ·rename_i t x i ho
    obtain ⟨z,e1,e2,e3⟩:=adU hW (same h) (ev x).1 (ev i).1 (ev x).2;refine val (v:=z) (λw' hw'=>?_) e2 e3
    have hlv:=aei (β:=β)<|same h
    exact aMa
   ·rename_i t x i ho
    split at h
    ·exact ND
    ·obtain ⟨z,e1,e2,e3⟩:=adL hW (same h) (ev x).1 (ev i).1 (ev x).2
     refine val (v:=z) (λw' hw'=>?_) e2 e3
     have hlv:=ae4 (β:=β)<|same h
     exact aMa
   ·rename_i x i ho
    split at h
    ·rename_i l hl
     split at h
     ·rename_i y hy
      simp only [T.all,B0] at h;obtain ⟨h1,_⟩:=h
      have hx:=ev x
      rw [hl] at hx;simp only [R,okV] at hx;obtain ⟨⟨ys,e1,e2⟩,e3⟩:=hx;obtain ⟨z,e4,e5⟩:=RL.get _ _ e2 hy
      have e6:ys[i]? =ah z:=by simpa using e4
      refine val (v:=z) (λw' _=>aOJ) ?_ ?_<;>rw [<-h1]
      ·exact e5
      ·exact AT.get _ _ e3 hy
     ·cases h
    ·exact ND
   ·rename_i t x i ho
    split at h
    ·rename_i l hl
     have hx:=ev x
     rw [hl] at hx;simp only [R,okV] at hx;obtain ⟨⟨ys,e1,e2⟩,e3⟩:=hx;obtain ⟨z,f1,f2,f3⟩:=aEm (same h) e2 e3;exact aO4
    ·exact ND
   ·rename_i f first cap ho
    split at h
    ·rename_i he
     simp only [T.all,B0] at h;obtain ⟨h1,_⟩:=h
     have hfirst:first=#[]:=by
      have:first.toList=[]:=bF
      exact QF
     refine val (v:=.func (.func f) #[]<|cap.map a.eval) (λw' _=>aOX) ?_ ?_<;>rw [<-h1]
     ·exact aMf
     ·exact aMU
    ·split at h
     ·rename_i he
      simp only [T.all,B0] at h;obtain ⟨h1,_⟩:=h
      have hcap:cap=#[]:=by
       have:cap.toList=[]:=bF
       exact QF
      refine val (v:=.func (.func f) (first.map a.eval) #[]) (λw' _=>aOK) ?_ ?_<;>rw [<-h1]
      ·exact aMd
      ·exact aMS
     ·cases h
   ·rename_i x ho
    have hx:=ev x
    split at h
    ·rename_i k off hl
     exact aML
    ·rename_i k es i j hl
     exact aML
    ·rename_i n f hl
     simp only [T.all,B0] at h;rw [hl] at hx
     have hx1:=hx.1
     simp only [R] at hx1;obtain ⟨b,off,e1,_⟩:=hx1;refine val (v:=a.eval x) (λw' _=>KI) ?_ ?_<;>rw [<-h.1]
     ·exact hx.1
     ·exact hx.2
    ·exact aMF
    ·exact aMF
    ·exact ND
   ·rename_i t x y t' ho
    split at h
    ·rename_i k n k' m hx hy
     split at h
     ·rename_i hk
      subst hk;simp only [T.all,B0] at h;obtain ⟨h0,h1,_⟩:=h
      have e1:=Ck hx (ev x).1
      have e2:=Ck hy (ev y).1
      refine val (v:=ag k<|k.wrap<|n.tdiv m) (λw' _=>mX) ?_ ?_<;>rw [<-h1]
      ·exact Dw
      ·trivial
     ·cases h
    ·cases h
   ·rename_i t x y t' ho
    split at h
    ·rename_i k n k' m hx hy
     split at h
     ·rename_i hk
      subst hk;simp only [T.all,B0] at h;obtain ⟨h0,h1,_⟩:=h
      have e1:=Ck hx (ev x).1
      have e2:=Ck hy (ev y).1
      refine val (v:=ag k<|n.tmod m) (λw' _=>mX) ?_ ?_<;>rw [<-h1]
      ·exact Dw
      ·trivial
     ·cases h
    ·cases h
   ·rename_i t x y t' ho
    split at h
    ·exact ND
    ·split at h
     ·rename_i k n k' m hx hy
      simp only [T.all,B0] at h;obtain ⟨h0,h1,_⟩:=h
      have e1:=Ck hx (ev x).1
      have e2:=Ck hy (ev y).1
      refine val (v:=ag k<|k.wrap<|n*2^(min m.toNat k.bits)) (λw' _=>mV) ?_ ?_<;>rw [<-h1]
      ·exact Dw
      ·trivial
     ·cases h
   ·rename_i t x y t' ho
    split at h
    ·exact ND
    ·split at h
     ·rename_i k n k' m hx hy
      simp only [T.all,B0] at h;obtain ⟨h0,h1,_⟩:=h
      have e1:=Ck hx (ev x).1
      have e2:=Ck hy (ev y).1
      refine val (v:=ag k<|n.fdiv<|2^(min m.toNat k.bits)) (λw' _=>mV) ?_ ?_<;>rw [<-h1]
      ·exact Dw
      ·trivial
     ·cases h
   ·rename_i t x i ho
    split at h
    ·rename_i l hl
     obtain ⟨ys,e1,e2,e3⟩:=aEh hl (ev x).1 (ev x).2;obtain ⟨z,f1,f2,f3⟩:=aES (same h) e2 e3 (ev i).1;exact aO4
    ·split at h
     ·rename_i s kd n hu hx hi
      simp only [T.all,B0] at h;obtain ⟨⟨h0,hlt⟩,h1,_⟩:=h
      have e1:=Ck hx (ev x).1
      have e2:=Ck hi (ev i).1
      have hb:n.toNat<s.size:=A0
      have hg:s[n.toNat]? =ah s[n.toNat]:=by simp [hb]
      refine val (v:=ag aw<|JR s n) (λw' _=>aOa) ?_ ?_<;>rw [<-h1]
      ·exact Dw
      ·trivial
     ·cases h
   ·rename_i ho;simp [Wq,ho] at hnc
   ·rename_i ho;simp [Wq,ho] at hnc
   ·exact NC
   ·exact NC
   ·rename_i args ty ho
    split at h
    ·rename_i k es off n e hl hu
     simp only [T.all,B0] at h;obtain ⟨h1,_⟩:=h;cases hargs:args.toList with
     |nil=>simp [hargs] at hl
     | cons x xs=>
      cases xs with
      |cons _ _=>simp [hargs] at hl
      | nil=>
       simp only [hargs,ET,LC,Ho,OW] at hl
       have hx:=(ev x).1
       rw [hl] at hx;simp only [R] at hx
       have e1:∃ad cap,a.eval x=.slice ad n cap:=by
        exact aNJ
       obtain ⟨ad,cap,e1⟩:=e1
       have ha:args=#[x]:=QG
       cases ht:ty[0]? with
       |none=>simp [ht] at hu
       |some t=>
        simp only [ht,OR] at hu;refine val (v:=ag J n) (λw' _=>VR) ?_ ?_<;>rw [<-h1]
        ·exact Dw
        ·trivial
    ·rename_i e' l e hl hu
     simp only [T.all,B0] at h;obtain ⟨h1,_⟩:=h;cases hargs:args.toList with
     |nil=>simp [hargs] at hl
     | cons x xs=>
      cases xs with
      |cons _ _=>simp [hargs] at hl
      | nil=>
       simp only [hargs,ET,LC,Ho,OW] at hl
       have hx:=(ev x).1
       rw [hl] at hx;simp only [R] at hx;obtain ⟨ad,cap,e1,_⟩:=hx
       have ha:args=#[x]:=QG
       cases ht:ty[0]? with
       |none=>simp [ht] at hu
       |some t=>
        simp only [ht,OR] at hu;refine val (v:=ag J (M l:Y)) (λw' _=>VR) ?_ ?_<;>rw [<-h1]
        ·exact Dw
        ·trivial
    ·rename_i k' es' off' n' c' e hl hu
     simp only [T.all,B0] at h;obtain ⟨h1,_⟩:=h;cases hargs:args.toList with
     |nil=>simp [hargs] at hl
     | cons x xs=>
      cases xs with
      |cons _ _=>simp [hargs] at hl
      | nil=>
       simp only [hargs,ET,LC,Ho,OW] at hl
       have hx:=(ev x).1
       rw [hl] at hx;simp only [R] at hx;obtain ⟨_,ad,e1,_⟩:=hx
       have ha:args=#[x]:=QG
       cases ht:ty[0]? with
       |none=>simp [ht] at hu
       |some t=>
        simp only [ht,OR] at hu;refine val (v:=ag J n') (λw' _=>VR) ?_ ?_<;>rw [<-h1]
        ·exact Dw
        ·trivial
    ·exact ND
   ·exact ND
def aD5 (tr:aWj):∀(H:aWi) (k i:aWe),(Eo tr k H)[i]? =(H[i]?).map λb=>if tr.contains (k+i) then Qs b else b
 | [],k,i=>by simp [Eo]
 |b::bs,k,0=>by simp [Eo]
 |b::bs,k,i+1=>by
  simp only [Eo,lr];rw [aD5 tr bs (k+1) i]
  have:k+1+i=k+(i+1):=A0
  rw [this]
def Vl (tr:aWj):∀(H:aWi) (k:aWe),M (Eo tr k H)=M H
 | [],_=>rfl
 |_::bs,k=>by simp [Eo,Vl tr bs<|k+1]
def aKn:∀(ys:aWv),RL β Z w (aq (M ys) .junk) ys
 | []=>bM
 |y::ys=>by simp only [Bj,Zs,RL];exact ⟨y,ys,rfl,Ji,aKn ys⟩
def aFu (m:aWe):∀(k:aWe),AT m (aq k .junk)
 |0=>trivial
 |k+1=>⟨ak,aFu m k⟩
def Shp (tr:aWj) (β:aWe->aWU) (H:aWi) (w:aWq):Prop:=∀(k:aWe) (b:AB),tr.contains k=U->H[k]? =ah b->b.E4=U->∃cs,w.heap[(β k).b]? =ah (.cells cs b.t (0,0))/\cs.size=M b.c
def ahh {b:AB}(h:b.E4=U):b.k=.cl:=by
 unfold AB.E4 at h;split at h
 ·assumption
 ·cases h
def adS (b:AB):(b.E4=U/\Qs b=⟨aq (M b.c) .junk,b.t,.cl,b.p⟩)\/(b.E4=X/\Qs b=⟨[],b.t,.dead,X⟩):=by
 unfold Qs AB.E4;exact aK
def aef {b:AB}{k:aWe}(h:live β k<|Qs b):live β k b/\(Qs b).p=b.p:=by
 rcases adS b with ⟨h1,h2⟩ |⟨h1,h2⟩
 ·rw [h2];exact ⟨by unfold live;rw [ahh h1];trivial,rfl⟩
 ·rw [h2] at h;exact absurd h λh=>h
def RW.ox {tr:aWj}(hW:RW G w0 Z0 Z β H wr) {b:aWe}(hz:Z b):b∉DZ β H tr:=λhm=>by
 obtain ⟨k,bk,_,h2,h3,h4,rfl⟩:=dj.1 hm;exact hW.Cp k bk h2 h3 h4 hz
def RW.ad6 {tr:aWj}(hW:RW G w0 Z0 Z β H wr) {k:aWe}{b:AB}(hb:H[k]? =ah b) (hl:live β k b) (ht:k∉tr):(β k).b∉DZ β H tr:=λhm=>by
 obtain ⟨j,bj,h1,h2,h3,h4,h5⟩:=dj.1 hm
 have:=hW.inj j k bj b h2 hb h3 hl h4 h5.symm
 subst this;exact ht h1
def RW.mask {tr:aWj}{w':aWq}(hW:RW G w0 Z0 Z β H wr) (hn:DX (DZ β H tr) wr w') (hb0:Below w0.heap.size w0 w') (hs:Shp tr β H w'):RW G w0 Z0 Z β (Eo tr 0 H) w':=by
 have hw:∀b,Z b->w'.heap[b]? =wr.heap[b]? :=λb hz=>hn.block b (hW.Bc b hz)<|hW.ox hz
 have old:∀k b,(Eo tr 0 H)[k]? =ah b->∃b0,H[k]? =ah b0/\(live β k b->live β k b0/\b.p=b0.p)/\((tr.contains k=U/\b=Qs b0)\/(tr.contains k=X/\b=b0)):=λk b hb=>by
  rw [aD5] at hb;cases hH:H[k]? with
  |none=>simp [hH] at hb
  | some b0=>
   simp only [hH,Jh,Ai,Ek] at hb;refine ⟨b0,rfl,?_⟩;split at hb
   ·rename_i ht
    subst hb;exact ⟨aef,.inl ⟨ht,rfl⟩⟩
   ·rename_i ht
    grind
 refine ⟨hb0,λb hz=>?_,hW.Et,λk b hk hl hp=>?_,λk b hk hl hp=>?_,λk b hk hl=>?_,λi j bi bj hi hj li lj pi e=>?_,λk b hb=>?_,hW.Cb.mono (λ_ h=>h) hw,λp hp=>⟨R.mono (n:=M H) (λ_ _=>rfl) (λ_ h=>h) hw _ _ (hW.gh p hp).2 (hW.gh p hp).1,by rw [Vl];exact (hW.gh p hp).2⟩,λD hD=>⟨(hW.Cr D hD).1,aV⟩⟩
 ·have:=hW.Bc b hz;have:=hn.size;omega
 ·obtain ⟨b0,h1,h2,_⟩:=old k b hk
  obtain ⟨h3,h4⟩:=h2 hl;exact hW.Cp k b0 h1 h3<|h4▸hp
 ·obtain ⟨b0,h1,h2,_⟩:=old k b hk
  obtain ⟨h3,h4⟩:=h2 hl;exact hW.GL k b0 h1 h3<|h4▸hp
 ·obtain ⟨b0,h1,h2,_⟩:=old k b hk
  exact hW.low k b0 h1 (h2 hl).1
 ·obtain ⟨b0,h1,h2,_⟩:=old i bi hi
  obtain ⟨c0,g1,g2,_⟩:=old j bj hj;exact hW.inj i j b0 c0 h1 g1 (h2 li).1 (g2 lj).1 ((h2 li).2▸pi) e
 ·obtain ⟨b0,h1,h2,h3⟩:=old k b hb
  obtain ⟨f1,f2⟩:=hW.blk k b0 h1;rw [Vl];rcases h3 with ⟨ht,rfl⟩ |⟨ht,rfl⟩
  ·rcases adS b0 with ⟨m1,m2⟩ |⟨m1,m2⟩
   ·rw [m2]
    obtain ⟨cs',g1,g2⟩:=hs k b0 ht h1 m1;refine ⟨⟨cs',g1,?_⟩,aFu _ _,ak⟩
    have:=aKn (β:=β) (Z:=Z) (w:=w') cs'.toList
    grind
   ·rw [m2]
    exact ⟨ak,ak,ak⟩
  ·have hkt:k∉tr:=A8
   exact ⟨f1.keep (λ_ _=>rfl) (λ_ h=>h) hw rfl (λhl=>hn.block _ (hW.lt h1 hl)<|hW.ad6 h1 hl hkt) f2,f2⟩
def qh {o:aWw}{g:aWF}{l:aWf}{lv:LV}{H':aWi}(h:(Lf P Γ H o g l).all λq=>q=(lv,H')):EvL H H':=by
 have bd:∀ {t:T LV} {H1:aWi},(t.bind λy=>(T.ok (y,H1):T<|LV×List AB)).all (λq=>q=(lv,H'))->H'=H1:=λh=>by
  exact aO3
 obtain ⟨_,_,_,_,_,_,h⟩:=TC h;split at h
 ·rw [bd h];exact EvL.refl H
 ·split at h
  ·rw [bd h];exact EvL.refl H
  ·split at h
   ·rw [bd h];exact EvL.pub _
   ·cases h
def az9 {o:aWw} {lv:LV} {H':aWi} (h:(Ax P G Γ F H o).all λq=>q=(lv,H')):EvL H H':=by
 by_cases hm:On P o=U
 ·have hH:H'=H:=T.Qm (p:=λq:LV×List AB=>q.2=H) (x:=(lv,H')) (qd hm) h
  rw [hH];exact EvL.refl H
 ·have bd:∀ {t:T LV} {H1:aWi},(t.bind λy=>(T.ok (y,H1):T<|LV×List AB)).all (λq=>q=(lv,H'))->H'=H1:=λh=>by
   exact aO3
  unfold On at hm;split at hm
  ·rename_i t ho
   unfold Ax at h;simp only [ho] at h;split at h
   ·exact Zv
   ·cases h
  ·rename_i t x ho
   unfold Ax at h;simp only [ho] at h;exact Zv
  ·rename_i t x y ho
   unfold Ax at h;simp only [ho] at h;obtain ⟨H1,h1,h2⟩:=T.B8 h;obtain ⟨_,rfl⟩:=h2;exact afZ h1
  ·rename_i t n c ho
   unfold Ax at h;simp only [ho] at h;exact apV h
  ·rename_i t r ho
   unfold Ax at h;cases r with
   | none=>
    simp only [ho] at h;split at h
    ·simp only [T.all,B0] at h
     rw [<-h.2];exact EvL.app _ _
    ·exact Zv
   |some r=>
    simp only [ho] at h;rw [bd h];exact EvL.refl H
  ·exact aNA
  ·exact aNA
  ·rename_i t len parts ho
   unfold Ax at h;simp only [ho] at h;split at h
   ·split at h
    ·unfold X4 at h
     exact Zv
    ·cases h
   ·split at h
    ·split at h
     ·unfold ba at h
      split at h
      ·obtain ⟨y,h1,h2⟩:=T.B8 h
       split at h2
       ·simp only [T.all,B0] at h2
        rw [<-h2.2];exact (EvL.pub _).trans<|EvL.app _ _
       ·cases h2
      ·cases h
     split at h
     ·rw [bd h];exact EvL.refl H
     ·unfold nX at h
      split at h
      ·obtain ⟨y,h1,h2⟩:=T.B8 h
       simp only [T.all,B0] at h2;rw [<-h2.2];exact EvL.pub _
      ·cases h
    unfold nY at h;split at h
    ·split at h
     ·split at h
      ·exact Zv
      ·cases h
     ·cases h
    ·cases h
  ·rename_i args ty ho
   unfold Ax at h;simp only [ho] at h;split at h
   ·exact af9 h
   ·cases h
  ·rename_i args ty ho
   unfold Ax at h;simp only [ho] at h;split at h
   ·exact aq2 h
   ·cases h
  ·rename_i f args ty ho
   unfold Ax at h;simp only [ho] at h;split at h
   ·exact qh h
   ·exact qh h
   ·cases h
  ·rename_i r name args ty ho
   unfold Ax at h;simp only [ho] at h;split at h
   ·exact qh h
   ·cases h
  ·simp at hm
def WA (hΓ:∀g S,Γ g=ah S->Valid P G g S) {ops:aWm}{tr:aWj}{Hm:aWi}{D:aWq->Prop}{K:aWD->Prop}{F':aWf}{HH:aWi}(hlen:M Hm=M H)
  (hW:RW G w0 Z0 Z β Hm wr) (hD:∀w',D w'->RW G w0 Z0 Z β Hm w'/\∀b,(Z b\/∃k bk,Hm[k]? =ah bk/\live β k bk/\tr.contains k=X/\b=(β k).b)->w'.heap[b]? =wr.heap[b]?)
  (hK:∀a1,RF ds β Z wr (M H) F' a1->K a1):∀(fs:aWH) (os:aWL) (F:aWf) (a:aWD),M fs=M os->RF ds β Z wr (M H) F a->
   (I6 P G Γ ops tr HH Hm fs os F).all (λq=>q=(F',HH))->I1 P ops D K fs os a
 | [],[],F,a,_,hF,h=>by
  simp only [I6,T.all,B0,OW] at h;subst h;exact aoq (hK a hF)
 | [],_::_,_,_,hl,_,_=>bE
 |_::_,[],_,_,hl,_,_=>bE
 | f ::fs,o::os,F,a,hl,hF,h=>by
  have hl':M fs=M os:=my
  simp only [I6] at h;simp only [I1];split at h
  ·rename_i hf
   rw [AD hf];exact WA hΓ hlen hW hD hK fs os F a hl' hF h
  ·rename_i hf
   rw [AE hf]
   have goOk:∀(F:aWf),RF ds β Z wr (M H) F a->((Xk P G Γ tr F Hm o).bind λy=>I6 P G Γ ops tr HH Hm fs os<|Av F o.dst y).all (λq=>q=(F',HH))->calm P o a D (I1 P ops D K fs os):=λF hF h=>by
    obtain ⟨lv,h1,h2⟩:=T.B8 h;obtain ⟨v,g1,g2,g3⟩:=aeg hΓ hW (by rw [hlen];exact hF) hD h1
    exact ⟨v,g1,WA hΓ hlen hW hD hK fs os _ _ hl' (hF.put g2 (by rw [<-hlen];exact g3) o.dst) h2⟩
   have passOk:∀(F:aWf),RF ds β Z wr (M H) F a->(I6 P G Γ ops tr HH Hm fs os<|Av F o.dst<|.v undef).all (λq=>q=(F',HH))->I1 P ops D K fs os (a.put o.dst undef):=λF hF h=>
    WA hΓ hlen hW hD hK fs os _ _ hl' (hF.pass o.dst) h
   split at h
   ·rename_i hg
    have hw:az o (yielded ops a.tmps)=true:=aZ
    rw [AD hw];exact goOk F hF h
   ·rename_i j want hg
    split at h
    ·rename_i d hd
     split at h
     ·rename_i b hb
      obtain ⟨s1,s2⟩:=hF.slot hb AI
      have hv:=(hF.get d _ s1).1
      simp only [R] at hv;rw [hv] at s2;rw [W0 hg hd s2];split at h
      ·grind
      ·grind
     ·rename_i g hb
      obtain ⟨s1,s2⟩:=hF.slot hb AI
      have hv:=(hF.get d _ s1).1
      simp only [R] at hv
      have kn:∀b,g=b->RF ds β Z wr (M H) (F.set d<|.bl b) a:=λb e=>hF.know mr trivial
      rw [hv] at s2;rw [W0 hg hd s2];split at h
      ·rename_i hwt
       subst hwt;cases hgg:g with
       |true=>simp only [OS,Bp];exact goOk _ (kn U hgg) (h.1 hgg)
       |false=>rw [AE AI];exact passOk _ (kn X hgg)<|h.2 hgg
      ·rename_i hwt
       have hwt':want=false:=z7
       subst hwt';cases hgg:g with
       |true=>rw [AE AI];exact passOk _ (kn U hgg) (h.1 hgg)
       |false=>simp only [OS,Bp];exact goOk _ (kn X hgg)<|h.2 hgg
     ·rename_i vs hb
      obtain ⟨s1,s2⟩:=hF.slot hb AI
      have hv:=(hF.get d _ s1).1
      exact aNx
     ·cases h
    ·cases h
def W2 {ops:aWm}{tr:aWj}{Hm:aWi}{F0:aWf}:∀(fs:aWH) (os:aWL) (F:aWf),(∀o∈os,o∈ops.toList)->M F=M F0/\(∀i,i∉Fc ops.toList->F[i]? =F0[i]?)->
  (I6 P G Γ ops tr H Hm fs os F).lv (Keeps (Fc ops.toList) F0 H)
 | [],_,F,_,h=>aOd
 |_::_,[],F,_,h=>aOd
 | f ::fs,o::os,F,hin,h=>by
  have hin':∀o∈os,o∈ops.toList:=λo ho=>hin o A8
  have hdo:∀t,o.dst=ah t->t∈Fc ops.toList:=λt ht=>SW.2 ⟨o,hin o AI,ht⟩
  have go:∀F:aWf,M F=M F0/\(∀i,i∉Fc ops.toList->F[i]? =F0[i]?)->((Xk P G Γ tr F Hm o).bind λy=>I6 P G Γ ops tr H Hm fs os<|Av F o.dst y).lv (Keeps (Fc ops.toList) F0 H):=λF hF=>
   T.TI (p:=λ_=>True) (λq _=>W2 fs os _ hin'<|Vv hF hdo _) (T.WW (λ_=>trivial) _)
  have pass:∀F:aWf,M F=M F0/\(∀i,i∉Fc ops.toList->F[i]? =F0[i]?)->(I6 P G Γ ops tr H Hm fs os<|Av F o.dst<|.v undef).lv (Keeps (Fc ops.toList) F0 H):=λF hF=>
   W2 fs os _ hin' (Vv hF hdo _)
  simp only [I6];split
  ·exact W2 fs os F hin' h
  ·split
   ·exact go F h
   ·rename_i j want hg
    split
    ·rename_i d hd
     have hdd:d∈Fc ops.toList:=by
      cases hj:ops[j]? with
      |none=>simp [hj] at hd
      |some oj=>simp [hj] at hd;exact SW.2 ⟨oj,A8,hd⟩
     split
     ·split
      ·exact go F h
      ·grind
     ·exact aNH
     ·grind
     ·trivial
    ·trivial
structure Gh where
 Z:aWe->Prop
 β:aWe->Loc
 H:aWi
 F:aWf
 a:aWD
structure Cf (ds:aWT) (G:B5) (w0:aWq) (Z0:Gz) (tr:aWj) (β:aWe->aWU) (H:aWi) (wr:aWq) (g:Gh) (w':aWq):Prop where
 rw:RW G w0 Z0 g.Z g.β g.H w'
 rf:RF ds g.β g.Z w' (M g.H) g.F g.a
 near:DX (DZ β H tr) wr w'
 len:M H<=M g.H
 old:∀k,k<M H->g.β k=β k
 new:∀k,M H<=k->k<M g.H->wr.heap.size<=(g.β k).b\/(g.β k).b∈DZ β H tr
 K6:EvL H g.H
def Cf.keep {tr:aWj}{g:Gh}{w' w'':aWq}(h:Cf ds G w0 Z0 tr β H wr g w') (hb:Below w'.heap.size w' w''):Cf ds G w0 Z0 tr β H wr g w'':=
 ⟨h.rw.same hb,h.rf.mono (At _) (λ_ _=>rfl) (λ_ h=>h) λb hz=>EG hb<|h.rw.Bc b hz,aeb h.near hb,h.len,h.old,h.new,h.K6⟩
def Cf.shape {tr:aWj}{g:Gh}{w':aWq}(h:Cf ds G w0 Z0 tr β H wr g w'):Shp tr β H w':=λk b _ hb hcl=>by
 obtain ⟨b',e1,e2⟩:=h.K6 k b hb;obtain ⟨c1,c2,c3⟩:=e2.cl hcl;obtain ⟨_,⟨cs,f2,f3⟩,_⟩:=ql h.rw e1 c1
 have hk:=(EE.1 hb).1
 rw [h.old k hk,c2] at f2;refine ⟨cs,f2,?_⟩
 have:=RL.length f3
 simp at this
 omega
def Cf.touch {tr:aWj}{g:Gh}{o:aWw}{w':aWq}(hc:Cf ds G w0 Z0 tr β H wr g w') (hst:CM G g.F tr (M H) o=U) {x:aWe}(hx:x∈DZ g.β g.H (Eu G g.F o)):wr.heap.size<=x\/x∈DZ β H tr:=by
 obtain ⟨k,b,h1,h2,h3,h4,rfl⟩:=dj.1 hx
 have hkg:=(EE.1 h2).1
 by_cases hk:k<M H
 ·right
  have:=BO.1 hst k h1
  simp only [Cj,Aa] at this
  have hkt:k∈tr:=by
   rcases this with h|h
   ·grind
   ·omega
  obtain ⟨b0,hb0⟩:∃b0,H[k]? =ah b0:=⟨_,Dg hk⟩;obtain ⟨b',e1,e2⟩:=hc.K6 k b0 hb0;rw [h2] at e1;simp only [Ai] at e1;subst e1;refine dj.2 ⟨k,b0,hkt,hb0,?_,e2.p h4,by rw [hc.old k hk]⟩
  have:=e2.live g.β k h3
  rwa [KX<|hc.old k hk] at this
 ·exact hc.new k A0 hkg
def cz (hΓ:∀g S,Γ g=ah S->Valid P G g S) {tr:aWj}{g:Gh}{o:aWw}{lv:LV}{H1:aWi}{w':aWq}(hst:CM G g.F tr (M H) o=U) (h1:(Ax P G Γ g.F g.H o).all λq=>q=(lv,H1)) (hc:Cf ds G w0 Z0 tr β H wr g w'):
  Di P (λv w''=>∃g':Gh,Cf ds G w0 Z0 tr β H wr g' w''/\g'.F=Av g.F o.dst lv/\g'.H=H1/\g'.a=g.a.put o.dst v) ((execOp g.a.eval o).run P w'):=by
 refine KM (λv w'' ⟨Z',β',e1,e2,e3,e4,e5,e6,e7,e8⟩=>?_)<|cq hΓ hc.rw hc.rf h1
 refine ⟨⟨Z',β',H1,Av g.F o.dst lv,g.a.put o.dst v⟩,?_,rfl,rfl,rfl⟩
 have hsz:=hc.near.size
 refine ⟨e1,e2.put e3 e4 o.dst,⟨e8.os.trans hc.near.os,e8.tape.trans hc.near.tape,e8.output.trans hc.near.output,HJ hsz e8.size,λk hk hn=>?_⟩,HJ hc.len e5,λk hk=>?_,λk h3 h4=>?_,hc.K6.trans<|az9 h1⟩
 ·exact aN9
 ·show β' k=β k
  rw [e6 k<|Zt hk hc.len];exact hc.old k hk
 ·show wr.heap.size<=(β' k).b\/(β' k).b∈DZ β H tr
  by_cases hkk:k<M g.H
  ·rw [e6 k hkk];exact hc.new k h3 hkk
  ·rcases e7 k A0 h4 with h|h
   ·omega
   ·exact hc.touch hst h
def pO {T':Type}{C:T'->aWq->Prop}{Q':aWD->aWq->Prop}{ops:aWm}{g g1:T'}(hs:∀w',C g w'->C g1 w'):∀(fs:aWH) (os:aWL) (a:aWD),
  H0 P ops C (λa' g'=>∀w',C g' w'->Q' a' w') fs os a g1->H0 P ops C (λa' g'=>∀w',C g' w'->Q' a' w') fs os a g
 | [],_,a,h=>by
  simp only [H0] at h|-
  grind
 |_::_,[],a,h=>by
  simp only [H0] at h|-
  grind
 | f::fs,o::os,a,h=>by
  simp only [H0] at h|-;split
  ·rename_i hf
   rw [AD hf] at h;split
   ·rename_i hw
    rw [AD hw] at h;exact λw' hw'=>h w'<|hs w' hw'
   ·rename_i hw
    rw [AE hw] at h;exact pO hs fs os _ h
  ·rename_i hf
   rw [AE hf] at h;exact pO hs fs os a h
def pq (hΓ:∀g S,Γ g=ah S->Valid P G g S) {ops:aWm}{tr:aWj}{Q:aWD->aWq->Prop}{F':aWf}{H':aWi}
  (hQ:∀g:Gh,g.F=F'->g.H=H'->∀w',Cf ds G w0 Z0 tr β H wr g w'->Q g.a w'):∀(fs:aWH) (os:aWL) (g:Gh),M fs=M os->(∃w',Cf ds G w0 Z0 tr β H wr g w')->
   (p2x P G Γ ops tr (M H) fs os g.F g.H).all (λq=>q=(F',H'))->H0 P ops (Cf ds G w0 Z0 tr β H wr) (λa' g'=>∀w',Cf ds G w0 Z0 tr β H wr g' w'->Q a' w') fs os g.a g
 | [],[],g,_,_,h=>by
  simp only [p2x,T.all,B0] at h;exact aop (hQ g h.1 h.2)
 | [],_::_,_,hl,_,_=>bE
 |_::_,[],_,hl,_,_=>bE
 | f ::fs,o::os,g,hl,hex,h=>by
  have hl':M fs=M os:=my
  simp only [p2x] at h;simp only [H0];split at h
  ·rename_i hf
   rw [AD hf]
   have turn:∀(F1:aWf),(∀w',Cf ds G w0 Z0 tr β H wr g w'->RF ds g.β g.Z w' (M g.H) F1 g.a)->∀w',Cf ds G w0 Z0 tr β H wr g w'->Cf ds G w0 Z0 tr β H wr ⟨g.Z,g.β,g.H,F1,g.a⟩ w':=λF1 hF1 w' hc=>⟨hc.rw,hF1 w' hc,hc.near,hc.len,hc.old,hc.new,hc.K6⟩
   have goOk:∀(F1:aWf),(∀w',Cf ds G w0 Z0 tr β H wr g w'->RF ds g.β g.Z w' (M g.H) F1 g.a)->(if CM G F1 tr (M H) o then (Ax P G Γ F1 g.H o).bind λq=>p2x P G Γ ops tr (M H) fs os (Av F1 o.dst q.1) q.2 else .no).all (λq=>q=(F',H'))->
     Tx P o g.a (Cf ds G w0 Z0 tr β H wr) g (H0 P ops (Cf ds G w0 Z0 tr β H wr) (λa' g'=>∀w',Cf ds G w0 Z0 tr β H wr g' w'->Q a' w') fs os):=λF1 hF1 h=>by
    split at h
    ·rename_i hst
     obtain ⟨⟨lv,H1⟩,h1,h2⟩:=T.B8 h;intro w' hc;refine KM (λv w'' ⟨g',e1,e2,e3,e4⟩=>⟨g',e1,?_⟩)<|cz (g:=⟨g.Z,g.β,g.H,F1,g.a⟩) hΓ hst h1<|turn F1 hF1 w' hc
     have:=pq hΓ hQ fs os g' hl' ⟨w'',e1⟩ (by rw [e2,e3];exact h2)
     rw [e4] at this;exact this
    ·cases h
   have passOk:∀(F1:aWf),(∀w',Cf ds G w0 Z0 tr β H wr g w'->RF ds g.β g.Z w' (M g.H) F1 g.a)->(p2x P G Γ ops tr (M H) fs os (Av F1 o.dst<|.v undef) g.H).all (λq=>q=(F',H'))->
     H0 P ops (Cf ds G w0 Z0 tr β H wr) (λa' g'=>∀w',Cf ds G w0 Z0 tr β H wr g' w'->Q a' w') fs os (g.a.put o.dst undef) g:=λF1 hF1 h=>by
    have ps:∀w',Cf ds G w0 Z0 tr β H wr g w'->Cf ds G w0 Z0 tr β H wr ⟨g.Z,g.β,g.H,Av F1 o.dst<|.v undef,g.a.put o.dst undef⟩ w':=λw' hc=>⟨hc.rw,(hF1 w' hc).pass o.dst,hc.near,hc.len,hc.old,hc.new,hc.K6⟩
    refine pO (Q':=Q) (g1:=⟨g.Z,g.β,g.H,Av F1 o.dst<|.v undef,g.a.put o.dst undef⟩) ps fs os _ ?_;exact pq hΓ hQ fs os ⟨g.Z,g.β,g.H,Av F1 o.dst<|.v undef,g.a.put o.dst undef⟩ hl' (hex.imp λw' hc=>ps w' hc) h
   obtain ⟨wx,hcx⟩:=hex
   have hF:=hcx.rf
   split at h
   ·rename_i hg
    have hw:az o (yielded ops g.a.tmps)=true:=aZ
    rw [AD hw];exact goOk g.F (λw' hc=>hc.rf) h
   ·rename_i j want hg
    split at h
    ·rename_i d hd
     split at h
     ·rename_i b hb
      obtain ⟨s1,s2⟩:=hF.slot hb AI
      have hv:=(hF.get d _ s1).1
      simp only [R] at hv;rw [hv] at s2;rw [W0 hg hd s2];split at h
      ·rename_i e;subst e;simp only [OS,Bp];exact goOk g.F (λw' hc=>hc.rf) h
      ·rename_i e;rw [AE yj];exact passOk g.F (λw' hc=>hc.rf) h
     ·rename_i b hb
      obtain ⟨s1,s2⟩:=hF.slot hb AI
      have hv:=(hF.get d _ s1).1
      simp only [R] at hv
      have kn:∀c,b=c->∀w',Cf ds G w0 Z0 tr β H wr g w'->RF ds g.β g.Z w' (M g.H) (g.F.set d<|.bl c) g.a:=λc e w' hc=>hc.rf.know mr trivial
      rw [hv] at s2;rw [W0 hg hd s2];split at h
      ·rename_i hwt
       subst hwt;cases hgg:b with
       |true=>simp only [OS,Bp];exact goOk _ (kn U hgg) (h.1 hgg)
       |false=>rw [AE AI];exact passOk _ (kn X hgg)<|h.2 hgg
      ·rename_i hwt
       have hwt':want=false:=z7
       subst hwt';cases hgg:b with
       |true=>rw [AE AI];exact passOk _ (kn U hgg) (h.1 hgg)
       |false=>simp only [OS,Bp];exact goOk _ (kn X hgg)<|h.2 hgg
     ·rename_i vs hb
      obtain ⟨s1,s2⟩:=hF.slot hb AI
      have hv:=(hF.get d _ s1).1
      simp only [R] at hv;rw [hv] at s2;rw [aco hg hd s2,AE AI];exact passOk g.F (λw' hc=>hc.rf) h
     ·cases h
    ·cases h
  ·rename_i hf
   rw [AE hf];exact pq hΓ hQ fs os g hl' hex h
def T.swap {α γ:Type}{K:α->γ->Prop}{t:T α}{u:T γ}:t.all (λx=>u.all λy=>K x y)->u.all (λy=>t.all λx=>K x y):=by
 intro h;obtain ⟨x,h1,h2⟩:=T.pick h;refine T.BY (λy hy=>?_) h1
 exact T.BY (λz hz=>A8) h2
def Fp {F:aWf}{d:aWQ}{y:LV}{x:aWS}(h:∀t,d=ah t->x≠ .tmp t):AL G (Av F d y) x=AL G F x:=by
 cases d with
 |none=>rfl
 | some t=>
  cases x with
  |tmp s=>
   have hne:s≠t:=λe=>h t rfl<|by rw [e]
   simp only [AL,Av,List.getD,Zr<|OX hne]
  |_=>rfl
def looks {ops:aWm}{o:aWw}{d:aWQ}(h:∀t,d=ah t->t∉o.looksAt ops):∀x∈o.op.operands,∀t,d=ah t->x≠ .tmp t:=λx hx t ht e=>h t ht (by
 subst e;exact List.mem_append_left _<|SW.2 ⟨.tmp t,A8,rfl⟩)
def LK {F:aWf}{d e:aWQ}{x y:LV}(h:∀t,d=ah t->e≠ah t):Av (Av F d x) e y=Av (Av F e y) d x:=by
 cases d with
 |none=>rfl
 | some t=>
  cases e with
  |none=>rfl
  |some s=>
   have:t≠s:=λe=>h t rfl<|by rw [e]
   exact List.set_comm _ _ A0
def Qa {ops:aWm}{o:aWw}{d:aWQ}{y:LV}(h:∀t,d=ah t->t∉o.looksAt ops):Ii P G Γ (Av F d y) o=Ii P G Γ F o:=by
 have hl:=looks h
 unfold Ii;split
 ·rename_i t len parts ho
  have em:(parts.toList.map λq=>(q.1,AL G (Av F d y) q.2))=parts.toList.map λq=>(q.1,AL G F q.2):=Jg λq hq=>by
   rw [Fp<|hl q.2 yJ]
  rw [em]
 ·rename_i f args ty ho
  have e1:AL G (Av F d y) f=AL G F f:=Fp<|hl f aOS
  have e2:(args.toList.map λx=>norm<|AL G (Av F d y) x)=args.toList.map λx=>norm (AL G F x):=Jg λx hx=>by
   rw [Fp<|hl x aT]
  rw [e1,e2]
 ·rfl
def aJE {ops:aWm}{o:aWw}{d:aWQ}{y:LV}(ha:Mw o=U) (h:∀t,d=ah t->t∉o.looksAt ops):Ax P G Γ (Av F d y) H o=Ax P G Γ F H o:=by
 have hl:=looks h
 unfold Mw at ha;split at ha
 ·rename_i t ho
  unfold Ax
  grind
 ·rename_i t x ho
  unfold Ax;simp only [ho];exact mL
 ·rename_i t x ho
  unfold Ax;simp only [ho];exact mL
 ·cases ha
def aDZ {tr:aWj}{n0:aWe}{o:aWw}{F:aWf}(h:Es o=U\/IZ o=U):CM G F tr n0 o=true:=by
 have hw:Eu G F o=[]:=by
  unfold Eu;split
  ·exact aG
  ·exact aG
  ·exact aG
  ·exact aG
  ·exact aG
  ·rfl
 unfold CM;rw [hw];rfl
def Vt {tr:aWj}{n0:aWe}{o:aWw}{F:aWf}(h:Mw o=U\/IZ o=U):CM G F tr n0 o=true:=by
 have hw:Eu G F o=[]:=by
  unfold Eu;split
  ·exact aH
  ·exact aH
  ·exact aH
  ·exact aH
  ·exact aH
  ·rfl
 unfold CM;rw [hw];rfl
def Oy {ops:aWm}{i:aWe}{o:aWw}(h:FK ops i o=U):IZ o=true:=by
 unfold FK at h;rw [AY] at h;exact h.1
def afh {ops:aWm}{tr:aWj}{n0:aWe}{i j:aWe}{is:aWj}{K:List LV×List AB->Prop}(x y:aWw) (hx:ops[i]? =ah x) (hy:ops[j]? =ah y) (g1:x.guard.isNone=U) (g2:y.guard.isNone=U) (g3:((Mw x=U/\FK ops j y=U)\/(FK ops i x=U/\Mw y=U))\/(FK ops i x=U/\FK ops j y=U)) (hap:x.apart ops y=U) (h:(Fj P G Γ ops tr n0 (j::i::is) F H).all K):(Fj P G Γ ops tr n0 (i::j::is) F H).all K:=by
 obtain ⟨a1,a2,a3⟩:=Zp hap
 have sx:∀F:aWf,CM G F tr n0 x=true:=λF=>by
  rcases g3 with (g3|g3) |g3
  ·exact Vt<|.inl g3.1
  ·exact Vt<|.inr<|Oy g3.1
  ·exact Vt<|.inr<|Oy g3.1
 have sy:∀F:aWf,CM G F tr n0 y=true:=λF=>by
  rcases g3 with (g3|g3) |g3
  ·exact Vt<|.inr<|Oy g3.2
  ·exact Vt<|.inl g3.2
  ·exact Vt<|.inr<|Oy g3.2
 have notboth:∀o:aWw,IZ o=U->Mw o=U->False:=λo h1 h2=>by
  unfold IZ at h1;split at h1
  ·rename_i ho;simp [Mw,ho] at h2
  ·rename_i ho;simp [Mw,ho] at h2
  ·cases h1
 simp only [Fj,hx,hy,g1,g2,sx,sy,Bool.and_self,Bp] at h|-;rw [T.all_bind] at h|-;rcases g3 with (⟨g3,g4⟩ |⟨g3,g4⟩) |⟨g3,g4⟩
 ·have nx:¬FK ops i x=true:=λe=>notboth x (Oy e) g3
  simp only [G3,AD g4,AE nx] at h|-;rw [T.all_bind] at h
  have h2:=T.BY (λz hz=>by
   simp only [T.all] at hz;rw [T.all_bind,aJE g3 a3] at hz;exact hz) h
  refine T.BY (λq hq=>?_)<|T.swap h2
  rw [T.all_bind,T.all_bind,Qa a1];refine T.BY (λz hz=>?_) hq
  simp only [T.all]
  rwa [LK a2]
 ·have ny:¬FK ops j y=true:=λe=>notboth y (Oy e) g4
  simp only [G3,AD g3,AE ny] at h|-;rw [T.all_bind]
  have h2:=T.BY (λz hz=>by
   rw [T.all_bind,T.all_bind,Qa a3] at hz;exact hz) h
  refine T.BY (λq hq=>?_)<|T.swap h2
  simp only [T.all];rw [T.all_bind,aJE g4 a1];refine T.BY (λz hz=>?_) hq
  rwa [LK a2]
 ·simp only [G3,AD g3,AD g4] at h|-
  rw [T.all_bind] at h|-
  have h2:=T.BY (λz hz=>by
   simp only [T.all] at hz;rw [T.all_bind,T.all_bind,Qa a3] at hz;exact hz) h
  refine T.BY (λq hq=>?_)<|T.swap h2
  simp only [T.all];rw [T.all_bind,T.all_bind,Qa a1];refine T.BY (λz hz=>?_) hq
  simp only [T.all] at hz|-
  rwa [LK a2]
def og {ops:aWm}{o:aWw}{d:aWQ}{y:LV}(hs:∀cs b,o.op≠ .select cs b) (h:∀t,d=ah t->t∉o.looksAt ops):Dk P G (Av F d y) o=Dk P G F o:=by
 have hl:=looks h
 have e:∀x∈o.op.operands,AL G (Av F d y) x=AL G F x:=λx hx=>Fp<|hl x hx
 unfold Dk
 have e1:o.op.operands.toList.all (λx=>S8<|AL G (Av F d y) x)=o.op.operands.toList.all (λx=>S8<|AL G F x):=by
  grind
 have e3:o.op.operands.toList.all (λx=>bZ<|AL G (Av F d y) x)=o.op.operands.toList.all (λx=>bZ<|AL G F x):=by
  grind
 have e2:OI P o (λx=>(pl<|AL G (Av F d y) x).getD undef)=OI P o (λx=>(pl<|AL G F x).getD undef):=by
  have c:=lz (ρ:=λx=>(pl<|AL G (Av F d y) x).getD undef) (ρ':=λx=>(pl<|AL G F x).getD undef) o hs λx hx=>A8
  unfold OI;rw [c]
  have a:Qp P o.op (λx=>(pl<|AL G (Av F d y) x).getD undef)=Qp P o.op (λx=>(pl<|AL G F x).getD undef):=by
   exact aN6
  rw [a]
 grind
def adb {ops:aWm}{o:aWw}{d:aWQ}{y:LV}(h:∀t,d=ah t->t∉o.looksAt ops):pux P G Γ (Av F d y) o=pux P G Γ F o:=by
 have hl:=looks h
 have e:∀x∈o.op.operands,AL G (Av F d y) x=AL G F x:=λx hx=>Fp<|hl x hx
 unfold pux;split
 ·exact aNZ
 ·exact aNZ
 ·rename_i c x z ho;rw [e c FT,e x FT,e z FT]
 ·rename_i t x ho;rw [e x FT]
 ·rename_i s x i ho;rw [e x FT]
 ·rename_i t x i ho;rw [e x FT,e i FT]
 ·rename_i t parts ho
  congr 1
  refine Jg λq hq=>?_
  have e':=e q.2 yJ
  have:Hx G (Av F d y) q.2=Hx G F q.2:=by
   generalize q.2=x at e';cases x<;>first|rfl|exact e'
  rw [this]
 ·exact Qa h
 ·exact Qa h
 ·rename_i ho;exact og (λcs b e=>A8) h
 ·rename_i op _ _ _ _ ho
  split
  ·rfl
  ·rfl
  ·rfl
  ·rfl
  ·exact og (λcs b e=>A8) h
 ·rfl
def adf {d:aWQ}{y:LV}{x:aWS}(h:AL G (Av F d y) x=AL G F x):Hx G (Av F d y) x=Hx G F x:=by
 cases x<;>simp only [Hx,h]
def hpx (P:aWt) (G:B5) (F:aWf) (H:aWi) (o:aWw):T LV:=
 match o.op with
 | .move x=> .ok (AL G F x)
 | .assign x=> .ok (AL G F x)
 | .load t x=>FY P H t (AL G F x)
 | .indexAddr t x i=>Ta P t (AL G F x) (Uv<|AL G F i) (AL G F i)
 | .fieldAddr s x i=>X2 P s (AL G F x) i
 | .extract x i=>(match AL G F x with
  | .AO l=>(match l[i]? with
   |some y=> .ok y
   |none=> .no)
  |_=>Dk P G F o)
 | .binOp ..=>Dk P G F o
 | .call ..=>Dk P G F o
 | .build t parts=>Nc P t (parts.toList.map λq=>(q.1,Hx G F q.2))
 |_=> .no
def qK {o:aWw}(h:(JK o ||K3 o)=U):(∃x,o.op=.move x)\/(∃x,o.op=.assign x)\/(∃t x,o.op=.load t x)\/(∃t x i,o.op=.indexAddr t x i)\/(∃t x y u,o.op=.binOp .add t x y u)\/(∃t x y u,o.op=.binOp .sub t x y u)\/(∃x i,o.op=.extract x i)\/(∃x i,o.op=.call {callee:=.builtin .max,args:=x,argTypes:=i})\/(∃x i,o.op=.call {callee:=.builtin .min,args:=x,argTypes:=i})\/(∃s x i,o.op=.fieldAddr s x i)\/(∃t x y u,o.op=.binOp .mul t x y u)\/(∃t ps,o.op=.build t ps):=by
 rcases SV.1 h with h|h
 ·unfold JK at h
  split at h
  ·grind
  ·grind
  ·grind
  ·grind
  ·grind
  ·grind
  ·grind
  ·grind
  ·rename_i ho
   split at h
   ·grind
   ·grind
   ·grind
   ·cases h
  ·cases h
 ·unfold K3 at h
  exact mS
def ah1 {ops:aWm}{k:aWe}{o:aWw}(h:(JK o ||K3 o)=U):G3 P G Γ ops k F H o=(hpx P G F H o).bind λy=> .ok (y,H):=by
 rcases qK h with ⟨x,ho⟩ |⟨x,ho⟩ |⟨t,x,ho⟩ |⟨t,x,i,ho⟩ |⟨t,x,y,u,ho⟩ |⟨t,x,y,u,ho⟩ |⟨x,i,ho⟩ |⟨x,i,ho⟩ |⟨x,i,ho⟩ |⟨t,x,i,ho⟩ |⟨t,x,y,u,ho⟩ |⟨t,ps,ho⟩
 case inr.inr.inr.inr.inr.inr.inl=>
  unfold G3 FK IZ Ax hpx;simp only [ho,QA,IJ,FQ];generalize AL G F x=v;cases v
  case AO l=>
   dsimp only;cases l[i]? <;>rfl
  all_goals rfl
 all_goals (unfold G3 FK IZ Ax hpx;simp [ho,T.bind])
def q9 {ops:aWm}{o:aWw}{d:aWQ}{y:LV}(hh:(JK o ||K3 o)=U) (h:∀t,d=ah t->t∉o.looksAt ops):hpx P G (Av F d y) H o=hpx P G F H o:=by
 have hl:=looks h
 rcases qK hh with ⟨x,ho⟩ |⟨x,ho⟩ |⟨t,x,ho⟩ |⟨t,x,i,ho⟩ |⟨t,x,z,u,ho⟩ |⟨t,x,z,u,ho⟩ |⟨x,i,ho⟩ |⟨x,i,ho⟩ |⟨x,i,ho⟩ |⟨t,x,i,ho⟩ |⟨t,x,z,u,ho⟩ |⟨t,ps,ho⟩
 ·exact mO
 ·exact mO
 ·exact mO
 ·unfold hpx;simp only [ho]
  rw [Fp<|hl x FT,Fp<|hl i FT]
 ·exact xo
 ·exact xo
 ·unfold hpx;simp only [ho]
  rw [Fp<|hl x FT,og (λcs b e=>A8) h]
 ·exact aNW
 ·exact aNW
 ·exact mO
 ·exact xo
 ·unfold hpx;simp only [ho]
  have em:(ps.toList.map λq=>(q.1,Hx G (Av F d y) q.2))=ps.toList.map λq=>(q.1,Hx G F q.2):=Jg λq hq=>by
   exact aN8
  rw [em]
def aRv {o:aWw}{H':aWi}(h:JK o=U):hpx P G F H o=hpx P G F H' o:=by
 unfold hpx;cases ho:o.op<;>simp_all [JK]
def cb {o:aWw}{tr:aWj}{n0:aWe}(h:(JK o ||K3 o)=U) (F:aWf):CM G F tr n0 o=true:=by
 rcases qK h with ⟨x,ho⟩ |⟨x,ho⟩ |⟨t,x,ho⟩ |⟨t,x,i,ho⟩ |⟨t,x,y,u,ho⟩ |⟨t,x,y,u,ho⟩ |⟨x,i,ho⟩ |⟨x,i,ho⟩ |⟨x,i,ho⟩ |⟨t,x,i,ho⟩ |⟨t,x,y,u,ho⟩ |⟨t,ps,ho⟩<;>simp [CM,Eu,ho]
def aG2 {ops:aWm}{k:aWe}{o:aWw}{d:aWQ}{y:LV}(hh:j5 o=U) (h:∀t,d=ah t->t∉o.looksAt ops):G3 P G Γ ops k (Av F d y) H o=G3 P G Γ ops k F H o/\∀tr n0,CM G (Av F d y) tr n0 o=CM G F tr n0 o:=by
 have hl:=looks h
 unfold j5 at hh;split at hh
 ·rename_i t x z ho
  have e1:=Fp (G:=G) (F:=F) (y:=y)<|hl x FT
  have e2:=Fp (G:=G) (F:=F) (y:=y)<|hl z FT
  refine ⟨?_,λtr n0=>?_⟩
  ·unfold G3 FK IZ Ax
   simp only [ho,QA,IJ,FQ];rw [e1,e2]
  ·unfold CM Eu
   simp only [ho];rw [e1]
 ·rename_i t ho
  refine ⟨?_,λtr n0=>?_⟩
  ·unfold G3 FK IZ Ax
   grind
  ·unfold CM Eu
   grind
 ·rename_i t x ho
  have e1:=Fp (G:=G) (F:=F) (y:=y)<|hl x FT
  refine ⟨?_,λtr n0=>?_⟩
  ·unfold G3 FK IZ Ax
   simp only [ho,QA,IJ,FQ];rw [e1]
  ·unfold CM Eu
   grind
 ·cases hh
def gH {ops:aWm}{k:aWe}{o:aWw}(h:FK ops k o=U):G3 P G Γ ops k F H o=(Ii P G Γ F o).bind λy=> .ok (y,H):=by
 unfold G3
 grind
def aH0 {ops:aWm}{k:aWe}{o:aWw}{d:aWQ}{y:LV}(hh:Lq o=U) (h:∀t,d=ah t->t∉o.looksAt ops):G3 P G Γ ops k (Av F d y) H o=G3 P G Γ ops k F H o/\∀tr n0,CM G (Av F d y) tr n0 o=CM G F tr n0 o:=by
 have hl:=looks h
 unfold Lq at hh;split at hh
 ·rename_i args tys ho
  have e:args.toList.map (AL G<|Av F d y)=args.toList.map (AL G F):=Jg λx hx=>Fp<|hl x aT
  refine ⟨?_,λtr n0=>?_⟩
  ·unfold G3 FK IZ Ax
   simp only [ho,QA,IJ,FQ];rw [e]
  ·unfold CM Eu
   exact So
 ·cases hh
def T.T0 {α:Type}{A:Prop}:∀ {t:T α},t.all (λ_=>A)->A
 | .ok _,h=>h
 | .br b x y,h=>by
  cases b with
  |true=>exact T.T0 (t:=x) (h.1 rfl)
  |false=>exact T.T0 (t:=y) (h.2 rfl)
 | .req _ x,h=>T.T0 (t:=x) h.2
 | .no,h=>h.elim
def ap5 {ops:aWm}{tr:aWj}{n0:aWe}{i j:aWe}{is:aWj}{K:List LV×List AB->Prop}(hc:R7 ops i j=U) (h:(Fj P G Γ ops tr n0 (j::i::is) F H).all K):(Fj P G Γ ops tr n0 (i::j::is) F H).all K:=by
 unfold R7 at hc;split at hc
 ·rename_i x y hx hy
  simp only [AY,Cj] at hc;obtain ⟨⟨⟨g1,g2⟩,g3⟩,hap⟩:=hc;obtain ⟨a1,a2,a3⟩:=Zp hap
  have step:∀(k:aWe) (o:aWw) (l:aWj) (F:aWf) (H:aWi),ops[k]? =ah o->o.guard.isNone=U->((Fj P G Γ ops tr n0 (k::l) F H).all K↔(CM G F tr n0 o=U/\(G3 P G Γ ops k F H o).all (λq=>(Fj P G Γ ops tr n0 l (Av F o.dst q.1) q.2).all K))):=λk o l F H hk hg=>by
   simp only [Fj,hk,hg,EU];split
   ·rename_i hs
    rw [T.all_bind];simp only [hs,FR]
   ·rename_i hs
    constructor
    ·exact λh=>h.elim
    ·grind
  have hpS:∀(k:aWe) (o:aWw) (F:aWf) (H:aWi) (K:LV×List AB->Prop),(JK o ||K3 o)=U->((G3 P G Γ ops k F H o).all K↔(hpx P G F H o).all (λv=>K (v,H))):=λk o F H K ho=>by
   rw [ah1 ho,T.all_bind];rfl
  rcases g3 with ((((g3|g3) |g3) |g3) |g3) |g3
  ·exact afh x y hx hy g1 g2 g3 hap h
  ·have gx:=SV.2 g3.1
   have gy:=SV.2 g3.2
   rw [step _ _ _ _ _ hy g2,hpS j y _ _ _ gy] at h;rw [step _ _ _ _ _ hx g1,hpS i x _ _ _ gx];refine ⟨cb gx F,?_⟩
   have h2:=T.BY (λv hv=>by
    rw [step _ _ _ _ _ hx g1,hpS i x _ _ _ gx,q9 gx a3] at hv;exact hv.2) h.2
   refine T.BY (λu hu=>?_)<|T.swap h2
   rw [step _ _ _ _ _ hy g2,hpS j y _ _ _ gy,q9 gy a1];refine ⟨cb gy _,T.BY (λv hv=>?_) hu⟩
   rw [LK a2];exact hv
  ·obtain ⟨gx,gy⟩:=g3
   have gx':(JK x ||K3 x)=true:=by rw [gx];rfl
   rw [step _ _ _ _ _ hy g2] at h;rw [step _ _ _ _ _ hx g1,hpS i x _ _ _ gx'];refine ⟨cb gx' F,?_⟩
   have h2:=T.BY (λq hq=>by
    rw [step _ _ _ _ _ hx g1,hpS i x _ _ _ gx',q9 gx' a3,aRv (H':=H) gx] at hq;exact hq.2) h.2
   refine T.BY (λu hu=>?_)<|T.swap h2
   obtain ⟨e1,e2⟩:=aG2 (P:=P) (G:=G) (Γ:=Γ) (F:=F) (H:=H) (y:=u) gy a1;rw [step _ _ _ _ _ hy g2,e1,e2];refine ⟨h.1,T.BY (λq hq=>?_) hu⟩
   rw [LK a2];exact hq
  ·obtain ⟨gx,gy⟩:=g3
   have gy':(JK y ||K3 y)=true:=by rw [gy];rfl
   rw [step _ _ _ _ _ hy g2,hpS j y _ _ _ gy'] at h
   have h2:=T.BY (λv hv=>by
    obtain ⟨e1,e2⟩:=aG2 (P:=P) (G:=G) (Γ:=Γ) (F:=F) (H:=H) (y:=v) gx a3;rw [step _ _ _ _ _ hx g1,e1,e2] at hv;exact hv) h.2
   rw [step _ _ _ _ _ hx g1];refine ⟨T.T0<|T.BY (λv hv=>hv.1) h2,?_⟩
   have h3:=T.BY (λv hv=>hv.2) h2
   refine T.BY (λq hq=>?_)<|T.swap h3
   rw [step _ _ _ _ _ hy g2,hpS j y _ _ _ gy',q9 gy' a1,aRv (H':=H) gy];refine ⟨cb gy' _,T.BY (λv hv=>?_) hq⟩
   rw [LK a2];exact hv
  ·obtain ⟨gx,gy⟩:=g3
   rw [step _ _ _ _ _ hy g2] at h;rw [step _ _ _ _ _ hx g1,gH gx,T.all_bind];refine ⟨aDZ<|.inr<|Oy gx,?_⟩
   have h2:=T.BY (λq hq=>by
    rw [step _ _ _ _ _ hx g1,gH gx,T.all_bind,Qa a3] at hq;exact hq.2) h.2
   refine T.BY (λu hu=>?_)<|T.swap h2
   obtain ⟨e1,e2⟩:=aH0 (P:=P) (G:=G) (Γ:=Γ) (F:=F) (H:=H) (y:=u) gy a1
   (try simp only [T.all] at hu)
   (try simp only [T.all])
   rw [step _ _ _ _ _ hy g2,e1,e2];refine ⟨h.1,T.BY (λq hq=>?_) hu⟩
   (try simp only at hq)
   (try simp only)
   rw [LK a2];exact hq
  ·obtain ⟨gx,gy⟩:=g3
   rw [step _ _ _ _ _ hy g2,gH gy,T.all_bind] at h
   have h2:=T.BY (λv hv=>by
    obtain ⟨e1,e2⟩:=aH0 (P:=P) (G:=G) (Γ:=Γ) (F:=F) (H:=H) (y:=v) gx a3
    (try simp only [T.all] at hv)
    rw [step _ _ _ _ _ hx g1,e1,e2] at hv;exact hv) h.2
   rw [step _ _ _ _ _ hx g1];refine ⟨T.T0<|T.BY (λv hv=>hv.1) h2,?_⟩
   have h3:=T.BY (λv hv=>hv.2) h2
   refine T.BY (λq hq=>?_)<|T.swap h3
   rw [step _ _ _ _ _ hy g2,gH gy,T.all_bind,Qa a1];refine ⟨aDZ<|.inr<|Oy gy,T.BY (λv hv=>?_) hq⟩
   (try simp only [T.all] at hv)
   (try simp only [T.all])
   rw [LK a2];exact hv
 ·cases hc
def ap6 {ops:aWm}{tr:aWj}{n0:aWe}{j:aWe}{R R':aWj}{K:List LV×List AB->Prop}(hh:∀(F:aWf) (H:aWi),(Fj P G Γ ops tr n0 R F H).all K->(Fj P G Γ ops tr n0 R' F H).all K) (h:(Fj P G Γ ops tr n0 (j::R) F H).all K):(Fj P G Γ ops tr n0 (j::R') F H).all K:=by
 simp only [Fj] at h|-;exact xn
def aEr {ops:aWm}{tr:aWj}{n0:aWe}{i:aWe}{K:List LV×List AB->Prop}:∀(R:aWj) (F:aWf) (H:aWi),i∈R->(G1 i R).all (λj=>R7 ops i j)=U->(Fj P G Γ ops tr n0 R F H).all K->(Fj P G Γ ops tr n0 (i::R.erase i) F H).all K
 | [],_,_,hi,_,_=>nF
 | j::R,F,H,hi,hb,h=>by
  by_cases hj:j=i
  ·subst hj
   grind
  ·have hi':i∈R:=by
    exact xr
   simp only [G1,AE hj,Io,AY] at hb;rw [VD A8];exact ap5 hb.1<|ap6 (λF H h=>aEr R F H hi' hb.2 h) h
def apa {t:aWu}{len:aWe}{l:aWI}{K:LV->Prop}(h:(L7 P t len l).all K):¬len=0:=by
 unfold L7 at h
 rintro rfl
 split at h
 ·split at h
  ·split at h
   ·omega
   ·cases h
  ·cases h
 ·cases h
def aem {t:aWu}{len:aWe}{l:aWI}{K:LV->Prop}(h:(L7 P t len l).all K):dS P t=true:=by
 unfold L7 at h;unfold dS;split at h
 ·rename_i e hu
  split at h
  ·rename_i ty m z h1 h2 h3
   simp [h1]
  ·cases h
 ·cases h
def aIl {o:aWw}{lv:LV}(hm:IZ o=U) (h:(Ii P G Γ F o).all λz=>z=lv):(Ax P G Γ F H o).all (λq=>q=(lv,H)):=by
 unfold Ii at h;split at h
 ·rename_i t len parts ho
  split at h
  ·cases h
  rename_i hrl;split at h
  ·rename_i hno
   unfold Ax;simp only [ho];rw [AE<|apa h,AD<|aem h,AE hrl,AD hno,T.all_bind];exact aNk
  ·cases h
 ·rename_i f args ty ho
  unfold Ax;simp only [ho];split at h
  ·rename_i g cap hf
   split at h
   ·rename_i fn hfn
    split at h
    ·rename_i hb
     split at h
     ·rename_i S hS
      split at h
      ·rename_i hno
       simp only [hf,Lf,hfn,hb,Bp,hS,hno];rw [T.all_bind];exact aNk
      ·cases h
     ·cases h
    ·cases h
   ·cases h
  ·cases h
 ·cases h
def aIn {l:aWy}{i j:aWe}{d:aWo}:(l.setIfInBounds i U).getD j d=if i=j/\i<l.size then U else l.getD j d:=by
 by_cases e:i=j
 ·subst e
  by_cases h:i<l.size
  ·simp [h]
  ·simp [h]
 ·simp [e]
def uq {l:aWy}{i:aWe}(h:l.getD i U=X):i<l.size/\l.getD i X=false:=by
 rw [lf] at h|-;cases hq:l[i]? with
 |none=>rw [hq] at h;cases h
 |some b=>
  grind
def qm {i:aWe}:∀ {R:aWj}{j:aWe},j∈G1 i R->j∈R/\j≠i
 | [],_,h=>Ao
 | k::R,j,h=>by
  simp only [G1] at h;split at h
  ·cases h
  ·rename_i hk
   rcases BA.1 h with rfl|h
   ·grind
   ·exact ⟨N7 _ (qm h).1,(qm h).2⟩
def aFF {p:aWe->aWe->Prop}{i:aWe}:∀ {R:aWj}{j:aWe},R.Pairwise p->i∈R->j∈G1 i R->p j i
 | [],_,_,h,_=>Ao
 | k::R,j,hp,hi,hj=>by
  rw [lX] at hp;simp only [G1] at hj;split at hj
  ·cases hj
  ·rename_i hk
   have hi2:i∈R:=by
    rcases BA.1 hi with e|hi
    ·grind
    ·exact hi
   rcases BA.1 hj with rfl|hj
   ·grind
   ·exact aFF hp.2 hi2 hj
def aEg {i k q:aWe}(hk:k≠i) (hq:q≠i):∀ {R:aWj},q∈G1 k R->q∈G1 k (R.erase i)
 | [],h=>Ao
 | x::R,h=>by
  simp only [G1] at h;split at h
  ·cases h
  ·rename_i hx
   by_cases e:x=i
   ·subst e
    rw [List.erase_cons_head];rcases BA.1 h with rfl|h
    ·grind
    ·exact h
   ·rw [VD A8]
    simp only [G1,AE hx];rcases BA.1 h with rfl|h
    ·simp
    ·exact N7 _<|aEg hk hq h
inductive Kx (ops:Array Oper) (R:List Nat):Nat->Nat->Prop
 |dir {i j:Nat}:preB ops i j=U->Kx ops R i j
 |step {i p j:Nat}:p∈R->preB ops i p=U->Kx ops R p j->Kx ops R i j
def Kx.aFK {ops:aWm}{R:aWj}{listed:aWy}(hm:∀i,i∈R↔listed.getD i U=X) {i j:aWe}(hi:i∈ay .any ops listed) (hj:j∈R) (h:Kx ops R i j):False:=by
 have no:∀p,preB ops i p=U->p∈R->False:=λp h hp=>by
  obtain ⟨_,o,ho,r2⟩:=F7.1 hi;unfold preB at h;rw [ho] at h;simp only [OT,AY] at h;obtain ⟨e,he,hb,hq⟩:=h
  have hq:e.on=p:=A8
  have h3:=r2 e A8 hb
  rw [hq] at h3
  have h4:=(uq<|(hm p).1 hp).2
  rw [h3] at h4;cases h4
 cases h with
 |dir h=>exact no _ h hj
 |step hp h _=>exact no _ h hp
def Kx.erase {ops:aWm}{R:aWj}{listed:aWy}(hm:∀i,i∈R↔listed.getD i U=X) (hnd:R.Nodup) {k:aWe}(hk:k∈ay .any ops listed) {i j:aWe}(h:Kx ops R i j) (hj:j∈R):Kx ops (R.erase k) i j:=by
 induction h with
 |dir h=>exact .dir h
 |step hp h hr ih=>exact .step (hnd.mem_erase_iff.2 ⟨λe=>by subst e;exact Kx.aFK hm hk hj hr,hp⟩) h<|ih hj
def aI6 {ops:aWm}{R:aWj}:∀ {n i j:aWe},iX ops R n i j=U->Kx ops R i j
 |0,_,_,h=> .dir h
 |n+1,_,_,h=>by
  simp only [iX,Cj,OT,AY] at h;rcases h with h|⟨p,hp,h1,h2⟩
  ·exact .dir h
  ·exact .step hp h1<|aI6 h2
structure aoQ (ops:aWm) (R:aWj) (listed:aWy):Prop where
 nd:R.Nodup
 mem:∀i,i∈R↔listed.getD i U=X
 pr:R.Pairwise λj i=>Kx ops R i j\/R7 ops i j=U
 tp:∀i∈R,∃o,ops[i]? =ah o/\∀e∈o.after,Region.binds .any e=U->listed.getD e.on X=U\/e.on∈G1 i R
def aRI {ops:aWm}:∀(n:aWe) (R:aWj) (listed:aWy),M R=n->aoQ ops R listed->Ls ops n R listed=U
 |0,R,listed,hn,I=>by
  have e:=xM hn
  subst e;simp only [Ls,List.isEmpty_nil,EU,Zm];refine xL.2 λi hi=>?_
  exact absurd ((I.mem i).2 (F7.1 hi).1) AI
 | n +1,R,listed,hn,I=>by
  simp only [Ls,AY,BO,D2,lg];refine ⟨λh0=>?_,λi hi=>?_⟩
  ·match R,hn,I with
   | k::R,_,I=>
    obtain ⟨o,ho,h1⟩:=I.tp k AI
    have:k∈ay .any ops listed:=F7.2 ⟨(I.mem k).1 AI,o,ho,λe he hb=>by
     rcases h1 e he hb with h2|h2
     ·exact h2
     ·simp [G1] at h2⟩
    rw [h0] at this;cases this
  ·obtain ⟨r1,o,ho,r2⟩:=F7.1 hi
   have hR:=(I.mem i).2 r1
   refine ⟨⟨A8,λj hj=>?_⟩,aRI n _ _ A8 ⟨I.nd.erase i,λj=>?_,(I.pr.sublist List.erase_sublist).imp_of_mem λ{a b} ha _ h=>h.imp_left λh=>h.erase I.mem I.nd hi<|Q3 ha,λk hk=>?_⟩⟩
   ·obtain ⟨j1,j2⟩:=qm hj
    rcases aFF I.pr hR hj with h|h
    ·exact (Kx.aFK I.mem hi j1 h).elim
    ·exact h
   ·rw [I.nd.mem_erase_iff,I.mem j,aIn]
    have hb:=(uq r1).1
    by_cases e:i=j
    ·subst e
     simp [hb]
    ·grind
   ·have hk':=I.nd.mem_erase_iff.1 hk
    obtain ⟨o',ho',h1⟩:=I.tp k hk'.2;refine ⟨o',ho',λe he hb=>?_⟩
    rw [aIn]
    by_cases q:i=e.on
    ·left
     grind
    ·rw [AE λh=>q h.1]
     rcases h1 e he hb with h2|h2
     ·grind
     ·exact .inr<|aEg hk'.1 (OX q) h2
def aJp:∀ {l:aWj},nf l=U->l.Nodup
 | [],_=>List.nodup_nil
 |x::l,h=>by
  simp only [nf,AY,D2,List.contains_eq_mem,DC] at h;exact M7.2 ⟨h.1,aJp h.2⟩
def aEp {ops:aWm}{R0:aWj}:∀ {R:aWj},gO ops R0 R=U->R.Pairwise λj i=>Kx ops R0 i j\/R7 ops i j=U
 | [],_=>List.Pairwise.nil
 |j::R,h=>by
  simp only [gO,AY,BO,Cj] at h;exact lX.2 ⟨λi hi=>(h.1 i hi).symm.imp_left aI6,aEp h.2⟩
def aRH {ops:aWm}{R:aWj}{listed:aWy}(h:nR ops R listed=U):Ls ops (M R) R listed=true:=by
 unfold nR aa7 at h;simp only [AY,BO,Iq] at h;obtain ⟨h1,h2,h3,h4,h5,h6⟩:=h
 have h2:listed.size=ops.size:=A8
 refine aRI _ R listed rfl ⟨aJp h1,λi=>?_,aEp h5,λi hi=>?_⟩
 ·by_cases hi:i<ops.size
  ·have:=h3 i hi
   constructor
   ·intro hm
    grind
   ·intro hm
    grind
  ·constructor
   ·intro hm
    grind
   ·intro hm
    have:=(uq hm).1
    omega
 ·have:=h6 i hi
  split at this
  ·rename_i o ho
   refine ⟨o,ho,λe he hb=>?_⟩
   grind
  ·cases this
def aDP (hΓ:∀g S,Γ g=ah S->Valid P G g S) {ops:aWm}{tr:aWj}{D:aWq->Prop}{sp:aWe->aWo}{Q:aWD->Gh->Prop}{F':aWf}{H':aWi}
  (hQ:∀g:Gh,g.F=F'->g.H=H'->Q g.a g):∀(n:aWe) (R:aWj) (listed:aWy) (g:Gh),(∀i∈R,sp i=U)->Ls ops n R listed=U->
   (Fj P G Γ ops tr (M H) R g.F g.H).all (λq=>q=(F',H'))->KZ P .any ops D (Cf ds G w0 Z0 tr β H wr) sp Q n listed g.a g
 |0,R,listed,g,_,hB,h=>by
  simp only [Ls,AY,Zm] at hB;obtain ⟨rfl,h2⟩:=hB;simp only [Fj,T.all,B0] at h;exact ⟨h2,hQ g h.1 h.2⟩
 | n +1,R,listed,g,hs,hB,h=>by
  simp only [Ls,AY,BO,D2,lg] at hB;obtain ⟨hne,hall⟩:=hB;refine ⟨λh0=>absurd h0 hne,λi hi=>?_⟩
  obtain ⟨⟨hR,hbef⟩,hrest⟩:=hall i hi
  have hiR:i∈R:=A8
  have hf:=aEr R g.F g.H hiR A8 h
  simp only [Fj] at hf;split at hf
  ·rename_i o ho
   split at hf
   ·rename_i hgs
    simp only [AY,Ze] at hgs;obtain ⟨hgd,hst⟩:=hgs
    have hw:az o (yielded ops g.a.tmps)=true:=yK
    unfold EB;simp only [ho,hw,Bp,hs i hiR];obtain ⟨⟨lv,H1⟩,h1,h2⟩:=T.B8 hf
    have h1':(Ax P G Γ g.F g.H o).all (λq=>q=(lv,H1)):=by
     unfold G3 at h1;split at h1
     ·rename_i hm
      obtain ⟨y,k1,k2⟩:=T.B8 h1;obtain ⟨rfl,rfl⟩:=k2;exact aIl (Oy hm) k1
     ·exact h1
    intro w' hc;refine KM (λv w'' ⟨g',e1,e2,e3,e4⟩=>⟨g',e1,?_⟩)<|cz hΓ hst h1' hc
    rw [<-e4];refine aDP hΓ hQ n (R.erase i) _ g' (λj hj=>hs j<|Q3 hj) hrest ?_
    rwa [e2,e3]
   ·cases hf
  ·cases hf
def T.Ev {α:Type}(t:T α) (K:α->Prop):Prop:=∀K1:α->Prop,t.all K1->t.all (λq=>K1 q/\K q)
def T.U6 {α:Type}{x:α}{K:α->Prop}(h:K x):T.Ev (.ok x) K:=λ_ h1=>⟨h1,h⟩
def T.Kk {α:Type}{K:α->Prop}:T.Ev (.no:T α) K:=λ_ h1=>h1.elim
def T.aTq {α:Type}{p:Prop}{t:T α}{K:α->Prop}(h:T.Ev t K):T.Ev (.req p t) K:=λ_ h1=>⟨h1.1,h _ h1.2⟩
def T.eZ {α γ:Type}{t:T α}{f:α->T γ}{K:γ->Prop}(h:∀x,T.Ev (f x) K):T.Ev (t.bind f) K:=λK1 h1=>by
 rw [T.all_bind] at h1|-;exact T.BY (λx hx=>h x _ hx) h1
def HL (H H':aWi):Prop:=∀(k:aWe) (b:AB),H'[k]? =ah b->b.E4=U->∃b0:AB,H[k]? =ah b0/\b0.E4=U/\b0.c=b.c
def HL.refl (H:aWi):HL H H:=λ_ b h1 h2=>⟨b,h1,h2,rfl⟩
def HL.snoc {H H':aWi}(h:HL H H') {nb:AB}(hn:nb.E4=X):HL H (H'++[nb]):=λk b h1 h2=>by
 rw [List.getElem?_append] at h1;split at h1
 ·exact h k b h1 h2
 ·cases e:k-M H' with
  |zero=>
   grind
  |succ n=>rw [e] at h1;simp at h1
def HL.set {H:aWi}{k:aWe}{nb:AB}(hn:nb.E4=X):HL H (H.set k nb):=λj b h1 h2=>by
 rw [IN] at h1;split at h1
 ·split at h1
  ·simp only [Ai] at h1
   grind
  ·cases h1
 ·grind
def HL.pub (ks:aWj) {H:aWi}:HL H (Ft ks 0 H):=λk b h1 h2=>by
 rw [ck] at h1;cases e:H[k]? with
 |none=>rw [e] at h1;cases h1
 | some b0=>
  rw [e] at h1;simp only [Jh,Ai] at h1;refine ⟨b0,rfl,?_,?_⟩
  ·rw [<-h1] at h2
   split at h2
   ·exact h2
   ·exact h2
  ·rw [<-h1]
   grind
def afJ {H:aWi}{t:aWu}{k off:aWe}:(∃v,FY P H t (.own k off)=.ok v)\/FY P H t (.own k off)=.no:=by
 generalize hx:FY P H t (.own k off)=x;unfold FY at hx;cases e:H[k]? with
 |none=>
  grind
 | some b=>
  simp only [e] at hx;split at hx
  ·split at hx
   ·grind
   ·grind
  ·split at hx
   ·split at hx
    ·grind
    ·grind
   ·grind
  ·grind
def aek {H H':aWi}(hk:HL H H') {t:aWu}{k off:aWe}{v:LV}(h:FY P H' t (.own k off)=.ok v):FY P H t (.own k off)=.ok v:=by
 unfold FY at h|-;cases e:H'[k]? with
 |none=>
  grind
 | some b=>
  simp only [e] at h;cases ec:b.E4 with
  |false=>
   grind
  |true=>
   obtain ⟨b0,e0,e1,e2⟩:=hk k b e ec;simp only [e0,e1,e2];simp only [ec] at h;exact h
def afX {H:aWi}{t tx:aWu}{x y:LV}:T.Ev (LR P H t tx x y) (λq=>HL H q.2):=by
 unfold LR;split
 ·split
  ·split
   ·refine T.eZ λq=>?_
    split
    ·exact T.aTq<|T.U6<|(HL.refl H).snoc rfl
    ·split
     ·split
      ·split
       ·exact T.aTq<|T.U6<|(HL.set rfl).snoc rfl
       ·exact T.Kk
      ·exact T.Kk
     ·exact T.Kk
    ·exact T.Kk
   ·exact T.Kk
  ·exact T.Kk
 ·exact T.Kk
def aoM {o:aWw}(h:Uw P o=U):T.Ev (Ax P G Γ F H o) (λq=>HL H q.2):=by
 unfold Uw at h;split at h
 ·rename_i args tys ho
  unfold Ax;simp only [ho];split
  ·exact afX
  ·exact T.Kk
 ·rename_i t len parts ho
  unfold Ax;simp only [ho];split
  ·split
   ·unfold X4
    split
    ·exact T.U6<|(HL.refl H).snoc rfl
    ·exact T.Kk
   ·exact T.Kk
  ·rename_i hl
   have ht:dS P t=true:=A8
   rw [AD ht];split
   ·unfold ba
    split
    ·refine T.eZ λy=>?_
     split
     ·exact T.U6<|(HL.pub _).snoc rfl
     ·exact T.Kk
    ·exact T.Kk
   ·split
    ·exact T.eZ λy=>T.U6<|HL.refl H
    ·unfold nX
     split
     ·exact T.eZ λy=>T.U6<|HL.pub _
     ·exact T.Kk
 ·cases h
def avR {ops:aWm}{o:aWw}{d:aWQ}{y:LV}(hh:Uw P o=U) (h:∀t,d=ah t->t∉o.looksAt ops):Ax P G Γ (Av F d y) H o=Ax P G Γ F H o/\∀tr n0,CM G (Av F d y) tr n0 o=CM G F tr n0 o:=by
 have hl:=looks h
 unfold Uw at hh;split at hh
 ·rename_i args tys ho
  have e:args.toList.map (AL G<|Av F d y)=args.toList.map (AL G F):=Jg λx hx=>Fp<|hl x aT
  refine ⟨?_,λtr n0=>?_⟩
  ·unfold Ax
   exact So
  ·unfold CM Eu
   exact So
 ·rename_i t len parts ho
  have e:(parts.toList.map λq=>(q.1,AL G (Av F d y) q.2))=parts.toList.map λq=>(q.1,AL G F q.2):=Jg λq hq=>by
   rw [Fp<|hl q.2 aO9]
  refine ⟨?_,λtr n0=>?_⟩
  ·unfold Ax
   exact So
  ·unfold CM Eu
   grind
 ·cases hh
def apH {ops:aWm}{tr:aWj}{n0:aWe}{i j:aWe}{is:aWj}{K:List LV×List AB->Prop}(hc:jR P ops i j=U) (h:(HC P G Γ ops tr n0 (j::i::is) F H).all K):(HC P G Γ ops tr n0 (i::j::is) F H).all K:=by
 unfold jR at hc;split at hc
 ·rename_i x y hx hy
  simp only [AY] at hc;obtain ⟨⟨⟨g1,g2⟩,gx,gy⟩,hap⟩:=hc;obtain ⟨a1,a2,a3⟩:=Zp hap
  have step:∀(k:aWe) (o:aWw) (l:aWj) (F:aWf) (H:aWi),ops[k]? =ah o->o.guard.isNone=U->((HC P G Γ ops tr n0 (k::l) F H).all K↔(CM G F tr n0 o=U/\(spz P G Γ F H o).all (λq=>(HC P G Γ ops tr n0 l (Av F o.dst q.1) q.2).all K))):=λk o l F H hk hg=>by
   simp only [HC,hk,hg,EU];split
   ·rename_i hs
    rw [T.all_bind]
    grind
   ·rename_i hs
    constructor
    ·exact λh=>h.elim
    ·grind
  have sy:∀F H,spz P G Γ F H y=Ax P G Γ F H y:=λF H=>by
   unfold spz;rw [AD];unfold aAn;unfold Uw at gy;split at gy
   ·rename_i ho;rw [ho]
   ·grind
   ·cases gy
  have gx':(JK x ||K3 x)=true:=A8
  obtain ⟨t,ad,ho⟩:∃t ad,x.op=.load t ad:=by
   unfold K3 at gx;split at gx
   ·grind
   ·cases gx
  have hl:=looks a3
  have sx:∀F H,spz P G Γ F H x=match AL G F ad with
   | .own k off=>(FY P H t<|.own k off).bind λy=> .ok (y,H)
   |_=> .no:=λF H=>by
   unfold spz aAn Ax;simp only [ho];split
   ·rename_i k off e
    rw [AD rfl,e]
   ·rename_i hne
    rw [AE Ab];split
    ·grind
    ·rfl
  have ea:∀v,AL G (Av F y.dst v) ad=AL G F ad:=λv=>Fp<|hl ad FT
  rw [step _ _ _ _ _ hy g2,sy] at h;obtain ⟨h1,h2⟩:=h
  have h3:=aoM gy _ h2
  rw [step _ _ _ _ _ hx g1,sx];refine ⟨cb gx' F,?_⟩
  have h4:(Ax P G Γ F H y).all (λq=>∃k off v,AL G F ad=.own k off/\FY P H t (.own k off)=.ok v/\(HC P G Γ ops tr n0 is (Av (Av F y.dst q.1) x.dst v) q.2).all K):=T.BY (λq hq=>by
   obtain ⟨q1,q2⟩:=hq;rw [step _ _ _ _ _ hx g1,sx,ea] at q1
   have q3:=q1.2
   split at q3
   ·rename_i k off e
    rcases afJ (P:=P) (H:=q.2) (t:=t) (k:=k) (off:=off) with ⟨v,hv⟩ |hv
    ·rw [hv] at q3
     exact ⟨k,off,v,e,aek q2 hv,q3⟩
    ·rw [hv] at q3;exact q3.elim
   ·exact q3.elim) h3
  obtain ⟨k,off,v,e,hv⟩:=T.T0<|T.BY (λq hq=>(⟨hq.choose,hq.choose_spec.choose,hq.choose_spec.choose_spec.choose,hq.choose_spec.choose_spec.choose_spec.1,hq.choose_spec.choose_spec.choose_spec.2.1⟩:∃k off v,AL G F ad=.own k off/\FY P H t (.own k off)=.ok v)) h4
  rw [e];simp only [hv,T.bind,T.all];obtain ⟨e1,e2⟩:=avR (P:=P) (G:=G) (Γ:=Γ) (F:=F) (H:=H) (y:=v) gy a1;rw [step _ _ _ _ _ hy g2,sy,e1,e2];refine ⟨h1,T.BY (λq hq=>?_) h4⟩
  obtain ⟨k',off',v',e',hv',hp⟩:=hq;rw [e] at e';cases e';rw [hv] at hv';cases hv';rw [LK a2];exact hp
 ·cases hc
def ap4 {ops:aWm}{tr:aWj}{n0:aWe}{j:aWe}{R R':aWj}{K:List LV×List AB->Prop}(hh:∀(F:aWf) (H:aWi),(HC P G Γ ops tr n0 R F H).all K->(HC P G Γ ops tr n0 R' F H).all K) (h:(HC P G Γ ops tr n0 (j::R) F H).all K):(HC P G Γ ops tr n0 (j::R') F H).all K:=by
 simp only [HC] at h|-;exact xn
def aEq {ops:aWm}{tr:aWj}{n0:aWe}{i:aWe}{K:List LV×List AB->Prop}:∀(R:aWj) (F:aWf) (H:aWi),i∈R->(G1 i R).all (λj=>jR P ops i j)=U->(HC P G Γ ops tr n0 R F H).all K->(HC P G Γ ops tr n0 (i::R.erase i) F H).all K
 | [],_,_,hi,_,_=>nF
 | j::R,F,H,hi,hb,h=>by
  by_cases hj:j=i
  ·subst hj
   grind
  ·have hi':i∈R:=by
    exact xr
   simp only [G1,AE hj,Io,AY] at hb;rw [VD A8];exact apH hb.1<|ap4 (λF H h=>aEq R F H hi' hb.2 h) h
def adG (hΓ:∀g S,Γ g=ah S->Valid P G g S) {ops:aWm}{tr:aWj}{D:aWq->Prop}{sp:aWe->aWo}{Q:aWD->Gh->Prop}{F':aWf}{H':aWi}
  (hQ:∀g:Gh,g.F=F'->g.H=H'->Q g.a g):∀(n:aWe) (R:aWj) (listed:aWy) (g:Gh),(∀i∈R,sp i=U)->bX P ops n R listed=U->
   (HC P G Γ ops tr (M H) R g.F g.H).all (λq=>q=(F',H'))->KZ P .any ops D (Cf ds G w0 Z0 tr β H wr) sp Q n listed g.a g
 |0,R,listed,g,_,hB,h=>by
  simp only [bX,AY,Zm] at hB;obtain ⟨rfl,h2⟩:=hB;simp only [HC,T.all,B0] at h;exact ⟨h2,hQ g h.1 h.2⟩
 | n +1,R,listed,g,hs,hB,h=>by
  simp only [bX,AY,BO,D2,lg] at hB;obtain ⟨hne,hall⟩:=hB;refine ⟨λh0=>absurd h0 hne,λi hi=>?_⟩
  obtain ⟨⟨hR,hbef⟩,hrest⟩:=hall i hi
  have hiR:i∈R:=A8
  have hf:=aEq R g.F g.H hiR A8 h
  simp only [HC] at hf;split at hf
  ·rename_i o ho
   split at hf
   ·rename_i hgs
    simp only [AY,Ze] at hgs;obtain ⟨hgd,hst⟩:=hgs
    have hw:az o (yielded ops g.a.tmps)=true:=yK
    unfold EB;simp only [ho,hw,Bp,hs i hiR];obtain ⟨⟨lv,H1⟩,h1,h2⟩:=T.B8 hf
    have h1':(Ax P G Γ g.F g.H o).all (λq=>q=(lv,H1)):=by
     unfold spz at h1;split at h1
     ·exact h1
     ·cases h1
    intro w' hc;refine KM (λv w'' ⟨g',e1,e2,e3,e4⟩=>⟨g',e1,?_⟩)<|cz hΓ hst h1' hc
    rw [<-e4];refine adG hΓ hQ n (R.erase i) _ g' (λj hj=>hs j<|Q3 hj) hrest ?_
    rwa [e2,e3]
   ·cases hf
  ·cases hf
def cX {T':Type}{md:aXb}{D:aWq->Prop}{sp:aWe->aWo}{C:T'->aWq->Prop}{Q':aWD->aWq->Prop}{ops:aWm}{g g1:T'}(hs:∀w',C g w'->C g1 w'):∀(n:aWe) (listed:aWy) (a:aWD),
  KZ P md ops D C sp (λa' g'=>∀w',C g' w'->Q' a' w') n listed a g1->KZ P md ops D C sp (λa' g'=>∀w',C g' w'->Q' a' w') n listed a g
 |0,_,_,h=>⟨h.1,λw' hw'=>h.2 w'<|hs w' hw'⟩
 | n +1,listed,a,h=>⟨λh0 w' hw'=>h.1 h0 w'<|hs w' hw',λi hi=>by
   have:=h.2 i hi
   unfold EB at this|-;split
   ·rename_i ho;simp only [ho] at this;exact cX hs n _ _ this
   ·rename_i o ho
    simp only [ho] at this;split
    ·rename_i hw
     simp only [hw,Bp] at this;split
     ·rename_i hsp
      simp only [hsp,Bp] at this;exact λw hw=>this w<|hs w hw
     ·rename_i hsp
      simp only [hsp] at this;exact pL (λa' hk=>cX hs n _ a' hk) this
    ·rename_i hw
     simp only [hw] at this;exact cX hs n _ _ this⟩
mutual
def R.Ks {β':aWe->aWU}{n:aWe}:∀(x:LV) (y:aWx),(∀j,j∈owns x->β' j=β j)->okV n x->R β Z w x y->R β' Z w x y
 | .v _,_,_,_,h=>h
 | .bl _,_,_,_,h=>h
 | .ki _ _,_,_,_,h=>h
 | .own k off,y,hj,_,h=>aOi
 | .agg l,y,hj,hk,h=>by
  exact mK
 | .AO l,y,hj,hk,h=>by
  exact mK
 | .fn f l,y,hj,hk,h=>by
  exact mK
 | .fb f l,y,hj,hk,h=>by
  exact mK
 | .xq m f,y,_,hk,h=>by
  simp only [R,okV] at*;obtain ⟨b,off,h1,h2,h3⟩:=h;refine ⟨b,off,h1,h2,λj hj=>?_⟩
  obtain ⟨z,h4,h5⟩:=h3 j hj;exact ⟨z,h4,R.mono (n:=0) (λ_ hk=>absurd hk A0) (λ_ h=>h) (λ_ _=>rfl) _ _ (hk j) h5⟩
 | .xl e l,y,_,_,h=>by simp only [R] at*;exact h
 | .os k es off n,y,hj,_,h=>mW
 | .op k es i j,y,hj,_,h=>mW
 | .om k,y,hj,_,h=>mW
 | .mp kd ks l,y,hj,hk,h=>by
  simp only [R,owns,okV] at*;obtain ⟨r,es,clock,h1,h2,h3,h4,h5⟩:=h;exact ⟨r,es,clock,h1,h2,h3,h4,RL.Ks l _ hj hk h5⟩
 | .oc k es off n c,y,hj,_,h=>mW
 | .CO k,y,hj,_,h=>aOi
 | .junk,_,_,_,_=>Ji
def RL.Ks {β':aWe->aWU}{n:aWe}:∀(l:aWf) (ys:aWv),(∀j,j∈ownsL l->β' j=β j)->AT n l->RL β Z w l ys->RL β' Z w l ys
 | [],_,_,_,h=>aPe
 |x::xs,ys,hj,hk,h=>by
  simp only [RL,ownsL,BX,AT] at*;obtain ⟨y,zs,h1,h2,h3⟩:=h;exact ⟨y,zs,h1,R.Ks x y (λj h=>hj j (.inl h)) hk.1 h2,RL.Ks xs zs (λj h=>hj j (.inr h)) hk.2 h3⟩
end
mutual
def okV_owns {n:aWe}:∀(x:LV),okV n x->∀j,j∈owns x->j<n
 | .v _,_,j,h=>Vb
 | .bl _,_,j,h=>Vb
 | .ki _ _,_,j,h=>Vb
 | .own k _,hk,j,h=>VQ
 | .agg l,hk,j,h=>aO
 | .AO l,hk,j,h=>aO
 | .fn _ l,hk,j,h=>aO
 | .fb _ l,hk,j,h=>aO
 | .xq _ _,_,j,h=>Vb
 | .xl _ _,_,j,h=>Vb
 | .os k _ _ _,hk,j,h=>VQ
 | .op k _ _ _,hk,j,h=>VQ
 | .om k,hk,j,h=>VQ
 | .mp _ _ l,hk,j,h=>aO
 | .oc k _ _ _ _,hk,j,h=>VQ
 | .CO k,hk,j,h=>VQ
 | .junk,_,j,h=>Vb
def okL_owns {n:aWe}:∀(l:aWf),AT n l->∀j,j∈ownsL l->j<n
 | [],_,j,h=>by simp [ownsL] at h
 |x::xs,hk,j,h=>by
  simp only [ownsL,BX,AT] at*;rcases h with h|h
  ·exact okV_owns x hk.1 j h
  ·exact okL_owns xs hk.2 j h
end
mutual
def okV_lower {n m:aWe}:∀(x:LV),okV n x->(∀j,j∈owns x->j<m)->okV m x
 | .v _,_,_=>trivial
 | .bl _,_,_=>trivial
 | .ki _ _,_,_=>trivial
 | .own k _,_,h=>h k Is
 | .agg l,hk,h=>aP
 | .AO l,hk,h=>aP
 | .fn _ l,hk,h=>aP
 | .fb _ l,hk,h=>aP
 | .xq _ _,hk,_=>aOp
 | .xl _ _,_,_=>trivial
 | .os k _ _ _,_,h=>h k Is
 | .op k _ _ _,_,h=>h k Is
 | .om k,_,h=>h k Is
 | .mp _ _ l,hk,h=>aP
 | .oc k _ _ _ _,_,h=>h k Is
 | .CO k,_,h=>h k Is
 | .junk,_,_=>trivial
def okL_lower {n m:aWe}:∀(l:aWf),AT n l->(∀j,j∈ownsL l->j<m)->AT m l
 | [],_,_=>trivial
 |x::xs,hk,h=>by
  simp only [ownsL,BX,AT] at*;exact ⟨okV_lower x hk.1 (λj hj=>h j (.inl hj)),okL_lower xs hk.2 (λj hj=>h j (.inr hj))⟩
end
def aFv {n:aWe}{b:AB}(h:okB n b):∀j,j∈b.owns->j<n:=λj hj=>by
 rcases BX.1 hj with hj|hj
 ·exact okL_owns _ h.1 j hj
 ·have h2:=h.2
  split at hj
  ·rename_i hk;rw [hk] at h2;exact okL_owns _ h2 j hj
  ·cases hj
def BZ.Ks {β':aWe->aWU}{n k k':aWe}{b:AB}(hk:β' k'=β k) (hj:∀j,j∈b.owns->β' j=β j) (hok:okB n b) (h:BZ β Z w k b):BZ β' Z w k' b:=by
 have hc:∀j,j∈ownsL b.c->β' j=β j:=λj h=>hj j<|BX.2<|.inl h
 unfold BZ at*;rw [hk];cases hbk:b.k with
 |cl=>
  simp only [hbk] at h|-;obtain ⟨cs,h1,h2⟩:=h;exact ⟨cs,h1,RL.Ks _ _ hc hok.1 h2⟩
 |vec e l=>simp only [hbk] at h|-;exact h
 |mp kd ks vs=>
  simp only [hbk] at h|-;obtain ⟨es,clock,h1,h2,h3⟩:=h
  have ho:=hok.2
  rw [hbk] at ho;exact ⟨es,clock,h1,h2,RL.Ks _ _ (λj h=>hj j (by unfold AB.owns;rw [hbk];exact BX.2<|.inr h)) ho h3⟩
 |Cl ps asg body st=>
  simp only [hbk] at h|-;obtain ⟨r,h1,h2,h3,h4,h5,h6⟩:=h;exact ⟨r,h1,h2,h3,h4,h5,RL.Ks _ _ hc hok.1 h6⟩
 |st e l=>simp only [hbk] at h|-;exact h
 |dead=>trivial
def Ku (β:aWe->aWU) (k m:aWe):aWe->aWU:=λj=>if j=k then β m else β j
def Qc {k m:aWe}:Ku β k m k=β m:=by simp [Ku]
def J6 {k m j:aWe}(h:j≠k):Ku β k m j=β j:=by simp [Ku,h]
def RW.move {k:aWe}{nb db:AB}(hW:RW G w0 Z0 Z β (H++[nb]) w) (hk:H[k]? =ah db) (hp:nb.p=X)
  (hB:∀(j:aWe) (b:AB),H[j]? =ah b->okB (M H) b/\k∉b.owns) (hn:okB (M H) nb/\k∉nb.owns) (hg:∀p,p∈Z0.gh->okV (M H) p.1/\k∉owns p.1):
  RW G w0 Z0 Z (Ku β k<|M H) (H.set k nb) w:=by
 have hkl:k<M H:=(EE.1 hk).1
 have at_:∀(j:aWe) (b:AB),(H.set k nb)[j]? =ah b->(j=k/\b=nb)\/(j≠k/\H[j]? =ah b):=λj b h=>by
  rw [IN] at h;split at h
  ·rename_i e
   grind
  ·grind
 have last:(H++[nb])[M H]? =ah nb:=AI
 have old:∀(j:aWe) (b:AB),H[j]? =ah b->(H++[nb])[j]? =ah b:=λj b h=>A8
 have lt:∀(j:aWe) (b:AB),H[j]? =ah b->j<M H:=λj b h=>(EE.1 h).1
 have lk:live (Ku β k<|M H) k nb=live β (M H) nb:=by unfold live;rw [Qc]
 have lj:∀j b,j≠k->live (Ku β k<|M H) j b=live β j b:=λj b h=>KX<|J6 h
 refine ⟨hW.below,hW.Bc,hW.Et,λj b hj hl hq=>?_,λj b hj hl hq=>?_,λj b hj hl=>?_,λi j bi bj hi hj li lj' pi e=>?_,λj b hj=>?_,hW.Cb,λp hp=>?_,hW.Cr⟩
 ·rcases at_ j b hj with ⟨rfl,rfl⟩ |⟨h1,h2⟩
  ·rw [Qc];rw [lk] at hl;exact hW.Cp _ _ last hl hq
  ·rw [J6 h1];rw [lj j b h1] at hl;exact hW.Cp j b (old j b h2) hl hq
 ·rcases at_ j b hj with ⟨rfl,rfl⟩ |⟨h1,h2⟩
  ·rw [hp] at hq;cases hq
  ·rw [J6 h1];rw [lj j b h1] at hl;exact hW.GL j b (old j b h2) hl hq
 ·rcases at_ j b hj with ⟨rfl,rfl⟩ |⟨h1,h2⟩
  ·rw [Qc];rw [lk] at hl;exact hW.low _ _ last hl
  ·rw [J6 h1];rw [lj j b h1] at hl;exact hW.low j b (old j b h2) hl
 ·rcases at_ i bi hi with ⟨rfl,rfl⟩ |⟨h1,h2⟩
  ·rcases at_ j bj hj with ⟨rfl,rfl⟩ |⟨g1,g2⟩
   ·rfl
   ·rw [lk] at li;rw [lj j bj g1] at lj';rw [Qc,J6 g1] at e
    have:=hW.inj _ j _ bj last (old j bj g2) li lj' pi e
    have:=lt j bj g2;omega
  ·rcases at_ j bj hj with ⟨rfl,rfl⟩ |⟨g1,g2⟩
   ·rw [lj i bi h1] at li;rw [lk] at lj';rw [J6 h1,Qc] at e
    have:=hW.inj i _ bi _ (old i bi h2) last li lj' pi e
    have:=lt i bi h2;omega
   ·rw [lj i bi h1] at li;rw [lj j bj g1] at lj';rw [J6 h1,J6 g1] at e
    exact hW.inj i j bi bj (old i bi h2) (old j bj g2) li lj' pi e
 ·rw [C3]
  rcases at_ j b hj with ⟨rfl,rfl⟩ |⟨h1,h2⟩
  ·exact ⟨BZ.Ks Qc (λi hi=>J6 λe=>hn.2<|e▸hi) hn.1 (hW.blk _ _ last).1,hn.1⟩
  ·obtain ⟨q1,q2⟩:=hB j b h2
   exact ⟨BZ.Ks (J6 h1) (λi hi=>J6 λe=>q2<|e▸hi) q1 (hW.blk j b<|old j b h2).1,q1⟩
 ·obtain ⟨q1,q2⟩:=hg p hp
  rw [C3];exact ⟨R.Ks _ _ (λj hj=>J6 λe=>q2<|e▸hj) q1 (hW.gh p hp).1,q1⟩
def R5:∀ {l:aWf}{x:LV}{j:aWe},x∈l->j∈owns x->j∈ownsL l
 |y::ys,x,j,hx,hj=>by
  simp only [ownsL,BX];rcases BA.1 hx with rfl|h
  ·grind
  ·exact .inr<|R5 h hj
def dB:∀ {l:aWf}{j:aWe},j∈ownsL l->∃x,x∈l/\j∈owns x
 |x::xs,j,h=>by
  simp only [ownsL,BX] at h;rcases h with h|h
  ·grind
  ·obtain ⟨y,h1,h2⟩:=dB h;exact ⟨y,A8,h2⟩
 | [],j,h=>by simp [ownsL] at h
def Su {x:aWS}{j:aWe}(h:j∈owns (AL G F x)):j∈ownsL F:=by
 cases x with
 |tmp t=>
  simp only [AL] at h;cases ht:F[t]? with
  |none=>simp [List.getD,ht,owns] at h
  |some y=>simp [List.getD,ht] at h;exact R5 (OP ht) h
 |const v=>simp only [AL] at h;split at h<;>simp [owns] at h
 |global g=>simp only [AL] at h;split at h<;>simp [owns] at h
 |func f=>simp [AL,owns,ownsL] at h
def aDN:∀(l:aWv),ownsL (l.map .v)=[]
 | []=>rfl
 |x::xs=>by simp [ownsL,owns,aDN xs]
def oa {x:LV}{cs:aWf}(h:CN x=ah cs):∀j,j∈ownsL cs->j∈owns x:=λj hj=>by
 unfold CN at h;split at h
 ·split at h
  ·simp only [Ai] at h;subst h;rw [aDN] at hj;cases hj
  ·cases h
 ·split at h
  ·simp only [Ai] at h;subst h;simpa only [owns] using hj
  ·cases h
 ·cases h
 ·cases h
 ·simp only [Ai] at h;subst h;simpa [ownsL] using hj
def pE {d:aWQ}{x:LV}{j:aWe}(h:j∈ownsL (Av F d x)):j∈ownsL F\/j∈owns x:=by
 cases d with
 |none=>exact .inl h
 |some t=>
  obtain ⟨y,h1,h2⟩:=dB h;rcases OU h1 with e|e
  ·exact .inl<|R5 e h2
  ·grind
def aH7 {k:aWe}{o:aWw}{lv:LV}{H1:aWi}(h:(JQ P G F H k o).all λq=>q=(lv,H1)):(∃cs t,lv=.own k 0/\H1=H.set k ⟨cs,t,.cl,X⟩/\(Ax P G Γ F H o).all (λq=>q=(.own (M H) 0,H++[⟨cs,t,.cl,X⟩]))/\∀j,j∈ownsL cs->j∈ownsL F)\/
  ∃(m n:aWe) (e:aWu) (ty:Ty) (l:List ty.D),lv=.os k m 0 n/\H1=H.set k ⟨[],e,.vec ty l,X⟩/\(Ax P G Γ F H o).all (λq=>q=(.os (M H) m 0 n,H++[⟨[],e,.vec ty l,X⟩])):=by
 unfold JQ at h;split at h
 ·rename_i t ho
  split at h
  ·rename_i z hz
   split at h
   ·rename_i cs hcs
    simp only [T.all,B0] at h;refine .inl ⟨cs,t,h.1.symm,h.2.symm,?_,λj hj=>?_⟩
    ·unfold Ax;simp only [ho,hz,hcs,T.all]
    ·have:=oa hcs j hj;simp [owns] at this
   ·cases h
  ·cases h
 ·rename_i t x ho
  split at h
  ·rename_i cs hcs
   simp only [T.all,B0] at h;refine .inl ⟨cs,t,h.1.symm,h.2.symm,?_,λj hj=>Su<|oa hcs j hj⟩
   unfold Ax;simp only [ho,hcs,T.all]
  ·cases h
 ·rename_i t n c ho
  split at h
  ·rename_i e ty m FM n' c' he hn hc
   split at h
   ·rename_i z hz
    split at h
    ·rename_i d hd
     split at h
     ·rename_i hsz
      simp only [T.all,B0] at h;obtain ⟨h0,h1,h2⟩:=h;refine .inr ⟨m,n'.toNat,e,ty,aq n'.toNat d,h1.symm,h2.symm,?_⟩;unfold Ax;simp only [ho,UC,he,hn,hc,hz,hd,hsz,Bp,T.all]
      grind
     ·cases h
    ·cases h
   ·cases h
  ·cases h
 ·rename_i t len parts ho
  split at h
  ·rename_i hlen
   split at h
   ·rename_i hp
    split at h
    ·rename_i e ty m FM he
     simp only [T.all,B0] at h;refine .inr ⟨m,0,e,ty,[],h.1.symm,h.2.symm,?_⟩;unfold Ax;simp only [ho,hlen,hp,Bp,X4,he,T.all]
    ·cases h
   ·cases h
  ·cases h
 ·cases h
structure SF (n0:aWe) (done:aWe->Prop) (R:aWj) (g:Gh):Prop where
 f:∀j,j∈ownsL g.F->j<n0\/∃i,done i/\j=n0+i
 h:∀(k:aWe) (b:AB),g.H[k]? =ah b->∀j,j∈b.owns->j<n0\/∃i,done i/\j=n0+i
 dead:∀i,i∈R->¬done i/\∃b,g.H[n0+i]? =ah b
def aJs (hΓ:∀g S,Γ g=ah S->Valid P G g S) {tr:aWj}{g:Gh}{o:aWw}{lv:LV}{H1:aWi}{w':aWq}{done:aWe->Prop}{R':aWj}{i:aWe}(hgh:∀p,p∈Z0.gh->okV (M H) p.1) (hI:SF (M H) done R' g) (hi:i∈R')
  (hst:CM G g.F tr (M H) o=U) {nb:AB} {lv0:LV} (hop:(Ax P G Γ g.F g.H o).all λq=>q=(lv0,g.H++[nb])) (hpn:nb.p=X) (hcs:∀j,j∈nb.owns->j∈ownsL g.F) (hlow:∀n m,okB n nb->(∀j,j∈nb.owns->j<m)->okB m nb)
  (hlv:∀β' Z' w'' v,R β' Z' w'' lv0 v->R (Ku β' (M H+i)<|M g.H) Z' w'' lv v) (hlo:∀n,M H+i<n->okV n lv) (hH1:H1=g.H.set (M H+i) nb) (hc:Cf ds G w0 Z0 tr β H wr g w'):
  Di P (λv w''=>∃g':Gh,Cf ds G w0 Z0 tr β H wr g' w''/\g'.F=Av g.F o.dst lv/\g'.H=H1/\g'.a=g.a.put o.dst v) ((execOp g.a.eval o).run P w'):=by
 subst hH1;refine KM (λv w'' ⟨Z',β',e1,e2,e3,e4,e5,e6,e7,e8⟩=>?_)<|cq hΓ hc.rw hc.rf hop
 obtain ⟨hnd,db,hdb⟩:=hI.dead i hi
 have fresh:∀j,(j<M H\/∃i',done i'/\j=M H+i')->j≠M H+i:=λj hj e=>by
  rcases hj with hj|⟨i',hd,e'⟩
  ·omega
  ·have:i'=i:=A0
   grind
 have hsz:=hc.near.size
 have hcl:∀j,j∈nb.owns->j<M g.H:=λj hj=>by
  obtain ⟨x,q1,q2⟩:=dB<|hcs j hj;obtain ⟨t',q3⟩:=List.getElem?_of_mem q1;exact okV_owns x (hc.rf.get t' x q3).2 j q2
 have okcs:okB (M g.H) nb:=hlow _ _ (e1.blk (M g.H) nb AI).2 hcl
 have hMv:=e1.move (k:=M H+i) hdb hpn (λj b hj=>⟨(hc.rw.blk j b hj).2,λhm=>fresh _ (hI.h j b hj _ hm) rfl⟩) ⟨okcs,λhm=>fresh _ (hI.f _<|hcs _ hm) rfl⟩ λp hp=>⟨okV.mono hc.len _<|hgh p hp,λhm=>by have:=okV_owns _ (hgh p hp) _ hm;omega⟩
 have hF2:RF ds (Ku β' (M H+i)<|M g.H) Z' w'' (M<|g.H.set (M H+i) nb) g.F g.a:=by
  rw [C3];refine ⟨hc.rf.size,λt' x hx=>?_,e2.defers⟩
  have q:=hc.rf.get t' x hx
  exact ⟨R.Ks x _ (λj hj=>J6<|fresh j<|hI.f j<|R5 (OP hx) hj) q.2 (e2.get t' x hx).1,q.2⟩
 refine ⟨⟨Z',Ku β' (M H+i)<|M g.H,g.H.set (M H+i) nb,Av g.F o.dst lv,g.a.put o.dst v⟩,?_,rfl,rfl,rfl⟩;refine ⟨hMv,hF2.put (hlv _ _ _ _ e3) (hlo _ A8) o.dst,⟨e8.os.trans hc.near.os,e8.tape.trans hc.near.tape,e8.output.trans hc.near.output,HJ hsz e8.size,λk hk hn=>?_⟩,A8,λk hk=>?_,λk h3 h4=>?_,λk b hb=>?_⟩
 ·exact aN9
 ·show Ku β' (M H+i) (M g.H) k=β k
  rw [J6 A0,e6 k<|Zt hk hc.len];exact hc.old k hk
 ·show wr.heap.size<=(Ku β' (M H+i) (M g.H) k).b\/(Ku β' (M H+i) (M g.H) k).b∈DZ β H tr
  simp only [C3] at h4
  by_cases hkk:k=M H+i
  ·subst hkk
   rw [Qc];rcases e7 (M g.H) (At _) AI with h|h
   ·exact .inl A0
   ·exact hc.touch hst h
  ·rw [J6 hkk,e6 k h4];exact hc.new k h3 h4
 ·have hkl:k<M H:=(EE.1 hb).1
  obtain ⟨b',q1,q2⟩:=hc.K6 k b hb
  grind
def ajX (hΓ:∀g S,Γ g=ah S->Valid P G g S) {tr:aWj}{g:Gh}{o:aWw}{lv:LV}{H1:aWi}{w':aWq}{done:aWe->Prop}{R':aWj}{i:aWe}(hgh:∀p,p∈Z0.gh->okV (M H) p.1) (hI:SF (M H) done R' g) (hi:i∈R')
  (hst:CM G g.F tr (M H) o=U) (h1:(JQ P G g.F g.H (M H+i) o).all λq=>q=(lv,H1)) (hc:Cf ds G w0 Z0 tr β H wr g w'):
  Di P (λv w''=>∃g':Gh,Cf ds G w0 Z0 tr β H wr g' w''/\g'.F=Av g.F o.dst lv/\g'.H=H1/\g'.a=g.a.put o.dst v) ((execOp g.a.eval o).run P w'):=by
 rcases aH7 (Γ:=Γ) h1 with ⟨cs,t,rfl,hH1,hop,hcs⟩ |⟨m,n,e,ty,l,rfl,hH1,hop⟩
 ·refine aJs hΓ hgh hI hi hst hop rfl (λj hj=>?_) (λn m h1 h2=>⟨okL_lower cs h1.1 λj hj=>h2 j ?_,ak⟩) (λβ' Z' w'' v hr=>aOY) (λn hn=>hn) hH1 hc
  ·unfold AB.owns at hj
   grind
  ·unfold AB.owns
   simp only [Gb];exact hj
 ·refine aJs hΓ hgh hI hi hst hop rfl (λj hj=>?_) (λn m h1 h2=>⟨ak,ak⟩) (λβ' Z' w'' v hr=>aOY) (λn hn=>hn) hH1 hc
  unfold AB.owns at hj
  simp [ownsL] at hj
def afB {ops:aWm}{o:aWw}{d:aWQ}{y:LV}{k:aWe}(ha:Es o=U) (h:∀t,d=ah t->t∉o.looksAt ops):JQ P G (Av F d y) H k o=JQ P G F H k o:=by
 have hl:=looks h
 unfold Es at ha;split at ha
 ·rename_i t ho
  unfold JQ
  grind
 ·rename_i t x ho
  unfold JQ;simp only [ho];exact mL
 ·rename_i t n c ho
  unfold JQ;simp only [ho];rw [Fp<|hl n FT,Fp<|hl c FT]
 ·rename_i t len parts ho
  unfold JQ
  grind
 ·cases ha
def aq1 {o:aWw}{k:aWe}(ha:Es o=U):∃(p:Prop) (lv:LV) (nb:AB),∀(H:aWi) (K:LV×List AB->Prop),(JQ P G F H k o).all K↔(p/\K (lv,H.set k nb)):=by
 unfold Es at ha;split at ha
 ·rename_i t ho
  unfold JQ;simp only [ho];split
  ·exact aND
  ·exact Sh
 ·rename_i t x ho
  unfold JQ;simp only [ho];exact aND
 ·rename_i t n c ho
  unfold JQ;simp only [ho];split
  ·split
   ·split
    ·split
     ·exact ⟨_,_,_,λH K=>MF⟩
     ·exact Sh
    ·exact Sh
   ·exact Sh
  ·exact Sh
 ·rename_i t len parts ho
  unfold JQ;simp only [ho];split
  ·split
   ·split
    ·rename_i e ty m FM _
     exact ⟨True,.os k m 0 0,⟨[],e,.vec ty [],X⟩,λH K=>aPR⟩
    ·exact Sh
   ·grind
  ·grind
 ·cases ha
def ub {o:aWw}(hm:JL o=U):Es o=X/\Py o=U/\∀G tr n0 (F:aWf),CM G F tr n0 o=true:=by
 unfold JL at hm;split at hm
 ·rename_i x ho
  simp [Es,Py,CM,Eu,ho]
 ·rename_i x ho
  simp [Es,Py,CM,Eu,ho]
 ·rename_i t parts ho
  simp [Es,Py,CM,Eu,ho]
 ·cases hm
def pT {ops:aWm}{o:aWw}{d:aWQ}{y:LV}{n0 i:aWe}(ha:(Es o ||JL o)=U) (h:∀t,d=ah t->t∉o.looksAt ops):I7 P G Γ ops n0 i (Av F d y) H o=I7 P G Γ ops n0 i F H o:=by
 rcases SV.1 ha with ha|ha
 ·unfold I7
  rw [AD ha,AD ha,afB ha h]
 ·obtain ⟨h1,h2,_⟩:=ub ha
  have hl:=looks h
  unfold I7;rw [h1,h2];unfold JL at ha;split at ha
  ·exact aN3
  ·exact aN3
  ·rename_i t parts ho
   have e:(parts.toList.map λq=>(q.1,Hx G (Av F d y) q.2))=parts.toList.map λq=>(q.1,Hx G F q.2):=Jg λq hq=>by
    exact aN8
   unfold Ax;simp only [ho,e];rfl
  ·cases ha
def putAt (k:aWe) (nb:aW6) (H:aWi):aWi:=
 match nb with
 |some b=>H.set k b
 |none=>H
def aeQ {i j:aWe}{a b:aW6}{H:aWi}(h:i≠j):putAt i a (putAt j b H)=putAt j b (putAt i a H):=by
 cases a<;>cases b<;>simp only [putAt]
 exact List.set_comm _ _<|OX h
def eG {ops:aWm}{o:aWw}{n0 i:aWe}(ha:(Es o ||JL o)=U):∃(p:Prop) (lv:LV) (nb:aW6),∀(H:aWi) (K:LV×List AB->Prop),(I7 P G Γ ops n0 i F H o).all K↔(p/\K (lv,putAt (n0+i) nb H)):=by
 rcases SV.1 ha with ha|ha
 ·obtain ⟨p,lv,nb,h⟩:=aq1 (P:=P) (G:=G) (F:=F) (k:=n0+i) ha
  refine ⟨p,lv,ah nb,λH K=>?_⟩
  unfold I7;rw [AD ha];exact h H K
 ·obtain ⟨h1,h2,_⟩:=ub ha
  unfold JL at ha;split at ha
  ·exact aMr
  ·exact aMr
  ·rename_i t parts ho
   have key:∀l:aWI,(∃y,Nc P t l=.ok y)\/Nc P t l=.no:=λl=>by
    unfold Nc;split
    ·split
     ·grind
     ·exact .inr rfl
    ·grind
   rcases key (parts.toList.map λq=>(q.1,Hx G F q.2)) with ⟨y,hy⟩ |hy
   ·refine ⟨True,y,aj,λH K=>?_⟩
    unfold I7 Ax;rw [h1,h2]
    simp [ho,hy,T.bind,T.all,putAt]
   ·refine ⟨False,.junk,aj,λH K=>?_⟩
    unfold I7 Ax;rw [h1,h2]
    simp [ho,hy,T.bind,T.all]
  ·cases ha
def fF {o:aWw}{tr:aWj}{n0:aWe}(ha:(Es o ||JL o)=U) (F:aWf):CM G F tr n0 o=true:=by
 rcases SV.1 ha with ha|ha
 ·exact aDZ<|.inl ha
 ·exact (ub ha).2.2 G tr n0 F
def aiy {o:aWw}(h:Lq o=U):Es o=X/\Py o=false:=by
 unfold Lq at h;split at h
 ·rename_i args tys ho
  simp [Es,Py,ho]
 ·cases h
def aJD {ops:aWm}{o:aWw}{d:aWQ}{y:LV}(hh:Lq o=U) (h:∀t,d=ah t->t∉o.looksAt ops):
  Ax P G Γ (Av F d y) H o=Ax P G Γ F H o/\(∀tr n0,CM G (Av F d y) tr n0 o=CM G F tr n0 o)/\∀n0 H,L4 G ops n0 (Av F d y) H o=L4 G ops n0 F H o:=by
 have hl:=looks h
 unfold Lq at hh;split at hh
 ·rename_i args tys ho
  have e:args.toList.map (AL G<|Av F d y)=args.toList.map (AL G F):=Jg λx hx=>Fp<|hl x aT
  refine ⟨?_,λtr n0=>?_,λn0 H=>?_⟩
  ·unfold Ax
   exact So
  ·unfold CM Eu
   exact So
  ·unfold L4
   exact So
 ·cases hh
def adF {t tx:aWu} {k es off n:aWe} {e0:Ty} {q0:List e0.D}:∃f:aW6->Option (Prop×Nat×Nat×TypeId×AB),(∀b p m n' e nb,f b=ah (p,m,n',e,nb)->nb.owns=[])/\(f aj=aj)/\
  ∀(H:aWi) (K:LV×List AB->Prop),(LR P H t tx (.os k es off n)<|.xl e0 q0).all K↔match f H[k]? with
   |some (p,m,n',e,nb)=>p/\K (.os (M H) m 0 n',H.set k ⟨[],e,.dead,X⟩++[nb])
   |none=>False:=by
 have bad:∀ {g:aWi->T (LV×List AB)},(∀H,g H=.no)->∃f:aW6->Option (Prop×Nat×Nat×TypeId×AB),(∀b p m n' e nb,f b=ah (p,m,n',e,nb)->nb.owns=[])/\(f aj=aj)/\
   ∀(H:aWi) (K:LV×List AB->Prop),(g H).all K↔match f H[k]? with
    |some (p,m,n',e,nb)=>p/\K (.os (M H) m 0 n',H.set k ⟨[],e,.dead,X⟩++[nb])
    |none=>False:=λhg=>⟨λ_=>aj,(λ_ _ _ _ _ _ h=>Ao),rfl,λH K=>by rw [hg];simp [T.all]⟩
 unfold LR;cases he:PF P t with
 |none=>exact bad λH=>rfl
 | some q=>
  obtain ⟨e,ty,m,FM⟩:=q;simp only;split
  ·rename_i z _ _
   by_cases hz:z.cells.size=m
   ·simp only [AD hz]
    have hs:∀H:aWi,FX H ty (.xl e0 q0)=(match N2 ty (.xl e0 q0) with|some l=> .ok l|none=> .no):=λH=>rfl
    cases hd:N2 ty (.xl e0 q0) with
    |none=>exact bad λH=>by rw [hs,hd];rfl
    | some q=>
     refine ⟨λob=>match ob with
      |some ⟨_,bt,.vec e' l,X⟩=>match Jw e' ty with
       |some ⟨h⟩=>if es=m/\bt=e then ah (off+n=M l/\((n+M q:aWe):Y)*FM<=2^47/\((n+M q:aWe):Y)<2^62,m,n+M q,e,⟨[],e,.vec ty<|Kl h (l.drop off)++q,X⟩) else aj
       |none=>aj
      |_=>aj,λb p m' n' e' nb hf=>?_,rfl,λH K=>?_⟩
     ·simp only at hf
      split at hf
      ·split at hf
       ·split at hf
        ·simp only [Ai,B0] at hf
         rw [<-hf.2.2.2.2];rfl
        ·cases hf
       ·cases hf
      ·cases hf
     ·rw [hs,hd]
      simp only [T.bind];split
      ·rename_i hb
       simp only [hb];split
       ·rename_i ht
        simp only [ht];split
        ·simp only [T.all]
        ·simp [T.all]
       ·rename_i ht
        simp only [ht]
        simp [T.all]
      ·rename_i hb
       split
       ·rename_i hf
        exfalso;split at hf
        ·rename_i h1
         grind
        ·cases hf
       ·simp [T.all]
   ·simp_all
  ·simp_all
def aE1 {ops:aWm} {n0:aWe} {o:aWw} (h:L4 G ops n0 F H o=U):∃d k es off n,∃e0:Ty,∃q0:List e0.D,∃t tx,apD ops o=ah d/\n0+ops.size<=M H/\k=n0+d/\(∀tr,CM G F tr n0 o=U)/\((∀H':aWi,Ax P G Γ F H' o=LR P H' t tx (.os k es off n) (.xl e0 q0))\/∀H':aWi,Ax P G Γ F H' o=.no):=by
 unfold L4 at h;split at h
 ·rename_i args tys ho
  split at h
  ·rename_i d hd
   simp only [AY,Aa] at h;obtain ⟨h1,h2⟩:=h;cases hm:args.toList.map (AL G F) with
   |nil=>rw [hm] at h2;simp [apK] at h2
   | cons a l=>
    cases l with
    |nil=>rw [hm] at h2;cases a<;>simp [apK] at h2
    | cons b l=>
     cases l with
     |cons c l=>rw [hm] at h2;cases a<;>cases b<;>simp [apK] at h2
     | nil=>
      rw [hm] at h2;cases a with
      | os k es off n=>
       cases b with
       | xl e0 q0=>
        simp only [apK,D3] at h2
        have hok:∀tr,CM G F tr n0 o=true:=λtr=>by
         unfold CM Eu;simp only [ho,hm,owns,Io,List.all_nil,mD,Cj,Aa];omega
        cases ht:tys.toList with
        |nil=>exact ⟨d,k,es,off,n,e0,q0,0,0,hd,h1,h2,hok,.inr λH'=>mU⟩
        | cons t1 l=>cases l with
         |nil=>exact ⟨d,k,es,off,n,e0,q0,0,0,hd,h1,h2,hok,.inr λH'=>mU⟩
         |cons t2 l=>cases l with
          |nil=>exact ⟨d,k,es,off,n,e0,q0,t1,t2,hd,h1,h2,hok,.inl λH'=>mU⟩
          |cons _ _=>exact ⟨d,k,es,off,n,e0,q0,0,0,hd,h1,h2,hok,.inr λH'=>mU⟩
       |_=>simp [apK] at h2
      |_=>simp [apK] at h2
  ·cases h
 ·cases h
def adx {k:aWe}{nb:aW6}{H:aWi}:M (putAt k nb H)=M H:=by cases nb<;>simp [putAt]
def aTl {ops:aWm}{n0 j:aWe}{nb:aW6}{o:aWw}(h:L4 G ops n0 F H o=U) (hj:apD ops o≠ah j) (hlt:j<ops.size) (K:LV×List AB->Prop):
  (Ax P G Γ F (putAt (n0+j) nb H) o).all K↔(Ax P G Γ F H o).all (λq=>K (q.1,putAt (n0+j) nb q.2)):=by
 obtain ⟨d,k,es,off,n,e0,q0,t,tx,hd,hl,hk,_,ho⟩:=aE1 (P:=P) (Γ:=Γ) h
 have hkj:k≠n0+j:=by
  rintro e
  grind
 cases nb with
 |none=>exact Iff.rfl
 | some b=>
  have e1:(H.set (n0+j) b)[k]? =H[k]? :=Zr<|OX hkj
  obtain ⟨f,_,_,hf⟩:=adF (P:=P) (t:=t) (tx:=tx) (k:=k) (es:=es) (off:=off) (n:=n) (e0:=e0) (q0:=q0)
  have key:(LR P (putAt (n0+j) (ah b) H) t tx (.os k es off n)<|.xl e0 q0).all K↔(LR P H t tx (.os k es off n)<|.xl e0 q0).all (λq=>K (q.1,putAt (n0+j) (ah b) q.2)):=by
   rw [hf,hf];simp only [putAt,e1,C3];split
   ·rename_i e nb' _
    rw [List.set_comm _ _ hkj.symm,<-List.set_append_left _ _ A8]
   ·grind
  rcases ho with hb|hb
  ·grind
  ·rw [hb,hb];simp [T.all]
def aTm {ops:aWm}{n0:aWe}{nb:aW6}{j:aWe}{o:aWw}:L4 G ops n0 F (putAt j nb H) o=L4 G ops n0 F H o:=by
 unfold L4;rw [adx]
def ap7 {ops:aWm}{tr:aWj}{n0:aWe}{i j:aWe}{is:aWj}{K:List LV×List AB->Prop}(hc:jS ops i j=U) (h:(G8 P G Γ ops tr n0 (j::i::is) F H).all K):(G8 P G Γ ops tr n0 (i::j::is) F H).all K:=by
 unfold jS at hc;split at hc
 ·rename_i x y hx hy
  simp only [AY,Cj,D2,CQ] at hc;obtain ⟨⟨⟨⟨hne,g1⟩,g2⟩,g3⟩,hap⟩:=hc;obtain ⟨a1,a2,a3⟩:=Zp hap
  have hij:n0+j≠n0+i:=A0
  have step:∀(k:aWe) (o:aWw) (l:aWj) (F:aWf) (H:aWi),ops[k]? =ah o->o.guard.isNone=U->((G8 P G Γ ops tr n0 (k::l) F H).all K↔(CM G F tr n0 o=U/\(I7 P G Γ ops n0 k F H o).all (λq=>(G8 P G Γ ops tr n0 l (Av F o.dst q.1) q.2).all K))):=λk o l F H hk hg=>by
   simp only [G8,hk,hg,EU]
   by_cases hs:CM G F tr n0 o=U
   ·rw [AD hs,T.all_bind];exact ⟨λh=>⟨hs,h⟩,λh=>h.2⟩
   ·exact aNa
  have ap:∀(k:aWe) (o:aWw) (F:aWf) (H:aWi) (K:LV×List AB->Prop),Lq o=U->((I7 P G Γ ops n0 k F H o).all K↔(L4 G ops n0 F H o=U/\(Ax P G Γ F H o).all K)):=λk o F H K ha=>by
   obtain ⟨q1,q2⟩:=aiy ha;unfold I7;rw [q1,q2]
   by_cases hs:L4 G ops n0 F H o=U
   ·grind
   ·exact aNa
  have hil:i<ops.size:=(Hk.1 hx).1
  have hjl:j<ops.size:=(Hk.1 hy).1
  rw [step j y _ F H hy g2] at h;rw [step i x _ F H hx g1];obtain ⟨_,h⟩:=h
  have st1:∀(F:aWf) (H:aWi),((G8 P G Γ ops tr n0 (i::is) F H).all K↔_):=λF H=>step i x is F H hx g1
  have st2:∀(F:aWf) (H:aWi),((G8 P G Γ ops tr n0 (j::is) F H).all K↔_):=λF H=>step j y is F H hy g2
  simp only [st1] at h;simp only [st2];rcases g3 with (⟨g3,g4⟩ |⟨g3,g4,g5⟩) |⟨⟨g3,g5⟩,g4⟩
  ·have g3':(Es x ||JL x)=true:=by simpa using g3
   have g4':(Es y ||JL y)=true:=by simpa using g4
   obtain ⟨px,lx,nx,ex⟩:=eG (P:=P) (G:=G) (Γ:=Γ) (ops:=ops) (F:=F) (n0:=n0) (i:=i) g3';obtain ⟨py,ly,ny,ey⟩:=eG (P:=P) (G:=G) (Γ:=Γ) (ops:=ops) (F:=F) (n0:=n0) (i:=j) g4';rw [ey] at h;obtain ⟨h1,_,h2⟩:=h;rw [pT g3' a3,ex] at h2;refine ⟨fF g3' F,?_⟩;rw [ex];refine ⟨h2.1,fF g4' _,?_⟩;rw [pT g4' a1,ey];refine ⟨h1,?_⟩;rw [LK a2,aeQ hij];exact h2.2
  ·have g3':(Es x ||JL x)=true:=by simpa using g3
   obtain ⟨px,lx,nx,ex⟩:=eG (P:=P) (G:=G) (Γ:=Γ) (ops:=ops) (F:=F) (n0:=n0) (i:=i) g3';rw [ap j y F H _ g4] at h;obtain ⟨h1,h2⟩:=h
   have h2:(Ax P G Γ F H y).all (λq=>px/\(G8 P G Γ ops tr n0 is (Av (Av F y.dst q.1) x.dst lx)<|putAt (n0+i) nx q.2).all K):=T.BY (λq hq=>by
    have:=hq.2
    rw [pT g3' a3,ex] at this;exact this) h2
   have hp:px:=T.T0<|T.BY (λq hq=>hq.1) h2
   refine ⟨fF g3' F,?_⟩;rw [ex];refine ⟨hp,?_⟩;simp only;obtain ⟨b1,b2,b3⟩:=aJD (P:=P) (G:=G) (Γ:=Γ) (F:=F) (H:=putAt (n0+i) nx H) (d:=x.dst) (y:=lx) g4 a1;refine ⟨A8,?_⟩;rw [ap j y _ _ _ g4,b3,aTm,b1,aTl h1 g5 hil];refine ⟨h1,T.BY (λq hq=>?_) h2⟩
   simp only;rw [LK a2];exact hq.2
  ·have g4':(Es y ||JL y)=true:=by simpa using g4
   obtain ⟨py,ly,ny,ey⟩:=eG (P:=P) (G:=G) (Γ:=Γ) (ops:=ops) (F:=F) (n0:=n0) (i:=j) g4';rw [ey] at h;obtain ⟨h1,_,h2⟩:=h;obtain ⟨b1,b2,b3⟩:=aJD (P:=P) (G:=G) (Γ:=Γ) (F:=F) (H:=putAt (n0+j) ny H) (d:=y.dst) (y:=ly) g3 a3;rw [ap i x _ _ _ g3,b3,aTm,b1] at h2;obtain ⟨h2,h3⟩:=h2;rw [aTl h2 g5 hjl] at h3;obtain ⟨_,_,_,_,_,_,_,_,_,_,_,_,hok,_⟩:=aE1 (P:=P) (Γ:=Γ) h2;refine ⟨hok tr,?_⟩;rw [ap i x _ _ _ g3];refine ⟨h2,T.BY (λq hq=>⟨fF g4' _,?_⟩) h3⟩
   rw [pT g4' a1,ey];refine ⟨h1,?_⟩;rw [LK a2];exact hq
 ·cases hc
def ap8 {ops:aWm}{tr:aWj}{n0:aWe}{j:aWe}{R R':aWj}{K:List LV×List AB->Prop}(hh:∀(F:aWf) (H:aWi),(G8 P G Γ ops tr n0 R F H).all K->(G8 P G Γ ops tr n0 R' F H).all K) (h:(G8 P G Γ ops tr n0 (j::R) F H).all K):(G8 P G Γ ops tr n0 (j::R') F H).all K:=by
 simp only [G8] at h|-;exact xn
def aEs {ops:aWm}{tr:aWj}{n0:aWe}{i:aWe}{K:List LV×List AB->Prop}:∀(R:aWj) (F:aWf) (H:aWi),i∈R->(G1 i R).all (λj=>jS ops i j)=U->(G8 P G Γ ops tr n0 R F H).all K->(G8 P G Γ ops tr n0 (i::R.erase i) F H).all K
 | [],_,_,hi,_,_=>nF
 | j::R,F,H,hi,hb,h=>by
  by_cases hj:j=i
  ·subst hj
   grind
  ·have hi':i∈R:=by
    exact xr
   simp only [G1,AE hj,Io,AY] at hb;rw [VD A8];exact ap7 hb.1<|ap8 (λF H h=>aEs R F H hi' hb.2 h) h
def adK {i:aWe}:∀ {R:aWj},Ox R=U->∀i'∈R.erase i,i'≠i
 | [],_,_,h=>A8
 | k::R,hn,i',h=>by
  simp only [Ox,AY,D2] at hn
  by_cases hk:k=i
  ·subst hk
   simp only [List.erase_cons_head] at h
   rintro rfl
   have:i'∉R:=A8
   exact this h
  ·rw [VD A8] at h
   rcases BA.1 h with rfl|h
   ·exact hk
   ·exact adK hn.2 i' h
def aEV {i:aWe}:∀ {R:aWj},Ox R=U->Ox (R.erase i)=U
 | [],_=>A8
 | k::R,hn=>by
  simp only [Ox,AY,D2] at hn
  by_cases hk:k=i
  ·grind
  ·rw [VD A8]
   simp only [Ox,AY,D2];refine ⟨?_,aEV hn.2⟩
   grind
def adQ {l cs:aWf}{off:aWe}{j:aWe}(h:j∈ownsL (setAt l off cs)):j∈ownsL l\/j∈ownsL cs:=by
 obtain ⟨x,h1,h2⟩:=dB h;rcases BX.1 h1 with h1|h1
 ·rcases BX.1 h1 with h1|h1
  ·exact .inl<|R5 (VE h1) h2
  ·exact .inr<|R5 h1 h2
 ·exact .inl<|R5 (Q4 h1) h2
def ae9 {t:aWu}{x y:LV}{H1:aWi}(h:(TW P H t x y).all λq=>q=H1):∃(k:aWe) (b nb:AB),H[k]? =ah b/\H1=H.set k nb/\∀j,j∈nb.owns->j∈b.owns\/j∈owns y:=by
 unfold TW at h;split at h
 ·rename_i n cs hn hcs
  split at h
  ·rename_i k off
   split at h
   ·rename_i b hb
    split at h
    ·rename_i hc
     refine ⟨k,b,_,hb,h.symm,λj hj=>?_⟩
     have hcl:b.k=.cl:=by
      have:=hc.1
      unfold AB.E4 at this;split at this
      ·assumption
      ·cases this
     unfold AB.owns at hj|-;simp only [hcl,Gb] at hj|-;rcases adQ hj with h|h
     ·exact .inl h
     ·exact .inr<|oa hcs j h
    ·cases h
   ·cases h
  ·rename_i k es i j
   split at h
   ·rename_i bt e l hb
    split at h
    ·simp only [T.all] at h
     obtain ⟨_,h⟩:=h;split at h
     ·simp only [T.all] at h
      refine ⟨k,_,_,hb,h.symm,λj hj=>?_⟩
      unfold AB.owns at hj
      simp [ownsL] at hj
     ·cases h
    ·cases h
   ·cases h
  ·cases h
 ·cases h
def aFL {x:LV}:owns (norm x)=owns x:=by cases x<;>simp [norm,owns]
def aEd:∀(l:aWf),ownsL (l.map norm)=ownsL l
 | []=>rfl
 |x::xs=>by simp only [ET,ownsL,aFL,aEd xs]
def aer {l:aWf}{j:aWe}(h:j∈owns (Ju l)):j∈ownsL l:=by
 unfold Ju at h;split at h
 ·simp [owns] at h
 ·simp only [owns,aEd] at h;exact h
def aEo {place:aWe->aXd}:∀(parts:aWI) (cells cs:aWf),Kj place cells parts=ah cs->∀j,j∈ownsL cs->j∈ownsL cells\/∃q,q∈parts/\j∈owns q.2
 | [],cells,cs,h,j,hj=>by simp only [Kj,Ai] at h;subst h;exact .inl hj
 | (i,x)::rest,cells,cs,h,j,hj=>by
  simp only [Kj] at h;split at h
  ·rename_i off size c hp hc
   split at h
   ·rcases aEo rest _ cs h j hj with h1|⟨q,q1,q2⟩
    ·rcases adQ h1 with h2|h2
     ·grind
     ·exact .inr ⟨(i,x),AI,oa hc j h2⟩
    ·grind
   ·cases h
  ·cases h
def aeF {t:aWu}{parts:aWI}{lv:LV}(h:(Nc P t parts).all λz=>z=lv) (j:aWe) (hj:j∈owns lv):∃q,q∈parts/\j∈owns q.2:=by
 unfold Nc at h;split at h
 ·split at h
  ·rename_i z pf _ _ cs hcs
   have hj':j∈ownsL cs:=by
    rw [<-h] at hj;split at hj
    ·exact hj
    ·exact aer hj
   rcases aEo parts _ cs hcs j hj' with h1|h1
   ·rw [aDN] at h1;cases h1
   ·exact h1
  ·cases h
 ·cases h
def af2 {x:aWS}{j:aWe}(h:j∈owns (Hx G F x)):j∈ownsL F:=by
 cases x with
 |const v=>simp only [Hx,aFL] at h;exact Su h
 |tmp t=>exact Su (G:=G) (x:=.tmp t) h
 |global g=>exact Su (G:=G) (x:=.global g) h
 |func f=>exact Su (G:=G) (x:=.func f) h
def apw {ops:aWm} {n0:aWe} {done:aWe->Prop} {R:aWj} {g g':Gh} {o:aWw} {i:aWe} {lv:LV} {H1:aWi} (hI:SF n0 done R g) (hnd:∀i'∈R.erase i,i'≠i) (hs:(I7 P G Γ ops n0 i g.F g.H o).all λq=>q=(lv,H1)) (eF:g'.F=Av g.F o.dst lv) (eH:g'.H=H1):∃done',SF n0 done' (R.erase i) g':=by
 have up:∀j,(j<n0\/∃i',done i'/\j=n0+i')->j<n0\/∃i',(done i'\/i'=i)/\j=n0+i':=λj h=>by
  rcases h with h|⟨i',h1,h2⟩
  ·exact .inl h
  ·exact yC
 unfold I7 at hs;split at hs
 ·refine ⟨λi'=>done i'\/i'=i,?_⟩
  have al:∀nb:AB,owns lv=[n0+i]->H1=g.H.set (n0+i) nb->(∀j,j∈nb.owns->j∈ownsL g.F)->SF n0 (λi'=>done i'\/i'=i) (R.erase i) g':=λnb ho hH1 hcs=>by
   subst hH1;refine ⟨λj hj=>?_,λk b hb j hj=>?_,λi' hi'=>?_⟩
   ·rw [eF] at hj
    rcases pE hj with h|h
    ·exact up j<|hI.f j h
    ·grind
   ·rw [eH,IN] at hb
    split at hb
    ·split at hb
     ·simp only [Ai] at hb
      subst hb;exact up j<|hI.f j<|hcs j hj
     ·cases hb
    ·exact up j<|hI.h k b hb j hj
   ·obtain ⟨h1,b,h2⟩:=hI.dead i' (Q3 hi')
    refine ⟨λh=>h.elim h1<|hnd i' hi',b,?_⟩
    grind
  rcases aH7 (Γ:=Γ) hs with ⟨cs,t,rfl,hH1,_,hcs⟩ |⟨m,n,e,ty,l,rfl,hH1,_⟩
  ·exact al _ rfl hH1 (λj hj=>by
    unfold AB.owns at hj;simp only [Gb] at hj;exact hcs j hj)
  ·exact al _ rfl hH1 (λj hj=>by
    unfold AB.owns at hj
    simp [ownsL] at hj)
 ·split at hs
  ·rename_i hst
   refine ⟨λi'=>done i'\/i'=i,?_⟩
   have other:∀(x:LV),lv=x->H1=g.H->(∀j,j∈owns x->j∈ownsL g.F)->SF n0 (λi'=>done i'\/i'=i) (R.erase i) g':=λx e1 e2 e3=>by
    subst e1 e2;refine ⟨λj hj=>?_,λk b hb j hj=>?_,λi' hi'=>?_⟩
    ·rw [eF] at hj
     rcases pE hj with h|h
     ·exact up j<|hI.f j h
     ·exact up j<|hI.f j<|e3 j h
    ·rw [eH] at hb;exact up j<|hI.h k b hb j hj
    ·obtain ⟨h1,b,h2⟩:=hI.dead i' (Q3 hi')
     grind
   unfold Py at hst;split at hst
   ·rename_i t x y ho
    unfold Ax at hs;simp only [ho] at hs;obtain ⟨H2,h1,h2⟩:=T.B8 hs;obtain ⟨rfl,rfl⟩:=h2;obtain ⟨k,b,nb,q1,q2,q3⟩:=ae9 h1;subst q2;refine ⟨λj hj=>?_,λk' b' hb j hj=>?_,λi' hi'=>?_⟩
    ·rw [eF] at hj
     rcases pE hj with h|h
     ·exact up j<|hI.f j h
     ·simp [owns] at h
    ·rw [eH,IN] at hb
     split at hb
     ·split at hb
      ·simp only [Ai] at hb
       subst hb;rcases q3 j hj with h|h
       ·exact up j<|hI.h k b q1 j h
       ·exact up j<|hI.f j<|Su h
      ·cases hb
     ·exact up j<|hI.h k' b' hb j hj
    ·obtain ⟨h1,b0,h2⟩:=hI.dead i' (Q3 hi')
     refine ⟨λh=>h.elim h1<|hnd i' hi',?_⟩
     rw [eH]
     grind
   ·exact aNI
   ·exact aNI
   ·rename_i t parts ho
    unfold Ax at hs;simp only [ho] at hs;obtain ⟨y,h1,h2⟩:=T.B8 hs;simp only [T.all,B0] at h2;refine other _ h2.1.symm h2.2.symm λj hj=>?_
    obtain ⟨q,q1,q2⟩:=aeF h1 j hj;obtain ⟨q0,_,rfl⟩:=F5.1 q1;exact af2 q2
   ·cases hst
  ·split at hs
   ·rename_i hap
    obtain ⟨d,k,es,off,n,e0,q0,t,tx,_,hl,_,_,ho⟩:=aE1 (P:=P) (Γ:=Γ) hap;rcases ho with ho|ho
    ·obtain ⟨f,f1,_,hf⟩:=adF (P:=P) (t:=t) (tx:=tx) (k:=k) (es:=es) (off:=off) (n:=n) (e0:=e0) (q0:=q0)
     rw [ho,hf] at hs;split at hs
     ·rename_i p m n' e nb he
      obtain ⟨_,hs⟩:=hs;simp only [B0] at hs;obtain ⟨rfl,hH⟩:=hs
      have hnb:=f1 _ _ _ _ _ _ he
      refine ⟨λi'=>(done i'\/i'=i)\/i'=M g.H-n0,λj hj=>?_,λk' b hb j hj=>?_,λi' hi'=>?_⟩
      ·rw [eF] at hj
       rcases pE hj with h|h
       ·rcases up j (hI.f j h) with h|⟨i',h1,h2⟩
        ·exact .inl h
        ·exact yC
       ·simp only [owns,HI] at h
        grind
      ·rw [eH,<-hH] at hb
       by_cases hk:k'<M g.H
       ·rw [Hj (by rw [C3];exact hk),IN] at hb
        split at hb
        ·split at hb
         ·simp only [Ai] at hb
          subst hb
          simp [AB.owns,ownsL] at hj
         ·cases hb
        ·rcases up j (hI.h k' b hb j hj) with h|⟨i',h1,h2⟩
         ·exact .inl h
         ·exact yC
       ·rw [GY (by rw [C3];omega)] at hb
        have:b=nb:=by
         cases hq:k'-M (g.H.set k ⟨[],e,.dead,X⟩) with
         |zero=>rw [hq] at hb;simpa using hb.symm
         |succ z=>rw [hq] at hb;simp at hb
        subst this;rw [hnb] at hj;cases hj
      ·obtain ⟨h1,b,h2⟩:=hI.dead i' (Q3 hi')
       have hlt:=(EE.1 h2).1
       refine ⟨λh=>h.elim (λh=>h.elim h1<|hnd i' hi') λh=>A0,?_⟩
       rw [eH,<-hH]
       grind
     ·exact hs.elim
    ·rw [ho] at hs
     cases hs
   ·cases hs
def aF3 (hΓ:∀g S,Γ g=ah S->Valid P G g S) {ops:aWm}{tr:aWj}{D:aWq->Prop}{sp:aWe->aWo}{Q:aWD->Gh->Prop}{F':aWf}{H':aWi}(hgh:∀p,p∈Z0.gh->okV (M H) p.1)
  (hQ:∀g:Gh,g.F=F'->g.H=H'->Q g.a g):∀(n:aWe) (R:aWj) (listed:aWy) (g:Gh) (done:aWe->Prop),Ox R=U->SF (M H) done R g->(∀i∈R,sp i=U)->bY ops n R listed=U->
   (G8 P G Γ ops tr (M H) R g.F g.H).all (λq=>q=(F',H'))->KZ P .any ops D (Cf ds G w0 Z0 tr β H wr) sp Q n listed g.a g
 |0,R,listed,g,_,_,_,_,hB,h=>by
  simp only [bY,AY,Zm] at hB;obtain ⟨rfl,h2⟩:=hB;simp only [G8,T.all,B0] at h;exact ⟨h2,hQ g h.1 h.2⟩
 | n + 1,R,listed,g,done,hnd,hI,hs,hB,h=>by
  simp only [bY,AY,BO,D2,lg] at hB;obtain ⟨hne,hall⟩:=hB;refine ⟨λh0=>absurd h0 hne,λi hi=>?_⟩
  obtain ⟨⟨hR,hbef⟩,hrest⟩:=hall i hi
  have hiR:i∈R:=A8
  have hf:=aEs R g.F g.H hiR A8 h
  simp only [G8] at hf;split at hf
  ·rename_i o ho
   split at hf
   ·rename_i hgs
    simp only [AY,Ze] at hgs;obtain ⟨hgd,hst⟩:=hgs
    have hw:az o (yielded ops g.a.tmps)=true:=yK
    unfold EB;simp only [ho,hw,Bp,hs i hiR];obtain ⟨⟨lv,H1⟩,h1,h2⟩:=T.B8 hf
    have hne2:∀i'∈R.erase i,i'≠i:=adK hnd
    intro w' hc
    have goal:Di P (λv w''=>∃g':Gh,Cf ds G w0 Z0 tr β H wr g' w''/\g'.F=Av g.F o.dst lv/\g'.H=H1/\g'.a=g.a.put o.dst v) ((execOp g.a.eval o).run P w'):=by
     unfold I7 at h1;split at h1
     ·exact ajX hΓ hgh hI hiR hst h1 hc
     ·split at h1
      ·exact cz hΓ hst h1 hc
      ·split at h1
       ·exact cz hΓ hst h1 hc
       ·cases h1
    refine KM (λv w'' ⟨g',e1,e2,e3,e4⟩=>⟨g',e1,?_⟩) goal
    rw [<-e4];obtain ⟨done',hI'⟩:=apw hI hne2 h1 e2 e3;refine aF3 hΓ hgh hQ n (R.erase i) _ g' done' (aEV hnd) hI' (λj hj=>hs j<|Q3 hj) hrest ?_
    rwa [e2,e3]
   ·cases hf
  ·cases hf
def RW.aaJ {βd:aWe->aWU}{m:aWe}(hW:RW G w0 Z0 Z β H w) (hd:∀k,k<M H->βd k=β k):RW G w0 Z0 Z βd (H++aq m GG) w:=by
 have old:∀(k:aWe) (b:AB),(H++aq m GG)[k]? =ah b->(k<M H/\H[k]? =ah b)\/b=GG:=λk b hb=>by
  by_cases h0:k<M H
  ·grind
  ·rw [GY A0,V9] at hb
   split at hb
   ·grind
   ·cases hb
 have nl:∀k,¬live βd k GG:=λk h=>by simp [live,GG] at h
 refine ⟨hW.below,hW.Bc,hW.Et,λk b hk hl hp=>?_,λk b hk hl hp=>?_,λk b hk hl=>?_,λi j bi bj hi hj li lj pi e=>?_,λk b hk=>?_,hW.Cb,λp hp=>⟨R.mono hd (λ_ h=>h) (λ_ _=>rfl) _ _ (hW.gh p hp).2 (hW.gh p hp).1,okV.mono AI _ (hW.gh p hp).2⟩,hW.Cr⟩
 ·rcases old k b hk with ⟨h1,h2⟩ |rfl
  ·rw [hd k h1];rw [KX<|hd k h1] at hl;exact hW.Cp k b h2 hl hp
  ·grind
 ·rcases old k b hk with ⟨h1,h2⟩ |rfl
  ·rw [hd k h1];rw [KX<|hd k h1] at hl;exact hW.GL k b h2 hl hp
  ·grind
 ·rcases old k b hk with ⟨h1,h2⟩ |rfl
  ·rw [hd k h1];rw [KX<|hd k h1] at hl;exact hW.low k b h2 hl
  ·grind
 ·rcases old i bi hi with ⟨h1,h2⟩ |rfl
  ·rcases old j bj hj with ⟨g1,g2⟩ |rfl
   ·rw [KX<|hd i h1] at li;rw [KX<|hd j g1] at lj;rw [hd i h1,hd j g1] at e
    exact hW.inj i j bi bj h2 g2 li lj pi e
   ·grind
  ·grind
 ·rcases old k b hk with ⟨h1,h2⟩ |rfl
  ·obtain ⟨g1,g2⟩:=hW.blk k b h2
   exact ⟨g1.keep hd (λ_ h=>h) (λ_ _=>rfl) (hd k h1) (λ_=>rfl) g2,g2.mono AI⟩
  ·exact ⟨by simp [BZ,GG],ak,ak⟩
def aGJ (hΓ:∀g S,Γ g=ah S->Valid P G g S) {ops:aWm} {Q:aW4->aWD->aWq->Prop} {F':aWf} {H':aWi} (hQ:∀Z' β' a' w',RW G w0 Z0 Z' β' H' w'->RF ds β' Z' w' (M H') F' a'->Q .normal a' w')
  (hW0:RW G w0 Z0 Z β H w) (hF0:RF ds β Z w (M H) F a) (h:(jP P G Γ ops F H).all λq=>q=(F',H')) (r:aWG) (m:aWe):P.follows .mixedOrders=U/\wpAnyIn (Dd r) m P .any ops Q ops.size (Array.replicate ops.size X) a {w with drawn:=w.drawn+1}:=by
 unfold jP at h;simp only at h;split at h
 ·rename_i hc
  simp only [AY] at hc;obtain ⟨⟨hcalm,hmix⟩,htr0⟩:=hc;generalize hfl:dY _ [] ops.toList=flags at h hcalm;generalize htrd:tracked H ops.toList F=tr at h htr0
  have htr:∀k∈tr,k<M H:=λk hk=>yO
  obtain ⟨⟨F1,H1⟩,h1,h2⟩:=T.B8 h
  have hk:=W2 (P:=P) (G:=G) (Γ:=Γ) (H:=H) (tr:=tr) (Hm:=Eo tr 0 H) (F0:=F) flags ops.toList F (λ_ h=>h) ⟨rfl,λ_ _=>rfl⟩
  obtain ⟨⟨F2,H2⟩,g1,g2,g3⟩:=Oe hk h1
  have hH2:H2=H:=(T.Qm hk g1).2.2
  subst hH2
  have hbd:Below w.heap.size w {w with drawn:=w.drawn+1}:=⟨rfl,rfl,rfl,At _,λ_ _=>rfl⟩
  have hW:=hW0.same hbd
  have hF:RF ds β Z {w with drawn:=w.drawn+1} (M H2) F a:=hF0.mono (At _) (λ_ _=>rfl) (λ_ h=>h) λ_ _=>rfl
  have hflen:M flags=M ops.toList:=by
   unfold jT at hcalm;exact xw
  have hops:ops=ops.toList.toArray:=AI
  have hshp0:Shp tr β H2 {w with drawn:=w.drawn+1}:=λk b _ hb hcl=>by
   exact xj
  refine ⟨hmix,?_⟩;rw [hops]
  refine adz (P:=P) (G:=Gh) (D:=λw'=>DX (DZ β H2 tr) {w with drawn:=w.drawn+1} w'/\Below w0.heap.size w0 w'/\Shp tr β H2 w') (C:=λg w'=>Cf ds G w0 Z0 tr β H2 {w with drawn:=w.drawn+1} g w') flags ⟨Z,β,H2,F,a⟩ ye (λg w' hc=>⟨hc.near,hc.rw.below,hc.shape⟩) (λg w1 w2 hc hb=>hc.keep hb)
   ⟨hW,hF,DX.refl _ _,At _,λ_ _=>rfl,λk k1 k2=>absurd k2<|VL.2 k1,EvL.refl _⟩ ?_
  rw [<-hops]
  have hlm:M (Eo tr 0 H2)=M H2:=Vl tr H2 0
  have hDm:∀w',(DX (DZ β H2 tr) {w with drawn:=w.drawn+1} w'/\Below w0.heap.size w0 w'/\Shp tr β H2 w')->RW G w0 Z0 Z β (Eo tr 0 H2) w'/\∀b,(Z b\/∃k bk,(Eo tr 0 H2)[k]? =ah bk/\live β k bk/\tr.contains k=X/\b=(β k).b)->w'.heap[b]? =({w with drawn:=w.drawn+1}:aWq).heap[b]? :=λw' ⟨d1,d2,d3⟩=>by
   exact xR
  refine WA (H:=H2) (HH:=H2) (F':=F2) hΓ hlm (hW.mask (DX.refl _ _) hW.below hshp0) hDm (λa1 hF1=>?_) flags ops.toList F a hflen hF g1
  have hF1':=g3 _ _ _ _ _ _ hF1
  refine pO (Q':=λa' w'=>Q .normal a' w') (g1:=⟨Z,β,H2,F1,a1⟩) (λw' hc=>?_) flags ops.toList a1 ?_
  ·exact aMT
  ·exact pq (H:=H2) (F':=F') (H':=H') hΓ (λg e1 e2 w' hc=>hQ g.Z g.β g.a w' bB aM) flags ops.toList ⟨Z,β,H2,F1,a1⟩ hflen ⟨_,hW,hF1',DX.refl _ _,At _,λ_ _=>rfl,λk k1 k2=>absurd k2<|VL.2 k1,EvL.refl _⟩ h2
 ·split at h
  ·rename_i hc
   simp only [AY] at hc;obtain ⟨⟨hcalm,hmix⟩,htr0⟩:=hc
   replace hord:(X1 ops _ ||gw P ops _)=true:=hcalm
   replace hcalm:=(SV.1 hcalm).elim (λe=>by unfold X1 at e;exact (Bool.and_eq_true_iff.1 e).1) (λe=>by unfold gw at e;exact (Bool.and_eq_true_iff.1 e).1)
   generalize hfl:dY _ [] ops.toList=flags at h hcalm hord;generalize htrd:tracked H ops.toList F=tr at h htr0
   have htr:∀k∈tr,k<M H:=λk hk=>yO
   obtain ⟨⟨F1,H1⟩,h1,h2⟩:=T.B8 h
   have hk:=W2 (P:=P) (G:=G) (Γ:=Γ) (H:=H) (tr:=tr) (Hm:=Eo tr 0 H) (F0:=F) flags ops.toList F (λ_ h=>h) ⟨rfl,λ_ _=>rfl⟩
   obtain ⟨⟨F2,H2⟩,g1,g2,g3⟩:=Oe hk h1
   have hH2:H2=H:=(T.Qm hk g1).2.2
   subst hH2
   have hbd:Below w.heap.size w {w with drawn:=w.drawn+1}:=⟨rfl,rfl,rfl,At _,λ_ _=>rfl⟩
   have hW:=hW0.same hbd
   have hF:RF ds β Z {w with drawn:=w.drawn+1} (M H2) F a:=hF0.mono (At _) (λ_ _=>rfl) (λ_ h=>h) λ_ _=>rfl
   have hflen:M flags=M ops.toList:=by
    unfold Tc at hcalm;exact xw
   have hops:ops=ops.toList.toArray:=AI
   have hshp0:Shp tr β H2 {w with drawn:=w.drawn+1}:=λk b _ hb hcl=>by
    exact xj
   refine ⟨hmix,?_⟩;rw [hops]
   refine adD (P:=P) (G:=Gh) (D:=λw'=>DX (DZ β H2 tr) {w with drawn:=w.drawn+1} w'/\Below w0.heap.size w0 w'/\Shp tr β H2 w') (C:=λg w'=>Cf ds G w0 Z0 tr β H2 {w with drawn:=w.drawn+1} g w') flags ⟨Z,β,H2,F,a⟩ ye (λg w' hc=>⟨hc.near,hc.rw.below,hc.shape⟩) (λg w1 w2 hc hb=>hc.keep hb)
    ⟨hW,hF,DX.refl _ _,At _,λ_ _=>rfl,λk k1 k2=>absurd k2<|VL.2 k1,EvL.refl _⟩ ?_
   rw [<-hops]
   have hlm:M (Eo tr 0 H2)=M H2:=Vl tr H2 0
   have hDm:∀w',(DX (DZ β H2 tr) {w with drawn:=w.drawn+1} w'/\Below w0.heap.size w0 w'/\Shp tr β H2 w')->RW G w0 Z0 Z β (Eo tr 0 H2) w'/\∀b,(Z b\/∃k bk,(Eo tr 0 H2)[k]? =ah bk/\live β k bk/\tr.contains k=X/\b=(β k).b)->w'.heap[b]? =({w with drawn:=w.drawn+1}:aWq).heap[b]? :=λw' ⟨d1,d2,d3⟩=>by
    exact xR
   refine WA (H:=H2) (HH:=H2) (F':=F2) hΓ hlm (hW.mask (DX.refl _ _) hW.below hshp0) hDm (λa1 hF1=>?_) flags ops.toList F a hflen hF g1
   have hF1':=g3 _ _ _ _ _ _ hF1
   refine cX (Q':=λa' w'=>Q .normal a' w') (g1:=⟨Z,β,H2,F1,a1⟩) (λw' hc=>?_) _ _ a1 ?_
   ·exact aMT
   ·cases hfx:X1 ops flags with
    | true=>
     rw [AD hfx] at h2
     have hord2:=hfx
     unfold X1 at hord2;simp only [AY,Cj] at hord2
     exact aDP (H:=H2) (F':=F') (H':=H') hΓ (λg e1 e2 w' hc=>hQ g.Z g.β g.a w' bB aM) _ (idxs U flags 0) _ ⟨Z,β,H2,F1,a1⟩ (λi hi=>by
      obtain ⟨_,h⟩:=pA U flags 0 i hi;simp only [Nat.sub_zero] at h
      simp [List.getD,h]) (hord2.2.elim aRH id) h2
    |false=>
     rw [AE (by rw [hfx];decide)] at h2
     rw [hfx,D4] at hord;unfold gw at hord;simp only [AY,BO] at hord;exact adG (H:=H2) (F':=F') (H':=H') hΓ (λg e1 e2 w' hc=>hQ g.Z g.β g.a w' bB aM) _ (UE ops<|idxs U flags 0) _ ⟨Z,β,H2,F1,a1⟩ (λi hi=>hord.2.1 i hi) hord.2.2 h2
  ·split at h
   ·rename_i hc
    simp only [AY] at hc;obtain ⟨⟨hcalm,hmix⟩,htr0⟩:=hc;unfold alx at hcalm;simp only [AY] at hcalm;obtain ⟨⟨⟨hcalm,hnd⟩,hlt⟩,hord⟩:=hcalm;generalize hfl:dY _ [] ops.toList=flags at h hcalm hord hnd hlt;generalize htrd:tracked H ops.toList F=tr at h htr0
    have htr:∀k∈tr,k<M H:=λk hk=>yO
    obtain ⟨⟨F1,H1⟩,h1,h2⟩:=T.B8 h
    have hk:=W2 (P:=P) (G:=G) (Γ:=Γ) (H:=H) (tr:=tr) (Hm:=Eo tr 0 H) (F0:=F) flags ops.toList F (λ_ h=>h) ⟨rfl,λ_ _=>rfl⟩
    obtain ⟨⟨F2,H2⟩,g1,g2,g3⟩:=Oe hk h1
    have hH2:H2=H:=(T.Qm hk g1).2.2
    subst hH2
    have hbd:Below w.heap.size w {w with drawn:=w.drawn+1}:=⟨rfl,rfl,rfl,At _,λ_ _=>rfl⟩
    have hW:=hW0.same hbd
    have hF:RF ds β Z {w with drawn:=w.drawn+1} (M H2) F a:=hF0.mono (At _) (λ_ _=>rfl) (λ_ h=>h) λ_ _=>rfl
    have hflen:M flags=M ops.toList:=by
     unfold Tc at hcalm;exact xw
    have hops:ops=ops.toList.toArray:=AI
    have hshp0:Shp tr β H2 {w with drawn:=w.drawn+1}:=λk b _ hb hcl=>by
     exact xj
    refine ⟨hmix,?_⟩;rw [hops]
    refine adD (P:=P) (G:=Gh) (D:=λw'=>DX (DZ β H2 tr) {w with drawn:=w.drawn+1} w'/\Below w0.heap.size w0 w'/\Shp tr β H2 w') (C:=λg w'=>Cf ds G w0 Z0 tr β H2 {w with drawn:=w.drawn+1} g w') flags ⟨Z,β,H2,F,a⟩ ye (λg w' hc=>⟨hc.near,hc.rw.below,hc.shape⟩) (λg w1 w2 hc hb=>hc.keep hb)
     ⟨hW,hF,DX.refl _ _,At _,λ_ _=>rfl,λk k1 k2=>absurd k2<|VL.2 k1,EvL.refl _⟩ ?_
    rw [<-hops]
    have hlm:M (Eo tr 0 H2)=M H2:=Vl tr H2 0
    have hDm:∀w',(DX (DZ β H2 tr) {w with drawn:=w.drawn+1} w'/\Below w0.heap.size w0 w'/\Shp tr β H2 w')->RW G w0 Z0 Z β (Eo tr 0 H2) w'/\∀b,(Z b\/∃k bk,(Eo tr 0 H2)[k]? =ah bk/\live β k bk/\tr.contains k=X/\b=(β k).b)->w'.heap[b]? =({w with drawn:=w.drawn+1}:aWq).heap[b]? :=λw' ⟨d1,d2,d3⟩=>by
     exact xR
    refine WA (H:=H2) (HH:=H2) (F':=F2) hΓ hlm (hW.mask (DX.refl _ _) hW.below hshp0) hDm (λa1 hF1=>?_) flags ops.toList F a hflen hF g1
    have hF1':=g3 _ _ _ _ _ _ hF1
    have d1:∀k,k<M H2->(λk=>if k<M H2 then β k else ⟨w.heap.size,0,aj⟩:aWe->aWU) k=β k:=λk hk=>by simp [hk]
    have d2:∀k,M H2<=k->((λk=>if k<M H2 then β k else ⟨w.heap.size,0,aj⟩:aWe->aWU) k).b=w.heap.size:=λk hk=>by simp [VL.2 hk]
    generalize (λk=>if k<M H2 then β k else ⟨w.heap.size,0,aj⟩:aWe->aWU)=βd at d1 d2
    refine cX (Q':=λa' w'=>Q .normal a' w') (g1:=⟨Z,βd,H2++aq ops.size GG,F1,a1⟩) (λw' hc=>?_) _ _ a1 ?_
    ·refine ⟨hc.rw.aaJ d1,?_,hc.near,AI,λk hk=>d1 k hk,λk k1 k2=> .inl (by rw [d2 k k1];exact At _),EvL.app _ _⟩
     exact hF1'.mono AI d1 (λ_ h=>h) λb hz=>hc.near.block b (hW.Bc b hz)<|hW.ox hz
    ·refine aF3 (H:=H2) (F':=F') (H':=H') hΓ (λp hp=>(hW.gh p hp).2) (λg e1 e2 w' hc=>hQ g.Z g.β g.a w' bB aM) _ (idxs U flags 0) _ ⟨Z,βd,H2++aq ops.size GG,F1,a1⟩ (λ_=>False) hnd ⟨λj hj=>?_,λk b hb j hj=>?_,λi hi=>⟨λh=>h,?_⟩⟩ (λi hi=>by
      obtain ⟨_,h⟩:=pA U flags 0 i hi;simp only [Nat.sub_zero] at h
      simp [List.getD,h]) hord h2
     ·obtain ⟨x,q1,q2⟩:=dB hj
      obtain ⟨t',q3⟩:=List.getElem?_of_mem q1;exact .inl<|okV_owns x (hF1'.get t' x q3).2 j q2
     ·by_cases h0:k<M H2
      ·simp only at hb
       rw [Hj h0] at hb;exact .inl<|aFv (hW.blk k b hb).2 j hj
      ·simp only at hb
       rw [GY A0,V9] at hb;split at hb
       ·simp only [Ai] at hb
        subst hb
        simp [AB.owns,GG,ownsL] at hj
       ·cases hb
     ·have hlt':i<ops.size:=by simpa using BO.1 hlt i hi
      exact ⟨_,Dg DD⟩
   ·cases h
def aEa {α:Type}{f:aWe->T α}{n:Y}{p:α->Prop}:∀(m j:aWe),(splitN f n m j).all p->(j:Y)<=n->n<(j:Y)+m->∃i:aWe,n=(i:Y)/\(f i).all p
 |0,j,_,h1,h2=>A0
 |1,j,h,h1,h2=>⟨j,A0,h⟩
 |m+2,j,h,h1,h2=>by
  simp only [splitN,T.all] at h
  by_cases e:n=(j:Y)
  ·grind
  ·exact aEa (m+1) (j+1) (h.2 A8) A0 A0
def ads {ops:aWL}{s len:aWe}{k:aWW}{n:Y}(h:rK P ops F=ah (s,k,n,len)):F.getD s .junk=.v (ag k n):=by
 unfold rK at h;split at h
 ·obtain ⟨o,_,ho⟩:=List.exists_of_findSome?_eq_some h
  split at ho
  ·split at ho
   ·split at ho
    ·rename_i hx
     obtain ⟨rfl,rfl,rfl,rfl⟩:=ho;exact hx
    ·cases ho
   ·cases ho
  ·cases ho
 ·cases h
def aFC (hΓ:∀g S,Γ g=ah S->Valid P G g S) {ops:aWm}{Q:aW4->aWD->aWq->Prop}{F':aWf}{H':aWi}(hQ:∀Z' β' a' w',RW G w0 Z0 Z' β' H' w'->RF ds β' Z' w' (M H') F' a'->Q .normal a' w')
  (hW0:RW G w0 Z0 Z β H w) (hF0:RF ds β Z w (M H) F a) (h:(Xh P G Γ ops F H).all λq=>q=(F',H')) (r:aWG) (m:aWe):P.follows .mixedOrders=U/\wpAnyIn (Dd r) m P .any ops Q ops.size (Array.replicate ops.size X) a {w with drawn:=w.drawn+1}:=by
 unfold Xh at h;split at h
 ·rename_i s k n len hs
  obtain ⟨⟨h0,h1⟩,h2⟩:=h;obtain ⟨i,hi,h3⟩:=aEa len 0 h2 A0 A0
  have hx:=ads hs
  obtain ⟨s1,s2⟩:=hF0.slot hx AI
  have hv:=(hF0.get s _ s1).1
  exact aGJ hΓ hQ hW0 (hF0.know (lv:=.ki k i) (by simp only [R];rw [hv,hi]) trivial) h3 r m
 ·exact aGJ hΓ hQ hW0 hF0 h r m
def aeJ (hΓ:∀g S,Γ g=ah S->Valid P G g S) {id:aWe}{ops:aWm}{Q:aW4->aWD->aWq->Prop}{F':aWf}{H':aWi}(hQ:∀Z' β' a' w',RW G w0 Z0 Z' β' H' w'->RF ds β' Z' w' (M H') F' a'->Q .normal a' w')
  (hW0:RW G w0 Z0 Z β H w) (hF0:RF ds β Z w (M H) F a) (h:(Xh P G Γ ops F H).all λq=>q=(F',H')) (r:aWG) (m:aWe):(Code.region id ops U).wpIn (Dd r) m P Q a w:=
 have h1:=aFC hΓ hQ hW0 hF0 h r m
 wpIn_region_any h1.1 h1.2
def adi {ops:aWm}{o:aWw}(h:pw G Γ ops=ah o):∃ys:aWm,ops=ys.push o/\ops.pop=ys/\o.guard=aj/\lastB .any ys o=true:=by
 unfold pw at h;split at h
 ·rename_i o' hb
  split at h
  ·split at h
   ·cases h
   ·split at h
    ·rename_i hl
     obtain rfl:=EF h;obtain ⟨ys,rfl⟩:=Array.back?_eq_some_iff.1 hb;rw [Array.pop_push] at hl|-;refine ⟨ys,rfl,rfl,?_,hl⟩;simp only [lastB,AY] at hl
     simp_all
    ·cases h
  ·cases h
 ·cases h
def aE2 {K:aW5}(hΓ:∀g S,Γ g=ah S->Valid P G g S) (hK:FW P G K) {id:aWe}{ops:aWm}{Q:aW4->aWD->aWq->Prop}{F':aWf}{H':aWi}(hQ:∀Z' β' a' w',RW G w0 Z0 Z' β' H' w'->RF ds β' Z' w' (M H') F' a'->Q .normal a' w')
  (hW0:RW G w0 Z0 Z β H w) (hF0:RF ds β Z w (M H) F a) (h:(jQ P G Γ K ops F H).all λq=>q=(F',H')) (r:aWG) (m:aWe):(Code.region id ops U).wpIn (Dd r) m P Q a w:=by
 unfold jQ at h;split at h
 ·rename_i o ho
  obtain ⟨ys,rfl,hp,hg,hl⟩:=adi ho;rw [hp] at h;obtain ⟨⟨F1,H1⟩,h1,h2⟩:=T.B8 h;obtain ⟨⟨lv,H2⟩,h3,h4⟩:=T.B8 h2;obtain ⟨rfl,rfl⟩:=h4
  have h5:=aFC hΓ (Q:=Xl (Dd r) m P (ys.push o) Q ys.size) (λZ' β' a' w' e1 e2=>by
   show wpOpIn (Dd r) m P (ys.push o) Q ys.size (Q .normal) a' w'
   unfold wpOpIn
   have hw:az o (yielded (ys.push o) a'.tmps)=true:=aZ
   simp only [Array.getElem?_push_size,hw,Bp];exact Vu (KM (λv w' ⟨Z',β',e1,e2,e3,e4⟩=>hQ Z' β' _ w' e1<|e2.put e3 e4 o.dst)<|aDq hΓ hK e1 e2 h3) r m) hW0 hF0 h1 r m
  exact adY h5.1 hl h5.2
 ·exact aeJ hΓ hQ hW0 hF0 h r m
end Go.Sx
namespace Go.Sx
open Go Go.RowKit Go.Proofs.YtoifmkifedcnnaaGreatDoor
variable {P : Program} {G : B5} {Γ : Specs} {K : Hand} {β : Nat -> Loc} {Z : Nat -> Prop} {Z0 : Gz} {w w0 : World} {F : List LV} {H : List AB} {a : Act} {ds : List Deferred}
def apY {ops:aWm}{o:aWw}{t:Tmp}(h:Operand.tmp t∈o.op.operands):t∈o.looksAt ops:=by
 exact List.mem_append_left _<|SW.2 ⟨.tmp t,A8,rfl⟩
def oZ {ops:aWm}{F F':aWf}{o:aWw}(h:∀t,t∈o.looksAt ops->F.getD t .junk=F'.getD t .junk) {x:aWS}(hx:x∈o.op.operands):AL G F x=AL G F' x:=by
 cases x with
 |tmp t=>exact h t (apY hx)
 |const _=>rfl
 |global _=>rfl
 |func _=>rfl
def af6 {ops:aWm}{F F':aWf}{o:aWw}(hs:∀cs b,o.op≠ .select cs b) (h:∀t,t∈o.looksAt ops->F.getD t .junk=F'.getD t .junk):Dk P G F o=Dk P G F' o:=by
 have e:∀x∈o.op.operands,AL G F x=AL G F' x:=λx hx=>oZ h hx
 unfold Dk
 have e1:o.op.operands.toList.all (λx=>S8<|AL G F x)=o.op.operands.toList.all (λx=>S8<|AL G F' x):=by
  grind
 have e3:o.op.operands.toList.all (λx=>bZ<|AL G F x)=o.op.operands.toList.all (λx=>bZ<|AL G F' x):=by
  grind
 have e2:OI P o (λx=>(pl<|AL G F x).getD undef)=OI P o (λx=>(pl<|AL G F' x).getD undef):=by
  have c:=lz (ρ:=λx=>(pl<|AL G F x).getD undef) (ρ':=λx=>(pl<|AL G F' x).getD undef) o hs λx hx=>A8
  unfold OI;rw [c]
  have a:Qp P o.op (λx=>(pl<|AL G F x).getD undef)=Qp P o.op (λx=>(pl<|AL G F' x).getD undef):=by
   exact aN6
  rw [a]
 grind
def afj {ops:aWm}{F F':aWf}{o:aWw}(h:∀t,t∈o.looksAt ops->F.getD t .junk=F'.getD t .junk):Ii P G Γ F o=Ii P G Γ F' o:=by
 have e:=λx hx=>oZ (G:=G) h (x:=x) hx
 unfold Ii;split
 ·rename_i t len parts ho
  have em:(parts.toList.map λq=>(q.1,AL G F q.2))=parts.toList.map λq=>(q.1,AL G F' q.2):=Jg λq hq=>by
   rw [e q.2 yJ]
  rw [em]
 ·rename_i f args ty ho
  have e1:=e f aOS
  have e2:(args.toList.map λx=>norm<|AL G F x)=args.toList.map λx=>norm (AL G F' x):=Jg λx hx=>by
   rw [e x aT]
  rw [e1,e2]
 ·rfl
def aDj {ops:aWm}{F F':aWf}{o:aWw}(h:∀t,t∈o.looksAt ops->F.getD t .junk=F'.getD t .junk):hwx P G Γ F H o=hwx P G Γ F' H o:=by
 have e:=λx hx=>oZ (G:=G) h (x:=x) hx
 unfold hwx;cases ho:o.op<;>simp only
 case binOp op t x y u=>cases op<;>simp only<;>exact af6 (ops:=ops) (λcs b q=>A8) h
 case call c=>exact afj (ops:=ops) h
 all_goals rw [e _ FT]
def aeu {o:aWw}{g:aWF}{l:aWf}(h:callOf G [] o=ah (g,l)):∃f args ty,o.op=.call {callee:=.value f,args,argTypes:=ty}/\∀F:aWf,AL G F f=AL G [] f:=by
 obtain ⟨f,args,ty,ho,hf⟩:=aDz h;refine ⟨f,args,ty,ho,λF=>?_⟩
 cases f with
 |tmp t=>
  have:AL G [] (.tmp t)=.junk:=by simp [AL]
  rcases hf with ⟨_,hf,_⟩ |⟨_,hf,_⟩ |⟨hf,_⟩<;>rw [this] at hf<;>cases hf
 |const _=>rfl
 |global _=>rfl
 |func _=>rfl
def aFI {ops:aWm}{F F':aWf}{o:aWw}{g:aWF}{l:aWf}(hc:callOf G [] o=ah (g,l)) (hg:Γ g=aj) (h:∀t,t∈o.looksAt ops->F.getD t .junk=F'.getD t .junk):KB P G Γ K F H o=KB P G Γ K F' H o:=by
 obtain ⟨f,args,ty,ho,hf⟩:=aeu hc
 have ha:args.toList.map (λx=>norm<|AL G F x)=args.toList.map (λx=>norm<|AL G F' x):=Jg λx hx=>by
  rw [oZ (G:=G) h (by rw [ho];simp [Op.operands,Call.operands];exact .inr A8)]
 have hcall:callOf G F o=callOf G F' o:=by
  unfold callOf
  grind
 have h2:∃l2,callOf G F' o=ah (g,l2):=by
  unfold callOf at hc|-;simp only [ho] at hc|-;split at hc
  ·grind
  ·grind
  ·grind
  ·cases hc
 unfold KB
 grind
def T.s7 {t:T LV}{lv:LV}{H:aWi}(h:t.all λy=>y=lv):(t.bind λy=>(T.ok (y,H):T<|LV×List AB)).all (λq=>q=(lv,H)):=by
 rw [T.all_bind];exact T.BY (λx hx=>by rw [hx];exact rfl) h
def apT {o:aWw}{lv:LV}(h:(Ii P G Γ F o).all λz=>z=lv):(Ax P G Γ F H o).all (λq=>q=(lv,H)):=by
 refine aIl ?_ h;unfold Ii at h;unfold IZ;split at h
 ·rfl
 ·rfl
 ·cases h
def atr {o:aWw}{lv:LV}(h:(hwx P G Γ F H o).all λy=>y=lv):(Ax P G Γ F H o).all (λq=>q=(lv,H)):=by
 by_cases hcl:∃c,o.op=.call c
 ·obtain ⟨c,ho⟩:=hcl
  unfold hwx at h;simp only [ho] at h;exact apT h
 unfold hwx at h;unfold Ax;cases ho:o.op<;>simp only [ho] at h|-
 case call c=>exact absurd ⟨c,ho⟩ hcl
 case move x=>simp only [T.all] at h|-;rw [h]
 case assign x=>simp only [T.all] at h|-;rw [h]
 case load t x=>exact T.s7 h
 case fieldAddr s x i=>exact T.s7 h
 case nilCheck x=>
  generalize AL G F x=v at h|-;cases v<;>simp only [T.all] at h|-<;>first|rw [h] |cases h
 case binOp op t x y u=>cases op<;>simp only at h|-<;>first|exact T.s7 h|cases h
 all_goals cases h
def aDl {F:aWf}{d t:aWe}{y:LV}(hd:d<M F):(F.set d y).getD t .junk=if t=d then y else F.getD t .junk:=by
 by_cases e:t=d
 ·grind
 ·grind
def qL {ops:aWm}:∀(is:aWj) (F F1:aWf),is.Pairwise (λi j=>∀d,G0 ops j=ah d->d∉NS ops i/\G0 ops i≠ah d)->(∀i∈is,∃d,G0 ops i=ah d/\d<M F/\d∉NS ops i)->
  (goW P G Γ ops H is F).all (λz=>z=F1)->M F1=M F/\(∀t,(∀i∈is,G0 ops i≠ah t)->F1.getD t .junk=F.getD t .junk)/\∀i∈is,∀o d,ops[i]? =ah o->o.dst=ah d->(hwx P G Γ F1 H o).all (λy=>y=F1.getD d .junk)
 | [],F,F1,_,_,h=>by
  subst h
  grind
 | i ::is,F,F1,hp,hd,h=>by
  simp only [goW] at h;split at h
  ·rename_i o ho
   obtain ⟨y,h1,h2⟩:=T.B8 h;obtain ⟨d,e1,e2,e3⟩:=hd i AI
   have hod:o.dst=ah d:=by simpa [G0,ho] using e1
   obtain ⟨p1,p2⟩:=lX.1 hp
   have hset:Av F o.dst y=F.set d y:=by rw [hod];rfl
   rw [hset] at h2;obtain ⟨g1,g2,g3⟩:=qL is (F.set d y) F1 p2 (λj hj=>A8) h2
   have hFd:F1.getD d .junk=y:=by
    grind
   refine ⟨A8,λt ht=>?_,λj hj o' d' ho' hd'=>?_⟩
   ·rw [g2 t λj hj=>ht j A8,aDl e2,AE]
    grind
   ·rcases BA.1 hj with rfl|hj
    ·obtain rfl:=EF (ho.symm.trans ho')
     obtain rfl:=EF<|hod.symm.trans hd';rw [hFd,aDj (ops:=ops) (F':=F) λt ht=>?_]
     ·exact h1
     ·have hl:t∈NS ops j:=mj
      grind
    ·grind
  ·cases h
def aDy {ops:aWm}{F1:aWf}:∀(is:aWj),(bg P G Γ ops H F1 is).all (λ_=>True)->∀i∈is,∀o d t x,ops[i]? =ah o->o.dst=ah d->o.op=.load t x->(hwx P G Γ F1 H o).all (λy=>y=F1.getD d .junk)
 | [],_,i,hi=>nF
 | j ::is,h,i,hi=>λo d t x ho hd hop=>by
  simp only [bg] at h;split at h
  ·rename_i o' ho'
   split at h
   ·rename_i hop'
    rw [T.all_bind] at h;rcases BA.1 hi with rfl|hi
    ·obtain rfl:=EF (ho'.symm.trans ho)
     refine T.BY (λy hy=>?_) h
     simp only [T.all,hd] at hy;exact hy.1
    ·obtain ⟨y,hy,_⟩:=T.pick h
     exact aDy is hy.2 i hi o d t x ho hd hop
   ·rename_i hop'
    rcases BA.1 hi with rfl|hi
    ·obtain rfl:=EF (ho'.symm.trans ho)
     grind
    ·exact aDy is h i hi o d t x ho hd hop
  ·cases h
def aeC (n:aWe) (p q:aWe->aWo) (hp:∃k,k<n/\p k=U/\∀j,j<n->p j=U->j=k):n=(M ((au n).filter λi=>!p i&&!q i)+1)+M ((au n).filter λi=>!p i&&q i):=by
 obtain ⟨k,hk,hpk,hu⟩:=hp
 have h1:∀m,m<=n->m=M ((au m).filter λi=>!p i&&!q i)+(if k<m then 1 else 0)+M ((au m).filter λi=>!p i&&q i):=λm=>by
  induction m with
  |zero=>intro _;simp
  | succ m ih=>
   intro hm;rw [Se,Zu,Zu,BL,BL]
   by_cases e:m=k
   ·subst e
    grind
   ·have hpm:p m=false:=by
     cases hb:p m with
     |false=>rfl
     |true=>exact absurd (hu m A0 hb) e
    by_cases hlt:k<m
    ·have h2:k<m+1:=A0
     grind
    ·have h2:¬k<m+1:=A0
     grind
 have:=h1 n<|At _
 rw [AD hk] at this;omega
def Jf (ops:aWm) (AW:aWj) (F F2:aWf) (l:aWy):aWf:=
 (au<|M F).map λt=>if AW.any (λi=>l.getD i X&&G0 ops i==ah t) then F2.getD t .junk else F.getD t .junk
def Vp {ops:aWm}{AW:aWj}{F F2:aWf}{l:aWy}:M (Jf ops AW F F2 l)=M F:=by simp [Jf]
def dq {ops:aWm}{AW:aWj}{F F2:aWf}{l:aWy}{t:aWe}(h:t<M F):(Jf ops AW F F2 l).getD t .junk=if AW.any (λi=>l.getD i X&&G0 ops i==ah t) then F2.getD t .junk else F.getD t .junk:=by
 simp [Jf,List.getD,h]
def qu {A B:aWf}(hl:M A=M B) (h:∀t,t<M A->A.getD t .junk=B.getD t .junk):A=B:=by
 apply Zn hl
 grind
def aId {A:aWf}{t:aWe}(h:M A<=t):A.getD t .junk=.junk:=A8
def aDU {ops:aWm}{l:aWy}{i j:aWe}(hc:Closed .any ops l) (hr:i∈ay .any ops l) (hj:j∈Gr ops i):l.getD j X=true:=by
 obtain ⟨_,o,ho,h2⟩:=F7.1 hr;refine hc.back ops.size (OK ops i) (λk hk=>?_) j hj
 unfold OK at hk
 grind
def ae1 {ops:aWm}{l:aWy}{i j:aWe}(hc:Closed .any ops l) (hi:l.getD i X=U) (hlt:i<ops.size) (hj:j∈Gr ops i):l.getD j X=true:=by
 refine hc.back ops.size (OK ops i) (λk hk=>?_) j hj
 unfold OK at hk;rw [Q8 hlt] at hk;obtain ⟨e,h3,rfl⟩:=F5.1 hk;obtain ⟨h4,h5⟩:=CS.1 h3;exact hc i _ (Q8 hlt) hi e A8 h5
def ae2 {α:Type}(l:List α) (p q:α->aWo):M (l.filter p)=M (l.filter λi=>p i&&q i)+M (l.filter λi=>p i&&!q i):=by
 induction l with
 |nil=>rfl
 |cons x l ih=>
  grind
def afQ (hΓ:∀g S,Γ g=ah S->Valid P G g S) (hK:FW P G K) {ops:aWm} {wi:aWe} {Q:aW4->aWD->aWq->Prop} {F':aWf} {H':aWi} (hQ:∀Z' β' a' w',RW G w0 Z0 Z' β' H' w'->RF ds β' Z' w' (M H') F' a'->Q .normal a' w')
  (hwi:aPy G Γ ops=ah wi) (hW0:RW G w0 Z0 Z β H w) (hF0:RF ds β Z w (M H) F a) (h:(aBN P G Γ K ops wi F H).all λq=>q=(F',H')) (r:aWG) (m:aWe):P.follows .mixedOrders=U/\wpAnyIn (Dd r) m P .any ops Q ops.size (Array.replicate ops.size X) a {w with drawn:=w.drawn+1}:=by
 unfold aBN at h;split at h
 case isFalse=>cases h
 rename_i hc;simp only [AY,Cj] at hc;obtain ⟨⟨⟨hok,hmix⟩,hbl⟩,hord⟩:=hc
 have hbl:M (JJ ops wi)=M (Jr ops wi):=by simpa using hbl
 have hord:Ls ops (M<|JJ ops wi) (JJ ops wi) (KY ops wi)=true:=hord.elim aRH id
 refine ⟨hmix,?_⟩;split at h
 case h_2=>cases h
 rename_i ow how;obtain ⟨F1,h1,h⟩:=T.B8 h;obtain ⟨⟨lvW,H1⟩,h2,h⟩:=T.B8 h;obtain ⟨_,h3,h⟩:=T.B8 h;obtain ⟨F3,h5,h4⟩:=T.B8 h;simp only at h3 h4 h5
 obtain ⟨gW,lW,hcW,hgW⟩:∃g l,callOf G [] ow=ah (g,l)/\Γ g=none:=by
  have:=List.find?_some hwi
  simp only [how] at this;split at this
  ·rename_i g l e;exact ⟨g,l,e,by simpa using this⟩
  ·cases this
 have hwlt:wi<ops.size:=(Hk.1 how).1
 generalize hA:Qr ops wi=A at*
 have hAm:∀i,i∈A↔i<ops.size/\i≠wi/\wi∉Gr ops i:=λi=>by
  rw [<-hA];unfold Qr;simp
 generalize hC:R4 ops wi=C at*
 have hCm:∀i,i∈C↔i<ops.size/\i≠wi/\wi∈Gr ops i/\allA ops wi i=false:=λi=>by
  rw [<-hC];unfold R4;simp
 have hPW:iZ ops wi=A++([wi]++C):=by unfold iZ;rw [hA,hC]
 unfold okW at hok;rw [hPW,hA,hC] at hok;generalize hAWd:A++([wi]++C)=AW at*;simp only [AY,BO] at hok;obtain ⟨hAW,hB,hNL⟩:=hok
 have hAWm:∀i,i∈AW↔i∈A\/i=wi\/i∈C:=λi=>by rw [<-hAWd];simp
 have cNL:∀i,(i∈A\/i=wi)->∀j,(j=wi\/j∈C)->∀d,G0 ops j=ah d->d∉NS ops i:=λi hi j hj d hd hm=>by
  have:=hNL i (by simpa using hi) j bH
  unfold aRu at this;simp only [hd] at this
  simp [hm] at this
 have cDst:∀i∈AW,∃o d,ops[i]? =ah o/\o.guard=aj/\o.dst=ah d/\G0 ops i=ah d/\d<M F:=λi hi=>by
  obtain ⟨⟨⟨g1,g2⟩,_⟩,_⟩:=hAW i hi;cases ho:ops[i]? with
  |none=>simp [ho] at g1
  | some o=>
   simp only [ho,Ze] at g1;cases hd:G0 ops i with
   |none=>simp [hd] at g2
   |some d=>
    simp only [hd,Aa] at g2;exact ⟨o,d,rfl,g1,by simpa [G0,ho] using hd,rfl,g2⟩
 have cOns:∀i∈AW,∀p∈OK ops i,p<i/\p∈AW:=λi hi p hp=>by
  obtain ⟨⟨_,g3⟩,_⟩:=hAW i hi
  simpa using g3 p hp
 have cLay:∀i∈AW,∀j∈AW,∀d,G0 ops j=ah d->(i=j\/G0 ops i≠ah d)/\(d∈NS ops i->i≠j/\j<i/\j∈Gr ops i):=λi hi j hj d hd=>by
  obtain ⟨_,g4⟩:=hAW i hi
  have:=g4 j hj
  unfold abQ at this;simp only [hd,AY,Cj,D2,CQ,D3,Aa,ne_eq,Zq] at this;refine ⟨this.1,λhm=>?_⟩
  rcases this.2 with g|g
  ·exact absurd hm<|by simpa using g
  ·exact ⟨g.1.1,g.1.2,by simpa using g.2⟩
 have hwA:wi∈AW:=(hAWm wi).2<|.inr<|.inl rfl
 have hAA:∀i∈A,i∈AW:=λi hi=>(hAWm i).2<|.inl hi
 have hCA:∀i∈C,i∈AW:=λi hi=>(hAWm i).2<|.inr<|.inr hi
 obtain ⟨_,dw,how',hgw,hdw,hdwI,hdwlt⟩:=cDst wi hwA;obtain rfl:=EF<|how.symm.trans how'
 have hAnd:A.Pairwise (λi j=>i<j):=by
  rw [<-hA];unfold Qr;exact (List.pairwise_lt_range).filter _
 obtain ⟨k1,k2,k3⟩:=qL A F F1 (hAnd.imp_of_mem λ{i j} hi hj hlt d hd=>by
   obtain ⟨q1,q2⟩:=cLay i (hAA i hi) j (hAA j hj) d hd;exact ⟨λhm=>aPf,q1.resolve_left A0⟩) (λi hi=>by
   obtain ⟨o,d,_,_,_,e1,e2⟩:=cDst i<|hAA i hi;exact ⟨d,e1,e2,λhm=>((cLay i (hAA i hi) i (hAA i hi) d e1).2 hm).1 rfl⟩) h1
 have hset:Av F1 ow.dst lvW=F1.set dw lvW:=by rw [hdw];rfl
 rw [hset] at h5;generalize hF2:F1.set dw lvW=F2 at h5
 have hF2g:∀t,F2.getD t .junk=if t=dw then lvW else F1.getD t .junk:=λt=>by rw [<-hF2,aDl (F:=F1) (d:=dw) (by rw [k1];exact hdwlt)]
 have hF2l:M F2=M F:=by rw [<-hF2];simp [k1]
 have hCnd:C.Pairwise (λi j=>i<j):=by
  rw [<-hC];unfold R4;exact (List.pairwise_lt_range).filter _
 obtain ⟨c1,c2,c3⟩:=qL C F2 F3 (hCnd.imp_of_mem λ{i j} hi hj hlt d hd=>by
   obtain ⟨q1,q2⟩:=cLay i (hCA i hi) j (hCA j hj) d hd;exact ⟨λhm=>aPf,q1.resolve_left A0⟩) (λi hi=>by
   obtain ⟨o,d,_,_,_,e1,e2⟩:=cDst i<|hCA i hi;exact ⟨d,e1,by rw [hF2l];exact e2,λhm=>((cLay i (hCA i hi) i (hCA i hi) d e1).2 hm).1 rfl⟩) h5
 have hF3l:M F3=M F:=c1.trans hF2l
 have hAC:∀i,i∈A->i∉C:=λi h1 h2=>((hAm i).1 h1).2.2 ((hCm i).1 h2).2.2.1
 have hF3A:∀t,(∀j,(j=wi\/j∈C)->G0 ops j≠ah t)->F3.getD t .junk=F1.getD t .junk:=λt ht=>by
  rw [c2 t λj hj=>ht j<|.inr hj,hF2g,AE]
  intro e;subst e;exact ht wi (.inl rfl) hdwI
 have hF3w:F3.getD dw .junk=lvW:=by
  rw [c2 dw (λj hj e=>by
   rcases (cLay j (hCA j hj) wi hwA _ hdwI).1 with q|q
   ·exact ((hCm j).1 hj).2.1 q
   ·exact q e),hF2g,AD rfl]
 let Inv:aWy->aWD->aWq->Prop:=λl a w'=>∃Z β,RW G w0 Z0 Z β (if l.getD wi X then H1 else H) w'/\RF ds β Z w' (M (if l.getD wi X then H1 else H)) (Jf ops AW F F3 l) a
 have agree:∀(l:aWy),Closed .any ops l->∀i∈AW,i∈ay .any ops l->∀t,t∈NS ops i->(Jf ops AW F F3 l).getD t .junk=F3.getD t .junk:=λl hcl i hi hr t ht=>by
  by_cases hlt:t<M F
  ·rw [dq hlt]
   by_cases hex:∃j,j∈AW/\G0 ops j=ah t
   ·obtain ⟨j,hj,hd⟩:=hex
    have hb:=(cLay i hi j hj t hd).2 ht
    have hl:=aDU hcl hr hb.2.2
    rw [AD<|OT.2 ⟨j,hj,by simp [hl,hd]⟩]
   ·rw [AE,hF3A t λj hj e=>hex ⟨j,(hAWm j).2<|.inr hj,e⟩,k2 t λj hj e=>hex ⟨j,hAA j hj,e⟩]
    intro hany;obtain ⟨j,hj,e⟩:=OT.1 hany;simp only [AY,D3] at e;exact hex ⟨j,hj,e.2⟩
  ·rw [aId (A:=Jf ops AW F F3 l) (t:=t) (by rw [Vp];exact Nat.le_of_not_lt hlt),aId (A:=F3) (t:=t) (by rw [hF3l];exact Nat.le_of_not_lt hlt)]
 have agreeA:∀i,(i∈A\/i=wi)->∀t,t∈NS ops i->F3.getD t .junk=F1.getD t .junk:=λi hi t ht=>hF3A t λj hj e=>cNL i hi j hj t e ht
 have next:∀(l:aWy),l.size=ops.size->∀i∈AW,∀d,G0 ops i=ah d->d<M F->(Jf ops AW F F3 l).set d (F3.getD d .junk)=Jf ops AW F F3 (l.setIfInBounds i U):=λl hls i hi d hd hdl=>by
  have hilt:i<ops.size:=by
   obtain ⟨o,_,ho,_⟩:=cDst i hi;exact (Hk.1 ho).1
  refine qu (by simp [Vp]) λt ht=>?_
  have ht':t<M F:=yY
  rw [aDl (F:=Jf ops AW F F3 l) (d:=d) (by rw [Vp];exact hdl),dq (l:=l.setIfInBounds i U) ht']
  by_cases e:t=d
  ·subst e
   rw [AD rfl,AD<|OT.2 ⟨i,hi,by simp [hd,hls,hilt]⟩]
  ·rw [AE e,dq ht']
   congr 1
   refine B3 (λb=>b=U) ?_
   rw [Ip,OT,OT];refine exists_congr λj=>and_congr_right λhj=>?_
   by_cases hji:i=j
   ·subst hji;simp [hd,OX e]
   ·rw [aB X hji]
 have hH1:∀l:aWy,l.size=ops.size->(l.setIfInBounds wi U).getD wi X=true:=λl hl=>by simp [hl,hwlt]
 have step:∀(l:aWy) (a':aWD) (w':aWq),l.size=ops.size->Closed .any ops l->Inv l a' w'->∀i∈AW,i∈ay .any ops l->wpOpIn (Dd r) m P ops Q i (λa2 w2=>Inv (l.setIfInBounds i U) a2 w2) a' w':=λl a' w' hls hcl hI i hi hr=>by
  obtain ⟨Z1,β1,i1,i2⟩:=hI;obtain ⟨o,d,ho,hg,hd,hdI,hdl⟩:=cDst i hi;unfold wpOpIn
  have hw:az o (yielded ops a'.tmps)=true:=aZ
  simp only [ho,hw,Bp]
  have hlk:∀t,t∈o.looksAt ops->(Jf ops AW F F3 l).getD t .junk=F3.getD t .junk:=λt ht=>agree l hcl i hi hr t mj
  have hnl:l.getD i X=false:=by
   have:=(F7.1 hr).1
   rwa [fQ aOz] at this
  have fin:i≠wi->(hwx P G Γ F3 (if l.getD wi X then H1 else H) o).all (λy=>y=F3.getD d .junk)->o.wpIn (Dd r) m P a' w' (λa2 w2=>Inv (l.setIfInBounds i U) a2 w2) Q:=λhne hv=>by
   have hv2:=atr (by rw [aDj (ops:=ops) hlk];exact hv)
   have hsame:(l.setIfInBounds i U).getD wi X=l.getD wi false:=aB X hne
   refine Vu (KM (λv w2 ⟨Z',β',e1,e2,e3,e4,_⟩=>⟨Z',β',?_,?_⟩)<|cq hΓ i1 i2 hv2) r m
   ·rw [hsame];exact e1
   ·rw [hsame,<-next l hls i hi d hdI hdl]
    have:=e2.put e3 e4 o.dst
    rw [hd] at this|-;exact this
  rcases (hAWm i).1 hi with hiA|rfl|hiC
  ·have hne:i≠wi:=((hAm i).1 hiA).2.1
   refine fin hne ?_
   have hF3d:F3.getD d .junk=F1.getD d .junk:=hF3A d (λj hj e=>by
    rcases (cLay i hi j ((hAWm j).2<|.inr hj) _ e).1 with q|q
    ·rcases hj with rfl|hj
     ·exact hne q
     ·subst q;exact hAC i hiA hj
    ·exact q hdI)
   have hag:∀t,t∈o.looksAt ops->F3.getD t .junk=F1.getD t .junk:=λt ht=>agreeA i (.inl hiA) t mj
   rw [hF3d,aDj (ops:=ops) hag]
   by_cases hl:l.getD wi X=U
   ·rw [AD hl]
    cases hop:o.op with
    | load t x=>
     refine aDy _ (T.BY (λ_ _=>trivial) h3) i ?_ o d t x ho hd hop
     rw [CS];refine ⟨hiA,?_⟩;rw [D2];cases hct:(Gr ops wi).contains i with
     |false=>rfl
     |true=>
      have:=ae1 hcl hl hwlt<|by simpa using hct
      rw [hnl] at this;cases this
    |_=>
     have:=k3 i hiA o d ho hd
     unfold hwx at this|-;simp only [hop] at this|-;exact this
   ·rw [AE hl];exact k3 i hiA o d ho hd
  ·obtain rfl:=EF (how.symm.trans ho)
   obtain rfl:=EF<|hdwI.symm.trans hdI;simp only [hnl,IJ,FQ] at i1 i2
   have hag:∀t,t∈ow.looksAt ops->F3.getD t .junk=F1.getD t .junk:=λt ht=>agreeA i (.inr rfl) t mj
   have hv:(KB P G Γ K (Jf ops AW F F3 l) H ow).all (λq=>q=(lvW,H1)):=by
    rw [aFI (ops:=ops) hcW hgW hlk,aFI (ops:=ops) hcW hgW hag];exact h2
   refine Vu (KM (λv w2 ⟨Z',β',e1,e2,e3,e4⟩=>⟨Z',β',?_,?_⟩)<|aDq hΓ hK i1 i2 hv) r m
   ·rw [AD<|hH1 l hls];exact e1
   ·rw [AD<|hH1 l hls,<-next l hls i hi dw hdI hdl,hF3w]
    have:=e2.put e3 e4 ow.dst
    rw [hd] at this|-;exact this
  ·have hne:i≠wi:=((hCm i).1 hiC).2.1
   refine fin hne ?_
   have hl:l.getD wi X=true:=aDU hcl hr ((hCm i).1 hiC).2.2.1
   rw [AD hl];exact c3 i hiC o d ho hd
 have behind:∀(a':aWD) (w':aWq),Inv (KY ops wi) a' w'->wpAnyIn (Dd r) m P .any ops Q (M<|Jr ops wi) (KY ops wi) a' w':=λa' w' hI=>by
  rw [<-hbl];obtain ⟨Z1,β1,i1,i2⟩:=hI
  have hl:∀i,i<ops.size->(KY ops wi).getD i X=an (i∈AW):=λi hi=>by
   unfold KY;rw [hPW]
   simp [hi]
  rw [hl wi hwlt,Cg hwA] at i1 i2;simp only [Bp] at i1 i2
  have hFS:Jf ops AW F F3 (KY ops wi)=F3:=by
   refine qu (by rw [Vp,hF3l]) λt ht=>?_
   have ht':t<M F:=yY
   rw [dq ht'];split
   ·rfl
   ·rename_i hn
    have hno:∀j,j∈AW->G0 ops j≠ah t:=λj hj e=>by
     obtain ⟨o,_,ho,_⟩:=cDst j hj;refine hn<|OT.2 ⟨j,hj,?_⟩;rw [hl j (Hk.1 ho).1,Cg hj]
     simp [e]
    rw [hF3A t λj hj=>hno j<|(hAWm j).2<|.inr hj,k2 t λj hj=>hno j<|hAA j hj]
  rw [hFS] at i2;refine oz (D:=λ_=>True) (C:=Cf ds G w0 Z0 [] β1 H1 w') (sp:=λ_=>U) (Q:=λa' g'=>∀w'',Cf ds G w0 Z0 [] β1 H1 w' g' w''->Q .normal a' w'') (λ_ _ _=>trivial) (λg w1 w2 hc hb=>hc.keep hb) (λa g w hc hq=>hq w hc) r m _ _ a' ⟨Z1,β1,H1,F3,a'⟩ w' ⟨i1,i2,DX.refl _ _,At _,λ_ _=>rfl,λk k1 k2=>absurd k2<|VL.2 k1,EvL.refl _⟩ ?_
  exact aDP hΓ (λg e1 e2 w'' hc=>hQ g.Z g.β g.a w'' bB aM) _ (JJ ops wi) _ ⟨Z1,β1,H1,F3,a'⟩ (λ_ _=>rfl) hord h4
 have main:∀(k:aWe) (l:aWy) (a':aWD) (w':aWq),l.size=ops.size->Closed .any ops l->(∀i,l.getD i X=U->i∈AW)->M ((AW).filter λi=>!l.getD i X)=k->Inv l a' w'->wpAnyIn (Dd r) m P .any ops Q (k+M (Jr ops wi)) l a' w':=λk=>by
  induction k with
  | zero=>
   intro l a' w' hls hcl hon hk hI
   have hall:∀i∈AW,l.getD i X=true:=λi hi=>by
    cases hb:l.getD i X with
    |true=>rfl
    |false=>
     have:i∈(AW).filter λi=>!l.getD i false:=CS.2 ⟨hi,by simp [hb]⟩
     rw [M8.1 hk] at this;cases this
   have he:l=KY ops wi:=by
    apply Array.ext<|by simp [KY,hls]
    intro i g1 g2
    have hi:i<ops.size:=by rw [<-hls];exact g1
    have e1:l.getD i X=l[i]:=by simp [g1]
    have e2:(KY ops wi)[i]=an (i∈AW):=by
     unfold KY;simp [hPW]
    rw [e2,<-e1];cases hb:l.getD i X with
    |true=>rw [Cg<|hon i hb]
    |false=>rw [IP λhm=>by rw [hall i hm] at hb;cases hb]
   rw [Ek,he];exact behind a' w' (he▸hI)
  | succ k ih=>
   intro l a' w' hls hcl hon hk hI
   obtain ⟨i0,hi0⟩:∃i,i∈(AW).filter λi=>!l.getD i false:=by
    cases hL:(AW).filter λi=>!l.getD i X with
    |nil=>rw [hL] at hk;simp at hk
    |cons x xs=>exact ⟨x,AI⟩
   have hrn:ay .any ops l≠ []:=by
    have:∀n i,i<n->i∈AW->l.getD i X=X->ay .any ops l≠ []:=λn=>by
     induction n with
     |zero=>intro i hi;omega
     | succ n ihn=>
      intro i hin hi hb;obtain ⟨o,d,ho,_⟩:=cDst i hi
      by_cases hp:∃p∈OK ops i,l.getD p X=X
      ·obtain ⟨p,hp,hpb⟩:=hp
       obtain ⟨q1,q2⟩:=cOns i hi p hp;exact ihn p A0 q2 hpb
      ·have:i∈ay .any ops l:=F7.2 ⟨by rw [fQ aOz];exact hb,o,ho,λe he hbd=>by
        cases hx:l.getD e.on X with
        |true=>rfl
        |false=>exact absurd ⟨e.on,by unfold OK;rw [ho];exact F5.2 ⟨e,CS.2 ⟨bF,hbd⟩,rfl⟩,hx⟩ hp⟩
       intro e;rw [e] at this;cases this
    obtain ⟨m1,m2⟩:=CS.1 hi0;exact this (i0+1) i0 A0 m1<|by simpa using m2
   rw [show k+1+M (Jr ops wi)=(k+M (Jr ops wi))+1 by omega]
   refine ⟨λh0=>absurd h0 hrn,λi hi=>?_⟩
   have hiAW:i∈AW:=by
    by_cases hm:i∈AW
    ·exact hm
    ·exfalso
     have hiB:i∈Jr ops wi:=by
      unfold Jr
      have hlt:=QZ hi
      rw [hAWm] at hm;simp only [not_or,hAm,hCm] at hm;simp only [CS,Iq,AY,D2,CQ,Zq]
      by_cases hb:wi∈Gr ops i
      ·cases ha:allA ops wi i with
       |true=>exact ⟨hlt,hm.2.1,hb,rfl⟩
       |false=>exact absurd ⟨hlt,hm.2.1,hb,ha⟩ hm.2.2
      ·exact absurd ⟨hlt,hm.2.1,hb⟩ hm.1
     obtain ⟨m1,m2⟩:=CS.1 hi0
     have hb:=hB i hiB i0 m1
     have:=aDU hcl hi<|by simpa using hb
     simp [this] at m2
   refine wpOpIn_mono (λa2 w2 hI2=>?_)<|step l a' w' hls hcl hI i hiAW hi
   refine ih _ a2 w2 (by simpa using hls) (hcl.put hi) (λj hj=>?_) ?_ hI2
   ·by_cases e:i=j
    ·exact e▸hiAW
    ·rw [aB X e] at hj;exact hon j hj
   ·have hnd:(AW).Nodup:=by
     rw [<-hAWd,xb];refine ⟨hAnd.imp λh=>VC h,?_,λx hx y hy e=>?_⟩
     ·rw [x9,M7]
      exact ⟨λhm=>((hCm _).1 hm).2.1 rfl,hCnd.imp λh=>VC h⟩
     ·subst e
      rw [x9,BA] at hy;rcases hy with rfl|hy
      ·exact ((hAm _).1 hx).2.1 rfl
      ·exact hAC _ hx hy
    have hil:l.getD i X=false:=by
     have:=(F7.1 hi).1
     rwa [fQ (by rw [hls];exact QZ hi)] at this
    have hlt:i<l.size:=by rw [hls];exact QZ hi
    have e:((AW).filter λj=>!(l.setIfInBounds i U).getD j X)=((AW).filter λj=>!l.getD j X).erase i:=by
     rw [List.Nodup.erase_eq_filter<|hnd.filter _,List.filter_filter];refine xc λj _=>?_
     by_cases e:i=j
     ·subst e;simp [hlt]
     ·rw [aB X e]
      simp [OX e]
    rw [e,List.length_erase_of_mem<|CS.2 ⟨hiAW,by simp [hil]⟩,hk]
    rfl
 have hcount:ops.size=M ((AW).filter λi=>!(Array.replicate ops.size X).getD i X)+M (Jr ops wi):=by
  rw [List.filter_eq_self.2 λi hi=>by
   have:i<ops.size:=by
    obtain ⟨o,_,ho,_⟩:=cDst i hi;exact (Hk.1 ho).1
   simp [this]]
  have hlen:=aeC ops.size (λi=>i==wi) (λi=>(Gr ops i).contains wi) ⟨wi,hwlt,AI,λj _ hj=>bH⟩
  have hsp:=ae2 (au ops.size) (λi=>!(i==wi)&&(Gr ops i).contains wi) λi=>allA ops wi i
  have eC:M C=M ((au ops.size).filter λi=>(!(i==wi)&&(Gr ops i).contains wi)&&!allA ops wi i):=by
   rw [<-hC];unfold R4
   congr 1
   exact xc λi _=>by rw [VA]
  have eB:M (Jr ops wi)=M ((au ops.size).filter λi=>(!(i==wi)&&(Gr ops i).contains wi)&&allA ops wi i):=by
   unfold Jr
   congr 1
   exact xc λi _=>by rw [VA]
  have eA:M A=M ((au ops.size).filter λi=>!(i==wi)&&!(Gr ops i).contains wi):=by rw [<-hA];rfl
  rw [<-hAWd,BL,BL,List.length_singleton,eA,eC,eB];omega
 have hbd:Below w.heap.size w {w with drawn:=w.drawn+1}:=⟨rfl,rfl,rfl,At _,λ_ _=>rfl⟩
 rw [show wpAnyIn (Dd r) m P .any ops Q ops.size (Array.replicate ops.size X) a {w with drawn:=w.drawn+1}=wpAnyIn (Dd r) m P .any ops Q (M ((AW).filter λi=>!(Array.replicate ops.size X).getD i X)+M (Jr ops wi)) (Array.replicate ops.size X) a {w with drawn:=w.drawn+1} from congrFun (congrFun (congrFun (B3 _ hcount) _) _) _]
 refine main _ (Array.replicate ops.size X) a _ AI (λi o ho hL=>?_) (λi hi=>?_) rfl ?_
 ·have:=(Hk.1 ho).1
  simp [this] at hL
 ·exfalso
  rcases QC i ops.size with h|h<;>simp [h] at hi
 ·have hFS:Jf ops AW F F3 (Array.replicate ops.size X)=F:=by
   refine qu Vp λt ht=>?_
   rw [dq yY,AE];intro hany;obtain ⟨j,_,e⟩:=OT.1 hany;rcases QC j ops.size with h|h<;>simp [h] at e
  have hz:(Array.replicate ops.size X).getD wi X=false:=by simp [hwlt]
  refine ⟨Z,β,?_,?_⟩
  ·rw [hz];exact hW0.same hbd
  ·rw [hz,hFS];exact hF0.mono (At _) (λ_ _=>rfl) (λ_ h=>h) λ_ _=>rfl
def aeB (hΓ:∀g S,Γ g=ah S->Valid P G g S) (hK:FW P G K) {id:aWe}{ops:aWm}{Q:aW4->aWD->aWq->Prop}{F':aWf}{H':aWi}(hQ:∀Z' β' a' w',RW G w0 Z0 Z' β' H' w'->RF ds β' Z' w' (M H') F' a'->Q .normal a' w')
  (hW0:RW G w0 Z0 Z β H w) (hF0:RF ds β Z w (M H) F a) (h:(aBM P G Γ K ops F H).all λq=>q=(F',H')) (r:aWG) (m:aWe):(Code.region id ops U).wpIn (Dd r) m P Q a w:=by
 unfold aBM at h;split at h
 ·exact aE2 hΓ hK hQ hW0 hF0 h r m
 ·split at h
  ·rename_i wi hwi
   have:=afQ hΓ hK hQ hwi hW0 hF0 h r m
   exact wpIn_region_any this.1 this.2
  ·exact aE2 hΓ hK hQ hW0 hF0 h r m
end Go.Sx
namespace Go.Sx
open Go Go.RowKit Go.Proofs.YtoifmkifedcnnaaGreatDoor
variable {P : Program} {G : B5} {Γ : Specs} {K : Hand} {A : Gz -> Prop} {β : Nat -> Loc} {Z : Nat -> Prop} {Z0 : Gz} {w w0 : World} {F : List LV} {H : List AB} {a : Act} {ds : List Deferred} {n : Nat}
def wR:Ex->Exit
 | .normal=> .normal
 | .exit n=> .exit n
 | .ret=> .ret
structure M4 (w0:aWq) (Z0:Gz) (ds:aWT):Prop where
 new:∀D,Gn D∈ds->w0.heap.size<=D/\D∉Z0.Cr
 nodup:ds.Nodup
def M4.nil {w0:aWq}{Z0:Gz}:M4 w0 Z0 []:=⟨λ_ h=>Ao,List.nodup_nil⟩
def Gm (P:aWt) (G:B5) (A:Gz->Prop) (c:aWO) (t:aWf->aWi->T (Ex×List LV×List AB)):Prop:=
 ∀(r:aWG) (w0:aWq) (Z0:Gz) (Z:aWe->Prop) (β:aWe->aWU) (F:aWf) (H:aWi) (a:aWD) (w:aWq) (ds:aWT) (Q:aW4->aWD->aWq->Prop) (x:Ex) (F':aWf) (H':aWi),
  A Z0->(r=aj\/I3 c=U)->M4 w0 Z0 ds->RW G w0 Z0 Z β H w->RF ds β Z w (M H) F a->(t F H).all (λq=>q=(x,F',H'))->(∀ds' Z' β' a' w',M4 w0 Z0 ds'->RW G w0 Z0 Z' β' H' w'->RF ds' β' Z' w' (M H') F' a'->Q (wR x) a' w')->c.wpIn (Dd r) 0 P Q a w
def AN (N:aWe):Gz->Prop:=λz=>∀p,p∈z.gh->okV N p.1
abbrev Sound (P:aWt) (G:B5):=Gm P G<|AN 0
def BD:aWO->List Code
 | .seq a b=>BD a++BD b
 | .cond _ a b=>BD a++BD b
 | .block _ b=>BD b
 | .loop b=>[b]
 | .scope b=>BD b
 |_=>[]
def Iz:aWO->List (Array Tmp×Code×Code)
 | .seq a b=>Iz a++Iz b
 | .cond _ a b=>Iz a++Iz b
 | .block _ b=>Iz b
 | .loop b=>Iz b
 | .rangeFunc _ ps a b=>[(ps,a,b)]
 | .scope b=>Iz b
 |_=>[]
def oQ {w:aWq}{D:aWe}(h:Fv w D) (o':Obj) {b o:aWe}{z:aWx}(hz:w.cell? ⟨b,o,aj⟩=ah z):(w.putObj D o').cell? ⟨b,o,aj⟩=ah z:=by
 have hne:b≠D:=by
  rintro rfl
  unfold Fv at h
  simp [World.cell?,h] at hz
 rwa [QN<|M9 hne]
def RD.shut {D:aWe}(h:Fv w D) (o':Obj):∀(t:Ty) (d:t.D) (b o:aWe),RD Z w t d b o->RD Z (w.putObj D o') t d b o
 | .int _,_,b,o,hh=>yS
 | .bool,_,b,o,hh=>yS
 | .str,_,b,o,hh=>yS
 | .sl e,l,b,o,hh=>by
  obtain ⟨a,cap,h1,h2,h3⟩:=hh;refine ⟨a,cap,oQ h o' h1,h2,λhn=>?_⟩
  obtain ⟨b',o'',h4,h5,h6⟩:=h3 hn;exact ⟨b',o'',h4,h5,λi d hd=>RD.shut h o' e d b' _<|h6 i d hd⟩
 | .pair x y,d,b,o,hh=>by
  exact ⟨RD.shut h o' x d.1 b o hh.1,RD.shut h o' y d.2 b _ hh.2⟩
def W1 {w:aWq}{D:aWe}(h:Fv w D) (o':Obj) {b:aWe}{x:Obj}(hx:w.heap[b]? =ah x) (hn:∀q,x≠ .deferred q):(w.putObj D o').heap[b]? =ah x:=by
 have hne:b≠D:=by
  rintro rfl
  rw [h] at hx
  grind
 rwa [M9 hne]
mutual
def R.shut {D:aWe}(h:Fv w D) (o':Obj):∀(x:LV) (y:aWx),R β Z w x y->R β Z (w.putObj D o') x y
 | .v _,_,hh=>hh
 | .bl _,_,hh=>hh
 | .ki _ _,_,hh=>hh
 | .own k off,y,hh=>VO
 | .agg l,y,hh=>by
  exact mM
 | .AO l,y,hh=>by
  exact mM
 | .fn f l,y,hh=>by
  exact mM
 | .fb f l,y,hh=>by
  exact mM
 | .xq n f,y,hh=>by
  simp only [R] at*;obtain ⟨b,off,h1,hz,h2⟩:=hh;refine ⟨b,off,h1,hz,λj hj=>?_⟩
  obtain ⟨z,h3,h4⟩:=h2 j hj;exact ⟨z,oQ h o' h3,R.shut h o' (f j) z h4⟩
 | .xl e l,y,hh=>by
  simp only [R] at*;obtain ⟨a,cap,h1,h2,h3⟩:=hh;refine ⟨a,cap,h1,h2,λhn=>?_⟩
  obtain ⟨b,off,h4,h5,h6⟩:=h3 hn;exact ⟨b,off,h4,h5,λi d hd=>RD.shut h o' e d b _ (h6 i d hd)⟩
 | .os k es off n,y,hh=>VO
 | .op k es i j,y,hh=>VO
 | .om k,y,hh=>VO
 | .mp kd ks vs,y,hh=>by
  simp only [R] at*;obtain ⟨r,es,clock,h1,h2,h3,h4,h5⟩:=hh;exact ⟨r,es,clock,h1,h2,W1 h o' h3 (λ_ e=>QJ),h4,RL.shut h o' vs _ h5⟩
 | .oc k es off n c,y,hh=>VO
 | .CO k,y,hh=>VO
 | .junk,_,_=>Ji
def RL.shut {D:aWe}(h:Fv w D) (o':Obj):∀(x:aWf) (y:aWv),RL β Z w x y->RL β Z (w.putObj D o') x y
 | [],_,hh=>by simpa only [RL] using hh
 |x::xs,ys,hh=>by
  simp only [RL] at*;obtain ⟨y,zs,h1,h2,h3⟩:=hh;exact ⟨y,zs,h1,R.shut h o' x y h2,RL.shut h o' xs zs h3⟩
end
def BZ.shut {D:aWe}(h:Fv w D) (o':Obj) {k:aWe}{b:AB}(hh:BZ β Z w k b):BZ β Z (w.putObj D o') k b:=by
 unfold BZ at*;cases hk:b.k with
 |cl=>
  simp only [hk] at hh|-;obtain ⟨cs,h1,h2⟩:=hh;exact ⟨cs,W1 h o' h1 λ_ e=>QJ,RL.shut h o' _ _ h2⟩
 | vec e l=>
  simp only [hk] at hh|-;cases hc:(β k).cap with
  |none=>simp only [hc] at hh|-;exact hh
  |some c=>
   simp only [hc] at hh|-;obtain ⟨cs,h1,h2,h3,h4⟩:=hh;exact ⟨cs,W1 h o' h1 λ_ e=>QJ,h2,h3,λi d hd=>RD.shut h o' e d _ _<|h4 i d hd⟩
 |mp kd ks vs=>
  simp only [hk] at hh|-;obtain ⟨es,clock,h1,h2,h3⟩:=hh;exact ⟨es,clock,W1 h o' h1 λ_ e=>QJ,h2,RL.shut h o' _ _ h3⟩
 |Cl ps asg body st=>
  simp only [hk] at hh|-;obtain ⟨r,h1,h2,h3,h4,h5,h6⟩:=hh;exact ⟨r,W1 h o' h1 λ_ e=>QJ,h2,h3,h4,h5,RL.shut h o' _ _ h6⟩
 |st e l=>
  simp only [hk] at hh|-;obtain ⟨es,clock,h1,h2,h3⟩:=hh;exact ⟨es,clock,W1 h o' h1 λ_ e=>QJ,h2,h3⟩
 |dead=>trivial
def putObj_size (w:aWq) (D:aWe) (o:Obj):(w.putObj D o).heap.size=w.heap.size:=AI
def Fv.lt {w:aWq}{D:aWe}(h:Fv w D):D<w.heap.size:=(Hk.1 h).1
def RW.shut (hW:RW G w0 Z0 Z β H w) {D:aWe}(h:Fv w D) (h0:w0.heap.size<=D) (hm:D∉Z0.Cr) (o':Obj):RW G w0 Z0 Z β H (w.putObj D o'):=
 ⟨hW.below.trans ⟨rfl,rfl,rfl,mE (putObj_size _ _ _).symm,λi hi=>M9 A0⟩,λb hz=>by rw [putObj_size];exact hW.Bc b hz,hW.Et,hW.Cp,hW.GL,hW.low,hW.inj,
  λk b hb=>⟨(hW.blk k b hb).1.shut h o',(hW.blk k b hb).2⟩,λg n f hg=>⟨(hW.Cb g n f hg).1,λj hj=>oQ h o'<|(hW.Cb g n f hg).2 j hj⟩,
  λp hp=>⟨R.shut h o' _ _ (hW.gh p hp).1,(hW.gh p hp).2⟩,λD' hD'=>⟨(hW.Cr D' hD').1,by
   unfold Fv;rw [M9 λe=>hm A8]
   exact (hW.Cr D' hD').2⟩⟩
def aDO {fn:aWX}{R:Ending->aWq->Prop}:∀(ds:aWT) (w:aWq) (a:aWD),RW G w0 Z0 Z β H w->RF ds β Z w n F a->M4 w0 Z0 ds->
  (∀w' a',a'.tmps=a.tmps->RW G w0 Z0 Z β H w'->RF [] β Z w' n F a'->∃v,(results fn a.tmps).run P w'=.ok v w'/\R (.returned v) w')->LeavesInM Fence.wide 0 P fn a.tmps R ds .returning w
 | [],w,a,hW,hF,_,hR=>hR w {a with defers:=[]} rfl hW ⟨hF.size,hF.get,rfl,λ_ h=>Ao⟩
 |d::ds,w,a,hW,hF,hD,hR=>by
  obtain ⟨D,rfl,hz,hm⟩:=hF.defers.2 d AI;obtain ⟨n1,n2⟩:=hD.new D AI
  have nd:=M7.1 hD.nodup
  refine ⟨AI,.inl ⟨D,w.putObj D<|.deferred aj,rfl,run_takeDeferred hm,?_⟩⟩;refine aDO ds (w.putObj D<|.deferred aj) {a with defers:=ds} (hW.shut hm n1 n2 _) ⟨hF.size,λt x hx=>⟨Go.Sx.R.shut hm _ _ _ (hF.get t x hx).1,(hF.get t x hx).2⟩,rfl,λd hd=>?_⟩ ⟨λD' h'=>hD.new D' A8,nd.2⟩ λw' a' e=>hR w' a' e
  obtain ⟨D',e1,e2,e3⟩:=hF.defers.2 d A8;refine ⟨D',e1,e2,?_⟩;unfold Fv
  rwa [M9 λe=>nd.1 A8]
def RF.RL (hF:RF ds β Z w n F a):RL β Z w F a.tmps.toList/\AT n F:=by
 refine ⟨RL.CU (by simp [hF.size]) λi x hx=>?_,AT.CU λi x hx=>(hF.get i x hx).2⟩
 have hi:i<a.tmps.size:=by rw [hF.size];exact (EE.1 hx).1
 have:=(hF.get i x hx).1
 refine ⟨a.tmps[i],AI,?_⟩
 have e:a.tmps.getD i undef=a.tmps[i]:=GD
 rw [e] at this;exact this
def apU (us:aWj) {ys:aWv}(h:RL β Z w F ys) (hk:AT n F):RL β Z w (PH us F) ys/\AT n (PH us F):=by
 have hl:=RL.length h
 have at_:∀(i:aWe) (x:LV),(PH us F)[i]? =ah x->i<M F/\(x=.junk\/F[i]? =ah x):=λi x hx=>by
  simp only [PH,Df] at hx
  by_cases hi:i<M F
  ·simp only [xW hi,Jh,Ai] at hx
   refine ⟨hi,?_⟩;split at hx
   ·right
    grind
   ·grind
  ·rw [Sa A8] at hx
   cases hx
 refine ⟨RL.CU (by simp [PH,hl]) λi x hx=>?_,AT.CU λi x hx=>?_⟩
 ·obtain ⟨hi,h1⟩:=at_ i x hx
  rcases h1 with rfl|h1
  ·exact ⟨ys[i]' A0,Dg _,Ji⟩
  ·exact RL.get i x h h1
 ·obtain ⟨hi,h1⟩:=at_ i x hx
  rcases h1 with rfl|h1
  ·trivial
  ·exact AT.get i x hk h1
def aeH {o:aW6}{x:Ex}(h:uv o=ah x):∃c t ps asg body,(o=ah ⟨c,t,.Cl ps asg body .ready,X⟩/\x=.normal)\/(o=ah ⟨c,t,.Cl ps asg body<|.done x,X⟩/\x≠ .normal):=by
 unfold uv at h;split at h
 ·rename_i c t ps asg body
  grind
 ·rename_i c t ps asg body y
  split at h
  ·cases h
  ·rename_i hn
   have:=EF h
   subst this
   grind
 ·cases h
def RW.turn {k:aWe}{c:aWf}{t t':aWu}{ps:aW8}{asg body:aWO}{st:LS}{nb:BK}{r':Loop}(hW:RW G w0 Z0 Z β H w) (hb:H[k]? =ah ⟨c,t,.Cl ps asg body st,X⟩)
  (hn:BZ β Z (w.putObj (β k).b<|.loop r') k ⟨c,t',nb,X⟩) (hok:okB (M H) ⟨c,t',nb,X⟩):RW G w0 Z0 Z β (H.set k ⟨c,t',nb,X⟩) (w.putObj (β k).b<|.loop r')/\(∀b,Z b->(w.putObj (β k).b<|.loop r').heap[b]? =w.heap[b]?):=
 ⟨hW.set hb trivial rfl rfl hok (putObj_size _ _ _) ⟨rfl,rfl,rfl⟩ (λj hj=>M9 hj) hn,λb hz=>M9 λe=>hW.Cp k _ hb trivial rfl (e▸hz)⟩
def s9 {r:aWG}{p q:aWo}(h:r=aj\/(p&&q)=U):(r=aj\/p=U)/\(r=aj\/q=U):=by
 rcases h with h|h
 ·grind
 ·simp only [AY] at h
  grind
def Vr {b:Frame}{k:List Item}{cs:List Frame}{c:aWO}:step P (lone (b.atR a (.code (.scope c)::k)) cs w)=.next (lone (b.atR a (.code c::.inScope c::k)) cs w):=
 step_lone_go aPD
def adg {b:Frame}{k:List Item}{cs:List Frame}{c:aWO}:step P (lone (b.atR a (.inScope c::k)) cs w)=.next (lone (b.atR a k) cs w):=
 step_lone_go aPD
def aeT {E:Fence}{m:aWe}{Q:aW4->aWD->aWq->Prop}{c:aWO}(h:c.wpIn E m P (Exit.noGoto Q) a w):(Code.scope c).wpIn E m P Q a w:=by
 intro b k cs hro hb hr
 have h0:(lone (b.atR a (.code (.scope c)::k)) cs w).fenced P E:=fenced_calm hb hr rfl
 obtain ⟨e,a₁,w₁,hq,harr⟩:=h b (.inScope c::k) cs hro hb hr;cases e with
 |normal=>exact ⟨.normal,a₁,w₁,hq,.head h0 Vr<|StepsIn.trans harr<|.one (fenced_calm hb hr rfl) adg⟩
 | exit id'=>
  have hx:exitTo id' (.inScope c::k)=exitTo id' k:=by simp [exitTo]
  exact ⟨.exit id',a₁,w₁,hq,λk' hk=> .head h0 Vr<|harr.1 k' A8,
   λhr' hk=>let ⟨k₁,h1,h2⟩:=harr.2 hr' A8;⟨k₁,h1,.head h0 Vr h2⟩⟩
 |goto l=>exact hq.elim
 |ret=>exact ⟨_,a₁,w₁,hq,.of_steps (.one h0 Vr) harr⟩
 |panic ch=>exact ⟨_,a₁,w₁,hq,.of_steps (.one h0 Vr) harr⟩
 |outgrown=>exact ⟨_,a₁,w₁,hq,.of_steps (.one h0 Vr) harr⟩
def Gg {L:PZ} (hΓ:∀g S,Γ g=ah S->Valid P G g S) (hK:FW P G K):∀(c:aWO),(∀b∈BD c,Gm P G A (.loop b)<|L b)->Gm P G A c (DN P G Γ K L c)
 | .skip,_=>λr w0 Z0 Z β F H a w ds Q x F' H' hA hr hD hW hF h hQ=>by
  simp only [DN,T.all,B0] at h;obtain ⟨rfl,rfl,rfl⟩:=h;exact wpIn_skip (hQ ds Z β a w hD hW hF)
 | .ret,_=>λr w0 Z0 Z β F H a w ds Q x F' H' hA hr hD hW hF h hQ=>by
  simp only [DN,T.all,B0] at h;obtain ⟨rfl,rfl,rfl⟩:=h;exact wpIn_ret (hQ ds Z β a w hD hW hF)
 | .exit m,_=>λr w0 Z0 Z β F H a w ds Q x F' H' hA hr hD hW hF h hQ=>by
  simp only [DN,T.all,B0] at h;obtain ⟨rfl,rfl,rfl⟩:=h;exact wpIn_exit (hQ ds Z β a w hD hW hF)
 | .region id ops d,_=>λr w0 Z0 Z β F H a w ds Q x F' H' hA hr hD hW hF h hQ=>by
  simp only [DN] at h;obtain ⟨⟨F1,H1⟩,h1,h2⟩:=T.B8 h;simp only [T.all,B0] at h2;obtain ⟨rfl,rfl,rfl⟩:=h2;cases d with
  |true=>exact aeB hΓ hK (λZ' β' a' w' e1 e2=>hQ ds Z' β' a' w' hD e1 e2) hW hF h1 r 0
  |false=>exact afd hΓ hK (λZ' β' a' w' e1 e2=>hQ ds Z' β' a' w' hD e1 e2) hW hF h1 r 0
 | .seq c1 c2,hl=>λr w0 Z0 Z β F H a w ds Q x F' H' hA hr hD hW hF h hQ=>by
  simp only [DN] at h;obtain ⟨⟨y,F1,H1⟩,h1,h2⟩:=T.B8 h;obtain ⟨hr1,hr2⟩:=s9 (show r=aj\/(I3 c1&&I3 c2)=U from hr);refine wpIn_seq<|Gg hΓ hK c1 (λb hb=>hl b Sr) r w0 Z0 Z β F H a w ds _ y F1 H1 hA hr1 hD hW hF h1 λds' Z' β' a' w' e0 e1 e2=>?_
  cases y with
  |normal=>exact Gg hΓ hK c2 (λb hb=>hl b Sr) r w0 Z0 Z' β' F1 H1 a' w' ds' Q x F' H' hA hr2 e0 e1 e2 h2 hQ
  |exit m=>
   simp only [T.all,B0] at h2;obtain ⟨rfl,rfl,rfl⟩:=h2;exact hQ ds' Z' β' a' w' e0 e1 e2
  |ret=>
   simp only [T.all,B0] at h2;obtain ⟨rfl,rfl,rfl⟩:=h2;exact hQ ds' Z' β' a' w' e0 e1 e2
 | .cond c c1 c2,hl=>λr w0 Z0 Z β F H a w ds Q x F' H' hA hr hD hW hF h hQ=>by
  have s1:=Gg hΓ hK c1 λb hb=>hl b Sr
  have s2:=Gg hΓ hK c2 λb hb=>hl b Sr
  obtain ⟨hr1,hr2⟩:=s9 (show r=aj\/(I3 c1&&I3 c2)=U from hr);simp only [DN] at h;split at h
  ·rename_i d
   split at h
   ·rename_i hb
    obtain ⟨q1,q2⟩:=hF.slot hb AI
    have hv:=(hF.get d _ q1).1
    simp only [R] at hv;exact wpIn_cond_true yM<|s1 r w0 Z0 Z β F H a w ds Q x F' H' hA hr1 hD hW hF h hQ
   ·rename_i hb
    obtain ⟨q1,q2⟩:=hF.slot hb AI
    have hv:=(hF.get d _ q1).1
    simp only [R] at hv;exact wpIn_cond_false yM<|s2 r w0 Z0 Z β F H a w ds Q x F' H' hA hr2 hD hW hF h hQ
   ·rename_i g hb
    obtain ⟨q1,q2⟩:=hF.slot hb AI
    have hv:=(hF.get d _ q1).1
    simp only [R] at hv
    have kn:∀b,g=b->RF ds β Z w H.length (F.set d<|.bl b) a:=λb e=>hF.know mr trivial
    simp only [T.all] at h;refine wpIn_cond_split (t:=g) yM (λhg=>s1 r w0 Z0 Z β _ H a w ds Q x F' H' hA hr1 hD hW (kn U hg) (h.1 hg) hQ) λhg=>s2 r w0 Z0 Z β _ H a w ds Q x F' H' hA hr2 hD hW (kn X hg) (h.2 hg) hQ
   ·cases h
  ·exact wpIn_cond_true rfl<|s1 r w0 Z0 Z β F H a w ds Q x F' H' hA hr1 hD hW hF h hQ
  ·exact wpIn_cond_false rfl<|s2 r w0 Z0 Z β F H a w ds Q x F' H' hA hr2 hD hW hF h hQ
  ·cases h
 | .block id c,hl=>λr w0 Z0 Z β F H a w ds Q x F' H' hA hr hD hW hF h hQ=>by
  simp only [DN] at h;obtain ⟨⟨y,F1,H1⟩,h1,h2⟩:=T.B8 h;refine wpIn_block<|Gg hΓ hK c (λb hb=>hl b<|by simpa [BD] using hb) r w0 Z0 Z β F H a w ds _ y F1 H1 hA hr hD hW hF h1 λds' Z' β' a' w' e0 e1 e2=>?_
  cases y with
  |normal=>
   simp only [T.all,B0] at h2;obtain ⟨rfl,rfl,rfl⟩:=h2;exact hQ ds' Z' β' a' w' e0 e1 e2
  | exit m=>
   simp only at h2;simp only [wR,Exit.inBlock];split at h2
   ·rename_i hm
    simp only [T.all,B0] at h2;obtain ⟨rfl,rfl,rfl⟩:=h2;rw [AD hm];exact hQ ds' Z' β' a' w' e0 e1 e2
   ·rename_i hm
    simp only [T.all,B0] at h2;obtain ⟨rfl,rfl,rfl⟩:=h2;rw [AE hm];exact hQ ds' Z' β' a' w' e0 e1 e2
  |ret=>
   simp only [T.all,B0] at h2;obtain ⟨rfl,rfl,rfl⟩:=h2;exact hQ ds' Z' β' a' w' e0 e1 e2
 | .loop b,hl=>hl b (by simp [BD])
 | .rangeFunc g ps asg body,_=>λr w0 Z0 Z β F H a w ds Q x F' H' hA hr hD hW hF h hQ=>by
  have hr0:r=none:=by
   rcases hr with h|h
   ·exact h
   ·simp [I3] at h
  subst hr0;simp only [DN] at h;split at h
  ·rename_i gf cap hg
   split at h
   ·rename_i fn hfn
    split at h
    ·rename_i hb
     simp only [AY,D2] at hb;obtain ⟨⟨lv,H1⟩,h1,h2⟩:=T.B8 h;simp only at h2
     have hgr:=hF.eval hW.Cb g
     rw [hg] at hgr;simp only [R,okV] at hgr;obtain ⟨⟨ys,hy,hyr⟩,hcap⟩:=hgr;split at h2
     ·rename_i x' hx'
      simp only [T.all,B0] at h2;obtain ⟨rfl,rfl,rfl⟩:=h2;refine wpIn_rangeFunc ?_;intro fn0 _
      have hb1:Below w.heap.size w (w.alloc<|.deferred<|ah []):=(Below.refl _ _).alloc (At _) _
      have hWd:=hW.call hb1
      generalize hrec:({state:=.ready,pending:=aj,fn:=fn0,tmps:=a.tmps,params:=ps,assign:=asg,body:=body,defers:=w.heap.size}:Loop)=rec0 at*;generalize hwd:w.alloc (.deferred<|ah [])=wd at*
      have hsd:wd.heap.size=w.heap.size+1:=by rw [<-hwd];simp [World.size_alloc]
      have hmd:Fv wd w.heap.size:=by rw [<-hwd];exact World.alloc_heap_new w _
      have hb2:Below wd.heap.size wd (wd.alloc<|.loop rec0):=(Below.refl _ _).alloc (At _) _
      have hW1:=hWd.same hb2
      generalize hw1:wd.alloc (.loop rec0)=w1 at*
      have hl1:w1.heap[wd.heap.size]? =ah (.loop rec0):=by rw [<-hw1];exact World.alloc_heap_new wd _
      have hF1:RF ds β (λb=>Z b\/(w.heap.size<=b/\b<wd.heap.size)) w1 H.length F a:=hF.mono (At _) (λ_ _=>rfl) (λ_ h=> .inl h) (λb hz=>by
       have hlt:=hW.Bc b hz
       rw [EG hb2 A0,EG hb1 hlt])
      have hm1:Fv w1 w.heap.size:=by unfold Fv;rw [EG hb2 A0];exact hmd
      have hF2:RF (Gn w.heap.size::ds) β (λb=>Z b\/(w.heap.size<=b/\b<wd.heap.size)) w1 H.length F {a with defers:=Gn w.heap.size::a.defers}:=by
       refine ⟨hF1.size,hF1.get,by rw [hF1.defers.1],λd hd=>?_⟩
       rcases BA.1 hd with rfl|hd
       ·exact ⟨_,rfl,.inr ⟨At _,A0⟩,hm1⟩
       ·exact hF1.defers.2 d hd
      have hD2:M4 w0 Z0 (Gn w.heap.size::ds):=by
       refine ⟨λD hd=>?_,M7.2 ⟨λhd=>?_,hD.nodup⟩⟩
       ·rcases BA.1 hd with hd|hd
        ·simp only [Gn,Deferred.mk.injEq,Target.collected.injEq] at hd
         rw [hd.1];exact ⟨hW.below.size,λhm=>by have:=(hW.Cr _ hm).2.lt;omega⟩
        ·exact hD.new D hd
       ·obtain ⟨D,e1,_,e3⟩:=hF.defers.2 _ hd
        simp only [Gn,Deferred.mk.injEq,Target.collected.injEq] at e1
        have:=e3.lt
        omega
      obtain ⟨fr1,fr2⟩:=hF1.RL;obtain ⟨fr1,fr2⟩:=apU (Gv asg++Gv body) fr1 fr2
      obtain ⟨β2,b1,b2,hW2⟩:=hW1.Km (ℓ:=⟨wd.heap.size,0,aj⟩) (nb:=⟨PH (Gv asg++Gv body) F,0,.Cl ps asg body .ready,X⟩) rfl ⟨AT.mono A0 _ fr2,ak⟩ (λ_=>⟨λhz=>by
        rcases hz with hz|hz
        ·have:=hW.Bc _ hz;simp only at this;omega
        ·simp only at hz;omega,by have:=hW.below.size;simp only;omega,λj bj hj lj e=>Sq⟩) (λβ' q1 q2=>by
       simp only [BZ,q2];refine ⟨rec0,hl1,yk,yk,yk,by rw [<-hrec];exact A9,?_⟩
       rw [<-hrec];exact RL.mono q1 (λ_ h=>h) (λ_ _=>rfl) _ _ fr2 fr1)
      have hF3:RF (Gn w.heap.size::ds) β2 (λb=>Z b\/(w.heap.size<=b/\b<wd.heap.size)) w1 (H++[(⟨PH (Gv asg++Gv body) F,0,.Cl ps asg body .ready,X⟩:AB)]).length F {a with defers:=Gn w.heap.size::a.defers}:=hF2.mono AI b1 (λ_ h=>h) λ_ _=>rfl
      have hW3:=hW2.hold hF3
      have hyl:R β2 (λb=>Z b\/(w.heap.size<=b/\b<wd.heap.size)) w1 (.CO H.length) (.func (.yield wd.heap.size) #[] #[]):=by simp only [R,b2]
      have hW4:RW G w0 ⟨Z0.z,(LV.CO H.length,Value.func (.yield wd.heap.size) #[] #[])::(F.zip a.tmps.toList++Z0.gh),dsB (Gn w.heap.size::ds)++Z0.Cr⟩ (λb=>Z b\/(w.heap.size<=b/\b<wd.heap.size)) β2 (H++[⟨PH (Gv asg++Gv body) F,0,.Cl ps asg body .ready,X⟩]) w1:=
       ⟨hW3.below,hW3.Bc,hW3.Et,hW3.Cp,hW3.GL,hW3.low,hW3.inj,hW3.blk,hW3.Cb,λp hp=>by
        rcases BA.1 hp with rfl|hp
        ·exact ⟨hyl,ME⟩
        ·exact hW3.gh p hp,hW3.Cr⟩
      have hyr2:RL β2 (λb=>Z b\/(w.heap.size<=b/\b<wd.heap.size)) w1 cap ys.toList:=RL.mono (n:=H.length) b1 (λ_ h=> .inl h) (λb hz=>by
       have hlt:=hW.Bc b hz
       rw [EG hb2 A0,EG hb1 hlt]) _ _ hcap hyr
      have hbn:¬fn.body=none:=by intro hbb;simp [hbb] at hb
      have hb3:¬fn.name= "runtime.NumGoroutine":=by simpa using hb.2
      have eg:∀args w,(callFunc gf args).run P w=.ok (.enter gf args) w:=λargs w=>by simp [callFunc,hfn,hb3,hbn]
      refine ⟨wd.heap.size,[Gn w.heap.size],w1,{target:=.fn (.func gf) ys,args:=#[.func (.yield wd.heap.size) #[] #[]]},w1,gf,#[.func (.yield wd.heap.size) #[] #[]]++ys,w1,?_,?_,λ_ _=>trivial,?_,λh=>Ao,VB.2 ?_⟩
      ·have:=run_enterLoop_outer (P:=P) (w:=w) fn0 a.tmps ps asg body
       rw [hrec,hwd,hw1,<-hsd] at this;exact this
      ·simp only [resolve,hy]
       simp [go_sem]
      ·simp [invoke,go_sem,eg]
      ·refine (hK.k w0 _ _ β2 _ w1 gf (.CO H.length::cap) _ lv H1 hW4 (by simp only [lV,RL];exact ⟨_,ys.toList,rfl,hyl,hyr2⟩) ⟨ME,AT.mono AI _ hcap⟩ h1).mono λe w2 ⟨v,he,Z',β',r1,r2,r3⟩=>?_
       subst he
       have hat:(β' H.length).b=wd.heap.size:=by
        have:=(r1.gh (LV.CO H.length,Value.func (.yield wd.heap.size) #[] #[]) AI).1
        exact aMo
       have r1':RW G w0 ⟨Z0.z,F.zip a.tmps.toList++Z0.gh,dsB (Gn w.heap.size::ds)++Z0.Cr⟩ Z' β' H1 w2:=⟨r1.below,r1.Bc,r1.Et,r1.Cp,r1.GL,r1.low,r1.inj,r1.blk,r1.Cb,λp hp=>r1.gh p<|N7 _ hp,r1.Cr⟩
       have hF5:=RW.held hF3 r1'
       have hW5:RW G w0 Z0 Z' β' H1 w2:=r1'.less
       obtain ⟨c',t',ps',asg',body',hx⟩:=aeH hx'
       have fin:∀st,H1[H.length]? =ah ⟨c',t',.Cl ps' asg' body' st,X⟩->∃rr,w2.heap[wd.heap.size]? =ah (.loop rr)/\LsR st rr/\∀rr',RW G w0 Z0 Z' β' (H1.set H.length ⟨[],0,.dead,X⟩) (w2.putObj wd.heap.size<|.loop rr')/\RF (Gn w.heap.size::ds) β' Z' (w2.putObj wd.heap.size<|.loop rr') (H1.set H.length ⟨[],0,.dead,X⟩).length F {a with defers:=Gn w.heap.size::a.defers}:=λst hst=>by
        have hbk:=(hW5.blk _ _ hst).1
        simp only [BZ,hat] at hbk;obtain ⟨rr,q1,q2,q3,q4,q5,q6⟩:=hbk;refine ⟨rr,q1,q5,λrr'=>?_⟩
        have hs:=hW5.set (nb:=⟨[],0,.dead,X⟩) (w':=w2.putObj wd.heap.size<|.loop rr') hst trivial rfl rfl ⟨ak,ak⟩ (putObj_size _ _ _) ⟨rfl,rfl,rfl⟩ (λj hj=>M9 (by rw [hat] at hj;exact hj)) trivial
        refine ⟨hs,?_⟩;rw [C3];exact hF5.mono (At _) (λ_ _=>rfl) (λ_ h=>h) λb hz=>M9 λe=>hW5.Cp _ _ hst trivial rfl (by rw [hat,<-e];exact hz)
       rcases hx with ⟨hx,rfl⟩ |⟨hx,hne⟩
       ·obtain ⟨rr,q1,q2,q3⟩:=fin _ hx
        refine ⟨aj,w2.putObj wd.heap.size<|.loop {rr with state:=.exhausted},(run_endLoop q1 (by rw [q2.1];simp)).trans<|by rw [q2.2],?_⟩
        obtain ⟨f1,f2⟩:=q3 {rr with state:=.exhausted}
        exact hQ _ Z' β' _ _ hD2 f1 f2
       ·obtain ⟨rr,q1,q2,q3⟩:=fin _ hx
        refine ⟨aTA x',w2.putObj wd.heap.size<|.loop {rr with state:=.exhausted},(run_endLoop q1 (by rw [q2.1];simp)).trans<|by rw [q2.2],?_⟩
        obtain ⟨f1,f2⟩:=q3 {rr with state:=.exhausted}
        cases x' with
        |normal=>exact absurd rfl hne
        |exit m=>exact wpIn_exit (hQ _ Z' β' _ _ hD2 f1 f2)
        |ret=>exact wpIn_ret<|hQ _ Z' β' _ _ hD2 f1 f2
     ·cases h2
    ·cases h
   ·cases h
  ·cases h
 | .scope c,hl=>λr w0 Z0 Z β F H a w ds Q x F' H' hA hr hD hW hF h hQ=>by
  simp only [DN] at h;refine aeT<|Gg hΓ hK c (λb hb=>hl b<|by simpa [BD] using hb) r w0 Z0 Z β F H a w ds _ x F' H' hA hr hD hW hF h λds' Z' β' a' w' e0 e1 e2=>?_
  cases x with
  |normal=>exact hQ ds' Z' β' a' w' e0 e1 e2
  |exit m=>exact hQ ds' Z' β' a' w' e0 e1 e2
  |ret=>exact hQ ds' Z' β' a' w' e0 e1 e2
 | .label l,_=>λr w0 Z0 Z β F H a w ds Q x F' H' hA hr hD hW hF h hQ=>by
  simp only [DN,T.all,B0] at h;obtain ⟨rfl,rfl,rfl⟩:=h;exact wpIn_label (hQ ds Z β a w hD hW hF)
 | .goto ..,_=>λr w0 Z0 Z β F H a w ds Q x F' H' hA hr hD hW hF h hQ=>aOq
 | .refuse ..,_=>λr w0 Z0 Z β F H a w ds Q x F' H' hA hr hD hW hF h hQ=>aOq
def ov {L:Lg}(hΓ:∀g S,Γ g=ah S->Valid P G g S) (hK:FW P G K) (c:aWO) (hl:∀b∈BD c,Sound P G (.loop b)<|L<|Gp b):Sound P G c (DN P G Γ K (Lx L) c):=Gg (L:=Lx L) hΓ hK c hl
def aLU (a:aWD):ResultVar->Sem Value
 | .tmp t=>pure (a.tmps.getD t undef)
 | .cell ad t=>do loadVar t (←asAddr (a.tmps.getD ad undef))
def rj (fn:aWX) (a:aWD):results fn a.tmps=(do let vs ←fn.results.mapM (aLU a);pure (if h:vs.size=1 then vs[0] else .tuple vs)):=by
 congr 1
def aFO {f:ResultVar->Sem Value}{r:ResultVar}{rs:aXi}{z:aWx}{vs:aWv}(h1:(f r).run P w=.ok z w) (h2:(rs.mapM f).run P w=.ok vs w):((r::rs).mapM f).run P w=.ok (z::vs) w:=by
 simp_all
def cY {fn:aWX}:∀(rs:aXi) (l:aWf),RW G w0 Z0 Z β H w->RF ds β Z w (M H) F a->(S6 P fn F H rs).all (λq=>q=l)->
  ∃vs:aWv,(rs.mapM<|aLU a).run P w=.ok vs w/\RL β Z w l vs/\AT (M H) l
 | [],l,hW,hF,h=>by
  subst h;exact ⟨[],AI,bM,ak⟩
 | .tmp t::rs,l,hW,hF,h=>by
  obtain ⟨l1,h1,h2⟩:=T.B8 h;obtain ⟨vs,e1,e2,e3⟩:=cY rs l1 hW hF h1
  have ev:=hF.eval hW.Cb<|.tmp t
  refine ⟨a.tmps.getD t undef::vs,?_,?_,?_⟩
  ·exact aFO rfl e1
  ·rw [<-h2];simp only [RL];exact ⟨_,_,rfl,Ow ev.1,e2⟩
  ·rw [<-h2];exact ⟨TE ev.2,e3⟩
 | .cell ad t::rs,l,hW,hF,h=>by
  obtain ⟨y,h1,h2⟩:=T.B8 h;obtain ⟨l1,h3,h4⟩:=T.B8 h2;obtain ⟨vs,e1,e2,e3⟩:=cY rs l1 hW hF h3
  have ev:=hF.eval hW.Cb<|.tmp ad
  simp only [AL,Act.eval] at ev;obtain ⟨z,f1,f2,f3⟩:=oY hW h1 ev.1 ev.2
  have f1:=f1 w λ_ _=>rfl
  have f4:(do loadVar t (←asAddr (a.tmps.getD ad undef)):Sem Value).run P w=.ok z w:=by
   have hp:∃q,a.tmps.getD ad undef=.pointer (ah q):=by
    have hr:=ev.1
    generalize hx:F.getD ad .junk=x at h1 hr;cases x with
    |own k off=>simp only [R] at hr;exact ⟨_,hr⟩
    |xq n f=>simp only [R] at hr;obtain ⟨b,off,e,_⟩:=hr;exact ⟨_,e⟩
    |op k es i j=>simp only [R] at hr;exact ⟨_,hr.2⟩
    |_=>unfold FY at h1;split at h1<;>simp only [T.all] at h1
   obtain ⟨q,hq⟩:=hp;rw [hq] at f1|-
   simpa [Instr.loadAt,Instr.sureAddr,asAddr] using f1
  refine ⟨z::vs,?_,?_,?_⟩
  ·exact aFO f4 e1
  ·rw [<-h4];simp only [RL];exact ⟨_,_,rfl,f2,e2⟩
  ·rw [<-h4];exact ⟨f3,e3⟩
def aAo {l:aWf}{vs:aWv}(h:RL β Z w l vs):R β Z w (one l) (if hs:vs.toArray.size=1 then vs.toArray[0] else .tuple vs.toArray):=by
 unfold one
 have hl:=RL.length h
 split
 ·rename_i x
  obtain ⟨y,zs,e1,e2,e3⟩:=h
  grind
 ·rename_i hne
  have:¬vs.toArray.size=1:=by
   intro h1
   simp at h1
   rw [h1] at hl;cases l with
   |nil=>simp at hl
   |cons x xs=>cases xs with
    |nil=>exact hne x rfl
    |cons _ _=>simp at hl
  rw [dif_neg this];exact rS A8
def Wk {l:aWf}(h:AT n l):okV n (one l):=by
 unfold one;split
 ·exact h.1
 ·exact qS h
def aEk {args:aWf}{vals:aWz}(hr:RL β Z w args vals.toList) (hok:AT (M H) args) (m:aWe):RF [] β Z w (M H) (args++aq (m-M args) (.v undef)) {tmps:=vals++Array.replicate (m-vals.size) undef,defers:=[]}:=by
 have hlen:vals.size=M args:=aP8
 refine ⟨A8,λt x hx=>?_,rfl,λ_ h=>Ao⟩
 by_cases ht:t<M args
 ·rw [Hj ht] at hx
  obtain ⟨y,e1,e2⟩:=RL.get _ _ hr hx
  have e3:(vals++Array.replicate (m-vals.size) undef).getD t undef=y:=by
   have hts:t<vals.size:=A0
   have:vals[t]? =ah y:=A8
   rw [lf,xD hts,this];rfl
  exact ⟨A8,AT.get _ _ hok hx⟩
 ·rw [GY A0] at hx
  have hx':x=.v undef:=by
   rw [V9] at hx;split at hx
   ·grind
   ·cases hx
  have e3:(vals++Array.replicate (m-vals.size) undef).getD t undef=undef:=by
   rw [lf,Array.getElem?_append_right A0,Array.getElem?_replicate]
   grind
  rw [hx',e3];exact ⟨Ji,ak⟩
def ad4 {b:aWO}:Gm P G A (.loop b) (fL b):=λ_ _ _ _ _ _ _ _ _ _ _ _ _ _ _ _ _ _ _ h=>Ao
def adp {b:aWO}{t:aWf->aWi->T (Ex×List LV×List AB)}(hb:Gm P G A b t) (m:aWe):Gm P G A (.loop b) (tO t m):=by
 intro r w0 Z0 Z β F H a w ds Q x F' H' hA hr hD hW hF h hQ;refine wpIn_loop_rounds m ?_
 induction m generalizing Z β F H a w ds with
 |zero=>cases h
 | succ m ih=>
  obtain ⟨⟨y,F1,H1⟩,h1,h2⟩:=T.B8 h;refine hb r w0 Z0 Z β F H a w ds _ y F1 H1 hA hr hD hW hF h1 λds' Z' β' a' w' e0 e1 e2=>?_
  cases y with
  |normal=>exact ih Z' β' F1 H1 a' w' ds' e0 e1 e2 h2
  |exit k=>
   obtain ⟨rfl,rfl,rfl⟩:=h2;exact hQ ds' Z' β' a' w' e0 e1 e2
  |ret=>
   obtain ⟨rfl,rfl,rfl⟩:=h2;exact hQ ds' Z' β' a' w' e0 e1 e2
def Sz (hΓ:∀g S,Γ g=ah S->Valid P G g S) (hK:FW P G K) (m:aWe):∀(d:aWe) (b:aWO),Gm P G A (.loop b) (JG P G Γ K m d b)
 |0,_=>ad4
 |d+1,b=>adp (Gg hΓ hK b λb' _=>Sz hΓ hK m d b') m
def aG8:∀(ts:List Tmp) (xs:aWf) (vs:aWv) (F:aWf) (a:aWD),RF ds β Z w n F a->RL β Z w xs vs->AT n xs->RF ds β Z w n (Xg F ts xs) {a with tmps:=(ts.zip vs).foldl (λt (p,v)=>t.setIfInBounds p v) a.tmps}
 | [],_,_,F,a,hF,_,_=>by simpa [Xg] using hF
 |_::_,[],vs,F,a,hF,hr,_=>by
  subst hr
  simpa [Xg] using hF
 |t::ts,x::xs,vs,F,a,hF,hr,hk=>by
  obtain ⟨y,zs,rfl,h1,h2⟩:=hr;exact aG8 ts xs zs (F.set t x) {a with tmps:=a.tmps.setIfInBounds t y} (hF.put h1 hk.1<|ah t) h2 hk.2
def aoo (ps:aW8) (vs:aWz) (t:aWz):(ps.zip vs).foldl (λt (p,v)=>t.setIfInBounds p v) t=(ps.toList.zip vs.toList).foldl (λt (p,v)=>t.setIfInBounds p v) t:=by
 rw [<-Array.foldl_toList,Array.toList_zip]
def Eb (P:aWt) (G:B5) (LL:DS):Prop:=∀(K:aW5) (g:aWF) (fn:aWX) (c:aWO) (N:aWe) (b:aWO),FW P G K->P.funcs[g]? =ah fn->fn.body=ah c->b∈BD c->Gm P G (AN N) (.loop b) (LL K g N b)
def RW.ghost {p:LV×Value}(hW:RW G w0 Z0 Z β H w) (h:R β Z w p.1 p.2/\okV (M H) p.1):RW G w0 ⟨Z0.z,p::Z0.gh,Z0.Cr⟩ Z β H w:=
 ⟨hW.below,hW.Bc,hW.Et,hW.Cp,hW.GL,hW.low,hW.inj,hW.blk,hW.Cb,λq hq=>by
  rcases BA.1 hq with rfl|hq
  ·exact h
  ·exact hW.gh q hq,hW.Cr⟩
def RW.aqj {p:LV×Value}(hW:RW G w0 ⟨Z0.z,p::Z0.gh,Z0.Cr⟩ Z β H w):RW G w0 Z0 Z β H w:=
 ⟨hW.below,hW.Bc,hW.Et,hW.Cp,hW.GL,hW.low,hW.inj,hW.blk,hW.Cb,λq hq=>hW.gh q<|N7 _ hq,hW.Cr⟩
def oU {LL:DS} {K:aW5} (hΓ:∀g S,Γ g=ah S->Valid P G g S) (hLL:Eb P G LL) (hK:FW P G K):FW P G (Ep P G Γ LL K):=by
  refine ⟨λw0 Z0 Z β H w g args vals lv H' hW hr hok h=>?_,λw0 Z0 Z β H w k args vals lv H' hW hr hok h=>?_⟩
  ·simp only [Ep] at h
   split at h
   ·rename_i fn hfn
    split at h
    ·rename_i c hc
     obtain ⟨⟨x,F1,H1⟩,h1,h2⟩:=T.B8 h;refine VB.1<|callsIn_of_wp_marks (n:=0) hfn hc trivial ?_;refine Gg (A:=AN<|M H) (L:=LL K g<|M H) hΓ hK c (λb hb=>hLL _ g fn c (M H) b hK hfn hc hb) aj w0 Z0 Z β _ H _ w [] _ x F1 H1 (λp hp=>(hW.gh p hp).2) (.inl rfl) M4.nil hW (aEk hr hok fn.ntmps) h1 λds' Z' β' a' w' e0 e1 e2=>?_
     have fin:((S6 P fn F1 H1 fn.results.toList).bind λl=>(T.ok (one l,H1):T<|LV×List AB)).all (λq=>q=(lv,H'))->LeavesInM Fence.wide 0 P fn a'.tmps (λe w'=>∃v,e=.returned v/\∃Z' β',RW G w0 Z0 Z' β' H' w'/\R β' Z' w' lv v/\okV (M H') lv) a'.defers .returning w':=λh2=>by
      rw [e2.defers.1];refine aDO ds' w' a' e1 e2 e0 λw'' a'' et f1 f2=>?_
      obtain ⟨l,g1,g2⟩:=T.B8 h2;simp only [T.all,B0] at g2;obtain ⟨g2,g3⟩:=g2;subst g3;obtain ⟨vs,g3,g4,g5⟩:=cY fn.results.toList l f1 f2 g1;refine ⟨if hs:vs.toArray.size=1 then vs.toArray[0] else .tuple vs.toArray,?_,_,rfl,Z',β',f1,?_,?_⟩
      ·rw [<-et,rj,xF]
       simp_all
      ·rw [<-g2];exact aAo g4
      ·rw [<-g2];exact Wk g5
     cases x with
     |normal=>exact fin h2
     |ret=>exact fin h2
     |exit m=>cases h2
    ·cases h
   ·cases h
  ·simp only [Ep] at h
   split at h
   ·rename_i Fr t ps asg body hb
    split at h
    ·rename_i hc
     obtain ⟨hc1,hc2,hc3⟩:=hc;obtain ⟨⟨y,F1,H1⟩,h1,h2⟩:=T.B8 h
     have hbk:=(hW.blk k _ hb).1
     simp only [BZ] at hbk;obtain ⟨rr,q1,q2,q3,q4,q5,q6⟩:=hbk
     have hokF:AT (M H) Fr:=(hW.blk k _ hb).2.1
     have hvl:vals.size=M args:=aP8
     have hkH:k<M H:=(EE.1 hb).1
     refine ⟨rr,q1,by rw [q2,hvl,hc1],?_⟩
     have hF0:RF [] β Z w (M H) Fr {tmps:=rr.tmps,defers:=[]}:=by
      refine ⟨by have:=RL.length q6;simpa using this,λi x hx=>?_,rfl,λ_ h=>Ao⟩
      obtain ⟨v,e1,e2⟩:=RL.get i x q6 hx;refine ⟨?_,AT.get i x hokF hx⟩
      have:rr.tmps.getD i undef=v:=by
       rw [lf]
       have:rr.tmps[i]? =ah v:=by simpa using e1
       rw [this];rfl
      rw [this];exact e2
     have hF1:=aG8 ps.toList args vals.toList Fr _ hF0 hr hok
     generalize hl:(β k).b=l at*
     have hyl:R β Z w (.CO k) (.func (.yield l) #[] #[]):=by simp only [R,hl]
     have hW1:=hW.ghost (p:=(LV.CO k,Value.func (.yield l) #[] #[])) ⟨hyl,hkH⟩
     have atl:∀ {Z':aWe->Prop} {β':aWe->aWU} {H':aWi} {w':aWq},RW G w0 ⟨Z0.z,(LV.CO k,Value.func (.yield l) #[] #[])::Z0.gh,Z0.Cr⟩ Z' β' H' w'->(β' k).b=l:=λr1=>by
      have:=(r1.gh (LV.CO k,Value.func (.yield l) #[] #[]) AI).1
      exact aMo
     refine roundIn_of_wpIn trivial ?_;rw [q3,q4,q2,aoo];refine Gg (A:=λ_=>True) (L:=fL) hΓ hK asg (λb _=>ad4) (ah l) w0 _ Z β _ H _ w [] _ y F1 H1 trivial (.inr hc2) M4.nil hW1 hF1 h1 λds1 Z1 β1 a1 w1 e0 e1 e2=>?_
     simp only at h2;cases y with
     |exit m=>cases h2
     |ret=>cases h2
     | normal=>
      simp only at h2;split at h2
      ·rename_i Fr1 t1 ps1 asg1 body1 hb1
       obtain ⟨⟨x,F2,H2⟩,h3,h4⟩:=T.B8 h2
       have hbk1:=(e1.blk k _ hb1).1
       simp only [BZ] at hbk1;obtain ⟨r1,p1,p2,p3,p4,p5,p6⟩:=hbk1
       have a1l:=atl e1
       rw [a1l] at p1;refine ⟨_,run_beginRound p1 p5.1,?_⟩
       obtain ⟨t1a,t1b⟩:=RW.turn (t':=t) (nb:=.Cl ps1 asg1 body1 .busy) (r':={r1 with state:=.busy}) e1 hb1 (by
        simp only [BZ];rw [a1l];exact ⟨{r1 with state:=.busy},World.putObj_heap_same (Hk.1 p1).1,p2,p3,p4,rfl,RL.mono (n:=M H1) (λ_ _=>rfl) (λ_ h=>h) (λb hz=>M9 λe=>e1.Cp k _ hb1 trivial rfl (by rw [a1l,<-e];exact hz)) _ _ (e1.blk k _ hb1).2.1 p6⟩) ⟨(e1.blk k _ hb1).2.1,ak⟩
       rw [a1l] at t1a t1b
       have hF2:RF ds1 β1 Z1 (w1.putObj l<|.loop {r1 with state:=.busy}) (M<|H1.set k ⟨Fr1,t,.Cl ps1 asg1 body1 .busy,X⟩) F1 a1:=by
        rw [C3];exact e2.mono (At _) (λ_ _=>rfl) (λ_ h=>h) t1b
       refine Gg (A:=λ_=>True) (L:=JG P G Γ K 20 2) hΓ hK body (λb _=>Sz hΓ hK 20 2 b) (ah l) w0 _ Z1 β1 _ _ a1 _ ds1 _ x F2 H2 trivial (.inr hc3) e0 t1a hF2 h3 λds2 Z2 β2 a2 w2 f0 f1 f2=>?_
       split at h4
       ·rename_i Fr2 t2 ps2 asg2 body2 hb2
        have hbk2:=(f1.blk k _ hb2).1
        obtain ⟨r2,s1,s2,s3,s4,s5,s6⟩:=hbk2
        have a2l:=atl f1
        rw [a2l] at s1
        have fin:∀(st:LS) (jump:Option Code) (b:aWo),LsR st {r2 with state:=if jump.isNone then .ready else .done,pending:=jump}->jump.isNone=b->(T.ok (LV.bl b,H2.set k ⟨Fr2,t,.Cl ps2 asg2 body2 st,X⟩):T<|LV×List AB).all (λq=>q=(lv,H'))->
          ∃v w',(Instr.endRound l jump).run P w2=.ok v w'/\(∃v',Ending.returned v=.returned v'/\∃Z' β',RW G w0 Z0 Z' β' H' w'/\R β' Z' w' lv v'/\okV (M H') lv):=λst jump b hst hj h4=>by
         obtain ⟨rfl,rfl⟩:=h4;refine ⟨_,_,run_endRound jump s1,_,rfl,Z2,β2,?_,?_,ak⟩
         ·obtain ⟨t2a,t2b⟩:=RW.turn (t':=t) (nb:=.Cl ps2 asg2 body2 st) (r':={r2 with state:=if jump.isNone then .ready else .done,pending:=jump}) f1 hb2 (by
           simp only [BZ];rw [a2l];exact ⟨_,World.putObj_heap_same (Hk.1 s1).1,s2,s3,s4,hst,RL.mono (n:=M H2) (λ_ _=>rfl) (λ_ h=>h) (λb hz=>M9 λe=>f1.Cp k _ hb2 trivial rfl (by rw [a2l,<-e];exact hz)) _ _ (f1.blk k _ hb2).2.1 s6⟩) ⟨(f1.blk k _ hb2).2.1,ak⟩
          rw [a2l] at t2a;exact t2a.aqj
         ·simp only [R,hj]
        cases x with
        |normal=>exact fin .ready aj U ⟨rfl,rfl⟩ rfl h4
        |exit m=>exact fin (.done<|.exit m) (ah<|.exit m) X ⟨rfl,rfl⟩ rfl h4
        |ret=>exact fin (.done .ret) (ah .ret) X ⟨rfl,rfl⟩ rfl h4
       ·cases h4
      ·cases h2
    ·cases h
   ·cases h
def aDi {LL:DS}(hΓ:∀g S,Γ g=ah S->Valid P G g S) (hLL:Eb P G LL):∀(d:aWe),FW P G (inl P G Γ LL d)
 |0=>QR
 |d+1=>oU hΓ hLL<|aDi hΓ hLL d
def Dj (P:aWt) (G:B5) (g:aWF) (m:aWf->aWi->T (LV×List AB)):Prop:=
 ∀(w0:aWq) (Z0:Gz) (Z:aWe->Prop) (β:aWe->aWU) (H:aWi) (w:aWq) (args:aWf) (vals:aWz) (lv:LV) (H':aWi),RW G w0 Z0 Z β H w->RL β Z w args vals.toList->AT (M H) args->(m args H).all (λq=>q=(lv,H'))->
  Calls P g vals w λe w'=>∃v,e=.returned v/\∃Z' β',RW G w0 Z0 Z' β' H' w'/\R β' Z' w' lv v/\okV (M H') lv
def aDa {LL:DS}{C:Does}(hΓ:∀g S,Γ g=ah S->Valid P G g S) (hLL:Eb P G LL) (hC:∀g m,C g=ah m->Dj P G g m):∀(d:aWe),FW P G (Uy P G Γ LL C d)
 |0=>QR
 | d+1=>by
  have h:=oU hΓ hLL<|aDa hΓ hLL hC d
  refine ⟨λw0 Z0 Z β H w g args vals lv H' hW hr hok hq=>?_,h.y⟩
  simp only [Uy] at hq;split at hq
  ·rename_i m hm
   exact hC g m hm w0 Z0 Z β H w args vals lv H' hW hr hok hq
  ·exact h.k w0 Z0 Z β H w g args vals lv H' hW hr hok hq
def Dj.walk {LL:DS}{K:aW5}{g:aWF}{m:aWf->aWi->T (LV×List AB)}(hΓ:∀g S,Γ g=ah S->Valid P G g S) (hLL:Eb P G LL) (hK:FW P G K)
  (hm:∀args H lv H',(m args H).all (λq=>q=(lv,H'))->((Ep P G Γ LL K).k g args H).all (λq=>q=(lv,H'))):Dj P G g m:=
 λw0 Z0 Z β H w args vals lv H' hW hr hok hq=>(oU hΓ hLL hK).k w0 Z0 Z β H w g args vals lv H' hW hr hok<|hm args H lv H' hq
def E5 (P:aWt) (G:B5) (Γ:aWR) (m d:aWe):DS:=λK _ _=>JG P G Γ K m d
def Hv {m d:aWe}(hΓ:∀g S,Γ g=ah S->Valid P G g S):Eb P G (E5 P G Γ m d):=λ_ _ _ _ _ b hK _ _ _=>Sz hΓ hK m d b
def CV (g:aWF) (N id:aWe) (t:aWf->aWi->T (Ex×List LV×List AB)) (LL:DS):DS:=λK g' N' b=>if g'=g/\N'=N/\Gp b=id then t else LL K g' N' b
def DM {g:aWF}{N id:aWe}{t:aWf->aWi->T (Ex×List LV×List AB)}{LL:DS}{fn:aWX}{c bd:aWO}(hfn:P.funcs[g]? =ah fn) (hc:fn.body=ah c) (hid:(BD c).filter (λb=>Gp b==id)=[bd]) (ht:Gm P G (AN N) (.loop bd) t) (h:Eb P G LL):Eb P G (CV g N id t LL):=by
 intro K g' fn' c' N' b hK hfn' hc' hb;unfold CV;split
 ·rename_i e
  obtain ⟨rfl,rfl,e⟩:=e;rw [hfn] at hfn'
  have:=EF hfn'
  subst this;rw [hc] at hc'
  have:=EF hc'
  subst this
  have hm:b∈(BD c).filter (λb=>Gp b==id):=CS.2 ⟨hb,A8⟩
  have:b=bd:=A8
  subst this;exact ht
 ·exact h K g' fn' c' N' b hK hfn' hc' hb
def aE8 {f:aWF}{fn:aWX}{c:aWO}{t:aWf->aWi->T (Ex×List LV×List AB)}(hfn:P.funcs[f]? =ah fn) (hc:fn.body=ah c) (ht:Sound P G c t):Valid P G f (wP P fn t):=by
 intro args vals w Z lv hz hg hok hr h;obtain ⟨⟨x,F',H'⟩,h1,h2⟩:=T.B8 h;refine VB.1<|callsIn_of_wp_marks (n:=0) hfn hc trivial ?_
 have hW:RW G w ⟨Z,[],[]⟩ Z β0 [] w:=⟨Below.refl _ _,hz,λb h=> .inl h,λk b hk=>zF,λk b hk=>zF,λk b hk=>zF,λi j bi bj hi=>by simp at hi,λk b hb=>by simp at hb,hg,λp hp=>nI,λD hD=>(by cases hD)⟩
 have hF:=aEk (H:=[]) hr hok fn.ntmps
 refine ht aj w ⟨Z,[],[]⟩ Z β0 _ [] _ w [] _ x F' H' (λp hp=>nI) (.inl rfl) M4.nil hW hF h1 λds' Z' β' a' w' e0 e1 e2=>?_
 have fin:((S6 P fn F' H' fn.results.toList).bind λl=>if noOwn (one l) then (T.ok (one l):T LV) else (EZ H' 8<|one l).bind λ_=> .ok<|C1 H' 8<|one l).all (λx=>x=lv)->LeavesInM Fence.wide 0 P fn a'.tmps (λe w'=>Below w.heap.size w w'/\∃v',e=.returned v'/\okV 0 lv/\R β0 (λb=>Z b\/(w.heap.size<=b/\b<w'.heap.size)) w' lv v') a'.defers .returning w':=λh2=>by
  rw [e2.defers.1];refine aDO ds' w' a' e1 e2 e0 λw'' a'' et f1 f2=>?_
  obtain ⟨l,g1,g2⟩:=T.B8 h2;split at g2
  ·rename_i hno
   obtain ⟨vs,g3,g4,g5⟩:=cY fn.results.toList l f1 f2 g1
   have hok0:okV 0 lv:=by rw [<-g2];exact noOwn_ok _ hno<|Wk g5
   refine ⟨if hs:vs.toArray.size=1 then vs.toArray[0] else .tuple vs.toArray,?_,f1.below,_,rfl,hok0,?_⟩
   ·rw [<-et,rj,xF]
    simp_all
   ·have:=aAo g4
    rw [g2] at this
    exact R.mono (n:=0) (λ_ hk=>absurd hk A0) (λb hb=>by
     rcases f1.Et b hb with h|h
     ·exact .inl h
     ·exact .inr ⟨h,f1.Bc b hb⟩) (λ_ _=>rfl) _ _ hok0 this
  ·obtain ⟨_,hg,g2⟩:=T.B8 g2
   have hG:=T.BY (K':=λ_=>True) (λ_ _=>trivial) hg
   obtain ⟨vs,g3,g4,g5⟩:=cY fn.results.toList l f1 f2 g1
   have hok0:okV 0 lv:=by rw [<-g2];exact QS H' (λk b hb=>(f1.blk k b hb).2) 8 _<|Wk g5
   refine ⟨if hs:vs.toArray.size=1 then vs.toArray[0] else .tuple vs.toArray,?_,f1.below,_,rfl,hok0,?_⟩
   ·rw [<-et,rj,xF]
    simp_all
   ·have:=MV (S:=λ_=>True) f1 (λ_ _ _ _ _ _=>trivial) 8 _ _ hG (λ_ _=>trivial) (Wk g5) (aAo g4)
    rw [g2] at this
    exact R.mono (n:=0) (λ_ hk=>absurd hk A0) (λb hb=>by
     rcases hb with hb|⟨k,bk,_,h2,h3,rfl⟩
     ·rcases f1.Et b hb with h|h
      ·exact .inl h
      ·exact .inr ⟨h,f1.Bc b hb⟩
     ·exact .inr ⟨f1.low k bk h2 h3,f1.lt h2 h3⟩) (λ_ _=>rfl) _ _ hok0 this
 cases x with
 |normal=>exact fin h2
 |ret=>exact fin h2
 |exit m=>cases h2
def aom {f:aWF}{fn:aWX}{c:aWO}{S:aWf->T LV}{L:Lg}(hfn:P.funcs[f]? =ah fn) (hc:fn.body=ah c) (hΓ:∀g S,Γ g=ah S->Valid P G g S) (hK:FW P G K)
  (hL:∀b∈BD c,Sound P G (.loop b)<|L<|Gp b) (hS:∀args lv,(S args).all (λx=>x=lv)->(wU P G Γ K L fn args).all (λx=>x=lv)):Valid P G f S:=λargs vals w Z lv hz hg hok hr h=>
 aE8 hfn hc (ov hΓ hK c hL) args vals w Z lv hz hg hok hr (by have:=hS args lv h;unfold wU at this;simpa only [hc] using this)
end Go.Sx
namespace Go.Sx
open Go Go.RowKit Go.Proofs.YtoifmkifedcnnaaGreatDoor
variable {P : Program} {G : B5} {Γ : Specs} {L : Lg} {β : Nat -> Loc} {Z : Nat -> Prop} {Z0 : Gz} {w w0 : World} {F : List LV} {H : List AB} {a : Act} {ds : List Deferred} {n : Nat}
def qQ {c:aWO}(h:BD c=[]):∀b∈BD c,Sound P G (.loop b) (L<|Gp b):=λb hb=>A8
def Vs (P:aWt) (G:B5):List (FuncId×(List LV->T LV))->Prop
 | []=>True
 |p::ps=>Valid P G p.1 p.2/\Vs P G ps
def pS:∀ {l:List<|FuncId×(List LV->T LV)},Vs P G l->∀g S,DL l g=ah S->Valid P G g S
 | [],_,g,S,h=>Ao
 |p::ps,hv,g,S,h=>by
  simp only [DL] at h;split at h
  ·rename_i hg;simp only [Ai] at h;subst h hg;exact hv.1
  ·exact pS hv.2 g S h
def aF4 {α:Type}{t t':T α}{K:α->Prop}(h:t=t') (h':t'.all K):t.all K:=h▸h'
end Go.Sx
namespace Go.Sx
open Go Go.RowKit Go.Proofs.YtoifmkifedcnnaaGreatDoor
variable {P : Program} {G : B5} {Γ : Specs} {L : Lg} {β : Nat -> Loc} {Z : Nat -> Prop} {Z0 : Gz} {w w0 : World} {F : List LV} {H : List AB} {a : Act} {ds : List Deferred} {n : Nat}
def pos (k:aWe):aWj->aWe->Nat
 | [],i=>i
 |j::js,i=>if k=j then i else pos k js (i+1)
def aDB {k:aWe}:∀ {ks:aWj}(i:aWe),k∈ks->i<=pos k ks i/\ks[pos k ks i-i]? =ah k/\pos k ks i<i+M ks
 | [],i,h=>Ao
 | j::js,i,h=>by
  simp only [pos];split
  ·grind
  ·rename_i e
   have hk:k∈js:=by
    rcases BA.1 h with h|h
    ·grind
    ·exact h
   obtain ⟨h1,h2,h3⟩:=aDB (i+1) hk;refine ⟨A0,?_,A8⟩
   grind
mutual
def renV (ks:aWj):LV->LV
 | .v x=> .v x
 | .bl b=> .v (.bool b)
 | .ki k n=> .v (ag k n)
 | .own k off=> .own (pos k ks 0) off
 | .agg l=> .agg (renL ks l)
 | .AO l=> .AO (renL ks l)
 | .fn f l=> .fn f (renL ks l)
 | .fb f l=> .fb f (renL ks l)
 | .xq n f=> .xq n f
 | .xl e l=> .xl e l
 | .os k es off n=> .os (pos k ks 0) es off n
 | .op k es i j=> .op (pos k ks 0) es i j
 | .om k=> .om (pos k ks 0)
 | .mp kd kk l=> .mp kd kk (renL ks l)
 | .oc k es off n c=> .oc (pos k ks 0) es off n c
 | .CO k=> .CO (pos k ks 0)
 | .junk=> .junk
def renL (ks:aWj):aWf->List LV
 | []=>[]
 |x::xs=>renV ks x::renL ks xs
end
def K0 (ks:aWj):BK->BK
 | .cl=> .cl
 | .vec e l=> .vec e l
 | .mp kd kk vs=> .mp kd kk (renL ks vs)
 | .Cl ps asg body st=> .Cl ps asg body st
 | .st e l=> .st e l
 | .dead=> .dead
def Ie (ks:aWj) (b:AB):AB:=⟨renL ks b.c,b.t,K0 ks b.k,b.p⟩
def U9:AB:=⟨[],0,.dead,X⟩
def nodupB:aWj->Bool
 | []=>U
 |k::ks=>!ks.contains k&&nodupB ks
def aEW:∀ {ks:aWj},nodupB ks=U->∀(i j k:aWe),ks[i]? =ah k->ks[j]? =ah k->i=j
 | [],_,i,j,k,h,_=>A8
 | x::xs,hn,i,j,k,hi,hj=>by
  simp only [nodupB,AY,D2] at hn;cases i with
  | zero=>
   cases j with
   |zero=>rfl
   |succ j=>
    grind
  | succ i=>
   cases j with
   |zero=>
    grind
   |succ j=>
    rw [aEW hn.2 i j k hi hj]
def Rn (ks:aWj) (β β':aWe->aWU):Prop:=∀i k,ks[i]? =ah k->β' i=β k
def Rn.at {ks:aWj}{β':aWe->aWU}(h:Rn ks β β') {k:aWe}(hk:k∈ks):β' (pos k ks 0)=β k/\pos k ks 0<M ks:=by
 obtain ⟨_,h2,h3⟩:=aDB 0 hk;exact ⟨h _ _ A8,A0⟩
mutual
def ren_R {ks:aWj}{β':aWe->aWU}{n:aWe}(h:Rn ks β β'):∀(x:LV) (y:aWx),(∀k,k∈owns x->k∈ks)->okV n x->R β Z w x y->R β' Z w (renV ks x) y
 | .v _,_,_,_,hr=>hr
 | .bl _,_,_,_,hr=>hr
 | .ki _ _,_,_,_,hr=>hr
 | .own k off,y,ho,hok,hr=>by
  exact VG
 | .agg l,y,ho,hok,hr=>by
  exact lu
 | .AO l,y,ho,hok,hr=>by
  exact lu
 | .fn f l,y,ho,hok,hr=>by
  exact lu
 | .fb f l,y,ho,hok,hr=>by
  exact lu
 | .xq n f,y,ho,hok,hr=>by
  simp only [renV,R,okV] at*;obtain ⟨b,off,h1,h2,h3⟩:=hr;refine ⟨b,off,h1,h2,λj hj=>?_⟩
  obtain ⟨z,h4,h5⟩:=h3 j hj;exact ⟨z,h4,R.mono (n:=0) (λ_ hk=>absurd hk A0) (λ_ h=>h) (λ_ _=>rfl) _ _ (hok j) h5⟩
 | .xl e l,y,ho,hok,hr=>by simp only [renV,R] at*;exact hr
 | .os k es off n,y,ho,hok,hr=>by
  exact VG
 | .op k es i j,y,ho,hok,hr=>by
  exact VG
 | .om k,y,ho,hok,hr=>by
  exact VG
 | .mp kd kk l,y,ho,hok,hr=>by
  simp only [renV,R,owns,okV] at*;obtain ⟨r,es,clock,h1,h2,h3,h4,h5⟩:=hr;exact ⟨r,es,clock,h1,h2,h3,h4,ren_RL h l _ ho hok h5⟩
 | .oc k es off n c,y,ho,hok,hr=>by
  exact VG
 | .CO k,y,ho,hok,hr=>by
  exact VG
 | .junk,_,_,_,_=>by simp only [renV,R]
def ren_RL {ks:aWj}{β':aWe->aWU}{n:aWe}(h:Rn ks β β'):∀(l:aWf) (ys:aWv),(∀k,k∈ownsL l->k∈ks)->AT n l->RL β Z w l ys->RL β' Z w (renL ks l) ys
 | [],_,_,_,hr=>by simpa only [renL,RL] using hr
 |x::xs,ys,ho,hok,hr=>by
  simp only [renL,RL,ownsL,BX,AT] at*;obtain ⟨y,zs,h1,h2,h3⟩:=hr;exact ⟨y,zs,h1,ren_R h x y (λk hk=>ho k (.inl hk)) hok.1 h2,ren_RL h xs zs (λk hk=>ho k (.inr hk)) hok.2 h3⟩
end
mutual
def ren_ok {ks:aWj}{n:aWe}:∀(x:LV),(∀k,k∈owns x->k∈ks)->okV n x->okV (M ks) (renV ks x)
 | .v _,_,_=>trivial
 | .bl _,_,_=>trivial
 | .ki _ _,_,_=>trivial
 | .own k off,ho,_=>VS
 | .agg l,ho,hk=>aW
 | .AO l,ho,hk=>aW
 | .fn f l,ho,hk=>aW
 | .fb f l,ho,hk=>aW
 | .xq n f,_,hk=>by simpa only [renV,okV] using hk
 | .xl _ _,_,_=>trivial
 | .os k _ _ _,ho,_=>VS
 | .op k _ _ _,ho,_=>VS
 | .om k,ho,_=>VS
 | .mp kd kk l,ho,hk=>aW
 | .oc k _ _ _ _,ho,_=>VS
 | .CO k,ho,_=>VS
 | .junk,_,_=>trivial
def ren_okL {ks:aWj}{n:aWe}:∀(l:aWf),(∀k,k∈ownsL l->k∈ks)->AT n l->AT (M ks) (renL ks l)
 | [],_,_=>trivial
 |x::xs,ho,hk=>by
  simp only [renL,AT,ownsL,BX] at*;exact ⟨ren_ok x (λk hk=>ho k (.inl hk)) hk.1,ren_okL xs (λk hk=>ho k (.inr hk)) hk.2⟩
end
def dA {ks:aWj}{β':aWe->aWU}{i k:aWe}{b:AB}(h:β' i=β k):live β' i (Ie ks b)↔live β k b:=by
 unfold live Ie;cases hb:b.k<;>simp [K0,h]
def nU (N:aWe) (ks:aWj):aWo:=ks.take N==au N
def aFr {N:aWe}{ks:aWj}(h:nU N ks=U):N<=M ks/\∀i,i<N->ks[i]? =ah i:=by
 have h:ks.take N=au N:=by simpa [nU] using h
 have hl:=B3 M h
 simp at hl
 refine ⟨A0,λi hi=>?_⟩
 have:=B3 (λl=>l[i]?) h
 simp only [LD,AD hi] at this;rw [this]
 simp [hi]
def RW.ren {N:aWe}{ks:aWj}{l:aWf}(hgh:AN N Z0) (hW:RW G w0 Z0 Z β H w) (hc:KT H ks l=U) (hn:nodupB ks=U) (hpin:nU N ks=U):
  ∃β',Rn ks β β'/\RW G w0 Z0 Z β' (ks.map λk=>Ie ks<|H.getD k U9) w:=by
 have hex:∀k,k∈ks->∃b,H[k]? =ah b:=λk hk=>by
  unfold KT at hc;simp only [AY,BO] at hc
  have:=hc.2 k hk
  cases hb:H[k]? with
  |none=>rw [hb] at this;cases this
  |some b=>exact ⟨b,rfl⟩
 obtain ⟨c1,c2⟩:=Ss hc;refine ⟨λi=>β<|ks.getD i 0,λi k hi=>by simp [List.getD,hi],?_⟩
 have hRn:Rn ks β (λi=>β<|ks.getD i 0):=λi k hi=>by simp [List.getD,hi]
 generalize hβ':(λi=>β<|ks.getD i 0)=β' at hRn|-
 have old:∀i b,(ks.map λk=>Ie ks<|H.getD k U9)[i]? =ah b->∃k b0,ks[i]? =ah k/\k∈ks/\H[k]? =ah b0/\b=Ie ks b0/\β' i=β k:=λi b hb=>by
  rw [Df] at hb;cases hk:ks[i]? with
  |none=>simp [hk] at hb
  |some k=>
   have hkm:=OP hk
   grind
 refine ⟨hW.below,hW.Bc,hW.Et,λi b hb hl hp=>?_,λi b hb hl hp=>?_,λi b hb hl=>?_,λi j bi bj hi hj li lj pi e=>?_,λi b hb=>?_,hW.Cb,λp hp=>⟨R.mono (n:=N) (λk hk=>hRn k k<|(aFr hpin).2 k hk) (λ_ h=>h) (λ_ _=>rfl) _ _ (hgh p hp) (hW.gh p hp).1,okV.mono (by rw [GB];exact (aFr hpin).1) _<|hgh p hp⟩,hW.Cr⟩
 ·obtain ⟨k,b0,h1,h2,h3,rfl,h5⟩:=old i b hb
  rw [h5];exact hW.Cp k b0 h3 ((dA h5).1 hl) hp
 ·obtain ⟨k,b0,h1,h2,h3,rfl,h5⟩:=old i b hb
  rw [h5];exact hW.GL k b0 h3 ((dA h5).1 hl) hp
 ·obtain ⟨k,b0,h1,h2,h3,rfl,h5⟩:=old i b hb
  rw [h5];exact hW.low k b0 h3<|(dA h5).1 hl
 ·obtain ⟨k,b0,h1,h2,h3,rfl,h5⟩:=old i bi hi
  obtain ⟨k',b1,g1,g2,g3,rfl,g5⟩:=old j bj hj;rw [h5,g5] at e
  have:=hW.inj k k' b0 b1 h3 g3 ((dA h5).1 li) ((dA g5).1 lj) pi e
  subst this;exact aEW hn i j k h1 g1
 ·obtain ⟨k,b0,h1,h2,h3,rfl,h5⟩:=old i b hb
  obtain ⟨q1,q2⟩:=hW.blk k b0 h3
  have ow:=c2 k b0 h2 h3
  have owc:∀j,j∈ownsL b0.c->j∈ks:=λj hj=>ow j (by unfold AB.owns;exact BX.2<|.inl hj)
  rw [GB];refine ⟨?_,ren_okL _ owc q2.1,?_⟩
  ·unfold BZ at q1|-
   unfold Ie;cases hbk:b0.k with
   |cl=>
    simp only [hbk,K0] at q1|-;obtain ⟨cs,e1,e2⟩:=q1;exact ⟨cs,yv,ren_RL hRn _ _ owc q2.1 e2⟩
   |vec e l=>
    simp only [hbk,K0] at q1|-;rw [h5];exact q1
   |mp kd kk vs=>
    simp only [hbk,K0] at q1|-;obtain ⟨es,clock,e1,e2,e3⟩:=q1;exact ⟨es,clock,yv,e2,ren_RL hRn _ _ (λj hj=>ow j aON) (by have:=q2.2;rw [hbk] at this;exact this) e3⟩
   |Cl ps asg body st=>
    simp only [hbk,K0] at q1|-;obtain ⟨r,e1,e2,e3,e4,e5,e6⟩:=q1;exact ⟨r,yv,e2,e3,e4,e5,ren_RL hRn _ _ owc q2.1 e6⟩
   |st e l=>
    simp only [hbk,K0] at q1|-;rw [h5];exact q1
   |dead=>simp only [K0]
  ·have q22:=q2.2
   unfold Ie;cases hbk:b0.k with
   |mp kd kk vs=>
    simp only [hbk,K0] at q22|-;exact ren_okL _ (λj hj=>ow j aON) q22
   |cl=>simp only [K0]
   |vec e l=>simp only [K0]
   |Cl ps asg body st=>simp only [K0]
   |st e l=>simp only [K0]
   |dead=>simp only [K0]
def at_ (i:aWe):aWj->aWf->LV
 |j::js,x::xs=>if i=j then x else at_ i js xs
 |_,_=> .junk
def Qg (live:aWj) (vals:aWf):aWe->aWe->List LV
 |0,_=>[]
 |n+1,i=>at_ i live vals::Qg live vals n (i+1)
def Hw (n:aWe) (live:aWj) (vals:aWf):aWf:=Qg live vals n 0
def aDC (live:aWj) (vals:aWf):∀n i,M (Qg live vals n i)=n
 |0,_=>rfl
 |n+1,i=>by simp [Qg,aDC live vals n<|i+1]
def adV (live:aWj) (vals:aWf):∀n i k,k<n->(Qg live vals n i)[k]? =ah (at_ (i+k) live vals)
 |0,_,k,h=>A0
 |n+1,i,0,_=>by simp [Qg]
 |n+1,i,k+1,h=>by
  simp only [Qg,lr];rw [adV live vals n (i+1) k A0]
  grind
def aTk (i:aWe):∀(live:aWj) (vals:aWf),at_ i live vals=.junk\/∃p:aWe,live[p]? =ah i/\vals[p]? =ah (at_ i live vals)
 | [],_=> .inl rfl
 |_::_,[]=> .inl rfl
 | j::js,x::xs=>by
  simp only [at_];split
  ·rename_i h;exact .inr ⟨0,nD,AI⟩
  ·rcases aTk i js xs with h|⟨p,h1,h2⟩
   ·exact .inl h
   ·exact .inr ⟨p+1,A8,A8⟩
def Ts (live:aWj) (F:aWf):aWf:=live.map λj=>norm<|F.getD j .junk
def ar0 {live:aWj}(hF:RF ds β Z w n F a):RL β Z w (Ts live F) (live.map λj=>a.tmps.getD j undef)/\AT n (Ts live F):=by
 have one:∀j,R β Z w (F.getD j .junk) (a.tmps.getD j undef)/\okV n (F.getD j .junk):=λj=>by
  cases hj:F[j]? with
  |none=>simp [List.getD,hj,R,okV]
  |some x=>simp only [List.getD,hj,lP];exact hF.get j x hj
 refine ⟨RL.CU (by simp [Ts]) λi x hx=>?_,AT.CU λi x hx=>?_⟩
 ·simp only [Ts,Df] at hx|-
  cases hl:live[i]? with
  |none=>simp [hl] at hx
  |some j=>simp [hl] at hx;subst hx;exact ⟨_,AI,Ow (one j).1⟩
 ·simp only [Ts,Df] at hx
  cases hl:live[i]? with
  |none=>simp [hl] at hx
  |some j=>simp [hl] at hx;subst hx;exact TE (one j).2
def apv {live:aWj}{vals:aWf}{N:aWe}(hs:a.tmps.size=N) (hd:a.defers=ds/\∀d,d∈ds->∃D,d=Gn D/\Z D/\Fv w D) (h:RL β Z w vals<|live.map λj=>a.tmps.getD j undef) (hk:AT n vals):RF ds β Z w n (Hw N live vals) a:=by
 refine ⟨by rw [hs];simp [Hw,aDC],λt x hx=>?_,hd⟩
 have ht:t<N:=by have:=(EE.1 hx).1;simpa [Hw,aDC] using this
 unfold Hw at hx;rw [adV live _ _ _ t ht] at hx;simp only [Ai,Ek] at hx;rcases aTk t live vals with h1|⟨p,h1,h2⟩
 ·rw [hx] at h1;subst h1;exact ⟨Ji,ak⟩
 ·rw [hx] at h2
  obtain ⟨y,e1,e2⟩:=RL.get _ _ h h2;simp only [Df,h1,Jh,Ai] at e1;subst e1;exact ⟨e2,AT.get _ _ hk h2⟩
inductive Up where
 |nl (i:Nat) (t:TypeId) (ty:Ty)
 |pb (i:Nat) (ty:Ty)
 |nc (k j:Nat) (t:TypeId) (ty:Ty)
 |pc (k j:Nat) (ty:Ty)
 |pk (k:Nat)
 |ns (i j:Nat) (t:TypeId) (ty:Ty)
 |ps (i j:Nat) (ty:Ty)
 |mc (k j:Nat)
 |kb (k:Nat)
 |ms (i j:Nat)
def anq (F:aWf):Up->Up
 | .ns i j t ty=>match F.getD i .junk with
  | .own k _=> .nc k j t ty
  |_=> .ns i j t ty
 | .ps i j ty=>match F.getD i .junk with
  | .own k _=> .pc k j ty
  |_=> .ps i j ty
 | .ms i j=>match F.getD i .junk with
  | .own k _=> .mc k j
  |_=> .ms i j
 |u=>u
def DP:List Up->aWf->aWi->T (List LV×List AB)
 | [],F,H=> .ok (F,H)
 | .nl i t ty::us,F,H=>match F.getD i .junk with
  | .v (.slice aj 0 0)=>DP us (F.set i<|.os (M H) ty.n 0 0) (H++[⟨[],t,.vec ty [],X⟩])
  |_=>DP us F H
 | .pb i ty::us,F,H=>match F.getD i .junk with
  | .v (.slice aj 0 0)=>DP us (F.set i<|.xl ty []) H
  | .os k es off n=>if KT H (reach H 64 [k] []) [.os k es off n] then (EZ H 6<|.os k es off n).bind λ_=>DP us (F.set i<|C1 H 6<|.os k es off n) (Ft (reach H 64 [k] []) 0 H) else .no
  |_=>DP us F H
 | .nc k j t ty::us,F,H=>match H[k]? with
  |some ⟨c,bt,.cl,X⟩=>(match c[j]? with
   |some (.v (.slice aj 0 0))=>DP us F (H.set k ⟨c.set j<|.os (M H) ty.n 0 0,bt,.cl,X⟩++[⟨[],t,.vec ty [],X⟩])
   |_=>DP us F H)
  |_=>DP us F H
 | .pc k j ty::us,F,H=>match H[k]? with
  |some ⟨c,bt,.cl,X⟩=>(match c[j]? with
   |some (.v (.slice aj 0 0))=>DP us F (H.set k ⟨c.set j<|.xl ty [],bt,.cl,X⟩)
   |some (.os k' es off n)=>if KT H (reach H 64 [k'] []) [.os k' es off n]&&!(reach H 64 [k'] []).contains k then (EZ H 6<|.os k' es off n).bind λ_=>DP us F ((Ft (reach H 64 [k'] []) 0 H).set k ⟨c.set j<|C1 H 6<|.os k' es off n,bt,.cl,X⟩) else .no
   |_=>DP us F H)
  |_=>DP us F H
 | .pk k::us,F,H=>DP us F (Ft (reach H 64 [k] []) 0 H)
 | .kb k::us,F,H=>DP us F (H.set k ⟨[],0,.dead,X⟩)
 | .ns ..::us,F,H=>DP us F H
 | .ps ..::us,F,H=>DP us F H
 | .mc k j::us,F,H=>match H[k]? with
  | some ⟨c,bt,.cl,X⟩=>(match c[j]? with
   |some (.os k' es off n)=>(match H[k']? with
    |some ⟨[],t,.vec e l,X⟩=>DP us F ((H.set k' (⟨[],t,.dead,X⟩:AB)++[(⟨[],t,.vec e l,X⟩:AB)]).set k ⟨c.set j<|.os (M H) es off n,bt,.cl,X⟩)
    |_=>DP us F H)
   |_=>DP us F H)
  |_=>DP us F H
 | .ms ..::us,F,H=>DP us F H
def RL.set':∀ {l:aWf}{ys:aWv}{j:aWe}{x:LV}{y:aWx},RL β Z w l ys->ys[j]? =ah y->R β Z w x y->RL β Z w (l.set j x) ys
 | [],ys,j,x,y,h,hy,_=>A8
 |z::l,ys,0,x,y,h,hy,hr=>by
  obtain ⟨y0,zs,rfl,h1,h2⟩:=h
  simp at hy
  subst hy;exact ⟨_,zs,rfl,hr,h2⟩
 |z::l,ys,j+1,x,y,h,hy,hr=>by
  obtain ⟨y0,zs,rfl,h1,h2⟩:=h;exact ⟨y0,zs,rfl,h1,RL.set' h2 A8 hr⟩
def AT.set' {n:aWe}:∀ {l:aWf}{j:aWe}{x:LV},AT n l->okV n x->AT n (l.set j x)
 | [],_,_,h,_=>A8
 |z::l,0,x,h,hx=>⟨hx,h.2⟩
 |z::l,j+1,x,h,hx=>⟨h.1,AT.set' h.2 hx⟩
def RW.tell {k j:aWe}{c:aWf}{bt:aWu}{x:LV}(hW:RW G w0 Z0 Z β H w) (hb:H[k]? =ah ⟨c,bt,.cl,X⟩) (hx:∀y,(∃z,c[j]? =ah z/\R β Z w z y)->R β Z w x y) (hj:∃z,c[j]? =ah z) (hok:okV (M H) x):RW G w0 Z0 Z β (H.set k ⟨c.set j x,bt,.cl,X⟩) w:=by
 obtain ⟨h1,h2⟩:=hW.blk k _ hb;obtain ⟨cs,g1,g2⟩:=h1;obtain ⟨z,hz⟩:=hj;obtain ⟨y,q1,q2⟩:=RL.get j z g2 hz;refine hW.set hb trivial rfl rfl ⟨AT.set' h2.1 hok,ak⟩ rfl ⟨rfl,rfl,rfl⟩ (λ_ _=>rfl) ?_
 exact ⟨cs,g1,RL.set' g2 q1<|hx y ⟨z,hz,q2⟩⟩
def Jk:∀(us:List Up) (F:aWf) (H:aWi) (Z:aWe->Prop) (β:aWe->aWU) (F1:aWf) (H1:aWi),RW G w0 Z0 Z β H w->RF ds β Z w (M H) F a->(DP us F H).all (λq=>q=(F1,H1))->∃Z' β',RW G w0 Z0 Z' β' H1 w/\RF ds β' Z' w (M H1) F1 a/\M F1=M F
 | [],F,H,Z,β,F1,H1,hW,hF,h=>by
  simp only [DP,T.all,B0] at h;obtain ⟨rfl,rfl⟩:=h;exact ⟨Z,β,hW,hF,rfl⟩
 | .nl i t ty::us,F,H,Z,β,F1,H1,hW,hF,h=>by
  simp only [DP] at h;split at h
  ·rename_i hx
   obtain ⟨s1,s2⟩:=hF.slot hx AI
   have hv:=(hF.get i _ s1).1
   simp only [R] at hv;obtain ⟨β',b1,b2,b3⟩:=hW.Km (ℓ:=⟨w.heap.size,0,aj⟩) (nb:=⟨[],t,.vec ty [],X⟩) rfl ⟨ak,ak⟩ (λhl=>absurd rfl hl) λβ' g1 g2=>yU
   have hF1:RF ds β' Z w (M<|H++[(⟨[],t,.vec ty [],X⟩:AB)]) F a:=hF.mono AI b1 (λ_ h=>h) λ_ _=>rfl
   obtain ⟨Z2,β2,c1,c2,c3⟩:=Jk us (F.set i<|.os (M H) ty.n 0 0) _ Z β' F1 H1 b3 (hF1.know (by simp only [R,b2];exact ⟨ak,ak,hv⟩) ME) h
   exact xt
  ·exact OY
 | .pb i ty::us,F,H,Z,β,F1,H1,hW,hF,h=>by
  simp only [DP] at h;split at h
  ·rename_i hx
   obtain ⟨s1,s2⟩:=hF.slot hx AI
   have hv:=(hF.get i _ s1).1
   simp only [R] at hv;obtain ⟨Z2,β2,c1,c2,c3⟩:=Jk us (F.set i<|.xl ty []) H Z β F1 H1 hW (hF.know (by simp only [R];exact ⟨aj,0,hv,At _,λh=>by simp at h⟩) trivial) h
   exact xt
  ·rename_i k es off n hx
   split at h
   ·rename_i hcl
    obtain ⟨s1,s2⟩:=hF.slot hx AI
    have hv:=hF.get i _ s1
    obtain ⟨_,hg,h2⟩:=T.B8 h
    have hG:GX H 6 (.os k es off n):=T.BY (K':=λ_=>True) (λ_ _=>trivial) hg
    obtain ⟨q1,q2⟩:=Ss hcl
    have hP:=hW.pub<|reach H 64 [k] []
    have hH:=λk b hb=>(hW.blk k b hb).2
    have hr:=MV (S:=λj=>j∈reach H 64 [k] []) hW q2 6 _ _ hG (λj hj=>q1 j aPK) hv.2 hv.1
    have hF1:RF ds β (ZP Z β H λj=>j∈reach H 64 [k] []) w (M<|Ft (reach H 64 [k] []) 0 H) F a:=by
     exact aMm
    obtain ⟨Z2,β2,c1,c2,c3⟩:=Jk us (F.set i<|C1 H 6<|.os k es off n) _ _ β F1 H1 hP (hF1.know hr<|okV.mono (NA _) _<|QS H hH 6 _ hv.2) h2;exact xt
   ·cases h
  ·exact OY
 | .nc k j t ty::us,F,H,Z,β,F1,H1,hW,hF,h=>by
  simp only [DP] at h;split at h
  ·rename_i c bt hb
   split at h
   ·rename_i hj
    have hkl:k<M H:=(EE.1 hb).1
    obtain ⟨β',b1,b2,b3⟩:=hW.Km (ℓ:=⟨w.heap.size,0,aj⟩) (nb:=⟨[],t,.vec ty [],X⟩) rfl ⟨ak,ak⟩ (λhl=>absurd rfl hl) λβ' g1 g2=>yU
    have hb':(H++[(⟨[],t,.vec ty [],X⟩:AB)])[k]? =ah ⟨c,bt,.cl,X⟩:=by rw [Hj hkl];exact hb
    have hT:=b3.tell (j:=j) (x:=.os (M H) ty.n 0 0) hb' (λy ⟨z,hz,hr⟩=>by
     rw [hj] at hz
     have:=EF hz
     subst this;simp only [R] at hr;simp only [R,b2];exact ⟨ak,ak,hr⟩) ⟨_,hj⟩ ME
    rw [List.set_append_left _ _ hkl] at hT
    have hF1:RF ds β' Z w (M<|H.set k ⟨c.set j<|.os (M H) ty.n 0 0,bt,.cl,X⟩++[(⟨[],t,.vec ty [],X⟩:AB)]) F a:=hF.mono AI b1 (λ_ h=>h) λ_ _=>rfl
    exact Jk us F _ Z β' F1 H1 hT hF1 h
   ·exact OY
  ·exact OY
 | .pc k j ty::us,F,H,Z,β,F1,H1,hW,hF,h=>by
  simp only [DP] at h;split at h
  ·rename_i c bt hb
   split at h
   ·rename_i hj
    have hT:=hW.tell (j:=j) (x:=.xl ty []) hb (λy ⟨z,hz,hr⟩=>by
     rw [hj] at hz
     have:=EF hz
     subst this;simp only [R] at hr|-;exact ⟨aj,0,hr,At _,λh=>by simp at h⟩) ⟨_,hj⟩ trivial
    exact Jk us F _ Z β F1 H1 hT (hF.mono AI (λ_ _=>rfl) (λ_ h=>h) λ_ _=>rfl) h
   ·rename_i k' es off n hj
    split at h
    ·rename_i hcl
     simp only [AY,D2] at hcl;obtain ⟨hcl,hnk⟩:=hcl;obtain ⟨_,hg,h2⟩:=T.B8 h
     have hG:GX H 6 (.os k' es off n):=T.BY (K':=λ_=>True) (λ_ _=>trivial) hg
     obtain ⟨q1,q2⟩:=Ss hcl
     have hP:=hW.pub<|reach H 64 [k'] []
     have hH:=λk b hb=>(hW.blk k b hb).2
     have hok:okV (M H) (.os k' es off n):=AT.get j _ (hH k _ hb).1 hj
     have hb':(Ft (reach H 64 [k'] []) 0 H)[k]? =ah ⟨c,bt,.cl,X⟩:=by
      rw [ck,hb];simp only [Jh,Ek,hnk];rfl
     have hT:=hP.tell (j:=j) (x:=C1 H 6<|.os k' es off n) hb' (λy ⟨z,hz,hr⟩=>by
      rw [hj] at hz
      have:=EF hz
      subst this
      have hr':R β Z w (.os k' es off n) y:=by simpa only [R] using hr
      exact MV (S:=λj=>j∈reach H 64 [k'] []) hW q2 6 _ _ hG (λj hj=>q1 j aPK) hok hr') ⟨_,hj⟩<|okV.mono (NA _) _<|QS H hH 6 _ hok
     exact Jk us F _ _ β F1 H1 hT (hF.mono (by simp [KK]) (λ_ _=>rfl) (λ_ h=> .inl h) λ_ _=>rfl) h2
    ·cases h
   ·exact OY
  ·exact OY
 | .pk k::us,F,H,Z,β,F1,H1,hW,hF,h=>by
  simp only [DP] at h
  have hP:=hW.pub<|reach H 64 [k] []
  have hF1:RF ds β (ZP Z β H λj=>j∈reach H 64 [k] []) w (M<|Ft (reach H 64 [k] []) 0 H) F a:=by
   exact aMm
  exact Jk us F _ _ β F1 H1 hP hF1 h
 | .kb k::us,F,H,Z,β,F1,H1,hW,hF,h=>Jk us F _ Z β F1 H1 (hW.kill k 0) (hF.mono AI (λ_ _=>rfl) (λ_ h=>h) λ_ _=>rfl) mv
 | .mc k j::us,F,H,Z,β,F1,H1,hW,hF,h=>by
  simp only [DP] at h;split at h
  ·rename_i c bt hb
   split at h
   ·rename_i k' es off n hj
    split at h
    ·rename_i t e l hk'
     have hkk:k≠k':=λq=>by subst q;rw [hb] at hk';simp at hk'
     have hK:=hW.kill k' t
     obtain ⟨β',b1,b2,b3⟩:=hK.Km (ℓ:=β k') (nb:=⟨[],t,.vec e l,X⟩) rfl ⟨ak,ak⟩ (λhl=>by
       have hl':live β k' (⟨[],t,.vec e l,X⟩:AB):=hl
       refine ⟨hW.Cp k' _ hk' hl' rfl,hW.low k' _ hk' hl',λi bi hi li e=>?_⟩
       rw [IN] at hi;split at hi
       ·split at hi
        ·simp only [Ai] at hi;subst hi;exact li
        ·cases hi
       ·rename_i hne
        exact hne<|hW.inj k' i _ _ hk' hi hl' li rfl e.symm) (λβ' g1 g2=>by
       have:=(hW.blk k' _ hk').1
       simp only [BZ] at this|-;rw [g2];exact this)
     simp only [C3] at b1 b2
     have hlen:M (H.set k' ⟨[],t,.dead,X⟩++[(⟨[],t,.vec e l,X⟩:AB)])=M H+1:=AI
     have hb':(H.set k' ⟨[],t,.dead,X⟩++[(⟨[],t,.vec e l,X⟩:AB)])[k]? =ah ⟨c,bt,.cl,X⟩:=by
      have hkl:k<M H:=(EE.1 hb).1
      rw [Hj<|by simpa using hkl,Zr<|OX hkk]
      exact hb
     have hk'l:k'<M H:=(EE.1 hk').1
     have hT:=b3.tell (j:=j) (x:=.os (M H) es off n) hb' (λy ⟨z,hz,hr⟩=>by
      rw [hj] at hz
      have:=EF hz
      subst this;simp only [R] at hr|-;rw [b1 k' hk'l] at hr;rw [b2];exact hr) ⟨_,hj⟩ (by rw [hlen];exact Zo _)
     have hF1:RF ds β' Z w (M<|(H.set k' ⟨[],t,.dead,X⟩++[(⟨[],t,.vec e l,X⟩:AB)]).set k ⟨c.set j<|.os (M H) es off n,bt,.cl,X⟩) F a:=hF.mono AI b1 (λ_ h=>h) λ_ _=>rfl
     exact Jk us F _ Z β' F1 H1 hT hF1 h
    ·exact OY
   ·exact OY
  ·exact OY
 | .ms ..::us,F,H,Z,β,F1,H1,hW,hF,h=>Jk us F H Z β F1 H1 hW hF mv
 | .ns ..::us,F,H,Z,β,F1,H1,hW,hF,h=>Jk us F H Z β F1 H1 hW hF mv
 | .ps ..::us,F,H,Z,β,F1,H1,hW,hF,h=>Jk us F H Z β F1 H1 hW hF mv
def wW (H:aWi):LV->T LV
 | .os k es off n=>match H[k]? with
  |some ⟨_,_,.vec _ l,_⟩=> .req (off=0/\n=M l) (.ok<|.os k es 0<|M l)
  |_=> .ok (.os k es off n)
 |x=> .ok x
def V0 (H:aWi):aWf->T (List LV)
 | []=> .ok []
 |x::xs=>(wW H x).bind λy=>(V0 H xs).bind λys=> .ok (y::ys)
def atX {x y:LV}(h:(wW H x).all λz=>z=y):y=x:=by
 unfold wW at h;split at h
 ·split at h
  ·simp only [T.all] at h
   obtain ⟨⟨rfl,rfl⟩,h⟩:=h;exact h.symm
  ·exact h.symm
 ·exact h.symm
def dZ:∀ {l l':aWf},(V0 H l).all (λz=>z=l')->l'=l
 | [],l',h=>h.symm
 |x::xs,l',h=>by
  obtain ⟨y,h1,h2⟩:=T.B8 h;obtain ⟨ys,h3,h4⟩:=T.B8 h2;rw [<-h4,atX h1,dZ h3]
def bc (H:aWi):aWi->T (List AB)
 | []=> .ok []
 |b::bs=>(V0 H b.c).bind λc=>(bc H bs).bind λcs=> .ok (⟨c,b.t,b.k,b.p⟩::cs)
def fT:∀ {l l':aWi},(bc H l).all (λz=>z=l')->l'=l
 | [],l',h=>h.symm
 |b::bs,l',h=>by
  obtain ⟨c,h1,h2⟩:=T.B8 h;obtain ⟨cs,h3,h4⟩:=T.B8 h2;rw [<-h4,dZ h1,fT h3]
structure Vw where
 ex:Ex
 len:aWe
 vals:aWf
 JN:aWi
 low:aWo
def V8 (N:aWe) (H:aWi) (vals:aWf):aWj:=reach H 400 (ownsL vals++(H.take N).flatMap AB.owns)<|au N
def aoh (N:aWe) (live:aWj) (x:Ex) (n:aWe) (F:aWf) (H:aWi):T Vw:=
 (V0 H<|Ts live F).bind λvals=>(bc H<|(V8 N H vals).map λk=>H.getD k U9).bind λbs=>
  .ok ⟨x,n,renL (V8 N H vals) vals,bs.map<|Ie<|V8 N H vals,
   KT H (V8 N H vals) vals&&nodupB (V8 N H vals)&&nU N (V8 N H vals)⟩
def GM (N:aWe) (live:aWj) (us:List Up) (x:Ex) (F:aWf) (H:aWi):T Vw:=(DP (us.map<|anq F) F H).bind λq=>aoh N live x (M F) q.1 q.2
def cd {N:aWe}{live:aWj}{us:List Up}{x:Ex}{v:Vw}(hgh:AN N Z0) (hW:RW G w0 Z0 Z β H w) (hF:RF ds β Z w (M H) F a) (h:(GM N live us x F H).all λz=>z=v) (hl:v.low=U):
  v.ex=x/\v.len=M F/\∃Z' β',RW G w0 Z0 Z' β' v.JN w/\RF ds β' Z' w (M v.JN) (Hw (M F) live v.vals) a:=by
 obtain ⟨⟨F1,H1⟩,h0,h⟩:=T.B8 h;obtain ⟨Z1,β1,c1,c2,c3⟩:=Jk _ F H Z β F1 H1 hW hF h0;obtain ⟨vals,h1,h2⟩:=T.B8 h;obtain ⟨bs,h2b,h2⟩:=T.B8 h2
 have h3:=dZ h1
 have h4:=fT h2b
 subst h3;subst h4;rw [HK] at h2;subst h2;refine ⟨rfl,rfl,?_⟩;simp only [AY] at hl;obtain ⟨β2,d1,d2⟩:=c1.ren hgh hl.1.1 hl.1.2 hl.2;obtain ⟨v1,v2⟩:=ar0 (live:=live) c2;obtain ⟨k1,_⟩:=Ss hl.1.1;refine ⟨Z1,β2,d2,apv (by rw [hF.size]) c2.defers (ren_RL d1 _ _ k1 v2 v1) ?_⟩
 rw [GB];exact ren_okL _ k1 v2
inductive Rd (σ:Type) where
 |next (s:σ)
 |stop (x:Ex) (s:σ)
def rdV {σ:Type}(n:aWe) (A:σ->aWf) (B:σ->aWi):Rd σ->Vw
 | .next s'=>⟨.normal,n,A s',B s',U⟩
 | .stop x s'=>⟨x,n,A s',B s',U⟩
structure SC {α:Type} (K:α->Prop) (t:T α):Prop where
 out:t.all K
def DT {σ:Type}(f:σ->Rd σ):aWe->σ->Ex×σ
 |0,s=>(.ret,s)
 |k+1,s=>match f s with
  | .next s'=>DT f k s'
  | .stop x s'=>(x,s')
def aF0 {σ:Type}{f:σ->Rd σ}{μ:σ->aWe}{I:σ->Prop}(hd:∀s s',I s->f s=.next s'->I s'/\μ s'<μ s):∀(k:aWe) (s:σ),I s->μ s<k->∃s',I s'/\f s'=.stop (DT f k s).1 (DT f k s).2
 |0,s,_,h=>A0
 | k+1,s,hi,hk=>by
  simp only [DT];cases hf:f s with
  |next s'=>
   obtain ⟨h1,h2⟩:=hd s s' hi hf;exact aF0 hd k s' h1 A0
  |stop x s'=>exact ⟨s,hi,hf⟩
def T.agree {α:Type}{K:α->Prop}{p:α}:∀ {t:T α},t.all (λx=>x=p)->t.all K->K p
 | .ok _,h,hk=>by simp only [T.all] at h hk;exact h▸hk
 | .br b t e,h,hk=>by
  cases b with
  |true=>exact T.agree (h.1 rfl) (hk.1 rfl)
  |false=>exact T.agree (h.2 rfl) (hk.2 rfl)
 | .req _ t,h,hk=>T.agree h.2 hk.2
 | .no,_,h=>Ao
def aAt {σ:Type}(N n:aWe) (live:aWj) (us:List Up) (sel:aWf->aWi->T σ) (out:σ->T (Ex×List LV×List AB)) (F:aWf) (H:aWi):T (Ex×List LV×List AB):=
 if M F=n then ((GM N live us .normal F H).bind λv=>if v.low then sel v.vals v.JN else .no).bind out else .no
def jK (N:aWe) (live:aWj) (us:List Up) (t:T<|Ex×List LV×List AB):T Vw:=t.bind λq=>GM N live us q.1 q.2.1 q.2.2
def gI:LV->Int
 | .v (.int _ n)=>n
 | .ki _ n=>n
 |_=>0
def gBo:LV->Bool
 | .v (.bool b)=>b
 | .bl b=>b
 |_=>X
def gSr:LV->ByteArray
 | .v (.string s)=>s
 |_=>ByteArray.empty
def H8:LV->Value
 | .v y=>y
 |_=>undef
def Ar (e:Ty) (x:LV):List e.D:=(N2 e x).getD []
def EO (x:LV) (j:aWe):LV:=
 match x with
 | .v (.agg ys)=> .v (ys.toList.getD j undef)
 | .agg l=>l.getD j .junk
 | .v (.tuple ys)=> .v (ys.toList.getD j undef)
 | .AO l=>l.getD j .junk
 |_=> .junk
def gFn (x:LV) (j:aWe):LV:=
 match x with
 | .fn _ l=>l.getD j .junk
 | .fb _ l=>l.getD j .junk
 |_=> .junk
def BT (x:LV) (j:aWe):LV:=
 match x with
 | .xq _ f=>f j
 |_=> .junk
def CW (H:aWi) (k:aWe):AB:=H.getD k ⟨[],0,.dead,X⟩
def BF (b:AB) (j:aWe):LV:=b.c.getD j .junk
def gVe (e:Ty) (b:AB):List e.D:=
 match b.k with
 | .vec e' l=>(match Jw e' e with
  |some ⟨h⟩=>Kl h l
  |none=>[])
 |_=>[]
def AK (v:aWf) (k:aWe):Y:=gI<|v.getD k .junk
def DQ (v:aWf) (k:aWe):aWo:=gBo<|v.getD k .junk
def Az (e:Ty) (v:aWf) (k:aWe):List e.D:=Ar e<|v.getD k .junk
def Aj (b:aWi) (k j:aWe):Y:=gI<|BF (CW b k) j
def cgB (b:aWi) (k j:aWe):aWo:=gBo<|BF (CW b k) j
def AF (e:Ty) (b:aWi) (k j:aWe):List e.D:=Ar e<|BF (CW b k) j
def Ac (e:Ty) (b:aWi) (k:aWe):List e.D:=gVe e<|CW b k
def gSe (e:Ty) (b:AB):List e.D:=
 match b.k with
 | .st e' l=>(match Jw e' e with
  |some ⟨h⟩=>Kl h l
  |none=>[])
 |_=>[]
def aLR {σ:Type}(E:σ->Prop) (A:σ->aWf) (B:σ->aWi) (s:σ) (vals:aWf) (JN:aWi):T σ:=.req (E s/\vals=A s/\JN=B s)<|.ok s
def asy {σ:Type}{E:σ->Prop}{A:σ->aWf}{B:σ->aWi}{s0 s:σ}{vals:aWf}{JN:aWi}(h:(aLR E A B s0 vals JN).all λx=>x=s):E s/\vals=A s/\JN=B s:=by
 obtain ⟨h1,rfl⟩:=h;exact h1
def afo {σ:Type}(N n:aWe) (live:aWj) (us:List Up) (A:σ->aWf) (B:σ->aWi) (I E:σ->Prop) (μ:σ->aWe) (f:σ->Rd σ) (sel:aWf->aWi->T σ) (out:σ->T (Ex×List LV×List AB)) {b:aWO}{t:aWf->aWi->T (Ex×List LV×List AB)}(hb:Gm P G (AN N) b t)
  (hsel:∀vals JN s,(sel vals JN).all (λx=>x=s)->E s/\vals=A s/\JN=B s) (hEI:∀s,E s->I s)
  (hd:∀s s',I s->f s=.next s'->I s'/\μ s'<μ s)
  (hne:∀s x s',f s=.stop x s'->x≠ .normal)
  (step':∀s,I s->SC (λv=>v=rdV n A B (f s)) (jK N live us<|t (Hw n live<|A s)<|B s))
  (hout:∀s,E s->(out s).all λq=>q=((DT f (μ s+1) s).1,Hw n live<|A (DT f (μ s+1) s).2,B (DT f (μ s+1) s).2)):
  Gm P G (AN N) (.loop b) (aAt N n live us sel out):=by
 intro r w0 Z0 Z β F H a w ds Q x F' H' hgh hr hD hW hF h hQ;unfold aAt at h;split at h
 ·rename_i hlen
  obtain ⟨s,h0,h2⟩:=T.B8 h;obtain ⟨v,hv,h1⟩:=T.B8 h0;split at h1
  ·rename_i hlow
   obtain ⟨hE,hvv,hbk⟩:=hsel _ _ s h1
   have h2:=T.agree h2<|hout s hE
   obtain ⟨_,_,Z1,β1,hW1,hF1⟩:=cd hgh hW hF hv hlow;refine wpIn_loop_rounds (μ s+1) ?_
   have key:∀(k:aWe) (s:σ) (ds:aWT) (Z:aWe->Prop) (β:aWe->aWU) (a:aWD) (w:aWq),I s->μ s<k->M4 w0 Z0 ds->RW G w0 Z0 Z β (B s) w->RF ds β Z w (M<|B s) (Hw n live<|A s) a->
     (∀ds' Z' β' a' w',M4 w0 Z0 ds'->RW G w0 Z0 Z' β' (B (DT f k s).2) w'->RF ds' β' Z' w' (M<|B (DT f k s).2) (Hw n live<|A (DT f k s).2) a'->Q (wR (DT f k s).1) a' w')->Code.roundsIn (Dd r) 0 P b Q k a w:=by
    intro k
    induction k with
    |zero=>intro s ds Z β a w _ h;omega
    | succ k ih=>
     intro s ds Z β a w hI hm hD hW hF hQ;obtain ⟨v,h1,h2⟩:=T.pick (step' s hI).out;obtain ⟨⟨x,F1,H1⟩,h3,h4⟩:=T.B8 h2;refine hb r w0 Z0 Z β _ (B s) a w ds _ x F1 H1 hgh hr hD hW hF h3 λds' Z' β' a' w' e0 e1 e2=>?_
     cases hf:f s with
     |next s'=>
      rw [hf] at h1;subst h1;obtain ⟨g1,g2,Z2,β2,k1,k2⟩:=cd hgh e1 e2 h4 rfl;subst g1;obtain ⟨i1,i2⟩:=hd s s' hI hf;rw [<-g2] at k2;refine ih s' ds' Z2 β2 a' w' i1 A0 e0 k1 k2 ?_
      have:DT f (k+1) s=DT f k s':=by simp only [DT,hf]
      rw [this] at hQ;exact hQ
     |stop y s'=>
      rw [hf] at h1;subst h1;obtain ⟨g1,g2,Z2,β2,k1,k2⟩:=cd hgh e1 e2 h4 rfl;subst g1
      have hn:=hne s y s' hf
      rw [<-g2] at k2
      have:DT f (k+1) s=(y,s'):=by simp only [DT,hf]
      rw [this] at hQ
      have hq:=hQ ds' Z2 β2 a' w' e0 k1 k2
      cases y with
      |normal=>exact absurd rfl hn
      |exit k=>exact hq
      |ret=>exact hq
   grind
  ·cases h1
 ·cases h
def DV {σ:Type}(Pn:σ->Prop) (Ps:Ex->σ->Prop):Rd σ->Prop
 | .next s=>Pn s
 | .stop x s=>Ps x s
def AH {σ:Type}{Pn:σ->Prop}{Ps:Ex->σ->Prop}{c:aWo}{x y:Rd σ}(h1:c=U->DV Pn Ps x) (h2:c=X->DV Pn Ps y):DV Pn Ps (if c=U then x else y):=by
 cases c with
 |true=>exact h1 rfl
 |false=>exact h2 rfl
def afI {σ:Type}{Pn:σ->Prop}{Ps:Ex->σ->Prop}{r:Rd σ}(h:DV Pn Ps r) {s:σ}(e:r=.next s):Pn s:=by subst e;exact h
def cv {σ:Type}{Pn:σ->Prop}{Ps:Ex->σ->Prop}{r:Rd σ}(h:DV Pn Ps r) {x:Ex}{s:σ}(e:r=.stop x s):Ps x s:=by subst e;exact h
def Bb:Ex->Ex->Bool
 | .normal,.normal=>U
 | .ret,.ret=>U
 | .exit n,.exit m=>n==m
 |_,_=>X
def aFj {S Y:Type}{f:S->Rd S}{I:S->Prop}{μ:S->aWe}{V:S->Y}{Q:Ex->S->Y->Prop}(hd:∀s s',I s->f s=.next s'->I s'/\μ s'<μ s) (hv:∀s,I s->DV (λs'=>V s'=V s) (λx s'=>Q x s'<|V s) (f s)):∀(k:aWe) (s:S),I s->μ s<k->Q (DT f k s).1 (DT f k s).2 (V s)
 |0,s,_,h=>A0
 | k+1,s,h,hk=>by
  have h2:=hv s h
  simp only [DT];cases e:f s with
  |next s'=>
   rw [e] at h2;obtain ⟨d1,d2⟩:=hd s s' h e
   have:=aFj hd hv k s' d1 A0
   rwa [show V s=V s' from h2.symm]
  |stop x s'=>
   rw [e] at h2;exact h2
def T.rd {σ:Type}(s:σ):T (Rd σ)->Rd σ
 | .ok x=>x
 | .br b x y=>if b=U then x.rd s else y.rd s
 | .req _ x=>x.rd s
 | .no=> .next s
def T.mp {α β:Type}(k:α->β):T α->T β
 | .ok x=> .ok (k x)
 | .br b x y=> .br b (x.mp k) (y.mp k)
 | .req p x=> .req p (x.mp k)
 | .no=> .no
def T.XE {α β:Type}{k:α->β}{K:β->Prop}:∀ {t:T α},t.all (λx=>K<|k x)->(t.mp k).all K
 | .ok _,h=>h
 | .br _ _ _,h=>⟨λc=>T.XE<|h.1 c,λc=>T.XE<|h.2 c⟩
 | .req _ _,h=>⟨h.1,T.XE h.2⟩
 | .no,h=>h
def T.gL {σ:Type}{s:σ}:∀ {t:T<|Rd σ},t.all (λ_=>True)->t.all (λx=>x=t.rd s)
 | .ok _,_=>rfl
 | .br b _ _,h=>by
  cases b with
  |true=>exact ⟨λc=>T.gL<|h.1 c,λc=>Em⟩
  |false=>exact ⟨λc=>Em,λc=>T.gL<|h.2 c⟩
 | .req _ _,h=>⟨h.1,T.gL h.2⟩
 | .no,h=>h
def T.Tw {σ:Type}{s:σ}{k:Rd σ->Rd σ}(h0:k (.next s)=.next s):∀ {t:T<|Rd σ},t.mp k=t->k (t.rd s)=t.rd s
 | .ok x,h=>by
  simp only [T.mp,T.ok.injEq] at h;simp only [T.rd,h]
 | .br b x y,h=>by
  simp only [T.mp,T.br.injEq,FR] at h;simp only [T.rd];split
  ·exact T.Tw h0 h.1
  ·exact T.Tw h0 h.2
 | .req _ x,h=>by
  simp only [T.mp,T.req.injEq,FR] at h;exact T.Tw (t:=x) h0 h
 | .no,_=>h0
structure AS (σ:Type) where
 (N n:aWe)
 lv:aWj
 us:List Up
 A:σ->List LV
 B:σ->List AB
 g:aWf->aWi->σ
 t:σ->T (Rd σ)
 kp:σ->σ->σ
 rd:σ->σ
 fx:Ex->σ->σ
 xs:aXl
 (E I:σ->Prop)
 mu:σ->Nat
def outT {β:Type}(e:Ex) (k:Ex->β):aXl->T β
 | []=> .no
 | [x]=> .ok (k x)
 |x::y::xs=> .br (Bb e x) (.ok<|k x)<|outT e k (y::xs)
def WY:∀ {x y:Ex},Bb x y=U->x=y
 | .normal,.normal,_=>rfl
 | .ret,.ret,_=>rfl
 | .exit _,.exit _,h=>by simpa [Bb] using h
def aFs {β:Type}{e:Ex}{k:Ex->β}:∀ {xs:aXl},xs.any (Bb e)=U->(outT e k xs).all (λq=>q=k e)
 | [],h=>Ao
 | [x],h=>by
  simp only [Zk,m5,Bool.or_false] at h;rw [WY h];rfl
 |x::y::xs,h=>by
  refine ⟨λc=>?_,λc=>aFs ?_⟩
  ·rw [WY c];rfl
  ·grind
def exB {σ:Type}(xs:aXl):T (Rd σ)->Bool
 | .ok (.next _)=>U
 | .ok (.stop x _)=>xs.any (Bb x)&&!Bb x .normal
 | .br _ x y=>exB xs x&&exB xs y
 | .req _ x=>exB xs x
 | .no=>U
def XR {σ:Type}{xs:aXl}{s s':σ}{x:Ex}:∀ {t:T<|Rd σ},exB xs t=U->t.rd s=.stop x s'->xs.any (Bb x)=U/\x≠ .normal
 | .ok (.next _),_,h=>Ao
 | .ok (.stop y _),h,e=>by
  simp only [T.rd,Rd.stop.injEq] at e;simp only [exB,AY,D2] at h;rw [e.1] at h;refine ⟨h.1,λe=>?_⟩
  rw [e] at h;exact absurd h.2 (by simp [Bb])
 | .br b x y,h,e=>by
  simp only [exB,AY] at h;simp only [T.rd] at e;split at e
  ·exact XR h.1 e
  ·exact XR h.2 e
 | .req _ x,h,e=>XR (t:=x) h e
 | .no,_,h=>Ao
namespace AS
variable {σ : Type} (D : AS σ)
def f (s:σ):Rd σ:=(D.t s).rd s
def run (s:σ):σ:=D.kp s (DT D.f (D.mu s+1) s).2
def As (s:σ):Ex:=(DT D.f (D.mu s+1) s).1
def sel (vals:aWf) (JN:aWi):T σ:=aLR D.E D.A D.B (D.g vals JN) vals JN
def out (s:σ):T (Ex×List LV×List AB):=outT (D.As s) (λx=>(x,Hw D.n D.lv<|D.A<|D.fx x<|D.run s,D.B<|D.fx x<|D.run s)) D.xs
def lp:aWf->aWi->T (Ex×List LV×List AB):=aAt D.N D.n D.lv D.us D.sel D.out
def q (s:σ):Prop:=D.E s/\D.A s=D.A s/\D.B s=D.B s
def Ig (s:σ):Rd σ->Rd σ
 | .next s'=> .next (D.kp s s')
 | .stop x s'=> .stop x<|D.kp s s'
def fxR:Rd σ->Rd σ
 | .next s'=> .next s'
 | .stop x s'=> .stop x<|D.fx x s'
structure Ok:Prop where
 keep:∀s,(D.t (D.rd s)).mp (D.Ig (D.rd s))=D.t (D.rd s):=by intro s;kernel_rfl
 fix:∀s,D.I (D.rd s)->DV (λ_=>True) (λx s'=>D.fx x s'=s') ((D.t (D.rd s)).rd (D.rd s)):=by intro s _;exact AS.an4 _ (by kernel_rfl)
 amq:∀s,D.kp s s=s:=by intros;rfl
 amo:∀s t r,D.kp (D.kp s t) r=D.kp s r:=by intros;rfl
 fx0:∀s,D.fx .normal (D.rd s)=D.rd s:=by intros;rfl
 exs:∀s,exB D.xs (D.t s)=true:=by intro s;kernel_rfl
def an4 {s:σ}(h:(D.t s).mp D.fxR=D.t s):DV (λ_=>True) (λx s'=>D.fx x s'=s') ((D.t s).rd s):=by
 have hx:=T.Tw (s:=s) (by simp only [fxR]) h
 cases hf:(D.t s).rd s with
 |next s'=>exact ak
 |stop x s'=>
  rw [hf] at hx;simp only [fxR,Rd.stop.injEq,FR] at hx;exact hx
structure Pf (Q:Ex->σ->σ->Prop):Prop where
 ei:∀s,D.E s->D.I s
 rdy:∀s,D.I s->D.rd s=s
 da:∀s,D.I s->DV (λs'=>D.I s'/\D.mu s'<D.mu s) (λx s'=>Q x s s') (D.f s)
 rq:∀s,D.I s->(D.t s).all (λ_=>True)
variable {D} {Q : Ex -> σ -> σ -> Prop}
def Pf.nx (p:D.Pf Q) (s s':σ) (h:D.I s) (e:D.f s=.next s'):D.I s'/\D.mu s'<D.mu s:=afI (p.da s h) e
def kept (o:D.Ok) (p:D.Pf Q):∀(k:aWe) (s:σ),D.I s->D.mu s<k->D.kp s (DT D.f k s).2=(DT D.f k s).2/\D.fx (DT D.f k s).1 (DT D.f k s).2=(DT D.f k s).2/\D.xs.any (Bb (DT D.f k s).1)=U
 |0,_,_,h=>A0
 | k+1,s,hI,hk=>by
  have h1:=o.keep s
  have h2:=o.fix s
  have h0:=o.fx0 s
  rw [p.rdy s hI] at h0 h1 h2
  have hl:=T.Tw (s:=s) (by simp only [Ig,o.amq]) h1
  have hx:=h2 hI
  change D.Ig s (D.f s)=D.f s at hl
  simp only [DT];cases hf:D.f s with
  |next s'=>
   rw [hf] at hl;simp only [Ig,Rd.next.injEq] at hl;obtain ⟨h1,h2⟩:=p.nx s s' hI hf;obtain ⟨h3,h4⟩:=kept o p k s' h1 A0;refine ⟨?_,h4⟩
   have e:=o.amo s s' (DT D.f k s').2
   rw [hl,h3] at e;exact e.symm
  |stop x s'=>
   have hx:=cv hx hf
   rw [hf] at hl;simp only [Ig,Rd.stop.injEq,FR] at hl;exact ⟨hl,hx,(XR (o.exs s) hf).1⟩
def run_eq (o:D.Ok) (p:D.Pf Q) {s:σ}(hE:D.E s):(DT D.f (D.mu s+1) s).2=D.run s:=(kept o p _ s (p.ei s hE)<|Zo _).1.symm
def end_ (o:D.Ok) (p:D.Pf Q) (s:σ) (hE:D.E s):∃s',D.I s'/\D.f s'=.stop (D.As s) (D.run s):=by
 rw [<-run_eq o p hE];exact aF0 p.nx (D.mu s+1) s (p.ei s hE)<|Zo _
def fin (o:D.Ok) (p:D.Pf Q) (s:σ) (hE:D.E s):∃s',D.I s'/\Q (D.As s) s' (D.run s):=by
 obtain ⟨s',hI,hf⟩:=end_ o p s hE;exact ⟨s',hI,cv (p.da s' hI) hf⟩
def snd (o:D.Ok) (p:D.Pf Q) {b:aWO}{t:aWf->aWi->T (Ex×List LV×List AB)}(hb:Gm P G (AN D.N) b t)
  (hn:∀s,jK D.N D.lv D.us (t (Hw D.n D.lv<|D.A<|D.rd s)<|D.B<|D.rd s)=(D.t<|D.rd s).mp (rdV D.n D.A D.B)):Gm P G (AN D.N) (.loop b) D.lp:=by
 refine afo D.N D.n D.lv D.us D.A D.B D.I D.E D.mu D.f D.sel D.out hb (λ_ _ _ h=>asy h) p.ei p.nx (λs x s' hf=>(XR (o.exs s) hf).2) (λs hI=>⟨?_⟩) λs hE=>?_
 ·have h:=hn s
  rw [p.rdy s hI] at h;rw [h];exact T.XE<|T.BY (λx hx=>by rw [hx];rfl)<|T.gL (s:=s)<|p.rq s hI
 ·obtain ⟨h1,h2,h3⟩:=kept o p _ s (p.ei s hE) (Zo<|D.mu s)
  have h4:=aFs (k:=λx=>(x,Hw D.n D.lv<|D.A<|D.fx x<|D.run s,D.B<|D.fx x<|D.run s)) h3
  refine T.BY (λq hq=>?_) h4
  rw [hq];simp only [run,h1,h2]
def wQ (o:D.Ok) (p:D.Pf Q) {Y:Type}(V:σ->Y) (K:Ex->σ->Y->Prop) (hv:∀s,D.I s->DV (λs'=>V s'=V s) (λx s'=>K x s'<|V s) (D.f s)) (s:σ) (hE:D.E s):K (D.As s) (D.run s) (V s):=by
 rw [<-run_eq o p hE];exact aFj p.nx hv (D.mu s+1) s (p.ei s hE)<|Zo _
def Kh (o:D.Ok) (p:D.Pf Q) {Y:Type}(V:σ->Y) (hv:∀s,D.I s->DV (λs'=>V s'=V s) (λ_ s'=>V s'=V s) (D.f s)) (s:σ) (hE:D.E s):V (D.run s)=V s:=wQ o p V (λ_ s' v=>V s'=v) hv s hE
def stR (s:σ):Rd σ->Rd σ
 | .next s'=> .next s'
 | .stop x _=> .stop x s
def inv (o:D.Ok) (p:D.Pf Q) (hs:∀s,(D.t s).mp (stR s)=D.t s) (s:σ) (hE:D.E s):D.I (D.run s)/\D.f (D.run s)=.stop (D.As s) (D.run s):=by
 obtain ⟨s',hI,hf⟩:=end_ o p s hE
 have h:=T.Tw (s:=s') (k:=stR s') rfl<|hs s'
 have h:stR s' (D.f s')=D.f s':=h
 simp only [stR,Rd.stop.injEq,FR] at h
 grind
end AS
abbrev T.ix {α:Type}(i:Y) (n:aWe) (t:T α):T α:=.req (0<=i/\i<(n:Y)) t
abbrev T.ik {α:Type}(i:Y) (n:aWe) (t:T α):T α:=.ix i n<|.req (i.toNat<n) t
abbrev T.rz {α β:Type}(l:List β) (t:T α):T α:=.req (0+(M l)<=M l) t
abbrev T.rm {α:Type}(w n:Y) (t:T α):T α:=.req (0<=n/\n<=n/\w*n<=2^48/\n<2^63) t
abbrev T.ra {α:Type}(n m k:aWe) (w:Y) (t:T α):T α:=.req (0+n=m/\(k:Y)*w<=2^47/\(k:Y)<2^62) t
abbrev T.rb {α:Type}(n x:aWe) (w:Y) (t:T α):T α:=.ra n n (n+x) w t
abbrev T.re {α β:Type}(n:aWe) (l:List β) (t:T α):T α:=.req (0=0/\n=M l) t
abbrev T.r0 {α:Type}(β:Type) (t:T α):T α:=.re 0 ([]:List β) t
abbrev T.rc {α β:Type}(n:Y) (d:β) (k:aWe) (t:T α):T α:=.req (n.toNat=M (aq n.toNat d)/\k<=n.toNat) t
abbrev T.nx {σ:Type}(s:σ):T (Rd σ):=.ok<|.next s
abbrev T.so {σ:Type}(x:Ex) (s:σ):T (Rd σ):=.ok<|.stop x s
abbrev T.tu (l:aWz):T LV:=.ok<|.v<|.tuple l
instance:Coe Int LV:=⟨λx=> .v<|ag J x⟩
instance:Coe Bool LV:=⟨λx=> .v<|.bool x⟩
instance:Coe Int Value:=⟨.int J⟩
instance:Coe Bool Value:=⟨.bool⟩
instance:Coe (List Int) LV:=⟨λl=> .xl (.int J) l⟩
instance:Coe (List ByteArray) LV:=⟨λl=> .xl .str l⟩
abbrev xQ (n:aWe) (l:aWf):LV:=.xq n λj=>l.getD j .junk
abbrev AP:AB:=⟨[],0,.dead,X⟩
abbrev bV (k:aWe) (e:Ty) (l:List e.D):AB:=⟨[],k,.vec e l,X⟩
end Go.Sx
namespace Go.Sx
open Go Go.RowKit Go.Proofs.YtoifmkifedcnnaaGreatDoor
variable {P : Program} {G : B5} {Γ : Specs} {K : Hand} {L : Lg} {β : Nat -> Loc} {Z : Nat -> Prop} {w : World} {n : Nat}
def Bk (k:aWW) (x y:Y):Y:=k.wrap<|(BitVec.ofInt k.bits x&&&BitVec.ofInt k.bits y).toNat
def DY (k:aWW) (x y:Y):Y:=k.wrap<|(BitVec.ofInt k.bits x |||BitVec.ofInt k.bits y).toNat
def aLK (k:aWW) (x y:Y):Y:=k.wrap<|(BitVec.ofInt k.bits x^^^BitVec.ofInt k.bits y).toNat
def gi (l:aWd) (n:Y):Y:=l.getD n.toNat 0
def IW {l:aWd}{n:Y}(h:n.toNat<M l):gi l n=l[n.toNat]:=by simp [gi,List.getD,Dg h]
def Kc {l:aWd}{n:Y}(h:n.toNat<M l):gi l n∈l:=by rw [IW h];exact GZ h
def j7 {α:Type}{f:LV->Option α}{l:aWf}{d:α}{ys:aWv}(h:hd1 f l=ah d) (hr:RL β Z w l ys):∃x y,f x=ah d/\ys=[y]/\R β Z w x y:=by
 unfold hd1 at h;split at h
 ·rename_i x
  simp only [RL] at hr
  grind
 ·cases h
def RL.one {x:LV}{y:aWx}(h:R β Z w x y):RL β Z w [x] [y]:=by simp only [RL];exact ⟨y,[],rfl,h,rfl⟩
def dD:∀(t:Ty) (cs:aWf) (d:t.D) (ys:aWv),Jz t cs=ah d->RL β Z w cs ys->RL β Z w (Bq t d) ys
 | .int k,cs,d,ys,h,hr=>by
  obtain ⟨x,y,h1,rfl,h3⟩:=j7 h hr;unfold wN at h1;split at h1
  ·split at h1
   ·rename_i hk;simp only [Ai] at h1;subst h1 hk;exact RL.one h3
   ·cases h1
  ·split at h1
   ·rename_i hk;simp only [Ai] at h1;subst h1 hk;exact RL.one aOm
   ·cases h1
  ·cases h1
 | .bool,cs,d,ys,h,hr=>by
  obtain ⟨x,y,h1,rfl,h3⟩:=j7 h hr;unfold wO at h1;split at h1
  ·simp only [Ai] at h1;subst h1;exact RL.one h3
  ·simp only [Ai] at h1;subst h1;exact RL.one aOm
  ·cases h1
 | .str,cs,d,ys,h,hr=>by
  obtain ⟨x,y,h1,rfl,h3⟩:=j7 h hr;unfold wM at h1;split at h1
  ·simp only [Ai] at h1;subst h1;exact RL.one h3
  ·cases h1
 | .sl e,cs,d,ys,h,hr=>by
  obtain ⟨x,y,h1,rfl,h3⟩:=j7 h hr;exact RL.one (vV h1 h3)
 | .pair a b,cs,d,ys,h,hr=>by
  simp only [Jz] at h;split at h
  ·rename_i x y h1 h2
   simp only [Ai] at h;subst h
   have e1:=dD a _ x _ h1<|hr.take a.n
   have e2:=dD b _ y _ h2<|hr.drop a.n
   rw [<-List.take_append_drop a.n ys];exact e1.app e2
  ·cases h
def upV (P:aWt) (t:aWu) (x:LV):LV:=
 match Ib P 8 t,SE P t with
 | some ty,ah U=>match x with
  | .v (.agg ys)=>(match Jz ty (ys.toList.map .v) with
   |some d=>Ju (Bq ty d)
   |none=>x)
  | .agg l=>(match Jz ty l with
   |some d=>Ju (Bq ty d)
   |none=>x)
  |_=>x
 | some ty,ah X=>(match Jz ty [x] with
  |some d=>(match Bq ty d with
   | [c]=>c
   |_=>x)
  |none=>x)
 |_,_=>x
def GN (P:aWt):aWK->aWf->List LV
 |t::ts,x::xs=>upV P t x::GN P ts xs
 |_,xs=>xs
def upR (P:aWt) (ts:aWK) (x:LV):LV:=
 match ts with
 | [t]=>upV P t x
 |ts=>match x with
  | .v (.tuple ys)=>R2 (GN P ts<|ys.toList.map .v)
  | .AO l=>R2 (GN P ts l)
  |x=>x
def RL.plain:∀(ys:aWv),RL β Z w (ys.map .v) ys
 | []=>bM
 |y::ys=>by simp only [ET,RL];exact ⟨y,ys,rfl,Ji,RL.plain ys⟩
def aFJ:∀(ys:aWv),AT n (ys.map .v)
 | []=>trivial
 |y::ys=>⟨ak,aFJ ys⟩
def aa6 {t:aWu}{x:LV}{y:aWx}(h:R β Z w x y):R β Z w (upV P t x) y:=by
 unfold upV;split
 ·split
  ·split
   ·rename_i d hd
    subst h;exact W9<|dD _ _ d _ hd<|RL.plain _
   ·exact h
  ·split
   ·rename_i d hd
    obtain ⟨ys,rfl,h2⟩:=h;exact W9<|dD _ _ d _ hd h2
   ·exact h
  ·exact h
 ·split
  ·rename_i d hd
   split
   ·rename_i c hc
    have:=dD _ _ d _ hd<|RL.one h
    rw [hc] at this;obtain ⟨y',zs,e1,e2,e3⟩:=this
    grind
   ·exact h
  ·exact h
 ·exact h
def aPw {t:aWu}{x:LV}(h:okV n x):okV n (upV P t x):=by
 unfold upV;split
 ·split
  ·split
   ·exact QT<|NV _ _ _
   ·exact h
  ·split
   ·exact QT<|NV _ _ _
   ·exact h
  ·exact h
 ·split
  ·rename_i d hd
   split
   ·rename_i c hc
    have:=NV n _ d
    rw [hc] at this;exact this.1
   ·exact h
  ·exact h
 ·exact h
def iO:∀ {ts:aWK}{l:aWf}{ys:aWv},RL β Z w l ys->RL β Z w (GN P ts l) ys
 | [],l,ys,h=>mw
 |_::_,[],ys,h=>mw
 |t::ts,x::xs,ys,h=>by
  obtain ⟨y,zs,h1,h2,h3⟩:=h;exact ⟨y,zs,h1,aa6 h2,iO h3⟩
def fm:∀ {ts:aWK}{l:aWf},AT n l->AT n (GN P ts l)
 | [],l,h=>mw
 |_::_,[],h=>mw
 |t::ts,x::xs,h=>by
  exact ⟨aPw h.1,fm h.2⟩
def akp {ts:aWK}{x:LV}{y:aWx}(h:R β Z w x y):R β Z w (upR P ts x) y:=by
 unfold upR;split
 ·exact aa6 h
 ·split
  ·simp only [R] at h
   subst h;exact rS<|iO<|RL.plain _
  ·simp only [R] at h
   obtain ⟨ys,rfl,h2⟩:=h;exact rS<|iO h2
  ·exact h
def awS {ts:aWK}{x:LV}(h:okV n x):okV n (upR P ts x):=by
 unfold upR;split
 ·exact aPw h
 ·split
  ·exact qS<|fm<|aFJ _
  ·exact qS<|fm<|by simpa only [okV] using h
  ·exact h
def K9 (P:aWt) (ts:aWK) (S:aWf->T LV):aWf->T LV:=λl=>S<|GN P ts l
def Valid.up {f:aWF}{S:aWf->T LV}(h:Valid P G f S) (ts:aWK):Valid P G f (K9 P ts S):=by
 intro args vals w Z lv hz hg hok hr hs;exact h (GN P ts args) vals w Z lv hz hg (fm hok) (iO hr) hs
/-A pointer to cells that are only read,told by the cells. -/
mutual
def canX:LV->LV
 | .xq n f=> .xq n (λj=>((au n).map λi=>canX (f i)).getD j .junk)
 | .fn f l=> .fn f (canL l)
 | .fb f l=> .fb f (canL l)
 |x=>x
def canL:aWf->List LV
 | []=>[]
 |x::xs=>canX x::canL xs
end
mutual
def canX_R:∀ {x:LV}{y:aWx},R β Z w x y->R β Z w (canX x) y
 | .xq n f,y,h=>by
  simp only [canX,R] at h|-;obtain ⟨b,off,h1,hz,h2⟩:=h;refine ⟨b,off,h1,hz,λj hj=>?_⟩
  have e:((au n).map λi=>canX (f i)).getD j .junk=canX (f j):=yZ
  rw [e];obtain ⟨z,e1,e2⟩:=h2 j hj;exact ⟨z,e1,canX_R e2⟩
 | .fn f l,y,h=>by
  exact aMk
 | .fb f l,y,h=>by
  exact aMk
 | .v _,_,h=>h
 | .bl _,_,h=>h
 | .ki _ _,_,h=>h
 | .own _ _,_,h=>h
 | .agg _,_,h=>h
 | .AO _,_,h=>h
 | .xl _ _,_,h=>h
 | .os ..,_,h=>h
 | .op ..,_,h=>h
 | .om _,_,h=>h
 | .mp ..,_,h=>h
 | .oc ..,_,h=>h
 | .CO _,_,h=>h
 | .junk,_,h=>h
def canL_R:∀ {l:aWf}{ys:aWv},RL β Z w l ys->RL β Z w (canL l) ys
 | [],ys,h=>by simpa only [canL,RL] using h
 |x::xs,ys,h=>by
  simp only [canL,RL] at h|-;obtain ⟨y,zs,h1,h2,h3⟩:=h;exact ⟨y,zs,h1,canX_R h2,canL_R h3⟩
end
mutual
def canX_ok:∀ {n:aWe}{x:LV},okV n x->okV n (canX x)
 | _,.xq m f,h=>by
  simp only [canX,okV] at h|-;intro j
  by_cases hj:j<m
  ·have e:((au m).map λi=>canX (f i)).getD j .junk=canX (f j):=yZ
   rw [e];exact canX_ok (h j)
  ·have e:((au m).map λi=>canX (f i)).getD j .junk=.junk:=yZ
   rw [e];trivial
 |_,.fn f l,h=>by
  simp only [canX,okV] at h|-;exact canL_ok h
 |_,.fb f l,h=>by
  simp only [canX,okV] at h|-;exact canL_ok h
 |_,.v _,h=>h
 |_,.bl _,h=>h
 |_,.ki _ _,h=>h
 |_,.own _ _,h=>h
 |_,.agg _,h=>h
 |_,.AO _,h=>h
 |_,.xl _ _,h=>h
 |_,.os ..,h=>h
 |_,.op ..,h=>h
 |_,.om _,h=>h
 |_,.mp ..,h=>h
 |_,.oc ..,h=>h
 |_,.CO _,h=>h
 |_,.junk,h=>h
def canL_ok:∀ {n:aWe}{l:aWf},AT n l->AT n (canL l)
 |_,[],h=>h
 |_,x::xs,h=>by
  simp only [canL,AT] at h|-;exact ⟨canX_ok h.1,canL_ok h.2⟩
end
def E6 {n:aWe}{f:aWe->LV}{l:aWf}(h:(au n).map f=l):((au n).map λi=>canX<|f i)=canL l:=by
 have e:∀l:aWf,canL l=l.map canX:=λl=>by induction l with
  |nil=>rfl
  |cons x l ih=>simp only [canL,ih,ET]
 rw [e,<-h,HK];rfl
def Bl (P:aWt) (G:B5) (Γ:aWR) (K:aW5) (L:Lg) (fn:aWX) (args:aWf):T LV:=(wU P G Γ K L fn args).bind λx=> .ok<|canX<|upR P fn.resultTypes.toList x
def aFc {f:aWF}{fn:aWX}{X S:aWf->T LV}(h0:Valid P G f X) (hS:∀args lv,(S args).all (λx=>x=lv)->((X<|canL args).bind λx=> .ok<|canX<|upR P fn.resultTypes.toList x).all (λx=>x=lv)):Valid P G f (K9 P fn.params.toList S):=by
 refine Valid.up ?_ _;intro args vals w Z lv hz hg hok hr hs
 have hs:=hS args lv hs
 obtain ⟨x,h1,h2⟩:=T.B8 hs;subst h2;exact Calls.mono (h0 (canL args) vals w Z x hz hg (canL_ok hok) (canL_R hr) h1) λe w' ⟨e1,v,e2,e3,e4⟩=>⟨e1,v,e2,canX_ok<|awS e3,canX_R<|akp e4⟩
def pC {f:aWF}{fn:aWX}{c:aWO}{S:aWf->T LV}(hfn:P.funcs[f]? =ah fn) (hc:fn.body=ah c) (hΓ:∀g S,Γ g=ah S->Valid P G g S) (hK:FW P G K)
  (hL:∀b∈BD c,Sound P G (.loop b)<|L<|Gp b) (hS:∀args lv,(S args).all (λx=>x=lv)->(Bl P G Γ K L fn<|canL args).all (λx=>x=lv)):Valid P G f (K9 P fn.params.toList S):=
 aFc (aom hfn hc hΓ hK hL λ_ _ h=>h) hS
def T.red {α:Type}:T α->T α
 | .br U t _=>T.red t
 | .br X _ e=>T.red e
 | .req p t=> .req p (T.red t)
 |t=>t
def T.WT {α:Type}{K:α->Prop}:∀ {t:T α},t.red.all K->t.all K
 | .ok _,h=>h
 | .br U t e,h=>⟨λ_=>T.WT h,λhb=>LH⟩
 | .br X t e,h=>⟨λhb=>LH,λ_=>T.WT h⟩
 | .req p t,h=>⟨h.1,T.WT h.2⟩
 | .no,h=>h
end Go.Sx
namespace Go.Proofs.YtoifmkifedcnnaaGreatDoor
set_option maxRecDepth 100000
set_option maxHeartbeats 4000000
open Go.Proofs.Tryz
open Go.Sx
abbrev Af:Ty:=.pair .str<|.pair A7<|.pair A7<|.pair A7<|.pair (.pair A7 A7)<|.pair A7<|.pair A7<|.pair A7<|.pair A7 A7
abbrev Al:Ty:=.pair .str<|.pair A7<|.pair A7 A7
abbrev Ah:Ty:=.pair .str<|.pair A7<|.pair A7<|.pair A7<|.pair A7<|.pair A7<|.pair A7 A7
abbrev Am:Ty:=.pair .str A7
abbrev Cbl:=Int×Int×Int×Int×Int
abbrev Cd:=ByteArray×Int×Int×Int×(Int×Int)×Cbl
def aWl:qT (List Cd):=⟨⟩
instance:Coe (List Cd) LV:=⟨.xl Af⟩
abbrev Ko:=ByteArray×Int×Int×Int
def aWr:qT (List Ko):=⟨⟩
instance:Coe (List Ko) LV:=⟨.xl Al⟩
abbrev Ch:=ByteArray×Int×Int×Int×Int×Int×Int×Int
def aWh:qT (List Ch):=⟨⟩
instance:Coe (List Ch) LV:=⟨.xl Ah⟩
abbrev Ba:=ByteArray×Int
def aWs:qT (List Ba):=⟨⟩
instance:Coe (List Ba) LV:=⟨.xl Am⟩
def s5 (a:aWf) (k:aWl->aWg->aWr->aWh->aWs->T LV):T LV:=match a with
 | [.xl (.pair .str (.pair (.int J) (.pair (.int J) (.pair (.int J) (.pair (.pair (.int J) (.int J)) (.pair (.int J) (.pair (.int J) (.pair (.int J) (.pair (.int J) (.int J)))))))))) cs,.xl (.str) os,.xl (.pair .str (.pair (.int J) (.pair (.int J) (.int J)))) ks,.xl (.pair .str (.pair (.int J) (.pair (.int J) (.pair (.int J) (.pair (.int J) (.pair (.int J) (.pair (.int J) (.int J)))))))) gs,.xl (.pair .str (.int J)) bs]=>k cs os ks gs bs
 |_=> .no
def IT {a:aWf}{k:aWl->aWg->aWr->aWh->aWs->T LV}{K:LV->Prop}(h:(s5 a k).all K):∃cs os ks gs bs,a=[.xl Af cs,.xl .str os,.xl Al ks,.xl Ah gs,.xl Am bs]/\(k cs os ks gs bs).all K:=by
 unfold s5 at h;exact mS
def AJ {x:Y}(h1:-9223372036854775808<=x:=by omega) (h2:x<=9223372036854775807:=by omega):AA x=x:=by
 exact aNf
def inB (n a b:Y):aWo:=an (n>=a)&&an (n<=b)
def BV {n a b:Y}:inB n a b=U↔a<=n/\n<=b:=by simp [inB]
def Lc {α:Type}{l:List α}{d:α}{n:Y}(h:n.toNat<M l):l.getD n.toNat d=l[n.toNat]:=A8
def Qf {α:Type}{l:List α}{d:α}{i:Y}(h0:0<=i) (h:i<M l):l.drop i.toNat=l.getD i.toNat d::l.drop (i+1).toNat/\l.take (i+1).toNat=l.take i.toNat++[l.getD i.toNat d]:=by
 have hlt:i.toNat<M l:=A0
 rw [Lc hlt,show (i+1).toNat=i.toNat+1 by omega,List.take_add_one,Dg hlt,SZ hlt]
 grind
def emp:aWM:=av #[]
def Ae (l:aWl) (n:Y):Cd:=l.getD n.toNat (emp,0,0,0,(0,0),0,0,0,0,0)
def AG (l:aWh) (n:Y):Ch:=l.getD n.toNat (emp,0,0,0,0,0,0,0)
def OG (l:aWr) (n:Y):Ko:=l.getD n.toNat (emp,0,0,0)
def ON (l:aWs) (n:Y):Ba:=l.getD n.toNat (emp,0)
def gS (l:aWg) (n:Y):aWM:=l.getD n.toNat emp
def gi_step {l:aWd}{i:Y}(h0:0<=i) (h:i<M l):l.drop i.toNat=gi l i::l.drop (i+1).toNat/\l.take (i+1).toNat=l.take i.toNat++[gi l i]:=by
 have hlt:i.toNat<M l:=A0
 rw [IW hlt,show (i+1).toNat=i.toNat+1 by omega,List.take_add_one,Dg hlt,SZ hlt]
 grind
def aiU {l:aWh}{n:Y}(h:n.toNat<M l):AG l n=l[n.toNat]:=Lc h
def apt {l:aWl}{i:Y}(h0:0<=i) (h:i<M l):l.drop i.toNat=Ae l i::l.drop (i+1).toNat/\l.take (i+1).toNat=l.take i.toNat++[Ae l i]:=Qf h0 h
def aps {l:aWh}{i:Y}(h0:0<=i) (h:i<M l):l.drop i.toNat=AG l i::l.drop (i+1).toNat/\l.take (i+1).toNat=l.take i.toNat++[AG l i]:=Qf h0 h
def aGT {l:aWr}{i:Y}(h0:0<=i) (h:i<M l):l.drop i.toNat=OG l i::l.drop (i+1).toNat/\l.take (i+1).toNat=l.take i.toNat++[OG l i]:=Qf h0 h
def apu {l:aWs}{i:Y}(h0:0<=i) (h:i<M l):l.drop i.toNat=ON l i::l.drop (i+1).toNat/\l.take (i+1).toNat=l.take i.toNat++[ON l i]:=Qf h0 h
def aIe {l:aWg}{i:Y}(h0:0<=i) (h:i<M l):l.drop i.toNat=gS l i::l.drop (i+1).toNat/\l.take (i+1).toNat=l.take i.toNat++[gS l i]:=Qf h0 h
def Dr (mi ma st:Y):aWo:=an (1<=mi)&&(an (mi<=ma)&&(an (ma<=80)&&(an (1<=st)&&an (st<=80))))
def IQ {mi ma st:Y}:Dr mi ma st=U↔1<=mi/\mi<=ma/\ma<=80/\1<=st/\st<=80:=by simp [Dr]
def Ed (mi ma st:Y):Y:=if Dr mi ma st then (ma-mi) / st+2 else 0
def EA (mi st k:Y):Y:=if k=0 then 0 else mi+(k-1)*st
def amE (mi ma st k:Y):Y:=if k<0\/Ed mi ma st<=k then 1 else 0
def amA (mi ma st k:Y):Y:=if k<0\/Ed mi ma st<=k then 0 else EA mi st k
def HY (mi ma st a:Y):Y:=if Dr mi ma st=X\/a<0 then -1 else if a<mi then 0 else min (Ed mi ma st-1) ((a-mi) / st+1)
def qD {x st:Y}(h0:0<=x) (h1:1<=st):0<=x / st/\x / st<=x:=⟨Sf h0 A0,VF _ h0⟩
def aSq {mi ma st:Y}:0<=Ed mi ma st/\Ed mi ma st<=81:=by
 unfold Ed;split
 ·rename_i h
  exact aNq
 ·omega
def rW {mi ma st:Y}(h:Dr mi ma st=U):2<=Ed mi ma st:=by
 unfold Ed;rw [AD h];exact aNq
def aFd {mi ma st:Y}(h:Dr mi ma st=X):Ed mi ma st=0:=by simp [Ed,h]
def afq {a b:Y}(a0:0<=a) (a1:a<=1000) (b0:0<=b) (b1:b<=80):0<=a*b/\a*b<=80000:=
 ⟨Im a0 b0,Hl (Q6 b1 a0) A0⟩
def aHc (bs:aWM):∀(n i:aWe) (r:List UInt8),bs.size-i=n->ByteArray.toList.loop bs i r=r.reverse++bs.data.toList.drop i
 |0,i,r,h=>by
  rw [ByteArray.toList.loop,AE A0,F6 (by simp only [xV];show bs.size<=i;omega),Gb]
 | n+1,i,r,h=>by
  have hi:i<M bs.data.toList:=by simp only [xV];show i<bs.size;omega
  rw [ByteArray.toList.loop,AD A0,aHc bs n (i+1) _ A0,List.reverse_cons,Ct,SZ hi]
  have:bs.get! i=bs.data.toList[i]:=by
   show bs.data[i]! =_
   grind
  rw [this];rfl
def aHd (bs:aWM):bs.toList=bs.data.toList:=by
 rw [ByteArray.toList,aHc bs _ 0 [] rfl];rfl
def axk {a b:aWM}(h:a.toList=b.toList):a=b:=by
 rw [aHd,aHd] at h;cases a;cases b;simp at h;rw [h]
def vL {a b:aWM}:(a==b)=U↔a=b:=by
 show (a.data==b.data)=U↔_
 rw [D3];exact ⟨λh=>by cases a;cases b;simp at h;rw [h],λh=>Vf⟩
instance:LawfulBEq ByteArray where
 eq_of_beq h:=vL.1 h
 rfl:=vL.2 rfl
def X9 (a b:aWM):(a.toList==b.toList)=(a==b):=by
 rw [Ip,D3,vL];exact ⟨axk,λh=>Vf⟩
def kinds:aWg:=[av #[102,101,101,100,101,114],av #[99,97,98,108,101],av #[111,119,110,101,114],av #[99,111,110,116,114,97,99,116],av #[99,104,97,114,103,101,114],av #[98,97,121],av #[116,97,114,105,102,102]]
def jM:aWg:=[av #[108,105,109,105,116],av #[110,101,117,116,114,97,108],av #[102,117,115,101],av #[116,104,101,114,109,97,108],av #[102,114,111,109],av #[97,116],av #[112,104,97,115,101,115],av #[97,109,112,115],av #[102,97,108,108,98,97,99,107],av #[111,119,110,101,114],av #[99,97,114,100],av #[114,97,110,107],av #[99,104,97,114,103,101,114]]
def pj:aWg:=[av #[115,116,97,114,116],av #[101,110,101,114,103,121],av #[116,105,109,101],av #[105,100,108,101],av #[99,97,112],av #[116,97,120]]
def words:aWg:=[av #[111,110],av #[119,111,114,107],av #[115,97,116,117,114,100,97,121],av #[115,117,110,100,97,121],av #[98,101,116,119,101,101,110],av #[112,101,114],av #[102,114,101,101]]
def isIn (l:aWg) (w:aWM):aWo:=l.any (w== ·)
def Uu:Y->aWg->aWM->Int
 |_,[],_=>0
 |n,x::l,w=>if w==x then n else Uu (n+1) l w
def aGP:∀(n:Y) (l:aWg) (w:aWM),0<n->(Uu n l w !=0)=isIn l w
 |_,[],_,_=>rfl
 | n,x::l,w,h=>by
  simp only [Uu,isIn,Zk];split
  ·grind
  ·rename_i c
   have:=aGP (n+1) l w A0
   simp only [isIn] at this;rw [this]
   simp [c]
def wI (w:aWM):aWo:=isIn kinds w ||(isIn jM w ||(isIn pj w ||isIn words w))
def chA (b:Y):aWo:=an (b>=97)&&an (b<=122)
def chB (b:Y):aWo:=chA b ||((an (b>=48)&&an (b<=57)) ||b==95)
def gwB (w:aWM):aWo:=an (1<=w.size/\w.size<=12)&&(chA (JR w 0)&&(au w.size).all λi=>i==0 ||chB (JR w i))
def nameB (w:aWM):aWo:=gwB w&&!wI w
def Jx {p q:Prop}(h:p) (k:p->q):p/\q:=⟨h,k h⟩
def Dp (n:aWe) (f:Y->aWo):aWo:=(au n).all λj=>f (j:Y)
def Dx {n:aWe}{f:Y->aWo}:Dp n f=U↔∀j:aWe,(j:Y)<(n:Y)->f j=true:=by
 unfold Dp
 grind
def Qe {n:aWe}{f:Y->aWo}(j:aWe) (h:(j:Y)<(n:Y)) (hf:f j=X):Dp n f=false:=by
 rw [IM];intro hx;rw [Dx.1 hx j h] at hf;cases hf
def cbZ (c:Cbl):aWo:=(c.1==0)&&((c.2.1==0)&&((c.2.2.1==0)&&((c.2.2.2.1==0)&&(c.2.2.2.2==0))))
def Ik (c:Cbl):aWo:=cbZ c ||(an (0<=c.1)&&(an (c.1<c.2.1)&&(an (c.2.1<=200000)&&(inB c.2.2.1 0 1000&&(inB c.2.2.2.1 0 1000&&inB c.2.2.2.2 1 1000000)))))
def I5 (i:Y) (c:Cd):aWo:=(if i=0 then c.2.1==-1 else inB c.2.1 0 (i-1))&&(inB c.2.2.1 1 1000&&(inB c.2.2.2.1 1 1000&&(((c.2.2.2.2.1.1==0)&&(c.2.2.2.2.1.2==0) ||(inB c.2.2.2.2.1.1 1 1000&&inB c.2.2.2.2.1.2 0 1000000))&&Ik c.2.2.2.2.2)))
def chW (c:Ch):aWo:=inB c.2.2.1 1 7&&(inB c.2.2.2.1 1 80&&(inB c.2.2.2.2.1 c.2.2.2.1 80&&(inB c.2.2.2.2.2.1 1 80&&(c.2.2.2.2.2.2.1==0 ||inB c.2.2.2.2.2.2.1 c.2.2.2.1 c.2.2.2.2.1))))
def GO (nc no:Y) (c:Ch):aWo:=inB c.2.1 0 (nc-1)&&(inB c.2.2.2.2.2.2.2 0 (no-1)&&chW c)
def koV (no:Y) (c:Ko):aWo:=inB c.2.1 0 (no-1)&&(inB c.2.2.1 1 9&&inB c.2.2.2 1 1000000)
def once {α:Type} [BEq α] (l:List α):aWo:=(au<|M l).all λj=>match l[j]? with
 |some x=>!((l.take j).contains x)
 |none=>U
def qN {α:Type} [BEq α] [LawfulBEq α] {l:List α}:once l=U↔∀(j:aWe) (h:j<M l),¬l[j]∈l.take j:=by
 unfold once;rw [BO];refine ⟨λh j hj hm=>?_,λh j hj=>?_⟩
 ·have:=h j (Iq.2 hj)
  rw [Dg hj] at this;simp only [D2] at this;rw [Zq.2 hm] at this;cases this
 ·have hj:=Iq.1 hj
  grind
def vpB (cs:aWl) (os:aWg) (ks:aWr) (gs:aWh) (bs:aWs):aWo:=
 Dp (M cs) (λj=>I5 j<|Ae cs j)&&(ks.all (koV<|M os)&&(once (ks.map (·.2.2.2))&&(gs.all (GO (M cs)<|M os)&&bs.all (λb=>inB b.2 0<|(M gs:Y)-1))))
def Lb (cs:aWl) (os:aWg) (ks:aWr) (gs:aWh) (bs:aWs):aWg:=cs.map (·.1)++os++ks.map (·.1)++gs.map (·.1)++bs.map (·.1)
def BH (cs:aWl) (os:aWg) (ks:aWr) (gs:aWh) (bs:aWs):aWo:=
 an (1<=M cs/\M cs<=16/\M os<=8/\M ks<=32/\M gs<=16/\M bs<=24)&&((Lb cs os ks gs bs).all nameB&&(once (Lb cs os ks gs bs)&&vpB cs os ks gs bs))
end Go.Proofs.YtoifmkifedcnnaaGreatDoor
end
