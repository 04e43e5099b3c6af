/- Helpers for TopDoubledMessages:. Conditions: none. -/
import Derived.Test.YtepoohnehmfflaaGreatDoorQx1
set_option linter.defProp false
set_option linter.unusedVariables false
set_option linter.unusedSimpArgs false
noncomputable section
open List renaming length→M,length→aa,replicate→au,range→av
open Bool renaming true→U,true→ae,false→X,false→af
open Go.Value renaming int→ah
open Option renaming some→ai,none→ak
open Go.IntKind renaming i64→J,i64→aj,u8→ax,u32→ay
open True renaming intro→an
open Decidable renaming decide→aq
open ByteArray renaming mk→aw
open Go.Region renaming ready→az,wanted→aA
open Go.Instr renaming findNow→aB
namespace Go.Sx
open Go Go.RowKit Go.Proofs.YtepoohnehmfflaaGreatDoor
variable {P : Program} {G : B5} {Γ : Specs} {β : Nat -> Loc} {Z : Nat -> Prop} {Z0 : Gz} {w w0 : World} {F : List LV} {H : List AB} {a : Act} {ds : List Deferred}
def dp (hΓ:∀g S,Γ g=ai S->Valid P G g S) (hW:RW G w0 Z0 Z β H w) (hF:RF ds β Z w (M H) F a) {o:aU}{lv:LV}{H':aH}
  (h:(Ax P G Γ F H o).all λq=>q=(lv,H')):Dj P (Post ds G w0 Z0 F a β H w o lv H') ((execOp a.eval o).run P w):=by
 have hsel:∀cs b,o.op≠ .select cs b:=λcs b e=>by unfold Ax at h;simp only [e] at h;cases h
 have ev:=λx=>hF.eval hW.Ci x
 have same:∀ {t:T LV},(t.bind λy=>(T.ok (y,H):T<|LV×List AB)).all (λq=>q=(lv,H'))->t.all (λz=>z=lv)/\H'=H:=λh=>by
  obtain ⟨x,h1,h2⟩:=T.B4 h;simp only [T.all,Ay] at h2;obtain ⟨rfl,rfl⟩:=h2;exact ⟨h1,rfl⟩
 have gen:(Dl P G F o).all (λz=>z=lv)->H'=H->Dj P (Post ds G w0 Z0 F a β H w o lv H') ((execOp a.eval o).run P w):=λhg e=>by
  subst e;exact afD hsel hW hF hg
 have val:∀ {v:aW},H'=H->(execOp a.eval o).run P w=.ok (.value v) w->R β Z w lv v->okV (M H) lv->Dj P (Post ds G w0 Z0 F a β H w o lv H') ((execOp a.eval o).run P w):=λe hrun hr hk=>by
  subst e;exact aER hW hF hrun hr hk
 unfold Ax at h;split at h
 ·cases h
 ·exact aN3
 ·exact aN3
 ·rename_i c x y ho
  obtain ⟨h1,h2⟩:=same h;obtain ⟨g,e1,e2,e3⟩:=aEE h1 (ev c).1 (ev x).1 (ev y).1 (ev x).2 (ev y).2;exact val h2 (v:=if g then a.eval x else a.eval y) aPT e2 e3
 ·rename_i t ho
  split at h
  ·rename_i z hz
   split at h
   ·rename_i cs hcs
    simp only [T.all,Ay] at h;obtain ⟨h1,h2⟩:=h;obtain ⟨c1,_⟩:=qZ (β:=β) (Z:=Z) (w:=w) hcs (show R β Z w (.v z) z by simp only [R])
    obtain ⟨β',b1,b2,b3,b4⟩:=hW.alloc (t:=t) c1<|qC hcs trivial
    have hrun:(execOp a.eval o).run P w=.ok (.value<|.pointer<|ai ⟨w.heap.size,0,ak⟩) (w.alloc<|.cells z.cells t):=by
     have e:=λw=>pN hz w
     simp [execOp,ho,Instr.alloc,e,newVar,newRow]
    exact aMD
   ·cases h
  ·cases h
 ·rename_i t x ho
  split at h
  ·rename_i cs hcs
   simp only [T.all,Ay] at h;obtain ⟨h1,h2⟩:=h;obtain ⟨c1,_⟩:=qZ hcs (ev x).1;obtain ⟨β',b1,b2,b3,b4⟩:=hW.alloc (t:=t) c1<|qC hcs (ev x).2
   have hrun:(execOp a.eval o).run P w=.ok (.value<|.pointer<|ai ⟨w.heap.size,0,ak⟩) (w.alloc<|.cells (a.eval x).cells t):=by
    simp [execOp,ho,Instr.box,newVar,newRow]
   exact aMD
  ·cases h
 ·rename_i t x ho
  obtain ⟨h1,h2⟩:=same h;obtain ⟨z,e1,e2,e3⟩:=pU hW h1 (ev x).1 (ev x).2;exact yU
 ·rename_i t x y ho
  obtain ⟨H1,h1,h2⟩:=T.B4 h;simp only [T.all,Ay] at h2;obtain ⟨h2,h3⟩:=h2;subst h3;obtain ⟨w',e1,e2,e3,e4,e6⟩:=aeN hW h1 (ev x).1 (ev y).1 (ev y).2;exact aMQ
 ·rename_i s x i ho
  obtain ⟨h1,h2⟩:=same h;obtain ⟨z,e1,e2,e3⟩:=ae2 (w:=w) h1 (ev x).1 (ev x).2;exact Zz
 ·rename_i t x i ho
  obtain ⟨h1,h2⟩:=same h;obtain ⟨z,e1,e2,e3⟩:=aDb (w:=w) h1 (ev x).1 (ev i).1 (ev x).2;exact Zz
 ·rename_i t parts ho
  obtain ⟨h1,h2⟩:=same h
  obtain ⟨z,e1,e2,e3⟩:=ae3 (β:=β) (Z:=Z) (w:=w) (n:=M H) (pv:=parts.map λq=>(q.1,a.eval q.2)) h1 Vb (by
   simp only [N6,HG];refine RL.CW AI λi x hx=>?_
   rw [Dh] at hx|-;cases hq:parts.toList[i]? with
   |none=>simp [hq] at hx
   |some q=>simp [hq] at hx;subst hx;exact ⟨a.eval q.2,AI,(fO<|ev q.2).1⟩) (by
   simp only [HG];refine AT.CW λi x hx=>?_
   rw [Dh] at hx;cases hq:parts.toList[i]? with
   |none=>simp [hq] at hx
   |some q=>simp [hq] at hx;subst hx;exact (fO<|ev q.2).2)
  exact val h2 (v:=z) KO e2 e3
 ·rename_i t len parts ho
  split at h
  ·rename_i h0
   subst h0;split at h
   ·rename_i hpe
    have hpa:parts=#[]:=by
     have:=Zl.1 hpe
     rw [<-xY (xs:=parts),this]
    obtain ⟨w',v,e1,e2,β',e3,e4,e5,e6,e7,e8⟩:=aeP hW h
    have hrun:(execOp a.eval o).run P w=.ok (.value v) w':=by simp [execOp,ho,hpa,e1]
    exact aM4
   ·cases h
  split at h
  rotate_left
  ·obtain ⟨w',v,e1,e2,β',e3,e4,e5,e6,e7,e8⟩:=afP (pv:=parts.map λq=>(q.1,a.eval q.2)) hW h Vb (by
    simp only [N6,HG];refine RL.CW AI λi x hx=>?_
    rw [Dh] at hx|-;cases hq:parts.toList[i]? with
    |none=>simp [hq] at hx
    |some q=>simp [hq] at hx;subst hx;exact ⟨a.eval q.2,AI,(ev q.2).1⟩) (by
    simp only [HG];refine AT.CW λi x hx=>?_
    rw [Dh] at hx;cases hq:parts.toList[i]? with
    |none=>simp [hq] at hx
    |some q=>simp [hq] at hx;subst hx;exact (ev q.2).2)
   have hrun:(execOp a.eval o).run P w=.ok (.value v) w':=KO
   rw [hrun];refine ⟨Z,β',e4,hF.mono A0 e3 (λ_ h=>h) λb hz=>EI e2<|hW.Bc b hz,e5,e6,A0,e3,λk k1 k2=>?_,NJ e2⟩
   have:k=M H:=A0
   rw [this,e8];exact .inl<|Ar _
  split at h
  ·obtain ⟨w',v,Z',β',e1,e2,ez,e3,e4,e5,e6,e7,e8⟩:=afN (pv:=parts.map λq=>(q.1,a.eval q.2)) hW h Vb (by
    simp only [N6,HG];refine RL.CW AI λi x hx=>?_
    rw [Dh] at hx|-;cases hq:parts.toList[i]? with
    |none=>simp [hq] at hx
    |some q=>simp [hq] at hx;subst hx;exact ⟨a.eval q.2,AI,(ev q.2).1⟩) (by
    simp only [HG];refine AT.CW λi x hx=>?_
    rw [Dh] at hx;cases hq:parts.toList[i]? with
    |none=>simp [hq] at hx
    |some q=>simp [hq] at hx;subst hx;exact (ev q.2).2)
   have hrun:(execOp a.eval o).run P w=.ok (.value v) w':=KO
   rw [hrun];refine ⟨Z',β',e4,hF.mono A0 e3 ez λb hz=>EI e2<|hW.Bc b hz,e5,e6,A0,e3,λk k1 k2=>?_,NJ e2⟩
   have:k=M H:=A0
   rw [this,e8];exact .inl<|Ar _
  split at h
  rotate_left
  ·unfold oT at h
   split at h
   ·rename_i hcl
    have hargs:RL β Z w ((parts.toList.map λq=>(q.1,AM G F q.2)).map (·.2)) ((parts.map λq=>(q.1,a.eval q.2)).toList.map (·.2)):=by
     simp only [N6,HG];refine RL.CW AI λi x hx=>?_
     rw [Dh] at hx|-;cases hq:parts.toList[i]? with
     |none=>simp [hq] at hx
     |some q=>simp [hq] at hx;subst hx;exact ⟨a.eval q.2,AI,(ev q.2).1⟩
    have hoka:AT (M H) ((parts.toList.map λq=>(q.1,AM G F q.2)).map (·.2)):=by
     simp only [HG];refine AT.CW λi x hx=>?_
     rw [Dh] at hx;cases hq:parts.toList[i]? with
     |none=>simp [hq] at hx
     |some q=>simp [hq] at hx;subst hx;exact (ev q.2).2
    generalize hvs:(parts.toList.map λq=>(q.1,AM G F q.2))=vs at h hcl hargs hoka
    obtain ⟨y,h1,h2⟩:=T.B4 h;simp only [T.all,Ay] at h2;obtain ⟨rfl,rfl⟩:=h2;obtain ⟨_,hg,h1⟩:=T.B4 h1
    have hG:=T.BR (K':=λ_=>True) (λ_ _=>trivial) hg
    obtain ⟨c1,c2⟩:=Sz hcl
    have hP:=hW.pub<|reach H 64 (ownsL<|vs.map (·.2)) []
    have hH:=λk b hb=>(hW.blk k b hb).2
    have hr0:RL β (ZP Z β H λk=>k∈reach H 64 (ownsL<|vs.map (·.2)) []) w ((vs.map (·.2)).map<|C4 H 6) ((parts.map λq=>(q.1,a.eval q.2)).toList.map (·.2)):=
     TI (S:=λk=>k∈reach H 64 (ownsL<|vs.map (·.2)) []) hargs hoka c1 (λx y hm hs hx hr=>Mc hW c2 6 x y (Oo hG x hm) hs hx hr)
    have hok0:AT 0 ((vs.map (·.2)).map<|C4 H 6):=by
     exact aMA
    have emap:(vs.map λq=>(q.1,C4 H 6 q.2)).map (·.2)=(vs.map (·.2)).map (C4 H 6):=Vb
    obtain ⟨elem,cells,e1,e2,e3⟩:=aEx (β:=β) (Z:=ZP Z β H λk=>k∈reach H 64 (ownsL<|vs.map (·.2)) []) (w:=w) (n:=0) (pv:=parts.map λq=>(q.1,a.eval q.2)) h1 (by rw [<-hvs];simp [Zd]) (by rw [emap];exact hr0) (by rw [emap];exact hok0)
    have hrun:(execOp a.eval o).run P w=.ok (.value<|.slice (ai ⟨w.heap.size,0,ak⟩) len len) (w.alloc<|.cells cells elem):=by
     simp [execOp,ho,e1]
    have hbw:Below w.heap.size w (w.alloc<|.cells cells elem):=(Below.refl _ _).alloc (Ar _) _
    rw [hrun];refine ⟨_,β,hP.call hbw,?_,?_,okV.mono (N9 _) _ e3,by rw [KP];exact Ar _,λ_ _=>rfl,λk h1 h2=>by rw [KP] at h2;omega,NJ hbw⟩
    ·exact aMX
    ·exact e2 β _ _ w.heap.size (λ_ h=> .inl h) (λb hz=>EI hbw<|hP.Bc b hz) (λj v hv=>by
      show World.cell? _ _=_
      unfold World.cell?
      have:(w.alloc<|.cells cells elem).heap[w.heap.size]? =ai (.cells cells elem (0,0)):=by
       exact bJ
      simp only [this]
      simpa using hv)<|.inr ⟨Ar _,AI⟩
   ·cases h
  ·obtain ⟨h1,h2⟩:=same h
   subst h2
   have hp:=aEx (β:=β) (Z:=Z) (w:=w) (n:=M H') (pv:=parts.map λq=>(q.1,a.eval q.2)) h1 Vb (by
    simp only [N6,HG];refine RL.CW AI λi x hx=>?_
    rw [Dh] at hx|-;cases hq:parts.toList[i]? with
    |none=>simp [hq] at hx
    |some q=>simp [hq] at hx;subst hx;exact ⟨a.eval q.2,AI,(ev q.2).1⟩) (by
    simp only [HG];refine AT.CW λi x hx=>?_
    rw [Dh] at hx;cases hq:parts.toList[i]? with
    |none=>simp [hq] at hx
    |some q=>simp [hq] at hx;subst hx;exact (ev q.2).2)
   obtain ⟨elem,cells,e1,e2,e3⟩:=hp
   have hrun:(execOp a.eval o).run P w=.ok (.value<|.slice (ai ⟨w.heap.size,0,ak⟩) len len) (w.alloc<|.cells cells elem):=by
    simp [execOp,ho,e1]
   have hbw:Below w.heap.size w (w.alloc<|.cells cells elem):=(Below.refl _ _).alloc (Ar _) _
   rw [hrun];refine ⟨_,β,hW.call hbw,hF.mono (Ar _) (λ_ _=>rfl) (λ_ h=> .inl h) λb hz=>EI hbw<|hW.Bc b hz,?_,e3,Ar _,λ_ _=>rfl,λk h1 h2=>A0,NJ hbw⟩
   exact e2 β _ _ w.heap.size (λ_ h=> .inl h) (λb hz=>EI hbw<|hW.Bc b hz) (λj v hv=>by
    show World.cell? _ _=_
    unfold World.cell?
    have:(w.alloc<|.cells cells elem).heap[w.heap.size]? =ai (.cells cells elem (0,0)):=by
     exact bJ
    simp only [this]
    simpa using hv)<|.inr ⟨Ar _,AI⟩
 ·rename_i t n c ho
  obtain ⟨w',v,e1,e2,β',e3,e4,e5,e6,e7,e8⟩:=aec hW h (ev n).1 (ev c).1
  have hrun:(execOp a.eval o).run P w=.ok (.value v) w':=KO
  exact aM4
 ·rename_i t x lo hi ho
  split at h
  ·exact NB
  ·obtain ⟨h1,h2⟩:=same h
   have ro:∀q:Option Operand,RO β Z w (q.map<|AM G F) (q.map a.eval):=λq=>by
    cases q with
    |none=>trivial
    |some q=>exact (ev q).1
   obtain ⟨z,e1,e2,e3⟩:=ae0 (w:=w) h1 (ev x).1 (ro lo) (ro hi) (ev x).2;exact Zz
 ·rename_i t x lo hi mx ho
  split at h
  ·exact NB
  ·obtain ⟨h1,h2⟩:=same h
   have ro:RO β Z w (lo.map<|AM G F) (lo.map a.eval):=by
    cases lo with
    |none=>trivial
    |some q=>exact (ev q).1
   obtain ⟨z,e1,e2,e3⟩:=adg (w:=w) (N:=M H) h1 (ev x).1 ro (ev hi).1 (ev mx).1;exact Zz
 ·rename_i t ho
  split at h
  ·rename_i e he
   simp only [T.all,Ay] at h;obtain ⟨h1,h2⟩:=h;obtain ⟨β',b1,b2,b3,b4⟩:=hW.ah7 (e:=e) (t:=t);exact aMR
  split at h
  ·rename_i kd hkd
   simp only [T.all,Ay] at h;obtain ⟨h1,h2⟩:=h;obtain ⟨β',b1,b2,b3,b4⟩:=hW.agI (kd:=kd) (t:=t);exact aMR
  ·cases h
 ·exact aMP
 ·exact aMP
 ·rename_i t x i ho
  obtain ⟨h1,h2⟩:=same h;obtain ⟨z,e1,e2,e3⟩:=aEJ hW h1 (ev x).1 (ev i).1 (ev x).2;exact yU
 ·rename_i t x i ho
  split at h
  ·exact NB
  ·obtain ⟨h1,h2⟩:=same h
   obtain ⟨z,e1,e2,e3⟩:=adv hW h1 (ev x).1 (ev i).1 (ev x).2;exact yU
 ·rename_i x i ho
  split at h
  ·rename_i l hl
   split at h
   ·rename_i y hy
    simp only [T.all,Ay] at h;obtain ⟨h1,h2⟩:=h
    have hx:=ev x
    rw [hl] at hx;simp only [R,okV] at hx;obtain ⟨⟨ys,e1,e2⟩,e3⟩:=hx;obtain ⟨z,e4,e5⟩:=RL.get _ _ e2 hy
    have e6:ys[i]? =ai z:=by simpa using e4
    refine val h2.symm (v:=z) aP1 ?_ ?_<;>rw [<-h1]
    ·exact e5
    ·exact AT.get _ _ e3 hy
   ·cases h
  ·exact NB
 ·rename_i t x i ho
  split at h
  ·rename_i l hl
   obtain ⟨h1,h2⟩:=same h
   have hx:=ev x
   rw [hl] at hx;simp only [R,okV] at hx;obtain ⟨⟨ys,e1,e2⟩,e3⟩:=hx;obtain ⟨z,f1,f2,f3⟩:=aEt h1 e2 e3;exact aNH
  ·exact NB
 ·rename_i f first cap ho
  split at h
  ·rename_i he
   simp only [T.all,Ay] at h;obtain ⟨h1,h2⟩:=h
   have hfirst:first=#[]:=by
    have:first.toList=[]:=cH
    exact QR
   refine val h2.symm (v:=.func (.func f) #[]<|cap.map a.eval) aOx ?_ ?_<;>rw [<-h1]
   ·exact aMJ
   ·exact aN0
  ·split at h
   ·rename_i he
    simp only [T.all,Ay] at h;obtain ⟨h1,h2⟩:=h
    have hcap:cap=#[]:=by
     have:cap.toList=[]:=cH
     exact QR
    refine val h2.symm (v:=.func (.func f) (first.map a.eval) #[]) aP2 ?_ ?_<;>rw [<-h1]
    ·exact aMH
    ·exact aMy
   ·cases h
 ·rename_i x ho
  have hx:=ev x
  split at h
  ·rename_i k off hl
   exact aM6
  ·rename_i k es i j hl
   exact aM6
  ·rename_i n f hl
   simp only [T.all,Ay] at h;rw [hl] at hx
   have hx1:=hx.1
   simp only [R] at hx1;obtain ⟨b,off,e1,_⟩:=hx1;refine val h.2.symm (v:=a.eval x) KO ?_ ?_<;>rw [<-h.1]
   ·exact hx.1
   ·exact hx.2
  ·exact aMM
  ·exact aMM
  ·exact NB
 ·rename_i t x y t' ho
  split at h
  ·rename_i k n k' m hx hy
   split at h
   ·rename_i hk
    subst hk;simp only [T.all,Ay] at h;obtain ⟨h0,h1,h2⟩:=h
    have e1:=Cm hx (ev x).1
    have e2:=Cm hy (ev y).1
    refine val h2.symm (v:=ah k<|k.wrap<|n.tdiv m) nR ?_ ?_<;>rw [<-h1]
    ·exact Dx
    ·trivial
   ·cases h
  ·cases h
 ·rename_i t x y t' ho
  split at h
  ·rename_i k n k' m hx hy
   split at h
   ·rename_i hk
    subst hk;simp only [T.all,Ay] at h;obtain ⟨h0,h1,h2⟩:=h
    have e1:=Cm hx (ev x).1
    have e2:=Cm hy (ev y).1
    refine val h2.symm (v:=ah k<|n.tmod m) nR ?_ ?_<;>rw [<-h1]
    ·exact Dx
    ·trivial
   ·cases h
  ·cases h
 ·rename_i t x y t' ho
  split at h
  ·exact NB
  ·split at h
   ·rename_i k n k' m hx hy
    simp only [T.all,Ay] at h;obtain ⟨h0,h1,h2⟩:=h
    have e1:=Cm hx (ev x).1
    have e2:=Cm hy (ev y).1
    refine val h2.symm (v:=ah k<|k.wrap<|n*2^(min m.toNat k.bits)) nT ?_ ?_<;>rw [<-h1]
    ·exact Dx
    ·trivial
   ·cases h
 ·rename_i t x y t' ho
  split at h
  ·exact NB
  ·split at h
   ·rename_i k n k' m hx hy
    simp only [T.all,Ay] at h;obtain ⟨h0,h1,h2⟩:=h
    have e1:=Cm hx (ev x).1
    have e2:=Cm hy (ev y).1
    refine val h2.symm (v:=ah k<|n.fdiv<|2^(min m.toNat k.bits)) nT ?_ ?_<;>rw [<-h1]
    ·exact Dx
    ·trivial
   ·cases h
 ·rename_i t x i ho
  split at h
  ·rename_i l hl
   obtain ⟨h1,h2⟩:=same h;obtain ⟨ys,e1,e2,e3⟩:=aF5 hl (ev x).1 (ev x).2;obtain ⟨z,f1,f2,f3⟩:=aF2 h1 e2 e3 (ev i).1;exact aNH
  ·split at h
   ·rename_i s kd n hu hx hi
    simp only [T.all,Ay] at h;obtain ⟨⟨h0,hlt⟩,h1,h2⟩:=h
    have e1:=Cm hx (ev x).1
    have e2:=Cm hi (ev i).1
    have hb:n.toNat<s.size:=A0
    have hg:s[n.toNat]? =ai s[n.toNat]:=by simp [hb]
    refine val h2.symm (v:=ah ax<|JW s n) aOX ?_ ?_<;>rw [<-h1]
    ·exact Dx
    ·trivial
   ·cases h
 ·rename_i f args ty ho
  split at h
  ·rename_i g cap hf
   exact aEq ho hΓ hW hF (.inl ⟨cap,hf,rfl⟩) h
  ·rename_i g fs hf
   exact aEq ho hΓ hW hF (.inr<|.inl ⟨fs,hf,rfl⟩) h
  ·cases h
 ·rename_i r name args ty ho
  split at h
  ·rename_i g rv hf
   exact afC ho hΓ hW hF hf h
  ·cases h
 ·rename_i args ty ho
  split at h
  ·rename_i x y t tx hl ht
   cases hargs:args.toList with
   |nil=>simp [hargs] at hl
   | cons u us=>
    cases us with
    |nil=>simp [hargs] at hl
    | cons u' us=>
     cases us with
     |cons _ _=>simp [hargs] at hl
     | nil=>
      simp only [hargs,ER,LR,Ht,Od] at hl;obtain ⟨rfl,rfl⟩:=hl
      have ha:args=#[u,u']:=QS
      have hty:ty=#[t,tx]:=aPH
      obtain ⟨w',v,e1,e2,e3,β',e4,e5,e6,e7,e8,e9⟩:=aeI (ty':=o.type) hW h (ev u).1 (ev u').1
      have hrun:(execOp a.eval o).run P w=.ok (.value v) w':=by
       simp [execOp,ho,resolve,invoke,builtin,ha,hty,e1]
      rw [hrun]
      have htb:P0 G F β H o=Dd β H (owns<|AM G F u):=by simp [P0,Ec,ho,ha]
      refine ⟨Z,β',e5,hF.mono A0 e4 (λ_ h=>h) e3,e6,e7,A0,e4,λk k1 k2=>?_,by rw [htb];exact e2⟩
      have:k=M H:=A0
      rw [this,htb];exact e9
  ·cases h
 ·rename_i args ty ho
  split at h
  ·rename_i x y t tx hl ht
   cases hargs:args.toList with
   |nil=>simp [hargs] at hl
   | cons u us=>
    cases us with
    |nil=>simp [hargs] at hl
    | cons u' us=>
     cases us with
     |cons _ _=>simp [hargs] at hl
     | nil=>
      simp only [hargs,ER,LR,Ht,Od] at hl;obtain ⟨rfl,rfl⟩:=hl
      have ha:args=#[u,u']:=QS
      have hty:ty=#[t,tx]:=aPH
      obtain ⟨w',v,e1,e2,e3,e4,e5,e6,e7⟩:=aem (ty':=o.type) hW h (ev u).1 (ev u').1
      have hrun:(execOp a.eval o).run P w=.ok (.value v) w':=by
       simp [execOp,ho,resolve,invoke,builtin,ha,hty,e1]
      rw [hrun]
      have htb:P0 G F β H o=Dd β H (owns<|AM G F u):=by simp [P0,Ec,ho,ha]
      refine ⟨Z,β,e2,hF.mono A0 (λ_ _=>rfl) (λ_ h=>h) e6,e3,e4,A0,λ_ _=>rfl,λk k1 k2=>?_,by rw [htb];exact e7⟩
      omega
  ·cases h
 ·rename_i args ty ho
  split at h
  ·rename_i k es off n e hl hu
   simp only [T.all,Ay] at h;obtain ⟨h1,h2⟩:=h;cases hargs:args.toList with
   |nil=>simp [hargs] at hl
   | cons x xs=>
    cases xs with
    |cons _ _=>simp [hargs] at hl
    | nil=>
     simp only [hargs,ER,LR,Ht,Od] at hl
     have hx:=(ev x).1
     rw [hl] at hx;simp only [R] at hx
     have e1:∃ad cap,a.eval x=.slice ad n cap:=by
      exact aMm
     obtain ⟨ad,cap,e1⟩:=e1
     have ha:args=#[x]:=QS
     cases ht:ty[0]? with
     |none=>simp [ht] at hu
     |some t=>
      simp only [ht,OZ] at hu;refine val h2.symm (v:=ah J n) VR ?_ ?_<;>rw [<-h1]
      ·exact Dx
      ·trivial
  ·rename_i e' l e hl hu
   simp only [T.all,Ay] at h;obtain ⟨h1,h2⟩:=h;cases hargs:args.toList with
   |nil=>simp [hargs] at hl
   | cons x xs=>
    cases xs with
    |cons _ _=>simp [hargs] at hl
    | nil=>
     simp only [hargs,ER,LR,Ht,Od] at hl
     have hx:=(ev x).1
     rw [hl] at hx;simp only [R] at hx;obtain ⟨ad,cap,e1,_⟩:=hx
     have ha:args=#[x]:=QS
     cases ht:ty[0]? with
     |none=>simp [ht] at hu
     |some t=>
      simp only [ht,OZ] at hu;refine val h2.symm (v:=ah J (M l:Y)) VR ?_ ?_<;>rw [<-h1]
      ·exact Dx
      ·trivial
  ·rename_i k' es' off' n' c' e hl hu
   simp only [T.all,Ay] at h;obtain ⟨h1,h2⟩:=h;cases hargs:args.toList with
   |nil=>simp [hargs] at hl
   | cons x xs=>
    cases xs with
    |cons _ _=>simp [hargs] at hl
    | nil=>
     simp only [hargs,ER,LR,Ht,Od] at hl
     have hx:=(ev x).1
     rw [hl] at hx;simp only [R] at hx;obtain ⟨_,ad,e1,_⟩:=hx
     have ha:args=#[x]:=QS
     cases ht:ty[0]? with
     |none=>simp [ht] at hu
     |some t=>
      simp only [ht,OZ] at hu;refine val h2.symm (v:=ah J n') VR ?_ ?_<;>rw [<-h1]
      ·exact Dx
      ·trivial
  ·exact NB
 ·exact NB
structure Ev (b b':AB):Prop where
 cl:b.E0=U->b'.E0=U/\b'.t=b.t/\M b'.c=M b.c
 live:∀(β:aD->aVs) (k:aD),live β k b'->live β k b
 p:b'.p=X->b.p=X
def Ev.refl (b:AB):Ev b b:=⟨λh=>⟨h,rfl,rfl⟩,λ_ _ h=>h,λh=>h⟩
def Ev.trans {a b c:AB}(h:Ev a b) (g:Ev b c):Ev a c:=⟨λhc=>by
 obtain ⟨h1,h2,h3⟩:=h.cl hc;obtain ⟨g1,g2,g3⟩:=g.cl h1;exact ⟨g1,g2.trans h2,g3.trans h3⟩,λβ k hl=>h.live β k<|g.live β k hl,λhp=>h.p<|g.p hp⟩
def EvL (H H':aH):Prop:=∀(k:aD) (b:AB),H[k]? =ai b->∃b':AB,H'[k]? =ai b'/\Ev b b'
def EvL.refl (H:aH):EvL H H:=λ_ b hb=>⟨b,hb,Ev.refl b⟩
def EvL.app (H E:aH):EvL H (H++E):=λk b hb=>⟨b,A8,Ev.refl b⟩
def EvL.trans {A B C:aH}(h:EvL A B) (g:EvL B C):EvL A C:=λk b hb=>by
 obtain ⟨b1,h1,h2⟩:=h k b hb;obtain ⟨b2,g1,g2⟩:=g k b1 h1;exact ⟨b2,g1,h2.trans g2⟩
def EvL.set {k0:aD}{b0 nb:AB}(hb0:H[k0]? =ai b0) (he:Ev b0 nb):EvL H (H.set k0 nb):=λk b hb=>by
 rw [IT]
 by_cases hkk:k0=k
 ·subst hkk
  grind
 ·rw [AE hkk];exact ⟨b,hb,Ev.refl b⟩
def EvL.pub (ks:aI):EvL H (Fs ks 0 H):=λk b hb=>by
 rw [dj,hb];split
 ·exact ⟨_,rfl,λh=>⟨h,rfl,rfl⟩,λ_ _ h=>h,λh=>As⟩
 ·exact ⟨_,rfl,Ev.refl b⟩
def ag9 {t:aT}{x y:LV}{H':aH}(h:(TX P H t x y).all λq=>q=H'):EvL H H':=by
 unfold TX at h;split at h
 ·split at h
  ·split at h
   ·rename_i hb
    split at h
    ·rename_i hle
     subst h;refine EvL.set hb ⟨λhc=>⟨hc,rfl,?_⟩,λ_ _ h=>h,λh=>h⟩
     simp only [setAt,B8,ME,FL];omega
    ·cases h
   ·cases h
  ·split at h
   ·rename_i hb
    split at h
    ·simp only [T.all] at h
     obtain ⟨_,h⟩:=h;split at h
     ·simp only [T.all] at h
      subst h;exact aNr
     ·cases h
    ·cases h
   ·cases h
  ·cases h
 ·cases h
def aIl {t:aT}{x i y:LV}{H':aH}(h:(Uw P H t x i y).all λq=>q=H'):EvL H H':=by
 unfold Uw at h;split at h
 ·split at h
  ·split at h
   ·rename_i hb
    split at h
    ·simp only [T.all] at h
     exact aNh
    ·cases h
   ·cases h
  ·cases h
 ·cases h
def afj {t:aT}{x i y:LV}{H':aH}(h:(insL P H t x i y).all λq=>q=H'):EvL H H':=by
 unfold insL at h;split at h
 ·split at h
  ·rename_i hb
   split at h
   ·split at h
    ·simp only [T.all] at h
     obtain ⟨_,h⟩:=h;exact aNh
    ·cases h
   ·cases h
  ·exact aIl h
 ·exact aIl h
def apU {t:aT}{n c lv:LV}{H':aH}(h:(U0 P H t n c).all λq=>q=(lv,H')):EvL H H':=by
 unfold U0 at h;split at h
 ·split at h
  ·split at h
   ·split at h
    ·exact aNb
    ·cases h
   ·cases h
  ·cases h
 ·cases h
def aq7 {t tx:aT}{x y lv:LV}{H':aH}(h:(Xs P H t tx x y).all λq=>q=(lv,H')):EvL H H':=by
 unfold Xs at h;split at h
 ·split at h
  ·split at h
   ·rename_i hb
    split at h
    ·split at h
     ·obtain ⟨q,_,h⟩:=T.B4 h
      simp only [T.all,Ay] at h;rw [<-h.2.2];exact aNr
     ·cases h
    ·cases h
   ·cases h
  ·cases h
 ·cases h
def afW {t tx:aT} {x y lv:LV} {H':aH} (h:(Lj P H t tx x y).all λq=>q=(lv,H')):EvL H H':=by
 unfold Lj at h;split at h
 ·split at h
  ·split at h
   ·obtain ⟨q,_,h⟩:=T.B4 h
    ·split at h
     ·exact aNb
     ·split at h
      ·rename_i hb
       split at h
       ·split at h
        ·simp only [T.all,Ay] at h
         rw [<-h.2.2];refine (EvL.set hb ?_).trans<|EvL.app _ _;exact ⟨λhc=>ym,λ_ _ h=>by simp [live] at h,λ_=>rfl⟩
        ·cases h
       ·cases h
      ·cases h
     ·cases h
   ·cases h
  ·cases h
 ·cases h
end Go.Sx
namespace Go.Sx
open Go Go.RowKit Go.Proofs.YtepoohnehmfflaaGreatDoor
variable {P : Program} {G : B5} {Γ : Specs} {K : Hand} {β : Nat -> Loc} {Z : Nat -> Prop} {Z0 : Gz} {w w0 : World} {F : List LV} {H : List AB} {a : Act} {ds : List Deferred} {n : Nat}
def RF.put (hF:RF ds β Z w n F a) {lv:LV}{v:aW}(hr:R β Z w lv v) (hk:okV n lv) (d:bB):RF ds β Z w n (At F d lv) (a.put d v):=by
 cases d with
 |none=>exact hF
 | some d=>
  refine ⟨by simp [At,Act.put,hF.size],λt x hx=>?_,hF.defers⟩
  simp only [At] at hx;rw [IT] at hx;simp only [Act.put]
  have hlt:t<M F:=by
   by_cases ht:t<M F
   ·exact ht
   ·exfalso
    split at hx
    ·split at hx
     ·omega
     ·cases hx
    ·grind
  have hta:t<a.tmps.size:=by rw [hF.size];exact hlt
  by_cases hdt:d=t
  ·subst hdt
   have:(a.tmps.setIfInBounds d v).getD d undef=v:=GI
   grind
  ·rw [AE hdt] at hx
   have:(a.tmps.setIfInBounds d v).getD t undef=a.tmps.getD t undef:=GI
   rw [this];exact hF.get t x hx
def RF.know (hF:RF ds β Z w n F a) {d:aD}{lv:LV}(hr:R β Z w lv<|a.tmps.getD d undef) (hk:okV n lv):RF ds β Z w n (F.set d lv) a:=by
 refine ⟨by simp [hF.size],λt x hx=>?_,hF.defers⟩
 rw [IT] at hx
 by_cases hdt:d=t
 ·subst hdt
  simp only [Bo] at hx;split at hx
  ·grind
  ·cases hx
 ·rw [AE hdt] at hx;exact hF.get t x hx
def RF.pass (hF:RF ds β Z w n F a) (d:bB):RF ds β Z w n (At F d<|.v undef) (a.put d undef):=hF.put (lv:=.v undef) Jp trivial d
def W5 {o:aU}{K:bf->aP->Prop}{Q:aVB->bf->aP->Prop}(h:Dj P (λv w'=>K (a.put o.dst v) w')<|(execOp a.eval o).run P w) (r:bn) (m:aD):o.wpIn (Df r) m P a w K Q:=by
 have hnd:∀c,o.op≠ .defer c:=λc hc=>by
  rcases aDn (P:=P) (ρ:=a.eval) (w:=w) hc with ⟨d,w',e⟩ |⟨d,w',e⟩<;>rw [e] at h<;>simp only [Dj] at h
 refine ⟨λ_ _=>trivial,?_⟩
 rw [semAt_eq hnd];generalize (execOp a.eval o).run P w=res at*;cases res with
 |ok m w'=>
  cases m<;>simp only [Dj] at h<;>simp only [Oper.uponIn]
  case value u=>exact h
  case skip=>exact h
  case enter f args=>exact ⟨λh=>As,VF.2<|h.mono λe w'' ⟨v,he,hk⟩=>A8⟩
  case round l f tmps assign body=>exact ⟨λh=>As,aEQ<|h.mono λe w'' ⟨v,he,hk⟩=>A8⟩
 |halt x w'=>simp only [Dj] at h
def W7 {ops:aK}{o:aU}{j d:aD}{want b:aN}(hg:o.guard=ai (j,want)) (hd:(ops[j]?).bind (·.dst)=ai d) (hv:a.tmps[d]? =ai (.bool b)):aA o (yielded ops a.tmps)=(b==want):=by
 exact aND
def ada {ops:aK}{o:aU}{j d:aD}{want:aN}{vs:aY}(hg:o.guard=ai (j,want)) (hd:(ops[j]?).bind (·.dst)=ai d) (hv:a.tmps[d]? =ai (.tuple vs)):aA o (yielded ops a.tmps)=false:=by
 exact aND
def RF.slot (hF:RF ds β Z w n F a) {d:aD}{x:LV}(hx:F.getD d .junk=x) (hj:x≠ .junk):F[d]? =ai x/\a.tmps[d]? =ai (a.tmps.getD d undef):=by
 cases h:F[d]? with
 |none=>simp [List.getD,h] at hx;exact absurd hx.symm hj
 |some y=>
  simp [List.getD,h] at hx
  subst hx;refine ⟨rfl,?_⟩
  have:d<a.tmps.size:=by rw [hF.size];exact (EF.1 h).1
  simp_all
def RW.less {gh:List<|LV×Value}{mk:aI}(hW:RW G w0 ⟨Z0.z,gh++Z0.gh,mk++Z0.Cr⟩ Z β H w):RW G w0 Z0 Z β H w:=⟨hW.below,hW.Bc,hW.Ep,hW.Cp,hW.GR,hW.low,hW.inj,hW.blk,hW.Ci,λp hp=>hW.gh p<|BZ.2<|.inr hp,λD hD=>hW.Cr D<|BZ.2<|.inr hD⟩
def dsB:aVr->List Nat
 | []=>[]
 |⟨.collected D,_⟩::ds=>D::dsB ds
 |_::ds=>dsB ds
def tK:∀ {ds:aVr}{D:aD},Gr D∈ds->D∈dsB ds
 | d::ds,D,h=>by
  rcases B9.1 h with h|h
  ·rw [<-h];simp [dsB,Gr]
  ·unfold dsB
   split
   ·grind
   ·rename_i e;simp only [Ht] at e;rw [<-e.2];exact N8 _<|tK h
   ·rename_i e;simp only [Ht] at e;rw [<-e.2];exact tK h
def aRb:∀ {ds:aVr}{D:aD},D∈dsB ds->(∀d,d∈ds->∃D,d=Gr D)->Gr D∈ds
 | [],D,h,_=>As
 |d::ds,D,h,hm=>by
  obtain ⟨D0,rfl⟩:=hm d AI;rcases B9.1 h with h|h
  ·grind
  ·exact N8 _<|aRb h λd hd=>hm d<|N8 _ hd
def RW.hold (hW:RW G w0 Z0 Z β H w) (hF:RF ds β Z w (M H) F a):RW G w0 ⟨Z0.z,F.zip a.tmps.toList++Z0.gh,dsB ds++Z0.Cr⟩ Z β H w:=⟨hW.below,hW.Bc,hW.Ep,hW.Cp,hW.GR,hW.low,hW.inj,hW.blk,hW.Ci,λp hp=>by
  rcases BZ.1 hp with hp|hp
  ·obtain ⟨i,hi,hpi⟩:=Hr.1 hp
   have hiF:i<M F:=A8
   have hia:i<a.tmps.size:=A8
   have h1:=hF.get i F[i]<|Dg hiF
   have e2:a.tmps.getD i undef=a.tmps[i]:=GI
   grind
  ·exact hW.gh p hp,λD hD=>by
  rcases BZ.1 hD with hD|hD
  ·have:=aRb hD (λd hd=>by obtain ⟨D,h,_⟩:=hF.defers.2 d hd;exact ⟨D,h⟩)
   obtain ⟨D',h1,h2,h3⟩:=hF.defers.2 _ this
   grind
  ·exact hW.Cr D hD⟩
def RW.held {β':aD->aVs}{Z':aD->Prop}{w':aP}{H':aH}(hF:RF ds β Z w (M H) F a) (r1:RW G w0 ⟨Z0.z,F.zip a.tmps.toList++Z0.gh,dsB ds++Z0.Cr⟩ Z' β' H' w'):RF ds β' Z' w' (M H') F a:=by
 refine ⟨hF.size,λt x hx=>?_,hF.defers.1,λd hd=>?_⟩
 ·have htF:=(EF.1 hx).1
  have hta:t<a.tmps.size:=by have:=hF.size;omega
  have e2:a.tmps.getD t undef=a.tmps[t]:=GI
  rw [e2];refine r1.gh (x,a.tmps[t])<|BZ.2<|.inl<|Hr.2 ⟨t,A8,?_⟩
  have:F[t]=x:=A8
  simp [this]
 ·obtain ⟨D,h1,h2,h3⟩:=hF.defers.2 d hd
  have:=r1.Cr D<|BZ.2<|.inl<|tK<|h1▸hd
  grind
def aE1 {o:aU}{g:bh}{l:aE}(h:callOf G F o=ai (g,l)):∃f args ty,o.op=.call {callee:=.value f,args,argTypes:=ty}/\su G F f args g l:=by
 unfold callOf at h;split at h
 ·rename_i f args ty ho
  split at h
  ·rename_i g' cap hf
   obtain ⟨rfl,rfl⟩:=h;exact ⟨f,args,ty,ho,.inl ⟨cap,hf,rfl⟩⟩
  ·rename_i g' fs hf
   obtain ⟨rfl,rfl⟩:=h;exact ⟨f,args,ty,ho,.inr<|.inl ⟨fs,hf,rfl⟩⟩
  ·rename_i g' hf
   obtain ⟨rfl,rfl⟩:=h;exact ⟨f,args,ty,ho,.inr<|.inr ⟨hf,rfl⟩⟩
  ·cases h
 ·cases h
def aG4 {o:aU}{k:aD}{l:aE}(h:zo G F o=ai (k,l)):∃f args ty,o.op=.call {callee:=.value f,args,argTypes:=ty}/\AM G F f=.CQ k/\l=args.toList.map (λx=>norm<|AM G F x):=by
 unfold zo at h;split at h
 ·rename_i f args ty ho
  split at h
  ·rename_i k' hf
   grind
  ·cases h
 ·cases h
def aE5 (hΓ:∀g S,Γ g=ai S->Valid P G g S) (hK:FR P G K) (hW:RW G w0 Z0 Z β H w) (hF:RF ds β Z w (M H) F a) {o:aU}{lv:LV}{H':aH}(h:(KF P G Γ K F H o).all λq=>q=(lv,H')):
  Dj P (λv w'=>∃Z' β',RW G w0 Z0 Z' β' H' w'/\RF ds β' Z' w' (M H') F a/\R β' Z' w' lv v/\okV (M H') lv) ((execOp a.eval o).run P w):=by
 unfold KF at h
 have old:(Ax P G Γ F H o).all (λq=>q=(lv,H'))->Dj P (λv w'=>∃Z' β',RW G w0 Z0 Z' β' H' w'/\RF ds β' Z' w' (M H') F a/\R β' Z' w' lv v/\okV (M H') lv) ((execOp a.eval o).run P w):=λh=>
  KS (λv w' ⟨Z',β',e1,e2,e3,e4,_⟩=>⟨Z',β',e1,e2,e3,e4⟩) (dp hΓ hW hF h)
 split at h
 ·rename_i g l hc
  split at h
  ·exact old h
  ·split at h
   ·rename_i fn hfn
    split at h
    ·rename_i hb
     obtain ⟨f,args,ty,ho,hf⟩:=aE1 hc;simp only [AV,D6] at hb;obtain ⟨hb1,hb2⟩:=hb;obtain ⟨vals,hrun,hargs,hoka⟩:=aEb ho hW hF hf hfn A8 A8;rw [hrun];exact (hK.k w0 _ Z β H w g _ _ lv H' (hW.hold hF) hargs hoka h).mono λe w' ⟨v,he,Z',β',r1,r2,r3⟩=>⟨v,he,Z',β',r1.less,RW.held hF r1,r2,r3⟩
    ·cases h
   ·cases h
 ·split at h
  ·rename_i k l hy
   obtain ⟨f,args,ty,ho,hf,rfl⟩:=aG4 hy
   have hfr:=hF.eval hW.Ci f
   rw [hf] at hfr;simp only [R,okV] at hfr
   have hargs:RL β Z w (args.toList.map λx=>norm<|AM G F x) (args.map a.eval).toList:=by
    exact aM5
   have hoka:AT (M H) (args.toList.map λx=>norm<|AM G F x):=by
    exact aN6
   obtain ⟨r,h1,h2,h3⟩:=hK.y w0 _ Z β H w k _ _ lv H' (hW.hold hF) hargs hoka h
   have hrun:(execOp a.eval o).run P w=.ok (.round (β k).b r.fn ((r.params.zip<|args.map a.eval).foldl (λt (p,v)=>t.setIfInBounds p v) r.tmps) r.assign r.body) w:=by
    unfold execOp;simp only [ho]
    have:=run_yield (P:=P) h1 h2
    simp [resolve,Deferred.ofValue,hfr.1,invoke,this]
   rw [hrun];exact h3.mono λe w' ⟨v,he,Z',β',r1,r2,r3⟩=>⟨v,he,Z',β',r1.less,RW.held hF r1,r2,r3⟩
  ·exact old h
def azJ {o:aU}(hm:SD P Γ o=U):KF P G Γ K F H o=Ax P G Γ F H o:=by
 unfold KF;split
 ·rename_i g l hc
  obtain ⟨f,args,ty,ho,hf⟩:=aE1 hc;unfold SD at hm;simp only [AV] at hm
  have hm2:=hm.2
  rw [ho] at hm2;cases f with
  |func g'=>
   rcases hf with ⟨_,hf,_⟩ |⟨_,hf,_⟩ |⟨hf,_⟩
   rotate_left
   ·simp [AM] at hf
   ·simp [AM] at hf
   obtain ⟨rfl,_⟩:=hf
   grind
  |tmp _=>simp at hm2
  |const _=>simp at hm2
  |global _=>simp at hm2
 ·split
  ·rename_i k l hy
   obtain ⟨f,args,ty,ho,hf,rfl⟩:=aG4 hy;unfold SD at hm;simp only [AV] at hm
   have hm2:=hm.2
   rw [ho] at hm2;cases f with
   |func g'=>simp [AM] at hf
   |tmp _=>simp at hm2
   |const _=>simp at hm2
   |global _=>simp at hm2
  ·rfl
def ag0 {o:aU}(hm:SD P Γ o=U):Ow P o=true:=by
 unfold SD at hm;simp only [AV] at hm;exact hm.1
def aFD {ty:Ty}:∀(cs:aE) (ls:List<|List ty.D),iu ty cs=ai ls->∀(j:aD) (x:LV),cs[j]? =ai x->∃l,x=.xl ty l/\ls[j]? =ai l
 | [],_,_,j,x,hx=>A8
 | c ::cs,ls,h,j,x,hx=>by
  simp only [iu] at h;split at h
  ·rename_i e l
   split at h
   ·rename_i he r _ hr
    simp only [Ah] at h;subst h;subst he;cases j with
    |zero=>
     simp only [List.getElem?_cons_zero,Ah] at hx;exact ⟨l,hx.symm,rfl⟩
    |succ j=>
     exact aFD cs r hr j x hx
   ·cases h
  ·cases h
def afT {o o2:aU} {num:Y} {len:aD} {lv:LV} (hW:RW G w0 Z0 Z β H w) (hF:RF ds β Z w (M H) F a) (h:wj P G F H o o2=ai (num,len,lv)) (h0:0<=num/\num<(len:Y)):
  o.guard=ak/\o2.guard=ak/\∃v z,(execOp a.eval o).run P w=.ok (.value v) w/\(execOp (a.put o.dst v).eval o2).run P w=.ok (.value z) w/\R β Z w lv z/\okV (M H) lv:=by
 unfold wj at h;split at h
 ·rename_i hg
  simp only [AV,Zm] at hg;refine ⟨hg.1,hg.2,?_⟩;split at h
  ·rename_i t x i d t2 d2 ho hd ho2
   split at h
   ·rename_i hc
    obtain ⟨rfl,hdl,hagg⟩:=hc;split at h
    ·rename_i len' e k off kd n hu hx hi
     split at h
     ·rename_i hsz
      split at h
      ·rename_i b hb
       split at h
       ·rename_i hcl
        split at h
        ·rename_i ty l rest hcs
         split at h
         ·rename_i ls hls
          simp only [Ah,Ay] at h;obtain ⟨rfl,rfl,rfl⟩:=h
          have exv:=hF.eval hW.Ci x
          have eiv:=hF.eval hW.Ci i
          rw [hx] at exv;rw [hi] at eiv
          have hix:(Tb P t (.own k off) U<|.ki kd n).all (λr=>r=.own k (off+n.toNat*(0+1))):=by
           unfold Tb;simp only [pl,hu,hsz,Bo];rw [AD h0];simp only [T.all]
          obtain ⟨v,e1,e2,e3⟩:=aDb (w:=w) hix exv.1 (show R β Z w (.ki kd n) (a.eval i) by simp only [R];exact eiv.1) exv.2
          have hj:n.toNat<len':=A0
          obtain ⟨c,hc⟩:∃c,b.c[off+n.toNat]? =ai c:=⟨_,Dg A0⟩
          have hcc:(LV.xl ty l::rest)[n.toNat]? =ai c:=by
           rw [<-hcs,LQ,AD hj,FM];exact hc
          obtain ⟨l',rfl,hl'⟩:=aFD _ _ hls _ _ hcc
          have hld:(FU P H t2<|.own k<|off+n.toNat*(0+1)).all (λz=>z=.xl ty l'):=by
           unfold FU;simp only [hagg,hb,F5,Nat.mul_one,hcl.1,Bo,hc,T.all]
          obtain ⟨z,f1,f2,f3⟩:=pU hW hld e2 e3;refine ⟨v,z,KO,?_,?_,?_⟩
          ·have hda:d2<a.tmps.size:=by rw [hF.size];exact hdl
           have ev:(a.put o.dst v).eval (.tmp d2)=v:=by simp [hd,Act.put,Act.eval,Array.getD,hda]
           simp [execOp,ho2,ev,f1]
          ·have:ls.getD n.toNat []=l':=A8
           rw [this];exact f2
          ·trivial
         ·cases h
        ·cases h
       ·cases h
      ·cases h
     ·cases h
    ·cases h
   ·cases h
  ·cases h
 ·cases h
def dh (hΓ:∀g S,Γ g=ai S->Valid P G g S) (hK:FR P G K) {ops:aK}{Q:aVB->bf->aP->Prop}{F':aE}{H':aH}(hQ:∀Z' β' a' w',RW G w0 Z0 Z' β' H' w'->RF ds β' Z' w' (M H') F' a'->Q .normal a' w') (r:bn) (m:aD):
  ∀(os:bw) (k:aD) (F:aE) (H:aH) (Z:aD->Prop) (β:aD->aVs) (a:bf) (w:aP),(∀j,os[j]? =ops[k+j]?)->RW G w0 Z0 Z β H w->RF ds β Z w (M H) F a->
   (Ij P G Γ K ops os F H).all (λq=>q=(F',H'))->wpOpsIn (Df r) m P ops Q (List.range' k<|M os) a w
 | [],k,F,H,Z,β,a,w,_,hW,hF,h=>by
  simp only [Ij,T.all,Ay] at h;obtain ⟨rfl,rfl⟩:=h;simp only [Bh,List.range'_zero,wpOpsIn];exact hQ Z β a w hW hF
 | o ::os,k,F,H,Z,β,a,w,hl,hW,hF,h=>by
  have h0:ops[k]? =ai o:=by simpa using (hl 0).symm
  have hl':∀j,os[j]? =ops[k+1+j]? :=λj=>by have:=hl<|j+1;simpa [Hp,y8 1 j] using this
  simp only [BY,List.range'_succ,wpOpsIn,h0]
  have goOk:∀(F:aE),RF ds β Z w (M H) F a->((KF P G Γ K F H o).bind λq=>Ij P G Γ K ops os (At F o.dst q.1) q.2).all (λq=>q=(F',H'))->o.wpIn (Df r) m P a w (wpOpsIn (Df r) m P ops Q<|List.range' (k+1)<|M os) Q:=λF hF h=>by
   obtain ⟨⟨lv,H1⟩,h1,h2⟩:=T.B4 h;refine W5 (KS (λv w' ⟨Z',β',e1,e2,e3,e4⟩=>?_)<|aE5 hΓ hK hW hF h1) r m
   exact dh hΓ hK hQ r m os (k+1) _ H1 Z' β' _ w' hl' e1 (e2.put e3 e4 o.dst) h2
  have passOk:∀(F:aE),RF ds β Z w (M H) F a->(Ij P G Γ K ops os (At F o.dst<|.v undef) H).all (λq=>q=(F',H'))->(∀f,o.about P w a.eval=ai f->(Df r).fn f)/\wpOpsIn (Df r) m P ops Q (List.range' (k+1)<|M os) (a.put o.dst undef) w:=λF hF h=>
   ⟨λ_ _=>trivial,dh hΓ hK hQ r m os (k+1) _ H Z β _ w hl' hW (hF.pass o.dst) h⟩
  unfold Ij at h;simp only at h;split at h
  ·rename_i hg
   have hw:aA o (yielded ops a.tmps)=true:=cD
   rw [AD hw];split at h
   ·exact goOk F hF h
   ·rename_i o2 os2
    split at h
    ·rename_i num len lv hix
     simp only [T.all] at h;obtain ⟨h1,h2⟩:=h;obtain ⟨_,hg2,v,z,r1,r2,r3,r4⟩:=afT hW hF hix h1
     have h02:ops[k+1]? =ai o2:=by simpa using (hl' 0).symm
     have hl2:∀j,os2[j]? =ops[k+1+1+j]? :=λj=>by have:=hl'<|j+1;rw [mN] at this;rw [this];congr 1;omega
     have act1:∀ {K:aW->aP->Prop},K v w->Dj P K ((execOp a.eval o).run P w):=λh=>by rw [r1];exact h
     have act2:∀ {K:aW->aP->Prop},K z w->Dj P K ((execOp (a.put o.dst v).eval o2).run P w):=λh=>by rw [r2];exact h
     refine W5 (act1 ?_) r m;simp only [BY,List.range'_succ,wpOpsIn,h02]
     have hw2:aA o2 (yielded ops (a.put o.dst v).tmps)=true:=by simp [aA,hg2]
     rw [AD hw2];refine W5 (act2 ?_) r m;exact dh hΓ hK hQ r m os2 (k+1+1) _ H Z β _ w hl2 hW ((hF.put (lv:=.junk) Jp trivial o.dst).put r3 r4 o2.dst) h2
    ·exact goOk F hF h
  ·rename_i j want hg
   split at h
   ·rename_i d hd
    split at h
    ·rename_i b hb
     obtain ⟨s1,s2⟩:=hF.slot hb AI
     have hv:=(hF.get d _ s1).1
     simp only [R] at hv;rw [hv] at s2;rw [W7 hg hd s2];split at h
     ·grind
     ·rename_i e;rw [AE za];exact passOk F hF h
    ·rename_i g hb
     obtain ⟨s1,s2⟩:=hF.slot hb AI
     have hv:=(hF.get d _ s1).1
     simp only [R] at hv
     have kn:∀b,g=b->RF ds β Z w (M H) (F.set d<|.bl b) a:=λb e=>hF.know nX trivial
     rw [hv] at s2;rw [W7 hg hd s2];split at h
     ·rename_i hwt
      subst hwt;simp only [T.all] at h;cases hgg:g with
      |true=>simp only [Oa,Bo];exact goOk _ (kn U hgg) (h.1 hgg)
      |false=>rw [AE AI];exact passOk _ (kn X hgg)<|h.2 hgg
     ·rename_i hwt
      have hwt':want=false:=z9
      subst hwt';simp only [T.all] at h;cases hgg:g with
      |true=>rw [AE AI];exact passOk _ (kn U hgg) (h.1 hgg)
      |false=>simp only [Oa,Bo];exact goOk _ (kn X hgg)<|h.2 hgg
    ·rename_i vs hb
     obtain ⟨s1,s2⟩:=hF.slot hb AI
     have hv:=(hF.get d _ s1).1
     simp only [R] at hv;exact aNP
    ·cases h
   ·cases h
def T.lv {α:Type}(p:α->Prop):T α->Prop
 | .ok x=>p x
 | .br _ t e=>t.lv p/\e.lv p
 | .req _ t=>t.lv p
 | .no=>True
def T.TP {α γ:Type}{p:α->Prop}{q:γ->Prop}{k:α->T γ}(hk:∀x,p x->(k x).lv q):∀ {t:T α},t.lv p->(t.bind k).lv q
 | .ok _,h=>hk _ h
 | .br _ t e,h=>⟨T.TP hk (t:=t) h.1,T.TP hk (t:=e) h.2⟩
 | .req _ t,h=>T.TP hk (t:=t) h
 | .no,_=>trivial
def T.Wb {α:Type}{p:α->Prop}(hp:∀x,p x):∀(t:T α),t.lv p
 | .ok _=>hp _
 | .br _ t e=>⟨T.Wb hp t,T.Wb hp e⟩
 | .req _ t=>T.Wb hp t
 | .no=>trivial
def afe {o:aU}(hpt:Lh P 8 o.type=U) {g:bh}{l:aE}:(Lq P Γ H o g l).lv (λq=>q.2=H):=by
 have bd:∀(t:T LV),(t.bind λy=>(T.ok (y,H):T<|LV×List AB)).lv (λq=>q.2=H):=λt=>T.TP (p:=λ_=>True) (q:=λq:LV×List AB=>q.2=H) (k:=λy=>T.ok (y,H)) (λx _=>(rfl:(x,H).2=H))<|T.Wb (λ_=>trivial) t
 unfold Lq;split
 ·split
  ·split
   ·split
    ·exact bd _
    ·grind
   ·trivial
  ·trivial
 ·trivial
def rD {o:aU}(hm:Ow P o=U):(Ax P G Γ F H o).lv (λq=>q.2=H):=by
 have bd:∀(t:T LV),(t.bind λy=>(T.ok (y,H):T<|LV×List AB)).lv (λq=>q.2=H):=λt=>T.TP (p:=λ_=>True) (q:=λq:LV×List AB=>q.2=H) (k:=λy=>T.ok (y,H)) (λx _=>(rfl:(x,H).2=H))<|T.Wb (λ_=>trivial) t
 have c1:∀ {f:aVq} {args:aVu} {ty:aVA},o.op=.call {callee:=.value f,args,argTypes:=ty}->Lh P 8 o.type=true:=λho=>aPI
 have c2:∀ {r:aVq} {name:aVQ} {args:aVu} {ty:aVA},o.op=.call {callee:=.invoke r name,args,argTypes:=ty}->Lh P 8 o.type=true:=λho=>aPI
 unfold Ax;split<;>(try exact bd _)<;>(try trivial)<;>(try rfl)<;>(try (rename_i ho;simp [Ow,ho] at hm;done))<;>(try (rename_i ho;have hpt:=c1 ho))<;>(try (rename_i ho;have hpt:=c2 ho))
 all_goals (split<;>(try exact bd _)<;>(try trivial)<;>(try rfl)<;>(try exact afe hpt))
 all_goals (split<;>(try exact bd _)<;>(try trivial)<;>(try rfl))
def Keeps (ds:aI) (F:aE) (H:aH) (q:List LV×List AB):Prop:=M q.1=M F/\(∀i,i∉ds->q.1[i]? =F[i]?)/\q.2=H
def dI {ds:aI}{F F1:aE}(h:M F1=M F/\∀i,i∉ds->F1[i]? =F[i]?) {d:aD}(hd:d∈ds) (x:LV):M (F1.set d x)=M F/\∀i,i∉ds->(F1.set d x)[i]? =F[i]? :=by
 refine ⟨A8,λi hi=>?_⟩
 grind
def W3 {ds:aI}{F F1:aE}(h:M F1=M F/\∀i,i∉ds->F1[i]? =F[i]?) {d:bn}(hd:∀t,d=ai t->t∈ds) (x:LV):M (At F1 d x)=M F/\∀i,i∉ds->(At F1 d x)[i]? =F[i]? :=by
 cases d with
 |none=>exact h
 |some t=>exact dI h (hd t rfl) x
def pX {ops:aK}{F0:aE}:∀(os:bw) (F:aE),(∀o∈os,o∈ops.toList)->(∀o∈os,SD P Γ o=U)->M F=M F0/\(∀i,i∉FY ops.toList->F[i]? =F0[i]?)->
  (Ij P G Γ K ops os F H).lv (Keeps (FY ops.toList) F0 H)
 | [],F,_,_,h=>by simp only [Ij,T.lv,Keeps];exact ⟨h.1,h.2,an⟩
 | o ::os,F,hin,hm,h=>by
  have hdo:∀t,o.dst=ai t->t∈FY ops.toList:=λt ht=>Sf.2 ⟨o,hin o AI,ht⟩
  have go:∀F:aE,M F=M F0/\(∀i,i∉FY ops.toList->F[i]? =F0[i]?)->((KF P G Γ K F H o).bind λq=>Ij P G Γ K ops os (At F o.dst q.1) q.2).lv (Keeps (FY ops.toList) F0 H):=λF hF=>
   T.TP (p:=λq=>q.2=H) (λq hq=>by rw [hq];exact pX os _ (λo ho=>hin o Va) (λo ho=>hm o Va)<|W3 hF hdo _) (by rw [azJ<|hm o AI];exact rD<|ag0<|hm o AI)
  have pass:∀F:aE,M F=M F0/\(∀i,i∉FY ops.toList->F[i]? =F0[i]?)->(Ij P G Γ K ops os (At F o.dst<|.v undef) H).lv (Keeps (FY ops.toList) F0 H):=λF hF=>
   pX os _ (λo ho=>hin o Va) (λo ho=>hm o Va) (W3 hF hdo _)
  unfold Ij;simp only;split
  ·split
   ·exact go F h
   ·rename_i o2 os2
    split
    ·have hdo2:∀t,o2.dst=ai t->t∈FY ops.toList:=λt ht=>Sf.2 ⟨o2,hin o2 AI,ht⟩
     exact pX os2 _ (λo ho=>hin o Va) (λo ho=>hm o Va)<|W3 (W3 h hdo _) hdo2 _
    ·exact go F h
  ·rename_i j want hg
   split
   ·rename_i d hd
    have hdd:d∈FY ops.toList:=by
     cases hj:ops[j]? with
     |none=>simp [hj] at hd
     |some oj=>simp [hj] at hd;exact Sf.2 ⟨oj,A8,hd⟩
    split
    ·split
     ·exact go F h
     ·exact pass F h
    ·exact aMk
    ·grind
    ·trivial
   ·trivial
def ac6 {x:LV}{v:aW}(h:R β Z w x v):R β Z w (nki x) v:=zQ
def aeS {x y:LV}{v:aW}(h:R β Z w x v):R β Z w (TO U x y) v:=by
 unfold TO;split<;>simp_all [R]
 split<;>simp_all [R]
def aeE {x y:LV}{v:aW}(h:R β Z w y v):R β Z w (TO X x y) v:=by
 unfold TO;split<;>simp_all [R]
 split<;>simp_all [R]
def afG {b:aN}{x y:LV}:okV n (TO b x y):=by
 unfold TO;split<;>(try trivial)
 split<;>trivial
def aeb {x y:LV}{v:aW}(h:R β Z w x v):R β Z w (XS U x y) v:=aeS<|ac6 h
def aeR {x y:LV}{v:aW}(h:R β Z w y v):R β Z w (XS X x y) v:=aeE<|ac6 h
def afz {b:aN}{x y:LV}:okV n (XS b x y):=afG
def aFP {dl:aVr}{ds:aI}{b:aN}{F F1 F2:aE}(k1:M F1=M F/\∀i,i∉ds->F1[i]? =F[i]?) (k2:M F2=M F/\∀i,i∉ds->F2[i]? =F[i]?) (h:RF dl β Z w n (if b then F1 else F2) a):RF dl β Z w n (Ta ds b F F1 F2) a:=by
 refine ⟨by rw [h.size];cases b<;>simp [Ta,k1.1,k2.1],λt x hx=>?_,h.defers⟩
 have ht:t<M F:=by have:=(EF.1 hx).1;simpa [Ta] using this
 have hx':x=if ds.contains t then XS b (F1.getD t .junk) (F2.getD t .junk) else F.getD t .junk:=by
  simp [Ta,ht] at hx
  rw [<-hx]
  grind
 have g1:∀q,(if b then F1 else F2)[t]? =ai q->R β Z w q (a.tmps.getD t undef)/\okV n q:=λq hq=>h.get t q hq
 by_cases hc:t∈ds
 ·rw [AD<|by simpa using hc] at hx'
  rw [hx'];refine ⟨?_,afz⟩;cases b with
  |true=>
   have:=(g1 (F1[t]' A0) AI).1
   have e2:F1.getD t .junk=F1[t]' A0:=A8
   rw [e2];exact aeb this
  |false=>
   have:=(g1 (F2[t]' A0) AI).1
   have e2:F2.getD t .junk=F2[t]' A0:=A8
   rw [e2];exact aeR this
 ·rw [AE<|by simpa using hc] at hx'
  have e:=Dg ht
  have e2:F.getD t .junk=F[t]'ht:=A8
  rw [hx',e2];refine g1 _ ?_;cases b with
  |true=>simp only [Bo];rw [k1.2 t hc,e]
  |false=>simp only [Hs,FN];rw [k2.2 t hc,e]
def dK {ds:aI}:∀ {t:T<|List LV×List AB},t.lv (Keeps ds F H)->(Kh ds F H t).lv (Keeps ds F H)
 | .ok _,h=>h
 | .no,_=>trivial
 | .req _ t,h=>dK (t:=t) h
 | .br b t e,h=>by
  have h1:=dK h.1
  have h2:=dK h.2
  simp only [Kh];split
  ·rename_i x y hx hy
   rw [hx] at h1;rw [hy] at h2;split
   ·exact ⟨h1,h2⟩
   refine ⟨by simp [Ta],λi hi=>?_,rfl⟩
   simp only [Ta]
   by_cases ht:i<M F
   ·grind
   ·simp [ht]
  ·exact ⟨h1,h2⟩
def Om {ds:aI}:∀ {t:T<|List LV×List AB}{r:List LV×List AB},t.lv (Keeps ds F H)->(Kh ds F H t).all (λq=>q=r)->
  ∃q,t.all (λz=>z=q)/\q.2=r.2/\∀(dl:aVr) (β:aD->aVs) (Z:aD->Prop) (w:aP) (n:aD) (a:bf),RF dl β Z w n q.1 a->RF dl β Z w n r.1 a
 | .ok x,r,_,h=>⟨x,rfl,by rw [show x=r from h],λ_ _ _ _ _ _ hh=>by rw [<-show x=r from h];exact hh⟩
 | .no,_,_,h=>As
 | .req p t,r,hk,h=>by
  obtain ⟨q,h1,h2,h3⟩:=Om (t:=t) hk h.2;exact ⟨q,⟨h.1,h1⟩,h2,h3⟩
 | .br b t e,r,hk,h=>by
  have k1:=dK hk.1
  have k2:=dK hk.2
  have apart:(T.br b (Kh ds F H t)<|Kh ds F H e).all (λq=>q=r)->∃q,(T.br b t e).all (λz=>z=q)/\q.2=r.2/\∀(dl:aVr) (β:aD->aVs) (Z:aD->Prop) (w:aP) (n:aD) (a:bf),RF dl β Z w n q.1 a->RF dl β Z w n r.1 a:=λh=>by
   cases b with
   |true=>
    obtain ⟨q,h1,h2,h3⟩:=Om (t:=t) hk.1<|h.1 rfl;exact ⟨q,⟨λ_=>h1,λhb=>LW⟩,h2,h3⟩
   |false=>
    obtain ⟨q,h1,h2,h3⟩:=Om (t:=e) hk.2<|h.2 rfl;exact ⟨q,⟨λhb=>LW,λ_=>h1⟩,h2,h3⟩
  simp only [Kh] at h;split at h
  ·rename_i x y hx hy
   split at h
   ·simp_all
   rw [hx] at k1;rw [hy] at k2
   have hr:=h
   cases b with
   |true=>
    obtain ⟨q,h1,h2,h3⟩:=Om (t:=t) (r:=x) hk.1 (by rw [hx];rfl)
    refine ⟨q,⟨λ_=>h1,λhb=>LW⟩,by rw [<-hr,h2];exact k1.2.2,λdl β Z w n a hh=>?_⟩
    rw [<-hr];exact aFP ⟨k1.1,k1.2.1⟩ ⟨k2.1,k2.2.1⟩ (h3 dl β Z w n a hh)
   |false=>
    obtain ⟨q,h1,h2,h3⟩:=Om (t:=e) (r:=y) hk.2 (by rw [hy];rfl)
    refine ⟨q,⟨λhb=>LW,λ_=>h1⟩,by rw [<-hr,h2];exact k2.2.2,λdl β Z w n a hh=>?_⟩
    rw [<-hr];exact aFP ⟨k1.1,k1.2.1⟩ ⟨k2.1,k2.2.1⟩<|h3 dl β Z w n a hh
  ·simp_all
def afs (hΓ:∀g S,Γ g=ai S->Valid P G g S) (hK:FR P G K) {id:aD}{ops:aK}{Q:aVB->bf->aP->Prop}{F':aE}{H':aH}(hQ:∀Z' β' a' w',RW G w0 Z0 Z' β' H' w'->RF ds β' Z' w' (M H') F' a'->Q .normal a' w')
  (hW:RW G w0 Z0 Z β H w) (hF:RF ds β Z w (M H) F a) (h:(aDI P G Γ K ops F H).all λq=>q=(F',H')) (r:bn) (m:aD):(Code.region id ops X).wpIn (Df r) m P Q a w:=by
 refine wpIn_region ?_
 have e:av ops.size=List.range' 0 (M ops.toList):=by rw [List.range_eq_range'];simp
 rw [e];unfold aDI at h;split at h
 ·rename_i hm
  have hk:(Ij P G Γ K ops ops.toList F H).lv (Keeps (FY ops.toList) F H):=pX _ _ (λ_ h=>h) (λo ho=>BH.1 hm o ho) ⟨rfl,λ_ _=>rfl⟩
  obtain ⟨q,h1,h2,h3⟩:=Om hk h;refine dh hΓ hK (F':=q.1) (H':=q.2) (λZ' β' a' w' e1 e2=>hQ Z' β' a' w' A8 A8) r m ops.toList 0 F H Z β a w AI hW hF h1
 ·exact dh hΓ hK hQ r m ops.toList 0 F H Z β a w AI hW hF h
end Go.Sx
namespace Go.Sx
open Go Go.RowKit Go.Proofs.YtepoohnehmfflaaGreatDoor
variable {P : Program} {G : B5} {Γ : Specs} {β : Nat -> Loc} {Z : Nat -> Prop} {Z0 : Gz} {w w0 wr : World} {F : List LV} {H : List AB} {a : Act} {ds : List Deferred} {n : Nat}
def T.Qx {α:Type}{p:α->Prop}{x:α}:∀ {t:T α},t.lv p->t.all (λz=>z=x)->p x
 | .ok y,h,e=>by rw [<-show y=x from e];exact h
 | .br b t e,h,hh=>by
  cases b with
  |true=>exact T.Qx (t:=t) h.1 (hh.1 rfl)
  |false=>exact T.Qx (t:=e) h.2 (hh.2 rfl)
 | .req _ t,h,hh=>T.Qx (t:=t) h hh.2
 | .no,_,hh=>by cases hh
def afL {t:aT}{x lv:LV}{y:aW}(hW:RW G w0 Z0 Z β H w) (h:(FU P H t x).all λz=>z=lv) (hr:R β Z w x y):∀k,k∈owns x->(∃b,H[k]? =ai b/\live β k b)/\((∃off,x=.own k off)\/∃es i j,x=.op k es i j):=by
 intro k hk
 have cl:∀b:AB,b.E0=U->live β k b:=λb hc=>by
  unfold AB.E0 at hc;split at hc
  ·rename_i hb;unfold live;rw [hb];trivial
  ·cases hc
 unfold FU at h;split at h
 ·exact aMU
 ·exact aMU
 ·cases h
def afJ {t:aT}{x q lv:LV}(h:(U1 P H t x q).all λr=>r=lv):∀k,x=.om k->∃b,H[k]? =ai b/\live β k b:=by
 intro k hk;subst hk;unfold U1 at h;exact aN1
def aed {t:aT}{x q lv:LV}(h:(XT P H t x q).all λr=>r=lv):∀k,x=.om k->∃b,H[k]? =ai b/\live β k b:=by
 intro k hk;subst hk;unfold XT at h;exact aN1
def afK {t:aT}{x q lv:LV}(h:(Xg P H t x q).all λr=>r=lv):∀k,x=.om k->∃b,H[k]? =ai b/\live β k b:=by
 intro k hk;subst hk;unfold Xg at h;simp only at h;split at h
 ·rename_i hb;exact ⟨_,hb,an⟩
 ·exact afJ h k rfl
def afI (hΓ:∀g S,Γ g=ai S->Valid P G g S) {tr:aI} {D:aP->Prop} {o:aU} {lv:LV} (hW:RW G w0 Z0 Z β H wr) (hF:RF ds β Z wr (M H) F a)
  (hD:∀w',D w'->RW G w0 Z0 Z β H w'/\∀b,(Z b\/∃k bk,H[k]? =ai bk/\live β k bk/\tr.contains k=X/\b=(β k).b)->w'.heap[b]? =wr.heap[b]?)
  (h:(Xm P G Γ tr F H o).all λz=>z=lv):∃v,(∀w',D w'->Nh P o a w' v)/\R β Z wr lv v/\okV (M H) lv:=by
 unfold Xm at h;split at h
 ·cases h
 ·rename_i hsp
  simp only [Cc,D6,not_or,Bool.not_eq_true,Sd] at hsp;obtain ⟨hsp,hap⟩:=hsp
  have ev:=λx=>hF.eval hW.Ci x
  have hFD:∀w',D w'->RF ds β Z w' (M H) F a:=λw' hw'=>hF.mono (Ar _) (λ_ _=>rfl) (λ_ h=>h) λb hz=>(hD w' hw').2 b<|.inl hz
  split at h
  ·rename_i hcall
   obtain ⟨h1,hpl⟩:=aET h;obtain ⟨⟨lv',H'⟩,h2,h3⟩:=T.B4 h1
   have e3:lv'=lv:=h3
   subst e3;obtain ⟨x,hx⟩:=Zo.1 hpl
   have hm:Ow P o=true:=by unfold X6 at hcall;unfold Ow;unfold isSp at hsp;split at hcall<;>simp_all
   have hH:H'=H:=T.Qx (p:=λq:LV×List AB=>q.2=H) (x:=(lv',H')) (rD hm) h2
   subst hH;refine ⟨x,λw' hw'=>?_,aLq hx,?_⟩
   ·have hs:=dp hΓ (hD w' hw').1 (hFD w' hw') h2
    have hrun:∃g vals,(execOp a.eval o).run P w'=.ok (.enter g vals) w':=by
     unfold X6 at hcall;split at hcall
     ·rename_i f args ty ho
      have h2':=h2
      unfold Ax at h2';simp only [ho] at h2';split at h2'
      ·rename_i g cap hf
       have hfr:=(ev f).1
       rw [hf] at hfr;simp only [R] at hfr;obtain ⟨ys,hy,_⟩:=hfr;obtain ⟨fn,S,k1,k2,k3,_⟩:=TF h2';exact ⟨_,_,aDw ho hy k1 k2 k3 w'⟩
      ·rename_i g fs hf
       have hfr:=(ev f).1
       rw [hf] at hfr;simp only [R] at hfr;obtain ⟨ys,hy,_⟩:=hfr;obtain ⟨fn,S,k1,k2,k3,_⟩:=TF h2';exact ⟨_,_,aEU ho hy k1 k2 k3 w'⟩
      ·cases h2'
     ·rename_i r name args ty ho
      have h2':=h2
      unfold Ax at h2';simp only [ho] at h2';split at h2'
      ·rename_i g rv hf
       obtain ⟨t,v,hy,hm⟩:=aIp hf (ev r).1;obtain ⟨fn,S,k1,k2,k3,_⟩:=TF h2';exact ⟨_,_,aF0 ho hy hm k1 k2 k3 w'⟩
      ·cases h2'
     ·cases hcall
    obtain ⟨g,vals,hr⟩:=hrun;unfold Nh;rw [hr] at hs|-;simp only [Dj] at hs;refine ⟨rfl,hs.mono λe w'' ⟨v,he,Z',β',_,_,hrv,_,_,_,_,hn⟩=>?_⟩
    have hv:=Cm hx hrv
    subst hv;refine ⟨he,hn.os,hn.tape,hn.output,hn.size,λk hk=>hn.block k hk ?_⟩
    unfold X6 at hcall;split at hcall
    ·rename_i ho;simp [P0,Ec,ho,Dd]
    ·rename_i ho;simp [P0,Ec,ho,Dd]
    ·cases hcall
   ·cases lv' with
    |fn f l=>cases l with
     |nil=>trivial
     |cons _ _=>simp [pl] at hx
    |v _=>trivial
    |bl _=>trivial
    |ki _ _=>trivial
    |_=>simp [pl] at hx
  ·rename_i hnc
   obtain ⟨⟨lv',H'⟩,h2,h3⟩:=T.B4 h
   have e3:lv'=lv:=h3
   subst e3
   clear h3
   have val:∀ {v:aW},(∀w',D w'->(execOp a.eval o).run P w'=.ok (.value v) w')->R β Z wr lv' v->okV (M H) lv'->∃v,(∀w',D w'->Nh P o a w' v)/\R β Z wr lv' v/\okV (M H) lv':=λ{v} hrun hr hk=>
    ⟨v,λw' hw'=>by unfold Nh;rw [hrun w' hw'];exact A9,hr,hk⟩
   have hsel:∀cs b,o.op≠ .select cs b:=λcs b e=>by unfold Ax at h2;simp only [e] at h2;cases h2
   have same:∀ {t:T LV},(t.bind λy=>(T.ok (y,H):T<|LV×List AB)).all (λq=>q=(lv',H'))->t.all (λz=>z=lv'):=λh=>by
    obtain ⟨x,g1,g2⟩:=T.B4 h;simp only [T.all,Ay] at g2;obtain ⟨rfl,rfl⟩:=g2;exact g1
   have gen:(Dl P G F o).all (λz=>z=lv')->∃v,(∀w',D w'->Nh P o a w' v)/\R β Z wr lv' v/\okV (M H) lv':=λhg=>by
    unfold Dl at hg;split at hg
    ·rename_i hpl
     split at hg
     ·rename_i y hy
      simp only [T.all] at hg
      have hcong:execOp a.eval o=execOp (λx=>(pl<|AM G F x).getD undef) o:=mf o hsel λx hx=>by
       have h1:=BH.1 hpl x zK
       obtain ⟨z,hz⟩:=Zo.1 h1;rw [hz];exact Cm hz (ev x).1
      refine val (v:=y) (λw' _=>by rw [hcong];exact aGG hy w') ?_ ?_<;>rw [<-hg]
      ·split
       ·exact aLh y
       ·exact Dx
      ·split
       ·exact abQ y
       ·trivial
     ·cases hg
    ·cases hg
   have h:=h2
   unfold Ax at h;split at h
   ·cases h
   ·exact aN5
   ·exact aN5
   ·rename_i c x y ho
    obtain ⟨g,e1,e2,e3⟩:=aEE (same h) (ev c).1 (ev x).1 (ev y).1 (ev x).2 (ev y).2;exact val (v:=if g then a.eval x else a.eval y) (λw' _=>aPT) e2 e3
   ·exact NA
   ·exact NA
   ·rename_i t x ho
    obtain ⟨z,e1,e2,e3⟩:=pU hW (same h) (ev x).1 (ev x).2;refine val (v:=z) (λw' hw'=>?_) e2 e3
    have hlv:=afL hW (same h) (ev x).1
    have:=e1 w' λb hb=>(hD w' hw').2 b (by
     rcases hb with hb|⟨k,e4,e5⟩
     ·exact .inl hb
     ·obtain ⟨⟨bk,l1,l2⟩,l3⟩:=hlv k e4
      refine .inr ⟨k,bk,l1,l2,?_,e5⟩;unfold tR at hap;simp only [ho] at hap;rcases l3 with ⟨off,l3⟩ |⟨es,i,j,l3⟩
      ·rw [l3] at hap;simpa using hap
      ·rw [l3] at hap;simpa using hap)
    simp [execOp,ho,this]
   ·exact NA
   ·rename_i s x i ho
    obtain ⟨z,e1,e2,e3⟩:=ae2 (w:=wr) (same h) (ev x).1 (ev x).2;exact nM
   ·rename_i t x i ho
    obtain ⟨z,e1,e2,e3⟩:=aDb (w:=wr) (same h) (ev x).1 (ev i).1 (ev x).2;exact nM
   ·rename_i t parts ho
    obtain ⟨z,e1,e2,e3⟩:=ae3 (β:=β) (Z:=Z) (w:=wr) (n:=M H) (pv:=parts.map λq=>(q.1,a.eval q.2)) (same h) Vb (by
     simp only [N6,HG];refine RL.CW AI λi x hx=>?_
     rw [Dh] at hx|-;cases hq:parts.toList[i]? with
     |none=>simp [hq] at hx
     |some q=>simp [hq] at hx;subst hx;exact ⟨a.eval q.2,AI,(fO<|ev q.2).1⟩) (by
     simp only [HG];refine AT.CW λi x hx=>?_
     rw [Dh] at hx;cases hq:parts.toList[i]? with
     |none=>simp [hq] at hx
     |some q=>simp [hq] at hx;subst hx;exact (fO<|ev q.2).2)
    exact val (v:=z) (λw' _=>KO) e2 e3
   ·exact NA
   ·exact NA
   ·rename_i t x lo hi ho
    split at h
    ·exact NC
    ·have ro:∀q:Option Operand,RO β Z wr (q.map<|AM G F) (q.map a.eval):=λq=>by
      cases q with
      |none=>trivial
      |some q=>exact (ev q).1
     obtain ⟨z,e1,e2,e3⟩:=ae0 (w:=wr) (same h) (ev x).1 (ro lo) (ro hi) (ev x).2;exact nM
   ·rename_i t x lo hi mx ho
    split at h
    ·exact NC
    ·have ro:RO β Z wr (lo.map<|AM G F) (lo.map a.eval):=by
      cases lo with
      |none=>trivial
      |some q=>exact (ev q).1
     obtain ⟨z,e1,e2,e3⟩:=adg (w:=wr) (N:=M H) (same h) (ev x).1 ro (ev hi).1 (ev mx).1;exact nM
   ·exact NA
   ·exact NA
   ·exact NA
   ·rename_i t x i ho
    obtain ⟨z,e1,e2,e3⟩:=aEJ hW (same h) (ev x).1 (ev i).1 (ev x).2;refine val (v:=z) (λw' hw'=>?_) e2 e3
    have hlv:=afK (β:=β)<|same h
    exact aME
   ·rename_i t x i ho
    split at h
    ·exact NC
    ·obtain ⟨z,e1,e2,e3⟩:=adv hW (same h) (ev x).1 (ev i).1 (ev x).2
     refine val (v:=z) (λw' hw'=>?_) e2 e3
     have hlv:=aed (β:=β)<|same h
     exact aME
   ·rename_i x i ho
    split at h
    ·rename_i l hl
     split at h
     ·rename_i y hy
      simp only [T.all,Ay] at h;obtain ⟨h1,_⟩:=h
      have hx:=ev x
      rw [hl] at hx;simp only [R,okV] at hx;obtain ⟨⟨ys,e1,e2⟩,e3⟩:=hx;obtain ⟨z,e4,e5⟩:=RL.get _ _ e2 hy
      have e6:ys[i]? =ai z:=by simpa using e4
      refine val (v:=z) (λw' _=>aP1) ?_ ?_<;>rw [<-h1]
      ·exact e5
      ·exact AT.get _ _ e3 hy
     ·cases h
    ·exact NC
   ·rename_i t x i ho
    split at h
    ·rename_i l hl
     have hx:=ev x
     rw [hl] at hx;simp only [R,okV] at hx;obtain ⟨⟨ys,e1,e2⟩,e3⟩:=hx;obtain ⟨z,f1,f2,f3⟩:=aEt (same h) e2 e3;exact aNW
    ·exact NC
   ·rename_i f first cap ho
    split at h
    ·rename_i he
     simp only [T.all,Ay] at h;obtain ⟨h1,_⟩:=h
     have hfirst:first=#[]:=by
      have:first.toList=[]:=cH
      exact QR
     refine val (v:=.func (.func f) #[]<|cap.map a.eval) (λw' _=>aOx) ?_ ?_<;>rw [<-h1]
     ·exact aMJ
     ·exact aN0
    ·split at h
     ·rename_i he
      simp only [T.all,Ay] at h;obtain ⟨h1,_⟩:=h
      have hcap:cap=#[]:=by
       have:cap.toList=[]:=cH
       exact QR
      refine val (v:=.func (.func f) (first.map a.eval) #[]) (λw' _=>aP2) ?_ ?_<;>rw [<-h1]
      ·exact aMH
      ·exact aMy
     ·cases h
   ·rename_i x ho
    have hx:=ev x
    split at h
    ·rename_i k off hl
     exact aM7
    ·rename_i k es i j hl
     exact aM7
    ·rename_i n f hl
     simp only [T.all,Ay] at h;rw [hl] at hx
     have hx1:=hx.1
     simp only [R] at hx1;obtain ⟨b,off,e1,_⟩:=hx1;refine val (v:=a.eval x) (λw' _=>KO) ?_ ?_<;>rw [<-h.1]
     ·exact hx.1
     ·exact hx.2
    ·exact aMN
    ·exact aMN
    ·exact NC
   ·rename_i t x y t' ho
    split at h
    ·rename_i k n k' m hx hy
     split at h
     ·rename_i hk
      subst hk;simp only [T.all,Ay] at h;obtain ⟨h0,h1,_⟩:=h
      have e1:=Cm hx (ev x).1
      have e2:=Cm hy (ev y).1
      refine val (v:=ah k<|k.wrap<|n.tdiv m) (λw' _=>nR) ?_ ?_<;>rw [<-h1]
      ·exact Dx
      ·trivial
     ·cases h
    ·cases h
   ·rename_i t x y t' ho
    split at h
    ·rename_i k n k' m hx hy
     split at h
     ·rename_i hk
      subst hk;simp only [T.all,Ay] at h;obtain ⟨h0,h1,_⟩:=h
      have e1:=Cm hx (ev x).1
      have e2:=Cm hy (ev y).1
      refine val (v:=ah k<|n.tmod m) (λw' _=>nR) ?_ ?_<;>rw [<-h1]
      ·exact Dx
      ·trivial
     ·cases h
    ·cases h
   ·rename_i t x y t' ho
    split at h
    ·exact NC
    ·split at h
     ·rename_i k n k' m hx hy
      simp only [T.all,Ay] at h;obtain ⟨h0,h1,_⟩:=h
      have e1:=Cm hx (ev x).1
      have e2:=Cm hy (ev y).1
      refine val (v:=ah k<|k.wrap<|n*2^(min m.toNat k.bits)) (λw' _=>nT) ?_ ?_<;>rw [<-h1]
      ·exact Dx
      ·trivial
     ·cases h
   ·rename_i t x y t' ho
    split at h
    ·exact NC
    ·split at h
     ·rename_i k n k' m hx hy
      simp only [T.all,Ay] at h;obtain ⟨h0,h1,_⟩:=h
      have e1:=Cm hx (ev x).1
      have e2:=Cm hy (ev y).1
      refine val (v:=ah k<|n.fdiv<|2^(min m.toNat k.bits)) (λw' _=>nT) ?_ ?_<;>rw [<-h1]
      ·exact Dx
      ·trivial
     ·cases h
   ·rename_i t x i ho
    split at h
    ·rename_i l hl
     obtain ⟨ys,e1,e2,e3⟩:=aF5 hl (ev x).1 (ev x).2;obtain ⟨z,f1,f2,f3⟩:=aF2 (same h) e2 e3 (ev i).1;exact aNW
    ·split at h
     ·rename_i s kd n hu hx hi
      simp only [T.all,Ay] at h;obtain ⟨⟨h0,hlt⟩,h1,_⟩:=h
      have e1:=Cm hx (ev x).1
      have e2:=Cm hi (ev i).1
      have hb:n.toNat<s.size:=A0
      have hg:s[n.toNat]? =ai s[n.toNat]:=by simp [hb]
      refine val (v:=ah ax<|JW s n) (λw' _=>aOX) ?_ ?_<;>rw [<-h1]
      ·exact Dx
      ·trivial
     ·cases h
   ·rename_i ho;simp [X6,ho] at hnc
   ·rename_i ho;simp [X6,ho] at hnc
   ·exact NA
   ·exact NA
   ·rename_i args ty ho
    split at h
    ·rename_i k es off n e hl hu
     simp only [T.all,Ay] at h;obtain ⟨h1,_⟩:=h;cases hargs:args.toList with
     |nil=>simp [hargs] at hl
     | cons x xs=>
      cases xs with
      |cons _ _=>simp [hargs] at hl
      | nil=>
       simp only [hargs,ER,LR,Ht,Od] at hl
       have hx:=(ev x).1
       rw [hl] at hx;simp only [R] at hx
       have e1:∃ad cap,a.eval x=.slice ad n cap:=by
        exact aMm
       obtain ⟨ad,cap,e1⟩:=e1
       have ha:args=#[x]:=QS
       cases ht:ty[0]? with
       |none=>simp [ht] at hu
       |some t=>
        simp only [ht,OZ] at hu;refine val (v:=ah J n) (λw' _=>VR) ?_ ?_<;>rw [<-h1]
        ·exact Dx
        ·trivial
    ·rename_i e' l e hl hu
     simp only [T.all,Ay] at h;obtain ⟨h1,_⟩:=h;cases hargs:args.toList with
     |nil=>simp [hargs] at hl
     | cons x xs=>
      cases xs with
      |cons _ _=>simp [hargs] at hl
      | nil=>
       simp only [hargs,ER,LR,Ht,Od] at hl
       have hx:=(ev x).1
       rw [hl] at hx;simp only [R] at hx;obtain ⟨ad,cap,e1,_⟩:=hx
       have ha:args=#[x]:=QS
       cases ht:ty[0]? with
       |none=>simp [ht] at hu
       |some t=>
        simp only [ht,OZ] at hu;refine val (v:=ah J (M l:Y)) (λw' _=>VR) ?_ ?_<;>rw [<-h1]
        ·exact Dx
        ·trivial
    ·rename_i k' es' off' n' c' e hl hu
     simp only [T.all,Ay] at h;obtain ⟨h1,_⟩:=h;cases hargs:args.toList with
     |nil=>simp [hargs] at hl
     | cons x xs=>
      cases xs with
      |cons _ _=>simp [hargs] at hl
      | nil=>
       simp only [hargs,ER,LR,Ht,Od] at hl
       have hx:=(ev x).1
       rw [hl] at hx;simp only [R] at hx;obtain ⟨_,ad,e1,_⟩:=hx
       have ha:args=#[x]:=QS
       cases ht:ty[0]? with
       |none=>simp [ht] at hu
       |some t=>
        simp only [ht,OZ] at hu;refine val (v:=ah J n') (λw' _=>VR) ?_ ?_<;>rw [<-h1]
        ·exact Dx
        ·trivial
    ·exact NC
   ·exact NC
def aDO (tr:aI):∀(H:aH) (k i:aD),(El tr k H)[i]? =(H[i]?).map λb=>if tr.contains (k+i) then Pz b else b
 | [],k,i=>by simp [El]
 |b::bs,k,0=>by simp [El]
 |b::bs,k,i+1=>by
  simp only [El,mN];rw [aDO tr bs (k+1) i]
  have:k+1+i=k+(i+1):=A0
  rw [this]
def Vr (tr:aI):∀(H:aH) (k:aD),M (El tr k H)=M H
 | [],_=>rfl
 |_::bs,k=>by simp [El,Vr tr bs<|k+1]
def aKS:∀(ys:aV),RL β Z w (au (M ys) .junk) ys
 | []=>cJ
 |y::ys=>by simp only [BY,Zi,RL];exact ⟨y,ys,rfl,Jp,aKS ys⟩
def aGc (m:aD):∀(k:aD),AT m (au k .junk)
 |0=>trivial
 |k+1=>⟨an,aGc m k⟩
def Shp (tr:aI) (β:aD->aVs) (H:aH) (w:aP):Prop:=∀(k:aD) (b:AB),tr.contains k=U->H[k]? =ai b->b.E0=U->∃cs,w.heap[(β k).b]? =ai (.cells cs b.t (0,0))/\cs.size=M b.c
def agE {b:AB}(h:b.E0=U):b.k=.cl:=by
 unfold AB.E0 at h;split at h
 ·assumption
 ·cases h
def aEH (b:AB):(b.E0=U/\Pz b=⟨au (M b.c) .junk,b.t,.cl,b.p⟩)\/(b.E0=X/\Pz b=⟨[],b.t,.dead,X⟩):=by
 unfold Pz AB.E0;exact bL
def afH {b:AB}{k:aD}(h:live β k<|Pz b):live β k b/\(Pz b).p=b.p:=by
 rcases aEH b with ⟨h1,h2⟩ |⟨h1,h2⟩
 ·rw [h2];exact ⟨by unfold live;rw [agE h1];trivial,rfl⟩
 ·rw [h2] at h;exact absurd h λh=>h
def RW.pY {tr:aI}(hW:RW G w0 Z0 Z β H wr) {b:aD}(hz:Z b):b∉Dd β H tr:=λhm=>by
 obtain ⟨k,bk,_,h2,h3,h4,rfl⟩:=eh.1 hm;exact hW.Cp k bk h2 h3 h4 hz
def RW.adb {tr:aI}(hW:RW G w0 Z0 Z β H wr) {k:aD}{b:AB}(hb:H[k]? =ai b) (hl:live β k b) (ht:k∉tr):(β k).b∉Dd β H tr:=λhm=>by
 obtain ⟨j,bj,h1,h2,h3,h4,h5⟩:=eh.1 hm
 have:=hW.inj j k bj b h2 hb h3 hl h4 h5.symm
 subst this;exact ht h1
def RW.mask {tr:aI}{w':aP}(hW:RW G w0 Z0 Z β H wr) (hn:DZ (Dd β H tr) wr w') (hb0:Below w0.heap.size w0 w') (hs:Shp tr β H w'):RW G w0 Z0 Z β (El tr 0 H) w':=by
 have hw:∀b,Z b->w'.heap[b]? =wr.heap[b]? :=λb hz=>hn.block b (hW.Bc b hz)<|hW.pY hz
 have old:∀k b,(El tr 0 H)[k]? =ai b->∃b0,H[k]? =ai b0/\(live β k b->live β k b0/\b.p=b0.p)/\((tr.contains k=U/\b=Pz b0)\/(tr.contains k=X/\b=b0)):=λk b hb=>by
  rw [aDO] at hb;cases hH:H[k]? with
  |none=>simp [hH] at hb
  | some b0=>
   simp only [hH,Jn,Ah,F5] at hb;refine ⟨b0,rfl,?_⟩;split at hb
   ·rename_i ht
    subst hb;exact ⟨afH,.inl ⟨ht,rfl⟩⟩
   ·rename_i ht
    grind
 refine ⟨hb0,λb hz=>?_,hW.Ep,λk b hk hl hp=>?_,λk b hk hl hp=>?_,λk b hk hl=>?_,λi j bi bj hi hj li lj pi e=>?_,λk b hb=>?_,hW.Ci.mono (λ_ h=>h) hw,λp hp=>⟨R.mono (n:=M H) (λ_ _=>rfl) (λ_ h=>h) hw _ _ (hW.gh p hp).2 (hW.gh p hp).1,by rw [Vr];exact (hW.gh p hp).2⟩,λD hD=>⟨(hW.Cr D hD).1,bR⟩⟩
 ·have:=hW.Bc b hz;have:=hn.size;omega
 ·obtain ⟨b0,h1,h2,_⟩:=old k b hk
  obtain ⟨h3,h4⟩:=h2 hl;exact hW.Cp k b0 h1 h3<|h4▸hp
 ·obtain ⟨b0,h1,h2,_⟩:=old k b hk
  obtain ⟨h3,h4⟩:=h2 hl;exact hW.GR k b0 h1 h3<|h4▸hp
 ·obtain ⟨b0,h1,h2,_⟩:=old k b hk
  exact hW.low k b0 h1 (h2 hl).1
 ·obtain ⟨b0,h1,h2,_⟩:=old i bi hi
  obtain ⟨c0,g1,g2,_⟩:=old j bj hj;exact hW.inj i j b0 c0 h1 g1 (h2 li).1 (g2 lj).1 ((h2 li).2▸pi) e
 ·obtain ⟨b0,h1,h2,h3⟩:=old k b hb
  obtain ⟨f1,f2⟩:=hW.blk k b0 h1;rw [Vr];rcases h3 with ⟨ht,rfl⟩ |⟨ht,rfl⟩
  ·rcases aEH b0 with ⟨m1,m2⟩ |⟨m1,m2⟩
   ·rw [m2]
    obtain ⟨cs',g1,g2⟩:=hs k b0 ht h1 m1;refine ⟨⟨cs',g1,?_⟩,aGc _ _,an⟩
    have:=aKS (β:=β) (Z:=Z) (w:=w') cs'.toList
    grind
   ·rw [m2]
    exact ⟨an,an,an⟩
  ·have hkt:k∉tr:=A8
   exact ⟨f1.keep (λ_ _=>rfl) (λ_ h=>h) hw rfl (λhl=>hn.block _ (hW.lt h1 hl)<|hW.adb h1 hl hkt) f2,f2⟩
def rR {o:aU}{g:bh}{l:aE}{lv:LV}{H':aH}(h:(Lq P Γ H o g l).all λq=>q=(lv,H')):EvL H H':=by
 have bd:∀ {t:T LV} {H1:aH},(t.bind λy=>(T.ok (y,H1):T<|LV×List AB)).all (λq=>q=(lv,H'))->H'=H1:=λh=>by
  exact aNV
 obtain ⟨_,_,_,_,_,_,h⟩:=TF h;split at h
 ·rw [bd h];exact EvL.refl H
 ·split at h
  ·rw [bd h];exact EvL.refl H
  ·split at h
   ·rw [bd h];exact EvL.pub _
   ·cases h
def azI {o:aU} {lv:LV} {H':aH} (h:(Ax P G Γ F H o).all λq=>q=(lv,H')):EvL H H':=by
 by_cases hm:Ow P o=U
 ·have hH:H'=H:=T.Qx (p:=λq:LV×List AB=>q.2=H) (x:=(lv,H')) (rD hm) h
  rw [hH];exact EvL.refl H
 ·have bd:∀ {t:T LV} {H1:aH},(t.bind λy=>(T.ok (y,H1):T<|LV×List AB)).all (λq=>q=(lv,H'))->H'=H1:=λh=>by
   exact aNV
  unfold Ow at hm;split at hm
  ·rename_i t ho
   unfold Ax at h;simp only [ho] at h;split at h
   ·exact Zy
   ·cases h
  ·rename_i t x ho
   unfold Ax at h;simp only [ho] at h;exact Zy
  ·rename_i t x y ho
   unfold Ax at h;simp only [ho] at h;obtain ⟨H1,h1,h2⟩:=T.B4 h;obtain ⟨_,rfl⟩:=h2;exact ag9 h1
  ·rename_i t n c ho
   unfold Ax at h;simp only [ho] at h;exact apU h
  ·rename_i t r ho
   unfold Ax at h;cases r with
   | none=>
    simp only [ho] at h;split at h
    ·simp only [T.all,Ay] at h
     rw [<-h.2];exact EvL.app _ _
    ·exact Zy
   |some r=>
    simp only [ho] at h;rw [bd h];exact EvL.refl H
  ·exact aMd
  ·exact aMd
  ·rename_i t len parts ho
   unfold Ax at h;simp only [ho] at h;split at h
   ·split at h
    ·unfold Ww at h
     exact Zy
    ·cases h
   ·split at h
    ·split at h
     ·unfold cV at h
      split at h
      ·obtain ⟨y,h1,h2⟩:=T.B4 h
       split at h2
       ·simp only [T.all,Ay] at h2
        rw [<-h2.2];exact (EvL.pub _).trans<|EvL.app _ _
       ·cases h2
      ·cases h
     split at h
     ·rw [bd h];exact EvL.refl H
     ·unfold oT at h
      split at h
      ·obtain ⟨y,h1,h2⟩:=T.B4 h
       simp only [T.all,Ay] at h2;rw [<-h2.2];exact EvL.pub _
      ·cases h
    unfold oU at h;split at h
    ·split at h
     ·split at h
      ·exact Zy
      ·cases h
     ·cases h
    ·cases h
  ·rename_i args ty ho
   unfold Ax at h;simp only [ho] at h;split at h
   ·exact afW h
   ·cases h
  ·rename_i args ty ho
   unfold Ax at h;simp only [ho] at h;split at h
   ·exact aq7 h
   ·cases h
  ·rename_i f args ty ho
   unfold Ax at h;simp only [ho] at h;split at h
   ·exact rR h
   ·exact rR h
   ·cases h
  ·rename_i r name args ty ho
   unfold Ax at h;simp only [ho] at h;split at h
   ·exact rR h
   ·cases h
  ·simp at hm
def WQ (hΓ:∀g S,Γ g=ai S->Valid P G g S) {ops:aK}{tr:aI}{Hm:aH}{D:aP->Prop}{K:bf->Prop}{F':aE}{HH:aH}(hlen:M Hm=M H)
  (hW:RW G w0 Z0 Z β Hm wr) (hD:∀w',D w'->RW G w0 Z0 Z β Hm w'/\∀b,(Z b\/∃k bk,Hm[k]? =ai bk/\live β k bk/\tr.contains k=X/\b=(β k).b)->w'.heap[b]? =wr.heap[b]?)
  (hK:∀a1,RF ds β Z wr (M H) F' a1->K a1):∀(fs:bp) (os:bw) (F:aE) (a:bf),M fs=M os->RF ds β Z wr (M H) F a->
   (IF P G Γ ops tr HH Hm fs os F).all (λq=>q=(F',HH))->I9 P ops D K fs os a
 | [],[],F,a,_,hF,h=>by
  simp only [IF,T.all,Ay,Od] at h;subst h;exact aoe (hK a hF)
 | [],_::_,_,_,hl,_,_=>cK
 |_::_,[],_,_,hl,_,_=>cK
 | f ::fs,o::os,F,a,hl,hF,h=>by
  have hl':M fs=M os:=nq
  simp only [IF] at h;simp only [I9];split at h
  ·rename_i hf
   rw [AD hf];exact WQ hΓ hlen hW hD hK fs os F a hl' hF h
  ·rename_i hf
   rw [AE hf]
   have goOk:∀(F:aE),RF ds β Z wr (M H) F a->((Xm P G Γ tr F Hm o).bind λy=>IF P G Γ ops tr HH Hm fs os<|At F o.dst y).all (λq=>q=(F',HH))->calm P o a D (I9 P ops D K fs os):=λF hF h=>by
    obtain ⟨lv,h1,h2⟩:=T.B4 h;obtain ⟨v,g1,g2,g3⟩:=afI hΓ hW (by rw [hlen];exact hF) hD h1
    exact ⟨v,g1,WQ hΓ hlen hW hD hK fs os _ _ hl' (hF.put g2 (by rw [<-hlen];exact g3) o.dst) h2⟩
   have passOk:∀(F:aE),RF ds β Z wr (M H) F a->(IF P G Γ ops tr HH Hm fs os<|At F o.dst<|.v undef).all (λq=>q=(F',HH))->I9 P ops D K fs os (a.put o.dst undef):=λF hF h=>
    WQ hΓ hlen hW hD hK fs os _ _ hl' (hF.pass o.dst) h
   split at h
   ·rename_i hg
    have hw:aA o (yielded ops a.tmps)=true:=cD
    rw [AD hw];exact goOk F hF h
   ·rename_i j want hg
    split at h
    ·rename_i d hd
     split at h
     ·rename_i b hb
      obtain ⟨s1,s2⟩:=hF.slot hb AI
      have hv:=(hF.get d _ s1).1
      simp only [R] at hv;rw [hv] at s2;rw [W7 hg hd s2];split at h
      ·grind
      ·grind
     ·rename_i g hb
      obtain ⟨s1,s2⟩:=hF.slot hb AI
      have hv:=(hF.get d _ s1).1
      simp only [R] at hv
      have kn:∀b,g=b->RF ds β Z wr (M H) (F.set d<|.bl b) a:=λb e=>hF.know nX trivial
      rw [hv] at s2;rw [W7 hg hd s2];split at h
      ·rename_i hwt
       subst hwt;cases hgg:g with
       |true=>simp only [Oa,Bo];exact goOk _ (kn U hgg) (h.1 hgg)
       |false=>rw [AE AI];exact passOk _ (kn X hgg)<|h.2 hgg
      ·rename_i hwt
       have hwt':want=false:=z9
       subst hwt';cases hgg:g with
       |true=>rw [AE AI];exact passOk _ (kn U hgg) (h.1 hgg)
       |false=>simp only [Oa,Bo];exact goOk _ (kn X hgg)<|h.2 hgg
     ·rename_i vs hb
      obtain ⟨s1,s2⟩:=hF.slot hb AI
      have hv:=(hF.get d _ s1).1
      exact aNP
     ·cases h
    ·cases h
def W9 {ops:aK}{tr:aI}{Hm:aH}{F0:aE}:∀(fs:bp) (os:bw) (F:aE),(∀o∈os,o∈ops.toList)->M F=M F0/\(∀i,i∉FY ops.toList->F[i]? =F0[i]?)->
  (IF P G Γ ops tr H Hm fs os F).lv (Keeps (FY ops.toList) F0 H)
 | [],_,F,_,h=>aOI
 |_::_,[],F,_,h=>aOI
 | f ::fs,o::os,F,hin,h=>by
  have hin':∀o∈os,o∈ops.toList:=λo ho=>hin o A8
  have hdo:∀t,o.dst=ai t->t∈FY ops.toList:=λt ht=>Sf.2 ⟨o,hin o AI,ht⟩
  have go:∀F:aE,M F=M F0/\(∀i,i∉FY ops.toList->F[i]? =F0[i]?)->((Xm P G Γ tr F Hm o).bind λy=>IF P G Γ ops tr H Hm fs os<|At F o.dst y).lv (Keeps (FY ops.toList) F0 H):=λF hF=>
   T.TP (p:=λ_=>True) (λq _=>W9 fs os _ hin'<|W3 hF hdo _) (T.Wb (λ_=>trivial) _)
  have pass:∀F:aE,M F=M F0/\(∀i,i∉FY ops.toList->F[i]? =F0[i]?)->(IF P G Γ ops tr H Hm fs os<|At F o.dst<|.v undef).lv (Keeps (FY ops.toList) F0 H):=λF hF=>
   W9 fs os _ hin' (W3 hF hdo _)
  simp only [IF];split
  ·exact W9 fs os F hin' h
  ·split
   ·exact go F h
   ·rename_i j want hg
    split
    ·rename_i d hd
     have hdd:d∈FY ops.toList:=by
      cases hj:ops[j]? with
      |none=>simp [hj] at hd
      |some oj=>simp [hj] at hd;exact Sf.2 ⟨oj,A8,hd⟩
     split
     ·split
      ·exact go F h
      ·grind
     ·exact aMk
     ·grind
     ·trivial
    ·trivial
structure Gh where
 Z:aD->Prop
 β:aD->Loc
 H:aH
 F:aE
 a:bf
structure Ck (ds:aVr) (G:B5) (w0:aP) (Z0:Gz) (tr:aI) (β:aD->aVs) (H:aH) (wr:aP) (g:Gh) (w':aP):Prop where
 rw:RW G w0 Z0 g.Z g.β g.H w'
 rf:RF ds g.β g.Z w' (M g.H) g.F g.a
 near:DZ (Dd β H tr) wr w'
 len:M H<=M g.H
 old:∀k,k<M H->g.β k=β k
 new:∀k,M H<=k->k<M g.H->wr.heap.size<=(g.β k).b\/(g.β k).b∈Dd β H tr
 KE:EvL H g.H
def Ck.keep {tr:aI}{g:Gh}{w' w'':aP}(h:Ck ds G w0 Z0 tr β H wr g w') (hb:Below w'.heap.size w' w''):Ck ds G w0 Z0 tr β H wr g w'':=
 ⟨h.rw.same hb,h.rf.mono (Ar _) (λ_ _=>rfl) (λ_ h=>h) λb hz=>EI hb<|h.rw.Bc b hz,aew h.near hb,h.len,h.old,h.new,h.KE⟩
def Ck.shape {tr:aI}{g:Gh}{w':aP}(h:Ck ds G w0 Z0 tr β H wr g w'):Shp tr β H w':=λk b _ hb hcl=>by
 obtain ⟨b',e1,e2⟩:=h.KE k b hb;obtain ⟨c1,c2,c3⟩:=e2.cl hcl;obtain ⟨_,⟨cs,f2,f3⟩,_⟩:=ru h.rw e1 c1
 have hk:=(EF.1 hb).1
 rw [h.old k hk,c2] at f2;refine ⟨cs,f2,?_⟩
 have:=RL.length f3
 simp at this
 omega
def Ck.touch {tr:aI}{g:Gh}{o:aU}{w':aP}(hc:Ck ds G w0 Z0 tr β H wr g w') (hst:C3 G g.F tr (M H) o=U) {x:aD}(hx:x∈Dd g.β g.H (Ec G g.F o)):wr.heap.size<=x\/x∈Dd β H tr:=by
 obtain ⟨k,b,h1,h2,h3,h4,rfl⟩:=eh.1 hx
 have hkg:=(EF.1 h2).1
 by_cases hk:k<M H
 ·right
  have:=BH.1 hst k h1
  simp only [Cc,Aa] at this
  have hkt:k∈tr:=by
   rcases this with h|h
   ·grind
   ·omega
  obtain ⟨b0,hb0⟩:∃b0,H[k]? =ai b0:=⟨_,Dg hk⟩;obtain ⟨b',e1,e2⟩:=hc.KE k b0 hb0;rw [h2] at e1;simp only [Ah] at e1;subst e1;refine eh.2 ⟨k,b0,hkt,hb0,?_,e2.p h4,by rw [hc.old k hk]⟩
  have:=e2.live g.β k h3
  rwa [Ka<|hc.old k hk] at this
 ·exact hc.new k A0 hkg
def dy (hΓ:∀g S,Γ g=ai S->Valid P G g S) {tr:aI}{g:Gh}{o:aU}{lv:LV}{H1:aH}{w':aP}(hst:C3 G g.F tr (M H) o=U) (h1:(Ax P G Γ g.F g.H o).all λq=>q=(lv,H1)) (hc:Ck ds G w0 Z0 tr β H wr g w'):
  Dj P (λv w''=>∃g':Gh,Ck ds G w0 Z0 tr β H wr g' w''/\g'.F=At g.F o.dst lv/\g'.H=H1/\g'.a=g.a.put o.dst v) ((execOp g.a.eval o).run P w'):=by
 refine KS (λv w'' ⟨Z',β',e1,e2,e3,e4,e5,e6,e7,e8⟩=>?_)<|dp hΓ hc.rw hc.rf h1
 refine ⟨⟨Z',β',H1,At g.F o.dst lv,g.a.put o.dst v⟩,?_,rfl,rfl,rfl⟩
 have hsz:=hc.near.size
 refine ⟨e1,e2.put e3 e4 o.dst,⟨e8.os.trans hc.near.os,e8.tape.trans hc.near.tape,e8.output.trans hc.near.output,Hq hsz e8.size,λk hk hn=>?_⟩,Hq hc.len e5,λk hk=>?_,λk h3 h4=>?_,hc.KE.trans<|azI h1⟩
 ·exact aNA
 ·show β' k=β k
  rw [e6 k<|Zj hk hc.len];exact hc.old k hk
 ·show wr.heap.size<=(β' k).b\/(β' k).b∈Dd β H tr
  by_cases hkk:k<M g.H
  ·rw [e6 k hkk];exact hc.new k h3 hkk
  ·rcases e7 k A0 h4 with h|h
   ·omega
   ·exact hc.touch hst h
def qR {T':Type}{C:T'->aP->Prop}{Q':bf->aP->Prop}{ops:aK}{g g1:T'}(hs:∀w',C g w'->C g1 w'):∀(fs:bp) (os:bw) (a:bf),
  H0 P ops C (λa' g'=>∀w',C g' w'->Q' a' w') fs os a g1->H0 P ops C (λa' g'=>∀w',C g' w'->Q' a' w') fs os a g
 | [],_,a,h=>by
  simp only [H0] at h|-
  grind
 |_::_,[],a,h=>by
  simp only [H0] at h|-
  grind
 | f::fs,o::os,a,h=>by
  simp only [H0] at h|-;split
  ·rename_i hf
   rw [AD hf] at h;split
   ·rename_i hw
    rw [AD hw] at h;exact λw' hw'=>h w'<|hs w' hw'
   ·rename_i hw
    rw [AE hw] at h;exact qR hs fs os _ h
  ·rename_i hf
   rw [AE hf] at h;exact qR hs fs os a h
def qK (hΓ:∀g S,Γ g=ai S->Valid P G g S) {ops:aK}{tr:aI}{Q:bf->aP->Prop}{F':aE}{H':aH}
  (hQ:∀g:Gh,g.F=F'->g.H=H'->∀w',Ck ds G w0 Z0 tr β H wr g w'->Q g.a w'):∀(fs:bp) (os:bw) (g:Gh),M fs=M os->(∃w',Ck ds G w0 Z0 tr β H wr g w')->
   (p2x P G Γ ops tr (M H) fs os g.F g.H).all (λq=>q=(F',H'))->H0 P ops (Ck ds G w0 Z0 tr β H wr) (λa' g'=>∀w',Ck ds G w0 Z0 tr β H wr g' w'->Q a' w') fs os g.a g
 | [],[],g,_,_,h=>by
  simp only [p2x,T.all,Ay] at h;exact aod (hQ g h.1 h.2)
 | [],_::_,_,hl,_,_=>cK
 |_::_,[],_,hl,_,_=>cK
 | f ::fs,o::os,g,hl,hex,h=>by
  have hl':M fs=M os:=nq
  simp only [p2x] at h;simp only [H0];split at h
  ·rename_i hf
   rw [AD hf]
   have turn:∀(F1:aE),(∀w',Ck ds G w0 Z0 tr β H wr g w'->RF ds g.β g.Z w' (M g.H) F1 g.a)->∀w',Ck ds G w0 Z0 tr β H wr g w'->Ck ds G w0 Z0 tr β H wr ⟨g.Z,g.β,g.H,F1,g.a⟩ w':=λF1 hF1 w' hc=>⟨hc.rw,hF1 w' hc,hc.near,hc.len,hc.old,hc.new,hc.KE⟩
   have goOk:∀(F1:aE),(∀w',Ck ds G w0 Z0 tr β H wr g w'->RF ds g.β g.Z w' (M g.H) F1 g.a)->(if C3 G F1 tr (M H) o then (Ax P G Γ F1 g.H o).bind λq=>p2x P G Γ ops tr (M H) fs os (At F1 o.dst q.1) q.2 else .no).all (λq=>q=(F',H'))->
     Uj P o g.a (Ck ds G w0 Z0 tr β H wr) g (H0 P ops (Ck ds G w0 Z0 tr β H wr) (λa' g'=>∀w',Ck ds G w0 Z0 tr β H wr g' w'->Q a' w') fs os):=λF1 hF1 h=>by
    split at h
    ·rename_i hst
     obtain ⟨⟨lv,H1⟩,h1,h2⟩:=T.B4 h;intro w' hc;refine KS (λv w'' ⟨g',e1,e2,e3,e4⟩=>⟨g',e1,?_⟩)<|dy (g:=⟨g.Z,g.β,g.H,F1,g.a⟩) hΓ hst h1<|turn F1 hF1 w' hc
     have:=qK hΓ hQ fs os g' hl' ⟨w'',e1⟩ (by rw [e2,e3];exact h2)
     rw [e4] at this;exact this
    ·cases h
   have passOk:∀(F1:aE),(∀w',Ck ds G w0 Z0 tr β H wr g w'->RF ds g.β g.Z w' (M g.H) F1 g.a)->(p2x P G Γ ops tr (M H) fs os (At F1 o.dst<|.v undef) g.H).all (λq=>q=(F',H'))->
     H0 P ops (Ck ds G w0 Z0 tr β H wr) (λa' g'=>∀w',Ck ds G w0 Z0 tr β H wr g' w'->Q a' w') fs os (g.a.put o.dst undef) g:=λF1 hF1 h=>by
    have ps:∀w',Ck ds G w0 Z0 tr β H wr g w'->Ck ds G w0 Z0 tr β H wr ⟨g.Z,g.β,g.H,At F1 o.dst<|.v undef,g.a.put o.dst undef⟩ w':=λw' hc=>⟨hc.rw,(hF1 w' hc).pass o.dst,hc.near,hc.len,hc.old,hc.new,hc.KE⟩
    refine qR (Q':=Q) (g1:=⟨g.Z,g.β,g.H,At F1 o.dst<|.v undef,g.a.put o.dst undef⟩) ps fs os _ ?_;exact qK hΓ hQ fs os ⟨g.Z,g.β,g.H,At F1 o.dst<|.v undef,g.a.put o.dst undef⟩ hl' (hex.imp λw' hc=>ps w' hc) h
   obtain ⟨wx,hcx⟩:=hex
   have hF:=hcx.rf
   split at h
   ·rename_i hg
    have hw:aA o (yielded ops g.a.tmps)=true:=cD
    rw [AD hw];exact goOk g.F (λw' hc=>hc.rf) h
   ·rename_i j want hg
    split at h
    ·rename_i d hd
     split at h
     ·rename_i b hb
      obtain ⟨s1,s2⟩:=hF.slot hb AI
      have hv:=(hF.get d _ s1).1
      simp only [R] at hv;rw [hv] at s2;rw [W7 hg hd s2];split at h
      ·rename_i e;subst e;simp only [Oa,Bo];exact goOk g.F (λw' hc=>hc.rf) h
      ·rename_i e;rw [AE za];exact passOk g.F (λw' hc=>hc.rf) h
     ·rename_i b hb
      obtain ⟨s1,s2⟩:=hF.slot hb AI
      have hv:=(hF.get d _ s1).1
      simp only [R] at hv
      have kn:∀c,b=c->∀w',Ck ds G w0 Z0 tr β H wr g w'->RF ds g.β g.Z w' (M g.H) (g.F.set d<|.bl c) g.a:=λc e w' hc=>hc.rf.know nX trivial
      rw [hv] at s2;rw [W7 hg hd s2];split at h
      ·rename_i hwt
       subst hwt;cases hgg:b with
       |true=>simp only [Oa,Bo];exact goOk _ (kn U hgg) (h.1 hgg)
       |false=>rw [AE AI];exact passOk _ (kn X hgg)<|h.2 hgg
      ·rename_i hwt
       have hwt':want=false:=z9
       subst hwt';cases hgg:b with
       |true=>rw [AE AI];exact passOk _ (kn U hgg) (h.1 hgg)
       |false=>simp only [Oa,Bo];exact goOk _ (kn X hgg)<|h.2 hgg
     ·rename_i vs hb
      obtain ⟨s1,s2⟩:=hF.slot hb AI
      have hv:=(hF.get d _ s1).1
      simp only [R] at hv;rw [hv] at s2;rw [ada hg hd s2,AE AI];exact passOk g.F (λw' hc=>hc.rf) h
     ·cases h
    ·cases h
  ·rename_i hf
   rw [AE hf];exact qK hΓ hQ fs os g hl' hex h
def T.swap {α γ:Type}{K:α->γ->Prop}{t:T α}{u:T γ}:t.all (λx=>u.all λy=>K x y)->u.all (λy=>t.all λx=>K x y):=by
 intro h;obtain ⟨x,h1,h2⟩:=T.pick h;refine T.BR (λy hy=>?_) h1
 exact T.BR (λz hz=>A8) h2
def FO {F:aE}{d:bB}{y:LV}{x:aVq}(h:∀t,d=ai t->x≠ .tmp t):AM G (At F d y) x=AM G F x:=by
 cases d with
 |none=>rfl
 | some t=>
  cases x with
  |tmp s=>
   have hne:s≠t:=λe=>h t rfl<|by rw [e]
   simp only [AM,At,List.getD,Zh<|Oc hne]
  |_=>rfl
def looks {ops:aK}{o:aU}{d:bB}(h:∀t,d=ai t->t∉o.looksAt ops):∀x∈o.op.operands,∀t,d=ai t->x≠ .tmp t:=λx hx t ht e=>h t ht (by
 subst e;exact List.mem_append_left _<|Sf.2 ⟨.tmp t,A8,rfl⟩)
def Lb {F:aE}{d e:bB}{x y:LV}(h:∀t,d=ai t->e≠ai t):At (At F d x) e y=At (At F e y) d x:=by
 cases d with
 |none=>rfl
 | some t=>
  cases e with
  |none=>rfl
  |some s=>
   have:t≠s:=λe=>h t rfl<|by rw [e]
   exact List.set_comm _ _ A0
def Lf {ops:aK}{o:aU}{d:bB}{y:LV}(h:∀t,d=ai t->t∉o.looksAt ops):Hd P G Γ (At F d y) o=Hd P G Γ F o:=by
 have hl:=looks h
 unfold Hd;split
 ·rename_i t len parts ho
  have em:(parts.toList.map λq=>(q.1,AM G (At F d y) q.2))=parts.toList.map λq=>(q.1,AM G F q.2):=Jo λq hq=>by
   rw [FO<|hl q.2 yb]
  rw [em]
 ·rename_i f args ty ho
  have e1:AM G (At F d y) f=AM G F f:=FO<|hl f aOG
  have e2:(args.toList.map λx=>norm<|AM G (At F d y) x)=args.toList.map λx=>norm (AM G F x):=Jo λx hx=>by
   rw [FO<|hl x bP]
  rw [e1,e2]
 ·rfl
def tU {ops:aK}{o:aU}{d:bB}{y:LV}(ha:Ky o=U) (h:∀t,d=ai t->t∉o.looksAt ops):Ax P G Γ (At F d y) H o=Ax P G Γ F H o:=by
 have hl:=looks h
 unfold Ky at ha;split at ha
 ·rename_i t ho
  unfold Ax
  grind
 ·rename_i t x ho
  unfold Ax;simp only [ho];exact mz
 ·rename_i t x ho
  unfold Ax;simp only [ho];exact mz
 ·cases ha
def dU {tr:aI}{n0:aD}{o:aU}{F:aE}(h:En o=U\/HP o=U):C3 G F tr n0 o=true:=by
 have hw:Ec G F o=[]:=by
  unfold Ec;split
  ·exact bG
  ·exact bG
  ·exact bG
  ·exact bG
  ·exact bG
  ·rfl
 unfold C3;rw [hw];rfl
def Vu {tr:aI}{n0:aD}{o:aU}{F:aE}(h:Ky o=U\/HP o=U):C3 G F tr n0 o=true:=by
 have hw:Ec G F o=[]:=by
  unfold Ec;split
  ·exact bH
  ·exact bH
  ·exact bH
  ·exact bH
  ·exact bH
  ·rfl
 unfold C3;rw [hw];rfl
def P8 {ops:aK}{i:aD}{o:aU}(h:FF ops i o=U):HP o=true:=by
 unfold FF at h;rw [AV,AV] at h;exact h.1.1
def afw {ops:aK}{tr:aI}{n0:aD}{i j:aD}{is:aI}{K:List LV×List AB->Prop}(x y:aU) (hx:ops[i]? =ai x) (hy:ops[j]? =ai y) (g1:x.guard.isNone=U) (g2:y.guard.isNone=U) (g3:((Ky x=U/\FF ops j y=U)\/(FF ops i x=U/\Ky y=U))\/(FF ops i x=U/\FF ops j y=U)) (hap:x.apart ops y=U) (h:(Fg P G Γ ops tr n0 (j::i::is) F H).all K):(Fg P G Γ ops tr n0 (i::j::is) F H).all K:=by
 obtain ⟨a1,a2,a3⟩:=Zg hap
 have sx:∀F:aE,C3 G F tr n0 x=true:=λF=>by
  rcases g3 with (g3|g3) |g3
  ·exact Vu<|.inl g3.1
  ·exact Vu<|.inr<|P8 g3.1
  ·exact Vu<|.inr<|P8 g3.1
 have sy:∀F:aE,C3 G F tr n0 y=true:=λF=>by
  rcases g3 with (g3|g3) |g3
  ·exact Vu<|.inr<|P8 g3.2
  ·exact Vu<|.inl g3.2
  ·exact Vu<|.inr<|P8 g3.2
 have notboth:∀o:aU,HP o=U->Ky o=U->False:=λo h1 h2=>by
  unfold HP at h1;split at h1
  ·rename_i ho;simp [Ky,ho] at h2
  ·rename_i ho;simp [Ky,ho] at h2
  ·cases h1
 simp only [Fg,hx,hy,g1,g2,sx,sy,Bool.and_self,Bo] at h|-;rw [T.all_bind] at h|-;rcases g3 with (⟨g3,g4⟩ |⟨g3,g4⟩) |⟨g3,g4⟩
 ·have nx:¬FF ops i x=true:=λe=>notboth x (P8 e) g3
  simp only [G9,AD g4,AE nx] at h|-;rw [T.all_bind] at h
  have h2:=T.BR (λz hz=>by
   simp only [T.all] at hz;rw [T.all_bind,tU g3 a3] at hz;exact hz) h
  refine T.BR (λq hq=>?_)<|T.swap h2
  rw [T.all_bind,T.all_bind,Lf a1];refine T.BR (λz hz=>?_) hq
  simp only [T.all]
  rwa [Lb a2]
 ·have ny:¬FF ops j y=true:=λe=>notboth y (P8 e) g4
  simp only [G9,AD g3,AE ny] at h|-;rw [T.all_bind]
  have h2:=T.BR (λz hz=>by
   rw [T.all_bind,T.all_bind,Lf a3] at hz;exact hz) h
  refine T.BR (λq hq=>?_)<|T.swap h2
  simp only [T.all];rw [T.all_bind,tU g4 a1];refine T.BR (λz hz=>?_) hq
  rwa [Lb a2]
 ·simp only [G9,AD g3,AD g4] at h|-
  rw [T.all_bind] at h|-
  have h2:=T.BR (λz hz=>by
   simp only [T.all] at hz;rw [T.all_bind,T.all_bind,Lf a3] at hz;exact hz) h
  refine T.BR (λq hq=>?_)<|T.swap h2
  simp only [T.all];rw [T.all_bind,T.all_bind,Lf a1];refine T.BR (λz hz=>?_) hq
  simp only [T.all] at hz|-
  rwa [Lb a2]
def pW {ops:aK}{o:aU}{d:bB}{y:LV}(hs:∀cs b,o.op≠ .select cs b) (h:∀t,d=ai t->t∉o.looksAt ops):Dl P G (At F d y) o=Dl P G F o:=by
 have hl:=looks h
 have e:∀x∈o.op.operands,AM G (At F d y) x=AM G F x:=λx hx=>FO<|hl x hx
 unfold Dl
 have e1:o.op.operands.toList.all (λx=>SC<|AM G (At F d y) x)=o.op.operands.toList.all (λx=>SC<|AM G F x):=by
  grind
 have e3:o.op.operands.toList.all (λx=>cX<|AM G (At F d y) x)=o.op.operands.toList.all (λx=>cX<|AM G F x):=by
  grind
 have e2:OS P o (λx=>(pl<|AM G (At F d y) x).getD undef)=OS P o (λx=>(pl<|AM G F x).getD undef):=by
  have c:=mf (ρ:=λx=>(pl<|AM G (At F d y) x).getD undef) (ρ':=λx=>(pl<|AM G F x).getD undef) o hs λx hx=>A8
  unfold OS;rw [c]
  have a:R2 P o.op (λx=>(pl<|AM G (At F d y) x).getD undef)=R2 P o.op (λx=>(pl<|AM G F x).getD undef):=by
   exact aN7
  rw [a]
 grind
def ae7 {ops:aK}{o:aU}{d:bB}{y:LV}(h:∀t,d=ai t->t∉o.looksAt ops):pux P G Γ (At F d y) o=pux P G Γ F o:=by
 have hl:=looks h
 have e:∀x∈o.op.operands,AM G (At F d y) x=AM G F x:=λx hx=>FO<|hl x hx
 unfold pux;split
 ·exact aNE
 ·exact aNE
 ·rename_i c x z ho;rw [e c F6,e x F6,e z F6]
 ·rename_i t x ho;rw [e x F6]
 ·rename_i s x i ho;rw [e x F6]
 ·rename_i t x i ho;rw [e x F6,e i F6]
 ·rename_i t parts ho
  congr 1
  refine Jo λq hq=>?_
  have e':=e q.2 yb
  have:I4 G (At F d y) q.2=I4 G F q.2:=by
   generalize q.2=x at e';cases x<;>first|rfl|exact e'
  rw [this]
 ·exact Lf h
 ·exact Lf h
 ·rename_i ho;exact pW (λcs b e=>A8) h
 ·rename_i op _ _ _ _ ho
  split
  ·rfl
  ·rfl
  ·rfl
  ·rfl
  ·exact pW (λcs b e=>A8) h
 ·rfl
def aeB {d:bB}{y:LV}{x:aVq}(h:AM G (At F d y) x=AM G F x):I4 G (At F d y) x=I4 G F x:=by
 cases x<;>simp only [I4,h]
def hpx (P:aQ) (G:B5) (F:aE) (H:aH) (o:aU):T LV:=
 match o.op with
 | .move x=> .ok (AM G F x)
 | .assign x=> .ok (AM G F x)
 | .load t x=>FU P H t (AM G F x)
 | .indexAddr t x i=>Tb P t (AM G F x) (Uv<|AM G F i) (AM G F i)
 | .fieldAddr s x i=>Wu P s (AM G F x) i
 | .extract x i=>(match AM G F x with
  | .AQ l=>(match l[i]? with
   |some y=> .ok y
   |none=> .no)
  |_=>Dl P G F o)
 | .binOp ..=>Dl P G F o
 | .call ..=>Dl P G F o
 | .build t parts=>Ni P t (parts.toList.map λq=>(q.1,I4 G F q.2))
 |_=> .no
def rY {o:aU}(h:(Il o ||GS o)=U):(∃x,o.op=.move x)\/(∃x,o.op=.assign x)\/(∃t x,o.op=.load t x)\/(∃t x i,o.op=.indexAddr t x i)\/(∃t x y u,o.op=.binOp .add t x y u)\/(∃t x y u,o.op=.binOp .sub t x y u)\/(∃x i,o.op=.extract x i)\/(∃x i,o.op=.call {callee:=.builtin .max,args:=x,argTypes:=i})\/(∃x i,o.op=.call {callee:=.builtin .min,args:=x,argTypes:=i})\/(∃s x i,o.op=.fieldAddr s x i)\/(∃t x y u,o.op=.binOp .mul t x y u)\/(∃t ps,o.op=.build t ps):=by
 rcases Se.1 h with h|h
 ·unfold Il at h
  split at h
  ·grind
  ·grind
  ·grind
  ·grind
  ·grind
  ·grind
  ·grind
  ·grind
  ·rename_i ho
   split at h
   ·grind
   ·grind
   ·grind
   ·cases h
  ·cases h
 ·unfold GS at h
  exact nO
def agF {ops:aK}{k:aD}{o:aU}(h:(Il o ||GS o)=U):G9 P G Γ ops k F H o=(hpx P G F H o).bind λy=> .ok (y,H):=by
 rcases rY h with ⟨x,ho⟩ |⟨x,ho⟩ |⟨t,x,ho⟩ |⟨t,x,i,ho⟩ |⟨t,x,y,u,ho⟩ |⟨t,x,y,u,ho⟩ |⟨x,i,ho⟩ |⟨x,i,ho⟩ |⟨x,i,ho⟩ |⟨t,x,i,ho⟩ |⟨t,x,y,u,ho⟩ |⟨t,ps,ho⟩
 case inr.inr.inr.inr.inr.inr.inl=>
  unfold G9 FF HP Ax hpx;simp only [ho,QO,Hs,FN];generalize AM G F x=v;cases v
  case AQ l=>
   dsimp only;cases l[i]? <;>rfl
  all_goals rfl
 all_goals (unfold G9 FF HP Ax hpx;simp [ho,T.bind])
def qP {ops:aK}{o:aU}{d:bB}{y:LV}(hh:(Il o ||GS o)=U) (h:∀t,d=ai t->t∉o.looksAt ops):hpx P G (At F d y) H o=hpx P G F H o:=by
 have hl:=looks h
 rcases rY hh with ⟨x,ho⟩ |⟨x,ho⟩ |⟨t,x,ho⟩ |⟨t,x,i,ho⟩ |⟨t,x,z,u,ho⟩ |⟨t,x,z,u,ho⟩ |⟨x,i,ho⟩ |⟨x,i,ho⟩ |⟨x,i,ho⟩ |⟨t,x,i,ho⟩ |⟨t,x,z,u,ho⟩ |⟨t,ps,ho⟩
 ·exact nP
 ·exact nP
 ·exact nP
 ·unfold hpx;simp only [ho]
  rw [FO<|hl x F6,FO<|hl i F6]
 ·exact yA
 ·exact yA
 ·unfold hpx;simp only [ho]
  rw [FO<|hl x F6,pW (λcs b e=>A8) h]
 ·exact aNB
 ·exact aNB
 ·exact nP
 ·exact yA
 ·unfold hpx;simp only [ho]
  have em:(ps.toList.map λq=>(q.1,I4 G (At F d y) q.2))=ps.toList.map λq=>(q.1,I4 G F q.2):=Jo λq hq=>by
   exact aN9
  rw [em]
def aSe {o:aU}{H':aH}(h:Il o=U):hpx P G F H o=hpx P G F H' o:=by
 unfold hpx;cases ho:o.op<;>simp_all [Il]
def T0 {o:aU}{tr:aI}{n0:aD}(h:(Il o ||GS o)=U) (F:aE):C3 G F tr n0 o=true:=by
 rcases rY h with ⟨x,ho⟩ |⟨x,ho⟩ |⟨t,x,ho⟩ |⟨t,x,i,ho⟩ |⟨t,x,y,u,ho⟩ |⟨t,x,y,u,ho⟩ |⟨x,i,ho⟩ |⟨x,i,ho⟩ |⟨x,i,ho⟩ |⟨t,x,i,ho⟩ |⟨t,x,y,u,ho⟩ |⟨t,ps,ho⟩<;>simp [C3,Ec,ho]
def aGA {ops:aK}{k:aD}{o:aU}{d:bB}{y:LV}(hh:jS o=U) (h:∀t,d=ai t->t∉o.looksAt ops):G9 P G Γ ops k (At F d y) H o=G9 P G Γ ops k F H o/\∀tr n0,C3 G (At F d y) tr n0 o=C3 G F tr n0 o:=by
 have hl:=looks h
 unfold jS at hh;split at hh
 ·rename_i t x z ho
  have e1:=FO (G:=G) (F:=F) (y:=y)<|hl x F6
  have e2:=FO (G:=G) (F:=F) (y:=y)<|hl z F6
  refine ⟨?_,λtr n0=>?_⟩
  ·unfold G9 FF HP Ax
   simp only [ho,QO,Hs,FN];rw [e1,e2]
  ·unfold C3 Ec
   simp only [ho];rw [e1]
 ·rename_i t ho
  refine ⟨?_,λtr n0=>?_⟩
  ·unfold G9 FF HP Ax
   grind
  ·unfold C3 Ec
   grind
 ·rename_i t x ho
  have e1:=FO (G:=G) (F:=F) (y:=y)<|hl x F6
  refine ⟨?_,λtr n0=>?_⟩
  ·unfold G9 FF HP Ax
   simp only [ho,QO,Hs,FN];rw [e1]
  ·unfold C3 Ec
   grind
 ·cases hh
def iU {ops:aK}{k:aD}{o:aU}(h:FF ops k o=U):G9 P G Γ ops k F H o=(Hd P G Γ F o).bind λy=> .ok (y,H):=by
 unfold G9
 grind
def aHs {ops:aK}{k:aD}{o:aU}{d:bB}{y:LV}(hh:M4 o=U) (h:∀t,d=ai t->t∉o.looksAt ops):G9 P G Γ ops k (At F d y) H o=G9 P G Γ ops k F H o/\∀tr n0,C3 G (At F d y) tr n0 o=C3 G F tr n0 o:=by
 have hl:=looks h
 unfold M4 at hh;split at hh
 ·rename_i args tys ho
  have e:args.toList.map (AM G<|At F d y)=args.toList.map (AM G F):=Jo λx hx=>FO<|hl x bP
  refine ⟨?_,λtr n0=>?_⟩
  ·unfold G9 FF HP Ax
   simp only [ho,QO,Hs,FN];rw [e]
  ·unfold C3 Ec
   exact Sr
 ·cases hh
def T.Qb {α:Type}{A:Prop}:∀ {t:T α},t.all (λ_=>A)->A
 | .ok _,h=>h
 | .br b x y,h=>by
  cases b with
  |true=>exact T.Qb (t:=x) (h.1 rfl)
  |false=>exact T.Qb (t:=y) (h.2 rfl)
 | .req _ x,h=>T.Qb (t:=x) h.2
 | .no,h=>h.elim
def ap8 {ops:aK}{tr:aI}{n0:aD}{i j:aD}{is:aI}{K:List LV×List AB->Prop}(hc:RA ops i j=U) (h:(Fg P G Γ ops tr n0 (j::i::is) F H).all K):(Fg P G Γ ops tr n0 (i::j::is) F H).all K:=by
 unfold RA at hc;split at hc
 ·rename_i x y hx hy
  simp only [AV,Cc] at hc;obtain ⟨⟨⟨g1,g2⟩,g3⟩,hap⟩:=hc;obtain ⟨a1,a2,a3⟩:=Zg hap
  have step:∀(k:aD) (o:aU) (l:aI) (F:aE) (H:aH),ops[k]? =ai o->o.guard.isNone=U->((Fg P G Γ ops tr n0 (k::l) F H).all K↔(C3 G F tr n0 o=U/\(G9 P G Γ ops k F H o).all (λq=>(Fg P G Γ ops tr n0 l (At F o.dst q.1) q.2).all K))):=λk o l F H hk hg=>by
   simp only [Fg,hk,hg,ES];split
   ·rename_i hs
    rw [T.all_bind];simp only [hs,Dw]
   ·rename_i hs
    constructor
    ·exact λh=>h.elim
    ·grind
  have hpS:∀(k:aD) (o:aU) (F:aE) (H:aH) (K:LV×List AB->Prop),(Il o ||GS o)=U->((G9 P G Γ ops k F H o).all K↔(hpx P G F H o).all (λv=>K (v,H))):=λk o F H K ho=>by
   rw [agF ho,T.all_bind];rfl
  rcases g3 with ((((g3|g3) |g3) |g3) |g3) |g3
  ·exact afw x y hx hy g1 g2 g3 hap h
  ·have gx:=Se.2 g3.1
   have gy:=Se.2 g3.2
   rw [step _ _ _ _ _ hy g2,hpS j y _ _ _ gy] at h;rw [step _ _ _ _ _ hx g1,hpS i x _ _ _ gx];refine ⟨T0 gx F,?_⟩
   have h2:=T.BR (λv hv=>by
    rw [step _ _ _ _ _ hx g1,hpS i x _ _ _ gx,qP gx a3] at hv;exact hv.2) h.2
   refine T.BR (λu hu=>?_)<|T.swap h2
   rw [step _ _ _ _ _ hy g2,hpS j y _ _ _ gy,qP gy a1];refine ⟨T0 gy _,T.BR (λv hv=>?_) hu⟩
   rw [Lb a2];exact hv
  ·obtain ⟨gx,gy⟩:=g3
   have gx':(Il x ||GS x)=true:=by rw [gx];rfl
   rw [step _ _ _ _ _ hy g2] at h;rw [step _ _ _ _ _ hx g1,hpS i x _ _ _ gx'];refine ⟨T0 gx' F,?_⟩
   have h2:=T.BR (λq hq=>by
    rw [step _ _ _ _ _ hx g1,hpS i x _ _ _ gx',qP gx' a3,aSe (H':=H) gx] at hq;exact hq.2) h.2
   refine T.BR (λu hu=>?_)<|T.swap h2
   obtain ⟨e1,e2⟩:=aGA (P:=P) (G:=G) (Γ:=Γ) (F:=F) (H:=H) (y:=u) gy a1;rw [step _ _ _ _ _ hy g2,e1,e2];refine ⟨h.1,T.BR (λq hq=>?_) hu⟩
   rw [Lb a2];exact hq
  ·obtain ⟨gx,gy⟩:=g3
   have gy':(Il y ||GS y)=true:=by rw [gy];rfl
   rw [step _ _ _ _ _ hy g2,hpS j y _ _ _ gy'] at h
   have h2:=T.BR (λv hv=>by
    obtain ⟨e1,e2⟩:=aGA (P:=P) (G:=G) (Γ:=Γ) (F:=F) (H:=H) (y:=v) gx a3;rw [step _ _ _ _ _ hx g1,e1,e2] at hv;exact hv) h.2
   rw [step _ _ _ _ _ hx g1];refine ⟨T.Qb<|T.BR (λv hv=>hv.1) h2,?_⟩
   have h3:=T.BR (λv hv=>hv.2) h2
   refine T.BR (λq hq=>?_)<|T.swap h3
   rw [step _ _ _ _ _ hy g2,hpS j y _ _ _ gy',qP gy' a1,aSe (H':=H) gy];refine ⟨T0 gy' _,T.BR (λv hv=>?_) hq⟩
   rw [Lb a2];exact hv
  ·obtain ⟨gx,gy⟩:=g3
   rw [step _ _ _ _ _ hy g2] at h;rw [step _ _ _ _ _ hx g1,iU gx,T.all_bind];refine ⟨dU<|.inr<|P8 gx,?_⟩
   have h2:=T.BR (λq hq=>by
    rw [step _ _ _ _ _ hx g1,iU gx,T.all_bind,Lf a3] at hq;exact hq.2) h.2
   refine T.BR (λu hu=>?_)<|T.swap h2
   obtain ⟨e1,e2⟩:=aHs (P:=P) (G:=G) (Γ:=Γ) (F:=F) (H:=H) (y:=u) gy a1;exact aM8
  ·obtain ⟨gx,gy⟩:=g3
   rw [step _ _ _ _ _ hy g2,iU gy,T.all_bind] at h
   have h2:=T.BR (λv hv=>by
    obtain ⟨e1,e2⟩:=aHs (P:=P) (G:=G) (Γ:=Γ) (F:=F) (H:=H) (y:=v) gx a3
    (try simp only [T.all] at hv)
    rw [step _ _ _ _ _ hx g1,e1,e2] at hv;exact hv) h.2
   rw [step _ _ _ _ _ hx g1];refine ⟨T.Qb<|T.BR (λv hv=>hv.1) h2,?_⟩
   have h3:=T.BR (λv hv=>hv.2) h2
   refine T.BR (λq hq=>?_)<|T.swap h3
   rw [step _ _ _ _ _ hy g2,iU gy,T.all_bind,Lf a1];refine ⟨dU<|.inr<|P8 gy,T.BR (λv hv=>?_) hq⟩
   exact aNo
 ·cases hc
def ap9 {ops:aK}{tr:aI}{n0:aD}{j:aD}{R R':aI}{K:List LV×List AB->Prop}(hh:∀(F:aE) (H:aH),(Fg P G Γ ops tr n0 R F H).all K->(Fg P G Γ ops tr n0 R' F H).all K) (h:(Fg P G Γ ops tr n0 (j::R) F H).all K):(Fg P G Γ ops tr n0 (j::R') F H).all K:=by
 simp only [Fg] at h|-;exact yI
def aFI {ops:aK}{tr:aI}{n0:aD}{i:aD}{K:List LV×List AB->Prop}:∀(R:aI) (F:aE) (H:aH),i∈R->(Fw i R).all (λj=>RA ops i j)=U->(Fg P G Γ ops tr n0 R F H).all K->(Fg P G Γ ops tr n0 (i::R.erase i) F H).all K
 | [],_,_,hi,_,_=>oA
 | j::R,F,H,hi,hb,h=>by
  by_cases hj:j=i
  ·subst hj
   grind
  ·have hi':i∈R:=by
    rcases B9.1 hi with e|e
    ·grind
    ·exact e
   simp only [Fw,AE hj,It,AV] at hb;rw [VB A8];exact ap8 hb.1<|ap9 (λF H h=>aFI R F H hi' hb.2 h) h
def apJ {t:aT}{len:aD}{l:bq}{K:LV->Prop}(h:(L6 P t len l).all K):¬len=0:=by
 unfold L6 at h
 rintro rfl
 split at h
 ·split at h
  ·split at h
   ·omega
   ·cases h
  ·cases h
 ·cases h
def afO {t:aT}{len:aD}{l:bq}{K:LV->Prop}(h:(L6 P t len l).all K):WW P t=true:=by
 unfold L6 at h;unfold WW;split at h
 ·rename_i e hu
  split at h
  ·rename_i ty m z h1 h2 h3
   simp [h1]
  ·cases h
 ·cases h
def tI {o:aU}{lv:LV}(hm:HP o=U) (h:(Hd P G Γ F o).all λz=>z=lv):(Ax P G Γ F H o).all (λq=>q=(lv,H)):=by
 unfold Hd at h;split at h
 ·rename_i t len parts ho
  split at h
  ·cases h
  rename_i hrl;split at h
  ·rename_i hno
   unfold Ax;simp only [ho];rw [AE<|apJ h,AD<|afO h,AE hrl,AD hno,T.all_bind];exact aO8
  ·cases h
 ·rename_i f args ty ho
  unfold Ax;simp only [ho];split at h
  ·rename_i g cap hf
   split at h
   ·rename_i fn hfn
    split at h
    ·rename_i hb
     split at h
     ·rename_i S hS
      split at h
      ·rename_i hno
       simp only [hf,Lq,hfn,hb,Bo,hS,hno];rw [T.all_bind];exact aO8
      ·cases h
     ·cases h
    ·cases h
   ·cases h
  ·cases h
 ·cases h
def aIq {l:aX}{i j:aD}{d:aN}:(l.setIfInBounds i U).getD j d=if i=j/\i<l.size then U else l.getD j d:=by
 by_cases e:i=j
 ·subst e
  by_cases h:i<l.size
  ·simp [h]
  ·simp [h]
 ·simp [e]
def wJ {l:aX}{i:aD}(h:l.getD i U=X):i<l.size/\l.getD i X=false:=by
 rw [mU] at h|-;cases hq:l[i]? with
 |none=>rw [hq] at h;cases h
 |some b=>
  grind
def ry {i:aD}:∀ {R:aI}{j:aD},j∈Fw i R->j∈R/\j≠i
 | [],_,h=>As
 | k::R,j,h=>by
  simp only [Fw] at h;split at h
  ·cases h
  ·rename_i hk
   rcases B9.1 h with rfl|h
   ·grind
   ·exact ⟨N8 _ (ry h).1,(ry h).2⟩
def aFm {p:aD->aD->Prop}{i:aD}:∀ {R:aI}{j:aD},R.Pairwise p->i∈R->j∈Fw i R->p j i
 | [],_,_,h,_=>As
 | k::R,j,hp,hi,hj=>by
  rw [mG] at hp;simp only [Fw] at hj;split at hj
  ·cases hj
  ·rename_i hk
   have hi2:i∈R:=by
    rcases B9.1 hi with e|hi
    ·grind
    ·exact hi
   rcases B9.1 hj with rfl|hj
   ·grind
   ·exact aFm hp.2 hi2 hj
def aF4 {i k q:aD}(hk:k≠i) (hq:q≠i):∀ {R:aI},q∈Fw k R->q∈Fw k (R.erase i)
 | [],h=>As
 | x::R,h=>by
  simp only [Fw] at h;split at h
  ·cases h
  ·rename_i hx
   by_cases e:x=i
   ·subst e
    rw [List.erase_cons_head];rcases B9.1 h with rfl|h
    ·grind
    ·exact h
   ·rw [VB A8]
    simp only [Fw,AE hx];rcases B9.1 h with rfl|h
    ·simp
    ·exact N8 _<|aF4 hk hq h
inductive KD (ops:Array Oper) (R:List Nat):Nat->Nat->Prop
 |dir {i j:Nat}:preB ops i j=U->KD ops R i j
 |step {i p j:Nat}:p∈R->preB ops i p=U->KD ops R p j->KD ops R i j
def KD.aFM {ops:aK}{R:aI}{listed:aX}(hm:∀i,i∈R↔listed.getD i U=X) {i j:aD}(hi:i∈az .any ops listed) (hj:j∈R) (h:KD ops R i j):False:=by
 have no:∀p,preB ops i p=U->p∈R->False:=λp h hp=>by
  obtain ⟨_,o,ho,r2⟩:=Ez.1 hi;unfold preB at h;rw [ho] at h;simp only [Ob,AV] at h;obtain ⟨e,he,hb,hq⟩:=h
  have hq:e.on=p:=A8
  have h3:=r2 e A8 hb
  rw [hq] at h3
  have h4:=(wJ<|(hm p).1 hp).2
  rw [h3] at h4;cases h4
 cases h with
 |dir h=>exact no _ h hj
 |step hp h _=>exact no _ h hp
def KD.erase {ops:aK}{R:aI}{listed:aX}(hm:∀i,i∈R↔listed.getD i U=X) (hnd:R.Nodup) {k:aD}(hk:k∈az .any ops listed) {i j:aD}(h:KD ops R i j) (hj:j∈R):KD ops (R.erase k) i j:=by
 induction h with
 |dir h=>exact .dir h
 |step hp h hr ih=>exact .step (hnd.mem_erase_iff.2 ⟨λe=>by subst e;exact KD.aFM hm hk hj hr,hp⟩) h<|ih hj
def aJF {ops:aK}{R:aI}:∀ {n i j:aD},jg ops R n i j=U->KD ops R i j
 |0,_,_,h=> .dir h
 |n+1,_,_,h=>by
  simp only [jg,Cc,Ob,AV] at h;rcases h with h|⟨p,hp,h1,h2⟩
  ·exact .dir h
  ·exact .step hp h1<|aJF h2
structure aoC (ops:aK) (R:aI) (listed:aX):Prop where
 nd:R.Nodup
 mem:∀i,i∈R↔listed.getD i U=X
 pr:R.Pairwise λj i=>KD ops R i j\/RA ops i j=U
 tp:∀i∈R,∃o,ops[i]? =ai o/\∀e∈o.after,Region.binds .any e=U->listed.getD e.on X=U\/e.on∈Fw i R
def aR7 {ops:aK}:∀(n:aD) (R:aI) (listed:aX),M R=n->aoC ops R listed->Ly ops n R listed=U
 |0,R,listed,hn,I=>by
  have e:=aM1 hn
  subst e;simp only [Ly,List.isEmpty_nil,ES,Zl];refine mT.2 λi hi=>?_
  exact absurd ((I.mem i).2 (Ez.1 hi).1) AI
 | n +1,R,listed,hn,I=>by
  simp only [Ly,AV,BH,D6,mI];refine ⟨λh0=>?_,λi hi=>?_⟩
  ·match R,hn,I with
   | k::R,_,I=>
    obtain ⟨o,ho,h1⟩:=I.tp k AI
    have:k∈az .any ops listed:=Ez.2 ⟨(I.mem k).1 AI,o,ho,λe he hb=>by
     rcases h1 e he hb with h2|h2
     ·exact h2
     ·simp [Fw] at h2⟩
    rw [h0] at this;cases this
  ·obtain ⟨r1,o,ho,r2⟩:=Ez.1 hi
   have hR:=(I.mem i).2 r1
   refine ⟨⟨A8,λj hj=>?_⟩,aR7 n _ _ A8 ⟨I.nd.erase i,λj=>?_,(I.pr.sublist List.erase_sublist).imp_of_mem λ{a b} ha _ h=>h.imp_left λh=>h.erase I.mem I.nd hi<|QG ha,λk hk=>?_⟩⟩
   ·obtain ⟨j1,j2⟩:=ry hj
    rcases aFm I.pr hR hj with h|h
    ·exact (KD.aFM I.mem hi j1 h).elim
    ·exact h
   ·rw [I.nd.mem_erase_iff,I.mem j,aIq]
    have hb:=(wJ r1).1
    by_cases e:i=j
    ·subst e
     simp [hb]
    ·grind
   ·have hk':=I.nd.mem_erase_iff.1 hk
    obtain ⟨o',ho',h1⟩:=I.tp k hk'.2;refine ⟨o',ho',λe he hb=>?_⟩
    rw [aIq]
    by_cases q:i=e.on
    ·left
     grind
    ·rw [AE λh=>q h.1]
     rcases h1 e he hb with h2|h2
     ·grind
     ·exact .inr<|aF4 hk'.1 (Oc q) h2
def aJn:∀ {l:aI},og l=U->l.Nodup
 | [],_=>List.nodup_nil
 |x::l,h=>by
  simp only [og,AV,D6,List.contains_eq_mem,DB] at h;exact MJ.2 ⟨h.1,aJn h.2⟩
def aFf {ops:aK}{R0:aI}:∀ {R:aI},gn ops R0 R=U->R.Pairwise λj i=>KD ops R0 i j\/RA ops i j=U
 | [],_=>List.Pairwise.nil
 |j::R,h=>by
  simp only [gn,AV,BH,Cc] at h;exact mG.2 ⟨λi hi=>(h.1 i hi).symm.imp_left aJF,aFf h.2⟩
def aR6 {ops:aK}{R:aI}{listed:aX}(h:oN ops R listed=U):Ly ops (M R) R listed=true:=by
 unfold oN ab7 at h;simp only [AV,BH,Iu] at h;obtain ⟨h1,h2,h3,h4,h5,h6⟩:=h
 have h2:listed.size=ops.size:=A8
 refine aR7 _ R listed rfl ⟨aJn h1,λi=>?_,aFf h5,λi hi=>?_⟩
 ·by_cases hi:i<ops.size
  ·have:=h3 i hi
   constructor
   ·intro hm
    grind
   ·intro hm
    grind
  ·constructor
   ·intro hm
    grind
   ·intro hm
    have:=(wJ hm).1
    omega
 ·have:=h6 i hi
  split at this
  ·rename_i o ho
   refine ⟨o,ho,λe he hb=>?_⟩
   grind
  ·cases this
def aDe (hΓ:∀g S,Γ g=ai S->Valid P G g S) {ops:aK}{tr:aI}{D:aP->Prop}{sp:aD->aN}{Q:bf->Gh->Prop}{F':aE}{H':aH}
  (hQ:∀g:Gh,g.F=F'->g.H=H'->Q g.a g):∀(n:aD) (R:aI) (listed:aX) (g:Gh),(∀i∈R,sp i=U)->Ly ops n R listed=U->
   (Fg P G Γ ops tr (M H) R g.F g.H).all (λq=>q=(F',H'))->Kj P .any ops D (Ck ds G w0 Z0 tr β H wr) sp Q n listed g.a g
 |0,R,listed,g,_,hB,h=>by
  simp only [Ly,AV,Zl] at hB;obtain ⟨rfl,h2⟩:=hB;simp only [Fg,T.all,Ay] at h;exact ⟨h2,hQ g h.1 h.2⟩
 | n +1,R,listed,g,hs,hB,h=>by
  simp only [Ly,AV,BH,D6,mI] at hB;obtain ⟨hne,hall⟩:=hB;refine ⟨λh0=>absurd h0 hne,λi hi=>?_⟩
  obtain ⟨⟨hR,hbef⟩,hrest⟩:=hall i hi
  have hiR:i∈R:=A8
  have hf:=aFI R g.F g.H hiR A8 h
  simp only [Fg] at hf;split at hf
  ·rename_i o ho
   split at hf
   ·rename_i hgs
    simp only [AV,Zm] at hgs;obtain ⟨hgd,hst⟩:=hgs
    have hw:aA o (yielded ops g.a.tmps)=true:=yu
    unfold E7;simp only [ho,hw,Bo,hs i hiR];obtain ⟨⟨lv,H1⟩,h1,h2⟩:=T.B4 hf
    have h1':(Ax P G Γ g.F g.H o).all (λq=>q=(lv,H1)):=by
     unfold G9 at h1;split at h1
     ·rename_i hm
      obtain ⟨y,k1,k2⟩:=T.B4 h1;obtain ⟨rfl,rfl⟩:=k2;exact tI (P8 hm) k1
     ·exact h1
    intro w' hc;refine KS (λv w'' ⟨g',e1,e2,e3,e4⟩=>⟨g',e1,?_⟩)<|dy hΓ hst h1' hc
    rw [<-e4];refine aDe hΓ hQ n (R.erase i) _ g' (λj hj=>hs j<|QG hj) hrest ?_
    rwa [e2,e3]
   ·cases hf
  ·cases hf
def T.Ev {α:Type}(t:T α) (K:α->Prop):Prop:=∀K1:α->Prop,t.all K1->t.all (λq=>K1 q/\K q)
def T.Tz {α:Type}{x:α}{K:α->Prop}(h:K x):T.Ev (.ok x) K:=λ_ h1=>⟨h1,h⟩
def T.Kq {α:Type}{K:α->Prop}:T.Ev (.no:T α) K:=λ_ h1=>h1.elim
def T.aTe {α:Type}{p:Prop}{t:T α}{K:α->Prop}(h:T.Ev t K):T.Ev (.req p t) K:=λ_ h1=>⟨h1.1,h _ h1.2⟩
def T.fP {α γ:Type}{t:T α}{f:α->T γ}{K:γ->Prop}(h:∀x,T.Ev (f x) K):T.Ev (t.bind f) K:=λK1 h1=>by
 rw [T.all_bind] at h1|-;exact T.BR (λx hx=>h x _ hx) h1
def HM (H H':aH):Prop:=∀(k:aD) (b:AB),H'[k]? =ai b->b.E0=U->∃b0:AB,H[k]? =ai b0/\b0.E0=U/\b0.c=b.c
def HM.refl (H:aH):HM H H:=λ_ b h1 h2=>⟨b,h1,h2,rfl⟩
def HM.snoc {H H':aH}(h:HM H H') {nb:AB}(hn:nb.E0=X):HM H (H'++[nb]):=λk b h1 h2=>by
 rw [List.getElem?_append] at h1;split at h1
 ·exact h k b h1 h2
 ·cases e:k-M H' with
  |zero=>
   grind
  |succ n=>rw [e] at h1;simp at h1
def HM.set {H:aH}{k:aD}{nb:AB}(hn:nb.E0=X):HM H (H.set k nb):=λj b h1 h2=>by
 rw [IT] at h1;split at h1
 ·split at h1
  ·simp only [Ah] at h1
   grind
  ·cases h1
 ·grind
def HM.pub (ks:aI) {H:aH}:HM H (Fs ks 0 H):=λk b h1 h2=>by
 rw [dj] at h1;cases e:H[k]? with
 |none=>rw [e] at h1;cases h1
 | some b0=>
  rw [e] at h1;simp only [Jn,Ah] at h1;refine ⟨b0,rfl,?_,?_⟩
  ·rw [<-h1] at h2
   split at h2
   ·exact h2
   ·exact h2
  ·rw [<-h1]
   grind
def ag3 {H:aH}{t:aT}{k off:aD}:(∃v,FU P H t (.own k off)=.ok v)\/FU P H t (.own k off)=.no:=by
 generalize hx:FU P H t (.own k off)=x;unfold FU at hx;cases e:H[k]? with
 |none=>
  grind
 | some b=>
  simp only [e] at hx;split at hx
  ·split at hx
   ·grind
   ·grind
  ·split at hx
   ·split at hx
    ·grind
    ·grind
   ·grind
  ·grind
def afM {H H':aH}(hk:HM H H') {t:aT}{k off:aD}{v:LV}(h:FU P H' t (.own k off)=.ok v):FU P H t (.own k off)=.ok v:=by
 unfold FU at h|-;cases e:H'[k]? with
 |none=>
  grind
 | some b=>
  simp only [e] at h;cases ec:b.E0 with
  |false=>
   grind
  |true=>
   obtain ⟨b0,e0,e1,e2⟩:=hk k b e ec;simp only [e0,e1,e2];simp only [ec] at h;exact h
def aoo {H:aH}{t tx:aT}{x y:LV}:T.Ev (Lj P H t tx x y) (λq=>HM H q.2):=by
 unfold Lj;split
 ·split
  ·split
   ·refine T.fP λq=>?_
    split
    ·exact T.aTe<|T.Tz<|(HM.refl H).snoc rfl
    ·split
     ·split
      ·split
       ·exact T.aTe<|T.Tz<|(HM.set rfl).snoc rfl
       ·exact T.Kq
      ·exact T.Kq
     ·exact T.Kq
    ·exact T.Kq
   ·exact T.Kq
  ·exact T.Kq
 ·exact T.Kq
def anT {o:aU}(h:LA P o=U):T.Ev (Ax P G Γ F H o) (λq=>HM H q.2):=by
 unfold LA at h;split at h
 ·rename_i args tys ho
  unfold Ax;simp only [ho];split
  ·exact aoo
  ·exact T.Kq
 ·rename_i t len parts ho
  unfold Ax;simp only [ho];split
  ·split
   ·unfold Ww
    split
    ·exact T.Tz<|(HM.refl H).snoc rfl
    ·exact T.Kq
   ·exact T.Kq
  ·rename_i hl
   have ht:WW P t=true:=A8
   rw [AD ht];split
   ·unfold cV
    split
    ·refine T.fP λy=>?_
     split
     ·exact T.Tz<|(HM.pub _).snoc rfl
     ·exact T.Kq
    ·exact T.Kq
   ·split
    ·exact T.fP λy=>T.Tz<|HM.refl H
    ·unfold oT
     split
     ·exact T.fP λy=>T.Tz<|HM.pub _
     ·exact T.Kq
 ·cases h
def aJf {ops:aK}{o:aU}{d:bB}{y:LV}(hh:LA P o=U) (h:∀t,d=ai t->t∉o.looksAt ops):Ax P G Γ (At F d y) H o=Ax P G Γ F H o/\∀tr n0,C3 G (At F d y) tr n0 o=C3 G F tr n0 o:=by
 have hl:=looks h
 unfold LA at hh;split at hh
 ·rename_i args tys ho
  have e:args.toList.map (AM G<|At F d y)=args.toList.map (AM G F):=Jo λx hx=>FO<|hl x bP
  refine ⟨?_,λtr n0=>?_⟩
  ·unfold Ax
   exact Sr
  ·unfold C3 Ec
   exact Sr
 ·rename_i t len parts ho
  have e:(parts.toList.map λq=>(q.1,AM G (At F d y) q.2))=parts.toList.map λq=>(q.1,AM G F q.2):=Jo λq hq=>by
   rw [FO<|hl q.2 aNx]
  refine ⟨?_,λtr n0=>?_⟩
  ·unfold Ax
   exact Sr
  ·unfold C3 Ec
   grind
 ·cases hh
variable {zb : Bool}
def iV {ops:aK}{i:aD}{o:aU}(h:mkZ zb P ops i o=U):HP o=U/\LA P o=U/\∀F,Nu G F o=true:=by
 unfold mkZ isLt at h;rw [AV,AV] at h
 have h:=h.2.1
 split at h
 ·rename_i t len parts ho
  rw [AV] at h;exact ⟨by unfold HP;rw [ho],by unfold LA;rw [ho];simp [h.2],λF=>by unfold Nu;rw [ho]⟩
 ·cases h
def fa {ops:aK}{k:aD}{o:aU}(h:mkZ zb P ops k o=U):KI zb P G Γ ops k F H o=(Hd P G Γ F o).bind λy=> .ok (y,H):=by
 unfold KI;rw [AD<|(iV (G:=G) h).2.2 F,AD h]
def aFz {ops:aK}{k:aD}{o:aU}{d:bB}{y:LV}(hh:LA P o=U\/GS o=U) (h:∀t,d=ai t->t∉o.looksAt ops):KI zb P G Γ ops k (At F d y) H o=KI zb P G Γ ops k F H o/\∀tr n0,C3 G (At F d y) tr n0 o=C3 G F tr n0 o:=by
 rcases hh with hh|hh
 ·obtain ⟨e1,e2⟩:=aJf (P:=P) (G:=G) (Γ:=Γ) (F:=F) (H:=H) (y:=y) hh h
  have e3:∀F,Nu G F o=true:=λF=>by
   unfold Nu;unfold LA at hh;split at hh
   ·rename_i ho;rw [ho]
   ·rename_i ho;rw [ho]
   ·cases hh
  unfold KI;rw [e1,e3,e3,Lf h];exact ⟨rfl,e2⟩
 ·have g:(Il o ||GS o)=true:=by rw [hh,OY]
  refine ⟨?_,λtr n0=>by rw [T0 g,T0 g]⟩
  have ha:Ky o=true:=by
   unfold GS at hh;split at hh
   ·rename_i ho;unfold Ky;rw [ho]
   ·cases hh
  have e3:Nu G (At F d y) o=Nu G F o:=by
   unfold GS at hh;split at hh
   ·rename_i t x ho
    unfold Nu;rw [ho];simp only [FO (G:=G) (F:=F) (y:=y)<|looks h x F6]
   ·cases hh
  unfold KI;rw [e3,tU ha h,Lf h]
def ap6 {ops:aK}{tr:aI}{n0:aD}{i j:aD}{is:aI}{K:List LV×List AB->Prop}(hc:jo zb P ops i j=U) (h:(HA zb P G Γ ops tr n0 (j::i::is) F H).all K):(HA zb P G Γ ops tr n0 (i::j::is) F H).all K:=by
 unfold jo at hc;split at hc
 ·rename_i x y hx hy
  simp only [AV,Cc,D6] at hc;obtain ⟨⟨⟨g1,g2⟩,g3⟩,hap⟩:=hc;obtain ⟨a1,a2,a3⟩:=Zg hap
  have step:∀(k:aD) (o:aU) (l:aI) (F:aE) (H:aH),ops[k]? =ai o->o.guard.isNone=U->((HA zb P G Γ ops tr n0 (k::l) F H).all K↔(C3 G F tr n0 o=U/\(KI zb P G Γ ops k F H o).all (λq=>(HA zb P G Γ ops tr n0 l (At F o.dst q.1) q.2).all K))):=λk o l F H hk hg=>by
   simp only [HA,hk,hg,ES];split
   ·rename_i hs
    rw [T.all_bind];simp only [hs,Dw]
   ·rename_i hs
    constructor
    ·exact λh=>h.elim
    ·exact λh=>(hs h.1).elim
  rcases g3 with (g3|⟨gx,gy⟩) |⟨gx,gy⟩
  ·obtain ⟨⟨gx,gy⟩,gz⟩:=g3
   have sy:∀F H,KI zb P G Γ ops j F H y=Ax P G Γ F H y:=λF H=>by
    unfold KI;rw [AD,AE (by rw [gz];decide)]
    unfold Nu;unfold LA at gy;split at gy
    ·rename_i ho;rw [ho]
    ·rename_i ho;rw [ho]
    ·cases gy
   have gx':(Il x ||GS x)=true:=by rw [gx,OY]
   obtain ⟨t,ad,ho⟩:∃t ad,x.op=.load t ad:=by
    unfold GS at gx;split at gx
    ·rename_i ho;exact ⟨_,_,ho⟩
    ·cases gx
   have hl:=looks a3
   have mx:mkZ zb P ops i x=false:=by unfold mkZ isLt;rw [ho];cases zb<;>rfl
   have sx:∀F H,KI zb P G Γ ops i F H x=match AM G F ad with
    | .own k off=>(FU P H t<|.own k off).bind λy=> .ok (y,H)
    |_=> .no:=λF H=>by
    unfold KI Nu Ax;simp only [ho,mx,Hs,FN];split
    ·rename_i k off e
     rw [AD rfl,e]
    ·rename_i hne
     rw [AE Ac];split
     ·rename_i k off e;exact absurd e<|hne k off
     ·rfl
   have ea:∀v,AM G (At F y.dst v) ad=AM G F ad:=λv=>FO<|hl ad F6
   rw [step _ _ _ _ _ hy g2,sy] at h;obtain ⟨h1,h2⟩:=h
   have h3:=anT gy _ h2
   rw [step _ _ _ _ _ hx g1,sx];refine ⟨T0 gx' F,?_⟩
   have h4:(Ax P G Γ F H y).all (λq=>∃k off v,AM G F ad=.own k off/\FU P H t (.own k off)=.ok v/\(HA zb P G Γ ops tr n0 is (At (At F y.dst q.1) x.dst v) q.2).all K):=T.BR (λq hq=>by
    obtain ⟨q1,q2⟩:=hq;rw [step _ _ _ _ _ hx g1,sx,ea] at q1
    have q3:=q1.2
    split at q3
    ·rename_i k off e
     rcases ag3 (P:=P) (H:=q.2) (t:=t) (k:=k) (off:=off) with ⟨v,hv⟩ |hv
     ·rw [hv] at q3
      exact ⟨k,off,v,e,afM q2 hv,q3⟩
     ·rw [hv] at q3;exact q3.elim
    ·exact q3.elim) h3
   obtain ⟨k,off,v,e,hv⟩:=T.Qb<|T.BR (λq hq=>(⟨hq.choose,hq.choose_spec.choose,hq.choose_spec.choose_spec.choose,hq.choose_spec.choose_spec.choose_spec.1,hq.choose_spec.choose_spec.choose_spec.2.1⟩:∃k off v,AM G F ad=.own k off/\FU P H t (.own k off)=.ok v)) h4
   rw [e];simp only [hv,T.bind,T.all];obtain ⟨e1,e2⟩:=aJf (P:=P) (G:=G) (Γ:=Γ) (F:=F) (H:=H) (y:=v) gy a1;rw [step _ _ _ _ _ hy g2,sy,e1,e2];refine ⟨h1,T.BR (λq hq=>?_) h4⟩
   obtain ⟨k',off',v',e',hv',hp⟩:=hq;rw [e] at e';cases e';rw [hv] at hv';cases hv';rw [Lb a2];exact hp
  ·obtain ⟨m1,_,m3⟩:=iV (G:=G) gx
   rw [step _ _ _ _ _ hy g2] at h;rw [step _ _ _ _ _ hx g1,fa gx,T.all_bind];refine ⟨dU<|.inr m1,?_⟩
   have h2:=T.BR (λq hq=>by
    rw [step _ _ _ _ _ hx g1,fa gx,T.all_bind,Lf a3] at hq;exact hq.2) h.2
   refine T.BR (λu hu=>?_)<|T.swap h2
   obtain ⟨e1,e2⟩:=aFz (P:=P) (G:=G) (Γ:=Γ) (F:=F) (H:=H) (k:=j) (y:=u) gy a1;exact aM8
  ·obtain ⟨m1,_,m3⟩:=iV (G:=G) gy
   rw [step _ _ _ _ _ hy g2,fa gy,T.all_bind] at h
   have h2:=T.BR (λv hv=>by
    obtain ⟨e1,e2⟩:=aFz (P:=P) (G:=G) (Γ:=Γ) (F:=F) (H:=H) (k:=i) (y:=v) gx a3
    (try simp only [T.all] at hv)
    rw [step _ _ _ _ _ hx g1,e1,e2] at hv;exact hv) h.2
   rw [step _ _ _ _ _ hx g1];refine ⟨T.Qb<|T.BR (λv hv=>hv.1) h2,?_⟩
   have h3:=T.BR (λv hv=>hv.2) h2
   refine T.BR (λq hq=>?_)<|T.swap h3
   rw [step _ _ _ _ _ hy g2,fa gy,T.all_bind,Lf a1];refine ⟨dU<|.inr m1,T.BR (λv hv=>?_) hq⟩
   exact aNo
 ·cases hc
def ap7 {ops:aK}{tr:aI}{n0:aD}{j:aD}{R R':aI}{K:List LV×List AB->Prop}(hh:∀(F:aE) (H:aH),(HA zb P G Γ ops tr n0 R F H).all K->(HA zb P G Γ ops tr n0 R' F H).all K) (h:(HA zb P G Γ ops tr n0 (j::R) F H).all K):(HA zb P G Γ ops tr n0 (j::R') F H).all K:=by
 simp only [HA] at h|-;exact yI
def aFg {ops:aK}{tr:aI}{n0:aD}{i:aD}{K:List LV×List AB->Prop}:∀(R:aI) (F:aE) (H:aH),i∈R->(Fw i R).all (λj=>jo zb P ops i j)=U->(HA zb P G Γ ops tr n0 R F H).all K->(HA zb P G Γ ops tr n0 (i::R.erase i) F H).all K
 | [],_,_,hi,_,_=>oA
 | j::R,F,H,hi,hb,h=>by
  by_cases hj:j=i
  ·subst hj
   simpa using h
  ·have hi':i∈R:=by
    rcases B9.1 hi with e|e
    ·exact absurd e.symm hj
    ·exact e
   simp only [Fw,AE hj,It,AV] at hb;rw [VB zM];exact ap6 hb.1<|ap7 (λF H h=>aFg R F H hi' hb.2 h) h
def adp (hΓ:∀g S,Γ g=ai S->Valid P G g S) {ops:aK}{tr:aI}{D:aP->Prop}{sp:aD->aN}{Q:bf->Gh->Prop}{F':aE}{H':aH}
  (hQ:∀g:Gh,g.F=F'->g.H=H'->Q g.a g):∀(n:aD) (R:aI) (listed:aX) (g:Gh),(∀i∈R,sp i=U)->V2 zb P ops n R listed=U->
   (HA zb P G Γ ops tr (M H) R g.F g.H).all (λq=>q=(F',H'))->Kj P .any ops D (Ck ds G w0 Z0 tr β H wr) sp Q n listed g.a g
 |0,R,listed,g,_,hB,h=>by
  simp only [V2,AV,Zl] at hB;obtain ⟨rfl,h2⟩:=hB;simp only [HA,T.all,Ay] at h;exact ⟨h2,hQ g h.1 h.2⟩
 | n + 1,R,listed,g,hs,hB,h=>by
  simp only [V2,AV,BH,D6,mI] at hB;obtain ⟨hne,hall⟩:=hB;refine ⟨λh0=>absurd h0 hne,λi hi=>?_⟩
  obtain ⟨⟨hR,hbef⟩,hrest⟩:=hall i hi
  have hiR:i∈R:=by simpa using hR
  have hf:=aFg R g.F g.H hiR (by rw [BH];exact hbef) h
  simp only [HA] at hf;split at hf
  ·rename_i o ho
   split at hf
   ·rename_i hgs
    simp only [AV,Zm] at hgs;obtain ⟨hgd,hst⟩:=hgs
    have hw:aA o (yielded ops g.a.tmps)=true:=yu
    unfold E7;simp only [ho,hw,Bo,hs i hiR];obtain ⟨⟨lv,H1⟩,h1,h2⟩:=T.B4 hf
    have h1':(Ax P G Γ g.F g.H o).all (λq=>q=(lv,H1)):=by
     unfold KI at h1;split at h1
     ·split at h1
      ·rename_i hm
       obtain ⟨y,k1,k2⟩:=T.B4 h1;simp only [T.all,Ay] at k2;obtain ⟨rfl,rfl⟩:=k2;exact tI (iV (G:=G) hm).1 k1
      ·exact h1
     ·cases h1
    intro w' hc;refine KS (λv w'' ⟨g',e1,e2,e3,e4⟩=>⟨g',e1,?_⟩)<|dy hΓ hst h1' hc
    rw [<-e4];refine adp hΓ hQ n (R.erase i) _ g' (λj hj=>hs j<|QG hj) hrest ?_
    rw [e2,e3];exact h2
   ·cases hf
  ·cases hf
def dX {T':Type}{md:aVJ}{D:aP->Prop}{sp:aD->aN}{C:T'->aP->Prop}{Q':bf->aP->Prop}{ops:aK}{g g1:T'}(hs:∀w',C g w'->C g1 w'):∀(n:aD) (listed:aX) (a:bf),
  Kj P md ops D C sp (λa' g'=>∀w',C g' w'->Q' a' w') n listed a g1->Kj P md ops D C sp (λa' g'=>∀w',C g' w'->Q' a' w') n listed a g
 |0,_,_,h=>⟨h.1,λw' hw'=>h.2 w'<|hs w' hw'⟩
 | n +1,listed,a,h=>⟨λh0 w' hw'=>h.1 h0 w'<|hs w' hw',λi hi=>by
   have:=h.2 i hi
   unfold E7 at this|-;split
   ·rename_i ho;simp only [ho] at this;exact dX hs n _ _ this
   ·rename_i o ho
    simp only [ho] at this;split
    ·rename_i hw
     simp only [hw,Bo] at this;split
     ·rename_i hsp
      simp only [hsp,Bo] at this;exact λw hw=>this w<|hs w hw
     ·rename_i hsp
      simp only [hsp] at this;exact qD (λa' hk=>dX hs n _ a' hk) this
    ·rename_i hw
     simp only [hw] at this;exact dX hs n _ _ this⟩
mutual
def R.Kz {β':aD->aVs}{n:aD}:∀(x:LV) (y:aW),(∀j,j∈owns x->β' j=β j)->okV n x->R β Z w x y->R β' Z w x y
 | .v _,_,_,_,h=>h
 | .bl _,_,_,_,h=>h
 | .ki _ _,_,_,_,h=>h
 | .own k off,y,hj,_,h=>aON
 | .agg l,y,hj,hk,h=>by
  exact my
 | .AQ l,y,hj,hk,h=>by
  exact my
 | .fn f l,y,hj,hk,h=>by
  exact my
 | .fb f l,y,hj,hk,h=>by
  exact my
 | .xq m f,y,_,hk,h=>by
  simp only [R,okV] at*;obtain ⟨b,off,h1,h2,h3⟩:=h;refine ⟨b,off,h1,h2,λj hj=>?_⟩
  obtain ⟨z,h4,h5⟩:=h3 j hj;exact ⟨z,h4,R.mono (n:=0) (λ_ hk=>absurd hk A0) (λ_ h=>h) (λ_ _=>rfl) _ _ (hk j) h5⟩
 | .xl e l,y,_,_,h=>by simp only [R] at*;exact h
 | .os k es off n,y,hj,_,h=>nQ
 | .op k es i j,y,hj,_,h=>nQ
 | .om k,y,hj,_,h=>nQ
 | .mp kd ks l,y,hj,hk,h=>by
  simp only [R,owns,okV] at*;obtain ⟨r,es,clock,h1,h2,h3,h4,h5⟩:=h;exact ⟨r,es,clock,h1,h2,h3,h4,RL.Kz l _ hj hk h5⟩
 | .oc k es off n c,y,hj,_,h=>nQ
 | .CQ k,y,hj,_,h=>aON
 | .junk,_,_,_,_=>Jp
def RL.Kz {β':aD->aVs}{n:aD}:∀(l:aE) (ys:aV),(∀j,j∈ownsL l->β' j=β j)->AT n l->RL β Z w l ys->RL β' Z w l ys
 | [],_,_,_,h=>aPf
 |x::xs,ys,hj,hk,h=>by
  simp only [RL,ownsL,BZ,AT] at*;obtain ⟨y,zs,h1,h2,h3⟩:=h;exact ⟨y,zs,h1,R.Kz x y (λj h=>hj j (.inl h)) hk.1 h2,RL.Kz xs zs (λj h=>hj j (.inr h)) hk.2 h3⟩
end
mutual
def okV_owns {n:aD}:∀(x:LV),okV n x->∀j,j∈owns x->j<n
 | .v _,_,j,h=>VT
 | .bl _,_,j,h=>VT
 | .ki _ _,_,j,h=>VT
 | .own k _,hk,j,h=>VM
 | .agg l,hk,j,h=>bU
 | .AQ l,hk,j,h=>bU
 | .fn _ l,hk,j,h=>bU
 | .fb _ l,hk,j,h=>bU
 | .xq _ _,_,j,h=>VT
 | .xl _ _,_,j,h=>VT
 | .os k _ _ _,hk,j,h=>VM
 | .op k _ _ _,hk,j,h=>VM
 | .om k,hk,j,h=>VM
 | .mp _ _ l,hk,j,h=>bU
 | .oc k _ _ _ _,hk,j,h=>VM
 | .CQ k,hk,j,h=>VM
 | .junk,_,j,h=>VT
def okL_owns {n:aD}:∀(l:aE),AT n l->∀j,j∈ownsL l->j<n
 | [],_,j,h=>by simp [ownsL] at h
 |x::xs,hk,j,h=>by
  simp only [ownsL,BZ,AT] at*;rcases h with h|h
  ·exact okV_owns x hk.1 j h
  ·exact okL_owns xs hk.2 j h
end
mutual
def okV_lower {n m:aD}:∀(x:LV),okV n x->(∀j,j∈owns x->j<m)->okV m x
 | .v _,_,_=>trivial
 | .bl _,_,_=>trivial
 | .ki _ _,_,_=>trivial
 | .own k _,_,h=>h k Iy
 | .agg l,hk,h=>bW
 | .AQ l,hk,h=>bW
 | .fn _ l,hk,h=>bW
 | .fb _ l,hk,h=>bW
 | .xq _ _,hk,_=>aPW
 | .xl _ _,_,_=>trivial
 | .os k _ _ _,_,h=>h k Iy
 | .op k _ _ _,_,h=>h k Iy
 | .om k,_,h=>h k Iy
 | .mp _ _ l,hk,h=>bW
 | .oc k _ _ _ _,_,h=>h k Iy
 | .CQ k,_,h=>h k Iy
 | .junk,_,_=>trivial
def okL_lower {n m:aD}:∀(l:aE),AT n l->(∀j,j∈ownsL l->j<m)->AT m l
 | [],_,_=>trivial
 |x::xs,hk,h=>by
  simp only [ownsL,BZ,AT] at*;exact ⟨okV_lower x hk.1 (λj hj=>h j (.inl hj)),okL_lower xs hk.2 (λj hj=>h j (.inr hj))⟩
end
def aGd {n:aD}{b:AB}(h:okB n b):∀j,j∈b.owns->j<n:=λj hj=>by
 rcases BZ.1 hj with hj|hj
 ·exact okL_owns _ h.1 j hj
 ·have h2:=h.2
  split at hj
  ·rename_i hk;rw [hk] at h2;exact okL_owns _ h2 j hj
  ·cases hj
def Bb.Kz {β':aD->aVs}{n k k':aD}{b:AB}(hk:β' k'=β k) (hj:∀j,j∈b.owns->β' j=β j) (hok:okB n b) (h:Bb β Z w k b):Bb β' Z w k' b:=by
 have hc:∀j,j∈ownsL b.c->β' j=β j:=λj h=>hj j<|BZ.2<|.inl h
 unfold Bb at*;rw [hk];cases hbk:b.k with
 |cl=>
  simp only [hbk] at h|-;obtain ⟨cs,h1,h2⟩:=h;exact ⟨cs,h1,RL.Kz _ _ hc hok.1 h2⟩
 |vec e l=>simp only [hbk] at h|-;exact h
 |mp kd ks vs=>
  simp only [hbk] at h|-;obtain ⟨es,clock,h1,h2,h3⟩:=h
  have ho:=hok.2
  rw [hbk] at ho;exact ⟨es,clock,h1,h2,RL.Kz _ _ (λj h=>hj j (by unfold AB.owns;rw [hbk];exact BZ.2<|.inr h)) ho h3⟩
 |Cn ps asg body st=>
  simp only [hbk] at h|-;obtain ⟨r,h1,h2,h3,h4,h5,h6⟩:=h;exact ⟨r,h1,h2,h3,h4,h5,RL.Kz _ _ hc hok.1 h6⟩
 |st e l=>simp only [hbk] at h|-;exact h
 |dead=>trivial
def L4 (β:aD->aVs) (k m:aD):aD->aVs:=λj=>if j=k then β m else β j
def Qg {k m:aD}:L4 β k m k=β m:=by simp [L4]
def JB {k m j:aD}(h:j≠k):L4 β k m j=β j:=by simp [L4,h]
def RW.move {k:aD}{nb db:AB}(hW:RW G w0 Z0 Z β (H++[nb]) w) (hk:H[k]? =ai db) (hp:nb.p=X)
  (hB:∀(j:aD) (b:AB),H[j]? =ai b->okB (M H) b/\k∉b.owns) (hn:okB (M H) nb/\k∉nb.owns) (hg:∀p,p∈Z0.gh->okV (M H) p.1/\k∉owns p.1):
  RW G w0 Z0 Z (L4 β k<|M H) (H.set k nb) w:=by
 have hkl:k<M H:=(EF.1 hk).1
 have at_:∀(j:aD) (b:AB),(H.set k nb)[j]? =ai b->(j=k/\b=nb)\/(j≠k/\H[j]? =ai b):=λj b h=>by
  rw [IT] at h;split at h
  ·rename_i e
   grind
  ·grind
 have last:(H++[nb])[M H]? =ai nb:=AI
 have old:∀(j:aD) (b:AB),H[j]? =ai b->(H++[nb])[j]? =ai b:=λj b h=>A8
 have lt:∀(j:aD) (b:AB),H[j]? =ai b->j<M H:=λj b h=>(EF.1 h).1
 have lk:live (L4 β k<|M H) k nb=live β (M H) nb:=by unfold live;rw [Qg]
 have lj:∀j b,j≠k->live (L4 β k<|M H) j b=live β j b:=λj b h=>Ka<|JB h
 refine ⟨hW.below,hW.Bc,hW.Ep,λj b hj hl hq=>?_,λj b hj hl hq=>?_,λj b hj hl=>?_,λi j bi bj hi hj li lj' pi e=>?_,λj b hj=>?_,hW.Ci,λp hp=>?_,hW.Cr⟩
 ·rcases at_ j b hj with ⟨rfl,rfl⟩ |⟨h1,h2⟩
  ·rw [Qg];rw [lk] at hl;exact hW.Cp _ _ last hl hq
  ·rw [JB h1];rw [lj j b h1] at hl;exact hW.Cp j b (old j b h2) hl hq
 ·rcases at_ j b hj with ⟨rfl,rfl⟩ |⟨h1,h2⟩
  ·rw [hp] at hq;cases hq
  ·rw [JB h1];rw [lj j b h1] at hl;exact hW.GR j b (old j b h2) hl hq
 ·rcases at_ j b hj with ⟨rfl,rfl⟩ |⟨h1,h2⟩
  ·rw [Qg];rw [lk] at hl;exact hW.low _ _ last hl
  ·rw [JB h1];rw [lj j b h1] at hl;exact hW.low j b (old j b h2) hl
 ·rcases at_ i bi hi with ⟨rfl,rfl⟩ |⟨h1,h2⟩
  ·rcases at_ j bj hj with ⟨rfl,rfl⟩ |⟨g1,g2⟩
   ·rfl
   ·rw [lk] at li;rw [lj j bj g1] at lj';rw [Qg,JB g1] at e
    have:=hW.inj _ j _ bj last (old j bj g2) li lj' pi e
    have:=lt j bj g2;omega
  ·rcases at_ j bj hj with ⟨rfl,rfl⟩ |⟨g1,g2⟩
   ·rw [lj i bi h1] at li;rw [lk] at lj';rw [JB h1,Qg] at e
    have:=hW.inj i _ bi _ (old i bi h2) last li lj' pi e
    have:=lt i bi h2;omega
   ·rw [lj i bi h1] at li;rw [lj j bj g1] at lj';rw [JB h1,JB g1] at e
    exact hW.inj i j bi bj (old i bi h2) (old j bj g2) li lj' pi e
 ·rw [C5]
  rcases at_ j b hj with ⟨rfl,rfl⟩ |⟨h1,h2⟩
  ·exact ⟨Bb.Kz Qg (λi hi=>JB λe=>hn.2<|e▸hi) hn.1 (hW.blk _ _ last).1,hn.1⟩
  ·obtain ⟨q1,q2⟩:=hB j b h2
   exact ⟨Bb.Kz (JB h1) (λi hi=>JB λe=>q2<|e▸hi) q1 (hW.blk j b<|old j b h2).1,q1⟩
 ·obtain ⟨q1,q2⟩:=hg p hp
  rw [C5];exact ⟨R.Kz _ _ (λj hj=>JB λe=>q2<|e▸hj) q1 (hW.gh p hp).1,q1⟩
def R5:∀ {l:aE}{x:LV}{j:aD},x∈l->j∈owns x->j∈ownsL l
 |y::ys,x,j,hx,hj=>by
  simp only [ownsL,BZ];rcases B9.1 hx with rfl|h
  ·grind
  ·exact .inr<|R5 h hj
def eQ:∀ {l:aE}{j:aD},j∈ownsL l->∃x,x∈l/\j∈owns x
 |x::xs,j,h=>by
  simp only [ownsL,BZ] at h;rcases h with h|h
  ·grind
  ·obtain ⟨y,h1,h2⟩:=eQ h;exact ⟨y,A8,h2⟩
 | [],j,h=>by simp [ownsL] at h
def Sy {x:aVq}{j:aD}(h:j∈owns (AM G F x)):j∈ownsL F:=by
 cases x with
 |tmp t=>
  simp only [AM] at h;cases ht:F[t]? with
  |none=>simp [List.getD,ht,owns] at h
  |some y=>simp [List.getD,ht] at h;exact R5 (OV ht) h
 |const v=>simp only [AM] at h;split at h<;>simp [owns] at h
 |global g=>simp only [AM] at h;split at h<;>simp [owns] at h
 |func f=>simp [AM,owns,ownsL] at h
def aDc:∀(l:aV),ownsL (l.map .v)=[]
 | []=>rfl
 |x::xs=>by simp [ownsL,owns,aDc xs]
def pR {x:LV}{cs:aE}(h:CP x=ai cs):∀j,j∈ownsL cs->j∈owns x:=λj hj=>by
 unfold CP at h;split at h
 ·split at h
  ·simp only [Ah] at h;subst h;rw [aDc] at hj;cases hj
  ·cases h
 ·split at h
  ·simp only [Ah] at h;subst h;simpa only [owns] using hj
  ·cases h
 ·cases h
 ·cases h
 ·simp only [Ah] at h;subst h;simpa [ownsL] using hj
def pt {d:bB}{x:LV}{j:aD}(h:j∈ownsL (At F d x)):j∈ownsL F\/j∈owns x:=by
 cases d with
 |none=>exact .inl h
 |some t=>
  obtain ⟨y,h1,h2⟩:=eQ h;rcases OX h1 with e|e
  ·exact .inl<|R5 e h2
  ·grind
def aHN {k:aD}{o:aU}{lv:LV}{H1:aH}(h:(JN P G F H k o).all λq=>q=(lv,H1)):(∃cs t,lv=.own k 0/\H1=H.set k ⟨cs,t,.cl,X⟩/\(Ax P G Γ F H o).all (λq=>q=(.own (M H) 0,H++[⟨cs,t,.cl,X⟩]))/\∀j,j∈ownsL cs->j∈ownsL F)\/
  ∃(m n:aD) (e:aT) (ty:Ty) (l:List ty.D),lv=.os k m 0 n/\H1=H.set k ⟨[],e,.vec ty l,X⟩/\(Ax P G Γ F H o).all (λq=>q=(.os (M H) m 0 n,H++[⟨[],e,.vec ty l,X⟩])):=by
 unfold JN at h;split at h
 ·rename_i t ho
  split at h
  ·rename_i z hz
   split at h
   ·rename_i cs hcs
    simp only [T.all,Ay] at h;refine .inl ⟨cs,t,h.1.symm,h.2.symm,?_,λj hj=>?_⟩
    ·unfold Ax;simp only [ho,hz,hcs,T.all]
    ·have:=pR hcs j hj;simp [owns] at this
   ·cases h
  ·cases h
 ·rename_i t x ho
  split at h
  ·rename_i cs hcs
   simp only [T.all,Ay] at h;refine .inl ⟨cs,t,h.1.symm,h.2.symm,?_,λj hj=>Sy<|pR hcs j hj⟩
   unfold Ax;simp only [ho,hcs,T.all]
  ·cases h
 ·rename_i t n c ho
  split at h
  ·rename_i e ty m FH n' c' he hn hc
   split at h
   ·rename_i z hz
    split at h
    ·rename_i d hd
     split at h
     ·rename_i hsz
      simp only [T.all,Ay] at h;obtain ⟨h0,h1,h2⟩:=h;refine .inr ⟨m,n'.toNat,e,ty,au n'.toNat d,h1.symm,h2.symm,?_⟩;unfold Ax;simp only [ho,U0,he,hn,hc,hz,hd,hsz,Bo,T.all]
      grind
     ·cases h
    ·cases h
   ·cases h
  ·cases h
 ·rename_i t len parts ho
  split at h
  ·rename_i hlen
   split at h
   ·rename_i hp
    split at h
    ·rename_i e ty m FH he
     simp only [T.all,Ay] at h;refine .inr ⟨m,0,e,ty,[],h.1.symm,h.2.symm,?_⟩;unfold Ax;simp only [ho,hlen,hp,Bo,Ww,he,T.all]
    ·cases h
   ·cases h
  ·cases h
 ·cases h
structure SL (n0:aD) (done:aD->Prop) (R:aI) (g:Gh):Prop where
 f:∀j,j∈ownsL g.F->j<n0\/∃i,done i/\j=n0+i
 h:∀(k:aD) (b:AB),g.H[k]? =ai b->∀j,j∈b.owns->j<n0\/∃i,done i/\j=n0+i
 dead:∀i,i∈R->¬done i/\∃b,g.H[n0+i]? =ai b
def aJu (hΓ:∀g S,Γ g=ai S->Valid P G g S) {tr:aI}{g:Gh}{o:aU}{lv:LV}{H1:aH}{w':aP}{done:aD->Prop}{R':aI}{i:aD}(hgh:∀p,p∈Z0.gh->okV (M H) p.1) (hI:SL (M H) done R' g) (hi:i∈R')
  (hst:C3 G g.F tr (M H) o=U) {nb:AB} {lv0:LV} (hop:(Ax P G Γ g.F g.H o).all λq=>q=(lv0,g.H++[nb])) (hpn:nb.p=X) (hcs:∀j,j∈nb.owns->j∈ownsL g.F) (hlow:∀n m,okB n nb->(∀j,j∈nb.owns->j<m)->okB m nb)
  (hlv:∀β' Z' w'' v,R β' Z' w'' lv0 v->R (L4 β' (M H+i)<|M g.H) Z' w'' lv v) (hlo:∀n,M H+i<n->okV n lv) (hH1:H1=g.H.set (M H+i) nb) (hc:Ck ds G w0 Z0 tr β H wr g w'):
  Dj P (λv w''=>∃g':Gh,Ck ds G w0 Z0 tr β H wr g' w''/\g'.F=At g.F o.dst lv/\g'.H=H1/\g'.a=g.a.put o.dst v) ((execOp g.a.eval o).run P w'):=by
 subst hH1;refine KS (λv w'' ⟨Z',β',e1,e2,e3,e4,e5,e6,e7,e8⟩=>?_)<|dp hΓ hc.rw hc.rf hop
 obtain ⟨hnd,db,hdb⟩:=hI.dead i hi
 have fresh:∀j,(j<M H\/∃i',done i'/\j=M H+i')->j≠M H+i:=λj hj e=>by
  rcases hj with hj|⟨i',hd,e'⟩
  ·omega
  ·have:i'=i:=A0
   grind
 have hsz:=hc.near.size
 have hcl:∀j,j∈nb.owns->j<M g.H:=λj hj=>by
  obtain ⟨x,q1,q2⟩:=eQ<|hcs j hj;obtain ⟨t',q3⟩:=List.getElem?_of_mem q1;exact okV_owns x (hc.rf.get t' x q3).2 j q2
 have okcs:okB (M g.H) nb:=hlow _ _ (e1.blk (M g.H) nb AI).2 hcl
 have hMv:=e1.move (k:=M H+i) hdb hpn (λj b hj=>⟨(hc.rw.blk j b hj).2,λhm=>fresh _ (hI.h j b hj _ hm) rfl⟩) ⟨okcs,λhm=>fresh _ (hI.f _<|hcs _ hm) rfl⟩ λp hp=>⟨okV.mono hc.len _<|hgh p hp,λhm=>by have:=okV_owns _ (hgh p hp) _ hm;omega⟩
 have hF2:RF ds (L4 β' (M H+i)<|M g.H) Z' w'' (M<|g.H.set (M H+i) nb) g.F g.a:=by
  rw [C5];refine ⟨hc.rf.size,λt' x hx=>?_,e2.defers⟩
  have q:=hc.rf.get t' x hx
  exact ⟨R.Kz x _ (λj hj=>JB<|fresh j<|hI.f j<|R5 (OV hx) hj) q.2 (e2.get t' x hx).1,q.2⟩
 refine ⟨⟨Z',L4 β' (M H+i)<|M g.H,g.H.set (M H+i) nb,At g.F o.dst lv,g.a.put o.dst v⟩,?_,rfl,rfl,rfl⟩;refine ⟨hMv,hF2.put (hlv _ _ _ _ e3) (hlo _ A8) o.dst,⟨e8.os.trans hc.near.os,e8.tape.trans hc.near.tape,e8.output.trans hc.near.output,Hq hsz e8.size,λk hk hn=>?_⟩,A8,λk hk=>?_,λk h3 h4=>?_,λk b hb=>?_⟩
 ·exact aNA
 ·show L4 β' (M H+i) (M g.H) k=β k
  rw [JB A0,e6 k<|Zj hk hc.len];exact hc.old k hk
 ·show wr.heap.size<=(L4 β' (M H+i) (M g.H) k).b\/(L4 β' (M H+i) (M g.H) k).b∈Dd β H tr
  simp only [C5] at h4
  by_cases hkk:k=M H+i
  ·subst hkk
   rw [Qg];rcases e7 (M g.H) (Ar _) AI with h|h
   ·exact .inl A0
   ·exact hc.touch hst h
  ·rw [JB hkk,e6 k h4];exact hc.new k h3 h4
 ·have hkl:k<M H:=(EF.1 hb).1
  obtain ⟨b',q1,q2⟩:=hc.KE k b hb
  grind
def ai4 (hΓ:∀g S,Γ g=ai S->Valid P G g S) {tr:aI}{g:Gh}{o:aU}{lv:LV}{H1:aH}{w':aP}{done:aD->Prop}{R':aI}{i:aD}(hgh:∀p,p∈Z0.gh->okV (M H) p.1) (hI:SL (M H) done R' g) (hi:i∈R')
  (hst:C3 G g.F tr (M H) o=U) (h1:(JN P G g.F g.H (M H+i) o).all λq=>q=(lv,H1)) (hc:Ck ds G w0 Z0 tr β H wr g w'):
  Dj P (λv w''=>∃g':Gh,Ck ds G w0 Z0 tr β H wr g' w''/\g'.F=At g.F o.dst lv/\g'.H=H1/\g'.a=g.a.put o.dst v) ((execOp g.a.eval o).run P w'):=by
 rcases aHN (Γ:=Γ) h1 with ⟨cs,t,rfl,hH1,hop,hcs⟩ |⟨m,n,e,ty,l,rfl,hH1,hop⟩
 ·refine aJu hΓ hgh hI hi hst hop rfl (λj hj=>?_) (λn m h1 h2=>⟨okL_lower cs h1.1 λj hj=>h2 j ?_,an⟩) (λβ' Z' w'' v hr=>aOy) (λn hn=>hn) hH1 hc
  ·unfold AB.owns at hj
   grind
  ·unfold AB.owns
   simp only [Ge];exact hj
 ·refine aJu hΓ hgh hI hi hst hop rfl (λj hj=>?_) (λn m h1 h2=>⟨an,an⟩) (λβ' Z' w'' v hr=>aOy) (λn hn=>hn) hH1 hc
  unfold AB.owns at hj
  simp [ownsL] at hj
def afY {ops:aK}{o:aU}{d:bB}{y:LV}{k:aD}(ha:En o=U) (h:∀t,d=ai t->t∉o.looksAt ops):JN P G (At F d y) H k o=JN P G F H k o:=by
 have hl:=looks h
 unfold En at ha;split at ha
 ·rename_i t ho
  unfold JN
  grind
 ·rename_i t x ho
  unfold JN;simp only [ho];exact mz
 ·rename_i t n c ho
  unfold JN;simp only [ho];rw [FO<|hl n F6,FO<|hl c F6]
 ·rename_i t len parts ho
  unfold JN
  grind
 ·cases ha
def aqG {o:aU}{k:aD}(ha:En o=U):∃(p:Prop) (lv:LV) (nb:AB),∀(H:aH) (K:LV×List AB->Prop),(JN P G F H k o).all K↔(p/\K (lv,H.set k nb)):=by
 unfold En at ha;split at ha
 ·rename_i t ho
  unfold JN;simp only [ho];split
  ·exact aMg
  ·exact Sp
 ·rename_i t x ho
  unfold JN;simp only [ho];exact aMg
 ·rename_i t n c ho
  unfold JN;simp only [ho];split
  ·split
   ·split
    ·split
     ·exact ⟨_,_,_,λH K=>LY⟩
     ·exact Sp
    ·exact Sp
   ·exact Sp
  ·exact Sp
 ·rename_i t len parts ho
  unfold JN;simp only [ho];split
  ·split
   ·split
    ·rename_i e ty m FH _
     exact ⟨True,.os k m 0 0,⟨[],e,.vec ty [],X⟩,λH K=>aPP⟩
    ·exact Sp
   ·grind
  ·grind
 ·cases ha
def tl {o:aU}(hm:JR o=U):En o=X/\Q7 o=U/\∀G tr n0 (F:aE),C3 G F tr n0 o=true:=by
 unfold JR at hm;split at hm
 ·rename_i x ho
  simp [En,Q7,C3,Ec,ho]
 ·rename_i x ho
  simp [En,Q7,C3,Ec,ho]
 ·rename_i t parts ho
  simp [En,Q7,C3,Ec,ho]
 ·cases hm
def qV {ops:aK}{o:aU}{d:bB}{y:LV}{n0 i:aD}(ha:(En o ||JR o)=U) (h:∀t,d=ai t->t∉o.looksAt ops):IB P G Γ ops n0 i (At F d y) H o=IB P G Γ ops n0 i F H o:=by
 rcases Se.1 ha with ha|ha
 ·unfold IB
  rw [AD ha,AD ha,afY ha h]
 ·obtain ⟨h1,h2,_⟩:=tl ha
  have hl:=looks h
  unfold IB;rw [h1,h2];unfold JR at ha;split at ha
  ·exact aNf
  ·exact aNf
  ·rename_i t parts ho
   have e:(parts.toList.map λq=>(q.1,I4 G (At F d y) q.2))=parts.toList.map λq=>(q.1,I4 G F q.2):=Jo λq hq=>by
    exact aN9
   unfold Ax;simp only [ho,e];rfl
  ·cases ha
def putAt (k:aD) (nb:aVD) (H:aH):aH:=
 match nb with
 |some b=>H.set k b
 |none=>H
def afB {i j:aD}{a b:aVD}{H:aH}(h:i≠j):putAt i a (putAt j b H)=putAt j b (putAt i a H):=by
 cases a<;>cases b<;>simp only [putAt]
 exact List.set_comm _ _<|Oc h
def fv {ops:aK}{o:aU}{n0 i:aD}(ha:(En o ||JR o)=U):∃(p:Prop) (lv:LV) (nb:aVD),∀(H:aH) (K:LV×List AB->Prop),(IB P G Γ ops n0 i F H o).all K↔(p/\K (lv,putAt (n0+i) nb H)):=by
 rcases Se.1 ha with ha|ha
 ·obtain ⟨p,lv,nb,h⟩:=aqG (P:=P) (G:=G) (F:=F) (k:=n0+i) ha
  refine ⟨p,lv,ai nb,λH K=>?_⟩
  unfold IB;rw [AD ha];exact h H K
 ·obtain ⟨h1,h2,_⟩:=tl ha
  unfold JR at ha;split at ha
  ·exact aMt
  ·exact aMt
  ·rename_i t parts ho
   have key:∀l:bq,(∃y,Ni P t l=.ok y)\/Ni P t l=.no:=λl=>by
    unfold Ni;split
    ·split
     ·grind
     ·exact .inr rfl
    ·grind
   rcases key (parts.toList.map λq=>(q.1,I4 G F q.2)) with ⟨y,hy⟩ |hy
   ·refine ⟨True,y,ak,λH K=>?_⟩
    unfold IB Ax;rw [h1,h2]
    simp [ho,hy,T.bind,T.all,putAt]
   ·refine ⟨False,.junk,ak,λH K=>?_⟩
    unfold IB Ax;rw [h1,h2]
    simp [ho,hy,T.bind,T.all]
  ·cases ha
def gK {o:aU}{tr:aI}{n0:aD}(ha:(En o ||JR o)=U) (F:aE):C3 G F tr n0 o=true:=by
 rcases Se.1 ha with ha|ha
 ·exact dU<|.inl ha
 ·exact (tl ha).2.2 G tr n0 F
def ajX {o:aU}(h:M4 o=U):En o=X/\Q7 o=false:=by
 unfold M4 at h;split at h
 ·rename_i args tys ho
  simp [En,Q7,ho]
 ·cases h
def aL6 {ops:aK}{o:aU}{d:bB}{y:LV}(hh:M4 o=U) (h:∀t,d=ai t->t∉o.looksAt ops):
  Ax P G Γ (At F d y) H o=Ax P G Γ F H o/\(∀tr n0,C3 G (At F d y) tr n0 o=C3 G F tr n0 o)/\∀n0 H,LI G ops n0 (At F d y) H o=LI G ops n0 F H o:=by
 have hl:=looks h
 unfold M4 at hh;split at hh
 ·rename_i args tys ho
  have e:args.toList.map (AM G<|At F d y)=args.toList.map (AM G F):=Jo λx hx=>FO<|hl x bP
  refine ⟨?_,λtr n0=>?_,λn0 H=>?_⟩
  ·unfold Ax
   exact Sr
  ·unfold C3 Ec
   exact Sr
  ·unfold LI
   exact Sr
 ·cases hh
def ae4 {t tx:aT} {k es off n:aD} {e0:Ty} {q0:List e0.D}:∃f:aVD->Option (Prop×Nat×Nat×TypeId×AB),(∀b p m n' e nb,f b=ai (p,m,n',e,nb)->nb.owns=[])/\(f ak=ak)/\
  ∀(H:aH) (K:LV×List AB->Prop),(Lj P H t tx (.os k es off n)<|.xl e0 q0).all K↔match f H[k]? with
   |some (p,m,n',e,nb)=>p/\K (.os (M H) m 0 n',H.set k ⟨[],e,.dead,X⟩++[nb])
   |none=>False:=by
 have bad:∀ {g:aH->T (LV×List AB)},(∀H,g H=.no)->∃f:aVD->Option (Prop×Nat×Nat×TypeId×AB),(∀b p m n' e nb,f b=ai (p,m,n',e,nb)->nb.owns=[])/\(f ak=ak)/\
   ∀(H:aH) (K:LV×List AB->Prop),(g H).all K↔match f H[k]? with
    |some (p,m,n',e,nb)=>p/\K (.os (M H) m 0 n',H.set k ⟨[],e,.dead,X⟩++[nb])
    |none=>False:=λhg=>⟨λ_=>ak,(λ_ _ _ _ _ _ h=>As),rfl,λH K=>by rw [hg];simp [T.all]⟩
 unfold Lj;cases he:Pc P t with
 |none=>exact bad λH=>rfl
 | some q=>
  obtain ⟨e,ty,m,FH⟩:=q;simp only;split
  ·rename_i z _ _
   by_cases hz:z.cells.size=m
   ·simp only [AD hz]
    have hs:∀H:aH,FT H ty (.xl e0 q0)=(match N1 ty (.xl e0 q0) with|some l=> .ok l|none=> .no):=λH=>rfl
    cases hd:N1 ty (.xl e0 q0) with
    |none=>exact bad λH=>by rw [hs,hd];rfl
    | some q=>
     refine ⟨λob=>match ob with
      |some ⟨_,bt,.vec e' l,X⟩=>match K8 e' ty with
       |some ⟨h⟩=>if es=m/\bt=e then ai (off+n=M l/\((n+M q:aD):Y)*FH<=2^47/\((n+M q:aD):Y)<2^62,m,n+M q,e,⟨[],e,.vec ty<|Kr h (l.drop off)++q,X⟩) else ak
       |none=>ak
      |_=>ak,λb p m' n' e' nb hf=>?_,rfl,λH K=>?_⟩
     ·simp only at hf
      split at hf
      ·split at hf
       ·split at hf
        ·simp only [Ah,Ay] at hf
         rw [<-hf.2.2.2.2];rfl
        ·cases hf
       ·cases hf
      ·cases hf
     ·rw [hs,hd]
      simp only [T.bind];split
      ·rename_i hb
       simp only [hb];split
       ·rename_i ht
        simp only [ht];split
        ·simp only [T.all]
        ·simp [T.all]
       ·rename_i ht
        simp only [ht]
        simp [T.all]
      ·rename_i hb
       split
       ·rename_i hf
        exfalso;split at hf
        ·rename_i h1
         grind
        ·cases hf
       ·simp [T.all]
   ·simp_all
  ·simp_all
def aDy {ops:aK} {n0:aD} {o:aU} (h:LI G ops n0 F H o=U):∃d k es off n,∃e0:Ty,∃q0:List e0.D,∃t tx,apD ops o=ai d/\n0+ops.size<=M H/\k=n0+d/\(∀tr,C3 G F tr n0 o=U)/\((∀H':aH,Ax P G Γ F H' o=Lj P H' t tx (.os k es off n) (.xl e0 q0))\/∀H':aH,Ax P G Γ F H' o=.no):=by
 unfold LI at h;split at h
 ·rename_i args tys ho
  split at h
  ·rename_i d hd
   simp only [AV,Aa] at h;obtain ⟨h1,h2⟩:=h;cases hm:args.toList.map (AM G F) with
   |nil=>rw [hm] at h2;simp [apK] at h2
   | cons a l=>
    cases l with
    |nil=>rw [hm] at h2;cases a<;>simp [apK] at h2
    | cons b l=>
     cases l with
     |cons c l=>rw [hm] at h2;cases a<;>cases b<;>simp [apK] at h2
     | nil=>
      rw [hm] at h2;cases a with
      | os k es off n=>
       cases b with
       | xl e0 q0=>
        simp only [apK,Cy] at h2
        have hok:∀tr,C3 G F tr n0 o=true:=λtr=>by
         unfold C3 Ec;simp only [ho,hm,owns,It,List.all_nil,mX,Cc,Aa];omega
        cases ht:tys.toList with
        |nil=>exact ⟨d,k,es,off,n,e0,q0,0,0,hd,h1,h2,hok,.inr λH'=>nj⟩
        | cons t1 l=>cases l with
         |nil=>exact ⟨d,k,es,off,n,e0,q0,0,0,hd,h1,h2,hok,.inr λH'=>nj⟩
         |cons t2 l=>cases l with
          |nil=>exact ⟨d,k,es,off,n,e0,q0,t1,t2,hd,h1,h2,hok,.inl λH'=>nj⟩
          |cons _ _=>exact ⟨d,k,es,off,n,e0,q0,0,0,hd,h1,h2,hok,.inr λH'=>nj⟩
       |_=>simp [apK] at h2
      |_=>simp [apK] at h2
  ·cases h
 ·cases h
def aeK {k:aD}{nb:aVD}{H:aH}:M (putAt k nb H)=M H:=by cases nb<;>simp [putAt]
def aUN {ops:aK}{n0 j:aD}{nb:aVD}{o:aU}(h:LI G ops n0 F H o=U) (hj:apD ops o≠ai j) (hlt:j<ops.size) (K:LV×List AB->Prop):
  (Ax P G Γ F (putAt (n0+j) nb H) o).all K↔(Ax P G Γ F H o).all (λq=>K (q.1,putAt (n0+j) nb q.2)):=by
 obtain ⟨d,k,es,off,n,e0,q0,t,tx,hd,hl,hk,_,ho⟩:=aDy (P:=P) (Γ:=Γ) h
 have hkj:k≠n0+j:=by
  rintro e
  grind
 cases nb with
 |none=>exact Iff.rfl
 | some b=>
  have e1:(H.set (n0+j) b)[k]? =H[k]? :=Zh<|Oc hkj
  obtain ⟨f,_,_,hf⟩:=ae4 (P:=P) (t:=t) (tx:=tx) (k:=k) (es:=es) (off:=off) (n:=n) (e0:=e0) (q0:=q0)
  have key:(Lj P (putAt (n0+j) (ai b) H) t tx (.os k es off n)<|.xl e0 q0).all K↔(Lj P H t tx (.os k es off n)<|.xl e0 q0).all (λq=>K (q.1,putAt (n0+j) (ai b) q.2)):=by
   rw [hf,hf];simp only [putAt,e1,C5];split
   ·rename_i e nb' _
    rw [List.set_comm _ _ hkj.symm,<-List.set_append_left _ _ A8]
   ·grind
  rcases ho with hb|hb
  ·grind
  ·rw [hb,hb];simp [T.all]
def aUO {ops:aK}{n0:aD}{nb:aVD}{j:aD}{o:aU}:LI G ops n0 F (putAt j nb H) o=LI G ops n0 F H o:=by
 unfold LI;rw [aeK]
def apA {ops:aK}{tr:aI}{n0:aD}{i j:aD}{is:aI}{K:List LV×List AB->Prop}(hc:jq ops i j=U) (h:(G6 P G Γ ops tr n0 (j::i::is) F H).all K):(G6 P G Γ ops tr n0 (i::j::is) F H).all K:=by
 unfold jq at hc;split at hc
 ·rename_i x y hx hy
  simp only [AV,Cc,D6,CV] at hc;obtain ⟨⟨⟨⟨hne,g1⟩,g2⟩,g3⟩,hap⟩:=hc;obtain ⟨a1,a2,a3⟩:=Zg hap
  have hij:n0+j≠n0+i:=A0
  have step:∀(k:aD) (o:aU) (l:aI) (F:aE) (H:aH),ops[k]? =ai o->o.guard.isNone=U->((G6 P G Γ ops tr n0 (k::l) F H).all K↔(C3 G F tr n0 o=U/\(IB P G Γ ops n0 k F H o).all (λq=>(G6 P G Γ ops tr n0 l (At F o.dst q.1) q.2).all K))):=λk o l F H hk hg=>by
   simp only [G6,hk,hg,ES]
   by_cases hs:C3 G F tr n0 o=U
   ·rw [AD hs,T.all_bind];exact ⟨λh=>⟨hs,h⟩,λh=>h.2⟩
   ·exact aNF
  have ap:∀(k:aD) (o:aU) (F:aE) (H:aH) (K:LV×List AB->Prop),M4 o=U->((IB P G Γ ops n0 k F H o).all K↔(LI G ops n0 F H o=U/\(Ax P G Γ F H o).all K)):=λk o F H K ha=>by
   obtain ⟨q1,q2⟩:=ajX ha;unfold IB;rw [q1,q2]
   by_cases hs:LI G ops n0 F H o=U
   ·grind
   ·exact aNF
  have hil:i<ops.size:=(Ho.1 hx).1
  have hjl:j<ops.size:=(Ho.1 hy).1
  rw [step j y _ F H hy g2] at h;rw [step i x _ F H hx g1];obtain ⟨_,h⟩:=h
  have st1:∀(F:aE) (H:aH),((G6 P G Γ ops tr n0 (i::is) F H).all K↔_):=λF H=>step i x is F H hx g1
  have st2:∀(F:aE) (H:aH),((G6 P G Γ ops tr n0 (j::is) F H).all K↔_):=λF H=>step j y is F H hy g2
  simp only [st1] at h;simp only [st2];rcases g3 with (⟨g3,g4⟩ |⟨g3,g4,g5⟩) |⟨⟨g3,g5⟩,g4⟩
  ·have g3':(En x ||JR x)=true:=by simpa using g3
   have g4':(En y ||JR y)=true:=by simpa using g4
   obtain ⟨px,lx,nx,ex⟩:=fv (P:=P) (G:=G) (Γ:=Γ) (ops:=ops) (F:=F) (n0:=n0) (i:=i) g3';obtain ⟨py,ly,ny,ey⟩:=fv (P:=P) (G:=G) (Γ:=Γ) (ops:=ops) (F:=F) (n0:=n0) (i:=j) g4';rw [ey] at h;obtain ⟨h1,_,h2⟩:=h;rw [qV g3' a3,ex] at h2;refine ⟨gK g3' F,?_⟩;rw [ex];refine ⟨h2.1,gK g4' _,?_⟩;rw [qV g4' a1,ey];refine ⟨h1,?_⟩;rw [Lb a2,afB hij];exact h2.2
  ·have g3':(En x ||JR x)=true:=by simpa using g3
   obtain ⟨px,lx,nx,ex⟩:=fv (P:=P) (G:=G) (Γ:=Γ) (ops:=ops) (F:=F) (n0:=n0) (i:=i) g3';rw [ap j y F H _ g4] at h;obtain ⟨h1,h2⟩:=h
   have h2:(Ax P G Γ F H y).all (λq=>px/\(G6 P G Γ ops tr n0 is (At (At F y.dst q.1) x.dst lx)<|putAt (n0+i) nx q.2).all K):=T.BR (λq hq=>by
    have:=hq.2
    rw [qV g3' a3,ex] at this;exact this) h2
   have hp:px:=T.Qb<|T.BR (λq hq=>hq.1) h2
   refine ⟨gK g3' F,?_⟩;rw [ex];refine ⟨hp,?_⟩;simp only;obtain ⟨b1,b2,b3⟩:=aL6 (P:=P) (G:=G) (Γ:=Γ) (F:=F) (H:=putAt (n0+i) nx H) (d:=x.dst) (y:=lx) g4 a1;refine ⟨A8,?_⟩;rw [ap j y _ _ _ g4,b3,aUO,b1,aUN h1 g5 hil];refine ⟨h1,T.BR (λq hq=>?_) h2⟩
   simp only;rw [Lb a2];exact hq.2
  ·have g4':(En y ||JR y)=true:=by simpa using g4
   obtain ⟨py,ly,ny,ey⟩:=fv (P:=P) (G:=G) (Γ:=Γ) (ops:=ops) (F:=F) (n0:=n0) (i:=j) g4';rw [ey] at h;obtain ⟨h1,_,h2⟩:=h;obtain ⟨b1,b2,b3⟩:=aL6 (P:=P) (G:=G) (Γ:=Γ) (F:=F) (H:=putAt (n0+j) ny H) (d:=y.dst) (y:=ly) g3 a3;rw [ap i x _ _ _ g3,b3,aUO,b1] at h2;obtain ⟨h2,h3⟩:=h2;rw [aUN h2 g5 hjl] at h3;obtain ⟨_,_,_,_,_,_,_,_,_,_,_,_,hok,_⟩:=aDy (P:=P) (Γ:=Γ) h2;refine ⟨hok tr,?_⟩;rw [ap i x _ _ _ g3];refine ⟨h2,T.BR (λq hq=>⟨gK g4' _,?_⟩) h3⟩
   rw [qV g4' a1,ey];refine ⟨h1,?_⟩;rw [Lb a2];exact hq
 ·cases hc
def apC {ops:aK}{tr:aI}{n0:aD}{j:aD}{R R':aI}{K:List LV×List AB->Prop}(hh:∀(F:aE) (H:aH),(G6 P G Γ ops tr n0 R F H).all K->(G6 P G Γ ops tr n0 R' F H).all K) (h:(G6 P G Γ ops tr n0 (j::R) F H).all K):(G6 P G Γ ops tr n0 (j::R') F H).all K:=by
 simp only [G6] at h|-;exact yI
def aFJ {ops:aK}{tr:aI}{n0:aD}{i:aD}{K:List LV×List AB->Prop}:∀(R:aI) (F:aE) (H:aH),i∈R->(Fw i R).all (λj=>jq ops i j)=U->(G6 P G Γ ops tr n0 R F H).all K->(G6 P G Γ ops tr n0 (i::R.erase i) F H).all K
 | [],_,_,hi,_,_=>oA
 | j::R,F,H,hi,hb,h=>by
  by_cases hj:j=i
  ·subst hj
   grind
  ·have hi':i∈R:=by
    rcases B9.1 hi with e|e
    ·grind
    ·exact e
   simp only [Fw,AE hj,It,AV] at hb;rw [VB A8];exact apA hb.1<|apC (λF H h=>aFJ R F H hi' hb.2 h) h
def adu {i:aD}:∀ {R:aI},P7 R=U->∀i'∈R.erase i,i'≠i
 | [],_,_,h=>A8
 | k::R,hn,i',h=>by
  simp only [P7,AV,D6] at hn
  by_cases hk:k=i
  ·subst hk
   simp only [List.erase_cons_head] at h
   rintro rfl
   have:i'∉R:=A8
   exact this h
  ·rw [VB A8] at h
   rcases B9.1 h with rfl|h
   ·exact hk
   ·exact adu hn.2 i' h
def aEO {i:aD}:∀ {R:aI},P7 R=U->P7 (R.erase i)=U
 | [],_=>A8
 | k::R,hn=>by
  simp only [P7,AV,D6] at hn
  by_cases hk:k=i
  ·grind
  ·rw [VB A8]
   simp only [P7,AV,D6];refine ⟨?_,aEO hn.2⟩
   grind
def aEF {l cs:aE}{off:aD}{j:aD}(h:j∈ownsL (setAt l off cs)):j∈ownsL l\/j∈ownsL cs:=by
 obtain ⟨x,h1,h2⟩:=eQ h;rcases BZ.1 h1 with h1|h1
 ·rcases BZ.1 h1 with h1|h1
  ·exact .inl<|R5 (VC h1) h2
  ·exact .inr<|R5 h1 h2
 ·exact .inl<|R5 (QN h1) h2
def aeY {t:aT}{x y:LV}{H1:aH}(h:(TX P H t x y).all λq=>q=H1):∃(k:aD) (b nb:AB),H[k]? =ai b/\H1=H.set k nb/\∀j,j∈nb.owns->j∈b.owns\/j∈owns y:=by
 unfold TX at h;split at h
 ·rename_i n cs hn hcs
  split at h
  ·rename_i k off
   split at h
   ·rename_i b hb
    split at h
    ·rename_i hc
     refine ⟨k,b,_,hb,h.symm,λj hj=>?_⟩
     have hcl:b.k=.cl:=by
      have:=hc.1
      unfold AB.E0 at this;split at this
      ·assumption
      ·cases this
     unfold AB.owns at hj|-;simp only [hcl,Ge] at hj|-;rcases aEF hj with h|h
     ·exact .inl h
     ·exact .inr<|pR hcs j h
    ·cases h
   ·cases h
  ·rename_i k es i j
   split at h
   ·rename_i bt e l hb
    split at h
    ·simp only [T.all] at h
     obtain ⟨_,h⟩:=h;split at h
     ·simp only [T.all] at h
      refine ⟨k,_,_,hb,h.symm,λj hj=>?_⟩
      unfold AB.owns at hj
      simp [ownsL] at hj
     ·cases h
    ·cases h
   ·cases h
  ·cases h
 ·cases h
def aFN {x:LV}:owns (norm x)=owns x:=by cases x<;>simp [norm,owns]
def aES:∀(l:aE),ownsL (l.map norm)=ownsL l
 | []=>rfl
 |x::xs=>by simp only [ER,ownsL,aFN,aES xs]
def afF {l:aE}{j:aD}(h:j∈owns (K2 l)):j∈ownsL l:=by
 unfold K2 at h;split at h
 ·simp [owns] at h
 ·simp only [owns,aES] at h;exact h
def aEv {place:aD->aVM}:∀(parts:bq) (cells cs:aE),Kp place cells parts=ai cs->∀j,j∈ownsL cs->j∈ownsL cells\/∃q,q∈parts/\j∈owns q.2
 | [],cells,cs,h,j,hj=>by simp only [Kp,Ah] at h;subst h;exact .inl hj
 | (i,x)::rest,cells,cs,h,j,hj=>by
  simp only [Kp] at h;split at h
  ·rename_i off size c hp hc
   split at h
   ·rcases aEv rest _ cs h j hj with h1|⟨q,q1,q2⟩
    ·rcases aEF h1 with h2|h2
     ·grind
     ·exact .inr ⟨(i,x),AI,pR hc j h2⟩
    ·grind
   ·cases h
  ·cases h
def aeg {t:aT}{parts:bq}{lv:LV}(h:(Ni P t parts).all λz=>z=lv) (j:aD) (hj:j∈owns lv):∃q,q∈parts/\j∈owns q.2:=by
 unfold Ni at h;split at h
 ·split at h
  ·rename_i z pf _ _ cs hcs
   have hj':j∈ownsL cs:=by
    rw [<-h] at hj;split at hj
    ·exact hj
    ·exact afF hj
   rcases aEv parts _ cs hcs j hj' with h1|h1
   ·rw [aDc] at h1;cases h1
   ·exact h1
  ·cases h
 ·cases h
def afb {x:aVq}{j:aD}(h:j∈owns (I4 G F x)):j∈ownsL F:=by
 cases x with
 |const v=>simp only [I4,aFN] at h;exact Sy h
 |tmp t=>exact Sy (G:=G) (x:=.tmp t) h
 |global g=>exact Sy (G:=G) (x:=.global g) h
 |func f=>exact Sy (G:=G) (x:=.func f) h
def apy {ops:aK} {n0:aD} {done:aD->Prop} {R:aI} {g g':Gh} {o:aU} {i:aD} {lv:LV} {H1:aH} (hI:SL n0 done R g) (hnd:∀i'∈R.erase i,i'≠i) (hs:(IB P G Γ ops n0 i g.F g.H o).all λq=>q=(lv,H1)) (eF:g'.F=At g.F o.dst lv) (eH:g'.H=H1):∃done',SL n0 done' (R.erase i) g':=by
 have up:∀j,(j<n0\/∃i',done i'/\j=n0+i')->j<n0\/∃i',(done i'\/i'=i)/\j=n0+i':=λj h=>by
  rcases h with h|⟨i',h1,h2⟩
  ·exact .inl h
  ·exact yS
 unfold IB at hs;split at hs
 ·refine ⟨λi'=>done i'\/i'=i,?_⟩
  have al:∀nb:AB,owns lv=[n0+i]->H1=g.H.set (n0+i) nb->(∀j,j∈nb.owns->j∈ownsL g.F)->SL n0 (λi'=>done i'\/i'=i) (R.erase i) g':=λnb ho hH1 hcs=>by
   subst hH1;refine ⟨λj hj=>?_,λk b hb j hj=>?_,λi' hi'=>?_⟩
   ·rw [eF] at hj
    rcases pt hj with h|h
    ·exact up j<|hI.f j h
    ·grind
   ·rw [eH,IT] at hb
    split at hb
    ·split at hb
     ·simp only [Ah] at hb
      subst hb;exact up j<|hI.f j<|hcs j hj
     ·cases hb
    ·exact up j<|hI.h k b hb j hj
   ·obtain ⟨h1,b,h2⟩:=hI.dead i' (QG hi')
    refine ⟨λh=>h.elim h1<|hnd i' hi',b,?_⟩
    grind
  rcases aHN (Γ:=Γ) hs with ⟨cs,t,rfl,hH1,_,hcs⟩ |⟨m,n,e,ty,l,rfl,hH1,_⟩
  ·exact al _ rfl hH1 (λj hj=>by
    unfold AB.owns at hj;simp only [Ge] at hj;exact hcs j hj)
  ·exact al _ rfl hH1 (λj hj=>by
    unfold AB.owns at hj
    simp [ownsL] at hj)
 ·split at hs
  ·rename_i hst
   refine ⟨λi'=>done i'\/i'=i,?_⟩
   have other:∀(x:LV),lv=x->H1=g.H->(∀j,j∈owns x->j∈ownsL g.F)->SL n0 (λi'=>done i'\/i'=i) (R.erase i) g':=λx e1 e2 e3=>by
    subst e1 e2;refine ⟨λj hj=>?_,λk b hb j hj=>?_,λi' hi'=>?_⟩
    ·rw [eF] at hj
     rcases pt hj with h|h
     ·exact up j<|hI.f j h
     ·exact up j<|hI.f j<|e3 j h
    ·rw [eH] at hb;exact up j<|hI.h k b hb j hj
    ·obtain ⟨h1,b,h2⟩:=hI.dead i' (QG hi')
     grind
   unfold Q7 at hst;split at hst
   ·rename_i t x y ho
    unfold Ax at hs;simp only [ho] at hs;obtain ⟨H2,h1,h2⟩:=T.B4 hs;obtain ⟨rfl,rfl⟩:=h2;obtain ⟨k,b,nb,q1,q2,q3⟩:=aeY h1;subst q2;refine ⟨λj hj=>?_,λk' b' hb j hj=>?_,λi' hi'=>?_⟩
    ·rw [eF] at hj
     rcases pt hj with h|h
     ·exact up j<|hI.f j h
     ·simp [owns] at h
    ·rw [eH,IT] at hb
     split at hb
     ·split at hb
      ·simp only [Ah] at hb
       subst hb;rcases q3 j hj with h|h
       ·exact up j<|hI.h k b q1 j h
       ·exact up j<|hI.f j<|Sy h
      ·cases hb
     ·exact up j<|hI.h k' b' hb j hj
    ·obtain ⟨h1,b0,h2⟩:=hI.dead i' (QG hi')
     refine ⟨λh=>h.elim h1<|hnd i' hi',?_⟩
     rw [eH]
     grind
   ·exact aMl
   ·exact aMl
   ·rename_i t parts ho
    unfold Ax at hs;simp only [ho] at hs;obtain ⟨y,h1,h2⟩:=T.B4 hs;simp only [T.all,Ay] at h2;refine other _ h2.1.symm h2.2.symm λj hj=>?_
    obtain ⟨q,q1,q2⟩:=aeg h1 j hj;obtain ⟨q0,_,rfl⟩:=F4.1 q1;exact afb q2
   ·cases hst
  ·split at hs
   ·rename_i hap
    obtain ⟨d,k,es,off,n,e0,q0,t,tx,_,hl,_,_,ho⟩:=aDy (P:=P) (Γ:=Γ) hap;rcases ho with ho|ho
    ·obtain ⟨f,f1,_,hf⟩:=ae4 (P:=P) (t:=t) (tx:=tx) (k:=k) (es:=es) (off:=off) (n:=n) (e0:=e0) (q0:=q0)
     rw [ho,hf] at hs;split at hs
     ·rename_i p m n' e nb he
      obtain ⟨_,hs⟩:=hs;simp only [Ay] at hs;obtain ⟨rfl,hH⟩:=hs
      have hnb:=f1 _ _ _ _ _ _ he
      refine ⟨λi'=>(done i'\/i'=i)\/i'=M g.H-n0,λj hj=>?_,λk' b hb j hj=>?_,λi' hi'=>?_⟩
      ·rw [eF] at hj
       rcases pt hj with h|h
       ·rcases up j (hI.f j h) with h|⟨i',h1,h2⟩
        ·exact .inl h
        ·exact yS
       ·simp only [owns,HJ] at h
        grind
      ·rw [eH,<-hH] at hb
       by_cases hk:k'<M g.H
       ·rw [Hl (by rw [C5];exact hk),IT] at hb
        split at hb
        ·split at hb
         ·simp only [Ah] at hb
          subst hb
          simp [AB.owns,ownsL] at hj
         ·cases hb
        ·rcases up j (hI.h k' b hb j hj) with h|⟨i',h1,h2⟩
         ·exact .inl h
         ·exact yS
       ·rw [Gc (by rw [C5];omega)] at hb
        have:b=nb:=by
         cases hq:k'-M (g.H.set k ⟨[],e,.dead,X⟩) with
         |zero=>rw [hq] at hb;simpa using hb.symm
         |succ z=>rw [hq] at hb;simp at hb
        subst this;rw [hnb] at hj;cases hj
      ·obtain ⟨h1,b,h2⟩:=hI.dead i' (QG hi')
       have hlt:=(EF.1 h2).1
       refine ⟨λh=>h.elim (λh=>h.elim h1<|hnd i' hi') λh=>A0,?_⟩
       rw [eH,<-hH]
       grind
     ·exact hs.elim
    ·rw [ho] at hs
     cases hs
   ·cases hs
def aFp (hΓ:∀g S,Γ g=ai S->Valid P G g S) {ops:aK}{tr:aI}{D:aP->Prop}{sp:aD->aN}{Q:bf->Gh->Prop}{F':aE}{H':aH}(hgh:∀p,p∈Z0.gh->okV (M H) p.1)
  (hQ:∀g:Gh,g.F=F'->g.H=H'->Q g.a g):∀(n:aD) (R:aI) (listed:aX) (g:Gh) (done:aD->Prop),P7 R=U->SL (M H) done R g->(∀i∈R,sp i=U)->cU ops n R listed=U->
   (G6 P G Γ ops tr (M H) R g.F g.H).all (λq=>q=(F',H'))->Kj P .any ops D (Ck ds G w0 Z0 tr β H wr) sp Q n listed g.a g
 |0,R,listed,g,_,_,_,_,hB,h=>by
  simp only [cU,AV,Zl] at hB;obtain ⟨rfl,h2⟩:=hB;simp only [G6,T.all,Ay] at h;exact ⟨h2,hQ g h.1 h.2⟩
 | n + 1,R,listed,g,done,hnd,hI,hs,hB,h=>by
  simp only [cU,AV,BH,D6,mI] at hB;obtain ⟨hne,hall⟩:=hB;refine ⟨λh0=>absurd h0 hne,λi hi=>?_⟩
  obtain ⟨⟨hR,hbef⟩,hrest⟩:=hall i hi
  have hiR:i∈R:=A8
  have hf:=aFJ R g.F g.H hiR A8 h
  simp only [G6] at hf;split at hf
  ·rename_i o ho
   split at hf
   ·rename_i hgs
    simp only [AV,Zm] at hgs;obtain ⟨hgd,hst⟩:=hgs
    have hw:aA o (yielded ops g.a.tmps)=true:=yu
    unfold E7;simp only [ho,hw,Bo,hs i hiR];obtain ⟨⟨lv,H1⟩,h1,h2⟩:=T.B4 hf
    have hne2:∀i'∈R.erase i,i'≠i:=adu hnd
    intro w' hc
    have goal:Dj P (λv w''=>∃g':Gh,Ck ds G w0 Z0 tr β H wr g' w''/\g'.F=At g.F o.dst lv/\g'.H=H1/\g'.a=g.a.put o.dst v) ((execOp g.a.eval o).run P w'):=by
     unfold IB at h1;split at h1
     ·exact ai4 hΓ hgh hI hiR hst h1 hc
     ·split at h1
      ·exact dy hΓ hst h1 hc
      ·split at h1
       ·exact dy hΓ hst h1 hc
       ·cases h1
    refine KS (λv w'' ⟨g',e1,e2,e3,e4⟩=>⟨g',e1,?_⟩) goal
    rw [<-e4];obtain ⟨done',hI'⟩:=apy hI hne2 h1 e2 e3;refine aFp hΓ hgh hQ n (R.erase i) _ g' done' (aEO hnd) hI' (λj hj=>hs j<|QG hj) hrest ?_
    rwa [e2,e3]
   ·cases hf
  ·cases hf
def RW.abq {βd:aD->aVs}{m:aD}(hW:RW G w0 Z0 Z β H w) (hd:∀k,k<M H->βd k=β k):RW G w0 Z0 Z βd (H++au m GL) w:=by
 have old:∀(k:aD) (b:AB),(H++au m GL)[k]? =ai b->(k<M H/\H[k]? =ai b)\/b=GL:=λk b hb=>by
  by_cases h0:k<M H
  ·grind
  ·rw [Gc A0,V9] at hb
   split at hb
   ·grind
   ·cases hb
 have nl:∀k,¬live βd k GL:=λk h=>by simp [live,GL] at h
 refine ⟨hW.below,hW.Bc,hW.Ep,λk b hk hl hp=>?_,λk b hk hl hp=>?_,λk b hk hl=>?_,λi j bi bj hi hj li lj pi e=>?_,λk b hk=>?_,hW.Ci,λp hp=>⟨R.mono hd (λ_ h=>h) (λ_ _=>rfl) _ _ (hW.gh p hp).2 (hW.gh p hp).1,okV.mono AI _ (hW.gh p hp).2⟩,hW.Cr⟩
 ·rcases old k b hk with ⟨h1,h2⟩ |rfl
  ·rw [hd k h1];rw [Ka<|hd k h1] at hl;exact hW.Cp k b h2 hl hp
  ·grind
 ·rcases old k b hk with ⟨h1,h2⟩ |rfl
  ·rw [hd k h1];rw [Ka<|hd k h1] at hl;exact hW.GR k b h2 hl hp
  ·grind
 ·rcases old k b hk with ⟨h1,h2⟩ |rfl
  ·rw [hd k h1];rw [Ka<|hd k h1] at hl;exact hW.low k b h2 hl
  ·grind
 ·rcases old i bi hi with ⟨h1,h2⟩ |rfl
  ·rcases old j bj hj with ⟨g1,g2⟩ |rfl
   ·rw [Ka<|hd i h1] at li;rw [Ka<|hd j g1] at lj;rw [hd i h1,hd j g1] at e
    exact hW.inj i j bi bj h2 g2 li lj pi e
   ·grind
  ·grind
 ·rcases old k b hk with ⟨h1,h2⟩ |rfl
  ·obtain ⟨g1,g2⟩:=hW.blk k b h2
   exact ⟨g1.keep hd (λ_ h=>h) (λ_ _=>rfl) (hd k h1) (λ_=>rfl) g2,g2.mono AI⟩
  ·exact ⟨by simp [Bb,GL],an,an⟩
def aHJ (hΓ:∀g S,Γ g=ai S->Valid P G g S) {ops:aK} {Q:aVB->bf->aP->Prop} {F':aE} {H':aH} (hQ:∀Z' β' a' w',RW G w0 Z0 Z' β' H' w'->RF ds β' Z' w' (M H') F' a'->Q .normal a' w')
  (hW0:RW G w0 Z0 Z β H w) (hF0:RF ds β Z w (M H) F a) (h:(jm P G Γ ops F H).all λq=>q=(F',H')) (r:bn) (m:aD):P.follows .mixedOrders=U/\wpAnyIn (Df r) m P .any ops Q ops.size (Array.replicate ops.size X) a {w with drawn:=w.drawn+1}:=by
 unfold jm at h;simp only at h;split at h
 ·rename_i hc
  simp only [AV] at hc;obtain ⟨⟨hcalm,hmix⟩,htr0⟩:=hc;generalize hfl:fD _ [] ops.toList=flags at h hcalm;generalize htrd:tracked H ops.toList F=tr at h htr0
  have htr:∀k∈tr,k<M H:=λk hk=>yf
  obtain ⟨⟨F1,H1⟩,h1,h2⟩:=T.B4 h
  have hk:=W9 (P:=P) (G:=G) (Γ:=Γ) (H:=H) (tr:=tr) (Hm:=El tr 0 H) (F0:=F) flags ops.toList F (λ_ h=>h) ⟨rfl,λ_ _=>rfl⟩
  obtain ⟨⟨F2,H2⟩,g1,g2,g3⟩:=Om hk h1
  have hH2:H2=H:=(T.Qx hk g1).2.2
  subst hH2
  have hbd:Below w.heap.size w {w with drawn:=w.drawn+1}:=⟨rfl,rfl,rfl,Ar _,λ_ _=>rfl⟩
  have hW:=hW0.same hbd
  have hF:RF ds β Z {w with drawn:=w.drawn+1} (M H2) F a:=hF0.mono (Ar _) (λ_ _=>rfl) (λ_ h=>h) λ_ _=>rfl
  have hflen:M flags=M ops.toList:=by
   unfold jr at hcalm;exact yJ
  have hops:ops=ops.toList.toArray:=AI
  have hshp0:Shp tr β H2 {w with drawn:=w.drawn+1}:=λk b _ hb hcl=>by
   exact yD
  refine ⟨hmix,?_⟩;rw [hops]
  refine aeW (P:=P) (G:=Gh) (D:=λw'=>DZ (Dd β H2 tr) {w with drawn:=w.drawn+1} w'/\Below w0.heap.size w0 w'/\Shp tr β H2 w') (C:=λg w'=>Ck ds G w0 Z0 tr β H2 {w with drawn:=w.drawn+1} g w') flags ⟨Z,β,H2,F,a⟩ yv (λg w' hc=>⟨hc.near,hc.rw.below,hc.shape⟩) (λg w1 w2 hc hb=>hc.keep hb)
   ⟨hW,hF,DZ.refl _ _,Ar _,λ_ _=>rfl,λk k1 k2=>absurd k2<|VE.2 k1,EvL.refl _⟩ ?_
  rw [<-hops]
  have hlm:M (El tr 0 H2)=M H2:=Vr tr H2 0
  have hDm:∀w',(DZ (Dd β H2 tr) {w with drawn:=w.drawn+1} w'/\Below w0.heap.size w0 w'/\Shp tr β H2 w')->RW G w0 Z0 Z β (El tr 0 H2) w'/\∀b,(Z b\/∃k bk,(El tr 0 H2)[k]? =ai bk/\live β k bk/\tr.contains k=X/\b=(β k).b)->w'.heap[b]? =({w with drawn:=w.drawn+1}:aP).heap[b]? :=λw' ⟨d1,d2,d3⟩=>by
   exact xe
  refine WQ (H:=H2) (HH:=H2) (F':=F2) hΓ hlm (hW.mask (DZ.refl _ _) hW.below hshp0) hDm (λa1 hF1=>?_) flags ops.toList F a hflen hF g1
  have hF1':=g3 _ _ _ _ _ _ hF1
  refine qR (Q':=λa' w'=>Q .normal a' w') (g1:=⟨Z,β,H2,F1,a1⟩) (λw' hc=>?_) flags ops.toList a1 ?_
  ·exact aMz
  ·exact qK (H:=H2) (F':=F') (H':=H') hΓ (λg e1 e2 w' hc=>hQ g.Z g.β g.a w' bY cB) flags ops.toList ⟨Z,β,H2,F1,a1⟩ hflen ⟨_,hW,hF1',DZ.refl _ _,Ar _,λ_ _=>rfl,λk k1 k2=>absurd k2<|VE.2 k1,EvL.refl _⟩ h2
 ·split at h
  ·rename_i hc
   simp only [AV] at hc;obtain ⟨⟨hcalm,hmix⟩,htr0⟩:=hc
   replace hord:(Wt ops _ ||iQ P ops _)=true:=hcalm
   replace hcalm:=(Se.1 hcalm).elim (λe=>by unfold Wt at e;exact (Bool.and_eq_true_iff.1 e).1) (λe=>by unfold iQ at e;exact (Bool.and_eq_true_iff.1 e).1)
   generalize hfl:fD _ [] ops.toList=flags at h hcalm hord;generalize htrd:tracked H ops.toList F=tr at h htr0
   have htr:∀k∈tr,k<M H:=λk hk=>yf
   obtain ⟨⟨F1,H1⟩,h1,h2⟩:=T.B4 h
   have hk:=W9 (P:=P) (G:=G) (Γ:=Γ) (H:=H) (tr:=tr) (Hm:=El tr 0 H) (F0:=F) flags ops.toList F (λ_ h=>h) ⟨rfl,λ_ _=>rfl⟩
   obtain ⟨⟨F2,H2⟩,g1,g2,g3⟩:=Om hk h1
   have hH2:H2=H:=(T.Qx hk g1).2.2
   subst hH2
   have hbd:Below w.heap.size w {w with drawn:=w.drawn+1}:=⟨rfl,rfl,rfl,Ar _,λ_ _=>rfl⟩
   have hW:=hW0.same hbd
   have hF:RF ds β Z {w with drawn:=w.drawn+1} (M H2) F a:=hF0.mono (Ar _) (λ_ _=>rfl) (λ_ h=>h) λ_ _=>rfl
   have hflen:M flags=M ops.toList:=by
    unfold Td at hcalm;exact yJ
   have hops:ops=ops.toList.toArray:=AI
   have hshp0:Shp tr β H2 {w with drawn:=w.drawn+1}:=λk b _ hb hcl=>by
    exact yD
   refine ⟨hmix,?_⟩;rw [hops]
   refine adw (P:=P) (G:=Gh) (D:=λw'=>DZ (Dd β H2 tr) {w with drawn:=w.drawn+1} w'/\Below w0.heap.size w0 w'/\Shp tr β H2 w') (C:=λg w'=>Ck ds G w0 Z0 tr β H2 {w with drawn:=w.drawn+1} g w') flags ⟨Z,β,H2,F,a⟩ yv (λg w' hc=>⟨hc.near,hc.rw.below,hc.shape⟩) (λg w1 w2 hc hb=>hc.keep hb)
    ⟨hW,hF,DZ.refl _ _,Ar _,λ_ _=>rfl,λk k1 k2=>absurd k2<|VE.2 k1,EvL.refl _⟩ ?_
   rw [<-hops]
   have hlm:M (El tr 0 H2)=M H2:=Vr tr H2 0
   have hDm:∀w',(DZ (Dd β H2 tr) {w with drawn:=w.drawn+1} w'/\Below w0.heap.size w0 w'/\Shp tr β H2 w')->RW G w0 Z0 Z β (El tr 0 H2) w'/\∀b,(Z b\/∃k bk,(El tr 0 H2)[k]? =ai bk/\live β k bk/\tr.contains k=X/\b=(β k).b)->w'.heap[b]? =({w with drawn:=w.drawn+1}:aP).heap[b]? :=λw' ⟨d1,d2,d3⟩=>by
    exact xe
   refine WQ (H:=H2) (HH:=H2) (F':=F2) hΓ hlm (hW.mask (DZ.refl _ _) hW.below hshp0) hDm (λa1 hF1=>?_) flags ops.toList F a hflen hF g1
   have hF1':=g3 _ _ _ _ _ _ hF1
   refine dX (Q':=λa' w'=>Q .normal a' w') (g1:=⟨Z,β,H2,F1,a1⟩) (λw' hc=>?_) _ _ a1 ?_
   ·exact aMz
   ·cases hfx:Wt ops flags with
    | true=>
     rw [AD hfx] at h2
     have hord2:=hfx
     unfold Wt at hord2;simp only [AV,Cc] at hord2
     exact aDe (H:=H2) (F':=F') (H':=H') hΓ (λg e1 e2 w' hc=>hQ g.Z g.β g.a w' bY cB) _ (idxs U flags 0) _ ⟨Z,β,H2,F1,a1⟩ (λi hi=>by
      obtain ⟨_,h⟩:=pj U flags 0 i hi;simp only [Nat.sub_zero] at h
      simp [List.getD,h]) (hord2.2.elim aR6 id) h2
    |false=>
     rw [AE (by rw [hfx];decide)] at h2
     rw [hfx,D5] at hord;unfold iQ at hord;simp only [AV,BH] at hord;exact adp (H:=H2) (F':=F') (H':=H') hΓ (λg e1 e2 w' hc=>hQ g.Z g.β g.a w' bY cB) _ (RC ops<|idxs U flags 0) _ ⟨Z,β,H2,F1,a1⟩ (λi hi=>hord.2.1 i hi) hord.2.2 h2
  ·split at h
   ·rename_i hc
    simp only [AV] at hc;obtain ⟨⟨hcalm,hmix⟩,htr0⟩:=hc;unfold alx at hcalm;simp only [AV] at hcalm;obtain ⟨⟨⟨hcalm,hnd⟩,hlt⟩,hord⟩:=hcalm;generalize hfl:fD _ [] ops.toList=flags at h hcalm hord hnd hlt;generalize htrd:tracked H ops.toList F=tr at h htr0
    have htr:∀k∈tr,k<M H:=λk hk=>yf
    obtain ⟨⟨F1,H1⟩,h1,h2⟩:=T.B4 h
    have hk:=W9 (P:=P) (G:=G) (Γ:=Γ) (H:=H) (tr:=tr) (Hm:=El tr 0 H) (F0:=F) flags ops.toList F (λ_ h=>h) ⟨rfl,λ_ _=>rfl⟩
    obtain ⟨⟨F2,H2⟩,g1,g2,g3⟩:=Om hk h1
    have hH2:H2=H:=(T.Qx hk g1).2.2
    subst hH2
    have hbd:Below w.heap.size w {w with drawn:=w.drawn+1}:=⟨rfl,rfl,rfl,Ar _,λ_ _=>rfl⟩
    have hW:=hW0.same hbd
    have hF:RF ds β Z {w with drawn:=w.drawn+1} (M H2) F a:=hF0.mono (Ar _) (λ_ _=>rfl) (λ_ h=>h) λ_ _=>rfl
    have hflen:M flags=M ops.toList:=by
     unfold Td at hcalm;exact yJ
    have hops:ops=ops.toList.toArray:=AI
    have hshp0:Shp tr β H2 {w with drawn:=w.drawn+1}:=λk b _ hb hcl=>by
     exact yD
    refine ⟨hmix,?_⟩;rw [hops]
    refine adw (P:=P) (G:=Gh) (D:=λw'=>DZ (Dd β H2 tr) {w with drawn:=w.drawn+1} w'/\Below w0.heap.size w0 w'/\Shp tr β H2 w') (C:=λg w'=>Ck ds G w0 Z0 tr β H2 {w with drawn:=w.drawn+1} g w') flags ⟨Z,β,H2,F,a⟩ yv (λg w' hc=>⟨hc.near,hc.rw.below,hc.shape⟩) (λg w1 w2 hc hb=>hc.keep hb)
     ⟨hW,hF,DZ.refl _ _,Ar _,λ_ _=>rfl,λk k1 k2=>absurd k2<|VE.2 k1,EvL.refl _⟩ ?_
    rw [<-hops]
    have hlm:M (El tr 0 H2)=M H2:=Vr tr H2 0
    have hDm:∀w',(DZ (Dd β H2 tr) {w with drawn:=w.drawn+1} w'/\Below w0.heap.size w0 w'/\Shp tr β H2 w')->RW G w0 Z0 Z β (El tr 0 H2) w'/\∀b,(Z b\/∃k bk,(El tr 0 H2)[k]? =ai bk/\live β k bk/\tr.contains k=X/\b=(β k).b)->w'.heap[b]? =({w with drawn:=w.drawn+1}:aP).heap[b]? :=λw' ⟨d1,d2,d3⟩=>by
     exact xe
    refine WQ (H:=H2) (HH:=H2) (F':=F2) hΓ hlm (hW.mask (DZ.refl _ _) hW.below hshp0) hDm (λa1 hF1=>?_) flags ops.toList F a hflen hF g1
    have hF1':=g3 _ _ _ _ _ _ hF1
    have d1:∀k,k<M H2->(λk=>if k<M H2 then β k else ⟨w.heap.size,0,ak⟩:aD->aVs) k=β k:=λk hk=>by simp [hk]
    have d2:∀k,M H2<=k->((λk=>if k<M H2 then β k else ⟨w.heap.size,0,ak⟩:aD->aVs) k).b=w.heap.size:=λk hk=>by simp [VE.2 hk]
    generalize (λk=>if k<M H2 then β k else ⟨w.heap.size,0,ak⟩:aD->aVs)=βd at d1 d2
    refine dX (Q':=λa' w'=>Q .normal a' w') (g1:=⟨Z,βd,H2++au ops.size GL,F1,a1⟩) (λw' hc=>?_) _ _ a1 ?_
    ·refine ⟨hc.rw.abq d1,?_,hc.near,AI,λk hk=>d1 k hk,λk k1 k2=> .inl (by rw [d2 k k1];exact Ar _),EvL.app _ _⟩
     exact hF1'.mono AI d1 (λ_ h=>h) λb hz=>hc.near.block b (hW.Bc b hz)<|hW.pY hz
    ·refine aFp (H:=H2) (F':=F') (H':=H') hΓ (λp hp=>(hW.gh p hp).2) (λg e1 e2 w' hc=>hQ g.Z g.β g.a w' bY cB) _ (idxs U flags 0) _ ⟨Z,βd,H2++au ops.size GL,F1,a1⟩ (λ_=>False) hnd ⟨λj hj=>?_,λk b hb j hj=>?_,λi hi=>⟨λh=>h,?_⟩⟩ (λi hi=>by
      obtain ⟨_,h⟩:=pj U flags 0 i hi;simp only [Nat.sub_zero] at h
      simp [List.getD,h]) hord h2
     ·obtain ⟨x,q1,q2⟩:=eQ hj
      obtain ⟨t',q3⟩:=List.getElem?_of_mem q1;exact .inl<|okV_owns x (hF1'.get t' x q3).2 j q2
     ·by_cases h0:k<M H2
      ·simp only at hb
       rw [Hl h0] at hb;exact .inl<|aGd (hW.blk k b hb).2 j hj
      ·simp only at hb
       rw [Gc A0,V9] at hb;split at hb
       ·simp only [Ah] at hb
        subst hb
        simp [AB.owns,GL,ownsL] at hj
       ·cases hb
     ·have hlt':i<ops.size:=by simpa using BH.1 hlt i hi
      exact ⟨_,Dg DC⟩
   ·cases h
def aEa {α:Type}{f:aD->T α}{n:Y}{p:α->Prop}:∀(m j:aD),(splitN f n m j).all p->(j:Y)<=n->n<(j:Y)+m->∃i:aD,n=(i:Y)/\(f i).all p
 |0,j,_,h1,h2=>A0
 |1,j,h,h1,h2=>⟨j,A0,h⟩
 |m+2,j,h,h1,h2=>by
  simp only [splitN,T.all] at h
  by_cases e:n=(j:Y)
  ·grind
  ·exact aEa (m+1) (j+1) (h.2 A8) A0 A0
def aeO {ops:bw}{s len:aD}{k:aVv}{n:Y}(h:sU P ops F=ai (s,k,n,len)):F.getD s .junk=.v (ah k n):=by
 unfold sU at h;split at h
 ·obtain ⟨o,_,ho⟩:=List.exists_of_findSome?_eq_some h
  split at ho
  ·split at ho
   ·split at ho
    ·rename_i hx
     obtain ⟨rfl,rfl,rfl,rfl⟩:=ho;exact hx
    ·cases ho
   ·cases ho
  ·cases ho
 ·cases h
def aFj (hΓ:∀g S,Γ g=ai S->Valid P G g S) {ops:aK}{Q:aVB->bf->aP->Prop}{F':aE}{H':aH}(hQ:∀Z' β' a' w',RW G w0 Z0 Z' β' H' w'->RF ds β' Z' w' (M H') F' a'->Q .normal a' w')
  (hW0:RW G w0 Z0 Z β H w) (hF0:RF ds β Z w (M H) F a) (h:(Xp P G Γ ops F H).all λq=>q=(F',H')) (r:bn) (m:aD):P.follows .mixedOrders=U/\wpAnyIn (Df r) m P .any ops Q ops.size (Array.replicate ops.size X) a {w with drawn:=w.drawn+1}:=by
 unfold Xp at h;split at h
 ·rename_i s k n len hs
  obtain ⟨⟨h0,h1⟩,h2⟩:=h;obtain ⟨i,hi,h3⟩:=aEa len 0 h2 A0 A0
  have hx:=aeO hs
  obtain ⟨s1,s2⟩:=hF0.slot hx AI
  have hv:=(hF0.get s _ s1).1
  exact aHJ hΓ hQ hW0 (hF0.know (lv:=.ki k i) (by simp only [R];rw [hv,hi]) trivial) h3 r m
 ·exact aHJ hΓ hQ hW0 hF0 h r m
def aej (hΓ:∀g S,Γ g=ai S->Valid P G g S) {id:aD}{ops:aK}{Q:aVB->bf->aP->Prop}{F':aE}{H':aH}(hQ:∀Z' β' a' w',RW G w0 Z0 Z' β' H' w'->RF ds β' Z' w' (M H') F' a'->Q .normal a' w')
  (hW0:RW G w0 Z0 Z β H w) (hF0:RF ds β Z w (M H) F a) (h:(Xp P G Γ ops F H).all λq=>q=(F',H')) (r:bn) (m:aD):(Code.region id ops U).wpIn (Df r) m P Q a w:=
 have h1:=aFj hΓ hQ hW0 hF0 h r m
 wpIn_region_any h1.1 h1.2
def aeF {ops:aK}{o:aU}(h:qM G Γ ops=ai o):∃ys:aK,ops=ys.push o/\ops.pop=ys/\o.guard=ak/\lastB .any ys o=true:=by
 unfold qM at h;split at h
 ·rename_i o' hb
  split at h
  ·split at h
   ·cases h
   ·split at h
    ·rename_i hl
     obtain rfl:=EE h;obtain ⟨ys,rfl⟩:=Array.back?_eq_some_iff.1 hb;rw [Array.pop_push] at hl|-;refine ⟨ys,rfl,rfl,?_,hl⟩;simp only [lastB,AV] at hl
     simp_all
    ·cases h
  ·cases h
 ·cases h
def aEC {K:aVG}(hΓ:∀g S,Γ g=ai S->Valid P G g S) (hK:FR P G K) {id:aD}{ops:aK}{Q:aVB->bf->aP->Prop}{F':aE}{H':aH}(hQ:∀Z' β' a' w',RW G w0 Z0 Z' β' H' w'->RF ds β' Z' w' (M H') F' a'->Q .normal a' w')
  (hW0:RW G w0 Z0 Z β H w) (hF0:RF ds β Z w (M H) F a) (h:(jn P G Γ K ops F H).all λq=>q=(F',H')) (r:bn) (m:aD):(Code.region id ops U).wpIn (Df r) m P Q a w:=by
 unfold jn at h;split at h
 ·rename_i o ho
  obtain ⟨ys,rfl,hp,hg,hl⟩:=aeF ho;rw [hp] at h;obtain ⟨⟨F1,H1⟩,h1,h2⟩:=T.B4 h;obtain ⟨⟨lv,H2⟩,h3,h4⟩:=T.B4 h2;obtain ⟨rfl,rfl⟩:=h4
  have h5:=aFj hΓ (Q:=Xd (Df r) m P (ys.push o) Q ys.size) (λZ' β' a' w' e1 e2=>by
   show wpOpIn (Df r) m P (ys.push o) Q ys.size (Q .normal) a' w'
   unfold wpOpIn
   have hw:aA o (yielded (ys.push o) a'.tmps)=true:=cD
   simp only [Array.getElem?_push_size,hw,Bo];exact W5 (KS (λv w' ⟨Z',β',e1,e2,e3,e4⟩=>hQ Z' β' _ w' e1<|e2.put e3 e4 o.dst)<|aE5 hΓ hK e1 e2 h3) r m) hW0 hF0 h1 r m
  exact aeA h5.1 hl h5.2
 ·exact aej hΓ hQ hW0 hF0 h r m
end Go.Sx
namespace Go.Sx
open Go Go.RowKit Go.Proofs.YtepoohnehmfflaaGreatDoor
variable {P : Program} {G : B5} {Γ : Specs} {K : Hand} {β : Nat -> Loc} {Z : Nat -> Prop} {Z0 : Gz} {w w0 : World} {F : List LV} {H : List AB} {a : Act} {ds : List Deferred}
def apY {ops:aK}{o:aU}{t:Tmp}(h:Operand.tmp t∈o.op.operands):t∈o.looksAt ops:=by
 exact List.mem_append_left _<|Sf.2 ⟨.tmp t,A8,rfl⟩
def pQ {ops:aK}{F F':aE}{o:aU}(h:∀t,t∈o.looksAt ops->F.getD t .junk=F'.getD t .junk) {x:aVq}(hx:x∈o.op.operands):AM G F x=AM G F' x:=by
 cases x with
 |tmp t=>exact h t (apY hx)
 |const _=>rfl
 |global _=>rfl
 |func _=>rfl
def afE {ops:aK}{F F':aE}{o:aU}(hs:∀cs b,o.op≠ .select cs b) (h:∀t,t∈o.looksAt ops->F.getD t .junk=F'.getD t .junk):Dl P G F o=Dl P G F' o:=by
 have e:∀x∈o.op.operands,AM G F x=AM G F' x:=λx hx=>pQ h hx
 unfold Dl
 have e1:o.op.operands.toList.all (λx=>SC<|AM G F x)=o.op.operands.toList.all (λx=>SC<|AM G F' x):=by
  grind
 have e3:o.op.operands.toList.all (λx=>cX<|AM G F x)=o.op.operands.toList.all (λx=>cX<|AM G F' x):=by
  grind
 have e2:OS P o (λx=>(pl<|AM G F x).getD undef)=OS P o (λx=>(pl<|AM G F' x).getD undef):=by
  have c:=mf (ρ:=λx=>(pl<|AM G F x).getD undef) (ρ':=λx=>(pl<|AM G F' x).getD undef) o hs λx hx=>A8
  unfold OS;rw [c]
  have a:R2 P o.op (λx=>(pl<|AM G F x).getD undef)=R2 P o.op (λx=>(pl<|AM G F' x).getD undef):=by
   exact aN7
  rw [a]
 grind
def afy {ops:aK}{F F':aE}{o:aU}(h:∀t,t∈o.looksAt ops->F.getD t .junk=F'.getD t .junk):Hd P G Γ F o=Hd P G Γ F' o:=by
 have e:=λx hx=>pQ (G:=G) h (x:=x) hx
 unfold Hd;split
 ·rename_i t len parts ho
  have em:(parts.toList.map λq=>(q.1,AM G F q.2))=parts.toList.map λq=>(q.1,AM G F' q.2):=Jo λq hq=>by
   rw [e q.2 yb]
  rw [em]
 ·rename_i f args ty ho
  have e1:=e f aOG
  have e2:(args.toList.map λx=>norm<|AM G F x)=args.toList.map λx=>norm (AM G F' x):=Jo λx hx=>by
   rw [e x bP]
  rw [e1,e2]
 ·rfl
def aE9 {ops:aK}{F F':aE}{o:aU}(h:∀t,t∈o.looksAt ops->F.getD t .junk=F'.getD t .junk):hwx P G Γ F H o=hwx P G Γ F' H o:=by
 have e:=λx hx=>pQ (G:=G) h (x:=x) hx
 unfold hwx;cases ho:o.op<;>simp only
 case binOp op t x y u=>cases op<;>simp only<;>exact afE (ops:=ops) (λcs b q=>A8) h
 case call c=>exact afy (ops:=ops) h
 all_goals rw [e _ F6]
def afd {o:aU}{g:bh}{l:aE}(h:callOf G [] o=ai (g,l)):∃f args ty,o.op=.call {callee:=.value f,args,argTypes:=ty}/\∀F:aE,AM G F f=AM G [] f:=by
 obtain ⟨f,args,ty,ho,hf⟩:=aE1 h;refine ⟨f,args,ty,ho,λF=>?_⟩
 cases f with
 |tmp t=>
  have:AM G [] (.tmp t)=.junk:=by simp [AM]
  rcases hf with ⟨_,hf,_⟩ |⟨_,hf,_⟩ |⟨hf,_⟩<;>rw [this] at hf<;>cases hf
 |const _=>rfl
 |global _=>rfl
 |func _=>rfl
def aFK {ops:aK}{F F':aE}{o:aU}{g:bh}{l:aE}(hc:callOf G [] o=ai (g,l)) (hg:Γ g=ak) (h:∀t,t∈o.looksAt ops->F.getD t .junk=F'.getD t .junk):KF P G Γ K F H o=KF P G Γ K F' H o:=by
 obtain ⟨f,args,ty,ho,hf⟩:=afd hc
 have ha:args.toList.map (λx=>norm<|AM G F x)=args.toList.map (λx=>norm<|AM G F' x):=Jo λx hx=>by
  rw [pQ (G:=G) h (by rw [ho];simp [Op.operands,Call.operands];exact .inr A8)]
 have hcall:callOf G F o=callOf G F' o:=by
  unfold callOf
  grind
 have h2:∃l2,callOf G F' o=ai (g,l2):=by
  unfold callOf at hc|-;simp only [ho] at hc|-;split at hc
  ·grind
  ·grind
  ·grind
  ·cases hc
 unfold KF
 grind
def T.sM {t:T LV}{lv:LV}{H:aH}(h:t.all λy=>y=lv):(t.bind λy=>(T.ok (y,H):T<|LV×List AB)).all (λq=>q=(lv,H)):=by
 rw [T.all_bind];exact T.BR (λx hx=>by rw [hx];exact rfl) h
def apS {o:aU}{lv:LV}(h:(Hd P G Γ F o).all λz=>z=lv):(Ax P G Γ F H o).all (λq=>q=(lv,H)):=by
 refine tI ?_ h;unfold Hd at h;unfold HP;split at h
 ·rfl
 ·rfl
 ·cases h
def atO {o:aU}{lv:LV}(h:(hwx P G Γ F H o).all λy=>y=lv):(Ax P G Γ F H o).all (λq=>q=(lv,H)):=by
 by_cases hcl:∃c,o.op=.call c
 ·obtain ⟨c,ho⟩:=hcl
  unfold hwx at h;simp only [ho] at h;exact apS h
 unfold hwx at h;unfold Ax;cases ho:o.op<;>simp only [ho] at h|-
 case call c=>exact absurd ⟨c,ho⟩ hcl
 case move x=>simp only [T.all] at h|-;rw [h]
 case assign x=>simp only [T.all] at h|-;rw [h]
 case load t x=>exact T.sM h
 case fieldAddr s x i=>exact T.sM h
 case nilCheck x=>
  generalize AM G F x=v at h|-;cases v<;>simp only [T.all] at h|-<;>first|rw [h] |cases h
 case binOp op t x y u=>cases op<;>simp only at h|-<;>first|exact T.sM h|cases h
 all_goals cases h
def aEB {F:aE}{d t:aD}{y:LV}(hd:d<M F):(F.set d y).getD t .junk=if t=d then y else F.getD t .junk:=by
 by_cases e:t=d
 ·grind
 ·grind
def rZ {ops:aK}:∀(is:aI) (F F1:aE),is.Pairwise (λi j=>∀d,G1 ops j=ai d->d∉NV ops i/\G1 ops i≠ai d)->(∀i∈is,∃d,G1 ops i=ai d/\d<M F/\d∉NV ops i)->
  (goW P G Γ ops H is F).all (λz=>z=F1)->M F1=M F/\(∀t,(∀i∈is,G1 ops i≠ai t)->F1.getD t .junk=F.getD t .junk)/\∀i∈is,∀o d,ops[i]? =ai o->o.dst=ai d->(hwx P G Γ F1 H o).all (λy=>y=F1.getD d .junk)
 | [],F,F1,_,_,h=>by
  subst h
  grind
 | i ::is,F,F1,hp,hd,h=>by
  simp only [goW] at h;split at h
  ·rename_i o ho
   obtain ⟨y,h1,h2⟩:=T.B4 h;obtain ⟨d,e1,e2,e3⟩:=hd i AI
   have hod:o.dst=ai d:=by simpa [G1,ho] using e1
   obtain ⟨p1,p2⟩:=mG.1 hp
   have hset:At F o.dst y=F.set d y:=by rw [hod];rfl
   rw [hset] at h2;obtain ⟨g1,g2,g3⟩:=rZ is (F.set d y) F1 p2 (λj hj=>A8) h2
   have hFd:F1.getD d .junk=y:=by
    grind
   refine ⟨A8,λt ht=>?_,λj hj o' d' ho' hd'=>?_⟩
   ·rw [g2 t λj hj=>ht j A8,aEB e2,AE]
    grind
   ·rcases B9.1 hj with rfl|hj
    ·obtain rfl:=EE (ho.symm.trans ho')
     obtain rfl:=EE<|hod.symm.trans hd';rw [hFd,aE9 (ops:=ops) (F':=F) λt ht=>?_]
     ·exact h1
     ·have hl:t∈NV ops j:=nf
      grind
    ·grind
  ·cases h
def aE0 {ops:aK}{F1:aE}:∀(is:aI),(cb P G Γ ops H F1 is).all (λ_=>True)->∀i∈is,∀o d t x,ops[i]? =ai o->o.dst=ai d->o.op=.load t x->(hwx P G Γ F1 H o).all (λy=>y=F1.getD d .junk)
 | [],_,i,hi=>oA
 | j ::is,h,i,hi=>λo d t x ho hd hop=>by
  simp only [cb] at h;split at h
  ·rename_i o' ho'
   split at h
   ·rename_i hop'
    rw [T.all_bind] at h;rcases B9.1 hi with rfl|hi
    ·obtain rfl:=EE (ho'.symm.trans ho)
     refine T.BR (λy hy=>?_) h
     simp only [T.all,hd] at hy;exact hy.1
    ·obtain ⟨y,hy,_⟩:=T.pick h
     exact aE0 is hy.2 i hi o d t x ho hd hop
   ·rename_i hop'
    rcases B9.1 hi with rfl|hi
    ·obtain rfl:=EE (ho'.symm.trans ho)
     grind
    ·exact aE0 is h i hi o d t x ho hd hop
  ·cases h
def ael (n:aD) (p q:aD->aN) (hp:∃k,k<n/\p k=U/\∀j,j<n->p j=U->j=k):n=(M ((av n).filter λi=>!p i&&!q i)+1)+M ((av n).filter λi=>!p i&&q i):=by
 obtain ⟨k,hk,hpk,hu⟩:=hp
 have h1:∀m,m<=n->m=M ((av m).filter λi=>!p i&&!q i)+(if k<m then 1 else 0)+M ((av m).filter λi=>!p i&&q i):=λm=>by
  induction m with
  |zero=>intro _;simp
  | succ m ih=>
   intro hm;rw [SZ,Zk,Zk,B8,B8]
   by_cases e:m=k
   ·subst e
    grind
   ·have hpm:p m=false:=by
     cases hb:p m with
     |false=>rfl
     |true=>exact absurd (hu m A0 hb) e
    by_cases hlt:k<m
    ·have h2:k<m+1:=A0
     grind
    ·have h2:¬k<m+1:=A0
     grind
 have:=h1 n<|Ar _
 rw [AD hk] at this;omega
def Jm (ops:aK) (AW:aI) (F F2:aE) (l:aX):aE:=
 (av<|M F).map λt=>if AW.any (λi=>l.getD i X&&G1 ops i==ai t) then F2.getD t .junk else F.getD t .junk
def Vy {ops:aK}{AW:aI}{F F2:aE}{l:aX}:M (Jm ops AW F F2 l)=M F:=by simp [Jm]
def fC {ops:aK}{AW:aI}{F F2:aE}{l:aX}{t:aD}(h:t<M F):(Jm ops AW F F2 l).getD t .junk=if AW.any (λi=>l.getD i X&&G1 ops i==ai t) then F2.getD t .junk else F.getD t .junk:=by
 simp [Jm,List.getD,h]
def rS {A B:aE}(hl:M A=M B) (h:∀t,t<M A->A.getD t .junk=B.getD t .junk):A=B:=by
 apply Ze hl
 grind
def aK3 {A:aE}{t:aD}(h:M A<=t):A.getD t .junk=.junk:=A8
def aDf {ops:aK}{l:aX}{i j:aD}(hc:Closed .any ops l) (hr:i∈az .any ops l) (hj:j∈Gu ops i):l.getD j X=true:=by
 obtain ⟨_,o,ho,h2⟩:=Ez.1 hr;refine hc.back ops.size (OQ ops i) (λk hk=>?_) j hj
 unfold OQ at hk
 grind
def aeZ {ops:aK}{l:aX}{i j:aD}(hc:Closed .any ops l) (hi:l.getD i X=U) (hlt:i<ops.size) (hj:j∈Gu ops i):l.getD j X=true:=by
 refine hc.back ops.size (OQ ops i) (λk hk=>?_) j hj
 unfold OQ at hk;rw [QJ hlt] at hk;obtain ⟨e,h3,rfl⟩:=F4.1 hk;obtain ⟨h4,h5⟩:=Ce.1 h3;exact hc i _ (QJ hlt) hi e A8 h5
def aeQ {α:Type}(l:List α) (p q:α->aN):M (l.filter p)=M (l.filter λi=>p i&&q i)+M (l.filter λi=>p i&&!q i):=by
 induction l with
 |nil=>rfl
 |cons x l ih=>
  grind
def aoi (hΓ:∀g S,Γ g=ai S->Valid P G g S) (hK:FR P G K) {ops:aK} {wi:aD} {Q:aVB->bf->aP->Prop} {F':aE} {H':aH} (hQ:∀Z' β' a' w',RW G w0 Z0 Z' β' H' w'->RF ds β' Z' w' (M H') F' a'->Q .normal a' w')
  (hwi:aPl G Γ ops=ai wi) (hW0:RW G w0 Z0 Z β H w) (hF0:RF ds β Z w (M H) F a) (h:(aBt P G Γ K ops wi F H).all λq=>q=(F',H')) (r:bn) (m:aD):P.follows .mixedOrders=U/\wpAnyIn (Df r) m P .any ops Q ops.size (Array.replicate ops.size X) a {w with drawn:=w.drawn+1}:=by
 unfold aBt at h;split at h
 case isFalse=>cases h
 rename_i hc;simp only [AV,Cc] at hc;obtain ⟨⟨⟨hok,hmix⟩,hbl⟩,hord⟩:=hc
 have hbl:M (JQ ops wi)=M (K0 ops wi):=by simpa using hbl
 have hord:Ly ops (M<|JQ ops wi) (JQ ops wi) (Kb ops wi)=true:=hord.elim aR6 id
 refine ⟨hmix,?_⟩;split at h
 case h_2=>cases h
 rename_i ow how;obtain ⟨F1,h1,h⟩:=T.B4 h;obtain ⟨⟨lvW,H1⟩,h2,h⟩:=T.B4 h;obtain ⟨_,h3,h⟩:=T.B4 h;obtain ⟨F3,h5,h4⟩:=T.B4 h;simp only at h3 h4 h5
 obtain ⟨gW,lW,hcW,hgW⟩:∃g l,callOf G [] ow=ai (g,l)/\Γ g=none:=by
  have:=List.find?_some hwi
  simp only [how] at this;split at this
  ·rename_i g l e;exact ⟨g,l,e,by simpa using this⟩
  ·cases this
 have hwlt:wi<ops.size:=(Ho.1 how).1
 generalize hA:Py ops wi=A at*
 have hAm:∀i,i∈A↔i<ops.size/\i≠wi/\wi∉Gu ops i:=λi=>by
  rw [<-hA];unfold Py;simp
 generalize hC:R4 ops wi=C at*
 have hCm:∀i,i∈C↔i<ops.size/\i≠wi/\wi∈Gu ops i/\allA ops wi i=false:=λi=>by
  rw [<-hC];unfold R4;simp
 have hPW:jj ops wi=A++([wi]++C):=by unfold jj;rw [hA,hC]
 unfold okW at hok;rw [hPW,hA,hC] at hok;generalize hAWd:A++([wi]++C)=AW at*;simp only [AV,BH] at hok;obtain ⟨hAW,hB,hNL⟩:=hok
 have hAWm:∀i,i∈AW↔i∈A\/i=wi\/i∈C:=λi=>by rw [<-hAWd];simp
 have cNL:∀i,(i∈A\/i=wi)->∀j,(j=wi\/j∈C)->∀d,G1 ops j=ai d->d∉NV ops i:=λi hi j hj d hd hm=>by
  have:=hNL i (by simpa using hi) j zM
  unfold aSd at this;simp only [hd] at this
  simp [hm] at this
 have cDst:∀i∈AW,∃o d,ops[i]? =ai o/\o.guard=ak/\o.dst=ai d/\G1 ops i=ai d/\d<M F:=λi hi=>by
  obtain ⟨⟨⟨g1,g2⟩,_⟩,_⟩:=hAW i hi;cases ho:ops[i]? with
  |none=>simp [ho] at g1
  | some o=>
   simp only [ho,Zm] at g1;cases hd:G1 ops i with
   |none=>simp [hd] at g2
   |some d=>
    simp only [hd,Aa] at g2;exact ⟨o,d,rfl,g1,by simpa [G1,ho] using hd,rfl,g2⟩
 have cOns:∀i∈AW,∀p∈OQ ops i,p<i/\p∈AW:=λi hi p hp=>by
  obtain ⟨⟨_,g3⟩,_⟩:=hAW i hi
  simpa using g3 p hp
 have cLay:∀i∈AW,∀j∈AW,∀d,G1 ops j=ai d->(i=j\/G1 ops i≠ai d)/\(d∈NV ops i->i≠j/\j<i/\j∈Gu ops i):=λi hi j hj d hd=>by
  obtain ⟨_,g4⟩:=hAW i hi
  have:=g4 j hj
  unfold acB at this;simp only [hd,AV,Cc,D6,CV,Cy,Aa,ne_eq,Zp] at this;refine ⟨this.1,λhm=>?_⟩
  rcases this.2 with g|g
  ·exact absurd hm<|by simpa using g
  ·exact ⟨g.1.1,g.1.2,by simpa using g.2⟩
 have hwA:wi∈AW:=(hAWm wi).2<|.inr<|.inl rfl
 have hAA:∀i∈A,i∈AW:=λi hi=>(hAWm i).2<|.inl hi
 have hCA:∀i∈C,i∈AW:=λi hi=>(hAWm i).2<|.inr<|.inr hi
 obtain ⟨_,dw,how',hgw,hdw,hdwI,hdwlt⟩:=cDst wi hwA;obtain rfl:=EE<|how.symm.trans how'
 have hAnd:A.Pairwise (λi j=>i<j):=by
  rw [<-hA];unfold Py;exact (List.pairwise_lt_range).filter _
 obtain ⟨k1,k2,k3⟩:=rZ A F F1 (hAnd.imp_of_mem λ{i j} hi hj hlt d hd=>by
   obtain ⟨q1,q2⟩:=cLay i (hAA i hi) j (hAA j hj) d hd;exact ⟨λhm=>aPD,q1.resolve_left A0⟩) (λi hi=>by
   obtain ⟨o,d,_,_,_,e1,e2⟩:=cDst i<|hAA i hi;exact ⟨d,e1,e2,λhm=>((cLay i (hAA i hi) i (hAA i hi) d e1).2 hm).1 rfl⟩) h1
 have hset:At F1 ow.dst lvW=F1.set dw lvW:=by rw [hdw];rfl
 rw [hset] at h5;generalize hF2:F1.set dw lvW=F2 at h5
 have hF2g:∀t,F2.getD t .junk=if t=dw then lvW else F1.getD t .junk:=λt=>by rw [<-hF2,aEB (F:=F1) (d:=dw) (by rw [k1];exact hdwlt)]
 have hF2l:M F2=M F:=by rw [<-hF2];simp [k1]
 have hCnd:C.Pairwise (λi j=>i<j):=by
  rw [<-hC];unfold R4;exact (List.pairwise_lt_range).filter _
 obtain ⟨c1,c2,c3⟩:=rZ C F2 F3 (hCnd.imp_of_mem λ{i j} hi hj hlt d hd=>by
   obtain ⟨q1,q2⟩:=cLay i (hCA i hi) j (hCA j hj) d hd;exact ⟨λhm=>aPD,q1.resolve_left A0⟩) (λi hi=>by
   obtain ⟨o,d,_,_,_,e1,e2⟩:=cDst i<|hCA i hi;exact ⟨d,e1,by rw [hF2l];exact e2,λhm=>((cLay i (hCA i hi) i (hCA i hi) d e1).2 hm).1 rfl⟩) h5
 have hF3l:M F3=M F:=c1.trans hF2l
 have hAC:∀i,i∈A->i∉C:=λi h1 h2=>((hAm i).1 h1).2.2 ((hCm i).1 h2).2.2.1
 have hF3A:∀t,(∀j,(j=wi\/j∈C)->G1 ops j≠ai t)->F3.getD t .junk=F1.getD t .junk:=λt ht=>by
  rw [c2 t λj hj=>ht j<|.inr hj,hF2g,AE]
  intro e;subst e;exact ht wi (.inl rfl) hdwI
 have hF3w:F3.getD dw .junk=lvW:=by
  rw [c2 dw (λj hj e=>by
   rcases (cLay j (hCA j hj) wi hwA _ hdwI).1 with q|q
   ·exact ((hCm j).1 hj).2.1 q
   ·exact q e),hF2g,AD rfl]
 let Inv:aX->bf->aP->Prop:=λl a w'=>∃Z β,RW G w0 Z0 Z β (if l.getD wi X then H1 else H) w'/\RF ds β Z w' (M (if l.getD wi X then H1 else H)) (Jm ops AW F F3 l) a
 have agree:∀(l:aX),Closed .any ops l->∀i∈AW,i∈az .any ops l->∀t,t∈NV ops i->(Jm ops AW F F3 l).getD t .junk=F3.getD t .junk:=λl hcl i hi hr t ht=>by
  by_cases hlt:t<M F
  ·rw [fC hlt]
   by_cases hex:∃j,j∈AW/\G1 ops j=ai t
   ·obtain ⟨j,hj,hd⟩:=hex
    have hb:=(cLay i hi j hj t hd).2 ht
    have hl:=aDf hcl hr hb.2.2
    rw [AD<|Ob.2 ⟨j,hj,by simp [hl,hd]⟩]
   ·rw [AE,hF3A t λj hj e=>hex ⟨j,(hAWm j).2<|.inr hj,e⟩,k2 t λj hj e=>hex ⟨j,hAA j hj,e⟩]
    intro hany;obtain ⟨j,hj,e⟩:=Ob.1 hany;simp only [AV,Cy] at e;exact hex ⟨j,hj,e.2⟩
  ·rw [aK3 (A:=Jm ops AW F F3 l) (t:=t) (by rw [Vy];exact Nat.le_of_not_lt hlt),aK3 (A:=F3) (t:=t) (by rw [hF3l];exact Nat.le_of_not_lt hlt)]
 have agreeA:∀i,(i∈A\/i=wi)->∀t,t∈NV ops i->F3.getD t .junk=F1.getD t .junk:=λi hi t ht=>hF3A t λj hj e=>cNL i hi j hj t e ht
 have next:∀(l:aX),l.size=ops.size->∀i∈AW,∀d,G1 ops i=ai d->d<M F->(Jm ops AW F F3 l).set d (F3.getD d .junk)=Jm ops AW F F3 (l.setIfInBounds i U):=λl hls i hi d hd hdl=>by
  have hilt:i<ops.size:=by
   obtain ⟨o,_,ho,_⟩:=cDst i hi;exact (Ho.1 ho).1
  refine rS (by simp [Vy]) λt ht=>?_
  have ht':t<M F:=yq
  rw [aEB (F:=Jm ops AW F F3 l) (d:=d) (by rw [Vy];exact hdl),fC (l:=l.setIfInBounds i U) ht']
  by_cases e:t=d
  ·subst e
   rw [AD rfl,AD<|Ob.2 ⟨i,hi,by simp [hd,hls,hilt]⟩]
  ·rw [AE e,fC ht']
   congr 1
   refine B0 (λb=>b=U) ?_
   rw [Iw,Ob,Ob];refine exists_congr λj=>and_congr_right λhj=>?_
   by_cases hji:i=j
   ·subst hji;simp [hd,Oc e]
   ·rw [Zs X hji]
 have hH1:∀l:aX,l.size=ops.size->(l.setIfInBounds wi U).getD wi X=true:=λl hl=>by simp [hl,hwlt]
 have step:∀(l:aX) (a':bf) (w':aP),l.size=ops.size->Closed .any ops l->Inv l a' w'->∀i∈AW,i∈az .any ops l->wpOpIn (Df r) m P ops Q i (λa2 w2=>Inv (l.setIfInBounds i U) a2 w2) a' w':=λl a' w' hls hcl hI i hi hr=>by
  obtain ⟨Z1,β1,i1,i2⟩:=hI;obtain ⟨o,d,ho,hg,hd,hdI,hdl⟩:=cDst i hi;unfold wpOpIn
  have hw:aA o (yielded ops a'.tmps)=true:=cD
  simp only [ho,hw,Bo]
  have hlk:∀t,t∈o.looksAt ops->(Jm ops AW F F3 l).getD t .junk=F3.getD t .junk:=λt ht=>agree l hcl i hi hr t nf
  have hnl:l.getD i X=false:=by
   have:=(Ez.1 hr).1
   rwa [fg aOc] at this
  have fin:i≠wi->(hwx P G Γ F3 (if l.getD wi X then H1 else H) o).all (λy=>y=F3.getD d .junk)->o.wpIn (Df r) m P a' w' (λa2 w2=>Inv (l.setIfInBounds i U) a2 w2) Q:=λhne hv=>by
   have hv2:=atO (by rw [aE9 (ops:=ops) hlk];exact hv)
   have hsame:(l.setIfInBounds i U).getD wi X=l.getD wi false:=Zs X hne
   refine W5 (KS (λv w2 ⟨Z',β',e1,e2,e3,e4,_⟩=>⟨Z',β',?_,?_⟩)<|dp hΓ i1 i2 hv2) r m
   ·rw [hsame];exact e1
   ·rw [hsame,<-next l hls i hi d hdI hdl]
    have:=e2.put e3 e4 o.dst
    rw [hd] at this|-;exact this
  rcases (hAWm i).1 hi with hiA|rfl|hiC
  ·have hne:i≠wi:=((hAm i).1 hiA).2.1
   refine fin hne ?_
   have hF3d:F3.getD d .junk=F1.getD d .junk:=hF3A d (λj hj e=>by
    rcases (cLay i hi j ((hAWm j).2<|.inr hj) _ e).1 with q|q
    ·rcases hj with rfl|hj
     ·exact hne q
     ·subst q;exact hAC i hiA hj
    ·exact q hdI)
   have hag:∀t,t∈o.looksAt ops->F3.getD t .junk=F1.getD t .junk:=λt ht=>agreeA i (.inl hiA) t nf
   rw [hF3d,aE9 (ops:=ops) hag]
   by_cases hl:l.getD wi X=U
   ·rw [AD hl]
    cases hop:o.op with
    | load t x=>
     refine aE0 _ (T.BR (λ_ _=>trivial) h3) i ?_ o d t x ho hd hop
     rw [Ce];refine ⟨hiA,?_⟩;rw [D6];cases hct:(Gu ops wi).contains i with
     |false=>rfl
     |true=>
      have:=aeZ hcl hl hwlt<|by simpa using hct
      rw [hnl] at this;cases this
    |_=>
     have:=k3 i hiA o d ho hd
     unfold hwx at this|-;simp only [hop] at this|-;exact this
   ·rw [AE hl];exact k3 i hiA o d ho hd
  ·obtain rfl:=EE (how.symm.trans ho)
   obtain rfl:=EE<|hdwI.symm.trans hdI;simp only [hnl,Hs,FN] at i1 i2
   have hag:∀t,t∈ow.looksAt ops->F3.getD t .junk=F1.getD t .junk:=λt ht=>agreeA i (.inr rfl) t nf
   have hv:(KF P G Γ K (Jm ops AW F F3 l) H ow).all (λq=>q=(lvW,H1)):=by
    rw [aFK (ops:=ops) hcW hgW hlk,aFK (ops:=ops) hcW hgW hag];exact h2
   refine W5 (KS (λv w2 ⟨Z',β',e1,e2,e3,e4⟩=>⟨Z',β',?_,?_⟩)<|aE5 hΓ hK i1 i2 hv) r m
   ·rw [AD<|hH1 l hls];exact e1
   ·rw [AD<|hH1 l hls,<-next l hls i hi dw hdI hdl,hF3w]
    have:=e2.put e3 e4 ow.dst
    rw [hd] at this|-;exact this
  ·have hne:i≠wi:=((hCm i).1 hiC).2.1
   refine fin hne ?_
   have hl:l.getD wi X=true:=aDf hcl hr ((hCm i).1 hiC).2.2.1
   rw [AD hl];exact c3 i hiC o d ho hd
 have behind:∀(a':bf) (w':aP),Inv (Kb ops wi) a' w'->wpAnyIn (Df r) m P .any ops Q (M<|K0 ops wi) (Kb ops wi) a' w':=λa' w' hI=>by
  rw [<-hbl];obtain ⟨Z1,β1,i1,i2⟩:=hI
  have hl:∀i,i<ops.size->(Kb ops wi).getD i X=aq (i∈AW):=λi hi=>by
   unfold Kb;rw [hPW]
   simp [hi]
  rw [hl wi hwlt,Cb hwA] at i1 i2;simp only [Bo] at i1 i2
  have hFS:Jm ops AW F F3 (Kb ops wi)=F3:=by
   refine rS (by rw [Vy,hF3l]) λt ht=>?_
   have ht':t<M F:=yq
   rw [fC ht'];split
   ·rfl
   ·rename_i hn
    have hno:∀j,j∈AW->G1 ops j≠ai t:=λj hj e=>by
     obtain ⟨o,_,ho,_⟩:=cDst j hj;refine hn<|Ob.2 ⟨j,hj,?_⟩;rw [hl j (Ho.1 ho).1,Cb hj]
     simp [e]
    rw [hF3A t λj hj=>hno j<|(hAWm j).2<|.inr hj,k2 t λj hj=>hno j<|hAA j hj]
  rw [hFS] at i2;refine pZ (D:=λ_=>True) (C:=Ck ds G w0 Z0 [] β1 H1 w') (sp:=λ_=>U) (Q:=λa' g'=>∀w'',Ck ds G w0 Z0 [] β1 H1 w' g' w''->Q .normal a' w'') (λ_ _ _=>trivial) (λg w1 w2 hc hb=>hc.keep hb) (λa g w hc hq=>hq w hc) r m _ _ a' ⟨Z1,β1,H1,F3,a'⟩ w' ⟨i1,i2,DZ.refl _ _,Ar _,λ_ _=>rfl,λk k1 k2=>absurd k2<|VE.2 k1,EvL.refl _⟩ ?_
  exact aDe hΓ (λg e1 e2 w'' hc=>hQ g.Z g.β g.a w'' bY cB) _ (JQ ops wi) _ ⟨Z1,β1,H1,F3,a'⟩ (λ_ _=>rfl) hord h4
 have main:∀(k:aD) (l:aX) (a':bf) (w':aP),l.size=ops.size->Closed .any ops l->(∀i,l.getD i X=U->i∈AW)->M ((AW).filter λi=>!l.getD i X)=k->Inv l a' w'->wpAnyIn (Df r) m P .any ops Q (k+M (K0 ops wi)) l a' w':=λk=>by
  induction k with
  | zero=>
   intro l a' w' hls hcl hon hk hI
   have hall:∀i∈AW,l.getD i X=true:=λi hi=>by
    cases hb:l.getD i X with
    |true=>rfl
    |false=>
     have:i∈(AW).filter λi=>!l.getD i false:=Ce.2 ⟨hi,by simp [hb]⟩
     rw [MH.1 hk] at this;cases this
   have he:l=Kb ops wi:=by
    apply Array.ext<|by simp [Kb,hls]
    intro i g1 g2
    have hi:i<ops.size:=by rw [<-hls];exact g1
    have e1:l.getD i X=l[i]:=by simp [g1]
    have e2:(Kb ops wi)[i]=aq (i∈AW):=by
     unfold Kb;simp [hPW]
    rw [e2,<-e1];cases hb:l.getD i X with
    |true=>rw [Cb<|hon i hb]
    |false=>rw [IP λhm=>by rw [hall i hm] at hb;cases hb]
   rw [F5,he];exact behind a' w' (he▸hI)
  | succ k ih=>
   intro l a' w' hls hcl hon hk hI
   obtain ⟨i0,hi0⟩:∃i,i∈(AW).filter λi=>!l.getD i false:=by
    cases hL:(AW).filter λi=>!l.getD i X with
    |nil=>rw [hL] at hk;simp at hk
    |cons x xs=>exact ⟨x,AI⟩
   have hrn:az .any ops l≠ []:=by
    have:∀n i,i<n->i∈AW->l.getD i X=X->az .any ops l≠ []:=λn=>by
     induction n with
     |zero=>intro i hi;omega
     | succ n ihn=>
      intro i hin hi hb;obtain ⟨o,d,ho,_⟩:=cDst i hi
      by_cases hp:∃p∈OQ ops i,l.getD p X=X
      ·obtain ⟨p,hp,hpb⟩:=hp
       obtain ⟨q1,q2⟩:=cOns i hi p hp;exact ihn p A0 q2 hpb
      ·have:i∈az .any ops l:=Ez.2 ⟨by rw [fg aOc];exact hb,o,ho,λe he hbd=>by
        cases hx:l.getD e.on X with
        |true=>rfl
        |false=>exact absurd ⟨e.on,by unfold OQ;rw [ho];exact F4.2 ⟨e,Ce.2 ⟨cH,hbd⟩,rfl⟩,hx⟩ hp⟩
       intro e;rw [e] at this;cases this
    obtain ⟨m1,m2⟩:=Ce.1 hi0;exact this (i0+1) i0 A0 m1<|by simpa using m2
   rw [show k+1+M (K0 ops wi)=(k+M (K0 ops wi))+1 by omega]
   refine ⟨λh0=>absurd h0 hrn,λi hi=>?_⟩
   have hiAW:i∈AW:=by
    by_cases hm:i∈AW
    ·exact hm
    ·exfalso
     have hiB:i∈K0 ops wi:=by
      unfold K0
      have hlt:=Qh hi
      rw [hAWm] at hm;simp only [not_or,hAm,hCm] at hm;simp only [Ce,Iu,AV,D6,CV,Zp]
      by_cases hb:wi∈Gu ops i
      ·cases ha:allA ops wi i with
       |true=>exact ⟨hlt,hm.2.1,hb,rfl⟩
       |false=>exact absurd ⟨hlt,hm.2.1,hb,ha⟩ hm.2.2
      ·exact absurd ⟨hlt,hm.2.1,hb⟩ hm.1
     obtain ⟨m1,m2⟩:=Ce.1 hi0
     have hb:=hB i hiB i0 m1
     have:=aDf hcl hi<|by simpa using hb
     simp [this] at m2
   refine wpOpIn_mono (λa2 w2 hI2=>?_)<|step l a' w' hls hcl hI i hiAW hi
   refine ih _ a2 w2 (by simpa using hls) (hcl.put hi) (λj hj=>?_) ?_ hI2
   ·by_cases e:i=j
    ·exact e▸hiAW
    ·rw [Zs X e] at hj;exact hon j hj
   ·have hnd:(AW).Nodup:=by
     rw [<-hAWd,xi];refine ⟨hAnd.imp λh=>VG h,?_,λx hx y hy e=>?_⟩
     ·rw [xw,MJ]
      exact ⟨λhm=>((hCm _).1 hm).2.1 rfl,hCnd.imp λh=>VG h⟩
     ·subst e
      rw [xw,B9] at hy;rcases hy with rfl|hy
      ·exact ((hAm _).1 hx).2.1 rfl
      ·exact hAC _ hx hy
    have hil:l.getD i X=false:=by
     have:=(Ez.1 hi).1
     rwa [fg (by rw [hls];exact Qh hi)] at this
    have hlt:i<l.size:=by rw [hls];exact Qh hi
    have e:((AW).filter λj=>!(l.setIfInBounds i U).getD j X)=((AW).filter λj=>!l.getD j X).erase i:=by
     rw [List.Nodup.erase_eq_filter<|hnd.filter _,List.filter_filter];refine xj λj _=>?_
     by_cases e:i=j
     ·subst e;simp [hlt]
     ·rw [Zs X e]
      simp [Oc e]
    rw [e,List.length_erase_of_mem<|Ce.2 ⟨hiAW,by simp [hil]⟩,hk]
    rfl
 have hcount:ops.size=M ((AW).filter λi=>!(Array.replicate ops.size X).getD i X)+M (K0 ops wi):=by
  rw [List.filter_eq_self.2 λi hi=>by
   have:i<ops.size:=by
    obtain ⟨o,_,ho,_⟩:=cDst i hi;exact (Ho.1 ho).1
   simp [this]]
  have hlen:=ael ops.size (λi=>i==wi) (λi=>(Gu ops i).contains wi) ⟨wi,hwlt,AI,λj _ hj=>zM⟩
  have hsp:=aeQ (av ops.size) (λi=>!(i==wi)&&(Gu ops i).contains wi) λi=>allA ops wi i
  have eC:M C=M ((av ops.size).filter λi=>(!(i==wi)&&(Gu ops i).contains wi)&&!allA ops wi i):=by
   rw [<-hC];unfold R4
   congr 1
   exact xj λi _=>by rw [V8]
  have eB:M (K0 ops wi)=M ((av ops.size).filter λi=>(!(i==wi)&&(Gu ops i).contains wi)&&allA ops wi i):=by
   unfold K0
   congr 1
   exact xj λi _=>by rw [V8]
  have eA:M A=M ((av ops.size).filter λi=>!(i==wi)&&!(Gu ops i).contains wi):=by rw [<-hA];rfl
  rw [<-hAWd,B8,B8,List.length_singleton,eA,eC,eB];omega
 have hbd:Below w.heap.size w {w with drawn:=w.drawn+1}:=⟨rfl,rfl,rfl,Ar _,λ_ _=>rfl⟩
 rw [show wpAnyIn (Df r) m P .any ops Q ops.size (Array.replicate ops.size X) a {w with drawn:=w.drawn+1}=wpAnyIn (Df r) m P .any ops Q (M ((AW).filter λi=>!(Array.replicate ops.size X).getD i X)+M (K0 ops wi)) (Array.replicate ops.size X) a {w with drawn:=w.drawn+1} from congrFun (congrFun (congrFun (B0 _ hcount) _) _) _]
 refine main _ (Array.replicate ops.size X) a _ AI (λi o ho hL=>?_) (λi hi=>?_) rfl ?_
 ·have:=(Ho.1 ho).1
  simp [this] at hL
 ·exfalso
  rcases QM i ops.size with h|h<;>simp [h] at hi
 ·have hFS:Jm ops AW F F3 (Array.replicate ops.size X)=F:=by
   refine rS Vy λt ht=>?_
   rw [fC yq,AE];intro hany;obtain ⟨j,_,e⟩:=Ob.1 hany;rcases QM j ops.size with h|h<;>simp [h] at e
  have hz:(Array.replicate ops.size X).getD wi X=false:=by simp [hwlt]
  refine ⟨Z,β,?_,?_⟩
  ·rw [hz];exact hW0.same hbd
  ·rw [hz,hFS];exact hF0.mono (Ar _) (λ_ _=>rfl) (λ_ h=>h) λ_ _=>rfl
def aek (hΓ:∀g S,Γ g=ai S->Valid P G g S) (hK:FR P G K) {id:aD}{ops:aK}{Q:aVB->bf->aP->Prop}{F':aE}{H':aH}(hQ:∀Z' β' a' w',RW G w0 Z0 Z' β' H' w'->RF ds β' Z' w' (M H') F' a'->Q .normal a' w')
  (hW0:RW G w0 Z0 Z β H w) (hF0:RF ds β Z w (M H) F a) (h:(aBs P G Γ K ops F H).all λq=>q=(F',H')) (r:bn) (m:aD):(Code.region id ops U).wpIn (Df r) m P Q a w:=by
 unfold aBs at h;split at h
 ·exact aEC hΓ hK hQ hW0 hF0 h r m
 ·split at h
  ·rename_i wi hwi
   have:=aoi hΓ hK hQ hwi hW0 hF0 h r m
   exact wpIn_region_any this.1 this.2
  ·exact aEC hΓ hK hQ hW0 hF0 h r m
end Go.Sx
namespace Go.Sx
open Go Go.RowKit Go.Proofs.YtepoohnehmfflaaGreatDoor
variable {P : Program} {G : B5} {Γ : Specs} {K : Hand} {A : Gz -> Prop} {β : Nat -> Loc} {Z : Nat -> Prop} {Z0 : Gz} {w w0 : World} {F : List LV} {H : List AB} {a : Act} {ds : List Deferred} {n : Nat}
def xD:Ex->Exit
 | .normal=> .normal
 | .exit n=> .exit n
 | .ret=> .ret
structure M5 (w0:aP) (Z0:Gz) (ds:aVr):Prop where
 new:∀D,Gr D∈ds->w0.heap.size<=D/\D∉Z0.Cr
 nodup:ds.Nodup
def M5.nil {w0:aP}{Z0:Gz}:M5 w0 Z0 []:=⟨λ_ h=>As,List.nodup_nil⟩
def Gp (P:aQ) (G:B5) (A:Gz->Prop) (c:bC) (t:aE->aH->T (Ex×List LV×List AB)):Prop:=
 ∀(r:bn) (w0:aP) (Z0:Gz) (Z:aD->Prop) (β:aD->aVs) (F:aE) (H:aH) (a:bf) (w:aP) (ds:aVr) (Q:aVB->bf->aP->Prop) (x:Ex) (F':aE) (H':aH),
  A Z0->(r=ak\/I6 c=U)->M5 w0 Z0 ds->RW G w0 Z0 Z β H w->RF ds β Z w (M H) F a->(t F H).all (λq=>q=(x,F',H'))->(∀ds' Z' β' a' w',M5 w0 Z0 ds'->RW G w0 Z0 Z' β' H' w'->RF ds' β' Z' w' (M H') F' a'->Q (xD x) a' w')->c.wpIn (Df r) 0 P Q a w
def AN (N:aD):Gz->Prop:=λz=>∀p,p∈z.gh->okV N p.1
abbrev Sound (P:aQ) (G:B5):=Gp P G<|AN 0
def BD:bC->List Code
 | .seq a b=>BD a++BD b
 | .cond _ a b=>BD a++BD b
 | .block _ b=>BD b
 | .loop b=>[b]
 | .scope b=>BD b
 |_=>[]
def J5:bC->List (Array Tmp×Code×Code)
 | .seq a b=>J5 a++J5 b
 | .cond _ a b=>J5 a++J5 b
 | .block _ b=>J5 b
 | .loop b=>J5 b
 | .rangeFunc _ ps a b=>[(ps,a,b)]
 | .scope b=>J5 b
 |_=>[]
def pI {w:aP}{D:aD}(h:Fv w D) (o':Obj) {b o:aD}{z:aW}(hz:w.cell? ⟨b,o,ak⟩=ai z):(w.putObj D o').cell? ⟨b,o,ak⟩=ai z:=by
 have hne:b≠D:=by
  rintro rfl
  unfold Fv at h
  simp [World.cell?,h] at hz
 rwa [QY<|MI hne]
def RD.shut {D:aD}(h:Fv w D) (o':Obj):∀(t:Ty) (d:t.D) (b o:aD),RD Z w t d b o->RD Z (w.putObj D o') t d b o
 | .int _,_,b,o,hh=>yh
 | .bool,_,b,o,hh=>yh
 | .str,_,b,o,hh=>yh
 | .sl e,l,b,o,hh=>by
  obtain ⟨a,cap,h1,h2,h3⟩:=hh;refine ⟨a,cap,pI h o' h1,h2,λhn=>?_⟩
  obtain ⟨b',o'',h4,h5,h6⟩:=h3 hn;exact ⟨b',o'',h4,h5,λi d hd=>RD.shut h o' e d b' _<|h6 i d hd⟩
 | .pair x y,d,b,o,hh=>by
  exact ⟨RD.shut h o' x d.1 b o hh.1,RD.shut h o' y d.2 b _ hh.2⟩
def W8 {w:aP}{D:aD}(h:Fv w D) (o':Obj) {b:aD}{x:Obj}(hx:w.heap[b]? =ai x) (hn:∀q,x≠ .deferred q):(w.putObj D o').heap[b]? =ai x:=by
 have hne:b≠D:=by
  rintro rfl
  rw [h] at hx
  grind
 rwa [MI hne]
mutual
def R.shut {D:aD}(h:Fv w D) (o':Obj):∀(x:LV) (y:aW),R β Z w x y->R β Z (w.putObj D o') x y
 | .v _,_,hh=>hh
 | .bl _,_,hh=>hh
 | .ki _ _,_,hh=>hh
 | .own k off,y,hh=>VX
 | .agg l,y,hh=>by
  exact nB
 | .AQ l,y,hh=>by
  exact nB
 | .fn f l,y,hh=>by
  exact nB
 | .fb f l,y,hh=>by
  exact nB
 | .xq n f,y,hh=>by
  simp only [R] at*;obtain ⟨b,off,h1,hz,h2⟩:=hh;refine ⟨b,off,h1,hz,λj hj=>?_⟩
  obtain ⟨z,h3,h4⟩:=h2 j hj;exact ⟨z,pI h o' h3,R.shut h o' (f j) z h4⟩
 | .xl e l,y,hh=>by
  simp only [R] at*;obtain ⟨a,cap,h1,h2,h3⟩:=hh;refine ⟨a,cap,h1,h2,λhn=>?_⟩
  obtain ⟨b,off,h4,h5,h6⟩:=h3 hn;exact ⟨b,off,h4,h5,λi d hd=>RD.shut h o' e d b _ (h6 i d hd)⟩
 | .os k es off n,y,hh=>VX
 | .op k es i j,y,hh=>VX
 | .om k,y,hh=>VX
 | .mp kd ks vs,y,hh=>by
  simp only [R] at*;obtain ⟨r,es,clock,h1,h2,h3,h4,h5⟩:=hh;exact ⟨r,es,clock,h1,h2,W8 h o' h3 (λ_ e=>Og),h4,RL.shut h o' vs _ h5⟩
 | .oc k es off n c,y,hh=>VX
 | .CQ k,y,hh=>VX
 | .junk,_,_=>Jp
def RL.shut {D:aD}(h:Fv w D) (o':Obj):∀(x:aE) (y:aV),RL β Z w x y->RL β Z (w.putObj D o') x y
 | [],_,hh=>by simpa only [RL] using hh
 |x::xs,ys,hh=>by
  simp only [RL] at*;obtain ⟨y,zs,h1,h2,h3⟩:=hh;exact ⟨y,zs,h1,R.shut h o' x y h2,RL.shut h o' xs zs h3⟩
end
def Bb.shut {D:aD}(h:Fv w D) (o':Obj) {k:aD}{b:AB}(hh:Bb β Z w k b):Bb β Z (w.putObj D o') k b:=by
 unfold Bb at*;cases hk:b.k with
 |cl=>
  simp only [hk] at hh|-;obtain ⟨cs,h1,h2⟩:=hh;exact ⟨cs,W8 h o' h1 λ_ e=>Og,RL.shut h o' _ _ h2⟩
 | vec e l=>
  simp only [hk] at hh|-;cases hc:(β k).cap with
  |none=>simp only [hc] at hh|-;exact hh
  |some c=>
   simp only [hc] at hh|-;obtain ⟨cs,h1,h2,h3,h4⟩:=hh;exact ⟨cs,W8 h o' h1 λ_ e=>Og,h2,h3,λi d hd=>RD.shut h o' e d _ _<|h4 i d hd⟩
 |mp kd ks vs=>
  simp only [hk] at hh|-;obtain ⟨es,clock,h1,h2,h3⟩:=hh;exact ⟨es,clock,W8 h o' h1 λ_ e=>Og,h2,RL.shut h o' _ _ h3⟩
 |Cn ps asg body st=>
  simp only [hk] at hh|-;obtain ⟨r,h1,h2,h3,h4,h5,h6⟩:=hh;exact ⟨r,W8 h o' h1 λ_ e=>Og,h2,h3,h4,h5,RL.shut h o' _ _ h6⟩
 |st e l=>
  simp only [hk] at hh|-;obtain ⟨es,clock,h1,h2,h3⟩:=hh;exact ⟨es,clock,W8 h o' h1 λ_ e=>Og,h2,h3⟩
 |dead=>trivial
def putObj_size (w:aP) (D:aD) (o:Obj):(w.putObj D o).heap.size=w.heap.size:=AI
def Fv.lt {w:aP}{D:aD}(h:Fv w D):D<w.heap.size:=(Ho.1 h).1
def RW.shut (hW:RW G w0 Z0 Z β H w) {D:aD}(h:Fv w D) (h0:w0.heap.size<=D) (hm:D∉Z0.Cr) (o':Obj):RW G w0 Z0 Z β H (w.putObj D o'):=
 ⟨hW.below.trans ⟨rfl,rfl,rfl,mY (putObj_size _ _ _).symm,λi hi=>MI A0⟩,λb hz=>by rw [putObj_size];exact hW.Bc b hz,hW.Ep,hW.Cp,hW.GR,hW.low,hW.inj,
  λk b hb=>⟨(hW.blk k b hb).1.shut h o',(hW.blk k b hb).2⟩,λg n f hg=>⟨(hW.Ci g n f hg).1,λj hj=>pI h o'<|(hW.Ci g n f hg).2 j hj⟩,
  λp hp=>⟨R.shut h o' _ _ (hW.gh p hp).1,(hW.gh p hp).2⟩,λD' hD'=>⟨(hW.Cr D' hD').1,by
   unfold Fv;rw [MI λe=>hm A8]
   exact (hW.Cr D' hD').2⟩⟩
def aDd {fn:aVw}{R:Ending->aP->Prop}:∀(ds:aVr) (w:aP) (a:bf),RW G w0 Z0 Z β H w->RF ds β Z w n F a->M5 w0 Z0 ds->
  (∀w' a',a'.tmps=a.tmps->RW G w0 Z0 Z β H w'->RF [] β Z w' n F a'->∃v,(results fn a.tmps).run P w'=.ok v w'/\R (.returned v) w')->LeavesInM Fence.wide 0 P fn a.tmps R ds .returning w
 | [],w,a,hW,hF,_,hR=>hR w {a with defers:=[]} rfl hW ⟨hF.size,hF.get,rfl,λ_ h=>As⟩
 |d::ds,w,a,hW,hF,hD,hR=>by
  obtain ⟨D,rfl,hz,hm⟩:=hF.defers.2 d AI;obtain ⟨n1,n2⟩:=hD.new D AI
  have nd:=MJ.1 hD.nodup
  refine ⟨AI,.inl ⟨D,w.putObj D<|.deferred ak,rfl,run_takeDeferred hm,?_⟩⟩;refine aDd ds (w.putObj D<|.deferred ak) {a with defers:=ds} (hW.shut hm n1 n2 _) ⟨hF.size,λt x hx=>⟨Go.Sx.R.shut hm _ _ _ (hF.get t x hx).1,(hF.get t x hx).2⟩,rfl,λd hd=>?_⟩ ⟨λD' h'=>hD.new D' A8,nd.2⟩ λw' a' e=>hR w' a' e
  obtain ⟨D',e1,e2,e3⟩:=hF.defers.2 d A8;refine ⟨D',e1,e2,?_⟩;unfold Fv
  rwa [MI λe=>nd.1 A8]
def RF.RL (hF:RF ds β Z w n F a):RL β Z w F a.tmps.toList/\AT n F:=by
 refine ⟨RL.CW (by simp [hF.size]) λi x hx=>?_,AT.CW λi x hx=>(hF.get i x hx).2⟩
 have hi:i<a.tmps.size:=by rw [hF.size];exact (EF.1 hx).1
 have:=(hF.get i x hx).1
 refine ⟨a.tmps[i],AI,?_⟩
 have e:a.tmps.getD i undef=a.tmps[i]:=GI
 rw [e] at this;exact this
def apT (us:aI) {ys:aV}(h:RL β Z w F ys) (hk:AT n F):RL β Z w (PM us F) ys/\AT n (PM us F):=by
 have hl:=RL.length h
 have at_:∀(i:aD) (x:LV),(PM us F)[i]? =ai x->i<M F/\(x=.junk\/F[i]? =ai x):=λi x hx=>by
  simp only [PM,Dh] at hx
  by_cases hi:i<M F
  ·simp only [y6 hi,Jn,Ah] at hx
   refine ⟨hi,?_⟩;split at hx
   ·right
    grind
   ·grind
  ·rw [Sc A8] at hx
   cases hx
 refine ⟨RL.CW (by simp [PM,hl]) λi x hx=>?_,AT.CW λi x hx=>?_⟩
 ·obtain ⟨hi,h1⟩:=at_ i x hx
  rcases h1 with rfl|h1
  ·exact ⟨ys[i]' A0,Dg _,Jp⟩
  ·exact RL.get i x h h1
 ·obtain ⟨hi,h1⟩:=at_ i x hx
  rcases h1 with rfl|h1
  ·trivial
  ·exact AT.get i x hk h1
def aee {o:aVD}{x:Ex}(h:wM o=ai x):∃c t ps asg body,(o=ai ⟨c,t,.Cn ps asg body .ready,X⟩/\x=.normal)\/(o=ai ⟨c,t,.Cn ps asg body<|.done x,X⟩/\x≠ .normal):=by
 unfold wM at h;split at h
 ·rename_i c t ps asg body
  grind
 ·rename_i c t ps asg body y
  split at h
  ·cases h
  ·rename_i hn
   have:=EE h
   subst this
   grind
 ·cases h
def RW.turn {k:aD}{c:aE}{t t':aT}{ps:aVF}{asg body:bC}{st:LS}{nb:BK}{r':Loop}(hW:RW G w0 Z0 Z β H w) (hb:H[k]? =ai ⟨c,t,.Cn ps asg body st,X⟩)
  (hn:Bb β Z (w.putObj (β k).b<|.loop r') k ⟨c,t',nb,X⟩) (hok:okB (M H) ⟨c,t',nb,X⟩):RW G w0 Z0 Z β (H.set k ⟨c,t',nb,X⟩) (w.putObj (β k).b<|.loop r')/\(∀b,Z b->(w.putObj (β k).b<|.loop r').heap[b]? =w.heap[b]?):=
 ⟨hW.set hb trivial rfl rfl hok (putObj_size _ _ _) ⟨rfl,rfl,rfl⟩ (λj hj=>MI hj) hn,λb hz=>MI λe=>hW.Cp k _ hb trivial rfl (e▸hz)⟩
def sP {r:bn}{p q:aN}(h:r=ak\/(p&&q)=U):(r=ak\/p=U)/\(r=ak\/q=U):=by
 rcases h with h|h
 ·grind
 ·simp only [AV] at h
  grind
def Vx {b:Frame}{k:List Item}{cs:List Frame}{c:bC}:step P (lone (b.atR a (.code (.scope c)::k)) cs w)=.next (lone (b.atR a (.code c::.inScope c::k)) cs w):=
 step_lone_go aOj
def aeD {b:Frame}{k:List Item}{cs:List Frame}{c:bC}:step P (lone (b.atR a (.inScope c::k)) cs w)=.next (lone (b.atR a k) cs w):=
 step_lone_go aOj
def aeu {E:Fence}{m:aD}{Q:aVB->bf->aP->Prop}{c:bC}(h:c.wpIn E m P (Exit.noGoto Q) a w):(Code.scope c).wpIn E m P Q a w:=by
 intro b k cs hro hb hr
 have h0:(lone (b.atR a (.code (.scope c)::k)) cs w).fenced P E:=fenced_calm hb hr rfl
 obtain ⟨e,a₁,w₁,hq,harr⟩:=h b (.inScope c::k) cs hro hb hr;cases e with
 |normal=>exact ⟨.normal,a₁,w₁,hq,.head h0 Vx<|StepsIn.trans harr<|.one (fenced_calm hb hr rfl) aeD⟩
 | exit id'=>
  have hx:exitTo id' (.inScope c::k)=exitTo id' k:=by simp [exitTo]
  exact ⟨.exit id',a₁,w₁,hq,λk' hk=> .head h0 Vx<|harr.1 k' A8,
   λhr' hk=>let ⟨k₁,h1,h2⟩:=harr.2 hr' A8;⟨k₁,h1,.head h0 Vx h2⟩⟩
 |goto l=>exact hq.elim
 |ret=>exact ⟨_,a₁,w₁,hq,.of_steps (.one h0 Vx) harr⟩
 |panic ch=>exact ⟨_,a₁,w₁,hq,.of_steps (.one h0 Vx) harr⟩
 |outgrown=>exact ⟨_,a₁,w₁,hq,.of_steps (.one h0 Vx) harr⟩
def Gj {L:Pg} (hΓ:∀g S,Γ g=ai S->Valid P G g S) (hK:FR P G K):∀(c:bC),(∀b∈BD c,Gp P G A (.loop b)<|L b)->Gp P G A c (DN P G Γ K L c)
 | .skip,_=>λr w0 Z0 Z β F H a w ds Q x F' H' hA hr hD hW hF h hQ=>by
  simp only [DN,T.all,Ay] at h;obtain ⟨rfl,rfl,rfl⟩:=h;exact wpIn_skip (hQ ds Z β a w hD hW hF)
 | .ret,_=>λr w0 Z0 Z β F H a w ds Q x F' H' hA hr hD hW hF h hQ=>by
  simp only [DN,T.all,Ay] at h;obtain ⟨rfl,rfl,rfl⟩:=h;exact wpIn_ret (hQ ds Z β a w hD hW hF)
 | .exit m,_=>λr w0 Z0 Z β F H a w ds Q x F' H' hA hr hD hW hF h hQ=>by
  simp only [DN,T.all,Ay] at h;obtain ⟨rfl,rfl,rfl⟩:=h;exact wpIn_exit (hQ ds Z β a w hD hW hF)
 | .region id ops d,_=>λr w0 Z0 Z β F H a w ds Q x F' H' hA hr hD hW hF h hQ=>by
  simp only [DN] at h;obtain ⟨⟨F1,H1⟩,h1,h2⟩:=T.B4 h;simp only [T.all,Ay] at h2;obtain ⟨rfl,rfl,rfl⟩:=h2;cases d with
  |true=>exact aek hΓ hK (λZ' β' a' w' e1 e2=>hQ ds Z' β' a' w' hD e1 e2) hW hF h1 r 0
  |false=>exact afs hΓ hK (λZ' β' a' w' e1 e2=>hQ ds Z' β' a' w' hD e1 e2) hW hF h1 r 0
 | .seq c1 c2,hl=>λr w0 Z0 Z β F H a w ds Q x F' H' hA hr hD hW hF h hQ=>by
  simp only [DN] at h;obtain ⟨⟨y,F1,H1⟩,h1,h2⟩:=T.B4 h;obtain ⟨hr1,hr2⟩:=sP (show r=ak\/(I6 c1&&I6 c2)=U from hr);refine wpIn_seq<|Gj hΓ hK c1 (λb hb=>hl b Sv) r w0 Z0 Z β F H a w ds _ y F1 H1 hA hr1 hD hW hF h1 λds' Z' β' a' w' e0 e1 e2=>?_
  cases y with
  |normal=>exact Gj hΓ hK c2 (λb hb=>hl b Sv) r w0 Z0 Z' β' F1 H1 a' w' ds' Q x F' H' hA hr2 e0 e1 e2 h2 hQ
  |exit m=>
   simp only [T.all,Ay] at h2;obtain ⟨rfl,rfl,rfl⟩:=h2;exact hQ ds' Z' β' a' w' e0 e1 e2
  |ret=>
   simp only [T.all,Ay] at h2;obtain ⟨rfl,rfl,rfl⟩:=h2;exact hQ ds' Z' β' a' w' e0 e1 e2
 | .cond c c1 c2,hl=>λr w0 Z0 Z β F H a w ds Q x F' H' hA hr hD hW hF h hQ=>by
  have s1:=Gj hΓ hK c1 λb hb=>hl b Sv
  have s2:=Gj hΓ hK c2 λb hb=>hl b Sv
  obtain ⟨hr1,hr2⟩:=sP (show r=ak\/(I6 c1&&I6 c2)=U from hr);simp only [DN] at h;split at h
  ·rename_i d
   split at h
   ·rename_i hb
    obtain ⟨q1,q2⟩:=hF.slot hb AI
    have hv:=(hF.get d _ q1).1
    simp only [R] at hv;exact wpIn_cond_true yj<|s1 r w0 Z0 Z β F H a w ds Q x F' H' hA hr1 hD hW hF h hQ
   ·rename_i hb
    obtain ⟨q1,q2⟩:=hF.slot hb AI
    have hv:=(hF.get d _ q1).1
    simp only [R] at hv;exact wpIn_cond_false yj<|s2 r w0 Z0 Z β F H a w ds Q x F' H' hA hr2 hD hW hF h hQ
   ·rename_i g hb
    obtain ⟨q1,q2⟩:=hF.slot hb AI
    have hv:=(hF.get d _ q1).1
    simp only [R] at hv
    have kn:∀b,g=b->RF ds β Z w H.length (F.set d<|.bl b) a:=λb e=>hF.know nX trivial
    simp only [T.all] at h;refine wpIn_cond_split (t:=g) yj (λhg=>s1 r w0 Z0 Z β _ H a w ds Q x F' H' hA hr1 hD hW (kn U hg) (h.1 hg) hQ) λhg=>s2 r w0 Z0 Z β _ H a w ds Q x F' H' hA hr2 hD hW (kn X hg) (h.2 hg) hQ
   ·cases h
  ·exact wpIn_cond_true rfl<|s1 r w0 Z0 Z β F H a w ds Q x F' H' hA hr1 hD hW hF h hQ
  ·exact wpIn_cond_false rfl<|s2 r w0 Z0 Z β F H a w ds Q x F' H' hA hr2 hD hW hF h hQ
  ·cases h
 | .block id c,hl=>λr w0 Z0 Z β F H a w ds Q x F' H' hA hr hD hW hF h hQ=>by
  simp only [DN] at h;obtain ⟨⟨y,F1,H1⟩,h1,h2⟩:=T.B4 h;refine wpIn_block<|Gj hΓ hK c (λb hb=>hl b<|by simpa [BD] using hb) r w0 Z0 Z β F H a w ds _ y F1 H1 hA hr hD hW hF h1 λds' Z' β' a' w' e0 e1 e2=>?_
  cases y with
  |normal=>
   simp only [T.all,Ay] at h2;obtain ⟨rfl,rfl,rfl⟩:=h2;exact hQ ds' Z' β' a' w' e0 e1 e2
  | exit m=>
   simp only at h2;simp only [xD,Exit.inBlock];split at h2
   ·rename_i hm
    simp only [T.all,Ay] at h2;obtain ⟨rfl,rfl,rfl⟩:=h2;rw [AD hm];exact hQ ds' Z' β' a' w' e0 e1 e2
   ·rename_i hm
    simp only [T.all,Ay] at h2;obtain ⟨rfl,rfl,rfl⟩:=h2;rw [AE hm];exact hQ ds' Z' β' a' w' e0 e1 e2
  |ret=>
   simp only [T.all,Ay] at h2;obtain ⟨rfl,rfl,rfl⟩:=h2;exact hQ ds' Z' β' a' w' e0 e1 e2
 | .loop b,hl=>hl b (by simp [BD])
 | .rangeFunc g ps asg body,_=>λr w0 Z0 Z β F H a w ds Q x F' H' hA hr hD hW hF h hQ=>by
  have hr0:r=none:=by
   rcases hr with h|h
   ·exact h
   ·simp [I6] at h
  subst hr0;simp only [DN] at h;split at h
  ·rename_i gf cap hg
   split at h
   ·rename_i fn hfn
    split at h
    ·rename_i hb
     simp only [AV,D6] at hb;obtain ⟨⟨lv,H1⟩,h1,h2⟩:=T.B4 h;simp only at h2
     have hgr:=hF.eval hW.Ci g
     rw [hg] at hgr;simp only [R,okV] at hgr;obtain ⟨⟨ys,hy,hyr⟩,hcap⟩:=hgr;split at h2
     ·rename_i x' hx'
      simp only [T.all,Ay] at h2;obtain ⟨rfl,rfl,rfl⟩:=h2;refine wpIn_rangeFunc ?_;intro fn0 _
      have hb1:Below w.heap.size w (w.alloc<|.deferred<|ai []):=(Below.refl _ _).alloc (Ar _) _
      have hWd:=hW.call hb1
      generalize hrec:({state:=.ready,pending:=ak,fn:=fn0,tmps:=a.tmps,params:=ps,assign:=asg,body:=body,defers:=w.heap.size}:Loop)=rec0 at*;generalize hwd:w.alloc (.deferred<|ai [])=wd at*
      have hsd:wd.heap.size=w.heap.size+1:=by rw [<-hwd];simp [World.size_alloc]
      have hmd:Fv wd w.heap.size:=by rw [<-hwd];exact World.alloc_heap_new w _
      have hb2:Below wd.heap.size wd (wd.alloc<|.loop rec0):=(Below.refl _ _).alloc (Ar _) _
      have hW1:=hWd.same hb2
      generalize hw1:wd.alloc (.loop rec0)=w1 at*
      have hl1:w1.heap[wd.heap.size]? =ai (.loop rec0):=by rw [<-hw1];exact World.alloc_heap_new wd _
      have hF1:RF ds β (λb=>Z b\/(w.heap.size<=b/\b<wd.heap.size)) w1 H.length F a:=hF.mono (Ar _) (λ_ _=>rfl) (λ_ h=> .inl h) (λb hz=>by
       have hlt:=hW.Bc b hz
       rw [EI hb2 A0,EI hb1 hlt])
      have hm1:Fv w1 w.heap.size:=by unfold Fv;rw [EI hb2 A0];exact hmd
      have hF2:RF (Gr w.heap.size::ds) β (λb=>Z b\/(w.heap.size<=b/\b<wd.heap.size)) w1 H.length F {a with defers:=Gr w.heap.size::a.defers}:=by
       refine ⟨hF1.size,hF1.get,by rw [hF1.defers.1],λd hd=>?_⟩
       rcases B9.1 hd with rfl|hd
       ·exact ⟨_,rfl,.inr ⟨Ar _,A0⟩,hm1⟩
       ·exact hF1.defers.2 d hd
      have hD2:M5 w0 Z0 (Gr w.heap.size::ds):=by
       refine ⟨λD hd=>?_,MJ.2 ⟨λhd=>?_,hD.nodup⟩⟩
       ·rcases B9.1 hd with hd|hd
        ·simp only [Gr,Deferred.mk.injEq,Target.collected.injEq] at hd
         rw [hd.1];exact ⟨hW.below.size,λhm=>by have:=(hW.Cr _ hm).2.lt;omega⟩
        ·exact hD.new D hd
       ·obtain ⟨D,e1,_,e3⟩:=hF.defers.2 _ hd
        simp only [Gr,Deferred.mk.injEq,Target.collected.injEq] at e1
        have:=e3.lt
        omega
      obtain ⟨fr1,fr2⟩:=hF1.RL;obtain ⟨fr1,fr2⟩:=apT (Gx asg++Gx body) fr1 fr2
      obtain ⟨β2,b1,b2,hW2⟩:=hW1.Ks (ℓ:=⟨wd.heap.size,0,ak⟩) (nb:=⟨PM (Gx asg++Gx body) F,0,.Cn ps asg body .ready,X⟩) rfl ⟨AT.mono A0 _ fr2,an⟩ (λ_=>⟨λhz=>by
        rcases hz with hz|hz
        ·have:=hW.Bc _ hz;simp only at this;omega
        ·simp only at hz;omega,by have:=hW.below.size;simp only;omega,λj bj hj lj e=>Su⟩) (λβ' q1 q2=>by
       simp only [Bb,q2];refine ⟨rec0,hl1,ze,ze,ze,by rw [<-hrec];exact A9,?_⟩
       rw [<-hrec];exact RL.mono q1 (λ_ h=>h) (λ_ _=>rfl) _ _ fr2 fr1)
      have hF3:RF (Gr w.heap.size::ds) β2 (λb=>Z b\/(w.heap.size<=b/\b<wd.heap.size)) w1 (H++[(⟨PM (Gx asg++Gx body) F,0,.Cn ps asg body .ready,X⟩:AB)]).length F {a with defers:=Gr w.heap.size::a.defers}:=hF2.mono AI b1 (λ_ h=>h) λ_ _=>rfl
      have hW3:=hW2.hold hF3
      have hyl:R β2 (λb=>Z b\/(w.heap.size<=b/\b<wd.heap.size)) w1 (.CQ H.length) (.func (.yield wd.heap.size) #[] #[]):=by simp only [R,b2]
      have hW4:RW G w0 ⟨Z0.z,(LV.CQ H.length,Value.func (.yield wd.heap.size) #[] #[])::(F.zip a.tmps.toList++Z0.gh),dsB (Gr w.heap.size::ds)++Z0.Cr⟩ (λb=>Z b\/(w.heap.size<=b/\b<wd.heap.size)) β2 (H++[⟨PM (Gx asg++Gx body) F,0,.Cn ps asg body .ready,X⟩]) w1:=
       ⟨hW3.below,hW3.Bc,hW3.Ep,hW3.Cp,hW3.GR,hW3.low,hW3.inj,hW3.blk,hW3.Ci,λp hp=>by
        rcases B9.1 hp with rfl|hp
        ·exact ⟨hyl,MM⟩
        ·exact hW3.gh p hp,hW3.Cr⟩
      have hyr2:RL β2 (λb=>Z b\/(w.heap.size<=b/\b<wd.heap.size)) w1 cap ys.toList:=RL.mono (n:=H.length) b1 (λ_ h=> .inl h) (λb hz=>by
       have hlt:=hW.Bc b hz
       rw [EI hb2 A0,EI hb1 hlt]) _ _ hcap hyr
      have hbn:¬fn.body=none:=by intro hbb;simp [hbb] at hb
      have hb3:¬fn.name= "runtime.NumGoroutine":=by simpa using hb.2
      have eg:∀args w,(callFunc gf args).run P w=.ok (.enter gf args) w:=λargs w=>by simp [callFunc,hfn,hb3,hbn]
      refine ⟨wd.heap.size,[Gr w.heap.size],w1,{target:=.fn (.func gf) ys,args:=#[.func (.yield wd.heap.size) #[] #[]]},w1,gf,#[.func (.yield wd.heap.size) #[] #[]]++ys,w1,?_,?_,λ_ _=>trivial,?_,λh=>As,VF.2 ?_⟩
      ·have:=run_enterLoop_outer (P:=P) (w:=w) fn0 a.tmps ps asg body
       rw [hrec,hwd,hw1,<-hsd] at this;exact this
      ·simp only [resolve,hy]
       simp [go_sem]
      ·simp [invoke,go_sem,eg]
      ·refine (hK.k w0 _ _ β2 _ w1 gf (.CQ H.length::cap) _ lv H1 hW4 (by simp only [mF,RL];exact ⟨_,ys.toList,rfl,hyl,hyr2⟩) ⟨MM,AT.mono AI _ hcap⟩ h1).mono λe w2 ⟨v,he,Z',β',r1,r2,r3⟩=>?_
       subst he
       have hat:(β' H.length).b=wd.heap.size:=by
        have:=(r1.gh (LV.CQ H.length,Value.func (.yield wd.heap.size) #[] #[]) AI).1
        exact aNp
       have r1':RW G w0 ⟨Z0.z,F.zip a.tmps.toList++Z0.gh,dsB (Gr w.heap.size::ds)++Z0.Cr⟩ Z' β' H1 w2:=⟨r1.below,r1.Bc,r1.Ep,r1.Cp,r1.GR,r1.low,r1.inj,r1.blk,r1.Ci,λp hp=>r1.gh p<|N8 _ hp,r1.Cr⟩
       have hF5:=RW.held hF3 r1'
       have hW5:RW G w0 Z0 Z' β' H1 w2:=r1'.less
       obtain ⟨c',t',ps',asg',body',hx⟩:=aee hx'
       have fin:∀st,H1[H.length]? =ai ⟨c',t',.Cn ps' asg' body' st,X⟩->∃rr,w2.heap[wd.heap.size]? =ai (.loop rr)/\LsR st rr/\∀rr',RW G w0 Z0 Z' β' (H1.set H.length ⟨[],0,.dead,X⟩) (w2.putObj wd.heap.size<|.loop rr')/\RF (Gr w.heap.size::ds) β' Z' (w2.putObj wd.heap.size<|.loop rr') (H1.set H.length ⟨[],0,.dead,X⟩).length F {a with defers:=Gr w.heap.size::a.defers}:=λst hst=>by
        have hbk:=(hW5.blk _ _ hst).1
        simp only [Bb,hat] at hbk;obtain ⟨rr,q1,q2,q3,q4,q5,q6⟩:=hbk;refine ⟨rr,q1,q5,λrr'=>?_⟩
        have hs:=hW5.set (nb:=⟨[],0,.dead,X⟩) (w':=w2.putObj wd.heap.size<|.loop rr') hst trivial rfl rfl ⟨an,an⟩ (putObj_size _ _ _) ⟨rfl,rfl,rfl⟩ (λj hj=>MI (by rw [hat] at hj;exact hj)) trivial
        refine ⟨hs,?_⟩;rw [C5];exact hF5.mono (Ar _) (λ_ _=>rfl) (λ_ h=>h) λb hz=>MI λe=>hW5.Cp _ _ hst trivial rfl (by rw [hat,<-e];exact hz)
       rcases hx with ⟨hx,rfl⟩ |⟨hx,hne⟩
       ·obtain ⟨rr,q1,q2,q3⟩:=fin _ hx
        refine ⟨ak,w2.putObj wd.heap.size<|.loop {rr with state:=.exhausted},(run_endLoop q1 (by rw [q2.1];simp)).trans<|by rw [q2.2],?_⟩
        obtain ⟨f1,f2⟩:=q3 {rr with state:=.exhausted}
        exact hQ _ Z' β' _ _ hD2 f1 f2
       ·obtain ⟨rr,q1,q2,q3⟩:=fin _ hx
        refine ⟨aTd x',w2.putObj wd.heap.size<|.loop {rr with state:=.exhausted},(run_endLoop q1 (by rw [q2.1];simp)).trans<|by rw [q2.2],?_⟩
        obtain ⟨f1,f2⟩:=q3 {rr with state:=.exhausted}
        cases x' with
        |normal=>exact absurd rfl hne
        |exit m=>exact wpIn_exit (hQ _ Z' β' _ _ hD2 f1 f2)
        |ret=>exact wpIn_ret<|hQ _ Z' β' _ _ hD2 f1 f2
     ·cases h2
    ·cases h
   ·cases h
  ·cases h
 | .scope c,hl=>λr w0 Z0 Z β F H a w ds Q x F' H' hA hr hD hW hF h hQ=>by
  simp only [DN] at h;refine aeu<|Gj hΓ hK c (λb hb=>hl b<|by simpa [BD] using hb) r w0 Z0 Z β F H a w ds _ x F' H' hA hr hD hW hF h λds' Z' β' a' w' e0 e1 e2=>?_
  cases x with
  |normal=>exact hQ ds' Z' β' a' w' e0 e1 e2
  |exit m=>exact hQ ds' Z' β' a' w' e0 e1 e2
  |ret=>exact hQ ds' Z' β' a' w' e0 e1 e2
 | .label l,_=>λr w0 Z0 Z β F H a w ds Q x F' H' hA hr hD hW hF h hQ=>by
  simp only [DN,T.all,Ay] at h;obtain ⟨rfl,rfl,rfl⟩:=h;exact wpIn_label (hQ ds Z β a w hD hW hF)
 | .goto ..,_=>λr w0 Z0 Z β F H a w ds Q x F' H' hA hr hD hW hF h hQ=>aPX
 | .refuse ..,_=>λr w0 Z0 Z β F H a w ds Q x F' H' hA hr hD hW hF h hQ=>aPX
def dY {L:Lr}(hΓ:∀g S,Γ g=ai S->Valid P G g S) (hK:FR P G K) (c:bC) (hl:∀b∈BD c,Sound P G (.loop b)<|L<|Gs b):Sound P G c (DN P G Γ K (M0 L) c):=Gj (L:=M0 L) hΓ hK c hl
def aLW (a:bf):ResultVar->Sem Value
 | .tmp t=>pure (a.tmps.getD t undef)
 | .cell ad t=>do loadVar t (←asAddr (a.tmps.getD ad undef))
def sF (fn:aVw) (a:bf):results fn a.tmps=(do let vs ←fn.results.mapM (aLW a);pure (if h:vs.size=1 then vs[0] else .tuple vs)):=by
 congr 1
def aFQ {f:ResultVar->Sem Value}{r:ResultVar}{rs:aVR}{z:aW}{vs:aV}(h1:(f r).run P w=.ok z w) (h2:(rs.mapM f).run P w=.ok vs w):((r::rs).mapM f).run P w=.ok (z::vs) w:=by
 simp_all
def dT {fn:aVw}:∀(rs:aVR) (l:aE),RW G w0 Z0 Z β H w->RF ds β Z w (M H) F a->(S9 P fn F H rs).all (λq=>q=l)->
  ∃vs:aV,(rs.mapM<|aLW a).run P w=.ok vs w/\RL β Z w l vs/\AT (M H) l
 | [],l,hW,hF,h=>by
  subst h;exact ⟨[],AI,cJ,an⟩
 | .tmp t::rs,l,hW,hF,h=>by
  obtain ⟨l1,h1,h2⟩:=T.B4 h;obtain ⟨vs,e1,e2,e3⟩:=dT rs l1 hW hF h1
  have ev:=hF.eval hW.Ci<|.tmp t
  refine ⟨a.tmps.getD t undef::vs,?_,?_,?_⟩
  ·exact aFQ rfl e1
  ·rw [<-h2];simp only [RL];exact ⟨_,_,rfl,P4 ev.1,e2⟩
  ·rw [<-h2];exact ⟨TH ev.2,e3⟩
 | .cell ad t::rs,l,hW,hF,h=>by
  obtain ⟨y,h1,h2⟩:=T.B4 h;obtain ⟨l1,h3,h4⟩:=T.B4 h2;obtain ⟨vs,e1,e2,e3⟩:=dT rs l1 hW hF h3
  have ev:=hF.eval hW.Ci<|.tmp ad
  simp only [AM,Act.eval] at ev;obtain ⟨z,f1,f2,f3⟩:=pU hW h1 ev.1 ev.2
  have f1:=f1 w λ_ _=>rfl
  have f4:(do loadVar t (←asAddr (a.tmps.getD ad undef)):Sem Value).run P w=.ok z w:=by
   have hp:∃q,a.tmps.getD ad undef=.pointer (ai q):=by
    have hr:=ev.1
    generalize hx:F.getD ad .junk=x at h1 hr;cases x with
    |own k off=>simp only [R] at hr;exact ⟨_,hr⟩
    |xq n f=>simp only [R] at hr;obtain ⟨b,off,e,_⟩:=hr;exact ⟨_,e⟩
    |op k es i j=>simp only [R] at hr;exact ⟨_,hr.2⟩
    |_=>unfold FU at h1;split at h1<;>simp only [T.all] at h1
   obtain ⟨q,hq⟩:=hp;rw [hq] at f1|-
   simpa [Instr.loadAt,Instr.sureAddr,asAddr] using f1
  refine ⟨z::vs,?_,?_,?_⟩
  ·exact aFQ f4 e1
  ·rw [<-h4];simp only [RL];exact ⟨_,_,rfl,f2,e2⟩
  ·rw [<-h4];exact ⟨f3,e3⟩
def aBH {l:aE}{vs:aV}(h:RL β Z w l vs):R β Z w (one l) (if hs:vs.toArray.size=1 then vs.toArray[0] else .tuple vs.toArray):=by
 unfold one
 have hl:=RL.length h
 split
 ·rename_i x
  obtain ⟨y,zs,e1,e2,e3⟩:=h
  grind
 ·rename_i hne
  have:¬vs.toArray.size=1:=by
   intro h1
   simp at h1
   rw [h1] at hl;cases l with
   |nil=>simp at hl
   |cons x xs=>cases xs with
    |nil=>exact hne x rfl
    |cons _ _=>simp at hl
  rw [dif_neg this];exact tJ A8
def X0 {l:aE}(h:AT n l):okV n (one l):=by
 unfold one;split
 ·exact h.1
 ·exact qq h
def aEr {args:aE}{vals:aY}(hr:RL β Z w args vals.toList) (hok:AT (M H) args) (m:aD):RF [] β Z w (M H) (args++au (m-M args) (.v undef)) {tmps:=vals++Array.replicate (m-vals.size) undef,defers:=[]}:=by
 have hlen:vals.size=M args:=aP6
 refine ⟨A8,λt x hx=>?_,rfl,λ_ h=>As⟩
 by_cases ht:t<M args
 ·rw [Hl ht] at hx
  obtain ⟨y,e1,e2⟩:=RL.get _ _ hr hx
  have e3:(vals++Array.replicate (m-vals.size) undef).getD t undef=y:=by
   have hts:t<vals.size:=A0
   have:vals[t]? =ai y:=A8
   rw [mU,xc hts,this];rfl
  exact ⟨A8,AT.get _ _ hok hx⟩
 ·rw [Gc A0] at hx
  have hx':x=.v undef:=by
   rw [V9] at hx;split at hx
   ·grind
   ·cases hx
  have e3:(vals++Array.replicate (m-vals.size) undef).getD t undef=undef:=by
   rw [mU,Array.getElem?_append_right A0,Array.getElem?_replicate]
   grind
  rw [hx',e3];exact ⟨Jp,an⟩
def adh {b:bC}:Gp P G A (.loop b) (fZ b):=λ_ _ _ _ _ _ _ _ _ _ _ _ _ _ _ _ _ _ _ h=>As
def aeM {b:bC}{t:aE->aH->T (Ex×List LV×List AB)}(hb:Gp P G A b t) (m:aD):Gp P G A (.loop b) (tZ t m):=by
 intro r w0 Z0 Z β F H a w ds Q x F' H' hA hr hD hW hF h hQ;refine wpIn_loop_rounds m ?_
 induction m generalizing Z β F H a w ds with
 |zero=>cases h
 | succ m ih=>
  obtain ⟨⟨y,F1,H1⟩,h1,h2⟩:=T.B4 h;refine hb r w0 Z0 Z β F H a w ds _ y F1 H1 hA hr hD hW hF h1 λds' Z' β' a' w' e0 e1 e2=>?_
  cases y with
  |normal=>exact ih Z' β' F1 H1 a' w' ds' e0 e1 e2 h2
  |exit k=>
   obtain ⟨rfl,rfl,rfl⟩:=h2;exact hQ ds' Z' β' a' w' e0 e1 e2
  |ret=>
   obtain ⟨rfl,rfl,rfl⟩:=h2;exact hQ ds' Z' β' a' w' e0 e1 e2
def Oq (hΓ:∀g S,Γ g=ai S->Valid P G g S) (hK:FR P G K) (m:aD):∀(d:aD) (b:bC),Gp P G A (.loop b) (Fx P G Γ K m d b)
 |0,_=>adh
 |d+1,b=>aeM (Gj hΓ hK b λb' _=>Oq hΓ hK m d b') m
def aG3:∀(ts:List Tmp) (xs:aE) (vs:aV) (F:aE) (a:bf),RF ds β Z w n F a->RL β Z w xs vs->AT n xs->RF ds β Z w n (Xh F ts xs) {a with tmps:=(ts.zip vs).foldl (λt (p,v)=>t.setIfInBounds p v) a.tmps}
 | [],_,_,F,a,hF,_,_=>by simpa [Xh] using hF
 |_::_,[],vs,F,a,hF,hr,_=>by
  subst hr
  simpa [Xh] using hF
 |t::ts,x::xs,vs,F,a,hF,hr,hk=>by
  obtain ⟨y,zs,rfl,h1,h2⟩:=hr;exact aG3 ts xs zs (F.set t x) {a with tmps:=a.tmps.setIfInBounds t y} (hF.put h1 hk.1<|ai t) h2 hk.2
def aob (ps:aVF) (vs:aY) (t:aY):(ps.zip vs).foldl (λt (p,v)=>t.setIfInBounds p v) t=(ps.toList.zip vs.toList).foldl (λt (p,v)=>t.setIfInBounds p v) t:=by
 rw [<-Array.foldl_toList,Array.toList_zip]
def EZ (P:aQ) (G:B5) (LL:DV):Prop:=∀(K:aVG) (g:bh) (fn:aVw) (c:bC) (N:aD) (b:bC),FR P G K->P.funcs[g]? =ai fn->fn.body=ai c->b∈BD c->Gp P G (AN N) (.loop b) (LL K g N b)
def RW.ghost {p:LV×Value}(hW:RW G w0 Z0 Z β H w) (h:R β Z w p.1 p.2/\okV (M H) p.1):RW G w0 ⟨Z0.z,p::Z0.gh,Z0.Cr⟩ Z β H w:=
 ⟨hW.below,hW.Bc,hW.Ep,hW.Cp,hW.GR,hW.low,hW.inj,hW.blk,hW.Ci,λq hq=>by
  rcases B9.1 hq with rfl|hq
  ·exact h
  ·exact hW.gh q hq,hW.Cr⟩
def RW.aqn {p:LV×Value}(hW:RW G w0 ⟨Z0.z,p::Z0.gh,Z0.Cr⟩ Z β H w):RW G w0 Z0 Z β H w:=
 ⟨hW.below,hW.Bc,hW.Ep,hW.Cp,hW.GR,hW.low,hW.inj,hW.blk,hW.Ci,λq hq=>hW.gh q<|N8 _ hq,hW.Cr⟩
def pP {LL:DV} {K:aVG} (hΓ:∀g S,Γ g=ai S->Valid P G g S) (hLL:EZ P G LL) (hK:FR P G K):FR P G (Em P G Γ LL K):=by
  refine ⟨λw0 Z0 Z β H w g args vals lv H' hW hr hok h=>?_,λw0 Z0 Z β H w k args vals lv H' hW hr hok h=>?_⟩
  ·simp only [Em] at h
   split at h
   ·rename_i fn hfn
    split at h
    ·rename_i c hc
     obtain ⟨⟨x,F1,H1⟩,h1,h2⟩:=T.B4 h;refine VF.1<|callsIn_of_wp_marks (n:=0) hfn hc trivial ?_;refine Gj (A:=AN<|M H) (L:=LL K g<|M H) hΓ hK c (λb hb=>hLL _ g fn c (M H) b hK hfn hc hb) ak w0 Z0 Z β _ H _ w [] _ x F1 H1 (λp hp=>(hW.gh p hp).2) (.inl rfl) M5.nil hW (aEr hr hok fn.ntmps) h1 λds' Z' β' a' w' e0 e1 e2=>?_
     have fin:((S9 P fn F1 H1 fn.results.toList).bind λl=>(T.ok (one l,H1):T<|LV×List AB)).all (λq=>q=(lv,H'))->LeavesInM Fence.wide 0 P fn a'.tmps (λe w'=>∃v,e=.returned v/\∃Z' β',RW G w0 Z0 Z' β' H' w'/\R β' Z' w' lv v/\okV (M H') lv) a'.defers .returning w':=λh2=>by
      rw [e2.defers.1];refine aDd ds' w' a' e1 e2 e0 λw'' a'' et f1 f2=>?_
      obtain ⟨l,g1,g2⟩:=T.B4 h2;simp only [T.all,Ay] at g2;obtain ⟨g2,g3⟩:=g2;subst g3;obtain ⟨vs,g3,g4,g5⟩:=dT fn.results.toList l f1 f2 g1;refine ⟨if hs:vs.toArray.size=1 then vs.toArray[0] else .tuple vs.toArray,?_,_,rfl,Z',β',f1,?_,?_⟩
      ·rw [<-et,sF,xZ]
       simp_all
      ·rw [<-g2];exact aBH g4
      ·rw [<-g2];exact X0 g5
     cases x with
     |normal=>exact fin h2
     |ret=>exact fin h2
     |exit m=>cases h2
    ·cases h
   ·cases h
  ·simp only [Em] at h
   split at h
   ·rename_i Fr t ps asg body hb
    split at h
    ·rename_i hc
     obtain ⟨hc1,hc2,hc3⟩:=hc;obtain ⟨⟨y,F1,H1⟩,h1,h2⟩:=T.B4 h
     have hbk:=(hW.blk k _ hb).1
     simp only [Bb] at hbk;obtain ⟨rr,q1,q2,q3,q4,q5,q6⟩:=hbk
     have hokF:AT (M H) Fr:=(hW.blk k _ hb).2.1
     have hvl:vals.size=M args:=aP6
     have hkH:k<M H:=(EF.1 hb).1
     refine ⟨rr,q1,by rw [q2,hvl,hc1],?_⟩
     have hF0:RF [] β Z w (M H) Fr {tmps:=rr.tmps,defers:=[]}:=by
      refine ⟨by have:=RL.length q6;simpa using this,λi x hx=>?_,rfl,λ_ h=>As⟩
      obtain ⟨v,e1,e2⟩:=RL.get i x q6 hx;refine ⟨?_,AT.get i x hokF hx⟩
      have:rr.tmps.getD i undef=v:=by
       rw [mU]
       have:rr.tmps[i]? =ai v:=by simpa using e1
       rw [this];rfl
      rw [this];exact e2
     have hF1:=aG3 ps.toList args vals.toList Fr _ hF0 hr hok
     generalize hl:(β k).b=l at*
     have hyl:R β Z w (.CQ k) (.func (.yield l) #[] #[]):=by simp only [R,hl]
     have hW1:=hW.ghost (p:=(LV.CQ k,Value.func (.yield l) #[] #[])) ⟨hyl,hkH⟩
     have atl:∀ {Z':aD->Prop} {β':aD->aVs} {H':aH} {w':aP},RW G w0 ⟨Z0.z,(LV.CQ k,Value.func (.yield l) #[] #[])::Z0.gh,Z0.Cr⟩ Z' β' H' w'->(β' k).b=l:=λr1=>by
      have:=(r1.gh (LV.CQ k,Value.func (.yield l) #[] #[]) AI).1
      exact aNp
     refine roundIn_of_wpIn trivial ?_;rw [q3,q4,q2,aob];refine Gj (A:=λ_=>True) (L:=fZ) hΓ hK asg (λb _=>adh) (ai l) w0 _ Z β _ H _ w [] _ y F1 H1 trivial (.inr hc2) M5.nil hW1 hF1 h1 λds1 Z1 β1 a1 w1 e0 e1 e2=>?_
     simp only at h2;cases y with
     |exit m=>cases h2
     |ret=>cases h2
     | normal=>
      simp only at h2;split at h2
      ·rename_i Fr1 t1 ps1 asg1 body1 hb1
       obtain ⟨⟨x,F2,H2⟩,h3,h4⟩:=T.B4 h2
       have hbk1:=(e1.blk k _ hb1).1
       simp only [Bb] at hbk1;obtain ⟨r1,p1,p2,p3,p4,p5,p6⟩:=hbk1
       have a1l:=atl e1
       rw [a1l] at p1;refine ⟨_,run_beginRound p1 p5.1,?_⟩
       obtain ⟨t1a,t1b⟩:=RW.turn (t':=t) (nb:=.Cn ps1 asg1 body1 .busy) (r':={r1 with state:=.busy}) e1 hb1 (by
        simp only [Bb];rw [a1l];exact ⟨{r1 with state:=.busy},World.putObj_heap_same (Ho.1 p1).1,p2,p3,p4,rfl,RL.mono (n:=M H1) (λ_ _=>rfl) (λ_ h=>h) (λb hz=>MI λe=>e1.Cp k _ hb1 trivial rfl (by rw [a1l,<-e];exact hz)) _ _ (e1.blk k _ hb1).2.1 p6⟩) ⟨(e1.blk k _ hb1).2.1,an⟩
       rw [a1l] at t1a t1b
       have hF2:RF ds1 β1 Z1 (w1.putObj l<|.loop {r1 with state:=.busy}) (M<|H1.set k ⟨Fr1,t,.Cn ps1 asg1 body1 .busy,X⟩) F1 a1:=by
        rw [C5];exact e2.mono (Ar _) (λ_ _=>rfl) (λ_ h=>h) t1b
       refine Gj (A:=λ_=>True) (L:=Fx P G Γ K 20 2) hΓ hK body (λb _=>Oq hΓ hK 20 2 b) (ai l) w0 _ Z1 β1 _ _ a1 _ ds1 _ x F2 H2 trivial (.inr hc3) e0 t1a hF2 h3 λds2 Z2 β2 a2 w2 f0 f1 f2=>?_
       split at h4
       ·rename_i Fr2 t2 ps2 asg2 body2 hb2
        have hbk2:=(f1.blk k _ hb2).1
        obtain ⟨r2,s1,s2,s3,s4,s5,s6⟩:=hbk2
        have a2l:=atl f1
        rw [a2l] at s1
        have fin:∀(st:LS) (jump:Option Code) (b:aN),LsR st {r2 with state:=if jump.isNone then .ready else .done,pending:=jump}->jump.isNone=b->(T.ok (LV.bl b,H2.set k ⟨Fr2,t,.Cn ps2 asg2 body2 st,X⟩):T<|LV×List AB).all (λq=>q=(lv,H'))->
          ∃v w',(Instr.endRound l jump).run P w2=.ok v w'/\(∃v',Ending.returned v=.returned v'/\∃Z' β',RW G w0 Z0 Z' β' H' w'/\R β' Z' w' lv v'/\okV (M H') lv):=λst jump b hst hj h4=>by
         obtain ⟨rfl,rfl⟩:=h4;refine ⟨_,_,run_endRound jump s1,_,rfl,Z2,β2,?_,?_,an⟩
         ·obtain ⟨t2a,t2b⟩:=RW.turn (t':=t) (nb:=.Cn ps2 asg2 body2 st) (r':={r2 with state:=if jump.isNone then .ready else .done,pending:=jump}) f1 hb2 (by
           simp only [Bb];rw [a2l];exact ⟨_,World.putObj_heap_same (Ho.1 s1).1,s2,s3,s4,hst,RL.mono (n:=M H2) (λ_ _=>rfl) (λ_ h=>h) (λb hz=>MI λe=>f1.Cp k _ hb2 trivial rfl (by rw [a2l,<-e];exact hz)) _ _ (f1.blk k _ hb2).2.1 s6⟩) ⟨(f1.blk k _ hb2).2.1,an⟩
          rw [a2l] at t2a;exact t2a.aqn
         ·simp only [R,hj]
        cases x with
        |normal=>exact fin .ready ak U ⟨rfl,rfl⟩ rfl h4
        |exit m=>exact fin (.done<|.exit m) (ai<|.exit m) X ⟨rfl,rfl⟩ rfl h4
        |ret=>exact fin (.done .ret) (ai .ret) X ⟨rfl,rfl⟩ rfl h4
       ·cases h4
      ·cases h2
    ·cases h
   ·cases h
def aE8 {LL:DV}(hΓ:∀g S,Γ g=ai S->Valid P G g S) (hLL:EZ P G LL):∀(d:aD),FR P G (inl P G Γ LL d)
 |0=>Qa
 |d+1=>pP hΓ hLL<|aE8 hΓ hLL d
def Dk (P:aQ) (G:B5) (g:bh) (m:aE->aH->T (LV×List AB)):Prop:=
 ∀(w0:aP) (Z0:Gz) (Z:aD->Prop) (β:aD->aVs) (H:aH) (w:aP) (args:aE) (vals:aY) (lv:LV) (H':aH),RW G w0 Z0 Z β H w->RL β Z w args vals.toList->AT (M H) args->(m args H).all (λq=>q=(lv,H'))->
  Calls P g vals w λe w'=>∃v,e=.returned v/\∃Z' β',RW G w0 Z0 Z' β' H' w'/\R β' Z' w' lv v/\okV (M H') lv
def aDl {LL:DV}{C:Does}(hΓ:∀g S,Γ g=ai S->Valid P G g S) (hLL:EZ P G LL) (hC:∀g m,C g=ai m->Dk P G g m):∀(d:aD),FR P G (Ux P G Γ LL C d)
 |0=>Qa
 | d+1=>by
  have h:=pP hΓ hLL<|aDl hΓ hLL hC d
  refine ⟨λw0 Z0 Z β H w g args vals lv H' hW hr hok hq=>?_,h.y⟩
  simp only [Ux] at hq;split at hq
  ·rename_i m hm
   exact hC g m hm w0 Z0 Z β H w args vals lv H' hW hr hok hq
  ·exact h.k w0 Z0 Z β H w g args vals lv H' hW hr hok hq
def Dk.walk {LL:DV}{K:aVG}{g:bh}{m:aE->aH->T (LV×List AB)}(hΓ:∀g S,Γ g=ai S->Valid P G g S) (hLL:EZ P G LL) (hK:FR P G K)
  (hm:∀args H lv H',(m args H).all (λq=>q=(lv,H'))->((Em P G Γ LL K).k g args H).all (λq=>q=(lv,H'))):Dk P G g m:=
 λw0 Z0 Z β H w args vals lv H' hW hr hok hq=>(pP hΓ hLL hK).k w0 Z0 Z β H w g args vals lv H' hW hr hok<|hm args H lv H' hq
def EM (P:aQ) (G:B5) (Γ:aVp) (m d:aD):DV:=λK _ _=>Fx P G Γ K m d
def Hz {m d:aD}(hΓ:∀g S,Γ g=ai S->Valid P G g S):EZ P G (EM P G Γ m d):=λ_ _ _ _ _ b hK _ _ _=>Oq hΓ hK m d b
def CR (g:bh) (N id:aD) (t:aE->aH->T (Ex×List LV×List AB)) (LL:DV):DV:=λK g' N' b=>if g'=g/\N'=N/\Gs b=id then t else LL K g' N' b
def DL {g:bh}{N id:aD}{t:aE->aH->T (Ex×List LV×List AB)}{LL:DV}{fn:aVw}{c bd:bC}(hfn:P.funcs[g]? =ai fn) (hc:fn.body=ai c) (hid:(BD c).filter (λb=>Gs b==id)=[bd]) (ht:Gp P G (AN N) (.loop bd) t) (h:EZ P G LL):EZ P G (CR g N id t LL):=by
 intro K g' fn' c' N' b hK hfn' hc' hb;unfold CR;split
 ·rename_i e
  obtain ⟨rfl,rfl,e⟩:=e;rw [hfn] at hfn'
  have:=EE hfn'
  subst this;rw [hc] at hc'
  have:=EE hc'
  subst this
  have hm:b∈(BD c).filter (λb=>Gs b==id):=Ce.2 ⟨hb,A8⟩
  have:b=bd:=A8
  subst this;exact ht
 ·exact h K g' fn' c' N' b hK hfn' hc' hb
def aEW {f:bh}{fn:aVw}{c:bC}{t:aE->aH->T (Ex×List LV×List AB)}(hfn:P.funcs[f]? =ai fn) (hc:fn.body=ai c) (ht:Sound P G c t):Valid P G f (wz P fn t):=by
 intro args vals w Z lv hz hg hok hr h;obtain ⟨⟨x,F',H'⟩,h1,h2⟩:=T.B4 h;refine VF.1<|callsIn_of_wp_marks (n:=0) hfn hc trivial ?_
 have hW:RW G w ⟨Z,[],[]⟩ Z β0 [] w:=⟨Below.refl _ _,hz,λb h=> .inl h,λk b hk=>zg,λk b hk=>zg,λk b hk=>zg,λi j bi bj hi=>by simp at hi,λk b hb=>by simp at hb,hg,λp hp=>oC,λD hD=>(by cases hD)⟩
 have hF:=aEr (H:=[]) hr hok fn.ntmps
 refine ht ak w ⟨Z,[],[]⟩ Z β0 _ [] _ w [] _ x F' H' (λp hp=>oC) (.inl rfl) M5.nil hW hF h1 λds' Z' β' a' w' e0 e1 e2=>?_
 have fin:((S9 P fn F' H' fn.results.toList).bind λl=>if noOwn (one l) then (T.ok (one l):T LV) else (EX H' 8<|one l).bind λ_=> .ok<|C4 H' 8<|one l).all (λx=>x=lv)->LeavesInM Fence.wide 0 P fn a'.tmps (λe w'=>Below w.heap.size w w'/\∃v',e=.returned v'/\okV 0 lv/\R β0 (λb=>Z b\/(w.heap.size<=b/\b<w'.heap.size)) w' lv v') a'.defers .returning w':=λh2=>by
  rw [e2.defers.1];refine aDd ds' w' a' e1 e2 e0 λw'' a'' et f1 f2=>?_
  obtain ⟨l,g1,g2⟩:=T.B4 h2;split at g2
  ·rename_i hno
   obtain ⟨vs,g3,g4,g5⟩:=dT fn.results.toList l f1 f2 g1
   have hok0:okV 0 lv:=by rw [<-g2];exact noOwn_ok _ hno<|X0 g5
   refine ⟨if hs:vs.toArray.size=1 then vs.toArray[0] else .tuple vs.toArray,?_,f1.below,_,rfl,hok0,?_⟩
   ·rw [<-et,sF,xZ]
    simp_all
   ·have:=aBH g4
    rw [g2] at this
    exact R.mono (n:=0) (λ_ hk=>absurd hk A0) (λb hb=>by
     rcases f1.Ep b hb with h|h
     ·exact .inl h
     ·exact .inr ⟨h,f1.Bc b hb⟩) (λ_ _=>rfl) _ _ hok0 this
  ·obtain ⟨_,hg,g2⟩:=T.B4 g2
   have hG:=T.BR (K':=λ_=>True) (λ_ _=>trivial) hg
   obtain ⟨vs,g3,g4,g5⟩:=dT fn.results.toList l f1 f2 g1
   have hok0:okV 0 lv:=by rw [<-g2];exact Qf H' (λk b hb=>(f1.blk k b hb).2) 8 _<|X0 g5
   refine ⟨if hs:vs.toArray.size=1 then vs.toArray[0] else .tuple vs.toArray,?_,f1.below,_,rfl,hok0,?_⟩
   ·rw [<-et,sF,xZ]
    simp_all
   ·have:=Mc (S:=λ_=>True) f1 (λ_ _ _ _ _ _=>trivial) 8 _ _ hG (λ_ _=>trivial) (X0 g5) (aBH g4)
    rw [g2] at this
    exact R.mono (n:=0) (λ_ hk=>absurd hk A0) (λb hb=>by
     rcases hb with hb|⟨k,bk,_,h2,h3,rfl⟩
     ·rcases f1.Ep b hb with h|h
      ·exact .inl h
      ·exact .inr ⟨h,f1.Bc b hb⟩
     ·exact .inr ⟨f1.low k bk h2 h3,f1.lt h2 h3⟩) (λ_ _=>rfl) _ _ hok0 this
 cases x with
 |normal=>exact fin h2
 |ret=>exact fin h2
 |exit m=>cases h2
def aof {f:bh}{fn:aVw}{c:bC}{S:aE->T LV}{L:Lr}(hfn:P.funcs[f]? =ai fn) (hc:fn.body=ai c) (hΓ:∀g S,Γ g=ai S->Valid P G g S) (hK:FR P G K)
  (hL:∀b∈BD c,Sound P G (.loop b)<|L<|Gs b) (hS:∀args lv,(S args).all (λx=>x=lv)->(wu P G Γ K L fn args).all (λx=>x=lv)):Valid P G f S:=λargs vals w Z lv hz hg hok hr h=>
 aEW hfn hc (dY hΓ hK c hL) args vals w Z lv hz hg hok hr (by have:=hS args lv h;unfold wu at this;simpa only [hc] using this)
end Go.Sx
namespace Go.Sx
open Go Go.RowKit Go.Proofs.YtepoohnehmfflaaGreatDoor
variable {P : Program} {G : B5} {Γ : Specs} {L : Lr} {β : Nat -> Loc} {Z : Nat -> Prop} {Z0 : Gz} {w w0 : World} {F : List LV} {H : List AB} {a : Act} {ds : List Deferred} {n : Nat}
def qn {c:bC}(h:BD c=[]):∀b∈BD c,Sound P G (.loop b) (L<|Gs b):=λb hb=>A8
def Vs (P:aQ) (G:B5):List (FuncId×(List LV->T LV))->Prop
 | []=>True
 |p::ps=>Valid P G p.1 p.2/\Vs P G ps
def qU:∀ {l:List<|FuncId×(List LV->T LV)},Vs P G l->∀g S,DU l g=ai S->Valid P G g S
 | [],_,g,S,h=>As
 |p::ps,hv,g,S,h=>by
  simp only [DU] at h;split at h
  ·rename_i hg;simp only [Ah] at h;subst h hg;exact hv.1
  ·exact qU hv.2 g S h
def aFq {α:Type}{t t':T α}{K:α->Prop}(h:t=t') (h':t'.all K):t.all K:=h▸h'
end Go.Sx
namespace Go.Sx
open Go Go.RowKit Go.Proofs.YtepoohnehmfflaaGreatDoor
variable {P : Program} {G : B5} {Γ : Specs} {L : Lr} {β : Nat -> Loc} {Z : Nat -> Prop} {Z0 : Gz} {w w0 : World} {F : List LV} {H : List AB} {a : Act} {ds : List Deferred} {n : Nat}
def pos (k:aD):aI->aD->Nat
 | [],i=>i
 |j::js,i=>if k=j then i else pos k js (i+1)
def aDQ {k:aD}:∀ {ks:aI}(i:aD),k∈ks->i<=pos k ks i/\ks[pos k ks i-i]? =ai k/\pos k ks i<i+M ks
 | [],i,h=>As
 | j::js,i,h=>by
  simp only [pos];split
  ·grind
  ·rename_i e
   have hk:k∈js:=by
    rcases B9.1 h with h|h
    ·grind
    ·exact h
   obtain ⟨h1,h2,h3⟩:=aDQ (i+1) hk;refine ⟨A0,?_,A8⟩
   grind
mutual
def renV (ks:aI):LV->LV
 | .v x=> .v x
 | .bl b=> .v (.bool b)
 | .ki k n=> .v (ah k n)
 | .own k off=> .own (pos k ks 0) off
 | .agg l=> .agg (renL ks l)
 | .AQ l=> .AQ (renL ks l)
 | .fn f l=> .fn f (renL ks l)
 | .fb f l=> .fb f (renL ks l)
 | .xq n f=> .xq n f
 | .xl e l=> .xl e l
 | .os k es off n=> .os (pos k ks 0) es off n
 | .op k es i j=> .op (pos k ks 0) es i j
 | .om k=> .om (pos k ks 0)
 | .mp kd kk l=> .mp kd kk (renL ks l)
 | .oc k es off n c=> .oc (pos k ks 0) es off n c
 | .CQ k=> .CQ (pos k ks 0)
 | .junk=> .junk
def renL (ks:aI):aE->List LV
 | []=>[]
 |x::xs=>renV ks x::renL ks xs
end
def K6 (ks:aI):BK->BK
 | .cl=> .cl
 | .vec e l=> .vec e l
 | .mp kd kk vs=> .mp kd kk (renL ks vs)
 | .Cn ps asg body st=> .Cn ps asg body st
 | .st e l=> .st e l
 | .dead=> .dead
def Ik (ks:aI) (b:AB):AB:=⟨renL ks b.c,b.t,K6 ks b.k,b.p⟩
def Ug:AB:=⟨[],0,.dead,X⟩
def nodupB:aI->Bool
 | []=>U
 |k::ks=>!ks.contains k&&nodupB ks
def aEP:∀ {ks:aI},nodupB ks=U->∀(i j k:aD),ks[i]? =ai k->ks[j]? =ai k->i=j
 | [],_,i,j,k,h,_=>A8
 | x::xs,hn,i,j,k,hi,hj=>by
  simp only [nodupB,AV,D6] at hn;cases i with
  | zero=>
   cases j with
   |zero=>rfl
   |succ j=>
    grind
  | succ i=>
   cases j with
   |zero=>
    grind
   |succ j=>
    rw [aEP hn.2 i j k hi hj]
def Rn (ks:aI) (β β':aD->aVs):Prop:=∀i k,ks[i]? =ai k->β' i=β k
def Rn.at {ks:aI}{β':aD->aVs}(h:Rn ks β β') {k:aD}(hk:k∈ks):β' (pos k ks 0)=β k/\pos k ks 0<M ks:=by
 obtain ⟨_,h2,h3⟩:=aDQ 0 hk;exact ⟨h _ _ A8,A0⟩
mutual
def ren_R {ks:aI}{β':aD->aVs}{n:aD}(h:Rn ks β β'):∀(x:LV) (y:aW),(∀k,k∈owns x->k∈ks)->okV n x->R β Z w x y->R β' Z w (renV ks x) y
 | .v _,_,_,_,hr=>hr
 | .bl _,_,_,_,hr=>hr
 | .ki _ _,_,_,_,hr=>hr
 | .own k off,y,ho,hok,hr=>by
  exact VJ
 | .agg l,y,ho,hok,hr=>by
  exact nF
 | .AQ l,y,ho,hok,hr=>by
  exact nF
 | .fn f l,y,ho,hok,hr=>by
  exact nF
 | .fb f l,y,ho,hok,hr=>by
  exact nF
 | .xq n f,y,ho,hok,hr=>by
  simp only [renV,R,okV] at*;obtain ⟨b,off,h1,h2,h3⟩:=hr;refine ⟨b,off,h1,h2,λj hj=>?_⟩
  obtain ⟨z,h4,h5⟩:=h3 j hj;exact ⟨z,h4,R.mono (n:=0) (λ_ hk=>absurd hk A0) (λ_ h=>h) (λ_ _=>rfl) _ _ (hok j) h5⟩
 | .xl e l,y,ho,hok,hr=>by simp only [renV,R] at*;exact hr
 | .os k es off n,y,ho,hok,hr=>by
  exact VJ
 | .op k es i j,y,ho,hok,hr=>by
  exact VJ
 | .om k,y,ho,hok,hr=>by
  exact VJ
 | .mp kd kk l,y,ho,hok,hr=>by
  simp only [renV,R,owns,okV] at*;obtain ⟨r,es,clock,h1,h2,h3,h4,h5⟩:=hr;exact ⟨r,es,clock,h1,h2,h3,h4,ren_RL h l _ ho hok h5⟩
 | .oc k es off n c,y,ho,hok,hr=>by
  exact VJ
 | .CQ k,y,ho,hok,hr=>by
  exact VJ
 | .junk,_,_,_,_=>by simp only [renV,R]
def ren_RL {ks:aI}{β':aD->aVs}{n:aD}(h:Rn ks β β'):∀(l:aE) (ys:aV),(∀k,k∈ownsL l->k∈ks)->AT n l->RL β Z w l ys->RL β' Z w (renL ks l) ys
 | [],_,_,_,hr=>by simpa only [renL,RL] using hr
 |x::xs,ys,ho,hok,hr=>by
  simp only [renL,RL,ownsL,BZ,AT] at*;obtain ⟨y,zs,h1,h2,h3⟩:=hr;exact ⟨y,zs,h1,ren_R h x y (λk hk=>ho k (.inl hk)) hok.1 h2,ren_RL h xs zs (λk hk=>ho k (.inr hk)) hok.2 h3⟩
end
mutual
def ren_ok {ks:aI}{n:aD}:∀(x:LV),(∀k,k∈owns x->k∈ks)->okV n x->okV (M ks) (renV ks x)
 | .v _,_,_=>trivial
 | .bl _,_,_=>trivial
 | .ki _ _,_,_=>trivial
 | .own k off,ho,_=>VN
 | .agg l,ho,hk=>bS
 | .AQ l,ho,hk=>bS
 | .fn f l,ho,hk=>bS
 | .fb f l,ho,hk=>bS
 | .xq n f,_,hk=>by simpa only [renV,okV] using hk
 | .xl _ _,_,_=>trivial
 | .os k _ _ _,ho,_=>VN
 | .op k _ _ _,ho,_=>VN
 | .om k,ho,_=>VN
 | .mp kd kk l,ho,hk=>bS
 | .oc k _ _ _ _,ho,_=>VN
 | .CQ k,ho,_=>VN
 | .junk,_,_=>trivial
def ren_okL {ks:aI}{n:aD}:∀(l:aE),(∀k,k∈ownsL l->k∈ks)->AT n l->AT (M ks) (renL ks l)
 | [],_,_=>trivial
 |x::xs,ho,hk=>by
  simp only [renL,AT,ownsL,BZ] at*;exact ⟨ren_ok x (λk hk=>ho k (.inl hk)) hk.1,ren_okL xs (λk hk=>ho k (.inr hk)) hk.2⟩
end
def eN {ks:aI}{β':aD->aVs}{i k:aD}{b:AB}(h:β' i=β k):live β' i (Ik ks b)↔live β k b:=by
 unfold live Ik;cases hb:b.k<;>simp [K6,h]
def oM (N:aD) (ks:aI):aN:=ks.take N==av N
def aGY {N:aD}{ks:aI}(h:oM N ks=U):N<=M ks/\∀i,i<N->ks[i]? =ai i:=by
 have h:ks.take N=av N:=by simpa [oM] using h
 have hl:=B0 M h
 simp at hl
 refine ⟨A0,λi hi=>?_⟩
 have:=B0 (λl=>l[i]?) h
 simp only [LQ,AD hi] at this;rw [this]
 simp [hi]
def RW.ren {N:aD}{ks:aI}{l:aE}(hgh:AN N Z0) (hW:RW G w0 Z0 Z β H w) (hc:Kd H ks l=U) (hn:nodupB ks=U) (hpin:oM N ks=U):
  ∃β',Rn ks β β'/\RW G w0 Z0 Z β' (ks.map λk=>Ik ks<|H.getD k Ug) w:=by
 have hex:∀k,k∈ks->∃b,H[k]? =ai b:=λk hk=>by
  unfold Kd at hc;simp only [AV,BH] at hc
  have:=hc.2 k hk
  cases hb:H[k]? with
  |none=>rw [hb] at this;cases this
  |some b=>exact ⟨b,rfl⟩
 obtain ⟨c1,c2⟩:=Sz hc;refine ⟨λi=>β<|ks.getD i 0,λi k hi=>by simp [List.getD,hi],?_⟩
 have hRn:Rn ks β (λi=>β<|ks.getD i 0):=λi k hi=>by simp [List.getD,hi]
 generalize hβ':(λi=>β<|ks.getD i 0)=β' at hRn|-
 have old:∀i b,(ks.map λk=>Ik ks<|H.getD k Ug)[i]? =ai b->∃k b0,ks[i]? =ai k/\k∈ks/\H[k]? =ai b0/\b=Ik ks b0/\β' i=β k:=λi b hb=>by
  rw [Dh] at hb;cases hk:ks[i]? with
  |none=>simp [hk] at hb
  |some k=>
   have hkm:=OV hk
   grind
 refine ⟨hW.below,hW.Bc,hW.Ep,λi b hb hl hp=>?_,λi b hb hl hp=>?_,λi b hb hl=>?_,λi j bi bj hi hj li lj pi e=>?_,λi b hb=>?_,hW.Ci,λp hp=>⟨R.mono (n:=N) (λk hk=>hRn k k<|(aGY hpin).2 k hk) (λ_ h=>h) (λ_ _=>rfl) _ _ (hgh p hp) (hW.gh p hp).1,okV.mono (by rw [GH];exact (aGY hpin).1) _<|hgh p hp⟩,hW.Cr⟩
 ·obtain ⟨k,b0,h1,h2,h3,rfl,h5⟩:=old i b hb
  rw [h5];exact hW.Cp k b0 h3 ((eN h5).1 hl) hp
 ·obtain ⟨k,b0,h1,h2,h3,rfl,h5⟩:=old i b hb
  rw [h5];exact hW.GR k b0 h3 ((eN h5).1 hl) hp
 ·obtain ⟨k,b0,h1,h2,h3,rfl,h5⟩:=old i b hb
  rw [h5];exact hW.low k b0 h3<|(eN h5).1 hl
 ·obtain ⟨k,b0,h1,h2,h3,rfl,h5⟩:=old i bi hi
  obtain ⟨k',b1,g1,g2,g3,rfl,g5⟩:=old j bj hj;rw [h5,g5] at e
  have:=hW.inj k k' b0 b1 h3 g3 ((eN h5).1 li) ((eN g5).1 lj) pi e
  subst this;exact aEP hn i j k h1 g1
 ·obtain ⟨k,b0,h1,h2,h3,rfl,h5⟩:=old i b hb
  obtain ⟨q1,q2⟩:=hW.blk k b0 h3
  have ow:=c2 k b0 h2 h3
  have owc:∀j,j∈ownsL b0.c->j∈ks:=λj hj=>ow j (by unfold AB.owns;exact BZ.2<|.inl hj)
  rw [GH];refine ⟨?_,ren_okL _ owc q2.1,?_⟩
  ·unfold Bb at q1|-
   unfold Ik;cases hbk:b0.k with
   |cl=>
    simp only [hbk,K6] at q1|-;obtain ⟨cs,e1,e2⟩:=q1;exact ⟨cs,zT,ren_RL hRn _ _ owc q2.1 e2⟩
   |vec e l=>
    simp only [hbk,K6] at q1|-;rw [h5];exact q1
   |mp kd kk vs=>
    simp only [hbk,K6] at q1|-;obtain ⟨es,clock,e1,e2,e3⟩:=q1;exact ⟨es,clock,zT,e2,ren_RL hRn _ _ (λj hj=>ow j aOR) (by have:=q2.2;rw [hbk] at this;exact this) e3⟩
   |Cn ps asg body st=>
    simp only [hbk,K6] at q1|-;obtain ⟨r,e1,e2,e3,e4,e5,e6⟩:=q1;exact ⟨r,zT,e2,e3,e4,e5,ren_RL hRn _ _ owc q2.1 e6⟩
   |st e l=>
    simp only [hbk,K6] at q1|-;rw [h5];exact q1
   |dead=>simp only [K6]
  ·have q22:=q2.2
   unfold Ik;cases hbk:b0.k with
   |mp kd kk vs=>
    simp only [hbk,K6] at q22|-;exact ren_okL _ (λj hj=>ow j aOR) q22
   |cl=>simp only [K6]
   |vec e l=>simp only [K6]
   |Cn ps asg body st=>simp only [K6]
   |st e l=>simp only [K6]
   |dead=>simp only [K6]
def at_ (i:aD):aI->aE->LV
 |j::js,x::xs=>if i=j then x else at_ i js xs
 |_,_=> .junk
def Qn (live:aI) (vals:aE):aD->aD->List LV
 |0,_=>[]
 |n+1,i=>at_ i live vals::Qn live vals n (i+1)
def I0 (n:aD) (live:aI) (vals:aE):aE:=Qn live vals n 0
def aDS (live:aI) (vals:aE):∀n i,M (Qn live vals n i)=n
 |0,_=>rfl
 |n+1,i=>by simp [Qn,aDS live vals n<|i+1]
def aEK (live:aI) (vals:aE):∀n i k,k<n->(Qn live vals n i)[k]? =ai (at_ (i+k) live vals)
 |0,_,k,h=>A0
 |n+1,i,0,_=>by simp [Qn]
 |n+1,i,k+1,h=>by
  simp only [Qn,mN];rw [aEK live vals n (i+1) k A0]
  grind
def aTG (i:aD):∀(live:aI) (vals:aE),at_ i live vals=.junk\/∃p:aD,live[p]? =ai i/\vals[p]? =ai (at_ i live vals)
 | [],_=> .inl rfl
 |_::_,[]=> .inl rfl
 | j::js,x::xs=>by
  simp only [at_];split
  ·rename_i h;exact .inr ⟨0,o9,AI⟩
  ·rcases aTG i js xs with h|⟨p,h1,h2⟩
   ·exact .inl h
   ·exact .inr ⟨p+1,A8,A8⟩
def Ts (live:aI) (F:aE):aE:=live.map λj=>norm<|F.getD j .junk
def aqe {live:aI}(hF:RF ds β Z w n F a):RL β Z w (Ts live F) (live.map λj=>a.tmps.getD j undef)/\AT n (Ts live F):=by
 have one:∀j,R β Z w (F.getD j .junk) (a.tmps.getD j undef)/\okV n (F.getD j .junk):=λj=>by
  cases hj:F[j]? with
  |none=>simp [List.getD,hj,R,okV]
  |some x=>simp only [List.getD,hj,mr];exact hF.get j x hj
 refine ⟨RL.CW (by simp [Ts]) λi x hx=>?_,AT.CW λi x hx=>?_⟩
 ·simp only [Ts,Dh] at hx|-
  cases hl:live[i]? with
  |none=>simp [hl] at hx
  |some j=>simp [hl] at hx;subst hx;exact ⟨_,AI,P4 (one j).1⟩
 ·simp only [Ts,Dh] at hx
  cases hl:live[i]? with
  |none=>simp [hl] at hx
  |some j=>simp [hl] at hx;subst hx;exact TH (one j).2
def aps {live:aI}{vals:aE}{N:aD}(hs:a.tmps.size=N) (hd:a.defers=ds/\∀d,d∈ds->∃D,d=Gr D/\Z D/\Fv w D) (h:RL β Z w vals<|live.map λj=>a.tmps.getD j undef) (hk:AT n vals):RF ds β Z w n (I0 N live vals) a:=by
 refine ⟨by rw [hs];simp [I0,aDS],λt x hx=>?_,hd⟩
 have ht:t<N:=by have:=(EF.1 hx).1;simpa [I0,aDS] using this
 unfold I0 at hx;rw [aEK live _ _ _ t ht] at hx;simp only [Ah,F5] at hx;rcases aTG t live vals with h1|⟨p,h1,h2⟩
 ·rw [hx] at h1;subst h1;exact ⟨Jp,an⟩
 ·rw [hx] at h2
  obtain ⟨y,e1,e2⟩:=RL.get _ _ h h2;simp only [Dh,h1,Jn,Ah] at e1;subst e1;exact ⟨e2,AT.get _ _ hk h2⟩
inductive Up where
 |nl (i:Nat) (t:TypeId) (ty:Ty)
 |pb (i:Nat) (ty:Ty)
 |nc (k j:Nat) (t:TypeId) (ty:Ty)
 |pc (k j:Nat) (ty:Ty)
 |pk (k:Nat)
 |ns (i j:Nat) (t:TypeId) (ty:Ty)
 |ps (i j:Nat) (ty:Ty)
 |mc (k j:Nat)
 |kb (k:Nat)
 |ms (i j:Nat)
def aoM (F:aE):Up->Up
 | .ns i j t ty=>match F.getD i .junk with
  | .own k _=> .nc k j t ty
  |_=> .ns i j t ty
 | .ps i j ty=>match F.getD i .junk with
  | .own k _=> .pc k j ty
  |_=> .ps i j ty
 | .ms i j=>match F.getD i .junk with
  | .own k _=> .mc k j
  |_=> .ms i j
 |u=>u
def DP:List Up->aE->aH->T (List LV×List AB)
 | [],F,H=> .ok (F,H)
 | .nl i t ty::us,F,H=>match F.getD i .junk with
  | .v (.slice ak 0 0)=>DP us (F.set i<|.os (M H) ty.n 0 0) (H++[⟨[],t,.vec ty [],X⟩])
  |_=>DP us F H
 | .pb i ty::us,F,H=>match F.getD i .junk with
  | .v (.slice ak 0 0)=>DP us (F.set i<|.xl ty []) H
  | .os k es off n=>if Kd H (reach H 64 [k] []) [.os k es off n] then (EX H 6<|.os k es off n).bind λ_=>DP us (F.set i<|C4 H 6<|.os k es off n) (Fs (reach H 64 [k] []) 0 H) else .no
  |_=>DP us F H
 | .nc k j t ty::us,F,H=>match H[k]? with
  |some ⟨c,bt,.cl,X⟩=>(match c[j]? with
   |some (.v (.slice ak 0 0))=>DP us F (H.set k ⟨c.set j<|.os (M H) ty.n 0 0,bt,.cl,X⟩++[⟨[],t,.vec ty [],X⟩])
   |_=>DP us F H)
  |_=>DP us F H
 | .pc k j ty::us,F,H=>match H[k]? with
  |some ⟨c,bt,.cl,X⟩=>(match c[j]? with
   |some (.v (.slice ak 0 0))=>DP us F (H.set k ⟨c.set j<|.xl ty [],bt,.cl,X⟩)
   |some (.os k' es off n)=>if Kd H (reach H 64 [k'] []) [.os k' es off n]&&!(reach H 64 [k'] []).contains k then (EX H 6<|.os k' es off n).bind λ_=>DP us F ((Fs (reach H 64 [k'] []) 0 H).set k ⟨c.set j<|C4 H 6<|.os k' es off n,bt,.cl,X⟩) else .no
   |_=>DP us F H)
  |_=>DP us F H
 | .pk k::us,F,H=>DP us F (Fs (reach H 64 [k] []) 0 H)
 | .kb k::us,F,H=>DP us F (H.set k ⟨[],0,.dead,X⟩)
 | .ns ..::us,F,H=>DP us F H
 | .ps ..::us,F,H=>DP us F H
 | .mc k j::us,F,H=>match H[k]? with
  | some ⟨c,bt,.cl,X⟩=>(match c[j]? with
   |some (.os k' es off n)=>(match H[k']? with
    |some ⟨[],t,.vec e l,X⟩=>DP us F ((H.set k' (⟨[],t,.dead,X⟩:AB)++[(⟨[],t,.vec e l,X⟩:AB)]).set k ⟨c.set j<|.os (M H) es off n,bt,.cl,X⟩)
    |_=>DP us F H)
   |_=>DP us F H)
  |_=>DP us F H
 | .ms ..::us,F,H=>DP us F H
def RL.set':∀ {l:aE}{ys:aV}{j:aD}{x:LV}{y:aW},RL β Z w l ys->ys[j]? =ai y->R β Z w x y->RL β Z w (l.set j x) ys
 | [],ys,j,x,y,h,hy,_=>A8
 |z::l,ys,0,x,y,h,hy,hr=>by
  obtain ⟨y0,zs,rfl,h1,h2⟩:=h
  simp at hy
  subst hy;exact ⟨_,zs,rfl,hr,h2⟩
 |z::l,ys,j+1,x,y,h,hy,hr=>by
  obtain ⟨y0,zs,rfl,h1,h2⟩:=h;exact ⟨y0,zs,rfl,h1,RL.set' h2 A8 hr⟩
def AT.set' {n:aD}:∀ {l:aE}{j:aD}{x:LV},AT n l->okV n x->AT n (l.set j x)
 | [],_,_,h,_=>A8
 |z::l,0,x,h,hx=>⟨hx,h.2⟩
 |z::l,j+1,x,h,hx=>⟨h.1,AT.set' h.2 hx⟩
def RW.tell {k j:aD}{c:aE}{bt:aT}{x:LV}(hW:RW G w0 Z0 Z β H w) (hb:H[k]? =ai ⟨c,bt,.cl,X⟩) (hx:∀y,(∃z,c[j]? =ai z/\R β Z w z y)->R β Z w x y) (hj:∃z,c[j]? =ai z) (hok:okV (M H) x):RW G w0 Z0 Z β (H.set k ⟨c.set j x,bt,.cl,X⟩) w:=by
 obtain ⟨h1,h2⟩:=hW.blk k _ hb;obtain ⟨cs,g1,g2⟩:=h1;obtain ⟨z,hz⟩:=hj;obtain ⟨y,q1,q2⟩:=RL.get j z g2 hz;refine hW.set hb trivial rfl rfl ⟨AT.set' h2.1 hok,an⟩ rfl ⟨rfl,rfl,rfl⟩ (λ_ _=>rfl) ?_
 exact ⟨cs,g1,RL.set' g2 q1<|hx y ⟨z,hz,q2⟩⟩
def Jr:∀(us:List Up) (F:aE) (H:aH) (Z:aD->Prop) (β:aD->aVs) (F1:aE) (H1:aH),RW G w0 Z0 Z β H w->RF ds β Z w (M H) F a->(DP us F H).all (λq=>q=(F1,H1))->∃Z' β',RW G w0 Z0 Z' β' H1 w/\RF ds β' Z' w (M H1) F1 a/\M F1=M F
 | [],F,H,Z,β,F1,H1,hW,hF,h=>by
  simp only [DP,T.all,Ay] at h;obtain ⟨rfl,rfl⟩:=h;exact ⟨Z,β,hW,hF,rfl⟩
 | .nl i t ty::us,F,H,Z,β,F1,H1,hW,hF,h=>by
  simp only [DP] at h;split at h
  ·rename_i hx
   obtain ⟨s1,s2⟩:=hF.slot hx AI
   have hv:=(hF.get i _ s1).1
   simp only [R] at hv;obtain ⟨β',b1,b2,b3⟩:=hW.Ks (ℓ:=⟨w.heap.size,0,ak⟩) (nb:=⟨[],t,.vec ty [],X⟩) rfl ⟨an,an⟩ (λhl=>absurd rfl hl) λβ' g1 g2=>zR
   have hF1:RF ds β' Z w (M<|H++[(⟨[],t,.vec ty [],X⟩:AB)]) F a:=hF.mono AI b1 (λ_ h=>h) λ_ _=>rfl
   obtain ⟨Z2,β2,c1,c2,c3⟩:=Jr us (F.set i<|.os (M H) ty.n 0 0) _ Z β' F1 H1 b3 (hF1.know (by simp only [R,b2];exact ⟨an,an,hv⟩) MM) h
   exact yZ
  ·exact Oe
 | .pb i ty::us,F,H,Z,β,F1,H1,hW,hF,h=>by
  simp only [DP] at h;split at h
  ·rename_i hx
   obtain ⟨s1,s2⟩:=hF.slot hx AI
   have hv:=(hF.get i _ s1).1
   simp only [R] at hv;obtain ⟨Z2,β2,c1,c2,c3⟩:=Jr us (F.set i<|.xl ty []) H Z β F1 H1 hW (hF.know (by simp only [R];exact ⟨ak,0,hv,Ar _,λh=>by simp at h⟩) trivial) h
   exact yZ
  ·rename_i k es off n hx
   split at h
   ·rename_i hcl
    obtain ⟨s1,s2⟩:=hF.slot hx AI
    have hv:=hF.get i _ s1
    obtain ⟨_,hg,h2⟩:=T.B4 h
    have hG:GX H 6 (.os k es off n):=T.BR (K':=λ_=>True) (λ_ _=>trivial) hg
    obtain ⟨q1,q2⟩:=Sz hcl
    have hP:=hW.pub<|reach H 64 [k] []
    have hH:=λk b hb=>(hW.blk k b hb).2
    have hr:=Mc (S:=λj=>j∈reach H 64 [k] []) hW q2 6 _ _ hG (λj hj=>q1 j aPJ) hv.2 hv.1
    have hF1:RF ds β (ZP Z β H λj=>j∈reach H 64 [k] []) w (M<|Fs (reach H 64 [k] []) 0 H) F a:=by
     exact aNm
    obtain ⟨Z2,β2,c1,c2,c3⟩:=Jr us (F.set i<|C4 H 6<|.os k es off n) _ _ β F1 H1 hP (hF1.know hr<|okV.mono (N9 _) _<|Qf H hH 6 _ hv.2) h2;exact yZ
   ·cases h
  ·exact Oe
 | .nc k j t ty::us,F,H,Z,β,F1,H1,hW,hF,h=>by
  simp only [DP] at h;split at h
  ·rename_i c bt hb
   split at h
   ·rename_i hj
    have hkl:k<M H:=(EF.1 hb).1
    obtain ⟨β',b1,b2,b3⟩:=hW.Ks (ℓ:=⟨w.heap.size,0,ak⟩) (nb:=⟨[],t,.vec ty [],X⟩) rfl ⟨an,an⟩ (λhl=>absurd rfl hl) λβ' g1 g2=>zR
    have hb':(H++[(⟨[],t,.vec ty [],X⟩:AB)])[k]? =ai ⟨c,bt,.cl,X⟩:=by rw [Hl hkl];exact hb
    have hT:=b3.tell (j:=j) (x:=.os (M H) ty.n 0 0) hb' (λy ⟨z,hz,hr⟩=>by
     rw [hj] at hz
     have:=EE hz
     subst this;simp only [R] at hr;simp only [R,b2];exact ⟨an,an,hr⟩) ⟨_,hj⟩ MM
    rw [List.set_append_left _ _ hkl] at hT
    have hF1:RF ds β' Z w (M<|H.set k ⟨c.set j<|.os (M H) ty.n 0 0,bt,.cl,X⟩++[(⟨[],t,.vec ty [],X⟩:AB)]) F a:=hF.mono AI b1 (λ_ h=>h) λ_ _=>rfl
    exact Jr us F _ Z β' F1 H1 hT hF1 h
   ·exact Oe
  ·exact Oe
 | .pc k j ty::us,F,H,Z,β,F1,H1,hW,hF,h=>by
  simp only [DP] at h;split at h
  ·rename_i c bt hb
   split at h
   ·rename_i hj
    have hT:=hW.tell (j:=j) (x:=.xl ty []) hb (λy ⟨z,hz,hr⟩=>by
     rw [hj] at hz
     have:=EE hz
     subst this;simp only [R] at hr|-;exact ⟨ak,0,hr,Ar _,λh=>by simp at h⟩) ⟨_,hj⟩ trivial
    exact Jr us F _ Z β F1 H1 hT (hF.mono AI (λ_ _=>rfl) (λ_ h=>h) λ_ _=>rfl) h
   ·rename_i k' es off n hj
    split at h
    ·rename_i hcl
     simp only [AV,D6] at hcl;obtain ⟨hcl,hnk⟩:=hcl;obtain ⟨_,hg,h2⟩:=T.B4 h
     have hG:GX H 6 (.os k' es off n):=T.BR (K':=λ_=>True) (λ_ _=>trivial) hg
     obtain ⟨q1,q2⟩:=Sz hcl
     have hP:=hW.pub<|reach H 64 [k'] []
     have hH:=λk b hb=>(hW.blk k b hb).2
     have hok:okV (M H) (.os k' es off n):=AT.get j _ (hH k _ hb).1 hj
     have hb':(Fs (reach H 64 [k'] []) 0 H)[k]? =ai ⟨c,bt,.cl,X⟩:=by
      rw [dj,hb];simp only [Jn,F5,hnk];rfl
     have hT:=hP.tell (j:=j) (x:=C4 H 6<|.os k' es off n) hb' (λy ⟨z,hz,hr⟩=>by
      rw [hj] at hz
      have:=EE hz
      subst this
      have hr':R β Z w (.os k' es off n) y:=by simpa only [R] using hr
      exact Mc (S:=λj=>j∈reach H 64 [k'] []) hW q2 6 _ _ hG (λj hj=>q1 j aPJ) hok hr') ⟨_,hj⟩<|okV.mono (N9 _) _<|Qf H hH 6 _ hok
     exact Jr us F _ _ β F1 H1 hT (hF.mono (by simp [KP]) (λ_ _=>rfl) (λ_ h=> .inl h) λ_ _=>rfl) h2
    ·cases h
   ·exact Oe
  ·exact Oe
 | .pk k::us,F,H,Z,β,F1,H1,hW,hF,h=>by
  simp only [DP] at h
  have hP:=hW.pub<|reach H 64 [k] []
  have hF1:RF ds β (ZP Z β H λj=>j∈reach H 64 [k] []) w (M<|Fs (reach H 64 [k] []) 0 H) F a:=by
   exact aNm
  exact Jr us F _ _ β F1 H1 hP hF1 h
 | .kb k::us,F,H,Z,β,F1,H1,hW,hF,h=>Jr us F _ Z β F1 H1 (hW.kill k 0) (hF.mono AI (λ_ _=>rfl) (λ_ h=>h) λ_ _=>rfl) nY
 | .mc k j::us,F,H,Z,β,F1,H1,hW,hF,h=>by
  simp only [DP] at h;split at h
  ·rename_i c bt hb
   split at h
   ·rename_i k' es off n hj
    split at h
    ·rename_i t e l hk'
     have hkk:k≠k':=λq=>by subst q;rw [hb] at hk';simp at hk'
     have hK:=hW.kill k' t
     obtain ⟨β',b1,b2,b3⟩:=hK.Ks (ℓ:=β k') (nb:=⟨[],t,.vec e l,X⟩) rfl ⟨an,an⟩ (λhl=>by
       have hl':live β k' (⟨[],t,.vec e l,X⟩:AB):=hl
       refine ⟨hW.Cp k' _ hk' hl' rfl,hW.low k' _ hk' hl',λi bi hi li e=>?_⟩
       rw [IT] at hi;split at hi
       ·split at hi
        ·simp only [Ah] at hi;subst hi;exact li
        ·cases hi
       ·rename_i hne
        exact hne<|hW.inj k' i _ _ hk' hi hl' li rfl e.symm) (λβ' g1 g2=>by
       have:=(hW.blk k' _ hk').1
       simp only [Bb] at this|-;rw [g2];exact this)
     simp only [C5] at b1 b2
     have hlen:M (H.set k' ⟨[],t,.dead,X⟩++[(⟨[],t,.vec e l,X⟩:AB)])=M H+1:=AI
     have hb':(H.set k' ⟨[],t,.dead,X⟩++[(⟨[],t,.vec e l,X⟩:AB)])[k]? =ai ⟨c,bt,.cl,X⟩:=by
      have hkl:k<M H:=(EF.1 hb).1
      rw [Hl<|by simpa using hkl,Zh<|Oc hkk]
      exact hb
     have hk'l:k'<M H:=(EF.1 hk').1
     have hT:=b3.tell (j:=j) (x:=.os (M H) es off n) hb' (λy ⟨z,hz,hr⟩=>by
      rw [hj] at hz
      have:=EE hz
      subst this;simp only [R] at hr|-;rw [b1 k' hk'l] at hr;rw [b2];exact hr) ⟨_,hj⟩ (by rw [hlen];exact Zf _)
     have hF1:RF ds β' Z w (M<|(H.set k' ⟨[],t,.dead,X⟩++[(⟨[],t,.vec e l,X⟩:AB)]).set k ⟨c.set j<|.os (M H) es off n,bt,.cl,X⟩) F a:=hF.mono AI b1 (λ_ h=>h) λ_ _=>rfl
     exact Jr us F _ Z β' F1 H1 hT hF1 h
    ·exact Oe
   ·exact Oe
  ·exact Oe
 | .ms ..::us,F,H,Z,β,F1,H1,hW,hF,h=>Jr us F H Z β F1 H1 hW hF nY
 | .ns ..::us,F,H,Z,β,F1,H1,hW,hF,h=>Jr us F H Z β F1 H1 hW hF nY
 | .ps ..::us,F,H,Z,β,F1,H1,hW,hF,h=>Jr us F H Z β F1 H1 hW hF nY
def wy (H:aH):LV->T LV
 | .os k es off n=>match H[k]? with
  |some ⟨_,_,.vec _ l,_⟩=> .req (off=0/\n=M l) (.ok<|.os k es 0<|M l)
  |_=> .ok (.os k es off n)
 |x=> .ok x
def Uz (H:aH):aE->T (List LV)
 | []=> .ok []
 |x::xs=>(wy H x).bind λy=>(Uz H xs).bind λys=> .ok (y::ys)
def auq {x y:LV}(h:(wy H x).all λz=>z=y):y=x:=by
 unfold wy at h;split at h
 ·split at h
  ·simp only [T.all] at h
   obtain ⟨⟨rfl,rfl⟩,h⟩:=h;exact h.symm
  ·exact h.symm
 ·exact h.symm
def fE:∀ {l l':aE},(Uz H l).all (λz=>z=l')->l'=l
 | [],l',h=>h.symm
 |x::xs,l',h=>by
  obtain ⟨y,h1,h2⟩:=T.B4 h;obtain ⟨ys,h3,h4⟩:=T.B4 h2;rw [<-h4,auq h1,fE h3]
def cW (H:aH):aH->T (List AB)
 | []=> .ok []
 |b::bs=>(Uz H b.c).bind λc=>(cW H bs).bind λcs=> .ok (⟨c,b.t,b.k,b.p⟩::cs)
def fk:∀ {l l':aH},(cW H l).all (λz=>z=l')->l'=l
 | [],l',h=>h.symm
 |b::bs,l',h=>by
  obtain ⟨c,h1,h2⟩:=T.B4 h;obtain ⟨cs,h3,h4⟩:=T.B4 h2;rw [<-h4,fE h1,fk h3]
structure Vw where
 ex:Ex
 len:aD
 vals:aE
 JU:aH
 low:aN
def V1 (N:aD) (H:aH) (vals:aE):aI:=reach H 400 (ownsL vals++(H.take N).flatMap AB.owns)<|av N
def ao9 (N:aD) (live:aI) (x:Ex) (n:aD) (F:aE) (H:aH):T Vw:=
 (Uz H<|Ts live F).bind λvals=>(cW H<|(V1 N H vals).map λk=>H.getD k Ug).bind λbs=>
  .ok ⟨x,n,renL (V1 N H vals) vals,bs.map<|Ik<|V1 N H vals,
   Kd H (V1 N H vals) vals&&nodupB (V1 N H vals)&&oM N (V1 N H vals)⟩
def GP (N:aD) (live:aI) (us:List Up) (x:Ex) (F:aE) (H:aH):T Vw:=(DP (us.map<|aoM F) F H).bind λq=>ao9 N live x (M F) q.1 q.2
def dZ {N:aD}{live:aI}{us:List Up}{x:Ex}{v:Vw}(hgh:AN N Z0) (hW:RW G w0 Z0 Z β H w) (hF:RF ds β Z w (M H) F a) (h:(GP N live us x F H).all λz=>z=v) (hl:v.low=U):
  v.ex=x/\v.len=M F/\∃Z' β',RW G w0 Z0 Z' β' v.JU w/\RF ds β' Z' w (M v.JU) (I0 (M F) live v.vals) a:=by
 obtain ⟨⟨F1,H1⟩,h0,h⟩:=T.B4 h;obtain ⟨Z1,β1,c1,c2,c3⟩:=Jr _ F H Z β F1 H1 hW hF h0;obtain ⟨vals,h1,h2⟩:=T.B4 h;obtain ⟨bs,h2b,h2⟩:=T.B4 h2
 have h3:=fE h1
 have h4:=fk h2b
 subst h3;subst h4;rw [HG] at h2;subst h2;refine ⟨rfl,rfl,?_⟩;simp only [AV] at hl;obtain ⟨β2,d1,d2⟩:=c1.ren hgh hl.1.1 hl.1.2 hl.2;obtain ⟨v1,v2⟩:=aqe (live:=live) c2;obtain ⟨k1,_⟩:=Sz hl.1.1;refine ⟨Z1,β2,d2,aps (by rw [hF.size]) c2.defers (ren_RL d1 _ _ k1 v2 v1) ?_⟩
 rw [GH];exact ren_okL _ k1 v2
inductive Rd (σ:Type) where
 |next (s:σ)
 |stop (x:Ex) (s:σ)
def rdV {σ:Type}(n:aD) (A:σ->aE) (B:σ->aH):Rd σ->Vw
 | .next s'=>⟨.normal,n,A s',B s',U⟩
 | .stop x s'=>⟨x,n,A s',B s',U⟩
structure SH {α:Type} (K:α->Prop) (t:T α):Prop where
 out:t.all K
def DX {σ:Type}(f:σ->Rd σ):aD->σ->Ex×σ
 |0,s=>(.ret,s)
 |k+1,s=>match f s with
  | .next s'=>DX f k s'
  | .stop x s'=>(x,s')
def aFc {σ:Type}{f:σ->Rd σ}{μ:σ->aD}{I:σ->Prop}(hd:∀s s',I s->f s=.next s'->I s'/\μ s'<μ s):∀(k:aD) (s:σ),I s->μ s<k->∃s',I s'/\f s'=.stop (DX f k s).1 (DX f k s).2
 |0,s,_,h=>A0
 | k+1,s,hi,hk=>by
  simp only [DX];cases hf:f s with
  |next s'=>
   obtain ⟨h1,h2⟩:=hd s s' hi hf;exact aFc hd k s' h1 A0
  |stop x s'=>exact ⟨s,hi,hf⟩
def T.agree {α:Type}{K:α->Prop}{p:α}:∀ {t:T α},t.all (λx=>x=p)->t.all K->K p
 | .ok _,h,hk=>by simp only [T.all] at h hk;exact h▸hk
 | .br b t e,h,hk=>by
  cases b with
  |true=>exact T.agree (h.1 rfl) (hk.1 rfl)
  |false=>exact T.agree (h.2 rfl) (hk.2 rfl)
 | .req _ t,h,hk=>T.agree h.2 hk.2
 | .no,_,h=>As
def aBV {σ:Type}(N n:aD) (live:aI) (us:List Up) (sel:aE->aH->T σ) (out:σ->T (Ex×List LV×List AB)) (F:aE) (H:aH):T (Ex×List LV×List AB):=
 if M F=n then ((GP N live us .normal F H).bind λv=>if v.low then sel v.vals v.JU else .no).bind out else .no
def jk (N:aD) (live:aI) (us:List Up) (t:T<|Ex×List LV×List AB):T Vw:=t.bind λq=>GP N live us q.1 q.2.1 q.2.2
def gI:LV->Int
 | .v (.int _ n)=>n
 | .ki _ n=>n
 |_=>0
def gBo:LV->Bool
 | .v (.bool b)=>b
 | .bl b=>b
 |_=>X
def gSr:LV->ByteArray
 | .v (.string s)=>s
 |_=>ByteArray.empty
def HD:LV->Value
 | .v y=>y
 |_=>undef
def Ao (e:Ty) (x:LV):List e.D:=(N1 e x).getD []
def ED (x:LV) (j:aD):LV:=
 match x with
 | .v (.agg ys)=> .v (ys.toList.getD j undef)
 | .agg l=>l.getD j .junk
 | .v (.tuple ys)=> .v (ys.toList.getD j undef)
 | .AQ l=>l.getD j .junk
 |_=> .junk
def gFn (x:LV) (j:aD):LV:=
 match x with
 | .fn _ l=>l.getD j .junk
 | .fb _ l=>l.getD j .junk
 |_=> .junk
def BT (x:LV) (j:aD):LV:=
 match x with
 | .xq _ f=>f j
 |_=> .junk
def CX (H:aH) (k:aD):AB:=H.getD k ⟨[],0,.dead,X⟩
def BE (b:AB) (j:aD):LV:=b.c.getD j .junk
def gVe (e:Ty) (b:AB):List e.D:=
 match b.k with
 | .vec e' l=>(match K8 e' e with
  |some ⟨h⟩=>Kr h l
  |none=>[])
 |_=>[]
def AL (v:aE) (k:aD):Y:=gI<|v.getD k .junk
def Ds (v:aE) (k:aD):aN:=gBo<|v.getD k .junk
def B3 (e:Ty) (v:aE) (k:aD):List e.D:=Ao e<|v.getD k .junk
def Am (b:aH) (k j:aD):Y:=gI<|BE (CX b k) j
def cgB (b:aH) (k j:aD):aN:=gBo<|BE (CX b k) j
def AF (e:Ty) (b:aH) (k j:aD):List e.D:=Ao e<|BE (CX b k) j
def Ab (e:Ty) (b:aH) (k:aD):List e.D:=gVe e<|CX b k
def gSe (e:Ty) (b:AB):List e.D:=
 match b.k with
 | .st e' l=>(match K8 e' e with
  |some ⟨h⟩=>Kr h l
  |none=>[])
 |_=>[]
def aLg {σ:Type}(E:σ->Prop) (A:σ->aE) (B:σ->aH) (s:σ) (vals:aE) (JU:aH):T σ:=.req (E s/\vals=A s/\JU=B s)<|.ok s
def asu {σ:Type}{E:σ->Prop}{A:σ->aE}{B:σ->aH}{s0 s:σ}{vals:aE}{JU:aH}(h:(aLg E A B s0 vals JU).all λx=>x=s):E s/\vals=A s/\JU=B s:=by
 obtain ⟨h1,rfl⟩:=h;exact h1
def ag2 {σ:Type}(N n:aD) (live:aI) (us:List Up) (A:σ->aE) (B:σ->aH) (I E:σ->Prop) (μ:σ->aD) (f:σ->Rd σ) (sel:aE->aH->T σ) (out:σ->T (Ex×List LV×List AB)) {b:bC}{t:aE->aH->T (Ex×List LV×List AB)}(hb:Gp P G (AN N) b t)
  (hsel:∀vals JU s,(sel vals JU).all (λx=>x=s)->E s/\vals=A s/\JU=B s) (hEI:∀s,E s->I s)
  (hd:∀s s',I s->f s=.next s'->I s'/\μ s'<μ s)
  (hne:∀s x s',f s=.stop x s'->x≠ .normal)
  (step':∀s,I s->SH (λv=>v=rdV n A B (f s)) (jk N live us<|t (I0 n live<|A s)<|B s))
  (hout:∀s,E s->(out s).all λq=>q=((DX f (μ s+1) s).1,I0 n live<|A (DX f (μ s+1) s).2,B (DX f (μ s+1) s).2)):
  Gp P G (AN N) (.loop b) (aBV N n live us sel out):=by
 intro r w0 Z0 Z β F H a w ds Q x F' H' hgh hr hD hW hF h hQ;unfold aBV at h;split at h
 ·rename_i hlen
  obtain ⟨s,h0,h2⟩:=T.B4 h;obtain ⟨v,hv,h1⟩:=T.B4 h0;split at h1
  ·rename_i hlow
   obtain ⟨hE,hvv,hbk⟩:=hsel _ _ s h1
   have h2:=T.agree h2<|hout s hE
   obtain ⟨_,_,Z1,β1,hW1,hF1⟩:=dZ hgh hW hF hv hlow;refine wpIn_loop_rounds (μ s+1) ?_
   have key:∀(k:aD) (s:σ) (ds:aVr) (Z:aD->Prop) (β:aD->aVs) (a:bf) (w:aP),I s->μ s<k->M5 w0 Z0 ds->RW G w0 Z0 Z β (B s) w->RF ds β Z w (M<|B s) (I0 n live<|A s) a->
     (∀ds' Z' β' a' w',M5 w0 Z0 ds'->RW G w0 Z0 Z' β' (B (DX f k s).2) w'->RF ds' β' Z' w' (M<|B (DX f k s).2) (I0 n live<|A (DX f k s).2) a'->Q (xD (DX f k s).1) a' w')->Code.roundsIn (Df r) 0 P b Q k a w:=by
    intro k
    induction k with
    |zero=>intro s ds Z β a w _ h;omega
    | succ k ih=>
     intro s ds Z β a w hI hm hD hW hF hQ;obtain ⟨v,h1,h2⟩:=T.pick (step' s hI).out;obtain ⟨⟨x,F1,H1⟩,h3,h4⟩:=T.B4 h2;refine hb r w0 Z0 Z β _ (B s) a w ds _ x F1 H1 hgh hr hD hW hF h3 λds' Z' β' a' w' e0 e1 e2=>?_
     cases hf:f s with
     |next s'=>
      rw [hf] at h1;subst h1;obtain ⟨g1,g2,Z2,β2,k1,k2⟩:=dZ hgh e1 e2 h4 rfl;subst g1;obtain ⟨i1,i2⟩:=hd s s' hI hf;rw [<-g2] at k2;refine ih s' ds' Z2 β2 a' w' i1 A0 e0 k1 k2 ?_
      have:DX f (k+1) s=DX f k s':=by simp only [DX,hf]
      rw [this] at hQ;exact hQ
     |stop y s'=>
      rw [hf] at h1;subst h1;obtain ⟨g1,g2,Z2,β2,k1,k2⟩:=dZ hgh e1 e2 h4 rfl;subst g1
      have hn:=hne s y s' hf
      rw [<-g2] at k2
      have:DX f (k+1) s=(y,s'):=by simp only [DX,hf]
      rw [this] at hQ
      have hq:=hQ ds' Z2 β2 a' w' e0 k1 k2
      cases y with
      |normal=>exact absurd rfl hn
      |exit k=>exact hq
      |ret=>exact hq
   grind
  ·cases h1
 ·cases h
def DH {σ:Type}(Pn:σ->Prop) (Ps:Ex->σ->Prop):Rd σ->Prop
 | .next s=>Pn s
 | .stop x s=>Ps x s
def AH {σ:Type}{Pn:σ->Prop}{Ps:Ex->σ->Prop}{c:aN}{x y:Rd σ}(h1:c=U->DH Pn Ps x) (h2:c=X->DH Pn Ps y):DH Pn Ps (if c=U then x else y):=by
 cases c with
 |true=>exact h1 rfl
 |false=>exact h2 rfl
def aor {σ:Type}{Pn:σ->Prop}{Ps:Ex->σ->Prop}{r:Rd σ}(h:DH Pn Ps r) {s:σ}(e:r=.next s):Pn s:=by subst e;exact h
def df {σ:Type}{Pn:σ->Prop}{Ps:Ex->σ->Prop}{r:Rd σ}(h:DH Pn Ps r) {x:Ex}{s:σ}(e:r=.stop x s):Ps x s:=by subst e;exact h
def Bt:Ex->Ex->Bool
 | .normal,.normal=>U
 | .ret,.ret=>U
 | .exit n,.exit m=>n==m
 |_,_=>X
def aGQ {S Y:Type}{f:S->Rd S}{I:S->Prop}{μ:S->aD}{V:S->Y}{Q:Ex->S->Y->Prop}(hd:∀s s',I s->f s=.next s'->I s'/\μ s'<μ s) (hv:∀s,I s->DH (λs'=>V s'=V s) (λx s'=>Q x s'<|V s) (f s)):∀(k:aD) (s:S),I s->μ s<k->Q (DX f k s).1 (DX f k s).2 (V s)
 |0,s,_,h=>A0
 | k+1,s,h,hk=>by
  have h2:=hv s h
  simp only [DX];cases e:f s with
  |next s'=>
   rw [e] at h2;obtain ⟨d1,d2⟩:=hd s s' h e
   have:=aGQ hd hv k s' d1 A0
   rwa [show V s=V s' from h2.symm]
  |stop x s'=>
   rw [e] at h2;exact h2
def T.rd {σ:Type}(s:σ):T (Rd σ)->Rd σ
 | .ok x=>x
 | .br b x y=>if b=U then x.rd s else y.rd s
 | .req _ x=>x.rd s
 | .no=> .next s
def T.mp {α β:Type}(k:α->β):T α->T β
 | .ok x=> .ok (k x)
 | .br b x y=> .br b (x.mp k) (y.mp k)
 | .req p x=> .req p (x.mp k)
 | .no=> .no
def T.XC {α β:Type}{k:α->β}{K:β->Prop}:∀ {t:T α},t.all (λx=>K<|k x)->(t.mp k).all K
 | .ok _,h=>h
 | .br _ _ _,h=>⟨λc=>T.XC<|h.1 c,λc=>T.XC<|h.2 c⟩
 | .req _ _,h=>⟨h.1,T.XC h.2⟩
 | .no,h=>h
def T.gd {σ:Type}{s:σ}:∀ {t:T<|Rd σ},t.all (λ_=>True)->t.all (λx=>x=t.rd s)
 | .ok _,_=>rfl
 | .br b _ _,h=>by
  cases b with
  |true=>exact ⟨λc=>T.gd<|h.1 c,λc=>EU⟩
  |false=>exact ⟨λc=>EU,λc=>T.gd<|h.2 c⟩
 | .req _ _,h=>⟨h.1,T.gd h.2⟩
 | .no,h=>h
def T.U9 {σ:Type}{s:σ}{k:Rd σ->Rd σ}(h0:k (.next s)=.next s):∀ {t:T<|Rd σ},t.mp k=t->k (t.rd s)=t.rd s
 | .ok x,h=>by
  simp only [T.mp,T.ok.injEq] at h;simp only [T.rd,h]
 | .br b x y,h=>by
  simp only [T.mp,T.br.injEq,Dw] at h;simp only [T.rd];split
  ·exact T.U9 h0 h.1
  ·exact T.U9 h0 h.2
 | .req _ x,h=>by
  simp only [T.mp,T.req.injEq,Dw] at h;exact T.U9 (t:=x) h0 h
 | .no,_=>h0
structure AS (σ:Type) where
 (N n:aD)
 lv:aI
 us:List Up
 A:σ->List LV
 B:σ->List AB
 g:aE->aH->σ
 t:σ->T (Rd σ)
 kp:σ->σ->σ
 rd:σ->σ
 fx:Ex->σ->σ
 xs:aVU
 (E I:σ->Prop)
 mu:σ->Nat
def outT {β:Type}(e:Ex) (k:Ex->β):aVU->T β
 | []=> .no
 | [x]=> .ok (k x)
 |x::y::xs=> .br (Bt e x) (.ok<|k x)<|outT e k (y::xs)
def Wd:∀ {x y:Ex},Bt x y=U->x=y
 | .normal,.normal,_=>rfl
 | .ret,.ret,_=>rfl
 | .exit _,.exit _,h=>by simpa [Bt] using h
def aGa {β:Type}{e:Ex}{k:Ex->β}:∀ {xs:aVU},xs.any (Bt e)=U->(outT e k xs).all (λq=>q=k e)
 | [],h=>As
 | [x],h=>by
  simp only [Zv,mg,Bool.or_false] at h;rw [Wd h];rfl
 |x::y::xs,h=>by
  refine ⟨λc=>?_,λc=>aGa ?_⟩
  ·rw [Wd c];rfl
  ·grind
def exB {σ:Type}(xs:aVU):T (Rd σ)->Bool
 | .ok (.next _)=>U
 | .ok (.stop x _)=>xs.any (Bt x)&&!Bt x .normal
 | .br _ x y=>exB xs x&&exB xs y
 | .req _ x=>exB xs x
 | .no=>U
def XP {σ:Type}{xs:aVU}{s s':σ}{x:Ex}:∀ {t:T<|Rd σ},exB xs t=U->t.rd s=.stop x s'->xs.any (Bt x)=U/\x≠ .normal
 | .ok (.next _),_,h=>As
 | .ok (.stop y _),h,e=>by
  simp only [T.rd,Rd.stop.injEq] at e;simp only [exB,AV,D6] at h;rw [e.1] at h;refine ⟨h.1,λe=>?_⟩
  rw [e] at h;exact absurd h.2 (by simp [Bt])
 | .br b x y,h,e=>by
  simp only [exB,AV] at h;simp only [T.rd] at e;split at e
  ·exact XP h.1 e
  ·exact XP h.2 e
 | .req _ x,h,e=>XP (t:=x) h e
 | .no,_,h=>As
namespace AS
variable {σ : Type} (D : AS σ)
def f (s:σ):Rd σ:=(D.t s).rd s
def run (s:σ):σ:=D.kp s (DX D.f (D.mu s+1) s).2
def Av (s:σ):Ex:=(DX D.f (D.mu s+1) s).1
def sel (vals:aE) (JU:aH):T σ:=aLg D.E D.A D.B (D.g vals JU) vals JU
def out (s:σ):T (Ex×List LV×List AB):=outT (D.Av s) (λx=>(x,I0 D.n D.lv<|D.A<|D.fx x<|D.run s,D.B<|D.fx x<|D.run s)) D.xs
def lp:aE->aH->T (Ex×List LV×List AB):=aBV D.N D.n D.lv D.us D.sel D.out
def q (s:σ):Prop:=D.E s/\D.A s=D.A s/\D.B s=D.B s
def Im (s:σ):Rd σ->Rd σ
 | .next s'=> .next (D.kp s s')
 | .stop x s'=> .stop x<|D.kp s s'
def fxR:Rd σ->Rd σ
 | .next s'=> .next s'
 | .stop x s'=> .stop x<|D.fx x s'
structure Ok:Prop where
 keep:∀s,(D.t (D.rd s)).mp (D.Im (D.rd s))=D.t (D.rd s):=by intro s;kernel_rfl
 fix:∀s,D.I (D.rd s)->DH (λ_=>True) (λx s'=>D.fx x s'=s') ((D.t (D.rd s)).rd (D.rd s)):=by intro s _;exact AS.amn _ (by kernel_rfl)
 alE:∀s,D.kp s s=s:=by intros;rfl
 alD:∀s t r,D.kp (D.kp s t) r=D.kp s r:=by intros;rfl
 fx0:∀s,D.fx .normal (D.rd s)=D.rd s:=by intros;rfl
 exs:∀s,exB D.xs (D.t s)=true:=by intro s;kernel_rfl
def amn {s:σ}(h:(D.t s).mp D.fxR=D.t s):DH (λ_=>True) (λx s'=>D.fx x s'=s') ((D.t s).rd s):=by
 have hx:=T.U9 (s:=s) (by simp only [fxR]) h
 cases hf:(D.t s).rd s with
 |next s'=>exact an
 |stop x s'=>
  rw [hf] at hx;simp only [fxR,Rd.stop.injEq,Dw] at hx;exact hx
structure Pf (Q:Ex->σ->σ->Prop):Prop where
 ei:∀s,D.E s->D.I s
 rdy:∀s,D.I s->D.rd s=s
 da:∀s,D.I s->DH (λs'=>D.I s'/\D.mu s'<D.mu s) (λx s'=>Q x s s') (D.f s)
 rq:∀s,D.I s->(D.t s).all (λ_=>True)
variable {D} {Q : Ex -> σ -> σ -> Prop}
def Pf.nx (p:D.Pf Q) (s s':σ) (h:D.I s) (e:D.f s=.next s'):D.I s'/\D.mu s'<D.mu s:=aor (p.da s h) e
def kept (o:D.Ok) (p:D.Pf Q):∀(k:aD) (s:σ),D.I s->D.mu s<k->D.kp s (DX D.f k s).2=(DX D.f k s).2/\D.fx (DX D.f k s).1 (DX D.f k s).2=(DX D.f k s).2/\D.xs.any (Bt (DX D.f k s).1)=U
 |0,_,_,h=>A0
 | k+1,s,hI,hk=>by
  have h1:=o.keep s
  have h2:=o.fix s
  have h0:=o.fx0 s
  rw [p.rdy s hI] at h0 h1 h2
  have hl:=T.U9 (s:=s) (by simp only [Im,o.alE]) h1
  have hx:=h2 hI
  change D.Im s (D.f s)=D.f s at hl
  simp only [DX];cases hf:D.f s with
  |next s'=>
   rw [hf] at hl;simp only [Im,Rd.next.injEq] at hl;obtain ⟨h1,h2⟩:=p.nx s s' hI hf;obtain ⟨h3,h4⟩:=kept o p k s' h1 A0;refine ⟨?_,h4⟩
   have e:=o.alD s s' (DX D.f k s').2
   rw [hl,h3] at e;exact e.symm
  |stop x s'=>
   have hx:=df hx hf
   rw [hf] at hl;simp only [Im,Rd.stop.injEq,Dw] at hl;exact ⟨hl,hx,(XP (o.exs s) hf).1⟩
def run_eq (o:D.Ok) (p:D.Pf Q) {s:σ}(hE:D.E s):(DX D.f (D.mu s+1) s).2=D.run s:=(kept o p _ s (p.ei s hE)<|Zf _).1.symm
def end_ (o:D.Ok) (p:D.Pf Q) (s:σ) (hE:D.E s):∃s',D.I s'/\D.f s'=.stop (D.Av s) (D.run s):=by
 rw [<-run_eq o p hE];exact aFc p.nx (D.mu s+1) s (p.ei s hE)<|Zf _
def fin (o:D.Ok) (p:D.Pf Q) (s:σ) (hE:D.E s):∃s',D.I s'/\Q (D.Av s) s' (D.run s):=by
 obtain ⟨s',hI,hf⟩:=end_ o p s hE;exact ⟨s',hI,df (p.da s' hI) hf⟩
def snd (o:D.Ok) (p:D.Pf Q) {b:bC}{t:aE->aH->T (Ex×List LV×List AB)}(hb:Gp P G (AN D.N) b t)
  (hn:∀s,jk D.N D.lv D.us (t (I0 D.n D.lv<|D.A<|D.rd s)<|D.B<|D.rd s)=(D.t<|D.rd s).mp (rdV D.n D.A D.B)):Gp P G (AN D.N) (.loop b) D.lp:=by
 refine ag2 D.N D.n D.lv D.us D.A D.B D.I D.E D.mu D.f D.sel D.out hb (λ_ _ _ h=>asu h) p.ei p.nx (λs x s' hf=>(XP (o.exs s) hf).2) (λs hI=>⟨?_⟩) λs hE=>?_
 ·have h:=hn s
  rw [p.rdy s hI] at h;rw [h];exact T.XC<|T.BR (λx hx=>by rw [hx];rfl)<|T.gd (s:=s)<|p.rq s hI
 ·obtain ⟨h1,h2,h3⟩:=kept o p _ s (p.ei s hE) (Zf<|D.mu s)
  have h4:=aGa (k:=λx=>(x,I0 D.n D.lv<|D.A<|D.fx x<|D.run s,D.B<|D.fx x<|D.run s)) h3
  refine T.BR (λq hq=>?_) h4
  rw [hq];simp only [run,h1,h2]
def x7 (o:D.Ok) (p:D.Pf Q) {Y:Type}(V:σ->Y) (K:Ex->σ->Y->Prop) (hv:∀s,D.I s->DH (λs'=>V s'=V s) (λx s'=>K x s'<|V s) (D.f s)) (s:σ) (hE:D.E s):K (D.Av s) (D.run s) (V s):=by
 rw [<-run_eq o p hE];exact aGQ p.nx hv (D.mu s+1) s (p.ei s hE)<|Zf _
def Kx (o:D.Ok) (p:D.Pf Q) {Y:Type}(V:σ->Y) (hv:∀s,D.I s->DH (λs'=>V s'=V s) (λ_ s'=>V s'=V s) (D.f s)) (s:σ) (hE:D.E s):V (D.run s)=V s:=x7 o p V (λ_ s' v=>V s'=v) hv s hE
def stR (s:σ):Rd σ->Rd σ
 | .next s'=> .next s'
 | .stop x _=> .stop x s
def inv (o:D.Ok) (p:D.Pf Q) (hs:∀s,(D.t s).mp (stR s)=D.t s) (s:σ) (hE:D.E s):D.I (D.run s)/\D.f (D.run s)=.stop (D.Av s) (D.run s):=by
 obtain ⟨s',hI,hf⟩:=end_ o p s hE
 have h:=T.U9 (s:=s') (k:=stR s') rfl<|hs s'
 have h:stR s' (D.f s')=D.f s':=h
 simp only [stR,Rd.stop.injEq,Dw] at h
 grind
end AS
abbrev T.ix {α:Type}(i:Y) (n:aD) (t:T α):T α:=.req (0<=i/\i<(n:Y)) t
abbrev T.ik {α:Type}(i:Y) (n:aD) (t:T α):T α:=.ix i n<|.req (i.toNat<n) t
abbrev T.rz {α β:Type}(l:List β) (t:T α):T α:=.req (0+(M l)<=M l) t
abbrev T.rm {α:Type}(w n:Y) (t:T α):T α:=.req (0<=n/\n<=n/\w*n<=2^48/\n<2^63) t
abbrev T.ra {α:Type}(n m k:aD) (w:Y) (t:T α):T α:=.req (0+n=m/\(k:Y)*w<=2^47/\(k:Y)<2^62) t
abbrev T.rb {α:Type}(n x:aD) (w:Y) (t:T α):T α:=.ra n n (n+x) w t
abbrev T.re {α β:Type}(n:aD) (l:List β) (t:T α):T α:=.req (0=0/\n=M l) t
abbrev T.r0 {α:Type}(β:Type) (t:T α):T α:=.re 0 ([]:List β) t
abbrev T.rc {α β:Type}(n:Y) (d:β) (k:aD) (t:T α):T α:=.req (n.toNat=M (au n.toNat d)/\k<=n.toNat) t
abbrev T.nx {σ:Type}(s:σ):T (Rd σ):=.ok<|.next s
abbrev T.so {σ:Type}(x:Ex) (s:σ):T (Rd σ):=.ok<|.stop x s
abbrev T.tu (l:aY):T LV:=.ok<|.v<|.tuple l
instance:Coe Int LV:=⟨λx=> .v<|ah J x⟩
instance:Coe Bool LV:=⟨λx=> .v<|.bool x⟩
instance:Coe Int Value:=⟨.int J⟩
instance:Coe Bool Value:=⟨.bool⟩
instance:Coe (List Int) LV:=⟨λl=> .xl (.int J) l⟩
instance:Coe (List ByteArray) LV:=⟨λl=> .xl .str l⟩
abbrev xQ (n:aD) (l:aE):LV:=.xq n λj=>l.getD j .junk
abbrev AP:AB:=⟨[],0,.dead,X⟩
abbrev bV (k:aD) (e:Ty) (l:List e.D):AB:=⟨[],k,.vec e l,X⟩
end Go.Sx
namespace Go.Sx
open Go Go.RowKit Go.Proofs.YtepoohnehmfflaaGreatDoor
variable {P : Program} {G : B5} {Γ : Specs} {K : Hand} {L : Lr} {β : Nat -> Loc} {Z : Nat -> Prop} {w : World} {n : Nat}
def Bm (k:aVv) (x y:Y):Y:=k.wrap<|(BitVec.ofInt k.bits x&&&BitVec.ofInt k.bits y).toNat
def Dc (k:aVv) (x y:Y):Y:=k.wrap<|(BitVec.ofInt k.bits x |||BitVec.ofInt k.bits y).toNat
def aLV (k:aVv) (x y:Y):Y:=k.wrap<|(BitVec.ofInt k.bits x^^^BitVec.ofInt k.bits y).toNat
def gi (l:aC) (n:Y):Y:=l.getD n.toNat 0
def Ig {l:aC}{n:Y}(h:n.toNat<M l):gi l n=l[n.toNat]:=by simp [gi,List.getD,Dg h]
def Ki {l:aC}{n:Y}(h:n.toNat<M l):gi l n∈l:=by rw [Ig h];exact Fk h
def jU {α:Type}{f:LV->Option α}{l:aE}{d:α}{ys:aV}(h:hd1 f l=ai d) (hr:RL β Z w l ys):∃x y,f x=ai d/\ys=[y]/\R β Z w x y:=by
 unfold hd1 at h;split at h
 ·rename_i x
  simp only [RL] at hr
  grind
 ·cases h
def RL.one {x:LV}{y:aW}(h:R β Z w x y):RL β Z w [x] [y]:=by simp only [RL];exact ⟨y,[],rfl,h,rfl⟩
def dx:∀(t:Ty) (cs:aE) (d:t.D) (ys:aV),KA t cs=ai d->RL β Z w cs ys->RL β Z w (Br t d) ys
 | .int k,cs,d,ys,h,hr=>by
  obtain ⟨x,y,h1,rfl,h3⟩:=jU h hr;unfold xB at h1;split at h1
  ·split at h1
   ·rename_i hk;simp only [Ah] at h1;subst h1 hk;exact RL.one h3
   ·cases h1
  ·split at h1
   ·rename_i hk;simp only [Ah] at h1;subst h1 hk;exact RL.one aPU
   ·cases h1
  ·cases h1
 | .bool,cs,d,ys,h,hr=>by
  obtain ⟨x,y,h1,rfl,h3⟩:=jU h hr;unfold xC at h1;split at h1
  ·simp only [Ah] at h1;subst h1;exact RL.one h3
  ·simp only [Ah] at h1;subst h1;exact RL.one aPU
  ·cases h1
 | .str,cs,d,ys,h,hr=>by
  obtain ⟨x,y,h1,rfl,h3⟩:=jU h hr;unfold xA at h1;split at h1
  ·simp only [Ah] at h1;subst h1;exact RL.one h3
  ·cases h1
 | .sl e,cs,d,ys,h,hr=>by
  obtain ⟨x,y,h1,rfl,h3⟩:=jU h hr;exact RL.one (wX h1 h3)
 | .pair a b,cs,d,ys,h,hr=>by
  simp only [KA] at h;split at h
  ·rename_i x y h1 h2
   simp only [Ah] at h;subst h
   have e1:=dx a _ x _ h1<|hr.take a.n
   have e2:=dx b _ y _ h2<|hr.drop a.n
   rw [<-List.take_append_drop a.n ys];exact e1.app e2
  ·cases h
def upV (P:aQ) (t:aT) (x:LV):LV:=
 match Ii P 8 t,SJ P t with
 | some ty,ai U=>match x with
  | .v (.agg ys)=>(match KA ty (ys.toList.map .v) with
   |some d=>K2 (Br ty d)
   |none=>x)
  | .agg l=>(match KA ty l with
   |some d=>K2 (Br ty d)
   |none=>x)
  |_=>x
 | some ty,ai X=>(match KA ty [x] with
  |some d=>(match Br ty d with
   | [c]=>c
   |_=>x)
  |none=>x)
 |_,_=>x
def GU (P:aQ):bu->aE->List LV
 |t::ts,x::xs=>upV P t x::GU P ts xs
 |_,xs=>xs
def upR (P:aQ) (ts:bu) (x:LV):LV:=
 match ts with
 | [t]=>upV P t x
 |ts=>match x with
  | .v (.tuple ys)=>RB (GU P ts<|ys.toList.map .v)
  | .AQ l=>RB (GU P ts l)
  |x=>x
def RL.plain:∀(ys:aV),RL β Z w (ys.map .v) ys
 | []=>cJ
 |y::ys=>by simp only [ER,RL];exact ⟨y,ys,rfl,Jp,RL.plain ys⟩
def aFL:∀(ys:aV),AT n (ys.map .v)
 | []=>trivial
 |y::ys=>⟨an,aFL ys⟩
def ab6 {t:aT}{x:LV}{y:aW}(h:R β Z w x y):R β Z w (upV P t x) y:=by
 unfold upV;split
 ·split
  ·split
   ·rename_i d hd
    subst h;exact WE<|dx _ _ d _ hd<|RL.plain _
   ·exact h
  ·split
   ·rename_i d hd
    obtain ⟨ys,rfl,h2⟩:=h;exact WE<|dx _ _ d _ hd h2
   ·exact h
  ·exact h
 ·split
  ·rename_i d hd
   split
   ·rename_i c hc
    have:=dx _ _ d _ hd<|RL.one h
    rw [hc] at this;obtain ⟨y',zs,e1,e2,e3⟩:=this
    grind
   ·exact h
  ·exact h
 ·exact h
def aPs {t:aT}{x:LV}(h:okV n x):okV n (upV P t x):=by
 unfold upV;split
 ·split
  ·split
   ·exact Qi<|NZ _ _ _
   ·exact h
  ·split
   ·exact Qi<|NZ _ _ _
   ·exact h
  ·exact h
 ·split
  ·rename_i d hd
   split
   ·rename_i c hc
    have:=NZ n _ d
    rw [hc] at this;exact this.1
   ·exact h
  ·exact h
 ·exact h
def jB:∀ {ts:bu}{l:aE}{ys:aV},RL β Z w l ys->RL β Z w (GU P ts l) ys
 | [],l,ys,h=>nZ
 |_::_,[],ys,h=>nZ
 |t::ts,x::xs,ys,h=>by
  obtain ⟨y,zs,h1,h2,h3⟩:=h;exact ⟨y,zs,h1,ab6 h2,jB h3⟩
def gw:∀ {ts:bu}{l:aE},AT n l->AT n (GU P ts l)
 | [],l,h=>nZ
 |_::_,[],h=>nZ
 |t::ts,x::xs,h=>by
  exact ⟨aPs h.1,gw h.2⟩
def ajm {ts:bu}{x:LV}{y:aW}(h:R β Z w x y):R β Z w (upR P ts x) y:=by
 unfold upR;split
 ·exact ab6 h
 ·split
  ·simp only [R] at h
   subst h;exact tJ<|jB<|RL.plain _
  ·simp only [R] at h
   obtain ⟨ys,rfl,h2⟩:=h;exact tJ<|jB h2
  ·exact h
def awL {ts:bu}{x:LV}(h:okV n x):okV n (upR P ts x):=by
 unfold upR;split
 ·exact aPs h
 ·split
  ·exact qq<|gw<|aFL _
  ·exact qq<|gw<|by simpa only [okV] using h
  ·exact h
def upS (P:aQ) (ts:bu) (S:aE->T LV):aE->T LV:=λl=>S<|GU P ts l
def Valid.up {f:bh}{S:aE->T LV}(h:Valid P G f S) (ts:bu):Valid P G f (upS P ts S):=by
 intro args vals w Z lv hz hg hok hr hs;exact h (GU P ts args) vals w Z lv hz hg (gw hok) (jB hr) hs
/-A pointer to cells that are only read,told by the cells. -/
mutual
def canX:LV->LV
 | .xq n f=> .xq n (λj=>((av n).map λi=>canX (f i)).getD j .junk)
 | .fn f l=> .fn f (canL l)
 | .fb f l=> .fb f (canL l)
 |x=>x
def canL:aE->List LV
 | []=>[]
 |x::xs=>canX x::canL xs
end
mutual
def canX_R:∀ {x:LV}{y:aW},R β Z w x y->R β Z w (canX x) y
 | .xq n f,y,h=>by
  simp only [canX,R] at h|-;obtain ⟨b,off,h1,hz,h2⟩:=h;refine ⟨b,off,h1,hz,λj hj=>?_⟩
  have e:((av n).map λi=>canX (f i)).getD j .junk=canX (f j):=yr
  rw [e];obtain ⟨z,e1,e2⟩:=h2 j hj;exact ⟨z,e1,canX_R e2⟩
 | .fn f l,y,h=>by
  exact aNk
 | .fb f l,y,h=>by
  exact aNk
 | .v _,_,h=>h
 | .bl _,_,h=>h
 | .ki _ _,_,h=>h
 | .own _ _,_,h=>h
 | .agg _,_,h=>h
 | .AQ _,_,h=>h
 | .xl _ _,_,h=>h
 | .os ..,_,h=>h
 | .op ..,_,h=>h
 | .om _,_,h=>h
 | .mp ..,_,h=>h
 | .oc ..,_,h=>h
 | .CQ _,_,h=>h
 | .junk,_,h=>h
def canL_R:∀ {l:aE}{ys:aV},RL β Z w l ys->RL β Z w (canL l) ys
 | [],ys,h=>by simpa only [canL,RL] using h
 |x::xs,ys,h=>by
  simp only [canL,RL] at h|-;obtain ⟨y,zs,h1,h2,h3⟩:=h;exact ⟨y,zs,h1,canX_R h2,canL_R h3⟩
end
mutual
def canX_ok:∀ {n:aD}{x:LV},okV n x->okV n (canX x)
 | _,.xq m f,h=>by
  simp only [canX,okV] at h|-;intro j
  by_cases hj:j<m
  ·have e:((av m).map λi=>canX (f i)).getD j .junk=canX (f j):=yr
   rw [e];exact canX_ok (h j)
  ·have e:((av m).map λi=>canX (f i)).getD j .junk=.junk:=yr
   rw [e];trivial
 |_,.fn f l,h=>by
  simp only [canX,okV] at h|-;exact canL_ok h
 |_,.fb f l,h=>by
  simp only [canX,okV] at h|-;exact canL_ok h
 |_,.v _,h=>h
 |_,.bl _,h=>h
 |_,.ki _ _,h=>h
 |_,.own _ _,h=>h
 |_,.agg _,h=>h
 |_,.AQ _,h=>h
 |_,.xl _ _,h=>h
 |_,.os ..,h=>h
 |_,.op ..,h=>h
 |_,.om _,h=>h
 |_,.mp ..,h=>h
 |_,.oc ..,h=>h
 |_,.CQ _,h=>h
 |_,.junk,h=>h
def canL_ok:∀ {n:aD}{l:aE},AT n l->AT n (canL l)
 |_,[],h=>h
 |_,x::xs,h=>by
  simp only [canL,AT] at h|-;exact ⟨canX_ok h.1,canL_ok h.2⟩
end
def E4 {n:aD}{f:aD->LV}{l:aE}(h:(av n).map f=l):((av n).map λi=>canX<|f i)=canL l:=by
 have e:∀l:aE,canL l=l.map canX:=λl=>by induction l with
  |nil=>rfl
  |cons x l ih=>simp only [canL,ih,ER]
 rw [e,<-h,HG];rfl
def Bu (P:aQ) (G:B5) (Γ:aVp) (K:aVG) (L:Lr) (fn:aVw) (args:aE):T LV:=(wu P G Γ K L fn args).bind λx=> .ok<|canX<|upR P fn.resultTypes.toList x
def aG5 {f:bh}{fn:aVw}{X S:aE->T LV}(h0:Valid P G f X) (hS:∀args lv,(S args).all (λx=>x=lv)->((X<|canL args).bind λx=> .ok<|canX<|upR P fn.resultTypes.toList x).all (λx=>x=lv)):Valid P G f (upS P fn.params.toList S):=by
 refine Valid.up ?_ _;intro args vals w Z lv hz hg hok hr hs
 have hs:=hS args lv hs
 obtain ⟨x,h1,h2⟩:=T.B4 hs;subst h2;exact Calls.mono (h0 (canL args) vals w Z x hz hg (canL_ok hok) (canL_R hr) h1) λe w' ⟨e1,v,e2,e3,e4⟩=>⟨e1,v,e2,canX_ok<|awL e3,canX_R<|ajm e4⟩
def po {f:bh}{fn:aVw}{c:bC}{S:aE->T LV}(hfn:P.funcs[f]? =ai fn) (hc:fn.body=ai c) (hΓ:∀g S,Γ g=ai S->Valid P G g S) (hK:FR P G K)
  (hL:∀b∈BD c,Sound P G (.loop b)<|L<|Gs b) (hS:∀args lv,(S args).all (λx=>x=lv)->(Bu P G Γ K L fn<|canL args).all (λx=>x=lv)):Valid P G f (upS P fn.params.toList S):=
 aG5 (aof hfn hc hΓ hK hL λ_ _ h=>h) hS
def T.red {α:Type}:T α->T α
 | .br U t _=>T.red t
 | .br X _ e=>T.red e
 | .req p t=> .req p (T.red t)
 |t=>t
def T.Wi {α:Type}{K:α->Prop}:∀ {t:T α},t.red.all K->t.all K
 | .ok _,h=>h
 | .br U t e,h=>⟨λ_=>T.Wi h,λhb=>LW⟩
 | .br X t e,h=>⟨λhb=>LW,λ_=>T.Wi h⟩
 | .req p t,h=>⟨h.1,T.Wi h.2⟩
 | .no,h=>h
end Go.Sx
namespace Go.Proofs.YtepoohnehmfflaaGreatDoor
set_option maxRecDepth 100000
set_option maxHeartbeats 4000000
open Go.Proofs.Tryz
open Go.Sx
abbrev Ae:Ty:=.pair .str<|.pair A7<|.pair A7<|.pair A7<|.pair (.pair A7 A7)<|.pair A7<|.pair A7<|.pair A7<|.pair A7 A7
abbrev Ak:Ty:=.pair .str<|.pair A7<|.pair A7 A7
abbrev Af:Ty:=.pair .str<|.pair A7<|.pair A7<|.pair A7<|.pair A7<|.pair A7<|.pair A7 A7
abbrev Al:Ty:=.pair .str A7
abbrev Cbl:=Int×Int×Int×Int×Int
abbrev Cd:=ByteArray×Int×Int×Int×(Int×Int)×Cbl
def aL:qT (List Cd):=⟨⟩
instance:Coe (List Cd) LV:=⟨.xl Ae⟩
abbrev Ko:=ByteArray×Int×Int×Int
def aR:qT (List Ko):=⟨⟩
instance:Coe (List Ko) LV:=⟨.xl Ak⟩
abbrev Ch:=ByteArray×Int×Int×Int×Int×Int×Int×Int
def aG:qT (List Ch):=⟨⟩
instance:Coe (List Ch) LV:=⟨.xl Af⟩
abbrev Ba:=ByteArray×Int
def aS:qT (List Ba):=⟨⟩
instance:Coe (List Ba) LV:=⟨.xl Al⟩
def s5 (a:aE) (k:aL->aF->aR->aG->aS->T LV):T LV:=match a with
 | [.xl (.pair .str (.pair (.int J) (.pair (.int J) (.pair (.int J) (.pair (.pair (.int J) (.int J)) (.pair (.int J) (.pair (.int J) (.pair (.int J) (.pair (.int J) (.int J)))))))))) cs,.xl (.str) os,.xl (.pair .str (.pair (.int J) (.pair (.int J) (.int J)))) ks,.xl (.pair .str (.pair (.int J) (.pair (.int J) (.pair (.int J) (.pair (.int J) (.pair (.int J) (.pair (.int J) (.int J)))))))) gs,.xl (.pair .str (.int J)) bs]=>k cs os ks gs bs
 |_=> .no
def Ia {a:aE}{k:aL->aF->aR->aG->aS->T LV}{K:LV->Prop}(h:(s5 a k).all K):∃cs os ks gs bs,a=[.xl Ae cs,.xl .str os,.xl Ak ks,.xl Af gs,.xl Al bs]/\(k cs os ks gs bs).all K:=by
 unfold s5 at h;exact nO
def AJ {x:Y}(h1:-9223372036854775808<=x:=by omega) (h2:x<=9223372036854775807:=by omega):AA x=x:=by
 exact aO3
def inB (n a b:Y):aN:=aq (n>=a)&&aq (n<=b)
def BO {n a b:Y}:inB n a b=U↔a<=n/\n<=b:=by simp [inB]
def K3 {α:Type}{l:List α}{d:α}{n:Y}(h:n.toNat<M l):l.getD n.toNat d=l[n.toNat]:=A8
def Qr {α:Type}{l:List α}{d:α}{i:Y}(h0:0<=i) (h:i<M l):l.drop i.toNat=l.getD i.toNat d::l.drop (i+1).toNat/\l.take (i+1).toNat=l.take i.toNat++[l.getD i.toNat d]:=by
 have hlt:i.toNat<M l:=A0
 rw [K3 hlt,show (i+1).toNat=i.toNat+1 by omega,List.take_add_one,Dg hlt,SY hlt]
 grind
def emp:bA:=aw #[]
def Ad (l:aL) (n:Y):Cd:=l.getD n.toNat (emp,0,0,0,(0,0),0,0,0,0,0)
def AG (l:aG) (n:Y):Ch:=l.getD n.toNat (emp,0,0,0,0,0,0,0)
def OO (l:aR) (n:Y):Ko:=l.getD n.toNat (emp,0,0,0)
def OU (l:aS) (n:Y):Ba:=l.getD n.toNat (emp,0)
def gS (l:aF) (n:Y):bA:=l.getD n.toNat emp
def gi_step {l:aC}{i:Y}(h0:0<=i) (h:i<M l):l.drop i.toNat=gi l i::l.drop (i+1).toNat/\l.take (i+1).toNat=l.take i.toNat++[gi l i]:=by
 have hlt:i.toNat<M l:=A0
 rw [Ig hlt,show (i+1).toNat=i.toNat+1 by omega,List.take_add_one,Dg hlt,SY hlt]
 grind
def ah8 {l:aG}{n:Y}(h:n.toNat<M l):AG l n=l[n.toNat]:=K3 h
def apq {l:aL}{i:Y}(h0:0<=i) (h:i<M l):l.drop i.toNat=Ad l i::l.drop (i+1).toNat/\l.take (i+1).toNat=l.take i.toNat++[Ad l i]:=Qr h0 h
def apo {l:aG}{i:Y}(h0:0<=i) (h:i<M l):l.drop i.toNat=AG l i::l.drop (i+1).toNat/\l.take (i+1).toNat=l.take i.toNat++[AG l i]:=Qr h0 h
def aHB {l:aR}{i:Y}(h0:0<=i) (h:i<M l):l.drop i.toNat=OO l i::l.drop (i+1).toNat/\l.take (i+1).toNat=l.take i.toNat++[OO l i]:=Qr h0 h
def apr {l:aS}{i:Y}(h0:0<=i) (h:i<M l):l.drop i.toNat=OU l i::l.drop (i+1).toNat/\l.take (i+1).toNat=l.take i.toNat++[OU l i]:=Qr h0 h
def aK4 {l:aF}{i:Y}(h0:0<=i) (h:i<M l):l.drop i.toNat=gS l i::l.drop (i+1).toNat/\l.take (i+1).toNat=l.take i.toNat++[gS l i]:=Qr h0 h
def Dr (mi ma st:Y):aN:=aq (1<=mi)&&(aq (mi<=ma)&&(aq (ma<=80)&&(aq (1<=st)&&aq (st<=80))))
def IX {mi ma st:Y}:Dr mi ma st=U↔1<=mi/\mi<=ma/\ma<=80/\1<=st/\st<=80:=by simp [Dr]
def Ea (mi ma st:Y):Y:=if Dr mi ma st then (ma-mi) / st+2 else 0
def E6 (mi st k:Y):Y:=if k=0 then 0 else mi+(k-1)*st
def amE (mi ma st k:Y):Y:=if k<0\/Ea mi ma st<=k then 1 else 0
def amA (mi ma st k:Y):Y:=if k<0\/Ea mi ma st<=k then 0 else E6 mi st k
def Hf (mi ma st a:Y):Y:=if Dr mi ma st=X\/a<0 then -1 else if a<mi then 0 else min (Ea mi ma st-1) ((a-mi) / st+1)
def qh {x st:Y}(h0:0<=x) (h1:1<=st):0<=x / st/\x / st<=x:=⟨Sa h0 A0,VD _ h0⟩
def aSW {mi ma st:Y}:0<=Ea mi ma st/\Ea mi ma st<=81:=by
 unfold Ea;split
 ·rename_i h
  exact aNu
 ·omega
def tL {mi ma st:Y}(h:Dr mi ma st=U):2<=Ea mi ma st:=by
 unfold Ea;rw [AD h];exact aNu
def aGI {mi ma st:Y}(h:Dr mi ma st=X):Ea mi ma st=0:=by simp [Ea,h]
def agJ {a b:Y}(a0:0<=a) (a1:a<=1000) (b0:0<=b) (b1:b<=80):0<=a*b/\a*b<=80000:=
 ⟨Iv a0 b0,HI (QH b1 a0) A0⟩
def aIg (bs:bA):∀(n i:aD) (r:List UInt8),bs.size-i=n->ByteArray.toList.loop bs i r=r.reverse++bs.data.toList.drop i
 |0,i,r,h=>by
  rw [ByteArray.toList.loop,AE A0,Ei (by simp only [xz];show bs.size<=i;omega),Ge]
 | n+1,i,r,h=>by
  have hi:i<M bs.data.toList:=by simp only [xz];show i<bs.size;omega
  rw [ByteArray.toList.loop,AD A0,aIg bs n (i+1) _ A0,List.reverse_cons,Co,SY hi]
  have:bs.get! i=bs.data.toList[i]:=by
   show bs.data[i]! =_
   grind
  rw [this];rfl
def aIh (bs:bA):bs.toList=bs.data.toList:=by
 rw [ByteArray.toList,aIg bs _ 0 [] rfl];rfl
def axh {a b:bA}(h:a.toList=b.toList):a=b:=by
 rw [aIh,aIh] at h;cases a;cases b;simp at h;rw [h]
def wg {a b:bA}:(a==b)=U↔a=b:=by
 show (a.data==b.data)=U↔_
 rw [Cy];exact ⟨λh=>by cases a;cases b;simp at h;rw [h],λh=>Vg⟩
instance:LawfulBEq ByteArray where
 eq_of_beq h:=wg.1 h
 rfl:=wg.2 rfl
def XH (a b:bA):(a.toList==b.toList)=(a==b):=by
 rw [Iw,Cy,wg];exact ⟨axh,λh=>Vg⟩
def kinds:aF:=[aw #[102,101,101,100,101,114],aw #[99,97,98,108,101],aw #[111,119,110,101,114],aw #[99,111,110,116,114,97,99,116],aw #[99,104,97,114,103,101,114],aw #[98,97,121],aw #[116,97,114,105,102,102]]
def k6:aF:=[aw #[108,105,109,105,116],aw #[110,101,117,116,114,97,108],aw #[102,117,115,101],aw #[116,104,101,114,109,97,108],aw #[102,114,111,109],aw #[97,116],aw #[112,104,97,115,101,115],aw #[97,109,112,115],aw #[102,97,108,108,98,97,99,107],aw #[111,119,110,101,114],aw #[99,97,114,100],aw #[114,97,110,107],aw #[99,104,97,114,103,101,114]]
def qe:aF:=[aw #[115,116,97,114,116],aw #[101,110,101,114,103,121],aw #[116,105,109,101],aw #[105,100,108,101],aw #[99,97,112],aw #[116,97,120]]
def words:aF:=[aw #[111,110],aw #[119,111,114,107],aw #[115,97,116,117,114,100,97,121],aw #[115,117,110,100,97,121],aw #[98,101,116,119,101,101,110],aw #[112,101,114],aw #[102,114,101,101]]
def isIn (l:aF) (w:bA):aN:=l.any (w== ·)
def V3:Y->aF->bA->Int
 |_,[],_=>0
 |n,x::l,w=>if w==x then n else V3 (n+1) l w
def aGC:∀(n:Y) (l:aF) (w:bA),0<n->(V3 n l w !=0)=isIn l w
 |_,[],_,_=>rfl
 | n,x::l,w,h=>by
  simp only [V3,isIn,Zv];split
  ·grind
  ·rename_i c
   have:=aGC (n+1) l w A0
   simp only [isIn] at this;rw [this]
   simp [c]
def wq (w:bA):aN:=isIn kinds w ||(isIn k6 w ||(isIn qe w ||isIn words w))
def chA (b:Y):aN:=aq (b>=97)&&aq (b<=122)
def chB (b:Y):aN:=chA b ||((aq (b>=48)&&aq (b<=57)) ||b==95)
def gwB (w:bA):aN:=aq (1<=w.size/\w.size<=12)&&(chA (JW w 0)&&(av w.size).all λi=>i==0 ||chB (JW w i))
def nameB (w:bA):aN:=gwB w&&!wq w
def LJ {p q:Prop}(h:p) (k:p->q):p/\q:=⟨h,k h⟩
def DQ (n:aD) (f:Y->aN):aN:=(av n).all λj=>f (j:Y)
def Dq {n:aD}{f:Y->aN}:DQ n f=U↔∀j:aD,(j:Y)<(n:Y)->f j=true:=by
 unfold DQ
 grind
def P1 {n:aD}{f:Y->aN}(j:aD) (h:(j:Y)<(n:Y)) (hf:f j=X):DQ n f=false:=by
 rw [IS];intro hx;rw [Dq.1 hx j h] at hf;cases hf
def cbZ (c:Cbl):aN:=(c.1==0)&&((c.2.1==0)&&((c.2.2.1==0)&&((c.2.2.2.1==0)&&(c.2.2.2.2==0))))
def Is (c:Cbl):aN:=cbZ c ||(aq (0<=c.1)&&(aq (c.1<c.2.1)&&(aq (c.2.1<=200000)&&(inB c.2.2.1 0 1000&&(inB c.2.2.2.1 0 1000&&inB c.2.2.2.2 1 1000000)))))
def IC (i:Y) (c:Cd):aN:=(if i=0 then c.2.1==-1 else inB c.2.1 0 (i-1))&&(inB c.2.2.1 1 1000&&(inB c.2.2.2.1 1 1000&&(((c.2.2.2.2.1.1==0)&&(c.2.2.2.2.1.2==0) ||(inB c.2.2.2.2.1.1 1 1000&&inB c.2.2.2.2.1.2 0 1000000))&&Is c.2.2.2.2.2)))
def chW (c:Ch):aN:=inB c.2.2.1 1 7&&(inB c.2.2.2.1 1 80&&(inB c.2.2.2.2.1 c.2.2.2.1 80&&(inB c.2.2.2.2.2.1 1 80&&(c.2.2.2.2.2.2.1==0 ||inB c.2.2.2.2.2.2.1 c.2.2.2.1 c.2.2.2.2.1))))
def G4 (nc no:Y) (c:Ch):aN:=inB c.2.1 0 (nc-1)&&(inB c.2.2.2.2.2.2.2 0 (no-1)&&chW c)
def koV (no:Y) (c:Ko):aN:=inB c.2.1 0 (no-1)&&(inB c.2.2.1 1 9&&inB c.2.2.2 1 1000000)
def once {α:Type} [BEq α] (l:List α):aN:=(av<|M l).all λj=>match l[j]? with
 |some x=>!((l.take j).contains x)
 |none=>U
def rJ {α:Type} [BEq α] [LawfulBEq α] {l:List α}:once l=U↔∀(j:aD) (h:j<M l),¬l[j]∈l.take j:=by
 unfold once;rw [BH];refine ⟨λh j hj hm=>?_,λh j hj=>?_⟩
 ·have:=h j (Iu.2 hj)
  rw [Dg hj] at this;simp only [D6] at this;rw [Zp.2 hm] at this;cases this
 ·have hj:=Iu.1 hj
  grind
def vpB (cs:aL) (os:aF) (ks:aR) (gs:aG) (bs:aS):aN:=
 DQ (M cs) (λj=>IC j<|Ad cs j)&&(ks.all (koV<|M os)&&(once (ks.map (·.2.2.2))&&(gs.all (G4 (M cs)<|M os)&&bs.all (λb=>inB b.2 0<|(M gs:Y)-1))))
def Lo (cs:aL) (os:aF) (ks:aR) (gs:aG) (bs:aS):aF:=cs.map (·.1)++os++ks.map (·.1)++gs.map (·.1)++bs.map (·.1)
def BB (cs:aL) (os:aF) (ks:aR) (gs:aG) (bs:aS):aN:=
 aq (1<=M cs/\M cs<=16/\M os<=8/\M ks<=32/\M gs<=16/\M bs<=24)&&((Lo cs os ks gs bs).all nameB&&(once (Lo cs os ks gs bs)&&vpB cs os ks gs bs))
end Go.Proofs.YtepoohnehmfflaaGreatDoor
end
