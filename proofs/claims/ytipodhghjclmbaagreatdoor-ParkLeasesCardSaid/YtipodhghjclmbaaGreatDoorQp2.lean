/- Helpers for ParkLeases. Conditions: none. -/
import Derived.Test.YtipodhghjclmbaaGreatDoorQp1
set_option linter.defProp false
set_option linter.unusedVariables false
set_option linter.unusedSimpArgs false
noncomputable section
open List renaming length→M,length→aa,replicate→aq,range→au
open Bool renaming true→U,true→ae,false→X,false→af
open Go.Value renaming int→Y,int→ag
open Option renaming some→ah,none→aj
open Go.IntKind renaming i64→J,i64→ai,u8→aw,u32→ax
open True renaming intro→ak
open Decidable renaming decide→an
open ByteArray renaming mk→av
open Go.Region renaming ready→ay,wanted→az
open Go.Instr renaming findNow→aA
namespace Go.Sx
open Go Go.RowKit Go.Proofs.YtipodhghjclmbaaGreatDoor
variable {P : Program} {G : B1} {Γ : Specs} {β : Nat -> Loc} {Z : Nat -> Prop} {Z0 : Gz} {w w0 : World} {F : List LV} {H : List AB} {a : Act} {ds : List Deferred}
theorem aDD {f:Operand}{args:Array Operand}{ty:Array TypeId}{o:Oper}(ho:o.op=.call {callee:=.value f,args,argTypes:=ty}) (hW:RW G w0 Z0 Z β H w) (hF:RF ds β Z w H.length F a) {g:FuncId}{l:List LV}
  (hf:qQ G F f args g l) {fn:Func} (hfn:P.funcs[g]? =ah fn) (hb:¬fn.body=aj) (hb3:¬fn.name= "runtime.NumGoroutine"):
  ∃vals:Array Value,(execOp a.eval o).run P w=.ok (.enter g vals) w/\RL β Z w l vals.toList/\AS H.length l:=by
 have hfr:=hF.eval hW.CW f
 have ha:RL β Z w (args.toList.map λx=>norm<|AL G F x) (args.map a.eval).toList:=by
  exact aLH
 have hk:AS H.length (args.toList.map λx=>norm<|AL G F x):=by
  exact aL1
 rcases hf with ⟨cap,hf,rfl⟩ |⟨fs,hf,rfl⟩ |⟨hf,rfl⟩
 ·rw [hf] at hfr
  obtain ⟨⟨ys,hy,hyr⟩,hcap⟩:=hfr;exact ⟨_,aCK ho hy hfn hb hb3 w,by rw [kG];exact RL.app ha hyr,AS.append hk hcap⟩
 ·rw [hf] at hfr
  obtain ⟨⟨ys,hy,hyr⟩,hcap⟩:=hfr;exact ⟨_,aCr ho hy hfn hb hb3 w,by rw [kG];exact RL.app hyr ha,AS.append hcap hk⟩
 ·rw [hf] at hfr
  have hy:=hfr.1
  exact ⟨_,aCK ho hy hfn hb hb3 w,A8,hk⟩
theorem aD3 {r:Operand}{name:String}{args:Array Operand}{ty:Array TypeId}{o:Oper}(ho:o.op=.call {callee:=.invoke r name,args,argTypes:=ty}) {t:TypeId}{v rv:Value}{g:FuncId}(hy:a.eval r=.iface t v) (hm:Ip P (method (P.types.size+Made.depth) t v name)=ah (g,rv)) {fn:Func}(hfn:P.funcs[g]? =ah fn) (hb:¬fn.body=aj) (hb3:¬fn.name= "runtime.NumGoroutine") (w:World):
  (execOp a.eval o).run P w=.ok (.enter g<|#[rv]++args.map a.eval) w:=by
 unfold execOp;simp only [ho]
 have hr:=bb w hm
 have h0:(#[Value.iface t v]++args.map a.eval)[0]? =ah (.iface t v):=A8
 have hx:(args.map a.eval).extract 0 args.size=args.map a.eval:=by
  grind
 simp [resolve,hy,invoke,callMethod,hr,callFunc,hfn,hb3,hb,h0,hx]
def aGh {x:LV}{name:String}{g:FuncId}{rv z:Value}(h:gQ P x name=ah (g,rv)) (hr:R β Z w x z):∃t v,z=.iface t v/\Ip P (method (P.types.size+Made.depth) t v name)=ah (g,rv):=by
 unfold gQ at h;split at h
 ·rename_i t v hp
  exact ⟨t,v,Cb hp hr,h⟩
 ·cases h
def aDE {f:Operand}{args:Array Operand}{ty:Array TypeId}{o:Oper}{lv:LV}(ho:o.op=.call {callee:=.value f,args,argTypes:=ty}) (hΓ:∀g S,Γ g=ah S->Valid P G g S)
  (hW:RW G w0 Z0 Z β H w) (hF:RF ds β Z w (M H) F a) {g:FuncId} {l:List LV} (hf:qQ G F f args g l)
  {H':List AB} (h:(LM P Γ H o g l).all λq=>q=(lv,H')):
  DU P (Post ds G w0 Z0 F a β H w o lv H') ((execOp a.eval o).run P w):=by
 obtain ⟨fn,S,h1,h2,h3,_⟩:=T8 h;obtain ⟨vals,q1,q2,q3⟩:=aDD ho hW hF hf h1 h2 h3;exact aDn hΓ hW hF q1 q2 q3 h
def afD {r:Operand}{name:String}{args:Array Operand}{ty:Array TypeId}{o:Oper}{lv:LV}(ho:o.op=.call {callee:=.invoke r name,args,argTypes:=ty}) (hΓ:∀g S,Γ g=ah S->Valid P G g S)
  (hW:RW G w0 Z0 Z β H w) (hF:RF ds β Z w (M H) F a) {g:FuncId} {rv:Value} (hf:gQ P (AL G F r) name=ah (g,rv))
  {H':List AB} (h:(LM P Γ H o g (.v rv::args.toList.map (λx=>norm<|AL G F x))).all λq=>q=(lv,H')):
  DU P (Post ds G w0 Z0 F a β H w o lv H') ((execOp a.eval o).run P w):=by
 obtain ⟨t,v,hy,hm⟩:=aGh hf (hF.eval hW.CW r).1
 have hargs:RL β Z w (.v rv::args.toList.map (λx=>norm<|AL G F x)) (#[rv]++args.map a.eval).toList:=by
  rw [kG,N7];simp only [L0,EB,RL];refine ⟨rv,_,rfl,JR,RL.CQ AI λi x hx=>?_⟩
  rw [DS] at hx|-;cases hq:args.toList[i]? with
  |none=>simp [hq] at hx
  |some q=>simp [hq] at hx;subst hx;exact ⟨a.eval q,AI,Oy (hF.eval hW.CW q).1⟩
 have hoka:AS (M H) (.v rv::args.toList.map (λx=>norm<|AL G F x)):=by
  refine ⟨ak,AS.CQ λi x hx=>?_⟩
  cases hq:args.toList[i]? with
  |none=>simp [hq] at hx
  |some q=>simp [hq] at hx;subst hx;exact TB (hF.eval hW.CW q).2
 obtain ⟨fn,S,h1,h2,h3,_⟩:=T8 h;exact aDn hΓ hW hF (aD3 ho hy hm h1 h2 h3 w) hargs hoka h
structure FE (P:Program) (G:B1) (K:Hand):Prop where
 k:∀(w0:World) (Z0:Gz) (Z:Nat->Prop) (β:Nat->Loc) (H:List AB) (w:World) (g:FuncId) (args:List LV) (vals:Array Value) (lv:LV) (H':List AB),RW G w0 Z0 Z β H w->RL β Z w args vals.toList->AS (M H) args->(K.k g args H).all (λq=>q=(lv,H'))->
  Calls P g vals w λe w'=>∃v,e=.returned v/\∃Z' β',RW G w0 Z0 Z' β' H' w'/\R β' Z' w' lv v/\okV H'.length lv
 y :∀(w0:World) (Z0:Gz) (Z:Nat->Prop) (β:Nat->Loc) (H:List AB) (w:World) (k:Nat) (args:List LV) (vals:Array Value) (lv:LV) (H':List AB),RW G w0 Z0 Z β H w->RL β Z w args vals.toList->AS (M H) args->(K.y k args H).all (λq=>q=(lv,H'))->
  ∃r:Loop,w.heap[(β k).b]? =ah (.loop r)/\vals.size=r.params.size/\RoundIn Fence.wide 0 P (β k).b r.fn ((r.params.zip vals).foldl (λt (p,v)=>t.setIfInBounds p v) r.tmps) r.assign r.body w
   λe w'=>∃v,e=.returned v/\∃Z' β',RW G w0 Z0 Z' β' H' w'/\R β' Z' w' lv v/\okV H'.length lv
def Q9:FE P G Fp:=⟨λ_ _ _ _ _ _ _ _ _ _ _ _ _ _ h=>Ao,λ_ _ _ _ _ _ _ _ _ _ _ _ _ _ h=>Ao⟩
def cB (hΓ:∀g S,Γ g=ah S->Valid P G g S) (hW:RW G w0 Z0 Z β H w) (hF:RF ds β Z w (M H) F a) {o:Oper}{lv:LV}{H':List AB}
  (h:(Aw P G Γ F H o).all λq=>q=(lv,H')):DU P (Post ds G w0 Z0 F a β H w o lv H') ((execOp a.eval o).run P w):=by
 have hsel:∀cs b,o.op≠ .select cs b:=λcs b e=>by unfold Aw at h;simp only [e] at h;cases h
 have ev:=λx=>hF.eval hW.CW x
 have same:∀ {t:T LV},(t.bind λy=>(T.ok (y,H):T<|LV×List AB)).all (λq=>q=(lv,H'))->t.all (λz=>z=lv)/\H'=H:=λh=>by
  obtain ⟨x,h1,h2⟩:=T.B4 h;simp only [T.all,Ax] at h2;obtain ⟨rfl,rfl⟩:=h2;exact ⟨h1,rfl⟩
 have gen:(DX P G F o).all (λz=>z=lv)->H'=H->DU P (Post ds G w0 Z0 F a β H w o lv H') ((execOp a.eval o).run P w):=λhg e=>by
  subst e;exact aey hsel hW hF hg
 have val:∀ {v:Value},H'=H->(execOp a.eval o).run P w=.ok (.value v) w->R β Z w lv v->okV (M H) lv->DU P (Post ds G w0 Z0 F a β H w o lv H') ((execOp a.eval o).run P w):=λe hrun hr hk=>by
  subst e;exact aDB hW hF hrun hr hk
 unfold Aw at h;split at h
 ·cases h
 ·exact aKx
 ·exact aKx
 ·rename_i c x y ho
  obtain ⟨h1,h2⟩:=same h;obtain ⟨g,e1,e2,e3⟩:=ade h1 (ev c).1 (ev x).1 (ev y).1 (ev x).2 (ev y).2;exact val h2 (v:=if g then a.eval x else a.eval y) aNt e2 e3
 ·rename_i t ho
  split at h
  ·rename_i z hz
   split at h
   ·rename_i cs hcs
    simp only [T.all,Ax] at h;obtain ⟨h1,h2⟩:=h;obtain ⟨c1,_⟩:=nq (β:=β) (Z:=Z) (w:=w) hcs (show R β Z w (.v z) z by simp only [R])
    obtain ⟨β',b1,b2,b3,b4⟩:=hW.alloc (t:=t) c1<|nT hcs trivial
    have hrun:(execOp a.eval o).run P w=.ok (.value<|.pointer<|ah ⟨w.heap.size,0,aj⟩) (w.alloc<|.cells z.cells t):=by
     have e:=λw=>mr hz w
     simp [execOp,ho,Instr.alloc,e,newVar,newRow]
    exact aKf
   ·cases h
  ·cases h
 ·rename_i t x ho
  split at h
  ·rename_i cs hcs
   simp only [T.all,Ax] at h;obtain ⟨h1,h2⟩:=h;obtain ⟨c1,_⟩:=nq hcs (ev x).1;obtain ⟨β',b1,b2,b3,b4⟩:=hW.alloc (t:=t) c1<|nT hcs (ev x).2
   have hrun:(execOp a.eval o).run P w=.ok (.value<|.pointer<|ah ⟨w.heap.size,0,aj⟩) (w.alloc<|.cells (a.eval x).cells t):=by
    simp [execOp,ho,Instr.box,newVar,newRow]
   exact aKf
  ·cases h
 ·rename_i t x ho
  obtain ⟨h1,h2⟩:=same h;obtain ⟨z,e1,e2,e3⟩:=mw hW h1 (ev x).1 (ev x).2;exact xt
 ·rename_i t x y ho
  obtain ⟨H1,h1,h2⟩:=T.B4 h;simp only [T.all,Ax] at h2;obtain ⟨h2,h3⟩:=h2;subst h3;obtain ⟨w',e1,e2,e3,e4,e6⟩:=ae3 hW h1 (ev x).1 (ev y).1 (ev y).2;exact aKj
 ·rename_i s x i ho
  obtain ⟨h1,h2⟩:=same h;obtain ⟨z,e1,e2,e3⟩:=adR (w:=w) h1 (ev x).1 (ev x).2;exact ZY
 ·rename_i t x i ho
  obtain ⟨h1,h2⟩:=same h;obtain ⟨z,e1,e2,e3⟩:=aBx (w:=w) h1 (ev x).1 (ev i).1 (ev x).2;exact ZY
 ·rename_i t parts ho
  obtain ⟨h1,h2⟩:=same h
  obtain ⟨z,e1,e2,e3⟩:=adX (β:=β) (Z:=Z) (w:=w) (n:=M H) (pv:=parts.map λq=>(q.1,a.eval q.2)) h1 VT (by
   simp only [N7,Gy];refine RL.CQ AI λi x hx=>?_
   rw [DS] at hx|-;cases hq:parts.toList[i]? with
   |none=>simp [hq] at hx
   |some q=>simp [hq] at hx;subst hx;exact ⟨a.eval q.2,AI,(cv<|ev q.2).1⟩) (by
   simp only [Gy];refine AS.CQ λi x hx=>?_
   rw [DS] at hx;cases hq:parts.toList[i]? with
   |none=>simp [hq] at hx
   |some q=>simp [hq] at hx;subst hx;exact (cv<|ev q.2).2)
  exact val h2 (v:=z) Jz e2 e3
 ·rename_i t len parts ho
  split at h
  ·rename_i h0
   subst h0;split at h
   ·rename_i hpe
    have hpa:parts=#[]:=by
     have:=ZT.1 hpe
     rw [<-wj (xs:=parts),this]
    obtain ⟨w',v,e1,e2,β',e3,e4,e5,e6,e7,e8⟩:=aeF hW h
    have hrun:(execOp a.eval o).run P w=.ok (.value v) w':=by simp [execOp,ho,hpa,e1]
    exact aLG
   ·cases h
  split at h
  rotate_left
  ·obtain ⟨w',v,e1,e2,β',e3,e4,e5,e6,e7,e8⟩:=af8 (pv:=parts.map λq=>(q.1,a.eval q.2)) hW h VT (by
    simp only [N7,Gy];refine RL.CQ AI λi x hx=>?_
    rw [DS] at hx|-;cases hq:parts.toList[i]? with
    |none=>simp [hq] at hx
    |some q=>simp [hq] at hx;subst hx;exact ⟨a.eval q.2,AI,(ev q.2).1⟩) (by
    simp only [Gy];refine AS.CQ λi x hx=>?_
    rw [DS] at hx;cases hq:parts.toList[i]? with
    |none=>simp [hq] at hx
    |some q=>simp [hq] at hx;subst hx;exact (ev q.2).2)
   have hrun:(execOp a.eval o).run P w=.ok (.value v) w':=Jz
   rw [hrun];refine ⟨Z,β',e4,hF.mono A0 e3 (λ_ h=>h) λb hz=>Dx e2<|hW.Bb b hz,e5,e6,A0,e3,λk k1 k2=>?_,NH e2⟩
   have:k=M H:=A0
   rw [this,e8];exact .inl<|Ar _
  split at h
  ·obtain ⟨w',v,Z',β',e1,e2,ez,e3,e4,e5,e6,e7,e8⟩:=af6 (pv:=parts.map λq=>(q.1,a.eval q.2)) hW h VT (by
    simp only [N7,Gy];refine RL.CQ AI λi x hx=>?_
    rw [DS] at hx|-;cases hq:parts.toList[i]? with
    |none=>simp [hq] at hx
    |some q=>simp [hq] at hx;subst hx;exact ⟨a.eval q.2,AI,(ev q.2).1⟩) (by
    simp only [Gy];refine AS.CQ λi x hx=>?_
    rw [DS] at hx;cases hq:parts.toList[i]? with
    |none=>simp [hq] at hx
    |some q=>simp [hq] at hx;subst hx;exact (ev q.2).2)
   have hrun:(execOp a.eval o).run P w=.ok (.value v) w':=Jz
   rw [hrun];refine ⟨Z',β',e4,hF.mono A0 e3 ez λb hz=>Dx e2<|hW.Bb b hz,e5,e6,A0,e3,λk k1 k2=>?_,NH e2⟩
   have:k=M H:=A0
   rw [this,e8];exact .inl<|Ar _
  split at h
  rotate_left
  ·unfold m9 at h
   split at h
   ·rename_i hcl
    have hargs:RL β Z w ((parts.toList.map λq=>(q.1,AL G F q.2)).map (·.2)) ((parts.map λq=>(q.1,a.eval q.2)).toList.map (·.2)):=by
     simp only [N7,Gy];refine RL.CQ AI λi x hx=>?_
     rw [DS] at hx|-;cases hq:parts.toList[i]? with
     |none=>simp [hq] at hx
     |some q=>simp [hq] at hx;subst hx;exact ⟨a.eval q.2,AI,(ev q.2).1⟩
    have hoka:AS (M H) ((parts.toList.map λq=>(q.1,AL G F q.2)).map (·.2)):=by
     simp only [Gy];refine AS.CQ λi x hx=>?_
     rw [DS] at hx;cases hq:parts.toList[i]? with
     |none=>simp [hq] at hx
     |some q=>simp [hq] at hx;subst hx;exact (ev q.2).2
    generalize hvs:(parts.toList.map λq=>(q.1,AL G F q.2))=vs at h hcl hargs hoka
    obtain ⟨y,h1,h2⟩:=T.B4 h;simp only [T.all,Ax] at h2;obtain ⟨rfl,rfl⟩:=h2;obtain ⟨_,hg,h1⟩:=T.B4 h1
    have hG:=T.BY (K':=λ_=>True) (λ_ _=>trivial) hg
    obtain ⟨c1,c2⟩:=Sp hcl
    have hP:=hW.pub<|reach H 64 (ownsL<|vs.map (·.2)) []
    have hH:=λk b hb=>(hW.blk k b hb).2
    have hr0:RL β (ZP Z β H λk=>k∈reach H 64 (ownsL<|vs.map (·.2)) []) w ((vs.map (·.2)).map<|Bx H 6) ((parts.map λq=>(q.1,a.eval q.2)).toList.map (·.2)):=
     TC (S:=λk=>k∈reach H 64 (ownsL<|vs.map (·.2)) []) hargs hoka c1 (λx y hm hs hx hr=>Ma hW c2 6 x y (Oi hG x hm) hs hx hr)
    have hok0:AS 0 ((vs.map (·.2)).map<|Bx H 6):=by
     exact aLL
    have emap:(vs.map λq=>(q.1,Bx H 6 q.2)).map (·.2)=(vs.map (·.2)).map (Bx H 6):=VT
    obtain ⟨elem,cells,e1,e2,e3⟩:=aCy (β:=β) (Z:=ZP Z β H λk=>k∈reach H 64 (ownsL<|vs.map (·.2)) []) (w:=w) (n:=0) (pv:=parts.map λq=>(q.1,a.eval q.2)) h1 (by rw [<-hvs];simp [ZB]) (by rw [emap];exact hr0) (by rw [emap];exact hok0)
    have hrun:(execOp a.eval o).run P w=.ok (.value<|.slice (ah ⟨w.heap.size,0,aj⟩) len len) (w.alloc<|.cells cells elem):=by
     simp [execOp,ho,e1]
    have hbw:Below w.heap.size w (w.alloc<|.cells cells elem):=(Below.refl _ _).alloc (Ar _) _
    rw [hrun];refine ⟨_,β,hP.call hbw,?_,?_,okV.mono (N9 _) _ e3,by rw [K5];exact Ar _,λ_ _=>rfl,λk h1 h2=>by rw [K5] at h2;omega,NH hbw⟩
    ·exact aLx
    ·exact e2 β _ _ w.heap.size (λ_ h=> .inl h) (λb hz=>Dx hbw<|hP.Bb b hz) (λj v hv=>by
      show World.cell? _ _=_
      unfold World.cell?
      have:(w.alloc<|.cells cells elem).heap[w.heap.size]? =ah (.cells cells elem (0,0)):=by
       exact Zg
      simp only [this]
      simpa using hv)<|.inr ⟨Ar _,AI⟩
   ·cases h
  ·obtain ⟨h1,h2⟩:=same h
   subst h2
   have hp:=aCy (β:=β) (Z:=Z) (w:=w) (n:=M H') (pv:=parts.map λq=>(q.1,a.eval q.2)) h1 VT (by
    simp only [N7,Gy];refine RL.CQ AI λi x hx=>?_
    rw [DS] at hx|-;cases hq:parts.toList[i]? with
    |none=>simp [hq] at hx
    |some q=>simp [hq] at hx;subst hx;exact ⟨a.eval q.2,AI,(ev q.2).1⟩) (by
    simp only [Gy];refine AS.CQ λi x hx=>?_
    rw [DS] at hx;cases hq:parts.toList[i]? with
    |none=>simp [hq] at hx
    |some q=>simp [hq] at hx;subst hx;exact (ev q.2).2)
   obtain ⟨elem,cells,e1,e2,e3⟩:=hp
   have hrun:(execOp a.eval o).run P w=.ok (.value<|.slice (ah ⟨w.heap.size,0,aj⟩) len len) (w.alloc<|.cells cells elem):=by
    simp [execOp,ho,e1]
   have hbw:Below w.heap.size w (w.alloc<|.cells cells elem):=(Below.refl _ _).alloc (Ar _) _
   rw [hrun];refine ⟨_,β,hW.call hbw,hF.mono (Ar _) (λ_ _=>rfl) (λ_ h=> .inl h) λb hz=>Dx hbw<|hW.Bb b hz,?_,e3,Ar _,λ_ _=>rfl,λk h1 h2=>A0,NH hbw⟩
   exact e2 β _ _ w.heap.size (λ_ h=> .inl h) (λb hz=>Dx hbw<|hW.Bb b hz) (λj v hv=>by
    show World.cell? _ _=_
    unfold World.cell?
    have:(w.alloc<|.cells cells elem).heap[w.heap.size]? =ah (.cells cells elem (0,0)):=by
     exact Zg
    simp only [this]
    simpa using hv)<|.inr ⟨Ar _,AI⟩
 ·rename_i t n c ho
  obtain ⟨w',v,e1,e2,β',e3,e4,e5,e6,e7,e8⟩:=aeK hW h (ev n).1 (ev c).1
  have hrun:(execOp a.eval o).run P w=.ok (.value v) w':=Jz
  exact aLG
 ·rename_i t x lo hi ho
  split at h
  ·exact NA
  ·obtain ⟨h1,h2⟩:=same h
   have ro:∀q:Option Operand,RO β Z w (q.map<|AL G F) (q.map a.eval):=λq=>by
    cases q with
    |none=>trivial
    |some q=>exact (ev q).1
   obtain ⟨z,e1,e2,e3⟩:=adK (w:=w) h1 (ev x).1 (ro lo) (ro hi) (ev x).2;exact ZY
 ·rename_i t x lo hi mx ho
  split at h
  ·exact NA
  ·obtain ⟨h1,h2⟩:=same h
   have ro:RO β Z w (lo.map<|AL G F) (lo.map a.eval):=by
    cases lo with
    |none=>trivial
    |some q=>exact (ev q).1
   obtain ⟨z,e1,e2,e3⟩:=adB (w:=w) (N:=M H) h1 (ev x).1 ro (ev hi).1 (ev mx).1;exact ZY
 ·rename_i t ho
  split at h
  ·rename_i e he
   simp only [T.all,Ax] at h;obtain ⟨h1,h2⟩:=h;obtain ⟨β',b1,b2,b3,b4⟩:=hW.az1 (e:=e) (t:=t);exact aKk
  split at h
  ·rename_i kd hkd
   simp only [T.all,Ax] at h;obtain ⟨h1,h2⟩:=h;obtain ⟨β',b1,b2,b3,b4⟩:=hW.az3 (kd:=kd) (t:=t);exact aKk
  ·cases h
 ·exact aLF
 ·exact aLF
 ·rename_i t x i ho
  obtain ⟨h1,h2⟩:=same h;obtain ⟨z,e1,e2,e3⟩:=adk hW h1 (ev x).1 (ev i).1 (ev x).2;exact xt
 ·rename_i t x i ho
  split at h
  ·exact NA
  ·obtain ⟨h1,h2⟩:=same h
   obtain ⟨z,e1,e2,e3⟩:=adN hW h1 (ev x).1 (ev i).1 (ev x).2;exact xt
 ·rename_i x i ho
  split at h
  ·rename_i l hl
   split at h
   ·rename_i y hy
    simp only [T.all,Ax] at h;obtain ⟨h1,h2⟩:=h
    have hx:=ev x
    rw [hl] at hx;simp only [R,okV] at hx;obtain ⟨⟨ys,e1,e2⟩,e3⟩:=hx;obtain ⟨z,e4,e5⟩:=RL.get _ _ e2 hy
    have e6:ys[i]? =ah z:=by simpa using e4
    refine val h2.symm (v:=z) aNO ?_ ?_<;>rw [<-h1]
    ·exact e5
    ·exact AS.get _ _ e3 hy
   ·cases h
  ·exact NA
 ·rename_i t x i ho
  split at h
  ·rename_i l hl
   obtain ⟨h1,h2⟩:=same h
   have hx:=ev x
   rw [hl] at hx;simp only [R,okV] at hx;obtain ⟨⟨ys,e1,e2⟩,e3⟩:=hx;obtain ⟨z,f1,f2,f3⟩:=aDN h1 e2 e3;exact aMS
  ·exact NA
 ·rename_i f first cap ho
  split at h
  ·rename_i he
   simp only [T.all,Ax] at h;obtain ⟨h1,h2⟩:=h
   have hfirst:first=#[]:=by
    have:first.toList=[]:=Zz
    exact Py
   refine val h2.symm (v:=.func (.func f) #[]<|cap.map a.eval) aNK ?_ ?_<;>rw [<-h1]
   ·exact aKY
   ·exact aLS
  ·split at h
   ·rename_i he
    simp only [T.all,Ax] at h;obtain ⟨h1,h2⟩:=h
    have hcap:cap=#[]:=by
     have:cap.toList=[]:=Zz
     exact Py
    refine val h2.symm (v:=.func (.func f) (first.map a.eval) #[]) aNP ?_ ?_<;>rw [<-h1]
    ·exact aKW
    ·exact aLQ
   ·cases h
 ·rename_i x ho
  have hx:=ev x
  split at h
  ·rename_i k off hl
   exact aLI
  ·rename_i k es i j hl
   exact aLI
  ·rename_i n f hl
   simp only [T.all,Ax] at h;rw [hl] at hx
   have hx1:=hx.1
   simp only [R] at hx1;obtain ⟨b,off,e1,_⟩:=hx1;refine val h.2.symm (v:=a.eval x) Jz ?_ ?_<;>rw [<-h.1]
   ·exact hx.1
   ·exact hx.2
  ·exact aLC
  ·exact aLC
  ·exact NA
 ·rename_i t x y t' ho
  split at h
  ·rename_i k n k' m hx hy
   split at h
   ·rename_i hk
    subst hk;simp only [T.all,Ax] at h;obtain ⟨h0,h1,h2⟩:=h
    have e1:=Cb hx (ev x).1
    have e2:=Cb hy (ev y).1
    refine val h2.symm (v:=Y k<|k.wrap<|n.tdiv m) lF ?_ ?_<;>rw [<-h1]
    ·exact Dk
    ·trivial
   ·cases h
  ·cases h
 ·rename_i t x y t' ho
  split at h
  ·rename_i k n k' m hx hy
   split at h
   ·rename_i hk
    subst hk;simp only [T.all,Ax] at h;obtain ⟨h0,h1,h2⟩:=h
    have e1:=Cb hx (ev x).1
    have e2:=Cb hy (ev y).1
    refine val h2.symm (v:=Y k<|n.tmod m) lF ?_ ?_<;>rw [<-h1]
    ·exact Dk
    ·trivial
   ·cases h
  ·cases h
 ·rename_i t x y t' ho
  split at h
  ·exact NA
  ·split at h
   ·rename_i k n k' m hx hy
    simp only [T.all,Ax] at h;obtain ⟨h0,h1,h2⟩:=h
    have e1:=Cb hx (ev x).1
    have e2:=Cb hy (ev y).1
    refine val h2.symm (v:=Y k<|k.wrap<|n*2^(min m.toNat k.bits)) lD ?_ ?_<;>rw [<-h1]
    ·exact Dk
    ·trivial
   ·cases h
 ·rename_i t x y t' ho
  split at h
  ·exact NA
  ·split at h
   ·rename_i k n k' m hx hy
    simp only [T.all,Ax] at h;obtain ⟨h0,h1,h2⟩:=h
    have e1:=Cb hx (ev x).1
    have e2:=Cb hy (ev y).1
    refine val h2.symm (v:=Y k<|n.fdiv<|2^(min m.toNat k.bits)) lD ?_ ?_<;>rw [<-h1]
    ·exact Dk
    ·trivial
   ·cases h
 ·rename_i t x i ho
  split at h
  ·rename_i l hl
   obtain ⟨h1,h2⟩:=same h;obtain ⟨ys,e1,e2,e3⟩:=aDG hl (ev x).1 (ev x).2;obtain ⟨z,f1,f2,f3⟩:=aDJ h1 e2 e3 (ev i).1;exact aMS
  ·split at h
   ·rename_i s kd n hu hx hi
    simp only [T.all,Ax] at h;obtain ⟨⟨h0,hlt⟩,h1,h2⟩:=h
    have e1:=Cb hx (ev x).1
    have e2:=Cb hi (ev i).1
    have hb:n.toNat<s.size:=A0
    have hg:s[n.toNat]? =ah s[n.toNat]:=by simp [hb]
    refine val h2.symm (v:=Y aw<|Jn s n) aMk ?_ ?_<;>rw [<-h1]
    ·exact Dk
    ·trivial
   ·cases h
 ·rename_i f args ty ho
  split at h
  ·rename_i g cap hf
   exact aDE ho hΓ hW hF (.inl ⟨cap,hf,rfl⟩) h
  ·rename_i g fs hf
   exact aDE ho hΓ hW hF (.inr<|.inl ⟨fs,hf,rfl⟩) h
  ·cases h
 ·rename_i r name args ty ho
  split at h
  ·rename_i g rv hf
   exact afD ho hΓ hW hF hf h
  ·cases h
 ·rename_i args ty ho
  split at h
  ·rename_i x y t tx hl ht
   cases hargs:args.toList with
   |nil=>simp [hargs] at hl
   | cons u us=>
    cases us with
    |nil=>simp [hargs] at hl
    | cons u' us=>
     cases us with
     |cons _ _=>simp [hargs] at hl
     | nil=>
      simp only [hargs,E9,L1,HU,OY] at hl;obtain ⟨rfl,rfl⟩:=hl
      have ha:args=#[u,u']:=Pz
      have hty:ty=#[t,tx]:=aNk
      obtain ⟨w',v,e1,e2,e3,β',e4,e5,e6,e7,e8,e9⟩:=ae0 (ty':=o.type) hW h (ev u).1 (ev u').1
      have hrun:(execOp a.eval o).run P w=.ok (.value v) w':=by
       simp [execOp,ho,resolve,invoke,builtin,ha,hty,e1]
      rw [hrun]
      have htb:Ox G F β H o=DN β H (owns<|AL G F u):=by simp [Ox,Ea,ho,ha]
      refine ⟨Z,β',e5,hF.mono A0 e4 (λ_ h=>h) e3,e6,e7,A0,e4,λk k1 k2=>?_,by rw [htb];exact e2⟩
      have:k=M H:=A0
      rw [this,htb];exact e9
  ·cases h
 ·rename_i args ty ho
  split at h
  ·rename_i x y t tx hl ht
   cases hargs:args.toList with
   |nil=>simp [hargs] at hl
   | cons u us=>
    cases us with
    |nil=>simp [hargs] at hl
    | cons u' us=>
     cases us with
     |cons _ _=>simp [hargs] at hl
     | nil=>
      simp only [hargs,E9,L1,HU,OY] at hl;obtain ⟨rfl,rfl⟩:=hl
      have ha:args=#[u,u']:=Pz
      have hty:ty=#[t,tx]:=aNk
      obtain ⟨w',v,e1,e2,e3,e4,e5,e6,e7⟩:=aeV (ty':=o.type) hW h (ev u).1 (ev u').1
      have hrun:(execOp a.eval o).run P w=.ok (.value v) w':=by
       simp [execOp,ho,resolve,invoke,builtin,ha,hty,e1]
      rw [hrun]
      have htb:Ox G F β H o=DN β H (owns<|AL G F u):=by simp [Ox,Ea,ho,ha]
      refine ⟨Z,β,e2,hF.mono A0 (λ_ _=>rfl) (λ_ h=>h) e6,e3,e4,A0,λ_ _=>rfl,λk k1 k2=>?_,by rw [htb];exact e7⟩
      omega
  ·cases h
 ·rename_i args ty ho
  split at h
  ·rename_i k es off n e hl hu
   simp only [T.all,Ax] at h;obtain ⟨h1,h2⟩:=h;cases hargs:args.toList with
   |nil=>simp [hargs] at hl
   | cons x xs=>
    cases xs with
    |cons _ _=>simp [hargs] at hl
    | nil=>
     simp only [hargs,E9,L1,HU,OY] at hl
     have hx:=(ev x).1
     rw [hl] at hx;simp only [R] at hx
     have e1:∃ad cap,a.eval x=.slice ad n cap:=by
      exact aKo
     obtain ⟨ad,cap,e1⟩:=e1
     have ha:args=#[x]:=Pz
     cases ht:ty[0]? with
     |none=>simp [ht] at hu
     |some t=>
      simp only [ht,OU] at hu;refine val h2.symm (v:=Y J n) VG ?_ ?_<;>rw [<-h1]
      ·exact Dk
      ·trivial
  ·rename_i e' l e hl hu
   simp only [T.all,Ax] at h;obtain ⟨h1,h2⟩:=h;cases hargs:args.toList with
   |nil=>simp [hargs] at hl
   | cons x xs=>
    cases xs with
    |cons _ _=>simp [hargs] at hl
    | nil=>
     simp only [hargs,E9,L1,HU,OY] at hl
     have hx:=(ev x).1
     rw [hl] at hx;simp only [R] at hx;obtain ⟨ad,cap,e1,_⟩:=hx
     have ha:args=#[x]:=Pz
     cases ht:ty[0]? with
     |none=>simp [ht] at hu
     |some t=>
      simp only [ht,OU] at hu;refine val h2.symm (v:=Y J (M l:Int)) VG ?_ ?_<;>rw [<-h1]
      ·exact Dk
      ·trivial
  ·rename_i k' es' off' n' c' e hl hu
   simp only [T.all,Ax] at h;obtain ⟨h1,h2⟩:=h;cases hargs:args.toList with
   |nil=>simp [hargs] at hl
   | cons x xs=>
    cases xs with
    |cons _ _=>simp [hargs] at hl
    | nil=>
     simp only [hargs,E9,L1,HU,OY] at hl
     have hx:=(ev x).1
     rw [hl] at hx;simp only [R] at hx;obtain ⟨_,ad,e1,_⟩:=hx
     have ha:args=#[x]:=Pz
     cases ht:ty[0]? with
     |none=>simp [ht] at hu
     |some t=>
      simp only [ht,OU] at hu;refine val h2.symm (v:=Y J n') VG ?_ ?_<;>rw [<-h1]
      ·exact Dk
      ·trivial
  ·exact NA
 ·exact NA
structure Ev (b b':AB):Prop where
 cl:b.Dl=U->b'.Dl=U/\b'.t=b.t/\M b'.c=M b.c
 live:∀(β:Nat->Loc) (k:Nat),live β k b'->live β k b
 p:b'.p=X->b.p=X
def Ev.refl (b:AB):Ev b b:=⟨λh=>⟨h,rfl,rfl⟩,λ_ _ h=>h,λh=>h⟩
def Ev.trans {a b c:AB}(h:Ev a b) (g:Ev b c):Ev a c:=⟨λhc=>by
 obtain ⟨h1,h2,h3⟩:=h.cl hc;obtain ⟨g1,g2,g3⟩:=g.cl h1;exact ⟨g1,g2.trans h2,g3.trans h3⟩,λβ k hl=>h.live β k<|g.live β k hl,λhp=>h.p<|g.p hp⟩
def EvL (H H':List AB):Prop:=∀(k:Nat) (b:AB),H[k]? =ah b->∃b':AB,H'[k]? =ah b'/\Ev b b'
def EvL.refl (H:List AB):EvL H H:=λ_ b hb=>⟨b,hb,Ev.refl b⟩
theorem EvL.app (H E:List AB):EvL H (H++E):=λk b hb=>⟨b,A8,Ev.refl b⟩
def EvL.trans {A B C:List AB}(h:EvL A B) (g:EvL B C):EvL A C:=λk b hb=>by
 obtain ⟨b1,h1,h2⟩:=h k b hb;obtain ⟨b2,g1,g2⟩:=g k b1 h1;exact ⟨b2,g1,h2.trans g2⟩
theorem EvL.set {k0:Nat}{b0 nb:AB}(hb0:H[k0]? =ah b0) (he:Ev b0 nb):EvL H (H.set k0 nb):=λk b hb=>by
 rw [I7]
 by_cases hkk:k0=k
 ·subst hkk
  grind
 ·rw [AE hkk];exact ⟨b,hb,Ev.refl b⟩
def EvL.pub (ks:List Nat):EvL H (FZ ks 0 H):=λk b hb=>by
 rw [cA,hb];split
 ·exact ⟨_,rfl,λh=>⟨h,rfl,rfl⟩,λ_ _ h=>h,λh=>Ao⟩
 ·exact ⟨_,rfl,Ev.refl b⟩
def afr {t:TypeId}{x y:LV}{H':List AB}(h:(TS P H t x y).all λq=>q=H'):EvL H H':=by
 unfold TS at h;split at h
 ·split at h
  ·split at h
   ·rename_i hb
    split at h
    ·rename_i hle
     subst h;refine EvL.set hb ⟨λhc=>⟨hc,rfl,?_⟩,λ_ _ h=>h,λh=>h⟩
     simp only [setAt,BF,MC,F7];omega
    ·cases h
   ·cases h
  ·split at h
   ·rename_i hb
    split at h
    ·simp only [T.all] at h
     obtain ⟨_,h⟩:=h;split at h
     ·simp only [T.all] at h
      subst h;exact aLi
     ·cases h
    ·cases h
   ·cases h
  ·cases h
 ·cases h
def aGr {t:TypeId}{x i y:LV}{H':List AB}(h:(Ut P H t x i y).all λq=>q=H'):EvL H H':=by
 unfold Ut at h;split at h
 ·split at h
  ·split at h
   ·rename_i hb
    split at h
    ·simp only [T.all] at h
     exact aM8
    ·cases h
   ·cases h
  ·cases h
 ·cases h
def afS {t:TypeId}{x i y:LV}{H':List AB}(h:(insL P H t x i y).all λq=>q=H'):EvL H H':=by
 unfold insL at h;split at h
 ·split at h
  ·rename_i hb
   split at h
   ·split at h
    ·simp only [T.all] at h
     obtain ⟨_,h⟩:=h;exact aM8
    ·cases h
   ·cases h
  ·exact aGr h
 ·exact aGr h
def anU {t:TypeId}{n c lv:LV}{H':List AB}(h:(U8 P H t n c).all λq=>q=(lv,H')):EvL H H':=by
 unfold U8 at h;split at h
 ·split at h
  ·split at h
   ·split at h
    ·exact aMK
    ·cases h
   ·cases h
  ·cases h
 ·cases h
def ao0 {t tx:TypeId}{x y lv:LV}{H':List AB}(h:(XU P H t tx x y).all λq=>q=(lv,H')):EvL H H':=by
 unfold XU at h;split at h
 ·split at h
  ·split at h
   ·rename_i hb
    split at h
    ·split at h
     ·obtain ⟨q,_,h⟩:=T.B4 h
      simp only [T.all,Ax] at h;rw [<-h.2.2];exact aLi
     ·cases h
    ·cases h
   ·cases h
  ·cases h
 ·cases h
def afQ {t tx:TypeId} {x y lv:LV} {H':List AB} (h:(LF P H t tx x y).all λq=>q=(lv,H')):EvL H H':=by
 unfold LF at h;split at h
 ·split at h
  ·split at h
   ·obtain ⟨q,_,h⟩:=T.B4 h
    ·split at h
     ·exact aMK
     ·split at h
      ·rename_i hb
       split at h
       ·split at h
        ·simp only [T.all,Ax] at h
         rw [<-h.2.2];refine (EvL.set hb ?_).trans<|EvL.app _ _;exact ⟨λhc=>ye,λ_ _ h=>by simp [live] at h,λ_=>rfl⟩
        ·cases h
       ·cases h
      ·cases h
     ·cases h
   ·cases h
  ·cases h
 ·cases h
end Go.Sx
namespace Go.Sx
open Go Go.RowKit Go.Proofs.YtipodhghjclmbaaGreatDoor
variable {P : Program} {G : B1} {Γ : Specs} {K : Hand} {β : Nat -> Loc} {Z : Nat -> Prop} {Z0 : Gz} {w w0 : World} {F : List LV} {H : List AB} {a : Act} {ds : List Deferred} {n : Nat}
theorem RF.put (hF:RF ds β Z w n F a) {lv:LV}{v:Value}(hr:R β Z w lv v) (hk:okV n lv) (d:Option Tmp):RF ds β Z w n (At F d lv) (a.put d v):=by
 cases d with
 |none=>exact hF
 | some d=>
  refine ⟨by simp [At,Act.put,hF.size],λt x hx=>?_,hF.defers⟩
  simp only [At] at hx;rw [I7] at hx;simp only [Act.put]
  have hlt:t<M F:=by
   by_cases ht:t<M F
   ·exact ht
   ·exfalso
    split at hx
    ·split at hx
     ·omega
     ·cases hx
    ·grind
  have hta:t<a.tmps.size:=by rw [hF.size];exact hlt
  by_cases hdt:d=t
  ·subst hdt
   have:(a.tmps.setIfInBounds d v).getD d undef=v:=G1
   grind
  ·rw [AE hdt] at hx
   have:(a.tmps.setIfInBounds d v).getD t undef=a.tmps.getD t undef:=G1
   rw [this];exact hF.get t x hx
theorem RF.know (hF:RF ds β Z w n F a) {d:Nat}{lv:LV}(hr:R β Z w lv<|a.tmps.getD d undef) (hk:okV n lv):RF ds β Z w n (F.set d lv) a:=by
 refine ⟨by simp [hF.size],λt x hx=>?_,hF.defers⟩
 rw [I7] at hx
 by_cases hdt:d=t
 ·subst hdt
  simp only [Bm] at hx;split at hx
  ·grind
  ·cases hx
 ·rw [AE hdt] at hx;exact hF.get t x hx
def RF.pass (hF:RF ds β Z w n F a) (d:Option Tmp):RF ds β Z w n (At F d<|.v undef) (a.put d undef):=hF.put (lv:=.v undef) JR trivial d
theorem Vq {o:Oper}{K:Act->World->Prop}{Q:Exit->Act->World->Prop}(h:DU P (λv w'=>K (a.put o.dst v) w')<|(execOp a.eval o).run P w) (r:Option Nat) (m:Nat):o.wpIn (DP r) m P a w K Q:=by
 have hnd:∀c,o.op≠ .defer c:=λc hc=>by
  rcases aCD (P:=P) (ρ:=a.eval) (w:=w) hc with ⟨d,w',e⟩ |⟨d,w',e⟩<;>rw [e] at h<;>simp only [DU] at h
 refine ⟨λ_ _=>trivial,?_⟩
 rw [semAt_eq hnd];generalize (execOp a.eval o).run P w=res at*;cases res with
 |ok m w'=>
  cases m<;>simp only [DU] at h<;>simp only [Oper.uponIn]
  case value u=>exact h
  case skip=>exact h
  case enter f args=>exact ⟨λh=>Ao,VB.2<|h.mono λe w'' ⟨v,he,hk⟩=>A8⟩
  case round l f tmps assign body=>exact ⟨λh=>Ao,aDA<|h.mono λe w'' ⟨v,he,hk⟩=>A8⟩
 |halt x w'=>simp only [DU] at h
theorem Vt {ops:Array Oper}{o:Oper}{j d:Nat}{want b:Bool}(hg:o.guard=ah (j,want)) (hd:(ops[j]?).bind (·.dst)=ah d) (hv:a.tmps[d]? =ah (.bool b)):az o (yielded ops a.tmps)=(b==want):=by
 exact aMO
theorem ad1 {ops:Array Oper}{o:Oper}{j d:Nat}{want:Bool}{vs:Array Value}(hg:o.guard=ah (j,want)) (hd:(ops[j]?).bind (·.dst)=ah d) (hv:a.tmps[d]? =ah (.tuple vs)):az o (yielded ops a.tmps)=false:=by
 exact aMO
def RF.slot (hF:RF ds β Z w n F a) {d:Nat}{x:LV}(hx:F.getD d .junk=x) (hj:x≠ .junk):F[d]? =ah x/\a.tmps[d]? =ah (a.tmps.getD d undef):=by
 cases h:F[d]? with
 |none=>simp [List.getD,h] at hx;exact absurd hx.symm hj
 |some y=>
  simp [List.getD,h] at hx
  subst hx;refine ⟨rfl,?_⟩
  have:d<a.tmps.size:=by rw [hF.size];exact (Dv.1 h).1
  simp_all
def RW.less {gh:List<|LV×Value}{mk:List Nat}(hW:RW G w0 ⟨Z0.z,gh++Z0.gh,mk++Z0.Ci⟩ Z β H w):RW G w0 Z0 Z β H w:=⟨hW.below,hW.Bb,hW.EX,hW.Cf,hW.G6,hW.low,hW.inj,hW.blk,hW.CW,λp hp=>hW.gh p<|Be.2<|.inr hp,λD hD=>hW.Ci D<|Be.2<|.inr hD⟩
def dsB:List Deferred->List Nat
 | []=>[]
 |⟨.collected D,_⟩::ds=>D::dsB ds
 |_::ds=>dsB ds
theorem qD:∀ {ds:List Deferred}{D:Nat},GW D∈ds->D∈dsB ds
 | d::ds,D,h=>by
  rcases B7.1 h with h|h
  ·rw [<-h];simp [dsB,GW]
  ·unfold dsB
   split
   ·grind
   ·rename_i e;simp only [HU] at e;rw [<-e.2];exact Sa _<|qD h
   ·rename_i e;simp only [HU] at e;rw [<-e.2];exact qD h
theorem aQD:∀ {ds:List Deferred}{D:Nat},D∈dsB ds->(∀d,d∈ds->∃D,d=GW D)->GW D∈ds
 | [],D,h,_=>Ao
 |d::ds,D,h,hm=>by
  obtain ⟨D0,rfl⟩:=hm d AI;rcases B7.1 h with h|h
  ·grind
  ·exact Sa _<|aQD h λd hd=>hm d<|Sa _ hd
theorem RW.hold (hW:RW G w0 Z0 Z β H w) (hF:RF ds β Z w (M H) F a):RW G w0 ⟨Z0.z,F.zip a.tmps.toList++Z0.gh,dsB ds++Z0.Ci⟩ Z β H w:=⟨hW.below,hW.Bb,hW.EX,hW.Cf,hW.G6,hW.low,hW.inj,hW.blk,hW.CW,λp hp=>by
  rcases Be.1 hp with hp|hp
  ·obtain ⟨i,hi,hpi⟩:=I4.1 hp
   have hiF:i<M F:=A8
   have hia:i<a.tmps.size:=A8
   have h1:=hF.get i F[i]<|DQ hiF
   have e2:a.tmps.getD i undef=a.tmps[i]:=G1
   grind
  ·exact hW.gh p hp,λD hD=>by
  rcases Be.1 hD with hD|hD
  ·have:=aQD hD (λd hd=>by obtain ⟨D,h,_⟩:=hF.defers.2 d hd;exact ⟨D,h⟩)
   obtain ⟨D',h1,h2,h3⟩:=hF.defers.2 _ this
   grind
  ·exact hW.Ci D hD⟩
theorem RW.held {β':Nat->Loc}{Z':Nat->Prop}{w':World}{H':List AB}(hF:RF ds β Z w (M H) F a) (r1:RW G w0 ⟨Z0.z,F.zip a.tmps.toList++Z0.gh,dsB ds++Z0.Ci⟩ Z' β' H' w'):RF ds β' Z' w' (M H') F a:=by
 refine ⟨hF.size,λt x hx=>?_,hF.defers.1,λd hd=>?_⟩
 ·have htF:=(Dv.1 hx).1
  have hta:t<a.tmps.size:=by have:=hF.size;omega
  have e2:a.tmps.getD t undef=a.tmps[t]:=G1
  rw [e2];refine r1.gh (x,a.tmps[t])<|Be.2<|.inl<|I4.2 ⟨t,A8,?_⟩
  have:F[t]=x:=A8
  simp [this]
 ·obtain ⟨D,h1,h2,h3⟩:=hF.defers.2 d hd
  have:=r1.Ci D<|Be.2<|.inl<|qD<|h1▸hd
  grind
def aCZ {o:Oper}{g:FuncId}{l:List LV}(h:callOf G F o=ah (g,l)):∃f args ty,o.op=.call {callee:=.value f,args,argTypes:=ty}/\qQ G F f args g l:=by
 unfold callOf at h;split at h
 ·rename_i f args ty ho
  split at h
  ·rename_i g' cap hf
   obtain ⟨rfl,rfl⟩:=h;exact ⟨f,args,ty,ho,.inl ⟨cap,hf,rfl⟩⟩
  ·rename_i g' fs hf
   obtain ⟨rfl,rfl⟩:=h;exact ⟨f,args,ty,ho,.inr<|.inl ⟨fs,hf,rfl⟩⟩
  ·rename_i g' hf
   obtain ⟨rfl,rfl⟩:=h;exact ⟨f,args,ty,ho,.inr<|.inr ⟨hf,rfl⟩⟩
  ·cases h
 ·cases h
theorem aEC {o:Oper}{k:Nat}{l:List LV}(h:uu G F o=ah (k,l)):∃f args ty,o.op=.call {callee:=.value f,args,argTypes:=ty}/\AL G F f=.CK k/\l=args.toList.map (λx=>norm<|AL G F x):=by
 unfold uu at h;split at h
 ·rename_i f args ty ho
  split at h
  ·rename_i k' hf
   grind
  ·cases h
 ·cases h
theorem aCO (hΓ:∀g S,Γ g=ah S->Valid P G g S) (hK:FE P G K) (hW:RW G w0 Z0 Z β H w) (hF:RF ds β Z w (M H) F a) {o:Oper}{lv:LV}{H':List AB}(h:(Jq P G Γ K F H o).all λq=>q=(lv,H')):
  DU P (λv w'=>∃Z' β',RW G w0 Z0 Z' β' H' w'/\RF ds β' Z' w' (M H') F a/\R β' Z' w' lv v/\okV (M H') lv) ((execOp a.eval o).run P w):=by
 unfold Jq at h
 have old:(Aw P G Γ F H o).all (λq=>q=(lv,H'))->DU P (λv w'=>∃Z' β',RW G w0 Z0 Z' β' H' w'/\RF ds β' Z' w' (M H') F a/\R β' Z' w' lv v/\okV (M H') lv) ((execOp a.eval o).run P w):=λh=>
  K3 (λv w' ⟨Z',β',e1,e2,e3,e4,_⟩=>⟨Z',β',e1,e2,e3,e4⟩) (cB hΓ hW hF h)
 split at h
 ·rename_i g l hc
  split at h
  ·exact old h
  ·split at h
   ·rename_i fn hfn
    split at h
    ·rename_i hb
     obtain ⟨f,args,ty,ho,hf⟩:=aCZ hc;simp only [AY,Cs] at hb;obtain ⟨hb1,hb2⟩:=hb;obtain ⟨vals,hrun,hargs,hoka⟩:=aDD ho hW hF hf hfn A8 A8;rw [hrun];exact (hK.k w0 _ Z β H w g _ _ lv H' (hW.hold hF) hargs hoka h).mono λe w' ⟨v,he,Z',β',r1,r2,r3⟩=>⟨v,he,Z',β',r1.less,RW.held hF r1,r2,r3⟩
    ·cases h
   ·cases h
 ·split at h
  ·rename_i k l hy
   obtain ⟨f,args,ty,ho,hf,rfl⟩:=aEC hy
   have hfr:=hF.eval hW.CW f
   rw [hf] at hfr;simp only [R,okV] at hfr
   have hargs:RL β Z w (args.toList.map λx=>norm<|AL G F x) (args.map a.eval).toList:=by
    exact aLH
   have hoka:AS (M H) (args.toList.map λx=>norm<|AL G F x):=by
    exact aL1
   obtain ⟨r,h1,h2,h3⟩:=hK.y w0 _ Z β H w k _ _ lv H' (hW.hold hF) hargs hoka h
   have hrun:(execOp a.eval o).run P w=.ok (.round (β k).b r.fn ((r.params.zip<|args.map a.eval).foldl (λt (p,v)=>t.setIfInBounds p v) r.tmps) r.assign r.body) w:=by
    unfold execOp;simp only [ho]
    have:=run_yield (P:=P) h1 h2
    simp [resolve,Deferred.ofValue,hfr.1,invoke,this]
   rw [hrun];exact h3.mono λe w' ⟨v,he,Z',β',r1,r2,r3⟩=>⟨v,he,Z',β',r1.less,RW.held hF r1,r2,r3⟩
  ·exact old h
theorem axO {o:Oper}(hm:S6 P Γ o=U):Jq P G Γ K F H o=Aw P G Γ F H o:=by
 unfold Jq;split
 ·rename_i g l hc
  obtain ⟨f,args,ty,ho,hf⟩:=aCZ hc;unfold S6 at hm;simp only [AY] at hm
  have hm2:=hm.2
  rw [ho] at hm2;cases f with
  |func g'=>
   rcases hf with ⟨_,hf,_⟩ |⟨_,hf,_⟩ |⟨hf,_⟩
   rotate_left
   ·simp [AL] at hf
   ·simp [AL] at hf
   obtain ⟨rfl,_⟩:=hf
   grind
  |tmp _=>simp at hm2
  |const _=>simp at hm2
  |global _=>simp at hm2
 ·split
  ·rename_i k l hy
   obtain ⟨f,args,ty,ho,hf,rfl⟩:=aEC hy;unfold S6 at hm;simp only [AY] at hm
   have hm2:=hm.2
   rw [ho] at hm2;cases f with
   |func g'=>simp [AL] at hf
   |tmp _=>simp at hm2
   |const _=>simp at hm2
   |global _=>simp at hm2
  ·rfl
def afj {o:Oper}(hm:S6 P Γ o=U):Oq P o=true:=by
 unfold S6 at hm;simp only [AY] at hm;exact hm.1
theorem aDh {ty:Ty}:∀(cs:List LV) (ls:List<|List ty.D),fc ty cs=ah ls->∀(j:Nat) (x:LV),cs[j]? =ah x->∃l,x=.xl ty l/\ls[j]? =ah l
 | [],_,_,j,x,hx=>A8
 | c ::cs,ls,h,j,x,hx=>by
  simp only [fc] at h;split at h
  ·rename_i e l
   split at h
   ·rename_i he r _ hr
    simp only [Ah] at h;subst h;subst he;cases j with
    |zero=>
     simp only [List.getElem?_cons_zero,Ah] at hx;exact ⟨l,hx.symm,rfl⟩
    |succ j=>
     exact aDh cs r hr j x hx
   ·cases h
  ·cases h
theorem afC {o o2:Oper} {num:Int} {len:Nat} {lv:LV} (hW:RW G w0 Z0 Z β H w) (hF:RF ds β Z w (M H) F a) (h:aBW P G F H o o2=ah (num,len,lv)) (h0:0<=num/\num<(len:Int)):
  o.guard=aj/\o2.guard=aj/\∃v z,(execOp a.eval o).run P w=.ok (.value v) w/\(execOp (a.put o.dst v).eval o2).run P w=.ok (.value z) w/\R β Z w lv z/\okV (M H) lv:=by
 unfold aBW at h;split at h
 ·rename_i hg
  simp only [AY,ZF] at hg;refine ⟨hg.1,hg.2,?_⟩;split at h
  ·rename_i t x i d t2 d2 ho hd ho2
   split at h
   ·rename_i hc
    obtain ⟨rfl,hdl,hagg⟩:=hc;split at h
    ·rename_i len' e k off kd n hu hx hi
     split at h
     ·rename_i hsz
      split at h
      ·rename_i b hb
       split at h
       ·rename_i hcl
        split at h
        ·rename_i ty l rest hcs
         split at h
         ·rename_i ls hls
          simp only [Ah,Ax] at h;obtain ⟨rfl,rfl,rfl⟩:=h
          have exv:=hF.eval hW.CW x
          have eiv:=hF.eval hW.CW i
          rw [hx] at exv;rw [hi] at eiv
          have hix:(TU P t (.own k off) U<|.ki kd n).all (λr=>r=.own k (off+n.toNat*(0+1))):=by
           unfold TU;simp only [pl,hu,hsz,Bm];rw [AD h0];simp only [T.all]
          obtain ⟨v,e1,e2,e3⟩:=aBx (w:=w) hix exv.1 (show R β Z w (.ki kd n) (a.eval i) by simp only [R];exact eiv.1) exv.2
          have hj:n.toNat<len':=A0
          obtain ⟨c,hc⟩:∃c,b.c[off+n.toNat]? =ah c:=⟨_,DQ A0⟩
          have hcc:(LV.xl ty l::rest)[n.toNat]? =ah c:=by
           rw [<-hcs,Kz,AD hj,F8];exact hc
          obtain ⟨l',rfl,hl'⟩:=aDh _ _ hls _ _ hcc
          have hld:(FH P H t2<|.own k<|off+n.toNat*(0+1)).all (λz=>z=.xl ty l'):=by
           unfold FH;simp only [hagg,hb,EM,Nat.mul_one,hcl.1,Bm,hc,T.all]
          obtain ⟨z,f1,f2,f3⟩:=mw hW hld e2 e3;refine ⟨v,z,Jz,?_,?_,?_⟩
          ·have hda:d2<a.tmps.size:=by rw [hF.size];exact hdl
           have ev:(a.put o.dst v).eval (.tmp d2)=v:=by simp [hd,Act.put,Act.eval,Array.getD,hda]
           simp [execOp,ho2,ev,f1]
          ·have:ls.getD n.toNat []=l':=A8
           rw [this];exact f2
          ·trivial
         ·cases h
        ·cases h
       ·cases h
      ·cases h
     ·cases h
    ·cases h
   ·cases h
  ·cases h
 ·cases h
theorem bx (hΓ:∀g S,Γ g=ah S->Valid P G g S) (hK:FE P G K) {ops:Array Oper}{Q:Exit->Act->World->Prop}{F':List LV}{H':List AB}(hQ:∀Z' β' a' w',RW G w0 Z0 Z' β' H' w'->RF ds β' Z' w' (M H') F' a'->Q .normal a' w') (r:Option Nat) (m:Nat):
  ∀(os:List Oper) (k:Nat) (F:List LV) (H:List AB) (Z:Nat->Prop) (β:Nat->Loc) (a:Act) (w:World),(∀j,os[j]? =ops[k+j]?)->RW G w0 Z0 Z β H w->RF ds β Z w (M H) F a->
   (IM P G Γ K ops os F H).all (λq=>q=(F',H'))->wpOpsIn (DP r) m P ops Q (List.range' k<|M os) a w
 | [],k,F,H,Z,β,a,w,_,hW,hF,h=>by
  simp only [IM,T.all,Ax] at h;obtain ⟨rfl,rfl⟩:=h;simp only [Bp,List.range'_zero,wpOpsIn];exact hQ Z β a w hW hF
 | o ::os,k,F,H,Z,β,a,w,hl,hW,hF,h=>by
  have h0:ops[k]? =ah o:=by simpa using (hl 0).symm
  have hl':∀j,os[j]? =ops[k+1+j]? :=λj=>by have:=hl<|j+1;simpa [HV,xF 1 j] using this
  simp only [Bk,List.range'_succ,wpOpsIn,h0]
  have goOk:∀(F:List LV),RF ds β Z w (M H) F a->((Jq P G Γ K F H o).bind λq=>IM P G Γ K ops os (At F o.dst q.1) q.2).all (λq=>q=(F',H'))->o.wpIn (DP r) m P a w (wpOpsIn (DP r) m P ops Q<|List.range' (k+1)<|M os) Q:=λF hF h=>by
   obtain ⟨⟨lv,H1⟩,h1,h2⟩:=T.B4 h;refine Vq (K3 (λv w' ⟨Z',β',e1,e2,e3,e4⟩=>?_)<|aCO hΓ hK hW hF h1) r m
   exact bx hΓ hK hQ r m os (k+1) _ H1 Z' β' _ w' hl' e1 (e2.put e3 e4 o.dst) h2
  have passOk:∀(F:List LV),RF ds β Z w (M H) F a->(IM P G Γ K ops os (At F o.dst<|.v undef) H).all (λq=>q=(F',H'))->(∀f,o.about P w a.eval=ah f->(DP r).fn f)/\wpOpsIn (DP r) m P ops Q (List.range' (k+1)<|M os) (a.put o.dst undef) w:=λF hF h=>
   ⟨λ_ _=>trivial,bx hΓ hK hQ r m os (k+1) _ H Z β _ w hl' hW (hF.pass o.dst) h⟩
  unfold IM at h;simp only at h;split at h
  ·rename_i hg
   have hw:az o (yielded ops a.tmps)=true:=Zt
   rw [AD hw];split at h
   ·exact goOk F hF h
   ·rename_i o2 os2
    split at h
    ·rename_i num len lv hix
     simp only [T.all] at h;obtain ⟨h1,h2⟩:=h;obtain ⟨_,hg2,v,z,r1,r2,r3,r4⟩:=afC hW hF hix h1
     have h02:ops[k+1]? =ah o2:=by simpa using (hl' 0).symm
     have hl2:∀j,os2[j]? =ops[k+1+1+j]? :=λj=>by have:=hl'<|j+1;rw [jr] at this;rw [this];congr 1;omega
     have act1:∀ {K:Value->World->Prop},K v w->DU P K ((execOp a.eval o).run P w):=λh=>by rw [r1];exact h
     have act2:∀ {K:Value->World->Prop},K z w->DU P K ((execOp (a.put o.dst v).eval o2).run P w):=λh=>by rw [r2];exact h
     refine Vq (act1 ?_) r m;simp only [Bk,List.range'_succ,wpOpsIn,h02]
     have hw2:az o2 (yielded ops (a.put o.dst v).tmps)=true:=by simp [az,hg2]
     rw [AD hw2];refine Vq (act2 ?_) r m;exact bx hΓ hK hQ r m os2 (k+1+1) _ H Z β _ w hl2 hW ((hF.put (lv:=.junk) JR trivial o.dst).put r3 r4 o2.dst) h2
    ·exact goOk F hF h
  ·rename_i j want hg
   split at h
   ·rename_i d hd
    split at h
    ·rename_i b hb
     obtain ⟨s1,s2⟩:=hF.slot hb AI
     have hv:=(hF.get d _ s1).1
     simp only [R] at hv;rw [hv] at s2;rw [Vt hg hd s2];split at h
     ·grind
     ·rename_i e;rw [AE yq];exact passOk F hF h
    ·rename_i g hb
     obtain ⟨s1,s2⟩:=hF.slot hb AI
     have hv:=(hF.get d _ s1).1
     simp only [R] at hv
     have kn:∀b,g=b->RF ds β Z w (M H) (F.set d<|.bl b) a:=λb e=>hF.know lC trivial
     rw [hv] at s2;rw [Vt hg hd s2];split at h
     ·rename_i hwt
      subst hwt;simp only [T.all] at h;cases hgg:g with
      |true=>simp only [OV,Bm];exact goOk _ (kn U hgg) (h.1 hgg)
      |false=>rw [AE AI];exact passOk _ (kn X hgg)<|h.2 hgg
     ·rename_i hwt
      have hwt':want=false:=yW
      subst hwt';simp only [T.all] at h;cases hgg:g with
      |true=>rw [AE AI];exact passOk _ (kn U hgg) (h.1 hgg)
      |false=>simp only [OV,Bm];exact goOk _ (kn X hgg)<|h.2 hgg
    ·rename_i vs hb
     obtain ⟨s1,s2⟩:=hF.slot hb AI
     have hv:=(hF.get d _ s1).1
     simp only [R] at hv;exact aLs
    ·cases h
   ·cases h
def T.lv {α:Type}(p:α->Prop):T α->Prop
 | .ok x=>p x
 | .br _ t e=>t.lv p/\e.lv p
 | .req _ t=>t.lv p
 | .no=>True
def T.TM {α γ:Type}{p:α->Prop}{q:γ->Prop}{k:α->T γ}(hk:∀x,p x->(k x).lv q):∀ {t:T α},t.lv p->(t.bind k).lv q
 | .ok _,h=>hk _ h
 | .br _ t e,h=>⟨T.TM hk (t:=t) h.1,T.TM hk (t:=e) h.2⟩
 | .req _ t,h=>T.TM hk (t:=t) h
 | .no,_=>trivial
def T.WC {α:Type}{p:α->Prop}(hp:∀x,p x):∀(t:T α),t.lv p
 | .ok _=>hp _
 | .br _ t e=>⟨T.WC hp t,T.WC hp e⟩
 | .req _ t=>T.WC hp t
 | .no=>trivial
theorem afJ {o:Oper}(hpt:LC P 8 o.type=U) {g:FuncId}{l:List LV}:(LM P Γ H o g l).lv (λq=>q.2=H):=by
 have bd:∀(t:T LV),(t.bind λy=>(T.ok (y,H):T<|LV×List AB)).lv (λq=>q.2=H):=λt=>T.TM (p:=λ_=>True) (q:=λq:LV×List AB=>q.2=H) (k:=λy=>T.ok (y,H)) (λx _=>(rfl:(x,H).2=H))<|T.WC (λ_=>trivial) t
 unfold LM;split
 ·split
  ·split
   ·split
    ·exact bd _
    ·grind
   ·trivial
  ·trivial
 ·trivial
def oY {o:Oper}(hm:Oq P o=U):(Aw P G Γ F H o).lv (λq=>q.2=H):=by
 have bd:∀(t:T LV),(t.bind λy=>(T.ok (y,H):T<|LV×List AB)).lv (λq=>q.2=H):=λt=>T.TM (p:=λ_=>True) (q:=λq:LV×List AB=>q.2=H) (k:=λy=>T.ok (y,H)) (λx _=>(rfl:(x,H).2=H))<|T.WC (λ_=>trivial) t
 have c1:∀ {f:Operand} {args:Array Operand} {ty:Array TypeId},o.op=.call {callee:=.value f,args,argTypes:=ty}->LC P 8 o.type=true:=λho=>aNR
 have c2:∀ {r:Operand} {name:String} {args:Array Operand} {ty:Array TypeId},o.op=.call {callee:=.invoke r name,args,argTypes:=ty}->LC P 8 o.type=true:=λho=>aNR
 unfold Aw;split<;>(try exact bd _)<;>(try trivial)<;>(try rfl)<;>(try (rename_i ho;simp [Oq,ho] at hm;done))<;>(try (rename_i ho;have hpt:=c1 ho))<;>(try (rename_i ho;have hpt:=c2 ho))
 all_goals (split<;>(try exact bd _)<;>(try trivial)<;>(try rfl)<;>(try exact afJ hpt))
 all_goals (split<;>(try exact bd _)<;>(try trivial)<;>(try rfl))
def Keeps (ds:List Nat) (F:List LV) (H:List AB) (q:List LV×List AB):Prop:=M q.1=M F/\(∀i,i∉ds->q.1[i]? =F[i]?)/\q.2=H
theorem bX {ds:List Nat}{F F1:List LV}(h:M F1=M F/\∀i,i∉ds->F1[i]? =F[i]?) {d:Nat}(hd:d∈ds) (x:LV):M (F1.set d x)=M F/\∀i,i∉ds->(F1.set d x)[i]? =F[i]? :=by
 refine ⟨A8,λi hi=>?_⟩
 grind
def Vn {ds:List Nat}{F F1:List LV}(h:M F1=M F/\∀i,i∉ds->F1[i]? =F[i]?) {d:Option Nat}(hd:∀t,d=ah t->t∈ds) (x:LV):M (At F1 d x)=M F/\∀i,i∉ds->(At F1 d x)[i]? =F[i]? :=by
 cases d with
 |none=>exact h
 |some t=>exact bX h (hd t rfl) x
theorem nI {ops:Array Oper}{F0:List LV}:∀(os:List Oper) (F:List LV),(∀o∈os,o∈ops.toList)->(∀o∈os,S6 P Γ o=U)->M F=M F0/\(∀i,i∉FO ops.toList->F[i]? =F0[i]?)->
  (IM P G Γ K ops os F H).lv (Keeps (FO ops.toList) F0 H)
 | [],F,_,_,h=>by simp only [IM,T.lv,Keeps];exact ⟨h.1,h.2,ak⟩
 | o ::os,F,hin,hm,h=>by
  have hdo:∀t,o.dst=ah t->t∈FO ops.toList:=λt ht=>SU.2 ⟨o,hin o AI,ht⟩
  have go:∀F:List LV,M F=M F0/\(∀i,i∉FO ops.toList->F[i]? =F0[i]?)->((Jq P G Γ K F H o).bind λq=>IM P G Γ K ops os (At F o.dst q.1) q.2).lv (Keeps (FO ops.toList) F0 H):=λF hF=>
   T.TM (p:=λq=>q.2=H) (λq hq=>by rw [hq];exact nI os _ (λo ho=>hin o VY) (λo ho=>hm o VY)<|Vn hF hdo _) (by rw [axO<|hm o AI];exact oY<|afj<|hm o AI)
  have pass:∀F:List LV,M F=M F0/\(∀i,i∉FO ops.toList->F[i]? =F0[i]?)->(IM P G Γ K ops os (At F o.dst<|.v undef) H).lv (Keeps (FO ops.toList) F0 H):=λF hF=>
   nI os _ (λo ho=>hin o VY) (λo ho=>hm o VY) (Vn hF hdo _)
  unfold IM;simp only;split
  ·split
   ·exact go F h
   ·rename_i o2 os2
    split
    ·have hdo2:∀t,o2.dst=ah t->t∈FO ops.toList:=λt ht=>SU.2 ⟨o2,hin o2 AI,ht⟩
     exact nI os2 _ (λo ho=>hin o VY) (λo ho=>hm o VY)<|Vn (Vn h hdo _) hdo2 _
    ·exact go F h
  ·rename_i j want hg
   split
   ·rename_i d hd
    have hdd:d∈FO ops.toList:=by
     cases hj:ops[j]? with
     |none=>simp [hj] at hd
     |some oj=>simp [hj] at hd;exact SU.2 ⟨oj,A8,hd⟩
    split
    ·split
     ·exact go F h
     ·exact pass F h
    ·exact aKm
    ·grind
    ·trivial
   ·trivial
def aav {x:LV}{v:Value}(h:R β Z w x v):R β Z w (nki x) v:=yg
def ae6 {x y:LV}{v:Value}(h:R β Z w x v):R β Z w (TK U x y) v:=by
 unfold TK;split<;>simp_all [R]
 split<;>simp_all [R]
def adw {x y:LV}{v:Value}(h:R β Z w y v):R β Z w (TK X x y) v:=by
 unfold TK;split<;>simp_all [R]
 split<;>simp_all [R]
def aep {b:Bool}{x y:LV}:okV n (TK b x y):=by
 unfold TK;split<;>(try trivial)
 split<;>trivial
def aeJ {x y:LV}{v:Value}(h:R β Z w x v):R β Z w (Wy U x y) v:=ae6<|aav h
def ae5 {x y:LV}{v:Value}(h:R β Z w y v):R β Z w (Wy X x y) v:=adw<|aav h
def afi {b:Bool}{x y:LV}:okV n (Wy b x y):=aep
theorem aE0 {dl:List Deferred}{ds:List Nat}{b:Bool}{F F1 F2:List LV}(k1:M F1=M F/\∀i,i∉ds->F1[i]? =F[i]?) (k2:M F2=M F/\∀i,i∉ds->F2[i]? =F[i]?) (h:RF dl β Z w n (if b then F1 else F2) a):RF dl β Z w n (TR ds b F F1 F2) a:=by
 refine ⟨by rw [h.size];cases b<;>simp [TR,k1.1,k2.1],λt x hx=>?_,h.defers⟩
 have ht:t<M F:=by have:=(Dv.1 hx).1;simpa [TR] using this
 have hx':x=if ds.contains t then Wy b (F1.getD t .junk) (F2.getD t .junk) else F.getD t .junk:=by
  simp [TR,ht] at hx
  rw [<-hx]
  grind
 have g1:∀q,(if b then F1 else F2)[t]? =ah q->R β Z w q (a.tmps.getD t undef)/\okV n q:=λq hq=>h.get t q hq
 by_cases hc:t∈ds
 ·rw [AD<|by simpa using hc] at hx'
  rw [hx'];refine ⟨?_,afi⟩;cases b with
  |true=>
   have:=(g1 (F1[t]' A0) AI).1
   have e2:F1.getD t .junk=F1[t]' A0:=A8
   rw [e2];exact aeJ this
  |false=>
   have:=(g1 (F2[t]' A0) AI).1
   have e2:F2.getD t .junk=F2[t]' A0:=A8
   rw [e2];exact ae5 this
 ·rw [AE<|by simpa using hc] at hx'
  have e:=DQ ht
  have e2:F.getD t .junk=F[t]'ht:=A8
  rw [hx',e2];refine g1 _ ?_;cases b with
  |true=>simp only [Bm];rw [k1.2 t hc,e]
  |false=>simp only [IA,F9];rw [k2.2 t hc,e]
theorem bZ {ds:List Nat}:∀ {t:T<|List LV×List AB},t.lv (Keeps ds F H)->(KJ ds F H t).lv (Keeps ds F H)
 | .ok _,h=>h
 | .no,_=>trivial
 | .req _ t,h=>bZ (t:=t) h
 | .br b t e,h=>by
  have h1:=bZ h.1
  have h2:=bZ h.2
  simp only [KJ];split
  ·rename_i x y hx hy
   rw [hx] at h1;rw [hy] at h2;split
   ·exact ⟨h1,h2⟩
   refine ⟨by simp [TR],λi hi=>?_,rfl⟩
   simp only [TR]
   by_cases ht:i<M F
   ·grind
   ·simp [ht]
  ·exact ⟨h1,h2⟩
def Oh {ds:List Nat}:∀ {t:T<|List LV×List AB}{r:List LV×List AB},t.lv (Keeps ds F H)->(KJ ds F H t).all (λq=>q=r)->
  ∃q,t.all (λz=>z=q)/\q.2=r.2/\∀(dl:List Deferred) (β:Nat->Loc) (Z:Nat->Prop) (w:World) (n:Nat) (a:Act),RF dl β Z w n q.1 a->RF dl β Z w n r.1 a
 | .ok x,r,_,h=>⟨x,rfl,by rw [show x=r from h],λ_ _ _ _ _ _ hh=>by rw [<-show x=r from h];exact hh⟩
 | .no,_,_,h=>Ao
 | .req p t,r,hk,h=>by
  obtain ⟨q,h1,h2,h3⟩:=Oh (t:=t) hk h.2;exact ⟨q,⟨h.1,h1⟩,h2,h3⟩
 | .br b t e,r,hk,h=>by
  have k1:=bZ hk.1
  have k2:=bZ hk.2
  have apart:(T.br b (KJ ds F H t)<|KJ ds F H e).all (λq=>q=r)->∃q,(T.br b t e).all (λz=>z=q)/\q.2=r.2/\∀(dl:List Deferred) (β:Nat->Loc) (Z:Nat->Prop) (w:World) (n:Nat) (a:Act),RF dl β Z w n q.1 a->RF dl β Z w n r.1 a:=λh=>by
   cases b with
   |true=>
    obtain ⟨q,h1,h2,h3⟩:=Oh (t:=t) hk.1<|h.1 rfl;exact ⟨q,⟨λ_=>h1,λhb=>L4⟩,h2,h3⟩
   |false=>
    obtain ⟨q,h1,h2,h3⟩:=Oh (t:=e) hk.2<|h.2 rfl;exact ⟨q,⟨λhb=>L4,λ_=>h1⟩,h2,h3⟩
  simp only [KJ] at h;split at h
  ·rename_i x y hx hy
   split at h
   ·simp_all
   rw [hx] at k1;rw [hy] at k2
   have hr:=h
   cases b with
   |true=>
    obtain ⟨q,h1,h2,h3⟩:=Oh (t:=t) (r:=x) hk.1 (by rw [hx];rfl)
    refine ⟨q,⟨λ_=>h1,λhb=>L4⟩,by rw [<-hr,h2];exact k1.2.2,λdl β Z w n a hh=>?_⟩
    rw [<-hr];exact aE0 ⟨k1.1,k1.2.1⟩ ⟨k2.1,k2.2.1⟩ (h3 dl β Z w n a hh)
   |false=>
    obtain ⟨q,h1,h2,h3⟩:=Oh (t:=e) (r:=y) hk.2 (by rw [hy];rfl)
    refine ⟨q,⟨λhb=>L4,λ_=>h1⟩,by rw [<-hr,h2];exact k2.2.2,λdl β Z w n a hh=>?_⟩
    rw [<-hr];exact aE0 ⟨k1.1,k1.2.1⟩ ⟨k2.1,k2.2.1⟩<|h3 dl β Z w n a hh
  ·simp_all
theorem afb (hΓ:∀g S,Γ g=ah S->Valid P G g S) (hK:FE P G K) {id:Nat}{ops:Array Oper}{Q:Exit->Act->World->Prop}{F':List LV}{H':List AB}(hQ:∀Z' β' a' w',RW G w0 Z0 Z' β' H' w'->RF ds β' Z' w' (M H') F' a'->Q .normal a' w')
  (hW:RW G w0 Z0 Z β H w) (hF:RF ds β Z w (M H) F a) (h:(aBQ P G Γ K ops F H).all λq=>q=(F',H')) (r:Option Nat) (m:Nat):(Code.region id ops X).wpIn (DP r) m P Q a w:=by
 refine wpIn_region ?_
 have e:au ops.size=List.range' 0 (M ops.toList):=by rw [List.range_eq_range'];simp
 rw [e];unfold aBQ at h;split at h
 ·rename_i hm
  have hk:(IM P G Γ K ops ops.toList F H).lv (Keeps (FO ops.toList) F H):=nI _ _ (λ_ h=>h) (λo ho=>BP.1 hm o ho) ⟨rfl,λ_ _=>rfl⟩
  obtain ⟨q,h1,h2,h3⟩:=Oh hk h;refine bx hΓ hK (F':=q.1) (H':=q.2) (λZ' β' a' w' e1 e2=>hQ Z' β' a' w' A8 A8) r m ops.toList 0 F H Z β a w AI hW hF h1
 ·exact bx hΓ hK hQ r m ops.toList 0 F H Z β a w AI hW hF h
end Go.Sx
namespace Go.Sx
open Go Go.RowKit Go.Proofs.YtipodhghjclmbaaGreatDoor
variable {P : Program} {G : B1} {Γ : Specs} {β : Nat -> Loc} {Z : Nat -> Prop} {Z0 : Gz} {w w0 wr : World} {F : List LV} {H : List AB} {a : Act} {ds : List Deferred} {n : Nat}
def T.QT {α:Type}{p:α->Prop}{x:α}:∀ {t:T α},t.lv p->t.all (λz=>z=x)->p x
 | .ok y,h,e=>by rw [<-show y=x from e];exact h
 | .br b t e,h,hh=>by
  cases b with
  |true=>exact T.QT (t:=t) h.1 (hh.1 rfl)
  |false=>exact T.QT (t:=e) h.2 (hh.2 rfl)
 | .req _ t,h,hh=>T.QT (t:=t) h hh.2
 | .no,_,hh=>by cases hh
theorem af4 {t:TypeId}{x lv:LV}{y:Value}(hW:RW G w0 Z0 Z β H w) (h:(FH P H t x).all λz=>z=lv) (hr:R β Z w x y):∀k,k∈owns x->(∃b,H[k]? =ah b/\live β k b)/\((∃off,x=.own k off)\/∃es i j,x=.op k es i j):=by
 intro k hk
 have cl:∀b:AB,b.Dl=U->live β k b:=λb hc=>by
  unfold AB.Dl at hc;split at hc
  ·rename_i hb;unfold live;rw [hb];trivial
  ·cases hc
 unfold FH at h;split at h
 ·exact aKc
 ·exact aKc
 ·cases h
def af0 {t:TypeId}{x q lv:LV}(h:(U9 P H t x q).all λr=>r=lv):∀k,x=.om k->∃b,H[k]? =ah b/\live β k b:=by
 intro k hk;subst hk;unfold U9 at h;exact aLT
def aeL {t:TypeId}{x q lv:LV}(h:(Wz P H t x q).all λr=>r=lv):∀k,x=.om k->∃b,H[k]? =ah b/\live β k b:=by
 intro k hk;subst hk;unfold Wz at h;exact aLT
def af2 {t:TypeId}{x q lv:LV}(h:(XJ P H t x q).all λr=>r=lv):∀k,x=.om k->∃b,H[k]? =ah b/\live β k b:=by
 intro k hk;subst hk;unfold XJ at h;simp only at h;split at h
 ·rename_i hb;exact ⟨_,hb,ak⟩
 ·exact af0 h k rfl
def aeu (hΓ:∀g S,Γ g=ah S->Valid P G g S) {tr:List Nat} {D:World->Prop} {o:Oper} {lv:LV} (hW:RW G w0 Z0 Z β H wr) (hF:RF ds β Z wr (M H) F a)
  (hD:∀w',D w'->RW G w0 Z0 Z β H w'/\∀b,(Z b\/∃k bk,H[k]? =ah bk/\live β k bk/\tr.contains k=X/\b=(β k).b)->w'.heap[b]? =wr.heap[b]?)
  (h:(XP P G Γ tr F H o).all λz=>z=lv):∃v,(∀w',D w'->NY P o a w' v)/\R β Z wr lv v/\okV (M H) lv:=by
 unfold XP at h;split at h
 ·cases h
 ·rename_i hsp
  simp only [Ck,Cs,not_or,Bool.not_eq_true,Pv] at hsp;obtain ⟨hsp,hap⟩:=hsp
  have ev:=λx=>hF.eval hW.CW x
  have hFD:∀w',D w'->RF ds β Z w' (M H) F a:=λw' hw'=>hF.mono (Ar _) (λ_ _=>rfl) (λ_ h=>h) λb hz=>(hD w' hw').2 b<|.inl hz
  split at h
  ·rename_i hcall
   obtain ⟨h1,hpl⟩:=aD5 h;obtain ⟨⟨lv',H'⟩,h2,h3⟩:=T.B4 h1
   have e3:lv'=lv:=h3
   subst e3;obtain ⟨x,hx⟩:=ZH.1 hpl
   have hm:Oq P o=true:=by unfold Wf at hcall;unfold Oq;unfold isSp at hsp;split at hcall<;>simp_all
   have hH:H'=H:=T.QT (p:=λq:LV×List AB=>q.2=H) (x:=(lv',H')) (oY hm) h2
   subst hH;refine ⟨x,λw' hw'=>?_,aKL hx,?_⟩
   ·have hs:=cB hΓ (hD w' hw').1 (hFD w' hw') h2
    have hrun:∃g vals,(execOp a.eval o).run P w'=.ok (.enter g vals) w':=by
     unfold Wf at hcall;split at hcall
     ·rename_i f args ty ho
      have h2':=h2
      unfold Aw at h2';simp only [ho] at h2';split at h2'
      ·rename_i g cap hf
       have hfr:=(ev f).1
       rw [hf] at hfr;simp only [R] at hfr;obtain ⟨ys,hy,_⟩:=hfr;obtain ⟨fn,S,k1,k2,k3,_⟩:=T8 h2';exact ⟨_,_,aCK ho hy k1 k2 k3 w'⟩
      ·rename_i g fs hf
       have hfr:=(ev f).1
       rw [hf] at hfr;simp only [R] at hfr;obtain ⟨ys,hy,_⟩:=hfr;obtain ⟨fn,S,k1,k2,k3,_⟩:=T8 h2';exact ⟨_,_,aCr ho hy k1 k2 k3 w'⟩
      ·cases h2'
     ·rename_i r name args ty ho
      have h2':=h2
      unfold Aw at h2';simp only [ho] at h2';split at h2'
      ·rename_i g rv hf
       obtain ⟨t,v,hy,hm⟩:=aGh hf (ev r).1;obtain ⟨fn,S,k1,k2,k3,_⟩:=T8 h2';exact ⟨_,_,aD3 ho hy hm k1 k2 k3 w'⟩
      ·cases h2'
     ·cases hcall
    obtain ⟨g,vals,hr⟩:=hrun;unfold NY;rw [hr] at hs|-;simp only [DU] at hs;refine ⟨rfl,hs.mono λe w'' ⟨v,he,Z',β',_,_,hrv,_,_,_,_,hn⟩=>?_⟩
    have hv:=Cb hx hrv
    subst hv;refine ⟨he,hn.os,hn.tape,hn.output,hn.size,λk hk=>hn.block k hk ?_⟩
    unfold Wf at hcall;split at hcall
    ·rename_i ho;simp [Ox,Ea,ho,DN]
    ·rename_i ho;simp [Ox,Ea,ho,DN]
    ·cases hcall
   ·cases lv' with
    |fn f l=>cases l with
     |nil=>trivial
     |cons _ _=>simp [pl] at hx
    |v _=>trivial
    |bl _=>trivial
    |ki _ _=>trivial
    |_=>simp [pl] at hx
  ·rename_i hnc
   obtain ⟨⟨lv',H'⟩,h2,h3⟩:=T.B4 h
   have e3:lv'=lv:=h3
   subst e3
   clear h3
   have val:∀ {v:Value},(∀w',D w'->(execOp a.eval o).run P w'=.ok (.value v) w')->R β Z wr lv' v->okV (M H) lv'->∃v,(∀w',D w'->NY P o a w' v)/\R β Z wr lv' v/\okV (M H) lv':=λ{v} hrun hr hk=>
    ⟨v,λw' hw'=>by unfold NY;rw [hrun w' hw'];exact A9,hr,hk⟩
   have hsel:∀cs b,o.op≠ .select cs b:=λcs b e=>by unfold Aw at h2;simp only [e] at h2;cases h2
   have same:∀ {t:T LV},(t.bind λy=>(T.ok (y,H):T<|LV×List AB)).all (λq=>q=(lv',H'))->t.all (λz=>z=lv'):=λh=>by
    obtain ⟨x,g1,g2⟩:=T.B4 h;simp only [T.all,Ax] at g2;obtain ⟨rfl,rfl⟩:=g2;exact g1
   have gen:(DX P G F o).all (λz=>z=lv')->∃v,(∀w',D w'->NY P o a w' v)/\R β Z wr lv' v/\okV (M H) lv':=λhg=>by
    unfold DX at hg;split at hg
    ·rename_i hpl
     split at hg
     ·rename_i y hy
      simp only [T.all] at hg
      have hcong:execOp a.eval o=execOp (λx=>(pl<|AL G F x).getD undef) o:=kT o hsel λx hx=>by
       have h1:=BP.1 hpl x yQ
       obtain ⟨z,hz⟩:=ZH.1 h1;rw [hz];exact Cb hz (ev x).1
      refine val (v:=y) (λw' _=>by rw [hcong];exact aF9 hy w') ?_ ?_<;>rw [<-hg]
      ·split
       ·exact aK1 y
       ·exact Dk
      ·split
       ·exact ab4 y
       ·trivial
     ·cases hg
    ·cases hg
   have h:=h2
   unfold Aw at h;split at h
   ·cases h
   ·exact aKz
   ·exact aKz
   ·rename_i c x y ho
    obtain ⟨g,e1,e2,e3⟩:=ade (same h) (ev c).1 (ev x).1 (ev y).1 (ev x).2 (ev y).2;exact val (v:=if g then a.eval x else a.eval y) (λw' _=>aNt) e2 e3
   ·exact NB
   ·exact NB
   ·rename_i t x ho
    obtain ⟨z,e1,e2,e3⟩:=mw hW (same h) (ev x).1 (ev x).2;refine val (v:=z) (λw' hw'=>?_) e2 e3
    have hlv:=af4 hW (same h) (ev x).1
    have:=e1 w' λb hb=>(hD w' hw').2 b (by
     rcases hb with hb|⟨k,e4,e5⟩
     ·exact .inl hb
     ·obtain ⟨⟨bk,l1,l2⟩,l3⟩:=hlv k e4
      refine .inr ⟨k,bk,l1,l2,?_,e5⟩;unfold qU at hap;simp only [ho] at hap;rcases l3 with ⟨off,l3⟩ |⟨es,i,j,l3⟩
      ·rw [l3] at hap;simpa using hap
      ·rw [l3] at hap;simpa using hap)
    simp [execOp,ho,this]
   ·exact NB
   ·rename_i s x i ho
    obtain ⟨z,e1,e2,e3⟩:=adR (w:=wr) (same h) (ev x).1 (ev x).2;exact kg
   ·rename_i t x i ho
    obtain ⟨z,e1,e2,e3⟩:=aBx (w:=wr) (same h) (ev x).1 (ev i).1 (ev x).2;exact kg
   ·rename_i t parts ho
    obtain ⟨z,e1,e2,e3⟩:=adX (β:=β) (Z:=Z) (w:=wr) (n:=M H) (pv:=parts.map λq=>(q.1,a.eval q.2)) (same h) VT (by
     simp only [N7,Gy];refine RL.CQ AI λi x hx=>?_
     rw [DS] at hx|-;cases hq:parts.toList[i]? with
     |none=>simp [hq] at hx
     |some q=>simp [hq] at hx;subst hx;exact ⟨a.eval q.2,AI,(cv<|ev q.2).1⟩) (by
     simp only [Gy];refine AS.CQ λi x hx=>?_
     rw [DS] at hx;cases hq:parts.toList[i]? with
     |none=>simp [hq] at hx
     |some q=>simp [hq] at hx;subst hx;exact (cv<|ev q.2).2)
    exact val (v:=z) (λw' _=>Jz) e2 e3
   ·exact NB
   ·exact NB
   ·rename_i t x lo hi ho
    split at h
    ·exact NC
    ·have ro:∀q:Option Operand,RO β Z wr (q.map<|AL G F) (q.map a.eval):=λq=>by
      cases q with
      |none=>trivial
      |some q=>exact (ev q).1
     obtain ⟨z,e1,e2,e3⟩:=adK (w:=wr) (same h) (ev x).1 (ro lo) (ro hi) (ev x).2;exact kg
   ·rename_i t x lo hi mx ho
    split at h
    ·exact NC
    ·have ro:RO β Z wr (lo.map<|AL G F) (lo.map a.eval):=by
      cases lo with
      |none=>trivial
      |some q=>exact (ev q).1
     obtain ⟨z,e1,e2,e3⟩:=adB (w:=wr) (N:=M H) (same h) (ev x).1 ro (ev hi).1 (ev mx).1;exact kg
   ·exact NB
   ·exact NB
   ·exact NB
   ·rename_i t x i ho
    obtain ⟨z,e1,e2,e3⟩:=adk hW (same h) (ev x).1 (ev i).1 (ev x).2;refine val (v:=z) (λw' hw'=>?_) e2 e3
    have hlv:=af2 (β:=β)<|same h
    exact aKg
   ·rename_i t x i ho
    split at h
    ·exact NC
    ·obtain ⟨z,e1,e2,e3⟩:=adN hW (same h) (ev x).1 (ev i).1 (ev x).2
     refine val (v:=z) (λw' hw'=>?_) e2 e3
     have hlv:=aeL (β:=β)<|same h
     exact aKg
   ·rename_i x i ho
    split at h
    ·rename_i l hl
     split at h
     ·rename_i y hy
      simp only [T.all,Ax] at h;obtain ⟨h1,_⟩:=h
      have hx:=ev x
      rw [hl] at hx;simp only [R,okV] at hx;obtain ⟨⟨ys,e1,e2⟩,e3⟩:=hx;obtain ⟨z,e4,e5⟩:=RL.get _ _ e2 hy
      have e6:ys[i]? =ah z:=by simpa using e4
      refine val (v:=z) (λw' _=>aNO) ?_ ?_<;>rw [<-h1]
      ·exact e5
      ·exact AS.get _ _ e3 hy
     ·cases h
    ·exact NC
   ·rename_i t x i ho
    split at h
    ·rename_i l hl
     have hx:=ev x
     rw [hl] at hx;simp only [R,okV] at hx;obtain ⟨⟨ys,e1,e2⟩,e3⟩:=hx;obtain ⟨z,f1,f2,f3⟩:=aDN (same h) e2 e3;exact aLa
    ·exact NC
   ·rename_i f first cap ho
    split at h
    ·rename_i he
     simp only [T.all,Ax] at h;obtain ⟨h1,_⟩:=h
     have hfirst:first=#[]:=by
      have:first.toList=[]:=Zz
      exact Py
     refine val (v:=.func (.func f) #[]<|cap.map a.eval) (λw' _=>aNK) ?_ ?_<;>rw [<-h1]
     ·exact aKY
     ·exact aLS
    ·split at h
     ·rename_i he
      simp only [T.all,Ax] at h;obtain ⟨h1,_⟩:=h
      have hcap:cap=#[]:=by
       have:cap.toList=[]:=Zz
       exact Py
      refine val (v:=.func (.func f) (first.map a.eval) #[]) (λw' _=>aNP) ?_ ?_<;>rw [<-h1]
      ·exact aKW
      ·exact aLQ
     ·cases h
   ·rename_i x ho
    have hx:=ev x
    split at h
    ·rename_i k off hl
     exact aLJ
    ·rename_i k es i j hl
     exact aLJ
    ·rename_i n f hl
     simp only [T.all,Ax] at h;rw [hl] at hx
     have hx1:=hx.1
     simp only [R] at hx1;obtain ⟨b,off,e1,_⟩:=hx1;refine val (v:=a.eval x) (λw' _=>Jz) ?_ ?_<;>rw [<-h.1]
     ·exact hx.1
     ·exact hx.2
    ·exact aLD
    ·exact aLD
    ·exact NC
   ·rename_i t x y t' ho
    split at h
    ·rename_i k n k' m hx hy
     split at h
     ·rename_i hk
      subst hk;simp only [T.all,Ax] at h;obtain ⟨h0,h1,_⟩:=h
      have e1:=Cb hx (ev x).1
      have e2:=Cb hy (ev y).1
      refine val (v:=Y k<|k.wrap<|n.tdiv m) (λw' _=>lF) ?_ ?_<;>rw [<-h1]
      ·exact Dk
      ·trivial
     ·cases h
    ·cases h
   ·rename_i t x y t' ho
    split at h
    ·rename_i k n k' m hx hy
     split at h
     ·rename_i hk
      subst hk;simp only [T.all,Ax] at h;obtain ⟨h0,h1,_⟩:=h
      have e1:=Cb hx (ev x).1
      have e2:=Cb hy (ev y).1
      refine val (v:=Y k<|n.tmod m) (λw' _=>lF) ?_ ?_<;>rw [<-h1]
      ·exact Dk
      ·trivial
     ·cases h
    ·cases h
   ·rename_i t x y t' ho
    split at h
    ·exact NC
    ·split at h
     ·rename_i k n k' m hx hy
      simp only [T.all,Ax] at h;obtain ⟨h0,h1,_⟩:=h
      have e1:=Cb hx (ev x).1
      have e2:=Cb hy (ev y).1
      refine val (v:=Y k<|k.wrap<|n*2^(min m.toNat k.bits)) (λw' _=>lD) ?_ ?_<;>rw [<-h1]
      ·exact Dk
      ·trivial
     ·cases h
   ·rename_i t x y t' ho
    split at h
    ·exact NC
    ·split at h
     ·rename_i k n k' m hx hy
      simp only [T.all,Ax] at h;obtain ⟨h0,h1,_⟩:=h
      have e1:=Cb hx (ev x).1
      have e2:=Cb hy (ev y).1
      refine val (v:=Y k<|n.fdiv<|2^(min m.toNat k.bits)) (λw' _=>lD) ?_ ?_<;>rw [<-h1]
      ·exact Dk
      ·trivial
     ·cases h
   ·rename_i t x i ho
    split at h
    ·rename_i l hl
     obtain ⟨ys,e1,e2,e3⟩:=aDG hl (ev x).1 (ev x).2;obtain ⟨z,f1,f2,f3⟩:=aDJ (same h) e2 e3 (ev i).1;exact aLa
    ·split at h
     ·rename_i s kd n hu hx hi
      simp only [T.all,Ax] at h;obtain ⟨⟨h0,hlt⟩,h1,_⟩:=h
      have e1:=Cb hx (ev x).1
      have e2:=Cb hi (ev i).1
      have hb:n.toNat<s.size:=A0
      have hg:s[n.toNat]? =ah s[n.toNat]:=by simp [hb]
      refine val (v:=Y aw<|Jn s n) (λw' _=>aMk) ?_ ?_<;>rw [<-h1]
      ·exact Dk
      ·trivial
     ·cases h
   ·rename_i ho;simp [Wf,ho] at hnc
   ·rename_i ho;simp [Wf,ho] at hnc
   ·exact NB
   ·exact NB
   ·rename_i args ty ho
    split at h
    ·rename_i k es off n e hl hu
     simp only [T.all,Ax] at h;obtain ⟨h1,_⟩:=h;cases hargs:args.toList with
     |nil=>simp [hargs] at hl
     | cons x xs=>
      cases xs with
      |cons _ _=>simp [hargs] at hl
      | nil=>
       simp only [hargs,E9,L1,HU,OY] at hl
       have hx:=(ev x).1
       rw [hl] at hx;simp only [R] at hx
       have e1:∃ad cap,a.eval x=.slice ad n cap:=by
        exact aKo
       obtain ⟨ad,cap,e1⟩:=e1
       have ha:args=#[x]:=Pz
       cases ht:ty[0]? with
       |none=>simp [ht] at hu
       |some t=>
        simp only [ht,OU] at hu;refine val (v:=Y J n) (λw' _=>VG) ?_ ?_<;>rw [<-h1]
        ·exact Dk
        ·trivial
    ·rename_i e' l e hl hu
     simp only [T.all,Ax] at h;obtain ⟨h1,_⟩:=h;cases hargs:args.toList with
     |nil=>simp [hargs] at hl
     | cons x xs=>
      cases xs with
      |cons _ _=>simp [hargs] at hl
      | nil=>
       simp only [hargs,E9,L1,HU,OY] at hl
       have hx:=(ev x).1
       rw [hl] at hx;simp only [R] at hx;obtain ⟨ad,cap,e1,_⟩:=hx
       have ha:args=#[x]:=Pz
       cases ht:ty[0]? with
       |none=>simp [ht] at hu
       |some t=>
        simp only [ht,OU] at hu;refine val (v:=Y J (M l:Int)) (λw' _=>VG) ?_ ?_<;>rw [<-h1]
        ·exact Dk
        ·trivial
    ·rename_i k' es' off' n' c' e hl hu
     simp only [T.all,Ax] at h;obtain ⟨h1,_⟩:=h;cases hargs:args.toList with
     |nil=>simp [hargs] at hl
     | cons x xs=>
      cases xs with
      |cons _ _=>simp [hargs] at hl
      | nil=>
       simp only [hargs,E9,L1,HU,OY] at hl
       have hx:=(ev x).1
       rw [hl] at hx;simp only [R] at hx;obtain ⟨_,ad,e1,_⟩:=hx
       have ha:args=#[x]:=Pz
       cases ht:ty[0]? with
       |none=>simp [ht] at hu
       |some t=>
        simp only [ht,OU] at hu;refine val (v:=Y J n') (λw' _=>VG) ?_ ?_<;>rw [<-h1]
        ·exact Dk
        ·trivial
    ·exact NC
   ·exact NC
def aBj (tr:List Nat):∀(H:List AB) (k i:Nat),(EP tr k H)[i]? =(H[i]?).map λb=>if tr.contains (k+i) then Qc b else b
 | [],k,i=>by simp [EP]
 |b::bs,k,0=>by simp [EP]
 |b::bs,k,i+1=>by
  simp only [EP,jr];rw [aBj tr bs (k+1) i]
  have:k+1+i=k+(i+1):=A0
  rw [this]
def Ve (tr:List Nat):∀(H:List AB) (k:Nat),M (EP tr k H)=M H
 | [],_=>rfl
 |_::bs,k=>by simp [EP,Ve tr bs<|k+1]
def aIO:∀(ys:List Value),RL β Z w (aq (M ys) .junk) ys
 | []=>aH
 |y::ys=>by simp only [Bk,ZC,RL];exact ⟨y,ys,rfl,JR,aIO ys⟩
def aEO (m:Nat):∀(k:Nat),AS m (aq k .junk)
 |0=>trivial
 |k+1=>⟨ak,aEO m k⟩
def Shp (tr:List Nat) (β:Nat->Loc) (H:List AB) (w:World):Prop:=∀(k:Nat) (b:AB),tr.contains k=U->H[k]? =ah b->b.Dl=U->∃cs,w.heap[(β k).b]? =ah (.cells cs b.t (0,0))/\cs.size=M b.c
def ayD {b:AB}(h:b.Dl=U):b.k=.cl:=by
 unfold AB.Dl at h;split at h
 ·assumption
 ·cases h
theorem adh (b:AB):(b.Dl=U/\Qc b=⟨aq (M b.c) .junk,b.t,.cl,b.p⟩)\/(b.Dl=X/\Qc b=⟨[],b.t,.dead,X⟩):=by
 unfold Qc AB.Dl;exact Zj
def aer {b:AB}{k:Nat}(h:live β k<|Qc b):live β k b/\(Qc b).p=b.p:=by
 rcases adh b with ⟨h1,h2⟩ |⟨h1,h2⟩
 ·rw [h2];exact ⟨by unfold live;rw [ayD h1];trivial,rfl⟩
 ·rw [h2] at h;exact absurd h λh=>h
def RW.nM {tr:List Nat}(hW:RW G w0 Z0 Z β H wr) {b:Nat}(hz:Z b):b∉DN β H tr:=λhm=>by
 obtain ⟨k,bk,_,h2,h3,h4,rfl⟩:=cq.1 hm;exact hW.Cf k bk h2 h3 h4 hz
def RW.ad6 {tr:List Nat}(hW:RW G w0 Z0 Z β H wr) {k:Nat}{b:AB}(hb:H[k]? =ah b) (hl:live β k b) (ht:k∉tr):(β k).b∉DN β H tr:=λhm=>by
 obtain ⟨j,bj,h1,h2,h3,h4,h5⟩:=cq.1 hm
 have:=hW.inj j k bj b h2 hb h3 hl h4 h5.symm
 subst this;exact ht h1
theorem RW.mask {tr:List Nat}{w':World}(hW:RW G w0 Z0 Z β H wr) (hn:DL (DN β H tr) wr w') (hb0:Below w0.heap.size w0 w') (hs:Shp tr β H w'):RW G w0 Z0 Z β (EP tr 0 H) w':=by
 have hw:∀b,Z b->w'.heap[b]? =wr.heap[b]? :=λb hz=>hn.block b (hW.Bb b hz)<|hW.nM hz
 have old:∀k b,(EP tr 0 H)[k]? =ah b->∃b0,H[k]? =ah b0/\(live β k b->live β k b0/\b.p=b0.p)/\((tr.contains k=U/\b=Qc b0)\/(tr.contains k=X/\b=b0)):=λk b hb=>by
  rw [aBj] at hb;cases hH:H[k]? with
  |none=>simp [hH] at hb
  | some b0=>
   simp only [hH,JQ,Ah,EM] at hb;refine ⟨b0,rfl,?_⟩;split at hb
   ·rename_i ht
    subst hb;exact ⟨aer,.inl ⟨ht,rfl⟩⟩
   ·rename_i ht
    grind
 refine ⟨hb0,λb hz=>?_,hW.EX,λk b hk hl hp=>?_,λk b hk hl hp=>?_,λk b hk hl=>?_,λi j bi bj hi hj li lj pi e=>?_,λk b hb=>?_,hW.CW.mono (λ_ h=>h) hw,λp hp=>⟨R.mono (n:=M H) (λ_ _=>rfl) (λ_ h=>h) hw _ _ (hW.gh p hp).2 (hW.gh p hp).1,by rw [Ve];exact (hW.gh p hp).2⟩,λD hD=>⟨(hW.Ci D hD).1,Zq⟩⟩
 ·have:=hW.Bb b hz;have:=hn.size;omega
 ·obtain ⟨b0,h1,h2,_⟩:=old k b hk
  obtain ⟨h3,h4⟩:=h2 hl;exact hW.Cf k b0 h1 h3<|h4▸hp
 ·obtain ⟨b0,h1,h2,_⟩:=old k b hk
  obtain ⟨h3,h4⟩:=h2 hl;exact hW.G6 k b0 h1 h3<|h4▸hp
 ·obtain ⟨b0,h1,h2,_⟩:=old k b hk
  exact hW.low k b0 h1 (h2 hl).1
 ·obtain ⟨b0,h1,h2,_⟩:=old i bi hi
  obtain ⟨c0,g1,g2,_⟩:=old j bj hj;exact hW.inj i j b0 c0 h1 g1 (h2 li).1 (g2 lj).1 ((h2 li).2▸pi) e
 ·obtain ⟨b0,h1,h2,h3⟩:=old k b hb
  obtain ⟨f1,f2⟩:=hW.blk k b0 h1;rw [Ve];rcases h3 with ⟨ht,rfl⟩ |⟨ht,rfl⟩
  ·rcases adh b0 with ⟨m1,m2⟩ |⟨m1,m2⟩
   ·rw [m2]
    obtain ⟨cs',g1,g2⟩:=hs k b0 ht h1 m1;refine ⟨⟨cs',g1,?_⟩,aEO _ _,ak⟩
    have:=aIO (β:=β) (Z:=Z) (w:=w') cs'.toList
    grind
   ·rw [m2]
    exact ⟨ak,ak,ak⟩
  ·have hkt:k∉tr:=A8
   exact ⟨f1.keep (λ_ _=>rfl) (λ_ h=>h) hw rfl (λhl=>hn.block _ (hW.lt h1 hl)<|hW.ad6 h1 hl hkt) f2,f2⟩
theorem pH {o:Oper}{g:FuncId}{l:List LV}{lv:LV}{H':List AB}(h:(LM P Γ H o g l).all λq=>q=(lv,H')):EvL H H':=by
 have bd:∀ {t:T LV} {H1:List AB},(t.bind λy=>(T.ok (y,H1):T<|LV×List AB)).all (λq=>q=(lv,H'))->H'=H1:=λh=>by
  exact aLZ
 obtain ⟨_,_,_,_,_,_,h⟩:=T8 h;split at h
 ·rw [bd h];exact EvL.refl H
 ·split at h
  ·rw [bd h];exact EvL.refl H
  ·split at h
   ·rw [bd h];exact EvL.pub _
   ·cases h
theorem axN {o:Oper} {lv:LV} {H':List AB} (h:(Aw P G Γ F H o).all λq=>q=(lv,H')):EvL H H':=by
 by_cases hm:Oq P o=U
 ·have hH:H'=H:=T.QT (p:=λq:LV×List AB=>q.2=H) (x:=(lv,H')) (oY hm) h
  rw [hH];exact EvL.refl H
 ·have bd:∀ {t:T LV} {H1:List AB},(t.bind λy=>(T.ok (y,H1):T<|LV×List AB)).all (λq=>q=(lv,H'))->H'=H1:=λh=>by
   exact aLZ
  unfold Oq at hm;split at hm
  ·rename_i t ho
   unfold Aw at h;simp only [ho] at h;split at h
   ·exact ZX
   ·cases h
  ·rename_i t x ho
   unfold Aw at h;simp only [ho] at h;exact ZX
  ·rename_i t x y ho
   unfold Aw at h;simp only [ho] at h;obtain ⟨H1,h1,h2⟩:=T.B4 h;obtain ⟨_,rfl⟩:=h2;exact afr h1
  ·rename_i t n c ho
   unfold Aw at h;simp only [ho] at h;exact anU h
  ·rename_i t r ho
   unfold Aw at h;cases r with
   | none=>
    simp only [ho] at h;split at h
    ·simp only [T.all,Ax] at h
     rw [<-h.2];exact EvL.app _ _
    ·exact ZX
   |some r=>
    simp only [ho] at h;rw [bd h];exact EvL.refl H
  ·exact aL6
  ·exact aL6
  ·rename_i t len parts ho
   unfold Aw at h;simp only [ho] at h;split at h
   ·split at h
    ·unfold Wp at h
     exact ZX
    ·cases h
   ·split at h
    ·split at h
     ·unfold aP at h
      split at h
      ·obtain ⟨y,h1,h2⟩:=T.B4 h
       split at h2
       ·simp only [T.all,Ax] at h2
        rw [<-h2.2];exact (EvL.pub _).trans<|EvL.app _ _
       ·cases h2
      ·cases h
     split at h
     ·rw [bd h];exact EvL.refl H
     ·unfold m9 at h
      split at h
      ·obtain ⟨y,h1,h2⟩:=T.B4 h
       simp only [T.all,Ax] at h2;rw [<-h2.2];exact EvL.pub _
      ·cases h
    unfold mA at h;split at h
    ·split at h
     ·split at h
      ·exact ZX
      ·cases h
     ·cases h
    ·cases h
  ·rename_i args ty ho
   unfold Aw at h;simp only [ho] at h;split at h
   ·exact afQ h
   ·cases h
  ·rename_i args ty ho
   unfold Aw at h;simp only [ho] at h;split at h
   ·exact ao0 h
   ·cases h
  ·rename_i f args ty ho
   unfold Aw at h;simp only [ho] at h;split at h
   ·exact pH h
   ·exact pH h
   ·cases h
  ·rename_i r name args ty ho
   unfold Aw at h;simp only [ho] at h;split at h
   ·exact pH h
   ·cases h
  ·simp at hm
theorem W4 (hΓ:∀g S,Γ g=ah S->Valid P G g S) {ops:Array Oper}{tr:List Nat}{Hm:List AB}{D:World->Prop}{K:Act->Prop}{F':List LV}{HH:List AB}(hlen:M Hm=M H)
  (hW:RW G w0 Z0 Z β Hm wr) (hD:∀w',D w'->RW G w0 Z0 Z β Hm w'/\∀b,(Z b\/∃k bk,Hm[k]? =ah bk/\live β k bk/\tr.contains k=X/\b=(β k).b)->w'.heap[b]? =wr.heap[b]?)
  (hK:∀a1,RF ds β Z wr (M H) F' a1->K a1):∀(fs:List Bool) (os:List Oper) (F:List LV) (a:Act),M fs=M os->RF ds β Z wr (M H) F a->
   (Hw P G Γ ops tr HH Hm fs os F).all (λq=>q=(F',HH))->Hl P ops D K fs os a
 | [],[],F,a,_,hF,h=>by
  simp only [Hw,T.all,Ax,OY] at h;subst h;exact afy (hK a hF)
 | [],_::_,_,_,hl,_,_=>aI
 |_::_,[],_,_,hl,_,_=>aI
 | f ::fs,o::os,F,a,hl,hF,h=>by
  have hl':M fs=M os:=lP
  simp only [Hw] at h;simp only [Hl];split at h
  ·rename_i hf
   rw [AD hf];exact W4 hΓ hlen hW hD hK fs os F a hl' hF h
  ·rename_i hf
   rw [AE hf]
   have goOk:∀(F:List LV),RF ds β Z wr (M H) F a->((XP P G Γ tr F Hm o).bind λy=>Hw P G Γ ops tr HH Hm fs os<|At F o.dst y).all (λq=>q=(F',HH))->calm P o a D (Hl P ops D K fs os):=λF hF h=>by
    obtain ⟨lv,h1,h2⟩:=T.B4 h;obtain ⟨v,g1,g2,g3⟩:=aeu hΓ hW (by rw [hlen];exact hF) hD h1
    exact ⟨v,g1,W4 hΓ hlen hW hD hK fs os _ _ hl' (hF.put g2 (by rw [<-hlen];exact g3) o.dst) h2⟩
   have passOk:∀(F:List LV),RF ds β Z wr (M H) F a->(Hw P G Γ ops tr HH Hm fs os<|At F o.dst<|.v undef).all (λq=>q=(F',HH))->Hl P ops D K fs os (a.put o.dst undef):=λF hF h=>
    W4 hΓ hlen hW hD hK fs os _ _ hl' (hF.pass o.dst) h
   split at h
   ·rename_i hg
    have hw:az o (yielded ops a.tmps)=true:=Zt
    rw [AD hw];exact goOk F hF h
   ·rename_i j want hg
    split at h
    ·rename_i d hd
     split at h
     ·rename_i b hb
      obtain ⟨s1,s2⟩:=hF.slot hb AI
      have hv:=(hF.get d _ s1).1
      simp only [R] at hv;rw [hv] at s2;rw [Vt hg hd s2];split at h
      ·grind
      ·grind
     ·rename_i g hb
      obtain ⟨s1,s2⟩:=hF.slot hb AI
      have hv:=(hF.get d _ s1).1
      simp only [R] at hv
      have kn:∀b,g=b->RF ds β Z wr (M H) (F.set d<|.bl b) a:=λb e=>hF.know lC trivial
      rw [hv] at s2;rw [Vt hg hd s2];split at h
      ·rename_i hwt
       subst hwt;cases hgg:g with
       |true=>simp only [OV,Bm];exact goOk _ (kn U hgg) (h.1 hgg)
       |false=>rw [AE AI];exact passOk _ (kn X hgg)<|h.2 hgg
      ·rename_i hwt
       have hwt':want=false:=yW
       subst hwt';cases hgg:g with
       |true=>rw [AE AI];exact passOk _ (kn U hgg) (h.1 hgg)
       |false=>simp only [OV,Bm];exact goOk _ (kn X hgg)<|h.2 hgg
     ·rename_i vs hb
      obtain ⟨s1,s2⟩:=hF.slot hb AI
      have hv:=(hF.get d _ s1).1
      exact aLs
     ·cases h
    ·cases h
theorem Vv {ops:Array Oper}{tr:List Nat}{Hm:List AB}{F0:List LV}:∀(fs:List Bool) (os:List Oper) (F:List LV),(∀o∈os,o∈ops.toList)->M F=M F0/\(∀i,i∉FO ops.toList->F[i]? =F0[i]?)->
  (Hw P G Γ ops tr H Hm fs os F).lv (Keeps (FO ops.toList) F0 H)
 | [],_,F,_,h=>aMn
 |_::_,[],F,_,h=>aMn
 | f ::fs,o::os,F,hin,h=>by
  have hin':∀o∈os,o∈ops.toList:=λo ho=>hin o A8
  have hdo:∀t,o.dst=ah t->t∈FO ops.toList:=λt ht=>SU.2 ⟨o,hin o AI,ht⟩
  have go:∀F:List LV,M F=M F0/\(∀i,i∉FO ops.toList->F[i]? =F0[i]?)->((XP P G Γ tr F Hm o).bind λy=>Hw P G Γ ops tr H Hm fs os<|At F o.dst y).lv (Keeps (FO ops.toList) F0 H):=λF hF=>
   T.TM (p:=λ_=>True) (λq _=>Vv fs os _ hin'<|Vn hF hdo _) (T.WC (λ_=>trivial) _)
  have pass:∀F:List LV,M F=M F0/\(∀i,i∉FO ops.toList->F[i]? =F0[i]?)->(Hw P G Γ ops tr H Hm fs os<|At F o.dst<|.v undef).lv (Keeps (FO ops.toList) F0 H):=λF hF=>
   Vv fs os _ hin' (Vn hF hdo _)
  simp only [Hw];split
  ·exact Vv fs os F hin' h
  ·split
   ·exact go F h
   ·rename_i j want hg
    split
    ·rename_i d hd
     have hdd:d∈FO ops.toList:=by
      cases hj:ops[j]? with
      |none=>simp [hj] at hd
      |some oj=>simp [hj] at hd;exact SU.2 ⟨oj,A8,hd⟩
     split
     ·split
      ·exact go F h
      ·grind
     ·exact aKm
     ·grind
     ·trivial
    ·trivial
structure Gh where
 Z:Nat->Prop
 β:Nat->Loc
 H:List AB
 F:List LV
 a:Act
structure CY (ds:List Deferred) (G:B1) (w0:World) (Z0:Gz) (tr:List Nat) (β:Nat->Loc) (H:List AB) (wr:World) (g:Gh) (w':World):Prop where
 rw:RW G w0 Z0 g.Z g.β g.H w'
 rf:RF ds g.β g.Z w' (M g.H) g.F g.a
 near:DL (DN β H tr) wr w'
 len:M H<=M g.H
 old:∀k,k<M H->g.β k=β k
 new:∀k,M H<=k->k<M g.H->wr.heap.size<=(g.β k).b\/(g.β k).b∈DN β H tr
 Jo:EvL H g.H
def CY.keep {tr:List Nat}{g:Gh}{w' w'':World}(h:CY ds G w0 Z0 tr β H wr g w') (hb:Below w'.heap.size w' w''):CY ds G w0 Z0 tr β H wr g w'':=
 ⟨h.rw.same hb,h.rf.mono (Ar _) (λ_ _=>rfl) (λ_ h=>h) λb hz=>Dx hb<|h.rw.Bb b hz,aed h.near hb,h.len,h.old,h.new,h.Jo⟩
def CY.shape {tr:List Nat}{g:Gh}{w':World}(h:CY ds G w0 Z0 tr β H wr g w'):Shp tr β H w':=λk b _ hb hcl=>by
 obtain ⟨b',e1,e2⟩:=h.Jo k b hb;obtain ⟨c1,c2,c3⟩:=e2.cl hcl;obtain ⟨_,⟨cs,f2,f3⟩,_⟩:=pL h.rw e1 c1
 have hk:=(Dv.1 hb).1
 rw [h.old k hk,c2] at f2;refine ⟨cs,f2,?_⟩
 have:=RL.length f3
 simp at this
 omega
theorem CY.touch {tr:List Nat}{g:Gh}{o:Oper}{w':World}(hc:CY ds G w0 Z0 tr β H wr g w') (hst:CI G g.F tr (M H) o=U) {x:Nat}(hx:x∈DN g.β g.H (Ea G g.F o)):wr.heap.size<=x\/x∈DN β H tr:=by
 obtain ⟨k,b,h1,h2,h3,h4,rfl⟩:=cq.1 hx
 have hkg:=(Dv.1 h2).1
 by_cases hk:k<M H
 ·right
  have:=BP.1 hst k h1
  simp only [Ck,Ac] at this
  have hkt:k∈tr:=by
   rcases this with h|h
   ·grind
   ·omega
  obtain ⟨b0,hb0⟩:∃b0,H[k]? =ah b0:=⟨_,DQ hk⟩;obtain ⟨b',e1,e2⟩:=hc.Jo k b0 hb0;rw [h2] at e1;simp only [Ah] at e1;subst e1;refine cq.2 ⟨k,b0,hkt,hb0,?_,e2.p h4,by rw [hc.old k hk]⟩
  have:=e2.live g.β k h3
  rwa [KC<|hc.old k hk] at this
 ·exact hc.new k A0 hkg
def cR (hΓ:∀g S,Γ g=ah S->Valid P G g S) {tr:List Nat}{g:Gh}{o:Oper}{lv:LV}{H1:List AB}{w':World}(hst:CI G g.F tr (M H) o=U) (h1:(Aw P G Γ g.F g.H o).all λq=>q=(lv,H1)) (hc:CY ds G w0 Z0 tr β H wr g w'):
  DU P (λv w''=>∃g':Gh,CY ds G w0 Z0 tr β H wr g' w''/\g'.F=At g.F o.dst lv/\g'.H=H1/\g'.a=g.a.put o.dst v) ((execOp g.a.eval o).run P w'):=by
 refine K3 (λv w'' ⟨Z',β',e1,e2,e3,e4,e5,e6,e7,e8⟩=>?_)<|cB hΓ hc.rw hc.rf h1
 refine ⟨⟨Z',β',H1,At g.F o.dst lv,g.a.put o.dst v⟩,?_,rfl,rfl,rfl⟩
 have hsz:=hc.near.size
 refine ⟨e1,e2.put e3 e4 o.dst,⟨e8.os.trans hc.near.os,e8.tape.trans hc.near.tape,e8.output.trans hc.near.output,HZ hsz e8.size,λk hk hn=>?_⟩,HZ hc.len e5,λk hk=>?_,λk h3 h4=>?_,hc.Jo.trans<|axN h1⟩
 ·exact aL5
 ·show β' k=β k
  rw [e6 k<|ZD hk hc.len];exact hc.old k hk
 ·show wr.heap.size<=(β' k).b\/(β' k).b∈DN β H tr
  by_cases hkk:k<M g.H
  ·rw [e6 k hkk];exact hc.new k h3 hkk
  ·rcases e7 k A0 h4 with h|h
   ·omega
   ·exact hc.touch hst h
theorem nf {T':Type}{C:T'->World->Prop}{Q':Act->World->Prop}{ops:Array Oper}{g g1:T'}(hs:∀w',C g w'->C g1 w'):∀(fs:List Bool) (os:List Oper) (a:Act),
  Gl P ops C (λa' g'=>∀w',C g' w'->Q' a' w') fs os a g1->Gl P ops C (λa' g'=>∀w',C g' w'->Q' a' w') fs os a g
 | [],_,a,h=>by
  simp only [Gl] at h|-
  grind
 |_::_,[],a,h=>by
  simp only [Gl] at h|-
  grind
 | f::fs,o::os,a,h=>by
  simp only [Gl] at h|-;split
  ·rename_i hf
   rw [AD hf] at h;split
   ·rename_i hw
    rw [AD hw] at h;exact λw' hw'=>h w'<|hs w' hw'
   ·rename_i hw
    rw [AE hw] at h;exact nf hs fs os _ h
  ·rename_i hf
   rw [AE hf] at h;exact nf hs fs os a h
def o9 (hΓ:∀g S,Γ g=ah S->Valid P G g S) {ops:Array Oper}{tr:List Nat}{Q:Act->World->Prop}{F':List LV}{H':List AB}
  (hQ:∀g:Gh,g.F=F'->g.H=H'->∀w',CY ds G w0 Z0 tr β H wr g w'->Q g.a w'):∀(fs:List Bool) (os:List Oper) (g:Gh),M fs=M os->(∃w',CY ds G w0 Z0 tr β H wr g w')->
   (p2x P G Γ ops tr (M H) fs os g.F g.H).all (λq=>q=(F',H'))->Gl P ops (CY ds G w0 Z0 tr β H wr) (λa' g'=>∀w',CY ds G w0 Z0 tr β H wr g' w'->Q a' w') fs os g.a g
 | [],[],g,_,_,h=>by
  simp only [p2x,T.all,Ax] at h;exact afx (hQ g h.1 h.2)
 | [],_::_,_,hl,_,_=>aI
 |_::_,[],_,hl,_,_=>aI
 | f ::fs,o::os,g,hl,hex,h=>by
  have hl':M fs=M os:=lP
  simp only [p2x] at h;simp only [Gl];split at h
  ·rename_i hf
   rw [AD hf]
   have turn:∀(F1:List LV),(∀w',CY ds G w0 Z0 tr β H wr g w'->RF ds g.β g.Z w' (M g.H) F1 g.a)->∀w',CY ds G w0 Z0 tr β H wr g w'->CY ds G w0 Z0 tr β H wr ⟨g.Z,g.β,g.H,F1,g.a⟩ w':=λF1 hF1 w' hc=>⟨hc.rw,hF1 w' hc,hc.near,hc.len,hc.old,hc.new,hc.Jo⟩
   have goOk:∀(F1:List LV),(∀w',CY ds G w0 Z0 tr β H wr g w'->RF ds g.β g.Z w' (M g.H) F1 g.a)->(if CI G F1 tr (M H) o then (Aw P G Γ F1 g.H o).bind λq=>p2x P G Γ ops tr (M H) fs os (At F1 o.dst q.1) q.2 else .no).all (λq=>q=(F',H'))->
     U5 P o g.a (CY ds G w0 Z0 tr β H wr) g (Gl P ops (CY ds G w0 Z0 tr β H wr) (λa' g'=>∀w',CY ds G w0 Z0 tr β H wr g' w'->Q a' w') fs os):=λF1 hF1 h=>by
    split at h
    ·rename_i hst
     obtain ⟨⟨lv,H1⟩,h1,h2⟩:=T.B4 h;intro w' hc;refine K3 (λv w'' ⟨g',e1,e2,e3,e4⟩=>⟨g',e1,?_⟩)<|cR (g:=⟨g.Z,g.β,g.H,F1,g.a⟩) hΓ hst h1<|turn F1 hF1 w' hc
     have:=o9 hΓ hQ fs os g' hl' ⟨w'',e1⟩ (by rw [e2,e3];exact h2)
     rw [e4] at this;exact this
    ·cases h
   have passOk:∀(F1:List LV),(∀w',CY ds G w0 Z0 tr β H wr g w'->RF ds g.β g.Z w' (M g.H) F1 g.a)->(p2x P G Γ ops tr (M H) fs os (At F1 o.dst<|.v undef) g.H).all (λq=>q=(F',H'))->
     Gl P ops (CY ds G w0 Z0 tr β H wr) (λa' g'=>∀w',CY ds G w0 Z0 tr β H wr g' w'->Q a' w') fs os (g.a.put o.dst undef) g:=λF1 hF1 h=>by
    have ps:∀w',CY ds G w0 Z0 tr β H wr g w'->CY ds G w0 Z0 tr β H wr ⟨g.Z,g.β,g.H,At F1 o.dst<|.v undef,g.a.put o.dst undef⟩ w':=λw' hc=>⟨hc.rw,(hF1 w' hc).pass o.dst,hc.near,hc.len,hc.old,hc.new,hc.Jo⟩
    refine nf (Q':=Q) (g1:=⟨g.Z,g.β,g.H,At F1 o.dst<|.v undef,g.a.put o.dst undef⟩) ps fs os _ ?_;exact o9 hΓ hQ fs os ⟨g.Z,g.β,g.H,At F1 o.dst<|.v undef,g.a.put o.dst undef⟩ hl' (hex.imp λw' hc=>ps w' hc) h
   obtain ⟨wx,hcx⟩:=hex
   have hF:=hcx.rf
   split at h
   ·rename_i hg
    have hw:az o (yielded ops g.a.tmps)=true:=Zt
    rw [AD hw];exact goOk g.F (λw' hc=>hc.rf) h
   ·rename_i j want hg
    split at h
    ·rename_i d hd
     split at h
     ·rename_i b hb
      obtain ⟨s1,s2⟩:=hF.slot hb AI
      have hv:=(hF.get d _ s1).1
      simp only [R] at hv;rw [hv] at s2;rw [Vt hg hd s2];split at h
      ·rename_i e;subst e;simp only [OV,Bm];exact goOk g.F (λw' hc=>hc.rf) h
      ·rename_i e;rw [AE yq];exact passOk g.F (λw' hc=>hc.rf) h
     ·rename_i b hb
      obtain ⟨s1,s2⟩:=hF.slot hb AI
      have hv:=(hF.get d _ s1).1
      simp only [R] at hv
      have kn:∀c,b=c->∀w',CY ds G w0 Z0 tr β H wr g w'->RF ds g.β g.Z w' (M g.H) (g.F.set d<|.bl c) g.a:=λc e w' hc=>hc.rf.know lC trivial
      rw [hv] at s2;rw [Vt hg hd s2];split at h
      ·rename_i hwt
       subst hwt;cases hgg:b with
       |true=>simp only [OV,Bm];exact goOk _ (kn U hgg) (h.1 hgg)
       |false=>rw [AE AI];exact passOk _ (kn X hgg)<|h.2 hgg
      ·rename_i hwt
       have hwt':want=false:=yW
       subst hwt';cases hgg:b with
       |true=>rw [AE AI];exact passOk _ (kn U hgg) (h.1 hgg)
       |false=>simp only [OV,Bm];exact goOk _ (kn X hgg)<|h.2 hgg
     ·rename_i vs hb
      obtain ⟨s1,s2⟩:=hF.slot hb AI
      have hv:=(hF.get d _ s1).1
      simp only [R] at hv;rw [hv] at s2;rw [ad1 hg hd s2,AE AI];exact passOk g.F (λw' hc=>hc.rf) h
     ·cases h
    ·cases h
  ·rename_i hf
   rw [AE hf];exact o9 hΓ hQ fs os g hl' hex h
theorem T.swap {α γ:Type}{K:α->γ->Prop}{t:T α}{u:T γ}:t.all (λx=>u.all λy=>K x y)->u.all (λy=>t.all λx=>K x y):=by
 intro h;obtain ⟨x,h1,h2⟩:=T.pick h;refine T.BY (λy hy=>?_) h1
 exact T.BY (λz hz=>A8) h2
def FV {F:List LV}{d:Option Tmp}{y:LV}{x:Operand}(h:∀t,d=ah t->x≠ .tmp t):AL G (At F d y) x=AL G F x:=by
 cases d with
 |none=>rfl
 | some t=>
  cases x with
  |tmp s=>
   have hne:s≠t:=λe=>h t rfl<|by rw [e]
   simp only [AL,At,List.getD,ZL<|OZ hne]
  |_=>rfl
theorem looks {ops:Array Oper}{o:Oper}{d:Option Tmp}(h:∀t,d=ah t->t∉o.looksAt ops):∀x∈o.op.operands,∀t,d=ah t->x≠ .tmp t:=λx hx t ht e=>h t ht (by
 subst e;exact List.mem_append_left _<|SU.2 ⟨.tmp t,A8,rfl⟩)
def L7 {F:List LV}{d e:Option Tmp}{x y:LV}(h:∀t,d=ah t->e≠ah t):At (At F d x) e y=At (At F e y) d x:=by
 cases d with
 |none=>rfl
 | some t=>
  cases e with
  |none=>rfl
  |some s=>
   have:t≠s:=λe=>h t rfl<|by rw [e]
   exact List.set_comm _ _ A0
theorem QA {ops:Array Oper}{o:Oper}{d:Option Tmp}{y:LV}(h:∀t,d=ah t->t∉o.looksAt ops):IV P G Γ (At F d y) o=IV P G Γ F o:=by
 have hl:=looks h
 unfold IV;split
 ·rename_i t len parts ho
  have em:(parts.toList.map λq=>(q.1,AL G (At F d y) q.2))=parts.toList.map λq=>(q.1,AL G F q.2):=JO λq hq=>by
   rw [FV<|hl q.2 yC]
  rw [em]
 ·rename_i f args ty ho
  have e1:AL G (At F d y) f=AL G F f:=FV<|hl f aNG
  have e2:(args.toList.map λx=>norm<|AL G (At F d y) x)=args.toList.map λx=>norm (AL G F x):=JO λx hx=>by
   rw [FV<|hl x Zo]
  rw [e1,e2]
 ·rfl
theorem aHs {ops:Array Oper}{o:Oper}{d:Option Tmp}{y:LV}(ha:My o=U) (h:∀t,d=ah t->t∉o.looksAt ops):Aw P G Γ (At F d y) H o=Aw P G Γ F H o:=by
 have hl:=looks h
 unfold My at ha;split at ha
 ·rename_i t ho
  unfold Aw
  grind
 ·rename_i t x ho
  unfold Aw;simp only [ho];exact kS
 ·rename_i t x ho
  unfold Aw;simp only [ho];exact kS
 ·cases ha
def aC7 {tr:List Nat}{n0:Nat}{o:Oper}{F:List LV}(h:ES o=U\/IJ o=U):CI G F tr n0 o=true:=by
 have hw:Ea G F o=[]:=by
  unfold Ea;split
  ·exact Za
  ·exact Za
  ·exact Za
  ·exact Za
  ·exact Za
  ·rfl
 unfold CI;rw [hw];rfl
def Vm {tr:List Nat}{n0:Nat}{o:Oper}{F:List LV}(h:My o=U\/IJ o=U):CI G F tr n0 o=true:=by
 have hw:Ea G F o=[]:=by
  unfold Ea;split
  ·exact Zb
  ·exact Zb
  ·exact Zb
  ·exact Zb
  ·exact Zb
  ·rfl
 unfold CI;rw [hw];rfl
def P4 {ops:Array Oper}{i:Nat}{o:Oper}(h:Ey ops i o=U):IJ o=true:=by
 unfold Ey at h;rw [AY] at h;exact h.1
def aff {ops:Array Oper}{tr:List Nat}{n0:Nat}{i j:Nat}{is:List Nat}{K:List LV×List AB->Prop}(x y:Oper) (hx:ops[i]? =ah x) (hy:ops[j]? =ah y) (g1:x.guard.isNone=U) (g2:y.guard.isNone=U) (g3:((My x=U/\Ey ops j y=U)\/(Ey ops i x=U/\My y=U))\/(Ey ops i x=U/\Ey ops j y=U)) (hap:x.apart ops y=U) (h:(FT P G Γ ops tr n0 (j::i::is) F H).all K):(FT P G Γ ops tr n0 (i::j::is) F H).all K:=by
 obtain ⟨a1,a2,a3⟩:=ZW hap
 have sx:∀F:List LV,CI G F tr n0 x=true:=λF=>by
  rcases g3 with (g3|g3) |g3
  ·exact Vm<|.inl g3.1
  ·exact Vm<|.inr<|P4 g3.1
  ·exact Vm<|.inr<|P4 g3.1
 have sy:∀F:List LV,CI G F tr n0 y=true:=λF=>by
  rcases g3 with (g3|g3) |g3
  ·exact Vm<|.inr<|P4 g3.2
  ·exact Vm<|.inl g3.2
  ·exact Vm<|.inr<|P4 g3.2
 have notboth:∀o:Oper,IJ o=U->My o=U->False:=λo h1 h2=>by
  unfold IJ at h1;split at h1
  ·rename_i ho;simp [My,ho] at h2
  ·rename_i ho;simp [My,ho] at h2
  ·cases h1
 simp only [FT,hx,hy,g1,g2,sx,sy,Bool.and_self,Bm] at h|-;rw [T.all_bind] at h|-;rcases g3 with (⟨g3,g4⟩ |⟨g3,g4⟩) |⟨g3,g4⟩
 ·have nx:¬Ey ops i x=true:=λe=>notboth x (P4 e) g3
  simp only [Fs,AD g4,AE nx] at h|-;rw [T.all_bind] at h
  have h2:=T.BY (λz hz=>by
   simp only [T.all] at hz;rw [T.all_bind,aHs g3 a3] at hz;exact hz) h
  refine T.BY (λq hq=>?_)<|T.swap h2
  rw [T.all_bind,T.all_bind,QA a1];refine T.BY (λz hz=>?_) hq
  simp only [T.all]
  rwa [L7 a2]
 ·have ny:¬Ey ops j y=true:=λe=>notboth y (P4 e) g4
  simp only [Fs,AD g3,AE ny] at h|-;rw [T.all_bind]
  have h2:=T.BY (λz hz=>by
   rw [T.all_bind,T.all_bind,QA a3] at hz;exact hz) h
  refine T.BY (λq hq=>?_)<|T.swap h2
  simp only [T.all];rw [T.all_bind,aHs g4 a1];refine T.BY (λz hz=>?_) hq
  rwa [L7 a2]
 ·simp only [Fs,AD g3,AD g4] at h|-
  rw [T.all_bind] at h|-
  have h2:=T.BY (λz hz=>by
   simp only [T.all] at hz;rw [T.all_bind,T.all_bind,QA a3] at hz;exact hz) h
  refine T.BY (λq hq=>?_)<|T.swap h2
  simp only [T.all];rw [T.all_bind,T.all_bind,QA a1];refine T.BY (λz hz=>?_) hq
  simp only [T.all] at hz|-
  rwa [L7 a2]
theorem nJ {ops:Array Oper}{o:Oper}{d:Option Tmp}{y:LV}(hs:∀cs b,o.op≠ .select cs b) (h:∀t,d=ah t->t∉o.looksAt ops):DX P G (At F d y) o=DX P G F o:=by
 have hl:=looks h
 have e:∀x∈o.op.operands,AL G (At F d y) x=AL G F x:=λx hx=>FV<|hl x hx
 unfold DX
 have e1:o.op.operands.toList.all (λx=>S7<|AL G (At F d y) x)=o.op.operands.toList.all (λx=>S7<|AL G F x):=by
  grind
 have e3:o.op.operands.toList.all (λx=>aQ<|AL G (At F d y) x)=o.op.operands.toList.all (λx=>aQ<|AL G F x):=by
  grind
 have e2:OJ P o (λx=>(pl<|AL G (At F d y) x).getD undef)=OJ P o (λx=>(pl<|AL G F x).getD undef):=by
  have c:=kT (ρ:=λx=>(pl<|AL G (At F d y) x).getD undef) (ρ':=λx=>(pl<|AL G F x).getD undef) o hs λx hx=>A8
  unfold OJ;rw [c]
  have a:QY P o.op (λx=>(pl<|AL G (At F d y) x).getD undef)=QY P o.op (λx=>(pl<|AL G F x).getD undef):=by
   exact aL2
  rw [a]
 grind
theorem ads {ops:Array Oper}{o:Oper}{d:Option Tmp}{y:LV}(h:∀t,d=ah t->t∉o.looksAt ops):pux P G Γ (At F d y) o=pux P G Γ F o:=by
 have hl:=looks h
 have e:∀x∈o.op.operands,AL G (At F d y) x=AL G F x:=λx hx=>FV<|hl x hx
 unfold pux;split
 ·exact aMP
 ·exact aMP
 ·rename_i c x z ho;rw [e c FB,e x FB,e z FB]
 ·rename_i t x ho;rw [e x FB]
 ·rename_i s x i ho;rw [e x FB]
 ·rename_i t x i ho;rw [e x FB,e i FB]
 ·rename_i t parts ho
  congr 1
  refine JO λq hq=>?_
  have e':=e q.2 yC
  have:Hh G (At F d y) q.2=Hh G F q.2:=by
   generalize q.2=x at e';cases x<;>first|rfl|exact e'
  rw [this]
 ·exact QA h
 ·exact QA h
 ·rename_i ho;exact nJ (λcs b e=>A8) h
 ·rename_i op _ _ _ _ ho
  split
  ·rfl
  ·rfl
  ·rfl
  ·rfl
  ·exact nJ (λcs b e=>A8) h
 ·rfl
def adu {d:Option Tmp}{y:LV}{x:Operand}(h:AL G (At F d y) x=AL G F x):Hh G (At F d y) x=Hh G F x:=by
 cases x<;>simp only [Hh,h]
def hpx (P:Program) (G:B1) (F:List LV) (H:List AB) (o:Oper):T LV:=
 match o.op with
 | .move x=> .ok (AL G F x)
 | .assign x=> .ok (AL G F x)
 | .load t x=>FH P H t (AL G F x)
 | .indexAddr t x i=>TU P t (AL G F x) (Ur<|AL G F i) (AL G F i)
 | .fieldAddr s x i=>Wn P s (AL G F x) i
 | .extract x i=>(match AL G F x with
  | .AO l=>(match l[i]? with
   |some y=> .ok y
   |none=> .no)
  |_=>DX P G F o)
 | .binOp ..=>DX P G F o
 | .call ..=>DX P G F o
 | .build t parts=>NZ P t (parts.toList.map λq=>(q.1,Hh G F q.2))
 |_=> .no
theorem pR {o:Oper}(h:(J1 o ||Jg o)=U):(∃x,o.op=.move x)\/(∃x,o.op=.assign x)\/(∃t x,o.op=.load t x)\/(∃t x i,o.op=.indexAddr t x i)\/(∃t x y u,o.op=.binOp .add t x y u)\/(∃t x y u,o.op=.binOp .sub t x y u)\/(∃x i,o.op=.extract x i)\/(∃x i,o.op=.call {callee:=.builtin .max,args:=x,argTypes:=i})\/(∃x i,o.op=.call {callee:=.builtin .min,args:=x,argTypes:=i})\/(∃s x i,o.op=.fieldAddr s x i)\/(∃t x y u,o.op=.binOp .mul t x y u)\/(∃t ps,o.op=.build t ps):=by
 rcases Sb.1 h with h|h
 ·unfold J1 at h
  split at h
  ·grind
  ·grind
  ·grind
  ·grind
  ·grind
  ·grind
  ·grind
  ·grind
  ·rename_i ho
   split at h
   ·grind
   ·grind
   ·grind
   ·cases h
  ·cases h
 ·unfold Jg at h
  exact ko
def ayF {ops:Array Oper}{k:Nat}{o:Oper}(h:(J1 o ||Jg o)=U):Fs P G Γ ops k F H o=(hpx P G F H o).bind λy=> .ok (y,H):=by
 rcases pR h with ⟨x,ho⟩ |⟨x,ho⟩ |⟨t,x,ho⟩ |⟨t,x,i,ho⟩ |⟨t,x,y,u,ho⟩ |⟨t,x,y,u,ho⟩ |⟨x,i,ho⟩ |⟨x,i,ho⟩ |⟨x,i,ho⟩ |⟨t,x,i,ho⟩ |⟨t,x,y,u,ho⟩ |⟨t,ps,ho⟩
 case inr.inr.inr.inr.inr.inr.inl=>
  unfold Fs Ey IJ Aw hpx;simp only [ho,Pq,IA,F9];generalize AL G F x=v;cases v
  case AO l=>
   dsimp only;cases l[i]? <;>rfl
  all_goals rfl
 all_goals (unfold Fs Ey IJ Aw hpx;simp [ho,T.bind])
theorem nv {ops:Array Oper}{o:Oper}{d:Option Tmp}{y:LV}(hh:(J1 o ||Jg o)=U) (h:∀t,d=ah t->t∉o.looksAt ops):hpx P G (At F d y) H o=hpx P G F H o:=by
 have hl:=looks h
 rcases pR hh with ⟨x,ho⟩ |⟨x,ho⟩ |⟨t,x,ho⟩ |⟨t,x,i,ho⟩ |⟨t,x,z,u,ho⟩ |⟨t,x,z,u,ho⟩ |⟨x,i,ho⟩ |⟨x,i,ho⟩ |⟨x,i,ho⟩ |⟨t,x,i,ho⟩ |⟨t,x,z,u,ho⟩ |⟨t,ps,ho⟩
 ·exact ku
 ·exact ku
 ·exact ku
 ·unfold hpx;simp only [ho]
  rw [FV<|hl x FB,FV<|hl i FB]
 ·exact xV
 ·exact xV
 ·unfold hpx;simp only [ho]
  rw [FV<|hl x FB,nJ (λcs b e=>A8) h]
 ·exact aMM
 ·exact aMM
 ·exact ku
 ·exact xV
 ·unfold hpx;simp only [ho]
  have em:(ps.toList.map λq=>(q.1,Hh G (At F d y) q.2))=ps.toList.map λq=>(q.1,Hh G F q.2):=JO λq hq=>by
   exact aL4
  rw [em]
def aPz {o:Oper}{H':List AB}(h:J1 o=U):hpx P G F H o=hpx P G F H' o:=by
 unfold hpx;cases ho:o.op<;>simp_all [J1]
def bp {o:Oper}{tr:List Nat}{n0:Nat}(h:(J1 o ||Jg o)=U) (F:List LV):CI G F tr n0 o=true:=by
 rcases pR h with ⟨x,ho⟩ |⟨x,ho⟩ |⟨t,x,ho⟩ |⟨t,x,i,ho⟩ |⟨t,x,y,u,ho⟩ |⟨t,x,y,u,ho⟩ |⟨x,i,ho⟩ |⟨x,i,ho⟩ |⟨x,i,ho⟩ |⟨t,x,i,ho⟩ |⟨t,x,y,u,ho⟩ |⟨t,ps,ho⟩<;>simp [CI,Ea,ho]
theorem aEV {ops:Array Oper}{k:Nat}{o:Oper}{d:Option Tmp}{y:LV}(hh:gT o=U) (h:∀t,d=ah t->t∉o.looksAt ops):Fs P G Γ ops k (At F d y) H o=Fs P G Γ ops k F H o/\∀tr n0,CI G (At F d y) tr n0 o=CI G F tr n0 o:=by
 have hl:=looks h
 unfold gT at hh;split at hh
 ·rename_i t x z ho
  have e1:=FV (G:=G) (F:=F) (y:=y)<|hl x FB
  have e2:=FV (G:=G) (F:=F) (y:=y)<|hl z FB
  refine ⟨?_,λtr n0=>?_⟩
  ·unfold Fs Ey IJ Aw
   simp only [ho,Pq,IA,F9];rw [e1,e2]
  ·unfold CI Ea
   simp only [ho];rw [e1]
 ·rename_i t ho
  refine ⟨?_,λtr n0=>?_⟩
  ·unfold Fs Ey IJ Aw
   grind
  ·unfold CI Ea
   grind
 ·rename_i t x ho
  have e1:=FV (G:=G) (F:=F) (y:=y)<|hl x FB
  refine ⟨?_,λtr n0=>?_⟩
  ·unfold Fs Ey IJ Aw
   simp only [ho,Pq,IA,F9];rw [e1]
  ·unfold CI Ea
   grind
 ·cases hh
theorem eZ {ops:Array Oper}{k:Nat}{o:Oper}(h:Ey ops k o=U):Fs P G Γ ops k F H o=(IV P G Γ F o).bind λy=> .ok (y,H):=by
 unfold Fs
 grind
theorem aFw {ops:Array Oper}{k:Nat}{o:Oper}{d:Option Tmp}{y:LV}(hh:Lm o=U) (h:∀t,d=ah t->t∉o.looksAt ops):Fs P G Γ ops k (At F d y) H o=Fs P G Γ ops k F H o/\∀tr n0,CI G (At F d y) tr n0 o=CI G F tr n0 o:=by
 have hl:=looks h
 unfold Lm at hh;split at hh
 ·rename_i args tys ho
  have e:args.toList.map (AL G<|At F d y)=args.toList.map (AL G F):=JO λx hx=>FV<|hl x Zo
  refine ⟨?_,λtr n0=>?_⟩
  ·unfold Fs Ey IJ Aw
   simp only [ho,Pq,IA,F9];rw [e]
  ·unfold CI Ea
   exact Sl
 ·cases hh
def T.Sy {α:Type}{A:Prop}:∀ {t:T α},t.all (λ_=>A)->A
 | .ok _,h=>h
 | .br b x y,h=>by
  cases b with
  |true=>exact T.Sy (t:=x) (h.1 rfl)
  |false=>exact T.Sy (t:=y) (h.2 rfl)
 | .req _ x,h=>T.Sy (t:=x) h.2
 | .no,h=>h.elim
theorem an3 {ops:Array Oper}{tr:List Nat}{n0:Nat}{i j:Nat}{is:List Nat}{K:List LV×List AB->Prop}(hc:R7 ops i j=U) (h:(FT P G Γ ops tr n0 (j::i::is) F H).all K):(FT P G Γ ops tr n0 (i::j::is) F H).all K:=by
 unfold R7 at hc;split at hc
 ·rename_i x y hx hy
  simp only [AY,Ck] at hc;obtain ⟨⟨⟨g1,g2⟩,g3⟩,hap⟩:=hc;obtain ⟨a1,a2,a3⟩:=ZW hap
  have step:∀(k:Nat) (o:Oper) (l:List Nat) (F:List LV) (H:List AB),ops[k]? =ah o->o.guard.isNone=U->((FT P G Γ ops tr n0 (k::l) F H).all K↔(CI G F tr n0 o=U/\(Fs P G Γ ops k F H o).all (λq=>(FT P G Γ ops tr n0 l (At F o.dst q.1) q.2).all K))):=λk o l F H hk hg=>by
   simp only [FT,hk,hg,EA];split
   ·rename_i hs
    rw [T.all_bind];simp only [hs,FA]
   ·rename_i hs
    constructor
    ·exact λh=>h.elim
    ·grind
  have hpS:∀(k:Nat) (o:Oper) (F:List LV) (H:List AB) (K:LV×List AB->Prop),(J1 o ||Jg o)=U->((Fs P G Γ ops k F H o).all K↔(hpx P G F H o).all (λv=>K (v,H))):=λk o F H K ho=>by
   rw [ayF ho,T.all_bind];rfl
  rcases g3 with ((((g3|g3) |g3) |g3) |g3) |g3
  ·exact aff x y hx hy g1 g2 g3 hap h
  ·have gx:=Sb.2 g3.1
   have gy:=Sb.2 g3.2
   rw [step _ _ _ _ _ hy g2,hpS j y _ _ _ gy] at h;rw [step _ _ _ _ _ hx g1,hpS i x _ _ _ gx];refine ⟨bp gx F,?_⟩
   have h2:=T.BY (λv hv=>by
    rw [step _ _ _ _ _ hx g1,hpS i x _ _ _ gx,nv gx a3] at hv;exact hv.2) h.2
   refine T.BY (λu hu=>?_)<|T.swap h2
   rw [step _ _ _ _ _ hy g2,hpS j y _ _ _ gy,nv gy a1];refine ⟨bp gy _,T.BY (λv hv=>?_) hu⟩
   rw [L7 a2];exact hv
  ·obtain ⟨gx,gy⟩:=g3
   have gx':(J1 x ||Jg x)=true:=by rw [gx];rfl
   rw [step _ _ _ _ _ hy g2] at h;rw [step _ _ _ _ _ hx g1,hpS i x _ _ _ gx'];refine ⟨bp gx' F,?_⟩
   have h2:=T.BY (λq hq=>by
    rw [step _ _ _ _ _ hx g1,hpS i x _ _ _ gx',nv gx' a3,aPz (H':=H) gx] at hq;exact hq.2) h.2
   refine T.BY (λu hu=>?_)<|T.swap h2
   obtain ⟨e1,e2⟩:=aEV (P:=P) (G:=G) (Γ:=Γ) (F:=F) (H:=H) (y:=u) gy a1;rw [step _ _ _ _ _ hy g2,e1,e2];refine ⟨h.1,T.BY (λq hq=>?_) hu⟩
   rw [L7 a2];exact hq
  ·obtain ⟨gx,gy⟩:=g3
   have gy':(J1 y ||Jg y)=true:=by rw [gy];rfl
   rw [step _ _ _ _ _ hy g2,hpS j y _ _ _ gy'] at h
   have h2:=T.BY (λv hv=>by
    obtain ⟨e1,e2⟩:=aEV (P:=P) (G:=G) (Γ:=Γ) (F:=F) (H:=H) (y:=v) gx a3;rw [step _ _ _ _ _ hx g1,e1,e2] at hv;exact hv) h.2
   rw [step _ _ _ _ _ hx g1];refine ⟨T.Sy<|T.BY (λv hv=>hv.1) h2,?_⟩
   have h3:=T.BY (λv hv=>hv.2) h2
   refine T.BY (λq hq=>?_)<|T.swap h3
   rw [step _ _ _ _ _ hy g2,hpS j y _ _ _ gy',nv gy' a1,aPz (H':=H) gy];refine ⟨bp gy' _,T.BY (λv hv=>?_) hq⟩
   rw [L7 a2];exact hv
  ·obtain ⟨gx,gy⟩:=g3
   rw [step _ _ _ _ _ hy g2] at h;rw [step _ _ _ _ _ hx g1,eZ gx,T.all_bind];refine ⟨aC7<|.inr<|P4 gx,?_⟩
   have h2:=T.BY (λq hq=>by
    rw [step _ _ _ _ _ hx g1,eZ gx,T.all_bind,QA a3] at hq;exact hq.2) h.2
   refine T.BY (λu hu=>?_)<|T.swap h2
   obtain ⟨e1,e2⟩:=aFw (P:=P) (G:=G) (Γ:=Γ) (F:=F) (H:=H) (y:=u) gy a1
   (try simp only [T.all] at hu)
   (try simp only [T.all])
   rw [step _ _ _ _ _ hy g2,e1,e2];refine ⟨h.1,T.BY (λq hq=>?_) hu⟩
   (try simp only at hq)
   (try simp only)
   rw [L7 a2];exact hq
  ·obtain ⟨gx,gy⟩:=g3
   rw [step _ _ _ _ _ hy g2,eZ gy,T.all_bind] at h
   have h2:=T.BY (λv hv=>by
    obtain ⟨e1,e2⟩:=aFw (P:=P) (G:=G) (Γ:=Γ) (F:=F) (H:=H) (y:=v) gx a3
    (try simp only [T.all] at hv)
    rw [step _ _ _ _ _ hx g1,e1,e2] at hv;exact hv) h.2
   rw [step _ _ _ _ _ hx g1];refine ⟨T.Sy<|T.BY (λv hv=>hv.1) h2,?_⟩
   have h3:=T.BY (λv hv=>hv.2) h2
   refine T.BY (λq hq=>?_)<|T.swap h3
   rw [step _ _ _ _ _ hy g2,eZ gy,T.all_bind,QA a1];refine ⟨aC7<|.inr<|P4 gy,T.BY (λv hv=>?_) hq⟩
   (try simp only [T.all] at hv)
   (try simp only [T.all])
   rw [L7 a2];exact hv
 ·cases hc
def an4 {ops:Array Oper}{tr:List Nat}{n0:Nat}{j:Nat}{R R':List Nat}{K:List LV×List AB->Prop}(hh:∀(F:List LV) (H:List AB),(FT P G Γ ops tr n0 R F H).all K->(FT P G Γ ops tr n0 R' F H).all K) (h:(FT P G Γ ops tr n0 (j::R) F H).all K):(FT P G Γ ops tr n0 (j::R') F H).all K:=by
 simp only [FT] at h|-;exact xU
theorem aDf {ops:Array Oper}{tr:List Nat}{n0:Nat}{i:Nat}{K:List LV×List AB->Prop}:∀(R:List Nat) (F:List LV) (H:List AB),i∈R->(Fg i R).all (λj=>R7 ops i j)=U->(FT P G Γ ops tr n0 R F H).all K->(FT P G Γ ops tr n0 (i::R.erase i) F H).all K
 | [],_,_,hi,_,_=>lU
 | j::R,F,H,hi,hb,h=>by
  by_cases hj:j=i
  ·subst hj
   grind
  ·have hi':i∈R:=by
    exact xm
   simp only [Fg,AE hj,Ic,AY] at hb;rw [V3 A8];exact an3 hb.1<|an4 (λF H h=>aDf R F H hi' hb.2 h) h
def anL {t:TypeId}{len:Nat}{l:List<|Nat×LV}{K:LV->Prop}(h:(Li P t len l).all K):¬len=0:=by
 unfold Li at h
 rintro rfl
 split at h
 ·split at h
  ·split at h
   ·omega
   ·cases h
  ·cases h
 ·cases h
def af7 {t:TypeId}{len:Nat}{l:List<|Nat×LV}{K:LV->Prop}(h:(Li P t len l).all K):cY P t=true:=by
 unfold Li at h;unfold cY;split at h
 ·rename_i e hu
  split at h
  ·rename_i ty m z h1 h2 h3
   simp [h1]
  ·cases h
 ·cases h
def aGg {o:Oper}{lv:LV}(hm:IJ o=U) (h:(IV P G Γ F o).all λz=>z=lv):(Aw P G Γ F H o).all (λq=>q=(lv,H)):=by
 unfold IV at h;split at h
 ·rename_i t len parts ho
  split at h
  ·cases h
  rename_i hrl;split at h
  ·rename_i hno
   unfold Aw;simp only [ho];rw [AE<|anL h,AD<|af7 h,AE hrl,AD hno,T.all_bind];exact aMa
  ·cases h
 ·rename_i f args ty ho
  unfold Aw;simp only [ho];split at h
  ·rename_i g cap hf
   split at h
   ·rename_i fn hfn
    split at h
    ·rename_i hb
     split at h
     ·rename_i S hS
      split at h
      ·rename_i hno
       simp only [hf,LM,hfn,hb,Bm,hS,hno];rw [T.all_bind];exact aMa
      ·cases h
     ·cases h
    ·cases h
   ·cases h
  ·cases h
 ·cases h
def aGi {l:Array Bool}{i j:Nat}{d:Bool}:(l.setIfInBounds i U).getD j d=if i=j/\i<l.size then U else l.getD j d:=by
 by_cases e:i=j
 ·subst e
  by_cases h:i<l.size
  ·simp [h]
  ·simp [h]
 ·simp [e]
theorem sO {l:Array Bool}{i:Nat}(h:l.getD i U=X):i<l.size/\l.getD i X=false:=by
 rw [jt] at h|-;cases hq:l[i]? with
 |none=>rw [hq] at h;cases h
 |some b=>
  grind
theorem pN {i:Nat}:∀ {R:List Nat}{j:Nat},j∈Fg i R->j∈R/\j≠i
 | [],_,h=>Ao
 | k::R,j,h=>by
  simp only [Fg] at h;split at h
  ·cases h
  ·rename_i hk
   rcases B7.1 h with rfl|h
   ·grind
   ·exact ⟨Sa _ (pN h).1,(pN h).2⟩
theorem aDo {p:Nat->Nat->Prop}{i:Nat}:∀ {R:List Nat}{j:Nat},R.Pairwise p->i∈R->j∈Fg i R->p j i
 | [],_,_,h,_=>Ao
 | k::R,j,hp,hi,hj=>by
  rw [kH] at hp;simp only [Fg] at hj;split at hj
  ·cases hj
  ·rename_i hk
   have hi2:i∈R:=by
    rcases B7.1 hi with e|hi
    ·grind
    ·exact hi
   rcases B7.1 hj with rfl|hj
   ·grind
   ·exact aDo hp.2 hi2 hj
theorem aDF {i k q:Nat}(hk:k≠i) (hq:q≠i):∀ {R:List Nat},q∈Fg k R->q∈Fg k (R.erase i)
 | [],h=>Ao
 | x::R,h=>by
  simp only [Fg] at h;split at h
  ·cases h
  ·rename_i hx
   by_cases e:x=i
   ·subst e
    rw [List.erase_cons_head];rcases B7.1 h with rfl|h
    ·grind
    ·exact h
   ·rw [V3 A8]
    simp only [Fg,AE hx];rcases B7.1 h with rfl|h
    ·simp
    ·exact Sa _<|aDF hk hq h
inductive Kf (ops:Array Oper) (R:List Nat):Nat->Nat->Prop
 |dir {i j:Nat}:preB ops i j=U->Kf ops R i j
 |step {i p j:Nat}:p∈R->preB ops i p=U->Kf ops R p j->Kf ops R i j
theorem Kf.aDS {ops:Array Oper}{R:List Nat}{listed:Array Bool}(hm:∀i,i∈R↔listed.getD i U=X) {i j:Nat}(hi:i∈ay .any ops listed) (hj:j∈R) (h:Kf ops R i j):False:=by
 have no:∀p,preB ops i p=U->p∈R->False:=λp h hp=>by
  obtain ⟨_,o,ho,r2⟩:=Em.1 hi;unfold preB at h;rw [ho] at h;simp only [OW,AY] at h;obtain ⟨e,he,hb,hq⟩:=h
  have hq:e.on=p:=A8
  have h3:=r2 e A8 hb
  rw [hq] at h3
  have h4:=(sO<|(hm p).1 hp).2
  rw [h3] at h4;cases h4
 cases h with
 |dir h=>exact no _ h hj
 |step hp h _=>exact no _ h hp
def Kf.erase {ops:Array Oper}{R:List Nat}{listed:Array Bool}(hm:∀i,i∈R↔listed.getD i U=X) (hnd:R.Nodup) {k:Nat}(hk:k∈ay .any ops listed) {i j:Nat}(h:Kf ops R i j) (hj:j∈R):Kf ops (R.erase k) i j:=by
 induction h with
 |dir h=>exact .dir h
 |step hp h hr ih=>exact .step (hnd.mem_erase_iff.2 ⟨λe=>by subst e;exact Kf.aDS hm hk hj hr,hp⟩) h<|ih hj
def aGz {ops:Array Oper}{R:List Nat}:∀ {n i j:Nat},gd ops R n i j=U->Kf ops R i j
 |0,_,_,h=> .dir h
 |n+1,_,_,h=>by
  simp only [gd,Ck,OW,AY] at h;rcases h with h|⟨p,hp,h1,h2⟩
  ·exact .dir h
  ·exact .step hp h1<|aGz h2
structure amj (ops:Array Oper) (R:List Nat) (listed:Array Bool):Prop where
 nd:R.Nodup
 mem:∀i,i∈R↔listed.getD i U=X
 pr:R.Pairwise λj i=>Kf ops R i j\/R7 ops i j=U
 tp:∀i∈R,∃o,ops[i]? =ah o/\∀e∈o.after,Region.binds .any e=U->listed.getD e.on X=U\/e.on∈Fg i R
theorem aPW {ops:Array Oper}:∀(n:Nat) (R:List Nat) (listed:Array Bool),M R=n->amj ops R listed->Ln ops n R listed=U
 |0,R,listed,hn,I=>by
  have e:=aKR hn
  subst e;simp only [Ln,List.isEmpty_nil,EA,ZT];refine wq.2 λi hi=>?_
  exact absurd ((I.mem i).2 (Em.1 hi).1) AI
 | n +1,R,listed,hn,I=>by
  simp only [Ln,AY,BP,Cs,ju];refine ⟨λh0=>?_,λi hi=>?_⟩
  ·match R,hn,I with
   | k::R,_,I=>
    obtain ⟨o,ho,h1⟩:=I.tp k AI
    have:k∈ay .any ops listed:=Em.2 ⟨(I.mem k).1 AI,o,ho,λe he hb=>by
     rcases h1 e he hb with h2|h2
     ·exact h2
     ·simp [Fg] at h2⟩
    rw [h0] at this;cases this
  ·obtain ⟨r1,o,ho,r2⟩:=Em.1 hi
   have hR:=(I.mem i).2 r1
   refine ⟨⟨A8,λj hj=>?_⟩,aPW n _ _ A8 ⟨I.nd.erase i,λj=>?_,(I.pr.sublist List.erase_sublist).imp_of_mem λ{a b} ha _ h=>h.imp_left λh=>h.erase I.mem I.nd hi<|Pt ha,λk hk=>?_⟩⟩
   ·obtain ⟨j1,j2⟩:=pN hj
    rcases aDo I.pr hR hj with h|h
    ·exact (Kf.aDS I.mem hi j1 h).elim
    ·exact h
   ·rw [I.nd.mem_erase_iff,I.mem j,aGi]
    have hb:=(sO r1).1
    by_cases e:i=j
    ·subst e
     simp [hb]
    ·grind
   ·have hk':=I.nd.mem_erase_iff.1 hk
    obtain ⟨o',ho',h1⟩:=I.tp k hk'.2;refine ⟨o',ho',λe he hb=>?_⟩
    rw [aGi]
    by_cases q:i=e.on
    ·left
     grind
    ·rw [AE λh=>q h.1]
     rcases h1 e he hb with h2|h2
     ·grind
     ·exact .inr<|aDF hk'.1 (OZ q) h2
def aIM:∀ {l:List Nat},mD l=U->l.Nodup
 | [],_=>List.nodup_nil
 |x::l,h=>by
  simp only [mD,AY,Cs,List.contains_eq_mem,Cy] at h;exact ME.2 ⟨h.1,aIM h.2⟩
def aDd {ops:Array Oper}{R0:List Nat}:∀ {R:List Nat},fE ops R0 R=U->R.Pairwise λj i=>Kf ops R0 i j\/R7 ops i j=U
 | [],_=>List.Pairwise.nil
 |j::R,h=>by
  simp only [fE,AY,BP,Ck] at h;exact kH.2 ⟨λi hi=>(h.1 i hi).symm.imp_left aGz,aDd h.2⟩
theorem aPx {ops:Array Oper}{R:List Nat}{listed:Array Bool}(h:m5 ops R listed=U):Ln ops (M R) R listed=true:=by
 unfold m5 aTx at h;simp only [AY,BP,IZ] at h;obtain ⟨h1,h2,h3,h4,h5,h6⟩:=h
 have h2:listed.size=ops.size:=A8
 refine aPW _ R listed rfl ⟨aIM h1,λi=>?_,aDd h5,λi hi=>?_⟩
 ·by_cases hi:i<ops.size
  ·have:=h3 i hi
   constructor
   ·intro hm
    grind
   ·intro hm
    grind
  ·constructor
   ·intro hm
    grind
   ·intro hm
    have:=(sO hm).1
    omega
 ·have:=h6 i hi
  split at this
  ·rename_i o ho
   refine ⟨o,ho,λe he hb=>?_⟩
   grind
  ·cases this
theorem aC2 (hΓ:∀g S,Γ g=ah S->Valid P G g S) {ops:Array Oper}{tr:List Nat}{D:World->Prop}{sp:Nat->Bool}{Q:Act->Gh->Prop}{F':List LV}{H':List AB}
  (hQ:∀g:Gh,g.F=F'->g.H=H'->Q g.a g):∀(n:Nat) (R:List Nat) (listed:Array Bool) (g:Gh),(∀i∈R,sp i=U)->Ln ops n R listed=U->
   (FT P G Γ ops tr (M H) R g.F g.H).all (λq=>q=(F',H'))->KH P .any ops D (CY ds G w0 Z0 tr β H wr) sp Q n listed g.a g
 |0,R,listed,g,_,hB,h=>by
  simp only [Ln,AY,ZT] at hB;obtain ⟨rfl,h2⟩:=hB;simp only [FT,T.all,Ax] at h;exact ⟨h2,hQ g h.1 h.2⟩
 | n +1,R,listed,g,hs,hB,h=>by
  simp only [Ln,AY,BP,Cs,ju] at hB;obtain ⟨hne,hall⟩:=hB;refine ⟨λh0=>absurd h0 hne,λi hi=>?_⟩
  obtain ⟨⟨hR,hbef⟩,hrest⟩:=hall i hi
  have hiR:i∈R:=A8
  have hf:=aDf R g.F g.H hiR A8 h
  simp only [FT] at hf;split at hf
  ·rename_i o ho
   split at hf
   ·rename_i hgs
    simp only [AY,ZF] at hgs;obtain ⟨hgd,hst⟩:=hgs
    have hw:az o (yielded ops g.a.tmps)=true:=yP
    unfold Ds;simp only [ho,hw,Bm,hs i hiR];obtain ⟨⟨lv,H1⟩,h1,h2⟩:=T.B4 hf
    have h1':(Aw P G Γ g.F g.H o).all (λq=>q=(lv,H1)):=by
     unfold Fs at h1;split at h1
     ·rename_i hm
      obtain ⟨y,k1,k2⟩:=T.B4 h1;obtain ⟨rfl,rfl⟩:=k2;exact aGg (P4 hm) k1
     ·exact h1
    intro w' hc;refine K3 (λv w'' ⟨g',e1,e2,e3,e4⟩=>⟨g',e1,?_⟩)<|cR hΓ hst h1' hc
    rw [<-e4];refine aC2 hΓ hQ n (R.erase i) _ g' (λj hj=>hs j<|Pt hj) hrest ?_
    rwa [e2,e3]
   ·cases hf
  ·cases hf
def T.Ev {α:Type}(t:T α) (K:α->Prop):Prop:=∀K1:α->Prop,t.all K1->t.all (λq=>K1 q/\K q)
def T.U0 {α:Type}{x:α}{K:α->Prop}(h:K x):T.Ev (.ok x) K:=λ_ h1=>⟨h1,h⟩
def T.KW {α:Type}{K:α->Prop}:T.Ev (.no:T α) K:=λ_ h1=>h1.elim
def T.aR2 {α:Type}{p:Prop}{t:T α}{K:α->Prop}(h:T.Ev t K):T.Ev (.req p t) K:=λ_ h1=>⟨h1.1,h _ h1.2⟩
def T.cw {α γ:Type}{t:T α}{f:α->T γ}{K:γ->Prop}(h:∀x,T.Ev (f x) K):T.Ev (t.bind f) K:=λK1 h1=>by
 rw [T.all_bind] at h1|-;exact T.BY (λx hx=>h x _ hx) h1
def H4 (H H':List AB):Prop:=∀(k:Nat) (b:AB),H'[k]? =ah b->b.Dl=U->∃b0:AB,H[k]? =ah b0/\b0.Dl=U/\b0.c=b.c
def H4.refl (H:List AB):H4 H H:=λ_ b h1 h2=>⟨b,h1,h2,rfl⟩
theorem H4.snoc {H H':List AB}(h:H4 H H') {nb:AB}(hn:nb.Dl=X):H4 H (H'++[nb]):=λk b h1 h2=>by
 rw [List.getElem?_append] at h1;split at h1
 ·exact h k b h1 h2
 ·cases e:k-M H' with
  |zero=>
   grind
  |succ n=>rw [e] at h1;simp at h1
theorem H4.set {H:List AB}{k:Nat}{nb:AB}(hn:nb.Dl=X):H4 H (H.set k nb):=λj b h1 h2=>by
 rw [I7] at h1;split at h1
 ·split at h1
  ·simp only [Ah] at h1
   grind
  ·cases h1
 ·grind
theorem H4.pub (ks:List Nat) {H:List AB}:H4 H (FZ ks 0 H):=λk b h1 h2=>by
 rw [cA] at h1;cases e:H[k]? with
 |none=>rw [e] at h1;cases h1
 | some b0=>
  rw [e] at h1;simp only [JQ,Ah] at h1;refine ⟨b0,rfl,?_,?_⟩
  ·rw [<-h1] at h2
   split at h2
   ·exact h2
   ·exact h2
  ·rw [<-h1]
   grind
theorem afm {H:List AB}{t:TypeId}{k off:Nat}:(∃v,FH P H t (.own k off)=.ok v)\/FH P H t (.own k off)=.no:=by
 generalize hx:FH P H t (.own k off)=x;unfold FH at hx;cases e:H[k]? with
 |none=>
  grind
 | some b=>
  simp only [e] at hx;split at hx
  ·split at hx
   ·grind
   ·grind
  ·split at hx
   ·split at hx
    ·grind
    ·grind
   ·grind
  ·grind
theorem af5 {H H':List AB}(hk:H4 H H') {t:TypeId}{k off:Nat}{v:LV}(h:FH P H' t (.own k off)=.ok v):FH P H t (.own k off)=.ok v:=by
 unfold FH at h|-;cases e:H'[k]? with
 |none=>
  grind
 | some b=>
  simp only [e] at h;cases ec:b.Dl with
  |false=>
   grind
  |true=>
   obtain ⟨b0,e0,e1,e2⟩:=hk k b e ec;simp only [e0,e1,e2];simp only [ec] at h;exact h
def ag4 {H:List AB}{t tx:TypeId}{x y:LV}:T.Ev (LF P H t tx x y) (λq=>H4 H q.2):=by
 unfold LF;split
 ·split
  ·split
   ·refine T.cw λq=>?_
    split
    ·exact T.aR2<|T.U0<|(H4.refl H).snoc rfl
    ·split
     ·split
      ·split
       ·exact T.aR2<|T.U0<|(H4.set rfl).snoc rfl
       ·exact T.KW
      ·exact T.KW
     ·exact T.KW
    ·exact T.KW
   ·exact T.KW
  ·exact T.KW
 ·exact T.KW
theorem alT {o:Oper}(h:Us P o=U):T.Ev (Aw P G Γ F H o) (λq=>H4 H q.2):=by
 unfold Us at h;split at h
 ·rename_i args tys ho
  unfold Aw;simp only [ho];split
  ·exact ag4
  ·exact T.KW
 ·rename_i t len parts ho
  unfold Aw;simp only [ho];split
  ·split
   ·unfold Wp
    split
    ·exact T.U0<|(H4.refl H).snoc rfl
    ·exact T.KW
   ·exact T.KW
  ·rename_i hl
   have ht:cY P t=true:=A8
   rw [AD ht];split
   ·unfold aP
    split
    ·refine T.cw λy=>?_
     split
     ·exact T.U0<|(H4.pub _).snoc rfl
     ·exact T.KW
    ·exact T.KW
   ·split
    ·exact T.cw λy=>T.U0<|H4.refl H
    ·unfold m9
     split
     ·exact T.cw λy=>T.U0<|H4.pub _
     ·exact T.KW
 ·cases h
theorem aty {ops:Array Oper}{o:Oper}{d:Option Tmp}{y:LV}(hh:Us P o=U) (h:∀t,d=ah t->t∉o.looksAt ops):Aw P G Γ (At F d y) H o=Aw P G Γ F H o/\∀tr n0,CI G (At F d y) tr n0 o=CI G F tr n0 o:=by
 have hl:=looks h
 unfold Us at hh;split at hh
 ·rename_i args tys ho
  have e:args.toList.map (AL G<|At F d y)=args.toList.map (AL G F):=JO λx hx=>FV<|hl x Zo
  refine ⟨?_,λtr n0=>?_⟩
  ·unfold Aw
   exact Sl
  ·unfold CI Ea
   exact Sl
 ·rename_i t len parts ho
  have e:(parts.toList.map λq=>(q.1,AL G (At F d y) q.2))=parts.toList.map λq=>(q.1,AL G F q.2):=JO λq hq=>by
   rw [FV<|hl q.2 aMu]
  refine ⟨?_,λtr n0=>?_⟩
  ·unfold Aw
   exact Sl
  ·unfold CI Ea
   grind
 ·cases hh
theorem an1 {ops:Array Oper}{tr:List Nat}{n0:Nat}{i j:Nat}{is:List Nat}{K:List LV×List AB->Prop}(hc:gq P ops i j=U) (h:(Gv P G Γ ops tr n0 (j::i::is) F H).all K):(Gv P G Γ ops tr n0 (i::j::is) F H).all K:=by
 unfold gq at hc;split at hc
 ·rename_i x y hx hy
  simp only [AY] at hc;obtain ⟨⟨⟨g1,g2⟩,gx,gy⟩,hap⟩:=hc;obtain ⟨a1,a2,a3⟩:=ZW hap
  have step:∀(k:Nat) (o:Oper) (l:List Nat) (F:List LV) (H:List AB),ops[k]? =ah o->o.guard.isNone=U->((Gv P G Γ ops tr n0 (k::l) F H).all K↔(CI G F tr n0 o=U/\(spz P G Γ F H o).all (λq=>(Gv P G Γ ops tr n0 l (At F o.dst q.1) q.2).all K))):=λk o l F H hk hg=>by
   simp only [Gv,hk,hg,EA];split
   ·rename_i hs
    rw [T.all_bind]
    grind
   ·rename_i hs
    constructor
    ·exact λh=>h.elim
    ·grind
  have sy:∀F H,spz P G Γ F H y=Aw P G Γ F H y:=λF H=>by
   unfold spz;rw [AD];unfold zQ;unfold Us at gy;split at gy
   ·rename_i ho;rw [ho]
   ·grind
   ·cases gy
  have gx':(J1 x ||Jg x)=true:=A8
  obtain ⟨t,ad,ho⟩:∃t ad,x.op=.load t ad:=by
   unfold Jg at gx;split at gx
   ·grind
   ·cases gx
  have hl:=looks a3
  have sx:∀F H,spz P G Γ F H x=match AL G F ad with
   | .own k off=>(FH P H t<|.own k off).bind λy=> .ok (y,H)
   |_=> .no:=λF H=>by
   unfold spz zQ Aw;simp only [ho];split
   ·rename_i k off e
    rw [AD rfl,e]
   ·rename_i hne
    rw [AE Aa];split
    ·grind
    ·rfl
  have ea:∀v,AL G (At F y.dst v) ad=AL G F ad:=λv=>FV<|hl ad FB
  rw [step _ _ _ _ _ hy g2,sy] at h;obtain ⟨h1,h2⟩:=h
  have h3:=alT gy _ h2
  rw [step _ _ _ _ _ hx g1,sx];refine ⟨bp gx' F,?_⟩
  have h4:(Aw P G Γ F H y).all (λq=>∃k off v,AL G F ad=.own k off/\FH P H t (.own k off)=.ok v/\(Gv P G Γ ops tr n0 is (At (At F y.dst q.1) x.dst v) q.2).all K):=T.BY (λq hq=>by
   obtain ⟨q1,q2⟩:=hq;rw [step _ _ _ _ _ hx g1,sx,ea] at q1
   have q3:=q1.2
   split at q3
   ·rename_i k off e
    rcases afm (P:=P) (H:=q.2) (t:=t) (k:=k) (off:=off) with ⟨v,hv⟩ |hv
    ·rw [hv] at q3
     exact ⟨k,off,v,e,af5 q2 hv,q3⟩
    ·rw [hv] at q3;exact q3.elim
   ·exact q3.elim) h3
  obtain ⟨k,off,v,e,hv⟩:=T.Sy<|T.BY (λq hq=>(⟨hq.choose,hq.choose_spec.choose,hq.choose_spec.choose_spec.choose,hq.choose_spec.choose_spec.choose_spec.1,hq.choose_spec.choose_spec.choose_spec.2.1⟩:∃k off v,AL G F ad=.own k off/\FH P H t (.own k off)=.ok v)) h4
  rw [e];simp only [hv,T.bind,T.all];obtain ⟨e1,e2⟩:=aty (P:=P) (G:=G) (Γ:=Γ) (F:=F) (H:=H) (y:=v) gy a1;rw [step _ _ _ _ _ hy g2,sy,e1,e2];refine ⟨h1,T.BY (λq hq=>?_) h4⟩
  obtain ⟨k',off',v',e',hv',hp⟩:=hq;rw [e] at e';cases e';rw [hv] at hv';cases hv';rw [L7 a2];exact hp
 ·cases hc
def an2 {ops:Array Oper}{tr:List Nat}{n0:Nat}{j:Nat}{R R':List Nat}{K:List LV×List AB->Prop}(hh:∀(F:List LV) (H:List AB),(Gv P G Γ ops tr n0 R F H).all K->(Gv P G Γ ops tr n0 R' F H).all K) (h:(Gv P G Γ ops tr n0 (j::R) F H).all K):(Gv P G Γ ops tr n0 (j::R') F H).all K:=by
 simp only [Gv] at h|-;exact xU
theorem aDe {ops:Array Oper}{tr:List Nat}{n0:Nat}{i:Nat}{K:List LV×List AB->Prop}:∀(R:List Nat) (F:List LV) (H:List AB),i∈R->(Fg i R).all (λj=>gq P ops i j)=U->(Gv P G Γ ops tr n0 R F H).all K->(Gv P G Γ ops tr n0 (i::R.erase i) F H).all K
 | [],_,_,hi,_,_=>lU
 | j::R,F,H,hi,hb,h=>by
  by_cases hj:j=i
  ·subst hj
   grind
  ·have hi':i∈R:=by
    exact xm
   simp only [Fg,AE hj,Ic,AY] at hb;rw [V3 A8];exact an1 hb.1<|an2 (λF H h=>aDe R F H hi' hb.2 h) h
theorem adO (hΓ:∀g S,Γ g=ah S->Valid P G g S) {ops:Array Oper}{tr:List Nat}{D:World->Prop}{sp:Nat->Bool}{Q:Act->Gh->Prop}{F':List LV}{H':List AB}
  (hQ:∀g:Gh,g.F=F'->g.H=H'->Q g.a g):∀(n:Nat) (R:List Nat) (listed:Array Bool) (g:Gh),(∀i∈R,sp i=U)->aO P ops n R listed=U->
   (Gv P G Γ ops tr (M H) R g.F g.H).all (λq=>q=(F',H'))->KH P .any ops D (CY ds G w0 Z0 tr β H wr) sp Q n listed g.a g
 |0,R,listed,g,_,hB,h=>by
  simp only [aO,AY,ZT] at hB;obtain ⟨rfl,h2⟩:=hB;simp only [Gv,T.all,Ax] at h;exact ⟨h2,hQ g h.1 h.2⟩
 | n +1,R,listed,g,hs,hB,h=>by
  simp only [aO,AY,BP,Cs,ju] at hB;obtain ⟨hne,hall⟩:=hB;refine ⟨λh0=>absurd h0 hne,λi hi=>?_⟩
  obtain ⟨⟨hR,hbef⟩,hrest⟩:=hall i hi
  have hiR:i∈R:=A8
  have hf:=aDe R g.F g.H hiR A8 h
  simp only [Gv] at hf;split at hf
  ·rename_i o ho
   split at hf
   ·rename_i hgs
    simp only [AY,ZF] at hgs;obtain ⟨hgd,hst⟩:=hgs
    have hw:az o (yielded ops g.a.tmps)=true:=yP
    unfold Ds;simp only [ho,hw,Bm,hs i hiR];obtain ⟨⟨lv,H1⟩,h1,h2⟩:=T.B4 hf
    have h1':(Aw P G Γ g.F g.H o).all (λq=>q=(lv,H1)):=by
     unfold spz at h1;split at h1
     ·exact h1
     ·cases h1
    intro w' hc;refine K3 (λv w'' ⟨g',e1,e2,e3,e4⟩=>⟨g',e1,?_⟩)<|cR hΓ hst h1' hc
    rw [<-e4];refine adO hΓ hQ n (R.erase i) _ g' (λj hj=>hs j<|Pt hj) hrest ?_
    rwa [e2,e3]
   ·cases hf
  ·cases hf
def bu {T':Type}{md:Region.Mode}{D:World->Prop}{sp:Nat->Bool}{C:T'->World->Prop}{Q':Act->World->Prop}{ops:Array Oper}{g g1:T'}(hs:∀w',C g w'->C g1 w'):∀(n:Nat) (listed:Array Bool) (a:Act),
  KH P md ops D C sp (λa' g'=>∀w',C g' w'->Q' a' w') n listed a g1->KH P md ops D C sp (λa' g'=>∀w',C g' w'->Q' a' w') n listed a g
 |0,_,_,h=>⟨h.1,λw' hw'=>h.2 w'<|hs w' hw'⟩
 | n +1,listed,a,h=>⟨λh0 w' hw'=>h.1 h0 w'<|hs w' hw',λi hi=>by
   have:=h.2 i hi
   unfold Ds at this|-;split
   ·rename_i ho;simp only [ho] at this;exact bu hs n _ _ this
   ·rename_i o ho
    simp only [ho] at this;split
    ·rename_i hw
     simp only [hw,Bm] at this;split
     ·rename_i hsp
      simp only [hsp,Bm] at this;exact λw hw=>this w<|hs w hw
     ·rename_i hsp
      simp only [hsp] at this;exact nU (λa' hk=>bu hs n _ a' hk) this
    ·rename_i hw
     simp only [hw] at this;exact bu hs n _ _ this⟩
mutual
def R.KY {β':Nat->Loc}{n:Nat}:∀(x:LV) (y:Value),(∀j,j∈owns x->β' j=β j)->okV n x->R β Z w x y->R β' Z w x y
 | .v _,_,_,_,h=>h
 | .bl _,_,_,_,h=>h
 | .ki _ _,_,_,_,h=>h
 | .own k off,y,hj,_,h=>aMd
 | .agg l,y,hj,hk,h=>by
  exact kR
 | .AO l,y,hj,hk,h=>by
  exact kR
 | .fn f l,y,hj,hk,h=>by
  exact kR
 | .fb f l,y,hj,hk,h=>by
  exact kR
 | .xq m f,y,_,hk,h=>by
  simp only [R,okV] at*;obtain ⟨b,off,h1,h2,h3⟩:=h;refine ⟨b,off,h1,h2,λj hj=>?_⟩
  obtain ⟨z,h4,h5⟩:=h3 j hj;exact ⟨z,h4,R.mono (n:=0) (λ_ hk=>absurd hk A0) (λ_ h=>h) (λ_ _=>rfl) _ _ (hk j) h5⟩
 | .xl e l,y,_,_,h=>by simp only [R] at*;exact h
 | .os k es off n,y,hj,_,h=>lE
 | .op k es i j,y,hj,_,h=>lE
 | .om k,y,hj,_,h=>lE
 | .mp kd ks l,y,hj,hk,h=>by
  simp only [R,owns,okV] at*;obtain ⟨r,es,clock,h1,h2,h3,h4,h5⟩:=h;exact ⟨r,es,clock,h1,h2,h3,h4,RL.KY l _ hj hk h5⟩
 | .oc k es off n c,y,hj,_,h=>lE
 | .CK k,y,hj,_,h=>aMd
 | .junk,_,_,_,_=>JR
def RL.KY {β':Nat->Loc}{n:Nat}:∀(l:List LV) (ys:List Value),(∀j,j∈ownsL l->β' j=β j)->AS n l->RL β Z w l ys->RL β' Z w l ys
 | [],_,_,_,h=>aNe
 |x::xs,ys,hj,hk,h=>by
  simp only [RL,ownsL,Be,AS] at*;obtain ⟨y,zs,h1,h2,h3⟩:=h;exact ⟨y,zs,h1,R.KY x y (λj h=>hj j (.inl h)) hk.1 h2,RL.KY xs zs (λj h=>hj j (.inr h)) hk.2 h3⟩
end
mutual
def okV_owns {n:Nat}:∀(x:LV),okV n x->∀j,j∈owns x->j<n
 | .v _,_,j,h=>VQ
 | .bl _,_,j,h=>VQ
 | .ki _ _,_,j,h=>VQ
 | .own k _,hk,j,h=>VR
 | .agg l,hk,j,h=>Zm
 | .AO l,hk,j,h=>Zm
 | .fn _ l,hk,j,h=>Zm
 | .fb _ l,hk,j,h=>Zm
 | .xq _ _,_,j,h=>VQ
 | .xl _ _,_,j,h=>VQ
 | .os k _ _ _,hk,j,h=>VR
 | .op k _ _ _,hk,j,h=>VR
 | .om k,hk,j,h=>VR
 | .mp _ _ l,hk,j,h=>Zm
 | .oc k _ _ _ _,hk,j,h=>VR
 | .CK k,hk,j,h=>VR
 | .junk,_,j,h=>VQ
def okL_owns {n:Nat}:∀(l:List LV),AS n l->∀j,j∈ownsL l->j<n
 | [],_,j,h=>by simp [ownsL] at h
 |x::xs,hk,j,h=>by
  simp only [ownsL,Be,AS] at*;rcases h with h|h
  ·exact okV_owns x hk.1 j h
  ·exact okL_owns xs hk.2 j h
end
mutual
def okV_lower {n m:Nat}:∀(x:LV),okV n x->(∀j,j∈owns x->j<m)->okV m x
 | .v _,_,_=>trivial
 | .bl _,_,_=>trivial
 | .ki _ _,_,_=>trivial
 | .own k _,_,h=>h k Ie
 | .agg l,hk,h=>Zn
 | .AO l,hk,h=>Zn
 | .fn _ l,hk,h=>Zn
 | .fb _ l,hk,h=>Zn
 | .xq _ _,hk,_=>aNx
 | .xl _ _,_,_=>trivial
 | .os k _ _ _,_,h=>h k Ie
 | .op k _ _ _,_,h=>h k Ie
 | .om k,_,h=>h k Ie
 | .mp _ _ l,hk,h=>Zn
 | .oc k _ _ _ _,_,h=>h k Ie
 | .CK k,_,h=>h k Ie
 | .junk,_,_=>trivial
def okL_lower {n m:Nat}:∀(l:List LV),AS n l->(∀j,j∈ownsL l->j<m)->AS m l
 | [],_,_=>trivial
 |x::xs,hk,h=>by
  simp only [ownsL,Be,AS] at*;exact ⟨okV_lower x hk.1 (λj hj=>h j (.inl hj)),okL_lower xs hk.2 (λj hj=>h j (.inr hj))⟩
end
def aEP {n:Nat}{b:AB}(h:okB n b):∀j,j∈b.owns->j<n:=λj hj=>by
 rcases Be.1 hj with hj|hj
 ·exact okL_owns _ h.1 j hj
 ·have h2:=h.2
  split at hj
  ·rename_i hk;rw [hk] at h2;exact okL_owns _ h2 j hj
  ·cases hj
def BZ.KY {β':Nat->Loc}{n k k':Nat}{b:AB}(hk:β' k'=β k) (hj:∀j,j∈b.owns->β' j=β j) (hok:okB n b) (h:BZ β Z w k b):BZ β' Z w k' b:=by
 have hc:∀j,j∈ownsL b.c->β' j=β j:=λj h=>hj j<|Be.2<|.inl h
 unfold BZ at*;rw [hk];cases hbk:b.k with
 |cl=>
  simp only [hbk] at h|-;obtain ⟨cs,h1,h2⟩:=h;exact ⟨cs,h1,RL.KY _ _ hc hok.1 h2⟩
 |vec e l=>simp only [hbk] at h|-;exact h
 |mp kd ks vs=>
  simp only [hbk] at h|-;obtain ⟨es,clock,h1,h2,h3⟩:=h
  have ho:=hok.2
  rw [hbk] at ho;exact ⟨es,clock,h1,h2,RL.KY _ _ (λj h=>hj j (by unfold AB.owns;rw [hbk];exact Be.2<|.inr h)) ho h3⟩
 |Cc ps asg body st=>
  simp only [hbk] at h|-;obtain ⟨r,h1,h2,h3,h4,h5,h6⟩:=h;exact ⟨r,h1,h2,h3,h4,h5,RL.KY _ _ hc hok.1 h6⟩
 |st e l=>simp only [hbk] at h|-;exact h
 |dead=>trivial
def Kb (β:Nat->Loc) (k m:Nat):Nat->Loc:=λj=>if j=k then β m else β j
def QG {k m:Nat}:Kb β k m k=β m:=by simp [Kb]
def Iq {k m j:Nat}(h:j≠k):Kb β k m j=β j:=by simp [Kb,h]
theorem RW.move {k:Nat}{nb db:AB}(hW:RW G w0 Z0 Z β (H++[nb]) w) (hk:H[k]? =ah db) (hp:nb.p=X)
  (hB:∀(j:Nat) (b:AB),H[j]? =ah b->okB (M H) b/\k∉b.owns) (hn:okB (M H) nb/\k∉nb.owns) (hg:∀p,p∈Z0.gh->okV (M H) p.1/\k∉owns p.1):
  RW G w0 Z0 Z (Kb β k<|M H) (H.set k nb) w:=by
 have hkl:k<M H:=(Dv.1 hk).1
 have at_:∀(j:Nat) (b:AB),(H.set k nb)[j]? =ah b->(j=k/\b=nb)\/(j≠k/\H[j]? =ah b):=λj b h=>by
  rw [I7] at h;split at h
  ·rename_i e
   grind
  ·grind
 have last:(H++[nb])[M H]? =ah nb:=AI
 have old:∀(j:Nat) (b:AB),H[j]? =ah b->(H++[nb])[j]? =ah b:=λj b h=>A8
 have lt:∀(j:Nat) (b:AB),H[j]? =ah b->j<M H:=λj b h=>(Dv.1 h).1
 have lk:live (Kb β k<|M H) k nb=live β (M H) nb:=by unfold live;rw [QG]
 have lj:∀j b,j≠k->live (Kb β k<|M H) j b=live β j b:=λj b h=>KC<|Iq h
 refine ⟨hW.below,hW.Bb,hW.EX,λj b hj hl hq=>?_,λj b hj hl hq=>?_,λj b hj hl=>?_,λi j bi bj hi hj li lj' pi e=>?_,λj b hj=>?_,hW.CW,λp hp=>?_,hW.Ci⟩
 ·rcases at_ j b hj with ⟨rfl,rfl⟩ |⟨h1,h2⟩
  ·rw [QG];rw [lk] at hl;exact hW.Cf _ _ last hl hq
  ·rw [Iq h1];rw [lj j b h1] at hl;exact hW.Cf j b (old j b h2) hl hq
 ·rcases at_ j b hj with ⟨rfl,rfl⟩ |⟨h1,h2⟩
  ·rw [hp] at hq;cases hq
  ·rw [Iq h1];rw [lj j b h1] at hl;exact hW.G6 j b (old j b h2) hl hq
 ·rcases at_ j b hj with ⟨rfl,rfl⟩ |⟨h1,h2⟩
  ·rw [QG];rw [lk] at hl;exact hW.low _ _ last hl
  ·rw [Iq h1];rw [lj j b h1] at hl;exact hW.low j b (old j b h2) hl
 ·rcases at_ i bi hi with ⟨rfl,rfl⟩ |⟨h1,h2⟩
  ·rcases at_ j bj hj with ⟨rfl,rfl⟩ |⟨g1,g2⟩
   ·rfl
   ·rw [lk] at li;rw [lj j bj g1] at lj';rw [QG,Iq g1] at e
    have:=hW.inj _ j _ bj last (old j bj g2) li lj' pi e
    have:=lt j bj g2;omega
  ·rcases at_ j bj hj with ⟨rfl,rfl⟩ |⟨g1,g2⟩
   ·rw [lj i bi h1] at li;rw [lk] at lj';rw [Iq h1,QG] at e
    have:=hW.inj i _ bi _ (old i bi h2) last li lj' pi e
    have:=lt i bi h2;omega
   ·rw [lj i bi h1] at li;rw [lj j bj g1] at lj';rw [Iq h1,Iq g1] at e
    exact hW.inj i j bi bj (old i bi h2) (old j bj g2) li lj' pi e
 ·rw [CH]
  rcases at_ j b hj with ⟨rfl,rfl⟩ |⟨h1,h2⟩
  ·exact ⟨BZ.KY QG (λi hi=>Iq λe=>hn.2<|e▸hi) hn.1 (hW.blk _ _ last).1,hn.1⟩
  ·obtain ⟨q1,q2⟩:=hB j b h2
   exact ⟨BZ.KY (Iq h1) (λi hi=>Iq λe=>q2<|e▸hi) q1 (hW.blk j b<|old j b h2).1,q1⟩
 ·obtain ⟨q1,q2⟩:=hg p hp
  rw [CH];exact ⟨R.KY _ _ (λj hj=>Iq λe=>q2<|e▸hj) q1 (hW.gh p hp).1,q1⟩
theorem R4:∀ {l:List LV}{x:LV}{j:Nat},x∈l->j∈owns x->j∈ownsL l
 |y::ys,x,j,hx,hj=>by
  simp only [ownsL,Be];rcases B7.1 hx with rfl|h
  ·grind
  ·exact .inr<|R4 h hj
theorem cJ:∀ {l:List LV}{j:Nat},j∈ownsL l->∃x,x∈l/\j∈owns x
 |x::xs,j,h=>by
  simp only [ownsL,Be] at h;rcases h with h|h
  ·grind
  ·obtain ⟨y,h1,h2⟩:=cJ h;exact ⟨y,A8,h2⟩
 | [],j,h=>by simp [ownsL] at h
def Sr {x:Operand}{j:Nat}(h:j∈owns (AL G F x)):j∈ownsL F:=by
 cases x with
 |tmp t=>
  simp only [AL] at h;cases ht:F[t]? with
  |none=>simp [List.getD,ht,owns] at h
  |some y=>simp [List.getD,ht] at h;exact R4 (OS ht) h
 |const v=>simp only [AL] at h;split at h<;>simp [owns] at h
 |global g=>simp only [AL] at h;split at h<;>simp [owns] at h
 |func f=>simp [AL,owns,ownsL] at h
def aC0:∀(l:List Value),ownsL (l.map .v)=[]
 | []=>rfl
 |x::xs=>by simp [ownsL,owns,aC0 xs]
def mz {x:LV}{cs:List LV}(h:CJ x=ah cs):∀j,j∈ownsL cs->j∈owns x:=λj hj=>by
 unfold CJ at h;split at h
 ·split at h
  ·simp only [Ah] at h;subst h;rw [aC0] at hj;cases hj
  ·cases h
 ·split at h
  ·simp only [Ah] at h;subst h;simpa only [owns] using hj
  ·cases h
 ·cases h
 ·cases h
 ·simp only [Ah] at h;subst h;simpa [ownsL] using hj
theorem na {d:Option Tmp}{x:LV}{j:Nat}(h:j∈ownsL (At F d x)):j∈ownsL F\/j∈owns x:=by
 cases d with
 |none=>exact .inl h
 |some t=>
  obtain ⟨y,h1,h2⟩:=cJ h;rcases OQ h1 with e|e
  ·exact .inl<|R4 e h2
  ·grind
theorem aFQ {k:Nat}{o:Oper}{lv:LV}{H1:List AB}(h:(JA P G F H k o).all λq=>q=(lv,H1)):(∃cs t,lv=.own k 0/\H1=H.set k ⟨cs,t,.cl,X⟩/\(Aw P G Γ F H o).all (λq=>q=(.own (M H) 0,H++[⟨cs,t,.cl,X⟩]))/\∀j,j∈ownsL cs->j∈ownsL F)\/
  ∃(m n:Nat) (e:TypeId) (ty:Ty) (l:List ty.D),lv=.os k m 0 n/\H1=H.set k ⟨[],e,.vec ty l,X⟩/\(Aw P G Γ F H o).all (λq=>q=(.os (M H) m 0 n,H++[⟨[],e,.vec ty l,X⟩])):=by
 unfold JA at h;split at h
 ·rename_i t ho
  split at h
  ·rename_i z hz
   split at h
   ·rename_i cs hcs
    simp only [T.all,Ax] at h;refine .inl ⟨cs,t,h.1.symm,h.2.symm,?_,λj hj=>?_⟩
    ·unfold Aw;simp only [ho,hz,hcs,T.all]
    ·have:=mz hcs j hj;simp [owns] at this
   ·cases h
  ·cases h
 ·rename_i t x ho
  split at h
  ·rename_i cs hcs
   simp only [T.all,Ax] at h;refine .inl ⟨cs,t,h.1.symm,h.2.symm,?_,λj hj=>Sr<|mz hcs j hj⟩
   unfold Aw;simp only [ho,hcs,T.all]
  ·cases h
 ·rename_i t n c ho
  split at h
  ·rename_i e ty m F4 n' c' he hn hc
   split at h
   ·rename_i z hz
    split at h
    ·rename_i d hd
     split at h
     ·rename_i hsz
      simp only [T.all,Ax] at h;obtain ⟨h0,h1,h2⟩:=h;refine .inr ⟨m,n'.toNat,e,ty,aq n'.toNat d,h1.symm,h2.symm,?_⟩;unfold Aw;simp only [ho,U8,he,hn,hc,hz,hd,hsz,Bm,T.all]
      grind
     ·cases h
    ·cases h
   ·cases h
  ·cases h
 ·rename_i t len parts ho
  split at h
  ·rename_i hlen
   split at h
   ·rename_i hp
    split at h
    ·rename_i e ty m F4 he
     simp only [T.all,Ax] at h;refine .inr ⟨m,0,e,ty,[],h.1.symm,h.2.symm,?_⟩;unfold Aw;simp only [ho,hlen,hp,Bm,Wp,he,T.all]
    ·cases h
   ·cases h
  ·cases h
 ·cases h
structure SD (n0:Nat) (done:Nat->Prop) (R:List Nat) (g:Gh):Prop where
 f:∀j,j∈ownsL g.F->j<n0\/∃i,done i/\j=n0+i
 h:∀(k:Nat) (b:AB),g.H[k]? =ah b->∀j,j∈b.owns->j<n0\/∃i,done i/\j=n0+i
 dead:∀i,i∈R->¬done i/\∃b,g.H[n0+i]? =ah b
theorem aHQ (hΓ:∀g S,Γ g=ah S->Valid P G g S) {tr:List Nat}{g:Gh}{o:Oper}{lv:LV}{H1:List AB}{w':World}{done:Nat->Prop}{R':List Nat}{i:Nat}(hgh:∀p,p∈Z0.gh->okV (M H) p.1) (hI:SD (M H) done R' g) (hi:i∈R')
  (hst:CI G g.F tr (M H) o=U) {nb:AB} {lv0:LV} (hop:(Aw P G Γ g.F g.H o).all λq=>q=(lv0,g.H++[nb])) (hpn:nb.p=X) (hcs:∀j,j∈nb.owns->j∈ownsL g.F) (hlow:∀n m,okB n nb->(∀j,j∈nb.owns->j<m)->okB m nb)
  (hlv:∀β' Z' w'' v,R β' Z' w'' lv0 v->R (Kb β' (M H+i)<|M g.H) Z' w'' lv v) (hlo:∀n,M H+i<n->okV n lv) (hH1:H1=g.H.set (M H+i) nb) (hc:CY ds G w0 Z0 tr β H wr g w'):
  DU P (λv w''=>∃g':Gh,CY ds G w0 Z0 tr β H wr g' w''/\g'.F=At g.F o.dst lv/\g'.H=H1/\g'.a=g.a.put o.dst v) ((execOp g.a.eval o).run P w'):=by
 subst hH1;refine K3 (λv w'' ⟨Z',β',e1,e2,e3,e4,e5,e6,e7,e8⟩=>?_)<|cB hΓ hc.rw hc.rf hop
 obtain ⟨hnd,db,hdb⟩:=hI.dead i hi
 have fresh:∀j,(j<M H\/∃i',done i'/\j=M H+i')->j≠M H+i:=λj hj e=>by
  rcases hj with hj|⟨i',hd,e'⟩
  ·omega
  ·have:i'=i:=A0
   grind
 have hsz:=hc.near.size
 have hcl:∀j,j∈nb.owns->j<M g.H:=λj hj=>by
  obtain ⟨x,q1,q2⟩:=cJ<|hcs j hj;obtain ⟨t',q3⟩:=List.getElem?_of_mem q1;exact okV_owns x (hc.rf.get t' x q3).2 j q2
 have okcs:okB (M g.H) nb:=hlow _ _ (e1.blk (M g.H) nb AI).2 hcl
 have hMv:=e1.move (k:=M H+i) hdb hpn (λj b hj=>⟨(hc.rw.blk j b hj).2,λhm=>fresh _ (hI.h j b hj _ hm) rfl⟩) ⟨okcs,λhm=>fresh _ (hI.f _<|hcs _ hm) rfl⟩ λp hp=>⟨okV.mono hc.len _<|hgh p hp,λhm=>by have:=okV_owns _ (hgh p hp) _ hm;omega⟩
 have hF2:RF ds (Kb β' (M H+i)<|M g.H) Z' w'' (M<|g.H.set (M H+i) nb) g.F g.a:=by
  rw [CH];refine ⟨hc.rf.size,λt' x hx=>?_,e2.defers⟩
  have q:=hc.rf.get t' x hx
  exact ⟨R.KY x _ (λj hj=>Iq<|fresh j<|hI.f j<|R4 (OS hx) hj) q.2 (e2.get t' x hx).1,q.2⟩
 refine ⟨⟨Z',Kb β' (M H+i)<|M g.H,g.H.set (M H+i) nb,At g.F o.dst lv,g.a.put o.dst v⟩,?_,rfl,rfl,rfl⟩;refine ⟨hMv,hF2.put (hlv _ _ _ _ e3) (hlo _ A8) o.dst,⟨e8.os.trans hc.near.os,e8.tape.trans hc.near.tape,e8.output.trans hc.near.output,HZ hsz e8.size,λk hk hn=>?_⟩,A8,λk hk=>?_,λk h3 h4=>?_,λk b hb=>?_⟩
 ·exact aL5
 ·show Kb β' (M H+i) (M g.H) k=β k
  rw [Iq A0,e6 k<|ZD hk hc.len];exact hc.old k hk
 ·show wr.heap.size<=(Kb β' (M H+i) (M g.H) k).b\/(Kb β' (M H+i) (M g.H) k).b∈DN β H tr
  simp only [CH] at h4
  by_cases hkk:k=M H+i
  ·subst hkk
   rw [QG];rcases e7 (M g.H) (Ar _) AI with h|h
   ·exact .inl A0
   ·exact hc.touch hst h
  ·rw [Iq hkk,e6 k h4];exact hc.new k h3 h4
 ·have hkl:k<M H:=(Dv.1 hb).1
  obtain ⟨b',q1,q2⟩:=hc.Jo k b hb
  grind
theorem agC (hΓ:∀g S,Γ g=ah S->Valid P G g S) {tr:List Nat}{g:Gh}{o:Oper}{lv:LV}{H1:List AB}{w':World}{done:Nat->Prop}{R':List Nat}{i:Nat}(hgh:∀p,p∈Z0.gh->okV (M H) p.1) (hI:SD (M H) done R' g) (hi:i∈R')
  (hst:CI G g.F tr (M H) o=U) (h1:(JA P G g.F g.H (M H+i) o).all λq=>q=(lv,H1)) (hc:CY ds G w0 Z0 tr β H wr g w'):
  DU P (λv w''=>∃g':Gh,CY ds G w0 Z0 tr β H wr g' w''/\g'.F=At g.F o.dst lv/\g'.H=H1/\g'.a=g.a.put o.dst v) ((execOp g.a.eval o).run P w'):=by
 rcases aFQ (Γ:=Γ) h1 with ⟨cs,t,rfl,hH1,hop,hcs⟩ |⟨m,n,e,ty,l,rfl,hH1,hop⟩
 ·refine aHQ hΓ hgh hI hi hst hop rfl (λj hj=>?_) (λn m h1 h2=>⟨okL_lower cs h1.1 λj hj=>h2 j ?_,ak⟩) (λβ' Z' w'' v hr=>aNL) (λn hn=>hn) hH1 hc
  ·unfold AB.owns at hj
   grind
  ·unfold AB.owns
   simp only [GK];exact hj
 ·refine aHQ hΓ hgh hI hi hst hop rfl (λj hj=>?_) (λn m h1 h2=>⟨ak,ak⟩) (λβ' Z' w'' v hr=>aNL) (λn hn=>hn) hH1 hc
  unfold AB.owns at hj
  simp [ownsL] at hj
theorem afF {ops:Array Oper}{o:Oper}{d:Option Tmp}{y:LV}{k:Nat}(ha:ES o=U) (h:∀t,d=ah t->t∉o.looksAt ops):JA P G (At F d y) H k o=JA P G F H k o:=by
 have hl:=looks h
 unfold ES at ha;split at ha
 ·rename_i t ho
  unfold JA
  grind
 ·rename_i t x ho
  unfold JA;simp only [ho];exact kS
 ·rename_i t n c ho
  unfold JA;simp only [ho];rw [FV<|hl n FB,FV<|hl c FB]
 ·rename_i t len parts ho
  unfold JA
  grind
 ·cases ha
theorem anx {o:Oper}{k:Nat}(ha:ES o=U):∃(p:Prop) (lv:LV) (nb:AB),∀(H:List AB) (K:LV×List AB->Prop),(JA P G F H k o).all K↔(p/\K (lv,H.set k nb)):=by
 unfold ES at ha;split at ha
 ·rename_i t ho
  unfold JA;simp only [ho];split
  ·exact aL8
  ·exact Se
 ·rename_i t x ho
  unfold JA;simp only [ho];exact aL8
 ·rename_i t n c ho
  unfold JA;simp only [ho];split
  ·split
   ·split
    ·split
     ·exact ⟨_,_,_,λH K=>MI⟩
     ·exact Se
    ·exact Se
   ·exact Se
  ·exact Se
 ·rename_i t len parts ho
  unfold JA;simp only [ho];split
  ·split
   ·split
    ·rename_i e ty m F4 _
     exact ⟨True,.os k m 0 0,⟨[],e,.vec ty [],X⟩,λH K=>aO0⟩
    ·exact Se
   ·grind
  ·grind
 ·cases ha
def qx {o:Oper}(hm:J5 o=U):ES o=X/\Pb o=U/\∀G tr n0 (F:List LV),CI G F tr n0 o=true:=by
 unfold J5 at hm;split at hm
 ·rename_i x ho
  simp [ES,Pb,CI,Ea,ho]
 ·rename_i x ho
  simp [ES,Pb,CI,Ea,ho]
 ·rename_i t parts ho
  simp [ES,Pb,CI,Ea,ho]
 ·cases hm
theorem nk {ops:Array Oper}{o:Oper}{d:Option Tmp}{y:LV}{n0 i:Nat}(ha:(ES o ||J5 o)=U) (h:∀t,d=ah t->t∉o.looksAt ops):Hx P G Γ ops n0 i (At F d y) H o=Hx P G Γ ops n0 i F H o:=by
 rcases Sb.1 ha with ha|ha
 ·unfold Hx
  rw [AD ha,AD ha,afF ha h]
 ·obtain ⟨h1,h2,_⟩:=qx ha
  have hl:=looks h
  unfold Hx;rw [h1,h2];unfold J5 at ha;split at ha
  ·exact aM6
  ·exact aM6
  ·rename_i t parts ho
   have e:(parts.toList.map λq=>(q.1,Hh G (At F d y) q.2))=parts.toList.map λq=>(q.1,Hh G F q.2):=JO λq hq=>by
    exact aL4
   unfold Aw;simp only [ho,e];rfl
  ·cases ha
def putAt (k:Nat) (nb:Option AB) (H:List AB):List AB:=
 match nb with
 |some b=>H.set k b
 |none=>H
def aen {i j:Nat}{a b:Option AB}{H:List AB}(h:i≠j):putAt i a (putAt j b H)=putAt j b (putAt i a H):=by
 cases a<;>cases b<;>simp only [putAt]
 exact List.set_comm _ _<|OZ h
theorem oN {ops:Array Oper}{o:Oper}{n0 i:Nat}(ha:(ES o ||J5 o)=U):∃(p:Prop) (lv:LV) (nb:Option AB),∀(H:List AB) (K:LV×List AB->Prop),(Hx P G Γ ops n0 i F H o).all K↔(p/\K (lv,putAt (n0+i) nb H)):=by
 rcases Sb.1 ha with ha|ha
 ·obtain ⟨p,lv,nb,h⟩:=anx (P:=P) (G:=G) (F:=F) (k:=n0+i) ha
  refine ⟨p,lv,ah nb,λH K=>?_⟩
  unfold Hx;rw [AD ha];exact h H K
 ·obtain ⟨h1,h2,_⟩:=qx ha
  unfold J5 at ha;split at ha
  ·exact aLu
  ·exact aLu
  ·rename_i t parts ho
   have key:∀l:List<|Nat×LV,(∃y,NZ P t l=.ok y)\/NZ P t l=.no:=λl=>by
    unfold NZ;split
    ·split
     ·grind
     ·exact .inr rfl
    ·grind
   rcases key (parts.toList.map λq=>(q.1,Hh G F q.2)) with ⟨y,hy⟩ |hy
   ·refine ⟨True,y,aj,λH K=>?_⟩
    unfold Hx Aw;rw [h1,h2]
    simp [ho,hy,T.bind,T.all,putAt]
   ·refine ⟨False,.junk,aj,λH K=>?_⟩
    unfold Hx Aw;rw [h1,h2]
    simp [ho,hy,T.bind,T.all]
  ·cases ha
def dD {o:Oper}{tr:List Nat}{n0:Nat}(ha:(ES o ||J5 o)=U) (F:List LV):CI G F tr n0 o=true:=by
 rcases Sb.1 ha with ha|ha
 ·exact aC7<|.inl ha
 ·exact (qx ha).2.2 G tr n0 F
def ahg {o:Oper}(h:Lm o=U):ES o=X/\Pb o=false:=by
 unfold Lm at h;split at h
 ·rename_i args tys ho
  simp [ES,Pb,ho]
 ·cases h
theorem aHe {ops:Array Oper}{o:Oper}{d:Option Tmp}{y:LV}(hh:Lm o=U) (h:∀t,d=ah t->t∉o.looksAt ops):
  Aw P G Γ (At F d y) H o=Aw P G Γ F H o/\(∀tr n0,CI G (At F d y) tr n0 o=CI G F tr n0 o)/\∀n0 H,Lc G ops n0 (At F d y) H o=Lc G ops n0 F H o:=by
 have hl:=looks h
 unfold Lm at hh;split at hh
 ·rename_i args tys ho
  have e:args.toList.map (AL G<|At F d y)=args.toList.map (AL G F):=JO λx hx=>FV<|hl x Zo
  refine ⟨?_,λtr n0=>?_,λn0 H=>?_⟩
  ·unfold Aw
   exact Sl
  ·unfold CI Ea
   exact Sl
  ·unfold Lc
   exact Sl
 ·cases hh
theorem adY {t tx:TypeId} {k es off n:Nat} {e0:Ty} {q0:List e0.D}:∃f:Option AB->Option (Prop×Nat×Nat×TypeId×AB),(∀b p m n' e nb,f b=ah (p,m,n',e,nb)->nb.owns=[])/\(f aj=aj)/\
  ∀(H:List AB) (K:LV×List AB->Prop),(LF P H t tx (.os k es off n)<|.xl e0 q0).all K↔match f H[k]? with
   |some (p,m,n',e,nb)=>p/\K (.os (M H) m 0 n',H.set k ⟨[],e,.dead,X⟩++[nb])
   |none=>False:=by
 have bad:∀ {g:List AB->T (LV×List AB)},(∀H,g H=.no)->∃f:Option AB->Option (Prop×Nat×Nat×TypeId×AB),(∀b p m n' e nb,f b=ah (p,m,n',e,nb)->nb.owns=[])/\(f aj=aj)/\
   ∀(H:List AB) (K:LV×List AB->Prop),(g H).all K↔match f H[k]? with
    |some (p,m,n',e,nb)=>p/\K (.os (M H) m 0 n',H.set k ⟨[],e,.dead,X⟩++[nb])
    |none=>False:=λhg=>⟨λ_=>aj,(λ_ _ _ _ _ _ h=>Ao),rfl,λH K=>by rw [hg];simp [T.all]⟩
 unfold LF;cases he:PI P t with
 |none=>exact bad λH=>rfl
 | some q=>
  obtain ⟨e,ty,m,F4⟩:=q;simp only;split
  ·rename_i z _ _
   by_cases hz:z.cells.size=m
   ·simp only [AD hz]
    have hs:∀H:List AB,FF H ty (.xl e0 q0)=(match N0 ty (.xl e0 q0) with|some l=> .ok l|none=> .no):=λH=>rfl
    cases hd:N0 ty (.xl e0 q0) with
    |none=>exact bad λH=>by rw [hs,hd];rfl
    | some q=>
     refine ⟨λob=>match ob with
      |some ⟨_,bt,.vec e' l,X⟩=>match Jf e' ty with
       |some ⟨h⟩=>if es=m/\bt=e then ah (off+n=M l/\((n+M q:Nat):Int)*F4<=2^47/\((n+M q:Nat):Int)<2^62,m,n+M q,e,⟨[],e,.vec ty<|KX h (l.drop off)++q,X⟩) else aj
       |none=>aj
      |_=>aj,λb p m' n' e' nb hf=>?_,rfl,λH K=>?_⟩
     ·simp only at hf
      split at hf
      ·split at hf
       ·split at hf
        ·simp only [Ah,Ax] at hf
         rw [<-hf.2.2.2.2];rfl
        ·cases hf
       ·cases hf
      ·cases hf
     ·rw [hs,hd]
      simp only [T.bind];split
      ·rename_i hb
       simp only [hb];split
       ·rename_i ht
        simp only [ht];split
        ·simp only [T.all]
        ·simp [T.all]
       ·rename_i ht
        simp only [ht]
        simp [T.all]
      ·rename_i hb
       split
       ·rename_i hf
        exfalso;split at hf
        ·rename_i h1
         grind
        ·cases hf
       ·simp [T.all]
   ·simp_all
  ·simp_all
def aCQ {ops:Array Oper} {n0:Nat} {o:Oper} (h:Lc G ops n0 F H o=U):∃d k es off n,∃e0:Ty,∃q0:List e0.D,∃t tx,apD ops o=ah d/\n0+ops.size<=M H/\k=n0+d/\(∀tr,CI G F tr n0 o=U)/\((∀H':List AB,Aw P G Γ F H' o=LF P H' t tx (.os k es off n) (.xl e0 q0))\/∀H':List AB,Aw P G Γ F H' o=.no):=by
 unfold Lc at h;split at h
 ·rename_i args tys ho
  split at h
  ·rename_i d hd
   simp only [AY,Ac] at h;obtain ⟨h1,h2⟩:=h;cases hm:args.toList.map (AL G F) with
   |nil=>rw [hm] at h2;simp [apK] at h2
   | cons a l=>
    cases l with
    |nil=>rw [hm] at h2;cases a<;>simp [apK] at h2
    | cons b l=>
     cases l with
     |cons c l=>rw [hm] at h2;cases a<;>cases b<;>simp [apK] at h2
     | nil=>
      rw [hm] at h2;cases a with
      | os k es off n=>
       cases b with
       | xl e0 q0=>
        simp only [apK,Cz] at h2
        have hok:∀tr,CI G F tr n0 o=true:=λtr=>by
         unfold CI Ea;simp only [ho,hm,owns,Ic,List.all_nil,k6,Ck,Ac];omega
        cases ht:tys.toList with
        |nil=>exact ⟨d,k,es,off,n,e0,q0,0,0,hd,h1,h2,hok,.inr λH'=>lA⟩
        | cons t1 l=>cases l with
         |nil=>exact ⟨d,k,es,off,n,e0,q0,0,0,hd,h1,h2,hok,.inr λH'=>lA⟩
         |cons t2 l=>cases l with
          |nil=>exact ⟨d,k,es,off,n,e0,q0,t1,t2,hd,h1,h2,hok,.inl λH'=>lA⟩
          |cons _ _=>exact ⟨d,k,es,off,n,e0,q0,0,0,hd,h1,h2,hok,.inr λH'=>lA⟩
       |_=>simp [apK] at h2
      |_=>simp [apK] at h2
  ·cases h
 ·cases h
def ae9 {k:Nat}{nb:Option AB}{H:List AB}:M (putAt k nb H)=M H:=by cases nb<;>simp [putAt]
theorem aRl {ops:Array Oper}{n0 j:Nat}{nb:Option AB}{o:Oper}(h:Lc G ops n0 F H o=U) (hj:apD ops o≠ah j) (hlt:j<ops.size) (K:LV×List AB->Prop):
  (Aw P G Γ F (putAt (n0+j) nb H) o).all K↔(Aw P G Γ F H o).all (λq=>K (q.1,putAt (n0+j) nb q.2)):=by
 obtain ⟨d,k,es,off,n,e0,q0,t,tx,hd,hl,hk,_,ho⟩:=aCQ (P:=P) (Γ:=Γ) h
 have hkj:k≠n0+j:=by
  rintro e
  grind
 cases nb with
 |none=>exact Iff.rfl
 | some b=>
  have e1:(H.set (n0+j) b)[k]? =H[k]? :=ZL<|OZ hkj
  obtain ⟨f,_,_,hf⟩:=adY (P:=P) (t:=t) (tx:=tx) (k:=k) (es:=es) (off:=off) (n:=n) (e0:=e0) (q0:=q0)
  have key:(LF P (putAt (n0+j) (ah b) H) t tx (.os k es off n)<|.xl e0 q0).all K↔(LF P H t tx (.os k es off n)<|.xl e0 q0).all (λq=>K (q.1,putAt (n0+j) (ah b) q.2)):=by
   rw [hf,hf];simp only [putAt,e1,CH];split
   ·rename_i e nb' _
    rw [List.set_comm _ _ hkj.symm,<-List.set_append_left _ _ A8]
   ·grind
  rcases ho with hb|hb
  ·grind
  ·rw [hb,hb];simp [T.all]
def aRm {ops:Array Oper}{n0:Nat}{nb:Option AB}{j:Nat}{o:Oper}:Lc G ops n0 F (putAt j nb H) o=Lc G ops n0 F H o:=by
 unfold Lc;rw [ae9]
theorem an5 {ops:Array Oper}{tr:List Nat}{n0:Nat}{i j:Nat}{is:List Nat}{K:List LV×List AB->Prop}(hc:gr ops i j=U) (h:(Fw P G Γ ops tr n0 (j::i::is) F H).all K):(Fw P G Γ ops tr n0 (i::j::is) F H).all K:=by
 unfold gr at hc;split at hc
 ·rename_i x y hx hy
  simp only [AY,Ck,Cs,CN] at hc;obtain ⟨⟨⟨⟨hne,g1⟩,g2⟩,g3⟩,hap⟩:=hc;obtain ⟨a1,a2,a3⟩:=ZW hap
  have hij:n0+j≠n0+i:=A0
  have step:∀(k:Nat) (o:Oper) (l:List Nat) (F:List LV) (H:List AB),ops[k]? =ah o->o.guard.isNone=U->((Fw P G Γ ops tr n0 (k::l) F H).all K↔(CI G F tr n0 o=U/\(Hx P G Γ ops n0 k F H o).all (λq=>(Fw P G Γ ops tr n0 l (At F o.dst q.1) q.2).all K))):=λk o l F H hk hg=>by
   simp only [Fw,hk,hg,EA]
   by_cases hs:CI G F tr n0 o=U
   ·rw [AD hs,T.all_bind];exact ⟨λh=>⟨hs,h⟩,λh=>h.2⟩
   ·exact aMQ
  have ap:∀(k:Nat) (o:Oper) (F:List LV) (H:List AB) (K:LV×List AB->Prop),Lm o=U->((Hx P G Γ ops n0 k F H o).all K↔(Lc G ops n0 F H o=U/\(Aw P G Γ F H o).all K)):=λk o F H K ha=>by
   obtain ⟨q1,q2⟩:=ahg ha;unfold Hx;rw [q1,q2]
   by_cases hs:Lc G ops n0 F H o=U
   ·grind
   ·exact aMQ
  have hil:i<ops.size:=(HX.1 hx).1
  have hjl:j<ops.size:=(HX.1 hy).1
  rw [step j y _ F H hy g2] at h;rw [step i x _ F H hx g1];obtain ⟨_,h⟩:=h
  have st1:∀(F:List LV) (H:List AB),((Fw P G Γ ops tr n0 (i::is) F H).all K↔_):=λF H=>step i x is F H hx g1
  have st2:∀(F:List LV) (H:List AB),((Fw P G Γ ops tr n0 (j::is) F H).all K↔_):=λF H=>step j y is F H hy g2
  simp only [st1] at h;simp only [st2];rcases g3 with (⟨g3,g4⟩ |⟨g3,g4,g5⟩) |⟨⟨g3,g5⟩,g4⟩
  ·have g3':(ES x ||J5 x)=true:=by simpa using g3
   have g4':(ES y ||J5 y)=true:=by simpa using g4
   obtain ⟨px,lx,nx,ex⟩:=oN (P:=P) (G:=G) (Γ:=Γ) (ops:=ops) (F:=F) (n0:=n0) (i:=i) g3';obtain ⟨py,ly,ny,ey⟩:=oN (P:=P) (G:=G) (Γ:=Γ) (ops:=ops) (F:=F) (n0:=n0) (i:=j) g4';rw [ey] at h;obtain ⟨h1,_,h2⟩:=h;rw [nk g3' a3,ex] at h2;refine ⟨dD g3' F,?_⟩;rw [ex];refine ⟨h2.1,dD g4' _,?_⟩;rw [nk g4' a1,ey];refine ⟨h1,?_⟩;rw [L7 a2,aen hij];exact h2.2
  ·have g3':(ES x ||J5 x)=true:=by simpa using g3
   obtain ⟨px,lx,nx,ex⟩:=oN (P:=P) (G:=G) (Γ:=Γ) (ops:=ops) (F:=F) (n0:=n0) (i:=i) g3';rw [ap j y F H _ g4] at h;obtain ⟨h1,h2⟩:=h
   have h2:(Aw P G Γ F H y).all (λq=>px/\(Fw P G Γ ops tr n0 is (At (At F y.dst q.1) x.dst lx)<|putAt (n0+i) nx q.2).all K):=T.BY (λq hq=>by
    have:=hq.2
    rw [nk g3' a3,ex] at this;exact this) h2
   have hp:px:=T.Sy<|T.BY (λq hq=>hq.1) h2
   refine ⟨dD g3' F,?_⟩;rw [ex];refine ⟨hp,?_⟩;simp only;obtain ⟨b1,b2,b3⟩:=aHe (P:=P) (G:=G) (Γ:=Γ) (F:=F) (H:=putAt (n0+i) nx H) (d:=x.dst) (y:=lx) g4 a1;refine ⟨A8,?_⟩;rw [ap j y _ _ _ g4,b3,aRm,b1,aRl h1 g5 hil];refine ⟨h1,T.BY (λq hq=>?_) h2⟩
   simp only;rw [L7 a2];exact hq.2
  ·have g4':(ES y ||J5 y)=true:=by simpa using g4
   obtain ⟨py,ly,ny,ey⟩:=oN (P:=P) (G:=G) (Γ:=Γ) (ops:=ops) (F:=F) (n0:=n0) (i:=j) g4';rw [ey] at h;obtain ⟨h1,_,h2⟩:=h;obtain ⟨b1,b2,b3⟩:=aHe (P:=P) (G:=G) (Γ:=Γ) (F:=F) (H:=putAt (n0+j) ny H) (d:=y.dst) (y:=ly) g3 a3;rw [ap i x _ _ _ g3,b3,aRm,b1] at h2;obtain ⟨h2,h3⟩:=h2;rw [aRl h2 g5 hjl] at h3;obtain ⟨_,_,_,_,_,_,_,_,_,_,_,_,hok,_⟩:=aCQ (P:=P) (Γ:=Γ) h2;refine ⟨hok tr,?_⟩;rw [ap i x _ _ _ g3];refine ⟨h2,T.BY (λq hq=>⟨dD g4' _,?_⟩) h3⟩
   rw [nk g4' a1,ey];refine ⟨h1,?_⟩;rw [L7 a2];exact hq
 ·cases hc
def an6 {ops:Array Oper}{tr:List Nat}{n0:Nat}{j:Nat}{R R':List Nat}{K:List LV×List AB->Prop}(hh:∀(F:List LV) (H:List AB),(Fw P G Γ ops tr n0 R F H).all K->(Fw P G Γ ops tr n0 R' F H).all K) (h:(Fw P G Γ ops tr n0 (j::R) F H).all K):(Fw P G Γ ops tr n0 (j::R') F H).all K:=by
 simp only [Fw] at h|-;exact xU
theorem aDg {ops:Array Oper}{tr:List Nat}{n0:Nat}{i:Nat}{K:List LV×List AB->Prop}:∀(R:List Nat) (F:List LV) (H:List AB),i∈R->(Fg i R).all (λj=>gr ops i j)=U->(Fw P G Γ ops tr n0 R F H).all K->(Fw P G Γ ops tr n0 (i::R.erase i) F H).all K
 | [],_,_,hi,_,_=>lU
 | j::R,F,H,hi,hb,h=>by
  by_cases hj:j=i
  ·subst hj
   grind
  ·have hi':i∈R:=by
    exact xm
   simp only [Fg,AE hj,Ic,AY] at hb;rw [V3 A8];exact an5 hb.1<|an6 (λF H h=>aDg R F H hi' hb.2 h) h
theorem adW {i:Nat}:∀ {R:List Nat},P3 R=U->∀i'∈R.erase i,i'≠i
 | [],_,_,h=>A8
 | k::R,hn,i',h=>by
  simp only [P3,AY,Cs] at hn
  by_cases hk:k=i
  ·subst hk
   simp only [List.erase_cons_head] at h
   rintro rfl
   have:i'∉R:=A8
   exact this h
  ·rw [V3 A8] at h
   rcases B7.1 h with rfl|h
   ·exact hk
   ·exact adW hn.2 i' h
theorem aD6 {i:Nat}:∀ {R:List Nat},P3 R=U->P3 (R.erase i)=U
 | [],_=>A8
 | k::R,hn=>by
  simp only [P3,AY,Cs] at hn
  by_cases hk:k=i
  ·grind
  ·rw [V3 A8]
   simp only [P3,AY,Cs];refine ⟨?_,aD6 hn.2⟩
   grind
def adf {l cs:List LV}{off:Nat}{j:Nat}(h:j∈ownsL (setAt l off cs)):j∈ownsL l\/j∈ownsL cs:=by
 obtain ⟨x,h1,h2⟩:=cJ h;rcases Be.1 h1 with h1|h1
 ·rcases Be.1 h1 with h1|h1
  ·exact .inl<|R4 (V4 h1) h2
  ·exact .inr<|R4 h1 h2
 ·exact .inl<|R4 (Pu h1) h2
def aeM {t:TypeId}{x y:LV}{H1:List AB}(h:(TS P H t x y).all λq=>q=H1):∃(k:Nat) (b nb:AB),H[k]? =ah b/\H1=H.set k nb/\∀j,j∈nb.owns->j∈b.owns\/j∈owns y:=by
 unfold TS at h;split at h
 ·rename_i n cs hn hcs
  split at h
  ·rename_i k off
   split at h
   ·rename_i b hb
    split at h
    ·rename_i hc
     refine ⟨k,b,_,hb,h.symm,λj hj=>?_⟩
     have hcl:b.k=.cl:=by
      have:=hc.1
      unfold AB.Dl at this;split at this
      ·assumption
      ·cases this
     unfold AB.owns at hj|-;simp only [hcl,GK] at hj|-;rcases adf hj with h|h
     ·exact .inl h
     ·exact .inr<|mz hcs j h
    ·cases h
   ·cases h
  ·rename_i k es i j
   split at h
   ·rename_i bt e l hb
    split at h
    ·simp only [T.all] at h
     obtain ⟨_,h⟩:=h;split at h
     ·simp only [T.all] at h
      refine ⟨k,_,_,hb,h.symm,λj hj=>?_⟩
      unfold AB.owns at hj
      simp [ownsL] at hj
     ·cases h
    ·cases h
   ·cases h
  ·cases h
 ·cases h
def aDT {x:LV}:owns (norm x)=owns x:=by cases x<;>simp [norm,owns]
def aDC:∀(l:List LV),ownsL (l.map norm)=ownsL l
 | []=>rfl
 |x::xs=>by simp only [E9,ownsL,aDT,aDC xs]
def aeo {l:List LV}{j:Nat}(h:j∈owns (Jc l)):j∈ownsL l:=by
 unfold Jc at h;split at h
 ·simp [owns] at h
 ·simp only [owns,aDC] at h;exact h
theorem aDP {place:Nat->Option (Nat×Nat)}:∀(parts:List<|Nat×LV) (cells cs:List LV),KV place cells parts=ah cs->∀j,j∈ownsL cs->j∈ownsL cells\/∃q,q∈parts/\j∈owns q.2
 | [],cells,cs,h,j,hj=>by simp only [KV,Ah] at h;subst h;exact .inl hj
 | (i,x)::rest,cells,cs,h,j,hj=>by
  simp only [KV] at h;split at h
  ·rename_i off size c hp hc
   split at h
   ·rcases aDP rest _ cs h j hj with h1|⟨q,q1,q2⟩
    ·rcases adf h1 with h2|h2
     ·grind
     ·exact .inr ⟨(i,x),AI,mz hc j h2⟩
    ·grind
   ·cases h
  ·cases h
def aeO {t:TypeId}{parts:List<|Nat×LV}{lv:LV}(h:(NZ P t parts).all λz=>z=lv) (j:Nat) (hj:j∈owns lv):∃q,q∈parts/\j∈owns q.2:=by
 unfold NZ at h;split at h
 ·split at h
  ·rename_i z pf _ _ cs hcs
   have hj':j∈ownsL cs:=by
    rw [<-h] at hj;split at hj
    ·exact hj
    ·exact aeo hj
   rcases aDP parts _ cs hcs j hj' with h1|h1
   ·rw [aC0] at h1;cases h1
   ·exact h1
  ·cases h
 ·cases h
def aew {x:Operand}{j:Nat}(h:j∈owns (Hh G F x)):j∈ownsL F:=by
 cases x with
 |const v=>simp only [Hh,aDT] at h;exact Sr h
 |tmp t=>exact Sr (G:=G) (x:=.tmp t) h
 |global g=>exact Sr (G:=G) (x:=.global g) h
 |func f=>exact Sr (G:=G) (x:=.func f) h
theorem anG {ops:Array Oper} {n0:Nat} {done:Nat->Prop} {R:List Nat} {g g':Gh} {o:Oper} {i:Nat} {lv:LV} {H1:List AB} (hI:SD n0 done R g) (hnd:∀i'∈R.erase i,i'≠i) (hs:(Hx P G Γ ops n0 i g.F g.H o).all λq=>q=(lv,H1)) (eF:g'.F=At g.F o.dst lv) (eH:g'.H=H1):∃done',SD n0 done' (R.erase i) g':=by
 have up:∀j,(j<n0\/∃i',done i'/\j=n0+i')->j<n0\/∃i',(done i'\/i'=i)/\j=n0+i':=λj h=>by
  rcases h with h|⟨i',h1,h2⟩
  ·exact .inl h
  ·exact xz
 unfold Hx at hs;split at hs
 ·refine ⟨λi'=>done i'\/i'=i,?_⟩
  have al:∀nb:AB,owns lv=[n0+i]->H1=g.H.set (n0+i) nb->(∀j,j∈nb.owns->j∈ownsL g.F)->SD n0 (λi'=>done i'\/i'=i) (R.erase i) g':=λnb ho hH1 hcs=>by
   subst hH1;refine ⟨λj hj=>?_,λk b hb j hj=>?_,λi' hi'=>?_⟩
   ·rw [eF] at hj
    rcases na hj with h|h
    ·exact up j<|hI.f j h
    ·grind
   ·rw [eH,I7] at hb
    split at hb
    ·split at hb
     ·simp only [Ah] at hb
      subst hb;exact up j<|hI.f j<|hcs j hj
     ·cases hb
    ·exact up j<|hI.h k b hb j hj
   ·obtain ⟨h1,b,h2⟩:=hI.dead i' (Pt hi')
    refine ⟨λh=>h.elim h1<|hnd i' hi',b,?_⟩
    grind
  rcases aFQ (Γ:=Γ) hs with ⟨cs,t,rfl,hH1,_,hcs⟩ |⟨m,n,e,ty,l,rfl,hH1,_⟩
  ·exact al _ rfl hH1 (λj hj=>by
    unfold AB.owns at hj;simp only [GK] at hj;exact hcs j hj)
  ·exact al _ rfl hH1 (λj hj=>by
    unfold AB.owns at hj
    simp [ownsL] at hj)
 ·split at hs
  ·rename_i hst
   refine ⟨λi'=>done i'\/i'=i,?_⟩
   have other:∀(x:LV),lv=x->H1=g.H->(∀j,j∈owns x->j∈ownsL g.F)->SD n0 (λi'=>done i'\/i'=i) (R.erase i) g':=λx e1 e2 e3=>by
    subst e1 e2;refine ⟨λj hj=>?_,λk b hb j hj=>?_,λi' hi'=>?_⟩
    ·rw [eF] at hj
     rcases na hj with h|h
     ·exact up j<|hI.f j h
     ·exact up j<|hI.f j<|e3 j h
    ·rw [eH] at hb;exact up j<|hI.h k b hb j hj
    ·obtain ⟨h1,b,h2⟩:=hI.dead i' (Pt hi')
     grind
   unfold Pb at hst;split at hst
   ·rename_i t x y ho
    unfold Aw at hs;simp only [ho] at hs;obtain ⟨H2,h1,h2⟩:=T.B4 hs;obtain ⟨rfl,rfl⟩:=h2;obtain ⟨k,b,nb,q1,q2,q3⟩:=aeM h1;subst q2;refine ⟨λj hj=>?_,λk' b' hb j hj=>?_,λi' hi'=>?_⟩
    ·rw [eF] at hj
     rcases na hj with h|h
     ·exact up j<|hI.f j h
     ·simp [owns] at h
    ·rw [eH,I7] at hb
     split at hb
     ·split at hb
      ·simp only [Ah] at hb
       subst hb;rcases q3 j hj with h|h
       ·exact up j<|hI.h k b q1 j h
       ·exact up j<|hI.f j<|Sr h
      ·cases hb
     ·exact up j<|hI.h k' b' hb j hj
    ·obtain ⟨h1,b0,h2⟩:=hI.dead i' (Pt hi')
     refine ⟨λh=>h.elim h1<|hnd i' hi',?_⟩
     rw [eH]
     grind
   ·exact aKn
   ·exact aKn
   ·rename_i t parts ho
    unfold Aw at hs;simp only [ho] at hs;obtain ⟨y,h1,h2⟩:=T.B4 hs;simp only [T.all,Ax] at h2;refine other _ h2.1.symm h2.2.symm λj hj=>?_
    obtain ⟨q,q1,q2⟩:=aeO h1 j hj;obtain ⟨q0,_,rfl⟩:=Ej.1 q1;exact aew q2
   ·cases hst
  ·split at hs
   ·rename_i hap
    obtain ⟨d,k,es,off,n,e0,q0,t,tx,_,hl,_,_,ho⟩:=aCQ (P:=P) (Γ:=Γ) hap;rcases ho with ho|ho
    ·obtain ⟨f,f1,_,hf⟩:=adY (P:=P) (t:=t) (tx:=tx) (k:=k) (es:=es) (off:=off) (n:=n) (e0:=e0) (q0:=q0)
     rw [ho,hf] at hs;split at hs
     ·rename_i p m n' e nb he
      obtain ⟨_,hs⟩:=hs;simp only [Ax] at hs;obtain ⟨rfl,hH⟩:=hs
      have hnb:=f1 _ _ _ _ _ _ he
      refine ⟨λi'=>(done i'\/i'=i)\/i'=M g.H-n0,λj hj=>?_,λk' b hb j hj=>?_,λi' hi'=>?_⟩
      ·rw [eF] at hj
       rcases na hj with h|h
       ·rcases up j (hI.f j h) with h|⟨i',h1,h2⟩
        ·exact .inl h
        ·exact xz
       ·simp only [owns,HY] at h
        grind
      ·rw [eH,<-hH] at hb
       by_cases hk:k'<M g.H
       ·rw [HW (by rw [CH];exact hk),I7] at hb
        split at hb
        ·split at hb
         ·simp only [Ah] at hb
          subst hb
          simp [AB.owns,ownsL] at hj
         ·cases hb
        ·rcases up j (hI.h k' b hb j hj) with h|⟨i',h1,h2⟩
         ·exact .inl h
         ·exact xz
       ·rw [GL (by rw [CH];omega)] at hb
        have:b=nb:=by
         cases hq:k'-M (g.H.set k ⟨[],e,.dead,X⟩) with
         |zero=>rw [hq] at hb;simpa using hb.symm
         |succ z=>rw [hq] at hb;simp at hb
        subst this;rw [hnb] at hj;cases hj
      ·obtain ⟨h1,b,h2⟩:=hI.dead i' (Pt hi')
       have hlt:=(Dv.1 h2).1
       refine ⟨λh=>h.elim (λh=>h.elim h1<|hnd i' hi') λh=>A0,?_⟩
       rw [eH,<-hH]
       grind
     ·exact hs.elim
    ·rw [ho] at hs
     cases hs
   ·cases hs
theorem aDs (hΓ:∀g S,Γ g=ah S->Valid P G g S) {ops:Array Oper}{tr:List Nat}{D:World->Prop}{sp:Nat->Bool}{Q:Act->Gh->Prop}{F':List LV}{H':List AB}(hgh:∀p,p∈Z0.gh->okV (M H) p.1)
  (hQ:∀g:Gh,g.F=F'->g.H=H'->Q g.a g):∀(n:Nat) (R:List Nat) (listed:Array Bool) (g:Gh) (done:Nat->Prop),P3 R=U->SD (M H) done R g->(∀i∈R,sp i=U)->aN ops n R listed=U->
   (Fw P G Γ ops tr (M H) R g.F g.H).all (λq=>q=(F',H'))->KH P .any ops D (CY ds G w0 Z0 tr β H wr) sp Q n listed g.a g
 |0,R,listed,g,_,_,_,_,hB,h=>by
  simp only [aN,AY,ZT] at hB;obtain ⟨rfl,h2⟩:=hB;simp only [Fw,T.all,Ax] at h;exact ⟨h2,hQ g h.1 h.2⟩
 | n + 1,R,listed,g,done,hnd,hI,hs,hB,h=>by
  simp only [aN,AY,BP,Cs,ju] at hB;obtain ⟨hne,hall⟩:=hB;refine ⟨λh0=>absurd h0 hne,λi hi=>?_⟩
  obtain ⟨⟨hR,hbef⟩,hrest⟩:=hall i hi
  have hiR:i∈R:=A8
  have hf:=aDg R g.F g.H hiR A8 h
  simp only [Fw] at hf;split at hf
  ·rename_i o ho
   split at hf
   ·rename_i hgs
    simp only [AY,ZF] at hgs;obtain ⟨hgd,hst⟩:=hgs
    have hw:az o (yielded ops g.a.tmps)=true:=yP
    unfold Ds;simp only [ho,hw,Bm,hs i hiR];obtain ⟨⟨lv,H1⟩,h1,h2⟩:=T.B4 hf
    have hne2:∀i'∈R.erase i,i'≠i:=adW hnd
    intro w' hc
    have goal:DU P (λv w''=>∃g':Gh,CY ds G w0 Z0 tr β H wr g' w''/\g'.F=At g.F o.dst lv/\g'.H=H1/\g'.a=g.a.put o.dst v) ((execOp g.a.eval o).run P w'):=by
     unfold Hx at h1;split at h1
     ·exact agC hΓ hgh hI hiR hst h1 hc
     ·split at h1
      ·exact cR hΓ hst h1 hc
      ·split at h1
       ·exact cR hΓ hst h1 hc
       ·cases h1
    refine K3 (λv w'' ⟨g',e1,e2,e3,e4⟩=>⟨g',e1,?_⟩) goal
    rw [<-e4];obtain ⟨done',hI'⟩:=anG hI hne2 h1 e2 e3;refine aDs hΓ hgh hQ n (R.erase i) _ g' done' (aD6 hnd) hI' (λj hj=>hs j<|Pt hj) hrest ?_
    rwa [e2,e3]
   ·cases hf
  ·cases hf
theorem RW.acE {βd:Nat->Loc}{m:Nat}(hW:RW G w0 Z0 Z β H w) (hd:∀k,k<M H->βd k=β k):RW G w0 Z0 Z βd (H++aq m G3) w:=by
 have old:∀(k:Nat) (b:AB),(H++aq m G3)[k]? =ah b->(k<M H/\H[k]? =ah b)\/b=G3:=λk b hb=>by
  by_cases h0:k<M H
  ·grind
  ·rw [GL A0,ZI] at hb
   split at hb
   ·grind
   ·cases hb
 have nl:∀k,¬live βd k G3:=λk h=>by simp [live,G3] at h
 refine ⟨hW.below,hW.Bb,hW.EX,λk b hk hl hp=>?_,λk b hk hl hp=>?_,λk b hk hl=>?_,λi j bi bj hi hj li lj pi e=>?_,λk b hk=>?_,hW.CW,λp hp=>⟨R.mono hd (λ_ h=>h) (λ_ _=>rfl) _ _ (hW.gh p hp).2 (hW.gh p hp).1,okV.mono AI _ (hW.gh p hp).2⟩,hW.Ci⟩
 ·rcases old k b hk with ⟨h1,h2⟩ |rfl
  ·rw [hd k h1];rw [KC<|hd k h1] at hl;exact hW.Cf k b h2 hl hp
  ·grind
 ·rcases old k b hk with ⟨h1,h2⟩ |rfl
  ·rw [hd k h1];rw [KC<|hd k h1] at hl;exact hW.G6 k b h2 hl hp
  ·grind
 ·rcases old k b hk with ⟨h1,h2⟩ |rfl
  ·rw [hd k h1];rw [KC<|hd k h1] at hl;exact hW.low k b h2 hl
  ·grind
 ·rcases old i bi hi with ⟨h1,h2⟩ |rfl
  ·rcases old j bj hj with ⟨g1,g2⟩ |rfl
   ·rw [KC<|hd i h1] at li;rw [KC<|hd j g1] at lj;rw [hd i h1,hd j g1] at e
    exact hW.inj i j bi bj h2 g2 li lj pi e
   ·grind
  ·grind
 ·rcases old k b hk with ⟨h1,h2⟩ |rfl
  ·obtain ⟨g1,g2⟩:=hW.blk k b h2
   exact ⟨g1.keep hd (λ_ h=>h) (λ_ _=>rfl) (hd k h1) (λ_=>rfl) g2,g2.mono AI⟩
  ·exact ⟨by simp [BZ,G3],ak,ak⟩
def aFK (hΓ:∀g S,Γ g=ah S->Valid P G g S) {ops:Array Oper} {Q:Exit->Act->World->Prop} {F':List LV} {H':List AB} (hQ:∀Z' β' a' w',RW G w0 Z0 Z' β' H' w'->RF ds β' Z' w' (M H') F' a'->Q .normal a' w')
  (hW0:RW G w0 Z0 Z β H w) (hF0:RF ds β Z w (M H) F a) (h:(iB P G Γ ops F H).all λq=>q=(F',H')) (r:Option Nat) (m:Nat):P.follows .mixedOrders=U/\wpAnyIn (DP r) m P .any ops Q ops.size (Array.replicate ops.size X) a {w with drawn:=w.drawn+1}:=by
 unfold iB at h;simp only at h;split at h
 ·rename_i hc
  simp only [AY] at hc;obtain ⟨⟨hcalm,hmix⟩,htr0⟩:=hc;generalize hfl:cf _ [] ops.toList=flags at h hcalm;generalize htrd:tracked H ops.toList F=tr at h htr0
  have htr:∀k∈tr,k<M H:=λk hk=>yN
  obtain ⟨⟨F1,H1⟩,h1,h2⟩:=T.B4 h
  have hk:=Vv (P:=P) (G:=G) (Γ:=Γ) (H:=H) (tr:=tr) (Hm:=EP tr 0 H) (F0:=F) flags ops.toList F (λ_ h=>h) ⟨rfl,λ_ _=>rfl⟩
  obtain ⟨⟨F2,H2⟩,g1,g2,g3⟩:=Oh hk h1
  have hH2:H2=H:=(T.QT hk g1).2.2
  subst hH2
  have hbd:Below w.heap.size w {w with drawn:=w.drawn+1}:=⟨rfl,rfl,rfl,Ar _,λ_ _=>rfl⟩
  have hW:=hW0.same hbd
  have hF:RF ds β Z {w with drawn:=w.drawn+1} (M H2) F a:=hF0.mono (Ar _) (λ_ _=>rfl) (λ_ h=>h) λ_ _=>rfl
  have hflen:M flags=M ops.toList:=by
   unfold gu at hcalm;exact xw
  have hops:ops=ops.toList.toArray:=AI
  have hshp0:Shp tr β H2 {w with drawn:=w.drawn+1}:=λk b _ hb hcl=>by
   exact xg
  refine ⟨hmix,?_⟩;rw [hops]
  refine aeB (P:=P) (G:=Gh) (D:=λw'=>DL (DN β H2 tr) {w with drawn:=w.drawn+1} w'/\Below w0.heap.size w0 w'/\Shp tr β H2 w') (C:=λg w'=>CY ds G w0 Z0 tr β H2 {w with drawn:=w.drawn+1} g w') flags ⟨Z,β,H2,F,a⟩ yJ (λg w' hc=>⟨hc.near,hc.rw.below,hc.shape⟩) (λg w1 w2 hc hb=>hc.keep hb)
   ⟨hW,hF,DL.refl _ _,Ar _,λ_ _=>rfl,λk k1 k2=>absurd k2<|V9.2 k1,EvL.refl _⟩ ?_
  rw [<-hops]
  have hlm:M (EP tr 0 H2)=M H2:=Ve tr H2 0
  have hDm:∀w',(DL (DN β H2 tr) {w with drawn:=w.drawn+1} w'/\Below w0.heap.size w0 w'/\Shp tr β H2 w')->RW G w0 Z0 Z β (EP tr 0 H2) w'/\∀b,(Z b\/∃k bk,(EP tr 0 H2)[k]? =ah bk/\live β k bk/\tr.contains k=X/\b=(β k).b)->w'.heap[b]? =({w with drawn:=w.drawn+1}:World).heap[b]? :=λw' ⟨d1,d2,d3⟩=>by
   exact xY
  refine W4 (H:=H2) (HH:=H2) (F':=F2) hΓ hlm (hW.mask (DL.refl _ _) hW.below hshp0) hDm (λa1 hF1=>?_) flags ops.toList F a hflen hF g1
  have hF1':=g3 _ _ _ _ _ _ hF1
  refine nf (Q':=λa' w'=>Q .normal a' w') (g1:=⟨Z,β,H2,F1,a1⟩) (λw' hc=>?_) flags ops.toList a1 ?_
  ·exact aLR
  ·exact o9 (H:=H2) (F':=F') (H':=H') hΓ (λg e1 e2 w' hc=>hQ g.Z g.β g.a w' Zu Zr) flags ops.toList ⟨Z,β,H2,F1,a1⟩ hflen ⟨_,hW,hF1',DL.refl _ _,Ar _,λ_ _=>rfl,λk k1 k2=>absurd k2<|V9.2 k1,EvL.refl _⟩ h2
 ·split at h
  ·rename_i hc
   simp only [AY] at hc;obtain ⟨⟨hcalm,hmix⟩,htr0⟩:=hc
   replace hord:(Wm ops _ ||fX P ops _)=true:=hcalm
   replace hcalm:=(Sb.1 hcalm).elim (λe=>by unfold Wm at e;exact (Bool.and_eq_true_iff.1 e).1) (λe=>by unfold fX at e;exact (Bool.and_eq_true_iff.1 e).1)
   generalize hfl:cf _ [] ops.toList=flags at h hcalm hord;generalize htrd:tracked H ops.toList F=tr at h htr0
   have htr:∀k∈tr,k<M H:=λk hk=>yN
   obtain ⟨⟨F1,H1⟩,h1,h2⟩:=T.B4 h
   have hk:=Vv (P:=P) (G:=G) (Γ:=Γ) (H:=H) (tr:=tr) (Hm:=EP tr 0 H) (F0:=F) flags ops.toList F (λ_ h=>h) ⟨rfl,λ_ _=>rfl⟩
   obtain ⟨⟨F2,H2⟩,g1,g2,g3⟩:=Oh hk h1
   have hH2:H2=H:=(T.QT hk g1).2.2
   subst hH2
   have hbd:Below w.heap.size w {w with drawn:=w.drawn+1}:=⟨rfl,rfl,rfl,Ar _,λ_ _=>rfl⟩
   have hW:=hW0.same hbd
   have hF:RF ds β Z {w with drawn:=w.drawn+1} (M H2) F a:=hF0.mono (Ar _) (λ_ _=>rfl) (λ_ h=>h) λ_ _=>rfl
   have hflen:M flags=M ops.toList:=by
    unfold TW at hcalm;exact xw
   have hops:ops=ops.toList.toArray:=AI
   have hshp0:Shp tr β H2 {w with drawn:=w.drawn+1}:=λk b _ hb hcl=>by
    exact xg
   refine ⟨hmix,?_⟩;rw [hops]
   refine adG (P:=P) (G:=Gh) (D:=λw'=>DL (DN β H2 tr) {w with drawn:=w.drawn+1} w'/\Below w0.heap.size w0 w'/\Shp tr β H2 w') (C:=λg w'=>CY ds G w0 Z0 tr β H2 {w with drawn:=w.drawn+1} g w') flags ⟨Z,β,H2,F,a⟩ yJ (λg w' hc=>⟨hc.near,hc.rw.below,hc.shape⟩) (λg w1 w2 hc hb=>hc.keep hb)
    ⟨hW,hF,DL.refl _ _,Ar _,λ_ _=>rfl,λk k1 k2=>absurd k2<|V9.2 k1,EvL.refl _⟩ ?_
   rw [<-hops]
   have hlm:M (EP tr 0 H2)=M H2:=Ve tr H2 0
   have hDm:∀w',(DL (DN β H2 tr) {w with drawn:=w.drawn+1} w'/\Below w0.heap.size w0 w'/\Shp tr β H2 w')->RW G w0 Z0 Z β (EP tr 0 H2) w'/\∀b,(Z b\/∃k bk,(EP tr 0 H2)[k]? =ah bk/\live β k bk/\tr.contains k=X/\b=(β k).b)->w'.heap[b]? =({w with drawn:=w.drawn+1}:World).heap[b]? :=λw' ⟨d1,d2,d3⟩=>by
    exact xY
   refine W4 (H:=H2) (HH:=H2) (F':=F2) hΓ hlm (hW.mask (DL.refl _ _) hW.below hshp0) hDm (λa1 hF1=>?_) flags ops.toList F a hflen hF g1
   have hF1':=g3 _ _ _ _ _ _ hF1
   refine bu (Q':=λa' w'=>Q .normal a' w') (g1:=⟨Z,β,H2,F1,a1⟩) (λw' hc=>?_) _ _ a1 ?_
   ·exact aLR
   ·cases hfx:Wm ops flags with
    | true=>
     rw [AD hfx] at h2
     have hord2:=hfx
     unfold Wm at hord2;simp only [AY,Ck] at hord2
     exact aC2 (H:=H2) (F':=F') (H':=H') hΓ (λg e1 e2 w' hc=>hQ g.Z g.β g.a w' Zu Zr) _ (idxs U flags 0) _ ⟨Z,β,H2,F1,a1⟩ (λi hi=>by
      obtain ⟨_,h⟩:=nN U flags 0 i hi;simp only [Nat.sub_zero] at h
      simp [List.getD,h]) (hord2.2.elim aPx id) h2
    |false=>
     rw [AE (by rw [hfx];decide)] at h2
     rw [hfx,Ct] at hord;unfold fX at hord;simp only [AY,BP] at hord;exact adO (H:=H2) (F':=F') (H':=H') hΓ (λg e1 e2 w' hc=>hQ g.Z g.β g.a w' Zu Zr) _ (UA ops<|idxs U flags 0) _ ⟨Z,β,H2,F1,a1⟩ (λi hi=>hord.2.1 i hi) hord.2.2 h2
  ·split at h
   ·rename_i hc
    simp only [AY] at hc;obtain ⟨⟨hcalm,hmix⟩,htr0⟩:=hc;unfold alx at hcalm;simp only [AY] at hcalm;obtain ⟨⟨⟨hcalm,hnd⟩,hlt⟩,hord⟩:=hcalm;generalize hfl:cf _ [] ops.toList=flags at h hcalm hord hnd hlt;generalize htrd:tracked H ops.toList F=tr at h htr0
    have htr:∀k∈tr,k<M H:=λk hk=>yN
    obtain ⟨⟨F1,H1⟩,h1,h2⟩:=T.B4 h
    have hk:=Vv (P:=P) (G:=G) (Γ:=Γ) (H:=H) (tr:=tr) (Hm:=EP tr 0 H) (F0:=F) flags ops.toList F (λ_ h=>h) ⟨rfl,λ_ _=>rfl⟩
    obtain ⟨⟨F2,H2⟩,g1,g2,g3⟩:=Oh hk h1
    have hH2:H2=H:=(T.QT hk g1).2.2
    subst hH2
    have hbd:Below w.heap.size w {w with drawn:=w.drawn+1}:=⟨rfl,rfl,rfl,Ar _,λ_ _=>rfl⟩
    have hW:=hW0.same hbd
    have hF:RF ds β Z {w with drawn:=w.drawn+1} (M H2) F a:=hF0.mono (Ar _) (λ_ _=>rfl) (λ_ h=>h) λ_ _=>rfl
    have hflen:M flags=M ops.toList:=by
     unfold TW at hcalm;exact xw
    have hops:ops=ops.toList.toArray:=AI
    have hshp0:Shp tr β H2 {w with drawn:=w.drawn+1}:=λk b _ hb hcl=>by
     exact xg
    refine ⟨hmix,?_⟩;rw [hops]
    refine adG (P:=P) (G:=Gh) (D:=λw'=>DL (DN β H2 tr) {w with drawn:=w.drawn+1} w'/\Below w0.heap.size w0 w'/\Shp tr β H2 w') (C:=λg w'=>CY ds G w0 Z0 tr β H2 {w with drawn:=w.drawn+1} g w') flags ⟨Z,β,H2,F,a⟩ yJ (λg w' hc=>⟨hc.near,hc.rw.below,hc.shape⟩) (λg w1 w2 hc hb=>hc.keep hb)
     ⟨hW,hF,DL.refl _ _,Ar _,λ_ _=>rfl,λk k1 k2=>absurd k2<|V9.2 k1,EvL.refl _⟩ ?_
    rw [<-hops]
    have hlm:M (EP tr 0 H2)=M H2:=Ve tr H2 0
    have hDm:∀w',(DL (DN β H2 tr) {w with drawn:=w.drawn+1} w'/\Below w0.heap.size w0 w'/\Shp tr β H2 w')->RW G w0 Z0 Z β (EP tr 0 H2) w'/\∀b,(Z b\/∃k bk,(EP tr 0 H2)[k]? =ah bk/\live β k bk/\tr.contains k=X/\b=(β k).b)->w'.heap[b]? =({w with drawn:=w.drawn+1}:World).heap[b]? :=λw' ⟨d1,d2,d3⟩=>by
     exact xY
    refine W4 (H:=H2) (HH:=H2) (F':=F2) hΓ hlm (hW.mask (DL.refl _ _) hW.below hshp0) hDm (λa1 hF1=>?_) flags ops.toList F a hflen hF g1
    have hF1':=g3 _ _ _ _ _ _ hF1
    have d1:∀k,k<M H2->(λk=>if k<M H2 then β k else ⟨w.heap.size,0,aj⟩:Nat->Loc) k=β k:=λk hk=>by simp [hk]
    have d2:∀k,M H2<=k->((λk=>if k<M H2 then β k else ⟨w.heap.size,0,aj⟩:Nat->Loc) k).b=w.heap.size:=λk hk=>by simp [V9.2 hk]
    generalize (λk=>if k<M H2 then β k else ⟨w.heap.size,0,aj⟩:Nat->Loc)=βd at d1 d2
    refine bu (Q':=λa' w'=>Q .normal a' w') (g1:=⟨Z,βd,H2++aq ops.size G3,F1,a1⟩) (λw' hc=>?_) _ _ a1 ?_
    ·refine ⟨hc.rw.acE d1,?_,hc.near,AI,λk hk=>d1 k hk,λk k1 k2=> .inl (by rw [d2 k k1];exact Ar _),EvL.app _ _⟩
     exact hF1'.mono AI d1 (λ_ h=>h) λb hz=>hc.near.block b (hW.Bb b hz)<|hW.nM hz
    ·refine aDs (H:=H2) (F':=F') (H':=H') hΓ (λp hp=>(hW.gh p hp).2) (λg e1 e2 w' hc=>hQ g.Z g.β g.a w' Zu Zr) _ (idxs U flags 0) _ ⟨Z,βd,H2++aq ops.size G3,F1,a1⟩ (λ_=>False) hnd ⟨λj hj=>?_,λk b hb j hj=>?_,λi hi=>⟨λh=>h,?_⟩⟩ (λi hi=>by
      obtain ⟨_,h⟩:=nN U flags 0 i hi;simp only [Nat.sub_zero] at h
      simp [List.getD,h]) hord h2
     ·obtain ⟨x,q1,q2⟩:=cJ hj
      obtain ⟨t',q3⟩:=List.getElem?_of_mem q1;exact .inl<|okV_owns x (hF1'.get t' x q3).2 j q2
     ·by_cases h0:k<M H2
      ·simp only at hb
       rw [HW h0] at hb;exact .inl<|aEP (hW.blk k b hb).2 j hj
      ·simp only at hb
       rw [GL A0,ZI] at hb;split at hb
       ·simp only [Ah] at hb
        subst hb
        simp [AB.owns,G3,ownsL] at hj
       ·cases hb
     ·have hlt':i<ops.size:=by simpa using BP.1 hlt i hi
      exact ⟨_,DQ D2⟩
   ·cases h
theorem aD9 {α:Type}{f:Nat->T α}{n:Int}{p:α->Prop}:∀(m j:Nat),(splitN f n m j).all p->(j:Int)<=n->n<(j:Int)+m->∃i:Nat,n=(i:Int)/\(f i).all p
 |0,j,_,h1,h2=>A0
 |1,j,h,h1,h2=>⟨j,A0,h⟩
 |m+2,j,h,h1,h2=>by
  simp only [splitN,T.all] at h
  by_cases e:n=(j:Int)
  ·grind
  ·exact aD9 (m+1) (j+1) (h.2 A8) A0 A0
def ae4 {ops:List Oper}{s len:Nat}{k:IntKind}{n:Int}(h:pq P ops F=ah (s,k,n,len)):F.getD s .junk=.v (Y k n):=by
 unfold pq at h;split at h
 ·obtain ⟨o,_,ho⟩:=List.exists_of_findSome?_eq_some h
  split at ho
  ·split at ho
   ·split at ho
    ·rename_i hx
     obtain ⟨rfl,rfl,rfl,rfl⟩:=ho;exact hx
    ·cases ho
   ·cases ho
  ·cases ho
 ·cases h
def aDm (hΓ:∀g S,Γ g=ah S->Valid P G g S) {ops:Array Oper}{Q:Exit->Act->World->Prop}{F':List LV}{H':List AB}(hQ:∀Z' β' a' w',RW G w0 Z0 Z' β' H' w'->RF ds β' Z' w' (M H') F' a'->Q .normal a' w')
  (hW0:RW G w0 Z0 Z β H w) (hF0:RF ds β Z w (M H) F a) (h:(XT P G Γ ops F H).all λq=>q=(F',H')) (r:Option Nat) (m:Nat):P.follows .mixedOrders=U/\wpAnyIn (DP r) m P .any ops Q ops.size (Array.replicate ops.size X) a {w with drawn:=w.drawn+1}:=by
 unfold XT at h;split at h
 ·rename_i s k n len hs
  obtain ⟨⟨h0,h1⟩,h2⟩:=h;obtain ⟨i,hi,h3⟩:=aD9 len 0 h2 A0 A0
  have hx:=ae4 hs
  obtain ⟨s1,s2⟩:=hF0.slot hx AI
  have hv:=(hF0.get s _ s1).1
  exact aFK hΓ hQ hW0 (hF0.know (lv:=.ki k i) (by simp only [R];rw [hv,hi]) trivial) h3 r m
 ·exact aFK hΓ hQ hW0 hF0 h r m
def aeS (hΓ:∀g S,Γ g=ah S->Valid P G g S) {id:Nat}{ops:Array Oper}{Q:Exit->Act->World->Prop}{F':List LV}{H':List AB}(hQ:∀Z' β' a' w',RW G w0 Z0 Z' β' H' w'->RF ds β' Z' w' (M H') F' a'->Q .normal a' w')
  (hW0:RW G w0 Z0 Z β H w) (hF0:RF ds β Z w (M H) F a) (h:(XT P G Γ ops F H).all λq=>q=(F',H')) (r:Option Nat) (m:Nat):(Code.region id ops U).wpIn (DP r) m P Q a w:=
 have h1:=aDm hΓ hQ hW0 hF0 h r m
 wpIn_region_any h1.1 h1.2
def adx {ops:Array Oper}{o:Oper}(h:nr G Γ ops=ah o):∃ys:Array Oper,ops=ys.push o/\ops.pop=ys/\o.guard=aj/\lastB .any ys o=true:=by
 unfold nr at h;split at h
 ·rename_i o' hb
  split at h
  ·split at h
   ·cases h
   ·split at h
    ·rename_i hl
     obtain rfl:=Dw h;obtain ⟨ys,rfl⟩:=Array.back?_eq_some_iff.1 hb;rw [Array.pop_push] at hl|-;refine ⟨ys,rfl,rfl,?_,hl⟩;simp only [lastB,AY] at hl
     simp_all
    ·cases h
  ·cases h
 ·cases h
def adl {K:Hand}(hΓ:∀g S,Γ g=ah S->Valid P G g S) (hK:FE P G K) {id:Nat}{ops:Array Oper}{Q:Exit->Act->World->Prop}{F':List LV}{H':List AB}(hQ:∀Z' β' a' w',RW G w0 Z0 Z' β' H' w'->RF ds β' Z' w' (M H') F' a'->Q .normal a' w')
  (hW0:RW G w0 Z0 Z β H w) (hF0:RF ds β Z w (M H) F a) (h:(gp P G Γ K ops F H).all λq=>q=(F',H')) (r:Option Nat) (m:Nat):(Code.region id ops U).wpIn (DP r) m P Q a w:=by
 unfold gp at h;split at h
 ·rename_i o ho
  obtain ⟨ys,rfl,hp,hg,hl⟩:=adx ho;rw [hp] at h;obtain ⟨⟨F1,H1⟩,h1,h2⟩:=T.B4 h;obtain ⟨⟨lv,H2⟩,h3,h4⟩:=T.B4 h2;obtain ⟨rfl,rfl⟩:=h4
  have h5:=aDm hΓ (Q:=XE (DP r) m P (ys.push o) Q ys.size) (λZ' β' a' w' e1 e2=>by
   show wpOpIn (DP r) m P (ys.push o) Q ys.size (Q .normal) a' w'
   unfold wpOpIn
   have hw:az o (yielded (ys.push o) a'.tmps)=true:=Zt
   simp only [Array.getElem?_push_size,hw,Bm];exact Vq (K3 (λv w' ⟨Z',β',e1,e2,e3,e4⟩=>hQ Z' β' _ w' e1<|e2.put e3 e4 o.dst)<|aCO hΓ hK e1 e2 h3) r m) hW0 hF0 h1 r m
  exact ado h5.1 hl h5.2
 ·exact aeS hΓ hQ hW0 hF0 h r m
end Go.Sx
namespace Go.Sx
open Go Go.RowKit Go.Proofs.YtipodhghjclmbaaGreatDoor
variable {P : Program} {G : B1} {Γ : Specs} {K : Hand} {β : Nat -> Loc} {Z : Nat -> Prop} {Z0 : Gz} {w w0 : World} {F : List LV} {H : List AB} {a : Act} {ds : List Deferred}
theorem anJ {ops:Array Oper}{o:Oper}{t:Tmp}(h:Operand.tmp t∈o.op.operands):t∈o.looksAt ops:=by
 exact List.mem_append_left _<|SU.2 ⟨.tmp t,A8,rfl⟩
def my {ops:Array Oper}{F F':List LV}{o:Oper}(h:∀t,t∈o.looksAt ops->F.getD t .junk=F'.getD t .junk) {x:Operand}(hx:x∈o.op.operands):AL G F x=AL G F' x:=by
 cases x with
 |tmp t=>exact h t (anJ hx)
 |const _=>rfl
 |global _=>rfl
 |func _=>rfl
theorem aez {ops:Array Oper}{F F':List LV}{o:Oper}(hs:∀cs b,o.op≠ .select cs b) (h:∀t,t∈o.looksAt ops->F.getD t .junk=F'.getD t .junk):DX P G F o=DX P G F' o:=by
 have e:∀x∈o.op.operands,AL G F x=AL G F' x:=λx hx=>my h hx
 unfold DX
 have e1:o.op.operands.toList.all (λx=>S7<|AL G F x)=o.op.operands.toList.all (λx=>S7<|AL G F' x):=by
  grind
 have e3:o.op.operands.toList.all (λx=>aQ<|AL G F x)=o.op.operands.toList.all (λx=>aQ<|AL G F' x):=by
  grind
 have e2:OJ P o (λx=>(pl<|AL G F x).getD undef)=OJ P o (λx=>(pl<|AL G F' x).getD undef):=by
  have c:=kT (ρ:=λx=>(pl<|AL G F x).getD undef) (ρ':=λx=>(pl<|AL G F' x).getD undef) o hs λx hx=>A8
  unfold OJ;rw [c]
  have a:QY P o.op (λx=>(pl<|AL G F x).getD undef)=QY P o.op (λx=>(pl<|AL G F' x).getD undef):=by
   exact aL2
  rw [a]
 grind
theorem afh {ops:Array Oper}{F F':List LV}{o:Oper}(h:∀t,t∈o.looksAt ops->F.getD t .junk=F'.getD t .junk):IV P G Γ F o=IV P G Γ F' o:=by
 have e:=λx hx=>my (G:=G) h (x:=x) hx
 unfold IV;split
 ·rename_i t len parts ho
  have em:(parts.toList.map λq=>(q.1,AL G F q.2))=parts.toList.map λq=>(q.1,AL G F' q.2):=JO λq hq=>by
   rw [e q.2 yC]
  rw [em]
 ·rename_i f args ty ho
  have e1:=e f aNG
  have e2:(args.toList.map λx=>norm<|AL G F x)=args.toList.map λx=>norm (AL G F' x):=JO λx hx=>by
   rw [e x Zo]
  rw [e1,e2]
 ·rfl
theorem aCU {ops:Array Oper}{F F':List LV}{o:Oper}(h:∀t,t∈o.looksAt ops->F.getD t .junk=F'.getD t .junk):hwx P G Γ F H o=hwx P G Γ F' H o:=by
 have e:=λx hx=>my (G:=G) h (x:=x) hx
 unfold hwx;cases ho:o.op<;>simp only
 case binOp op t x y u=>cases op<;>simp only<;>exact aez (ops:=ops) (λcs b q=>A8) h
 case call c=>exact afh (ops:=ops) h
 all_goals rw [e _ FB]
def afH {o:Oper}{g:FuncId}{l:List LV}(h:callOf G [] o=ah (g,l)):∃f args ty,o.op=.call {callee:=.value f,args,argTypes:=ty}/\∀F:List LV,AL G F f=AL G [] f:=by
 obtain ⟨f,args,ty,ho,hf⟩:=aCZ h;refine ⟨f,args,ty,ho,λF=>?_⟩
 cases f with
 |tmp t=>
  have:AL G [] (.tmp t)=.junk:=by simp [AL]
  rcases hf with ⟨_,hf,_⟩ |⟨_,hf,_⟩ |⟨hf,_⟩<;>rw [this] at hf<;>cases hf
 |const _=>rfl
 |global _=>rfl
 |func _=>rfl
theorem aDQ {ops:Array Oper}{F F':List LV}{o:Oper}{g:FuncId}{l:List LV}(hc:callOf G [] o=ah (g,l)) (hg:Γ g=aj) (h:∀t,t∈o.looksAt ops->F.getD t .junk=F'.getD t .junk):Jq P G Γ K F H o=Jq P G Γ K F' H o:=by
 obtain ⟨f,args,ty,ho,hf⟩:=afH hc
 have ha:args.toList.map (λx=>norm<|AL G F x)=args.toList.map (λx=>norm<|AL G F' x):=JO λx hx=>by
  rw [my (G:=G) h (by rw [ho];simp [Op.operands,Call.operands];exact .inr A8)]
 have hcall:callOf G F o=callOf G F' o:=by
  unfold callOf
  grind
 have h2:∃l2,callOf G F' o=ah (g,l2):=by
  unfold callOf at hc|-;simp only [ho] at hc|-;split at hc
  ·grind
  ·grind
  ·grind
  ·cases hc
 unfold Jq
 grind
def T.qM {t:T LV}{lv:LV}{H:List AB}(h:t.all λy=>y=lv):(t.bind λy=>(T.ok (y,H):T<|LV×List AB)).all (λq=>q=(lv,H)):=by
 rw [T.all_bind];exact T.BY (λx hx=>by rw [hx];exact rfl) h
def anS {o:Oper}{lv:LV}(h:(IV P G Γ F o).all λz=>z=lv):(Aw P G Γ F H o).all (λq=>q=(lv,H)):=by
 refine aGg ?_ h;unfold IV at h;unfold IJ;split at h
 ·rfl
 ·rfl
 ·cases h
def arO {o:Oper}{lv:LV}(h:(hwx P G Γ F H o).all λy=>y=lv):(Aw P G Γ F H o).all (λq=>q=(lv,H)):=by
 by_cases hcl:∃c,o.op=.call c
 ·obtain ⟨c,ho⟩:=hcl
  unfold hwx at h;simp only [ho] at h;exact anS h
 unfold hwx at h;unfold Aw;cases ho:o.op<;>simp only [ho] at h|-
 case call c=>exact absurd ⟨c,ho⟩ hcl
 case move x=>simp only [T.all] at h|-;rw [h]
 case assign x=>simp only [T.all] at h|-;rw [h]
 case load t x=>exact T.qM h
 case fieldAddr s x i=>exact T.qM h
 case nilCheck x=>
  generalize AL G F x=v at h|-;cases v<;>simp only [T.all] at h|-<;>first|rw [h] |cases h
 case binOp op t x y u=>cases op<;>simp only at h|-<;>first|exact T.qM h|cases h
 all_goals cases h
theorem aCW {F:List LV}{d t:Nat}{y:LV}(hd:d<M F):(F.set d y).getD t .junk=if t=d then y else F.getD t .junk:=by
 by_cases e:t=d
 ·grind
 ·grind
theorem pS {ops:Array Oper}:∀(is:List Nat) (F F1:List LV),is.Pairwise (λi j=>∀d,Ff ops j=ah d->d∉NV ops i/\Ff ops i≠ah d)->(∀i∈is,∃d,Ff ops i=ah d/\d<M F/\d∉NV ops i)->
  (goW P G Γ ops H is F).all (λz=>z=F1)->M F1=M F/\(∀t,(∀i∈is,Ff ops i≠ah t)->F1.getD t .junk=F.getD t .junk)/\∀i∈is,∀o d,ops[i]? =ah o->o.dst=ah d->(hwx P G Γ F1 H o).all (λy=>y=F1.getD d .junk)
 | [],F,F1,_,_,h=>by
  subst h
  grind
 | i ::is,F,F1,hp,hd,h=>by
  simp only [goW] at h;split at h
  ·rename_i o ho
   obtain ⟨y,h1,h2⟩:=T.B4 h;obtain ⟨d,e1,e2,e3⟩:=hd i AI
   have hod:o.dst=ah d:=by simpa [Ff,ho] using e1
   obtain ⟨p1,p2⟩:=kH.1 hp
   have hset:At F o.dst y=F.set d y:=by rw [hod];rfl
   rw [hset] at h2;obtain ⟨g1,g2,g3⟩:=pS is (F.set d y) F1 p2 (λj hj=>A8) h2
   have hFd:F1.getD d .junk=y:=by
    grind
   refine ⟨A8,λt ht=>?_,λj hj o' d' ho' hd'=>?_⟩
   ·rw [g2 t λj hj=>ht j A8,aCW e2,AE]
    grind
   ·rcases B7.1 hj with rfl|hj
    ·obtain rfl:=Dw (ho.symm.trans ho')
     obtain rfl:=Dw<|hod.symm.trans hd';rw [hFd,aCU (ops:=ops) (F':=F) λt ht=>?_]
     ·exact h1
     ·have hl:t∈NV ops j:=lM
      grind
    ·grind
  ·cases h
theorem aCY {ops:Array Oper}{F1:List LV}:∀(is:List Nat),(aU P G Γ ops H F1 is).all (λ_=>True)->∀i∈is,∀o d t x,ops[i]? =ah o->o.dst=ah d->o.op=.load t x->(hwx P G Γ F1 H o).all (λy=>y=F1.getD d .junk)
 | [],_,i,hi=>lU
 | j ::is,h,i,hi=>λo d t x ho hd hop=>by
  simp only [aU] at h;split at h
  ·rename_i o' ho'
   split at h
   ·rename_i hop'
    rw [T.all_bind] at h;rcases B7.1 hi with rfl|hi
    ·obtain rfl:=Dw (ho'.symm.trans ho)
     refine T.BY (λy hy=>?_) h
     simp only [T.all,hd] at hy;exact hy.1
    ·obtain ⟨y,hy,_⟩:=T.pick h
     exact aCY is hy.2 i hi o d t x ho hd hop
   ·rename_i hop'
    rcases B7.1 hi with rfl|hi
    ·obtain rfl:=Dw (ho'.symm.trans ho)
     grind
    ·exact aCY is h i hi o d t x ho hd hop
  ·cases h
theorem aeU (n:Nat) (p q:Nat->Bool) (hp:∃k,k<n/\p k=U/\∀j,j<n->p j=U->j=k):n=(M ((au n).filter λi=>!p i&&!q i)+1)+M ((au n).filter λi=>!p i&&q i):=by
 obtain ⟨k,hk,hpk,hu⟩:=hp
 have h1:∀m,m<=n->m=M ((au m).filter λi=>!p i&&!q i)+(if k<m then 1 else 0)+M ((au m).filter λi=>!p i&&q i):=λm=>by
  induction m with
  |zero=>intro _;simp
  | succ m ih=>
   intro hm;rw [SX,ZE,ZE,BF,BF]
   by_cases e:m=k
   ·subst e
    grind
   ·have hpm:p m=false:=by
     cases hb:p m with
     |false=>rfl
     |true=>exact absurd (hu m A0 hb) e
    by_cases hlt:k<m
    ·have h2:k<m+1:=A0
     grind
    ·have h2:¬k<m+1:=A0
     grind
 have:=h1 n<|Ar _
 rw [AD hk] at this;omega
def JN (ops:Array Oper) (AW:List Nat) (F F2:List LV) (l:Array Bool):List LV:=
 (au<|M F).map λt=>if AW.any (λi=>l.getD i X&&Ff ops i==ah t) then F2.getD t .junk else F.getD t .junk
def Vg {ops:Array Oper}{AW:List Nat}{F F2:List LV}{l:Array Bool}:M (JN ops AW F F2 l)=M F:=by simp [JN]
def cu {ops:Array Oper}{AW:List Nat}{F F2:List LV}{l:Array Bool}{t:Nat}(h:t<M F):(JN ops AW F F2 l).getD t .junk=if AW.any (λi=>l.getD i X&&Ff ops i==ah t) then F2.getD t .junk else F.getD t .junk:=by
 simp [JN,List.getD,h]
theorem pT {A B:List LV}(hl:M A=M B) (h:∀t,t<M A->A.getD t .junk=B.getD t .junk):A=B:=by
 apply ZU hl
 grind
theorem aGd {A:List LV}{t:Nat}(h:M A<=t):A.getD t .junk=.junk:=A8
theorem aC3 {ops:Array Oper}{l:Array Bool}{i j:Nat}(hc:Closed .any ops l) (hr:i∈ay .any ops l) (hj:j∈Gc ops i):l.getD j X=true:=by
 obtain ⟨_,o,ho,h2⟩:=Em.1 hr;refine hc.back ops.size (OM ops i) (λk hk=>?_) j hj
 unfold OM at hk
 grind
theorem aeD {ops:Array Oper}{l:Array Bool}{i j:Nat}(hc:Closed .any ops l) (hi:l.getD i X=U) (hlt:i<ops.size) (hj:j∈Gc ops i):l.getD j X=true:=by
 refine hc.back ops.size (OM ops i) (λk hk=>?_) j hj
 unfold OM at hk;rw [Pl hlt] at hk;obtain ⟨e,h3,rfl⟩:=Ej.1 hk;obtain ⟨h4,h5⟩:=DE.1 h3;exact hc i _ (Pl hlt) hi e A8 h5
theorem aeE {α:Type}(l:List α) (p q:α->Bool):M (l.filter p)=M (l.filter λi=>p i&&q i)+M (l.filter λi=>p i&&!q i):=by
 induction l with
 |nil=>rfl
 |cons x l ih=>
  grind
def afX (hΓ:∀g S,Γ g=ah S->Valid P G g S) (hK:FE P G K) {ops:Array Oper} {wi:Nat} {Q:Exit->Act->World->Prop} {F':List LV} {H':List AB} (hQ:∀Z' β' a' w',RW G w0 Z0 Z' β' H' w'->RF ds β' Z' w' (M H') F' a'->Q .normal a' w')
  (hwi:aJd G Γ ops=ah wi) (hW0:RW G w0 Z0 Z β H w) (hF0:RF ds β Z w (M H) F a) (h:(zy P G Γ K ops wi F H).all λq=>q=(F',H')) (r:Option Nat) (m:Nat):P.follows .mixedOrders=U/\wpAnyIn (DP r) m P .any ops Q ops.size (Array.replicate ops.size X) a {w with drawn:=w.drawn+1}:=by
 unfold zy at h;split at h
 case isFalse=>cases h
 rename_i hc;simp only [AY,Ck] at hc;obtain ⟨⟨⟨hok,hmix⟩,hbl⟩,hord⟩:=hc
 have hbl:M (J4 ops wi)=M (Jb ops wi):=by simpa using hbl
 have hord:Ln ops (M<|J4 ops wi) (J4 ops wi) (KD ops wi)=true:=hord.elim aPx id
 refine ⟨hmix,?_⟩;split at h
 case h_2=>cases h
 rename_i ow how;obtain ⟨F1,h1,h⟩:=T.B4 h;obtain ⟨⟨lvW,H1⟩,h2,h⟩:=T.B4 h;obtain ⟨_,h3,h⟩:=T.B4 h;obtain ⟨F3,h5,h4⟩:=T.B4 h;simp only at h3 h4 h5
 obtain ⟨gW,lW,hcW,hgW⟩:∃g l,callOf G [] ow=ah (g,l)/\Γ g=none:=by
  have:=List.find?_some hwi
  simp only [how] at this;split at this
  ·rename_i g l e;exact ⟨g,l,e,by simpa using this⟩
  ·cases this
 have hwlt:wi<ops.size:=(HX.1 how).1
 generalize hA:Qb ops wi=A at*
 have hAm:∀i,i∈A↔i<ops.size/\i≠wi/\wi∉Gc ops i:=λi=>by
  rw [<-hA];unfold Qb;simp
 generalize hC:R3 ops wi=C at*
 have hCm:∀i,i∈C↔i<ops.size/\i≠wi/\wi∈Gc ops i/\allA ops wi i=false:=λi=>by
  rw [<-hC];unfold R3;simp
 have hPW:gn ops wi=A++([wi]++C):=by unfold gn;rw [hA,hC]
 unfold okW at hok;rw [hPW,hA,hC] at hok;generalize hAWd:A++([wi]++C)=AW at*;simp only [AY,BP] at hok;obtain ⟨hAW,hB,hNL⟩:=hok
 have hAWm:∀i,i∈AW↔i∈A\/i=wi\/i∈C:=λi=>by rw [<-hAWd];simp
 have cNL:∀i,(i∈A\/i=wi)->∀j,(j=wi\/j∈C)->∀d,Ff ops j=ah d->d∉NV ops i:=λi hi j hj d hd hm=>by
  have:=hNL i (by simpa using hi) j lQ
  unfold aPy at this;simp only [hd] at this
  simp [hm] at this
 have cDst:∀i∈AW,∃o d,ops[i]? =ah o/\o.guard=aj/\o.dst=ah d/\Ff ops i=ah d/\d<M F:=λi hi=>by
  obtain ⟨⟨⟨g1,g2⟩,_⟩,_⟩:=hAW i hi;cases ho:ops[i]? with
  |none=>simp [ho] at g1
  | some o=>
   simp only [ho,ZF] at g1;cases hd:Ff ops i with
   |none=>simp [hd] at g2
   |some d=>
    simp only [hd,Ac] at g2;exact ⟨o,d,rfl,g1,by simpa [Ff,ho] using hd,rfl,g2⟩
 have cOns:∀i∈AW,∀p∈OM ops i,p<i/\p∈AW:=λi hi p hp=>by
  obtain ⟨⟨_,g3⟩,_⟩:=hAW i hi
  simpa using g3 p hp
 have cLay:∀i∈AW,∀j∈AW,∀d,Ff ops j=ah d->(i=j\/Ff ops i≠ah d)/\(d∈NV ops i->i≠j/\j<i/\j∈Gc ops i):=λi hi j hj d hd=>by
  obtain ⟨_,g4⟩:=hAW i hi
  have:=g4 j hj
  unfold ab1 at this;simp only [hd,AY,Ck,Cs,CN,Cz,Ac,ne_eq,ZJ] at this;refine ⟨this.1,λhm=>?_⟩
  rcases this.2 with g|g
  ·exact absurd hm<|by simpa using g
  ·exact ⟨g.1.1,g.1.2,by simpa using g.2⟩
 have hwA:wi∈AW:=(hAWm wi).2<|.inr<|.inl rfl
 have hAA:∀i∈A,i∈AW:=λi hi=>(hAWm i).2<|.inl hi
 have hCA:∀i∈C,i∈AW:=λi hi=>(hAWm i).2<|.inr<|.inr hi
 obtain ⟨_,dw,how',hgw,hdw,hdwI,hdwlt⟩:=cDst wi hwA;obtain rfl:=Dw<|how.symm.trans how'
 have hAnd:A.Pairwise (λi j=>i<j):=by
  rw [<-hA];unfold Qb;exact (List.pairwise_lt_range).filter _
 obtain ⟨k1,k2,k3⟩:=pS A F F1 (hAnd.imp_of_mem λ{i j} hi hj hlt d hd=>by
   obtain ⟨q1,q2⟩:=cLay i (hAA i hi) j (hAA j hj) d hd;exact ⟨λhm=>aNf,q1.resolve_left A0⟩) (λi hi=>by
   obtain ⟨o,d,_,_,_,e1,e2⟩:=cDst i<|hAA i hi;exact ⟨d,e1,e2,λhm=>((cLay i (hAA i hi) i (hAA i hi) d e1).2 hm).1 rfl⟩) h1
 have hset:At F1 ow.dst lvW=F1.set dw lvW:=by rw [hdw];rfl
 rw [hset] at h5;generalize hF2:F1.set dw lvW=F2 at h5
 have hF2g:∀t,F2.getD t .junk=if t=dw then lvW else F1.getD t .junk:=λt=>by rw [<-hF2,aCW (F:=F1) (d:=dw) (by rw [k1];exact hdwlt)]
 have hF2l:M F2=M F:=by rw [<-hF2];simp [k1]
 have hCnd:C.Pairwise (λi j=>i<j):=by
  rw [<-hC];unfold R3;exact (List.pairwise_lt_range).filter _
 obtain ⟨c1,c2,c3⟩:=pS C F2 F3 (hCnd.imp_of_mem λ{i j} hi hj hlt d hd=>by
   obtain ⟨q1,q2⟩:=cLay i (hCA i hi) j (hCA j hj) d hd;exact ⟨λhm=>aNf,q1.resolve_left A0⟩) (λi hi=>by
   obtain ⟨o,d,_,_,_,e1,e2⟩:=cDst i<|hCA i hi;exact ⟨d,e1,by rw [hF2l];exact e2,λhm=>((cLay i (hCA i hi) i (hCA i hi) d e1).2 hm).1 rfl⟩) h5
 have hF3l:M F3=M F:=c1.trans hF2l
 have hAC:∀i,i∈A->i∉C:=λi h1 h2=>((hAm i).1 h1).2.2 ((hCm i).1 h2).2.2.1
 have hF3A:∀t,(∀j,(j=wi\/j∈C)->Ff ops j≠ah t)->F3.getD t .junk=F1.getD t .junk:=λt ht=>by
  rw [c2 t λj hj=>ht j<|.inr hj,hF2g,AE]
  intro e;subst e;exact ht wi (.inl rfl) hdwI
 have hF3w:F3.getD dw .junk=lvW:=by
  rw [c2 dw (λj hj e=>by
   rcases (cLay j (hCA j hj) wi hwA _ hdwI).1 with q|q
   ·exact ((hCm j).1 hj).2.1 q
   ·exact q e),hF2g,AD rfl]
 let Inv:Array Bool->Act->World->Prop:=λl a w'=>∃Z β,RW G w0 Z0 Z β (if l.getD wi X then H1 else H) w'/\RF ds β Z w' (M (if l.getD wi X then H1 else H)) (JN ops AW F F3 l) a
 have agree:∀(l:Array Bool),Closed .any ops l->∀i∈AW,i∈ay .any ops l->∀t,t∈NV ops i->(JN ops AW F F3 l).getD t .junk=F3.getD t .junk:=λl hcl i hi hr t ht=>by
  by_cases hlt:t<M F
  ·rw [cu hlt]
   by_cases hex:∃j,j∈AW/\Ff ops j=ah t
   ·obtain ⟨j,hj,hd⟩:=hex
    have hb:=(cLay i hi j hj t hd).2 ht
    have hl:=aC3 hcl hr hb.2.2
    rw [AD<|OW.2 ⟨j,hj,by simp [hl,hd]⟩]
   ·rw [AE,hF3A t λj hj e=>hex ⟨j,(hAWm j).2<|.inr hj,e⟩,k2 t λj hj e=>hex ⟨j,hAA j hj,e⟩]
    intro hany;obtain ⟨j,hj,e⟩:=OW.1 hany;simp only [AY,Cz] at e;exact hex ⟨j,hj,e.2⟩
  ·rw [aGd (A:=JN ops AW F F3 l) (t:=t) (by rw [Vg];exact Nat.le_of_not_lt hlt),aGd (A:=F3) (t:=t) (by rw [hF3l];exact Nat.le_of_not_lt hlt)]
 have agreeA:∀i,(i∈A\/i=wi)->∀t,t∈NV ops i->F3.getD t .junk=F1.getD t .junk:=λi hi t ht=>hF3A t λj hj e=>cNL i hi j hj t e ht
 have next:∀(l:Array Bool),l.size=ops.size->∀i∈AW,∀d,Ff ops i=ah d->d<M F->(JN ops AW F F3 l).set d (F3.getD d .junk)=JN ops AW F F3 (l.setIfInBounds i U):=λl hls i hi d hd hdl=>by
  have hilt:i<ops.size:=by
   obtain ⟨o,_,ho,_⟩:=cDst i hi;exact (HX.1 ho).1
  refine pT (by simp [Vg]) λt ht=>?_
  have ht':t<M F:=yF
  rw [aCW (F:=JN ops AW F F3 l) (d:=d) (by rw [Vg];exact hdl),cu (l:=l.setIfInBounds i U) ht']
  by_cases e:t=d
  ·subst e
   rw [AD rfl,AD<|OW.2 ⟨i,hi,by simp [hd,hls,hilt]⟩]
  ·rw [AE e,cu ht']
   congr 1
   refine B0 (λb=>b=U) ?_
   rw [Ia,OW,OW];refine exists_congr λj=>and_congr_right λhj=>?_
   by_cases hji:i=j
   ·subst hji;simp [hd,OZ e]
   ·rw [ZR X hji]
 have hH1:∀l:Array Bool,l.size=ops.size->(l.setIfInBounds wi U).getD wi X=true:=λl hl=>by simp [hl,hwlt]
 have step:∀(l:Array Bool) (a':Act) (w':World),l.size=ops.size->Closed .any ops l->Inv l a' w'->∀i∈AW,i∈ay .any ops l->wpOpIn (DP r) m P ops Q i (λa2 w2=>Inv (l.setIfInBounds i U) a2 w2) a' w':=λl a' w' hls hcl hI i hi hr=>by
  obtain ⟨Z1,β1,i1,i2⟩:=hI;obtain ⟨o,d,ho,hg,hd,hdI,hdl⟩:=cDst i hi;unfold wpOpIn
  have hw:az o (yielded ops a'.tmps)=true:=Zt
  simp only [ho,hw,Bm]
  have hlk:∀t,t∈o.looksAt ops->(JN ops AW F F3 l).getD t .junk=F3.getD t .junk:=λt ht=>agree l hcl i hi hr t lM
  have hnl:l.getD i X=false:=by
   have:=(Em.1 hr).1
   rwa [dO aNn] at this
  have fin:i≠wi->(hwx P G Γ F3 (if l.getD wi X then H1 else H) o).all (λy=>y=F3.getD d .junk)->o.wpIn (DP r) m P a' w' (λa2 w2=>Inv (l.setIfInBounds i U) a2 w2) Q:=λhne hv=>by
   have hv2:=arO (by rw [aCU (ops:=ops) hlk];exact hv)
   have hsame:(l.setIfInBounds i U).getD wi X=l.getD wi false:=ZR X hne
   refine Vq (K3 (λv w2 ⟨Z',β',e1,e2,e3,e4,_⟩=>⟨Z',β',?_,?_⟩)<|cB hΓ i1 i2 hv2) r m
   ·rw [hsame];exact e1
   ·rw [hsame,<-next l hls i hi d hdI hdl]
    have:=e2.put e3 e4 o.dst
    rw [hd] at this|-;exact this
  rcases (hAWm i).1 hi with hiA|rfl|hiC
  ·have hne:i≠wi:=((hAm i).1 hiA).2.1
   refine fin hne ?_
   have hF3d:F3.getD d .junk=F1.getD d .junk:=hF3A d (λj hj e=>by
    rcases (cLay i hi j ((hAWm j).2<|.inr hj) _ e).1 with q|q
    ·rcases hj with rfl|hj
     ·exact hne q
     ·subst q;exact hAC i hiA hj
    ·exact q hdI)
   have hag:∀t,t∈o.looksAt ops->F3.getD t .junk=F1.getD t .junk:=λt ht=>agreeA i (.inl hiA) t lM
   rw [hF3d,aCU (ops:=ops) hag]
   by_cases hl:l.getD wi X=U
   ·rw [AD hl]
    cases hop:o.op with
    | load t x=>
     refine aCY _ (T.BY (λ_ _=>trivial) h3) i ?_ o d t x ho hd hop
     rw [DE];refine ⟨hiA,?_⟩;rw [Cs];cases hct:(Gc ops wi).contains i with
     |false=>rfl
     |true=>
      have:=aeD hcl hl hwlt<|by simpa using hct
      rw [hnl] at this;cases this
    |_=>
     have:=k3 i hiA o d ho hd
     unfold hwx at this|-;simp only [hop] at this|-;exact this
   ·rw [AE hl];exact k3 i hiA o d ho hd
  ·obtain rfl:=Dw (how.symm.trans ho)
   obtain rfl:=Dw<|hdwI.symm.trans hdI;simp only [hnl,IA,F9] at i1 i2
   have hag:∀t,t∈ow.looksAt ops->F3.getD t .junk=F1.getD t .junk:=λt ht=>agreeA i (.inr rfl) t lM
   have hv:(Jq P G Γ K (JN ops AW F F3 l) H ow).all (λq=>q=(lvW,H1)):=by
    rw [aDQ (ops:=ops) hcW hgW hlk,aDQ (ops:=ops) hcW hgW hag];exact h2
   refine Vq (K3 (λv w2 ⟨Z',β',e1,e2,e3,e4⟩=>⟨Z',β',?_,?_⟩)<|aCO hΓ hK i1 i2 hv) r m
   ·rw [AD<|hH1 l hls];exact e1
   ·rw [AD<|hH1 l hls,<-next l hls i hi dw hdI hdl,hF3w]
    have:=e2.put e3 e4 ow.dst
    rw [hd] at this|-;exact this
  ·have hne:i≠wi:=((hCm i).1 hiC).2.1
   refine fin hne ?_
   have hl:l.getD wi X=true:=aC3 hcl hr ((hCm i).1 hiC).2.2.1
   rw [AD hl];exact c3 i hiC o d ho hd
 have behind:∀(a':Act) (w':World),Inv (KD ops wi) a' w'->wpAnyIn (DP r) m P .any ops Q (M<|Jb ops wi) (KD ops wi) a' w':=λa' w' hI=>by
  rw [<-hbl];obtain ⟨Z1,β1,i1,i2⟩:=hI
  have hl:∀i,i<ops.size->(KD ops wi).getD i X=an (i∈AW):=λi hi=>by
   unfold KD;rw [hPW]
   simp [hi]
  rw [hl wi hwlt,Cm hwA] at i1 i2;simp only [Bm] at i1 i2
  have hFS:JN ops AW F F3 (KD ops wi)=F3:=by
   refine pT (by rw [Vg,hF3l]) λt ht=>?_
   have ht':t<M F:=yF
   rw [cu ht'];split
   ·rfl
   ·rename_i hn
    have hno:∀j,j∈AW->Ff ops j≠ah t:=λj hj e=>by
     obtain ⟨o,_,ho,_⟩:=cDst j hj;refine hn<|OW.2 ⟨j,hj,?_⟩;rw [hl j (HX.1 ho).1,Cm hj]
     simp [e]
    rw [hF3A t λj hj=>hno j<|(hAWm j).2<|.inr hj,k2 t λj hj=>hno j<|hAA j hj]
  rw [hFS] at i2;refine nG (D:=λ_=>True) (C:=CY ds G w0 Z0 [] β1 H1 w') (sp:=λ_=>U) (Q:=λa' g'=>∀w'',CY ds G w0 Z0 [] β1 H1 w' g' w''->Q .normal a' w'') (λ_ _ _=>trivial) (λg w1 w2 hc hb=>hc.keep hb) (λa g w hc hq=>hq w hc) r m _ _ a' ⟨Z1,β1,H1,F3,a'⟩ w' ⟨i1,i2,DL.refl _ _,Ar _,λ_ _=>rfl,λk k1 k2=>absurd k2<|V9.2 k1,EvL.refl _⟩ ?_
  exact aC2 hΓ (λg e1 e2 w'' hc=>hQ g.Z g.β g.a w'' Zu Zr) _ (J4 ops wi) _ ⟨Z1,β1,H1,F3,a'⟩ (λ_ _=>rfl) hord h4
 have main:∀(k:Nat) (l:Array Bool) (a':Act) (w':World),l.size=ops.size->Closed .any ops l->(∀i,l.getD i X=U->i∈AW)->M ((AW).filter λi=>!l.getD i X)=k->Inv l a' w'->wpAnyIn (DP r) m P .any ops Q (k+M (Jb ops wi)) l a' w':=λk=>by
  induction k with
  | zero=>
   intro l a' w' hls hcl hon hk hI
   have hall:∀i∈AW,l.getD i X=true:=λi hi=>by
    cases hb:l.getD i X with
    |true=>rfl
    |false=>
     have:i∈(AW).filter λi=>!l.getD i false:=DE.2 ⟨hi,by simp [hb]⟩
     rw [MA.1 hk] at this;cases this
   have he:l=KD ops wi:=by
    apply Array.ext<|by simp [KD,hls]
    intro i g1 g2
    have hi:i<ops.size:=by rw [<-hls];exact g1
    have e1:l.getD i X=l[i]:=by simp [g1]
    have e2:(KD ops wi)[i]=an (i∈AW):=by
     unfold KD;simp [hPW]
    rw [e2,<-e1];cases hb:l.getD i X with
    |true=>rw [Cm<|hon i hb]
    |false=>rw [I8 λhm=>by rw [hall i hm] at hb;cases hb]
   rw [EM,he];exact behind a' w' (he▸hI)
  | succ k ih=>
   intro l a' w' hls hcl hon hk hI
   obtain ⟨i0,hi0⟩:∃i,i∈(AW).filter λi=>!l.getD i false:=by
    cases hL:(AW).filter λi=>!l.getD i X with
    |nil=>rw [hL] at hk;simp at hk
    |cons x xs=>exact ⟨x,AI⟩
   have hrn:ay .any ops l≠ []:=by
    have:∀n i,i<n->i∈AW->l.getD i X=X->ay .any ops l≠ []:=λn=>by
     induction n with
     |zero=>intro i hi;omega
     | succ n ihn=>
      intro i hin hi hb;obtain ⟨o,d,ho,_⟩:=cDst i hi
      by_cases hp:∃p∈OM ops i,l.getD p X=X
      ·obtain ⟨p,hp,hpb⟩:=hp
       obtain ⟨q1,q2⟩:=cOns i hi p hp;exact ihn p A0 q2 hpb
      ·have:i∈ay .any ops l:=Em.2 ⟨by rw [dO aNn];exact hb,o,ho,λe he hbd=>by
        cases hx:l.getD e.on X with
        |true=>rfl
        |false=>exact absurd ⟨e.on,by unfold OM;rw [ho];exact Ej.2 ⟨e,DE.2 ⟨Zz,hbd⟩,rfl⟩,hx⟩ hp⟩
       intro e;rw [e] at this;cases this
    obtain ⟨m1,m2⟩:=DE.1 hi0;exact this (i0+1) i0 A0 m1<|by simpa using m2
   rw [show k+1+M (Jb ops wi)=(k+M (Jb ops wi))+1 by omega]
   refine ⟨λh0=>absurd h0 hrn,λi hi=>?_⟩
   have hiAW:i∈AW:=by
    by_cases hm:i∈AW
    ·exact hm
    ·exfalso
     have hiB:i∈Jb ops wi:=by
      unfold Jb
      have hlt:=QE hi
      rw [hAWm] at hm;simp only [not_or,hAm,hCm] at hm;simp only [DE,IZ,AY,Cs,CN,ZJ]
      by_cases hb:wi∈Gc ops i
      ·cases ha:allA ops wi i with
       |true=>exact ⟨hlt,hm.2.1,hb,rfl⟩
       |false=>exact absurd ⟨hlt,hm.2.1,hb,ha⟩ hm.2.2
      ·exact absurd ⟨hlt,hm.2.1,hb⟩ hm.1
     obtain ⟨m1,m2⟩:=DE.1 hi0
     have hb:=hB i hiB i0 m1
     have:=aC3 hcl hi<|by simpa using hb
     simp [this] at m2
   refine wpOpIn_mono (λa2 w2 hI2=>?_)<|step l a' w' hls hcl hI i hiAW hi
   refine ih _ a2 w2 (by simpa using hls) (hcl.put hi) (λj hj=>?_) ?_ hI2
   ·by_cases e:i=j
    ·exact e▸hiAW
    ·rw [ZR X e] at hj;exact hon j hj
   ·have hnd:(AW).Nodup:=by
     rw [<-hAWd,xJ];refine ⟨hAnd.imp λh=>VC h,?_,λx hx y hy e=>?_⟩
     ·rw [x9,ME]
      exact ⟨λhm=>((hCm _).1 hm).2.1 rfl,hCnd.imp λh=>VC h⟩
     ·subst e
      rw [x9,B7] at hy;rcases hy with rfl|hy
      ·exact ((hAm _).1 hx).2.1 rfl
      ·exact hAC _ hx hy
    have hil:l.getD i X=false:=by
     have:=(Em.1 hi).1
     rwa [dO (by rw [hls];exact QE hi)] at this
    have hlt:i<l.size:=by rw [hls];exact QE hi
    have e:((AW).filter λj=>!(l.setIfInBounds i U).getD j X)=((AW).filter λj=>!l.getD j X).erase i:=by
     rw [List.Nodup.erase_eq_filter<|hnd.filter _,List.filter_filter];refine wv λj _=>?_
     by_cases e:i=j
     ·subst e;simp [hlt]
     ·rw [ZR X e]
      simp [OZ e]
    rw [e,List.length_erase_of_mem<|DE.2 ⟨hiAW,by simp [hil]⟩,hk]
    rfl
 have hcount:ops.size=M ((AW).filter λi=>!(Array.replicate ops.size X).getD i X)+M (Jb ops wi):=by
  rw [List.filter_eq_self.2 λi hi=>by
   have:i<ops.size:=by
    obtain ⟨o,_,ho,_⟩:=cDst i hi;exact (HX.1 ho).1
   simp [this]]
  have hlen:=aeU ops.size (λi=>i==wi) (λi=>(Gc ops i).contains wi) ⟨wi,hwlt,AI,λj _ hj=>lQ⟩
  have hsp:=aeE (au ops.size) (λi=>!(i==wi)&&(Gc ops i).contains wi) λi=>allA ops wi i
  have eC:M C=M ((au ops.size).filter λi=>(!(i==wi)&&(Gc ops i).contains wi)&&!allA ops wi i):=by
   rw [<-hC];unfold R3
   congr 1
   exact wv λi _=>by rw [VA]
  have eB:M (Jb ops wi)=M ((au ops.size).filter λi=>(!(i==wi)&&(Gc ops i).contains wi)&&allA ops wi i):=by
   unfold Jb
   congr 1
   exact wv λi _=>by rw [VA]
  have eA:M A=M ((au ops.size).filter λi=>!(i==wi)&&!(Gc ops i).contains wi):=by rw [<-hA];rfl
  rw [<-hAWd,BF,BF,List.length_singleton,eA,eC,eB];omega
 have hbd:Below w.heap.size w {w with drawn:=w.drawn+1}:=⟨rfl,rfl,rfl,Ar _,λ_ _=>rfl⟩
 rw [show wpAnyIn (DP r) m P .any ops Q ops.size (Array.replicate ops.size X) a {w with drawn:=w.drawn+1}=wpAnyIn (DP r) m P .any ops Q (M ((AW).filter λi=>!(Array.replicate ops.size X).getD i X)+M (Jb ops wi)) (Array.replicate ops.size X) a {w with drawn:=w.drawn+1} from congrFun (congrFun (congrFun (B0 _ hcount) _) _) _]
 refine main _ (Array.replicate ops.size X) a _ AI (λi o ho hL=>?_) (λi hi=>?_) rfl ?_
 ·have:=(HX.1 ho).1
  simp [this] at hL
 ·exfalso
  rcases Pp i ops.size with h|h<;>simp [h] at hi
 ·have hFS:JN ops AW F F3 (Array.replicate ops.size X)=F:=by
   refine pT Vg λt ht=>?_
   rw [cu yF,AE];intro hany;obtain ⟨j,_,e⟩:=OW.1 hany;rcases Pp j ops.size with h|h<;>simp [h] at e
  have hz:(Array.replicate ops.size X).getD wi X=false:=by simp [hwlt]
  refine ⟨Z,β,?_,?_⟩
  ·rw [hz];exact hW0.same hbd
  ·rw [hz,hFS];exact hF0.mono (Ar _) (λ_ _=>rfl) (λ_ h=>h) λ_ _=>rfl
def aeT (hΓ:∀g S,Γ g=ah S->Valid P G g S) (hK:FE P G K) {id:Nat}{ops:Array Oper}{Q:Exit->Act->World->Prop}{F':List LV}{H':List AB}(hQ:∀Z' β' a' w',RW G w0 Z0 Z' β' H' w'->RF ds β' Z' w' (M H') F' a'->Q .normal a' w')
  (hW0:RW G w0 Z0 Z β H w) (hF0:RF ds β Z w (M H) F a) (h:(zx P G Γ K ops F H).all λq=>q=(F',H')) (r:Option Nat) (m:Nat):(Code.region id ops U).wpIn (DP r) m P Q a w:=by
 unfold zx at h;split at h
 ·exact adl hΓ hK hQ hW0 hF0 h r m
 ·split at h
  ·rename_i wi hwi
   have:=afX hΓ hK hQ hwi hW0 hF0 h r m
   exact wpIn_region_any this.1 this.2
  ·exact adl hΓ hK hQ hW0 hF0 h r m
end Go.Sx
namespace Go.Sx
open Go Go.RowKit Go.Proofs.YtipodhghjclmbaaGreatDoor
variable {P : Program} {G : B1} {Γ : Specs} {K : Hand} {A : Gz -> Prop} {β : Nat -> Loc} {Z : Nat -> Prop} {Z0 : Gz} {w w0 : World} {F : List LV} {H : List AB} {a : Act} {ds : List Deferred} {n : Nat}
def wO:Ex->Exit
 | .normal=> .normal
 | .exit n=> .exit n
 | .ret=> .ret
structure Lz (w0:World) (Z0:Gz) (ds:List Deferred):Prop where
 new:∀D,GW D∈ds->w0.heap.size<=D/\D∉Z0.Ci
 nodup:ds.Nodup
def Lz.nil {w0:World}{Z0:Gz}:Lz w0 Z0 []:=⟨λ_ h=>Ao,List.nodup_nil⟩
def Ga (P:Program) (G:B1) (A:Gz->Prop) (c:Code) (t:List LV->List AB->T (Ex×List LV×List AB)):Prop:=
 ∀(r:Option Nat) (w0:World) (Z0:Gz) (Z:Nat->Prop) (β:Nat->Loc) (F:List LV) (H:List AB) (a:Act) (w:World) (ds:List Deferred) (Q:Exit->Act->World->Prop) (x:Ex) (F':List LV) (H':List AB),
  A Z0->(r=aj\/Ho c=U)->Lz w0 Z0 ds->RW G w0 Z0 Z β H w->RF ds β Z w (M H) F a->(t F H).all (λq=>q=(x,F',H'))->(∀ds' Z' β' a' w',Lz w0 Z0 ds'->RW G w0 Z0 Z' β' H' w'->RF ds' β' Z' w' (M H') F' a'->Q (wO x) a' w')->c.wpIn (DP r) 0 P Q a w
def AN (N:Nat):Gz->Prop:=λz=>∀p,p∈z.gh->okV N p.1
abbrev Sound (P:Program) (G:B1):=Ga P G<|AN 0
def BD:Code->List Code
 | .seq a b=>BD a++BD b
 | .cond _ a b=>BD a++BD b
 | .block _ b=>BD b
 | .loop b=>[b]
 | .scope b=>BD b
 |_=>[]
def It:Code->List (Array Tmp×Code×Code)
 | .seq a b=>It a++It b
 | .cond _ a b=>It a++It b
 | .block _ b=>It b
 | .loop b=>It b
 | .rangeFunc _ ps a b=>[(ps,a,b)]
 | .scope b=>It b
 |_=>[]
def ml {w:World}{D:Nat}(h:Fc w D) (o':Obj) {b o:Nat}{z:Value}(hz:w.cell? ⟨b,o,aj⟩=ah z):(w.putObj D o').cell? ⟨b,o,aj⟩=ah z:=by
 have hne:b≠D:=by
  rintro rfl
  unfold Fc at h
  simp [World.cell?,h] at hz
 rwa [Q5<|MB hne]
def RD.shut {D:Nat}(h:Fc w D) (o':Obj):∀(t:Ty) (d:t.D) (b o:Nat),RD Z w t d b o->RD Z (w.putObj D o') t d b o
 | .int _,_,b,o,hh=>yB
 | .bool,_,b,o,hh=>yB
 | .str,_,b,o,hh=>yB
 | .sl e,l,b,o,hh=>by
  obtain ⟨a,cap,h1,h2,h3⟩:=hh;refine ⟨a,cap,ml h o' h1,h2,λhn=>?_⟩
  obtain ⟨b',o'',h4,h5,h6⟩:=h3 hn;exact ⟨b',o'',h4,h5,λi d hd=>RD.shut h o' e d b' _<|h6 i d hd⟩
 | .pair x y,d,b,o,hh=>by
  exact ⟨RD.shut h o' x d.1 b o hh.1,RD.shut h o' y d.2 b _ hh.2⟩
theorem Vu {w:World}{D:Nat}(h:Fc w D) (o':Obj) {b:Nat}{x:Obj}(hx:w.heap[b]? =ah x) (hn:∀q,x≠ .deferred q):(w.putObj D o').heap[b]? =ah x:=by
 have hne:b≠D:=by
  rintro rfl
  rw [h] at hx
  grind
 rwa [MB hne]
mutual
def R.shut {D:Nat}(h:Fc w D) (o':Obj):∀(x:LV) (y:Value),R β Z w x y->R β Z (w.putObj D o') x y
 | .v _,_,hh=>hh
 | .bl _,_,hh=>hh
 | .ki _ _,_,hh=>hh
 | .own k off,y,hh=>VM
 | .agg l,y,hh=>by
  exact kM
 | .AO l,y,hh=>by
  exact kM
 | .fn f l,y,hh=>by
  exact kM
 | .fb f l,y,hh=>by
  exact kM
 | .xq n f,y,hh=>by
  simp only [R] at*;obtain ⟨b,off,h1,hz,h2⟩:=hh;refine ⟨b,off,h1,hz,λj hj=>?_⟩
  obtain ⟨z,h3,h4⟩:=h2 j hj;exact ⟨z,ml h o' h3,R.shut h o' (f j) z h4⟩
 | .xl e l,y,hh=>by
  simp only [R] at*;obtain ⟨a,cap,h1,h2,h3⟩:=hh;refine ⟨a,cap,h1,h2,λhn=>?_⟩
  obtain ⟨b,off,h4,h5,h6⟩:=h3 hn;exact ⟨b,off,h4,h5,λi d hd=>RD.shut h o' e d b _ (h6 i d hd)⟩
 | .os k es off n,y,hh=>VM
 | .op k es i j,y,hh=>VM
 | .om k,y,hh=>VM
 | .mp kd ks vs,y,hh=>by
  simp only [R] at*;obtain ⟨r,es,clock,h1,h2,h3,h4,h5⟩:=hh;exact ⟨r,es,clock,h1,h2,Vu h o' h3 (λ_ e=>Q3),h4,RL.shut h o' vs _ h5⟩
 | .oc k es off n c,y,hh=>VM
 | .CK k,y,hh=>VM
 | .junk,_,_=>JR
def RL.shut {D:Nat}(h:Fc w D) (o':Obj):∀(x:List LV) (y:List Value),RL β Z w x y->RL β Z (w.putObj D o') x y
 | [],_,hh=>by simpa only [RL] using hh
 |x::xs,ys,hh=>by
  simp only [RL] at*;obtain ⟨y,zs,h1,h2,h3⟩:=hh;exact ⟨y,zs,h1,R.shut h o' x y h2,RL.shut h o' xs zs h3⟩
end
def BZ.shut {D:Nat}(h:Fc w D) (o':Obj) {k:Nat}{b:AB}(hh:BZ β Z w k b):BZ β Z (w.putObj D o') k b:=by
 unfold BZ at*;cases hk:b.k with
 |cl=>
  simp only [hk] at hh|-;obtain ⟨cs,h1,h2⟩:=hh;exact ⟨cs,Vu h o' h1 λ_ e=>Q3,RL.shut h o' _ _ h2⟩
 | vec e l=>
  simp only [hk] at hh|-;cases hc:(β k).cap with
  |none=>simp only [hc] at hh|-;exact hh
  |some c=>
   simp only [hc] at hh|-;obtain ⟨cs,h1,h2,h3,h4⟩:=hh;exact ⟨cs,Vu h o' h1 λ_ e=>Q3,h2,h3,λi d hd=>RD.shut h o' e d _ _<|h4 i d hd⟩
 |mp kd ks vs=>
  simp only [hk] at hh|-;obtain ⟨es,clock,h1,h2,h3⟩:=hh;exact ⟨es,clock,Vu h o' h1 λ_ e=>Q3,h2,RL.shut h o' _ _ h3⟩
 |Cc ps asg body st=>
  simp only [hk] at hh|-;obtain ⟨r,h1,h2,h3,h4,h5,h6⟩:=hh;exact ⟨r,Vu h o' h1 λ_ e=>Q3,h2,h3,h4,h5,RL.shut h o' _ _ h6⟩
 |st e l=>
  simp only [hk] at hh|-;obtain ⟨es,clock,h1,h2,h3⟩:=hh;exact ⟨es,clock,Vu h o' h1 λ_ e=>Q3,h2,h3⟩
 |dead=>trivial
def putObj_size (w:World) (D:Nat) (o:Obj):(w.putObj D o).heap.size=w.heap.size:=AI
def Fc.lt {w:World}{D:Nat}(h:Fc w D):D<w.heap.size:=(HX.1 h).1
theorem RW.shut (hW:RW G w0 Z0 Z β H w) {D:Nat}(h:Fc w D) (h0:w0.heap.size<=D) (hm:D∉Z0.Ci) (o':Obj):RW G w0 Z0 Z β H (w.putObj D o'):=
 ⟨hW.below.trans ⟨rfl,rfl,rfl,k7 (putObj_size _ _ _).symm,λi hi=>MB A0⟩,λb hz=>by rw [putObj_size];exact hW.Bb b hz,hW.EX,hW.Cf,hW.G6,hW.low,hW.inj,
  λk b hb=>⟨(hW.blk k b hb).1.shut h o',(hW.blk k b hb).2⟩,λg n f hg=>⟨(hW.CW g n f hg).1,λj hj=>ml h o'<|(hW.CW g n f hg).2 j hj⟩,
  λp hp=>⟨R.shut h o' _ _ (hW.gh p hp).1,(hW.gh p hp).2⟩,λD' hD'=>⟨(hW.Ci D' hD').1,by
   unfold Fc;rw [MB λe=>hm A8]
   exact (hW.Ci D' hD').2⟩⟩
theorem aC1 {fn:Func}{R:Ending->World->Prop}:∀(ds:List Deferred) (w:World) (a:Act),RW G w0 Z0 Z β H w->RF ds β Z w n F a->Lz w0 Z0 ds->
  (∀w' a',a'.tmps=a.tmps->RW G w0 Z0 Z β H w'->RF [] β Z w' n F a'->∃v,(results fn a.tmps).run P w'=.ok v w'/\R (.returned v) w')->LeavesInM Fence.wide 0 P fn a.tmps R ds .returning w
 | [],w,a,hW,hF,_,hR=>hR w {a with defers:=[]} rfl hW ⟨hF.size,hF.get,rfl,λ_ h=>Ao⟩
 |d::ds,w,a,hW,hF,hD,hR=>by
  obtain ⟨D,rfl,hz,hm⟩:=hF.defers.2 d AI;obtain ⟨n1,n2⟩:=hD.new D AI
  have nd:=ME.1 hD.nodup
  refine ⟨AI,.inl ⟨D,w.putObj D<|.deferred aj,rfl,run_takeDeferred hm,?_⟩⟩;refine aC1 ds (w.putObj D<|.deferred aj) {a with defers:=ds} (hW.shut hm n1 n2 _) ⟨hF.size,λt x hx=>⟨Go.Sx.R.shut hm _ _ _ (hF.get t x hx).1,(hF.get t x hx).2⟩,rfl,λd hd=>?_⟩ ⟨λD' h'=>hD.new D' A8,nd.2⟩ λw' a' e=>hR w' a' e
  obtain ⟨D',e1,e2,e3⟩:=hF.defers.2 d A8;refine ⟨D',e1,e2,?_⟩;unfold Fc
  rwa [MB λe=>nd.1 A8]
def RF.RL (hF:RF ds β Z w n F a):RL β Z w F a.tmps.toList/\AS n F:=by
 refine ⟨RL.CQ (by simp [hF.size]) λi x hx=>?_,AS.CQ λi x hx=>(hF.get i x hx).2⟩
 have hi:i<a.tmps.size:=by rw [hF.size];exact (Dv.1 hx).1
 have:=(hF.get i x hx).1
 refine ⟨a.tmps[i],AI,?_⟩
 have e:a.tmps.getD i undef=a.tmps[i]:=G1
 rw [e] at this;exact this
theorem anT (us:List Nat) {ys:List Value}(h:RL β Z w F ys) (hk:AS n F):RL β Z w (PE us F) ys/\AS n (PE us F):=by
 have hl:=RL.length h
 have at_:∀(i:Nat) (x:LV),(PE us F)[i]? =ah x->i<M F/\(x=.junk\/F[i]? =ah x):=λi x hx=>by
  simp only [PE,DS] at hx
  by_cases hi:i<M F
  ·simp only [xE hi,JQ,Ah] at hx
   refine ⟨hi,?_⟩;split at hx
   ·right
    grind
   ·grind
  ·rw [ZK A8] at hx
   cases hx
 refine ⟨RL.CQ (by simp [PE,hl]) λi x hx=>?_,AS.CQ λi x hx=>?_⟩
 ·obtain ⟨hi,h1⟩:=at_ i x hx
  rcases h1 with rfl|h1
  ·exact ⟨ys[i]' A0,DQ _,JR⟩
  ·exact RL.get i x h h1
 ·obtain ⟨hi,h1⟩:=at_ i x hx
  rcases h1 with rfl|h1
  ·trivial
  ·exact AS.get i x hk h1
theorem aeG {o:Option AB}{x:Ex}(h:uQ o=ah x):∃c t ps asg body,(o=ah ⟨c,t,.Cc ps asg body .ready,X⟩/\x=.normal)\/(o=ah ⟨c,t,.Cc ps asg body<|.done x,X⟩/\x≠ .normal):=by
 unfold uQ at h;split at h
 ·rename_i c t ps asg body
  grind
 ·rename_i c t ps asg body y
  split at h
  ·cases h
  ·rename_i hn
   have:=Dw h
   subst this
   grind
 ·cases h
def RW.turn {k:Nat}{c:List LV}{t t':TypeId}{ps:Array Tmp}{asg body:Code}{st:LS}{nb:BK}{r':Loop}(hW:RW G w0 Z0 Z β H w) (hb:H[k]? =ah ⟨c,t,.Cc ps asg body st,X⟩)
  (hn:BZ β Z (w.putObj (β k).b<|.loop r') k ⟨c,t',nb,X⟩) (hok:okB (M H) ⟨c,t',nb,X⟩):RW G w0 Z0 Z β (H.set k ⟨c,t',nb,X⟩) (w.putObj (β k).b<|.loop r')/\(∀b,Z b->(w.putObj (β k).b<|.loop r').heap[b]? =w.heap[b]?):=
 ⟨hW.set hb trivial rfl rfl hok (putObj_size _ _ _) ⟨rfl,rfl,rfl⟩ (λj hj=>MB hj) hn,λb hz=>MB λe=>hW.Cf k _ hb trivial rfl (e▸hz)⟩
theorem qP {r:Option Nat}{p q:Bool}(h:r=aj\/(p&&q)=U):(r=aj\/p=U)/\(r=aj\/q=U):=by
 rcases h with h|h
 ·grind
 ·simp only [AY] at h
  grind
def Vl {b:Frame}{k:List Item}{cs:List Frame}{c:Code}:step P (lone (b.atR a (.code (.scope c)::k)) cs w)=.next (lone (b.atR a (.code c::.inScope c::k)) cs w):=
 step_lone_go aN6
def adv {b:Frame}{k:List Item}{cs:List Frame}{c:Code}:step P (lone (b.atR a (.inScope c::k)) cs w)=.next (lone (b.atR a k) cs w):=
 step_lone_go aN6
theorem aeb {E:Fence}{m:Nat}{Q:Exit->Act->World->Prop}{c:Code}(h:c.wpIn E m P (Exit.noGoto Q) a w):(Code.scope c).wpIn E m P Q a w:=by
 intro b k cs hro hb hr
 have h0:(lone (b.atR a (.code (.scope c)::k)) cs w).fenced P E:=fenced_calm hb hr rfl
 obtain ⟨e,a₁,w₁,hq,harr⟩:=h b (.inScope c::k) cs hro hb hr;cases e with
 |normal=>exact ⟨.normal,a₁,w₁,hq,.head h0 Vl<|StepsIn.trans harr<|.one (fenced_calm hb hr rfl) adv⟩
 | exit id'=>
  have hx:exitTo id' (.inScope c::k)=exitTo id' k:=by simp [exitTo]
  exact ⟨.exit id',a₁,w₁,hq,λk' hk=> .head h0 Vl<|harr.1 k' A8,
   λhr' hk=>let ⟨k₁,h1,h2⟩:=harr.2 hr' A8;⟨k₁,h1,.head h0 Vl h2⟩⟩
 |goto l=>exact hq.elim
 |ret=>exact ⟨_,a₁,w₁,hq,.of_steps (.one h0 Vl) harr⟩
 |panic ch=>exact ⟨_,a₁,w₁,hq,.of_steps (.one h0 Vl) harr⟩
 |outgrown=>exact ⟨_,a₁,w₁,hq,.of_steps (.one h0 Vl) harr⟩
def GP {L:Qi} (hΓ:∀g S,Γ g=ah S->Valid P G g S) (hK:FE P G K):∀(c:Code),(∀b∈BD c,Ga P G A (.loop b)<|L b)->Ga P G A c (D8 P G Γ K L c)
 | .skip,_=>λr w0 Z0 Z β F H a w ds Q x F' H' hA hr hD hW hF h hQ=>by
  simp only [D8,T.all,Ax] at h;obtain ⟨rfl,rfl,rfl⟩:=h;exact wpIn_skip (hQ ds Z β a w hD hW hF)
 | .ret,_=>λr w0 Z0 Z β F H a w ds Q x F' H' hA hr hD hW hF h hQ=>by
  simp only [D8,T.all,Ax] at h;obtain ⟨rfl,rfl,rfl⟩:=h;exact wpIn_ret (hQ ds Z β a w hD hW hF)
 | .exit m,_=>λr w0 Z0 Z β F H a w ds Q x F' H' hA hr hD hW hF h hQ=>by
  simp only [D8,T.all,Ax] at h;obtain ⟨rfl,rfl,rfl⟩:=h;exact wpIn_exit (hQ ds Z β a w hD hW hF)
 | .region id ops d,_=>λr w0 Z0 Z β F H a w ds Q x F' H' hA hr hD hW hF h hQ=>by
  simp only [D8] at h;obtain ⟨⟨F1,H1⟩,h1,h2⟩:=T.B4 h;simp only [T.all,Ax] at h2;obtain ⟨rfl,rfl,rfl⟩:=h2;cases d with
  |true=>exact aeT hΓ hK (λZ' β' a' w' e1 e2=>hQ ds Z' β' a' w' hD e1 e2) hW hF h1 r 0
  |false=>exact afb hΓ hK (λZ' β' a' w' e1 e2=>hQ ds Z' β' a' w' hD e1 e2) hW hF h1 r 0
 | .seq c1 c2,hl=>λr w0 Z0 Z β F H a w ds Q x F' H' hA hr hD hW hF h hQ=>by
  simp only [D8] at h;obtain ⟨⟨y,F1,H1⟩,h1,h2⟩:=T.B4 h;obtain ⟨hr1,hr2⟩:=qP (show r=aj\/(Ho c1&&Ho c2)=U from hr);refine wpIn_seq<|GP hΓ hK c1 (λb hb=>hl b So) r w0 Z0 Z β F H a w ds _ y F1 H1 hA hr1 hD hW hF h1 λds' Z' β' a' w' e0 e1 e2=>?_
  cases y with
  |normal=>exact GP hΓ hK c2 (λb hb=>hl b So) r w0 Z0 Z' β' F1 H1 a' w' ds' Q x F' H' hA hr2 e0 e1 e2 h2 hQ
  |exit m=>
   simp only [T.all,Ax] at h2;obtain ⟨rfl,rfl,rfl⟩:=h2;exact hQ ds' Z' β' a' w' e0 e1 e2
  |ret=>
   simp only [T.all,Ax] at h2;obtain ⟨rfl,rfl,rfl⟩:=h2;exact hQ ds' Z' β' a' w' e0 e1 e2
 | .cond c c1 c2,hl=>λr w0 Z0 Z β F H a w ds Q x F' H' hA hr hD hW hF h hQ=>by
  have s1:=GP hΓ hK c1 λb hb=>hl b So
  have s2:=GP hΓ hK c2 λb hb=>hl b So
  obtain ⟨hr1,hr2⟩:=qP (show r=aj\/(Ho c1&&Ho c2)=U from hr);simp only [D8] at h;split at h
  ·rename_i d
   split at h
   ·rename_i hb
    obtain ⟨q1,q2⟩:=hF.slot hb AI
    have hv:=(hF.get d _ q1).1
    simp only [R] at hv;exact wpIn_cond_true yL<|s1 r w0 Z0 Z β F H a w ds Q x F' H' hA hr1 hD hW hF h hQ
   ·rename_i hb
    obtain ⟨q1,q2⟩:=hF.slot hb AI
    have hv:=(hF.get d _ q1).1
    simp only [R] at hv;exact wpIn_cond_false yL<|s2 r w0 Z0 Z β F H a w ds Q x F' H' hA hr2 hD hW hF h hQ
   ·rename_i g hb
    obtain ⟨q1,q2⟩:=hF.slot hb AI
    have hv:=(hF.get d _ q1).1
    simp only [R] at hv
    have kn:∀b,g=b->RF ds β Z w H.length (F.set d<|.bl b) a:=λb e=>hF.know lC trivial
    simp only [T.all] at h;refine wpIn_cond_split (t:=g) yL (λhg=>s1 r w0 Z0 Z β _ H a w ds Q x F' H' hA hr1 hD hW (kn U hg) (h.1 hg) hQ) λhg=>s2 r w0 Z0 Z β _ H a w ds Q x F' H' hA hr2 hD hW (kn X hg) (h.2 hg) hQ
   ·cases h
  ·exact wpIn_cond_true rfl<|s1 r w0 Z0 Z β F H a w ds Q x F' H' hA hr1 hD hW hF h hQ
  ·exact wpIn_cond_false rfl<|s2 r w0 Z0 Z β F H a w ds Q x F' H' hA hr2 hD hW hF h hQ
  ·cases h
 | .block id c,hl=>λr w0 Z0 Z β F H a w ds Q x F' H' hA hr hD hW hF h hQ=>by
  simp only [D8] at h;obtain ⟨⟨y,F1,H1⟩,h1,h2⟩:=T.B4 h;refine wpIn_block<|GP hΓ hK c (λb hb=>hl b<|by simpa [BD] using hb) r w0 Z0 Z β F H a w ds _ y F1 H1 hA hr hD hW hF h1 λds' Z' β' a' w' e0 e1 e2=>?_
  cases y with
  |normal=>
   simp only [T.all,Ax] at h2;obtain ⟨rfl,rfl,rfl⟩:=h2;exact hQ ds' Z' β' a' w' e0 e1 e2
  | exit m=>
   simp only at h2;simp only [wO,Exit.inBlock];split at h2
   ·rename_i hm
    simp only [T.all,Ax] at h2;obtain ⟨rfl,rfl,rfl⟩:=h2;rw [AD hm];exact hQ ds' Z' β' a' w' e0 e1 e2
   ·rename_i hm
    simp only [T.all,Ax] at h2;obtain ⟨rfl,rfl,rfl⟩:=h2;rw [AE hm];exact hQ ds' Z' β' a' w' e0 e1 e2
  |ret=>
   simp only [T.all,Ax] at h2;obtain ⟨rfl,rfl,rfl⟩:=h2;exact hQ ds' Z' β' a' w' e0 e1 e2
 | .loop b,hl=>hl b (by simp [BD])
 | .rangeFunc g ps asg body,_=>λr w0 Z0 Z β F H a w ds Q x F' H' hA hr hD hW hF h hQ=>by
  have hr0:r=none:=by
   rcases hr with h|h
   ·exact h
   ·simp [Ho] at h
  subst hr0;simp only [D8] at h;split at h
  ·rename_i gf cap hg
   split at h
   ·rename_i fn hfn
    split at h
    ·rename_i hb
     simp only [AY,Cs] at hb;obtain ⟨⟨lv,H1⟩,h1,h2⟩:=T.B4 h;simp only at h2
     have hgr:=hF.eval hW.CW g
     rw [hg] at hgr;simp only [R,okV] at hgr;obtain ⟨⟨ys,hy,hyr⟩,hcap⟩:=hgr;split at h2
     ·rename_i x' hx'
      simp only [T.all,Ax] at h2;obtain ⟨rfl,rfl,rfl⟩:=h2;refine wpIn_rangeFunc ?_;intro fn0 _
      have hb1:Below w.heap.size w (w.alloc<|.deferred<|ah []):=(Below.refl _ _).alloc (Ar _) _
      have hWd:=hW.call hb1
      generalize hrec:({state:=.ready,pending:=aj,fn:=fn0,tmps:=a.tmps,params:=ps,assign:=asg,body:=body,defers:=w.heap.size}:Loop)=rec0 at*;generalize hwd:w.alloc (.deferred<|ah [])=wd at*
      have hsd:wd.heap.size=w.heap.size+1:=by rw [<-hwd];simp [World.size_alloc]
      have hmd:Fc wd w.heap.size:=by rw [<-hwd];exact World.alloc_heap_new w _
      have hb2:Below wd.heap.size wd (wd.alloc<|.loop rec0):=(Below.refl _ _).alloc (Ar _) _
      have hW1:=hWd.same hb2
      generalize hw1:wd.alloc (.loop rec0)=w1 at*
      have hl1:w1.heap[wd.heap.size]? =ah (.loop rec0):=by rw [<-hw1];exact World.alloc_heap_new wd _
      have hF1:RF ds β (λb=>Z b\/(w.heap.size<=b/\b<wd.heap.size)) w1 H.length F a:=hF.mono (Ar _) (λ_ _=>rfl) (λ_ h=> .inl h) (λb hz=>by
       have hlt:=hW.Bb b hz
       rw [Dx hb2 A0,Dx hb1 hlt])
      have hm1:Fc w1 w.heap.size:=by unfold Fc;rw [Dx hb2 A0];exact hmd
      have hF2:RF (GW w.heap.size::ds) β (λb=>Z b\/(w.heap.size<=b/\b<wd.heap.size)) w1 H.length F {a with defers:=GW w.heap.size::a.defers}:=by
       refine ⟨hF1.size,hF1.get,by rw [hF1.defers.1],λd hd=>?_⟩
       rcases B7.1 hd with rfl|hd
       ·exact ⟨_,rfl,.inr ⟨Ar _,A0⟩,hm1⟩
       ·exact hF1.defers.2 d hd
      have hD2:Lz w0 Z0 (GW w.heap.size::ds):=by
       refine ⟨λD hd=>?_,ME.2 ⟨λhd=>?_,hD.nodup⟩⟩
       ·rcases B7.1 hd with hd|hd
        ·simp only [GW,Deferred.mk.injEq,Target.collected.injEq] at hd
         rw [hd.1];exact ⟨hW.below.size,λhm=>by have:=(hW.Ci _ hm).2.lt;omega⟩
        ·exact hD.new D hd
       ·obtain ⟨D,e1,_,e3⟩:=hF.defers.2 _ hd
        simp only [GW,Deferred.mk.injEq,Target.collected.injEq] at e1
        have:=e3.lt
        omega
      obtain ⟨fr1,fr2⟩:=hF1.RL;obtain ⟨fr1,fr2⟩:=anT (Gi asg++Gi body) fr1 fr2
      obtain ⟨β2,b1,b2,hW2⟩:=hW1.KO (ℓ:=⟨wd.heap.size,0,aj⟩) (nb:=⟨PE (Gi asg++Gi body) F,0,.Cc ps asg body .ready,X⟩) rfl ⟨AS.mono A0 _ fr2,ak⟩ (λ_=>⟨λhz=>by
        rcases hz with hz|hz
        ·have:=hW.Bb _ hz;simp only at this;omega
        ·simp only at hz;omega,by have:=hW.below.size;simp only;omega,λj bj hj lj e=>Sm⟩) (λβ' q1 q2=>by
       simp only [BZ,q2];refine ⟨rec0,hl1,yr,yr,yr,by rw [<-hrec];exact A9,?_⟩
       rw [<-hrec];exact RL.mono q1 (λ_ h=>h) (λ_ _=>rfl) _ _ fr2 fr1)
      have hF3:RF (GW w.heap.size::ds) β2 (λb=>Z b\/(w.heap.size<=b/\b<wd.heap.size)) w1 (H++[(⟨PE (Gi asg++Gi body) F,0,.Cc ps asg body .ready,X⟩:AB)]).length F {a with defers:=GW w.heap.size::a.defers}:=hF2.mono AI b1 (λ_ h=>h) λ_ _=>rfl
      have hW3:=hW2.hold hF3
      have hyl:R β2 (λb=>Z b\/(w.heap.size<=b/\b<wd.heap.size)) w1 (.CK H.length) (.func (.yield wd.heap.size) #[] #[]):=by simp only [R,b2]
      have hW4:RW G w0 ⟨Z0.z,(LV.CK H.length,Value.func (.yield wd.heap.size) #[] #[])::(F.zip a.tmps.toList++Z0.gh),dsB (GW w.heap.size::ds)++Z0.Ci⟩ (λb=>Z b\/(w.heap.size<=b/\b<wd.heap.size)) β2 (H++[⟨PE (Gi asg++Gi body) F,0,.Cc ps asg body .ready,X⟩]) w1:=
       ⟨hW3.below,hW3.Bb,hW3.EX,hW3.Cf,hW3.G6,hW3.low,hW3.inj,hW3.blk,hW3.CW,λp hp=>by
        rcases B7.1 hp with rfl|hp
        ·exact ⟨hyl,MG⟩
        ·exact hW3.gh p hp,hW3.Ci⟩
      have hyr2:RL β2 (λb=>Z b\/(w.heap.size<=b/\b<wd.heap.size)) w1 cap ys.toList:=RL.mono (n:=H.length) b1 (λ_ h=> .inl h) (λb hz=>by
       have hlt:=hW.Bb b hz
       rw [Dx hb2 A0,Dx hb1 hlt]) _ _ hcap hyr
      have hbn:¬fn.body=none:=by intro hbb;simp [hbb] at hb
      have hb3:¬fn.name= "runtime.NumGoroutine":=by simpa using hb.2
      have eg:∀args w,(callFunc gf args).run P w=.ok (.enter gf args) w:=λargs w=>by simp [callFunc,hfn,hb3,hbn]
      refine ⟨wd.heap.size,[GW w.heap.size],w1,{target:=.fn (.func gf) ys,args:=#[.func (.yield wd.heap.size) #[] #[]]},w1,gf,#[.func (.yield wd.heap.size) #[] #[]]++ys,w1,?_,?_,λ_ _=>trivial,?_,λh=>Ao,VB.2 ?_⟩
      ·have:=run_enterLoop_outer (P:=P) (w:=w) fn0 a.tmps ps asg body
       rw [hrec,hwd,hw1,<-hsd] at this;exact this
      ·simp only [resolve,hy]
       simp [go_sem]
      ·simp [invoke,go_sem,eg]
      ·refine (hK.k w0 _ _ β2 _ w1 gf (.CK H.length::cap) _ lv H1 hW4 (by simp only [kG,RL];exact ⟨_,ys.toList,rfl,hyl,hyr2⟩) ⟨MG,AS.mono AI _ hcap⟩ h1).mono λe w2 ⟨v,he,Z',β',r1,r2,r3⟩=>?_
       subst he
       have hat:(β' H.length).b=wd.heap.size:=by
        have:=(r1.gh (LV.CK H.length,Value.func (.yield wd.heap.size) #[] #[]) AI).1
        exact aLg
       have r1':RW G w0 ⟨Z0.z,F.zip a.tmps.toList++Z0.gh,dsB (GW w.heap.size::ds)++Z0.Ci⟩ Z' β' H1 w2:=⟨r1.below,r1.Bb,r1.EX,r1.Cf,r1.G6,r1.low,r1.inj,r1.blk,r1.CW,λp hp=>r1.gh p<|Sa _ hp,r1.Ci⟩
       have hF5:=RW.held hF3 r1'
       have hW5:RW G w0 Z0 Z' β' H1 w2:=r1'.less
       obtain ⟨c',t',ps',asg',body',hx⟩:=aeG hx'
       have fin:∀st,H1[H.length]? =ah ⟨c',t',.Cc ps' asg' body' st,X⟩->∃rr,w2.heap[wd.heap.size]? =ah (.loop rr)/\LsR st rr/\∀rr',RW G w0 Z0 Z' β' (H1.set H.length ⟨[],0,.dead,X⟩) (w2.putObj wd.heap.size<|.loop rr')/\RF (GW w.heap.size::ds) β' Z' (w2.putObj wd.heap.size<|.loop rr') (H1.set H.length ⟨[],0,.dead,X⟩).length F {a with defers:=GW w.heap.size::a.defers}:=λst hst=>by
        have hbk:=(hW5.blk _ _ hst).1
        simp only [BZ,hat] at hbk;obtain ⟨rr,q1,q2,q3,q4,q5,q6⟩:=hbk;refine ⟨rr,q1,q5,λrr'=>?_⟩
        have hs:=hW5.set (nb:=⟨[],0,.dead,X⟩) (w':=w2.putObj wd.heap.size<|.loop rr') hst trivial rfl rfl ⟨ak,ak⟩ (putObj_size _ _ _) ⟨rfl,rfl,rfl⟩ (λj hj=>MB (by rw [hat] at hj;exact hj)) trivial
        refine ⟨hs,?_⟩;rw [CH];exact hF5.mono (Ar _) (λ_ _=>rfl) (λ_ h=>h) λb hz=>MB λe=>hW5.Cf _ _ hst trivial rfl (by rw [hat,<-e];exact hz)
       rcases hx with ⟨hx,rfl⟩ |⟨hx,hne⟩
       ·obtain ⟨rr,q1,q2,q3⟩:=fin _ hx
        refine ⟨aj,w2.putObj wd.heap.size<|.loop {rr with state:=.exhausted},(run_endLoop q1 (by rw [q2.1];simp)).trans<|by rw [q2.2],?_⟩
        obtain ⟨f1,f2⟩:=q3 {rr with state:=.exhausted}
        exact hQ _ Z' β' _ _ hD2 f1 f2
       ·obtain ⟨rr,q1,q2,q3⟩:=fin _ hx
        refine ⟨aR1 x',w2.putObj wd.heap.size<|.loop {rr with state:=.exhausted},(run_endLoop q1 (by rw [q2.1];simp)).trans<|by rw [q2.2],?_⟩
        obtain ⟨f1,f2⟩:=q3 {rr with state:=.exhausted}
        cases x' with
        |normal=>exact absurd rfl hne
        |exit m=>exact wpIn_exit (hQ _ Z' β' _ _ hD2 f1 f2)
        |ret=>exact wpIn_ret<|hQ _ Z' β' _ _ hD2 f1 f2
     ·cases h2
    ·cases h
   ·cases h
  ·cases h
 | .scope c,hl=>λr w0 Z0 Z β F H a w ds Q x F' H' hA hr hD hW hF h hQ=>by
  simp only [D8] at h;refine aeb<|GP hΓ hK c (λb hb=>hl b<|by simpa [BD] using hb) r w0 Z0 Z β F H a w ds _ x F' H' hA hr hD hW hF h λds' Z' β' a' w' e0 e1 e2=>?_
  cases x with
  |normal=>exact hQ ds' Z' β' a' w' e0 e1 e2
  |exit m=>exact hQ ds' Z' β' a' w' e0 e1 e2
  |ret=>exact hQ ds' Z' β' a' w' e0 e1 e2
 | .label l,_=>λr w0 Z0 Z β F H a w ds Q x F' H' hA hr hD hW hF h hQ=>by
  simp only [D8,T.all,Ax] at h;obtain ⟨rfl,rfl,rfl⟩:=h;exact wpIn_label (hQ ds Z β a w hD hW hF)
 | .goto ..,_=>λr w0 Z0 Z β F H a w ds Q x F' H' hA hr hD hW hF h hQ=>aNy
 | .refuse ..,_=>λr w0 Z0 Z β F H a w ds Q x F' H' hA hr hD hW hF h hQ=>aNy
def nL {L:LN}(hΓ:∀g S,Γ g=ah S->Valid P G g S) (hK:FE P G K) (c:Code) (hl:∀b∈BD c,Sound P G (.loop b)<|L<|GY b):Sound P G c (D8 P G Γ K (Lv L) c):=GP (L:=Lv L) hΓ hK c hl
def aJl (a:Act):ResultVar->Sem Value
 | .tmp t=>pure (a.tmps.getD t undef)
 | .cell ad t=>do loadVar t (←asAddr (a.tmps.getD ad undef))
def pg (fn:Func) (a:Act):results fn a.tmps=(do let vs ←fn.results.mapM (aJl a);pure (if h:vs.size=1 then vs[0] else .tuple vs)):=by
 congr 1
def aE1 {f:ResultVar->Sem Value}{r:ResultVar}{rs:List ResultVar}{z:Value}{vs:List Value}(h1:(f r).run P w=.ok z w) (h2:(rs.mapM f).run P w=.ok vs w):((r::rs).mapM f).run P w=.ok (z::vs) w:=by
 simp_all
def bh {fn:Func}:∀(rs:List ResultVar) (l:List LV),RW G w0 Z0 Z β H w->RF ds β Z w (M H) F a->(S4 P fn F H rs).all (λq=>q=l)->
  ∃vs:List Value,(rs.mapM<|aJl a).run P w=.ok vs w/\RL β Z w l vs/\AS (M H) l
 | [],l,hW,hF,h=>by
  subst h;exact ⟨[],AI,aH,ak⟩
 | .tmp t::rs,l,hW,hF,h=>by
  obtain ⟨l1,h1,h2⟩:=T.B4 h;obtain ⟨vs,e1,e2,e3⟩:=bh rs l1 hW hF h1
  have ev:=hF.eval hW.CW<|.tmp t
  refine ⟨a.tmps.getD t undef::vs,?_,?_,?_⟩
  ·exact aE1 rfl e1
  ·rw [<-h2];simp only [RL];exact ⟨_,_,rfl,Oy ev.1,e2⟩
  ·rw [<-h2];exact ⟨TB ev.2,e3⟩
 | .cell ad t::rs,l,hW,hF,h=>by
  obtain ⟨y,h1,h2⟩:=T.B4 h;obtain ⟨l1,h3,h4⟩:=T.B4 h2;obtain ⟨vs,e1,e2,e3⟩:=bh rs l1 hW hF h3
  have ev:=hF.eval hW.CW<|.tmp ad
  simp only [AL,Act.eval] at ev;obtain ⟨z,f1,f2,f3⟩:=mw hW h1 ev.1 ev.2
  have f1:=f1 w λ_ _=>rfl
  have f4:(do loadVar t (←asAddr (a.tmps.getD ad undef)):Sem Value).run P w=.ok z w:=by
   have hp:∃q,a.tmps.getD ad undef=.pointer (ah q):=by
    have hr:=ev.1
    generalize hx:F.getD ad .junk=x at h1 hr;cases x with
    |own k off=>simp only [R] at hr;exact ⟨_,hr⟩
    |xq n f=>simp only [R] at hr;obtain ⟨b,off,e,_⟩:=hr;exact ⟨_,e⟩
    |op k es i j=>simp only [R] at hr;exact ⟨_,hr.2⟩
    |_=>unfold FH at h1;split at h1<;>simp only [T.all] at h1
   obtain ⟨q,hq⟩:=hp;rw [hq] at f1|-
   simpa [Instr.loadAt,Instr.sureAddr,asAddr] using f1
  refine ⟨z::vs,?_,?_,?_⟩
  ·exact aE1 f4 e1
  ·rw [<-h4];simp only [RL];exact ⟨_,_,rfl,f2,e2⟩
  ·rw [<-h4];exact ⟨f3,e3⟩
theorem zN {l:List LV}{vs:List Value}(h:RL β Z w l vs):R β Z w (one l) (if hs:vs.toArray.size=1 then vs.toArray[0] else .tuple vs.toArray):=by
 unfold one
 have hl:=RL.length h
 split
 ·rename_i x
  obtain ⟨y,zs,e1,e2,e3⟩:=h
  grind
 ·rename_i hne
  have:¬vs.toArray.size=1:=by
   intro h1
   simp at h1
   rw [h1] at hl;cases l with
   |nil=>simp at hl
   |cons x xs=>cases xs with
    |nil=>exact hne x rfl
    |cons _ _=>simp at hl
  rw [dif_neg this];exact qC A8
def WY {l:List LV}(h:AS n l):okV n (one l):=by
 unfold one;split
 ·exact h.1
 ·exact oq h
theorem aDL {args:List LV}{vals:Array Value}(hr:RL β Z w args vals.toList) (hok:AS (M H) args) (m:Nat):RF [] β Z w (M H) (args++aq (m-M args) (.v undef)) {tmps:=vals++Array.replicate (m-vals.size) undef,defers:=[]}:=by
 have hlen:vals.size=M args:=aN2
 refine ⟨A8,λt x hx=>?_,rfl,λ_ h=>Ao⟩
 by_cases ht:t<M args
 ·rw [HW ht] at hx
  obtain ⟨y,e1,e2⟩:=RL.get _ _ hr hx
  have e3:(vals++Array.replicate (m-vals.size) undef).getD t undef=y:=by
   have hts:t<vals.size:=A0
   have:vals[t]? =ah y:=A8
   rw [jt,xK hts,this];rfl
  exact ⟨A8,AS.get _ _ hok hx⟩
 ·rw [GL A0] at hx
  have hx':x=.v undef:=by
   rw [ZI] at hx;split at hx
   ·grind
   ·cases hx
  have e3:(vals++Array.replicate (m-vals.size) undef).getD t undef=undef:=by
   rw [jt,Array.getElem?_append_right A0,Array.getElem?_replicate]
   grind
  rw [hx',e3];exact ⟨JR,ak⟩
def adC {b:Code}:Ga P G A (.loop b) (dK b):=λ_ _ _ _ _ _ _ _ _ _ _ _ _ _ _ _ _ _ _ h=>Ao
def ae2 {b:Code}{t:List LV->List AB->T (Ex×List LV×List AB)}(hb:Ga P G A b t) (m:Nat):Ga P G A (.loop b) (qk t m):=by
 intro r w0 Z0 Z β F H a w ds Q x F' H' hA hr hD hW hF h hQ;refine wpIn_loop_rounds m ?_
 induction m generalizing Z β F H a w ds with
 |zero=>cases h
 | succ m ih=>
  obtain ⟨⟨y,F1,H1⟩,h1,h2⟩:=T.B4 h;refine hb r w0 Z0 Z β F H a w ds _ y F1 H1 hA hr hD hW hF h1 λds' Z' β' a' w' e0 e1 e2=>?_
  cases y with
  |normal=>exact ih Z' β' F1 H1 a' w' ds' e0 e1 e2 h2
  |exit k=>
   obtain ⟨rfl,rfl,rfl⟩:=h2;exact hQ ds' Z' β' a' w' e0 e1 e2
  |ret=>
   obtain ⟨rfl,rfl,rfl⟩:=h2;exact hQ ds' Z' β' a' w' e0 e1 e2
def Ss (hΓ:∀g S,Γ g=ah S->Valid P G g S) (hK:FE P G K) (m:Nat):∀(d:Nat) (b:Code),Ga P G A (.loop b) (J2 P G Γ K m d b)
 |0,_=>adC
 |d+1,b=>ae2 (GP hΓ hK b λb' _=>Ss hΓ hK m d b') m
def aEa:∀(ts:List Tmp) (xs:List LV) (vs:List Value) (F:List LV) (a:Act),RF ds β Z w n F a->RL β Z w xs vs->AS n xs->RF ds β Z w n (XN F ts xs) {a with tmps:=(ts.zip vs).foldl (λt (p,v)=>t.setIfInBounds p v) a.tmps}
 | [],_,_,F,a,hF,_,_=>by simpa [XN] using hF
 |_::_,[],vs,F,a,hF,hr,_=>by
  subst hr
  simpa [XN] using hF
 |t::ts,x::xs,vs,F,a,hF,hr,hk=>by
  obtain ⟨y,zs,rfl,h1,h2⟩:=hr;exact aEa ts xs zs (F.set t x) {a with tmps:=a.tmps.setIfInBounds t y} (hF.put h1 hk.1<|ah t) h2 hk.2
def afv (ps:Array Tmp) (vs:Array Value) (t:Array Value):(ps.zip vs).foldl (λt (p,v)=>t.setIfInBounds p v) t=(ps.toList.zip vs.toList).foldl (λt (p,v)=>t.setIfInBounds p v) t:=by
 rw [<-Array.foldl_toList,Array.toList_zip]
def EF (P:Program) (G:B1) (LL:DG):Prop:=∀(K:Hand) (g:FuncId) (fn:Func) (c:Code) (N:Nat) (b:Code),FE P G K->P.funcs[g]? =ah fn->fn.body=ah c->b∈BD c->Ga P G (AN N) (.loop b) (LL K g N b)
def RW.ghost {p:LV×Value}(hW:RW G w0 Z0 Z β H w) (h:R β Z w p.1 p.2/\okV (M H) p.1):RW G w0 ⟨Z0.z,p::Z0.gh,Z0.Ci⟩ Z β H w:=
 ⟨hW.below,hW.Bb,hW.EX,hW.Cf,hW.G6,hW.low,hW.inj,hW.blk,hW.CW,λq hq=>by
  rcases B7.1 hq with rfl|hq
  ·exact h
  ·exact hW.gh q hq,hW.Ci⟩
def RW.apA {p:LV×Value}(hW:RW G w0 ⟨Z0.z,p::Z0.gh,Z0.Ci⟩ Z β H w):RW G w0 Z0 Z β H w:=
 ⟨hW.below,hW.Bb,hW.EX,hW.Cf,hW.G6,hW.low,hW.inj,hW.blk,hW.CW,λq hq=>hW.gh q<|Sa _ hq,hW.Ci⟩
def nD {LL:DG} {K:Hand} (hΓ:∀g S,Γ g=ah S->Valid P G g S) (hLL:EF P G LL) (hK:FE P G K):FE P G (ER P G Γ LL K):=by
  refine ⟨λw0 Z0 Z β H w g args vals lv H' hW hr hok h=>?_,λw0 Z0 Z β H w k args vals lv H' hW hr hok h=>?_⟩
  ·simp only [ER] at h
   split at h
   ·rename_i fn hfn
    split at h
    ·rename_i c hc
     obtain ⟨⟨x,F1,H1⟩,h1,h2⟩:=T.B4 h;refine VB.1<|callsIn_of_wp_marks (n:=0) hfn hc trivial ?_;refine GP (A:=AN<|M H) (L:=LL K g<|M H) hΓ hK c (λb hb=>hLL _ g fn c (M H) b hK hfn hc hb) aj w0 Z0 Z β _ H _ w [] _ x F1 H1 (λp hp=>(hW.gh p hp).2) (.inl rfl) Lz.nil hW (aDL hr hok fn.ntmps) h1 λds' Z' β' a' w' e0 e1 e2=>?_
     have fin:((S4 P fn F1 H1 fn.results.toList).bind λl=>(T.ok (one l,H1):T<|LV×List AB)).all (λq=>q=(lv,H'))->LeavesInM Fence.wide 0 P fn a'.tmps (λe w'=>∃v,e=.returned v/\∃Z' β',RW G w0 Z0 Z' β' H' w'/\R β' Z' w' lv v/\okV (M H') lv) a'.defers .returning w':=λh2=>by
      rw [e2.defers.1];refine aC1 ds' w' a' e1 e2 e0 λw'' a'' et f1 f2=>?_
      obtain ⟨l,g1,g2⟩:=T.B4 h2;simp only [T.all,Ax] at g2;obtain ⟨g2,g3⟩:=g2;subst g3;obtain ⟨vs,g3,g4,g5⟩:=bh fn.results.toList l f1 f2 g1;refine ⟨if hs:vs.toArray.size=1 then vs.toArray[0] else .tuple vs.toArray,?_,_,rfl,Z',β',f1,?_,?_⟩
      ·rw [<-et,pg,xM]
       simp_all
      ·rw [<-g2];exact zN g4
      ·rw [<-g2];exact WY g5
     cases x with
     |normal=>exact fin h2
     |ret=>exact fin h2
     |exit m=>cases h2
    ·cases h
   ·cases h
  ·simp only [ER] at h
   split at h
   ·rename_i Fr t ps asg body hb
    split at h
    ·rename_i hc
     obtain ⟨hc1,hc2,hc3⟩:=hc;obtain ⟨⟨y,F1,H1⟩,h1,h2⟩:=T.B4 h
     have hbk:=(hW.blk k _ hb).1
     simp only [BZ] at hbk;obtain ⟨rr,q1,q2,q3,q4,q5,q6⟩:=hbk
     have hokF:AS (M H) Fr:=(hW.blk k _ hb).2.1
     have hvl:vals.size=M args:=aN2
     have hkH:k<M H:=(Dv.1 hb).1
     refine ⟨rr,q1,by rw [q2,hvl,hc1],?_⟩
     have hF0:RF [] β Z w (M H) Fr {tmps:=rr.tmps,defers:=[]}:=by
      refine ⟨by have:=RL.length q6;simpa using this,λi x hx=>?_,rfl,λ_ h=>Ao⟩
      obtain ⟨v,e1,e2⟩:=RL.get i x q6 hx;refine ⟨?_,AS.get i x hokF hx⟩
      have:rr.tmps.getD i undef=v:=by
       rw [jt]
       have:rr.tmps[i]? =ah v:=by simpa using e1
       rw [this];rfl
      rw [this];exact e2
     have hF1:=aEa ps.toList args vals.toList Fr _ hF0 hr hok
     generalize hl:(β k).b=l at*
     have hyl:R β Z w (.CK k) (.func (.yield l) #[] #[]):=by simp only [R,hl]
     have hW1:=hW.ghost (p:=(LV.CK k,Value.func (.yield l) #[] #[])) ⟨hyl,hkH⟩
     have atl:∀ {Z':Nat->Prop} {β':Nat->Loc} {H':List AB} {w':World},RW G w0 ⟨Z0.z,(LV.CK k,Value.func (.yield l) #[] #[])::Z0.gh,Z0.Ci⟩ Z' β' H' w'->(β' k).b=l:=λr1=>by
      have:=(r1.gh (LV.CK k,Value.func (.yield l) #[] #[]) AI).1
      exact aLg
     refine roundIn_of_wpIn trivial ?_;rw [q3,q4,q2,afv];refine GP (A:=λ_=>True) (L:=dK) hΓ hK asg (λb _=>adC) (ah l) w0 _ Z β _ H _ w [] _ y F1 H1 trivial (.inr hc2) Lz.nil hW1 hF1 h1 λds1 Z1 β1 a1 w1 e0 e1 e2=>?_
     simp only at h2;cases y with
     |exit m=>cases h2
     |ret=>cases h2
     | normal=>
      simp only at h2;split at h2
      ·rename_i Fr1 t1 ps1 asg1 body1 hb1
       obtain ⟨⟨x,F2,H2⟩,h3,h4⟩:=T.B4 h2
       have hbk1:=(e1.blk k _ hb1).1
       simp only [BZ] at hbk1;obtain ⟨r1,p1,p2,p3,p4,p5,p6⟩:=hbk1
       have a1l:=atl e1
       rw [a1l] at p1;refine ⟨_,run_beginRound p1 p5.1,?_⟩
       obtain ⟨t1a,t1b⟩:=RW.turn (t':=t) (nb:=.Cc ps1 asg1 body1 .busy) (r':={r1 with state:=.busy}) e1 hb1 (by
        simp only [BZ];rw [a1l];exact ⟨{r1 with state:=.busy},World.putObj_heap_same (HX.1 p1).1,p2,p3,p4,rfl,RL.mono (n:=M H1) (λ_ _=>rfl) (λ_ h=>h) (λb hz=>MB λe=>e1.Cf k _ hb1 trivial rfl (by rw [a1l,<-e];exact hz)) _ _ (e1.blk k _ hb1).2.1 p6⟩) ⟨(e1.blk k _ hb1).2.1,ak⟩
       rw [a1l] at t1a t1b
       have hF2:RF ds1 β1 Z1 (w1.putObj l<|.loop {r1 with state:=.busy}) (M<|H1.set k ⟨Fr1,t,.Cc ps1 asg1 body1 .busy,X⟩) F1 a1:=by
        rw [CH];exact e2.mono (Ar _) (λ_ _=>rfl) (λ_ h=>h) t1b
       refine GP (A:=λ_=>True) (L:=J2 P G Γ K 20 2) hΓ hK body (λb _=>Ss hΓ hK 20 2 b) (ah l) w0 _ Z1 β1 _ _ a1 _ ds1 _ x F2 H2 trivial (.inr hc3) e0 t1a hF2 h3 λds2 Z2 β2 a2 w2 f0 f1 f2=>?_
       split at h4
       ·rename_i Fr2 t2 ps2 asg2 body2 hb2
        have hbk2:=(f1.blk k _ hb2).1
        obtain ⟨r2,s1,s2,s3,s4,s5,s6⟩:=hbk2
        have a2l:=atl f1
        rw [a2l] at s1
        have fin:∀(st:LS) (jump:Option Code) (b:Bool),LsR st {r2 with state:=if jump.isNone then .ready else .done,pending:=jump}->jump.isNone=b->(T.ok (LV.bl b,H2.set k ⟨Fr2,t,.Cc ps2 asg2 body2 st,X⟩):T<|LV×List AB).all (λq=>q=(lv,H'))->
          ∃v w',(Instr.endRound l jump).run P w2=.ok v w'/\(∃v',Ending.returned v=.returned v'/\∃Z' β',RW G w0 Z0 Z' β' H' w'/\R β' Z' w' lv v'/\okV (M H') lv):=λst jump b hst hj h4=>by
         obtain ⟨rfl,rfl⟩:=h4;refine ⟨_,_,run_endRound jump s1,_,rfl,Z2,β2,?_,?_,ak⟩
         ·obtain ⟨t2a,t2b⟩:=RW.turn (t':=t) (nb:=.Cc ps2 asg2 body2 st) (r':={r2 with state:=if jump.isNone then .ready else .done,pending:=jump}) f1 hb2 (by
           simp only [BZ];rw [a2l];exact ⟨_,World.putObj_heap_same (HX.1 s1).1,s2,s3,s4,hst,RL.mono (n:=M H2) (λ_ _=>rfl) (λ_ h=>h) (λb hz=>MB λe=>f1.Cf k _ hb2 trivial rfl (by rw [a2l,<-e];exact hz)) _ _ (f1.blk k _ hb2).2.1 s6⟩) ⟨(f1.blk k _ hb2).2.1,ak⟩
          rw [a2l] at t2a;exact t2a.apA
         ·simp only [R,hj]
        cases x with
        |normal=>exact fin .ready aj U ⟨rfl,rfl⟩ rfl h4
        |exit m=>exact fin (.done<|.exit m) (ah<|.exit m) X ⟨rfl,rfl⟩ rfl h4
        |ret=>exact fin (.done .ret) (ah .ret) X ⟨rfl,rfl⟩ rfl h4
       ·cases h4
      ·cases h2
    ·cases h
   ·cases h
def aCT {LL:DG}(hΓ:∀g S,Γ g=ah S->Valid P G g S) (hLL:EF P G LL):∀(d:Nat),FE P G (inl P G Γ LL d)
 |0=>Q9
 |d+1=>nD hΓ hLL<|aCT hΓ hLL d
def DV (P:Program) (G:B1) (g:FuncId) (m:List LV->List AB->T (LV×List AB)):Prop:=
 ∀(w0:World) (Z0:Gz) (Z:Nat->Prop) (β:Nat->Loc) (H:List AB) (w:World) (args:List LV) (vals:Array Value) (lv:LV) (H':List AB),RW G w0 Z0 Z β H w->RL β Z w args vals.toList->AS (M H) args->(m args H).all (λq=>q=(lv,H'))->
  Calls P g vals w λe w'=>∃v,e=.returned v/\∃Z' β',RW G w0 Z0 Z' β' H' w'/\R β' Z' w' lv v/\okV (M H') lv
def aCB {LL:DG}{C:Does}(hΓ:∀g S,Γ g=ah S->Valid P G g S) (hLL:EF P G LL) (hC:∀g m,C g=ah m->DV P G g m):∀(d:Nat),FE P G (Uu P G Γ LL C d)
 |0=>Q9
 | d+1=>by
  have h:=nD hΓ hLL<|aCB hΓ hLL hC d
  refine ⟨λw0 Z0 Z β H w g args vals lv H' hW hr hok hq=>?_,h.y⟩
  simp only [Uu] at hq;split at hq
  ·rename_i m hm
   exact hC g m hm w0 Z0 Z β H w args vals lv H' hW hr hok hq
  ·exact h.k w0 Z0 Z β H w g args vals lv H' hW hr hok hq
def DV.walk {LL:DG}{K:Hand}{g:FuncId}{m:List LV->List AB->T (LV×List AB)}(hΓ:∀g S,Γ g=ah S->Valid P G g S) (hLL:EF P G LL) (hK:FE P G K)
  (hm:∀args H lv H',(m args H).all (λq=>q=(lv,H'))->((ER P G Γ LL K).k g args H).all (λq=>q=(lv,H'))):DV P G g m:=
 λw0 Z0 Z β H w args vals lv H' hW hr hok hq=>(nD hΓ hLL hK).k w0 Z0 Z β H w g args vals lv H' hW hr hok<|hm args H lv H' hq
def Dp (P:Program) (G:B1) (Γ:Specs) (m d:Nat):DG:=λK _ _=>J2 P G Γ K m d
def Hg {m d:Nat}(hΓ:∀g S,Γ g=ah S->Valid P G g S):EF P G (Dp P G Γ m d):=λ_ _ _ _ _ b hK _ _ _=>Ss hΓ hK m d b
def CR (g:FuncId) (N id:Nat) (t:List LV->List AB->T (Ex×List LV×List AB)) (LL:DG):DG:=λK g' N' b=>if g'=g/\N'=N/\GY b=id then t else LL K g' N' b
theorem D6 {g:FuncId}{N id:Nat}{t:List LV->List AB->T (Ex×List LV×List AB)}{LL:DG}{fn:Func}{c bd:Code}(hfn:P.funcs[g]? =ah fn) (hc:fn.body=ah c) (hid:(BD c).filter (λb=>GY b==id)=[bd]) (ht:Ga P G (AN N) (.loop bd) t) (h:EF P G LL):EF P G (CR g N id t LL):=by
 intro K g' fn' c' N' b hK hfn' hc' hb;unfold CR;split
 ·rename_i e
  obtain ⟨rfl,rfl,e⟩:=e;rw [hfn] at hfn'
  have:=Dw hfn'
  subst this;rw [hc] at hc'
  have:=Dw hc'
  subst this
  have hm:b∈(BD c).filter (λb=>GY b==id):=DE.2 ⟨hb,A8⟩
  have:b=bd:=A8
  subst this;exact ht
 ·exact h K g' fn' c' N' b hK hfn' hc' hb
def aCt {f:FuncId}{fn:Func}{c:Code}{t:List LV->List AB->T (Ex×List LV×List AB)}(hfn:P.funcs[f]? =ah fn) (hc:fn.body=ah c) (ht:Sound P G c t):Valid P G f (aBa P fn t):=by
 intro args vals w Z lv hz hg hok hr h;obtain ⟨⟨x,F',H'⟩,h1,h2⟩:=T.B4 h;refine VB.1<|callsIn_of_wp_marks (n:=0) hfn hc trivial ?_
 have hW:RW G w ⟨Z,[],[]⟩ Z β0 [] w:=⟨Below.refl _ _,hz,λb h=> .inl h,λk b hk=>yu,λk b hk=>yu,λk b hk=>yu,λi j bi bj hi=>by simp at hi,λk b hb=>by simp at hb,hg,λp hp=>lV,λD hD=>(by cases hD)⟩
 have hF:=aDL (H:=[]) hr hok fn.ntmps
 refine ht aj w ⟨Z,[],[]⟩ Z β0 _ [] _ w [] _ x F' H' (λp hp=>lV) (.inl rfl) Lz.nil hW hF h1 λds' Z' β' a' w' e0 e1 e2=>?_
 have fin:((S4 P fn F' H' fn.results.toList).bind λl=>if noOwn (one l) then (T.ok (one l):T LV) else (ED H' 8<|one l).bind λ_=> .ok<|Bx H' 8<|one l).all (λx=>x=lv)->LeavesInM Fence.wide 0 P fn a'.tmps (λe w'=>Below w.heap.size w w'/\∃v',e=.returned v'/\okV 0 lv/\R β0 (λb=>Z b\/(w.heap.size<=b/\b<w'.heap.size)) w' lv v') a'.defers .returning w':=λh2=>by
  rw [e2.defers.1];refine aC1 ds' w' a' e1 e2 e0 λw'' a'' et f1 f2=>?_
  obtain ⟨l,g1,g2⟩:=T.B4 h2;split at g2
  ·rename_i hno
   obtain ⟨vs,g3,g4,g5⟩:=bh fn.results.toList l f1 f2 g1
   have hok0:okV 0 lv:=by rw [<-g2];exact noOwn_ok _ hno<|WY g5
   refine ⟨if hs:vs.toArray.size=1 then vs.toArray[0] else .tuple vs.toArray,?_,f1.below,_,rfl,hok0,?_⟩
   ·rw [<-et,pg,xM]
    simp_all
   ·have:=zN g4
    rw [g2] at this
    exact R.mono (n:=0) (λ_ hk=>absurd hk A0) (λb hb=>by
     rcases f1.EX b hb with h|h
     ·exact .inl h
     ·exact .inr ⟨h,f1.Bb b hb⟩) (λ_ _=>rfl) _ _ hok0 this
  ·obtain ⟨_,hg,g2⟩:=T.B4 g2
   have hG:=T.BY (K':=λ_=>True) (λ_ _=>trivial) hg
   obtain ⟨vs,g3,g4,g5⟩:=bh fn.results.toList l f1 f2 g1
   have hok0:okV 0 lv:=by rw [<-g2];exact QF H' (λk b hb=>(f1.blk k b hb).2) 8 _<|WY g5
   refine ⟨if hs:vs.toArray.size=1 then vs.toArray[0] else .tuple vs.toArray,?_,f1.below,_,rfl,hok0,?_⟩
   ·rw [<-et,pg,xM]
    simp_all
   ·have:=Ma (S:=λ_=>True) f1 (λ_ _ _ _ _ _=>trivial) 8 _ _ hG (λ_ _=>trivial) (WY g5) (zN g4)
    rw [g2] at this
    exact R.mono (n:=0) (λ_ hk=>absurd hk A0) (λb hb=>by
     rcases hb with hb|⟨k,bk,_,h2,h3,rfl⟩
     ·rcases f1.EX b hb with h|h
      ·exact .inl h
      ·exact .inr ⟨h,f1.Bb b hb⟩
     ·exact .inr ⟨f1.low k bk h2 h3,f1.lt h2 h3⟩) (λ_ _=>rfl) _ _ hok0 this
 cases x with
 |normal=>exact fin h2
 |ret=>exact fin h2
 |exit m=>cases h2
def afz {f:FuncId}{fn:Func}{c:Code}{S:List LV->T LV}{L:LN}(hfn:P.funcs[f]? =ah fn) (hc:fn.body=ah c) (hΓ:∀g S,Γ g=ah S->Valid P G g S) (hK:FE P G K)
  (hL:∀b∈BD c,Sound P G (.loop b)<|L<|GY b) (hS:∀args lv,(S args).all (λx=>x=lv)->(aBX P G Γ K L fn args).all (λx=>x=lv)):Valid P G f S:=λargs vals w Z lv hz hg hok hr h=>
 aCt hfn hc (nL hΓ hK c hL) args vals w Z lv hz hg hok hr (by have:=hS args lv h;unfold aBX at this;simpa only [hc] using this)
end Go.Sx
namespace Go.Sx
open Go Go.RowKit Go.Proofs.YtipodhghjclmbaaGreatDoor
variable {P : Program} {G : B1} {Γ : Specs} {L : LN} {β : Nat -> Loc} {Z : Nat -> Prop} {Z0 : Gz} {w w0 : World} {F : List LV} {H : List AB} {a : Act} {ds : List Deferred} {n : Nat}
theorem oh {c:Code}(h:BD c=[]):∀b∈BD c,Sound P G (.loop b) (L<|GY b):=λb hb=>A8
def Vs (P:Program) (G:B1):List (FuncId×(List LV->T LV))->Prop
 | []=>True
 |p::ps=>Valid P G p.1 p.2/\Vs P G ps
def nj:∀ {l:List<|FuncId×(List LV->T LV)},Vs P G l->∀g S,D7 l g=ah S->Valid P G g S
 | [],_,g,S,h=>Ao
 |p::ps,hv,g,S,h=>by
  simp only [D7] at h;split at h
  ·rename_i hg;simp only [Ah] at h;subst h hg;exact hv.1
  ·exact nj hv.2 g S h
def aDt {α:Type}{t t':T α}{K:α->Prop}(h:t=t') (h':t'.all K):t.all K:=h▸h'
end Go.Sx
namespace Go.Sx
open Go Go.RowKit Go.Proofs.YtipodhghjclmbaaGreatDoor
variable {P : Program} {G : B1} {Γ : Specs} {L : LN} {β : Nat -> Loc} {Z : Nat -> Prop} {Z0 : Gz} {w w0 : World} {F : List LV} {H : List AB} {a : Act} {ds : List Deferred} {n : Nat}
def pos (k:Nat):List Nat->Nat->Nat
 | [],i=>i
 |j::js,i=>if k=j then i else pos k js (i+1)
theorem aBo {k:Nat}:∀ {ks:List Nat}(i:Nat),k∈ks->i<=pos k ks i/\ks[pos k ks i-i]? =ah k/\pos k ks i<i+M ks
 | [],i,h=>Ao
 | j::js,i,h=>by
  simp only [pos];split
  ·grind
  ·rename_i e
   have hk:k∈js:=by
    rcases B7.1 h with h|h
    ·grind
    ·exact h
   obtain ⟨h1,h2,h3⟩:=aBo (i+1) hk;refine ⟨A0,?_,A8⟩
   grind
mutual
def renV (ks:List Nat):LV->LV
 | .v x=> .v x
 | .bl b=> .v (.bool b)
 | .ki k n=> .v (Y k n)
 | .own k off=> .own (pos k ks 0) off
 | .agg l=> .agg (renL ks l)
 | .AO l=> .AO (renL ks l)
 | .fn f l=> .fn f (renL ks l)
 | .fb f l=> .fb f (renL ks l)
 | .xq n f=> .xq n f
 | .xl e l=> .xl e l
 | .os k es off n=> .os (pos k ks 0) es off n
 | .op k es i j=> .op (pos k ks 0) es i j
 | .om k=> .om (pos k ks 0)
 | .mp kd kk l=> .mp kd kk (renL ks l)
 | .oc k es off n c=> .oc (pos k ks 0) es off n c
 | .CK k=> .CK (pos k ks 0)
 | .junk=> .junk
def renL (ks:List Nat):List LV->List LV
 | []=>[]
 |x::xs=>renV ks x::renL ks xs
end
def Jk (ks:List Nat):BK->BK
 | .cl=> .cl
 | .vec e l=> .vec e l
 | .mp kd kk vs=> .mp kd kk (renL ks vs)
 | .Cc ps asg body st=> .Cc ps asg body st
 | .st e l=> .st e l
 | .dead=> .dead
def IN (ks:List Nat) (b:AB):AB:=⟨renL ks b.c,b.t,Jk ks b.k,b.p⟩
def U2:AB:=⟨[],0,.dead,X⟩
def nodupB:List Nat->Bool
 | []=>U
 |k::ks=>!ks.contains k&&nodupB ks
theorem aD7:∀ {ks:List Nat},nodupB ks=U->∀(i j k:Nat),ks[i]? =ah k->ks[j]? =ah k->i=j
 | [],_,i,j,k,h,_=>A8
 | x::xs,hn,i,j,k,hi,hj=>by
  simp only [nodupB,AY,Cs] at hn;cases i with
  | zero=>
   cases j with
   |zero=>rfl
   |succ j=>
    grind
  | succ i=>
   cases j with
   |zero=>
    grind
   |succ j=>
    rw [aD7 hn.2 i j k hi hj]
def Rn (ks:List Nat) (β β':Nat->Loc):Prop:=∀i k,ks[i]? =ah k->β' i=β k
theorem Rn.at {ks:List Nat}{β':Nat->Loc}(h:Rn ks β β') {k:Nat}(hk:k∈ks):β' (pos k ks 0)=β k/\pos k ks 0<M ks:=by
 obtain ⟨_,h2,h3⟩:=aBo 0 hk;exact ⟨h _ _ A8,A0⟩
mutual
def ren_R {ks:List Nat}{β':Nat->Loc}{n:Nat}(h:Rn ks β β'):∀(x:LV) (y:Value),(∀k,k∈owns x->k∈ks)->okV n x->R β Z w x y->R β' Z w (renV ks x) y
 | .v _,_,_,_,hr=>hr
 | .bl _,_,_,_,hr=>hr
 | .ki _ _,_,_,_,hr=>hr
 | .own k off,y,ho,hok,hr=>by
  exact VD
 | .agg l,y,ho,hok,hr=>by
  exact kO
 | .AO l,y,ho,hok,hr=>by
  exact kO
 | .fn f l,y,ho,hok,hr=>by
  exact kO
 | .fb f l,y,ho,hok,hr=>by
  exact kO
 | .xq n f,y,ho,hok,hr=>by
  simp only [renV,R,okV] at*;obtain ⟨b,off,h1,h2,h3⟩:=hr;refine ⟨b,off,h1,h2,λj hj=>?_⟩
  obtain ⟨z,h4,h5⟩:=h3 j hj;exact ⟨z,h4,R.mono (n:=0) (λ_ hk=>absurd hk A0) (λ_ h=>h) (λ_ _=>rfl) _ _ (hok j) h5⟩
 | .xl e l,y,ho,hok,hr=>by simp only [renV,R] at*;exact hr
 | .os k es off n,y,ho,hok,hr=>by
  exact VD
 | .op k es i j,y,ho,hok,hr=>by
  exact VD
 | .om k,y,ho,hok,hr=>by
  exact VD
 | .mp kd kk l,y,ho,hok,hr=>by
  simp only [renV,R,owns,okV] at*;obtain ⟨r,es,clock,h1,h2,h3,h4,h5⟩:=hr;exact ⟨r,es,clock,h1,h2,h3,h4,ren_RL h l _ ho hok h5⟩
 | .oc k es off n c,y,ho,hok,hr=>by
  exact VD
 | .CK k,y,ho,hok,hr=>by
  exact VD
 | .junk,_,_,_,_=>by simp only [renV,R]
def ren_RL {ks:List Nat}{β':Nat->Loc}{n:Nat}(h:Rn ks β β'):∀(l:List LV) (ys:List Value),(∀k,k∈ownsL l->k∈ks)->AS n l->RL β Z w l ys->RL β' Z w (renL ks l) ys
 | [],_,_,_,hr=>by simpa only [renL,RL] using hr
 |x::xs,ys,ho,hok,hr=>by
  simp only [renL,RL,ownsL,Be,AS] at*;obtain ⟨y,zs,h1,h2,h3⟩:=hr;exact ⟨y,zs,h1,ren_R h x y (λk hk=>ho k (.inl hk)) hok.1 h2,ren_RL h xs zs (λk hk=>ho k (.inr hk)) hok.2 h3⟩
end
mutual
def ren_ok {ks:List Nat}{n:Nat}:∀(x:LV),(∀k,k∈owns x->k∈ks)->okV n x->okV (M ks) (renV ks x)
 | .v _,_,_=>trivial
 | .bl _,_,_=>trivial
 | .ki _ _,_,_=>trivial
 | .own k off,ho,_=>VH
 | .agg l,ho,hk=>Zk
 | .AO l,ho,hk=>Zk
 | .fn f l,ho,hk=>Zk
 | .fb f l,ho,hk=>Zk
 | .xq n f,_,hk=>by simpa only [renV,okV] using hk
 | .xl _ _,_,_=>trivial
 | .os k _ _ _,ho,_=>VH
 | .op k _ _ _,ho,_=>VH
 | .om k,ho,_=>VH
 | .mp kd kk l,ho,hk=>Zk
 | .oc k _ _ _ _,ho,_=>VH
 | .CK k,ho,_=>VH
 | .junk,_,_=>trivial
def ren_okL {ks:List Nat}{n:Nat}:∀(l:List LV),(∀k,k∈ownsL l->k∈ks)->AS n l->AS (M ks) (renL ks l)
 | [],_,_=>trivial
 |x::xs,ho,hk=>by
  simp only [renL,AS,ownsL,Be] at*;exact ⟨ren_ok x (λk hk=>ho k (.inl hk)) hk.1,ren_okL xs (λk hk=>ho k (.inr hk)) hk.2⟩
end
def cI {ks:List Nat}{β':Nat->Loc}{i k:Nat}{b:AB}(h:β' i=β k):live β' i (IN ks b)↔live β k b:=by
 unfold live IN;cases hb:b.k<;>simp [Jk,h]
def lz (N:Nat) (ks:List Nat):Bool:=ks.take N==au N
def aEL {N:Nat}{ks:List Nat}(h:lz N ks=U):N<=M ks/\∀i,i<N->ks[i]? =ah i:=by
 have h:ks.take N=au N:=by simpa [lz] using h
 have hl:=B0 M h
 simp at hl
 refine ⟨A0,λi hi=>?_⟩
 have:=B0 (λl=>l[i]?) h
 simp only [Kz,AD hi] at this;rw [this]
 simp [hi]
theorem RW.ren {N:Nat}{ks:List Nat}{l:List LV}(hgh:AN N Z0) (hW:RW G w0 Z0 Z β H w) (hc:KE H ks l=U) (hn:nodupB ks=U) (hpin:lz N ks=U):
  ∃β',Rn ks β β'/\RW G w0 Z0 Z β' (ks.map λk=>IN ks<|H.getD k U2) w:=by
 have hex:∀k,k∈ks->∃b,H[k]? =ah b:=λk hk=>by
  unfold KE at hc;simp only [AY,BP] at hc
  have:=hc.2 k hk
  cases hb:H[k]? with
  |none=>rw [hb] at this;cases this
  |some b=>exact ⟨b,rfl⟩
 obtain ⟨c1,c2⟩:=Sp hc;refine ⟨λi=>β<|ks.getD i 0,λi k hi=>by simp [List.getD,hi],?_⟩
 have hRn:Rn ks β (λi=>β<|ks.getD i 0):=λi k hi=>by simp [List.getD,hi]
 generalize hβ':(λi=>β<|ks.getD i 0)=β' at hRn|-
 have old:∀i b,(ks.map λk=>IN ks<|H.getD k U2)[i]? =ah b->∃k b0,ks[i]? =ah k/\k∈ks/\H[k]? =ah b0/\b=IN ks b0/\β' i=β k:=λi b hb=>by
  rw [DS] at hb;cases hk:ks[i]? with
  |none=>simp [hk] at hb
  |some k=>
   have hkm:=OS hk
   grind
 refine ⟨hW.below,hW.Bb,hW.EX,λi b hb hl hp=>?_,λi b hb hl hp=>?_,λi b hb hl=>?_,λi j bi bj hi hj li lj pi e=>?_,λi b hb=>?_,hW.CW,λp hp=>⟨R.mono (n:=N) (λk hk=>hRn k k<|(aEL hpin).2 k hk) (λ_ h=>h) (λ_ _=>rfl) _ _ (hgh p hp) (hW.gh p hp).1,okV.mono (by rw [G0];exact (aEL hpin).1) _<|hgh p hp⟩,hW.Ci⟩
 ·obtain ⟨k,b0,h1,h2,h3,rfl,h5⟩:=old i b hb
  rw [h5];exact hW.Cf k b0 h3 ((cI h5).1 hl) hp
 ·obtain ⟨k,b0,h1,h2,h3,rfl,h5⟩:=old i b hb
  rw [h5];exact hW.G6 k b0 h3 ((cI h5).1 hl) hp
 ·obtain ⟨k,b0,h1,h2,h3,rfl,h5⟩:=old i b hb
  rw [h5];exact hW.low k b0 h3<|(cI h5).1 hl
 ·obtain ⟨k,b0,h1,h2,h3,rfl,h5⟩:=old i bi hi
  obtain ⟨k',b1,g1,g2,g3,rfl,g5⟩:=old j bj hj;rw [h5,g5] at e
  have:=hW.inj k k' b0 b1 h3 g3 ((cI h5).1 li) ((cI g5).1 lj) pi e
  subst this;exact aD7 hn i j k h1 g1
 ·obtain ⟨k,b0,h1,h2,h3,rfl,h5⟩:=old i b hb
  obtain ⟨q1,q2⟩:=hW.blk k b0 h3
  have ow:=c2 k b0 h2 h3
  have owc:∀j,j∈ownsL b0.c->j∈ks:=λj hj=>ow j (by unfold AB.owns;exact Be.2<|.inl hj)
  rw [G0];refine ⟨?_,ren_okL _ owc q2.1,?_⟩
  ·unfold BZ at q1|-
   unfold IN;cases hbk:b0.k with
   |cl=>
    simp only [hbk,Jk] at q1|-;obtain ⟨cs,e1,e2⟩:=q1;exact ⟨cs,yS,ren_RL hRn _ _ owc q2.1 e2⟩
   |vec e l=>
    simp only [hbk,Jk] at q1|-;rw [h5];exact q1
   |mp kd kk vs=>
    simp only [hbk,Jk] at q1|-;obtain ⟨es,clock,e1,e2,e3⟩:=q1;exact ⟨es,clock,yS,e2,ren_RL hRn _ _ (λj hj=>ow j aMh) (by have:=q2.2;rw [hbk] at this;exact this) e3⟩
   |Cc ps asg body st=>
    simp only [hbk,Jk] at q1|-;obtain ⟨r,e1,e2,e3,e4,e5,e6⟩:=q1;exact ⟨r,yS,e2,e3,e4,e5,ren_RL hRn _ _ owc q2.1 e6⟩
   |st e l=>
    simp only [hbk,Jk] at q1|-;rw [h5];exact q1
   |dead=>simp only [Jk]
  ·have q22:=q2.2
   unfold IN;cases hbk:b0.k with
   |mp kd kk vs=>
    simp only [hbk,Jk] at q22|-;exact ren_okL _ (λj hj=>ow j aMh) q22
   |cl=>simp only [Jk]
   |vec e l=>simp only [Jk]
   |Cc ps asg body st=>simp only [Jk]
   |st e l=>simp only [Jk]
   |dead=>simp only [Jk]
def at_ (i:Nat):List Nat->List LV->LV
 |j::js,x::xs=>if i=j then x else at_ i js xs
 |_,_=> .junk
def QL (live:List Nat) (vals:List LV):Nat->Nat->List LV
 |0,_=>[]
 |n+1,i=>at_ i live vals::QL live vals n (i+1)
def Hf (n:Nat) (live:List Nat) (vals:List LV):List LV:=QL live vals n 0
def aBk (live:List Nat) (vals:List LV):∀n i,M (QL live vals n i)=n
 |0,_=>rfl
 |n+1,i=>by simp [QL,aBk live vals n<|i+1]
theorem adZ (live:List Nat) (vals:List LV):∀n i k,k<n->(QL live vals n i)[k]? =ah (at_ (i+k) live vals)
 |0,_,k,h=>A0
 |n+1,i,0,_=>by simp [QL]
 |n+1,i,k+1,h=>by
  simp only [QL,jr];rw [adZ live vals n (i+1) k A0]
  grind
theorem aRk (i:Nat):∀(live:List Nat) (vals:List LV),at_ i live vals=.junk\/∃p:Nat,live[p]? =ah i/\vals[p]? =ah (at_ i live vals)
 | [],_=> .inl rfl
 |_::_,[]=> .inl rfl
 | j::js,x::xs=>by
  simp only [at_];split
  ·rename_i h;exact .inr ⟨0,lT,AI⟩
  ·rcases aRk i js xs with h|⟨p,h1,h2⟩
   ·exact .inl h
   ·exact .inr ⟨p+1,A8,A8⟩
def Tq (live:List Nat) (F:List LV):List LV:=live.map λj=>norm<|F.getD j .junk
def ap2 {live:List Nat}(hF:RF ds β Z w n F a):RL β Z w (Tq live F) (live.map λj=>a.tmps.getD j undef)/\AS n (Tq live F):=by
 have one:∀j,R β Z w (F.getD j .junk) (a.tmps.getD j undef)/\okV n (F.getD j .junk):=λj=>by
  cases hj:F[j]? with
  |none=>simp [List.getD,hj,R,okV]
  |some x=>simp only [List.getD,hj,kA];exact hF.get j x hj
 refine ⟨RL.CQ (by simp [Tq]) λi x hx=>?_,AS.CQ λi x hx=>?_⟩
 ·simp only [Tq,DS] at hx|-
  cases hl:live[i]? with
  |none=>simp [hl] at hx
  |some j=>simp [hl] at hx;subst hx;exact ⟨_,AI,Oy (one j).1⟩
 ·simp only [Tq,DS] at hx
  cases hl:live[i]? with
  |none=>simp [hl] at hx
  |some j=>simp [hl] at hx;subst hx;exact TB (one j).2
def anf {live:List Nat}{vals:List LV}{N:Nat}(hs:a.tmps.size=N) (hd:a.defers=ds/\∀d,d∈ds->∃D,d=GW D/\Z D/\Fc w D) (h:RL β Z w vals<|live.map λj=>a.tmps.getD j undef) (hk:AS n vals):RF ds β Z w n (Hf N live vals) a:=by
 refine ⟨by rw [hs];simp [Hf,aBk],λt x hx=>?_,hd⟩
 have ht:t<N:=by have:=(Dv.1 hx).1;simpa [Hf,aBk] using this
 unfold Hf at hx;rw [adZ live _ _ _ t ht] at hx;simp only [Ah,EM] at hx;rcases aRk t live vals with h1|⟨p,h1,h2⟩
 ·rw [hx] at h1;subst h1;exact ⟨JR,ak⟩
 ·rw [hx] at h2
  obtain ⟨y,e1,e2⟩:=RL.get _ _ h h2;simp only [DS,h1,JQ,Ah] at e1;subst e1;exact ⟨e2,AS.get _ _ hk h2⟩
inductive Up where
 |nl (i:Nat) (t:TypeId) (ty:Ty)
 |pb (i:Nat) (ty:Ty)
 |nc (k j:Nat) (t:TypeId) (ty:Ty)
 |pc (k j:Nat) (ty:Ty)
 |pk (k:Nat)
 |ns (i j:Nat) (t:TypeId) (ty:Ty)
 |ps (i j:Nat) (ty:Ty)
 |mc (k j:Nat)
 |kb (k:Nat)
 |ms (i j:Nat)
def am6 (F:List LV):Up->Up
 | .ns i j t ty=>match F.getD i .junk with
  | .own k _=> .nc k j t ty
  |_=> .ns i j t ty
 | .ps i j ty=>match F.getD i .junk with
  | .own k _=> .pc k j ty
  |_=> .ps i j ty
 | .ms i j=>match F.getD i .junk with
  | .own k _=> .mc k j
  |_=> .ms i j
 |u=>u
def DC:List Up->List LV->List AB->T (List LV×List AB)
 | [],F,H=> .ok (F,H)
 | .nl i t ty::us,F,H=>match F.getD i .junk with
  | .v (.slice aj 0 0)=>DC us (F.set i<|.os (M H) ty.n 0 0) (H++[⟨[],t,.vec ty [],X⟩])
  |_=>DC us F H
 | .pb i ty::us,F,H=>match F.getD i .junk with
  | .v (.slice aj 0 0)=>DC us (F.set i<|.xl ty []) H
  | .os k es off n=>if KE H (reach H 64 [k] []) [.os k es off n] then (ED H 6<|.os k es off n).bind λ_=>DC us (F.set i<|Bx H 6<|.os k es off n) (FZ (reach H 64 [k] []) 0 H) else .no
  |_=>DC us F H
 | .nc k j t ty::us,F,H=>match H[k]? with
  |some ⟨c,bt,.cl,X⟩=>(match c[j]? with
   |some (.v (.slice aj 0 0))=>DC us F (H.set k ⟨c.set j<|.os (M H) ty.n 0 0,bt,.cl,X⟩++[⟨[],t,.vec ty [],X⟩])
   |_=>DC us F H)
  |_=>DC us F H
 | .pc k j ty::us,F,H=>match H[k]? with
  |some ⟨c,bt,.cl,X⟩=>(match c[j]? with
   |some (.v (.slice aj 0 0))=>DC us F (H.set k ⟨c.set j<|.xl ty [],bt,.cl,X⟩)
   |some (.os k' es off n)=>if KE H (reach H 64 [k'] []) [.os k' es off n]&&!(reach H 64 [k'] []).contains k then (ED H 6<|.os k' es off n).bind λ_=>DC us F ((FZ (reach H 64 [k'] []) 0 H).set k ⟨c.set j<|Bx H 6<|.os k' es off n,bt,.cl,X⟩) else .no
   |_=>DC us F H)
  |_=>DC us F H
 | .pk k::us,F,H=>DC us F (FZ (reach H 64 [k] []) 0 H)
 | .kb k::us,F,H=>DC us F (H.set k ⟨[],0,.dead,X⟩)
 | .ns ..::us,F,H=>DC us F H
 | .ps ..::us,F,H=>DC us F H
 | .mc k j::us,F,H=>match H[k]? with
  | some ⟨c,bt,.cl,X⟩=>(match c[j]? with
   |some (.os k' es off n)=>(match H[k']? with
    |some ⟨[],t,.vec e l,X⟩=>DC us F ((H.set k' (⟨[],t,.dead,X⟩:AB)++[(⟨[],t,.vec e l,X⟩:AB)]).set k ⟨c.set j<|.os (M H) es off n,bt,.cl,X⟩)
    |_=>DC us F H)
   |_=>DC us F H)
  |_=>DC us F H
 | .ms ..::us,F,H=>DC us F H
theorem RL.set':∀ {l:List LV}{ys:List Value}{j:Nat}{x:LV}{y:Value},RL β Z w l ys->ys[j]? =ah y->R β Z w x y->RL β Z w (l.set j x) ys
 | [],ys,j,x,y,h,hy,_=>A8
 |z::l,ys,0,x,y,h,hy,hr=>by
  obtain ⟨y0,zs,rfl,h1,h2⟩:=h
  simp at hy
  subst hy;exact ⟨_,zs,rfl,hr,h2⟩
 |z::l,ys,j+1,x,y,h,hy,hr=>by
  obtain ⟨y0,zs,rfl,h1,h2⟩:=h;exact ⟨y0,zs,rfl,h1,RL.set' h2 A8 hr⟩
theorem AS.set' {n:Nat}:∀ {l:List LV}{j:Nat}{x:LV},AS n l->okV n x->AS n (l.set j x)
 | [],_,_,h,_=>A8
 |z::l,0,x,h,hx=>⟨hx,h.2⟩
 |z::l,j+1,x,h,hx=>⟨h.1,AS.set' h.2 hx⟩
def RW.tell {k j:Nat}{c:List LV}{bt:TypeId}{x:LV}(hW:RW G w0 Z0 Z β H w) (hb:H[k]? =ah ⟨c,bt,.cl,X⟩) (hx:∀y,(∃z,c[j]? =ah z/\R β Z w z y)->R β Z w x y) (hj:∃z,c[j]? =ah z) (hok:okV (M H) x):RW G w0 Z0 Z β (H.set k ⟨c.set j x,bt,.cl,X⟩) w:=by
 obtain ⟨h1,h2⟩:=hW.blk k _ hb;obtain ⟨cs,g1,g2⟩:=h1;obtain ⟨z,hz⟩:=hj;obtain ⟨y,q1,q2⟩:=RL.get j z g2 hz;refine hW.set hb trivial rfl rfl ⟨AS.set' h2.1 hok,ak⟩ rfl ⟨rfl,rfl,rfl⟩ (λ_ _=>rfl) ?_
 exact ⟨cs,g1,RL.set' g2 q1<|hx y ⟨z,hz,q2⟩⟩
def JU:∀(us:List Up) (F:List LV) (H:List AB) (Z:Nat->Prop) (β:Nat->Loc) (F1:List LV) (H1:List AB),RW G w0 Z0 Z β H w->RF ds β Z w (M H) F a->(DC us F H).all (λq=>q=(F1,H1))->∃Z' β',RW G w0 Z0 Z' β' H1 w/\RF ds β' Z' w (M H1) F1 a/\M F1=M F
 | [],F,H,Z,β,F1,H1,hW,hF,h=>by
  simp only [DC,T.all,Ax] at h;obtain ⟨rfl,rfl⟩:=h;exact ⟨Z,β,hW,hF,rfl⟩
 | .nl i t ty::us,F,H,Z,β,F1,H1,hW,hF,h=>by
  simp only [DC] at h;split at h
  ·rename_i hx
   obtain ⟨s1,s2⟩:=hF.slot hx AI
   have hv:=(hF.get i _ s1).1
   simp only [R] at hv;obtain ⟨β',b1,b2,b3⟩:=hW.KO (ℓ:=⟨w.heap.size,0,aj⟩) (nb:=⟨[],t,.vec ty [],X⟩) rfl ⟨ak,ak⟩ (λhl=>absurd rfl hl) λβ' g1 g2=>yh
   have hF1:RF ds β' Z w (M<|H++[(⟨[],t,.vec ty [],X⟩:AB)]) F a:=hF.mono AI b1 (λ_ h=>h) λ_ _=>rfl
   obtain ⟨Z2,β2,c1,c2,c3⟩:=JU us (F.set i<|.os (M H) ty.n 0 0) _ Z β' F1 H1 b3 (hF1.know (by simp only [R,b2];exact ⟨ak,ak,hv⟩) MG) h
   exact xn
  ·exact Oa
 | .pb i ty::us,F,H,Z,β,F1,H1,hW,hF,h=>by
  simp only [DC] at h;split at h
  ·rename_i hx
   obtain ⟨s1,s2⟩:=hF.slot hx AI
   have hv:=(hF.get i _ s1).1
   simp only [R] at hv;obtain ⟨Z2,β2,c1,c2,c3⟩:=JU us (F.set i<|.xl ty []) H Z β F1 H1 hW (hF.know (by simp only [R];exact ⟨aj,0,hv,Ar _,λh=>by simp at h⟩) trivial) h
   exact xn
  ·rename_i k es off n hx
   split at h
   ·rename_i hcl
    obtain ⟨s1,s2⟩:=hF.slot hx AI
    have hv:=hF.get i _ s1
    obtain ⟨_,hg,h2⟩:=T.B4 h
    have hG:GX H 6 (.os k es off n):=T.BY (K':=λ_=>True) (λ_ _=>trivial) hg
    obtain ⟨q1,q2⟩:=Sp hcl
    have hP:=hW.pub<|reach H 64 [k] []
    have hH:=λk b hb=>(hW.blk k b hb).2
    have hr:=Ma (S:=λj=>j∈reach H 64 [k] []) hW q2 6 _ _ hG (λj hj=>q1 j aNS) hv.2 hv.1
    have hF1:RF ds β (ZP Z β H λj=>j∈reach H 64 [k] []) w (M<|FZ (reach H 64 [k] []) 0 H) F a:=by
     exact aLe
    obtain ⟨Z2,β2,c1,c2,c3⟩:=JU us (F.set i<|Bx H 6<|.os k es off n) _ _ β F1 H1 hP (hF1.know hr<|okV.mono (N9 _) _<|QF H hH 6 _ hv.2) h2;exact xn
   ·cases h
  ·exact Oa
 | .nc k j t ty::us,F,H,Z,β,F1,H1,hW,hF,h=>by
  simp only [DC] at h;split at h
  ·rename_i c bt hb
   split at h
   ·rename_i hj
    have hkl:k<M H:=(Dv.1 hb).1
    obtain ⟨β',b1,b2,b3⟩:=hW.KO (ℓ:=⟨w.heap.size,0,aj⟩) (nb:=⟨[],t,.vec ty [],X⟩) rfl ⟨ak,ak⟩ (λhl=>absurd rfl hl) λβ' g1 g2=>yh
    have hb':(H++[(⟨[],t,.vec ty [],X⟩:AB)])[k]? =ah ⟨c,bt,.cl,X⟩:=by rw [HW hkl];exact hb
    have hT:=b3.tell (j:=j) (x:=.os (M H) ty.n 0 0) hb' (λy ⟨z,hz,hr⟩=>by
     rw [hj] at hz
     have:=Dw hz
     subst this;simp only [R] at hr;simp only [R,b2];exact ⟨ak,ak,hr⟩) ⟨_,hj⟩ MG
    rw [List.set_append_left _ _ hkl] at hT
    have hF1:RF ds β' Z w (M<|H.set k ⟨c.set j<|.os (M H) ty.n 0 0,bt,.cl,X⟩++[(⟨[],t,.vec ty [],X⟩:AB)]) F a:=hF.mono AI b1 (λ_ h=>h) λ_ _=>rfl
    exact JU us F _ Z β' F1 H1 hT hF1 h
   ·exact Oa
  ·exact Oa
 | .pc k j ty::us,F,H,Z,β,F1,H1,hW,hF,h=>by
  simp only [DC] at h;split at h
  ·rename_i c bt hb
   split at h
   ·rename_i hj
    have hT:=hW.tell (j:=j) (x:=.xl ty []) hb (λy ⟨z,hz,hr⟩=>by
     rw [hj] at hz
     have:=Dw hz
     subst this;simp only [R] at hr|-;exact ⟨aj,0,hr,Ar _,λh=>by simp at h⟩) ⟨_,hj⟩ trivial
    exact JU us F _ Z β F1 H1 hT (hF.mono AI (λ_ _=>rfl) (λ_ h=>h) λ_ _=>rfl) h
   ·rename_i k' es off n hj
    split at h
    ·rename_i hcl
     simp only [AY,Cs] at hcl;obtain ⟨hcl,hnk⟩:=hcl;obtain ⟨_,hg,h2⟩:=T.B4 h
     have hG:GX H 6 (.os k' es off n):=T.BY (K':=λ_=>True) (λ_ _=>trivial) hg
     obtain ⟨q1,q2⟩:=Sp hcl
     have hP:=hW.pub<|reach H 64 [k'] []
     have hH:=λk b hb=>(hW.blk k b hb).2
     have hok:okV (M H) (.os k' es off n):=AS.get j _ (hH k _ hb).1 hj
     have hb':(FZ (reach H 64 [k'] []) 0 H)[k]? =ah ⟨c,bt,.cl,X⟩:=by
      rw [cA,hb];simp only [JQ,EM,hnk];rfl
     have hT:=hP.tell (j:=j) (x:=Bx H 6<|.os k' es off n) hb' (λy ⟨z,hz,hr⟩=>by
      rw [hj] at hz
      have:=Dw hz
      subst this
      have hr':R β Z w (.os k' es off n) y:=by simpa only [R] using hr
      exact Ma (S:=λj=>j∈reach H 64 [k'] []) hW q2 6 _ _ hG (λj hj=>q1 j aNS) hok hr') ⟨_,hj⟩<|okV.mono (N9 _) _<|QF H hH 6 _ hok
     exact JU us F _ _ β F1 H1 hT (hF.mono (by simp [K5]) (λ_ _=>rfl) (λ_ h=> .inl h) λ_ _=>rfl) h2
    ·cases h
   ·exact Oa
  ·exact Oa
 | .pk k::us,F,H,Z,β,F1,H1,hW,hF,h=>by
  simp only [DC] at h
  have hP:=hW.pub<|reach H 64 [k] []
  have hF1:RF ds β (ZP Z β H λj=>j∈reach H 64 [k] []) w (M<|FZ (reach H 64 [k] []) 0 H) F a:=by
   exact aLe
  exact JU us F _ _ β F1 H1 hP hF1 h
 | .kb k::us,F,H,Z,β,F1,H1,hW,hF,h=>JU us F _ Z β F1 H1 (hW.kill k 0) (hF.mono AI (λ_ _=>rfl) (λ_ h=>h) λ_ _=>rfl) kz
 | .mc k j::us,F,H,Z,β,F1,H1,hW,hF,h=>by
  simp only [DC] at h;split at h
  ·rename_i c bt hb
   split at h
   ·rename_i k' es off n hj
    split at h
    ·rename_i t e l hk'
     have hkk:k≠k':=λq=>by subst q;rw [hb] at hk';simp at hk'
     have hK:=hW.kill k' t
     obtain ⟨β',b1,b2,b3⟩:=hK.KO (ℓ:=β k') (nb:=⟨[],t,.vec e l,X⟩) rfl ⟨ak,ak⟩ (λhl=>by
       have hl':live β k' (⟨[],t,.vec e l,X⟩:AB):=hl
       refine ⟨hW.Cf k' _ hk' hl' rfl,hW.low k' _ hk' hl',λi bi hi li e=>?_⟩
       rw [I7] at hi;split at hi
       ·split at hi
        ·simp only [Ah] at hi;subst hi;exact li
        ·cases hi
       ·rename_i hne
        exact hne<|hW.inj k' i _ _ hk' hi hl' li rfl e.symm) (λβ' g1 g2=>by
       have:=(hW.blk k' _ hk').1
       simp only [BZ] at this|-;rw [g2];exact this)
     simp only [CH] at b1 b2
     have hlen:M (H.set k' ⟨[],t,.dead,X⟩++[(⟨[],t,.vec e l,X⟩:AB)])=M H+1:=AI
     have hb':(H.set k' ⟨[],t,.dead,X⟩++[(⟨[],t,.vec e l,X⟩:AB)])[k]? =ah ⟨c,bt,.cl,X⟩:=by
      have hkl:k<M H:=(Dv.1 hb).1
      rw [HW<|by simpa using hkl,ZL<|OZ hkk]
      exact hb
     have hk'l:k'<M H:=(Dv.1 hk').1
     have hT:=b3.tell (j:=j) (x:=.os (M H) es off n) hb' (λy ⟨z,hz,hr⟩=>by
      rw [hj] at hz
      have:=Dw hz
      subst this;simp only [R] at hr|-;rw [b1 k' hk'l] at hr;rw [b2];exact hr) ⟨_,hj⟩ (by rw [hlen];exact ZV _)
     have hF1:RF ds β' Z w (M<|(H.set k' ⟨[],t,.dead,X⟩++[(⟨[],t,.vec e l,X⟩:AB)]).set k ⟨c.set j<|.os (M H) es off n,bt,.cl,X⟩) F a:=hF.mono AI b1 (λ_ h=>h) λ_ _=>rfl
     exact JU us F _ Z β' F1 H1 hT hF1 h
    ·exact Oa
   ·exact Oa
  ·exact Oa
 | .ms ..::us,F,H,Z,β,F1,H1,hW,hF,h=>JU us F H Z β F1 H1 hW hF kz
 | .ns ..::us,F,H,Z,β,F1,H1,hW,hF,h=>JU us F H Z β F1 H1 hW hF kz
 | .ps ..::us,F,H,Z,β,F1,H1,hW,hF,h=>JU us F H Z β F1 H1 hW hF kz
def aBZ (H:List AB):LV->T LV
 | .os k es off n=>match H[k]? with
  |some ⟨_,_,.vec _ l,_⟩=> .req (off=0/\n=M l) (.ok<|.os k es 0<|M l)
  |_=> .ok (.os k es off n)
 |x=> .ok x
def Ul (H:List AB):List LV->T (List LV)
 | []=> .ok []
 |x::xs=>(aBZ H x).bind λy=>(Ul H xs).bind λys=> .ok (y::ys)
def arT {x y:LV}(h:(aBZ H x).all λz=>z=y):y=x:=by
 unfold aBZ at h;split at h
 ·split at h
  ·simp only [T.all] at h
   obtain ⟨⟨rfl,rfl⟩,h⟩:=h;exact h.symm
  ·exact h.symm
 ·exact h.symm
def cg:∀ {l l':List LV},(Ul H l).all (λz=>z=l')->l'=l
 | [],l',h=>h.symm
 |x::xs,l',h=>by
  obtain ⟨y,h1,h2⟩:=T.B4 h;obtain ⟨ys,h3,h4⟩:=T.B4 h2;rw [<-h4,arT h1,cg h3]
def aR (H:List AB):List AB->T (List AB)
 | []=> .ok []
 |b::bs=>(Ul H b.c).bind λc=>(aR H bs).bind λcs=> .ok (⟨c,b.t,b.k,b.p⟩::cs)
def dS:∀ {l l':List AB},(aR H l).all (λz=>z=l')->l'=l
 | [],l',h=>h.symm
 |b::bs,l',h=>by
  obtain ⟨c,h1,h2⟩:=T.B4 h;obtain ⟨cs,h3,h4⟩:=T.B4 h2;rw [<-h4,cg h1,dS h3]
structure Vw where
 ex:Ex
 len:Nat
 vals:List LV
 J7:List AB
 low:Bool
def Uo (N:Nat) (H:List AB) (vals:List LV):List Nat:=reach H 400 (ownsL vals++(H.take N).flatMap AB.owns)<|au N
def am3 (N:Nat) (live:List Nat) (x:Ex) (n:Nat) (F:List LV) (H:List AB):T Vw:=
 (Ul H<|Tq live F).bind λvals=>(aR H<|(Uo N H vals).map λk=>H.getD k U2).bind λbs=>
  .ok ⟨x,n,renL (Uo N H vals) vals,bs.map<|IN<|Uo N H vals,
   KE H (Uo N H vals) vals&&nodupB (Uo N H vals)&&lz N (Uo N H vals)⟩
def G8 (N:Nat) (live:List Nat) (us:List Up) (x:Ex) (F:List LV) (H:List AB):T Vw:=(DC (us.map<|am6 F) F H).bind λq=>am3 N live x (M F) q.1 q.2
def bq {N:Nat}{live:List Nat}{us:List Up}{x:Ex}{v:Vw}(hgh:AN N Z0) (hW:RW G w0 Z0 Z β H w) (hF:RF ds β Z w (M H) F a) (h:(G8 N live us x F H).all λz=>z=v) (hl:v.low=U):
  v.ex=x/\v.len=M F/\∃Z' β',RW G w0 Z0 Z' β' v.J7 w/\RF ds β' Z' w (M v.J7) (Hf (M F) live v.vals) a:=by
 obtain ⟨⟨F1,H1⟩,h0,h⟩:=T.B4 h;obtain ⟨Z1,β1,c1,c2,c3⟩:=JU _ F H Z β F1 H1 hW hF h0;obtain ⟨vals,h1,h2⟩:=T.B4 h;obtain ⟨bs,h2b,h2⟩:=T.B4 h2
 have h3:=cg h1
 have h4:=dS h2b
 subst h3;subst h4;rw [Gy] at h2;subst h2;refine ⟨rfl,rfl,?_⟩;simp only [AY] at hl;obtain ⟨β2,d1,d2⟩:=c1.ren hgh hl.1.1 hl.1.2 hl.2;obtain ⟨v1,v2⟩:=ap2 (live:=live) c2;obtain ⟨k1,_⟩:=Sp hl.1.1;refine ⟨Z1,β2,d2,anf (by rw [hF.size]) c2.defers (ren_RL d1 _ _ k1 v2 v1) ?_⟩
 rw [G0];exact ren_okL _ k1 v2
inductive Rd (σ:Type) where
 |next (s:σ)
 |stop (x:Ex) (s:σ)
def rdV {σ:Type}(n:Nat) (A:σ->List LV) (B:σ->List AB):Rd σ->Vw
 | .next s'=>⟨.normal,n,A s',B s',U⟩
 | .stop x s'=>⟨x,n,A s',B s',U⟩
structure SB {α:Type} (K:α->Prop) (t:T α):Prop where
 out:t.all K
def DI {σ:Type}(f:σ->Rd σ):Nat->σ->Ex×σ
 |0,s=>(.ret,s)
 |k+1,s=>match f s with
  | .next s'=>DI f k s'
  | .stop x s'=>(x,s')
def aDZ {σ:Type}{f:σ->Rd σ}{μ:σ->Nat}{I:σ->Prop}(hd:∀s s',I s->f s=.next s'->I s'/\μ s'<μ s):∀(k:Nat) (s:σ),I s->μ s<k->∃s',I s'/\f s'=.stop (DI f k s).1 (DI f k s).2
 |0,s,_,h=>A0
 | k+1,s,hi,hk=>by
  simp only [DI];cases hf:f s with
  |next s'=>
   obtain ⟨h1,h2⟩:=hd s s' hi hf;exact aDZ hd k s' h1 A0
  |stop x s'=>exact ⟨s,hi,hf⟩
def T.agree {α:Type}{K:α->Prop}{p:α}:∀ {t:T α},t.all (λx=>x=p)->t.all K->K p
 | .ok _,h,hk=>by simp only [T.all] at h hk;exact h▸hk
 | .br b t e,h,hk=>by
  cases b with
  |true=>exact T.agree (h.1 rfl) (hk.1 rfl)
  |false=>exact T.agree (h.2 rfl) (hk.2 rfl)
 | .req _ t,h,hk=>T.agree h.2 hk.2
 | .no,_,h=>Ao
def zX {σ:Type}(N n:Nat) (live:List Nat) (us:List Up) (sel:List LV->List AB->T σ) (out:σ->T (Ex×List LV×List AB)) (F:List LV) (H:List AB):T (Ex×List LV×List AB):=
 if M F=n then ((G8 N live us .normal F H).bind λv=>if v.low then sel v.vals v.J7 else .no).bind out else .no
def gw (N:Nat) (live:List Nat) (us:List Up) (t:T<|Ex×List LV×List AB):T Vw:=t.bind λq=>G8 N live us q.1 q.2.1 q.2.2
def gI:LV->Int
 | .v (.int _ n)=>n
 | .ki _ n=>n
 |_=>0
def gBo:LV->Bool
 | .v (.bool b)=>b
 | .bl b=>b
 |_=>X
def gSr:LV->ByteArray
 | .v (.string s)=>s
 |_=>ByteArray.empty
def Gw:LV->Value
 | .v y=>y
 |_=>undef
def Ap (e:Ty) (x:LV):List e.D:=(N0 e x).getD []
def E7 (x:LV) (j:Nat):LV:=
 match x with
 | .v (.agg ys)=> .v (ys.toList.getD j undef)
 | .agg l=>l.getD j .junk
 | .v (.tuple ys)=> .v (ys.toList.getD j undef)
 | .AO l=>l.getD j .junk
 |_=> .junk
def gFn (x:LV) (j:Nat):LV:=
 match x with
 | .fn _ l=>l.getD j .junk
 | .fb _ l=>l.getD j .junk
 |_=> .junk
def BT (x:LV) (j:Nat):LV:=
 match x with
 | .xq _ f=>f j
 |_=> .junk
def CS (H:List AB) (k:Nat):AB:=H.getD k ⟨[],0,.dead,X⟩
def B9 (b:AB) (j:Nat):LV:=b.c.getD j .junk
def gVe (e:Ty) (b:AB):List e.D:=
 match b.k with
 | .vec e' l=>(match Jf e' e with
  |some ⟨h⟩=>KX h l
  |none=>[])
 |_=>[]
def AK (v:List LV) (k:Nat):Int:=gI<|v.getD k .junk
def Ec (v:List LV) (k:Nat):Bool:=gBo<|v.getD k .junk
def B5 (e:Ty) (v:List LV) (k:Nat):List e.D:=Ap e<|v.getD k .junk
def Ak (b:List AB) (k j:Nat):Int:=gI<|B9 (CS b k) j
def Kk (b:List AB) (k j:Nat):Bool:=gBo<|B9 (CS b k) j
def AF (e:Ty) (b:List AB) (k j:Nat):List e.D:=Ap e<|B9 (CS b k) j
def Ab (e:Ty) (b:List AB) (k:Nat):List e.D:=gVe e<|CS b k
def gSe (e:Ty) (b:AB):List e.D:=
 match b.k with
 | .st e' l=>(match Jf e' e with
  |some ⟨h⟩=>KX h l
  |none=>[])
 |_=>[]
def aJv {σ:Type}(E:σ->Prop) (A:σ->List LV) (B:σ->List AB) (s:σ) (vals:List LV) (J7:List AB):T σ:=.req (E s/\vals=A s/\J7=B s)<|.ok s
def apq {σ:Type}{E:σ->Prop}{A:σ->List LV}{B:σ->List AB}{s0 s:σ}{vals:List LV}{J7:List AB}(h:(aJv E A B s0 vals J7).all λx=>x=s):E s/\vals=A s/\J7=B s:=by
 obtain ⟨h1,rfl⟩:=h;exact h1
theorem afk {σ:Type}(N n:Nat) (live:List Nat) (us:List Up) (A:σ->List LV) (B:σ->List AB) (I E:σ->Prop) (μ:σ->Nat) (f:σ->Rd σ) (sel:List LV->List AB->T σ) (out:σ->T (Ex×List LV×List AB)) {b:Code}{t:List LV->List AB->T (Ex×List LV×List AB)}(hb:Ga P G (AN N) b t)
  (hsel:∀vals J7 s,(sel vals J7).all (λx=>x=s)->E s/\vals=A s/\J7=B s) (hEI:∀s,E s->I s)
  (hd:∀s s',I s->f s=.next s'->I s'/\μ s'<μ s)
  (hne:∀s x s',f s=.stop x s'->x≠ .normal)
  (step':∀s,I s->SB (λv=>v=rdV n A B (f s)) (gw N live us<|t (Hf n live<|A s)<|B s))
  (hout:∀s,E s->(out s).all λq=>q=((DI f (μ s+1) s).1,Hf n live<|A (DI f (μ s+1) s).2,B (DI f (μ s+1) s).2)):
  Ga P G (AN N) (.loop b) (zX N n live us sel out):=by
 intro r w0 Z0 Z β F H a w ds Q x F' H' hgh hr hD hW hF h hQ;unfold zX at h;split at h
 ·rename_i hlen
  obtain ⟨s,h0,h2⟩:=T.B4 h;obtain ⟨v,hv,h1⟩:=T.B4 h0;split at h1
  ·rename_i hlow
   obtain ⟨hE,hvv,hbk⟩:=hsel _ _ s h1
   have h2:=T.agree h2<|hout s hE
   obtain ⟨_,_,Z1,β1,hW1,hF1⟩:=bq hgh hW hF hv hlow;refine wpIn_loop_rounds (μ s+1) ?_
   have key:∀(k:Nat) (s:σ) (ds:List Deferred) (Z:Nat->Prop) (β:Nat->Loc) (a:Act) (w:World),I s->μ s<k->Lz w0 Z0 ds->RW G w0 Z0 Z β (B s) w->RF ds β Z w (M<|B s) (Hf n live<|A s) a->
     (∀ds' Z' β' a' w',Lz w0 Z0 ds'->RW G w0 Z0 Z' β' (B (DI f k s).2) w'->RF ds' β' Z' w' (M<|B (DI f k s).2) (Hf n live<|A (DI f k s).2) a'->Q (wO (DI f k s).1) a' w')->Code.roundsIn (DP r) 0 P b Q k a w:=by
    intro k
    induction k with
    |zero=>intro s ds Z β a w _ h;omega
    | succ k ih=>
     intro s ds Z β a w hI hm hD hW hF hQ;obtain ⟨v,h1,h2⟩:=T.pick (step' s hI).out;obtain ⟨⟨x,F1,H1⟩,h3,h4⟩:=T.B4 h2;refine hb r w0 Z0 Z β _ (B s) a w ds _ x F1 H1 hgh hr hD hW hF h3 λds' Z' β' a' w' e0 e1 e2=>?_
     cases hf:f s with
     |next s'=>
      rw [hf] at h1;subst h1;obtain ⟨g1,g2,Z2,β2,k1,k2⟩:=bq hgh e1 e2 h4 rfl;subst g1;obtain ⟨i1,i2⟩:=hd s s' hI hf;rw [<-g2] at k2;refine ih s' ds' Z2 β2 a' w' i1 A0 e0 k1 k2 ?_
      have:DI f (k+1) s=DI f k s':=by simp only [DI,hf]
      rw [this] at hQ;exact hQ
     |stop y s'=>
      rw [hf] at h1;subst h1;obtain ⟨g1,g2,Z2,β2,k1,k2⟩:=bq hgh e1 e2 h4 rfl;subst g1
      have hn:=hne s y s' hf
      rw [<-g2] at k2
      have:DI f (k+1) s=(y,s'):=by simp only [DI,hf]
      rw [this] at hQ
      have hq:=hQ ds' Z2 β2 a' w' e0 k1 k2
      cases y with
      |normal=>exact absurd rfl hn
      |exit k=>exact hq
      |ret=>exact hq
   grind
  ·cases h1
 ·cases h
def DK {σ:Type}(Pn:σ->Prop) (Ps:Ex->σ->Prop):Rd σ->Prop
 | .next s=>Pn s
 | .stop x s=>Ps x s
def AH {σ:Type}{Pn:σ->Prop}{Ps:Ex->σ->Prop}{c:Bool}{x y:Rd σ}(h1:c=U->DK Pn Ps x) (h2:c=X->DK Pn Ps y):DK Pn Ps (if c=U then x else y):=by
 cases c with
 |true=>exact h1 rfl
 |false=>exact h2 rfl
def ag6 {σ:Type}{Pn:σ->Prop}{Ps:Ex->σ->Prop}{r:Rd σ}(h:DK Pn Ps r) {s:σ}(e:r=.next s):Pn s:=by subst e;exact h
def cE {σ:Type}{Pn:σ->Prop}{Ps:Ex->σ->Prop}{r:Rd σ}(h:DK Pn Ps r) {x:Ex}{s:σ}(e:r=.stop x s):Ps x s:=by subst e;exact h
def Bs:Ex->Ex->Bool
 | .normal,.normal=>U
 | .ret,.ret=>U
 | .exit n,.exit m=>n==m
 |_,_=>X
def aEb {S Y:Type}{f:S->Rd S}{I:S->Prop}{μ:S->Nat}{V:S->Y}{Q:Ex->S->Y->Prop}(hd:∀s s',I s->f s=.next s'->I s'/\μ s'<μ s) (hv:∀s,I s->DK (λs'=>V s'=V s) (λx s'=>Q x s'<|V s) (f s)):∀(k:Nat) (s:S),I s->μ s<k->Q (DI f k s).1 (DI f k s).2 (V s)
 |0,s,_,h=>A0
 | k+1,s,h,hk=>by
  have h2:=hv s h
  simp only [DI];cases e:f s with
  |next s'=>
   rw [e] at h2;obtain ⟨d1,d2⟩:=hd s s' h e
   have:=aEb hd hv k s' d1 A0
   rwa [show V s=V s' from h2.symm]
  |stop x s'=>
   rw [e] at h2;exact h2
def T.rd {σ:Type}(s:σ):T (Rd σ)->Rd σ
 | .ok x=>x
 | .br b x y=>if b=U then x.rd s else y.rd s
 | .req _ x=>x.rd s
 | .no=> .next s
def T.mp {α β:Type}(k:α->β):T α->T β
 | .ok x=> .ok (k x)
 | .br b x y=> .br b (x.mp k) (y.mp k)
 | .req p x=> .req p (x.mp k)
 | .no=> .no
def T.Wx {α β:Type}{k:α->β}{K:β->Prop}:∀ {t:T α},t.all (λx=>K<|k x)->(t.mp k).all K
 | .ok _,h=>h
 | .br _ _ _,h=>⟨λc=>T.Wx<|h.1 c,λc=>T.Wx<|h.2 c⟩
 | .req _ _,h=>⟨h.1,T.Wx h.2⟩
 | .no,h=>h
def T.fB {σ:Type}{s:σ}:∀ {t:T<|Rd σ},t.all (λ_=>True)->t.all (λx=>x=t.rd s)
 | .ok _,_=>rfl
 | .br b _ _,h=>by
  cases b with
  |true=>exact ⟨λc=>T.fB<|h.1 c,λc=>FU⟩
  |false=>exact ⟨λc=>FU,λc=>T.fB<|h.2 c⟩
 | .req _ _,h=>⟨h.1,T.fB h.2⟩
 | .no,h=>h
def T.Tn {σ:Type}{s:σ}{k:Rd σ->Rd σ}(h0:k (.next s)=.next s):∀ {t:T<|Rd σ},t.mp k=t->k (t.rd s)=t.rd s
 | .ok x,h=>by
  simp only [T.mp,T.ok.injEq] at h;simp only [T.rd,h]
 | .br b x y,h=>by
  simp only [T.mp,T.br.injEq,FA] at h;simp only [T.rd];split
  ·exact T.Tn h0 h.1
  ·exact T.Tn h0 h.2
 | .req _ x,h=>by
  simp only [T.mp,T.req.injEq,FA] at h;exact T.Tn (t:=x) h0 h
 | .no,_=>h0
structure AT (σ:Type) where
 (N n:Nat)
 lv:List Nat
 us:List Up
 A:σ->List LV
 B:σ->List AB
 g:List LV->List AB->σ
 t:σ->T (Rd σ)
 kp:σ->σ->σ
 rd:σ->σ
 fx:Ex->σ->σ
 xs:List Ex
 (E I:σ->Prop)
 mu:σ->Nat
def outT {β:Type}(e:Ex) (k:Ex->β):List Ex->T β
 | []=> .no
 | [x]=> .ok (k x)
 |x::y::xs=> .br (Bs e x) (.ok<|k x)<|outT e k (y::xs)
def WD:∀ {x y:Ex},Bs x y=U->x=y
 | .normal,.normal,_=>rfl
 | .ret,.ret,_=>rfl
 | .exit _,.exit _,h=>by simpa [Bs] using h
theorem aEM {β:Type}{e:Ex}{k:Ex->β}:∀ {xs:List Ex},xs.any (Bs e)=U->(outT e k xs).all (λq=>q=k e)
 | [],h=>Ao
 | [x],h=>by
  simp only [ZO,kU,Bool.or_false] at h;rw [WD h];rfl
 |x::y::xs,h=>by
  refine ⟨λc=>?_,λc=>aEM ?_⟩
  ·rw [WD c];rfl
  ·grind
def Kv {σ:Type}(xs:List Ex):T (Rd σ)->Bool
 | .ok (.next _)=>U
 | .ok (.stop x _)=>xs.any (Bs x)&&!Bs x .normal
 | .br _ x y=>Kv xs x&&Kv xs y
 | .req _ x=>Kv xs x
 | .no=>U
def X9 {σ:Type}{xs:List Ex}{s s':σ}{x:Ex}:∀ {t:T<|Rd σ},Kv xs t=U->t.rd s=.stop x s'->xs.any (Bs x)=U/\x≠ .normal
 | .ok (.next _),_,h=>Ao
 | .ok (.stop y _),h,e=>by
  simp only [T.rd,Rd.stop.injEq] at e;simp only [Kv,AY,Cs] at h;rw [e.1] at h;refine ⟨h.1,λe=>?_⟩
  rw [e] at h;exact absurd h.2 (by simp [Bs])
 | .br b x y,h,e=>by
  simp only [Kv,AY] at h;simp only [T.rd] at e;split at e
  ·exact X9 h.1 e
  ·exact X9 h.2 e
 | .req _ x,h,e=>X9 (t:=x) h e
 | .no,_,h=>Ao
namespace AT
variable {σ : Type} (D : AT σ)
def f (s:σ):Rd σ:=(D.t s).rd s
def run (s:σ):σ:=D.kp s (DI D.f (D.mu s+1) s).2
def Av (s:σ):Ex:=(DI D.f (D.mu s+1) s).1
def sel (vals:List LV) (J7:List AB):T σ:=aJv D.E D.A D.B (D.g vals J7) vals J7
def out (s:σ):T (Ex×List LV×List AB):=outT (D.Av s) (λx=>(x,Hf D.n D.lv<|D.A<|D.fx x<|D.run s,D.B<|D.fx x<|D.run s)) D.xs
def lp:List LV->List AB->T (Ex×List LV×List AB):=zX D.N D.n D.lv D.us D.sel D.out
def q (s:σ):Prop:=D.E s/\D.A s=D.A s/\D.B s=D.B s
def IP (s:σ):Rd σ->Rd σ
 | .next s'=> .next (D.kp s s')
 | .stop x s'=> .stop x<|D.kp s s'
def fxR:Rd σ->Rd σ
 | .next s'=> .next s'
 | .stop x s'=> .stop x<|D.fx x s'
structure Ok:Prop where
 keep:∀s,(D.t (D.rd s)).mp (D.IP (D.rd s))=D.t (D.rd s):=by intro s;kernel_rfl
 fix:∀s,D.I (D.rd s)->DK (λ_=>True) (λx s'=>D.fx x s'=s') ((D.t (D.rd s)).rd (D.rd s)):=by intro s _;exact AT.akU _ (by kernel_rfl)
 ajS:∀s,D.kp s s=s:=by intros;rfl
 ak0:∀s t r,D.kp (D.kp s t) r=D.kp s r:=by intros;rfl
 fx0:∀s,D.fx .normal (D.rd s)=D.rd s:=by intros;rfl
 exs:∀s,Kv D.xs (D.t s)=true:=by intro s;kernel_rfl
def akU {s:σ}(h:(D.t s).mp D.fxR=D.t s):DK (λ_=>True) (λx s'=>D.fx x s'=s') ((D.t s).rd s):=by
 have hx:=T.Tn (s:=s) (by simp only [fxR]) h
 cases hf:(D.t s).rd s with
 |next s'=>exact ak
 |stop x s'=>
  rw [hf] at hx;simp only [fxR,Rd.stop.injEq,FA] at hx;exact hx
structure Pf (Q:Ex->σ->σ->Prop):Prop where
 ei:∀s,D.E s->D.I s
 rdy:∀s,D.I s->D.rd s=s
 da:∀s,D.I s->DK (λs'=>D.I s'/\D.mu s'<D.mu s) (λx s'=>Q x s s') (D.f s)
 rq:∀s,D.I s->(D.t s).all (λ_=>True)
variable {D} {Q : Ex -> σ -> σ -> Prop}
def Pf.nx (p:D.Pf Q) (s s':σ) (h:D.I s) (e:D.f s=.next s'):D.I s'/\D.mu s'<D.mu s:=ag6 (p.da s h) e
def kept (o:D.Ok) (p:D.Pf Q):∀(k:Nat) (s:σ),D.I s->D.mu s<k->D.kp s (DI D.f k s).2=(DI D.f k s).2/\D.fx (DI D.f k s).1 (DI D.f k s).2=(DI D.f k s).2/\D.xs.any (Bs (DI D.f k s).1)=U
 |0,_,_,h=>A0
 | k+1,s,hI,hk=>by
  have h1:=o.keep s
  have h2:=o.fix s
  have h0:=o.fx0 s
  rw [p.rdy s hI] at h0 h1 h2
  have hl:=T.Tn (s:=s) (by simp only [IP,o.ajS]) h1
  have hx:=h2 hI
  change D.IP s (D.f s)=D.f s at hl
  simp only [DI];cases hf:D.f s with
  |next s'=>
   rw [hf] at hl;simp only [IP,Rd.next.injEq] at hl;obtain ⟨h1,h2⟩:=p.nx s s' hI hf;obtain ⟨h3,h4⟩:=kept o p k s' h1 A0;refine ⟨?_,h4⟩
   have e:=o.ak0 s s' (DI D.f k s').2
   rw [hl,h3] at e;exact e.symm
  |stop x s'=>
   have hx:=cE hx hf
   rw [hf] at hl;simp only [IP,Rd.stop.injEq,FA] at hl;exact ⟨hl,hx,(X9 (o.exs s) hf).1⟩
def run_eq (o:D.Ok) (p:D.Pf Q) {s:σ}(hE:D.E s):(DI D.f (D.mu s+1) s).2=D.run s:=(kept o p _ s (p.ei s hE)<|ZV _).1.symm
def end_ (o:D.Ok) (p:D.Pf Q) (s:σ) (hE:D.E s):∃s',D.I s'/\D.f s'=.stop (D.Av s) (D.run s):=by
 rw [<-run_eq o p hE];exact aDZ p.nx (D.mu s+1) s (p.ei s hE)<|ZV _
def fin (o:D.Ok) (p:D.Pf Q) (s:σ) (hE:D.E s):∃s',D.I s'/\Q (D.Av s) s' (D.run s):=by
 obtain ⟨s',hI,hf⟩:=end_ o p s hE;exact ⟨s',hI,cE (p.da s' hI) hf⟩
def snd (o:D.Ok) (p:D.Pf Q) {b:Code}{t:List LV->List AB->T (Ex×List LV×List AB)}(hb:Ga P G (AN D.N) b t)
  (hn:∀s,gw D.N D.lv D.us (t (Hf D.n D.lv<|D.A<|D.rd s)<|D.B<|D.rd s)=(D.t<|D.rd s).mp (rdV D.n D.A D.B)):Ga P G (AN D.N) (.loop b) D.lp:=by
 refine afk D.N D.n D.lv D.us D.A D.B D.I D.E D.mu D.f D.sel D.out hb (λ_ _ _ h=>apq h) p.ei p.nx (λs x s' hf=>(X9 (o.exs s) hf).2) (λs hI=>⟨?_⟩) λs hE=>?_
 ·have h:=hn s
  rw [p.rdy s hI] at h;rw [h];exact T.Wx<|T.BY (λx hx=>by rw [hx];rfl)<|T.fB (s:=s)<|p.rq s hI
 ·obtain ⟨h1,h2,h3⟩:=kept o p _ s (p.ei s hE) (ZV<|D.mu s)
  have h4:=aEM (k:=λx=>(x,Hf D.n D.lv<|D.A<|D.fx x<|D.run s,D.B<|D.fx x<|D.run s)) h3
  refine T.BY (λq hq=>?_) h4
  rw [hq];simp only [run,h1,h2]
def aBb (o:D.Ok) (p:D.Pf Q) {Y:Type}(V:σ->Y) (K:Ex->σ->Y->Prop) (hv:∀s,D.I s->DK (λs'=>V s'=V s) (λx s'=>K x s'<|V s) (D.f s)) (s:σ) (hE:D.E s):K (D.Av s) (D.run s) (V s):=by
 rw [<-run_eq o p hE];exact aEb p.nx hv (D.mu s+1) s (p.ei s hE)<|ZV _
def KL (o:D.Ok) (p:D.Pf Q) {Y:Type}(V:σ->Y) (hv:∀s,D.I s->DK (λs'=>V s'=V s) (λ_ s'=>V s'=V s) (D.f s)) (s:σ) (hE:D.E s):V (D.run s)=V s:=aBb o p V (λ_ s' v=>V s'=v) hv s hE
def stR (s:σ):Rd σ->Rd σ
 | .next s'=> .next s'
 | .stop x _=> .stop x s
theorem inv (o:D.Ok) (p:D.Pf Q) (hs:∀s,(D.t s).mp (stR s)=D.t s) (s:σ) (hE:D.E s):D.I (D.run s)/\D.f (D.run s)=.stop (D.Av s) (D.run s):=by
 obtain ⟨s',hI,hf⟩:=end_ o p s hE
 have h:=T.Tn (s:=s') (k:=stR s') rfl<|hs s'
 have h:stR s' (D.f s')=D.f s':=h
 simp only [stR,Rd.stop.injEq,FA] at h
 grind
end AT
abbrev T.ix {α:Type}(i:Int) (n:Nat) (t:T α):T α:=.req (0<=i/\i<(n:Int)) t
abbrev T.ik {α:Type}(i:Int) (n:Nat) (t:T α):T α:=.ix i n<|.req (i.toNat<n) t
abbrev T.rz {α β:Type}(l:List β) (t:T α):T α:=.req (0+(M l)<=M l) t
abbrev T.rm {α:Type}(w n:Int) (t:T α):T α:=.req (0<=n/\n<=n/\w*n<=2^48/\n<2^63) t
abbrev T.ra {α:Type}(n m k:Nat) (w:Int) (t:T α):T α:=.req (0+n=m/\(k:Int)*w<=2^47/\(k:Int)<2^62) t
abbrev T.rb {α:Type}(n x:Nat) (w:Int) (t:T α):T α:=.ra n n (n+x) w t
abbrev T.re {α β:Type}(n:Nat) (l:List β) (t:T α):T α:=.req (0=0/\n=M l) t
abbrev T.r0 {α:Type}(β:Type) (t:T α):T α:=.re 0 ([]:List β) t
abbrev T.rc {α β:Type}(n:Int) (d:β) (k:Nat) (t:T α):T α:=.req (n.toNat=M (aq n.toNat d)/\k<=n.toNat) t
abbrev T.nx {σ:Type}(s:σ):T (Rd σ):=.ok<|.next s
abbrev T.so {σ:Type}(x:Ex) (s:σ):T (Rd σ):=.ok<|.stop x s
abbrev T.tu (l:Array Value):T LV:=.ok<|.v<|.tuple l
instance:Coe Int LV:=⟨λx=> .v<|Y J x⟩
instance:Coe Bool LV:=⟨λx=> .v<|.bool x⟩
instance:Coe Int Value:=⟨.int J⟩
instance:Coe Bool Value:=⟨.bool⟩
instance:Coe (List Int) LV:=⟨λl=> .xl (.int J) l⟩
instance:Coe (List ByteArray) LV:=⟨λl=> .xl .str l⟩
abbrev xQ (n:Nat) (l:List LV):LV:=.xq n λj=>l.getD j .junk
abbrev AP:AB:=⟨[],0,.dead,X⟩
abbrev bV (k:Nat) (e:Ty) (l:List e.D):AB:=⟨[],k,.vec e l,X⟩
end Go.Sx
namespace Go.Sx
open Go Go.RowKit Go.Proofs.YtipodhghjclmbaaGreatDoor
variable {P : Program} {G : B1} {Γ : Specs} {K : Hand} {L : LN} {β : Nat -> Loc} {Z : Nat -> Prop} {w : World} {n : Nat}
def Bq (k:IntKind) (x y:Int):Int:=k.wrap<|(BitVec.ofInt k.bits x&&&BitVec.ofInt k.bits y).toNat
def DM (k:IntKind) (x y:Int):Int:=k.wrap<|(BitVec.ofInt k.bits x |||BitVec.ofInt k.bits y).toNat
def aJk (k:IntKind) (x y:Int):Int:=k.wrap<|(BitVec.ofInt k.bits x^^^BitVec.ofInt k.bits y).toNat
def gi (l:List Int) (n:Int):Int:=l.getD n.toNat 0
def IF {l:List Int}{n:Int}(h:n.toNat<M l):gi l n=l[n.toNat]:=by simp [gi,List.getD,DQ h]
def KG {l:List Int}{n:Int}(h:n.toNat<M l):gi l n∈l:=by rw [IF h];exact H0 h
theorem gK {α:Type}{f:LV->Option α}{l:List LV}{d:α}{ys:List Value}(h:hd1 f l=ah d) (hr:RL β Z w l ys):∃x y,f x=ah d/\ys=[y]/\R β Z w x y:=by
 unfold hd1 at h;split at h
 ·rename_i x
  simp only [RL] at hr
  grind
 ·cases h
def RL.one {x:LV}{y:Value}(h:R β Z w x y):RL β Z w [x] [y]:=by simp only [RL];exact ⟨y,[],rfl,h,rfl⟩
def cQ:∀(t:Ty) (cs:List LV) (d:t.D) (ys:List Value),Ji t cs=ah d->RL β Z w cs ys->RL β Z w (Bn t d) ys
 | .int k,cs,d,ys,h,hr=>by
  obtain ⟨x,y,h1,rfl,h3⟩:=gK h hr;unfold wM at h1;split at h1
  ·split at h1
   ·rename_i hk;simp only [Ah] at h1;subst h1 hk;exact RL.one h3
   ·cases h1
  ·split at h1
   ·rename_i hk;simp only [Ah] at h1;subst h1 hk;exact RL.one aNu
   ·cases h1
  ·cases h1
 | .bool,cs,d,ys,h,hr=>by
  obtain ⟨x,y,h1,rfl,h3⟩:=gK h hr;unfold wN at h1;split at h1
  ·simp only [Ah] at h1;subst h1;exact RL.one h3
  ·simp only [Ah] at h1;subst h1;exact RL.one aNu
  ·cases h1
 | .str,cs,d,ys,h,hr=>by
  obtain ⟨x,y,h1,rfl,h3⟩:=gK h hr;unfold wL at h1;split at h1
  ·simp only [Ah] at h1;subst h1;exact RL.one h3
  ·cases h1
 | .sl e,cs,d,ys,h,hr=>by
  obtain ⟨x,y,h1,rfl,h3⟩:=gK h hr;exact RL.one (tl h1 h3)
 | .pair a b,cs,d,ys,h,hr=>by
  simp only [Ji] at h;split at h
  ·rename_i x y h1 h2
   simp only [Ah] at h;subst h
   have e1:=cQ a _ x _ h1<|hr.take a.n
   have e2:=cQ b _ y _ h2<|hr.drop a.n
   rw [<-List.take_append_drop a.n ys];exact e1.app e2
  ·cases h
def upV (P:Program) (t:TypeId) (x:LV):LV:=
 match IL P 8 t,SC P t with
 | some ty,ah U=>match x with
  | .v (.agg ys)=>(match Ji ty (ys.toList.map .v) with
   |some d=>Jc (Bn ty d)
   |none=>x)
  | .agg l=>(match Ji ty l with
   |some d=>Jc (Bn ty d)
   |none=>x)
  |_=>x
 | some ty,ah X=>(match Ji ty [x] with
  |some d=>(match Bn ty d with
   | [c]=>c
   |_=>x)
  |none=>x)
 |_,_=>x
def G9 (P:Program):List TypeId->List LV->List LV
 |t::ts,x::xs=>upV P t x::G9 P ts xs
 |_,xs=>xs
def upR (P:Program) (ts:List TypeId) (x:LV):LV:=
 match ts with
 | [t]=>upV P t x
 |ts=>match x with
  | .v (.tuple ys)=>R1 (G9 P ts<|ys.toList.map .v)
  | .AO l=>R1 (G9 P ts l)
  |x=>x
def RL.plain:∀(ys:List Value),RL β Z w (ys.map .v) ys
 | []=>aH
 |y::ys=>by simp only [E9,RL];exact ⟨y,ys,rfl,JR,RL.plain ys⟩
def aDR:∀(ys:List Value),AS n (ys.map .v)
 | []=>trivial
 |y::ys=>⟨ak,aDR ys⟩
theorem aTw {t:TypeId}{x:LV}{y:Value}(h:R β Z w x y):R β Z w (upV P t x) y:=by
 unfold upV;split
 ·split
  ·split
   ·rename_i d hd
    subst h;exact Vz<|cQ _ _ d _ hd<|RL.plain _
   ·exact h
  ·split
   ·rename_i d hd
    obtain ⟨ys,rfl,h2⟩:=h;exact Vz<|cQ _ _ d _ hd h2
   ·exact h
  ·exact h
 ·split
  ·rename_i d hd
   split
   ·rename_i c hc
    have:=cQ _ _ d _ hd<|RL.one h
    rw [hc] at this;obtain ⟨y',zs,e1,e2,e3⟩:=this
    grind
   ·exact h
  ·exact h
 ·exact h
def aJb {t:TypeId}{x:LV}(h:okV n x):okV n (upV P t x):=by
 unfold upV;split
 ·split
  ·split
   ·exact QB<|NT _ _ _
   ·exact h
  ·split
   ·exact QB<|NT _ _ _
   ·exact h
  ·exact h
 ·split
  ·rename_i d hd
   split
   ·rename_i c hc
    have:=NT n _ d
    rw [hc] at this;exact this.1
   ·exact h
  ·exact h
 ·exact h
def fo:∀ {ts:List TypeId}{l:List LV}{ys:List Value},RL β Z w l ys->RL β Z w (G9 P ts l) ys
 | [],l,ys,h=>l8
 |_::_,[],ys,h=>l8
 |t::ts,x::xs,ys,h=>by
  obtain ⟨y,zs,h1,h2,h3⟩:=h;exact ⟨y,zs,h1,aTw h2,fo h3⟩
def dy:∀ {ts:List TypeId}{l:List LV},AS n l->AS n (G9 P ts l)
 | [],l,h=>l8
 |_::_,[],h=>l8
 |t::ts,x::xs,h=>by
  exact ⟨aJb h.1,dy h.2⟩
def ahr {ts:List TypeId}{x:LV}{y:Value}(h:R β Z w x y):R β Z w (upR P ts x) y:=by
 unfold upR;split
 ·exact aTw h
 ·split
  ·simp only [R] at h
   subst h;exact qC<|fo<|RL.plain _
  ·simp only [R] at h
   obtain ⟨ys,rfl,h2⟩:=h;exact qC<|fo h2
  ·exact h
def aua {ts:List TypeId}{x:LV}(h:okV n x):okV n (upR P ts x):=by
 unfold upR;split
 ·exact aJb h
 ·split
  ·exact oq<|dy<|aDR _
  ·exact oq<|dy<|by simpa only [okV] using h
  ·exact h
def Ju (P:Program) (ts:List TypeId) (S:List LV->T LV):List LV->T LV:=λl=>S<|G9 P ts l
def Valid.up {f:FuncId}{S:List LV->T LV}(h:Valid P G f S) (ts:List TypeId):Valid P G f (Ju P ts S):=by
 intro args vals w Z lv hz hg hok hr hs;exact h (G9 P ts args) vals w Z lv hz hg (dy hok) (fo hr) hs
/-A pointer to cells that are only read,told by the cells. -/
mutual
def canX:LV->LV
 | .xq n f=> .xq n (λj=>((au n).map λi=>canX (f i)).getD j .junk)
 | .fn f l=> .fn f (canL l)
 | .fb f l=> .fb f (canL l)
 |x=>x
def canL:List LV->List LV
 | []=>[]
 |x::xs=>canX x::canL xs
end
mutual
def canX_R:∀ {x:LV}{y:Value},R β Z w x y->R β Z w (canX x) y
 | .xq n f,y,h=>by
  simp only [canX,R] at h|-;obtain ⟨b,off,h1,hz,h2⟩:=h;refine ⟨b,off,h1,hz,λj hj=>?_⟩
  have e:((au n).map λi=>canX (f i)).getD j .junk=canX (f j):=yG
  rw [e];obtain ⟨z,e1,e2⟩:=h2 j hj;exact ⟨z,e1,canX_R e2⟩
 | .fn f l,y,h=>by
  exact aLc
 | .fb f l,y,h=>by
  exact aLc
 | .v _,_,h=>h
 | .bl _,_,h=>h
 | .ki _ _,_,h=>h
 | .own _ _,_,h=>h
 | .agg _,_,h=>h
 | .AO _,_,h=>h
 | .xl _ _,_,h=>h
 | .os ..,_,h=>h
 | .op ..,_,h=>h
 | .om _,_,h=>h
 | .mp ..,_,h=>h
 | .oc ..,_,h=>h
 | .CK _,_,h=>h
 | .junk,_,h=>h
def canL_R:∀ {l:List LV}{ys:List Value},RL β Z w l ys->RL β Z w (canL l) ys
 | [],ys,h=>by simpa only [canL,RL] using h
 |x::xs,ys,h=>by
  simp only [canL,RL] at h|-;obtain ⟨y,zs,h1,h2,h3⟩:=h;exact ⟨y,zs,h1,canX_R h2,canL_R h3⟩
end
mutual
def canX_ok:∀ {n:Nat}{x:LV},okV n x->okV n (canX x)
 | _,.xq m f,h=>by
  simp only [canX,okV] at h|-;intro j
  by_cases hj:j<m
  ·have e:((au m).map λi=>canX (f i)).getD j .junk=canX (f j):=yG
   rw [e];exact canX_ok (h j)
  ·have e:((au m).map λi=>canX (f i)).getD j .junk=.junk:=yG
   rw [e];trivial
 |_,.fn f l,h=>by
  simp only [canX,okV] at h|-;exact canL_ok h
 |_,.fb f l,h=>by
  simp only [canX,okV] at h|-;exact canL_ok h
 |_,.v _,h=>h
 |_,.bl _,h=>h
 |_,.ki _ _,h=>h
 |_,.own _ _,h=>h
 |_,.agg _,h=>h
 |_,.AO _,h=>h
 |_,.xl _ _,h=>h
 |_,.os ..,h=>h
 |_,.op ..,h=>h
 |_,.om _,h=>h
 |_,.mp ..,h=>h
 |_,.oc ..,h=>h
 |_,.CK _,h=>h
 |_,.junk,h=>h
def canL_ok:∀ {n:Nat}{l:List LV},AS n l->AS n (canL l)
 |_,[],h=>h
 |_,x::xs,h=>by
  simp only [canL,AS] at h|-;exact ⟨canX_ok h.1,canL_ok h.2⟩
end
def Dn {n:Nat}{f:Nat->LV}{l:List LV}(h:(au n).map f=l):((au n).map λi=>canX<|f i)=canL l:=by
 have e:∀l:List LV,canL l=l.map canX:=λl=>by induction l with
  |nil=>rfl
  |cons x l ih=>simp only [canL,ih,E9]
 rw [e,<-h,Gy];rfl
def Bi (P:Program) (G:B1) (Γ:Specs) (K:Hand) (L:LN) (fn:Func) (args:List LV):T LV:=(aBX P G Γ K L fn args).bind λx=> .ok<|canX<|upR P fn.resultTypes.toList x
def aED {f:FuncId}{fn:Func}{X S:List LV->T LV}(h0:Valid P G f X) (hS:∀args lv,(S args).all (λx=>x=lv)->((X<|canL args).bind λx=> .ok<|canX<|upR P fn.resultTypes.toList x).all (λx=>x=lv)):Valid P G f (Ju P fn.params.toList S):=by
 refine Valid.up ?_ _;intro args vals w Z lv hz hg hok hr hs
 have hs:=hS args lv hs
 obtain ⟨x,h1,h2⟩:=T.B4 hs;subst h2;exact Calls.mono (h0 (canL args) vals w Z x hz hg (canL_ok hok) (canL_R hr) h1) λe w' ⟨e1,v,e2,e3,e4⟩=>⟨e1,v,e2,canX_ok<|aua e3,canX_R<|ahr e4⟩
def nX {f:FuncId}{fn:Func}{c:Code}{S:List LV->T LV}(hfn:P.funcs[f]? =ah fn) (hc:fn.body=ah c) (hΓ:∀g S,Γ g=ah S->Valid P G g S) (hK:FE P G K)
  (hL:∀b∈BD c,Sound P G (.loop b)<|L<|GY b) (hS:∀args lv,(S args).all (λx=>x=lv)->(Bi P G Γ K L fn<|canL args).all (λx=>x=lv)):Valid P G f (Ju P fn.params.toList S):=
 aED (afz hfn hc hΓ hK hL λ_ _ h=>h) hS
def T.red {α:Type}:T α->T α
 | .br U t _=>T.red t
 | .br X _ e=>T.red e
 | .req p t=> .req p (T.red t)
 |t=>t
def T.WI {α:Type}{K:α->Prop}:∀ {t:T α},t.red.all K->t.all K
 | .ok _,h=>h
 | .br U t e,h=>⟨λ_=>T.WI h,λhb=>L4⟩
 | .br X t e,h=>⟨λhb=>L4,λ_=>T.WI h⟩
 | .req p t,h=>⟨h.1,T.WI h.2⟩
 | .no,h=>h
end Go.Sx
namespace Go.Proofs.YtipodhghjclmbaaGreatDoor
set_option maxRecDepth 100000
set_option maxHeartbeats 4000000
open Go.Proofs.Tryz
open Go.Sx
abbrev Ad:Ty:=.pair .str<|.pair A7<|.pair A7<|.pair A7<|.pair (.pair A7 A7)<|.pair A7<|.pair A7<|.pair A7<|.pair A7 A7
abbrev Ai:Ty:=.pair .str<|.pair A7<|.pair A7 A7
abbrev Ae:Ty:=.pair .str<|.pair A7<|.pair A7<|.pair A7<|.pair A7<|.pair A7<|.pair A7 A7
abbrev Aj:Ty:=.pair .str A7
abbrev Cbl:=Int×Int×Int×Int×Int
abbrev Cd:=ByteArray×Int×Int×Int×(Int×Int)×Cbl
instance:Coe (List Cd) LV:=⟨.xl Ad⟩
abbrev Ko:=ByteArray×Int×Int×Int
instance:Coe (List Ko) LV:=⟨.xl Ai⟩
abbrev Ch:=ByteArray×Int×Int×Int×Int×Int×Int×Int
instance:Coe (List Ch) LV:=⟨.xl Ae⟩
abbrev Ba:=ByteArray×Int
instance:Coe (List Ba) LV:=⟨.xl Aj⟩
def s5 (a:List LV) (k:List Cd->List ByteArray->List Ko->List Ch->List Ba->T LV):T LV:=match a with
 | [.xl (.pair .str (.pair (.int J) (.pair (.int J) (.pair (.int J) (.pair (.pair (.int J) (.int J)) (.pair (.int J) (.pair (.int J) (.pair (.int J) (.pair (.int J) (.int J)))))))))) cs,.xl (.str) os,.xl (.pair .str (.pair (.int J) (.pair (.int J) (.int J)))) ks,.xl (.pair .str (.pair (.int J) (.pair (.int J) (.pair (.int J) (.pair (.int J) (.pair (.int J) (.pair (.int J) (.int J)))))))) gs,.xl (.pair .str (.int J)) bs]=>k cs os ks gs bs
 |_=> .no
theorem IE {a:List LV}{k:List Cd->List ByteArray->List Ko->List Ch->List Ba->T LV}{K:LV->Prop}(h:(s5 a k).all K):∃cs os ks gs bs,a=[.xl Ad cs,.xl .str os,.xl Ai ks,.xl Ae gs,.xl Aj bs]/\(k cs os ks gs bs).all K:=by
 unfold s5 at h;exact ko
def AJ {x:Int}(h1:-9223372036854775808<=x:=by omega) (h2:x<=9223372036854775807:=by omega):AA x=x:=by
 exact aMV
def inB (n a b:Int):Bool:=an (n>=a)&&an (n<=b)
def BV {n a b:Int}:inB n a b=U↔a<=n/\n<=b:=by simp [inB]
theorem Mg {α:Type}{l:List α}{d:α}{n:Int}(h:n.toNat<M l):l.getD n.toNat d=l[n.toNat]:=A8
theorem QK {α:Type}{l:List α}{d:α}{i:Int}(h0:0<=i) (h:i<M l):l.drop i.toNat=l.getD i.toNat d::l.drop (i+1).toNat/\l.take (i+1).toNat=l.take i.toNat++[l.getD i.toNat d]:=by
 have hlt:i.toNat<M l:=A0
 rw [Mg hlt,show (i+1).toNat=i.toNat+1 by omega,List.take_add_one,DQ hlt,SZ hlt]
 grind
def emp:ByteArray:=av #[]
def Ag (l:List Cd) (n:Int):Cd:=l.getD n.toNat (emp,0,0,0,(0,0),0,0,0,0,0)
def AG (l:List Ch) (n:Int):Ch:=l.getD n.toNat (emp,0,0,0,0,0,0,0)
def OH (l:List Ko) (n:Int):Ko:=l.getD n.toNat (emp,0,0,0)
def OO (l:List Ba) (n:Int):Ba:=l.getD n.toNat (emp,0)
def gS (l:List ByteArray) (n:Int):ByteArray:=l.getD n.toNat emp
end Go.Proofs.YtipodhghjclmbaaGreatDoor
end
