/- Helpers for ParkMeters. Conditions: none. -/
import Derived.Test.YtgmhhjldohjpmaaGreatDoorQm1
set_option linter.defProp false
set_option linter.unusedVariables false
set_option linter.unusedSimpArgs false
noncomputable section
namespace Go.Sx
open Go Go.RowKit Go.Proofs.YtgmhhjldohjpmaaGreatDoor
variable {P : Program} {G : Av} {Γ : Specs} {β : Nat -> Loc} {Z : Nat -> Prop} {Z0 : Gz} {w w0 : World} {F : List LV} {H : List AB} {a : Act} {ds : List Deferred}
def ama {t e:TypeId}{ty:Ty}{l:List ty.D}{len:Nat}{pl:List (Nat×LV)}{pv:Array (Nat×Value)}{n:Nat}(hu:P.underlying t=some (.slice e)) (h:(LN P t len pl).all (λz=>z=.xl ty l)) (hp:pv.toList.map (·.1)=pl.map (·.1)) (hr:RL β Z w (pl.map (·.2)) (pv.toList.map (·.2))) (hk:AR n (pl.map (·.2))):
  ∃cells:Array Value,(∀w',(Instr.buildSlice t len pv).run P w'=.ok (.slice (some ⟨w'.heap.size,0,none⟩) len len) (w'.alloc (.cells cells e)))/\l.length=len/\cells.size=len*ty.n/\
   (∀(w':World) (b:Nat),(∀b,Z b->w'.heap[b]? =w.heap[b]?)->(∀(j:Nat) v,cells.toList[j]? =some v->w'.cell? ⟨b,0+j,none⟩=some v)->∀(i:Nat) (d:ty.D),l[i]? =some d->RD Z w' ty d b (0+i*ty.n)):=by
 unfold LN at h;rw [hu] at h;simp only at h;split at h
 ·rename_i ty0 m z hty hsz hz
  split at h
  ·rename_i hcond
   split at h
   ·rename_i cs hcs
    split at h
    ·rename_i l0 hl
     simp only [T.all,LV.xl.injEq] at h;obtain ⟨rfl,h⟩:=h;obtain rfl:=eq_of_heq h
     have hz0:RL β Z w ((List.range (len*m)).map (λi=>LV.v (z.cells[i%z.cells.size]!))) ((Array.range (len*m)).map (λi=>z.cells[i%z.cells.size]!)).toList:=by
      exact wg
     have hok0:AR n ((List.range (len*m)).map (λi=>LV.v (z.cells[i%z.cells.size]!))):=by
      exact aLc
     obtain ⟨zs',f1,f2,f3⟩:=ay (β:=β) (Z:=Z) (w:=w) (n:=n) pl pv.toList _ cs _ hcs hp hr hk hz0 hok0;obtain ⟨k1,k2⟩:=tl ty0 len cs l0 _ hl f2
     have hcl:=aDN hcs
     have hsz2:zs'.size=len*m:=by
      have:=RL.length f2
      grind
     refine ⟨zs',λw'=>?_,k1,AA,λw' b hw hc i d hd=>k2 Z w' b 0 (λ_ h=>h) hw hc i d hd⟩
     exact x6
    ·cases h
   ·cases h
  ·cases h
 ·cases h
def afK {t:TypeId}{len:Nat}{vs:List (Nat×LV)}{pv:Array (Nat×Value)}{lv:LV}{H':List AB}(hW:RW G w0 Z0 Z β H w) (h:(aM P H t len vs).all (λq=>q=(lv,H'))) (hp:pv.toList.map (·.1)=vs.map (·.1))
  (hargs:RL β Z w (vs.map (·.2)) (pv.toList.map (·.2))) (hoka:AR H.length (vs.map (·.2))):
  ∃w' v Z' β',(Instr.buildSlice t len pv).run P w=.ok v w'/\Below w.heap.size w w'/\(∀b,Z b->Z' b)/\(∀k,k<H.length->β' k=β k)/\RW G w0 Z0 Z' β' H' w'/\R β' Z' w' lv v/\okV H'.length lv/\H'.length=H.length+1/\(β' H.length).b=w.heap.size:=by
 unfold aM at h;split at h
 ·rename_i hcl
  obtain ⟨y,h1,h2⟩:=T.Ay h;obtain ⟨_,hg,h1⟩:=T.Ay h1;split at h2
  ·rename_i e ty l hu _
   obtain ⟨rfl,rfl⟩:=h2
   have hG:=T.BT (K':=λ_=>True) (λ_ _=>trivial) hg
   obtain ⟨c1,c2⟩:=Sb hcl
   have hP:=hW.pub (reach H 64 (ownsL (vs.map (·.2))) [])
   have hH:=λk b hb=>(hW.blk k b hb).2
   have hr0:RL β (ZP Z β H λk=>k∈reach H 64 (ownsL (vs.map (·.2))) []) w ((vs.map (·.2)).map (Bz H 6)) (pv.toList.map (·.2)):=
    Sv (S:=λk=>k∈reach H 64 (ownsL (vs.map (·.2))) []) hargs hoka c1 (λx y hm hs hx hr=>MH hW c2 6 x y (ON hG x hm) hs hx hr)
   have hok0:AR 0 ((vs.map (·.2)).map (Bz H 6)):=by
    exact aKw
   have emap:(vs.map λq=>(q.1,Bz H 6 q.2)).map (·.2)=(vs.map (·.2)).map (Bz H 6):=AJ
   obtain ⟨cells,e1,e2,e3,e4⟩:=ama (β:=β) (Z:=ZP Z β H λk=>k∈reach H 64 (ownsL (vs.map (·.2))) []) (w:=w) (n:=0) (pv:=pv) hu h1 HR (by rw [emap];exact hr0) (by rw [emap];exact hok0)
   have hbw:Below w.heap.size w (w.alloc (.cells cells e)):=(Below.refl _ _).alloc (At _) _
   have hblk:(w.alloc (.cells cells e)).heap[w.heap.size]? =some (.cells cells e (0,0)):=by
    exact Zj
   obtain ⟨β',b1,b2,b3⟩:=(hP.same hbw).KJ (ℓ:=⟨w.heap.size,0,some len⟩) (nb:=⟨[],e,.vec ty l,false⟩) rfl ⟨trivial,trivial⟩
    (λ_=>⟨λhz=>by have:=hP.BV _ hz;simp only at this;omega,hW.below.size,λj bj hj lj e=>by have:=hP.lt hj lj;simp only at e;omega⟩) (λβ' g1 g2=>by
     simp only [BU,g2];refine ⟨cells,hblk,A0,A0,λj d' hd'=>?_⟩
     exact e4 _ w.heap.size (λb hz=>Dx hbw (hP.BV b hz)) (λj v hv=>by
      simpa using hv) j d' hd')
   simp only [Js] at b1 b2 b3;exact ⟨_,_,_,β',e1 w,hbw,λ_ h=> .inl h,b1,b3,aMV,by simp [okV,Js],by simp [Js],VZ⟩
  ·cases h2
 ·cases h
def afM {t:TypeId}{len:Nat}{pl:List (Nat×LV)}{pv:Array (Nat×Value)}{lv:LV}{H':List AB}(hW:RW G w0 Z0 Z β H w) (h:(lG P H t len pl).all (λq=>q=(lv,H'))) (hp:pv.toList.map (·.1)=pl.map (·.1)) (hr:RL β Z w (pl.map (·.2)) (pv.toList.map (·.2))) (hk:AR H.length (pl.map (·.2))):
  ∃w' v,(Instr.buildSlice t len pv).run P w=.ok v w'/\Below w.heap.size w w'/\∃β',(∀k,k<H.length->β' k=β k)/\RW G w0 Z0 Z β' H' w'/\R β' Z w' lv v/\okV H'.length lv/\H'.length=H.length+1/\(β' H.length).b=w.heap.size:=by
 unfold lG at h;split at h
 ·rename_i e hu
  split at h
  ·rename_i m z hsz hz
   split at h
   ·rename_i hc
    split at h
    ·rename_i cs hcs
     obtain ⟨rfl,rfl⟩:=h
     have hz0:RL β Z w ((List.range (len*m)).map (λi=>LV.v (z.cells[i%z.cells.size]!))) ((Array.range (len*m)).map (λi=>z.cells[i%z.cells.size]!)).toList:=by
      exact wg
     have hok0:AR H.length ((List.range (len*m)).map (λi=>LV.v (z.cells[i%z.cells.size]!))):=by
      have:=TI H.length ((List.range (len*m)).map (λi=>z.cells[i%z.cells.size]!))
      simpa [Gk,ZG] using this
     obtain ⟨zs',f1,f2,f3⟩:=ay (β:=β) (Z:=Z) (w:=w) (n:=H.length) pl pv.toList _ cs _ hcs hp hr hk hz0 hok0;obtain ⟨β',b1,b2,b3,b4⟩:=hW.alloc (t:=e) f2 f3
     have hbw:Below w.heap.size w (w.alloc (.cells zs' e)):=(Below.refl _ _).alloc (At _) _
     refine ⟨w.alloc (.cells zs' e),.slice (some ⟨w.heap.size,0,none⟩) len len,?_,hbw,β',b1,b3,?_,Lz,AJ,b2⟩
     ·exact x6
     ·simp only [R,b2]
      grind
    ·cases h
   ·cases h
  ·cases h
 ·cases h
def Su {o:Oper}{g:FuncId}{l:List LV}{lv:LV}{H':List AB}(h:(L9 P Γ H o g l).all (λq=>q=(lv,H'))):∃fn S,P.funcs[g]? =some fn/\¬fn.body=none/\¬fn.name= "runtime.NumGoroutine"/\Γ g=some S/\
  (if noOwnL l then (S l).bind λy=>(T.ok (y,H):T (LV×List AB))
      else if L1 P 8 o.type then ((Fz (EA H 6) l).bind λ_=>Q9 (S (l.map (Bz H 6)))).bind λy=> .ok (y,H)
      else if K0 H (reach H 64 (ownsL l) []) l then ((Fz (EA H 6) l).bind λ_=>S (l.map (Bz H 6))).bind λy=> .ok (y,FR (reach H 64 (ownsL l) []) 0 H) else .no).all (λq=>q=(lv,H')):=by
 unfold L9 at h;split at h
 ·rename_i fn hfn
  split at h
  ·rename_i hb
   split at h
   ·rename_i S hS
    grind
   ·cases h
  ·cases h
 ·cases h
def aDR {o:Oper}{lv:LV}(hΓ:∀g S,Γ g=some S->Valid P G g S) (hW:RW G w0 Z0 Z β H w) (hF:RF ds β Z w H.length F a) {g:FuncId}{vals:Array Value}(hrun:(execOp a.eval o).run P w=.ok (.enter g vals) w)
  {H':List AB} {l:List LV} (hargs:RL β Z w l vals.toList) (hoka:AR H.length l) (h:(L9 P Γ H o g l).all (λq=>q=(lv,H'))):
  DV P (Post ds G w0 Z0 F a β H w o lv H') ((execOp a.eval o).run P w):=by
 obtain ⟨fn,S,_,_,_,hS,h⟩:=Su h;rw [hrun]
 have hval:=hΓ g S hS
 have hH:=λk b hb=>(hW.blk k b hb).2
 split at h
 ·rename_i hno
  obtain ⟨y,h1,h2⟩:=T.Ay h;simp only [T.all,Aq] at h2;obtain ⟨rfl,rfl⟩:=h2
  have hok0:=noOwnL_ok _ hno hoka
  have hr0:RL β0 Z w l (vals).toList:=RL.mono (n:=0) (λ_ hk=>absurd hk A0) (λ_ h=>h) (λ_ _=>rfl) _ _ hok0 hargs
  refine (hval _ _ w Z y hW.BV hW.CV hok0 hr0 h1).mono λe w' ⟨hbw,v,he,hk,hr⟩=>⟨v,he,?_⟩
  refine ⟨_,β,hW.call hbw,hF.mono (At _) (λ_ _=>rfl) (λ_ h=> .inl h) (λb hz=>Dx hbw (hW.BV b hz)),?_,okV.mono (Kr _) _ hk,At _,λ_ _=>rfl,λk h1 h2=>A0,N2 hbw⟩
  exact aLl
 ·have hok0:=aBB hoka (λx hx=>Pt H hH 6 x hx)
  split at h
  ·obtain ⟨y,h1,h2⟩:=T.Ay h
   simp only [T.all,Aq] at h2;obtain ⟨rfl,rfl⟩:=h2;obtain ⟨_,hg,h1⟩:=T.Ay h1
   have hG:=T.BT (K':=λ_=>True) (λ_ _=>trivial) hg
   obtain ⟨h1,h2⟩:=aCd h1
   have hr0:RL β0 (ZP Z β H λ_=>True) w (l.map (Bz H 6)) (vals).toList:=
    RL.mono (n:=0) (λ_ hk=>absurd hk A0) (λ_ h=>h) (λ_ _=>rfl) _ _ hok0 (Sv (S:=λ_=>True) hargs hoka (λ_ _=>trivial) (λx y hm hs hx hr=>MH hW (λ_ _ _ _ _ _=>trivial) 6 x y (ON hG x hm) hs hx hr))
   have hzo:∀b,ZP Z β H (λ_=>True) b->b<w.heap.size:=λb hz=>by
    exact aLE
   refine (hval _ _ w _ y hzo (hW.CV.mono (λ_ h=> .inl h) (λ_ _=>rfl)) hok0 hr0 h1).mono λe w' ⟨hbw,v,he,hk,hr⟩=>⟨v,he,?_⟩
   refine ⟨Z,β,hW.same hbw,hF.mono (At _) (λ_ _=>rfl) (λ_ h=>h) (λb hz=>Dx hbw (hW.BV b hz)),?_,okV.mono (Kr _) _ hk,At _,λ_ _=>rfl,λk h1 h2=>A0,N2 hbw⟩
   obtain ⟨x,hx⟩:=ZJ.1 h2;rw [Cb hx hr];exact aJs hx
  ·split at h
   ·rename_i hcl
    obtain ⟨y,h1,h2⟩:=T.Ay h;simp only [T.all,Aq] at h2;obtain ⟨rfl,rfl⟩:=h2;obtain ⟨_,hg,h1⟩:=T.Ay h1
    have hG:=T.BT (K':=λ_=>True) (λ_ _=>trivial) hg
    obtain ⟨c1,c2⟩:=Sb hcl
    have hP:=hW.pub (reach H 64 (ownsL l) [])
    have hr0:RL β0 (ZP Z β H λk=>k∈reach H 64 (ownsL l) []) w (l.map (Bz H 6)) (vals).toList:=
     RL.mono (n:=0) (λ_ hk=>absurd hk A0) (λ_ h=>h) (λ_ _=>rfl) _ _ hok0 (Sv (S:=λk=>k∈reach H 64 (ownsL l) []) hargs hoka c1 (λx y hm hs hx hr=>MH hW c2 6 x y (ON hG x hm) hs hx hr))
    refine (hval _ _ w _ y hP.BV hP.CV hok0 hr0 h1).mono λe w' ⟨hbw,v,he,hk,hr⟩=>⟨v,he,?_⟩
    refine ⟨_,β,hP.call hbw,?_,?_,okV.mono (Kr _) _ hk,by rw [Js];exact At _,λ_ _=>rfl,λk h1 h2=>by rw [Js] at h2;omega,N2 hbw⟩
    ·exact aLd
    ·exact aLl
   ·cases h
def aBz {f:Operand}{args:Array Operand}{ty:Array TypeId}{o:Oper}(ho:o.op=.call {callee:=.value f,args,argTypes:=ty}) {g:FuncId}{ys:Array Value}(hy:a.eval f=.func (.func g) #[] ys) {fn:Func}(hfn:P.funcs[g]? =some fn) (hb:¬fn.body=none) (hb3:¬fn.name= "runtime.NumGoroutine") (w:World):
  (execOp a.eval o).run P w=.ok (.enter g (args.map a.eval++ys)) w:=by
 unfold execOp;simp only [ho]
 simp [resolve,Deferred.ofValue,hy,invoke,callFunc,hfn,hb3,hb]
def aCM {f:Operand}{args:Array Operand}{ty:Array TypeId}{o:Oper}(ho:o.op=.call {callee:=.value f,args,argTypes:=ty}) {g:FuncId}{ys:Array Value}(hy:a.eval f=.func (.func g) ys #[]) {fn:Func}(hfn:P.funcs[g]? =some fn) (hb:¬fn.body=none) (hb3:¬fn.name= "runtime.NumGoroutine") (w:World):
  (execOp a.eval o).run P w=.ok (.enter g (ys++args.map a.eval)) w:=by
 unfold execOp;simp only [ho]
 simp [resolve,Deferred.ofValue,hy,invoke,callFunc,hfn,hb3,hb]
def qC (G:Av) (F:List LV) (f:Operand) (args:Array Operand) (g:FuncId) (l:List LV):Prop:=
 (∃cap,AL G F f=.fn g cap/\l=args.toList.map (λx=>norm (AL G F x))++cap)\/(∃fs,AL G F f=.fb g fs/\l=fs++args.toList.map (λx=>norm (AL G F x)))\/(AL G F f=.v (.func (.func g) #[] #[])/\l=args.toList.map (λx=>norm (AL G F x)))
def aCj {f:Operand}{args:Array Operand}{ty:Array TypeId}{o:Oper}(ho:o.op=.call {callee:=.value f,args,argTypes:=ty}) (hW:RW G w0 Z0 Z β H w) (hF:RF ds β Z w H.length F a) {g:FuncId}{l:List LV}
  (hf:qC G F f args g l) {fn:Func} (hfn:P.funcs[g]? =some fn) (hb:¬fn.body=none) (hb3:¬fn.name= "runtime.NumGoroutine"):
  ∃vals:Array Value,(execOp a.eval o).run P w=.ok (.enter g vals) w/\RL β Z w l vals.toList/\AR H.length l:=by
 have hfr:=hF.eval hW.CV f
 have ha:RL β Z w (args.toList.map (λx=>norm (AL G F x))) (args.map a.eval).toList:=by
  exact aKs
 have hk:AR H.length (args.toList.map (λx=>norm (AL G F x))):=by
  exact aKc
 rcases hf with ⟨cap,hf,rfl⟩ |⟨fs,hf,rfl⟩ |⟨hf,rfl⟩
 ·rw [hf] at hfr
  obtain ⟨⟨ys,hy,hyr⟩,hcap⟩:=hfr;exact ⟨_,aBz ho hy hfn hb hb3 w,by rw [jZ];exact RL.app ha hyr,AR.append hk hcap⟩
 ·rw [hf] at hfr
  obtain ⟨⟨ys,hy,hyr⟩,hcap⟩:=hfr;exact ⟨_,aCM ho hy hfn hb hb3 w,by rw [jZ];exact RL.app hyr ha,AR.append hcap hk⟩
 ·rw [hf] at hfr
  have hy:=hfr.1
  exact ⟨_,aBz ho hy hfn hb hb3 w,AA,hk⟩
def aCV {r:Operand}{name:String}{args:Array Operand}{ty:Array TypeId}{o:Oper}(ho:o.op=.call {callee:=.invoke r name,args,argTypes:=ty}) {t:TypeId}{v rv:Value}{g:FuncId}(hy:a.eval r=.iface t v) (hm:Ij P (method (P.types.size+Made.depth) t v name)=some (g,rv)) {fn:Func}(hfn:P.funcs[g]? =some fn) (hb:¬fn.body=none) (hb3:¬fn.name= "runtime.NumGoroutine") (w:World):
  (execOp a.eval o).run P w=.ok (.enter g (#[rv]++args.map a.eval)) w:=by
 unfold execOp;simp only [ho]
 have hr:=ax w hm
 have h0:(#[Value.iface t v]++args.map a.eval)[0]? =some (.iface t v):=AA
 have hx:(args.map a.eval).extract 0 args.size=args.map a.eval:=by
  grind
 simp [resolve,hy,invoke,callMethod,hr,callFunc,hfn,hb3,hb,h0,hx]
def aFc {x:LV}{name:String}{g:FuncId}{rv z:Value}(h:fO P x name=some (g,rv)) (hr:R β Z w x z):∃t v,z=.iface t v/\Ij P (method (P.types.size+Made.depth) t v name)=some (g,rv):=by
 unfold fO at h;split at h
 ·rename_i t v hp
  exact ⟨t,v,Cb hp hr,h⟩
 ·cases h
def aCk {f:Operand}{args:Array Operand}{ty:Array TypeId}{o:Oper}{lv:LV}(ho:o.op=.call {callee:=.value f,args,argTypes:=ty}) (hΓ:∀g S,Γ g=some S->Valid P G g S)
  (hW:RW G w0 Z0 Z β H w) (hF:RF ds β Z w H.length F a) {g:FuncId} {l:List LV} (hf:qC G F f args g l)
  {H':List AB} (h:(L9 P Γ H o g l).all (λq=>q=(lv,H'))):
  DV P (Post ds G w0 Z0 F a β H w o lv H') ((execOp a.eval o).run P w):=by
 obtain ⟨fn,S,h1,h2,h3,_⟩:=Su h;obtain ⟨vals,q1,q2,q3⟩:=aCj ho hW hF hf h1 h2 h3;exact aDR hΓ hW hF q1 q2 q3 h
def afA {r:Operand}{name:String}{args:Array Operand}{ty:Array TypeId}{o:Oper}{lv:LV}(ho:o.op=.call {callee:=.invoke r name,args,argTypes:=ty}) (hΓ:∀g S,Γ g=some S->Valid P G g S)
  (hW:RW G w0 Z0 Z β H w) (hF:RF ds β Z w H.length F a) {g:FuncId} {rv:Value} (hf:fO P (AL G F r) name=some (g,rv))
  {H':List AB} (h:(L9 P Γ H o g (.v rv::args.toList.map (λx=>norm (AL G F x)))).all (λq=>q=(lv,H'))):
  DV P (Post ds G w0 Z0 F a β H w o lv H') ((execOp a.eval o).run P w):=by
 obtain ⟨t,v,hy,hm⟩:=aFc hf (hF.eval hW.CV r).1
 have hargs:RL β Z w (.v rv::args.toList.map (λx=>norm (AL G F x))) (#[rv]++args.map a.eval).toList:=by
  rw [jZ,Mq];simp only [I5,Di,RL];refine ⟨rv,_,rfl,JK,RL.CO AJ λi x hx=>?_⟩
  rw [DS] at hx|-;cases hq:args.toList[i]? with
  |none=>simp [hq] at hx
  |some q=>simp [hq] at hx;subst hx;exact ⟨a.eval q,AJ,OY (hF.eval hW.CV q).1⟩
 have hoka:AR H.length (.v rv::args.toList.map (λx=>norm (AL G F x))):=by
  refine ⟨trivial,AR.CO λi x hx=>?_⟩
  cases hq:args.toList[i]? with
  |none=>simp [hq] at hx
  |some q=>simp [hq] at hx;subst hx;exact Sr (hF.eval hW.CV q).2
 obtain ⟨fn,S,h1,h2,h3,_⟩:=Su h;exact aDR hΓ hW hF (aCV ho hy hm h1 h2 h3 w) hargs hoka h
structure F5 (P:Program) (G:Av) (K:Hand):Prop where
 k:∀(w0:World) (Z0:Gz) (Z:Nat->Prop) (β:Nat->Loc) (H:List AB) (w:World) (g:FuncId) (args:List LV) (vals:Array Value) (lv:LV) (H':List AB),RW G w0 Z0 Z β H w->RL β Z w args vals.toList->AR H.length args->(K.k g args H).all (λq=>q=(lv,H'))->
  Calls P g vals w λe w'=>∃v,e=.returned v/\∃Z' β',RW G w0 Z0 Z' β' H' w'/\R β' Z' w' lv v/\okV H'.length lv
 y :∀(w0:World) (Z0:Gz) (Z:Nat->Prop) (β:Nat->Loc) (H:List AB) (w:World) (k:Nat) (args:List LV) (vals:Array Value) (lv:LV) (H':List AB),RW G w0 Z0 Z β H w->RL β Z w args vals.toList->AR H.length args->(K.y k args H).all (λq=>q=(lv,H'))->
  ∃r:Loop,w.heap[(β k).b]? =some (.loop r)/\vals.size=r.params.size/\RoundIn Fence.wide 0 P (β k).b r.fn ((r.params.zip vals).foldl (λt (p,v)=>t.setIfInBounds p v) r.tmps) r.assign r.body w
   λe w'=>∃v,e=.returned v/\∃Z' β',RW G w0 Z0 Z' β' H' w'/\R β' Z' w' lv v/\okV H'.length lv
def Po:F5 P G Fh:=⟨λ_ _ _ _ _ _ _ _ _ _ _ _ _ _ h=>Ah,λ_ _ _ _ _ _ _ _ _ _ _ _ _ _ h=>Ah⟩
def bU (hΓ:∀g S,Γ g=some S->Valid P G g S) (hW:RW G w0 Z0 Z β H w) (hF:RF ds β Z w H.length F a) {o:Oper}{lv:LV}{H':List AB}
  (h:(Ap P G Γ F H o).all (λq=>q=(lv,H'))):DV P (Post ds G w0 Z0 F a β H w o lv H') ((execOp a.eval o).run P w):=by
 have hsel:∀cs b,o.op≠ .select cs b:=λcs b e=>by unfold Ap at h;simp only [e] at h;cases h
 have ev:=λx=>hF.eval hW.CV x
 have same:∀ {t:T LV},(t.bind λy=>(T.ok (y,H):T (LV×List AB))).all (λq=>q=(lv,H'))->t.all (λz=>z=lv)/\H'=H:=λh=>by
  obtain ⟨x,h1,h2⟩:=T.Ay h;simp only [T.all,Aq] at h2;obtain ⟨rfl,rfl⟩:=h2;exact ⟨h1,rfl⟩
 have gen:(DY P G F o).all (λz=>z=lv)->H'=H->DV P (Post ds G w0 Z0 F a β H w o lv H') ((execOp a.eval o).run P w):=λhg e=>by
  subst e;exact afB hsel hW hF hg
 have val:∀ {v:Value},H'=H->(execOp a.eval o).run P w=.ok (.value v) w->R β Z w lv v->okV H.length lv->DV P (Post ds G w0 Z0 F a β H w o lv H') ((execOp a.eval o).run P w):=λe hrun hr hk=>by
  subst e;exact aCK hW hF hrun hr hk
 unfold Ap at h;split at h
 ·cases h
 ·exact aKY
 ·exact aKY
 ·rename_i c x y ho
  obtain ⟨h1,h2⟩:=same h;obtain ⟨g,e1,e2,e3⟩:=ae0 h1 (ev c).1 (ev x).1 (ev y).1 (ev x).2 (ev y).2;exact val h2 (v:=if g then a.eval x else a.eval y) aNX e2 e3
 ·rename_i t ho
  split at h
  ·rename_i z hz
   split at h
   ·rename_i cs hcs
    simp only [T.all,Aq] at h;obtain ⟨h1,h2⟩:=h;obtain ⟨c1,_⟩:=nQ (β:=β) (Z:=Z) (w:=w) hcs (show R β Z w (.v z) z by simp only [R])
    obtain ⟨β',b1,b2,b3,b4⟩:=hW.alloc (t:=t) c1 (mq hcs trivial)
    have hrun:(execOp a.eval o).run P w=.ok (.value (.pointer (some ⟨w.heap.size,0,none⟩))) (w.alloc (.cells z.cells t)):=by
     have e:=λw=>mG hz w
     simp [execOp,ho,Instr.alloc,e,newVar,newRow]
    exact aKE
   ·cases h
  ·cases h
 ·rename_i t x ho
  split at h
  ·rename_i cs hcs
   simp only [T.all,Aq] at h;obtain ⟨h1,h2⟩:=h;obtain ⟨c1,_⟩:=nQ hcs (ev x).1;obtain ⟨β',b1,b2,b3,b4⟩:=hW.alloc (t:=t) c1 (mq hcs (ev x).2)
   have hrun:(execOp a.eval o).run P w=.ok (.value (.pointer (some ⟨w.heap.size,0,none⟩))) (w.alloc (.cells (a.eval x).cells t)):=by
    simp [execOp,ho,Instr.box,newVar,newRow]
   exact aKE
  ·cases h
 ·rename_i t x ho
  obtain ⟨h1,h2⟩:=same h;obtain ⟨z,e1,e2,e3⟩:=mH hW h1 (ev x).1 (ev x).2;exact xH
 ·rename_i t x y ho
  obtain ⟨H1,h1,h2⟩:=T.Ay h;simp only [T.all,Aq] at h2;obtain ⟨h2,h3⟩:=h2;subst h3;obtain ⟨w',e1,e2,e3,e4,e6⟩:=aeO hW h1 (ev x).1 (ev y).1 (ev y).2;exact aKN
 ·rename_i s x i ho
  obtain ⟨h1,h2⟩:=same h;obtain ⟨z,e1,e2,e3⟩:=adu (w:=w) h1 (ev x).1 (ev x).2;exact Zb
 ·rename_i t x i ho
  obtain ⟨h1,h2⟩:=same h;obtain ⟨z,e1,e2,e3⟩:=aBC (w:=w) h1 (ev x).1 (ev i).1 (ev x).2;exact Zb
 ·rename_i t parts ho
  obtain ⟨h1,h2⟩:=same h
  obtain ⟨z,e1,e2,e3⟩:=adq (β:=β) (Z:=Z) (w:=w) (n:=H.length) (pv:=parts.map λq=>(q.1,a.eval q.2)) h1 VS (by
   simp only [Mq,Gk];refine RL.CO AJ λi x hx=>?_
   rw [DS] at hx|-;cases hq:parts.toList[i]? with
   |none=>simp [hq] at hx
   |some q=>simp [hq] at hx;subst hx;exact ⟨a.eval q.2,AJ,(cN (ev q.2)).1⟩) (by
   simp only [Gk];refine AR.CO λi x hx=>?_
   rw [DS] at hx;cases hq:parts.toList[i]? with
   |none=>simp [hq] at hx
   |some q=>simp [hq] at hx;subst hx;exact (cN (ev q.2)).2)
  exact val h2 (v:=z) Jq e2 e3
 ·rename_i t len parts ho
  split at h
  ·rename_i h0
   subst h0;split at h
   ·rename_i hpe
    have hpa:parts=#[]:=by
     have:=ZX.1 hpe
     rw [<-j7 (xs:=parts),this]
    obtain ⟨w',v,e1,e2,β',e3,e4,e5,e6,e7,e8⟩:=aeQ hW h
    have hrun:(execOp a.eval o).run P w=.ok (.value v) w':=by simp [execOp,ho,hpa,e1]
    exact aKr
   ·cases h
  split at h
  rotate_left
  ·obtain ⟨w',v,e1,e2,β',e3,e4,e5,e6,e7,e8⟩:=afM (pv:=parts.map λq=>(q.1,a.eval q.2)) hW h VS (by
    simp only [Mq,Gk];refine RL.CO AJ λi x hx=>?_
    rw [DS] at hx|-;cases hq:parts.toList[i]? with
    |none=>simp [hq] at hx
    |some q=>simp [hq] at hx;subst hx;exact ⟨a.eval q.2,AJ,(ev q.2).1⟩) (by
    simp only [Gk];refine AR.CO λi x hx=>?_
    rw [DS] at hx;cases hq:parts.toList[i]? with
    |none=>simp [hq] at hx
    |some q=>simp [hq] at hx;subst hx;exact (ev q.2).2)
   have hrun:(execOp a.eval o).run P w=.ok (.value v) w':=Jq
   rw [hrun];refine ⟨Z,β',e4,hF.mono A0 e3 (λ_ h=>h) (λb hz=>Dx e2 (hW.BV b hz)),e5,e6,A0,e3,λk k1 k2=>?_,N2 e2⟩
   have:k=H.length:=A0
   rw [this,e8];exact .inl (At _)
  split at h
  ·obtain ⟨w',v,Z',β',e1,e2,ez,e3,e4,e5,e6,e7,e8⟩:=afK (pv:=parts.map λq=>(q.1,a.eval q.2)) hW h VS (by
    simp only [Mq,Gk];refine RL.CO AJ λi x hx=>?_
    rw [DS] at hx|-;cases hq:parts.toList[i]? with
    |none=>simp [hq] at hx
    |some q=>simp [hq] at hx;subst hx;exact ⟨a.eval q.2,AJ,(ev q.2).1⟩) (by
    simp only [Gk];refine AR.CO λi x hx=>?_
    rw [DS] at hx;cases hq:parts.toList[i]? with
    |none=>simp [hq] at hx
    |some q=>simp [hq] at hx;subst hx;exact (ev q.2).2)
   have hrun:(execOp a.eval o).run P w=.ok (.value v) w':=Jq
   rw [hrun];refine ⟨Z',β',e4,hF.mono A0 e3 ez (λb hz=>Dx e2 (hW.BV b hz)),e5,e6,A0,e3,λk k1 k2=>?_,N2 e2⟩
   have:k=H.length:=A0
   rw [this,e8];exact .inl (At _)
  split at h
  rotate_left
  ·unfold lL at h
   split at h
   ·rename_i hcl
    have hargs:RL β Z w ((parts.toList.map λq=>(q.1,AL G F q.2)).map (·.2)) ((parts.map λq=>(q.1,a.eval q.2)).toList.map (·.2)):=by
     simp only [Mq,Gk];refine RL.CO AJ λi x hx=>?_
     rw [DS] at hx|-;cases hq:parts.toList[i]? with
     |none=>simp [hq] at hx
     |some q=>simp [hq] at hx;subst hx;exact ⟨a.eval q.2,AJ,(ev q.2).1⟩
    have hoka:AR H.length ((parts.toList.map λq=>(q.1,AL G F q.2)).map (·.2)):=by
     simp only [Gk];refine AR.CO λi x hx=>?_
     rw [DS] at hx;cases hq:parts.toList[i]? with
     |none=>simp [hq] at hx
     |some q=>simp [hq] at hx;subst hx;exact (ev q.2).2
    generalize hvs:(parts.toList.map λq=>(q.1,AL G F q.2))=vs at h hcl hargs hoka
    obtain ⟨y,h1,h2⟩:=T.Ay h;simp only [T.all,Aq] at h2;obtain ⟨rfl,rfl⟩:=h2;obtain ⟨_,hg,h1⟩:=T.Ay h1
    have hG:=T.BT (K':=λ_=>True) (λ_ _=>trivial) hg
    obtain ⟨c1,c2⟩:=Sb hcl
    have hP:=hW.pub (reach H 64 (ownsL (vs.map (·.2))) [])
    have hH:=λk b hb=>(hW.blk k b hb).2
    have hr0:RL β (ZP Z β H λk=>k∈reach H 64 (ownsL (vs.map (·.2))) []) w ((vs.map (·.2)).map (Bz H 6)) ((parts.map λq=>(q.1,a.eval q.2)).toList.map (·.2)):=
     Sv (S:=λk=>k∈reach H 64 (ownsL (vs.map (·.2))) []) hargs hoka c1 (λx y hm hs hx hr=>MH hW c2 6 x y (ON hG x hm) hs hx hr)
    have hok0:AR 0 ((vs.map (·.2)).map (Bz H 6)):=by
     exact aKw
    have emap:(vs.map λq=>(q.1,Bz H 6 q.2)).map (·.2)=(vs.map (·.2)).map (Bz H 6):=VS
    obtain ⟨elem,cells,e1,e2,e3⟩:=aCh (β:=β) (Z:=ZP Z β H λk=>k∈reach H 64 (ownsL (vs.map (·.2))) []) (w:=w) (n:=0) (pv:=parts.map λq=>(q.1,a.eval q.2)) h1 (by rw [<-hvs];simp [ZG]) (by rw [emap];exact hr0) (by rw [emap];exact hok0)
    have hrun:(execOp a.eval o).run P w=.ok (.value (.slice (some ⟨w.heap.size,0,none⟩) len len)) (w.alloc (.cells cells elem)):=by
     simp [execOp,ho,e1]
    have hbw:Below w.heap.size w (w.alloc (.cells cells elem)):=(Below.refl _ _).alloc (At _) _
    rw [hrun];refine ⟨_,β,hP.call hbw,?_,?_,okV.mono (Kr _) _ e3,by rw [Js];exact At _,λ_ _=>rfl,λk h1 h2=>by rw [Js] at h2;omega,N2 hbw⟩
    ·exact aLd
    ·exact e2 β _ _ w.heap.size (λ_ h=> .inl h) (λb hz=>Dx hbw (hP.BV b hz)) (λj v hv=>by
      show World.cell? _ _=_
      unfold World.cell?
      have:(w.alloc (.cells cells elem)).heap[w.heap.size]? =some (.cells cells elem (0,0)):=by
       exact Zj
      simp only [this]
      simpa using hv) (.inr ⟨At _,AJ⟩)
   ·cases h
  ·obtain ⟨h1,h2⟩:=same h
   subst h2
   have hp:=aCh (β:=β) (Z:=Z) (w:=w) (n:=H'.length) (pv:=parts.map λq=>(q.1,a.eval q.2)) h1 VS (by
    simp only [Mq,Gk];refine RL.CO AJ λi x hx=>?_
    rw [DS] at hx|-;cases hq:parts.toList[i]? with
    |none=>simp [hq] at hx
    |some q=>simp [hq] at hx;subst hx;exact ⟨a.eval q.2,AJ,(ev q.2).1⟩) (by
    simp only [Gk];refine AR.CO λi x hx=>?_
    rw [DS] at hx;cases hq:parts.toList[i]? with
    |none=>simp [hq] at hx
    |some q=>simp [hq] at hx;subst hx;exact (ev q.2).2)
   obtain ⟨elem,cells,e1,e2,e3⟩:=hp
   have hrun:(execOp a.eval o).run P w=.ok (.value (.slice (some ⟨w.heap.size,0,none⟩) len len)) (w.alloc (.cells cells elem)):=by
    simp [execOp,ho,e1]
   have hbw:Below w.heap.size w (w.alloc (.cells cells elem)):=(Below.refl _ _).alloc (At _) _
   rw [hrun];refine ⟨_,β,hW.call hbw,hF.mono (At _) (λ_ _=>rfl) (λ_ h=> .inl h) (λb hz=>Dx hbw (hW.BV b hz)),?_,e3,At _,λ_ _=>rfl,λk h1 h2=>A0,N2 hbw⟩
   exact e2 β _ _ w.heap.size (λ_ h=> .inl h) (λb hz=>Dx hbw (hW.BV b hz)) (λj v hv=>by
    show World.cell? _ _=_
    unfold World.cell?
    have:(w.alloc (.cells cells elem)).heap[w.heap.size]? =some (.cells cells elem (0,0)):=by
     exact Zj
    simp only [this]
    simpa using hv) (.inr ⟨At _,AJ⟩)
 ·rename_i t n c ho
  obtain ⟨w',v,e1,e2,β',e3,e4,e5,e6,e7,e8⟩:=ael hW h (ev n).1 (ev c).1
  have hrun:(execOp a.eval o).run P w=.ok (.value v) w':=Jq
  exact aKr
 ·rename_i t x lo hi ho
  split at h
  ·exact Mu
  ·obtain ⟨h1,h2⟩:=same h
   have ro:∀q:Option Operand,RO β Z w (q.map (AL G F)) (q.map a.eval):=λq=>by
    cases q with
    |none=>trivial
    |some q=>exact (ev q).1
   obtain ⟨z,e1,e2,e3⟩:=ado (w:=w) h1 (ev x).1 (ro lo) (ro hi) (ev x).2;exact Zb
 ·rename_i t x lo hi mx ho
  split at h
  ·exact Mu
  ·obtain ⟨h1,h2⟩:=same h
   have ro:RO β Z w (lo.map (AL G F)) (lo.map a.eval):=by
    cases lo with
    |none=>trivial
    |some q=>exact (ev q).1
   obtain ⟨z,e1,e2,e3⟩:=adV (w:=w) (N:=H.length) h1 (ev x).1 ro (ev hi).1 (ev mx).1;exact Zb
 ·rename_i t ho
  split at h
  ·rename_i e he
   simp only [T.all,Aq] at h;obtain ⟨h1,h2⟩:=h;obtain ⟨β',b1,b2,b3,b4⟩:=hW.ay8 (e:=e) (t:=t);exact aKO
  split at h
  ·rename_i kd hkd
   simp only [T.all,Aq] at h;obtain ⟨h1,h2⟩:=h;obtain ⟨β',b1,b2,b3,b4⟩:=hW.axL (kd:=kd) (t:=t);exact aKO
  ·cases h
 ·exact aKq
 ·exact aKq
 ·rename_i t x i ho
  obtain ⟨h1,h2⟩:=same h;obtain ⟨z,e1,e2,e3⟩:=ae5 hW h1 (ev x).1 (ev i).1 (ev x).2;exact xH
 ·rename_i t x i ho
  split at h
  ·exact Mu
  ·obtain ⟨h1,h2⟩:=same h
   obtain ⟨z,e1,e2,e3⟩:=adl hW h1 (ev x).1 (ev i).1 (ev x).2;exact xH
 ·rename_i x i ho
  split at h
  ·rename_i l hl
   split at h
   ·rename_i y hy
    simp only [T.all,Aq] at h;obtain ⟨h1,h2⟩:=h
    have hx:=ev x
    rw [hl] at hx;simp only [R,okV] at hx;obtain ⟨⟨ys,e1,e2⟩,e3⟩:=hx;obtain ⟨z,e4,e5⟩:=RL.get _ _ e2 hy
    have e6:ys[i]? =some z:=by simpa using e4
    refine val h2.symm (v:=z) aMi ?_ ?_<;>rw [<-h1]
    ·exact e5
    ·exact AR.get _ _ e3 hy
   ·cases h
  ·exact Mu
 ·rename_i t x i ho
  split at h
  ·rename_i l hl
   obtain ⟨h1,h2⟩:=same h
   have hx:=ev x
   rw [hl] at hx;simp only [R,okV] at hx;obtain ⟨⟨ys,e1,e2⟩,e3⟩:=hx;obtain ⟨z,f1,f2,f3⟩:=aCb h1 e2 e3;exact aM7
  ·exact Mu
 ·rename_i f first cap ho
  split at h
  ·rename_i he
   simp only [T.all,Aq] at h;obtain ⟨h1,h2⟩:=h
   have hfirst:first=#[]:=by
    have:first.toList=[]:=aC
    exact OE
   refine val h2.symm (v:=.func (.func f) #[] (cap.map a.eval)) aMe ?_ ?_<;>rw [<-h1]
   ·exact aK8
   ·exact aKW
  ·split at h
   ·rename_i he
    simp only [T.all,Aq] at h;obtain ⟨h1,h2⟩:=h
    have hcap:cap=#[]:=by
     have:cap.toList=[]:=aC
     exact OE
    refine val h2.symm (v:=.func (.func f) (first.map a.eval) #[]) aMj ?_ ?_<;>rw [<-h1]
    ·exact aK6
    ·exact aL2
   ·cases h
 ·rename_i x ho
  have hx:=ev x
  split at h
  ·rename_i k off hl
   exact aKt
  ·rename_i k es i j hl
   exact aKt
  ·rename_i n f hl
   simp only [T.all,Aq] at h;rw [hl] at hx
   have hx1:=hx.1
   simp only [R] at hx1;obtain ⟨b,off,e1,_⟩:=hx1;refine val h.2.symm (v:=a.eval x) Jq ?_ ?_<;>rw [<-h.1]
   ·exact hx.1
   ·exact hx.2
  ·exact aKn
  ·exact aKn
  ·exact Mu
 ·rename_i t x y t' ho
  split at h
  ·rename_i k n k' m hx hy
   split at h
   ·rename_i hk
    subst hk;simp only [T.all,Aq] at h;obtain ⟨h0,h1,h2⟩:=h
    have e1:=Cb hx (ev x).1
    have e2:=Cb hy (ev y).1
    refine val h2.symm (v:=.int k (k.wrap (n.tdiv m))) kG ?_ ?_<;>rw [<-h1]
    ·exact Dk
    ·trivial
   ·cases h
  ·cases h
 ·rename_i t x y t' ho
  split at h
  ·rename_i k n k' m hx hy
   split at h
   ·rename_i hk
    subst hk;simp only [T.all,Aq] at h;obtain ⟨h0,h1,h2⟩:=h
    have e1:=Cb hx (ev x).1
    have e2:=Cb hy (ev y).1
    refine val h2.symm (v:=.int k (n.tmod m)) kG ?_ ?_<;>rw [<-h1]
    ·exact Dk
    ·trivial
   ·cases h
  ·cases h
 ·rename_i t x y t' ho
  split at h
  ·exact Mu
  ·split at h
   ·rename_i k n k' m hx hy
    simp only [T.all,Aq] at h;obtain ⟨h0,h1,h2⟩:=h
    have e1:=Cb hx (ev x).1
    have e2:=Cb hy (ev y).1
    refine val h2.symm (v:=.int k (k.wrap (n*2^(min m.toNat k.bits)))) kD ?_ ?_<;>rw [<-h1]
    ·exact Dk
    ·trivial
   ·cases h
 ·rename_i t x y t' ho
  split at h
  ·exact Mu
  ·split at h
   ·rename_i k n k' m hx hy
    simp only [T.all,Aq] at h;obtain ⟨h0,h1,h2⟩:=h
    have e1:=Cb hx (ev x).1
    have e2:=Cb hy (ev y).1
    refine val h2.symm (v:=.int k (n.fdiv (2^(min m.toNat k.bits)))) kD ?_ ?_<;>rw [<-h1]
    ·exact Dk
    ·trivial
   ·cases h
 ·rename_i t x i ho
  split at h
  ·rename_i l hl
   obtain ⟨h1,h2⟩:=same h;obtain ⟨ys,e1,e2,e3⟩:=aCm hl (ev x).1 (ev x).2;obtain ⟨z,f1,f2,f3⟩:=aCX h1 e2 e3 (ev i).1;exact aM7
  ·split at h
   ·rename_i s kd n hu hx hi
    simp only [T.all,Aq] at h;obtain ⟨⟨h0,hlt⟩,h1,h2⟩:=h
    have e1:=Cb hx (ev x).1
    have e2:=Cb hi (ev i).1
    have hb:n.toNat<s.size:=A0
    have hg:s[n.toNat]? =some s[n.toNat]:=ke
    refine val h2.symm (v:=.int .u8 (Jf s n)) aMN ?_ ?_<;>rw [<-h1]
    ·exact Dk
    ·trivial
   ·cases h
 ·rename_i f args ty ho
  split at h
  ·rename_i g cap hf
   exact aCk ho hΓ hW hF (.inl ⟨cap,hf,rfl⟩) h
  ·rename_i g fs hf
   exact aCk ho hΓ hW hF (.inr (.inl ⟨fs,hf,rfl⟩)) h
  ·cases h
 ·rename_i r name args ty ho
  split at h
  ·rename_i g rv hf
   exact afA ho hΓ hW hF hf h
  ·cases h
 ·rename_i args ty ho
  split at h
  ·rename_i x y t tx hl ht
   cases hargs:args.toList with
   |nil=>simp [hargs] at hl
   | cons u us=>
    cases us with
    |nil=>simp [hargs] at hl
    | cons u' us=>
     cases us with
     |cons _ _=>simp [hargs] at hl
     | nil=>
      simp only [hargs,E8,Ks,HK,OB] at hl;obtain ⟨rfl,rfl⟩:=hl
      have ha:args=#[u,u']:=Pd
      have hty:ty=#[t,tx]:=aN4
      obtain ⟨w',v,e1,e2,e3,β',e4,e5,e6,e7,e8,e9⟩:=aeJ (ty':=o.type) hW h (ev u).1 (ev u').1
      have hrun:(execOp a.eval o).run P w=.ok (.value v) w':=by
       simp [execOp,ho,resolve,invoke,builtin,ha,hty,e1]
      rw [hrun]
      have htb:OV G F β H o=DP β H (owns (AL G F u)):=by simp [OV,EX,ho,ha]
      refine ⟨Z,β',e5,hF.mono A0 e4 (λ_ h=>h) e3,e6,e7,A0,e4,λk k1 k2=>?_,by rw [htb];exact e2⟩
      have:k=H.length:=A0
      rw [this,htb];exact e9
  ·cases h
 ·rename_i args ty ho
  split at h
  ·rename_i x y t tx hl ht
   cases hargs:args.toList with
   |nil=>simp [hargs] at hl
   | cons u us=>
    cases us with
    |nil=>simp [hargs] at hl
    | cons u' us=>
     cases us with
     |cons _ _=>simp [hargs] at hl
     | nil=>
      simp only [hargs,E8,Ks,HK,OB] at hl;obtain ⟨rfl,rfl⟩:=hl
      have ha:args=#[u,u']:=Pd
      have hty:ty=#[t,tx]:=aN4
      obtain ⟨w',v,e1,e2,e3,e4,e5,e6,e7⟩:=aee (ty':=o.type) hW h (ev u).1 (ev u').1
      have hrun:(execOp a.eval o).run P w=.ok (.value v) w':=by
       simp [execOp,ho,resolve,invoke,builtin,ha,hty,e1]
      rw [hrun]
      have htb:OV G F β H o=DP β H (owns (AL G F u)):=by simp [OV,EX,ho,ha]
      refine ⟨Z,β,e2,hF.mono A0 (λ_ _=>rfl) (λ_ h=>h) e6,e3,e4,A0,λ_ _=>rfl,λk k1 k2=>?_,by rw [htb];exact e7⟩
      omega
  ·cases h
 ·rename_i args ty ho
  split at h
  ·rename_i k es off n e hl hu
   simp only [T.all,Aq] at h;obtain ⟨h1,h2⟩:=h;cases hargs:args.toList with
   |nil=>simp [hargs] at hl
   | cons x xs=>
    cases xs with
    |cons _ _=>simp [hargs] at hl
    | nil=>
     simp only [hargs,E8,Ks,HK,OB] at hl
     have hx:=(ev x).1
     rw [hl] at hx;simp only [R] at hx
     have e1:∃ad cap,a.eval x=.slice ad n cap:=by
      exact aKV
     obtain ⟨ad,cap,e1⟩:=e1
     have ha:args=#[x]:=Pd
     cases ht:ty[0]? with
     |none=>simp [ht] at hu
     |some t=>
      simp only [ht,O7] at hu;refine val h2.symm (v:=.int .i64 n) VH ?_ ?_<;>rw [<-h1]
      ·exact Dk
      ·trivial
  ·rename_i e' l e hl hu
   simp only [T.all,Aq] at h;obtain ⟨h1,h2⟩:=h;cases hargs:args.toList with
   |nil=>simp [hargs] at hl
   | cons x xs=>
    cases xs with
    |cons _ _=>simp [hargs] at hl
    | nil=>
     simp only [hargs,E8,Ks,HK,OB] at hl
     have hx:=(ev x).1
     rw [hl] at hx;simp only [R] at hx;obtain ⟨ad,cap,e1,_⟩:=hx
     have ha:args=#[x]:=Pd
     cases ht:ty[0]? with
     |none=>simp [ht] at hu
     |some t=>
      simp only [ht,O7] at hu;refine val h2.symm (v:=.int .i64 (List.length l:Int)) VH ?_ ?_<;>rw [<-h1]
      ·exact Dk
      ·trivial
  ·rename_i k' es' off' n' c' e hl hu
   simp only [T.all,Aq] at h;obtain ⟨h1,h2⟩:=h;cases hargs:args.toList with
   |nil=>simp [hargs] at hl
   | cons x xs=>
    cases xs with
    |cons _ _=>simp [hargs] at hl
    | nil=>
     simp only [hargs,E8,Ks,HK,OB] at hl
     have hx:=(ev x).1
     rw [hl] at hx;simp only [R] at hx;obtain ⟨_,ad,e1,_⟩:=hx
     have ha:args=#[x]:=Pd
     cases ht:ty[0]? with
     |none=>simp [ht] at hu
     |some t=>
      simp only [ht,O7] at hu;refine val h2.symm (v:=.int .i64 n') VH ?_ ?_<;>rw [<-h1]
      ·exact Dk
      ·trivial
  ·exact Mu
 ·exact Mu
structure Ev (b b':AB):Prop where
 cl:b.Dl=true->b'.Dl=true/\b'.t=b.t/\b'.c.length=b.c.length
 live:∀(β:Nat->Loc) (k:Nat),live β k b'->live β k b
 p:b'.p=false->b.p=false
def Ev.refl (b:AB):Ev b b:=⟨λh=>⟨h,rfl,rfl⟩,λ_ _ h=>h,λh=>h⟩
def Ev.trans {a b c:AB}(h:Ev a b) (g:Ev b c):Ev a c:=⟨λhc=>by
 obtain ⟨h1,h2,h3⟩:=h.cl hc;obtain ⟨g1,g2,g3⟩:=g.cl h1;exact ⟨g1,g2.trans h2,g3.trans h3⟩,λβ k hl=>h.live β k (g.live β k hl),λhp=>h.p (g.p hp)⟩
def EvL (H H':List AB):Prop:=∀(k:Nat) (b:AB),H[k]? =some b->∃b':AB,H'[k]? =some b'/\Ev b b'
def EvL.refl (H:List AB):EvL H H:=λ_ b hb=>⟨b,hb,Ev.refl b⟩
def EvL.app (H E:List AB):EvL H (H++E):=λk b hb=>⟨b,AA,Ev.refl b⟩
def EvL.trans {A B C:List AB}(h:EvL A B) (g:EvL B C):EvL A C:=λk b hb=>by
 obtain ⟨b1,h1,h2⟩:=h k b hb;obtain ⟨b2,g1,g2⟩:=g k b1 h1;exact ⟨b2,g1,h2.trans g2⟩
def EvL.set {k0:Nat}{b0 nb:AB}(hb0:H[k0]? =some b0) (he:Ev b0 nb):EvL H (H.set k0 nb):=λk b hb=>by
 rw [HI]
 by_cases hkk:k0=k
 ·subst hkk
  grind
 ·rw [AD hkk];exact ⟨b,hb,Ev.refl b⟩
def EvL.pub (ks:List Nat):EvL H (FR ks 0 H):=λk b hb=>by
 rw [bT,hb];split
 ·exact ⟨_,rfl,λh=>⟨h,rfl,rfl⟩,λ_ _ h=>h,λh=>Ah⟩
 ·exact ⟨_,rfl,Ev.refl b⟩
def afo {t:TypeId}{x y:LV}{H':List AB}(h:(TF P H t x y).all (λq=>q=H')):EvL H H':=by
 unfold TF at h;split at h
 ·split at h
  ·split at h
   ·rename_i hb
    split at h
    ·rename_i hle
     subst h;refine EvL.set hb ⟨λhc=>⟨hc,rfl,?_⟩,λ_ _ h=>h,λh=>h⟩
     simp only [setAt,B0,G9,DE];omega
    ·cases h
   ·cases h
  ·split at h
   ·rename_i hb
    split at h
    ·simp only [T.all] at h
     obtain ⟨_,h⟩:=h;split at h
     ·simp only [T.all] at h
      subst h;exact aLM
     ·cases h
    ·cases h
   ·cases h
  ·cases h
 ·cases h
def aHA {t:TypeId}{x i y:LV}{H':List AB}(h:(Uw P H t x i y).all (λq=>q=H')):EvL H H':=by
 unfold Uw at h;split at h
 ·split at h
  ·split at h
   ·rename_i hb
    split at h
    ·simp only [T.all] at h
     exact aLm
    ·cases h
   ·cases h
  ·cases h
 ·cases h
def afn {t:TypeId}{x i y:LV}{H':List AB}(h:(insL P H t x i y).all (λq=>q=H')):EvL H H':=by
 unfold insL at h;split at h
 ·split at h
  ·rename_i hb
   split at h
   ·split at h
    ·simp only [T.all] at h
     obtain ⟨_,h⟩:=h;exact aLm
    ·cases h
   ·cases h
  ·exact aHA h
 ·exact aHA h
def amW {t:TypeId}{n c lv:LV}{H':List AB}(h:(Te P H t n c).all (λq=>q=(lv,H'))):EvL H H':=by
 unfold Te at h;split at h
 ·split at h
  ·split at h
   ·split at h
    ·exact aM0
    ·cases h
   ·cases h
  ·cases h
 ·cases h
def an7 {t tx:TypeId}{x y lv:LV}{H':List AB}(h:(XL P H t tx x y).all (λq=>q=(lv,H'))):EvL H H':=by
 unfold XL at h;split at h
 ·split at h
  ·split at h
   ·rename_i hb
    split at h
    ·split at h
     ·obtain ⟨q,_,h⟩:=T.Ay h
      simp only [T.all,Aq] at h;rw [<-h.2.2];exact aLM
     ·cases h
    ·cases h
   ·cases h
  ·cases h
 ·cases h
def afc {t tx:TypeId} {x y lv:LV} {H':List AB} (h:(L3 P H t tx x y).all (λq=>q=(lv,H'))):EvL H H':=by
 unfold L3 at h;split at h
 ·split at h
  ·split at h
   ·obtain ⟨q,_,h⟩:=T.Ay h
    ·split at h
     ·exact aM0
     ·split at h
      ·rename_i hb
       split at h
       ·split at h
        ·simp only [T.all,Aq] at h
         rw [<-h.2.2];refine (EvL.set hb ?_).trans (EvL.app _ _);exact ⟨λhc=>yB,λ_ _ h=>by simp [live] at h,λ_=>rfl⟩
        ·cases h
       ·cases h
      ·cases h
     ·cases h
   ·cases h
  ·cases h
 ·cases h
end Go.Sx
namespace Go.Sx
open Go Go.RowKit Go.Proofs.YtgmhhjldohjpmaaGreatDoor
variable {P : Program} {G : Av} {Γ : Specs} {K : Hand} {β : Nat -> Loc} {Z : Nat -> Prop} {Z0 : Gz} {w w0 : World} {F : List LV} {H : List AB} {a : Act} {ds : List Deferred} {n : Nat}
def RF.put (hF:RF ds β Z w n F a) {lv:LV}{v:Value}(hr:R β Z w lv v) (hk:okV n lv) (d:Option Tmp):RF ds β Z w n (Al F d lv) (a.put d v):=by
 cases d with
 |none=>exact hF
 | some d=>
  refine ⟨by simp [Al,Act.put,hF.size],λt x hx=>?_,hF.defers⟩
  simp only [Al] at hx;rw [HI] at hx;simp only [Act.put]
  have hlt:t<F.length:=by
   by_cases ht:t<F.length
   ·exact ht
   ·exfalso
    split at hx
    ·split at hx
     ·omega
     ·cases hx
    ·grind
  have hta:t<a.tmps.size:=by rw [hF.size];exact hlt
  by_cases hdt:d=t
  ·subst hdt
   have:(a.tmps.setIfInBounds d v).getD d undef=v:=HR
   grind
  ·rw [AD hdt] at hx
   have:(a.tmps.setIfInBounds d v).getD t undef=a.tmps.getD t undef:=HR
   rw [this];exact hF.get t x hx
def RF.know (hF:RF ds β Z w n F a) {d:Nat}{lv:LV}(hr:R β Z w lv (a.tmps.getD d undef)) (hk:okV n lv):RF ds β Z w n (F.set d lv) a:=by
 refine ⟨by simp [hF.size],λt x hx=>?_,hF.defers⟩
 rw [HI] at hx
 by_cases hdt:d=t
 ·subst hdt
  simp only [Bm] at hx;split at hx
  ·grind
  ·cases hx
 ·rw [AD hdt] at hx;exact hF.get t x hx
def RF.pass (hF:RF ds β Z w n F a) (d:Option Tmp):RF ds β Z w n (Al F d (.v undef)) (a.put d undef):=hF.put (lv:=.v undef) JK trivial d
def Vq {o:Oper}{K:Act->World->Prop}{Q:Exit->Act->World->Prop}(h:DV P (λv w'=>K (a.put o.dst v) w') ((execOp a.eval o).run P w)) (r:Option Nat) (m:Nat):o.wpIn (DR r) m P a w K Q:=by
 have hnd:∀c,o.op≠ .defer c:=λc hc=>by
  rcases aBO (P:=P) (ρ:=a.eval) (w:=w) hc with ⟨d,w',e⟩ |⟨d,w',e⟩<;>rw [e] at h<;>simp only [DV] at h
 refine ⟨λ_ _=>trivial,?_⟩
 rw [semAt_eq hnd];generalize (execOp a.eval o).run P w=res at*;cases res with
 |ok m w'=>
  cases m<;>simp only [DV] at h<;>simp only [Oper.uponIn]
  case value u=>exact h
  case skip=>exact h
  case enter f args=>exact ⟨λh=>Ah,VA.2 (h.mono λe w'' ⟨v,he,hk⟩=>AA)⟩
  case round l f tmps assign body=>exact ⟨λh=>Ah,aCJ (h.mono λe w'' ⟨v,he,hk⟩=>AA)⟩
 |halt x w'=>simp only [DV] at h
def Vr {ops:Array Oper}{o:Oper}{j d:Nat}{want b:Bool}(hg:o.guard=some (j,want)) (hd:(ops[j]?).bind (·.dst)=some d) (hv:a.tmps[d]? =some (.bool b)):Region.wanted o (yielded ops a.tmps)=(b==want):=by
 exact aM4
def adL {ops:Array Oper}{o:Oper}{j d:Nat}{want:Bool}{vs:Array Value}(hg:o.guard=some (j,want)) (hd:(ops[j]?).bind (·.dst)=some d) (hv:a.tmps[d]? =some (.tuple vs)):Region.wanted o (yielded ops a.tmps)=false:=by
 exact aM4
def RF.slot (hF:RF ds β Z w n F a) {d:Nat}{x:LV}(hx:F.getD d .junk=x) (hj:x≠ .junk):F[d]? =some x/\a.tmps[d]? =some (a.tmps.getD d undef):=by
 cases h:F[d]? with
 |none=>simp [List.getD,h] at hx;exact absurd hx.symm hj
 |some y=>
  simp [List.getD,h] at hx
  subst hx;refine ⟨rfl,?_⟩
  have:d<a.tmps.size:=by rw [hF.size];exact (Du.1 h).1
  simp_all
def RW.less {gh:List (LV×Value)}{mk:List Nat}(hW:RW G w0 ⟨Z0.z,gh++Z0.gh,mk++Z0.Ci⟩ Z β H w):RW G w0 Z0 Z β H w:=⟨hW.below,hW.BV,hW.ES,hW.Cg,hW.G0,hW.low,hW.inj,hW.blk,hW.CV,λp hp=>hW.gh p (Bp.2 (.inr hp)),λD hD=>hW.Ci D (Bp.2 (.inr hD))⟩
def dsB:List Deferred->List Nat
 | []=>[]
 |⟨.collected D,_⟩::ds=>D::dsB ds
 |_::ds=>dsB ds
def qN:∀ {ds:List Deferred}{D:Nat},GK D∈ds->D∈dsB ds
 | d::ds,D,h=>by
  rcases B1.1 h with h|h
  ·rw [<-h];simp [dsB,GK]
  ·unfold dsB
   split
   ·grind
   ·rename_i e;simp only [HK] at e;rw [<-e.2];exact SE _ (qN h)
   ·rename_i e;simp only [HK] at e;rw [<-e.2];exact qN h
def aPf:∀ {ds:List Deferred}{D:Nat},D∈dsB ds->(∀d,d∈ds->∃D,d=GK D)->GK D∈ds
 | [],D,h,_=>Ah
 |d::ds,D,h,hm=>by
  obtain ⟨D0,rfl⟩:=hm d AJ;rcases B1.1 h with h|h
  ·grind
  ·exact SE _ (aPf h (λd hd=>hm d (SE _ hd)))
def RW.hold (hW:RW G w0 Z0 Z β H w) (hF:RF ds β Z w H.length F a):RW G w0 ⟨Z0.z,F.zip a.tmps.toList++Z0.gh,dsB ds++Z0.Ci⟩ Z β H w:=⟨hW.below,hW.BV,hW.ES,hW.Cg,hW.G0,hW.low,hW.inj,hW.blk,hW.CV,λp hp=>by
  rcases Bp.1 hp with hp|hp
  ·obtain ⟨i,hi,hpi⟩:=IS.1 hp
   have hiF:i<F.length:=AA
   have hia:i<a.tmps.size:=AA
   have h1:=hF.get i F[i] (DF hiF)
   have e2:a.tmps.getD i undef=a.tmps[i]:=HR
   grind
  ·exact hW.gh p hp,λD hD=>by
  rcases Bp.1 hD with hD|hD
  ·have:=aPf hD (λd hd=>by obtain ⟨D,h,_⟩:=hF.defers.2 d hd;exact ⟨D,h⟩)
   obtain ⟨D',h1,h2,h3⟩:=hF.defers.2 _ this
   grind
  ·exact hW.Ci D hD⟩
def RW.held {β':Nat->Loc}{Z':Nat->Prop}{w':World}{H':List AB}(hF:RF ds β Z w H.length F a) (r1:RW G w0 ⟨Z0.z,F.zip a.tmps.toList++Z0.gh,dsB ds++Z0.Ci⟩ Z' β' H' w'):RF ds β' Z' w' H'.length F a:=by
 refine ⟨hF.size,λt x hx=>?_,hF.defers.1,λd hd=>?_⟩
 ·have htF:=(Du.1 hx).1
  have hta:t<a.tmps.size:=by have:=hF.size;omega
  have e2:a.tmps.getD t undef=a.tmps[t]:=HR
  rw [e2];refine r1.gh (x,a.tmps[t]) (Bp.2 (.inl (IS.2 ⟨t,AA,?_⟩)))
  have:F[t]=x:=AA
  simp [this]
 ·obtain ⟨D,h1,h2,h3⟩:=hF.defers.2 d hd
  have:=r1.Ci D (Bp.2 (.inl (qN (h1▸hd))))
  grind
def aC4 {o:Oper}{g:FuncId}{l:List LV}(h:callOf G F o=some (g,l)):∃f args ty,o.op=.call {callee:=.value f,args,argTypes:=ty}/\qC G F f args g l:=by
 unfold callOf at h;split at h
 ·rename_i f args ty ho
  split at h
  ·rename_i g' cap hf
   obtain ⟨rfl,rfl⟩:=h;exact ⟨f,args,ty,ho,.inl ⟨cap,hf,rfl⟩⟩
  ·rename_i g' fs hf
   obtain ⟨rfl,rfl⟩:=h;exact ⟨f,args,ty,ho,.inr (.inl ⟨fs,hf,rfl⟩)⟩
  ·rename_i g' hf
   obtain ⟨rfl,rfl⟩:=h;exact ⟨f,args,ty,ho,.inr (.inr ⟨hf,rfl⟩)⟩
  ·cases h
 ·cases h
def aDk {o:Oper}{k:Nat}{l:List LV}(h:vB G F o=some (k,l)):∃f args ty,o.op=.call {callee:=.value f,args,argTypes:=ty}/\AL G F f=.CN k/\l=args.toList.map (λx=>norm (AL G F x)):=by
 unfold vB at h;split at h
 ·rename_i f args ty ho
  split at h
  ·rename_i k' hf
   grind
  ·cases h
 ·cases h
def aC2 (hΓ:∀g S,Γ g=some S->Valid P G g S) (hK:F5 P G K) (hW:RW G w0 Z0 Z β H w) (hF:RF ds β Z w H.length F a) {o:Oper}{lv:LV}{H':List AB}(h:(Jl P G Γ K F H o).all (λq=>q=(lv,H'))):
  DV P (λv w'=>∃Z' β',RW G w0 Z0 Z' β' H' w'/\RF ds β' Z' w' H'.length F a/\R β' Z' w' lv v/\okV H'.length lv) ((execOp a.eval o).run P w):=by
 unfold Jl at h
 have old:(Ap P G Γ F H o).all (λq=>q=(lv,H'))->DV P (λv w'=>∃Z' β',RW G w0 Z0 Z' β' H' w'/\RF ds β' Z' w' H'.length F a/\R β' Z' w' lv v/\okV H'.length lv) ((execOp a.eval o).run P w):=λh=>
  Jx (λv w' ⟨Z',β',e1,e2,e3,e4,_⟩=>⟨Z',β',e1,e2,e3,e4⟩) (bU hΓ hW hF h)
 split at h
 ·rename_i g l hc
  split at h
  ·exact old h
  ·split at h
   ·rename_i fn hfn
    split at h
    ·rename_i hb
     obtain ⟨f,args,ty,ho,hf⟩:=aC4 hc;simp only [AU,D4] at hb;obtain ⟨hb1,hb2⟩:=hb;obtain ⟨vals,hrun,hargs,hoka⟩:=aCj ho hW hF hf hfn AA AA;rw [hrun];exact (hK.k w0 _ Z β H w g _ _ lv H' (hW.hold hF) hargs hoka h).mono λe w' ⟨v,he,Z',β',r1,r2,r3⟩=>⟨v,he,Z',β',r1.less,RW.held hF r1,r2,r3⟩
    ·cases h
   ·cases h
 ·split at h
  ·rename_i k l hy
   obtain ⟨f,args,ty,ho,hf,rfl⟩:=aDk hy
   have hfr:=hF.eval hW.CV f
   rw [hf] at hfr;simp only [R,okV] at hfr
   have hargs:RL β Z w (args.toList.map (λx=>norm (AL G F x))) (args.map a.eval).toList:=by
    exact aKs
   have hoka:AR H.length (args.toList.map (λx=>norm (AL G F x))):=by
    exact aKc
   obtain ⟨r,h1,h2,h3⟩:=hK.y w0 _ Z β H w k _ _ lv H' (hW.hold hF) hargs hoka h
   have hrun:(execOp a.eval o).run P w=.ok (.round (β k).b r.fn ((r.params.zip (args.map a.eval)).foldl (λt (p,v)=>t.setIfInBounds p v) r.tmps) r.assign r.body) w:=by
    unfold execOp;simp only [ho]
    have:=run_yield (P:=P) h1 h2
    simp [resolve,Deferred.ofValue,hfr.1,invoke,this]
   rw [hrun];exact h3.mono λe w' ⟨v,he,Z',β',r1,r2,r3⟩=>⟨v,he,Z',β',r1.less,RW.held hF r1,r2,r3⟩
  ·exact old h
def awZ {o:Oper}(hm:Rj P Γ o=true):Jl P G Γ K F H o=Ap P G Γ F H o:=by
 unfold Jl;split
 ·rename_i g l hc
  obtain ⟨f,args,ty,ho,hf⟩:=aC4 hc;unfold Rj at hm;simp only [AU] at hm
  have hm2:=hm.2
  rw [ho] at hm2;cases f with
  |func g'=>
   rcases hf with ⟨_,hf,_⟩ |⟨_,hf,_⟩ |⟨hf,_⟩
   rotate_left
   ·simp [AL] at hf
   ·simp [AL] at hf
   obtain ⟨rfl,_⟩:=hf
   grind
  |tmp _=>simp at hm2
  |const _=>simp at hm2
  |global _=>simp at hm2
 ·split
  ·rename_i k l hy
   obtain ⟨f,args,ty,ho,hf,rfl⟩:=aDk hy;unfold Rj at hm;simp only [AU] at hm
   have hm2:=hm.2
   rw [ho] at hm2;cases f with
   |func g'=>simp [AL] at hf
   |tmp _=>simp at hm2
   |const _=>simp at hm2
   |global _=>simp at hm2
  ·rfl
def agJ {o:Oper}(hm:Rj P Γ o=true):OQ P o=true:=by
 unfold Rj at hm;simp only [AU] at hm;exact hm.1
def aCp {ty:Ty}:∀(cs:List LV) (ls:List (List ty.D)),fF ty cs=some ls->∀(j:Nat) (x:LV),cs[j]? =some x->∃l,x=.xl ty l/\ls[j]? =some l
 | [],_,_,j,x,hx=>AA
 | c ::cs,ls,h,j,x,hx=>by
  simp only [fF] at h;split at h
  ·rename_i e l
   split at h
   ·rename_i he r _ hr
    simp only [Ad] at h;subst h;subst he;cases j with
    |zero=>
     simp only [List.getElem?_cons_zero,Ad] at hx;exact ⟨l,hx.symm,rfl⟩
    |succ j=>
     exact aCp cs r hr j x hx
   ·cases h
  ·cases h
def afR {o o2:Oper} {num:Int} {len:Nat} {lv:LV} (hW:RW G w0 Z0 Z β H w) (hF:RF ds β Z w H.length F a) (h:aAi P G F H o o2=some (num,len,lv)) (h0:0<=num/\num<(len:Int)):
  o.guard=none/\o2.guard=none/\∃v z,(execOp a.eval o).run P w=.ok (.value v) w/\(execOp (a.put o.dst v).eval o2).run P w=.ok (.value z) w/\R β Z w lv z/\okV H.length lv:=by
 unfold aAi at h;split at h
 ·rename_i hg
  simp only [AU,ZR] at hg;refine ⟨hg.1,hg.2,?_⟩;split at h
  ·rename_i t x i d t2 d2 ho hd ho2
   split at h
   ·rename_i hc
    obtain ⟨rfl,hdl,hagg⟩:=hc;split at h
    ·rename_i len' e k off kd n hu hx hi
     split at h
     ·rename_i hsz
      split at h
      ·rename_i b hb
       split at h
       ·rename_i hcl
        split at h
        ·rename_i ty l rest hcs
         split at h
         ·rename_i ls hls
          simp only [Ad,Aq] at h;obtain ⟨rfl,rfl,rfl⟩:=h
          have exv:=hF.eval hW.CV x
          have eiv:=hF.eval hW.CV i
          rw [hx] at exv;rw [hi] at eiv
          have hix:(TA P t (.own k off) true (.ki kd n)).all (λr=>r=.own k (off+n.toNat*(0+1))):=by
           unfold TA;simp only [pl,hu,hsz,Bm];rw [AE h0];simp only [T.all]
          obtain ⟨v,e1,e2,e3⟩:=aBC (w:=w) hix exv.1 (show R β Z w (.ki kd n) (a.eval i) by simp only [R];exact eiv.1) exv.2
          have hj:n.toNat<len':=A0
          obtain ⟨c,hc⟩:∃c,b.c[off+n.toNat]? =some c:=⟨_,DF A0⟩
          have hcc:(LV.xl ty l::rest)[n.toNat]? =some c:=by
           rw [<-hcs,Kq,AE hj,Ew];exact hc
          obtain ⟨l',rfl,hl'⟩:=aCp _ _ hls _ _ hcc
          have hld:(F7 P H t2 (.own k (off+n.toNat*(0+1)))).all (λz=>z=.xl ty l'):=by
           unfold F7;simp only [hagg,hb,EK,Nat.mul_one,hcl.1,Bm,hc,T.all]
          obtain ⟨z,f1,f2,f3⟩:=mH hW hld e2 e3;refine ⟨v,z,Jq,?_,?_,?_⟩
          ·have hda:d2<a.tmps.size:=by rw [hF.size];exact hdl
           have ev:(a.put o.dst v).eval (.tmp d2)=v:=by simp [hd,Act.put,Act.eval,Array.getD,hda]
           simp [execOp,ho2,ev,f1]
          ·have:ls.getD n.toNat []=l':=AA
           rw [this];exact f2
          ·trivial
         ·cases h
        ·cases h
       ·cases h
      ·cases h
     ·cases h
    ·cases h
   ·cases h
  ·cases h
 ·cases h
def bP (hΓ:∀g S,Γ g=some S->Valid P G g S) (hK:F5 P G K) {ops:Array Oper}{Q:Exit->Act->World->Prop}{F':List LV}{H':List AB}(hQ:∀Z' β' a' w',RW G w0 Z0 Z' β' H' w'->RF ds β' Z' w' H'.length F' a'->Q .normal a' w') (r:Option Nat) (m:Nat):
  ∀(os:List Oper) (k:Nat) (F:List LV) (H:List AB) (Z:Nat->Prop) (β:Nat->Loc) (a:Act) (w:World),(∀j,os[j]? =ops[k+j]?)->RW G w0 Z0 Z β H w->RF ds β Z w H.length F a->
   (IF P G Γ K ops os F H).all (λq=>q=(F',H'))->wpOpsIn (DR r) m P ops Q (List.range' k os.length) a w
 | [],k,F,H,Z,β,a,w,_,hW,hF,h=>by
  simp only [IF,T.all,Aq] at h;obtain ⟨rfl,rfl⟩:=h;simp only [Bh,List.range'_zero,wpOpsIn];exact hQ Z β a w hW hF
 | o ::os,k,F,H,Z,β,a,w,hl,hW,hF,h=>by
  have h0:ops[k]? =some o:=by simpa using (hl 0).symm
  have hl':∀j,os[j]? =ops[k+1+j]? :=λj=>by have:=hl (j+1);simpa [HL,wO 1 j] using this
  simp only [BX,List.range'_succ,wpOpsIn,h0]
  have goOk:∀(F:List LV),RF ds β Z w H.length F a->((Jl P G Γ K F H o).bind λq=>IF P G Γ K ops os (Al F o.dst q.1) q.2).all (λq=>q=(F',H'))->o.wpIn (DR r) m P a w (wpOpsIn (DR r) m P ops Q (List.range' (k+1) os.length)) Q:=λF hF h=>by
   obtain ⟨⟨lv,H1⟩,h1,h2⟩:=T.Ay h;refine Vq (Jx (λv w' ⟨Z',β',e1,e2,e3,e4⟩=>?_) (aC2 hΓ hK hW hF h1)) r m
   exact bP hΓ hK hQ r m os (k+1) _ H1 Z' β' _ w' hl' e1 (e2.put e3 e4 o.dst) h2
  have passOk:∀(F:List LV),RF ds β Z w H.length F a->(IF P G Γ K ops os (Al F o.dst (.v undef)) H).all (λq=>q=(F',H'))->(∀f,o.about P w a.eval=some f->(DR r).fn f)/\wpOpsIn (DR r) m P ops Q (List.range' (k+1) os.length) (a.put o.dst undef) w:=λF hF h=>
   ⟨λ_ _=>trivial,bP hΓ hK hQ r m os (k+1) _ H Z β _ w hl' hW (hF.pass o.dst) h⟩
  unfold IF at h;simp only at h;split at h
  ·rename_i hg
   have hw:Region.wanted o (yielded ops a.tmps)=true:=Zt
   rw [AE hw];split at h
   ·exact goOk F hF h
   ·rename_i o2 os2
    split at h
    ·rename_i num len lv hix
     simp only [T.all] at h;obtain ⟨h1,h2⟩:=h;obtain ⟨_,hg2,v,z,r1,r2,r3,r4⟩:=afR hW hF hix h1
     have h02:ops[k+1]? =some o2:=by simpa using (hl' 0).symm
     have hl2:∀j,os2[j]? =ops[k+1+1+j]? :=λj=>by have:=hl' (j+1);rw [j9] at this;rw [this];congr 1;omega
     have act1:∀ {K:Value->World->Prop},K v w->DV P K ((execOp a.eval o).run P w):=λh=>by rw [r1];exact h
     have act2:∀ {K:Value->World->Prop},K z w->DV P K ((execOp (a.put o.dst v).eval o2).run P w):=λh=>by rw [r2];exact h
     refine Vq (act1 ?_) r m;simp only [BX,List.range'_succ,wpOpsIn,h02]
     have hw2:Region.wanted o2 (yielded ops (a.put o.dst v).tmps)=true:=by simp [Region.wanted,hg2]
     rw [AE hw2];refine Vq (act2 ?_) r m;exact bP hΓ hK hQ r m os2 (k+1+1) _ H Z β _ w hl2 hW ((hF.put (lv:=.junk) JK trivial o.dst).put r3 r4 o2.dst) h2
    ·exact goOk F hF h
  ·rename_i j want hg
   split at h
   ·rename_i d hd
    split at h
    ·rename_i b hb
     obtain ⟨s1,s2⟩:=hF.slot hb AJ
     have hv:=(hF.get d _ s1).1
     simp only [R] at hv;rw [hv] at s2;rw [Vr hg hd s2];split at h
     ·grind
     ·rename_i e;rw [AD yP];exact passOk F hF h
    ·rename_i g hb
     obtain ⟨s1,s2⟩:=hF.slot hb AJ
     have hv:=(hF.get d _ s1).1
     simp only [R] at hv
     have kn:∀b,g=b->RF ds β Z w H.length (F.set d (.bl b)) a:=λb e=>hF.know k8 trivial
     rw [hv] at s2;rw [Vr hg hd s2];split at h
     ·rename_i hwt
      subst hwt;simp only [T.all] at h;cases hgg:g with
      |true=>simp only [O8,Bm];exact goOk _ (kn true hgg) (h.1 hgg)
      |false=>rw [AD AJ];exact passOk _ (kn false hgg) (h.2 hgg)
     ·rename_i hwt
      have hwt':want=false:=xz
      subst hwt';simp only [T.all] at h;cases hgg:g with
      |true=>rw [AD AJ];exact passOk _ (kn true hgg) (h.1 hgg)
      |false=>simp only [O8,Bm];exact goOk _ (kn false hgg) (h.2 hgg)
    ·rename_i vs hb
     obtain ⟨s1,s2⟩:=hF.slot hb AJ
     have hv:=(hF.get d _ s1).1
     simp only [R] at hv;exact aL4
    ·cases h
   ·cases h
def T.lv {α:Type}(p:α->Prop):T α->Prop
 | .ok x=>p x
 | .br _ t e=>t.lv p/\e.lv p
 | .req _ t=>t.lv p
 | .no=>True
def T.T2 {α γ:Type}{p:α->Prop}{q:γ->Prop}{k:α->T γ}(hk:∀x,p x->(k x).lv q):∀ {t:T α},t.lv p->(t.bind k).lv q
 | .ok _,h=>hk _ h
 | .br _ t e,h=>⟨T.T2 hk (t:=t) h.1,T.T2 hk (t:=e) h.2⟩
 | .req _ t,h=>T.T2 hk (t:=t) h
 | .no,_=>trivial
def T.WK {α:Type}{p:α->Prop}(hp:∀x,p x):∀(t:T α),t.lv p
 | .ok _=>hp _
 | .br _ t e=>⟨T.WK hp t,T.WK hp e⟩
 | .req _ t=>T.WK hp t
 | .no=>trivial
def afV {o:Oper}(hpt:L1 P 8 o.type=true) {g:FuncId}{l:List LV}:(L9 P Γ H o g l).lv (λq=>q.2=H):=by
 have bd:∀(t:T LV),(t.bind λy=>(T.ok (y,H):T (LV×List AB))).lv (λq=>q.2=H):=λt=>T.T2 (p:=λ_=>True) (q:=λq:LV×List AB=>q.2=H) (k:=λy=>T.ok (y,H)) (λx _=>(rfl:(x,H).2=H)) (T.WK (λ_=>trivial) t)
 unfold L9;split
 ·split
  ·split
   ·split
    ·exact bd _
    ·grind
   ·trivial
  ·trivial
 ·trivial
def oN {o:Oper}(hm:OQ P o=true):(Ap P G Γ F H o).lv (λq=>q.2=H):=by
 have bd:∀(t:T LV),(t.bind λy=>(T.ok (y,H):T (LV×List AB))).lv (λq=>q.2=H):=λt=>T.T2 (p:=λ_=>True) (q:=λq:LV×List AB=>q.2=H) (k:=λy=>T.ok (y,H)) (λx _=>(rfl:(x,H).2=H)) (T.WK (λ_=>trivial) t)
 have c1:∀ {f:Operand} {args:Array Operand} {ty:Array TypeId},o.op=.call {callee:=.value f,args,argTypes:=ty}->L1 P 8 o.type=true:=λho=>aN5
 have c2:∀ {r:Operand} {name:String} {args:Array Operand} {ty:Array TypeId},o.op=.call {callee:=.invoke r name,args,argTypes:=ty}->L1 P 8 o.type=true:=λho=>aN5
 unfold Ap;split<;>(try exact bd _)<;>(try trivial)<;>(try rfl)<;>(try (rename_i ho;simp [OQ,ho] at hm;done))<;>(try (rename_i ho;have hpt:=c1 ho))<;>(try (rename_i ho;have hpt:=c2 ho))
 all_goals (split<;>(try exact bd _)<;>(try trivial)<;>(try rfl)<;>(try exact afV hpt))
 all_goals (split<;>(try exact bd _)<;>(try trivial)<;>(try rfl))
def Keeps (ds:List Nat) (F:List LV) (H:List AB) (q:List LV×List AB):Prop:=q.1.length=F.length/\(∀i,i∉ds->q.1[i]? =F[i]?)/\q.2=H
def au {ds:List Nat}{F F1:List LV}(h:F1.length=F.length/\∀i,i∉ds->F1[i]? =F[i]?) {d:Nat}(hd:d∈ds) (x:LV):(F1.set d x).length=F.length/\∀i,i∉ds->(F1.set d x)[i]? =F[i]? :=by
 refine ⟨AA,λi hi=>?_⟩
 grind
def Vn {ds:List Nat}{F F1:List LV}(h:F1.length=F.length/\∀i,i∉ds->F1[i]? =F[i]?) {d:Option Nat}(hd:∀t,d=some t->t∈ds) (x:LV):(Al F1 d x).length=F.length/\∀i,i∉ds->(Al F1 d x)[i]? =F[i]? :=by
 cases d with
 |none=>exact h
 |some t=>exact au h (hd t rfl) x
def mQ {ops:Array Oper}{F0:List LV}:∀(os:List Oper) (F:List LV),(∀o∈os,o∈ops.toList)->(∀o∈os,Rj P Γ o=true)->F.length=F0.length/\(∀i,i∉FC ops.toList->F[i]? =F0[i]?)->
  (IF P G Γ K ops os F H).lv (Keeps (FC ops.toList) F0 H)
 | [],F,_,_,h=>by simp only [IF,T.lv,Keeps];exact ⟨h.1,h.2,trivial⟩
 | o ::os,F,hin,hm,h=>by
  have hdo:∀t,o.dst=some t->t∈FC ops.toList:=λt ht=>S8.2 ⟨o,hin o AJ,ht⟩
  have go:∀F:List LV,F.length=F0.length/\(∀i,i∉FC ops.toList->F[i]? =F0[i]?)->((Jl P G Γ K F H o).bind λq=>IF P G Γ K ops os (Al F o.dst q.1) q.2).lv (Keeps (FC ops.toList) F0 H):=λF hF=>
   T.T2 (p:=λq=>q.2=H) (λq hq=>by rw [hq];exact mQ os _ (λo ho=>hin o VY) (λo ho=>hm o VY) (Vn hF hdo _)) (by rw [awZ (hm o AJ)];exact oN (agJ (hm o AJ)))
  have pass:∀F:List LV,F.length=F0.length/\(∀i,i∉FC ops.toList->F[i]? =F0[i]?)->(IF P G Γ K ops os (Al F o.dst (.v undef)) H).lv (Keeps (FC ops.toList) F0 H):=λF hF=>
   mQ os _ (λo ho=>hin o VY) (λo ho=>hm o VY) (Vn hF hdo _)
  unfold IF;simp only;split
  ·split
   ·exact go F h
   ·rename_i o2 os2
    split
    ·have hdo2:∀t,o2.dst=some t->t∈FC ops.toList:=λt ht=>S8.2 ⟨o2,hin o2 AJ,ht⟩
     exact mQ os2 _ (λo ho=>hin o VY) (λo ho=>hm o VY) (Vn (Vn h hdo _) hdo2 _)
    ·exact go F h
  ·rename_i j want hg
   split
   ·rename_i d hd
    have hdd:d∈FC ops.toList:=by
     cases hj:ops[j]? with
     |none=>simp [hj] at hd
     |some oj=>simp [hj] at hd;exact S8.2 ⟨oj,AA,hd⟩
    split
    ·split
     ·exact go F h
     ·exact pass F h
    ·exact aKT
    ·grind
    ·trivial
   ·trivial
def abB {x:LV}{v:Value}(h:R β Z w x v):R β Z w (nki x) v:=yD
def aeU {x y:LV}{v:Value}(h:R β Z w x v):R β Z w (T1 true x y) v:=by
 unfold T1;split<;>simp_all [R]
 split<;>simp_all [R]
def aeF {x y:LV}{v:Value}(h:R β Z w y v):R β Z w (T1 false x y) v:=by
 unfold T1;split<;>simp_all [R]
 split<;>simp_all [R]
def afT {b:Bool}{x y:LV}:okV n (T1 b x y):=by
 unfold T1;split<;>(try trivial)
 split<;>trivial
def aek {x y:LV}{v:Value}(h:R β Z w x v):R β Z w (X9 true x y) v:=aeU (abB h)
def aeT {x y:LV}{v:Value}(h:R β Z w y v):R β Z w (X9 false x y) v:=aeF (abB h)
def agI {b:Bool}{x y:LV}:okV n (X9 b x y):=afT
def aD4 {dl:List Deferred}{ds:List Nat}{b:Bool}{F F1 F2:List LV}(k1:F1.length=F.length/\∀i,i∉ds->F1[i]? =F[i]?) (k2:F2.length=F.length/\∀i,i∉ds->F2[i]? =F[i]?) (h:RF dl β Z w n (if b then F1 else F2) a):RF dl β Z w n (T9 ds b F F1 F2) a:=by
 refine ⟨by rw [h.size];cases b<;>simp [T9,k1.1,k2.1],λt x hx=>?_,h.defers⟩
 have ht:t<F.length:=by have:=(Du.1 hx).1;simpa [T9] using this
 have hx':x=if ds.contains t then X9 b (F1.getD t .junk) (F2.getD t .junk) else F.getD t .junk:=by
  simp [T9,ht] at hx
  rw [<-hx]
  grind
 have g1:∀q,(if b then F1 else F2)[t]? =some q->R β Z w q (a.tmps.getD t undef)/\okV n q:=λq hq=>h.get t q hq
 by_cases hc:t∈ds
 ·rw [AE (by simpa using hc)] at hx'
  rw [hx'];refine ⟨?_,agI⟩;cases b with
  |true=>
   have:=(g1 (F1[t]' A0) AJ).1
   have e2:F1.getD t .junk=F1[t]' A0:=AA
   rw [e2];exact aek this
  |false=>
   have:=(g1 (F2[t]' A0) AJ).1
   have e2:F2.getD t .junk=F2[t]' A0:=AA
   rw [e2];exact aeT this
 ·rw [AD (by simpa using hc)] at hx'
  have e:=DF ht
  have e2:F.getD t .junk=F[t]'ht:=AA
  rw [hx',e2];refine g1 _ ?_;cases b with
  |true=>simp only [Bm];rw [k1.2 t hc,e]
  |false=>simp only [HP,FL];rw [k2.2 t hc,e]
def av {ds:List Nat}:∀ {t:T (List LV×List AB)},t.lv (Keeps ds F H)->(K9 ds F H t).lv (Keeps ds F H)
 | .ok _,h=>h
 | .no,_=>trivial
 | .req _ t,h=>av (t:=t) h
 | .br b t e,h=>by
  have h1:=av h.1
  have h2:=av h.2
  simp only [K9];split
  ·rename_i x y hx hy
   rw [hx] at h1;rw [hy] at h2;split
   ·exact ⟨h1,h2⟩
   refine ⟨by simp [T9],λi hi=>?_,rfl⟩
   simp only [T9]
   by_cases ht:i<F.length
   ·grind
   ·simp [ht]
  ·exact ⟨h1,h2⟩
def OM {ds:List Nat}:∀ {t:T (List LV×List AB)}{r:List LV×List AB},t.lv (Keeps ds F H)->(K9 ds F H t).all (λq=>q=r)->
  ∃q,t.all (λz=>z=q)/\q.2=r.2/\∀(dl:List Deferred) (β:Nat->Loc) (Z:Nat->Prop) (w:World) (n:Nat) (a:Act),RF dl β Z w n q.1 a->RF dl β Z w n r.1 a
 | .ok x,r,_,h=>⟨x,rfl,by rw [show x=r from h],λ_ _ _ _ _ _ hh=>by rw [<-show x=r from h];exact hh⟩
 | .no,_,_,h=>Ah
 | .req p t,r,hk,h=>by
  obtain ⟨q,h1,h2,h3⟩:=OM (t:=t) hk h.2;exact ⟨q,⟨h.1,h1⟩,h2,h3⟩
 | .br b t e,r,hk,h=>by
  have k1:=av hk.1
  have k2:=av hk.2
  have apart:(T.br b (K9 ds F H t) (K9 ds F H e)).all (λq=>q=r)->∃q,(T.br b t e).all (λz=>z=q)/\q.2=r.2/\∀(dl:List Deferred) (β:Nat->Loc) (Z:Nat->Prop) (w:World) (n:Nat) (a:Act),RF dl β Z w n q.1 a->RF dl β Z w n r.1 a:=λh=>by
   cases b with
   |true=>
    obtain ⟨q,h1,h2,h3⟩:=OM (t:=t) hk.1 (h.1 rfl);exact ⟨q,⟨λ_=>h1,λhb=>Ku⟩,h2,h3⟩
   |false=>
    obtain ⟨q,h1,h2,h3⟩:=OM (t:=e) hk.2 (h.2 rfl);exact ⟨q,⟨λhb=>Ku,λ_=>h1⟩,h2,h3⟩
  simp only [K9] at h;split at h
  ·rename_i x y hx hy
   split at h
   ·simp_all
   rw [hx] at k1;rw [hy] at k2
   have hr:=h
   cases b with
   |true=>
    obtain ⟨q,h1,h2,h3⟩:=OM (t:=t) (r:=x) hk.1 (by rw [hx];rfl)
    refine ⟨q,⟨λ_=>h1,λhb=>Ku⟩,by rw [<-hr,h2];exact k1.2.2,λdl β Z w n a hh=>?_⟩
    rw [<-hr];exact aD4 ⟨k1.1,k1.2.1⟩ ⟨k2.1,k2.2.1⟩ (h3 dl β Z w n a hh)
   |false=>
    obtain ⟨q,h1,h2,h3⟩:=OM (t:=e) (r:=y) hk.2 (by rw [hy];rfl)
    refine ⟨q,⟨λhb=>Ku,λ_=>h1⟩,by rw [<-hr,h2];exact k2.2.2,λdl β Z w n a hh=>?_⟩
    rw [<-hr];exact aD4 ⟨k1.1,k1.2.1⟩ ⟨k2.1,k2.2.1⟩ (h3 dl β Z w n a hh)
  ·simp_all
def agB (hΓ:∀g S,Γ g=some S->Valid P G g S) (hK:F5 P G K) {id:Nat}{ops:Array Oper}{Q:Exit->Act->World->Prop}{F':List LV}{H':List AB}(hQ:∀Z' β' a' w',RW G w0 Z0 Z' β' H' w'->RF ds β' Z' w' H'.length F' a'->Q .normal a' w')
  (hW:RW G w0 Z0 Z β H w) (hF:RF ds β Z w H.length F a) (h:(aAe P G Γ K ops F H).all (λq=>q=(F',H'))) (r:Option Nat) (m:Nat):(Code.region id ops false).wpIn (DR r) m P Q a w:=by
 refine wpIn_region ?_
 have e:List.range ops.size=List.range' 0 ops.toList.length:=by rw [List.range_eq_range'];simp
 rw [e];unfold aAe at h;split at h
 ·rename_i hm
  have hk:(IF P G Γ K ops ops.toList F H).lv (Keeps (FC ops.toList) F H):=mQ _ _ (λ_ h=>h) (λo ho=>BL.1 hm o ho) ⟨rfl,λ_ _=>rfl⟩
  obtain ⟨q,h1,h2,h3⟩:=OM hk h;refine bP hΓ hK (F':=q.1) (H':=q.2) (λZ' β' a' w' e1 e2=>hQ Z' β' a' w' AA AA) r m ops.toList 0 F H Z β a w AJ hW hF h1
 ·exact bP hΓ hK hQ r m ops.toList 0 F H Z β a w AJ hW hF h
end Go.Sx
namespace Go.Sx
open Go Go.RowKit Go.Proofs.YtgmhhjldohjpmaaGreatDoor
variable {P : Program} {G : Av} {Γ : Specs} {β : Nat -> Loc} {Z : Nat -> Prop} {Z0 : Gz} {w w0 wr : World} {F : List LV} {H : List AB} {a : Act} {ds : List Deferred} {n : Nat}
def T.QA {α:Type}{p:α->Prop}{x:α}:∀ {t:T α},t.lv p->t.all (λz=>z=x)->p x
 | .ok y,h,e=>by rw [<-show y=x from e];exact h
 | .br b t e,h,hh=>by
  cases b with
  |true=>exact T.QA (t:=t) h.1 (hh.1 rfl)
  |false=>exact T.QA (t:=e) h.2 (hh.2 rfl)
 | .req _ t,h,hh=>T.QA (t:=t) h hh.2
 | .no,_,hh=>by cases hh
def afI {t:TypeId}{x lv:LV}{y:Value}(hW:RW G w0 Z0 Z β H w) (h:(F7 P H t x).all (λz=>z=lv)) (hr:R β Z w x y):∀k,k∈owns x->(∃b,H[k]? =some b/\live β k b)/\((∃off,x=.own k off)\/∃es i j,x=.op k es i j):=by
 intro k hk
 have cl:∀b:AB,b.Dl=true->live β k b:=λb hc=>by
  unfold AB.Dl at hc;split at hc
  ·rename_i hb;unfold live;rw [hb];trivial
  ·cases hc
 unfold F7 at h;split at h
 ·exact aKB
 ·exact aKB
 ·cases h
def afF {t:TypeId}{x q lv:LV}(h:(Tf P H t x q).all (λr=>r=lv)):∀k,x=.om k->∃b,H[k]? =some b/\live β k b:=by
 intro k hk;subst hk;unfold Tf at h;exact aKX
def aem {t:TypeId}{x q lv:LV}(h:(XA P H t x q).all (λr=>r=lv)):∀k,x=.om k->∃b,H[k]? =some b/\live β k b:=by
 intro k hk;subst hk;unfold XA at h;exact aKX
def afH {t:TypeId}{x q lv:LV}(h:(XX P H t x q).all (λr=>r=lv)):∀k,x=.om k->∃b,H[k]? =some b/\live β k b:=by
 intro k hk;subst hk;unfold XX at h;simp only at h;split at h
 ·rename_i hb;exact ⟨_,hb,trivial⟩
 ·exact afF h k rfl
def afE (hΓ:∀g S,Γ g=some S->Valid P G g S) {tr:List Nat} {D:World->Prop} {o:Oper} {lv:LV} (hW:RW G w0 Z0 Z β H wr) (hF:RF ds β Z wr H.length F a)
  (hD:∀w',D w'->RW G w0 Z0 Z β H w'/\∀b,(Z b\/∃k bk,H[k]? =some bk/\live β k bk/\tr.contains k=false/\b=(β k).b)->w'.heap[b]? =wr.heap[b]?)
  (h:(XN P G Γ tr F H o).all (λz=>z=lv)):∃v,(∀w',D w'->NJ P o a w' v)/\R β Z wr lv v/\okV H.length lv:=by
 unfold XN at h;split at h
 ·cases h
 ·rename_i hsp
  simp only [Cr,D4,not_or,Bool.not_eq_true,ZW] at hsp;obtain ⟨hsp,hap⟩:=hsp
  have ev:=λx=>hF.eval hW.CV x
  have hFD:∀w',D w'->RF ds β Z w' H.length F a:=λw' hw'=>hF.mono (At _) (λ_ _=>rfl) (λ_ h=>h) (λb hz=>(hD w' hw').2 b (.inl hz))
  split at h
  ·rename_i hcall
   obtain ⟨h1,hpl⟩:=aCd h;obtain ⟨⟨lv',H'⟩,h2,h3⟩:=T.Ay h1
   have e3:lv'=lv:=h3
   subst e3;obtain ⟨x,hx⟩:=ZJ.1 hpl
   have hm:OQ P o=true:=by unfold WS at hcall;unfold OQ;unfold isSp at hsp;split at hcall<;>simp_all
   have hH:H'=H:=T.QA (p:=λq:LV×List AB=>q.2=H) (x:=(lv',H')) (oN hm) h2
   subst hH;refine ⟨x,λw' hw'=>?_,aJs hx,?_⟩
   ·have hs:=bU hΓ (hD w' hw').1 (hFD w' hw') h2
    have hrun:∃g vals,(execOp a.eval o).run P w'=.ok (.enter g vals) w':=by
     unfold WS at hcall;split at hcall
     ·rename_i f args ty ho
      have h2':=h2
      unfold Ap at h2';simp only [ho] at h2';split at h2'
      ·rename_i g cap hf
       have hfr:=(ev f).1
       rw [hf] at hfr;simp only [R] at hfr;obtain ⟨ys,hy,_⟩:=hfr;obtain ⟨fn,S,k1,k2,k3,_⟩:=Su h2';exact ⟨_,_,aBz ho hy k1 k2 k3 w'⟩
      ·rename_i g fs hf
       have hfr:=(ev f).1
       rw [hf] at hfr;simp only [R] at hfr;obtain ⟨ys,hy,_⟩:=hfr;obtain ⟨fn,S,k1,k2,k3,_⟩:=Su h2';exact ⟨_,_,aCM ho hy k1 k2 k3 w'⟩
      ·cases h2'
     ·rename_i r name args ty ho
      have h2':=h2
      unfold Ap at h2';simp only [ho] at h2';split at h2'
      ·rename_i g rv hf
       obtain ⟨t,v,hy,hm⟩:=aFc hf (ev r).1;obtain ⟨fn,S,k1,k2,k3,_⟩:=Su h2';exact ⟨_,_,aCV ho hy hm k1 k2 k3 w'⟩
      ·cases h2'
     ·cases hcall
    obtain ⟨g,vals,hr⟩:=hrun;unfold NJ;rw [hr] at hs|-;simp only [DV] at hs;refine ⟨rfl,hs.mono λe w'' ⟨v,he,Z',β',_,_,hrv,_,_,_,_,hn⟩=>?_⟩
    have hv:=Cb hx hrv
    subst hv;refine ⟨he,hn.os,hn.tape,hn.output,hn.size,λk hk=>hn.block k hk ?_⟩
    unfold WS at hcall;split at hcall
    ·rename_i ho;simp [OV,EX,ho,DP]
    ·rename_i ho;simp [OV,EX,ho,DP]
    ·cases hcall
   ·cases lv' with
    |fn f l=>cases l with
     |nil=>trivial
     |cons _ _=>simp [pl] at hx
    |v _=>trivial
    |bl _=>trivial
    |ki _ _=>trivial
    |_=>simp [pl] at hx
  ·rename_i hnc
   obtain ⟨⟨lv',H'⟩,h2,h3⟩:=T.Ay h
   have e3:lv'=lv:=h3
   subst e3
   clear h3
   have val:∀ {v:Value},(∀w',D w'->(execOp a.eval o).run P w'=.ok (.value v) w')->R β Z wr lv' v->okV H.length lv'->∃v,(∀w',D w'->NJ P o a w' v)/\R β Z wr lv' v/\okV H.length lv':=λ{v} hrun hr hk=>
    ⟨v,λw' hw'=>by unfold NJ;rw [hrun w' hw'];exact A8,hr,hk⟩
   have hsel:∀cs b,o.op≠ .select cs b:=λcs b e=>by unfold Ap at h2;simp only [e] at h2;cases h2
   have same:∀ {t:T LV},(t.bind λy=>(T.ok (y,H):T (LV×List AB))).all (λq=>q=(lv',H'))->t.all (λz=>z=lv'):=λh=>by
    obtain ⟨x,g1,g2⟩:=T.Ay h;simp only [T.all,Aq] at g2;obtain ⟨rfl,rfl⟩:=g2;exact g1
   have gen:(DY P G F o).all (λz=>z=lv')->∃v,(∀w',D w'->NJ P o a w' v)/\R β Z wr lv' v/\okV H.length lv':=λhg=>by
    unfold DY at hg;split at hg
    ·rename_i hpl
     split at hg
     ·rename_i y hy
      simp only [T.all] at hg
      have hcong:execOp a.eval o=execOp (λx=>(pl (AL G F x)).getD undef) o:=jO o hsel λx hx=>by
       have h1:=BL.1 hpl x yI
       obtain ⟨z,hz⟩:=ZJ.1 h1;rw [hz];exact Cb hz (ev x).1
      refine val (v:=y) (λw' _=>by rw [hcong];exact aDo hy w') ?_ ?_<;>rw [<-hg]
      ·split
       ·exact aJW y
       ·exact Dk
      ·split
       ·exact abJ y
       ·trivial
     ·cases hg
    ·cases hg
   have h:=h2
   unfold Ap at h;split at h
   ·cases h
   ·exact aKa
   ·exact aKa
   ·rename_i c x y ho
    obtain ⟨g,e1,e2,e3⟩:=ae0 (same h) (ev c).1 (ev x).1 (ev y).1 (ev x).2 (ev y).2;exact val (v:=if g then a.eval x else a.eval y) (λw' _=>aNX) e2 e3
   ·exact Mt
   ·exact Mt
   ·rename_i t x ho
    obtain ⟨z,e1,e2,e3⟩:=mH hW (same h) (ev x).1 (ev x).2;refine val (v:=z) (λw' hw'=>?_) e2 e3
    have hlv:=afI hW (same h) (ev x).1
    have:=e1 w' (λb hb=>(hD w' hw').2 b (by
     rcases hb with hb|⟨k,e4,e5⟩
     ·exact .inl hb
     ·obtain ⟨⟨bk,l1,l2⟩,l3⟩:=hlv k e4
      refine .inr ⟨k,bk,l1,l2,?_,e5⟩;unfold qU at hap;simp only [ho] at hap;rcases l3 with ⟨off,l3⟩ |⟨es,i,j,l3⟩
      ·rw [l3] at hap;simpa using hap
      ·rw [l3] at hap;simpa using hap))
    simp [execOp,ho,this]
   ·exact Mt
   ·rename_i s x i ho
    obtain ⟨z,e1,e2,e3⟩:=adu (w:=wr) (same h) (ev x).1 (ev x).2;exact jq
   ·rename_i t x i ho
    obtain ⟨z,e1,e2,e3⟩:=aBC (w:=wr) (same h) (ev x).1 (ev i).1 (ev x).2;exact jq
   ·rename_i t parts ho
    obtain ⟨z,e1,e2,e3⟩:=adq (β:=β) (Z:=Z) (w:=wr) (n:=H.length) (pv:=parts.map λq=>(q.1,a.eval q.2)) (same h) VS (by
     simp only [Mq,Gk];refine RL.CO AJ λi x hx=>?_
     rw [DS] at hx|-;cases hq:parts.toList[i]? with
     |none=>simp [hq] at hx
     |some q=>simp [hq] at hx;subst hx;exact ⟨a.eval q.2,AJ,(cN (ev q.2)).1⟩) (by
     simp only [Gk];refine AR.CO λi x hx=>?_
     rw [DS] at hx;cases hq:parts.toList[i]? with
     |none=>simp [hq] at hx
     |some q=>simp [hq] at hx;subst hx;exact (cN (ev q.2)).2)
    exact val (v:=z) (λw' _=>Jq) e2 e3
   ·exact Mt
   ·exact Mt
   ·rename_i t x lo hi ho
    split at h
    ·exact Mw
    ·have ro:∀q:Option Operand,RO β Z wr (q.map (AL G F)) (q.map a.eval):=λq=>by
      cases q with
      |none=>trivial
      |some q=>exact (ev q).1
     obtain ⟨z,e1,e2,e3⟩:=ado (w:=wr) (same h) (ev x).1 (ro lo) (ro hi) (ev x).2;exact jq
   ·rename_i t x lo hi mx ho
    split at h
    ·exact Mw
    ·have ro:RO β Z wr (lo.map (AL G F)) (lo.map a.eval):=by
      cases lo with
      |none=>trivial
      |some q=>exact (ev q).1
     obtain ⟨z,e1,e2,e3⟩:=adV (w:=wr) (N:=H.length) (same h) (ev x).1 ro (ev hi).1 (ev mx).1;exact jq
   ·exact Mt
   ·exact Mt
   ·exact Mt
   ·rename_i t x i ho
    obtain ⟨z,e1,e2,e3⟩:=ae5 hW (same h) (ev x).1 (ev i).1 (ev x).2;refine val (v:=z) (λw' hw'=>?_) e2 e3
    have hlv:=afH (β:=β) (same h)
    exact aKF
   ·rename_i t x i ho
    split at h
    ·exact Mw
    ·obtain ⟨z,e1,e2,e3⟩:=adl hW (same h) (ev x).1 (ev i).1 (ev x).2
     refine val (v:=z) (λw' hw'=>?_) e2 e3
     have hlv:=aem (β:=β) (same h)
     exact aKF
   ·rename_i x i ho
    split at h
    ·rename_i l hl
     split at h
     ·rename_i y hy
      simp only [T.all,Aq] at h;obtain ⟨h1,_⟩:=h
      have hx:=ev x
      rw [hl] at hx;simp only [R,okV] at hx;obtain ⟨⟨ys,e1,e2⟩,e3⟩:=hx;obtain ⟨z,e4,e5⟩:=RL.get _ _ e2 hy
      have e6:ys[i]? =some z:=by simpa using e4
      refine val (v:=z) (λw' _=>aMi) ?_ ?_<;>rw [<-h1]
      ·exact e5
      ·exact AR.get _ _ e3 hy
     ·cases h
    ·exact Mw
   ·rename_i t x i ho
    split at h
    ·rename_i l hl
     have hx:=ev x
     rw [hl] at hx;simp only [R,okV] at hx;obtain ⟨⟨ys,e1,e2⟩,e3⟩:=hx;obtain ⟨z,f1,f2,f3⟩:=aCb (same h) e2 e3;exact aLw
    ·exact Mw
   ·rename_i f first cap ho
    split at h
    ·rename_i he
     simp only [T.all,Aq] at h;obtain ⟨h1,_⟩:=h
     have hfirst:first=#[]:=by
      have:first.toList=[]:=aC
      exact OE
     refine val (v:=.func (.func f) #[] (cap.map a.eval)) (λw' _=>aMe) ?_ ?_<;>rw [<-h1]
     ·exact aK8
     ·exact aKW
    ·split at h
     ·rename_i he
      simp only [T.all,Aq] at h;obtain ⟨h1,_⟩:=h
      have hcap:cap=#[]:=by
       have:cap.toList=[]:=aC
       exact OE
      refine val (v:=.func (.func f) (first.map a.eval) #[]) (λw' _=>aMj) ?_ ?_<;>rw [<-h1]
      ·exact aK6
      ·exact aL2
     ·cases h
   ·rename_i x ho
    have hx:=ev x
    split at h
    ·rename_i k off hl
     exact aKu
    ·rename_i k es i j hl
     exact aKu
    ·rename_i n f hl
     simp only [T.all,Aq] at h;rw [hl] at hx
     have hx1:=hx.1
     simp only [R] at hx1;obtain ⟨b,off,e1,_⟩:=hx1;refine val (v:=a.eval x) (λw' _=>Jq) ?_ ?_<;>rw [<-h.1]
     ·exact hx.1
     ·exact hx.2
    ·exact aKo
    ·exact aKo
    ·exact Mw
   ·rename_i t x y t' ho
    split at h
    ·rename_i k n k' m hx hy
     split at h
     ·rename_i hk
      subst hk;simp only [T.all,Aq] at h;obtain ⟨h0,h1,_⟩:=h
      have e1:=Cb hx (ev x).1
      have e2:=Cb hy (ev y).1
      refine val (v:=.int k (k.wrap (n.tdiv m))) (λw' _=>kG) ?_ ?_<;>rw [<-h1]
      ·exact Dk
      ·trivial
     ·cases h
    ·cases h
   ·rename_i t x y t' ho
    split at h
    ·rename_i k n k' m hx hy
     split at h
     ·rename_i hk
      subst hk;simp only [T.all,Aq] at h;obtain ⟨h0,h1,_⟩:=h
      have e1:=Cb hx (ev x).1
      have e2:=Cb hy (ev y).1
      refine val (v:=.int k (n.tmod m)) (λw' _=>kG) ?_ ?_<;>rw [<-h1]
      ·exact Dk
      ·trivial
     ·cases h
    ·cases h
   ·rename_i t x y t' ho
    split at h
    ·exact Mw
    ·split at h
     ·rename_i k n k' m hx hy
      simp only [T.all,Aq] at h;obtain ⟨h0,h1,_⟩:=h
      have e1:=Cb hx (ev x).1
      have e2:=Cb hy (ev y).1
      refine val (v:=.int k (k.wrap (n*2^(min m.toNat k.bits)))) (λw' _=>kD) ?_ ?_<;>rw [<-h1]
      ·exact Dk
      ·trivial
     ·cases h
   ·rename_i t x y t' ho
    split at h
    ·exact Mw
    ·split at h
     ·rename_i k n k' m hx hy
      simp only [T.all,Aq] at h;obtain ⟨h0,h1,_⟩:=h
      have e1:=Cb hx (ev x).1
      have e2:=Cb hy (ev y).1
      refine val (v:=.int k (n.fdiv (2^(min m.toNat k.bits)))) (λw' _=>kD) ?_ ?_<;>rw [<-h1]
      ·exact Dk
      ·trivial
     ·cases h
   ·rename_i t x i ho
    split at h
    ·rename_i l hl
     obtain ⟨ys,e1,e2,e3⟩:=aCm hl (ev x).1 (ev x).2;obtain ⟨z,f1,f2,f3⟩:=aCX (same h) e2 e3 (ev i).1;exact aLw
    ·split at h
     ·rename_i s kd n hu hx hi
      simp only [T.all,Aq] at h;obtain ⟨⟨h0,hlt⟩,h1,_⟩:=h
      have e1:=Cb hx (ev x).1
      have e2:=Cb hi (ev i).1
      have hb:n.toNat<s.size:=A0
      have hg:s[n.toNat]? =some s[n.toNat]:=ke
      refine val (v:=.int .u8 (Jf s n)) (λw' _=>aMN) ?_ ?_<;>rw [<-h1]
      ·exact Dk
      ·trivial
     ·cases h
   ·rename_i ho;simp [WS,ho] at hnc
   ·rename_i ho;simp [WS,ho] at hnc
   ·exact Mt
   ·exact Mt
   ·rename_i args ty ho
    split at h
    ·rename_i k es off n e hl hu
     simp only [T.all,Aq] at h;obtain ⟨h1,_⟩:=h;cases hargs:args.toList with
     |nil=>simp [hargs] at hl
     | cons x xs=>
      cases xs with
      |cons _ _=>simp [hargs] at hl
      | nil=>
       simp only [hargs,E8,Ks,HK,OB] at hl
       have hx:=(ev x).1
       rw [hl] at hx;simp only [R] at hx
       have e1:∃ad cap,a.eval x=.slice ad n cap:=by
        exact aKV
       obtain ⟨ad,cap,e1⟩:=e1
       have ha:args=#[x]:=Pd
       cases ht:ty[0]? with
       |none=>simp [ht] at hu
       |some t=>
        simp only [ht,O7] at hu;refine val (v:=.int .i64 n) (λw' _=>VH) ?_ ?_<;>rw [<-h1]
        ·exact Dk
        ·trivial
    ·rename_i e' l e hl hu
     simp only [T.all,Aq] at h;obtain ⟨h1,_⟩:=h;cases hargs:args.toList with
     |nil=>simp [hargs] at hl
     | cons x xs=>
      cases xs with
      |cons _ _=>simp [hargs] at hl
      | nil=>
       simp only [hargs,E8,Ks,HK,OB] at hl
       have hx:=(ev x).1
       rw [hl] at hx;simp only [R] at hx;obtain ⟨ad,cap,e1,_⟩:=hx
       have ha:args=#[x]:=Pd
       cases ht:ty[0]? with
       |none=>simp [ht] at hu
       |some t=>
        simp only [ht,O7] at hu;refine val (v:=.int .i64 (List.length l:Int)) (λw' _=>VH) ?_ ?_<;>rw [<-h1]
        ·exact Dk
        ·trivial
    ·rename_i k' es' off' n' c' e hl hu
     simp only [T.all,Aq] at h;obtain ⟨h1,_⟩:=h;cases hargs:args.toList with
     |nil=>simp [hargs] at hl
     | cons x xs=>
      cases xs with
      |cons _ _=>simp [hargs] at hl
      | nil=>
       simp only [hargs,E8,Ks,HK,OB] at hl
       have hx:=(ev x).1
       rw [hl] at hx;simp only [R] at hx;obtain ⟨_,ad,e1,_⟩:=hx
       have ha:args=#[x]:=Pd
       cases ht:ty[0]? with
       |none=>simp [ht] at hu
       |some t=>
        simp only [ht,O7] at hu;refine val (v:=.int .i64 n') (λw' _=>VH) ?_ ?_<;>rw [<-h1]
        ·exact Dk
        ·trivial
    ·exact Mw
   ·exact Mw
def aB0 (tr:List Nat):∀(H:List AB) (k i:Nat),(EN tr k H)[i]? =(H[i]?).map λb=>if tr.contains (k+i) then Qc b else b
 | [],k,i=>by simp [EN]
 |b::bs,k,0=>by simp [EN]
 |b::bs,k,i+1=>by
  simp only [EN,j9];rw [aB0 tr bs (k+1) i]
  have:k+1+i=k+(i+1):=A0
  rw [this]
def Ve (tr:List Nat):∀(H:List AB) (k:Nat),(EN tr k H).length=H.length
 | [],_=>rfl
 |_::bs,k=>by simp [EN,Ve tr bs (k+1)]
def aIn:∀(ys:List Value),RL β Z w (List.replicate ys.length .junk) ys
 | []=>aH
 |y::ys=>by simp only [BX,V2,RL];exact ⟨y,ys,rfl,JK,aIn ys⟩
def aE4 (m:Nat):∀(k:Nat),AR m (List.replicate k .junk)
 |0=>trivial
 |k+1=>⟨trivial,aE4 m k⟩
def Shp (tr:List Nat) (β:Nat->Loc) (H:List AB) (w:World):Prop:=∀(k:Nat) (b:AB),tr.contains k=true->H[k]? =some b->b.Dl=true->∃cs,w.heap[(β k).b]? =some (.cells cs b.t (0,0))/\cs.size=b.c.length
def ayk {b:AB}(h:b.Dl=true):b.k=.cl:=by
 unfold AB.Dl at h;split at h
 ·assumption
 ·cases h
def ae3 (b:AB):(b.Dl=true/\Qc b=⟨List.replicate b.c.length .junk,b.t,.cl,b.p⟩)\/(b.Dl=false/\Qc b=⟨[],b.t,.dead,false⟩):=by
 unfold Qc AB.Dl;split
 ·grind
 ·grind
def afC {b:AB}{k:Nat}(h:live β k (Qc b)):live β k b/\(Qc b).p=b.p:=by
 rcases ae3 b with ⟨h1,h2⟩ |⟨h1,h2⟩
 ·rw [h2];exact ⟨by unfold live;rw [ayk h1];trivial,rfl⟩
 ·rw [h2] at h;exact absurd h (λh=>h)
def RW.mS {tr:List Nat}(hW:RW G w0 Z0 Z β H wr) {b:Nat}(hz:Z b):b∉DP β H tr:=λhm=>by
 obtain ⟨k,bk,_,h2,h3,h4,rfl⟩:=cB.1 hm;exact hW.Cg k bk h2 h3 h4 hz
def RW.adS {tr:List Nat}(hW:RW G w0 Z0 Z β H wr) {k:Nat}{b:AB}(hb:H[k]? =some b) (hl:live β k b) (ht:k∉tr):(β k).b∉DP β H tr:=λhm=>by
 obtain ⟨j,bj,h1,h2,h3,h4,h5⟩:=cB.1 hm
 have:=hW.inj j k bj b h2 hb h3 hl h4 h5.symm
 subst this;exact ht h1
def RW.mask {tr:List Nat}{w':World}(hW:RW G w0 Z0 Z β H wr) (hn:DM (DP β H tr) wr w') (hb0:Below w0.heap.size w0 w') (hs:Shp tr β H w'):RW G w0 Z0 Z β (EN tr 0 H) w':=by
 have hw:∀b,Z b->w'.heap[b]? =wr.heap[b]? :=λb hz=>hn.block b (hW.BV b hz) (hW.mS hz)
 have old:∀k b,(EN tr 0 H)[k]? =some b->∃b0,H[k]? =some b0/\(live β k b->live β k b0/\b.p=b0.p)/\((tr.contains k=true/\b=Qc b0)\/(tr.contains k=false/\b=b0)):=λk b hb=>by
  rw [aB0] at hb;cases hH:H[k]? with
  |none=>simp [hH] at hb
  | some b0=>
   simp only [hH,JH,Ad,EK] at hb;refine ⟨b0,rfl,?_⟩;split at hb
   ·rename_i ht
    subst hb;exact ⟨afC,.inl ⟨ht,rfl⟩⟩
   ·rename_i ht
    grind
 refine ⟨hb0,λb hz=>?_,hW.ES,λk b hk hl hp=>?_,λk b hk hl hp=>?_,λk b hk hl=>?_,λi j bi bj hi hj li lj pi e=>?_,λk b hb=>?_,hW.CV.mono (λ_ h=>h) hw,λp hp=>⟨R.mono (n:=H.length) (λ_ _=>rfl) (λ_ h=>h) hw _ _ (hW.gh p hp).2 (hW.gh p hp).1,by rw [Ve];exact (hW.gh p hp).2⟩,λD hD=>⟨(hW.Ci D hD).1,Zm⟩⟩
 ·have:=hW.BV b hz;have:=hn.size;omega
 ·obtain ⟨b0,h1,h2,_⟩:=old k b hk
  obtain ⟨h3,h4⟩:=h2 hl;exact hW.Cg k b0 h1 h3 (h4▸hp)
 ·obtain ⟨b0,h1,h2,_⟩:=old k b hk
  obtain ⟨h3,h4⟩:=h2 hl;exact hW.G0 k b0 h1 h3 (h4▸hp)
 ·obtain ⟨b0,h1,h2,_⟩:=old k b hk
  exact hW.low k b0 h1 (h2 hl).1
 ·obtain ⟨b0,h1,h2,_⟩:=old i bi hi
  obtain ⟨c0,g1,g2,_⟩:=old j bj hj;exact hW.inj i j b0 c0 h1 g1 (h2 li).1 (g2 lj).1 ((h2 li).2▸pi) e
 ·obtain ⟨b0,h1,h2,h3⟩:=old k b hb
  obtain ⟨f1,f2⟩:=hW.blk k b0 h1;rw [Ve];rcases h3 with ⟨ht,rfl⟩ |⟨ht,rfl⟩
  ·rcases ae3 b0 with ⟨m1,m2⟩ |⟨m1,m2⟩
   ·rw [m2]
    obtain ⟨cs',g1,g2⟩:=hs k b0 ht h1 m1;refine ⟨⟨cs',g1,?_⟩,aE4 _ _,trivial⟩
    have:=aIn (β:=β) (Z:=Z) (w:=w') cs'.toList
    grind
   ·rw [m2]
    exact ⟨trivial,trivial,trivial⟩
  ·have hkt:k∉tr:=AA
   exact ⟨f1.keep (λ_ _=>rfl) (λ_ h=>h) hw rfl (λhl=>hn.block _ (hW.lt h1 hl) (hW.adS h1 hl hkt)) f2,f2⟩
def pF {o:Oper}{g:FuncId}{l:List LV}{lv:LV}{H':List AB}(h:(L9 P Γ H o g l).all (λq=>q=(lv,H'))):EvL H H':=by
 have bd:∀ {t:T LV} {H1:List AB},(t.bind λy=>(T.ok (y,H1):T (LV×List AB))).all (λq=>q=(lv,H'))->H'=H1:=λh=>by
  exact aLA
 obtain ⟨_,_,_,_,_,_,h⟩:=Su h;split at h
 ·rw [bd h];exact EvL.refl H
 ·split at h
  ·rw [bd h];exact EvL.refl H
  ·split at h
   ·rw [bd h];exact EvL.pub _
   ·cases h
def awY {o:Oper} {lv:LV} {H':List AB} (h:(Ap P G Γ F H o).all (λq=>q=(lv,H'))):EvL H H':=by
 by_cases hm:OQ P o=true
 ·have hH:H'=H:=T.QA (p:=λq:LV×List AB=>q.2=H) (x:=(lv,H')) (oN hm) h
  rw [hH];exact EvL.refl H
 ·have bd:∀ {t:T LV} {H1:List AB},(t.bind λy=>(T.ok (y,H1):T (LV×List AB))).all (λq=>q=(lv,H'))->H'=H1:=λh=>by
   exact aLA
  unfold OQ at hm;split at hm
  ·rename_i t ho
   unfold Ap at h;simp only [ho] at h;split at h
   ·exact Za
   ·cases h
  ·rename_i t x ho
   unfold Ap at h;simp only [ho] at h;exact Za
  ·rename_i t x y ho
   unfold Ap at h;simp only [ho] at h;obtain ⟨H1,h1,h2⟩:=T.Ay h;obtain ⟨_,rfl⟩:=h2;exact afo h1
  ·rename_i t n c ho
   unfold Ap at h;simp only [ho] at h;exact amW h
  ·rename_i t r ho
   unfold Ap at h;cases r with
   | none=>
    simp only [ho] at h;split at h
    ·simp only [T.all,Aq] at h
     rw [<-h.2];exact EvL.app _ _
    ·exact Za
   |some r=>
    simp only [ho] at h;rw [bd h];exact EvL.refl H
  ·exact aKj
  ·exact aKj
  ·rename_i t len parts ho
   unfold Ap at h;simp only [ho] at h;split at h
   ·split at h
    ·unfold Wc at h
     exact Za
    ·cases h
   ·split at h
    ·split at h
     ·unfold aM at h
      split at h
      ·obtain ⟨y,h1,h2⟩:=T.Ay h
       split at h2
       ·simp only [T.all,Aq] at h2
        rw [<-h2.2];exact (EvL.pub _).trans (EvL.app _ _)
       ·cases h2
      ·cases h
     split at h
     ·rw [bd h];exact EvL.refl H
     ·unfold lL at h
      split at h
      ·obtain ⟨y,h1,h2⟩:=T.Ay h
       simp only [T.all,Aq] at h2;rw [<-h2.2];exact EvL.pub _
      ·cases h
    unfold lG at h;split at h
    ·split at h
     ·split at h
      ·exact Za
      ·cases h
     ·cases h
    ·cases h
  ·rename_i args ty ho
   unfold Ap at h;simp only [ho] at h;split at h
   ·exact afc h
   ·cases h
  ·rename_i args ty ho
   unfold Ap at h;simp only [ho] at h;split at h
   ·exact an7 h
   ·cases h
  ·rename_i f args ty ho
   unfold Ap at h;simp only [ho] at h;split at h
   ·exact pF h
   ·exact pF h
   ·cases h
  ·rename_i r name args ty ho
   unfold Ap at h;simp only [ho] at h;split at h
   ·exact pF h
   ·cases h
  ·simp at hm
def WA (hΓ:∀g S,Γ g=some S->Valid P G g S) {ops:Array Oper}{tr:List Nat}{Hm:List AB}{D:World->Prop}{K:Act->Prop}{F':List LV}{HH:List AB}(hlen:Hm.length=H.length)
  (hW:RW G w0 Z0 Z β Hm wr) (hD:∀w',D w'->RW G w0 Z0 Z β Hm w'/\∀b,(Z b\/∃k bk,Hm[k]? =some bk/\live β k bk/\tr.contains k=false/\b=(β k).b)->w'.heap[b]? =wr.heap[b]?)
  (hK:∀a1,RF ds β Z wr H.length F' a1->K a1):∀(fs:List Bool) (os:List Oper) (F:List LV) (a:Act),fs.length=os.length->RF ds β Z wr H.length F a->
   (Hp P G Γ ops tr HH Hm fs os F).all (λq=>q=(F',HH))->He P ops D K fs os a
 | [],[],F,a,_,hF,h=>by
  simp only [Hp,T.all,Aq,OB] at h;subst h;exact agS (hK a hF)
 | [],_::_,_,_,hl,_,_=>aI
 |_::_,[],_,_,hl,_,_=>aI
 | f ::fs,o::os,F,a,hl,hF,h=>by
  have hl':fs.length=os.length:=kW
  simp only [Hp] at h;simp only [He];split at h
  ·rename_i hf
   rw [AE hf];exact WA hΓ hlen hW hD hK fs os F a hl' hF h
  ·rename_i hf
   rw [AD hf]
   have goOk:∀(F:List LV),RF ds β Z wr H.length F a->((XN P G Γ tr F Hm o).bind λy=>Hp P G Γ ops tr HH Hm fs os (Al F o.dst y)).all (λq=>q=(F',HH))->calm P o a D (He P ops D K fs os):=λF hF h=>by
    obtain ⟨lv,h1,h2⟩:=T.Ay h;obtain ⟨v,g1,g2,g3⟩:=afE hΓ hW (by rw [hlen];exact hF) hD h1
    exact ⟨v,g1,WA hΓ hlen hW hD hK fs os _ _ hl' (hF.put g2 (by rw [<-hlen];exact g3) o.dst) h2⟩
   have passOk:∀(F:List LV),RF ds β Z wr H.length F a->(Hp P G Γ ops tr HH Hm fs os (Al F o.dst (.v undef))).all (λq=>q=(F',HH))->He P ops D K fs os (a.put o.dst undef):=λF hF h=>
    WA hΓ hlen hW hD hK fs os _ _ hl' (hF.pass o.dst) h
   split at h
   ·rename_i hg
    have hw:Region.wanted o (yielded ops a.tmps)=true:=Zt
    rw [AE hw];exact goOk F hF h
   ·rename_i j want hg
    split at h
    ·rename_i d hd
     split at h
     ·rename_i b hb
      obtain ⟨s1,s2⟩:=hF.slot hb AJ
      have hv:=(hF.get d _ s1).1
      simp only [R] at hv;rw [hv] at s2;rw [Vr hg hd s2];split at h
      ·grind
      ·grind
     ·rename_i g hb
      obtain ⟨s1,s2⟩:=hF.slot hb AJ
      have hv:=(hF.get d _ s1).1
      simp only [R] at hv
      have kn:∀b,g=b->RF ds β Z wr H.length (F.set d (.bl b)) a:=λb e=>hF.know k8 trivial
      rw [hv] at s2;rw [Vr hg hd s2];split at h
      ·rename_i hwt
       subst hwt;cases hgg:g with
       |true=>simp only [O8,Bm];exact goOk _ (kn true hgg) (h.1 hgg)
       |false=>rw [AD AJ];exact passOk _ (kn false hgg) (h.2 hgg)
      ·rename_i hwt
       have hwt':want=false:=xz
       subst hwt';cases hgg:g with
       |true=>rw [AD AJ];exact passOk _ (kn true hgg) (h.1 hgg)
       |false=>simp only [O8,Bm];exact goOk _ (kn false hgg) (h.2 hgg)
     ·rename_i vs hb
      obtain ⟨s1,s2⟩:=hF.slot hb AJ
      have hv:=(hF.get d _ s1).1
      exact aL4
     ·cases h
    ·cases h
def Vu {ops:Array Oper}{tr:List Nat}{Hm:List AB}{F0:List LV}:∀(fs:List Bool) (os:List Oper) (F:List LV),(∀o∈os,o∈ops.toList)->F.length=F0.length/\(∀i,i∉FC ops.toList->F[i]? =F0[i]?)->
  (Hp P G Γ ops tr H Hm fs os F).lv (Keeps (FC ops.toList) F0 H)
 | [],_,F,_,h=>aMQ
 |_::_,[],F,_,h=>aMQ
 | f ::fs,o::os,F,hin,h=>by
  have hin':∀o∈os,o∈ops.toList:=λo ho=>hin o AA
  have hdo:∀t,o.dst=some t->t∈FC ops.toList:=λt ht=>S8.2 ⟨o,hin o AJ,ht⟩
  have go:∀F:List LV,F.length=F0.length/\(∀i,i∉FC ops.toList->F[i]? =F0[i]?)->((XN P G Γ tr F Hm o).bind λy=>Hp P G Γ ops tr H Hm fs os (Al F o.dst y)).lv (Keeps (FC ops.toList) F0 H):=λF hF=>
   T.T2 (p:=λ_=>True) (λq _=>Vu fs os _ hin' (Vn hF hdo _)) (T.WK (λ_=>trivial) _)
  have pass:∀F:List LV,F.length=F0.length/\(∀i,i∉FC ops.toList->F[i]? =F0[i]?)->(Hp P G Γ ops tr H Hm fs os (Al F o.dst (.v undef))).lv (Keeps (FC ops.toList) F0 H):=λF hF=>
   Vu fs os _ hin' (Vn hF hdo _)
  simp only [Hp];split
  ·exact Vu fs os F hin' h
  ·split
   ·exact go F h
   ·rename_i j want hg
    split
    ·rename_i d hd
     have hdd:d∈FC ops.toList:=by
      cases hj:ops[j]? with
      |none=>simp [hj] at hd
      |some oj=>simp [hj] at hd;exact S8.2 ⟨oj,AA,hd⟩
     split
     ·split
      ·exact go F h
      ·grind
     ·exact aKT
     ·grind
     ·trivial
    ·trivial
structure Gh where
 Z:Nat->Prop
 β:Nat->Loc
 H:List AB
 F:List LV
 a:Act
structure CY (ds:List Deferred) (G:Av) (w0:World) (Z0:Gz) (tr:List Nat) (β:Nat->Loc) (H:List AB) (wr:World) (g:Gh) (w':World):Prop where
 rw:RW G w0 Z0 g.Z g.β g.H w'
 rf:RF ds g.β g.Z w' g.H.length g.F g.a
 near:DM (DP β H tr) wr w'
 len:H.length<=g.H.length
 old:∀k,k<H.length->g.β k=β k
 new:∀k,H.length<=k->k<g.H.length->wr.heap.size<=(g.β k).b\/(g.β k).b∈DP β H tr
 Jg:EvL H g.H
def CY.keep {tr:List Nat}{g:Gh}{w' w'':World}(h:CY ds G w0 Z0 tr β H wr g w') (hb:Below w'.heap.size w' w''):CY ds G w0 Z0 tr β H wr g w'':=
 ⟨h.rw.same hb,h.rf.mono (At _) (λ_ _=>rfl) (λ_ h=>h) (λb hz=>Dx hb (h.rw.BV b hz)),af9 h.near hb,h.len,h.old,h.new,h.Jg⟩
def CY.shape {tr:List Nat}{g:Gh}{w':World}(h:CY ds G w0 Z0 tr β H wr g w'):Shp tr β H w':=λk b _ hb hcl=>by
 obtain ⟨b',e1,e2⟩:=h.Jg k b hb;obtain ⟨c1,c2,c3⟩:=e2.cl hcl;obtain ⟨_,⟨cs,f2,f3⟩,_⟩:=pJ h.rw e1 c1
 have hk:=(Du.1 hb).1
 rw [h.old k hk,c2] at f2;refine ⟨cs,f2,?_⟩
 have:=RL.length f3
 simp at this
 omega
def CY.touch {tr:List Nat}{g:Gh}{o:Oper}{w':World}(hc:CY ds G w0 Z0 tr β H wr g w') (hst:CK G g.F tr H.length o=true) {x:Nat}(hx:x∈DP g.β g.H (EX G g.F o)):wr.heap.size<=x\/x∈DP β H tr:=by
 obtain ⟨k,b,h1,h2,h3,h4,rfl⟩:=cB.1 hx
 have hkg:=(Du.1 h2).1
 by_cases hk:k<H.length
 ·right
  have:=BL.1 hst k h1
  simp only [Cr,AY] at this
  have hkt:k∈tr:=by
   rcases this with h|h
   ·grind
   ·omega
  obtain ⟨b0,hb0⟩:∃b0,H[k]? =some b0:=⟨_,DF hk⟩;obtain ⟨b',e1,e2⟩:=hc.Jg k b0 hb0;rw [h2] at e1;simp only [Ad] at e1;subst e1;refine cB.2 ⟨k,b0,hkt,hb0,?_,e2.p h4,by rw [hc.old k hk]⟩
  have:=e2.live g.β k h3
  rwa [K5 (hc.old k hk)] at this
 ·exact hc.new k A0 hkg
def bq (hΓ:∀g S,Γ g=some S->Valid P G g S) {tr:List Nat}{g:Gh}{o:Oper}{lv:LV}{H1:List AB}{w':World}(hst:CK G g.F tr H.length o=true) (h1:(Ap P G Γ g.F g.H o).all (λq=>q=(lv,H1))) (hc:CY ds G w0 Z0 tr β H wr g w'):
  DV P (λv w''=>∃g':Gh,CY ds G w0 Z0 tr β H wr g' w''/\g'.F=Al g.F o.dst lv/\g'.H=H1/\g'.a=g.a.put o.dst v) ((execOp g.a.eval o).run P w'):=by
 refine Jx (λv w'' ⟨Z',β',e1,e2,e3,e4,e5,e6,e7,e8⟩=>?_) (bU hΓ hc.rw hc.rf h1)
 refine ⟨⟨Z',β',H1,Al g.F o.dst lv,g.a.put o.dst v⟩,?_,rfl,rfl,rfl⟩
 have hsz:=hc.near.size
 refine ⟨e1,e2.put e3 e4 o.dst,⟨e8.os.trans hc.near.os,e8.tape.trans hc.near.tape,e8.output.trans hc.near.output,G8 hsz e8.size,λk hk hn=>?_⟩,G8 hc.len e5,λk hk=>?_,λk h3 h4=>?_,hc.Jg.trans (awY h1)⟩
 ·exact aKi
 ·show β' k=β k
  rw [e6 k (ZH hk hc.len)];exact hc.old k hk
 ·show wr.heap.size<=(β' k).b\/(β' k).b∈DP β H tr
  by_cases hkk:k<g.H.length
  ·rw [e6 k hkk];exact hc.new k h3 hkk
  ·rcases e7 k A0 h4 with h|h
   ·omega
   ·exact hc.touch hst h
def my {T':Type}{C:T'->World->Prop}{Q':Act->World->Prop}{ops:Array Oper}{g g1:T'}(hs:∀w',C g w'->C g1 w'):∀(fs:List Bool) (os:List Oper) (a:Act),
  GV P ops C (λa' g'=>∀w',C g' w'->Q' a' w') fs os a g1->GV P ops C (λa' g'=>∀w',C g' w'->Q' a' w') fs os a g
 | [],_,a,h=>by
  simp only [GV] at h|-
  grind
 |_::_,[],a,h=>by
  simp only [GV] at h|-
  grind
 | f::fs,o::os,a,h=>by
  simp only [GV] at h|-;split
  ·rename_i hf
   rw [AE hf] at h;split
   ·rename_i hw
    rw [AE hw] at h;exact λw' hw'=>h w' (hs w' hw')
   ·rename_i hw
    rw [AD hw] at h;exact my hs fs os _ h
  ·rename_i hf
   rw [AD hf] at h;exact my hs fs os a h
def nD (hΓ:∀g S,Γ g=some S->Valid P G g S) {ops:Array Oper}{tr:List Nat}{Q:Act->World->Prop}{F':List LV}{H':List AB}
  (hQ:∀g:Gh,g.F=F'->g.H=H'->∀w',CY ds G w0 Z0 tr β H wr g w'->Q g.a w'):∀(fs:List Bool) (os:List Oper) (g:Gh),fs.length=os.length->(∃w',CY ds G w0 Z0 tr β H wr g w')->
   (p2x P G Γ ops tr H.length fs os g.F g.H).all (λq=>q=(F',H'))->GV P ops (CY ds G w0 Z0 tr β H wr) (λa' g'=>∀w',CY ds G w0 Z0 tr β H wr g' w'->Q a' w') fs os g.a g
 | [],[],g,_,_,h=>by
  simp only [p2x,T.all,Aq] at h;exact agR (hQ g h.1 h.2)
 | [],_::_,_,hl,_,_=>aI
 |_::_,[],_,hl,_,_=>aI
 | f ::fs,o::os,g,hl,hex,h=>by
  have hl':fs.length=os.length:=kW
  simp only [p2x] at h;simp only [GV];split at h
  ·rename_i hf
   rw [AE hf]
   have turn:∀(F1:List LV),(∀w',CY ds G w0 Z0 tr β H wr g w'->RF ds g.β g.Z w' g.H.length F1 g.a)->∀w',CY ds G w0 Z0 tr β H wr g w'->CY ds G w0 Z0 tr β H wr ⟨g.Z,g.β,g.H,F1,g.a⟩ w':=λF1 hF1 w' hc=>⟨hc.rw,hF1 w' hc,hc.near,hc.len,hc.old,hc.new,hc.Jg⟩
   have goOk:∀(F1:List LV),(∀w',CY ds G w0 Z0 tr β H wr g w'->RF ds g.β g.Z w' g.H.length F1 g.a)->(if CK G F1 tr H.length o then (Ap P G Γ F1 g.H o).bind λq=>p2x P G Γ ops tr H.length fs os (Al F1 o.dst q.1) q.2 else .no).all (λq=>q=(F',H'))->
     Tz P o g.a (CY ds G w0 Z0 tr β H wr) g (GV P ops (CY ds G w0 Z0 tr β H wr) (λa' g'=>∀w',CY ds G w0 Z0 tr β H wr g' w'->Q a' w') fs os):=λF1 hF1 h=>by
    split at h
    ·rename_i hst
     obtain ⟨⟨lv,H1⟩,h1,h2⟩:=T.Ay h;intro w' hc;refine Jx (λv w'' ⟨g',e1,e2,e3,e4⟩=>⟨g',e1,?_⟩) (bq (g:=⟨g.Z,g.β,g.H,F1,g.a⟩) hΓ hst h1 (turn F1 hF1 w' hc))
     have:=nD hΓ hQ fs os g' hl' ⟨w'',e1⟩ (by rw [e2,e3];exact h2)
     rw [e4] at this;exact this
    ·cases h
   have passOk:∀(F1:List LV),(∀w',CY ds G w0 Z0 tr β H wr g w'->RF ds g.β g.Z w' g.H.length F1 g.a)->(p2x P G Γ ops tr H.length fs os (Al F1 o.dst (.v undef)) g.H).all (λq=>q=(F',H'))->
     GV P ops (CY ds G w0 Z0 tr β H wr) (λa' g'=>∀w',CY ds G w0 Z0 tr β H wr g' w'->Q a' w') fs os (g.a.put o.dst undef) g:=λF1 hF1 h=>by
    have ps:∀w',CY ds G w0 Z0 tr β H wr g w'->CY ds G w0 Z0 tr β H wr ⟨g.Z,g.β,g.H,Al F1 o.dst (.v undef),g.a.put o.dst undef⟩ w':=λw' hc=>⟨hc.rw,(hF1 w' hc).pass o.dst,hc.near,hc.len,hc.old,hc.new,hc.Jg⟩
    refine my (Q':=Q) (g1:=⟨g.Z,g.β,g.H,Al F1 o.dst (.v undef),g.a.put o.dst undef⟩) ps fs os _ ?_;exact nD hΓ hQ fs os ⟨g.Z,g.β,g.H,Al F1 o.dst (.v undef),g.a.put o.dst undef⟩ hl' (hex.imp λw' hc=>ps w' hc) h
   obtain ⟨wx,hcx⟩:=hex
   have hF:=hcx.rf
   split at h
   ·rename_i hg
    have hw:Region.wanted o (yielded ops g.a.tmps)=true:=Zt
    rw [AE hw];exact goOk g.F (λw' hc=>hc.rf) h
   ·rename_i j want hg
    split at h
    ·rename_i d hd
     split at h
     ·rename_i b hb
      obtain ⟨s1,s2⟩:=hF.slot hb AJ
      have hv:=(hF.get d _ s1).1
      simp only [R] at hv;rw [hv] at s2;rw [Vr hg hd s2];split at h
      ·rename_i e;subst e;simp only [O8,Bm];exact goOk g.F (λw' hc=>hc.rf) h
      ·rename_i e;rw [AD yP];exact passOk g.F (λw' hc=>hc.rf) h
     ·rename_i b hb
      obtain ⟨s1,s2⟩:=hF.slot hb AJ
      have hv:=(hF.get d _ s1).1
      simp only [R] at hv
      have kn:∀c,b=c->∀w',CY ds G w0 Z0 tr β H wr g w'->RF ds g.β g.Z w' g.H.length (g.F.set d (.bl c)) g.a:=λc e w' hc=>hc.rf.know k8 trivial
      rw [hv] at s2;rw [Vr hg hd s2];split at h
      ·rename_i hwt
       subst hwt;cases hgg:b with
       |true=>simp only [O8,Bm];exact goOk _ (kn true hgg) (h.1 hgg)
       |false=>rw [AD AJ];exact passOk _ (kn false hgg) (h.2 hgg)
      ·rename_i hwt
       have hwt':want=false:=xz
       subst hwt';cases hgg:b with
       |true=>rw [AD AJ];exact passOk _ (kn true hgg) (h.1 hgg)
       |false=>simp only [O8,Bm];exact goOk _ (kn false hgg) (h.2 hgg)
     ·rename_i vs hb
      obtain ⟨s1,s2⟩:=hF.slot hb AJ
      have hv:=(hF.get d _ s1).1
      simp only [R] at hv;rw [hv] at s2;rw [adL hg hd s2,AD AJ];exact passOk g.F (λw' hc=>hc.rf) h
     ·cases h
    ·cases h
  ·rename_i hf
   rw [AD hf];exact nD hΓ hQ fs os g hl' hex h
def T.swap {α γ:Type}{K:α->γ->Prop}{t:T α}{u:T γ}:t.all (λx=>u.all (λy=>K x y))->u.all (λy=>t.all (λx=>K x y)):=by
 intro h;obtain ⟨x,h1,h2⟩:=T.pick h;refine T.BT (λy hy=>?_) h1
 exact T.BT (λz hz=>AA) h2
def FM {F:List LV}{d:Option Tmp}{y:LV}{x:Operand}(h:∀t,d=some t->x≠ .tmp t):AL G (Al F d y) x=AL G F x:=by
 cases d with
 |none=>rfl
 | some t=>
  cases x with
  |tmp s=>
   have hne:s≠t:=λe=>h t rfl (by rw [e])
   simp only [AL,Al,List.getD,Uz (OC hne)]
  |_=>rfl
def looks {ops:Array Oper}{o:Oper}{d:Option Tmp}(h:∀t,d=some t->t∉o.looksAt ops):∀x∈o.op.operands,∀t,d=some t->x≠ .tmp t:=λx hx t ht e=>h t ht (by
 subst e;exact List.mem_append_left _ (S8.2 ⟨.tmp t,AA,rfl⟩))
def Kx {F:List LV}{d e:Option Tmp}{x y:LV}(h:∀t,d=some t->e≠some t):Al (Al F d x) e y=Al (Al F e y) d x:=by
 cases d with
 |none=>rfl
 | some t=>
  cases e with
  |none=>rfl
  |some s=>
   have:t≠s:=λe=>h t rfl (by rw [e])
   exact List.set_comm _ _ A0
def Pw {ops:Array Oper}{o:Oper}{d:Option Tmp}{y:LV}(h:∀t,d=some t->t∉o.looksAt ops):IM P G Γ (Al F d y) o=IM P G Γ F o:=by
 have hl:=looks h
 unfold IM;split
 ·rename_i t len parts ho
  have em:(parts.toList.map λq=>(q.1,AL G (Al F d y) q.2))=parts.toList.map λq=>(q.1,AL G F q.2):=JG λq hq=>by
   rw [FM (hl q.2 xd)]
  rw [em]
 ·rename_i f args ty ho
  have e1:AL G (Al F d y) f=AL G F f:=FM (hl f aMz)
  have e2:(args.toList.map λx=>norm (AL G (Al F d y) x))=args.toList.map λx=>norm (AL G F x):=JG λx hx=>by
   rw [FM (hl x Zo)]
  rw [e1,e2]
 ·rfl
def aIQ {ops:Array Oper}{o:Oper}{d:Option Tmp}{y:LV}(ha:Md o=true) (h:∀t,d=some t->t∉o.looksAt ops):Ap P G Γ (Al F d y) H o=Ap P G Γ F H o:=by
 have hl:=looks h
 unfold Md at ha;split at ha
 ·rename_i t ho
  unfold Ap
  grind
 ·rename_i t x ho
  unfold Ap;simp only [ho];exact jl
 ·rename_i t x ho
  unfold Ap;simp only [ho];exact jl
 ·cases ha
def aBS {tr:List Nat}{n0:Nat}{o:Oper}{F:List LV}(h:ER o=true\/IC o=true):CK G F tr n0 o=true:=by
 have hw:EX G F o=[]:=by
  unfold EX;split
  ·exact Zd
  ·exact Zd
  ·exact Zd
  ·exact Zd
  ·exact Zd
  ·rfl
 unfold CK;rw [hw];rfl
def Vm {tr:List Nat}{n0:Nat}{o:Oper}{F:List LV}(h:Md o=true\/IC o=true):CK G F tr n0 o=true:=by
 have hw:EX G F o=[]:=by
  unfold EX;split
  ·exact Ze
  ·exact Ze
  ·exact Ze
  ·exact Ze
  ·exact Ze
  ·rfl
 unfold CK;rw [hw];rfl
def Oc {ops:Array Oper}{i:Nat}{o:Oper}(h:Et ops i o=true):IC o=true:=by
 unfold Et at h;rw [AU] at h;exact h.1
def agF {ops:Array Oper}{tr:List Nat}{n0:Nat}{i j:Nat}{is:List Nat}{K:List LV×List AB->Prop}(x y:Oper) (hx:ops[i]? =some x) (hy:ops[j]? =some y) (g1:x.guard.isNone=true) (g2:y.guard.isNone=true) (g3:((Md x=true/\Et ops j y=true)\/(Et ops i x=true/\Md y=true))\/(Et ops i x=true/\Et ops j y=true)) (hap:x.apart ops y=true) (h:(FI P G Γ ops tr n0 (j::i::is) F H).all K):(FI P G Γ ops tr n0 (i::j::is) F H).all K:=by
 obtain ⟨a1,a2,a3⟩:=ZZ hap
 have sx:∀F:List LV,CK G F tr n0 x=true:=λF=>by
  rcases g3 with (g3|g3) |g3
  ·exact Vm (.inl g3.1)
  ·exact Vm (.inr (Oc g3.1))
  ·exact Vm (.inr (Oc g3.1))
 have sy:∀F:List LV,CK G F tr n0 y=true:=λF=>by
  rcases g3 with (g3|g3) |g3
  ·exact Vm (.inr (Oc g3.2))
  ·exact Vm (.inl g3.2)
  ·exact Vm (.inr (Oc g3.2))
 have notboth:∀o:Oper,IC o=true->Md o=true->False:=λo h1 h2=>by
  unfold IC at h1;split at h1
  ·rename_i ho;simp [Md,ho] at h2
  ·rename_i ho;simp [Md,ho] at h2
  ·cases h1
 simp only [FI,hx,hy,g1,g2,sx,sy,Bool.and_self,Bm] at h|-;rw [T.all_bind] at h|-;rcases g3 with (⟨g3,g4⟩ |⟨g3,g4⟩) |⟨g3,g4⟩
 ·have nx:¬Et ops i x=true:=λe=>notboth x (Oc e) g3
  simp only [Fm,AE g4,AD nx] at h|-;rw [T.all_bind] at h
  have h2:=T.BT (λz hz=>by
   simp only [T.all] at hz;rw [T.all_bind,aIQ g3 a3] at hz;exact hz) h
  refine T.BT (λq hq=>?_) (T.swap h2)
  rw [T.all_bind,T.all_bind,Pw a1];refine T.BT (λz hz=>?_) hq
  simp only [T.all]
  rwa [Kx a2]
 ·have ny:¬Et ops j y=true:=λe=>notboth y (Oc e) g4
  simp only [Fm,AE g3,AD ny] at h|-;rw [T.all_bind]
  have h2:=T.BT (λz hz=>by
   rw [T.all_bind,T.all_bind,Pw a3] at hz;exact hz) h
  refine T.BT (λq hq=>?_) (T.swap h2)
  simp only [T.all];rw [T.all_bind,aIQ g4 a1];refine T.BT (λz hz=>?_) hq
  rwa [Kx a2]
 ·simp only [Fm,AE g3,AE g4] at h|-
  rw [T.all_bind] at h|-
  have h2:=T.BT (λz hz=>by
   simp only [T.all] at hz;rw [T.all_bind,T.all_bind,Pw a3] at hz;exact hz) h
  refine T.BT (λq hq=>?_) (T.swap h2)
  simp only [T.all];rw [T.all_bind,T.all_bind,Pw a1];refine T.BT (λz hz=>?_) hq
  simp only [T.all] at hz|-
  rwa [Kx a2]
def mP {ops:Array Oper}{o:Oper}{d:Option Tmp}{y:LV}(hs:∀cs b,o.op≠ .select cs b) (h:∀t,d=some t->t∉o.looksAt ops):DY P G (Al F d y) o=DY P G F o:=by
 have hl:=looks h
 have e:∀x∈o.op.operands,AL G (Al F d y) x=AL G F x:=λx hx=>FM (hl x hx)
 unfold DY
 have e1:o.op.operands.toList.all (λx=>Rk (AL G (Al F d y) x))=o.op.operands.toList.all (λx=>Rk (AL G F x)):=by
  grind
 have e3:o.op.operands.toList.all (λx=>aO (AL G (Al F d y) x))=o.op.operands.toList.all (λx=>aO (AL G F x)):=by
  grind
 have e2:O1 P o (λx=>(pl (AL G (Al F d y) x)).getD undef)=O1 P o (λx=>(pl (AL G F x)).getD undef):=by
  have c:=jO (ρ:=λx=>(pl (AL G (Al F d y) x)).getD undef) (ρ':=λx=>(pl (AL G F x)).getD undef) o hs (λx hx=>AA)
  unfold O1;rw [c]
  have a:QD P o.op (λx=>(pl (AL G (Al F d y) x)).getD undef)=QD P o.op (λx=>(pl (AL G F x)).getD undef):=by
   exact aKd
  rw [a]
 grind
def ae9 {ops:Array Oper}{o:Oper}{d:Option Tmp}{y:LV}(h:∀t,d=some t->t∉o.looksAt ops):pux P G Γ (Al F d y) o=pux P G Γ F o:=by
 have hl:=looks h
 have e:∀x∈o.op.operands,AL G (Al F d y) x=AL G F x:=λx hx=>FM (hl x hx)
 unfold pux;split
 ·exact aM5
 ·exact aM5
 ·rename_i c x z ho;rw [e c Ey,e x Ey,e z Ey]
 ·rename_i t x ho;rw [e x Ey]
 ·rename_i s x i ho;rw [e x Ey]
 ·rename_i t x i ho;rw [e x Ey,e i Ey]
 ·rename_i t parts ho
  congr 1
  refine JG λq hq=>?_
  have e':=e q.2 xd
  have:Hb G (Al F d y) q.2=Hb G F q.2:=by
   generalize q.2=x at e';cases x<;>first|rfl|exact e'
  rw [this]
 ·exact Pw h
 ·exact Pw h
 ·rename_i ho;exact mP (λcs b e=>AA) h
 ·rename_i op _ _ _ _ ho
  split
  ·rfl
  ·rfl
  ·rfl
  ·rfl
  ·exact mP (λcs b e=>AA) h
 ·rfl
def aeC {d:Option Tmp}{y:LV}{x:Operand}(h:AL G (Al F d y) x=AL G F x):Hb G (Al F d y) x=Hb G F x:=by
 cases x<;>simp only [Hb,h]
def hpx (P:Program) (G:Av) (F:List LV) (H:List AB) (o:Oper):T LV:=
 match o.op with
 | .move x=> .ok (AL G F x)
 | .assign x=> .ok (AL G F x)
 | .load t x=>F7 P H t (AL G F x)
 | .indexAddr t x i=>TA P t (AL G F x) (Uu (AL G F i)) (AL G F i)
 | .fieldAddr s x i=>Wa P s (AL G F x) i
 | .extract x i=>(match AL G F x with
  | .AM l=>(match l[i]? with
   |some y=> .ok y
   |none=> .no)
  |_=>DY P G F o)
 | .binOp ..=>DY P G F o
 | .call ..=>DY P G F o
 | .build t parts=>NK P t (parts.toList.map λq=>(q.1,Hb G F q.2))
 |_=> .no
def oq {o:Oper}(h:(It o ||JZ o)=true):(∃x,o.op=.move x)\/(∃x,o.op=.assign x)\/(∃t x,o.op=.load t x)\/(∃t x i,o.op=.indexAddr t x i)\/(∃t x y u,o.op=.binOp .add t x y u)\/(∃t x y u,o.op=.binOp .sub t x y u)\/(∃x i,o.op=.extract x i)\/(∃x i,o.op=.call {callee:=.builtin .max,args:=x,argTypes:=i})\/(∃x i,o.op=.call {callee:=.builtin .min,args:=x,argTypes:=i})\/(∃s x i,o.op=.fieldAddr s x i)\/(∃t x y u,o.op=.binOp .mul t x y u)\/(∃t ps,o.op=.build t ps):=by
 rcases SF.1 h with h|h
 ·unfold It at h
  split at h
  ·grind
  ·grind
  ·grind
  ·grind
  ·grind
  ·grind
  ·grind
  ·grind
  ·rename_i ho
   split at h
   ·grind
   ·grind
   ·grind
   ·cases h
  ·cases h
 ·unfold JZ at h
  exact jx
def aym {ops:Array Oper}{k:Nat}{o:Oper}(h:(It o ||JZ o)=true):Fm P G Γ ops k F H o=(hpx P G F H o).bind λy=> .ok (y,H):=by
 rcases oq h with ⟨x,ho⟩ |⟨x,ho⟩ |⟨t,x,ho⟩ |⟨t,x,i,ho⟩ |⟨t,x,y,u,ho⟩ |⟨t,x,y,u,ho⟩ |⟨x,i,ho⟩ |⟨x,i,ho⟩ |⟨x,i,ho⟩ |⟨t,x,i,ho⟩ |⟨t,x,y,u,ho⟩ |⟨t,ps,ho⟩
 case inr.inr.inr.inr.inr.inr.inl=>
  unfold Fm Et IC Ap hpx;simp only [ho,O5,HP,FL];generalize AL G F x=v;cases v
  case AM l=>
   dsimp only;cases l[i]? <;>rfl
  all_goals rfl
 all_goals (unfold Fm Et IC Ap hpx;simp [ho,T.bind])
def nH {ops:Array Oper}{o:Oper}{d:Option Tmp}{y:LV}(hh:(It o ||JZ o)=true) (h:∀t,d=some t->t∉o.looksAt ops):hpx P G (Al F d y) H o=hpx P G F H o:=by
 have hl:=looks h
 rcases oq hh with ⟨x,ho⟩ |⟨x,ho⟩ |⟨t,x,ho⟩ |⟨t,x,i,ho⟩ |⟨t,x,z,u,ho⟩ |⟨t,x,z,u,ho⟩ |⟨x,i,ho⟩ |⟨x,i,ho⟩ |⟨x,i,ho⟩ |⟨t,x,i,ho⟩ |⟨t,x,z,u,ho⟩ |⟨t,ps,ho⟩
 ·exact jz
 ·exact jz
 ·exact jz
 ·unfold hpx;simp only [ho]
  rw [FM (hl x Ey),FM (hl i Ey)]
 ·exact we
 ·exact we
 ·unfold hpx;simp only [ho]
  rw [FM (hl x Ey),mP (λcs b e=>AA) h]
 ·exact aM2
 ·exact aM2
 ·exact jz
 ·exact we
 ·unfold hpx;simp only [ho]
  have em:(ps.toList.map λq=>(q.1,Hb G (Al F d y) q.2))=ps.toList.map λq=>(q.1,Hb G F q.2):=JG λq hq=>by
   exact aKg
  rw [em]
def aPK {o:Oper}{H':List AB}(h:It o=true):hpx P G F H o=hpx P G F H' o:=by
 unfold hpx;cases ho:o.op<;>simp_all [It]
def bI {o:Oper}{tr:List Nat}{n0:Nat}(h:(It o ||JZ o)=true) (F:List LV):CK G F tr n0 o=true:=by
 rcases oq h with ⟨x,ho⟩ |⟨x,ho⟩ |⟨t,x,ho⟩ |⟨t,x,i,ho⟩ |⟨t,x,y,u,ho⟩ |⟨t,x,y,u,ho⟩ |⟨x,i,ho⟩ |⟨x,i,ho⟩ |⟨x,i,ho⟩ |⟨t,x,i,ho⟩ |⟨t,x,y,u,ho⟩ |⟨t,ps,ho⟩<;>simp [CK,EX,ho]
def aDg {ops:Array Oper}{k:Nat}{o:Oper}{d:Option Tmp}{y:LV}(hh:fk o=true) (h:∀t,d=some t->t∉o.looksAt ops):Fm P G Γ ops k (Al F d y) H o=Fm P G Γ ops k F H o/\∀tr n0,CK G (Al F d y) tr n0 o=CK G F tr n0 o:=by
 have hl:=looks h
 unfold fk at hh;split at hh
 ·rename_i t x z ho
  have e1:=FM (G:=G) (F:=F) (y:=y) (hl x Ey)
  have e2:=FM (G:=G) (F:=F) (y:=y) (hl z Ey)
  refine ⟨?_,λtr n0=>?_⟩
  ·unfold Fm Et IC Ap
   simp only [ho,O5,HP,FL];rw [e1,e2]
  ·unfold CK EX
   simp only [ho];rw [e1]
 ·rename_i t ho
  refine ⟨?_,λtr n0=>?_⟩
  ·unfold Fm Et IC Ap
   grind
  ·unfold CK EX
   grind
 ·rename_i t x ho
  have e1:=FM (G:=G) (F:=F) (y:=y) (hl x Ey)
  refine ⟨?_,λtr n0=>?_⟩
  ·unfold Fm Et IC Ap
   simp only [ho,O5,HP,FL];rw [e1]
  ·unfold CK EX
   grind
 ·cases hh
def dh {ops:Array Oper}{k:Nat}{o:Oper}(h:Et ops k o=true):Fm P G Γ ops k F H o=(IM P G Γ F o).bind λy=> .ok (y,H):=by
 unfold Fm
 grind
def aED {ops:Array Oper}{k:Nat}{o:Oper}{d:Option Tmp}{y:LV}(hh:LZ o=true) (h:∀t,d=some t->t∉o.looksAt ops):Fm P G Γ ops k (Al F d y) H o=Fm P G Γ ops k F H o/\∀tr n0,CK G (Al F d y) tr n0 o=CK G F tr n0 o:=by
 have hl:=looks h
 unfold LZ at hh;split at hh
 ·rename_i args tys ho
  have e:args.toList.map (AL G (Al F d y))=args.toList.map (AL G F):=JG λx hx=>FM (hl x Zo)
  refine ⟨?_,λtr n0=>?_⟩
  ·unfold Fm Et IC Ap
   simp only [ho,O5,HP,FL];rw [e]
  ·unfold CK EX
   exact SR
 ·cases hh
def T.Sh {α:Type}{A:Prop}:∀ {t:T α},t.all (λ_=>A)->A
 | .ok _,h=>h
 | .br b x y,h=>by
  cases b with
  |true=>exact T.Sh (t:=x) (h.1 rfl)
  |false=>exact T.Sh (t:=y) (h.2 rfl)
 | .req _ x,h=>T.Sh (t:=x) h.2
 | .no,h=>h.elim
def amG {ops:Array Oper}{tr:List Nat}{n0:Nat}{i j:Nat}{is:List Nat}{K:List LV×List AB->Prop}(hc:Qk ops i j=true) (h:(FI P G Γ ops tr n0 (j::i::is) F H).all K):(FI P G Γ ops tr n0 (i::j::is) F H).all K:=by
 unfold Qk at hc;split at hc
 ·rename_i x y hx hy
  simp only [AU,Cr] at hc;obtain ⟨⟨⟨g1,g2⟩,g3⟩,hap⟩:=hc;obtain ⟨a1,a2,a3⟩:=ZZ hap
  have step:∀(k:Nat) (o:Oper) (l:List Nat) (F:List LV) (H:List AB),ops[k]? =some o->o.guard.isNone=true->((FI P G Γ ops tr n0 (k::l) F H).all K↔(CK G F tr n0 o=true/\(Fm P G Γ ops k F H o).all (λq=>(FI P G Γ ops tr n0 l (Al F o.dst q.1) q.2).all K))):=λk o l F H hk hg=>by
   simp only [FI,hk,hg,Dj];split
   ·rename_i hs
    rw [T.all_bind];simp only [hs,E9]
   ·rename_i hs
    constructor
    ·exact λh=>h.elim
    ·grind
  have hpS:∀(k:Nat) (o:Oper) (F:List LV) (H:List AB) (K:LV×List AB->Prop),(It o ||JZ o)=true->((Fm P G Γ ops k F H o).all K↔(hpx P G F H o).all (λv=>K (v,H))):=λk o F H K ho=>by
   rw [aym ho,T.all_bind];rfl
  rcases g3 with ((((g3|g3) |g3) |g3) |g3) |g3
  ·exact agF x y hx hy g1 g2 g3 hap h
  ·have gx:=SF.2 g3.1
   have gy:=SF.2 g3.2
   rw [step _ _ _ _ _ hy g2,hpS j y _ _ _ gy] at h;rw [step _ _ _ _ _ hx g1,hpS i x _ _ _ gx];refine ⟨bI gx F,?_⟩
   have h2:=T.BT (λv hv=>by
    rw [step _ _ _ _ _ hx g1,hpS i x _ _ _ gx,nH gx a3] at hv;exact hv.2) h.2
   refine T.BT (λu hu=>?_) (T.swap h2)
   rw [step _ _ _ _ _ hy g2,hpS j y _ _ _ gy,nH gy a1];refine ⟨bI gy _,T.BT (λv hv=>?_) hu⟩
   rw [Kx a2];exact hv
  ·obtain ⟨gx,gy⟩:=g3
   have gx':(It x ||JZ x)=true:=by rw [gx];rfl
   rw [step _ _ _ _ _ hy g2] at h;rw [step _ _ _ _ _ hx g1,hpS i x _ _ _ gx'];refine ⟨bI gx' F,?_⟩
   have h2:=T.BT (λq hq=>by
    rw [step _ _ _ _ _ hx g1,hpS i x _ _ _ gx',nH gx' a3,aPK (H':=H) gx] at hq;exact hq.2) h.2
   refine T.BT (λu hu=>?_) (T.swap h2)
   obtain ⟨e1,e2⟩:=aDg (P:=P) (G:=G) (Γ:=Γ) (F:=F) (H:=H) (y:=u) gy a1;rw [step _ _ _ _ _ hy g2,e1,e2];refine ⟨h.1,T.BT (λq hq=>?_) hu⟩
   rw [Kx a2];exact hq
  ·obtain ⟨gx,gy⟩:=g3
   have gy':(It y ||JZ y)=true:=by rw [gy];rfl
   rw [step _ _ _ _ _ hy g2,hpS j y _ _ _ gy'] at h
   have h2:=T.BT (λv hv=>by
    obtain ⟨e1,e2⟩:=aDg (P:=P) (G:=G) (Γ:=Γ) (F:=F) (H:=H) (y:=v) gx a3;rw [step _ _ _ _ _ hx g1,e1,e2] at hv;exact hv) h.2
   rw [step _ _ _ _ _ hx g1];refine ⟨T.Sh (T.BT (λv hv=>hv.1) h2),?_⟩
   have h3:=T.BT (λv hv=>hv.2) h2
   refine T.BT (λq hq=>?_) (T.swap h3)
   rw [step _ _ _ _ _ hy g2,hpS j y _ _ _ gy',nH gy' a1,aPK (H':=H) gy];refine ⟨bI gy' _,T.BT (λv hv=>?_) hq⟩
   rw [Kx a2];exact hv
  ·obtain ⟨gx,gy⟩:=g3
   rw [step _ _ _ _ _ hy g2] at h;rw [step _ _ _ _ _ hx g1,dh gx,T.all_bind];refine ⟨aBS (.inr (Oc gx)),?_⟩
   have h2:=T.BT (λq hq=>by
    rw [step _ _ _ _ _ hx g1,dh gx,T.all_bind,Pw a3] at hq;exact hq.2) h.2
   refine T.BT (λu hu=>?_) (T.swap h2)
   obtain ⟨e1,e2⟩:=aED (P:=P) (G:=G) (Γ:=Γ) (F:=F) (H:=H) (y:=u) gy a1
   (try simp only [T.all] at hu)
   (try simp only [T.all])
   rw [step _ _ _ _ _ hy g2,e1,e2];refine ⟨h.1,T.BT (λq hq=>?_) hu⟩
   (try simp only at hq)
   (try simp only)
   rw [Kx a2];exact hq
  ·obtain ⟨gx,gy⟩:=g3
   rw [step _ _ _ _ _ hy g2,dh gy,T.all_bind] at h
   have h2:=T.BT (λv hv=>by
    obtain ⟨e1,e2⟩:=aED (P:=P) (G:=G) (Γ:=Γ) (F:=F) (H:=H) (y:=v) gx a3
    (try simp only [T.all] at hv)
    rw [step _ _ _ _ _ hx g1,e1,e2] at hv;exact hv) h.2
   rw [step _ _ _ _ _ hx g1];refine ⟨T.Sh (T.BT (λv hv=>hv.1) h2),?_⟩
   have h3:=T.BT (λv hv=>hv.2) h2
   refine T.BT (λq hq=>?_) (T.swap h3)
   rw [step _ _ _ _ _ hy g2,dh gy,T.all_bind,Pw a1];refine ⟨aBS (.inr (Oc gy)),T.BT (λv hv=>?_) hq⟩
   (try simp only [T.all] at hv)
   (try simp only [T.all])
   rw [Kx a2];exact hv
 ·cases hc
def amH {ops:Array Oper}{tr:List Nat}{n0:Nat}{j:Nat}{R R':List Nat}{K:List LV×List AB->Prop}(hh:∀(F:List LV) (H:List AB),(FI P G Γ ops tr n0 R F H).all K->(FI P G Γ ops tr n0 R' F H).all K) (h:(FI P G Γ ops tr n0 (j::R) F H).all K):(FI P G Γ ops tr n0 (j::R') F H).all K:=by
 simp only [FI] at h|-;exact wo
def aCx {ops:Array Oper}{tr:List Nat}{n0:Nat}{i:Nat}{K:List LV×List AB->Prop}:∀(R:List Nat) (F:List LV) (H:List AB),i∈R->(FY i R).all (λj=>Qk ops i j)=true->(FI P G Γ ops tr n0 R F H).all K->(FI P G Γ ops tr n0 (i::R.erase i) F H).all K
 | [],_,_,hi,_,_=>kg
 | j::R,F,H,hi,hb,h=>by
  by_cases hj:j=i
  ·subst hj
   grind
  ·have hi':i∈R:=by
    exact xK
   simp only [FY,AD hj,IT,AU] at hb;rw [V0 AA];exact amG hb.1 (amH (λF H h=>aCx R F H hi' hb.2 h) h)
def amb {t:TypeId}{len:Nat}{l:List (Nat×LV)}{K:LV->Prop}(h:(LN P t len l).all K):¬len=0:=by
 unfold LN at h
 rintro rfl
 split at h
 ·split at h
  ·split at h
   ·omega
   ·cases h
  ·cases h
 ·cases h
def afL {t:TypeId}{len:Nat}{l:List (Nat×LV)}{K:LV->Prop}(h:(LN P t len l).all K):cD P t=true:=by
 unfold LN at h;unfold cD;split at h
 ·rename_i e hu
  split at h
  ·rename_i ty m z h1 h2 h3
   simp [h1]
  ·cases h
 ·cases h
def aFb {o:Oper}{lv:LV}(hm:IC o=true) (h:(IM P G Γ F o).all (λz=>z=lv)):(Ap P G Γ F H o).all (λq=>q=(lv,H)):=by
 unfold IM at h;split at h
 ·rename_i t len parts ho
  split at h
  ·cases h
  rename_i hrl;split at h
  ·rename_i hno
   unfold Ap;simp only [ho];rw [AD (amb h),AE (afL h),AD hrl,AE hno,T.all_bind];exact aMG
  ·cases h
 ·rename_i f args ty ho
  unfold Ap;simp only [ho];split at h
  ·rename_i g cap hf
   split at h
   ·rename_i fn hfn
    split at h
    ·rename_i hb
     split at h
     ·rename_i S hS
      split at h
      ·rename_i hno
       simp only [hf,L9,hfn,hb,Bm,hS,hno];rw [T.all_bind];exact aMG
      ·cases h
     ·cases h
    ·cases h
   ·cases h
  ·cases h
 ·cases h
def aFd {l:Array Bool}{i j:Nat}{d:Bool}:(l.setIfInBounds i true).getD j d=if i=j/\i<l.size then true else l.getD j d:=by
 by_cases e:i=j
 ·subst e
  by_cases h:i<l.size
  ·simp [h]
  ·simp [h]
 ·simp [e]
def tF {l:Array Bool}{i:Nat}(h:l.getD i true=false):i<l.size/\l.getD i false=false:=by
 rw [jF] at h|-;cases hq:l[i]? with
 |none=>rw [hq] at h;cases h
 |some b=>
  grind
def pL {i:Nat}:∀ {R:List Nat}{j:Nat},j∈FY i R->j∈R/\j≠i
 | [],_,h=>Ah
 | k::R,j,h=>by
  simp only [FY] at h;split at h
  ·cases h
  ·rename_i hk
   rcases B1.1 h with rfl|h
   ·grind
   ·exact ⟨SE _ (pL h).1,(pL h).2⟩
def aDS {p:Nat->Nat->Prop}{i:Nat}:∀ {R:List Nat}{j:Nat},R.Pairwise p->i∈R->j∈FY i R->p j i
 | [],_,_,h,_=>Ah
 | k::R,j,hp,hi,hj=>by
  rw [ja] at hp;simp only [FY] at hj;split at hj
  ·cases hj
  ·rename_i hk
   have hi2:i∈R:=by
    rcases B1.1 hi with e|hi
    ·grind
    ·exact hi
   rcases B1.1 hj with rfl|hj
   ·grind
   ·exact aDS hp.2 hi2 hj
def aCl {i k q:Nat}(hk:k≠i) (hq:q≠i):∀ {R:List Nat},q∈FY k R->q∈FY k (R.erase i)
 | [],h=>Ah
 | x::R,h=>by
  simp only [FY] at h;split at h
  ·cases h
  ·rename_i hx
   by_cases e:x=i
   ·subst e
    rw [List.erase_cons_head];rcases B1.1 h with rfl|h
    ·grind
    ·exact h
   ·rw [V0 AA]
    simp only [FY,AD hx];rcases B1.1 h with rfl|h
    ·simp
    ·exact SE _ (aCl hk hq h)
inductive KX (ops:Array Oper) (R:List Nat):Nat->Nat->Prop
 |dir {i j:Nat}:preB ops i j=true->KX ops R i j
 |step {i p j:Nat}:p∈R->preB ops i p=true->KX ops R p j->KX ops R i j
def KX.aD1 {ops:Array Oper}{R:List Nat}{listed:Array Bool}(hm:∀i,i∈R↔listed.getD i true=false) {i j:Nat}(hi:i∈Region.ready .any ops listed) (hj:j∈R) (h:KX ops R i j):False:=by
 have no:∀p,preB ops i p=true->p∈R->False:=λp h hp=>by
  obtain ⟨_,o,ho,r2⟩:=Eh.1 hi;unfold preB at h;rw [ho] at h;simp only [O9,AU] at h;obtain ⟨e,he,hb,hq⟩:=h
  have hq:e.on=p:=AA
  have h3:=r2 e AA hb
  rw [hq] at h3
  have h4:=(tF ((hm p).1 hp)).2
  rw [h3] at h4;cases h4
 cases h with
 |dir h=>exact no _ h hj
 |step hp h _=>exact no _ h hp
def KX.erase {ops:Array Oper}{R:List Nat}{listed:Array Bool}(hm:∀i,i∈R↔listed.getD i true=false) (hnd:R.Nodup) {k:Nat}(hk:k∈Region.ready .any ops listed) {i j:Nat}(h:KX ops R i j) (hj:j∈R):KX ops (R.erase k) i j:=by
 induction h with
 |dir h=>exact .dir h
 |step hp h hr ih=>exact .step (hnd.mem_erase_iff.2 ⟨λe=>by subst e;exact KX.aD1 hm hk hj hr,hp⟩) h (ih hj)
def aFn {ops:Array Oper}{R:List Nat}:∀ {n i j:Nat},fU ops R n i j=true->KX ops R i j
 |0,_,_,h=> .dir h
 |n+1,_,_,h=>by
  simp only [fU,Cr,O9,AU] at h;rcases h with h|⟨p,hp,h1,h2⟩
  ·exact .dir h
  ·exact .step hp h1 (aFn h2)
structure alR (ops:Array Oper) (R:List Nat) (listed:Array Bool):Prop where
 nd:R.Nodup
 mem:∀i,i∈R↔listed.getD i true=false
 pr:R.Pairwise λj i=>KX ops R i j\/Qk ops i j=true
 tp:∀i∈R,∃o,ops[i]? =some o/\∀e∈o.after,Region.binds .any e=true->listed.getD e.on false=true\/e.on∈FY i R
def aOl {ops:Array Oper}:∀(n:Nat) (R:List Nat) (listed:Array Bool),R.length=n->alR ops R listed->LW ops n R listed=true
 |0,R,listed,hn,I=>by
  have e:=List.eq_nil_of_length_eq_zero hn
  subst e;simp only [LW,List.isEmpty_nil,Dj,ZX];refine wE.2 λi hi=>?_
  exact absurd ((I.mem i).2 (Eh.1 hi).1) AJ
 | n +1,R,listed,hn,I=>by
  simp only [LW,AU,BL,D4,jG];refine ⟨λh0=>?_,λi hi=>?_⟩
  ·match R,hn,I with
   | k::R,_,I=>
    obtain ⟨o,ho,h1⟩:=I.tp k AJ
    have:k∈Region.ready .any ops listed:=Eh.2 ⟨(I.mem k).1 AJ,o,ho,λe he hb=>by
     rcases h1 e he hb with h2|h2
     ·exact h2
     ·simp [FY] at h2⟩
    rw [h0] at this;cases this
  ·obtain ⟨r1,o,ho,r2⟩:=Eh.1 hi
   have hR:=(I.mem i).2 r1
   refine ⟨⟨AA,λj hj=>?_⟩,aOl n _ _ AA ⟨I.nd.erase i,λj=>?_,(I.pr.sublist List.erase_sublist).imp_of_mem λ{a b} ha _ h=>h.imp_left λh=>h.erase I.mem I.nd hi (PY ha),λk hk=>?_⟩⟩
   ·obtain ⟨j1,j2⟩:=pL hj
    rcases aDS I.pr hR hj with h|h
    ·exact (KX.aD1 I.mem hi j1 h).elim
    ·exact h
   ·rw [I.nd.mem_erase_iff,I.mem j,aFd]
    have hb:=(tF r1).1
    by_cases e:i=j
    ·subst e
     simp [hb]
    ·grind
   ·have hk':=I.nd.mem_erase_iff.1 hk
    obtain ⟨o',ho',h1⟩:=I.tp k hk'.2;refine ⟨o',ho',λe he hb=>?_⟩
    rw [aFd]
    by_cases q:i=e.on
    ·left
     grind
    ·rw [AD (λh=>q h.1)]
     rcases h1 e he hb with h2|h2
     ·grind
     ·exact .inr (aCl hk'.1 (OC q) h2)
def aGM:∀ {l:List Nat},lM l=true->l.Nodup
 | [],_=>List.nodup_nil
 |x::l,h=>by
  simp only [lM,AU,D4,List.contains_eq_mem,Cl] at h;exact Ly.2 ⟨h.1,aGM h.2⟩
def aCv {ops:Array Oper}{R0:List Nat}:∀ {R:List Nat},cu ops R0 R=true->R.Pairwise λj i=>KX ops R0 i j\/Qk ops i j=true
 | [],_=>List.Pairwise.nil
 |j::R,h=>by
  simp only [cu,AU,BL,Cr] at h;exact ja.2 ⟨λi hi=>(h.1 i hi).symm.imp_left aFn,aCv h.2⟩
def aOk {ops:Array Oper}{R:List Nat}{listed:Array Bool}(h:lE ops R listed=true):LW ops R.length R listed=true:=by
 unfold lE aaX at h;simp only [AU,BL,I3] at h;obtain ⟨h1,h2,h3,h4,h5,h6⟩:=h
 have h2:listed.size=ops.size:=AA
 refine aOl _ R listed rfl ⟨aGM h1,λi=>?_,aCv h5,λi hi=>?_⟩
 ·by_cases hi:i<ops.size
  ·have:=h3 i hi
   constructor
   ·intro hm
    grind
   ·intro hm
    grind
  ·constructor
   ·intro hm
    grind
   ·intro hm
    have:=(tF hm).1
    omega
 ·have:=h6 i hi
  split at this
  ·rename_i o ho
   refine ⟨o,ho,λe he hb=>?_⟩
   grind
  ·cases this
def aBJ (hΓ:∀g S,Γ g=some S->Valid P G g S) {ops:Array Oper}{tr:List Nat}{D:World->Prop}{sp:Nat->Bool}{Q:Act->Gh->Prop}{F':List LV}{H':List AB}
  (hQ:∀g:Gh,g.F=F'->g.H=H'->Q g.a g):∀(n:Nat) (R:List Nat) (listed:Array Bool) (g:Gh),(∀i∈R,sp i=true)->LW ops n R listed=true->
   (FI P G Γ ops tr H.length R g.F g.H).all (λq=>q=(F',H'))->KA P .any ops D (CY ds G w0 Z0 tr β H wr) sp Q n listed g.a g
 |0,R,listed,g,_,hB,h=>by
  simp only [LW,AU,ZX] at hB;obtain ⟨rfl,h2⟩:=hB;simp only [FI,T.all,Aq] at h;exact ⟨h2,hQ g h.1 h.2⟩
 | n +1,R,listed,g,hs,hB,h=>by
  simp only [LW,AU,BL,D4,jG] at hB;obtain ⟨hne,hall⟩:=hB;refine ⟨λh0=>absurd h0 hne,λi hi=>?_⟩
  obtain ⟨⟨hR,hbef⟩,hrest⟩:=hall i hi
  have hiR:i∈R:=AA
  have hf:=aCx R g.F g.H hiR AA h
  simp only [FI] at hf;split at hf
  ·rename_i o ho
   split at hf
   ·rename_i hgs
    simp only [AU,ZR] at hgs;obtain ⟨hgd,hst⟩:=hgs
    have hw:Region.wanted o (yielded ops g.a.tmps)=true:=xg
    unfold Dr;simp only [ho,hw,Bm,hs i hiR];obtain ⟨⟨lv,H1⟩,h1,h2⟩:=T.Ay hf
    have h1':(Ap P G Γ g.F g.H o).all (λq=>q=(lv,H1)):=by
     unfold Fm at h1;split at h1
     ·rename_i hm
      obtain ⟨y,k1,k2⟩:=T.Ay h1;obtain ⟨rfl,rfl⟩:=k2;exact aFb (Oc hm) k1
     ·exact h1
    intro w' hc;refine Jx (λv w'' ⟨g',e1,e2,e3,e4⟩=>⟨g',e1,?_⟩) (bq hΓ hst h1' hc)
    rw [<-e4];refine aBJ hΓ hQ n (R.erase i) _ g' (λj hj=>hs j (PY hj)) hrest ?_
    rwa [e2,e3]
   ·cases hf
  ·cases hf
def T.Ev {α:Type}(t:T α) (K:α->Prop):Prop:=∀K1:α->Prop,t.all K1->t.all (λq=>K1 q/\K q)
def T.UL {α:Type}{x:α}{K:α->Prop}(h:K x):T.Ev (.ok x) K:=λ_ h1=>⟨h1,h⟩
def T.KH {α:Type}{K:α->Prop}:T.Ev (.no:T α) K:=λ_ h1=>h1.elim
def T.aR8 {α:Type}{p:Prop}{t:T α}{K:α->Prop}(h:T.Ev t K):T.Ev (.req p t) K:=λ_ h1=>⟨h1.1,h _ h1.2⟩
def T.cP {α γ:Type}{t:T α}{f:α->T γ}{K:γ->Prop}(h:∀x,T.Ev (f x) K):T.Ev (t.bind f) K:=λK1 h1=>by
 rw [T.all_bind] at h1|-;exact T.BT (λx hx=>h x _ hx) h1
def Gr (H H':List AB):Prop:=∀(k:Nat) (b:AB),H'[k]? =some b->b.Dl=true->∃b0:AB,H[k]? =some b0/\b0.Dl=true/\b0.c=b.c
def Gr.refl (H:List AB):Gr H H:=λ_ b h1 h2=>⟨b,h1,h2,rfl⟩
def Gr.snoc {H H':List AB}(h:Gr H H') {nb:AB}(hn:nb.Dl=false):Gr H (H'++[nb]):=λk b h1 h2=>by
 rw [List.getElem?_append] at h1;split at h1
 ·exact h k b h1 h2
 ·cases e:k-H'.length with
  |zero=>
   grind
  |succ n=>rw [e] at h1;simp at h1
def Gr.set {H:List AB}{k:Nat}{nb:AB}(hn:nb.Dl=false):Gr H (H.set k nb):=λj b h1 h2=>by
 rw [HI] at h1;split at h1
 ·split at h1
  ·simp only [Ad] at h1
   grind
  ·cases h1
 ·grind
def Gr.pub (ks:List Nat) {H:List AB}:Gr H (FR ks 0 H):=λk b h1 h2=>by
 rw [bT] at h1;cases e:H[k]? with
 |none=>rw [e] at h1;cases h1
 | some b0=>
  rw [e] at h1;simp only [JH,Ad] at h1;refine ⟨b0,rfl,?_,?_⟩
  ·rw [<-h1] at h2
   split at h2
   ·exact h2
   ·exact h2
  ·rw [<-h1]
   grind
def agL {H:List AB}{t:TypeId}{k off:Nat}:(∃v,F7 P H t (.own k off)=.ok v)\/F7 P H t (.own k off)=.no:=by
 generalize hx:F7 P H t (.own k off)=x;unfold F7 at hx;cases e:H[k]? with
 |none=>
  grind
 | some b=>
  simp only [e] at hx;split at hx
  ·split at hx
   ·grind
   ·grind
  ·split at hx
   ·split at hx
    ·grind
    ·grind
   ·grind
  ·grind
def afJ {H H':List AB}(hk:Gr H H') {t:TypeId}{k off:Nat}{v:LV}(h:F7 P H' t (.own k off)=.ok v):F7 P H t (.own k off)=.ok v:=by
 unfold F7 at h|-;cases e:H'[k]? with
 |none=>
  grind
 | some b=>
  simp only [e] at h;cases ec:b.Dl with
  |false=>
   grind
  |true=>
   obtain ⟨b0,e0,e1,e2⟩:=hk k b e ec;simp only [e0,e1,e2];simp only [ec] at h;exact h
def ag7 {H:List AB}{t tx:TypeId}{x y:LV}:T.Ev (L3 P H t tx x y) (λq=>Gr H q.2):=by
 unfold L3;split
 ·split
  ·split
   ·refine T.cP λq=>?_
    split
    ·exact T.aR8 (T.UL ((Gr.refl H).snoc rfl))
    ·split
     ·split
      ·split
       ·exact T.aR8 (T.UL ((Gr.set rfl).snoc rfl))
       ·exact T.KH
      ·exact T.KH
     ·exact T.KH
    ·exact T.KH
   ·exact T.KH
  ·exact T.KH
 ·exact T.KH
def akw {o:Oper}(h:Uv P o=true):T.Ev (Ap P G Γ F H o) (λq=>Gr H q.2):=by
 unfold Uv at h;split at h
 ·rename_i args tys ho
  unfold Ap;simp only [ho];split
  ·exact ag7
  ·exact T.KH
 ·rename_i t len parts ho
  unfold Ap;simp only [ho];split
  ·split
   ·unfold Wc
    split
    ·exact T.UL ((Gr.refl H).snoc rfl)
    ·exact T.KH
   ·exact T.KH
  ·rename_i hl
   have ht:cD P t=true:=AA
   rw [AE ht];split
   ·unfold aM
    split
    ·refine T.cP λy=>?_
     split
     ·exact T.UL ((Gr.pub _).snoc rfl)
     ·exact T.KH
    ·exact T.KH
   ·split
    ·exact T.cP λy=>T.UL (Gr.refl H)
    ·unfold lL
     split
     ·exact T.cP λy=>T.UL (Gr.pub _)
     ·exact T.KH
 ·cases h
def asP {ops:Array Oper}{o:Oper}{d:Option Tmp}{y:LV}(hh:Uv P o=true) (h:∀t,d=some t->t∉o.looksAt ops):Ap P G Γ (Al F d y) H o=Ap P G Γ F H o/\∀tr n0,CK G (Al F d y) tr n0 o=CK G F tr n0 o:=by
 have hl:=looks h
 unfold Uv at hh;split at hh
 ·rename_i args tys ho
  have e:args.toList.map (AL G (Al F d y))=args.toList.map (AL G F):=JG λx hx=>FM (hl x Zo)
  refine ⟨?_,λtr n0=>?_⟩
  ·unfold Ap
   exact SR
  ·unfold CK EX
   exact SR
 ·rename_i t len parts ho
  have e:(parts.toList.map λq=>(q.1,AL G (Al F d y) q.2))=parts.toList.map λq=>(q.1,AL G F q.2):=JG λq hq=>by
   rw [FM (hl q.2 aMU)]
  refine ⟨?_,λtr n0=>?_⟩
  ·unfold Ap
   exact SR
  ·unfold CK EX
   grind
 ·cases hh
def amD {ops:Array Oper}{tr:List Nat}{n0:Nat}{i j:Nat}{is:List Nat}{K:List LV×List AB->Prop}(hc:fe P ops i j=true) (h:(Gg P G Γ ops tr n0 (j::i::is) F H).all K):(Gg P G Γ ops tr n0 (i::j::is) F H).all K:=by
 unfold fe at hc;split at hc
 ·rename_i x y hx hy
  simp only [AU] at hc;obtain ⟨⟨⟨g1,g2⟩,gx,gy⟩,hap⟩:=hc;obtain ⟨a1,a2,a3⟩:=ZZ hap
  have step:∀(k:Nat) (o:Oper) (l:List Nat) (F:List LV) (H:List AB),ops[k]? =some o->o.guard.isNone=true->((Gg P G Γ ops tr n0 (k::l) F H).all K↔(CK G F tr n0 o=true/\(spz P G Γ F H o).all (λq=>(Gg P G Γ ops tr n0 l (Al F o.dst q.1) q.2).all K))):=λk o l F H hk hg=>by
   simp only [Gg,hk,hg,Dj];split
   ·rename_i hs
    rw [T.all_bind]
    grind
   ·rename_i hs
    constructor
    ·exact λh=>h.elim
    ·grind
  have sy:∀F H,spz P G Γ F H y=Ap P G Γ F H y:=λF H=>by
   unfold spz;rw [AE];unfold ya;unfold Uv at gy;split at gy
   ·rename_i ho;rw [ho]
   ·grind
   ·cases gy
  have gx':(It x ||JZ x)=true:=AA
  obtain ⟨t,ad,ho⟩:∃t ad,x.op=.load t ad:=by
   unfold JZ at gx;split at gx
   ·grind
   ·cases gx
  have hl:=looks a3
  have sx:∀F H,spz P G Γ F H x=match AL G F ad with
   | .own k off=>(F7 P H t (.own k off)).bind λy=> .ok (y,H)
   |_=> .no:=λF H=>by
   unfold spz ya Ap;simp only [ho];split
   ·rename_i k off e
    rw [AE rfl,e]
   ·rename_i hne
    rw [AD Aa];split
    ·grind
    ·rfl
  have ea:∀v,AL G (Al F y.dst v) ad=AL G F ad:=λv=>FM (hl ad Ey)
  rw [step _ _ _ _ _ hy g2,sy] at h;obtain ⟨h1,h2⟩:=h
  have h3:=akw gy _ h2
  rw [step _ _ _ _ _ hx g1,sx];refine ⟨bI gx' F,?_⟩
  have h4:(Ap P G Γ F H y).all (λq=>∃k off v,AL G F ad=.own k off/\F7 P H t (.own k off)=.ok v/\(Gg P G Γ ops tr n0 is (Al (Al F y.dst q.1) x.dst v) q.2).all K):=T.BT (λq hq=>by
   obtain ⟨q1,q2⟩:=hq;rw [step _ _ _ _ _ hx g1,sx,ea] at q1
   have q3:=q1.2
   split at q3
   ·rename_i k off e
    rcases agL (P:=P) (H:=q.2) (t:=t) (k:=k) (off:=off) with ⟨v,hv⟩ |hv
    ·rw [hv] at q3
     exact ⟨k,off,v,e,afJ q2 hv,q3⟩
    ·rw [hv] at q3;exact q3.elim
   ·exact q3.elim) h3
  obtain ⟨k,off,v,e,hv⟩:=T.Sh (T.BT (λq hq=>(⟨hq.choose,hq.choose_spec.choose,hq.choose_spec.choose_spec.choose,hq.choose_spec.choose_spec.choose_spec.1,hq.choose_spec.choose_spec.choose_spec.2.1⟩:∃k off v,AL G F ad=.own k off/\F7 P H t (.own k off)=.ok v)) h4)
  rw [e];simp only [hv,T.bind,T.all];obtain ⟨e1,e2⟩:=asP (P:=P) (G:=G) (Γ:=Γ) (F:=F) (H:=H) (y:=v) gy a1;rw [step _ _ _ _ _ hy g2,sy,e1,e2];refine ⟨h1,T.BT (λq hq=>?_) h4⟩
  obtain ⟨k',off',v',e',hv',hp⟩:=hq;rw [e] at e';cases e';rw [hv] at hv';cases hv';rw [Kx a2];exact hp
 ·cases hc
def amF {ops:Array Oper}{tr:List Nat}{n0:Nat}{j:Nat}{R R':List Nat}{K:List LV×List AB->Prop}(hh:∀(F:List LV) (H:List AB),(Gg P G Γ ops tr n0 R F H).all K->(Gg P G Γ ops tr n0 R' F H).all K) (h:(Gg P G Γ ops tr n0 (j::R) F H).all K):(Gg P G Γ ops tr n0 (j::R') F H).all K:=by
 simp only [Gg] at h|-;exact wo
def aCw {ops:Array Oper}{tr:List Nat}{n0:Nat}{i:Nat}{K:List LV×List AB->Prop}:∀(R:List Nat) (F:List LV) (H:List AB),i∈R->(FY i R).all (λj=>fe P ops i j)=true->(Gg P G Γ ops tr n0 R F H).all K->(Gg P G Γ ops tr n0 (i::R.erase i) F H).all K
 | [],_,_,hi,_,_=>kg
 | j::R,F,H,hi,hb,h=>by
  by_cases hj:j=i
  ·subst hj
   grind
  ·have hi':i∈R:=by
    exact xK
   simp only [FY,AD hj,IT,AU] at hb;rw [V0 AA];exact amD hb.1 (amF (λF H h=>aCw R F H hi' hb.2 h) h)
def adt (hΓ:∀g S,Γ g=some S->Valid P G g S) {ops:Array Oper}{tr:List Nat}{D:World->Prop}{sp:Nat->Bool}{Q:Act->Gh->Prop}{F':List LV}{H':List AB}
  (hQ:∀g:Gh,g.F=F'->g.H=H'->Q g.a g):∀(n:Nat) (R:List Nat) (listed:Array Bool) (g:Gh),(∀i∈R,sp i=true)->aL P ops n R listed=true->
   (Gg P G Γ ops tr H.length R g.F g.H).all (λq=>q=(F',H'))->KA P .any ops D (CY ds G w0 Z0 tr β H wr) sp Q n listed g.a g
 |0,R,listed,g,_,hB,h=>by
  simp only [aL,AU,ZX] at hB;obtain ⟨rfl,h2⟩:=hB;simp only [Gg,T.all,Aq] at h;exact ⟨h2,hQ g h.1 h.2⟩
 | n +1,R,listed,g,hs,hB,h=>by
  simp only [aL,AU,BL,D4,jG] at hB;obtain ⟨hne,hall⟩:=hB;refine ⟨λh0=>absurd h0 hne,λi hi=>?_⟩
  obtain ⟨⟨hR,hbef⟩,hrest⟩:=hall i hi
  have hiR:i∈R:=AA
  have hf:=aCw R g.F g.H hiR AA h
  simp only [Gg] at hf;split at hf
  ·rename_i o ho
   split at hf
   ·rename_i hgs
    simp only [AU,ZR] at hgs;obtain ⟨hgd,hst⟩:=hgs
    have hw:Region.wanted o (yielded ops g.a.tmps)=true:=xg
    unfold Dr;simp only [ho,hw,Bm,hs i hiR];obtain ⟨⟨lv,H1⟩,h1,h2⟩:=T.Ay hf
    have h1':(Ap P G Γ g.F g.H o).all (λq=>q=(lv,H1)):=by
     unfold spz at h1;split at h1
     ·exact h1
     ·cases h1
    intro w' hc;refine Jx (λv w'' ⟨g',e1,e2,e3,e4⟩=>⟨g',e1,?_⟩) (bq hΓ hst h1' hc)
    rw [<-e4];refine adt hΓ hQ n (R.erase i) _ g' (λj hj=>hs j (PY hj)) hrest ?_
    rwa [e2,e3]
   ·cases hf
  ·cases hf
def bE {T':Type}{md:Region.Mode}{D:World->Prop}{sp:Nat->Bool}{C:T'->World->Prop}{Q':Act->World->Prop}{ops:Array Oper}{g g1:T'}(hs:∀w',C g w'->C g1 w'):∀(n:Nat) (listed:Array Bool) (a:Act),
  KA P md ops D C sp (λa' g'=>∀w',C g' w'->Q' a' w') n listed a g1->KA P md ops D C sp (λa' g'=>∀w',C g' w'->Q' a' w') n listed a g
 |0,_,_,h=>⟨h.1,λw' hw'=>h.2 w' (hs w' hw')⟩
 | n +1,listed,a,h=>⟨λh0 w' hw'=>h.1 h0 w' (hs w' hw'),λi hi=>by
   have:=h.2 i hi
   unfold Dr at this|-;split
   ·rename_i ho;simp only [ho] at this;exact bE hs n _ _ this
   ·rename_i o ho
    simp only [ho] at this;split
    ·rename_i hw
     simp only [hw,Bm] at this;split
     ·rename_i hsp
      simp only [hsp,Bm] at this;exact λw hw=>this w (hs w hw)
     ·rename_i hsp
      simp only [hsp] at this;exact mr (λa' hk=>bE hs n _ a' hk) this
    ·rename_i hw
     simp only [hw] at this;exact bE hs n _ _ this⟩
mutual
def R.KP {β':Nat->Loc}{n:Nat}:∀(x:LV) (y:Value),(∀j,j∈owns x->β' j=β j)->okV n x->R β Z w x y->R β' Z w x y
 | .v _,_,_,_,h=>h
 | .bl _,_,_,_,h=>h
 | .ki _ _,_,_,_,h=>h
 | .own k off,y,hj,_,h=>aML
 | .agg l,y,hj,hk,h=>by
  exact jk
 | .AM l,y,hj,hk,h=>by
  exact jk
 | .fn f l,y,hj,hk,h=>by
  exact jk
 | .fb f l,y,hj,hk,h=>by
  exact jk
 | .xq m f,y,_,hk,h=>by
  simp only [R,okV] at*;obtain ⟨b,off,h1,h2,h3⟩:=h;refine ⟨b,off,h1,h2,λj hj=>?_⟩
  obtain ⟨z,h4,h5⟩:=h3 j hj;exact ⟨z,h4,R.mono (n:=0) (λ_ hk=>absurd hk A0) (λ_ h=>h) (λ_ _=>rfl) _ _ (hk j) h5⟩
 | .xl e l,y,_,_,h=>by simp only [R] at*;exact h
 | .os k es off n,y,hj,_,h=>kE
 | .op k es i j,y,hj,_,h=>kE
 | .om k,y,hj,_,h=>kE
 | .mp kd ks l,y,hj,hk,h=>by
  simp only [R,owns,okV] at*;obtain ⟨r,es,clock,h1,h2,h3,h4,h5⟩:=h;exact ⟨r,es,clock,h1,h2,h3,h4,RL.KP l _ hj hk h5⟩
 | .oc k es off n c,y,hj,_,h=>kE
 | .CN k,y,hj,_,h=>aML
 | .junk,_,_,_,_=>JK
def RL.KP {β':Nat->Loc}{n:Nat}:∀(l:List LV) (ys:List Value),(∀j,j∈ownsL l->β' j=β j)->AR n l->RL β Z w l ys->RL β' Z w l ys
 | [],_,_,_,h=>aNK
 |x::xs,ys,hj,hk,h=>by
  simp only [RL,ownsL,Bp,AR] at*;obtain ⟨y,zs,h1,h2,h3⟩:=h;exact ⟨y,zs,h1,R.KP x y (λj h=>hj j (.inl h)) hk.1 h2,RL.KP xs zs (λj h=>hj j (.inr h)) hk.2 h3⟩
end
mutual
def okV_owns {n:Nat}:∀(x:LV),okV n x->∀j,j∈owns x->j<n
 | .v _,_,j,h=>VM
 | .bl _,_,j,h=>VM
 | .ki _ _,_,j,h=>VM
 | .own k _,hk,j,h=>VR
 | .agg l,hk,j,h=>Zw
 | .AM l,hk,j,h=>Zw
 | .fn _ l,hk,j,h=>Zw
 | .fb _ l,hk,j,h=>Zw
 | .xq _ _,_,j,h=>VM
 | .xl _ _,_,j,h=>VM
 | .os k _ _ _,hk,j,h=>VR
 | .op k _ _ _,hk,j,h=>VR
 | .om k,hk,j,h=>VR
 | .mp _ _ l,hk,j,h=>Zw
 | .oc k _ _ _ _,hk,j,h=>VR
 | .CN k,hk,j,h=>VR
 | .junk,_,j,h=>VM
def okL_owns {n:Nat}:∀(l:List LV),AR n l->∀j,j∈ownsL l->j<n
 | [],_,j,h=>by simp [ownsL] at h
 |x::xs,hk,j,h=>by
  simp only [ownsL,Bp,AR] at*;rcases h with h|h
  ·exact okV_owns x hk.1 j h
  ·exact okL_owns xs hk.2 j h
end
mutual
def okV_lower {n m:Nat}:∀(x:LV),okV n x->(∀j,j∈owns x->j<m)->okV m x
 | .v _,_,_=>trivial
 | .bl _,_,_=>trivial
 | .ki _ _,_,_=>trivial
 | .own k _,_,h=>h k IU
 | .agg l,hk,h=>Zx
 | .AM l,hk,h=>Zx
 | .fn _ l,hk,h=>Zx
 | .fb _ l,hk,h=>Zx
 | .xq _ _,hk,_=>aNZ
 | .xl _ _,_,_=>trivial
 | .os k _ _ _,_,h=>h k IU
 | .op k _ _ _,_,h=>h k IU
 | .om k,_,h=>h k IU
 | .mp _ _ l,hk,h=>Zx
 | .oc k _ _ _ _,_,h=>h k IU
 | .CN k,_,h=>h k IU
 | .junk,_,_=>trivial
def okL_lower {n m:Nat}:∀(l:List LV),AR n l->(∀j,j∈ownsL l->j<m)->AR m l
 | [],_,_=>trivial
 |x::xs,hk,h=>by
  simp only [ownsL,Bp,AR] at*;exact ⟨okV_lower x hk.1 (λj hj=>h j (.inl hj)),okL_lower xs hk.2 (λj hj=>h j (.inr hj))⟩
end
def aE5 {n:Nat}{b:AB}(h:okB n b):∀j,j∈b.owns->j<n:=λj hj=>by
 rcases Bp.1 hj with hj|hj
 ·exact okL_owns _ h.1 j hj
 ·have h2:=h.2
  split at hj
  ·rename_i hk;rw [hk] at h2;exact okL_owns _ h2 j hj
  ·cases hj
def BU.KP {β':Nat->Loc}{n k k':Nat}{b:AB}(hk:β' k'=β k) (hj:∀j,j∈b.owns->β' j=β j) (hok:okB n b) (h:BU β Z w k b):BU β' Z w k' b:=by
 have hc:∀j,j∈ownsL b.c->β' j=β j:=λj h=>hj j (Bp.2 (.inl h))
 unfold BU at*;rw [hk];cases hbk:b.k with
 |cl=>
  simp only [hbk] at h|-;obtain ⟨cs,h1,h2⟩:=h;exact ⟨cs,h1,RL.KP _ _ hc hok.1 h2⟩
 |vec e l=>simp only [hbk] at h|-;exact h
 |mp kd ks vs=>
  simp only [hbk] at h|-;obtain ⟨es,clock,h1,h2,h3⟩:=h
  have ho:=hok.2
  rw [hbk] at ho;exact ⟨es,clock,h1,h2,RL.KP _ _ (λj h=>hj j (by unfold AB.owns;rw [hbk];exact Bp.2 (.inr h))) ho h3⟩
 |Cc ps asg body st=>
  simp only [hbk] at h|-;obtain ⟨r,h1,h2,h3,h4,h5,h6⟩:=h;exact ⟨r,h1,h2,h3,h4,h5,RL.KP _ _ hc hok.1 h6⟩
 |st e l=>simp only [hbk] at h|-;exact h
 |dead=>trivial
def KT (β:Nat->Loc) (k m:Nat):Nat->Loc:=λj=>if j=k then β m else β j
def Q0 {k m:Nat}:KT β k m k=β m:=by simp [KT]
def Ik {k m j:Nat}(h:j≠k):KT β k m j=β j:=by simp [KT,h]
def RW.move {k:Nat}{nb db:AB}(hW:RW G w0 Z0 Z β (H++[nb]) w) (hk:H[k]? =some db) (hp:nb.p=false)
  (hB:∀(j:Nat) (b:AB),H[j]? =some b->okB H.length b/\k∉b.owns) (hn:okB H.length nb/\k∉nb.owns) (hg:∀p,p∈Z0.gh->okV H.length p.1/\k∉owns p.1):
  RW G w0 Z0 Z (KT β k H.length) (H.set k nb) w:=by
 have hkl:k<H.length:=(Du.1 hk).1
 have at_:∀(j:Nat) (b:AB),(H.set k nb)[j]? =some b->(j=k/\b=nb)\/(j≠k/\H[j]? =some b):=λj b h=>by
  rw [HI] at h;split at h
  ·rename_i e
   grind
  ·grind
 have last:(H++[nb])[H.length]? =some nb:=AJ
 have old:∀(j:Nat) (b:AB),H[j]? =some b->(H++[nb])[j]? =some b:=λj b h=>AA
 have lt:∀(j:Nat) (b:AB),H[j]? =some b->j<H.length:=λj b h=>(Du.1 h).1
 have lk:live (KT β k H.length) k nb=live β H.length nb:=by unfold live;rw [Q0]
 have lj:∀j b,j≠k->live (KT β k H.length) j b=live β j b:=λj b h=>K5 (Ik h)
 refine ⟨hW.below,hW.BV,hW.ES,λj b hj hl hq=>?_,λj b hj hl hq=>?_,λj b hj hl=>?_,λi j bi bj hi hj li lj' pi e=>?_,λj b hj=>?_,hW.CV,λp hp=>?_,hW.Ci⟩
 ·rcases at_ j b hj with ⟨rfl,rfl⟩ |⟨h1,h2⟩
  ·rw [Q0];rw [lk] at hl;exact hW.Cg _ _ last hl hq
  ·rw [Ik h1];rw [lj j b h1] at hl;exact hW.Cg j b (old j b h2) hl hq
 ·rcases at_ j b hj with ⟨rfl,rfl⟩ |⟨h1,h2⟩
  ·rw [hp] at hq;cases hq
  ·rw [Ik h1];rw [lj j b h1] at hl;exact hW.G0 j b (old j b h2) hl hq
 ·rcases at_ j b hj with ⟨rfl,rfl⟩ |⟨h1,h2⟩
  ·rw [Q0];rw [lk] at hl;exact hW.low _ _ last hl
  ·rw [Ik h1];rw [lj j b h1] at hl;exact hW.low j b (old j b h2) hl
 ·rcases at_ i bi hi with ⟨rfl,rfl⟩ |⟨h1,h2⟩
  ·rcases at_ j bj hj with ⟨rfl,rfl⟩ |⟨g1,g2⟩
   ·rfl
   ·rw [lk] at li;rw [lj j bj g1] at lj';rw [Q0,Ik g1] at e
    have:=hW.inj _ j _ bj last (old j bj g2) li lj' pi e
    have:=lt j bj g2;omega
  ·rcases at_ j bj hj with ⟨rfl,rfl⟩ |⟨g1,g2⟩
   ·rw [lj i bi h1] at li;rw [lk] at lj';rw [Ik h1,Q0] at e
    have:=hW.inj i _ bi _ (old i bi h2) last li lj' pi e
    have:=lt i bi h2;omega
   ·rw [lj i bi h1] at li;rw [lj j bj g1] at lj';rw [Ik h1,Ik g1] at e
    exact hW.inj i j bi bj (old i bi h2) (old j bj g2) li lj' pi e
 ·rw [Br]
  rcases at_ j b hj with ⟨rfl,rfl⟩ |⟨h1,h2⟩
  ·exact ⟨BU.KP Q0 (λi hi=>Ik (λe=>hn.2 (e▸hi))) hn.1 (hW.blk _ _ last).1,hn.1⟩
  ·obtain ⟨q1,q2⟩:=hB j b h2
   exact ⟨BU.KP (Ik h1) (λi hi=>Ik (λe=>q2 (e▸hi))) q1 (hW.blk j b (old j b h2)).1,q1⟩
 ·obtain ⟨q1,q2⟩:=hg p hp
  rw [Br];exact ⟨R.KP _ _ (λj hj=>Ik (λe=>q2 (e▸hj))) q1 (hW.gh p hp).1,q1⟩
def Qh:∀ {l:List LV}{x:LV}{j:Nat},x∈l->j∈owns x->j∈ownsL l
 |y::ys,x,j,hx,hj=>by
  simp only [ownsL,Bp];rcases B1.1 hx with rfl|h
  ·grind
  ·exact .inr (Qh h hj)
def bg:∀ {l:List LV}{j:Nat},j∈ownsL l->∃x,x∈l/\j∈owns x
 |x::xs,j,h=>by
  simp only [ownsL,Bp] at h;rcases h with h|h
  ·grind
  ·obtain ⟨y,h1,h2⟩:=bg h;exact ⟨y,AA,h2⟩
 | [],j,h=>by simp [ownsL] at h
def Sa {x:Operand}{j:Nat}(h:j∈owns (AL G F x)):j∈ownsL F:=by
 cases x with
 |tmp t=>
  simp only [AL] at h;cases ht:F[t]? with
  |none=>simp [List.getD,ht,owns] at h
  |some y=>simp [List.getD,ht] at h;exact Qh (PZ ht) h
 |const v=>simp only [AL] at h;split at h<;>simp [owns] at h
 |global g=>simp only [AL] at h;split at h<;>simp [owns] at h
 |func f=>simp [AL,owns,ownsL] at h
def aBH:∀(l:List Value),ownsL (l.map .v)=[]
 | []=>rfl
 |x::xs=>by simp [ownsL,owns,aBH xs]
def mM {x:LV}{cs:List LV}(h:CL x=some cs):∀j,j∈ownsL cs->j∈owns x:=λj hj=>by
 unfold CL at h;split at h
 ·split at h
  ·simp only [Ad] at h;subst h;rw [aBH] at hj;cases hj
  ·cases h
 ·split at h
  ·simp only [Ad] at h;subst h;simpa only [owns] using hj
  ·cases h
 ·cases h
 ·cases h
 ·simp only [Ad] at h;subst h;simpa [ownsL] using hj
def mg {d:Option Tmp}{x:LV}{j:Nat}(h:j∈ownsL (Al F d x)):j∈ownsL F\/j∈owns x:=by
 cases d with
 |none=>exact .inl h
 |some t=>
  obtain ⟨y,h1,h2⟩:=bg h;rcases SC h1 with e|e
  ·exact .inl (Qh e h2)
  ·grind
def aFA {k:Nat}{o:Oper}{lv:LV}{H1:List AB}(h:(Iy P G F H k o).all (λq=>q=(lv,H1))):(∃cs t,lv=.own k 0/\H1=H.set k ⟨cs,t,.cl,false⟩/\(Ap P G Γ F H o).all (λq=>q=(.own H.length 0,H++[⟨cs,t,.cl,false⟩]))/\∀j,j∈ownsL cs->j∈ownsL F)\/
  ∃(m n:Nat) (e:TypeId) (ty:Ty) (l:List ty.D),lv=.os k m 0 n/\H1=H.set k ⟨[],e,.vec ty l,false⟩/\(Ap P G Γ F H o).all (λq=>q=(.os H.length m 0 n,H++[⟨[],e,.vec ty l,false⟩])):=by
 unfold Iy at h;split at h
 ·rename_i t ho
  split at h
  ·rename_i z hz
   split at h
   ·rename_i cs hcs
    simp only [T.all,Aq] at h;refine .inl ⟨cs,t,h.1.symm,h.2.symm,?_,λj hj=>?_⟩
    ·unfold Ap;simp only [ho,hz,hcs,T.all]
    ·have:=mM hcs j hj;simp [owns] at this
   ·cases h
  ·cases h
 ·rename_i t x ho
  split at h
  ·rename_i cs hcs
   simp only [T.all,Aq] at h;refine .inl ⟨cs,t,h.1.symm,h.2.symm,?_,λj hj=>Sa (mM hcs j hj)⟩
   unfold Ap;simp only [ho,hcs,T.all]
  ·cases h
 ·rename_i t n c ho
  split at h
  ·rename_i e ty m Ep n' c' he hn hc
   split at h
   ·rename_i z hz
    split at h
    ·rename_i d hd
     split at h
     ·rename_i hsz
      simp only [T.all,Aq] at h;obtain ⟨h0,h1,h2⟩:=h;refine .inr ⟨m,n'.toNat,e,ty,List.replicate n'.toNat d,h1.symm,h2.symm,?_⟩;unfold Ap;simp only [ho,Te,he,hn,hc,hz,hd,hsz,Bm,T.all]
      grind
     ·cases h
    ·cases h
   ·cases h
  ·cases h
 ·rename_i t len parts ho
  split at h
  ·rename_i hlen
   split at h
   ·rename_i hp
    split at h
    ·rename_i e ty m Ep he
     simp only [T.all,Aq] at h;refine .inr ⟨m,0,e,ty,[],h.1.symm,h.2.symm,?_⟩;unfold Ap;simp only [ho,hlen,hp,Bm,Wc,he,T.all]
    ·cases h
   ·cases h
  ·cases h
 ·cases h
structure Rm (n0:Nat) (done:Nat->Prop) (R:List Nat) (g:Gh):Prop where
 f:∀j,j∈ownsL g.F->j<n0\/∃i,done i/\j=n0+i
 h:∀(k:Nat) (b:AB),g.H[k]? =some b->∀j,j∈b.owns->j<n0\/∃i,done i/\j=n0+i
 dead:∀i,i∈R->¬done i/\∃b,g.H[n0+i]? =some b
def aID (hΓ:∀g S,Γ g=some S->Valid P G g S) {tr:List Nat}{g:Gh}{o:Oper}{lv:LV}{H1:List AB}{w':World}{done:Nat->Prop}{R':List Nat}{i:Nat}(hgh:∀p,p∈Z0.gh->okV H.length p.1) (hI:Rm H.length done R' g) (hi:i∈R')
  (hst:CK G g.F tr H.length o=true) {nb:AB} {lv0:LV} (hop:(Ap P G Γ g.F g.H o).all (λq=>q=(lv0,g.H++[nb]))) (hpn:nb.p=false) (hcs:∀j,j∈nb.owns->j∈ownsL g.F) (hlow:∀n m,okB n nb->(∀j,j∈nb.owns->j<m)->okB m nb)
  (hlv:∀β' Z' w'' v,R β' Z' w'' lv0 v->R (KT β' (H.length+i) g.H.length) Z' w'' lv v) (hlo:∀n,H.length+i<n->okV n lv) (hH1:H1=g.H.set (H.length+i) nb) (hc:CY ds G w0 Z0 tr β H wr g w'):
  DV P (λv w''=>∃g':Gh,CY ds G w0 Z0 tr β H wr g' w''/\g'.F=Al g.F o.dst lv/\g'.H=H1/\g'.a=g.a.put o.dst v) ((execOp g.a.eval o).run P w'):=by
 subst hH1;refine Jx (λv w'' ⟨Z',β',e1,e2,e3,e4,e5,e6,e7,e8⟩=>?_) (bU hΓ hc.rw hc.rf hop)
 obtain ⟨hnd,db,hdb⟩:=hI.dead i hi
 have fresh:∀j,(j<H.length\/∃i',done i'/\j=H.length+i')->j≠H.length+i:=λj hj e=>by
  rcases hj with hj|⟨i',hd,e'⟩
  ·omega
  ·have:i'=i:=A0
   grind
 have hsz:=hc.near.size
 have hcl:∀j,j∈nb.owns->j<g.H.length:=λj hj=>by
  obtain ⟨x,q1,q2⟩:=bg (hcs j hj);obtain ⟨t',q3⟩:=List.getElem?_of_mem q1;exact okV_owns x (hc.rf.get t' x q3).2 j q2
 have okcs:okB g.H.length nb:=hlow _ _ (e1.blk g.H.length nb AJ).2 hcl
 have hMv:=e1.move (k:=H.length+i) hdb hpn (λj b hj=>⟨(hc.rw.blk j b hj).2,λhm=>fresh _ (hI.h j b hj _ hm) rfl⟩) ⟨okcs,λhm=>fresh _ (hI.f _ (hcs _ hm)) rfl⟩ (λp hp=>⟨okV.mono hc.len _ (hgh p hp),λhm=>by have:=okV_owns _ (hgh p hp) _ hm;omega⟩)
 have hF2:RF ds (KT β' (H.length+i) g.H.length) Z' w'' (g.H.set (H.length+i) nb).length g.F g.a:=by
  rw [Br];refine ⟨hc.rf.size,λt' x hx=>?_,e2.defers⟩
  have q:=hc.rf.get t' x hx
  exact ⟨R.KP x _ (λj hj=>Ik (fresh j (hI.f j (Qh (PZ hx) hj)))) q.2 (e2.get t' x hx).1,q.2⟩
 refine ⟨⟨Z',KT β' (H.length+i) g.H.length,g.H.set (H.length+i) nb,Al g.F o.dst lv,g.a.put o.dst v⟩,?_,rfl,rfl,rfl⟩;refine ⟨hMv,hF2.put (hlv _ _ _ _ e3) (hlo _ AA) o.dst,⟨e8.os.trans hc.near.os,e8.tape.trans hc.near.tape,e8.output.trans hc.near.output,G8 hsz e8.size,λk hk hn=>?_⟩,AA,λk hk=>?_,λk h3 h4=>?_,λk b hb=>?_⟩
 ·exact aKi
 ·show KT β' (H.length+i) g.H.length k=β k
  rw [Ik A0,e6 k (ZH hk hc.len)];exact hc.old k hk
 ·show wr.heap.size<=(KT β' (H.length+i) g.H.length k).b\/(KT β' (H.length+i) g.H.length k).b∈DP β H tr
  simp only [Br] at h4
  by_cases hkk:k=H.length+i
  ·subst hkk
   rw [Q0];rcases e7 g.H.length (At _) AJ with h|h
   ·exact .inl A0
   ·exact hc.touch hst h
  ·rw [Ik hkk,e6 k h4];exact hc.new k h3 h4
 ·have hkl:k<H.length:=(Du.1 hb).1
  obtain ⟨b',q1,q2⟩:=hc.Jg k b hb
  grind
def azF (hΓ:∀g S,Γ g=some S->Valid P G g S) {tr:List Nat}{g:Gh}{o:Oper}{lv:LV}{H1:List AB}{w':World}{done:Nat->Prop}{R':List Nat}{i:Nat}(hgh:∀p,p∈Z0.gh->okV H.length p.1) (hI:Rm H.length done R' g) (hi:i∈R')
  (hst:CK G g.F tr H.length o=true) (h1:(Iy P G g.F g.H (H.length+i) o).all (λq=>q=(lv,H1))) (hc:CY ds G w0 Z0 tr β H wr g w'):
  DV P (λv w''=>∃g':Gh,CY ds G w0 Z0 tr β H wr g' w''/\g'.F=Al g.F o.dst lv/\g'.H=H1/\g'.a=g.a.put o.dst v) ((execOp g.a.eval o).run P w'):=by
 rcases aFA (Γ:=Γ) h1 with ⟨cs,t,rfl,hH1,hop,hcs⟩ |⟨m,n,e,ty,l,rfl,hH1,hop⟩
 ·refine aID hΓ hgh hI hi hst hop rfl (λj hj=>?_) (λn m h1 h2=>⟨okL_lower cs h1.1 (λj hj=>h2 j ?_),trivial⟩) (λβ' Z' w'' v hr=>aMf) (λn hn=>hn) hH1 hc
  ·unfold AB.owns at hj
   grind
  ·unfold AB.owns
   simp only [FJ];exact hj
 ·refine aID hΓ hgh hI hi hst hop rfl (λj hj=>?_) (λn m h1 h2=>⟨trivial,trivial⟩) (λβ' Z' w'' v hr=>aMf) (λn hn=>hn) hH1 hc
  unfold AB.owns at hj
  simp [ownsL] at hj
def afe {ops:Array Oper}{o:Oper}{d:Option Tmp}{y:LV}{k:Nat}(ha:ER o=true) (h:∀t,d=some t->t∉o.looksAt ops):Iy P G (Al F d y) H k o=Iy P G F H k o:=by
 have hl:=looks h
 unfold ER at ha;split at ha
 ·rename_i t ho
  unfold Iy
  grind
 ·rename_i t x ho
  unfold Iy;simp only [ho];exact jl
 ·rename_i t n c ho
  unfold Iy;simp only [ho];rw [FM (hl n Ey),FM (hl c Ey)]
 ·rename_i t len parts ho
  unfold Iy
  grind
 ·cases ha
def an6 {o:Oper}{k:Nat}(ha:ER o=true):∃(p:Prop) (lv:LV) (nb:AB),∀(H:List AB) (K:LV×List AB->Prop),(Iy P G F H k o).all K↔(p/\K (lv,H.set k nb)):=by
 unfold ER at ha;split at ha
 ·rename_i t ho
  unfold Iy;simp only [ho];split
  ·exact aKP
  ·exact SK
 ·rename_i t x ho
  unfold Iy;simp only [ho];exact aKP
 ·rename_i t n c ho
  unfold Iy;simp only [ho];split
  ·split
   ·split
    ·split
     ·exact ⟨_,_,_,λH K=>Bt⟩
     ·exact SK
    ·exact SK
   ·exact SK
  ·exact SK
 ·rename_i t len parts ho
  unfold Iy;simp only [ho];split
  ·split
   ·split
    ·rename_i e ty m Ep _
     exact ⟨True,.os k m 0 0,⟨[],e,.vec ty [],false⟩,λH K=>aNd⟩
    ·exact SK
   ·grind
  ·grind
 ·cases ha
def rP {o:Oper}(hm:Iu o=true):ER o=false/\PI o=true/\∀G tr n0 (F:List LV),CK G F tr n0 o=true:=by
 unfold Iu at hm;split at hm
 ·rename_i x ho
  simp [ER,PI,CK,EX,ho]
 ·rename_i x ho
  simp [ER,PI,CK,EX,ho]
 ·rename_i t parts ho
  simp [ER,PI,CK,EX,ho]
 ·cases hm
def nN {ops:Array Oper}{o:Oper}{d:Option Tmp}{y:LV}{n0 i:Nat}(ha:(ER o ||Iu o)=true) (h:∀t,d=some t->t∉o.looksAt ops):Hk P G Γ ops n0 i (Al F d y) H o=Hk P G Γ ops n0 i F H o:=by
 rcases SF.1 ha with ha|ha
 ·unfold Hk
  rw [AE ha,AE ha,afe ha h]
 ·obtain ⟨h1,h2,_⟩:=rP ha
  have hl:=looks h
  unfold Hk;rw [h1,h2];unfold Iu at ha;split at ha
  ·exact aLk
  ·exact aLk
  ·rename_i t parts ho
   have e:(parts.toList.map λq=>(q.1,Hb G (Al F d y) q.2))=parts.toList.map λq=>(q.1,Hb G F q.2):=JG λq hq=>by
    exact aKg
   unfold Ap;simp only [ho,e];rfl
  ·cases ha
def putAt (k:Nat) (nb:Option AB) (H:List AB):List AB:=
 match nb with
 |some b=>H.set k b
 |none=>H
def aey {i j:Nat}{a b:Option AB}{H:List AB}(h:i≠j):putAt i a (putAt j b H)=putAt j b (putAt i a H):=by
 cases a<;>cases b<;>simp only [putAt]
 exact List.set_comm _ _ (OC h)
def oH {ops:Array Oper}{o:Oper}{n0 i:Nat}(ha:(ER o ||Iu o)=true):∃(p:Prop) (lv:LV) (nb:Option AB),∀(H:List AB) (K:LV×List AB->Prop),(Hk P G Γ ops n0 i F H o).all K↔(p/\K (lv,putAt (n0+i) nb H)):=by
 rcases SF.1 ha with ha|ha
 ·obtain ⟨p,lv,nb,h⟩:=an6 (P:=P) (G:=G) (F:=F) (k:=n0+i) ha
  refine ⟨p,lv,some nb,λH K=>?_⟩
  unfold Hk;rw [AE ha];exact h H K
 ·obtain ⟨h1,h2,_⟩:=rP ha
  unfold Iu at ha;split at ha
  ·exact aLb
  ·exact aLb
  ·rename_i t parts ho
   have key:∀l:List (Nat×LV),(∃y,NK P t l=.ok y)\/NK P t l=.no:=λl=>by
    unfold NK;split
    ·split
     ·grind
     ·exact .inr rfl
    ·grind
   rcases key (parts.toList.map λq=>(q.1,Hb G F q.2)) with ⟨y,hy⟩ |hy
   ·refine ⟨True,y,none,λH K=>?_⟩
    unfold Hk Ap;rw [h1,h2]
    simp [ho,hy,T.bind,T.all,putAt]
   ·refine ⟨False,.junk,none,λH K=>?_⟩
    unfold Hk Ap;rw [h1,h2]
    simp [ho,hy,T.bind,T.all]
  ·cases ha
def cX {o:Oper}{tr:List Nat}{n0:Nat}(ha:(ER o ||Iu o)=true) (F:List LV):CK G F tr n0 o=true:=by
 rcases SF.1 ha with ha|ha
 ·exact aBS (.inl ha)
 ·exact (rP ha).2.2 G tr n0 F
def ahJ {o:Oper}(h:LZ o=true):ER o=false/\PI o=false:=by
 unfold LZ at h;split at h
 ·rename_i args tys ho
  simp [ER,PI,ho]
 ·cases h
def aIP {ops:Array Oper}{o:Oper}{d:Option Tmp}{y:LV}(hh:LZ o=true) (h:∀t,d=some t->t∉o.looksAt ops):
  Ap P G Γ (Al F d y) H o=Ap P G Γ F H o/\(∀tr n0,CK G (Al F d y) tr n0 o=CK G F tr n0 o)/\∀n0 H,LP G ops n0 (Al F d y) H o=LP G ops n0 F H o:=by
 have hl:=looks h
 unfold LZ at hh;split at hh
 ·rename_i args tys ho
  have e:args.toList.map (AL G (Al F d y))=args.toList.map (AL G F):=JG λx hx=>FM (hl x Zo)
  refine ⟨?_,λtr n0=>?_,λn0 H=>?_⟩
  ·unfold Ap
   exact SR
  ·unfold CK EX
   exact SR
  ·unfold LP
   exact SR
 ·cases hh
def ads {t tx:TypeId} {k es off n:Nat} {e0:Ty} {q0:List e0.D}:∃f:Option AB->Option (Prop×Nat×Nat×TypeId×AB),(∀b p m n' e nb,f b=some (p,m,n',e,nb)->nb.owns=[])/\(f none=none)/\
  ∀(H:List AB) (K:LV×List AB->Prop),(L3 P H t tx (.os k es off n) (.xl e0 q0)).all K↔match f H[k]? with
   |some (p,m,n',e,nb)=>p/\K (.os H.length m 0 n',H.set k ⟨[],e,.dead,false⟩++[nb])
   |none=>False:=by
 have bad:∀ {g:List AB->T (LV×List AB)},(∀H,g H=.no)->∃f:Option AB->Option (Prop×Nat×Nat×TypeId×AB),(∀b p m n' e nb,f b=some (p,m,n',e,nb)->nb.owns=[])/\(f none=none)/\
   ∀(H:List AB) (K:LV×List AB->Prop),(g H).all K↔match f H[k]? with
    |some (p,m,n',e,nb)=>p/\K (.os H.length m 0 n',H.set k ⟨[],e,.dead,false⟩++[nb])
    |none=>False:=λhg=>⟨λ_=>none,(λ_ _ _ _ _ _ h=>Ah),rfl,λH K=>by rw [hg];simp [T.all]⟩
 unfold L3;cases he:PF P t with
 |none=>exact bad λH=>rfl
 | some q=>
  obtain ⟨e,ty,m,Ep⟩:=q;simp only;split
  ·rename_i z _ _
   by_cases hz:z.cells.size=m
   ·simp only [AE hz]
    have hs:∀H:List AB,F6 H ty (.xl e0 q0)=(match Mh ty (.xl e0 q0) with|some l=> .ok l|none=> .no):=λH=>rfl
    cases hd:Mh ty (.xl e0 q0) with
    |none=>exact bad λH=>by rw [hs,hd];rfl
    | some q=>
     refine ⟨λob=>match ob with
      |some ⟨_,bt,.vec e' l,false⟩=>match Ja e' ty with
       |some ⟨h⟩=>if es=m/\bt=e then some (off+n=List.length l/\((n+List.length q:Nat):Int)*Ep<=2^47/\((n+List.length q:Nat):Int)<2^62,m,n+List.length q,e,⟨[],e,.vec ty (KI h (l.drop off)++q),false⟩) else none
       |none=>none
      |_=>none,λb p m' n' e' nb hf=>?_,rfl,λH K=>?_⟩
     ·simp only at hf
      split at hf
      ·split at hf
       ·split at hf
        ·simp only [Ad,Aq] at hf
         rw [<-hf.2.2.2.2];rfl
        ·cases hf
       ·cases hf
      ·cases hf
     ·rw [hs,hd]
      simp only [T.bind];split
      ·rename_i hb
       simp only [hb];split
       ·rename_i ht
        simp only [ht];split
        ·simp only [T.all]
        ·simp [T.all]
       ·rename_i ht
        simp only [ht]
        simp [T.all]
      ·rename_i hb
       split
       ·rename_i hf
        exfalso;split at hf
        ·rename_i h1
         grind
        ·cases hf
       ·simp [T.all]
   ·simp_all
  ·simp_all
def aC6 {ops:Array Oper} {n0:Nat} {o:Oper} (h:LP G ops n0 F H o=true):∃d k es off n,∃e0:Ty,∃q0:List e0.D,∃t tx,apD ops o=some d/\n0+ops.size<=H.length/\k=n0+d/\(∀tr,CK G F tr n0 o=true)/\((∀H':List AB,Ap P G Γ F H' o=L3 P H' t tx (.os k es off n) (.xl e0 q0))\/∀H':List AB,Ap P G Γ F H' o=.no):=by
 unfold LP at h;split at h
 ·rename_i args tys ho
  split at h
  ·rename_i d hd
   simp only [AU,AY] at h;obtain ⟨h1,h2⟩:=h;cases hm:args.toList.map (AL G F) with
   |nil=>rw [hm] at h2;simp [apK] at h2
   | cons a l=>
    cases l with
    |nil=>rw [hm] at h2;cases a<;>simp [apK] at h2
    | cons b l=>
     cases l with
     |cons c l=>rw [hm] at h2;cases a<;>cases b<;>simp [apK] at h2
     | nil=>
      rw [hm] at h2;cases a with
      | os k es off n=>
       cases b with
       | xl e0 q0=>
        simp only [apK,Cj] at h2
        have hok:∀tr,CK G F tr n0 o=true:=λtr=>by
         unfold CK EX;simp only [ho,hm,owns,IT,List.all_nil,jK,Cr,AY];omega
        cases ht:tys.toList with
        |nil=>exact ⟨d,k,es,off,n,e0,q0,0,0,hd,h1,h2,hok,.inr λH'=>kA⟩
        | cons t1 l=>cases l with
         |nil=>exact ⟨d,k,es,off,n,e0,q0,0,0,hd,h1,h2,hok,.inr λH'=>kA⟩
         |cons t2 l=>cases l with
          |nil=>exact ⟨d,k,es,off,n,e0,q0,t1,t2,hd,h1,h2,hok,.inl λH'=>kA⟩
          |cons _ _=>exact ⟨d,k,es,off,n,e0,q0,0,0,hd,h1,h2,hok,.inr λH'=>kA⟩
       |_=>simp [apK] at h2
      |_=>simp [apK] at h2
  ·cases h
 ·cases h
def aeL {k:Nat}{nb:Option AB}{H:List AB}:(putAt k nb H).length=H.length:=by cases nb<;>simp [putAt]
def aQl {ops:Array Oper}{n0 j:Nat}{nb:Option AB}{o:Oper}(h:LP G ops n0 F H o=true) (hj:apD ops o≠some j) (hlt:j<ops.size) (K:LV×List AB->Prop):
  (Ap P G Γ F (putAt (n0+j) nb H) o).all K↔(Ap P G Γ F H o).all (λq=>K (q.1,putAt (n0+j) nb q.2)):=by
 obtain ⟨d,k,es,off,n,e0,q0,t,tx,hd,hl,hk,_,ho⟩:=aC6 (P:=P) (Γ:=Γ) h
 have hkj:k≠n0+j:=by
  rintro e
  grind
 cases nb with
 |none=>exact Iff.rfl
 | some b=>
  have e1:(H.set (n0+j) b)[k]? =H[k]? :=Uz (OC hkj)
  obtain ⟨f,_,_,hf⟩:=ads (P:=P) (t:=t) (tx:=tx) (k:=k) (es:=es) (off:=off) (n:=n) (e0:=e0) (q0:=q0)
  have key:(L3 P (putAt (n0+j) (some b) H) t tx (.os k es off n) (.xl e0 q0)).all K↔(L3 P H t tx (.os k es off n) (.xl e0 q0)).all (λq=>K (q.1,putAt (n0+j) (some b) q.2)):=by
   rw [hf,hf];simp only [putAt,e1,Br];split
   ·rename_i e nb' _
    rw [List.set_comm _ _ hkj.symm,<-List.set_append_left _ _ AA]
   ·grind
  rcases ho with hb|hb
  ·grind
  ·rw [hb,hb];simp [T.all]
def aQm {ops:Array Oper}{n0:Nat}{nb:Option AB}{j:Nat}{o:Oper}:LP G ops n0 F (putAt j nb H) o=LP G ops n0 F H o:=by
 unfold LP;rw [aeL]
def amJ {ops:Array Oper}{tr:List Nat}{n0:Nat}{i j:Nat}{is:List Nat}{K:List LV×List AB->Prop}(hc:ff ops i j=true) (h:(Fg P G Γ ops tr n0 (j::i::is) F H).all K):(Fg P G Γ ops tr n0 (i::j::is) F H).all K:=by
 unfold ff at hc;split at hc
 ·rename_i x y hx hy
  simp only [AU,Cr,D4,Bq] at hc;obtain ⟨⟨⟨⟨hne,g1⟩,g2⟩,g3⟩,hap⟩:=hc;obtain ⟨a1,a2,a3⟩:=ZZ hap
  have hij:n0+j≠n0+i:=A0
  have step:∀(k:Nat) (o:Oper) (l:List Nat) (F:List LV) (H:List AB),ops[k]? =some o->o.guard.isNone=true->((Fg P G Γ ops tr n0 (k::l) F H).all K↔(CK G F tr n0 o=true/\(Hk P G Γ ops n0 k F H o).all (λq=>(Fg P G Γ ops tr n0 l (Al F o.dst q.1) q.2).all K))):=λk o l F H hk hg=>by
   simp only [Fg,hk,hg,Dj]
   by_cases hs:CK G F tr n0 o=true
   ·rw [AE hs,T.all_bind];exact ⟨λh=>⟨hs,h⟩,λh=>h.2⟩
   ·exact aM6
  have ap:∀(k:Nat) (o:Oper) (F:List LV) (H:List AB) (K:LV×List AB->Prop),LZ o=true->((Hk P G Γ ops n0 k F H o).all K↔(LP G ops n0 F H o=true/\(Ap P G Γ F H o).all K)):=λk o F H K ha=>by
   obtain ⟨q1,q2⟩:=ahJ ha;unfold Hk;rw [q1,q2]
   by_cases hs:LP G ops n0 F H o=true
   ·grind
   ·exact aM6
  have hil:i<ops.size:=(HO.1 hx).1
  have hjl:j<ops.size:=(HO.1 hy).1
  rw [step j y _ F H hy g2] at h;rw [step i x _ F H hx g1];obtain ⟨_,h⟩:=h
  have st1:∀(F:List LV) (H:List AB),((Fg P G Γ ops tr n0 (i::is) F H).all K↔_):=λF H=>step i x is F H hx g1
  have st2:∀(F:List LV) (H:List AB),((Fg P G Γ ops tr n0 (j::is) F H).all K↔_):=λF H=>step j y is F H hy g2
  simp only [st1] at h;simp only [st2];rcases g3 with (⟨g3,g4⟩ |⟨g3,g4,g5⟩) |⟨⟨g3,g5⟩,g4⟩
  ·have g3':(ER x ||Iu x)=true:=by simpa using g3
   have g4':(ER y ||Iu y)=true:=by simpa using g4
   obtain ⟨px,lx,nx,ex⟩:=oH (P:=P) (G:=G) (Γ:=Γ) (ops:=ops) (F:=F) (n0:=n0) (i:=i) g3';obtain ⟨py,ly,ny,ey⟩:=oH (P:=P) (G:=G) (Γ:=Γ) (ops:=ops) (F:=F) (n0:=n0) (i:=j) g4';rw [ey] at h;obtain ⟨h1,_,h2⟩:=h;rw [nN g3' a3,ex] at h2;refine ⟨cX g3' F,?_⟩;rw [ex];refine ⟨h2.1,cX g4' _,?_⟩;rw [nN g4' a1,ey];refine ⟨h1,?_⟩;rw [Kx a2,aey hij];exact h2.2
  ·have g3':(ER x ||Iu x)=true:=by simpa using g3
   obtain ⟨px,lx,nx,ex⟩:=oH (P:=P) (G:=G) (Γ:=Γ) (ops:=ops) (F:=F) (n0:=n0) (i:=i) g3';rw [ap j y F H _ g4] at h;obtain ⟨h1,h2⟩:=h
   have h2:(Ap P G Γ F H y).all (λq=>px/\(Fg P G Γ ops tr n0 is (Al (Al F y.dst q.1) x.dst lx) (putAt (n0+i) nx q.2)).all K):=T.BT (λq hq=>by
    have:=hq.2
    rw [nN g3' a3,ex] at this;exact this) h2
   have hp:px:=T.Sh (T.BT (λq hq=>hq.1) h2)
   refine ⟨cX g3' F,?_⟩;rw [ex];refine ⟨hp,?_⟩;simp only;obtain ⟨b1,b2,b3⟩:=aIP (P:=P) (G:=G) (Γ:=Γ) (F:=F) (H:=putAt (n0+i) nx H) (d:=x.dst) (y:=lx) g4 a1;refine ⟨AA,?_⟩;rw [ap j y _ _ _ g4,b3,aQm,b1,aQl h1 g5 hil];refine ⟨h1,T.BT (λq hq=>?_) h2⟩
   simp only;rw [Kx a2];exact hq.2
  ·have g4':(ER y ||Iu y)=true:=by simpa using g4
   obtain ⟨py,ly,ny,ey⟩:=oH (P:=P) (G:=G) (Γ:=Γ) (ops:=ops) (F:=F) (n0:=n0) (i:=j) g4';rw [ey] at h;obtain ⟨h1,_,h2⟩:=h;obtain ⟨b1,b2,b3⟩:=aIP (P:=P) (G:=G) (Γ:=Γ) (F:=F) (H:=putAt (n0+j) ny H) (d:=y.dst) (y:=ly) g3 a3;rw [ap i x _ _ _ g3,b3,aQm,b1] at h2;obtain ⟨h2,h3⟩:=h2;rw [aQl h2 g5 hjl] at h3;obtain ⟨_,_,_,_,_,_,_,_,_,_,_,_,hok,_⟩:=aC6 (P:=P) (Γ:=Γ) h2;refine ⟨hok tr,?_⟩;rw [ap i x _ _ _ g3];refine ⟨h2,T.BT (λq hq=>⟨cX g4' _,?_⟩) h3⟩
   rw [nN g4' a1,ey];refine ⟨h1,?_⟩;rw [Kx a2];exact hq
 ·cases hc
def amK {ops:Array Oper}{tr:List Nat}{n0:Nat}{j:Nat}{R R':List Nat}{K:List LV×List AB->Prop}(hh:∀(F:List LV) (H:List AB),(Fg P G Γ ops tr n0 R F H).all K->(Fg P G Γ ops tr n0 R' F H).all K) (h:(Fg P G Γ ops tr n0 (j::R) F H).all K):(Fg P G Γ ops tr n0 (j::R') F H).all K:=by
 simp only [Fg] at h|-;exact wo
def aCy {ops:Array Oper}{tr:List Nat}{n0:Nat}{i:Nat}{K:List LV×List AB->Prop}:∀(R:List Nat) (F:List LV) (H:List AB),i∈R->(FY i R).all (λj=>ff ops i j)=true->(Fg P G Γ ops tr n0 R F H).all K->(Fg P G Γ ops tr n0 (i::R.erase i) F H).all K
 | [],_,_,hi,_,_=>kg
 | j::R,F,H,hi,hb,h=>by
  by_cases hj:j=i
  ·subst hj
   grind
  ·have hi':i∈R:=by
    exact xK
   simp only [FY,AD hj,IT,AU] at hb;rw [V0 AA];exact amJ hb.1 (amK (λF H h=>aCy R F H hi' hb.2 h) h)
def adk {i:Nat}:∀ {R:List Nat},Ob R=true->∀i'∈R.erase i,i'≠i
 | [],_,_,h=>AA
 | k::R,hn,i',h=>by
  simp only [Ob,AU,D4] at hn
  by_cases hk:k=i
  ·subst hk
   simp only [List.erase_cons_head] at h
   rintro rfl
   have:i'∉R:=AA
   exact this h
  ·rw [V0 AA] at h
   rcases B1.1 h with rfl|h
   ·exact hk
   ·exact adk hn.2 i' h
def aCe {i:Nat}:∀ {R:List Nat},Ob R=true->Ob (R.erase i)=true
 | [],_=>AA
 | k::R,hn=>by
  simp only [Ob,AU,D4] at hn
  by_cases hk:k=i
  ·grind
  ·rw [V0 AA]
   simp only [Ob,AU,D4];refine ⟨?_,aCe hn.2⟩
   grind
def ae1 {l cs:List LV}{off:Nat}{j:Nat}(h:j∈ownsL (setAt l off cs)):j∈ownsL l\/j∈ownsL cs:=by
 obtain ⟨x,h1,h2⟩:=bg h;rcases Bp.1 h1 with h1|h1
 ·rcases Bp.1 h1 with h1|h1
  ·exact .inl (Qh (V1 h1) h2)
  ·exact .inr (Qh h1 h2)
 ·exact .inl (Qh (Pa h1) h2)
def aeZ {t:TypeId}{x y:LV}{H1:List AB}(h:(TF P H t x y).all (λq=>q=H1)):∃(k:Nat) (b nb:AB),H[k]? =some b/\H1=H.set k nb/\∀j,j∈nb.owns->j∈b.owns\/j∈owns y:=by
 unfold TF at h;split at h
 ·rename_i n cs hn hcs
  split at h
  ·rename_i k off
   split at h
   ·rename_i b hb
    split at h
    ·rename_i hc
     refine ⟨k,b,_,hb,h.symm,λj hj=>?_⟩
     have hcl:b.k=.cl:=by
      have:=hc.1
      unfold AB.Dl at this;split at this
      ·assumption
      ·cases this
     unfold AB.owns at hj|-;simp only [hcl,FJ] at hj|-;rcases ae1 hj with h|h
     ·exact .inl h
     ·exact .inr (mM hcs j h)
    ·cases h
   ·cases h
  ·rename_i k es i j
   split at h
   ·rename_i bt e l hb
    split at h
    ·simp only [T.all] at h
     obtain ⟨_,h⟩:=h;split at h
     ·simp only [T.all] at h
      refine ⟨k,_,_,hb,h.symm,λj hj=>?_⟩
      unfold AB.owns at hj
      simp [ownsL] at hj
     ·cases h
    ·cases h
   ·cases h
  ·cases h
 ·cases h
def aD2 {x:LV}:owns (norm x)=owns x:=by cases x<;>simp [norm,owns]
def aCL:∀(l:List LV),ownsL (l.map norm)=ownsL l
 | []=>rfl
 |x::xs=>by simp only [E8,ownsL,aD2,aCL xs]
def afS {l:List LV}{j:Nat}(h:j∈owns (JT l)):j∈ownsL l:=by
 unfold JT at h;split at h
 ·simp [owns] at h
 ·simp only [owns,aCL] at h;exact h
def aCT {place:Nat->Option (Nat×Nat)}:∀(parts:List (Nat×LV)) (cells cs:List LV),KG place cells parts=some cs->∀j,j∈ownsL cs->j∈ownsL cells\/∃q,q∈parts/\j∈owns q.2
 | [],cells,cs,h,j,hj=>by simp only [KG,Ad] at h;subst h;exact .inl hj
 | (i,x)::rest,cells,cs,h,j,hj=>by
  simp only [KG] at h;split at h
  ·rename_i off size c hp hc
   split at h
   ·rcases aCT rest _ cs h j hj with h1|⟨q,q1,q2⟩
    ·rcases ae1 h1 with h2|h2
     ·grind
     ·exact .inr ⟨(i,x),AJ,mM hc j h2⟩
    ·grind
   ·cases h
  ·cases h
def aeg {t:TypeId}{parts:List (Nat×LV)}{lv:LV}(h:(NK P t parts).all (λz=>z=lv)) (j:Nat) (hj:j∈owns lv):∃q,q∈parts/\j∈owns q.2:=by
 unfold NK at h;split at h
 ·split at h
  ·rename_i z pf _ _ cs hcs
   have hj':j∈ownsL cs:=by
    rw [<-h] at hj;split at hj
    ·exact hj
    ·exact afS hj
   rcases aCT parts _ cs hcs j hj' with h1|h1
   ·rw [aBH] at h1;cases h1
   ·exact h1
  ·cases h
 ·cases h
def afi {x:Operand}{j:Nat}(h:j∈owns (Hb G F x)):j∈ownsL F:=by
 cases x with
 |const v=>simp only [Hb,aD2] at h;exact Sa h
 |tmp t=>exact Sa (G:=G) (x:=.tmp t) h
 |global g=>exact Sa (G:=G) (x:=.global g) h
 |func f=>exact Sa (G:=G) (x:=.func f) h
def an1 {ops:Array Oper} {n0:Nat} {done:Nat->Prop} {R:List Nat} {g g':Gh} {o:Oper} {i:Nat} {lv:LV} {H1:List AB} (hI:Rm n0 done R g) (hnd:∀i'∈R.erase i,i'≠i) (hs:(Hk P G Γ ops n0 i g.F g.H o).all (λq=>q=(lv,H1))) (eF:g'.F=Al g.F o.dst lv) (eH:g'.H=H1):∃done',Rm n0 done' (R.erase i) g':=by
 have up:∀j,(j<n0\/∃i',done i'/\j=n0+i')->j<n0\/∃i',(done i'\/i'=i)/\j=n0+i':=λj h=>by
  rcases h with h|⟨i',h1,h2⟩
  ·exact .inl h
  ·exact xX
 unfold Hk at hs;split at hs
 ·refine ⟨λi'=>done i'\/i'=i,?_⟩
  have al:∀nb:AB,owns lv=[n0+i]->H1=g.H.set (n0+i) nb->(∀j,j∈nb.owns->j∈ownsL g.F)->Rm n0 (λi'=>done i'\/i'=i) (R.erase i) g':=λnb ho hH1 hcs=>by
   subst hH1;refine ⟨λj hj=>?_,λk b hb j hj=>?_,λi' hi'=>?_⟩
   ·rw [eF] at hj
    rcases mg hj with h|h
    ·exact up j (hI.f j h)
    ·grind
   ·rw [eH,HI] at hb
    split at hb
    ·split at hb
     ·simp only [Ad] at hb
      subst hb;exact up j (hI.f j (hcs j hj))
     ·cases hb
    ·exact up j (hI.h k b hb j hj)
   ·obtain ⟨h1,b,h2⟩:=hI.dead i' (PY hi')
    refine ⟨λh=>h.elim h1 (hnd i' hi'),b,?_⟩
    grind
  rcases aFA (Γ:=Γ) hs with ⟨cs,t,rfl,hH1,_,hcs⟩ |⟨m,n,e,ty,l,rfl,hH1,_⟩
  ·exact al _ rfl hH1 (λj hj=>by
    unfold AB.owns at hj;simp only [FJ] at hj;exact hcs j hj)
  ·exact al _ rfl hH1 (λj hj=>by
    unfold AB.owns at hj
    simp [ownsL] at hj)
 ·split at hs
  ·rename_i hst
   refine ⟨λi'=>done i'\/i'=i,?_⟩
   have other:∀(x:LV),lv=x->H1=g.H->(∀j,j∈owns x->j∈ownsL g.F)->Rm n0 (λi'=>done i'\/i'=i) (R.erase i) g':=λx e1 e2 e3=>by
    subst e1 e2;refine ⟨λj hj=>?_,λk b hb j hj=>?_,λi' hi'=>?_⟩
    ·rw [eF] at hj
     rcases mg hj with h|h
     ·exact up j (hI.f j h)
     ·exact up j (hI.f j (e3 j h))
    ·rw [eH] at hb;exact up j (hI.h k b hb j hj)
    ·obtain ⟨h1,b,h2⟩:=hI.dead i' (PY hi')
     grind
   unfold PI at hst;split at hst
   ·rename_i t x y ho
    unfold Ap at hs;simp only [ho] at hs;obtain ⟨H2,h1,h2⟩:=T.Ay hs;obtain ⟨rfl,rfl⟩:=h2;obtain ⟨k,b,nb,q1,q2,q3⟩:=aeZ h1;subst q2;refine ⟨λj hj=>?_,λk' b' hb j hj=>?_,λi' hi'=>?_⟩
    ·rw [eF] at hj
     rcases mg hj with h|h
     ·exact up j (hI.f j h)
     ·simp [owns] at h
    ·rw [eH,HI] at hb
     split at hb
     ·split at hb
      ·simp only [Ad] at hb
       subst hb;rcases q3 j hj with h|h
       ·exact up j (hI.h k b q1 j h)
       ·exact up j (hI.f j (Sa h))
      ·cases hb
     ·exact up j (hI.h k' b' hb j hj)
    ·obtain ⟨h1,b0,h2⟩:=hI.dead i' (PY hi')
     refine ⟨λh=>h.elim h1 (hnd i' hi'),?_⟩
     rw [eH]
     grind
   ·exact aKU
   ·exact aKU
   ·rename_i t parts ho
    unfold Ap at hs;simp only [ho] at hs;obtain ⟨y,h1,h2⟩:=T.Ay hs;simp only [T.all,Aq] at h2;refine other _ h2.1.symm h2.2.symm (λj hj=>?_)
    obtain ⟨q,q1,q2⟩:=aeg h1 j hj;obtain ⟨q0,_,rfl⟩:=Eg.1 q1;exact afi q2
   ·cases hst
  ·split at hs
   ·rename_i hap
    obtain ⟨d,k,es,off,n,e0,q0,t,tx,_,hl,_,_,ho⟩:=aC6 (P:=P) (Γ:=Γ) hap;rcases ho with ho|ho
    ·obtain ⟨f,f1,_,hf⟩:=ads (P:=P) (t:=t) (tx:=tx) (k:=k) (es:=es) (off:=off) (n:=n) (e0:=e0) (q0:=q0)
     rw [ho,hf] at hs;split at hs
     ·rename_i p m n' e nb he
      obtain ⟨_,hs⟩:=hs;simp only [Aq] at hs;obtain ⟨rfl,hH⟩:=hs
      have hnb:=f1 _ _ _ _ _ _ he
      refine ⟨λi'=>(done i'\/i'=i)\/i'=g.H.length-n0,λj hj=>?_,λk' b hb j hj=>?_,λi' hi'=>?_⟩
      ·rw [eF] at hj
       rcases mg hj with h|h
       ·rcases up j (hI.f j h) with h|⟨i',h1,h2⟩
        ·exact .inl h
        ·exact xX
       ·simp only [owns,Kp] at h
        grind
      ·rw [eH,<-hH] at hb
       by_cases hk:k'<g.H.length
       ·rw [HN (by rw [Br];exact hk),HI] at hb
        split at hb
        ·split at hb
         ·simp only [Ad] at hb
          subst hb
          simp [AB.owns,ownsL] at hj
         ·cases hb
        ·rcases up j (hI.h k' b hb j hj) with h|⟨i',h1,h2⟩
         ·exact .inl h
         ·exact xX
       ·rw [Fu (by rw [Br];omega)] at hb
        have:b=nb:=by
         cases hq:k'-(g.H.set k ⟨[],e,.dead,false⟩).length with
         |zero=>rw [hq] at hb;simpa using hb.symm
         |succ z=>rw [hq] at hb;simp at hb
        subst this;rw [hnb] at hj;cases hj
      ·obtain ⟨h1,b,h2⟩:=hI.dead i' (PY hi')
       have hlt:=(Du.1 h2).1
       refine ⟨λh=>h.elim (λh=>h.elim h1 (hnd i' hi')) (λh=>A0),?_⟩
       rw [eH,<-hH]
       grind
     ·exact hs.elim
    ·rw [ho] at hs
     cases hs
   ·cases hs
def aDH (hΓ:∀g S,Γ g=some S->Valid P G g S) {ops:Array Oper}{tr:List Nat}{D:World->Prop}{sp:Nat->Bool}{Q:Act->Gh->Prop}{F':List LV}{H':List AB}(hgh:∀p,p∈Z0.gh->okV H.length p.1)
  (hQ:∀g:Gh,g.F=F'->g.H=H'->Q g.a g):∀(n:Nat) (R:List Nat) (listed:Array Bool) (g:Gh) (done:Nat->Prop),Ob R=true->Rm H.length done R g->(∀i∈R,sp i=true)->aK ops n R listed=true->
   (Fg P G Γ ops tr H.length R g.F g.H).all (λq=>q=(F',H'))->KA P .any ops D (CY ds G w0 Z0 tr β H wr) sp Q n listed g.a g
 |0,R,listed,g,_,_,_,_,hB,h=>by
  simp only [aK,AU,ZX] at hB;obtain ⟨rfl,h2⟩:=hB;simp only [Fg,T.all,Aq] at h;exact ⟨h2,hQ g h.1 h.2⟩
 | n + 1,R,listed,g,done,hnd,hI,hs,hB,h=>by
  simp only [aK,AU,BL,D4,jG] at hB;obtain ⟨hne,hall⟩:=hB;refine ⟨λh0=>absurd h0 hne,λi hi=>?_⟩
  obtain ⟨⟨hR,hbef⟩,hrest⟩:=hall i hi
  have hiR:i∈R:=AA
  have hf:=aCy R g.F g.H hiR AA h
  simp only [Fg] at hf;split at hf
  ·rename_i o ho
   split at hf
   ·rename_i hgs
    simp only [AU,ZR] at hgs;obtain ⟨hgd,hst⟩:=hgs
    have hw:Region.wanted o (yielded ops g.a.tmps)=true:=xg
    unfold Dr;simp only [ho,hw,Bm,hs i hiR];obtain ⟨⟨lv,H1⟩,h1,h2⟩:=T.Ay hf
    have hne2:∀i'∈R.erase i,i'≠i:=adk hnd
    intro w' hc
    have goal:DV P (λv w''=>∃g':Gh,CY ds G w0 Z0 tr β H wr g' w''/\g'.F=Al g.F o.dst lv/\g'.H=H1/\g'.a=g.a.put o.dst v) ((execOp g.a.eval o).run P w'):=by
     unfold Hk at h1;split at h1
     ·exact azF hΓ hgh hI hiR hst h1 hc
     ·split at h1
      ·exact bq hΓ hst h1 hc
      ·split at h1
       ·exact bq hΓ hst h1 hc
       ·cases h1
    refine Jx (λv w'' ⟨g',e1,e2,e3,e4⟩=>⟨g',e1,?_⟩) goal
    rw [<-e4];obtain ⟨done',hI'⟩:=an1 hI hne2 h1 e2 e3;refine aDH hΓ hgh hQ n (R.erase i) _ g' done' (aCe hnd) hI' (λj hj=>hs j (PY hj)) hrest ?_
    rwa [e2,e3]
   ·cases hf
  ·cases hf
def RW.acZ {βd:Nat->Loc}{m:Nat}(hW:RW G w0 Z0 Z β H w) (hd:∀k,k<H.length->βd k=β k):RW G w0 Z0 Z βd (H++List.replicate m Fy) w:=by
 have old:∀(k:Nat) (b:AB),(H++List.replicate m Fy)[k]? =some b->(k<H.length/\H[k]? =some b)\/b=Fy:=λk b hb=>by
  by_cases h0:k<H.length
  ·grind
  ·rw [Fu A0,V8] at hb
   split at hb
   ·grind
   ·cases hb
 have nl:∀k,¬live βd k Fy:=λk h=>by simp [live,Fy] at h
 refine ⟨hW.below,hW.BV,hW.ES,λk b hk hl hp=>?_,λk b hk hl hp=>?_,λk b hk hl=>?_,λi j bi bj hi hj li lj pi e=>?_,λk b hk=>?_,hW.CV,λp hp=>⟨R.mono hd (λ_ h=>h) (λ_ _=>rfl) _ _ (hW.gh p hp).2 (hW.gh p hp).1,okV.mono AJ _ (hW.gh p hp).2⟩,hW.Ci⟩
 ·rcases old k b hk with ⟨h1,h2⟩ |rfl
  ·rw [hd k h1];rw [K5 (hd k h1)] at hl;exact hW.Cg k b h2 hl hp
  ·grind
 ·rcases old k b hk with ⟨h1,h2⟩ |rfl
  ·rw [hd k h1];rw [K5 (hd k h1)] at hl;exact hW.G0 k b h2 hl hp
  ·grind
 ·rcases old k b hk with ⟨h1,h2⟩ |rfl
  ·rw [hd k h1];rw [K5 (hd k h1)] at hl;exact hW.low k b h2 hl
  ·grind
 ·rcases old i bi hi with ⟨h1,h2⟩ |rfl
  ·rcases old j bj hj with ⟨g1,g2⟩ |rfl
   ·rw [K5 (hd i h1)] at li;rw [K5 (hd j g1)] at lj;rw [hd i h1,hd j g1] at e
    exact hW.inj i j bi bj h2 g2 li lj pi e
   ·grind
  ·grind
 ·rcases old k b hk with ⟨h1,h2⟩ |rfl
  ·obtain ⟨g1,g2⟩:=hW.blk k b h2
   exact ⟨g1.keep hd (λ_ h=>h) (λ_ _=>rfl) (hd k h1) (λ_=>rfl) g2,g2.mono AJ⟩
  ·exact ⟨by simp [BU,Fy],trivial,trivial⟩
def aDl (hΓ:∀g S,Γ g=some S->Valid P G g S) {ops:Array Oper} {Q:Exit->Act->World->Prop} {F':List LV} {H':List AB} (hQ:∀Z' β' a' w',RW G w0 Z0 Z' β' H' w'->RF ds β' Z' w' H'.length F' a'->Q .normal a' w')
  (hW0:RW G w0 Z0 Z β H w) (hF0:RF ds β Z w H.length F a) (h:(fa P G Γ ops F H).all (λq=>q=(F',H'))) (r:Option Nat) (m:Nat):P.follows .mixedOrders=true/\wpAnyIn (DR r) m P .any ops Q ops.size (Array.replicate ops.size false) a {w with drawn:=w.drawn+1}:=by
 unfold fa at h;simp only at h;split at h
 ·rename_i hc
  simp only [AU] at hc;obtain ⟨⟨hcalm,hmix⟩,htr0⟩:=hc;generalize hfl:cI _ [] ops.toList=flags at h hcalm;generalize htrd:tracked H ops.toList F=tr at h htr0
  have htr:∀k∈tr,k<H.length:=λk hk=>xm
  obtain ⟨⟨F1,H1⟩,h1,h2⟩:=T.Ay h
  have hk:=Vu (P:=P) (G:=G) (Γ:=Γ) (H:=H) (tr:=tr) (Hm:=EN tr 0 H) (F0:=F) flags ops.toList F (λ_ h=>h) ⟨rfl,λ_ _=>rfl⟩
  obtain ⟨⟨F2,H2⟩,g1,g2,g3⟩:=OM hk h1
  have hH2:H2=H:=(T.QA hk g1).2.2
  subst hH2
  have hbd:Below w.heap.size w {w with drawn:=w.drawn+1}:=⟨rfl,rfl,rfl,At _,λ_ _=>rfl⟩
  have hW:=hW0.same hbd
  have hF:RF ds β Z {w with drawn:=w.drawn+1} H2.length F a:=hF0.mono (At _) (λ_ _=>rfl) (λ_ h=>h) (λ_ _=>rfl)
  have hflen:flags.length=ops.toList.length:=by
   unfold fu at hcalm;exact xR
  have hops:ops=ops.toList.toArray:=AJ
  have hshp0:Shp tr β H2 {w with drawn:=w.drawn+1}:=λk b _ hb hcl=>by
   exact xE
  refine ⟨hmix,?_⟩;rw [hops]
  refine aea (P:=P) (G:=Gh) (D:=λw'=>DM (DP β H2 tr) {w with drawn:=w.drawn+1} w'/\Below w0.heap.size w0 w'/\Shp tr β H2 w') (C:=λg w'=>CY ds G w0 Z0 tr β H2 {w with drawn:=w.drawn+1} g w') flags ⟨Z,β,H2,F,a⟩ xh (λg w' hc=>⟨hc.near,hc.rw.below,hc.shape⟩) (λg w1 w2 hc hb=>hc.keep hb)
   ⟨hW,hF,DM.refl _ _,At _,λ_ _=>rfl,λk k1 k2=>absurd k2 (V9.2 k1),EvL.refl _⟩ ?_
  rw [<-hops]
  have hlm:(EN tr 0 H2).length=H2.length:=Ve tr H2 0
  have hDm:∀w',(DM (DP β H2 tr) {w with drawn:=w.drawn+1} w'/\Below w0.heap.size w0 w'/\Shp tr β H2 w')->RW G w0 Z0 Z β (EN tr 0 H2) w'/\∀b,(Z b\/∃k bk,(EN tr 0 H2)[k]? =some bk/\live β k bk/\tr.contains k=false/\b=(β k).b)->w'.heap[b]? =({w with drawn:=w.drawn+1}:World).heap[b]? :=λw' ⟨d1,d2,d3⟩=>by
   exact wy
  refine WA (H:=H2) (HH:=H2) (F':=F2) hΓ hlm (hW.mask (DM.refl _ _) hW.below hshp0) hDm (λa1 hF1=>?_) flags ops.toList F a hflen hF g1
  have hF1':=g3 _ _ _ _ _ _ hF1
  refine my (Q':=λa' w'=>Q .normal a' w') (g1:=⟨Z,β,H2,F1,a1⟩) (λw' hc=>?_) flags ops.toList a1 ?_
  ·exact aL3
  ·exact nD (H:=H2) (F':=F') (H':=H') hΓ (λg e1 e2 w' hc=>hQ g.Z g.β g.a w' Zu Zr) flags ops.toList ⟨Z,β,H2,F1,a1⟩ hflen ⟨_,hW,hF1',DM.refl _ _,At _,λ_ _=>rfl,λk k1 k2=>absurd k2 (V9.2 k1),EvL.refl _⟩ h2
 ·split at h
  ·rename_i hc
   simp only [AU] at hc;obtain ⟨⟨hcalm,hmix⟩,htr0⟩:=hc
   replace hord:(WZ ops _ ||dU P ops _)=true:=hcalm
   replace hcalm:=(SF.1 hcalm).elim (λe=>by unfold WZ at e;exact (Bool.and_eq_true_iff.1 e).1) (λe=>by unfold dU at e;exact (Bool.and_eq_true_iff.1 e).1)
   generalize hfl:cI _ [] ops.toList=flags at h hcalm hord;generalize htrd:tracked H ops.toList F=tr at h htr0
   have htr:∀k∈tr,k<H.length:=λk hk=>xm
   obtain ⟨⟨F1,H1⟩,h1,h2⟩:=T.Ay h
   have hk:=Vu (P:=P) (G:=G) (Γ:=Γ) (H:=H) (tr:=tr) (Hm:=EN tr 0 H) (F0:=F) flags ops.toList F (λ_ h=>h) ⟨rfl,λ_ _=>rfl⟩
   obtain ⟨⟨F2,H2⟩,g1,g2,g3⟩:=OM hk h1
   have hH2:H2=H:=(T.QA hk g1).2.2
   subst hH2
   have hbd:Below w.heap.size w {w with drawn:=w.drawn+1}:=⟨rfl,rfl,rfl,At _,λ_ _=>rfl⟩
   have hW:=hW0.same hbd
   have hF:RF ds β Z {w with drawn:=w.drawn+1} H2.length F a:=hF0.mono (At _) (λ_ _=>rfl) (λ_ h=>h) (λ_ _=>rfl)
   have hflen:flags.length=ops.toList.length:=by
    unfold TC at hcalm;exact xR
   have hops:ops=ops.toList.toArray:=AJ
   have hshp0:Shp tr β H2 {w with drawn:=w.drawn+1}:=λk b _ hb hcl=>by
    exact xE
   refine ⟨hmix,?_⟩;rw [hops]
   refine ade (P:=P) (G:=Gh) (D:=λw'=>DM (DP β H2 tr) {w with drawn:=w.drawn+1} w'/\Below w0.heap.size w0 w'/\Shp tr β H2 w') (C:=λg w'=>CY ds G w0 Z0 tr β H2 {w with drawn:=w.drawn+1} g w') flags ⟨Z,β,H2,F,a⟩ xh (λg w' hc=>⟨hc.near,hc.rw.below,hc.shape⟩) (λg w1 w2 hc hb=>hc.keep hb)
    ⟨hW,hF,DM.refl _ _,At _,λ_ _=>rfl,λk k1 k2=>absurd k2 (V9.2 k1),EvL.refl _⟩ ?_
   rw [<-hops]
   have hlm:(EN tr 0 H2).length=H2.length:=Ve tr H2 0
   have hDm:∀w',(DM (DP β H2 tr) {w with drawn:=w.drawn+1} w'/\Below w0.heap.size w0 w'/\Shp tr β H2 w')->RW G w0 Z0 Z β (EN tr 0 H2) w'/\∀b,(Z b\/∃k bk,(EN tr 0 H2)[k]? =some bk/\live β k bk/\tr.contains k=false/\b=(β k).b)->w'.heap[b]? =({w with drawn:=w.drawn+1}:World).heap[b]? :=λw' ⟨d1,d2,d3⟩=>by
    exact wy
   refine WA (H:=H2) (HH:=H2) (F':=F2) hΓ hlm (hW.mask (DM.refl _ _) hW.below hshp0) hDm (λa1 hF1=>?_) flags ops.toList F a hflen hF g1
   have hF1':=g3 _ _ _ _ _ _ hF1
   refine bE (Q':=λa' w'=>Q .normal a' w') (g1:=⟨Z,β,H2,F1,a1⟩) (λw' hc=>?_) _ _ a1 ?_
   ·exact aL3
   ·cases hfx:WZ ops flags with
    | true=>
     rw [AE hfx] at h2
     have hord2:=hfx
     unfold WZ at hord2;simp only [AU,Cr] at hord2
     exact aBJ (H:=H2) (F':=F') (H':=H') hΓ (λg e1 e2 w' hc=>hQ g.Z g.β g.a w' Zu Zr) _ (idxs true flags 0) _ ⟨Z,β,H2,F1,a1⟩ (λi hi=>by
      obtain ⟨_,h⟩:=mW true flags 0 i hi;simp only [Nat.sub_zero] at h
      simp [List.getD,h]) (hord2.2.elim aOk id) h2
    |false=>
     rw [AD (by rw [hfx];decide)] at h2
     rw [hfx,Ct] at hord;unfold dU at hord;simp only [AU,BL] at hord;exact adt (H:=H2) (F':=F') (H':=H') hΓ (λg e1 e2 w' hc=>hQ g.Z g.β g.a w' Zu Zr) _ (TZ ops (idxs true flags 0)) _ ⟨Z,β,H2,F1,a1⟩ (λi hi=>hord.2.1 i hi) hord.2.2 h2
  ·split at h
   ·rename_i hc
    simp only [AU] at hc;obtain ⟨⟨hcalm,hmix⟩,htr0⟩:=hc;unfold alx at hcalm;simp only [AU] at hcalm;obtain ⟨⟨⟨hcalm,hnd⟩,hlt⟩,hord⟩:=hcalm;generalize hfl:cI _ [] ops.toList=flags at h hcalm hord hnd hlt;generalize htrd:tracked H ops.toList F=tr at h htr0
    have htr:∀k∈tr,k<H.length:=λk hk=>xm
    obtain ⟨⟨F1,H1⟩,h1,h2⟩:=T.Ay h
    have hk:=Vu (P:=P) (G:=G) (Γ:=Γ) (H:=H) (tr:=tr) (Hm:=EN tr 0 H) (F0:=F) flags ops.toList F (λ_ h=>h) ⟨rfl,λ_ _=>rfl⟩
    obtain ⟨⟨F2,H2⟩,g1,g2,g3⟩:=OM hk h1
    have hH2:H2=H:=(T.QA hk g1).2.2
    subst hH2
    have hbd:Below w.heap.size w {w with drawn:=w.drawn+1}:=⟨rfl,rfl,rfl,At _,λ_ _=>rfl⟩
    have hW:=hW0.same hbd
    have hF:RF ds β Z {w with drawn:=w.drawn+1} H2.length F a:=hF0.mono (At _) (λ_ _=>rfl) (λ_ h=>h) (λ_ _=>rfl)
    have hflen:flags.length=ops.toList.length:=by
     unfold TC at hcalm;exact xR
    have hops:ops=ops.toList.toArray:=AJ
    have hshp0:Shp tr β H2 {w with drawn:=w.drawn+1}:=λk b _ hb hcl=>by
     exact xE
    refine ⟨hmix,?_⟩;rw [hops]
    refine ade (P:=P) (G:=Gh) (D:=λw'=>DM (DP β H2 tr) {w with drawn:=w.drawn+1} w'/\Below w0.heap.size w0 w'/\Shp tr β H2 w') (C:=λg w'=>CY ds G w0 Z0 tr β H2 {w with drawn:=w.drawn+1} g w') flags ⟨Z,β,H2,F,a⟩ xh (λg w' hc=>⟨hc.near,hc.rw.below,hc.shape⟩) (λg w1 w2 hc hb=>hc.keep hb)
     ⟨hW,hF,DM.refl _ _,At _,λ_ _=>rfl,λk k1 k2=>absurd k2 (V9.2 k1),EvL.refl _⟩ ?_
    rw [<-hops]
    have hlm:(EN tr 0 H2).length=H2.length:=Ve tr H2 0
    have hDm:∀w',(DM (DP β H2 tr) {w with drawn:=w.drawn+1} w'/\Below w0.heap.size w0 w'/\Shp tr β H2 w')->RW G w0 Z0 Z β (EN tr 0 H2) w'/\∀b,(Z b\/∃k bk,(EN tr 0 H2)[k]? =some bk/\live β k bk/\tr.contains k=false/\b=(β k).b)->w'.heap[b]? =({w with drawn:=w.drawn+1}:World).heap[b]? :=λw' ⟨d1,d2,d3⟩=>by
     exact wy
    refine WA (H:=H2) (HH:=H2) (F':=F2) hΓ hlm (hW.mask (DM.refl _ _) hW.below hshp0) hDm (λa1 hF1=>?_) flags ops.toList F a hflen hF g1
    have hF1':=g3 _ _ _ _ _ _ hF1
    have d1:∀k,k<H2.length->(λk=>if k<H2.length then β k else ⟨w.heap.size,0,none⟩:Nat->Loc) k=β k:=λk hk=>by simp [hk]
    have d2:∀k,H2.length<=k->((λk=>if k<H2.length then β k else ⟨w.heap.size,0,none⟩:Nat->Loc) k).b=w.heap.size:=λk hk=>by simp [V9.2 hk]
    generalize (λk=>if k<H2.length then β k else ⟨w.heap.size,0,none⟩:Nat->Loc)=βd at d1 d2
    refine bE (Q':=λa' w'=>Q .normal a' w') (g1:=⟨Z,βd,H2++List.replicate ops.size Fy,F1,a1⟩) (λw' hc=>?_) _ _ a1 ?_
    ·refine ⟨hc.rw.acZ d1,?_,hc.near,AJ,λk hk=>d1 k hk,λk k1 k2=> .inl (by rw [d2 k k1];exact At _),EvL.app _ _⟩
     exact hF1'.mono AJ d1 (λ_ h=>h) (λb hz=>hc.near.block b (hW.BV b hz) (hW.mS hz))
    ·refine aDH (H:=H2) (F':=F') (H':=H') hΓ (λp hp=>(hW.gh p hp).2) (λg e1 e2 w' hc=>hQ g.Z g.β g.a w' Zu Zr) _ (idxs true flags 0) _ ⟨Z,βd,H2++List.replicate ops.size Fy,F1,a1⟩ (λ_=>False) hnd ⟨λj hj=>?_,λk b hb j hj=>?_,λi hi=>⟨λh=>h,?_⟩⟩ (λi hi=>by
      obtain ⟨_,h⟩:=mW true flags 0 i hi;simp only [Nat.sub_zero] at h
      simp [List.getD,h]) hord h2
     ·obtain ⟨x,q1,q2⟩:=bg hj
      obtain ⟨t',q3⟩:=List.getElem?_of_mem q1;exact .inl (okV_owns x (hF1'.get t' x q3).2 j q2)
     ·by_cases h0:k<H2.length
      ·simp only at hb
       rw [HN h0] at hb;exact .inl (aE5 (hW.blk k b hb).2 j hj)
      ·simp only at hb
       rw [Fu A0,V8] at hb;split at hb
       ·simp only [Ad] at hb
        subst hb
        simp [AB.owns,Fy,ownsL] at hj
       ·cases hb
     ·have hlt':i<ops.size:=by simpa using BL.1 hlt i hi
      exact ⟨_,DF Cn⟩
   ·cases h
def aCH {α:Type}{f:Nat->T α}{n:Int}{p:α->Prop}:∀(m j:Nat),(splitN f n m j).all p->(j:Int)<=n->n<(j:Int)+m->∃i:Nat,n=(i:Int)/\(f i).all p
 |0,j,_,h1,h2=>A0
 |1,j,h,h1,h2=>⟨j,A0,h⟩
 |m+2,j,h,h1,h2=>by
  simp only [splitN,T.all] at h
  by_cases e:n=(j:Int)
  ·grind
  ·exact aCH (m+1) (j+1) (h.2 AA) A0 A0
def aeP {ops:List Oper}{s len:Nat}{k:IntKind}{n:Int}(h:q9 P ops F=some (s,k,n,len)):F.getD s .junk=.v (.int k n):=by
 unfold q9 at h;split at h
 ·obtain ⟨o,_,ho⟩:=List.exists_of_findSome?_eq_some h
  split at ho
  ·split at ho
   ·split at ho
    ·rename_i hx
     obtain ⟨rfl,rfl,rfl,rfl⟩:=ho;exact hx
    ·cases ho
   ·cases ho
  ·cases ho
 ·cases h
def aDQ (hΓ:∀g S,Γ g=some S->Valid P G g S) {ops:Array Oper}{Q:Exit->Act->World->Prop}{F':List LV}{H':List AB}(hQ:∀Z' β' a' w',RW G w0 Z0 Z' β' H' w'->RF ds β' Z' w' H'.length F' a'->Q .normal a' w')
  (hW0:RW G w0 Z0 Z β H w) (hF0:RF ds β Z w H.length F a) (h:(XS P G Γ ops F H).all (λq=>q=(F',H'))) (r:Option Nat) (m:Nat):P.follows .mixedOrders=true/\wpAnyIn (DR r) m P .any ops Q ops.size (Array.replicate ops.size false) a {w with drawn:=w.drawn+1}:=by
 unfold XS at h;split at h
 ·rename_i s k n len hs
  obtain ⟨⟨h0,h1⟩,h2⟩:=h;obtain ⟨i,hi,h3⟩:=aCH len 0 h2 A0 A0
  have hx:=aeP hs
  obtain ⟨s1,s2⟩:=hF0.slot hx AJ
  have hv:=(hF0.get s _ s1).1
  exact aDl hΓ hQ hW0 (hF0.know (lv:=.ki k i) (by simp only [R];rw [hv,hi]) trivial) h3 r m
 ·exact aDl hΓ hQ hW0 hF0 h r m
def aei (hΓ:∀g S,Γ g=some S->Valid P G g S) {id:Nat}{ops:Array Oper}{Q:Exit->Act->World->Prop}{F':List LV}{H':List AB}(hQ:∀Z' β' a' w',RW G w0 Z0 Z' β' H' w'->RF ds β' Z' w' H'.length F' a'->Q .normal a' w')
  (hW0:RW G w0 Z0 Z β H w) (hF0:RF ds β Z w H.length F a) (h:(XS P G Γ ops F H).all (λq=>q=(F',H'))) (r:Option Nat) (m:Nat):(Code.region id ops true).wpIn (DR r) m P Q a w:=
 have h1:=aDQ hΓ hQ hW0 hF0 h r m
 wpIn_region_any h1.1 h1.2
def aeG {ops:Array Oper}{o:Oper}(h:nF G Γ ops=some o):∃ys:Array Oper,ops=ys.push o/\ops.pop=ys/\o.guard=none/\lastB .any ys o=true:=by
 unfold nF at h;split at h
 ·rename_i o' hb
  split at h
  ·split at h
   ·cases h
   ·split at h
    ·rename_i hl
     obtain rfl:=Dw h;obtain ⟨ys,rfl⟩:=Array.back?_eq_some_iff.1 hb;rw [Array.pop_push] at hl|-;refine ⟨ys,rfl,rfl,?_,hl⟩;simp only [lastB,AU] at hl
     simp_all
    ·cases h
  ·cases h
 ·cases h
def ady {K:Hand}(hΓ:∀g S,Γ g=some S->Valid P G g S) (hK:F5 P G K) {id:Nat}{ops:Array Oper}{Q:Exit->Act->World->Prop}{F':List LV}{H':List AB}(hQ:∀Z' β' a' w',RW G w0 Z0 Z' β' H' w'->RF ds β' Z' w' H'.length F' a'->Q .normal a' w')
  (hW0:RW G w0 Z0 Z β H w) (hF0:RF ds β Z w H.length F a) (h:(fc P G Γ K ops F H).all (λq=>q=(F',H'))) (r:Option Nat) (m:Nat):(Code.region id ops true).wpIn (DR r) m P Q a w:=by
 unfold fc at h;split at h
 ·rename_i o ho
  obtain ⟨ys,rfl,hp,hg,hl⟩:=aeG ho;rw [hp] at h;obtain ⟨⟨F1,H1⟩,h1,h2⟩:=T.Ay h;obtain ⟨⟨lv,H2⟩,h3,h4⟩:=T.Ay h2;obtain ⟨rfl,rfl⟩:=h4
  have h5:=aDQ hΓ (Q:=XO (DR r) m P (ys.push o) Q ys.size) (λZ' β' a' w' e1 e2=>by
   show wpOpIn (DR r) m P (ys.push o) Q ys.size (Q .normal) a' w'
   unfold wpOpIn
   have hw:Region.wanted o (yielded (ys.push o) a'.tmps)=true:=Zt
   simp only [Array.getElem?_push_size,hw,Bm];exact Vq (Jx (λv w' ⟨Z',β',e1,e2,e3,e4⟩=>hQ Z' β' _ w' e1 (e2.put e3 e4 o.dst)) (aC2 hΓ hK e1 e2 h3)) r m) hW0 hF0 h1 r m
  exact aeB h5.1 hl h5.2
 ·exact aei hΓ hQ hW0 hF0 h r m
end Go.Sx
namespace Go.Sx
open Go Go.RowKit Go.Proofs.YtgmhhjldohjpmaaGreatDoor
variable {P : Program} {G : Av} {Γ : Specs} {K : Hand} {β : Nat -> Loc} {Z : Nat -> Prop} {Z0 : Gz} {w w0 : World} {F : List LV} {H : List AB} {a : Act} {ds : List Deferred}
def amZ {ops:Array Oper}{o:Oper}{t:Tmp}(h:Operand.tmp t∈o.op.operands):t∈o.looksAt ops:=by
 exact List.mem_append_left _ (S8.2 ⟨.tmp t,AA,rfl⟩)
def mL {ops:Array Oper}{F F':List LV}{o:Oper}(h:∀t,t∈o.looksAt ops->F.getD t .junk=F'.getD t .junk) {x:Operand}(hx:x∈o.op.operands):AL G F x=AL G F' x:=by
 cases x with
 |tmp t=>exact h t (amZ hx)
 |const _=>rfl
 |global _=>rfl
 |func _=>rfl
def afg {ops:Array Oper}{F F':List LV}{o:Oper}(hs:∀cs b,o.op≠ .select cs b) (h:∀t,t∈o.looksAt ops->F.getD t .junk=F'.getD t .junk):DY P G F o=DY P G F' o:=by
 have e:∀x∈o.op.operands,AL G F x=AL G F' x:=λx hx=>mL h hx
 unfold DY
 have e1:o.op.operands.toList.all (λx=>Rk (AL G F x))=o.op.operands.toList.all (λx=>Rk (AL G F' x)):=by
  grind
 have e3:o.op.operands.toList.all (λx=>aO (AL G F x))=o.op.operands.toList.all (λx=>aO (AL G F' x)):=by
  grind
 have e2:O1 P o (λx=>(pl (AL G F x)).getD undef)=O1 P o (λx=>(pl (AL G F' x)).getD undef):=by
  have c:=jO (ρ:=λx=>(pl (AL G F x)).getD undef) (ρ':=λx=>(pl (AL G F' x)).getD undef) o hs (λx hx=>AA)
  unfold O1;rw [c]
  have a:QD P o.op (λx=>(pl (AL G F x)).getD undef)=QD P o.op (λx=>(pl (AL G F' x)).getD undef):=by
   exact aKd
  rw [a]
 grind
def agH {ops:Array Oper}{F F':List LV}{o:Oper}(h:∀t,t∈o.looksAt ops->F.getD t .junk=F'.getD t .junk):IM P G Γ F o=IM P G Γ F' o:=by
 have e:=λx hx=>mL (G:=G) h (x:=x) hx
 unfold IM;split
 ·rename_i t len parts ho
  have em:(parts.toList.map λq=>(q.1,AL G F q.2))=parts.toList.map λq=>(q.1,AL G F' q.2):=JG λq hq=>by
   rw [e q.2 xd]
  rw [em]
 ·rename_i f args ty ho
  have e1:=e f aMz
  have e2:(args.toList.map λx=>norm (AL G F x))=args.toList.map λx=>norm (AL G F' x):=JG λx hx=>by
   rw [e x Zo]
  rw [e1,e2]
 ·rfl
def aBd {ops:Array Oper}{F F':List LV}{o:Oper}(h:∀t,t∈o.looksAt ops->F.getD t .junk=F'.getD t .junk):hwx P G Γ F H o=hwx P G Γ F' H o:=by
 have e:=λx hx=>mL (G:=G) h (x:=x) hx
 unfold hwx;cases ho:o.op<;>simp only
 case binOp op t x y u=>cases op<;>simp only<;>exact afg (ops:=ops) (λcs b q=>AA) h
 case call c=>exact agH (ops:=ops) h
 all_goals rw [e _ Ey]
def afU {o:Oper}{g:FuncId}{l:List LV}(h:callOf G [] o=some (g,l)):∃f args ty,o.op=.call {callee:=.value f,args,argTypes:=ty}/\∀F:List LV,AL G F f=AL G [] f:=by
 obtain ⟨f,args,ty,ho,hf⟩:=aC4 h;refine ⟨f,args,ty,ho,λF=>?_⟩
 cases f with
 |tmp t=>
  have:AL G [] (.tmp t)=.junk:=by simp [AL]
  rcases hf with ⟨_,hf,_⟩ |⟨_,hf,_⟩ |⟨hf,_⟩<;>rw [this] at hf<;>cases hf
 |const _=>rfl
 |global _=>rfl
 |func _=>rfl
def aCz {ops:Array Oper}{F F':List LV}{o:Oper}{g:FuncId}{l:List LV}(hc:callOf G [] o=some (g,l)) (hg:Γ g=none) (h:∀t,t∈o.looksAt ops->F.getD t .junk=F'.getD t .junk):Jl P G Γ K F H o=Jl P G Γ K F' H o:=by
 obtain ⟨f,args,ty,ho,hf⟩:=afU hc
 have ha:args.toList.map (λx=>norm (AL G F x))=args.toList.map (λx=>norm (AL G F' x)):=JG λx hx=>by
  rw [mL (G:=G) h (by rw [ho];simp [Op.operands,Call.operands];exact .inr AA)]
 have hcall:callOf G F o=callOf G F' o:=by
  unfold callOf
  grind
 have h2:∃l2,callOf G F' o=some (g,l2):=by
  unfold callOf at hc|-;simp only [ho] at hc|-;split at hc
  ·grind
  ·grind
  ·grind
  ·cases hc
 unfold Jl
 grind
def T.pQ {t:T LV}{lv:LV}{H:List AB}(h:t.all (λy=>y=lv)):(t.bind λy=>(T.ok (y,H):T (LV×List AB))).all (λq=>q=(lv,H)):=by
 rw [T.all_bind];exact T.BT (λx hx=>by rw [hx];exact rfl) h
def amU {o:Oper}{lv:LV}(h:(IM P G Γ F o).all (λz=>z=lv)):(Ap P G Γ F H o).all (λq=>q=(lv,H)):=by
 refine aFb ?_ h;unfold IM at h;unfold IC;split at h
 ·rfl
 ·rfl
 ·cases h
def aqb {o:Oper}{lv:LV}(h:(hwx P G Γ F H o).all (λy=>y=lv)):(Ap P G Γ F H o).all (λq=>q=(lv,H)):=by
 by_cases hcl:∃c,o.op=.call c
 ·obtain ⟨c,ho⟩:=hcl
  unfold hwx at h;simp only [ho] at h;exact amU h
 unfold hwx at h;unfold Ap;cases ho:o.op<;>simp only [ho] at h|-
 case call c=>exact absurd ⟨c,ho⟩ hcl
 case move x=>simp only [T.all] at h|-;rw [h]
 case assign x=>simp only [T.all] at h|-;rw [h]
 case load t x=>exact T.pQ h
 case fieldAddr s x i=>exact T.pQ h
 case nilCheck x=>
  generalize AL G F x=v at h|-;cases v<;>simp only [T.all] at h|-<;>first|rw [h] |cases h
 case binOp op t x y u=>cases op<;>simp only at h|-<;>first|exact T.pQ h|cases h
 all_goals cases h
def aBx {F:List LV}{d t:Nat}{y:LV}(hd:d<F.length):(F.set d y).getD t .junk=if t=d then y else F.getD t .junk:=by
 by_cases e:t=d
 ·grind
 ·grind
def ot {ops:Array Oper}:∀(is:List Nat) (F F1:List LV),is.Pairwise (λi j=>∀d,FW ops j=some d->d∉N9 ops i/\FW ops i≠some d)->(∀i∈is,∃d,FW ops i=some d/\d<F.length/\d∉N9 ops i)->
  (goW P G Γ ops H is F).all (λz=>z=F1)->F1.length=F.length/\(∀t,(∀i∈is,FW ops i≠some t)->F1.getD t .junk=F.getD t .junk)/\∀i∈is,∀o d,ops[i]? =some o->o.dst=some d->(hwx P G Γ F1 H o).all (λy=>y=F1.getD d .junk)
 | [],F,F1,_,_,h=>by
  subst h
  grind
 | i ::is,F,F1,hp,hd,h=>by
  simp only [goW] at h;split at h
  ·rename_i o ho
   obtain ⟨y,h1,h2⟩:=T.Ay h;obtain ⟨d,e1,e2,e3⟩:=hd i AJ
   have hod:o.dst=some d:=by simpa [FW,ho] using e1
   obtain ⟨p1,p2⟩:=ja.1 hp
   have hset:Al F o.dst y=F.set d y:=by rw [hod];rfl
   rw [hset] at h2;obtain ⟨g1,g2,g3⟩:=ot is (F.set d y) F1 p2 (λj hj=>AA) h2
   have hFd:F1.getD d .junk=y:=by
    grind
   refine ⟨AA,λt ht=>?_,λj hj o' d' ho' hd'=>?_⟩
   ·rw [g2 t (λj hj=>ht j AA),aBx e2,AD]
    grind
   ·rcases B1.1 hj with rfl|hj
    ·obtain rfl:=Dw (ho.symm.trans ho')
     obtain rfl:=Dw (hod.symm.trans hd');rw [hFd,aBd (ops:=ops) (F':=F) λt ht=>?_]
     ·exact h1
     ·have hl:t∈N9 ops j:=kR
      grind
    ·grind
  ·cases h
def aBZ {ops:Array Oper}{F1:List LV}:∀(is:List Nat),(aQ P G Γ ops H F1 is).all (λ_=>True)->∀i∈is,∀o d t x,ops[i]? =some o->o.dst=some d->o.op=.load t x->(hwx P G Γ F1 H o).all (λy=>y=F1.getD d .junk)
 | [],_,i,hi=>kg
 | j ::is,h,i,hi=>λo d t x ho hd hop=>by
  simp only [aQ] at h;split at h
  ·rename_i o' ho'
   split at h
   ·rename_i hop'
    rw [T.all_bind] at h;rcases B1.1 hi with rfl|hi
    ·obtain rfl:=Dw (ho'.symm.trans ho)
     refine T.BT (λy hy=>?_) h
     simp only [T.all,hd] at hy;exact hy.1
    ·obtain ⟨y,hy,_⟩:=T.pick h
     exact aBZ is hy.2 i hi o d t x ho hd hop
   ·rename_i hop'
    rcases B1.1 hi with rfl|hi
    ·obtain rfl:=Dw (ho'.symm.trans ho)
     grind
    ·exact aBZ is h i hi o d t x ho hd hop
  ·cases h
def aed (n:Nat) (p q:Nat->Bool) (hp:∃k,k<n/\p k=true/\∀j,j<n->p j=true->j=k):n=(((List.range n).filter λi=>!p i&&!q i).length+1)+((List.range n).filter λi=>!p i&&q i).length:=by
 obtain ⟨k,hk,hpk,hu⟩:=hp
 have h1:∀m,m<=n->m=((List.range m).filter λi=>!p i&&!q i).length+(if k<m then 1 else 0)+((List.range m).filter λi=>!p i&&q i).length:=λm=>by
  induction m with
  |zero=>intro _;simp
  | succ m ih=>
   intro hm;rw [OA,V4,V4,B0,B0]
   by_cases e:m=k
   ·subst e
    grind
   ·have hpm:p m=false:=by
     cases hb:p m with
     |false=>rfl
     |true=>exact absurd (hu m A0 hb) e
    by_cases hlt:k<m
    ·have h2:k<m+1:=A0
     grind
    ·have h2:¬k<m+1:=A0
     grind
 have:=h1 n (At _)
 rw [AE hk] at this;omega
def JE (ops:Array Oper) (AW:List Nat) (F F2:List LV) (l:Array Bool):List LV:=
 (List.range F.length).map λt=>if AW.any (λi=>l.getD i false&&FW ops i==some t) then F2.getD t .junk else F.getD t .junk
def Vi {ops:Array Oper}{AW:List Nat}{F F2:List LV}{l:Array Bool}:(JE ops AW F F2 l).length=F.length:=by simp [JE]
def cH {ops:Array Oper}{AW:List Nat}{F F2:List LV}{l:Array Bool}{t:Nat}(h:t<F.length):(JE ops AW F F2 l).getD t .junk=if AW.any (λi=>l.getD i false&&FW ops i==some t) then F2.getD t .junk else F.getD t .junk:=by
 simp [JE,List.getD,h]
def ou {A B:List LV}(hl:A.length=B.length) (h:∀t,t<A.length->A.getD t .junk=B.getD t .junk):A=B:=by
 apply jS hl
 grind
def aHD {A:List LV}{t:Nat}(h:A.length<=t):A.getD t .junk=.junk:=AA
def aBK {ops:Array Oper}{l:Array Bool}{i j:Nat}(hc:Closed .any ops l) (hr:i∈Region.ready .any ops l) (hj:j∈GP ops i):l.getD j false=true:=by
 obtain ⟨_,o,ho,h2⟩:=Eh.1 hr;refine hc.back ops.size (Nz ops i) (λk hk=>?_) j hj
 unfold Nz at hk
 grind
def aeR {ops:Array Oper}{l:Array Bool}{i j:Nat}(hc:Closed .any ops l) (hi:l.getD i false=true) (hlt:i<ops.size) (hj:j∈GP ops i):l.getD j false=true:=by
 refine hc.back ops.size (Nz ops i) (λk hk=>?_) j hj
 unfold Nz at hk;rw [PR hlt] at hk;obtain ⟨e,h3,rfl⟩:=Eg.1 hk;obtain ⟨h4,h5⟩:=HJ.1 h3;exact hc i _ (PR hlt) hi e AA h5
def aeS {α:Type}(l:List α) (p q:α->Bool):(l.filter p).length=(l.filter λi=>p i&&q i).length+(l.filter λi=>p i&&!q i).length:=by
 induction l with
 |nil=>rfl
 |cons x l ih=>
  grind
def ag0 (hΓ:∀g S,Γ g=some S->Valid P G g S) (hK:F5 P G K) {ops:Array Oper} {wi:Nat} {Q:Exit->Act->World->Prop} {F':List LV} {H':List AB} (hQ:∀Z' β' a' w',RW G w0 Z0 Z' β' H' w'->RF ds β' Z' w' H'.length F' a'->Q .normal a' w')
  (hwi:aIs G Γ ops=some wi) (hW0:RW G w0 Z0 Z β H w) (hF0:RF ds β Z w H.length F a) (h:(zG P G Γ K ops wi F H).all (λq=>q=(F',H'))) (r:Option Nat) (m:Nat):P.follows .mixedOrders=true/\wpAnyIn (DR r) m P .any ops Q ops.size (Array.replicate ops.size false) a {w with drawn:=w.drawn+1}:=by
 unfold zG at h;split at h
 case isFalse=>cases h
 rename_i hc;simp only [AU,Cr] at hc;obtain ⟨⟨⟨hok,hmix⟩,hbl⟩,hord⟩:=hc
 have hbl:(J2 ops wi).length=(JU ops wi).length:=by simpa using hbl
 have hord:LW ops (J2 ops wi).length (J2 ops wi) (K6 ops wi)=true:=hord.elim aOk id
 refine ⟨hmix,?_⟩;split at h
 case h_2=>cases h
 rename_i ow how;obtain ⟨F1,h1,h⟩:=T.Ay h;obtain ⟨⟨lvW,H1⟩,h2,h⟩:=T.Ay h;obtain ⟨_,h3,h⟩:=T.Ay h;obtain ⟨F3,h5,h4⟩:=T.Ay h;simp only at h3 h4 h5
 obtain ⟨gW,lW,hcW,hgW⟩:∃g l,callOf G [] ow=some (g,l)/\Γ g=none:=by
  have:=List.find?_some hwi
  simp only [how] at this;split at this
  ·rename_i g l e;exact ⟨g,l,e,by simpa using this⟩
  ·cases this
 have hwlt:wi<ops.size:=(HO.1 how).1
 generalize hA:Qb ops wi=A at*
 have hAm:∀i,i∈A↔i<ops.size/\i≠wi/\wi∉GP ops i:=λi=>by
  rw [<-hA];unfold Qb;simp
 generalize hC:Qg ops wi=C at*
 have hCm:∀i,i∈C↔i<ops.size/\i≠wi/\wi∈GP ops i/\allA ops wi i=false:=λi=>by
  rw [<-hC];unfold Qg;simp
 have hPW:fX ops wi=A++([wi]++C):=by unfold fX;rw [hA,hC]
 unfold okW at hok;rw [hPW,hA,hC] at hok;generalize hAWd:A++([wi]++C)=AW at*;simp only [AU,BL] at hok;obtain ⟨hAW,hB,hNL⟩:=hok
 have hAWm:∀i,i∈AW↔i∈A\/i=wi\/i∈C:=λi=>by rw [<-hAWd];simp
 have cNL:∀i,(i∈A\/i=wi)->∀j,(j=wi\/j∈C)->∀d,FW ops j=some d->d∉N9 ops i:=λi hi j hj d hd hm=>by
  have:=hNL i (by simpa using hi) j (by simpa using hj)
  unfold aPJ at this;simp only [hd] at this
  simp [hm] at this
 have cDst:∀i∈AW,∃o d,ops[i]? =some o/\o.guard=none/\o.dst=some d/\FW ops i=some d/\d<F.length:=λi hi=>by
  obtain ⟨⟨⟨g1,g2⟩,_⟩,_⟩:=hAW i hi;cases ho:ops[i]? with
  |none=>simp [ho] at g1
  | some o=>
   simp only [ho,ZR] at g1;cases hd:FW ops i with
   |none=>simp [hd] at g2
   |some d=>
    simp only [hd,AY] at g2;exact ⟨o,d,rfl,g1,by simpa [FW,ho] using hd,rfl,g2⟩
 have cOns:∀i∈AW,∀p∈Nz ops i,p<i/\p∈AW:=λi hi p hp=>by
  obtain ⟨⟨_,g3⟩,_⟩:=hAW i hi
  simpa using g3 p hp
 have cLay:∀i∈AW,∀j∈AW,∀d,FW ops j=some d->(i=j\/FW ops i≠some d)/\(d∈N9 ops i->i≠j/\j<i/\j∈GP ops i):=λi hi j hj d hd=>by
  obtain ⟨_,g4⟩:=hAW i hi
  have:=g4 j hj
  unfold abH at this;simp only [hd,AU,Cr,D4,Bq,Cj,AY,ne_eq,ZL] at this;refine ⟨this.1,λhm=>?_⟩
  rcases this.2 with g|g
  ·exact absurd hm (by simpa using g)
  ·exact ⟨g.1.1,g.1.2,by simpa using g.2⟩
 have hwA:wi∈AW:=(hAWm wi).2 (.inr (.inl rfl))
 have hAA:∀i∈A,i∈AW:=λi hi=>(hAWm i).2 (.inl hi)
 have hCA:∀i∈C,i∈AW:=λi hi=>(hAWm i).2 (.inr (.inr hi))
 obtain ⟨_,dw,how',hgw,hdw,hdwI,hdwlt⟩:=cDst wi hwA;obtain rfl:=Dw (how.symm.trans how')
 have hAnd:A.Pairwise (λi j=>i<j):=by
  rw [<-hA];unfold Qb;exact (List.pairwise_lt_range).filter _
 obtain ⟨k1,k2,k3⟩:=ot A F F1 (hAnd.imp_of_mem λ{i j} hi hj hlt d hd=>by
   obtain ⟨q1,q2⟩:=cLay i (hAA i hi) j (hAA j hj) d hd;exact ⟨λhm=>aNL,q1.resolve_left A0⟩) (λi hi=>by
   obtain ⟨o,d,_,_,_,e1,e2⟩:=cDst i (hAA i hi);exact ⟨d,e1,e2,λhm=>((cLay i (hAA i hi) i (hAA i hi) d e1).2 hm).1 rfl⟩) h1
 have hset:Al F1 ow.dst lvW=F1.set dw lvW:=by rw [hdw];rfl
 rw [hset] at h5;generalize hF2:F1.set dw lvW=F2 at h5
 have hF2g:∀t,F2.getD t .junk=if t=dw then lvW else F1.getD t .junk:=λt=>by rw [<-hF2,aBx (F:=F1) (d:=dw) (by rw [k1];exact hdwlt)]
 have hF2l:F2.length=F.length:=by rw [<-hF2];simp [k1]
 have hCnd:C.Pairwise (λi j=>i<j):=by
  rw [<-hC];unfold Qg;exact (List.pairwise_lt_range).filter _
 obtain ⟨c1,c2,c3⟩:=ot C F2 F3 (hCnd.imp_of_mem λ{i j} hi hj hlt d hd=>by
   obtain ⟨q1,q2⟩:=cLay i (hCA i hi) j (hCA j hj) d hd;exact ⟨λhm=>aNL,q1.resolve_left A0⟩) (λi hi=>by
   obtain ⟨o,d,_,_,_,e1,e2⟩:=cDst i (hCA i hi);exact ⟨d,e1,by rw [hF2l];exact e2,λhm=>((cLay i (hCA i hi) i (hCA i hi) d e1).2 hm).1 rfl⟩) h5
 have hF3l:F3.length=F.length:=c1.trans hF2l
 have hAC:∀i,i∈A->i∉C:=λi h1 h2=>((hAm i).1 h1).2.2 ((hCm i).1 h2).2.2.1
 have hF3A:∀t,(∀j,(j=wi\/j∈C)->FW ops j≠some t)->F3.getD t .junk=F1.getD t .junk:=λt ht=>by
  rw [c2 t (λj hj=>ht j (.inr hj)),hF2g,AD]
  intro e;subst e;exact ht wi (.inl rfl) hdwI
 have hF3w:F3.getD dw .junk=lvW:=by
  rw [c2 dw (λj hj e=>by
   rcases (cLay j (hCA j hj) wi hwA _ hdwI).1 with q|q
   ·exact ((hCm j).1 hj).2.1 q
   ·exact q e),hF2g,AE rfl]
 let Inv:Array Bool->Act->World->Prop:=λl a w'=>∃Z β,RW G w0 Z0 Z β (if l.getD wi false then H1 else H) w'/\RF ds β Z w' (if l.getD wi false then H1 else H).length (JE ops AW F F3 l) a
 have agree:∀(l:Array Bool),Closed .any ops l->∀i∈AW,i∈Region.ready .any ops l->∀t,t∈N9 ops i->(JE ops AW F F3 l).getD t .junk=F3.getD t .junk:=λl hcl i hi hr t ht=>by
  by_cases hlt:t<F.length
  ·rw [cH hlt]
   by_cases hex:∃j,j∈AW/\FW ops j=some t
   ·obtain ⟨j,hj,hd⟩:=hex
    have hb:=(cLay i hi j hj t hd).2 ht
    have hl:=aBK hcl hr hb.2.2
    rw [AE (O9.2 ⟨j,hj,by simp [hl,hd]⟩)]
   ·rw [AD,hF3A t (λj hj e=>hex ⟨j,(hAWm j).2 (.inr hj),e⟩),k2 t (λj hj e=>hex ⟨j,hAA j hj,e⟩)]
    intro hany;obtain ⟨j,hj,e⟩:=O9.1 hany;simp only [AU,Cj] at e;exact hex ⟨j,hj,e.2⟩
  ·rw [aHD (A:=JE ops AW F F3 l) (t:=t) (by rw [Vi];exact Nat.le_of_not_lt hlt),aHD (A:=F3) (t:=t) (by rw [hF3l];exact Nat.le_of_not_lt hlt)]
 have agreeA:∀i,(i∈A\/i=wi)->∀t,t∈N9 ops i->F3.getD t .junk=F1.getD t .junk:=λi hi t ht=>hF3A t (λj hj e=>cNL i hi j hj t e ht)
 have next:∀(l:Array Bool),l.size=ops.size->∀i∈AW,∀d,FW ops i=some d->d<F.length->(JE ops AW F F3 l).set d (F3.getD d .junk)=JE ops AW F F3 (l.setIfInBounds i true):=λl hls i hi d hd hdl=>by
  have hilt:i<ops.size:=by
   obtain ⟨o,_,ho,_⟩:=cDst i hi;exact (HO.1 ho).1
  refine ou (by simp [Vi]) λt ht=>?_
  have ht':t<F.length:=y8
  rw [aBx (F:=JE ops AW F F3 l) (d:=d) (by rw [Vi];exact hdl),cH (l:=l.setIfInBounds i true) ht']
  by_cases e:t=d
  ·subst e
   rw [AE rfl,AE (O9.2 ⟨i,hi,by simp [hd,hls,hilt]⟩)]
  ·rw [AD e,cH ht']
   congr 1
   refine Ax (λb=>b=true) ?_
   rw [I0,O9,O9];refine exists_congr λj=>and_congr_right λhj=>?_
   by_cases hji:i=j
   ·subst hji;simp [hd,OC e]
   ·rw [ZV false hji]
 have hH1:∀l:Array Bool,l.size=ops.size->(l.setIfInBounds wi true).getD wi false=true:=λl hl=>by simp [hl,hwlt]
 have step:∀(l:Array Bool) (a':Act) (w':World),l.size=ops.size->Closed .any ops l->Inv l a' w'->∀i∈AW,i∈Region.ready .any ops l->wpOpIn (DR r) m P ops Q i (λa2 w2=>Inv (l.setIfInBounds i true) a2 w2) a' w':=λl a' w' hls hcl hI i hi hr=>by
  obtain ⟨Z1,β1,i1,i2⟩:=hI;obtain ⟨o,d,ho,hg,hd,hdI,hdl⟩:=cDst i hi;unfold wpOpIn
  have hw:Region.wanted o (yielded ops a'.tmps)=true:=Zt
  simp only [ho,hw,Bm]
  have hlk:∀t,t∈o.looksAt ops->(JE ops AW F F3 l).getD t .junk=F3.getD t .junk:=λt ht=>agree l hcl i hi hr t kR
  have hnl:l.getD i false=false:=by
   have:=(Eh.1 hr).1
   rwa [nv aNR] at this
  have fin:i≠wi->(hwx P G Γ F3 (if l.getD wi false then H1 else H) o).all (λy=>y=F3.getD d .junk)->o.wpIn (DR r) m P a' w' (λa2 w2=>Inv (l.setIfInBounds i true) a2 w2) Q:=λhne hv=>by
   have hv2:=aqb (by rw [aBd (ops:=ops) hlk];exact hv)
   have hsame:(l.setIfInBounds i true).getD wi false=l.getD wi false:=ZV false hne
   refine Vq (Jx (λv w2 ⟨Z',β',e1,e2,e3,e4,_⟩=>⟨Z',β',?_,?_⟩) (bU hΓ i1 i2 hv2)) r m
   ·rw [hsame];exact e1
   ·rw [hsame,<-next l hls i hi d hdI hdl]
    have:=e2.put e3 e4 o.dst
    rw [hd] at this|-;exact this
  rcases (hAWm i).1 hi with hiA|rfl|hiC
  ·have hne:i≠wi:=((hAm i).1 hiA).2.1
   refine fin hne ?_
   have hF3d:F3.getD d .junk=F1.getD d .junk:=hF3A d (λj hj e=>by
    rcases (cLay i hi j ((hAWm j).2 (.inr hj)) _ e).1 with q|q
    ·rcases hj with rfl|hj
     ·exact hne q
     ·subst q;exact hAC i hiA hj
    ·exact q hdI)
   have hag:∀t,t∈o.looksAt ops->F3.getD t .junk=F1.getD t .junk:=λt ht=>agreeA i (.inl hiA) t kR
   rw [hF3d,aBd (ops:=ops) hag]
   by_cases hl:l.getD wi false=true
   ·rw [AE hl]
    cases hop:o.op with
    | load t x=>
     refine aBZ _ (T.BT (λ_ _=>trivial) h3) i ?_ o d t x ho hd hop
     rw [HJ];refine ⟨hiA,?_⟩;rw [D4];cases hct:(GP ops wi).contains i with
     |false=>rfl
     |true=>
      have:=aeR hcl hl hwlt (by simpa using hct)
      rw [hnl] at this;cases this
    |_=>
     have:=k3 i hiA o d ho hd
     unfold hwx at this|-;simp only [hop] at this|-;exact this
   ·rw [AD hl];exact k3 i hiA o d ho hd
  ·obtain rfl:=Dw (how.symm.trans ho)
   obtain rfl:=Dw (hdwI.symm.trans hdI);simp only [hnl,HP,FL] at i1 i2
   have hag:∀t,t∈ow.looksAt ops->F3.getD t .junk=F1.getD t .junk:=λt ht=>agreeA i (.inr rfl) t kR
   have hv:(Jl P G Γ K (JE ops AW F F3 l) H ow).all (λq=>q=(lvW,H1)):=by
    rw [aCz (ops:=ops) hcW hgW hlk,aCz (ops:=ops) hcW hgW hag];exact h2
   refine Vq (Jx (λv w2 ⟨Z',β',e1,e2,e3,e4⟩=>⟨Z',β',?_,?_⟩) (aC2 hΓ hK i1 i2 hv)) r m
   ·rw [AE (hH1 l hls)];exact e1
   ·rw [AE (hH1 l hls),<-next l hls i hi dw hdI hdl,hF3w]
    have:=e2.put e3 e4 ow.dst
    rw [hd] at this|-;exact this
  ·have hne:i≠wi:=((hCm i).1 hiC).2.1
   refine fin hne ?_
   have hl:l.getD wi false=true:=aBK hcl hr ((hCm i).1 hiC).2.2.1
   rw [AE hl];exact c3 i hiC o d ho hd
 have behind:∀(a':Act) (w':World),Inv (K6 ops wi) a' w'->wpAnyIn (DR r) m P .any ops Q (JU ops wi).length (K6 ops wi) a' w':=λa' w' hI=>by
  rw [<-hbl];obtain ⟨Z1,β1,i1,i2⟩:=hI
  have hl:∀i,i<ops.size->(K6 ops wi).getD i false=decide (i∈AW):=λi hi=>by
   unfold K6;rw [hPW]
   simp [hi]
  rw [hl wi hwlt,Cs hwA] at i1 i2;simp only [Bm] at i1 i2
  have hFS:JE ops AW F F3 (K6 ops wi)=F3:=by
   refine ou (by rw [Vi,hF3l]) λt ht=>?_
   have ht':t<F.length:=y8
   rw [cH ht'];split
   ·rfl
   ·rename_i hn
    have hno:∀j,j∈AW->FW ops j≠some t:=λj hj e=>by
     obtain ⟨o,_,ho,_⟩:=cDst j hj;refine hn (O9.2 ⟨j,hj,?_⟩);rw [hl j (HO.1 ho).1,Cs hj]
     simp [e]
    rw [hF3A t (λj hj=>hno j ((hAWm j).2 (.inr hj))),k2 t (λj hj=>hno j (hAA j hj))]
  rw [hFS] at i2;refine mU (D:=λ_=>True) (C:=CY ds G w0 Z0 [] β1 H1 w') (sp:=λ_=>true) (Q:=λa' g'=>∀w'',CY ds G w0 Z0 [] β1 H1 w' g' w''->Q .normal a' w'') (λ_ _ _=>trivial) (λg w1 w2 hc hb=>hc.keep hb) (λa g w hc hq=>hq w hc) r m _ _ a' ⟨Z1,β1,H1,F3,a'⟩ w' ⟨i1,i2,DM.refl _ _,At _,λ_ _=>rfl,λk k1 k2=>absurd k2 (V9.2 k1),EvL.refl _⟩ ?_
  exact aBJ hΓ (λg e1 e2 w'' hc=>hQ g.Z g.β g.a w'' Zu Zr) _ (J2 ops wi) _ ⟨Z1,β1,H1,F3,a'⟩ (λ_ _=>rfl) hord h4
 have main:∀(k:Nat) (l:Array Bool) (a':Act) (w':World),l.size=ops.size->Closed .any ops l->(∀i,l.getD i false=true->i∈AW)->((AW).filter λi=>!l.getD i false).length=k->Inv l a' w'->wpAnyIn (DR r) m P .any ops Q (k+(JU ops wi).length) l a' w':=λk=>by
  induction k with
  | zero=>
   intro l a' w' hls hcl hon hk hI
   have hall:∀i∈AW,l.getD i false=true:=λi hi=>by
    cases hb:l.getD i false with
    |true=>rfl
    |false=>
     have:i∈(AW).filter λi=>!l.getD i false:=HJ.2 ⟨hi,ke⟩
     rw [Lw.1 hk] at this;cases this
   have he:l=K6 ops wi:=by
    apply Array.ext (by simp [K6,hls])
    intro i g1 g2
    have hi:i<ops.size:=by rw [<-hls];exact g1
    have e1:l.getD i false=l[i]:=by simp [g1]
    have e2:(K6 ops wi)[i]=decide (i∈AW):=by
     unfold K6;simp [hPW]
    rw [e2,<-e1];cases hb:l.getD i false with
    |true=>rw [Cs (hon i hb)]
    |false=>rw [I1 λhm=>by rw [hall i hm] at hb;cases hb]
   rw [EK,he];exact behind a' w' (he▸hI)
  | succ k ih=>
   intro l a' w' hls hcl hon hk hI
   obtain ⟨i0,hi0⟩:∃i,i∈(AW).filter λi=>!l.getD i false:=by
    cases hL:(AW).filter λi=>!l.getD i false with
    |nil=>rw [hL] at hk;simp at hk
    |cons x xs=>exact ⟨x,AJ⟩
   have hrn:Region.ready .any ops l≠ []:=by
    have:∀n i,i<n->i∈AW->l.getD i false=false->Region.ready .any ops l≠ []:=λn=>by
     induction n with
     |zero=>intro i hi;omega
     | succ n ihn=>
      intro i hin hi hb;obtain ⟨o,d,ho,_⟩:=cDst i hi
      by_cases hp:∃p∈Nz ops i,l.getD p false=false
      ·obtain ⟨p,hp,hpb⟩:=hp
       obtain ⟨q1,q2⟩:=cOns i hi p hp;exact ihn p A0 q2 hpb
      ·have:i∈Region.ready .any ops l:=Eh.2 ⟨by rw [nv aNR];exact hb,o,ho,λe he hbd=>by
        cases hx:l.getD e.on false with
        |true=>rfl
        |false=>exact absurd ⟨e.on,by unfold Nz;rw [ho];exact Eg.2 ⟨e,HJ.2 ⟨aC,hbd⟩,rfl⟩,hx⟩ hp⟩
       intro e;rw [e] at this;cases this
    obtain ⟨m1,m2⟩:=HJ.1 hi0;exact this (i0+1) i0 A0 m1 (by simpa using m2)
   rw [show k+1+(JU ops wi).length=(k+(JU ops wi).length)+1 by omega]
   refine ⟨λh0=>absurd h0 hrn,λi hi=>?_⟩
   have hiAW:i∈AW:=by
    by_cases hm:i∈AW
    ·exact hm
    ·exfalso
     have hiB:i∈JU ops wi:=by
      unfold JU
      have hlt:=Pv hi
      rw [hAWm] at hm;simp only [not_or,hAm,hCm] at hm;simp only [HJ,I3,AU,D4,Bq,ZL]
      by_cases hb:wi∈GP ops i
      ·cases ha:allA ops wi i with
       |true=>exact ⟨hlt,hm.2.1,hb,rfl⟩
       |false=>exact absurd ⟨hlt,hm.2.1,hb,ha⟩ hm.2.2
      ·exact absurd ⟨hlt,hm.2.1,hb⟩ hm.1
     obtain ⟨m1,m2⟩:=HJ.1 hi0
     have hb:=hB i hiB i0 m1
     have:=aBK hcl hi yK
     simp [this] at m2
   refine wpOpIn_mono (λa2 w2 hI2=>?_) (step l a' w' hls hcl hI i hiAW hi)
   refine ih _ a2 w2 (by simpa using hls) (hcl.put hi) (λj hj=>?_) ?_ hI2
   ·by_cases e:i=j
    ·exact e▸hiAW
    ·rw [ZV false e] at hj;exact hon j hj
   ·have hnd:(AW).Nodup:=by
     rw [<-hAWd,wS];refine ⟨hAnd.imp (λh=>VB h),?_,λx hx y hy e=>?_⟩
     ·rw [wI,Ly]
      exact ⟨λhm=>((hCm _).1 hm).2.1 rfl,hCnd.imp (λh=>VB h)⟩
     ·subst e
      rw [wI,B1] at hy;rcases hy with rfl|hy
      ·exact ((hAm _).1 hx).2.1 rfl
      ·exact hAC _ hx hy
    have hil:l.getD i false=false:=by
     have:=(Eh.1 hi).1
     rwa [nv (by rw [hls];exact Pv hi)] at this
    have hlt:i<l.size:=by rw [hls];exact Pv hi
    have e:((AW).filter λj=>!(l.setIfInBounds i true).getD j false)=((AW).filter λj=>!l.getD j false).erase i:=by
     rw [List.Nodup.erase_eq_filter (hnd.filter _),List.filter_filter];refine wT λj _=>?_
     by_cases e:i=j
     ·subst e;simp [hlt]
     ·rw [ZV false e]
      simp [OC e]
    rw [e,List.length_erase_of_mem (HJ.2 ⟨hiAW,by simp [hil]⟩),hk]
    rfl
 have hcount:ops.size=((AW).filter λi=>!(Array.replicate ops.size false).getD i false).length+(JU ops wi).length:=by
  rw [List.filter_eq_self.2 λi hi=>by
   have:i<ops.size:=by
    obtain ⟨o,_,ho,_⟩:=cDst i hi;exact (HO.1 ho).1
   simp [this]]
  have hlen:=aed ops.size (λi=>i==wi) (λi=>(GP ops i).contains wi) ⟨wi,hwlt,AJ,λj _ hj=>by simpa using hj⟩
  have hsp:=aeS (List.range ops.size) (λi=>!(i==wi)&&(GP ops i).contains wi) (λi=>allA ops wi i)
  have eC:C.length=((List.range ops.size).filter λi=>(!(i==wi)&&(GP ops i).contains wi)&&!allA ops wi i).length:=by
   rw [<-hC];unfold Qg
   congr 1
   exact wT λi _=>by rw [S6]
  have eB:(JU ops wi).length=((List.range ops.size).filter λi=>(!(i==wi)&&(GP ops i).contains wi)&&allA ops wi i).length:=by
   unfold JU
   congr 1
   exact wT λi _=>by rw [S6]
  have eA:A.length=((List.range ops.size).filter λi=>!(i==wi)&&!(GP ops i).contains wi).length:=by rw [<-hA];rfl
  rw [<-hAWd,B0,B0,List.length_singleton,eA,eC,eB];omega
 have hbd:Below w.heap.size w {w with drawn:=w.drawn+1}:=⟨rfl,rfl,rfl,At _,λ_ _=>rfl⟩
 rw [show wpAnyIn (DR r) m P .any ops Q ops.size (Array.replicate ops.size false) a {w with drawn:=w.drawn+1}=wpAnyIn (DR r) m P .any ops Q (((AW).filter λi=>!(Array.replicate ops.size false).getD i false).length+(JU ops wi).length) (Array.replicate ops.size false) a {w with drawn:=w.drawn+1} from congrFun (congrFun (congrFun (Ax _ hcount) _) _) _]
 refine main _ (Array.replicate ops.size false) a _ AJ (λi o ho hL=>?_) (λi hi=>?_) rfl ?_
 ·have:=(HO.1 ho).1
  simp [this] at hL
 ·exfalso
  rcases PV i ops.size with h|h<;>simp [h] at hi
 ·have hFS:JE ops AW F F3 (Array.replicate ops.size false)=F:=by
   refine ou Vi λt ht=>?_
   rw [cH y8,AD];intro hany;obtain ⟨j,_,e⟩:=O9.1 hany;rcases PV j ops.size with h|h<;>simp [h] at e
  have hz:(Array.replicate ops.size false).getD wi false=false:=by simp [hwlt]
  refine ⟨Z,β,?_,?_⟩
  ·rw [hz];exact hW0.same hbd
  ·rw [hz,hFS];exact hF0.mono (At _) (λ_ _=>rfl) (λ_ h=>h) (λ_ _=>rfl)
def aec (hΓ:∀g S,Γ g=some S->Valid P G g S) (hK:F5 P G K) {id:Nat}{ops:Array Oper}{Q:Exit->Act->World->Prop}{F':List LV}{H':List AB}(hQ:∀Z' β' a' w',RW G w0 Z0 Z' β' H' w'->RF ds β' Z' w' H'.length F' a'->Q .normal a' w')
  (hW0:RW G w0 Z0 Z β H w) (hF0:RF ds β Z w H.length F a) (h:(zF P G Γ K ops F H).all (λq=>q=(F',H'))) (r:Option Nat) (m:Nat):(Code.region id ops true).wpIn (DR r) m P Q a w:=by
 unfold zF at h;split at h
 ·exact ady hΓ hK hQ hW0 hF0 h r m
 ·split at h
  ·rename_i wi hwi
   have:=ag0 hΓ hK hQ hwi hW0 hF0 h r m
   exact wpIn_region_any this.1 this.2
  ·exact ady hΓ hK hQ hW0 hF0 h r m
end Go.Sx
namespace Go.Sx
open Go Go.RowKit Go.Proofs.YtgmhhjldohjpmaaGreatDoor
variable {P : Program} {G : Av} {Γ : Specs} {K : Hand} {A : Gz -> Prop} {β : Nat -> Loc} {Z : Nat -> Prop} {Z0 : Gz} {w w0 : World} {F : List LV} {H : List AB} {a : Act} {ds : List Deferred} {n : Nat}
def aAw:Ex->Exit
 | .normal=> .normal
 | .exit n=> .exit n
 | .ret=> .ret
structure Lh (w0:World) (Z0:Gz) (ds:List Deferred):Prop where
 new:∀D,GK D∈ds->w0.heap.size<=D/\D∉Z0.Ci
 nodup:ds.Nodup
def Lh.nil {w0:World}{Z0:Gz}:Lh w0 Z0 []:=⟨λ_ h=>Ah,List.nodup_nil⟩
def GI (P:Program) (G:Av) (A:Gz->Prop) (c:Code) (t:List LV->List AB->T (Ex×List LV×List AB)):Prop:=
 ∀(r:Option Nat) (w0:World) (Z0:Gz) (Z:Nat->Prop) (β:Nat->Loc) (F:List LV) (H:List AB) (a:Act) (w:World) (ds:List Deferred) (Q:Exit->Act->World->Prop) (x:Ex) (F':List LV) (H':List AB),
  A Z0->(r=none\/Hf c=true)->Lh w0 Z0 ds->RW G w0 Z0 Z β H w->RF ds β Z w H.length F a->(t F H).all (λq=>q=(x,F',H'))->(∀ds' Z' β' a' w',Lh w0 Z0 ds'->RW G w0 Z0 Z' β' H' w'->RF ds' β' Z' w' H'.length F' a'->Q (aAw x) a' w')->c.wpIn (DR r) 0 P Q a w
def AN (N:Nat):Gz->Prop:=λz=>∀p,p∈z.gh->okV N p.1
abbrev Sound (P:Program) (G:Av):=GI P G (AN 0)
def B6:Code->List Code
 | .seq a b=>B6 a++B6 b
 | .cond _ a b=>B6 a++B6 b
 | .block _ b=>B6 b
 | .loop b=>[b]
 | .scope b=>B6 b
 |_=>[]
def Ia:Code->List (Array Tmp×Code×Code)
 | .seq a b=>Ia a++Ia b
 | .cond _ a b=>Ia a++Ia b
 | .block _ b=>Ia b
 | .loop b=>Ia b
 | .rangeFunc _ ps a b=>[(ps,a,b)]
 | .scope b=>Ia b
 |_=>[]
def mD {w:World}{D:Nat}(h:FU w D) (o':Obj) {b o:Nat}{z:Value}(hz:w.cell? ⟨b,o,none⟩=some z):(w.putObj D o').cell? ⟨b,o,none⟩=some z:=by
 have hne:b≠D:=by
  rintro rfl
  unfold FU at h
  simp [World.cell?,h] at hz
 rwa [Pk (Lx hne)]
def RD.shut {D:Nat}(h:FU w D) (o':Obj):∀(t:Ty) (d:t.D) (b o:Nat),RD Z w t d b o->RD Z (w.putObj D o') t d b o
 | .int _,_,b,o,hh=>xZ
 | .bool,_,b,o,hh=>xZ
 | .str,_,b,o,hh=>xZ
 | .sl e,l,b,o,hh=>by
  obtain ⟨a,cap,h1,h2,h3⟩:=hh;refine ⟨a,cap,mD h o' h1,h2,λhn=>?_⟩
  obtain ⟨b',o'',h4,h5,h6⟩:=h3 hn;exact ⟨b',o'',h4,h5,λi d hd=>RD.shut h o' e d b' _ (h6 i d hd)⟩
 | .pair x y,d,b,o,hh=>by
  exact ⟨RD.shut h o' x d.1 b o hh.1,RD.shut h o' y d.2 b _ hh.2⟩
def Vt {w:World}{D:Nat}(h:FU w D) (o':Obj) {b:Nat}{x:Obj}(hx:w.heap[b]? =some x) (hn:∀q,x≠ .deferred q):(w.putObj D o').heap[b]? =some x:=by
 have hne:b≠D:=by
  rintro rfl
  rw [h] at hx
  grind
 rwa [Lx hne]
mutual
def R.shut {D:Nat}(h:FU w D) (o':Obj):∀(x:LV) (y:Value),R β Z w x y->R β Z (w.putObj D o') x y
 | .v _,_,hh=>hh
 | .bl _,_,hh=>hh
 | .ki _ _,_,hh=>hh
 | .own k off,y,hh=>VO
 | .agg l,y,hh=>by
  exact jf
 | .AM l,y,hh=>by
  exact jf
 | .fn f l,y,hh=>by
  exact jf
 | .fb f l,y,hh=>by
  exact jf
 | .xq n f,y,hh=>by
  simp only [R] at*;obtain ⟨b,off,h1,hz,h2⟩:=hh;refine ⟨b,off,h1,hz,λj hj=>?_⟩
  obtain ⟨z,h3,h4⟩:=h2 j hj;exact ⟨z,mD h o' h3,R.shut h o' (f j) z h4⟩
 | .xl e l,y,hh=>by
  simp only [R] at*;obtain ⟨a,cap,h1,h2,h3⟩:=hh;refine ⟨a,cap,h1,h2,λhn=>?_⟩
  obtain ⟨b,off,h4,h5,h6⟩:=h3 hn;exact ⟨b,off,h4,h5,λi d hd=>RD.shut h o' e d b _ (h6 i d hd)⟩
 | .os k es off n,y,hh=>VO
 | .op k es i j,y,hh=>VO
 | .om k,y,hh=>VO
 | .mp kd ks vs,y,hh=>by
  simp only [R] at*;obtain ⟨r,es,clock,h1,h2,h3,h4,h5⟩:=hh;exact ⟨r,es,clock,h1,h2,Vt h o' h3 (λ_ e=>SY),h4,RL.shut h o' vs _ h5⟩
 | .oc k es off n c,y,hh=>VO
 | .CN k,y,hh=>VO
 | .junk,_,_=>JK
def RL.shut {D:Nat}(h:FU w D) (o':Obj):∀(x:List LV) (y:List Value),RL β Z w x y->RL β Z (w.putObj D o') x y
 | [],_,hh=>by simpa only [RL] using hh
 |x::xs,ys,hh=>by
  simp only [RL] at*;obtain ⟨y,zs,h1,h2,h3⟩:=hh;exact ⟨y,zs,h1,R.shut h o' x y h2,RL.shut h o' xs zs h3⟩
end
def BU.shut {D:Nat}(h:FU w D) (o':Obj) {k:Nat}{b:AB}(hh:BU β Z w k b):BU β Z (w.putObj D o') k b:=by
 unfold BU at*;cases hk:b.k with
 |cl=>
  simp only [hk] at hh|-;obtain ⟨cs,h1,h2⟩:=hh;exact ⟨cs,Vt h o' h1 (λ_ e=>SY),RL.shut h o' _ _ h2⟩
 | vec e l=>
  simp only [hk] at hh|-;cases hc:(β k).cap with
  |none=>simp only [hc] at hh|-;exact hh
  |some c=>
   simp only [hc] at hh|-;obtain ⟨cs,h1,h2,h3,h4⟩:=hh;exact ⟨cs,Vt h o' h1 (λ_ e=>SY),h2,h3,λi d hd=>RD.shut h o' e d _ _ (h4 i d hd)⟩
 |mp kd ks vs=>
  simp only [hk] at hh|-;obtain ⟨es,clock,h1,h2,h3⟩:=hh;exact ⟨es,clock,Vt h o' h1 (λ_ e=>SY),h2,RL.shut h o' _ _ h3⟩
 |Cc ps asg body st=>
  simp only [hk] at hh|-;obtain ⟨r,h1,h2,h3,h4,h5,h6⟩:=hh;exact ⟨r,Vt h o' h1 (λ_ e=>SY),h2,h3,h4,h5,RL.shut h o' _ _ h6⟩
 |st e l=>
  simp only [hk] at hh|-;obtain ⟨es,clock,h1,h2,h3⟩:=hh;exact ⟨es,clock,Vt h o' h1 (λ_ e=>SY),h2,h3⟩
 |dead=>trivial
def putObj_size (w:World) (D:Nat) (o:Obj):(w.putObj D o).heap.size=w.heap.size:=AJ
def FU.lt {w:World}{D:Nat}(h:FU w D):D<w.heap.size:=(HO.1 h).1
def RW.shut (hW:RW G w0 Z0 Z β H w) {D:Nat}(h:FU w D) (h0:w0.heap.size<=D) (hm:D∉Z0.Ci) (o':Obj):RW G w0 Z0 Z β H (w.putObj D o'):=
 ⟨hW.below.trans ⟨rfl,rfl,rfl,jL (putObj_size _ _ _).symm,λi hi=>Lx A0⟩,λb hz=>by rw [putObj_size];exact hW.BV b hz,hW.ES,hW.Cg,hW.G0,hW.low,hW.inj,
  λk b hb=>⟨(hW.blk k b hb).1.shut h o',(hW.blk k b hb).2⟩,λg n f hg=>⟨(hW.CV g n f hg).1,λj hj=>mD h o' ((hW.CV g n f hg).2 j hj)⟩,
  λp hp=>⟨R.shut h o' _ _ (hW.gh p hp).1,(hW.gh p hp).2⟩,λD' hD'=>⟨(hW.Ci D' hD').1,by
   unfold FU;rw [Lx (λe=>hm AA)]
   exact (hW.Ci D' hD').2⟩⟩
def aBI {fn:Func}{R:Ending->World->Prop}:∀(ds:List Deferred) (w:World) (a:Act),RW G w0 Z0 Z β H w->RF ds β Z w n F a->Lh w0 Z0 ds->
  (∀w' a',a'.tmps=a.tmps->RW G w0 Z0 Z β H w'->RF [] β Z w' n F a'->∃v,(results fn a.tmps).run P w'=.ok v w'/\R (.returned v) w')->LeavesInM Fence.wide 0 P fn a.tmps R ds .returning w
 | [],w,a,hW,hF,_,hR=>hR w {a with defers:=[]} rfl hW ⟨hF.size,hF.get,rfl,λ_ h=>Ah⟩
 |d::ds,w,a,hW,hF,hD,hR=>by
  obtain ⟨D,rfl,hz,hm⟩:=hF.defers.2 d AJ;obtain ⟨n1,n2⟩:=hD.new D AJ
  have nd:=Ly.1 hD.nodup
  refine ⟨AJ,.inl ⟨D,w.putObj D (.deferred none),rfl,run_takeDeferred hm,?_⟩⟩;refine aBI ds (w.putObj D (.deferred none)) {a with defers:=ds} (hW.shut hm n1 n2 _) ⟨hF.size,λt x hx=>⟨Go.Sx.R.shut hm _ _ _ (hF.get t x hx).1,(hF.get t x hx).2⟩,rfl,λd hd=>?_⟩ ⟨λD' h'=>hD.new D' AA,nd.2⟩ (λw' a' e=>hR w' a' e)
  obtain ⟨D',e1,e2,e3⟩:=hF.defers.2 d AA;refine ⟨D',e1,e2,?_⟩;unfold FU
  rwa [Lx (λe=>nd.1 AA)]
def RF.RL (hF:RF ds β Z w n F a):RL β Z w F a.tmps.toList/\AR n F:=by
 refine ⟨RL.CO (by simp [hF.size]) λi x hx=>?_,AR.CO λi x hx=>(hF.get i x hx).2⟩
 have hi:i<a.tmps.size:=by rw [hF.size];exact (Du.1 hx).1
 have:=(hF.get i x hx).1
 refine ⟨a.tmps[i],AJ,?_⟩
 have e:a.tmps.getD i undef=a.tmps[i]:=HR
 rw [e] at this;exact this
def amV (us:List Nat) {ys:List Value}(h:RL β Z w F ys) (hk:AR n F):RL β Z w (Ou us F) ys/\AR n (Ou us F):=by
 have hl:=RL.length h
 have at_:∀(i:Nat) (x:LV),(Ou us F)[i]? =some x->i<F.length/\(x=.junk\/F[i]? =some x):=λi x hx=>by
  simp only [Ou,DS] at hx
  by_cases hi:i<F.length
  ·simp only [wN hi,JH,Ad] at hx
   refine ⟨hi,?_⟩;split at hx
   ·right
    grind
   ·grind
  ·rw [ZM AA] at hx
   cases hx
 refine ⟨RL.CO (by simp [Ou,hl]) λi x hx=>?_,AR.CO λi x hx=>?_⟩
 ·obtain ⟨hi,h1⟩:=at_ i x hx
  rcases h1 with rfl|h1
  ·exact ⟨ys[i]' A0,DF _,JK⟩
  ·exact RL.get i x h h1
 ·obtain ⟨hi,h1⟩:=at_ i x hx
  rcases h1 with rfl|h1
  ·trivial
  ·exact AR.get i x hk h1
def aen {o:Option AB}{x:Ex}(h:tI o=some x):∃c t ps asg body,(o=some ⟨c,t,.Cc ps asg body .ready,false⟩/\x=.normal)\/(o=some ⟨c,t,.Cc ps asg body (.done x),false⟩/\x≠ .normal):=by
 unfold tI at h;split at h
 ·rename_i c t ps asg body
  grind
 ·rename_i c t ps asg body y
  split at h
  ·cases h
  ·rename_i hn
   have:=Dw h
   subst this
   grind
 ·cases h
def RW.turn {k:Nat}{c:List LV}{t t':TypeId}{ps:Array Tmp}{asg body:Code}{st:LS}{nb:BK}{r':Loop}(hW:RW G w0 Z0 Z β H w) (hb:H[k]? =some ⟨c,t,.Cc ps asg body st,false⟩)
  (hn:BU β Z (w.putObj (β k).b (.loop r')) k ⟨c,t',nb,false⟩) (hok:okB H.length ⟨c,t',nb,false⟩):RW G w0 Z0 Z β (H.set k ⟨c,t',nb,false⟩) (w.putObj (β k).b (.loop r'))/\(∀b,Z b->(w.putObj (β k).b (.loop r')).heap[b]? =w.heap[b]?):=
 ⟨hW.set hb trivial rfl rfl hok (putObj_size _ _ _) ⟨rfl,rfl,rfl⟩ (λj hj=>Lx hj) hn,λb hz=>Lx (λe=>hW.Cg k _ hb trivial rfl (e▸hz))⟩
def pS {r:Option Nat}{p q:Bool}(h:r=none\/(p&&q)=true):(r=none\/p=true)/\(r=none\/q=true):=by
 rcases h with h|h
 ·grind
 ·simp only [AU] at h
  grind
def Vl {b:Frame}{k:List Item}{cs:List Frame}{c:Code}:step P (lone (b.atR a (.code (.scope c)::k)) cs w)=.next (lone (b.atR a (.code c::.inScope c::k)) cs w):=
 step_lone_go aMq
def aeE {b:Frame}{k:List Item}{cs:List Frame}{c:Code}:step P (lone (b.atR a (.inScope c::k)) cs w)=.next (lone (b.atR a k) cs w):=
 step_lone_go aMq
def af2 {E:Fence}{m:Nat}{Q:Exit->Act->World->Prop}{c:Code}(h:c.wpIn E m P (Exit.noGoto Q) a w):(Code.scope c).wpIn E m P Q a w:=by
 intro b k cs hro hb hr
 have h0:(lone (b.atR a (.code (.scope c)::k)) cs w).fenced P E:=fenced_calm hb hr rfl
 obtain ⟨e,a₁,w₁,hq,harr⟩:=h b (.inScope c::k) cs hro hb hr;cases e with
 |normal=>exact ⟨.normal,a₁,w₁,hq,.head h0 Vl (StepsIn.trans harr (.one (fenced_calm hb hr rfl) aeE))⟩
 | exit id'=>
  have hx:exitTo id' (.inScope c::k)=exitTo id' k:=by simp [exitTo]
  exact ⟨.exit id',a₁,w₁,hq,λk' hk=> .head h0 Vl (harr.1 k' AA),
   λhr' hk=>let ⟨k₁,h1,h2⟩:=harr.2 hr' AA;⟨k₁,h1,.head h0 Vl h2⟩⟩
 |goto l=>exact hq.elim
 |ret=>exact ⟨_,a₁,w₁,hq,.of_steps (.one h0 Vl) harr⟩
 |panic ch=>exact ⟨_,a₁,w₁,hq,.of_steps (.one h0 Vl) harr⟩
 |outgrown=>exact ⟨_,a₁,w₁,hq,.of_steps (.one h0 Vl) harr⟩
def GC {L:QI} (hΓ:∀g S,Γ g=some S->Valid P G g S) (hK:F5 P G K):∀(c:Code),(∀b∈B6 c,GI P G A (.loop b) (L b))->GI P G A c (DC P G Γ K L c)
 | .skip,_=>λr w0 Z0 Z β F H a w ds Q x F' H' hA hr hD hW hF h hQ=>by
  simp only [DC,T.all,Aq] at h;obtain ⟨rfl,rfl,rfl⟩:=h;exact wpIn_skip (hQ ds Z β a w hD hW hF)
 | .ret,_=>λr w0 Z0 Z β F H a w ds Q x F' H' hA hr hD hW hF h hQ=>by
  simp only [DC,T.all,Aq] at h;obtain ⟨rfl,rfl,rfl⟩:=h;exact wpIn_ret (hQ ds Z β a w hD hW hF)
 | .exit m,_=>λr w0 Z0 Z β F H a w ds Q x F' H' hA hr hD hW hF h hQ=>by
  simp only [DC,T.all,Aq] at h;obtain ⟨rfl,rfl,rfl⟩:=h;exact wpIn_exit (hQ ds Z β a w hD hW hF)
 | .region id ops d,_=>λr w0 Z0 Z β F H a w ds Q x F' H' hA hr hD hW hF h hQ=>by
  simp only [DC] at h;obtain ⟨⟨F1,H1⟩,h1,h2⟩:=T.Ay h;simp only [T.all,Aq] at h2;obtain ⟨rfl,rfl,rfl⟩:=h2;cases d with
  |true=>exact aec hΓ hK (λZ' β' a' w' e1 e2=>hQ ds Z' β' a' w' hD e1 e2) hW hF h1 r 0
  |false=>exact agB hΓ hK (λZ' β' a' w' e1 e2=>hQ ds Z' β' a' w' hD e1 e2) hW hF h1 r 0
 | .seq c1 c2,hl=>λr w0 Z0 Z β F H a w ds Q x F' H' hA hr hD hW hF h hQ=>by
  simp only [DC] at h;obtain ⟨⟨y,F1,H1⟩,h1,h2⟩:=T.Ay h;obtain ⟨hr1,hr2⟩:=pS (show r=none\/(Hf c1&&Hf c2)=true from hr);refine wpIn_seq (GC hΓ hK c1 (λb hb=>hl b SX) r w0 Z0 Z β F H a w ds _ y F1 H1 hA hr1 hD hW hF h1 λds' Z' β' a' w' e0 e1 e2=>?_)
  cases y with
  |normal=>exact GC hΓ hK c2 (λb hb=>hl b SX) r w0 Z0 Z' β' F1 H1 a' w' ds' Q x F' H' hA hr2 e0 e1 e2 h2 hQ
  |exit m=>
   simp only [T.all,Aq] at h2;obtain ⟨rfl,rfl,rfl⟩:=h2;exact hQ ds' Z' β' a' w' e0 e1 e2
  |ret=>
   simp only [T.all,Aq] at h2;obtain ⟨rfl,rfl,rfl⟩:=h2;exact hQ ds' Z' β' a' w' e0 e1 e2
 | .cond c c1 c2,hl=>λr w0 Z0 Z β F H a w ds Q x F' H' hA hr hD hW hF h hQ=>by
  have s1:=GC hΓ hK c1 (λb hb=>hl b SX)
  have s2:=GC hΓ hK c2 (λb hb=>hl b SX)
  obtain ⟨hr1,hr2⟩:=pS (show r=none\/(Hf c1&&Hf c2)=true from hr);simp only [DC] at h;split at h
  ·rename_i d
   split at h
   ·rename_i hb
    obtain ⟨q1,q2⟩:=hF.slot hb AJ
    have hv:=(hF.get d _ q1).1
    simp only [R] at hv;exact wpIn_cond_true xj (s1 r w0 Z0 Z β F H a w ds Q x F' H' hA hr1 hD hW hF h hQ)
   ·rename_i hb
    obtain ⟨q1,q2⟩:=hF.slot hb AJ
    have hv:=(hF.get d _ q1).1
    simp only [R] at hv;exact wpIn_cond_false xj (s2 r w0 Z0 Z β F H a w ds Q x F' H' hA hr2 hD hW hF h hQ)
   ·rename_i g hb
    obtain ⟨q1,q2⟩:=hF.slot hb AJ
    have hv:=(hF.get d _ q1).1
    simp only [R] at hv
    have kn:∀b,g=b->RF ds β Z w H.length (F.set d (.bl b)) a:=λb e=>hF.know k8 trivial
    simp only [T.all] at h;refine wpIn_cond_split (t:=g) xj (λhg=>s1 r w0 Z0 Z β _ H a w ds Q x F' H' hA hr1 hD hW (kn true hg) (h.1 hg) hQ) (λhg=>s2 r w0 Z0 Z β _ H a w ds Q x F' H' hA hr2 hD hW (kn false hg) (h.2 hg) hQ)
   ·cases h
  ·exact wpIn_cond_true rfl (s1 r w0 Z0 Z β F H a w ds Q x F' H' hA hr1 hD hW hF h hQ)
  ·exact wpIn_cond_false rfl (s2 r w0 Z0 Z β F H a w ds Q x F' H' hA hr2 hD hW hF h hQ)
  ·cases h
 | .block id c,hl=>λr w0 Z0 Z β F H a w ds Q x F' H' hA hr hD hW hF h hQ=>by
  simp only [DC] at h;obtain ⟨⟨y,F1,H1⟩,h1,h2⟩:=T.Ay h;refine wpIn_block (GC hΓ hK c (λb hb=>hl b (by simpa [B6] using hb)) r w0 Z0 Z β F H a w ds _ y F1 H1 hA hr hD hW hF h1 λds' Z' β' a' w' e0 e1 e2=>?_)
  cases y with
  |normal=>
   simp only [T.all,Aq] at h2;obtain ⟨rfl,rfl,rfl⟩:=h2;exact hQ ds' Z' β' a' w' e0 e1 e2
  | exit m=>
   simp only at h2;simp only [aAw,Exit.inBlock];split at h2
   ·rename_i hm
    simp only [T.all,Aq] at h2;obtain ⟨rfl,rfl,rfl⟩:=h2;rw [AE hm];exact hQ ds' Z' β' a' w' e0 e1 e2
   ·rename_i hm
    simp only [T.all,Aq] at h2;obtain ⟨rfl,rfl,rfl⟩:=h2;rw [AD hm];exact hQ ds' Z' β' a' w' e0 e1 e2
  |ret=>
   simp only [T.all,Aq] at h2;obtain ⟨rfl,rfl,rfl⟩:=h2;exact hQ ds' Z' β' a' w' e0 e1 e2
 | .loop b,hl=>hl b (by simp [B6])
 | .rangeFunc g ps asg body,_=>λr w0 Z0 Z β F H a w ds Q x F' H' hA hr hD hW hF h hQ=>by
  have hr0:r=none:=by
   rcases hr with h|h
   ·exact h
   ·simp [Hf] at h
  subst hr0;simp only [DC] at h;split at h
  ·rename_i gf cap hg
   split at h
   ·rename_i fn hfn
    split at h
    ·rename_i hb
     simp only [AU,D4] at hb;obtain ⟨⟨lv,H1⟩,h1,h2⟩:=T.Ay h;simp only at h2
     have hgr:=hF.eval hW.CV g
     rw [hg] at hgr;simp only [R,okV] at hgr;obtain ⟨⟨ys,hy,hyr⟩,hcap⟩:=hgr;split at h2
     ·rename_i x' hx'
      simp only [T.all,Aq] at h2;obtain ⟨rfl,rfl,rfl⟩:=h2;refine wpIn_rangeFunc ?_;intro fn0 _
      have hb1:Below w.heap.size w (w.alloc (.deferred (some []))):=(Below.refl _ _).alloc (At _) _
      have hWd:=hW.call hb1
      generalize hrec:({state:=.ready,pending:=none,fn:=fn0,tmps:=a.tmps,params:=ps,assign:=asg,body:=body,defers:=w.heap.size}:Loop)=rec0 at*;generalize hwd:w.alloc (.deferred (some []))=wd at*
      have hsd:wd.heap.size=w.heap.size+1:=by rw [<-hwd];simp [World.size_alloc]
      have hmd:FU wd w.heap.size:=by rw [<-hwd];exact World.alloc_heap_new w _
      have hb2:Below wd.heap.size wd (wd.alloc (.loop rec0)):=(Below.refl _ _).alloc (At _) _
      have hW1:=hWd.same hb2
      generalize hw1:wd.alloc (.loop rec0)=w1 at*
      have hl1:w1.heap[wd.heap.size]? =some (.loop rec0):=by rw [<-hw1];exact World.alloc_heap_new wd _
      have hF1:RF ds β (λb=>Z b\/(w.heap.size<=b/\b<wd.heap.size)) w1 H.length F a:=hF.mono (At _) (λ_ _=>rfl) (λ_ h=> .inl h) (λb hz=>by
       have hlt:=hW.BV b hz
       rw [Dx hb2 A0,Dx hb1 hlt])
      have hm1:FU w1 w.heap.size:=by unfold FU;rw [Dx hb2 A0];exact hmd
      have hF2:RF (GK w.heap.size::ds) β (λb=>Z b\/(w.heap.size<=b/\b<wd.heap.size)) w1 H.length F {a with defers:=GK w.heap.size::a.defers}:=by
       refine ⟨hF1.size,hF1.get,by rw [hF1.defers.1],λd hd=>?_⟩
       rcases B1.1 hd with rfl|hd
       ·exact ⟨_,rfl,.inr ⟨At _,A0⟩,hm1⟩
       ·exact hF1.defers.2 d hd
      have hD2:Lh w0 Z0 (GK w.heap.size::ds):=by
       refine ⟨λD hd=>?_,Ly.2 ⟨λhd=>?_,hD.nodup⟩⟩
       ·rcases B1.1 hd with hd|hd
        ·simp only [GK,Deferred.mk.injEq,Target.collected.injEq] at hd
         rw [hd.1];exact ⟨hW.below.size,λhm=>by have:=(hW.Ci _ hm).2.lt;omega⟩
        ·exact hD.new D hd
       ·obtain ⟨D,e1,_,e3⟩:=hF.defers.2 _ hd
        simp only [GK,Deferred.mk.injEq,Target.collected.injEq] at e1
        have:=e3.lt
        omega
      obtain ⟨fr1,fr2⟩:=hF1.RL;obtain ⟨fr1,fr2⟩:=amV (GM asg++GM body) fr1 fr2
      obtain ⟨β2,b1,b2,hW2⟩:=hW1.KJ (ℓ:=⟨wd.heap.size,0,none⟩) (nb:=⟨Ou (GM asg++GM body) F,0,.Cc ps asg body .ready,false⟩) rfl ⟨AR.mono A0 _ fr2,trivial⟩ (λ_=>⟨λhz=>by
        rcases hz with hz|hz
        ·have:=hW.BV _ hz;simp only at this;omega
        ·simp only at hz;omega,by have:=hW.below.size;simp only;omega,λj bj hj lj e=>SS⟩) (λβ' q1 q2=>by
       simp only [BU,q2];refine ⟨rec0,hl1,yR,yR,yR,by rw [<-hrec];exact A8,?_⟩
       rw [<-hrec];exact RL.mono q1 (λ_ h=>h) (λ_ _=>rfl) _ _ fr2 fr1)
      have hF3:RF (GK w.heap.size::ds) β2 (λb=>Z b\/(w.heap.size<=b/\b<wd.heap.size)) w1 (H++[(⟨Ou (GM asg++GM body) F,0,.Cc ps asg body .ready,false⟩:AB)]).length F {a with defers:=GK w.heap.size::a.defers}:=hF2.mono AJ b1 (λ_ h=>h) (λ_ _=>rfl)
      have hW3:=hW2.hold hF3
      have hyl:R β2 (λb=>Z b\/(w.heap.size<=b/\b<wd.heap.size)) w1 (.CN H.length) (.func (.yield wd.heap.size) #[] #[]):=by simp only [R,b2]
      have hW4:RW G w0 ⟨Z0.z,(LV.CN H.length,Value.func (.yield wd.heap.size) #[] #[])::(F.zip a.tmps.toList++Z0.gh),dsB (GK w.heap.size::ds)++Z0.Ci⟩ (λb=>Z b\/(w.heap.size<=b/\b<wd.heap.size)) β2 (H++[⟨Ou (GM asg++GM body) F,0,.Cc ps asg body .ready,false⟩]) w1:=
       ⟨hW3.below,hW3.BV,hW3.ES,hW3.Cg,hW3.G0,hW3.low,hW3.inj,hW3.blk,hW3.CV,λp hp=>by
        rcases B1.1 hp with rfl|hp
        ·exact ⟨hyl,Lz⟩
        ·exact hW3.gh p hp,hW3.Ci⟩
      have hyr2:RL β2 (λb=>Z b\/(w.heap.size<=b/\b<wd.heap.size)) w1 cap ys.toList:=RL.mono (n:=H.length) b1 (λ_ h=> .inl h) (λb hz=>by
       have hlt:=hW.BV b hz
       rw [Dx hb2 A0,Dx hb1 hlt]) _ _ hcap hyr
      have hbn:¬fn.body=none:=by intro hbb;simp [hbb] at hb
      have hb3:¬fn.name= "runtime.NumGoroutine":=by simpa using hb.2
      have eg:∀args w,(callFunc gf args).run P w=.ok (.enter gf args) w:=λargs w=>by simp [callFunc,hfn,hb3,hbn]
      refine ⟨wd.heap.size,[GK w.heap.size],w1,{target:=.fn (.func gf) ys,args:=#[.func (.yield wd.heap.size) #[] #[]]},w1,gf,#[.func (.yield wd.heap.size) #[] #[]]++ys,w1,?_,?_,λ_ _=>trivial,?_,λh=>Ah,VA.2 ?_⟩
      ·have:=run_enterLoop_outer (P:=P) (w:=w) fn0 a.tmps ps asg body
       rw [hrec,hwd,hw1,<-hsd] at this;exact this
      ·simp only [resolve,hy]
       simp [go_sem]
      ·simp [invoke,go_sem,eg]
      ·refine (hK.k w0 _ _ β2 _ w1 gf (.CN H.length::cap) _ lv H1 hW4 (by simp only [jZ,RL];exact ⟨_,ys.toList,rfl,hyl,hyr2⟩) ⟨Lz,AR.mono AJ _ hcap⟩ h1).mono λe w2 ⟨v,he,Z',β',r1,r2,r3⟩=>?_
       subst he
       have hat:(β' H.length).b=wd.heap.size:=by
        have:=(r1.gh (LV.CN H.length,Value.func (.yield wd.heap.size) #[] #[]) AJ).1
        exact aLK
       have r1':RW G w0 ⟨Z0.z,F.zip a.tmps.toList++Z0.gh,dsB (GK w.heap.size::ds)++Z0.Ci⟩ Z' β' H1 w2:=⟨r1.below,r1.BV,r1.ES,r1.Cg,r1.G0,r1.low,r1.inj,r1.blk,r1.CV,λp hp=>r1.gh p (SE _ hp),r1.Ci⟩
       have hF5:=RW.held hF3 r1'
       have hW5:RW G w0 Z0 Z' β' H1 w2:=r1'.less
       obtain ⟨c',t',ps',asg',body',hx⟩:=aen hx'
       have fin:∀st,H1[H.length]? =some ⟨c',t',.Cc ps' asg' body' st,false⟩->∃rr,w2.heap[wd.heap.size]? =some (.loop rr)/\LsR st rr/\∀rr',RW G w0 Z0 Z' β' (H1.set H.length ⟨[],0,.dead,false⟩) (w2.putObj wd.heap.size (.loop rr'))/\RF (GK w.heap.size::ds) β' Z' (w2.putObj wd.heap.size (.loop rr')) (H1.set H.length ⟨[],0,.dead,false⟩).length F {a with defers:=GK w.heap.size::a.defers}:=λst hst=>by
        have hbk:=(hW5.blk _ _ hst).1
        simp only [BU,hat] at hbk;obtain ⟨rr,q1,q2,q3,q4,q5,q6⟩:=hbk;refine ⟨rr,q1,q5,λrr'=>?_⟩
        have hs:=hW5.set (nb:=⟨[],0,.dead,false⟩) (w':=w2.putObj wd.heap.size (.loop rr')) hst trivial rfl rfl ⟨trivial,trivial⟩ (putObj_size _ _ _) ⟨rfl,rfl,rfl⟩ (λj hj=>Lx (by rw [hat] at hj;exact hj)) trivial
        refine ⟨hs,?_⟩;rw [Br];exact hF5.mono (At _) (λ_ _=>rfl) (λ_ h=>h) (λb hz=>Lx (λe=>hW5.Cg _ _ hst trivial rfl (by rw [hat,<-e];exact hz)))
       rcases hx with ⟨hx,rfl⟩ |⟨hx,hne⟩
       ·obtain ⟨rr,q1,q2,q3⟩:=fin _ hx
        refine ⟨none,w2.putObj wd.heap.size (.loop {rr with state:=.exhausted}),(run_endLoop q1 (by rw [q2.1];simp)).trans (by rw [q2.2]),?_⟩
        obtain ⟨f1,f2⟩:=q3 {rr with state:=.exhausted}
        exact hQ _ Z' β' _ _ hD2 f1 f2
       ·obtain ⟨rr,q1,q2,q3⟩:=fin _ hx
        refine ⟨aR7 x',w2.putObj wd.heap.size (.loop {rr with state:=.exhausted}),(run_endLoop q1 (by rw [q2.1];simp)).trans (by rw [q2.2]),?_⟩
        obtain ⟨f1,f2⟩:=q3 {rr with state:=.exhausted}
        cases x' with
        |normal=>exact absurd rfl hne
        |exit m=>exact wpIn_exit (hQ _ Z' β' _ _ hD2 f1 f2)
        |ret=>exact wpIn_ret (hQ _ Z' β' _ _ hD2 f1 f2)
     ·cases h2
    ·cases h
   ·cases h
  ·cases h
 | .scope c,hl=>λr w0 Z0 Z β F H a w ds Q x F' H' hA hr hD hW hF h hQ=>by
  simp only [DC] at h;refine af2 (GC hΓ hK c (λb hb=>hl b (by simpa [B6] using hb)) r w0 Z0 Z β F H a w ds _ x F' H' hA hr hD hW hF h λds' Z' β' a' w' e0 e1 e2=>?_)
  cases x with
  |normal=>exact hQ ds' Z' β' a' w' e0 e1 e2
  |exit m=>exact hQ ds' Z' β' a' w' e0 e1 e2
  |ret=>exact hQ ds' Z' β' a' w' e0 e1 e2
 | .label l,_=>λr w0 Z0 Z β F H a w ds Q x F' H' hA hr hD hW hF h hQ=>by
  simp only [DC,T.all,Aq] at h;obtain ⟨rfl,rfl,rfl⟩:=h;exact wpIn_label (hQ ds Z β a w hD hW hF)
 | .goto ..,_=>λr w0 Z0 Z β F H a w ds Q x F' H' hA hr hD hW hF h hQ=>aNa
 | .refuse ..,_=>λr w0 Z0 Z β F H a w ds Q x F' H' hA hr hD hW hF h hQ=>aNa
def mX {L:LA}(hΓ:∀g S,Γ g=some S->Valid P G g S) (hK:F5 P G K) (c:Code) (hl:∀b∈B6 c,Sound P G (.loop b) (L (GL b))):Sound P G c (DC P G Γ K (Li L) c):=GC (L:=Li L) hΓ hK c hl
def aJL (a:Act):ResultVar->Sem Value
 | .tmp t=>pure (a.tmps.getD t undef)
 | .cell ad t=>do loadVar t (←asAddr (a.tmps.getD ad undef))
def pn (fn:Func) (a:Act):results fn a.tmps=(do let vs ←fn.results.mapM (aJL a);pure (if h:vs.size=1 then vs[0] else .tuple vs)):=by
 congr 1
def aD5 {f:ResultVar->Sem Value}{r:ResultVar}{rs:List ResultVar}{z:Value}{vs:List Value}(h1:(f r).run P w=.ok z w) (h2:(rs.mapM f).run P w=.ok vs w):((r::rs).mapM f).run P w=.ok (z::vs) w:=by
 simp_all
def bF {fn:Func}:∀(rs:List ResultVar) (l:List LV),RW G w0 Z0 Z β H w->RF ds β Z w H.length F a->(Rg P fn F H rs).all (λq=>q=l)->
  ∃vs:List Value,(rs.mapM (aJL a)).run P w=.ok vs w/\RL β Z w l vs/\AR H.length l
 | [],l,hW,hF,h=>by
  subst h;exact ⟨[],AJ,aH,trivial⟩
 | .tmp t::rs,l,hW,hF,h=>by
  obtain ⟨l1,h1,h2⟩:=T.Ay h;obtain ⟨vs,e1,e2,e3⟩:=bF rs l1 hW hF h1
  have ev:=hF.eval hW.CV (.tmp t)
  refine ⟨a.tmps.getD t undef::vs,?_,?_,?_⟩
  ·exact aD5 rfl e1
  ·rw [<-h2];simp only [RL];exact ⟨_,_,rfl,OY ev.1,e2⟩
  ·rw [<-h2];exact ⟨Sr ev.2,e3⟩
 | .cell ad t::rs,l,hW,hF,h=>by
  obtain ⟨y,h1,h2⟩:=T.Ay h;obtain ⟨l1,h3,h4⟩:=T.Ay h2;obtain ⟨vs,e1,e2,e3⟩:=bF rs l1 hW hF h3
  have ev:=hF.eval hW.CV (.tmp ad)
  simp only [AL,Act.eval] at ev;obtain ⟨z,f1,f2,f3⟩:=mH hW h1 ev.1 ev.2
  have f1:=f1 w (λ_ _=>rfl)
  have f4:(do loadVar t (←asAddr (a.tmps.getD ad undef)):Sem Value).run P w=.ok z w:=by
   have hp:∃q,a.tmps.getD ad undef=.pointer (some q):=by
    have hr:=ev.1
    generalize hx:F.getD ad .junk=x at h1 hr;cases x with
    |own k off=>simp only [R] at hr;exact ⟨_,hr⟩
    |xq n f=>simp only [R] at hr;obtain ⟨b,off,e,_⟩:=hr;exact ⟨_,e⟩
    |op k es i j=>simp only [R] at hr;exact ⟨_,hr.2⟩
    |_=>unfold F7 at h1;split at h1<;>simp only [T.all] at h1
   obtain ⟨q,hq⟩:=hp;rw [hq] at f1|-
   simpa [Instr.loadAt,Instr.sureAddr,asAddr] using f1
  refine ⟨z::vs,?_,?_,?_⟩
  ·exact aD5 f4 e1
  ·rw [<-h4];simp only [RL];exact ⟨_,_,rfl,f2,e2⟩
  ·rw [<-h4];exact ⟨f3,e3⟩
def yX {l:List LV}{vs:List Value}(h:RL β Z w l vs):R β Z w (one l) (if hs:vs.toArray.size=1 then vs.toArray[0] else .tuple vs.toArray):=by
 unfold one
 have hl:=RL.length h
 split
 ·rename_i x
  obtain ⟨y,zs,e1,e2,e3⟩:=h
  grind
 ·rename_i hne
  have:¬vs.toArray.size=1:=by
   intro h1
   simp at h1
   rw [h1] at hl;cases l with
   |nil=>simp at hl
   |cons x xs=>cases xs with
    |nil=>exact hne x rfl
    |cons _ _=>simp at hl
  rw [dif_neg this];exact qM AA
def Wl {l:List LV}(h:AR n l):okV n (one l):=by
 unfold one;split
 ·exact h.1
 ·exact pC h
def aCZ {args:List LV}{vals:Array Value}(hr:RL β Z w args vals.toList) (hok:AR H.length args) (m:Nat):RF [] β Z w H.length (args++List.replicate (m-args.length) (.v undef)) {tmps:=vals++Array.replicate (m-vals.size) undef,defers:=[]}:=by
 have hlen:vals.size=args.length:=aMn
 refine ⟨AA,λt x hx=>?_,rfl,λ_ h=>Ah⟩
 by_cases ht:t<args.length
 ·rw [HN ht] at hx
  obtain ⟨y,e1,e2⟩:=RL.get _ _ hr hx
  have e3:(vals++Array.replicate (m-vals.size) undef).getD t undef=y:=by
   have hts:t<vals.size:=A0
   have:vals[t]? =some y:=AA
   rw [jF,wW hts,this];rfl
  exact ⟨AA,AR.get _ _ hok hx⟩
 ·rw [Fu A0] at hx
  have hx':x=.v undef:=by
   rw [V8] at hx;split at hx
   ·grind
   ·cases hx
  have e3:(vals++Array.replicate (m-vals.size) undef).getD t undef=undef:=by
   rw [jF,Array.getElem?_append_right A0,Array.getElem?_replicate]
   grind
  rw [hx',e3];exact ⟨JK,trivial⟩
def adW {b:Code}:GI P G A (.loop b) (nq b):=λ_ _ _ _ _ _ _ _ _ _ _ _ _ _ _ _ _ _ _ h=>Ah
def aeN {b:Code}{t:List LV->List AB->T (Ex×List LV×List AB)}(hb:GI P G A b t) (m:Nat):GI P G A (.loop b) (qi t m):=by
 intro r w0 Z0 Z β F H a w ds Q x F' H' hA hr hD hW hF h hQ;refine wpIn_loop_rounds m ?_
 induction m generalizing Z β F H a w ds with
 |zero=>cases h
 | succ m ih=>
  obtain ⟨⟨y,F1,H1⟩,h1,h2⟩:=T.Ay h;refine hb r w0 Z0 Z β F H a w ds _ y F1 H1 hA hr hD hW hF h1 λds' Z' β' a' w' e0 e1 e2=>?_
  cases y with
  |normal=>exact ih Z' β' F1 H1 a' w' ds' e0 e1 e2 h2
  |exit k=>
   obtain ⟨rfl,rfl,rfl⟩:=h2;exact hQ ds' Z' β' a' w' e0 e1 e2
  |ret=>
   obtain ⟨rfl,rfl,rfl⟩:=h2;exact hQ ds' Z' β' a' w' e0 e1 e2
def Sf (hΓ:∀g S,Γ g=some S->Valid P G g S) (hK:F5 P G K) (m:Nat):∀(d:Nat) (b:Code),GI P G A (.loop b) (Iz P G Γ K m d b)
 |0,_=>adW
 |d+1,b=>aeN (GC hΓ hK b (λb' _=>Sf hΓ hK m d b')) m
def aDY:∀(ts:List Tmp) (xs:List LV) (vs:List Value) (F:List LV) (a:Act),RF ds β Z w n F a->RL β Z w xs vs->AR n xs->RF ds β Z w n (XC F ts xs) {a with tmps:=(ts.zip vs).foldl (λt (p,v)=>t.setIfInBounds p v) a.tmps}
 | [],_,_,F,a,hF,_,_=>by simpa [XC] using hF
 |_::_,[],vs,F,a,hF,hr,_=>by
  subst hr
  simpa [XC] using hF
 |t::ts,x::xs,vs,F,a,hF,hr,hk=>by
  obtain ⟨y,zs,rfl,h1,h2⟩:=hr;exact aDY ts xs zs (F.set t x) {a with tmps:=a.tmps.setIfInBounds t y} (hF.put h1 hk.1 (some t)) h2 hk.2
def agP (ps:Array Tmp) (vs:Array Value) (t:Array Value):(ps.zip vs).foldl (λt (p,v)=>t.setIfInBounds p v) t=(ps.toList.zip vs.toList).foldl (λt (p,v)=>t.setIfInBounds p v) t:=by
 rw [<-Array.foldl_toList,Array.toList_zip]
def ED (P:Program) (G:Av) (LL:DI):Prop:=∀(K:Hand) (g:FuncId) (fn:Func) (c:Code) (N:Nat) (b:Code),F5 P G K->P.funcs[g]? =some fn->fn.body=some c->b∈B6 c->GI P G (AN N) (.loop b) (LL K g N b)
def RW.ghost {p:LV×Value}(hW:RW G w0 Z0 Z β H w) (h:R β Z w p.1 p.2/\okV H.length p.1):RW G w0 ⟨Z0.z,p::Z0.gh,Z0.Ci⟩ Z β H w:=
 ⟨hW.below,hW.BV,hW.ES,hW.Cg,hW.G0,hW.low,hW.inj,hW.blk,hW.CV,λq hq=>by
  rcases B1.1 hq with rfl|hq
  ·exact h
  ·exact hW.gh q hq,hW.Ci⟩
def RW.anj {p:LV×Value}(hW:RW G w0 ⟨Z0.z,p::Z0.gh,Z0.Ci⟩ Z β H w):RW G w0 Z0 Z β H w:=
 ⟨hW.below,hW.BV,hW.ES,hW.Cg,hW.G0,hW.low,hW.inj,hW.blk,hW.CV,λq hq=>hW.gh q (SE _ hq),hW.Ci⟩
def mI {LL:DI} {K:Hand} (hΓ:∀g S,Γ g=some S->Valid P G g S) (hLL:ED P G LL) (hK:F5 P G K):F5 P G (EO P G Γ LL K):=by
  refine ⟨λw0 Z0 Z β H w g args vals lv H' hW hr hok h=>?_,λw0 Z0 Z β H w k args vals lv H' hW hr hok h=>?_⟩
  ·simp only [EO] at h
   split at h
   ·rename_i fn hfn
    split at h
    ·rename_i c hc
     obtain ⟨⟨x,F1,H1⟩,h1,h2⟩:=T.Ay h;refine VA.1 (callsIn_of_wp_marks (n:=0) hfn hc trivial ?_);refine GC (A:=AN H.length) (L:=LL K g H.length) hΓ hK c (λb hb=>hLL _ g fn c H.length b hK hfn hc hb) none w0 Z0 Z β _ H _ w [] _ x F1 H1 (λp hp=>(hW.gh p hp).2) (.inl rfl) Lh.nil hW (aCZ hr hok fn.ntmps) h1 λds' Z' β' a' w' e0 e1 e2=>?_
     have fin:((Rg P fn F1 H1 fn.results.toList).bind λl=>(T.ok (one l,H1):T (LV×List AB))).all (λq=>q=(lv,H'))->LeavesInM Fence.wide 0 P fn a'.tmps (λe w'=>∃v,e=.returned v/\∃Z' β',RW G w0 Z0 Z' β' H' w'/\R β' Z' w' lv v/\okV H'.length lv) a'.defers .returning w':=λh2=>by
      rw [e2.defers.1];refine aBI ds' w' a' e1 e2 e0 λw'' a'' et f1 f2=>?_
      obtain ⟨l,g1,g2⟩:=T.Ay h2;simp only [T.all,Aq] at g2;obtain ⟨g2,g3⟩:=g2;subst g3;obtain ⟨vs,g3,g4,g5⟩:=bF fn.results.toList l f1 f2 g1;refine ⟨if hs:vs.toArray.size=1 then vs.toArray[0] else .tuple vs.toArray,?_,_,rfl,Z',β',f1,?_,?_⟩
      ·rw [<-et,pn,wX]
       simp_all
      ·rw [<-g2];exact yX g4
      ·rw [<-g2];exact Wl g5
     cases x with
     |normal=>exact fin h2
     |ret=>exact fin h2
     |exit m=>cases h2
    ·cases h
   ·cases h
  ·simp only [EO] at h
   split at h
   ·rename_i Fr t ps asg body hb
    split at h
    ·rename_i hc
     obtain ⟨hc1,hc2,hc3⟩:=hc;obtain ⟨⟨y,F1,H1⟩,h1,h2⟩:=T.Ay h
     have hbk:=(hW.blk k _ hb).1
     simp only [BU] at hbk;obtain ⟨rr,q1,q2,q3,q4,q5,q6⟩:=hbk
     have hokF:AR H.length Fr:=(hW.blk k _ hb).2.1
     have hvl:vals.size=args.length:=aMn
     have hkH:k<H.length:=(Du.1 hb).1
     refine ⟨rr,q1,by rw [q2,hvl,hc1],?_⟩
     have hF0:RF [] β Z w H.length Fr {tmps:=rr.tmps,defers:=[]}:=by
      refine ⟨by have:=RL.length q6;simpa using this,λi x hx=>?_,rfl,λ_ h=>Ah⟩
      obtain ⟨v,e1,e2⟩:=RL.get i x q6 hx;refine ⟨?_,AR.get i x hokF hx⟩
      have:rr.tmps.getD i undef=v:=by
       rw [jF]
       have:rr.tmps[i]? =some v:=by simpa using e1
       rw [this];rfl
      rw [this];exact e2
     have hF1:=aDY ps.toList args vals.toList Fr _ hF0 hr hok
     generalize hl:(β k).b=l at*
     have hyl:R β Z w (.CN k) (.func (.yield l) #[] #[]):=by simp only [R,hl]
     have hW1:=hW.ghost (p:=(LV.CN k,Value.func (.yield l) #[] #[])) ⟨hyl,hkH⟩
     have atl:∀ {Z':Nat->Prop} {β':Nat->Loc} {H':List AB} {w':World},RW G w0 ⟨Z0.z,(LV.CN k,Value.func (.yield l) #[] #[])::Z0.gh,Z0.Ci⟩ Z' β' H' w'->(β' k).b=l:=λr1=>by
      have:=(r1.gh (LV.CN k,Value.func (.yield l) #[] #[]) AJ).1
      exact aLK
     refine roundIn_of_wpIn trivial ?_;rw [q3,q4,q2,agP];refine GC (A:=λ_=>True) (L:=nq) hΓ hK asg (λb _=>adW) (some l) w0 _ Z β _ H _ w [] _ y F1 H1 trivial (.inr hc2) Lh.nil hW1 hF1 h1 λds1 Z1 β1 a1 w1 e0 e1 e2=>?_
     simp only at h2;cases y with
     |exit m=>cases h2
     |ret=>cases h2
     | normal=>
      simp only at h2;split at h2
      ·rename_i Fr1 t1 ps1 asg1 body1 hb1
       obtain ⟨⟨x,F2,H2⟩,h3,h4⟩:=T.Ay h2
       have hbk1:=(e1.blk k _ hb1).1
       simp only [BU] at hbk1;obtain ⟨r1,p1,p2,p3,p4,p5,p6⟩:=hbk1
       have a1l:=atl e1
       rw [a1l] at p1;refine ⟨_,run_beginRound p1 p5.1,?_⟩
       obtain ⟨t1a,t1b⟩:=RW.turn (t':=t) (nb:=.Cc ps1 asg1 body1 .busy) (r':={r1 with state:=.busy}) e1 hb1 (by
        simp only [BU];rw [a1l];exact ⟨{r1 with state:=.busy},World.putObj_heap_same (HO.1 p1).1,p2,p3,p4,rfl,RL.mono (n:=H1.length) (λ_ _=>rfl) (λ_ h=>h) (λb hz=>Lx (λe=>e1.Cg k _ hb1 trivial rfl (by rw [a1l,<-e];exact hz))) _ _ (e1.blk k _ hb1).2.1 p6⟩) ⟨(e1.blk k _ hb1).2.1,trivial⟩
       rw [a1l] at t1a t1b
       have hF2:RF ds1 β1 Z1 (w1.putObj l (.loop {r1 with state:=.busy})) (H1.set k ⟨Fr1,t,.Cc ps1 asg1 body1 .busy,false⟩).length F1 a1:=by
        rw [Br];exact e2.mono (At _) (λ_ _=>rfl) (λ_ h=>h) t1b
       refine GC (A:=λ_=>True) (L:=Iz P G Γ K 20 2) hΓ hK body (λb _=>Sf hΓ hK 20 2 b) (some l) w0 _ Z1 β1 _ _ a1 _ ds1 _ x F2 H2 trivial (.inr hc3) e0 t1a hF2 h3 λds2 Z2 β2 a2 w2 f0 f1 f2=>?_
       split at h4
       ·rename_i Fr2 t2 ps2 asg2 body2 hb2
        have hbk2:=(f1.blk k _ hb2).1
        obtain ⟨r2,s1,s2,s3,s4,s5,s6⟩:=hbk2
        have a2l:=atl f1
        rw [a2l] at s1
        have fin:∀(st:LS) (jump:Option Code) (b:Bool),LsR st {r2 with state:=if jump.isNone then .ready else .done,pending:=jump}->jump.isNone=b->(T.ok (LV.bl b,H2.set k ⟨Fr2,t,.Cc ps2 asg2 body2 st,false⟩):T (LV×List AB)).all (λq=>q=(lv,H'))->
          ∃v w',(Instr.endRound l jump).run P w2=.ok v w'/\(∃v',Ending.returned v=.returned v'/\∃Z' β',RW G w0 Z0 Z' β' H' w'/\R β' Z' w' lv v'/\okV H'.length lv):=λst jump b hst hj h4=>by
         obtain ⟨rfl,rfl⟩:=h4;refine ⟨_,_,run_endRound jump s1,_,rfl,Z2,β2,?_,?_,trivial⟩
         ·obtain ⟨t2a,t2b⟩:=RW.turn (t':=t) (nb:=.Cc ps2 asg2 body2 st) (r':={r2 with state:=if jump.isNone then .ready else .done,pending:=jump}) f1 hb2 (by
           simp only [BU];rw [a2l];exact ⟨_,World.putObj_heap_same (HO.1 s1).1,s2,s3,s4,hst,RL.mono (n:=H2.length) (λ_ _=>rfl) (λ_ h=>h) (λb hz=>Lx (λe=>f1.Cg k _ hb2 trivial rfl (by rw [a2l,<-e];exact hz))) _ _ (f1.blk k _ hb2).2.1 s6⟩) ⟨(f1.blk k _ hb2).2.1,trivial⟩
          rw [a2l] at t2a;exact t2a.anj
         ·simp only [R,hj]
        cases x with
        |normal=>exact fin .ready none true ⟨rfl,rfl⟩ rfl h4
        |exit m=>exact fin (.done (.exit m)) (some (.exit m)) false ⟨rfl,rfl⟩ rfl h4
        |ret=>exact fin (.done .ret) (some .ret) false ⟨rfl,rfl⟩ rfl h4
       ·cases h4
      ·cases h2
    ·cases h
   ·cases h
def aBb {LL:DI}(hΓ:∀g S,Γ g=some S->Valid P G g S) (hLL:ED P G LL):∀(d:Nat),F5 P G (inl P G Γ LL d)
 |0=>Po
 |d+1=>mI hΓ hLL (aBb hΓ hLL d)
def DU (P:Program) (G:Av) (g:FuncId) (m:List LV->List AB->T (LV×List AB)):Prop:=
 ∀(w0:World) (Z0:Gz) (Z:Nat->Prop) (β:Nat->Loc) (H:List AB) (w:World) (args:List LV) (vals:Array Value) (lv:LV) (H':List AB),RW G w0 Z0 Z β H w->RL β Z w args vals.toList->AR H.length args->(m args H).all (λq=>q=(lv,H'))->
  Calls P g vals w λe w'=>∃v,e=.returned v/\∃Z' β',RW G w0 Z0 Z' β' H' w'/\R β' Z' w' lv v/\okV H'.length lv
def aBM {LL:DI}{C:Does}(hΓ:∀g S,Γ g=some S->Valid P G g S) (hLL:ED P G LL) (hC:∀g m,C g=some m->DU P G g m):∀(d:Nat),F5 P G (Ux P G Γ LL C d)
 |0=>Po
 | d+1=>by
  have h:=mI hΓ hLL (aBM hΓ hLL hC d)
  refine ⟨λw0 Z0 Z β H w g args vals lv H' hW hr hok hq=>?_,h.y⟩
  simp only [Ux] at hq;split at hq
  ·rename_i m hm
   exact hC g m hm w0 Z0 Z β H w args vals lv H' hW hr hok hq
  ·exact h.k w0 Z0 Z β H w g args vals lv H' hW hr hok hq
def DU.walk {LL:DI}{K:Hand}{g:FuncId}{m:List LV->List AB->T (LV×List AB)}(hΓ:∀g S,Γ g=some S->Valid P G g S) (hLL:ED P G LL) (hK:F5 P G K)
  (hm:∀args H lv H',(m args H).all (λq=>q=(lv,H'))->((EO P G Γ LL K).k g args H).all (λq=>q=(lv,H'))):DU P G g m:=
 λw0 Z0 Z β H w args vals lv H' hW hr hok hq=>(mI hΓ hLL hK).k w0 Z0 Z β H w g args vals lv H' hW hr hok (hm args H lv H' hq)
def Dp (P:Program) (G:Av) (Γ:Specs) (m d:Nat):DI:=λK _ _=>Iz P G Γ K m d
def HW {m d:Nat}(hΓ:∀g S,Γ g=some S->Valid P G g S):ED P G (Dp P G Γ m d):=λ_ _ _ _ _ b hK _ _ _=>Sf hΓ hK m d b
def CQ (g:FuncId) (N id:Nat) (t:List LV->List AB->T (Ex×List LV×List AB)) (LL:DI):DI:=λK g' N' b=>if g'=g/\N'=N/\GL b=id then t else LL K g' N' b
def DB {g:FuncId}{N id:Nat}{t:List LV->List AB->T (Ex×List LV×List AB)}{LL:DI}{fn:Func}{c bd:Code}(hfn:P.funcs[g]? =some fn) (hc:fn.body=some c) (hid:(B6 c).filter (λb=>GL b==id)=[bd]) (ht:GI P G (AN N) (.loop bd) t) (h:ED P G LL):ED P G (CQ g N id t LL):=by
 intro K g' fn' c' N' b hK hfn' hc' hb;unfold CQ;split
 ·rename_i e
  obtain ⟨rfl,rfl,e⟩:=e;rw [hfn] at hfn'
  have:=Dw hfn'
  subst this;rw [hc] at hc'
  have:=Dw hc'
  subst this
  have hm:b∈(B6 c).filter (λb=>GL b==id):=HJ.2 ⟨hb,AA⟩
  have:b=bd:=AA
  subst this;exact ht
 ·exact h K g' fn' c' N' b hK hfn' hc' hb
def aCO {f:FuncId}{fn:Func}{c:Code}{t:List LV->List AB->T (Ex×List LV×List AB)}(hfn:P.funcs[f]? =some fn) (hc:fn.body=some c) (ht:Sound P G c t):Valid P G f (aAt P fn t):=by
 intro args vals w Z lv hz hg hok hr h;obtain ⟨⟨x,F',H'⟩,h1,h2⟩:=T.Ay h;refine VA.1 (callsIn_of_wp_marks (n:=0) hfn hc trivial ?_)
 have hW:RW G w ⟨Z,[],[]⟩ Z β0 [] w:=⟨Below.refl _ _,hz,λb h=> .inl h,λk b hk=>yG,λk b hk=>yG,λk b hk=>yG,λi j bi bj hi=>by simp at hi,λk b hb=>by simp at hb,hg,λp hp=>kZ,λD hD=>(by cases hD)⟩
 have hF:=aCZ (H:=[]) hr hok fn.ntmps
 refine ht none w ⟨Z,[],[]⟩ Z β0 _ [] _ w [] _ x F' H' (λp hp=>kZ) (.inl rfl) Lh.nil hW hF h1 λds' Z' β' a' w' e0 e1 e2=>?_
 have fin:((Rg P fn F' H' fn.results.toList).bind λl=>if noOwn (one l) then (T.ok (one l):T LV) else (EA H' 8 (one l)).bind λ_=> .ok (Bz H' 8 (one l))).all (λx=>x=lv)->LeavesInM Fence.wide 0 P fn a'.tmps (λe w'=>Below w.heap.size w w'/\∃v',e=.returned v'/\okV 0 lv/\R β0 (λb=>Z b\/(w.heap.size<=b/\b<w'.heap.size)) w' lv v') a'.defers .returning w':=λh2=>by
  rw [e2.defers.1];refine aBI ds' w' a' e1 e2 e0 λw'' a'' et f1 f2=>?_
  obtain ⟨l,g1,g2⟩:=T.Ay h2;split at g2
  ·rename_i hno
   obtain ⟨vs,g3,g4,g5⟩:=bF fn.results.toList l f1 f2 g1
   have hok0:okV 0 lv:=by rw [<-g2];exact noOwn_ok _ hno (Wl g5)
   refine ⟨if hs:vs.toArray.size=1 then vs.toArray[0] else .tuple vs.toArray,?_,f1.below,_,rfl,hok0,?_⟩
   ·rw [<-et,pn,wX]
    simp_all
   ·have:=yX g4
    rw [g2] at this
    exact R.mono (n:=0) (λ_ hk=>absurd hk A0) (λb hb=>by
     rcases f1.ES b hb with h|h
     ·exact .inl h
     ·exact .inr ⟨h,f1.BV b hb⟩) (λ_ _=>rfl) _ _ hok0 this
  ·obtain ⟨_,hg,g2⟩:=T.Ay g2
   have hG:=T.BT (K':=λ_=>True) (λ_ _=>trivial) hg
   obtain ⟨vs,g3,g4,g5⟩:=bF fn.results.toList l f1 f2 g1
   have hok0:okV 0 lv:=by rw [<-g2];exact Pt H' (λk b hb=>(f1.blk k b hb).2) 8 _ (Wl g5)
   refine ⟨if hs:vs.toArray.size=1 then vs.toArray[0] else .tuple vs.toArray,?_,f1.below,_,rfl,hok0,?_⟩
   ·rw [<-et,pn,wX]
    simp_all
   ·have:=MH (S:=λ_=>True) f1 (λ_ _ _ _ _ _=>trivial) 8 _ _ hG (λ_ _=>trivial) (Wl g5) (yX g4)
    rw [g2] at this
    exact R.mono (n:=0) (λ_ hk=>absurd hk A0) (λb hb=>by
     rcases hb with hb|⟨k,bk,_,h2,h3,rfl⟩
     ·rcases f1.ES b hb with h|h
      ·exact .inl h
      ·exact .inr ⟨h,f1.BV b hb⟩
     ·exact .inr ⟨f1.low k bk h2 h3,f1.lt h2 h3⟩) (λ_ _=>rfl) _ _ hok0 this
 cases x with
 |normal=>exact fin h2
 |ret=>exact fin h2
 |exit m=>cases h2
def agT {f:FuncId}{fn:Func}{c:Code}{S:List LV->T LV}{L:LA}(hfn:P.funcs[f]? =some fn) (hc:fn.body=some c) (hΓ:∀g S,Γ g=some S->Valid P G g S) (hK:F5 P G K)
  (hL:∀b∈B6 c,Sound P G (.loop b) (L (GL b))) (hS:∀args lv,(S args).all (λx=>x=lv)->(aAp P G Γ K L fn args).all (λx=>x=lv)):Valid P G f S:=λargs vals w Z lv hz hg hok hr h=>
 aCO hfn hc (mX hΓ hK c hL) args vals w Z lv hz hg hok hr (by have:=hS args lv h;unfold aAp at this;simpa only [hc] using this)
end Go.Sx
namespace Go.Sx
open Go Go.RowKit Go.Proofs.YtgmhhjldohjpmaaGreatDoor
variable {P : Program} {G : Av} {Γ : Specs} {L : LA} {β : Nat -> Loc} {Z : Nat -> Prop} {Z0 : Gz} {w w0 : World} {F : List LV} {H : List AB} {a : Act} {ds : List Deferred} {n : Nat}
def p0 {c:Code}(h:B6 c=[]):∀b∈B6 c,Sound P G (.loop b) (L (GL b)):=λb hb=>AA
def Vs (P:Program) (G:Av):List (FuncId×(List LV->T LV))->Prop
 | []=>True
 |p::ps=>Valid P G p.1 p.2/\Vs P G ps
def nM:∀ {l:List (FuncId×(List LV->T LV))},Vs P G l->∀g S,DA l g=some S->Valid P G g S
 | [],_,g,S,h=>Ah
 |p::ps,hv,g,S,h=>by
  simp only [DA] at h;split at h
  ·rename_i hg;simp only [Ad] at h;subst h hg;exact hv.1
  ·exact nM hv.2 g S h
def aDI {α:Type}{t t':T α}{K:α->Prop}(h:t=t') (h':t'.all K):t.all K:=h▸h'
end Go.Sx
namespace Go.Sx
open Go Go.RowKit Go.Proofs.YtgmhhjldohjpmaaGreatDoor
variable {P : Program} {G : Av} {Γ : Specs} {L : LA} {β : Nat -> Loc} {Z : Nat -> Prop} {Z0 : Gz} {w w0 : World} {F : List LV} {H : List AB} {a : Act} {ds : List Deferred} {n : Nat}
def pos (k:Nat):List Nat->Nat->Nat
 | [],i=>i
 |j::js,i=>if k=j then i else pos k js (i+1)
def aB4 {k:Nat}:∀ {ks:List Nat}(i:Nat),k∈ks->i<=pos k ks i/\ks[pos k ks i-i]? =some k/\pos k ks i<i+ks.length
 | [],i,h=>Ah
 | j::js,i,h=>by
  simp only [pos];split
  ·grind
  ·rename_i e
   have hk:k∈js:=by
    rcases B1.1 h with h|h
    ·grind
    ·exact h
   obtain ⟨h1,h2,h3⟩:=aB4 (i+1) hk;refine ⟨A0,?_,AA⟩
   grind
mutual
def renV (ks:List Nat):LV->LV
 | .v x=> .v x
 | .bl b=> .v (.bool b)
 | .ki k n=> .v (.int k n)
 | .own k off=> .own (pos k ks 0) off
 | .agg l=> .agg (renL ks l)
 | .AM l=> .AM (renL ks l)
 | .fn f l=> .fn f (renL ks l)
 | .fb f l=> .fb f (renL ks l)
 | .xq n f=> .xq n f
 | .xl e l=> .xl e l
 | .os k es off n=> .os (pos k ks 0) es off n
 | .op k es i j=> .op (pos k ks 0) es i j
 | .om k=> .om (pos k ks 0)
 | .mp kd kk l=> .mp kd kk (renL ks l)
 | .oc k es off n c=> .oc (pos k ks 0) es off n c
 | .CN k=> .CN (pos k ks 0)
 | .junk=> .junk
def renL (ks:List Nat):List LV->List LV
 | []=>[]
 |x::xs=>renV ks x::renL ks xs
end
def JX (ks:List Nat):BK->BK
 | .cl=> .cl
 | .vec e l=> .vec e l
 | .mp kd kk vs=> .mp kd kk (renL ks vs)
 | .Cc ps asg body st=> .Cc ps asg body st
 | .st e l=> .st e l
 | .dead=> .dead
def IG (ks:List Nat) (b:AB):AB:=⟨renL ks b.c,b.t,JX ks b.k,b.p⟩
def UN:AB:=⟨[],0,.dead,false⟩
def nodupB:List Nat->Bool
 | []=>true
 |k::ks=>!ks.contains k&&nodupB ks
def aCf:∀ {ks:List Nat},nodupB ks=true->∀(i j k:Nat),ks[i]? =some k->ks[j]? =some k->i=j
 | [],_,i,j,k,h,_=>AA
 | x::xs,hn,i,j,k,hi,hj=>by
  simp only [nodupB,AU,D4] at hn;cases i with
  | zero=>
   cases j with
   |zero=>rfl
   |succ j=>
    grind
  | succ i=>
   cases j with
   |zero=>
    grind
   |succ j=>
    rw [aCf hn.2 i j k hi hj]
def Rn (ks:List Nat) (β β':Nat->Loc):Prop:=∀i k,ks[i]? =some k->β' i=β k
def Rn.at {ks:List Nat}{β':Nat->Loc}(h:Rn ks β β') {k:Nat}(hk:k∈ks):β' (pos k ks 0)=β k/\pos k ks 0<ks.length:=by
 obtain ⟨_,h2,h3⟩:=aB4 0 hk;exact ⟨h _ _ AA,A0⟩
mutual
def ren_R {ks:List Nat}{β':Nat->Loc}{n:Nat}(h:Rn ks β β'):∀(x:LV) (y:Value),(∀k,k∈owns x->k∈ks)->okV n x->R β Z w x y->R β' Z w (renV ks x) y
 | .v _,_,_,_,hr=>hr
 | .bl _,_,_,_,hr=>hr
 | .ki _ _,_,_,_,hr=>hr
 | .own k off,y,ho,hok,hr=>by
  exact VD
 | .agg l,y,ho,hok,hr=>by
  exact jg
 | .AM l,y,ho,hok,hr=>by
  exact jg
 | .fn f l,y,ho,hok,hr=>by
  exact jg
 | .fb f l,y,ho,hok,hr=>by
  exact jg
 | .xq n f,y,ho,hok,hr=>by
  simp only [renV,R,okV] at*;obtain ⟨b,off,h1,h2,h3⟩:=hr;refine ⟨b,off,h1,h2,λj hj=>?_⟩
  obtain ⟨z,h4,h5⟩:=h3 j hj;exact ⟨z,h4,R.mono (n:=0) (λ_ hk=>absurd hk A0) (λ_ h=>h) (λ_ _=>rfl) _ _ (hok j) h5⟩
 | .xl e l,y,ho,hok,hr=>by simp only [renV,R] at*;exact hr
 | .os k es off n,y,ho,hok,hr=>by
  exact VD
 | .op k es i j,y,ho,hok,hr=>by
  exact VD
 | .om k,y,ho,hok,hr=>by
  exact VD
 | .mp kd kk l,y,ho,hok,hr=>by
  simp only [renV,R,owns,okV] at*;obtain ⟨r,es,clock,h1,h2,h3,h4,h5⟩:=hr;exact ⟨r,es,clock,h1,h2,h3,h4,ren_RL h l _ ho hok h5⟩
 | .oc k es off n c,y,ho,hok,hr=>by
  exact VD
 | .CN k,y,ho,hok,hr=>by
  exact VD
 | .junk,_,_,_,_=>by simp only [renV,R]
def ren_RL {ks:List Nat}{β':Nat->Loc}{n:Nat}(h:Rn ks β β'):∀(l:List LV) (ys:List Value),(∀k,k∈ownsL l->k∈ks)->AR n l->RL β Z w l ys->RL β' Z w (renL ks l) ys
 | [],_,_,_,hr=>by simpa only [renL,RL] using hr
 |x::xs,ys,ho,hok,hr=>by
  simp only [renL,RL,ownsL,Bp,AR] at*;obtain ⟨y,zs,h1,h2,h3⟩:=hr;exact ⟨y,zs,h1,ren_R h x y (λk hk=>ho k (.inl hk)) hok.1 h2,ren_RL h xs zs (λk hk=>ho k (.inr hk)) hok.2 h3⟩
end
mutual
def ren_ok {ks:List Nat}{n:Nat}:∀(x:LV),(∀k,k∈owns x->k∈ks)->okV n x->okV ks.length (renV ks x)
 | .v _,_,_=>trivial
 | .bl _,_,_=>trivial
 | .ki _ _,_,_=>trivial
 | .own k off,ho,_=>VJ
 | .agg l,ho,hk=>Zn
 | .AM l,ho,hk=>Zn
 | .fn f l,ho,hk=>Zn
 | .fb f l,ho,hk=>Zn
 | .xq n f,_,hk=>by simpa only [renV,okV] using hk
 | .xl _ _,_,_=>trivial
 | .os k _ _ _,ho,_=>VJ
 | .op k _ _ _,ho,_=>VJ
 | .om k,ho,_=>VJ
 | .mp kd kk l,ho,hk=>Zn
 | .oc k _ _ _ _,ho,_=>VJ
 | .CN k,ho,_=>VJ
 | .junk,_,_=>trivial
def ren_okL {ks:List Nat}{n:Nat}:∀(l:List LV),(∀k,k∈ownsL l->k∈ks)->AR n l->AR ks.length (renL ks l)
 | [],_,_=>trivial
 |x::xs,ho,hk=>by
  simp only [renL,AR,ownsL,Bp] at*;exact ⟨ren_ok x (λk hk=>ho k (.inl hk)) hk.1,ren_okL xs (λk hk=>ho k (.inr hk)) hk.2⟩
end
def bf {ks:List Nat}{β':Nat->Loc}{i k:Nat}{b:AB}(h:β' i=β k):live β' i (IG ks b)↔live β k b:=by
 unfold live IG;cases hb:b.k<;>simp [JX,h]
def lD (N:Nat) (ks:List Nat):Bool:=ks.take N==List.range N
def aE1 {N:Nat}{ks:List Nat}(h:lD N ks=true):N<=ks.length/\∀i,i<N->ks[i]? =some i:=by
 have h:ks.take N=List.range N:=by simpa [lD] using h
 have hl:=Ax List.length h
 simp at hl
 refine ⟨A0,λi hi=>?_⟩
 have:=Ax (λl=>l[i]?) h
 simp only [Kq,AE hi] at this;rw [this]
 simp [hi]
def RW.ren {N:Nat}{ks:List Nat}{l:List LV}(hgh:AN N Z0) (hW:RW G w0 Z0 Z β H w) (hc:K0 H ks l=true) (hn:nodupB ks=true) (hpin:lD N ks=true):
  ∃β',Rn ks β β'/\RW G w0 Z0 Z β' (ks.map λk=>IG ks (H.getD k UN)) w:=by
 have hex:∀k,k∈ks->∃b,H[k]? =some b:=λk hk=>by
  unfold K0 at hc;simp only [AU,BL] at hc
  have:=hc.2 k hk
  cases hb:H[k]? with
  |none=>rw [hb] at this;cases this
  |some b=>exact ⟨b,rfl⟩
 obtain ⟨c1,c2⟩:=Sb hc;refine ⟨λi=>β (ks.getD i 0),λi k hi=>by simp [List.getD,hi],?_⟩
 have hRn:Rn ks β (λi=>β (ks.getD i 0)):=λi k hi=>by simp [List.getD,hi]
 generalize hβ':(λi=>β (ks.getD i 0))=β' at hRn|-
 have old:∀i b,(ks.map λk=>IG ks (H.getD k UN))[i]? =some b->∃k b0,ks[i]? =some k/\k∈ks/\H[k]? =some b0/\b=IG ks b0/\β' i=β k:=λi b hb=>by
  rw [DS] at hb;cases hk:ks[i]? with
  |none=>simp [hk] at hb
  |some k=>
   have hkm:=PZ hk
   grind
 refine ⟨hW.below,hW.BV,hW.ES,λi b hb hl hp=>?_,λi b hb hl hp=>?_,λi b hb hl=>?_,λi j bi bj hi hj li lj pi e=>?_,λi b hb=>?_,hW.CV,λp hp=>⟨R.mono (n:=N) (λk hk=>hRn k k ((aE1 hpin).2 k hk)) (λ_ h=>h) (λ_ _=>rfl) _ _ (hgh p hp) (hW.gh p hp).1,okV.mono (by rw [Fv];exact (aE1 hpin).1) _ (hgh p hp)⟩,hW.Ci⟩
 ·obtain ⟨k,b0,h1,h2,h3,rfl,h5⟩:=old i b hb
  rw [h5];exact hW.Cg k b0 h3 ((bf h5).1 hl) hp
 ·obtain ⟨k,b0,h1,h2,h3,rfl,h5⟩:=old i b hb
  rw [h5];exact hW.G0 k b0 h3 ((bf h5).1 hl) hp
 ·obtain ⟨k,b0,h1,h2,h3,rfl,h5⟩:=old i b hb
  rw [h5];exact hW.low k b0 h3 ((bf h5).1 hl)
 ·obtain ⟨k,b0,h1,h2,h3,rfl,h5⟩:=old i bi hi
  obtain ⟨k',b1,g1,g2,g3,rfl,g5⟩:=old j bj hj;rw [h5,g5] at e
  have:=hW.inj k k' b0 b1 h3 g3 ((bf h5).1 li) ((bf g5).1 lj) pi e
  subst this;exact aCf hn i j k h1 g1
 ·obtain ⟨k,b0,h1,h2,h3,rfl,h5⟩:=old i b hb
  obtain ⟨q1,q2⟩:=hW.blk k b0 h3
  have ow:=c2 k b0 h2 h3
  have owc:∀j,j∈ownsL b0.c->j∈ks:=λj hj=>ow j (by unfold AB.owns;exact Bp.2 (.inl hj))
  rw [Fv];refine ⟨?_,ren_okL _ owc q2.1,?_⟩
  ·unfold BU at q1|-
   unfold IG;cases hbk:b0.k with
   |cl=>
    simp only [hbk,JX] at q1|-;obtain ⟨cs,e1,e2⟩:=q1;exact ⟨cs,xv,ren_RL hRn _ _ owc q2.1 e2⟩
   |vec e l=>
    simp only [hbk,JX] at q1|-;rw [h5];exact q1
   |mp kd kk vs=>
    simp only [hbk,JX] at q1|-;obtain ⟨es,clock,e1,e2,e3⟩:=q1;exact ⟨es,clock,xv,e2,ren_RL hRn _ _ (λj hj=>ow j aMu) (by have:=q2.2;rw [hbk] at this;exact this) e3⟩
   |Cc ps asg body st=>
    simp only [hbk,JX] at q1|-;obtain ⟨r,e1,e2,e3,e4,e5,e6⟩:=q1;exact ⟨r,xv,e2,e3,e4,e5,ren_RL hRn _ _ owc q2.1 e6⟩
   |st e l=>
    simp only [hbk,JX] at q1|-;rw [h5];exact q1
   |dead=>simp only [JX]
  ·have q22:=q2.2
   unfold IG;cases hbk:b0.k with
   |mp kd kk vs=>
    simp only [hbk,JX] at q22|-;exact ren_okL _ (λj hj=>ow j aMu) q22
   |cl=>simp only [JX]
   |vec e l=>simp only [JX]
   |Cc ps asg body st=>simp only [JX]
   |st e l=>simp only [JX]
   |dead=>simp only [JX]
def at_ (i:Nat):List Nat->List LV->LV
 |j::js,x::xs=>if i=j then x else at_ i js xs
 |_,_=> .junk
def Q6 (live:List Nat) (vals:List LV):Nat->Nat->List LV
 |0,_=>[]
 |n+1,i=>at_ i live vals::Q6 live vals n (i+1)
def HX (n:Nat) (live:List Nat) (vals:List LV):List LV:=Q6 live vals n 0
def aB5 (live:List Nat) (vals:List LV):∀n i,(Q6 live vals n i).length=n
 |0,_=>rfl
 |n+1,i=>by simp [Q6,aB5 live vals n (i+1)]
def adw (live:List Nat) (vals:List LV):∀n i k,k<n->(Q6 live vals n i)[k]? =some (at_ (i+k) live vals)
 |0,_,k,h=>A0
 |n+1,i,0,_=>by simp [Q6]
 |n+1,i,k+1,h=>by
  simp only [Q6,j9];rw [adw live vals n (i+1) k A0]
  grind
def aR0 (i:Nat):∀(live:List Nat) (vals:List LV),at_ i live vals=.junk\/∃p:Nat,live[p]? =some i/\vals[p]? =some (at_ i live vals)
 | [],_=> .inl rfl
 |_::_,[]=> .inl rfl
 | j::js,x::xs=>by
  simp only [at_];split
  ·rename_i h;exact .inr ⟨0,kf,AJ⟩
  ·rcases aR0 i js xs with h|⟨p,h1,h2⟩
   ·exact .inl h
   ·exact .inr ⟨p+1,AA,AA⟩
def TR (live:List Nat) (F:List LV):List LV:=live.map λj=>norm (F.getD j .junk)
def ao8 {live:List Nat}(hF:RF ds β Z w n F a):RL β Z w (TR live F) (live.map λj=>a.tmps.getD j undef)/\AR n (TR live F):=by
 have one:∀j,R β Z w (F.getD j .junk) (a.tmps.getD j undef)/\okV n (F.getD j .junk):=λj=>by
  cases hj:F[j]? with
  |none=>simp [List.getD,hj,R,okV]
  |some x=>simp only [List.getD,hj,jR];exact hF.get j x hj
 refine ⟨RL.CO (by simp [TR]) λi x hx=>?_,AR.CO λi x hx=>?_⟩
 ·simp only [TR,DS] at hx|-
  cases hl:live[i]? with
  |none=>simp [hl] at hx
  |some j=>simp [hl] at hx;subst hx;exact ⟨_,AJ,OY (one j).1⟩
 ·simp only [TR,DS] at hx
  cases hl:live[i]? with
  |none=>simp [hl] at hx
  |some j=>simp [hl] at hx;subst hx;exact Sr (one j).2
def amr {live:List Nat}{vals:List LV}{N:Nat}(hs:a.tmps.size=N) (hd:a.defers=ds/\∀d,d∈ds->∃D,d=GK D/\Z D/\FU w D) (h:RL β Z w vals (live.map λj=>a.tmps.getD j undef)) (hk:AR n vals):RF ds β Z w n (HX N live vals) a:=by
 refine ⟨by rw [hs];simp [HX,aB5],λt x hx=>?_,hd⟩
 have ht:t<N:=by have:=(Du.1 hx).1;simpa [HX,aB5] using this
 unfold HX at hx;rw [adw live _ _ _ t ht] at hx;simp only [Ad,EK] at hx;rcases aR0 t live vals with h1|⟨p,h1,h2⟩
 ·rw [hx] at h1;subst h1;exact ⟨JK,trivial⟩
 ·rw [hx] at h2
  obtain ⟨y,e1,e2⟩:=RL.get _ _ h h2;simp only [DS,h1,JH,Ad] at e1;subst e1;exact ⟨e2,AR.get _ _ hk h2⟩
inductive Up where
 |nl (i:Nat) (t:TypeId) (ty:Ty)
 |pb (i:Nat) (ty:Ty)
 |nc (k j:Nat) (t:TypeId) (ty:Ty)
 |pc (k j:Nat) (ty:Ty)
 |pk (k:Nat)
 |ns (i j:Nat) (t:TypeId) (ty:Ty)
 |ps (i j:Nat) (ty:Ty)
 |mc (k j:Nat)
 |kb (k:Nat)
 |ms (i j:Nat)
def am0 (F:List LV):Up->Up
 | .ns i j t ty=>match F.getD i .junk with
  | .own k _=> .nc k j t ty
  |_=> .ns i j t ty
 | .ps i j ty=>match F.getD i .junk with
  | .own k _=> .pc k j ty
  |_=> .ps i j ty
 | .ms i j=>match F.getD i .junk with
  | .own k _=> .mc k j
  |_=> .ms i j
 |u=>u
def DD:List Up->List LV->List AB->T (List LV×List AB)
 | [],F,H=> .ok (F,H)
 | .nl i t ty::us,F,H=>match F.getD i .junk with
  | .v (.slice none 0 0)=>DD us (F.set i (.os H.length ty.n 0 0)) (H++[⟨[],t,.vec ty [],false⟩])
  |_=>DD us F H
 | .pb i ty::us,F,H=>match F.getD i .junk with
  | .v (.slice none 0 0)=>DD us (F.set i (.xl ty [])) H
  | .os k es off n=>if K0 H (reach H 64 [k] []) [.os k es off n] then (EA H 6 (.os k es off n)).bind λ_=>DD us (F.set i (Bz H 6 (.os k es off n))) (FR (reach H 64 [k] []) 0 H) else .no
  |_=>DD us F H
 | .nc k j t ty::us,F,H=>match H[k]? with
  |some ⟨c,bt,.cl,false⟩=>(match c[j]? with
   |some (.v (.slice none 0 0))=>DD us F (H.set k ⟨c.set j (.os H.length ty.n 0 0),bt,.cl,false⟩++[⟨[],t,.vec ty [],false⟩])
   |_=>DD us F H)
  |_=>DD us F H
 | .pc k j ty::us,F,H=>match H[k]? with
  |some ⟨c,bt,.cl,false⟩=>(match c[j]? with
   |some (.v (.slice none 0 0))=>DD us F (H.set k ⟨c.set j (.xl ty []),bt,.cl,false⟩)
   |some (.os k' es off n)=>if K0 H (reach H 64 [k'] []) [.os k' es off n]&&!(reach H 64 [k'] []).contains k then (EA H 6 (.os k' es off n)).bind λ_=>DD us F ((FR (reach H 64 [k'] []) 0 H).set k ⟨c.set j (Bz H 6 (.os k' es off n)),bt,.cl,false⟩) else .no
   |_=>DD us F H)
  |_=>DD us F H
 | .pk k::us,F,H=>DD us F (FR (reach H 64 [k] []) 0 H)
 | .kb k::us,F,H=>DD us F (H.set k ⟨[],0,.dead,false⟩)
 | .ns ..::us,F,H=>DD us F H
 | .ps ..::us,F,H=>DD us F H
 | .mc k j::us,F,H=>match H[k]? with
  | some ⟨c,bt,.cl,false⟩=>(match c[j]? with
   |some (.os k' es off n)=>(match H[k']? with
    |some ⟨[],t,.vec e l,false⟩=>DD us F ((H.set k' (⟨[],t,.dead,false⟩:AB)++[(⟨[],t,.vec e l,false⟩:AB)]).set k ⟨c.set j (.os H.length es off n),bt,.cl,false⟩)
    |_=>DD us F H)
   |_=>DD us F H)
  |_=>DD us F H
 | .ms ..::us,F,H=>DD us F H
def RL.set':∀ {l:List LV}{ys:List Value}{j:Nat}{x:LV}{y:Value},RL β Z w l ys->ys[j]? =some y->R β Z w x y->RL β Z w (l.set j x) ys
 | [],ys,j,x,y,h,hy,_=>AA
 |z::l,ys,0,x,y,h,hy,hr=>by
  obtain ⟨y0,zs,rfl,h1,h2⟩:=h
  simp at hy
  subst hy;exact ⟨_,zs,rfl,hr,h2⟩
 |z::l,ys,j+1,x,y,h,hy,hr=>by
  obtain ⟨y0,zs,rfl,h1,h2⟩:=h;exact ⟨y0,zs,rfl,h1,RL.set' h2 AA hr⟩
def AR.set' {n:Nat}:∀ {l:List LV}{j:Nat}{x:LV},AR n l->okV n x->AR n (l.set j x)
 | [],_,_,h,_=>AA
 |z::l,0,x,h,hx=>⟨hx,h.2⟩
 |z::l,j+1,x,h,hx=>⟨h.1,AR.set' h.2 hx⟩
def RW.tell {k j:Nat}{c:List LV}{bt:TypeId}{x:LV}(hW:RW G w0 Z0 Z β H w) (hb:H[k]? =some ⟨c,bt,.cl,false⟩) (hx:∀y,(∃z,c[j]? =some z/\R β Z w z y)->R β Z w x y) (hj:∃z,c[j]? =some z) (hok:okV H.length x):RW G w0 Z0 Z β (H.set k ⟨c.set j x,bt,.cl,false⟩) w:=by
 obtain ⟨h1,h2⟩:=hW.blk k _ hb;obtain ⟨cs,g1,g2⟩:=h1;obtain ⟨z,hz⟩:=hj;obtain ⟨y,q1,q2⟩:=RL.get j z g2 hz;refine hW.set hb trivial rfl rfl ⟨AR.set' h2.1 hok,trivial⟩ rfl ⟨rfl,rfl,rfl⟩ (λ_ _=>rfl) ?_
 exact ⟨cs,g1,RL.set' g2 q1 (hx y ⟨z,hz,q2⟩)⟩
def JL:∀(us:List Up) (F:List LV) (H:List AB) (Z:Nat->Prop) (β:Nat->Loc) (F1:List LV) (H1:List AB),RW G w0 Z0 Z β H w->RF ds β Z w H.length F a->(DD us F H).all (λq=>q=(F1,H1))->∃Z' β',RW G w0 Z0 Z' β' H1 w/\RF ds β' Z' w H1.length F1 a/\F1.length=F.length
 | [],F,H,Z,β,F1,H1,hW,hF,h=>by
  simp only [DD,T.all,Aq] at h;obtain ⟨rfl,rfl⟩:=h;exact ⟨Z,β,hW,hF,rfl⟩
 | .nl i t ty::us,F,H,Z,β,F1,H1,hW,hF,h=>by
  simp only [DD] at h;split at h
  ·rename_i hx
   obtain ⟨s1,s2⟩:=hF.slot hx AJ
   have hv:=(hF.get i _ s1).1
   simp only [R] at hv;obtain ⟨β',b1,b2,b3⟩:=hW.KJ (ℓ:=⟨w.heap.size,0,none⟩) (nb:=⟨[],t,.vec ty [],false⟩) rfl ⟨trivial,trivial⟩ (λhl=>absurd rfl hl) (λβ' g1 g2=>yE)
   have hF1:RF ds β' Z w (H++[(⟨[],t,.vec ty [],false⟩:AB)]).length F a:=hF.mono AJ b1 (λ_ h=>h) (λ_ _=>rfl)
   obtain ⟨Z2,β2,c1,c2,c3⟩:=JL us (F.set i (.os H.length ty.n 0 0)) _ Z β' F1 H1 b3 (hF1.know (by simp only [R,b2];exact ⟨trivial,trivial,hv⟩) Lz) h
   exact xL
  ·exact OD
 | .pb i ty::us,F,H,Z,β,F1,H1,hW,hF,h=>by
  simp only [DD] at h;split at h
  ·rename_i hx
   obtain ⟨s1,s2⟩:=hF.slot hx AJ
   have hv:=(hF.get i _ s1).1
   simp only [R] at hv;obtain ⟨Z2,β2,c1,c2,c3⟩:=JL us (F.set i (.xl ty [])) H Z β F1 H1 hW (hF.know (by simp only [R];exact ⟨none,0,hv,At _,λh=>by simp at h⟩) trivial) h
   exact xL
  ·rename_i k es off n hx
   split at h
   ·rename_i hcl
    obtain ⟨s1,s2⟩:=hF.slot hx AJ
    have hv:=hF.get i _ s1
    obtain ⟨_,hg,h2⟩:=T.Ay h
    have hG:GX H 6 (.os k es off n):=T.BT (K':=λ_=>True) (λ_ _=>trivial) hg
    obtain ⟨q1,q2⟩:=Sb hcl
    have hP:=hW.pub (reach H 64 [k] [])
    have hH:=λk b hb=>(hW.blk k b hb).2
    have hr:=MH (S:=λj=>j∈reach H 64 [k] []) hW q2 6 _ _ hG (λj hj=>q1 j aN6) hv.2 hv.1
    have hF1:RF ds β (ZP Z β H λj=>j∈reach H 64 [k] []) w (FR (reach H 64 [k] []) 0 H).length F a:=by
     exact aLH
    obtain ⟨Z2,β2,c1,c2,c3⟩:=JL us (F.set i (Bz H 6 (.os k es off n))) _ _ β F1 H1 hP (hF1.know hr (okV.mono (Kr _) _ (Pt H hH 6 _ hv.2))) h2;exact xL
   ·cases h
  ·exact OD
 | .nc k j t ty::us,F,H,Z,β,F1,H1,hW,hF,h=>by
  simp only [DD] at h;split at h
  ·rename_i c bt hb
   split at h
   ·rename_i hj
    have hkl:k<H.length:=(Du.1 hb).1
    obtain ⟨β',b1,b2,b3⟩:=hW.KJ (ℓ:=⟨w.heap.size,0,none⟩) (nb:=⟨[],t,.vec ty [],false⟩) rfl ⟨trivial,trivial⟩ (λhl=>absurd rfl hl) (λβ' g1 g2=>yE)
    have hb':(H++[(⟨[],t,.vec ty [],false⟩:AB)])[k]? =some ⟨c,bt,.cl,false⟩:=by rw [HN hkl];exact hb
    have hT:=b3.tell (j:=j) (x:=.os H.length ty.n 0 0) hb' (λy ⟨z,hz,hr⟩=>by
     rw [hj] at hz
     have:=Dw hz
     subst this;simp only [R] at hr;simp only [R,b2];exact ⟨trivial,trivial,hr⟩) ⟨_,hj⟩ Lz
    rw [List.set_append_left _ _ hkl] at hT
    have hF1:RF ds β' Z w (H.set k ⟨c.set j (.os H.length ty.n 0 0),bt,.cl,false⟩++[(⟨[],t,.vec ty [],false⟩:AB)]).length F a:=hF.mono AJ b1 (λ_ h=>h) (λ_ _=>rfl)
    exact JL us F _ Z β' F1 H1 hT hF1 h
   ·exact OD
  ·exact OD
 | .pc k j ty::us,F,H,Z,β,F1,H1,hW,hF,h=>by
  simp only [DD] at h;split at h
  ·rename_i c bt hb
   split at h
   ·rename_i hj
    have hT:=hW.tell (j:=j) (x:=.xl ty []) hb (λy ⟨z,hz,hr⟩=>by
     rw [hj] at hz
     have:=Dw hz
     subst this;simp only [R] at hr|-;exact ⟨none,0,hr,At _,λh=>by simp at h⟩) ⟨_,hj⟩ trivial
    exact JL us F _ Z β F1 H1 hT (hF.mono AJ (λ_ _=>rfl) (λ_ h=>h) (λ_ _=>rfl)) h
   ·rename_i k' es off n hj
    split at h
    ·rename_i hcl
     simp only [AU,D4] at hcl;obtain ⟨hcl,hnk⟩:=hcl;obtain ⟨_,hg,h2⟩:=T.Ay h
     have hG:GX H 6 (.os k' es off n):=T.BT (K':=λ_=>True) (λ_ _=>trivial) hg
     obtain ⟨q1,q2⟩:=Sb hcl
     have hP:=hW.pub (reach H 64 [k'] [])
     have hH:=λk b hb=>(hW.blk k b hb).2
     have hok:okV H.length (.os k' es off n):=AR.get j _ (hH k _ hb).1 hj
     have hb':(FR (reach H 64 [k'] []) 0 H)[k]? =some ⟨c,bt,.cl,false⟩:=by
      rw [bT,hb];simp only [JH,EK,hnk];rfl
     have hT:=hP.tell (j:=j) (x:=Bz H 6 (.os k' es off n)) hb' (λy ⟨z,hz,hr⟩=>by
      rw [hj] at hz
      have:=Dw hz
      subst this
      have hr':R β Z w (.os k' es off n) y:=by simpa only [R] using hr
      exact MH (S:=λj=>j∈reach H 64 [k'] []) hW q2 6 _ _ hG (λj hj=>q1 j aN6) hok hr') ⟨_,hj⟩ (okV.mono (Kr _) _ (Pt H hH 6 _ hok))
     exact JL us F _ _ β F1 H1 hT (hF.mono (by simp [Js]) (λ_ _=>rfl) (λ_ h=> .inl h) (λ_ _=>rfl)) h2
    ·cases h
   ·exact OD
  ·exact OD
 | .pk k::us,F,H,Z,β,F1,H1,hW,hF,h=>by
  simp only [DD] at h
  have hP:=hW.pub (reach H 64 [k] [])
  have hF1:RF ds β (ZP Z β H λj=>j∈reach H 64 [k] []) w (FR (reach H 64 [k] []) 0 H).length F a:=by
   exact aLH
  exact JL us F _ _ β F1 H1 hP hF1 h
 | .kb k::us,F,H,Z,β,F1,H1,hW,hF,h=>JL us F _ Z β F1 H1 (hW.kill k 0) (hF.mono AJ (λ_ _=>rfl) (λ_ h=>h) (λ_ _=>rfl)) kO
 | .mc k j::us,F,H,Z,β,F1,H1,hW,hF,h=>by
  simp only [DD] at h;split at h
  ·rename_i c bt hb
   split at h
   ·rename_i k' es off n hj
    split at h
    ·rename_i t e l hk'
     have hkk:k≠k':=λq=>by subst q;rw [hb] at hk';simp at hk'
     have hK:=hW.kill k' t
     obtain ⟨β',b1,b2,b3⟩:=hK.KJ (ℓ:=β k') (nb:=⟨[],t,.vec e l,false⟩) rfl ⟨trivial,trivial⟩ (λhl=>by
       have hl':live β k' (⟨[],t,.vec e l,false⟩:AB):=hl
       refine ⟨hW.Cg k' _ hk' hl' rfl,hW.low k' _ hk' hl',λi bi hi li e=>?_⟩
       rw [HI] at hi;split at hi
       ·split at hi
        ·simp only [Ad] at hi;subst hi;exact li
        ·cases hi
       ·rename_i hne
        exact hne (hW.inj k' i _ _ hk' hi hl' li rfl e.symm)) (λβ' g1 g2=>by
       have:=(hW.blk k' _ hk').1
       simp only [BU] at this|-;rw [g2];exact this)
     simp only [Br] at b1 b2
     have hlen:(H.set k' ⟨[],t,.dead,false⟩++[(⟨[],t,.vec e l,false⟩:AB)]).length=H.length+1:=AJ
     have hb':(H.set k' ⟨[],t,.dead,false⟩++[(⟨[],t,.vec e l,false⟩:AB)])[k]? =some ⟨c,bt,.cl,false⟩:=by
      have hkl:k<H.length:=(Du.1 hb).1
      rw [HN (by simpa using hkl),Uz (OC hkk)]
      exact hb
     have hk'l:k'<H.length:=(Du.1 hk').1
     have hT:=b3.tell (j:=j) (x:=.os H.length es off n) hb' (λy ⟨z,hz,hr⟩=>by
      rw [hj] at hz
      have:=Dw hz
      subst this;simp only [R] at hr|-;rw [b1 k' hk'l] at hr;rw [b2];exact hr) ⟨_,hj⟩ (by rw [hlen];exact ZY _)
     have hF1:RF ds β' Z w ((H.set k' ⟨[],t,.dead,false⟩++[(⟨[],t,.vec e l,false⟩:AB)]).set k ⟨c.set j (.os H.length es off n),bt,.cl,false⟩).length F a:=hF.mono AJ b1 (λ_ h=>h) (λ_ _=>rfl)
     exact JL us F _ Z β' F1 H1 hT hF1 h
    ·exact OD
   ·exact OD
  ·exact OD
 | .ms ..::us,F,H,Z,β,F1,H1,hW,hF,h=>JL us F H Z β F1 H1 hW hF kO
 | .ns ..::us,F,H,Z,β,F1,H1,hW,hF,h=>JL us F H Z β F1 H1 hW hF kO
 | .ps ..::us,F,H,Z,β,F1,H1,hW,hF,h=>JL us F H Z β F1 H1 hW hF kO
def aAs (H:List AB):LV->T LV
 | .os k es off n=>match H[k]? with
  |some ⟨_,_,.vec _ l,_⟩=> .req (off=0/\n=List.length l) (.ok (.os k es 0 (List.length l)))
  |_=> .ok (.os k es off n)
 |x=> .ok x
def Uk (H:List AB):List LV->T (List LV)
 | []=> .ok []
 |x::xs=>(aAs H x).bind λy=>(Uk H xs).bind λys=> .ok (y::ys)
def aqC {x y:LV}(h:(aAs H x).all (λz=>z=y)):y=x:=by
 unfold aAs at h;split at h
 ·split at h
  ·simp only [T.all] at h
   obtain ⟨⟨rfl,rfl⟩,h⟩:=h;exact h.symm
  ·exact h.symm
 ·exact h.symm
def cJ:∀ {l l':List LV},(Uk H l).all (λz=>z=l')->l'=l
 | [],l',h=>h.symm
 |x::xs,l',h=>by
  obtain ⟨y,h1,h2⟩:=T.Ay h;obtain ⟨ys,h3,h4⟩:=T.Ay h2;rw [<-h4,aqC h1,cJ h3]
def aN (H:List AB):List AB->T (List AB)
 | []=> .ok []
 |b::bs=>(Uk H b.c).bind λc=>(aN H bs).bind λcs=> .ok (⟨c,b.t,b.k,b.p⟩::cs)
def o5:∀ {l l':List AB},(aN H l).all (λz=>z=l')->l'=l
 | [],l',h=>h.symm
 |b::bs,l',h=>by
  obtain ⟨c,h1,h2⟩:=T.Ay h;obtain ⟨cs,h3,h4⟩:=T.Ay h2;rw [<-h4,cJ h1,o5 h3]
structure Vw where
 ex:Ex
 len:Nat
 vals:List LV
 Ix:List AB
 low:Bool
def Us (N:Nat) (H:List AB) (vals:List LV):List Nat:=reach H 400 (ownsL vals++(H.take N).flatMap AB.owns) (List.range N)
def alO (N:Nat) (live:List Nat) (x:Ex) (n:Nat) (F:List LV) (H:List AB):T Vw:=
 (Uk H (TR live F)).bind λvals=>(aN H ((Us N H vals).map (λk=>H.getD k UN))).bind λbs=>
  .ok ⟨x,n,renL (Us N H vals) vals,bs.map (IG (Us N H vals)),
   K0 H (Us N H vals) vals&&nodupB (Us N H vals)&&lD N (Us N H vals)⟩
def G2 (N:Nat) (live:List Nat) (us:List Up) (x:Ex) (F:List LV) (H:List AB):T Vw:=(DD (us.map (am0 F)) F H).bind λq=>alO N live x F.length q.1 q.2
def bJ {N:Nat}{live:List Nat}{us:List Up}{x:Ex}{v:Vw}(hgh:AN N Z0) (hW:RW G w0 Z0 Z β H w) (hF:RF ds β Z w H.length F a) (h:(G2 N live us x F H).all (λz=>z=v)) (hl:v.low=true):
  v.ex=x/\v.len=F.length/\∃Z' β',RW G w0 Z0 Z' β' v.Ix w/\RF ds β' Z' w v.Ix.length (HX F.length live v.vals) a:=by
 obtain ⟨⟨F1,H1⟩,h0,h⟩:=T.Ay h;obtain ⟨Z1,β1,c1,c2,c3⟩:=JL _ F H Z β F1 H1 hW hF h0;obtain ⟨vals,h1,h2⟩:=T.Ay h;obtain ⟨bs,h2b,h2⟩:=T.Ay h2
 have h3:=cJ h1
 have h4:=o5 h2b
 subst h3;subst h4;rw [Gk] at h2;subst h2;refine ⟨rfl,rfl,?_⟩;simp only [AU] at hl;obtain ⟨β2,d1,d2⟩:=c1.ren hgh hl.1.1 hl.1.2 hl.2;obtain ⟨v1,v2⟩:=ao8 (live:=live) c2;obtain ⟨k1,_⟩:=Sb hl.1.1;refine ⟨Z1,β2,d2,amr (by rw [hF.size]) c2.defers (ren_RL d1 _ _ k1 v2 v1) ?_⟩
 rw [Fv];exact ren_okL _ k1 v2
inductive Rd (σ:Type) where
 |next (s:σ)
 |stop (x:Ex) (s:σ)
def rdV {σ:Type}(n:Nat) (A:σ->List LV) (B:σ->List AB):Rd σ->Vw
 | .next s'=>⟨.normal,n,A s',B s',true⟩
 | .stop x s'=>⟨x,n,A s',B s',true⟩
structure S4 {α:Type} (K:α->Prop) (t:T α):Prop where
 out:t.all K
def DK {σ:Type}(f:σ->Rd σ):Nat->σ->Ex×σ
 |0,s=>(.ret,s)
 |k+1,s=>match f s with
  | .next s'=>DK f k s'
  | .stop x s'=>(x,s')
def aDC {σ:Type}{f:σ->Rd σ}{μ:σ->Nat}{I:σ->Prop}(hd:∀s s',I s->f s=.next s'->I s'/\μ s'<μ s):∀(k:Nat) (s:σ),I s->μ s<k->∃s',I s'/\f s'=.stop (DK f k s).1 (DK f k s).2
 |0,s,_,h=>A0
 | k+1,s,hi,hk=>by
  simp only [DK];cases hf:f s with
  |next s'=>
   obtain ⟨h1,h2⟩:=hd s s' hi hf;exact aDC hd k s' h1 A0
  |stop x s'=>exact ⟨s,hi,hf⟩
def T.agree {α:Type}{K:α->Prop}{p:α}:∀ {t:T α},t.all (λx=>x=p)->t.all K->K p
 | .ok _,h,hk=>by simp only [T.all] at h hk;exact h▸hk
 | .br b t e,h,hk=>by
  cases b with
  |true=>exact T.agree (h.1 rfl) (hk.1 rfl)
  |false=>exact T.agree (h.2 rfl) (hk.2 rfl)
 | .req _ t,h,hk=>T.agree h.2 hk.2
 | .no,_,h=>Ah
def yg {σ:Type}(N n:Nat) (live:List Nat) (us:List Up) (sel:List LV->List AB->T σ) (out:σ->T (Ex×List LV×List AB)) (F:List LV) (H:List AB):T (Ex×List LV×List AB):=
 if F.length=n then ((G2 N live us .normal F H).bind λv=>if v.low then sel v.vals v.Ix else .no).bind out else .no
def fv (N:Nat) (live:List Nat) (us:List Up) (t:T (Ex×List LV×List AB)):T Vw:=t.bind λq=>G2 N live us q.1 q.2.1 q.2.2
def gI:LV->Int
 | .v (.int _ n)=>n
 | .ki _ n=>n
 |_=>0
def gBo:LV->Bool
 | .v (.bool b)=>b
 | .bl b=>b
 |_=>false
def gSr:LV->ByteArray
 | .v (.string s)=>s
 |_=>ByteArray.empty
def Gi:LV->Value
 | .v y=>y
 |_=>undef
def Ai (e:Ty) (x:LV):List e.D:=(Mh e x).getD []
def E6 (x:LV) (j:Nat):LV:=
 match x with
 | .v (.agg ys)=> .v (ys.toList.getD j undef)
 | .agg l=>l.getD j .junk
 | .v (.tuple ys)=> .v (ys.toList.getD j undef)
 | .AM l=>l.getD j .junk
 |_=> .junk
def gFn (x:LV) (j:Nat):LV:=
 match x with
 | .fn _ l=>l.getD j .junk
 | .fb _ l=>l.getD j .junk
 |_=> .junk
def BM (x:LV) (j:Nat):LV:=
 match x with
 | .xq _ f=>f j
 |_=> .junk
def CP (H:List AB) (k:Nat):AB:=H.getD k ⟨[],0,.dead,false⟩
def B3 (b:AB) (j:Nat):LV:=b.c.getD j .junk
def gVe (e:Ty) (b:AB):List e.D:=
 match b.k with
 | .vec e' l=>(match Ja e' e with
  |some ⟨h⟩=>KI h l
  |none=>[])
 |_=>[]
def AK (v:List LV) (k:Nat):Int:=gI (v.getD k .junk)
def Eb (v:List LV) (k:Nat):Bool:=gBo (v.getD k .junk)
def Az (e:Ty) (v:List LV) (k:Nat):List e.D:=Ai e (v.getD k .junk)
def Ae (b:List AB) (k j:Nat):Int:=gI (B3 (CP b k) j)
def Kg (b:List AB) (k j:Nat):Bool:=gBo (B3 (CP b k) j)
def AF (e:Ty) (b:List AB) (k j:Nat):List e.D:=Ai e (B3 (CP b k) j)
def Ab (e:Ty) (b:List AB) (k:Nat):List e.D:=gVe e (CP b k)
def gSe (e:Ty) (b:AB):List e.D:=
 match b.k with
 | .st e' l=>(match Ja e' e with
  |some ⟨h⟩=>KI h l
  |none=>[])
 |_=>[]
def aJV {σ:Type}(E:σ->Prop) (A:σ->List LV) (B:σ->List AB) (s:σ) (vals:List LV) (Ix:List AB):T σ:=.req (E s/\vals=A s/\Ix=B s) (.ok s)
def aoH {σ:Type}{E:σ->Prop}{A:σ->List LV}{B:σ->List AB}{s0 s:σ}{vals:List LV}{Ix:List AB}(h:(aJV E A B s0 vals Ix).all (λx=>x=s)):E s/\vals=A s/\Ix=B s:=by
 obtain ⟨h1,rfl⟩:=h;exact h1
def agK {σ:Type}(N n:Nat) (live:List Nat) (us:List Up) (A:σ->List LV) (B:σ->List AB) (I E:σ->Prop) (μ:σ->Nat) (f:σ->Rd σ) (sel:List LV->List AB->T σ) (out:σ->T (Ex×List LV×List AB)) {b:Code}{t:List LV->List AB->T (Ex×List LV×List AB)}(hb:GI P G (AN N) b t)
  (hsel:∀vals Ix s,(sel vals Ix).all (λx=>x=s)->E s/\vals=A s/\Ix=B s) (hEI:∀s,E s->I s)
  (hd:∀s s',I s->f s=.next s'->I s'/\μ s'<μ s)
  (hne:∀s x s',f s=.stop x s'->x≠ .normal)
  (step':∀s,I s->S4 (λv=>v=rdV n A B (f s)) (fv N live us (t (HX n live (A s)) (B s))))
  (hout:∀s,E s->(out s).all λq=>q=((DK f (μ s+1) s).1,HX n live (A (DK f (μ s+1) s).2),B (DK f (μ s+1) s).2)):
  GI P G (AN N) (.loop b) (yg N n live us sel out):=by
 intro r w0 Z0 Z β F H a w ds Q x F' H' hgh hr hD hW hF h hQ;unfold yg at h;split at h
 ·rename_i hlen
  obtain ⟨s,h0,h2⟩:=T.Ay h;obtain ⟨v,hv,h1⟩:=T.Ay h0;split at h1
  ·rename_i hlow
   obtain ⟨hE,hvv,hbk⟩:=hsel _ _ s h1
   have h2:=T.agree h2 (hout s hE)
   obtain ⟨_,_,Z1,β1,hW1,hF1⟩:=bJ hgh hW hF hv hlow;refine wpIn_loop_rounds (μ s+1) ?_
   have key:∀(k:Nat) (s:σ) (ds:List Deferred) (Z:Nat->Prop) (β:Nat->Loc) (a:Act) (w:World),I s->μ s<k->Lh w0 Z0 ds->RW G w0 Z0 Z β (B s) w->RF ds β Z w (B s).length (HX n live (A s)) a->
     (∀ds' Z' β' a' w',Lh w0 Z0 ds'->RW G w0 Z0 Z' β' (B (DK f k s).2) w'->RF ds' β' Z' w' (B (DK f k s).2).length (HX n live (A (DK f k s).2)) a'->Q (aAw (DK f k s).1) a' w')->Code.roundsIn (DR r) 0 P b Q k a w:=by
    intro k
    induction k with
    |zero=>intro s ds Z β a w _ h;omega
    | succ k ih=>
     intro s ds Z β a w hI hm hD hW hF hQ;obtain ⟨v,h1,h2⟩:=T.pick (step' s hI).out;obtain ⟨⟨x,F1,H1⟩,h3,h4⟩:=T.Ay h2;refine hb r w0 Z0 Z β _ (B s) a w ds _ x F1 H1 hgh hr hD hW hF h3 λds' Z' β' a' w' e0 e1 e2=>?_
     cases hf:f s with
     |next s'=>
      rw [hf] at h1;subst h1;obtain ⟨g1,g2,Z2,β2,k1,k2⟩:=bJ hgh e1 e2 h4 rfl;subst g1;obtain ⟨i1,i2⟩:=hd s s' hI hf;rw [<-g2] at k2;refine ih s' ds' Z2 β2 a' w' i1 A0 e0 k1 k2 ?_
      have:DK f (k+1) s=DK f k s':=by simp only [DK,hf]
      rw [this] at hQ;exact hQ
     |stop y s'=>
      rw [hf] at h1;subst h1;obtain ⟨g1,g2,Z2,β2,k1,k2⟩:=bJ hgh e1 e2 h4 rfl;subst g1
      have hn:=hne s y s' hf
      rw [<-g2] at k2
      have:DK f (k+1) s=(y,s'):=by simp only [DK,hf]
      rw [this] at hQ
      have hq:=hQ ds' Z2 β2 a' w' e0 k1 k2
      cases y with
      |normal=>exact absurd rfl hn
      |exit k=>exact hq
      |ret=>exact hq
   grind
  ·cases h1
 ·cases h
def CM {σ:Type}(Pn:σ->Prop) (Ps:Ex->σ->Prop):Rd σ->Prop
 | .next s=>Pn s
 | .stop x s=>Ps x s
def AG {σ:Type}{Pn:σ->Prop}{Ps:Ex->σ->Prop}{c:Bool}{x y:Rd σ}(h1:c=true->CM Pn Ps x) (h2:c=false->CM Pn Ps y):CM Pn Ps (if c=true then x else y):=by
 cases c with
 |true=>exact h1 rfl
 |false=>exact h2 rfl
def ag9 {σ:Type}{Pn:σ->Prop}{Ps:Ex->σ->Prop}{r:Rd σ}(h:CM Pn Ps r) {s:σ}(e:r=.next s):Pn s:=by subst e;exact h
def bM {σ:Type}{Pn:σ->Prop}{Ps:Ex->σ->Prop}{r:Rd σ}(h:CM Pn Ps r) {x:Ex}{s:σ}(e:r=.stop x s):Ps x s:=by subst e;exact h
def Bo:Ex->Ex->Bool
 | .normal,.normal=>true
 | .ret,.ret=>true
 | .exit n,.exit m=>n==m
 |_,_=>false
def aDZ {S Y:Type}{f:S->Rd S}{I:S->Prop}{μ:S->Nat}{V:S->Y}{Q:Ex->S->Y->Prop}(hd:∀s s',I s->f s=.next s'->I s'/\μ s'<μ s) (hv:∀s,I s->CM (λs'=>V s'=V s) (λx s'=>Q x s' (V s)) (f s)):∀(k:Nat) (s:S),I s->μ s<k->Q (DK f k s).1 (DK f k s).2 (V s)
 |0,s,_,h=>A0
 | k+1,s,h,hk=>by
  have h2:=hv s h
  simp only [DK];cases e:f s with
  |next s'=>
   rw [e] at h2;obtain ⟨d1,d2⟩:=hd s s' h e
   have:=aDZ hd hv k s' d1 A0
   rwa [show V s=V s' from h2.symm]
  |stop x s'=>
   rw [e] at h2;exact h2
def T.rd {σ:Type}(s:σ):T (Rd σ)->Rd σ
 | .ok x=>x
 | .br b x y=>if b=true then x.rd s else y.rd s
 | .req _ x=>x.rd s
 | .no=> .next s
def T.mp {α β:Type}(k:α->β):T α->T β
 | .ok x=> .ok (k x)
 | .br b x y=> .br b (x.mp k) (y.mp k)
 | .req p x=> .req p (x.mp k)
 | .no=> .no
def T.X8 {α β:Type}{k:α->β}{K:β->Prop}:∀ {t:T α},t.all (λx=>K (k x))->(t.mp k).all K
 | .ok _,h=>h
 | .br _ _ _,h=>⟨λc=>T.X8 (h.1 c),λc=>T.X8 (h.2 c)⟩
 | .req _ _,h=>⟨h.1,T.X8 h.2⟩
 | .no,h=>h
def T.ck {σ:Type}{s:σ}:∀ {t:T (Rd σ)},t.all (λ_=>True)->t.all (λx=>x=t.rd s)
 | .ok _,_=>rfl
 | .br b _ _,h=>by
  cases b with
  |true=>exact ⟨λc=>T.ck (h.1 c),λc=>Gm⟩
  |false=>exact ⟨λc=>Gm,λc=>T.ck (h.2 c)⟩
 | .req _ _,h=>⟨h.1,T.ck h.2⟩
 | .no,h=>h
def T.Tq {σ:Type}{s:σ}{k:Rd σ->Rd σ}(h0:k (.next s)=.next s):∀ {t:T (Rd σ)},t.mp k=t->k (t.rd s)=t.rd s
 | .ok x,h=>by
  simp only [T.mp,T.ok.injEq] at h;simp only [T.rd,h]
 | .br b x y,h=>by
  simp only [T.mp,T.br.injEq,E9] at h;simp only [T.rd];split
  ·exact T.Tq h0 h.1
  ·exact T.Tq h0 h.2
 | .req _ x,h=>by
  simp only [T.mp,T.req.injEq,E9] at h;exact T.Tq (t:=x) h0 h
 | .no,_=>h0
structure AS (σ:Type) where
 (N n:Nat)
 lv:List Nat
 us:List Up
 A:σ->List LV
 B:σ->List AB
 g:List LV->List AB->σ
 t:σ->T (Rd σ)
 kp:σ->σ->σ
 rd:σ->σ
 fx:Ex->σ->σ
 xs:List Ex
 (E I:σ->Prop)
 mu:σ->Nat
def outT {β:Type}(e:Ex) (k:Ex->β):List Ex->T β
 | []=> .no
 | [x]=> .ok (k x)
 |x::y::xs=> .br (Bo e x) (.ok (k x)) (outT e k (y::xs))
def WL:∀ {x y:Ex},Bo x y=true->x=y
 | .normal,.normal,_=>rfl
 | .ret,.ret,_=>rfl
 | .exit _,.exit _,h=>by simpa [Bo] using h
def aE2 {β:Type}{e:Ex}{k:Ex->β}:∀ {xs:List Ex},xs.any (Bo e)=true->(outT e k xs).all (λq=>q=k e)
 | [],h=>Ah
 | [x],h=>by
  simp only [ZT,jP,Bool.or_false] at h;rw [WL h];rfl
 |x::y::xs,h=>by
  refine ⟨λc=>?_,λc=>aE2 ?_⟩
  ·rw [WL c];rfl
  ·grind
def Kd {σ:Type}(xs:List Ex):T (Rd σ)->Bool
 | .ok (.next _)=>true
 | .ok (.stop x _)=>xs.any (Bo x)&&!Bo x .normal
 | .br _ x y=>Kd xs x&&Kd xs y
 | .req _ x=>Kd xs x
 | .no=>true
def Wy {σ:Type}{xs:List Ex}{s s':σ}{x:Ex}:∀ {t:T (Rd σ)},Kd xs t=true->t.rd s=.stop x s'->xs.any (Bo x)=true/\x≠ .normal
 | .ok (.next _),_,h=>Ah
 | .ok (.stop y _),h,e=>by
  simp only [T.rd,Rd.stop.injEq] at e;simp only [Kd,AU,D4] at h;rw [e.1] at h;refine ⟨h.1,λe=>?_⟩
  rw [e] at h;exact absurd h.2 (by simp [Bo])
 | .br b x y,h,e=>by
  simp only [Kd,AU] at h;simp only [T.rd] at e;split at e
  ·exact Wy h.1 e
  ·exact Wy h.2 e
 | .req _ x,h,e=>Wy (t:=x) h e
 | .no,_,h=>Ah
namespace AS
variable {σ : Type} (D : AS σ)
def f (s:σ):Rd σ:=(D.t s).rd s
def run (s:σ):σ:=D.kp s (DK D.f (D.mu s+1) s).2
def Am (s:σ):Ex:=(DK D.f (D.mu s+1) s).1
def sel (vals:List LV) (Ix:List AB):T σ:=aJV D.E D.A D.B (D.g vals Ix) vals Ix
def out (s:σ):T (Ex×List LV×List AB):=outT (D.Am s) (λx=>(x,HX D.n D.lv (D.A (D.fx x (D.run s))),D.B (D.fx x (D.run s)))) D.xs
def lp:List LV->List AB->T (Ex×List LV×List AB):=yg D.N D.n D.lv D.us D.sel D.out
def q (s:σ):Prop:=D.E s/\D.A s=D.A s/\D.B s=D.B s
def IH (s:σ):Rd σ->Rd σ
 | .next s'=> .next (D.kp s s')
 | .stop x s'=> .stop x (D.kp s s')
def fxR:Rd σ->Rd σ
 | .next s'=> .next s'
 | .stop x s'=> .stop x (D.fx x s')
structure Ok:Prop where
 keep:∀s,(D.t (D.rd s)).mp (D.IH (D.rd s))=D.t (D.rd s):=by intro s;kernel_rfl
 fix:∀s,D.I (D.rd s)->CM (λ_=>True) (λx s'=>D.fx x s'=s') ((D.t (D.rd s)).rd (D.rd s)):=by intro s _;exact AS.ak0 _ (by kernel_rfl)
 aiu:∀s,D.kp s s=s:=by intros;rfl
 ait:∀s t r,D.kp (D.kp s t) r=D.kp s r:=by intros;rfl
 fx0:∀s,D.fx .normal (D.rd s)=D.rd s:=by intros;rfl
 exs:∀s,Kd D.xs (D.t s)=true:=by intro s;kernel_rfl
def ak0 {s:σ}(h:(D.t s).mp D.fxR=D.t s):CM (λ_=>True) (λx s'=>D.fx x s'=s') ((D.t s).rd s):=by
 have hx:=T.Tq (s:=s) (by simp only [fxR]) h
 cases hf:(D.t s).rd s with
 |next s'=>exact trivial
 |stop x s'=>
  rw [hf] at hx;simp only [fxR,Rd.stop.injEq,E9] at hx;exact hx
structure Pf (Q:Ex->σ->σ->Prop):Prop where
 ei:∀s,D.E s->D.I s
 rdy:∀s,D.I s->D.rd s=s
 da:∀s,D.I s->CM (λs'=>D.I s'/\D.mu s'<D.mu s) (λx s'=>Q x s s') (D.f s)
 rq:∀s,D.I s->(D.t s).all (λ_=>True)
variable {D} {Q : Ex -> σ -> σ -> Prop}
def Pf.nx (p:D.Pf Q) (s s':σ) (h:D.I s) (e:D.f s=.next s'):D.I s'/\D.mu s'<D.mu s:=ag9 (p.da s h) e
def kept (o:D.Ok) (p:D.Pf Q):∀(k:Nat) (s:σ),D.I s->D.mu s<k->D.kp s (DK D.f k s).2=(DK D.f k s).2/\D.fx (DK D.f k s).1 (DK D.f k s).2=(DK D.f k s).2/\D.xs.any (Bo (DK D.f k s).1)=true
 |0,_,_,h=>A0
 | k+1,s,hI,hk=>by
  have h1:=o.keep s
  have h2:=o.fix s
  have h0:=o.fx0 s
  rw [p.rdy s hI] at h0 h1 h2
  have hl:=T.Tq (s:=s) (by simp only [IH,o.aiu]) h1
  have hx:=h2 hI
  change D.IH s (D.f s)=D.f s at hl
  simp only [DK];cases hf:D.f s with
  |next s'=>
   rw [hf] at hl;simp only [IH,Rd.next.injEq] at hl;obtain ⟨h1,h2⟩:=p.nx s s' hI hf;obtain ⟨h3,h4⟩:=kept o p k s' h1 A0;refine ⟨?_,h4⟩
   have e:=o.ait s s' (DK D.f k s').2
   rw [hl,h3] at e;exact e.symm
  |stop x s'=>
   have hx:=bM hx hf
   rw [hf] at hl;simp only [IH,Rd.stop.injEq,E9] at hl;exact ⟨hl,hx,(Wy (o.exs s) hf).1⟩
def run_eq (o:D.Ok) (p:D.Pf Q) {s:σ}(hE:D.E s):(DK D.f (D.mu s+1) s).2=D.run s:=(kept o p _ s (p.ei s hE) (ZY _)).1.symm
end AS
end Go.Sx
end
