/- Helpers for ParkMeters. Conditions: none. -/
import Derived.Test.YtgmhhjldohjpmaaGreatDoorQm2
set_option linter.defProp false
set_option linter.unusedVariables false
set_option linter.unusedSimpArgs false
noncomputable section
namespace Go.Sx
open Go Go.RowKit Go.Proofs.YtgmhhjldohjpmaaGreatDoor
variable {P : Program} {G : Av} {Γ : Specs} {L : LA} {β : Nat -> Loc} {Z : Nat -> Prop} {Z0 : Gz} {w w0 : World} {F : List LV} {H : List AB} {a : Act} {ds : List Deferred} {n : Nat}
namespace AS
variable {σ : Type} (D : AS σ)
variable {D} {Q : Ex -> σ -> σ -> Prop}
def end_ (o:D.Ok) (p:D.Pf Q) (s:σ) (hE:D.E s):∃s',D.I s'/\D.f s'=.stop (D.Am s) (D.run s):=by
 rw [<-run_eq o p hE];exact aDC p.nx (D.mu s+1) s (p.ei s hE) (ZY _)
def fin (o:D.Ok) (p:D.Pf Q) (s:σ) (hE:D.E s):∃s',D.I s'/\Q (D.Am s) s' (D.run s):=by
 obtain ⟨s',hI,hf⟩:=end_ o p s hE;exact ⟨s',hI,bM (p.da s' hI) hf⟩
def snd (o:D.Ok) (p:D.Pf Q) {b:Code}{t:List LV->List AB->T (Ex×List LV×List AB)}(hb:GI P G (AN D.N) b t)
  (hn:∀s,fv D.N D.lv D.us (t (HX D.n D.lv (D.A (D.rd s))) (D.B (D.rd s)))=(D.t (D.rd s)).mp (rdV D.n D.A D.B)):GI P G (AN D.N) (.loop b) D.lp:=by
 refine agK D.N D.n D.lv D.us D.A D.B D.I D.E D.mu D.f D.sel D.out hb (λ_ _ _ h=>aoH h) p.ei p.nx (λs x s' hf=>(Wy (o.exs s) hf).2) (λs hI=>⟨?_⟩) λs hE=>?_
 ·have h:=hn s
  rw [p.rdy s hI] at h;rw [h];exact T.X8 (T.BT (λx hx=>by rw [hx];rfl) (T.ck (s:=s) (p.rq s hI)))
 ·obtain ⟨h1,h2,h3⟩:=kept o p _ s (p.ei s hE) (ZY (D.mu s))
  have h4:=aE2 (k:=λx=>(x,HX D.n D.lv (D.A (D.fx x (D.run s))),D.B (D.fx x (D.run s)))) h3
  refine T.BT (λq hq=>?_) h4
  rw [hq];simp only [run,h1,h2]
def aAu (o:D.Ok) (p:D.Pf Q) {Y:Type}(V:σ->Y) (K:Ex->σ->Y->Prop) (hv:∀s,D.I s->CM (λs'=>V s'=V s) (λx s'=>K x s' (V s)) (D.f s)) (s:σ) (hE:D.E s):K (D.Am s) (D.run s) (V s):=by
 rw [<-run_eq o p hE];exact aDZ p.nx hv (D.mu s+1) s (p.ei s hE) (ZY _)
def KO (o:D.Ok) (p:D.Pf Q) {Y:Type}(V:σ->Y) (hv:∀s,D.I s->CM (λs'=>V s'=V s) (λ_ s'=>V s'=V s) (D.f s)) (s:σ) (hE:D.E s):V (D.run s)=V s:=aAu o p V (λ_ s' v=>V s'=v) hv s hE
def stR (s:σ):Rd σ->Rd σ
 | .next s'=> .next s'
 | .stop x _=> .stop x s
def inv (o:D.Ok) (p:D.Pf Q) (hs:∀s,(D.t s).mp (stR s)=D.t s) (s:σ) (hE:D.E s):D.I (D.run s)/\D.f (D.run s)=.stop (D.Am s) (D.run s):=by
 obtain ⟨s',hI,hf⟩:=end_ o p s hE
 have h:=T.Tq (s:=s') (k:=stR s') rfl (hs s')
 have h:stR s' (D.f s')=D.f s':=h
 simp only [stR,Rd.stop.injEq,E9] at h
 grind
end AS
abbrev T.ix {α:Type}(i:Int) (n:Nat) (t:T α):T α:=.req (0<=i/\i<(n:Int)) t
abbrev T.ik {α:Type}(i:Int) (n:Nat) (t:T α):T α:=.ix i n (.req (i.toNat<n) t)
abbrev T.rz {α β:Type}(l:List β) (t:T α):T α:=.req (0+(List.length l)<=List.length l) t
abbrev T.rm {α:Type}(w n:Int) (t:T α):T α:=.req (0<=n/\n<=n/\w*n<=2^48/\n<2^63) t
abbrev T.ra {α:Type}(n m k:Nat) (w:Int) (t:T α):T α:=.req (0+n=m/\(k:Int)*w<=2^47/\(k:Int)<2^62) t
abbrev T.rb {α:Type}(n x:Nat) (w:Int) (t:T α):T α:=.ra n n (n+x) w t
abbrev T.re {α β:Type}(n:Nat) (l:List β) (t:T α):T α:=.req (0=0/\n=List.length l) t
abbrev T.r0 {α:Type}(β:Type) (t:T α):T α:=.re 0 ([]:List β) t
abbrev T.rc {α β:Type}(n:Int) (d:β) (k:Nat) (t:T α):T α:=.req (n.toNat=List.length (List.replicate n.toNat d)/\k<=n.toNat) t
abbrev T.nx {σ:Type}(s:σ):T (Rd σ):=.ok (.next s)
abbrev T.so {σ:Type}(x:Ex) (s:σ):T (Rd σ):=.ok (.stop x s)
abbrev T.tu (l:Array Value):T LV:=.ok (.v (.tuple l))
instance:Coe Int LV:=⟨λx=> .v (.int .i64 x)⟩
instance:Coe Bool LV:=⟨λx=> .v (.bool x)⟩
instance:Coe Int Value:=⟨.int .i64⟩
instance:Coe Bool Value:=⟨.bool⟩
instance:Coe (List Int) LV:=⟨λl=> .xl (.int .i64) l⟩
instance:Coe (List ByteArray) LV:=⟨λl=> .xl .str l⟩
abbrev xQ (n:Nat) (l:List LV):LV:=.xq n (λj=>l.getD j .junk)
abbrev Bg:AB:=⟨[],0,.dead,false⟩
abbrev bV (k:Nat) (e:Ty) (l:List e.D):AB:=⟨[],k,.vec e l,false⟩
abbrev Dd:LV:=.v (.slice none 0 0)
end Go.Sx
namespace Go.Sx
open Go Go.RowKit Go.Proofs.YtgmhhjldohjpmaaGreatDoor
variable {P : Program} {G : Av} {Γ : Specs} {K : Hand} {L : LA} {β : Nat -> Loc} {Z : Nat -> Prop} {w : World} {n : Nat}
def Bn (k:IntKind) (x y:Int):Int:=k.wrap ((BitVec.ofInt k.bits x&&&BitVec.ofInt k.bits y).toNat)
def DO (k:IntKind) (x y:Int):Int:=k.wrap ((BitVec.ofInt k.bits x |||BitVec.ofInt k.bits y).toNat)
def aJK (k:IntKind) (x y:Int):Int:=k.wrap ((BitVec.ofInt k.bits x^^^BitVec.ofInt k.bits y).toNat)
def gi (l:List Int) (n:Int):Int:=l.getD n.toNat 0
def Io {l:List Int}{n:Int}(h:n.toNat<l.length):gi l n=l[n.toNat]:=by simp [gi,List.getD,DF h]
def L6 {l:List Int}{n:Int}(h:n.toNat<l.length):gi l n∈l:=by rw [Io h];exact FK h
def fo {α:Type}{f:LV->Option α}{l:List LV}{d:α}{ys:List Value}(h:hd1 f l=some d) (hr:RL β Z w l ys):∃x y,f x=some d/\ys=[y]/\R β Z w x y:=by
 unfold hd1 at h;split at h
 ·rename_i x
  simp only [RL] at hr
  grind
 ·cases h
def RL.one {x:LV}{y:Value}(h:R β Z w x y):RL β Z w [x] [y]:=by simp only [RL];exact ⟨y,[],rfl,h,rfl⟩
def bp:∀(t:Ty) (cs:List LV) (d:t.D) (ys:List Value),Je t cs=some d->RL β Z w cs ys->RL β Z w (Bk t d) ys
 | .int k,cs,d,ys,h,hr=>by
  obtain ⟨x,y,h1,rfl,h3⟩:=fo h hr;unfold aAn at h1;split at h1
  ·split at h1
   ·rename_i hk;simp only [Ad] at h1;subst h1 hk;exact RL.one h3
   ·cases h1
  ·split at h1
   ·rename_i hk;simp only [Ad] at h1;subst h1 hk;exact RL.one aNY
   ·cases h1
  ·cases h1
 | .bool,cs,d,ys,h,hr=>by
  obtain ⟨x,y,h1,rfl,h3⟩:=fo h hr;unfold aAo at h1;split at h1
  ·simp only [Ad] at h1;subst h1;exact RL.one h3
  ·simp only [Ad] at h1;subst h1;exact RL.one aNY
  ·cases h1
 | .str,cs,d,ys,h,hr=>by
  obtain ⟨x,y,h1,rfl,h3⟩:=fo h hr;unfold aAm at h1;split at h1
  ·simp only [Ad] at h1;subst h1;exact RL.one h3
  ·cases h1
 | .sl e,cs,d,ys,h,hr=>by
  obtain ⟨x,y,h1,rfl,h3⟩:=fo h hr;exact RL.one (uR h1 h3)
 | .pair a b,cs,d,ys,h,hr=>by
  simp only [Je] at h;split at h
  ·rename_i x y h1 h2
   simp only [Ad] at h;subst h
   have e1:=bp a _ x _ h1 (hr.take a.n)
   have e2:=bp b _ y _ h2 (hr.drop a.n)
   rw [<-ZN a.n ys];exact e1.app e2
  ·cases h
def upV (P:Program) (t:TypeId) (x:LV):LV:=
 match IE P 8 t,Rl P t with
 | some ty,some true=>match x with
  | .v (.agg ys)=>(match Je ty (ys.toList.map .v) with
   |some d=>JT (Bk ty d)
   |none=>x)
  | .agg l=>(match Je ty l with
   |some d=>JT (Bk ty d)
   |none=>x)
  |_=>x
 | some ty,some false=>(match Je ty [x] with
  |some d=>(match Bk ty d with
   | [c]=>c
   |_=>x)
  |none=>x)
 |_,_=>x
def G3 (P:Program):List TypeId->List LV->List LV
 |t::ts,x::xs=>upV P t x::G3 P ts xs
 |_,xs=>xs
def upR (P:Program) (ts:List TypeId) (x:LV):LV:=
 match ts with
 | [t]=>upV P t x
 |ts=>match x with
  | .v (.tuple ys)=>Qo (G3 P ts (ys.toList.map .v))
  | .AM l=>Qo (G3 P ts l)
  |x=>x
def RL.plain:∀(ys:List Value),RL β Z w (ys.map .v) ys
 | []=>aH
 |y::ys=>by simp only [E8,RL];exact ⟨y,ys,rfl,JK,RL.plain ys⟩
def aD0:∀(ys:List Value),AR n (ys.map .v)
 | []=>trivial
 |y::ys=>⟨trivial,aD0 ys⟩
def aaW {t:TypeId}{x:LV}{y:Value}(h:R β Z w x y):R β Z w (upV P t x) y:=by
 unfold upV;split
 ·split
  ·split
   ·rename_i d hd
    subst h;exact Vy (bp _ _ d _ hd (RL.plain _))
   ·exact h
  ·split
   ·rename_i d hd
    obtain ⟨ys,rfl,h2⟩:=h;exact Vy (bp _ _ d _ hd h2)
   ·exact h
  ·exact h
 ·split
  ·rename_i d hd
   split
   ·rename_i c hc
    have:=bp _ _ d _ hd (RL.one h)
    rw [hc] at this;obtain ⟨y',zs,e1,e2,e3⟩:=this
    grind
   ·exact h
  ·exact h
 ·exact h
def aIq {t:TypeId}{x:LV}(h:okV n x):okV n (upV P t x):=by
 unfold upV;split
 ·split
  ·split
   ·exact Px (NC _ _ _)
   ·exact h
  ·split
   ·exact Px (NC _ _ _)
   ·exact h
  ·exact h
 ·split
  ·rename_i d hd
   split
   ·rename_i c hc
    have:=NC n _ d
    rw [hc] at this;exact this.1
   ·exact h
  ·exact h
 ·exact h
def fK:∀ {ts:List TypeId}{l:List LV}{ys:List Value},RL β Z w l ys->RL β Z w (G3 P ts l) ys
 | [],l,ys,h=>kP
 |_::_,[],ys,h=>kP
 |t::ts,x::xs,ys,h=>by
  obtain ⟨y,zs,h1,h2,h3⟩:=h;exact ⟨y,zs,h1,aaW h2,fK h3⟩
def dA:∀ {ts:List TypeId}{l:List LV},AR n l->AR n (G3 P ts l)
 | [],l,h=>kP
 |_::_,[],h=>kP
 |t::ts,x::xs,h=>by
  exact ⟨aIq h.1,dA h.2⟩
def ahX {ts:List TypeId}{x:LV}{y:Value}(h:R β Z w x y):R β Z w (upR P ts x) y:=by
 unfold upR;split
 ·exact aaW h
 ·split
  ·simp only [R] at h
   subst h;exact qM (fK (RL.plain _))
  ·simp only [R] at h
   obtain ⟨ys,rfl,h2⟩:=h;exact qM (fK h2)
  ·exact h
def ath {ts:List TypeId}{x:LV}(h:okV n x):okV n (upR P ts x):=by
 unfold upR;split
 ·exact aIq h
 ·split
  ·exact pC (dA (aD0 _))
  ·exact pC (dA (by simpa only [okV] using h))
  ·exact h
def Jj (P:Program) (ts:List TypeId) (S:List LV->T LV):List LV->T LV:=λl=>S (G3 P ts l)
def Valid.up {f:FuncId}{S:List LV->T LV}(h:Valid P G f S) (ts:List TypeId):Valid P G f (Jj P ts S):=by
 intro args vals w Z lv hz hg hok hr hs;exact h (G3 P ts args) vals w Z lv hz hg (dA hok) (fK hr) hs
/-A pointer to cells that are only read,told by the cells. -/
mutual
def canX:LV->LV
 | .xq n f=> .xq n (λj=>((List.range n).map λi=>canX (f i)).getD j .junk)
 | .fn f l=> .fn f (canL l)
 | .fb f l=> .fb f (canL l)
 |x=>x
def canL:List LV->List LV
 | []=>[]
 |x::xs=>canX x::canL xs
end
mutual
def canX_R:∀ {x:LV}{y:Value},R β Z w x y->R β Z w (canX x) y
 | .xq n f,y,h=>by
  simp only [canX,R] at h|-;obtain ⟨b,off,h1,hz,h2⟩:=h;refine ⟨b,off,h1,hz,λj hj=>?_⟩
  have e:((List.range n).map λi=>canX (f i)).getD j .junk=canX (f j):=y9
  rw [e];obtain ⟨z,e1,e2⟩:=h2 j hj;exact ⟨z,e1,canX_R e2⟩
 | .fn f l,y,h=>by
  exact aLF
 | .fb f l,y,h=>by
  exact aLF
 | .v _,_,h=>h
 | .bl _,_,h=>h
 | .ki _ _,_,h=>h
 | .own _ _,_,h=>h
 | .agg _,_,h=>h
 | .AM _,_,h=>h
 | .xl _ _,_,h=>h
 | .os ..,_,h=>h
 | .op ..,_,h=>h
 | .om _,_,h=>h
 | .mp ..,_,h=>h
 | .oc ..,_,h=>h
 | .CN _,_,h=>h
 | .junk,_,h=>h
def canL_R:∀ {l:List LV}{ys:List Value},RL β Z w l ys->RL β Z w (canL l) ys
 | [],ys,h=>by simpa only [canL,RL] using h
 |x::xs,ys,h=>by
  simp only [canL,RL] at h|-;obtain ⟨y,zs,h1,h2,h3⟩:=h;exact ⟨y,zs,h1,canX_R h2,canL_R h3⟩
end
mutual
def canX_ok:∀ {n:Nat}{x:LV},okV n x->okV n (canX x)
 | _,.xq m f,h=>by
  simp only [canX,okV] at h|-;intro j
  by_cases hj:j<m
  ·have e:((List.range m).map λi=>canX (f i)).getD j .junk=canX (f j):=y9
   rw [e];exact canX_ok (h j)
  ·have e:((List.range m).map λi=>canX (f i)).getD j .junk=.junk:=y9
   rw [e];trivial
 |_,.fn f l,h=>by
  simp only [canX,okV] at h|-;exact canL_ok h
 |_,.fb f l,h=>by
  simp only [canX,okV] at h|-;exact canL_ok h
 |_,.v _,h=>h
 |_,.bl _,h=>h
 |_,.ki _ _,h=>h
 |_,.own _ _,h=>h
 |_,.agg _,h=>h
 |_,.AM _,h=>h
 |_,.xl _ _,h=>h
 |_,.os ..,h=>h
 |_,.op ..,h=>h
 |_,.om _,h=>h
 |_,.mp ..,h=>h
 |_,.oc ..,h=>h
 |_,.CN _,h=>h
 |_,.junk,h=>h
def canL_ok:∀ {n:Nat}{l:List LV},AR n l->AR n (canL l)
 |_,[],h=>h
 |_,x::xs,h=>by
  simp only [canL,AR] at h|-;exact ⟨canX_ok h.1,canL_ok h.2⟩
end
def Dn {n:Nat}{f:Nat->LV}{l:List LV}(h:(List.range n).map f=l):((List.range n).map λi=>canX (f i))=canL l:=by
 have e:∀l:List LV,canL l=l.map canX:=λl=>by induction l with
  |nil=>rfl
  |cons x l ih=>simp only [canL,ih,E8]
 rw [e,<-h,Gk];rfl
def Bc (P:Program) (G:Av) (Γ:Specs) (K:Hand) (L:LA) (fn:Func) (args:List LV):T LV:=(aAp P G Γ K L fn args).bind λx=> .ok (canX (upR P fn.resultTypes.toList x))
def aDd {f:FuncId}{fn:Func}{X S:List LV->T LV}(h0:Valid P G f X) (hS:∀args lv,(S args).all (λx=>x=lv)->((X (canL args)).bind λx=> .ok (canX (upR P fn.resultTypes.toList x))).all (λx=>x=lv)):Valid P G f (Jj P fn.params.toList S):=by
 refine Valid.up ?_ _;intro args vals w Z lv hz hg hok hr hs
 have hs:=hS args lv hs
 obtain ⟨x,h1,h2⟩:=T.Ay hs;subst h2;exact Calls.mono (h0 (canL args) vals w Z x hz hg (canL_ok hok) (canL_R hr) h1) (λe w' ⟨e1,v,e2,e3,e4⟩=>⟨e1,v,e2,canX_ok (ath e3),canX_R (ahX e4)⟩)
def mm {f:FuncId}{fn:Func}{c:Code}{S:List LV->T LV}(hfn:P.funcs[f]? =some fn) (hc:fn.body=some c) (hΓ:∀g S,Γ g=some S->Valid P G g S) (hK:F5 P G K)
  (hL:∀b∈B6 c,Sound P G (.loop b) (L (GL b))) (hS:∀args lv,(S args).all (λx=>x=lv)->(Bc P G Γ K L fn (canL args)).all (λx=>x=lv)):Valid P G f (Jj P fn.params.toList S):=
 aDd (agT hfn hc hΓ hK hL (λ_ _ h=>h)) hS
def T.red {α:Type}:T α->T α
 | .br true t _=>T.red t
 | .br false _ e=>T.red e
 | .req p t=> .req p (T.red t)
 |t=>t
def T.WO {α:Type}{K:α->Prop}:∀ {t:T α},t.red.all K->t.all K
 | .ok _,h=>h
 | .br true t e,h=>⟨λ_=>T.WO h,λhb=>Ku⟩
 | .br false t e,h=>⟨λhb=>Ku,λ_=>T.WO h⟩
 | .req p t,h=>⟨h.1,T.WO h.2⟩
 | .no,h=>h
end Go.Sx
namespace Go.Proofs.YtgmhhjldohjpmaaGreatDoor
set_option maxRecDepth 100000
set_option maxHeartbeats 4000000
open Go.Proofs.Tryz
open Go.Sx
abbrev Ao:Ty:=.pair .str (.pair A7 (.pair A7 (.pair A7 (.pair (.pair A7 A7) (.pair A7 (.pair A7 (.pair A7 (.pair A7 A7))))))))
abbrev B8:Ty:=.pair .str (.pair A7 (.pair A7 A7))
abbrev Au:Ty:=.pair .str (.pair A7 (.pair A7 (.pair A7 (.pair A7 (.pair A7 (.pair A7 A7))))))
abbrev B9:Ty:=.pair .str A7
abbrev Cbl:=Int×Int×Int×Int×Int
abbrev Cd:=ByteArray×Int×Int×Int×(Int×Int)×Cbl
instance:Coe (List Cd) LV:=⟨.xl Ao⟩
abbrev Ko:=ByteArray×Int×Int×Int
instance:Coe (List Ko) LV:=⟨.xl B8⟩
abbrev Ch:=ByteArray×Int×Int×Int×Int×Int×Int×Int
instance:Coe (List Ch) LV:=⟨.xl Au⟩
abbrev Ba:=ByteArray×Int
instance:Coe (List Ba) LV:=⟨.xl B9⟩
def s5 (a:List LV) (k:List Cd->List ByteArray->List Ko->List Ch->List Ba->T LV):T LV:=match a with
 | [.xl (.pair .str (.pair (.int .i64) (.pair (.int .i64) (.pair (.int .i64) (.pair (.pair (.int .i64) (.int .i64)) (.pair (.int .i64) (.pair (.int .i64) (.pair (.int .i64) (.pair (.int .i64) (.int .i64)))))))))) cs,.xl (.str) os,.xl (.pair .str (.pair (.int .i64) (.pair (.int .i64) (.int .i64)))) ks,.xl (.pair .str (.pair (.int .i64) (.pair (.int .i64) (.pair (.int .i64) (.pair (.int .i64) (.pair (.int .i64) (.pair (.int .i64) (.int .i64)))))))) gs,.xl (.pair .str (.int .i64)) bs]=>k cs os ks gs bs
 |_=> .no
def I8 {a:List LV}{k:List Cd->List ByteArray->List Ko->List Ch->List Ba->T LV}{K:LV->Prop}(h:(s5 a k).all K):∃cs os ks gs bs,a=[.xl Ao cs,.xl .str os,.xl B8 ks,.xl Au gs,.xl B9 bs]/\(k cs os ks gs bs).all K:=by
 unfold s5 at h;exact jx
def AI {x:Int}(h1:-9223372036854775808<=x:=by omega) (h2:x<=9223372036854775807:=by omega):A9 x=x:=by
 exact aMB
def inB (n a b:Int):Bool:=decide (n>=a)&&decide (n<=b)
def CU {n a b:Int}:inB n a b=true↔a<=n/\n<=b:=by simp [inB]
def MO {α:Type}{l:List α}{d:α}{n:Int}(h:n.toNat<l.length):l.getD n.toNat d=l[n.toNat]:=AA
def Q5 {α:Type}{l:List α}{d:α}{i:Int}(h0:0<=i) (h:i<l.length):l.drop i.toNat=l.getD i.toNat d::l.drop (i+1).toNat/\l.take (i+1).toNat=l.take i.toNat++[l.getD i.toNat d]:=by
 have hlt:i.toNat<l.length:=A0
 rw [MO hlt,show (i+1).toNat=i.toNat+1 by omega,List.take_add_one,DF hlt,SD hlt]
 grind
def emp:ByteArray:=ByteArray.mk #[]
def Ag (l:List Cd) (n:Int):Cd:=l.getD n.toNat (emp,0,0,0,(0,0),0,0,0,0,0)
def AH (l:List Ch) (n:Int):Ch:=l.getD n.toNat (emp,0,0,0,0,0,0,0)
def Ny (l:List Ko) (n:Int):Ko:=l.getD n.toNat (emp,0,0,0)
def O3 (l:List Ba) (n:Int):Ba:=l.getD n.toNat (emp,0)
def gS (l:List ByteArray) (n:Int):ByteArray:=l.getD n.toNat emp
def gi_step {l:List Int}{i:Int}(h0:0<=i) (h:i<l.length):l.drop i.toNat=gi l i::l.drop (i+1).toNat/\l.take (i+1).toNat=l.take i.toNat++[gi l i]:=by
 have hlt:i.toNat<l.length:=A0
 rw [Io hlt,show (i+1).toNat=i.toNat+1 by omega,List.take_add_one,DF hlt,SD hlt]
 grind
def aze {l:List Ch}{n:Int}(h:n.toNat<l.length):AH l n=l[n.toNat]:=MO h
def amo {l:List Cd}{i:Int}(h0:0<=i) (h:i<l.length):l.drop i.toNat=Ag l i::l.drop (i+1).toNat/\l.take (i+1).toNat=l.take i.toNat++[Ag l i]:=Q5 h0 h
def amn {l:List Ch}{i:Int}(h0:0<=i) (h:i<l.length):l.drop i.toNat=AH l i::l.drop (i+1).toNat/\l.take (i+1).toNat=l.take i.toNat++[AH l i]:=Q5 h0 h
def aDq {l:List Ko}{i:Int}(h0:0<=i) (h:i<l.length):l.drop i.toNat=Ny l i::l.drop (i+1).toNat/\l.take (i+1).toNat=l.take i.toNat++[Ny l i]:=Q5 h0 h
def amq {l:List Ba}{i:Int}(h0:0<=i) (h:i<l.length):l.drop i.toNat=O3 l i::l.drop (i+1).toNat/\l.take (i+1).toNat=l.take i.toNat++[O3 l i]:=Q5 h0 h
def aGP {l:List ByteArray}{i:Int}(h0:0<=i) (h:i<l.length):l.drop i.toNat=gS l i::l.drop (i+1).toNat/\l.take (i+1).toNat=l.take i.toNat++[gS l i]:=Q5 h0 h
def DX (mi ma st:Int):Bool:=decide (1<=mi)&&(decide (mi<=ma)&&(decide (ma<=80)&&(decide (1<=st)&&decide (st<=80))))
def I6 {mi ma st:Int}:DX mi ma st=true↔1<=mi/\mi<=ma/\ma<=80/\1<=st/\st<=80:=by simp [DX]
def EF (mi ma st:Int):Int:=if DX mi ma st then (ma-mi) / st+2 else 0
def Dt (mi st k:Int):Int:=if k=0 then 0 else mi+(k-1)*st
def amE (mi ma st k:Int):Int:=if k<0\/EF mi ma st<=k then 1 else 0
def amA (mi ma st k:Int):Int:=if k<0\/EF mi ma st<=k then 0 else Dt mi st k
def HD (mi ma st a:Int):Int:=if DX mi ma st=false\/a<0 then -1 else if a<mi then 0 else min (EF mi ma st-1) ((a-mi) / st+1)
def nV {x st:Int}(h0:0<=x) (h1:1<=st):0<=x / st/\x / st<=x:=⟨SB h0 A0,V3 _ h0⟩
def aQ5 {mi ma st:Int}:0<=EF mi ma st/\EF mi ma st<=81:=by
 unfold EF;split
 ·rename_i h
  exact aLP
 ·omega
def qP {mi ma st:Int}(h:DX mi ma st=true):2<=EF mi ma st:=by
 unfold EF;rw [AE h];exact aLP
def aE6 {mi ma st:Int}(h:DX mi ma st=false):EF mi ma st=0:=by simp [EF,h]
def axM {a b:Int}(a0:0<=a) (a1:a<=1000) (b0:0<=b) (b1:b<=80):0<=a*b/\a*b<=80000:=
 ⟨I4 a0 b0,PW (PT b1 a0) A0⟩
def aFY (bs:ByteArray):∀(n i:Nat) (r:List UInt8),bs.size-i=n->ByteArray.toList.loop bs i r=r.reverse++bs.data.toList.drop i
 |0,i,r,h=>by
  rw [ByteArray.toList.loop,AD A0,EJ (by simp only [wM];show bs.size<=i;omega),FJ]
 | n+1,i,r,h=>by
  have hi:i<bs.data.toList.length:=by simp only [wM];show i<bs.size;omega
  rw [ByteArray.toList.loop,AE A0,aFY bs n (i+1) _ A0,List.reverse_cons,CZ,SD hi]
  have:bs.get! i=bs.data.toList[i]:=by
   show bs.data[i]! =_
   grind
  rw [this];rfl
def aFR (bs:ByteArray):bs.toList=bs.data.toList:=by
 rw [ByteArray.toList,aFY bs _ 0 [] rfl];rfl
def ato {a b:ByteArray}(h:a.toList=b.toList):a=b:=by
 rw [aFR,aFR] at h;cases a;cases b;simp at h;rw [h]
def tv {a b:ByteArray}:(a==b)=true↔a=b:=by
 show (a.data==b.data)=true↔_
 rw [Cj];exact ⟨λh=>by cases a;cases b;simp at h;rw [h],λh=>Va⟩
instance:LawfulBEq ByteArray where
 eq_of_beq h:=tv.1 h
 rfl:=tv.2 rfl
def Wx (a b:ByteArray):(a.toList==b.toList)=(a==b):=by
 rw [I0,Cj,tv];exact ⟨ato,λh=>Va⟩
def kinds:List ByteArray:=[ByteArray.mk #[102,101,101,100,101,114],ByteArray.mk #[99,97,98,108,101],ByteArray.mk #[111,119,110,101,114],ByteArray.mk #[99,111,110,116,114,97,99,116],ByteArray.mk #[99,104,97,114,103,101,114],ByteArray.mk #[98,97,121],ByteArray.mk #[116,97,114,105,102,102]]
def fy:List ByteArray:=[ByteArray.mk #[108,105,109,105,116],ByteArray.mk #[110,101,117,116,114,97,108],ByteArray.mk #[102,117,115,101],ByteArray.mk #[116,104,101,114,109,97,108],ByteArray.mk #[102,114,111,109],ByteArray.mk #[97,116],ByteArray.mk #[112,104,97,115,101,115],ByteArray.mk #[97,109,112,115],ByteArray.mk #[102,97,108,108,98,97,99,107],ByteArray.mk #[111,119,110,101,114],ByteArray.mk #[99,97,114,100],ByteArray.mk #[114,97,110,107],ByteArray.mk #[99,104,97,114,103,101,114]]
def nU:List ByteArray:=[ByteArray.mk #[115,116,97,114,116],ByteArray.mk #[101,110,101,114,103,121],ByteArray.mk #[116,105,109,101],ByteArray.mk #[105,100,108,101],ByteArray.mk #[99,97,112],ByteArray.mk #[116,97,120]]
def words:List ByteArray:=[ByteArray.mk #[111,110],ByteArray.mk #[119,111,114,107],ByteArray.mk #[115,97,116,117,114,100,97,121],ByteArray.mk #[115,117,110,100,97,121],ByteArray.mk #[98,101,116,119,101,101,110],ByteArray.mk #[112,101,114],ByteArray.mk #[102,114,101,101]]
def isIn (l:List ByteArray) (w:ByteArray):Bool:=l.any (w== ·)
def Ut:Int->List ByteArray->ByteArray->Int
 |_,[],_=>0
 |n,x::l,w=>if w==x then n else Ut (n+1) l w
def aDm:∀(n:Int) (l:List ByteArray) (w:ByteArray),0<n->(Ut n l w !=0)=isIn l w
 |_,[],_,_=>rfl
 | n,x::l,w,h=>by
  simp only [Ut,isIn,ZT];split
  ·grind
  ·rename_i c
   have:=aDm (n+1) l w A0
   simp only [isIn] at this;rw [this]
   simp [c]
def aAh (w:ByteArray):Bool:=isIn kinds w ||(isIn fy w ||(isIn nU w ||isIn words w))
def chA (b:Int):Bool:=decide (b>=97)&&decide (b<=122)
def chB (b:Int):Bool:=chA b ||((decide (b>=48)&&decide (b<=57)) ||b==95)
def gwB (w:ByteArray):Bool:=decide (1<=w.size/\w.size<=12)&&(chA (Jf w 0)&&(List.range w.size).all λi=>i==0 ||chB (Jf w i))
def nameB (w:ByteArray):Bool:=gwB w&&!aAh w
def LQ {p q:Prop}(h:p) (k:p->q):p/\q:=⟨h,k h⟩
def Dc (n:Nat) (f:Int->Bool):Bool:=(List.range n).all λj=>f (j:Int)
def EB {n:Nat}{f:Int->Bool}:Dc n f=true↔∀j:Nat,(j:Int)<(n:Int)->f j=true:=by
 unfold Dc
 grind
def Q3 {n:Nat}{f:Int->Bool}(j:Nat) (h:(j:Int)<(n:Int)) (hf:f j=false):Dc n f=false:=by
 rw [Hz];intro hx;rw [EB.1 hx j h] at hf;cases hf
def cbZ (c:Cbl):Bool:=(c.1==0)&&((c.2.1==0)&&((c.2.2.1==0)&&((c.2.2.2.1==0)&&(c.2.2.2.2==0))))
def Hx (c:Cbl):Bool:=cbZ c ||(decide (0<=c.1)&&(decide (c.1<c.2.1)&&(decide (c.2.1<=200000)&&(inB c.2.2.1 0 1000&&(inB c.2.2.2.1 0 1000&&inB c.2.2.2.2 1 1000000)))))
def Hl (i:Int) (c:Cd):Bool:=(if i=0 then c.2.1==-1 else inB c.2.1 0 (i-1))&&(inB c.2.2.1 1 1000&&(inB c.2.2.2.1 1 1000&&(((c.2.2.2.2.1.1==0)&&(c.2.2.2.2.1.2==0) ||(inB c.2.2.2.2.1.1 1 1000&&inB c.2.2.2.2.1.2 0 1000000))&&Hx c.2.2.2.2.2)))
def chW (c:Ch):Bool:=inB c.2.2.1 1 7&&(inB c.2.2.2.1 1 80&&(inB c.2.2.2.2.1 c.2.2.2.1 80&&(inB c.2.2.2.2.2.1 1 80&&(c.2.2.2.2.2.2.1==0 ||inB c.2.2.2.2.2.2.1 c.2.2.2.1 c.2.2.2.2.1))))
def Ga (nc no:Int) (c:Ch):Bool:=inB c.2.1 0 (nc-1)&&(inB c.2.2.2.2.2.2.2 0 (no-1)&&chW c)
def koV (no:Int) (c:Ko):Bool:=inB c.2.1 0 (no-1)&&(inB c.2.2.1 1 9&&inB c.2.2.2 1 1000000)
def once {α:Type} [BEq α] (l:List α):Bool:=(List.range l.length).all λj=>match l[j]? with
 |some x=>!((l.take j).contains x)
 |none=>true
def oy {α:Type} [BEq α] [LawfulBEq α] {l:List α}:once l=true↔∀(j:Nat) (h:j<l.length),¬l[j]∈l.take j:=by
 unfold once;rw [BL];refine ⟨λh j hj hm=>?_,λh j hj=>?_⟩
 ·have:=h j (I3.2 hj)
  rw [DF hj] at this;simp only [D4] at this;rw [ZL.2 hm] at this;cases this
 ·have hj:=I3.1 hj
  grind
def Ls (cs:List Cd) (os:List ByteArray) (ks:List Ko) (gs:List Ch) (bs:List Ba):Bool:=
 Dc cs.length (λj=>Hl j (Ag cs j))&&(ks.all (koV os.length)&&(once (ks.map (·.2.2.2))&&(gs.all (Ga cs.length os.length)&&bs.all (λb=>inB b.2 0 ((gs.length:Int)-1)))))
def L8 (cs:List Cd) (os:List ByteArray) (ks:List Ko) (gs:List Ch) (bs:List Ba):List ByteArray:=cs.map (·.1)++os++ks.map (·.1)++gs.map (·.1)++bs.map (·.1)
def BF (cs:List Cd) (os:List ByteArray) (ks:List Ko) (gs:List Ch) (bs:List Ba):Bool:=
 decide (1<=cs.length/\cs.length<=16/\os.length<=8/\ks.length<=32/\gs.length<=16/\bs.length<=24)&&((L8 cs os ks gs bs).all nameB&&(once (L8 cs os ks gs bs)&&Ls cs os ks gs bs))
def ah7 {nm:ByteArray}{i up li ne ra he am mo ga lo de:Int}(hi:0<=i) {K:Bool->Prop}(h:K (Hl i (nm,up,li,ne,(ra,he),am,mo,ga,lo,de))):
  ((if i==0 then (up !=(-1)) ||((decide (i>0))&&((decide (up<0)) ||(decide (up>=i)))) else (decide (i>0))&&((decide (up<0)) ||(decide (up>=i))))=true->K false)/\
  ((if i==0 then (up !=(-1)) ||((decide (i>0))&&((decide (up<0)) ||(decide (up>=i)))) else (decide (i>0))&&((decide (up<0)) ||(decide (up>=i))))=false->
   (((!(inB li (1:Int) (1000:Int))) ||(!(inB ne (1:Int) (1000:Int))))=true->K false)/\
   (((!(inB li (1:Int) (1000:Int))) ||(!(inB ne (1:Int) (1000:Int))))=false->
    (((!((ra==0)&&(he==0)))&&(!(inB ra (1:Int) (1000:Int)) ||(!(inB he (0:Int) (1000000:Int)))))=true->K false)/\
    (((!((ra==0)&&(he==0)))&&(!(inB ra (1:Int) (1000:Int)) ||(!(inB he (0:Int) (1000000:Int)))))=false->
     (((am==0)&&((mo==0)&&((ga==0)&&((lo==0)&&(de==0)))))=true->K true)/\
     (((am==0)&&((mo==0)&&((ga==0)&&((lo==0)&&(de==0)))))=false->K ((inB am (0:Int) (200000:Int))&&((inB mo (0:Int) (200000:Int))&&((inB ga (0:Int) (1000:Int))&&((inB lo (0:Int) (1000:Int))&&((inB de (1:Int) (1000000:Int))&&(decide (mo>am))))))))))):=by
 have e1:(if i==0 then (up !=(-1)) ||((decide (i>0))&&((decide (up<0)) ||(decide (up>=i)))) else (decide (i>0))&&((decide (up<0)) ||(decide (up>=i))))=!(if i=0 then up==-1 else inB up 0 (i-1)):=by
  by_cases h0:i=0
  ·grind
  ·have:(i==0)=false:=by simpa using h0
   rw [this,AD h0,I0]
   simp [inB]
   omega
 rw [e1];unfold Hl at h;simp only at h;generalize (if i=0 then up==-1 else inB up 0 (i-1))=b1 at*
 refine ⟨λc=>?_,λc=>⟨λc2=>?_,λc2=>⟨λc3=>?_,λc3=>⟨λc4=>?_,λc4=>?_⟩⟩⟩⟩
 ·grind
 all_goals
  have c:b1=true:=FN
  rw [c,Dj] at h
 ·have:(inB li 1 1000&&inB ne 1 1000)=false:=AA
  grind
 all_goals
  have c2:inB li 1 1000=true/\inB ne 1 1000=true:=D8
  rw [c2.1,c2.2,Dj,Dj] at h
 ·have:((ra==0)&&(he==0) ||(inB ra 1 1000&&inB he 0 1000000))=false:=by
   grind
  grind
 all_goals
  have:((ra==0)&&(he==0) ||(inB ra 1 1000&&inB he 0 1000000))=true:=by
   grind
  rw [this,Dj] at h
 ·unfold Hx cbZ at h
  grind
 ·unfold Hx cbZ at h
  rw [c4,Ct] at h
  have:((inB am (0:Int) (200000:Int))&&((inB mo (0:Int) (200000:Int))&&((inB ga (0:Int) (1000:Int))&&((inB lo (0:Int) (1000:Int))&&((inB de (1:Int) (1000000:Int))&&(decide (mo>am)))))))=(decide (0<=am)&&(decide (am<mo)&&(decide (mo<=200000)&&(inB ga 0 1000&&(inB lo 0 1000&&inB de 1 1000000))))):=by
   rw [I0];simp only [AU,CU,AY];omega
  rw [this];exact h
def WB {α β:Type} [BEq β] [LawfulBEq β] {l:List α}{d:α}{p:α->Bool}{k:α->β}:(∀j:Nat,(j:Int)<(l.length:Int)->(p (l.getD (j:Int).toNat d)&&!(((l.take (j:Int).toNat).map k).contains (k (l.getD (j:Int).toNat d))))=true)↔(l.all p&&once (l.map k))=true:=by
 have hg:∀(j:Nat) (h:j<l.length),l.getD (j:Int).toNat d=l[j]:=λj h=>MO (n:=(j:Int)) h
 rw [AU,BL,oy]
 constructor
 ·intro h
  refine ⟨λx hx=>?_,λj hj hm=>?_⟩
  ·obtain ⟨j,hj,rfl⟩:=List.getElem_of_mem hx
   have:=h j A0
   rw [hg j hj,AU] at this;exact this.1
  ·have hj':j<l.length:=AA
   have:=h j A0
   rw [hg j hj',AU,D4] at this
   have h2:=this.2
   rw [Bs,List.map_take,ZL.2 AA] at h2;cases h2
 ·intro ⟨h1,h2⟩ j hj
  have hj':j<l.length:=A0
  rw [hg j hj',AU,D4];refine ⟨h1 _ (FK _),?_⟩;rw [Hz,Bs,List.map_take]
  grind
def Pz {α:Type}{l:List α}{d:α}{p:α->Bool}:(∀j:Nat,(j:Int)<(l.length:Int)->p (l.getD (j:Int).toNat d)=true)↔l.all p=true:=by
 have hg:∀(j:Nat) (h:j<l.length),l.getD (j:Int).toNat d=l[j]:=λj h=>MO (n:=(j:Int)) h
 rw [BL]
 constructor
 ·intro h x hx
  obtain ⟨j,hj,rfl⟩:=List.getElem_of_mem hx
  have:=h j A0
  rw [hg j hj] at this;exact this
 ·intro h j hj
  grind
def Fe (cs:List Cd):Bool:=Dc cs.length (λj=>decide ((Ag cs j).2.1<j))
def Q8 {cs:List Cd}(h:Fe cs=true) {c:Int}(h0:0<=c) (h1:c<cs.length):(Ag cs c).2.1<c:=by
 exact aLB
def Hs:Nat->List Cd->Int->Int->Bool
 |0,_,_,_=>false
 |k+1,cs,o,c=>if c>=0 then (c==o ||Hs k cs o (Ag cs c).2.1) else false
def HC (cs:List Cd) (o c:Int):Bool:=Hs (c.toNat+2) cs o c
def aOn {cs:List Cd}{o:Int}(hu:Fe cs=true):∀(k k':Nat) (c:Int),c<cs.length->(c+1).toNat<k->(c+1).toNat<k'->Hs k cs o c=Hs k' cs o c
 |0,_,_,_,h,_=>A0
 |_+1,0,_,_,_,h=>A0
 | k+1,k'+1,c,hc,h,h'=>by
  simp only [Hs]
  by_cases h0:c>=0
  ·rw [AE h0,AE h0]
   have:=Q8 hu h0 hc
   rw [aOn hu k k' (Ag cs c).2.1 A0 A0 A0]
  ·rw [AD h0,AD h0]
def aOo {cs:List Cd}{o c:Int}(hu:Fe cs=true) (hc:c<cs.length):HC cs o c=if c>=0 then (c==o ||HC cs o (Ag cs c).2.1) else false:=by
 unfold HC;rw [Hs]
 by_cases h0:c>=0
 ·rw [AE h0,AE h0]
  have:=Q8 hu h0 hc
  rw [aOn hu (c.toNat+1) ((Ag cs c).2.1.toNat+2) (Ag cs c).2.1 A0 A0 A0]
 ·rw [AD h0,AD h0]
def atB (cs:List Cd) (gs:List Ch):Bool:=Dc gs.length (λj=>decide ((AH gs j).2.1<(cs.length:Int)))
def tz {cs:List Cd}{gs:List Ch}(h:atB cs gs=true) {c:Int}(h0:0<=c) (h1:c<gs.length):(AH gs c).2.1<(cs.length:Int):=by
 exact aLB
def GY (cs:List Cd) (gs:List Ch) (o:Int) (k:Nat):List Int:=((List.range k).map (λj:Nat=>(j:Int))).filter (λj=>HC cs o (AH gs j).2.1)
def ag4 {cs:List Cd}{gs:List Ch}{o:Int}{k:Nat}:GY cs gs o (k+1)=GY cs gs o k++(if HC cs o (AH gs k).2.1=true then [(k:Int)] else []):=by
 unfold GY;rw [OA,I2,V4]
 simp [Kn]
def pK {cs:List Cd}{gs:List Ch}{o:Int}{k:Nat}:(GY cs gs o k).length<=k:=by
 unfold GY;exact G8 (ZO _ _) AJ
def D9 {cs:List Cd}{os:List ByteArray}{ks:List Ko}{gs:List Ch}{bs:List Ba}:BF cs os ks gs bs=true↔(1<=cs.length/\cs.length<=16/\os.length<=8/\ks.length<=32/\gs.length<=16/\bs.length<=24)/\(L8 cs os ks gs bs).all nameB=true/\once (L8 cs os ks gs bs)=true/\Dc cs.length (λj=>Hl j (Ag cs j))=true/\ks.all (koV os.length)=true/\once (ks.map (·.2.2.2))=true/\gs.all (Ga cs.length os.length)=true/\bs.all (λb=>inB b.2 0 ((gs.length:Int)-1))=true:=by
 unfold BF Ls;simp only [AU,AY]
def oT {cs:List Cd}{os:List ByteArray}{ks:List Ko}{gs:List Ch}{bs:List Ba}(h:BF cs os ks gs bs=true) {c:Int}(h0:0<=c) (h1:c<cs.length):Hl c (Ag cs c)=true:=by
 have:=EB.1 (D9.1 h).2.2.2.1 c.toNat A0
 rwa [BQ h0] at this
def Pr {cs:List Cd}{os:List ByteArray}{ks:List Ko}{gs:List Ch}{bs:List Ba}(h:BF cs os ks gs bs=true) {c:Int}(h0:0<=c) (h1:c<gs.length):Ga cs.length os.length (AH gs c)=true:=by
 have:=BL.1 (D9.1 h).2.2.2.2.2.2.1 gs[c.toNat] (FK _)
 rwa [aze A0]
def oS {cs:List Cd}{os:List ByteArray}{ks:List Ko}{gs:List Ch}{bs:List Ba}(h:BF cs os ks gs bs=true):Fe cs=true:=
 EB.2 λj hj=>by
  have:=oT h (c:=j) A0 hj
  unfold Hl at this;rw [AU] at this
  have h1:=this.1
  rw [AY];split at h1
  ·rename_i h0;simp at h1;omega
  ·have:=CU.1 h1;omega
def oU {cs:List Cd}{os:List ByteArray}{ks:List Ko}{gs:List Ch}{bs:List Ba}(h:BF cs os ks gs bs=true):atB cs gs=true:=
 EB.2 λj hj=>by
  have:=Pr h (c:=j) A0 hj
  unfold Ga at this;rw [AU] at this
  have:=CU.1 this.1
  rw [AY];omega
def wC (cs:List Cd) (os:List ByteArray) (ks:List Ko) (gs:List Ch) (bs:List Ba) (o:Int):Int:=if BF cs os ks gs bs=true/\0<=o/\o<cs.length then 0 else 1
def Ph (cs:List Cd) (os:List ByteArray) (ks:List Ko) (gs:List Ch) (bs:List Ba) (o:Int):List Int:=if BF cs os ks gs bs=true/\0<=o/\o<cs.length then GY cs gs o gs.length else []
def aJ (ga ro:Int):Nat->Int
 |0=>0
 |k+1=>if ga*(k+1)*(k+1)<=ro then (k:Int)+1 else aJ ga ro k
def aii {ga m:Int}(h0:0<=ga) (h1:ga<=1000) (m0:0<=m) (m1:m<=1000):(0<=ga*m/\ga*m<=1000000)/\0<=ga*m*m/\ga*m*m<=1000000000:=by
 have a1:ga*m<=1000*m:=S5 h1 m0
 have a2:=I4 h0 m0
 have a3:ga*m*m<=1000000*m:=S5 A0 m0
 exact ⟨⟨a2,A0⟩,I4 a2 m0,A0⟩
def anu {ga a b:Int}(h0:0<=ga) (a0:0<=a) (h:a<=b):ga*a*a<=ga*b*b:=by
 have h1:ga*a<=ga*b:=PT h h0
 exact PW (S5 h1 a0) (PT h (I4 h0 A0))
def aFm {ga ro r:Int}:∀ {k:Nat},0<=r->r<=k->(r=0\/ga*r*r<=ro)->(∀a:Int,r<a->a<=k->¬ga*a*a<=ro)->aJ ga ro k=r
 |0,h0,h1,_,_=>by simp only [aJ];omega
 | k+1,h0,h1,h2,h3=>by
  simp only [aJ]
  by_cases hr:r=(k:Int)+1
  ·subst hr
   rw [AE (h2.elim (λh=>A0) (λh=>h))]
  ·rw [AD (h3 ((k:Int)+1) A0 A0)]
   exact aFm h0 A0 h2 (λa ha hk=>h3 a ha A0)
def prm (ga ro:Int):Int:=aJ ga ro 1000
def pmE (c:Cbl):Int:=if Hx c=true then 0 else 1
def Mo (c:Cbl):Int:=if Hx c=true then (if cbZ c=true then 1000 else prm c.2.2.1 ((if c.2.2.2.2<c.2.2.2.1 then c.2.2.2.2 else c.2.2.2.1)*(c.2.1-c.1))) else 0
def ah8 {c:Cbl}(h:Hx c=true) (hz:cbZ c=false):(0<=c.1/\c.1<c.2.1/\c.2.1<=200000)/\(0<=c.2.2.1/\c.2.2.1<=1000)/\(0<=c.2.2.2.1/\c.2.2.2.1<=1000)/\1<=c.2.2.2.2/\c.2.2.2.2<=1000000:=by
 unfold Hx at h;rw [hz,Ct] at h;simp only [AU,AY,CU] at h;omega
def IK (f:Int) (l:List Int):Int:=l.foldl (λa n=>if n<a then n else a) f
def EL (c:Cd):Int:=if c.2.2.2.2.1.1=0 then IK c.2.2.1 [c.2.2.2.1,Mo c.2.2.2.2.2] else IK c.2.2.1 [c.2.2.2.1,Mo c.2.2.2.2.2,c.2.2.2.2.1.1]
def aq4 {c:Cbl}:(pmE c !=0)=!Hx c:=by
 unfold pmE;cases Hx c<;>rfl
abbrev Ec:Ty:=.pair A7 (.sl A7)
abbrev Rw:=Int×List Int
def CX (l:List Rw) (n:Int):Rw:=l.getD n.toNat (0,[])
def nW {l:List Rw}{n:Int}(h:n.toNat<l.length):CX l n=l[n.toNat]:=MO h
def amx {l:List Rw}{i:Int}(h0:0<=i) (h:i<l.length):l.drop i.toNat=CX l i::l.drop (i+1).toNat/\l.take (i+1).toNat=l.take i.toNat++[CX l i]:=Q5 h0 h
def Io {l:List Int}{n:Int}(h:n.toNat<l.length):gi l n=l[n.toNat]:=MO h
def usA (ph p:Int):Bool:=Bn .i64 ph (A9 ((1:Int)*2^(min p.toNat 64))) !=0
def Dz (gs:List Ch) (p:Int) (l:List Int):List Int:=l.filter (λk=>usA (AH gs k).2.2.1 p)
def XM (gs:List Ch) (p:Int) (l:List Int):Prop:=0<=p/\l.length<=1000/\∀k∈l,0<=k/\k<(gs.length:Int)
def at6 {gs:List Ch}{p:Int}{l:List Int}:(Dz gs p l).length<=l.length:=ZO _ _
def aEC {cs:List Cd}{gs:List Ch}{o:Int}{k:Nat}{x:Int}(h:x∈GY cs gs o k):0<=x/\x<(k:Int):=by
 unfold GY at h
 have:=(HJ.1 h).1
 obtain ⟨j,h1,rfl⟩:=Eg.1 this
 have:=I3.1 h1
 omega
def rowP (cs:List Cd) (gs:List Ch) (c p:Int):List Rw:=if (Dz gs p (GY cs gs c gs.length)).length>0 then [(EL (Ag cs c),Dz gs p (GY cs gs c gs.length))] else []
def lC (cs:List Cd) (gs:List Ch) (c:Int):List Rw:=rowP cs gs c 0++rowP cs gs c 1++rowP cs gs c 2
def DJ (cs:List Cd) (gs:List Ch):Nat->List Rw
 |0=>[]
 |k+1=>DJ cs gs k++lC cs gs k
def oZ {cs:List Cd}{gs:List Ch}{c p:Int}:(rowP cs gs c p).length<=1:=by
 unfold rowP;split<;>simp
def agU {cs:List Cd}{gs:List Ch}{c:Int}:(lC cs gs c).length<=3:=by
 unfold lC
 have h0:=oZ (cs:=cs) (gs:=gs) (c:=c) (p:=0)
 have h1:=oZ (cs:=cs) (gs:=gs) (c:=c) (p:=1)
 have h2:=oZ (cs:=cs) (gs:=gs) (c:=c) (p:=2)
 simp only [B0];omega
def nB {cs:List Cd}{gs:List Ch}:∀ {k:Nat},(DJ cs gs k).length<=3*k
 |0=>by simp [DJ]
 |k+1=>by
  have:=nB (cs:=cs) (gs:=gs) (k:=k)
  have h2:=agU (cs:=cs) (gs:=gs) (c:=k)
  simp only [DJ,B0];omega
def O0 (cs:List Cd) (os:List ByteArray) (ks:List Ko) (gs:List Ch) (bs:List Ba):Int:=if BF cs os ks gs bs=true then 0 else 1
def JQ (cs:List Cd) (os:List ByteArray) (ks:List Ko) (gs:List Ch) (bs:List Ba):List Rw:=if BF cs os ks gs bs=true then DJ cs gs cs.length else []
def Hd (a:Int):Bool:=decide (a>=0)&&decide (a<=80)
def Py {a:Int}:Hd a=true↔0<=a/\a<=80:=by simp [Hd]
def PL (n i:Int):Bool:=decide (0<=i)&&decide (i<n)
def nC {n i:Int}:PL n i=true↔0<=i/\i<n:=by simp [PL]
def GO (l:List Int) (n:Int):Bool:=decide ((l.length:Int)=n)&&(l.all (PL n)&&once l)
def smA (alive l:List Int):Int:=(l.map (λm=>gi alive m)).sum
def LM (i:Int) (o:List (List Int)) (l:List Int):List (List Int):=l.foldl (λo m=>o.modify m.toNat (·++[i])) o
def H3 (o:List (List Int)) (i:Int):List Rw->List (List Int)
 | []=>o
 |r::rs=>H3 (LM i o r.2) (i+1) rs
def H0 (alive sm:List Int) (i:Int):List Rw->List Int
 | []=>sm
 |r::rs=>H0 alive (sm.set i.toNat (sm.getD i.toNat 0+smA alive r.2)) (i+1) rs
def aDX {alive l:List Int}{m:Int}:smA alive (m::l)=gi alive m+smA alive l:=by simp [smA]
def mh {i m:Int}{o:List (List Int)}{l:List Int}:LM i o (m::l)=LM i (o.modify m.toNat (·++[i])) l:=rfl
def aBG {i:Int}:∀ {l:List Int}{o:List (List Int)},(LM i o l).length=o.length
 | [],o=>rfl
 |m::l,o=>by rw [mh,aBG,jb]
def aFl {i:Int}:∀ {l:List Int}{o:List (List Int)}{b:Int},(∀x∈o,(x.length:Int)<=b)->∀x∈LM i o l,(x.length:Int)<=b+l.length
 | [],o,b,h,x,hx=>by have:=h x hx;simp only [Bh];omega
 | m::l,o,b,h,x,hx=>by
  rw [mh] at hx
  have:=aFl (b:=b+1) (λy hy=>by
   obtain ⟨k,hk,rfl⟩:=IS.1 hy;rw [jb] at hk
   have:=h o[k] (FK _)
   rw [List.getElem_modify];split
   ·grind
   ·omega) x hx
  simp only [BX];omega
def agW {l:List Int}{i:Nat}(h:i<l.length):l.set i (l.getD i 0+0)=l:=by
 simp_all
def aeX {l:List Int}{i:Nat}{a b:Int}(h:i<l.length):letI c:=l.set i (l.getD i 0+a);c.set i (c.getD i 0+b)=l.set i (l.getD i 0+(a+b)):=by
 have e:(l.set i (l.getD i 0+a)).getD i 0=l.getD i 0+a:=AA
 rw [e,List.set_set]
 congr 1
 omega
def mx (a b:Int):Int:=if a<b then b else a
def Cv (gs:List Ch) (i k:Int):Int:=Dt (AH gs i).2.2.2.1 (AH gs i).2.2.2.2.2.1 k
def FE (gs:List Ch) (i a:Int):Int:=HD (AH gs i).2.2.2.1 (AH gs i).2.2.2.2.1 (AH gs i).2.2.2.2.2.1 a
def Fj (gs:List Ch) (alive:List Int) (i k:Int):Int:=mx (gi alive i) (Cv gs i k)-mx (gi alive i) (Cv gs i (k-1))
def KQ (rows:List Rw) (sm:List Int) (mo r:Int):Bool:=decide (sm.getD r.toNat 0+mo<=(CX rows r).1)
def KW (sm:List Int) (mo:Int) (l:List Int):List Int:=l.foldl (λsm r=>sm.set r.toNat (sm.getD r.toNat 0+mo)) sm
abbrev Tr:=List Int×List Int×Bool
def Fb (O:List (List Int)) (rows:List Rw) (gs:List Ch) (alive most:List Int) (level:Int) (t:Tr) (i:Int):Tr:=
 if t.2.1.getD i.toNat 0=level-1/\level<=FE gs i (gi most i) then
  (if ((O.getD i.toNat []).all (KQ rows t.1 (Fj gs alive i level)))=true then (KW t.1 (Fj gs alive i level) (O.getD i.toNat []),t.2.1.set i.toNat level,true) else t)
 else t
def swp (O:List (List Int)) (rows:List Rw) (gs:List Ch) (alive most:List Int) (level:Int) (t:Tr) (l:List Int):Tr:=l.foldl (Fb O rows gs alive most level) t
def shl (O:List (List Int)) (rows:List Rw) (gs:List Ch) (alive most order:List Int):Nat->Int->List Int->List Int->List Int
 |0,_,_,lv=>lv
 |f+1,level,sm,lv=>if (swp O rows gs alive most level (sm,lv,false) order).2.2=true then shl O rows gs alive most order f (level+1) (swp O rows gs alive most level (sm,lv,false) order).1 (swp O rows gs alive most level (sm,lv,false) order).2.1 else (swp O rows gs alive most level (sm,lv,false) order).2.1
def aC9 {sm l:List Int}{mo r:Int}:KW sm mo (r::l)=KW (sm.set r.toNat (sm.getD r.toNat 0+mo)) mo l:=rfl
def mO {mo:Int}:∀ {l sm:List Int},(KW sm mo l).length=sm.length
 | [],_=>rfl
 |r::l,sm=>by rw [aC9,mO,Br]
def Ss {sm:List Int}{i k:Nat}{v:Int}:(sm.set i v).getD k 0=if i=k/\k<sm.length then v else sm.getD k 0:=by
 by_cases h:i=k
 ·subst h
  by_cases h2:i<sm.length
  ·simp [h2]
  ·grind
 ·simp [h]
def aCn {mo:Int}:∀ {l sm:List Int}{k:Nat},(∀r∈l,r.toNat≠k)->(KW sm mo l).getD k 0=sm.getD k 0
 | [],_,_,_=>rfl
 |r::l,sm,k,h=>by
  rw [aC9,aCn (λx hx=>h x AA),Ss,AD (λe=>h r AJ e.1)]
def pO {mo:Int}:∀ {l sm:List Int}{k:Nat},l.Nodup->(∀r∈l,0<=r)->k<sm.length->(KW sm mo l).getD k 0=sm.getD k 0+(if (k:Int)∈l then mo else 0)
 | [],sm,k,_,_,_=>by simp [KW]
 | r::l,sm,k,hn,h0,hk=>by
  rw [aC9];obtain ⟨n1,n2⟩:=Ly.1 hn
  have hr:=h0 r AJ
  by_cases e:r.toNat=k
  ·rw [aCn (λx hx e2=>n1 (by
    have:=h0 x AA
    have:r=x:=A0
    rw [this];exact hx)),Ss,AE ⟨e,hk⟩,AE AA,e]
  ·rw [pO n2 (λx hx=>h0 x AA) AA,Ss,AD (λc=>e c.1)]
   have:¬(k:Int)=r:=A0
   simp [this]
def tH {mi ma st a:Int}:HD mi ma st a<=80:=by
 have:=aQ5 (mi:=mi) (ma:=ma) (st:=st)
 unfold HD;split
 ·omega
 ·split
  ·omega
  ·omega
structure OkT (O:List (List Int)) (rows:List Rw) (gs:List Ch) (alive most order:List Int):Prop where
 ol:O.length=16
 ord:∀i∈order,(0<=i/\i<16)/\i<(gs.length:Int)/\i<(alive.length:Int)/\i<(most.length:Int)
 al:∀a∈alive,0<=a/\a<=80
 mo:∀a∈most,0<=a/\a<=80
 has:∀i∈order,DX (AH gs i).2.2.2.1 (AH gs i).2.2.2.2.1 (AH gs i).2.2.2.2.2.1=true
 row:∀o∈O,o.Nodup/\(o.length:Int)<=1000/\∀r∈o,0<=r/\r<(rows.length:Int)
 cap:∀r∈rows,r.1<=1000
structure OkS (rows:List Rw) (order sm lv:List Int):Prop where
 len:sm.length=rows.length
 bd:∀k:Nat,0<=sm.getD k 0/\sm.getD k 0<=2000
 EE:∀i∈order,i<(lv.length:Int)
 lvb:∀k:Nat,0<=lv.getD k 0/\lv.getD k 0<=80
def ahN {mi st k:Int}(h:1<=mi/\mi<=80/\1<=st/\st<=80) (h0:0<=k) (h1:k<=81):0<=Dt mi st k/\Dt mi st k<=6480:=by
 unfold Dt;split
 ·omega
 ·have a1:0<=(k-1)*st:=I4 A0 A0
  have a2:(k-1)*st<=(k-1)*80:=PT A0 A0
  omega
def aEG {mi st j k:Int}(h:1<=mi/\1<=st) (h0:0<=j) (h1:j<=k):Dt mi st j<=Dt mi st k:=by
 unfold Dt;split
 ·split
  ·omega
  ·have a1:0<=(k-1)*st:=I4 A0 A0
   omega
 ·rw [AD A0]
  have:(j-1)*st<=(k-1)*st:=S5 A0 A0
  omega
def aQ3 {gs:List Ch}{alive:List Int}{i k:Int}(hh:DX (AH gs i).2.2.2.1 (AH gs i).2.2.2.2.1 (AH gs i).2.2.2.2.2.1=true) (ha:0<=gi alive i/\gi alive i<=80) (h0:1<=k) (h1:k<=81):0<=Fj gs alive i k/\Fj gs alive i k<=10000:=by
 obtain ⟨g1,g2,g3,g4,g5⟩:=I6.1 hh
 have b1:=ahN (mi:=(AH gs i).2.2.2.1) (st:=(AH gs i).2.2.2.2.2.1) (k:=k) ⟨g1,A0,g4,g5⟩ A0 h1
 have b3:=aEG (mi:=(AH gs i).2.2.2.1) (st:=(AH gs i).2.2.2.2.2.1) (j:=k-1) (k:=k) ⟨g1,g4⟩ A0 A0
 unfold Fj mx Cv;omega
def L6 {l:List Int}{i:Int}(h0:0<=i) (h:i<(l.length:Int)):gi l i∈l:=by
 rw [Io A0];exact FK _
def aJE {O:List (List Int)}{rows:List Rw}{gs:List Ch}{alive most order:List Int}{level:Int}{t:Tr}{i:Int}(hT:OkT O rows gs alive most order) (hS:OkS rows order t.1 t.2.1) (hi:i∈order) (h0:1<=level) (h1:level<=81):letI b:=Fb O rows gs alive most level t i;OkS rows order b.1 b.2.1:=by
 unfold Fb;split
 ·split
  ·rename_i hc hf
   obtain ⟨⟨o0,o1⟩,o2,o3,o4⟩:=hT.ord i hi
   have hl80:=tH (mi:=(AH gs i).2.2.2.1) (ma:=(AH gs i).2.2.2.2.1) (st:=(AH gs i).2.2.2.2.2.1) (a:=gi most i)
   have hl81:=hc.2
   unfold FE at hl81
   have hm:=aQ3 (gs:=gs) (alive:=alive) (k:=level) (hT.has i hi) (hT.al _ (L6 o0 o3)) h0 h1
   have ho:O.getD i.toNat []∈O:=by
    have hl:=hT.ol
    grind
   obtain ⟨r1,r2,r3⟩:=hT.row _ ho
   refine ⟨by simp only;rw [mO];exact hS.len,λk=>?_,λj hj=>by simp only [Br];exact hS.EE j hj,λk=>by
    have:=hS.lvb k
    rw [Ss];split<;>omega⟩
   by_cases hk:k<t.1.length
   ·rw [pO r1 (λr hr=>(r3 r hr).1) hk]
    have hb:=hS.bd k
    split
    ·rename_i hkm
     have hfit:=BL.1 hf _ hkm
     unfold KQ at hfit;rw [AY,Bs] at hfit
     have hk2:=hS.len
     have:=hT.cap (CX rows (k:Int)) xi
     omega
    ·omega
   ·rw [Cx,ZM (by rw [mO];omega)]
    simp
  ·exact hS
 ·exact hS
def ql {O:List (List Int)}{rows:List Rw}{gs:List Ch}{alive most order:List Int}{level:Int}(hT:OkT O rows gs alive most order) (h0:1<=level) (h1:level<=81):∀(l:List Int) (t:Tr),(∀i∈l,i∈order)->OkS rows order t.1 t.2.1->OkS rows order (swp O rows gs alive most level t l).1 (swp O rows gs alive most level t l).2.1
 | [],t,_,h=>h
 |i::l,t,hl,h=>ql hT h0 h1 l _ (λj hj=>hl j AA) (aJE hT h (hl i AJ) h0 h1)
def nJ {O:List (List Int)}{rows:List Rw}{gs:List Ch}{alive most:List Int}{level:Int}:∀(l:List Int) (t:Tr),(swp O rows gs alive most level t l).2.2=true->t.2.2=true\/level<=80
 | [],t,h=> .inl h
 | i::l,t,h=>by
  rcases nJ l _ h with h2|h2
  ·unfold Fb at h2
   split at h2
   ·rename_i hc
    have:=tH (mi:=(AH gs i).2.2.2.1) (ma:=(AH gs i).2.2.2.2.1) (st:=(AH gs i).2.2.2.2.2.1) (a:=gi most i)
    have h3:=hc.2
    unfold FE at h3;omega
   ·grind
  ·grind
def aer {O:List (List Int)}{rows:List Rw}{gs:List Ch}{alive most:List Int}{level:Int}{t:Tr}{i:Int}:(Fb O rows gs alive most level t i).2.1.length=t.2.1.length:=by
 unfold Fb;split
 ·split
  ·grind
  ·rfl
 ·rfl
def aCR {O:List (List Int)}{rows:List Rw}{gs:List Ch}{alive most:List Int}{level:Int}:∀(l:List Int) (t:Tr),(swp O rows gs alive most level t l).2.1.length=t.2.1.length
 | [],t=>rfl
 |i::l,t=>(aCR l _).trans aer
def aJ3 {O:List (List Int)}{rows:List Rw}{gs:List Ch}{alive most order:List Int}(hT:OkT O rows gs alive most order):∀(f:Nat) (level:Int) (sm lv:List Int),1<=level->level<=81->OkS rows order sm lv->(shl O rows gs alive most order f level sm lv).length=lv.length/\∀k:Nat,0<=(shl O rows gs alive most order f level sm lv).getD k 0/\(shl O rows gs alive most order f level sm lv).getD k 0<=80
 |0,_,_,lv,_,_,h=>⟨rfl,h.lvb⟩
 | f+1,level,sm,lv,h0,h1,h=>by
  have hk:=ql hT h0 h1 order (sm,lv,false) (λ_ h=>h) h
  have hl:=aCR (O:=O) (rows:=rows) (gs:=gs) (alive:=alive) (most:=most) (level:=level) order (sm,lv,false)
  have hs:=nJ (O:=O) (rows:=rows) (gs:=gs) (alive:=alive) (most:=most) (level:=level) order (sm,lv,false)
  rw [shl];split
  ·rename_i hc
   have h80:level<=80:=by
    rcases hs hc with h|h
    ·cases h
    ·exact h
   obtain ⟨g1,g2⟩:=aJ3 hT f (level+1) _ _ A0 A0 hk
   grind
  ·exact ⟨hl,hk.lvb⟩
def Jm (i:Int):List Rw->Int->List Int
 | [],_=>[]
 |r::rs,j=>(if r.2.contains j then [i] else [])++Jm (i+1) rs j
def aej {o:List (List Int)}{f:List Int->List Int}{j k:Nat}(h:k<o.length):(o.modify j f).getD k []=if j=k then f (o.getD k []) else o.getD k []:=by
 grind
def aDz {i:Int}:∀ {l:List Int}{o:List (List Int)}{k:Nat},l.Nodup->(∀m∈l,0<=m)->k<o.length->(LM i o l).getD k []=o.getD k []++(if l.contains (k:Int) then [i] else [])
 | [],o,k,_,_,_=>by simp [LM]
 | m::l,o,k,hn,h0,hk=>by
  obtain ⟨n1,n2⟩:=Ly.1 hn
  have hm:=h0 m AJ
  rw [mh,aDz n2 (λx hx=>h0 x AA) AA,aej hk]
  by_cases e:m.toNat=k
  ·have e2:(k:Int)=m:=A0
   grind
  ·rw [AD e]
   have:¬(k:Int)=m:=A0
   simp [this]
def ye (r:Rw):Prop:=r.2.Nodup/\∀m∈r.2,0<=m
def aCQ:∀ {rs:List Rw}{o:List (List Int)}{i:Int},(H3 o i rs).length=o.length
 | [],_,_=>rfl
 |r::rs,o,i=>by rw [H3,aCQ,aBG]
def aFX:∀ {rs:List Rw}{o:List (List Int)}{i:Int}{k:Nat},(∀r∈rs,ye r)->k<o.length->(H3 o i rs).getD k []=o.getD k []++Jm i rs k
 | [],o,i,k,_,_=>by simp [H3,Jm]
 |r::rs,o,i,k,h,hk=>by
  obtain ⟨h1,h2⟩:=h r AJ;rw [H3,aFX (λx hx=>h x AA) (by rw [aBG];exact hk),aDz h1 h2 hk,Jm,CZ]
def T0:∀ {rs:List Rw}{i j x:Int},x∈Jm i rs j↔i<=x/\x<i+rs.length/\(CX rs (x-i)).2.contains j=true
 | [],i,j,x=>by simp [Jm];omega
 | r ::rs,i,j,x=>by
  rw [Jm,Bp,T0]
  by_cases e:x=i
  ·subst e
   have g0:CX (r::rs) (x-x)=r:=by simp [CX]
   rw [g0]
   constructor
   ·rintro (h|h)
    ·split at h
     ·rename_i hc
      grind
     ·cases h
    ·omega
   ·rintro ⟨_,_,h⟩
    rw [AE h]
    simp
  ·have hn:¬x∈(if r.2.contains j then [i] else []):=by
    split
    ·grind
    ·simp
   simp only [BX]
   constructor
   ·rintro (h|⟨h1,h2,h3⟩)
    ·grind
    ·refine ⟨A0,A0,?_⟩
     exact aKk
   ·rintro ⟨h1,h2,h3⟩
    refine .inr ⟨A0,A0,?_⟩;exact aKk
def mj:∀ {rs:List Rw}{i j:Int},(Jm i rs j).Nodup
 | [],_,_=>List.nodup_nil
 | r::rs,i,j=>by
  rw [Jm];split
  ·rw [wI,Ly]
   refine ⟨λh=>?_,mj⟩
   have:=(T0.1 h).1
   omega
  ·rw [Di];exact mj
def aFZ:∀ {rs:List Rw}{i j:Int},(Jm i rs j).length<=rs.length
 | [],_,_=>At _
 |r::rs,i,j=>by
  have:=aFZ (rs:=rs) (i:=i+1) (j:=j)
  rw [Jm]
  grind
def aCP {alive:List Int}:∀ {rs:List Rw}{sm:List Int}{i:Int},(H0 alive sm i rs).length=sm.length
 | [],_,_=>rfl
 |r::rs,sm,i=>by rw [H0,aCP,Br]
def aFW {alive:List Int}:∀ {rs:List Rw}{sm:List Int}{i:Int}{k:Nat},0<=i->k<sm.length->(H0 alive sm i rs).getD k 0=sm.getD k 0+(if i<=(k:Int)/\(k:Int)<i+rs.length then smA alive (CX rs ((k:Int)-i)).2 else 0)
 | [],sm,i,k,_,_=>by
  rw [AD AJ]
  simp [H0]
 | r ::rs,sm,i,k,hi,hk=>by
  rw [H0,aFW A0 AA,Ss]
  by_cases e:i.toNat=k
  ·have e2:(k:Int)=i:=A0
   rw [AE ⟨e,hk⟩,AD A0,AE AA,e,e2]
   have:CX (r::rs) (i-i)=r:=by simp [CX]
   rw [this];omega
  ·rw [AD (λc=>e c.1)]
   by_cases c:i+1<=(k:Int)/\(k:Int)<i+1+rs.length
   ·rw [AE c,AE AA]
    have:CX (r::rs) ((k:Int)-i)=CX rs ((k:Int)-(i+1)):=by
     unfold CX;rw [show ((k:Int)-i).toNat=((k:Int)-(i+1)).toNat+1 by omega]
     simp
    rw [this]
   ·grind
def aJJ {alive:List Int}(ha:∀a∈alive,0<=a/\a<=80):∀ {l:List Int},(∀m∈l,0<=m/\m<(alive.length:Int))->0<=smA alive l/\smA alive l<=80*l.length
 | [],_=>by simp [smA]
 |m::l,h=>by
  have h1:=aJJ ha (l:=l) (λx hx=>h x AA)
  have hm:=h m AJ
  have:=ha (gi alive m) (L6 hm.1 hm.2)
  rw [aDX];simp only [BX];omega
def adi {α:Type}{l:List α}(p:α->Bool) (h:l.Nodup):(l.filter p).Nodup:=List.Pairwise.filter p h
def afX {cs:List Cd}{gs:List Ch}{o:Int}{k:Nat}:(GY cs gs o k).Nodup:=by
 refine adi _ ?_;exact wU _ (λa b h=>A0) jT
def at1 {gs:List Ch}{p k:Int}{l:List Int}:k∈Dz gs p l↔k∈l/\usA (AH gs k).2.2.1 p=true:=by simp [Dz,HJ]
def ae8 {cs:List Cd}{gs:List Ch}{c p:Int}{r:Rw}(h:r∈rowP cs gs c p):r=(EL (Ag cs c),Dz gs p (GY cs gs c gs.length))/\(Dz gs p (GY cs gs c gs.length)).length>0:=by
 unfold rowP at h;exact jx
def oa {cs:List Cd}{gs:List Ch}{r:Rw}:∀ {k:Nat},r∈DJ cs gs k->∃c p:Int,(0<=c/\c<(k:Int))/\(p=0\/p=1\/p=2)/\r=(EL (Ag cs c),Dz gs p (GY cs gs c gs.length))/\r.2.length>0
 |0,h=>Ah
 | k+1,h=>by
  rw [DJ,Bp] at h;rcases h with h|h
  ·obtain ⟨c,p,h1,h2,h3⟩:=oa h
   grind
  ·unfold lC at h
   rw [Bp,Bp] at h;rcases h with (h|h) |h
   ·exact xY
   ·exact xY
   ·exact xY
def row_mem {cs:List Cd}{gs:List Ch}{r:Rw}{k:Nat}(h:r∈DJ cs gs k):r.2.Nodup/\(∀m∈r.2,0<=m/\m<(gs.length:Int))/\r.2.length<=gs.length/\r.2.length>0:=by
 obtain ⟨c,p,h1,h2,h3,h4⟩:=oa h;subst h3;refine ⟨adi _ afX,λm hm=>aEC (at1.1 hm).1,G8 at6 pK,h4⟩
def FA (gs:List Ch) (lv:List Int):List Int:=(List.range gs.length).map (λk:Nat=>Cv gs (k:Int) (lv.getD k 0))
def OL (rows:List Rw):List (List Int):=H3 (List.replicate 16 []) 0 rows
def SM (alive:List Int) (rows:List Rw):List Int:=H0 alive (List.replicate rows.length 0) 0 rows
def G1 (cs:List Cd) (os:List ByteArray) (ks:List Ko) (gs:List Ch) (bs:List Ba) (al mo od:List Int):Bool:=BF cs os ks gs bs&&(decide (al.length=gs.length)&&(decide (mo.length=gs.length)&&(al.all Hd&&(mo.all Hd&&GO od gs.length))))
def shV (rows:List Rw) (gs:List Ch) (al mo od:List Int):List Int:=shl (OL rows) rows gs al mo od 81 1 (SM al rows) (List.replicate al.length 0)
def Mp (cs:List Cd) (os:List ByteArray) (ks:List Ko) (gs:List Ch) (bs:List Ba) (al mo od:List Int):Int:=if G1 cs os ks gs bs al mo od=true then 0 else 1
def Fa (cs:List Cd) (os:List ByteArray) (ks:List Ko) (gs:List Ch) (bs:List Ba) (al mo od:List Int):List Int:=if G1 cs os ks gs bs al mo od=true then FA gs (shV (DJ cs gs cs.length) gs al mo od) else []
def Ky {cs:List Cd}{os:List ByteArray}{ks:List Ko}{gs:List Ch}{bs:List Ba}{al mo od:List Int}:G1 cs os ks gs bs al mo od=true↔BF cs os ks gs bs=true/\al.length=gs.length/\mo.length=gs.length/\al.all Hd=true/\mo.all Hd=true/\GO od gs.length=true:=by
 simp [G1]
def aQ7:∀ {l:List Int}{f:Int},IK f l<=f
 | [],f=>Gl _
 |n::l,f=>by
  have:IK f (n::l)=IK (if n<f then n else f) l:=rfl
  have:=aQ7 (l:=l) (f:=if n<f then n else f)
  split at this<;>rename_i h
  ·grind
  ·grind
def aqK {c:Cd}:EL c<=c.2.2.1:=by
 unfold EL;split<;>exact aQ7
def aDL {rows:List Rw}:(OL rows).length=16:=by rw [OL,aCQ,CR]
def ti {rows:List Rw}(h:∀r∈rows,ye r) {k:Nat}(hk:k<16):(OL rows).getD k []=Jm 0 rows k:=by
 rw [OL,aFX h AA]
 have:(List.replicate 16 ([]:List Int)).getD k []=[]:=by
  grind
 grind
def apy {cs:List Cd}{gs:List Ch}{k:Nat}:∀r∈DJ cs gs k,ye r:=λr hr=>⟨(row_mem hr).1,λm hm=>((row_mem hr).2.1 m hm).1⟩
def aCA {al:List Int}{rows:List Rw}:(SM al rows).length=rows.length:=by rw [SM,aCP,CR]
def aRu {al:List Int}{rows:List Rw}{k:Nat}(hk:k<rows.length):(SM al rows).getD k 0=smA al (CX rows k).2:=by
 rw [SM,aFW (Gl _) AA,AE A0,O6]
 grind
def aBa {od:List Int}{n i:Int}(h:GO od n=true) (hi:i∈od):0<=i/\i<n:=by
 unfold GO at h;simp only [AU,BL] at h;exact nC.1 (h.2.1 i hi)
def ajs {cs:List Cd}{os:List ByteArray}{ks:List Ko}{gs:List Ch}{bs:List Ba}{al mo od:List Int}(h:G1 cs os ks gs bs al mo od=true):letI b:=DJ cs gs cs.length;OkT (OL b) b gs al mo od/\OkS b od (SM al b) (List.replicate al.length 0):=by
 obtain ⟨hv,h1,h2,h3,h4,h5⟩:=Ky.1 h
 have hl:=(D9.1 hv).1
 have ha:∀a∈al,0<=a/\a<=80:=λa ha=>Py.1 (BL.1 h3 a ha)
 refine ⟨⟨aDL,λi hi=>?_,ha,λa ha=>Py.1 (BL.1 h4 a ha),λi hi=>?_,λo ho=>?_,λr hr=>?_⟩,⟨aCA,λk=>?_,λi hi=>?_,λk=>?_⟩⟩
 ·have:=aBa h5 hi
  omega
 ·have hi:=aBa h5 hi
  have:=Pr hv hi.1 hi.2
  exact aLN
 ·obtain ⟨k,hk,rfl⟩:=IS.1 ho
  rw [aDL] at hk
  have e:=ti (rows:=DJ cs gs cs.length) apy hk
  rw [Cx,DF AA,jR] at e;rw [e]
  have hln:=aFZ (rs:=DJ cs gs cs.length) (i:=0) (j:=k)
  have hrn:=nB (cs:=cs) (gs:=gs) (k:=cs.length)
  refine ⟨mj,A0,λr hr=>?_⟩
  have:=T0.1 hr
  omega
 ·obtain ⟨c,p,hc,hp,rfl,_⟩:=oa hr
  have hcv:=oT hv hc.1 hc.2
  unfold Hl at hcv;simp only [AU,CU] at hcv
  have:=aqK (c:=Ag cs c)
  simp only;omega
 ·by_cases hk:k<(DJ cs gs cs.length).length
  ·rw [aRu hk]
   have hr:CX (DJ cs gs cs.length) (k:Int)∈DJ cs gs cs.length:=by rw [nW VW];exact FK _
   obtain ⟨m1,m2,m3,_⟩:=row_mem hr
   have:=aJJ ha (l:=(CX (DJ cs gs cs.length) (k:Int)).2) (λm hm=>AA)
   omega
  ·rw [Cx,ZM (by rw [aCA];omega)]
   simp
 ·have:=aBa h5 hi
  rw [CR];omega
 ·have:(List.replicate al.length (0:Int)).getD k 0=0:=by
   simp only [List.getD,V8];split<;>rfl
  omega
def aG7 {xs:List Int}{r:Nat}{v:Int}:(xs++List.replicate (r+1) 0).set xs.length v=xs++[v]++List.replicate r 0:=by
 grind
def Rv (gs:List Ch) (lv:List Int) (n:Nat):List Int:=(List.range n).map (λk:Nat=>Cv gs (k:Int) (lv.getD k 0))
def ag8 {gs:List Ch}{lv:List Int}{n:Nat}:Rv gs lv (n+1)=Rv gs lv n++[Cv gs (n:Int) (lv.getD n 0)]:=by
 simp [Rv,OA]
def adQ {gs:List Ch}{lv:List Int}{n:Nat}:(Rv gs lv n).length=n:=by simp [Rv]
def ntW {b:Bool}(h:(!b)=true):b=false:=by cases b<;>simp_all
def nfW {b:Bool}(h:(!b)=false):b=true:=by cases b<;>simp_all
def wt (n:Int):Int:=(n*1000000+999799) / 999800
def wtA (n:Int):Int:=if inB n 0 1000000=true then wt n else 0
def wtE (n:Int):Int:=if inB n 0 1000000=true then 0 else 1
def aIr {m n:Int}:m*999800 / 1000000>=n↔wt n<=m:=by
 unfold wt;omega
def alT {a b:Int}(a0:0<=a) (a1:a<=3000000) (b0:0<=b) (b1:b<=1000000):0<=a*b/\a*b<=3000000000000:=
 ⟨I4 a0 b0,PW (PT b1 a0) A0⟩
def aaZ {n:Int}(h0:0<=n):0<=wt n/\wt n<=2*n+2:=by
 unfold wt;omega
abbrev AX:Ty:=.pair A7 (.pair A7 (.pair A7 (.pair A7 A7)))
abbrev Le:=Int×Int×Int×Int×Int
instance:Coe (List Le) LV:=⟨.xl AX⟩
def An (l:List Le) (n:Int):Le:=l.getD n.toNat (0,0,0,0,0)
def D7 (x:Le):Bool:=inB x.1 1 1000000&&(inB x.2.1 0 15&&(inB x.2.2.1 0 80&&(inB x.2.2.2.1 0 1000000&&inB x.2.2.2.2 1 1000)))
def Jd (b x:Le):Bool:=decide (x.1>b.1)&&decide (x.2.2.2.1>=b.2.2.2.1)
def GW (l:List Le) (j:Int):Bool:=D7 (An l j)&&(decide (j=0) ||Jd (An l (j-1)) (An l j))
def BG (l:List Le):Bool:=decide (l.length<=64)&&Dc l.length (GW l)
def Oh {l:List Le}{n:Int}(h:n.toNat<l.length):An l n=l[n.toNat]:=MO h
def W4 {l:List Le}{i:Int}(h0:0<=i) (h:i<l.length):l.drop i.toNat=An l i::l.drop (i+1).toNat/\l.take (i+1).toNat=l.take i.toNat++[An l i]:=Q5 h0 h
def OT {l:List Le}{i:Int}(h0:0<=i) (h:i<l.length):An l i∈l:=by
 rw [Oh A0];exact FK _
def Q1 {x:Le}:D7 x=true↔(1<=x.1/\x.1<=1000000)/\(0<=x.2.1/\x.2.1<=15)/\(0<=x.2.2.1/\x.2.2.1<=80)/\(0<=x.2.2.2.1/\x.2.2.2.1<=1000000)/\1<=x.2.2.2.2/\x.2.2.2.2<=1000:=by
 unfold D7;simp only [AU,CU]
def Ib {l:List Le}(h:BG l=true):l.length<=64/\∀x∈l,D7 x=true:=by
 unfold BG at h;rw [AU] at h;refine ⟨De h.1,λx hx=>?_⟩
 obtain ⟨k,hk,rfl⟩:=IS.1 hx
 have:=EB.1 h.2 k A0
 unfold GW at this;rw [AU,Oh VW] at this
 simpa using this.1
def PJ (x:Le):Int:=x.2.2.2.1+10+wt x.2.2.2.2
def Mg (t:Int) (x:Le):Bool:=decide (PJ x>t)
def Nw (l:List Le) (t:Int):Bool:=BG l&&inB t 0 1100000
def Bj (l:List Le) (t:Int):List Le:=if Nw l t=true then l.filter (Mg t) else []
def DN (l:List Le) (t:Int):Int:=if Nw l t=true then 0 else 1
def FB (l:List Le) (x:Le):Int:=if (BG l&&D7 x)=true then (if (decide (l.length>0)&&!Jd (An l ((l.length:Int)-1)) x)=true then 12 else if l.length=64 then 10 else 0) else 1
def JW (l:List Le) (x:Le):List Le:=if FB l x=0 then l++[x] else []
def IP (ph mn mx st fb:Int):Bool:=inB ph 1 7&&(inB mn 1 80&&(inB mx 1 80&&(inB st 1 80&&(decide (mn<=mx)&&(fb==0 ||inB fb mn mx)))))
def aIE {ph mn mx st fb:Int}:IP ph mn mx st fb=true↔1<=ph/\ph<=7/\1<=mn/\mn<=80/\1<=mx/\mx<=80/\1<=st/\st<=80/\mn<=mx/\(fb=0\/(mn<=fb/\fb<=mx)):=by
 simp [IP,inB];omega
def EE (mn mx st a:Int):Int:=if a<mn then 0 else min a mx-(min a mx-mn) %st
def adv {x s:Int}(hx:0<=x) (hs:1<=s):0<=x%s/\x%s<=x/\x%s<s:=by
 have h1:=Int.mul_ediv_add_emod x s
 have h2:0<=x / s:=SB hx A0
 have h3:0<=s*(x / s):=I4 A0 h2
 have h4:=Int.emod_nonneg x (b:=s) A0
 have h5:=Int.emod_lt_of_pos x (b:=s) A0
 omega
def afD {mn mx st a:Int}(h1:1<=mn) (h2:mn<=mx) (h3:mx<=80) (h4:1<=st):0<=EE mn mx st a/\EE mn mx st a<=80/\(a<mn->EE mn mx st a=0)/\(mn<=a->mn<=EE mn mx st a/\EE mn mx st a<=a/\EE mn mx st a<=mx):=by
 unfold EE;split
 ·omega
 ·have e1:=adv (x:=min a mx-mn) (s:=st) A0 h4
  omega
def chP (mn mx st:Int):Prop:=1<=mn/\mn<=mx/\mx<=80/\1<=st/\st<=80
def aQy {ph mn mx st fb:Int}(h:IP ph mn mx st fb=true):chP mn mx st:=by
 rw [aIE] at h;unfold chP;omega
def Hr (ph mn mx st fb a s:Int):Bool:=IP ph mn mx st fb&&(decide (0<=s)&&(decide (s<=1000000)&&(decide (0<=a)&&(EE mn mx st a==a))))
def okB (ph mn mx st fb a s want:Int):Bool:=Hr ph mn mx st fb a s&&(decide (0<=want)&&decide (want<=80))
def nE (ph mn mx st fb a s want:Int):Int:=if okB ph mn mx st fb a s want then 0 else 1
def nA (ph mn mx st fb a s want:Int):Int:=
 if okB ph mn mx st fb a s want then (if a=0 then (if EE mn mx st want≠0/\5<=s then mn else 0) else if EE mn mx st want=0 then 0 else min (EE mn mx st want) (a+st)) else 0
def nS (ph mn mx st fb a s want:Int):Int:=
 if okB ph mn mx st fb a s want then (if a=0 then (if EE mn mx st want≠0/\5<=s then 0 else min (s+1) 1000000) else if EE mn mx st want=0 then 0 else min (s+1) 1000000) else 0
def aH5 (x y:Int):(if y<x then y else x)=min x y:=A0
def ahE {mn mx st am:Int}(h:am<mn):0=EE mn mx st am:=by rw [EE,AE h]
def ahD {mn mx st am:Int}(hc:chP mn mx st) (h:mn<=am):A9 ((if mx<am then mx else am)-(A9 ((if mx<am then mx else am)-mn)).tmod st)=EE mn mx st am:=by
 unfold chP at hc;rw [aH5]
 have e1:=adv (x:=min am mx-mn) (s:=st) A0 A0
 rw [AI (x:=min am mx-mn),aK1 A0,AI,EE,AD A0]
def am5 {ph mn mx st fb a s:Int}(h:((!IP ph mn mx st fb) ||(decide (s<0) ||(decide (s>1000000) ||decide (a<0))))=true):false=Hr ph mn mx st fb a s:=by
 cases hr:Hr ph mn mx st fb a s
 ·rfl
 ·simp [Hr] at hr h
  rw [hr.1] at h
  simp at h
  omega
def aJZ {ph mn mx st fb a s:Int}(h:((!IP ph mn mx st fb) ||(decide (s<0) ||(decide (s>1000000) ||decide (a<0))))=false):chP mn mx st/\(EE mn mx st a==a)=Hr ph mn mx st fb a s:=by
 simp at h
 obtain ⟨h1,h2,h3,h4⟩:=h;exact ⟨aQy h1,by simp [Hr,h1,h2,h3,h4]⟩
def apZ {ph mn mx st fb a s want:Int}(h:okB ph mn mx st fb a s want=true):(!Hr ph mn mx st fb a s ||(decide (want<0) ||decide (want>80)))=false/\chP mn mx st/\(0<=s/\s<=1000000)/\(0<=want/\want<=80)/\0<=a/\a<=80/\1<=st/\st<=80:=by
 simp only [okB,Hr,AU,AY,Cj] at h;obtain ⟨⟨h1,h2,h3,h4,h5⟩,h6,h7⟩:=h
 have hc:=aQy h1
 have hc':=hc
 unfold chP at hc'
 have:=afD (a:=a) hc'.1 hc'.2.1 hc'.2.2.1 hc'.2.2.2.1
 refine ⟨?_,hc,⟨h2,h3⟩,⟨h6,h7⟩,h4,A0,hc'.2.2.2.1,hc'.2.2.2.2⟩
 simp [Hr,h1,h2,h3,h4,h5];omega
def apa {ph mn mx st fb a s want:Int}(h:¬okB ph mn mx st fb a s want=true):(!Hr ph mn mx st fb a s ||(decide (want<0) ||decide (want>80)))=true:=by
 cases hr:Hr ph mn mx st fb a s
 ·rfl
 ·simp [okB,hr] at h|-;omega
section
variable {lt : Int -> Int -> Bool}
def LO (lt:Int->Int->Bool):List Int->Int->List Int
 | [],x=>[x]
 |y::q,x=>if lt x y=true then y::LO lt q x else x::y::q
def ml {x:Int}:∀ {q:List Int},(LO lt q x).Perm (x::q)
 | []=>List.Perm.refl _
 |y::q=>by
  unfold LO;split
  ·exact (List.Perm.cons y ml).trans (List.Perm.swap x y q)
  ·exact List.Perm.refl _
def an2 {q:List Int}{x:Int}:(LO lt q x).length=q.length+1:=by rw [ml.length_eq];rfl
def aCa:∀ {l acc:List Int},(l.foldl (LO lt) acc).Perm (acc++l)
 | [],acc=>AJ
 |x::l,acc=>by
  rw [Jp];refine aCa.trans ?_;refine (wc l ml).trans ?_;rw [I5];exact List.perm_middle.symm
def sortB (lt:Int->Int->Bool) (l:List Int):List Int:=(l.foldl (LO lt) []).reverse
def aep {l:List Int}:(sortB lt l).Perm l:=by
 unfold sortB;exact (wV _).trans (by have:=aCa (lt:=lt) (l:=l) (acc:=[]);simpa using this)
def Kd (l:List Int) (j:Nat):List Int:=(l.set (j+1) (l.getD j 0)).set j (l.getD (j+1) 0)
def Kh (lt:Int->Int->Bool):Nat->List Int->List Int
 |0,l=>l
 |j+1,l=>if lt (l.getD (j+1) 0) (l.getD j 0)=true then Kh lt j (Kd l j) else l
def arO {p post:List Int}{x y:Int}:Kd (p++y::x::post) p.length=p++x::y::post:=by
 unfold Kd
 have e1:(p++y::x::post).getD p.length 0=y:=by simp [List.getD]
 have e2:(p++y::x::post).getD (p.length+1) 0=x:=by simp [List.getD]
 rw [e1,e2,Uy _ _ A0,Uy _ _ A0]
 simp
def qD {post:List Int}{x:Int}:∀ {q:List Int},Kh lt q.length (q.reverse++x::post)=(LO lt q x).reverse++post
 | []=>by simp [Kh,LO]
 | y::q=>by
  have hl:q.length=q.reverse.length:=AJ
  have e1:((y::q).reverse++x::post)=q.reverse++y::x::post:=AJ
  rw [e1,BX,Kh]
  have g1:(q.reverse++y::x::post).getD q.length 0=y:=aNC
  have g2:(q.reverse++y::x::post).getD (q.length+1) 0=x:=aNC
  rw [g1,g2];unfold LO;split
  ·have e2:Kd (q.reverse++y::x::post) q.length=q.reverse++x::y::post:=by
    have:=arO (p:=q.reverse) (x:=x) (y:=y) (post:=post)
    rwa [<-hl] at this
   rw [e2,qD]
   simp
  ·simp
def anA:∀ {j:Nat}{l:List Int},j<l.length->(Kh lt j l).Perm l:=λ{j l} h=>by
 have e:l=(l.take j).reverse.reverse++l[j]::l.drop (j+1):=by rw [wL,jE,ZN]
 have hj:(l.take j).reverse.length=j:=Cn
 have h2:=qD (lt:=lt) (q:=(l.take j).reverse) (x:=l[j]) (post:=l.drop (j+1))
 rw [hj,<-e] at h2;rw [h2];refine (wc _ ((wV _).trans ml)).trans ?_;rw [I5];refine (List.perm_middle.symm.trans ?_);refine (wc _ (wV _)).trans ?_;rw [jE,ZN]
def MN (lt:Int->Int->Bool) (l:List Int) (i:Nat):List Int:=((l.drop i).foldl (LO lt) (l.take i).reverse).reverse
def aew {l:List Int}{i:Nat}(h:i<l.length):MN lt (Kh lt i l) (i+1)=MN lt l i:=by
 have e:l=(l.take i).reverse.reverse++l[i]::l.drop (i+1):=by rw [wL,jE,ZN]
 have hi:(l.take i).reverse.length=i:=Cn
 have h2:=qD (lt:=lt) (q:=(l.take i).reverse) (x:=l[i]) (post:=l.drop (i+1))
 rw [hi,<-e] at h2
 have hl:((LO lt (l.take i).reverse l[i]).reverse).length=i+1:=by rw [List.length_reverse,an2,hi]
 unfold MN;rw [h2,wF A0,aK2 A0,jV A0,D3 A0,Di,wL]
 conv=>rhs;rw [<-jE h,Jp]
def afs {l:List Int}:MN lt l 1=sortB lt l:=by
 cases l with
 |nil=>rfl
 |cons x l=>simp [MN,sortB,LO]
def agA {l:List Int}{i:Nat}(h:l.length<=i):MN lt l i=l:=by
 unfold MN;rw [jV h,D3 h]
 simp
end
abbrev BO:Ty:=.pair .bool (.pair A7 (.pair A7 A7))
abbrev Dm:=Bool×Int×Int×Int
instance:Coe (List Dm) LV:=⟨.xl BO⟩
def Dq (l:List Dm) (n:Int):Dm:=l.getD n.toNat (false,0,0,0)
def slk (d:List Dm) (t i:Int):Int:=(Dq d i).2.2.1-t-(Dq d i).2.1
def cm (a b:Int):Int:=if a<b then -1 else if a>b then 1 else 0
def orI:List Int->Int
 | []=>0
 |x::l=>if (x !=0)=true then x else orI l
def cmD (d:List Dm) (t a b:Int):Int:=orI [cm (Dq d a).2.2.2 (Dq d b).2.2.2,cm (slk d t a) (slk d t b),cm a b]
def ltD (d:List Dm) (t a b:Int):Bool:=decide (cmD d t a b<0)
def IJ (d:List Dm) (t:Int):Prop:=(∀x∈d,(-2000000000<=x.2.1/\x.2.1<=2000000000)/\-2000000000<=x.2.2.1/\x.2.2.1<=2000000000)/\-2000000000<=t/\t<=2000000000
def aqe {d:List Dm}{i:Int}(h0:0<=i) (h1:i<(d.length:Int)):Dq d i∈d:=by
 unfold Dq
 have h:i.toNat<d.length:=A0
 simp [List.getD,h]
def atP {d:List Dm}{t i:Int}(h:IJ d t) (h0:0<=i) (h1:i<(d.length:Int)):(-2000000000<=(Dq d i).2.1/\(Dq d i).2.1<=2000000000)/\-2000000000<=(Dq d i).2.2.1/\(Dq d i).2.2.1<=2000000000:=h.1 _ (aqe h0 h1)
def Ek (n:Nat):List Int:=(List.range n).map (λk:Nat=>(k:Int))
def Gs (d:List Dm) (t:Int):List Int:=sortB (ltD d t) (Ek d.length)
def aDF {n:Nat}:Ek (n+1)=Ek n++[(n:Int)]:=by simp [Ek,OA]
def OP {n:Nat}:(Ek n).length=n:=by simp [Ek]
def aDb {n:Nat}{x:Int}:x∈Ek n↔0<=x/\x<(n:Int):=by
 unfold Ek;rw [Eg]
 constructor
 ·rintro ⟨k,hk,rfl⟩
  rw [I3] at hk;omega
 ·exact λh=>⟨x.toNat,by rw [I3];omega,A0⟩
def aev {n:Nat}:(Ek n).Nodup:=wU _ (λa b h=>A0) jT
def aC1 {d:List Dm}{t:Int}:(Gs d t).Perm (Ek d.length):=aep
def aE3 {d:List Dm}{t:Int}:(Gs d t).length=d.length:=by rw [aC1.length_eq,OP]
def am8 {d:List Dm}{t x:Int}:x∈Gs d t↔0<=x/\x<(d.length:Int):=aC1.mem_iff.trans aDb
def af6 {d:List Dm}{t:Int}:(Gs d t).Nodup:=aC1.nodup_iff.2 aev
def qQ {mi ma st a k:Int}(hh:DX mi ma st=true) (ha:0<=a) (h0:0<=k) (h1:k<EF mi ma st):Dt mi st k<=a↔k<=HD mi ma st a:=by
 obtain ⟨g1,g2,g3,g4,g5⟩:=I6.1 hh
 have hn:¬(DX mi ma st=false\/a<0):=AA
 unfold HD;rw [AD hn];unfold Dt
 by_cases e:k=0
 ·subst e
  simp only [Bm];exact aLL
 ·rw [AD e]
  have hp:0<=(k-1)*st:=I4 A0 A0
  split
  ·omega
  ·have:=(Int.le_ediv_iff_mul_le (a:=k-1) (b:=a-mi) (c:=st) A0)
   omega
def aQ9 {mi ma st a:Int}(hh:DX mi ma st=true):HD mi ma st a<EF mi ma st:=by
 have:=qP hh
 unfold HD;split
 ·omega
 ·omega
def afN {mi ma st a:Int}(hh:DX mi ma st=true) (ha:0<=a):0<=HD mi ma st a:=by
 have:=qP hh
 obtain ⟨g1,g2,g3,g4,g5⟩:=I6.1 hh
 have hn:¬(DX mi ma st=false\/a<0):=AA
 unfold HD;rw [AD hn];exact aLL
def af8 {l:List Int}:once l=true↔l.Nodup:=by
 rw [oy,List.nodup_iff_pairwise_ne,jH]
 constructor
 ·intro h i j hi hj hij e
  exact h j hj (by rw [<-e,IS];exact ⟨i,AA,AJ⟩)
 ·intro h j hj hm
  obtain ⟨i,hi,e⟩:=IS.1 hm
  grind
def adM:∀ {r l:List Int},r.Nodup->(∀x∈r,x∈l)->r.length=l.length->l.Nodup/\∀x∈l,x∈r
 | [],l,_,_,h=>by
  have:l=[]:=Lw.1 h.symm
  subst this
  simp
 | x::r,l,hn,hs,h=>by
  obtain ⟨n1,n2⟩:=Ly.1 hn
  have hx:=hs x AJ
  have hp:=List.perm_cons_erase hx
  obtain ⟨i1,i2⟩:=adM (l:=l.erase x) n2 (λy hy=>by
   have hy2:=hs y AA
   have hne:y≠x:=λe=>n1 (e▸hy)
   exact (List.mem_erase_of_ne hne).2 hy2) AA
  refine ⟨hp.nodup_iff.2 (Ly.2 ⟨λhm=>n1 (i2 x hm),i1⟩),λy hy=>?_⟩
  by_cases e:y=x
  ·simp [e]
  ·grind
def ZD (n:Nat):List Int:=(List.range n).map (λk:Nat=>(k:Int))
def aDc {n:Nat}{x:Int}:x∈ZD n↔0<=x/\x<(n:Int):=by
 unfold ZD;rw [Eg]
 constructor
 ·rintro ⟨k,hk,rfl⟩
  have:=I3.1 hk
  omega
 ·rintro ⟨h1,h2⟩
  exact ⟨x.toNat,I3.2 A0,A0⟩
def aeY {n:Nat}:(ZD n).length=n:=by simp [ZD]
def aCs {l:List Int}{n:Nat}:GO l n=true↔l.length=n/\l.Nodup/\∀i∈l,0<=i/\i<(n:Int):=by
 unfold GO;simp only [AU,AY,BL,nC,af8]
 constructor
 ·grind
 ·grind
def agN {l:List Int}{n:Nat}(h:GO l n=true) {i:Int}(h0:0<=i) (h1:i<(n:Int)):i∈l:=by
 obtain ⟨g1,g2,g3⟩:=aCs.1 h;exact (adM g2 (l:=ZD n) (λx hx=>aDc.2 (g3 x hx)) (by rw [aeY];exact g1)).2 i (aDc.2 ⟨h0,h1⟩)
def Km (al am ms:List Int):Int:=(ms.map (λm=>mx (gi al m) (gi am m))).sum
def rowB (al am:List Int) (r:Rw):Bool:=r.2.all (λm=>gi am m==0) ||decide (Km al am r.2<=r.1)
def fW (rows:List Rw) (al am:List Int):Bool:=rows.all (rowB al am)
def nO {al am ms:List Int}{m:Int}:Km al am (m::ms)=mx (gi al m) (gi am m)+Km al am ms:=by simp [Km]
def aJr (gs:List Ch) (i k:Int):Int:=amA (AH gs i).2.2.2.1 (AH gs i).2.2.2.2.1 (AH gs i).2.2.2.2.2.1 k
def aJq (gs:List Ch) (i k:Int):Int:=amE (AH gs i).2.2.2.1 (AH gs i).2.2.2.2.1 (AH gs i).2.2.2.2.2.1 k
structure wB (gs:List Ch) (out:List Int):Prop where
 len:out.length=gs.length
 bd:∀a∈out,0<=a/\a<=1000000
def wB.put {gs:List Ch}{out:List Int}(h:wB gs out) {k:Nat}{v:Int}(hv:0<=v/\v<=1000000):wB gs (out.set k v):=
 ⟨by rw [Br];exact h.len,λa ha=>by
  rcases SC ha with h2|h2
  ·exact h.bd a h2
  ·rw [h2];exact hv⟩
section
variable {P : List Int -> Bool} {tp : Int -> Int}
def J5 (P:List Int->Bool) (tp:Int->Int) (L:Int) (lv:List Int) (i:Int):List Int:=
 if gi lv i=L-1/\L<=tp i then (if P (lv.set i.toNat L)=true then lv.set i.toNat L else lv) else lv
def Jk (P:List Int->Bool) (tp:Int->Int) (L:Int) (lv l:List Int):List Int:=l.foldl (J5 P tp L) lv
def G6 (P:List Int->Bool) (tp:Int->Int) (od:List Int):Nat->Int->List Int->List Int
 |0,_,lv=>lv
 |f+1,L,lv=>G6 P tp od f (L+1) (Jk P tp L lv od)
def K7 {l:List Int}{i j v:Int}(h0:0<=i) (h1:i<(l.length:Int)) (hj:0<=j):gi (l.set i.toNat v) j=if j=i then v else gi l j:=by
 unfold gi;rw [Ss]
 by_cases e:j=i
 ·subst e
  omega
 ·omega
def Rf (n:Nat) (l:List Int):Prop:=∀i∈l,0<=i/\i<(n:Int)
def aDW {L i:Int}{lv:List Int}:(J5 P tp L lv i).length=lv.length:=by
 unfold J5;split
 ·split
  ·grind
  ·rfl
 ·rfl
def ayW {L i j:Int}{lv:List Int}(h:0<=i/\i<(lv.length:Int)) (hj:0<=j):gi lv j<=gi (J5 P tp L lv i) j:=by
 exact aLe
def ayX {L i j:Int}{lv:List Int}(h:0<=i/\i<(lv.length:Int)) (hj:0<=j):gi (J5 P tp L lv i) j<=gi lv j\/(gi (J5 P tp L lv i) j=L/\L<=tp j):=by
 exact aLe
def mz {L i:Int}{lv l:List Int}:Jk P tp L lv (i::l)=Jk P tp L (J5 P tp L lv i) l:=rfl
def nr {L:Int}:∀ {l lv:List Int},(Jk P tp L lv l).length=lv.length
 | [],_=>rfl
 |i::l,lv=>by rw [mz,nr (l:=l),aDW]
def aQk {L j:Int}(hj:0<=j):∀ {l lv:List Int},Rf lv.length l->gi lv j<=gi (Jk P tp L lv l) j
 | [],_,_=>Gl _
 |i::l,lv,h=>by
  rw [mz]
  have h1:=ayW (P:=P) (tp:=tp) (L:=L) (h i AJ) hj
  have h2:=aQk (L:=L) hj (l:=l) (lv:=J5 P tp L lv i) aMk
  omega
def tD {L j:Int}(hj:0<=j):∀ {l lv:List Int},Rf lv.length l->gi (Jk P tp L lv l) j<=gi lv j\/(gi (Jk P tp L lv l) j<=L/\gi (Jk P tp L lv l) j<=tp j)
 | [],_,_=> .inl (Gl _)
 |i::l,lv,h=>by
  rw [mz]
  have h1:=ayX (P:=P) (tp:=tp) (L:=L) (h i AJ) hj
  have h2:=tD (L:=L) hj (l:=l) (lv:=J5 P tp L lv i) aMk
  omega
def aHC {od:List Int}:∀ {f:Nat}{L:Int}{lv:List Int},(G6 P tp od f L lv).length=lv.length
 |0,_,_=>rfl
 |f+1,L,lv=>by rw [G6,aHC,nr]
def aQJ {od:List Int}{j:Int}(hj:0<=j):∀ {f:Nat}{L:Int}{lv:List Int},Rf lv.length od->gi lv j<=gi (G6 P tp od f L lv) j
 |0,_,_,_=>Gl _
 |f+1,L,lv,h=>by
  rw [G6]
  have h1:=aQk (P:=P) (tp:=tp) (L:=L) hj h
  have h2:=aQJ (f:=f) (L:=L+1) (lv:=Jk P tp L lv od) hj (by rw [nr];exact h)
  omega
def aQK {od:List Int}{j:Int}(hj:0<=j):∀ {f:Nat}{L:Int}{lv:List Int},Rf lv.length od->gi (G6 P tp od f L lv) j<=gi lv j\/(gi (G6 P tp od f L lv) j<=L+f-1/\gi (G6 P tp od f L lv) j<=tp j)
 |0,_,_,_=> .inl (Gl _)
 |f+1,L,lv,h=>by
  rw [G6]
  have h1:=tD (P:=P) (tp:=tp) (L:=L) hj h
  have h2:=aQK (f:=f) (L:=L+1) (lv:=Jk P tp L lv od) hj (by rw [nr];exact h)
  omega
def aDn {od:List Int}:∀ {f:Nat}{L:Int}{lv:List Int},G6 P tp od (f+1) L lv=Jk P tp (L+f) (G6 P tp od f L lv) od
 |0,L,lv=>by simp [G6]
 |f+1,L,lv=>by
  rw [G6,aDn (f:=f) (L:=L+1),G6,show L+1+(f:Int)=L+((f+1:Nat):Int) by omega]
def aBw {L:Int}:∀ {l lv:List Int},(∀i∈l,gi lv i≠L-1\/tp i<L)->Jk P tp L lv l=lv
 | [],_,_=>rfl
 | i::l,lv,h=>by
  have e:J5 P tp L lv i=lv:=by
   unfold J5
   grind
  rw [mz,e,aBw (λj hj=>h j AA)]
def aCt {od:List Int}:∀ {f:Nat}{L:Int}{lv:List Int},(∀i∈od,gi lv i<L-1)->G6 P tp od f L lv=lv
 |0,_,_,_=>rfl
 |f+1,L,lv,h=>by
  rw [G6,aBw (λi hi=> .inl AA),aCt (λi hi=>AA)]
end
structure Hh (rows:List Rw) (gs:List Ch) (al mo od:List Int):Prop where
 mem:∀r∈rows,r.2.Nodup/\∀m∈r.2,0<=m/\m<(gs.length:Int)
 has:∀i:Int,0<=i->i<(gs.length:Int)->DX (AH gs i).2.2.2.1 (AH gs i).2.2.2.2.1 (AH gs i).2.2.2.2.2.1=true
 gl:gs.length<=16
 all:al.length=gs.length
 mol:mo.length=gs.length
 al:∀a∈al,0<=a/\a<=80
 mo:∀a∈mo,0<=a/\a<=80
 nd:od.Nodup
 ord:Rf gs.length od
 cov:∀i:Int,0<=i->i<(gs.length:Int)->i∈od
def aaD {cs:List Cd}{os:List ByteArray}{ks:List Ko}{gs:List Ch}{bs:List Ba}{al mo od:List Int}(h:G1 cs os ks gs bs al mo od=true):Hh (DJ cs gs cs.length) gs al mo od:=by
 obtain ⟨hv,h1,h2,h3,h4,h5⟩:=Ky.1 h
 have hl:=(D9.1 hv).1
 obtain ⟨o1,o2,o3⟩:=aCs.1 h5;refine ⟨λr hr=>⟨(row_mem hr).1,(row_mem hr).2.1⟩,λi h0 h1=>?_,A0,h1,h2,λa ha=>Py.1 (BL.1 h3 a ha),λa ha=>Py.1 (BL.1 h4 a ha),o2,o3,λi h0 h1=>agN h5 h0 h1⟩
 have:=Pr hv h0 h1
 exact aLN
def PP (rows:List Rw) (gs:List Ch) (al lv:List Int):Bool:=fW rows al (FA gs lv)
def tpO (gs:List Ch) (mo:List Int) (i:Int):Int:=FE gs i (gi mo i)
def aEF {gs:List Ch}{lv:List Int}:(FA gs lv).length=gs.length:=by simp [FA]
def T5 {gs:List Ch}{lv:List Int}{i:Int}(h0:0<=i) (h1:i<(gs.length:Int)):gi (FA gs lv) i=Cv gs i (gi lv i):=by
 rw [Io (by rw [aEF];omega)]
 simp only [FA,wH,jc];rfl
def abx {gs:List Ch}{i:Int}:Cv gs i 0=0:=by simp [Cv,Dt]
def aEH {gs:List Ch}{i a b:Int}(hh:DX (AH gs i).2.2.2.1 (AH gs i).2.2.2.2.1 (AH gs i).2.2.2.2.2.1=true) (h0:0<=a) (h1:a<=b):Cv gs i a<=Cv gs i b:=by
 obtain ⟨g1,g2,g3,g4,g5⟩:=I6.1 hh;exact aEG ⟨g1,g4⟩ h0 h1
def aQo {gs:List Ch}{i a b:Int}(hh:DX (AH gs i).2.2.2.1 (AH gs i).2.2.2.2.1 (AH gs i).2.2.2.2.2.1=true) (h0:0<=a) (h1:a<b):Cv gs i a<Cv gs i b:=by
 obtain ⟨g1,g2,g3,g4,g5⟩:=I6.1 hh
 have h2:=aEH hh (show 0<=a+1 by omega) (show a+1<=b by omega)
 have h3:Cv gs i a<Cv gs i (a+1):=by
  unfold Cv Dt;split
  ·grind
  ·have:(a+1-1)*(AH gs i).2.2.2.2.2.1=(a-1)*(AH gs i).2.2.2.2.2.1+(AH gs i).2.2.2.2.2.1:=by
    grind
   omega
 omega
def aQn {gs:List Ch}{i a:Int}(hh:DX (AH gs i).2.2.2.1 (AH gs i).2.2.2.2.1 (AH gs i).2.2.2.2.2.1=true) (h0:0<=a):0<=Cv gs i a:=by
 have:=aEH hh (Gl 0) h0
 exact this
def mZ {al am bm:List Int}:∀ {ms:List Int},(∀m∈ms,gi am m=gi bm m)->Km al am ms=Km al bm ms
 | [],_=>rfl
 |m::ms,h=>by rw [nO,nO,mZ (ms:=ms) (λx hx=>h x AA),h m AJ]
def aFz {al am bm:List Int}{i:Int}:∀ {ms:List Int},ms.Nodup->i∈ms->(∀m∈ms,m≠i->gi am m=gi bm m)->Km al bm ms=Km al am ms+(mx (gi al i) (gi bm i)-mx (gi al i) (gi am i))
 | [],_,h,_=>Ah
 | m::ms,hn,hi,h=>by
  obtain ⟨n1,n2⟩:=Ly.1 hn;rw [nO,nO]
  by_cases e:m=i
  ·subst e
   rw [mZ (am:=am) (bm:=bm) (λx hx=>h x AA (λe=>n1 (e▸hx)))]
   omega
  ·have hi2:i∈ms:=by
    rcases B1.1 hi with h|h
    ·grind
    ·exact h
   rw [aFz n2 hi2 (λx hx=>h x AA),h m AJ e]
   omega
def aes {al am bm:List Int}{r:Rw}(h:∀m∈r.2,gi am m=gi bm m):rowB al am r=rowB al bm r:=by
 unfold rowB;rw [mZ h]
 congr 1
 rw [I0,BL,BL]
 constructor
 ·grind
 ·grind
structure Inv (rows:List Rw) (gs:List Ch) (al sm lv:List Int):Prop where
 sl:sm.length=rows.length
 sm:∀k:Nat,k<rows.length->sm.getD k 0=Km al (FA gs lv) (CX rows k).2
 ll:lv.length=gs.length
 nn:∀j,0<=j->0<=gi lv j
 pp:PP rows gs al lv=true
def nz {rows:List Rw}{k:Int}(h0:0<=k) (h1:k<(rows.length:Int)):CX rows k∈rows:=by
 rw [nW A0];exact FK _
def qV {rows:List Rw}{gs:List Ch}{al mo od lv:List Int}(H:Hh rows gs al mo od) {i L:Int}(hl:lv.length=gs.length) (h0:0<=i) (h1:i<(gs.length:Int)) {r:Rw}(hr:r∈rows):
  (∀m∈r.2,m≠i->gi (FA gs lv) m=gi (FA gs (lv.set i.toNat L)) m)/\gi (FA gs (lv.set i.toNat L)) i=Cv gs i L:=by
 refine ⟨λm hm e=>?_,?_⟩
 ·obtain ⟨m0,m1⟩:=(H.mem r hr).2 m hm
  rw [T5 m0 m1,T5 m0 m1,K7 h0 A0 m0,AD e]
 ·rw [T5 h0 h1,K7 h0 A0 h0,AE rfl]
def aJI {rows:List Rw}{gs:List Ch}{al mo od lv:List Int}(H:Hh rows gs al mo od) {i L:Int}(hl:lv.length=gs.length) (h0:0<=i) (h1:i<(gs.length:Int)) {r:Rw}(hr:r∈rows) (hc:gi lv i=L-1):
  Km al (FA gs (lv.set i.toNat L)) r.2=Km al (FA gs lv) r.2+(if i∈r.2 then Fj gs al i L else 0):=by
 obtain ⟨p1,p2⟩:=qV (L:=L) H hl h0 h1 hr;split
 ·rename_i hi
  rw [aFz (am:=FA gs lv) (H.mem r hr).1 hi p1,p2,T5 h0 h1,hc];rfl
 ·rename_i hi
  rw [<-mZ (am:=FA gs lv) (λm hm=>p1 m hm (λe=>hi (e▸hm)))]
  omega
def aqD {rows:List Rw}{gs:List Ch}{al mo od sm lv:List Int}(H:Hh rows gs al mo od) (hI:Inv rows gs al sm lv) {i L:Int}(h0:0<=i) (h1:i<(gs.length:Int)) (hL:1<=L) (hc:gi lv i=L-1):
  ((OL rows).getD i.toNat []).all (KQ rows sm (Fj gs al i L))=PP rows gs al (lv.set i.toNat L):=by
 have hg:=H.gl
 rw [ti (λr hr=>⟨(H.mem r hr).1,λm hm=>((H.mem r hr).2 m hm).1⟩) A0,I0,BL]
 unfold PP fW;rw [BL]
 have hpp:=hI.pp
 unfold PP fW at hpp;rw [BL] at hpp
 have hpos:1<=Cv gs i L:=by
  have:=aQo (H.has i h0 h1) (Gl 0) (show 0<L by omega)
  rw [abx] at this;omega
 have hfit:∀k:Int,0<=k->k<(rows.length:Int)->i∈(CX rows k).2->(KQ rows sm (Fj gs al i L) k=rowB al (FA gs (lv.set i.toNat L)) (CX rows k)):=λk k0 k1 hk=>by
  have hr:=nz k0 k1
  have hs:=hI.sm k.toNat A0
  have hp:=aJI (L:=L) H hI.ll h0 h1 hr hc
  have hz:(CX rows k).2.all (λm=>gi (FA gs (lv.set i.toNat L)) m==0)=false:=by
   rw [Hz];intro hz
   have:=BL.1 hz i hk
   rw [(qV (L:=L) H hI.ll h0 h1 hr).2,Cj] at this;omega
  unfold KQ rowB
  grind
 constructor
 ·intro h r hr
  obtain ⟨k,hk,rfl⟩:=IS.1 hr
  have ek:CX rows (k:Int)=rows[k]:=nW VW
  by_cases hi:i∈rows[k].2
  ·have:=h (k:Int) (T0.2 ⟨A0,A0,by
    rw [O6,ek,BQ h0]
    simpa using hi⟩)
   rw [hfit k A0 A0 AA,ek] at this;exact this
  ·rw [<-aes (am:=FA gs lv) (λm hm=>(qV (L:=L) H hI.ll h0 h1 hr).1 m hm (λe=>hi (e▸hm)))]
   exact hpp _ hr
 ·intro h x hx
  obtain ⟨x0,x1,x2⟩:=T0.1 hx;rw [hfit x x0 A0 AA];exact h _ (nz x0 A0)
def apx {rows:List Rw}{gs:List Ch}{al mo od sm lv:List Int}{b:Bool}(H:Hh rows gs al mo od) (hI:Inv rows gs al sm lv) {i L:Int}(h0:0<=i) (h1:i<(gs.length:Int)) (hL:1<=L):
  (Fb (OL rows) rows gs al mo L (sm,lv,b) i).2.1=J5 (PP rows gs al) (tpO gs mo) L lv i/\Inv rows gs al (Fb (OL rows) rows gs al mo L (sm,lv,b) i).1 (Fb (OL rows) rows gs al mo L (sm,lv,b) i).2.1/\((Fb (OL rows) rows gs al mo L (sm,lv,b) i).2.2=false->b=false/\(Fb (OL rows) rows gs al mo L (sm,lv,b) i).2.1=lv):=by
 unfold Fb J5
 by_cases hc:gi lv i=L-1/\L<=tpO gs mo i
 ·have hf:=aqD H hI h0 h1 hL hc.1
  rw [AE (show lv.getD i.toNat 0=L-1/\L<=FE gs i (gi mo i) from hc),AE hc,hf]
  by_cases hp:PP rows gs al (lv.set i.toNat L)=true
  ·rw [AE hp,AE hp]
   have hg:=H.gl
   refine ⟨rfl,⟨by rw [mO];exact hI.sl,λk hk=>?_,by rw [Br];exact hI.ll,λj hj=>?_,hp⟩,λh=>Ah⟩
   ·have hr:CX rows (k:Int)∈rows:=nz A0 A0
    rw [ti (λr hr=>⟨(H.mem r hr).1,λm hm=>((H.mem r hr).2 m hm).1⟩) A0,pO mj (λr hr=>(T0.1 hr).1) (by rw [hI.sl];exact hk),hI.sm k hk,aJI (L:=L) H hI.ll h0 h1 hr hc.1]
    have:(k:Int)∈Jm 0 rows (i.toNat:Int)↔i∈(CX rows (k:Int)).2:=by
     rw [T0,O6,BQ h0]
     constructor
     ·grind
     ·grind
    by_cases hm:i∈(CX rows (k:Int)).2
    ·grind
    ·grind
   ·simp only
    rw [K7 h0 (by rw [hI.ll];exact h1) hj]
    split
    ·omega
    ·exact hI.nn j hj
  ·rw [AD hp,AD hp]
   grind
 ·rw [AD (show ¬(lv.getD i.toNat 0=L-1/\L<=FE gs i (gi mo i)) from hc),AD hc]
  grind
def aFq {rows:List Rw}{gs:List Ch}{al mo od:List Int}(H:Hh rows gs al mo od) {L:Int}(hL:1<=L):∀ {l sm lv:List Int}{b:Bool},Rf gs.length l->Inv rows gs al sm lv->
  (swp (OL rows) rows gs al mo L (sm,lv,b) l).2.1=Jk (PP rows gs al) (tpO gs mo) L lv l/\Inv rows gs al (swp (OL rows) rows gs al mo L (sm,lv,b) l).1 (swp (OL rows) rows gs al mo L (sm,lv,b) l).2.1/\((swp (OL rows) rows gs al mo L (sm,lv,b) l).2.2=false->b=false/\(swp (OL rows) rows gs al mo L (sm,lv,b) l).2.1=lv)
 | [],sm,lv,b,_,hI=>⟨rfl,hI,λh=>⟨h,rfl⟩⟩
 |i::l,sm,lv,b,hr,hI=>by
  obtain ⟨i0,i1⟩:=hr i AJ;obtain ⟨r1,r2,r3⟩:=apx (b:=b) H hI i0 i1 hL;obtain ⟨s1,s2,s3⟩:=aFq H hL (l:=l) (b:=(Fb (OL rows) rows gs al mo L (sm,lv,b) i).2.2) (λx hx=>hr x AA) r2
  refine ⟨s1.trans (by rw [r1];rfl),s2,λh=>?_⟩
  obtain ⟨t1,t2⟩:=s3 h;obtain ⟨t3,t4⟩:=r3 t1;exact ⟨t3,t2.trans t4⟩
def aG0 {rows:List Rw}{gs:List Ch}{al mo od:List Int}(H:Hh rows gs al mo od):∀ {f:Nat}{L:Int}{sm lv:List Int},1<=L->Inv rows gs al sm lv->(∀i∈od,gi lv i<=L-1)->shl (OL rows) rows gs al mo od f L sm lv=G6 (PP rows gs al) (tpO gs mo) od f L lv
 |0,_,_,_,_,_,_=>rfl
 | f+1,L,sm,lv,hL,hI,hb=>by
  obtain ⟨s1,s2,s3⟩:=aFq (b:=false) H hL H.ord hI;rw [shl,G6];split
  ·rw [aG0 H A0 s2 (λi hi=>by
    rw [s1]
    have h1:=tD (P:=PP rows gs al) (tp:=tpO gs mo) (L:=L) (H.ord i hi).1 (l:=od) (lv:=lv) (by rw [hI.ll];exact H.ord)
    have h2:=hb i hi
    omega),s1]
  ·rename_i hc
   have hc:(swp (OL rows) rows gs al mo L (sm,lv,false) od).2.2=false:=AA
   have e:=(s3 hc).2
   rw [<-s1,e,aCt (λi hi=>AA)]
def NI {n:Nat}{j:Int}:gi (List.replicate n 0) j=0:=by
 unfold gi
 grind
def akV {rows:List Rw}{gs:List Ch}{al mo od:List Int}(H:Hh rows gs al mo od):Inv rows gs al (SM al rows) (List.replicate gs.length 0):=by
 have hz:∀r∈rows,∀m∈r.2,gi (FA gs (List.replicate gs.length 0)) m=0:=λr hr m hm=>by
  obtain ⟨m0,m1⟩:=(H.mem r hr).2 m hm;rw [T5 m0 m1,NI,abx]
 refine ⟨aCA,λk hk=>?_,CR,λj _=>by rw [NI];omega,?_⟩
 ·rw [aRu hk]
  have hr:CX rows (k:Int)∈rows:=nz A0 A0
  unfold smA Km
  congr 1
  refine JG (λm hm=>?_)
  obtain ⟨m0,m1⟩:=(H.mem _ hr).2 m hm;rw [hz _ hr m hm]
  have:=H.al _ (L6 m0 (by rw [H.all];exact m1))
  unfold mx;omega
 ·unfold PP fW
  rw [BL];intro r hr;unfold rowB
  grind
def lvF (rows:List Rw) (gs:List Ch) (al mo od:List Int):List Int:=G6 (PP rows gs al) (tpO gs mo) od 80 1 (List.replicate gs.length 0)
def qj {rows:List Rw}{gs:List Ch}{al mo od:List Int}(H:Hh rows gs al mo od) {i:Int}(h0:0<=i) (h1:i<(gs.length:Int)):0<=tpO gs mo i/\tpO gs mo i<=80/\tpO gs mo i<EF (AH gs i).2.2.2.1 (AH gs i).2.2.2.2.1 (AH gs i).2.2.2.2.2.1:=
 ⟨afN (H.has i h0 h1) (H.mo _ (L6 h0 (by rw [H.mol];exact h1))).1,tH,aQ9 (H.has i h0 h1)⟩
def aul {rows:List Rw}{gs:List Ch}{al mo od:List Int}(H:Hh rows gs al mo od):shV rows gs al mo od=lvF rows gs al mo od:=by
 unfold shV lvF;rw [H.all,aG0 H A0 (akV H) (λi _=>by rw [NI];omega),aDn,aBw (λi hi=> .inr ?_)]
 have:=qj H (H.ord i hi).1 (H.ord i hi).2
 omega
section
variable {rows : List Rw} {gs : List Ch} {al mo od : List Int}
def aqt:(lvF rows gs al mo od).length=gs.length:=by
 unfold lvF;rw [aHC,CR]
def aFp (H:Hh rows gs al mo od):Rf (List.replicate gs.length (0:Int)).length od:=by rw [CR];exact H.ord
def axX (H:Hh rows gs al mo od) {j:Int}(hj:0<=j):0<=gi (lvF rows gs al mo od) j:=by
 have:=aQJ (P:=PP rows gs al) (tp:=tpO gs mo) (f:=80) (L:=1) hj (aFp H)
 rw [NI] at this;exact this
def aQ6 (H:Hh rows gs al mo od) {j:Int}(h0:0<=j) (h1:j<(gs.length:Int)):gi (lvF rows gs al mo od) j<=tpO gs mo j:=by
 have h2:=aQK (P:=PP rows gs al) (tp:=tpO gs mo) (f:=80) (L:=1) h0 (aFp H)
 rw [NI] at h2
 have h3:=qj H h0 h1
 unfold lvF;omega
def aqL {i k:Int}(hh:DX (AH gs i).2.2.2.1 (AH gs i).2.2.2.2.1 (AH gs i).2.2.2.2.2.1=true) (h0:0<=k) (h1:k<EF (AH gs i).2.2.2.1 (AH gs i).2.2.2.2.1 (AH gs i).2.2.2.2.2.1):FE gs i (Cv gs i k)=k:=by
 have h2:=aQn hh h0
 have h3:=(qQ hh h2 h0 h1).1 (Gl _)
 have h4:=aQ9 (a:=Cv gs i k) hh
 have h5:=(qQ hh h2 (k:=HD (AH gs i).2.2.2.1 (AH gs i).2.2.2.2.1 (AH gs i).2.2.2.2.2.1 (Cv gs i k)) A0 h4).2 (Gl _)
 by_cases e:k<HD (AH gs i).2.2.2.1 (AH gs i).2.2.2.2.1 (AH gs i).2.2.2.2.2.1 (Cv gs i k)
 ·have:=aQo hh h0 e
  have h5:Cv gs i (HD (AH gs i).2.2.2.1 (AH gs i).2.2.2.2.1 (AH gs i).2.2.2.2.2.1 (Cv gs i k))<=Cv gs i k:=h5
  omega
 ·unfold FE
  omega
end
def asU {mi ma st k:Int}(hh:DX mi ma st=true) (h0:0<=k) (h1:k<EF mi ma st):Dt mi st k<=ma:=by
 obtain ⟨g1,g2,g3,g4,g5⟩:=I6.1 hh;unfold Dt;split
 ·omega
 ·unfold EF at h1
  have h2:(k-1)<=(ma-mi) / st:=A0
  have:=(Int.le_ediv_iff_mul_le (a:=k-1) (b:=ma-mi) (c:=st) A0).1 h2
  omega
def ahO {mi ma st k:Int}(h0:0<=k) (h1:k<EF mi ma st):amA mi ma st k=Dt mi st k/\amE mi ma st k=0:=by
 unfold amA amE
 grind
section
variable {rows : List Rw} {gs : List Ch} {al mo od lv : List Int}
def lvR (gs:List Ch) (lv:List Int):Prop:=lv.length=gs.length/\∀j,0<=j->j<(gs.length:Int)->0<=gi lv j/\gi lv j<EF (AH gs j).2.2.2.1 (AH gs j).2.2.2.2.1 (AH gs j).2.2.2.2.2.1
def yf (H:Hh rows gs al mo od):lvR gs (lvF rows gs al mo od):=⟨aqt,λj h0 h1=>⟨axX H h0,by
 have:=aQ6 H h0 h1
 have:=qj H h0 h1
 omega⟩⟩
def asV (H:Hh rows gs al mo od) {j k:Int}(h0:0<=j) (h1:j<(gs.length:Int)) (k0:0<=k) (k1:k<EF (AH gs j).2.2.2.1 (AH gs j).2.2.2.2.1 (AH gs j).2.2.2.2.2.1):(0<=Cv gs j k/\Cv gs j k<=80)/\aJq gs j k=0/\aJr gs j k=Cv gs j k/\FE gs j (Cv gs j k)=k:=by
 have hh:=H.has j h0 h1
 obtain ⟨g1,g2,g3,g4,g5⟩:=I6.1 hh
 have h2:=asU hh k0 k1
 obtain ⟨e1,e2⟩:=ahO k0 k1;refine ⟨⟨aQn hh k0,?_⟩,e2,e1,aqL hh k0 k1⟩;unfold Cv;omega
def ahM (H:Hh rows gs al mo od) (R:lvR gs lv) {j:Int}(h0:0<=j) (h1:j<(gs.length:Int)):letI a:=FA gs lv;FE gs j (gi a j)=gi lv j/\aJq gs j (gi lv j)=0/\aJr gs j (gi lv j)=gi a j/\0<=gi a j/\gi a j<=80:=by
 obtain ⟨r0,r1⟩:=R.2 j h0 h1;obtain ⟨a1,a2,a3,a4⟩:=asV H h0 h1 r0 r1;rw [T5 h0 h1]
 grind
def aiY (H:Hh rows gs al mo od) {j k:Int}(h0:0<=j) (h1:j<(gs.length:Int)) (k0:0<=k) (k1:k<EF (AH gs j).2.2.2.1 (AH gs j).2.2.2.2.1 (AH gs j).2.2.2.2.2.1):Cv gs j k<=gi mo j↔k<=tpO gs mo j:=
 qQ (H.has j h0 h1) (H.mo _ (L6 h0 (by rw [H.mol];exact h1))).1 k0 k1
def adN {a b:List Int}(hl:a.length=b.length) (h:∀j:Int,0<=j->j<(b.length:Int)->gi a j=gi b j):a=b:=jS hl λk h1 h2=>by
 have:=h (k:Int) A0 A0
 rw [Io AA,Io AA] at this
 grind
def g4 (gs:List Ch) (mo b am:List Int) (j:Int):Prop:=(0<=gi b j/\gi b j<EF (AH gs j).2.2.2.1 (AH gs j).2.2.2.2.1 (AH gs j).2.2.2.2.2.1)/\gi am j=Cv gs j (gi b j)/\gi am j<=gi mo j
end
section
variable {cs : List Cd} {os : List ByteArray} {ks : List Ko} {gs : List Ch} {bs : List Ba} {al mo od : List Int}
def aum (h:G1 cs os ks gs bs al mo od=true):Fa cs os ks gs bs al mo od=FA gs (lvF (DJ cs gs cs.length) gs al mo od):=by
 unfold Fa;rw [AE h,aul (aaD h)]
def aaE (h:G1 cs os ks gs bs al mo od=true):Mp cs os ks gs bs al mo od=0:=by unfold Mp;rw [AE h]
end
abbrev BD:Ty:=.pair A7 A7
abbrev Ra:=Int×Int
instance:Coe (List Ra) LV:=⟨.xl BD⟩
def Bx (l:List Ra) (n:Int):Ra:=l.getD n.toNat (0,0)
def uP {l:List Ra}{n:Int}(h:n.toNat<l.length):Bx l n=l[n.toNat]:=MO h
def aQM {l:List Int}{j:Int}(h:l.length<=j.toNat):gi l j=0:=by
 unfold gi;rw [Cx,ZM h];rfl
def axN {l:List Int}{a:Int}(h:a∈l):∃j:Int,(0<=j/\j<(l.length:Int))/\gi l j=a:=by
 obtain ⟨k,hk,e⟩:=IS.1 h;exact ⟨k,A0,by rw [Io AA];simpa using e⟩
def neN {a b:Nat}:((a:Int) !=(b:Int))=!decide (a=b):=by
 by_cases h:a=b
 ·simp [h]
 ·have h':(a:Int)≠(b:Int):=A0
  simp [h,h']
def Rx (t:Int) (x:Le):Bool:=decide (x.2.2.2.1<=t)&&decide (PJ x>t)
def kpA (o:List Int) (x:Le):List Int:=o.set x.2.1.toNat (mx (gi o x.2.1) x.2.2.1)
def LU (n:Nat) (l:List Le) (t:Int):List Int:=(l.filter (Rx t)).foldl kpA (List.replicate n 0)
def below (n:Int) (l:List Le):Bool:=l.all (λx=>decide (x.2.1<n))
def LR (l:List Le) (n t:Int):Bool:=(BG l&&(inB n 0 16&&inB t 0 1100000))&&below n l
def Gp (l:List Le) (n t:Int):List Int:=if LR l n t=true then LU n.toNat l t else []
def KV (l:List Le) (n t:Int):Int:=if LR l n t=true then 0 else 1
def aqS {o:List Int}{x:Le}:(kpA o x).length=o.length:=by simp [kpA]
def aH3:∀ {l:List Le}{o:List Int},(l.foldl kpA o).length=o.length
 | [],_=>rfl
 |x::l,o=>by rw [Jp,aH3,aqS]
def bn {n:Nat}{l:List Le}{t:Int}:(LU n l t).length=n:=by rw [LU,aH3,CR]
def aD7 {l:List Le}(h:BG l=true):l.Pairwise (λa b=>a.1<b.1/\a.2.2.2.1<=b.2.2.2.1):=by
 unfold BG at h;rw [AU] at h
 have hs:∀k:Nat,(hk:k+1<l.length)->l[k].1<l[k+1].1/\l[k].2.2.2.1<=l[k+1].2.2.2.1:=λk hk=>by
  have:=EB.1 h.2 (k+1) A0
  unfold GW Jd at this;rw [Oh (n:=((k+1:Nat):Int)) AA,Oh (n:=((k+1:Nat):Int)-1) A0] at this;simp only [AU,Cr,AY] at this;obtain ⟨_,h1|h1⟩:=this
  ·omega
  ·have e:(((k+1:Nat):Int)-1).toNat=k:=A0
   simp only [e,Bs] at h1;omega
 rw [jH];intro i j hi hj hij
 induction j with
 |zero=>omega
 | succ j ih=>
  have h1:=hs j A0
  by_cases e:i=j
  ·grind
  ·have h2:=ih A0 A0
   omega
def Cq (c:Ch):Int:=c.2.2.2.2.2.2.1
def raC (c:Ch) (r:Ra):Bool:=Hr c.2.2.1 c.2.2.2.1 c.2.2.2.2.1 c.2.2.2.2.2.1 (Cq c) r.1 r.2
def Gj (x:Dm):Bool:=inB x.2.1 0 1000000000&&(inB x.2.2.1 0 1000000&&inB x.2.2.2 1 9)
def J6 (cs:List Cd) (os:List ByteArray) (ks:List Ko) (gs:List Ch) (bs:List Ba) (l:List Le) (rs:List Ra) (d:List Dm) (t n:Int):Bool:=
 (BF cs os ks gs bs&&BG l)&&((decide (rs.length=gs.length)&&(decide (d.length=gs.length)&&(inB t 0 1000000&&inB n 1 999900)))&&(below gs.length l&&Dc gs.length (λj=>raC (AH gs j) (Bx rs j)&&Gj (Dq d j))))
def Gv (n:Nat) (f:Int->Int):List Int:=(List.range n).map (λk:Nat=>f (k:Int))
def Jt {n:Nat}{f:Int->Int}:(Gv n f).length=n:=by simp [Gv]
def SZ {n:Nat}{f:Int->Int}{j:Int}(h0:0<=j) (h1:j<(n:Int)):gi (Gv n f) j=f j:=by
 rw [Io (by rw [Jt];omega)]
 simp only [Gv,wH,jc]
 grind
def aCg {n:Nat}{f:Int->Int}{x:Int}(h:x∈Gv n f):∃j,(0<=j/\j<(n:Int))/\f j=x:=by
 obtain ⟨k,hk,e⟩:=Eg.1 h
 grind
def C4 (gs:List Ch):List Int:=Gv gs.length (λk=>Cq (AH gs k))
def Ip (gs:List Ch) (d:List Dm):List Int:=Gv gs.length (λk=>if (Dq d k).1=true then (AH gs k).2.2.2.2.1 else 0)
def Hg (gs:List Ch) (l:List Le) (t:Int):List Int:=Gv gs.length (λk=>mx (Cq (AH gs k)) (gi (LU gs.length l t) k))
def tgL (cs:List Cd) (os:List ByteArray) (ks:List Ko) (gs:List Ch) (bs:List Ba) (d:List Dm) (t:Int):List Int:=Fa cs os ks gs bs (C4 gs) (Ip gs d) (Gs d t)
def ofL (cs:List Cd) (os:List ByteArray) (ks:List Ko) (gs:List Ch) (bs:List Ba) (l:List Le) (d:List Dm) (t:Int):List Int:=Fa cs os ks gs bs (Hg gs l t) (tgL cs os ks gs bs d t) (Gs d t)
def afm {l:List Ra}{i j:Int}{v:Ra}(h0:0<=i) (h1:i<(l.length:Int)) (hj:0<=j):Bx (l.set i.toNat v) j=if j=i then v else Bx l j:=by
 unfold Bx;rw [Cx,Cx,HI]
 by_cases e:j=i
 ·subst e
  rw [AE rfl,AE rfl,AE A0];rfl
 ·grind
def aqc {a b:List Ra}(hl:a.length=b.length) (h:∀j:Int,0<=j->j<(b.length:Int)->Bx a j=Bx b j):a=b:=jS hl λk h1 h2=>by
 have:=h (k:Int) A0 A0
 rw [uP AA,uP AA] at this
 grind
def ofO (cs:List Cd) (os:List ByteArray) (ks:List Ko) (gs:List Ch) (bs:List Ba) (l:List Le) (d:List Dm) (t:Int) (od:List Int):List Int:=Fa cs os ks gs bs (Hg gs l t) (Fa cs os ks gs bs (C4 gs) (Ip gs d) od) od
def nwO (a t:Int):Option Le->Bool
 |none=>true
 |some x=>x.2.2.1 !=a ||decide (x.2.2.2.1<=t-6)
def nwB (gs:List Ch) (l:List Le) (t i a:Int):Bool:=!decide (a<=Cq (AH gs i))&&nwO a t (l.reverse.find? (λx=>x.2.1==i))
def nxA (c:Ch) (r:Ra) (w:Int):Int:=nA c.2.2.1 c.2.2.2.1 c.2.2.2.2.1 c.2.2.2.2.2.1 (Cq c) r.1 r.2 w
def nxS (c:Ch) (r:Ra) (w:Int):Int:=nS c.2.2.1 c.2.2.2.1 c.2.2.2.2.1 c.2.2.2.2.2.1 (Cq c) r.1 r.2 w
def Lp (gs:List Ch) (rs:List Ra) (w:List Int) (k:Nat):List Int:=Gv k (λk=>nxA (AH gs k) (Bx rs k) (gi w k))
def dcR (gs:List Ch) (rs:List Ra) (w:List Int) (k:Nat):List Ra:=(List.range k).map (λk:Nat=>(nxA (AH gs k) (Bx rs k) (gi w k),nxS (AH gs k) (Bx rs k) (gi w k)))
def H9 (gs:List Ch) (l:List Le) (t n:Int) (am:List Int):Nat->List Le
 |0=>[]
 |k+1=>H9 gs l t n am k++(if nwB gs l t k (gi am k)=true then [(n+(H9 gs l t n am k).length,(k:Int),gi am k,t,12)] else [])
def cS {gs:List Ch}{rs:List Ra}{w:List Int}{k:Nat}:(dcR gs rs w k).length=k:=by simp [dcR]
def azP {gs:List Ch}{rs:List Ra}{w:List Int}{k:Nat}{j:Int}(h0:0<=j) (h1:j<(k:Int)):Bx (dcR gs rs w k) j=(nxA (AH gs j) (Bx rs j) (gi w j),nxS (AH gs j) (Bx rs j) (gi w j)):=by
 rw [uP (by rw [cS];omega)]
 simp only [dcR,wH,jc]
 grind
def okC (c:Ch) (r:Ra) (w:Int):Bool:=okB c.2.2.1 c.2.2.2.1 c.2.2.2.2.1 c.2.2.2.2.2.1 (Cq c) r.1 r.2 w
def dcK (gs:List Ch) (rs:List Ra) (w:List Int):Prop:=∀j,0<=j->j<(gs.length:Int)->okC (AH gs j) (Bx rs j) (gi w j)=true
def aBY {gs:List Ch}{l:List Le}{t n:Int}{am:List Int}:∀ {k:Nat},(H9 gs l t n am k).length<=k
 |0=>by simp [H9]
 |k+1=>by
  have:=aBY (gs:=gs) (l:=l) (t:=t) (n:=n) (am:=am) (k:=k)
  rw [H9,B0];split
  ·grind
  ·grind
section
variable (cs : List Cd) (os : List ByteArray) (ks : List Ko) (gs : List Ch) (bs : List Ba) (l : List Le) (rs : List Ra) (d : List Dm) (t n : Int)
def deA:List Int:=if J6 cs os ks gs bs l rs d t n=true then Lp gs rs (ofL cs os ks gs bs l d t) gs.length else []
def deR:List Ra:=if J6 cs os ks gs bs l rs d t n=true then dcR gs rs (ofL cs os ks gs bs l d t) gs.length else []
def deL:List Le:=if J6 cs os ks gs bs l rs d t n=true then H9 gs l t n (Lp gs rs (ofL cs os ks gs bs l d t) gs.length) gs.length else []
def deE:Int:=if J6 cs os ks gs bs l rs d t n=true then 0 else 1
end
section
variable {cs : List Cd} {os : List ByteArray} {ks : List Ko} {gs : List Ch} {bs : List Ba} {l : List Le} {rs : List Ra} {d : List Dm} {t n : Int}
structure Vd (cs:List Cd) (os:List ByteArray) (ks:List Ko) (gs:List Ch) (bs:List Ba) (l:List Le) (rs:List Ra) (d:List Dm) (t n:Int):Prop where
 site:BF cs os ks gs bs=true
 les:BG l=true
 rl:rs.length=gs.length
 dl:d.length=gs.length
 gl:gs.length<=16
 tb:0<=t/\t<=1000000
 nb:1<=n/\n<=999900
 co:below gs.length l=true
 ra:∀j:Int,0<=j->j<(gs.length:Int)->raC (AH gs j) (Bx rs j)=true
 dm:∀j:Int,0<=j->j<(gs.length:Int)->Gj (Dq d j)=true
 ch:∀j:Int,0<=j->j<(gs.length:Int)->chW (AH gs j)=true
def ahh (h:J6 cs os ks gs bs l rs d t n=true):Vd cs os ks gs bs l rs d t n:=by
 unfold J6 at h;simp only [AU,AY,CU] at h;obtain ⟨⟨h1,h2⟩,⟨h3,h4,h5,h6⟩,h7,h8⟩:=h
 have hj:∀j:Int,0<=j->j<(gs.length:Int)->raC (AH gs j) (Bx rs j)=true/\Gj (Dq d j)=true:=λj h0 hj=>by
  have:=EB.1 h8 j.toNat A0
  rw [BQ h0,AU] at this;exact this
 exact ⟨h1,h2,h3,h4,(D9.1 h1).1.2.2.2.2.1,h5,h6,h7,λj h0 h1=>(hj j h0 h1).1,λj h0 h1=>(hj j h0 h1).2,λj h0 hj=>by
  have:=Pr h1 h0 hj
  unfold Ga at this;simp only [AU] at this;exact this.2.2⟩
def cb {c:Ch}(h:chW c=true):(1<=c.2.2.1/\c.2.2.1<=7)/\(1<=c.2.2.2.1/\c.2.2.2.1<=c.2.2.2.2.1)/\c.2.2.2.2.1<=80/\(1<=c.2.2.2.2.2.1/\c.2.2.2.2.2.1<=80)/\0<=Cq c/\Cq c<=c.2.2.2.2.1:=by
 unfold chW at h;unfold Cq;simp only [AU,Cr,CU,Cj] at h;omega
def aIR (hv:BG l=true) {m:Nat}:∀a∈LU m l t,0<=a/\a<=80:=by
 have key:∀(l:List Le) (o:List Int),(∀x∈l,D7 x=true)->(∀a∈o,0<=a/\a<=80)->∀a∈l.foldl kpA o,0<=a/\a<=80:=λl=>by
  induction l with
  |nil=>exact λo _ h=>h
  | cons x l ih=>
   intro o hl ho;refine ih _ (λy hy=>hl y AA) λa ha=>?_
   have hx:=Q1.1 (hl x AJ)
   rcases SC ha with ha|rfl
   ·grind
   ·have:0<=gi o x.2.1/\gi o x.2.1<=80:=by
     by_cases h:x.2.1.toNat<o.length
     ·rw [Io h];exact ho _ (FK _)
     ·rw [aQM A0];omega
    unfold mx;omega
 refine key _ _ (λx hx=>(Ib hv).2 x (HJ.1 hx).1) λa ha=>?_
 rw [List.eq_of_mem_replicate ha];omega
def aH9 (hd:d.length=gs.length):GO (Gs d t) gs.length=true:=by
 unfold GO;rw [aE3,hd,Cs rfl,Dj,AU,BL];refine ⟨λx hx=>nC.2 (by have:=am8.1 hx;rw [hd] at this;exact this),oy.2 λj hj hm=>?_⟩
 obtain ⟨k,hk,e⟩:=IS.1 hm;rw [G9] at hk;rw [List.getElem_take] at e
 have:=(jH.1 (af6 (d:=d) (t:=t))) k j A0 hj A0
 exact this e
def yt {l:List Int}{a b:Int}(hz:a<=0/\0<=b) (h:∀x∈l,a<=x/\x<=b) {j:Int}:a<=gi l j/\gi l j<=b:=by
 by_cases hj:j.toNat<l.length
 ·rw [Io hj];exact h _ (FK _)
 ·rw [aQM A0];exact hz
structure Si (cs:List Cd) (os:List ByteArray) (ks:List Ko) (gs:List Ch) (bs:List Ba) (d:List Dm):Prop where
 site:BF cs os ks gs bs=true
 dl:d.length=gs.length
def Si.ch (h:Si cs os ks gs bs d) {j:Int}(h0:0<=j) (hj:j<(gs.length:Int)):chW (AH gs j)=true:=by
 have:=Pr h.site h0 hj
 unfold Ga at this
 grind
def Vd.si (h:Vd cs os ks gs bs l rs d t n):Si cs os ks gs bs d:=⟨h.site,h.dl⟩
def ahF (h:Si cs os ks gs bs d):∀a∈C4 gs,0<=a/\a<=80:=λa ha=>by
 exact aLU
def atO (h:Si cs os ks gs bs d):∀a∈Ip gs d,0<=a/\a<=80:=λa ha=>by
 exact aLU
def ahP (h:Vd cs os ks gs bs l rs d t n):∀a∈Hg gs l t,0<=a/\a<=80:=λa ha=>by
 obtain ⟨j,⟨h0,h1⟩,rfl⟩:=aCg ha
 have:=cb (h.ch j h0 h1)
 have:=yt (j:=j) ⟨Gl 0,Aa⟩ (aIR h.les (m:=gs.length) (t:=t))
 unfold mx;omega
def aun {al mo od:List Int}(hk:G1 cs os ks gs bs al mo od=true):letI a:=Fa cs os ks gs bs al mo od;a.length=gs.length/\∀j,0<=j->j<(gs.length:Int)->(0<=gi a j/\gi a j<=80)/\gi a j<=gi mo j:=by
 have H:=aaD hk
 rw [aum hk];refine ⟨aEF,λj h0 h1=>?_⟩
 obtain ⟨_,_,_,e4,e5⟩:=ahM H (yf H) h0 h1
 have h3:=(aiY H h0 h1 ((yf H).2 j h0 h1).1 ((yf H).2 j h0 h1).2).2 (aQ6 H h0 h1)
 rw [T5 h0 h1] at e4 e5|-
 grind
def aG1 {al mo od:List Int}(hk:G1 cs os ks gs bs al mo od=true):(Fa cs os ks gs bs al mo od).length=gs.length/\∀a∈Fa cs os ks gs bs al mo od,0<=a/\a<=80:=by
 obtain ⟨h1,h2⟩:=aun hk;refine ⟨h1,λa ha=>?_⟩
 obtain ⟨j,hj,rfl⟩:=axN ha
 grind
def aa8 (h:Si cs os ks gs bs d):G1 cs os ks gs bs (C4 gs) (Ip gs d) (Gs d t)=true:=
 Ky.2 ⟨h.site,Jt,Jt,BL.2 λa ha=>Py.2 (ahF h a ha),BL.2 λa ha=>Py.2 (atO h a ha),aH9 h.dl⟩
def aa9 (h:Si cs os ks gs bs d):(tgL cs os ks gs bs d t).length=gs.length/\∀a∈tgL cs os ks gs bs d t,0<=a/\a<=80:=by
 exact aG1 (aa8 (t:=t) h)
def ab9 (h:Vd cs os ks gs bs l rs d t n):G1 cs os ks gs bs (Hg gs l t) (tgL cs os ks gs bs d t) (Gs d t)=true:=
 Ky.2 ⟨h.site,Jt,(aa9 h.si).1,BL.2 λa ha=>Py.2 (ahP h a ha),BL.2 λa ha=>Py.2 ((aa9 h.si).2 a ha),aH9 h.dl⟩
def abA (h:Vd cs os ks gs bs l rs d t n):(ofL cs os ks gs bs l d t).length=gs.length/\∀a∈ofL cs os ks gs bs l d t,0<=a/\a<=80:=by
 exact aG1 (ab9 h)
def aju (h:Vd cs os ks gs bs l rs d t n) {j:Int}:letI a:=ofL cs os ks gs bs l d t;0<=gi a j/\gi a j<=80:=yt ⟨Gl 0,Aa⟩ (abA h).2
def azN (h:Vd cs os ks gs bs l rs d t n):dcK gs rs (ofL cs os ks gs bs l d t):=λj j0 j1=>by
 have hr:=h.ra j j0 j1
 have hb:=aju h (j:=j)
 unfold raC at hr;unfold okC okB;rw [hr,Cs hb.1,Cs hb.2];rfl
def asW (h:Vd cs os ks gs bs l rs d t n):LR l gs.length t=true:=by
 have:=h.gl
 have:=h.tb
 unfold LR;rw [h.les,CU.2 ⟨A0,A0⟩,CU.2 ⟨A0,A0⟩,h.co];rfl
end
section
variable {P : List Int -> Bool} {tp : Int -> Int}
end
def ajF {ph mn mx st fb a s want:Int}(h:okB ph mn mx st fb a s want=true):nE ph mn mx st fb a s want=0:=by rw [nE,AE h]
section
variable {cs : List Cd} {os : List ByteArray} {ks : List Ko} {gs : List Ch} {bs : List Ba} {l : List Le} {rs : List Ra} {d : List Dm} {t n : Int}
def awg {i a:Int}(h:nwB gs l t i a=true):Cq (AH gs i)<a:=by
 unfold nwB at h;rw [AU] at h
 have h1:=h.1
 simp only [D4,Cl] at h1;omega
end
abbrev Ld:=Int×Ra
def EI (l:List Ld) (i:Nat):Ld:=l.getD i (Ty.dflt (.pair A7 BD))
def XK (l:List Ld) (i:Nat) (v:Int):List Ld:=l.set i ((A9 ((l.getD i (Ty.dflt (.pair A7 BD))).1+v)),(l.getD i (Ty.dflt (.pair A7 BD))).2)
def Ua (l:List Ld) (i:Nat) (v:Int):List Ld:=letI a:=l.getD i (Ty.dflt (.pair A7 BD));l.set i (a.1,((A9 (a.2.1+v)),a.2.2))
def Kj (l:List Ld) (i:Nat) (v:Int):List Ld:=letI a:=l.getD i (Ty.dflt (.pair A7 BD));l.set i (a.1,(a.2.1,(A9 (a.2.2+v))))
def aB2 {l:List Ld}{i:Nat}{v:Int}:(XK l i v).length=l.length:=by simp [XK]
def aAz {l:List Ld}{i:Nat}{v:Int}:(Ua l i v).length=l.length:=by simp [Ua]
def aAy {l:List Ld}{i:Nat}{v:Int}:(Kj l i v).length=l.length:=by simp [Kj]
def adE (ph v:Int) (e:Ld):Ld:=
 (if (Bn .i64 ph 1 !=0)=true then A9 (e.1+v) else e.1,
  (if (Bn .i64 ph 2 !=0)=true then A9 (e.2.1+v) else e.2.1,
   if (Bn .i64 ph 4 !=0)=true then A9 (e.2.2+v) else e.2.2))
def adP (ph v:Int) (l:List Ld) (i:Nat):List Ld:=l.set i (adE ph v (EI l i))
def aGQ {l:List Ld}{i j:Nat}{e:Ld}(h:i<l.length):EI (l.set i e) j=if i=j then e else EI l j:=by
 unfold EI;rw [Cx,Cx,HI]
 by_cases hij:i=j
 ·subst hij
  rw [AE rfl,AE rfl,AE h];rfl
 ·rw [AD hij,AD hij]
def amm {l:List Ld}{i:Nat}(h:i<l.length):l.set i (EI l i)=l:=by
 unfold EI;rw [Cx,DF h];exact List.set_getElem_self h
def atm {l:List Ld}{i:Nat}{v:Int}:XK l i v=l.set i (A9 ((EI l i).1+v),(EI l i).2):=rfl
def atj {l:List Ld}{i:Nat}{v:Int}:Ua l i v=l.set i ((EI l i).1,(A9 ((EI l i).2.1+v),(EI l i).2.2)):=rfl
def ati {l:List Ld}{i:Nat}{v:Int}:Kj l i v=l.set i ((EI l i).1,((EI l i).2.1,A9 ((EI l i).2.2+v))):=rfl
def agv {ph v:Int}{l:List Ld}{i:Nat}(h:i<l.length):adP ph v l i=
  (let a:=if (Bn .i64 ph 1 !=0)=true then XK l i v else l
   let b:=if (Bn .i64 ph 2 !=0)=true then Ua a i v else a
   if (Bn .i64 ph 4 !=0)=true then Kj b i v else b):=by
 unfold adP adE;dsimp only
 by_cases h1:(Bn .i64 ph 1 !=0)=true<;>by_cases h2:(Bn .i64 ph 2 !=0)=true<;>by_cases h4:(Bn .i64 ph 4 !=0)=true<;>
  simp only [h1,h2,h4,Bm,HP,FL,atm,atj,ati,aGQ h,List.set_set]<;>exact amm h
def asb {ph v:Int}{l:List Ld}{i:Nat}:(adP ph v l i).length=l.length:=by simp [adP]
def ldW:Nat->List Cd->Int->Int->Int->List Ld->List Ld
 |0,_,_,_,_,l=>l
 |k+1,cs,ph,v,c,l=>if c>=0 then ldW k cs ph v (Ag cs c).2.1 (adP ph v l c.toNat) else l
def HA (cs:List Cd) (ph v c:Int) (l:List Ld):List Ld:=ldW (c.toNat+2) cs ph v c l
def aQA {cs:List Cd}{ph v:Int}(hu:Fe cs=true):∀(k k':Nat) (c:Int) (l:List Ld),c<cs.length->(c+1).toNat<k->(c+1).toNat<k'->ldW k cs ph v c l=ldW k' cs ph v c l
 |0,_,_,_,_,h,_=>A0
 |_+1,0,_,_,_,_,h=>A0
 | k+1,k'+1,c,l,hc,h,h'=>by
  simp only [ldW]
  by_cases h0:c>=0
  ·rw [AE h0,AE h0]
   have:=Q8 hu h0 hc
   exact aQA hu k k' _ _ A0 A0 A0
  ·rw [AD h0,AD h0]
def axi {cs:List Cd}{ph v c:Int}{l:List Ld}(hu:Fe cs=true) (hc:c<cs.length):HA cs ph v c l=if c>=0 then HA cs ph v (Ag cs c).2.1 (adP ph v l c.toNat) else l:=by
 unfold HA;rw [ldW]
 by_cases h0:c>=0
 ·rw [AE h0,AE h0]
  have:=Q8 hu h0 hc
  rw [aQA hu (c.toNat+1) ((Ag cs c).2.1.toNat+2) (Ag cs c).2.1 _ A0 A0 A0]
 ·rw [AD h0,AD h0]
def aOm {cs:List Cd}{o:Int}(hu:Fe cs=true):∀(k:Nat) (c:Int),c<cs.length->Hs k cs o c=true->o<=c
 |0,_,_,h=>by simp [Hs] at h
 | k+1,c,hc,h=>by
  simp only [Hs] at h;split at h
  ·rename_i h0
   rw [Cr] at h;rcases h with h|h
   ·have:=eq_of_beq h
    omega
   ·have h1:=Q8 hu h0 hc
    have:=aOm hu k _ A0 h
    omega
  ·cases h
def aQB {cs:List Cd}{ph v:Int}(hu:Fe cs=true) {o:Nat}:∀(k:Nat) (c:Int) (l:List Ld),c<cs.length->l.length=cs.length->(ldW k cs ph v c l).length=cs.length/\EI (ldW k cs ph v c l) o=if Hs k cs (o:Int) c=true then adE ph v (EI l o) else EI l o
 |0,c,l,hc,hl=>⟨hl,by simp [ldW,Hs]⟩
 | k +1,c,l,hc,hl=>by
  simp only [ldW]
  by_cases h0:c>=0
  ·have e0:Hs (k+1) cs (o:Int) c=(c==(o:Int) ||Hs k cs (o:Int) (Ag cs c).2.1):=by
    show (if c>=0 then _ else _)=_
    rw [AE h0]
   rw [AE h0,e0]
   have h1:=Q8 hu h0 hc
   have hct:c.toNat<l.length:=A0
   obtain ⟨q1,q2⟩:=aQB hu (o:=o) k (Ag cs c).2.1 (adP ph v l c.toNat) A0 (by rw [asb];exact hl)
   refine ⟨q1,?_⟩;rw [q2];unfold adP;rw [aGQ hct]
   by_cases hco:c.toNat=o
   ·have hb:(c==(o:Int))=true:=by rw [Cj];omega
    have hn:Hs k cs (o:Int) (Ag cs c).2.1=false:=by
     cases hq:Hs k cs (o:Int) (Ag cs c).2.1 with
     |false=>rfl
     |true=>
      have:=aOm hu k _ A0 hq
      omega
    rw [hb,hn,AE hco,hco]
    simp
   ·have hb:(c==(o:Int))=false:=by
     cases hq:c==(o:Int) with
     |false=>rfl
     |true=>
      have:=eq_of_beq hq
      omega
    rw [hb,AD hco,Ct]
  ·have e0:Hs (k+1) cs (o:Int) c=false:=by
    show (if c>=0 then _ else _)=_
    rw [AD h0]
   rw [AD h0,e0];exact ⟨hl,AJ⟩
def axF {cs:List Cd}{ph v c:Int}{l:List Ld}(hu:Fe cs=true) (hc:c<cs.length) (hl:l.length=cs.length) (o:Nat):(HA cs ph v c l).length=cs.length/\EI (HA cs ph v c l) o=if HC cs (o:Int) c=true then adE ph v (EI l o) else EI l o:=
 aQB hu _ c l hc hl
def ldS (cs:List Cd) (gs:List Ch) (am:List Int):Nat->List Ld
 |0=>List.replicate cs.length (Ty.dflt (.pair A7 BD))
 |k+1=>HA cs (AH gs k).2.2.1 (gi am k) (AH gs k).2.1 (ldS cs gs am k)
def qR {cs:List Cd}{gs:List Ch}{am:List Int}(hu:Fe cs=true) (ha:atB cs gs=true):∀k:Nat,k<=gs.length->(ldS cs gs am k).length=cs.length
 |0,_=>by simp [ldS]
 |k+1,hk=>(axF hu (tz ha A0 A0) (qR hu ha k A0) 0).1
end Go.Proofs.YtgmhhjldohjpmaaGreatDoor
namespace Go.Sx
open Go.Proofs.YtgmhhjldohjpmaaGreatDoor
variable {P : Program} {G : Av} {Γ : Specs} {σ : Type}
structure CpD (σ:Type) where
 A:σ->List LV
 B:σ->List AB
 g:List LV->List AB->σ
 E:σ->Prop
 mu:σ->Nat
 r:σ->σ
namespace CpD
variable (D : CpD σ)
def m (n:Nat) (args:List LV) (H:List AB):T (LV×List AB):=(Uk H args).bind λa=>(aN H H).bind λb=>
 .req (D.E (D.g a b)/\D.mu (D.g a b)<n/\D.A (D.g a b)=a/\D.B (D.g a b)=b) (.ok (.v (.tuple #[]),D.B (D.r (D.g a b))))
variable {D}
def di {n:Nat}{args:List LV}{H:List AB}{q:LV×List AB}(h:(D.m n args H).all (λz=>z=q)):∃s,D.E s/\D.mu s<n/\D.A s=args/\D.B s=H/\q=(.v (.tuple #[]),D.B (D.r s)):=by
 unfold m at h;obtain ⟨a,h1,h2⟩:=T.Ay h;obtain ⟨b,h3,h4⟩:=T.Ay h2
 have e1:=cJ h1
 have e2:=o5 h3
 obtain ⟨⟨g1,g2,g3,g4⟩,g5⟩:=h4;exact ⟨_,g1,g2,g3.trans e1,g4.trans e2,g5.symm⟩
def one (c:FuncId) (m:List LV->List AB->T (LV×List AB)):Does:=λg=>if g=c then some m else none
def Wl {c:FuncId}{m:List LV->List AB->T (LV×List AB)}(h:DU P G c m):∀g m',one c m g=some m'->DU P G g m':=λg m' e=>by
 unfold one at e;split at e
 ·rename_i q
  subst q;cases e;exact h
 ·cases e
def sound {LL:DI}{c:FuncId}{d:Nat}(hΓ:∀g S,Γ g=some S->Valid P G g S) (hLL:ED P G LL)
  (hstep:∀(n:Nat) (s:σ),D.E s->D.mu s<=n->S4 (λq=>q=(.v (.tuple #[]),D.B (D.r s))) ((EO P G Γ LL (Ux P G Γ LL (one c (D.m n)) d)).k c (D.A s) (D.B s))):∀n,DU P G c (D.m n)
 |0=>λw0 Z0 Z β H w args vals lv H' hW hr hok hq=>by
  obtain ⟨s,_,h,_⟩:=di hq;exact absurd h (Nat.not_lt_zero _)
 |n+1=>DU.walk hΓ hLL (aBM hΓ hLL (Wl (sound hΓ hLL hstep n)) d) λargs H lv H' hq=>by
  obtain ⟨s,h1,h2,h3,h4,h5⟩:=di hq;rw [<-h3,<-h4,h5];exact (hstep n s h1 (Nat.le_of_lt_succ h2)).out
end CpD
end Go.Sx
namespace Go.Sx
open Go Go.RowKit Go.Proofs.YtgmhhjldohjpmaaGreatDoor
variable {P : Program} {G : Av} {Γ : Specs} {σ τ : Type}
def Qe (ks:List Nat) (H:List AB):List AB:=ks.foldl (λH k=>H.set k ⟨[],0,.dead,false⟩) H
def aeW (ks:List Nat):∀(H:List AB),(Qe ks H).length=H.length:=by
 induction ks with
 |nil=>intro H;rfl
 |cons k ks ih=>intro H;simp only [Qe,Jp] at ih|-;rw [ih];simp
def RW.kills {w0 w:World}{Z0:Gz}{Z:Nat->Prop}{β:Nat->Loc}(ks:List Nat):∀ {H:List AB},RW G w0 Z0 Z β H w->RW G w0 Z0 Z β (Qe ks H) w:=by
 induction ks with
 |nil=>intro H h;exact h
 |cons k ks ih=>intro H h;simp only [Qe,Jp] at ih|-;exact ih (h.kill k 0)
structure Cw (σ τ:Type) where
 A:σ->List LV
 B:σ->List AB
 g:List LV->List AB->σ
 E:σ->Prop
 kl:List Nat
 us:List Up
 V:τ->LV
 C:τ->List AB
 r:σ->τ
namespace Cw
variable {D : Cw σ τ}
def m (D:Cw σ τ) (args:List LV) (H:List AB):T (LV×List AB):=(Uk (Qe D.kl H) args).bind λa=>(aN (Qe D.kl H) (Qe D.kl H)).bind λb=>
 .req (D.E (D.g a b)/\D.A (D.g a b)=a/\D.B (D.g a b)=b) (.ok (D.V (D.r (D.g a b)),D.C (D.r (D.g a b))))
def di {args:List LV}{H:List AB}{q:LV×List AB}(h:(D.m args H).all (λz=>z=q)):∃s,D.E s/\D.A s=args/\D.B s=Qe D.kl H/\q=(D.V (D.r s),D.C (D.r s)):=by
 obtain ⟨a,h1,h2⟩:=T.Ay h;obtain ⟨b,h3,h4⟩:=T.Ay h2
 have e1:=cJ h1
 have e2:=o5 h3
 obtain ⟨⟨g1,g3,g4⟩,g5⟩:=h4;exact ⟨_,g1,g3.trans e1,g4.trans e2,g5.symm⟩
def sound {LL:DI}{K:Hand}{c:FuncId}{t:σ->T τ}(hΓ:∀g S,Γ g=some S->Valid P G g S) (hLL:ED P G LL) (hK:F5 P G K)
  (hnf:∀s,((EO P G Γ LL K).k c (D.A s) (D.B s)).bind (λq=>G2 (D.B s).length [0] D.us .normal (q.1::D.A s) q.2)=(t s).mp (λs2=>⟨.normal,(D.A s).length+1,[D.V s2],D.C s2,true⟩))
  (ht:∀s,D.E s->S4 (λs2=>s2=D.r s) (t s)):DU P G c D.m:=λw0 Z0 Z β H w args vals lv H' hW hr hok hq=>by
 obtain ⟨s,h1,h2,h3,h4⟩:=di hq;simp only [Aq] at h4;obtain ⟨rfl,rfl⟩:=h4
 have hall:((t s).mp (λs2=>(⟨.normal,(D.A s).length+1,[D.V s2],D.C s2,true⟩:Vw))).all (λz=>z=⟨.normal,(D.A s).length+1,[D.V (D.r s)],D.C (D.r s),true⟩):=T.X8 (T.BT (λx hx=>by rw [hx]) (ht s h1).out)
 rw [<-hnf s] at hall;obtain ⟨⟨lv1,H1⟩,q1,q2⟩:=T.Ay hall;simp only at q2
 have hWk:RW G w0 Z0 Z β (D.B s) w:=by rw [h3];exact hW.kills D.kl
 have hlen:(D.B s).length=H.length:=by rw [h3,aeW]
 have hsz:vals.size=args.length:=by have:=hr.length;simpa using this
 let a0:Act:={tmps:=vals,defers:=[]}
 have hF0:RF [] β Z w (D.B s).length args a0:=by
  refine ⟨hsz,λt x hx=>?_,rfl,λd hd=>VX⟩
  obtain ⟨y,e1,e2⟩:=RL.get t x hr hx
  have:vals.getD t undef=y:=by
   have e3:t<vals.size:=AA
   have e4:vals[t]? =some y:=by simpa using e1
   rw [PR e3] at e4
   simp [Array.getD,e3,Dw e4]
  refine ⟨?_,by rw [hlen];exact AR.get t x hok hx⟩
  show R β Z w x (vals.getD t undef)
  rw [this];exact e2
 rw [h2] at q1;refine ((mI hΓ hLL hK).k w0 _ Z β (D.B s) w c args vals lv1 H1 (hWk.hold hF0) hr (by rw [hlen];exact hok) q1).mono λe w' ⟨v,he,Z',β',r1,r2,r3⟩=>⟨v,he,?_⟩
 have hF1:=RW.held hF0 r1
 have hF2:RF [] β' Z' w' H1.length (lv1::D.A s) {tmps:=#[v]++vals,defers:=[]}:=by
  refine ⟨by simp [h2,hsz];omega,λt x hx=>?_,rfl,λd hd=>VX⟩
  cases t with
  | zero=>
   simp only [List.getElem?_cons_zero,Ad] at hx;subst hx
   exact ⟨by
    have e:(#[v]++vals).getD 0 undef=v:=aMv
    rw [e];exact r2,r3⟩
  | succ t=>
   rw [h2] at hx
   have:=hF1.get t x hx
   have e:(#[v]++vals).getD (t+1) undef=vals.getD t undef:=by
    have ht:t<vals.size:=AA
    simp [Array.getD,ht,Array.getElem_append,show t+1<1+vals.size by omega]
   grind
 have hgh:AN (D.B s).length Z0:=λp hp=>by rw [hlen];exact (hW.gh p hp).2
 obtain ⟨_,_,Z2,β2,k1,k2⟩:=bJ hgh r1.less hF2 q2 rfl;refine ⟨Z2,β2,k1,?_⟩
 have hx:(HX (lv1::D.A s).length [0] [D.V (D.r s)])[0]? =some (D.V (D.r s)):=by
  simp [HX,Q6,at_]
 have:=k2.get 0 _ hx
 have e:(#[v]++vals).getD 0 undef=v:=aMv
 refine ⟨?_,this.2⟩
 have h5:=this.1
 rwa [e] at h5
end Cw
def EH (n m:Nat):List Nat:=(List.range n).map (·+m)++List.range m
def auH {n m i:Nat}(h:i<n):(EH n m)[i]? =some (i+m):=by
 unfold EH;rw [HN AA]
 simp [h]
def auI {n m i:Nat}(h:i<m):(EH n m)[n+i]? =some i:=by
 unfold EH
 simp [h]
def aG2 {n m:Nat}:(EH n m).length=n+m:=by simp [EH]
def oK {n m k:Nat}:k∈EH n m↔k<n+m:=by
 unfold EH;simp only [Bp,Eg,I3];refine ⟨λh=>?_,λh=>?_⟩
 ·omega
 ·by_cases h1:k<m
  ·grind
  ·exact .inl ⟨k-m,A0,A0⟩
def aD3:∀ {ks:List Nat},ks.Nodup->nodupB ks=true
 | [],_=>rfl
 |k::ks,h=>by
  obtain ⟨h1,h2⟩:=Ly.1 h;simp only [nodupB,AU,D4];exact ⟨AA,aD3 h2⟩
def afr {n m:Nat}:nodupB (EH n m)=true:=by
 apply aD3
 unfold EH;rw [wS];refine ⟨?_,jT,λx hx y hy e=>?_⟩
 ·exact wU _ (λa b (h:a≠b) e=>h AA) (jT (n:=n))
 ·obtain ⟨j,_,rfl⟩:=Eg.1 hx
  have:=I3.1 hy
  omega
def RW.join {w0 w w':World}{Z0:Gz}{Z Z':Nat->Prop}{β β':Nat->Loc}{H Hn:List AB}(hW:RW G w0 Z0 Z β H w) (hS:RW G w ⟨Z,[],[]⟩ Z' β' Hn w'):
  ∃β2,(∀k,k<H.length->β2 k=β k)/\(∃β1,(∀k,k<Hn.length->β1 k=β' k)/\Rn (EH H.length Hn.length) β1 β2)/\RW G w0 Z0 (λb=>Z b\/Z' b) β2 (H++Hn.map (IG (EH H.length Hn.length))) w':=by
 generalize hn:H.length=n;generalize hm:Hn.length=m
 let β1:Nat->Loc:=λk=>if k<m then β' k else β (k-m)
 have hb1:∀k,k<m->β1 k=β' k:=λk hk=>by simp only [β1];rw [AE hk]
 have hb1':∀k,β1 (k+m)=β k:=λk=>AA
 have hD:RW G w ⟨Z,[],[]⟩ Z' β1 (Hn++List.replicate n Fy) w':=hS.acZ (λk hk=>hb1 k (hm▸hk))
 have hget:∀k,k<m->(Hn++List.replicate n Fy)[k]? =Hn[k]? :=λk hk=>HN (hm▸hk)
 have hgetd:∀k,m<=k->k<n+m->(Hn++List.replicate n Fy)[k]? =some Fy:=λk h1 h2=>by
  grind
 have hcl:K0 (Hn++List.replicate n Fy) (EH n m) []=true:=by
  unfold K0;simp only [AU,BL];refine ⟨λx hx=>by simp [ownsL] at hx,λk hk=>?_⟩
  have hk:=oK.1 hk
  by_cases h1:k<m
  ·rw [hget k h1]
   obtain ⟨b,hb⟩:∃b,Hn[k]? =some b:=⟨_,DF (hm▸h1)⟩;rw [hb];simp only [BL];intro j hj
   have:=aE5 (hS.blk k b hb).2 j hj
   rw [ZL,oK];omega
  ·rw [hgetd k A0 hk]
   simp [Fy,AB.owns,ownsL]
 obtain ⟨β2,r1,r2⟩:=hD.ren (N:=0) (Z0:=⟨Z,[],[]⟩) (λp hp=>kZ) hcl afr Bt
 have hag:∀k,k<n->β2 k=β k:=λk hk=>by rw [r1 k (k+m) (auH hk),hb1']
 have hnew:∀i,i<m->((EH n m).map λk=>IG (EH n m) ((Hn++List.replicate n Fy).getD k UN))[n+i]? =(Hn[i]?).map (IG (EH n m)):=λi hi=>by
  rw [DS,auI hi];simp only [JH,Cx,hget i hi];rw [DF (hm▸hi)]
  simp
 refine ⟨β2,hag,⟨β1,hb1,r1⟩,?_⟩
 have hbw:Below w.heap.size w w':=hS.below
 have old:∀i b,(H++Hn.map (IG (EH n m)))[i]? =some b->(i<n/\H[i]? =some b/\β2 i=β i)\/(n<=i/\((EH n m).map λk=>IG (EH n m) ((Hn++List.replicate n Fy).getD k UN))[i]? =some b):=λi b h=>by
  by_cases hi:i<n
  ·rw [HN (hn▸hi)] at h
   exact .inl ⟨hi,h,hag i hi⟩
  ·have hlt:=(Du.1 h).1
   simp only [B0,Fv,hn,hm] at hlt;rw [Fu A0,DS,hn] at h;refine .inr ⟨A0,?_⟩
   have:=hnew (i-n) A0
   rw [show n+(i-n)=i by omega] at this
   rw [this];exact h
 have hlive:∀i b,i<n->β2 i=β i->(live β2 i b↔live β i b):=λi b _ e=>by unfold live;rw [e]
 have hlen:(H++Hn.map (IG (EH n m))).length=n+m:=by simp [hn,hm]
 have hlen2:((EH n m).map λk=>IG (EH n m) ((Hn++List.replicate n Fy).getD k UN)).length=n+m:=by simp [aG2]
 refine ⟨⟨hbw.os.trans hW.below.os,hbw.tape.trans hW.below.tape,hbw.output.trans hW.below.output,G8 hW.below.size hbw.size,λk hk=>?_⟩,λb hz=>?_,λb hz=>?_,λi b hb hl hp=>?_,λi b hb hl hp=>?_,λi b hb hl=>?_,λi j bi bj hi hj li lj pi e=>?_,λi b hb=>?_,?_,λp hp=>?_,λD hD=>?_⟩
 ·rw [hbw.block k (ZH hk hW.below.size)];exact hW.below.block k hk
 ·rcases hz with h|h
  ·exact ZH (hW.BV b h) hbw.size
  ·exact hS.BV b h
 ·rcases hz with h|h
  ·exact hW.ES b h
  ·rcases hS.ES b h with h|h
   ·exact hW.ES b h
   ·exact .inr (G8 hW.below.size h)
 ·rcases old i b hb with ⟨h1,h2,h3⟩ |⟨h1,h2⟩
  ·have hl':=(hlive i b h1 h3).1 hl
   rw [h3];intro hz;rcases hz with h|h
   ·exact hW.Cg i b h2 hl' hp h
   ·rcases hS.ES _ h with h|h
    ·exact hW.Cg i b h2 hl' hp h
    ·have:=hW.lt h2 hl'
     omega
  ·intro hz
   rcases hz with h|h
   ·have h4:=r2.low i b h2 hl
    have:=hW.BV _ h
    omega
   ·exact r2.Cg i b h2 hl hp h
 ·rcases old i b hb with ⟨h1,h2,h3⟩ |⟨h1,h2⟩
  ·rw [h3];exact .inl (hW.G0 i b h2 ((hlive i b h1 h3).1 hl) hp)
  ·exact .inr (r2.G0 i b h2 hl hp)
 ·rcases old i b hb with ⟨h1,h2,h3⟩ |⟨h1,h2⟩
  ·rw [h3];exact hW.low i b h2 ((hlive i b h1 h3).1 hl)
  ·exact G8 hW.below.size (r2.low i b h2 hl)
 ·rcases old i bi hi with ⟨h1,h2,h3⟩ |⟨h1,h2⟩<;>rcases old j bj hj with ⟨g1,g2,g3⟩ |⟨g1,g2⟩
  ·rw [h3,g3] at e
   exact hW.inj i j bi bj h2 g2 ((hlive i bi h1 h3).1 li) ((hlive j bj g1 g3).1 lj) pi e
  ·rw [h3] at e
   have:=hW.lt h2 ((hlive i bi h1 h3).1 li)
   have:=r2.low j bj g2 lj
   omega
  ·rw [g3] at e
   have:=hW.lt g2 ((hlive j bj g1 g3).1 lj)
   have:=r2.low i bi h2 li
   omega
  ·exact r2.inj i j bi bj h2 g2 li lj pi e
 ·rcases old i b hb with ⟨h1,h2,h3⟩ |⟨h1,h2⟩
  ·obtain ⟨q1,q2⟩:=hW.blk i b h2
   refine ⟨BU.keep (n:=H.length) (λk hk=>hag k (hn▸hk)) (λ_ h=> .inl h) (λb hz=>hbw.block b (hW.BV b hz)) h3 (λhl=>hbw.block _ (hW.lt h2 hl)) q2 q1,?_⟩
   rw [hlen]
   exact ⟨AR.mono A0 _ q2.1,by
    have:=q2.2
    cases hk:b.k with
    |mp kd ks vs=>rw [hk] at this;exact AR.mono A0 _ this
    |_=>trivial⟩
  ·obtain ⟨q1,q2⟩:=r2.blk i b h2
   refine ⟨BU.keep (n:=n+m) (λ_ _=>rfl) (λ_ h=> .inr h) (λ_ _=>rfl) rfl (λ_=>rfl) (by rw [hlen2] at q2;exact q2) q1,?_⟩
   rw [hlen];rw [hlen2] at q2;exact q2
 ·exact hW.CV.mono (λ_ h=> .inl h) (λb hz=>hbw.block b (hW.BV b hz))
 ·obtain ⟨q1,q2⟩:=hW.gh p hp
  exact ⟨R.mono (n:=H.length) (λk hk=>hag k (hn▸hk)) (λ_ h=> .inl h) (λb hz=>hbw.block b (hW.BV b hz)) _ _ q2 q1,okV.mono (by rw [hlen];omega) _ q2⟩
 ·obtain ⟨q1,q2⟩:=hW.Ci D hD
  exact ⟨.inl q1,by unfold FU at*;rw [hbw.block D (hW.BV D q1)];exact q2⟩
def QB (S:List LV->T (LV×List AB)) (args:List LV) (H:List AB):T (LV×List AB):=
 if noOwnL args then (S args).bind λq=> .ok (renV (EH H.length q.2.length) q.1,H++q.2.map (IG (EH H.length q.2.length))) else .no
def aDs {g:FuncId}{m:List LV->List AB->T (LV×List AB)}(h:DU P G g m):DU P G g (QB λargs=>m args []):=λw0 Z0 Z β H w args vals lv H' hW hr hok hq=>by
 unfold QB at hq;split at hq
 ·rename_i hno
  obtain ⟨⟨lv1,Hn⟩,h1,h2⟩:=T.Ay hq;obtain ⟨rfl,rfl⟩:=h2
  have hok0:=noOwnL_ok args hno hok
  have hW1:RW G w ⟨Z,[],[]⟩ Z β [] w:=⟨Below.refl _ _,hW.BV,λb hz=> .inl hz,λk b hb=>AA,λk b hb=>AA,λk b hb=>AA,λi j bi bj hb=>AJ,λk b hb=>AA,hW.CV,λp hp=>kZ,λD hD=>(by cases hD)⟩
  refine (h w ⟨Z,[],[]⟩ Z β [] w args vals lv1 Hn hW1 hr hok0 h1).mono λe w' ⟨v,he,Z',β',r1,r2,r3⟩=>⟨v,he,?_⟩
  obtain ⟨β2,a1,⟨β1,a2,a3⟩,a4⟩:=hW.join r1;refine ⟨_,β2,a4,?_,?_⟩
  ·have q:=R.mono (n:=Hn.length) (Z':=λb=>Z b\/Z' b) (w':=w') a2 (λ_ h=> .inr h) (λ_ _=>rfl) _ _ r3 r2
   exact ren_R a3 _ _ (λk hk=>oK.2 aMc) r3 q
  ·have:=ren_ok (ks:=EH H.length Hn.length) _ (λk hk=>oK.2 aMc) r3
   rw [aG2] at this
   grind
 ·cases hq
end Go.Sx
namespace Go.Proofs.YtgmhhjldohjpmaaGreatDoor
set_option maxRecDepth 100000
set_option maxHeartbeats 4000000
open Go.Proofs.Tryz
open Go.Sx
def UY:Nat->Int
 |0=>1
 |1=>1
 |2=>1
 |3=>0
 |4=>2
 |5=>2
 |_=>3
def Wr (j:Nat):Int:=[-1,-1,-1,-1,-1,-1,1,-1,-1,-1,-1,-1,-1,0,-1,-1,-1,-3,-1,2,-1,-1,-1,-1,-1,-1,-3,-1,-1,-1,-1,-1,-1,4,-1,-1,-1,-1,-1,-1,-3,-1,-2,-2,-2,-2,-2,-2,-2,-2,-2,-2,-2,-2,0,1,1,1,1,-3].getD j 0
def aAT:Nat->Int
 |0=>4
 |1=>1
 |2=>1
 |3=>4
 |_=>2
def AT:Av:=fun
 |2=>some (8,λj=> .int .i64 (UY j))
 |0=>some (60,λj=> .int .i64 (Wr j))
 |1=>some (5,λj=> .int .i64 (aAT j))
 |_=>none
structure Bd where
  f:FuncId
  S:List LV->T LV
  v:Valid prog AT f S
def gm:List Bd->Specs
  | [],_=>none
  |b::l,g=>if g=b.f then some b.S else gm l g
def gk:∀(l:List Bd) g S,gm l g=some S->Valid prog AT g S
  | [],_,_,h=>Ah
  | b::l,g,S,h=>by
    simp only [gm] at h;split at h
    · rename_i hg;simp only [Ad] at h;subst h hg;exact b.v
    · exact gk l g S h
structure LBx where
  L:DI
  h:ED prog AT L
structure As where
  K:Hand
  h:F5 prog AT K
structure Db where
  g:FuncId
  m:List LV->List AB->T (LV×List AB)
  c:DU prog AT g m
instance {f:FuncId} {S:List LV->T LV}:CoeOut (Valid prog AT f S) Bd:=⟨λv=>⟨f,S,v⟩⟩
instance:Coe (List Bd) Specs:=⟨gm⟩
instance:Coe As Hand:=⟨As.K⟩
def kN:As:=⟨Fh,Po⟩
def l0 (l:List Bd):LBx:=⟨Dp prog AT (gm l) 20 2,HW (gk l)⟩
def la (id:Nat) {g:FuncId}{N:Nat}{t:List LV->List AB->T (Ex×List LV×List AB)}{fn:Func}{bd:Code}(hfn:prog.funcs[g]? =some fn) (ht:GI prog AT (AN N) (.loop bd) t) (h:LBx) (hc:fn.body=some (fn.body.getD .skip):=by kernel_rfl) (hid:(B6 (fn.body.getD .skip)).filter (λb=>GL b==id)=[bd]:=by kernel_rfl):LBx:=⟨CQ g N id t h.L,DB hfn hc hid ht h.h⟩
def kI (l:List Bd) (h:LBx):As:=⟨inl prog AT (gm l) h.L 9,aBb (gk l) h.h 9⟩
def dm:List Db->Does
  | [],_=>none
  |p::ps,g=>if g=p.g then some p.m else dm ps g
def dk:∀(l:List Db) g m,dm l g=some m->DU prog AT g m
  | [],_,_,e=>SY
  | p::ps,g,m,e=>by
    simp only [dm] at e;split at e
    · rename_i hg;simp only [Ad] at e;subst e hg;exact p.c
    · exact dk ps g m e
def Hu (l:List Bd) (h:LBx) (C:List Db):As:=⟨Ux prog AT (gm l) h.L (dm C) 9,aBM (gk l) h.h (dk C) 9⟩
abbrev VV (f:FuncId) (S:List LV->T LV):=Valid prog AT f S
abbrev SA {σ:Type}(N:Nat) (b:Code) (D:AS σ):=GI prog AT (AN N) (.loop b) D.lp
abbrev uS (fn:Func) (S:List LV->T LV):=Jj prog fn.params.toList S
abbrev lN (c:Code) (k:Nat):Code:=((B6 c)[k]?).getD .skip
abbrev bN (fn:Func) (k:Nat):Code:=lN (fn.body.getD .skip) k
def vo {f:FuncId}{fn:Func}{S:List LV->T LV}(hfn:prog.funcs[f]? =some fn) (l:List Bd) (h:As) (hS:∀args lv,(S args).all (λx=>x=lv)->S4 (λx=>x=lv) (Bc prog AT (gm l) h.K Af fn (canL args))) (hc:fn.body=some (fn.body.getD .skip):=by kernel_rfl) (e:B6 (fn.body.getD .skip)=[]:=by kernel_rfl):Valid prog AT f (Jj prog fn.params.toList S):=mm hfn hc (gk l) h.h (p0 e) (λa v q=>(hS a v q).out)
def vl {f:FuncId}{fn:Func}{S:List LV->T LV}{t:List LV->List AB->T (Ex×List LV×List AB)}{bd:Code}(hfn:prog.funcs[f]? =some fn) (l:List Bd) (h:As) (k:Nat) (sn:Sound prog AT (.loop bd) t) (hS:∀args lv,(S args).all (λx=>x=lv)->S4 (λx=>x=lv) (Bc prog AT (gm l) h.K (λi=>if i=k then t else Af i) fn (canL args))) (hc:fn.body=some (fn.body.getD .skip):=by kernel_rfl) (e:B6 (fn.body.getD .skip)=[bd]:=by kernel_rfl) (hk:GL bd=k:=by kernel_rfl):Valid prog AT f (Jj prog fn.params.toList S):=mm hfn hc (gk l) h.h (L:=λi=>if i=k then t else Af i) (λb hb=>by
  rw [e,Kp] at hb;subst hb
  show Sound _ _ _ (if GL b=k then t else Af (GL b))
  rw [AE hk];exact sn) (λa v q=>(hS a v q).out)
def vm {f:FuncId}{fn:Func}{S:List LV->T LV}{L:LA}(hfn:prog.funcs[f]? =some fn) (l:List Bd) (h:As) (hL:∀b∈B6 (fn.body.getD .skip),Sound prog AT (.loop b) (L (GL b))) (hS:∀args lv,(S args).all (λx=>x=lv)->S4 (λx=>x=lv) (Bc prog AT (gm l) h.K L fn (canL args))) (hc:fn.body=some (fn.body.getD .skip):=by kernel_rfl):Valid prog AT f (Jj prog fn.params.toList S):=mm hfn hc (gk l) h.h hL (λa v q=>(hS a v q).out)
def Aj {t:T LV}(t':T LV) {K:LV->Prop}(h':t'.all K) (h:t=t':=by kernel_rfl):S4 K t:=⟨aDI h h'⟩
def Da {σ:Type}(I:σ->Prop) (mu:σ->Nat) (Q:Ex->σ->σ->Prop) (t:σ->T (Rd σ)):Prop:=∀s,I s->CM (λs'=>I s'/\mu s'<mu s) (λx s'=>Q x s s') ((t s).rd s)
def Rq {σ:Type}(I:σ->Prop) (t:σ->T (Rd σ)):Prop:=∀s,I s->(t s).all (λ_=>True)
def Fi {σ:Type}(E I:σ->Prop) (Q:Ex->σ->σ->Prop) (x:σ->Ex) (r:σ->σ):Prop:=∀s,E s->∃s',I s'/\Q (x s) s' (r s)
def Rs {σ Y:Type}(E:σ->Prop) (x:σ->Ex) (r:σ->σ) (V:σ->Y) (K:Ex->σ->Y->Prop):Prop:=∀s,E s->K (x s) (r s) (V s)
variable {σ : Type} {D : AS σ} {Q : Ex -> σ -> σ -> Prop} {b : Code}
def DL (o:D.Ok) (p:D.Pf Q) {Y:Type}{V:σ->Y}{K:Ex->σ->Y->Prop}(hv:∀s,D.I s->CM (λs'=>V s'=V s) (λx s'=>K x s' (V s)) (D.f s)):Rs D.E D.Am D.run V K:=λs hE=>AS.aAu o p V K hv s hE
def s1 (o:D.Ok) (p:D.Pf Q) (l:List Bd) (h:As) (e:B6 b=[]:=by kernel_rfl) (hn:∀s,fv D.N D.lv D.us (DC prog AT (gm l) h.K (Li Af) b (HX D.n D.lv (D.A (D.rd s))) (D.B (D.rd s)))=(D.t (D.rd s)).mp (rdV D.n D.A D.B):=by intro s;kernel_rfl):GI prog AT (AN D.N) (.loop b) D.lp:=AS.snd o p (GC (gk l) h.h b (λb hb=>by rw [e] at hb;cases hb)) hn
def s2 (o:D.Ok) (p:D.Pf Q) (l:List Bd) (h:As) (hn:∀s,fv D.N D.lv D.us (DC prog AT (gm l) h.K (Iz prog AT (gm l) h.K 20 2) b (HX D.n D.lv (D.A (D.rd s))) (D.B (D.rd s)))=(D.t (D.rd s)).mp (rdV D.n D.A D.B):=by intro s;kernel_rfl):GI prog AT (AN D.N) (.loop b) D.lp:=AS.snd o p (GC (gk l) h.h b (λb _=>Sf (gk l) h.h 20 2 b)) hn
end Go.Proofs.YtgmhhjldohjpmaaGreatDoor
namespace Go.Proofs.YtgmhhjldohjpmaaGreatDoor
set_option maxRecDepth 100000
set_option maxHeartbeats 4000000
open Go.Proofs.Tryz
open Go.Sx
def aRO:List LV->T LV
 | [.v (.int .i64 r),.v (.int .i64 m)]=> .req ((0<=r/\r<=1000000)/\0<=m/\m<=3000000) (.ok (.v (.int .i64 (m*r / 1000000))))
 |_=> .no
def acS:List Bd:=[]
def ahT:=vo (S:=aRO) func106 acS kN (λargs lv h=>by
 unfold aRO at h;split at h
 ·rename_i r m
  refine Aj (.req ((1000000:Int)≠0) (.ok (A9 ((A9 (m*r)).tdiv 1000000)))) ?_;obtain ⟨⟨hr,hm⟩,rfl⟩:=h
  have h1:=alT (a:=m) (b:=r) hm.1 hm.2 hr.1 hr.2
  have h2:0<=m*r / 1000000/\m*r / 1000000<=m*r:=A0
  refine ⟨A0,Ax (λz=>LV.v (.int .i64 z)) ?_⟩
  rw [AI (x:=m*r),HM h1.1,AI]
 ·cases h)
def aHH:List LV->T LV
 | [.v (.int .i64 n)]=> .ok (inB n 0 1000000)
 |_=> .no
def aIz:=vo (S:=aHH) func105 acS kN (λargs lv h=>by
 unfold aHH at h;split at h
 ·rename_i n
  refine Aj (.ok (.v (.bool ((decide (n>=0))&&(decide (n<=1000000)))))) ?_;exact h
 ·cases h)
structure P9 where
 (low high r n:Int)
def eu (s:P9):T (Rd P9):=letI a:=A9 (s.low+(A9 ((A9 (s.high-s.low)).tdiv 2)));.br (decide (s.low<s.high)) (.req ((2:Int)≠0) (.req ((0<=s.r/\s.r<=1000000)/\0<=a/\a<=3000000) (.br (decide ((a*s.r / 1000000)>=s.n)) (.nx {s with high:=a}) (.nx {s with low:=A9 (a+1)})))) (.so (.exit 0) s)
def ij (s:P9):Prop:=s.low=0/\s.high=2*s.n+2/\s.r=999800/\0<=s.n/\s.n<=1000000
def Yk (s:P9):Prop:=(0<=s.low/\s.low<=wt s.n)/\(wt s.n<=s.high/\s.high<=2*s.n+2)/\s.r=999800/\0<=s.n/\s.n<=1000000
def dW (s:P9):Nat:=(s.high-s.low).toNat
def zP (x:Ex) (s s':P9):Prop:=x=.exit 0/\s'.low=wt s'.n
def ajK:∀s,ij s->Yk s:=by
 rintro s ⟨h0,h1,h2,h3,h4⟩
 have:=aaZ h3
 exact xM
def axa:Da Yk dW zP eu:=by
 intro s hI;unfold eu;dsimp only [T.rd,T.rl,T.rv];obtain ⟨⟨h0,h1⟩,⟨h2,h3⟩,h4,h5,h6⟩:=hI;refine AG (λc1=>?_) (λc1=>?_)
 ·have c1:s.low<s.high:=AO
  have hd:(s.high-s.low).tdiv 2=(s.high-s.low) / 2:=HM A0
  have hm:A9 (s.low+A9 ((A9 (s.high-s.low)).tdiv 2))=s.low+(s.high-s.low) / 2:=by
   rw [AI (x:=s.high-s.low),hd,AI (x:=(s.high-s.low) / 2),AI]
  rw [hm];refine AG (λc2=>?_) (λc2=>?_)
  ·rw [AY,h4,aIr] at c2
   exact ⟨⟨⟨h0,h1⟩,⟨AP,AP⟩,h4,h5,h6⟩,by simp only [dW];omega⟩
  ·rw [Cl,h4,aIr] at c2
   rw [AI (x:=s.low+(s.high-s.low) / 2+1)];exact ⟨⟨⟨AP,AP⟩,⟨h2,h3⟩,h4,h5,h6⟩,by simp only [dW];omega⟩
 ·have c1:s.high<=s.low:=AO
  exact SQ
def Ya:AS P9:=⟨3,24,[0,1,2],[],λs=>[s.low,s.high,.fn 208 [.own 1 0,.own 0 0,.own 2 0]],λs=>[⟨[s.r],217,.cl,false⟩,⟨[.fn 106 []],293,.cl,false⟩,⟨[s.n],3,.cl,false⟩],λv b=>⟨AK v 0,AK v 1,Ae b 0 0,Ae b 2 0⟩,eu,λs r=> {r with r:=s.r,n:=s.n},λs=>s,λ_ s=>s,[.exit 0],ij,Yk,dW⟩
abbrev aGI:=Ya.run
abbrev arv:=Ya.Am
def Ta:List Bd:=[aIz,ahT]
def akc:As:=kI Ta (l0 Ta)
def avc:Rq Yk eu:=by
 intro s hI;refine ⟨λc1=>⟨?_,?_,λ_=>trivial,λ_=>trivial⟩,λ_=>trivial⟩
 all_goals ((obtain ⟨⟨h0,h1⟩,⟨h2,h3⟩,h4,h5,h6⟩:=hI;simp only [AY] at c1;first|decide|(have hd:(s.high-s.low).tdiv 2=(s.high-s.low) / 2:=HM A0;have hm:A9 (s.low+A9 ((A9 (s.high-s.low)).tdiv 2))=s.low+(s.high-s.low) / 2:=(by rw [AI (x:=s.high-s.low),hd,AI (x:=(s.high-s.low) / 2),AI]);rw [hm];omega)))
def aPm:Ya.Ok:={}
def aO9:Ya.Pf (zP):=⟨ajK,λs h=>rfl,axa,avc⟩
def apJ:=s2 (b:=bN f207 0) aPm aO9 Ta akc
def aqu:Fi ij Yk zP arv aGI:=AS.fin aPm aO9
def aIU:List LV->T LV
 | [.v (.int .i64 n)]=> .tu #[wtA n,wtE n]
 |_=> .no
def akb:As:=kI Ta (la 1 func207 apJ (l0 Ta))
def atF:=vo (S:=aIU) func127 Ta akb (λargs lv h=>by
 unfold aIU at h;split at h
 ·rename_i n
  refine Aj (.br (!(inB n 0 1000000)) (.tu #[(0:Int),(1:Int)]) (.req (Ya.q (⟨0,(A9 ((A9 (2*n))+2)),999800,n⟩:P9)) (.tu #[(aGI (⟨0,(A9 ((A9 (2*n))+2)),999800,n⟩:P9)).low,(0:Int)]))) ?_;obtain rfl:=h;refine ⟨λc=>?_,λc=>?_⟩
  ·have c:inB n 0 1000000=false:=ntW c
   unfold wtA wtE;rw [c];rfl
  ·have c:inB n 0 1000000=true:=nfW c
   have hb:=CU.1 c
   have hE:ij ⟨0,A9 (A9 (2*n)+2),999800,n⟩:=⟨rfl,by
    show A9 (A9 (2*n)+2)=2*n+2
    rw [AI (x:=2*n),AI],rfl,hb.1,hb.2⟩
   obtain ⟨_,_,_,q⟩:=aqu _ hE;refine ⟨⟨hE,rfl,rfl⟩,?_⟩;rw [q];unfold wtA wtE;rw [AE c,AE c];exact rfl
 ·cases h)
def aRh:List LV->T LV
 | [.v (.int .i64 n),.v (.int .i64 a),.v (.int .i64 b)]=> .ok (inB n a b)
 |_=> .no
def acR:List Bd:=[]
def vH:=vo (S:=aRh) func87 acR kN (λargs lv h=>by
 unfold aRh at h;split at h
 ·rename_i n a b
  refine Aj (.ok (.v (.bool ((decide (n>=a))&&(decide (n<=b)))))) ?_;exact h
 ·cases h)
def aIB:List LV->T LV
 | [.v (.agg ⟨[.int .i64 nu,.int .i64 co,.int .i64 am,.int .i64 fr,.int .i64 tk]⟩)]=> .ok (D7 (nu,co,am,fr,tk))
 |_=> .no
def akP:List Bd:=[vH]
def aIx:=vo (S:=aIB) func125 akP kN (λargs lv h=>by
 unfold aIB at h;split at h
 ·rename_i nu co am fr tk
  refine Aj (.ok (.v (.bool ((inB nu (1:Int) (1000000:Int))&&((inB co (0:Int) (15:Int))&&((inB am (0:Int) (80:Int))&&((inB fr (0:Int) (1000000:Int))&&(inB tk (1:Int) (1000:Int))))))))) ?_;exact h
 ·cases h)
def aRi:List LV->T LV
 | [.v (.agg ⟨[.int .i64 nu,.int .i64 co,.int .i64 am,.int .i64 fr,.int .i64 tk]⟩),.v (.agg ⟨[.int .i64 nu2,.int .i64 co2,.int .i64 am2,.int .i64 fr2,.int .i64 tk2]⟩)]=> .ok (Jd (nu,co,am,fr,tk) (nu2,co2,am2,fr2,tk2))
 |_=> .no
def aam:=vo (S:=aRi) func126 acR kN (λargs lv h=>by
 unfold aRi at h;split at h
 ·rename_i nu co am fr tk nu2 co2 am2 fr2 tk2
  refine Aj (.ok (.v (.bool ((decide (nu2>nu))&&(decide (fr2>=fr)))))) ?_;exact h
 ·cases h)
def aIC:List LV->T LV
 | [.v (.agg ⟨[.int .i64 nu,.int .i64 co,.int .i64 am,.int .i64 fr,.int .i64 tk]⟩)]=> .req ((0<=fr/\fr<=1000000)/\0<=tk/\tk<=1000000) (.ok (PJ (nu,co,am,fr,tk)))
 |_=> .no
def akO:List Bd:=[atF]
def aIy:=vo (S:=aIC) func88 akO kN (λargs lv h=>by
 unfold aIC at h;split at h
 ·rename_i nu co am fr tk
  refine Aj (.br ((wtE tk) !=0) (.ok fr) (.ok (A9 ((A9 (fr+10))+(wtA tk))))) ?_;obtain ⟨⟨hf,ht⟩,rfl⟩:=h
  have c:=CU.2 ht
  have hw:=aaZ ht.1
  have ea:wtA tk=wt tk:=by unfold wtA;rw [AE c]
  have ee:wtE tk=0:=by unfold wtE;rw [AE c]
  rw [ea,ee,AI (x:=fr+10),AI];exact ⟨λh=>Ah,λ_=>rfl⟩
 ·cases h)
structure Nb where
 l:List Le
 r:Bool
 m:List Le
 (n i:Int)
def aEO:=bN f86 0
def ep (s:Nb):T (Rd Nb):=
 .br (decide (s.i<s.n)) (.ix s.i (s.m.length) (.br (!(D7 (An s.m s.i))) (.so (.ret) {s with r:=false}) (.br (decide (s.i>0)) (.ix (A9 (s.i-1)) (s.l.length) (.br (!(Jd (An s.l (A9 (s.i-1))) (An s.m s.i))) (.so (.ret) {s with r:=false}) (.nx {s with i:=A9 (s.i+1)}))) (.nx {s with i:=A9 (s.i+1)})))) (.so (.exit 0) s)
def ig (s:Nb):Prop:=s.i=0/\s.n=(s.l.length:Int)/\s.n<=1000/\s.m=s.l
def Yj (s:Nb):Prop:=(0<=s.i/\s.i<=s.n)/\s.n=(s.l.length:Int)/\s.n<=1000/\s.m=s.l/\∀j:Nat,(j:Int)<s.i->GW s.l j=true
def dV (s:Nb):Nat:=(s.n-s.i).toNat
def zO (x:Ex) (s s':Nb):Prop:=(x=.exit 0/\∀j:Nat,(j:Int)<s'.n->GW s'.l j=true)\/(x=.ret/\s'.r=false/\∃j:Nat,(j:Int)<s'.n/\GW s'.l j=false)
def ajJ:∀s,ig s->Yj s:=by
 rintro s ⟨h0,h2,h3,h4⟩
 exact ⟨A0,h2,h3,h4,λj hj=>A0⟩
def axU:Da Yj dV zO ep:=by
 intro s hI;unfold ep;obtain ⟨⟨h0,h1⟩,h2,h3,h4,hA⟩:=hI;refine AG (λc1=>?_) (λc1=>?_)
 ·refine AG (λc2=>?_) (λc2=>?_)
  ·have c1:s.i<s.n:=AO
   rw [h4] at c2;refine .inr ⟨rfl,rfl,s.i.toNat,AP,?_⟩;rw [BQ h0];unfold GW;rw [ntW c2];rfl
  ·refine AG (λc3=>?_) (λc3=>?_)
   ·refine AG (λc4=>?_) (λc4=>?_)
    ·have c1:s.i<s.n:=AO
     rw [h4] at c2
     have c3:0<s.i:=My
     rw [AI (x:=s.i-1),h4] at c4;refine .inr ⟨rfl,rfl,s.i.toNat,AP,?_⟩;rw [BQ h0];unfold GW;rw [nfW c2,I1 A0,ntW c4];rfl
    ·have c1:s.i<s.n:=AO
     rw [h4] at c2
     have c3:0<s.i:=My
     rw [AI (x:=s.i-1),h4] at c4
     have hg:GW s.l s.i=true:=by unfold GW;rw [nfW c2,I1 A0,nfW c4];rfl
     rw [AI (x:=s.i+1)]
     exact ⟨⟨⟨AP,AP⟩,h2,h3,h4,λj hj=>by
      by_cases e:(j:Int)<s.i
      ·exact hA j e
      ·have e:(j:Int)=s.i:=kS
       show GW s.l j=true
       rw [e];exact hg⟩,by simp only [dV];omega⟩
   ·have c1:s.i<s.n:=AO
    rw [h4] at c2
    have hg:GW s.l s.i=true:=by unfold GW;rw [nfW c2,Cs kM];rfl
    rw [AI (x:=s.i+1)]
    exact ⟨⟨⟨AP,AP⟩,h2,h3,h4,λj hj=>by
     by_cases e:(j:Int)<s.i
     ·exact hA j e
     ·have e:(j:Int)=s.i:=kS
      rw [e];exact hg⟩,by simp only [dV];omega⟩
 ·have c1:s.n<=s.i:=AO
  exact .inl ⟨rfl,λj hj=>hA j A0⟩
def RE:AS Nb:=⟨0,33,[0,2,8,9,10],[],λs=>[s.l,s.r,s.m,s.n,s.i],λ_=>[],λv b=>⟨Az AX v 0,Eb v 1,Az AX v 2,AK v 3,AK v 4⟩,ep,λs r=> {s with r:=r.r,i:=r.i},λs=>s,λ_ s=>s,[.ret,.exit 0],ig,Yj,dV⟩
abbrev aGH:=RE.run
abbrev aGs:=RE.Am
def avb:Rq Yj ep:=by
 intro s hI;refine ⟨λc1=>⟨?_,λ_=>trivial,λc2=>⟨λc3=>⟨?_,λ_=>trivial,λ_=>trivial⟩,λ_=>trivial⟩⟩,λ_=>trivial⟩
 all_goals ((obtain ⟨⟨h0,h1⟩,h2,h3,h4,hA⟩:=hI;simp only [AY] at c1;have hl:s.m.length=s.l.length:=Ax List.length h4;first|omega|(simp only [AY,gt_iff_lt] at c3;rw [AI (x:=s.i-1)];omega)))
def acQ:List Bd:=[aIx,aam]
def aPl:RE.Ok:={}
def aO8:RE.Pf (zO):=⟨ajJ,λs h=>rfl,axU,avb⟩
def apI:SA 0 aEO RE:=s1 aPl aO8 acQ kN
def aqs:Fi ig Yj zO aGs aGH:=AS.fin aPl aO8
def aI7:List LV->T LV
 | [.xl (.pair (.int .i64) (.pair (.int .i64) (.pair (.int .i64) (.pair (.int .i64) (.int .i64))))) l]=> .ok (BG l)
 |_=> .no
def Wg:=vm (S:=aI7) func86 acQ kN (L:=(λi=>if i=4 then RE.lp else Af i)) (λb hb=>by
 rw [show B6 _=[aEO] by rfl] at hb
 simp only [B1,Bv,Bw] at hb;subst hb;exact apI) (λargs lv h=>by
 unfold aI7 at h;split at h
 ·rename_i l
  refine Aj (letI a:=(l.length:Int);.br (decide (a>64)) (.ok false) (.req (RE.q (⟨l,false,l,a,0⟩:Nb)) (.br (Bo (aGs (⟨l,false,l,a,0⟩:Nb)) (.ret)) (.ok (aGH (⟨l,false,l,a,0⟩:Nb)).r) (.ok true)))) ?_;obtain rfl:=h;refine ⟨λc=>Ax (λz=>LV.v (.bool z)) ?_,λc=>?_⟩
  ·have c:64<(l.length:Int):=AA
   unfold BG;rw [I1 A0];rfl
  ·have c:(l.length:Int)<=64:=AA
   have hE:ig ⟨l,false,l,(l.length:Int),0⟩:=⟨rfl,rfl,AA,rfl⟩
   refine ⟨⟨hE,rfl,rfl⟩,?_⟩;obtain ⟨_,_,hq⟩:=aqs _ hE;rcases hq with ⟨q1,q2⟩ |⟨q1,q2,j,q3,q4⟩<;>rw [q1]
   ·have e:Dc l.length (GW l)=true:=EB.2 (λj hj=>q2 j (by show (j:Int)<(l.length:Int);omega))
    unfold BG;rw [Cs A0,e];exact ⟨λh=>Ah,λ_=>rfl⟩
   ·have e:Dc l.length (GW l)=false:=Q3 j (by have q3:(j:Int)<(l.length:Int):=q3;omega) q4
    rw [q2];unfold BG;rw [Cs A0,e];exact ⟨λ_=>rfl,λh=>Ah⟩
 ·cases h)
structure Om where
 tick:Int
 l:List Le
 (n i:Int)
 out:List Le
def aEV:=bN f61 0
def vY (s:Om):T (Rd Om):=letI a:=An s.l s.i;.br (decide (s.i<s.n)) (.ix s.i (s.l.length) (.req ((0<=a.2.2.2.1/\a.2.2.2.1<=1000000)/\0<=a.2.2.2.2/\a.2.2.2.2<=1000000) (.br (decide ((PJ a)>s.tick)) (.rb (s.out.length) (List.length ([a])) 40 (.re (s.out.length+List.length ([a])) (s.out++([a])) (.nx {s with i:=A9 (s.i+1),out:=s.out++([a])}))) (.rl s.out (.nx {s with i:=A9 (s.i+1)}))))) (.rl s.out (.so (.exit 0) s))
def iz (s:Om):Prop:=s.i=0/\s.out=[]/\s.n=(s.l.length:Int)/\s.n<=1000/\∀x∈s.l,D7 x=true
def Yp (s:Om):Prop:=(0<=s.i/\s.i<=s.n)/\s.out=(s.l.take s.i.toNat).filter (Mg s.tick)/\s.n=(s.l.length:Int)/\s.n<=1000/\∀x∈s.l,D7 x=true
def tN (s:Om):Nat:=(s.n-s.i).toNat
def zR (x:Ex) (s s':Om):Prop:=x=.exit 0/\s'.out=s'.l.filter (Mg s'.tick)
def ak2:∀s,iz s->Yp s:=by
 rintro s ⟨h0,h1,h2⟩
 exact ⟨A0,HR,h2⟩
def azh:Da Yp tN zR vY:=by
 intro s hI;obtain ⟨⟨h0,h1⟩,hA,h2,h3,h4⟩:=hI;refine AG (λc1=>?_) (λc1=>?_)
 ·have c1:s.i<s.n:=AO
  have e:=(W4 h0 (show s.i<s.l.length by omega)).2
  rw [AI (x:=s.i+1)];refine AG (λc2=>?_) (λc2=>?_)
  all_goals
   refine ⟨⟨⟨AA,AP⟩,?_,h2,h3,h4⟩,by simp only [tN];omega⟩
   simp only
   have c2:Mg s.tick (An s.l s.i)=_:=c2
   rw [e,V4,hA,Kn,c2]
   simp
 ·have c1:s.n<=s.i:=AO
  refine ⟨rfl,?_⟩;rw [hA,D3 A0]
def RS:AS Om:=⟨0,33,[1,6,17,18,19],[.nl 6 114 AX],λs=>[s.tick,.os 0 5 0 (s.out.length),s.l,s.n,s.i],λs=>[bV 114 AX s.out],λv b=>⟨AK v 0,Az AX v 2,AK v 3,AK v 4,Ab AX b 0⟩,vY,λs r=> {s with i:=r.i,out:=r.out},λs=>s,λ_ s=>s,[.exit 0],iz,Yp,tN⟩
abbrev aBU:=RS.run
abbrev as6:=RS.Am
def avm:Rq Yp vY:=by
 intro s hI;refine ⟨λc1=>⟨?_,?_,λc2=>⟨?_,?_,trivial⟩,λc2=>⟨A8,trivial⟩⟩,λc1=>⟨A8,trivial⟩⟩
 all_goals ((obtain ⟨⟨h0,h1⟩,hA,h2,h3,h4⟩:=hI;simp only [AY] at c1;have hv:=Q1.1 (h4 _ (OT h0 (show s.i<s.l.length by omega)));have hl:s.out.length<=s.i.toNat:=AA;first|omega|(refine ⟨A0,?_,?_⟩<;>simp only [BX,Bh]<;>omega) |exact ⟨rfl,AJ⟩))
def acP:List Bd:=[Wg,vH,aIy]
def aPv:RS.Ok:={}
def aNj:RS.Pf (zR):=⟨ak2,λs h=>rfl,azh,avm⟩
def aoV:SA 0 aEV RS:=s1 aPv aNj acP kN
def aqF:Fi iz Yp zR as6 aBU:=AS.fin aPv aNj
def aHM:List LV->T LV
 | [.xl (.pair (.int .i64) (.pair (.int .i64) (.pair (.int .i64) (.pair (.int .i64) (.int .i64))))) l,.v (.int .i64 t)]=> .ok (.AM [Bj l t,DN l t])
 |_=> .no
def th:=uS f61 aHM
def cz:VV 61 th:=vm func61 acP kN (L:=(λi=>if i=5 then RS.lp else Af i)) (λb hb=>by
 rw [show B6 _=[aEV] by kernel_rfl] at hb
 simp only [B1,Bv,Bw] at hb;subst hb;exact aoV) (λargs lv h=>by
 unfold aHM at h;split at h
 ·rename_i l t
  refine Aj (letI a:=(aBU (⟨t,l,(l.length:Int),(0:Int),([]:List Le)⟩:Om));.br ((!(BG l)) ||(!(inB t (0:Int) (1100000:Int)))) (.ok (.AM [.xl AX ([]:List Le),(1:Int)])) (.r0 Le (.req (RS.q (⟨t,l,(l.length:Int),(0:Int),([]:List Le)⟩:Om)) (.rz a.out (.ok (.AM [((a.out.drop 0).take (List.length a.out)),(0:Int)])))))) ?_;obtain rfl:=h;refine ⟨λc=>?_,λc=>?_⟩
  ·have c:Nw l t=false:=aMM
   unfold Bj DN;rw [c];rfl
  ·have c:Nw l t=true:=aMM
   have hv:BG l=true:=AA
   have hl:=Ib hv
   have hE:iz ⟨t,l,(l.length:Int),0,[]⟩:=⟨rfl,rfl,rfl,AP,hl.2⟩
   obtain ⟨_,_,q1,q2⟩:=aqF _ hE
   have q2:(aBU ⟨t,l,(l.length:Int),0,[]⟩).out=l.filter (Mg t):=q2
   refine ⟨A8,⟨hE,rfl,rfl⟩,A0,?_⟩
   show LV.AM [LV.xl _ _,_]=_
   unfold Bj DN
   grind
 ·cases h)
structure Nr where
 l:List Le
 (bu tick e:Int)
 m:List Le
 (k i:Int)
def aEB:=bN f81 0
def fZ (s:Nr):T (Rd Nr):=
 .br (decide (s.i<s.k)) (.ix s.i (s.m.length) (.br (decide ((An s.m s.i).2.1>=s.bu)) (.so (.ret) {s with e:=(1:Int)}) (.nx {s with i:=A9 (s.i+1)}))) (.so (.exit 0) s)
def iO (s:Nr):Prop:=s.i=0/\s.k=(s.m.length:Int)/\s.k<=1000
def Z6 (s:Nr):Prop:=(0<=s.i/\s.i<=s.k)/\s.k=(s.m.length:Int)/\s.k<=1000/\∀x∈s.m.take s.i.toNat,x.2.1<s.bu
def td (s:Nr):Nat:=(s.k-s.i).toNat
def ze (x:Ex) (s s':Nr):Prop:=(x=.exit 0/\below s'.bu s'.m=true)\/(x=.ret/\s'.e=1/\below s'.bu s'.m=false)
def akz:∀s,iO s->Z6 s:=by
 rintro s ⟨h0,h1,h2⟩
 exact ⟨A0,h1,h2,by rw [h0];intro x hx;cases hx⟩
def agt:Da Z6 td ze fZ:=by
 intro s hI;unfold fZ;dsimp only [T.rd,T.rl,T.rv];obtain ⟨⟨h0,h1⟩,h2,h3,h4⟩:=hI;refine AG (λc1=>?_) (λc1=>?_)
 ·have c1:s.i<s.k:=AO
  refine AG (λc2=>?_) (λc2=>?_)
  ·refine .inr ⟨rfl,rfl,?_⟩
   unfold below;rw [List.all_eq_false];exact ⟨An s.m s.i,OT h0 AP,D8⟩
  ·rw [AI (x:=s.i+1)]
   refine ⟨⟨⟨AP,AP⟩,h2,h3,λx hx=>?_⟩,by simp only [td];omega⟩
   rw [(W4 h0 AP).2,Bp,Kp] at hx;rcases hx with hx|rfl
   ·exact h4 x hx
   ·simpa using c2
 ·have c1:s.k<=s.i:=AO
  refine .inl ⟨rfl,?_⟩;rw [D3 A0] at h4;unfold below;rw [BL];exact λx hx=>Cs (h4 x hx)
def Rc:AS Nr:=⟨0,48,[0,1,2,6,7,26,27,28],[],λs=>[s.l,s.bu,s.tick,.v (.slice none 0 0),s.e,s.m,s.k,s.i],λ_=>[],λv b=>⟨Az AX v 0,AK v 1,AK v 2,AK v 4,Az AX v 5,AK v 6,AK v 7⟩,fZ,λs r=> {s with e:=r.e,i:=r.i},λs=>s,λ_ s=>s,[.ret,.exit 0],iO,Z6,td⟩
abbrev aFk:=Rc.run
abbrev aH1:=Rc.Am
def ax4:Rq Z6 fZ:=by
 exact aKZ
def Qm:List Bd:=[Wg,vH,aIy]
def aan:As:=kI Qm (l0 Qm)
def aPe:Rc.Ok:={}
def aPF:Rc.Pf (ze):=⟨akz,λs h=>rfl,agt,ax4⟩
def aol:SA 0 aEB Rc:=s1 aPe aPF Qm aan
def asZ:Fi iO Z6 ze aH1 aFk:=AS.fin aPe aPF
def vL:Array Tmp×Code×Code:=((Ia (f81.body.getD .skip))[0]?).getD (#[],.skip,.skip)
def ai7:Array Tmp:=vL.1
def ajZ:Code:=vL.2.1
def ajR:Code:=vL.2.2
structure NP where
 m:List Le
 (k i:Int)
 o:List Int
 q:List Le
 t:Int
 st:LS
def Tp (s:NP):T (Rd NP):=letI b:=An s.m s.i;letI c:=s.o.getD b.2.1.toNat (Ty.dflt A7);letI a:=s.o.set b.2.1.toNat (if c<b.2.2.1 then b.2.2.1 else c);.br (decide (s.i<s.k)) (.ix s.i (s.m.length) (.br (decide (b.2.2.2.1>s.t)) (.rl s.o (.so (.exit 0) s)) (.req ((0<=b.2.2.2.1/\b.2.2.2.1<=1000000)/\0<=b.2.2.2.2/\b.2.2.2.2<=1000000) (.br (decide ((PJ b)<=s.t)) (.rl s.o (.nx {s with i:=A9 (s.i+1)})) (.ik b.2.1 (s.o.length) (.ik b.2.1 (s.o.length) (.re (s.o.length) a (.nx {s with i:=A9 (s.i+1),o:=a})))))))) (.rl s.o (.so (.exit 0) s))
def iN (s:NP):Prop:=s.st=.ready/\s.i=0/\s.k=(s.m.length:Int)/\s.k<=1000/\(∀x∈s.m,D7 x=true/\x.2.1<(s.o.length:Int))/\s.m.Pairwise (λa b=>a.1<b.1/\a.2.2.2.1<=b.2.2.2.1)
def gq (s:NP):Prop:=s.st=.ready/\(0<=s.i/\s.i<=s.k)/\s.k=(s.m.length:Int)/\s.k<=1000/\(∀x∈s.m,D7 x=true/\x.2.1<(s.o.length:Int))/\s.m.Pairwise (λa b=>a.1<b.1/\a.2.2.2.1<=b.2.2.2.1)
def dg (s:NP):Nat:=(s.k-s.i).toNat
def adF (x:Ex) (s s':NP):Prop:=x=.exit 0
def aky:∀s,iN s->gq s:=by
 rintro s ⟨h0,h1,h2⟩
 exact ⟨h0,A0,h2⟩
def ags:Da gq dg adF Tp:=by
 intro s hI;unfold Tp;dsimp only [T.rd,T.rl,T.rv];obtain ⟨hs,⟨h0,h1⟩,h2,h3,h4,h5⟩:=hI;refine AG (λc1=>?_) (λc1=>rfl)
 have c1:s.i<s.k:=AO
 rw [AI (x:=s.i+1)];refine AG (λc2=>rfl) (λc2=>AG (λc3=>?_) (λc3=>?_))
 ·exact ⟨⟨hs,⟨AP,AP⟩,h2,h3,h4,h5⟩,by simp only [dg];omega⟩
 ·exact ⟨⟨hs,⟨AP,AP⟩,h2,h3,λx hx=>by simp only [Br];exact h4 x hx,h5⟩,by simp only [dg];omega⟩
def Yf:AS NP:=⟨6,27,[0,2,6,7,8],[],λs=>[.CN 5,.own 4 0,s.m,s.k,s.i],λs=>[bV 3 A7 s.o,⟨[.os 0 1 0 (s.o.length)],29,.cl,false⟩,⟨[.fn 118 [.own 1 0]],171,.cl,false⟩,⟨[s.q],33,.cl,false⟩,⟨[s.t],3,.cl,false⟩,⟨[.junk,.junk,.junk,.junk,.junk,.junk,.junk,.junk,.junk,.junk,.junk,.own 2 0,.junk,.junk,.junk,.junk,.junk,.junk,.junk,.junk,.junk,.junk,.junk,.junk,.junk,.junk,.junk,.junk,.junk,.junk,.junk,.junk,.junk,.junk,.junk,.junk,.junk,.junk,.junk,.junk,.junk,.junk,.junk,.junk,.junk,.junk,.junk,.junk],0,.Cc ai7 ajZ ajR s.st,false⟩],λv b=>⟨Az AX v 2,AK v 3,AK v 4,Ab A7 b 0,AF AX b 3 0,Ae b 4 0,.ready⟩,Tp,λs r=> {r with m:=s.m,k:=s.k,q:=s.q,t:=s.t,st:=s.st},λs=> {s with st:=.ready},λx s=> {s with st:=(match x with| .exit 0=> .ready|_=> .ready)},[.exit 0],iN,gq,dg⟩
abbrev aBW:=Yf.run
abbrev arM:=Yf.Am
def ax2:Rq gq Tp:=by
 intro s hI;refine ⟨λc1=>⟨?_,λc2=>⟨A8,trivial⟩,λc2=>⟨?_,λc3=>⟨A8,trivial⟩,λc3=>⟨?_,?_,?_,?_,?_,trivial⟩⟩⟩,λc1=>⟨A8,trivial⟩⟩
 all_goals ((obtain ⟨hs,⟨h0,h1⟩,h2,h3,h4,h5⟩:=hI;simp only [AY] at c1;have hv:=(h4 _ (OT h0 (show s.i<s.m.length by omega))).2;have hl:=Q1.1 (h4 _ (OT h0 (show s.i<s.m.length by omega))).1;first|omega|exact ⟨rfl,AJ⟩))
def aPd:Yf.Ok:={}
def aPE:Yf.Pf (adF):=⟨aky,λs h=>by
 obtain ⟨m,k,i,o,q,t,st⟩:=s
 have e:st=.ready:=h.1
 subst e;rfl,ags,ax2⟩
def aok:=s2 (b:=bN f162 0) aPd aPE Qm aan
def asY:Rs iN arM aBW (λs:NP=>((s.m.drop s.i.toNat).filter (Rx s.t)).foldl kpA s.o) (λx s' (v:List Int)=>x=.exit 0/\s'.o=v):=DL aPd aPE (λs hI=>by
  show CM _ _ ((Tp s).rd s)
  unfold Tp;dsimp only [T.rd,T.rl];obtain ⟨hs,⟨h0,h1⟩,h2,h3,h4,h5⟩:=hI;refine AG (λc1=>?_) (λc1=>?_)
  ·have c1:s.i<s.k:=AO
   have e:=(W4 h0 (show s.i<(s.m.length:Int) by omega)).1
   rw [AI (x:=s.i+1)];refine AG (λc2=>?_) (λc2=>AG (λc3=>?_) (λc3=>?_))
   ·refine ⟨rfl,?_⟩
    have c2:(An s.m s.i).2.2.2.1>s.t:=D8
    have hp:(s.m.drop s.i.toNat).Pairwise (λa b=>a.1<b.1/\a.2.2.2.1<=b.2.2.2.1):=List.Pairwise.sublist (List.drop_sublist _ _) h5
    rw [e,ja] at hp;rw [List.filter_eq_nil_iff.2]
    ·rfl
    ·rw [e]
     intro x hx;unfold Rx;rw [I1,O5]
     ·decide
     ·rcases B1.1 hx with rfl|hx
      ·omega
      ·have:=(hp.1 x hx).2
       omega
   ·show List.foldl _ _ _=List.foldl _ _ _
    have c3:PJ (An s.m s.i)<=s.t:=My
    have hb:¬Rx s.t (An s.m s.i)=true:=by
     unfold Rx;rw [I1 (p:=PJ _>_) A0,S7]
     decide
    simp only;rw [e,Kn,AD hb]
   ·show List.foldl _ _ _=List.foldl _ _ _
    have c2:(An s.m s.i).2.2.2.1<=s.t:=D8
    have c3:s.t<PJ (An s.m s.i):=My
    have hb:Rx s.t (An s.m s.i)=true:=by
     unfold Rx;rw [Cs c2,Cs c3];rfl
    simp only;rw [e,Kn,AE hb,Jp];rfl
  ·have c1:s.k<=s.i:=AO
   refine ⟨rfl,?_⟩;rw [EJ A0];rfl)
def aIm:List LV->T LV
 | [.xl (.pair (.int .i64) (.pair (.int .i64) (.pair (.int .i64) (.pair (.int .i64) (.int .i64))))) l,.v (.int .i64 n),.v (.int .i64 t)]=> .ok (.AM [.xl A7 (Gp l n t),KV l n t])
 |_=> .no
def akZ:As:=kI Qm (la 1 func162 aok (l0 Qm))
def Wi:=vm (S:=aIm) func81 Qm akZ (L:=(λi=>if i=4 then Rc.lp else Af i)) (λb hb=>by
 rw [show B6 _=[aEB] by kernel_rfl] at hb
 simp only [B1,Bv,Bw] at hb;subst hb;exact aol) (λargs lv h=>by
 unfold aIm at h;split at h
 ·rename_i l n t
  refine Aj (letI b:=(List.replicate n.toNat (0:Int));letI d:=(l.length:Int);letI a:=(aBW (⟨l,d,0,b,l,t,.ready⟩:NP));.br ((!(BG l)) ||((!(inB n (0:Int) (16:Int))) ||(!(inB t (0:Int) (1100000:Int))))) (.ok (.AM [.xl A7 ([]:List Int),(1:Int)])) (.req (Rc.q (⟨l,n,t,0,l,d,0⟩:Nr)) (.br (Bo (aH1 (⟨l,n,t,0,l,d,0⟩:Nr)) (.ret)) (.ok (.AM [.xl A7 ([]:List Int),(aFk (⟨l,n,t,0,l,d,0⟩:Nr)).e])) (.rm 8 n (.re n.toNat b (.req (Yf.q (⟨l,d,0,b,l,t,.ready⟩:NP)) (.rz a.o (.ok (.AM [.xl A7 ((a.o.drop 0).take (List.length a.o)),(0:Int)]))))))))) ?_;obtain rfl:=h
  have bad:LR l n t=false->LV.AM [.xl A7 ([]:List Int),.v (.int .i64 1)]=LV.AM [.xl A7 (Gp l n t),.v (.int .i64 (KV l n t))]:=λc=>by
   unfold Gp KV;rw [c];rfl
  refine ⟨λc=>bad ?_,λc=>?_⟩
  ·unfold LR
   cases e1:BG l<;>cases e2:inB n 0 16<;>cases e3:inB t 0 1100000<;>simp_all
  have c:(BG l&&(inB n 0 16&&inB t 0 1100000))=true:=by cases e1:BG l<;>cases e2:inB n 0 16<;>cases e3:inB t 0 1100000<;>simp_all
  have c':=c
  rw [AU,AU,CU,CU] at c';obtain ⟨hv,hn,ht⟩:=c'
  have hl:=Ib hv
  have hE:iO ⟨l,n,t,0,l,(l.length:Int),0⟩:=⟨rfl,rfl,AP⟩
  refine ⟨⟨hE,rfl,rfl⟩,?_⟩;obtain ⟨_,_,hq⟩:=asZ _ hE;rcases hq with ⟨q1,q2⟩ |⟨q1,q2,q3⟩<;>rw [q1]
  ·refine ⟨λh=>Ah,λ_=>?_⟩
   have q2:below n l=true:=q2
   have hE2:iN ⟨l,(l.length:Int),0,List.replicate n.toNat 0,l,t,.ready⟩:=⟨rfl,rfl,rfl,AP,λx hx=>⟨hl.2 x hx,by
    have:=De (BL.1 q2 x hx)
    simp only [CR];omega⟩,aD7 hv⟩
   obtain ⟨_,q4⟩:=asY _ hE2
   have q4:(aBW ⟨l,(l.length:Int),0,List.replicate n.toNat 0,l,t,.ready⟩).o=LU n.toNat l t:=q4
   refine ⟨A0,⟨rfl,AJ⟩,⟨hE2,rfl,rfl⟩,A0,?_⟩
   show LV.AM [LV.xl _ _,_]=_
   rw [CJ,Dv,q4];unfold Gp KV LR;rw [c,q2];rfl
  ·have q3:below n l=false:=q3
   rw [q2];exact ⟨λ_=>bad (by unfold LR;rw [q3,S7]),λh=>Ah⟩
 ·cases h)
def aI6:List LV->T LV
 | [.v (.agg ⟨[.string nm,.int .i64 at_,.int .i64 ph,.int .i64 mi,.int .i64 ma,.int .i64 st,.int .i64 fb,.int .i64 ow]⟩)]=> .ok (EF mi ma st)
 |_=> .no
def lJ:List Bd:=[]
def apU (nm:ByteArray) (at_ ph mi ma st fb ow:Int):Bc prog AT (lJ) kN Af f215 [.v (.agg #[.string nm,at_,ph,mi,ma,st,fb,ow])]=.br ((decide (mi<1)) ||((decide (mi>ma)) ||((decide (ma>80)) ||((decide (st<1)) ||(decide (st>80)))))) (.ok (0:Int)) (.req (st≠0) (.ok (A9 ((A9 ((A9 (ma-mi)).tdiv st))+2)))):=AZ
def aty:=vo (S:=aI6) func215 lJ kN (λargs lv h=>by
 refine ⟨?_⟩;unfold aI6 at h;split at h
 ·simp only [canL,canX]
  rw [apU];rename_i mi ma st _ _;obtain rfl:=h;refine ⟨λc=>Ax (λz=>LV.v (.int .i64 z)) ?_,λc=>⟨?_,Ax (λz=>LV.v (.int .i64 z)) ?_⟩⟩
  ·have:DX mi ma st=false:=by
    rw [Hz];intro h;have:=I6.1 h;simp at c;omega
   rw [aE6 this]
  ·simp at c;omega
  ·have hh:DX mi ma st=true:=I6.2 VU
   obtain ⟨h1,h2,h3,h4,h5⟩:=I6.1 hh
   have:=nV (x:=ma-mi) (st:=st) A0 A0
   rw [AI (x:=ma-mi),HM A0,AI (x:=(ma-mi) / st),AI]
   simp [EF,hh]
 ·cases h)
def aIl:List LV->T LV
 | [.v (.agg ⟨[.string nm,.int .i64 at_,.int .i64 ph,.int .i64 mi,.int .i64 ma,.int .i64 st,.int .i64 fb,.int .i64 ow]⟩),.v (.int .i64 k)]=> .req ((1<=mi/\mi<=80/\1<=st/\st<=80)/\0<=k/\k<=1000) (.ok (Dt mi st k))
 |_=> .no
def aqm (nm:ByteArray) (at_ ph mi ma st fb ow k:Int):Bc prog AT (lJ) kN Af f189 [.v (.agg #[.string nm,at_,ph,mi,ma,st,fb,ow]),k]=.br (k==0) (.ok (0:Int)) (.ok (A9 (mi+(A9 ((A9 (k-1))*st))))):=AZ
def Ww:=vo (S:=aIl) func189 lJ kN (λargs lv h=>by
 refine ⟨?_⟩;unfold aIl at h;split at h
 ·simp only [canL,canX]
  rw [aqm];rename_i mi _ st _ _ k;obtain ⟨⟨⟨h1,h2,h3,h4⟩,h5,h6⟩,rfl⟩:=h;refine ⟨λc=>Ax (λz=>LV.v (.int .i64 z)) ?_,λc=>Ax (λz=>LV.v (.int .i64 z)) ?_⟩
  ·have c:k=0:=FN
   simp [Dt,c]
  ·have c:k≠0:=FN
   have:=axM (a:=k-1) (b:=st) A0 A0 A0 A0
   rw [AI (x:=k-1),AI (x:=(k-1)*st),AI]
   simp [Dt,c]
 ·cases h)
def aIA:List LV->T LV
 | [.v (.agg ⟨[.string nm,.int .i64 at_,.int .i64 ph,.int .i64 mi,.int .i64 ma,.int .i64 st,.int .i64 fb,.int .i64 ow]⟩),.v (.int .i64 a)]=> .req (a<=9223372036854775807) (.ok (HD mi ma st a))
 |_=> .no
def aJa:List Bd:=[aty]
def apV (nm:ByteArray) (at_ ph mi ma st fb ow a:Int):letI b:=(A9 ((A9 (a-mi)).tdiv st))+1;letI c:=EF mi ma st;Bc prog AT (aJa) kN Af f187 [.v (.agg #[.string nm,at_,ph,mi,ma,st,fb,ow]),a]=.br ((c==0) ||(decide (a<0))) (.ok (.v (.int .i64 (-1)))) (.br (decide (a<mi)) (.ok (0:Int)) (.req (st≠0) (.ok (.v (.int .i64 (if (A9 b)<(A9 (c-1)) then A9 b else A9 (c-1))))))):=AZ
def Wu:=vo (S:=aIA) func187 aJa kN (λargs lv h=>by
 refine ⟨?_⟩;unfold aIA at h;split at h
 ·simp only [canL,canX]
  rw [apV];rename_i mi ma st _ _ a;obtain ⟨ha,rfl⟩:=h
  have hb:=aQ5 (mi:=mi) (ma:=ma) (st:=st)
  refine ⟨λc=>Ax (λz=>LV.v (.int .i64 z)) ?_,λc=>⟨λc2=>Ax (λz=>LV.v (.int .i64 z)) ?_,λc2=>?_⟩⟩
  ·have c:DX mi ma st=false\/a<0:=by
    simp at c
    rcases c with c|c
    ·left
     cases e:DX mi ma st with
     |false=>rfl
     |true=>have:=qP e;omega
    ·exact .inr c
   simp only [HD,AE c]
  all_goals
   simp at c c2
   have hh:DX mi ma st=true:=by
    cases e:DX mi ma st with
    |true=>rfl
    |false=>exact absurd (aE6 e) c.1
   have hn:¬(DX mi ma st=false\/a<0):=by simp [hh];omega
   have:=I6.1 hh
  ·simp only [HD,AD hn,AE c2]
  ·have:=nV (x:=a-mi) (st:=st) A0 A0
   refine ⟨A0,Ax (λz=>LV.v (.int .i64 z)) ?_⟩
   rw [AI (x:=a-mi),HM A0,AI (x:=(a-mi) / st),AI (x:=(a-mi) / st+1),AI (x:=EF mi ma st-1)];simp only [HD,AD hn,AD (show ¬a<mi by omega)]
   split<;>omega
 ·cases h)
def aDJ:List LV->T LV
 | [.v (.string w)]=> .ok (isIn fy w)
 |_=> .no
def Uj:List Bd:=[]
def aDe:=vo (S:=aDJ) func174 Uj kN (λargs lv h=>by
 unfold aDJ at h;split at h
 ·rename_i w
  refine Aj (.br (w.toList==(ByteArray.mk #[108,105,109,105,116]).toList) (.ok true) (.br (w.toList==(ByteArray.mk #[110,101,117,116,114,97,108]).toList) (.ok true) (.br (w.toList==(ByteArray.mk #[102,117,115,101]).toList) (.ok true) (.br (w.toList==(ByteArray.mk #[116,104,101,114,109,97,108]).toList) (.ok true) (.br (w.toList==(ByteArray.mk #[102,114,111,109]).toList) (.ok true) (.br (w.toList==(ByteArray.mk #[97,116]).toList) (.ok true) (.br (w.toList==(ByteArray.mk #[112,104,97,115,101,115]).toList) (.ok true) (.br (w.toList==(ByteArray.mk #[97,109,112,115]).toList) (.ok true) (.br (w.toList==(ByteArray.mk #[102,97,108,108,98,97,99,107]).toList) (.ok true) (.br (w.toList==(ByteArray.mk #[111,119,110,101,114]).toList) (.ok true) (.br (w.toList==(ByteArray.mk #[99,97,114,100]).toList) (.ok true) (.br (w.toList==(ByteArray.mk #[114,97,110,107]).toList) (.ok true) (.br (w.toList==(ByteArray.mk #[99,104,97,114,103,101,114]).toList) (.ok true) (.ok false)))))))))))))) ?_;obtain rfl:=h;simp only [Wx];unfold isIn fy;simp only [ZT,jP];refine ⟨λc0=>y6,λc0=>?_⟩
  rw [c0,Ct];refine ⟨λc1=>y7,λc1=>?_⟩
  rw [c1,Ct];refine ⟨λc2=>xo,λc2=>?_⟩
  rw [c2,Ct];refine ⟨λc3=>xp,λc3=>?_⟩
  rw [c3,Ct];refine ⟨λc4=>xr,λc4=>?_⟩
  rw [c4,Ct];refine ⟨λc5=>xt,λc5=>?_⟩
  rw [c5,Ct];refine ⟨λc6=>by simp [c6,T.all],λc6=>?_⟩
  rw [c6,Ct];refine ⟨λc7=>by simp [c7,T.all],λc7=>?_⟩
  rw [c7,Ct];refine ⟨λc8=>by simp [c8,T.all],λc8=>?_⟩
  rw [c8,Ct];refine ⟨λc9=>by simp [c9,T.all],λc9=>?_⟩
  rw [c9,Ct];refine ⟨λc10=>by simp [c10,T.all],λc10=>?_⟩
  rw [c10,Ct];refine ⟨λc11=>by simp [c11,T.all],λc11=>?_⟩
  rw [c11,Ct];refine ⟨λc12=>by simp [c12,T.all],λc12=>?_⟩
  rw [c12,Ct];rfl
 ·cases h)
def aFG:List LV->T LV
 | [.v (.string w)]=> .ok (isIn nU w)
 |_=> .no
def aFU:=vo (S:=aFG) func175 Uj kN (λargs lv h=>by
 unfold aFG at h;split at h
 ·rename_i w
  refine Aj (.br (w.toList==(ByteArray.mk #[115,116,97,114,116]).toList) (.ok true) (.br (w.toList==(ByteArray.mk #[101,110,101,114,103,121]).toList) (.ok true) (.br (w.toList==(ByteArray.mk #[116,105,109,101]).toList) (.ok true) (.br (w.toList==(ByteArray.mk #[105,100,108,101]).toList) (.ok true) (.br (w.toList==(ByteArray.mk #[99,97,112]).toList) (.ok true) (.br (w.toList==(ByteArray.mk #[116,97,120]).toList) (.ok true) (.ok false))))))) ?_;obtain rfl:=h;simp only [Wx];unfold isIn nU;simp only [ZT,jP];refine ⟨λc0=>y6,λc0=>?_⟩
  rw [c0,Ct];refine ⟨λc1=>y7,λc1=>?_⟩
  rw [c1,Ct];refine ⟨λc2=>xo,λc2=>?_⟩
  rw [c2,Ct];refine ⟨λc3=>xp,λc3=>?_⟩
  rw [c3,Ct];refine ⟨λc4=>xr,λc4=>?_⟩
  rw [c4,Ct];refine ⟨λc5=>xt,λc5=>?_⟩
  rw [c5,Ct];rfl
 ·cases h)
def aFD:List LV->T LV
 | [.v (.string w)]=> .ok (isIn words w)
 |_=> .no
def aFT:=vo (S:=aFD) func210 Uj kN (λargs lv h=>by
 unfold aFD at h;split at h
 ·rename_i w
  refine Aj (.br (w.toList==(ByteArray.mk #[111,110]).toList) (.ok true) (.br (w.toList==(ByteArray.mk #[119,111,114,107]).toList) (.ok true) (.br (w.toList==(ByteArray.mk #[115,97,116,117,114,100,97,121]).toList) (.ok true) (.br (w.toList==(ByteArray.mk #[115,117,110,100,97,121]).toList) (.ok true) (.br (w.toList==(ByteArray.mk #[98,101,116,119,101,101,110]).toList) (.ok true) (.br (w.toList==(ByteArray.mk #[112,101,114]).toList) (.ok true) (.br (w.toList==(ByteArray.mk #[102,114,101,101]).toList) (.ok true) (.ok false)))))))) ?_;obtain rfl:=h;simp only [Wx];unfold isIn words;simp only [ZT,jP];refine ⟨λc0=>y6,λc0=>?_⟩
  rw [c0,Ct];refine ⟨λc1=>y7,λc1=>?_⟩
  rw [c1,Ct];refine ⟨λc2=>xo,λc2=>?_⟩
  rw [c2,Ct];refine ⟨λc3=>xp,λc3=>?_⟩
  rw [c3,Ct];refine ⟨λc4=>xr,λc4=>?_⟩
  rw [c4,Ct];refine ⟨λc5=>xt,λc5=>?_⟩
  rw [c5,Ct];refine ⟨λc6=>by simp [c6,T.all],λc6=>?_⟩
  rw [c6,Ct];rfl
 ·cases h)
def aHG:List LV->T LV
 | [.v (.string w)]=> .ok (Ut 1 kinds w)
 |_=> .no
def au0:=vo (S:=aHG) func209 Uj kN (λargs lv h=>by
 unfold aHG at h;split at h
 ·rename_i w
  refine Aj (.br (w.toList==(ByteArray.mk #[102,101,101,100,101,114]).toList) (.ok (1:Int)) (.br (w.toList==(ByteArray.mk #[99,97,98,108,101]).toList) (.ok (2:Int)) (.br (w.toList==(ByteArray.mk #[111,119,110,101,114]).toList) (.ok (3:Int)) (.br (w.toList==(ByteArray.mk #[99,111,110,116,114,97,99,116]).toList) (.ok (4:Int)) (.br (w.toList==(ByteArray.mk #[99,104,97,114,103,101,114]).toList) (.ok (5:Int)) (.br (w.toList==(ByteArray.mk #[98,97,121]).toList) (.ok (6:Int)) (.br (w.toList==(ByteArray.mk #[116,97,114,105,102,102]).toList) (.ok (7:Int)) (.ok (0:Int))))))))) ?_;obtain rfl:=h;simp only [Wx];simp only [Ut,kinds];refine ⟨λc0=>by rw [AE c0];rfl,λc0=>?_⟩
  rw [AD (by simp [c0])]
  refine ⟨λc1=>by rw [AE c1];rfl,λc1=>?_⟩
  rw [AD (by simp [c1])]
  refine ⟨λc2=>by rw [AE c2];rfl,λc2=>?_⟩
  rw [AD (by simp [c2])]
  refine ⟨λc3=>by rw [AE c3];rfl,λc3=>?_⟩
  rw [AD (by simp [c3])]
  refine ⟨λc4=>by rw [AE c4];rfl,λc4=>?_⟩
  rw [AD (by simp [c4])]
  refine ⟨λc5=>by rw [AE c5];rfl,λc5=>?_⟩
  rw [AD AA];refine ⟨λc6=>by rw [AE c6];rfl,λc6=>?_⟩
  rw [AD AA];rfl
 ·cases h)
def aFE:List LV->T LV
 | [.v (.string w)]=> .ok (aAh w)
 |_=> .no
def alg:List Bd:=[aDe,aFU,au0,aFT]
def aoA:=vo (S:=aFE) func173 alg kN (λargs lv h=>by
 unfold aFE at h;split at h
 ·rename_i w
  refine Aj (.ok (.v (.bool (((Ut 1 kinds w) !=0) ||((isIn fy w) ||((isIn nU w) ||(isIn words w))))))) ?_;obtain rfl:=h;rw [aDm 1 kinds _ Aa];rfl
 ·cases h)
structure Lf where
 text:ByteArray
 r:Bool
 i:Int
def aIM:=bN f172 0
def l9 (s:Lf):T (Rd Lf):=letI a:=Jf s.text s.i;.br (decide (s.i<(s.text.size:Int))) (.req (0<=s.i/\s.i<(s.text.size:Int)) (.br (if decide (a>=97) then !(decide (a<=122))&&(if decide (a>=48) then !(decide (a<=57))&&(!(a==95)) else !(a==95)) else if decide (a>=48) then !(decide (a<=57))&&(!(a==95)) else !(a==95)) (.so (.ret) {s with r:=false}) (.nx {s with i:=A9 (s.i+1)}))) (.so (.exit 0) s)
def Nx (s:Lf) (j:Int):Bool:=decide (j<1) ||(chB (Jf s.text j))
def m5 (s:Lf):Prop:=s.i=1/\1<=(s.text.size:Int)/\(s.text.size:Int)<=1000/\True
def aZ (s:Lf):Prop:=1<=s.i/\s.i<=(s.text.size:Int)/\(s.text.size:Int)<=1000/\(True)/\∀j:Nat,(j:Int)<s.i->Nx s j=true
def yq (s:Lf):Nat:=((s.text.size:Int)-s.i).toNat
def w8 (x:Ex) (s s':Lf):Prop:=(x=.exit 0/\∀j:Nat,(j:Int)<(s'.text.size:Int)->Nx s' j=true)\/(x=.ret/\s'.r=false/\∃j:Nat,(j:Int)<(s'.text.size:Int)/\Nx s' j=false)
def alc:∀s,m5 s->aZ s:=by
 rintro s ⟨h0,h1,h2,h3⟩
 exact ⟨A0,A0,h2,h3,λj hj=>by unfold Nx;rw [Cs A0];rfl⟩
def akC:Da aZ yq w8 l9:=by
 intro s hI;unfold l9;obtain ⟨h0,h1,h2,h3,h4⟩:=hI;refine AG (λc1=>AG (λc2=>?_) (λc2=>?_)) (λc1=>?_)
 ·have c1:s.i<(s.text.size:Int):=AO
  refine .inr ⟨rfl,rfl,s.i.toNat,AP,?_⟩;rw [BQ A0]
  have hg:Nx s s.i=false:=aLt
  exact hg
 ·have c1:s.i<(s.text.size:Int):=AO
  have hg:Nx s s.i=true:=aLt
  rw [AI (x:=s.i+1)];refine ⟨⟨AP,AP,h2,h3,λj hj=>?_⟩,by simp only [yq];omega⟩
  by_cases hji:(j:Int)<s.i
  ·exact h4 j hji
  ·have:(j:Int)=s.i:=AA
   rw [this];exact hg
 ·have c1:(s.text.size:Int)<=s.i:=AO
  exact Zi
def S1:AS Lf:=⟨0,51,[0,2,3],[],λs=>[.v (.string s.text),s.r,s.i],λ_=>[],λv b=>⟨gSr (v.getD 0 .junk),Eb v 1,AK v 2⟩,l9,λs r=> {r with text:=s.text},λs=>s,λ_ s=>s,[.ret,.exit 0],m5,aZ,yq⟩
abbrev cj:=S1.run
abbrev aR5:=S1.Am
def aiS:Rq aZ l9:=by
 exact SP
def ab5:S1.Ok:={}
def abe:S1.Pf (w8):=⟨alc,λs h=>rfl,akC,aiS⟩
def auc:SA 0 aIM S1:=s1 ab5 abe Uj kN
def ayU:Fi m5 aZ w8 aR5 cj:=AS.fin ab5 abe
def aFJ:List LV->T LV
 | [.v (.string w)]=> .ok (gwB w)
 |_=> .no
def aoC:=vm (S:=aFJ) func172 Uj kN (L:=(λi=>if i=4 then S1.lp else Af i)) (λb hb=>by
 rw [show B6 _=[aIM] by kernel_rfl] at hb
 simp only [B1,Bv,Bw] at hb;subst hb;exact auc) (λargs lv h=>by
 unfold aFJ at h;split at h
 ·rename_i w
  refine Aj (letI a:=(w.size:Int);.br (decide (a<1)) (.ok false) (.br (decide (a>12)) (.ok false) (.req (0<=(0:Int)/\(0:Int)<a) (.br (decide ((Jf w (0:Int))<97)) (.ok false) (.req (0<=(0:Int)/\(0:Int)<a) (.br (decide ((Jf w (0:Int))>122)) (.ok false) (.req (S1.q (⟨w,false,1⟩:Lf)) (.br (Bo (aR5 (⟨w,false,1⟩:Lf)) (.ret)) (.ok (cj (⟨w,false,1⟩:Lf)).r) (.ok true))))))))) ?_;obtain rfl:=h
  have bad:¬(((1<=w.size/\w.size<=12)/\(97<=Jf w 0/\Jf w 0<=122)))->LV.v (.bool false)=LV.v (.bool (gwB w)):=λhn=>Ax (λz=>LV.v (.bool z)) (by
   rw [SO,Hz];intro h;simp only [gwB,chA,AU,AY] at h;exact hn ⟨h.1,A0,A0⟩)
  refine ⟨λc=>bad VU,λc=>⟨λc2=>bad AA,λc2=>⟨VU,λc3=>bad kM,λc3=>⟨VU,λc4=>bad xw,λc4=>?_⟩⟩⟩⟩
  simp only [Cl] at c c2 c3 c4
  have hE:m5 ⟨w,false,1⟩:=⟨rfl,AP,AP,trivial⟩
  have key:gwB w=(List.range w.size).all λi=>i==0 ||chB (Jf w i):=by
   simp only [gwB,chA];rw [Cs A0,Cs A0,Cs A0];rfl
  obtain ⟨s',_,hq⟩:=ayU _ hE;refine ⟨⟨hE,rfl,rfl⟩,?_⟩;rw [key];rcases hq with ⟨h1,h2⟩ |⟨h1,h2,j,h3,h4⟩
  ·rw [h1]
   refine ⟨λh=>Ah,λ_=>Ax (λz=>LV.v (.bool z)) ?_⟩
   rw [SO,BL];intro i hi
   have:=h2 i (by show (i:Int)<(w.size:Int);have:=I3.1 hi;omega)
   simp only [Nx] at this;rw [show (cj ⟨w,false,1⟩).text=w from rfl] at this;rw [Cr] at this;rcases this with h|h
   ·have:i=0:=by simp at h;omega
    simp [this]
   ·rw [h];simp
  ·rw [h1,h2]
   refine ⟨λ_=>Ax (λz=>LV.v (.bool z)) ?_,λh=>Ah⟩
   rw [SO,Hz];intro hx;rw [BL] at hx
   have h3:(j:Int)<(w.size:Int):=h3
   have:=hx j (I3.2 A0)
   simp only [Nx] at h4;rw [show (cj ⟨w,false,1⟩).text=w from rfl] at h4;rw [Eu] at h4
   have h5:=h4.1
   simp at h5
   rw [h4.2] at this
   simp at this
   omega
 ·cases h)
def aFO:List LV->T LV
 | [.v (.string w)]=> .ok (nameB w)
 |_=> .no
def alf:List Bd:=[aoC,aoA]
def aoD:=vo (S:=aFO) func128 alf kN (λargs lv h=>by
 unfold aFO at h;split at h
 ·rename_i w
  refine Aj (.ok (.v (.bool ((gwB w)&&(!(aAh w)))))) ?_;exact h
 ·cases h)
def aHJ:List LV->T LV
 | [.v (.string w)]=> .ok (nameB w)
 |_=> .no
def aAk:List Bd:=[aoD,aDe,aFU,aFT]
def alb:As:=kI aAk (l0 aAk)
def au1:=vo (S:=aHJ) func30 aAk alb (λargs lv h=>by
 unfold aHJ at h;split at h
 ·rename_i w
  refine Aj (.br (((1:Int) !=1) ||((!(ByteArray.empty.toList==(ByteArray.mk #[]).toList)) ||((0:Int) !=0))) (.ok false) (.br (((2:Int) !=2) ||((decide ((3:Int)<1)) ||((decide ((3:Int)>7)) ||(!(nameB w))))) (.br (!false) (.ok false) (.ok true)) (.br (!true) (.ok false) (.ok true)))) ?_;obtain rfl:=h;refine ⟨λc=>?_,λ_=>?_⟩
  ·exfalso
   rw [Wx] at c
   revert c
   decide
  ·cases nameB w<;>simp [T.all]
 ·cases h)
def aFI:List LV->T LV
 | [.v (.agg ⟨[.int .i64 a,.int .i64 b]⟩),.v (.int .i64 n)]=> .ok (inB n a b)
 |_=> .no
def aAj:List Bd:=[]
def pz:=vo (S:=aFI) func66 aAj kN (λargs lv h=>by
 unfold aFI at h;split at h
 ·rename_i a b n
  refine Aj (.ok (.v (.bool ((decide (n>=a))&&(decide (n<=b)))))) ?_;exact h
 ·cases h)
def aHK:List LV->T LV
 | [.v (.agg ⟨[.int .i64 am,.int .i64 mo,.int .i64 ga,.int .i64 lo,.int .i64 de]⟩)]=> .ok (decide (mo>am))
 |_=> .no
def au2:=vo (S:=aHK) func90 aAj kN (λargs lv h=>by
 unfold aHK at h;split at h
 ·rename_i am mo ga lo de
  refine Aj (.ok (decide (mo>am))) ?_;exact h
 ·cases h)
def aHL:List LV->T LV
 | [.v (.agg ⟨[.string nm,.int .i64 at_,.int .i64 ph,.int .i64 mi,.int .i64 ma,.int .i64 st,.int .i64 fb,.int .i64 ow]⟩)]=> .ok (.v (.bool (decide (mi<=ma)&&((fb==0) ||inB fb mi ma))))
 |_=> .no
def au3:=vo (S:=aHL) func91 aAj kN (λargs lv h=>by
 unfold aHL at h;split at h
 ·rename_i nm at_ ph mi ma st fb ow
  refine Aj (.ok (.v (.bool ((decide (mi<=ma))&&((fb==0) ||((decide (fb>=mi))&&(decide (fb<=ma)))))))) ?_;exact h
 ·cases h)
def aHP:List LV->T LV
 | [.v (.agg ⟨[.string nm,.int .i64 up_,.int .i64 li,.int .i64 ne,.int .i64 ra,.int .i64 he,.int .i64 am,.int .i64 mo,.int .i64 ga,.int .i64 lo,.int .i64 de]⟩),.v (.int .i64 i)]=> .req (0<=i) (.ok (Hl i (nm,up_,li,ne,(ra,he),am,mo,ga,lo,de)))
 |_=> .no
def ale:List Bd:=[pz,au2]
def atH:=vo (S:=aHP) func65 ale kN (λargs lv h=>by
 unfold aHP at h;split at h
 ·rename_i nm up_ li ne ra he am mo ga lo de i
  refine Aj (.br (if i==0 then (up_ !=(-1)) ||((decide (i>0))&&((decide (up_<0)) ||(decide (up_>=i)))) else (decide (i>0))&&((decide (up_<0)) ||(decide (up_>=i)))) (.ok false) (.br ((!(inB li (1:Int) (1000:Int))) ||(!(inB ne (1:Int) (1000:Int)))) (.ok false) (.br ((!((ra==0)&&(he==0)))&&(!(inB ra (1:Int) (1000:Int)) ||(!(inB he (0:Int) (1000000:Int))))) (.ok false) (.br ((am==0)&&((mo==0)&&((ga==0)&&((lo==0)&&(de==0))))) (.ok true) (.ok (.v (.bool ((inB am (0:Int) (200000:Int))&&((inB mo (0:Int) (200000:Int))&&((inB ga (0:Int) (1000:Int))&&((inB lo (0:Int) (1000:Int))&&((inB de (1:Int) (1000000:Int))&&(decide (mo>am)))))))))))))) ?_
  obtain ⟨hi,h⟩:=h;exact ah7 (K:=λz=>LV.v (.bool z)=lv) hi h
 ·cases h)
def aHQ:List LV->T LV
 | .agg a::r=>s5 a λcs os ks gs bs=>(match r with
  | [.v (.agg ⟨[.string nm,.int .i64 at_,.int .i64 ph,.int .i64 mi,.int .i64 ma,.int .i64 st,.int .i64 fb,.int .i64 ow]⟩)]=> .req ((cs.length:Int)<=1000/\(os.length:Int)<=1000) (.ok (Ga cs.length os.length (nm,at_,ph,mi,ma,st,fb,ow)))
  |_=> .no)
 |_=> .no
def ajy:List Bd:=[pz,au3]
def atJ:=vo (S:=aHQ) func67 ajy kN (λargs lv h=>by
 unfold aHQ at h;split at h
 case h_2=>cases h
 replace h:=I8 h
 obtain ⟨cs,os,ks,gs,bs,rfl,h⟩:=h;split at h
 ·rename_i nm at_ ph mi ma st fb ow
  refine Aj (.ok (.v (.bool ((inB at_ (0:Int) (A9 ((cs.length:Int)-1)))&&((inB ow (0:Int) (A9 ((os.length:Int)-1)))&&((inB ph (1:Int) (7:Int))&&((inB mi (1:Int) (80:Int))&&((inB ma (1:Int) (80:Int))&&((inB st (1:Int) (80:Int))&&((inB fb (0:Int) (80:Int))&&(decide (mi<=ma)&&((fb==0) ||inB fb mi ma)))))))))))) ?_;obtain ⟨⟨h1,h2⟩,rfl⟩:=h;refine Ax (λz=>LV.v (.bool z)) ?_
  rw [AI (x:=(cs.length:Int)-1),AI (x:=(os.length:Int)-1)];unfold Ga chW;rw [I0];simp only [AU,Cr,CU,AY,Cj];omega
 ·cases h)
structure N8 where
 l:List Cd
 (n i:Int)
 B5:List Cd
 BW:List ByteArray
 C0:List Ko
 BH:List Ch
 C1:List Ba
 out:List ByteArray
def aEL:=bN f29 0
def uY (s:N8):T (Rd N8):=letI a:=Ag s.l s.i;.br (decide (s.i<s.n)) (.ix s.i (s.l.length) (.rb (s.out.length) (List.length ([a.1])) 16 (.re (s.out.length+List.length ([a.1])) (s.out++([a.1])) (.nx {s with i:=A9 (s.i+1),out:=s.out++([a.1])})))) (.rl s.out (.so (.exit 0) s))
def YR (s:N8):Prop:=s.i=0/\s.n=(s.l.length:Int)/\s.n<=1000/\(s.out.length:Int)<=10000
def Xh (s:N8):Prop:=0<=s.i/\s.i<=s.n/\s.n=(s.l.length:Int)/\s.n<=1000/\(s.out.length:Int)<=10000+s.i
def rD (s:N8):Nat:=(s.n-s.i).toNat
def zK (x:Ex) (s s':N8):Prop:=x=.exit 0/\s'.i=s'.n
def ajD:∀s,YR s->Xh s:=by
 exact Zc
def awG:Da Xh rD zK uY:=by
 intro s hI;obtain ⟨h0,h1,h2,h3,h4⟩:=hI;refine AG (λc1=>?_) (λc1=>?_)
 ·have c1:s.i<s.n:=AA
  rw [AI (x:=s.i+1)];exact ⟨⟨AA,AA,h2,h3,AA⟩,by simp only [rD];omega⟩
 ·exact VC
def Qy:AS N8:=⟨0,80,[1,3,15,16,17],[.nl 3 9 .str],λs=>[.own 0 0,.os 1 1 0 (s.out.length),s.l,s.n,s.i],λs=>[⟨[s.B5,s.BW,s.C0,s.BH,s.C1],28,.cl,false⟩,bV 9 .str s.out],λv b=>⟨Az Ao v 2,AK v 3,AK v 4,AF Ao b 0 0,AF .str b 0 1,AF B8 b 0 2,AF Au b 0 3,AF B9 b 0 4,Ab .str b 1⟩,uY,λs r=> {s with i:=r.i,out:=r.out},λs=>s,λ_ s=>s,[.exit 0],YR,Xh,rD⟩
abbrev Vg:=Qy.run
abbrev arq:=Qy.Am
def avX:Rq Xh uY:=by
 exact Zh
def UK:List Bd:=[]
def sf:Qy.Ok:={}
def qf:Qy.Pf (zK):=⟨ajD,λs h=>rfl,awG,avX⟩
def apC:SA 0 aEL Qy:=s1 sf qf UK kN
def apw:Fi YR Xh zK arq Vg:=AS.fin sf qf
def apv (s:N8) (hE:YR s):(Vg s).out=s.out++s.l.map (·.1):=by
 have hk:=AS.KO sf qf (λs=>s.out++(s.l.drop s.i.toNat).map (·.1)) (λs hI=>by
  obtain ⟨h0,h1,h2,h3,h4⟩:=hI;refine AG (λc1=>?_) (λc1=>?_)
  ·have c1:s.i<s.n:=AA
   rw [AI (x:=s.i+1)]
   show _++_=_++_
   rw [(amo h0 (show s.i<s.l.length by omega)).1]
   simp
  ·rfl) s hE
 obtain ⟨s',hI,q1,q2⟩:=apw s hE
 have q3:=q2
 have hn:(Vg s).n=(s.l.length:Int):=hE.2.1
 have hl:(Vg s).l=s.l:=rfl
 exact Zk
structure NF where
 l:List ByteArray
 (n i:Int)
 B5:List Cd
 BW:List ByteArray
 C0:List Ko
 BH:List Ch
 C1:List Ba
 out:List ByteArray
def aEJ:=bN f29 1
def uX (s:NF):T (Rd NF):=letI a:=gS s.l s.i;.br (decide (s.i<s.n)) (.ix s.i (s.l.length) (.rb (s.out.length) (List.length ([a])) 16 (.re (s.out.length+List.length ([a])) (s.out++([a])) (.nx {s with i:=A9 (s.i+1),out:=s.out++([a])})))) (.rl s.out (.so (.exit 2) s))
def YQ (s:NF):Prop:=s.i=0/\s.n=(s.l.length:Int)/\s.n<=1000/\(s.out.length:Int)<=10000
def Xg (s:NF):Prop:=0<=s.i/\s.i<=s.n/\s.n=(s.l.length:Int)/\s.n<=1000/\(s.out.length:Int)<=10000+s.i
def rC (s:NF):Nat:=(s.n-s.i).toNat
def zJ (x:Ex) (s s':NF):Prop:=x=.exit 2/\s'.i=s'.n
def ajC:∀s,YQ s->Xg s:=by
 exact Zc
def awp:Da Xg rC zJ uX:=by
 intro s hI;obtain ⟨h0,h1,h2,h3,h4⟩:=hI;refine AG (λc1=>?_) (λc1=>?_)
 ·have c1:s.i<s.n:=AA
  rw [AI (x:=s.i+1)];exact ⟨⟨AA,AA,h2,h3,AA⟩,by simp only [rC];omega⟩
 ·exact VC
def Qx:AS NF:=⟨0,80,[1,3,28,29,30],[],λs=>[.own 0 0,.os 1 1 0 (s.out.length),s.l,s.n,s.i],λs=>[⟨[s.B5,s.BW,s.C0,s.BH,s.C1],28,.cl,false⟩,bV 9 .str s.out],λv b=>⟨Az .str v 2,AK v 3,AK v 4,AF Ao b 0 0,AF .str b 0 1,AF B8 b 0 2,AF Au b 0 3,AF B9 b 0 4,Ab .str b 1⟩,uX,λs r=> {s with i:=r.i,out:=r.out},λs=>s,λ_ s=>s,[.exit 2],YQ,Xg,rC⟩
abbrev Vf:=Qx.run
abbrev arp:=Qx.Am
def avW:Rq Xg uX:=by
 exact Zh
def sd:Qx.Ok:={}
def qe:Qx.Pf (zJ):=⟨ajC,λs h=>rfl,awp,avW⟩
def apA:SA 0 aEJ Qx:=s1 sd qe UK kN
def apu:Fi YQ Xg zJ arp Vf:=AS.fin sd qe
def apt (s:NF) (hE:YQ s):(Vf s).out=s.out++s.l:=by
 have hk:=AS.KO sd qe (λs=>s.out++(s.l.drop s.i.toNat)) (λs hI=>by
  obtain ⟨h0,h1,h2,h3,h4⟩:=hI;refine AG (λc1=>?_) (λc1=>?_)
  ·have c1:s.i<s.n:=AA
   rw [AI (x:=s.i+1)]
   show _++_=_++_
   rw [(aGP h0 (show s.i<s.l.length by omega)).1]
   simp
  ·rfl) s hE
 obtain ⟨s',hI,q1,q2⟩:=apu s hE
 have q3:=q2
 have hn:(Vf s).n=(s.l.length:Int):=hE.2.1
 have hl:(Vf s).l=s.l:=rfl
 exact Zk
structure NG where
 l:List Ko
 (n i:Int)
 B5:List Cd
 BW:List ByteArray
 C0:List Ko
 BH:List Ch
 C1:List Ba
 out:List ByteArray
def aEI:=bN f29 2
def uW (s:NG):T (Rd NG):=letI a:=Ny s.l s.i;.br (decide (s.i<s.n)) (.ix s.i (s.l.length) (.rb (s.out.length) (List.length ([a.1])) 16 (.re (s.out.length+List.length ([a.1])) (s.out++([a.1])) (.nx {s with i:=A9 (s.i+1),out:=s.out++([a.1])})))) (.rl s.out (.so (.exit 4) s))
def YP (s:NG):Prop:=s.i=0/\s.n=(s.l.length:Int)/\s.n<=1000/\(s.out.length:Int)<=10000
def Xf (s:NG):Prop:=0<=s.i/\s.i<=s.n/\s.n=(s.l.length:Int)/\s.n<=1000/\(s.out.length:Int)<=10000+s.i
def rA (s:NG):Nat:=(s.n-s.i).toNat
def zI (x:Ex) (s s':NG):Prop:=x=.exit 4/\s'.i=s'.n
def ajB:∀s,YP s->Xf s:=by
 exact Zc
def awo:Da Xf rA zI uW:=by
 intro s hI;obtain ⟨h0,h1,h2,h3,h4⟩:=hI;refine AG (λc1=>?_) (λc1=>?_)
 ·have c1:s.i<s.n:=AA
  rw [AI (x:=s.i+1)];exact ⟨⟨AA,AA,h2,h3,AA⟩,by simp only [rA];omega⟩
 ·exact VC
def Qw:AS NG:=⟨0,80,[1,3,41,42,43],[],λs=>[.own 0 0,.os 1 1 0 (s.out.length),s.l,s.n,s.i],λs=>[⟨[s.B5,s.BW,s.C0,s.BH,s.C1],28,.cl,false⟩,bV 9 .str s.out],λv b=>⟨Az B8 v 2,AK v 3,AK v 4,AF Ao b 0 0,AF .str b 0 1,AF B8 b 0 2,AF Au b 0 3,AF B9 b 0 4,Ab .str b 1⟩,uW,λs r=> {s with i:=r.i,out:=r.out},λs=>s,λ_ s=>s,[.exit 4],YP,Xf,rA⟩
abbrev Vk:=Qw.run
abbrev aro:=Qw.Am
def avV:Rq Xf uW:=by
 exact Zh
def sZ:Qw.Ok:={}
def qd:Qw.Pf (zI):=⟨ajB,λs h=>rfl,awo,avV⟩
def ap9:SA 0 aEI Qw:=s1 sZ qd UK kN
def aps:Fi YP Xf zI aro Vk:=AS.fin sZ qd
def apr (s:NG) (hE:YP s):(Vk s).out=s.out++s.l.map (·.1):=by
 have hk:=AS.KO sZ qd (λs=>s.out++(s.l.drop s.i.toNat).map (·.1)) (λs hI=>by
  obtain ⟨h0,h1,h2,h3,h4⟩:=hI;refine AG (λc1=>?_) (λc1=>?_)
  ·have c1:s.i<s.n:=AA
   rw [AI (x:=s.i+1)]
   show _++_=_++_
   rw [(aDq h0 (show s.i<s.l.length by omega)).1]
   simp
  ·rfl) s hE
 obtain ⟨s',hI,q1,q2⟩:=aps s hE
 have q3:=q2
 have hn:(Vk s).n=(s.l.length:Int):=hE.2.1
 have hl:(Vk s).l=s.l:=rfl
 exact Zk
structure NL where
 l:List Ch
 (n i:Int)
 B5:List Cd
 BW:List ByteArray
 C0:List Ko
 BH:List Ch
 C1:List Ba
 out:List ByteArray
def aF7:=bN f29 3
def uV (s:NL):T (Rd NL):=letI a:=AH s.l s.i;.br (decide (s.i<s.n)) (.ix s.i (s.l.length) (.rb (s.out.length) (List.length ([a.1])) 16 (.re (s.out.length+List.length ([a.1])) (s.out++([a.1])) (.nx {s with i:=A9 (s.i+1),out:=s.out++([a.1])})))) (.rl s.out (.so (.exit 6) s))
def YO (s:NL):Prop:=s.i=0/\s.n=(s.l.length:Int)/\s.n<=1000/\(s.out.length:Int)<=10000
def Xe (s:NL):Prop:=0<=s.i/\s.i<=s.n/\s.n=(s.l.length:Int)/\s.n<=1000/\(s.out.length:Int)<=10000+s.i
def sK (s:NL):Nat:=(s.n-s.i).toNat
def zH (x:Ex) (s s':NL):Prop:=x=.exit 6/\s'.i=s'.n
def ajA:∀s,YO s->Xe s:=by
 exact Zc
def awn:Da Xe sK zH uV:=by
 intro s hI;obtain ⟨h0,h1,h2,h3,h4⟩:=hI;refine AG (λc1=>?_) (λc1=>?_)
 ·have c1:s.i<s.n:=AA
  rw [AI (x:=s.i+1)];exact ⟨⟨AA,AA,h2,h3,AA⟩,by simp only [sK];omega⟩
 ·exact VC
def Qv:AS NL:=⟨0,80,[1,3,54,55,56],[],λs=>[.own 0 0,.os 1 1 0 (s.out.length),s.l,s.n,s.i],λs=>[⟨[s.B5,s.BW,s.C0,s.BH,s.C1],28,.cl,false⟩,bV 9 .str s.out],λv b=>⟨Az Au v 2,AK v 3,AK v 4,AF Ao b 0 0,AF .str b 0 1,AF B8 b 0 2,AF Au b 0 3,AF B9 b 0 4,Ab .str b 1⟩,uV,λs r=> {s with i:=r.i,out:=r.out},λs=>s,λ_ s=>s,[.exit 6],YO,Xe,sK⟩
abbrev Vo:=Qv.run
abbrev arn:=Qv.Am
def avU:Rq Xe uV:=by
 exact Zh
def sY:Qv.Ok:={}
def qb:Qv.Pf (zH):=⟨ajA,λs h=>rfl,awn,avU⟩
def ap8:SA 0 aF7 Qv:=s1 sY qb UK kN
def apq:Fi YO Xe zH arn Vo:=AS.fin sY qb
def apo (s:NL) (hE:YO s):(Vo s).out=s.out++s.l.map (·.1):=by
 have hk:=AS.KO sY qb (λs=>s.out++(s.l.drop s.i.toNat).map (·.1)) (λs hI=>by
  obtain ⟨h0,h1,h2,h3,h4⟩:=hI;refine AG (λc1=>?_) (λc1=>?_)
  ·have c1:s.i<s.n:=AA
   rw [AI (x:=s.i+1)]
   show _++_=_++_
   rw [(amn h0 (show s.i<s.l.length by omega)).1]
   simp
  ·rfl) s hE
 obtain ⟨s',hI,q1,q2⟩:=apq s hE
 have q3:=q2
 have hn:(Vo s).n=(s.l.length:Int):=hE.2.1
 have hl:(Vo s).l=s.l:=rfl
 exact Zk
structure NO where
 l:List Ba
 (n i:Int)
 out:List ByteArray
def aF6:=bN f29 4
def uU (s:NO):T (Rd NO):=letI a:=O3 s.l s.i;.br (decide (s.i<s.n)) (.ix s.i (s.l.length) (.rb (s.out.length) (List.length ([a.1])) 16 (.re (s.out.length+List.length ([a.1])) (s.out++([a.1])) (.nx {s with i:=A9 (s.i+1),out:=s.out++([a.1])})))) (.rl s.out (.so (.exit 8) s))
def YN (s:NO):Prop:=s.i=0/\s.n=(s.l.length:Int)/\s.n<=1000/\(s.out.length:Int)<=10000
def Xd (s:NO):Prop:=0<=s.i/\s.i<=s.n/\s.n=(s.l.length:Int)/\s.n<=1000/\(s.out.length:Int)<=10000+s.i
def sJ (s:NO):Nat:=(s.n-s.i).toNat
def zy (x:Ex) (s s':NO):Prop:=x=.exit 8/\s'.i=s'.n
def aj9:∀s,YN s->Xd s:=by
 exact Zc
def awm:Da Xd sJ zy uU:=by
 intro s hI;obtain ⟨h0,h1,h2,h3,h4⟩:=hI;refine AG (λc1=>?_) (λc1=>?_)
 ·have c1:s.i<s.n:=AA
  rw [AI (x:=s.i+1)];exact ⟨⟨AA,AA,h2,h3,AA⟩,by simp only [sJ];omega⟩
 ·exact VC
def Qu:AS NO:=⟨0,80,[3,67,68,69],[],λs=>[.os 0 1 0 (s.out.length),s.l,s.n,s.i],λs=>[bV 9 .str s.out],λv b=>⟨Az B9 v 1,AK v 2,AK v 3,Ab .str b 0⟩,uU,λs r=> {r with l:=s.l,n:=s.n},λs=>s,λ_ s=>s,[.exit 8],YN,Xd,sJ⟩
abbrev W0:=Qu.run
abbrev arl:=Qu.Am
def avT:Rq Xd uU:=by
 exact Zh
def sX:Qu.Ok:={}
def qa:Qu.Pf (zy):=⟨aj9,λs h=>rfl,awm,avT⟩
def ap7:SA 0 aF6 Qu:=s1 sX qa UK kN
def apn:Fi YN Xd zy arl W0:=AS.fin sX qa
def apm (s:NO) (hE:YN s):(W0 s).out=s.out++s.l.map (·.1):=by
 have hk:=AS.KO sX qa (λs=>s.out++(s.l.drop s.i.toNat).map (·.1)) (λs hI=>by
  obtain ⟨h0,h1,h2,h3,h4⟩:=hI;refine AG (λc1=>?_) (λc1=>?_)
  ·have c1:s.i<s.n:=AA
   rw [AI (x:=s.i+1)]
   show _++_=_++_
   rw [(amq h0 (show s.i<s.l.length by omega)).1]
   simp
  ·rfl) s hE
 obtain ⟨s',hI,q1,q2⟩:=apn s hE
 have q3:=q2
 have hn:(W0 s).n=(s.l.length:Int):=hE.2.1
 have hl:(W0 s).l=s.l:=rfl
 exact Zk
def aI4:List LV->T LV
 | .agg a::r=>s5 a λcs os ks gs bs=>(match r with
  | []=> .req ((cs.length:Int)<=1000/\(os.length:Int)<=1000/\(ks.length:Int)<=1000/\(gs.length:Int)<=1000/\(bs.length:Int)<=1000) (.ok (.xl .str (L8 cs os ks gs bs)))
  |_=> .no)
 |_=> .no
def atw:=vm (S:=aI4) func29 UK kN (L:=(λi=>if i=3 then Qy.lp else if i=8 then Qx.lp else if i=13 then Qw.lp else if i=18 then Qv.lp else if i=23 then Qu.lp else Af i)) (λb hb=>by
 rw [show B6 _=[aEL,aEJ,aEI,aF7,aF6] by kernel_rfl] at hb
 simp only [B1,Bv,Bw] at hb;rcases hb with rfl|rfl|rfl|rfl|rfl
 ·exact apC
 ·exact apA
 ·exact ap9
 ·exact ap8
 ·exact ap7) (λargs lv h=>by
 unfold aI4 at h;split at h
 case h_2=>cases h
 replace h:=I8 h
 obtain ⟨cs,os,ks,gs,bs,rfl,h⟩:=h;split at h
 ·refine Aj (letI b:=(Vg (⟨cs,(cs.length:Int),0,cs,os,ks,gs,bs,([]:List ByteArray)⟩:N8));letI d:=(Vf (⟨os,(os.length:Int),0,cs,os,ks,gs,bs,b.out⟩:NF));letI a:=(Vk (⟨ks,(ks.length:Int),0,cs,os,ks,gs,bs,d.out⟩:NG));letI c:=(Vo (⟨gs,(gs.length:Int),0,cs,os,ks,gs,bs,a.out⟩:NL));letI e:=(W0 (⟨bs,(bs.length:Int),0,c.out⟩:NO));.r0 ByteArray (.req (Qy.q (⟨cs,(cs.length:Int),0,cs,os,ks,gs,bs,([]:List ByteArray)⟩:N8)) (.rl b.out (.req (Qx.q (⟨os,(os.length:Int),0,cs,os,ks,gs,bs,b.out⟩:NF)) (.rl d.out (.req (Qw.q (⟨ks,(ks.length:Int),0,cs,os,ks,gs,bs,d.out⟩:NG)) (.rl a.out (.req (Qv.q (⟨gs,(gs.length:Int),0,cs,os,ks,gs,bs,a.out⟩:NL)) (.rl c.out (.req (Qu.q (⟨bs,(bs.length:Int),0,c.out⟩:NO)) (.rz e.out (.ok (.xl .str ((e.out.drop 0).take (List.length e.out))))))))))))))) ?_
  obtain ⟨⟨hc,ho,hk,hg,hb⟩,rfl⟩:=h
  have hE0:YR ⟨cs,(cs.length:Int),0,cs,os,ks,gs,bs,([]:List ByteArray)⟩:=⟨rfl,rfl,hc,by simp only;decide⟩
  have o0:=apv _ hE0
  refine ⟨A8,⟨hE0,rfl,rfl⟩,?_⟩;generalize (Vg ⟨cs,(cs.length:Int),0,cs,os,ks,gs,bs,([]:List ByteArray)⟩).out=r0 at*
  have o0:r0=([]:List ByteArray)++cs.map (·.1):=o0
  have l0:(r0.length:Int)<=1000:=by rw [o0];simp only [B0,Fv,Bh];omega
  have hE1:YQ ⟨os,(os.length:Int),0,cs,os,ks,gs,bs,r0⟩:=⟨rfl,rfl,ho,AP⟩
  have o1:=apt _ hE1
  refine ⟨A8,⟨hE1,rfl,rfl⟩,?_⟩;generalize (Vf ⟨os,(os.length:Int),0,cs,os,ks,gs,bs,r0⟩).out=r1 at*
  have o1:r1=r0++os:=o1
  have l1:(r1.length:Int)<=2000:=by rw [o1];simp only [B0,Fv,Bh];omega
  have hE2:YP ⟨ks,(ks.length:Int),0,cs,os,ks,gs,bs,r1⟩:=⟨rfl,rfl,hk,AP⟩
  have o2:=apr _ hE2
  refine ⟨A8,⟨hE2,rfl,rfl⟩,?_⟩;generalize (Vk ⟨ks,(ks.length:Int),0,cs,os,ks,gs,bs,r1⟩).out=r2 at*
  have o2:r2=r1++ks.map (·.1):=o2
  have l2:(r2.length:Int)<=3000:=AA
  have hE3:YO ⟨gs,(gs.length:Int),0,cs,os,ks,gs,bs,r2⟩:=⟨rfl,rfl,hg,AP⟩
  have o3:=apo _ hE3
  refine ⟨A8,⟨hE3,rfl,rfl⟩,?_⟩;generalize (Vo ⟨gs,(gs.length:Int),0,cs,os,ks,gs,bs,r2⟩).out=r3 at*
  have o3:r3=r2++gs.map (·.1):=o3
  have l3:(r3.length:Int)<=4000:=AA
  have hE4:YN ⟨bs,(bs.length:Int),0,r3⟩:=⟨rfl,rfl,hb,AP⟩
  have o4:=apm _ hE4
  refine ⟨A8,⟨hE4,rfl,rfl⟩,?_⟩;generalize (W0 ⟨bs,(bs.length:Int),0,r3⟩).out=r4 at*
  have o4:r4=r3++bs.map (·.1):=o4
  refine ⟨A0,?_⟩
  show LV.xl _ _=_
  rw [CJ,D3 A0,o4,o3,o2,o1,o0,Di];rfl
 ·cases h)
structure MD where
 r:Bool
 l:List Cd
 (n i:Int)
 B5:List Cd
 BW:List ByteArray
 C0:List Ko
 BH:List Ch
 C1:List Ba
def aEl:=bN f31 0
def uh (s:MD):T (Rd MD):=
 .br (decide (s.i<s.n)) (.ix s.i (s.l.length) (.req (0<=s.i) (.br (!(Hl s.i (Ag s.l s.i))) (.so (.ret) {s with r:=false}) (.nx {s with i:=A9 (s.i+1)})))) (.so (.exit 0) s)
def TM (s:MD) (j:Int):Bool:=Hl j (Ag s.l j)
def aA9 (s:MD):Prop:=s.i=0/\0<=s.n/\s.n<=1000/\s.n=(s.l.length:Int)
def Xq (s:MD):Prop:=0<=s.i/\s.i<=s.n/\s.n<=1000/\(s.n=(s.l.length:Int))/\∀j:Nat,(j:Int)<s.i->TM s j=true
def rW (s:MD):Nat:=(s.n-s.i).toNat
def zj (x:Ex) (s s':MD):Prop:=(x=.exit 0/\∀j:Nat,(j:Int)<s'.n->TM s' j=true)\/(x=.ret/\s'.r=false/\∃j:Nat,(j:Int)<s'.n/\TM s' j=false)
def ahe:∀s,aA9 s->Xq s:=by
 exact Kt
def atV:Da Xq rW zj uh:=by
 intro s hI;obtain ⟨h0,h1,h2,h3,h4⟩:=hI;refine AG (λc1=>AG (λc2=>?_) (λc2=>?_)) (λc1=>?_)
 ·have c1:s.i<s.n:=AO
  refine .inr ⟨rfl,rfl,s.i.toNat,AA,?_⟩;rw [BQ A0]
  have hg:TM s s.i=false:=aLn
  exact hg
 ·have c1:s.i<s.n:=AO
  have hg:TM s s.i=true:=aLn
  rw [AI (x:=s.i+1)];refine ⟨⟨AA,AA,h2,h3,λj hj=>?_⟩,by simp only [rW];omega⟩
  exact Mv
 ·exact SJ
def R6:AS MD:=⟨0,95,[1,2,13,14,15],[],λs=>[.own 0 0,s.r,s.l,s.n,s.i],λs=>[⟨[s.B5,s.BW,s.C0,s.BH,s.C1],28,.cl,false⟩],λv b=>⟨Eb v 1,Az Ao v 2,AK v 3,AK v 4,AF Ao b 0 0,AF .str b 0 1,AF B8 b 0 2,AF Au b 0 3,AF B9 b 0 4⟩,uh,λs r=> {s with r:=r.r,i:=r.i},λs=>s,λ_ s=>s,[.ret,.exit 0],aA9,Xq,rW⟩
abbrev adJ:=R6.run
abbrev aGp:=R6.Am
def avq:Rq Xq uh:=by
 exact aKb
def XR:List Bd:=[atH,pz,atJ]
def aOs:R6.Ok:={}
def aOS:R6.Pf (zj):=⟨ahe,λs h=>rfl,atV,avq⟩
def anZ:SA 0 aEl R6:=s1 aOs aOS XR kN
def ao5:Fi aA9 Xq zj aGp adJ:=AS.fin aOs aOS
structure MG where
 r:Bool
 l:List Ko
 (n i:Int)
 B5:List Cd
 BW:List ByteArray
 C0:List Ko
 BH:List Ch
 C1:List Ba
 cards:List Int
def aEk:=bN f31 1
def eU (s:MG):T (Rd MG):=letI a:=Ny s.l s.i;.br (decide (s.i<s.n)) (.ix s.i (s.l.length) (.br ((!(inB a.2.1 (0:Int) (A9 ((s.BW.length:Int)-1)))) ||((!(inB a.2.2.1 (1:Int) (9:Int))) ||((!(inB a.2.2.2 (1:Int) (1000000:Int))) ||(List.contains s.cards a.2.2.2)))) (.so (.ret) {s with r:=false}) (.req (List.contains s.cards a.2.2.2=false) (.nx {s with i:=A9 (s.i+1),cards:=s.cards++[a.2.2.2]})))) (.so (.exit 2) s)
def TL (s:MG) (j:Int):Bool:=koV s.BW.length (Ny s.l j)&&!(((s.l.take j.toNat).map (·.2.2.2)).contains (Ny s.l j).2.2.2)
def aA8 (s:MG):Prop:=s.i=0/\s.cards=[]/\s.n=(s.l.length:Int)/\s.n<=1000/\(s.BW.length:Int)<=1000
def Xp (s:MG):Prop:=0<=s.i/\s.i<=s.n/\s.n=(s.l.length:Int)/\s.n<=1000/\((s.BW.length:Int)<=1000)/\s.cards=(s.l.take s.i.toNat).map (·.2.2.2)/\∀j:Nat,(j:Int)<s.i->TL s j=true
def rU (s:MG):Nat:=(s.n-s.i).toNat
def zi (x:Ex) (s s':MG):Prop:=(x=.exit 2/\∀j:Nat,(j:Int)<s'.n->TL s' j=true)\/(x=.ret/\s'.r=false/\∃j:Nat,(j:Int)<s'.n/\TL s' j=false)
def ahd:∀s,aA8 s->Xp s:=by
 rintro s ⟨h0,h1,h2,h3,h4⟩
 exact ⟨A0,A0,h2,h3,h4,HR,λj hj=>A0⟩
def atU:Da Xp rU zi eU:=by
 intro s hI;unfold eU;obtain ⟨h0,h1,h2,h3,h4,h5,h6⟩:=hI;refine AG (λc1=>AG (λc2=>?_) (λc2=>?_)) (λc1=>?_)
 ·have c1:s.i<s.n:=AO
  refine .inr ⟨rfl,rfl,s.i.toNat,AP,?_⟩;rw [BQ h0]
  have hg:TL s s.i=false:=by
   exact aKC
  exact hg
 ·have c1:s.i<s.n:=AO
  have hg:TL s s.i=true:=by
   exact aKC
  rw [AI (x:=s.i+1)];refine ⟨⟨AP,AP,h2,h3,h4,?_,λj hj=>?_⟩,by simp only [rU];omega⟩
  ·simp only
   rw [(aDq h0 (show s.i<s.l.length by omega)).2,h5]
   try rw [I2]
   try rfl
  ·exact aLq
 ·exact aLC
def R5:AS MG:=⟨0,95,[1,2,5,27,28,29],[],λs=>[.own 0 0,s.r,.om 1,s.l,s.n,s.i],λs=>[⟨[s.B5,s.BW,s.C0,s.BH,s.C1],28,.cl,false⟩,⟨[],154,.st A7 s.cards,false⟩],λv b=>⟨Eb v 1,Az B8 v 3,AK v 4,AK v 5,AF Ao b 0 0,AF .str b 0 1,AF B8 b 0 2,AF Au b 0 3,AF B9 b 0 4,gSe A7 (CP b 1)⟩,eU,λs r=> {s with r:=r.r,i:=r.i,cards:=r.cards},λs=>s,λ_ s=>s,[.ret,.exit 2],aA8,Xp,rU⟩
abbrev adK:=R5.run
abbrev aGn:=R5.Am
def avp:Rq Xp eU:=by
 intro s hI;refine ⟨λc1=>⟨?_,λ_=>trivial,λc2=>⟨?_,trivial⟩⟩,λ_=>trivial⟩
 all_goals ((obtain ⟨h0,h1,h2,h3,h4,h5,h6⟩:=hI;first|(simp at c1;omega) |(simp only [Eu] at c2;exact c2.2.2.2)))
def aOr:R5.Ok:={}
def aOR:R5.Pf (zi):=⟨ahd,λs h=>rfl,atU,avp⟩
def anY:SA 0 aEk R5:=s1 aOr aOR XR kN
def ao4:Fi aA8 Xp zi aGn adK:=AS.fin aOr aOR
structure MJ where
 r:Bool
 l:List Ch
 (n i:Int)
 B5:List Cd
 BW:List ByteArray
 C0:List Ko
 BH:List Ch
 C1:List Ba
def aEj:=bN f31 2
def ug (s:MJ):T (Rd MJ):=
 .br (decide (s.i<s.n)) (.ix s.i (s.l.length) (.req ((s.B5.length:Int)<=1000/\(s.BW.length:Int)<=1000) (.br (!(Ga s.B5.length s.BW.length (AH s.l s.i))) (.so (.ret) {s with r:=false}) (.nx {s with i:=A9 (s.i+1)})))) (.so (.exit 4) s)
def TK (s:MJ) (j:Int):Bool:=Ga s.B5.length s.BW.length (AH s.l j)
def aA7 (s:MJ):Prop:=s.i=0/\0<=s.n/\s.n<=1000/\s.n=(s.l.length:Int)/\(s.B5.length:Int)<=1000/\(s.BW.length:Int)<=1000
def Xo (s:MJ):Prop:=0<=s.i/\s.i<=s.n/\s.n<=1000/\(s.n=(s.l.length:Int)/\(s.B5.length:Int)<=1000/\(s.BW.length:Int)<=1000)/\∀j:Nat,(j:Int)<s.i->TK s j=true
def rS (s:MJ):Nat:=(s.n-s.i).toNat
def zh (x:Ex) (s s':MJ):Prop:=(x=.exit 4/\∀j:Nat,(j:Int)<s'.n->TK s' j=true)\/(x=.ret/\s'.r=false/\∃j:Nat,(j:Int)<s'.n/\TK s' j=false)
def ahc:∀s,aA7 s->Xo s:=by
 exact Kt
def atT:Da Xo rS zh ug:=by
 intro s hI;obtain ⟨h0,h1,h2,h3,h4⟩:=hI;refine AG (λc1=>AG (λc2=>?_) (λc2=>?_)) (λc1=>?_)
 ·have c1:s.i<s.n:=AO
  refine .inr ⟨rfl,rfl,s.i.toNat,AP,?_⟩
  have hg:TK s s.i=false:=aLv
  exact hg
 ·have c1:s.i<s.n:=AO
  have hg:TK s s.i=true:=aLv
  rw [AI (x:=s.i+1)];refine ⟨⟨AA,AA,h2,h3,λj hj=>?_⟩,by simp only [rS];omega⟩
  exact Mv
 ·exact SJ
def R4:AS MJ:=⟨0,95,[1,2,67,68,69],[],λs=>[.own 0 0,s.r,s.l,s.n,s.i],λs=>[⟨[s.B5,s.BW,s.C0,s.BH,s.C1],28,.cl,false⟩],λv b=>⟨Eb v 1,Az Au v 2,AK v 3,AK v 4,AF Ao b 0 0,AF .str b 0 1,AF B8 b 0 2,AF Au b 0 3,AF B9 b 0 4⟩,ug,λs r=> {s with r:=r.r,i:=r.i},λs=>s,λ_ s=>s,[.ret,.exit 4],aA7,Xo,rS⟩
abbrev adp:=R4.run
abbrev aGm:=R4.Am
def avo:Rq Xo ug:=by
 intro s hI;refine ⟨λc1=>⟨?_,?_,λ_=>trivial,λ_=>trivial⟩,λ_=>trivial⟩
 all_goals ((obtain ⟨h0,h1,h2,h3,h4⟩:=hI;simp at c1;first|omega|exact h3.2))
def aOq:R4.Ok:={}
def aOQ:R4.Pf (zh):=⟨ahc,λs h=>rfl,atT,avo⟩
def anz:SA 0 aEj R4:=s1 aOq aOQ XR kN
def ao3:Fi aA7 Xo zh aGm adp:=AS.fin aOq aOQ
structure MP where
 r:Bool
 l:List Ba
 (n i:Int)
 B5:List Cd
 BW:List ByteArray
 C0:List Ko
 BH:List Ch
 C1:List Ba
def aEi:=bN f31 3
def uf (s:MP):T (Rd MP):=
 .br (decide (s.i<s.n)) (.ix s.i (s.l.length) (.br (!(inB (O3 s.l s.i).2 (0:Int) (A9 ((s.BH.length:Int)-1)))) (.so (.ret) {s with r:=false}) (.nx {s with i:=A9 (s.i+1)}))) (.so (.exit 6) s)
def TJ (s:MP) (j:Int):Bool:=inB (O3 s.l j).2 0 (A9 ((s.BH.length:Int)-1))
def aA6 (s:MP):Prop:=s.i=0/\0<=s.n/\s.n<=1000/\s.n=(s.l.length:Int)
def Xn (s:MP):Prop:=0<=s.i/\s.i<=s.n/\s.n<=1000/\(s.n=(s.l.length:Int))/\∀j:Nat,(j:Int)<s.i->TJ s j=true
def rR (s:MP):Nat:=(s.n-s.i).toNat
def zg (x:Ex) (s s':MP):Prop:=(x=.exit 6/\∀j:Nat,(j:Int)<s'.n->TJ s' j=true)\/(x=.ret/\s'.r=false/\∃j:Nat,(j:Int)<s'.n/\TJ s' j=false)
def ahb:∀s,aA6 s->Xn s:=by
 exact Kt
def atS:Da Xn rR zg uf:=by
 intro s hI;obtain ⟨h0,h1,h2,h3,h4⟩:=hI;refine AG (λc1=>AG (λc2=>?_) (λc2=>?_)) (λc1=>?_)
 ·have c1:s.i<s.n:=AO
  refine .inr ⟨rfl,rfl,s.i.toNat,AA,?_⟩
  have hg:TJ s s.i=false:=aLu
  exact hg
 ·have c1:s.i<s.n:=AO
  have hg:TJ s s.i=true:=aLu
  rw [AI (x:=s.i+1)];refine ⟨⟨AA,AA,h2,h3,λj hj=>?_⟩,by simp only [rR];omega⟩
  exact Mv
 ·exact SJ
def R3:AS MP:=⟨0,95,[1,2,79,80,81],[],λs=>[.own 0 0,s.r,s.l,s.n,s.i],λs=>[⟨[s.B5,s.BW,s.C0,s.BH,s.C1],28,.cl,false⟩],λv b=>⟨Eb v 1,Az B9 v 2,AK v 3,AK v 4,AF Ao b 0 0,AF .str b 0 1,AF B8 b 0 2,AF Au b 0 3,AF B9 b 0 4⟩,uf,λs r=> {s with r:=r.r,i:=r.i},λs=>s,λ_ s=>s,[.ret,.exit 6],aA6,Xn,rR⟩
abbrev aGF:=R3.run
abbrev aGl:=R3.Am
def auQ:Rq Xn uf:=by
 exact SP
def aOp:R3.Ok:={}
def aOP:R3.Pf (zg):=⟨ahb,λs h=>rfl,atS,auQ⟩
def anx:SA 0 aEi R3:=s1 aOp aOP XR kN
def ao2:Fi aA6 Xn zg aGl aGF:=AS.fin aOp aOP
def aHO:List LV->T LV
 | .agg a::r=>s5 a λcs os ks gs bs=>(match r with
  | []=> .req ((cs.length:Int)<=1000/\(os.length:Int)<=1000/\(ks.length:Int)<=1000/\(gs.length:Int)<=1000/\(bs.length:Int)<=1000) (.ok (Ls cs os ks gs bs))
  |_=> .no)
 |_=> .no
def atG:=vm (S:=aHO) func31 XR kN (L:=(λi=>if i=2 then R6.lp else if i=9 then R5.lp else if i=16 then R4.lp else if i=22 then R3.lp else Af i)) (λb hb=>by
 rw [show B6 _=[aEl,aEk,aEj,aEi] by kernel_rfl] at hb
 simp only [B1,Bv,Bw] at hb;rcases hb with rfl|rfl|rfl|rfl
 ·exact anZ
 ·exact anY
 ·exact anz
 ·exact anx) (λargs lv h=>by
 unfold aHO at h;split at h
 case h_2=>cases h
 replace h:=I8 h
 obtain ⟨cs,os,ks,gs,bs,rfl,h⟩:=h;split at h
 ·refine Aj (letI g:=(cs.length:Int);letI k:=(ks.length:Int);letI l:=(gs.length:Int);letI m:=(bs.length:Int);letI c:=(adJ (⟨false,cs,g,0,cs,os,ks,gs,bs⟩:MD));letI a:=(adK (⟨c.r,ks,k,0,cs,os,ks,gs,bs,([]:List Int)⟩:MG));letI e:=(adp (⟨a.r,gs,l,0,cs,os,ks,gs,bs⟩:MJ));.req (R6.q (⟨false,cs,g,0,cs,os,ks,gs,bs⟩:MD)) (.br (Bo (aGp (⟨false,cs,g,0,cs,os,ks,gs,bs⟩:MD)) (.ret)) (.ok c.r) (.req (R5.q (⟨c.r,ks,k,0,cs,os,ks,gs,bs,([]:List Int)⟩:MG)) (.br (Bo (aGn (⟨c.r,ks,k,0,cs,os,ks,gs,bs,([]:List Int)⟩:MG)) (.ret)) (.ok a.r) (.req (R4.q (⟨a.r,gs,l,0,cs,os,ks,gs,bs⟩:MJ)) (.br (Bo (aGm (⟨a.r,gs,l,0,cs,os,ks,gs,bs⟩:MJ)) (.ret)) (.ok e.r) (.req (R3.q (⟨e.r,bs,m,0,cs,os,ks,gs,bs⟩:MP)) (.br (Bo (aGl (⟨e.r,bs,m,0,cs,os,ks,gs,bs⟩:MP)) (.ret)) (.ok (aGF (⟨e.r,bs,m,0,cs,os,ks,gs,bs⟩:MP)).r) (.ok true))))))))) ?_
  obtain ⟨⟨hc,ho,hk,hg,hb⟩,rfl⟩:=h;refine LQ ⟨⟨rfl,AP,hc,rfl⟩,rfl,rfl⟩ (λhE0=>?_)
  obtain ⟨s',_,hq⟩:=ao5 _ hE0.1;rcases hq with ⟨q1,q2⟩ |⟨q1,q2,j,q3,q4⟩
  rotate_left
  ·rw [q1,q2]
   refine ⟨λ_=>Ax (λz=>LV.v (.bool z)) ?_,λh=>Ah⟩
   unfold Ls;rw [Q3 (f:=λj=>Hl j (Ag cs j)) j q3 q4]
   rfl
  rw [q1];refine ⟨λh=>Ah,λ_=>?_⟩
  have g0:Dc cs.length (λj=>Hl j (Ag cs j))=true:=EB.2 q2
  refine LQ ⟨⟨rfl,rfl,rfl,hk,ho⟩,rfl,rfl⟩ (λhE1=>?_)
  obtain ⟨s',_,hq⟩:=ao4 _ hE1.1;rcases hq with ⟨q1,q2⟩ |⟨q1,q2,j,q3,q4⟩
  rotate_left
  ·rw [q1,q2]
   refine ⟨λ_=>Ax (λz=>LV.v (.bool z)) ?_,λh=>Ah⟩
   unfold Ls
   have hn:(ks.all (koV os.length)&&once (ks.map (·.2.2.2)))=false:=by
    rw [Hz];intro hx
    have:=(WB (d:=(emp,0,0,0))).2 hx j q3
    exact Bool.noConfusion (this.symm.trans q4)
   rw [g0,Dj,<-S6,hn];rfl
  rw [q1];refine ⟨λh=>Ah,λ_=>?_⟩
  have g1:(ks.all (koV os.length)&&once (ks.map (·.2.2.2)))=true:=(WB (d:=(emp,0,0,0))).1 q2
  refine LQ ⟨⟨rfl,AP,hg,rfl,hc,ho⟩,rfl,rfl⟩ (λhE2=>?_)
  obtain ⟨s',_,hq⟩:=ao3 _ hE2.1;rcases hq with ⟨q1,q2⟩ |⟨q1,q2,j,q3,q4⟩
  rotate_left
  ·rw [q1,q2]
   refine ⟨λ_=>Ax (λz=>LV.v (.bool z)) ?_,λh=>Ah⟩
   unfold Ls
   have hn:gs.all (Ga cs.length os.length)=false:=by
    rw [Hz];intro hx
    have:=(Pz (d:=(emp,0,0,0,0,0,0,0))).2 hx j q3
    exact Bool.noConfusion (this.symm.trans q4)
   rw [g0,Dj,<-S6,g1,hn];rfl
  rw [q1];refine ⟨λh=>Ah,λ_=>?_⟩
  have g2:gs.all (Ga cs.length os.length)=true:=(Pz (d:=(emp,0,0,0,0,0,0,0))).1 q2
  have hw:=AI (x:=(gs.length:Int)-1)
  refine LQ ⟨⟨rfl,AJ,hb,rfl⟩,rfl,rfl⟩ (λhE3=>?_)
  obtain ⟨s',_,hq⟩:=ao2 _ hE3.1;rcases hq with ⟨q1,q2⟩ |⟨q1,q2,j,q3,q4⟩
  rotate_left
  ·rw [q1,q2]
   refine ⟨λ_=>Ax (λz=>LV.v (.bool z)) ?_,λh=>Ah⟩
   unfold Ls
   have hn:bs.all (λb=>inB b.2 0 ((gs.length:Int)-1))=false:=by
    rw [Hz];intro hx
    have:=(Pz (d:=(emp,0))).2 hx j q3
    have q4:inB (O3 bs j).2 0 (A9 ((gs.length:Int)-1))=false:=q4
    rw [hw] at q4;exact Bool.noConfusion (this.symm.trans q4)
   rw [g0,Dj,<-S6,g1,g2,hn];rfl
  rw [q1];refine ⟨λh=>Ah,λ_=>?_⟩
  have g3:bs.all (λb=>inB b.2 0 ((gs.length:Int)-1))=true:=(Pz (d:=(emp,0))).1 (λj hj=>by
   have:inB (O3 bs j).2 0 (A9 ((gs.length:Int)-1))=true:=q2 j hj
   rw [hw] at this;exact this)
  refine Ax (λz=>LV.v (.bool z)) ?_
  unfold Ls;rw [g0,Dj,<-S6,g1,g2,g3];rfl
 ·cases h)
structure Lm where
 r:Bool
 l:List ByteArray
 (n i:Int)
 B5:List Cd
 BW:List ByteArray
 C0:List Ko
 BH:List Ch
 C1:List Ba
 seen:List ByteArray
def aII:=bN f14 0
def ku (s:Lm):T (Rd Lm):=letI a:=gS s.l s.i;.br (decide (s.i<s.n)) (.ix s.i (s.l.length) (.br ((!(nameB a)) ||(List.contains s.seen a)) (.so (.ret) {s with r:=false}) (.req (List.contains s.seen a=false) (.nx {s with i:=A9 (s.i+1),seen:=s.seen++[a]})))) (.so (.exit 0) s)
def Ue (s:Lm) (j:Int):Bool:=nameB (gS s.l j)&&!(((s.l.take j.toNat).map id).contains (gS s.l j))
def vk (s:Lm):Prop:=s.i=0/\s.seen=[]/\s.n=(s.l.length:Int)/\s.n<=1000/\True
def ah (s:Lm):Prop:=0<=s.i/\s.i<=s.n/\s.n=(s.l.length:Int)/\s.n<=1000/\(True)/\s.seen=(s.l.take s.i.toNat).map id/\∀j:Nat,(j:Int)<s.i->Ue s j=true
def yj (s:Lm):Nat:=(s.n-s.i).toNat
def vt (x:Ex) (s s':Lm):Prop:=(x=.exit 0/\∀j:Nat,(j:Int)<s'.n->Ue s' j=true)\/(x=.ret/\s'.r=false/\∃j:Nat,(j:Int)<s'.n/\Ue s' j=false)
def alp:∀s,vk s->ah s:=by
 rintro s ⟨h0,h1,h2,h3,h4⟩
 exact ⟨A0,A0,h2,h3,h4,kX,λj hj=>A0⟩
def aic:Da ah yj vt ku:=by
 intro s hI;unfold ku;dsimp only [T.rd,T.rl,T.rv];obtain ⟨h0,h1,h2,h3,h4,h5,h6⟩:=hI;refine AG (λc1=>AG (λc2=>?_) (λc2=>?_)) (λc1=>?_)
 ·have c1:s.i<s.n:=AO
  refine .inr ⟨rfl,rfl,s.i.toNat,AP,?_⟩;rw [BQ h0]
  have hg:Ue s s.i=false:=by
   exact aKe
  exact hg
 ·have c1:s.i<s.n:=AO
  have hg:Ue s s.i=true:=by
   exact aKe
  rw [AI (x:=s.i+1)];refine ⟨⟨AP,AP,h2,h3,h4,?_,λj hj=>?_⟩,by simp only [yj];omega⟩
  ·simp only
   rw [(aGP h0 (show s.i<s.l.length by omega)).2,h5]
   try rw [I2]
   try rfl
  ·exact aLq
 ·exact aLC
def Ry:AS Lm:=⟨0,61,[1,2,3,42,43,44],[],λs=>[.own 0 0,s.r,.om 1,s.l,s.n,s.i],λs=>[⟨[s.B5,s.BW,s.C0,s.BH,s.C1],28,.cl,false⟩,⟨[],100,.st .str s.seen,false⟩],λv b=>⟨Eb v 1,Az .str v 3,AK v 4,AK v 5,AF Ao b 0 0,AF .str b 0 1,AF B8 b 0 2,AF Au b 0 3,AF B9 b 0 4,gSe .str (CP b 1)⟩,ku,λs r=> {s with r:=r.r,i:=r.i,seen:=r.seen},λs=>s,λ_ s=>s,[.ret,.exit 0],vk,ah,yj⟩
abbrev aJA:=Ry.run
abbrev aR2:=Ry.Am
def aiJ:Rq ah ku:=by
 intro s hI;refine ⟨λc1=>⟨?_,λ_=>trivial,λc2=>⟨?_,trivial⟩⟩,λ_=>trivial⟩
 all_goals ((obtain ⟨h0,h1,h2,h3,h4,h5,h6⟩:=hI;first|(simp at c1;omega) |(simp only [Eu] at c2;exact c2.2)))
def acW:List Bd:=[atw,au1,atG]
def aax:Ry.Ok:={}
def abV:Ry.Pf (vt):=⟨alp,λs h=>rfl,aic,aiJ⟩
def auW:SA 0 aII Ry:=s1 aax abV acW kN
def auw:Fi vk ah vt aR2 aJA:=AS.fin aax abV
def aHR:List LV->T LV
 | .agg a::r=>s5 a λcs os ks gs bs=>(match r with
  | []=> .ok (BF cs os ks gs bs)
  |_=> .no)
 |_=> .no
def Oi:=vm (S:=aHR) func14 acW kN (L:=(λi=>if i=5 then Ry.lp else Af i)) (λb hb=>by
 rw [show B6 _=[aII] by kernel_rfl] at hb
 simp only [B1,Bv,Bw] at hb;subst hb;exact auW) (λargs lv h=>by
 unfold aHR at h;split at h
 case h_2=>cases h
 replace h:=I8 h
 obtain ⟨cs,os,ks,gs,bs,rfl,h⟩:=h;split at h
 ·refine Aj (letI b:=L8 cs os ks gs bs;letI e:=(List.length b:Int);letI f:=(cs.length:Int);letI a:=(f<=1000/\(os.length:Int)<=1000/\(ks.length:Int)<=1000/\(gs.length:Int)<=1000/\(bs.length:Int)<=1000);.br ((decide (f<1)) ||((decide (f>16)) ||((decide ((os.length:Int)>8)) ||((decide ((ks.length:Int)>32)) ||((decide ((gs.length:Int)>16)) ||(decide ((bs.length:Int)>24))))))) (.ok false) (.req a (.req (Ry.q (⟨false,b,e,0,cs,os,ks,gs,bs,([]:List ByteArray)⟩:Lm)) (.br (Bo (aR2 (⟨false,b,e,0,cs,os,ks,gs,bs,([]:List ByteArray)⟩:Lm)) (.ret)) (.ok (aJA (⟨false,b,e,0,cs,os,ks,gs,bs,([]:List ByteArray)⟩:Lm)).r) (.req a (.ok (Ls cs os ks gs bs))))))) ?_
  obtain rfl:=h;refine ⟨λc=>Ax (λz=>LV.v (.bool z)) ?_,λc=>?_⟩
  ·rw [SO,Hz]
   intro hx;unfold BF at hx;rw [AU,AY] at hx;simp only [Cr,AY] at c;omega
  have hd:1<=cs.length/\cs.length<=16/\os.length<=8/\ks.length<=32/\gs.length<=16/\bs.length<=24:=by
   simp only [Eu,Cl] at c;omega
  have hs:BF cs os ks gs bs=(((L8 cs os ks gs bs).all nameB&&once (L8 cs os ks gs bs))&&Ls cs os ks gs bs):=by
   unfold BF;rw [Cs hd,Dj,S6]
  have hl:((L8 cs os ks gs bs).length:Int)<=1000:=by
   unfold L8;simp only [B0,Fv];omega
  rw [hs]
  have hr:(cs.length:Int)<=1000/\(os.length:Int)<=1000/\(ks.length:Int)<=1000/\(gs.length:Int)<=1000/\(bs.length:Int)<=1000:=A0
  refine ⟨hr,?_⟩;generalize L8 cs os ks gs bs=l at*;refine LQ ⟨⟨rfl,rfl,rfl,hl,trivial⟩,rfl,rfl⟩ (λhE=>?_)
  obtain ⟨s',_,hq⟩:=auw _ hE.1;rcases hq with ⟨q1,q2⟩ |⟨q1,q2,j,q3,q4⟩
  ·rw [q1]
   have hk:=(WB (d:=emp) (p:=nameB) (k:=id)).1 q2
   rw [SI] at hk;refine ⟨λh=>Ah,λ_=>⟨hr,?_⟩⟩
   rw [hk,Dj];rfl
  ·rw [q1,q2]
   refine ⟨λ_=>Ax (λz=>LV.v (.bool z)) ?_,λh=>Ah⟩
   have hn:(l.all nameB&&once l)=false:=by
    rw [Hz];intro hx
    have:=(WB (d:=emp) (p:=nameB) (k:=id)).2 (by rw [SI];exact hx) j q3
    exact Bool.noConfusion (this.symm.trans q4)
   rw [hn];rfl
 ·cases h)
def aI1:List LV->T LV
 | .agg a::r=>s5 a λcs os ks gs bs=>(match r with
  | [.v (.int .i64 c)]=> .ok (.fn 130 [xQ 1 [c],xQ 5 [cs,os,ks,gs,bs]])
  |_=> .no)
 |_=> .no
def QH:List Bd:=[]
def aaq:As:=kI QH (l0 QH)
def cx:=vo (S:=aI1) func92 QH aaq (λargs lv h=>by
 unfold aI1 at h;split at h
 case h_2=>cases h
 replace h:=I8 h
 obtain ⟨cs,os,ks,gs,bs,rfl,h⟩:=h;split at h
 ·rename_i c
  refine Aj (.ok (.fn 130 [(xQ 1 [c]),(xQ 5 [cs,os,ks,gs,bs])])) ?_;exact h
 ·cases h)
def vN:Array Tmp×Code×Code:=((Ia (f214.body.getD .skip))[0]?).getD (#[],.skip,.skip)
def ai9:Array Tmp:=vN.1
def ajb:Code:=vN.2.1
def ajT:Code:=vN.2.2
structure MT where
 cs:List Cd
 os:List ByteArray
 ks:List Ko
 gs:List Ch
 bs:List Ba
 (c b0:Int)
 b1:Bool
 st:LS
def QZ (s:MT):T (Rd MT):=
 .br (decide (s.c>=0)) (.br (s.c==s.b0) (.so (.ret) {s with b1:=true,st:=.done (.ret)}) (.ix s.c (s.cs.length) (.nx {s with c:=(Ag s.cs s.c).2.1}))) (.so (.exit 0) s)
def aAC (s:MT):Prop:=s.st=.ready/\Fe s.cs=true/\s.c<(s.cs.length:Int)/\s.b1=false
def gQ (s:MT):Prop:=s.st=.ready/\Fe s.cs=true/\s.c<(s.cs.length:Int)
def s8 (s:MT):Nat:=(s.c+1).toNat
def abr (x:Ex) (s s':MT):Prop:=(x=.ret/\s'.b1=true/\HC s.cs s.b0 s.c=true)\/(x=.exit 0/\HC s.cs s.b0 s.c=false)
def ajn:∀s,aAC s->gQ s:=by
 rintro s ⟨h0,h1,h2,h3⟩
 exact ⟨h0,h1,h2⟩
def aOI:Da gQ s8 abr QZ:=by
 intro s hI;unfold QZ;dsimp only [T.rd,T.rl,T.rv];obtain ⟨h0,h1,h2⟩:=hI
 have hp:=aOo (o:=s.b0) h1 h2
 refine AG (λc1=>AG (λc2=>?_) (λc2=>?_)) (λc1=>?_)
 ·have c1:0<=s.c:=AO
  exact .inl ⟨rfl,rfl,by rw [hp,AE c1,c2];rfl⟩
 ·have c1:0<=s.c:=AO
  have:=Q8 h1 c1 h2
  exact ⟨⟨h0,h1,AP⟩,by simp only [s8];omega⟩
 ·have c1:¬(0<=s.c):=AO
  exact .inr ⟨rfl,by rw [hp,AD c1]⟩
def YY:AS MT:=⟨3,18,[0,2,4],[],λs=>[.CN 2,xQ 5 [s.cs,s.os,s.ks,s.gs,s.bs],s.c],λs=>[⟨[s.b0],3,.cl,false⟩,⟨[s.b1],4,.cl,false⟩,⟨[.junk,.junk,.junk,.own 0 0,.own 1 0,.v (.tuple #[]),.junk,.v (.tuple #[]),.v (.tuple #[]),.v (.tuple #[]),.v (.tuple #[])],0,.Cc ai9 ajb ajT s.st,false⟩],λv b=>⟨Ai Ao (BM (v.getD 1 .junk) 0),Ai .str (BM (v.getD 1 .junk) 1),Ai B8 (BM (v.getD 1 .junk) 2),Ai Au (BM (v.getD 1 .junk) 3),Ai B9 (BM (v.getD 1 .junk) 4),AK v 2,Ae b 0 0,Kg b 1 0,.ready⟩,QZ,λs r=> {r with cs:=s.cs,os:=s.os,ks:=s.ks,gs:=s.gs,bs:=s.bs,b0:=s.b0},λs=> {s with st:=.ready},λx s=> {s with st:=(match x with| .ret=>(.done (.ret)) | .exit 0=> .ready|_=> .ready)},[.ret,.exit 0],aAC,gQ,s8⟩
abbrev pZ:=YY.run
abbrev qG:=YY.Am
def aw6:Rq gQ QZ:=by
 intro s hI;refine ⟨λc1=>⟨λ_=>trivial,λc2=>⟨?_,trivial⟩⟩,λ_=>trivial⟩
 ·(obtain ⟨h0,h1,h2⟩:=hI;simp at c1 h2;exact ⟨c1,h2⟩)
def sS:YY.Ok:={}
def qX:YY.Pf (abr):=⟨ajn,λs h=>by
 obtain ⟨cs,os,ks,gs,bs,c,b0,b1,st⟩:=s
 have e:st=.ready:=h.1
 subst e;rfl,aOI,aw6⟩
def aow:=s2 (b:=bN f130 0) sS qX QH aaq
def axC (s:MT) (hE:aAC s):(qG s=.ret/\(pZ s).b1=true/\HC s.cs s.b0 s.c=true)\/(qG s=.exit 0/\HC s.cs s.b0 s.c=false):=by
 have hk:=AS.KO sS qX (λs=>HC s.cs s.b0 s.c) (λs hI=>by
  obtain ⟨h0,h1,h2⟩:=hI
  have hp:=aOo (o:=s.b0) h1 h2
  show CM _ _ ((QZ s).rd s)
  unfold QZ;dsimp only [T.rd,T.rl];refine AG (λc1=>AG (λc2=>rfl) (λc2=>?_)) (λc1=>rfl)
  have c1:0<=s.c:=AO
  show HC _ _ _=HC _ _ _
  rw [hp,AE c1,c2,Ct]) s hE
 have hk:HC s.cs s.b0 (pZ s).c=HC s.cs s.b0 s.c:=hk
 obtain ⟨s',hI,hf⟩:=AS.end_ sS qX s hE
 have hq:=bM (aOI s' hI) hf
 have hc:=bM (Pn:=λ_=>True) (Ps:=λ_ r=>r.cs=s'.cs/\r.b0=s'.b0/\r.c=s'.c) (r:=(QZ s').rd s') (by
   unfold QZ;dsimp only [T.rd,T.rl];exact AG (λ_=>AG (λ_=>⟨rfl,rfl,rfl⟩) (λ_=>trivial)) (λ_=>⟨rfl,rfl,rfl⟩)) hf
 obtain ⟨hc1,hc3,hc2⟩:=hc
 have e1:s.cs=s'.cs:=hc1
 have e2:s.b0=s'.b0:=hc3
 rw [<-hk,hc2,e1,e2];exact hq
def aRo:List LV->T LV
 | [.fn 130 [.xq 1 q0,.xq 5 q1],.v (.int .i64 o)]=>(match ([q0 0]:List LV) with
  | [.v (.int .i64 c)]=>(match ([q1 0,q1 1,q1 2,q1 3,q1 4]:List LV) with
  | [.xl (.pair .str (.pair (.int .i64) (.pair (.int .i64) (.pair (.int .i64) (.pair (.pair (.int .i64) (.int .i64)) (.pair (.int .i64) (.pair (.int .i64) (.pair (.int .i64) (.pair (.int .i64) (.int .i64)))))))))) cs,.xl (.str) os,.xl (.pair .str (.pair (.int .i64) (.pair (.int .i64) (.int .i64)))) ks,.xl (.pair .str (.pair (.int .i64) (.pair (.int .i64) (.pair (.int .i64) (.pair (.int .i64) (.pair (.int .i64) (.pair (.int .i64) (.int .i64)))))))) gs,.xl (.pair .str (.int .i64)) bs]=> .req (Fe cs=true/\c<(cs.length:Int)) (.ok (HC cs o c))
  |_=> .no)
  |_=> .no)
 |_=> .no
def aap:As:=kI QH (la 1 func130 aow (l0 QH))
def axy (c:Int) (cs:List Cd) (os:List ByteArray) (ks:List Ko) (gs:List Ch) (bs:List Ba) (o:Int):Bc prog AT QH aap Af f214 [.fn 130 [xQ 1 [c],xQ 5 [cs,os,ks,gs,bs]],o]=.req (YY.q (⟨cs,os,ks,gs,bs,c,o,false,.ready⟩:MT)) (.br (Bo (qG (⟨cs,os,ks,gs,bs,c,o,false,.ready⟩:MT)) (.ret)) (.ok (pZ (⟨cs,os,ks,gs,bs,c,o,false,.ready⟩:MT)).b1) (.ok false)):=AZ
def ahQ:=vo (S:=aRo) func214 QH aap (λargs lv h=>by
 refine ⟨?_⟩;unfold aRo at h;split at h
 ·split at h
  case h_2=>cases h
  rename_i heq0;split at h
  case h_2=>cases h
  rename_i heq1;simp only [canL,canX];rw [Dn (n:=1) heq0];simp only [canL,canX];rw [Dn (n:=5) heq1];simp only [canL,canX];rw [axy];obtain ⟨⟨hu,hc⟩,rfl⟩:=h;refine LQ ⟨⟨rfl,hu,hc,rfl⟩,rfl,rfl⟩ (λhE=>?_)
  rcases axC _ hE.1 with ⟨h1,h2,h3⟩ |⟨h1,h2⟩
  ·rw [h1,h2]
   exact ⟨λ_=>Ax (λz=>LV.v (.bool z)) h3.symm,λh=>Ah⟩
  ·rw [h1]
   exact ⟨λh=>Ah,λ_=>Ax (λz=>LV.v (.bool z)) h2.symm⟩
 ·cases h)
structure Nv where
 l:List Ch
 (n i:Int)
 BZ:List Cd
 GG:List ByteArray
 GA:List Ko
 GB:List Ch
 GH:List Ba
 b1:Int
 out:List Int
def aIO:=bN f180 0
def lB (s:Nv):T (Rd Nv):=
 .br (decide (s.i<s.n)) (.ix s.i (s.l.length) (.req (Fe s.BZ=true/\(AH s.l s.i).2.1<(s.BZ.length:Int)) (.br (HC s.BZ s.b1 (AH s.l s.i).2.1) (.rb (s.out.length) (List.length ([s.i])) 8 (.re (s.out.length+List.length ([s.i])) (s.out++([s.i])) (.nx {s with i:=A9 (s.i+1),out:=s.out++([s.i])}))) (.rl s.out (.nx {s with i:=A9 (s.i+1)}))))) (.rl s.out (.so (.exit 0) s))
def m7 (s:Nv):Prop:=s.i=0/\s.out=[]/\s.n=(s.l.length:Int)/\s.n<=1000/\Fe s.BZ=true/\atB s.BZ s.l=true
def ab (s:Nv):Prop:=(0<=s.i/\s.i<=s.n)/\s.out=GY s.BZ s.l s.b1 s.i.toNat/\s.n=(s.l.length:Int)/\s.n<=1000/\Fe s.BZ=true/\atB s.BZ s.l=true
def fN (s:Nv):Nat:=(s.n-s.i).toNat
def wA (x:Ex) (s s':Nv):Prop:=x=.exit 0/\s'.out=GY s'.BZ s'.l s'.b1 s'.l.length
def alQ:∀s,m7 s->ab s:=by
 rintro s ⟨h0,h1,h2,h3,h4,h5⟩
 exact ⟨⟨A0,A0⟩,kX,h2,h3,h4,h5⟩
def akv:Da ab fN wA lB:=by
 intro s hI;unfold lB;dsimp only [T.rd,T.rl,T.rv];obtain ⟨⟨h0,h1⟩,h2,h3,h4,h5,h6⟩:=hI;refine AG (λc1=>?_) (λc1=>?_)
 ·have c1:s.i<s.n:=AO
  have hs:=ag4 (cs:=s.BZ) (gs:=s.l) (o:=s.b1) (k:=s.i.toNat)
  rw [show s.i.toNat+1=(s.i+1).toNat by omega,BQ h0] at hs
  rw [AI (x:=s.i+1)];refine AG (λc2=>?_) (λc2=>?_)
  ·refine ⟨⟨⟨AP,AP⟩,?_,h3,h4,h5,h6⟩,by simp only [fN];omega⟩
   simp only;rw [hs,AE c2,h2]
  ·refine ⟨⟨⟨AP,AP⟩,?_,h3,h4,h5,h6⟩,by simp only [fN];omega⟩
   simp only;rw [hs,AD kU,h2,FJ]
 ·have c1:s.n<=s.i:=AO
  exact ⟨rfl,by rw [h2,show s.i.toNat=s.l.length by omega]⟩
def S3:AS Nv:=⟨0,42,[6,7,26,27,28],[.nl 7 3 A7],λs=>[.fn 213 [.own 0 0,.own 1 0],.os 2 1 0 (s.out.length),s.l,s.n,s.i],λs=>[⟨[s.BZ,s.GG,s.GA,s.GB,s.GH],28,.cl,false⟩,⟨[s.b1],3,.cl,false⟩,bV 3 A7 s.out],λv b=>⟨Az Au v 2,AK v 3,AK v 4,AF Ao b 0 0,AF .str b 0 1,AF B8 b 0 2,AF Au b 0 3,AF B9 b 0 4,Ae b 1 0,Ab A7 b 2⟩,lB,λs r=> {s with i:=r.i,out:=r.out},λs=>s,λ_ s=>s,[.exit 0],m7,ab,fN⟩
abbrev oW:=S3.run
abbrev azp:=S3.Am
def aiV:Rq ab lB:=by
 intro s hI;refine ⟨λc1=>⟨?_,?_,λc2=>⟨?_,?_,trivial⟩,λc2=>⟨A8,trivial⟩⟩,λc1=>⟨A8,trivial⟩⟩
 all_goals ((obtain ⟨⟨h0,h1⟩,h2,h3,h4,h5,h6⟩:=hI;have hol:s.out.length<=s.i.toNat:=(by rw [h2];exact pK);(try simp only [AY] at c1);first|omega|exact ⟨h5,tz h6 h0 A0⟩ |(refine ⟨A0,?_,?_⟩<;>simp only [BX,Bh]<;>omega) |exact ⟨rfl,AJ⟩ |exact ⟨rfl,rfl⟩))
def fg:List Bd:=[Oi,cx,ahQ]
def aao:As:=kI fg (l0 fg)
def ab8:S3.Ok:={}
def abh:S3.Pf (wA):=⟨alQ,λs h=>rfl,akv,aiV⟩
def auf:SA 0 aIO S3:=s1 ab8 abh fg aao
def ahC:Fi m7 ab wA azp oW:=AS.fin ab8 abh
def aFQ:List LV->T LV
 | .agg a::r=>s5 a λcs os ks gs bs=>(match r with
  | [.v (.int .i64 o)]=> .ok (.AM [.xl A7 (Ph cs os ks gs bs o),wC cs os ks gs bs o])
  |_=> .no)
 |_=> .no
def anh:=vm (S:=aFQ) func180 fg aao (L:=(λi=>if i=6 then S3.lp else Af i)) (λb hb=>by
 rw [show B6 _=[aIO] by kernel_rfl] at hb
 simp only [B1,Bv,Bw] at hb;subst hb;exact auf) (λargs lv h=>by
 unfold aFQ at h;split at h
 case h_2=>cases h
 replace h:=I8 h
 obtain ⟨cs,os,ks,gs,bs,rfl,h⟩:=h;split at h
 ·rename_i o
  refine Aj (letI a:=(oW (⟨gs,(gs.length:Int),0,cs,os,ks,gs,bs,o,([]:List Int)⟩:Nv));.br ((!(BF cs os ks gs bs)) ||((decide (o<0)) ||(decide (o>=(cs.length:Int))))) (.ok (.AM [.xl A7 ([]:List Int),(1:Int)])) (.r0 Int (.req (S3.q (⟨gs,(gs.length:Int),0,cs,os,ks,gs,bs,o,([]:List Int)⟩:Nv)) (.rz a.out (.ok (.AM [.xl A7 ((a.out.drop 0).take (List.length a.out)),(0:Int)])))))) ?_;obtain rfl:=h;refine ⟨λc=>?_,λc=>?_⟩
  ·have hn:¬(BF cs os ks gs bs=true/\0<=o/\o<(cs.length:Int)):=by
    rintro ⟨h1,h2,h3⟩
    rw [h1] at c
    simp at c
    omega
   show LV.AM _=_
   unfold Ph wC;rw [AD hn,AD hn]
  ·simp only [Eu,Hy,Cl] at c
   have hp:BF cs os ks gs bs=true/\0<=o/\o<(cs.length:Int):=⟨c.1,A0,A0⟩
   have hl:=(D9.1 c.1).1
   have hE:m7 ⟨gs,(gs.length:Int),0,cs,os,ks,gs,bs,o,([]:List Int)⟩:=⟨rfl,rfl,rfl,AP,oS c.1,oU c.1⟩
   obtain ⟨s',_,q1,q2⟩:=ahC _ hE
   have q2:(oW ⟨gs,(gs.length:Int),0,cs,os,ks,gs,bs,o,([]:List Int)⟩).out=GY cs gs o gs.length:=q2
   refine ⟨A8,⟨hE,rfl,rfl⟩,A0,?_⟩
   show LV.AM [LV.xl _ _,_]=_
   rw [CJ,Dv,q2];unfold Ph wC;rw [AE hp,AE hp]
 ·cases h)
def aIc:List LV->T LV
 | [.v (.agg ⟨[.int .i64 am,.int .i64 mo,.int .i64 ga,.int .i64 lo,.int .i64 de]⟩)]=> .ok (Hx (am,mo,ga,lo,de))
 |_=> .no
def Qn:List Bd:=[]
def hnd20:As:=kI Qn (l0 Qn)
def auC:=vo (S:=aIc) func131 Qn hnd20 (λargs lv h=>by
 unfold aIc at h;split at h
 ·rename_i am mo ga lo de
  refine Aj (.br ((am==0)&&((mo==0)&&((ga==0)&&((lo==0)&&(de==0))))) (.ok true) (.br ((decide (am>=0))&&(decide (am<=200000))) (.br (decide (mo>am)) (.br (decide (mo<=200000)) (.br ((decide (ga>=0))&&(decide (ga<=1000))) (.br ((decide (lo>=0))&&(decide (lo<=1000))) (.ok (.v (.bool ((decide (de>=1))&&(decide (de<=1000000)))))) (.ok false)) (.ok false)) (.ok false)) (.ok false)) (.ok false))) ?_;obtain rfl:=h;unfold Hx cbZ;simp only;refine ⟨λc=>by rw [c];rfl,λc=>?_⟩
  rw [c,Ct];unfold inB;refine ⟨λc1=>⟨λc2=>⟨λc3=>⟨λc4=>⟨λc5=>?_,λc5=>?_⟩,λc4=>?_⟩,λc3=>?_⟩,λc2=>?_⟩,λc1=>?_⟩
  all_goals refine Ax (λz=>LV.v (.bool z)) ?_
  all_goals
   rw [I0];simp only [AU,wG,AY,Cl,HP] at*
   constructor<;>intro hz<;>first|exact hz.elim|(exfalso;omega) |omega
 ·cases h)
def aIT:List LV->T LV
 | [.xq 6 q0]=>(match ([q0 0,q0 1,q0 2,q0 3,q0 4,q0 5]:List LV) with
  | [.v (.int .i64 am),.v (.int .i64 mo),.v (.int .i64 ga),.v (.int .i64 lo),.v (.int .i64 de),.v (.int .i64 now)]=> .ok (.v (.int .i64 (if de<lo then de else lo)))
  |_=> .no)
 |_=> .no
def apN (am mo ga lo de now:Int):Bc prog AT (Qn) kN Af f133 [xQ 6 [am,mo,ga,lo,de,now]]=.ok (.v (.int .i64 (if de<lo then de else lo))):=AZ
def atE:=vo (S:=aIT) func133 Qn kN (λargs lv h=>by
 refine ⟨?_⟩;unfold aIT at h;split at h
 ·split at h
  case h_2=>cases h
  rename_i heq0;simp only [canL,canX];rw [Dn (n:=6) heq0];simp only [canL,canX];rw [apN];exact h
 ·cases h)
def aIS:List LV->T LV
 | [.xq 6 q0]=>(match ([q0 0,q0 1,q0 2,q0 3,q0 4,q0 5]:List LV) with
  | [.v (.int .i64 am),.v (.int .i64 mo),.v (.int .i64 ga),.v (.int .i64 lo),.v (.int .i64 de),.v (.int .i64 now)]=> .ok (cbZ (am,mo,ga,lo,de))
  |_=> .no)
 |_=> .no
def apM (am mo ga lo de now:Int):Bc prog AT (Qn) kN Af f132 [xQ 6 [am,mo,ga,lo,de,now]]=.ok (.v (.bool ((am==0)&&((mo==0)&&((ga==0)&&((lo==0)&&(de==0))))))):=AZ
def atD:=vo (S:=aIS) func132 Qn kN (λargs lv h=>by
 refine ⟨?_⟩;unfold aIS at h;split at h
 ·split at h
  case h_2=>cases h
  rename_i heq0;simp only [canL,canX];rw [Dn (n:=6) heq0];simp only [canL,canX];rw [apM];exact h
 ·cases h)
structure O2 where
 (low high afb asM asO asN ahH anG b11 b12 b13 b14 ahG b3:Int)
def lA (s:O2):T (Rd O2):=letI a:=A9 (s.low+(A9 ((A9 ((A9 (s.high-s.low))+1)).tdiv 2)));.br (decide (s.low<s.high)) (.req ((2:Int)≠0) (.br (decide ((A9 ((A9 (s.b12*a))*a))<=s.b3)) (.nx {s with low:=a}) (.nx {s with high:=A9 (a-1)}))) (.so (.exit 0) s)
def wD (s:O2):Prop:=s.low=0/\s.high=1000/\(0<=s.b12/\s.b12<=1000)/\0<=s.b3
def aa (s:O2):Prop:=(0<=s.low/\s.low<=s.high/\s.high<=1000)/\s.b12*s.low*s.low<=s.b3/\(∀a:Int,s.high<a->a<=1000->¬s.b12*a*a<=s.b3)/\(0<=s.b12/\s.b12<=1000)/\0<=s.b3
def fM (s:O2):Nat:=(s.high-s.low).toNat
def w9 (x:Ex) (s s':O2):Prop:=x=.exit 0/\s'.low=prm s'.b12 s'.b3
def ald:∀s,wD s->aa s:=by
 rintro s ⟨h0,h1,h2,h3⟩
 exact ⟨A0,by rw [h0];simpa using h3,λa h h2=>A0,h2,h3⟩
def akD:Da aa fM w9 lA:=by
 intro s hI;unfold lA;dsimp only [T.rd,T.rl,T.rv];obtain ⟨⟨h0,h1,h2⟩,h3,h4,⟨h5,h6⟩,h7⟩:=hI
 have em:s.low<s.high->A9 (s.low+A9 ((A9 (A9 (s.high-s.low)+1)).tdiv 2))=s.low+(s.high-s.low+1) / 2:=λc=>by
  rw [AI (x:=s.high-s.low),AI (x:=s.high-s.low+1),HM A0,AI (x:=(s.high-s.low+1) / 2),AI]
 refine AG (λc1=>?_) (λc1=>?_)
 ·have c1:s.low<s.high:=AO
  rw [em c1]
  have hm1:s.low<s.low+(s.high-s.low+1) / 2:=A0
  have hm2:s.low+(s.high-s.low+1) / 2<=s.high:=A0
  generalize s.low+(s.high-s.low+1) / 2=m at hm1 hm2|-;obtain ⟨⟨b1,b2⟩,b3,b4⟩:=aii h5 h6 (m:=m) A0 A0;rw [AI (x:=s.b12*m),AI (x:=s.b12*m*m),AI (x:=m-1)];refine AG (λc2=>?_) (λc2=>?_)
  ·have c2:s.b12*m*m<=s.b3:=D8
   exact ⟨⟨⟨AP,AP,h2⟩,c2,h4,⟨h5,h6⟩,h7⟩,by simp only [fM];omega⟩
  ·have c2:¬s.b12*m*m<=s.b3:=D8
   refine ⟨⟨⟨h0,AP,AP⟩,h3,λa ha hk=>?_,⟨h5,h6⟩,h7⟩,by simp only [fM];omega⟩
   have:=anu h5 (a:=m) (b:=a) A0 (by simp only at ha;omega)
   simp only;omega
 ·have c1:s.high<=s.low:=AO
  refine ⟨rfl,(aFm (k:=1000) h0 A0 (.inr h3) (λa ha hk=>h4 a A0 A0)).symm⟩
def aj:AS O2:=⟨4,25,[0,1,2],[],λs=>[s.low,s.high,.fn 135 [.own 2 0,.own 3 0]],λs=>[⟨[s.afb,s.asM,s.asO,s.asN,s.ahH],72,.cl,false⟩,⟨[s.anG,s.b11,s.b12,s.b13,s.b14,s.ahG],256,.cl,false⟩,⟨[.own 1 0],254,.cl,false⟩,⟨[s.b3],3,.cl,false⟩],λv b=>⟨AK v 0,AK v 1,Ae b 0 0,Ae b 0 1,Ae b 0 2,Ae b 0 3,Ae b 0 4,Ae b 1 0,Ae b 1 1,Ae b 1 2,Ae b 1 3,Ae b 1 4,Ae b 1 5,Ae b 3 0⟩,lA,λs r=> {s with low:=r.low,high:=r.high},λs=>s,λ_ s=>s,[.exit 0],wD,aa,fM⟩
abbrev aJB:=aj.run
abbrev azo:=aj.Am
def UJ:List Bd:=[auC,atD,atE]
def ak9:As:=kI UJ (l0 UJ)
def aiT:Rq aa lA:=by
 intro s hI;refine ⟨λc1=>⟨?_,λ_=>trivial,λ_=>trivial⟩,λ_=>trivial⟩
 ·(first|decide|omega)
def ab6:aj.Ok:={}
def abf:aj.Pf (w9):=⟨ald,λs h=>rfl,akD,aiT⟩
def aud:=s2 (b:=bN f134 0) ab6 abf UJ ak9
def ayY:Fi wD aa w9 azo aJB:=AS.fin ab6 abf
def aHZ:List LV->T LV
 | [.v (.agg ⟨[.int .i64 am,.int .i64 mo,.int .i64 ga,.int .i64 lo,.int .i64 de]⟩)]=> .tu #[Mo (am,mo,ga,lo,de),pmE (am,mo,ga,lo,de)]
 |_=> .no
def ak8:As:=kI UJ (la 1 func134 aud (l0 UJ))
def atu:=vo (S:=aHZ) func95 UJ ak8 (λargs lv h=>by
 unfold aHZ at h;split at h
 ·rename_i am mo ga lo de
  refine Aj (letI a:=A9 ((if de<lo then de else lo)*(A9 (mo-am)));.br (!(Hx (am,mo,ga,lo,de))) (.tu #[(0:Int),(1:Int)]) (.br (cbZ (am,mo,ga,lo,de)) (.tu #[(1000:Int),(0:Int)]) (.req (aj.q (⟨0,1000,am,mo,ga,lo,de,am,mo,ga,lo,de,0,a⟩:O2)) (.tu #[(aJB (⟨0,1000,am,mo,ga,lo,de,am,mo,ga,lo,de,0,a⟩:O2)).low,(0:Int)])))) ?_
  obtain rfl:=h;refine ⟨λc=>?_,λc=>⟨λc2=>?_,λc2=>?_⟩⟩
  ·have c:Hx (am,mo,ga,lo,de)=false:=FN
   simp [T.all,Mo,pmE,c]
  ·have c:Hx (am,mo,ga,lo,de)=true:=FN
   simp [T.all,Mo,pmE,c,c2]
  ·have c:Hx (am,mo,ga,lo,de)=true:=FN
   obtain ⟨⟨h1,h2,h3⟩,⟨h4,h5⟩,⟨h6,h7⟩,h8,h9⟩:=ah8 c c2;simp only at h1 h2 h3 h4 h5 h6 h7 h8 h9
   have hm:0<=(if de<lo then de else lo)/\(if de<lo then de else lo)<=1000:=by split<;>omega
   have e:Mo (am,mo,ga,lo,de)=prm ga ((if de<lo then de else lo)*(mo-am)):=by
    unfold Mo;rw [AE c,AD kU]
   have e2:pmE (am,mo,ga,lo,de)=0:=by
    unfold pmE;rw [AE c]
   rw [e,e2,AI (x:=mo-am)];generalize (if de<lo then de else lo)=mn at hm|-
   have a1:0<=mn*(mo-am):=I4 hm.1 A0
   have a2:mn*(mo-am)<=1000*(mo-am):=S5 hm.2 A0
   rw [AI (x:=mn*(mo-am))];refine LQ ⟨⟨rfl,rfl,⟨h4,h5⟩,a1⟩,rfl,rfl⟩ (λhE=>?_)
   obtain ⟨s',_,q1,q2⟩:=ayY _ hE.1
   show LV.v (.tuple #[.int .i64 _,_])=_
   rw [q2];rfl
 ·cases h)
structure KL where
 first:Int
 l:List Int
 (n i:Int)
def aEP:=bN f96 0
def TW (s:KL):T (Rd KL):=
 .br (decide (s.i<s.n)) (.ix s.i (s.l.length) (.nx {s with first:=(if (gi s.l s.i)<s.first then (gi s.l s.i) else s.first),i:=A9 (s.i+1)})) (.so (.exit 0) s)
def il (s:KL):Prop:=s.i=0/\s.n=(s.l.length:Int)/\s.n<=1000
def Yl (s:KL):Prop:=0<=s.i/\s.i<=s.n/\s.n=(s.l.length:Int)/\s.n<=1000
def rJ (s:KL):Nat:=(s.n-s.i).toNat
def zQ (x:Ex) (s s':KL):Prop:=x=.exit 0/\s'.i=s'.n
def ajL:∀s,il s->Yl s:=by
 exact jw
def axb:Da Yl rJ zQ TW:=by
 intro s hI;unfold TW;dsimp only [T.rd,T.rl,T.rv];obtain ⟨h0,h1,h2,h3⟩:=hI;refine AG (λc1=>?_) (λc1=>?_)
 ·have c1:s.i<s.n:=AO
  rw [AI (x:=s.i+1)];exact ⟨⟨AP,AP,h2,h3⟩,by simp only [rJ];omega⟩
 ·have c1:s.n<=s.i:=AO
  exact SQ
def RG:AS KL:=⟨0,18,[0,7,8,9],[],λs=>[s.first,.xl A7 s.l,s.n,s.i],λ_=>[],λv b=>⟨AK v 0,Az A7 v 1,AK v 2,AK v 3⟩,TW,λs r=> {r with l:=s.l,n:=s.n},λs=>s,λ_ s=>s,[.exit 0],il,Yl,rJ⟩
abbrev bz:=RG.run
abbrev arz:=RG.Am
def avd:Rq Yl TW:=by
 intro s hI;refine ⟨λc1=>⟨?_,trivial⟩,λ_=>trivial⟩
 ·(obtain ⟨h0,h1,h2,h3⟩:=hI;simp at c1;omega)
def ft:List Bd:=[]
def sj:RG.Ok:={}
def sM:RG.Pf (zQ):=⟨ajL,λs h=>rfl,axb,avd⟩
def aoO:SA 0 aEP RG:=s1 sj sM ft kN
def aqv:Fi il Yl zQ arz bz:=AS.fin sj sM
def amY (s:KL) (hE:il s):(λs:KL=>IK s.first (s.l.drop s.i.toNat)) (bz s)=(λs:KL=>IK s.first (s.l.drop s.i.toNat)) s:=by
 exact AS.KO sj sM (λs:KL=>IK s.first (s.l.drop s.i.toNat)) (λs hI=>by
  show CM _ _ ((TW s).rd s)
  unfold TW;dsimp only [T.rd,T.rl];obtain ⟨h0,h1,h2,h3⟩:=hI;refine AG (λc1=>?_) (λc1=>rfl)
  have c1:s.i<s.n:=AO
  rw [AI (x:=s.i+1)]
  show IK _ _=IK _ _
  rw [(gi_step h0 (show s.i<s.l.length by omega)).1]
  rfl) s hE
def aHE:List LV->T LV
 | [.v (.int .i64 f),.xl (.int .i64) l]=> .req ((l.length:Int)<=1000) (.ok (IK f l))
 |_=> .no
def atz:=vm (S:=aHE) func96 ft kN (L:=(λi=>if i=2 then RG.lp else Af i)) (λb hb=>by
 rw [show B6 _=[aEP] by kernel_rfl] at hb
 simp only [B1,Bv,Bw] at hb;subst hb;exact aoO) (λargs lv h=>by
 unfold aHE at h;split at h
 ·rename_i f l
  refine Aj (.req (RG.q (⟨f,l,(l.length:Int),0⟩:KL)) (.ok (bz (⟨f,l,(l.length:Int),0⟩:KL)).first)) ?_;obtain ⟨hl,rfl⟩:=h;refine LQ ⟨⟨rfl,rfl,hl⟩,rfl,rfl⟩ (λhE=>?_)
  obtain ⟨s',_,q1,q2⟩:=aqv _ hE.1
  have q3:=amY _ hE.1
  simp only at q3;rw [q2] at q3
  have e:(bz ⟨f,l,(l.length:Int),0⟩).n=(l.length:Int):=rfl
  have e2:(bz ⟨f,l,(l.length:Int),0⟩).l=l:=rfl
  rw [e,e2,EJ A0] at q3;exact Ax (λz=>LV.v (.int .i64 z)) q3
 ·cases h)
def aI9:List LV->T LV
 | [.v (.agg ⟨[.string nm,.int .i64 up_,.int .i64 li,.int .i64 ne,.int .i64 ra,.int .i64 he,.int .i64 am,.int .i64 mo,.int .i64 ga,.int .i64 lo,.int .i64 de]⟩)]=> .ok (EL (nm,up_,li,ne,(ra,he),am,mo,ga,lo,de))
 |_=> .no
def ajx:List Bd:=[atu,atz]
def qz:=vo (S:=aI9) func70 ajx kN (λargs lv h=>by
 unfold aI9 at h;split at h
 ·rename_i nm up_ li ne ra he am mo ga lo de
  refine Aj (letI a:=(Mo (am,mo,ga,lo,de));.br ((pmE (am,mo,ga,lo,de)) !=0) (.br (ra==0) (.req ((List.length ([ne,(0:Int)]):Int)<=1000) (.ok (IK li ([ne,(0:Int)])))) (.req ((List.length ([ne,(0:Int),ra]):Int)<=1000) (.ok (IK li ([ne,(0:Int),ra]))))) (.br (ra==0) (.req ((List.length ([ne,a]):Int)<=1000) (.ok (IK li ([ne,a])))) (.req ((List.length ([ne,a,ra]):Int)<=1000) (.ok (IK li ([ne,a,ra])))))) ?_;obtain rfl:=h;unfold EL;simp only;refine ⟨λc=>?_,λc=>?_⟩
  ·have e:Mo (am,mo,ga,lo,de)=0:=by
    rw [aq4] at c
    have c:Hx (am,mo,ga,lo,de)=false:=FN
    unfold Mo;rw [c];rfl
   rw [e];refine ⟨λc2=>⟨AJ,?_⟩,λc2=>⟨AJ,?_⟩⟩
   ·rw [AE D8];rfl
   ·rw [AD D8];rfl
  ·refine ⟨λc2=>⟨AJ,?_⟩,λc2=>⟨AJ,?_⟩⟩
   ·rw [AE D8];rfl
   ·rw [AD D8];rfl
 ·cases h)
def aHV:List LV->T LV
 | [.v (.int .i64 k),.xq 5 q0,.xq 2 q1]=>(match ([q0 0,q0 1,q0 2,q0 3,q0 4]:List LV) with
  | [.xl (.pair .str (.pair (.int .i64) (.pair (.int .i64) (.pair (.int .i64) (.pair (.pair (.int .i64) (.int .i64)) (.pair (.int .i64) (.pair (.int .i64) (.pair (.int .i64) (.pair (.int .i64) (.int .i64)))))))))) cs,.xl (.str) os,.xl (.pair .str (.pair (.int .i64) (.pair (.int .i64) (.int .i64)))) ks,.xl (.pair .str (.pair (.int .i64) (.pair (.int .i64) (.pair (.int .i64) (.pair (.int .i64) (.pair (.int .i64) (.pair (.int .i64) (.int .i64)))))))) gs,.xl (.pair .str (.int .i64)) bs]=>(match ([q1 0,q1 1]:List LV) with
  | [.v (.int .i64 c),.v (.int .i64 p)]=> .req ((0<=k/\k<(gs.length:Int))/\0<=p) (.ok (usA (AH gs k).2.2.1 p))
  |_=> .no)
  |_=> .no)
 |_=> .no
def apS (k:Int) (cs:List Cd) (os:List ByteArray) (ks:List Ko) (gs:List Ch) (bs:List Ba) (c p:Int):Bc prog AT (ft) kN Af f182 [k,xQ 5 [cs,os,ks,gs,bs],xQ 2 [c,p]]=.ix k (gs.length) (.req (0<=p) (.ok (.v (.bool ((Bn .i64 (AH gs k).2.2.1 (A9 ((1:Int)*2^(min p.toNat 64)))) !=0))))):=AZ
def aIu:=vo (S:=aHV) func182 ft kN (λargs lv h=>by
 refine ⟨?_⟩;unfold aHV at h;split at h
 ·split at h
  case h_2=>cases h
  rename_i heq0;split at h
  case h_2=>cases h
  rename_i heq1;simp only [canL,canX];rw [Dn (n:=5) heq0];simp only [canL,canX];rw [Dn (n:=2) heq1];simp only [canL,canX];rw [apS];obtain ⟨⟨h1,h2⟩,h3⟩:=h;exact ⟨h1,h2,h3⟩
 ·cases h)
structure JR where
 cs:List Cd
 os:List ByteArray
 ks:List Ko
 gs:List Ch
 bs:List Ba
 (c p:Int)
 l:List Int
 (n i:Int)
 out:List Int
def aEh:=bN f181 0
def Tn (s:JR):T (Rd JR):=letI a:=gi s.l s.i;.br (decide (s.i<s.n)) (.ix s.i (s.l.length) (.req ((0<=a/\a<(s.gs.length:Int))/\0<=s.p) (.br (usA (AH s.gs a).2.2.1 s.p) (.rb (s.out.length) (List.length ([a])) 8 (.re (s.out.length+List.length ([a])) (s.out++([a])) (.nx {s with i:=A9 (s.i+1),out:=s.out++([a])}))) (.rl s.out (.nx {s with i:=A9 (s.i+1)}))))) (.rl s.out (.so (.exit 0) s))
def YV (s:JR):Prop:=s.i=0/\s.out=[]/\s.n=(s.l.length:Int)/\s.n<=1000/\0<=s.p/\∀k∈s.l,0<=k/\k<(s.gs.length:Int)
def Z5 (s:JR):Prop:=(0<=s.i/\s.i<=s.n)/\(s.out.length:Int)<=s.i/\s.n=(s.l.length:Int)/\s.n<=1000/\0<=s.p/\∀k∈s.l,0<=k/\k<(s.gs.length:Int)
def df (s:JR):Nat:=(s.n-s.i).toNat
def zd (x:Ex) (s s':JR):Prop:=x=.exit 0/\s'.i=s'.n
def aks:∀s,YV s->Z5 s:=by
 rintro s ⟨h0,h1,h2,h3,h4,h5⟩
 exact ⟨A0,by rw [h1];simp;omega,h2,h3,h4,h5⟩
def ah6:Da Z5 df zd Tn:=by
 intro s hI;unfold Tn;dsimp only [T.rd,T.rl,T.rv];obtain ⟨⟨h0,h1⟩,h2,h3,h4,h5,h6⟩:=hI;refine AG (λc1=>?_) (λc1=>?_)
 ·have c1:s.i<s.n:=AO
  rw [AI (x:=s.i+1)];refine AG (λc2=>?_) (λc2=>?_)
  ·exact ⟨⟨⟨AP,AP⟩,Zp,h3,h4,h5,h6⟩,by simp only [df];omega⟩
  ·exact ⟨⟨⟨AP,AP⟩,AP,h3,h4,h5,h6⟩,by simp only [df];omega⟩
 ·have c1:s.n<=s.i:=AO
  exact SQ
def QY:AS JR:=⟨0,23,[1,5,8,9,10],[.nl 5 3 A7],λs=>[.fn 182 [xQ 5 [s.cs,s.os,s.ks,s.gs,s.bs],xQ 2 [s.c,s.p]],.os 0 1 0 (s.out.length),.xl A7 s.l,s.n,s.i],λs=>[bV 3 A7 s.out],λv b=>⟨Ai Ao (BM (gFn (v.getD 0 .junk) 0) 0),Ai .str (BM (gFn (v.getD 0 .junk) 0) 1),Ai B8 (BM (gFn (v.getD 0 .junk) 0) 2),Ai Au (BM (gFn (v.getD 0 .junk) 0) 3),Ai B9 (BM (gFn (v.getD 0 .junk) 0) 4),gI (BM (gFn (v.getD 0 .junk) 1) 0),gI (BM (gFn (v.getD 0 .junk) 1) 1),Az A7 v 2,AK v 3,AK v 4,Ab A7 b 0⟩,Tn,λs r=> {s with i:=r.i,out:=r.out},λs=>s,λ_ s=>s,[.exit 0],YV,Z5,df⟩
abbrev W1:=QY.run
abbrev arK:=QY.Am
def ax0:Rq Z5 Tn:=by
 intro s hI;refine ⟨λc1=>⟨?_,?_,λc2=>⟨?_,?_,trivial⟩,λc2=>⟨A8,trivial⟩⟩,λc1=>⟨A8,trivial⟩⟩
 all_goals ((obtain ⟨⟨h0,h1⟩,h2,h3,h4,h5,h6⟩:=hI;(try simp only [AY] at c1);first|omega|(refine ⟨h6 _ ?_,h5⟩;rw [Io A0];exact FK _) |(refine ⟨A0,?_,?_⟩<;>simp only [BX,Bh]<;>omega) |exact ⟨rfl,AJ⟩ |exact ⟨rfl,rfl⟩))
def z7:List Bd:=[aIu]
def ss:QY.Ok:={}
def sP:QY.Pf (zd):=⟨aks,λs h=>rfl,ah6,ax0⟩
def aoj:SA 0 aEh QY:=s1 ss sP z7 kN
def atA:Fi YV Z5 zd arK W1:=AS.fin ss sP
def an8 (s:JR) (hE:YV s):(λs:JR=>s.out++Dz s.gs s.p (s.l.drop s.i.toNat)) (W1 s)=(λs:JR=>s.out++Dz s.gs s.p (s.l.drop s.i.toNat)) s:=by
 exact AS.KO ss sP (λs:JR=>s.out++Dz s.gs s.p (s.l.drop s.i.toNat)) (λs hI=>by
  show CM _ _ ((Tn s).rd s)
  unfold Tn;dsimp only [T.rd,T.rl];obtain ⟨⟨h0,h1⟩,h2,h3,h4,h5,h6⟩:=hI;refine AG (λc1=>?_) (λc1=>rfl)
  have c1:s.i<s.n:=AO
  rw [AI (x:=s.i+1)];refine AG (λc2=>?_) (λc2=>?_)
  ·show _++Dz _ _ _=_++Dz _ _ _
   rw [(gi_step h0 (show s.i<s.l.length by omega)).1]
   simp [Dz,Kn,c2]
  ·show _++Dz _ _ _=_++Dz _ _ _
   rw [(gi_step h0 (show s.i<s.l.length by omega)).1]
   simp [Dz,Kn,c2]) s hE
def at7 (s:JR) (hE:YV s):(W1 s).out=Dz s.gs s.p s.l:=by
 obtain ⟨s',_,q1,q2⟩:=atA s hE
 have q3:=an8 s hE
 obtain ⟨h0,h1,h2,h3⟩:=hE;simp only at q3;rw [q2,show (W1 s).n=s.n from rfl,show (W1 s).l=s.l from rfl,EJ A0,h0,h1] at q3
 simpa [Dz] using q3
def aIi:List LV->T LV
 | [.xl (.int .i64) l,.fn 182 [.xq 5 q0,.xq 2 q1]]=>(match ([q0 0,q0 1,q0 2,q0 3,q0 4]:List LV) with
  | [.xl (.pair .str (.pair (.int .i64) (.pair (.int .i64) (.pair (.int .i64) (.pair (.pair (.int .i64) (.int .i64)) (.pair (.int .i64) (.pair (.int .i64) (.pair (.int .i64) (.pair (.int .i64) (.int .i64)))))))))) cs,.xl (.str) os,.xl (.pair .str (.pair (.int .i64) (.pair (.int .i64) (.int .i64)))) ks,.xl (.pair .str (.pair (.int .i64) (.pair (.int .i64) (.pair (.int .i64) (.pair (.int .i64) (.pair (.int .i64) (.pair (.int .i64) (.int .i64)))))))) gs,.xl (.pair .str (.int .i64)) bs]=>(match ([q1 0,q1 1]:List LV) with
  | [.v (.int .i64 c),.v (.int .i64 p)]=> .req (XM gs p l) (.ok (.xl A7 (Dz gs p l)))
  |_=> .no)
  |_=> .no)
 |_=> .no
def aqk (l:List Int) (cs:List Cd) (os:List ByteArray) (ks:List Ko) (gs:List Ch) (bs:List Ba) (c p:Int):letI a:=(W1 (⟨cs,os,ks,gs,bs,c,p,l,(l.length:Int),(0:Int),([]:List Int)⟩:JR));Bc prog AT (z7) kN (λi=>if i=3 then QY.lp else Af i) f181 [.xl A7 l,.fn 182 [xQ 5 [cs,os,ks,gs,bs],xQ 2 [c,p]]]=.r0 Int (.req (QY.q (⟨cs,os,ks,gs,bs,c,p,l,(l.length:Int),(0:Int),([]:List Int)⟩:JR)) (.rz a.out (.ok (.xl A7 ((a.out.drop 0).take (List.length a.out)))))):=AZ
def atc:=vm (S:=aIi) func181 z7 kN (L:=(λi=>if i=3 then QY.lp else Af i)) (λb hb=>by
 rw [show B6 _=[aEh] by kernel_rfl] at hb
 simp only [B1,Bv,Bw] at hb;subst hb;exact aoj) (λargs lv h=>by
 refine ⟨?_⟩;unfold aIi at h;split at h
 ·split at h
  case h_2=>cases h
  rename_i heq0;split at h
  case h_2=>cases h
  rename_i heq1;simp only [canL,canX];rw [Dn (n:=5) heq0];simp only [canL,canX];rw [Dn (n:=2) heq1];simp only [canL,canX];rw [aqk];obtain ⟨⟨hp,hl,hm⟩,rfl⟩:=h;refine ⟨A8,LQ ⟨⟨rfl,rfl,rfl,AP,hp,hm⟩,rfl,rfl⟩ (λhE=>⟨A0,?_⟩)⟩
  show LV.xl _ _=_
  rw [CJ,Dv,at7 _ hE.1]
 ·cases h)
def vM:Array Tmp×Code×Code:=((Ia (f141.body.getD .skip))[0]?).getD (#[],.skip,.skip)
def ai8:Array Tmp:=vM.1
def aja:Code:=vM.2.1
def ajS:Code:=vM.2.2
structure Nu where
 (n c:Int)
 Ei:List Cd
 OH:List ByteArray
 OG:List Ko
 DG:List Ch
 O4:List Ba
 below:List Int
 Jw:List Cd
 Jy:List ByteArray
 Ju:List Ko
 Jv:List Ch
 K8:List Ba
 rows:List Rw
 st:LS
def kv (s:Nu):T (Rd Nu):=letI a:=Ph s.Ei s.OH s.OG s.DG s.O4 s.c;letI b:=EL (Ag s.Ei s.c);letI d:=(b,Dz s.DG (0:Int) a);letI e:=(b,Dz s.DG (1:Int) a);letI f:=(b,Dz s.DG (2:Int) a);letI g:=(decide ((List.length (Dz s.DG (2:Int) a):Int)>0));letI h:=s.rows++([d]);letI i:=s.rows.length+List.length ([d])+List.length ([e]);letI j:=A9 (s.c+1);letI k:=s.rows.length+List.length ([d])+List.length ([e])+List.length ([f]);letI l:=s.Ei.length;letI m:=s.rows.length+List.length ([d]);letI o:=s.rows++([e]);letI p:=(XM s.DG (2:Int) a);letI q:=s.rows.length+List.length ([d])+List.length ([f]);letI r:=s.rows.length+List.length ([e])+List.length ([f]);letI t:=(decide ((List.length (Dz s.DG (1:Int) a):Int)>0));letI u:=h++([e]);letI v:=s.rows.length+List.length ([e]);letI w:=s.rows.length;.br (decide (s.c<s.n)) (.req (XM s.DG (0:Int) a) (.br (decide ((List.length (Dz s.DG (0:Int) a):Int)>0)) (.ix s.c l (.rb w (List.length ([d])) 32 (.req (XM s.DG (1:Int) a) (.br t (.ix s.c l (.ra m (List.length h) i 32 (.req p (.br g (.ix s.c l (.ra i (List.length u) k 32 (.re k (u++([f])) (.nx {s with c:=j,below:=a,rows:=(u++([f]))})))) (.re i u (.nx {s with c:=j,below:=a,rows:=u})))))) (.req p (.br g (.ix s.c l (.ra m (List.length h) q 32 (.re q (h++([f])) (.nx {s with c:=j,below:=a,rows:=(h++([f]))})))) (.re m h (.nx {s with c:=j,below:=a,rows:=h})))))))) (.req (XM s.DG (1:Int) a) (.br t (.ix s.c l (.rb w (List.length ([e])) 32 (.req p (.br g (.ix s.c l (.ra v (List.length o) r 32 (.re r (o++([f])) (.nx {s with c:=j,below:=a,rows:=(o++([f]))})))) (.re v o (.nx {s with c:=j,below:=a,rows:=o})))))) (.req p (.br g (.ix s.c l (.rb w (List.length ([f])) 32 (.re (s.rows.length+List.length ([f])) (s.rows++([f])) (.nx {s with c:=j,below:=a,rows:=(s.rows++([f]))})))) (.rl s.rows (.nx {s with c:=j,below:=a})))))))) (.rl s.rows (.so (.exit 0) s))
def lh (s:Nu):Prop:=s.st=.ready/\s.c=0/\s.rows=[]/\BF s.Ei s.OH s.OG s.DG s.O4=true/\s.n=(s.Ei.length:Int)
def ai (s:Nu):Prop:=s.st=.ready/\(0<=s.c/\s.c<=s.n)/\s.rows=DJ s.Ei s.DG s.c.toNat/\BF s.Ei s.OH s.OG s.DG s.O4=true/\s.n=(s.Ei.length:Int)
def yk (s:Nu):Nat:=(s.n-s.c).toNat
def vu (x:Ex) (s s':Nu):Prop:=x=.exit 0/\s'.rows=DJ s'.Ei s'.DG s'.Ei.length
def alr:∀s,lh s->ai s:=by
 rintro s ⟨h0,h1,h2,h3,h4⟩
 exact ⟨h0,A0,by rw [h1,h2];rfl,h3,h4⟩
def aiC:Da ai yk vu kv:=by
 intro s hI;unfold kv;obtain ⟨h0,⟨h1,h2⟩,h3,h4,h5⟩:=hI;refine AG (λc1=>?_) (λc1=>?_)
 rotate_left
 ·have c1:s.n<=s.c:=AO
  exact ⟨rfl,AA⟩
 have c1:s.c<s.n:=AO
 have hl:=(D9.1 h4).1
 rw [AI (x:=s.c+1)]
 have eb:Ph s.Ei s.OH s.OG s.DG s.O4 s.c=GY s.Ei s.DG s.c s.DG.length:=by
  unfold Ph
  grind
 rw [eb]
 have fin:∀r:List Rw,r=DJ s.Ei s.DG s.c.toNat++(rowP s.Ei s.DG s.c 0++rowP s.Ei s.DG s.c 1++rowP s.Ei s.DG s.c 2)->r=DJ s.Ei s.DG (s.c+1).toNat:=λr hr=>by
  rw [hr,show (s.c+1).toNat=s.c.toNat+1 by omega,DJ,BQ h1]
  rfl
 refine AG (λc2=>?_) (λc2=>?_)<;>refine AG (λc3=>?_) (λc3=>?_)<;>refine AG (λc4=>?_) (λc4=>?_)
 all_goals
  refine ⟨⟨h0,⟨AP,AP⟩,?_,h4,h5⟩,by simp only [yk];omega⟩
  simp only [AY,Cl] at c2 c3 c4;refine fin _ ?_;simp only [h3,rowP]
  first|rw [AE A0] |rw [AD A0]
  first|rw [AE A0] |rw [AD A0]
  first|rw [AE A0] |rw [AD A0]
  grind
def aT:AS Nu:=⟨5,22,[0,7,8],[.nc 1 0 299 Ec,.pc 2 0 A7,.pk 0],λs=>[.CN 4,s.n,s.c],λs=>[⟨[s.Ei,s.OH,s.OG,s.DG,s.O4],28,.cl,true⟩,⟨[.os 5 2 0 (s.rows.length)],262,.cl,false⟩,⟨[.xl A7 s.below],29,.cl,false⟩,⟨[s.Jw,s.Jy,s.Ju,s.Jv,s.K8],28,.cl,false⟩,⟨[.junk,.own 0 0,.junk,.junk,.own 1 0,.own 2 0,.v (.tuple #[]),.v (.tuple #[]),.junk,.junk,.junk,.junk,.junk,.v (.tuple #[]),.v (.tuple #[]),.v (.tuple #[]),.v (.tuple #[]),.v (.tuple #[]),.v (.tuple #[]),.v (.tuple #[]),.v (.tuple #[]),.v (.tuple #[]),.v (.tuple #[]),.junk,.v (.tuple #[]),.v (.tuple #[]),.v (.tuple #[]),.v (.tuple #[]),.v (.tuple #[]),.v (.tuple #[]),.v (.tuple #[]),.v (.tuple #[]),.v (.tuple #[]),.v (.tuple #[]),.v (.tuple #[]),.v (.tuple #[]),.v (.tuple #[]),.v (.tuple #[]),.v (.tuple #[]),.v (.tuple #[]),.v (.tuple #[]),.v (.tuple #[]),.junk],0,.Cc ai8 aja ajS s.st,false⟩,bV 299 Ec s.rows],λv b=>⟨AK v 1,AK v 2,AF Ao b 0 0,AF .str b 0 1,AF B8 b 0 2,AF Au b 0 3,AF B9 b 0 4,AF A7 b 2 0,AF Ao b 3 0,AF .str b 3 1,AF B8 b 3 2,AF Au b 3 3,AF B9 b 3 4,Ab Ec b 5,.ready⟩,kv,λs r=> {r with n:=s.n,Ei:=s.Ei,OH:=s.OH,OG:=s.OG,DG:=s.DG,O4:=s.O4,Jw:=s.Jw,Jy:=s.Jy,Ju:=s.Ju,Jv:=s.Jv,K8:=s.K8,st:=s.st},λs=> {s with st:=.ready},λx s=> {s with st:=(match x with| .exit 0=> .ready|_=> .ready)},[.exit 0],lh,ai,yk⟩
abbrev oV:=aT.run
abbrev azi:=aT.Am
def UI:List Bd:=[Oi,qz,anh,atc,aIu]
def ak7:As:=kI UI (l0 UI)
def aiK:Rq ai kv:=by
 intro s hI;refine ⟨λc1=>⟨?_,λc2=>⟨?_,?_,?_,λc3=>⟨?_,?_,?_,λc4=>⟨?_,?_,?_,trivial⟩,λc4=>⟨?_,trivial⟩⟩,λc3=>⟨?_,λc5=>⟨?_,?_,?_,trivial⟩,λc5=>⟨?_,trivial⟩⟩⟩,λc2=>⟨?_,λc6=>⟨?_,?_,?_,λc7=>⟨?_,?_,?_,trivial⟩,λc7=>⟨?_,trivial⟩⟩,λc6=>⟨?_,λc8=>⟨?_,?_,?_,trivial⟩,λc8=>⟨A8,trivial⟩⟩⟩⟩,λc1=>⟨A8,trivial⟩⟩
 all_goals ((obtain ⟨h0,⟨h1,h2⟩,h3,h4,h5⟩:=hI;have hl:=(D9.1 h4).1;(try simp only [AY] at c1);have hr:s.rows.length<=3*s.c.toNat:=(by rw [h3];exact nB);have eb:Ph s.Ei s.OH s.OG s.DG s.O4 s.c=GY s.Ei s.DG s.c s.DG.length:=(by unfold Ph;rw [AE ⟨h4,h1,A0⟩]);first|omega|((try simp only);rw [eb];refine ⟨Aa,G8 pK A0,λk hk=>aEC hk⟩) |(refine ⟨A0,?_,?_⟩<;>simp only [B0,BX,Bh]<;>omega) |(simp only [B0,BX,Bh];omega) |exact ⟨rfl,AJ⟩ |exact ⟨rfl,rfl⟩))
def aay:aT.Ok:={}
def abW:aT.Pf (vu):=⟨alr,λs h=>by
 obtain ⟨n,c,Ei,OH,OG,DG,O4,below,Jw,Jy,Ju,Jv,K8,rows,st⟩:=s
 have e:=h.1
 subst e;rfl,aiC,aiK⟩
def auX:=s2 (b:=bN f94 0) aay abW UI ak7
def auK:Fi lh ai vu azi oV:=AS.fin aay abW
def aHW:List LV->T LV
 | .agg a::r=>s5 a λcs os ks gs bs=>(match r with
  | []=> .ok (.AM [.xl Ec (JQ cs os ks gs bs),O0 cs os ks gs bs])
  |_=> .no)
 |_=> .no
def ak6:As:=kI UI (la 1 func94 auX (l0 UI))
def We:=vo (S:=aHW) func141 UI ak6 (λargs lv h=>by
 unfold aHW at h;split at h
 case h_2=>cases h
 replace h:=I8 h
 obtain ⟨cs,os,ks,gs,bs,rfl,h⟩:=h;split at h
 ·refine Aj (letI a:=(oV (⟨(cs.length:Int),0,cs,os,ks,gs,bs,([]:List Int),cs,os,ks,gs,bs,([]:List Rw),.ready⟩:Nu));.br (!(BF cs os ks gs bs)) (.ok (.AM [.xl Ec ([]:List Rw),(1:Int)])) (.r0 Rw (.req (aT.q (⟨(cs.length:Int),0,cs,os,ks,gs,bs,([]:List Int),cs,os,ks,gs,bs,([]:List Rw),.ready⟩:Nu)) (.rz a.rows (.ok (.AM [.xl Ec ((a.rows.drop 0).take (List.length a.rows)),(0:Int)])))))) ?_
  obtain rfl:=h;refine ⟨λc=>?_,λc=>?_⟩
  ·have c:BF cs os ks gs bs=false:=AA
   unfold JQ O0;rw [c];rfl
  ·have c:BF cs os ks gs bs=true:=AA
   have hE:lh ⟨(cs.length:Int),0,cs,os,ks,gs,bs,([]:List Int),cs,os,ks,gs,bs,([]:List (Int×(List Int))),.ready⟩:=⟨rfl,rfl,rfl,c,rfl⟩
   obtain ⟨s',_,q1,q2⟩:=auK _ hE
   have q2:(oV ⟨(cs.length:Int),0,cs,os,ks,gs,bs,([]:List Int),cs,os,ks,gs,bs,([]:List (Int×(List Int))),.ready⟩).rows=DJ cs gs cs.length:=q2
   refine ⟨A8,⟨hE,rfl,rfl⟩,A0,?_⟩
   show LV.AM [LV.xl _ _,_]=_
   unfold JQ O0
   grind
 ·cases h)
def aDK:List LV->T LV
 | [.v (.int .i64 n),.v (.int .i64 a),.v (.int .i64 b)]=> .ok (inB n a b)
 |_=> .no
def KF:List Bd:=[]
def bZ:=vo (S:=aDK) func120 KF kN (λargs lv h=>by
 unfold aDK at h;split at h
 ·rename_i n a b
  refine Aj (.ok (.v (.bool ((decide (n>=a))&&(decide (n<=b)))))) ?_;exact h
 ·cases h)
def aSc:List LV->T LV
 | [.v (.agg ⟨[.string nm,.int .i64 at_,.int .i64 ph,.int .i64 mn,.int .i64 mx,.int .i64 st,.int .i64 fb,.int .i64 ow]⟩)]=> .ok (IP ph mn mx st fb)
 |_=> .no
def ajv:List Bd:=[bZ]
def aai:=vo (S:=aSc) func159 ajv kN (λargs lv h=>by
 unfold aSc at h;split at h
 ·rename_i nm at_ ph mn mx st fb ow
  refine Aj (.ok (.v (.bool ((inB ph (1:Int) (7:Int))&&((inB mn (1:Int) (80:Int))&&((inB mx (1:Int) (80:Int))&&((inB st (1:Int) (80:Int))&&((decide (mn<=mx))&&((fb==0) ||(inB fb mn mx)))))))))) ?_;exact h
 ·cases h)
def aFB:List LV->T LV
 | []=> .ok (.v (.agg #[(0:Int),(0:Int),(0:Int),false]))
 |_=> .no
def amO  :Bc prog AT KF kN Af f18 []=.ok (.v (.agg #[(0:Int),(0:Int),(0:Int),false])):=AZ
def WE:=vo (S:=aFB) func18 KF kN (λargs lv h=>by
 refine ⟨?_⟩;unfold aFB at h;split at h
 ·simp only [canL]
  rw [amO];exact h
 ·cases h)
def aSn:List LV->T LV
 | [.v (.agg ⟨[.string nm,.int .i64 at_,.int .i64 ph,.int .i64 mn,.int .i64 mx,.int .i64 st,.int .i64 fb,.int .i64 ow]⟩),.v (.agg ⟨[.int .i64 0,.int .i64 0,.int .i64 0,.bool false]⟩)]=> .ok (IP ph mn mx st fb)
 |_=> .no
def akS:List Bd:=[WE,bZ,aai]
def ahU:=vo (S:=aSn) func107 akS kN (λargs lv h=>by
 unfold aSn at h;split at h
 ·rename_i nm at_ ph mn mx st fb ow
  refine Aj (.br (!(IP ph mn mx st fb)) (.ok false) (.br (((0:Int)==0)&&(((0:Int)==0)&&(((0:Int)==0)&&(false==false)))) (.ok true) (.ok (.v (.bool ((inB (0:Int) (0:Int) (5:Int))&&((inB (0:Int) (0:Int) (1000000:Int))&&((inB (0:Int) (0:Int) mx)&&(if (0:Int) !=0 then (!false) ||((0:Int)==5) else ((0:Int)==0)&&((!false) ||((0:Int)==5))))))))))) ?_
  obtain rfl:=h;refine ⟨λhb=>?_,λhb=>⟨λ_=>?_,λhf=>absurd hf Aa⟩⟩
  ·show LV.v (.bool false)=_
   rw [show IP _ _ _ _ _=false by simpa using hb]
  ·show LV.v (.bool true)=_
   rw [show IP _ _ _ _ _=true by simpa using hb]
 ·cases h)
def aHX:List LV->T LV
 | [.v (.agg ⟨[.string nm,.int .i64 at_,.int .i64 ph,.int .i64 mn,.int .i64 mx,.int .i64 st,.int .i64 fb,.int .i64 ow]⟩),.v (.int .i64 am)]=> .req (chP mn mx st) (.ok (EE mn mx st am))
 |_=> .no
def aIw:=vo (S:=aHX) func148 KF kN (λargs lv h=>by
 unfold aHX at h;split at h
 ·rename_i nm at_ ph mn mx st fb ow am
  refine Aj (.br (decide (am<mn)) (.ok (0:Int)) (.req (st≠0) (.ok (A9 ((if mx<am then mx else am)-((A9 ((if mx<am then mx else am)-mn)).tmod st)))))) ?_
  obtain ⟨hc,rfl⟩:=h;refine ⟨λhb=>?_,λhb=>⟨by unfold chP at hc;omega,?_⟩⟩
  ·exact Ax (λz=>LV.v (.int .i64 z)) (ahE yK)
  ·exact Ax (λz=>LV.v (.int .i64 z)) (ahD hc yK)
 ·cases h)
def aSi:List LV->T LV
 | [.v (.agg ⟨[.string nm,.int .i64 at_,.int .i64 ph,.int .i64 mn,.int .i64 mx,.int .i64 st,.int .i64 fb,.int .i64 ow]⟩),.v (.agg ⟨[.int .i64 a,.int .i64 si]⟩)]=> .ok (Hr ph mn mx st fb a si)
 |_=> .no
def akR:List Bd:=[WE,ahU,aIw]
def aal:=vo (S:=aSi) func143 akR kN (λargs lv h=>by
 unfold aSi at h;split at h
 ·rename_i nm at_ ph mn mx st fb ow a si
  refine Aj (.br ((!(IP ph mn mx st fb)) ||((decide (si<0)) ||((decide (si>1000000)) ||(decide (a<0))))) (.ok false) (.req (chP mn mx st) (.ok (.v (.bool ((EE mn mx st a)==a)))))) ?_;obtain rfl:=h;refine ⟨λhb=>?_,λhb=>⟨?_,?_⟩⟩
  ·exact Ax (λz=>LV.v (.bool z)) (am5 hb)
  ·exact (aJZ hb).1
  ·exact Ax (λz=>LV.v (.bool z)) (aJZ hb).2
 ·cases h)
def aFH:List LV->T LV
 | [.v (.bool b)]=> .ok (.v (.int .i64 (if b then (1:Int) else 0)))
 |_=> .no
def aoB:=vo (S:=aFH) func153 KF kN (λargs lv h=>by
 unfold aFH at h;split at h
 ·rename_i b
  refine Aj (.br b (.ok (1:Int)) (.ok (0:Int))) ?_;obtain rfl:=h;cases b
  ·exact ⟨λhb=>Ku,λ_=>rfl⟩
  ·exact ⟨λ_=>rfl,λhb=>Ku⟩
 ·cases h)
def aRb:List LV->T LV
 | [.xq 8 q0]=>(match ([q0 0,q0 1,q0 2,q0 3,q0 4,q0 5,q0 6,q0 7]:List LV) with
  | [.v (.string nm),.v (.int .i64 at_),.v (.int .i64 ph),.v (.int .i64 mn),.v (.int .i64 mx),.v (.int .i64 st),.v (.int .i64 fb),.v (.int .i64 ow)]=> .ok (.v (.agg #[mn,(0:Int)]))
  |_=> .no)
 |_=> .no
def axn (nm:ByteArray) (at_ ph mn mx st fb ow:Int):Bc prog AT KF kN Af f149 [xQ 8 [.v (.string nm),at_,ph,mn,mx,st,fb,ow]]=.ok (.v (.agg #[mn,(0:Int)])):=AZ
def ahw:=vo (S:=aRb) func149 KF kN (λargs lv h=>by
 refine ⟨?_⟩;unfold aRb at h;split at h
 ·split at h
  case h_2=>cases h
  rename_i heq0;simp only [canL,canX];rw [Dn (n:=8) heq0];simp only [canL,canX];rw [axn];exact h
 ·cases h)
def aRa:List LV->T LV
 | [.xq 1 q0]=>(match ([q0 0]:List LV) with
  | [.v (.int .i64 lo)]=> .ok (.v (.agg #[(0:Int),lo]))
  |_=> .no)
 |_=> .no
def axm (lo:Int):Bc prog AT KF kN Af f150 [xQ 1 [lo]]=.ok (.v (.agg #[(0:Int),lo])):=AZ
def ahv:=vo (S:=aRa) func150 KF kN (λargs lv h=>by
 refine ⟨?_⟩;unfold aRa at h;split at h
 ·split at h
  case h_2=>cases h
  rename_i heq0;simp only [canL,canX];rw [Dn (n:=1) heq0];simp only [canL,canX];rw [axm];exact h
 ·cases h)
def aRZ:List LV->T LV
 | []=> .ok (.v (.agg #[(0:Int),(0:Int)]))
 |_=> .no
def axl  :Bc prog AT KF kN Af f151 []=.ok (.v (.agg #[(0:Int),(0:Int)])):=AZ
def ahu:=vo (S:=aRZ) func151 KF kN (λargs lv h=>by
 refine ⟨?_⟩;unfold aRZ at h;split at h
 ·simp only [canL]
  rw [axl];exact h
 ·cases h)
def aRY:List LV->T LV
 | [.xq 1 q0,.xq 2 q1,.xq 8 q2,.xq 1 q3]=>(match ([q0 0]:List LV) with
  | [.v (.int .i64 lv)]=>(match ([q1 0,q1 1]:List LV) with
  | [.v (.int .i64 a),.v (.int .i64 si)]=>(match ([q2 0,q2 1,q2 2,q2 3,q2 4,q2 5,q2 6,q2 7]:List LV) with
  | [.v (.string nm),.v (.int .i64 at_),.v (.int .i64 ph),.v (.int .i64 mn),.v (.int .i64 mx),.v (.int .i64 st),.v (.int .i64 fb),.v (.int .i64 ow)]=>(match ([q3 0]:List LV) with
  | [.v (.int .i64 lo)]=> .ok (.v (.agg #[.int .i64 (if A9 (a+st)<lv then A9 (a+st) else lv),lo]))
  |_=> .no)
  |_=> .no)
  |_=> .no)
  |_=> .no)
 |_=> .no
def axk (lv a si:Int) (nm:ByteArray) (at_ ph mn mx st fb ow lo:Int):Bc prog AT KF kN Af f152 [xQ 1 [lv],xQ 2 [a,si],xQ 8 [.v (.string nm),at_,ph,mn,mx,st,fb,ow],xQ 1 [lo]]=.ok (.v (.agg #[.int .i64 (if (A9 (a+st))<lv then A9 (a+st) else lv),lo])):=AZ
def aht:=vo (S:=aRY) func152 KF kN (λargs lv h=>by
 refine ⟨?_⟩;unfold aRY at h;split at h
 ·split at h
  case h_2=>cases h
  rename_i heq0;split at h
  case h_2=>cases h
  rename_i heq1;split at h
  case h_2=>cases h
  rename_i heq2;split at h
  case h_2=>cases h
  rename_i heq3;simp only [canL,canX];rw [Dn (n:=1) heq0];simp only [canL,canX];rw [Dn (n:=2) heq1];simp only [canL,canX];rw [Dn (n:=8) heq2];simp only [canL,canX];rw [Dn (n:=1) heq3];simp only [canL,canX];rw [axk];exact h
 ·cases h)
def ayT {a l si:Int}:UY ((if (a !=0) then (1:Int) else 0).toNat*4+((if (l !=0) then (1:Int) else 0).toNat*2+((if (decide (si>=5)) then (1:Int) else 0).toNat*1+0)))=if a=0 then (if l=0 then 1 else if 5<=si then 0 else 1) else if l=0 then 2 else 3:=by
 by_cases c1:a=0<;>by_cases c2:l=0<;>by_cases c3:5<=si<;>simp [c1,c2,c3,UY]
def aI5:List LV->T LV
 | [.v (.agg ⟨[.string nm,.int .i64 at_,.int .i64 ph,.int .i64 mn,.int .i64 mx,.int .i64 st,.int .i64 fb,.int .i64 ow]⟩),.v (.agg ⟨[.int .i64 a,.int .i64 si]⟩),.v (.int .i64 want)]=> .tu #[.agg #[nA ph mn mx st fb a si want,nS ph mn mx st fb a si want],nE ph mn mx st fb a si want]
 |_=> .no
def akQ:List Bd:=[aal,aIw,ahw,ahv,ahu,aht,aoB]
def atx:=vo (S:=aI5) func101 akQ kN (λargs lv h=>by
 unfold aI5 at h;split at h
 ·rename_i nm at_ ph mn mx st fb ow a si want
  refine Aj (letI d:=EE mn mx st want;letI e:=decide (si>=5);letI c:=(UY ((if (a !=0) then (1:Int) else 0).toNat*4+((if (d !=0) then (1:Int) else 0).toNat*2+((if e then (1:Int) else 0).toNat*1+0))));.br ((!(Hr ph mn mx st fb a si)) ||((decide (want<0)) ||(decide (want>80)))) (.tu #[.agg #[(0:Int),(0:Int)],(1:Int)]) (.req (chP mn mx st) (.req (0<=(if (a !=0) then (1:Int) else 0)/\(if (a !=0) then (1:Int) else 0)<(2:Int)) (.req (0<=(if (d !=0) then (1:Int) else 0)/\(if (d !=0) then (1:Int) else 0)<(2:Int)) (.req (0<=(if e then (1:Int) else 0)/\(if e then (1:Int) else 0)<(2:Int)) (.br (c==0) (.tu #[.agg #[mn,(0:Int)],(0:Int)]) (.br (c==1) (.tu #[.agg #[(0:Int),.int .i64 (if (1000000:Int)<(A9 (si+1)) then 1000000 else A9 (si+1))],(0:Int)]) (.br (c==2) (.tu #[.agg #[(0:Int),(0:Int)],(0:Int)]) (.br (c==3) (.tu #[.agg #[.int .i64 (if A9 (a+st)<d then A9 (a+st) else d),.int .i64 (if (1000000:Int)<(A9 (si+1)) then 1000000 else A9 (si+1))],(0:Int)]) (.no)))))))))) ?_
  obtain rfl:=h
  by_cases hk:okB ph mn mx st fb a si want=true
  ·obtain ⟨k1,k2,k3,k4,k5⟩:=apZ hk
   have w1:A9 (si+1)=si+1:=AI
   have w2:A9 (a+st)=a+st:=AI
   have i0:∀b:Bool,0<=(if b=true then (1:Int) else 0)/\(if b=true then (1:Int) else 0)<2:=λb=>by cases b<;>simp
   simp only [T.all,nA,nS,nE,k1,w1,w2,hk,aH5,Bm,ayT,i0,E9]
   by_cases c1:a=0<;>by_cases c2:EE mn mx st want=0<;>by_cases c3:5<=si<;>simp [c1,c2,c3,k2]
  ·have hn:(!Hr ph mn mx st fb a si ||(decide (want<0) ||decide (want>80)))=true:=apa hk
   simp only [T.all,nA,nS,nE,hk,hn]
   simp
 ·cases h)
def aSm:List LV->T LV
 | [.v (.int .i64 n),.v (.int .i64 a),.v (.int .i64 b)]=> .ok (inB n a b)
 |_=> .no
def akM:List Bd:=[]
def aaU:=vo (S:=aSm) func142 akM kN (λargs lv h=>by
 unfold aSm at h;split at h
 ·rename_i n a b
  refine Aj (.ok (.v (.bool ((decide (n>=a))&&(decide (n<=b)))))) ?_;exact h
 ·cases h)
def aSb:List LV->T LV
 | [.v (.agg ⟨[.bool wa,.int .i64 ow,.int .i64 le,.int .i64 ra]⟩)]=> .ok (Gj (wa,ow,le,ra))
 |_=> .no
def akL:List Bd:=[aaU]
def ahn:=vo (S:=aSb) func144 akL kN (λargs lv h=>by
 unfold aSb at h;split at h
 ·rename_i wa ow le ra
  refine Aj (.ok (.v (.bool ((inB ow (0:Int) (1000000000:Int))&&((inB le (0:Int) (1000000:Int))&&(inB ra (1:Int) (9:Int))))))) ?_;exact h
 ·cases h)
structure MI where
 cs:List Cd
 os:List ByteArray
 ks:List Ko
 gs:List Ch
 bs:List Ba
 l:List Le
 d:List Dm
 t:Int
 od:List Int
 ajV:List Ra
 r:Bool
 n:Int
 m:List Le
 (k i:Int)
def aEX:=bN f99 0
def vb (s:MI):T (Rd MI):=
 .br (decide (s.i<s.k)) (.ix s.i (s.m.length) (.br (decide ((An s.m s.i).2.1>=s.n)) (.so (.ret) {s with r:=false}) (.nx {s with i:=A9 (s.i+1)}))) (.so (.exit 0) s)
def TQ (s:MI) (j:Int):Bool:=decide ((An s.m j).2.1<s.n)
def j6 (s:MI):Prop:=s.i=0/\0<=s.k/\s.k<=1000/\s.k=(s.m.length:Int)
def Yt (s:MI):Prop:=0<=s.i/\s.i<=s.k/\s.k<=1000/\(s.k=(s.m.length:Int))/\∀j:Nat,(j:Int)<s.i->TQ s j=true
def tR (s:MI):Nat:=(s.k-s.i).toNat
def zW (x:Ex) (s s':MI):Prop:=(x=.exit 0/\∀j:Nat,(j:Int)<s'.k->TQ s' j=true)\/(x=.ret/\s'.r=false/\∃j:Nat,(j:Int)<s'.k/\TQ s' j=false)
def al8:∀s,j6 s->Yt s:=by
 exact Kt
def azv:Da Yt tR zW vb:=by
 intro s hI;obtain ⟨h0,h1,h2,h3,h4⟩:=hI;refine AG (λc1=>AG (λc2=>?_) (λc2=>?_)) (λc1=>?_)
 ·have c1:s.i<s.k:=AO
  refine .inr ⟨rfl,rfl,s.i.toNat,AA,?_⟩
  have hg:TQ s s.i=false:=aMw
  exact hg
 ·have c1:s.i<s.k:=AO
  have hg:TQ s s.i=true:=aMw
  rw [AI (x:=s.i+1)];refine ⟨⟨AA,AA,h2,h3,λj hj=>?_⟩,by simp only [tR];omega⟩
  exact Mv
 ·have c1:s.k<=s.i:=AO
  exact Zi
def QS:AS MI:=⟨0,108,[0,1,6,9,67,68,69],[],λs=>[xQ 9 [s.cs,s.os,s.ks,s.gs,s.bs,s.l,s.d,s.t,.xl A7 s.od],s.ajV,s.r,s.n,s.m,s.k,s.i],λ_=>[],λv b=>⟨Ai Ao (BM (v.getD 0 .junk) 0),Ai .str (BM (v.getD 0 .junk) 1),Ai B8 (BM (v.getD 0 .junk) 2),Ai Au (BM (v.getD 0 .junk) 3),Ai B9 (BM (v.getD 0 .junk) 4),Ai AX (BM (v.getD 0 .junk) 5),Ai BO (BM (v.getD 0 .junk) 6),gI (BM (v.getD 0 .junk) 7),Ai A7 (BM (v.getD 0 .junk) 8),Az BD v 1,Eb v 2,AK v 3,Az AX v 4,AK v 5,AK v 6⟩,vb,λs r=> {s with r:=r.r,i:=r.i},λs=>s,λ_ s=>s,[.ret,.exit 0],j6,Yt,tR⟩
abbrev aBL:=QS.run
abbrev aGx:=QS.Am
def avJ:Rq Yt vb:=by
 exact SP
def fq:List Bd:=[Wg,We,aaU,aal,ahn]
def aPN:QS.Ok:={}
def aNo:QS.Pf (zW):=⟨al8,λs h=>rfl,azv,avJ⟩
def aoX:SA 0 aEX QS:=s1 aPN aNo fq kN
def aqy:Fi j6 Yt zW aGx aBL:=AS.fin aPN aNo
structure MZ where
 cs:List Cd
 os:List ByteArray
 ks:List Ko
 gs:List Ch
 bs:List Ba
 l:List Le
 d:List Dm
 t:Int
 od:List Int
 rs:List Ra
 r:Bool
 m:List Ch
 (k i:Int)
def aEW:=bN f99 1
def va (s:MZ):T (Rd MZ):=letI a:=AH s.m s.i;.br (decide (s.i<s.k)) (.ix s.i (s.m.length) (.ix s.i (s.rs.length) (.br (!(Hr a.2.2.1 a.2.2.2.1 a.2.2.2.2.1 a.2.2.2.2.2.1 a.2.2.2.2.2.2.1 (Bx s.rs s.i).1 (Bx s.rs s.i).2)) (.so (.ret) {s with r:=false}) (.ix s.i (s.d.length) (.br (!(Gj (Dq s.d s.i))) (.so (.ret) {s with r:=false}) (.nx {s with i:=A9 (s.i+1)})))))) (.so (.exit 2) s)
def WQ (s:MZ) (j:Int):Bool:=raC (AH s.m j) (Bx s.rs j)&&Gj (Dq s.d j)
def j5 (s:MZ):Prop:=s.i=0/\0<=s.k/\s.k<=1000/\s.k=(s.m.length:Int)/\s.rs.length=s.m.length/\s.d.length=s.m.length
def Ys (s:MZ):Prop:=0<=s.i/\s.i<=s.k/\s.k<=1000/\(s.k=(s.m.length:Int)/\s.rs.length=s.m.length/\s.d.length=s.m.length)/\∀j:Nat,(j:Int)<s.i->WQ s j=true
def tQ (s:MZ):Nat:=(s.k-s.i).toNat
def zV (x:Ex) (s s':MZ):Prop:=(x=.exit 2/\∀j:Nat,(j:Int)<s'.k->WQ s' j=true)\/(x=.ret/\s'.r=false/\∃j:Nat,(j:Int)<s'.k/\WQ s' j=false)
def al7:∀s,j5 s->Ys s:=by
 exact Kt
def azu:Da Ys tQ zV va:=by
 intro s hI;obtain ⟨h0,h1,h2,h3,h4⟩:=hI;refine AG (λc1=>AG (λc2=>?_) (λc2=>AG (λc3=>?_) (λc3=>?_))) (λc1=>?_)
 ·exact aL0
 ·exact aL0
 ·have c1:s.i<s.k:=AO
  have hg:WQ s s.i=true:=aMo
  rw [AI (x:=s.i+1)];refine ⟨⟨AP,AP,h2,h3,λj hj=>?_⟩,by simp only [tQ];omega⟩
  exact Mv
 ·have c1:s.k<=s.i:=AO
  exact Zi
def QR:AS MZ:=⟨0,108,[0,1,6,82,83,84],[],λs=>[xQ 9 [s.cs,s.os,s.ks,s.gs,s.bs,s.l,s.d,s.t,.xl A7 s.od],s.rs,s.r,s.m,s.k,s.i],λ_=>[],λv b=>⟨Ai Ao (BM (v.getD 0 .junk) 0),Ai .str (BM (v.getD 0 .junk) 1),Ai B8 (BM (v.getD 0 .junk) 2),Ai Au (BM (v.getD 0 .junk) 3),Ai B9 (BM (v.getD 0 .junk) 4),Ai AX (BM (v.getD 0 .junk) 5),Ai BO (BM (v.getD 0 .junk) 6),gI (BM (v.getD 0 .junk) 7),Ai A7 (BM (v.getD 0 .junk) 8),Az BD v 1,Eb v 2,Az Au v 3,AK v 4,AK v 5⟩,va,λs r=> {s with r:=r.r,i:=r.i},λs=>s,λ_ s=>s,[.ret,.exit 2],j5,Ys,tQ⟩
abbrev aFg:=QR.run
abbrev aGw:=QR.Am
def avI:Rq Ys va:=by
 intro s hI;refine ⟨λc1=>⟨?_,?_,λ_=>trivial,λc2=>⟨?_,λ_=>trivial,λ_=>trivial⟩⟩,λ_=>trivial⟩
 all_goals ((obtain ⟨h0,h1,h2,h3,h4⟩:=hI;obtain ⟨h3,h5,h6⟩:=h3;simp at c1;omega))
def aPM:QR.Ok:={}
def aNn:QR.Pf (zV):=⟨al7,λs h=>rfl,azu,avI⟩
def aoW:SA 0 aEW QR:=s1 aPM aNn fq kN
def arY:Fi j5 Ys zV aGw aFg:=AS.fin aPM aNn
def aIV:List LV->T LV
 | [.xq 9 q0,.xl (.pair (.int .i64) (.int .i64)) rs,.v (.int .i64 n)]=>(match ([q0 0,q0 1,q0 2,q0 3,q0 4,q0 5,q0 6,q0 7,q0 8]:List LV) with
  | [.xl (.pair .str (.pair (.int .i64) (.pair (.int .i64) (.pair (.int .i64) (.pair (.pair (.int .i64) (.int .i64)) (.pair (.int .i64) (.pair (.int .i64) (.pair (.int .i64) (.pair (.int .i64) (.int .i64)))))))))) cs,.xl (.str) os,.xl (.pair .str (.pair (.int .i64) (.pair (.int .i64) (.int .i64)))) ks,.xl (.pair .str (.pair (.int .i64) (.pair (.int .i64) (.pair (.int .i64) (.pair (.int .i64) (.pair (.int .i64) (.pair (.int .i64) (.int .i64)))))))) gs,.xl (.pair .str (.int .i64)) bs,.xl (.pair (.int .i64) (.pair (.int .i64) (.pair (.int .i64) (.pair (.int .i64) (.int .i64))))) l,.xl (.pair .bool (.pair (.int .i64) (.pair (.int .i64) (.int .i64)))) d,.v (.int .i64 t),.xl (.int .i64) od]=> .ok (J6 cs os ks gs bs l rs d t n)
  |_=> .no)
 |_=> .no
def apW (cs:List Cd) (os:List ByteArray) (ks:List Ko) (gs:List Ch) (bs:List Ba) (l:List Le) (d:List Dm) (t:Int) (od:List Int) (rs:List Ra) (n:Int):letI b:=(gs.length:Int);letI c:=(l.length:Int);letI a:=(aBL (⟨cs,os,ks,gs,bs,l,d,t,od,rs,false,b,l,c,(0:Int)⟩:MI));Bc prog AT (fq) kN (λi=>if i=8 then QS.lp else if i=14 then QR.lp else Af i) f99 [xQ 9 [cs,os,ks,gs,bs,l,d,t,.xl A7 od],rs,n]=.br (((O0 cs os ks gs bs) !=0) ||(!(BG l))) (.ok false) (.br (((rs.length:Int) !=b) ||(((d.length:Int) !=b) ||((!(inB t (0:Int) (1000000:Int))) ||(!(inB n (1:Int) (999900:Int)))))) (.ok false) (.req (QS.q (⟨cs,os,ks,gs,bs,l,d,t,od,rs,false,b,l,c,(0:Int)⟩:MI)) (.br (Bo (aGx (⟨cs,os,ks,gs,bs,l,d,t,od,rs,false,b,l,c,(0:Int)⟩:MI)) (.ret)) (.ok a.r) (.req (QR.q (⟨cs,os,ks,gs,bs,l,d,t,od,rs,a.r,gs,b,(0:Int)⟩:MZ)) (.br (Bo (aGw (⟨cs,os,ks,gs,bs,l,d,t,od,rs,a.r,gs,b,(0:Int)⟩:MZ)) (.ret)) (.ok (aFg (⟨cs,os,ks,gs,bs,l,d,t,od,rs,a.r,gs,b,(0:Int)⟩:MZ)).r) (.ok true)))))):=AZ
def au5:=vm (S:=aIV) func99 fq kN (L:=(λi=>if i=8 then QS.lp else if i=14 then QR.lp else Af i)) (λb hb=>by
 rw [show B6 _=[aEX,aEW] by kernel_rfl] at hb
 simp only [B1,Bv,Bw] at hb;rcases hb with rfl|rfl
 ·exact aoX
 ·exact aoW) (λargs lv h=>by
 refine ⟨?_⟩;unfold aIV at h;split at h
 ·split at h
  case h_2=>cases h
  rename_i heq0;simp only [canL,canX];rw [Dn (n:=9) heq0];simp only [canL,canX];rw [apW];rename_i rs n _ cs os ks gs bs l d t od;obtain rfl:=h
  have e0:((O0 cs os ks gs bs !=0) || !BG l)=!(BF cs os ks gs bs&&BG l):=by
   unfold O0;cases BF cs os ks gs bs<;>cases BG l<;>rfl
  have e1:(((rs.length:Int) !=(gs.length:Int)) ||(((d.length:Int) !=(gs.length:Int)) ||(!inB t 0 1000000 || !inB n 1 999900)))=!(decide (rs.length=gs.length)&&(decide (d.length=gs.length)&&(inB t 0 1000000&&inB n 1 999900))):=by
   rw [neN,neN,Bool.not_and,Bool.not_and,Bool.not_and]
  rw [e0,e1]
  have bad:J6 cs os ks gs bs l rs d t n=false->LV.v (.bool false)=LV.v (.bool (J6 cs os ks gs bs l rs d t n)):=λh=>Va
  refine ⟨λc=>bad (by unfold J6;rw [ntW c];rfl),λc=>⟨λc2=>bad (by unfold J6;rw [ntW c2,O5,S7]),λc2=>?_⟩⟩
  have c:=nfW c
  have c2:=nfW c2
  have c':=c
  have c2':=c2
  simp only [AU,AY] at c' c2'
  have hl:=Ib c'.2
  have hg:=(D9.1 c'.1).1.2.2.2.2.1
  have hE:j6 ⟨cs,os,ks,gs,bs,l,d,t,od,rs,false,(gs.length:Int),l,(l.length:Int),0⟩:=⟨rfl,AP,AP,rfl⟩
  have ev:J6 cs os ks gs bs l rs d t n=(below gs.length l&&Dc gs.length (λj=>raC (AH gs j) (Bx rs j)&&Gj (Dq d j))):=by
   unfold J6;rw [c,c2,Dj,Dj]
  refine ⟨⟨hE,rfl,rfl⟩,?_⟩;obtain ⟨_,_,hq⟩:=aqy _ hE
  have eb:below gs.length l=Dc l.length (λj=>decide ((An l j).2.1<(gs.length:Int))):=by
   rw [I0,EB];exact (Pz (d:=(0,0,0,0,0)) (p:=λx:Le=>decide (x.2.1<(gs.length:Int)))).symm
  rcases hq with ⟨q1,q2⟩ |⟨q1,q2,j,q3,q4⟩<;>rw [q1]
  rotate_left
  ·rw [q2]
   exact ⟨λ_=>bad (by rw [ev,eb,Q3 (f:=λj=>decide ((An l j).2.1<(gs.length:Int))) j q3 q4];rfl),λh=>Ah⟩
  refine ⟨λh=>Ah,λ_=>?_⟩
  have g0:below gs.length l=true:=by rw [eb];exact EB.2 q2
  have hE2:j5 ⟨cs,os,ks,gs,bs,l,d,t,od,rs,(aBL ⟨cs,os,ks,gs,bs,l,d,t,od,rs,false,(gs.length:Int),l,(l.length:Int),0⟩).r,gs,(gs.length:Int),0⟩:=⟨rfl,AP,AP,rfl,c2'.1,c2'.2.1⟩
  refine ⟨⟨hE2,rfl,rfl⟩,?_⟩;obtain ⟨_,_,hq⟩:=arY _ hE2;rcases hq with ⟨q5,q6⟩ |⟨q5,q6,j,q7,q8⟩<;>rw [q5]
  ·exact ⟨λh=>Ah,λ_=>by rw [ev,g0,(EB (f:=λj=>raC (AH gs j) (Bx rs j)&&Gj (Dq d j))).2 q6];rfl⟩
  ·rw [q6]
   exact ⟨λ_=>bad (by rw [ev,Q3 (f:=λj=>raC (AH gs j) (Bx rs j)&&Gj (Dq d j)) j q7 q8,S7]),λh=>Ah⟩
 ·cases h)
structure MW where
 n:Int
 r:Bool
 l:List Int
 (m k:Int)
 seen:List Bool
def aES:=bN f185 0
def fA (s:MW):T (Rd MW):=letI a:=gi s.l s.k;letI b:=s.seen.length;letI c:=s.seen.set a.toNat true;.br (decide (s.k<s.m)) (.ix s.k (s.l.length) (.br (decide (a<0)) (.rl s.seen (.so (.ret) {s with r:=false})) (.br (decide (a>=s.n)) (.rl s.seen (.so (.ret) {s with r:=false})) (.ik a b (.br (s.seen.getD a.toNat (Ty.dflt .bool)) (.rl s.seen (.so (.ret) {s with r:=false})) (.ik a b (.re b c (.nx {s with k:=A9 (s.k+1),seen:=c})))))))) (.rl s.seen (.so (.exit 0) s))
def PC (s:MW) (j:Int):Bool:=PL s.n (gi s.l j)&&!(((s.l.take j.toNat).map id).contains (id (gi s.l j)))
def aAD (s:MW):Prop:=s.k=0/\s.seen=List.replicate s.seen.length false/\s.m=(s.l.length:Int)/\s.m<=1000/\s.n=(s.seen.length:Int)
def Yn (s:MW):Prop:=(0<=s.k/\s.k<=s.m)/\(∀j:Nat,j<s.seen.length->s.seen.getD j false=(s.l.take s.k.toNat).contains (j:Int))/\(∀j:Nat,(j:Int)<s.k->PC s j=true)/\s.m=(s.l.length:Int)/\s.m<=1000/\s.n=(s.seen.length:Int)
def rN (s:MW):Nat:=(s.m-s.k).toNat
def gw (x:Ex) (s s':MW):Prop:=(x=.exit 0/\∀j:Nat,(j:Int)<s'.m->PC s' j=true)\/(x=.ret/\s'.r=false/\∃j:Nat,(j:Int)<s'.m/\PC s' j=false)
def aix:∀s,aAD s->Yn s:=by
 rintro s ⟨h0,h1,h2,h3,h4⟩
 refine ⟨A0,λj hj=>?_,λj hj=>A0,h2,h3,h4⟩
 rw [h1,h0]
 simp [List.getD,V8]
 split<;>rfl
def axK:Da Yn rN gw fA:=by
 intro s hI;unfold fA;dsimp only [T.rd,T.rl,T.rv];obtain ⟨⟨h0,h1⟩,h2,h3,h4,h5,h6⟩:=hI;refine AG (λc1=>?_) (λc1=>?_)
 rotate_left
 ·have c1:s.m<=s.k:=AO
  exact .inl ⟨rfl,λj hj=>h3 j A0⟩
 have c1:s.k<s.m:=AO
 have bad:PC s s.k=false->gw .ret s {s with r:=false}:=λhg=> .inr ⟨rfl,rfl,s.k.toNat,AP,by rw [BQ h0];exact hg⟩
 refine AG (λc2=>bad ?_) (λc2=>AG (λc3=>bad ?_) (λc3=>AG (λc4=>bad ?_) (λc4=>?_)))
 ·unfold PC PL
  simp only [AY] at c2;rw [I1 A0];rfl
 ·unfold PC PL
  simp only [AY] at c3;rw [I1 (p:=gi s.l s.k<s.n) A0,S7];rfl
 all_goals
  have c2:0<=gi s.l s.k:=D8
  have c3:gi s.l s.k<s.n:=My
  have e:=h2 (gi s.l s.k).toNat A0
  rw [BQ c2] at e
 ·have c4:s.seen.getD (gi s.l s.k).toNat false=true:=c4
  unfold PC;rw [SI,id,<-e,c4]
  simp
 ·have c4:s.seen.getD (gi s.l s.k).toNat false=false:=c4
  have hg:PC s s.k=true:=by
   unfold PC;rw [SI,id,<-e,c4,nC.2 ⟨c2,c3⟩];rfl
  rw [AI (x:=s.k+1)];refine ⟨⟨⟨AP,AP⟩,λj hj=>?_,λj hj=>?_,h4,h5,aND⟩,by simp only [rN];omega⟩
  ·simp only [Br] at hj
   simp only;rw [(gi_step h0 (show s.k<s.l.length by omega)).2,List.contains_append,<-h2 j hj]
   by_cases hj2:(gi s.l s.k).toNat=j
   ·subst hj2
    rw [BQ c2]
    simp [List.getD,hj]
   ·have:¬(j:Int)=gi s.l s.k:=A0
    simp [List.getD,Uz hj2,this]
  ·by_cases hji:(j:Int)<s.k
   ·exact h3 j hji
   ·have:(j:Int)=s.k:=kS
    rw [this];exact hg
def RK:AS MW:=⟨0,37,[1,4,5,14,15,16],[],λs=>[s.n,s.r,.os 0 1 0 (s.seen.length),.xl A7 s.l,s.m,s.k],λs=>[bV 4 .bool s.seen],λv b=>⟨AK v 0,Eb v 1,Az A7 v 3,AK v 4,AK v 5,gVe .bool (CP b 0)⟩,fA,λs r=> {r with n:=s.n,l:=s.l,m:=s.m},λs=>s,λ_ s=>s,[.ret,.exit 0],aAD,Yn,rN⟩
abbrev aFf:=RK.run
abbrev aGu:=RK.Am
def avi:Rq Yn fA:=by
 intro s hI;refine ⟨λc1=>⟨?_,λc2=>⟨A8,trivial⟩,λc2=>⟨λc3=>⟨A8,trivial⟩,λc3=>⟨?_,?_,λc4=>⟨A8,trivial⟩,λc4=>⟨?_,?_,?_,trivial⟩⟩⟩⟩,λc1=>⟨A8,trivial⟩⟩
 iterate 5 · (obtain ⟨⟨h0,h1⟩,h2,h3,h4,h5,h6⟩:=hI;simp only [AY,Cl] at*;omega)
 ·exact ⟨rfl,AJ⟩
def acU:List Bd:=[]
def aPr:RK.Ok:={}
def aOE:RK.Pf (gw):=⟨aix,λs h=>rfl,axK,avi⟩
def aoS:SA 0 aES RK:=s1 aPr aOE acU kN
def aqZ:Fi aAD Yn gw aGu aFf:=AS.fin aPr aOE
def aHI:List LV->T LV
 | [.xl (.int .i64) l,.v (.int .i64 n)]=> .req (n<=1000) (.ok (GO l n))
 |_=> .no
def Wv:=vm (S:=aHI) func185 acU kN (L:=(λi=>if i=5 then RK.lp else Af i)) (λb hb=>by
 rw [show B6 _=[aES] by kernel_rfl] at hb
 simp only [B1,Bv,Bw] at hb;subst hb;exact aoS) (λargs lv h=>by
 unfold aHI at h;split at h
 ·rename_i l n
  refine Aj (letI a:=List.replicate n.toNat false;letI b:=(l.length:Int);.br (b !=n) (.ok false) (.rm 1 n (.re n.toNat a (.req (RK.q (⟨n,false,l,b,0,a⟩:MW)) (.br (Bo (aGu (⟨n,false,l,b,0,a⟩:MW)) (.ret)) (.ok (aFf (⟨n,false,l,b,0,a⟩:MW)).r) (.ok true)))))) ?_;obtain ⟨hl,rfl⟩:=h;refine ⟨λc=>Ax (λz=>LV.v (.bool z)) ?_,λc=>?_⟩
  ·have c:¬(l.length:Int)=n:=FN
   unfold GO;rw [I1 c];rfl
  ·have c:(l.length:Int)=n:=FN
   unfold GO;rw [Cs c,Dj];refine ⟨A0,⟨rfl,AJ⟩,LQ ⟨⟨rfl,AJ,rfl,AP,by simp only [CR];omega⟩,rfl,rfl⟩ (λhE=>?_)⟩
   obtain ⟨s',_,hq⟩:=aqZ _ hE.1;rcases hq with ⟨q1,q2⟩ |⟨q1,q2,j,q3,q4⟩
   ·rw [q1]
    have hk:=(WB (d:=(0:Int)) (p:=PL n) (k:=id)).1 q2
    rw [SI] at hk;rw [hk];exact ⟨λh=>Ah,λ_=>rfl⟩
   ·rw [q1,q2]
    refine ⟨λ_=>Ax (λz=>LV.v (.bool z)) ?_,λh=>Ah⟩
    rw [SO,Hz];intro hx
    have:=(WB (d:=(0:Int)) (p:=PL n) (k:=id)).2 (by rw [SI];exact hx) j q3
    exact Bool.noConfusion (this.symm.trans q4)
 ·cases h)
structure Im where
 r:Bool
 l:List Int
 (n i:Int)
 BZ:List Cd
 GG:List ByteArray
 GA:List Ko
 GB:List Ch
 GH:List Ba
def vZ (s:Im):T (Rd Im):=
 .br (decide (s.i<s.n)) (.ix s.i (s.l.length) (.br (!((decide ((gi s.l s.i)>=0))&&(decide ((gi s.l s.i)<=80)))) (.so (.ret) {s with r:=false}) (.nx {s with i:=A9 (s.i+1)}))) (.so (.exit 0) s)
def TO (s:Im) (j:Int):Bool:=Hd (gi s.l j)
def j3 (s:Im):Prop:=s.i=0/\0<=s.n/\s.n<=1000/\s.n=(s.l.length:Int)
def Yq (s:Im):Prop:=0<=s.i/\s.i<=s.n/\s.n<=1000/\(s.n=(s.l.length:Int))/\∀j:Nat,(j:Int)<s.i->TO s j=true
def tO (s:Im):Nat:=(s.n-s.i).toNat
def zS (x:Ex) (s s':Im):Prop:=(x=.exit 0/\∀j:Nat,(j:Int)<s'.n->TO s' j=true)\/(x=.ret/\s'.r=false/\∃j:Nat,(j:Int)<s'.n/\TO s' j=false)
def al0:∀s,j3 s->Yq s:=by
 exact Kt
def azq:Da Yq tO zS vZ:=by
 intro s hI;obtain ⟨h0,h1,h2,h3,h4⟩:=hI;refine AG (λc1=>AG (λc2=>?_) (λc2=>?_)) (λc1=>?_)
 ·have c1:s.i<s.n:=AO
  refine .inr ⟨rfl,rfl,s.i.toNat,AA,?_⟩
  have hg:TO s s.i=false:=aLo
  exact hg
 ·have c1:s.i<s.n:=AO
  have hg:TO s s.i=true:=aLo
  rw [AI (x:=s.i+1)];refine ⟨⟨AA,AA,h2,h3,λj hj=>?_⟩,by simp only [tO];omega⟩
  exact Mv
 ·exact SJ
def TY:AS Im:=⟨1,18,[1,4,7,8,9],[],λs=>[.fn 183 [],s.r,.xl A7 s.l,s.n,s.i],λs=>[⟨[s.BZ,s.GG,s.GA,s.GB,s.GH],28,.cl,false⟩],λv b=>⟨Eb v 1,Az A7 v 2,AK v 3,AK v 4,AF Ao b 0 0,AF .str b 0 1,AF B8 b 0 2,AF Au b 0 3,AF B9 b 0 4⟩,vZ,λs r=> {s with r:=r.r,i:=r.i},λs=>s,λ_ s=>s,[.ret,.exit 0],j3,Yq,tO⟩
abbrev bx:=TY.run
abbrev bw:=TY.Am
def QG:List Bd:=[We,Wv,Wu,Ww]
def ak4:As:=kI QG (l0 QG)
def avn:Rq Yq vZ:=by
 exact SP
def aPw:TY.Ok:={}
def aNk:TY.Pf (zS):=⟨al0,λs h=>rfl,azq,avn⟩
def WG:=s2 (b:=bN f184 0) aPw aNk QG ak4
def arQ:Fi j3 Yq zS bw bx:=AS.fin aPw aNk
def aH2 (s:Im) (hE:j3 s):(bw s=.exit 0/\s.l.all Hd=true)\/(bw s=.ret/\(bx s).r=false/\s.l.all Hd=false):=by
 obtain ⟨s',hI,hq⟩:=arQ s hE;obtain ⟨h0,h1,h2,h3⟩:=hE
 have en:(bx s).n=s.n:=rfl
 rcases hq with ⟨q1,q2⟩ |⟨q1,q2,j,q3,q4⟩
 ·refine .inl ⟨q1,(Pz (d:=(0:Int))).1 λj hj=>?_⟩
  have:=q2 j A0
  exact this
 ·exact aKf
structure F8 where
 alive:List Int
 i:Int
 rows:List Rw
 (rn ri:Int)
 l:List Int
 (n k:Int)
 Jw:List Cd
 Jy:List ByteArray
 Ju:List Ko
 Jv:List Ch
 K8:List Ba
 H5:List Cd
 H4:List ByteArray
 Es:List Ko
 Aw:List Ch
 H6:List Ba
 BB:List Rw
 (BA CI CH CG CF CE CD CC CB CA C9 C8 C7 C6 C5 C3 C2 sums levels:List Int)
def aF5:=lN (bN f186 0) 0
def GQ (s:F8):List (List Int):=[s.CI,s.CH,s.CG,s.CF,s.CE,s.CD,s.CC,s.CB,s.CA,s.C9,s.C8,s.C7,s.C6,s.C5,s.C3,s.C2]
def nsO (s:F8) (l:List (List Int)):F8:={s with CI:=l.getD 0 [],CH:=l.getD 1 [],CG:=l.getD 2 [],CF:=l.getD 3 [],CE:=l.getD 4 [],CD:=l.getD 5 [],CC:=l.getD 6 [],CB:=l.getD 7 [],CA:=l.getD 8 [],C9:=l.getD 9 [],C8:=l.getD 10 [],C7:=l.getD 11 [],C6:=l.getD 12 [],C5:=l.getD 13 [],C3:=l.getD 14 [],C2:=l.getD 15 []}
def ns (s:F8) (j:Nat):F8:={nsO s ((GQ s).modify j (·++[s.i])) with k:=A9 (s.k+1),sums:=s.sums.set s.i.toNat (A9 (s.sums.getD s.i.toNat 0+gi s.alive (j:Int)))}
def rO {α:Type}(x:List Int):List (List Int)->Nat->T α->T α
 | [],_,t=>t
 |o::l,0,t=> .re (o.length+x.length) (o++x) (rO x l 1000 t)
 |o::l,j+1,t=> .rl o (rO x l j t)
def XV {σ:Type}{s:σ}{x:List Int}{t:T (Rd σ)}:∀l j,(rO x l j t).rd s=t.rd s
 | [],_=>rfl
 |_::l,0=>XV l 1000
 |_::l,j+1=>XV l j
def cq {α:Type}{K:α->Prop}{x:List Int}{t:T α}(h:t.all K):∀l j,(rO x l j t).all K
 | [],_=>h
 |_::l,0=>⟨⟨rfl,AJ⟩,cq h l 1000⟩
 |_::l,j+1=>⟨⟨rfl,rfl⟩,cq h l j⟩
def aD9 {α:Type}{K:α->Prop}{f:Nat->T α}{n:Int}:∀m j:Nat,(j:Int)<=n->n<j+m->(∀i:Nat,n=i->(f i).all K)->(splitN f n m j).all K
 |0,_,_,_,_=>A0
 |1,j,_,_,h=>h j A0
 |m+2,j,_,_,h=>⟨λc=>h j (eq_of_beq c),λc=>aD9 (m+1) (j+1) AA A0 h⟩
def oR {σ:Type}{A:σ->Prop}{B:Ex->σ->Prop}{s:σ}{f:Nat->T (Rd σ)}{n:Int}:∀m j:Nat,(j:Int)<=n->n<j+m->(∀i:Nat,n=i->CM A B ((f i).rd s))->CM A B ((splitN f n m j).rd s)
 |0,_,_,_,_=>A0
 |1,j,_,_,h=>h j A0
 |m+2,j,_,_,h=>AG (λc=>h j (eq_of_beq c)) (λc=>oR (m+1) (j+1) AA A0 h)
def aj8 (s:F8) {l:List (List Int)}(h:l.length=16):GQ (nsO s l)=l:=by
 show (List.range 16).map (λi=>l.getD i [])=l
 refine jS kf λi h1 h2=>?_
 grind
def vA (s:F8):T (Rd F8):=letI a:=s.sums.length;.br (decide (s.k<s.n)) (.ix s.k (s.l.length) (.req (0<=(gi s.l s.k)/\(gi s.l s.k)<(16:Int)) (splitN (λj=> .rb (List.length ((GQ s).getD j [])) (List.length ([s.i])) 8 (.ix s.i a (.ix (j:Int) (s.alive.length) (.req (s.i.toNat<s.sums.length) (.ik s.i a (rO [s.i] (GQ s) j (.re a (ns s j).sums (.rl s.levels (.nx (ns s j)))))))))) (gi s.l s.k) 16 0))) (rO [] (GQ s) 1000 (.rl s.sums (.rl s.levels (.so (.exit 2) s))))
def YM (s:F8):Prop:=s.k=0/\(∀o∈GQ s,(o.length:Int)<=1000000)/\(0<=gi s.sums s.i/\gi s.sums s.i<=1000)/\s.n=(s.l.length:Int)/\s.n<=1000/\(∀m∈s.l,0<=m/\m<16/\m<(s.alive.length:Int))/\(∀a∈s.alive,0<=a/\a<=80)/\(0<=s.i/\s.i<(s.sums.length:Int))
def QJ (s:F8):Prop:=(0<=s.k/\s.k<=s.n)/\(∀o∈GQ s,(o.length:Int)<=1000000+s.k)/\(0<=gi s.sums s.i/\gi s.sums s.i<=1000+80*s.k)/\s.n=(s.l.length:Int)/\s.n<=1000/\(∀m∈s.l,0<=m/\m<16/\m<(s.alive.length:Int))/\(∀a∈s.alive,0<=a/\a<=80)/\(0<=s.i/\s.i<(s.sums.length:Int))
def X7 (s:F8):Nat:=(s.n-s.k).toNat
def abu (x:Ex) (s s':F8):Prop:=x=.exit 2/\s'.k=s'.n
def aj7:∀s,YM s->QJ s:=by
 rintro s ⟨h0,h1,h2,h3⟩
 exact ⟨A0,λo ho=>AA,A0,h3⟩
def np (s:F8) (hI:QJ s) (c1:s.k<s.n):0<=gi s.l s.k/\gi s.l s.k<16/\gi s.l s.k<(s.alive.length:Int):=by
 obtain ⟨⟨h0,h1⟩,h2,h3,h4,h5,h6,h7,h8⟩:=hI;exact h6 _ aMd
abbrev fz (s:F8):=(LM s.i (GQ s) (s.l.drop s.k.toNat),s.sums.set s.i.toNat (s.sums.getD s.i.toNat 0+smA s.alive (s.l.drop s.k.toNat)))
def aPH (s:F8) (j:Nat) (hI:QJ s) (c1:s.k<s.n) (em:gi s.l s.k=(j:Int)):(QJ (ns s j)/\X7 (ns s j)<X7 s)/\fz (ns s j)=fz s:=by
 generalize e:ns s j=s'
 have hO:GQ s'=(GQ s).modify j (·++[s.i]):=by rw [<-e];exact aj8 s (by rw [jb];rfl)
 have hs:s'.sums=s.sums.set s.i.toNat (A9 (s.sums.getD s.i.toNat 0+gi s.alive (j:Int))):=VT
 have hk:s'.k=A9 (s.k+1):=VT
 have hn:s'.n=s.n:=VT
 have hl:s'.l=s.l:=VT
 have ha:s'.alive=s.alive:=VT
 have hi:s'.i=s.i:=VT
 have hm:=np s hI c1
 obtain ⟨⟨h0,h1⟩,h2,⟨h3,h3'⟩,h4,h5,h6,h7,h8⟩:=hI;rw [AI (x:=s.k+1)] at hk
 have hav:=h7 (gi s.alive (j:Int)) aMd
 have hgi:gi s.sums s.i=s.sums.getD s.i.toNat 0:=rfl
 rw [AI (x:=s.sums.getD s.i.toNat 0+gi s.alive (j:Int))] at hs
 have hs2:gi s'.sums s'.i=s.sums.getD s.i.toNat 0+gi s.alive (j:Int):=by
  rw [hi,hs]
  show List.getD _ _ _=_
  grind
 refine ⟨⟨⟨⟨A0,A0⟩,λo ho=>?_,⟨by rw [hs2];omega,by rw [hs2];omega⟩,by rw [hn,hl];exact h4,A0,by rw [hl,ha];exact h6,by rw [ha];exact h7,⟨by rw [hi];omega,by rw [hi,hs,Br];omega⟩⟩,by simp only [X7];omega⟩,?_⟩
 ·rw [hO] at ho
  obtain ⟨k,hk2,rfl⟩:=IS.1 ho;rw [jb] at hk2
  have:=h2 (GQ s)[k] (FK _)
  rw [List.getElem_modify];split
  ·grind
  ·omega
 ·unfold fz
  rw [hO,hs,hl,ha,hi,hk,(gi_step h0 (show s.k<s.l.length by omega)).1,mh,aDX,em,Bs,aeX A0]
def aPI:Da QJ X7 abu vA:=by
 intro s hI;refine AG (λc1=>?_) (λc1=>?_)
 ·have hm:=np s hI AA
  refine oR 16 0 A0 A0 λi em=>?_
  show CM _ _ ((rO _ _ i _).rd s)
  rw [XV];exact (aPH s i hI AA em).1
 ·have c1:s.n<=s.k:=AA
  have h0:=hI.1
  exact SQ
def UA:AS F8:=⟨1,67,[2,7,8,23,24,25,31,32,33],[.ns 7 6 3 A7,.ns 7 7 3 A7,.ns 7 8 3 A7,.ns 7 9 3 A7,.ns 7 10 3 A7,.ns 7 11 3 A7,.ns 7 12 3 A7,.ns 7 13 3 A7,.ns 7 14 3 A7,.ns 7 15 3 A7,.ns 7 16 3 A7,.ns 7 17 3 A7,.ns 7 18 3 A7,.ns 7 19 3 A7,.ns 7 20 3 A7,.ns 7 21 3 A7],λs=>[.xl A7 s.alive,.own 1 0,s.i,.xl Ec s.rows,s.rn,s.ri,.xl A7 s.l,s.n,s.k],λs=>[⟨[s.Jw,s.Jy,s.Ju,s.Jv,s.K8],28,.cl,false⟩,⟨[s.H5,s.H4,s.Es,s.Aw,s.H6,.xl Ec s.BB,.os 2 1 0 (s.CI.length),.os 3 1 0 (s.CH.length),.os 4 1 0 (s.CG.length),.os 5 1 0 (s.CF.length),.os 6 1 0 (s.CE.length),.os 7 1 0 (s.CD.length),.os 8 1 0 (s.CC.length),.os 9 1 0 (s.CB.length),.os 10 1 0 (s.CA.length),.os 11 1 0 (s.C9.length),.os 12 1 0 (s.C8.length),.os 13 1 0 (s.C7.length),.os 14 1 0 (s.C6.length),.os 15 1 0 (s.C5.length),.os 16 1 0 (s.C3.length),.os 17 1 0 (s.C2.length),.os 18 1 0 (s.sums.length),.xl A7 s.BA,.os 19 1 0 (s.levels.length)],306,.cl,false⟩,bV 3 A7 s.CI,bV 3 A7 s.CH,bV 3 A7 s.CG,bV 3 A7 s.CF,bV 3 A7 s.CE,bV 3 A7 s.CD,bV 3 A7 s.CC,bV 3 A7 s.CB,bV 3 A7 s.CA,bV 3 A7 s.C9,bV 3 A7 s.C8,bV 3 A7 s.C7,bV 3 A7 s.C6,bV 3 A7 s.C5,bV 3 A7 s.C3,bV 3 A7 s.C2,bV 3 A7 s.sums,bV 3 A7 s.levels],λv b=>⟨Az A7 v 0,AK v 2,Az Ec v 3,AK v 4,AK v 5,Az A7 v 6,AK v 7,AK v 8,AF Ao b 0 0,AF .str b 0 1,AF B8 b 0 2,AF Au b 0 3,AF B9 b 0 4,AF Ao b 1 0,AF .str b 1 1,AF B8 b 1 2,AF Au b 1 3,AF B9 b 1 4,AF Ec b 1 5,AF A7 b 1 23,Ab A7 b 2,Ab A7 b 3,Ab A7 b 4,Ab A7 b 5,Ab A7 b 6,Ab A7 b 7,Ab A7 b 8,Ab A7 b 9,Ab A7 b 10,Ab A7 b 11,Ab A7 b 12,Ab A7 b 13,Ab A7 b 14,Ab A7 b 15,Ab A7 b 16,Ab A7 b 17,Ab A7 b 18,Ab A7 b 19⟩,vA,λs r=> {s with k:=r.k,CI:=r.CI,CH:=r.CH,CG:=r.CG,CF:=r.CF,CE:=r.CE,CD:=r.CD,CC:=r.CC,CB:=r.CB,CA:=r.CA,C9:=r.C9,C8:=r.C8,C7:=r.C7,C6:=r.C6,C5:=r.C5,C3:=r.C3,C2:=r.C2,sums:=r.sums},λs=>s,λ_ s=>s,[.exit 2],YM,QJ,X7⟩
abbrev HQ:=UA.run
def zC:As:=kI QG (la 2 func184 WG (l0 QG))
def avS:Rq QJ vA:=by
 intro s hI;refine ⟨λc1=>?_,λ_=>cq (by exact ⟨A8,A8,trivial⟩) _ _⟩
 have hm:=np s hI AA
 simp only [AY] at c1;obtain ⟨⟨h0,h1⟩,h2,h3,h4,h5,h6,h7,h8,h9⟩:=id hI;refine ⟨⟨A0,A0⟩,⟨A0,A0⟩,aD9 16 0 A0 A0 λi em=>?_⟩
 refine ⟨⟨A0,?_⟩,⟨A0,A0⟩,⟨A0,A0⟩,A0,⟨A0,A0⟩,A0,cq ?_ _ _⟩
 ·grind
 ·exact ⟨⟨rfl,(Br ..).symm⟩,A8,trivial⟩
def sU:UA.Ok:={}
def qZ:UA.Pf (abu):=⟨aj7,λs h=>rfl,aPI,avS⟩
def ap6:SA 1 aF5 UA:=s2 sU qZ QG zC
def amN (s:F8) (hE:YM s):(λs:F8=>(LM s.i (GQ s) (s.l.drop s.k.toNat),s.sums.set s.i.toNat (s.sums.getD s.i.toNat 0+smA s.alive (s.l.drop s.k.toNat)))) (HQ s)=(λs:F8=>(LM s.i (GQ s) (s.l.drop s.k.toNat),s.sums.set s.i.toNat (s.sums.getD s.i.toNat 0+smA s.alive (s.l.drop s.k.toNat)))) s:=by
 exact AS.KO sU qZ fz (λs hI=>by
  refine AG (λc1=>?_) (λc1=>?_)
  ·have hm:=np s hI AA
   refine oR 16 0 A0 A0 λi em=>?_
   show CM _ _ ((rO _ _ i _).rd s)
   rw [XV];exact (aPH s i hI AA em).2
  ·rw [XV]
   exact rfl) s hE
def apl (s:F8) (hE:YM s):GQ (HQ s)=LM s.i (GQ s) s.l/\(HQ s).sums=s.sums.set s.i.toNat (s.sums.getD s.i.toNat 0+smA s.alive s.l):=by
 have q3:=amN s hE
 obtain ⟨hI2,hf⟩:=AS.inv sU qZ (λs=>Bt) s hE
 have hI2:QJ (HQ s):=hI2
 have hq:=bM (aPI _ hI2) hf
 have q2:=hq.2
 obtain ⟨h0,h1,h2,h3,h4,h5,h6,h7⟩:=hE;obtain ⟨g0,g1,g2,g3,g4,g5,g6,g7⟩:=hI2
 have el:(HQ s).l=s.l:=rfl
 have en:(HQ s).n=s.n:=rfl
 have ei:(HQ s).i=s.i:=rfl
 have ea:(HQ s).alive=s.alive:=rfl
 simp only at q3;rw [q2,en,el,ei,ea,EJ A0,h0,show (0:Int).toNat=0 from rfl,CJ] at q3
 have e1:=Ax Prod.fst q3
 have e2:=Ax Prod.snd q3
 simp only at e1 e2;refine ⟨e1,?_⟩;rw [<-e2];exact (agW A0).symm
structure E0 where
 alive:List Int
 rows:List Rw
 (rn ri:Int)
 Jw:List Cd
 Jy:List ByteArray
 Ju:List Ko
 Jv:List Ch
 K8:List Ba
 H5:List Cd
 H4:List ByteArray
 Es:List Ko
 Aw:List Ch
 H6:List Ba
 BB:List Rw
 (BA CI CH CG CF CE CD CC CB CA C9 C8 C7 C6 C5 C3 C2 sums levels:List Int)
def aF4:=bN f186 0
def M3 (s:E0):F8:=(⟨s.alive,s.ri,s.rows,s.rn,s.ri,(CX s.rows s.ri).2,(List.length (CX s.rows s.ri).2:Int),0,s.Jw,s.Jy,s.Ju,s.Jv,s.K8,s.H5,s.H4,s.Es,s.Aw,s.H6,s.BB,s.BA,s.CI,s.CH,s.CG,s.CF,s.CE,s.CD,s.CC,s.CB,s.CA,s.C9,s.C8,s.C7,s.C6,s.C5,s.C3,s.C2,s.sums,s.levels⟩:F8)
def v9 (s:E0):T (Rd E0):=letI a:=HQ (M3 s);.br (decide (s.ri<s.rn)) (.ix s.ri (s.rows.length) (.rl s.CI (.rl s.CH (.rl s.CG (.rl s.CF (.rl s.CE (.rl s.CD (.rl s.CC (.rl s.CB (.rl s.CA (.rl s.C9 (.rl s.C8 (.rl s.C7 (.rl s.C6 (.rl s.C5 (.rl s.C3 (.rl s.C2 (.rl s.sums (.rl s.levels (.req (UA.q (M3 s)) (.rl a.CI (.rl a.CH (.rl a.CG (.rl a.CF (.rl a.CE (.rl a.CD (.rl a.CC (.rl a.CB (.rl a.CA (.rl a.C9 (.rl a.C8 (.rl a.C7 (.rl a.C6 (.rl a.C5 (.rl a.C3 (.rl a.C2 (.rl a.sums (.rl s.levels (.nx {s with ri:=A9 (s.ri+1),CI:=a.CI,CH:=a.CH,CG:=a.CG,CF:=a.CF,CE:=a.CE,CD:=a.CD,CC:=a.CC,CB:=a.CB,CA:=a.CA,C9:=a.C9,C8:=a.C8,C7:=a.C7,C6:=a.C6,C5:=a.C5,C3:=a.C3,C2:=a.C2,sums:=a.sums}))))))))))))))))))))))))))))))))))))))) (.rl s.CI (.rl s.CH (.rl s.CG (.rl s.CF (.rl s.CE (.rl s.CD (.rl s.CC (.rl s.CB (.rl s.CA (.rl s.C9 (.rl s.C8 (.rl s.C7 (.rl s.C6 (.rl s.C5 (.rl s.C3 (.rl s.C2 (.rl s.sums (.rl s.levels (.so (.exit 0) s)))))))))))))))))))
def FT (s:E0):List (List Int):=[s.CI,s.CH,s.CG,s.CF,s.CE,s.CD,s.CC,s.CB,s.CA,s.C9,s.C8,s.C7,s.C6,s.C5,s.C3,s.C2]
def U5 (s:E0):Prop:=s.ri=0/\(∀o∈FT s,o=[])/\s.sums=List.replicate s.rows.length 0/\s.rn=(s.rows.length:Int)/\s.rn<=1000/\(∀r∈s.rows,(r.2.length:Int)<=1000/\∀m∈r.2,0<=m/\m<16/\m<(s.alive.length:Int))/\(∀a∈s.alive,0<=a/\a<=80)/\s.sums.length=s.rows.length
def Mc (s:E0):Prop:=(0<=s.ri/\s.ri<=s.rn)/\(∀o∈FT s,(o.length:Int)<=1000*s.ri)/\(∀k:Nat,s.ri<=(k:Int)->s.sums.getD k 0=0)/\s.rn=(s.rows.length:Int)/\s.rn<=1000/\(∀r∈s.rows,(r.2.length:Int)<=1000/\∀m∈r.2,0<=m/\m<16/\m<(s.alive.length:Int))/\(∀a∈s.alive,0<=a/\a<=80)/\s.sums.length=s.rows.length
def TH (s:E0):Nat:=(s.rn-s.ri).toNat
def gv (x:Ex) (s s':E0):Prop:=x=.exit 0/\s'.ri=s'.rn
def aj6:∀s,U5 s->Mc s:=by
 rintro s ⟨h0,h1,h2,h3⟩
 refine ⟨A0,λo ho=>AA,λk _=>?_,h3⟩
 grind
def aPG (s:E0) (hI:Mc s) (c1:s.ri<s.rn):YM (M3 s):=by
 obtain ⟨⟨h0,h1⟩,h2,h3,h4,h5,h6,h7,h8⟩:=hI
 have hr:=h6 (CX s.rows s.ri) xi
 refine ⟨rfl,λo ho=>?_,?_,rfl,hr.1,hr.2,h7,h0,?_⟩
 ·have:=h2 o ho
  omega
 ·have:=h3 s.ri.toNat A0
  show 0<=s.sums.getD s.ri.toNat 0/\s.sums.getD s.ri.toNat 0<=1000
  omega
 ·show s.ri<(s.sums.length:Int)
  omega
def aPg (s s':E0) (hI:Mc s) (c1:s.ri<s.rn) (hO:FT s'=GQ (HQ (M3 s))) (hs:s'.sums=(HQ (M3 s)).sums) (hk:s'.ri=A9 (s.ri+1)) (hn:s'.rn=s.rn) (hl:s'.rows=s.rows) (ha:s'.alive=s.alive):
  (Mc s'/\TH s'<TH s)/\(λs:E0=>(H3 (FT s) s.ri (s.rows.drop s.ri.toNat),H0 s.alive s.sums s.ri (s.rows.drop s.ri.toNat))) s'=(λs:E0=>(H3 (FT s) s.ri (s.rows.drop s.ri.toNat),H0 s.alive s.sums s.ri (s.rows.drop s.ri.toNat))) s:=by
 obtain ⟨r1,r2⟩:=apl _ (aPG s hI c1);obtain ⟨⟨h0,h1⟩,h2,h3,h4,h5,h6,h7,h8⟩:=hI
 have hr:=h6 (CX s.rows s.ri) xi
 rw [AI (x:=s.ri+1)] at hk
 have r1:GQ (HQ (M3 s))=LM s.ri (FT s) (CX s.rows s.ri).2:=r1
 have r2:(HQ (M3 s)).sums=s.sums.set s.ri.toNat (s.sums.getD s.ri.toNat 0+smA s.alive (CX s.rows s.ri).2):=r2
 refine ⟨⟨⟨⟨A0,A0⟩,λo ho=>?_,λk hk2=>?_,AA,A0,by rw [hl,ha];exact h6,by rw [ha];exact h7,AA⟩,by simp only [TH];omega⟩,?_⟩
 ·rw [hO,r1] at ho
  have:=aFl h2 o ho
  have:=hr.1
  rw [hk];omega
 ·rw [hs,r2]
  have:=h3 k A0
  simp only [List.getD] at this|-;rw [Uz A0];exact this
 ·simp only
  rw [hO,hs,hl,ha,r1,r2,hk,(amx h0 (show s.ri<s.rows.length by omega)).1]
  rfl
def apj (s s':E0) (hI:Mc s) (c1:s.ri<s.rn) (hO:FT s'=GQ (HQ (M3 s))) (hs:s'.sums=(HQ (M3 s)).sums) (hk:s'.ri=A9 (s.ri+1)) (hn:s'.rn=s.rn) (hl:s'.rows=s.rows) (ha:s'.alive=s.alive):CM (λs'=>Mc s'/\TH s'<TH s) (λx s'=>gv x s s') (.next s'):=(aPg s s' hI c1 hO hs hk hn hl ha).1
def aph (s s':E0) (hI:Mc s) (c1:s.ri<s.rn) (hO:FT s'=GQ (HQ (M3 s))) (hs:s'.sums=(HQ (M3 s)).sums) (hk:s'.ri=A9 (s.ri+1)) (hn:s'.rn=s.rn) (hl:s'.rows=s.rows) (ha:s'.alive=s.alive):CM (λs'=>(λs:E0=>(H3 (FT s) s.ri (s.rows.drop s.ri.toNat),H0 s.alive s.sums s.ri (s.rows.drop s.ri.toNat))) s'=(λs:E0=>(H3 (FT s) s.ri (s.rows.drop s.ri.toNat),H0 s.alive s.sums s.ri (s.rows.drop s.ri.toNat))) s) (λ_ s'=>(λs:E0=>(H3 (FT s) s.ri (s.rows.drop s.ri.toNat),H0 s.alive s.sums s.ri (s.rows.drop s.ri.toNat))) s'=(λs:E0=>(H3 (FT s) s.ri (s.rows.drop s.ri.toNat),H0 s.alive s.sums s.ri (s.rows.drop s.ri.toNat))) s) (.next s'):=(aPg s s' hI c1 hO hs hk hn hl ha).2
def awl:Da Mc TH gv v9:=by
 intro s hI;refine AG (λc1=>?_) (λc1=>?_)
 ·exact apj s _ hI AA rfl rfl rfl rfl rfl rfl
 ·have c1:s.rn<=s.ri:=AA
  have h0:=hI.1
  exact SQ
def Oy:AS E0:=⟨1,67,[2,7,23,24,25],[.ns 7 6 3 A7,.ns 7 7 3 A7,.ns 7 8 3 A7,.ns 7 9 3 A7,.ns 7 10 3 A7,.ns 7 11 3 A7,.ns 7 12 3 A7,.ns 7 13 3 A7,.ns 7 14 3 A7,.ns 7 15 3 A7,.ns 7 16 3 A7,.ns 7 17 3 A7,.ns 7 18 3 A7,.ns 7 19 3 A7,.ns 7 20 3 A7,.ns 7 21 3 A7],λs=>[.xl A7 s.alive,.own 1 0,.xl Ec s.rows,s.rn,s.ri],λs=>[⟨[s.Jw,s.Jy,s.Ju,s.Jv,s.K8],28,.cl,false⟩,⟨[s.H5,s.H4,s.Es,s.Aw,s.H6,.xl Ec s.BB,.os 2 1 0 (s.CI.length),.os 3 1 0 (s.CH.length),.os 4 1 0 (s.CG.length),.os 5 1 0 (s.CF.length),.os 6 1 0 (s.CE.length),.os 7 1 0 (s.CD.length),.os 8 1 0 (s.CC.length),.os 9 1 0 (s.CB.length),.os 10 1 0 (s.CA.length),.os 11 1 0 (s.C9.length),.os 12 1 0 (s.C8.length),.os 13 1 0 (s.C7.length),.os 14 1 0 (s.C6.length),.os 15 1 0 (s.C5.length),.os 16 1 0 (s.C3.length),.os 17 1 0 (s.C2.length),.os 18 1 0 (s.sums.length),.xl A7 s.BA,.os 19 1 0 (s.levels.length)],306,.cl,false⟩,bV 3 A7 s.CI,bV 3 A7 s.CH,bV 3 A7 s.CG,bV 3 A7 s.CF,bV 3 A7 s.CE,bV 3 A7 s.CD,bV 3 A7 s.CC,bV 3 A7 s.CB,bV 3 A7 s.CA,bV 3 A7 s.C9,bV 3 A7 s.C8,bV 3 A7 s.C7,bV 3 A7 s.C6,bV 3 A7 s.C5,bV 3 A7 s.C3,bV 3 A7 s.C2,bV 3 A7 s.sums,bV 3 A7 s.levels],λv b=>⟨Az A7 v 0,Az Ec v 2,AK v 3,AK v 4,AF Ao b 0 0,AF .str b 0 1,AF B8 b 0 2,AF Au b 0 3,AF B9 b 0 4,AF Ao b 1 0,AF .str b 1 1,AF B8 b 1 2,AF Au b 1 3,AF B9 b 1 4,AF Ec b 1 5,AF A7 b 1 23,Ab A7 b 2,Ab A7 b 3,Ab A7 b 4,Ab A7 b 5,Ab A7 b 6,Ab A7 b 7,Ab A7 b 8,Ab A7 b 9,Ab A7 b 10,Ab A7 b 11,Ab A7 b 12,Ab A7 b 13,Ab A7 b 14,Ab A7 b 15,Ab A7 b 16,Ab A7 b 17,Ab A7 b 18,Ab A7 b 19⟩,v9,λs r=> {s with ri:=r.ri,CI:=r.CI,CH:=r.CH,CG:=r.CG,CF:=r.CF,CE:=r.CE,CD:=r.CD,CC:=r.CC,CB:=r.CB,CA:=r.CA,C9:=r.C9,C8:=r.C8,C7:=r.C7,C6:=r.C6,C5:=r.C5,C3:=r.C3,C2:=r.C2,sums:=r.sums},λs=>s,λ_ s=>s,[.exit 0],U5,Mc,TH⟩
abbrev IV:=Oy.run
abbrev ark:=Oy.Am
def avR:Rq Mc v9:=by
 intro s hI;refine ⟨λc1=>⟨?_,A8,A8,A8,A8,A8,A8,A8,A8,A8,A8,A8,A8,A8,A8,A8,A8,A8,A8,?_,A8,A8,A8,A8,A8,A8,A8,A8,A8,A8,A8,A8,A8,A8,A8,A8,A8,A8,trivial⟩,λc1=>⟨A8,A8,A8,A8,A8,A8,A8,A8,A8,A8,A8,A8,A8,A8,A8,A8,A8,A8,trivial⟩⟩
 ·(obtain ⟨h0,h2,h3,h4,h5,h6,h7,h8⟩:=hI;simp only [AY] at c1;omega)
 ·exact ⟨aPG s hI AA,rfl,rfl⟩
def sT:Oy.Ok:={}
def qY:Oy.Pf (gv):=⟨aj6,λs h=>rfl,awl,avR⟩
def cE:SA 1 aF4 Oy:=AS.snd sT qY (GC (Γ:=QG) (K:=zC) (L:=(Li (λi=>if i=6 then UA.lp else Af i))) (gk QG) zC.h aF4 (λb hb=>by
 rw [show B6 _=[aF5] by rfl] at hb
 simp only [B1,Bv,Bw] at hb;subst hb;exact ap6)) (λs=>AZ)
def apk:Fi U5 Mc gv ark IV:=AS.fin sT qY
def amM (s:E0) (hE:U5 s):(λs:E0=>(H3 (FT s) s.ri (s.rows.drop s.ri.toNat),H0 s.alive s.sums s.ri (s.rows.drop s.ri.toNat))) (IV s)=(λs:E0=>(H3 (FT s) s.ri (s.rows.drop s.ri.toNat),H0 s.alive s.sums s.ri (s.rows.drop s.ri.toNat))) s:=by
 exact AS.KO sT qY (λs:E0=>(H3 (FT s) s.ri (s.rows.drop s.ri.toNat),H0 s.alive s.sums s.ri (s.rows.drop s.ri.toNat))) (λs hI=>by
  refine AG (λc1=>?_) (λc1=>?_)
  ·exact aph s _ hI AA rfl rfl rfl rfl rfl rfl
  ·rfl) s hE
def apg (s:E0) (hE:U5 s):FT (IV s)=H3 (FT s) 0 s.rows/\(IV s).sums=H0 s.alive s.sums 0 s.rows:=by
 have q3:=amM s hE
 obtain ⟨s',hI,q1,q2⟩:=apk s hE;obtain ⟨h0,h1,h2,h3,h4,h5⟩:=hE
 have el:(IV s).rows=s.rows:=rfl
 have en:(IV s).rn=s.rn:=rfl
 have ea:(IV s).alive=s.alive:=rfl
 simp only at q3;rw [q2,en,el,ea,EJ A0,h0] at q3;exact ⟨Ax Prod.fst q3,Ax Prod.snd q3⟩
structure MY where
 r:Bool
 l:List Int
 (n i:Int)
 Jw:List Cd
 Jy:List ByteArray
 Ju:List Ko
 Jv:List Ch
 K8:List Ba
 H5:List Cd
 H4:List ByteArray
 Es:List Ko
 Aw:List Ch
 H6:List Ba
 BB:List Rw
 (CI CH CG CF CE CD CC CB CA C9 C8 C7 C6 C5 C3 C2 BA sums levels:List Int)
 ahB:ByteArray
 (alP an9 akt aku ah9 afW asI more:Int)
def eK (s:MY):T (Rd MY):=letI a:=gi s.l s.i;.br (decide (s.i<s.n)) (.ix s.i (s.l.length) (.ik a (s.sums.length) (.ix a (s.BB.length) (.br (!(decide ((A9 ((s.sums.getD a.toNat (Ty.dflt A7))+s.more))<=(CX s.BB a).1))) (.rl s.sums (.rl s.levels (.so (.ret) {s with r:=false}))) (.rl s.sums (.rl s.levels (.nx {s with i:=A9 (s.i+1)}))))))) (.rl s.sums (.rl s.levels (.so (.exit 0) s)))
def TP (s:MY) (j:Int):Bool:=KQ s.BB s.sums s.more (gi s.l j)
def YS (s:MY):Prop:=s.i=0/\0<=s.n/\s.n<=1000/\s.n=(s.l.length:Int)/\(∀r∈s.l,0<=r/\r<(s.BB.length:Int))/\s.sums.length=s.BB.length/\(∀k:Nat,0<=s.sums.getD k 0/\s.sums.getD k 0<=2000)/\(0<=s.more/\s.more<=10000)
def Yr (s:MY):Prop:=0<=s.i/\s.i<=s.n/\s.n<=1000/\(s.n=(s.l.length:Int)/\(∀r∈s.l,0<=r/\r<(s.BB.length:Int))/\s.sums.length=s.BB.length/\(∀k:Nat,0<=s.sums.getD k 0/\s.sums.getD k 0<=2000)/\(0<=s.more/\s.more<=10000))/\∀j:Nat,(j:Int)<s.i->TP s j=true
def tP (s:MY):Nat:=(s.n-s.i).toNat
def zT (x:Ex) (s s':MY):Prop:=(x=.exit 0/\∀j:Nat,(j:Int)<s'.n->TP s' j=true)\/(x=.ret/\s'.r=false/\∃j:Nat,(j:Int)<s'.n/\TP s' j=false)
def al1:∀s,YS s->Yr s:=by
 exact Kt
def azr:Da Yr tP zT eK:=by
 intro s hI;unfold eK;obtain ⟨h0,h1,h2,h3,h4⟩:=hI;refine AG (λc1=>AG (λc2=>?_) (λc2=>?_)) (λc1=>?_)
 ·have c1:s.i<s.n:=AO
  refine .inr ⟨rfl,rfl,s.i.toNat,AP,?_⟩
  have hg:TP s s.i=false:=aLs
  exact hg
 ·have c1:s.i<s.n:=AO
  have hg:TP s s.i=true:=aLs
  rw [AI (x:=s.i+1)];refine ⟨⟨AP,AP,h2,h3,λj hj=>?_⟩,by simp only [tP];omega⟩
  exact Mv
 ·exact SJ
def Yc:AS MY:=⟨7,18,[1,4,7,8,9],[],λs=>[.fn 216 [.own 4 0,.own 6 0],s.r,.xl A7 s.l,s.n,s.i],λs=>[⟨[s.Jw,s.Jy,s.Ju,s.Jv,s.K8],28,.cl,false⟩,⟨[s.H5,s.H4,s.Es,s.Aw,s.H6,.xl Ec s.BB,.xl A7 s.CI,.xl A7 s.CH,.xl A7 s.CG,.xl A7 s.CF,.xl A7 s.CE,.xl A7 s.CD,.xl A7 s.CC,.xl A7 s.CB,.xl A7 s.CA,.xl A7 s.C9,.xl A7 s.C8,.xl A7 s.C7,.xl A7 s.C6,.xl A7 s.C5,.xl A7 s.C3,.xl A7 s.C2,.os 2 1 0 (s.sums.length),.xl A7 s.BA,.os 3 1 0 (s.levels.length)],306,.cl,false⟩,bV 3 A7 s.sums,bV 3 A7 s.levels,⟨[.own 1 0],302,.cl,false⟩,⟨[.v (.string s.ahB),s.alP,s.an9,s.akt,s.aku,s.ah9,s.afW,s.asI],91,.cl,false⟩,⟨[s.more],3,.cl,false⟩],λv b=>⟨Eb v 1,Az A7 v 2,AK v 3,AK v 4,AF Ao b 0 0,AF .str b 0 1,AF B8 b 0 2,AF Au b 0 3,AF B9 b 0 4,AF Ao b 1 0,AF .str b 1 1,AF B8 b 1 2,AF Au b 1 3,AF B9 b 1 4,AF Ec b 1 5,AF A7 b 1 6,AF A7 b 1 7,AF A7 b 1 8,AF A7 b 1 9,AF A7 b 1 10,AF A7 b 1 11,AF A7 b 1 12,AF A7 b 1 13,AF A7 b 1 14,AF A7 b 1 15,AF A7 b 1 16,AF A7 b 1 17,AF A7 b 1 18,AF A7 b 1 19,AF A7 b 1 20,AF A7 b 1 21,AF A7 b 1 23,Ab A7 b 2,Ab A7 b 3,gSr (B3 (CP b 5) 0),Ae b 5 1,Ae b 5 2,Ae b 5 3,Ae b 5 4,Ae b 5 5,Ae b 5 6,Ae b 5 7,Ae b 6 0⟩,eK,λs r=> {s with r:=r.r,i:=r.i},λs=>s,λ_ s=>s,[.ret,.exit 0],YS,Yr,tP⟩
abbrev nh:=Yc.run
abbrev nY:=Yc.Am
def Tb:List Bd:=[We,Wv,Wu,Ww]
def ak3:As:=kI Tb (la 3 func186 cE (la 2 func184 WG (l0 Tb)))
def avG:Rq Yr eK:=by
 intro s hI;refine ⟨λc1=>⟨?_,?_,?_,?_,λc2=>⟨A8,A8,trivial⟩,λc2=>⟨A8,A8,trivial⟩⟩,λc1=>⟨A8,A8,trivial⟩⟩
 all_goals ((obtain ⟨h0,h1,h2,⟨e0,e1,e2,e3,e4⟩,h4⟩:=hI;simp only [AY] at c1;have hm:=e1 (gi s.l s.i) (L6 A0 A0);omega))
def aPx:Yc.Ok:={}
def aNl:Yc.Pf (zT):=⟨al1,λs h=>rfl,azr,avG⟩
def oJ:=s2 (b:=bN f184 0) aPx aNl Tb ak3
def arR:Fi YS Yr zT nY nh:=AS.fin aPx aNl
def bK (s:MY) (hE:YS s):(nY s=.exit 0/\s.l.all (KQ s.BB s.sums s.more)=true)\/(nY s=.ret/\(nh s).r=false/\s.l.all (KQ s.BB s.sums s.more)=false):=by
 obtain ⟨s',hI,hq⟩:=arR s hE;obtain ⟨h0,h1,h2,h3,_⟩:=hE
 have en:(nh s).n=s.n:=rfl
 rcases hq with ⟨q1,q2⟩ |⟨q1,q2,j,q3,q4⟩
 ·exact .inl ⟨q1,(Pz (d:=(0:Int))).1 λj hj=>q2 j A0⟩
 ·exact aKf
structure Jc where
 (charger level:Int)
 l:List Int
 (n i:Int)
 Jw:List Cd
 Jy:List ByteArray
 Ju:List Ko
 Jv:List Ch
 K8:List Ba
 H5:List Cd
 H4:List ByteArray
 Es:List Ko
 Aw:List Ch
 H6:List Ba
 BB:List Rw
 (CI CH CG CF CE CD CC CB CA C9 C8 C7 C6 C5 C3 C2 BA sums levels:List Int)
 more:Int
def aAY (s:Jc):T (Rd Jc):=letI b:=gi s.l s.i;letI c:=s.sums.length;letI a:=s.sums.set b.toNat (A9 ((s.sums.getD b.toNat (Ty.dflt A7))+s.more));.br (decide (s.i<s.n)) (.ix s.i (s.l.length) (.ik b c (.ik b c (.re c a (.rl s.levels (.nx {s with i:=A9 (s.i+1),sums:=a})))))) (.rl s.sums (.rl s.levels (.so (.exit 0) s)))
def Un (s:Jc):Prop:=s.i=0/\(∀k:Nat,0<=s.sums.getD k 0/\s.sums.getD k 0<=2000)/\s.n=(s.l.length:Int)/\s.n<=1000/\(∀r∈s.l,0<=r/\r<(s.sums.length:Int))/\(0<=s.more/\s.more<=10000)
def aW (s:Jc):Prop:=(0<=s.i/\s.i<=s.n)/\(∀k:Nat,0<=s.sums.getD k 0/\s.sums.getD k 0<=2000+10000*s.i)/\s.n=(s.l.length:Int)/\s.n<=1000/\(∀r∈s.l,0<=r/\r<(s.sums.length:Int))/\(0<=s.more/\s.more<=10000)
def yl (s:Jc):Nat:=(s.n-s.i).toNat
def vv (x:Ex) (s s':Jc):Prop:=x=.exit 0/\s'.i=s'.n
def aly:∀s,Un s->aW s:=by
 rintro s ⟨h0,h1,h2,h3⟩
 exact ⟨A0,λk=>AA,h2,h3⟩
def aiD:Da aW yl vv aAY:=by
 intro s hI;obtain ⟨⟨h0,h1⟩,h2,h3,h4,h5,h6⟩:=hI;refine AG (λc1=>?_) (λc1=>?_)
 ·have c1:s.i<s.n:=AO
  have hb:=h2 (gi s.l s.i).toNat
  rw [AI (x:=s.i+1),AI (x:=s.sums.getD (gi s.l s.i).toNat (Ty.dflt A7)+s.more) aMS aMT];refine ⟨⟨⟨AA,AA⟩,λk=>?_,h3,h4,λr hr=>AA,h6⟩,by simp only [yl];omega⟩
  simp only
  have hk:=h2 k
  rw [Ss];split
  ·show 0<=s.sums.getD (gi s.l s.i).toNat 0+s.more/\s.sums.getD (gi s.l s.i).toNat 0+s.more<=_
   omega
  ·omega
 ·exact VC
def Uo:AS Jc:=⟨4,90,[1,2,6,7,66,67,68],[],λs=>[s.charger,.own 4 0,s.level,.own 5 0,.xl A7 s.l,s.n,s.i],λs=>[⟨[s.Jw,s.Jy,s.Ju,s.Jv,s.K8],28,.cl,false⟩,⟨[s.H5,s.H4,s.Es,s.Aw,s.H6,.xl Ec s.BB,.xl A7 s.CI,.xl A7 s.CH,.xl A7 s.CG,.xl A7 s.CF,.xl A7 s.CE,.xl A7 s.CD,.xl A7 s.CC,.xl A7 s.CB,.xl A7 s.CA,.xl A7 s.C9,.xl A7 s.C8,.xl A7 s.C7,.xl A7 s.C6,.xl A7 s.C5,.xl A7 s.C3,.xl A7 s.C2,.os 2 1 0 (s.sums.length),.xl A7 s.BA,.os 3 1 0 (s.levels.length)],306,.cl,false⟩,bV 3 A7 s.sums,bV 3 A7 s.levels,⟨[.own 1 0],302,.cl,false⟩,⟨[s.more],3,.cl,false⟩],λv b=>⟨AK v 0,AK v 2,Az A7 v 4,AK v 5,AK v 6,AF Ao b 0 0,AF .str b 0 1,AF B8 b 0 2,AF Au b 0 3,AF B9 b 0 4,AF Ao b 1 0,AF .str b 1 1,AF B8 b 1 2,AF Au b 1 3,AF B9 b 1 4,AF Ec b 1 5,AF A7 b 1 6,AF A7 b 1 7,AF A7 b 1 8,AF A7 b 1 9,AF A7 b 1 10,AF A7 b 1 11,AF A7 b 1 12,AF A7 b 1 13,AF A7 b 1 14,AF A7 b 1 15,AF A7 b 1 16,AF A7 b 1 17,AF A7 b 1 18,AF A7 b 1 19,AF A7 b 1 20,AF A7 b 1 21,AF A7 b 1 23,Ab A7 b 2,Ab A7 b 3,Ae b 5 0⟩,aAY,λs r=> {s with i:=r.i,sums:=r.sums},λs=>s,λ_ s=>s,[.exit 0],Un,aW,yl⟩
abbrev OO:=Uo.run
abbrev azj:=Uo.Am
def akh:As:=kI Tb (la 2 func184 oJ (la 3 func186 cE (la 2 func184 WG (l0 Tb))))
def aiL:Rq aW aAY:=by
 intro s hI;refine ⟨λc1=>⟨?_,?_,?_,?_,?_,?_,A8,trivial⟩,λc1=>⟨A8,A8,trivial⟩⟩
 all_goals ((obtain ⟨⟨h0,h1⟩,h2,h3,h4,h5,h6⟩:=hI;(try simp only [AY] at c1);first|(have hm:=h5 (gi s.l s.i) (L6 A0 A0);omega) |exact ⟨rfl,AJ⟩ |exact ⟨rfl,rfl⟩))
def yY:Uo.Ok:={}
def yW:Uo.Pf (vv):=⟨aly,λs h=>rfl,aiD,aiL⟩
def qm:=s2 (b:=bN f188 0) yY yW Tb akh
def auM:Fi Un aW vv azj OO:=AS.fin yY yW
def aoK (s:Jc) (hE:Un s):(λs:Jc=>KW s.sums s.more (s.l.drop s.i.toNat)) (OO s)=(λs:Jc=>KW s.sums s.more (s.l.drop s.i.toNat)) s:=by
 exact AS.KO yY yW (λs:Jc=>KW s.sums s.more (s.l.drop s.i.toNat)) (λs hI=>by
  obtain ⟨⟨h0,h1⟩,h2,h3,h4,h5,h6⟩:=hI;refine AG (λc1=>?_) (λc1=>rfl)
  have c1:s.i<s.n:=AA
  have hb:=h2 (gi s.l s.i).toNat
  rw [AI (x:=s.i+1),AI (x:=s.sums.getD (gi s.l s.i).toNat (Ty.dflt A7)+s.more) aMS aMT];rw [(gi_step h0 (show s.i<s.l.length by omega)).1]
  rfl) s hE
def aJD (s:Jc) (hE:Un s):(OO s).sums=KW s.sums s.more s.l:=by
 have q3:=aoK s hE
 obtain ⟨s',hI,q1,q2⟩:=auM s hE;obtain ⟨h0,h1,h2,h3⟩:=hE;simp only at q3;rw [q2,show (OO s).n=s.n from rfl,show (OO s).l=s.l from rfl,show (OO s).more=s.more from rfl,EJ A0,h0] at q3;exact q3
structure Cy where
 (most order:List Int)
 (n level:Int)
 some:Bool
 l:List Int
 (m k:Int)
 B5:List Cd
 BW:List ByteArray
 C0:List Ko
 BH:List Ch
 C1:List Ba
 H5:List Cd
 H4:List ByteArray
 Es:List Ko
 Aw:List Ch
 H6:List Ba
 BB:List Rw
 (CI CH CG CF CE CD CC CB CA C9 C8 C7 C6 C5 C3 C2 BA sums levels:List Int)
def aEr:=lN (bN f147 0) 0
def T6 (s:Cy):MY:=letI c:=gi s.l s.k;letI d:=gi s.BA c;letI a:=AH s.Aw c;letI b:=A9 ((s.levels.getD c.toNat (Ty.dflt A7))+1);(⟨false,([s.CI,s.CH,s.CG,s.CF,s.CE,s.CD,s.CC,s.CB,s.CA,s.C9,s.C8,s.C7,s.C6,s.C5,s.C3,s.C2]:List (List Int)).getD c.toNat [],(List.length (([s.CI,s.CH,s.CG,s.CF,s.CE,s.CD,s.CC,s.CB,s.CA,s.C9,s.C8,s.C7,s.C6,s.C5,s.C3,s.C2]:List (List Int)).getD c.toNat []):Int),0,s.B5,s.BW,s.C0,s.BH,s.C1,s.H5,s.H4,s.Es,s.Aw,s.H6,s.BB,s.CI,s.CH,s.CG,s.CF,s.CE,s.CD,s.CC,s.CB,s.CA,s.C9,s.C8,s.C7,s.C6,s.C5,s.C3,s.C2,s.BA,s.sums,s.levels,a.1,a.2.1,a.2.2.1,a.2.2.2.1,a.2.2.2.2.1,a.2.2.2.2.2.1,a.2.2.2.2.2.2.1,a.2.2.2.2.2.2.2,A9 ((if d<(Dt a.2.2.2.1 a.2.2.2.2.2.1 b) then Dt a.2.2.2.1 a.2.2.2.2.2.1 b else d)-(if d<(Dt a.2.2.2.1 a.2.2.2.2.2.1 (A9 (b-1))) then Dt a.2.2.2.1 a.2.2.2.2.2.1 (A9 (b-1)) else d))⟩:MY)
def Sd (s:Cy):Jc:=letI b:=gi s.l s.k;letI c:=AH s.Aw b;letI d:=gi s.BA b;letI a:=A9 ((s.levels.getD b.toNat (Ty.dflt A7))+1);(⟨b,a,([s.CI,s.CH,s.CG,s.CF,s.CE,s.CD,s.CC,s.CB,s.CA,s.C9,s.C8,s.C7,s.C6,s.C5,s.C3,s.C2]:List (List Int)).getD b.toNat [],(List.length (([s.CI,s.CH,s.CG,s.CF,s.CE,s.CD,s.CC,s.CB,s.CA,s.C9,s.C8,s.C7,s.C6,s.C5,s.C3,s.C2]:List (List Int)).getD b.toNat []):Int),0,s.B5,s.BW,s.C0,s.BH,s.C1,s.H5,s.H4,s.Es,s.Aw,s.H6,s.BB,s.CI,s.CH,s.CG,s.CF,s.CE,s.CD,s.CC,s.CB,s.CA,s.C9,s.C8,s.C7,s.C6,s.C5,s.C3,s.C2,s.BA,s.sums,s.levels,A9 ((if d<(Dt c.2.2.2.1 c.2.2.2.2.2.1 a) then Dt c.2.2.2.1 c.2.2.2.2.2.1 a else d)-(if d<(Dt c.2.2.2.1 c.2.2.2.2.2.1 (A9 (a-1))) then Dt c.2.2.2.1 c.2.2.2.2.2.1 (A9 (a-1)) else d))⟩:Jc)
def TV (s:Cy):T (Rd Cy):=letI b:=gi s.l s.k;letI d:=s.levels.length;letI e:=A9 (s.k+1);letI f:=AH s.Aw b;letI g:=OO (Sd s);letI h:=s.levels.getD b.toNat (Ty.dflt A7);letI c:=A9 (h+1);letI a:=s.levels.set b.toNat c;.br (decide (s.k<s.m)) (.ix s.k (s.l.length) (.ik b d (.br (h !=(A9 (s.level-1))) (.rl s.sums (.rl s.levels (.nx {s with k:=e}))) (.ix b (s.BH.length) (.ix b (s.most.length) (.req ((gi s.most b)<=9223372036854775807) (.br (decide ((HD (AH s.BH b).2.2.2.1 (AH s.BH b).2.2.2.2.1 (AH s.BH b).2.2.2.2.2.1 (gi s.most b))<s.level)) (.rl s.sums (.rl s.levels (.nx {s with k:=e}))) (.ix b (s.Aw.length) (.ik b d (.ix b (s.BA.length) (.req ((1<=f.2.2.2.1/\f.2.2.2.1<=80/\1<=f.2.2.2.2.2.1/\f.2.2.2.2.2.1<=80)/\0<=c/\c<=1000) (.ix b (s.BA.length) (.req ((1<=f.2.2.2.1/\f.2.2.2.1<=80/\1<=f.2.2.2.2.2.1/\f.2.2.2.2.2.1<=80)/\0<=(A9 (c-1))/\(A9 (c-1))<=1000) (.req (0<=b/\b<(16:Int)) (.rl s.sums (.rl s.levels (.req (Yc.q (T6 s)) (.br (Bo (nY (T6 s)) (.ret)) (.br (!(nh (T6 s)).r) (.br false (.rl s.sums (.rl s.levels (.nx {s with some:=true,k:=e}))) (.rl s.sums (.rl s.levels (.nx {s with k:=e})))) (.req (0<=b/\b<(16:Int)) (.rl s.sums (.rl s.levels (.req (Uo.q (Sd s)) (.ik b d (.br true (.rl g.sums (.re d a (.nx {s with some:=true,k:=e,sums:=g.sums,levels:=a}))) (.rl g.sums (.re d a (.nx {s with k:=e,sums:=g.sums,levels:=a})))))))))) (.br (!true) (.br false (.rl s.sums (.rl s.levels (.nx {s with some:=true,k:=e}))) (.rl s.sums (.rl s.levels (.nx {s with k:=e})))) (.req (0<=b/\b<(16:Int)) (.rl s.sums (.rl s.levels (.req (Uo.q (Sd s)) (.ik b d (.br true (.rl g.sums (.re d a (.nx {s with some:=true,k:=e,sums:=g.sums,levels:=a}))) (.rl g.sums (.re d a (.nx {s with k:=e,sums:=g.sums,levels:=a})))))))))))))))))))))))))))) (.rl s.sums (.rl s.levels (.so (.exit 2) s)))
def D5 (s:Cy):List (List Int):=[s.CI,s.CH,s.CG,s.CF,s.CE,s.CD,s.CC,s.CB,s.CA,s.C9,s.C8,s.C7,s.C6,s.C5,s.C3,s.C2]
end Go.Proofs.YtgmhhjldohjpmaaGreatDoor
end
