/- Helpers for ControlMatchesReference. Conditions: none. -/
import Derived.Test.YtlihnbimgclogaaGreatDoorRows
import Derived.WalkKit
import Derived.WalkSpells
import Derived.WalkLawsBesides
import Derived.Deep.QuietTactic
import Derived.BigQuiet
import Derived.Deep.RegionHeld3
import Derived.Deep.DrawnRows
import Derived.Deep.DeepCutAuto
import Derived.RangeFuncLeaves
import Derived.RangeFuncRecord
import Derived.OrdersIn
import Derived.LoopNIn
import Derived.Deep.Upon
import Derived.Laws.MakeOwn
import Derived.LoopN
import Derived.OpenShut
import Derived.ChangeShapes
import Derived.WideShapes
import Derived.Carry
import Derived.ChangeOld
import Derived.FnData
import Derived.Test.YtlihnbimgclogaaGreatDoorCards
import Derived.Test.YtlihnbimgclogaaGreatDoorTie
import Derived.ProofKit
import Derived.Deep.DeepHandedRow
import Derived.Lib.LaidTab
noncomputable section
namespace Go.Proofs.YtlihnbimgclogaaGreatDoor
abbrev _root_.Go.aSe:Int→Int:=Go.IntKind.i64.wrap
theorem _root_.Go.aSf {α β:Sort _}{a:α}{b:β}:a=a∧b=b:=⟨rfl,rfl⟩
open Go.RowKit
structure More where
 g:Array Obj
 d:Nat
instance:Inhabited More:=⟨⟨#[],0⟩⟩
open Go Go.RowKit
section
variable {P : Program} {ops : Array Oper} {md : Region.Mode} {G : Type} {D : World → Prop} {C : G → World → Prop} {sp : Nat → Bool}
def Ed (P:Program) (w:World) (v:Value):Result Next→Prop
 | .ok (.value u) w'=>w'=w∧u=v
 | .ok .skip w'=>w'=w∧v=undef
 | .ok (.enter f args) w'=>w'=w∧Calls P f args w (λe w''=>e=.returned v∧Below w.heap.size w w'')
 |_=>False
def vY (P:Program) (o:Oper) (a:Act) (w:World) (v:Value):Prop:=Ed P w v ((execOp a.eval o).run P w)
def calm (P:Program) (o:Oper) (a:Act) (D:World→Prop) (next:Act→Prop):Prop:=∃v,(∀w,D w→vY P o a w v)∧next (a.put o.dst v)
def dX (P:Program) (R:Value→World→Prop):Result Next→Prop
 | .ok (.value v) w'=>R v w'
 | .ok .skip w'=>R undef w'
 | .ok (.enter f args) w'=>Calls P f args w' λe w''=>∃v,e=.returned v∧R v w''
 | .ok (.round l f tmps assign body) w'=>RoundIn Fence.wide 0 P l f tmps assign body w' λe w''=>∃v,e=.returned v∧R v w''
 |_=>False
abbrev Q8 (r:Option Nat):Fence:={Fence.wide with round:=r}
theorem semAt_eq {o:Oper}{r:Option Nat}{ρ:Operand→Value}(h:∀c,o.op≠ .defer c):o.semAt r ρ=execOp ρ o:=by
 unfold Oper.semAt;split
 ·rename_i c hc
  exact absurd hc (h c)
 ·rfl
theorem Ce {o:Oper}{ρ:Operand→Value}{w:World}{c:Call}(h:o.op=.defer c):(∃d w',(execOp ρ o).run P w=.ok (.defer d) w')∨(∃x w',(execOp ρ o).run P w=.halt x w'):=by
 unfold execOp;simp only [h];cases hr:(resolve ρ c o.type).run P w with
 |ok d w'=>left;exact ⟨d,w',by simp [Sem.run_bind,hr]⟩
 |halt x w'=>right;exact ⟨x,w',by simp [Sem.run_bind,hr]⟩
def Rt (P:Program) (o:Oper) (a:Act) (C:G→World→Prop) (g:G) (K:Act→G→Prop):Prop:=
 ∀w,C g w→dX P (λv w'=>∃g',C g' w'∧K (a.put o.dst v) g') ((execOp a.eval o).run P w)
def Iu (P:Program) (ops:Array Oper) (D:World→Prop) (C:G→World→Prop) (sp:Nat→Bool) (i:Nat) (K:Act→G→Prop) (a:Act) (g:G):Prop:=
 match ops[i]? with
 |none=>K a g
 |some o=>if Region.wanted o (yielded ops a.tmps) then (if sp i then Rt P o a C g K else calm P o a D λa'=>K a' g) else K (a.put o.dst undef) g
theorem AP {o:Oper}{a:Act}{K K':Act→Prop}(h:∀a,K a→K' a) (hh:calm P o a D K):calm P o a D K':=
 let ⟨v,h1,h2⟩:=hh
 ⟨v,h1,h _ h2⟩
theorem je {R R':Value→World→Prop}(h:∀v w,R v w→R' v w) {r:Result Next}(hh:dX P R r):dX P R' r:=by
 cases r with
 |ok n w'=>
  cases n<;>simp only [dX] at hh⊢
  case value u=>exact h _ _ hh
  case skip=>exact h _ _ hh
  case enter f args=>exact hh.mono λe w'' ⟨v,he,hr⟩=>⟨v,he,h _ _ hr⟩
  case round l f tmps assign body=>exact hh.mono λe w'' ⟨v,he,hr⟩=>⟨v,he,h _ _ hr⟩
 |halt x w'=>simp only [dX] at hh
theorem Oq {o:Oper}{a:Act}{g:G}{K K':Act→G→Prop}(h:∀a g,K a g→K' a g) (hh:Rt P o a C g K):Rt P o a C g K':=
 λw hw=>je (λ_ _ ⟨g',hc,hk⟩=>⟨g',hc,h _ _ hk⟩) (hh w hw)
theorem Zg {i:Nat}{a:Act}{g:G}{K K':Act→G→Prop}(h:∀a g,K a g→K' a g) (hh:Iu P ops D C sp i K a g):Iu P ops D C sp i K' a g:=by
 unfold Iu at*;split
 ·exact h _ _ (by simpa [*] using hh)
 ·rename_i o ho
  simp only [ho] at hh;split
  ·rename_i hw
   simp only [hw,if_true] at hh;split
   ·rename_i hs;simp only [hs,if_true] at hh;exact Oq h hh
   ·rename_i hs;simp only [hs] at hh;exact AP (λa=>h a g) hh
  ·rename_i hw;simp only [hw] at hh;exact h _ _ hh
def rJ (P:Program) (md:Region.Mode) (ops:Array Oper) (D:World→Prop) (C:G→World→Prop) (sp:Nat→Bool) (Q:Act→G→Prop):Nat→Array Bool→Act→G→Prop
 |0,listed,a,g=>Region.ready md ops listed=[]∧Q a g
 |fuel+1,listed,a,g=>
  (Region.ready md ops listed=[]→Q a g)∧
  ∀i∈Region.ready md ops listed,Iu P ops D C sp i (rJ P md ops D C sp Q fuel (listed.setIfInBounds i true)) a g
theorem LJ {r:Option Nat}{m l:Nat}{f:FuncId}{tmps:Array Value}{assign body:Code}{w:World}{R:Ending→World→Prop}(h:RoundIn Fence.wide 0 P l f tmps assign body w R):RoundIn (Q8 r) m P l f tmps assign body w R:=
 ⟨trivial,λc cs _=>h.2 c cs (room_wide _)⟩
theorem aa0 {o:Oper}{a:Act}{K:Act→Prop}{K':Act→World→Prop}{Q':Exit→Act→World→Prop}{w:World}(hw:D w)
  (h:∀a w',Below w.heap.size w w'→K a→K' a w') (hh:calm P o a D K) (r:Option Nat) (m:Nat):o.wpIn (Q8 r) m P a w K' Q':=by
 obtain ⟨v,h1,h2⟩:=hh
 have h3:=h1 w hw
 unfold vY at h3
 have hnd:∀c,o.op≠ .defer c:=λc hc=>by
  rcases Ce (P:=P) (ρ:=a.eval) (w:=w) hc with ⟨d,w',e⟩ |⟨d,w',e⟩<;>rw [e] at h3<;>simp only [Ed] at h3
 unfold Oper.wpIn;refine ⟨λ_ _=>trivial,?_⟩
 rw [semAt_eq hnd];generalize (execOp a.eval o).run P w=r at*;cases r with
 | ok n w'=>
  cases n<;>simp only [Ed] at h3<;>simp only [Oper.uponIn]
  case value u=>
   obtain ⟨e1,e2⟩:=h3;rw [e1,e2];exact h _ _ (Below.refl _ _) h2
  case skip=>
   obtain ⟨e1,e2⟩:=h3;rw [e1,←e2];exact h _ _ (Below.refl _ _) h2
  case enter f args=>
   obtain ⟨e1,hc⟩:=h3;rw [e1];exact ⟨λh=>(by cases h),callsIn_wide.2 (hc.mono λe w'' ⟨he,hw''⟩=>by subst he;exact h _ _ hw'' h2)⟩
 |halt x w'=>simp only [Ed] at h3
theorem akU {o:Oper}{a:Act}{g:G}{K:Act→G→Prop}{K':Act→World→Prop}{Q':Exit→Act→World→Prop}{w:World}(hw:C g w)
  (h:∀a g w',C g w'→K a g→K' a w') (hh:Rt P o a C g K) (r:Option Nat) (m:Nat):o.wpIn (Q8 r) m P a w K' Q':=by
 have h3:=hh w hw
 have hnd:∀c,o.op≠ .defer c:=λc hc=>by
  rcases Ce (P:=P) (ρ:=a.eval) (w:=w) hc with ⟨d,w',e⟩ |⟨d,w',e⟩<;>rw [e] at h3<;>simp only [dX] at h3
 unfold Oper.wpIn;refine ⟨λ_ _=>trivial,?_⟩
 rw [semAt_eq hnd];generalize (execOp a.eval o).run P w=r at*;cases r with
 | ok n w'=>
  cases n<;>simp only [dX] at h3<;>simp only [Oper.uponIn]
  case value u=>obtain ⟨g',h1,h2⟩:=h3;exact h _ _ _ h1 h2
  case skip=>obtain ⟨g',h1,h2⟩:=h3;exact h _ _ _ h1 h2
  case enter f args=>
   exact ⟨λh=>(by cases h),callsIn_wide.2 (h3.mono λe w'' ⟨v,he,g',h1,h2⟩=>by subst he;exact h _ _ _ h1 h2)⟩
  case round l f tmps assign body=>
   exact ⟨λh=>(by cases h),LJ (h3.mono λe w'' ⟨v,he,g',h1,h2⟩=>by subst he;exact h _ _ _ h1 h2)⟩
 |halt x w'=>simp only [dX] at h3
theorem Xn (hD:∀g w,C g w→D w) (hkeep:∀g w w',C g w→Below w.heap.size w w'→C g w') {i:Nat}{a:Act}{g:G}{K:Act→G→Prop}{K':Act→World→Prop}{Q':Exit→Act→World→Prop}{w:World}(hC:C g w)
  (h:∀a g w',C g w'→K a g→K' a w') (hh:Iu P ops D C sp i K a g) (r:Option Nat) (m:Nat):wpOpIn (Q8 r) m P ops Q' i K' a w:=by
 unfold Iu at hh;unfold wpOpIn;split
 ·rename_i ho;simp only [ho] at hh;exact h _ _ _ hC hh
 ·rename_i o ho
  simp only [ho] at hh;split
  ·rename_i hw
   simp only [hw,if_true] at hh
   by_cases hs:sp i=true
   ·simp only [hs,if_true] at hh;exact akU hC h hh r m
   ·simp only [hs] at hh;exact aa0 (hD _ _ hC) (λa w' hb hk=>h a g w' (hkeep _ _ _ hC hb) hk) hh r m
  ·rename_i hw;simp only [hw] at hh;exact ⟨λ_ _=>trivial,h _ _ _ hC hh⟩
theorem BA (hD:∀g w,C g w→D w) (hkeep:∀g w w',C g w→Below w.heap.size w w'→C g w') {Q:Act→G→Prop}{Q':Exit→Act→World→Prop}(hQ:∀a g w,C g w→Q a g→Q' .normal a w) (r:Option Nat) (m:Nat):
  ∀(fuel:Nat) (listed:Array Bool) (a:Act) (g:G) (w:World),C g w→rJ P md ops D C sp Q fuel listed a g→wpAnyIn (Q8 r) m P md ops Q' fuel listed a w
 |0,_,_,_,_,hw,h=>⟨h.1,hQ _ _ _ hw h.2⟩
 |fuel+1,_,_,_,_,hw,h=>⟨λh0=>hQ _ _ _ hw (h.1 h0),λi hi=>Xn hD hkeep hw (λa' g' w' hw'=>BA hD hkeep hQ r m fuel _ a' g' w' hw') (h.2 i hi) r m⟩
def nU (P:Program) (ops:Array Oper) (D:World→Prop) (o:Oper) (v:Value) (a:Act):Prop:=
 (Region.wanted o (yielded ops a.tmps)=true∧∀w,D w→vY P o a w v)∨
 (Region.wanted o (yielded ops a.tmps)=false∧v=undef)
theorem nU.Iu {i:Nat}{o:Oper}{v:Value}{a:Act}{g:G}(hi:ops[i]? =some o) (hs:sp i=false) (hy:nU P ops D o v a) {K:Act→G→Prop}(h:K (a.put o.dst v) g):Iu P ops D C sp i K a g:=by
 unfold Go.Proofs.YtlihnbimgclogaaGreatDoor.Iu;simp only [hi];rcases hy with ⟨hw,hv⟩ |⟨hw,rfl⟩
 ·simp only [hw,if_true,hs,Bool.false_eq_true,if_false];exact ⟨v,hv,h⟩
 ·simp only [hw,Bool.false_eq_true,if_false];exact h
theorem nU.of_same {o:Oper}{v:Value}{a a':Act}(hy:nU P ops D o v a) (he:execOp a'.eval o=execOp a.eval o)
  (hw:Region.wanted o (yielded ops a'.tmps)=Region.wanted o (yielded ops a.tmps)):nU P ops D o v a':=by
 unfold nU vY at*;rw [he,hw];exact hy
theorem yQ {i:Nat}{o:Oper}{a:Act}{g:G}{K:Act→G→Prop}(hi:ops[i]? =some o) (hs:sp i=false) (h:Iu P ops D C sp i K a g):∃v,nU P ops D o v a∧K (a.put o.dst v) g:=by
 unfold Iu at h;simp only [hi] at h
 by_cases hw:Region.wanted o (yielded ops a.tmps)=true
 ·simp only [hw,if_true,hs,Bool.false_eq_true,if_false] at h
  obtain ⟨v,h1,h2⟩:=h;exact ⟨v,.inl ⟨hw,h1⟩,h2⟩
 ·simp only [hw] at h
  exact ⟨undef,.inr ⟨by simpa using hw,rfl⟩,h⟩
theorem azj {j:Nat}{oi oj:Oper}{v:Value}(hj:ops[j]? =some oj) (hap:oi.apart ops oj=true)
  (hsi:∀cs b,oi.op≠ .select cs b) (hsj:∀cs b,oj.op≠ .select cs b) {K:Act→G→Prop} {a:Act} {g:G}
  (hy:nU P ops D oi v a) (h:Iu P ops D C sp j K (a.put oi.dst v) g):
  Iu P ops D C sp j (λa' g'=>nU P ops D oi v a'∧K (a'.put oi.dst v) g') a g:=by
 obtain ⟨h1,h2,h3⟩:=Oper.apart_spec hap
 have keep:∀(a:Act),nU P ops D oi v a→∀u,nU P ops D oi v (a.put oj.dst u):=λa hy u=>
  hy.of_same (execOp_put oi hsi a oj.dst u h3) (wanted_put oi a oj.dst u h3)
 unfold Iu at*;simp only [hj] at*;rw [wanted_put oj a oi.dst v h1] at h;split
 ·rename_i hw
  simp only [hw,if_true] at h;split
  ·rename_i hs
   simp only [hs,if_true] at h;intro w hw'
   have:=h w hw'
   rw [execOp_put oj hsj a oi.dst v h1] at this;refine je (λu w'' ⟨g',hc,hk⟩=>⟨g',hc,keep a hy u,?_⟩) this
   rw [←Act.put_comm a v u h2];exact hk
  ·rename_i hs
   simp only [hs] at h;obtain ⟨u,hu,hn⟩:=h;refine ⟨u,λw hw'=>?_,keep a hy u,by rw [←Act.put_comm a v u h2];exact hn⟩
   have:=hu w hw'
   unfold vY at*
   rwa [execOp_put oj hsj a oi.dst v h1] at this
 ·rename_i hw
  simp only [hw] at h;exact ⟨keep a hy _,by rw [←Act.put_comm a v undef h2];exact h⟩
theorem CZ {Q:Act→G→Prop}{i:Nat}{oi:Oper}{v:Value}(hi:ops[i]? =some oi) (hs:sp i=false) (hsel:∀(j:Nat) (o:Oper) cs b,ops[j]? =some o→o.op≠ .select cs b):
  ∀(fuel:Nat) (listed:Array Bool) (a:Act) (g:G),
   (∀j oj,ops[j]? =some oj→j≠i→listed.getD j true=false→(∀e∈oj.after,Region.binds md e=true→e.on≠i)→oi.apart ops oj=true)→
   i∈Region.ready md ops listed→nU P ops D oi v a→
   rJ P md ops D C sp Q fuel (listed.setIfInBounds i true) (a.put oi.dst v) g→rJ P md ops D C sp Q (fuel+1) listed a g:=by
 intro fuel
 induction fuel with
 | zero=>
  intro listed a g _ hr hy H;refine ⟨λh=>(by rw [h] at hr;cases hr),λj hj=>?_⟩
  by_cases hji:j=i
  ·subst hji;exact hy.Iu hi hs H
  ·have:=ready_mono hj hji
   rw [H.1] at this;cases this
 | succ fuel ih=>
  intro listed a g hfree hr hy H;refine ⟨λh=>(by rw [h] at hr;cases hr),λj hj=>?_⟩
  by_cases hji:j=i
  ·subst hji;exact hy.Iu hi hs H
  ·have h1:=H.2 j (ready_mono hj hji)
   obtain ⟨hjun,oj,hoj,hall⟩:=mem_ready.1 hj
   have hnot:∀e∈oj.after,Region.binds md e=true→e.on≠i:=λe he hb heq=>by
    have h1:=hall e he hb
    have h0:=(mem_ready.1 hr).1
    rw [heq] at h1;rcases Nat.lt_or_ge i listed.size with h'|h'
    ·simp [h'] at h0 h1;rw [h0] at h1;cases h1
    ·simp [Array.getElem?_eq_none h'] at h1
   have h2:=azj hoj (hfree j oj hoj hji hjun hnot) (λcs b=>hsel i oi cs b hi) (λcs b=>hsel j oj cs b hoj) hy h1
   have hfree':∀k ok,ops[k]? =some ok→k≠i→(listed.setIfInBounds j true).getD k true=false→
     (∀e∈ok.after,Region.binds md e=true→e.on≠i)→oi.apart ops ok=true:=λk ok hk hki hun hno=>by
    refine hfree k ok hk hki ?_ hno
    by_cases hjk:j=k
    ·subst hjk;exact hjun
    ·rw [getD_set_ne true hjk] at hun;exact hun
   refine Zg (λa' g' h3=>ih (listed.setIfInBounds j true) a' g' hfree' (ready_mono hr (Ne.symm hji)) h3.1 ?_) h2
   rw [Array.setIfInBounds_comm _ _ hji];exact h3.2
def yR (P:Program) (ops:Array Oper) (D:World→Prop) (K:Act→Prop):List Bool→List Oper→Act→Prop
 |f::fs,o::os,a=>if f then yR P ops D K fs os a else if Region.wanted o (yielded ops a.tmps) then calm P o a D (yR P ops D K fs os) else yR P ops D K fs os (a.put o.dst undef)
 |_,_,a=>K a
def xg (P:Program) (ops:Array Oper) (C:G→World→Prop) (Q:Act→G→Prop):List Bool→List Oper→Act→G→Prop
 |f::fs,o::os,a,g=>if f then (if Region.wanted o (yielded ops a.tmps) then Rt P o a C g (xg P ops C Q fs os) else xg P ops C Q fs os (a.put o.dst undef) g) else xg P ops C Q fs os a g
 |_,_,a,g=>Q a g
def aov (md:Region.Mode) (ops:Array Oper) (flags:List Bool):List Nat→Array Bool→Bool
 | [],listed=>(Region.ready md ops listed).isEmpty
 |i::is,listed=>(if flags.getD i false then Region.ready md ops listed==[i] else (Region.ready md ops listed).contains i&&Region.free md ops listed i)&&aov md ops flags is (listed.setIfInBounds i true)
def idxs (b:Bool):List Bool→Nat→List Nat
 | [],_=>[]
 |f::fs,k=>if f=b then k::idxs b fs (k+1) else idxs b fs (k+1)
def aiF (ops:Array Oper) (flags:List Bool):Bool:=
 Region.noSelect ops&&flags.length==ops.size&&(idxs false flags 0++idxs true flags 0).length==ops.size&&aov .any ops flags (idxs false flags 0++idxs true flags 0) (Array.replicate ops.size false)
theorem xh {flags:List Bool}{Q:Act→G→Prop}(hs:Region.noSelect ops=true):∀(is:List Nat) (listed:Array Bool) (a:Act) (g:G),
  aov md ops flags is listed=true→(is.foldr (λi K=>Iu P ops D C (λi=>flags.getD i false) i K) Q) a g→rJ P md ops D C (λi=>flags.getD i false) Q is.length listed a g
 | [],_,_,_,hB,h=>⟨by simpa [aov] using hB,h⟩
 | i::is,listed,a,g,hB,h=>by
  simp only [aov,Bool.and_eq_true] at hB;obtain ⟨h1,h2⟩:=hB;simp only [List.foldr_cons] at h
  by_cases hf:flags.getD i false=true
  ·simp only [hf,if_true,beq_iff_eq] at h1
   refine ⟨λh0=>(by rw [h0] at h1;cases h1),λj hj=>?_⟩
   rw [h1] at hj;obtain rfl:=List.mem_singleton.1 hj;exact Zg (λa' g' hk=>xh hs is _ a' g' h2 hk) h
  ·rw [if_neg hf,Bool.and_eq_true] at h1
   obtain ⟨hr,hfr⟩:=h1
   have hr':i∈Region.ready md ops listed:=by simpa using hr
   obtain ⟨_,oi,hoi,_⟩:=mem_ready.1 hr';obtain ⟨v,hy,hK⟩:=yQ hoi (by simpa using hf) h
   exact CZ hoi (by simpa using hf) (Region.noSelect_spec hs) is.length listed a g (Region.free_spec hoi hfr) hr' hy (xh hs is _ _ _ h2 hK)
theorem BZ {flags:List Bool}{Q:Act→G→Prop}:∀(fs:List Bool) (os:List Oper) (k:Nat),(∀j,fs[j]? =flags[k+j]?)→(∀j,os[j]? =ops[k+j]?)→fs.length=os.length→
  ∀(a:Act) (g:G),yR P ops D (λa=>Q a g) fs os a→((idxs false fs k).foldr (λi K=>Iu P ops D C (λi=>flags.getD i false) i K) Q) a g
 | [],[],_,_,_,_,_,_,h=>h
 | f::fs,o::os,k,hf,ho,hl,a,g,h=>by
  have ho0:ops[k]? =some o:=by simpa using (ho 0).symm
  have hf0:flags.getD k false=f:=by have:=hf 0;simp at this;simp [List.getD,←this]
  have ih:=BZ (Q:=Q) (flags:=flags) fs os (k+1) (λj=>by have:=hf (j+1);simpa [Nat.add_assoc,Nat.add_comm 1 j] using this) (λj=>by have:=ho (j+1);simpa [Nat.add_assoc,Nat.add_comm 1 j] using this) (by simpa using hl)
  cases f with
  |true=>simp only [idxs,yR,Bool.true_eq_false,if_true,if_false] at h⊢;exact ih a g h
  |false=>
   simp only [idxs,yR,if_true,Bool.false_eq_true,if_false] at h⊢;simp only [List.foldr_cons];unfold Iu;simp only [ho0,hf0,Bool.false_eq_true,if_false];split
   ·rename_i hw;simp only [hw,if_true] at h;exact AP (λa' hk=>ih a' g hk) h
   ·rename_i hw;simp only [hw] at h;exact ih _ _ h
 | [],_::_,_,_,_,hl,_,_,_=>by simp at hl
 |_::_,[],_,_,_,hl,_,_,_=>by simp at hl
theorem G7 {flags:List Bool}{Q:Act→G→Prop}:∀(fs:List Bool) (os:List Oper) (k:Nat),(∀j,fs[j]? =flags[k+j]?)→(∀j,os[j]? =ops[k+j]?)→fs.length=os.length→
  ∀(a:Act) (g:G),xg P ops C Q fs os a g→((idxs true fs k).foldr (λi K=>Iu P ops D C (λi=>flags.getD i false) i K) Q) a g
 | [],[],_,_,_,_,_,_,h=>h
 | f::fs,o::os,k,hf,ho,hl,a,g,h=>by
  have ho0:ops[k]? =some o:=by simpa using (ho 0).symm
  have hf0:flags.getD k false=f:=by have:=hf 0;simp at this;simp [List.getD,←this]
  have ih:=G7 (Q:=Q) (flags:=flags) fs os (k+1) (λj=>by have:=hf (j+1);simpa [Nat.add_assoc,Nat.add_comm 1 j] using this) (λj=>by have:=ho (j+1);simpa [Nat.add_assoc,Nat.add_comm 1 j] using this) (by simpa using hl)
  cases f with
  |false=>simp only [idxs,xg,Bool.false_eq_true,if_false] at h⊢;exact ih a g h
  |true=>
   simp only [idxs,xg,if_true] at h⊢;simp only [List.foldr_cons];unfold Iu;simp only [ho0,hf0,if_true];split
   ·rename_i hw;simp only [hw,if_true] at h;exact Oq (λa' g' hk=>ih a' g' hk) h
   ·rename_i hw;simp only [hw] at h;exact ih _ _ h
 | [],_::_,_,_,_,hl,_,_,_=>by simp at hl
 |_::_,[],_,_,_,hl,_,_,_=>by simp at hl
theorem Xm {r:Option Nat}{m:Nat}{Q:Exit→Act→World→Prop}{a:Act}{w:World}{l:List Oper}(flags:List Bool) (g:G)
  (hB:aiF l.toArray flags=true) (hD:∀g w,C g w→D w) (hkeep:∀g w w',C g w→Below w.heap.size w w'→C g w') (hC:C g {w with drawn:=w.drawn+1})
  (h:yR P l.toArray D (λa1=>xg P l.toArray C (λa' g'=>∀w',C g' w'→Q .normal a' w') flags l a1 g) flags l a):wpAnyIn (Q8 r) m P .any l.toArray Q l.toArray.size (Array.replicate l.toArray.size false) a {w with drawn:=w.drawn+1}:=by
 simp only [aiF,Bool.and_eq_true,beq_iff_eq] at hB;obtain ⟨⟨⟨h1,h2⟩,h3⟩,h4⟩:=hB;refine BA (D:=D) (C:=C) (sp:=λi=>flags.getD i false) hD hkeep (Q:=λa' g'=>∀w',C g' w'→Q .normal a' w') (λ_ _ w' hw' h=>h w' hw') r m _ _ _ g _ hC ?_
 have h5:=xh (P:=P) (D:=D) (C:=C) (Q:=λa' g'=>∀w',C g' w'→Q .normal a' w') h1 _ _ a g h4
 rw [h3] at h5;refine h5 ?_;rw [List.foldr_append];refine BZ flags l 0 (by simp) (by simp) (by simpa using h2) a g ?_
 refine (?_:∀(fs:List Bool) (os:List Oper) (a:Act),yR P l.toArray D (λa1=>xg P l.toArray C (λa' g'=>∀w',C g' w'→Q .normal a' w') flags l a1 g) fs os a→yR P l.toArray D (λa=>(List.foldr (λi K=>Iu P l.toArray D C (λi=>flags.getD i false) i K) (λa' g'=>∀w',C g' w'→Q .normal a' w') (idxs true flags 0)) a g) fs os a) flags l a h
 intro fs
 induction fs with
 |nil=>intro os a hh;cases os<;>exact G7 flags l 0 (by simp) (by simp) (by simpa using h2) _ _ hh
 | cons f fs ih=>
  intro os a hh;cases os with
  |nil=>exact G7 flags l 0 (by simp) (by simp) (by simpa using h2) _ _ hh
  | cons o os=>
   simp only [yR] at hh⊢;split
   ·rename_i hf;simp only [hf,if_true] at hh;exact ih _ _ hh
   ·rename_i hf
    simp only [hf,Bool.false_eq_true,if_false] at hh;split
    ·rename_i hw;simp only [hw,if_true] at hh;exact AP (λa' hk=>ih _ _ hk) hh
    ·rename_i hw;simp only [hw,Bool.false_eq_true,if_false] at hh;exact ih _ _ hh
theorem al4 {D:World→Prop}{K:Act→Prop}{a:Act}(h:K a):yR P ops D K [] [] a:=by simpa [yR] using h
theorem al3 {C:G→World→Prop}{Q:Act→G→Prop}{a:Act}{g:G}(h:Q a g):xg P ops C Q [] [] a g:=by simpa [xg] using h
def axo (md:Region.Mode) (ops:Array Oper):List Nat→Array Bool→Bool
 | [],_=>true
 |i::is,listed=>((Region.ready md ops listed).contains i&&Region.free md ops listed i)&&axo md ops is (listed.setIfInBounds i true)
def CB:List Nat→Array Bool→Array Bool
 | [],l=>l
 |i::is,l=>CB is (l.setIfInBounds i true)
theorem C9 {flags:List Bool}{Q:Act→G→Prop}(hs:Region.noSelect ops=true) (m:Nat):∀(is:List Nat) (listed:Array Bool) (a:Act) (g:G),(∀i∈is,flags.getD i false=false)→
  axo md ops is listed=true→(is.foldr (λi K=>Iu P ops D C (λi=>flags.getD i false) i K) (λa g=>rJ P md ops D C (λi=>flags.getD i false) Q m (CB is listed) a g)) a g→rJ P md ops D C (λi=>flags.getD i false) Q (is.length+m) listed a g
 | [],_,_,_,_,_,h=>by rw [List.length_nil,Nat.zero_add];exact h
 |i::is,listed,a,g,hf,hB,h=>by
  simp only [axo,Bool.and_eq_true] at hB;obtain ⟨⟨hr,hfr⟩,h2⟩:=hB;simp only [List.foldr_cons,CB] at h
  have hfi:=hf i (by simp)
  have hr':i∈Region.ready md ops listed:=by simpa using hr
  obtain ⟨_,oi,hoi,_⟩:=mem_ready.1 hr';obtain ⟨v,hy,hK⟩:=yQ hoi hfi h
  have:=CZ hoi hfi (Region.noSelect_spec hs) (is.length+m) listed a g (Region.free_spec hoi hfr) hr' hy (C9 hs m is _ _ _ (λj hj=>hf j (by simp [hj])) h2 hK)
  rw [List.length_cons,Nat.add_right_comm];exact this
theorem zy (b:Bool):∀(fs:List Bool) (k i:Nat),i∈idxs b fs k→k≤i∧fs[i-k]? =some b
 | [],_,_,h=>by simp [idxs] at h
 | f::fs,k,i,h=>by
  simp only [idxs] at h;split at h
  ·rename_i hf
   rcases List.mem_cons.1 h with rfl|h
   ·exact ⟨Nat.le_refl _,by simp [hf]⟩
   ·obtain ⟨h1,h2⟩:=zy b fs (k+1) i h
    refine ⟨by omega,?_⟩
    rw [show i-k=(i-(k+1))+1 by omega]
    simpa using h2
  ·obtain ⟨h1,h2⟩:=zy b fs (k+1) i h
   refine ⟨by omega,?_⟩
   rw [show i-k=(i-(k+1))+1 by omega]
   simpa using h2
def G8 (ops:Array Oper) (flags:List Bool):Bool:=
 Region.noSelect ops&&flags.length==ops.size&&(idxs false flags 0).length+(idxs true flags 0).length==ops.size&&axo .any ops (idxs false flags 0) (Array.replicate ops.size false)
theorem CX {r:Option Nat}{m:Nat}{Q:Exit→Act→World→Prop}{a:Act}{w:World}{l:List Oper}(flags:List Bool) (g:G)
  (hB:G8 l.toArray flags=true) (hD:∀g w,C g w→D w) (hkeep:∀g w w',C g w→Below w.heap.size w w'→C g w') (hC:C g {w with drawn:=w.drawn+1})
  (h:yR P l.toArray D (λa1=>rJ P .any l.toArray D C (λi=>flags.getD i false) (λa' g'=>∀w',C g' w'→Q .normal a' w') (idxs true flags 0).length (CB (idxs false flags 0) (Array.replicate l.toArray.size false)) a1 g) flags l a):wpAnyIn (Q8 r) m P .any l.toArray Q l.toArray.size (Array.replicate l.toArray.size false) a {w with drawn:=w.drawn+1}:=by
 simp only [G8,Bool.and_eq_true,beq_iff_eq] at hB;obtain ⟨⟨⟨h1,h2⟩,h3⟩,h4⟩:=hB;refine BA (D:=D) (C:=C) (sp:=λi=>flags.getD i false) hD hkeep (Q:=λa' g'=>∀w',C g' w'→Q .normal a' w') (λ_ _ w' hw' h=>h w' hw') r m _ _ _ g _ hC ?_
 have h5:=C9 (P:=P) (D:=D) (C:=C) (flags:=flags) (Q:=λa' g'=>∀w',C g' w'→Q .normal a' w') h1 (idxs true flags 0).length (idxs false flags 0) _ a g (λi hi=>by
  obtain ⟨_,h⟩:=zy false flags 0 i hi;simp only [Nat.sub_zero] at h
  simp [List.getD,h]) h4
 rw [h3] at h5;refine h5 ?_;exact BZ flags l 0 (by simp) (by simp) (by simpa using h2) a g h
def Closed (md:Region.Mode) (ops:Array Oper) (listed:Array Bool):Prop:=
 ∀(i:Nat) (o:Oper),ops[i]? =some o→listed.getD i false=true→∀e∈o.after,Region.binds md e=true→listed.getD e.on false=true
theorem Closed.put {listed:Array Bool}(hc:Closed md ops listed) {i:Nat}(hi:i∈Region.ready md ops listed):Closed md ops (listed.setIfInBounds i true):=λj o hj hl e he hb=>by
 by_cases hij:i=j
 ·subst hij
  obtain ⟨_,o',ho',h2⟩:=mem_ready.1 hi;obtain rfl:o'=o:=Option.some.inj (ho'.symm.trans hj);exact getD_set_true (h2 e he hb)
 ·rw [getD_set_ne false hij] at hl
  exact getD_set_true (hc j o hj hl e he hb)
end
structure qP (tr:List Nat) (w w':World):Prop where
 os:w'.os=w.os
 tape:w'.tape=w.tape
 output:w'.output=w.output
 size:w.heap.size≤w'.heap.size
 block:∀k,k<w.heap.size→k∉tr→w'.heap[k]? =w.heap[k]?
theorem ach {tr:List Nat}{w w1 w2:World}(h:qP tr w w1) (hb:Below w1.heap.size w1 w2):qP tr w w2:=
 ⟨hb.os.trans h.os,hb.tape.trans h.tape,hb.output.trans h.output,Nat.le_trans h.size hb.size,λk hk hn=>(hb.block k (Nat.lt_of_lt_of_le hk h.size)).trans (h.block k hk hn)⟩
theorem qP.refl (tr:List Nat) (w:World):qP tr w w:=⟨rfl,rfl,rfl,Nat.le_refl _,λ_ _ _=>rfl⟩
end Go.Proofs.YtlihnbimgclogaaGreatDoor
namespace Go.Sx
open Go.Proofs.YtlihnbimgclogaaGreatDoor
open Go Go.RowKit
inductive Ty where
 |int (k:IntKind)
 |bool
 |str
 |sl (e:Ty)
 |pair (a b:Ty)
abbrev aSg:Ty:=.int .i64
abbrev Ty.D:Ty→Type
 | .int _=>Int
 | .bool=>Bool
 | .str=>ByteArray
 | .sl e=>List e.D
 | .pair a b=>a.D×b.D
def Ty.n:Ty→Nat
 | .pair a b=>a.n+b.n
 |_=>1
def Ty.dflt:(t:Ty)→t.D
 | .int _=>(0:Int)
 | .bool=>false
 | .str=>ByteArray.empty
 | .sl _=>[]
 | .pair a b=>(a.dflt,b.dflt)
abbrev gx {e:Ty}(l:List e.D) (n:Int):e.D:=l.getD n.toNat e.dflt
def RD (Z:Nat→Prop) (w:World):(t:Ty)→t.D→Nat→Nat→Prop
 | .int k,n,b,o=>w.cell? ⟨b,o,none⟩=some (.int k n)
 | .bool,x,b,o=>w.cell? ⟨b,o,none⟩=some (.bool x)
 | .str,s,b,o=>w.cell? ⟨b,o,none⟩=some (.string s)
 | .sl e,l,b,o=>∃a cap,w.cell? ⟨b,o,none⟩=some (.slice a (List.length l) cap)∧List.length l≤cap∧(0<List.length l→∃b' o',a=some ⟨b',o',none⟩∧Z b'∧∀(i:Nat) (d:e.D),l[i]? =some d→RD Z w e d b' (o'+i*e.n))
 | .pair x y,d,b,o=>RD Z w x d.1 b o∧RD Z w y d.2 b (o+x.n)
theorem jH {w w':World}{b o:Nat}(h:w'.heap[b]? =w.heap[b]?):w'.cell? ⟨b,o,none⟩=w.cell? ⟨b,o,none⟩:=World.cell?_of_block (w:=w) (w':=w') h
theorem RD.keep {Z Z':Nat→Prop}{w w':World}(hZ:∀b,Z b→Z' b) (hw:∀b,Z b→w'.heap[b]? =w.heap[b]?):
  ∀(t:Ty) (d:t.D) (b o:Nat),w'.heap[b]? =w.heap[b]? →RD Z w t d b o→RD Z' w' t d b o
 | .int _,_,b,o,hb,h=>by simp only [RD] at*;rw [jH hb];exact h
 | .bool,_,b,o,hb,h=>by simp only [RD] at*;rw [jH hb];exact h
 | .str,_,b,o,hb,h=>by simp only [RD] at*;rw [jH hb];exact h
 | .sl e,l,b,o,hb,h=>by
  simp only [RD] at*;obtain ⟨a,cap,h1,h2,h3⟩:=h;refine ⟨a,cap,by rw [jH hb];exact h1,h2,λhn=>?_⟩
  obtain ⟨b',o',h4,h5,h6⟩:=h3 hn;exact ⟨b',o',h4,hZ _ h5,λi d hd=>RD.keep hZ hw e d b' _ (hw b' h5) (h6 i d hd)⟩
 | .pair x y,d,b,o,hb,h=>by
  simp only [RD] at*;exact ⟨RD.keep hZ hw x d.1 b o hb h.1,RD.keep hZ hw y d.2 b _ hb h.2⟩
theorem RD.mono {Z Z':Nat→Prop}{w w':World}(hZ:∀b,Z b→Z' b) (hw:∀b,Z b→w'.heap[b]? =w.heap[b]?) (t:Ty) (d:t.D) (b o:Nat) (hz:Z b) (h:RD Z w t d b o):RD Z' w' t d b o:=RD.keep hZ hw t d b o (hw b hz) h
structure Loc where
 b:Nat
 o:Nat
 cap:Option Nat
instance:Inhabited Loc:=⟨⟨0,0,none⟩⟩
inductive LV where
 |v (x:Value)
 |bl (b:Bool)
 |ki (k:IntKind) (n:Int)
 |own (k off:Nat)
 |agg (l:List LV)
 |iU (l:List LV)
 |fn (f:FuncId) (cap:List LV)
 |xq (n:Nat) (f:Nat→LV)
 |xl (e:Ty) (l:List e.D)
 |os (k es off n:Nat)
 |op (k es i j:Nat)
 |om (k:Nat)
 |mp (kd:IntKind) (ks:List Int) (vs:List LV)
 |oc (k es off n c:Nat)
 |yt (k:Nat)
 |junk
mutual
def R (β:Nat→Loc) (Z:Nat→Prop) (w:World):LV→Value→Prop
 | .v x,y=>y=x
 | .bl b,y=>y=.bool b
 | .ki k n,y=>y=.int k n
 | .own k off,y=>y=.pointer (some ⟨(β k).b,off,none⟩)
 | .agg l,y=>∃ys,y=.agg ys∧RL β Z w l ys.toList
 | .iU l,y=>∃ys,y=.tuple ys∧RL β Z w l ys.toList
 | .fn f cap,y=>∃ys,y=.func (.func f) #[] ys∧RL β Z w cap ys.toList
 | .xq n f,y=>∃b off,y=.pointer (some ⟨b,off,none⟩)∧Z b∧∀j,j<n→∃z,w.cell? ⟨b,off+j,none⟩=some z∧R β Z w (f j) z
 | .xl e l,y=>∃a cap,y=.slice a (List.length l) cap∧List.length l≤cap∧(0<List.length l→∃b off,a=some ⟨b,off,none⟩∧Z b∧∀(i:Nat) (d:e.D),l[i]? =some d→RD Z w e d b (off+i*e.n))
 | .os k es off n,y=>match (β k).cap with
  |none=>n=0∧off=0∧y=.slice none 0 0
  |some c=>off+n≤c∧∃a,y=.slice (some a) n (c-off)∧(0<c-off→a=⟨(β k).b,(β k).o+off*es,none⟩)
 | .op k es i j,y=>(β k).cap≠none∧y=.pointer (some ⟨(β k).b,(β k).o+i*es+j,none⟩)
 | .om k,y=>y=.map (some (β k).b)
 | .mp kd ks vs,y=>∃r es clock,y=.map (some r)∧Z r∧w.heap[r]? =some (.map es clock)∧es.toList.map (·.key)=ks.map (.int kd)∧RL β Z w vs (es.toList.map (·.val))
 | .oc k es off n c,y=>off+n≤c∧∃a,y=.slice (some a) n (c-off)∧(0<c-off→a=⟨(β k).b,off*es,none⟩)
 | .yt k,y=>y=.func (.yield (β k).b) #[] #[]
 | .junk,_=>True
def RL (β:Nat→Loc) (Z:Nat→Prop) (w:World):List LV→List Value→Prop
 | [],ys=>ys=[]
 |x::xs,ys=>∃y zs,ys=y::zs∧R β Z w x y∧RL β Z w xs zs
end
/-Which own blocks a value names:all below n. -/
mutual
def okV (n:Nat):LV→Prop
 | .v _=>True
 | .bl _=>True
 | .ki _ _=>True
 | .own k _=>k<n
 | .agg l=>dQ n l
 | .iU l=>dQ n l
 | .fn _ cap=>dQ n cap
 | .xq _ f=>∀j,okV 0 (f j)
 | .xl _ _=>True
 | .os k _ _ _=>k<n
 | .op k _ _ _=>k<n
 | .om k=>k<n
 | .mp _ _ vs=>dQ n vs
 | .oc k _ _ _ _=>k<n
 | .yt k=>k<n
 | .junk=>True
def dQ (n:Nat):List LV→Prop
 | []=>True
 |x::xs=>okV n x∧dQ n xs
end
mutual
theorem okV.mono {n m:Nat}(h:n≤m):∀(x:LV),okV n x→okV m x
 | .v _,_=>trivial
 | .bl _,_=>trivial
 | .ki _ _,_=>trivial
 | .own k _,hk=>by simp only [okV] at*;omega
 | .agg l,hk=>by simp only [okV] at*;exact dQ.mono h l hk
 | .iU l,hk=>by simp only [okV] at*;exact dQ.mono h l hk
 | .fn _ l,hk=>by simp only [okV] at*;exact dQ.mono h l hk
 | .xq _ f,hk=>by simp only [okV] at*;exact hk
 | .xl _ _,_=>trivial
 | .os k _ _ _,hk=>by simp only [okV] at*;omega
 | .op k _ _ _,hk=>by simp only [okV] at*;omega
 | .om k,hk=>by simp only [okV] at*;omega
 | .mp _ _ vs,hk=>by simp only [okV] at*;exact dQ.mono h vs hk
 | .oc k _ _ _ _,hk=>by simp only [okV] at*;omega
 | .yt k,hk=>by simp only [okV] at*;omega
 | .junk,_=>trivial
theorem dQ.mono {n m:Nat}(h:n≤m):∀(x:List LV),dQ n x→dQ m x
 | [],_=>trivial
 |x::xs,hk=>by simp only [dQ] at*;exact ⟨okV.mono h x hk.1,dQ.mono h xs hk.2⟩
end
mutual
theorem R.mono {β β':Nat→Loc}{Z Z':Nat→Prop}{w w':World}{n:Nat}(hβ:∀k,k<n→β' k=β k) (hZ:∀b,Z b→Z' b) (hw:∀b,Z b→w'.heap[b]? =w.heap[b]?):
  ∀(x:LV) (y:Value),okV n x→R β Z w x y→R β' Z' w' x y
 | .v _,_,_,h=>h
 | .bl _,_,_,h=>h
 | .ki _ _,_,_,h=>h
 | .own k off,y,hk,h=>by simp only [R,okV] at*;rw [h,hβ k hk]
 | .agg l,y,hk,h=>by
  simp only [R,okV] at*;obtain ⟨ys,h1,h2⟩:=h;exact ⟨ys,h1,RL.mono hβ hZ hw l _ hk h2⟩
 | .iU l,y,hk,h=>by
  simp only [R,okV] at*;obtain ⟨ys,h1,h2⟩:=h;exact ⟨ys,h1,RL.mono hβ hZ hw l _ hk h2⟩
 | .fn f l,y,hk,h=>by
  simp only [R,okV] at*;obtain ⟨ys,h1,h2⟩:=h;exact ⟨ys,h1,RL.mono hβ hZ hw l _ hk h2⟩
 | .xq n f,y,hk,h=>by
  simp only [R,okV] at*;obtain ⟨b,off,h1,hz,h2⟩:=h;refine ⟨b,off,h1,hZ b hz,λj hj=>?_⟩
  obtain ⟨z,h3,h4⟩:=h2 j hj;exact ⟨z,by rw [jH (hw b hz)];exact h3,R.mono hβ hZ hw (f j) z (okV.mono (Nat.zero_le _) _ (hk j)) h4⟩
 | .xl e l,y,hk,h=>by
  simp only [R] at*;obtain ⟨a,cap,h1,h2,h3⟩:=h;refine ⟨a,cap,h1,h2,λhn=>?_⟩
  obtain ⟨b,off,h4,h5,h6⟩:=h3 hn;exact ⟨b,off,h4,hZ b h5,λi d hd=>RD.mono hZ hw e d b _ h5 (h6 i d hd)⟩
 | .os k es off n,y,hk,h=>by simp only [R,okV] at*;rw [hβ k hk];exact h
 | .op k es i j,y,hk,h=>by simp only [R,okV] at*;rw [hβ k hk];exact h
 | .om k,y,hk,h=>by simp only [R,okV] at*;rw [hβ k hk];exact h
 | .mp kd ks vs,y,hk,h=>by
  simp only [R,okV] at*;obtain ⟨r,es,clock,h1,h2,h3,h4,h5⟩:=h;exact ⟨r,es,clock,h1,hZ r h2,by rw [hw r h2];exact h3,h4,RL.mono hβ hZ hw vs _ hk h5⟩
 | .oc k es off n c,y,hk,h=>by simp only [R,okV] at*;rw [hβ k hk];exact h
 | .yt k,y,hk,h=>by simp only [R,okV] at*;rw [hβ k hk];exact h
 | .junk,_,_,_=>by simp only [R]
theorem RL.mono {β β':Nat→Loc}{Z Z':Nat→Prop}{w w':World}{n:Nat}(hβ:∀k,k<n→β' k=β k) (hZ:∀b,Z b→Z' b) (hw:∀b,Z b→w'.heap[b]? =w.heap[b]?):
  ∀(x:List LV) (y:List Value),dQ n x→RL β Z w x y→RL β' Z' w' x y
 | [],_,_,h=>by simpa only [RL] using h
 |x::xs,ys,hk,h=>by
  simp only [RL,dQ] at*;obtain ⟨y,zs,h1,h2,h3⟩:=h;exact ⟨y,zs,h1,R.mono hβ hZ hw x y hk.1 h2,RL.mono hβ hZ hw xs zs hk.2 h3⟩
end
def iq:(t:Ty)→t.D→List LV
 | .int k,n=>[.v (.int k n)]
 | .bool,b=>[.v (.bool b)]
 | .str,s=>[.v (.string s)]
 | .sl e,l=>[.xl e l]
 | .pair a b,d=>iq a d.1++iq b d.2
theorem dM:∀(t:Ty) (d:t.D),(iq t d).length=t.n
 | .int _,_=>rfl
 | .bool,_=>rfl
 | .str,_=>rfl
 | .sl _,_=>rfl
 | .pair a b,d=>by simp only [iq,List.length_append,Ty.n,dM a d.1,dM b d.2]
theorem qF (n:Nat):∀(t:Ty) (d:t.D),dQ n (iq t d)
 | .int _,_=>⟨trivial,trivial⟩
 | .bool,_=>⟨trivial,trivial⟩
 | .str,_=>⟨trivial,trivial⟩
 | .sl _,_=>⟨trivial,trivial⟩
 | .pair a b,d=>by
  have app:∀(l1 l2:List LV),dQ n l1→dQ n l2→dQ n (l1++l2):=by
   intro l1
   induction l1 with
   |nil=>intro l2 _ h;exact h
   |cons x xs ih=>intro l2 h1 h2;exact ⟨h1.1,ih l2 h1.2 h2⟩
  simp only [iq];exact app _ _ (qF n a d.1) (qF n b d.2)
theorem He {β:Nat→Loc}{Z:Nat→Prop}{w:World}:∀(t:Ty) (d:t.D) (b o:Nat),RD Z w t d b o→∀(j:Nat) (x:LV),(iq t d)[j]? =some x→∃z,w.cell? ⟨b,o+j,none⟩=some z∧R β Z w x z
 | .int k,n,b,o,h,j,x,hx=>by
  simp only [iq] at hx;cases j with
  |zero=>simp at hx;subst hx;exact ⟨_,h,by simp only [R]⟩
  |succ j=>simp at hx
 | .bool,n,b,o,h,j,x,hx=>by
  simp only [iq] at hx;cases j with
  |zero=>simp at hx;subst hx;exact ⟨_,h,by simp only [R]⟩
  |succ j=>simp at hx
 | .str,n,b,o,h,j,x,hx=>by
  simp only [iq] at hx;cases j with
  |zero=>simp at hx;subst hx;exact ⟨_,h,by simp only [R]⟩
  |succ j=>simp at hx
 | .sl e,l,b,o,h,j,x,hx=>by
  simp only [iq] at hx;cases j with
  |zero=>
   simp at hx;subst hx
   simp only [RD] at h;obtain ⟨a,cap,h1,h2,h3⟩:=h;exact ⟨_,h1,by simp only [R];exact ⟨a,cap,rfl,h2,h3⟩⟩
  |succ j=>simp at hx
 | .pair p q,d,b,o,h,j,x,hx=>by
  simp only [iq] at hx;simp only [RD] at h
  by_cases hj:j<p.n
  ·rw [List.getElem?_append_left (by rw [dM];exact hj)] at hx
   exact He p d.1 b o h.1 j x hx
  ·rw [List.getElem?_append_right (by rw [dM];omega),dM] at hx
   obtain ⟨z,h1,h2⟩:=He q d.2 b (o+p.n) h.2 (j-p.n) x hx;exact ⟨z,by rw [show o+j=o+p.n+(j-p.n) by omega];exact h1,h2⟩
theorem RL.length {β:Nat→Loc}{Z:Nat→Prop}{w:World}:∀ {l:List LV}{ys:List Value},RL β Z w l ys→ys.length=l.length
 | [],ys,h=>by simp only [RL] at h;simp [h]
 |x::xs,ys,h=>by
  simp only [RL] at h;obtain ⟨y,zs,rfl,_,h3⟩:=h
  simp [RL.length h3]
theorem RL.get {β:Nat→Loc}{Z:Nat→Prop}{w:World}:∀ {l:List LV}{ys:List Value}(i:Nat) (x:LV),RL β Z w l ys→l[i]? =some x→∃y,ys[i]? =some y∧R β Z w x y
 | [],ys,i,x,_,hx=>by simp at hx
 |x0::xs,ys,i,x,h,hx=>by
  simp only [RL] at h;obtain ⟨y,zs,rfl,h2,h3⟩:=h;cases i with
  |zero=>simp at hx;subst hx;exact ⟨y,by simp,h2⟩
  |succ i=>simp at hx;obtain ⟨y',h4,h5⟩:=RL.get i x h3 hx;exact ⟨y',by simpa using h4,h5⟩
theorem dQ.get {n:Nat}:∀ {l:List LV}(i:Nat) (x:LV),dQ n l→l[i]? =some x→okV n x
 | [],i,x,_,hx=>by simp at hx
 |x0::xs,i,x,h,hx=>by
  simp only [dQ] at h;cases i with
  |zero=>simp at hx;subst hx;exact h.1
  |succ i=>simp at hx;exact dQ.get i x h.2 hx
theorem RL.dO {β:Nat→Loc}{Z:Nat→Prop}{w:World}:∀ {l:List LV}{ys:List Value},ys.length=l.length→(∀(i:Nat) (x:LV),l[i]? =some x→∃y,ys[i]? =some y∧R β Z w x y)→RL β Z w l ys
 | [],ys,hl,_=>by simp only [RL];exact List.length_eq_zero_iff.1 hl
 |x::xs,[],hl,_=>by simp at hl
 |x::xs,y::ys,hl,h=>by
  simp only [RL];refine ⟨y,ys,rfl,?_,RL.dO (by simpa using hl) λi x' hx=>?_⟩
  ·obtain ⟨y',h1,h2⟩:=h 0 x (by simp);simp at h1;subst h1;exact h2
  ·obtain ⟨y',h1,h2⟩:=h (i+1) x' (by simpa using hx);exact ⟨y',by simpa using h1,h2⟩
theorem dQ.dO {n:Nat}:∀ {l:List LV},(∀(i:Nat) (x:LV),l[i]? =some x→okV n x)→dQ n l
 | [],_=>trivial
 |x::xs,h=>by simp only [dQ];exact ⟨h 0 x (by simp),dQ.dO λi x' hx=>h (i+1) x' (by simpa using hx)⟩
inductive T (α:Type) where
 |ok (x:α)
 |br (b:Bool) (t e:T α)
 |req (p:Prop) (t:T α)
 |no
def T.rl {α β:Type}(l:List α) (t:T β):T β:=.req (0=0∧List.length l=List.length l) t
def T.bind {α β:Type}(k:α→T β):T α→T β
 | .ok x=>k x
 | .br b t e=> .br b (t.bind k) (e.bind k)
 | .req p t=> .req p (t.bind k)
 | .no=> .no
def T.all {α:Type}(K:α→Prop):T α→Prop
 | .ok x=>K x
 | .br b t e=>(b=true→t.all K)∧(b=false→e.all K)
 | .req p t=>p∧t.all K
 | .no=>False
theorem T.all_bind {α β:Type}{k:α→T β}{K:β→Prop}:∀ {t:T α},(t.bind k).all K↔t.all (λx=>(k x).all K)
 | .ok _=>Iff.rfl
 | .br b t e=>by simp only [T.bind,T.all];rw [T.all_bind,T.all_bind]
 | .req p t=>by simp only [T.bind,T.all];rw [T.all_bind]
 | .no=>Iff.rfl
theorem T.bQ {α:Type}{K K':α→Prop}(h:∀x,K x→K' x):∀ {t:T α},t.all K→t.all K'
 | .ok _,hh=>h _ hh
 | .br _ _ _,hh=>⟨λhb=>T.bQ h (hh.1 hb),λhb=>T.bQ h (hh.2 hb)⟩
 | .req _ _,hh=>⟨hh.1,T.bQ h hh.2⟩
 | .no,hh=>hh
def ku {α:Type}(P:Program):Sem α→Option α
 | .pure a=>some a
 | .program k=>ku P (k P)
 | .mark _ k=>ku P k
 |_=>none
theorem qJ {α:Type}{P:Program}(w:World):∀ {s:Sem α}{a:α},ku P s=some a→s.run P w=.ok a w
 | .pure _,_,h=>by simp only [ku,Option.some.injEq] at h;subst h;rfl
 | .program k,_,h=>by simp only [ku] at h;exact qJ w (s:=k P) h
 | .mark _ k,_,h=>by simp only [ku] at h;exact qJ w (s:=k) h
 | .load ..,_,h| .store ..,_,h| .new ..,_,h| .shape ..,_,h| .freeze ..,_,h| .frozen ..,_,h| .getObj ..,_,h| .setObj ..,_,h| .choose ..,_,h| .sys ..,_,h| .halt ..,_,h=>by simp [ku] at h
inductive Ex where
 |normal
 |exit (n:Nat)
 |ret
inductive LS where
 |ready
 |busy
 |done (x:Ex)
inductive BK where
 |cl
 |vec (e:Ty) (l:List e.D)
 |mp (kd:IntKind) (ks:List Int) (vs:List LV)
 |ni (ps:Array Tmp) (asg body:Code) (st:LS)
 |st (e:Ty) (l:List e.D)
 |dead
structure aZ where
 c:List LV
 t:TypeId
 k:BK
 p:Bool
def aZ.rO (b:aZ):Bool:=
 match b.k with
 | .cl=>true
 |_=>false
abbrev dI:=Nat→Option (Nat×(Nat→Value))
abbrev Specs:=FuncId→Option (List LV→T LV)
def pl:LV→Option Value
 | .v x=>some x
 | .bl b=>some (.bool b)
 | .ki k n=>some (.int k n)
 | .fn f []=>some (.func (.func f) #[] #[])
 |_=>none
def plL:List LV→Option (List Value)
 | []=>some []
 |x::xs=>match pl x,plL xs with
  |some y,some ys=>some (y::ys)
  |_,_=>none
def norm:LV→LV
 | .bl b=> .v (.bool b)
 | .ki k n=> .v (.int k n)
 |x=>x
def vC (l:List LV):LV:=match plL l with|some ys=> .v (.agg ys.toArray) |none=> .agg (l.map norm)
def MS (l:List LV):LV:=match plL l with|some ys=> .v (.tuple ys.toArray) |none=> .iU (l.map norm)
def GH:Value→Bool
 | .agg _=>false
 | .tuple _=>false
 |_=>true
def GU:LV→Bool
 | .v x=>GH x
 | .agg _=>false
 | .iU _=>false
 | .junk=>false
 |_=>true
def dU:LV→Option (List LV)
 | .v x=>if x.cells.toList.all GH then some (x.cells.toList.map .v) else none
 | .agg l=>if l.all GU then some l else none
 | .iU _=>none
 | .junk=>none
 |x=>some [x]
def sD (P:Program) (t:TypeId):Option Nat:=(P.info? t).map (·.size)
def rZ (P:Program) (t:TypeId):Option Value:=(P.info? t).bind (·.zero)
def alH (P:Program) (t:TypeId):Option Bool:=(P.underlying t).map fun| .struct _=>true| .array _ _=>true|_=>false
def aV (G:dI) (F:List LV):Operand→LV
 | .tmp t=>F.getD t .junk
 | .const x=>match x with| .bool b=> .bl b| .int k n=> .ki k n|y=> .v y
 | .global g=>match G g with|some (n,f)=> .xq n (λj=> .v (f j)) |none=> .junk
 | .func f=> .fn f []
def setAt (l:List LV) (off:Nat) (cs:List LV):List LV:=l.take off++cs++l.drop (off+cs.length)
def aIJ (k:IntKind):LV→Option Int
 | .v (.int k' n)=>if k'=k then some n else none
 | .ki k' n=>if k'=k then some n else none
 |_=>none
def aIK:LV→Option Bool
 | .v (.bool b)=>some b
 | .bl b=>some b
 |_=>none
def aII:LV→Option ByteArray
 | .v (.string s)=>some s
 |_=>none
def Lc:(a b:Ty)→Option (PLift (a=b))
 | .int k,.int k'=>if h:k=k' then some ⟨by rw [h]⟩ else none
 | .bool,.bool=>some ⟨rfl⟩
 | .str,.str=>some ⟨rfl⟩
 | .sl x,.sl y=>match Lc x y with
  |some ⟨h⟩=>some ⟨by rw [h]⟩
  |none=>none
 | .pair x y,.pair x' y'=>match Lc x x',Lc y y' with
  |some ⟨h⟩,some ⟨h'⟩=>some ⟨by rw [h,h']⟩
  |_,_=>none
 |_,_=>none
def Ec {a b:Ty}(h:a=b) (l:List a.D):List b.D:=h▸l
def Zu (e:Ty):LV→Option (List e.D)
 | .xl e' l=>match Lc e' e with
  |some ⟨h⟩=>some (Ec h l)
  |none=>none
 | .v (.slice none 0 0)=>some []
 |_=>none
def hd1 {α:Type}(f:LV→Option α):List LV→Option α
 | [x]=>f x
 |_=>none
def uS:(t:Ty)→List LV→Option t.D
 | .int k,l=>hd1 (aIJ k) l
 | .bool,l=>hd1 aIK l
 | .str,l=>hd1 aII l
 | .sl e,l=>hd1 (Zu e) l
 | .pair a b,l=>match uS a (l.take a.n),uS b (l.drop a.n) with
  |some x,some y=>some (x,y)
  |_,_=>none
def zq (P:Program) (H:List aZ) (t:TypeId) (x:LV):T LV:=
 match alH P t,sD P t with
 | some true,some n=>
  match x with
  | .own k off=>match H[k]? with
   |some b=>if b.rO=true∧off+n≤b.c.length then .ok (vC ((b.c.drop off).take n)) else .no
   |none=> .no
  | .xq m f=>if n≤m then .ok (vC ((List.range n).map f)) else .no
  | .op k es i j=>match H[k]? with
   |some ⟨_,_,.vec e l,_⟩=>if e.n=es∧j+n≤es then .req (i<List.length l) (.ok (vC (((iq e (l.getD i e.dflt)).drop j).take n))) else .no
   |_=> .no
  |_=> .no
 | some false,_=>
  match x with
  | .own k off=>match H[k]? with
   |some b=>if b.rO=true then (match b.c[off]? with
    |some y=> .ok y
    |none=> .no) else .no
   |none=> .no
  | .xq m f=>if 0<m then .ok (f 0) else .no
  | .op k es i j=>match H[k]? with
   |some ⟨_,_,.vec e l,_⟩=>if e.n=es then .req (i<List.length l) (match (iq e (l.getD i e.dflt))[j]? with
    |some y=> .ok y
    |none=> .no) else .no
   |_=> .no
  |_=> .no
 |_,_=> .no
def BI (P:Program) (H:List aZ) (t:TypeId) (x y:LV):T (List aZ):=
 match sD P t,dU y with
 | some n,some cs=>match x with
  | .own k off=>match H[k]? with
   |some b=>if b.rO=true∧b.p=false∧cs.length=n∧off+n≤b.c.length then .ok (H.set k ⟨setAt b.c off cs,b.t,b.k,b.p⟩) else .no
   |none=> .no
  | .op k es i j=>match H[k]? with
   |some ⟨_,bt,.vec e l,false⟩=>if e.n=es∧cs.length=n∧j+n≤es then .req (i<List.length l) (match uS e (setAt (iq e (l.getD i e.dflt)) j cs) with
    |some d=> .ok (H.set k ⟨[],bt,.vec e (l.set i d),false⟩)
    |none=> .no) else .no
   |_=> .no
  |_=> .no
 |_,_=> .no
def NP (P:Program) (s:TypeId) (x:LV) (i:Nat):T LV:=
 match P.underlying s with
 | some (.struct fs)=>match fs[i]? with
  | some f=>match sD P f.type with
   |some (m+1)=>match x with
    | .own k off=> .ok (.own k (off+f.offset))
    | .op k es i j=> .ok (.op k es i (j+f.offset))
    | .xq n g=>if f.offset+(m+1)≤n then .ok (.xq (n-f.offset) (λj=>g (f.offset+j))) else .no
    |_=> .no
   |_=> .no
  |none=> .no
 |_=> .no
def aIm (P:Program) (t:TypeId) (l:List LV) (i:Nat):T LV:=
 match P.underlying t with
 | some (.struct fs)=>match fs[i]? with
  | some f=>match alH P f.type,sD P f.type with
   |some true,some n=>if f.offset+n≤l.length then .ok (vC ((l.drop f.offset).take n)) else .no
   |some false,_=>match l[f.offset]? with
    |some y=> .ok y
    |none=> .no
   |_,_=> .no
  |none=> .no
 |_=> .no
def chain (n:Int) (g:Nat→LV):Nat→Nat→T LV
 |0,_=> .no
 |m+1,j=> .br (n==(j:Int)) (.ok (g j)) (chain n g m (j+1))
def alp:LV→Bool
 | .ki _ _=>true
 |_=>false
def addN:Nat→Nat→Nat
 |0,n=>n
 |m+1,n=>m+1+n
theorem aAD:∀(m n:Nat),addN m n=m+n
 |0,n=>by simp [addN]
 |m+1,n=>rfl
def BU (P:Program) (t:TypeId) (x:LV) (c:Bool) (i:LV):T LV:=
 match pl i with
 | some (.int _ n)=>match P.underlying t with
  | some (.array len e)=>match sD P e with
   |some (m+1)=>match x with
    | .op k es i j=>if c then (if 0≤n∧n<len then .ok (.op k es i (j+n.toNat*(m+1))) else .no) else chain n (λq=> .op k es i (j+q*(m+1))) len 0
    | .own k off=>if c then (if 0≤n∧n<len then .ok (.own k (off+n.toNat*(m+1))) else .no) else chain n (λj=> .own k (off+j*(m+1))) len 0
    | .xq q g=>if len*(m+1)≤q then (if c then (if 0≤n∧n<len then .ok (.xq (m+1) (λj=>g (n.toNat*(m+1)+j))) else .no) else if len=3 then chain n (λi=> .xq (m+1) (λj=>g (i*(m+1)+j))) len 0 else .req (0≤n∧n<(len:Int)) (.ok (.xq (m+1) (λj=>g (n.toNat*(m+1)+j))))) else .no
    |_=> .no
   |_=> .no
  |some (.slice e)=>match sD P e,x with
   |some (m+1),.xl e' l=>if e'.n=m+1 then .req (0≤n∧n<(List.length l:Int)) (.ok (.xq (m+1) (λj=>(iq e' (gx l n)).getD j .junk))) else .no
   |some (m+1),.os k es off len=>if es=m+1 then .req (0≤n∧n<(len:Int)) (.ok (.op k es (addN off n.toNat) 0)) else .no
   |some (m+1),.oc k es off len _=>if es=m+1 then (if c then (if 0≤n∧n<(len:Int) then .ok (.own k ((off+n.toNat)*(m+1))) else .no) else chain n (λj=> .own k ((off+j)*(m+1))) len 0) else .no
   |_,_=> .no
  |_=> .no
 |_=> .no
def Bo (place:Nat→Option (Nat×Nat)) (cells:List LV):List (Nat×LV)→Option (List LV)
 | []=>some cells
 |(i,x)::rest=>match place i,dU x with
  |some (off,size),some cs=>if cs.length=size∧off+size≤cells.length then Bo place (setAt cells off cs) rest else none
  |_,_=>none
def ani (P:Program) (t:TypeId):Option (Nat→Option (Nat×Nat)):=
 match P.underlying t with
 |some (.struct fields)=>(fields.toList.mapM (λf=>(P.info? f.type).map λi=>(f.offset,i.size))).map λps=>λi=>ps.toArray[i]?
 |some (.array _ e)=>(P.info? e).map λie=>λi=>some (i*ie.size,ie.size)
 |_=>none
def Hl (P:Program) (t:TypeId) (parts:List (Nat×LV)):T LV:=
 match rZ P t,ani P t with
 |some z,some pf=>match Bo pf (z.cells.toList.map .v) parts with
  |some cs=> .ok (if parts.any (λq=>alp q.2) then .agg cs else vC cs)
  |none=> .no
 |_,_=> .no
def IA (G:dI) (F:List LV):Operand→LV
 | .const x=>norm (aV G F (.const x))
 |o=>aV G F o
def su (H:List aZ):Nat→LV→LV
 |0,_=> .junk
 |d+1,.own k off=>match H[k]? with
  |some b=>if b.rO then .xq (b.c.length-off) (λj=>su H d (b.c.getD (off+j) .junk)) else .junk
  |none=> .junk
 |_+1,.os k es off n=>match H[k]? with
  |some ⟨_,_,.vec e l,_⟩=>if e.n=es then .xl e ((l.drop off).take n) else .junk
  |_=> .junk
 |_+1,.op k es i j=>match H[k]? with
  |some ⟨_,_,.vec e l,_⟩=>if e.n=es then .xq (es-j) (λq=>(iq e (l.getD i e.dflt)).getD (j+q) .junk) else .junk
  |_=> .junk
 |d+1,.om k=>match H[k]? with
  |some ⟨_,_,.mp kd ks vs,_⟩=> .mp kd ks (vs.map (su H d))
  |_=> .junk
 |_+1,.v x=> .v x
 |_+1,.bl x=> .v (.bool x)
 |_+1,.ki k n=> .v (.int k n)
 |d+1,.agg l=> .agg (l.map (su H d))
 |d+1,.iU l=> .iU (l.map (su H d))
 |d+1,.fn f l=> .fn f (l.map (su H d))
 |_+1,.xq n f=> .xq n f
 |_+1,.xl e l=> .xl e l
 |d+1,.mp kd ks vs=> .mp kd ks (vs.map (su H d))
 |_+1,.oc ..=> .junk
 |_+1,.yt _=> .junk
 |_+1,.junk=> .junk
def wP {α:Type}(g:α→T Unit):List α→T Unit
 | []=> .ok ()
 |x::xs=>(g x).bind λ_=>wP g xs
def gX (H:List aZ):Nat→LV→T Unit
 |0,_=> .ok ()
 |d+1,.own k _=>match H[k]? with
  |some b=>wP (gX H d) b.c
  |none=> .ok ()
 |_+1,.os k _ off n=>match H[k]? with
  |some ⟨_,_,.vec _ l,_⟩=> .req (off+n≤List.length l) (.ok ())
  |_=> .ok ()
 |_+1,.op k _ i _=>match H[k]? with
  |some ⟨_,_,.vec _ l,_⟩=> .req (i<List.length l) (.ok ())
  |_=> .ok ()
 |d+1,.om k=>match H[k]? with
  |some ⟨_,_,.mp _ _ vs,_⟩=>wP (gX H d) vs
  |_=> .ok ()
 |d+1,.agg l=>wP (gX H d) l
 |d+1,.iU l=>wP (gX H d) l
 |d+1,.fn _ l=>wP (gX H d) l
 |d+1,.mp _ _ l=>wP (gX H d) l
 |_+1,_=> .ok ()
mutual
def noOwn:LV→Bool
 | .own _ _=>false
 | .os ..=>false
 | .op ..=>false
 | .om _=>false
 | .oc ..=>false
 | .yt _=>false
 | .agg l=>noOwnL l
 | .iU l=>noOwnL l
 | .fn _ l=>noOwnL l
 | .mp _ _ l=>noOwnL l
 |_=>true
def noOwnL:List LV→Bool
 | []=>true
 |x::xs=>noOwn x&&noOwnL xs
end
/-Which own blocks a value names. -/
mutual
def owns:LV→List Nat
 | .own k _=>[k]
 | .os k _ _ _=>[k]
 | .op k _ _ _=>[k]
 | .om k=>[k]
 | .oc k _ _ _ _=>[k]
 | .yt k=>[k]
 | .agg l=>ownsL l
 | .iU l=>ownsL l
 | .fn _ l=>ownsL l
 | .mp _ _ l=>ownsL l
 |_=>[]
def ownsL:List LV→List Nat
 | []=>[]
 |x::xs=>owns x++ownsL xs
end
def aZ.owns (b:aZ):List Nat:=ownsL b.c++(match b.k with| .mp _ _ vs=>ownsL vs|_=>[])
def reach (H:List aZ):Nat→List Nat→List Nat→List Nat
 |0,_,acc=>acc
 |_+1,[],acc=>acc
 |d+1,k::ks,acc=>if acc.contains k then reach H d ks acc else reach H d (ks++(match H[k]? with|some b=>b.owns|none=>[])) (acc++[k])
def qG (H:List aZ) (ks:List Nat) (l:List LV):Bool:=
 (ownsL l).all ks.contains&&ks.all (λk=>match H[k]? with|some b=>b.owns.all ks.contains|none=>false)
def o5 (ks:List Nat):Nat→List aZ→List aZ
 |_,[]=>[]
 |k,b::bs=>(if ks.contains k then ⟨b.c,b.t,b.k,true⟩ else b)::o5 ks (k+1) bs
def aqv (x:LV):Bool:=(pl x).isSome
def vO:T LV→T LV
 | .ok x=>if aqv x then .ok x else .no
 | .br b t e=> .br b (vO t) (vO e)
 | .req p t=> .req p (vO t)
 | .no=> .no
def agx (c a b:LV):T LV:=
 match c with
 | .bl true=> .ok a
 | .bl false=> .ok b
 | .v (.bool g)=>match norm a,norm b with
  | .v (.int k n),.v (.int k' m)=>if k=k' then .ok (.v (.int k (if g then n else m))) else .no
  | .v (.bool p),.v (.bool q)=> .ok (.v (.bool (if g then p else q)))
  |_,_=> .br g (.ok a) (.ok b)
 |_=> .no
def alD:List Bool→Bool
 | []=>true
 | [p]=>p
 |p::ps=>p&&alD ps
mutual
def eqV (P:Program):Nat→TypeId→Value→Value→Option Bool
 |0,_,_,_=>none
 |d+1,t,x,y=>match P.underlying t,x,y with
  |some (.int _),.int k a,.int k' b=>if k=k' then some (a==b) else none
  |some .bool,.bool a,.bool b=>some (a==b)
  |some .string,.string a,.string b=>some (a==b)
  |some (.struct fs),.agg xs,.agg ys=>if P.stoodInHeld t then none else (eqFs P d xs ys fs.toList).map alD
  |_,_,_=>none
def eqFs (P:Program):Nat→Array Value→Array Value→List Field→Option (List Bool)
 |_,_,_,[]=>some []
 |0,_,_,_::_=>none
 | d+1,xs,ys,f::fs=>if f.name= "_" then none else match ku P (part f.type xs f.offset),ku P (part f.type ys f.offset) with
  |some a,some b=>match eqV P d f.type a b,eqFs P d xs ys fs with
   |some p,some ps=>some (p::ps)
   |_,_=>none
  |_,_=>none
end
def aqw:BinOp→Option Bool
 | .eql=>some false
 | .neq=>some true
 |_=>none
def Rf (P:Program) (o:Op) (e:Operand→Value):Option (Option Value):=
 match o with
 | .binOp op t x y _=>match aqw op with
  | some neg=>match e x,e y with
   | .agg xs,.agg ys=>some (match ku P (eqGuard op t x y (.agg xs) (.agg ys)),eqV P 100 t (.agg xs) (.agg ys) with
    |some _,some b=>some (.bool (match neg with|true=>!b|false=>b))
    |_,_=>none)
   |_,_=>none
  |none=>none
 |_=>none
def alu (P:Program) (o:Oper) (e:Operand→Value):Option Value:=
 match Rf P o.op e with
 |some r=>r
 |none=>match ku P (execOp e o) with
  |some (.value y)=>some y
  |_=>none
def aHU:LV→Bool
 | .ki _ _=>true
 | .bl _=>true
 | .v (.slice none _ _)=>true
 |_=>false
def kn:Value→LV
 | .int k n=> .ki k n
 | .bool b=> .bl b
 |y=> .v y
def vU (P:Program) (G:dI) (F:List LV) (o:Oper):T LV:=
 if o.op.operands.toList.all (λx=>aqv (aV G F x)) then
  match alu P o (λx=>(pl (aV G F x)).getD undef) with
  |some y=> .ok (if o.op.operands.toList.all (λx=>aHU (aV G F x)) then kn y else .v y)
  |none=> .no
 else .no
def aa6 (r:TypeId→Option Ty):List TypeId→Option Ty
 | []=>none
 | [t]=>r t
 |t::ts=>match r t,aa6 r ts with
  |some a,some b=>some (.pair a b)
  |_,_=>none
def AV (P:Program):Nat→TypeId→Option Ty
 |0,_=>none
 |m+1,t=>match P.underlying t with
  |some (.int k)=>some (.int k)
  |some .bool=>some .bool
  |some .string=>some .str
  |some (.struct fs)=>aa6 (AV P m) (fs.toList.map (·.type))
  |some (.array n e)=>aa6 (AV P m) (List.replicate n e)
  |some (.slice e)=>(AV P m e).map .sl
  |_=>none
def ar4 (e:Ty):Nat→List LV→Option (List e.D)
 |0,_=>some []
 |n+1,cs=>match uS e (cs.take e.n),ar4 e n (cs.drop e.n) with
  |some d,some r=>some (d::r)
  |_,_=>none
def V3 (P:Program) (t:TypeId) (len:Nat) (parts:List (Nat×LV)):T LV:=
 match P.underlying t with
 |some (.slice e)=>match AV P 8 e,sD P e,rZ P e with
  | some ty,some m,some z=>if ty.n=m∧z.cells.size=m∧0<len*m∧len*m≤2^24 then
    (match Bo (λi=>some (i*m,m)) ((List.range (len*m)).map (λi=> .v (z.cells[i%z.cells.size]!))) parts with
    |some cs=>match ar4 ty len cs with
     |some l=> .ok (.xl ty l)
     |none=> .no
    |none=> .no) else .no
  |_,_,_=> .no
 |_=> .no
def TY (P:Program) (t:TypeId):Bool:=
 match P.underlying t with
 |some (.slice e)=>(AV P 8 e).isSome
 |_=>false
def ay4 (P:Program) (H:List aZ) (t:TypeId) (len:Nat) (parts:List (Nat×LV)):T (LV×List aZ):=
 match P.underlying t with
 |some (.slice e)=>match sD P e,rZ P e with
  | some m,some z=>if z.cells.size=m∧0<len*m∧len*m≤2^24 then
    (match Bo (λi=>some (i*m,m)) ((List.range (len*m)).map (λi=> .v (z.cells[i%z.cells.size]!))) parts with
    |some cs=> .ok (.oc H.length m 0 len len,H++[⟨cs,e,.cl,false⟩])
    |none=> .no) else .no
  |_,_=> .no
 |_=> .no
def aHN (P:Program) (H:List aZ) (t:TypeId) (len:Nat) (parts:List (Nat×LV)):T (LV×List aZ):=
 if qG H (reach H 64 (ownsL (parts.map (·.2))) []) (parts.map (·.2)) then
  ((wP (gX H 6) (parts.map (·.2))).bind λ_=>V3 P t len (parts.map λq=>(q.1,su H 6 q.2))).bind λy=> .ok (y,o5 (reach H 64 (ownsL (parts.map (·.2))) []) 0 H)
 else .no
def oQ (H:List aZ) (e:Ty):LV→T (List e.D)
 | .os k es off n=>match H[k]? with
  |some ⟨_,_,.vec e' l,_⟩=>if e'.n=es then (match Lc e' e with
   |some ⟨h⟩=> .req (off+n≤List.length l) (.ok (Ec h ((l.drop off).take n)))
   |none=> .no) else .no
  |_=> .no
 |x=>match Zu e x with
  |some l=> .ok l
  |none=> .no
def asa (P:Program) (t:TypeId):Option Nat:=(P.info? t).map (·.bytes)
def Rh (P:Program) (t:TypeId):Option (TypeId×Ty×Nat×Nat):=
 match P.underlying t with
 |some (.slice e)=>match AV P 8 e,sD P e,asa P e with
  |some ty,some m,some by_=>if ty.n=m∧0<m then some (e,ty,m,by_) else none
  |_,_,_=>none
 |_=>none
def QO (P:Program) (H:List aZ) (t:TypeId) (n c:LV):T (LV×List aZ):=
 match Rh P t,pl n,pl c with
 | some (e,ty,m,by_),some (.int .i64 n),some (.int .i64 c)=>match rZ P e with
  |some z=>match uS ty (z.cells.toList.map .v) with
   |some d=>if z.cells.size=m then .req (0≤n∧n≤c∧by_*c≤2^48∧c<2^63) (.ok (.os H.length m 0 n.toNat,H++[⟨[],e,.vec ty (List.replicate n.toNat d),false⟩])) else .no
   |none=> .no
  |none=> .no
 |_,_,_=> .no
def WH (P:Program) (H:List aZ) (t:TypeId):T (LV×List aZ):=
 match Rh P t with
 |some (e,ty,m,_)=> .ok (.os H.length m 0 0,H++[⟨[],e,.vec ty [],false⟩])
 |none=> .no
def FP (P:Program) (H:List aZ) (t tx:TypeId) (x y:LV):T (LV×List aZ):=
 match Rh P t with
 | some (e,ty,m,by_)=>match P.underlying tx,rZ P e with
  | some (.slice _),some z=>if z.cells.size=m then (oQ H ty y).bind (λq=>match x with
    | .v (.slice none 0 0)=> .req ((List.length q:Int)*by_≤2^47∧(List.length q:Int)<2^62) (.ok (.os H.length m 0 (List.length q),H++[⟨[],e,.vec ty q,false⟩]))
    | .os k es off n=>match H[k]? with
     |some ⟨_,bt,.vec e' l,false⟩=>match Lc e' ty with
      | some ⟨h⟩=>if es=m∧bt=e then .req (off+n=List.length l∧((n+List.length q:Nat):Int)*by_≤2^47∧((n+List.length q:Nat):Int)<2^62)
        (.ok (.os H.length m 0 (n+List.length q),H.set k ⟨[],e,.dead,false⟩++[⟨[],e,.vec ty (Ec h (l.drop off)++q),false⟩])) else .no
      |none=> .no
     |_=> .no
    |_=> .no) else .no
  |_,_=> .no
 |none=> .no
def abf (P:Program) (t:TypeId) (x:LV) (lo hi:Option LV):T LV:=
 match P.underlying t with
 | some (.slice e)=>match sD P e with
  | some (m+1)=>
   let b (o:Option LV) (d:Int):Option Int:=match o with
    |none=>some d
    |some y=>match pl y with
     |some (.int _ n)=>some n
     |_=>none
   match x with
   | .xl ty l=>match b lo 0,b hi (List.length l:Int) with
    |some i,some j=>if ty.n=m+1 then .req (0≤i∧i≤j∧j≤(List.length l:Int)) (.ok (.xl ty ((l.drop i.toNat).take (j.toNat-i.toNat)))) else .no
    |_,_=> .no
   | .os k es off n=>match b lo 0,b hi (n:Int) with
    |some i,some j=>if es=m+1 then .req (0≤i∧i≤j∧j≤(n:Int)) (.ok (.os k es (off+i.toNat) (j.toNat-i.toNat))) else .no
    |_,_=> .no
   |_=> .no
  |_=> .no
 |_=> .no
def qo (kd:IntKind) (n:Int) (z:Value):List Int→List LV→T LV
 |k::ks,v::vs=> .br (n==k) (.ok v) (qo kd n z ks vs)
 |_,_=> .ok (.v z)
def aHO:(e:Ty)→e.D→Value
 | .int k,n=> .int k n
 | .str,s=> .string s
 | .bool,b=> .bool b
 | .sl _,_=>undef
 | .pair _ _,_=>undef
def JV:(e:Ty)→Value→Option e.D
 | .int k,v=>match v with
  | .int k' n=>if k'=k then some n else none
  |_=>none
 | .str,v=>match v with
  | .string s=>some s
  |_=>none
 |_,_=>none
def ayY:(e:Ty)→e.D→List e.D→Bool
 | .int _,x,l=>List.contains (α:=Int) l x
 | .str,x,l=>List.contains (α:=ByteArray) l x
 |_,_,_=>false
def amU (P:Program) (t:TypeId):Option Ty:=
 match P.underlying t with
 |some (.map kt et)=>match P.underlying et,P.underlying kt,rZ P et with
  |some .bool,some (.int k),some (.bool false)=>some (.int k)
  |some .bool,some .string,some (.bool false)=>some .str
  |_,_,_=>none
 |_=>none
def aBt (P:Program) (t:TypeId) (e:Ty) (l:List e.D) (i:LV):T LV:=
 match amU P t,pl i with
 |some e',some v=>match Lc e' e,JV e v with
  |some _,some d=> .ok (.v (.bool (ayY e d l)))
  |_,_=> .no
 |_,_=> .no
def QR (P:Program) (H:List aZ) (t:TypeId) (x i:LV):T LV:=
 match P.underlying t with
 | some (.map kt et)=>match P.underlying kt,rZ P et,pl i with
  | some (.int kd),some z,some (.int kd' n)=>if kd'=kd∧GH z=true then (match x with
   | .mp kd2 ks vs=>if kd2=kd∧ks.length=vs.length then qo kd n z ks vs else .no
   | .om k=>match H[k]? with
    |some ⟨_,_,.mp kd2 ks vs,_⟩=>if kd2=kd∧ks.length=vs.length then qo kd n z ks vs else .no
    |_=> .no
   |_=> .no) else .no
  |_,_,_=> .no
 |_=> .no
def Y0 (P:Program) (H:List aZ) (t:TypeId) (x i:LV):T LV:=
 match x with
 | .om k=>match H[k]? with
  |some ⟨_,_,.st e l,_⟩=>aBt P t e l i
  |_=>QR P H t x i
 |_=>QR P H t x i
def alq (P:Program) (H:List aZ) (t:TypeId) (x i y:LV):T (List aZ):=
 match P.underlying t with
 | some (.map kt _)=>match P.underlying kt,pl i,x with
  |some (.int kd),some (.int kd' n),.om k=>match H[k]? with
   |some ⟨_,bt,.mp kd2 ks vs,false⟩=>if kd'=kd∧kd2=kd∧ks.length=vs.length∧ks.contains n=false then .ok (H.set k ⟨[],bt,.mp kd (ks++[n]) (vs++[y]),false⟩) else .no
   |_=> .no
  |_,_,_=> .no
 |_=> .no
def insL (P:Program) (H:List aZ) (t:TypeId) (x i y:LV):T (List aZ):=
 match x with
 | .om k=>match H[k]? with
  | some ⟨_,bt,.st e l,false⟩=>match amU P t,pl i,y with
   |some e',some v,.bl true=>match Lc e' e,JV e v with
    |some _,some d=> .req (ayY e d l=false) (.ok (H.set k ⟨[],bt,.st e (l++[d]),false⟩))
    |_,_=> .no
   |_,_,_=> .no
  |_=>alq P H t x i y
 |_=>alq P H t x i y
def kindOf (P:Program) (t:TypeId):Option IntKind:=
 match P.underlying t with
 |some (.map kt _)=>match P.underlying kt with
  |some (.int kd)=>some kd
  |_=>none
 |_=>none
def nR (P:Program):Nat→TypeId→Bool
 |0,_=>false
 |m+1,t=>match P.underlying t with
  |some (.int _) |some .bool|some .string=>true
  |some (.struct fs)=>fs.toList.all (λf=>nR P m f.type)
  |some (.array _ e)=>nR P m e
  |some (.tuple ts)=>ts.toList.all (nR P m)
  |_=>false
def wo (s:ByteArray) (n:Int):Int:=(((s[n.toNat]?).getD 0).toNat:Int)
def zD (P:Program) (Γ:Specs) (H:List aZ) (o:Oper) (g:FuncId) (l:List LV):T (LV×List aZ):=
 match P.funcs[g]? with
 | some fn=>if fn.body.isSome&&!(fn.name== "runtime.NumGoroutine") then
   match Γ g with
   |some S=>
    if noOwnL l then (S l).bind λy=> .ok (y,H)
    else if nR P 8 o.type then ((wP (gX H 6) l).bind λ_=>vO (S (l.map (su H 6)))).bind λy=> .ok (y,H)
    else if qG H (reach H 64 (ownsL l) []) l then ((wP (gX H 6) l).bind λ_=>S (l.map (su H 6))).bind λy=> .ok (y,o5 (reach H 64 (ownsL l) []) 0 H) else .no
   |none=> .no
  else .no
 |none=> .no
def agQ (P:Program) (x:LV) (name:String):Option (FuncId×Value):=
 match pl x with
 |some (.iface t v)=>ku P (method (P.types.size+Made.depth) t v name)
 |_=>none
def o6 (P:Program) (G:dI) (Γ:Specs) (F:List LV) (H:List aZ) (o:Oper):T (LV×List aZ):=
 match o.op with
 | .select _ _=> .no
 | .move x=> .ok (aV G F x,H)
 | .assign x=> .ok (aV G F x,H)
 | .pick c a b=>(agx (aV G F c) (aV G F a) (aV G F b)).bind λy=> .ok (y,H)
 | .alloc t=>match rZ P t with
  |some z=>match dU (.v z) with
   |some cs=> .ok (.own H.length 0,H++[⟨cs,t,.cl,false⟩])
   |none=> .no
  |none=> .no
 | .box t x=>match dU (aV G F x) with
  |some cs=> .ok (.own H.length 0,H++[⟨cs,t,.cl,false⟩])
  |none=> .no
 | .load t x=>(zq P H t (aV G F x)).bind λy=> .ok (y,H)
 | .store t x y=>(BI P H t (aV G F x) (aV G F y)).bind λH'=> .ok (.v undef,H')
 | .fieldAddr s x i=>(NP P s (aV G F x) i).bind λy=> .ok (y,H)
 | .indexAddr t x i=>(BU P t (aV G F x) (alp (aV G F i)) (aV G F i)).bind λy=> .ok (y,H)
 | .build t parts=>(Hl P t (parts.toList.map λq=>(q.1,IA G F q.2))).bind λy=> .ok (y,H)
 | .buildSlice t len parts=>if len=0 then (if parts.toList.isEmpty then WH P H t else .no) else if TY P t then (if noOwnL ((parts.toList.map λq=>(q.1,aV G F q.2)).map (·.2)) then (V3 P t len (parts.toList.map λq=>(q.1,aV G F q.2))).bind λy=> .ok (y,H) else aHN P H t len (parts.toList.map λq=>(q.1,aV G F q.2))) else ay4 P H t len (parts.toList.map λq=>(q.1,aV G F q.2))
 | .makeSlice t n c=>QO P H t (aV G F n) (aV G F c)
 | .slice t x lo hi none=>match aV G F x with
  | .v _=>(vU P G F o).bind λy=> .ok (y,H)
  |_=>(abf P t (aV G F x) (lo.map (aV G F)) (hi.map (aV G F))).bind λy=> .ok (y,H)
 | .makeMap t none=>match amU P t with
  |some e=> .ok (.om H.length,H++[⟨[],t,.st e [],false⟩])
  |none=>match kindOf P t with
   |some kd=> .ok (.om H.length,H++[⟨[],t,.mp kd [] [],false⟩])
   |none=> .no
 | .insert t m i x=>(insL P H t (aV G F m) (aV G F i) (aV G F x)).bind λH'=> .ok (.v undef,H')
 | .mapUpdate t m i x=>(insL P H t (aV G F m) (aV G F i) (aV G F x)).bind λH'=> .ok (.v undef,H')
 | .lookup t x i false=>(Y0 P H t (aV G F x) (aV G F i)).bind λy=> .ok (y,H)
 | .extract x i=>match aV G F x with
  | .iU l=>match l[i]? with
   |some y=> .ok (y,H)
   |none=> .no
  |_=>(vU P G F o).bind λy=> .ok (y,H)
 | .field t x i=>match aV G F x with
  | .agg l=>(aIm P t l i).bind λy=> .ok (y,H)
  |_=>(vU P G F o).bind λy=> .ok (y,H)
 | .makeFunc (.func f) first cap=>if first.toList.isEmpty then .ok (.fn f (cap.toList.map (aV G F)),H) else .no
 | .nilCheck x=>match aV G F x with
  | .own k off=> .ok (.own k off,H)
  | .op k es i j=> .ok (.op k es i j,H)
  | .xq n f=> .ok (.xq n f,H)
  | .fn f l=> .ok (.fn f l,H)
  |_=>(vU P G F o).bind λy=> .ok (y,H)
 | .binOp .quo _ x y _=>match pl (aV G F x),pl (aV G F y) with
  |some (.int k n),some (.int k' m)=>if k=k' then .req (m≠0) (.ok (.v (.int k (k.wrap (n.tdiv m))),H)) else .no
  |_,_=> .no
 | .binOp .rem _ x y _=>match pl (aV G F x),pl (aV G F y) with
  |some (.int k n),some (.int k' m)=>if k=k' then .req (m≠0) (.ok (.v (.int k (n.tmod m)),H)) else .no
  |_,_=> .no
 | .binOp .shl _ x y _=>if alp (aV G F y) then (vU P G F o).bind λy=> .ok (y,H) else match pl (aV G F x),pl (aV G F y) with
  |some (.int k n),some (.int _ m)=> .req (0≤m) (.ok (.v (.int k (k.wrap (n*2^(min m.toNat k.bits)))),H))
  |_,_=> .no
 | .binOp .shr _ x y _=>if alp (aV G F y) then (vU P G F o).bind λy=> .ok (y,H) else match pl (aV G F x),pl (aV G F y) with
  |some (.int k n),some (.int _ m)=> .req (0≤m) (.ok (.v (.int k (n.fdiv (2^(min m.toNat k.bits)))),H))
  |_,_=> .no
 | .index t x i=>match P.underlying t,pl (aV G F x),pl (aV G F i) with
  |some .string,some (.string s),some (.int _ n)=> .req (0≤n∧n<(s.size:Int)) (.ok (.v (.int .u8 (wo s n)),H))
  |_,_,_=> .no
 | .call {callee:=.value f,args,..}=>match aV G F f with
  | .fn g cap=>zD P Γ H o g (args.toList.map (λx=>norm (aV G F x))++cap)
  |_=> .no
 | .call {callee:=.invoke r name,args,..}=>match agQ P (aV G F r) name with
  |some (g,rv)=>zD P Γ H o g (.v rv::args.toList.map (λx=>norm (aV G F x)))
  |none=> .no
 | .call {callee:=.builtin .append,args,argTypes}=>match args.toList.map (aV G F),argTypes.toList with
  | [x,y],[t,tx]=>FP P H t tx x y
  |_,_=> .no
 | .call {callee:=.builtin .len,args,argTypes}=>match args.toList.map (aV G F),(argTypes[0]?).bind P.underlying with
  | [.os _ _ _ n],some (.slice _)=> .ok (.v (.int .i64 n),H)
  | [.xl _ l],some (.slice _)=> .ok (.v (.int .i64 (List.length l:Int)),H)
  | [.oc _ _ _ n _],some (.slice _)=> .ok (.ki .i64 n,H)
  |_,_=>(vU P G F o).bind λy=> .ok (y,H)
 |_=>(vU P G F o).bind λy=> .ok (y,H)
def fV (F:List LV):Option Tmp→LV→List LV
 |some d,x=>F.set d x
 |none,_=>F
structure Hand where
 k:FuncId→List LV→List aZ→T (LV×List aZ)
 y:Nat→List LV→List aZ→T (LV×List aZ)
def dR:Hand:=⟨λ_ _ _=> .no,λ_ _ _=> .no⟩
def alY (G:dI) (F:List LV) (o:Oper):Option (Nat×List LV):=
 match o.op with
 | .call {callee:=.value f,args,..}=>match aV G F f with
  | .yt k=>some (k,args.toList.map (λx=>norm (aV G F x)))
  |_=>none
 |_=>none
def callOf (G:dI) (F:List LV) (o:Oper):Option (FuncId×List LV):=
 match o.op with
 | .call {callee:=.value f,args,..}=>match aV G F f with
  | .fn g cap=>some (g,args.toList.map (λx=>norm (aV G F x))++cap)
  |_=>none
 |_=>none
def opk (P:Program) (G:dI) (Γ:Specs) (K:Hand) (F:List LV) (H:List aZ) (o:Oper):T (LV×List aZ):=
 match callOf G F o with
 | some (g,l)=>match Γ g with
  |some _=>o6 P G Γ F H o
  |none=>match P.funcs[g]? with
   |some fn=>if fn.body.isSome&&!(fn.name== "runtime.NumGoroutine") then K.k g l H else .no
   |none=> .no
 |none=>match alY G F o with
  |some (k,l)=>K.y k l H
  |none=>o6 P G Γ F H o
def aeR (ty:Ty):List LV→Option (List (List ty.D))
 | []=>some []
 | x::xs=>match x with
  | .xl e l=>match Lc e ty,aeR ty xs with
   |some ⟨h⟩,some r=>some (Ec h l::r)
   |_,_=>none
  |_=>none
def aHP (P:Program) (G:dI) (F:List LV) (H:List aZ) (o o2:Oper):Option (Int×Nat×LV):=
 if o.guard.isNone&&o2.guard.isNone then
  match o.op,o.dst,o2.op with
  | .indexAddr t x i,some d,.load t2 (.tmp d2)=>
   if d2 =d∧d<F.length∧alH P t2=some false then
    match P.underlying t,aV G F x,aV G F i with
    | some (.array len e),.own k off,.v (.int _ n)=>
     if sD P e=some 1 then
      match H[k]? with
      | some b=>
       if b.rO=true∧off+len≤b.c.length then
        match (b.c.drop off).take len with
        | .xl ty l::rest=>match aeR ty (.xl ty l::rest) with
         |some ls=>some (n,len,.xl ty (ls.getD n.toNat []))
         |none=>none
        |_=>none
       else none
      |none=>none
     else none
    |_,_,_=>none
   else none
  |_,_,_=>none
 else none
def AX (P:Program) (G:dI) (Γ:Specs) (K:Hand) (ops:Array Oper):List Oper→List LV→List aZ→T (List LV×List aZ)
 | [],F,H=> .ok (F,H)
 | o::os,F,H=>
  let go (F:List LV):T (List LV×List aZ):=(opk P G Γ K F H o).bind λq=>AX P G Γ K ops os (fV F o.dst q.1) q.2
  let pass (F:List LV):T (List LV×List aZ):=AX P G Γ K ops os (fV F o.dst (.v undef)) H
  match o.guard with
  | none=>match os with
   | []=>go F
   |o2::os2=>match aHP P G F H o o2 with
    |some (n,len,y)=> .req (0≤n∧n<(len:Int)) (AX P G Γ K ops os2 (fV (fV F o.dst .junk) o2.dst y) H)
    |none=>go F
  | some (j,want)=>match (ops[j]?).bind (·.dst) with
   |some d=>match F.getD d .junk with
    | .bl b=>if b=want then go F else pass F
    | .v (.bool g)=>if want then .br g (go (F.set d (.bl true))) (pass (F.set d (.bl false))) else .br g (pass (F.set d (.bl true))) (go (F.set d (.bl false)))
    | .v (.tuple _)=>pass F
    |_=> .no
   |none=> .no
def nki:LV→LV
 | .ki k n=> .v (.int k n)
 |x=>x
def xK (b:Bool):LV→LV→LV
 | .v (.int k n),.v (.int k' m)=>if k=k' then .v (.int k (if b then n else m)) else .junk
 | .bl true,.bl false=> .v (.bool b)
 | .bl false,.bl true=> .v (.bool !b)
 | .bl true,.bl true=> .bl true
 | .bl false,.bl false=> .bl false
 | .v (.bool p),.bl false=> .v (.bool (b&&p))
 | .v (.bool p),.bl true=> .v (.bool (!b ||p))
 | .bl true,.v (.bool q)=> .v (.bool (b ||q))
 | .bl false,.v (.bool q)=> .v (.bool (!b&&q))
 | .v (.bool p),.v (.bool q)=> .v (.bool (if b then p else q))
 |_,_=> .junk
def MV (b:Bool) (x y:LV):LV:=xK b (nki x) (nki y)
def qE (P:Program) (o:Oper):Bool:=
 match o.op with
 | .alloc _| .box ..| .store ..| .makeSlice ..| .makeMap ..| .insert ..| .mapUpdate ..=>false
 | .buildSlice ..=>false
 | .call {callee:=.builtin .append,..}=>false
 | .call {callee:=.value _,..}=>nR P 8 o.type
 | .call {callee:=.invoke ..,..}=>nR P 8 o.type
 |_=>true
def aco (P:Program) (Γ:Specs) (o:Oper):Bool:=
 qE P o&&(match o.op with
 | .call {callee:=.value (.func g),..}=>(Γ g).isSome
 | .call {callee:=.value _,..}=>false
 |_=>true)
def uQ (ops:List Oper):List Nat:=ops.filterMap (·.dst)
def zl (ds:List Nat) (b:Bool) (F F1 F2:List LV):List LV:=(List.range F.length).map λi=>if ds.contains i then MV b (F1.getD i .junk) (F2.getD i .junk) else F.getD i .junk
def ug (ds:List Nat) (F:List LV) (H:List aZ):T (List LV×List aZ)→T (List LV×List aZ)
 | .ok x=> .ok x
 | .no=> .no
 | .req p t=> .req p (ug ds F H t)
 | .br b t e=>match ug ds F H t,ug ds F H e with
  | .ok x,.ok y=> .ok (zl ds b F x.1 y.1,H)
  |t',e'=> .br b t' e'
def aGV (P:Program) (G:dI) (Γ:Specs) (K:Hand) (ops:Array Oper) (F:List LV) (H:List aZ):T (List LV×List aZ):=
 if ops.toList.all (aco P Γ) then ug (uQ ops.toList) F H (AX P G Γ K ops ops.toList F H) else AX P G Γ K ops ops.toList F H
def isSp (P:Program) (o:Oper):Bool:=
 match o.op with
 | .alloc _| .box ..| .store ..| .buildSlice ..| .makeSlice ..| .makeMap ..| .insert ..| .mapUpdate ..=>true
 | .call {callee:=.builtin .append,..}=>true
 | .call {callee:=.value _,..}=>!nR P 8 o.type
 | .call {callee:=.invoke ..,..}=>!nR P 8 o.type
 |_=>false
def D7 (sp:Oper→Bool):List Bool→List Oper→List Bool
 |fs,[]=>fs
 |fs,o::os=>D7 sp (fs++[sp o ||o.after.toList.any (λe=>Region.binds .any e&&fs.getD e.on false)]) os
def aMY (o:Oper):Bool:=
 match o.op with
 | .assign _=>true
 |_=>false
def qI (H:List aZ) (ops:List Oper) (F:List LV):Nat→Nat→List Nat
 |0,_=>[]
 | d+1,t=>match ops.find? (λo=>o.dst==some t&&!aMY o) with
  | some o=>match o.op with
   | .fieldAddr _ (.tmp y) _=>qI H ops F d y
   | .indexAddr _ (.tmp y) _=>qI H ops F d y
   | .move (.tmp y)=>qI H ops F d y
   | .nilCheck (.tmp y)=>qI H ops F d y
   | .load _ (.tmp y)=>(qI H ops F d y).flatMap λk=>match H[k]? with
    |some b=>ownsL b.c
    |none=>[]
   |_=>[]
  |none=>match F.getD t .junk with
   | .own k _=>[k]
   | .op k _ _ _=>[k]
   | .os k _ _ _=>[k]
   | .om k=>[k]
   |_=>[]
def tracked (H:List aZ) (ops:List Oper) (F:List LV):List Nat:=ops.flatMap λo=>match o.op with
 | .store _ (.tmp x) _=>qI H ops F 12 x
 | .insert _ (.tmp x) _ _=>qI H ops F 12 x
 | .mapUpdate _ (.tmp x) _ _=>qI H ops F 12 x
 | .call {callee:=.builtin .append,args,..}=>match args.toList with
  |(.tmp x)::_=>qI H ops F 12 x
  |_=>[]
 |_=>[]
def aRp (H:List aZ) (ops:List Oper) (F:List LV) (tr:List Nat) (o:Oper):Bool:=
 match o.op with
 | .load _ (.tmp x)=>(qI H ops F 12 x).any tr.contains
 |_=>false
def Ib (b:aZ):aZ:=
 match b.k with
 | .cl=>⟨List.replicate b.c.length .junk,b.t,.cl,b.p⟩
 |_=>⟨[],b.t,.dead,false⟩
def jc (tr:List Nat):Nat→List aZ→List aZ
 |_,[]=>[]
 |k,b::bs=>(if tr.contains k then Ib b else b)::jc tr (k+1) bs
def GV (o:Oper):Bool:=
 match o.op with
 | .call {callee:=.value _,..}=>true
 | .call {callee:=.invoke ..,..}=>true
 |_=>false
def adB (G:dI) (F:List LV) (tr:List Nat) (o:Oper):Bool:=
 match o.op with
 | .load _ x=>match aV G F x with
  | .own k _=>!tr.contains k
  | .op k _ _ _=>!tr.contains k
  |_=>true
 | .lookup _ x _ _=>match aV G F x with
  | .om k=>!tr.contains k
  |_=>true
 |_=>true
def aNB (t:T (LV×List aZ)):T LV:=t.bind λq=> .ok q.1
def Zw (P:Program) (G:dI) (Γ:Specs) (tr:List Nat) (F:List LV) (Hm:List aZ) (o:Oper):T LV:=
 if isSp P o || !adB G F tr o then .no
 else if GV o then vO (aNB (o6 P G Γ F Hm o))
 else aNB (o6 P G Γ F Hm o)
def YK (P:Program) (G:dI) (Γ:Specs) (ops:Array Oper) (tr:List Nat) (H Hm:List aZ):List Bool→List Oper→List LV→T (List LV×List aZ)
 | f::fs,o::os,F=>
  if f then YK P G Γ ops tr H Hm fs os F else
  let go (F:List LV):T (List LV×List aZ):=(Zw P G Γ tr F Hm o).bind λy=>YK P G Γ ops tr H Hm fs os (fV F o.dst y)
  let pass (F:List LV):T (List LV×List aZ):=YK P G Γ ops tr H Hm fs os (fV F o.dst (.v undef))
  match o.guard with
  |none=>go F
  | some (j,want)=>match (ops[j]?).bind (·.dst) with
   |some d=>match F.getD d .junk with
    | .bl b=>if b=want then go F else pass F
    | .v (.bool g)=>if want then .br g (go (F.set d (.bl true))) (pass (F.set d (.bl false))) else .br g (pass (F.set d (.bl true))) (go (F.set d (.bl false)))
    | .v (.tuple _)=>pass F
    |_=> .no
   |none=> .no
 |_,_,F=> .ok (F,H)
def Xg (G:dI) (F:List LV) (o:Oper):List Nat:=
 match o.op with
 | .store _ x _=>owns (aV G F x)
 | .insert _ x _ _=>owns (aV G F x)
 | .mapUpdate _ x _ _=>owns (aV G F x)
 | .call {callee:=.builtin .append,args,..}=>match args.toList.map (aV G F) with
  |x::_=>owns x
  | []=>[]
 |_=>[]
def fF (G:dI) (F:List LV) (tr:List Nat) (n0:Nat) (o:Oper):Bool:=(Xg G F o).all λk=>tr.contains k ||decide (n0≤k)
def p2x (P:Program) (G:dI) (Γ:Specs) (ops:Array Oper) (tr:List Nat) (n0:Nat):List Bool→List Oper→List LV→List aZ→T (List LV×List aZ)
 | f ::fs,o::os,F,H=>
  if f then
   let go (F:List LV):T (List LV×List aZ):=if fF G F tr n0 o then (o6 P G Γ F H o).bind λq=>p2x P G Γ ops tr n0 fs os (fV F o.dst q.1) q.2 else .no
   let pass (F:List LV):T (List LV×List aZ):=p2x P G Γ ops tr n0 fs os (fV F o.dst (.v undef)) H
   match o.guard with
   |none=>go F
   | some (j,want)=>match (ops[j]?).bind (·.dst) with
    |some d=>match F.getD d .junk with
     | .bl b=>if b=want then go F else pass F
     | .v (.bool g)=>if want then .br g (go (F.set d (.bl true))) (pass (F.set d (.bl false))) else .br g (pass (F.set d (.bl true))) (go (F.set d (.bl false)))
     | .v (.tuple _)=>pass F
     |_=> .no
    |none=> .no
  else p2x P G Γ ops tr n0 fs os F H
 |_,_,F,H=> .ok (F,H)
def xO (o:Oper):Bool:=
 match o.op with
 | .buildSlice ..=>true
 | .call {callee:=.value _,..}=>true
 |_=>false
def yG (o:Oper):Bool:=
 match o.op with
 | .alloc _=>true
 | .box ..=>true
 | .makeSlice ..=>true
 |_=>false
def DN (o:Oper):Bool:=
 match o.op with
 | .alloc _=>true
 | .box ..=>true
 | .load ..=>true
 |_=>false
def mkx (P:Program) (G:dI) (Γ:Specs) (F:List LV) (o:Oper):T LV:=
 match o.op with
 | .buildSlice t len parts=>if noOwnL ((parts.toList.map λq=>(q.1,aV G F q.2)).map (·.2)) then V3 P t len (parts.toList.map λq=>(q.1,aV G F q.2)) else .no
 | .call {callee:=.value f,args,..}=>match aV G F f with
  | .fn g cap=>match P.funcs[g]? with
   | some fn=>if fn.body.isSome&&!(fn.name== "runtime.NumGoroutine") then
     match Γ g with
     |some S=>if noOwnL (args.toList.map (λx=>norm (aV G F x))++cap) then S (args.toList.map (λx=>norm (aV G F x))++cap) else .no
     |none=> .no
    else .no
   |none=> .no
  |_=> .no
 |_=> .no
def aBb (o:Oper):List Nat:=(o.after.toList.filter (Region.binds .any)).map (·.on)
def aN2:List (List Nat)→List Oper→List (List Nat)
 |acc,[]=>acc
 |acc,o::os=>aN2 (acc++[(aBb o++(aBb o).flatMap (λk=>acc.getD k [])).eraseDups]) os
def aLj (A:List (List Nat)) (n i:Nat):Bool:=(List.range n).all λj=>j==i ||(A.getD i []).contains j ||(A.getD j []).contains i
def QL (ops:Array Oper) (i:Nat) (o:Oper):Bool:=xO o&&!aLj (aN2 [] ops.toList) ops.size i
def Xh (P:Program) (G:dI) (Γ:Specs) (ops:Array Oper) (i:Nat) (F:List LV) (H:List aZ) (o:Oper):T (LV×List aZ):=
 if QL ops i o then (mkx P G Γ F o).bind λy=> .ok (y,H) else o6 P G Γ F H o
def QG (P:Program) (G:dI) (Γ:Specs) (ops:Array Oper) (tr:List Nat) (n0:Nat):List Nat→List LV→List aZ→T (List LV×List aZ)
 | [],F,H=> .ok (F,H)
 |i::is,F,H=>match ops[i]? with
  |some o=>if o.guard.isNone&&fF G F tr n0 o then (Xh P G Γ ops i F H o).bind λq=>QG P G Γ ops tr n0 is (fV F o.dst q.1) q.2 else .no
  |none=> .no
def AY (o:Oper):Bool:=
 match o.op with
 | .move _=>true
 | .assign _=>true
 | .indexAddr ..=>true
 | .fieldAddr ..=>true
 | .extract ..=>true
 | .call {callee:=.builtin .max,..}=>true
 | .call {callee:=.builtin .min,..}=>true
 | .binOp op _ _ _ _=>(match op with
  | .add=>true
  | .sub=>true
  |_=>false)
 |_=>false
def JX (o:Oper):Bool:=
 match o.op with
 | .load ..=>true
 |_=>false
def agV (o:Oper):Bool:=
 match o.op with
 | .store ..=>true
 |_=>false
def azc (o:Oper):Bool:=
 match o.op with
 | .call {callee:=.builtin .append,..}=>true
 |_=>false
def NS (ops:Array Oper) (i j:Nat):Bool:=
 match ops[i]?,ops[j]? with
 |some x,some y=>x.guard.isNone&&y.guard.isNone&&((DN x&&QL ops j y) ||(QL ops i x&&DN y) ||(QL ops i x&&QL ops j y) ||((AY x ||JX x)&&(AY y ||JX y)) ||(AY x&&agV y) ||(agV x&&AY y) ||(QL ops i x&&azc y) ||(azc x&&QL ops j y))&&x.apart ops y
 |_,_=>false
def yH (i:Nat):List Nat→List Nat
 | []=>[]
 |j::js=>if j=i then [] else j::yH i js
def Ux (ops:Array Oper):Nat→List Nat→Array Bool→Bool
 |0,R,listed=>R.isEmpty&&(Region.ready .any ops listed).isEmpty
 |n+1,R,listed=>!(Region.ready .any ops listed).isEmpty&&(Region.ready .any ops listed).all λi=>R.contains i&&(yH i R).all (λj=>NS ops i j)&&Ux ops n (R.erase i) (listed.setIfInBounds i true)
def preB (ops:Array Oper) (i p:Nat):Bool:=
 match ops[i]? with
 |some o=>o.after.toList.any λe=>Region.binds .any e&&e.on==p
 |none=>false
def Uw (ops:Array Oper):List Nat→Bool
 | []=>true
 |j::R=>R.all (λi=>preB ops i j ||NS ops i j)&&Uw ops R
def aAS (ops:Array Oper) (R:List Nat) (listed:Array Bool):Bool:=R.all λi=>
 match ops[i]? with
 |some o=>o.after.toList.all λe=>!Region.binds .any e ||(listed.getD e.on false ||(yH i R).contains e.on)
 |none=>false
def aAg:List Nat→Bool
 | []=>true
 |x::l=>!l.contains x&&aAg l
def aG9 (ops:Array Oper) (R:List Nat) (listed:Array Bool):Bool:=
 aAg R&&(listed.size==ops.size&&((List.range ops.size).all (λi=>R.contains i==!listed.getD i true)&&(R.all (λi=>decide (i<ops.size))&&(Uw ops R&&aAS ops R listed))))
def arR (ops:Array Oper) (flags:List Bool):Bool:=
 G8 ops flags&&(aG9 ops (idxs true flags 0) (CB (idxs false flags 0) (Array.replicate ops.size false)) ||Ux ops (idxs true flags 0).length (idxs true flags 0) (CB (idxs false flags 0) (Array.replicate ops.size false)))
def lJ:aZ:=⟨[],0,.dead,false⟩
def Hq (P:Program) (G:dI) (F:List LV) (H:List aZ) (k:Nat) (o:Oper):T (LV×List aZ):=
 match o.op with
 | .alloc t=>match rZ P t with
  |some z=>match dU (.v z) with
   |some cs=> .ok (.own k 0,H.set k ⟨cs,t,.cl,false⟩)
   |none=> .no
  |none=> .no
 | .box t x=>match dU (aV G F x) with
  |some cs=> .ok (.own k 0,H.set k ⟨cs,t,.cl,false⟩)
  |none=> .no
 | .makeSlice t n c=>match Rh P t,pl (aV G F n),pl (aV G F c) with
  | some (e,ty,m,by_),some (.int .i64 n),some (.int .i64 c)=>match rZ P e with
   |some z=>match uS ty (z.cells.toList.map .v) with
    |some d=>if z.cells.size=m then .req (0≤n∧n≤c∧by_*c≤2^48∧c<2^63) (.ok (.os k m 0 n.toNat,H.set k ⟨[],e,.vec ty (List.replicate n.toNat d),false⟩)) else .no
    |none=> .no
   |none=> .no
  |_,_,_=> .no
 |_=> .no
def aqu (o:Oper):Bool:=
 match o.op with
 | .store ..=>true
 | .move _=>true
 | .assign _=>true
 | .build ..=>true
 |_=>false
def spa (P:Program) (G:dI) (Γ:Specs) (n0 i:Nat) (F:List LV) (H:List aZ) (o:Oper):T (LV×List aZ):=
 if yG o then Hq P G F H (n0+i) o else if aqu o then o6 P G Γ F H o else .no
def p2a (P:Program) (G:dI) (Γ:Specs) (ops:Array Oper) (tr:List Nat) (n0:Nat):List Nat→List LV→List aZ→T (List LV×List aZ)
 | [],F,H=> .ok (F,H)
 |i::is,F,H=>match ops[i]? with
  |some o=>if o.guard.isNone&&fF G F tr n0 o then (spa P G Γ n0 i F H o).bind λq=>p2a P G Γ ops tr n0 is (fV F o.dst q.1) q.2 else .no
  |none=> .no
def V9 (o:Oper):Bool:=
 match o.op with
 | .move _=>true
 | .assign _=>true
 |_=>false
def aiC (ops:Array Oper) (i j:Nat):Bool:=
 match ops[i]?,ops[j]? with
 |some x,some y=>!(i==j)&&x.guard.isNone&&y.guard.isNone&&(yG x ||V9 x)&&(yG y ||V9 y)&&x.apart ops y
 |_,_=>false
def aow (ops:Array Oper):Nat→List Nat→Array Bool→Bool
 |0,R,listed=>R.isEmpty&&(Region.ready .any ops listed).isEmpty
 |n+1,R,listed=>!(Region.ready .any ops listed).isEmpty&&(Region.ready .any ops listed).all λi=>R.contains i&&(yH i R).all (λj=>aiC ops i j)&&aow ops n (R.erase i) (listed.setIfInBounds i true)
def vS:List Nat→Bool
 | []=>true
 |k::ks=>!ks.contains k&&vS ks
def alx (ops:Array Oper) (flags:List Bool):Bool:=
 G8 ops flags&&vS (idxs true flags 0)&&(idxs true flags 0).all (λi=>decide (i<ops.size))&&aow ops (idxs true flags 0).length (idxs true flags 0) (CB (idxs false flags 0) (Array.replicate ops.size false))
def pux (P:Program) (G:dI) (Γ:Specs) (F:List LV) (o:Oper):T LV:=
 match o.op with
 | .move x=> .ok (aV G F x)
 | .assign x=> .ok (aV G F x)
 | .pick c a b=>agx (aV G F c) (aV G F a) (aV G F b)
 | .load t x=>(match aV G F x with
  | .xq m f=>zq P [] t (.xq m f)
  |_=> .no)
 | .fieldAddr s x i=>NP P s (aV G F x) i
 | .indexAddr t x i=>BU P t (aV G F x) (alp (aV G F i)) (aV G F i)
 | .build t parts=>Hl P t (parts.toList.map λq=>(q.1,IA G F q.2))
 | .buildSlice ..=>mkx P G Γ F o
 | .call {callee:=.value _,..}=>mkx P G Γ F o
 | .unOp ..=>vU P G F o
 | .binOp op _ _ _ _=>(match op with
  | .quo=> .no
  | .rem=> .no
  | .shl=> .no
  | .shr=> .no
  |_=>vU P G F o)
 |_=> .no
def aiy (P:Program) (G:dI) (Γ:Specs) (ops:Array Oper) (F:List LV) (H:List aZ):T (List LV×List aZ):=
 let tr:=tracked H ops.toList F
 let flags:=D7 (λo=>isSp P o ||aRp H ops.toList F tr o) [] ops.toList
 if aiF ops flags&&P.follows .mixedOrders&&tr.all (λk=>decide (k<H.length)) then
  (ug (uQ ops.toList) F H (YK P G Γ ops tr H (jc tr 0 H) flags ops.toList F)).bind λq=>p2x P G Γ ops tr H.length flags ops.toList q.1 H
 else if arR ops flags&&P.follows .mixedOrders&&tr.all (λk=>decide (k<H.length)) then
  (ug (uQ ops.toList) F H (YK P G Γ ops tr H (jc tr 0 H) flags ops.toList F)).bind λq=>QG P G Γ ops tr H.length (idxs true flags 0) q.1 H
 else if alx ops flags&&P.follows .mixedOrders&&tr.all (λk=>decide (k<H.length)) then
  (ug (uQ ops.toList) F H (YK P G Γ ops tr H (jc tr 0 H) flags ops.toList F)).bind λq=>p2a P G Γ ops tr H.length (idxs true flags 0) q.1 (H++List.replicate ops.size lJ)
 else .no
def afO (ops:List Oper) (s:Nat):Nat:=
 match ops.find? (λo=>o.dst==some s) with
 |some o=>match o.op with
  | .move (.tmp y)=>y
  |_=>s
 |none=>s
def isApp (o:Oper):Bool:=
 match o.op with
 | .call {callee:=.builtin .append,..}=>true
 |_=>false
def Ug (P:Program) (ops:List Oper) (F:List LV):Option (Nat×IntKind×Int×Nat):=
 if ops.any isApp then
  ops.findSome? λo=>match o.op with
   | .indexAddr t _ (.tmp s)=>match P.underlying t with
    |some (.array len e)=>match P.underlying e,F.getD (afO ops s) .junk with
     |some (.slice _),.v (.int k n)=>some (afO ops s,k,n,len)
     |_,_=>none
    |_=>none
   |_=>none
 else none
def splitN {α:Type}(f:Nat→T α) (n:Int):Nat→Nat→T α
 |0,_=> .no
 |1,j=>f j
 |m+2,j=> .br (n==(j:Int)) (f j) (splitN f n (m+1) (j+1))
def aix (P:Program) (G:dI) (Γ:Specs) (ops:Array Oper) (F:List LV) (H:List aZ):T (List LV×List aZ):=
 match Ug P ops.toList F with
 |some (s,k,n,len)=> .req (0≤n∧n<(len:Int)) (splitN (λj=>aiy P G Γ ops (F.set s (.ki k j)) H) n len 0)
 |none=>aiy P G Γ ops F H
def aC3 (P:Program) (G:dI) (Γ:Specs) (K:Hand) (ops:Array Oper) (F:List LV) (H:List aZ):T (List LV×List aZ):=aix P G Γ ops F H
def rQ:Code→Nat
 | .region id _ _=>id
 | .seq a _=>rQ a
 | .block _ b=>rQ b
 | .loop b=>rQ b
 | .cond _ a _=>rQ a
 |_=>0
abbrev F5:=Nat→List LV→List aZ→T (Ex×List LV×List aZ)
abbrev RH:=Code→List LV→List aZ→T (Ex×List LV×List aZ)
def alA (L:F5):RH:=λb=>L (rQ b)
def acD:Option aZ→Option Ex
 |some ⟨_,_,.ni _ _ _ .ready,false⟩=>some .normal
 |some ⟨_,_,.ni _ _ _ (.done x),false⟩=>match x with
  | .normal=>none
  |x=>some x
 |_=>none
def aEG:Operand→List Nat
 | .tmp t=>[t]
 |_=>[]
def oO:Code→List Nat
 | .region _ ops _=>ops.toList.flatMap λo=>o.op.operands.toList.flatMap aEG
 | .seq a b=>oO a++oO b
 | .cond c a b=>aEG c++oO a++oO b
 | .block _ b=>oO b
 | .loop b=>oO b
 | .rangeFunc f _ a b=>aEG f++oO a++oO b
 | .scope b=>oO b
 |_=>[]
def DK (us:List Nat) (F:List LV):List LV:=(List.range F.length).map λi=>if us.contains i then F.getD i .junk else .junk
def jC (P:Program) (G:dI) (Γ:Specs) (K:Hand) (L:RH):Code→List LV→List aZ→T (Ex×List LV×List aZ)
 | .skip,F,H=> .ok (.normal,F,H)
 | .ret,F,H=> .ok (.ret,F,H)
 | .exit n,F,H=> .ok (.exit n,F,H)
 | .region _ ops d,F,H=>(if d then aC3 P G Γ K ops F H else aGV P G Γ K ops F H).bind λq=> .ok (.normal,q.1,q.2)
 | .seq a b,F,H=>(jC P G Γ K L a F H).bind λq=>match q.1 with
  | .normal=>jC P G Γ K L b q.2.1 q.2.2
  |x=> .ok (x,q.2)
 | .cond c a b,F,H=>match c with
  | .tmp d=>match F.getD d .junk with
   | .bl true=>jC P G Γ K L a F H
   | .bl false=>jC P G Γ K L b F H
   | .v (.bool g)=> .br g (jC P G Γ K L a (F.set d (.bl true)) H) (jC P G Γ K L b (F.set d (.bl false)) H)
   |_=> .no
  | .const (.bool true)=>jC P G Γ K L a F H
  | .const (.bool false)=>jC P G Γ K L b F H
  |_=> .no
 | .block id a,F,H=>(jC P G Γ K L a F H).bind λq=>match q.1 with
  | .exit n=>if n=id then .ok (.normal,q.2) else .ok (.exit n,q.2)
  |x=> .ok (x,q.2)
 | .loop a,F,H=>L a F H
 | .scope a,F,H=>jC P G Γ K L a F H
 | .label _,F,H=> .ok (.normal,F,H)
 | .rangeFunc f ps asg body,F,H=>match aV G F f with
  | .fn g cap=>match P.funcs[g]? with
   | some fn=>if fn.body.isSome&&!(fn.name== "runtime.NumGoroutine") then
     (K.k g (.yt H.length::cap) (H++[⟨DK (oO asg++oO body) F,0,.ni ps asg body .ready,false⟩])).bind λq=>match acD q.2[H.length]? with
      |some x=> .ok (x,F,q.2.set H.length ⟨[],0,.dead,false⟩)
      |none=> .no
    else .no
   |none=> .no
  |_=> .no
 |_,_,_=> .no
def Qc (P:Program) (fn:Func) (F:List LV) (H:List aZ):List ResultVar→T (List LV)
 | []=> .ok []
 | .tmp t::rs=>(Qc P fn F H rs).bind λl=> .ok (norm (F.getD t .junk)::l)
 | .cell a t::rs=>(zq P H t (F.getD a .junk)).bind λy=>(Qc P fn F H rs).bind λl=> .ok (y::l)
def one (l:List LV):LV:=match l with| [x]=>x|l=>MS l
def azl (P:Program) (G:dI) (Γ:Specs) (K:Hand) (L:F5) (fn:Func) (args:List LV):T LV:=
 match fn.body with
 |some c=>(jC P G Γ K (alA L) c (args++List.replicate (fn.ntmps-args.length) (.v undef)) []).bind λq=>match q.1 with
  | .exit _=> .no
  |_=>(Qc P fn q.2.1 q.2.2 fn.results.toList).bind λl=>if noOwn (one l) then .ok (one l) else (gX q.2.2 8 (one l)).bind λ_=> .ok (su q.2.2 8 (one l))
 |none=> .no
def aW:List (FuncId×(List LV→T LV))→Specs
 | [],_=>none
 |p::ps,g=>if g=p.1 then some p.2 else aW ps g
def ay:F5:=λ_ _ _=> .no
def Ky:RH:=λ_ _ _=> .no
def BP:Code→Bool
 | .seq a b=>BP a&&BP b
 | .cond _ a b=>BP a&&BP b
 | .block _ b=>BP b
 | .loop b=>BP b
 | .rangeFunc ..=>false
 | .scope b=>BP b
 |_=>true
def TW (t:List LV→List aZ→T (Ex×List LV×List aZ)):Nat→List LV→List aZ→T (Ex×List LV×List aZ)
 |0,_,_=> .no
 |m+1,F,H=>(t F H).bind λq=>match q.1 with
  | .normal=>TW t m q.2.1 q.2.2
  |x=> .ok (x,q.2)
def ql (P:Program) (G:dI) (Γ:Specs) (K:Hand) (m:Nat):Nat→RH
 |0=>Ky
 |d+1=>λb=>TW (jC P G Γ K (ql P G Γ K m d) b) m
def Qz (F:List LV):List Tmp→List LV→List LV
 |t::ts,x::xs=>Qz (F.set t x) ts xs
 |_,_=>F
abbrev vK:=Hand→FuncId→Nat→RH
def Bd (P:Program) (G:dI) (Γ:Specs) (LL:vK) (K:Hand):Hand:=
 ⟨λg args H=>match P.funcs[g]? with
  | some fn=>match fn.body with
   |some c=>(jC P G Γ K (LL K g H.length) c (args++List.replicate (fn.ntmps-args.length) (.v undef)) H).bind λq=>match q.1 with
    | .exit _=> .no
    |_=>(Qc P fn q.2.1 q.2.2 fn.results.toList).bind λl=> .ok (one l,q.2.2)
   |none=> .no
  |none=> .no,
  λk args H=>match H[k]? with
  | some ⟨F,t,.ni ps asg body .ready,false⟩=>if args.length=ps.size∧BP asg=true∧BP body=true then
    (jC P G Γ K Ky asg (Qz F ps.toList args) H).bind λ(q:Ex×List LV×List aZ)=>match q.1 with
     | .normal=>(match q.2.2[k]? with
      | some ⟨F1,_,.ni ps1 asg1 body1 .ready,false⟩=>(jC P G Γ K (ql P G Γ K 20 2) body q.2.1 (q.2.2.set k ⟨F1,t,.ni ps1 asg1 body1 .busy,false⟩)).bind λ(r:Ex×List LV×List aZ)=>match r.2.2[k]? with
       |some ⟨F2,_,.ni ps2 asg2 body2 .busy,false⟩=>(match r.1 with
        | .normal=> .ok (.bl true,r.2.2.set k ⟨F2,t,.ni ps2 asg2 body2 .ready,false⟩)
        |x=> .ok (.bl false,r.2.2.set k ⟨F2,t,.ni ps2 asg2 body2 (.done x),false⟩))
       |_=> .no
      |_=> .no)
     |_=> .no
   else .no
  |_=> .no⟩
def inl (P:Program) (G:dI) (Γ:Specs) (LL:vK):Nat→Hand
 |0=>dR
 |d+1=>Bd P G Γ LL (inl P G Γ LL d)
abbrev Does:=FuncId→Option (List LV→List aZ→T (LV×List aZ))
def Wh (P:Program) (G:dI) (Γ:Specs) (LL:vK) (C:Does):Nat→Hand
 |0=>dR
 |d+1=>⟨λg args H=>match C g with
  |some m=>m args H
  |none=>(Bd P G Γ LL (Wh P G Γ LL C d)).k g args H,(Bd P G Γ LL (Wh P G Γ LL C d)).y⟩
structure Gz where
 z:Nat→Prop
 gh:List (LV×Value)
 vw:List Nat
variable {P : Program} {G : dI} {Γ : Specs} {β : Nat → Loc} {Z : Nat → Prop} {Z0 : Gz} {w w0 : World} {F : List LV} {H : List aZ} {a : Act} {ds : List Deferred}
theorem l7 {x:LV}{y z:Value}(h:pl x=some y) (hr:R β Z w x z):z=y:=by
 cases x with
 |v q=>simp only [pl,Option.some.injEq] at h;simp only [R] at hr;rw [hr,h]
 |bl b=>simp only [pl,Option.some.injEq] at h;simp only [R] at hr;rw [hr,h]
 |ki k n=>simp only [pl,Option.some.injEq] at h;simp only [R] at hr;rw [hr,h]
 | fn f l=>
  cases l with
  |nil=>
   simp only [pl,Option.some.injEq] at h;simp only [R,RL] at hr;obtain ⟨ys,h1,h2⟩:=hr
   have:ys=#[]:=by simpa using h2
   rw [h1,this,h]
  |cons _ _=>simp [pl] at h
 |_=>simp [pl] at h
theorem aN6 {x:LV}{y:Value}(h:pl x=some y):R β Z w x y:=by
 cases x with
 |v q=>simp only [pl,Option.some.injEq] at h;simp only [R];exact h.symm
 |bl b=>simp only [pl,Option.some.injEq] at h;simp only [R];exact h.symm
 |ki k n=>simp only [pl,Option.some.injEq] at h;simp only [R];exact h.symm
 |fn f l=>
  cases l with
  |nil=>simp only [pl,Option.some.injEq] at h;simp only [R,RL];exact ⟨#[],h.symm,rfl⟩
  |cons _ _=>simp [pl] at h
 |_=>simp [pl] at h
theorem anj:∀ {l:List LV}{ys zs:List Value},plL l=some ys→RL β Z w l zs→zs=ys
 | [],ys,zs,h,hr=>by simp only [plL,Option.some.injEq] at h;simp only [RL] at hr;rw [hr,h]
 | x::xs,ys,zs,h,hr=>by
  simp only [plL] at h;split at h
  ·rename_i y ys' h1 h2
   simp only [Option.some.injEq] at h;simp only [RL] at hr;obtain ⟨y',zs',e1,e2,e3⟩:=hr;rw [e1,l7 h1 e2,anj h2 e3,h]
  ·cases h
theorem vP {x:LV}{y:Value}(h:R β Z w x y):R β Z w (norm x) y:=by cases x<;>exact h
theorem vk {n:Nat}{x:LV}(h:okV n x):okV n (norm x):=by cases x<;>exact h
theorem UA:∀ {l:List LV}{ys:List Value},RL β Z w l ys→RL β Z w (l.map norm) ys
 | [],_,h=>by simpa only [List.map_nil,RL] using h
 |x::xs,ys,h=>by
  simp only [List.map_cons,RL] at h⊢;obtain ⟨y,zs,h1,h2,h3⟩:=h;exact ⟨y,zs,h1,vP h2,UA h3⟩
theorem Mc {n:Nat}:∀ {l:List LV},dQ n l→dQ n (l.map norm)
 | [],_=>trivial
 |x::xs,h=>by
  simp only [List.map_cons,dQ] at h⊢;exact ⟨vk h.1,Mc h.2⟩
theorem vz {l:List LV}{ys:Array Value}(h:RL β Z w l ys.toList):R β Z w (vC l) (.agg ys):=by
 unfold vC;split
 ·rename_i zs hz
  simp only [R]
  have:=anj hz h
  rw [←this]
 ·simp only [R];exact ⟨ys,rfl,UA h⟩
theorem VQ {l:List LV}{ys:Array Value}(h:RL β Z w l ys.toList):R β Z w (MS l) (.tuple ys):=by
 unfold MS;split
 ·rename_i zs hz
  simp only [R]
  have:=anj hz h
  rw [←this]
 ·simp only [R];exact ⟨ys,rfl,UA h⟩
theorem qL {n:Nat}{l:List LV}(h:dQ n l):okV n (vC l):=by
 unfold vC;split
 ·trivial
 ·simpa only [okV] using Mc h
theorem MR {n:Nat}{l:List LV}(h:dQ n l):okV n (MS l):=by
 unfold MS;split
 ·trivial
 ·simpa only [okV] using Mc h
theorem YN (n:Nat):∀(l:List Value),dQ n (l.map .v)
 | []=>trivial
 |_::xs=>⟨trivial,YN n xs⟩
theorem alI:∀(l:List Value),RL β Z w (l.map .v) l
 | []=>by simp [RL]
 |x::xs=>by simp only [List.map_cons,RL,R];exact ⟨x,xs,rfl,rfl,alI xs⟩
theorem Nb {x:LV}{y:Value}(h:GU x=true) (hr:R β Z w x y):GH y=true:=by
 cases x with
 |v q=>simp only [R] at hr;rw [hr];exact h
 |bl b=>simp only [R] at hr;rw [hr];rfl
 |ki k n=>simp only [R] at hr;rw [hr];rfl
 |own k off=>simp only [R] at hr;rw [hr];rfl
 |fn f l=>simp only [R] at hr;obtain ⟨ys,h1,_⟩:=hr;rw [h1];rfl
 |xq n f=>simp only [R] at hr;obtain ⟨b,off,h1,_⟩:=hr;rw [h1];rfl
 |os k es off n=>
  simp only [R] at hr;split at hr
  ·rw [hr.2.2];rfl
  ·obtain ⟨_,a,h1,_⟩:=hr;rw [h1];rfl
 |op k es i j=>simp only [R] at hr;rw [hr.2];rfl
 |om k=>simp only [R] at hr;rw [hr];rfl
 |mp kd ks vs=>simp only [R] at hr;obtain ⟨r,es,c,h1,_⟩:=hr;rw [h1];rfl
 |oc k es off n c=>simp only [R] at hr;obtain ⟨_,a,h1,_⟩:=hr;rw [h1];rfl
 |yt k=>simp only [R] at hr;rw [hr];rfl
 |xl e l=>simp only [R] at hr;obtain ⟨b,off,h1,_⟩:=hr;rw [h1];rfl
 |agg l=>simp [GU] at h
 |iU l=>simp [GU] at h
 |junk=>simp [GU] at h
theorem ak7 {y:Value}(h:GH y=true):y.cells=#[y]:=by cases y<;>first|rfl|(simp [GH] at h)
theorem Eb {x:LV}{y:Value}{cs:List LV}(h:dU x=some cs) (hr:R β Z w x y):RL β Z w cs y.cells.toList∧(∀z∈y.cells.toList,GH z=true):=by
 have single:∀x:LV,GU x=true→R β Z w x y→RL β Z w [x] y.cells.toList∧(∀z∈y.cells.toList,GH z=true):=λx hx hr=>by
  have h1:=Nb hx hr
  rw [ak7 h1];refine ⟨?_,?_⟩
  ·simp only [RL];exact ⟨y,[],rfl,hr,rfl⟩
  ·intro z hz
   have:z=y:=by simpa using hz
   rw [this];exact h1
 cases x with
 | v q=>
  simp only [dU] at h;split at h
  ·rename_i ha
   simp only [Option.some.injEq] at h;simp only [R] at hr;subst h hr;exact ⟨alI _,λz hz=>List.all_eq_true.1 ha z hz⟩
  ·cases h
 | agg l=>
  simp only [dU] at h;split at h
  ·rename_i ha
   simp only [Option.some.injEq] at h;simp only [R] at hr;obtain ⟨ys,h1,h2⟩:=hr;subst h h1;refine ⟨h2,λz hz=>?_⟩
   obtain ⟨i,hi,hz'⟩:=List.mem_iff_getElem.1 hz
   have hlen:=RL.length h2
   have hl:l[i]? =some (l[i]'(by simp only [Value.cells] at hi;omega)):=List.getElem?_eq_getElem _
   obtain ⟨y',e1,e2⟩:=RL.get i _ h2 hl
   have:y'=z:=by
    simp only [Value.cells] at hi hz';rw [List.getElem?_eq_getElem hi] at e1
    simpa [hz'] using e1.symm
   rw [←this];exact Nb (List.all_eq_true.1 ha _ (List.getElem_mem _)) e2
  ·cases h
 |bl b=>simp only [dU,Option.some.injEq] at h;subst h;exact single _ rfl hr
 |ki k n=>simp only [dU,Option.some.injEq] at h;subst h;exact single _ rfl hr
 |own k off=>simp only [dU,Option.some.injEq] at h;subst h;exact single _ rfl hr
 |fn f l=>simp only [dU,Option.some.injEq] at h;subst h;exact single _ rfl hr
 |xq n f=>simp only [dU,Option.some.injEq] at h;subst h;exact single _ rfl hr
 |os k es off n=>simp only [dU,Option.some.injEq] at h;subst h;exact single _ rfl hr
 |op k es i j=>simp only [dU,Option.some.injEq] at h;subst h;exact single _ rfl hr
 |om k=>simp only [dU,Option.some.injEq] at h;subst h;exact single _ rfl hr
 |mp kd ks vs=>simp only [dU,Option.some.injEq] at h;subst h;exact single _ rfl hr
 |oc k es off n c=>simp only [dU,Option.some.injEq] at h;subst h;exact single _ rfl hr
 |yt k=>simp only [dU,Option.some.injEq] at h;subst h;exact single _ rfl hr
 |xl e l=>simp only [dU,Option.some.injEq] at h;subst h;exact single _ rfl hr
 |iU l=>simp [dU] at h
 |junk=>simp [dU] at h
theorem AO {n:Nat}{x:LV}{cs:List LV}(h:dU x=some cs) (hr:okV n x):dQ n cs:=by
 cases x with
 |v q=>
  simp only [dU] at h;split at h
  ·simp only [Option.some.injEq] at h;subst h;exact YN _ _
  ·cases h
 |agg l=>
  simp only [dU] at h;split at h
  ·simp only [Option.some.injEq] at h;subst h;simpa only [okV] using hr
  ·cases h
 |bl b=>simp only [dU,Option.some.injEq] at h;subst h;exact ⟨hr,trivial⟩
 |ki k n=>simp only [dU,Option.some.injEq] at h;subst h;exact ⟨hr,trivial⟩
 |own k off=>simp only [dU,Option.some.injEq] at h;subst h;exact ⟨hr,trivial⟩
 |fn f l=>simp only [dU,Option.some.injEq] at h;subst h;exact ⟨hr,trivial⟩
 |xq n f=>simp only [dU,Option.some.injEq] at h;subst h;exact ⟨hr,trivial⟩
 |os k es off n=>simp only [dU,Option.some.injEq] at h;subst h;exact ⟨hr,trivial⟩
 |op k es i j=>simp only [dU,Option.some.injEq] at h;subst h;exact ⟨hr,trivial⟩
 |om k=>simp only [dU,Option.some.injEq] at h;subst h;exact ⟨hr,trivial⟩
 |mp kd ks vs=>simp only [dU,Option.some.injEq] at h;subst h;exact ⟨hr,trivial⟩
 |oc k es off n c=>simp only [dU,Option.some.injEq] at h;subst h;exact ⟨hr,trivial⟩
 |yt k=>simp only [dU,Option.some.injEq] at h;subst h;exact ⟨hr,trivial⟩
 |xl e l=>simp only [dU,Option.some.injEq] at h;subst h;exact ⟨trivial,trivial⟩
 |iU l=>simp [dU] at h
 |junk=>simp [dU] at h
def aaD (G:dI) (Z:Nat→Prop) (w:World):Prop:=∀g n f,G g=some (n,f)→Z g∧∀j,j<n→w.cell? ⟨g,j,none⟩=some (f j)
def okB (n:Nat) (b:aZ):Prop:=dQ n b.c∧(match b.k with| .mp _ _ vs=>dQ n vs|_=>True)
def live (β:Nat→Loc) (k:Nat) (b:aZ):Prop:=
 match b.k with
 | .cl=>True
 | .vec _ _=>(β k).cap≠none
 | .mp ..=>True
 | .ni ..=>True
 | .st ..=>True
 | .dead=>False
def arZ:Ex→Option Code
 | .normal=>none
 | .exit n=>some (.exit n)
 | .ret=>some .ret
def LsR:LS→Loop→Prop
 | .ready,r=>r.state=.ready∧r.pending=none
 | .busy,r=>r.state=.busy
 | .done x,r=>r.state=.done∧r.pending=arZ x
def gY (β:Nat→Loc) (Z:Nat→Prop) (w:World) (k:Nat) (b:aZ):Prop:=
 match b.k with
 | .cl=>∃cs,w.heap[(β k).b]? =some (.cells cs b.t (0,0))∧RL β Z w b.c cs.toList
 | .vec e l=>match (β k).cap with
  |none=>l=[]
  |some c=>∃cs,w.heap[(β k).b]? =some (.cells cs b.t (0,0))∧(β k).o+c*e.n≤cs.size∧List.length l≤c∧∀(i:Nat) (d:e.D),l[i]? =some d→RD Z w e d (β k).b ((β k).o+i*e.n)
 | .mp kd ks vs=>∃es clock,w.heap[(β k).b]? =some (.map es clock)∧es.toList.map (·.key)=ks.map (.int kd)∧RL β Z w vs (es.toList.map (·.val))
 | .ni ps asg body st=>∃r:Loop,w.heap[(β k).b]? =some (.loop r)∧r.params=ps∧r.assign=asg∧r.body=body∧LsR st r∧RL β Z w b.c r.tmps.toList
 | .st e l=>∃es clock,w.heap[(β k).b]? =some (.map es clock)∧es.toList.map (·.key)=List.map (aHO e) l∧∀x,x∈es.toList→x.val=.bool true
 | .dead=>True
abbrev kN (D:Nat):Deferred:={target:=.collected D,args:=#[]}
def rV (w:World) (D:Nat):Prop:=w.heap[D]? =some (.deferred (some []))
structure RW (G:dI) (w0:World) (Z0:Gz) (Z:Nat→Prop) (β:Nat→Loc) (H:List aZ) (w:World):Prop where
 below:Below w0.heap.size w0 w
 oN:∀b,Z b→b<w.heap.size
 wB:∀b,Z b→Z0.z b∨w0.heap.size≤b
 mX:∀k b,H[k]? =some b→live β k b→b.p=false→¬Z (β k).b
 yE:∀k b,H[k]? =some b→live β k b→b.p=true→Z (β k).b
 low:∀k b,H[k]? =some b→live β k b→w0.heap.size≤(β k).b
 inj:∀i j bi bj,H[i]? =some bi→H[j]? =some bj→live β i bi→live β j bj→bi.p=false→(β i).b=(β j).b→i=j
 blk:∀k b,H[k]? =some b→gY β Z w k b∧okB H.length b
 jJ:aaD G Z w
 gh:∀p,p∈Z0.gh→R β Z w p.1 p.2∧okV H.length p.1
 vw:∀D,D∈Z0.vw→Z D∧rV w D
structure RF (ds:List Deferred) (β:Nat→Loc) (Z:Nat→Prop) (w:World) (n:Nat) (F:List LV) (a:Act):Prop where
 size:a.tmps.size=F.length
 get:∀t x,F[t]? =some x→R β Z w x (a.tmps.getD t undef)∧okV n x
 defers:a.defers=ds∧∀d,d∈ds→∃D,d=kN D∧Z D∧rV w D
theorem RF.eval (hF:RF ds β Z w H.length F a) (hg:aaD G Z w) (x:Operand):R β Z w (aV G F x) (a.eval x)∧okV H.length (aV G F x):=by
 cases x with
 |tmp t=>
  simp only [aV,Act.eval];cases h:F[t]? with
  |none=>simp [List.getD,h,R,okV]
  |some y=>simp only [List.getD,h,Option.getD_some];exact hF.get t y h
 |const x=>
  simp only [aV,Act.eval];cases x<;>simp [R,okV]
 | global g=>
  simp only [aV,Act.eval];split
  ·rename_i n f h
   obtain ⟨h1,h2⟩:=hg g n f h;simp only [R,okV];refine ⟨⟨g,0,rfl,h1,λj hj=>⟨_,by rw [Nat.zero_add];exact h2 j hj,rfl⟩⟩,λ_=>trivial⟩
  ·simp [R,okV]
 |func f=>simp only [aV,Act.eval,R,RL,okV,dQ];exact ⟨⟨#[],rfl,rfl⟩,trivial⟩
theorem T.pick {α:Type}{K:α→Prop}:∀ {t:T α},t.all K→∃x,K x∧t.all (λy=>y=x)
 | .ok x,h=>⟨x,h,rfl⟩
 | .br b t e,h=>by
  cases b with
  |true=>obtain ⟨x,h1,h2⟩:=T.pick (h.1 rfl);exact ⟨x,h1,λ_=>h2,λhb=>by cases hb⟩
  |false=>obtain ⟨x,h1,h2⟩:=T.pick (h.2 rfl);exact ⟨x,h1,λhb=>(by cases hb),λ_=>h2⟩
 | .req p t,h=>by obtain ⟨x,h1,h2⟩:=T.pick h.2;exact ⟨x,h1,h.1,h2⟩
 | .no,h=>by cases h
theorem cell_of_block {b:Nat}{cs:Array Value}{t:TypeId}(h:w.heap[b]? =some (.cells cs t (0,0))) (o:Nat):w.cell? ⟨b,o,none⟩=cs[o]? :=by
 simp [World.cell?,h]
theorem JY {b:Nat}{cs:Array Value}{t:TypeId}(h:w.heap[b]? =some (.cells cs t (0,0))) (o:Nat):w.frozen? ⟨b,o,none⟩=false:=by
 simp [World.frozen?,h]
theorem addr_add (b o i:Nat):Addr.add ⟨b,o,none⟩ i=⟨b,o+i,none⟩:=by
 unfold Addr.add;split
 ·rename_i h;subst h;rfl
 ·rfl
theorem Ae {t:TypeId}{b:Bool}(h:alH P t=some b) (w:World):(isAgg t).run P w=.ok b w:=by
 unfold alH at h;cases hu:P.underlying t with
 |none=>simp [hu] at h
 |some d=>
  simp only [hu,Option.map_some,Option.some.injEq] at h;unfold isAgg;simp only [Sem.run_bind,run_underlying hu,Result.andThen_ok];cases d<;>simp_all
theorem run_sizeOf {t:TypeId}{n:Nat}(h:sD P t=some n) (w:World):(sizeOf t).run P w=.ok n w:=by
 unfold sD at h;cases hu:P.info? t with
 |none=>simp [hu] at h
 |some d=>
  simp only [hu,Option.map_some,Option.some.injEq] at h
  simp [sizeOf,typeInfo,hu,h]
theorem yV {t:TypeId}{z:Value}(h:rZ P t=some z) (w:World):(zeroValue t).run P w=.ok z w:=by
 unfold rZ at h;cases hu:P.info? t with
 |none=>simp [hu] at h
 |some d=>
  simp only [hu,Option.bind_some] at h
  simp [zeroValue,typeInfo,hu,h]
theorem RL.take_drop {l:List LV}{ys:List Value}(h:RL β Z w l ys) (off n:Nat):RL β Z w ((l.drop off).take n) ((ys.drop off).take n):=by
 have hl:=RL.length h
 refine RL.dO (by simp [hl]) λi x hx=>?_
 rw [List.getElem?_take] at hx⊢;split at hx
 ·rename_i hi
  rw [if_pos hi];rw [List.getElem?_drop] at hx⊢;exact RL.get _ _ h hx
 ·cases hx
theorem dQ.take_drop {n:Nat}{l:List LV}(h:dQ n l) (off m:Nat):dQ n ((l.drop off).take m):=by
 refine dQ.dO λi x hx=>?_
 rw [List.getElem?_take] at hx;split at hx
 ·rw [List.getElem?_drop] at hx;exact dQ.get _ _ h hx
 ·cases hx
theorem RF.mono {β':Nat→Loc}{Z':Nat→Prop}{w':World}{n m:Nat}(hF:RF ds β Z w n F a) (hn:n≤m) (hβ:∀k,k<n→β' k=β k) (hZ:∀b,Z b→Z' b)
  (hw:∀b,Z b→w'.heap[b]? =w.heap[b]?):RF ds β' Z' w' m F a:=
 ⟨hF.size,λt x hx=>⟨R.mono hβ hZ hw x _ (hF.get t x hx).2 (hF.get t x hx).1,okV.mono hn x (hF.get t x hx).2⟩,hF.defers.1,λd hd=>by
  obtain ⟨D,h1,h2,h3⟩:=hF.defers.2 d hd;exact ⟨D,h1,hZ D h2,by unfold rV;rw [hw D h2];exact h3⟩⟩
theorem okB.mono {n m:Nat}(h:n≤m) {b:aZ}(hb:okB n b):okB m b:=by
 unfold okB at*;refine ⟨dQ.mono h _ hb.1,?_⟩
 have:=hb.2
 split
 ·rename_i hk;rw [hk] at this;exact dQ.mono h _ this
 ·trivial
theorem l9 {β':Nat→Loc}{k:Nat}{b:aZ}(h:β' k=β k):live β' k b=live β k b:=by
 unfold live;rw [h]
theorem gY.keep {β':Nat→Loc}{Z':Nat→Prop}{w':World}{n k:Nat}{b:aZ}(hβ:∀k,k<n→β' k=β k) (hZ:∀b,Z b→Z' b) (hw:∀b,Z b→w'.heap[b]? =w.heap[b]?) (hk:β' k=β k)
  (hb:live β k b→w'.heap[(β k).b]? =w.heap[(β k).b]?) (hok:okB n b) (h:gY β Z w k b):gY β' Z' w' k b:=by
 unfold gY at*;unfold live at hb;unfold okB at hok;rw [hk];split at h
 ·rename_i hbk
  simp only [hbk] at hb⊢;obtain ⟨cs,h1,h2⟩:=h;exact ⟨cs,by rw [hb trivial];exact h1,RL.mono hβ hZ hw _ _ hok.1 h2⟩
 ·rename_i e l hbk
  simp only [hbk] at hb⊢;split at h
  ·rename_i hc
   first|exact h|(simp only [hc];exact h)
  ·rename_i c hc
   have hb':=hb (by rw [hc];simp)
   try simp only [hc]
   obtain ⟨cs,h1,h2,h3,h4⟩:=h;exact ⟨cs,by rw [hb'];exact h1,h2,h3,λi d hd=>RD.keep hZ hw e d _ _ hb' (h4 i d hd)⟩
 ·rename_i kd ks vs hbk
  simp only [hbk] at hb hok⊢;obtain ⟨es,clock,h1,h2,h3⟩:=h;exact ⟨es,clock,by rw [hb trivial];exact h1,h2,RL.mono hβ hZ hw _ _ hok.2 h3⟩
 ·rename_i ps asg body st hbk
  simp only [hbk] at hb hok⊢;obtain ⟨r,h1,h2,h3,h4,h5,h6⟩:=h;exact ⟨r,by rw [hb trivial];exact h1,h2,h3,h4,h5,RL.mono hβ hZ hw _ _ hok.1 h6⟩
 ·rename_i e l hbk
  simp only [hbk] at hb hok⊢;obtain ⟨es,clock,h1,h2,h3⟩:=h;exact ⟨es,clock,by rw [hb trivial];exact h1,h2,h3⟩
 ·rename_i hbk
  simp only
theorem RW.lt (hW:RW G w0 Z0 Z β H w) {k:Nat}{b:aZ}(hk:H[k]? =some b) (hl:live β k b):(β k).b<w.heap.size:=by
 have h:=(hW.blk k b hk).1
 unfold gY at h;unfold live at hl;split at h
 ·obtain ⟨cs,h1,_⟩:=h
  exact (Array.getElem?_eq_some_iff.1 h1).1
 ·rename_i hbk
  simp only [hbk] at hl;split at h
  ·rename_i hc;exact absurd hc hl
  ·obtain ⟨cs,h1,_⟩:=h
   exact (Array.getElem?_eq_some_iff.1 h1).1
 ·obtain ⟨es,clock,h1,_⟩:=h
  exact (Array.getElem?_eq_some_iff.1 h1).1
 ·obtain ⟨r,h1,_⟩:=h
  exact (Array.getElem?_eq_some_iff.1 h1).1
 ·obtain ⟨es,clock,h1,_⟩:=h
  exact (Array.getElem?_eq_some_iff.1 h1).1
 ·rename_i hbk
  simp only [hbk] at hl
theorem cu {w w':World}(hb:Below w.heap.size w w') {b:Nat}(h:b<w.heap.size):w'.heap[b]? =w.heap[b]? :=hb.block b h
theorem aaD.mono {Z':Nat→Prop}{w':World}(h:aaD G Z w) (hZ:∀b,Z b→Z' b) (hw:∀b,Z b→w'.heap[b]? =w.heap[b]?):aaD G Z' w':=λg n f hg=>by
 obtain ⟨h1,h2⟩:=h g n f hg;exact ⟨hZ _ h1,λj hj=>by rw [jH (hw g h1)];exact h2 j hj⟩
theorem RW.call {w':World}(hW:RW G w0 Z0 Z β H w) (hb:Below w.heap.size w w'):RW G w0 Z0 (λb=>Z b∨(w.heap.size≤b∧b<w'.heap.size)) β H w':=by
 have hs:=hb.size
 have h0:=hW.below.size
 have hw:∀b,Z b→w'.heap[b]? =w.heap[b]? :=λb hz=>cu hb (hW.oN b hz)
 refine ⟨hW.below.trans (hb.mono h0),λb hz=>?_,λb hz=>?_,λk b hk hl hp hz=>?_,λk b hk hl hp=> .inl (hW.yE k b hk hl hp),hW.low,hW.inj,λk b hk=>?_,hW.jJ.mono (λ_ h=> .inl h) hw,λp hp=>⟨R.mono (n:=H.length) (λ_ _=>rfl) (λ_ h=> .inl h) hw _ _ (hW.gh p hp).2 (hW.gh p hp).1,(hW.gh p hp).2⟩,λD hD=>⟨.inl (hW.vw D hD).1,by unfold rV;rw [hw D (hW.vw D hD).1];exact (hW.vw D hD).2⟩⟩
 ·rcases hz with hz|hz
  ·have:=hW.oN b hz;omega
  ·exact hz.2
 ·rcases hz with hz|hz
  ·exact hW.wB b hz
  ·exact .inr (by omega)
 ·rcases hz with hz|hz
  ·exact hW.mX k b hk hl hp hz
  ·have:=hW.lt hk hl;omega
 ·obtain ⟨h1,h2⟩:=hW.blk k b hk
  exact ⟨h1.keep (λ_ _=>rfl) (λ_ h=> .inl h) hw rfl (λhl=>cu hb (hW.lt hk hl)) h2,h2⟩
theorem RW.same {w':World}(hW:RW G w0 Z0 Z β H w) (hb:Below w.heap.size w w'):RW G w0 Z0 Z β H w':=by
 have hs:=hb.size
 have h0:=hW.below.size
 have hw:∀b,Z b→w'.heap[b]? =w.heap[b]? :=λb hz=>cu hb (hW.oN b hz)
 refine ⟨hW.below.trans (hb.mono h0),λb hz=>?_,hW.wB,hW.mX,hW.yE,hW.low,hW.inj,λk b hk=>?_,hW.jJ.mono (λ_ h=>h) hw,λp hp=>⟨R.mono (n:=H.length) (λ_ _=>rfl) (λ_ h=>h) hw _ _ (hW.gh p hp).2 (hW.gh p hp).1,(hW.gh p hp).2⟩,λD hD=>⟨(hW.vw D hD).1,by unfold rV;rw [hw D (hW.vw D hD).1];exact (hW.vw D hD).2⟩⟩
 ·have:=hW.oN b hz;omega
 ·obtain ⟨h1,h2⟩:=hW.blk k b hk
  exact ⟨h1.keep (λ_ _=>rfl) (λ_ h=>h) hw rfl (λhl=>cu hb (hW.lt hk hl)) h2,h2⟩
theorem RW.zI {ℓ:Loc}{nb:aZ}(hW:RW G w0 Z0 Z β H w) (hp:nb.p=false) (hok:okB (H.length+1) nb)
  (hf:live (λ_=>ℓ) 0 nb→¬Z ℓ.b∧w0.heap.size≤ℓ.b∧∀j bj,H[j]? =some bj→live β j bj→(β j).b≠ℓ.b)
  (hB:∀β':Nat→Loc,(∀k,k<H.length→β' k=β k)→β' H.length=ℓ→gY β' Z w H.length nb):
  ∃β',(∀k,k<H.length→β' k=β k)∧β' H.length=ℓ∧RW G w0 Z0 Z β' (H++[nb]) w:=by
 let β':Nat→Loc:=λk=>if k=H.length then ℓ else β k
 have hb':∀k,k<H.length→β' k=β k:=λk hk=>by simp only [β'];rw [if_neg (by omega)]
 have hbn:β' H.length=ℓ:=by simp [β']
 have hlive:live β' H.length nb=live (λ_=>ℓ) 0 nb:=by unfold live;rw [hbn]
 have old:∀k b,(H++[nb])[k]? =some b→(k<H.length∧H[k]? =some b∧β' k=β k)∨(k=H.length∧b=nb):=λk b h=>by
  by_cases hk:k<H.length
  ·rw [List.getElem?_append_left hk] at h;exact .inl ⟨hk,h,hb' k hk⟩
  ·have hkl:k=H.length:=by have:=(List.getElem?_eq_some_iff.1 h).1;simp at this;omega
   subst hkl
   simp at h
   exact .inr ⟨rfl,h.symm⟩
 refine ⟨β',hb',hbn,hW.below,hW.oN,hW.wB,λk b hk hl hp'=>?_,λk b hk hl hp'=>?_,λk b hk hl=>?_,λi j bi bj hi hj li lj hpi e=>?_,λk b hk=>?_,hW.jJ,λp hp=>⟨R.mono hb' (λ_ h=>h) (λ_ _=>rfl) _ _ (hW.gh p hp).2 (hW.gh p hp).1,okV.mono (by simp) _ (hW.gh p hp).2⟩,hW.vw⟩
 ·rcases old k b hk with ⟨h1,h2,h3⟩ |⟨rfl,rfl⟩
  ·rw [h3];rw [l9 h3] at hl;exact hW.mX k b h2 hl hp'
  ·rw [hbn];rw [hlive] at hl;exact (hf hl).1
 ·rcases old k b hk with ⟨h1,h2,h3⟩ |⟨rfl,rfl⟩
  ·rw [h3];rw [l9 h3] at hl;exact hW.yE k b h2 hl hp'
  ·rw [hp] at hp';cases hp'
 ·rcases old k b hk with ⟨h1,h2,h3⟩ |⟨rfl,rfl⟩
  ·rw [h3];rw [l9 h3] at hl;exact hW.low k b h2 hl
  ·rw [hbn];rw [hlive] at hl;exact (hf hl).2.1
 ·rcases old i bi hi with ⟨h1,h2,h3⟩ |⟨rfl,rfl⟩
  ·rw [l9 h3] at li
   rcases old j bj hj with ⟨g1,g2,g3⟩ |⟨rfl,rfl⟩
   ·rw [l9 g3] at lj;rw [h3,g3] at e;exact hW.inj i j bi bj h2 g2 li lj hpi e
   ·rw [hlive] at lj;rw [h3,hbn] at e;exact absurd e ((hf lj).2.2 i bi h2 li)
  ·rw [hlive] at li
   rcases old j bj hj with ⟨g1,g2,g3⟩ |⟨rfl,rfl⟩
   ·rw [l9 g3] at lj;rw [hbn,g3] at e;exact absurd e.symm ((hf li).2.2 j bj g2 lj)
   ·rfl
 ·have hlen:(H++[nb]).length=H.length+1:=by simp
  rw [hlen];rcases old k b hk with ⟨h1,h2,h3⟩ |⟨rfl,rfl⟩
  ·obtain ⟨g1,g2⟩:=hW.blk k b h2
   exact ⟨g1.keep hb' (λ_ h=>h) (λ_ _=>rfl) h3 (λ_=>rfl) g2,g2.mono (by omega)⟩
  ·exact ⟨hB β' hb' hbn,hok⟩
theorem RW.set {w':World}{k:Nat}{b nb:aZ}(hW:RW G w0 Z0 Z β H w) (hk:H[k]? =some b) (hl:live β k b) (hp:b.p=false) (hnp:nb.p=false) (hok:okB H.length nb)
  (hsz:w'.heap.size=w.heap.size) (hos:w'.os=w.os∧w'.tape=w.tape∧w'.output=w.output) (hne:∀j,j≠(β k).b→w'.heap[j]? =w.heap[j]?) (hB:gY β Z w' k nb):RW G w0 Z0 Z β (H.set k nb) w':=by
 have hkl:k<H.length:=(List.getElem?_eq_some_iff.1 hk).1
 have hw:∀b',Z b'→w'.heap[b']? =w.heap[b']? :=λb' hz=>hne b' (λe=>hW.mX k b hk hl hp (e▸hz))
 have old:∀i bi,(H.set k nb)[i]? =some bi→(i=k∧bi=nb)∨(i≠k∧H[i]? =some bi):=λi bi h=>by
  rw [List.getElem?_set] at h;split at h
  ·rename_i e
   simp only [Option.some.injEq] at h;exact .inl ⟨e.symm,h.symm⟩
  ·rename_i e;exact .inr ⟨λx=>e x.symm,h⟩
 refine ⟨?_,λb' hz=>by rw [hsz];exact hW.oN b' hz,hW.wB,λi bi hi li pi=>?_,λi bi hi li pi=>?_,λi bi hi li=>?_,λi j bi bj hi hj li lj pi e=>?_,λi bi hi=>?_,hW.jJ.mono (λ_ h=>h) hw,λp hp=>⟨R.mono (n:=H.length) (λ_ _=>rfl) (λ_ h=>h) hw _ _ (hW.gh p hp).2 (hW.gh p hp).1,by simpa using (hW.gh p hp).2⟩,λD hD=>⟨(hW.vw D hD).1,by unfold rV;rw [hw D (hW.vw D hD).1];exact (hW.vw D hD).2⟩⟩
 ·refine hW.below.trans ⟨hos.1,hos.2.1,hos.2.2,Nat.le_of_eq hsz.symm,λi hi=>hne i ?_⟩
  have:=hW.low k b hk hl
  omega
 ·rcases old i bi hi with ⟨rfl,rfl⟩ |⟨h1,h2⟩
  ·exact hW.mX _ b hk hl hp
  ·exact hW.mX i bi h2 li pi
 ·rcases old i bi hi with ⟨rfl,rfl⟩ |⟨h1,h2⟩
  ·rw [hnp] at pi;cases pi
  ·exact hW.yE i bi h2 li pi
 ·rcases old i bi hi with ⟨rfl,rfl⟩ |⟨h1,h2⟩
  ·exact hW.low _ b hk hl
  ·exact hW.low i bi h2 li
 ·rcases old i bi hi with ⟨rfl,rfl⟩ |⟨h1,h2⟩
  ·rcases old j bj hj with ⟨rfl,rfl⟩ |⟨g1,g2⟩
   ·rfl
   ·exact hW.inj _ j b bj hk g2 hl lj hp e
  ·rcases old j bj hj with ⟨rfl,rfl⟩ |⟨g1,g2⟩
   ·exact hW.inj i _ bi b h2 hk li hl pi e
   ·exact hW.inj i j bi bj h2 g2 li lj pi e
 ·rw [List.length_set]
  rcases old i bi hi with ⟨rfl,rfl⟩ |⟨h1,h2⟩
  ·exact ⟨hB,hok⟩
  ·obtain ⟨g1,g2⟩:=hW.blk i bi h2
   refine ⟨g1.keep (λ_ _=>rfl) (λ_ h=>h) hw rfl (λli=>hne _ λe=>?_) g2,g2⟩
   exact h1 (hW.inj k i b bi hk h2 hl li hp e.symm).symm
theorem RW.alloc {cs:List LV}{vs:Array Value}{t:TypeId}(hW:RW G w0 Z0 Z β H w) (hr:RL β Z w cs vs.toList) (hk:dQ H.length cs):
  ∃β',(∀k,k<H.length→β' k=β k)∧(β' H.length).b=w.heap.size∧RW G w0 Z0 Z β' (H++[⟨cs,t,.cl,false⟩]) (w.alloc (.cells vs t))∧(∀b,Z b→(w.alloc (.cells vs t)).heap[b]? =w.heap[b]?):=by
 have hbw:Below w.heap.size w (w.alloc (.cells vs t)):=(Below.refl _ _).alloc (Nat.le_refl _) _
 have hw:∀b,Z b→(w.alloc (.cells vs t)).heap[b]? =w.heap[b]? :=λb hz=>cu hbw (hW.oN b hz)
 obtain ⟨β',h1,h2,h3⟩:=(hW.same hbw).zI (ℓ:=⟨w.heap.size,0,none⟩) (nb:=⟨cs,t,.cl,false⟩) rfl ⟨dQ.mono (by omega) _ hk,trivial⟩ (λ_=>⟨λhz=>by have:=hW.oN _ hz;simp only at this;omega,hW.below.size,λj bj hj lj e=>by have:=hW.lt hj lj;simp only at e;omega⟩) (λβ' h1 h2=>by
  simp only [gY,h2];refine ⟨vs,?_,RL.mono h1 (λ_ h=>h) hw _ _ hk hr⟩
  show (w.heap.push _)[w.heap.size]? =_
  simp)
 exact ⟨β',h1,by rw [h2],h3,hw⟩
def GN (β:Nat→Loc) (H:List aZ) (ks:List Nat):List Nat:=(ks.filter (λk=>@decide (∃b,H[k]? =some b∧live β k b∧b.p=false) (Classical.propDecidable _))).map λk=>(β k).b
theorem DJ {ks:List Nat}{x:Nat}:x∈GN β H ks↔∃k b,k∈ks∧H[k]? =some b∧live β k b∧b.p=false∧x=(β k).b:=by
 unfold GN;simp only [List.mem_map,List.mem_filter]
 constructor
 ·rintro ⟨k,⟨h1,h2⟩,h3⟩
  obtain ⟨b,h4,h5,h6⟩:=@of_decide_eq_true _ (Classical.propDecidable _) h2;exact ⟨k,b,h1,h4,h5,h6,h3.symm⟩
 ·rintro ⟨k,b,h1,h2,h3,h4,h5⟩
  exact ⟨k,⟨h1,@decide_eq_true _ (Classical.propDecidable _) ⟨b,h2,h3,h4⟩⟩,h5.symm⟩
theorem Az {k:Nat}{b:aZ}(hb:H[k]? =some b) (hl:live β k b) (hp:b.p=false):(β k).b∈GN β H [k]:=DJ.2 ⟨k,b,by simp,hb,hl,hp,rfl⟩
end Go.Sx
namespace Go.Sx
open Go.Proofs.YtlihnbimgclogaaGreatDoor
open Go Go.RowKit
variable {P : Program} {G : dI} {Γ : Specs} {β : Nat → Loc} {Z : Nat → Prop} {Z0 : Gz} {w w0 : World} {F : List LV} {H : List aZ} {a : Act}
theorem RD.cells {Z Z':Nat→Prop}{w w':World}(hZ:∀b,Z b→Z' b) (hw:∀b,Z b→w'.heap[b]? =w.heap[b]?):
  ∀(t:Ty) (d:t.D) (b o:Nat),(∀j,j<t.n→w'.cell? ⟨b,o+j,none⟩=w.cell? ⟨b,o+j,none⟩)→RD Z w t d b o→RD Z' w' t d b o
 | .int _,_,b,o,hb,h=>by simp only [RD] at*;rw [←h];exact hb 0 (by simp [Ty.n])
 | .bool,_,b,o,hb,h=>by simp only [RD] at*;rw [←h];exact hb 0 (by simp [Ty.n])
 | .str,_,b,o,hb,h=>by simp only [RD] at*;rw [←h];exact hb 0 (by simp [Ty.n])
 | .sl e,l,b,o,hb,h=>by
  simp only [RD] at*;obtain ⟨a,cap,h1,h2,h3⟩:=h;refine ⟨a,cap,by rw [←h1];exact hb 0 (by simp [Ty.n]),h2,λhn=>?_⟩
  obtain ⟨b',o',h4,h5,h6⟩:=h3 hn;exact ⟨b',o',h4,hZ _ h5,λi d hd=>RD.mono hZ hw e d b' _ h5 (h6 i d hd)⟩
 | .pair x y,d,b,o,hb,h=>by
  simp only [RD] at*;refine ⟨RD.cells hZ hw x d.1 b o (λj hj=>hb j (by simp only [Ty.n];omega)) h.1,RD.cells hZ hw y d.2 b _ (λj hj=>?_) h.2⟩
  have:=hb (x.n+j) (by simp only [Ty.n];omega)
  rwa [←Nat.add_assoc] at this
theorem getD_lt {l:List LV}{j:Nat}(h:j<l.length):l[j]? =some (l.getD j .junk):=by simp only [List.getD,List.getElem?_eq_getElem h,Option.getD_some]
theorem KG {n:Nat}{l:List LV}(h:dQ n l) (j:Nat):okV n (l.getD j .junk):=by
 cases hq:l[j]? with
 |none=>simp [List.getD,hq,okV]
 |some q=>simp only [List.getD,hq,Option.getD_some];exact dQ.get _ _ h hq
theorem getD_at {e:Ty}{l:List e.D}{i:Nat}(h:i<List.length l):l[i]? =some (l.getD i e.dflt):=by simp only [List.getD,List.getElem?_eq_getElem h,Option.getD_some]
theorem MZ {b off n:Nat}{L:List LV}(hL:L.length=n) (hc:∀q,q<n→∃z,w.cell? ⟨b,off+q,none⟩=some z∧R β Z w (L.getD q .junk) z):
  ∃zs:List Value,zs.length=n∧RL β Z w L zs∧∀w':World,w'.heap[b]? =w.heap[b]? →(loadCells ⟨b,off,none⟩ n).run P w'=.ok zs.toArray w':=by
 have hch:∀j,∃z,j<n→w.cell? ⟨b,off+j,none⟩=some z∧R β Z w (L.getD j .junk) z:=λj=>by
  by_cases hj:j<n
  ·obtain ⟨z,hz⟩:=hc j hj;exact ⟨z,λ_=>hz⟩
  ·exact ⟨undef,λh=>absurd h hj⟩
 obtain ⟨g,hg⟩:=Classical.axiomOfChoice hch;refine ⟨(List.range n).map g,by simp,RL.dO (by simp [hL]) λi x hx=>?_,λw' hw'=>?_⟩
 ·have hi:i<n:=by have:=(List.getElem?_eq_some_iff.1 hx).1;omega
  refine ⟨g i,by simp [hi],?_⟩
  have:x=L.getD i .junk:=by simp [List.getD,hx]
  rw [this];exact (hg i hi).2
 ·have hld:=run_loadCells (P:=P) w' ⟨b,off,none⟩ n g (λj hj=>by rw [addr_add,jH (w:=w) (w':=w') hw'];exact (hg j hj).1)
  simpa using hld
theorem vF {t:TypeId}{x lv:LV}{y:Value}(hW:RW G w0 Z0 Z β H w) (h:(zq P H t x).all (λz=>z=lv)) (hr:R β Z w x y) (hk:okV H.length x):
  ∃z,(∀w',(∀b,(Z b∨∃k,k∈owns x∧b=(β k).b)→w'.heap[b]? =w.heap[b]?)→(Instr.loadAt t y).run P w'=.ok z w')∧R β Z w lv z∧okV H.length lv:=by
 have ownCl:∀(k:Nat) (b:aZ),H[k]? =some b→b.rO=true→∃cs,w.heap[(β k).b]? =some (.cells cs b.t (0,0))∧RL β Z w b.c cs.toList∧dQ H.length b.c:=λk b hb hc=>by
  obtain ⟨h1,h2⟩:=hW.blk k b hb;unfold gY at h1;unfold aZ.rO at hc;split at hc
  ·rename_i hk'
   simp only [hk'] at h1;obtain ⟨cs,h3,h4⟩:=h1;exact ⟨cs,h3,h4,h2.1⟩
  ·cases hc
 have vecAt:∀(k es i:Nat) (c:List LV) (t:TypeId) (e:Ty) (l:List e.D) (p:Bool),H[k]? =some ⟨c,t,.vec e l,p⟩→(β k).cap≠none→e.n=es→i<List.length l→∀q,q<es→∃z,w.cell? ⟨(β k).b,(β k).o+i*es+q,none⟩=some z∧R β Z w ((iq e (l.getD i e.dflt)).getD q .junk) z:=λk es i c t e l p hb hcap hes hi q hq=>by
  have h1:=(hW.blk k _ hb).1
  simp only [gY] at h1;split at h1
  ·rename_i hc;exact absurd hc hcap
  ·obtain ⟨cs,_,_,_,h4⟩:=h1
   have h5:=h4 i _ (getD_at hi)
   subst hes;exact He e _ _ _ h5 q _ (getD_lt (by rw [dM];exact hq))
 unfold zq at h;split at h
 ·rename_i n hag hsz
  have e1:=λw=>Ae hag w
  have e2:=λw=>run_sizeOf hsz w
  split at h
  ·rename_i k off
   split at h
   ·rename_i b hb
    split at h
    ·rename_i hle
     simp only [T.all] at h;obtain ⟨cs,hc,hrl,hok⟩:=ownCl k b hb hle.1;simp only [R] at hr
     have hlen:=RL.length hrl
     have hn:((b.c.drop off).take n).length=n:=by simp;omega
     obtain ⟨zs,f1,f2,f3⟩:=MZ (P:=P) (β:=β) (Z:=Z) (w:=w) (b:=(β k).b) (off:=off) (L:=(b.c.drop off).take n) hn (λq hq=>by
      have hlt:off+q<b.c.length:=by omega
      obtain ⟨z,h1,h2⟩:=RL.get _ _ hrl (List.getElem?_eq_getElem hlt);refine ⟨z,by rw [cell_of_block hc];simpa using h1,?_⟩
      have:((b.c.drop off).take n).getD q .junk=b.c[off+q]:=by
       simp [List.getD,hq,List.getElem?_drop,List.getElem?_eq_getElem hlt]
      rw [this];exact h2)
     refine ⟨.agg zs.toArray,λw' hw'=>?_,?_,?_⟩
     ·have:=f3 w' (hw' (β k).b (.inr ⟨k,by simp [owns],rfl⟩))
      simp [Instr.loadAt,Instr.sureAddr,hr,loadVar,e1,e2,this]
     ·rw [←h];exact vz (by simpa using f2)
     ·rw [←h];exact qL (hok.take_drop off n)
    ·cases h
   ·cases h
  ·rename_i m f
   split at h
   ·rename_i hle
    simp only [T.all] at h;simp only [R] at hr;obtain ⟨b,off,e3,hz,e4⟩:=hr;simp only [okV] at hk
    obtain ⟨zs,f1,f2,f3⟩:=MZ (P:=P) (β:=β) (Z:=Z) (w:=w) (b:=b) (off:=off) (L:=(List.range n).map f) (n:=n) (by simp) (λq hq=>by
     obtain ⟨z,h1,h2⟩:=e4 q (by omega)
     exact ⟨z,h1,by simpa [List.getD,hq] using h2⟩)
    refine ⟨.agg zs.toArray,λw' hw'=>?_,?_,?_⟩
    ·have:=f3 w' (hw' b (.inl hz))
     simp [Instr.loadAt,Instr.sureAddr,e3,loadVar,e1,e2,this]
    ·rw [←h];exact vz (by simpa using f2)
    ·rw [←h]
     refine qL (dQ.dO λi x hx=>?_)
     have hi:i<n:=by have:=(List.getElem?_eq_some_iff.1 hx).1;simpa using this
     have:x=f i:=by simpa [hi] using hx.symm
     rw [this];exact okV.mono (Nat.zero_le _) _ (hk i)
   ·cases h
  ·rename_i k es i j
   split at h
   ·rename_i c t' e l p hb
    split at h
    ·rename_i hle
     simp only [T.all] at h;obtain ⟨hi,h⟩:=h;simp only [R] at hr
     have hva:=vecAt k es i c t' e l p hb hr.1 hle.1 hi
     have hlen:(iq e (l.getD i e.dflt)).length=es:=by rw [dM];exact hle.1
     obtain ⟨zs,f1,f2,f3⟩:=MZ (P:=P) (β:=β) (Z:=Z) (w:=w) (b:=(β k).b) (off:=(β k).o+i*es+j) (L:=((iq e (l.getD i e.dflt)).drop j).take n) (n:=n) (by rw [List.length_take,List.length_drop,hlen];omega) (λq hq=>by
      obtain ⟨z,h1,h2⟩:=hva (j+q) (by omega)
      refine ⟨z,by rw [Nat.add_assoc _ j q];exact h1,?_⟩
      have:(((iq e (l.getD i e.dflt)).drop j).take n).getD q .junk=(iq e (l.getD i e.dflt)).getD (j+q) .junk:=by
       generalize iq e (l.getD i e.dflt)=L;simp only [List.getD,List.getElem?_take,hq,if_true,List.getElem?_drop]
      rw [this];exact h2)
     refine ⟨.agg zs.toArray,λw' hw'=>?_,?_,?_⟩
     ·have:=f3 w' (hw' (β k).b (.inr ⟨k,by simp [owns],rfl⟩))
      simp [Instr.loadAt,Instr.sureAddr,hr.2,loadVar,e1,e2,this]
     ·rw [←h];exact vz (by simpa using f2)
     ·rw [←h];exact qL ((qF _ e _).take_drop j n)
    ·cases h
   ·cases h
  ·cases h
 ·rename_i _ hag
  have e1:=λw=>Ae hag w
  split at h
  ·rename_i k off
   split at h
   ·rename_i b hb
    split at h
    ·rename_i hcl
     split at h
     ·rename_i z hz
      simp only [T.all] at h;obtain ⟨cs,hc,hrl,hok⟩:=ownCl k b hb hcl;simp only [R] at hr;obtain ⟨q,h1,h2⟩:=RL.get _ _ hrl hz;refine ⟨q,λw' hw'=>?_,?_,?_⟩
      ·have:w'.cell? ⟨(β k).b,off,none⟩=some q:=by rw [cell_of_block (by rw [hw' (β k).b (.inr ⟨k,by simp [owns],rfl⟩)];exact hc)];simpa using h1
       simp [Instr.loadAt,Instr.sureAddr,hr,loadVar,e1,this]
      ·rw [←h];exact h2
      ·rw [←h];exact dQ.get _ _ hok hz
     ·cases h
    ·cases h
   ·cases h
  ·rename_i m f
   split at h
   ·rename_i hm
    simp only [T.all] at h;simp only [R] at hr;obtain ⟨b,off,e3,hz,e4⟩:=hr;obtain ⟨z,h1,h2⟩:=e4 0 hm;refine ⟨z,λw' hw'=>?_,?_,?_⟩
    ·have:w'.cell? ⟨b,off,none⟩=some z:=by rw [jH (w:=w) (w':=w') (hw' b (.inl hz))];simpa using h1
     simp [Instr.loadAt,Instr.sureAddr,e3,loadVar,e1,this]
    ·rw [←h];exact h2
    ·rw [←h];simp only [okV] at hk;exact okV.mono (Nat.zero_le _) _ (hk 0)
   ·cases h
  ·rename_i k es i j
   split at h
   ·rename_i c t' e l p hb
    split at h
    ·rename_i hes
     simp only [T.all] at h;obtain ⟨hi,h⟩:=h;split at h
     ·rename_i q hq
      simp only [T.all] at h;simp only [R] at hr
      have hj:j<es:=by
       have:=(List.getElem?_eq_some_iff.1 hq).1
       rw [dM] at this;omega
      obtain ⟨z,h1,h2⟩:=vecAt k es i c t' e l p hb hr.1 hes hi j hj
      have hqq:(iq e (l.getD i e.dflt)).getD j .junk=q:=Option.some.inj ((getD_lt (List.getElem?_eq_some_iff.1 hq).1).symm.trans hq)
      rw [hqq] at h2;refine ⟨z,λw' hw'=>?_,?_,?_⟩
      ·have:w'.cell? ⟨(β k).b,(β k).o+i*es+j,none⟩=some z:=by rw [jH (w:=w) (w':=w') (hw' (β k).b (.inr ⟨k,by simp [owns],rfl⟩))];exact h1
       simp [Instr.loadAt,Instr.sureAddr,hr.2,loadVar,e1,this]
      ·rw [←h];exact h2
      ·rw [←h];exact dQ.get _ _ (qF _ e _) hq
     ·cases h
    ·cases h
   ·cases h
  ·cases h
 ·cases h
end Go.Sx
namespace Go.Sx
open Go.Proofs.YtlihnbimgclogaaGreatDoor
open Go Go.RowKit
variable {P : Program} {G : dI} {Γ : Specs} {β : Nat → Loc} {Z : Nat → Prop} {Z0 : Gz} {w w0 : World} {F : List LV} {H : List aZ} {a : Act}
theorem L6 {z:Value}(h:GH z=true):z.oneCell'=true:=by cases z<;>first|rfl|(simp [GH] at h)
theorem Dn (w:World) (g:Nat) (cs:Array Value) (k:Nat) (h:k≠g):(w.setRow g cs).heap[k]? =w.heap[k]? :=by
 simp only [World.setRow,Array.getElem?_modify];rw [if_neg (by omega)]
theorem RL.app:∀ {a b:List LV}{c d:List Value},RL β Z w a c→RL β Z w b d→RL β Z w (a++b) (c++d)
 | [],_,_,_,h,h'=>by simp only [RL] at h;subst h;simpa using h'
 |x::xs,_,_,d,h,h'=>by
  simp only [RL] at h;obtain ⟨y,zs,rfl,h3,h4⟩:=h;simp only [List.cons_append,RL];exact ⟨y,zs++d,rfl,h3,RL.app h4 h'⟩
theorem RL.drop {l:List LV}{ys:List Value}(h:RL β Z w l ys) (n:Nat):RL β Z w (l.drop n) (ys.drop n):=by
 refine RL.dO (by simp [RL.length h]) λi z hz=>?_
 rw [List.getElem?_drop] at hz⊢;exact RL.get _ _ h hz
theorem RL.take {l:List LV}{ys:List Value}(h:RL β Z w l ys) (n:Nat):RL β Z w (l.take n) (ys.take n):=by simpa using h.take_drop 0 n
theorem RL.setAt {l cs:List LV}{ys zs:List Value}(h1:RL β Z w l ys) (h2:RL β Z w cs zs) (off:Nat):RL β Z w (setAt l off cs) (ys.take off++zs++ys.drop (off+zs.length)):=by
 have e2:=RL.length h2
 unfold Sx.setAt;rw [e2];exact RL.app (RL.app (h1.take off) h2) (h1.drop _)
theorem dQ.append {n:Nat}:∀ {a b:List LV},dQ n a→dQ n b→dQ n (a++b)
 | [],_,_,h=>h
 |_::_,_,h,h'=>⟨h.1,dQ.append h.2 h'⟩
theorem dQ.drop {n:Nat}{l:List LV}(h:dQ n l) (m:Nat):dQ n (l.drop m):=by
 refine dQ.dO λi x hx=>?_
 rw [List.getElem?_drop] at hx;exact dQ.get _ _ h hx
theorem dQ.setAt {n:Nat}{l cs:List LV}(h1:dQ n l) (h2:dQ n cs) (off:Nat):dQ n (setAt l off cs):=by
 unfold Sx.setAt;refine dQ.append (dQ.append ?_ h2) (h1.drop _)
 have:=h1.take_drop 0 off;simpa using this
theorem DT {α:Type}{f:LV→Option α}{l:List LV}{d:α}(h:hd1 f l=some d):∃x,l=[x]∧f x=some d:=by
 unfold hd1 at h;split at h
 ·exact ⟨_,rfl,h⟩
 ·cases h
theorem aAu {a b:Ty}(h:a=b) (l:List a.D) {y:Value}:R β Z w (.xl b (Ec h l)) y↔R β Z w (.xl a l) y:=by subst h;rfl
theorem adh {e:Ty}{x:LV}{l:List e.D}{y:Value}(h:Zu e x=some l) (hr:R β Z w x y):R β Z w (.xl e l) y:=by
 unfold Zu at h;split at h
 ·split at h
  ·rename_i q h'
   simp only [Option.some.injEq] at h;subst h;exact (aAu q _).2 hr
  ·cases h
 ·simp only [Option.some.injEq] at h
  subst h;simp only [R] at hr⊢;exact ⟨none,0,hr,Nat.le_refl _,λh=>absurd h (Nat.lt_irrefl 0)⟩
 ·cases h
theorem adi {Z':Nat→Prop}{w':World}(hZ:∀b,Z b→Z' b) (hw:∀b,Z b→w'.heap[b]? =w.heap[b]?):∀(t:Ty) (cs:List LV) (d:t.D) (ys:List Value),uS t cs=some d→RL β Z w cs ys→∀(b o:Nat),(∀(j:Nat) v,ys[j]? =some v→w'.cell? ⟨b,o+j,none⟩=some v)→RD Z' w' t d b o:=by
 have one:∀ {l:List LV} {ys:List Value} {x:LV},l=[x]→RL β Z w l ys→∀ {b o:Nat},(∀(j:Nat) v,ys[j]? =some v→w'.cell? ⟨b,o+j,none⟩=some v)→∃y,R β Z w x y∧w'.cell? ⟨b,o,none⟩=some y:=by
  intro l ys x hl hr b o hc;subst hl;simp only [RL] at hr;obtain ⟨y,zs,rfl,h1,_⟩:=hr;exact ⟨y,h1,hc 0 y rfl⟩
 intro t
 induction t with
 | int k=>
  intro cs d ys h hr b o hc;simp only [uS] at h;obtain ⟨x,hl,hx⟩:=DT h;obtain ⟨y,h1,h2⟩:=one hl hr hc;simp only [RD];rw [h2];unfold aIJ at hx;split at hx
  ·split at hx
   ·rename_i hk;subst hk;simp only [Option.some.injEq] at hx;subst hx;simp only [R] at h1;rw [h1]
   ·cases hx
  ·split at hx
   ·rename_i hk;subst hk;simp only [Option.some.injEq] at hx;subst hx;simp only [R] at h1;rw [h1]
   ·cases hx
  ·cases hx
 |bool=>
  intro cs d ys h hr b o hc;simp only [uS] at h;obtain ⟨x,hl,hx⟩:=DT h;obtain ⟨y,h1,h2⟩:=one hl hr hc;simp only [RD];rw [h2];unfold aIK at hx;split at hx
  ·simp only [Option.some.injEq] at hx;subst hx;simp only [R] at h1;rw [h1]
  ·simp only [Option.some.injEq] at hx;subst hx;simp only [R] at h1;rw [h1]
  ·cases hx
 |str=>
  intro cs d ys h hr b o hc;simp only [uS] at h;obtain ⟨x,hl,hx⟩:=DT h;obtain ⟨y,h1,h2⟩:=one hl hr hc;simp only [RD];rw [h2];unfold aII at hx;split at hx
  ·simp only [Option.some.injEq] at hx;subst hx;simp only [R] at h1;rw [h1]
  ·cases hx
 |sl e _=>
  intro cs d ys h hr b o hc;simp only [uS] at h;obtain ⟨x,hl,hx⟩:=DT h;obtain ⟨y,h1,h2⟩:=one hl hr hc
  have h3:=adh hx h1
  simp only [R] at h3;obtain ⟨a,cap,g1,g2,g3⟩:=h3;simp only [RD];refine ⟨a,cap,by rw [h2,g1],g2,λhn=>?_⟩
  obtain ⟨b',o',g4,g5,g6⟩:=g3 hn;exact ⟨b',o',g4,hZ _ g5,λi d hd=>RD.mono hZ hw e d b' _ g5 (g6 i d hd)⟩
 | pair p q ihp ihq=>
  intro cs d ys h hr b o hc;simp only [uS] at h;split at h
  ·rename_i x y hx hy
   simp only [Option.some.injEq] at h;subst h;simp only [RD];refine ⟨ihp _ x _ hx (hr.take p.n) b o (λj v hv=>?_),ihq _ y _ hy (hr.drop p.n) b (o+p.n) (λj v hv=>?_)⟩
   ·rw [List.getElem?_take] at hv
    split at hv
    ·exact hc j v hv
    ·cases hv
   ·rw [List.getElem?_drop] at hv
    have:=hc (p.n+j) v hv
    rwa [←Nat.add_assoc] at this
  ·cases h
theorem Ue {t:TypeId} {x q:LV} {y z:Value} {H':List aZ} (hW:RW G w0 Z0 Z β H w) (h:(BI P H t x q).all (λr=>r=H')) (hr:R β Z w x y) (hq:R β Z w q z) (hqk:okV H.length q):
  ∃w',(Instr.storeAt t y z).run P w=.ok () w'∧RW G w0 Z0 Z β H' w'∧H'.length=H.length∧(∀b,Z b→w'.heap[b]? =w.heap[b]?)∧qP (GN β H (owns x)) w w':=by
 unfold BI at h;split at h
 ·rename_i n cs hsz hcs
  have e2:=λw=>run_sizeOf hsz w
  obtain ⟨c1,c2⟩:=Eb hcs hq
  have c3:=AO hcs hqk
  have hlen2:=RL.length c1
  split at h
  ·rename_i k off
   split at h
   ·rename_i b hb
    split at h
    ·rename_i hle
     obtain ⟨hcl,hbp,hl1,hl2⟩:=hle;simp only [T.all] at h
     have hbk:b.k=.cl:=by
      unfold aZ.rO at hcl;split at hcl
      ·assumption
      ·cases hcl
     have hlive:live β k b:=by unfold live;rw [hbk];trivial
     obtain ⟨h1,h2⟩:=hW.blk k b hb;unfold gY at h1;simp only [hbk] at h1;obtain ⟨cur,hc,hrl⟩:=h1
     have hlen:=RL.length hrl
     simp only [R] at hr
     have hst:=run_storeCells_at P (β k).b off b.t z.cells.toList 0 cur w hc (by simp at hlen;omega) (λv hv=>L6 (c2 v hv))
     have e3:z.cells.size=n:=by simp at hlen2;omega
     have hne:∀j,j≠(β k).b→(w.setRow (β k).b (cur.toList.take (off+0)++z.cells.toList++cur.toList.drop (off+0+z.cells.toList.length)).toArray).heap[j]? =w.heap[j]? :=λj hj=>Dn w _ _ _ hj
     refine ⟨w.setRow (β k).b (cur.toList.take (off+0)++z.cells.toList++cur.toList.drop (off+0+z.cells.toList.length)).toArray,by simp [Instr.storeAt,Instr.sureAddr,hr,storeVar,e2,e3,hst],?_,by rw [←h];simp,λb' hz=>hne b' (λe=>hW.mX k b hb hlive hbp (e▸hz)),⟨rfl,rfl,rfl,by simp [World.setRow],λi _ hi=>hne i (λe=>hi (e▸Az hb hlive hbp))⟩⟩
     rw [←h];refine hW.set hb hlive hbp hbp ⟨dQ.setAt h2.1 c3 off,by simp only [hbk]⟩ (by simp [World.setRow]) ⟨rfl,rfl,rfl⟩ hne ?_
     unfold gY;simp only [hbk];refine ⟨_,setRow_heap w (β k).b cur _ b.t _ hc,?_⟩;refine RL.mono (n:=H.length) (λ_ _=>rfl) (λ_ h=>h) (λb' hz=>hne b' (λe=>hW.mX k b hb hlive hbp (e▸hz))) _ _ (dQ.setAt h2.1 c3 off) ?_
     have:=RL.setAt (β:=β) (Z:=Z) (w:=w) hrl c1 off
     simpa using this
    ·cases h
   ·cases h
  ·rename_i k es i j
   split at h
   ·rename_i c0 bt e l hb
    split at h
    ·rename_i hle
     obtain ⟨hes,hl1,hl2⟩:=hle;simp only [T.all] at h;obtain ⟨hi,h⟩:=h;split at h
     ·rename_i d hd
      simp only [T.all] at h;simp only [R] at hr;obtain ⟨hcap,hy⟩:=hr
      have hlive:live β k ⟨c0,bt,.vec e l,false⟩:=hcap
      obtain ⟨h1,h2⟩:=hW.blk k _ hb;simp only [gY] at h1;split at h1
      ·rename_i hc;exact absurd hc hcap
      ·rename_i c hc
       obtain ⟨cur,g1,g2,g3,g4⟩:=h1;subst hes
       have hmul:i*e.n+e.n≤c*e.n:=by
        have:=Nat.mul_le_mul_right e.n (show i+1≤c by omega)
        rwa [Nat.add_mul,Nat.one_mul] at this
       have e3:z.cells.size=n:=by simp at hlen2;omega
       have hzl:z.cells.toList.length=n:=by simpa using e3
       have hst:=run_storeCells_at P (β k).b ((β k).o+i*e.n+j) bt z.cells.toList 0 cur w g1 (by rw [hzl];omega) (λv hv=>L6 (c2 v hv))
       simp only [Nat.add_zero] at hst;generalize hnew:(cur.toList.take ((β k).o+i*e.n+j)++z.cells.toList++cur.toList.drop ((β k).o+i*e.n+j+z.cells.toList.length)).toArray=new at hst
       have hnget:∀p,new[p]? =if p<(β k).o+i*e.n+j then cur[p]? else if p<(β k).o+i*e.n+j+n then z.cells.toList[p-((β k).o+i*e.n+j)]? else cur[p]? :=λp=>by
        rw [←hnew]
        have hsz':(β k).o+i*e.n+j≤cur.size:=by omega
        by_cases q1:p<(β k).o+i*e.n+j
        ·rw [if_pos q1]
         simp only [List.getElem?_toArray,List.append_assoc];rw [List.getElem?_append_left (by simp;omega),List.getElem?_take_of_lt q1]
         simp
        ·rw [if_neg q1]
         simp only [List.getElem?_toArray]
         by_cases q2:p<(β k).o+i*e.n+j+n
         ·rw [if_pos q2,List.getElem?_append_left (by simp;omega),List.getElem?_append_right (by simp;omega)]
          congr 1
          simp
          omega
         ·rw [if_neg q2,List.getElem?_append_right (by simp;omega),List.getElem?_drop]
          have:(β k).o+i*e.n+j+z.cells.toList.length+(p-(cur.toList.take ((β k).o+i*e.n+j)++z.cells.toList).length)=p:=by
           simp
           omega
          rw [this]
          simp
       have hnsz:new.size=cur.size:=by
        rw [←hnew]
        simp
        omega
       have hne:∀q,q≠(β k).b→(w.setRow (β k).b new).heap[q]? =w.heap[q]? :=λq hq=>Dn w _ _ _ hq
       have hZw:∀b',Z b'→(w.setRow (β k).b new).heap[b']? =w.heap[b']? :=λb' hz=>hne b' (λe=>hW.mX k _ hb hlive rfl (e▸hz))
       have hblk:=setRow_heap w (β k).b cur new bt _ g1
       refine ⟨w.setRow (β k).b new,by simp [Instr.storeAt,Instr.sureAddr,hy,storeVar,e2,e3,hst],?_,by rw [←h];simp,hZw,⟨rfl,rfl,rfl,by simp [World.setRow],λq _ hq=>hne q (λe=>hq (e▸Az hb hlive rfl))⟩⟩
       rw [←h];refine hW.set hb hlive rfl rfl ⟨trivial,trivial⟩ (by simp [World.setRow]) ⟨rfl,rfl,rfl⟩ hne ?_
       simp only [gY,hc];refine ⟨new,hblk,by omega,by rw [List.length_set];exact g3,λi' d' hd'=>?_⟩
       by_cases hii:i'=i
       ·subst hii
        have hdd:d'=d:=by
         rw [List.getElem?_set_self (by exact hi)] at hd'
         simpa using hd'.symm
        subst hdd
        have hcells:∃ys,RL β Z w (iq e (l.getD i' e.dflt)) ys∧∀p,ys[p]? =if p<e.n then cur[(β k).o+i'*e.n+p]? else none:=by
         have hrd:=g4 i' _ (getD_at hi)
         refine ⟨((cur.toList.drop ((β k).o+i'*e.n)).take e.n),RL.dO ?_ λp x hx=>?_,λp=>?_⟩
         ·rw [dM];simp;omega
         ·obtain ⟨v,q1,q2⟩:=He (β:=β) e _ _ _ hrd p x hx
          have hp:p<e.n:=by have:=(List.getElem?_eq_some_iff.1 hx).1;rwa [dM] at this
          refine ⟨v,?_,q2⟩;rw [cell_of_block g1] at q1;rw [List.getElem?_take,if_pos hp,List.getElem?_drop]
          simpa using q1
         ·rw [List.getElem?_take,List.getElem?_drop]
          simp
        obtain ⟨ys,y1,y2⟩:=hcells
        have hset:=RL.setAt y1 c1 j
        refine adi (λ_ h=>h) hZw e _ d' _ hd hset _ _ (λp v hv=>?_)
        rw [cell_of_block hblk,hnget]
        have hyl:ys.length=e.n:=by have:=RL.length y1;rw [dM] at this;exact this
        by_cases p1:p<j
        ·rw [if_pos (by omega)]
         rw [List.append_assoc,List.getElem?_append_left (by simp;omega),List.getElem?_take_of_lt p1,y2] at hv
         rw [if_pos (by omega)] at hv
         exact hv
        ·by_cases p2:p<j+n
         ·rw [if_neg (by omega),if_pos (by omega)]
          rw [List.getElem?_append_left (by simp;omega),List.getElem?_append_right (by simp;omega)] at hv
          rw [←hv]
          congr 1
          simp
          omega
         ·rw [if_neg (by omega),if_neg (by omega)]
          rw [List.getElem?_append_right (by simp;omega),List.getElem?_drop,y2] at hv
          split at hv
          ·rw [←hv]
           congr 1
           simp
           omega
          ·cases hv
       ·rw [List.getElem?_set_ne (Ne.symm hii)] at hd'
        refine RD.cells (λ_ h=>h) hZw e d' _ _ (λp hp=>?_) (g4 i' d' hd')
        rw [cell_of_block hblk,cell_of_block g1,hnget]
        have hsep:i'*e.n+e.n≤i*e.n∨i*e.n+e.n≤i'*e.n:=by
         rcases Nat.lt_or_ge i' i with hlt|hge
         ·left
          have:=Nat.mul_le_mul_right e.n (show i'+1≤i by omega)
          rwa [Nat.add_mul,Nat.one_mul] at this
         ·right
          have:=Nat.mul_le_mul_right e.n (show i+1≤i' by omega)
          rwa [Nat.add_mul,Nat.one_mul] at this
        split
        ·rfl
        ·rw [if_neg (by omega)]
     ·cases h
    ·cases h
   ·cases h
  ·cases h
 ·cases h
end Go.Sx
namespace Go.Sx
open Go.Proofs.YtlihnbimgclogaaGreatDoor
open Go Go.RowKit
variable {P : Program} {G : dI} {Γ : Specs} {β : Nat → Loc} {Z : Nat → Prop} {Z0 : Gz} {w w0 : World} {F : List LV} {H : List aZ} {a : Act}
theorem RD.move {Z Z':Nat→Prop}{w w':World}(hZ:∀b,Z b→Z' b) (hw:∀b,Z b→w'.heap[b]? =w.heap[b]?):
  ∀(t:Ty) (d:t.D) (b o b' o':Nat),(∀j,j<t.n→w'.cell? ⟨b',o'+j,none⟩=w.cell? ⟨b,o+j,none⟩)→RD Z w t d b o→RD Z' w' t d b' o'
 | .int _,_,b,o,b',o',hb,h=>by simp only [RD] at*;rw [←h];exact hb 0 (by simp [Ty.n])
 | .bool,_,b,o,b',o',hb,h=>by simp only [RD] at*;rw [←h];exact hb 0 (by simp [Ty.n])
 | .str,_,b,o,b',o',hb,h=>by simp only [RD] at*;rw [←h];exact hb 0 (by simp [Ty.n])
 | .sl e,l,b,o,b',o',hb,h=>by
  simp only [RD] at*;obtain ⟨a,cap,h1,h2,h3⟩:=h;refine ⟨a,cap,by rw [←h1];exact hb 0 (by simp [Ty.n]),h2,λhn=>?_⟩
  obtain ⟨b',o',h4,h5,h6⟩:=h3 hn;exact ⟨b',o',h4,hZ _ h5,λi d hd=>RD.mono hZ hw e d b' _ h5 (h6 i d hd)⟩
 | .pair x y,d,b,o,b',o',hb,h=>by
  simp only [RD] at*;refine ⟨RD.move hZ hw x d.1 b o b' o' (λj hj=>hb j (by simp only [Ty.n];omega)) h.1,RD.move hZ hw y d.2 b _ b' _ (λj hj=>?_) h.2⟩
  have:=hb (x.n+j) (by simp only [Ty.n];omega)
  rwa [←Nat.add_assoc,←Nat.add_assoc] at this
theorem RD.one {Z:Nat→Prop}{w:World}:∀(t:Ty) (d:t.D) (b o:Nat),RD Z w t d b o→∀j,j<t.n→∃v,w.cell? ⟨b,o+j,none⟩=some v∧GH v=true
 | .int _,_,b,o,h,j,hj=>by
  simp only [Ty.n] at hj
  have:j=0:=by omega
  subst this;simp only [RD] at h;exact ⟨_,h,rfl⟩
 | .bool,_,b,o,h,j,hj=>by
  simp only [Ty.n] at hj
  have:j=0:=by omega
  subst this;simp only [RD] at h;exact ⟨_,h,rfl⟩
 | .str,_,b,o,h,j,hj=>by
  simp only [Ty.n] at hj
  have:j=0:=by omega
  subst this;simp only [RD] at h;exact ⟨_,h,rfl⟩
 | .sl e,_,b,o,h,j,hj=>by
  simp only [Ty.n] at hj
  have:j=0:=by omega
  subst this;simp only [RD] at h;obtain ⟨a,cap,h1,_⟩:=h;exact ⟨_,h1,rfl⟩
 | .pair x y,d,b,o,h,j,hj=>by
  simp only [RD] at h;simp only [Ty.n] at hj
  by_cases hx:j<x.n
  ·exact RD.one x d.1 b o h.1 j hx
  ·obtain ⟨v,h1,h2⟩:=RD.one y d.2 b (o+x.n) h.2 (j-x.n) (by omega)
   exact ⟨v,by rw [show o+j=o+x.n+(j-x.n) by omega];exact h1,h2⟩
theorem Ty.n_pos:∀t:Ty,0<t.n
 | .int _=>by simp [Ty.n]
 | .bool=>by simp [Ty.n]
 | .str=>by simp [Ty.n]
 | .sl _=>by simp [Ty.n]
 | .pair a b=>by have:=Ty.n_pos a;simp only [Ty.n];omega
theorem QB {e:Ty}{l:List e.D}{b o:Nat}(h:∀(i:Nat) (d:e.D),l[i]? =some d→RD Z w e d b (o+i*e.n)):
  ∃vs:List Value,vs.length=List.length l*e.n∧(∀j,j<List.length l*e.n→w.cell? ⟨b,o+j,none⟩=vs[j]?)∧(∀u∈vs,GH u=true):=by
 have hp:=e.n_pos
 have hch:∀j,∃v,j<List.length l*e.n→w.cell? ⟨b,o+j,none⟩=some v∧GH v=true:=λj=>by
  by_cases hj:j<List.length l*e.n
  ·have hi:j / e.n<List.length l:=Nat.div_lt_of_lt_mul (by rw [Nat.mul_comm];exact hj)
   have hd:=h (j / e.n) _ (getD_at hi)
   obtain ⟨v,h1,h2⟩:=RD.one e _ _ _ hd (j%e.n) (Nat.mod_lt _ hp);refine ⟨v,λ_=>⟨?_,h2⟩⟩
   rw [←h1]
   have:=Nat.div_add_mod j e.n
   rw [Nat.mul_comm] at this;rw [show o+j / e.n*e.n+j%e.n=o+j by omega]
  ·exact ⟨undef,λh=>absurd h hj⟩
 obtain ⟨g,hg⟩:=Classical.axiomOfChoice hch;refine ⟨(List.range (List.length l*e.n)).map g,by simp,λj hj=>?_,λu hu=>?_⟩
 ·rw [(hg j hj).1];simp [hj]
 ·obtain ⟨j,hj,rfl⟩:=List.mem_map.1 hu
  exact (hg j (by simpa using hj)).2
theorem YB {Z':Nat→Prop}{w':World}(hZ:∀b,Z b→Z' b) (hw:∀b,Z b→w'.heap[b]? =w.heap[b]?) {e:Ty}{l:List e.D}{b o b' o':Nat}(h:∀(i:Nat) (d:e.D),l[i]? =some d→RD Z w e d b (o+i*e.n)) {vs:List Value}
  (hv:∀j,j<List.length l*e.n→w.cell? ⟨b,o+j,none⟩=vs[j]?) (hc:∀j,j<List.length l*e.n→w'.cell? ⟨b',o'+j,none⟩=vs[j]?):∀(i:Nat) (d:e.D),l[i]? =some d→RD Z' w' e d b' (o'+i*e.n):=λi d hd=>by
 have hi:i<List.length l:=(List.getElem?_eq_some_iff.1 hd).1
 refine RD.move hZ hw e d b (o+i*e.n) b' (o'+i*e.n) (λj hj=>?_) (h i d hd)
 have hlt:i*e.n+j<List.length l*e.n:=by
  have:=Nat.mul_le_mul_right e.n (show i+1≤List.length l by omega)
  rw [Nat.add_mul,Nat.one_mul] at this;omega
 rw [Nat.add_assoc,Nat.add_assoc,hc _ hlt,hv _ hlt]
theorem ave {e:Ty}{x:LV}{q:List e.D}{y:Value}(hW:RW G w0 Z0 Z β H w) (h:(oQ H e x).all (λz=>z=q)) (hr:R β Z w x y):
  ∃a c,y=.slice a (List.length q) c∧(0<List.length q→∃b o,a=some ⟨b,o,none⟩∧∀(i:Nat) (d:e.D),q[i]? =some d→RD Z w e d b (o+i*e.n)):=by
 have gen:∀x,Zu e x=some q→R β Z w x y→∃a c,y=.slice a (List.length q) c∧(0<List.length q→∃b o,a=some ⟨b,o,none⟩∧∀(i:Nat) (d:e.D),q[i]? =some d→RD Z w e d b (o+i*e.n)):=λx hx hr=>by
  have h1:=adh hx hr
  simp only [R] at h1;obtain ⟨a,c,h1,_,h3⟩:=h1;refine ⟨a,c,h1,λhn=>?_⟩
  obtain ⟨b,o,h4,_,h6⟩:=h3 hn;exact ⟨b,o,h4,h6⟩
 have hdx:∀ {x:LV},(match Zu e x with|some l=>(T.ok l:T (List e.D)) |none=> .no).all (λz=>z=q)→Zu e x=some q:=λ{x} h=>by
  split at h
  ·rename_i hd;simp only [T.all] at h;rw [hd,h]
  ·cases h
 cases x with
 | os k es off n=>
  simp only [oQ] at h;split at h
  ·rename_i c0 bt e' l pp hb
   split at h
   ·rename_i hes
    split at h
    ·rename_i he _
     subst he;simp only [T.all,Ec] at h;obtain ⟨hle,h⟩:=h;subst h
     have hlen:List.length ((l.drop off).take n)=n:=by simp;omega
     rw [hlen];simp only [R] at hr;split at hr
     ·obtain ⟨rfl,_,hy⟩:=hr
      exact ⟨none,0,hy,λh=>absurd h (by omega)⟩
     ·rename_i c hc
      obtain ⟨h1,a,h2,h3⟩:=hr;refine ⟨some a,c-off,h2,λhn=>?_⟩
      have h4:=(hW.blk k _ hb).1
      simp only [gY,hc] at h4;obtain ⟨cs,g1,g2,g3,g4⟩:=h4;refine ⟨_,_,by rw [h3 (by omega)],λi d hd=>?_⟩
      rw [List.getElem?_take] at hd;split at hd
      ·rw [List.getElem?_drop] at hd
       have:=g4 (off+i) d hd
       rw [←hes];rw [Nat.add_mul,←Nat.add_assoc] at this;exact this
      ·cases hd
    ·cases h
   ·cases h
  ·cases h
 |v x=>simp only [oQ] at h;exact gen _ (hdx h) hr
 |bl x=>simp only [oQ] at h;exact gen _ (hdx h) hr
 |ki k n=>simp only [oQ] at h;exact gen _ (hdx h) hr
 |own k off=>simp only [oQ] at h;exact gen _ (hdx h) hr
 |agg l=>simp only [oQ] at h;exact gen _ (hdx h) hr
 |iU l=>simp only [oQ] at h;exact gen _ (hdx h) hr
 |fn f l=>simp only [oQ] at h;exact gen _ (hdx h) hr
 |xq n f=>simp only [oQ] at h;exact gen _ (hdx h) hr
 |xl e l=>simp only [oQ] at h;exact gen _ (hdx h) hr
 |op k es i j=>simp only [oQ] at h;exact gen _ (hdx h) hr
 |om k=>simp only [oQ] at h;exact gen _ (hdx h) hr
 |mp kd ks vs=>simp only [oQ] at h;exact gen _ (hdx h) hr
 |oc k es off n c=>simp only [oQ] at h;exact gen _ (hdx h) hr
 |yt k=>simp only [oQ] at h;exact gen _ (hdx h) hr
 |junk=>simp only [oQ] at h;exact gen _ (hdx h) hr
theorem Cb {t e:TypeId}{ty:Ty}{m by_:Nat}(h:Rh P t=some (e,ty,m,by_)):P.underlying t=some (.slice e)∧ty.n=m∧∃i,P.info? e=some i∧i.size=m∧i.bytes=by_:=by
 unfold Rh at h;split at h
 ·rename_i e' hu
  split at h
  ·rename_i ty' m' b' h1 h2 h3
   split at h
   ·rename_i hm
    simp only [Option.some.injEq,Prod.mk.injEq] at h;obtain ⟨rfl,rfl,rfl,rfl⟩:=h;refine ⟨hu,hm.1,?_⟩;unfold sD at h2;unfold asa at h3;cases hi:P.info? e' with
    |none=>simp [hi] at h2
    |some i=>simp [hi] at h2 h3;exact ⟨i,rfl,h2,h3⟩
   ·cases h
  ·cases h
 ·cases h
theorem akZ {e:Ty}{x:LV}{q:List e.D}{y:Value}{tx e':TypeId}(hk:P.underlying tx=some (.slice e')) (hW:RW G w0 Z0 Z β H w) (h:(oQ H e x).all (λz=>z=q)) (hr:R β Z w x y):
  ∃news:List Value,Src P e.n tx y (List.length q) news w∧∀(Z':Nat→Prop) (w':World) (b' o':Nat),(∀b,Z b→Z' b)→(∀b,Z b→w'.heap[b]? =w.heap[b]?)→(∀j,j<news.length→w'.cell? ⟨b',o'+j,none⟩=news[j]?)→∀(i:Nat) (d:e.D),q[i]? =some d→RD Z' w' e d b' (o'+i*e.n):=by
 obtain ⟨a,c,h1,h2⟩:=ave hW h hr
 by_cases hn:0<List.length q
 ·obtain ⟨b,o,h3,h4⟩:=h2 hn
  obtain ⟨vs,v1,v2,v3⟩:=QB h4;refine ⟨vs,?_,λZ' w' b' o' hZ hw hc=>YB hZ hw h4 v2 (λj hj=>hc j (by omega))⟩
  rw [h1,h3]
  exact Src.ofSlice w hk ⟨b,o,none⟩ _ c vs v1 (λj u hu=>by
   have hj:j<List.length q*e.n:=by have:=(List.getElem?_eq_some_iff.1 hu).1;omega
   rw [addr_add,v2 j hj,hu]) (λu hu=>L6 (v3 u hu))
 ·have hq:q=[]:=List.length_eq_zero_iff.1 (by omega)
  subst hq;refine ⟨[],?_,λZ' w' b' o' hZ hw hc i d hd=>by simp at hd⟩
  rw [h1];cases a with
  |none=>exact Src.ofNil w hk c
  |some a=>exact Src.ofSlice w hk a 0 c [] (by simp) (λj u hu=>by simp at hu) (λu hu=>by cases hu)
theorem alz {ty:Ty}{z:Value}{d:ty.D}(hd:uS ty (z.cells.toList.map .v)=some d) {w':World}{b o:Nat}(hc:∀(j:Nat) v,z.cells.toList[j]? =some v→w'.cell? ⟨b,o+j,none⟩=some v):RD Z w' ty d b o:=
 adi (Z:=Z) (w:=w') (β:=λ_=>default) (λ_ h=>h) (λ_ _=>rfl) ty _ d _ hd (alI _) b o hc
theorem YZ {t:TypeId} {n c lv:LV} {vn vc:Value} {H':List aZ} (hW:RW G w0 Z0 Z β H w) (h:(QO P H t n c).all (λq=>q=(lv,H'))) (hn:R β Z w n vn) (hc:R β Z w c vc):
  ∃w' v,(Instr.makeSlice t vn vc).run P w=.ok v w'∧Below w.heap.size w w'∧∃β',(∀k,k<H.length→β' k=β k)∧RW G w0 Z0 Z β' H' w'∧R β' Z w' lv v∧okV H'.length lv∧H'.length=H.length+1∧(β' H.length).b=w.heap.size:=by
 unfold QO at h;split at h
 ·rename_i e ty m by_ n' c' he hn' hc'
  obtain ⟨hu,htn,i,hi,him,hib⟩:=Cb he;split at h
  ·rename_i z hz
   split at h
   ·rename_i d hd
    split at h
    ·rename_i hzs
     simp only [T.all] at h;obtain ⟨⟨h0,h1,h2,h3⟩,h4⟩:=h;simp only [Prod.mk.injEq] at h4;obtain ⟨rfl,rfl⟩:=h4
     have hzi:i.zero=some z:=by unfold rZ at hz;simpa [hi] using hz
     have hrun:=run_make (P:=P) w t e i z hu hi hzi .i64 .i64 n' c' h0 h1 (by rw [hib];simpa using h2) (by omega)
     rw [l7 hn' hn,l7 hc' hc]
     have hbw:Below w.heap.size w (w.alloc (.cells (madeCells z.cells (c'.toNat*i.size)) e)):=(Below.refl _ _).alloc (Nat.le_refl _) _
     have hblk:(w.alloc (.cells (madeCells z.cells (c'.toNat*i.size)) e)).heap[w.heap.size]? =some (.cells (madeCells z.cells (c'.toNat*i.size)) e (0,0)):=by
      show (w.heap.push _)[w.heap.size]? =_
      simp
     obtain ⟨β',b1,b2,b3⟩:=(hW.same hbw).zI (ℓ:=⟨w.heap.size,0,some c'.toNat⟩) (nb:=⟨[],e,.vec ty (List.replicate n'.toNat d),false⟩) rfl ⟨trivial,trivial⟩
      (λ_=>⟨λhz=>by have:=hW.oN _ hz;simp only at this;omega,hW.below.size,λj bj hj lj e=>by have:=hW.lt hj lj;simp only at e;omega⟩) (λβ' g1 g2=>by
       simp only [gY,g2];refine ⟨_,hblk,by simp [madeCells,htn,him],by simp;omega,λj d' hd'=>?_⟩
       have hj:j<n'.toNat:=by have:=(List.getElem?_eq_some_iff.1 hd').1;simpa using this
       have hdd:d'=d:=by rw [List.getElem?_replicate] at hd';simp [hj] at hd';exact hd'.symm
       subst hdd;refine alz hd (λp v hv=>?_)
       have hp:p<m:=by have:=(List.getElem?_eq_some_iff.1 hv).1;simpa [hzs] using this
       rw [cell_of_block hblk]
       have hlt:0+j*ty.n+p<c'.toNat*i.size:=by
        have:=Nat.mul_le_mul_right m (show j+1≤c'.toNat by omega)
        rw [Nat.add_mul,Nat.one_mul] at this;rw [htn,him];omega
       rw [madeCells]
       have hv':z.cells[p]? =some v:=by simpa using hv
       rw [htn,Nat.zero_add] at hlt⊢;simp only [Array.getElem?_map,Array.getElem?_range];rw [if_pos hlt];simp only [Option.map_some,hzs,Nat.mul_comm j m,Nat.mul_add_mod,Nat.mod_eq_of_lt hp];rw [getElem!_def,hv'])
     exact ⟨_,_,hrun,hbw,β',b1,b3,by simp only [R,b2];exact ⟨by simp;omega,⟨w.heap.size,0,none⟩,by simp,λ_=>by simp⟩,by simp [okV],by simp,by rw [b2]⟩
    ·cases h
   ·cases h
  ·cases h
 ·cases h
theorem WG {t:TypeId}{lv:LV}{H':List aZ}(hW:RW G w0 Z0 Z β H w) (h:(WH P H t).all (λq=>q=(lv,H'))):
  ∃w' v,(Instr.buildSlice t 0 #[]).run P w=.ok v w'∧Below w.heap.size w w'∧∃β',(∀k,k<H.length→β' k=β k)∧RW G w0 Z0 Z β' H' w'∧R β' Z w' lv v∧okV H'.length lv∧H'.length=H.length+1∧(β' H.length).b=w.heap.size:=by
 unfold WH at h;split at h
 ·rename_i e ty m by_ he
  obtain ⟨hu,htn,i,hi,him,hib⟩:=Cb he;simp only [T.all,Prod.mk.injEq] at h;obtain ⟨rfl,rfl⟩:=h
  have hbw:Below w.heap.size w (w.alloc (.cells #[] e)):=(Below.refl _ _).alloc (Nat.le_refl _) _
  have hblk:(w.alloc (.cells #[] e)).heap[w.heap.size]? =some (.cells #[] e (0,0)):=by
   show (w.heap.push _)[w.heap.size]? =_
   simp
  obtain ⟨β',b1,b2,b3⟩:=(hW.same hbw).zI (ℓ:=⟨w.heap.size,0,some 0⟩) (nb:=⟨[],e,.vec ty [],false⟩) rfl ⟨trivial,trivial⟩
   (λ_=>⟨λhz=>by have:=hW.oN _ hz;simp only at this;omega,hW.below.size,λj bj hj lj e=>by have:=hW.lt hj lj;simp only at e;omega⟩) (λβ' g1 g2=>by
    simp only [gY,g2];exact ⟨_,hblk,by simp,by simp,λj d hd=>by simp at hd⟩)
  have hsz:sD P e=some m:=by unfold sD;simp [hi,him]
  refine ⟨_,.slice (some ⟨w.heap.size,0,none⟩) 0 0,?_,hbw,β',b1,b3,by simp only [R,b2];exact ⟨by simp,⟨w.heap.size,0,none⟩,rfl,λh=>by simp at h⟩,by simp [okV],by simp,by rw [b2]⟩
  have e1:=λw=>run_sizeOf hsz w
  have n1:¬(0>2^24):=by decide
  have ha:∀f:Nat→Value,(Array.range 0).map f=#[]:=λf=>by simp
  simp only [Instr.buildSlice,Sem.run_bind,run_underlying hu,Result.andThen_ok,e1,Nat.zero_mul,Sem.run_pure,newRow,if_neg n1,if_true,ha];rfl
 ·cases h
theorem RW.kill (hW:RW G w0 Z0 Z β H w) (k:Nat) (e:TypeId):RW G w0 Z0 Z β (H.set k ⟨[],e,.dead,false⟩) w:=by
 have old:∀i bi,(H.set k ⟨[],e,.dead,false⟩)[i]? =some bi→(¬live β i bi∧gY β Z w i bi∧okB H.length bi)∨H[i]? =some bi:=λi bi h=>by
  rw [List.getElem?_set] at h;split at h
  ·rename_i e'
   split at h
   ·simp only [Option.some.injEq] at h;subst h;exact .inl ⟨λh=>h,trivial,trivial,trivial⟩
   ·cases h
  ·exact .inr h
 refine ⟨hW.below,hW.oN,hW.wB,λi bi hi li pi=>?_,λi bi hi li pi=>?_,λi bi hi li=>?_,λi j bi bj hi hj li lj pi e=>?_,λi bi hi=>?_,hW.jJ,λp hp=>⟨(hW.gh p hp).1,by simpa using (hW.gh p hp).2⟩,hW.vw⟩
 ·rcases old i bi hi with h|h
  ·exact absurd li h.1
  ·exact hW.mX i bi h li pi
 ·rcases old i bi hi with h|h
  ·exact absurd li h.1
  ·exact hW.yE i bi h li pi
 ·rcases old i bi hi with h|h
  ·exact absurd li h.1
  ·exact hW.low i bi h li
 ·rcases old i bi hi with h|h
  ·exact absurd li h.1
  ·rcases old j bj hj with h'|h'
   ·exact absurd lj h'.1
   ·exact hW.inj i j bi bj h h' li lj pi e
 ·rw [List.length_set]
  rcases old i bi hi with h|h
  ·exact ⟨h.2.1,h.2.2⟩
  ·exact hW.blk i bi h
theorem RW.loose {w':World}{B:Nat}(hW:RW G w0 Z0 Z β H w) (hB:w0.heap.size≤B) (hBZ:¬Z B) (hBo:∀j bj,H[j]? =some bj→live β j bj→(β j).b≠B)
  (hsz:w'.heap.size=w.heap.size) (hos:w'.os=w.os∧w'.tape=w.tape∧w'.output=w.output) (hne:∀j,j≠B→w'.heap[j]? =w.heap[j]?):RW G w0 Z0 Z β H w':=by
 have hw:∀b',Z b'→w'.heap[b']? =w.heap[b']? :=λb' hz=>hne b' (λe=>hBZ (e▸hz))
 refine ⟨?_,λb' hz=>by rw [hsz];exact hW.oN b' hz,hW.wB,hW.mX,hW.yE,hW.low,hW.inj,λi bi hi=>?_,hW.jJ.mono (λ_ h=>h) hw,λp hp=>⟨R.mono (n:=H.length) (λ_ _=>rfl) (λ_ h=>h) hw _ _ (hW.gh p hp).2 (hW.gh p hp).1,(hW.gh p hp).2⟩,λD hD=>⟨(hW.vw D hD).1,by unfold rV;rw [hw D (hW.vw D hD).1];exact (hW.vw D hD).2⟩⟩
 ·exact hW.below.trans ⟨hos.1,hos.2.1,hos.2.2,Nat.le_of_eq hsz.symm,λi hi=>hne i (by omega)⟩
 ·obtain ⟨g1,g2⟩:=hW.blk i bi hi
  exact ⟨g1.keep (λ_ _=>rfl) (λ_ h=>h) hw rfl (λli=>hne _ (hBo i bi hi li)) g2,g2⟩
theorem KW (z:Array Value) (n:Nat):(Builtin.zeroCells z n).size=n*z.size:=by simp [Builtin.zeroCells]
def Back (Z:Nat→Prop) (w:World) (e:Ty) (l:List e.D) (vs:List Value):Prop:=
 ∀(Z':Nat→Prop) (w':World) (b' o':Nat),(∀b,Z b→Z' b)→(∀b,Z b→w'.heap[b]? =w.heap[b]?)→(∀j,j<vs.length→w'.cell? ⟨b',o'+j,none⟩=vs[j]?)→∀(i:Nat) (d:e.D),l[i]? =some d→RD Z' w' e d b' (o'+i*e.n)
theorem Nl (hW:RW G w0 Z0 Z β H w) {t tx ty' e:TypeId}{i:TypeInfo}{z:Value}(hu:P.underlying t=some (.slice e)) (hi:P.info? e=some i) (hz:i.zero=some z) {ty:Ty}(hts:i.size=ty.n) (hzs:z.cells.size=ty.n)
  {base:Option Addr} {sCap:Nat} {olds:List Value} {lo q:List ty.D} (hold:(Builtin.firstCells i.size (List.length lo) (.slice base (List.length lo) sCap)).run P w.drew=.ok olds.toArray w.drew) (hol:olds.length=List.length lo*ty.n)
  (ob:Back Z w ty lo olds) {y:Value} {news:List Value} (hs:Src P ty.n tx y (List.length q) news w) (nb:Back Z w ty q news) (hg:sCap<List.length lo+List.length q)
  (h63:((List.length lo+List.length q:Nat):Int)<2^62) (hby:((List.length lo+List.length q:Nat):Int)*i.bytes≤2^47):
  ∃w' v,(Builtin.append_ #[t,tx] ty' #[.slice base (List.length lo) sCap,y]).run P w=.ok v w'∧Below w.heap.size w w'∧∃β',(∀k,k<H.length→β' k=β k)∧RW G w0 Z0 Z β' (H++[⟨[],e,.vec ty (lo++q),false⟩]) w'∧
   R β' Z w' (.os H.length ty.n 0 (List.length lo+List.length q)) v∧(β' H.length).b=w.heap.size:=by
 have hnl:=hs.newsLen
 have hrun:=run_append_grow_src (P:=P) w t tx ty' e i z hu hi hz base (List.length lo) sCap olds hold y (List.length q) news (by rw [hts];exact hs) hg (by omega) (growslice_fits hg (by
  have:((((List.length lo+List.length q)*i.bytes:Nat)):Int)≤140737488355328:=by push_cast;push_cast at hby;exact hby
  omega))
 have hcap:=grownCap_ge w (List.length lo+List.length q) sCap e
 generalize grownCap w (List.length lo+List.length q) sCap e=cap at hrun hcap;generalize hcs:((olds++news).toArray++Builtin.zeroCells z.cells (cap-(List.length lo+List.length q)))=cs at hrun
 have hbw:Below w.heap.size w (w.drew.alloc (.cells cs e)):=⟨rfl,rfl,rfl,by simp [World.alloc],λk hk=>heap_alloc_old w.drew _ hk⟩
 have hblk:(w.drew.alloc (.cells cs e)).heap[w.heap.size]? =some (.cells cs e (0,0)):=heap_alloc_new w.drew _
 have hw:∀b,Z b→(w.drew.alloc (.cells cs e)).heap[b]? =w.heap[b]? :=λb hz=>cu hbw (hW.oN b hz)
 have hc1:∀j,j<olds.length→cs[j]? =olds[j]? :=λj hj=>by
  rw [←hcs,Array.getElem?_append_left (by simp;omega)]
  simp only [List.getElem?_toArray];rw [List.getElem?_append_left hj]
 have hc2:∀j,j<news.length→cs[olds.length+j]? =news[j]? :=λj hj=>by
  rw [←hcs,Array.getElem?_append_left (by simp;omega)]
  simp only [List.getElem?_toArray];rw [List.getElem?_append_right (by omega)]
  congr 1
  omega
 obtain ⟨β',b1,b2,b3⟩:=(hW.same hbw).zI (ℓ:=⟨w.heap.size,0,some cap⟩) (nb:=⟨[],e,.vec ty (lo++q),false⟩) rfl ⟨trivial,trivial⟩
  (λ_=>⟨λhz=>by have:=hW.oN _ hz;simp only at this;omega,hW.below.size,λj bj hj lj e=>by have:=hW.lt hj lj;simp only at e;omega⟩) (λβ' g1 g2=>by
   simp only [gY,g2];refine ⟨cs,hblk,?_,by rw [List.length_append];omega,λj d hd=>?_⟩
   ·rw [←hcs]
    have h1:cap*ty.n=(List.length lo+List.length q)*ty.n+(cap-(List.length lo+List.length q))*ty.n:=by
     rw [←Nat.add_mul];congr 1;omega
    simp only [Array.size_append,KW,hzs,List.size_toArray,List.length_append,hol,hnl];rw [h1,Nat.add_mul];omega
   ·by_cases hj:j<List.length lo
    ·rw [List.getElem?_append_left hj] at hd
     exact ob Z _ w.heap.size 0 (λ_ h=>h) hw (λp hp=>by rw [cell_of_block hblk,Nat.zero_add,hc1 p hp]) j d hd
    ·rw [List.getElem?_append_right (by omega)] at hd
     have:=nb Z _ w.heap.size (0+olds.length) (λ_ h=>h) hw (λp hp=>by rw [cell_of_block hblk,Nat.zero_add,hc2 p hp]) _ d hd
     rw [hol,Nat.zero_add,←Nat.add_mul] at this;rw [show List.length lo+(j-List.length lo)=j by omega] at this
     rw [Nat.zero_add];exact this)
 exact ⟨_,_,hrun,hbw,β',b1,b3,by simp only [R,b2];exact ⟨by omega,⟨w.heap.size,0,none⟩,by simp,λ_=>by simp⟩,by rw [b2]⟩
theorem size_setCells (b:Nat):∀(vs:List Value) (o:Nat) (w:World),(w.setCells b o vs).heap.size=w.heap.size
 | [],_,_=>rfl
 |v::r,o,w=>by rw [World.setCells,size_setCells b r];simp
theorem Bc (b:Nat):∀(vs:List Value) (o:Nat) (w:World),(w.setCells b o vs).tape=w.tape
 | [],_,_=>rfl
 |v::r,o,w=>by rw [World.setCells,Bc b r];rfl
theorem LW (w:World) (g o:Nat) (vs:List Value) {i:Nat}(hne:i≠g):(w.setCells g o vs).heap[i]? =w.heap[i]? :=by
 by_cases hi:i<w.heap.size
 ·exact World.heap_setCells_other w g o vs hi hne
 ·rw [Array.getElem?_eq_none (by rw [size_setCells];omega),Array.getElem?_eq_none (by omega)]
theorem zF (b:Nat) (t:TypeId):∀(vs:List Value) (o:Nat) (w:World) (cs:Array Value),w.heap[b]? =some (.cells cs t (0,0))→∃cs',(w.setCells b o vs).heap[b]? =some (.cells cs' t (0,0))∧cs'.size=cs.size
 | [],_,w,cs,h=>⟨cs,h,rfl⟩
 | v::r,o,w,cs,h=>by
  have hlt:=(Array.getElem?_eq_some_iff.1 h).1
  have h1:(w.setCell ⟨b,o,none⟩ v).heap[b]? =some (.cells (cs.setIfInBounds o v) t (0,0)):=by
   simp [World.setCell,Array.getElem?_modify,h]
  obtain ⟨cs',h2,h3⟩:=zF b t r (o+1) _ _ h1;exact ⟨cs',h2,by rw [h3];simp⟩
theorem abq (hW:RW G w0 Z0 Z β H w) {t tx ty' e:TypeId}{i:TypeInfo}(hu:P.underlying t=some (.slice e)) (hkx:∃e',P.underlying tx=some (.slice e')) (hi:P.info? e=some i) {ty:Ty}(him:i.size=ty.n)
  {B O c:Nat} {ad:Addr} {lo q:List ty.D} {cs:Array Value} (g1:w.heap[B]? =some (.cells cs e (0,0))) (g2:O+c*ty.n≤cs.size) (had:0<c→ad=⟨B,O,none⟩)
  (hB0:w0.heap.size≤B) (hBZ:¬Z B) (hBo:∀j bj,H[j]? =some bj→live β j bj→(β j).b≠B)
  (olde:∀(j:Nat) (d:ty.D),lo[j]? =some d→RD Z w ty d B (O+j*ty.n)) {y:Value} {news:List Value} (hs:Src P ty.n tx y (List.length q) news w) (nb:Back Z w ty q news) (hroom:List.length lo+List.length q≤c):
  ∃w' v,(Builtin.append_ #[t,tx] ty' #[.slice (some ad) (List.length lo) c,y]).run P w=.ok v w'∧(w'.os=w.os∧w'.tape=w.tape∧w'.output=w.output∧w'.heap.size=w.heap.size)∧(∀j,j≠B→w'.heap[j]? =w.heap[j]?)∧
   ∃β',(∀k,k<H.length→β' k=β k)∧RW G w0 Z0 Z β' (H++[⟨[],e,.vec ty (lo++q),false⟩]) w'∧R β' Z w' (.os H.length ty.n 0 (List.length lo+List.length q)) v∧(β' H.length).b=B:=by
 have hnl:=hs.newsLen
 have hmr:List.length lo*ty.n+List.length q*ty.n≤c*ty.n:=by rw [←Nat.add_mul];exact Nat.mul_le_mul_right _ hroom
 have hrun:(Builtin.append_ #[t,tx] ty' #[.slice (some ad) (List.length lo) c,y]).run P w=.ok (.slice (some ad) (List.length lo+List.length q) c) (w.setCells B (O+List.length lo*ty.n) news):=by
  by_cases hc0:0<c
  ·rw [had hc0]
   have:=run_append_room_src (P:=P) w t tx ty' e i hu hi B O (List.length lo) c y (List.length q) news (by rw [him];exact hs) hroom (λj hj=>by
    rw [cell_of_block g1,him]
    have:O+List.length lo*ty.n+j<cs.size:=by omega
    simp [this]) (λj hj=>JY g1 _)
   rw [him] at this;exact this
  ·have hn0:List.length lo=0:=by omega
   have hq0:List.length q=0:=by omega
   have hnn:news=[]:=List.length_eq_zero_iff.1 (by rw [hnl,hq0];simp)
   have hl:=hs.len
   have hc:=hs.cells
   rw [hq0] at hl hc;subst hnn;rw [hq0,hn0];obtain ⟨e',hk⟩:=hkx
   simp [Builtin.append_,run_underlying hu,run_underlying hk,sizeOf,typeInfo,hi,hl,him,hc,World.setCells,storeCells]
 have hne:∀j,j≠B→(w.setCells B (O+List.length lo*ty.n) news).heap[j]? =w.heap[j]? :=λj hj=>LW w _ _ _ hj
 have hZw:∀b',Z b'→(w.setCells B (O+List.length lo*ty.n) news).heap[b']? =w.heap[b']? :=λb' hz=>hne b' (λe=>hBZ (e▸hz))
 have hin:=World.cell?_setCells_in B news (O+List.length lo*ty.n) w (λj hj=>by
  rw [cell_of_block g1]
  have:O+List.length lo*ty.n+j<cs.size:=by omega
  simp [this])
 have hout:=λj (hj:j<O+List.length lo*ty.n)=>World.cell?_setCells_out B news (O+List.length lo*ty.n) w ⟨B,j,none⟩ (λ_ _=> .inl hj)
 obtain ⟨cs',q1,q2⟩:=zF B e news (O+List.length lo*ty.n) w cs g1
 have hos:=World.os_setCells w B (O+List.length lo*ty.n) news
 have hot:=World.output_setCells w B (O+List.length lo*ty.n) news
 have htp:=Bc B news (O+List.length lo*ty.n) w
 have hsz:=size_setCells B news (O+List.length lo*ty.n) w
 generalize w.setCells B (O+List.length lo*ty.n) news=w' at hrun hne hZw hin hout q1 hos hot htp hsz
 have hW2:=hW.loose hB0 hBZ hBo hsz ⟨hos,htp,hot⟩ hne
 obtain ⟨β',b1,b2,b3⟩:=hW2.zI (ℓ:=⟨B,O,some c⟩) (nb:=⟨[],e,.vec ty (lo++q),false⟩) rfl ⟨trivial,trivial⟩ (λ_=>⟨hBZ,hB0,hBo⟩) (λβ' f1 f2=>by
  simp only [gY,f2];refine ⟨cs',q1,by omega,by rw [List.length_append];exact hroom,λj d hd=>?_⟩
  by_cases hj:j<List.length lo
  ·rw [List.getElem?_append_left hj] at hd
   refine RD.move (λ_ h=>h) hZw ty d _ _ _ _ (λp hp=>?_) (olde j d hd)
   have:=Nat.mul_le_mul_right ty.n (show j+1≤List.length lo by omega)
   rw [Nat.add_mul,Nat.one_mul] at this;exact hout _ (by omega)
  ·rw [List.getElem?_append_right (by omega)] at hd
   have:=nb Z w' B (O+List.length lo*ty.n) (λ_ h=>h) hZw (λp hp=>by rw [hin p hp,List.getElem?_eq_getElem hp]) _ d hd
   rw [Nat.add_assoc O,←Nat.add_mul,show List.length lo+(j-List.length lo)=j by omega] at this
   exact this)
 refine ⟨w',_,hrun,⟨hos,htp,hot,hsz⟩,hne,β',b1,b3,?_,by rw [b2]⟩
 simp only [R,b2];exact ⟨by omega,ad,by simp,λh0=>by rw [had (by simpa using h0)];simp⟩
theorem T.bF {α γ:Type}{t:T α}{k:α→T γ}{y:γ}(h:(t.bind k).all (λz=>z=y)):∃x,t.all (λz=>z=x)∧(k x).all (λz=>z=y):=by
 rw [T.all_bind] at h;obtain ⟨x,h1,h2⟩:=T.pick h;exact ⟨x,h2,h1⟩
theorem Qm {t tx ty':TypeId} {x y lv:LV} {vx vy:Value} {H':List aZ} (hW:RW G w0 Z0 Z β H w) (h:(FP P H t tx x y).all (λq=>q=(lv,H'))) (hx:R β Z w x vx) (hy:R β Z w y vy):
  ∃w' v,(Builtin.append_ #[t,tx] ty' #[vx,vy]).run P w=.ok v w'∧qP (GN β H (owns x)) w w'∧(∀b,Z b→w'.heap[b]? =w.heap[b]?)∧∃β',(∀k,k<H.length→β' k=β k)∧RW G w0 Z0 Z β' H' w'∧R β' Z w' lv v∧okV H'.length lv∧
   H'.length=H.length+1∧(w.heap.size≤(β' H.length).b∨(β' H.length).b∈GN β H (owns x)):=by
 unfold FP at h;split at h
 ·rename_i e ty m by_ he
  obtain ⟨hu,htn,i,hi,him,hib⟩:=Cb he;split at h
  ·rename_i e2 z hkx hz
   have hzi:i.zero=some z:=by unfold rZ at hz;simpa [hi] using hz
   split at h
   ·rename_i hzs
    obtain ⟨q,hq,hnew⟩:=T.bF h
    clear h
    have h:=hnew
    clear hnew
    ·obtain ⟨news,hs,nb⟩:=akZ hkx hW hq hy
     have hnl:=hs.newsLen
     subst htn
     have nil:∀(H1:List aZ),RW G w0 Z0 Z β H1 w→(List.length q:Int)*by_≤2^47→(List.length q:Int)<2^62→
       ∃w' v,(Builtin.append_ #[t,tx] ty' #[.slice none 0 0,vy]).run P w=.ok v w'∧Below w.heap.size w w'∧∃β',(∀k,k<H1.length→β' k=β k)∧RW G w0 Z0 Z β' (H1++[⟨[],e,.vec ty q,false⟩]) w'∧R β' Z w' (.os H1.length ty.n 0 (List.length q)) v∧(β' H1.length).b=w.heap.size:=λH1 hW1 hby h62=>by
      by_cases hq0:0<List.length q
      ·have:=Nl (P:=P) (ty':=ty') hW1 hu hi hzi him hzs (base:=none) (sCap:=0) (olds:=[]) (lo:=[]) (q:=q) (by simpa using run_firstCells_none (P:=P) w.drew i.size 0 0 0) (by simp) (λ_ _ _ _ _ _ _ i d hd=>by simp at hd) hs nb (by simpa using hq0) (by simpa using h62) (by rw [hib];simpa using hby)
       simpa using this
      ·have hqn:q=[]:=List.length_eq_zero_iff.1 (by omega)
       subst hqn
       have hn0:news=[]:=List.length_eq_zero_iff.1 (by simpa using hnl)
       subst hn0;obtain ⟨β',b1,b2,b3⟩:=hW1.zI (ℓ:=⟨w.heap.size,0,none⟩) (nb:=⟨[],e,.vec ty [],false⟩) rfl ⟨trivial,trivial⟩ (λhl=>absurd rfl hl) (λβ' g1 g2=>by simp only [gY,g2])
       refine ⟨w,.slice none 0 0,?_,Below.refl _ _,β',b1,b3,by simp [R,b2],by rw [b2]⟩
       have hl:=hs.len
       have hc:=hs.cells
       simp only [List.length_nil] at hl hc
       simp [Builtin.append_,run_underlying hu,run_underlying hkx,sizeOf,typeInfo,hi,hl,him,hc]
     split at h
     ·simp only [T.all] at h
      obtain ⟨⟨h1,h2⟩,h3⟩:=h;simp only [Prod.mk.injEq] at h3;obtain ⟨rfl,rfl⟩:=h3;simp only [R] at hx;subst hx;obtain ⟨w',v,r1,r2,β',r3,r4,r5,r6⟩:=nil H hW h1 h2;exact ⟨w',v,r1,⟨r2.os,r2.tape,r2.output,r2.size,λk hk _=>r2.block k hk⟩,λb hz=>cu r2 (hW.oN b hz),β',r3,r4,r5,by simp [okV],by simp,.inl (by omega)⟩
     ·rename_i k es off n
      split at h
      ·rename_i c0 bt e' l hb
       split at h
       ·rename_i hee _
        have hee':=hee.symm
        subst hee';split at h
        ·rename_i hes
         obtain ⟨rfl,rfl⟩:=hes;simp only [T.all] at h;obtain ⟨⟨hlen,hby,h62⟩,h3⟩:=h;simp only [Prod.mk.injEq,Ec] at h3;obtain ⟨rfl,rfl⟩:=h3
         have hkl:k<H.length:=(List.getElem?_eq_some_iff.1 hb).1
         have hW1:=hW.kill k bt
         have hblk:=(hW.blk k _ hb).1
         simp only [R] at hx;split at hx
         ·rename_i hcap
          obtain ⟨rfl,rfl,rfl⟩:=hx;simp only [gY,hcap] at hblk;subst hblk;obtain ⟨w',v,r1,r2,β',r3,r4,r5,r6⟩:=nil _ hW1 (by simpa using hby) (by simpa using h62)
          simp only [List.length_set] at r3 r5 r6;exact ⟨w',v,r1,⟨r2.os,r2.tape,r2.output,r2.size,λk hk _=>r2.block k hk⟩,λb hz=>cu r2 (hW.oN b hz),β',r3,by simpa using r4,by simpa using r5,by simp [okV],by simp,.inl (by omega)⟩
         ·rename_i c hcap
          obtain ⟨hoc,ad,hvx,had⟩:=hx;subst hvx;simp only [gY,hcap] at hblk;obtain ⟨cs,g1,g2,g3,g4⟩:=hblk
          have hlive:live β k ⟨c0,bt,.vec ty l,false⟩:=by simp [live,hcap]
          have hB0:=hW.low k _ hb hlive
          have hBZ:=hW.mX k _ hb hlive rfl
          have hBo:∀j bj,(H.set k ⟨[],bt,.dead,false⟩)[j]? =some bj→live β j bj→(β j).b≠(β k).b:=λj bj hj lj e=>by
           rw [List.getElem?_set] at hj;split at hj
           ·first
            | (split at hj
               ·simp only [Option.some.injEq] at hj;subst hj;exact lj
               ·cases hj)
            |(simp only [Option.some.injEq] at hj;subst hj;exact lj)
           ·rename_i hne
            exact hne (hW.inj k j _ bj hb hj hlive lj rfl e.symm)
          have olde:∀(j:Nat) (d:ty.D),(l.drop off)[j]? =some d→RD Z w ty d (β k).b ((β k).o+off*ty.n+j*ty.n):=λj d hd=>by
           rw [List.getElem?_drop] at hd
           have:=g4 (off+j) d hd
           rwa [Nat.add_mul,←Nat.add_assoc] at this
          have hln:List.length (l.drop off)=n:=by simp;omega
          have hmul:off*ty.n+(c-off)*ty.n=c*ty.n:=by rw [←Nat.add_mul];congr 1;omega
          by_cases hroom:n+List.length q≤c-off
          ·--in place
           have hr:=abq (P:=P) (ty':=ty') hW1 hu ⟨_,hkx⟩ hi him (B:=(β k).b) (O:=(β k).o+off*ty.n) (c:=c-off) (ad:=ad) (lo:=l.drop off) (q:=q) g1 (by omega) had hB0 hBZ hBo olde hs nb (by rw [hln];exact hroom)
           rw [hln] at hr;obtain ⟨w',v,r1,⟨r2,r3,r4,r5⟩,r6,β',r7,r8,r9,r10⟩:=hr;simp only [List.length_set] at r7 r9 r10;exact ⟨w',v,r1,⟨r2,r3,r4,by omega,λj _ hj=>r6 j (λe=>hj (e▸Az hb hlive rfl))⟩,λb' hz=>r6 b' (λe=>hBZ (e▸hz)),β',r7,r8,r9,by simp [okV],by simp,.inr (by rw [r10];exact Az hb hlive rfl)⟩
          ·--a new row
           obtain ⟨olds,o1,o2,o3⟩:=QB olde
           have hold:(Builtin.firstCells i.size n (.slice (some ad) n (c-off))).run P w.drew=.ok olds.toArray w.drew:=by
            by_cases hc0:0<c-off
            ·rw [had hc0,him]
             refine run_firstCells_some (P:=P) w.drew ty.n n _ n (c-off) olds (by rw [o1,hln]) (λj v hv=>?_)
             have hj:j<List.length (l.drop off)*ty.n:=by have:=(List.getElem?_eq_some_iff.1 hv).1;omega
             rw [addr_add]
             have:=o2 j hj
             rw [hv] at this;exact this
            ·have hn0:n=0:=by omega
             have:olds=[]:=List.length_eq_zero_iff.1 (by rw [o1,hln,hn0];simp)
             rw [this,hn0]
             simp [Builtin.firstCells,loadCells,loadCellsFrom]
           have hgr:=Nl (P:=P) (ty':=ty') hW1 hu hi hzi him hzs (base:=some ad) (sCap:=c-off) (olds:=olds) (lo:=l.drop off) (q:=q) (by rw [hln];exact hold) o1 (λZ' w' b' o' hZ hw hc=>YB hZ hw olde o2 (λj hj=>hc j (by omega))) hs nb (by rw [hln];omega) (by rw [hln];exact h62) (by rw [hln,hib];exact hby)
           rw [hln] at hgr;obtain ⟨w',v,r1,r2,β',r3,r4,r5,r6⟩:=hgr;simp only [List.length_set] at r3 r5 r6;exact ⟨w',v,r1,⟨r2.os,r2.tape,r2.output,r2.size,λk hk _=>r2.block k hk⟩,λb hz=>cu r2 (hW.oN b hz),β',r3,r4,r5,by simp [okV],by simp,.inl (by omega)⟩
        ·cases h
       ·cases h
      ·cases h
     ·cases h
   ·cases h
  ·cases h
 ·cases h
end Go.Sx
namespace Go.Sx
open Go.Proofs.YtlihnbimgclogaaGreatDoor
open Go Go.RowKit
variable {P : Program} {G : dI} {Γ : Specs} {β : Nat → Loc} {Z : Nat → Prop} {Z0 : Gz} {w w0 : World} {F : List LV} {H : List aZ} {a : Act}
theorem Aq {n m:Nat}{g:LV→LV}{l:List LV}(h:dQ n l) (hg:∀x,okV n x→okV m (g x)):dQ m (l.map g):=by
 refine dQ.dO λi x hx=>?_
 rw [List.getElem?_map] at hx;cases hl:l[i]? with
 |none=>simp [hl] at hx
 |some q=>simp [hl] at hx;subst hx;exact hg q (dQ.get _ _ h hl)
theorem Gx {k:Nat}{x:LV}:∀ {l:List LV}{i:Nat},l[i]? =some x→k∈owns x→k∈ownsL l
 | [],i,h,_=>by simp at h
 |y::ys,0,h,hk=>by simp at h;subst h;simp only [ownsL,List.mem_append];exact .inl hk
 |y::ys,i+1,h,hk=>by simp at h;simp only [ownsL,List.mem_append];exact .inr (Gx (l:=ys) h hk)
theorem zM {S:Nat→Prop}{Z':Nat→Prop}{g:LV→LV}{n:Nat}{l:List LV}{ys:List Value}(h:RL β Z w l ys) (hk:dQ n l) (hS:∀k,k∈ownsL l→S k) (hg:∀x y,x∈l→(∀k,k∈owns x→S k)→okV n x→R β Z w x y→R β Z' w (g x) y):RL β Z' w (l.map g) ys:=by
 refine RL.dO (by simp [RL.length h]) λi x hx=>?_
 rw [List.getElem?_map] at hx;cases hl:l[i]? with
 |none=>simp [hl] at hx
 |some q=>
  simp [hl] at hx;subst hx
  obtain ⟨y,h1,h2⟩:=RL.get _ _ h hl;exact ⟨y,h1,hg q y (List.mem_of_getElem? hl) (λk hkk=>hS k (Gx hl hkk)) (dQ.get _ _ hk hl) h2⟩
def GX (H:List aZ) (d:Nat) (x:LV):Prop:=(gX H d x).all (λ_=>True)
theorem nD {α:Type}{g:α→T Unit}:∀ {l:List α},(wP g l).all (λ_=>True)→∀x,x∈l→(g x).all (λ_=>True)
 | [],_,x,hx=>by cases hx
 | y::ys,h,x,hx=>by
  simp only [wP] at h;rw [T.all_bind] at h;rcases List.mem_cons.1 hx with rfl|hx
  ·exact T.bQ (λ_ _=>trivial) h
  ·obtain ⟨_,h1,_⟩:=T.pick h
   exact nD h1 x hx
theorem ar0 (e:Ty) (d:e.D) (j:Nat):okV 0 ((iq e d).getD j .junk):=KG (qF 0 e d) j
theorem tV (H:List aZ) (hH:∀(k:Nat) (b:aZ),H[k]? =some b→okB H.length b):∀(d:Nat) (x:LV),okV H.length x→okV 0 (su H d x)
 |0,x,_=>by cases x<;>trivial
 | d+1,.own k off,_=>by
  simp only [su];split
  ·rename_i b hb
   split
   ·simp only [okV]
    exact λj=>tV H hH d _ (KG (hH k b hb).1 _)
   ·trivial
  ·trivial
 | d+1,.os k es off n,_=>by
  simp only [su];split
  ·split
   ·trivial
   ·trivial
  ·trivial
 | d+1,.op k es i j,_=>by
  simp only [su];split
  ·split
   ·simp only [okV];exact λq=>ar0 _ _ _
   ·trivial
  ·trivial
 | d+1,.om k,_=>by
  simp only [su];split
  ·rename_i hb
   simp only [okV];exact Aq (hH k _ hb).2 (λx hx=>tV H hH d x hx)
  ·trivial
 |d+1,.v x,_=>trivial
 |d+1,.bl x,_=>trivial
 |d+1,.ki _ _,_=>trivial
 |d+1,.agg l,h=>by simp only [su,okV] at*;exact Aq h (λx hx=>tV H hH d x hx)
 |d+1,.iU l,h=>by simp only [su,okV] at*;exact Aq h (λx hx=>tV H hH d x hx)
 |d+1,.fn f l,h=>by simp only [su,okV] at*;exact Aq h (λx hx=>tV H hH d x hx)
 |d+1,.xq n f,h=>by simpa only [su,okV] using h
 |d+1,.xl e l,h=>trivial
 |d+1,.mp kd ks vs,h=>by simp only [su,okV] at*;exact Aq h (λx hx=>tV H hH d x hx)
 |d+1,.oc ..,_=>trivial
 |d+1,.yt k,_=>trivial
 |d+1,.junk,_=>trivial
def ZP (Z:Nat→Prop) (β:Nat→Loc) (H:List aZ) (S:Nat→Prop):Nat→Prop:=λb=>Z b∨∃k bk,S k∧H[k]? =some bk∧live β k bk∧b=(β k).b
theorem Oe (hW:RW G w0 Z0 Z β H w) {k:Nat}{b:aZ}(hb:H[k]? =some b) (hc:b.rO=true):live β k b∧(∃cs,w.heap[(β k).b]? =some (.cells cs b.t (0,0))∧RL β Z w b.c cs.toList)∧dQ H.length b.c:=by
 obtain ⟨h1,h2⟩:=hW.blk k b hb;unfold gY at h1;unfold aZ.rO at hc;split at hc
 ·rename_i hk'
  simp only [hk'] at h1;exact ⟨by unfold live;rw [hk'];trivial,h1,h2.1⟩
 ·cases hc
theorem wC {S:Nat→Prop}(hW:RW G w0 Z0 Z β H w) (clo:∀k b,S k→H[k]? =some b→∀j,j∈b.owns→S j):∀(d:Nat) (x:LV) (y:Value),GX H d x→(∀k,k∈owns x→S k)→okV H.length x→R β Z w x y→R β (ZP Z β H S) w (su H d x) y
 |0,x,_,_,_,_,_=>by cases x<;>simp only [su,R]
 | d+1,.own k off,y,hG,hS,hk,h=>by
  simp only [su];split
  ·rename_i b hb
   split
   ·rename_i hcl
    obtain ⟨hl,⟨cs,hc,hrl⟩,hok⟩:=Oe hW hb hcl
    have hSk:S k:=hS k (by simp [owns])
    simp only [R,okV] at*;refine ⟨(β k).b,off,h,.inr ⟨k,b,hSk,hb,hl,rfl⟩,λj hj=>?_⟩
    have hl':off+j<b.c.length:=by omega
    have hq:=getD_lt hl'
    obtain ⟨z,h1,h2⟩:=RL.get _ _ hrl hq;refine ⟨z,by rw [cell_of_block hc];simpa using h1,?_⟩
    have hG':(wP (gX H d) b.c).all (λ_=>True):=by simpa only [GX,gX,hb] using hG
    exact wC hW clo d _ z (nD hG' _ (List.mem_of_getElem? hq)) (λj hj=>clo k b hSk hb j (by unfold aZ.owns;exact List.mem_append.2 (.inl (Gx hq hj)))) (KG hok _) h2
   ·simp only [R]
  ·simp only [R]
 | d +1,.os k es off n,y,hG,hS,hk,h=>by
  simp only [su];split
  ·rename_i c0 bt e l pp hb
   split
   ·rename_i hes
    have hle:off+n≤List.length l:=by
     have hG':=hG
     simp only [GX,gX,hb,T.all] at hG';exact hG'.1
    have hSk:S k:=hS k (by simp [owns])
    have hlen:List.length ((l.drop off).take n)=n:=by simp;omega
    simp only [R] at h⊢;rw [hlen];split at h
    ·obtain ⟨rfl,_,hy⟩:=h
     exact ⟨none,0,hy,by omega,λh=>absurd h (by omega)⟩
    ·rename_i c hc
     obtain ⟨h1,a,h2,h3⟩:=h;refine ⟨some a,c-off,h2,by omega,λhn=>?_⟩
     have h4:=(hW.blk k _ hb).1
     simp only [gY,hc] at h4;obtain ⟨cs,g1,g2,g3,g4⟩:=h4;refine ⟨_,_,by rw [h3 (by omega)],.inr ⟨k,_,hSk,hb,by simp [live,hc],rfl⟩,λi d hd=>?_⟩
     rw [List.getElem?_take] at hd;split at hd
     ·rw [List.getElem?_drop] at hd
      have:=g4 (off+i) d hd
      rw [←hes];rw [Nat.add_mul,←Nat.add_assoc] at this;exact RD.keep (λ_ h=> .inl h) (λ_ _=>rfl) e d _ _ rfl this
     ·cases hd
   ·simp only [R]
  ·simp only [R]
 | d +1,.op k es i j,y,hG,hS,hk,h=>by
  simp only [su];split
  ·rename_i c0 bt e l pp hb
   split
   ·rename_i hes
    have hle:i<List.length l:=by
     have hG':=hG
     simp only [GX,gX,hb,T.all] at hG';exact hG'.1
    have hSk:S k:=hS k (by simp [owns])
    simp only [R] at h⊢;obtain ⟨hcap,hy⟩:=h
    have h4:=(hW.blk k _ hb).1
    simp only [gY] at h4;split at h4
    ·rename_i hc;exact absurd hc hcap
    ·rename_i c hc
     obtain ⟨cs,g1,g2,g3,g4⟩:=h4;refine ⟨_,_,hy,.inr ⟨k,_,hSk,hb,by simp [live,hc],rfl⟩,λq hq=>?_⟩
     have hjq:j+q<(iq e (l.getD i e.dflt)).length:=by rw [dM];omega
     have hrd:=RD.keep (Z':=ZP Z β H S) (λ_ h=> .inl h) (λ_ _=>rfl) e _ _ _ rfl (g4 i _ (getD_at hle))
     obtain ⟨z,z1,z2⟩:=He (β:=β) e _ _ _ hrd (j+q) _ (getD_lt hjq);exact ⟨z,by rw [←hes];rw [←Nat.add_assoc] at z1;exact z1,z2⟩
   ·simp only [R]
  ·simp only [R]
 | d+1,.om k,y,hG,hS,hk,h=>by
  simp only [su];split
  ·rename_i c0 bt kd ks vs pp hb
   have hSk:S k:=hS k (by simp [owns])
   obtain ⟨h4,h5⟩:=hW.blk k _ hb;simp only [gY] at h4;obtain ⟨es,clock,g1,g2,g3⟩:=h4;simp only [R] at h⊢;refine ⟨_,es,clock,h,.inr ⟨k,_,hSk,hb,trivial,rfl⟩,g1,g2,?_⟩
   have hG':(wP (gX H d) vs).all (λ_=>True):=by simpa only [GX,gX,hb] using hG
   exact zM (S:=S) g3 h5.2 (λj hj=>clo k _ hSk hb j (by unfold aZ.owns;exact List.mem_append.2 (.inr hj))) (λx y hm hx hk' hr=>wC hW clo d x y (nD hG' _ hm) hx hk' hr)
  ·simp only [R]
 |d+1,.v x,_,_,_,_,h=>h
 |d+1,.bl x,_,_,_,_,h=>h
 |d+1,.ki _ _,_,_,_,_,h=>h
 |d+1,.agg l,y,hG,hS,hk,h=>by
  have hG':(wP (gX H d) l).all (λ_=>True):=by simpa only [GX,gX] using hG
  clear hG
  simp only [su,R,okV,owns] at*;obtain ⟨ys,h1,h2⟩:=h;exact ⟨ys,h1,zM h2 hk hS (λx y hm hx hk' hr=>wC hW clo d x y (nD hG' _ hm) hx hk' hr)⟩
 |d+1,.iU l,y,hG,hS,hk,h=>by
  have hG':(wP (gX H d) l).all (λ_=>True):=by simpa only [GX,gX] using hG
  clear hG
  simp only [su,R,okV,owns] at*;obtain ⟨ys,h1,h2⟩:=h;exact ⟨ys,h1,zM h2 hk hS (λx y hm hx hk' hr=>wC hW clo d x y (nD hG' _ hm) hx hk' hr)⟩
 |d+1,.fn f l,y,hG,hS,hk,h=>by
  have hG':(wP (gX H d) l).all (λ_=>True):=by simpa only [GX,gX] using hG
  clear hG
  simp only [su,R,okV,owns] at*;obtain ⟨ys,h1,h2⟩:=h;exact ⟨ys,h1,zM h2 hk hS (λx y hm hx hk' hr=>wC hW clo d x y (nD hG' _ hm) hx hk' hr)⟩
 |d+1,.mp kd ks vs,y,hG,hS,hk,h=>by
  have hG':(wP (gX H d) vs).all (λ_=>True):=by simpa only [GX,gX] using hG
  clear hG
  simp only [su,R,okV,owns] at*;obtain ⟨r,es,clock,h1,h2,h3,h4,h5⟩:=h;exact ⟨r,es,clock,h1,.inl h2,h3,h4,zM h5 hk hS (λx y hm hx hk' hr=>wC hW clo d x y (nD hG' _ hm) hx hk' hr)⟩
 |d+1,.xq n f,y,_,_,hk,h=>by
  simp only [su];exact R.mono (n:=H.length) (λ_ _=>rfl) (λ_ h=> .inl h) (λ_ _=>rfl) _ _ hk h
 |d+1,.xl e l,y,_,_,hk,h=>by
  simp only [su];exact R.mono (n:=H.length) (λ_ _=>rfl) (λ_ h=> .inl h) (λ_ _=>rfl) _ _ hk h
 |d+1,.oc ..,_,_,_,_,_=>by simp only [su,R]
 |d+1,.yt k,_,_,_,_,_=>by simp only [su,R]
 |d+1,.junk,_,_,_,_,_=>by simp only [su,R]
theorem Am (ks:List Nat):∀(H:List aZ) (s k:Nat),(o5 ks s H)[k]? =(H[k]?).map λb=>if ks.contains (s+k) then ⟨b.c,b.t,b.k,true⟩ else b
 | [],_,_=>by simp [o5]
 |b::bs,s,0=>by simp [o5]
 |b::bs,s,k+1=>by
  simp only [o5,List.getElem?_cons_succ];rw [Am ks bs (s+1) k,show s+1+k=s+(k+1) by omega]
theorem gK (ks:List Nat):∀(H:List aZ) (s:Nat),(o5 ks s H).length=H.length
 | [],_=>rfl
 |b::bs,s=>by simp [o5,gK ks bs]
theorem RW.pub (hW:RW G w0 Z0 Z β H w) (ks:List Nat):RW G w0 Z0 (ZP Z β H (λk=>k∈ks)) β (o5 ks 0 H) w:=by
 have old:∀k b,(o5 ks 0 H)[k]? =some b→∃b0,H[k]? =some b0∧live β k b=live β k b0∧b.k=b0.k∧b.t=b0.t∧b.c=b0.c∧((k∈ks∧b.p=true)∨(k∉ks∧b.p=b0.p)):=λk b h=>by
  rw [Am] at h;cases hb:H[k]? with
  |none=>simp [hb] at h
  | some b0=>
   simp only [hb,Option.map_some,Option.some.injEq,Nat.zero_add] at h;refine ⟨b0,rfl,?_⟩;split at h
   ·rename_i hc
    subst h;exact ⟨rfl,rfl,rfl,rfl,.inl ⟨by simpa using hc,rfl⟩⟩
   ·rename_i hc
    subst h;exact ⟨rfl,rfl,rfl,rfl,.inr ⟨by simpa using hc,rfl⟩⟩
 have hZ:∀b,Z b→ZP Z β H (λk=>k∈ks) b:=λ_ h=> .inl h
 refine ⟨hW.below,λb hz=>?_,λb hz=>?_,λk b hk hl hp hz=>?_,λk b hk hl hp=>?_,λk b hk hl=>?_,λi j bi bj hi hj li lj pi e=>?_,λk b hk=>?_,hW.jJ.mono hZ (λ_ _=>rfl),λp hp=>⟨R.mono (n:=H.length) (λ_ _=>rfl) hZ (λ_ _=>rfl) _ _ (hW.gh p hp).2 (hW.gh p hp).1,by rw [gK];exact (hW.gh p hp).2⟩,λD hD=>⟨.inl (hW.vw D hD).1,(hW.vw D hD).2⟩⟩
 ·rcases hz with hz|⟨k,bk,_,h2,h3,rfl⟩
  ·exact hW.oN b hz
  ·exact hW.lt h2 h3
 ·rcases hz with hz|⟨k,bk,_,h2,h3,rfl⟩
  ·exact hW.wB b hz
  ·exact .inr (hW.low k bk h2 h3)
 ·obtain ⟨b0,h1,h2,h3,h4,h5,h6⟩:=old k b hk
  rcases h6 with ⟨_,h6⟩ |⟨h6,h7⟩
  ·rw [h6] at hp;cases hp
  ·rcases hz with hz|⟨j,bj,g1,g2,g3,g4⟩
   ·exact hW.mX k b0 h1 (h2▸hl) (h7▸hp) hz
   ·exact h6 ((hW.inj k j b0 bj h1 g2 (h2▸hl) g3 (h7▸hp) g4)▸g1)
 ·obtain ⟨b0,h1,h2,h3,h4,h5,h6⟩:=old k b hk
  rcases h6 with ⟨h6,_⟩ |⟨h6,h7⟩
  ·exact .inr ⟨k,b0,h6,h1,h2▸hl,rfl⟩
  ·exact .inl (hW.yE k b0 h1 (h2▸hl) (h7▸hp))
 ·obtain ⟨b0,h1,h2,_⟩:=old k b hk
  exact hW.low k b0 h1 (h2▸hl)
 ·obtain ⟨b0,h1,h2,h3,h4,h5,h6⟩:=old i bi hi
  obtain ⟨c0,g1,g2,_⟩:=old j bj hj;rcases h6 with ⟨_,h6⟩ |⟨h6,h7⟩
  ·rw [h6] at pi;cases pi
  ·exact hW.inj i j b0 c0 h1 g1 (h2▸li) (g2▸lj) (h7▸pi) e
 ·obtain ⟨b0,h1,h2,h3,h4,h5,h6⟩:=old k b hk
  obtain ⟨q1,q2⟩:=hW.blk k b0 h1
  have q3:=q1.keep (β':=β) (Z':=ZP Z β H (λk=>k∈ks)) (w':=w) (n:=H.length) (λ_ _=>rfl) hZ (λ_ _=>rfl) rfl (λ_=>rfl) q2
  rw [gK];refine ⟨?_,?_⟩
  ·unfold gY at q3⊢
   rw [h3,h4,h5];exact q3
  ·unfold okB at q2⊢
   rw [h3,h5];exact q2
theorem mF {ks:List Nat}{l:List LV}(h:qG H ks l=true):(∀k,k∈ownsL l→k∈ks)∧(∀k b,k∈ks→H[k]? =some b→∀j,j∈b.owns→j∈ks):=by
 unfold qG at h;simp only [Bool.and_eq_true,List.all_eq_true] at h;refine ⟨λk hk=>by simpa using h.1 k hk,λk b hk hb j hj=>?_⟩
 have:=h.2 k hk
 rw [hb] at this;simp only [List.all_eq_true] at this
 simpa using this j hj
end Go.Sx
namespace Go.Sx
open Go.Proofs.YtlihnbimgclogaaGreatDoor
open Go Go.RowKit
variable {P : Program} {G : dI} {Γ : Specs} {β : Nat → Loc} {Z : Nat → Prop} {Z0 : Gz} {w w0 : World} {F : List LV} {H : List aZ} {a : Act}
def RO (β:Nat→Loc) (Z:Nat→Prop) (w:World):Option LV→Option Value→Prop
 |none,none=>True
 |some x,some y=>R β Z w x y
 |_,_=>False
theorem Cj {lo hi:Option Value}{len cap i j:Nat}(hij:i≤j) (hlc:j≤cap) (hlo:match lo with|none=>i=0|some v=>∃k,v=.int k i) (hhi:match hi with|none=>j=len|some v=>∃k,v=.int k j) (w':World):
  (Instr.sliceBounds true len cap lo hi none).run P w'=.ok (i,j,cap) w':=by
 have bd:∀(k:IntKind) (x y:Nat) (c:BoundsCode),x≤y→(Instr.sliceBound (.int k x) y c).run P w'=.ok x w':=λk x y c hxy=>by
  have h1:(0:Int)≤(x:Int)∧(x:Int)≤(y:Int):=by omega
  simp [Instr.sliceBound,asIntOf,h1]
 cases lo with
 |none=>
  simp only at hlo;subst hlo;cases hi with
  |none=>simp only at hhi;subst hhi;simp [Instr.sliceBounds]
  |some v=>simp only at hhi;obtain ⟨k,rfl⟩:=hhi;simp [Instr.sliceBounds,bd k j cap _ hlc]
 |some u=>
  simp only at hlo;obtain ⟨k',rfl⟩:=hlo;cases hi with
  |none=>simp only at hhi;subst hhi;simp [Instr.sliceBounds,bd k' i j _ hij]
  |some v=>simp only at hhi;obtain ⟨k,rfl⟩:=hhi;simp [Instr.sliceBounds,bd k j cap _ hlc,bd k' i j _ hij]
theorem Dl {t:TypeId} {x lv:LV} {y:Value} {lo hi:Option LV} {vlo vhi:Option Value} {N:Nat} (h:(abf P t x lo hi).all (λz=>z=lv)) (hr:R β Z w x y) (hlo:RO β Z w lo vlo) (hhi:RO β Z w hi vhi) (hk:okV N x):
  ∃v,(∀w',(Instr.sliceAt t y vlo vhi none).run P w'=.ok v w')∧R β Z w lv v∧okV N lv:=by
 unfold abf at h;split at h
 ·rename_i e hu
  split at h
  ·rename_i m hsz
   have e2:=λw=>run_sizeOf hsz w
   have bnd:∀(o:Option LV) (v:Option Value) (d n:Int),RO β Z w o v→(match o with|none=>some d|some y=>match pl y with|some (.int _ n)=>some n|_=>none)=some n→(match v with|none=>n=d|some v=>∃k,v=.int k n):=λo v d n ho hn=>by
    cases o with
    |none=>
     cases v with
     |none=>simp only at hn⊢;exact (Option.some.inj hn).symm
     |some v=>cases ho
    | some x=>
     cases v with
     |none=>cases ho
     | some v=>
      simp only [RO] at ho;simp only at hn⊢;split at hn
      ·rename_i k n' hp
       simp only [Option.some.injEq] at hn;subst hn;exact ⟨k,l7 hp ho⟩
      ·cases hn
   have nn:∀(v:Option Value) (d n:Int),0≤n→0≤d→(match v with|none=>n=d|some v=>∃k,v=.int k n)→(match v with|none=>n.toNat=d.toNat|some v=>∃k,v=.int k (n.toNat:Int)):=λv d n hn hd hv=>by
    cases v with
    |none=>simp only at hv⊢;rw [hv]
    |some v=>simp only at hv⊢;rw [Int.toNat_of_nonneg hn];exact hv
   simp only at h;split at h
   ·rename_i ty l
    split at h
    ·rename_i i j hi1 hi2
     split at h
     ·rename_i htn
      simp only [T.all] at h;obtain ⟨⟨h0,h1,h2⟩,h3⟩:=h;subst h3;simp only [R] at hr;obtain ⟨ad,cap,g1,g2,g3⟩:=hr
      have b1:=nn vlo 0 i h0 (by omega) (bnd lo vlo 0 i hlo hi1)
      have b2:=nn vhi _ j (by omega) (by omega) (bnd hi vhi _ j hhi hi2)
      simp only [Int.toNat_natCast,Int.toNat_zero] at b1 b2;refine ⟨_,λw'=>by simp [Instr.sliceAt,Instr.slice,run_underlying hu,g1,Cj (P:=P) (len:=List.length l) (cap:=cap) (i:=i.toNat) (j:=j.toNat) (by omega) (by omega) b1 b2 w',e2];rfl,?_,trivial⟩
      have hlen:List.length ((l.drop i.toNat).take (j.toNat-i.toNat))=j.toNat-i.toNat:=by simp;omega
      simp only [R];rw [hlen];refine ⟨_,_,rfl,by omega,λhn=>?_⟩
      obtain ⟨b,off,g4,g5,g6⟩:=g3 (by omega)
      rw [if_neg (by omega),g4]
      simp only [Option.map_some,addr_add];refine ⟨b,_,rfl,g5,λp d hd=>?_⟩
      rw [List.getElem?_take] at hd;split at hd
      ·rw [List.getElem?_drop] at hd
       have:=g6 (i.toNat+p) d hd
       rw [Nat.add_mul,←Nat.add_assoc,htn] at this;rw [htn];exact this
      ·cases hd
     ·cases h
    ·cases h
   ·rename_i k es off n
    split at h
    ·rename_i i j hi1 hi2
     split at h
     ·rename_i hes
      simp only [T.all] at h;obtain ⟨⟨h0,h1,h2⟩,h3⟩:=h;subst h3
      have b1:=nn vlo 0 i h0 (by omega) (bnd lo vlo 0 i hlo hi1)
      have b2:=nn vhi _ j (by omega) (by omega) (bnd hi vhi _ j hhi hi2)
      simp only [Int.toNat_natCast,Int.toNat_zero] at b1 b2;simp only [R] at hr;split at hr
      ·rename_i hcap
       obtain ⟨rfl,rfl,rfl⟩:=hr
       have hi0:i.toNat=0:=by omega
       have hj0:j.toNat=0:=by omega
       refine ⟨.slice none 0 0,λw'=>by simp [Instr.sliceAt,Instr.slice,run_underlying hu,Cj (P:=P) (len:=0) (cap:=0) (i:=i.toNat) (j:=j.toNat) (by omega) (by omega) b1 b2 w',e2,hi0,hj0],by simp [R,hcap,hi0,hj0],hk⟩
      ·rename_i c hcap
       obtain ⟨g1,ad,g2,g3⟩:=hr;subst g2;refine ⟨_,λw'=>by simp [Instr.sliceAt,Instr.slice,run_underlying hu,Cj (P:=P) (len:=n) (cap:=c-off) (i:=i.toNat) (j:=j.toNat) (by omega) (by omega) b1 b2 w',e2];rfl,?_,hk⟩
       simp only [R,hcap];refine ⟨by omega,if c-off=i.toNat then ad else ad.add (i.toNat*(m+1)),?_,λhn=>?_⟩
       ·rw [show c-(off+i.toNat)=c-off-i.toNat by omega]
        split<;>rfl
       ·rw [if_neg (by omega),g3 (by omega),addr_add,hes,Nat.add_mul,Nat.add_assoc]
     ·cases h
    ·cases h
   ·cases h
  ·cases h
 ·cases h
theorem NK {kd:IntKind}{n:Int}{z:Value}{lv:LV}:∀(ks:List Int) (vs:List LV) (es:List MapEntry) (s:Nat),(qo kd n z ks vs).all (λr=>r=lv)→ks.length=vs.length→es.map (·.key)=ks.map (.int kd)→RL β Z w vs (es.map (·.val))→
  (∃s' v,Instr.findNow (.int kd) (.int kd n) es s=some (some (s',v))∧R β Z w lv v∧∃i:Nat,vs[i]? =some lv)∨(Instr.findNow (.int kd) (.int kd n) es s=some none∧lv=.v z)
 | [],[],es,s,h,_,hk,hr=>by
  simp only [qo,T.all] at h
  have:es=[]:=by simpa using hk
  subst this;exact .inr ⟨rfl,h.symm⟩
 | [],_::_,_,_,_,hl,_,_=>by simp at hl
 |_::_,[],_,_,_,hl,_,_=>by simp at hl
 | k::ks,v::vs,es,s,h,hl,hk,hr=>by
  cases es with
  |nil=>simp at hk
  | cons e es=>
   simp only [List.map_cons,List.cons.injEq] at hk;simp only [List.map_cons,RL] at hr;obtain ⟨y,zs,h1,h2,h3⟩:=hr;simp only [List.cons.injEq] at h1;obtain ⟨rfl,rfl⟩:=h1;simp only [qo,T.all] at h;cases hb:(n==k) with
   |true=>
    have:=h.1 hb
    subst this;exact .inl ⟨s,e.val,by simp [Instr.findNow,Instr.sameNow,hk.1,hb],h2,0,rfl⟩
   |false=>
    have hf:Instr.findNow (.int kd) (.int kd n) (e::es) s=Instr.findNow (.int kd) (.int kd n) es (s+1):=by simp [Instr.findNow,Instr.sameNow,hk.1,hb]
    rw [hf];rcases NK ks vs es (s+1) (h.2 hb) (by simpa using hl) hk.2 h3 with ⟨s',v',q1,q2,i,q3⟩ |q
    ·exact .inl ⟨s',v',q1,q2,i+1,by simpa using q3⟩
    ·exact .inr q
theorem sZ {kt:TypeId}{kd:IntKind}(hu:P.underlying kt=some (.int kd)) (e:Bool) (v:Value) (w':World):(Instr.checkKey e 10000 kt v).run P w'=.ok () w':=by
 unfold Instr.checkKey
 simp [run_underlying hu]
theorem Ic {t:TypeId}{x q lv:LV}{y z:Value}(hW:RW G w0 Z0 Z β H w) (h:(QR P H t x q).all (λr=>r=lv)) (hr:R β Z w x y) (hq:R β Z w q z) (hk:okV H.length x):
  ∃v,(∀w',(∀b,(Z b∨∃k,x=.om k∧b=(β k).b)→w'.heap[b]? =w.heap[b]?)→(Instr.lookup t y z false).run P w'=.ok v w')∧R β Z w lv v∧okV H.length lv:=by
 unfold QR at h;split at h
 ·rename_i kt et hu
  split at h
  ·rename_i kd z0 kd' n hku hz hp
   split at h
   ·rename_i hkd
    obtain ⟨rfl,hz1⟩:=hkd
    have hzq:=l7 hp hq
    have main:∀(r:Nat) (es:Array MapEntry) (clock:Nat) (ks:List Int) (vs:List LV),y=.map (some r)→w.heap[r]? =some (.map es clock)→es.toList.map (·.key)=ks.map (.int kd')→RL β Z w vs (es.toList.map (·.val))→ks.length=vs.length→dQ H.length vs→(qo kd' n z0 ks vs).all (λr=>r=lv)→(Z r∨∃k,x=.om k∧r=(β k).b)→
      ∃v,(∀w',(∀b,(Z b∨∃k,x=.om k∧b=(β k).b)→w'.heap[b]? =w.heap[b]?)→(Instr.lookup t y z false).run P w'=.ok v w')∧R β Z w lv v∧okV H.length lv:=λr es clock ks vs hy hh hkk hvv hl hok hch hzr=>by
     rcases NK ks vs es.toList 0 hch hl hkk hvv with ⟨s',v',q1,q2,i,q3⟩ |⟨q1,q2⟩
     ·refine ⟨v',λw' hw'=>?_,q2,dQ.get i _ hok q3⟩
      have hh':w'.heap[r]? =some (.map es clock):=by rw [hw' r hzr];exact hh
      have hget:(getObj r).run P w'=.ok (.map es clock) w':=by simp [getObj,Sem.run,hh']
      simp [Instr.lookup,run_underlying hu,hy,hget,sZ hku,Instr.findKey,run_underlying hku,hzq,q1]
     ·refine ⟨z0,λw' hw'=>?_,by rw [q2];simp [R],by rw [q2];trivial⟩
      have hh':w'.heap[r]? =some (.map es clock):=by rw [hw' r hzr];exact hh
      have hget:(getObj r).run P w'=.ok (.map es clock) w':=by simp [getObj,Sem.run,hh']
      have hz0:=λw=>yV hz w
      simp [Instr.lookup,run_underlying hu,hy,hget,sZ hku,Instr.findKey,run_underlying hku,hzq,q1,hz0]
    split at h
    ·split at h
     ·rename_i hkk
      obtain ⟨rfl,hl⟩:=hkk;simp only [R,okV] at hr hk;obtain ⟨r,es,clock,h1,h2,h3,h4,h5⟩:=hr;exact main r es clock _ _ h1 h3 h4 h5 hl hk h (.inl h2)
     ·cases h
    ·rename_i k
     split at h
     ·rename_i hb
      split at h
      ·rename_i hkk
       obtain ⟨rfl,hl⟩:=hkk;obtain ⟨b1,b2⟩:=hW.blk k _ hb;simp only [gY] at b1;obtain ⟨es,clock,g1,g2,g3⟩:=b1;simp only [R] at hr;exact main _ es clock _ _ hr g1 g2 g3 hl b2.2 h (.inr ⟨k,rfl,rfl⟩)
      ·cases h
     ·cases h
    ·cases h
   ·cases h
  ·cases h
 ·cases h
theorem Q7 {kd:IntKind}{n:Int}:∀(ks:List Int) (es:List MapEntry) (s:Nat),ks.contains n=false→es.map (·.key)=ks.map (.int kd)→Instr.findNow (.int kd) (.int kd n) es s=some none
 | [],es,s,_,hk=>by
  have:es=[]:=by simpa using hk
  subst this;rfl
 | k::ks,es,s,hc,hk=>by
  cases es with
  |nil=>simp at hk
  |cons e es=>
   simp only [List.map_cons,List.cons.injEq] at hk;simp only [List.contains_cons,Bool.or_eq_false_iff] at hc
   have hf:Instr.findNow (.int kd) (.int kd n) (e::es) s=Instr.findNow (.int kd) (.int kd n) es (s+1):=by simp [Instr.findNow,Instr.sameNow,hk.1,hc.1]
   rw [hf];exact Q7 ks es (s+1) hc.2 hk.2
theorem Nh {t:TypeId}{x q r:LV}{y z u:Value}{H':List aZ}(hW:RW G w0 Z0 Z β H w) (h:(alq P H t x q r).all (λr=>r=H')) (hr:R β Z w x y) (hq:R β Z w q z) (hu:R β Z w r u) (hrk:okV H.length r):
  ∃w',(Instr.mapUpdate t y z u).run P w=.ok () w'∧RW G w0 Z0 Z β H' w'∧H'.length=H.length∧(∀b,Z b→w'.heap[b]? =w.heap[b]?)∧qP (GN β H (owns x)) w w':=by
 unfold alq at h;split at h
 ·rename_i kt et hut
  split at h
  ·rename_i kd kd' n k hku hp
   split at h
   ·rename_i c0 bt kd2 ks vs hb
    split at h
    ·rename_i hle
     obtain ⟨rfl,rfl,hl,hnc⟩:=hle;simp only [T.all] at h;subst h;obtain ⟨b1,b2⟩:=hW.blk k _ hb;simp only [gY] at b1;obtain ⟨es,clock,g1,g2,g3⟩:=b1;simp only [R] at hr
     have hzq:=l7 hp hq
     have hlt:=(Array.getElem?_eq_some_iff.1 g1).1
     have hget:(getObj (β k).b).run P w=.ok (.map es clock) w:=by simp [getObj,Sem.run,g1]
     let w':World:={w with heap:=w.heap.setIfInBounds (β k).b (.map (es.push {key:=z,val:=u,born:=clock}) (clock+1))}
     have hset:(setObj (β k).b (.map (es.push {key:=z,val:=u,born:=clock}) (clock+1))).run P w=.ok () w':=by simp [setObj,Sem.run,w',g1]
     have hfn:=Q7 ks es.toList 0 hnc g2
     have hlive:live β k ⟨c0,bt,.mp kd2 ks vs,false⟩:=trivial
     have hne:∀j,j≠(β k).b→w'.heap[j]? =w.heap[j]? :=λj hj=>by simp [w',Ne.symm hj]
     have hZw:∀b',Z b'→w'.heap[b']? =w.heap[b']? :=λb' hz=>hne b' (λe=>hW.mX k _ hb hlive rfl (e▸hz))
     refine ⟨w',?_,?_,by simp,hZw,⟨rfl,rfl,rfl,by simp [w'],λj _ hj=>hne j (λe=>hj (e▸Az hb hlive rfl))⟩⟩
     ·rw [hzq] at hset
      simp [Instr.mapUpdate,run_underlying hut,hr,hget,sZ hku,Instr.findKey,run_underlying hku,hzq,hfn,hset]
     ·refine hW.set hb hlive rfl rfl ⟨trivial,dQ.append b2.2 ⟨hrk,trivial⟩⟩ (by simp [w']) ⟨rfl,rfl,rfl⟩ hne ?_
      simp only [gY];refine ⟨es.push {key:=z,val:=u,born:=clock},clock+1,by simp [w',hlt],by simp [g2,hzq],?_⟩
      have h1:RL β Z w (vs++[r]) (es.toList.map (·.val)++[u]):=g3.app (by simp only [RL];exact ⟨u,[],rfl,hu,rfl⟩)
      have hok1:dQ H.length [r]:=⟨hrk,trivial⟩
      have h2:=RL.mono (n:=H.length) (β':=β) (Z':=Z) (λ_ _=>rfl) (λ_ h=>h) hZw _ _ (dQ.append b2.2 hok1) h1
      simpa using h2
    ·cases h
   ·cases h
  ·cases h
 ·cases h
theorem aqs:∀ {e:Ty}{v:Value}{d:e.D},JV e v=some d→v=aHO e d
 | .int k,v,d,h=>by
  simp only [JV] at h;split at h
  ·split at h
   ·rename_i hk;simp only [Option.some.injEq] at h;subst h hk;rfl
   ·cases h
  ·cases h
 | .str,v,d,h=>by
  simp only [JV] at h;split at h
  ·simp only [Option.some.injEq] at h;subst h;rfl
  ·cases h
 | .bool,_,_,h=>by simp [JV] at h
 | .sl _,_,_,h=>by simp [JV] at h
 | .pair _ _,_,_,h=>by simp [JV] at h
def ay8:Ty→TypeDesc
 | .int k=> .int k
 |_=> .string
theorem Zo {k:IntKind}{d:Int}:∀(l:List Int) (es:List MapEntry) (s:Nat),es.map (·.key)=l.map (.int k)→(∀x,x∈es→x.val=.bool true)→
  (l.contains d=true∧∃s',Instr.findNow (.int k) (.int k d) es s=some (some (s',.bool true)))∨(l.contains d=false∧Instr.findNow (.int k) (.int k d) es s=some none)
 | [],es,s,hk,_=>by
  have:es=[]:=by simpa using hk
  subst this;exact .inr ⟨rfl,rfl⟩
 | x::l,es,s,hk,hv=>by
  cases es with
  |nil=>simp at hk
  | cons e es=>
   simp only [List.map_cons,List.cons.injEq] at hk;cases hb:(d==x) with
   |true=>
    refine .inl ⟨by rw [List.contains_cons,hb,Bool.true_or],s,?_⟩
    have hv1:=hv e (by simp)
    simp [Instr.findNow,Instr.sameNow,hk.1,hb,hv1]
   |false=>
    have hf:Instr.findNow (.int k) (.int k d) (e::es) s=Instr.findNow (.int k) (.int k d) es (s+1):=by simp [Instr.findNow,Instr.sameNow,hk.1,hb]
    rw [hf]
    have hc:(x::l).contains d=l.contains d:=by rw [List.contains_cons,hb,Bool.false_or]
    rw [hc];exact Zo l es (s+1) hk.2 (λy hy=>hv y (by simp [hy]))
theorem Zn {d:ByteArray}:∀(l:List ByteArray) (es:List MapEntry) (s:Nat),es.map (·.key)=l.map .string→(∀x,x∈es→x.val=.bool true)→
  (l.contains d=true∧∃s',Instr.findNow .string (.string d) es s=some (some (s',.bool true)))∨(l.contains d=false∧Instr.findNow .string (.string d) es s=some none)
 | [],es,s,hk,_=>by
  have:es=[]:=by simpa using hk
  subst this;exact .inr ⟨rfl,rfl⟩
 | x::l,es,s,hk,hv=>by
  cases es with
  |nil=>simp at hk
  | cons e es=>
   simp only [List.map_cons,List.cons.injEq] at hk;cases hb:(d==x) with
   |true=>
    refine .inl ⟨by rw [List.contains_cons,hb,Bool.true_or],s,?_⟩
    have hv1:=hv e (by simp)
    simp [Instr.findNow,Instr.sameNow,hk.1,hb,hv1]
   |false=>
    have hf:Instr.findNow .string (.string d) (e::es) s=Instr.findNow .string (.string d) es (s+1):=by simp [Instr.findNow,Instr.sameNow,hk.1,hb]
    rw [hf]
    have hc:(x::l).contains d=l.contains d:=by rw [List.contains_cons,hb,Bool.false_or]
    rw [hc];exact Zn l es (s+1) hk.2 (λy hy=>hv y (by simp [hy]))
theorem ahm {e:Ty}{v:Value}{d:e.D}(hd:JV e v=some d) (l:List e.D) (es:List MapEntry) (s:Nat) (hk:es.map (·.key)=List.map (aHO e) l) (hv:∀x,x∈es→x.val=.bool true):
  (ayY e d l=true∧∃s',Instr.findNow (ay8 e) v es s=some (some (s',.bool true)))∨(ayY e d l=false∧Instr.findNow (ay8 e) v es s=some none):=by
 have hvv:=aqs hd
 subst hvv;cases e with
 |int k=>exact Zo l es s hk hv
 |str=>exact Zn l es s hk hv
 |bool=>simp [JV] at hd
 |sl _=>simp [JV] at hd
 |pair _ _=>simp [JV] at hd
theorem Qy {t:TypeId}{e:Ty}(h:amU P t=some e):∃kt et,P.underlying t=some (.map kt et)∧P.underlying et=some .bool∧P.underlying kt=some (ay8 e)∧(∀(b:Bool) (v:Value) (w':World),(Instr.checkKey b 10000 kt v).run P w'=.ok () w')∧rZ P et=some (.bool false):=by
 unfold amU at h;split at h
 ·rename_i kt et hu
  split at h
  ·rename_i k h1 h2 h3
   simp only [Option.some.injEq] at h;subst h;exact ⟨kt,et,hu,h1,h2,λb v w'=>sZ h2 b v w',h3⟩
  ·rename_i h1 h2 h3
   simp only [Option.some.injEq] at h;subst h;exact ⟨kt,et,hu,h1,h2,λb v w'=>by unfold Instr.checkKey;simp [run_underlying h2],h3⟩
  ·cases h
 ·cases h
theorem Ie {t:TypeId}{x q lv:LV}{y z:Value}(hW:RW G w0 Z0 Z β H w) (h:(Y0 P H t x q).all (λr=>r=lv)) (hr:R β Z w x y) (hq:R β Z w q z) (hk:okV H.length x):
  ∃v,(∀w',(∀b,(Z b∨∃k,x=.om k∧b=(β k).b)→w'.heap[b]? =w.heap[b]?)→(Instr.lookup t y z false).run P w'=.ok v w')∧R β Z w lv v∧okV H.length lv:=by
 unfold Y0 at h;split at h
 ·rename_i k
  split at h
  ·rename_i c0 bt e l pp hb
   unfold aBt at h;split at h
   ·rename_i e' v hs hp
    split at h
    ·rename_i he d _ hd
     obtain ⟨he⟩:=he;subst he;simp only [T.all] at h;subst h;obtain ⟨kt,et,u1,u2,u3,u4,u5⟩:=Qy hs;obtain ⟨b1,b2⟩:=hW.blk k _ hb;simp only [gY] at b1;obtain ⟨es,clock,g1,g2,g3⟩:=b1;simp only [R] at hr
     have hzq:=l7 hp hq
     rcases ahm hd l es.toList 0 g2 g3 with ⟨m1,s',m2⟩ |⟨m1,m2⟩
     ·refine ⟨.bool true,λw' hw'=>?_,by simp only [R,m1],trivial⟩
      have hh':w'.heap[(β k).b]? =some (.map es clock):=by rw [hw' _ (.inr ⟨k,rfl,rfl⟩)];exact g1
      have hget:(getObj (β k).b).run P w'=.ok (.map es clock) w':=by simp [getObj,Sem.run,hh']
      simp [Instr.lookup,run_underlying u1,hr,hget,u4,Instr.findKey,run_underlying u3,hzq,m2]
     ·refine ⟨.bool false,λw' hw'=>?_,by simp only [R,m1],trivial⟩
      have hh':w'.heap[(β k).b]? =some (.map es clock):=by rw [hw' _ (.inr ⟨k,rfl,rfl⟩)];exact g1
      have hget:(getObj (β k).b).run P w'=.ok (.map es clock) w':=by simp [getObj,Sem.run,hh']
      have hz0:=λw=>yV u5 w
      simp [Instr.lookup,run_underlying u1,hr,hget,u4,Instr.findKey,run_underlying u3,hzq,m2,hz0]
    ·cases h
   ·cases h
  ·exact Ic hW h hr hq hk
 ·exact Ic hW h hr hq hk
theorem Nj {t:TypeId}{x q r:LV}{y z u:Value}{H':List aZ}(hW:RW G w0 Z0 Z β H w) (h:(insL P H t x q r).all (λr=>r=H')) (hr:R β Z w x y) (hq:R β Z w q z) (hu:R β Z w r u) (hrk:okV H.length r):
  ∃w',(Instr.mapUpdate t y z u).run P w=.ok () w'∧RW G w0 Z0 Z β H' w'∧H'.length=H.length∧(∀b,Z b→w'.heap[b]? =w.heap[b]?)∧qP (GN β H (owns x)) w w':=by
 unfold insL at h;split at h
 ·rename_i k
  split at h
  ·rename_i c0 bt e l hb
   split at h
   ·rename_i e' v hs hp
    split at h
    ·rename_i he d _ hd
     obtain ⟨he⟩:=he;subst he;simp only [T.all] at h;obtain ⟨hnm,h⟩:=h;subst h;obtain ⟨kt,et,u1,u2,u3,u4,u5⟩:=Qy hs;obtain ⟨b1,b2⟩:=hW.blk k _ hb;simp only [gY] at b1;obtain ⟨es,clock,g1,g2,g3⟩:=b1;simp only [R] at hr hu
     have hzq:=l7 hp hq
     have hlt:=(Array.getElem?_eq_some_iff.1 g1).1
     have hget:(getObj (β k).b).run P w=.ok (.map es clock) w:=by simp [getObj,Sem.run,g1]
     let w':World:={w with heap:=w.heap.setIfInBounds (β k).b (.map (es.push {key:=z,val:=u,born:=clock}) (clock+1))}
     have hset:(setObj (β k).b (.map (es.push {key:=z,val:=u,born:=clock}) (clock+1))).run P w=.ok () w':=by simp [setObj,Sem.run,w',g1]
     have hfn:Instr.findNow (ay8 e') v es.toList 0=some none:=by
      rcases ahm hd l es.toList 0 g2 g3 with ⟨m1,_⟩ |⟨_,m2⟩
      ·rw [hnm] at m1;cases m1
      ·exact m2
     have hlive:live β k ⟨c0,bt,.st e' l,false⟩:=trivial
     have hne:∀j,j≠(β k).b→w'.heap[j]? =w.heap[j]? :=λj hj=>by simp [w',Ne.symm hj]
     have hZw:∀b',Z b'→w'.heap[b']? =w.heap[b']? :=λb' hz=>hne b' (λe=>hW.mX k _ hb hlive rfl (e▸hz))
     refine ⟨w',?_,?_,by simp,hZw,⟨rfl,rfl,rfl,by simp [w'],λj _ hj=>hne j (λe=>hj (e▸Az hb hlive rfl))⟩⟩
     ·rw [hzq] at hset
      simp [Instr.mapUpdate,run_underlying u1,hr,hget,u4,Instr.findKey,run_underlying u3,hzq,hfn,hset]
     ·refine hW.set hb hlive rfl rfl ⟨trivial,trivial⟩ (by simp [w']) ⟨rfl,rfl,rfl⟩ hne ?_
      simp only [gY];refine ⟨es.push {key:=z,val:=u,born:=clock},clock+1,by simp [w',hlt],?_,λx hx=>?_⟩
      ·rw [Array.toList_push,List.map_append,List.map_append,g2]
       simp [hzq,aqs hd]
      ·rw [Array.toList_push,List.mem_append] at hx
       rcases hx with hx|hx
       ·exact g3 x hx
       ·simp at hx;subst hx;exact hu
    ·cases h
   ·cases h
  ·exact Nh hW h hr hq hu hrk
 ·exact Nh hW h hr hq hu hrk
theorem RW.aHG {kd:IntKind}{t:TypeId}(hW:RW G w0 Z0 Z β H w):
  ∃β',(∀k,k<H.length→β' k=β k)∧(β' H.length).b=w.heap.size∧RW G w0 Z0 Z β' (H++[⟨[],t,.mp kd [] [],false⟩]) (w.alloc (.map #[] 0))∧Below w.heap.size w (w.alloc (.map #[] 0)):=by
 have hbw:Below w.heap.size w (w.alloc (.map #[] 0)):=(Below.refl _ _).alloc (Nat.le_refl _) _
 obtain ⟨β',h1,h2,h3⟩:=(hW.same hbw).zI (ℓ:=⟨w.heap.size,0,none⟩) (nb:=⟨[],t,.mp kd [] [],false⟩) rfl ⟨trivial,trivial⟩ (λ_=>⟨λhz=>by have:=hW.oN _ hz;simp only at this;omega,hW.below.size,λj bj hj lj e=>by have:=hW.lt hj lj;simp only at e;omega⟩) (λβ' h1 h2=>by
  simp only [gY,h2];refine ⟨#[],0,?_,by simp,by simp [RL]⟩
  show (w.heap.push _)[w.heap.size]? =_
  simp)
 exact ⟨β',h1,by rw [h2],h3,hbw⟩
theorem RW.aHF {e:Ty}{t:TypeId}(hW:RW G w0 Z0 Z β H w):
  ∃β',(∀k,k<H.length→β' k=β k)∧(β' H.length).b=w.heap.size∧RW G w0 Z0 Z β' (H++[⟨[],t,.st e [],false⟩]) (w.alloc (.map #[] 0))∧Below w.heap.size w (w.alloc (.map #[] 0)):=by
 have hbw:Below w.heap.size w (w.alloc (.map #[] 0)):=(Below.refl _ _).alloc (Nat.le_refl _) _
 obtain ⟨β',h1,h2,h3⟩:=(hW.same hbw).zI (ℓ:=⟨w.heap.size,0,none⟩) (nb:=⟨[],t,.st e [],false⟩) rfl ⟨trivial,trivial⟩ (λ_=>⟨λhz=>by have:=hW.oN _ hz;simp only at this;omega,hW.below.size,λj bj hj lj e=>by have:=hW.lt hj lj;simp only at e;omega⟩) (λβ' h1 h2=>by
  simp only [gY,h2];refine ⟨#[],0,?_,by simp,by simp⟩
  show (w.heap.push _)[w.heap.size]? =_
  simp)
 exact ⟨β',h1,by rw [h2],h3,hbw⟩
end Go.Sx
namespace Go.Sx
open Go Go.RowKit Go.Proofs.YtlihnbimgclogaaGreatDoor
variable {P : Program} {G : dI} {Γ : Specs} {β : Nat → Loc} {Z : Nat → Prop} {Z0 : Gz} {w w0 : World} {F : List LV} {H : List aZ} {a : Act} {ds : List Deferred}
abbrev β0:Nat→Loc:=λ_=>⟨0,0,none⟩
def Valid (P:Program) (G:dI) (f:FuncId) (S:List LV→T LV):Prop:=
 ∀(args:List LV) (vals:Array Value) (w:World) (Z:Nat→Prop) (lv:LV),(∀b,Z b→b<w.heap.size)→aaD G Z w→dQ 0 args→RL β0 Z w args vals.toList→(S args).all (λx=>x=lv)→
  Calls P f vals w λe w'=>Below w.heap.size w w'∧∃v,e=.returned v∧okV 0 lv∧R β0 (λb=>Z b∨(w.heap.size≤b∧b<w'.heap.size)) w' lv v
mutual
theorem noOwn_ok {n:Nat}:∀(x:LV),noOwn x=true→okV n x→okV 0 x
 | .v _,_,_=>trivial
 | .bl _,_,_=>trivial
 | .ki _ _,_,_=>trivial
 | .own _ _,h,_=>by simp [noOwn] at h
 | .agg l,h,hk=>by simp only [okV,noOwn] at*;exact noOwnL_ok l h hk
 | .iU l,h,hk=>by simp only [okV,noOwn] at*;exact noOwnL_ok l h hk
 | .fn _ l,h,hk=>by simp only [okV,noOwn] at*;exact noOwnL_ok l h hk
 | .xq _ _,_,hk=>by simpa only [okV] using hk
 | .os ..,h,_=>by simp [noOwn] at h
 | .op ..,h,_=>by simp [noOwn] at h
 | .om _,h,_=>by simp [noOwn] at h
 | .mp _ _ l,h,hk=>by simp only [okV,noOwn] at*;exact noOwnL_ok l h hk
 | .xl _ _,_,_=>trivial
 | .junk,_,_=>trivial
theorem noOwnL_ok {n:Nat}:∀(x:List LV),noOwnL x=true→dQ n x→dQ 0 x
 | [],_,_=>trivial
 |x::xs,h,hk=>by
  simp only [dQ,noOwnL,Bool.and_eq_true] at*;exact ⟨noOwn_ok x h.1 hk.1,noOwnL_ok xs h.2 hk.2⟩
end
theorem LZ {t:T LV}{lv:LV}(h:(vO t).all (λx=>x=lv)):t.all (λx=>x=lv)∧aqv lv=true:=by
 induction t with
 |ok x=>
  simp only [vO] at h;split at h
  ·rename_i hp;simp only [T.all] at h⊢;subst h;exact ⟨rfl,hp⟩
  ·cases h
 |br b t e iht ihe=>
  simp only [vO,T.all] at h⊢;cases b with
  |true=>obtain ⟨h1,h2⟩:=iht (h.1 rfl);exact ⟨⟨λ_=>h1,λhb=>by cases hb⟩,h2⟩
  |false=>obtain ⟨h1,h2⟩:=ihe (h.2 rfl);exact ⟨⟨λhb=>(by cases hb),λ_=>h1⟩,h2⟩
 |req p t ih=>
  simp only [vO,T.all] at h⊢;obtain ⟨h1,h2⟩:=ih h.2;exact ⟨⟨h.1,h1⟩,h2⟩
 |no=>cases h
def xk (G:dI) (F:List LV) (β:Nat→Loc) (H:List aZ) (o:Oper):List Nat:=GN β H (Xg G F o)
def Post (ds:List Deferred) (G:dI) (w0:World) (Z0:Gz) (F:List LV) (a:Act) (β:Nat→Loc) (H:List aZ) (w:World) (o:Oper) (lv:LV) (H':List aZ) (v:Value) (w':World):Prop:=
 ∃Z' β',RW G w0 Z0 Z' β' H' w'∧RF ds β' Z' w' H'.length F a∧R β' Z' w' lv v∧okV H'.length lv∧
  H.length≤H'.length∧(∀k,k<H.length→β' k=β k)∧(∀k,H.length≤k→k<H'.length→w.heap.size≤(β' k).b∨(β' k).b∈xk G F β H o)∧qP (xk G F β H o) w w'
theorem fQ {tr:List Nat}{w w':World}(h:Below w.heap.size w w'):qP tr w w':=⟨h.os,h.tape,h.output,h.size,λk hk _=>h.block k hk⟩
theorem LM {o:Oper}{lv:LV}{v:Value}(hW:RW G w0 Z0 Z β H w) (hF:RF ds β Z w H.length F a) (hrun:(execOp a.eval o).run P w=.ok (.value v) w) (hr:R β Z w lv v) (hk:okV H.length lv):
  dX P (Post ds G w0 Z0 F a β H w o lv H) ((execOp a.eval o).run P w):=by
 rw [hrun];exact ⟨Z,β,hW,hF,hr,hk,Nat.le_refl _,λ_ _=>rfl,λk h1 h2=>by omega,qP.refl _ _⟩
theorem yX {α:Type}{s:Sem α}{x:α}(h:ku P s=some x):∀w',s.run P w'=.ok x w':=λw'=>qJ w' h
mutual
theorem eqV_run:∀(d:Nat) (t:TypeId) (x y:Value) (b:Bool),eqV P d t x y=some b→∀(e:Nat) (w:World),(Go.Op.equalIn (d+e) t x y).run P w=.ok b w
 |0,_,_,_,_,h=>by simp [eqV] at h
 | d+1,t,x,y,b,h=>λe w=>by
  rw [Nat.add_right_comm];simp only [eqV] at h;split at h
  ·rename_i k0 k a k' c hu
   split at h
   ·rename_i hk
    subst hk;simp only [Option.some.injEq] at h;subst h;exact run_equalIn_int w _ t k k0 a c hu
   ·cases h
  ·rename_i a c hu
   simp only [Option.some.injEq] at h;subst h;exact run_equalIn_bool w _ t a c hu
  ·rename_i a c hu
   simp only [Option.some.injEq] at h;subst h;rw [run_equalIn_string w _ t a c hu,beq_toListBytes]
  ·rename_i fs xs ys hu
   split at h
   ·cases h
   ·rename_i hs
    have hf:P.fieldsOf t=fs:=by simp [Program.fieldsOf,hu]
    rw [run_equalIn_struct w _ t xs ys (by rw [hf];exact hu) (by simpa using hs),hf]
    simp only [Option.map_eq_some_iff] at h;obtain ⟨l,h1,h2⟩:=h;rw [←h2];exact eqFs_run d xs ys fs.toList l h1 e w
  ·cases h
theorem eqFs_run:∀(d:Nat) (xs ys:Array Value) (fs:List Field) (l:List Bool),eqFs P d xs ys fs=some l→∀(e:Nat) (w:World),(Go.Op.eqFields (d+e) xs ys fs).run P w=.ok (alD l) w
 |d,xs,ys,[],l,h=>λe w=>by
  have:l=[]:=by cases d<;>simpa [eqFs] using h.symm
  subst this
  simp [Go.Op.eqFields,alD]
 |0,xs,ys,f::fs,l,h=>by simp [eqFs] at h
 | d +1,xs,ys,f::fs,l,h=>λe w=>by
  simp only [eqFs] at h;split at h
  ·cases h
  ·rename_i hn
   split at h
   ·rename_i x y hx hy
    split at h
    ·rename_i p ps hp hps
     simp only [Option.some.injEq] at h;subst h
     have e1:=yX hx w
     have e2:=yX hy w
     have e3:=eqV_run d f.type x y p hp (1+e) w
     have e4:=eqFs_run d xs ys fs ps hps (1+e) w
     rw [←Nat.add_assoc] at e3 e4;simp only [Go.Op.eqFields,hn,ne_eq,not_false_eq_true,if_true,Sem.run_bind,e1,e2,e3,Result.andThen_ok,Sem.run_ite,Sem.run_pure,e4];cases p with
     |false=>cases ps<;>simp [alD]
     |true=>cases ps<;>simp [alD]
    ·cases h
   ·cases h
end
theorem alv {o:Oper}{e:Operand→Value}{y:Value}(h:Rf P o.op e=some (some y)) (w:World):(execOp e o).run P w=.ok (.value y) w:=by
 unfold Rf at h;split at h
 ·rename_i op t x z t' ho
  split at h
  ·rename_i neg hneg
   split at h
   ·rename_i xs ys hx hy
    simp only [Option.some.injEq] at h;split at h
    ·rename_i g1 b g2 g3
     have e1:=yX g2 w
     have e2:=eqV_run 100 t _ _ b g3 9900 w
     simp only [Option.some.injEq] at h;unfold aqw at hneg;split at hneg
     ·simp only [Option.some.injEq] at hneg
      subst hneg h
      simp [execOp,ho,hx,hy,e1,run_eql_struct,e2]
     ·simp only [Option.some.injEq] at hneg
      subst hneg h
      simp [execOp,ho,hx,hy,e1,run_neq_struct,e2]
     ·cases hneg
    ·cases h
   ·cases h
  ·cases h
 ·cases h
theorem Y9 {o:Oper}{e:Operand→Value}{y:Value}(h:alu P o e=some y) (w:World):(execOp e o).run P w=.ok (.value y) w:=by
 unfold alu at h;split at h
 ·rename_i r hr
  subst h;exact alv hr w
 ·split at h
  ·rename_i z hz
   simp only [Option.some.injEq] at h;subst h;exact qJ w hz
  ·cases h
theorem aMS (y:Value):R β Z w (kn y) y:=by cases y<;>simp only [kn,R]
theorem aBu {n:Nat}(y:Value):okV n (kn y):=by cases y<;>trivial
theorem ac1 {o:Oper}{lv:LV}(hsel:∀cs b,o.op≠ .select cs b) (hW:RW G w0 Z0 Z β H w) (hF:RF ds β Z w H.length F a) (h:(vU P G F o).all (λx=>x=lv)):
  dX P (Post ds G w0 Z0 F a β H w o lv H) ((execOp a.eval o).run P w):=by
 unfold vU at h;split at h
 ·rename_i hpl
  split at h
  ·rename_i y hy
   simp only [T.all] at h
   have hcong:execOp a.eval o=execOp (λx=>(pl (aV G F x)).getD undef) o:=execOp_congr o hsel λx hx=>by
    have h1:=List.all_eq_true.1 hpl x (by simpa using hx)
    obtain ⟨z,hz⟩:=Option.isSome_iff_exists.1 h1;rw [hz];exact l7 hz (hF.eval hW.jJ x).1
   refine LM hW hF (v:=y) ?_ ?_ ?_
   ·rw [hcong];exact Y9 hy w
   ·rw [←h]
    split
    ·exact aMS y
    ·simp only [R]
   ·rw [←h]
    split
    ·exact aBu y
    ·trivial
  ·cases h
 ·cases h
theorem H7 {c x y lv:LV}{vc vx vy:Value}{n:Nat}(h:(agx c x y).all (λz=>z=lv)) (hc:R β Z w c vc) (hx:R β Z w x vx) (hy:R β Z w y vy) (kx:okV n x) (ky:okV n y):
  ∃g,vc=.bool g∧R β Z w lv (if g then vx else vy)∧okV n lv:=by
 unfold agx at h;split at h
 ·simp only [T.all] at h;subst h;exact ⟨true,hc,hx,kx⟩
 ·simp only [T.all] at h;subst h;exact ⟨false,hc,hy,ky⟩
 ·rename_i g
  simp only [R] at hc;refine ⟨g,hc,?_⟩
  have hx':=vP hx
  have hy':=vP hy
  split at h
  ·rename_i h1 h2
   split at h
   ·rename_i hk;simp only [T.all] at h;subst h hk;rw [h1] at hx';rw [h2] at hy';simp only [R] at hx' hy'⊢;subst hx' hy';exact ⟨by cases g<;>rfl,trivial⟩
   ·cases h
  ·rename_i h1 h2
   simp only [T.all] at h;subst h;rw [h1] at hx';rw [h2] at hy';simp only [R] at hx' hy'⊢;subst hx' hy';exact ⟨by cases g<;>rfl,trivial⟩
  ·simp only [T.all] at h
   cases g with
   |true=>have:=h.1 rfl;subst this;exact ⟨hx,kx⟩
   |false=>have:=h.2 rfl;subst this;exact ⟨hy,ky⟩
 ·cases h
theorem NI {t:TypeId}{l:List LV}{lv:LV}{ys:Array Value}{i n:Nat}(h:(aIm P t l i).all (λz=>z=lv)) (hr:RL β Z w l ys.toList) (hk:dQ n l):
  ∃z,(∀w',(Instr.field t (.agg ys) i).run P w'=.ok z w')∧R β Z w lv z∧okV n lv:=by
 unfold aIm at h;split at h
 ·rename_i fs hu
  split at h
  ·rename_i f hf
   split at h
   ·rename_i m ha hs
    split at h
    ·simp only [T.all] at h
     subst h;refine ⟨.agg (ys.extract f.offset (f.offset+m)),λw'=>?_,vz ?_,qL (hk.take_drop _ _)⟩
     ·simp [Instr.field,run_underlying hu,hf,asAgg,part,Ae ha,run_sizeOf hs]
     ·have:=hr.take_drop f.offset m
      rw [Array.toList_extract,List.extract_eq_take_drop]
      simpa using this
    ·cases h
   ·rename_i ha
    split at h
    ·rename_i y hy
     simp only [T.all] at h;subst h;obtain ⟨z,e4,e5⟩:=RL.get _ _ hr hy
     have e6:ys[f.offset]? =some z:=by simpa using e4
     refine ⟨z,λw'=>?_,e5,dQ.get _ _ hk hy⟩
     simp [Instr.field,run_underlying hu,hf,asAgg,part,Ae ha,e6]
    ·cases h
   ·cases h
  ·cases h
 ·cases h
theorem D9 {s:TypeId}{x lv:LV}{y:Value}{i n:Nat}(h:(NP P s x i).all (λz=>z=lv)) (hr:R β Z w x y) (hk:okV n x):
  ∃z,(∀w',(Instr.fieldAt s y i).run P w'=.ok z w')∧R β Z w lv z∧okV n lv:=by
 unfold NP at h;split at h
 ·rename_i fs hu
  split at h
  ·rename_i f hf
   split at h
   ·rename_i m hsz
    have e1:=λw=>run_sizeOf hsz w
    split at h
    ·rename_i k off
     simp only [T.all] at h;simp only [R] at hr;refine ⟨.pointer (some ⟨(β k).b,off+f.offset,none⟩),λw'=>?_,?_,?_⟩
     ·simp [Instr.fieldAt,run_underlying hu,hf,Instr.sureAddr,hr,fieldPlace,e1,addr_add]
     ·rw [←h];simp only [R]
     ·rw [←h];simpa only [okV] using hk
    ·rename_i k es i' j
     simp only [T.all] at h;simp only [R] at hr;obtain ⟨hcap,hr⟩:=hr;refine ⟨.pointer (some ⟨(β k).b,(β k).o+i'*es+(j+f.offset),none⟩),λw'=>?_,?_,?_⟩
     ·simp [Instr.fieldAt,run_underlying hu,hf,Instr.sureAddr,hr,fieldPlace,e1,addr_add,Nat.add_assoc]
     ·rw [←h];simp only [R];exact ⟨hcap,trivial⟩
     ·rw [←h];simpa only [okV] using hk
    ·rename_i q g
     split at h
     ·rename_i hle
      simp only [T.all] at h;simp only [R] at hr;obtain ⟨b,off,h1,h2,h3⟩:=hr;refine ⟨.pointer (some ⟨b,off+f.offset,none⟩),λw'=>?_,?_,?_⟩
      ·simp [Instr.fieldAt,run_underlying hu,hf,Instr.sureAddr,h1,fieldPlace,e1,addr_add]
      ·rw [←h]
       simp only [R];refine ⟨b,off+f.offset,rfl,h2,λj hj=>?_⟩
       have:=h3 (f.offset+j) (by omega)
       rwa [←Nat.add_assoc] at this
      ·rw [←h];simp only [okV] at hk⊢;exact λj=>hk _
     ·cases h
    ·cases h
   ·cases h
  ·cases h
 ·cases h
theorem qM {n:Int}{g:Nat→LV}{lv:LV}:∀(m j:Nat),(chain n g m j).all (λz=>z=lv)→∃i,j≤i∧i<j+m∧n=(i:Int)∧lv=g i
 |0,j,h=>by cases h
 | m+1,j,h=>by
  simp only [chain,T.all] at h
  by_cases hn:n=(j:Int)
  ·have:=h.1 (by simpa using hn);exact ⟨j,Nat.le_refl _,by omega,hn,this.symm⟩
  ·obtain ⟨i,h1,h2,h3,h4⟩:=qM m (j+1) (h.2 (by simpa using hn))
   exact ⟨i,by omega,by omega,h3,h4⟩
theorem xQ {t:TypeId} {x q lv:LV} {y z:Value} {c:Bool} {N:Nat} (h:(BU P t x c q).all (λr=>r=lv)) (hr:R β Z w x y) (hq:R β Z w q z) (hk:okV N x):
  ∃v,(∀w',(Instr.indexAt t y z).run P w'=.ok v w')∧R β Z w lv v∧okV N lv:=by
 unfold BU at h;simp only [aAD] at h;split at h
 ·rename_i kd n hpl
  have hz:=l7 hpl hq
  split at h
  ·rename_i len e hu
   split at h
   ·rename_i m hsz
    have e1:=λw=>run_sizeOf hsz w
    have fin:∀(b off i:Nat),i<len→n=(i:Int)→y=.pointer (some ⟨b,off,none⟩)→∀w',(Instr.indexAt t y z).run P w'=.ok (.pointer (some ⟨b,off+i*(m+1),none⟩)) w':=λb off i hi hn hy w'=>by
     have h0:(0:Int)≤n:=by omega
     have h1:n<(len:Int):=by omega
     have h2:n.toNat=i:=by omega
     simp [Instr.indexAt,hz,asIntOf,run_underlying hu,hy,Instr.sureAddr,h0,h1,e1,addr_add,h2]
    have own:∀(k off i:Nat),i<len→n=(i:Int)→R β Z w (.own k off) y→okV N (.own k off)→lv=.own k (off+i*(m+1))→∃v,(∀w',(Instr.indexAt t y z).run P w'=.ok v w')∧R β Z w lv v∧okV N lv:=λk off i hi hn hr hk hl=>by
     simp only [R] at hr;refine ⟨_,fin _ _ i hi hn hr,?_,?_⟩
     ·rw [hl];simp only [R]
     ·rw [hl];simpa only [okV] using hk
    have opp:∀(k es i' j i:Nat),i<len→n=(i:Int)→R β Z w (.op k es i' j) y→okV N (.op k es i' j)→lv=.op k es i' (j+i*(m+1))→∃v,(∀w',(Instr.indexAt t y z).run P w'=.ok v w')∧R β Z w lv v∧okV N lv:=λk es i' j i hi hn hr hk hl=>by
     simp only [R] at hr;refine ⟨_,fin _ _ i hi hn hr.2,?_,?_⟩
     ·rw [hl];simp only [R,Nat.add_assoc];exact ⟨hr.1,trivial⟩
     ·rw [hl];simpa only [okV] using hk
    have ext:∀(q:Nat) (g:Nat→LV) (i:Nat),i<len→len*(m+1)≤q→n=(i:Int)→R β Z w (.xq q g) y→okV N (.xq q g)→lv=.xq (m+1) (λj=>g (i*(m+1)+j))→∃v,(∀w',(Instr.indexAt t y z).run P w'=.ok v w')∧R β Z w lv v∧okV N lv:=λq g i hi hle hn hr hk hl=>by
     simp only [R] at hr;obtain ⟨b,off,h1,h2,h3⟩:=hr;refine ⟨_,fin _ _ i hi hn h1,?_,?_⟩
     ·rw [hl]
      simp only [R];refine ⟨b,_,rfl,h2,λj hj=>?_⟩
      have hm:i*(m+1)+(m+1)≤len*(m+1):=by
       have:=Nat.mul_le_mul_right (m+1) (show i+1≤len by omega)
       rwa [Nat.add_mul,Nat.one_mul] at this
      have:=h3 (i*(m+1)+j) (by omega)
      rwa [←Nat.add_assoc] at this
     ·rw [hl];simp only [okV] at hk⊢;exact λj=>hk _
    split at h
    ·rename_i k es i' j
     split at h
     ·split at h
      ·rename_i hb
       simp only [T.all] at h;exact opp k es i' j n.toNat (by omega) (by omega) hr hk h.symm
      ·cases h
     ·obtain ⟨i,_,h2,h3,h4⟩:=qM _ _ h
      exact opp k es i' j i (by omega) h3 hr hk h4
    ·rename_i k off
     split at h
     ·split at h
      ·rename_i hb
       simp only [T.all] at h;exact own k off n.toNat (by omega) (by omega) hr hk h.symm
      ·cases h
     ·obtain ⟨i,_,h2,h3,h4⟩:=qM _ _ h
      exact own k off i (by omega) h3 hr hk h4
    ·rename_i q g
     split at h
     ·rename_i hle
      split at h
      ·split at h
       ·rename_i hb
        simp only [T.all] at h;exact ext q g n.toNat (by omega) hle (by omega) hr hk h.symm
       ·cases h
      ·split at h
       ·obtain ⟨i,_,h2,h3,h4⟩:=qM _ _ h
        exact ext q g i (by omega) hle h3 hr hk h4
       ·simp only [T.all] at h
        obtain ⟨⟨b1,b2⟩,h⟩:=h;exact ext q g n.toNat (by omega) hle (by omega) hr hk h.symm
     ·cases h
    ·cases h
   ·cases h
  ·rename_i e hu
   split at h
   ·rename_i m e' l hsz
    split at h
    ·rename_i hes
     simp only [T.all] at h;obtain ⟨⟨h0,h1⟩,h2⟩:=h;simp only [R] at hr;obtain ⟨ad,cap,g1,gc,g2⟩:=hr;obtain ⟨b,off,g3,g4,g5⟩:=g2 (by omega)
     have e1:=λw=>run_sizeOf hsz w
     have hlt:n.toNat<List.length l:=by omega
     have hgx:l[n.toNat]? =some (gx l n):=by simp only [gx,List.getD,List.getElem?_eq_getElem hlt,Option.getD_some]
     have g6:=g5 n.toNat _ hgx
     refine ⟨.pointer (some ⟨b,off+n.toNat*(m+1),none⟩),λw'=>?_,?_,?_⟩
     ·simp [Instr.indexAt,hz,asIntOf,run_underlying hu,g1,g3,h0,h1,e1,addr_add]
     ·rw [←h2]
      simp only [R];refine ⟨b,_,rfl,g4,λj hj=>?_⟩
      rw [hes] at g6
      have hjl:j<(iq e' (gx l n)).length:=by rw [dM];omega
      exact He e' _ b _ g6 j _ (getD_lt hjl)
     ·rw [←h2]
      simp only [okV];exact λj=>KG (qF 0 e' _) j
    ·cases h
   ·rename_i m k es off len hsz
    split at h
    ·rename_i hes
     simp only [T.all] at h;obtain ⟨⟨h0,h1⟩,h2⟩:=h
     have e1:=λw=>run_sizeOf hsz w
     simp only [R] at hr;split at hr
     ·obtain ⟨rfl,_,_⟩:=hr
      exact absurd h1 (by simp;omega)
     ·rename_i c hcap
      obtain ⟨g1,ad,g2,g3⟩:=hr
      have g3:=g3 (by omega)
      refine ⟨.pointer (some ⟨(β k).b,(β k).o+(off+n.toNat)*es+0,none⟩),λw'=>?_,?_,?_⟩
      ·simp [Instr.indexAt,hz,asIntOf,run_underlying hu,g2,g3,h0,h1,e1,addr_add,hes,Nat.add_mul,Nat.add_assoc]
      ·rw [←h2];simp only [R];exact ⟨by rw [hcap];simp,trivial⟩
      ·rw [←h2];simpa only [okV] using hk
    ·cases h
   ·rename_i m k es off len cp hsz
    split at h
    ·rename_i hes
     have e1:=λw=>run_sizeOf hsz w
     have own:∀(i:Nat),i<len→n=(i:Int)→lv=.own k ((off+i)*(m+1))→∃v,(∀w',(Instr.indexAt t y z).run P w'=.ok v w')∧R β Z w lv v∧okV N lv:=λi hi hn hl=>by
      simp only [R] at hr;obtain ⟨g1,ad,g2,g3⟩:=hr
      have g3:=g3 (by omega)
      have h0:(0:Int)≤n:=by omega
      have h1:n<(len:Int):=by omega
      have h2:n.toNat=i:=by omega
      refine ⟨.pointer (some ⟨(β k).b,(off+i)*(m+1),none⟩),λw'=>?_,?_,?_⟩
      ·simp [Instr.indexAt,hz,asIntOf,run_underlying hu,g2,g3,h0,h1,e1,addr_add,hes,Nat.add_mul,h2]
      ·rw [hl];simp only [R]
      ·rw [hl];simpa only [okV] using hk
     split at h
     ·split at h
      ·rename_i hb
       simp only [T.all] at h;exact own n.toNat (by omega) (by omega) h.symm
      ·cases h
     ·obtain ⟨i,_,h2,h3,h4⟩:=qM _ _ h
      exact own i (by omega) h3 h4
    ·cases h
   ·cases h
  ·cases h
 ·cases h
theorem Zk (off:Nat):∀(l:List Value) (s:Nat) (zs:Array Value) (i:Nat),off+s+l.length≤zs.size→
  ((l.zipIdx s).foldl (λ(cs:Array Value) p=>cs.setIfInBounds (off+p.2) p.1) zs).size=zs.size∧
  ((l.zipIdx s).foldl (λ(cs:Array Value) p=>cs.setIfInBounds (off+p.2) p.1) zs)[i]? =if off+s≤i∧i<off+s+l.length then l[i-(off+s)]? else zs[i]?
 | [],s,zs,i,_=>by simp;intro h1 h2;omega
 | x::xs,s,zs,i,h=>by
  simp only [List.zipIdx_cons,List.foldl_cons];obtain ⟨h1,h2⟩:=Zk off xs (s+1) (zs.setIfInBounds (off+s) x) i (by simp at h⊢;omega)
  refine ⟨by rw [h1];simp,?_⟩
  rw [h2];simp only [List.length_cons] at h⊢
  by_cases hi:i=off+s
  ·subst hi
   rw [if_neg (by omega),if_pos (by omega),Array.getElem?_setIfInBounds,if_pos rfl,if_pos (by omega)]
   simp
  ·by_cases hr:off+(s+1)≤i∧i<off+(s+1)+xs.length
   ·rw [if_pos hr,if_pos (by omega)]
    have:i-(off+s)=(i-(off+(s+1)))+1:=by omega
    rw [this,List.getElem?_cons_succ]
   ·rw [if_neg hr,if_neg (by omega)]
    rw [Array.getElem?_setIfInBounds];rw [if_neg (by omega)]
theorem adb (off:Nat) (vs zs:Array Value) (h:off+vs.size≤zs.size):
  (vs.zipIdx.foldl (λ(cs:Array Value) (p:Value×Nat)=>cs.setIfInBounds (off+p.2) p.1) zs).toList=zs.toList.take off++vs.toList++zs.toList.drop (off+vs.toList.length):=by
 have e:vs.zipIdx.foldl (λ(cs:Array Value) (p:Value×Nat)=>cs.setIfInBounds (off+p.2) p.1) zs=(vs.toList.zipIdx 0).foldl (λ(cs:Array Value) p=>cs.setIfInBounds (off+p.2) p.1) zs:=by
  rw [←Array.foldl_toList];simp
 rw [e]
 apply List.ext_getElem?
 intro i
 have:=(Zk off vs.toList 0 zs i (by simpa using h)).2
 rw [Array.getElem?_toList,this];simp only [Nat.add_zero,Array.length_toList]
 by_cases h1:i<off
 ·rw [if_neg (by omega),List.append_assoc,List.getElem?_append_left (by simp;omega),List.getElem?_take,if_pos h1];simp
 ·by_cases h2:i<off+vs.size
  ·rw [if_pos (by omega),List.append_assoc,List.getElem?_append_right (by simp;omega),List.getElem?_append_left (by simp;omega)]
   simp;congr 1;omega
  ·rw [if_neg (by omega),List.getElem?_append_right (by simp;omega),List.getElem?_drop]
   simp
   congr 1
   omega
theorem vG {place:Nat→Option (Nat×Nat)}{n:Nat}:∀(pl:List (Nat×LV)) (pv:List (Nat×Value)) (cells cs:List LV) (zs:Array Value),Bo place cells pl=some cs→pv.map (·.1)=pl.map (·.1)→
  RL β Z w (pl.map (·.2)) (pv.map (·.2))→dQ n (pl.map (·.2))→RL β Z w cells zs.toList→dQ n cells→∃zs',Instr.fill place zs pv=some zs'∧RL β Z w cs zs'.toList∧dQ n cs
 | [],pv,cells,cs,zs,h,hp,hr,_,hc,hok=>by
  simp only [Bo,Option.some.injEq] at h;subst h
  have:pv=[]:=by simpa using hp
  subst this;exact ⟨zs,rfl,hc,hok⟩
 | (i,x)::rest,pv,cells,cs,zs,h,hp,hr,hk,hc,hok=>by
  cases pv with
  |nil=>simp at hp
  | cons q qs=>
   obtain ⟨i',v⟩:=q;simp only [List.map_cons,List.cons.injEq] at hp;obtain ⟨rfl,hp'⟩:=hp;simp only [List.map_cons,RL] at hr;obtain ⟨y,ys,e1,e2,e3⟩:=hr;simp only [List.cons.injEq] at e1;obtain ⟨rfl,rfl⟩:=e1;simp only [List.map_cons,dQ] at hk;simp only [Bo] at h;split at h
   ·rename_i off size c hpl hcl
    split at h
    ·rename_i hle
     obtain ⟨c1,c2⟩:=Eb hcl e2
     have c3:=AO hcl hk.1
     have l1:=RL.length c1
     have l2:=RL.length hc
     have hsz:v.cells.size=size:=by simp at l1;omega
     have hle2:off+v.cells.size≤zs.size:=by simp at l2;omega
     have hset:=adb off v.cells zs hle2
     have hrl:=RL.setAt hc c1 off
     rw [←hset] at hrl;obtain ⟨zs',f1,f2,f3⟩:=vG rest qs _ cs _ h hp' e3 hk.2 hrl (dQ.setAt hok c3 off);refine ⟨zs',?_,f2,f3⟩;simp only [Instr.fill,hpl];rw [if_neg (by simp [hsz];omega)]
     exact f1
    ·cases h
   ·cases h
theorem Ee {t:TypeId}{pl:List (Nat×LV)}{pv:Array (Nat×Value)}{lv:LV}{n:Nat}(h:(Hl P t pl).all (λz=>z=lv)) (hp:pv.toList.map (·.1)=pl.map (·.1)) (hr:RL β Z w (pl.map (·.2)) (pv.toList.map (·.2))) (hk:dQ n (pl.map (·.2))):
  ∃v,(∀w',(Instr.build t pv).run P w'=.ok v w')∧R β Z w lv v∧okV n lv:=by
 unfold Hl at h;split at h
 ·rename_i z pf hz hpf
  split at h
  ·rename_i cs hcs
   simp only [T.all] at h;obtain ⟨zs',f1,f2,f3⟩:=vG (β:=β) (Z:=Z) (w:=w) (n:=n) pl pv.toList _ cs z.cells hcs hp hr hk (alI _) (YN _ _);refine ⟨.agg zs',λw'=>run_build w' t pv zs' ?_,?_,?_⟩
   ·unfold rZ at hz
    unfold ani at hpf;unfold Program.built;cases hi:P.info? t with
    |none=>simp [hi] at hz
    | some it=>
     simp only [hi,Option.bind_some] at hz;split at hpf
     ·rename_i fields hu
      cases hm:fields.toList.mapM (λf=>(P.info? f.type).map λi=>(f.offset,i.size)) with
      |none=>simp [hm] at hpf
      |some ps=>
       simp only [hm,Option.map_some,Option.some.injEq] at hpf;simp only [hu,hz,hm];rw [←hpf] at f1;exact f1
     ·rename_i e hu
      cases hm:P.info? e with
      |none=>simp [hm] at hpf
      |some ie=>
       simp only [hm,Option.map_some,Option.some.injEq] at hpf;simp only [hu,hz,hm];rw [←hpf] at f1;exact f1
     ·cases hpf
   ·rw [←h]
    split
    ·simp only [R];exact ⟨zs',rfl,f2⟩
    ·exact vz f2
   ·rw [←h]
    split
    ·exact f3
    ·exact qL f3
  ·cases h
 ·cases h
theorem KL {x:Operand}{y:Value}{n:Nat}(h:R β Z w (aV G F x) y∧okV n (aV G F x)):R β Z w (IA G F x) y∧okV n (IA G F x):=by
 cases x with
 |const v=>exact ⟨vP h.1,vk h.2⟩
 |tmp t=>exact h
 |global g=>exact h
 |func f=>exact h
theorem ar2 (e:Ty):∀(n:Nat) (cs:List LV) (l:List e.D) (ys:List Value),ar4 e n cs=some l→RL β Z w cs ys→List.length l=n∧∀(Z':Nat→Prop) (w':World) (b o:Nat),(∀b,Z b→Z' b)→(∀b,Z b→w'.heap[b]? =w.heap[b]?)→(∀(j:Nat) v,ys[j]? =some v→w'.cell? ⟨b,o+j,none⟩=some v)→∀(i:Nat) (d:e.D),l[i]? =some d→RD Z' w' e d b (o+i*e.n)
 |0,cs,l,ys,h,hr=>by
  simp only [ar4,Option.some.injEq] at h;subst h;exact ⟨rfl,λ_ _ _ _ _ _ _ i d hd=>by simp at hd⟩
 | n +1,cs,l,ys,h,hr=>by
  simp only [ar4] at h;split at h
  ·rename_i d r hd hr'
   simp only [Option.some.injEq] at h;subst h
   have h1:RL β Z w (cs.take e.n) (ys.take e.n):=by simpa using hr.take_drop 0 e.n
   have h2:RL β Z w (cs.drop e.n) (ys.drop e.n):=by
    refine RL.dO (by simp [RL.length hr]) λi z hz=>?_
    rw [List.getElem?_drop] at hz⊢;exact RL.get _ _ hr hz
   obtain ⟨k1,k2⟩:=ar2 e n _ r _ hr' h2;refine ⟨by simp [k1],λZ' w' b o hZ hw hc i d' hd'=>?_⟩
   cases i with
   |zero=>
    simp at hd'
    subst hd';rw [Nat.zero_mul,Nat.add_zero];refine adi hZ hw e _ d _ hd h1 b o (λj v hv=>?_)
    rw [List.getElem?_take] at hv;split at hv
    ·exact hc j v hv
    ·cases hv
   | succ i=>
    simp at hd'
    have:=k2 Z' w' b (o+e.n) hZ hw (λj v hv=>by
     rw [List.getElem?_drop] at hv
     have:=hc (e.n+j) v hv
     rwa [←Nat.add_assoc] at this) i d' hd'
    rw [show o+(i+1)*e.n=o+e.n+i*e.n by rw [Nat.add_mul,Nat.one_mul];omega]
    exact this
  ·cases h
theorem Na {t:TypeId}{len:Nat}{pl:List (Nat×LV)}{pv:Array (Nat×Value)}{lv:LV}{n:Nat}(h:(V3 P t len pl).all (λz=>z=lv)) (hp:pv.toList.map (·.1)=pl.map (·.1)) (hr:RL β Z w (pl.map (·.2)) (pv.toList.map (·.2))) (hk:dQ n (pl.map (·.2))):
  ∃elem cells,(∀w',(Instr.buildSlice t len pv).run P w'=.ok (.slice (some ⟨w'.heap.size,0,none⟩) len len) (w'.alloc (.cells cells elem)))∧
   (∀(β':Nat→Loc) (Z':Nat→Prop) (w':World) (b:Nat),(∀b,Z b→Z' b)→(∀b,Z b→w'.heap[b]? =w.heap[b]?)→(∀(j:Nat) v,cells.toList[j]? =some v→w'.cell? ⟨b,0+j,none⟩=some v)→Z' b→R β' Z' w' lv (.slice (some ⟨b,0,none⟩) len len))∧okV n lv:=by
 unfold V3 at h;split at h
 ·rename_i e hu
  split at h
  ·rename_i ty m z hty hsz hz
   split at h
   ·rename_i hcond
    obtain ⟨c1,c2,c3,c4⟩:=hcond;split at h
    ·rename_i cs hcs
     split at h
     ·rename_i l hl
      simp only [T.all] at h
      have hz0:RL β Z w ((List.range (len*m)).map (λi=>LV.v (z.cells[i%z.cells.size]!))) ((Array.range (len*m)).map (λi=>z.cells[i%z.cells.size]!)).toList:=by
       have:=alI (β:=β) (Z:=Z) (w:=w) ((List.range (len*m)).map (λi=>z.cells[i%z.cells.size]!))
       simpa [List.map_map,Function.comp_def] using this
      have hok0:dQ n ((List.range (len*m)).map (λi=>LV.v (z.cells[i%z.cells.size]!))):=by
       have:=YN n ((List.range (len*m)).map (λi=>z.cells[i%z.cells.size]!))
       simpa [List.map_map,Function.comp_def] using this
      obtain ⟨zs',f1,f2,f3⟩:=vG (β:=β) (Z:=Z) (w:=w) (n:=n) pl pv.toList _ cs _ hcs hp hr hk hz0 hok0;obtain ⟨k1,k2⟩:=ar2 ty len cs l _ hl f2;refine ⟨e,zs',λw'=>?_,λβ' Z' w' b hZ hw hc hzb=>?_,by rw [←h];trivial⟩
      ·have e1:=λw=>run_sizeOf hsz w
       have e2:=λw=>yV hz w
       have n1:¬(len*m>2^24):=by omega
       have n2:¬(len*m=0):=by omega
       simp only [Instr.buildSlice,Sem.run_bind,run_underlying hu,Result.andThen_ok,e1,if_neg n1,if_neg n2,e2,Sem.run_pure,f1,newRow];rfl
      ·rw [←h]
       simp only [R];refine ⟨_,len,by rw [k1],by omega,λ_=>⟨b,0,rfl,hzb,λi d hd=>?_⟩⟩
       exact k2 Z' w' b 0 hZ hw hc i d hd
     ·cases h
    ·cases h
   ·cases h
  ·cases h
 ·cases h
theorem acz {t:TypeId}{len:Nat}{pl:List (Nat×LV)}{pv:Array (Nat×Value)}{lv:LV}{H':List aZ}(hW:RW G w0 Z0 Z β H w) (h:(ay4 P H t len pl).all (λq=>q=(lv,H'))) (hp:pv.toList.map (·.1)=pl.map (·.1)) (hr:RL β Z w (pl.map (·.2)) (pv.toList.map (·.2))) (hk:dQ H.length (pl.map (·.2))):
  ∃w' v,(Instr.buildSlice t len pv).run P w=.ok v w'∧Below w.heap.size w w'∧∃β',(∀k,k<H.length→β' k=β k)∧RW G w0 Z0 Z β' H' w'∧R β' Z w' lv v∧okV H'.length lv∧H'.length=H.length+1∧(β' H.length).b=w.heap.size:=by
 unfold ay4 at h;split at h
 ·rename_i e hu
  split at h
  ·rename_i m z hsz hz
   split at h
   ·rename_i hc
    obtain ⟨hzs,hm0,hm1⟩:=hc;split at h
    ·rename_i cs hcs
     simp only [T.all,Prod.mk.injEq] at h;obtain ⟨rfl,rfl⟩:=h
     have hz0:RL β Z w ((List.range (len*m)).map (λi=>LV.v (z.cells[i%z.cells.size]!))) ((Array.range (len*m)).map (λi=>z.cells[i%z.cells.size]!)).toList:=by
      have:=alI (β:=β) (Z:=Z) (w:=w) ((List.range (len*m)).map (λi=>z.cells[i%z.cells.size]!))
      simpa [List.map_map,Function.comp_def] using this
     have hok0:dQ H.length ((List.range (len*m)).map (λi=>LV.v (z.cells[i%z.cells.size]!))):=by
      have:=YN H.length ((List.range (len*m)).map (λi=>z.cells[i%z.cells.size]!))
      simpa [List.map_map,Function.comp_def] using this
     obtain ⟨zs',f1,f2,f3⟩:=vG (β:=β) (Z:=Z) (w:=w) (n:=H.length) pl pv.toList _ cs _ hcs hp hr hk hz0 hok0;obtain ⟨β',b1,b2,b3,b4⟩:=hW.alloc (t:=e) f2 f3
     have hbw:Below w.heap.size w (w.alloc (.cells zs' e)):=(Below.refl _ _).alloc (Nat.le_refl _) _
     refine ⟨w.alloc (.cells zs' e),.slice (some ⟨w.heap.size,0,none⟩) len len,?_,hbw,β',b1,b3,?_,by simp [okV],by simp,b2⟩
     ·have e1:=λw=>run_sizeOf hsz w
      have e2:=λw=>yV hz w
      have n1:¬(len*m>2^24):=by omega
      have n2:¬(len*m=0):=by omega
      simp only [Instr.buildSlice,Sem.run_bind,run_underlying hu,Result.andThen_ok,e1,if_neg n1,if_neg n2,e2,Sem.run_pure,f1,newRow];rfl
     ·simp only [R,b2]
      exact ⟨by omega,⟨w.heap.size,0,none⟩,by simp,λ_=>by simp⟩
    ·cases h
   ·cases h
  ·cases h
 ·cases h
theorem wS {o:Oper}{g:FuncId}{l:List LV}{lv:LV}{H':List aZ}(h:(zD P Γ H o g l).all (λq=>q=(lv,H'))):∃fn S,P.funcs[g]? =some fn∧¬fn.body=none∧¬fn.name= "runtime.NumGoroutine"∧Γ g=some S∧
  (if noOwnL l then (S l).bind λy=>(T.ok (y,H):T (LV×List aZ))
      else if nR P 8 o.type then ((wP (gX H 6) l).bind λ_=>vO (S (l.map (su H 6)))).bind λy=> .ok (y,H)
      else if qG H (reach H 64 (ownsL l) []) l then ((wP (gX H 6) l).bind λ_=>S (l.map (su H 6))).bind λy=> .ok (y,o5 (reach H 64 (ownsL l) []) 0 H) else .no).all (λq=>q=(lv,H')):=by
 unfold zD at h;split at h
 ·rename_i fn hfn
  split at h
  ·rename_i hb
   simp only [Bool.and_eq_true,Bool.not_eq_true'] at hb;split at h
   ·rename_i S hS
    exact ⟨fn,S,hfn,by intro hbb;simp [hbb] at hb,by simpa using hb.2,hS,h⟩
   ·cases h
  ·cases h
 ·cases h
theorem Rk {o:Oper}{lv:LV}(hΓ:∀g S,Γ g=some S→Valid P G g S) (hW:RW G w0 Z0 Z β H w) (hF:RF ds β Z w H.length F a) {g:FuncId}{vals:Array Value}(hrun:(execOp a.eval o).run P w=.ok (.enter g vals) w)
  {H':List aZ} {l:List LV} (hargs:RL β Z w l vals.toList) (hoka:dQ H.length l) (h:(zD P Γ H o g l).all (λq=>q=(lv,H'))):
  dX P (Post ds G w0 Z0 F a β H w o lv H') ((execOp a.eval o).run P w):=by
 obtain ⟨fn,S,_,_,_,hS,h⟩:=wS h;rw [hrun];simp only [dX]
 have hval:=hΓ g S hS
 have hH:=λk b hb=>(hW.blk k b hb).2
 split at h
 ·rename_i hno
  obtain ⟨y,h1,h2⟩:=T.bF h;simp only [T.all,Prod.mk.injEq] at h2;obtain ⟨rfl,rfl⟩:=h2
  have hok0:=noOwnL_ok _ hno hoka
  have hr0:RL β0 Z w l (vals).toList:=RL.mono (n:=0) (λ_ hk=>absurd hk (by omega)) (λ_ h=>h) (λ_ _=>rfl) _ _ hok0 hargs
  refine (hval _ _ w Z y hW.oN hW.jJ hok0 hr0 h1).mono λe w' ⟨hbw,v,he,hk,hr⟩=>⟨v,he,?_⟩
  refine ⟨_,β,hW.call hbw,hF.mono (Nat.le_refl _) (λ_ _=>rfl) (λ_ h=> .inl h) (λb hz=>cu hbw (hW.oN b hz)),?_,okV.mono (Nat.zero_le _) _ hk,Nat.le_refl _,λ_ _=>rfl,λk h1 h2=>by omega,fQ hbw⟩
  exact R.mono (n:=0) (λ_ hk=>absurd hk (by omega)) (λ_ h=>h) (λ_ _=>rfl) _ _ hk hr
 ·have hok0:dQ 0 (l.map (su H 6)):=Aq hoka (λx hx=>tV H hH 6 x hx)
  split at h
  ·obtain ⟨y,h1,h2⟩:=T.bF h
   simp only [T.all,Prod.mk.injEq] at h2;obtain ⟨rfl,rfl⟩:=h2;obtain ⟨_,hg,h1⟩:=T.bF h1
   have hG:=T.bQ (K':=λ_=>True) (λ_ _=>trivial) hg
   obtain ⟨h1,h2⟩:=LZ h1
   have hr0:RL β0 (ZP Z β H λ_=>True) w (l.map (su H 6)) (vals).toList:=
    RL.mono (n:=0) (λ_ hk=>absurd hk (by omega)) (λ_ h=>h) (λ_ _=>rfl) _ _ hok0 (zM (S:=λ_=>True) hargs hoka (λ_ _=>trivial) (λx y hm hs hx hr=>wC hW (λ_ _ _ _ _ _=>trivial) 6 x y (nD hG x hm) hs hx hr))
   have hzo:∀b,ZP Z β H (λ_=>True) b→b<w.heap.size:=λb hz=>by
    rcases hz with hz|⟨k,bk,_,h2,h3,rfl⟩
    ·exact hW.oN b hz
    ·exact hW.lt h2 h3
   refine (hval _ _ w _ y hzo (hW.jJ.mono (λ_ h=> .inl h) (λ_ _=>rfl)) hok0 hr0 h1).mono λe w' ⟨hbw,v,he,hk,hr⟩=>⟨v,he,?_⟩
   refine ⟨Z,β,hW.same hbw,hF.mono (Nat.le_refl _) (λ_ _=>rfl) (λ_ h=>h) (λb hz=>cu hbw (hW.oN b hz)),?_,okV.mono (Nat.zero_le _) _ hk,Nat.le_refl _,λ_ _=>rfl,λk h1 h2=>by omega,fQ hbw⟩
   obtain ⟨x,hx⟩:=Option.isSome_iff_exists.1 h2;rw [l7 hx hr];exact aN6 hx
  ·split at h
   ·rename_i hcl
    obtain ⟨y,h1,h2⟩:=T.bF h;simp only [T.all,Prod.mk.injEq] at h2;obtain ⟨rfl,rfl⟩:=h2;obtain ⟨_,hg,h1⟩:=T.bF h1
    have hG:=T.bQ (K':=λ_=>True) (λ_ _=>trivial) hg
    obtain ⟨c1,c2⟩:=mF hcl
    have hP:=hW.pub (reach H 64 (ownsL l) [])
    have hr0:RL β0 (ZP Z β H λk=>k∈reach H 64 (ownsL l) []) w (l.map (su H 6)) (vals).toList:=
     RL.mono (n:=0) (λ_ hk=>absurd hk (by omega)) (λ_ h=>h) (λ_ _=>rfl) _ _ hok0 (zM (S:=λk=>k∈reach H 64 (ownsL l) []) hargs hoka c1 (λx y hm hs hx hr=>wC hW c2 6 x y (nD hG x hm) hs hx hr))
    refine (hval _ _ w _ y hP.oN hP.jJ hok0 hr0 h1).mono λe w' ⟨hbw,v,he,hk,hr⟩=>⟨v,he,?_⟩
    refine ⟨_,β,hP.call hbw,?_,?_,okV.mono (Nat.zero_le _) _ hk,by rw [gK];exact Nat.le_refl _,λ_ _=>rfl,λk h1 h2=>by rw [gK] at h2;omega,fQ hbw⟩
    ·rw [gK]
     exact hF.mono (Nat.le_refl _) (λ_ _=>rfl) (λ_ h=> .inl (.inl h)) (λb hz=>cu hbw (hW.oN b hz))
    ·exact R.mono (n:=0) (λ_ hk=>absurd hk (by omega)) (λ_ h=>h) (λ_ _=>rfl) _ _ hk hr
   ·cases h
theorem Qv {f:Operand}{args:Array Operand}{ty:Array TypeId}{o:Oper}(ho:o.op=.call {callee:=.value f,args,argTypes:=ty}) {g:FuncId}{ys:Array Value}(hy:a.eval f=.func (.func g) #[] ys) {fn:Func}(hfn:P.funcs[g]? =some fn) (hb:¬fn.body=none) (hb3:¬fn.name= "runtime.NumGoroutine") (w:World):
  (execOp a.eval o).run P w=.ok (.enter g (args.map a.eval++ys)) w:=by
 unfold execOp;simp only [ho]
 simp [resolve,Deferred.ofValue,hy,invoke,callFunc,hfn,hb3,hb]
theorem Nc {r:Operand}{name:String}{args:Array Operand}{ty:Array TypeId}{o:Oper}(ho:o.op=.call {callee:=.invoke r name,args,argTypes:=ty}) {t:TypeId}{v rv:Value}{g:FuncId}(hy:a.eval r=.iface t v) (hm:ku P (method (P.types.size+Made.depth) t v name)=some (g,rv)) {fn:Func}(hfn:P.funcs[g]? =some fn) (hb:¬fn.body=none) (hb3:¬fn.name= "runtime.NumGoroutine") (w:World):
  (execOp a.eval o).run P w=.ok (.enter g (#[rv]++args.map a.eval)) w:=by
 unfold execOp;simp only [ho]
 have hr:=qJ w hm
 have h0:(#[Value.iface t v]++args.map a.eval)[0]? =some (.iface t v):=by rw [Array.getElem?_append_left (by simp)];rfl
 have hx:(args.map a.eval).extract 0 args.size=args.map a.eval:=by
  have e:args.size=(args.map a.eval).size:=by simp
  rw [e];exact Array.extract_size
 simp [resolve,hy,invoke,callMethod,hr,callFunc,hfn,hb3,hb,h0,hx]
theorem agP {x:LV}{name:String}{g:FuncId}{rv z:Value}(h:agQ P x name=some (g,rv)) (hr:R β Z w x z):∃t v,z=.iface t v∧ku P (method (P.types.size+Made.depth) t v name)=some (g,rv):=by
 unfold agQ at h;split at h
 ·rename_i t v hp
  exact ⟨t,v,l7 hp hr,h⟩
 ·cases h
theorem adq {f:Operand}{args:Array Operand}{ty:Array TypeId}{o:Oper}{lv:LV}(ho:o.op=.call {callee:=.value f,args,argTypes:=ty}) (hΓ:∀g S,Γ g=some S→Valid P G g S)
  (hW:RW G w0 Z0 Z β H w) (hF:RF ds β Z w H.length F a) {g:FuncId} {cap:List LV} (hf:aV G F f=.fn g cap)
  {H':List aZ} (h:(zD P Γ H o g (args.toList.map (λx=>norm (aV G F x))++cap)).all (λq=>q=(lv,H'))):
  dX P (Post ds G w0 Z0 F a β H w o lv H') ((execOp a.eval o).run P w):=by
 have hfr:=hF.eval hW.jJ f
 rw [hf] at hfr;simp only [R,okV] at hfr;obtain ⟨⟨ys,hy,hyr⟩,hcap⟩:=hfr
 have hargs:RL β Z w (args.toList.map (λx=>norm (aV G F x))++cap) (args.map a.eval++ys).toList:=by
  refine RL.dO (by simp [RL.length hyr]) λi x hx=>?_
  rw [Array.toList_append,Array.toList_map]
  by_cases hi:i<args.toList.length
  ·rw [List.getElem?_append_left (by simpa using hi)] at hx⊢
   rw [List.getElem?_map] at hx⊢;cases hq:args.toList[i]? with
   |none=>simp [hq] at hx
   |some q=>simp [hq] at hx;subst hx;exact ⟨a.eval q,by simp,vP (hF.eval hW.jJ q).1⟩
  ·rw [List.getElem?_append_right (by simpa using hi)] at hx⊢
   obtain ⟨y,h1,h2⟩:=RL.get _ _ hyr hx;exact ⟨y,by simpa using h1,h2⟩
 have hoka:dQ H.length (args.toList.map (λx=>norm (aV G F x))++cap):=by
  refine dQ.append (dQ.dO λi x hx=>?_) hcap
  rw [List.getElem?_map] at hx;cases hq:args.toList[i]? with
  |none=>simp [hq] at hx
  |some q=>simp [hq] at hx;subst hx;exact vk (hF.eval hW.jJ q).2
 obtain ⟨fn,S,h1,h2,h3,_⟩:=wS h;exact Rk hΓ hW hF (Qv ho hy h1 h2 h3 w) hargs hoka h
theorem acG {r:Operand}{name:String}{args:Array Operand}{ty:Array TypeId}{o:Oper}{lv:LV}(ho:o.op=.call {callee:=.invoke r name,args,argTypes:=ty}) (hΓ:∀g S,Γ g=some S→Valid P G g S)
  (hW:RW G w0 Z0 Z β H w) (hF:RF ds β Z w H.length F a) {g:FuncId} {rv:Value} (hf:agQ P (aV G F r) name=some (g,rv))
  {H':List aZ} (h:(zD P Γ H o g (.v rv::args.toList.map (λx=>norm (aV G F x)))).all (λq=>q=(lv,H'))):
  dX P (Post ds G w0 Z0 F a β H w o lv H') ((execOp a.eval o).run P w):=by
 obtain ⟨t,v,hy,hm⟩:=agP hf (hF.eval hW.jJ r).1
 have hargs:RL β Z w (.v rv::args.toList.map (λx=>norm (aV G F x))) (#[rv]++args.map a.eval).toList:=by
  rw [Array.toList_append,Array.toList_map];simp only [List.cons_append,List.nil_append,RL];refine ⟨rv,_,rfl,by simp only [R],RL.dO (by simp) λi x hx=>?_⟩
  rw [List.getElem?_map] at hx⊢;cases hq:args.toList[i]? with
  |none=>simp [hq] at hx
  |some q=>simp [hq] at hx;subst hx;exact ⟨a.eval q,by simp,vP (hF.eval hW.jJ q).1⟩
 have hoka:dQ H.length (.v rv::args.toList.map (λx=>norm (aV G F x))):=by
  refine ⟨trivial,dQ.dO λi x hx=>?_⟩
  rw [List.getElem?_map] at hx;cases hq:args.toList[i]? with
  |none=>simp [hq] at hx
  |some q=>simp [hq] at hx;subst hx;exact vk (hF.eval hW.jJ q).2
 obtain ⟨fn,S,h1,h2,h3,_⟩:=wS h;exact Rk hΓ hW hF (Nc ho hy hm h1 h2 h3 w) hargs hoka h
structure dn (P:Program) (G:dI) (K:Hand):Prop where
 k:∀(w0:World) (Z0:Gz) (Z:Nat→Prop) (β:Nat→Loc) (H:List aZ) (w:World) (g:FuncId) (args:List LV) (vals:Array Value) (lv:LV) (H':List aZ),RW G w0 Z0 Z β H w→RL β Z w args vals.toList→dQ H.length args→(K.k g args H).all (λq=>q=(lv,H'))→
  Calls P g vals w λe w'=>∃v,e=.returned v∧∃Z' β',RW G w0 Z0 Z' β' H' w'∧R β' Z' w' lv v∧okV H'.length lv
 y :∀(w0:World) (Z0:Gz) (Z:Nat→Prop) (β:Nat→Loc) (H:List aZ) (w:World) (k:Nat) (args:List LV) (vals:Array Value) (lv:LV) (H':List aZ),RW G w0 Z0 Z β H w→RL β Z w args vals.toList→dQ H.length args→(K.y k args H).all (λq=>q=(lv,H'))→
  ∃r:Loop,w.heap[(β k).b]? =some (.loop r)∧vals.size=r.params.size∧RoundIn Fence.wide 0 P (β k).b r.fn ((r.params.zip vals).foldl (λt (p,v)=>t.setIfInBounds p v) r.tmps) r.assign r.body w
   λe w'=>∃v,e=.returned v∧∃Z' β',RW G w0 Z0 Z' β' H' w'∧R β' Z' w' lv v∧okV H'.length lv
theorem aA:dn P G dR:=⟨λ_ _ _ _ _ _ _ _ _ _ _ _ _ _ h=>(by cases h),λ_ _ _ _ _ _ _ _ _ _ _ _ _ _ h=>(by cases h)⟩
theorem Ap (hΓ:∀g S,Γ g=some S→Valid P G g S) (hW:RW G w0 Z0 Z β H w) (hF:RF ds β Z w H.length F a) {o:Oper}{lv:LV}{H':List aZ}
  (h:(o6 P G Γ F H o).all (λq=>q=(lv,H'))):dX P (Post ds G w0 Z0 F a β H w o lv H') ((execOp a.eval o).run P w):=by
 have hsel:∀cs b,o.op≠ .select cs b:=λcs b e=>by unfold o6 at h;simp only [e] at h;cases h
 have ev:=λx=>hF.eval hW.jJ x
 have same:∀ {t:T LV},(t.bind λy=>(T.ok (y,H):T (LV×List aZ))).all (λq=>q=(lv,H'))→t.all (λz=>z=lv)∧H'=H:=λh=>by
  obtain ⟨x,h1,h2⟩:=T.bF h;simp only [T.all,Prod.mk.injEq] at h2;obtain ⟨rfl,rfl⟩:=h2;exact ⟨h1,rfl⟩
 have gen:(vU P G F o).all (λz=>z=lv)→H'=H→dX P (Post ds G w0 Z0 F a β H w o lv H') ((execOp a.eval o).run P w):=λhg e=>by
  subst e;exact ac1 hsel hW hF hg
 have val:∀ {v:Value},H'=H→(execOp a.eval o).run P w=.ok (.value v) w→R β Z w lv v→okV H.length lv→dX P (Post ds G w0 Z0 F a β H w o lv H') ((execOp a.eval o).run P w):=λe hrun hr hk=>by
  subst e;exact LM hW hF hrun hr hk
 unfold o6 at h;split at h
 ·cases h
 ·rename_i x ho
  simp only [T.all,Prod.mk.injEq] at h;refine val h.2.symm (v:=a.eval x) (by simp [execOp,ho]) ?_ ?_<;>rw [←h.1]
  ·exact (ev x).1
  ·exact (ev x).2
 ·rename_i x ho
  simp only [T.all,Prod.mk.injEq] at h;refine val h.2.symm (v:=a.eval x) (by simp [execOp,ho]) ?_ ?_<;>rw [←h.1]
  ·exact (ev x).1
  ·exact (ev x).2
 ·rename_i c x y ho
  obtain ⟨h1,h2⟩:=same h;obtain ⟨g,e1,e2,e3⟩:=H7 h1 (ev c).1 (ev x).1 (ev y).1 (ev x).2 (ev y).2;exact val h2 (v:=if g then a.eval x else a.eval y) (by simp [execOp,ho,e1,asBool]) e2 e3
 ·rename_i t ho
  split at h
  ·rename_i z hz
   split at h
   ·rename_i cs hcs
    simp only [T.all,Prod.mk.injEq] at h;obtain ⟨h1,h2⟩:=h;obtain ⟨c1,_⟩:=Eb (β:=β) (Z:=Z) (w:=w) hcs (show R β Z w (.v z) z by simp only [R])
    obtain ⟨β',b1,b2,b3,b4⟩:=hW.alloc (t:=t) c1 (AO hcs trivial)
    have hrun:(execOp a.eval o).run P w=.ok (.value (.pointer (some ⟨w.heap.size,0,none⟩))) (w.alloc (.cells z.cells t)):=by
     have e:=λw=>yV hz w
     simp [execOp,ho,Instr.alloc,e,newVar,newRow]
    rw [hrun,←h1,←h2];refine ⟨Z,β',b3,hF.mono (by simp) b1 (λ_ h=>h) b4,?_,?_,by simp,b1,λk k1 k2=>?_,fQ ((Below.refl _ _).alloc (Nat.le_refl _) _)⟩
    ·simp only [R,b2]
    ·simp [okV]
    ·have:k=H.length:=by simp at k2;omega
     rw [this,b2];exact .inl (Nat.le_refl _)
   ·cases h
  ·cases h
 ·rename_i t x ho
  split at h
  ·rename_i cs hcs
   simp only [T.all,Prod.mk.injEq] at h;obtain ⟨h1,h2⟩:=h;obtain ⟨c1,_⟩:=Eb hcs (ev x).1;obtain ⟨β',b1,b2,b3,b4⟩:=hW.alloc (t:=t) c1 (AO hcs (ev x).2)
   have hrun:(execOp a.eval o).run P w=.ok (.value (.pointer (some ⟨w.heap.size,0,none⟩))) (w.alloc (.cells (a.eval x).cells t)):=by
    simp [execOp,ho,Instr.box,newVar,newRow]
   rw [hrun,←h1,←h2];refine ⟨Z,β',b3,hF.mono (by simp) b1 (λ_ h=>h) b4,?_,?_,by simp,b1,λk k1 k2=>?_,fQ ((Below.refl _ _).alloc (Nat.le_refl _) _)⟩
   ·simp only [R,b2]
   ·simp [okV]
   ·have:k=H.length:=by simp at k2;omega
    rw [this,b2];exact .inl (Nat.le_refl _)
  ·cases h
 ·rename_i t x ho
  obtain ⟨h1,h2⟩:=same h;obtain ⟨z,e1,e2,e3⟩:=vF hW h1 (ev x).1 (ev x).2
  have e1:=e1 w (λ_ _=>rfl)
  exact val h2 (v:=z) (by simp [execOp,ho,e1]) e2 e3
 ·rename_i t x y ho
  obtain ⟨H1,h1,h2⟩:=T.bF h;simp only [T.all,Prod.mk.injEq] at h2;obtain ⟨h2,h3⟩:=h2;subst h3;obtain ⟨w',e1,e2,e3,e4,e6⟩:=Ue hW h1 (ev x).1 (ev y).1 (ev y).2
  have hrun:(execOp a.eval o).run P w=.ok .skip w':=by simp [execOp,ho,e1]
  rw [hrun,←h2];refine ⟨Z,β,e2,?_,?_,trivial,by omega,λ_ _=>rfl,λk k1 k2=>by omega,by simp only [xk,Xg,ho];exact e6⟩
  ·rw [e3];exact hF.mono (Nat.le_refl _) (λ_ _=>rfl) (λ_ h=>h) e4
  ·simp only [R]
 ·rename_i s x i ho
  obtain ⟨h1,h2⟩:=same h;obtain ⟨z,e1,e2,e3⟩:=D9 (w:=w) h1 (ev x).1 (ev x).2;exact val h2 (v:=z) (by simp [execOp,ho,e1]) e2 e3
 ·rename_i t x i ho
  obtain ⟨h1,h2⟩:=same h;obtain ⟨z,e1,e2,e3⟩:=xQ (w:=w) h1 (ev x).1 (ev i).1 (ev x).2;exact val h2 (v:=z) (by simp [execOp,ho,e1]) e2 e3
 ·rename_i t parts ho
  obtain ⟨h1,h2⟩:=same h
  obtain ⟨z,e1,e2,e3⟩:=Ee (β:=β) (Z:=Z) (w:=w) (n:=H.length) (pv:=parts.map λq=>(q.1,a.eval q.2)) h1 (by simp [Function.comp_def]) (by
   simp only [Array.toList_map,List.map_map];refine RL.dO (by simp) λi x hx=>?_
   rw [List.getElem?_map] at hx⊢;cases hq:parts.toList[i]? with
   |none=>simp [hq] at hx
   |some q=>simp [hq] at hx;subst hx;exact ⟨a.eval q.2,by simp,(KL (ev q.2)).1⟩) (by
   simp only [List.map_map];refine dQ.dO λi x hx=>?_
   rw [List.getElem?_map] at hx;cases hq:parts.toList[i]? with
   |none=>simp [hq] at hx
   |some q=>simp [hq] at hx;subst hx;exact (KL (ev q.2)).2)
  exact val h2 (v:=z) (by simp [execOp,ho,e1]) e2 e3
 ·rename_i t len parts ho
  split at h
  ·rename_i h0
   subst h0;split at h
   ·rename_i hpe
    have hpa:parts=#[]:=by
     have:=List.isEmpty_iff.1 hpe
     rw [←Array.toArray_toList (xs:=parts),this]
    obtain ⟨w',v,e1,e2,β',e3,e4,e5,e6,e7,e8⟩:=WG hW h
    have hrun:(execOp a.eval o).run P w=.ok (.value v) w':=by simp [execOp,ho,hpa,e1]
    rw [hrun];refine ⟨Z,β',e4,hF.mono (by omega) e3 (λ_ h=>h) (λb hz=>cu e2 (hW.oN b hz)),e5,e6,by omega,e3,λk k1 k2=>?_,fQ e2⟩
    have:k=H.length:=by omega
    rw [this,e8];exact .inl (Nat.le_refl _)
   ·cases h
  split at h
  rotate_left
  ·obtain ⟨w',v,e1,e2,β',e3,e4,e5,e6,e7,e8⟩:=acz (pv:=parts.map λq=>(q.1,a.eval q.2)) hW h (by simp [Function.comp_def]) (by
    simp only [Array.toList_map,List.map_map];refine RL.dO (by simp) λi x hx=>?_
    rw [List.getElem?_map] at hx⊢;cases hq:parts.toList[i]? with
    |none=>simp [hq] at hx
    |some q=>simp [hq] at hx;subst hx;exact ⟨a.eval q.2,by simp,(ev q.2).1⟩) (by
    simp only [List.map_map];refine dQ.dO λi x hx=>?_
    rw [List.getElem?_map] at hx;cases hq:parts.toList[i]? with
    |none=>simp [hq] at hx
    |some q=>simp [hq] at hx;subst hx;exact (ev q.2).2)
   have hrun:(execOp a.eval o).run P w=.ok (.value v) w':=by simp [execOp,ho,e1]
   rw [hrun];refine ⟨Z,β',e4,hF.mono (by omega) e3 (λ_ h=>h) (λb hz=>cu e2 (hW.oN b hz)),e5,e6,by omega,e3,λk k1 k2=>?_,fQ e2⟩
   have:k=H.length:=by omega
   rw [this,e8];exact .inl (Nat.le_refl _)
  split at h
  rotate_left
  ·unfold aHN at h
   split at h
   ·rename_i hcl
    have hargs:RL β Z w ((parts.toList.map λq=>(q.1,aV G F q.2)).map (·.2)) ((parts.map λq=>(q.1,a.eval q.2)).toList.map (·.2)):=by
     simp only [Array.toList_map,List.map_map];refine RL.dO (by simp) λi x hx=>?_
     rw [List.getElem?_map] at hx⊢;cases hq:parts.toList[i]? with
     |none=>simp [hq] at hx
     |some q=>simp [hq] at hx;subst hx;exact ⟨a.eval q.2,by simp,(ev q.2).1⟩
    have hoka:dQ H.length ((parts.toList.map λq=>(q.1,aV G F q.2)).map (·.2)):=by
     simp only [List.map_map];refine dQ.dO λi x hx=>?_
     rw [List.getElem?_map] at hx;cases hq:parts.toList[i]? with
     |none=>simp [hq] at hx
     |some q=>simp [hq] at hx;subst hx;exact (ev q.2).2
    generalize hvs:(parts.toList.map λq=>(q.1,aV G F q.2))=vs at h hcl hargs hoka
    obtain ⟨y,h1,h2⟩:=T.bF h;simp only [T.all,Prod.mk.injEq] at h2;obtain ⟨rfl,rfl⟩:=h2;obtain ⟨_,hg,h1⟩:=T.bF h1
    have hG:=T.bQ (K':=λ_=>True) (λ_ _=>trivial) hg
    obtain ⟨c1,c2⟩:=mF hcl
    have hP:=hW.pub (reach H 64 (ownsL (vs.map (·.2))) [])
    have hH:=λk b hb=>(hW.blk k b hb).2
    have hr0:RL β (ZP Z β H λk=>k∈reach H 64 (ownsL (vs.map (·.2))) []) w ((vs.map (·.2)).map (su H 6)) ((parts.map λq=>(q.1,a.eval q.2)).toList.map (·.2)):=
     zM (S:=λk=>k∈reach H 64 (ownsL (vs.map (·.2))) []) hargs hoka c1 (λx y hm hs hx hr=>wC hW c2 6 x y (nD hG x hm) hs hx hr)
    have hok0:dQ 0 ((vs.map (·.2)).map (su H 6)):=by
     refine dQ.dO λi x hx=>?_
     rw [List.getElem?_map] at hx;cases hq:(vs.map (·.2))[i]? with
     |none=>simp [hq] at hx
     |some q=>simp [hq] at hx;subst hx;exact tV H hH 6 _ (dQ.get i q hoka hq)
    have emap:(vs.map λq=>(q.1,su H 6 q.2)).map (·.2)=(vs.map (·.2)).map (su H 6):=by simp [Function.comp_def]
    obtain ⟨elem,cells,e1,e2,e3⟩:=Na (β:=β) (Z:=ZP Z β H λk=>k∈reach H 64 (ownsL (vs.map (·.2))) []) (w:=w) (n:=0) (pv:=parts.map λq=>(q.1,a.eval q.2)) h1 (by rw [←hvs];simp [Function.comp_def]) (by rw [emap];exact hr0) (by rw [emap];exact hok0)
    have hrun:(execOp a.eval o).run P w=.ok (.value (.slice (some ⟨w.heap.size,0,none⟩) len len)) (w.alloc (.cells cells elem)):=by
     simp [execOp,ho,e1]
    have hbw:Below w.heap.size w (w.alloc (.cells cells elem)):=(Below.refl _ _).alloc (Nat.le_refl _) _
    rw [hrun];refine ⟨_,β,hP.call hbw,?_,?_,okV.mono (Nat.zero_le _) _ e3,by rw [gK];exact Nat.le_refl _,λ_ _=>rfl,λk h1 h2=>by rw [gK] at h2;omega,fQ hbw⟩
    ·rw [gK]
     exact hF.mono (Nat.le_refl _) (λ_ _=>rfl) (λ_ h=> .inl (.inl h)) (λb hz=>cu hbw (hW.oN b hz))
    ·exact e2 β _ _ w.heap.size (λ_ h=> .inl h) (λb hz=>cu hbw (hP.oN b hz)) (λj v hv=>by
      show World.cell? _ _=_
      unfold World.cell?
      have:(w.alloc (.cells cells elem)).heap[w.heap.size]? =some (.cells cells elem (0,0)):=by
       show (w.heap.push _)[w.heap.size]? =_
       simp
      simp only [this]
      simpa using hv) (.inr ⟨Nat.le_refl _,by simp⟩)
   ·cases h
  ·obtain ⟨h1,h2⟩:=same h
   subst h2
   have hp:=Na (β:=β) (Z:=Z) (w:=w) (n:=H'.length) (pv:=parts.map λq=>(q.1,a.eval q.2)) h1 (by simp [Function.comp_def]) (by
    simp only [Array.toList_map,List.map_map];refine RL.dO (by simp) λi x hx=>?_
    rw [List.getElem?_map] at hx⊢;cases hq:parts.toList[i]? with
    |none=>simp [hq] at hx
    |some q=>simp [hq] at hx;subst hx;exact ⟨a.eval q.2,by simp,(ev q.2).1⟩) (by
    simp only [List.map_map];refine dQ.dO λi x hx=>?_
    rw [List.getElem?_map] at hx;cases hq:parts.toList[i]? with
    |none=>simp [hq] at hx
    |some q=>simp [hq] at hx;subst hx;exact (ev q.2).2)
   obtain ⟨elem,cells,e1,e2,e3⟩:=hp
   have hrun:(execOp a.eval o).run P w=.ok (.value (.slice (some ⟨w.heap.size,0,none⟩) len len)) (w.alloc (.cells cells elem)):=by
    simp [execOp,ho,e1]
   have hbw:Below w.heap.size w (w.alloc (.cells cells elem)):=(Below.refl _ _).alloc (Nat.le_refl _) _
   rw [hrun];refine ⟨_,β,hW.call hbw,hF.mono (Nat.le_refl _) (λ_ _=>rfl) (λ_ h=> .inl h) (λb hz=>cu hbw (hW.oN b hz)),?_,e3,Nat.le_refl _,λ_ _=>rfl,λk h1 h2=>by omega,fQ hbw⟩
   exact e2 β _ _ w.heap.size (λ_ h=> .inl h) (λb hz=>cu hbw (hW.oN b hz)) (λj v hv=>by
    show World.cell? _ _=_
    unfold World.cell?
    have:(w.alloc (.cells cells elem)).heap[w.heap.size]? =some (.cells cells elem (0,0)):=by
     show (w.heap.push _)[w.heap.size]? =_
     simp
    simp only [this]
    simpa using hv) (.inr ⟨Nat.le_refl _,by simp⟩)
 ·rename_i t n c ho
  obtain ⟨w',v,e1,e2,β',e3,e4,e5,e6,e7,e8⟩:=YZ hW h (ev n).1 (ev c).1
  have hrun:(execOp a.eval o).run P w=.ok (.value v) w':=by simp [execOp,ho,e1]
  rw [hrun];refine ⟨Z,β',e4,hF.mono (by omega) e3 (λ_ h=>h) (λb hz=>cu e2 (hW.oN b hz)),e5,e6,by omega,e3,λk k1 k2=>?_,fQ e2⟩
  have:k=H.length:=by omega
  rw [this,e8];exact .inl (Nat.le_refl _)
 ·rename_i t x lo hi ho
  split at h
  ·obtain ⟨h1,h2⟩:=same h;exact gen h1 h2
  ·obtain ⟨h1,h2⟩:=same h
   have ro:∀q:Option Operand,RO β Z w (q.map (aV G F)) (q.map a.eval):=λq=>by
    cases q with
    |none=>trivial
    |some q=>exact (ev q).1
   obtain ⟨z,e1,e2,e3⟩:=Dl (w:=w) h1 (ev x).1 (ro lo) (ro hi) (ev x).2;exact val h2 (v:=z) (by simp [execOp,ho,e1]) e2 e3
 ·rename_i t ho
  split at h
  ·rename_i e he
   simp only [T.all,Prod.mk.injEq] at h;obtain ⟨h1,h2⟩:=h;obtain ⟨β',b1,b2,b3,b4⟩:=hW.aHF (e:=e) (t:=t)
   have hrun:(execOp a.eval o).run P w=.ok (.value (.map (some w.heap.size))) (w.alloc (.map #[] 0)):=by simp [execOp,ho,Instr.makeMap]
   rw [hrun,←h1,←h2];refine ⟨Z,β',b3,hF.mono (by simp) b1 (λ_ h=>h) (λb hz=>cu b4 (hW.oN b hz)),?_,?_,by simp,b1,λk k1 k2=>?_,fQ b4⟩
   ·simp only [R,b2]
   ·simp [okV]
   ·have:k=H.length:=by simp at k2;omega
    rw [this,b2];exact .inl (Nat.le_refl _)
  split at h
  ·rename_i kd hkd
   simp only [T.all,Prod.mk.injEq] at h;obtain ⟨h1,h2⟩:=h;obtain ⟨β',b1,b2,b3,b4⟩:=hW.aHG (kd:=kd) (t:=t)
   have hrun:(execOp a.eval o).run P w=.ok (.value (.map (some w.heap.size))) (w.alloc (.map #[] 0)):=by simp [execOp,ho,Instr.makeMap]
   rw [hrun,←h1,←h2];refine ⟨Z,β',b3,hF.mono (by simp) b1 (λ_ h=>h) (λb hz=>cu b4 (hW.oN b hz)),?_,?_,by simp,b1,λk k1 k2=>?_,fQ b4⟩
   ·simp only [R,b2]
   ·simp [okV]
   ·have:k=H.length:=by simp at k2;omega
    rw [this,b2];exact .inl (Nat.le_refl _)
  ·cases h
 ·rename_i t m i x ho
  obtain ⟨H1,h1,h2⟩:=T.bF h;simp only [T.all,Prod.mk.injEq] at h2;obtain ⟨h2,h3⟩:=h2;subst h3;obtain ⟨w',e1,e2,e3,e4,e6⟩:=Nj hW h1 (ev m).1 (ev i).1 (ev x).1 (ev x).2
  have hrun:(execOp a.eval o).run P w=.ok .skip w':=by simp [execOp,ho,e1]
  rw [hrun,←h2];refine ⟨Z,β,e2,?_,?_,trivial,by omega,λ_ _=>rfl,λk k1 k2=>by omega,by simp only [xk,Xg,ho];exact e6⟩
  ·rw [e3];exact hF.mono (Nat.le_refl _) (λ_ _=>rfl) (λ_ h=>h) e4
  ·simp only [R]
 ·rename_i t m i x ho
  obtain ⟨H1,h1,h2⟩:=T.bF h;simp only [T.all,Prod.mk.injEq] at h2;obtain ⟨h2,h3⟩:=h2;subst h3;obtain ⟨w',e1,e2,e3,e4,e6⟩:=Nj hW h1 (ev m).1 (ev i).1 (ev x).1 (ev x).2
  have hrun:(execOp a.eval o).run P w=.ok .skip w':=by simp [execOp,ho,e1]
  rw [hrun,←h2];refine ⟨Z,β,e2,?_,?_,trivial,by omega,λ_ _=>rfl,λk k1 k2=>by omega,by simp only [xk,Xg,ho];exact e6⟩
  ·rw [e3];exact hF.mono (Nat.le_refl _) (λ_ _=>rfl) (λ_ h=>h) e4
  ·simp only [R]
 ·rename_i t x i ho
  obtain ⟨h1,h2⟩:=same h;obtain ⟨z,e1,e2,e3⟩:=Ie hW h1 (ev x).1 (ev i).1 (ev x).2
  have e1:=e1 w (λ_ _=>rfl)
  exact val h2 (v:=z) (by simp [execOp,ho,e1]) e2 e3
 ·rename_i x i ho
  split at h
  ·rename_i l hl
   split at h
   ·rename_i y hy
    simp only [T.all,Prod.mk.injEq] at h;obtain ⟨h1,h2⟩:=h
    have hx:=ev x
    rw [hl] at hx;simp only [R,okV] at hx;obtain ⟨⟨ys,e1,e2⟩,e3⟩:=hx;obtain ⟨z,e4,e5⟩:=RL.get _ _ e2 hy
    have e6:ys[i]? =some z:=by simpa using e4
    refine val h2.symm (v:=z) (by simp [execOp,ho,e1,Instr.extract,e6]) ?_ ?_<;>rw [←h1]
    ·exact e5
    ·exact dQ.get _ _ e3 hy
   ·cases h
  ·obtain ⟨h1,h2⟩:=same h;exact gen h1 h2
 ·rename_i t x i ho
  split at h
  ·rename_i l hl
   obtain ⟨h1,h2⟩:=same h
   have hx:=ev x
   rw [hl] at hx;simp only [R,okV] at hx;obtain ⟨⟨ys,e1,e2⟩,e3⟩:=hx;obtain ⟨z,f1,f2,f3⟩:=NI h1 e2 e3;exact val h2 (v:=z) (by simp [execOp,ho,e1,f1]) f2 f3
  ·obtain ⟨h1,h2⟩:=same h;exact gen h1 h2
 ·rename_i f first cap ho
  split at h
  ·rename_i he
   simp only [T.all,Prod.mk.injEq] at h;obtain ⟨h1,h2⟩:=h
   have hfirst:first=#[]:=by
    have:first.toList=[]:=by simpa using he
    simpa using this
   refine val h2.symm (v:=.func (.func f) #[] (cap.map a.eval)) (by simp [execOp,ho,Instr.makeFunc,hfirst]) ?_ ?_<;>rw [←h1]
   ·simp only [R]
    refine ⟨_,rfl,?_⟩;simp only [Array.toList_map];refine RL.dO (by simp) λi x hx=>?_
    rw [List.getElem?_map] at hx⊢;cases hq:cap.toList[i]? with
    |none=>simp [hq] at hx
    |some q=>simp [hq] at hx;subst hx;exact ⟨a.eval q,by simp,(ev q).1⟩
   ·simp only [okV]
    refine dQ.dO λi x hx=>?_
    rw [List.getElem?_map] at hx;cases hq:cap.toList[i]? with
    |none=>simp [hq] at hx
    |some q=>simp [hq] at hx;subst hx;exact (ev q).2
  ·cases h
 ·rename_i x ho
  have hx:=ev x
  split at h
  ·rename_i k off hl
   simp only [T.all,Prod.mk.injEq] at h;rw [hl] at hx
   have hx1:=hx.1
   simp only [R] at hx1;refine val h.2.symm (v:=a.eval x) (by simp [execOp,ho,hx1]) ?_ ?_<;>rw [←h.1]
   ·exact hx.1
   ·exact hx.2
  ·rename_i k es i j hl
   simp only [T.all,Prod.mk.injEq] at h;rw [hl] at hx
   have hx1:=hx.1
   simp only [R] at hx1;refine val h.2.symm (v:=a.eval x) (by simp [execOp,ho,hx1]) ?_ ?_<;>rw [←h.1]
   ·exact hx.1
   ·exact hx.2
  ·rename_i n f hl
   simp only [T.all,Prod.mk.injEq] at h;rw [hl] at hx
   have hx1:=hx.1
   simp only [R] at hx1;obtain ⟨b,off,e1,_⟩:=hx1;refine val h.2.symm (v:=a.eval x) (by simp [execOp,ho,e1]) ?_ ?_<;>rw [←h.1]
   ·exact hx.1
   ·exact hx.2
  ·rename_i f l hl
   simp only [T.all,Prod.mk.injEq] at h;rw [hl] at hx
   have hx1:=hx.1
   simp only [R] at hx1;obtain ⟨ys,e1,_⟩:=hx1;refine val h.2.symm (v:=a.eval x) (by simp [execOp,ho,e1]) ?_ ?_<;>rw [←h.1]
   ·exact hx.1
   ·exact hx.2
  ·obtain ⟨h1,h2⟩:=same h;exact gen h1 h2
 ·rename_i t x y t' ho
  split at h
  ·rename_i k n k' m hx hy
   split at h
   ·rename_i hk
    subst hk;simp only [T.all,Prod.mk.injEq] at h;obtain ⟨h0,h1,h2⟩:=h
    have e1:=l7 hx (ev x).1
    have e2:=l7 hy (ev y).1
    refine val h2.symm (v:=.int k (k.wrap (n.tdiv m))) (by simp [execOp,ho,e1,e2,eqGuard,binOp,Op.intDiv,h0]) ?_ ?_<;>rw [←h1]
    ·simp only [R]
    ·trivial
   ·cases h
  ·cases h
 ·rename_i t x y t' ho
  split at h
  ·rename_i k n k' m hx hy
   split at h
   ·rename_i hk
    subst hk;simp only [T.all,Prod.mk.injEq] at h;obtain ⟨h0,h1,h2⟩:=h
    have e1:=l7 hx (ev x).1
    have e2:=l7 hy (ev y).1
    refine val h2.symm (v:=.int k (n.tmod m)) (by simp [execOp,ho,e1,e2,eqGuard,binOp,Op.intDiv,h0]) ?_ ?_<;>rw [←h1]
    ·simp only [R]
    ·trivial
   ·cases h
  ·cases h
 ·rename_i t x y t' ho
  split at h
  ·obtain ⟨h1,h2⟩:=same h;exact gen h1 h2
  ·split at h
   ·rename_i k n k' m hx hy
    simp only [T.all,Prod.mk.injEq] at h;obtain ⟨h0,h1,h2⟩:=h
    have e1:=l7 hx (ev x).1
    have e2:=l7 hy (ev y).1
    refine val h2.symm (v:=.int k (k.wrap (n*2^(min m.toNat k.bits)))) (by simp [execOp,ho,e1,e2,eqGuard,binOp,Op.shift,Int.not_lt.2 h0]) ?_ ?_<;>rw [←h1]
    ·simp only [R]
    ·trivial
   ·cases h
 ·rename_i t x y t' ho
  split at h
  ·obtain ⟨h1,h2⟩:=same h;exact gen h1 h2
  ·split at h
   ·rename_i k n k' m hx hy
    simp only [T.all,Prod.mk.injEq] at h;obtain ⟨h0,h1,h2⟩:=h
    have e1:=l7 hx (ev x).1
    have e2:=l7 hy (ev y).1
    refine val h2.symm (v:=.int k (n.fdiv (2^(min m.toNat k.bits)))) (by simp [execOp,ho,e1,e2,eqGuard,binOp,Op.shift,Int.not_lt.2 h0]) ?_ ?_<;>rw [←h1]
    ·simp only [R]
    ·trivial
   ·cases h
 ·rename_i t x i ho
  split at h
  ·rename_i s kd n hu hx hi
   simp only [T.all,Prod.mk.injEq] at h;obtain ⟨⟨h0,hlt⟩,h1,h2⟩:=h
   have e1:=l7 hx (ev x).1
   have e2:=l7 hi (ev i).1
   have hb:n.toNat<s.size:=by omega
   have hg:s[n.toNat]? =some s[n.toNat]:=by simp [hb]
   refine val h2.symm (v:=.int .u8 (wo s n)) (by simp [execOp,ho,e1,e2,Instr.index,asIntOf,run_underlying hu,h0,wo,hg]) ?_ ?_<;>rw [←h1]
   ·simp only [R]
   ·trivial
  ·cases h
 ·rename_i f args ty ho
  split at h
  ·rename_i g cap hf
   exact adq ho hΓ hW hF hf h
  ·cases h
 ·rename_i r name args ty ho
  split at h
  ·rename_i g rv hf
   exact acG ho hΓ hW hF hf h
  ·cases h
 ·rename_i args ty ho
  split at h
  ·rename_i x y t tx hl ht
   cases hargs:args.toList with
   |nil=>simp [hargs] at hl
   | cons u us=>
    cases us with
    |nil=>simp [hargs] at hl
    | cons u' us=>
     cases us with
     |cons _ _=>simp [hargs] at hl
     | nil=>
      simp only [hargs,List.map_cons,List.map_nil,List.cons.injEq,and_true] at hl;obtain ⟨rfl,rfl⟩:=hl
      have ha:args=#[u,u']:=by rw [←Array.toArray_toList (xs:=args),hargs]
      have hty:ty=#[t,tx]:=by rw [←Array.toArray_toList (xs:=ty),ht]
      obtain ⟨w',v,e1,e2,e3,β',e4,e5,e6,e7,e8,e9⟩:=Qm (ty':=o.type) hW h (ev u).1 (ev u').1
      have hrun:(execOp a.eval o).run P w=.ok (.value v) w':=by
       simp [execOp,ho,resolve,invoke,builtin,ha,hty,e1]
      rw [hrun]
      have htb:xk G F β H o=GN β H (owns (aV G F u)):=by simp [xk,Xg,ho,ha]
      refine ⟨Z,β',e5,hF.mono (by omega) e4 (λ_ h=>h) e3,e6,e7,by omega,e4,λk k1 k2=>?_,by rw [htb];exact e2⟩
      have:k=H.length:=by omega
      rw [this,htb];exact e9
  ·cases h
 ·rename_i args ty ho
  split at h
  ·rename_i k es off n e hl hu
   simp only [T.all,Prod.mk.injEq] at h;obtain ⟨h1,h2⟩:=h;cases hargs:args.toList with
   |nil=>simp [hargs] at hl
   | cons x xs=>
    cases xs with
    |cons _ _=>simp [hargs] at hl
    | nil=>
     simp only [hargs,List.map_cons,List.map_nil,List.cons.injEq,and_true] at hl
     have hx:=(ev x).1
     rw [hl] at hx;simp only [R] at hx
     have e1:∃ad cap,a.eval x=.slice ad n cap:=by
      split at hx
      ·obtain ⟨rfl,_,hx⟩:=hx;exact ⟨_,_,hx⟩
      ·obtain ⟨_,ad,hx,_⟩:=hx;exact ⟨_,_,hx⟩
     obtain ⟨ad,cap,e1⟩:=e1
     have ha:args=#[x]:=by rw [←Array.toArray_toList (xs:=args),hargs]
     cases ht:ty[0]? with
     |none=>simp [ht] at hu
     |some t=>
      simp only [ht,Option.bind_some] at hu;refine val h2.symm (v:=.int .i64 n) (by simp [execOp,ho,resolve,invoke,builtin,Builtin.len_,ha,ht,run_underlying hu,e1,goInt]) ?_ ?_<;>rw [←h1]
      ·simp only [R]
      ·trivial
  ·rename_i e' l e hl hu
   simp only [T.all,Prod.mk.injEq] at h;obtain ⟨h1,h2⟩:=h;cases hargs:args.toList with
   |nil=>simp [hargs] at hl
   | cons x xs=>
    cases xs with
    |cons _ _=>simp [hargs] at hl
    | nil=>
     simp only [hargs,List.map_cons,List.map_nil,List.cons.injEq,and_true] at hl
     have hx:=(ev x).1
     rw [hl] at hx;simp only [R] at hx;obtain ⟨ad,cap,e1,_⟩:=hx
     have ha:args=#[x]:=by rw [←Array.toArray_toList (xs:=args),hargs]
     cases ht:ty[0]? with
     |none=>simp [ht] at hu
     |some t=>
      simp only [ht,Option.bind_some] at hu;refine val h2.symm (v:=.int .i64 (List.length l:Int)) (by simp [execOp,ho,resolve,invoke,builtin,Builtin.len_,ha,ht,run_underlying hu,e1,goInt]) ?_ ?_<;>rw [←h1]
      ·simp only [R]
      ·trivial
  ·rename_i k' es' off' n' c' e hl hu
   simp only [T.all,Prod.mk.injEq] at h;obtain ⟨h1,h2⟩:=h;cases hargs:args.toList with
   |nil=>simp [hargs] at hl
   | cons x xs=>
    cases xs with
    |cons _ _=>simp [hargs] at hl
    | nil=>
     simp only [hargs,List.map_cons,List.map_nil,List.cons.injEq,and_true] at hl
     have hx:=(ev x).1
     rw [hl] at hx;simp only [R] at hx;obtain ⟨_,ad,e1,_⟩:=hx
     have ha:args=#[x]:=by rw [←Array.toArray_toList (xs:=args),hargs]
     cases ht:ty[0]? with
     |none=>simp [ht] at hu
     |some t=>
      simp only [ht,Option.bind_some] at hu;refine val h2.symm (v:=.int .i64 n') (by simp [execOp,ho,resolve,invoke,builtin,Builtin.len_,ha,ht,run_underlying hu,e1,goInt]) ?_ ?_<;>rw [←h1]
      ·simp only [R]
      ·trivial
  ·obtain ⟨h1,h2⟩:=same h;exact gen h1 h2
 ·obtain ⟨h1,h2⟩:=same h;exact gen h1 h2
structure Ev (b b':aZ):Prop where
 cl:b.rO=true→b'.rO=true∧b'.t=b.t∧b'.c.length=b.c.length
 live:∀(β:Nat→Loc) (k:Nat),live β k b'→live β k b
 p:b'.p=false→b.p=false
theorem Ev.refl (b:aZ):Ev b b:=⟨λh=>⟨h,rfl,rfl⟩,λ_ _ h=>h,λh=>h⟩
theorem Ev.trans {a b c:aZ}(h:Ev a b) (g:Ev b c):Ev a c:=⟨λhc=>by
 obtain ⟨h1,h2,h3⟩:=h.cl hc;obtain ⟨g1,g2,g3⟩:=g.cl h1;exact ⟨g1,g2.trans h2,g3.trans h3⟩,λβ k hl=>h.live β k (g.live β k hl),λhp=>h.p (g.p hp)⟩
def EvL (H H':List aZ):Prop:=∀(k:Nat) (b:aZ),H[k]? =some b→∃b':aZ,H'[k]? =some b'∧Ev b b'
theorem EvL.refl (H:List aZ):EvL H H:=λ_ b hb=>⟨b,hb,Ev.refl b⟩
theorem EvL.app (H E:List aZ):EvL H (H++E):=λk b hb=>⟨b,by rw [List.getElem?_append_left (List.getElem?_eq_some_iff.1 hb).1];exact hb,Ev.refl b⟩
theorem EvL.trans {A B C:List aZ}(h:EvL A B) (g:EvL B C):EvL A C:=λk b hb=>by
 obtain ⟨b1,h1,h2⟩:=h k b hb;obtain ⟨b2,g1,g2⟩:=g k b1 h1;exact ⟨b2,g1,h2.trans g2⟩
theorem EvL.set {k0:Nat}{b0 nb:aZ}(hb0:H[k0]? =some b0) (he:Ev b0 nb):EvL H (H.set k0 nb):=λk b hb=>by
 have hk:=(List.getElem?_eq_some_iff.1 hb).1
 rw [List.getElem?_set]
 by_cases hkk:k0=k
 ·subst hkk
  rw [hb] at hb0;simp only [Option.some.injEq] at hb0;subst hb0;simp only [if_true,hk];exact ⟨nb,rfl,he⟩
 ·rw [if_neg hkk];exact ⟨b,hb,Ev.refl b⟩
theorem EvL.pub (ks:List Nat):EvL H (o5 ks 0 H):=λk b hb=>by
 rw [Am,hb];simp only [Option.map_some,Nat.zero_add];split
 ·exact ⟨_,rfl,λh=>⟨h,rfl,rfl⟩,λ_ _ h=>h,λh=>by cases h⟩
 ·exact ⟨_,rfl,Ev.refl b⟩
theorem akX {t:TypeId}{x y:LV}{H':List aZ}(h:(BI P H t x y).all (λq=>q=H')):EvL H H':=by
 unfold BI at h;split at h
 ·split at h
  ·split at h
   ·rename_i hb
    split at h
    ·rename_i hle
     simp only [T.all] at h;subst h;refine EvL.set hb ⟨λhc=>⟨hc,rfl,?_⟩,λ_ _ h=>h,λh=>h⟩
     simp only [setAt,List.length_append,List.length_take,List.length_drop];omega
    ·cases h
   ·cases h
  ·split at h
   ·rename_i hb
    split at h
    ·simp only [T.all] at h
     obtain ⟨_,h⟩:=h;split at h
     ·simp only [T.all] at h
      subst h;exact EvL.set hb ⟨λhc=>by simp [aZ.rO] at hc,λ_ _ h=>h,λh=>h⟩
     ·cases h
    ·cases h
   ·cases h
  ·cases h
 ·cases h
theorem agY {t:TypeId}{x i y:LV}{H':List aZ}(h:(alq P H t x i y).all (λq=>q=H')):EvL H H':=by
 unfold alq at h;split at h
 ·split at h
  ·split at h
   ·rename_i hb
    split at h
    ·simp only [T.all] at h
     subst h;exact EvL.set hb ⟨λhc=>by simp [aZ.rO] at hc,λ_ _ _=>trivial,λh=>h⟩
    ·cases h
   ·cases h
  ·cases h
 ·cases h
theorem agZ {t:TypeId}{x i y:LV}{H':List aZ}(h:(insL P H t x i y).all (λq=>q=H')):EvL H H':=by
 unfold insL at h;split at h
 ·split at h
  ·rename_i hb
   split at h
   ·split at h
    ·simp only [T.all] at h
     obtain ⟨_,h⟩:=h;subst h;exact EvL.set hb ⟨λhc=>by simp [aZ.rO] at hc,λ_ _ _=>trivial,λh=>h⟩
    ·cases h
   ·cases h
  ·exact agY h
 ·exact agY h
theorem aqf {t:TypeId}{n c lv:LV}{H':List aZ}(h:(QO P H t n c).all (λq=>q=(lv,H'))):EvL H H':=by
 unfold QO at h;split at h
 ·split at h
  ·split at h
   ·split at h
    ·simp only [T.all,Prod.mk.injEq] at h
     rw [←h.2.2];exact EvL.app _ _
    ·cases h
   ·cases h
  ·cases h
 ·cases h
theorem adA {t tx:TypeId} {x y lv:LV} {H':List aZ} (h:(FP P H t tx x y).all (λq=>q=(lv,H'))):EvL H H':=by
 unfold FP at h;split at h
 ·split at h
  ·split at h
   ·obtain ⟨q,_,h⟩:=T.bF h
    ·split at h
     ·simp only [T.all,Prod.mk.injEq] at h
      rw [←h.2.2];exact EvL.app _ _
     ·split at h
      ·rename_i hb
       split at h
       ·split at h
        ·simp only [T.all,Prod.mk.injEq] at h
         rw [←h.2.2];refine (EvL.set hb ?_).trans (EvL.app _ _);exact ⟨λhc=>by simp [aZ.rO] at hc,λ_ _ h=>by simp [live] at h,λ_=>rfl⟩
        ·cases h
       ·cases h
      ·cases h
     ·cases h
   ·cases h
  ·cases h
 ·cases h
end Go.Sx
namespace Go.Sx
open Go Go.RowKit Go.Proofs.YtlihnbimgclogaaGreatDoor
variable {P : Program} {G : dI} {Γ : Specs} {K : Hand} {β : Nat → Loc} {Z : Nat → Prop} {Z0 : Gz} {w w0 : World} {F : List LV} {H : List aZ} {a : Act} {ds : List Deferred} {n : Nat}
theorem RF.put (hF:RF ds β Z w n F a) {lv:LV}{v:Value}(hr:R β Z w lv v) (hk:okV n lv) (d:Option Tmp):RF ds β Z w n (fV F d lv) (a.put d v):=by
 cases d with
 |none=>exact hF
 | some d=>
  refine ⟨by simp [fV,Act.put,hF.size],λt x hx=>?_,hF.defers⟩
  simp only [fV] at hx;rw [List.getElem?_set] at hx;simp only [Act.put]
  have hlt:t<F.length:=by
   by_cases ht:t<F.length
   ·exact ht
   ·exfalso
    split at hx
    ·split at hx
     ·omega
     ·cases hx
    ·rw [List.getElem?_eq_none (by omega)] at hx;cases hx
  have hta:t<a.tmps.size:=by rw [hF.size];exact hlt
  by_cases hdt:d=t
  ·subst hdt
   simp only [if_true,hlt] at hx;simp only [Option.some.injEq] at hx;subst hx
   have:(a.tmps.setIfInBounds d v).getD d undef=v:=by simp [Array.getD,hta]
   rw [this];exact ⟨hr,hk⟩
  ·rw [if_neg hdt] at hx
   have:(a.tmps.setIfInBounds d v).getD t undef=a.tmps.getD t undef:=by simp [Array.getD,hta,hdt]
   rw [this];exact hF.get t x hx
theorem RF.know (hF:RF ds β Z w n F a) {d:Nat}{lv:LV}(hr:R β Z w lv (a.tmps.getD d undef)) (hk:okV n lv):RF ds β Z w n (F.set d lv) a:=by
 refine ⟨by simp [hF.size],λt x hx=>?_,hF.defers⟩
 rw [List.getElem?_set] at hx
 by_cases hdt:d=t
 ·subst hdt
  simp only [if_true] at hx;split at hx
  ·simp only [Option.some.injEq] at hx;subst hx;exact ⟨hr,hk⟩
  ·cases hx
 ·rw [if_neg hdt] at hx;exact hF.get t x hx
theorem RF.pass (hF:RF ds β Z w n F a) (d:Option Tmp):RF ds β Z w n (fV F d (.v undef)) (a.put d undef):=hF.put (lv:=.v undef) (by simp only [R]) trivial d
theorem Bz {o:Oper}{K:Act→World→Prop}{Q:Exit→Act→World→Prop}(h:dX P (λv w'=>K (a.put o.dst v) w') ((execOp a.eval o).run P w)) (r:Option Nat) (m:Nat):o.wpIn (Q8 r) m P a w K Q:=by
 have hnd:∀c,o.op≠ .defer c:=λc hc=>by
  rcases Ce (P:=P) (ρ:=a.eval) (w:=w) hc with ⟨d,w',e⟩ |⟨d,w',e⟩<;>rw [e] at h<;>simp only [dX] at h
 unfold Oper.wpIn;refine ⟨λ_ _=>trivial,?_⟩
 rw [semAt_eq hnd];generalize (execOp a.eval o).run P w=res at*;cases res with
 |ok m w'=>
  cases m<;>simp only [dX] at h<;>simp only [Oper.uponIn]
  case value u=>exact h
  case skip=>exact h
  case enter f args=>exact ⟨λh=>(by cases h),callsIn_wide.2 (h.mono λe w'' ⟨v,he,hk⟩=>by subst he;exact hk)⟩
  case round l f tmps assign body=>exact ⟨λh=>(by cases h),LJ (h.mono λe w'' ⟨v,he,hk⟩=>by subst he;exact hk)⟩
 |halt x w'=>simp only [dX] at h
theorem tq {ops:Array Oper}{o:Oper}{j d:Nat}{want b:Bool}(hg:o.guard=some (j,want)) (hd:(ops[j]?).bind (·.dst)=some d) (hv:a.tmps[d]? =some (.bool b)):Region.wanted o (yielded ops a.tmps)=(b==want):=by
 unfold Region.wanted;rw [hg];simp only [yielded,hd,Option.bind_some,hv];cases b<;>cases want<;>rfl
theorem yS {ops:Array Oper}{o:Oper}{j d:Nat}{want:Bool}{vs:Array Value}(hg:o.guard=some (j,want)) (hd:(ops[j]?).bind (·.dst)=some d) (hv:a.tmps[d]? =some (.tuple vs)):Region.wanted o (yielded ops a.tmps)=false:=by
 unfold Region.wanted;rw [hg];simp only [yielded,hd,Option.bind_some,hv];cases want<;>rfl
theorem RF.slot (hF:RF ds β Z w n F a) {d:Nat}{x:LV}(hx:F.getD d .junk=x) (hj:x≠ .junk):F[d]? =some x∧a.tmps[d]? =some (a.tmps.getD d undef):=by
 cases h:F[d]? with
 |none=>simp [List.getD,h] at hx;exact absurd hx.symm hj
 |some y=>
  simp [List.getD,h] at hx
  subst hx;refine ⟨rfl,?_⟩
  have:d<a.tmps.size:=by rw [hF.size];exact (List.getElem?_eq_some_iff.1 h).1
  simp [Array.getD,this]
theorem RW.less {gh:List (LV×Value)}{mk:List Nat}(hW:RW G w0 ⟨Z0.z,gh++Z0.gh,mk++Z0.vw⟩ Z β H w):RW G w0 Z0 Z β H w:=⟨hW.below,hW.oN,hW.wB,hW.mX,hW.yE,hW.low,hW.inj,hW.blk,hW.jJ,λp hp=>hW.gh p (List.mem_append.2 (.inr hp)),λD hD=>hW.vw D (List.mem_append.2 (.inr hD))⟩
def dsB:List Deferred→List Nat
 | []=>[]
 |⟨.collected D,_⟩::ds=>D::dsB ds
 |_::ds=>dsB ds
theorem VT:∀ {ds:List Deferred}{D:Nat},kN D∈ds→D∈dsB ds
 | d::ds,D,h=>by
  rcases List.mem_cons.1 h with h|h
  ·rw [←h];simp [dsB]
  ·unfold dsB
   split
   ·exact absurd ‹_› (by simp)
   ·rename_i e;simp only [List.cons.injEq] at e;rw [←e.2];exact List.mem_cons_of_mem _ (VT h)
   ·rename_i e;simp only [List.cons.injEq] at e;rw [←e.2];exact VT h
theorem apH:∀ {ds:List Deferred}{D:Nat},D∈dsB ds→(∀d,d∈ds→∃D,d=kN D)→kN D∈ds
 | [],D,h,_=>by cases h
 |d::ds,D,h,hm=>by
  obtain ⟨D0,rfl⟩:=hm d (by simp)
  simp only [dsB] at h;rcases List.mem_cons.1 h with h|h
  ·rw [h];exact List.mem_cons_self
  ·exact List.mem_cons_of_mem _ (apH h (λd hd=>hm d (List.mem_cons_of_mem _ hd)))
theorem RW.hold (hW:RW G w0 Z0 Z β H w) (hF:RF ds β Z w H.length F a):RW G w0 ⟨Z0.z,F.zip a.tmps.toList++Z0.gh,dsB ds++Z0.vw⟩ Z β H w:=⟨hW.below,hW.oN,hW.wB,hW.mX,hW.yE,hW.low,hW.inj,hW.blk,hW.jJ,λp hp=>by
  rcases List.mem_append.1 hp with hp|hp
  ·obtain ⟨i,hi,hpi⟩:=List.mem_iff_getElem.1 hp
   have hiF:i<F.length:=by simp at hi;omega
   have hia:i<a.tmps.size:=by simp at hi;omega
   have h1:=hF.get i F[i] (List.getElem?_eq_getElem hiF)
   have e1:p=(F[i],a.tmps[i]):=by rw [←hpi];simp
   have e2:a.tmps.getD i undef=a.tmps[i]:=by simp [Array.getD,hia]
   rw [e2] at h1;rw [e1];exact h1
  ·exact hW.gh p hp,λD hD=>by
  rcases List.mem_append.1 hD with hD|hD
  ·have:=apH hD (λd hd=>by obtain ⟨D,h,_⟩:=hF.defers.2 d hd;exact ⟨D,h⟩)
   obtain ⟨D',h1,h2,h3⟩:=hF.defers.2 _ this;simp only [kN,Deferred.mk.injEq,Target.collected.injEq] at h1;rw [h1.1];exact ⟨h2,h3⟩
  ·exact hW.vw D hD⟩
theorem RW.held {β':Nat→Loc}{Z':Nat→Prop}{w':World}{H':List aZ}(hF:RF ds β Z w H.length F a) (r1:RW G w0 ⟨Z0.z,F.zip a.tmps.toList++Z0.gh,dsB ds++Z0.vw⟩ Z' β' H' w'):RF ds β' Z' w' H'.length F a:=by
 refine ⟨hF.size,λt x hx=>?_,hF.defers.1,λd hd=>?_⟩
 ·have htF:t<F.length:=(List.getElem?_eq_some_iff.1 hx).1
  have hta:t<a.tmps.size:=by have:=hF.size;omega
  have e2:a.tmps.getD t undef=a.tmps[t]:=by simp [Array.getD,hta]
  rw [e2];refine r1.gh (x,a.tmps[t]) (List.mem_append.2 (.inl (List.mem_iff_getElem.2 ⟨t,by simp;omega,?_⟩)))
  have:F[t]=x:=by simpa [List.getElem?_eq_getElem htF] using hx
  simp [this]
 ·obtain ⟨D,h1,h2,h3⟩:=hF.defers.2 d hd
  have:=r1.vw D (List.mem_append.2 (.inl (VT (h1▸hd))))
  exact ⟨D,h1,this.1,this.2⟩
theorem Rl {o:Oper}{g:FuncId}{l:List LV}(h:callOf G F o=some (g,l)):∃f args ty cap,o.op=.call {callee:=.value f,args,argTypes:=ty}∧aV G F f=.fn g cap∧l=args.toList.map (λx=>norm (aV G F x))++cap:=by
 unfold callOf at h;split at h
 ·rename_i f args ty ho
  split at h
  ·rename_i g' cap hf
   simp only [Option.some.injEq,Prod.mk.injEq] at h;obtain ⟨rfl,rfl⟩:=h;exact ⟨f,args,ty,cap,ho,hf,rfl⟩
  ·cases h
 ·cases h
theorem Xl {o:Oper}{k:Nat}{l:List LV}(h:alY G F o=some (k,l)):∃f args ty,o.op=.call {callee:=.value f,args,argTypes:=ty}∧aV G F f=.yt k∧l=args.toList.map (λx=>norm (aV G F x)):=by
 unfold alY at h;split at h
 ·rename_i f args ty ho
  split at h
  ·rename_i k' hf
   simp only [Option.some.injEq,Prod.mk.injEq] at h;obtain ⟨rfl,rfl⟩:=h;exact ⟨f,args,ty,ho,hf,rfl⟩
  ·cases h
 ·cases h
theorem ak6 (hΓ:∀g S,Γ g=some S→Valid P G g S) (hK:dn P G K) (hW:RW G w0 Z0 Z β H w) (hF:RF ds β Z w H.length F a) {o:Oper}{lv:LV}{H':List aZ}(h:(opk P G Γ K F H o).all (λq=>q=(lv,H'))):
  dX P (λv w'=>∃Z' β',RW G w0 Z0 Z' β' H' w'∧RF ds β' Z' w' H'.length F a∧R β' Z' w' lv v∧okV H'.length lv) ((execOp a.eval o).run P w):=by
 unfold opk at h
 have old:(o6 P G Γ F H o).all (λq=>q=(lv,H'))→dX P (λv w'=>∃Z' β',RW G w0 Z0 Z' β' H' w'∧RF ds β' Z' w' H'.length F a∧R β' Z' w' lv v∧okV H'.length lv) ((execOp a.eval o).run P w):=λh=>
  je (λv w' ⟨Z',β',e1,e2,e3,e4,_⟩=>⟨Z',β',e1,e2,e3,e4⟩) (Ap hΓ hW hF h)
 split at h
 ·rename_i g l hc
  split at h
  ·exact old h
  ·split at h
   ·rename_i fn hfn
    split at h
    ·rename_i hb
     obtain ⟨f,args,ty,cap,ho,hf,rfl⟩:=Rl hc;simp only [Bool.and_eq_true,Bool.not_eq_true'] at hb;obtain ⟨hb1,hb2⟩:=hb
     have hfr:=hF.eval hW.jJ f
     rw [hf] at hfr;simp only [R,okV] at hfr;obtain ⟨⟨ys,hy,hyr⟩,hcap⟩:=hfr
     have hrun:(execOp a.eval o).run P w=.ok (.enter g (args.map a.eval++ys)) w:=by
      unfold execOp;simp only [ho]
      have hbn:¬fn.body=none:=by intro hbb;simp [hbb] at hb1
      have hb3:¬fn.name= "runtime.NumGoroutine":=by simpa using hb2
      simp [resolve,Deferred.ofValue,hy,invoke,callFunc,hfn,hb3,hbn]
     rw [hrun];simp only [dX]
     have hargs:RL β Z w (args.toList.map (λx=>norm (aV G F x))++cap) (args.map a.eval++ys).toList:=by
      refine RL.dO (by simp [RL.length hyr]) λi x hx=>?_
      rw [Array.toList_append,Array.toList_map]
      by_cases hi:i<args.toList.length
      ·rw [List.getElem?_append_left (by simpa using hi)] at hx⊢
       rw [List.getElem?_map] at hx⊢;cases hq:args.toList[i]? with
       |none=>simp [hq] at hx
       |some q=>simp [hq] at hx;subst hx;exact ⟨a.eval q,by simp,vP (hF.eval hW.jJ q).1⟩
      ·rw [List.getElem?_append_right (by simpa using hi)] at hx⊢
       obtain ⟨y,h1,h2⟩:=RL.get _ _ hyr hx;exact ⟨y,by simpa using h1,h2⟩
     have hoka:dQ H.length (args.toList.map (λx=>norm (aV G F x))++cap):=by
      refine dQ.append (dQ.dO λi x hx=>?_) hcap
      rw [List.getElem?_map] at hx;cases hq:args.toList[i]? with
      |none=>simp [hq] at hx
      |some q=>simp [hq] at hx;subst hx;exact vk (hF.eval hW.jJ q).2
     exact (hK.k w0 _ Z β H w g _ _ lv H' (hW.hold hF) hargs hoka h).mono λe w' ⟨v,he,Z',β',r1,r2,r3⟩=>⟨v,he,Z',β',r1.less,RW.held hF r1,r2,r3⟩
    ·cases h
   ·cases h
 ·split at h
  ·rename_i k l hy
   obtain ⟨f,args,ty,ho,hf,rfl⟩:=Xl hy
   have hfr:=hF.eval hW.jJ f
   rw [hf] at hfr;simp only [R,okV] at hfr
   have hargs:RL β Z w (args.toList.map (λx=>norm (aV G F x))) (args.map a.eval).toList:=by
    refine RL.dO (by simp) λi x hx=>?_
    rw [Array.toList_map,List.getElem?_map];rw [List.getElem?_map] at hx;cases hq:args.toList[i]? with
    |none=>simp [hq] at hx
    |some q=>simp [hq] at hx;subst hx;exact ⟨a.eval q,by simp,vP (hF.eval hW.jJ q).1⟩
   have hoka:dQ H.length (args.toList.map (λx=>norm (aV G F x))):=by
    refine dQ.dO λi x hx=>?_
    rw [List.getElem?_map] at hx;cases hq:args.toList[i]? with
    |none=>simp [hq] at hx
    |some q=>simp [hq] at hx;subst hx;exact vk (hF.eval hW.jJ q).2
   obtain ⟨r,h1,h2,h3⟩:=hK.y w0 _ Z β H w k _ _ lv H' (hW.hold hF) hargs hoka h
   have hrun:(execOp a.eval o).run P w=.ok (.round (β k).b r.fn ((r.params.zip (args.map a.eval)).foldl (λt (p,v)=>t.setIfInBounds p v) r.tmps) r.assign r.body) w:=by
    unfold execOp;simp only [ho]
    have:=run_yield (P:=P) h1 h2
    simp [resolve,Deferred.ofValue,hfr.1,invoke,this]
   rw [hrun];simp only [dX];exact h3.mono λe w' ⟨v,he,Z',β',r1,r2,r3⟩=>⟨v,he,Z',β',r1.less,RW.held hF r1,r2,r3⟩
  ·exact old h
theorem aHb {o:Oper}(hm:aco P Γ o=true):opk P G Γ K F H o=o6 P G Γ F H o:=by
 unfold opk;split
 ·rename_i g l hc
  obtain ⟨f,args,ty,cap,ho,hf,rfl⟩:=Rl hc;unfold aco at hm;simp only [Bool.and_eq_true] at hm
  have hm2:=hm.2
  rw [ho] at hm2;cases f with
  |func g'=>
   simp only [aV,LV.fn.injEq] at hf;obtain ⟨rfl,_⟩:=hf;simp only at hm2;obtain ⟨S,hS⟩:=Option.isSome_iff_exists.1 hm2;simp only [hS]
  |tmp _=>simp at hm2
  |const _=>simp at hm2
  |global _=>simp at hm2
 ·split
  ·rename_i k l hy
   obtain ⟨f,args,ty,ho,hf,rfl⟩:=Xl hy;unfold aco at hm;simp only [Bool.and_eq_true] at hm
   have hm2:=hm.2
   rw [ho] at hm2;cases f with
   |func g'=>simp [aV] at hf
   |tmp _=>simp at hm2
   |const _=>simp at hm2
   |global _=>simp at hm2
  ·rfl
theorem ali {o:Oper}(hm:aco P Γ o=true):qE P o=true:=by
 unfold aco at hm;simp only [Bool.and_eq_true] at hm;exact hm.1
theorem Qq {ty:Ty}:∀(cs:List LV) (ls:List (List ty.D)),aeR ty cs=some ls→∀(j:Nat) (x:LV),cs[j]? =some x→∃l,x=.xl ty l∧ls[j]? =some l
 | [],_,_,j,x,hx=>by simp at hx
 | c ::cs,ls,h,j,x,hx=>by
  simp only [aeR] at h;split at h
  ·rename_i e l
   split at h
   ·rename_i he r _ hr
    simp only [Option.some.injEq] at h;subst h;subst he;cases j with
    |zero=>
     simp only [List.getElem?_cons_zero,Option.some.injEq] at hx;exact ⟨l,hx.symm,rfl⟩
    |succ j=>
     simp only [List.getElem?_cons_succ] at hx⊢;exact Qq cs r hr j x hx
   ·cases h
  ·cases h
theorem acE {o o2:Oper} {num:Int} {len:Nat} {lv:LV} (hW:RW G w0 Z0 Z β H w) (hF:RF ds β Z w H.length F a) (h:aHP P G F H o o2=some (num,len,lv)) (h0:0≤num∧num<(len:Int)):
  o.guard=none∧o2.guard=none∧∃v z,(execOp a.eval o).run P w=.ok (.value v) w∧(execOp (a.put o.dst v).eval o2).run P w=.ok (.value z) w∧R β Z w lv z∧okV H.length lv:=by
 unfold aHP at h;split at h
 ·rename_i hg
  simp only [Bool.and_eq_true,Option.isNone_iff_eq_none] at hg;refine ⟨hg.1,hg.2,?_⟩;split at h
  ·rename_i t x i d t2 d2 ho hd ho2
   split at h
   ·rename_i hc
    obtain ⟨rfl,hdl,hagg⟩:=hc;split at h
    ·rename_i len' e k off kd n hu hx hi
     split at h
     ·rename_i hsz
      split at h
      ·rename_i b hb
       split at h
       ·rename_i hcl
        split at h
        ·rename_i ty l rest hcs
         split at h
         ·rename_i ls hls
          simp only [Option.some.injEq,Prod.mk.injEq] at h;obtain ⟨rfl,rfl,rfl⟩:=h
          have exv:=hF.eval hW.jJ x
          have eiv:=hF.eval hW.jJ i
          rw [hx] at exv;rw [hi] at eiv;simp only [R] at eiv
          have hix:(BU P t (.own k off) true (.ki kd n)).all (λr=>r=.own k (off+n.toNat*(0+1))):=by
           unfold BU;simp only [pl,hu,hsz,if_true];rw [if_pos h0];simp only [T.all]
          obtain ⟨v,e1,e2,e3⟩:=xQ (w:=w) hix exv.1 (show R β Z w (.ki kd n) (a.eval i) by simp only [R];exact eiv.1) exv.2
          have hj:n.toNat<len':=by omega
          obtain ⟨c,hc⟩:∃c,b.c[off+n.toNat]? =some c:=⟨_,List.getElem?_eq_getElem (by omega)⟩
          have hcc:(LV.xl ty l::rest)[n.toNat]? =some c:=by
           rw [←hcs,List.getElem?_take,if_pos hj,List.getElem?_drop];exact hc
          obtain ⟨l',rfl,hl'⟩:=Qq _ _ hls _ _ hcc
          have hld:(zq P H t2 (.own k (off+n.toNat*(0+1)))).all (λz=>z=.xl ty l'):=by
           unfold zq;simp only [hagg,hb,Nat.zero_add,Nat.mul_one,hcl.1,if_true,hc,T.all]
          obtain ⟨z,f1,f2,f3⟩:=vF hW hld e2 e3
          have f1:=f1 w (λ_ _=>rfl)
          refine ⟨v,z,by simp [execOp,ho,e1],?_,?_,?_⟩
          ·have hda:d2<a.tmps.size:=by rw [hF.size];exact hdl
           have ev:(a.put o.dst v).eval (.tmp d2)=v:=by simp [hd,Act.put,Act.eval,Array.getD,hda]
           simp [execOp,ho2,ev,f1]
          ·have:ls.getD n.toNat []=l':=by simp [List.getD,hl']
           rw [this];exact f2
          ·trivial
         ·cases h
        ·cases h
       ·cases h
      ·cases h
     ·cases h
    ·cases h
   ·cases h
  ·cases h
 ·cases h
end Go.Sx
end
