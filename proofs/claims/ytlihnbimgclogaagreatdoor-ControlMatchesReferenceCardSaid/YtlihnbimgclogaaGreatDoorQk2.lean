/- Helpers for ControlMatchesReference. Conditions: none. -/
import Derived.Test.YtlihnbimgclogaaGreatDoorQk1
noncomputable section
namespace Go.Sx
open Go Go.RowKit Go.Proofs.YtlihnbimgclogaaGreatDoor
variable {P : Program} {G : dI} {Γ : Specs} {K : Hand} {β : Nat → Loc} {Z : Nat → Prop} {Z0 : Gz} {w w0 : World} {F : List LV} {H : List aZ} {a : Act} {ds : List Deferred} {n : Nat}
theorem wI (hΓ:∀g S,Γ g=some S→Valid P G g S) (hK:dn P G K) {ops:Array Oper}{Q:Exit→Act→World→Prop}{F':List LV}{H':List aZ}(hQ:∀Z' β' a' w',RW G w0 Z0 Z' β' H' w'→RF ds β' Z' w' H'.length F' a'→Q .normal a' w') (r:Option Nat) (m:Nat):
  ∀(os:List Oper) (k:Nat) (F:List LV) (H:List aZ) (Z:Nat→Prop) (β:Nat→Loc) (a:Act) (w:World),(∀j,os[j]? =ops[k+j]?)→RW G w0 Z0 Z β H w→RF ds β Z w H.length F a→
   (AX P G Γ K ops os F H).all (λq=>q=(F',H'))→wpOpsIn (Q8 r) m P ops Q (List.range' k os.length) a w
 | [],k,F,H,Z,β,a,w,_,hW,hF,h=>by
  simp only [AX,T.all,Prod.mk.injEq] at h;obtain ⟨rfl,rfl⟩:=h;simp only [List.length_nil,List.range'_zero,wpOpsIn];exact hQ Z β a w hW hF
 | o ::os,k,F,H,Z,β,a,w,hl,hW,hF,h=>by
  have h0:ops[k]? =some o:=by simpa using (hl 0).symm
  have hl':∀j,os[j]? =ops[k+1+j]? :=λj=>by have:=hl (j+1);simpa [Nat.add_assoc,Nat.add_comm 1 j] using this
  simp only [List.length_cons,List.range'_succ,wpOpsIn,h0]
  have goOk:∀(F:List LV),RF ds β Z w H.length F a→((opk P G Γ K F H o).bind λq=>AX P G Γ K ops os (fV F o.dst q.1) q.2).all (λq=>q=(F',H'))→o.wpIn (Q8 r) m P a w (wpOpsIn (Q8 r) m P ops Q (List.range' (k+1) os.length)) Q:=λF hF h=>by
   obtain ⟨⟨lv,H1⟩,h1,h2⟩:=T.bF h;refine Bz (je (λv w' ⟨Z',β',e1,e2,e3,e4⟩=>?_) (ak6 hΓ hK hW hF h1)) r m
   exact wI hΓ hK hQ r m os (k+1) _ H1 Z' β' _ w' hl' e1 (e2.put e3 e4 o.dst) h2
  have passOk:∀(F:List LV),RF ds β Z w H.length F a→(AX P G Γ K ops os (fV F o.dst (.v undef)) H).all (λq=>q=(F',H'))→(∀f,o.about P w a.eval=some f→(Q8 r).fn f)∧wpOpsIn (Q8 r) m P ops Q (List.range' (k+1) os.length) (a.put o.dst undef) w:=λF hF h=>
   ⟨λ_ _=>trivial,wI hΓ hK hQ r m os (k+1) _ H Z β _ w hl' hW (hF.pass o.dst) h⟩
  unfold AX at h;simp only at h;split at h
  ·rename_i hg
   have hw:Region.wanted o (yielded ops a.tmps)=true:=by simp [Region.wanted,hg]
   rw [if_pos hw];split at h
   ·exact goOk F hF h
   ·rename_i o2 os2
    split at h
    ·rename_i num len lv hix
     simp only [T.all] at h;obtain ⟨h1,h2⟩:=h;obtain ⟨_,hg2,v,z,r1,r2,r3,r4⟩:=acE hW hF hix h1
     have h02:ops[k+1]? =some o2:=by simpa using (hl' 0).symm
     have hl2:∀j,os2[j]? =ops[k+1+1+j]? :=λj=>by have:=hl' (j+1);rw [List.getElem?_cons_succ] at this;rw [this];congr 1;omega
     have act1:∀ {K:Value→World→Prop},K v w→dX P K ((execOp a.eval o).run P w):=λh=>by rw [r1];exact h
     have act2:∀ {K:Value→World→Prop},K z w→dX P K ((execOp (a.put o.dst v).eval o2).run P w):=λh=>by rw [r2];exact h
     refine Bz (act1 ?_) r m;simp only [List.length_cons,List.range'_succ,wpOpsIn,h02]
     have hw2:Region.wanted o2 (yielded ops (a.put o.dst v).tmps)=true:=by simp [Region.wanted,hg2]
     rw [if_pos hw2];refine Bz (act2 ?_) r m;exact wI hΓ hK hQ r m os2 (k+1+1) _ H Z β _ w hl2 hW ((hF.put (lv:=.junk) (by simp only [R]) trivial o.dst).put r3 r4 o2.dst) h2
    ·exact goOk F hF h
  ·rename_i j want hg
   split at h
   ·rename_i d hd
    split at h
    ·rename_i b hb
     obtain ⟨s1,s2⟩:=hF.slot hb (by simp)
     have hv:=(hF.get d _ s1).1
     simp only [R] at hv;rw [hv] at s2;rw [tq hg hd s2];split at h
     ·rename_i e;subst e;simp only [beq_self_eq_true,if_true];exact goOk F hF h
     ·rename_i e;rw [if_neg (by simpa using e)];exact passOk F hF h
    ·rename_i g hb
     obtain ⟨s1,s2⟩:=hF.slot hb (by simp)
     have hv:=(hF.get d _ s1).1
     simp only [R] at hv
     have kn:∀b,g=b→RF ds β Z w H.length (F.set d (.bl b)) a:=λb e=>hF.know (by simp only [R];rw [hv,e]) trivial
     rw [hv] at s2;rw [tq hg hd s2];split at h
     ·rename_i hwt
      subst hwt;simp only [T.all] at h;cases hgg:g with
      |true=>simp only [beq_self_eq_true,if_true];exact goOk _ (kn true hgg) (h.1 hgg)
      |false=>rw [if_neg (by simp)];exact passOk _ (kn false hgg) (h.2 hgg)
     ·rename_i hwt
      have hwt':want=false:=by simpa using hwt
      subst hwt';simp only [T.all] at h;cases hgg:g with
      |true=>rw [if_neg (by simp)];exact passOk _ (kn true hgg) (h.1 hgg)
      |false=>simp only [beq_self_eq_true,if_true];exact goOk _ (kn false hgg) (h.2 hgg)
    ·rename_i vs hb
     obtain ⟨s1,s2⟩:=hF.slot hb (by simp)
     have hv:=(hF.get d _ s1).1
     simp only [R] at hv;rw [hv] at s2;rw [yS hg hd s2,if_neg (by simp)]
     exact passOk F hF h
    ·cases h
   ·cases h
def T.lv {α:Type}(p:α→Prop):T α→Prop
 | .ok x=>p x
 | .br _ t e=>t.lv p∧e.lv p
 | .req _ t=>t.lv p
 | .no=>True
theorem T.xM {α γ:Type}{p:α→Prop}{q:γ→Prop}{k:α→T γ}(hk:∀x,p x→(k x).lv q):∀ {t:T α},t.lv p→(t.bind k).lv q
 | .ok _,h=>hk _ h
 | .br _ t e,h=>⟨T.xM hk (t:=t) h.1,T.xM hk (t:=e) h.2⟩
 | .req _ t,h=>T.xM hk (t:=t) h
 | .no,_=>trivial
theorem T.Au {α:Type}{p:α→Prop}(hp:∀x,p x):∀(t:T α),t.lv p
 | .ok _=>hp _
 | .br _ t e=>⟨T.Au hp t,T.Au hp e⟩
 | .req _ t=>T.Au hp t
 | .no=>trivial
theorem adr {o:Oper}(hpt:nR P 8 o.type=true) {g:FuncId}{l:List LV}:(zD P Γ H o g l).lv (λq=>q.2=H):=by
 have bd:∀(t:T LV),(t.bind λy=>(T.ok (y,H):T (LV×List aZ))).lv (λq=>q.2=H):=λt=>T.xM (p:=λ_=>True) (q:=λq:LV×List aZ=>q.2=H) (k:=λy=>T.ok (y,H)) (λx _=>(rfl:(x,H).2=H)) (T.Au (λ_=>trivial) t)
 unfold zD;split
 ·split
  ·split
   ·split
    ·exact bd _
    ·first|exact bd _|(rw [if_pos hpt];exact bd _)
   ·trivial
  ·trivial
 ·trivial
theorem LX {o:Oper}(hm:qE P o=true):(o6 P G Γ F H o).lv (λq=>q.2=H):=by
 have bd:∀(t:T LV),(t.bind λy=>(T.ok (y,H):T (LV×List aZ))).lv (λq=>q.2=H):=λt=>T.xM (p:=λ_=>True) (q:=λq:LV×List aZ=>q.2=H) (k:=λy=>T.ok (y,H)) (λx _=>(rfl:(x,H).2=H)) (T.Au (λ_=>trivial) t)
 have c1:∀ {f:Operand} {args:Array Operand} {ty:Array TypeId},o.op=.call {callee:=.value f,args,argTypes:=ty}→nR P 8 o.type=true:=λho=>by simpa [qE,ho] using hm
 have c2:∀ {r:Operand} {name:String} {args:Array Operand} {ty:Array TypeId},o.op=.call {callee:=.invoke r name,args,argTypes:=ty}→nR P 8 o.type=true:=λho=>by simpa [qE,ho] using hm
 unfold o6;split<;>(try exact bd _)<;>(try trivial)<;>(try rfl)<;>(try (rename_i ho;simp [qE,ho] at hm;done))<;>(try (rename_i ho;have hpt:=c1 ho))<;>(try (rename_i ho;have hpt:=c2 ho))
 all_goals (split<;>(try exact bd _)<;>(try trivial)<;>(try rfl)<;>(try exact adr hpt))
 all_goals (split<;>(try exact bd _)<;>(try trivial)<;>(try rfl))
def Keeps (ds:List Nat) (F:List LV) (H:List aZ) (q:List LV×List aZ):Prop:=q.1.length=F.length∧(∀i,i∉ds→q.1[i]? =F[i]?)∧q.2=H
theorem mg {ds:List Nat}{F F1:List LV}(h:F1.length=F.length∧∀i,i∉ds→F1[i]? =F[i]?) {d:Nat}(hd:d∈ds) (x:LV):(F1.set d x).length=F.length∧∀i,i∉ds→(F1.set d x)[i]? =F[i]? :=by
 refine ⟨by simp [h.1],λi hi=>?_⟩
 rw [List.getElem?_set,if_neg (by rintro rfl;exact hi hd)]
 exact h.2 i hi
theorem qp {ds:List Nat}{F F1:List LV}(h:F1.length=F.length∧∀i,i∉ds→F1[i]? =F[i]?) {d:Option Nat}(hd:∀t,d=some t→t∈ds) (x:LV):(fV F1 d x).length=F.length∧∀i,i∉ds→(fV F1 d x)[i]? =F[i]? :=by
 cases d with
 |none=>exact h
 |some t=>exact mg h (hd t rfl) x
theorem xG {ops:Array Oper}{F0:List LV}:∀(os:List Oper) (F:List LV),(∀o∈os,o∈ops.toList)→(∀o∈os,aco P Γ o=true)→F.length=F0.length∧(∀i,i∉uQ ops.toList→F[i]? =F0[i]?)→
  (AX P G Γ K ops os F H).lv (Keeps (uQ ops.toList) F0 H)
 | [],F,_,_,h=>by simp only [AX,T.lv,Keeps];exact ⟨h.1,h.2,trivial⟩
 | o ::os,F,hin,hm,h=>by
  have hdo:∀t,o.dst=some t→t∈uQ ops.toList:=λt ht=>List.mem_filterMap.2 ⟨o,hin o (by simp),ht⟩
  have go:∀F:List LV,F.length=F0.length∧(∀i,i∉uQ ops.toList→F[i]? =F0[i]?)→((opk P G Γ K F H o).bind λq=>AX P G Γ K ops os (fV F o.dst q.1) q.2).lv (Keeps (uQ ops.toList) F0 H):=λF hF=>
   T.xM (p:=λq=>q.2=H) (λq hq=>by rw [hq];exact xG os _ (λo ho=>hin o (by simp [ho])) (λo ho=>hm o (by simp [ho])) (qp hF hdo _)) (by rw [aHb (hm o (by simp))];exact LX (ali (hm o (by simp))))
  have pass:∀F:List LV,F.length=F0.length∧(∀i,i∉uQ ops.toList→F[i]? =F0[i]?)→(AX P G Γ K ops os (fV F o.dst (.v undef)) H).lv (Keeps (uQ ops.toList) F0 H):=λF hF=>
   xG os _ (λo ho=>hin o (by simp [ho])) (λo ho=>hm o (by simp [ho])) (qp hF hdo _)
  unfold AX;simp only;split
  ·split
   ·exact go F h
   ·rename_i o2 os2
    split
    ·have hdo2:∀t,o2.dst=some t→t∈uQ ops.toList:=λt ht=>List.mem_filterMap.2 ⟨o2,hin o2 (by simp),ht⟩
     exact xG os2 _ (λo ho=>hin o (by simp [ho])) (λo ho=>hm o (by simp [ho])) (qp (qp h hdo _) hdo2 _)
    ·exact go F h
  ·rename_i j want hg
   split
   ·rename_i d hd
    have hdd:d∈uQ ops.toList:=by
     cases hj:ops[j]? with
     |none=>simp [hj] at hd
     |some oj=>simp [hj] at hd;exact List.mem_filterMap.2 ⟨oj,by simpa using Array.mem_of_getElem? hj,hd⟩
    split
    ·split
     ·exact go F h
     ·exact pass F h
    ·split
     ·exact ⟨go _ (mg h hdd _),pass _ (mg h hdd _)⟩
     ·exact ⟨pass _ (mg h hdd _),go _ (mg h hdd _)⟩
    ·exact pass F h
    ·trivial
   ·trivial
theorem aBq {x:LV}{v:Value}(h:R β Z w x v):R β Z w (nki x) v:=by cases x<;>exact h
theorem VS {x y:LV}{v:Value}(h:R β Z w x v):R β Z w (xK true x y) v:=by
 unfold xK;split<;>simp_all [R]
 split<;>simp_all [R]
theorem Qg {x y:LV}{v:Value}(h:R β Z w y v):R β Z w (xK false x y) v:=by
 unfold xK;split<;>simp_all [R]
 split<;>simp_all [R]
theorem acn {b:Bool}{x y:LV}:okV n (xK b x y):=by
 unfold xK;split<;>(try trivial)
 split<;>trivial
theorem YW {x y:LV}{v:Value}(h:R β Z w x v):R β Z w (MV true x y) v:=VS (aBq h)
theorem VR {x y:LV}{v:Value}(h:R β Z w y v):R β Z w (MV false x y) v:=Qg (aBq h)
theorem alg {b:Bool}{x y:LV}:okV n (MV b x y):=acn
theorem QM {dl:List Deferred}{ds:List Nat}{b:Bool}{F F1 F2:List LV}(k1:F1.length=F.length∧∀i,i∉ds→F1[i]? =F[i]?) (k2:F2.length=F.length∧∀i,i∉ds→F2[i]? =F[i]?) (h:RF dl β Z w n (if b then F1 else F2) a):RF dl β Z w n (zl ds b F F1 F2) a:=by
 refine ⟨by rw [h.size];cases b<;>simp [zl,k1.1,k2.1],λt x hx=>?_,h.defers⟩
 have ht:t<F.length:=by have:=(List.getElem?_eq_some_iff.1 hx).1;simpa [zl] using this
 have hx':x=if ds.contains t then MV b (F1.getD t .junk) (F2.getD t .junk) else F.getD t .junk:=by
  simp [zl,ht] at hx
  rw [←hx]
  simp [List.getD,List.getElem?_eq_getElem ht]
 have g1:∀q,(if b then F1 else F2)[t]? =some q→R β Z w q (a.tmps.getD t undef)∧okV n q:=λq hq=>h.get t q hq
 by_cases hc:t∈ds
 ·rw [if_pos (by simpa using hc)] at hx'
  rw [hx'];refine ⟨?_,alg⟩;cases b with
  |true=>
   have e:F1[t]? =some (F1[t]'(by omega)):=List.getElem?_eq_getElem (by omega)
   have:=(g1 (F1[t]'(by omega)) (by simp only [if_true];exact e)).1
   have e2:F1.getD t .junk=F1[t]'(by omega):=by simp [List.getD,e]
   rw [e2];exact YW this
  |false=>
   have e:F2[t]? =some (F2[t]'(by omega)):=List.getElem?_eq_getElem (by omega)
   have:=(g1 (F2[t]'(by omega)) (by simp only [Bool.false_eq_true,if_false];exact e)).1
   have e2:F2.getD t .junk=F2[t]'(by omega):=by simp [List.getD,e]
   rw [e2];exact VR this
 ·rw [if_neg (by simpa using hc)] at hx'
  have e:F[t]? =some (F[t]'ht):=List.getElem?_eq_getElem ht
  have e2:F.getD t .junk=F[t]'ht:=by simp [List.getD,e]
  rw [hx',e2];refine g1 _ ?_;cases b with
  |true=>simp only [if_true];rw [k1.2 t hc,e]
  |false=>simp only [Bool.false_eq_true,if_false];rw [k2.2 t hc,e]
theorem o7 {ds:List Nat}:∀ {t:T (List LV×List aZ)},t.lv (Keeps ds F H)→(ug ds F H t).lv (Keeps ds F H)
 | .ok _,h=>h
 | .no,_=>trivial
 | .req _ t,h=>o7 (t:=t) h
 | .br b t e,h=>by
  have h1:=o7 h.1
  have h2:=o7 h.2
  simp only [ug];split
  ·rename_i x y hx hy
   rw [hx] at h1;rw [hy] at h2;refine ⟨by simp [zl],λi hi=>?_,rfl⟩
   simp only [zl]
   by_cases ht:i<F.length
   ·simp [ht,hi]
   ·simp [ht]
  ·exact ⟨h1,h2⟩
theorem jb {ds:List Nat}:∀ {t:T (List LV×List aZ)}{r:List LV×List aZ},t.lv (Keeps ds F H)→(ug ds F H t).all (λq=>q=r)→
  ∃q,t.all (λz=>z=q)∧q.2=r.2∧∀(dl:List Deferred) (β:Nat→Loc) (Z:Nat→Prop) (w:World) (n:Nat) (a:Act),RF dl β Z w n q.1 a→RF dl β Z w n r.1 a
 | .ok x,r,_,h=>⟨x,rfl,by rw [show x=r from h],λ_ _ _ _ _ _ hh=>by rw [←show x=r from h];exact hh⟩
 | .no,_,_,h=>by cases h
 | .req p t,r,hk,h=>by
  obtain ⟨q,h1,h2,h3⟩:=jb (t:=t) hk h.2;exact ⟨q,⟨h.1,h1⟩,h2,h3⟩
 | .br b t e,r,hk,h=>by
  have k1:=o7 hk.1
  have k2:=o7 hk.2
  simp only [ug] at h;split at h
  ·rename_i x y hx hy
   rw [hx] at k1;rw [hy] at k2
   have hr:(zl ds b F x.1 y.1,H)=r:=h
   cases b with
   |true=>
    obtain ⟨q,h1,h2,h3⟩:=jb (t:=t) (r:=x) hk.1 (by rw [hx];rfl)
    refine ⟨q,⟨λ_=>h1,λhb=>by cases hb⟩,by rw [←hr,h2];exact k1.2.2,λdl β Z w n a hh=>?_⟩
    rw [←hr];exact QM ⟨k1.1,k1.2.1⟩ ⟨k2.1,k2.2.1⟩ (h3 dl β Z w n a hh)
   |false=>
    obtain ⟨q,h1,h2,h3⟩:=jb (t:=e) (r:=y) hk.2 (by rw [hy];rfl)
    refine ⟨q,⟨λhb=>(by cases hb),λ_=>h1⟩,by rw [←hr,h2];exact k2.2.2,λdl β Z w n a hh=>?_⟩
    rw [←hr];exact QM ⟨k1.1,k1.2.1⟩ ⟨k2.1,k2.2.1⟩ (h3 dl β Z w n a hh)
  ·cases b with
   |true=>
    obtain ⟨q,h1,h2,h3⟩:=jb (t:=t) hk.1 (h.1 rfl);exact ⟨q,⟨λ_=>h1,λhb=>by cases hb⟩,h2,h3⟩
   |false=>
    obtain ⟨q,h1,h2,h3⟩:=jb (t:=e) hk.2 (h.2 rfl);exact ⟨q,⟨λhb=>(by cases hb),λ_=>h1⟩,h2,h3⟩
theorem ak1 (hΓ:∀g S,Γ g=some S→Valid P G g S) (hK:dn P G K) {id:Nat}{ops:Array Oper}{Q:Exit→Act→World→Prop}{F':List LV}{H':List aZ}(hQ:∀Z' β' a' w',RW G w0 Z0 Z' β' H' w'→RF ds β' Z' w' H'.length F' a'→Q .normal a' w')
  (hW:RW G w0 Z0 Z β H w) (hF:RF ds β Z w H.length F a) (h:(aGV P G Γ K ops F H).all (λq=>q=(F',H'))) (r:Option Nat) (m:Nat):(Code.region id ops false).wpIn (Q8 r) m P Q a w:=by
 refine wpIn_region ?_
 have e:List.range ops.size=List.range' 0 ops.toList.length:=by rw [List.range_eq_range'];simp
 rw [e];unfold aGV at h;split at h
 ·rename_i hm
  have hk:(AX P G Γ K ops ops.toList F H).lv (Keeps (uQ ops.toList) F H):=xG _ _ (λ_ h=>h) (λo ho=>List.all_eq_true.1 hm o ho) ⟨rfl,λ_ _=>rfl⟩
  obtain ⟨q,h1,h2,h3⟩:=jb hk h;refine wI hΓ hK (F':=q.1) (H':=q.2) (λZ' β' a' w' e1 e2=>hQ Z' β' a' w' (by rw [h2] at e1;exact e1) (by rw [h2] at e2;exact h3 _ _ _ _ _ _ e2)) r m ops.toList 0 F H Z β a w (by simp) hW hF h1
 ·exact wI hΓ hK hQ r m ops.toList 0 F H Z β a w (by simp) hW hF h
end Go.Sx
namespace Go.Sx
open Go Go.RowKit Go.Proofs.YtlihnbimgclogaaGreatDoor
variable {P : Program} {G : dI} {Γ : Specs} {β : Nat → Loc} {Z : Nat → Prop} {Z0 : Gz} {w w0 wr : World} {F : List LV} {H : List aZ} {a : Act} {ds : List Deferred} {n : Nat}
theorem T.zo {α:Type}{p:α→Prop}{x:α}:∀ {t:T α},t.lv p→t.all (λz=>z=x)→p x
 | .ok y,h,e=>by rw [←show y=x from e];exact h
 | .br b t e,h,hh=>by
  cases b with
  |true=>exact T.zo (t:=t) h.1 (hh.1 rfl)
  |false=>exact T.zo (t:=e) h.2 (hh.2 rfl)
 | .req _ t,h,hh=>T.zo (t:=t) h hh.2
 | .no,_,hh=>by cases hh
theorem acw {t:TypeId}{x lv:LV}{y:Value}(_:RW G w0 Z0 Z β H w) (h:(zq P H t x).all (λz=>z=lv)) (hr:R β Z w x y):∀k,k∈owns x→(∃b,H[k]? =some b∧live β k b)∧((∃off,x=.own k off)∨∃es i j,x=.op k es i j):=by
 intro k hk
 have cl:∀b:aZ,b.rO=true→live β k b:=λb hc=>by
  unfold aZ.rO at hc;split at hc
  ·rename_i hb;unfold live;rw [hb];trivial
  ·cases hc
 unfold zq at h;split at h
 ·split at h
  ·simp only [owns,List.mem_singleton] at hk
   subst hk;split at h
   ·rename_i hb
    split at h
    ·rename_i hc;exact ⟨⟨_,hb,cl _ hc.1⟩,.inl ⟨_,rfl⟩⟩
    ·cases h
   ·cases h
  ·simp [owns] at hk
  ·simp only [owns,List.mem_singleton] at hk
   subst hk;simp only [R] at hr;split at h
   ·rename_i hb;exact ⟨⟨_,hb,hr.1⟩,.inr ⟨_,_,_,rfl⟩⟩
   ·cases h
  ·cases h
 ·split at h
  ·simp only [owns,List.mem_singleton] at hk
   subst hk;split at h
   ·rename_i hb
    split at h
    ·rename_i hc;exact ⟨⟨_,hb,cl _ hc⟩,.inl ⟨_,rfl⟩⟩
    ·cases h
   ·cases h
  ·simp [owns] at hk
  ·simp only [owns,List.mem_singleton] at hk
   subst hk;simp only [R] at hr;split at h
   ·rename_i hb;exact ⟨⟨_,hb,hr.1⟩,.inr ⟨_,_,_,rfl⟩⟩
   ·cases h
  ·cases h
 ·cases h
theorem acu {t:TypeId}{x q lv:LV}(h:(QR P H t x q).all (λr=>r=lv)):∀k,x=.om k→∃b,H[k]? =some b∧live β k b:=by
 intro k hk;subst hk;unfold QR at h;split at h
 ·split at h
  ·split at h
   ·simp only at h
    split at h
    ·rename_i hb;exact ⟨_,hb,trivial⟩
    ·cases h
   ·cases h
  ·cases h
 ·cases h
theorem acv {t:TypeId}{x q lv:LV}(h:(Y0 P H t x q).all (λr=>r=lv)):∀k,x=.om k→∃b,H[k]? =some b∧live β k b:=by
 intro k hk;subst hk;unfold Y0 at h;simp only at h;split at h
 ·rename_i hb;exact ⟨_,hb,trivial⟩
 ·exact acu h k rfl
theorem acs (hΓ:∀g S,Γ g=some S→Valid P G g S) {tr:List Nat} {D:World→Prop} {o:Oper} {lv:LV} (hW:RW G w0 Z0 Z β H wr) (hF:RF ds β Z wr H.length F a)
  (hD:∀w',D w'→RW G w0 Z0 Z β H w'∧∀b,(Z b∨∃k bk,H[k]? =some bk∧live β k bk∧tr.contains k=false∧b=(β k).b)→w'.heap[b]? =wr.heap[b]?)
  (h:(Zw P G Γ tr F H o).all (λz=>z=lv)):∃v,(∀w',D w'→vY P o a w' v)∧R β Z wr lv v∧okV H.length lv:=by
 unfold Zw at h;split at h
 ·cases h
 ·rename_i hsp
  simp only [Bool.or_eq_true,Bool.not_eq_true',not_or,Bool.not_eq_true,Bool.not_eq_false] at hsp;obtain ⟨hsp,hap⟩:=hsp
  have ev:=λx=>hF.eval hW.jJ x
  have hFD:∀w',D w'→RF ds β Z w' H.length F a:=λw' hw'=>hF.mono (Nat.le_refl _) (λ_ _=>rfl) (λ_ h=>h) (λb hz=>(hD w' hw').2 b (.inl hz))
  split at h
  ·rename_i hcall
   obtain ⟨h1,hpl⟩:=LZ h;obtain ⟨⟨lv',H'⟩,h2,h3⟩:=T.bF h1
   have e3:lv'=lv:=h3
   subst e3;obtain ⟨x,hx⟩:=Option.isSome_iff_exists.1 hpl
   have hm:qE P o=true:=by unfold GV at hcall;unfold qE;unfold isSp at hsp;split at hcall<;>simp_all
   have hH:H'=H:=T.zo (p:=λq:LV×List aZ=>q.2=H) (x:=(lv',H')) (LX hm) h2
   subst hH;refine ⟨x,λw' hw'=>?_,aN6 hx,?_⟩
   ·have hs:=Ap hΓ (hD w' hw').1 (hFD w' hw') h2
    have hrun:∃g vals,(execOp a.eval o).run P w'=.ok (.enter g vals) w':=by
     unfold GV at hcall;split at hcall
     ·rename_i f args ty ho
      have h2':=h2
      unfold o6 at h2';simp only [ho] at h2';split at h2'
      ·rename_i g cap hf
       have hfr:=(ev f).1
       rw [hf] at hfr;simp only [R] at hfr;obtain ⟨ys,hy,_⟩:=hfr;obtain ⟨fn,S,k1,k2,k3,_⟩:=wS h2';exact ⟨_,_,Qv ho hy k1 k2 k3 w'⟩
      ·cases h2'
     ·rename_i r name args ty ho
      have h2':=h2
      unfold o6 at h2';simp only [ho] at h2';split at h2'
      ·rename_i g rv hf
       obtain ⟨t,v,hy,hm⟩:=agP hf (ev r).1;obtain ⟨fn,S,k1,k2,k3,_⟩:=wS h2';exact ⟨_,_,Nc ho hy hm k1 k2 k3 w'⟩
      ·cases h2'
     ·cases hcall
    obtain ⟨g,vals,hr⟩:=hrun;unfold vY;rw [hr] at hs⊢;simp only [dX] at hs;refine ⟨rfl,hs.mono λe w'' ⟨v,he,Z',β',_,_,hrv,_,_,_,_,hn⟩=>?_⟩
    have hv:=l7 hx hrv
    subst hv;refine ⟨he,hn.os,hn.tape,hn.output,hn.size,λk hk=>hn.block k hk ?_⟩
    unfold GV at hcall;split at hcall
    ·rename_i ho;simp [xk,Xg,ho,GN]
    ·rename_i ho;simp [xk,Xg,ho,GN]
    ·cases hcall
   ·cases lv' with
    |fn f l=>cases l with
     |nil=>trivial
     |cons _ _=>simp [pl] at hx
    |v _=>trivial
    |bl _=>trivial
    |ki _ _=>trivial
    |_=>simp [pl] at hx
  ·rename_i hnc
   obtain ⟨⟨lv',H'⟩,h2,h3⟩:=T.bF h
   have e3:lv'=lv:=h3
   subst e3
   clear h3
   have val:∀ {v:Value},(∀w',D w'→(execOp a.eval o).run P w'=.ok (.value v) w')→R β Z wr lv' v→okV H.length lv'→∃v,(∀w',D w'→vY P o a w' v)∧R β Z wr lv' v∧okV H.length lv':=λ{v} hrun hr hk=>
    ⟨v,λw' hw'=>by unfold vY;rw [hrun w' hw'];exact aSf,hr,hk⟩
   have hsel:∀cs b,o.op≠ .select cs b:=λcs b e=>by unfold o6 at h2;simp only [e] at h2;cases h2
   have same:∀ {t:T LV},(t.bind λy=>(T.ok (y,H):T (LV×List aZ))).all (λq=>q=(lv',H'))→t.all (λz=>z=lv'):=λh=>by
    obtain ⟨x,g1,g2⟩:=T.bF h;simp only [T.all,Prod.mk.injEq] at g2;obtain ⟨rfl,rfl⟩:=g2;exact g1
   have gen:(vU P G F o).all (λz=>z=lv')→∃v,(∀w',D w'→vY P o a w' v)∧R β Z wr lv' v∧okV H.length lv':=λhg=>by
    unfold vU at hg;split at hg
    ·rename_i hpl
     split at hg
     ·rename_i y hy
      simp only [T.all] at hg
      have hcong:execOp a.eval o=execOp (λx=>(pl (aV G F x)).getD undef) o:=execOp_congr o hsel λx hx=>by
       have h1:=List.all_eq_true.1 hpl x (by simpa using hx)
       obtain ⟨z,hz⟩:=Option.isSome_iff_exists.1 h1;rw [hz];exact l7 hz (ev x).1
      refine val (v:=y) (λw' _=>by rw [hcong];exact Y9 hy w') ?_ ?_<;>rw [←hg]
      ·split
       ·exact aMS y
       ·simp only [R]
      ·split
       ·exact aBu y
       ·trivial
     ·cases hg
    ·cases hg
   have h:=h2
   unfold o6 at h;split at h
   ·cases h
   ·rename_i x ho
    simp only [T.all,Prod.mk.injEq] at h;refine val (v:=a.eval x) (λw' _=>by simp [execOp,ho]) ?_ ?_<;>rw [←h.1]
    ·exact (ev x).1
    ·exact (ev x).2
   ·rename_i x ho
    simp only [T.all,Prod.mk.injEq] at h;refine val (v:=a.eval x) (λw' _=>by simp [execOp,ho]) ?_ ?_<;>rw [←h.1]
    ·exact (ev x).1
    ·exact (ev x).2
   ·rename_i c x y ho
    obtain ⟨g,e1,e2,e3⟩:=H7 (same h) (ev c).1 (ev x).1 (ev y).1 (ev x).2 (ev y).2;exact val (v:=if g then a.eval x else a.eval y) (λw' _=>by simp [execOp,ho,e1,asBool]) e2 e3
   ·rename_i ho;simp [isSp,ho] at hsp
   ·rename_i ho;simp [isSp,ho] at hsp
   ·rename_i t x ho
    obtain ⟨z,e1,e2,e3⟩:=vF hW (same h) (ev x).1 (ev x).2;refine val (v:=z) (λw' hw'=>?_) e2 e3
    have hlv:=acw hW (same h) (ev x).1
    have:=e1 w' (λb hb=>(hD w' hw').2 b (by
     rcases hb with hb|⟨k,e4,e5⟩
     ·exact .inl hb
     ·obtain ⟨⟨bk,l1,l2⟩,l3⟩:=hlv k e4
      refine .inr ⟨k,bk,l1,l2,?_,e5⟩;unfold adB at hap;simp only [ho] at hap;rcases l3 with ⟨off,l3⟩ |⟨es,i,j,l3⟩
      ·rw [l3] at hap;simpa using hap
      ·rw [l3] at hap;simpa using hap))
    simp [execOp,ho,this]
   ·rename_i ho;simp [isSp,ho] at hsp
   ·rename_i s x i ho
    obtain ⟨z,e1,e2,e3⟩:=D9 (w:=wr) (same h) (ev x).1 (ev x).2;exact val (v:=z) (λw' _=>by simp [execOp,ho,e1]) e2 e3
   ·rename_i t x i ho
    obtain ⟨z,e1,e2,e3⟩:=xQ (w:=wr) (same h) (ev x).1 (ev i).1 (ev x).2;exact val (v:=z) (λw' _=>by simp [execOp,ho,e1]) e2 e3
   ·rename_i t parts ho
    obtain ⟨z,e1,e2,e3⟩:=Ee (β:=β) (Z:=Z) (w:=wr) (n:=H.length) (pv:=parts.map λq=>(q.1,a.eval q.2)) (same h) (by simp [Function.comp_def]) (by
     simp only [Array.toList_map,List.map_map];refine RL.dO (by simp) λi x hx=>?_
     rw [List.getElem?_map] at hx⊢;cases hq:parts.toList[i]? with
     |none=>simp [hq] at hx
     |some q=>simp [hq] at hx;subst hx;exact ⟨a.eval q.2,by simp,(KL (ev q.2)).1⟩) (by
     simp only [List.map_map];refine dQ.dO λi x hx=>?_
     rw [List.getElem?_map] at hx;cases hq:parts.toList[i]? with
     |none=>simp [hq] at hx
     |some q=>simp [hq] at hx;subst hx;exact (KL (ev q.2)).2)
    exact val (v:=z) (λw' _=>by simp [execOp,ho,e1]) e2 e3
   ·rename_i ho;simp [isSp,ho] at hsp
   ·rename_i ho;simp [isSp,ho] at hsp
   ·rename_i t x lo hi ho
    split at h
    ·exact gen (same h)
    ·have ro:∀q:Option Operand,RO β Z wr (q.map (aV G F)) (q.map a.eval):=λq=>by
      cases q with
      |none=>trivial
      |some q=>exact (ev q).1
     obtain ⟨z,e1,e2,e3⟩:=Dl (w:=wr) (same h) (ev x).1 (ro lo) (ro hi) (ev x).2;exact val (v:=z) (λw' _=>by simp [execOp,ho,e1]) e2 e3
   ·rename_i ho;simp [isSp,ho] at hsp
   ·rename_i ho;simp [isSp,ho] at hsp
   ·rename_i ho;simp [isSp,ho] at hsp
   ·rename_i t x i ho
    obtain ⟨z,e1,e2,e3⟩:=Ie hW (same h) (ev x).1 (ev i).1 (ev x).2;refine val (v:=z) (λw' hw'=>?_) e2 e3
    have hlv:=acv (β:=β) (same h)
    have:=e1 w' (λb hb=>(hD w' hw').2 b (by
     rcases hb with hb|⟨k,e4,e5⟩
     ·exact .inl hb
     ·obtain ⟨bk,l1,l2⟩:=hlv k e4
      refine .inr ⟨k,bk,l1,l2,?_,e5⟩;unfold adB at hap;simp only [ho,e4] at hap
      simpa using hap))
    simp [execOp,ho,this]
   ·rename_i x i ho
    split at h
    ·rename_i l hl
     split at h
     ·rename_i y hy
      simp only [T.all,Prod.mk.injEq] at h;obtain ⟨h1,_⟩:=h
      have hx:=ev x
      rw [hl] at hx;simp only [R,okV] at hx;obtain ⟨⟨ys,e1,e2⟩,e3⟩:=hx;obtain ⟨z,e4,e5⟩:=RL.get _ _ e2 hy
      have e6:ys[i]? =some z:=by simpa using e4
      refine val (v:=z) (λw' _=>by simp [execOp,ho,e1,Instr.extract,e6]) ?_ ?_<;>rw [←h1]
      ·exact e5
      ·exact dQ.get _ _ e3 hy
     ·cases h
    ·exact gen (same h)
   ·rename_i t x i ho
    split at h
    ·rename_i l hl
     have hx:=ev x
     rw [hl] at hx;simp only [R,okV] at hx;obtain ⟨⟨ys,e1,e2⟩,e3⟩:=hx;obtain ⟨z,f1,f2,f3⟩:=NI (same h) e2 e3;exact val (v:=z) (λw' _=>by simp [execOp,ho,e1,f1]) f2 f3
    ·exact gen (same h)
   ·rename_i f first cap ho
    split at h
    ·rename_i he
     simp only [T.all,Prod.mk.injEq] at h;obtain ⟨h1,_⟩:=h
     have hfirst:first=#[]:=by
      have:first.toList=[]:=by simpa using he
      simpa using this
     refine val (v:=.func (.func f) #[] (cap.map a.eval)) (λw' _=>by simp [execOp,ho,Instr.makeFunc,hfirst]) ?_ ?_<;>rw [←h1]
     ·simp only [R]
      refine ⟨_,rfl,?_⟩;simp only [Array.toList_map];refine RL.dO (by simp) λi x hx=>?_
      rw [List.getElem?_map] at hx⊢;cases hq:cap.toList[i]? with
      |none=>simp [hq] at hx
      |some q=>simp [hq] at hx;subst hx;exact ⟨a.eval q,by simp,(ev q).1⟩
     ·simp only [okV]
      refine dQ.dO λi x hx=>?_
      rw [List.getElem?_map] at hx;cases hq:cap.toList[i]? with
      |none=>simp [hq] at hx
      |some q=>simp [hq] at hx;subst hx;exact (ev q).2
    ·cases h
   ·rename_i x ho
    have hx:=ev x
    split at h
    ·rename_i k off hl
     simp only [T.all,Prod.mk.injEq] at h;rw [hl] at hx
     have hx1:=hx.1
     simp only [R] at hx1;refine val (v:=a.eval x) (λw' _=>by simp [execOp,ho,hx1]) ?_ ?_<;>rw [←h.1]
     ·exact hx.1
     ·exact hx.2
    ·rename_i k es i j hl
     simp only [T.all,Prod.mk.injEq] at h;rw [hl] at hx
     have hx1:=hx.1
     simp only [R] at hx1;refine val (v:=a.eval x) (λw' _=>by simp [execOp,ho,hx1]) ?_ ?_<;>rw [←h.1]
     ·exact hx.1
     ·exact hx.2
    ·rename_i n f hl
     simp only [T.all,Prod.mk.injEq] at h;rw [hl] at hx
     have hx1:=hx.1
     simp only [R] at hx1;obtain ⟨b,off,e1,_⟩:=hx1;refine val (v:=a.eval x) (λw' _=>by simp [execOp,ho,e1]) ?_ ?_<;>rw [←h.1]
     ·exact hx.1
     ·exact hx.2
    ·rename_i f l hl
     simp only [T.all,Prod.mk.injEq] at h;rw [hl] at hx
     have hx1:=hx.1
     simp only [R] at hx1;obtain ⟨ys,e1,_⟩:=hx1;refine val (v:=a.eval x) (λw' _=>by simp [execOp,ho,e1]) ?_ ?_<;>rw [←h.1]
     ·exact hx.1
     ·exact hx.2
    ·exact gen (same h)
   ·rename_i t x y t' ho
    split at h
    ·rename_i k n k' m hx hy
     split at h
     ·rename_i hk
      subst hk;simp only [T.all,Prod.mk.injEq] at h;obtain ⟨h0,h1,_⟩:=h
      have e1:=l7 hx (ev x).1
      have e2:=l7 hy (ev y).1
      refine val (v:=.int k (k.wrap (n.tdiv m))) (λw' _=>by simp [execOp,ho,e1,e2,eqGuard,binOp,Op.intDiv,h0]) ?_ ?_<;>rw [←h1]
      ·simp only [R]
      ·trivial
     ·cases h
    ·cases h
   ·rename_i t x y t' ho
    split at h
    ·rename_i k n k' m hx hy
     split at h
     ·rename_i hk
      subst hk;simp only [T.all,Prod.mk.injEq] at h;obtain ⟨h0,h1,_⟩:=h
      have e1:=l7 hx (ev x).1
      have e2:=l7 hy (ev y).1
      refine val (v:=.int k (n.tmod m)) (λw' _=>by simp [execOp,ho,e1,e2,eqGuard,binOp,Op.intDiv,h0]) ?_ ?_<;>rw [←h1]
      ·simp only [R]
      ·trivial
     ·cases h
    ·cases h
   ·rename_i t x y t' ho
    split at h
    ·exact gen (same h)
    ·split at h
     ·rename_i k n k' m hx hy
      simp only [T.all,Prod.mk.injEq] at h;obtain ⟨h0,h1,_⟩:=h
      have e1:=l7 hx (ev x).1
      have e2:=l7 hy (ev y).1
      refine val (v:=.int k (k.wrap (n*2^(min m.toNat k.bits)))) (λw' _=>by simp [execOp,ho,e1,e2,eqGuard,binOp,Op.shift,Int.not_lt.2 h0]) ?_ ?_<;>rw [←h1]
      ·simp only [R]
      ·trivial
     ·cases h
   ·rename_i t x y t' ho
    split at h
    ·exact gen (same h)
    ·split at h
     ·rename_i k n k' m hx hy
      simp only [T.all,Prod.mk.injEq] at h;obtain ⟨h0,h1,_⟩:=h
      have e1:=l7 hx (ev x).1
      have e2:=l7 hy (ev y).1
      refine val (v:=.int k (n.fdiv (2^(min m.toNat k.bits)))) (λw' _=>by simp [execOp,ho,e1,e2,eqGuard,binOp,Op.shift,Int.not_lt.2 h0]) ?_ ?_<;>rw [←h1]
      ·simp only [R]
      ·trivial
     ·cases h
   ·rename_i t x i ho
    split at h
    ·rename_i s kd n hu hx hi
     simp only [T.all,Prod.mk.injEq] at h;obtain ⟨⟨h0,hlt⟩,h1,_⟩:=h
     have e1:=l7 hx (ev x).1
     have e2:=l7 hi (ev i).1
     have hb:n.toNat<s.size:=by omega
     have hg:s[n.toNat]? =some s[n.toNat]:=by simp [hb]
     refine val (v:=.int .u8 (wo s n)) (λw' _=>by simp [execOp,ho,e1,e2,Instr.index,asIntOf,run_underlying hu,h0,wo,hg]) ?_ ?_<;>rw [←h1]
     ·simp only [R]
     ·trivial
    ·cases h
   ·rename_i ho;simp [GV,ho] at hnc
   ·rename_i ho;simp [GV,ho] at hnc
   ·rename_i ho;simp [isSp,ho] at hsp
   ·rename_i args ty ho
    split at h
    ·rename_i k es off n e hl hu
     simp only [T.all,Prod.mk.injEq] at h;obtain ⟨h1,_⟩:=h;cases hargs:args.toList with
     |nil=>simp [hargs] at hl
     | cons x xs=>
      cases xs with
      |cons _ _=>simp [hargs] at hl
      | nil=>
       simp only [hargs,List.map_cons,List.map_nil,List.cons.injEq,and_true] at hl
       have hx:=(ev x).1
       rw [hl] at hx;simp only [R] at hx
       have e1:∃ad cap,a.eval x=.slice ad n cap:=by
        split at hx
        ·obtain ⟨rfl,_,hx⟩:=hx;exact ⟨_,_,hx⟩
        ·obtain ⟨_,ad,hx,_⟩:=hx;exact ⟨_,_,hx⟩
       obtain ⟨ad,cap,e1⟩:=e1
       have ha:args=#[x]:=by rw [←Array.toArray_toList (xs:=args),hargs]
       cases ht:ty[0]? with
       |none=>simp [ht] at hu
       |some t=>
        simp only [ht,Option.bind_some] at hu;refine val (v:=.int .i64 n) (λw' _=>by simp [execOp,ho,resolve,invoke,builtin,Builtin.len_,ha,ht,run_underlying hu,e1,goInt]) ?_ ?_<;>rw [←h1]
        ·simp only [R]
        ·trivial
    ·rename_i e' l e hl hu
     simp only [T.all,Prod.mk.injEq] at h;obtain ⟨h1,_⟩:=h;cases hargs:args.toList with
     |nil=>simp [hargs] at hl
     | cons x xs=>
      cases xs with
      |cons _ _=>simp [hargs] at hl
      | nil=>
       simp only [hargs,List.map_cons,List.map_nil,List.cons.injEq,and_true] at hl
       have hx:=(ev x).1
       rw [hl] at hx;simp only [R] at hx;obtain ⟨ad,cap,e1,_⟩:=hx
       have ha:args=#[x]:=by rw [←Array.toArray_toList (xs:=args),hargs]
       cases ht:ty[0]? with
       |none=>simp [ht] at hu
       |some t=>
        simp only [ht,Option.bind_some] at hu;refine val (v:=.int .i64 (List.length l:Int)) (λw' _=>by simp [execOp,ho,resolve,invoke,builtin,Builtin.len_,ha,ht,run_underlying hu,e1,goInt]) ?_ ?_<;>rw [←h1]
        ·simp only [R]
        ·trivial
    ·rename_i k' es' off' n' c' e hl hu
     simp only [T.all,Prod.mk.injEq] at h;obtain ⟨h1,_⟩:=h;cases hargs:args.toList with
     |nil=>simp [hargs] at hl
     | cons x xs=>
      cases xs with
      |cons _ _=>simp [hargs] at hl
      | nil=>
       simp only [hargs,List.map_cons,List.map_nil,List.cons.injEq,and_true] at hl
       have hx:=(ev x).1
       rw [hl] at hx;simp only [R] at hx;obtain ⟨_,ad,e1,_⟩:=hx
       have ha:args=#[x]:=by rw [←Array.toArray_toList (xs:=args),hargs]
       cases ht:ty[0]? with
       |none=>simp [ht] at hu
       |some t=>
        simp only [ht,Option.bind_some] at hu;refine val (v:=.int .i64 n') (λw' _=>by simp [execOp,ho,resolve,invoke,builtin,Builtin.len_,ha,ht,run_underlying hu,e1,goInt]) ?_ ?_<;>rw [←h1]
        ·simp only [R]
        ·trivial
    ·exact gen (same h)
   ·exact gen (same h)
theorem uh (tr:List Nat):∀(H:List aZ) (k i:Nat),(jc tr k H)[i]? =(H[i]?).map λb=>if tr.contains (k+i) then Ib b else b
 | [],k,i=>by simp [jc]
 |b::bs,k,0=>by simp [jc]
 |b::bs,k,i+1=>by
  simp only [jc,List.getElem?_cons_succ];rw [uh tr bs (k+1) i]
  have:k+1+i=k+(i+1):=by omega
  rw [this]
theorem kW (tr:List Nat):∀(H:List aZ) (k:Nat),(jc tr k H).length=H.length
 | [],_=>rfl
 |_::bs,k=>by simp [jc,kW tr bs (k+1)]
theorem akc:∀(ys:List Value),RL β Z w (List.replicate ys.length .junk) ys
 | []=>by simp [RL]
 |y::ys=>by simp only [List.length_cons,List.replicate_succ,RL];exact ⟨y,ys,rfl,by simp only [R],akc ys⟩
theorem YO (m:Nat):∀(k:Nat),dQ m (List.replicate k .junk)
 |0=>trivial
 |k+1=>⟨trivial,YO m k⟩
def Shp (tr:List Nat) (β:Nat→Loc) (H:List aZ) (w:World):Prop:=∀(k:Nat) (b:aZ),tr.contains k=true→H[k]? =some b→b.rO=true→∃cs,w.heap[(β k).b]? =some (.cells cs b.t (0,0))∧cs.size=b.c.length
theorem aHV {b:aZ}(h:b.rO=true):b.k=.cl:=by
 unfold aZ.rO at h;split at h
 ·assumption
 ·cases h
theorem Ia (b:aZ):(b.rO=true∧Ib b=⟨List.replicate b.c.length .junk,b.t,.cl,b.p⟩)∨(b.rO=false∧Ib b=⟨[],b.t,.dead,false⟩):=by
 unfold Ib aZ.rO;split
 ·exact .inl ⟨rfl,rfl⟩
 ·exact .inr ⟨rfl,rfl⟩
theorem acp {b:aZ}{k:Nat}(h:live β k (Ib b)):live β k b∧(Ib b).p=b.p:=by
 rcases Ia b with ⟨h1,h2⟩ |⟨h1,h2⟩
 ·rw [h2];exact ⟨by unfold live;rw [aHV h1];trivial,rfl⟩
 ·rw [h2] at h;exact absurd h (λh=>h)
theorem RW.xN {tr:List Nat}(hW:RW G w0 Z0 Z β H wr) {b:Nat}(hz:Z b):b∉GN β H tr:=λhm=>by
 obtain ⟨k,bk,_,h2,h3,h4,rfl⟩:=DJ.1 hm;exact hW.mX k bk h2 h3 h4 hz
theorem RW.Aw {tr:List Nat}(hW:RW G w0 Z0 Z β H wr) {k:Nat}{b:aZ}(hb:H[k]? =some b) (hl:live β k b) (ht:k∉tr):(β k).b∉GN β H tr:=λhm=>by
 obtain ⟨j,bj,h1,h2,h3,h4,h5⟩:=DJ.1 hm
 have:=hW.inj j k bj b h2 hb h3 hl h4 h5.symm
 subst this;exact ht h1
theorem RW.mask {tr:List Nat}{w':World}(hW:RW G w0 Z0 Z β H wr) (hn:qP (GN β H tr) wr w') (hb0:Below w0.heap.size w0 w') (hs:Shp tr β H w'):RW G w0 Z0 Z β (jc tr 0 H) w':=by
 have hw:∀b,Z b→w'.heap[b]? =wr.heap[b]? :=λb hz=>hn.block b (hW.oN b hz) (hW.xN hz)
 have old:∀k b,(jc tr 0 H)[k]? =some b→∃b0,H[k]? =some b0∧(live β k b→live β k b0∧b.p=b0.p)∧((tr.contains k=true∧b=Ib b0)∨(tr.contains k=false∧b=b0)):=λk b hb=>by
  rw [uh] at hb;cases hH:H[k]? with
  |none=>simp [hH] at hb
  | some b0=>
   simp only [hH,Option.map_some,Option.some.injEq,Nat.zero_add] at hb;refine ⟨b0,rfl,?_⟩;split at hb
   ·rename_i ht
    subst hb;exact ⟨acp,.inl ⟨ht,rfl⟩⟩
   ·rename_i ht
    subst hb;exact ⟨λh=>⟨h,rfl⟩,.inr ⟨by simpa using ht,rfl⟩⟩
 refine ⟨hb0,λb hz=>?_,hW.wB,λk b hk hl hp=>?_,λk b hk hl hp=>?_,λk b hk hl=>?_,λi j bi bj hi hj li lj pi e=>?_,λk b hb=>?_,hW.jJ.mono (λ_ h=>h) hw,λp hp=>⟨R.mono (n:=H.length) (λ_ _=>rfl) (λ_ h=>h) hw _ _ (hW.gh p hp).2 (hW.gh p hp).1,by rw [kW];exact (hW.gh p hp).2⟩,λD hD=>⟨(hW.vw D hD).1,by unfold rV;rw [hw D (hW.vw D hD).1];exact (hW.vw D hD).2⟩⟩
 ·have:=hW.oN b hz;have:=hn.size;omega
 ·obtain ⟨b0,h1,h2,_⟩:=old k b hk
  obtain ⟨h3,h4⟩:=h2 hl;exact hW.mX k b0 h1 h3 (h4▸hp)
 ·obtain ⟨b0,h1,h2,_⟩:=old k b hk
  obtain ⟨h3,h4⟩:=h2 hl;exact hW.yE k b0 h1 h3 (h4▸hp)
 ·obtain ⟨b0,h1,h2,_⟩:=old k b hk
  exact hW.low k b0 h1 (h2 hl).1
 ·obtain ⟨b0,h1,h2,_⟩:=old i bi hi
  obtain ⟨c0,g1,g2,_⟩:=old j bj hj;exact hW.inj i j b0 c0 h1 g1 (h2 li).1 (g2 lj).1 ((h2 li).2▸pi) e
 ·obtain ⟨b0,h1,h2,h3⟩:=old k b hb
  obtain ⟨f1,f2⟩:=hW.blk k b0 h1;rw [kW];rcases h3 with ⟨ht,rfl⟩ |⟨ht,rfl⟩
  ·rcases Ia b0 with ⟨m1,m2⟩ |⟨m1,m2⟩
   ·rw [m2]
    obtain ⟨cs',g1,g2⟩:=hs k b0 ht h1 m1;refine ⟨⟨cs',g1,?_⟩,YO _ _,trivial⟩
    have:=akc (β:=β) (Z:=Z) (w:=w') cs'.toList
    simpa [g2] using this
   ·rw [m2]
    exact ⟨trivial,trivial,trivial⟩
  ·have hkt:k∉tr:=by simpa using ht
   exact ⟨f1.keep (λ_ _=>rfl) (λ_ h=>h) hw rfl (λhl=>hn.block _ (hW.lt h1 hl) (hW.Aw h1 hl hkt)) f2,f2⟩
theorem Zx {o:Oper}{g:FuncId}{l:List LV}{lv:LV}{H':List aZ}(h:(zD P Γ H o g l).all (λq=>q=(lv,H'))):EvL H H':=by
 have bd:∀ {t:T LV} {H1:List aZ},(t.bind λy=>(T.ok (y,H1):T (LV×List aZ))).all (λq=>q=(lv,H'))→H'=H1:=λh=>by
  obtain ⟨x,h1,h2⟩:=T.bF h;simp only [T.all,Prod.mk.injEq] at h2;exact h2.2.symm
 obtain ⟨_,_,_,_,_,_,h⟩:=wS h;split at h
 ·rw [bd h];exact EvL.refl H
 ·split at h
  ·rw [bd h];exact EvL.refl H
  ·split at h
   ·rw [bd h];exact EvL.pub _
   ·cases h
theorem aHa {o:Oper} {lv:LV} {H':List aZ} (h:(o6 P G Γ F H o).all (λq=>q=(lv,H'))):EvL H H':=by
 by_cases hm:qE P o=true
 ·have hH:H'=H:=T.zo (p:=λq:LV×List aZ=>q.2=H) (x:=(lv,H')) (LX hm) h
  rw [hH];exact EvL.refl H
 ·have bd:∀ {t:T LV} {H1:List aZ},(t.bind λy=>(T.ok (y,H1):T (LV×List aZ))).all (λq=>q=(lv,H'))→H'=H1:=λh=>by
   obtain ⟨x,h1,h2⟩:=T.bF h;simp only [T.all,Prod.mk.injEq] at h2;exact h2.2.symm
  unfold qE at hm;split at hm
  ·rename_i t ho
   unfold o6 at h;simp only [ho] at h;split at h
   ·split at h
    ·simp only [T.all,Prod.mk.injEq] at h
     rw [←h.2];exact EvL.app _ _
    ·cases h
   ·cases h
  ·rename_i t x ho
   unfold o6 at h;simp only [ho] at h;split at h
   ·simp only [T.all,Prod.mk.injEq] at h
    rw [←h.2];exact EvL.app _ _
   ·cases h
  ·rename_i t x y ho
   unfold o6 at h;simp only [ho] at h;obtain ⟨H1,h1,h2⟩:=T.bF h;simp only [T.all,Prod.mk.injEq] at h2;obtain ⟨_,rfl⟩:=h2;exact akX h1
  ·rename_i t n c ho
   unfold o6 at h;simp only [ho] at h;exact aqf h
  ·rename_i t r ho
   unfold o6 at h;cases r with
   | none=>
    simp only [ho] at h;split at h
    ·simp only [T.all,Prod.mk.injEq] at h
     rw [←h.2];exact EvL.app _ _
    ·split at h
     ·simp only [T.all,Prod.mk.injEq] at h
      rw [←h.2];exact EvL.app _ _
     ·cases h
   |some r=>
    simp only [ho] at h;rw [bd h];exact EvL.refl H
  ·rename_i t m i x ho
   unfold o6 at h;simp only [ho] at h;obtain ⟨H1,h1,h2⟩:=T.bF h;simp only [T.all,Prod.mk.injEq] at h2;obtain ⟨_,rfl⟩:=h2;exact agZ h1
  ·rename_i t m i x ho
   unfold o6 at h;simp only [ho] at h;obtain ⟨H1,h1,h2⟩:=T.bF h;simp only [T.all,Prod.mk.injEq] at h2;obtain ⟨_,rfl⟩:=h2;exact agZ h1
  ·rename_i t len parts ho
   unfold o6 at h;simp only [ho] at h;split at h
   ·split at h
    ·unfold WH at h
     split at h
     ·simp only [T.all,Prod.mk.injEq] at h
      rw [←h.2];exact EvL.app _ _
     ·cases h
    ·cases h
   ·split at h
    ·split at h
     ·rw [bd h];exact EvL.refl H
     ·unfold aHN at h
      split at h
      ·obtain ⟨y,h1,h2⟩:=T.bF h
       simp only [T.all,Prod.mk.injEq] at h2;rw [←h2.2];exact EvL.pub _
      ·cases h
    unfold ay4 at h;split at h
    ·split at h
     ·split at h
      ·split at h
       ·simp only [T.all,Prod.mk.injEq] at h
        rw [←h.2];exact EvL.app _ _
       ·cases h
      ·cases h
     ·cases h
    ·cases h
  ·rename_i args ty ho
   unfold o6 at h;simp only [ho] at h;split at h
   ·exact adA h
   ·cases h
  ·rename_i f args ty ho
   unfold o6 at h;simp only [ho] at h;split at h
   ·exact Zx h
   ·cases h
  ·rename_i r name args ty ho
   unfold o6 at h;simp only [ho] at h;split at h
   ·exact Zx h
   ·cases h
  ·simp at hm
theorem wL (hΓ:∀g S,Γ g=some S→Valid P G g S) {ops:Array Oper}{tr:List Nat}{Hm:List aZ}{D:World→Prop}{K:Act→Prop}{F':List LV}{HH:List aZ}(hlen:Hm.length=H.length)
  (hW:RW G w0 Z0 Z β Hm wr) (hD:∀w',D w'→RW G w0 Z0 Z β Hm w'∧∀b,(Z b∨∃k bk,Hm[k]? =some bk∧live β k bk∧tr.contains k=false∧b=(β k).b)→w'.heap[b]? =wr.heap[b]?)
  (hK:∀a1,RF ds β Z wr H.length F' a1→K a1):∀(fs:List Bool) (os:List Oper) (F:List LV) (a:Act),fs.length=os.length→RF ds β Z wr H.length F a→
   (YK P G Γ ops tr HH Hm fs os F).all (λq=>q=(F',HH))→yR P ops D K fs os a
 | [],[],F,a,_,hF,h=>by
  simp only [YK,T.all,Prod.mk.injEq,and_true] at h;subst h;exact al4 (hK a hF)
 | [],_::_,_,_,hl,_,_=>by simp at hl
 |_::_,[],_,_,hl,_,_=>by simp at hl
 | f ::fs,o::os,F,a,hl,hF,h=>by
  have hl':fs.length=os.length:=by simpa using hl
  simp only [YK] at h;simp only [yR];split at h
  ·rename_i hf
   rw [if_pos hf];exact wL hΓ hlen hW hD hK fs os F a hl' hF h
  ·rename_i hf
   rw [if_neg hf]
   have goOk:∀(F:List LV),RF ds β Z wr H.length F a→((Zw P G Γ tr F Hm o).bind λy=>YK P G Γ ops tr HH Hm fs os (fV F o.dst y)).all (λq=>q=(F',HH))→calm P o a D (yR P ops D K fs os):=λF hF h=>by
    obtain ⟨lv,h1,h2⟩:=T.bF h;obtain ⟨v,g1,g2,g3⟩:=acs hΓ hW (by rw [hlen];exact hF) hD h1
    exact ⟨v,g1,wL hΓ hlen hW hD hK fs os _ _ hl' (hF.put g2 (by rw [←hlen];exact g3) o.dst) h2⟩
   have passOk:∀(F:List LV),RF ds β Z wr H.length F a→(YK P G Γ ops tr HH Hm fs os (fV F o.dst (.v undef))).all (λq=>q=(F',HH))→yR P ops D K fs os (a.put o.dst undef):=λF hF h=>
    wL hΓ hlen hW hD hK fs os _ _ hl' (hF.pass o.dst) h
   split at h
   ·rename_i hg
    have hw:Region.wanted o (yielded ops a.tmps)=true:=by simp [Region.wanted,hg]
    rw [if_pos hw];exact goOk F hF h
   ·rename_i j want hg
    split at h
    ·rename_i d hd
     split at h
     ·rename_i b hb
      obtain ⟨s1,s2⟩:=hF.slot hb (by simp)
      have hv:=(hF.get d _ s1).1
      simp only [R] at hv;rw [hv] at s2;rw [tq hg hd s2];split at h
      ·rename_i e;subst e;simp only [beq_self_eq_true,if_true];exact goOk F hF h
      ·rename_i e;rw [if_neg (by simpa using e)];exact passOk F hF h
     ·rename_i g hb
      obtain ⟨s1,s2⟩:=hF.slot hb (by simp)
      have hv:=(hF.get d _ s1).1
      simp only [R] at hv
      have kn:∀b,g=b→RF ds β Z wr H.length (F.set d (.bl b)) a:=λb e=>hF.know (by simp only [R];rw [hv,e]) trivial
      rw [hv] at s2;rw [tq hg hd s2];split at h
      ·rename_i hwt
       subst hwt;simp only [T.all] at h;cases hgg:g with
       |true=>simp only [beq_self_eq_true,if_true];exact goOk _ (kn true hgg) (h.1 hgg)
       |false=>rw [if_neg (by simp)];exact passOk _ (kn false hgg) (h.2 hgg)
      ·rename_i hwt
       have hwt':want=false:=by simpa using hwt
       subst hwt';simp only [T.all] at h;cases hgg:g with
       |true=>rw [if_neg (by simp)];exact passOk _ (kn true hgg) (h.1 hgg)
       |false=>simp only [beq_self_eq_true,if_true];exact goOk _ (kn false hgg) (h.2 hgg)
     ·rename_i vs hb
      obtain ⟨s1,s2⟩:=hF.slot hb (by simp)
      have hv:=(hF.get d _ s1).1
      simp only [R] at hv;rw [hv] at s2;rw [yS hg hd s2,if_neg (by simp)]
      exact passOk F hF h
     ·cases h
    ·cases h
theorem tH {ops:Array Oper}{tr:List Nat}{Hm:List aZ}{F0:List LV}:∀(fs:List Bool) (os:List Oper) (F:List LV),(∀o∈os,o∈ops.toList)→F.length=F0.length∧(∀i,i∉uQ ops.toList→F[i]? =F0[i]?)→
  (YK P G Γ ops tr H Hm fs os F).lv (Keeps (uQ ops.toList) F0 H)
 | [],_,F,_,h=>by simp only [YK,T.lv,Keeps];exact ⟨h.1,h.2,trivial⟩
 |_::_,[],F,_,h=>by simp only [YK,T.lv,Keeps];exact ⟨h.1,h.2,trivial⟩
 | f ::fs,o::os,F,hin,h=>by
  have hin':∀o∈os,o∈ops.toList:=λo ho=>hin o (by simp [ho])
  have hdo:∀t,o.dst=some t→t∈uQ ops.toList:=λt ht=>List.mem_filterMap.2 ⟨o,hin o (by simp),ht⟩
  have go:∀F:List LV,F.length=F0.length∧(∀i,i∉uQ ops.toList→F[i]? =F0[i]?)→((Zw P G Γ tr F Hm o).bind λy=>YK P G Γ ops tr H Hm fs os (fV F o.dst y)).lv (Keeps (uQ ops.toList) F0 H):=λF hF=>
   T.xM (p:=λ_=>True) (λq _=>tH fs os _ hin' (qp hF hdo _)) (T.Au (λ_=>trivial) _)
  have pass:∀F:List LV,F.length=F0.length∧(∀i,i∉uQ ops.toList→F[i]? =F0[i]?)→(YK P G Γ ops tr H Hm fs os (fV F o.dst (.v undef))).lv (Keeps (uQ ops.toList) F0 H):=λF hF=>
   tH fs os _ hin' (qp hF hdo _)
  simp only [YK];split
  ·exact tH fs os F hin' h
  ·split
   ·exact go F h
   ·rename_i j want hg
    split
    ·rename_i d hd
     have hdd:d∈uQ ops.toList:=by
      cases hj:ops[j]? with
      |none=>simp [hj] at hd
      |some oj=>simp [hj] at hd;exact List.mem_filterMap.2 ⟨oj,by simpa using Array.mem_of_getElem? hj,hd⟩
     split
     ·split
      ·exact go F h
      ·exact pass F h
     ·split
      ·exact ⟨go _ (mg h hdd _),pass _ (mg h hdd _)⟩
      ·exact ⟨pass _ (mg h hdd _),go _ (mg h hdd _)⟩
     ·exact pass F h
     ·trivial
    ·trivial
structure Gh where
 Z:Nat→Prop
 β:Nat→Loc
 H:List aZ
 F:List LV
 a:Act
structure yP (ds:List Deferred) (G:dI) (w0:World) (Z0:Gz) (tr:List Nat) (β:Nat→Loc) (H:List aZ) (wr:World) (g:Gh) (w':World):Prop where
 rw:RW G w0 Z0 g.Z g.β g.H w'
 rf:RF ds g.β g.Z w' g.H.length g.F g.a
 near:qP (GN β H tr) wr w'
 len:H.length≤g.H.length
 old:∀k,k<H.length→g.β k=β k
 new:∀k,H.length≤k→k<g.H.length→wr.heap.size≤(g.β k).b∨(g.β k).b∈GN β H tr
 shp:EvL H g.H
theorem yP.keep {tr:List Nat}{g:Gh}{w' w'':World}(h:yP ds G w0 Z0 tr β H wr g w') (hb:Below w'.heap.size w' w''):yP ds G w0 Z0 tr β H wr g w'':=
 ⟨h.rw.same hb,h.rf.mono (Nat.le_refl _) (λ_ _=>rfl) (λ_ h=>h) (λb hz=>cu hb (h.rw.oN b hz)),ach h.near hb,h.len,h.old,h.new,h.shp⟩
theorem yP.shape {tr:List Nat}{g:Gh}{w':World}(h:yP ds G w0 Z0 tr β H wr g w'):Shp tr β H w':=λk b _ hb hcl=>by
 obtain ⟨b',e1,e2⟩:=h.shp k b hb;obtain ⟨c1,c2,c3⟩:=e2.cl hcl;obtain ⟨_,⟨cs,f2,f3⟩,_⟩:=Oe h.rw e1 c1
 have hk:k<H.length:=(List.getElem?_eq_some_iff.1 hb).1
 rw [h.old k hk,c2] at f2;refine ⟨cs,f2,?_⟩
 have:=RL.length f3
 simp at this
 omega
theorem yP.touch {tr:List Nat}{g:Gh}{o:Oper}{w':World}(hc:yP ds G w0 Z0 tr β H wr g w') (hst:fF G g.F tr H.length o=true) {x:Nat}(hx:x∈GN g.β g.H (Xg G g.F o)):wr.heap.size≤x∨x∈GN β H tr:=by
 obtain ⟨k,b,h1,h2,h3,h4,rfl⟩:=DJ.1 hx
 have hkg:k<g.H.length:=(List.getElem?_eq_some_iff.1 h2).1
 by_cases hk:k<H.length
 ·right
  unfold fF at hst
  have:=List.all_eq_true.1 hst k h1
  simp only [Bool.or_eq_true,decide_eq_true_eq] at this
  have hkt:k∈tr:=by
   rcases this with h|h
   ·simpa using h
   ·omega
  obtain ⟨b0,hb0⟩:∃b0,H[k]? =some b0:=⟨_,List.getElem?_eq_getElem hk⟩;obtain ⟨b',e1,e2⟩:=hc.shp k b0 hb0;rw [h2] at e1;simp only [Option.some.injEq] at e1;subst e1;refine DJ.2 ⟨k,b0,hkt,hb0,?_,e2.p h4,by rw [hc.old k hk]⟩
  have:=e2.live g.β k h3
  rwa [l9 (hc.old k hk)] at this
 ·exact hc.new k (by omega) hkg
theorem NT (hΓ:∀g S,Γ g=some S→Valid P G g S) {tr:List Nat}{g:Gh}{o:Oper}{lv:LV}{H1:List aZ}{w':World}(hst:fF G g.F tr H.length o=true) (h1:(o6 P G Γ g.F g.H o).all (λq=>q=(lv,H1))) (hc:yP ds G w0 Z0 tr β H wr g w'):
  dX P (λv w''=>∃g':Gh,yP ds G w0 Z0 tr β H wr g' w''∧g'.F=fV g.F o.dst lv∧g'.H=H1∧g'.a=g.a.put o.dst v) ((execOp g.a.eval o).run P w'):=by
 refine je (λv w'' ⟨Z',β',e1,e2,e3,e4,e5,e6,e7,e8⟩=>?_) (Ap hΓ hc.rw hc.rf h1)
 refine ⟨⟨Z',β',H1,fV g.F o.dst lv,g.a.put o.dst v⟩,?_,rfl,rfl,rfl⟩
 have hsz:=hc.near.size
 refine ⟨e1,e2.put e3 e4 o.dst,⟨e8.os.trans hc.near.os,e8.tape.trans hc.near.tape,e8.output.trans hc.near.output,Nat.le_trans hsz e8.size,λk hk hn=>?_⟩,Nat.le_trans hc.len e5,λk hk=>?_,λk h3 h4=>?_,hc.shp.trans (aHa h1)⟩
 ·rw [e8.block k (by omega) λhm=>?_]
  ·exact hc.near.block k hk hn
  ·rcases hc.touch hst hm with h|h
   ·omega
   ·exact hn h
 ·show β' k=β k
  rw [e6 k (Nat.lt_of_lt_of_le hk hc.len)];exact hc.old k hk
 ·show wr.heap.size≤(β' k).b∨(β' k).b∈GN β H tr
  by_cases hkk:k<g.H.length
  ·rw [e6 k hkk];exact hc.new k h3 hkk
  ·rcases e7 k (by omega) h4 with h|h
   ·exact .inl (by omega)
   ·exact hc.touch hst h
theorem CY {T':Type}{C:T'→World→Prop}{Q':Act→World→Prop}{ops:Array Oper}{g g1:T'}(hs:∀w',C g w'→C g1 w'):∀(fs:List Bool) (os:List Oper) (a:Act),
  xg P ops C (λa' g'=>∀w',C g' w'→Q' a' w') fs os a g1→xg P ops C (λa' g'=>∀w',C g' w'→Q' a' w') fs os a g
 | [],_,a,h=>by
  simp only [xg] at h⊢;exact λw' hw'=>h w' (hs w' hw')
 |_::_,[],a,h=>by
  simp only [xg] at h⊢;exact λw' hw'=>h w' (hs w' hw')
 | f::fs,o::os,a,h=>by
  simp only [xg] at h⊢;split
  ·rename_i hf
   rw [if_pos hf] at h;split
   ·rename_i hw
    rw [if_pos hw] at h;exact λw' hw'=>h w' (hs w' hw')
   ·rename_i hw
    rw [if_neg hw] at h;exact CY hs fs os _ h
  ·rename_i hf
   rw [if_neg hf] at h;exact CY hs fs os a h
theorem DC (hΓ:∀g S,Γ g=some S→Valid P G g S) {ops:Array Oper}{tr:List Nat}{Q:Act→World→Prop}{F':List LV}{H':List aZ}
  (hQ:∀g:Gh,g.F=F'→g.H=H'→∀w',yP ds G w0 Z0 tr β H wr g w'→Q g.a w'):∀(fs:List Bool) (os:List Oper) (g:Gh),fs.length=os.length→(∃w',yP ds G w0 Z0 tr β H wr g w')→
   (p2x P G Γ ops tr H.length fs os g.F g.H).all (λq=>q=(F',H'))→xg P ops (yP ds G w0 Z0 tr β H wr) (λa' g'=>∀w',yP ds G w0 Z0 tr β H wr g' w'→Q a' w') fs os g.a g
 | [],[],g,_,_,h=>by
  simp only [p2x,T.all,Prod.mk.injEq] at h;exact al3 (hQ g h.1 h.2)
 | [],_::_,_,hl,_,_=>by simp at hl
 |_::_,[],_,hl,_,_=>by simp at hl
 | f ::fs,o::os,g,hl,hex,h=>by
  have hl':fs.length=os.length:=by simpa using hl
  simp only [p2x] at h;simp only [xg];split at h
  ·rename_i hf
   rw [if_pos hf]
   have turn:∀(F1:List LV),(∀w',yP ds G w0 Z0 tr β H wr g w'→RF ds g.β g.Z w' g.H.length F1 g.a)→∀w',yP ds G w0 Z0 tr β H wr g w'→yP ds G w0 Z0 tr β H wr ⟨g.Z,g.β,g.H,F1,g.a⟩ w':=λF1 hF1 w' hc=>⟨hc.rw,hF1 w' hc,hc.near,hc.len,hc.old,hc.new,hc.shp⟩
   have goOk:∀(F1:List LV),(∀w',yP ds G w0 Z0 tr β H wr g w'→RF ds g.β g.Z w' g.H.length F1 g.a)→(if fF G F1 tr H.length o then (o6 P G Γ F1 g.H o).bind λq=>p2x P G Γ ops tr H.length fs os (fV F1 o.dst q.1) q.2 else .no).all (λq=>q=(F',H'))→
     Rt P o g.a (yP ds G w0 Z0 tr β H wr) g (xg P ops (yP ds G w0 Z0 tr β H wr) (λa' g'=>∀w',yP ds G w0 Z0 tr β H wr g' w'→Q a' w') fs os):=λF1 hF1 h=>by
    split at h
    ·rename_i hst
     obtain ⟨⟨lv,H1⟩,h1,h2⟩:=T.bF h;intro w' hc;refine je (λv w'' ⟨g',e1,e2,e3,e4⟩=>⟨g',e1,?_⟩) (NT (g:=⟨g.Z,g.β,g.H,F1,g.a⟩) hΓ hst h1 (turn F1 hF1 w' hc))
     have:=DC hΓ hQ fs os g' hl' ⟨w'',e1⟩ (by rw [e2,e3];exact h2)
     rw [e4] at this;exact this
    ·cases h
   have passOk:∀(F1:List LV),(∀w',yP ds G w0 Z0 tr β H wr g w'→RF ds g.β g.Z w' g.H.length F1 g.a)→(p2x P G Γ ops tr H.length fs os (fV F1 o.dst (.v undef)) g.H).all (λq=>q=(F',H'))→
     xg P ops (yP ds G w0 Z0 tr β H wr) (λa' g'=>∀w',yP ds G w0 Z0 tr β H wr g' w'→Q a' w') fs os (g.a.put o.dst undef) g:=λF1 hF1 h=>by
    have ps:∀w',yP ds G w0 Z0 tr β H wr g w'→yP ds G w0 Z0 tr β H wr ⟨g.Z,g.β,g.H,fV F1 o.dst (.v undef),g.a.put o.dst undef⟩ w':=λw' hc=>⟨hc.rw,(hF1 w' hc).pass o.dst,hc.near,hc.len,hc.old,hc.new,hc.shp⟩
    refine CY (Q':=Q) (g1:=⟨g.Z,g.β,g.H,fV F1 o.dst (.v undef),g.a.put o.dst undef⟩) ps fs os _ ?_;exact DC hΓ hQ fs os ⟨g.Z,g.β,g.H,fV F1 o.dst (.v undef),g.a.put o.dst undef⟩ hl' (hex.imp λw' hc=>ps w' hc) h
   obtain ⟨wx,hcx⟩:=hex
   have hF:=hcx.rf
   split at h
   ·rename_i hg
    have hw:Region.wanted o (yielded ops g.a.tmps)=true:=by simp [Region.wanted,hg]
    rw [if_pos hw];exact goOk g.F (λw' hc=>hc.rf) h
   ·rename_i j want hg
    split at h
    ·rename_i d hd
     split at h
     ·rename_i b hb
      obtain ⟨s1,s2⟩:=hF.slot hb (by simp)
      have hv:=(hF.get d _ s1).1
      simp only [R] at hv;rw [hv] at s2;rw [tq hg hd s2];split at h
      ·rename_i e;subst e;simp only [beq_self_eq_true,if_true];exact goOk g.F (λw' hc=>hc.rf) h
      ·rename_i e;rw [if_neg (by simpa using e)];exact passOk g.F (λw' hc=>hc.rf) h
     ·rename_i b hb
      obtain ⟨s1,s2⟩:=hF.slot hb (by simp)
      have hv:=(hF.get d _ s1).1
      simp only [R] at hv
      have kn:∀c,b=c→∀w',yP ds G w0 Z0 tr β H wr g w'→RF ds g.β g.Z w' g.H.length (g.F.set d (.bl c)) g.a:=λc e w' hc=>hc.rf.know (by simp only [R];rw [hv,e]) trivial
      rw [hv] at s2;rw [tq hg hd s2];split at h
      ·rename_i hwt
       subst hwt;simp only [T.all] at h;cases hgg:b with
       |true=>simp only [beq_self_eq_true,if_true];exact goOk _ (kn true hgg) (h.1 hgg)
       |false=>rw [if_neg (by simp)];exact passOk _ (kn false hgg) (h.2 hgg)
      ·rename_i hwt
       have hwt':want=false:=by simpa using hwt
       subst hwt';simp only [T.all] at h;cases hgg:b with
       |true=>rw [if_neg (by simp)];exact passOk _ (kn true hgg) (h.1 hgg)
       |false=>simp only [beq_self_eq_true,if_true];exact goOk _ (kn false hgg) (h.2 hgg)
     ·rename_i vs hb
      obtain ⟨s1,s2⟩:=hF.slot hb (by simp)
      have hv:=(hF.get d _ s1).1
      simp only [R] at hv;rw [hv] at s2;rw [yS hg hd s2,if_neg (by simp)]
      exact passOk g.F (λw' hc=>hc.rf) h
     ·cases h
    ·cases h
  ·rename_i hf
   rw [if_neg hf];exact DC hΓ hQ fs os g hl' hex h
theorem T.swap {α γ:Type}{K:α→γ→Prop}{t:T α}{u:T γ}:t.all (λx=>u.all (λy=>K x y))→u.all (λy=>t.all (λx=>K x y)):=by
 intro h;obtain ⟨x,h1,h2⟩:=T.pick h;refine T.bQ (λy hy=>?_) h1
 exact T.bQ (λz hz=>by rw [hz];exact hy) h2
theorem dL {F:List LV}{d:Option Tmp}{y:LV}{x:Operand}(h:∀t,d=some t→x≠ .tmp t):aV G (fV F d y) x=aV G F x:=by
 cases d with
 |none=>rfl
 | some t=>
  cases x with
  |tmp s=>
   have hne:s≠t:=λe=>h t rfl (by rw [e])
   simp only [aV,fV,List.getD,List.getElem?_set_ne (Ne.symm hne)]
  |_=>rfl
theorem looks {ops:Array Oper}{o:Oper}{d:Option Tmp}(h:∀t,d=some t→t∉o.looksAt ops):∀x∈o.op.operands,∀t,d=some t→x≠ .tmp t:=λx hx t ht e=>h t ht (by
 subst e;exact List.mem_append_left _ (List.mem_filterMap.2 ⟨.tmp t,by simpa using hx,rfl⟩))
theorem lX {F:List LV}{d e:Option Tmp}{x y:LV}(h:∀t,d=some t→e≠some t):fV (fV F d x) e y=fV (fV F e y) d x:=by
 cases d with
 |none=>rfl
 | some t=>
  cases e with
  |none=>rfl
  |some s=>
   have:t≠s:=λe=>h t rfl (by rw [e])
   simp only [fV];exact List.set_comm _ _ (by omega)
theorem qK {ops:Array Oper}{o:Oper}{d:Option Tmp}{y:LV}(h:∀t,d=some t→t∉o.looksAt ops):mkx P G Γ (fV F d y) o=mkx P G Γ F o:=by
 have hl:=looks h
 unfold mkx;split
 ·rename_i t len parts ho
  have em:(parts.toList.map λq=>(q.1,aV G (fV F d y) q.2))=parts.toList.map λq=>(q.1,aV G F q.2):=List.map_congr_left λq hq=>by
   rw [dL (hl q.2 (by rw [ho];simp only [Op.operands,List.mem_toArray,List.mem_map];exact ⟨q,hq,rfl⟩))]
  rw [em]
 ·rename_i f args ty ho
  have e1:aV G (fV F d y) f=aV G F f:=dL (hl f (by rw [ho];simp [Op.operands,Call.operands]))
  have e2:(args.toList.map λx=>norm (aV G (fV F d y) x))=args.toList.map λx=>norm (aV G F x):=List.map_congr_left λx hx=>by
   rw [dL (hl x (by rw [ho];simp only [Op.operands,Call.operands,Array.mem_append];exact .inr (by simpa using hx)))]
  rw [e1,e2]
 ·rfl
theorem aiQ {ops:Array Oper}{o:Oper}{d:Option Tmp}{y:LV}(ha:DN o=true) (h:∀t,d=some t→t∉o.looksAt ops):o6 P G Γ (fV F d y) H o=o6 P G Γ F H o:=by
 have hl:=looks h
 unfold DN at ha;split at ha
 ·rename_i t ho
  unfold o6;simp only [ho]
 ·rename_i t x ho
  unfold o6;simp only [ho];rw [dL (hl x (by rw [ho];simp [Op.operands]))]
 ·rename_i t x ho
  unfold o6;simp only [ho];rw [dL (hl x (by rw [ho];simp [Op.operands]))]
 ·cases ha
theorem BO {tr:List Nat}{n0:Nat}{o:Oper}{F:List LV}(h:yG o=true∨xO o=true):fF G F tr n0 o=true:=by
 have hw:Xg G F o=[]:=by
  unfold Xg;split
  ·rename_i ho
   rcases h with h|h
   ·simp [yG,ho] at h
   ·simp [xO,ho] at h
  ·rename_i ho
   rcases h with h|h
   ·simp [yG,ho] at h
   ·simp [xO,ho] at h
  ·rename_i ho
   rcases h with h|h
   ·simp [yG,ho] at h
   ·simp [xO,ho] at h
  ·rename_i ho
   rcases h with h|h
   ·simp [yG,ho] at h
   ·simp [xO,ho] at h
  ·rfl
 unfold fF;rw [hw];rfl
theorem og {tr:List Nat}{n0:Nat}{o:Oper}{F:List LV}(h:DN o=true∨xO o=true):fF G F tr n0 o=true:=by
 have hw:Xg G F o=[]:=by
  unfold Xg;split
  ·rename_i ho
   rcases h with h|h
   ·simp [DN,ho] at h
   ·simp [xO,ho] at h
  ·rename_i ho
   rcases h with h|h
   ·simp [DN,ho] at h
   ·simp [xO,ho] at h
  ·rename_i ho
   rcases h with h|h
   ·simp [DN,ho] at h
   ·simp [xO,ho] at h
  ·rename_i ho
   rcases h with h|h
   ·simp [DN,ho] at h
   ·simp [xO,ho] at h
  ·rfl
 unfold fF;rw [hw];rfl
theorem xJ {ops:Array Oper}{i:Nat}{o:Oper}(h:QL ops i o=true):xO o=true:=by
 unfold QL at h;rw [Bool.and_eq_true] at h;exact h.1
theorem ak4 {ops:Array Oper}{tr:List Nat}{n0:Nat}{i j:Nat}{is:List Nat}{K:List LV×List aZ→Prop}(x y:Oper) (hx:ops[i]? =some x) (hy:ops[j]? =some y) (g1:x.guard.isNone=true) (g2:y.guard.isNone=true) (g3:((DN x=true∧QL ops j y=true)∨(QL ops i x=true∧DN y=true))∨(QL ops i x=true∧QL ops j y=true)) (hap:x.apart ops y=true) (h:(QG P G Γ ops tr n0 (j::i::is) F H).all K):(QG P G Γ ops tr n0 (i::j::is) F H).all K:=by
 obtain ⟨a1,a2,a3⟩:=Oper.apart_spec hap
 have sx:∀F:List LV,fF G F tr n0 x=true:=λF=>by
  rcases g3 with (g3|g3) |g3
  ·exact og (.inl g3.1)
  ·exact og (.inr (xJ g3.1))
  ·exact og (.inr (xJ g3.1))
 have sy:∀F:List LV,fF G F tr n0 y=true:=λF=>by
  rcases g3 with (g3|g3) |g3
  ·exact og (.inr (xJ g3.2))
  ·exact og (.inl g3.2)
  ·exact og (.inr (xJ g3.2))
 have notboth:∀o:Oper,xO o=true→DN o=true→False:=λo h1 h2=>by
  unfold xO at h1;split at h1
  ·rename_i ho;simp [DN,ho] at h2
  ·rename_i ho;simp [DN,ho] at h2
  ·cases h1
 simp only [QG,hx,hy,g1,g2,sx,sy,Bool.and_self,if_true] at h⊢;rw [T.all_bind] at h⊢;rcases g3 with (⟨g3,g4⟩ |⟨g3,g4⟩) |⟨g3,g4⟩
 ·have nx:¬QL ops i x=true:=λe=>notboth x (xJ e) g3
  simp only [Xh,if_pos g4,if_neg nx] at h⊢;rw [T.all_bind] at h
  have h2:=T.bQ (λz hz=>by
   simp only [T.all] at hz;rw [T.all_bind,aiQ g3 a3] at hz;exact hz) h
  refine T.bQ (λq hq=>?_) (T.swap h2)
  rw [T.all_bind,T.all_bind,qK a1];refine T.bQ (λz hz=>?_) hq
  simp only [T.all];rw [lX a2];exact hz
 ·have ny:¬QL ops j y=true:=λe=>notboth y (xJ e) g4
  simp only [Xh,if_pos g3,if_neg ny] at h⊢;rw [T.all_bind]
  have h2:=T.bQ (λz hz=>by
   rw [T.all_bind,T.all_bind,qK a3] at hz;exact hz) h
  refine T.bQ (λq hq=>?_) (T.swap h2)
  simp only [T.all];rw [T.all_bind,aiQ g4 a1];refine T.bQ (λz hz=>?_) hq
  simp only [T.all] at hz;rw [lX a2];exact hz
 ·simp only [Xh,if_pos g3,if_pos g4] at h⊢
  rw [T.all_bind] at h⊢
  have h2:=T.bQ (λz hz=>by
   simp only [T.all] at hz;rw [T.all_bind,T.all_bind,qK a3] at hz;exact hz) h
  refine T.bQ (λq hq=>?_) (T.swap h2)
  simp only [T.all];rw [T.all_bind,T.all_bind,qK a1];refine T.bQ (λz hz=>?_) hq
  simp only [T.all] at hz⊢;rw [lX a2];exact hz
theorem wQ {ops:Array Oper}{o:Oper}{d:Option Tmp}{y:LV}(hs:∀cs b,o.op≠ .select cs b) (h:∀t,d=some t→t∉o.looksAt ops):vU P G (fV F d y) o=vU P G F o:=by
 have hl:=looks h
 have e:∀x∈o.op.operands,aV G (fV F d y) x=aV G F x:=λx hx=>dL (hl x hx)
 unfold vU
 have e1:o.op.operands.toList.all (λx=>aqv (aV G (fV F d y) x))=o.op.operands.toList.all (λx=>aqv (aV G F x)):=by
  rw [Bool.eq_iff_iff,List.all_eq_true,List.all_eq_true];exact ⟨λq x hx=>by rw [←e x (by simpa using hx)];exact q x hx,λq x hx=>by rw [e x (by simpa using hx)];exact q x hx⟩
 have e3:o.op.operands.toList.all (λx=>aHU (aV G (fV F d y) x))=o.op.operands.toList.all (λx=>aHU (aV G F x)):=by
  rw [Bool.eq_iff_iff,List.all_eq_true,List.all_eq_true];exact ⟨λq x hx=>by rw [←e x (by simpa using hx)];exact q x hx,λq x hx=>by rw [e x (by simpa using hx)];exact q x hx⟩
 have e2:alu P o (λx=>(pl (aV G (fV F d y) x)).getD undef)=alu P o (λx=>(pl (aV G F x)).getD undef):=by
  have c:=execOp_congr (ρ:=λx=>(pl (aV G (fV F d y) x)).getD undef) (ρ':=λx=>(pl (aV G F x)).getD undef) o hs (λx hx=>by simp only [e x hx])
  unfold alu;rw [c]
  have a:Rf P o.op (λx=>(pl (aV G (fV F d y) x)).getD undef)=Rf P o.op (λx=>(pl (aV G F x)).getD undef):=by
   unfold Rf;split
   ·rename_i op t x z _ ho
    simp only [e x (by rw [ho];simp [Op.operands]),e z (by rw [ho];simp [Op.operands])]
   ·rfl
  rw [a]
 rw [e1,e2,e3]
theorem YG {ops:Array Oper}{o:Oper}{d:Option Tmp}{y:LV}(h:∀t,d=some t→t∉o.looksAt ops):pux P G Γ (fV F d y) o=pux P G Γ F o:=by
 have hl:=looks h
 have e:∀x∈o.op.operands,aV G (fV F d y) x=aV G F x:=λx hx=>dL (hl x hx)
 unfold pux;split
 ·rename_i x ho;rw [e x (by rw [ho];simp [Op.operands])]
 ·rename_i x ho;rw [e x (by rw [ho];simp [Op.operands])]
 ·rename_i c x z ho;rw [e c (by rw [ho];simp [Op.operands]),e x (by rw [ho];simp [Op.operands]),e z (by rw [ho];simp [Op.operands])]
 ·rename_i t x ho;rw [e x (by rw [ho];simp [Op.operands])]
 ·rename_i s x i ho;rw [e x (by rw [ho];simp [Op.operands])]
 ·rename_i t x i ho;rw [e x (by rw [ho];simp [Op.operands]),e i (by rw [ho];simp [Op.operands])]
 ·rename_i t parts ho
  congr 1
  refine List.map_congr_left λq hq=>?_
  have e':=e q.2 (by rw [ho];simp only [Op.operands,List.mem_toArray,List.mem_map];exact ⟨q,hq,rfl⟩)
  have:IA G (fV F d y) q.2=IA G F q.2:=by
   generalize q.2=x at e';cases x<;>first|rfl|exact e'
  rw [this]
 ·exact qK h
 ·exact qK h
 ·rename_i ho;exact wQ (λcs b e=>by rw [ho] at e;cases e) h
 ·rename_i op _ _ _ _ ho
  split
  ·rfl
  ·rfl
  ·rfl
  ·rfl
  ·exact wQ (λcs b e=>by rw [ho] at e;cases e) h
 ·rfl
def hpx (P:Program) (G:dI) (F:List LV) (H:List aZ) (o:Oper):T LV:=
 match o.op with
 | .move x=> .ok (aV G F x)
 | .assign x=> .ok (aV G F x)
 | .load t x=>zq P H t (aV G F x)
 | .indexAddr t x i=>BU P t (aV G F x) (alp (aV G F i)) (aV G F i)
 | .fieldAddr s x i=>NP P s (aV G F x) i
 | .extract x i=>(match aV G F x with
  | .iU l=>(match l[i]? with
   |some y=> .ok y
   |none=> .no)
  |_=>vU P G F o)
 | .binOp ..=>vU P G F o
 | .call ..=>vU P G F o
 |_=> .no
theorem Nk {o:Oper}(h:(AY o ||JX o)=true):(∃x,o.op=.move x)∨(∃x,o.op=.assign x)∨(∃t x,o.op=.load t x)∨(∃t x i,o.op=.indexAddr t x i)∨(∃t x y u,o.op=.binOp .add t x y u)∨(∃t x y u,o.op=.binOp .sub t x y u)∨(∃x i,o.op=.extract x i)∨(∃x i,o.op=.call {callee:=.builtin .max,args:=x,argTypes:=i})∨(∃x i,o.op=.call {callee:=.builtin .min,args:=x,argTypes:=i})∨(∃s x i,o.op=.fieldAddr s x i):=by
 rcases Bool.or_eq_true_iff.1 h with h|h
 ·unfold AY at h
  split at h
  ·rename_i ho;exact .inl ⟨_,ho⟩
  ·rename_i ho;exact .inr (.inl ⟨_,ho⟩)
  ·rename_i ho;exact .inr (.inr (.inr (.inl ⟨_,_,_,ho⟩)))
  ·rename_i ho;exact .inr (.inr (.inr (.inr (.inr (.inr (.inr (.inr (.inr ⟨_,_,_,ho⟩))))))))
  ·rename_i ho;exact .inr (.inr (.inr (.inr (.inr (.inr (.inl ⟨_,_,ho⟩))))))
  ·rename_i ho;exact .inr (.inr (.inr (.inr (.inr (.inr (.inr (.inl ⟨_,_,ho⟩)))))))
  ·rename_i ho;exact .inr (.inr (.inr (.inr (.inr (.inr (.inr (.inr (.inl ⟨_,_,ho⟩))))))))
  ·rename_i ho
   split at h
   ·exact .inr (.inr (.inr (.inr (.inl ⟨_,_,_,_,ho⟩))))
   ·exact .inr (.inr (.inr (.inr (.inr (.inl ⟨_,_,_,_,ho⟩)))))
   ·cases h
  ·cases h
 ·unfold JX at h
  split at h
  ·rename_i ho;exact .inr (.inr (.inl ⟨_,_,ho⟩))
  ·cases h
theorem aHZ {ops:Array Oper}{k:Nat}{o:Oper}(h:(AY o ||JX o)=true):Xh P G Γ ops k F H o=(hpx P G F H o).bind λy=> .ok (y,H):=by
 rcases Nk h with ⟨x,ho⟩ |⟨x,ho⟩ |⟨t,x,ho⟩ |⟨t,x,i,ho⟩ |⟨t,x,y,u,ho⟩ |⟨t,x,y,u,ho⟩ |⟨x,i,ho⟩ |⟨x,i,ho⟩ |⟨x,i,ho⟩ |⟨t,x,i,ho⟩
 case inr.inr.inr.inr.inr.inr.inl=>
  unfold Xh QL xO o6 hpx;simp only [ho,Bool.false_and,Bool.false_eq_true,if_false];generalize aV G F x=v;cases v
  case iU l=>
   dsimp only;cases l[i]? <;>rfl
  all_goals rfl
 all_goals (unfold Xh QL xO o6 hpx;simp [ho,T.bind])
theorem DR {ops:Array Oper}{o:Oper}{d:Option Tmp}{y:LV}(hh:(AY o ||JX o)=true) (h:∀t,d=some t→t∉o.looksAt ops):hpx P G (fV F d y) H o=hpx P G F H o:=by
 have hl:=looks h
 rcases Nk hh with ⟨x,ho⟩ |⟨x,ho⟩ |⟨t,x,ho⟩ |⟨t,x,i,ho⟩ |⟨t,x,z,u,ho⟩ |⟨t,x,z,u,ho⟩ |⟨x,i,ho⟩ |⟨x,i,ho⟩ |⟨x,i,ho⟩ |⟨t,x,i,ho⟩
 ·unfold hpx;simp only [ho]
  rw [dL (hl x (by rw [ho];simp [Op.operands]))]
 ·unfold hpx;simp only [ho]
  rw [dL (hl x (by rw [ho];simp [Op.operands]))]
 ·unfold hpx;simp only [ho]
  rw [dL (hl x (by rw [ho];simp [Op.operands]))]
 ·unfold hpx;simp only [ho]
  rw [dL (hl x (by rw [ho];simp [Op.operands])),dL (hl i (by rw [ho];simp [Op.operands]))]
 ·have:=YG (P:=P) (G:=G) (Γ:=λ_=>none) (F:=F) (y:=y) h
  unfold pux at this;unfold hpx;simp only [ho] at this⊢;exact this
 ·have:=YG (P:=P) (G:=G) (Γ:=λ_=>none) (F:=F) (y:=y) h
  unfold pux at this;unfold hpx;simp only [ho] at this⊢;exact this
 ·unfold hpx;simp only [ho]
  rw [dL (hl x (by rw [ho];simp [Op.operands])),wQ (λcs b e=>by rw [ho] at e;cases e) h]
 ·unfold hpx;simp only [ho]
  rw [wQ (λcs b e=>by rw [ho] at e;cases e) h]
 ·unfold hpx;simp only [ho]
  rw [wQ (λcs b e=>by rw [ho] at e;cases e) h]
 ·unfold hpx;simp only [ho]
  rw [dL (hl x (by rw [ho];simp [Op.operands]))]
theorem apQ {o:Oper}{H':List aZ}(h:AY o=true):hpx P G F H o=hpx P G F H' o:=by
 unfold hpx;cases ho:o.op<;>simp_all [AY]
theorem xR {o:Oper}{tr:List Nat}{n0:Nat}(h:(AY o ||JX o)=true) (F:List LV):fF G F tr n0 o=true:=by
 rcases Nk h with ⟨x,ho⟩ |⟨x,ho⟩ |⟨t,x,ho⟩ |⟨t,x,i,ho⟩ |⟨t,x,y,u,ho⟩ |⟨t,x,y,u,ho⟩ |⟨x,i,ho⟩ |⟨x,i,ho⟩ |⟨x,i,ho⟩ |⟨t,x,i,ho⟩<;>simp [fF,Xg,ho]
theorem Ya {ops:Array Oper}{k:Nat}{o:Oper}{d:Option Tmp}{y:LV}(hh:agV o=true) (h:∀t,d=some t→t∉o.looksAt ops):Xh P G Γ ops k (fV F d y) H o=Xh P G Γ ops k F H o∧∀tr n0,fF G (fV F d y) tr n0 o=fF G F tr n0 o:=by
 have hl:=looks h
 unfold agV at hh;split at hh
 ·rename_i t x z ho
  have e1:=dL (G:=G) (F:=F) (y:=y) (hl x (by rw [ho];simp [Op.operands]))
  have e2:=dL (G:=G) (F:=F) (y:=y) (hl z (by rw [ho];simp [Op.operands]))
  refine ⟨?_,λtr n0=>?_⟩
  ·unfold Xh QL xO o6
   simp only [ho,Bool.false_and,Bool.false_eq_true,if_false];rw [e1,e2]
  ·unfold fF Xg
   simp only [ho];rw [e1]
 ·cases hh
theorem VP {ops:Array Oper}{k:Nat}{o:Oper}(h:QL ops k o=true):Xh P G Γ ops k F H o=(mkx P G Γ F o).bind λy=> .ok (y,H):=by
 unfold Xh;rw [if_pos h]
theorem ZN {ops:Array Oper}{k:Nat}{o:Oper}{d:Option Tmp}{y:LV}(hh:azc o=true) (h:∀t,d=some t→t∉o.looksAt ops):Xh P G Γ ops k (fV F d y) H o=Xh P G Γ ops k F H o∧∀tr n0,fF G (fV F d y) tr n0 o=fF G F tr n0 o:=by
 have hl:=looks h
 unfold azc at hh;split at hh
 ·rename_i args tys ho
  have e:args.toList.map (aV G (fV F d y))=args.toList.map (aV G F):=List.map_congr_left λx hx=>dL (hl x (by rw [ho];simp only [Op.operands,Call.operands,Array.mem_append];exact .inr (by simpa using hx)))
  refine ⟨?_,λtr n0=>?_⟩
  ·unfold Xh QL xO o6
   simp only [ho,Bool.false_and,Bool.false_eq_true,if_false];rw [e]
  ·unfold fF Xg
   simp only [ho];rw [e]
 ·cases hh
theorem T.wV {α:Type}{A:Prop}:∀ {t:T α},t.all (λ_=>A)→A
 | .ok _,h=>h
 | .br b x y,h=>by
  cases b with
  |true=>exact T.wV (t:=x) (h.1 rfl)
  |false=>exact T.wV (t:=y) (h.2 rfl)
 | .req _ x,h=>T.wV (t:=x) h.2
 | .no,h=>h.elim
theorem aop {ops:Array Oper}{tr:List Nat}{n0:Nat}{i j:Nat}{is:List Nat}{K:List LV×List aZ→Prop}(hc:NS ops i j=true) (h:(QG P G Γ ops tr n0 (j::i::is) F H).all K):(QG P G Γ ops tr n0 (i::j::is) F H).all K:=by
 unfold NS at hc;split at hc
 ·rename_i x y hx hy
  simp only [Bool.and_eq_true,Bool.or_eq_true] at hc;obtain ⟨⟨⟨g1,g2⟩,g3⟩,hap⟩:=hc;obtain ⟨a1,a2,a3⟩:=Oper.apart_spec hap
  have step:∀(k:Nat) (o:Oper) (l:List Nat) (F:List LV) (H:List aZ),ops[k]? =some o→o.guard.isNone=true→((QG P G Γ ops tr n0 (k::l) F H).all K↔(fF G F tr n0 o=true∧(Xh P G Γ ops k F H o).all (λq=>(QG P G Γ ops tr n0 l (fV F o.dst q.1) q.2).all K))):=λk o l F H hk hg=>by
   simp only [QG,hk,hg,Bool.true_and];split
   ·rename_i hs
    rw [T.all_bind];simp only [hs,true_and]
   ·rename_i hs
    constructor
    ·exact λh=>h.elim
    ·exact λh=>(hs h.1).elim
  have hpS:∀(k:Nat) (o:Oper) (F:List LV) (H:List aZ) (K:LV×List aZ→Prop),(AY o ||JX o)=true→((Xh P G Γ ops k F H o).all K↔(hpx P G F H o).all (λv=>K (v,H))):=λk o F H K ho=>by
   rw [aHZ ho,T.all_bind];rfl
  rcases g3 with ((((g3|g3) |g3) |g3) |g3) |g3
  ·exact ak4 x y hx hy g1 g2 g3 hap h
  ·have gx:(AY x ||JX x)=true:=Bool.or_eq_true_iff.2 g3.1
   have gy:(AY y ||JX y)=true:=Bool.or_eq_true_iff.2 g3.2
   rw [step _ _ _ _ _ hy g2,hpS j y _ _ _ gy] at h;rw [step _ _ _ _ _ hx g1,hpS i x _ _ _ gx];refine ⟨xR gx F,?_⟩
   have h2:=T.bQ (λv hv=>by
    rw [step _ _ _ _ _ hx g1,hpS i x _ _ _ gx,DR gx a3] at hv;exact hv.2) h.2
   refine T.bQ (λu hu=>?_) (T.swap h2)
   rw [step _ _ _ _ _ hy g2,hpS j y _ _ _ gy,DR gy a1];refine ⟨xR gy _,T.bQ (λv hv=>?_) hu⟩
   simp only at hv⊢;rw [lX a2];exact hv
  ·obtain ⟨gx,gy⟩:=g3
   have gx':(AY x ||JX x)=true:=by rw [gx];rfl
   rw [step _ _ _ _ _ hy g2] at h;rw [step _ _ _ _ _ hx g1,hpS i x _ _ _ gx'];refine ⟨xR gx' F,?_⟩
   have h2:=T.bQ (λq hq=>by
    rw [step _ _ _ _ _ hx g1,hpS i x _ _ _ gx',DR gx' a3,apQ (H':=H) gx] at hq;exact hq.2) h.2
   refine T.bQ (λu hu=>?_) (T.swap h2)
   obtain ⟨e1,e2⟩:=Ya (P:=P) (G:=G) (Γ:=Γ) (F:=F) (H:=H) (y:=u) gy a1;rw [step _ _ _ _ _ hy g2,e1,e2];refine ⟨h.1,T.bQ (λq hq=>?_) hu⟩
   simp only at hq⊢;rw [lX a2];exact hq
  ·obtain ⟨gx,gy⟩:=g3
   have gy':(AY y ||JX y)=true:=by rw [gy];rfl
   rw [step _ _ _ _ _ hy g2,hpS j y _ _ _ gy'] at h
   have h2:=T.bQ (λv hv=>by
    obtain ⟨e1,e2⟩:=Ya (P:=P) (G:=G) (Γ:=Γ) (F:=F) (H:=H) (y:=v) gx a3;rw [step _ _ _ _ _ hx g1,e1,e2] at hv;exact hv) h.2
   rw [step _ _ _ _ _ hx g1];refine ⟨T.wV (T.bQ (λv hv=>hv.1) h2),?_⟩
   have h3:=T.bQ (λv hv=>hv.2) h2
   refine T.bQ (λq hq=>?_) (T.swap h3)
   rw [step _ _ _ _ _ hy g2,hpS j y _ _ _ gy',DR gy' a1,apQ (H':=H) gy];refine ⟨xR gy' _,T.bQ (λv hv=>?_) hq⟩
   simp only at hv⊢;rw [lX a2];exact hv
  ·obtain ⟨gx,gy⟩:=g3
   rw [step _ _ _ _ _ hy g2] at h;rw [step _ _ _ _ _ hx g1,VP gx,T.all_bind];refine ⟨BO (.inr (xJ gx)),?_⟩
   have h2:=T.bQ (λq hq=>by
    rw [step _ _ _ _ _ hx g1,VP gx,T.all_bind,qK a3] at hq;exact hq.2) h.2
   refine T.bQ (λu hu=>?_) (T.swap h2)
   obtain ⟨e1,e2⟩:=ZN (P:=P) (G:=G) (Γ:=Γ) (F:=F) (H:=H) (y:=u) gy a1
   (try simp only [T.all] at hu)
   (try simp only [T.all])
   rw [step _ _ _ _ _ hy g2,e1,e2];refine ⟨h.1,T.bQ (λq hq=>?_) hu⟩
   (try simp only at hq)
   (try simp only)
   rw [lX a2];exact hq
  ·obtain ⟨gx,gy⟩:=g3
   rw [step _ _ _ _ _ hy g2,VP gy,T.all_bind] at h
   have h2:=T.bQ (λv hv=>by
    obtain ⟨e1,e2⟩:=ZN (P:=P) (G:=G) (Γ:=Γ) (F:=F) (H:=H) (y:=v) gx a3
    (try simp only [T.all] at hv)
    rw [step _ _ _ _ _ hx g1,e1,e2] at hv;exact hv) h.2
   rw [step _ _ _ _ _ hx g1];refine ⟨T.wV (T.bQ (λv hv=>hv.1) h2),?_⟩
   have h3:=T.bQ (λv hv=>hv.2) h2
   refine T.bQ (λq hq=>?_) (T.swap h3)
   rw [step _ _ _ _ _ hy g2,VP gy,T.all_bind,qK a1];refine ⟨BO (.inr (xJ gy)),T.bQ (λv hv=>?_) hq⟩
   (try simp only [T.all] at hv)
   (try simp only [T.all])
   rw [lX a2];exact hv
 ·cases hc
theorem aoq {ops:Array Oper}{tr:List Nat}{n0:Nat}{j:Nat}{R R':List Nat}{K:List LV×List aZ→Prop}(hh:∀(F:List LV) (H:List aZ),(QG P G Γ ops tr n0 R F H).all K→(QG P G Γ ops tr n0 R' F H).all K) (h:(QG P G Γ ops tr n0 (j::R) F H).all K):(QG P G Γ ops tr n0 (j::R') F H).all K:=by
 simp only [QG] at h⊢;split at h
 ·split at h
  ·rename_i hg
   rw [if_pos hg];rw [T.all_bind] at h⊢;exact T.bQ (λq hq=>hh _ _ hq) h
  ·cases h
 ·cases h
theorem QF {ops:Array Oper}{tr:List Nat}{n0:Nat}{i:Nat}{K:List LV×List aZ→Prop}:∀(R:List Nat) (F:List LV) (H:List aZ),i∈R→(yH i R).all (λj=>NS ops i j)=true→(QG P G Γ ops tr n0 R F H).all K→(QG P G Γ ops tr n0 (i::R.erase i) F H).all K
 | [],_,_,hi,_,_=>by cases hi
 | j::R,F,H,hi,hb,h=>by
  by_cases hj:j=i
  ·subst hj
   simpa using h
  ·have hi':i∈R:=by
    rcases List.mem_cons.1 hi with e|e
    ·exact absurd e.symm hj
    ·exact e
   simp only [yH,if_neg hj,List.all_cons,Bool.and_eq_true] at hb;rw [List.erase_cons_tail (by simpa using hj)]
   exact aop hb.1 (aoq (λF H h=>QF R F H hi' hb.2 h) h)
theorem aqn {t:TypeId}{len:Nat}{l:List (Nat×LV)}{K:LV→Prop}(h:(V3 P t len l).all K):¬len=0:=by
 unfold V3 at h
 rintro rfl
 split at h
 ·split at h
  ·split at h
   ·rename_i hc;have:=hc.2.2.1;omega
   ·cases h
  ·cases h
 ·cases h
theorem acy {t:TypeId}{len:Nat}{l:List (Nat×LV)}{K:LV→Prop}(h:(V3 P t len l).all K):TY P t=true:=by
 unfold V3 at h;unfold TY;split at h
 ·rename_i e hu
  split at h
  ·rename_i ty m z h1 h2 h3
   simp [h1]
  ·cases h
 ·cases h
theorem ayV {o:Oper}{lv:LV}(_:xO o=true) (h:(mkx P G Γ F o).all (λz=>z=lv)):(o6 P G Γ F H o).all (λq=>q=(lv,H)):=by
 unfold mkx at h;split at h
 ·rename_i t len parts ho
  split at h
  ·rename_i hno
   unfold o6;simp only [ho];rw [if_neg (aqn h),if_pos (acy h),if_pos hno,T.all_bind];exact T.bQ (λz hz=>by simp only [T.all];rw [hz]) h
  ·cases h
 ·rename_i f args ty ho
  unfold o6;simp only [ho];split at h
  ·rename_i g cap hf
   split at h
   ·rename_i fn hfn
    split at h
    ·rename_i hb
     split at h
     ·rename_i S hS
      split at h
      ·rename_i hno
       simp only [zD,hfn,hb,if_true,hS,hno];rw [T.all_bind];exact T.bQ (λz hz=>by simp only [T.all];rw [hz]) h
      ·cases h
     ·cases h
    ·cases h
   ·cases h
  ·cases h
 ·cases h
theorem agR {l:Array Bool}{i j:Nat}{d:Bool}:(l.setIfInBounds i true).getD j d=if i=j∧i<l.size then true else l.getD j d:=by
 rw [Array.getD_eq_getD_getElem?,Array.getD_eq_getD_getElem?,Array.getElem?_setIfInBounds]
 by_cases e:i=j
 ·subst e
  by_cases h:i<l.size
  ·simp [h]
  ·simp [h]
 ·simp [e]
theorem VZ {l:Array Bool}{i:Nat}(h:l.getD i true=false):i<l.size∧l.getD i false=false:=by
 rw [Array.getD_eq_getD_getElem?] at h⊢;cases hq:l[i]? with
 |none=>rw [hq] at h;cases h
 |some b=>
  rw [hq] at h;exact ⟨(Array.getElem?_eq_some_iff.1 hq).1,h⟩
theorem Oh {i:Nat}:∀ {R:List Nat}{j:Nat},j∈yH i R→j∈R∧j≠i
 | [],_,h=>by cases h
 | k::R,j,h=>by
  simp only [yH] at h;split at h
  ·cases h
  ·rename_i hk
   rcases List.mem_cons.1 h with rfl|h
   ·exact ⟨by simp,hk⟩
   ·exact ⟨List.mem_cons_of_mem _ (Oh h).1,(Oh h).2⟩
theorem Ro {p:Nat→Nat→Prop}{i:Nat}:∀ {R:List Nat}{j:Nat},R.Pairwise p→i∈R→j∈yH i R→p j i
 | [],_,_,h,_=>by cases h
 | k::R,j,hp,hi,hj=>by
  rw [List.pairwise_cons] at hp;simp only [yH] at hj;split at hj
  ·cases hj
  ·rename_i hk
   have hi2:i∈R:=by
    rcases List.mem_cons.1 hi with e|hi
    ·exact absurd e.symm hk
    ·exact hi
   rcases List.mem_cons.1 hj with rfl|hj
   ·exact hp.1 i hi2
   ·exact Ro hp.2 hi2 hj
theorem Oi {i k q:Nat}(hk:k≠i) (hq:q≠i):∀ {R:List Nat},q∈yH k R→q∈yH k (R.erase i)
 | [],h=>by cases h
 | x::R,h=>by
  simp only [yH] at h;split at h
  ·cases h
  ·rename_i hx
   by_cases e:x=i
   ·subst e
    rw [List.erase_cons_head];rcases List.mem_cons.1 h with rfl|h
    ·exact absurd rfl hq
    ·exact h
   ·rw [List.erase_cons_tail (by simpa using e)]
    simp only [yH,if_neg hx];rcases List.mem_cons.1 h with rfl|h
    ·simp
    ·exact List.mem_cons_of_mem _ (Oi hk hq h)
structure aRz (ops:Array Oper) (R:List Nat) (listed:Array Bool):Prop where
 nd:R.Nodup
 mem:∀i,i∈R↔listed.getD i true=false
 pr:R.Pairwise λj i=>preB ops i j=true∨NS ops i j=true
 tp:∀i∈R,∃o,ops[i]? =some o∧∀e∈o.after,Region.binds .any e=true→listed.getD e.on false=true∨e.on∈yH i R
theorem aot {ops:Array Oper}:∀(n:Nat) (R:List Nat) (listed:Array Bool),R.length=n→aRz ops R listed→Ux ops n R listed=true
 |0,R,listed,hn,I=>by
  have e:=List.eq_nil_of_length_eq_zero hn
  subst e;simp only [Ux,List.isEmpty_nil,Bool.true_and,List.isEmpty_iff];refine List.eq_nil_iff_forall_not_mem.2 λi hi=>?_
  exact absurd ((I.mem i).2 (mem_ready.1 hi).1) (by simp)
 | n +1,R,listed,hn,I=>by
  simp only [Ux,Bool.and_eq_true,List.all_eq_true,Bool.not_eq_true',List.isEmpty_eq_false_iff];refine ⟨λh0=>?_,λi hi=>?_⟩
  ·match R,hn,I with
   | k::R,_,I=>
    obtain ⟨o,ho,h1⟩:=I.tp k (by simp)
    have:k∈Region.ready .any ops listed:=mem_ready.2 ⟨(I.mem k).1 (by simp),o,ho,λe he hb=>by
     rcases h1 e he hb with h2|h2
     ·exact h2
     ·simp [yH] at h2⟩
    rw [h0] at this;cases this
  ·obtain ⟨r1,o,ho,r2⟩:=mem_ready.1 hi
   have hR:=(I.mem i).2 r1
   refine ⟨⟨by simpa using hR,λj hj=>?_⟩,aot n _ _ (by rw [List.length_erase_of_mem hR,hn];rfl) ⟨I.nd.erase i,λj=>?_,I.pr.sublist List.erase_sublist,λk hk=>?_⟩⟩
   ·obtain ⟨j1,j2⟩:=Oh hj
    rcases Ro I.pr hR hj with h|h
    ·unfold preB at h
     rw [ho] at h;simp only [List.any_eq_true,Bool.and_eq_true] at h;obtain ⟨e,he,hb,hq⟩:=h
     have hq:e.on=j:=by simpa using hq
     have h3:=r2 e (by simpa using he) hb
     rw [hq] at h3
     have h4:=(VZ ((I.mem j).1 j1)).2
     rw [h3] at h4;cases h4
    ·exact h
   ·rw [I.nd.mem_erase_iff,I.mem j,agR]
    have hb:=(VZ r1).1
    by_cases e:i=j
    ·subst e
     simp [hb]
    ·simp [e,Ne.symm e]
   ·have hk':=I.nd.mem_erase_iff.1 hk
    obtain ⟨o',ho',h1⟩:=I.tp k hk'.2;refine ⟨o',ho',λe he hb=>?_⟩
    rw [agR]
    by_cases q:i=e.on
    ·left
     rw [if_pos ⟨q,(VZ r1).1⟩]
    ·rw [if_neg (λh=>q h.1)]
     rcases h1 e he hb with h2|h2
     ·exact .inl h2
     ·exact .inr (Oi hk'.1 (Ne.symm q) h2)
theorem aiw:∀ {l:List Nat},aAg l=true→l.Nodup
 | [],_=>List.nodup_nil
 |x::l,h=>by
  simp only [aAg,Bool.and_eq_true,Bool.not_eq_true',List.contains_eq_mem,decide_eq_false_iff_not] at h;exact List.nodup_cons.2 ⟨h.1,aiw h.2⟩
theorem QE {ops:Array Oper}:∀ {R:List Nat},Uw ops R=true→R.Pairwise λj i=>preB ops i j=true∨NS ops i j=true
 | [],_=>List.Pairwise.nil
 |j::R,h=>by
  simp only [Uw,Bool.and_eq_true,List.all_eq_true,Bool.or_eq_true] at h;exact List.pairwise_cons.2 ⟨h.1,QE h.2⟩
theorem aG8 {ops:Array Oper}{R:List Nat}{listed:Array Bool}(h:aG9 ops R listed=true):Ux ops R.length R listed=true:=by
 unfold aG9 aAS at h;simp only [Bool.and_eq_true,List.all_eq_true,List.mem_range] at h;obtain ⟨h1,h2,h3,h4,h5,h6⟩:=h
 have h2:listed.size=ops.size:=by simpa using h2
 refine aot _ R listed rfl ⟨aiw h1,λi=>?_,QE h5,λi hi=>?_⟩
 ·by_cases hi:i<ops.size
  ·have:=h3 i hi
   simp only [List.contains_eq_mem,beq_iff_eq] at this
   constructor
   ·intro hm
    rw [decide_eq_true hm] at this
    simpa using this.symm
   ·intro hm
    rw [hm] at this
    simpa using this
  ·constructor
   ·intro hm
    exact absurd (of_decide_eq_true (h4 i hm)) hi
   ·intro hm
    have:=(VZ hm).1
    omega
 ·have:=h6 i hi
  split at this
  ·rename_i o ho
   refine ⟨o,ho,λe he hb=>?_⟩
   have:=List.all_eq_true.1 this e (by simpa using he)
   rw [hb] at this
   simpa using this
  ·cases this
theorem Iy (hΓ:∀g S,Γ g=some S→Valid P G g S) {ops:Array Oper}{tr:List Nat}{D:World→Prop}{sp:Nat→Bool}{Q:Act→Gh→Prop}{F':List LV}{H':List aZ}
  (hQ:∀g:Gh,g.F=F'→g.H=H'→Q g.a g):∀(n:Nat) (R:List Nat) (listed:Array Bool) (g:Gh),(∀i∈R,sp i=true)→Ux ops n R listed=true→
   (QG P G Γ ops tr H.length R g.F g.H).all (λq=>q=(F',H'))→rJ P .any ops D (yP ds G w0 Z0 tr β H wr) sp Q n listed g.a g
 |0,R,listed,g,_,hB,h=>by
  simp only [Ux,Bool.and_eq_true,List.isEmpty_iff] at hB;obtain ⟨rfl,h2⟩:=hB;simp only [QG,T.all,Prod.mk.injEq] at h;exact ⟨h2,hQ g h.1 h.2⟩
 | n +1,R,listed,g,hs,hB,h=>by
  simp only [Ux,Bool.and_eq_true,List.all_eq_true,Bool.not_eq_true',List.isEmpty_eq_false_iff] at hB;obtain ⟨hne,hall⟩:=hB;refine ⟨λh0=>absurd h0 hne,λi hi=>?_⟩
  obtain ⟨⟨hR,hbef⟩,hrest⟩:=hall i hi
  have hiR:i∈R:=by simpa using hR
  have hf:=QF R g.F g.H hiR (by rw [List.all_eq_true];exact hbef) h
  simp only [QG] at hf;split at hf
  ·rename_i o ho
   split at hf
   ·rename_i hgs
    simp only [Bool.and_eq_true,Option.isNone_iff_eq_none] at hgs;obtain ⟨hgd,hst⟩:=hgs
    have hw:Region.wanted o (yielded ops g.a.tmps)=true:=by simp [Region.wanted,hgd]
    unfold Iu;simp only [ho,hw,if_true,hs i hiR];obtain ⟨⟨lv,H1⟩,h1,h2⟩:=T.bF hf
    have h1':(o6 P G Γ g.F g.H o).all (λq=>q=(lv,H1)):=by
     unfold Xh at h1;split at h1
     ·rename_i hm
      obtain ⟨y,k1,k2⟩:=T.bF h1;simp only [T.all,Prod.mk.injEq] at k2;obtain ⟨rfl,rfl⟩:=k2;exact ayV (xJ hm) k1
     ·exact h1
    intro w' hc;refine je (λv w'' ⟨g',e1,e2,e3,e4⟩=>⟨g',e1,?_⟩) (NT hΓ hst h1' hc)
    rw [←e4];refine Iy hΓ hQ n (R.erase i) _ g' (λj hj=>hs j (List.mem_of_mem_erase hj)) hrest ?_
    rw [e2,e3];exact h2
   ·cases hf
  ·cases hf
theorem tN {T':Type}{md:Region.Mode}{D:World→Prop}{sp:Nat→Bool}{C:T'→World→Prop}{Q':Act→World→Prop}{ops:Array Oper}{g g1:T'}(hs:∀w',C g w'→C g1 w'):∀(n:Nat) (listed:Array Bool) (a:Act),
  rJ P md ops D C sp (λa' g'=>∀w',C g' w'→Q' a' w') n listed a g1→rJ P md ops D C sp (λa' g'=>∀w',C g' w'→Q' a' w') n listed a g
 |0,_,_,h=>⟨h.1,λw' hw'=>h.2 w' (hs w' hw')⟩
 | n +1,listed,a,h=>⟨λh0 w' hw'=>h.1 h0 w' (hs w' hw'),λi hi=>by
   have:=h.2 i hi
   unfold Iu at this⊢;split
   ·rename_i ho;simp only [ho] at this;exact tN hs n _ _ this
   ·rename_i o ho
    simp only [ho] at this;split
    ·rename_i hw
     simp only [hw,if_true] at this;split
     ·rename_i hsp
      simp only [hsp,if_true] at this;exact λw hw=>this w (hs w hw)
     ·rename_i hsp
      simp only [hsp] at this;exact AP (λa' hk=>tN hs n _ a' hk) this
    ·rename_i hw
     simp only [hw] at this;exact tN hs n _ _ this⟩
mutual
theorem R.Cf {β':Nat→Loc}{n:Nat}:∀(x:LV) (y:Value),(∀j,j∈owns x→β' j=β j)→okV n x→R β Z w x y→R β' Z w x y
 | .v _,_,_,_,h=>h
 | .bl _,_,_,_,h=>h
 | .ki _ _,_,_,_,h=>h
 | .own k off,y,hj,_,h=>by simp only [R] at*;rw [h,hj k (by simp [owns])]
 | .agg l,y,hj,hk,h=>by
  simp only [R,owns,okV] at*;obtain ⟨ys,h1,h2⟩:=h;exact ⟨ys,h1,RL.Cf l _ hj hk h2⟩
 | .iU l,y,hj,hk,h=>by
  simp only [R,owns,okV] at*;obtain ⟨ys,h1,h2⟩:=h;exact ⟨ys,h1,RL.Cf l _ hj hk h2⟩
 | .fn f l,y,hj,hk,h=>by
  simp only [R,owns,okV] at*;obtain ⟨ys,h1,h2⟩:=h;exact ⟨ys,h1,RL.Cf l _ hj hk h2⟩
 | .xq m f,y,_,hk,h=>by
  simp only [R,okV] at*;obtain ⟨b,off,h1,h2,h3⟩:=h;refine ⟨b,off,h1,h2,λj hj=>?_⟩
  obtain ⟨z,h4,h5⟩:=h3 j hj;exact ⟨z,h4,R.mono (n:=0) (λ_ hk=>absurd hk (by omega)) (λ_ h=>h) (λ_ _=>rfl) _ _ (hk j) h5⟩
 | .xl e l,y,_,_,h=>by simp only [R] at*;exact h
 | .os k es off n,y,hj,_,h=>by simp only [R] at*;rw [hj k (by simp [owns])];exact h
 | .op k es i j,y,hj,_,h=>by simp only [R] at*;rw [hj k (by simp [owns])];exact h
 | .om k,y,hj,_,h=>by simp only [R] at*;rw [hj k (by simp [owns])];exact h
 | .mp kd ks l,y,hj,hk,h=>by
  simp only [R,owns,okV] at*;obtain ⟨r,es,clock,h1,h2,h3,h4,h5⟩:=h;exact ⟨r,es,clock,h1,h2,h3,h4,RL.Cf l _ hj hk h5⟩
 | .oc k es off n c,y,hj,_,h=>by simp only [R] at*;rw [hj k (by simp [owns])];exact h
 | .yt k,y,hj,_,h=>by simp only [R] at*;rw [h,hj k (by simp [owns])]
 | .junk,_,_,_,_=>by simp only [R]
theorem RL.Cf {β':Nat→Loc}{n:Nat}:∀(l:List LV) (ys:List Value),(∀j,j∈ownsL l→β' j=β j)→dQ n l→RL β Z w l ys→RL β' Z w l ys
 | [],_,_,_,h=>by simpa only [RL] using h
 |x::xs,ys,hj,hk,h=>by
  simp only [RL,ownsL,List.mem_append,dQ] at*;obtain ⟨y,zs,h1,h2,h3⟩:=h;exact ⟨y,zs,h1,R.Cf x y (λj h=>hj j (.inl h)) hk.1 h2,RL.Cf xs zs (λj h=>hj j (.inr h)) hk.2 h3⟩
end
mutual
theorem okV_owns {n:Nat}:∀(x:LV),okV n x→∀j,j∈owns x→j<n
 | .v _,_,j,h=>by simp [owns] at h
 | .bl _,_,j,h=>by simp [owns] at h
 | .ki _ _,_,j,h=>by simp [owns] at h
 | .own k _,hk,j,h=>by simp [owns] at h;subst h;exact hk
 | .agg l,hk,j,h=>by simp only [owns,okV] at*;exact okL_owns l hk j h
 | .iU l,hk,j,h=>by simp only [owns,okV] at*;exact okL_owns l hk j h
 | .fn _ l,hk,j,h=>by simp only [owns,okV] at*;exact okL_owns l hk j h
 | .xq _ _,_,j,h=>by simp [owns] at h
 | .xl _ _,_,j,h=>by simp [owns] at h
 | .os k _ _ _,hk,j,h=>by simp [owns] at h;subst h;exact hk
 | .op k _ _ _,hk,j,h=>by simp [owns] at h;subst h;exact hk
 | .om k,hk,j,h=>by simp [owns] at h;subst h;exact hk
 | .mp _ _ l,hk,j,h=>by simp only [owns,okV] at*;exact okL_owns l hk j h
 | .oc k _ _ _ _,hk,j,h=>by simp [owns] at h;subst h;exact hk
 | .yt k,hk,j,h=>by simp [owns] at h;subst h;exact hk
 | .junk,_,j,h=>by simp [owns] at h
theorem okL_owns {n:Nat}:∀(l:List LV),dQ n l→∀j,j∈ownsL l→j<n
 | [],_,j,h=>by simp [ownsL] at h
 |x::xs,hk,j,h=>by
  simp only [ownsL,List.mem_append,dQ] at*;rcases h with h|h
  ·exact okV_owns x hk.1 j h
  ·exact okL_owns xs hk.2 j h
end
mutual
theorem okV_lower {n m:Nat}:∀(x:LV),okV n x→(∀j,j∈owns x→j<m)→okV m x
 | .v _,_,_=>trivial
 | .bl _,_,_=>trivial
 | .ki _ _,_,_=>trivial
 | .own k _,_,h=>h k (by simp [owns])
 | .agg l,hk,h=>by simp only [owns,okV] at*;exact okL_lower l hk h
 | .iU l,hk,h=>by simp only [owns,okV] at*;exact okL_lower l hk h
 | .fn _ l,hk,h=>by simp only [owns,okV] at*;exact okL_lower l hk h
 | .xq _ _,hk,_=>by simpa only [okV] using hk
 | .xl _ _,_,_=>trivial
 | .os k _ _ _,_,h=>h k (by simp [owns])
 | .op k _ _ _,_,h=>h k (by simp [owns])
 | .om k,_,h=>h k (by simp [owns])
 | .mp _ _ l,hk,h=>by simp only [owns,okV] at*;exact okL_lower l hk h
 | .oc k _ _ _ _,_,h=>h k (by simp [owns])
 | .yt k,_,h=>h k (by simp [owns])
 | .junk,_,_=>trivial
theorem okL_lower {n m:Nat}:∀(l:List LV),dQ n l→(∀j,j∈ownsL l→j<m)→dQ m l
 | [],_,_=>trivial
 |x::xs,hk,h=>by
  simp only [ownsL,List.mem_append,dQ] at*;exact ⟨okV_lower x hk.1 (λj hj=>h j (.inl hj)),okL_lower xs hk.2 (λj hj=>h j (.inr hj))⟩
end
theorem apG {n:Nat}{b:aZ}(h:okB n b):∀j,j∈b.owns→j<n:=λj hj=>by
 unfold aZ.owns at hj;rcases List.mem_append.1 hj with hj|hj
 ·exact okL_owns _ h.1 j hj
 ·have h2:=h.2
  split at hj
  ·rename_i hk;rw [hk] at h2;exact okL_owns _ h2 j hj
  ·cases hj
theorem gY.Cf {β':Nat→Loc}{n k k':Nat}{b:aZ}(hk:β' k'=β k) (hj:∀j,j∈b.owns→β' j=β j) (hok:okB n b) (h:gY β Z w k b):gY β' Z w k' b:=by
 have hc:∀j,j∈ownsL b.c→β' j=β j:=λj h=>hj j (List.mem_append.2 (.inl h))
 unfold gY at*;rw [hk];cases hbk:b.k with
 |cl=>
  simp only [hbk] at h⊢;obtain ⟨cs,h1,h2⟩:=h;exact ⟨cs,h1,RL.Cf _ _ hc hok.1 h2⟩
 |vec e l=>simp only [hbk] at h⊢;exact h
 |mp kd ks vs=>
  simp only [hbk] at h⊢;obtain ⟨es,clock,h1,h2,h3⟩:=h
  have ho:=hok.2
  rw [hbk] at ho;exact ⟨es,clock,h1,h2,RL.Cf _ _ (λj h=>hj j (by unfold aZ.owns;rw [hbk];exact List.mem_append.2 (.inr h))) ho h3⟩
 |ni ps asg body st=>
  simp only [hbk] at h⊢;obtain ⟨r,h1,h2,h3,h4,h5,h6⟩:=h;exact ⟨r,h1,h2,h3,h4,h5,RL.Cf _ _ hc hok.1 h6⟩
 |st e l=>simp only [hbk] at h⊢;exact h
 |dead=>trivial
def GK (β:Nat→Loc) (k m:Nat):Nat→Loc:=λj=>if j=k then β m else β j
theorem sV {k m:Nat}:GK β k m k=β m:=by simp [GK]
theorem kM {k m j:Nat}(h:j≠k):GK β k m j=β j:=by simp [GK,h]
theorem RW.move {k:Nat}{nb db:aZ}(hW:RW G w0 Z0 Z β (H++[nb]) w) (hk:H[k]? =some db) (hp:nb.p=false)
  (hB:∀(j:Nat) (b:aZ),H[j]? =some b→okB H.length b∧k∉b.owns) (hn:okB H.length nb∧k∉nb.owns) (hg:∀p,p∈Z0.gh→okV H.length p.1∧k∉owns p.1):
  RW G w0 Z0 Z (GK β k H.length) (H.set k nb) w:=by
 have hkl:k<H.length:=(List.getElem?_eq_some_iff.1 hk).1
 have at_:∀(j:Nat) (b:aZ),(H.set k nb)[j]? =some b→(j=k∧b=nb)∨(j≠k∧H[j]? =some b):=λj b h=>by
  rw [List.getElem?_set] at h;split at h
  ·rename_i e
   simp only [Option.some.injEq] at h;exact .inl ⟨e.symm,h.symm⟩
  ·rename_i e;exact .inr ⟨λx=>e x.symm,h⟩
 have last:(H++[nb])[H.length]? =some nb:=by simp
 have old:∀(j:Nat) (b:aZ),H[j]? =some b→(H++[nb])[j]? =some b:=λj b h=>by rw [List.getElem?_append_left (List.getElem?_eq_some_iff.1 h).1];exact h
 have lt:∀(j:Nat) (b:aZ),H[j]? =some b→j<H.length:=λj b h=>(List.getElem?_eq_some_iff.1 h).1
 have lk:live (GK β k H.length) k nb=live β H.length nb:=by unfold live;rw [sV]
 have lj:∀j b,j≠k→live (GK β k H.length) j b=live β j b:=λj b h=>l9 (kM h)
 refine ⟨hW.below,hW.oN,hW.wB,λj b hj hl hq=>?_,λj b hj hl hq=>?_,λj b hj hl=>?_,λi j bi bj hi hj li lj' pi e=>?_,λj b hj=>?_,hW.jJ,λp hp=>?_,hW.vw⟩
 ·rcases at_ j b hj with ⟨rfl,rfl⟩ |⟨h1,h2⟩
  ·rw [sV];rw [lk] at hl;exact hW.mX _ _ last hl hq
  ·rw [kM h1];rw [lj j b h1] at hl;exact hW.mX j b (old j b h2) hl hq
 ·rcases at_ j b hj with ⟨rfl,rfl⟩ |⟨h1,h2⟩
  ·rw [hp] at hq;cases hq
  ·rw [kM h1];rw [lj j b h1] at hl;exact hW.yE j b (old j b h2) hl hq
 ·rcases at_ j b hj with ⟨rfl,rfl⟩ |⟨h1,h2⟩
  ·rw [sV];rw [lk] at hl;exact hW.low _ _ last hl
  ·rw [kM h1];rw [lj j b h1] at hl;exact hW.low j b (old j b h2) hl
 ·rcases at_ i bi hi with ⟨rfl,rfl⟩ |⟨h1,h2⟩
  ·rcases at_ j bj hj with ⟨rfl,rfl⟩ |⟨g1,g2⟩
   ·rfl
   ·rw [lk] at li;rw [lj j bj g1] at lj';rw [sV,kM g1] at e
    have:=hW.inj _ j _ bj last (old j bj g2) li lj' pi e
    have:=lt j bj g2;omega
  ·rcases at_ j bj hj with ⟨rfl,rfl⟩ |⟨g1,g2⟩
   ·rw [lj i bi h1] at li;rw [lk] at lj';rw [kM h1,sV] at e
    have:=hW.inj i _ bi _ (old i bi h2) last li lj' pi e
    have:=lt i bi h2;omega
   ·rw [lj i bi h1] at li;rw [lj j bj g1] at lj';rw [kM h1,kM g1] at e
    exact hW.inj i j bi bj (old i bi h2) (old j bj g2) li lj' pi e
 ·rw [List.length_set]
  rcases at_ j b hj with ⟨rfl,rfl⟩ |⟨h1,h2⟩
  ·exact ⟨gY.Cf sV (λi hi=>kM (λe=>hn.2 (e▸hi))) hn.1 (hW.blk _ _ last).1,hn.1⟩
  ·obtain ⟨q1,q2⟩:=hB j b h2
   exact ⟨gY.Cf (kM h1) (λi hi=>kM (λe=>q2 (e▸hi))) q1 (hW.blk j b (old j b h2)).1,q1⟩
 ·obtain ⟨q1,q2⟩:=hg p hp
  rw [List.length_set];exact ⟨R.Cf _ _ (λj hj=>kM (λe=>q2 (e▸hj))) q1 (hW.gh p hp).1,q1⟩
theorem LQ:∀ {l:List LV}{x:LV}{j:Nat},x∈l→j∈owns x→j∈ownsL l
 |y::ys,x,j,hx,hj=>by
  simp only [ownsL,List.mem_append];rcases List.mem_cons.1 hx with rfl|h
  ·exact .inl hj
  ·exact .inr (LQ h hj)
theorem y7:∀ {l:List LV}{j:Nat},j∈ownsL l→∃x,x∈l∧j∈owns x
 |x::xs,j,h=>by
  simp only [ownsL,List.mem_append] at h;rcases h with h|h
  ·exact ⟨x,by simp,h⟩
  ·obtain ⟨y,h1,h2⟩:=y7 h;exact ⟨y,by simp [h1],h2⟩
 | [],j,h=>by simp [ownsL] at h
theorem lI {x:Operand}{j:Nat}(h:j∈owns (aV G F x)):j∈ownsL F:=by
 cases x with
 |tmp t=>
  simp only [aV] at h;cases ht:F[t]? with
  |none=>simp [List.getD,ht,owns] at h
  |some y=>simp [List.getD,ht] at h;exact LQ (List.mem_of_getElem? ht) h
 |const v=>simp only [aV] at h;split at h<;>simp [owns] at h
 |global g=>simp only [aV] at h;split at h<;>simp [owns] at h
 |func f=>simp [aV,owns,ownsL] at h
theorem y8:∀(l:List Value),ownsL (l.map .v)=[]
 | []=>rfl
 |x::xs=>by simp [ownsL,owns,y8 xs]
theorem vI {x:LV}{cs:List LV}(h:dU x=some cs):∀j,j∈ownsL cs→j∈owns x:=λj hj=>by
 unfold dU at h;split at h
 ·split at h
  ·simp only [Option.some.injEq] at h;subst h;rw [y8] at hj;cases hj
  ·cases h
 ·split at h
  ·simp only [Option.some.injEq] at h;subst h;simpa only [owns] using hj
  ·cases h
 ·cases h
 ·cases h
 ·simp only [Option.some.injEq] at h;subst h;simpa [ownsL] using hj
theorem Gp {d:Option Tmp}{x:LV}{j:Nat}(h:j∈ownsL (fV F d x)):j∈ownsL F∨j∈owns x:=by
 cases d with
 |none=>exact .inl h
 |some t=>
  obtain ⟨y,h1,h2⟩:=y7 h;simp only [fV] at h1;rcases List.mem_or_eq_of_mem_set h1 with e|e
  ·exact .inl (LQ e h2)
  ·subst e;exact .inr h2
theorem ZU {k:Nat}{o:Oper}{lv:LV}{H1:List aZ}(h:(Hq P G F H k o).all (λq=>q=(lv,H1))):(∃cs t,lv=.own k 0∧H1=H.set k ⟨cs,t,.cl,false⟩∧(o6 P G Γ F H o).all (λq=>q=(.own H.length 0,H++[⟨cs,t,.cl,false⟩]))∧∀j,j∈ownsL cs→j∈ownsL F)∨
  ∃(m n:Nat) (e:TypeId) (ty:Ty) (l:List ty.D),lv=.os k m 0 n∧H1=H.set k ⟨[],e,.vec ty l,false⟩∧(o6 P G Γ F H o).all (λq=>q=(.os H.length m 0 n,H++[⟨[],e,.vec ty l,false⟩])):=by
 unfold Hq at h;split at h
 ·rename_i t ho
  split at h
  ·rename_i z hz
   split at h
   ·rename_i cs hcs
    simp only [T.all,Prod.mk.injEq] at h;refine .inl ⟨cs,t,h.1.symm,h.2.symm,?_,λj hj=>?_⟩
    ·unfold o6;simp only [ho,hz,hcs,T.all]
    ·have:=vI hcs j hj;simp [owns] at this
   ·cases h
  ·cases h
 ·rename_i t x ho
  split at h
  ·rename_i cs hcs
   simp only [T.all,Prod.mk.injEq] at h;refine .inl ⟨cs,t,h.1.symm,h.2.symm,?_,λj hj=>lI (vI hcs j hj)⟩
   unfold o6;simp only [ho,hcs,T.all]
  ·cases h
 ·rename_i t n c ho
  split at h
  ·rename_i e ty m by_ n' c' he hn hc
   split at h
   ·rename_i z hz
    split at h
    ·rename_i d hd
     split at h
     ·rename_i hsz
      simp only [T.all,Prod.mk.injEq] at h;obtain ⟨h0,h1,h2⟩:=h;refine .inr ⟨m,n'.toNat,e,ty,List.replicate n'.toNat d,h1.symm,h2.symm,?_⟩;unfold o6;simp only [ho,QO,he,hn,hc,hz,hd,hsz,if_true,T.all];exact ⟨h0,trivial⟩
     ·cases h
    ·cases h
   ·cases h
  ·cases h
 ·cases h
structure aeK (n0:Nat) (done:Nat→Prop) (R:List Nat) (g:Gh):Prop where
 f:∀j,j∈ownsL g.F→j<n0∨∃i,done i∧j=n0+i
 h:∀(k:Nat) (b:aZ),g.H[k]? =some b→∀j,j∈b.owns→j<n0∨∃i,done i∧j=n0+i
 dead:∀i,i∈R→¬done i∧∃b,g.H[n0+i]? =some b
theorem aiD (hΓ:∀g S,Γ g=some S→Valid P G g S) {tr:List Nat}{g:Gh}{o:Oper}{lv:LV}{H1:List aZ}{w':World}{done:Nat→Prop}{R':List Nat}{i:Nat}(hgh:∀p,p∈Z0.gh→okV H.length p.1) (hI:aeK H.length done R' g) (hi:i∈R')
  (hst:fF G g.F tr H.length o=true) {nb:aZ} {lv0:LV} (hop:(o6 P G Γ g.F g.H o).all (λq=>q=(lv0,g.H++[nb]))) (hpn:nb.p=false) (hcs:∀j,j∈nb.owns→j∈ownsL g.F) (hlow:∀n m,okB n nb→(∀j,j∈nb.owns→j<m)→okB m nb)
  (hlv:∀β' Z' w'' v,R β' Z' w'' lv0 v→R (GK β' (H.length+i) g.H.length) Z' w'' lv v) (hlo:∀n,H.length+i<n→okV n lv) (hH1:H1=g.H.set (H.length+i) nb) (hc:yP ds G w0 Z0 tr β H wr g w'):
  dX P (λv w''=>∃g':Gh,yP ds G w0 Z0 tr β H wr g' w''∧g'.F=fV g.F o.dst lv∧g'.H=H1∧g'.a=g.a.put o.dst v) ((execOp g.a.eval o).run P w'):=by
 subst hH1;refine je (λv w'' ⟨Z',β',e1,e2,e3,e4,e5,e6,e7,e8⟩=>?_) (Ap hΓ hc.rw hc.rf hop)
 obtain ⟨hnd,db,hdb⟩:=hI.dead i hi
 have fresh:∀j,(j<H.length∨∃i',done i'∧j=H.length+i')→j≠H.length+i:=λj hj e=>by
  rcases hj with hj|⟨i',hd,e'⟩
  ·omega
  ·have:i'=i:=by omega
   subst this;exact hnd hd
 have hkg:H.length+i<g.H.length:=(List.getElem?_eq_some_iff.1 hdb).1
 have hsz:=hc.near.size
 have hcl:∀j,j∈nb.owns→j<g.H.length:=λj hj=>by
  obtain ⟨x,q1,q2⟩:=y7 (hcs j hj);obtain ⟨t',q3⟩:=List.getElem?_of_mem q1;exact okV_owns x (hc.rf.get t' x q3).2 j q2
 have okcs:okB g.H.length nb:=hlow _ _ (e1.blk g.H.length nb (by simp)).2 hcl
 have hMv:=e1.move (k:=H.length+i) hdb hpn (λj b hj=>⟨(hc.rw.blk j b hj).2,λhm=>fresh _ (hI.h j b hj _ hm) rfl⟩) ⟨okcs,λhm=>fresh _ (hI.f _ (hcs _ hm)) rfl⟩ (λp hp=>⟨okV.mono hc.len _ (hgh p hp),λhm=>by have:=okV_owns _ (hgh p hp) _ hm;omega⟩)
 have hF2:RF ds (GK β' (H.length+i) g.H.length) Z' w'' (g.H.set (H.length+i) nb).length g.F g.a:=by
  rw [List.length_set];refine ⟨hc.rf.size,λt' x hx=>?_,e2.defers⟩
  have q:=hc.rf.get t' x hx
  exact ⟨R.Cf x _ (λj hj=>kM (fresh j (hI.f j (LQ (List.mem_of_getElem? hx) hj)))) q.2 (e2.get t' x hx).1,q.2⟩
 refine ⟨⟨Z',GK β' (H.length+i) g.H.length,g.H.set (H.length+i) nb,fV g.F o.dst lv,g.a.put o.dst v⟩,?_,rfl,rfl,rfl⟩;refine ⟨hMv,hF2.put (hlv _ _ _ _ e3) (hlo _ (by simp only [List.length_set];exact hkg)) o.dst,⟨e8.os.trans hc.near.os,e8.tape.trans hc.near.tape,e8.output.trans hc.near.output,Nat.le_trans hsz e8.size,λk hk hn=>?_⟩,by simp only [List.length_set];exact hc.len,λk hk=>?_,λk h3 h4=>?_,λk b hb=>?_⟩
 ·rw [e8.block k (by omega) λhm=>?_]
  ·exact hc.near.block k hk hn
  ·rcases hc.touch hst hm with h|h
   ·omega
   ·exact hn h
 ·show GK β' (H.length+i) g.H.length k=β k
  rw [kM (by omega),e6 k (Nat.lt_of_lt_of_le hk hc.len)];exact hc.old k hk
 ·show wr.heap.size≤(GK β' (H.length+i) g.H.length k).b∨(GK β' (H.length+i) g.H.length k).b∈GN β H tr
  simp only [List.length_set] at h4
  by_cases hkk:k=H.length+i
  ·subst hkk
   rw [sV];rcases e7 g.H.length (Nat.le_refl _) (by simp) with h|h
   ·exact .inl (by omega)
   ·exact hc.touch hst h
  ·rw [kM hkk,e6 k h4];exact hc.new k h3 h4
 ·have hkl:k<H.length:=(List.getElem?_eq_some_iff.1 hb).1
  obtain ⟨b',q1,q2⟩:=hc.shp k b hb;exact ⟨b',by simp only;rw [List.getElem?_set_ne (by omega)];exact q1,q2⟩
theorem aIS (hΓ:∀g S,Γ g=some S→Valid P G g S) {tr:List Nat}{g:Gh}{o:Oper}{lv:LV}{H1:List aZ}{w':World}{done:Nat→Prop}{R':List Nat}{i:Nat}(hgh:∀p,p∈Z0.gh→okV H.length p.1) (hI:aeK H.length done R' g) (hi:i∈R')
  (hst:fF G g.F tr H.length o=true) (h1:(Hq P G g.F g.H (H.length+i) o).all (λq=>q=(lv,H1))) (hc:yP ds G w0 Z0 tr β H wr g w'):
  dX P (λv w''=>∃g':Gh,yP ds G w0 Z0 tr β H wr g' w''∧g'.F=fV g.F o.dst lv∧g'.H=H1∧g'.a=g.a.put o.dst v) ((execOp g.a.eval o).run P w'):=by
 rcases ZU (Γ:=Γ) h1 with ⟨cs,t,rfl,hH1,hop,hcs⟩ |⟨m,n,e,ty,l,rfl,hH1,hop⟩
 ·refine aiD hΓ hgh hI hi hst hop rfl (λj hj=>?_) (λn m h1 h2=>⟨okL_lower cs h1.1 (λj hj=>h2 j ?_),trivial⟩) (λβ' Z' w'' v hr=>by simp only [R] at hr⊢;rw [sV];exact hr) (λn hn=>hn) hH1 hc
  ·unfold aZ.owns at hj
   simp only [List.append_nil] at hj;exact hcs j hj
  ·unfold aZ.owns
   simp only [List.append_nil];exact hj
 ·refine aiD hΓ hgh hI hi hst hop rfl (λj hj=>?_) (λn m h1 h2=>⟨trivial,trivial⟩) (λβ' Z' w'' v hr=>by simp only [R] at hr⊢;rw [sV];exact hr) (λn hn=>hn) hH1 hc
  unfold aZ.owns at hj
  simp [ownsL] at hj
theorem adF {ops:Array Oper}{o:Oper}{d:Option Tmp}{y:LV}{k:Nat}(ha:yG o=true) (h:∀t,d=some t→t∉o.looksAt ops):Hq P G (fV F d y) H k o=Hq P G F H k o:=by
 have hl:=looks h
 unfold yG at ha;split at ha
 ·rename_i t ho
  unfold Hq;simp only [ho]
 ·rename_i t x ho
  unfold Hq;simp only [ho];rw [dL (hl x (by rw [ho];simp [Op.operands]))]
 ·rename_i t n c ho
  unfold Hq;simp only [ho];rw [dL (hl n (by rw [ho];simp [Op.operands])),dL (hl c (by rw [ho];simp [Op.operands]))]
 ·cases ha
theorem asi {o:Oper}{k:Nat}(ha:yG o=true):∃(p:Prop) (lv:LV) (nb:aZ),∀(H:List aZ) (K:LV×List aZ→Prop),(Hq P G F H k o).all K↔(p∧K (lv,H.set k nb)):=by
 unfold yG at ha;split at ha
 ·rename_i t ho
  unfold Hq;simp only [ho];split
  ·split
   ·rename_i cs _
    exact ⟨True,.own k 0,⟨cs,t,.cl,false⟩,λH K=>by simp only [T.all,true_and]⟩
   ·exact ⟨False,.junk,lJ,λH K=>by simp [T.all]⟩
  ·exact ⟨False,.junk,lJ,λH K=>by simp [T.all]⟩
 ·rename_i t x ho
  unfold Hq;simp only [ho];split
  ·rename_i cs _
   exact ⟨True,.own k 0,⟨cs,t,.cl,false⟩,λH K=>by simp only [T.all,true_and]⟩
  ·exact ⟨False,.junk,lJ,λH K=>by simp [T.all]⟩
 ·rename_i t n c ho
  unfold Hq;simp only [ho];split
  ·split
   ·split
    ·split
     ·exact ⟨_,_,_,λH K=>by simp only [T.all];exact Iff.rfl⟩
     ·exact ⟨False,.junk,lJ,λH K=>by simp [T.all]⟩
    ·exact ⟨False,.junk,lJ,λH K=>by simp [T.all]⟩
   ·exact ⟨False,.junk,lJ,λH K=>by simp [T.all]⟩
  ·exact ⟨False,.junk,lJ,λH K=>by simp [T.all]⟩
 ·cases ha
theorem aci {o:Oper}(hm:V9 o=true):yG o=false∧aqu o=true∧∀G tr n0 (F:List LV),fF G F tr n0 o=true:=by
 unfold V9 at hm;split at hm
 ·rename_i x ho
  simp [yG,aqu,fF,Xg,ho]
 ·rename_i x ho
  simp [yG,aqu,fF,Xg,ho]
 ·cases hm
theorem Yq {ops:Array Oper}{o:Oper}{d:Option Tmp}{y:LV}{n0 i:Nat}(ha:(yG o ||V9 o)=true) (h:∀t,d=some t→t∉o.looksAt ops):spa P G Γ n0 i (fV F d y) H o=spa P G Γ n0 i F H o:=by
 rcases Bool.or_eq_true_iff.1 ha with ha|ha
 ·unfold spa
  rw [if_pos ha,if_pos ha,adF ha h]
 ·obtain ⟨h1,h2,_⟩:=aci ha
  have hl:=looks h
  unfold spa;rw [h1,h2];unfold V9 at ha;split at ha
  ·rename_i x ho
   unfold o6;simp only [ho];rw [dL (hl x (by rw [ho];simp [Op.operands]))]
   rfl
  ·rename_i x ho
   unfold o6;simp only [ho];rw [dL (hl x (by rw [ho];simp [Op.operands]))]
   rfl
  ·cases ha
def putAt (k:Nat) (nb:Option aZ) (H:List aZ):List aZ:=
 match nb with
 |some b=>H.set k b
 |none=>H
theorem abw {i j:Nat}{a b:Option aZ}{H:List aZ}(h:i≠j):putAt i a (putAt j b H)=putAt j b (putAt i a H):=by
 cases a<;>cases b<;>simp only [putAt]
 exact List.set_comm _ _ (Ne.symm h)
theorem afQ {o:Oper}{n0 i:Nat}(ha:(yG o ||V9 o)=true):∃(p:Prop) (lv:LV) (nb:Option aZ),∀(H:List aZ) (K:LV×List aZ→Prop),(spa P G Γ n0 i F H o).all K↔(p∧K (lv,putAt (n0+i) nb H)):=by
 rcases Bool.or_eq_true_iff.1 ha with ha|ha
 ·obtain ⟨p,lv,nb,h⟩:=asi (P:=P) (G:=G) (F:=F) (k:=n0+i) ha
  refine ⟨p,lv,some nb,λH K=>?_⟩
  unfold spa;rw [if_pos ha];exact h H K
 ·obtain ⟨h1,h2,_⟩:=aci ha
  unfold V9 at ha;split at ha
  ·rename_i x ho
   refine ⟨True,aV G F x,none,λH K=>?_⟩
   unfold spa o6;rw [h1,h2]
   simp [ho,T.all,putAt]
  ·rename_i x ho
   refine ⟨True,aV G F x,none,λH K=>?_⟩
   unfold spa o6;rw [h1,h2]
   simp [ho,T.all,putAt]
  ·cases ha
theorem aiT {o:Oper}{tr:List Nat}{n0:Nat}(ha:(yG o ||V9 o)=true) (F:List LV):fF G F tr n0 o=true:=by
 rcases Bool.or_eq_true_iff.1 ha with ha|ha
 ·exact BO (.inl ha)
 ·exact (aci ha).2.2 G tr n0 F
theorem aor {ops:Array Oper}{tr:List Nat}{n0:Nat}{i j:Nat}{is:List Nat}{K:List LV×List aZ→Prop}(hc:aiC ops i j=true) (h:(p2a P G Γ ops tr n0 (j::i::is) F H).all K):(p2a P G Γ ops tr n0 (i::j::is) F H).all K:=by
 unfold aiC at hc;split at hc
 ·rename_i x y hx hy
  simp only [Bool.and_eq_true,Bool.not_eq_true',beq_eq_false_iff_ne] at hc;obtain ⟨⟨⟨⟨⟨hne,g1⟩,g2⟩,g3⟩,g4⟩,hap⟩:=hc;obtain ⟨a1,a2,a3⟩:=Oper.apart_spec hap
  have sx:∀F:List LV,fF G F tr n0 x=true:=aiT g3
  have sy:∀F:List LV,fF G F tr n0 y=true:=aiT g4
  simp only [p2a,hx,hy,g1,g2,sx,sy,Bool.and_self,if_true] at h⊢;obtain ⟨px,lx,nx,ex⟩:=afQ (P:=P) (G:=G) (Γ:=Γ) (F:=F) (n0:=n0) (i:=i) g3;obtain ⟨py,ly,ny,ey⟩:=afQ (P:=P) (G:=G) (Γ:=Γ) (F:=F) (n0:=n0) (i:=j) g4;rw [T.all_bind,ey] at h;obtain ⟨h1,h2⟩:=h;rw [T.all_bind,Yq g3 a3,ex] at h2;obtain ⟨h3,h4⟩:=h2;rw [T.all_bind,ex];refine ⟨h3,?_⟩;rw [T.all_bind,Yq g4 a1,ey];refine ⟨h1,?_⟩;simp only at h4⊢;rw [lX a2,abw (show n0+j≠n0+i by omega)]
  exact h4
 ·cases hc
theorem aos {ops:Array Oper}{tr:List Nat}{n0:Nat}{j:Nat}{R R':List Nat}{K:List LV×List aZ→Prop}(hh:∀(F:List LV) (H:List aZ),(p2a P G Γ ops tr n0 R F H).all K→(p2a P G Γ ops tr n0 R' F H).all K) (h:(p2a P G Γ ops tr n0 (j::R) F H).all K):(p2a P G Γ ops tr n0 (j::R') F H).all K:=by
 simp only [p2a] at h⊢;split at h
 ·split at h
  ·rename_i hg
   rw [if_pos hg];rw [T.all_bind] at h⊢;exact T.bQ (λq hq=>hh _ _ hq) h
  ·cases h
 ·cases h
theorem QH {ops:Array Oper}{tr:List Nat}{n0:Nat}{i:Nat}{K:List LV×List aZ→Prop}:∀(R:List Nat) (F:List LV) (H:List aZ),i∈R→(yH i R).all (λj=>aiC ops i j)=true→(p2a P G Γ ops tr n0 R F H).all K→(p2a P G Γ ops tr n0 (i::R.erase i) F H).all K
 | [],_,_,hi,_,_=>by cases hi
 | j::R,F,H,hi,hb,h=>by
  by_cases hj:j=i
  ·subst hj
   simpa using h
  ·have hi':i∈R:=by
    rcases List.mem_cons.1 hi with e|e
    ·exact absurd e.symm hj
    ·exact e
   simp only [yH,if_neg hj,List.all_cons,Bool.and_eq_true] at hb;rw [List.erase_cons_tail (by simpa using hj)]
   exact aor hb.1 (aos (λF H h=>QH R F H hi' hb.2 h) h)
theorem DI {i:Nat}:∀ {R:List Nat},vS R=true→∀i'∈R.erase i,i'≠i
 | [],_,_,h=>by simp at h
 | k::R,hn,i',h=>by
  simp only [vS,Bool.and_eq_true,Bool.not_eq_true'] at hn
  by_cases hk:k=i
  ·subst hk
   simp only [List.erase_cons_head] at h
   rintro rfl
   have:i'∉R:=by simpa using hn.1
   exact this h
  ·rw [List.erase_cons_tail (by simpa using hk)] at h
   rcases List.mem_cons.1 h with rfl|h
   ·exact hk
   ·exact DI hn.2 i' h
theorem Md {i:Nat}:∀ {R:List Nat},vS R=true→vS (R.erase i)=true
 | [],_=>by simp [vS]
 | k::R,hn=>by
  simp only [vS,Bool.and_eq_true,Bool.not_eq_true'] at hn
  by_cases hk:k=i
  ·subst hk;simpa using hn.2
  ·rw [List.erase_cons_tail (by simpa using hk)]
   simp only [vS,Bool.and_eq_true,Bool.not_eq_true'];refine ⟨?_,Md hn.2⟩
   have:k∉R:=by simpa using hn.1
   have:k∉R.erase i:=λh=>this (List.mem_of_mem_erase h)
   simpa using this
theorem H8 {l cs:List LV}{off:Nat}{j:Nat}(h:j∈ownsL (setAt l off cs)):j∈ownsL l∨j∈ownsL cs:=by
 obtain ⟨x,h1,h2⟩:=y7 h;unfold setAt at h1;rcases List.mem_append.1 h1 with h1|h1
 ·rcases List.mem_append.1 h1 with h1|h1
  ·exact .inl (LQ (List.mem_of_mem_take h1) h2)
  ·exact .inr (LQ h1 h2)
 ·exact .inl (LQ (List.mem_of_mem_drop h1) h2)
theorem X9 {t:TypeId}{x y:LV}{H1:List aZ}(h:(BI P H t x y).all (λq=>q=H1)):∃(k:Nat) (b nb:aZ),H[k]? =some b∧H1=H.set k nb∧∀j,j∈nb.owns→j∈b.owns∨j∈owns y:=by
 unfold BI at h;split at h
 ·rename_i n cs hn hcs
  split at h
  ·rename_i k off
   split at h
   ·rename_i b hb
    split at h
    ·rename_i hc
     simp only [T.all] at h;refine ⟨k,b,_,hb,h.symm,λj hj=>?_⟩
     have hcl:b.k=.cl:=by
      have:=hc.1
      unfold aZ.rO at this;split at this
      ·assumption
      ·cases this
     unfold aZ.owns at hj⊢;simp only [hcl,List.append_nil] at hj⊢;rcases H8 hj with h|h
     ·exact .inl h
     ·exact .inr (vI hcs j h)
    ·cases h
   ·cases h
  ·rename_i k es i j
   split at h
   ·rename_i bt e l hb
    split at h
    ·simp only [T.all] at h
     obtain ⟨_,h⟩:=h;split at h
     ·simp only [T.all] at h
      refine ⟨k,_,_,hb,h.symm,λj hj=>?_⟩
      unfold aZ.owns at hj
      simp [ownsL] at hj
     ·cases h
    ·cases h
   ·cases h
  ·cases h
 ·cases h
theorem QJ {x:LV}:owns (norm x)=owns x:=by cases x<;>simp [norm,owns]
theorem LU:∀(l:List LV),ownsL (l.map norm)=ownsL l
 | []=>rfl
 |x::xs=>by simp only [List.map_cons,ownsL,QJ,LU xs]
theorem ack {l:List LV}{j:Nat}(h:j∈owns (vC l)):j∈ownsL l:=by
 unfold vC at h;split at h
 ·simp [owns] at h
 ·simp only [owns,LU] at h;exact h
theorem NM {place:Nat→Option (Nat×Nat)}:∀(parts:List (Nat×LV)) (cells cs:List LV),Bo place cells parts=some cs→∀j,j∈ownsL cs→j∈ownsL cells∨∃q,q∈parts∧j∈owns q.2
 | [],cells,cs,h,j,hj=>by simp only [Bo,Option.some.injEq] at h;subst h;exact .inl hj
 | (i,x)::rest,cells,cs,h,j,hj=>by
  simp only [Bo] at h;split at h
  ·rename_i off size c hp hc
   split at h
   ·rcases NM rest _ cs h j hj with h1|⟨q,q1,q2⟩
    ·rcases H8 h1 with h2|h2
     ·exact .inl h2
     ·exact .inr ⟨(i,x),by simp,vI hc j h2⟩
    ·exact .inr ⟨q,by simp [q1],q2⟩
   ·cases h
  ·cases h
theorem Zy {t:TypeId}{parts:List (Nat×LV)}{lv:LV}(h:(Hl P t parts).all (λz=>z=lv)) (j:Nat) (hj:j∈owns lv):∃q,q∈parts∧j∈owns q.2:=by
 unfold Hl at h;split at h
 ·split at h
  ·rename_i z pf _ _ cs hcs
   simp only [T.all] at h
   have hj':j∈ownsL cs:=by
    rw [←h] at hj;split at hj
    ·exact hj
    ·exact ack hj
   rcases NM parts _ cs hcs j hj' with h1|h1
   ·rw [y8] at h1;cases h1
   ·exact h1
  ·cases h
 ·cases h
theorem adf {x:Operand}{j:Nat}(h:j∈owns (IA G F x)):j∈ownsL F:=by
 cases x with
 |const v=>simp only [IA,QJ] at h;exact lI h
 |tmp t=>exact lI (G:=G) (x:=.tmp t) h
 |global g=>exact lI (G:=G) (x:=.global g) h
 |func f=>exact lI (G:=G) (x:=.func f) h
theorem aqx {n0:Nat}{done:Nat→Prop}{R:List Nat}{g g':Gh}{o:Oper}{i:Nat}{lv:LV}{H1:List aZ}(hI:aeK n0 done R g) (hnd:∀i'∈R.erase i,i'≠i) (hs:(spa P G Γ n0 i g.F g.H o).all (λq=>q=(lv,H1))) (eF:g'.F=fV g.F o.dst lv) (eH:g'.H=H1):aeK n0 (λi'=>done i'∨i'=i) (R.erase i) g':=by
 have up:∀j,(j<n0∨∃i',done i'∧j=n0+i')→j<n0∨∃i',(done i'∨i'=i)∧j=n0+i':=λj h=>by
  rcases h with h|⟨i',h1,h2⟩
  ·exact .inl h
  ·exact .inr ⟨i',.inl h1,h2⟩
 unfold spa at hs;split at hs
 ·have al:∀nb:aZ,owns lv=[n0+i]→H1=g.H.set (n0+i) nb→(∀j,j∈nb.owns→j∈ownsL g.F)→aeK n0 (λi'=>done i'∨i'=i) (R.erase i) g':=λnb ho hH1 hcs=>by
   subst hH1;refine ⟨λj hj=>?_,λk b hb j hj=>?_,λi' hi'=>?_⟩
   ·rw [eF] at hj
    rcases Gp hj with h|h
    ·exact up j (hI.f j h)
    ·rw [ho] at h;simp at h;subst h;exact .inr ⟨i,.inr rfl,rfl⟩
   ·rw [eH,List.getElem?_set] at hb
    split at hb
    ·split at hb
     ·simp only [Option.some.injEq] at hb
      subst hb;exact up j (hI.f j (hcs j hj))
     ·cases hb
    ·exact up j (hI.h k b hb j hj)
   ·obtain ⟨h1,b,h2⟩:=hI.dead i' (List.mem_of_mem_erase hi')
    refine ⟨λh=>h.elim h1 (hnd i' hi'),b,?_⟩
    rw [eH,List.getElem?_set_ne (by have:=hnd i' hi';omega)];exact h2
  rcases ZU (Γ:=Γ) hs with ⟨cs,t,rfl,hH1,_,hcs⟩ |⟨m,n,e,ty,l,rfl,hH1,_⟩
  ·exact al _ rfl hH1 (λj hj=>by
    unfold aZ.owns at hj;simp only [List.append_nil] at hj;exact hcs j hj)
  ·exact al _ rfl hH1 (λj hj=>by
    unfold aZ.owns at hj
    simp [ownsL] at hj)
 ·split at hs
  ·rename_i hst
   have other:∀(x:LV),lv=x→H1=g.H→(∀j,j∈owns x→j∈ownsL g.F)→aeK n0 (λi'=>done i'∨i'=i) (R.erase i) g':=λx e1 e2 e3=>by
    subst e1 e2;refine ⟨λj hj=>?_,λk b hb j hj=>?_,λi' hi'=>?_⟩
    ·rw [eF] at hj
     rcases Gp hj with h|h
     ·exact up j (hI.f j h)
     ·exact up j (hI.f j (e3 j h))
    ·rw [eH] at hb;exact up j (hI.h k b hb j hj)
    ·obtain ⟨h1,b,h2⟩:=hI.dead i' (List.mem_of_mem_erase hi')
     exact ⟨λh=>h.elim h1 (hnd i' hi'),b,by rw [eH];exact h2⟩
   unfold aqu at hst;split at hst
   ·rename_i t x y ho
    unfold o6 at hs;simp only [ho] at hs;obtain ⟨H2,h1,h2⟩:=T.bF hs;simp only [T.all,Prod.mk.injEq] at h2;obtain ⟨rfl,rfl⟩:=h2;obtain ⟨k,b,nb,q1,q2,q3⟩:=X9 h1;subst q2;refine ⟨λj hj=>?_,λk' b' hb j hj=>?_,λi' hi'=>?_⟩
    ·rw [eF] at hj
     rcases Gp hj with h|h
     ·exact up j (hI.f j h)
     ·simp [owns] at h
    ·rw [eH,List.getElem?_set] at hb
     split at hb
     ·split at hb
      ·simp only [Option.some.injEq] at hb
       subst hb;rcases q3 j hj with h|h
       ·exact up j (hI.h k b q1 j h)
       ·exact up j (hI.f j (lI h))
      ·cases hb
     ·exact up j (hI.h k' b' hb j hj)
    ·obtain ⟨h1,b0,h2⟩:=hI.dead i' (List.mem_of_mem_erase hi')
     refine ⟨λh=>h.elim h1 (hnd i' hi'),?_⟩
     rw [eH]
     have hlt:=(List.getElem?_eq_some_iff.1 h2).1
     exact ⟨_,List.getElem?_eq_getElem (by rw [List.length_set];exact hlt)⟩
   ·rename_i x ho
    unfold o6 at hs;simp only [ho,T.all,Prod.mk.injEq] at hs;exact other _ hs.1.symm hs.2.symm (λj hj=>lI hj)
   ·rename_i x ho
    unfold o6 at hs;simp only [ho,T.all,Prod.mk.injEq] at hs;exact other _ hs.1.symm hs.2.symm (λj hj=>lI hj)
   ·rename_i t parts ho
    unfold o6 at hs;simp only [ho] at hs;obtain ⟨y,h1,h2⟩:=T.bF hs;simp only [T.all,Prod.mk.injEq] at h2;refine other _ h2.1.symm h2.2.symm (λj hj=>?_)
    obtain ⟨q,q1,q2⟩:=Zy h1 j hj;obtain ⟨q0,_,rfl⟩:=List.mem_map.1 q1;exact adf q2
   ·cases hst
  ·cases hs
theorem Rq (hΓ:∀g S,Γ g=some S→Valid P G g S) {ops:Array Oper}{tr:List Nat}{D:World→Prop}{sp:Nat→Bool}{Q:Act→Gh→Prop}{F':List LV}{H':List aZ}(hgh:∀p,p∈Z0.gh→okV H.length p.1)
  (hQ:∀g:Gh,g.F=F'→g.H=H'→Q g.a g):∀(n:Nat) (R:List Nat) (listed:Array Bool) (g:Gh) (done:Nat→Prop),vS R=true→aeK H.length done R g→(∀i∈R,sp i=true)→aow ops n R listed=true→
   (p2a P G Γ ops tr H.length R g.F g.H).all (λq=>q=(F',H'))→rJ P .any ops D (yP ds G w0 Z0 tr β H wr) sp Q n listed g.a g
 |0,R,listed,g,_,_,_,_,hB,h=>by
  simp only [aow,Bool.and_eq_true,List.isEmpty_iff] at hB;obtain ⟨rfl,h2⟩:=hB;simp only [p2a,T.all,Prod.mk.injEq] at h;exact ⟨h2,hQ g h.1 h.2⟩
 | n +1,R,listed,g,done,hnd,hI,hs,hB,h=>by
  simp only [aow,Bool.and_eq_true,List.all_eq_true,Bool.not_eq_true',List.isEmpty_eq_false_iff] at hB;obtain ⟨hne,hall⟩:=hB;refine ⟨λh0=>absurd h0 hne,λi hi=>?_⟩
  obtain ⟨⟨hR,hbef⟩,hrest⟩:=hall i hi
  have hiR:i∈R:=by simpa using hR
  have hf:=QH R g.F g.H hiR (by rw [List.all_eq_true];exact hbef) h
  simp only [p2a] at hf;split at hf
  ·rename_i o ho
   split at hf
   ·rename_i hgs
    simp only [Bool.and_eq_true,Option.isNone_iff_eq_none] at hgs;obtain ⟨hgd,hst⟩:=hgs
    have hw:Region.wanted o (yielded ops g.a.tmps)=true:=by simp [Region.wanted,hgd]
    unfold Iu;simp only [ho,hw,if_true,hs i hiR];obtain ⟨⟨lv,H1⟩,h1,h2⟩:=T.bF hf
    have hne2:∀i'∈R.erase i,i'≠i:=DI hnd
    intro w' hc
    have goal:dX P (λv w''=>∃g':Gh,yP ds G w0 Z0 tr β H wr g' w''∧g'.F=fV g.F o.dst lv∧g'.H=H1∧g'.a=g.a.put o.dst v) ((execOp g.a.eval o).run P w'):=by
     unfold spa at h1;split at h1
     ·exact aIS hΓ hgh hI hiR hst h1 hc
     ·split at h1
      ·exact NT hΓ hst h1 hc
      ·cases h1
    refine je (λv w'' ⟨g',e1,e2,e3,e4⟩=>⟨g',e1,?_⟩) goal
    rw [←e4];refine Rq hΓ hgh hQ n (R.erase i) _ g' (λi'=>done i'∨i'=i) (Md hnd) (aqx hI hne2 h1 e2 e3) (λj hj=>hs j (List.mem_of_mem_erase hj)) hrest ?_
    rw [e2,e3];exact h2
   ·cases hf
  ·cases hf
theorem RW.aNT {βd:Nat→Loc}{m:Nat}(hW:RW G w0 Z0 Z β H w) (hd:∀k,k<H.length→βd k=β k):RW G w0 Z0 Z βd (H++List.replicate m lJ) w:=by
 have old:∀(k:Nat) (b:aZ),(H++List.replicate m lJ)[k]? =some b→(k<H.length∧H[k]? =some b)∨b=lJ:=λk b hb=>by
  by_cases h0:k<H.length
  ·rw [List.getElem?_append_left h0] at hb;exact .inl ⟨h0,hb⟩
  ·rw [List.getElem?_append_right (by omega),List.getElem?_replicate] at hb
   split at hb
   ·simp only [Option.some.injEq] at hb;exact .inr hb.symm
   ·cases hb
 have nl:∀k,¬live βd k lJ:=λk h=>by simp [live,lJ] at h
 refine ⟨hW.below,hW.oN,hW.wB,λk b hk hl hp=>?_,λk b hk hl hp=>?_,λk b hk hl=>?_,λi j bi bj hi hj li lj pi e=>?_,λk b hk=>?_,hW.jJ,λp hp=>⟨R.mono hd (λ_ h=>h) (λ_ _=>rfl) _ _ (hW.gh p hp).2 (hW.gh p hp).1,okV.mono (by simp) _ (hW.gh p hp).2⟩,hW.vw⟩
 ·rcases old k b hk with ⟨h1,h2⟩ |rfl
  ·rw [hd k h1];rw [l9 (hd k h1)] at hl;exact hW.mX k b h2 hl hp
  ·exact absurd hl (nl k)
 ·rcases old k b hk with ⟨h1,h2⟩ |rfl
  ·rw [hd k h1];rw [l9 (hd k h1)] at hl;exact hW.yE k b h2 hl hp
  ·exact absurd hl (nl k)
 ·rcases old k b hk with ⟨h1,h2⟩ |rfl
  ·rw [hd k h1];rw [l9 (hd k h1)] at hl;exact hW.low k b h2 hl
  ·exact absurd hl (nl k)
 ·rcases old i bi hi with ⟨h1,h2⟩ |rfl
  ·rcases old j bj hj with ⟨g1,g2⟩ |rfl
   ·rw [l9 (hd i h1)] at li;rw [l9 (hd j g1)] at lj;rw [hd i h1,hd j g1] at e
    exact hW.inj i j bi bj h2 g2 li lj pi e
   ·exact absurd lj (nl j)
  ·exact absurd li (nl i)
 ·rcases old k b hk with ⟨h1,h2⟩ |rfl
  ·obtain ⟨g1,g2⟩:=hW.blk k b h2
   exact ⟨g1.keep hd (λ_ h=>h) (λ_ _=>rfl) (hd k h1) (λ_=>rfl) g2,g2.mono (by simp)⟩
  ·exact ⟨by simp [gY,lJ],trivial,trivial⟩
theorem Zt (hΓ:∀g S,Γ g=some S→Valid P G g S) {ops:Array Oper} {Q:Exit→Act→World→Prop} {F':List LV} {H':List aZ} (hQ:∀Z' β' a' w',RW G w0 Z0 Z' β' H' w'→RF ds β' Z' w' H'.length F' a'→Q .normal a' w')
  (hW0:RW G w0 Z0 Z β H w) (hF0:RF ds β Z w H.length F a) (h:(aiy P G Γ ops F H).all (λq=>q=(F',H'))) (r:Option Nat) (m:Nat):P.follows .mixedOrders=true∧wpAnyIn (Q8 r) m P .any ops Q ops.size (Array.replicate ops.size false) a {w with drawn:=w.drawn+1}:=by
 unfold aiy at h;simp only at h;split at h
 ·rename_i hc
  simp only [Bool.and_eq_true] at hc;obtain ⟨⟨hcalm,hmix⟩,htr0⟩:=hc;generalize hfl:D7 _ [] ops.toList=flags at h hcalm;generalize htrd:tracked H ops.toList F=tr at h htr0
  have htr:∀k∈tr,k<H.length:=λk hk=>by simpa using List.all_eq_true.1 htr0 k hk
  obtain ⟨⟨F1,H1⟩,h1,h2⟩:=T.bF h
  have hk:=tH (P:=P) (G:=G) (Γ:=Γ) (H:=H) (tr:=tr) (Hm:=jc tr 0 H) (F0:=F) flags ops.toList F (λ_ h=>h) ⟨rfl,λ_ _=>rfl⟩
  obtain ⟨⟨F2,H2⟩,g1,g2,g3⟩:=jb hk h1
  have hH2:H2=H:=(T.zo hk g1).2.2
  subst hH2
  have hbd:Below w.heap.size w {w with drawn:=w.drawn+1}:=⟨rfl,rfl,rfl,Nat.le_refl _,λ_ _=>rfl⟩
  have hW:=hW0.same hbd
  have hF:RF ds β Z {w with drawn:=w.drawn+1} H2.length F a:=hF0.mono (Nat.le_refl _) (λ_ _=>rfl) (λ_ h=>h) (λ_ _=>rfl)
  have hflen:flags.length=ops.toList.length:=by
   unfold aiF at hcalm;simp only [Bool.and_eq_true,beq_iff_eq] at hcalm
   simpa using hcalm.1.1.2
  have hops:ops=ops.toList.toArray:=by simp
  have hshp0:Shp tr β H2 {w with drawn:=w.drawn+1}:=λk b _ hb hcl=>by
   obtain ⟨_,⟨cs,f2,f3⟩,_⟩:=Oe hW hb hcl;refine ⟨cs,f2,?_⟩
   have:=RL.length f3
   simpa using this
  refine ⟨hmix,?_⟩;rw [hops]
  refine Xm (P:=P) (G:=Gh) (D:=λw'=>qP (GN β H2 tr) {w with drawn:=w.drawn+1} w'∧Below w0.heap.size w0 w'∧Shp tr β H2 w') (C:=λg w'=>yP ds G w0 Z0 tr β H2 {w with drawn:=w.drawn+1} g w') flags ⟨Z,β,H2,F,a⟩ (by rw [←hops];exact hcalm) (λg w' hc=>⟨hc.near,hc.rw.below,hc.shape⟩) (λg w1 w2 hc hb=>hc.keep hb)
   ⟨hW,hF,qP.refl _ _,Nat.le_refl _,λ_ _=>rfl,λk k1 k2=>absurd k2 (Nat.not_lt.2 k1),EvL.refl _⟩ ?_
  rw [←hops]
  have hlm:(jc tr 0 H2).length=H2.length:=kW tr H2 0
  have hDm:∀w',(qP (GN β H2 tr) {w with drawn:=w.drawn+1} w'∧Below w0.heap.size w0 w'∧Shp tr β H2 w')→RW G w0 Z0 Z β (jc tr 0 H2) w'∧∀b,(Z b∨∃k bk,(jc tr 0 H2)[k]? =some bk∧live β k bk∧tr.contains k=false∧b=(β k).b)→w'.heap[b]? =({w with drawn:=w.drawn+1}:World).heap[b]? :=λw' ⟨d1,d2,d3⟩=>by
   refine ⟨hW.mask d1 d2 d3,λb hb=>?_⟩
   rcases hb with hb|⟨k,bk,hk1,hk2,hk3,rfl⟩
   ·exact d1.block b (hW.oN b hb) (hW.xN hb)
   ·have hkt:k∉tr:=by simpa using hk3
    rw [uh] at hk1;cases hH:H2[k]? with
    |none=>simp [hH] at hk1
    |some b0=>
     simp only [hH,Option.map_some,Option.some.injEq,Nat.zero_add] at hk1;rw [if_neg (by simpa using hkt)] at hk1
     subst hk1;exact d1.block _ (hW.lt hH hk2) (hW.Aw hH hk2 hkt)
  refine wL (H:=H2) (HH:=H2) (F':=F2) hΓ hlm (hW.mask (qP.refl _ _) hW.below hshp0) hDm (λa1 hF1=>?_) flags ops.toList F a hflen hF g1
  have hF1':=g3 _ _ _ _ _ _ hF1
  refine CY (Q':=λa' w'=>Q .normal a' w') (g1:=⟨Z,β,H2,F1,a1⟩) (λw' hc=>?_) flags ops.toList a1 ?_
  ·refine ⟨hc.rw,?_,hc.near,hc.len,hc.old,hc.new,hc.shp⟩
   exact hF1'.mono (Nat.le_refl _) (λ_ _=>rfl) (λ_ h=>h) (λb hz=>hc.near.block b (hW.oN b hz) (hW.xN hz))
  ·exact DC (H:=H2) (F':=F') (H':=H') hΓ (λg e1 e2 w' hc=>hQ g.Z g.β g.a w' (by rw [←e2];exact hc.rw) (by rw [←e1,←e2];exact hc.rf)) flags ops.toList ⟨Z,β,H2,F1,a1⟩ hflen ⟨_,hW,hF1',qP.refl _ _,Nat.le_refl _,λ_ _=>rfl,λk k1 k2=>absurd k2 (Nat.not_lt.2 k1),EvL.refl _⟩ h2
 ·split at h
  ·rename_i hc
   simp only [Bool.and_eq_true] at hc;obtain ⟨⟨hcalm,hmix⟩,htr0⟩:=hc;unfold arR at hcalm;simp only [Bool.and_eq_true,Bool.or_eq_true] at hcalm;obtain ⟨hcalm,hord⟩:=hcalm
   replace hord:=hord.elim aG8 id
   generalize hfl:D7 _ [] ops.toList=flags at h hcalm hord;generalize htrd:tracked H ops.toList F=tr at h htr0
   have htr:∀k∈tr,k<H.length:=λk hk=>by simpa using List.all_eq_true.1 htr0 k hk
   obtain ⟨⟨F1,H1⟩,h1,h2⟩:=T.bF h
   have hk:=tH (P:=P) (G:=G) (Γ:=Γ) (H:=H) (tr:=tr) (Hm:=jc tr 0 H) (F0:=F) flags ops.toList F (λ_ h=>h) ⟨rfl,λ_ _=>rfl⟩
   obtain ⟨⟨F2,H2⟩,g1,g2,g3⟩:=jb hk h1
   have hH2:H2=H:=(T.zo hk g1).2.2
   subst hH2
   have hbd:Below w.heap.size w {w with drawn:=w.drawn+1}:=⟨rfl,rfl,rfl,Nat.le_refl _,λ_ _=>rfl⟩
   have hW:=hW0.same hbd
   have hF:RF ds β Z {w with drawn:=w.drawn+1} H2.length F a:=hF0.mono (Nat.le_refl _) (λ_ _=>rfl) (λ_ h=>h) (λ_ _=>rfl)
   have hflen:flags.length=ops.toList.length:=by
    unfold G8 at hcalm;simp only [Bool.and_eq_true,beq_iff_eq] at hcalm
    simpa using hcalm.1.1.2
   have hops:ops=ops.toList.toArray:=by simp
   have hshp0:Shp tr β H2 {w with drawn:=w.drawn+1}:=λk b _ hb hcl=>by
    obtain ⟨_,⟨cs,f2,f3⟩,_⟩:=Oe hW hb hcl;refine ⟨cs,f2,?_⟩
    have:=RL.length f3
    simpa using this
   refine ⟨hmix,?_⟩;rw [hops]
   refine CX (P:=P) (G:=Gh) (D:=λw'=>qP (GN β H2 tr) {w with drawn:=w.drawn+1} w'∧Below w0.heap.size w0 w'∧Shp tr β H2 w') (C:=λg w'=>yP ds G w0 Z0 tr β H2 {w with drawn:=w.drawn+1} g w') flags ⟨Z,β,H2,F,a⟩ (by rw [←hops];exact hcalm) (λg w' hc=>⟨hc.near,hc.rw.below,hc.shape⟩) (λg w1 w2 hc hb=>hc.keep hb)
    ⟨hW,hF,qP.refl _ _,Nat.le_refl _,λ_ _=>rfl,λk k1 k2=>absurd k2 (Nat.not_lt.2 k1),EvL.refl _⟩ ?_
   rw [←hops]
   have hlm:(jc tr 0 H2).length=H2.length:=kW tr H2 0
   have hDm:∀w',(qP (GN β H2 tr) {w with drawn:=w.drawn+1} w'∧Below w0.heap.size w0 w'∧Shp tr β H2 w')→RW G w0 Z0 Z β (jc tr 0 H2) w'∧∀b,(Z b∨∃k bk,(jc tr 0 H2)[k]? =some bk∧live β k bk∧tr.contains k=false∧b=(β k).b)→w'.heap[b]? =({w with drawn:=w.drawn+1}:World).heap[b]? :=λw' ⟨d1,d2,d3⟩=>by
    refine ⟨hW.mask d1 d2 d3,λb hb=>?_⟩
    rcases hb with hb|⟨k,bk,hk1,hk2,hk3,rfl⟩
    ·exact d1.block b (hW.oN b hb) (hW.xN hb)
    ·have hkt:k∉tr:=by simpa using hk3
     rw [uh] at hk1;cases hH:H2[k]? with
     |none=>simp [hH] at hk1
     |some b0=>
      simp only [hH,Option.map_some,Option.some.injEq,Nat.zero_add] at hk1;rw [if_neg (by simpa using hkt)] at hk1
      subst hk1;exact d1.block _ (hW.lt hH hk2) (hW.Aw hH hk2 hkt)
   refine wL (H:=H2) (HH:=H2) (F':=F2) hΓ hlm (hW.mask (qP.refl _ _) hW.below hshp0) hDm (λa1 hF1=>?_) flags ops.toList F a hflen hF g1
   have hF1':=g3 _ _ _ _ _ _ hF1
   refine tN (Q':=λa' w'=>Q .normal a' w') (g1:=⟨Z,β,H2,F1,a1⟩) (λw' hc=>?_) _ _ a1 ?_
   ·refine ⟨hc.rw,?_,hc.near,hc.len,hc.old,hc.new,hc.shp⟩
    exact hF1'.mono (Nat.le_refl _) (λ_ _=>rfl) (λ_ h=>h) (λb hz=>hc.near.block b (hW.oN b hz) (hW.xN hz))
   ·exact Iy (H:=H2) (F':=F') (H':=H') hΓ (λg e1 e2 w' hc=>hQ g.Z g.β g.a w' (by rw [←e2];exact hc.rw) (by rw [←e1,←e2];exact hc.rf)) _ (idxs true flags 0) _ ⟨Z,β,H2,F1,a1⟩ (λi hi=>by
     obtain ⟨_,h⟩:=zy true flags 0 i hi;simp only [Nat.sub_zero] at h
     simp [List.getD,h]) hord h2
  ·split at h
   ·rename_i hc
    simp only [Bool.and_eq_true] at hc;obtain ⟨⟨hcalm,hmix⟩,htr0⟩:=hc;unfold alx at hcalm;simp only [Bool.and_eq_true] at hcalm;obtain ⟨⟨⟨hcalm,hnd⟩,hlt⟩,hord⟩:=hcalm;generalize hfl:D7 _ [] ops.toList=flags at h hcalm hord hnd hlt;generalize htrd:tracked H ops.toList F=tr at h htr0
    have htr:∀k∈tr,k<H.length:=λk hk=>by simpa using List.all_eq_true.1 htr0 k hk
    obtain ⟨⟨F1,H1⟩,h1,h2⟩:=T.bF h
    have hk:=tH (P:=P) (G:=G) (Γ:=Γ) (H:=H) (tr:=tr) (Hm:=jc tr 0 H) (F0:=F) flags ops.toList F (λ_ h=>h) ⟨rfl,λ_ _=>rfl⟩
    obtain ⟨⟨F2,H2⟩,g1,g2,g3⟩:=jb hk h1
    have hH2:H2=H:=(T.zo hk g1).2.2
    subst hH2
    have hbd:Below w.heap.size w {w with drawn:=w.drawn+1}:=⟨rfl,rfl,rfl,Nat.le_refl _,λ_ _=>rfl⟩
    have hW:=hW0.same hbd
    have hF:RF ds β Z {w with drawn:=w.drawn+1} H2.length F a:=hF0.mono (Nat.le_refl _) (λ_ _=>rfl) (λ_ h=>h) (λ_ _=>rfl)
    have hflen:flags.length=ops.toList.length:=by
     unfold G8 at hcalm;simp only [Bool.and_eq_true,beq_iff_eq] at hcalm
     simpa using hcalm.1.1.2
    have hops:ops=ops.toList.toArray:=by simp
    have hshp0:Shp tr β H2 {w with drawn:=w.drawn+1}:=λk b _ hb hcl=>by
     obtain ⟨_,⟨cs,f2,f3⟩,_⟩:=Oe hW hb hcl;refine ⟨cs,f2,?_⟩
     have:=RL.length f3
     simpa using this
    refine ⟨hmix,?_⟩;rw [hops]
    refine CX (P:=P) (G:=Gh) (D:=λw'=>qP (GN β H2 tr) {w with drawn:=w.drawn+1} w'∧Below w0.heap.size w0 w'∧Shp tr β H2 w') (C:=λg w'=>yP ds G w0 Z0 tr β H2 {w with drawn:=w.drawn+1} g w') flags ⟨Z,β,H2,F,a⟩ (by rw [←hops];exact hcalm) (λg w' hc=>⟨hc.near,hc.rw.below,hc.shape⟩) (λg w1 w2 hc hb=>hc.keep hb)
     ⟨hW,hF,qP.refl _ _,Nat.le_refl _,λ_ _=>rfl,λk k1 k2=>absurd k2 (Nat.not_lt.2 k1),EvL.refl _⟩ ?_
    rw [←hops]
    have hlm:(jc tr 0 H2).length=H2.length:=kW tr H2 0
    have hDm:∀w',(qP (GN β H2 tr) {w with drawn:=w.drawn+1} w'∧Below w0.heap.size w0 w'∧Shp tr β H2 w')→RW G w0 Z0 Z β (jc tr 0 H2) w'∧∀b,(Z b∨∃k bk,(jc tr 0 H2)[k]? =some bk∧live β k bk∧tr.contains k=false∧b=(β k).b)→w'.heap[b]? =({w with drawn:=w.drawn+1}:World).heap[b]? :=λw' ⟨d1,d2,d3⟩=>by
     refine ⟨hW.mask d1 d2 d3,λb hb=>?_⟩
     rcases hb with hb|⟨k,bk,hk1,hk2,hk3,rfl⟩
     ·exact d1.block b (hW.oN b hb) (hW.xN hb)
     ·have hkt:k∉tr:=by simpa using hk3
      rw [uh] at hk1;cases hH:H2[k]? with
      |none=>simp [hH] at hk1
      |some b0=>
       simp only [hH,Option.map_some,Option.some.injEq,Nat.zero_add] at hk1;rw [if_neg (by simpa using hkt)] at hk1
       subst hk1;exact d1.block _ (hW.lt hH hk2) (hW.Aw hH hk2 hkt)
    refine wL (H:=H2) (HH:=H2) (F':=F2) hΓ hlm (hW.mask (qP.refl _ _) hW.below hshp0) hDm (λa1 hF1=>?_) flags ops.toList F a hflen hF g1
    have hF1':=g3 _ _ _ _ _ _ hF1
    have d1:∀k,k<H2.length→(λk=>if k<H2.length then β k else ⟨w.heap.size,0,none⟩:Nat→Loc) k=β k:=λk hk=>by simp [hk]
    have d2:∀k,H2.length≤k→((λk=>if k<H2.length then β k else ⟨w.heap.size,0,none⟩:Nat→Loc) k).b=w.heap.size:=λk hk=>by simp [Nat.not_lt.2 hk]
    generalize (λk=>if k<H2.length then β k else ⟨w.heap.size,0,none⟩:Nat→Loc)=βd at d1 d2
    refine tN (Q':=λa' w'=>Q .normal a' w') (g1:=⟨Z,βd,H2++List.replicate ops.size lJ,F1,a1⟩) (λw' hc=>?_) _ _ a1 ?_
    ·refine ⟨hc.rw.aNT d1,?_,hc.near,by simp,λk hk=>d1 k hk,λk k1 k2=> .inl (by rw [d2 k k1];exact Nat.le_refl _),EvL.app _ _⟩
     exact hF1'.mono (by simp) d1 (λ_ h=>h) (λb hz=>hc.near.block b (hW.oN b hz) (hW.xN hz))
    ·refine Rq (H:=H2) (F':=F') (H':=H') hΓ (λp hp=>(hW.gh p hp).2) (λg e1 e2 w' hc=>hQ g.Z g.β g.a w' (by rw [←e2];exact hc.rw) (by rw [←e1,←e2];exact hc.rf)) _ (idxs true flags 0) _ ⟨Z,βd,H2++List.replicate ops.size lJ,F1,a1⟩ (λ_=>False) hnd ⟨λj hj=>?_,λk b hb j hj=>?_,λi hi=>⟨λh=>h,?_⟩⟩ (λi hi=>by
      obtain ⟨_,h⟩:=zy true flags 0 i hi;simp only [Nat.sub_zero] at h
      simp [List.getD,h]) hord h2
     ·obtain ⟨x,q1,q2⟩:=y7 hj
      obtain ⟨t',q3⟩:=List.getElem?_of_mem q1;exact .inl (okV_owns x (hF1'.get t' x q3).2 j q2)
     ·by_cases h0:k<H2.length
      ·simp only at hb
       rw [List.getElem?_append_left h0] at hb;exact .inl (apG (hW.blk k b hb).2 j hj)
      ·simp only at hb
       rw [List.getElem?_append_right (by omega),List.getElem?_replicate] at hb
       split at hb
       ·simp only [Option.some.injEq] at hb
        subst hb
        simp [aZ.owns,lJ,ownsL] at hj
       ·cases hb
     ·have hlt':i<ops.size:=by simpa using List.all_eq_true.1 hlt i hi
      exact ⟨_,List.getElem?_eq_getElem (by simp;omega)⟩
   ·cases h
theorem Lm {α:Type}{f:Nat→T α}{n:Int}{p:α→Prop}:∀(m j:Nat),(splitN f n m j).all p→(j:Int)≤n→n<(j:Int)+m→∃i:Nat,n=(i:Int)∧(f i).all p
 |0,j,_,h1,h2=>by omega
 |1,j,h,h1,h2=>⟨j,by omega,h⟩
 |m+2,j,h,h1,h2=>by
  simp only [splitN,T.all] at h
  by_cases e:n=(j:Int)
  ·exact ⟨j,e,h.1 (by simp [e])⟩
  ·exact Lm (m+1) (j+1) (h.2 (by simpa using e)) (by omega) (by omega)
theorem Uf {ops:List Oper}{s len:Nat}{k:IntKind}{n:Int}(h:Ug P ops F=some (s,k,n,len)):F.getD s .junk=.v (.int k n):=by
 unfold Ug at h;split at h
 ·obtain ⟨o,_,ho⟩:=List.exists_of_findSome?_eq_some h
  split at ho
  ·split at ho
   ·split at ho
    ·rename_i hx
     simp only [Option.some.injEq,Prod.mk.injEq] at ho;obtain ⟨rfl,rfl,rfl,rfl⟩:=ho;exact hx
    ·cases ho
   ·cases ho
  ·cases ho
 ·cases h
theorem aly (hΓ:∀g S,Γ g=some S→Valid P G g S) {ops:Array Oper}{Q:Exit→Act→World→Prop}{F':List LV}{H':List aZ}(hQ:∀Z' β' a' w',RW G w0 Z0 Z' β' H' w'→RF ds β' Z' w' H'.length F' a'→Q .normal a' w')
  (hW0:RW G w0 Z0 Z β H w) (hF0:RF ds β Z w H.length F a) (h:(aix P G Γ ops F H).all (λq=>q=(F',H'))) (r:Option Nat) (m:Nat):P.follows .mixedOrders=true∧wpAnyIn (Q8 r) m P .any ops Q ops.size (Array.replicate ops.size false) a {w with drawn:=w.drawn+1}:=by
 unfold aix at h;split at h
 ·rename_i s k n len hs
  simp only [T.all] at h;obtain ⟨⟨h0,h1⟩,h2⟩:=h;obtain ⟨i,hi,h3⟩:=Lm len 0 h2 (by omega) (by omega)
  have hx:=Uf hs
  obtain ⟨s1,s2⟩:=hF0.slot hx (by simp)
  have hv:=(hF0.get s _ s1).1
  simp only [R] at hv;exact Zt hΓ hQ hW0 (hF0.know (lv:=.ki k i) (by simp only [R];rw [hv,hi]) trivial) h3 r m
 ·exact Zt hΓ hQ hW0 hF0 h r m
theorem Zq (hΓ:∀g S,Γ g=some S→Valid P G g S) {id:Nat}{ops:Array Oper}{Q:Exit→Act→World→Prop}{F':List LV}{H':List aZ}(hQ:∀Z' β' a' w',RW G w0 Z0 Z' β' H' w'→RF ds β' Z' w' H'.length F' a'→Q .normal a' w')
  (hW0:RW G w0 Z0 Z β H w) (hF0:RF ds β Z w H.length F a) (h:(aix P G Γ ops F H).all (λq=>q=(F',H'))) (r:Option Nat) (m:Nat):(Code.region id ops true).wpIn (Q8 r) m P Q a w:=
 have h1:=aly hΓ hQ hW0 hF0 h r m
 wpIn_region_any h1.1 h1.2
theorem Zr {K:Hand}(hΓ:∀g S,Γ g=some S→Valid P G g S) (hK:dn P G K) {id:Nat}{ops:Array Oper}{Q:Exit→Act→World→Prop}{F':List LV}{H':List aZ}(hQ:∀Z' β' a' w',RW G w0 Z0 Z' β' H' w'→RF ds β' Z' w' H'.length F' a'→Q .normal a' w')
  (hW0:RW G w0 Z0 Z β H w) (hF0:RF ds β Z w H.length F a) (h:(aC3 P G Γ K ops F H).all (λq=>q=(F',H'))) (r:Option Nat) (m:Nat):(Code.region id ops true).wpIn (Q8 r) m P Q a w:=Zq hΓ hQ hW0 hF0 h r m
end Go.Sx
namespace Go.Sx
open Go Go.RowKit Go.Proofs.YtlihnbimgclogaaGreatDoor
variable {P : Program} {G : dI} {Γ : Specs} {K : Hand} {A : Gz → Prop} {β : Nat → Loc} {Z : Nat → Prop} {Z0 : Gz} {w w0 : World} {F : List LV} {H : List aZ} {a : Act} {ds : List Deferred} {n : Nat}
def aIx:Ex→Exit
 | .normal=> .normal
 | .exit n=> .exit n
 | .ret=> .ret
structure Pv (w0:World) (Z0:Gz) (ds:List Deferred):Prop where
 new:∀D,kN D∈ds→w0.heap.size≤D∧D∉Z0.vw
 nodup:ds.Nodup
theorem Pv.nil {w0:World}{Z0:Gz}:Pv w0 Z0 []:=⟨λ_ h=>(by cases h),List.nodup_nil⟩
def bC (P:Program) (G:dI) (A:Gz→Prop) (c:Code) (t:List LV→List aZ→T (Ex×List LV×List aZ)):Prop:=
 ∀(r:Option Nat) (w0:World) (Z0:Gz) (Z:Nat→Prop) (β:Nat→Loc) (F:List LV) (H:List aZ) (a:Act) (w:World) (ds:List Deferred) (Q:Exit→Act→World→Prop) (x:Ex) (F':List LV) (H':List aZ),
  A Z0→(r=none∨BP c=true)→Pv w0 Z0 ds→RW G w0 Z0 Z β H w→RF ds β Z w H.length F a→(t F H).all (λq=>q=(x,F',H'))→(∀ds' Z' β' a' w',Pv w0 Z0 ds'→RW G w0 Z0 Z' β' H' w'→RF ds' β' Z' w' H'.length F' a'→Q (aIx x) a' w')→c.wpIn (Q8 r) 0 P Q a w
def AN (N:Nat):Gz→Prop:=λz=>∀p,p∈z.gh→okV N p.1
abbrev Sound (P:Program) (G:dI):=bC P G (AN 0)
def ax:Code→List Code
 | .seq a b=>ax a++ax b
 | .cond _ a b=>ax a++ax b
 | .block _ b=>ax b
 | .loop b=>[b]
 | .scope b=>ax b
 |_=>[]
def lF:Code→List (Array Tmp×Code×Code)
 | .seq a b=>lF a++lF b
 | .cond _ a b=>lF a++lF b
 | .block _ b=>lF b
 | .loop b=>lF b
 | .rangeFunc _ ps a b=>[(ps,a,b)]
 | .scope b=>lF b
 |_=>[]
theorem nZ {w:World}{D:Nat}(h:rV w D) (o':Obj) {b o:Nat}{z:Value}(hz:w.cell? ⟨b,o,none⟩=some z):(w.putObj D o').cell? ⟨b,o,none⟩=some z:=by
 have hne:b≠D:=by
  rintro rfl
  unfold rV at h
  simp [World.cell?,h] at hz
 rw [jH (World.putObj_heap_other hne)];exact hz
theorem RD.shut {D:Nat}(h:rV w D) (o':Obj):∀(t:Ty) (d:t.D) (b o:Nat),RD Z w t d b o→RD Z (w.putObj D o') t d b o
 | .int _,_,b,o,hh=>by simp only [RD] at*;exact nZ h o' hh
 | .bool,_,b,o,hh=>by simp only [RD] at*;exact nZ h o' hh
 | .str,_,b,o,hh=>by simp only [RD] at*;exact nZ h o' hh
 | .sl e,l,b,o,hh=>by
  simp only [RD] at*;obtain ⟨a,cap,h1,h2,h3⟩:=hh;refine ⟨a,cap,nZ h o' h1,h2,λhn=>?_⟩
  obtain ⟨b',o'',h4,h5,h6⟩:=h3 hn;exact ⟨b',o'',h4,h5,λi d hd=>RD.shut h o' e d b' _ (h6 i d hd)⟩
 | .pair x y,d,b,o,hh=>by
  simp only [RD] at*;exact ⟨RD.shut h o' x d.1 b o hh.1,RD.shut h o' y d.2 b _ hh.2⟩
theorem tC {w:World}{D:Nat}(h:rV w D) (o':Obj) {b:Nat}{x:Obj}(hx:w.heap[b]? =some x) (hn:∀q,x≠ .deferred q):(w.putObj D o').heap[b]? =some x:=by
 have hne:b≠D:=by
  rintro rfl
  unfold rV at h;rw [h] at hx;exact hn _ (Option.some.inj hx).symm
 rw [World.putObj_heap_other hne];exact hx
mutual
theorem R.shut {D:Nat}(h:rV w D) (o':Obj):∀(x:LV) (y:Value),R β Z w x y→R β Z (w.putObj D o') x y
 | .v _,_,hh=>hh
 | .bl _,_,hh=>hh
 | .ki _ _,_,hh=>hh
 | .own k off,y,hh=>by simpa only [R] using hh
 | .agg l,y,hh=>by
  simp only [R] at*;obtain ⟨ys,h1,h2⟩:=hh;exact ⟨ys,h1,RL.shut h o' l _ h2⟩
 | .iU l,y,hh=>by
  simp only [R] at*;obtain ⟨ys,h1,h2⟩:=hh;exact ⟨ys,h1,RL.shut h o' l _ h2⟩
 | .fn f l,y,hh=>by
  simp only [R] at*;obtain ⟨ys,h1,h2⟩:=hh;exact ⟨ys,h1,RL.shut h o' l _ h2⟩
 | .xq n f,y,hh=>by
  simp only [R] at*;obtain ⟨b,off,h1,hz,h2⟩:=hh;refine ⟨b,off,h1,hz,λj hj=>?_⟩
  obtain ⟨z,h3,h4⟩:=h2 j hj;exact ⟨z,nZ h o' h3,R.shut h o' (f j) z h4⟩
 | .xl e l,y,hh=>by
  simp only [R] at*;obtain ⟨a,cap,h1,h2,h3⟩:=hh;refine ⟨a,cap,h1,h2,λhn=>?_⟩
  obtain ⟨b,off,h4,h5,h6⟩:=h3 hn;exact ⟨b,off,h4,h5,λi d hd=>RD.shut h o' e d b _ (h6 i d hd)⟩
 | .os k es off n,y,hh=>by simpa only [R] using hh
 | .op k es i j,y,hh=>by simpa only [R] using hh
 | .om k,y,hh=>by simpa only [R] using hh
 | .mp kd ks vs,y,hh=>by
  simp only [R] at*;obtain ⟨r,es,clock,h1,h2,h3,h4,h5⟩:=hh;exact ⟨r,es,clock,h1,h2,tC h o' h3 (λ_ e=>by cases e),h4,RL.shut h o' vs _ h5⟩
 | .oc k es off n c,y,hh=>by simpa only [R] using hh
 | .yt k,y,hh=>by simpa only [R] using hh
 | .junk,_,_=>by simp only [R]
theorem RL.shut {D:Nat}(h:rV w D) (o':Obj):∀(x:List LV) (y:List Value),RL β Z w x y→RL β Z (w.putObj D o') x y
 | [],_,hh=>by simpa only [RL] using hh
 |x::xs,ys,hh=>by
  simp only [RL] at*;obtain ⟨y,zs,h1,h2,h3⟩:=hh;exact ⟨y,zs,h1,R.shut h o' x y h2,RL.shut h o' xs zs h3⟩
end
theorem gY.shut {D:Nat}(h:rV w D) (o':Obj) {k:Nat}{b:aZ}(hh:gY β Z w k b):gY β Z (w.putObj D o') k b:=by
 unfold gY at*;cases hk:b.k with
 |cl=>
  simp only [hk] at hh⊢;obtain ⟨cs,h1,h2⟩:=hh;exact ⟨cs,tC h o' h1 (λ_ e=>by cases e),RL.shut h o' _ _ h2⟩
 | vec e l=>
  simp only [hk] at hh⊢;cases hc:(β k).cap with
  |none=>simp only [hc] at hh⊢;exact hh
  |some c=>
   simp only [hc] at hh⊢;obtain ⟨cs,h1,h2,h3,h4⟩:=hh;exact ⟨cs,tC h o' h1 (λ_ e=>by cases e),h2,h3,λi d hd=>RD.shut h o' e d _ _ (h4 i d hd)⟩
 |mp kd ks vs=>
  simp only [hk] at hh⊢;obtain ⟨es,clock,h1,h2,h3⟩:=hh;exact ⟨es,clock,tC h o' h1 (λ_ e=>by cases e),h2,RL.shut h o' _ _ h3⟩
 |ni ps asg body st=>
  simp only [hk] at hh⊢;obtain ⟨r,h1,h2,h3,h4,h5,h6⟩:=hh;exact ⟨r,tC h o' h1 (λ_ e=>by cases e),h2,h3,h4,h5,RL.shut h o' _ _ h6⟩
 |st e l=>
  simp only [hk] at hh⊢;obtain ⟨es,clock,h1,h2,h3⟩:=hh;exact ⟨es,clock,tC h o' h1 (λ_ e=>by cases e),h2,h3⟩
 |dead=>trivial
theorem putObj_size (w:World) (D:Nat) (o:Obj):(w.putObj D o).heap.size=w.heap.size:=by simp [World.putObj]
theorem rV.lt {w:World}{D:Nat}(h:rV w D):D<w.heap.size:=(Array.getElem?_eq_some_iff.1 h).1
theorem RW.shut (hW:RW G w0 Z0 Z β H w) {D:Nat}(h:rV w D) (h0:w0.heap.size≤D) (hm:D∉Z0.vw) (o':Obj):RW G w0 Z0 Z β H (w.putObj D o'):=
 ⟨hW.below.trans ⟨rfl,rfl,rfl,Nat.le_of_eq (putObj_size _ _ _).symm,λi hi=>World.putObj_heap_other (by omega)⟩,λb hz=>by rw [putObj_size];exact hW.oN b hz,hW.wB,hW.mX,hW.yE,hW.low,hW.inj,
  λk b hb=>⟨(hW.blk k b hb).1.shut h o',(hW.blk k b hb).2⟩,λg n f hg=>⟨(hW.jJ g n f hg).1,λj hj=>nZ h o' ((hW.jJ g n f hg).2 j hj)⟩,
  λp hp=>⟨R.shut h o' _ _ (hW.gh p hp).1,(hW.gh p hp).2⟩,λD' hD'=>⟨(hW.vw D' hD').1,by
   unfold rV;rw [World.putObj_heap_other (λe=>hm (by rw [←e];exact hD'))]
   exact (hW.vw D' hD').2⟩⟩
theorem zx {fn:Func}{R:Ending→World→Prop}:∀(ds:List Deferred) (w:World) (a:Act),RW G w0 Z0 Z β H w→RF ds β Z w n F a→Pv w0 Z0 ds→
  (∀w' a',a'.tmps=a.tmps→RW G w0 Z0 Z β H w'→RF [] β Z w' n F a'→∃v,(results fn a.tmps).run P w'=.ok v w'∧R (.returned v) w')→LeavesInM Fence.wide 0 P fn a.tmps R ds .returning w
 | [],w,a,hW,hF,_,hR=>hR w {a with defers:=[]} rfl hW ⟨hF.size,hF.get,rfl,λ_ h=>by cases h⟩
 |d::ds,w,a,hW,hF,hD,hR=>by
  obtain ⟨D,rfl,hz,hm⟩:=hF.defers.2 d (by simp)
  obtain ⟨n1,n2⟩:=hD.new D (by simp)
  have nd:=List.nodup_cons.1 hD.nodup
  refine ⟨by simp,.inl ⟨D,w.putObj D (.deferred none),rfl,run_takeDeferred hm,?_⟩⟩
  refine zx ds (w.putObj D (.deferred none)) {a with defers:=ds} (hW.shut hm n1 n2 _) ⟨hF.size,λt x hx=>⟨Go.Sx.R.shut hm _ _ _ (hF.get t x hx).1,(hF.get t x hx).2⟩,rfl,λd hd=>?_⟩ ⟨λD' h'=>hD.new D' (by simp [h']),nd.2⟩ (λw' a' e=>hR w' a' e)
  obtain ⟨D',e1,e2,e3⟩:=hF.defers.2 d (by simp [hd])
  refine ⟨D',e1,e2,?_⟩;unfold rV;rw [World.putObj_heap_other (λe=>nd.1 (by rw [←e,←e1];exact hd))]
  exact e3
theorem RF.RL (hF:RF ds β Z w n F a):RL β Z w F a.tmps.toList∧dQ n F:=by
 refine ⟨RL.dO (by simp [hF.size]) λi x hx=>?_,dQ.dO λi x hx=>(hF.get i x hx).2⟩
 have hi:i<a.tmps.size:=by rw [hF.size];exact (List.getElem?_eq_some_iff.1 hx).1
 have:=(hF.get i x hx).1
 refine ⟨a.tmps[i],by simp [hi],?_⟩
 have e:a.tmps.getD i undef=a.tmps[i]:=by simp [Array.getD,hi]
 rw [e] at this;exact this
theorem aqe (us:List Nat) {ys:List Value}(h:RL β Z w F ys) (hk:dQ n F):RL β Z w (DK us F) ys∧dQ n (DK us F):=by
 have hl:=RL.length h
 have at_:∀(i:Nat) (x:LV),(DK us F)[i]? =some x→i<F.length∧(x=.junk∨F[i]? =some x):=λi x hx=>by
  simp only [DK,List.getElem?_map] at hx
  by_cases hi:i<F.length
  ·simp only [List.getElem?_range hi,Option.map_some,Option.some.injEq] at hx
   refine ⟨hi,?_⟩;split at hx
   ·right
    rw [List.getElem?_eq_getElem hi]
    simpa [List.getD,List.getElem?_eq_getElem hi] using hx
   ·exact .inl hx.symm
  ·rw [List.getElem?_eq_none (by simpa using hi)] at hx
   cases hx
 refine ⟨RL.dO (by simp [DK,hl]) λi x hx=>?_,dQ.dO λi x hx=>?_⟩
 ·obtain ⟨hi,h1⟩:=at_ i x hx
  rcases h1 with rfl|h1
  ·exact ⟨ys[i]'(by omega),List.getElem?_eq_getElem _,by simp only [R]⟩
  ·exact RL.get i x h h1
 ·obtain ⟨hi,h1⟩:=at_ i x hx
  rcases h1 with rfl|h1
  ·trivial
  ·exact dQ.get i x hk h1
theorem Y2 {o:Option aZ}{x:Ex}(h:acD o=some x):∃c t ps asg body,(o=some ⟨c,t,.ni ps asg body .ready,false⟩∧x=.normal)∨(o=some ⟨c,t,.ni ps asg body (.done x),false⟩∧x≠ .normal):=by
 unfold acD at h;split at h
 ·rename_i c t ps asg body
  exact ⟨c,t,ps,asg,body,.inl ⟨rfl,(Option.some.inj h).symm⟩⟩
 ·rename_i c t ps asg body y
  split at h
  ·cases h
  ·rename_i hn
   have:=Option.some.inj h
   subst this;exact ⟨c,t,ps,asg,body,.inr ⟨rfl,λe=>hn e⟩⟩
 ·cases h
theorem RW.turn {k:Nat}{c:List LV}{t t':TypeId}{ps:Array Tmp}{asg body:Code}{st:LS}{nb:BK}{r':Loop}(hW:RW G w0 Z0 Z β H w) (hb:H[k]? =some ⟨c,t,.ni ps asg body st,false⟩)
  (hn:gY β Z (w.putObj (β k).b (.loop r')) k ⟨c,t',nb,false⟩) (hok:okB H.length ⟨c,t',nb,false⟩):RW G w0 Z0 Z β (H.set k ⟨c,t',nb,false⟩) (w.putObj (β k).b (.loop r'))∧(∀b,Z b→(w.putObj (β k).b (.loop r')).heap[b]? =w.heap[b]?):=
 ⟨hW.set hb trivial rfl rfl hok (putObj_size _ _ _) ⟨rfl,rfl,rfl⟩ (λ_ hj=>World.putObj_heap_other hj) hn,λ_ hz=>World.putObj_heap_other (λe=>hW.mX k _ hb trivial rfl (e▸hz))⟩
theorem agG {r:Option Nat}{p q:Bool}(h:r=none∨(p&&q)=true):(r=none∨p=true)∧(r=none∨q=true):=by
 rcases h with h|h
 ·exact ⟨.inl h,.inl h⟩
 ·simp only [Bool.and_eq_true] at h
  exact ⟨.inr h.1,.inr h.2⟩
theorem nY {b:Frame}{k:List Item}{cs:List Frame}{c:Code}:step P (lone (b.atR a (.code (.scope c)::k)) cs w)=.next (lone (b.atR a (.code c::.inScope c::k)) cs w):=
 step_lone_go (by simp [stepG,stepG.exec,Frame.atR])
theorem Qb {b:Frame}{k:List Item}{cs:List Frame}{c:Code}:step P (lone (b.atR a (.inScope c::k)) cs w)=.next (lone (b.atR a k) cs w):=
 step_lone_go (by simp [stepG,stepG.exec,Frame.atR])
theorem aa1 {E:Fence}{m:Nat}{Q:Exit→Act→World→Prop}{c:Code}(h:c.wpIn E m P (Exit.noGoto Q) a w):(Code.scope c).wpIn E m P Q a w:=by
 intro b k cs hro hb hr
 have h0:(lone (b.atR a (.code (.scope c)::k)) cs w).fenced P E:=fenced_calm hb hr rfl
 obtain ⟨e,a₁,w₁,hq,harr⟩:=h b (.inScope c::k) cs hro hb hr;cases e with
 |normal=>exact ⟨.normal,a₁,w₁,hq,.head h0 nY (StepsIn.trans harr (.one (fenced_calm hb hr rfl) Qb))⟩
 | exit id'=>
  have hx:exitTo id' (.inScope c::k)=exitTo id' k:=by simp [exitTo]
  exact ⟨.exit id',a₁,w₁,hq,λk' hk=> .head h0 nY (harr.1 k' (by rw [hx];exact hk)),
   λhr' hk=>let ⟨k₁,h1,h2⟩:=harr.2 hr' (by rw [hx];exact hk);⟨k₁,h1,.head h0 nY h2⟩⟩
 |goto l=>exact hq.elim
 |ret=>exact ⟨_,a₁,w₁,hq,.of_steps (.one h0 nY) harr⟩
 |panic ch=>exact ⟨_,a₁,w₁,hq,.of_steps (.one h0 nY) harr⟩
 |outgrown=>exact ⟨_,a₁,w₁,hq,.of_steps (.one h0 nY) harr⟩
theorem bI {L:RH} (hΓ:∀g S,Γ g=some S→Valid P G g S) (hK:dn P G K):∀(c:Code),(∀b∈ax c,bC P G A (.loop b) (L b))→bC P G A c (jC P G Γ K L c)
 | .skip,_=>λr w0 Z0 Z β F H a w ds Q x F' H' hA hr hD hW hF h hQ=>by
  simp only [jC,T.all,Prod.mk.injEq] at h;obtain ⟨rfl,rfl,rfl⟩:=h;exact wpIn_skip (hQ ds Z β a w hD hW hF)
 | .ret,_=>λr w0 Z0 Z β F H a w ds Q x F' H' hA hr hD hW hF h hQ=>by
  simp only [jC,T.all,Prod.mk.injEq] at h;obtain ⟨rfl,rfl,rfl⟩:=h;exact wpIn_ret (hQ ds Z β a w hD hW hF)
 | .exit m,_=>λr w0 Z0 Z β F H a w ds Q x F' H' hA hr hD hW hF h hQ=>by
  simp only [jC,T.all,Prod.mk.injEq] at h;obtain ⟨rfl,rfl,rfl⟩:=h;exact wpIn_exit (hQ ds Z β a w hD hW hF)
 | .region id ops d,_=>λr w0 Z0 Z β F H a w ds Q x F' H' hA hr hD hW hF h hQ=>by
  simp only [jC] at h;obtain ⟨⟨F1,H1⟩,h1,h2⟩:=T.bF h;simp only [T.all,Prod.mk.injEq] at h2;obtain ⟨rfl,rfl,rfl⟩:=h2;cases d with
  |true=>exact Zr hΓ hK (λZ' β' a' w' e1 e2=>hQ ds Z' β' a' w' hD e1 e2) hW hF h1 r 0
  |false=>exact ak1 hΓ hK (λZ' β' a' w' e1 e2=>hQ ds Z' β' a' w' hD e1 e2) hW hF h1 r 0
 | .seq c1 c2,hl=>λr w0 Z0 Z β F H a w ds Q x F' H' hA hr hD hW hF h hQ=>by
  simp only [jC] at h;obtain ⟨⟨y,F1,H1⟩,h1,h2⟩:=T.bF h;obtain ⟨hr1,hr2⟩:=agG (show r=none∨(BP c1&&BP c2)=true from hr);refine wpIn_seq (bI hΓ hK c1 (λb hb=>hl b (by simp [ax,hb])) r w0 Z0 Z β F H a w ds _ y F1 H1 hA hr1 hD hW hF h1 λds' Z' β' a' w' e0 e1 e2=>?_)
  cases y with
  |normal=>exact bI hΓ hK c2 (λb hb=>hl b (by simp [ax,hb])) r w0 Z0 Z' β' F1 H1 a' w' ds' Q x F' H' hA hr2 e0 e1 e2 h2 hQ
  |exit m=>
   simp only [T.all,Prod.mk.injEq] at h2;obtain ⟨rfl,rfl,rfl⟩:=h2;exact hQ ds' Z' β' a' w' e0 e1 e2
  |ret=>
   simp only [T.all,Prod.mk.injEq] at h2;obtain ⟨rfl,rfl,rfl⟩:=h2;exact hQ ds' Z' β' a' w' e0 e1 e2
 | .cond c c1 c2,hl=>λr w0 Z0 Z β F H a w ds Q x F' H' hA hr hD hW hF h hQ=>by
  have s1:=bI hΓ hK c1 (λb hb=>hl b (by simp [ax,hb]))
  have s2:=bI hΓ hK c2 (λb hb=>hl b (by simp [ax,hb]))
  obtain ⟨hr1,hr2⟩:=agG (show r=none∨(BP c1&&BP c2)=true from hr);simp only [jC] at h;split at h
  ·rename_i d
   split at h
   ·rename_i hb
    obtain ⟨q1,q2⟩:=hF.slot hb (by simp)
    have hv:=(hF.get d _ q1).1
    simp only [R] at hv;exact wpIn_cond_true (by simp only [Act.eval];exact hv) (s1 r w0 Z0 Z β F H a w ds Q x F' H' hA hr1 hD hW hF h hQ)
   ·rename_i hb
    obtain ⟨q1,q2⟩:=hF.slot hb (by simp)
    have hv:=(hF.get d _ q1).1
    simp only [R] at hv;exact wpIn_cond_false (by simp only [Act.eval];exact hv) (s2 r w0 Z0 Z β F H a w ds Q x F' H' hA hr2 hD hW hF h hQ)
   ·rename_i g hb
    obtain ⟨q1,q2⟩:=hF.slot hb (by simp)
    have hv:=(hF.get d _ q1).1
    simp only [R] at hv
    have kn:∀b,g=b→RF ds β Z w H.length (F.set d (.bl b)) a:=λb e=>hF.know (by simp only [R];rw [hv,e]) trivial
    simp only [T.all] at h;refine wpIn_cond_split (t:=g) (by simp only [Act.eval];exact hv) (λhg=>s1 r w0 Z0 Z β _ H a w ds Q x F' H' hA hr1 hD hW (kn true hg) (h.1 hg) hQ) (λhg=>s2 r w0 Z0 Z β _ H a w ds Q x F' H' hA hr2 hD hW (kn false hg) (h.2 hg) hQ)
   ·cases h
  ·exact wpIn_cond_true rfl (s1 r w0 Z0 Z β F H a w ds Q x F' H' hA hr1 hD hW hF h hQ)
  ·exact wpIn_cond_false rfl (s2 r w0 Z0 Z β F H a w ds Q x F' H' hA hr2 hD hW hF h hQ)
  ·cases h
 | .block id c,hl=>λr w0 Z0 Z β F H a w ds Q x F' H' hA hr hD hW hF h hQ=>by
  simp only [jC] at h;obtain ⟨⟨y,F1,H1⟩,h1,h2⟩:=T.bF h;refine wpIn_block (bI hΓ hK c (λb hb=>hl b (by simpa [ax] using hb)) r w0 Z0 Z β F H a w ds _ y F1 H1 hA hr hD hW hF h1 λds' Z' β' a' w' e0 e1 e2=>?_)
  cases y with
  |normal=>
   simp only [T.all,Prod.mk.injEq] at h2;obtain ⟨rfl,rfl,rfl⟩:=h2;exact hQ ds' Z' β' a' w' e0 e1 e2
  | exit m=>
   simp only at h2;simp only [aIx,Exit.inBlock];split at h2
   ·rename_i hm
    simp only [T.all,Prod.mk.injEq] at h2;obtain ⟨rfl,rfl,rfl⟩:=h2;rw [if_pos hm];exact hQ ds' Z' β' a' w' e0 e1 e2
   ·rename_i hm
    simp only [T.all,Prod.mk.injEq] at h2;obtain ⟨rfl,rfl,rfl⟩:=h2;rw [if_neg hm];exact hQ ds' Z' β' a' w' e0 e1 e2
  |ret=>
   simp only [T.all,Prod.mk.injEq] at h2;obtain ⟨rfl,rfl,rfl⟩:=h2;exact hQ ds' Z' β' a' w' e0 e1 e2
 | .loop b,hl=>hl b (by simp [ax])
 | .rangeFunc g ps asg body,_=>λr w0 Z0 Z β F H a w ds Q x F' H' hA hr hD hW hF h hQ=>by
  have hr0:r=none:=by
   rcases hr with h|h
   ·exact h
   ·simp [BP] at h
  subst hr0;simp only [jC] at h;split at h
  ·rename_i gf cap hg
   split at h
   ·rename_i fn hfn
    split at h
    ·rename_i hb
     simp only [Bool.and_eq_true,Bool.not_eq_true'] at hb;obtain ⟨⟨lv,H1⟩,h1,h2⟩:=T.bF h;simp only at h2
     have hgr:=hF.eval hW.jJ g
     rw [hg] at hgr;simp only [R,okV] at hgr;obtain ⟨⟨ys,hy,hyr⟩,hcap⟩:=hgr;split at h2
     ·rename_i x' hx'
      simp only [T.all,Prod.mk.injEq] at h2;obtain ⟨rfl,rfl,rfl⟩:=h2;refine wpIn_rangeFunc ?_;intro fn0 _
      have hb1:Below w.heap.size w (w.alloc (.deferred (some []))):=(Below.refl _ _).alloc (Nat.le_refl _) _
      have hWd:=hW.call hb1
      generalize hrec:({state:=.ready,pending:=none,fn:=fn0,tmps:=a.tmps,params:=ps,assign:=asg,body:=body,defers:=w.heap.size}:Loop)=rec0 at*;generalize hwd:w.alloc (.deferred (some []))=wd at*
      have hsd:wd.heap.size=w.heap.size+1:=by rw [←hwd];simp [World.size_alloc]
      have hmd:rV wd w.heap.size:=by rw [←hwd];exact World.alloc_heap_new w _
      have hb2:Below wd.heap.size wd (wd.alloc (.loop rec0)):=(Below.refl _ _).alloc (Nat.le_refl _) _
      have hW1:=hWd.same hb2
      generalize hw1:wd.alloc (.loop rec0)=w1 at*
      have hl1:w1.heap[wd.heap.size]? =some (.loop rec0):=by rw [←hw1];exact World.alloc_heap_new wd _
      have hF1:RF ds β (λb=>Z b∨(w.heap.size≤b∧b<wd.heap.size)) w1 H.length F a:=hF.mono (Nat.le_refl _) (λ_ _=>rfl) (λ_ h=> .inl h) (λb hz=>by
       have hlt:=hW.oN b hz
       rw [cu hb2 (by omega),cu hb1 hlt])
      have hm1:rV w1 w.heap.size:=by unfold rV;rw [cu hb2 (by omega)];exact hmd
      have hF2:RF (kN w.heap.size::ds) β (λb=>Z b∨(w.heap.size≤b∧b<wd.heap.size)) w1 H.length F {a with defers:=kN w.heap.size::a.defers}:=by
       refine ⟨hF1.size,hF1.get,by rw [hF1.defers.1],λd hd=>?_⟩
       rcases List.mem_cons.1 hd with rfl|hd
       ·exact ⟨_,rfl,.inr ⟨Nat.le_refl _,by omega⟩,hm1⟩
       ·exact hF1.defers.2 d hd
      have hD2:Pv w0 Z0 (kN w.heap.size::ds):=by
       refine ⟨λD hd=>?_,List.nodup_cons.2 ⟨λhd=>?_,hD.nodup⟩⟩
       ·rcases List.mem_cons.1 hd with hd|hd
        ·simp only [kN,Deferred.mk.injEq,Target.collected.injEq] at hd
         rw [hd.1];exact ⟨hW.below.size,λhm=>by have:=(hW.vw _ hm).2.lt;omega⟩
        ·exact hD.new D hd
       ·obtain ⟨D,e1,_,e3⟩:=hF.defers.2 _ hd
        simp only [kN,Deferred.mk.injEq,Target.collected.injEq] at e1
        have:=e3.lt
        omega
      obtain ⟨fr1,fr2⟩:=hF1.RL;obtain ⟨fr1,fr2⟩:=aqe (oO asg++oO body) fr1 fr2
      obtain ⟨β2,b1,b2,hW2⟩:=hW1.zI (ℓ:=⟨wd.heap.size,0,none⟩) (nb:=⟨DK (oO asg++oO body) F,0,.ni ps asg body .ready,false⟩) rfl ⟨dQ.mono (by omega) _ fr2,trivial⟩ (λ_=>⟨λhz=>by
        rcases hz with hz|hz
        ·have:=hW.oN _ hz;simp only at this;omega
        ·simp only at hz;omega,by have:=hW.below.size;simp only;omega,λj bj hj lj e=>by have:=hW.lt hj lj;simp only at e;omega⟩) (λβ' q1 q2=>by
       simp only [gY,q2];refine ⟨rec0,hl1,by rw [←hrec],by rw [←hrec],by rw [←hrec],by rw [←hrec];exact aSf,?_⟩
       rw [←hrec];exact RL.mono q1 (λ_ h=>h) (λ_ _=>rfl) _ _ fr2 fr1)
      have hF3:RF (kN w.heap.size::ds) β2 (λb=>Z b∨(w.heap.size≤b∧b<wd.heap.size)) w1 (H++[(⟨DK (oO asg++oO body) F,0,.ni ps asg body .ready,false⟩:aZ)]).length F {a with defers:=kN w.heap.size::a.defers}:=hF2.mono (by simp) b1 (λ_ h=>h) (λ_ _=>rfl)
      have hW3:=hW2.hold hF3
      have hyl:R β2 (λb=>Z b∨(w.heap.size≤b∧b<wd.heap.size)) w1 (.yt H.length) (.func (.yield wd.heap.size) #[] #[]):=by simp only [R,b2]
      have hW4:RW G w0 ⟨Z0.z,(LV.yt H.length,Value.func (.yield wd.heap.size) #[] #[])::(F.zip a.tmps.toList++Z0.gh),dsB (kN w.heap.size::ds)++Z0.vw⟩ (λb=>Z b∨(w.heap.size≤b∧b<wd.heap.size)) β2 (H++[⟨DK (oO asg++oO body) F,0,.ni ps asg body .ready,false⟩]) w1:=
       ⟨hW3.below,hW3.oN,hW3.wB,hW3.mX,hW3.yE,hW3.low,hW3.inj,hW3.blk,hW3.jJ,λp hp=>by
        rcases List.mem_cons.1 hp with rfl|hp
        ·exact ⟨hyl,by simp [okV]⟩
        ·exact hW3.gh p hp,hW3.vw⟩
      have hyr2:RL β2 (λb=>Z b∨(w.heap.size≤b∧b<wd.heap.size)) w1 cap ys.toList:=RL.mono (n:=H.length) b1 (λ_ h=> .inl h) (λb hz=>by
       have hlt:=hW.oN b hz
       rw [cu hb2 (by omega),cu hb1 hlt]) _ _ hcap hyr
      have hbn:¬fn.body=none:=by intro hbb;simp [hbb] at hb
      have hb3:¬fn.name= "runtime.NumGoroutine":=by simpa using hb.2
      have eg:∀args w,(callFunc gf args).run P w=.ok (.enter gf args) w:=λargs w=>by simp [callFunc,hfn,hb3,hbn]
      refine ⟨wd.heap.size,[kN w.heap.size],w1,{target:=.fn (.func gf) ys,args:=#[.func (.yield wd.heap.size) #[] #[]]},w1,gf,#[.func (.yield wd.heap.size) #[] #[]]++ys,w1,?_,?_,λ_ _=>trivial,?_,λh=>(by cases h),callsIn_wide.2 ?_⟩
      ·have:=run_enterLoop_outer (P:=P) (w:=w) fn0 a.tmps ps asg body
       rw [hrec,hwd,hw1,←hsd] at this;exact this
      ·simp only [resolve,hy]
       simp [go_sem]
      ·simp [invoke,go_sem,eg]
      ·refine (hK.k w0 _ _ β2 _ w1 gf (.yt H.length::cap) _ lv H1 hW4 (by simp only [Array.toList_append,RL];exact ⟨_,ys.toList,rfl,hyl,hyr2⟩) ⟨by simp [okV],dQ.mono (by simp) _ hcap⟩ h1).mono λe w2 ⟨v,he,Z',β',r1,r2,r3⟩=>?_
       subst he
       have hat:(β' H.length).b=wd.heap.size:=by
        have:=(r1.gh (LV.yt H.length,Value.func (.yield wd.heap.size) #[] #[]) (by simp)).1
        simp only [R,Value.func.injEq,Fn.yield.injEq] at this;exact this.1.symm
       have r1':RW G w0 ⟨Z0.z,F.zip a.tmps.toList++Z0.gh,dsB (kN w.heap.size::ds)++Z0.vw⟩ Z' β' H1 w2:=⟨r1.below,r1.oN,r1.wB,r1.mX,r1.yE,r1.low,r1.inj,r1.blk,r1.jJ,λp hp=>r1.gh p (List.mem_cons_of_mem _ hp),r1.vw⟩
       have hF5:=RW.held hF3 r1'
       have hW5:RW G w0 Z0 Z' β' H1 w2:=r1'.less
       obtain ⟨c',t',ps',asg',body',hx⟩:=Y2 hx'
       have fin:∀st,H1[H.length]? =some ⟨c',t',.ni ps' asg' body' st,false⟩→∃rr,w2.heap[wd.heap.size]? =some (.loop rr)∧LsR st rr∧∀rr',RW G w0 Z0 Z' β' (H1.set H.length ⟨[],0,.dead,false⟩) (w2.putObj wd.heap.size (.loop rr'))∧RF (kN w.heap.size::ds) β' Z' (w2.putObj wd.heap.size (.loop rr')) (H1.set H.length ⟨[],0,.dead,false⟩).length F {a with defers:=kN w.heap.size::a.defers}:=λst hst=>by
        have hbk:=(hW5.blk _ _ hst).1
        simp only [gY,hat] at hbk;obtain ⟨rr,q1,q2,q3,q4,q5,q6⟩:=hbk;refine ⟨rr,q1,q5,λrr'=>?_⟩
        have hs:=hW5.set (nb:=⟨[],0,.dead,false⟩) (w':=w2.putObj wd.heap.size (.loop rr')) hst trivial rfl rfl ⟨trivial,trivial⟩ (putObj_size _ _ _) ⟨rfl,rfl,rfl⟩ (λj hj=>World.putObj_heap_other (by rw [hat] at hj;exact hj)) trivial
        refine ⟨hs,?_⟩;rw [List.length_set];exact hF5.mono (Nat.le_refl _) (λ_ _=>rfl) (λ_ h=>h) (λb hz=>World.putObj_heap_other (λe=>hW5.mX _ _ hst trivial rfl (by rw [hat,←e];exact hz)))
       rcases hx with ⟨hx,rfl⟩ |⟨hx,hne⟩
       ·obtain ⟨rr,q1,q2,q3⟩:=fin _ hx
        refine ⟨none,w2.putObj wd.heap.size (.loop {rr with state:=.exhausted}),(run_endLoop q1 (by rw [q2.1];simp)).trans (by rw [q2.2]),?_⟩
        obtain ⟨f1,f2⟩:=q3 {rr with state:=.exhausted}
        exact hQ _ Z' β' _ _ hD2 f1 f2
       ·obtain ⟨rr,q1,q2,q3⟩:=fin _ hx
        refine ⟨arZ x',w2.putObj wd.heap.size (.loop {rr with state:=.exhausted}),(run_endLoop q1 (by rw [q2.1];simp)).trans (by rw [q2.2]),?_⟩
        obtain ⟨f1,f2⟩:=q3 {rr with state:=.exhausted}
        cases x' with
        |normal=>exact absurd rfl hne
        |exit m=>exact wpIn_exit (hQ _ Z' β' _ _ hD2 f1 f2)
        |ret=>exact wpIn_ret (hQ _ Z' β' _ _ hD2 f1 f2)
     ·cases h2
    ·cases h
   ·cases h
  ·cases h
 | .scope c,hl=>λr w0 Z0 Z β F H a w ds Q x F' H' hA hr hD hW hF h hQ=>by
  simp only [jC] at h;refine aa1 (bI hΓ hK c (λb hb=>hl b (by simpa [ax] using hb)) r w0 Z0 Z β F H a w ds _ x F' H' hA hr hD hW hF h λds' Z' β' a' w' e0 e1 e2=>?_)
  cases x with
  |normal=>exact hQ ds' Z' β' a' w' e0 e1 e2
  |exit m=>exact hQ ds' Z' β' a' w' e0 e1 e2
  |ret=>exact hQ ds' Z' β' a' w' e0 e1 e2
 | .label l,_=>λr w0 Z0 Z β F H a w ds Q x F' H' hA hr hD hW hF h hQ=>by
  simp only [jC,T.all,Prod.mk.injEq] at h;obtain ⟨rfl,rfl,rfl⟩:=h;exact wpIn_label (hQ ds Z β a w hD hW hF)
 | .goto ..,_=>λr w0 Z0 Z β F H a w ds Q x F' H' hA hr hD hW hF h hQ=>by simp only [jC,T.all] at h
 | .refuse ..,_=>λr w0 Z0 Z β F H a w ds Q x F' H' hA hr hD hW hF h hQ=>by simp only [jC,T.all] at h
theorem aQ {L:F5}(hΓ:∀g S,Γ g=some S→Valid P G g S) (hK:dn P G K) (c:Code) (hl:∀b∈ax c,Sound P G (.loop b) (L (rQ b))):Sound P G c (jC P G Γ K (alA L) c):=bI (L:=alA L) hΓ hK c hl
def aMb (a:Act):ResultVar→Sem Value
 | .tmp t=>pure (a.tmps.getD t undef)
 | .cell ad t=>do loadVar t (←asAddr (a.tmps.getD ad undef))
theorem Us (fn:Func) (a:Act):results fn a.tmps=(do let vs ←fn.results.mapM (aMb a);pure (if h:vs.size=1 then vs[0] else .tuple vs)):=by
 unfold results
 congr 1
theorem QN {f:ResultVar→Sem Value}{r:ResultVar}{rs:List ResultVar}{z:Value}{vs:List Value}(h1:(f r).run P w=.ok z w) (h2:(rs.mapM f).run P w=.ok vs w):((r::rs).mapM f).run P w=.ok (z::vs) w:=by
 rw [List.mapM_cons];simp only [Sem.run_bind,h1,h2,Result.andThen_ok,Sem.run_pure]
theorem tZ {fn:Func}:∀(rs:List ResultVar) (l:List LV),RW G w0 Z0 Z β H w→RF ds β Z w H.length F a→(Qc P fn F H rs).all (λq=>q=l)→
  ∃vs:List Value,(rs.mapM (aMb a)).run P w=.ok vs w∧RL β Z w l vs∧dQ H.length l
 | [],l,hW,hF,h=>by
  simp only [Qc,T.all] at h;subst h;exact ⟨[],by simp,by simp [RL],trivial⟩
 | .tmp t::rs,l,hW,hF,h=>by
  simp only [Qc] at h;obtain ⟨l1,h1,h2⟩:=T.bF h;simp only [T.all] at h2;obtain ⟨vs,e1,e2,e3⟩:=tZ rs l1 hW hF h1
  have ev:=hF.eval hW.jJ (.tmp t)
  simp only [aV,Act.eval] at ev;refine ⟨a.tmps.getD t undef::vs,?_,?_,?_⟩
  ·exact QN rfl e1
  ·rw [←h2];simp only [RL];exact ⟨_,_,rfl,vP ev.1,e2⟩
  ·rw [←h2];exact ⟨vk ev.2,e3⟩
 | .cell ad t::rs,l,hW,hF,h=>by
  simp only [Qc] at h;obtain ⟨y,h1,h2⟩:=T.bF h;obtain ⟨l1,h3,h4⟩:=T.bF h2;simp only [T.all] at h4;obtain ⟨vs,e1,e2,e3⟩:=tZ rs l1 hW hF h3
  have ev:=hF.eval hW.jJ (.tmp ad)
  simp only [aV,Act.eval] at ev;obtain ⟨z,f1,f2,f3⟩:=vF hW h1 ev.1 ev.2
  have f1:=f1 w (λ_ _=>rfl)
  have f4:(do loadVar t (←asAddr (a.tmps.getD ad undef)):Sem Value).run P w=.ok z w:=by
   have hp:∃q,a.tmps.getD ad undef=.pointer (some q):=by
    have hr:=ev.1
    generalize hx:F.getD ad .junk=x at h1 hr;cases x with
    |own k off=>simp only [R] at hr;exact ⟨_,hr⟩
    |xq n f=>simp only [R] at hr;obtain ⟨b,off,e,_⟩:=hr;exact ⟨_,e⟩
    |op k es i j=>simp only [R] at hr;exact ⟨_,hr.2⟩
    |_=>unfold zq at h1;split at h1<;>simp only [T.all] at h1
   obtain ⟨q,hq⟩:=hp;rw [hq] at f1⊢
   simpa [Instr.loadAt,Instr.sureAddr,asAddr] using f1
  refine ⟨z::vs,?_,?_,?_⟩
  ·exact QN f4 e1
  ·rw [←h4];simp only [RL];exact ⟨_,_,rfl,f2,e2⟩
  ·rw [←h4];exact ⟨f3,e3⟩
theorem aoz {l:List LV}{vs:List Value}(h:RL β Z w l vs):R β Z w (one l) (if hs:vs.toArray.size=1 then vs.toArray[0] else .tuple vs.toArray):=by
 unfold one
 have hl:=RL.length h
 split
 ·rename_i x
  simp only [RL] at h;obtain ⟨y,zs,e1,e2,e3⟩:=h;subst e1 e3
  simpa using e2
 ·rename_i hne
  have:¬vs.toArray.size=1:=by
   intro h1
   simp at h1
   rw [h1] at hl;cases l with
   |nil=>simp at hl
   |cons x xs=>cases xs with
    |nil=>exact hne x rfl
    |cons _ _=>simp at hl
  rw [dif_neg this];exact VQ (by simpa using h)
theorem y9 {l:List LV}(h:dQ n l):okV n (one l):=by
 unfold one;split
 ·exact h.1
 ·exact MR h
theorem NG {args:List LV}{vals:Array Value}(hr:RL β Z w args vals.toList) (hok:dQ H.length args) (m:Nat):RF [] β Z w H.length (args++List.replicate (m-args.length) (.v undef)) {tmps:=vals++Array.replicate (m-vals.size) undef,defers:=[]}:=by
 have hlen:vals.size=args.length:=by have:=RL.length hr;simpa using this
 refine ⟨by simp [hlen],λt x hx=>?_,rfl,λ_ h=>by cases h⟩
 by_cases ht:t<args.length
 ·rw [List.getElem?_append_left ht] at hx
  obtain ⟨y,e1,e2⟩:=RL.get _ _ hr hx
  have e3:(vals++Array.replicate (m-vals.size) undef).getD t undef=y:=by
   have hts:t<vals.size:=by omega
   have:vals[t]? =some y:=by simpa using e1
   rw [Array.getD_eq_getD_getElem?,Array.getElem?_append_left hts,this];rfl
  exact ⟨by rw [e3];exact e2,dQ.get _ _ hok hx⟩
 ·rw [List.getElem?_append_right (by omega)] at hx
  have hx':x=.v undef:=by
   rw [List.getElem?_replicate] at hx;split at hx
   ·simpa using hx.symm
   ·cases hx
  have e3:(vals++Array.replicate (m-vals.size) undef).getD t undef=undef:=by
   rw [Array.getD_eq_getD_getElem?,Array.getElem?_append_right (by omega),Array.getElem?_replicate]
   split<;>rfl
  rw [hx',e3];exact ⟨by simp only [R],trivial⟩
theorem Bf {b:Code}:bC P G A (.loop b) (Ky b):=λ_ _ _ _ _ _ _ _ _ _ _ _ _ _ _ _ _ _ _ h=>by cases h
theorem TV {b:Code}{t:List LV→List aZ→T (Ex×List LV×List aZ)}(hb:bC P G A b t) (m:Nat):bC P G A (.loop b) (TW t m):=by
 intro r w0 Z0 Z β F H a w ds Q x F' H' hA hr hD hW hF h hQ;refine wpIn_loop_rounds m ?_
 induction m generalizing Z β F H a w ds with
 |zero=>cases h
 | succ m ih=>
  rw [roundsIn_succ];simp only [TW] at h;obtain ⟨⟨y,F1,H1⟩,h1,h2⟩:=T.bF h;refine hb r w0 Z0 Z β F H a w ds _ y F1 H1 hA hr hD hW hF h1 λds' Z' β' a' w' e0 e1 e2=>?_
  cases y with
  |normal=>exact ih Z' β' F1 H1 a' w' ds' e0 e1 e2 h2
  |exit k=>
   simp only [T.all,Prod.mk.injEq] at h2;obtain ⟨rfl,rfl,rfl⟩:=h2;exact hQ ds' Z' β' a' w' e0 e1 e2
  |ret=>
   simp only [T.all,Prod.mk.injEq] at h2;obtain ⟨rfl,rfl,rfl⟩:=h2;exact hQ ds' Z' β' a' w' e0 e1 e2
theorem dA (hΓ:∀g S,Γ g=some S→Valid P G g S) (hK:dn P G K) (m:Nat):∀(d:Nat) (b:Code),bC P G A (.loop b) (ql P G Γ K m d b)
 |0,_=>Bf
 |d+1,b=>TV (bI hΓ hK b (λb' _=>dA hΓ hK m d b')) m
theorem Yy:∀(ts:List Tmp) (xs:List LV) (vs:List Value) (F:List LV) (a:Act),RF ds β Z w n F a→RL β Z w xs vs→dQ n xs→RF ds β Z w n (Qz F ts xs) {a with tmps:=(ts.zip vs).foldl (λt (p,v)=>t.setIfInBounds p v) a.tmps}
 | [],_,_,F,a,hF,_,_=>by simpa [Qz] using hF
 |_::_,[],vs,F,a,hF,hr,_=>by
  simp only [RL] at hr;subst hr
  simpa [Qz] using hF
 |t::ts,x::xs,vs,F,a,hF,hr,hk=>by
  simp only [RL] at hr;obtain ⟨y,zs,rfl,h1,h2⟩:=hr;simp only [Qz,List.zip_cons_cons,List.foldl_cons];exact Yy ts xs zs (F.set t x) {a with tmps:=a.tmps.setIfInBounds t y} (hF.put h1 hk.1 (some t)) h2 hk.2
theorem alV (ps:Array Tmp) (vs:Array Value) (t:Array Value):(ps.zip vs).foldl (λt (p,v)=>t.setIfInBounds p v) t=(ps.toList.zip vs.toList).foldl (λt (p,v)=>t.setIfInBounds p v) t:=by
 rw [←Array.foldl_toList,Array.toList_zip]
def W9 (P:Program) (G:dI) (LL:vK):Prop:=∀(K:Hand) (g:FuncId) (fn:Func) (c:Code) (N:Nat) (b:Code),dn P G K→P.funcs[g]? =some fn→fn.body=some c→b∈ax c→bC P G (AN N) (.loop b) (LL K g N b)
theorem RW.ghost {p:LV×Value}(hW:RW G w0 Z0 Z β H w) (h:R β Z w p.1 p.2∧okV H.length p.1):RW G w0 ⟨Z0.z,p::Z0.gh,Z0.vw⟩ Z β H w:=
 ⟨hW.below,hW.oN,hW.wB,hW.mX,hW.yE,hW.low,hW.inj,hW.blk,hW.jJ,λq hq=>by
  rcases List.mem_cons.1 hq with rfl|hq
  ·exact h
  ·exact hW.gh q hq,hW.vw⟩
theorem RW.au2 {p:LV×Value}(hW:RW G w0 ⟨Z0.z,p::Z0.gh,Z0.vw⟩ Z β H w):RW G w0 Z0 Z β H w:=
 ⟨hW.below,hW.oN,hW.wB,hW.mX,hW.yE,hW.low,hW.inj,hW.blk,hW.jJ,λq hq=>hW.gh q (List.mem_cons_of_mem _ hq),hW.vw⟩
theorem yT {LL:vK} {K:Hand} (hΓ:∀g S,Γ g=some S→Valid P G g S) (hLL:W9 P G LL) (hK:dn P G K):dn P G (Bd P G Γ LL K):=by
  refine ⟨λw0 Z0 Z β H w g args vals lv H' hW hr hok h=>?_,λw0 Z0 Z β H w k args vals lv H' hW hr hok h=>?_⟩
  ·simp only [Bd] at h
   split at h
   ·rename_i fn hfn
    split at h
    ·rename_i c hc
     obtain ⟨⟨x,F1,H1⟩,h1,h2⟩:=T.bF h;refine callsIn_wide.1 (callsIn_of_wp_marks (n:=0) hfn hc trivial ?_);refine bI (A:=AN H.length) (L:=LL K g H.length) hΓ hK c (λb hb=>hLL _ g fn c H.length b hK hfn hc hb) none w0 Z0 Z β _ H _ w [] _ x F1 H1 (λp hp=>(hW.gh p hp).2) (.inl rfl) Pv.nil hW (NG hr hok fn.ntmps) h1 λds' Z' β' a' w' e0 e1 e2=>?_
     have fin:((Qc P fn F1 H1 fn.results.toList).bind λl=>(T.ok (one l,H1):T (LV×List aZ))).all (λq=>q=(lv,H'))→LeavesInM Fence.wide 0 P fn a'.tmps (λe w'=>∃v,e=.returned v∧∃Z' β',RW G w0 Z0 Z' β' H' w'∧R β' Z' w' lv v∧okV H'.length lv) a'.defers .returning w':=λh2=>by
      rw [e2.defers.1];refine zx ds' w' a' e1 e2 e0 λw'' a'' et f1 f2=>?_
      obtain ⟨l,g1,g2⟩:=T.bF h2;simp only [T.all,Prod.mk.injEq] at g2;obtain ⟨g2,g3⟩:=g2;subst g3;obtain ⟨vs,g3,g4,g5⟩:=tZ fn.results.toList l f1 f2 g1;refine ⟨if hs:vs.toArray.size=1 then vs.toArray[0] else .tuple vs.toArray,?_,_,rfl,Z',β',f1,?_,?_⟩
      ·rw [←et,Us,Array.mapM_eq_mapM_toList]
       simp only [Sem.run_bind,Sem.run_map,g3,Result.andThen_ok,Sem.run_pure]
      ·rw [←g2];exact aoz g4
      ·rw [←g2];exact y9 g5
     cases x with
     |normal=>exact fin h2
     |ret=>exact fin h2
     |exit m=>cases h2
    ·cases h
   ·cases h
  ·simp only [Bd] at h
   split at h
   ·rename_i Fr t ps asg body hb
    split at h
    ·rename_i hc
     obtain ⟨hc1,hc2,hc3⟩:=hc;obtain ⟨⟨y,F1,H1⟩,h1,h2⟩:=T.bF h
     have hbk:=(hW.blk k _ hb).1
     simp only [gY] at hbk;obtain ⟨rr,q1,q2,q3,q4,q5,q6⟩:=hbk
     have hokF:dQ H.length Fr:=(hW.blk k _ hb).2.1
     have hvl:vals.size=args.length:=by have:=RL.length hr;simpa using this
     have hkH:k<H.length:=(List.getElem?_eq_some_iff.1 hb).1
     refine ⟨rr,q1,by rw [q2,hvl,hc1],?_⟩
     have hF0:RF [] β Z w H.length Fr {tmps:=rr.tmps,defers:=[]}:=by
      refine ⟨by have:=RL.length q6;simpa using this,λi x hx=>?_,rfl,λ_ h=>by cases h⟩
      obtain ⟨v,e1,e2⟩:=RL.get i x q6 hx;refine ⟨?_,dQ.get i x hokF hx⟩
      have:rr.tmps.getD i undef=v:=by
       rw [Array.getD_eq_getD_getElem?]
       have:rr.tmps[i]? =some v:=by simpa using e1
       rw [this];rfl
      rw [this];exact e2
     have hF1:=Yy ps.toList args vals.toList Fr _ hF0 hr hok
     generalize hl:(β k).b=l at*
     have hyl:R β Z w (.yt k) (.func (.yield l) #[] #[]):=by simp only [R,hl]
     have hW1:=hW.ghost (p:=(LV.yt k,Value.func (.yield l) #[] #[])) ⟨hyl,hkH⟩
     have atl:∀ {Z':Nat→Prop} {β':Nat→Loc} {H':List aZ} {w':World},RW G w0 ⟨Z0.z,(LV.yt k,Value.func (.yield l) #[] #[])::Z0.gh,Z0.vw⟩ Z' β' H' w'→(β' k).b=l:=λr1=>by
      have:=(r1.gh (LV.yt k,Value.func (.yield l) #[] #[]) (by simp)).1
      simp only [R,Value.func.injEq,Fn.yield.injEq] at this;exact this.1.symm
     refine roundIn_of_wpIn trivial ?_;rw [q3,q4,q2,alV];refine bI (A:=λ_=>True) (L:=Ky) hΓ hK asg (λb _=>Bf) (some l) w0 _ Z β _ H _ w [] _ y F1 H1 trivial (.inr hc2) Pv.nil hW1 hF1 h1 λds1 Z1 β1 a1 w1 e0 e1 e2=>?_
     simp only at h2;cases y with
     |exit m=>cases h2
     |ret=>cases h2
     | normal=>
      simp only at h2;split at h2
      ·rename_i Fr1 t1 ps1 asg1 body1 hb1
       obtain ⟨⟨x,F2,H2⟩,h3,h4⟩:=T.bF h2
       have hbk1:=(e1.blk k _ hb1).1
       simp only [gY] at hbk1;obtain ⟨r1,p1,p2,p3,p4,p5,p6⟩:=hbk1
       have a1l:=atl e1
       rw [a1l] at p1;refine ⟨_,run_beginRound p1 p5.1,?_⟩
       obtain ⟨t1a,t1b⟩:=RW.turn (t':=t) (nb:=.ni ps1 asg1 body1 .busy) (r':={r1 with state:=.busy}) e1 hb1 (by
        simp only [gY];rw [a1l];exact ⟨{r1 with state:=.busy},World.putObj_heap_same (Array.getElem?_eq_some_iff.1 p1).1,p2,p3,p4,rfl,RL.mono (n:=H1.length) (λ_ _=>rfl) (λ_ h=>h) (λb hz=>World.putObj_heap_other (λe=>e1.mX k _ hb1 trivial rfl (by rw [a1l,←e];exact hz))) _ _ (e1.blk k _ hb1).2.1 p6⟩) ⟨(e1.blk k _ hb1).2.1,trivial⟩
       rw [a1l] at t1a t1b
       have hF2:RF ds1 β1 Z1 (w1.putObj l (.loop {r1 with state:=.busy})) (H1.set k ⟨Fr1,t,.ni ps1 asg1 body1 .busy,false⟩).length F1 a1:=by
        rw [List.length_set];exact e2.mono (Nat.le_refl _) (λ_ _=>rfl) (λ_ h=>h) t1b
       refine bI (A:=λ_=>True) (L:=ql P G Γ K 20 2) hΓ hK body (λb _=>dA hΓ hK 20 2 b) (some l) w0 _ Z1 β1 _ _ a1 _ ds1 _ x F2 H2 trivial (.inr hc3) e0 t1a hF2 h3 λds2 Z2 β2 a2 w2 f0 f1 f2=>?_
       split at h4
       ·rename_i Fr2 t2 ps2 asg2 body2 hb2
        have hbk2:=(f1.blk k _ hb2).1
        simp only [gY] at hbk2;obtain ⟨r2,s1,s2,s3,s4,s5,s6⟩:=hbk2
        have a2l:=atl f1
        rw [a2l] at s1
        have fin:∀(st:LS) (jump:Option Code) (b:Bool),LsR st {r2 with state:=if jump.isNone then .ready else .done,pending:=jump}→jump.isNone=b→(T.ok (LV.bl b,H2.set k ⟨Fr2,t,.ni ps2 asg2 body2 st,false⟩):T (LV×List aZ)).all (λq=>q=(lv,H'))→
          ∃v w',(Instr.endRound l jump).run P w2=.ok v w'∧(∃v',Ending.returned v=.returned v'∧∃Z' β',RW G w0 Z0 Z' β' H' w'∧R β' Z' w' lv v'∧okV H'.length lv):=λst jump b hst hj h4=>by
         simp only [T.all,Prod.mk.injEq] at h4;obtain ⟨rfl,rfl⟩:=h4;refine ⟨_,_,run_endRound jump s1,_,rfl,Z2,β2,?_,?_,trivial⟩
         ·obtain ⟨t2a,t2b⟩:=RW.turn (t':=t) (nb:=.ni ps2 asg2 body2 st) (r':={r2 with state:=if jump.isNone then .ready else .done,pending:=jump}) f1 hb2 (by
           simp only [gY];rw [a2l];exact ⟨_,World.putObj_heap_same (Array.getElem?_eq_some_iff.1 s1).1,s2,s3,s4,hst,RL.mono (n:=H2.length) (λ_ _=>rfl) (λ_ h=>h) (λb hz=>World.putObj_heap_other (λe=>f1.mX k _ hb2 trivial rfl (by rw [a2l,←e];exact hz))) _ _ (f1.blk k _ hb2).2.1 s6⟩) ⟨(f1.blk k _ hb2).2.1,trivial⟩
          rw [a2l] at t2a;exact t2a.au2
         ·simp only [R,hj]
        cases x with
        |normal=>exact fin .ready none true ⟨rfl,rfl⟩ rfl h4
        |exit m=>exact fin (.done (.exit m)) (some (.exit m)) false ⟨rfl,rfl⟩ rfl h4
        |ret=>exact fin (.done .ret) (some .ret) false ⟨rfl,rfl⟩ rfl h4
       ·cases h4
      ·cases h2
    ·cases h
   ·cases h
theorem bV {LL:vK}(hΓ:∀g S,Γ g=some S→Valid P G g S) (hLL:W9 P G LL):∀(d:Nat),dn P G (inl P G Γ LL d)
 |0=>aA
 |d+1=>yT hΓ hLL (bV hΓ hLL d)
def uO (P:Program) (G:dI) (g:FuncId) (m:List LV→List aZ→T (LV×List aZ)):Prop:=
 ∀(w0:World) (Z0:Gz) (Z:Nat→Prop) (β:Nat→Loc) (H:List aZ) (w:World) (args:List LV) (vals:Array Value) (lv:LV) (H':List aZ),RW G w0 Z0 Z β H w→RL β Z w args vals.toList→dQ H.length args→(m args H).all (λq=>q=(lv,H'))→
  Calls P g vals w λe w'=>∃v,e=.returned v∧∃Z' β',RW G w0 Z0 Z' β' H' w'∧R β' Z' w' lv v∧okV H'.length lv
theorem xP {LL:vK}{C:Does}(hΓ:∀g S,Γ g=some S→Valid P G g S) (hLL:W9 P G LL) (hC:∀g m,C g=some m→uO P G g m):∀(d:Nat),dn P G (Wh P G Γ LL C d)
 |0=>aA
 | d+1=>by
  have h:=yT hΓ hLL (xP hΓ hLL hC d)
  refine ⟨λw0 Z0 Z β H w g args vals lv H' hW hr hok hq=>?_,h.y⟩
  simp only [Wh] at hq;split at hq
  ·rename_i m hm
   exact hC g m hm w0 Z0 Z β H w args vals lv H' hW hr hok hq
  ·exact h.k w0 Z0 Z β H w g args vals lv H' hW hr hok hq
theorem uO.walk {LL:vK}{K:Hand}{g:FuncId}{m:List LV→List aZ→T (LV×List aZ)}(hΓ:∀g S,Γ g=some S→Valid P G g S) (hLL:W9 P G LL) (hK:dn P G K)
  (hm:∀args H lv H',(m args H).all (λq=>q=(lv,H'))→((Bd P G Γ LL K).k g args H).all (λq=>q=(lv,H'))):uO P G g m:=
 λw0 Z0 Z β H w args vals lv H' hW hr hok hq=>(yT hΓ hLL hK).k w0 Z0 Z β H w g args vals lv H' hW hr hok (hm args H lv H' hq)
def jT (P:Program) (G:dI) (Γ:Specs) (m d:Nat):vK:=λK _ _=>ql P G Γ K m d
theorem dD {m d:Nat}(hΓ:∀g S,Γ g=some S→Valid P G g S):W9 P G (jT P G Γ m d):=λ_ _ _ _ _ b hK _ _ _=>dA hΓ hK m d b
def dK (g:FuncId) (N id:Nat) (t:List LV→List aZ→T (Ex×List LV×List aZ)) (LL:vK):vK:=λK g' N' b=>if g'=g∧N'=N∧rQ b=id then t else LL K g' N' b
theorem bg {g:FuncId}{N id:Nat}{t:List LV→List aZ→T (Ex×List LV×List aZ)}{LL:vK}{fn:Func}{c bd:Code}(hfn:P.funcs[g]? =some fn) (hc:fn.body=some c) (hid:(ax c).filter (λb=>rQ b==id)=[bd]) (ht:bC P G (AN N) (.loop bd) t) (h:W9 P G LL):W9 P G (dK g N id t LL):=by
 intro K g' fn' c' N' b hK hfn' hc' hb;unfold dK;split
 ·rename_i e
  obtain ⟨rfl,rfl,e⟩:=e;rw [hfn] at hfn'
  have:=Option.some.inj hfn'
  subst this;rw [hc] at hc'
  have:=Option.some.inj hc'
  subst this
  have hm:b∈(ax c).filter (λb=>rQ b==id):=List.mem_filter.2 ⟨hb,by simpa using e⟩
  rw [hid] at hm
  have:b=bd:=by simpa using hm
  subst this;exact ht
 ·exact h K g' fn' c' N' b hK hfn' hc' hb
theorem al5 {f:FuncId}{fn:Func}{c:Code}{S:List LV→T LV}{L:F5}(hfn:P.funcs[f]? =some fn) (hc:fn.body=some c) (hΓ:∀g S,Γ g=some S→Valid P G g S) (hK:dn P G K)
  (hL:∀b∈ax c,Sound P G (.loop b) (L (rQ b))) (hS:∀args lv,(S args).all (λx=>x=lv)→(azl P G Γ K L fn args).all (λx=>x=lv)):Valid P G f S:=by
 intro args vals w Z lv hz hg hok hr h
 have h:=hS args lv h
 unfold azl at h;simp only [hc] at h;obtain ⟨⟨x,F',H'⟩,h1,h2⟩:=T.bF h;refine callsIn_wide.1 (callsIn_of_wp_marks (n:=0) hfn hc trivial ?_)
 have hW:RW G w ⟨Z,[],[]⟩ Z β0 [] w:=⟨Below.refl _ _,hz,λb h=> .inl h,λk b hk=>by simp at hk,λk b hk=>by simp at hk,λk b hk=>by simp at hk,λi j bi bj hi=>by simp at hi,λk b hb=>by simp at hb,hg,λp hp=>(by cases hp),λD hD=>(by cases hD)⟩
 have hF:RF [] β0 Z w ([]:List aZ).length (args++List.replicate (fn.ntmps-args.length) (.v undef)) {tmps:=vals++Array.replicate (fn.ntmps-vals.size) undef,defers:=[]}:=NG (H:=[]) hr hok fn.ntmps
 refine aQ (L:=L) hΓ hK c hL none w ⟨Z,[],[]⟩ Z β0 _ [] _ w [] _ x F' H' (λp hp=>by cases hp) (.inl rfl) Pv.nil hW hF h1 λds' Z' β' a' w' e0 e1 e2=>?_
 have fin:((Qc P fn F' H' fn.results.toList).bind λl=>if noOwn (one l) then (T.ok (one l):T LV) else (gX H' 8 (one l)).bind λ_=> .ok (su H' 8 (one l))).all (λx=>x=lv)→LeavesInM Fence.wide 0 P fn a'.tmps (λe w'=>Below w.heap.size w w'∧∃v',e=.returned v'∧okV 0 lv∧R β0 (λb=>Z b∨(w.heap.size≤b∧b<w'.heap.size)) w' lv v') a'.defers .returning w':=λh2=>by
  rw [e2.defers.1];refine zx ds' w' a' e1 e2 e0 λw'' a'' et f1 f2=>?_
  obtain ⟨l,g1,g2⟩:=T.bF h2;split at g2
  ·rename_i hno
   simp only [T.all] at g2;obtain ⟨vs,g3,g4,g5⟩:=tZ fn.results.toList l f1 f2 g1
   have hok0:okV 0 lv:=by rw [←g2];exact noOwn_ok _ hno (y9 g5)
   refine ⟨if hs:vs.toArray.size=1 then vs.toArray[0] else .tuple vs.toArray,?_,f1.below,_,rfl,hok0,?_⟩
   ·rw [←et,Us,Array.mapM_eq_mapM_toList]
    simp only [Sem.run_bind,Sem.run_map,g3,Result.andThen_ok,Sem.run_pure]
   ·have:=aoz g4
    rw [g2] at this
    exact R.mono (n:=0) (λ_ hk=>absurd hk (by omega)) (λb hb=>by
     rcases f1.wB b hb with h|h
     ·exact .inl h
     ·exact .inr ⟨h,f1.oN b hb⟩) (λ_ _=>rfl) _ _ hok0 this
  ·obtain ⟨_,hg,g2⟩:=T.bF g2
   have hG:=T.bQ (K':=λ_=>True) (λ_ _=>trivial) hg
   simp only [T.all] at g2;obtain ⟨vs,g3,g4,g5⟩:=tZ fn.results.toList l f1 f2 g1
   have hok0:okV 0 lv:=by rw [←g2];exact tV H' (λk b hb=>(f1.blk k b hb).2) 8 _ (y9 g5)
   refine ⟨if hs:vs.toArray.size=1 then vs.toArray[0] else .tuple vs.toArray,?_,f1.below,_,rfl,hok0,?_⟩
   ·rw [←et,Us,Array.mapM_eq_mapM_toList]
    simp only [Sem.run_bind,Sem.run_map,g3,Result.andThen_ok,Sem.run_pure]
   ·have:=wC (S:=λ_=>True) f1 (λ_ _ _ _ _ _=>trivial) 8 _ _ hG (λ_ _=>trivial) (y9 g5) (aoz g4)
    rw [g2] at this
    exact R.mono (n:=0) (λ_ hk=>absurd hk (by omega)) (λb hb=>by
     rcases hb with hb|⟨k,bk,_,h2,h3,rfl⟩
     ·rcases f1.wB b hb with h|h
      ·exact .inl h
      ·exact .inr ⟨h,f1.oN b hb⟩
     ·exact .inr ⟨f1.low k bk h2 h3,f1.lt h2 h3⟩) (λ_ _=>rfl) _ _ hok0 this
 cases x with
 |normal=>exact fin h2
 |ret=>exact fin h2
 |exit m=>cases h2
end Go.Sx
namespace Go.Sx
open Go Go.RowKit Go.Proofs.YtlihnbimgclogaaGreatDoor
variable {P : Program} {G : dI} {Γ : Specs} {L : F5} {β : Nat → Loc} {Z : Nat → Prop} {Z0 : Gz} {w w0 : World} {F : List LV} {H : List aZ} {a : Act} {ds : List Deferred} {n : Nat}
theorem bf {c:Code}(h:ax c=[]):∀b∈ax c,Sound P G (.loop b) (L (rQ b)):=λb hb=>by rw [h] at hb;cases hb
def Vs (P:Program) (G:dI):List (FuncId×(List LV→T LV))→Prop
 | []=>True
 |p::ps=>Valid P G p.1 p.2∧Vs P G ps
theorem aS:∀ {l:List (FuncId×(List LV→T LV))},Vs P G l→∀g S,aW l g=some S→Valid P G g S
 | [],_,g,S,h=>by cases h
 |p::ps,hv,g,S,h=>by
  simp only [aW] at h;split at h
  ·rename_i hg;simp only [Option.some.injEq] at h;subst h hg;exact hv.1
  ·exact aS hv.2 g S h
theorem alF {α:Type}{t t':T α}{K:α→Prop}(h:t=t') (h':t'.all K):t.all K:=h▸h'
end Go.Sx
namespace Go.Sx
open Go Go.RowKit Go.Proofs.YtlihnbimgclogaaGreatDoor
variable {P : Program} {G : dI} {Γ : Specs} {L : F5} {β : Nat → Loc} {Z : Nat → Prop} {Z0 : Gz} {w w0 : World} {F : List LV} {H : List aZ} {a : Act} {ds : List Deferred} {n : Nat}
def pos (k:Nat):List Nat→Nat→Nat
 | [],i=>i
 |j::js,i=>if k=j then i else pos k js (i+1)
theorem vg {k:Nat}:∀ {ks:List Nat}(i:Nat),k∈ks→i≤pos k ks i∧ks[pos k ks i-i]? =some k∧pos k ks i<i+ks.length
 | [],i,h=>by cases h
 | j::js,i,h=>by
  simp only [pos];split
  ·rename_i e;subst e;exact ⟨Nat.le_refl _,by simp,by simp⟩
  ·rename_i e
   have hk:k∈js:=by
    rcases List.mem_cons.1 h with h|h
    ·exact absurd h e
    ·exact h
   obtain ⟨h1,h2,h3⟩:=vg (i+1) hk;refine ⟨by omega,?_,by simp;omega⟩
   rw [show pos k js (i+1)-i=(pos k js (i+1)-(i+1))+1 by omega]
   simpa using h2
mutual
def renV (ks:List Nat):LV→LV
 | .v x=> .v x
 | .bl b=> .v (.bool b)
 | .ki k n=> .v (.int k n)
 | .own k off=> .own (pos k ks 0) off
 | .agg l=> .agg (renL ks l)
 | .iU l=> .iU (renL ks l)
 | .fn f l=> .fn f (renL ks l)
 | .xq n f=> .xq n f
 | .xl e l=> .xl e l
 | .os k es off n=> .os (pos k ks 0) es off n
 | .op k es i j=> .op (pos k ks 0) es i j
 | .om k=> .om (pos k ks 0)
 | .mp kd kk l=> .mp kd kk (renL ks l)
 | .oc k es off n c=> .oc (pos k ks 0) es off n c
 | .yt k=> .yt (pos k ks 0)
 | .junk=> .junk
def renL (ks:List Nat):List LV→List LV
 | []=>[]
 |x::xs=>renV ks x::renL ks xs
end
def Dz (ks:List Nat):BK→BK
 | .cl=> .cl
 | .vec e l=> .vec e l
 | .mp kd kk vs=> .mp kd kk (renL ks vs)
 | .ni ps asg body st=> .ni ps asg body st
 | .st e l=> .st e l
 | .dead=> .dead
def YE (ks:List Nat) (b:aZ):aZ:=⟨renL ks b.c,b.t,Dz ks b.k,b.p⟩
def ar5:aZ:=⟨[],0,.dead,false⟩
def nodupB:List Nat→Bool
 | []=>true
 |k::ks=>!ks.contains k&&nodupB ks
theorem Me:∀ {ks:List Nat},nodupB ks=true→∀(i j k:Nat),ks[i]? =some k→ks[j]? =some k→i=j
 | [],_,i,j,k,h,_=>by simp at h
 | x::xs,hn,i,j,k,hi,hj=>by
  simp only [nodupB,Bool.and_eq_true,Bool.not_eq_true'] at hn
  have hx:x∉xs:=by simpa using hn.1
  cases i with
  | zero=>
   cases j with
   |zero=>rfl
   |succ j=>
    simp at hi hj
    subst hi;exact absurd (List.mem_of_getElem? hj) hx
  | succ i=>
   cases j with
   |zero=>
    simp at hi hj
    subst hj;exact absurd (List.mem_of_getElem? hi) hx
   |succ j=>
    simp at hi hj
    rw [Me hn.2 i j k hi hj]
def Rn (ks:List Nat) (β β':Nat→Loc):Prop:=∀i k,ks[i]? =some k→β' i=β k
theorem Rn.at {ks:List Nat}{β':Nat→Loc}(h:Rn ks β β') {k:Nat}(hk:k∈ks):β' (pos k ks 0)=β k∧pos k ks 0<ks.length:=by
 obtain ⟨_,h2,h3⟩:=vg 0 hk;exact ⟨h _ _ (by simpa using h2),by omega⟩
mutual
theorem ren_R {ks:List Nat}{β':Nat→Loc}{n:Nat}(h:Rn ks β β'):∀(x:LV) (y:Value),(∀k,k∈owns x→k∈ks)→okV n x→R β Z w x y→R β' Z w (renV ks x) y
 | .v _,_,_,_,hr=>hr
 | .bl _,_,_,_,hr=>hr
 | .ki _ _,_,_,_,hr=>hr
 | .own k off,y,ho,hok,hr=>by
  simp only [renV,R] at*;rw [(h.at (ho k (by simp [owns]))).1];exact hr
 | .agg l,y,ho,hok,hr=>by
  simp only [renV,R,owns,okV] at*;obtain ⟨ys,h1,h2⟩:=hr;exact ⟨ys,h1,ren_RL h l _ ho hok h2⟩
 | .iU l,y,ho,hok,hr=>by
  simp only [renV,R,owns,okV] at*;obtain ⟨ys,h1,h2⟩:=hr;exact ⟨ys,h1,ren_RL h l _ ho hok h2⟩
 | .fn f l,y,ho,hok,hr=>by
  simp only [renV,R,owns,okV] at*;obtain ⟨ys,h1,h2⟩:=hr;exact ⟨ys,h1,ren_RL h l _ ho hok h2⟩
 | .xq n f,y,ho,hok,hr=>by
  simp only [renV,R,okV] at*;obtain ⟨b,off,h1,h2,h3⟩:=hr;refine ⟨b,off,h1,h2,λj hj=>?_⟩
  obtain ⟨z,h4,h5⟩:=h3 j hj;exact ⟨z,h4,R.mono (n:=0) (λ_ hk=>absurd hk (by omega)) (λ_ h=>h) (λ_ _=>rfl) _ _ (hok j) h5⟩
 | .xl e l,y,ho,hok,hr=>by simp only [renV,R] at*;exact hr
 | .os k es off n,y,ho,hok,hr=>by
  simp only [renV,R] at*;rw [(h.at (ho k (by simp [owns]))).1];exact hr
 | .op k es i j,y,ho,hok,hr=>by
  simp only [renV,R] at*;rw [(h.at (ho k (by simp [owns]))).1];exact hr
 | .om k,y,ho,hok,hr=>by
  simp only [renV,R] at*;rw [(h.at (ho k (by simp [owns]))).1];exact hr
 | .mp kd kk l,y,ho,hok,hr=>by
  simp only [renV,R,owns,okV] at*;obtain ⟨r,es,clock,h1,h2,h3,h4,h5⟩:=hr;exact ⟨r,es,clock,h1,h2,h3,h4,ren_RL h l _ ho hok h5⟩
 | .oc k es off n c,y,ho,hok,hr=>by
  simp only [renV,R] at*;rw [(h.at (ho k (by simp [owns]))).1];exact hr
 | .yt k,y,ho,hok,hr=>by
  simp only [renV,R] at*;rw [(h.at (ho k (by simp [owns]))).1];exact hr
 | .junk,_,_,_,_=>by simp only [renV,R]
theorem ren_RL {ks:List Nat}{β':Nat→Loc}{n:Nat}(h:Rn ks β β'):∀(l:List LV) (ys:List Value),(∀k,k∈ownsL l→k∈ks)→dQ n l→RL β Z w l ys→RL β' Z w (renL ks l) ys
 | [],_,_,_,hr=>by simpa only [renL,RL] using hr
 |x::xs,ys,ho,hok,hr=>by
  simp only [renL,RL,ownsL,List.mem_append,dQ] at*;obtain ⟨y,zs,h1,h2,h3⟩:=hr;exact ⟨y,zs,h1,ren_R h x y (λk hk=>ho k (.inl hk)) hok.1 h2,ren_RL h xs zs (λk hk=>ho k (.inr hk)) hok.2 h3⟩
end
mutual
theorem ren_ok {ks:List Nat}{n:Nat}:∀(x:LV),(∀k,k∈owns x→k∈ks)→okV n x→okV ks.length (renV ks x)
 | .v _,_,_=>trivial
 | .bl _,_,_=>trivial
 | .ki _ _,_,_=>trivial
 | .own k off,ho,_=>by simp only [renV,okV];have:=(vg 0 (ho k (by simp [owns]))).2.2;omega
 | .agg l,ho,hk=>by simp only [renV,okV,owns] at*;exact ren_okL l ho hk
 | .iU l,ho,hk=>by simp only [renV,okV,owns] at*;exact ren_okL l ho hk
 | .fn f l,ho,hk=>by simp only [renV,okV,owns] at*;exact ren_okL l ho hk
 | .xq n f,_,hk=>by simpa only [renV,okV] using hk
 | .xl _ _,_,_=>trivial
 | .os k _ _ _,ho,_=>by simp only [renV,okV];have:=(vg 0 (ho k (by simp [owns]))).2.2;omega
 | .op k _ _ _,ho,_=>by simp only [renV,okV];have:=(vg 0 (ho k (by simp [owns]))).2.2;omega
 | .om k,ho,_=>by simp only [renV,okV];have:=(vg 0 (ho k (by simp [owns]))).2.2;omega
 | .mp kd kk l,ho,hk=>by simp only [renV,okV,owns] at*;exact ren_okL l ho hk
 | .oc k _ _ _ _,ho,_=>by simp only [renV,okV];have:=(vg 0 (ho k (by simp [owns]))).2.2;omega
 | .yt k,ho,_=>by simp only [renV,okV];have:=(vg 0 (ho k (by simp [owns]))).2.2;omega
 | .junk,_,_=>trivial
theorem ren_okL {ks:List Nat}{n:Nat}:∀(l:List LV),(∀k,k∈ownsL l→k∈ks)→dQ n l→dQ ks.length (renL ks l)
 | [],_,_=>trivial
 |x::xs,ho,hk=>by
  simp only [renL,dQ,ownsL,List.mem_append] at*;exact ⟨ren_ok x (λk hk=>ho k (.inl hk)) hk.1,ren_okL xs (λk hk=>ho k (.inr hk)) hk.2⟩
end
theorem yZ {ks:List Nat}{β':Nat→Loc}{i k:Nat}{b:aZ}(h:β' i=β k):live β' i (YE ks b)↔live β k b:=by
 unfold live YE;cases hb:b.k<;>simp [Dz,h]
def axm (N:Nat) (ks:List Nat):Bool:=ks.take N==List.range N
theorem YJ {N:Nat}{ks:List Nat}(h:axm N ks=true):N≤ks.length∧∀i,i<N→ks[i]? =some i:=by
 have h:ks.take N=List.range N:=by simpa [axm] using h
 have hl:=congrArg List.length h
 simp at hl
 refine ⟨by omega,λi hi=>?_⟩
 have:=congrArg (λl=>l[i]?) h
 simp only [List.getElem?_take,if_pos hi] at this;rw [this]
 simp [hi]
theorem RW.ren {N:Nat}{ks:List Nat}{l:List LV}(hgh:AN N Z0) (hW:RW G w0 Z0 Z β H w) (hc:qG H ks l=true) (hn:nodupB ks=true) (hpin:axm N ks=true):
  ∃β',Rn ks β β'∧RW G w0 Z0 Z β' (ks.map λk=>YE ks (H.getD k ar5)) w:=by
 have hex:∀k,k∈ks→∃b,H[k]? =some b:=λk hk=>by
  unfold qG at hc;simp only [Bool.and_eq_true,List.all_eq_true] at hc
  have:=hc.2 k hk
  cases hb:H[k]? with
  |none=>rw [hb] at this;cases this
  |some b=>exact ⟨b,rfl⟩
 obtain ⟨c1,c2⟩:=mF hc;refine ⟨λi=>β (ks.getD i 0),λi k hi=>by simp [List.getD,hi],?_⟩
 have hRn:Rn ks β (λi=>β (ks.getD i 0)):=λi k hi=>by simp [List.getD,hi]
 generalize hβ':(λi=>β (ks.getD i 0))=β' at hRn⊢
 have old:∀i b,(ks.map λk=>YE ks (H.getD k ar5))[i]? =some b→∃k b0,ks[i]? =some k∧k∈ks∧H[k]? =some b0∧b=YE ks b0∧β' i=β k:=λi b hb=>by
  rw [List.getElem?_map] at hb;cases hk:ks[i]? with
  |none=>simp [hk] at hb
  |some k=>
   have hkm:=List.mem_of_getElem? hk
   obtain ⟨b0,h0⟩:=hex k hkm
   simp [hk,List.getD,h0] at hb
   exact ⟨k,b0,rfl,hkm,h0,hb.symm,hRn i k hk⟩
 refine ⟨hW.below,hW.oN,hW.wB,λi b hb hl hp=>?_,λi b hb hl hp=>?_,λi b hb hl=>?_,λi j bi bj hi hj li lj pi e=>?_,λi b hb=>?_,hW.jJ,λp hp=>⟨R.mono (n:=N) (λk hk=>hRn k k ((YJ hpin).2 k hk)) (λ_ h=>h) (λ_ _=>rfl) _ _ (hgh p hp) (hW.gh p hp).1,okV.mono (by rw [List.length_map];exact (YJ hpin).1) _ (hgh p hp)⟩,hW.vw⟩
 ·obtain ⟨k,b0,h1,h2,h3,rfl,h5⟩:=old i b hb
  rw [h5];exact hW.mX k b0 h3 ((yZ h5).1 hl) hp
 ·obtain ⟨k,b0,h1,h2,h3,rfl,h5⟩:=old i b hb
  rw [h5];exact hW.yE k b0 h3 ((yZ h5).1 hl) hp
 ·obtain ⟨k,b0,h1,h2,h3,rfl,h5⟩:=old i b hb
  rw [h5];exact hW.low k b0 h3 ((yZ h5).1 hl)
 ·obtain ⟨k,b0,h1,h2,h3,rfl,h5⟩:=old i bi hi
  obtain ⟨k',b1,g1,g2,g3,rfl,g5⟩:=old j bj hj;rw [h5,g5] at e
  have:=hW.inj k k' b0 b1 h3 g3 ((yZ h5).1 li) ((yZ g5).1 lj) pi e
  subst this;exact Me hn i j k h1 g1
 ·obtain ⟨k,b0,h1,h2,h3,rfl,h5⟩:=old i b hb
  obtain ⟨q1,q2⟩:=hW.blk k b0 h3
  have ow:=c2 k b0 h2 h3
  have owc:∀j,j∈ownsL b0.c→j∈ks:=λj hj=>ow j (by unfold aZ.owns;exact List.mem_append.2 (.inl hj))
  rw [List.length_map];refine ⟨?_,ren_okL _ owc q2.1,?_⟩
  ·unfold gY at q1⊢
   unfold YE;cases hbk:b0.k with
   |cl=>
    simp only [hbk,Dz] at q1⊢;obtain ⟨cs,e1,e2⟩:=q1;exact ⟨cs,by rw [h5];exact e1,ren_RL hRn _ _ owc q2.1 e2⟩
   |vec e l=>
    simp only [hbk,Dz] at q1⊢;rw [h5];exact q1
   |mp kd kk vs=>
    simp only [hbk,Dz] at q1⊢;obtain ⟨es,clock,e1,e2,e3⟩:=q1;exact ⟨es,clock,by rw [h5];exact e1,e2,ren_RL hRn _ _ (λj hj=>ow j (by unfold aZ.owns;rw [hbk];exact List.mem_append.2 (.inr hj))) (by have:=q2.2;rw [hbk] at this;exact this) e3⟩
   |ni ps asg body st=>
    simp only [hbk,Dz] at q1⊢;obtain ⟨r,e1,e2,e3,e4,e5,e6⟩:=q1;exact ⟨r,by rw [h5];exact e1,e2,e3,e4,e5,ren_RL hRn _ _ owc q2.1 e6⟩
   |st e l=>
    simp only [hbk,Dz] at q1⊢;rw [h5];exact q1
   |dead=>simp only [Dz]
  ·have q22:=q2.2
   unfold YE;cases hbk:b0.k with
   |mp kd kk vs=>
    simp only [hbk,Dz] at q22⊢;exact ren_okL _ (λj hj=>ow j (by unfold aZ.owns;rw [hbk];exact List.mem_append.2 (.inr hj))) q22
   |cl=>simp only [Dz]
   |vec e l=>simp only [Dz]
   |ni ps asg body st=>simp only [Dz]
   |st e l=>simp only [Dz]
   |dead=>simp only [Dz]
def at_ (i:Nat):List Nat→List LV→LV
 |j::js,x::xs=>if i=j then x else at_ i js xs
 |_,_=> .junk
def xZ (live:List Nat) (vals:List LV):Nat→Nat→List LV
 |0,_=>[]
 |n+1,i=>at_ i live vals::xZ live vals n (i+1)
def nT (n:Nat) (live:List Nat) (vals:List LV):List LV:=xZ live vals n 0
theorem ul (live:List Nat) (vals:List LV):∀n i,(xZ live vals n i).length=n
 |0,_=>rfl
 |n+1,i=>by simp [xZ,ul live vals n (i+1)]
theorem Iw (live:List Nat) (vals:List LV):∀n i k,k<n→(xZ live vals n i)[k]? =some (at_ (i+k) live vals)
 |0,_,k,h=>by omega
 |n+1,i,0,_=>by simp [xZ]
 |n+1,i,k+1,h=>by
  simp only [xZ,List.getElem?_cons_succ];rw [Iw live vals n (i+1) k (by omega)]
  congr 2;omega
theorem asc (i:Nat):∀(live:List Nat) (vals:List LV),at_ i live vals=.junk∨∃p:Nat,live[p]? =some i∧vals[p]? =some (at_ i live vals)
 | [],_=> .inl rfl
 |_::_,[]=> .inl rfl
 | j::js,x::xs=>by
  simp only [at_];split
  ·rename_i h;exact .inr ⟨0,by simp [h],by simp⟩
  ·rcases asc i js xs with h|⟨p,h1,h2⟩
   ·exact .inl h
   ·exact .inr ⟨p+1,by simpa using h1,by simpa using h2⟩
def Qu (live:List Nat) (F:List LV):List LV:=live.map λj=>norm (F.getD j .junk)
theorem auS {live:List Nat}(hF:RF ds β Z w n F a):RL β Z w (Qu live F) (live.map λj=>a.tmps.getD j undef)∧dQ n (Qu live F):=by
 have one:∀j,R β Z w (F.getD j .junk) (a.tmps.getD j undef)∧okV n (F.getD j .junk):=λj=>by
  cases hj:F[j]? with
  |none=>simp [List.getD,hj,R,okV]
  |some x=>simp only [List.getD,hj,Option.getD_some];exact hF.get j x hj
 refine ⟨RL.dO (by simp [Qu]) λi x hx=>?_,dQ.dO λi x hx=>?_⟩
 ·simp only [Qu,List.getElem?_map] at hx⊢
  cases hl:live[i]? with
  |none=>simp [hl] at hx
  |some j=>simp [hl] at hx;subst hx;exact ⟨_,by simp,vP (one j).1⟩
 ·simp only [Qu,List.getElem?_map] at hx
  cases hl:live[i]? with
  |none=>simp [hl] at hx
  |some j=>simp [hl] at hx;subst hx;exact vk (one j).2
theorem arQ {live:List Nat}{vals:List LV}{N:Nat}(hs:a.tmps.size=N) (hd:a.defers=ds∧∀d,d∈ds→∃D,d=kN D∧Z D∧rV w D) (h:RL β Z w vals (live.map λj=>a.tmps.getD j undef)) (hk:dQ n vals):RF ds β Z w n (nT N live vals) a:=by
 refine ⟨by rw [hs];simp [nT,ul],λt x hx=>?_,hd⟩
 have ht:t<N:=by have:=(List.getElem?_eq_some_iff.1 hx).1;simpa [nT,ul] using this
 unfold nT at hx;rw [Iw live _ _ _ t ht] at hx;simp only [Option.some.injEq,Nat.zero_add] at hx;rcases asc t live vals with h1|⟨p,h1,h2⟩
 ·rw [hx] at h1;subst h1;exact ⟨by simp only [R],trivial⟩
 ·rw [hx] at h2
  obtain ⟨y,e1,e2⟩:=RL.get _ _ h h2;simp only [List.getElem?_map,h1,Option.map_some,Option.some.injEq] at e1;subst e1;exact ⟨e2,dQ.get _ _ hk h2⟩
inductive Up where
 |nl (i:Nat) (t:TypeId) (ty:Ty)
 |pb (i:Nat) (ty:Ty)
 |nc (k j:Nat) (t:TypeId) (ty:Ty)
 |pc (k j:Nat) (ty:Ty)
 |pk (k:Nat)
 |ns (i j:Nat) (t:TypeId) (ty:Ty)
 |ps (i j:Nat) (ty:Ty)
def aRh (F:List LV):Up→Up
 | .ns i j t ty=>match F.getD i .junk with
  | .own k _=> .nc k j t ty
  |_=> .ns i j t ty
 | .ps i j ty=>match F.getD i .junk with
  | .own k _=> .pc k j ty
  |_=> .ps i j ty
 |u=>u
def JU:List Up→List LV→List aZ→T (List LV×List aZ)
 | [],F,H=> .ok (F,H)
 | .nl i t ty::us,F,H=>match F.getD i .junk with
  | .v (.slice none 0 0)=>JU us (F.set i (.os H.length ty.n 0 0)) (H++[⟨[],t,.vec ty [],false⟩])
  |_=>JU us F H
 | .pb i ty::us,F,H=>match F.getD i .junk with
  | .v (.slice none 0 0)=>JU us (F.set i (.xl ty [])) H
  | .os k es off n=>if qG H (reach H 64 [k] []) [.os k es off n] then (gX H 6 (.os k es off n)).bind λ_=>JU us (F.set i (su H 6 (.os k es off n))) (o5 (reach H 64 [k] []) 0 H) else .no
  |_=>JU us F H
 | .nc k j t ty::us,F,H=>match H[k]? with
  |some ⟨c,bt,.cl,false⟩=>(match c[j]? with
   |some (.v (.slice none 0 0))=>JU us F (H.set k ⟨c.set j (.os H.length ty.n 0 0),bt,.cl,false⟩++[⟨[],t,.vec ty [],false⟩])
   |_=>JU us F H)
  |_=>JU us F H
 | .pc k j ty::us,F,H=>match H[k]? with
  |some ⟨c,bt,.cl,false⟩=>(match c[j]? with
   |some (.v (.slice none 0 0))=>JU us F (H.set k ⟨c.set j (.xl ty []),bt,.cl,false⟩)
   |some (.os k' es off n)=>if qG H (reach H 64 [k'] []) [.os k' es off n]&&!(reach H 64 [k'] []).contains k then (gX H 6 (.os k' es off n)).bind λ_=>JU us F ((o5 (reach H 64 [k'] []) 0 H).set k ⟨c.set j (su H 6 (.os k' es off n)),bt,.cl,false⟩) else .no
   |_=>JU us F H)
  |_=>JU us F H
 | .pk k::us,F,H=>JU us F (o5 (reach H 64 [k] []) 0 H)
 | .ns ..::us,F,H=>JU us F H
 | .ps ..::us,F,H=>JU us F H
theorem RL.set':∀ {l:List LV}{ys:List Value}{j:Nat}{x:LV}{y:Value},RL β Z w l ys→ys[j]? =some y→R β Z w x y→RL β Z w (l.set j x) ys
 | [],ys,j,x,y,h,hy,_=>by simp only [RL] at h;subst h;simp at hy
 |z::l,ys,0,x,y,h,hy,hr=>by
  simp only [List.set_cons_zero,RL] at h⊢;obtain ⟨y0,zs,rfl,h1,h2⟩:=h
  simp at hy
  subst hy;exact ⟨_,zs,rfl,hr,h2⟩
 |z::l,ys,j+1,x,y,h,hy,hr=>by
  simp only [List.set_cons_succ,RL] at h⊢;obtain ⟨y0,zs,rfl,h1,h2⟩:=h;exact ⟨y0,zs,rfl,h1,RL.set' h2 (by simpa using hy) hr⟩
theorem dQ.set' {n:Nat}:∀ {l:List LV}{j:Nat}{x:LV},dQ n l→okV n x→dQ n (l.set j x)
 | [],_,_,h,_=>by simpa using h
 |z::l,0,x,h,hx=>⟨hx,h.2⟩
 |z::l,j+1,x,h,hx=>⟨h.1,dQ.set' h.2 hx⟩
theorem RW.tell {k j:Nat}{c:List LV}{bt:TypeId}{x:LV}(hW:RW G w0 Z0 Z β H w) (hb:H[k]? =some ⟨c,bt,.cl,false⟩) (hx:∀y,(∃z,c[j]? =some z∧R β Z w z y)→R β Z w x y) (hj:∃z,c[j]? =some z) (hok:okV H.length x):RW G w0 Z0 Z β (H.set k ⟨c.set j x,bt,.cl,false⟩) w:=by
 obtain ⟨h1,h2⟩:=hW.blk k _ hb;simp only [gY] at h1;obtain ⟨cs,g1,g2⟩:=h1;obtain ⟨z,hz⟩:=hj;obtain ⟨y,q1,q2⟩:=RL.get j z g2 hz;refine hW.set hb trivial rfl rfl ⟨dQ.set' h2.1 hok,trivial⟩ rfl ⟨rfl,rfl,rfl⟩ (λ_ _=>rfl) ?_
 simp only [gY];exact ⟨cs,g1,RL.set' g2 q1 (hx y ⟨z,hz,q2⟩)⟩
theorem iF:∀(us:List Up) (F:List LV) (H:List aZ) (Z:Nat→Prop) (β:Nat→Loc) (F1:List LV) (H1:List aZ),RW G w0 Z0 Z β H w→RF ds β Z w H.length F a→(JU us F H).all (λq=>q=(F1,H1))→∃Z' β',RW G w0 Z0 Z' β' H1 w∧RF ds β' Z' w H1.length F1 a∧F1.length=F.length
 | [],F,H,Z,β,F1,H1,hW,hF,h=>by
  simp only [JU,T.all,Prod.mk.injEq] at h;obtain ⟨rfl,rfl⟩:=h;exact ⟨Z,β,hW,hF,rfl⟩
 | .nl i t ty::us,F,H,Z,β,F1,H1,hW,hF,h=>by
  simp only [JU] at h;split at h
  ·rename_i hx
   obtain ⟨s1,s2⟩:=hF.slot hx (by simp)
   have hv:=(hF.get i _ s1).1
   simp only [R] at hv;obtain ⟨β',b1,b2,b3⟩:=hW.zI (ℓ:=⟨w.heap.size,0,none⟩) (nb:=⟨[],t,.vec ty [],false⟩) rfl ⟨trivial,trivial⟩ (λhl=>absurd rfl hl) (λβ' g1 g2=>by simp only [gY,g2])
   have hF1:RF ds β' Z w (H++[(⟨[],t,.vec ty [],false⟩:aZ)]).length F a:=hF.mono (by simp) b1 (λ_ h=>h) (λ_ _=>rfl)
   obtain ⟨Z2,β2,c1,c2,c3⟩:=iF us (F.set i (.os H.length ty.n 0 0)) _ Z β' F1 H1 b3 (hF1.know (by simp only [R,b2];exact ⟨trivial,trivial,hv⟩) (by simp [okV])) h
   exact ⟨Z2,β2,c1,c2,by rw [c3];simp⟩
  ·exact iF us F H Z β F1 H1 hW hF h
 | .pb i ty::us,F,H,Z,β,F1,H1,hW,hF,h=>by
  simp only [JU] at h;split at h
  ·rename_i hx
   obtain ⟨s1,s2⟩:=hF.slot hx (by simp)
   have hv:=(hF.get i _ s1).1
   simp only [R] at hv;obtain ⟨Z2,β2,c1,c2,c3⟩:=iF us (F.set i (.xl ty [])) H Z β F1 H1 hW (hF.know (by simp only [R];exact ⟨none,0,hv,Nat.le_refl _,λh=>by simp at h⟩) trivial) h
   exact ⟨Z2,β2,c1,c2,by rw [c3];simp⟩
  ·rename_i k es off n hx
   split at h
   ·rename_i hcl
    obtain ⟨s1,s2⟩:=hF.slot hx (by simp)
    have hv:=hF.get i _ s1
    obtain ⟨_,hg,h2⟩:=T.bF h
    have hG:GX H 6 (.os k es off n):=T.bQ (K':=λ_=>True) (λ_ _=>trivial) hg
    obtain ⟨q1,q2⟩:=mF hcl
    have hP:=hW.pub (reach H 64 [k] [])
    have hH:=λk b hb=>(hW.blk k b hb).2
    have hr:=wC (S:=λk=>k∈reach H 64 [k] []) hW
    have hr:R β (ZP Z β H λj=>j∈reach H 64 [k] []) w (su H 6 (.os k es off n)) (a.tmps.getD i undef):=wC (S:=λj=>j∈reach H 64 [k] []) hW q2 6 _ _ hG (λj hj=>q1 j (by simpa [ownsL] using hj)) hv.2 hv.1
    have hF1:RF ds β (ZP Z β H λj=>j∈reach H 64 [k] []) w (o5 (reach H 64 [k] []) 0 H).length F a:=by
     rw [gK];exact hF.mono (Nat.le_refl _) (λ_ _=>rfl) (λ_ h=> .inl h) (λ_ _=>rfl)
    obtain ⟨Z2,β2,c1,c2,c3⟩:=iF us (F.set i (su H 6 (.os k es off n))) _ _ β F1 H1 hP (hF1.know hr (okV.mono (Nat.zero_le _) _ (tV H hH 6 _ hv.2))) h2;exact ⟨Z2,β2,c1,c2,by rw [c3];simp⟩
   ·cases h
  ·exact iF us F H Z β F1 H1 hW hF h
 | .nc k j t ty::us,F,H,Z,β,F1,H1,hW,hF,h=>by
  simp only [JU] at h;split at h
  ·rename_i c bt hb
   split at h
   ·rename_i hj
    have hkl:k<H.length:=(List.getElem?_eq_some_iff.1 hb).1
    obtain ⟨β',b1,b2,b3⟩:=hW.zI (ℓ:=⟨w.heap.size,0,none⟩) (nb:=⟨[],t,.vec ty [],false⟩) rfl ⟨trivial,trivial⟩ (λhl=>absurd rfl hl) (λβ' g1 g2=>by simp only [gY,g2])
    have hb':(H++[(⟨[],t,.vec ty [],false⟩:aZ)])[k]? =some ⟨c,bt,.cl,false⟩:=by rw [List.getElem?_append_left hkl];exact hb
    have hT:=b3.tell (j:=j) (x:=.os H.length ty.n 0 0) hb' (λy ⟨z,hz,hr⟩=>by
     rw [hj] at hz
     have:=Option.some.inj hz
     subst this;simp only [R] at hr;simp only [R,b2];exact ⟨trivial,trivial,hr⟩) ⟨_,hj⟩ (by simp [okV])
    rw [List.set_append_left _ _ hkl] at hT
    have hF1:RF ds β' Z w (H.set k ⟨c.set j (.os H.length ty.n 0 0),bt,.cl,false⟩++[(⟨[],t,.vec ty [],false⟩:aZ)]).length F a:=hF.mono (by simp) b1 (λ_ h=>h) (λ_ _=>rfl)
    exact iF us F _ Z β' F1 H1 hT hF1 h
   ·exact iF us F H Z β F1 H1 hW hF h
  ·exact iF us F H Z β F1 H1 hW hF h
 | .pc k j ty::us,F,H,Z,β,F1,H1,hW,hF,h=>by
  simp only [JU] at h;split at h
  ·rename_i c bt hb
   split at h
   ·rename_i hj
    have hT:=hW.tell (j:=j) (x:=.xl ty []) hb (λy ⟨z,hz,hr⟩=>by
     rw [hj] at hz
     have:=Option.some.inj hz
     subst this;simp only [R] at hr⊢;exact ⟨none,0,hr,Nat.le_refl _,λh=>by simp at h⟩) ⟨_,hj⟩ trivial
    exact iF us F _ Z β F1 H1 hT (hF.mono (by simp) (λ_ _=>rfl) (λ_ h=>h) (λ_ _=>rfl)) h
   ·rename_i k' es off n hj
    split at h
    ·rename_i hcl
     simp only [Bool.and_eq_true,Bool.not_eq_true'] at hcl;obtain ⟨hcl,hnk⟩:=hcl;obtain ⟨_,hg,h2⟩:=T.bF h
     have hG:GX H 6 (.os k' es off n):=T.bQ (K':=λ_=>True) (λ_ _=>trivial) hg
     obtain ⟨q1,q2⟩:=mF hcl
     have hP:=hW.pub (reach H 64 [k'] [])
     have hH:=λk b hb=>(hW.blk k b hb).2
     have hok:okV H.length (.os k' es off n):=dQ.get j _ (hH k _ hb).1 hj
     have hb':(o5 (reach H 64 [k'] []) 0 H)[k]? =some ⟨c,bt,.cl,false⟩:=by
      rw [Am,hb];simp only [Option.map_some,Nat.zero_add,hnk];rfl
     have hT:=hP.tell (j:=j) (x:=su H 6 (.os k' es off n)) hb' (λy ⟨z,hz,hr⟩=>by
      rw [hj] at hz
      have:=Option.some.inj hz
      subst this
      have hr':R β Z w (.os k' es off n) y:=by simpa only [R] using hr
      exact wC (S:=λj=>j∈reach H 64 [k'] []) hW q2 6 _ _ hG (λj hj=>q1 j (by simpa [ownsL] using hj)) hok hr') ⟨_,hj⟩ (okV.mono (Nat.zero_le _) _ (tV H hH 6 _ hok))
     exact iF us F _ _ β F1 H1 hT (hF.mono (by simp [gK]) (λ_ _=>rfl) (λ_ h=> .inl h) (λ_ _=>rfl)) h2
    ·cases h
   ·exact iF us F H Z β F1 H1 hW hF h
  ·exact iF us F H Z β F1 H1 hW hF h
 | .pk k::us,F,H,Z,β,F1,H1,hW,hF,h=>by
  simp only [JU] at h
  have hP:=hW.pub (reach H 64 [k] [])
  have hF1:RF ds β (ZP Z β H λj=>j∈reach H 64 [k] []) w (o5 (reach H 64 [k] []) 0 H).length F a:=by
   rw [gK];exact hF.mono (Nat.le_refl _) (λ_ _=>rfl) (λ_ h=> .inl h) (λ_ _=>rfl)
  exact iF us F _ _ β F1 H1 hP hF1 h
 | .ns ..::us,F,H,Z,β,F1,H1,hW,hF,h=>iF us F H Z β F1 H1 hW hF (by simpa only [JU] using h)
 | .ps ..::us,F,H,Z,β,F1,H1,hW,hF,h=>iF us F H Z β F1 H1 hW hF (by simpa only [JU] using h)
def aIn (H:List aZ):LV→T LV
 | .os k es off n=>match H[k]? with
  |some ⟨_,_,.vec _ l,_⟩=> .req (off=0∧n=List.length l) (.ok (.os k es 0 (List.length l)))
  |_=> .ok (.os k es off n)
 |x=> .ok x
def Zm (H:List aZ):List LV→T (List LV)
 | []=> .ok []
 |x::xs=>(aIn H x).bind λy=>(Zm H xs).bind λys=> .ok (y::ys)
theorem azm {x y:LV}(h:(aIn H x).all (λz=>z=y)):y=x:=by
 unfold aIn at h;split at h
 ·split at h
  ·simp only [T.all] at h
   obtain ⟨⟨rfl,rfl⟩,h⟩:=h;exact h.symm
  ·exact h.symm
 ·exact h.symm
theorem KI:∀ {l l':List LV},(Zm H l).all (λz=>z=l')→l'=l
 | [],l',h=>h.symm
 |x::xs,l',h=>by
  simp only [Zm] at h;obtain ⟨y,h1,h2⟩:=T.bF h;obtain ⟨ys,h3,h4⟩:=T.bF h2;simp only [T.all] at h4;rw [←h4,azm h1,KI h3]
def ade (H:List aZ):List aZ→T (List aZ)
 | []=> .ok []
 |b::bs=>(Zm H b.c).bind λc=>(ade H bs).bind λcs=> .ok (⟨c,b.t,b.k,b.p⟩::cs)
theorem Wy:∀ {l l':List aZ},(ade H l).all (λz=>z=l')→l'=l
 | [],l',h=>h.symm
 |b::bs,l',h=>by
  simp only [ade] at h;obtain ⟨c,h1,h2⟩:=T.bF h;obtain ⟨cs,h3,h4⟩:=T.bF h2;simp only [T.all] at h4;rw [←h4,KI h1,Wy h3]
structure Vw where
 ex:Ex
 len:Nat
 vals:List LV
 FO:List aZ
 low:Bool
def ak2 (N:Nat) (H:List aZ) (vals:List LV):List Nat:=reach H 400 (ownsL vals++(H.take N).flatMap aZ.owns) (List.range N)
def aNY (N:Nat) (live:List Nat) (x:Ex) (n:Nat) (F:List LV) (H:List aZ):T Vw:=
 (Zm H (Qu live F)).bind λvals=>(ade H ((ak2 N H vals).map (λk=>H.getD k ar5))).bind λbs=>
  .ok ⟨x,n,renL (ak2 N H vals) vals,bs.map (YE (ak2 N H vals)),
   qG H (ak2 N H vals) vals&&nodupB (ak2 N H vals)&&axm N (ak2 N H vals)⟩
def aAv (N:Nat) (live:List Nat) (us:List Up) (x:Ex) (F:List LV) (H:List aZ):T Vw:=(JU (us.map (aRh F)) F H).bind λq=>aNY N live x F.length q.1 q.2
theorem Ci {N:Nat}{live:List Nat}{us:List Up}{x:Ex}{v:Vw}(hgh:AN N Z0) (hW:RW G w0 Z0 Z β H w) (hF:RF ds β Z w H.length F a) (h:(aAv N live us x F H).all (λz=>z=v)) (hl:v.low=true):
  v.ex=x∧v.len=F.length∧∃Z' β',RW G w0 Z0 Z' β' v.FO w∧RF ds β' Z' w v.FO.length (nT F.length live v.vals) a:=by
 unfold aAv at h;obtain ⟨⟨F1,H1⟩,h0,h⟩:=T.bF h;obtain ⟨Z1,β1,c1,c2,c3⟩:=iF _ F H Z β F1 H1 hW hF h0;unfold aNY at h;obtain ⟨vals,h1,h2⟩:=T.bF h;obtain ⟨bs,h2b,h2⟩:=T.bF h2;simp only [T.all] at h2
 have h3:=KI h1
 have h4:=Wy h2b
 subst h3;subst h4;rw [List.map_map] at h2;subst h2;refine ⟨rfl,rfl,?_⟩;simp only [Bool.and_eq_true] at hl;obtain ⟨β2,d1,d2⟩:=c1.ren hgh hl.1.1 hl.1.2 hl.2;obtain ⟨v1,v2⟩:=auS (live:=live) c2;obtain ⟨k1,_⟩:=mF hl.1.1;refine ⟨Z1,β2,d2,arQ (by rw [hF.size]) c2.defers (ren_RL d1 _ _ k1 v2 v1) ?_⟩
 rw [List.length_map];exact ren_okL _ k1 v2
inductive Rd (σ:Type) where
 |next (s:σ)
 |stop (x:Ex) (s:σ)
def rdV {σ:Type}(n:Nat) (A:σ→List LV) (B:σ→List aZ):Rd σ→Vw
 | .next s'=>⟨.normal,n,A s',B s',true⟩
 | .stop x s'=>⟨x,n,A s',B s',true⟩
structure aKu {α:Type} (K:α→Prop) (t:T α):Prop where
 out:t.all K
def oM {σ:Type}(f:σ→Rd σ):Nat→σ→Ex×σ
 |0,s=>(.ret,s)
 |k+1,s=>match f s with
  | .next s'=>oM f k s'
  | .stop x s'=>(x,s')
theorem QA {σ:Type}{f:σ→Rd σ}{μ:σ→Nat}{I:σ→Prop}(hd:∀s s',I s→f s=.next s'→I s'∧μ s'<μ s):∀(k:Nat) (s:σ),I s→μ s<k→∃s',I s'∧f s'=.stop (oM f k s).1 (oM f k s).2
 |0,s,_,h=>by omega
 | k+1,s,hi,hk=>by
  simp only [oM];cases hf:f s with
  |next s'=>
   obtain ⟨h1,h2⟩:=hd s s' hi hf;exact QA hd k s' h1 (by omega)
  |stop x s'=>exact ⟨s,hi,hf⟩
theorem T.agree {α:Type}{K:α→Prop}{p:α}:∀ {t:T α},t.all (λx=>x=p)→t.all K→K p
 | .ok _,h,hk=>by simp only [T.all] at h hk;exact h▸hk
 | .br b t e,h,hk=>by
  cases b with
  |true=>exact T.agree (h.1 rfl) (hk.1 rfl)
  |false=>exact T.agree (h.2 rfl) (hk.2 rfl)
 | .req _ t,h,hk=>T.agree h.2 hk.2
 | .no,_,h=>by cases h
def aqm {σ:Type}(N n:Nat) (live:List Nat) (us:List Up) (sel:List LV→List aZ→T σ) (out:σ→T (Ex×List LV×List aZ)) (F:List LV) (H:List aZ):T (Ex×List LV×List aZ):=
 if F.length=n then ((aAv N live us .normal F H).bind λv=>if v.low then sel v.vals v.FO else .no).bind out else .no
def aC5 (N:Nat) (live:List Nat) (us:List Up) (t:T (Ex×List LV×List aZ)):T Vw:=t.bind λq=>aAv N live us q.1 q.2.1 q.2.2
def gI:LV→Int
 | .v (.int _ n)=>n
 | .ki _ n=>n
 |_=>0
def vW:LV→Bool
 | .v (.bool b)=>b
 | .bl b=>b
 |_=>false
def gSr:LV→ByteArray
 | .v (.string s)=>s
 |_=>ByteArray.empty
def gAn:LV→Value
 | .v y=>y
 |_=>undef
def aU (e:Ty) (x:LV):List e.D:=(Zu e x).getD []
def gFn (x:LV) (j:Nat):LV:=
 match x with
 | .fn _ l=>l.getD j .junk
 |_=> .junk
def pR (x:LV) (j:Nat):LV:=
 match x with
 | .xq _ f=>f j
 |_=> .junk
def aT (H:List aZ) (k:Nat):aZ:=H.getD k ⟨[],0,.dead,false⟩
def bn (b:aZ) (j:Nat):LV:=b.c.getD j .junk
def iW (e:Ty) (b:aZ):List e.D:=
 match b.k with
 | .vec e' l=>(match Lc e' e with
  |some ⟨h⟩=>Ec h l
  |none=>[])
 |_=>[]
def gSe (e:Ty) (b:aZ):List e.D:=
 match b.k with
 | .st e' l=>(match Lc e' e with
  |some ⟨h⟩=>Ec h l
  |none=>[])
 |_=>[]
def aLn {σ:Type}(E:σ→Prop) (A:σ→List LV) (B:σ→List aZ) (s:σ) (vals:List LV) (FO:List aZ):T σ:=.req (E s∧vals=A s∧FO=B s) (.ok s)
theorem awC {σ:Type}{E:σ→Prop}{A:σ→List LV}{B:σ→List aZ}{s0 s:σ}{vals:List LV}{FO:List aZ}(h:(aLn E A B s0 vals FO).all (λx=>x=s)):E s∧vals=A s∧FO=B s:=by
 obtain ⟨h1,rfl⟩:=h;exact h1
theorem alj {σ:Type}(N n:Nat) (live:List Nat) (us:List Up) (A:σ→List LV) (B:σ→List aZ) (I E:σ→Prop) (μ:σ→Nat) (f:σ→Rd σ) (sel:List LV→List aZ→T σ) (out:σ→T (Ex×List LV×List aZ)) {b:Code}{t:List LV→List aZ→T (Ex×List LV×List aZ)}(hb:bC P G (AN N) b t)
  (hsel:∀vals FO s,(sel vals FO).all (λx=>x=s)→E s∧vals=A s∧FO=B s) (hEI:∀s,E s→I s)
  (hd:∀s s',I s→f s=.next s'→I s'∧μ s'<μ s)
  (hne:∀s x s',f s=.stop x s'→x≠ .normal)
  (step':∀s,I s→aKu (λv=>v=rdV n A B (f s)) (aC5 N live us (t (nT n live (A s)) (B s))))
  (hout:∀s,E s→(out s).all λq=>q=((oM f (μ s+1) s).1,nT n live (A (oM f (μ s+1) s).2),B (oM f (μ s+1) s).2)):
  bC P G (AN N) (.loop b) (aqm N n live us sel out):=by
 intro r w0 Z0 Z β F H a w ds Q x F' H' hgh hr hD hW hF h hQ;unfold aqm at h;split at h
 ·rename_i hlen
  obtain ⟨s,h0,h2⟩:=T.bF h;obtain ⟨v,hv,h1⟩:=T.bF h0;split at h1
  ·rename_i hlow
   obtain ⟨hE,hvv,hbk⟩:=hsel _ _ s h1
   have hI:=hEI s hE
   have h2:=T.agree h2 (hout s hE)
   simp only [Prod.mk.injEq] at h2;obtain ⟨h2,h3,h4⟩:=h2;obtain ⟨_,_,Z1,β1,hW1,hF1⟩:=Ci hgh hW hF hv hlow;rw [hlen,hvv,hbk] at hF1;rw [hbk] at hW1;subst h2 h3 h4;refine wpIn_loop_rounds (μ s+1) ?_
   have key:∀(k:Nat) (s:σ) (ds:List Deferred) (Z:Nat→Prop) (β:Nat→Loc) (a:Act) (w:World),I s→μ s<k→Pv w0 Z0 ds→RW G w0 Z0 Z β (B s) w→RF ds β Z w (B s).length (nT n live (A s)) a→
     (∀ds' Z' β' a' w',Pv w0 Z0 ds'→RW G w0 Z0 Z' β' (B (oM f k s).2) w'→RF ds' β' Z' w' (B (oM f k s).2).length (nT n live (A (oM f k s).2)) a'→Q (aIx (oM f k s).1) a' w')→Code.roundsIn (Q8 r) 0 P b Q k a w:=by
    intro k
    induction k with
    |zero=>intro s ds Z β a w _ h;omega
    | succ k ih=>
     intro s ds Z β a w hI hm hD hW hF hQ;rw [roundsIn_succ];obtain ⟨v,h1,h2⟩:=T.pick (step' s hI).out;obtain ⟨⟨x,F1,H1⟩,h3,h4⟩:=T.bF h2;refine hb r w0 Z0 Z β _ (B s) a w ds _ x F1 H1 hgh hr hD hW hF h3 λds' Z' β' a' w' e0 e1 e2=>?_
     cases hf:f s with
     |next s'=>
      rw [hf] at h1;subst h1;obtain ⟨g1,g2,Z2,β2,k1,k2⟩:=Ci hgh e1 e2 h4 rfl;simp only [rdV] at g1 g2 k1 k2;subst g1;obtain ⟨i1,i2⟩:=hd s s' hI hf;rw [←g2] at k2;refine ih s' ds' Z2 β2 a' w' i1 (by omega) e0 k1 k2 ?_
      have:oM f (k+1) s=oM f k s':=by simp only [oM,hf]
      rw [this] at hQ;exact hQ
     |stop y s'=>
      rw [hf] at h1;subst h1;obtain ⟨g1,g2,Z2,β2,k1,k2⟩:=Ci hgh e1 e2 h4 rfl;simp only [rdV] at g1 g2 k1 k2;subst g1
      have hn:=hne s y s' hf
      rw [←g2] at k2
      have:oM f (k+1) s=(y,s'):=by simp only [oM,hf]
      rw [this] at hQ
      have hq:=hQ ds' Z2 β2 a' w' e0 k1 k2
      cases y with
      |normal=>exact absurd rfl hn
      |exit k=>exact hq
      |ret=>exact hq
   exact key _ s ds Z1 β1 a w hI (Nat.lt_succ_self _) hD hW1 hF1 hQ
  ·cases h1
 ·cases h
def bJ {σ:Type}(Pn:σ→Prop) (Ps:Ex→σ→Prop):Rd σ→Prop
 | .next s=>Pn s
 | .stop x s=>Ps x s
theorem ai {σ:Type}{Pn:σ→Prop}{Ps:Ex→σ→Prop}{c:Bool}{x y:Rd σ}(h1:c=true→bJ Pn Ps x) (h2:c=false→bJ Pn Ps y):bJ Pn Ps (if c=true then x else y):=by
 cases c with
 |true=>exact h1 rfl
 |false=>exact h2 rfl
theorem alG {σ:Type}{Pn:σ→Prop}{Ps:Ex→σ→Prop}{r:Rd σ}(h:bJ Pn Ps r) {s:σ}(e:r=.next s):Pn s:=by subst e;exact h
theorem AU {σ:Type}{Pn:σ→Prop}{Ps:Ex→σ→Prop}{r:Rd σ}(h:bJ Pn Ps r) {x:Ex}{s:σ}(e:r=.stop x s):Ps x s:=by subst e;exact h
def iV:Ex→Ex→Bool
 | .normal,.normal=>true
 | .ret,.ret=>true
 | .exit n,.exit m=>n==m
 |_,_=>false
theorem YA {S Y:Type}{f:S→Rd S}{I:S→Prop}{μ:S→Nat}{V:S→Y}{Q:Ex→S→Y→Prop}(hd:∀s s',I s→f s=.next s'→I s'∧μ s'<μ s) (hv:∀s,I s→bJ (λs'=>V s'=V s) (λx s'=>Q x s' (V s)) (f s)):∀(k:Nat) (s:S),I s→μ s<k→Q (oM f k s).1 (oM f k s).2 (V s)
 |0,s,_,h=>by omega
 | k+1,s,h,hk=>by
  have h2:=hv s h
  simp only [oM];cases e:f s with
  |next s'=>
   rw [e] at h2;obtain ⟨d1,d2⟩:=hd s s' h e
   have:=YA hd hv k s' d1 (by omega)
   simp only;rw [show V s=V s' from h2.symm];exact this
  |stop x s'=>
   rw [e] at h2;exact h2
def T.rd {σ:Type}(s:σ):T (Rd σ)→Rd σ
 | .ok x=>x
 | .br b x y=>if b=true then x.rd s else y.rd s
 | .req _ x=>x.rd s
 | .no=> .next s
def T.mp {α β:Type}(k:α→β):T α→T β
 | .ok x=> .ok (k x)
 | .br b x y=> .br b (x.mp k) (y.mp k)
 | .req p x=> .req p (x.mp k)
 | .no=> .no
theorem T.VO {α β:Type}{k:α→β}{K:β→Prop}:∀ {t:T α},t.all (λx=>K (k x))→(t.mp k).all K
 | .ok _,h=>h
 | .br _ _ _,h=>⟨λc=>T.VO (h.1 c),λc=>T.VO (h.2 c)⟩
 | .req _ _,h=>⟨h.1,T.VO h.2⟩
 | .no,h=>h
theorem T.Ut {σ:Type}{s:σ}:∀ {t:T (Rd σ)},t.all (λ_=>True)→t.all (λx=>x=t.rd s)
 | .ok _,_=>rfl
 | .br b _ _,h=>by
  cases b with
  |true=>exact ⟨λc=>T.Ut (h.1 c),λc=>by cases c⟩
  |false=>exact ⟨λc=>(by cases c),λc=>T.Ut (h.2 c)⟩
 | .req _ _,h=>⟨h.1,T.Ut h.2⟩
 | .no,h=>h
theorem T.QD {σ:Type}{s:σ}{k:Rd σ→Rd σ}(h0:k (.next s)=.next s):∀ {t:T (Rd σ)},t.mp k=t→k (t.rd s)=t.rd s
 | .ok x,h=>by
  simp only [T.mp,T.ok.injEq] at h;simp only [T.rd,h]
 | .br b x y,h=>by
  simp only [T.mp,T.br.injEq,true_and] at h;simp only [T.rd];split
  ·exact T.QD h0 h.1
  ·exact T.QD h0 h.2
 | .req _ x,h=>by
  simp only [T.mp,T.req.injEq,true_and] at h;exact T.QD (t:=x) h0 h
 | .no,_=>h0
structure bK (σ:Type) where
 N:Nat
 n:Nat
 lv:List Nat
 us:List Up
 A:σ→List LV
 B:σ→List aZ
 g:List LV→List aZ→σ
 t:σ→T (Rd σ)
 kp:σ→σ→σ
 rd:σ→σ
 fx:Ex→σ→σ
 xs:List Ex
 E:σ→Prop
 I:σ→Prop
 mu:σ→Nat
def outT {β:Type}(e:Ex) (k:Ex→β):List Ex→T β
 | []=> .no
 | [x]=> .ok (k x)
 |x::y::xs=> .br (iV e x) (.ok (k x)) (outT e k (y::xs))
theorem agX:∀ {x y:Ex},iV x y=true→x=y
 | .normal,.normal,_=>rfl
 | .ret,.ret,_=>rfl
 | .exit _,.exit _,h=>by simpa [iV] using h
theorem YL {β:Type}{e:Ex}{k:Ex→β}:∀ {xs:List Ex},xs.any (iV e)=true→(outT e k xs).all (λq=>q=k e)
 | [],h=>by cases h
 | [x],h=>by
  simp only [List.any_cons,List.any_nil,Bool.or_false] at h;rw [agX h];rfl
 |x::y::xs,h=>by
  refine ⟨λc=>?_,λc=>YL ?_⟩
  ·rw [agX c];rfl
  ·rw [List.any_cons,c,Bool.false_or] at h;exact h
def exB {σ:Type}(xs:List Ex):T (Rd σ)→Bool
 | .ok (.next _)=>true
 | .ok (.stop x _)=>xs.any (iV x)&&!iV x .normal
 | .br _ x y=>exB xs x&&exB xs y
 | .req _ x=>exB xs x
 | .no=>true
theorem NR {σ:Type}{xs:List Ex}{s s':σ}{x:Ex}:∀ {t:T (Rd σ)},exB xs t=true→t.rd s=.stop x s'→xs.any (iV x)=true∧x≠ .normal
 | .ok (.next _),_,h=>by cases h
 | .ok (.stop y _),h,e=>by
  simp only [T.rd,Rd.stop.injEq] at e;simp only [exB,Bool.and_eq_true,Bool.not_eq_true'] at h;rw [e.1] at h;refine ⟨h.1,λe=>?_⟩
  rw [e] at h;exact absurd h.2 (by simp [iV])
 | .br b x y,h,e=>by
  simp only [exB,Bool.and_eq_true] at h;simp only [T.rd] at e;split at e
  ·exact NR h.1 e
  ·exact NR h.2 e
 | .req _ x,h,e=>NR (t:=x) h e
 | .no,_,h=>by cases h
namespace bK
variable {σ : Type} (D : bK σ)
def f (s:σ):Rd σ:=(D.t s).rd s
def run (s:σ):σ:=D.kp s (oM D.f (D.mu s+1) s).2
def jf (s:σ):Ex:=(oM D.f (D.mu s+1) s).1
def sel (vals:List LV) (FO:List aZ):T σ:=aLn D.E D.A D.B (D.g vals FO) vals FO
def out (s:σ):T (Ex×List LV×List aZ):=outT (D.jf s) (λx=>(x,nT D.n D.lv (D.A (D.fx x (D.run s))),D.B (D.fx x (D.run s)))) D.xs
def lp:List LV→List aZ→T (Ex×List LV×List aZ):=aqm D.N D.n D.lv D.us D.sel D.out
def q (s:σ):Prop:=D.E s∧D.A s=D.A s∧D.B s=D.B s
def kpR (s:σ):Rd σ→Rd σ
 | .next s'=> .next (D.kp s s')
 | .stop x s'=> .stop x (D.kp s s')
def fxR:Rd σ→Rd σ
 | .next s'=> .next s'
 | .stop x s'=> .stop x (D.fx x s')
structure Ok:Prop where
 keep:∀s,(D.t (D.rd s)).mp (D.kpR (D.rd s))=D.t (D.rd s):=by intro s;kernel_rfl
 fix:∀s,(D.t (D.rd s)).mp D.fxR=D.t (D.rd s):=by intro s;kernel_rfl
 aMU:∀s,D.kp s s=s:=by intros;rfl
 aMT:∀s t r,D.kp (D.kp s t) r=D.kp s r:=by intros;rfl
 fx0:∀s,D.fx .normal (D.rd s)=D.rd s:=by intros;rfl
 exs:∀s,exB D.xs (D.t s)=true:=by intro s;kernel_rfl
structure Pf (Q:Ex→σ→σ→Prop):Prop where
 ei:∀s,D.E s→D.I s
 rdy:∀s,D.I s→D.rd s=s
 da:∀s,D.I s→bJ (λs'=>D.I s'∧D.mu s'<D.mu s) (λx s'=>Q x s s') (D.f s)
 rq:∀s,D.I s→(D.t s).all (λ_=>True)
variable {D} {Q : Ex → σ → σ → Prop}
theorem Pf.nx (p:D.Pf Q) (s s':σ) (h:D.I s) (e:D.f s=.next s'):D.I s'∧D.mu s'<D.mu s:=alG (p.da s h) e
theorem kept (o:D.Ok) (p:D.Pf Q):∀(k:Nat) (s:σ),D.I s→D.mu s<k→D.kp s (oM D.f k s).2=(oM D.f k s).2∧D.fx (oM D.f k s).1 (oM D.f k s).2=(oM D.f k s).2∧D.xs.any (iV (oM D.f k s).1)=true
 |0,_,_,h=>by omega
 | k+1,s,hI,hk=>by
  have h1:=o.keep s
  have h2:=o.fix s
  have h0:=o.fx0 s
  rw [p.rdy s hI] at h0 h1 h2
  have hl:=T.QD (s:=s) (by simp only [kpR,o.aMU]) h1
  have hx:=T.QD (s:=s) (by simp only [fxR]) h2
  change D.kpR s (D.f s)=D.f s at hl
  change D.fxR (D.f s)=D.f s at hx
  simp only [oM];cases hf:D.f s with
  |next s'=>
   rw [hf] at hl;simp only [kpR,Rd.next.injEq] at hl;obtain ⟨h1,h2⟩:=p.nx s s' hI hf;obtain ⟨h3,h4⟩:=kept o p k s' h1 (by omega)
   refine ⟨?_,h4⟩
   have e:=o.aMT s s' (oM D.f k s').2
   rw [hl,h3] at e;exact e.symm
  |stop x s'=>
   rw [hf] at hl hx;simp only [kpR,fxR,Rd.stop.injEq,true_and] at hl hx;exact ⟨hl,hx,(NR (o.exs s) hf).1⟩
theorem run_eq (o:D.Ok) (p:D.Pf Q) {s:σ}(hE:D.E s):(oM D.f (D.mu s+1) s).2=D.run s:=(kept o p _ s (p.ei s hE) (Nat.lt_succ_self _)).1.symm
theorem end_ (o:D.Ok) (p:D.Pf Q) (s:σ) (hE:D.E s):∃s',D.I s'∧D.f s'=.stop (D.jf s) (D.run s):=by
 rw [←run_eq o p hE];exact QA p.nx (D.mu s+1) s (p.ei s hE) (Nat.lt_succ_self _)
theorem fin (o:D.Ok) (p:D.Pf Q) (s:σ) (hE:D.E s):∃s',D.I s'∧Q (D.jf s) s' (D.run s):=by
 obtain ⟨s',hI,hf⟩:=end_ o p s hE;exact ⟨s',hI,AU (p.da s' hI) hf⟩
theorem snd (o:D.Ok) (p:D.Pf Q) {b:Code}{t:List LV→List aZ→T (Ex×List LV×List aZ)}(hb:bC P G (AN D.N) b t)
  (hn:∀s,aC5 D.N D.lv D.us (t (nT D.n D.lv (D.A (D.rd s))) (D.B (D.rd s)))=(D.t (D.rd s)).mp (rdV D.n D.A D.B)):bC P G (AN D.N) (.loop b) D.lp:=by
 refine alj D.N D.n D.lv D.us D.A D.B D.I D.E D.mu D.f D.sel D.out hb (λ_ _ _ h=>awC h) p.ei p.nx (λs x s' hf=>(NR (o.exs s) hf).2) (λs hI=>⟨?_⟩) λs hE=>?_
 ·have h:=hn s
  rw [p.rdy s hI] at h;rw [h];exact T.VO (T.bQ (λx hx=>by rw [hx];rfl) (T.Ut (s:=s) (p.rq s hI)))
 ·obtain ⟨h1,h2,h3⟩:=kept o p _ s (p.ei s hE) (Nat.lt_succ_self (D.mu s))
  have h4:=YL (k:=λx=>(x,nT D.n D.lv (D.A (D.fx x (D.run s))),D.B (D.fx x (D.run s)))) h3
  refine T.bQ (λq hq=>?_) h4
  rw [hq];simp only [run,h1,h2]
theorem mD (o:D.Ok) (p:D.Pf Q) {Y:Type}(V:σ→Y) (K:Ex→σ→Y→Prop) (hv:∀s,D.I s→bJ (λs'=>V s'=V s) (λx s'=>K x s' (V s)) (D.f s)) (s:σ) (hE:D.E s):K (D.jf s) (D.run s) (V s):=by
 rw [←run_eq o p hE];exact YA p.nx hv (D.mu s+1) s (p.ei s hE) (Nat.lt_succ_self _)
theorem yx (o:D.Ok) (p:D.Pf Q) {Y:Type}(V:σ→Y) (hv:∀s,D.I s→bJ (λs'=>V s'=V s) (λ_ s'=>V s'=V s) (D.f s)) (s:σ) (hE:D.E s):V (D.run s)=V s:=mD o p V (λ_ s' v=>V s'=v) hv s hE
def stR (s:σ):Rd σ→Rd σ
 | .next s'=> .next s'
 | .stop x _=> .stop x s
theorem inv (o:D.Ok) (p:D.Pf Q) (hs:∀s,(D.t s).mp (stR s)=D.t s) (s:σ) (hE:D.E s):D.I (D.run s)∧D.f (D.run s)=.stop (D.jf s) (D.run s):=by
 obtain ⟨s',hI,hf⟩:=end_ o p s hE
 have h:=T.QD (s:=s') (k:=stR s') rfl (hs s')
 have h:stR s' (D.f s')=D.f s':=h
 rw [hf] at h;simp only [stR,Rd.stop.injEq,true_and] at h;subst h;exact ⟨hI,hf⟩
end bK
end Go.Sx
namespace Go.Sx
open Go Go.RowKit Go.Proofs.YtlihnbimgclogaaGreatDoor
variable {P : Program} {G : dI} {Γ : Specs} {K : Hand} {L : F5} {β : Nat → Loc} {Z : Nat → Prop} {w : World} {n : Nat}
def aN1 (k:IntKind) (x y:Int):Int:=k.wrap ((BitVec.ofInt k.bits x&&&BitVec.ofInt k.bits y).toNat)
def gi (l:List Int) (n:Int):Int:=l.getD n.toNat 0
theorem jA {l:List Int}{n:Int}(h:n.toNat<l.length):gi l n=l[n.toNat]:=by simp [gi,List.getD,List.getElem?_eq_getElem h]
theorem jq {l:List Int}{n:Int}(h:n.toNat<l.length):gi l n∈l:=by rw [jA h];exact List.getElem_mem h
theorem ag4 {α:Type}{f:LV→Option α}{l:List LV}{d:α}{ys:List Value}(h:hd1 f l=some d) (hr:RL β Z w l ys):∃x y,f x=some d∧ys=[y]∧R β Z w x y:=by
 unfold hd1 at h;split at h
 ·rename_i x
  simp only [RL] at hr;obtain ⟨y,zs,rfl,h3,rfl⟩:=hr;exact ⟨x,y,h,rfl,h3⟩
 ·cases h
theorem RL.one {x:LV}{y:Value}(h:R β Z w x y):RL β Z w [x] [y]:=by simp only [RL];exact ⟨y,[],rfl,h,rfl⟩
theorem zC:∀(t:Ty) (cs:List LV) (d:t.D) (ys:List Value),uS t cs=some d→RL β Z w cs ys→RL β Z w (iq t d) ys
 | .int k,cs,d,ys,h,hr=>by
  simp only [uS] at h;obtain ⟨x,y,h1,rfl,h3⟩:=ag4 h hr;unfold aIJ at h1;split at h1
  ·split at h1
   ·rename_i hk;simp only [Option.some.injEq] at h1;subst h1 hk;exact RL.one h3
   ·cases h1
  ·split at h1
   ·rename_i hk;simp only [Option.some.injEq] at h1;subst h1 hk;exact RL.one (by simp only [R] at*;exact h3)
   ·cases h1
  ·cases h1
 | .bool,cs,d,ys,h,hr=>by
  simp only [uS] at h;obtain ⟨x,y,h1,rfl,h3⟩:=ag4 h hr;unfold aIK at h1;split at h1
  ·simp only [Option.some.injEq] at h1;subst h1;exact RL.one h3
  ·simp only [Option.some.injEq] at h1;subst h1;exact RL.one (by simp only [R] at*;exact h3)
  ·cases h1
 | .str,cs,d,ys,h,hr=>by
  simp only [uS] at h;obtain ⟨x,y,h1,rfl,h3⟩:=ag4 h hr;unfold aII at h1;split at h1
  ·simp only [Option.some.injEq] at h1;subst h1;exact RL.one h3
  ·cases h1
 | .sl e,cs,d,ys,h,hr=>by
  simp only [uS] at h;obtain ⟨x,y,h1,rfl,h3⟩:=ag4 h hr;exact RL.one (adh h1 h3)
 | .pair a b,cs,d,ys,h,hr=>by
  simp only [uS] at h;split at h
  ·rename_i x y h1 h2
   simp only [Option.some.injEq] at h;subst h
   have e1:=zC a _ x _ h1 (hr.take a.n)
   have e2:=zC b _ y _ h2 (hr.drop a.n)
   simp only [iq];rw [←List.take_append_drop a.n ys];exact e1.app e2
  ·cases h
def upV (P:Program) (t:TypeId) (x:LV):LV:=
 match AV P 8 t,alH P t with
 | some ty,some true=>match x with
  | .v (.agg ys)=>(match uS ty (ys.toList.map .v) with
   |some d=>vC (iq ty d)
   |none=>x)
  | .agg l=>(match uS ty l with
   |some d=>vC (iq ty d)
   |none=>x)
  |_=>x
 | some ty,some false=>(match uS ty [x] with
  |some d=>(match iq ty d with
   | [c]=>c
   |_=>x)
  |none=>x)
 |_,_=>x
def upL (P:Program):List TypeId→List LV→List LV
 |t::ts,x::xs=>upV P t x::upL P ts xs
 |_,xs=>xs
def upR (P:Program) (ts:List TypeId) (x:LV):LV:=
 match ts with
 | [t]=>upV P t x
 |ts=>match x with
  | .v (.tuple ys)=>MS (upL P ts (ys.toList.map .v))
  | .iU l=>MS (upL P ts l)
  |x=>x
theorem RL.plain:∀(ys:List Value),RL β Z w (ys.map .v) ys
 | []=>by simp [RL]
 |y::ys=>by simp only [List.map_cons,RL];exact ⟨y,ys,rfl,by simp only [R],RL.plain ys⟩
theorem QI:∀(ys:List Value),dQ n (ys.map .v)
 | []=>trivial
 |_::ys=>⟨trivial,QI ys⟩
theorem aAR {t:TypeId}{x:LV}{y:Value}(h:R β Z w x y):R β Z w (upV P t x) y:=by
 unfold upV;split
 ·split
  ·split
   ·rename_i d hd
    simp only [R] at h;subst h;exact vz (zC _ _ d _ hd (RL.plain _))
   ·exact h
  ·split
   ·rename_i d hd
    simp only [R] at h;obtain ⟨ys,rfl,h2⟩:=h;exact vz (zC _ _ d _ hd h2)
   ·exact h
  ·exact h
 ·split
  ·rename_i d hd
   split
   ·rename_i c hc
    have:=zC _ _ d _ hd (RL.one h)
    rw [hc] at this;simp only [RL] at this;obtain ⟨y',zs,e1,e2,e3⟩:=this;simp only [List.cons.injEq] at e1;rw [e1.1];exact e2
   ·exact h
  ·exact h
 ·exact h
theorem amj {t:TypeId}{x:LV}(h:okV n x):okV n (upV P t x):=by
 unfold upV;split
 ·split
  ·split
   ·exact qL (qF _ _ _)
   ·exact h
  ·split
   ·exact qL (qF _ _ _)
   ·exact h
  ·exact h
 ·split
  ·rename_i d hd
   split
   ·rename_i c hc
    have:=qF n _ d
    rw [hc] at this;exact this.1
   ·exact h
  ·exact h
 ·exact h
theorem aeY:∀ {ts:List TypeId}{l:List LV}{ys:List Value},RL β Z w l ys→RL β Z w (upL P ts l) ys
 | [],l,ys,h=>by simpa only [upL] using h
 |_::_,[],ys,h=>by simpa only [upL] using h
 |t::ts,x::xs,ys,h=>by
  simp only [upL,RL] at h⊢;obtain ⟨y,zs,h1,h2,h3⟩:=h;exact ⟨y,zs,h1,aAR h2,aeY h3⟩
theorem TT:∀ {ts:List TypeId}{l:List LV},dQ n l→dQ n (upL P ts l)
 | [],l,h=>by simpa only [upL] using h
 |_::_,[],h=>by simpa only [upL] using h
 |t::ts,x::xs,h=>by
  simp only [upL,dQ] at h⊢;exact ⟨amj h.1,TT h.2⟩
theorem aK9 {ts:List TypeId}{x:LV}{y:Value}(h:R β Z w x y):R β Z w (upR P ts x) y:=by
 unfold upR;split
 ·exact aAR h
 ·split
  ·simp only [R] at h
   subst h;exact VQ (aeY (RL.plain _))
  ·simp only [R] at h
   obtain ⟨ys,rfl,h2⟩:=h;exact VQ (aeY h2)
  ·exact h
theorem aEF {ts:List TypeId}{x:LV}(h:okV n x):okV n (upR P ts x):=by
 unfold upR;split
 ·exact amj h
 ·split
  ·exact MR (TT (QI _))
  ·exact MR (TT (by simpa only [okV] using h))
  ·exact h
def gZ (P:Program) (ts:List TypeId) (S:List LV→T LV):List LV→T LV:=λl=>S (upL P ts l)
theorem Valid.up {f:FuncId}{S:List LV→T LV}(h:Valid P G f S) (ts:List TypeId):Valid P G f (gZ P ts S):=by
 intro args vals w Z lv hz hg hok hr hs;exact h (upL P ts args) vals w Z lv hz hg (TT hok) (aeY hr) hs
/-A pointer to cells that are only read,told by the cells. -/
mutual
def canX:LV→LV
 | .xq n f=> .xq n (λj=>((List.range n).map λi=>canX (f i)).getD j .junk)
 | .fn f l=> .fn f (canL l)
 |x=>x
def canL:List LV→List LV
 | []=>[]
 |x::xs=>canX x::canL xs
end
mutual
theorem canX_R:∀ {x:LV}{y:Value},R β Z w x y→R β Z w (canX x) y
 | .xq n f,y,h=>by
  simp only [canX,R] at h⊢;obtain ⟨b,off,h1,hz,h2⟩:=h;refine ⟨b,off,h1,hz,λj hj=>?_⟩
  have e:((List.range n).map λi=>canX (f i)).getD j .junk=canX (f j):=by simp [List.getD,hj]
  rw [e];obtain ⟨z,e1,e2⟩:=h2 j hj;exact ⟨z,e1,canX_R e2⟩
 | .fn f l,y,h=>by
  simp only [canX,R] at h⊢;obtain ⟨ys,h1,h2⟩:=h;exact ⟨ys,h1,canL_R h2⟩
 | .v _,_,h=>h
 | .bl _,_,h=>h
 | .ki _ _,_,h=>h
 | .own _ _,_,h=>h
 | .agg _,_,h=>h
 | .iU _,_,h=>h
 | .xl _ _,_,h=>h
 | .os ..,_,h=>h
 | .op ..,_,h=>h
 | .om _,_,h=>h
 | .mp ..,_,h=>h
 | .oc ..,_,h=>h
 | .yt _,_,h=>h
 | .junk,_,h=>h
theorem canL_R:∀ {l:List LV}{ys:List Value},RL β Z w l ys→RL β Z w (canL l) ys
 | [],ys,h=>by simpa only [canL,RL] using h
 |x::xs,ys,h=>by
  simp only [canL,RL] at h⊢;obtain ⟨y,zs,h1,h2,h3⟩:=h;exact ⟨y,zs,h1,canX_R h2,canL_R h3⟩
end
mutual
theorem canX_ok:∀ {n:Nat}{x:LV},okV n x→okV n (canX x)
 | _,.xq m f,h=>by
  simp only [canX,okV] at h⊢;intro j
  by_cases hj:j<m
  ·have e:((List.range m).map λi=>canX (f i)).getD j .junk=canX (f j):=by simp [List.getD,hj]
   rw [e];exact canX_ok (h j)
  ·have e:((List.range m).map λi=>canX (f i)).getD j .junk=.junk:=by simp [List.getD,hj]
   rw [e];trivial
 |_,.fn f l,h=>by
  simp only [canX,okV] at h⊢;exact canL_ok h
 |_,.v _,h=>h
 |_,.bl _,h=>h
 |_,.ki _ _,h=>h
 |_,.own _ _,h=>h
 |_,.agg _,h=>h
 |_,.iU _,h=>h
 |_,.xl _ _,h=>h
 |_,.os ..,h=>h
 |_,.op ..,h=>h
 |_,.om _,h=>h
 |_,.mp ..,h=>h
 |_,.oc ..,h=>h
 |_,.yt _,h=>h
 |_,.junk,h=>h
theorem canL_ok:∀ {n:Nat}{l:List LV},dQ n l→dQ n (canL l)
 |_,[],h=>h
 |_,x::xs,h=>by
  simp only [canL,dQ] at h⊢;exact ⟨canX_ok h.1,canL_ok h.2⟩
end
theorem rU {n:Nat}{f:Nat→LV}{l:List LV}(h:(List.range n).map f=l):((List.range n).map λi=>canX (f i))=canL l:=by
 have e:∀l:List LV,canL l=l.map canX:=λl=>by induction l with
  |nil=>rfl
  |cons x l ih=>simp only [canL,ih,List.map_cons]
 rw [e,←h,List.map_map];rfl
def cO (P:Program) (G:dI) (Γ:Specs) (K:Hand) (L:F5) (fn:Func) (args:List LV):T LV:=(azl P G Γ K L fn args).bind λx=> .ok (canX (upR P fn.resultTypes.toList x))
theorem aI {f:FuncId}{fn:Func}{c:Code}{S:List LV→T LV}(hfn:P.funcs[f]? =some fn) (hc:fn.body=some c) (hΓ:∀g S,Γ g=some S→Valid P G g S) (hK:dn P G K)
  (hL:∀b∈ax c,Sound P G (.loop b) (L (rQ b))) (hS:∀args lv,(S args).all (λx=>x=lv)→(cO P G Γ K L fn (canL args)).all (λx=>x=lv)):Valid P G f (gZ P fn.params.toList S):=by
 refine Valid.up ?_ _
 have h0:Valid P G f (λl=>azl P G Γ K L fn l):=al5 hfn hc hΓ hK hL (λ_ _ h=>h)
 intro args vals w Z lv hz hg hok hr hs
 have hs:=hS args lv hs
 unfold cO at hs;obtain ⟨x,h1,h2⟩:=T.bF hs;simp only [T.all] at h2;subst h2;exact Calls.mono (h0 (canL args) vals w Z x hz hg (canL_ok hok) (canL_R hr) h1) (λe w' ⟨e1,v,e2,e3,e4⟩=>⟨e1,v,e2,canX_ok (aEF e3),canX_R (aK9 e4)⟩)
def T.red {α:Type}:T α→T α
 | .br true t _=>T.red t
 | .br false _ e=>T.red e
 | .req p t=> .req p (T.red t)
 |t=>t
theorem T.KU {α:Type}{K:α→Prop}:∀ {t:T α},t.red.all K→t.all K
 | .ok _,h=>h
 | .br true t e,h=>⟨λ_=>T.KU h,λhb=>by cases hb⟩
 | .br false t e,h=>⟨λhb=>(by cases hb),λ_=>T.KU h⟩
 | .req p t,h=>⟨h.1,T.KU h.2⟩
 | .no,h=>h
end Go.Sx
namespace Go.Proofs.YtlihnbimgclogaaGreatDoor
open Go.Sx
abbrev dY:Ty:=.pair .str (.pair aSg (.pair aSg (.pair aSg (.pair (.pair aSg aSg) (.pair aSg (.pair aSg (.pair aSg (.pair aSg aSg))))))))
abbrev fC:Ty:=.pair .str (.pair aSg (.pair aSg aSg))
abbrev dP:Ty:=.pair .str (.pair aSg (.pair aSg (.pair aSg (.pair aSg (.pair aSg (.pair aSg aSg))))))
abbrev fD:Ty:=.pair .str aSg
abbrev Cbl:=Int×Int×Int×Int×Int
abbrev Cd:=ByteArray×Int×Int×Int×(Int×Int)×Cbl
abbrev Ko:=ByteArray×Int×Int×Int
abbrev Ch:=ByteArray×Int×Int×Int×Int×Int×Int×Int
abbrev Ba:=ByteArray×Int
theorem aH {x:Int}(h1:-9223372036854775808≤x:=by omega) (h2:x≤9223372036854775807:=by omega):aSe x=x:=by
 simp [IntKind.wrap,IntKind.bits,IntKind.signed]
 omega
def inB (n a b:Int):Bool:=decide (n≥a)&&decide (n≤b)
theorem dV {n a b:Int}:inB n a b=true↔a≤n∧n≤b:=by simp [inB]
theorem yA {α:Type}{l:List α}{d:α}{n:Int}(h:n.toNat<l.length):l.getD n.toNat d=l[n.toNat]:=by simp [List.getD,List.getElem?_eq_getElem h]
theorem xU {α:Type}{l:List α}{d:α}{i:Int}(h0:0≤i) (h:i<l.length):l.drop i.toNat=l.getD i.toNat d::l.drop (i+1).toNat∧l.take (i+1).toNat=l.take i.toNat++[l.getD i.toNat d]:=by
 have hlt:i.toNat<l.length:=by omega
 rw [yA hlt,show (i+1).toNat=i.toNat+1 by omega,List.take_add_one,List.getElem?_eq_getElem hlt,List.drop_eq_getElem_cons hlt]
 exact ⟨rfl,rfl⟩
def emp:ByteArray:=ByteArray.mk #[]
def iw (l:List Cd) (n:Int):Cd:=l.getD n.toNat (emp,0,0,0,(0,0),0,0,0,0,0)
def bG (l:List Ch) (n:Int):Ch:=l.getD n.toNat (emp,0,0,0,0,0,0,0)
def pU (l:List Ko) (n:Int):Ko:=l.getD n.toNat (emp,0,0,0)
def Gj (l:List Ba) (n:Int):Ba:=l.getD n.toNat (emp,0)
def gS (l:List ByteArray) (n:Int):ByteArray:=l.getD n.toNat emp
theorem gi_step {l:List Int}{i:Int}(h0:0≤i) (h:i<l.length):l.drop i.toNat=gi l i::l.drop (i+1).toNat∧l.take (i+1).toNat=l.take i.toNat++[gi l i]:=by
 have hlt:i.toNat<l.length:=by omega
 rw [jA hlt,show (i+1).toNat=i.toNat+1 by omega,List.take_add_one,List.getElem?_eq_getElem hlt,List.drop_eq_getElem_cons hlt]
 exact ⟨rfl,rfl⟩
theorem aIk {l:List Ch}{n:Int}(h:n.toNat<l.length):bG l n=l[n.toNat]:=yA h
theorem arP {l:List Ko}{n:Int}(h:n.toNat<l.length):pU l n=l[n.toNat]:=yA h
theorem aNz {l:List ByteArray}{n:Int}(h:n.toNat<l.length):gS l n=l[n.toNat]:=yA h
theorem Zi {l:List Cd}{i:Int}(h0:0≤i) (h:i<l.length):l.drop i.toNat=iw l i::l.drop (i+1).toNat∧l.take (i+1).toNat=l.take i.toNat++[iw l i]:=xU h0 h
theorem Zh {l:List Ch}{i:Int}(h0:0≤i) (h:i<l.length):l.drop i.toNat=bG l i::l.drop (i+1).toNat∧l.take (i+1).toNat=l.take i.toNat++[bG l i]:=xU h0 h
theorem NF {l:List Ko}{i:Int}(h0:0≤i) (h:i<l.length):l.drop i.toNat=pU l i::l.drop (i+1).toNat∧l.take (i+1).toNat=l.take i.toNat++[pU l i]:=xU h0 h
theorem Zj {l:List Ba}{i:Int}(h0:0≤i) (h:i<l.length):l.drop i.toNat=Gj l i::l.drop (i+1).toNat∧l.take (i+1).toNat=l.take i.toNat++[Gj l i]:=xU h0 h
theorem xY {l:List ByteArray}{i:Int}(h0:0≤i) (h:i<l.length):l.drop i.toNat=gS l i::l.drop (i+1).toNat∧l.take (i+1).toNat=l.take i.toNat++[gS l i]:=xU h0 h
def lH (mi ma st:Int):Bool:=decide (1≤mi)&&(decide (mi≤ma)&&(decide (ma≤80)&&(decide (1≤st)&&decide (st≤80))))
theorem fZ {mi ma st:Int}:lH mi ma st=true↔1≤mi∧mi≤ma∧ma≤80∧1≤st∧st≤80:=by simp [lH]
def zn (mi ma st:Int):Int:=if lH mi ma st then (ma-mi) / st+2 else 0
def CW (mi st k:Int):Int:=if k=0 then 0 else mi+(k-1)*st
def amE (mi ma st k:Int):Int:=if k<0∨zn mi ma st≤k then 1 else 0
def P9 (mi ma st k:Int):Int:=if k<0∨zn mi ma st≤k then 0 else CW mi st k
def Y1 (mi ma st a:Int):Int:=if lH mi ma st=false∨a<0 then -1 else if a<mi then 0 else min (zn mi ma st-1) ((a-mi) / st+1)
theorem Cc {x st:Int}(h0:0≤x) (h1:1≤st):0≤x / st∧x / st≤x:=⟨Int.ediv_nonneg h0 (by omega),Int.ediv_le_self _ h0⟩
theorem VX {mi ma st:Int}:0≤zn mi ma st∧zn mi ma st≤81:=by
 unfold zn;split
 ·rename_i h
  have:=fZ.1 h
  have:=Cc (x:=ma-mi) (st:=st) (by omega) (by omega)
  omega
 ·omega
theorem VW {mi ma st:Int}(h:lH mi ma st=true):2≤zn mi ma st:=by
 unfold zn;rw [if_pos h]
 have:=fZ.1 h
 have:=Cc (x:=ma-mi) (st:=st) (by omega) (by omega)
 omega
theorem DL {mi ma st:Int}(h:lH mi ma st=false):zn mi ma st=0:=by simp [zn,h]
theorem aqZ {mi ma st k:Int}(h0:0≤k) (h:k<zn mi ma st):lH mi ma st=true:=by
 cases e:lH mi ma st with
 |true=>rfl
 |false=>rw [DL e] at h;omega
theorem ap8 {a b:Int}(a0:0≤a) (a1:a≤1000) (b0:0≤b) (b1:b≤80):0≤a*b∧a*b≤80000:=
 ⟨Int.mul_nonneg a0 b0,Int.le_trans (Int.mul_le_mul_of_nonneg_left b1 a0) (by omega)⟩
theorem ae2 (bs:ByteArray):∀(n i:Nat) (r:List UInt8),bs.size-i=n→ByteArray.toList.loop bs i r=r.reverse++bs.data.toList.drop i
 |0,i,r,h=>by
  rw [ByteArray.toList.loop,if_neg (by omega),List.drop_eq_nil_of_le (by simp only [Array.length_toList];show bs.size≤i;omega),List.append_nil]
 | n+1,i,r,h=>by
  have hi:i<bs.data.toList.length:=by simp only [Array.length_toList];show i<bs.size;omega
  rw [ByteArray.toList.loop,if_pos (by omega),ae2 bs n (i+1) _ (by omega),List.reverse_cons,List.append_assoc,List.drop_eq_getElem_cons hi]
  have:bs.get! i=bs.data.toList[i]:=by
   have hi':i<bs.data.size:=by simpa using hi
   show bs.data[i]! =_
   rw [getElem!_pos bs.data i hi',Array.getElem_toList]
  rw [this];rfl
theorem ae3 (bs:ByteArray):bs.toList=bs.data.toList:=by
 rw [ByteArray.toList,ae2 bs _ 0 [] rfl];rfl
theorem aEH {a b:ByteArray}(h:a.toList=b.toList):a=b:=by
 rw [ae3,ae3] at h;cases a;cases b;simp at h;rw [h]
theorem adx {a b:ByteArray}:(a==b)=true↔a=b:=by
 show (a.data==b.data)=true↔_
 rw [beq_iff_eq];exact ⟨λh=>by cases a;cases b;simp at h;rw [h],λh=>by rw [h]⟩
instance:LawfulBEq ByteArray where
 eq_of_beq h:=adx.1 h
 rfl:=adx.2 rfl
theorem xu (a b:ByteArray):(a.toList==b.toList)=(a==b):=by
 rw [Bool.eq_iff_iff,beq_iff_eq,adx];exact ⟨aEH,λh=>by rw [h]⟩
def kinds:List ByteArray:=[(ByteArray.mk #[102,101,101,100,101,114]),(ByteArray.mk #[99,97,98,108,101]),(ByteArray.mk #[111,119,110,101,114]),(ByteArray.mk #[99,111,110,116,114,97,99,116]),(ByteArray.mk #[99,104,97,114,103,101,114]),(ByteArray.mk #[98,97,121]),(ByteArray.mk #[116,97,114,105,102,102])]
def IC:List ByteArray:=[(ByteArray.mk #[108,105,109,105,116]),(ByteArray.mk #[110,101,117,116,114,97,108]),(ByteArray.mk #[102,117,115,101]),(ByteArray.mk #[116,104,101,114,109,97,108]),(ByteArray.mk #[102,114,111,109]),(ByteArray.mk #[97,116]),(ByteArray.mk #[112,104,97,115,101,115]),(ByteArray.mk #[97,109,112,115]),(ByteArray.mk #[102,97,108,108,98,97,99,107]),(ByteArray.mk #[111,119,110,101,114]),(ByteArray.mk #[99,97,114,100]),(ByteArray.mk #[114,97,110,107]),(ByteArray.mk #[99,104,97,114,103,101,114])]
def qN:List ByteArray:=[(ByteArray.mk #[115,116,97,114,116]),(ByteArray.mk #[101,110,101,114,103,121]),(ByteArray.mk #[116,105,109,101]),(ByteArray.mk #[105,100,108,101]),(ByteArray.mk #[99,97,112]),(ByteArray.mk #[116,97,120])]
def words:List ByteArray:=[(ByteArray.mk #[111,110]),(ByteArray.mk #[119,111,114,107]),(ByteArray.mk #[115,97,116,117,114,100,97,121]),(ByteArray.mk #[115,117,110,100,97,121]),(ByteArray.mk #[98,101,116,119,101,101,110]),(ByteArray.mk #[112,101,114]),(ByteArray.mk #[102,114,101,101])]
def isIn (l:List ByteArray) (w:ByteArray):Bool:=l.any (w== ·)
def alo:Int→List ByteArray→ByteArray→Int
 |_,[],_=>0
 |n,x::l,w=>if w==x then n else alo (n+1) l w
theorem Y3:∀(n:Int) (l:List ByteArray) (w:ByteArray),0<n→(alo n l w !=0)=isIn l w
 |_,[],_,_=>rfl
 | n,x::l,w,h=>by
  simp only [alo,isIn,List.any_cons];split
  ·rename_i c;simp [c];omega
  ·rename_i c
   have:=Y3 (n+1) l w (by omega)
   simp only [isIn] at this;rw [this]
   simp [c]
def JW (w:ByteArray):Bool:=isIn kinds w ||(isIn IC w ||(isIn qN w ||isIn words w))
def chA (b:Int):Bool:=decide (b≥97)&&decide (b≤122)
def chB (b:Int):Bool:=chA b ||((decide (b≥48)&&decide (b≤57)) ||b==95)
def gwB (w:ByteArray):Bool:=decide (1≤w.size∧w.size≤12)&&(chA (wo w 0)&&(List.range w.size).all λi=>i==0 ||chB (wo w i))
def nameB (w:ByteArray):Bool:=gwB w&&!JW w
theorem lK {p q:Prop}(h:p) (k:p→q):p∧q:=⟨h,k h⟩
def Gi (n:Nat) (f:Int→Bool):Bool:=(List.range n).all λj=>f (j:Int)
theorem gm {n:Nat}{f:Int→Bool}:Gi n f=true↔∀j:Nat,(j:Int)<(n:Int)→f j=true:=by
 unfold Gi;rw [List.all_eq_true];exact ⟨λh j hj=>h j (List.mem_range.2 (by omega)),λh j hj=>h j (by have:=List.mem_range.1 hj;omega)⟩
theorem vN {n:Nat}{f:Int→Bool}(j:Nat) (h:(j:Int)<(n:Int)) (hf:f j=false):Gi n f=false:=by
 rw [Bool.eq_false_iff];intro hx;rw [gm.1 hx j h] at hf;cases hf
def cbZ (c:Cbl):Bool:=(c.1==0)&&((c.2.1==0)&&((c.2.2.1==0)&&((c.2.2.2.1==0)&&(c.2.2.2.2==0))))
def J3 (c:Cbl):Bool:=cbZ c ||(decide (0≤c.1)&&(decide (c.1<c.2.1)&&(decide (c.2.1≤200000)&&(inB c.2.2.1 0 1000&&(inB c.2.2.2.1 0 1000&&inB c.2.2.2.2 1 1000000)))))
def IB (i:Int) (c:Cd):Bool:=(if i=0 then c.2.1==-1 else inB c.2.1 0 (i-1))&&(inB c.2.2.1 1 1000&&(inB c.2.2.2.1 1 1000&&(((c.2.2.2.2.1.1==0)&&(c.2.2.2.2.1.2==0) ||(inB c.2.2.2.2.1.1 1 1000&&inB c.2.2.2.2.1.2 0 1000000))&&J3 c.2.2.2.2.2)))
def chW (c:Ch):Bool:=inB c.2.2.1 1 7&&(inB c.2.2.2.1 1 80&&(inB c.2.2.2.2.1 c.2.2.2.1 80&&(inB c.2.2.2.2.2.1 1 80&&(c.2.2.2.2.2.2.1==0 ||inB c.2.2.2.2.2.2.1 c.2.2.2.1 c.2.2.2.2.1))))
def JZ (nc no:Int) (c:Ch):Bool:=inB c.2.1 0 (nc-1)&&(inB c.2.2.2.2.2.2.2 0 (no-1)&&chW c)
def koV (no:Int) (c:Ko):Bool:=inB c.2.1 0 (no-1)&&(inB c.2.2.1 1 9&&inB c.2.2.2 1 1000000)
def once {α:Type} [BEq α] (l:List α):Bool:=(List.range l.length).all λj=>match l[j]? with
 |some x=>!((l.take j).contains x)
 |none=>true
theorem L8 {α:Type} [BEq α] [LawfulBEq α] {l:List α}:once l=true↔∀(j:Nat) (h:j<l.length),¬l[j]∈l.take j:=by
 unfold once;rw [List.all_eq_true];refine ⟨λh j hj hm=>?_,λh j hj=>?_⟩
 ·have:=h j (List.mem_range.2 hj)
  rw [List.getElem?_eq_getElem hj] at this;simp only [Bool.not_eq_true'] at this;rw [List.contains_iff_mem.2 hm] at this;cases this
 ·have hj:=List.mem_range.1 hj
  rw [List.getElem?_eq_getElem hj];simp only [Bool.not_eq_true'];rw [Bool.eq_false_iff];exact λhc=>h j hj (List.contains_iff_mem.1 hc)
def vpB (cs:List Cd) (os:List ByteArray) (ks:List Ko) (gs:List Ch) (bs:List Ba):Bool:=
 Gi cs.length (λj=>IB j (iw cs j))&&(ks.all (koV os.length)&&(once (ks.map (·.2.2.2))&&(gs.all (JZ cs.length os.length)&&bs.all (λb=>inB b.2 0 ((gs.length:Int)-1)))))
def gG (cs:List Cd) (os:List ByteArray) (ks:List Ko) (gs:List Ch) (bs:List Ba):List ByteArray:=cs.map (·.1)++os++ks.map (·.1)++gs.map (·.1)++bs.map (·.1)
def fH (cs:List Cd) (os:List ByteArray) (ks:List Ko) (gs:List Ch) (bs:List Ba):Bool:=
 decide (1≤cs.length∧cs.length≤16∧os.length≤8∧ks.length≤32∧gs.length≤16∧bs.length≤24)&&((gG cs os ks gs bs).all nameB&&(once (gG cs os ks gs bs)&&vpB cs os ks gs bs))
theorem aIV {nm:ByteArray}{i up li ne ra he am mo ga lo de:Int}(hi:0≤i) {K:Bool→Prop}(h:K (IB i (nm,up,li,ne,(ra,he),am,mo,ga,lo,de))):
  ((if i==0 then (up !=(-1)) ||((decide (i>0))&&((decide (up<0)) ||(decide (up≥i)))) else (decide (i>0))&&((decide (up<0)) ||(decide (up≥i))))=true→K false)∧
  ((if i==0 then (up !=(-1)) ||((decide (i>0))&&((decide (up<0)) ||(decide (up≥i)))) else (decide (i>0))&&((decide (up<0)) ||(decide (up≥i))))=false→
   (((!(inB li (1:Int) (1000:Int))) ||(!(inB ne (1:Int) (1000:Int))))=true→K false)∧
   (((!(inB li (1:Int) (1000:Int))) ||(!(inB ne (1:Int) (1000:Int))))=false→
    (((!((ra==0)&&(he==0)))&&(!(inB ra (1:Int) (1000:Int)) ||(!(inB he (0:Int) (1000000:Int)))))=true→K false)∧
    (((!((ra==0)&&(he==0)))&&(!(inB ra (1:Int) (1000:Int)) ||(!(inB he (0:Int) (1000000:Int)))))=false→
     (((am==0)&&((mo==0)&&((ga==0)&&((lo==0)&&(de==0)))))=true→K true)∧
     (((am==0)&&((mo==0)&&((ga==0)&&((lo==0)&&(de==0)))))=false→K ((inB am (0:Int) (200000:Int))&&((inB mo (0:Int) (200000:Int))&&((inB ga (0:Int) (1000:Int))&&((inB lo (0:Int) (1000:Int))&&((inB de (1:Int) (1000000:Int))&&(decide (mo>am))))))))))):=by
 have e1:(if i==0 then (up !=(-1)) ||((decide (i>0))&&((decide (up<0)) ||(decide (up≥i)))) else (decide (i>0))&&((decide (up<0)) ||(decide (up≥i))))=!(if i=0 then up==-1 else inB up 0 (i-1)):=by
  by_cases h0:i=0
  ·subst h0;simp [bne]
  ·have:(i==0)=false:=by simpa using h0
   rw [this,if_neg h0,Bool.eq_iff_iff]
   simp [inB]
   omega
 rw [e1];unfold IB at h;simp only at h;generalize (if i=0 then up==-1 else inB up 0 (i-1))=b1 at*
 refine ⟨λc=>?_,λc=>⟨λc2=>?_,λc2=>⟨λc3=>?_,λc3=>⟨λc4=>?_,λc4=>?_⟩⟩⟩⟩
 ·simp at c;rw [c] at h;exact h
 all_goals
  have c:b1=true:=by simpa using c
  rw [c,Bool.true_and] at h
 ·have:(inB li 1 1000&&inB ne 1 1000)=false:=by simp at c2⊢;cases q:inB li 1 1000<;>simp_all
  rw [←Bool.and_assoc,this] at h;exact h
 all_goals
  have c2:inB li 1 1000=true∧inB ne 1 1000=true:=by simpa using c2
  rw [c2.1,c2.2,Bool.true_and,Bool.true_and] at h
 ·have:((ra==0)&&(he==0) ||(inB ra 1 1000&&inB he 0 1000000))=false:=by
   revert c3;cases ((ra==0)&&(he==0))<;>cases inB ra 1 1000<;>cases inB he 0 1000000<;>simp
  rw [this] at h;exact h
 all_goals
  have:((ra==0)&&(he==0) ||(inB ra 1 1000&&inB he 0 1000000))=true:=by
   revert c3;cases ((ra==0)&&(he==0))<;>cases inB ra 1 1000<;>cases inB he 0 1000000<;>simp
  rw [this,Bool.true_and] at h
 ·unfold J3 cbZ at h
  simp only at h;rw [c4] at h;exact h
 ·unfold J3 cbZ at h
  simp only at h;rw [c4,Bool.false_or] at h
  have:((inB am (0:Int) (200000:Int))&&((inB mo (0:Int) (200000:Int))&&((inB ga (0:Int) (1000:Int))&&((inB lo (0:Int) (1000:Int))&&((inB de (1:Int) (1000000:Int))&&(decide (mo>am)))))))=(decide (0≤am)&&(decide (am<mo)&&(decide (mo≤200000)&&(inB ga 0 1000&&(inB lo 0 1000&&inB de 1 1000000))))):=by
   rw [Bool.eq_iff_iff];simp only [Bool.and_eq_true,dV,decide_eq_true_eq];omega
  rw [this];exact h
theorem nC {α β:Type} [BEq β] [LawfulBEq β] {l:List α}{d:α}{p:α→Bool}{k:α→β}:(∀j:Nat,(j:Int)<(l.length:Int)→(p (l.getD (j:Int).toNat d)&&!(((l.take (j:Int).toNat).map k).contains (k (l.getD (j:Int).toNat d))))=true)↔(l.all p&&once (l.map k))=true:=by
 have hg:∀(j:Nat) (h:j<l.length),l.getD (j:Int).toNat d=l[j]:=λj h=>yA (n:=(j:Int)) h
 rw [Bool.and_eq_true,List.all_eq_true,L8]
 constructor
 ·intro h
  refine ⟨λx hx=>?_,λj hj hm=>?_⟩
  ·obtain ⟨j,hj,rfl⟩:=List.getElem_of_mem hx
   have:=h j (by omega)
   rw [hg j hj,Bool.and_eq_true] at this;exact this.1
  ·have hj':j<l.length:=by simpa using hj
   have:=h j (by omega)
   rw [hg j hj',Bool.and_eq_true,Bool.not_eq_true'] at this
   have h2:=this.2
   rw [Int.toNat_natCast,List.map_take,List.contains_iff_mem.2 (by simpa using hm)] at h2
   cases h2
 ·intro ⟨h1,h2⟩ j hj
  have hj':j<l.length:=by omega
  rw [hg j hj',Bool.and_eq_true,Bool.not_eq_true'];refine ⟨h1 _ (List.getElem_mem _),?_⟩;rw [Bool.eq_false_iff,Int.toNat_natCast,List.map_take];intro hc;exact h2 j (by simpa using hj') (by simpa using List.contains_iff_mem.1 hc)
theorem jm {α:Type}{l:List α}{d:α}{p:α→Bool}:(∀j:Nat,(j:Int)<(l.length:Int)→p (l.getD (j:Int).toNat d)=true)↔l.all p=true:=by
 have hg:∀(j:Nat) (h:j<l.length),l.getD (j:Int).toNat d=l[j]:=λj h=>yA (n:=(j:Int)) h
 rw [List.all_eq_true]
 constructor
 ·intro h x hx
  obtain ⟨j,hj,rfl⟩:=List.getElem_of_mem hx
  have:=h j (by omega)
  rw [hg j hj] at this;exact this
 ·intro h j hj
  have hj':j<l.length:=by omega
  rw [hg j hj'];exact h _ (List.getElem_mem _)
def upB (cs:List Cd):Bool:=Gi cs.length (λj=>decide ((iw cs j).2.1<j))
theorem TU {cs:List Cd}(h:upB cs=true) {c:Int}(h0:0≤c) (h1:c<cs.length):(iw cs c).2.1<c:=by
 have:=gm.1 h c.toNat (by omega)
 rw [Int.toNat_of_nonneg h0] at this
 simpa using this
def onW:Nat→List Cd→Int→Int→Bool
 |0,_,_,_=>false
 |k+1,cs,o,c=>if c≥0 then (c==o ||onW k cs o (iw cs c).2.1) else false
def Kw (cs:List Cd) (o c:Int):Bool:=onW (c.toNat+2) cs o c
theorem aoA {cs:List Cd}{o:Int}(hu:upB cs=true):∀(k k':Nat) (c:Int),c<cs.length→(c+1).toNat<k→(c+1).toNat<k'→onW k cs o c=onW k' cs o c
 |0,_,_,_,h,_=>by omega
 |_+1,0,_,_,_,h=>by omega
 | k+1,k'+1,c,hc,h,h'=>by
  simp only [onW]
  by_cases h0:c≥0
  ·rw [if_pos h0,if_pos h0]
   have:=TU hu h0 hc
   rw [aoA hu k k' (iw cs c).2.1 (by omega) (by omega) (by omega)]
  ·rw [if_neg h0,if_neg h0]
theorem abU {cs:List Cd}{o c:Int}(hu:upB cs=true) (hc:c<cs.length):Kw cs o c=if c≥0 then (c==o ||Kw cs o (iw cs c).2.1) else false:=by
 unfold Kw;rw [onW]
 by_cases h0:c≥0
 ·rw [if_pos h0,if_pos h0]
  have:=TU hu h0 hc
  rw [aoA hu (c.toNat+1) ((iw cs c).2.1.toNat+2) (iw cs c).2.1 (by omega) (by omega) (by omega)]
 ·rw [if_neg h0,if_neg h0]
def atB (cs:List Cd) (gs:List Ch):Bool:=Gi gs.length (λj=>decide ((bG gs j).2.1<(cs.length:Int)))
theorem ase {cs:List Cd}{gs:List Ch}(h:atB cs gs=true) {c:Int}(h0:0≤c) (h1:c<gs.length):(bG gs c).2.1<(cs.length:Int):=by
 have:=gm.1 h c.toNat (by omega)
 rw [Int.toNat_of_nonneg h0] at this
 simpa using this
def uw (cs:List Cd) (gs:List Ch) (o:Int) (k:Nat):List Int:=((List.range k).map (λj:Nat=>(j:Int))).filter (λj=>Kw cs o (bG gs j).2.1)
theorem alC {cs:List Cd}{gs:List Ch}{o:Int}{k:Nat}:uw cs gs o (k+1)=uw cs gs o k++(if Kw cs o (bG gs k).2.1=true then [(k:Int)] else []):=by
 unfold uw;rw [List.range_succ,List.map_append,List.filter_append]
 simp [List.filter_cons]
theorem Og {cs:List Cd}{gs:List Ch}{o:Int}{k:Nat}:(uw cs gs o k).length≤k:=by
 unfold uw;exact Nat.le_trans (List.length_filter_le _ _) (by simp)
theorem fK {cs:List Cd}{os:List ByteArray}{ks:List Ko}{gs:List Ch}{bs:List Ba}:fH cs os ks gs bs=true↔(1≤cs.length∧cs.length≤16∧os.length≤8∧ks.length≤32∧gs.length≤16∧bs.length≤24)∧(gG cs os ks gs bs).all nameB=true∧once (gG cs os ks gs bs)=true∧Gi cs.length (λj=>IB j (iw cs j))=true∧ks.all (koV os.length)=true∧once (ks.map (·.2.2.2))=true∧gs.all (JZ cs.length os.length)=true∧bs.all (λb=>inB b.2 0 ((gs.length:Int)-1))=true:=by
 unfold fH vpB;simp only [Bool.and_eq_true,decide_eq_true_eq]
theorem Yu {cs:List Cd}{os:List ByteArray}{ks:List Ko}{gs:List Ch}{bs:List Ba}(h:fH cs os ks gs bs=true) {c:Int}(h0:0≤c) (h1:c<cs.length):IB c (iw cs c)=true:=by
 have:=gm.1 (fK.1 h).2.2.2.1 c.toNat (by omega)
 rwa [Int.toNat_of_nonneg h0] at this
theorem tY {cs:List Cd}{os:List ByteArray}{ks:List Ko}{gs:List Ch}{bs:List Ba}(h:fH cs os ks gs bs=true) {c:Int}(h0:0≤c) (h1:c<gs.length):JZ cs.length os.length (bG gs c)=true:=by
 have:=List.all_eq_true.1 (fK.1 h).2.2.2.2.2.2.1 gs[c.toNat] (List.getElem_mem _)
 rwa [aIk (by omega)]
theorem Yt {cs:List Cd}{os:List ByteArray}{ks:List Ko}{gs:List Ch}{bs:List Ba}(h:fH cs os ks gs bs=true):upB cs=true:=
 gm.2 λj hj=>by
  have:=Yu h (c:=j) (by omega) hj
  unfold IB at this;rw [Bool.and_eq_true] at this
  have h1:=this.1
  rw [decide_eq_true_eq];split at h1
  ·rename_i h0;simp at h1;omega
  ·have:=dV.1 h1;omega
theorem Yv {cs:List Cd}{os:List ByteArray}{ks:List Ko}{gs:List Ch}{bs:List Ba}(h:fH cs os ks gs bs=true):atB cs gs=true:=
 gm.2 λj hj=>by
  have:=tY h (c:=j) (by omega) hj
  unfold JZ at this;rw [Bool.and_eq_true] at this
  have:=dV.1 this.1
  rw [decide_eq_true_eq];omega
def aIZ (cs:List Cd) (os:List ByteArray) (ks:List Ko) (gs:List Ch) (bs:List Ba) (o:Int):Int:=if fH cs os ks gs bs=true∧0≤o∧o<cs.length then 0 else 1
def dF (cs:List Cd) (os:List ByteArray) (ks:List Ko) (gs:List Ch) (bs:List Ba) (o:Int):List Int:=if fH cs os ks gs bs=true∧0≤o∧o<cs.length then uw cs gs o gs.length else []
def anh (ga ro:Int):Nat→Int
 |0=>0
 |k+1=>if ga*(k+1)*(k+1)≤ro then (k:Int)+1 else anh ga ro k
theorem amD {ga m:Int}(h0:0≤ga) (h1:ga≤1000) (m0:0≤m) (m1:m≤1000):(0≤ga*m∧ga*m≤1000000)∧0≤ga*m*m∧ga*m*m≤1000000000:=by
 have a1:ga*m≤1000*m:=Int.mul_le_mul_of_nonneg_right h1 m0
 have a2:=Int.mul_nonneg h0 m0
 have a3:ga*m*m≤1000000*m:=Int.mul_le_mul_of_nonneg_right (by omega) m0
 exact ⟨⟨a2,by omega⟩,Int.mul_nonneg a2 m0,by omega⟩
theorem afP {ga a b:Int}(h0:0≤ga) (a0:0≤a) (h:a≤b):ga*a*a≤ga*b*b:=by
 have h1:ga*a≤ga*b:=Int.mul_le_mul_of_nonneg_left h h0
 exact Int.le_trans (Int.mul_le_mul_of_nonneg_right h1 a0) (Int.mul_le_mul_of_nonneg_left h (Int.mul_nonneg h0 (by omega)))
theorem Uu {ga ro r:Int}:∀ {k:Nat},0≤r→r≤k→(r=0∨ga*r*r≤ro)→(∀a:Int,r<a→a≤k→¬ga*a*a≤ro)→anh ga ro k=r
 |0,h0,h1,_,_=>by simp only [anh];omega
 | k + 1, h0, h1, h2,h3=>by
  simp only [anh]
  by_cases hr:r=(k:Int)+1
  ·subst hr
   rw [if_pos (by rcases h2 with h|h;· omega
                  ·exact h)]
  ·rw [if_neg (h3 ((k:Int)+1) (by omega) (by omega))]
   exact Uu h0 (by omega) h2 (λa ha hk=>h3 a ha (by omega))
def prm (ga ro:Int):Int:=anh ga ro 1000
def pmE (c:Cbl):Int:=if J3 c=true then 0 else 1
def BN (c:Cbl):Int:=if J3 c=true then (if cbZ c=true then 1000 else prm c.2.2.1 ((if c.2.2.2.2<c.2.2.2.1 then c.2.2.2.2 else c.2.2.2.1)*(c.2.1-c.1))) else 0
theorem ar7 {c:Cbl}(h:J3 c=true) (hz:cbZ c=false):(0≤c.1∧c.1<c.2.1∧c.2.1≤200000)∧(0≤c.2.2.1∧c.2.2.1≤1000)∧(0≤c.2.2.2.1∧c.2.2.2.1≤1000)∧1≤c.2.2.2.2∧c.2.2.2.2≤1000000:=by
 unfold J3 at h;rw [hz,Bool.false_or] at h;simp only [Bool.and_eq_true,decide_eq_true_eq,dV] at h;omega
def lsF (f:Int) (l:List Int):Int:=l.foldl (λa n=>if n<a then n else a) f
def dS (c:Cd):Int:=if c.2.2.2.2.1.1=0 then lsF c.2.2.1 [c.2.2.2.1,BN c.2.2.2.2.2] else lsF c.2.2.1 [c.2.2.2.1,BN c.2.2.2.2.2,c.2.2.2.2.1.1]
theorem axk {c:Cbl}:(pmE c !=0)=!J3 c:=by
 unfold pmE;cases J3 c<;>rfl
abbrev wE:Ty:=.pair aSg (.sl aSg)
abbrev Rw:=Int×List Int
def rP (l:List Rw) (n:Int):Rw:=l.getD n.toNat (0,[])
theorem BX {l:List Rw}{n:Int}(h:n.toNat<l.length):rP l n=l[n.toNat]:=yA h
theorem arO {l:List Rw}{i:Int}(h0:0≤i) (h:i<l.length):l.drop i.toNat=rP l i::l.drop (i+1).toNat∧l.take (i+1).toNat=l.take i.toNat++[rP l i]:=xU h0 h
theorem jA {l:List Int}{n:Int}(h:n.toNat<l.length):gi l n=l[n.toNat]:=yA h
def usA (ph p:Int):Bool:=aN1 .i64 ph (aSe ((1:Int)*2^(min p.toNat 64))) !=0
def iY (gs:List Ch) (p:Int) (l:List Int):List Int:=l.filter (λk=>usA (bG gs k).2.2.1 p)
def Zv (gs:List Ch) (p:Int) (l:List Int):Prop:=0≤p∧l.length≤1000∧∀k∈l,0≤k∧k<(gs.length:Int)
theorem aAr {gs:List Ch}{p:Int}{l:List Int}:(iY gs p l).length≤l.length:=List.length_filter_le _ _
theorem ZM {cs:List Cd}{gs:List Ch}{o:Int}{k:Nat}{x:Int}(h:x∈uw cs gs o k):0≤x∧x<(k:Int):=by
 unfold uw at h
 have:=(List.mem_filter.1 h).1
 obtain ⟨j,h1,rfl⟩:=List.mem_map.1 this
 have:=List.mem_range.1 h1
 omega
def rowP (cs:List Cd) (gs:List Ch) (c p:Int):List Rw:=if (iY gs p (uw cs gs c gs.length)).length>0 then [(dS (iw cs c),iY gs p (uw cs gs c gs.length))] else []
def ak0 (cs:List Cd) (gs:List Ch) (c:Int):List Rw:=rowP cs gs c 0++rowP cs gs c 1++rowP cs gs c 2
def jZ (cs:List Cd) (gs:List Ch):Nat→List Rw
 |0=>[]
 |k+1=>jZ cs gs k++ak0 cs gs k
theorem LG {cs:List Cd}{gs:List Ch}{c p:Int}:(rowP cs gs c p).length≤1:=by
 unfold rowP;split<;>simp
theorem am7 {cs:List Cd}{gs:List Ch}{c:Int}:(ak0 cs gs c).length≤3:=by
 unfold ak0
 have h0:=LG (cs:=cs) (gs:=gs) (c:=c) (p:=0)
 have h1:=LG (cs:=cs) (gs:=gs) (c:=c) (p:=1)
 have h2:=LG (cs:=cs) (gs:=gs) (c:=c) (p:=2)
 simp only [List.length_append];omega
theorem wJ {cs:List Cd}{gs:List Ch}:∀ {k:Nat},(jZ cs gs k).length≤3*k
 |0=>by simp [jZ]
 |k+1=>by
  have:=wJ (cs:=cs) (gs:=gs) (k:=k)
  have h2:=am7 (cs:=cs) (gs:=gs) (c:=k)
  simp only [jZ,List.length_append];omega
def BL (cs:List Cd) (os:List ByteArray) (ks:List Ko) (gs:List Ch) (bs:List Ba):Int:=if fH cs os ks gs bs=true then 0 else 1
def iG (cs:List Cd) (os:List ByteArray) (ks:List Ko) (gs:List Ch) (bs:List Ba):List Rw:=if fH cs os ks gs bs=true then jZ cs gs cs.length else []
def pV (a:Int):Bool:=decide (a≥0)&&decide (a≤80)
theorem pq {a:Int}:pV a=true↔0≤a∧a≤80:=by simp [pV]
def YD (n i:Int):Bool:=decide (0≤i)&&decide (i<n)
theorem Dy {n i:Int}:YD n i=true↔0≤i∧i<n:=by simp [YD]
def oh (l:List Int) (n:Int):Bool:=decide ((l.length:Int)=n)&&(l.all (YD n)&&once l)
def smA (alive l:List Int):Int:=(l.map (λm=>gi alive m)).sum
def yF (i:Int) (o:List (List Int)) (l:List Int):List (List Int):=l.foldl (λo m=>o.modify m.toNat (·++[i])) o
def Xu (o:List (List Int)) (i:Int):List Rw→List (List Int)
 | []=>o
 |r::rs=>Xu (yF i o r.2) (i+1) rs
def Xt (alive sm:List Int) (i:Int):List Rw→List Int
 | []=>sm
 |r::rs=>Xt alive (sm.set i.toNat (sm.getD i.toNat 0+smA alive r.2)) (i+1) rs
theorem Yr {alive l:List Int}{m:Int}:smA alive (m::l)=gi alive m+smA alive l:=by simp [smA]
theorem Ak {i m:Int}{o:List (List Int)}{l:List Int}:yF i o (m::l)=yF i (o.modify m.toNat (·++[i])) l:=rfl
theorem y5 {i:Int}:∀ {l:List Int}{o:List (List Int)},(yF i o l).length=o.length
 | [],o=>rfl
 |m::l,o=>by rw [Ak,y5,List.length_modify]
theorem agw {i:Int}:∀ {l:List Int}{o:List (List Int)}{b:Int},(∀x∈o,(x.length:Int)≤b)→∀x∈yF i o l,(x.length:Int)≤b+l.length
 | [],o,b,h,x,hx=>by have:=h x hx;simp only [List.length_nil];omega
 | m::l,o,b,h,x,hx=>by
  rw [Ak] at hx
  have:=agw (b:=b+1) (λy hy=>by
   obtain ⟨k,hk,rfl⟩:=List.mem_iff_getElem.1 hy;rw [List.length_modify] at hk
   have:=h o[k] (List.getElem_mem _)
   rw [List.getElem_modify];split
   ·simp only [List.length_append,List.length_cons,List.length_nil];omega
   ·omega) x hx
  simp only [List.length_cons];omega
theorem amT {l:List Int}{i:Nat}(h:i<l.length):l.set i (l.getD i 0+0)=l:=by
 rw [Int.add_zero,List.getD_eq_getElem?_getD,List.getElem?_eq_getElem h,Option.getD_some,List.set_getElem_self]
theorem Yx {l:List Int}{i:Nat}{a b:Int}(h:i<l.length):letI c:=l.set i (l.getD i 0+a);c.set i (c.getD i 0+b)=l.set i (l.getD i 0+(a+b)):=by
 have e:(l.set i (l.getD i 0+a)).getD i 0=l.getD i 0+a:=by simp [List.getD,h]
 rw [e,List.set_set]
 congr 1
 omega
def mx (a b:Int):Int:=if a<b then b else a
def tK (gs:List Ch) (i k:Int):Int:=CW (bG gs i).2.2.2.1 (bG gs i).2.2.2.2.2.1 k
def Bg (gs:List Ch) (i a:Int):Int:=Y1 (bG gs i).2.2.2.1 (bG gs i).2.2.2.2.1 (bG gs i).2.2.2.2.2.1 a
def QK (gs:List Ch) (alive:List Int) (i k:Int):Int:=mx (gi alive i) (tK gs i k)-mx (gi alive i) (tK gs i (k-1))
def D8 (rows:List Rw) (sm:List Int) (mo r:Int):Bool:=decide (sm.getD r.toNat 0+mo≤(rP rows r).1)
def CG (sm:List Int) (mo:Int) (l:List Int):List Int:=l.foldl (λsm r=>sm.set r.toNat (sm.getD r.toNat 0+mo)) sm
abbrev Tr:=List Int×List Int×Bool
def Gv (O:List (List Int)) (rows:List Rw) (gs:List Ch) (alive most:List Int) (level:Int) (t:Tr) (i:Int):Tr:=
 if t.2.1.getD i.toNat 0=level-1∧level≤Bg gs i (gi most i) then
  (if ((O.getD i.toNat []).all (D8 rows t.1 (QK gs alive i level)))=true then (CG t.1 (QK gs alive i level) (O.getD i.toNat []),t.2.1.set i.toNat level,true) else t)
 else t
def swp (O:List (List Int)) (rows:List Rw) (gs:List Ch) (alive most:List Int) (level:Int) (t:Tr) (l:List Int):Tr:=l.foldl (Gv O rows gs alive most level) t
def shl (O:List (List Int)) (rows:List Rw) (gs:List Ch) (alive most order:List Int):Nat→Int→List Int→List Int→List Int
 |0,_,_,lv=>lv
 |f+1,level,sm,lv=>if (swp O rows gs alive most level (sm,lv,false) order).2.2=true then shl O rows gs alive most order f (level+1) (swp O rows gs alive most level (sm,lv,false) order).1 (swp O rows gs alive most level (sm,lv,false) order).2.1 else (swp O rows gs alive most level (sm,lv,false) order).2.1
theorem Hr {sm l:List Int}{mo r:Int}:CG sm mo (r::l)=CG (sm.set r.toNat (sm.getD r.toNat 0+mo)) mo l:=rfl
theorem vJ {mo:Int}:∀ {l sm:List Int},(CG sm mo l).length=sm.length
 | [],_=>rfl
 |r::l,sm=>by rw [Hr,vJ,List.length_set]
theorem uj {sm:List Int}{i k:Nat}{v:Int}:(sm.set i v).getD k 0=if i=k∧k<sm.length then v else sm.getD k 0:=by
 simp only [List.getD,List.getElem?_set]
 by_cases h:i=k
 ·subst h
  by_cases h2:i<sm.length
  ·simp [h2]
  ·simp [h2]
 ·simp [h]
theorem Om {mo:Int}:∀ {l sm:List Int}{k:Nat},(∀r∈l,r.toNat≠k)→(CG sm mo l).getD k 0=sm.getD k 0
 | [],_,_,_=>rfl
 |r::l,sm,k,h=>by
  rw [Hr,Om (λx hx=>h x (by simp [hx])),uj,if_neg (λe=>h r (by simp) e.1)]
theorem Oo {mo:Int}:∀ {l sm:List Int}{k:Nat},l.Nodup→(∀r∈l,0≤r)→k<sm.length→(CG sm mo l).getD k 0=sm.getD k 0+(if (k:Int)∈l then mo else 0)
 | [],sm,k,_,_,_=>by simp [CG]
 | r::l,sm,k,hn,h0,hk=>by
  rw [Hr];obtain ⟨n1,n2⟩:=List.nodup_cons.1 hn
  have hr:=h0 r (by simp)
  by_cases e:r.toNat=k
  ·rw [Om (λx hx e2=>n1 (by
    have:=h0 x (by simp [hx])
    have:r=x:=by omega
    rw [this];exact hx)),uj,if_pos ⟨e,hk⟩,if_pos (by simp;left;omega),e]
  ·rw [Oo n2 (λx hx=>h0 x (by simp [hx])) (by rw [List.length_set];exact hk),uj,if_neg (λc=>e c.1)]
   have:¬(k:Int)=r:=by omega
   simp [this]
theorem acB {mi ma st a:Int}:Y1 mi ma st a≤80:=by
 have:=VX (mi:=mi) (ma:=ma) (st:=st)
 unfold Y1;split
 ·omega
 ·split
  ·omega
  ·omega
structure OkT (O:List (List Int)) (rows:List Rw) (gs:List Ch) (alive most order:List Int):Prop where
 ol:O.length=16
 ord:∀i∈order,(0≤i∧i<16)∧i<(gs.length:Int)∧i<(alive.length:Int)∧i<(most.length:Int)
 al:∀a∈alive,0≤a∧a≤80
 mo:∀a∈most,0≤a∧a≤80
 has:∀i∈order,lH (bG gs i).2.2.2.1 (bG gs i).2.2.2.2.1 (bG gs i).2.2.2.2.2.1=true
 row:∀o∈O,o.Nodup∧(o.length:Int)≤1000∧∀r∈o,0≤r∧r<(rows.length:Int)
 cap:∀r∈rows,r.1≤1000
structure OkS (rows:List Rw) (order sm lv:List Int):Prop where
 len:sm.length=rows.length
 bd:∀k:Nat,0≤sm.getD k 0∧sm.getD k 0≤2000
 wz:∀i∈order,i<(lv.length:Int)
 lvb:∀k:Nat,0≤lv.getD k 0∧lv.getD k 0≤80
theorem adD {mi st k:Int}(h:1≤mi∧mi≤80∧1≤st∧st≤80) (h0:0≤k) (h1:k≤81):0≤CW mi st k∧CW mi st k≤6480:=by
 unfold CW;split
 ·omega
 ·have a1:0≤(k-1)*st:=Int.mul_nonneg (by omega) (by omega)
  have a2:(k-1)*st≤(k-1)*80:=Int.mul_le_mul_of_nonneg_left (by omega) (by omega)
  omega
theorem ZO {mi st j k:Int}(h:1≤mi∧1≤st) (h0:0≤j) (h1:j≤k):CW mi st j≤CW mi st k:=by
 unfold CW;split
 ·split
  ·omega
  ·have a1:0≤(k-1)*st:=Int.mul_nonneg (by omega) (by omega)
   omega
 ·rw [if_neg (by omega)]
  have:(j-1)*st≤(k-1)*st:=Int.mul_le_mul_of_nonneg_right (by omega) (by omega)
  omega
theorem aqc {gs:List Ch}{alive:List Int}{i k:Int}(hh:lH (bG gs i).2.2.2.1 (bG gs i).2.2.2.2.1 (bG gs i).2.2.2.2.2.1=true) (ha:0≤gi alive i∧gi alive i≤80) (h0:1≤k) (h1:k≤81):0≤QK gs alive i k∧QK gs alive i k≤10000:=by
 obtain ⟨g1,g2,g3,g4,g5⟩:=fZ.1 hh
 have b1:=adD (mi:=(bG gs i).2.2.2.1) (st:=(bG gs i).2.2.2.2.2.1) (k:=k) ⟨g1,by omega,g4,g5⟩ (by omega) h1
 have b2:=adD (mi:=(bG gs i).2.2.2.1) (st:=(bG gs i).2.2.2.2.2.1) (k:=k-1) ⟨g1,by omega,g4,g5⟩ (by omega) (by omega)
 have b3:=ZO (mi:=(bG gs i).2.2.2.1) (st:=(bG gs i).2.2.2.2.2.1) (j:=k-1) (k:=k) ⟨g1,g4⟩ (by omega) (by omega)
 unfold QK mx tK;split<;>split<;>omega
theorem jq {l:List Int}{i:Int}(h0:0≤i) (h:i<(l.length:Int)):gi l i∈l:=by
 rw [jA (by omega)];exact List.getElem_mem _
theorem am1 {O:List (List Int)}{rows:List Rw}{gs:List Ch}{alive most order:List Int}{level:Int}{t:Tr}{i:Int}(hT:OkT O rows gs alive most order) (hS:OkS rows order t.1 t.2.1) (hi:i∈order) (h0:1≤level) (h1:level≤81):letI b:=Gv O rows gs alive most level t i;OkS rows order b.1 b.2.1:=by
 unfold Gv;split
 ·split
  ·rename_i hc hf
   obtain ⟨⟨o0,o1⟩,o2,o3,o4⟩:=hT.ord i hi
   have hl80:=acB (mi:=(bG gs i).2.2.2.1) (ma:=(bG gs i).2.2.2.2.1) (st:=(bG gs i).2.2.2.2.2.1) (a:=gi most i)
   have hl81:=hc.2
   unfold Bg at hl81
   have hm:=aqc (gs:=gs) (alive:=alive) (k:=level) (hT.has i hi) (hT.al _ (jq o0 o3)) h0 h1
   have ho:O.getD i.toNat []∈O:=by
    have hl:=hT.ol
    rw [List.getD_eq_getElem?_getD,List.getElem?_eq_getElem (by omega),Option.getD_some]
    exact List.getElem_mem _
   obtain ⟨r1,r2,r3⟩:=hT.row _ ho
   refine ⟨by simp only;rw [vJ];exact hS.len,λk=>?_,λj hj=>by simp only [List.length_set];exact hS.wz j hj,λk=>by
    have:=hS.lvb k
    simp only;rw [uj];split<;>omega⟩
   simp only
   by_cases hk:k<t.1.length
   ·rw [Oo r1 (λr hr=>(r3 r hr).1) hk]
    have hb:=hS.bd k
    split
    ·rename_i hkm
     have hfit:=List.all_eq_true.1 hf _ hkm
     unfold D8 at hfit;rw [decide_eq_true_eq,Int.toNat_natCast] at hfit
     have hk2:=hS.len
     have:=hT.cap (rP rows (k:Int)) (by rw [BX (by omega)];exact List.getElem_mem _)
     omega
    ·omega
   ·rw [List.getD_eq_getElem?_getD,List.getElem?_eq_none (by rw [vJ];omega)]
    simp
  ·exact hS
 ·exact hS
theorem aa8 {O:List (List Int)}{rows:List Rw}{gs:List Ch}{alive most order:List Int}{level:Int}(hT:OkT O rows gs alive most order) (h0:1≤level) (h1:level≤81):∀(l:List Int) (t:Tr),(∀i∈l,i∈order)→OkS rows order t.1 t.2.1→OkS rows order (swp O rows gs alive most level t l).1 (swp O rows gs alive most level t l).2.1
 | [],t,_,h=>h
 |i::l,t,hl,h=>aa8 hT h0 h1 l _ (λj hj=>hl j (by simp [hj])) (am1 hT h (hl i (by simp)) h0 h1)
theorem Dc {O:List (List Int)}{rows:List Rw}{gs:List Ch}{alive most:List Int}{level:Int}:∀(l:List Int) (t:Tr),(swp O rows gs alive most level t l).2.2=true→t.2.2=true∨level≤80
 | [],t,h=> .inl h
 | i::l,t,h=>by
  rcases Dc l _ h with h2|h2
  ·unfold Gv at h2
   split at h2
   ·rename_i hc
    have:=acB (mi:=(bG gs i).2.2.2.1) (ma:=(bG gs i).2.2.2.2.1) (st:=(bG gs i).2.2.2.2.2.1) (a:=gi most i)
    have h3:=hc.2
    unfold Bg at h3;exact .inr (by omega)
   ·exact .inl h2
  ·exact .inr h2
theorem abm {O:List (List Int)}{rows:List Rw}{gs:List Ch}{alive most:List Int}{level:Int}{t:Tr}{i:Int}:(Gv O rows gs alive most level t i).2.1.length=t.2.1.length:=by
 unfold Gv;split
 ·split
  ·simp only [List.length_set]
  ·rfl
 ·rfl
theorem Lj {O:List (List Int)}{rows:List Rw}{gs:List Ch}{alive most:List Int}{level:Int}:∀(l:List Int) (t:Tr),(swp O rows gs alive most level t l).2.1.length=t.2.1.length
 | [],_=>rfl
 |_::l,_=>(Lj l _).trans abm
theorem amN {O:List (List Int)}{rows:List Rw}{gs:List Ch}{alive most order:List Int}(hT:OkT O rows gs alive most order):∀(f:Nat) (level:Int) (sm lv:List Int),1≤level→level≤81→OkS rows order sm lv→(shl O rows gs alive most order f level sm lv).length=lv.length∧∀k:Nat,0≤(shl O rows gs alive most order f level sm lv).getD k 0∧(shl O rows gs alive most order f level sm lv).getD k 0≤80
 |0,_,_,lv,_,_,h=>⟨rfl,h.lvb⟩
 | f+1,level,sm,lv,h0,h1,h=>by
  have hk:=aa8 hT h0 h1 order (sm,lv,false) (λ_ h=>h) h
  have hl:=Lj (O:=O) (rows:=rows) (gs:=gs) (alive:=alive) (most:=most) (level:=level) order (sm,lv,false)
  have hs:=Dc (O:=O) (rows:=rows) (gs:=gs) (alive:=alive) (most:=most) (level:=level) order (sm,lv,false)
  rw [shl];split
  ·rename_i hc
   have h80:level≤80:=by
    rcases hs hc with h|h
    ·cases h
    ·exact h
   obtain ⟨g1,g2⟩:=amN hT f (level+1) _ _ (by omega) (by omega) hk
   exact ⟨g1.trans hl,g2⟩
  ·exact ⟨hl,hk.lvb⟩
def ofF (i:Int):List Rw→Int→List Int
 | [],_=>[]
 |r::rs,j=>(if r.2.contains j then [i] else [])++ofF (i+1) rs j
theorem YV {o:List (List Int)}{f:List Int→List Int}{j k:Nat}(h:k<o.length):(o.modify j f).getD k []=if j=k then f (o.getD k []) else o.getD k []:=by
 simp only [List.getD,List.getElem?_modify,List.getElem?_eq_getElem h];split<;>simp_all
theorem YI {i:Int}:∀ {l:List Int}{o:List (List Int)}{k:Nat},l.Nodup→(∀m∈l,0≤m)→k<o.length→(yF i o l).getD k []=o.getD k []++(if l.contains (k:Int) then [i] else [])
 | [],o,k,_,_,_=>by simp [yF]
 | m::l,o,k,hn,h0,hk=>by
  obtain ⟨n1,n2⟩:=List.nodup_cons.1 hn
  have hm:=h0 m (by simp)
  rw [Ak,YI n2 (λx hx=>h0 x (by simp [hx])) (by rw [List.length_modify];exact hk),YV hk]
  by_cases e:m.toNat=k
  ·have e2:(k:Int)=m:=by omega
   have:¬(k:Int)∈l:=by rw [e2];exact n1
   rw [if_pos e]
   simp [e2,n1]
  ·rw [if_neg e]
   have:¬(k:Int)=m:=by omega
   simp [this]
def aqd (r:Rw):Prop:=r.2.Nodup∧∀m∈r.2,0≤m
theorem Lh:∀ {rs:List Rw}{o:List (List Int)}{i:Int},(Xu o i rs).length=o.length
 | [],_,_=>rfl
 |r::rs,o,i=>by rw [Xu,Lh,y5]
theorem ae1:∀ {rs:List Rw}{o:List (List Int)}{i:Int}{k:Nat},(∀r∈rs,aqd r)→k<o.length→(Xu o i rs).getD k []=o.getD k []++ofF i rs k
 | [],o,i,k,_,_=>by simp [Xu,ofF]
 |r::rs,o,i,k,h,hk=>by
  obtain ⟨h1,h2⟩:=h r (by simp)
  rw [Xu,ae1 (λx hx=>h x (by simp [hx])) (by rw [y5];exact hk),YI h1 h2 hk,ofF,List.append_assoc]
theorem xI:∀ {rs:List Rw}{i j x:Int},x∈ofF i rs j↔i≤x∧x<i+rs.length∧(rP rs (x-i)).2.contains j=true
 | [],i,j,x=>by simp [ofF];omega
 | r ::rs,i,j,x=>by
  rw [ofF,List.mem_append,xI]
  by_cases e:x=i
  ·subst e
   have g0:rP (r::rs) (x-x)=r:=by simp [rP]
   rw [g0];simp only [List.length_cons]
   constructor
   ·rintro (h|h)
    ·split at h
     ·rename_i hc
      exact ⟨by omega,by omega,hc⟩
     ·cases h
    ·omega
   ·rintro ⟨_,_,h⟩
    rw [if_pos h]
    simp
  ·have hn:¬x∈(if r.2.contains j then [i] else []):=by
    split
    ·simpa using e
    ·simp
   simp only [List.length_cons]
   constructor
   ·rintro (h|⟨h1,h2,h3⟩)
    ·exact absurd h hn
    ·refine ⟨by omega,by omega,?_⟩
     have:rP (r::rs) (x-i)=rP rs (x-(i+1)):=by
      unfold rP;rw [show (x-i).toNat=(x-(i+1)).toNat+1 by omega]
      simp
     rw [this];exact h3
   ·rintro ⟨h1,h2,h3⟩
    refine .inr ⟨by omega,by omega,?_⟩
    have:rP (r::rs) (x-i)=rP rs (x-(i+1)):=by
     unfold rP;rw [show (x-i).toNat=(x-(i+1)).toNat+1 by omega]
     simp
    rw [←this];exact h3
theorem Ar:∀ {rs:List Rw}{i j:Int},(ofF i rs j).Nodup
 | [],_,_=>List.nodup_nil
 | r::rs,i,j=>by
  rw [ofF];split
  ·rw [List.singleton_append,List.nodup_cons]
   refine ⟨λh=>?_,Ar⟩
   have:=(xI.1 h).1
   omega
  ·rw [List.nil_append];exact Ar
theorem agF:∀ {rs:List Rw}{i j:Int},(ofF i rs j).length≤rs.length
 | [],_,_=>Nat.le_refl _
 |r::rs,i,j=>by
  have:=agF (rs:=rs) (i:=i+1) (j:=j)
  rw [ofF];split<;>simp only [List.length_append,List.length_cons,List.length_nil]<;>omega
theorem Ld {alive:List Int}:∀ {rs:List Rw}{sm:List Int}{i:Int},(Xt alive sm i rs).length=sm.length
 | [],_,_=>rfl
 |r::rs,sm,i=>by rw [Xt,Ld,List.length_set]
theorem ae0 {alive:List Int}:∀ {rs:List Rw}{sm:List Int}{i:Int}{k:Nat},0≤i→k<sm.length→(Xt alive sm i rs).getD k 0=sm.getD k 0+(if i≤(k:Int)∧(k:Int)<i+rs.length then smA alive (rP rs ((k:Int)-i)).2 else 0)
 | [],sm,i,k,_,_=>by
  rw [if_neg (by simp only [List.length_nil];omega)]
  simp [Xt]
 | r ::rs,sm,i,k,hi,hk=>by
  rw [Xt,ae0 (by omega) (by rw [List.length_set];exact hk),uj]
  by_cases e:i.toNat=k
  ·have e2:(k:Int)=i:=by omega
   rw [if_pos ⟨e,hk⟩,if_neg (by omega),if_pos (by simp only [List.length_cons];omega),e,e2]
   have:rP (r::rs) (i-i)=r:=by simp [rP]
   rw [this];omega
  ·rw [if_neg (λc=>e c.1)]
   by_cases c:i+1≤(k:Int)∧(k:Int)<i+1+rs.length
   ·rw [if_pos c,if_pos (by simp only [List.length_cons];omega)]
    have:rP (r::rs) ((k:Int)-i)=rP rs ((k:Int)-(i+1)):=by
     unfold rP;rw [show ((k:Int)-i).toNat=((k:Int)-(i+1)).toNat+1 by omega]
     simp
    rw [this]
   ·rw [if_neg c,if_neg (by simp only [List.length_cons];omega)]
theorem amJ {alive:List Int}(ha:∀a∈alive,0≤a∧a≤80):∀ {l:List Int},(∀m∈l,0≤m∧m<(alive.length:Int))→0≤smA alive l∧smA alive l≤80*l.length
 | [],_=>by simp [smA]
 |m::l,h=>by
  have h1:=amJ ha (l:=l) (λx hx=>h x (by simp [hx]))
  have hm:=h m (by simp)
  have:=ha (gi alive m) (jq hm.1 hm.2)
  rw [Yr];simp only [List.length_cons];omega
theorem DF {α:Type}{l:List α}(p:α→Bool) (h:l.Nodup):(l.filter p).Nodup:=List.Pairwise.filter p h
theorem adw {cs:List Cd}{gs:List Ch}{o:Int}{k:Nat}:(uw cs gs o k).Nodup:=by
 unfold uw;refine DF _ ?_;exact List.Pairwise.map _ (λa b h=>by omega) List.nodup_range
theorem aAq {gs:List Ch}{p k:Int}{l:List Int}:k∈iY gs p l↔k∈l∧usA (bG gs k).2.2.1 p=true:=by simp [iY,List.mem_filter]
theorem LD {cs:List Cd}{gs:List Ch}{c p:Int}{r:Rw}(h:r∈rowP cs gs c p):r=(dS (iw cs c),iY gs p (uw cs gs c gs.length))∧(iY gs p (uw cs gs c gs.length)).length>0:=by
 unfold rowP at h;split at h
 ·simp only [List.mem_singleton] at h;exact ⟨h,by assumption⟩
 ·cases h
theorem LH {cs:List Cd}{gs:List Ch}{r:Rw}:∀ {k:Nat},r∈jZ cs gs k→∃c p:Int,(0≤c∧c<(k:Int))∧(p=0∨p=1∨p=2)∧r=(dS (iw cs c),iY gs p (uw cs gs c gs.length))∧r.2.length>0
 |0,h=>by cases h
 | k+1,h=>by
  rw [jZ,List.mem_append] at h;rcases h with h|h
  ·obtain ⟨c,p,h1,h2,h3⟩:=LH h
   exact ⟨c,p,⟨h1.1,by omega⟩,h2,h3⟩
  ·unfold ak0 at h
   rw [List.mem_append,List.mem_append] at h;rcases h with (h|h) |h
   ·obtain ⟨h1,h2⟩:=LD h
    exact ⟨k,0,⟨by omega,by omega⟩,by simp,h1,by rw [h1];exact h2⟩
   ·obtain ⟨h1,h2⟩:=LD h
    exact ⟨k,1,⟨by omega,by omega⟩,by simp,h1,by rw [h1];exact h2⟩
   ·obtain ⟨h1,h2⟩:=LD h
    exact ⟨k,2,⟨by omega,by omega⟩,by simp,h1,by rw [h1];exact h2⟩
theorem row_mem {cs:List Cd}{gs:List Ch}{r:Rw}{k:Nat}(h:r∈jZ cs gs k):r.2.Nodup∧(∀m∈r.2,0≤m∧m<(gs.length:Int))∧r.2.length≤gs.length∧r.2.length>0:=by
 obtain ⟨c,p,h1,h2,h3,h4⟩:=LH h;subst h3;refine ⟨DF _ adw,λm hm=>ZM (aAq.1 hm).1,Nat.le_trans aAr Og,h4⟩
def jK (gs:List Ch) (lv:List Int):List Int:=(List.range gs.length).map (λk:Nat=>tK gs (k:Int) (lv.getD k 0))
def OL (rows:List Rw):List (List Int):=Xu (List.replicate 16 []) 0 rows
def SM (alive:List Int) (rows:List Rw):List Int:=Xt alive (List.replicate rows.length 0) 0 rows
def sQ (cs:List Cd) (os:List ByteArray) (ks:List Ko) (gs:List Ch) (bs:List Ba) (al mo od:List Int):Bool:=fH cs os ks gs bs&&(decide (al.length=gs.length)&&(decide (mo.length=gs.length)&&(al.all pV&&(mo.all pV&&oh od gs.length))))
def shV (rows:List Rw) (gs:List Ch) (al mo od:List Int):List Int:=shl (OL rows) rows gs al mo od 81 1 (SM al rows) (List.replicate al.length 0)
def shE (cs:List Cd) (os:List ByteArray) (ks:List Ko) (gs:List Ch) (bs:List Ba) (al mo od:List Int):Int:=if sQ cs os ks gs bs al mo od=true then 0 else 1
def zW (cs:List Cd) (os:List ByteArray) (ks:List Ko) (gs:List Ch) (bs:List Ba) (al mo od:List Int):List Int:=if sQ cs os ks gs bs al mo od=true then jK gs (shV (jZ cs gs cs.length) gs al mo od) else []
theorem iJ {cs:List Cd}{os:List ByteArray}{ks:List Ko}{gs:List Ch}{bs:List Ba}{al mo od:List Int}:sQ cs os ks gs bs al mo od=true↔fH cs os ks gs bs=true∧al.length=gs.length∧mo.length=gs.length∧al.all pV=true∧mo.all pV=true∧oh od gs.length=true:=by
 simp [sQ]
theorem aql:∀ {l:List Int}{f:Int},lsF f l≤f
 | [],f=>Int.le_refl _
 |n::l,f=>by
  have:lsF f (n::l)=lsF (if n<f then n else f) l:=rfl
  rw [this]
  have:=aql (l:=l) (f:=if n<f then n else f)
  split at this<;>rename_i h
  ·rw [if_pos h];omega
  ·rw [if_neg h];exact this
theorem ay5 {c:Cd}:dS c≤c.2.2.1:=by
 unfold dS;split<;>exact aql
theorem Hu {rows:List Rw}:(OL rows).length=16:=by rw [OL,Lh,List.length_replicate]
theorem aeJ {rows:List Rw}(h:∀r∈rows,aqd r) {k:Nat}(hk:k<16):(OL rows).getD k []=ofF 0 rows k:=by
 rw [OL,ae1 h (by simpa using hk)]
 have:(List.replicate 16 ([]:List Int)).getD k []=[]:=by
  rw [List.getD_eq_getElem?_getD,List.getElem?_replicate];split<;>rfl
 rw [this,List.nil_append]
theorem awS {cs:List Cd}{gs:List Ch}{k:Nat}:∀r∈jZ cs gs k,aqd r:=λ_ hr=>⟨(row_mem hr).1,λm hm=>((row_mem hr).2.1 m hm).1⟩
theorem Ht {al:List Int}{rows:List Rw}:(SM al rows).length=rows.length:=by rw [SM,Ld,List.length_replicate]
theorem asE {al:List Int}{rows:List Rw}{k:Nat}(hk:k<rows.length):(SM al rows).getD k 0=smA al (rP rows k).2:=by
 rw [SM,ae0 (Int.le_refl _) (by simpa using hk),if_pos (by omega),Int.sub_zero]
 simp [List.getD,hk]
theorem GR {od:List Int}{n i:Int}(h:oh od n=true) (hi:i∈od):0≤i∧i<n:=by
 unfold oh at h;simp only [Bool.and_eq_true,List.all_eq_true] at h;exact Dy.1 (h.2.1 i hi)
theorem aMz {cs:List Cd}{os:List ByteArray}{ks:List Ko}{gs:List Ch}{bs:List Ba}{al mo od:List Int}(h:sQ cs os ks gs bs al mo od=true):letI b:=jZ cs gs cs.length;OkT (OL b) b gs al mo od∧OkS b od (SM al b) (List.replicate al.length 0):=by
 obtain ⟨hv,h1,h2,h3,h4,h5⟩:=iJ.1 h
 have hl:=(fK.1 hv).1
 have ha:∀a∈al,0≤a∧a≤80:=λa ha=>pq.1 (List.all_eq_true.1 h3 a ha)
 refine ⟨⟨Hu,λi hi=>?_,ha,λa ha=>pq.1 (List.all_eq_true.1 h4 a ha),λi hi=>?_,λo ho=>?_,λr hr=>?_⟩,⟨Ht,λk=>?_,λi hi=>?_,λk=>?_⟩⟩
 ·have:=GR h5 hi
  omega
 ·have hi:=GR h5 hi
  have:=tY hv hi.1 hi.2
  unfold JZ chW at this;simp only [Bool.and_eq_true,dV] at this;exact fZ.2 (by omega)
 ·obtain ⟨k,hk,rfl⟩:=List.mem_iff_getElem.1 ho
  rw [Hu] at hk
  have e:=aeJ (rows:=jZ cs gs cs.length) awS hk
  rw [List.getD_eq_getElem?_getD,List.getElem?_eq_getElem (by rw [Hu];exact hk),Option.getD_some] at e
  rw [e]
  have hln:=agF (rs:=jZ cs gs cs.length) (i:=0) (j:=k)
  have hrn:=wJ (cs:=cs) (gs:=gs) (k:=cs.length)
  refine ⟨Ar,by omega,λr hr=>?_⟩
  have:=xI.1 hr
  omega
 ·obtain ⟨c,p,hc,hp,rfl,_⟩:=LH hr
  have hcv:=Yu hv hc.1 hc.2
  unfold IB at hcv;simp only [Bool.and_eq_true,dV] at hcv
  have:=ay5 (c:=iw cs c)
  simp only;omega
 ·by_cases hk:k<(jZ cs gs cs.length).length
  ·rw [asE hk]
   have hr:rP (jZ cs gs cs.length) (k:Int)∈jZ cs gs cs.length:=by rw [BX (by simpa using hk)];exact List.getElem_mem _
   obtain ⟨m1,m2,m3,_⟩:=row_mem hr
   have:=amJ ha (l:=(rP (jZ cs gs cs.length) (k:Int)).2) (λm hm=>by have:=m2 m hm;omega)
   omega
  ·rw [List.getD_eq_getElem?_getD,List.getElem?_eq_none (by rw [Ht];omega)]
   simp
 ·have:=GR h5 hi
  rw [List.length_replicate];omega
 ·have:(List.replicate al.length (0:Int)).getD k 0=0:=by
   simp only [List.getD,List.getElem?_replicate];split<;>rfl
  rw [this];omega
theorem afV {xs:List Int}{r:Nat}{v:Int}:(xs++List.replicate (r+1) 0).set xs.length v=xs++[v]++List.replicate r 0:=by
 rw [List.set_append_right _ _ (Nat.le_refl _),Nat.sub_self,List.replicate_succ,List.set_cons_zero,List.append_assoc,List.singleton_append]
def adC (gs:List Ch) (lv:List Int) (n:Nat):List Int:=(List.range n).map (λk:Nat=>tK gs (k:Int) (lv.getD k 0))
theorem alE {gs:List Ch}{lv:List Int}{n:Nat}:adC gs lv (n+1)=adC gs lv n++[tK gs (n:Int) (lv.getD n 0)]:=by
 simp [adC,List.range_succ]
theorem zG {gs:List Ch}{lv:List Int}{n:Nat}:(adC gs lv n).length=n:=by simp [adC]
section
variable {lt : Int → Int → Bool}
def Y5 (lt:Int→Int→Bool):List Int→Int→List Int
 | [],x=>[x]
 |y::q,x=>if lt x y=true then y::Y5 lt q x else x::y::q
structure CP (lt:Int→Int→Bool):Prop where
 asym:∀ {a b},lt a b=true→lt b a=false
 ntr:∀ {a b c},lt a b=false→lt b c=false→lt a c=false
theorem GY {x:Int}:∀ {q:List Int},(Y5 lt q x).Perm (x::q)
 | []=>List.Perm.refl _
 |y::q=>by
  unfold Y5;split
  ·exact (List.Perm.cons y GY).trans (List.Perm.swap x y q)
  ·exact List.Perm.refl _
theorem Ig (O:CP lt) {x:Int}:∀ {q:List Int},q.Pairwise (λa b=>lt a b=false)→(Y5 lt q x).Pairwise (λa b=>lt a b=false)
 | [],_=>List.pairwise_singleton _ _
 | y::q,h=>by
  rw [List.pairwise_cons] at h;unfold Y5;split
  ·rename_i hx
   rw [List.pairwise_cons];refine ⟨λz hz=>?_,Ig O h.2⟩
   rcases List.mem_cons.1 (GY.subset hz) with e|hz
   ·rw [e];exact O.asym hx
   ·exact h.1 z hz
  ·rename_i hx
   have hx:lt x y=false:=by simpa using hx
   rw [List.pairwise_cons,List.pairwise_cons];refine ⟨λz hz=>?_,h⟩
   rcases List.mem_cons.1 hz with e|hz
   ·rw [e];exact hx
   ·exact O.ntr hx (h.1 z hz)
theorem NH:∀ {l acc:List Int},(l.foldl (Y5 lt) acc).Perm (acc++l)
 | [],acc=>by simp
 |x::l,acc=>by
  rw [List.foldl_cons];refine NH.trans ?_;refine (List.Perm.append_right l GY).trans ?_;rw [List.cons_append];exact List.perm_middle.symm
theorem D6 (O:CP lt):∀ {l acc:List Int},acc.Pairwise (λa b=>lt a b=false)→(l.foldl (Y5 lt) acc).Pairwise (λa b=>lt a b=false)
 | [],_,h=>h
 |x::l,acc,h=>by
  rw [List.foldl_cons];exact D6 O (Ig O h)
def sortB (lt:Int→Int→Bool) (l:List Int):List Int:=(l.foldl (Y5 lt) []).reverse
theorem lD {l:List Int}:(sortB lt l).Perm l:=by
 unfold sortB;exact (List.reverse_perm _).trans (by have:=NH (lt:=lt) (l:=l) (acc:=[]);simpa using this)
theorem sN (O:CP lt) {l:List Int}:(sortB lt l).Pairwise (λa b=>lt b a=false):=by
 unfold sortB;rw [List.pairwise_reverse];exact D6 O List.Pairwise.nil
def exB (l:List Int) (j:Nat):List Int:=(l.set (j+1) (l.getD j 0)).set j (l.getD (j+1) 0)
end
abbrev jr:Ty:=.pair .bool (.pair aSg (.pair aSg aSg))
abbrev Dm:=Bool×Int×Int×Int
def jG (l:List Dm) (n:Int):Dm:=l.getD n.toNat (false,0,0,0)
def Uj (d:List Dm) (t i:Int):Int:=(jG d i).2.2.1-t-(jG d i).2.1
def cm (a b:Int):Int:=if a<b then -1 else if a>b then 1 else 0
def orI:List Int→Int
 | []=>0
 |x::l=>if (x !=0)=true then x else orI l
def cmD (d:List Dm) (t a b:Int):Int:=orI [cm (jG d a).2.2.2 (jG d b).2.2.2,cm (Uj d t a) (Uj d t b),cm a b]
def ltD (d:List Dm) (t a b:Int):Bool:=decide (cmD d t a b<0)
theorem VY {d:List Dm}{t a b:Int}:ltD d t a b=true↔(jG d a).2.2.2<(jG d b).2.2.2∨((jG d a).2.2.2=(jG d b).2.2.2∧(Uj d t a<Uj d t b∨(Uj d t a=Uj d t b∧a<b))):=by
 unfold ltD cmD;rw [decide_eq_true_eq];generalize (jG d a).2.2.2=x;generalize (jG d b).2.2.2=y;generalize Uj d t a=u;generalize Uj d t b=v;simp only [orI,cm]
 by_cases h1:x<y
 ·simp [h1]
 ·by_cases h2:x>y
  ·simp [h1,h2]<;>omega
  ·by_cases h3:u<v
   ·simp [h1,h2,h3]<;>omega
   ·by_cases h4:u>v
    ·simp [h1,h2,h3,h4]<;>omega
    ·by_cases h5:a<b
     ·simp [h1,h2,h3,h4,h5]<;>omega
     ·by_cases h6:a>b
      ·simp [h1,h2,h3,h4,h5,h6]<;>omega
      ·simp [h1,h2,h3,h4,h5,h6]<;>omega
theorem acr {d:List Dm}{t a b:Int}:ltD d t a b=false↔¬((jG d a).2.2.2<(jG d b).2.2.2∨((jG d a).2.2.2=(jG d b).2.2.2∧(Uj d t a<Uj d t b∨(Uj d t a=Uj d t b∧a<b)))):=by
 rw [←VY,Bool.not_eq_true]
theorem jy {d:List Dm}{t:Int}:CP (ltD d t):=⟨λh=>by
 rw [VY] at h;rw [acr];omega,λh1 h2=>by
 rw [acr] at*;omega⟩
def kX (d:List Dm) (t:Int):Prop:=(∀x∈d,(-2000000000≤x.2.1∧x.2.1≤2000000000)∧-2000000000≤x.2.2.1∧x.2.2.1≤2000000000)∧-2000000000≤t∧t≤2000000000
theorem azk {d:List Dm}{i:Int}(h0:0≤i) (h1:i<(d.length:Int)):jG d i∈d:=by
 unfold jG
 have h:i.toNat<d.length:=by omega
 simp [List.getD,h]
theorem aa3 {d:List Dm}{t i:Int}(h:kX d t) (h0:0≤i) (h1:i<(d.length:Int)):(-2000000000≤(jG d i).2.1∧(jG d i).2.1≤2000000000)∧-2000000000≤(jG d i).2.2.1∧(jG d i).2.2.1≤2000000000:=h.1 _ (azk h0 h1)
def BM (n:Nat):List Int:=(List.range n).map (λk:Nat=>(k:Int))
def iK (d:List Dm) (t:Int):List Int:=sortB (ltD d t) (BM d.length)
theorem QC {n:Nat}:BM (n+1)=BM n++[(n:Int)]:=by simp [BM,List.range_succ]
theorem Dw {n:Nat}:(BM n).length=n:=by simp [BM]
theorem LK {n:Nat}{x:Int}:x∈BM n↔0≤x∧x<(n:Int):=by
 unfold BM;rw [List.mem_map]
 constructor
 ·rintro ⟨k,hk,rfl⟩
  rw [List.mem_range] at hk;omega
 ·exact λh=>⟨x.toNat,by rw [List.mem_range];omega,by omega⟩
theorem abt {n:Nat}:(BM n).Nodup:=List.Pairwise.map _ (λa b h=>by omega) List.nodup_range
theorem Gy {d:List Dm}{t:Int}:(iK d t).Perm (BM d.length):=lD
theorem YM {d:List Dm}{t:Int}:(iK d t).length=d.length:=by rw [Gy.length_eq,Dw]
theorem aou {d:List Dm}{t x:Int}:x∈iK d t↔0≤x∧x<(d.length:Int):=Gy.mem_iff.trans LK
theorem abR {d:List Dm}{t:Int}:(iK d t).Nodup:=Gy.nodup_iff.2 abt
def inG (n:Int):List ByteArray→ByteArray→Int
 | [],_=>-1
 |x::xs,w=>if (x==w)=true then n else inG (n+1) xs w
def inI (l:List ByteArray) (w:ByteArray):Int:=inG 0 l w
theorem ag0 {w:ByteArray}:∀ {l:List ByteArray}{n:Int},0≤n→(0≤inG n l w↔isIn l w=true)
 | [],n,_=>by simp [inG,isIn]
 | x::xs,n,h=>by
  rw [inG]
  have e:isIn (x::xs) w=(w==x ||isIn xs w):=rfl
  rw [e];split
  ·rename_i hx
   have:x=w:=by simpa using hx
   subst this
   simp [h]
  ·rename_i hx
   have hx:¬x=w:=by simpa using hx
   have:(w==x)=false:=by simpa using λe=>hx e.symm
   rw [this,Bool.false_or];exact ag0 (by omega)
theorem KE {l:List ByteArray}{w:ByteArray}:decide (inI l w≥0)=isIn l w:=by
 rw [Bool.eq_iff_iff,decide_eq_true_eq];exact ag0 (Int.le_refl _)
theorem Qh {l:List ByteArray}{w:ByteArray}:isIn l w=l.contains w:=by
 unfold isIn;rw [List.contains_eq_any_beq]
def Bh (b j:Int):Bool:=chA b ||(!(j==0)&&((decide (b≥48)&&decide (b≤57)) ||b==95))
theorem ag7 {b:Int}:Bh b 0=chA b:=by simp [Bh]
theorem QU {b j:Int}(h:j≠0):Bh b j=chB b:=by
 unfold Bh chB;rw [show (j==0)=false by simpa using h]
 rfl
theorem ap7 {w:ByteArray}:nameB w=(Gi w.size (λj=>Bh (wo w j) j)&&(decide ((w.size:Int)≥1)&&(decide ((w.size:Int)≤12)&&!JW w))):=by
 unfold nameB gwB
 by_cases h1:1≤w.size
 ·by_cases h2:w.size≤12
  ·rw [decide_eq_true (show 1≤w.size∧w.size≤12 from ⟨h1,h2⟩),decide_eq_true (show (w.size:Int)≥1 by omega),decide_eq_true (show (w.size:Int)≤12 by omega),Bool.true_and,Bool.true_and,Bool.true_and]
   congr 1
   rw [Bool.eq_iff_iff,Bool.and_eq_true,List.all_eq_true,gm]
   constructor
   ·rintro ⟨a,b⟩ j hj
    by_cases e:j=0
    ·subst e;exact (ag7 (b:=wo w 0)).trans a
    ·have:=b j (List.mem_range.2 (by omega))
     rw [QU (by omega)]
     simpa [e] using this
   ·intro h
    refine ⟨(ag7 (b:=wo w 0)).symm.trans (h 0 (by omega)),λj hj=>?_⟩
    by_cases e:j=0
    ·simp [e]
    ·have:=h j (by have:=List.mem_range.1 hj;omega)
     rw [QU (by omega)] at this
     simp [this]
  ·rw [decide_eq_false (show ¬(1≤w.size∧w.size≤12) by omega),decide_eq_false (show ¬(w.size:Int)≤12 by omega)]
   simp
 ·rw [decide_eq_false (show ¬(1≤w.size∧w.size≤12) by omega),decide_eq_false (show ¬(w.size:Int)≥1 by omega)]
  simp
def Qd (l:List ByteArray):Prop:=∀w∈l,(w.size:Int)≤9223372036854775807
def nmB (l:List ByteArray):Bool:=l.all nameB&&once l
theorem amK {cs:List Cd}{os:List ByteArray}{ks:List Ko}{gs:List Ch}{bs:List Ba}(hd:1≤cs.length∧cs.length≤16∧os.length≤8∧ks.length≤32∧gs.length≤16∧bs.length≤24):fH cs os ks gs bs=(nmB (gG cs os ks gs bs)&&vpB cs os ks gs bs):=by
 unfold fH nmB;rw [decide_eq_true hd,Bool.true_and,Bool.and_assoc]
theorem aqz {n a b:Int}:inB n a b=false↔¬(a≤n∧n≤b):=by
 rw [←dV]
 simp
theorem akW {ks:List Ko}{i c:Int}(h0:0≤i) (h:i≤(ks.length:Int)):((ks.take i.toNat).map (·.2.2.2)).contains c=true↔∃j:Nat,(j:Int)<i∧(pU ks j).2.2.2=c:=by
 rw [List.contains_iff_mem,List.mem_map]
 constructor
 ·rintro ⟨x,hx,rfl⟩
  obtain ⟨j,hj,rfl⟩:=List.mem_iff_getElem.1 hx;rw [List.length_take] at hj;exact ⟨j,by omega,by rw [arP (by simp only [Int.toNat_natCast];omega)];simp⟩
 ·rintro ⟨j,hj,rfl⟩
  refine ⟨pU ks j,?_,rfl⟩;rw [arP (by simp only [Int.toNat_natCast];omega),List.mem_iff_getElem]
  exact ⟨j,by rw [List.length_take];omega,by simp⟩
def usR (ph p:Int):Bool:=if p=0 then ph.tmod 2==1 else if p=1 then (aSe (ph.tdiv 2)).tmod 2==1 else (aSe (ph.tdiv 4)).tmod 2==1
theorem aEE {ph p:Int}(h1:1≤ph∧ph≤7) (h2:p=0∨p=1∨p=2):usR ph p=usA ph p:=by
 have:ph=1∨ph=2∨ph=3∨ph=4∨ph=5∨ph=6∨ph=7:=by omega
 rcases this with rfl|rfl|rfl|rfl|rfl|rfl|rfl<;>rcases h2 with rfl|rfl|rfl<;>decide
def VU (cs:List Cd) (gs:List Ch) (o p:Int) (k:Nat):List Int:=((List.range k).map (λj:Nat=>(j:Int))).filter (λj=>Kw cs o (bG gs j).2.1&&usR (bG gs j).2.2.1 p)
theorem alh {cs:List Cd}{gs:List Ch}{o p:Int}{k:Nat}:VU cs gs o p (k+1)=VU cs gs o p k++(if (Kw cs o (bG gs k).2.1&&usR (bG gs k).2.2.1 p)=true then [(k:Int)] else []):=by
 unfold VU;rw [List.range_succ,List.map_append,List.filter_append];simp only [List.map_cons,List.map_nil,List.filter_cons,List.filter_nil]
theorem YX {cs:List Cd}{gs:List Ch}{o p:Int}{k:Nat}:(VU cs gs o p k).length≤k:=by
 unfold VU;exact Nat.le_trans (List.length_filter_le _ _) (by simp)
theorem ayX {cs:List Cd}{os:List ByteArray}{ks:List Ko}{gs:List Ch}{bs:List Ba}(hv:fH cs os ks gs bs=true) {o p:Int}(hp:p=0∨p=1∨p=2):VU cs gs o p gs.length=iY gs p (uw cs gs o gs.length):=by
 unfold VU iY uw;rw [List.filter_filter];refine List.filter_congr λj hj=>?_
 obtain ⟨k,hk,rfl⟩:=List.mem_map.1 hj
 have hk:=List.mem_range.1 hk
 have:=tY hv (c:=(k:Int)) (by omega) (by omega)
 unfold JZ chW at this;simp only [Bool.and_eq_true,dV] at this;rw [aEE (by omega) hp,Bool.and_comm]
def rowT (cs:List Cd) (gs:List Ch) (c:Int):Nat→List Rw
 |0=>[]
 |n+1=>rowP cs gs c (3-((n:Int)+1))++rowT cs gs c n
theorem aGz {cs:List Cd}{gs:List Ch}{c:Int}:rowT cs gs c 3=ak0 cs gs c:=by
 simp only [rowT,ak0,List.append_nil,List.append_assoc];rfl
theorem KC {mi ma st a k:Int}(hh:lH mi ma st=true) (ha:0≤a) (h0:0≤k) (h1:k<zn mi ma st):CW mi st k≤a↔k≤Y1 mi ma st a:=by
 obtain ⟨g1,g2,g3,g4,g5⟩:=fZ.1 hh
 have hn:¬(lH mi ma st=false∨a<0):=by simp [hh];omega
 unfold Y1;rw [if_neg hn];unfold CW
 by_cases e:k=0
 ·subst e
  simp only [if_true];split
  ·omega
  ·have:=Cc (x:=a-mi) (st:=st) (by omega) (by omega)
   omega
 ·rw [if_neg e]
  have hp:0≤(k-1)*st:=Int.mul_nonneg (by omega) (by omega)
  split
  ·omega
  ·have:=(Int.le_ediv_iff_mul_le (a:=k-1) (b:=a-mi) (c:=st) (by omega))
   omega
theorem aqo {mi ma st a:Int}(hh:lH mi ma st=true):Y1 mi ma st a<zn mi ma st:=by
 have:=VW hh
 unfold Y1;split
 ·omega
 ·split<;>omega
theorem acA {mi ma st a:Int}(hh:lH mi ma st=true) (ha:0≤a):0≤Y1 mi ma st a:=by
 have:=VW hh
 obtain ⟨g1,g2,g3,g4,g5⟩:=fZ.1 hh
 have hn:¬(lH mi ma st=false∨a<0):=by simp [hh];omega
 unfold Y1;rw [if_neg hn];split
 ·omega
 ·have:=Cc (x:=a-mi) (st:=st) (by omega) (by omega)
  omega
def ak5 (l:List Int) (n:Int):Bool:=decide ((l.length:Int)=n)&&Gi n.toNat (λi=>l.contains i)
theorem abT {l:List Int}:once l=true↔l.Nodup:=by
 rw [L8,List.nodup_iff_pairwise_ne,List.pairwise_iff_getElem]
 constructor
 ·intro h i j hi hj hij e
  exact h j hj (by rw [←e,List.mem_iff_getElem];exact ⟨i,by rw [List.length_take];omega,by simp⟩)
 ·intro h j hj hm
  obtain ⟨i,hi,e⟩:=List.mem_iff_getElem.1 hm;rw [List.length_take] at hi
  have:l[i]=l[j]:=by simpa using e
  exact h i j (by omega) hj (by omega) this
theorem uf:∀ {r l:List Int},r.Nodup→(∀x∈r,x∈l)→r.length=l.length→l.Nodup∧∀x∈l,x∈r
 | [],l,_,_,h=>by
  have:l=[]:=List.length_eq_zero_iff.1 h.symm
  subst this
  simp
 | x::r,l,hn,hs,h=>by
  obtain ⟨n1,n2⟩:=List.nodup_cons.1 hn
  have hx:=hs x (by simp)
  have hp:=List.perm_cons_erase hx
  have hl:(l.erase x).length=l.length-1:=List.length_erase_of_mem hx
  obtain ⟨i1,i2⟩:=uf (l:=l.erase x) n2 (λy hy=>by
   have hy2:=hs y (by simp [hy])
   have hne:y≠x:=λe=>n1 (e▸hy)
   exact (List.mem_erase_of_ne hne).2 hy2) (by rw [hl];simp only [List.length_cons] at h;omega)
  refine ⟨hp.nodup_iff.2 (List.nodup_cons.2 ⟨λhm=>n1 (i2 x hm),i1⟩),λy hy=>?_⟩
  by_cases e:y=x
  ·simp [e]
  ·exact List.mem_cons_of_mem _ (i2 y ((List.mem_erase_of_ne e).2 hy))
def abv (n:Nat):List Int:=(List.range n).map (λk:Nat=>(k:Int))
theorem abu {n:Nat}:(abv n).Nodup:=List.Pairwise.map _ (λa b h=>by omega) List.nodup_range
theorem Dx {n:Nat}{x:Int}:x∈abv n↔0≤x∧x<(n:Int):=by
 unfold abv;rw [List.mem_map]
 constructor
 ·rintro ⟨k,hk,rfl⟩
  have:=List.mem_range.1 hk
  omega
 ·rintro ⟨h1,h2⟩
  exact ⟨x.toNat,List.mem_range.2 (by omega),by omega⟩
theorem H6 {n:Nat}:(abv n).length=n:=by simp [abv]
end Go.Proofs.YtlihnbimgclogaaGreatDoor
end
