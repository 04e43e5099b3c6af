/- ControlOrder returns true for all arguments: the order has each index once; no later one has a lesser rank, or the same rank and a lesser slack, or both the same and a lesser index. Conditions: none; the table ramp.happens holds what its text says. -/
import Derived.Test.YtlihnbimgclogaaGreatDoorQj3
namespace Go.Proofs.YtlihnbimgclogaaGreatDoor
open Go.Sx
noncomputable def YJ:List LV→T LV:=jR Tryz.prog Tryz.f109.params.toList acN
noncomputable def aqi:Specs:=bn [(136,Yt)]
theorem ayS:∀g S,aqi g=some S→Valid Tryz.prog aT g S:=aX (l:=[(136,Yt)]) ⟨arv,trivial⟩
theorem amS (nu co am fr tk:Int):eX Tryz.prog aT (aqi) iU aB Tryz.f109 [.v (.agg #[.int .i64 nu,.int .i64 co,.int .i64 am,.int .i64 fr,.int .i64 tk])]=.br ((wtE tk) !=0) (.ok (.v (.int .i64 fr))) (.ok (.v (.int .i64 (IntKind.i64.wrap ((IntKind.i64.wrap (fr+10))+(wtA tk)))))):=by kernel_rfl
theorem arM:Valid Tryz.prog aT 109 YJ:=aJ Tryz.func109 rfl ayS aC (bF (by kernel_rfl)) (fun args lv h=>by
 unfold acN at h
 split at h
 ·simp only [canL,canX]
  rw [amS]
  rename_i nu co am fr tk
  obtain ⟨⟨hf,ht⟩,rfl⟩:=h
  have c:inB tk 0 1000000=true:=iP.2 ht
  have hw:=aoW ht.1
  have ea:wtA tk=wt tk:=by unfold wtA;rw [if_pos c]
  have ee:wtE tk=0:=by unfold wtE;rw [if_pos c]
  rw [ea,ee,aF (x:=fr+10) (by omega) (by omega),aF (by omega) (by omega)]
  exact ⟨fun h=>(by cases h),fun _=>rfl⟩
 ·cases h)
structure qc where
 l:List Le
 r:Bool
 m:List Le
 n:Int
 i:Int
def aA5 (s:qc):List LV:=[.xl rG s.l,.v (.bool s.r),.xl rG s.m,.v (.int .i64 s.n),.v (.int .i64 s.i)]
def aAi (_:qc):List aS:=[]
noncomputable def BN:Code:=((ay (Tryz.f62.body.getD .skip))[0]?).getD .skip
def Zx (s:qc):T (Rd qc):=
 .br (decide (s.i<s.n)) (.req (0≤s.i∧s.i<(List.length s.m:Int)) (.br (!(leV (qB s.m s.i))) (.ok (.stop (.ret) {s with r:=false})) (.br (decide (s.i>0)) (.req (0≤(IntKind.i64.wrap (s.i-1))∧(IntKind.i64.wrap (s.i-1))<(List.length s.l:Int)) (.br (!(anJ (qB s.l (IntKind.i64.wrap (s.i-1))) (qB s.m s.i))) (.ok (.stop (.ret) {s with r:=false})) (.ok (.next {s with i:=(IntKind.i64.wrap (s.i+1))})))) (.ok (.next {s with i:=(IntKind.i64.wrap (s.i+1))}))))) (.ok (.stop (.exit 0) s))
abbrev aqF (s:qc):=(Zx s).rd s
def adm (s:qc):Prop:=s.i=0∧s.n=(List.length s.l:Int)∧s.n≤1000∧s.m=s.l
def MQ (s:qc):Prop:=(0≤s.i∧s.i≤s.n)∧s.n=(List.length s.l:Int)∧s.n≤1000∧s.m=s.l∧∀j:Nat,(j:Int)<s.i→vX s.l j=true
def Ie (s:qc):Nat:=(s.n-s.i).toNat
def ajL (x:Ex) (_ s':qc):Prop:=(x=.exit 0∧∀j:Nat,(j:Int)<s'.n→vX s'.l j=true)∨(x=.ret∧s'.r=false∧∃j:Nat,(j:Int)<s'.n∧vX s'.l j=false)
theorem aym:∀s,adm s→MQ s:=by
 intro s h
 obtain ⟨h0,h2,h3,h4⟩:=h
 exact ⟨by omega,h2,h3,h4,fun j hj=>by omega⟩
theorem aup (s:qc) (hI:MQ s):bY (fun s'=>MQ s'∧Ie s'<Ie s) (fun x s'=>ajL x s s') (aqF s):=by
 unfold aqF Zx
 dsimp only [T.rd,T.rl]
 obtain ⟨⟨h0,h1⟩,h2,h3,h4,hA⟩:=hI
 refine ai (fun c1=>?_) (fun c1=>?_)
 ·refine ai (fun c2=>?_) (fun c2=>?_)
  ·have c1:s.i<s.n:=by simpa using c1
   rw [h4] at c2
   refine .inr ⟨rfl,rfl,s.i.toNat,by simp only;omega,?_⟩
   rw [Int.toNat_of_nonneg h0]
   show vX s.l s.i=false
   unfold vX
   rw [ntW c2]
   rfl
  ·refine ai (fun c3=>?_) (fun c3=>?_)
   ·refine ai (fun c4=>?_) (fun c4=>?_)
    ·have c1:s.i<s.n:=by simpa using c1
     rw [h4] at c2
     have c3:0<s.i:=by simpa using c3
     rw [aF (x:=s.i-1) (by omega) (by omega),h4] at c4
     refine .inr ⟨rfl,rfl,s.i.toNat,by simp only;omega,?_⟩
     rw [Int.toNat_of_nonneg h0]
     show vX s.l s.i=false
     unfold vX
     rw [nfW c2,decide_eq_false (by omega),ntW c4]
     rfl
    ·have c1:s.i<s.n:=by simpa using c1
     rw [h4] at c2
     have c3:0<s.i:=by simpa using c3
     rw [aF (x:=s.i-1) (by omega) (by omega),h4] at c4
     have hg:vX s.l s.i=true:=by unfold vX;rw [nfW c2,decide_eq_false (by omega),nfW c4];rfl
     rw [aF (x:=s.i+1) (by omega) (by omega)]
     exact ⟨⟨⟨by simp only;omega,by simp only;omega⟩,h2,h3,h4,fun j hj=>by
      by_cases e:(j:Int)<s.i
      ·exact hA j e
      ·have e:(j:Int)=s.i:=by simp only at hj;omega
       show vX s.l j=true
       rw [e];exact hg⟩,by simp only [Ie];omega⟩
   ·have c1:s.i<s.n:=by simpa using c1
    rw [h4] at c2
    have hg:vX s.l s.i=true:=by unfold vX;rw [nfW c2,decide_eq_true (by simp at c3;omega)];rfl
    rw [aF (x:=s.i+1) (by omega) (by omega)]
    exact ⟨⟨⟨by simp only;omega,by simp only;omega⟩,h2,h3,h4,fun j hj=>by
     by_cases e:(j:Int)<s.i
     ·exact hA j e
     ·have e:(j:Int)=s.i:=by simp only at hj;omega
      show vX s.l j=true
      rw [e];exact hg⟩,by simp only [Ie];omega⟩
 ·have c1:s.n≤s.i:=by simpa using c1
  exact .inl ⟨rfl,fun j hj=>hA j (by omega)⟩
def EY:dn qc:=⟨0,33,[0,2,8,9,10],[],aA5,aAi,fun v _=>⟨bf rG (v.getD 0 .junk),J7 (v.getD 1 .junk),bf rG (v.getD 2 .junk),gI (v.getD 3 .junk),gI (v.getD 4 .junk)⟩,Zx,fun s r=> {r with l:=s.l,m:=s.m,n:=s.n},fun s=>s,fun _ s=>s,[.ret,.exit 0],adm,MQ,Ie⟩
abbrev Z7:=EY.run
abbrev abI:=EY.lU
abbrev awh:=EY.q
theorem as7 (s:qc) (hI:MQ s):(Zx s).all (fun _=>True):=by
 refine ⟨fun c1=>⟨?_,fun _=>trivial,fun c2=>⟨fun c3=>⟨?_,fun _=>trivial,fun _=>trivial⟩,fun _=>trivial⟩⟩,fun _=>trivial⟩
 all_goals ((obtain ⟨⟨h0,h1⟩,h2,h3,h4,hA⟩:=hI;simp only [decide_eq_true_eq] at c1;have hl:s.m.length=s.l.length:=congrArg List.length h4;first|omega|(simp only [decide_eq_true_eq,gt_iff_lt] at c3;rw [aF (x:=s.i-1) (by omega) (by omega)];omega)))
noncomputable def aio:Specs:=bn [(63,YI),(64,aja)]
theorem ap8:∀g S,aio g=some S→Valid Tryz.prog aT g S:=aX (l:=[(63,YI),(64,aja)]) ⟨arL,axe,trivial⟩
theorem agD:EY.Ok:=⟨fun s=>by kernel_rfl,fun s=>by kernel_rfl,fun s=>rfl,fun s t r=>rfl,fun s=>rfl,fun s=>by kernel_rfl⟩
theorem afN:EY.Pf (ajL):=⟨aym,fun _ _=>rfl,aup,as7⟩
theorem alj:bG Tryz.prog aT (AN 0) (.loop BN) EY.lp:=dn.snd agD afN (bI (Γ:=aio) (K:=iU) (L:=aB) ap8 aC BN (fun b hb=>by rw [show ay BN=[] by kernel_rfl] at hb;cases hb)) (fun s=>by kernel_rfl)
theorem ank (s:qc) (hE:adm s):∃s',MQ s'∧ajL (abI s) s' (Z7 s):=dn.fin agD afN s hE
def acJ:List LV→T LV
 | [.xl (.pair (.int .i64) (.pair (.int .i64) (.pair (.int .i64) (.pair (.int .i64) (.int .i64))))) l]=> .ok (.v (.bool (tY l)))
 |_=> .no
noncomputable def Jy:List LV→T LV:=jR Tryz.prog Tryz.f62.params.toList acJ
theorem amO (l:List Le):eX Tryz.prog aT (aio) iU (fun i=>if i=4 then EY.lp else aB i) Tryz.f62 [.xl rG l]=.br (decide ((List.length l:Int)>64)) (.ok (.v (.bool false))) (.req (awh (⟨l,false,l,(List.length l:Int),(0:Int)⟩:qc)) (.br (lH (abI (⟨l,false,l,(List.length l:Int),(0:Int)⟩:qc)) (.ret)) (.ok (.v (.bool (Z7 (⟨l,false,l,(List.length l:Int),(0:Int)⟩:qc)).r))) (.ok (.v (.bool true))))):=by kernel_rfl
theorem aeM:Valid Tryz.prog aT 62 Jy:=aJ Tryz.func62 rfl ap8 aC (L:=(fun i=>if i=4 then EY.lp else aB i)) (fun b hb=>by
 rw [show ay _=[BN] by kernel_rfl] at hb
 simp only [List.mem_cons,List.not_mem_nil,or_false] at hb
 subst hb
 exact alj) (fun args lv h=>by
 unfold acJ at h
 split at h
 ·simp only [canL,canX]
  rw [amO]
  rename_i l
  obtain rfl:=h
  refine ⟨fun c=>congrArg (fun z=>LV.v (.bool z)) ?_,fun c=>?_⟩
  ·have c:64<(List.length l:Int):=by simpa using c
   unfold tY
   rw [decide_eq_false (by omega)]
   rfl
  ·have c:(List.length l:Int)≤64:=by simpa using c
   have hE:adm ⟨l,false,l,(List.length l:Int),0⟩:=⟨rfl,rfl,by simp only;omega,rfl⟩
   refine ⟨⟨hE,rfl,rfl⟩,?_⟩
   obtain ⟨_,_,hq⟩:=ank _ hE
   rcases hq with ⟨q1,q2⟩ |⟨q1,q2,j,q3,q4⟩<;>rw [q1]
   ·have e:Kq l.length (vX l)=true:=iD.2 (fun j hj=>q2 j (by show (j:Int)<(List.length l:Int);omega))
    unfold tY
    rw [decide_eq_true (by omega),e]
    exact ⟨fun h=>(by cases h),fun _=>rfl⟩
   ·have e:Kq l.length (vX l)=false:=Hf j (by have q3:(j:Int)<(List.length l:Int):=q3;omega) q4
    rw [q2]
    unfold tY
    rw [decide_eq_true (by omega),e]
    exact ⟨fun _=>rfl,fun h=>by cases h⟩
 ·cases h)
end Go.Proofs.YtlihnbimgclogaaGreatDoor
namespace Go.Proofs.YtlihnbimgclogaaGreatDoor
open Go.Sx
def chR (ph mn mx st fb:Int):Bool:=inB ph 1 7&&(inB mn 1 80&&(inB mx 1 80&&(inB st 1 80&&(decide (mn≤mx)&&(fb==0 ||inB fb mn mx)))))
theorem aoC {ph mn mx st fb:Int}:chR ph mn mx st fb=true↔1≤ph∧ph≤7∧1≤mn∧mn≤80∧1≤mx∧mx≤80∧1≤st∧st≤80∧mn≤mx∧(fb=0∨(mn≤fb∧fb≤mx)):=by
 simp [chR,inB];omega
def yQ (mn mx st a:Int):Int:=if a<mn then 0 else min a mx-(min a mx-mn) %st
theorem Be {x s:Int}(hx:0≤x) (hs:1≤s):0≤x%s∧x%s≤x∧x%s<s:=by
 have h1:=Int.mul_ediv_add_emod x s
 have h2:0≤x / s:=Int.ediv_nonneg hx (by omega)
 have h3:0≤s*(x / s):=Int.mul_nonneg (by omega) h2
 have h4:=Int.emod_nonneg x (b:=s) (by omega)
 have h5:=Int.emod_lt_of_pos x (b:=s) (by omega)
 omega
theorem Xl {mn mx st a:Int}(h1:1≤mn) (h2:mn≤mx) (h3:mx≤80) (h4:1≤st):0≤yQ mn mx st a∧yQ mn mx st a≤80∧(a<mn→yQ mn mx st a=0)∧(mn≤a→mn≤yQ mn mx st a∧yQ mn mx st a≤a∧yQ mn mx st a≤mx):=by
 unfold yQ
 split
 ·omega
 ·have e1:=Be (x:=min a mx-mn) (s:=st) (by omega) h4
  omega
def chP (mn mx st:Int):Prop:=1≤mn∧mn≤mx∧mx≤80∧1≤st∧st≤80
theorem aiQ {ph mn mx st fb:Int}(h:chR ph mn mx st fb=true):chP mn mx st:=by
 rw [aoC] at h;unfold chP;omega
def Vr (ph mn mx st fb a s:Int):Bool:=chR ph mn mx st fb&&(decide (0≤s)&&(decide (s≤1000000)&&(decide (0≤a)&&(yQ mn mx st a==a))))
def okB (ph mn mx st fb a s want:Int):Bool:=Vr ph mn mx st fb a s&&(decide (0≤want)&&decide (want≤80))
def nE (ph mn mx st fb a s want:Int):Int:=if okB ph mn mx st fb a s want then 0 else 1
def nA (ph mn mx st fb a s want:Int):Int:=
 if okB ph mn mx st fb a s want then (if a=0 then (if yQ mn mx st want≠0∧5≤s then mn else 0) else if yQ mn mx st want=0 then 0 else min (yQ mn mx st want) (a+st)) else 0
def nS (ph mn mx st fb a s want:Int):Int:=
 if okB ph mn mx st fb a s want then (if a=0 then (if yQ mn mx st want≠0∧5≤s then 0 else min (s+1) 1000000) else if yQ mn mx st want=0 then 0 else min (s+1) 1000000) else 0
theorem aaG (x y:Int):(if y<x then y else x)=min x y:=by omega
theorem avz {mn mx st am:Int}(h:am<mn):0=yQ mn mx st am:=by rw [yQ,if_pos h]
theorem avy {mn mx st am:Int}(hc:chP mn mx st) (h:mn≤am):IntKind.i64.wrap ((if mx<am then mx else am)-(IntKind.i64.wrap ((if mx<am then mx else am)-mn)).tmod st)=yQ mn mx st am:=by
 unfold chP at hc
 rw [aaG]
 have e1:=Be (x:=min am mx-mn) (s:=st) (by omega) (by omega)
 rw [aF (x:=min am mx-mn) (by omega) (by omega),Int.tmod_eq_emod_of_nonneg (by omega),aF (by omega) (by omega),yQ,if_neg (by omega)]
theorem aBM {ph mn mx st fb a s:Int}(h:((!chR ph mn mx st fb) ||(decide (s<0) ||(decide (s>1000000) ||decide (a<0))))=true):false=Vr ph mn mx st fb a s:=by
 cases hr:Vr ph mn mx st fb a s
 ·rfl
 ·simp [Vr] at hr h
  rw [hr.1] at h
  simp at h
  omega
theorem ax1 {ph mn mx st fb a s:Int}(h:((!chR ph mn mx st fb) ||(decide (s<0) ||(decide (s>1000000) ||decide (a<0))))=false):chP mn mx st∧(yQ mn mx st a==a)=Vr ph mn mx st fb a s:=by
 simp at h
 obtain ⟨h1,h2,h3,h4⟩:=h
 exact ⟨aiQ h1,by simp [Vr,h1,h2,h3,h4]⟩
theorem al3 {ph mn mx st fb a s want:Int}(h:okB ph mn mx st fb a s want=true):(!Vr ph mn mx st fb a s ||(decide (want<0) ||decide (want>80)))=false∧chP mn mx st∧(0≤s∧s≤1000000)∧(0≤want∧want≤80)∧0≤a∧a≤80∧1≤st∧st≤80:=by
 simp only [okB,Vr,Bool.and_eq_true,decide_eq_true_eq,beq_iff_eq] at h
 obtain ⟨⟨h1,h2,h3,h4,h5⟩,h6,h7⟩:=h
 have hc:=aiQ h1
 have hc':=hc
 unfold chP at hc'
 have:=Xl (a:=a) hc'.1 hc'.2.1 hc'.2.2.1 hc'.2.2.2.1
 refine ⟨?_,hc,⟨h2,h3⟩,⟨h6,h7⟩,h4,by omega,hc'.2.2.2.1,hc'.2.2.2.2⟩
 simp [Vr,h1,h2,h3,h4,h5];omega
theorem al4 {ph mn mx st fb a s want:Int}(h:¬okB ph mn mx st fb a s want=true):(!Vr ph mn mx st fb a s ||(decide (want<0) ||decide (want>80)))=true:=by
 cases hr:Vr ph mn mx st fb a s
 ·rfl
 ·simp [okB,hr] at h⊢;omega
end Go.Proofs.YtlihnbimgclogaaGreatDoor
namespace Go.Proofs.YtlihnbimgclogaaGreatDoor
open Go.Sx
abbrev VH:Ty:=.pair (.int .i64) (.int .i64)
abbrev Ra:=Int×Int
def oJ (l:List Ra) (n:Int):Ra:=l.getD n.toNat (0,0)
theorem XZ {l:List Ra}{n:Int}(h:n.toNat<l.length):oJ l n=l[n.toNat]:=AO h
theorem aij {l:List Int}{j:Int}(h:l.length≤j.toNat):gi l j=0:=by
 unfold gi
 rw [List.getD_eq_getElem?_getD,List.getElem?_eq_none h]
 rfl
theorem aun {l:List Int}{a:Int}(h:a∈l):∃j:Int,(0≤j∧j<(l.length:Int))∧gi l j=a:=by
 obtain ⟨k,hk,e⟩:=List.mem_iff_getElem.1 h
 exact ⟨k,by omega,by rw [jy (by simpa using hk)];simpa using e⟩
theorem neN {a b:Nat}:((a:Int) !=(b:Int))=!decide (a=b):=by
 by_cases h:a=b
 ·simp [h]
 ·have h':(a:Int)≠(b:Int):=by omega
  simp [h,h']
def UD (t:Int) (x:Le):Bool:=decide (x.2.2.2.1≤t)&&decide (ad6 x>t)
def kpA (o:List Int) (x:Le):List Int:=o.set x.2.1.toNat (mx (gi o x.2.1) x.2.2.1)
def Yn (n:Nat) (l:List Le) (t:Int):List Int:=(l.filter (UD t)).foldl kpA (List.replicate n 0)
def below (n:Int) (l:List Le):Bool:=l.all (fun x=>decide (x.2.1<n))
def Kz (l:List Le) (n t:Int):Bool:=(tY l&&(inB n 0 16&&inB t 0 1100000))&&below n l
def oZ (l:List Le) (n t:Int):List Int:=if Kz l n t=true then Yn n.toNat l t else []
def UC (l:List Le) (n t:Int):Int:=if Kz l n t=true then 0 else 1
theorem anv {o:List Int}{x:Le}:(kpA o x).length=o.length:=by simp [kpA]
theorem aaF:∀ {l:List Le}{o:List Int},(l.foldl kpA o).length=o.length
 | [],_=>rfl
 |x::l,o=>by rw [List.foldl_cons,aaF,anv]
theorem CG {n:Nat}{l:List Le}{t:Int}:(Yn n l t).length=n:=by rw [Yn,aaF,List.length_replicate]
theorem adW {l:List Le}(h:tY l=true):l.Pairwise (fun a b=>a.1<b.1∧a.2.2.2.1≤b.2.2.2.1):=by
 unfold tY at h
 rw [Bool.and_eq_true] at h
 have hs:∀k:Nat,(hk:k+1<l.length)→l[k].1<l[k+1].1∧l[k].2.2.2.1≤l[k+1].2.2.2.1:=fun k hk=>by
  have:=iD.1 h.2 (k+1) (by omega)
  unfold vX anJ at this
  rw [PV (n:=((k+1:Nat):Int)) (by simpa using hk),PV (n:=((k+1:Nat):Int)-1) (by omega)] at this
  simp only [Bool.and_eq_true,Bool.or_eq_true,decide_eq_true_eq] at this
  obtain ⟨_,h1|h1⟩:=this
  ·omega
  ·have e:(((k+1:Nat):Int)-1).toNat=k:=by omega
   simp only [e,Int.toNat_natCast] at h1
   omega
 rw [List.pairwise_iff_getElem]
 intro i j hi hj hij
 induction j with
 |zero=>omega
 | succ j ih=>
  have h1:=hs j (by omega)
  by_cases e:i=j
  ·subst e;exact h1
  ·have h2:=ih (by omega) (by omega)
   omega
def F9 (c:Ch):Int:=c.2.2.2.2.2.2.1
def raC (c:Ch) (r:Ra):Bool:=Vr c.2.2.1 c.2.2.2.1 c.2.2.2.2.1 c.2.2.2.2.2.1 (F9 c) r.1 r.2
def dmV (x:Dm):Bool:=inB x.2.1 0 1000000000&&(inB x.2.2.1 0 1000000&&inB x.2.2.2 1 9)
def Zc (cs:List Cd) (os:List ByteArray) (ks:List Ko) (gs:List Ch) (bs:List Ba) (l:List Le) (rs:List Ra) (d:List Dm) (t n:Int):Bool:=
 (iF cs os ks gs bs&&tY l)&&((decide (rs.length=gs.length)&&(decide (d.length=gs.length)&&(inB t 0 1000000&&inB n 1 999900)))&&(below gs.length l&&Kq gs.length (fun j=>raC (bU gs j) (oJ rs j)&&dmV (jw d j))))
def Au (n:Nat) (f:Int→Int):List Int:=(List.range n).map (fun k:Nat=>f (k:Int))
theorem iL {n:Nat}{f:Int→Int}:(Au n f).length=n:=by simp [Au]
theorem rW {n:Nat}{f:Int→Int}{j:Int}(h0:0≤j) (h1:j<(n:Int)):gi (Au n f) j=f j:=by
 rw [jy (by rw [iL];omega)]
 simp only [Au,List.getElem_map,List.getElem_range]
 rw [Int.toNat_of_nonneg h0]
theorem Iq {n:Nat}{f:Int→Int}{x:Int}(h:x∈Au n f):∃j,(0≤j∧j<(n:Int))∧f j=x:=by
 obtain ⟨k,hk,e⟩:=List.mem_map.1 h
 exact ⟨k,⟨by omega,by have:=List.mem_range.1 hk;omega⟩,e⟩
def nO (gs:List Ch):List Int:=Au gs.length (fun k=>F9 (bU gs k))
def qi (gs:List Ch) (d:List Dm):List Int:=Au gs.length (fun k=>if (jw d k).1=true then (bU gs k).2.2.2.2.1 else 0)
def Ym (gs:List Ch) (l:List Le) (t:Int):List Int:=Au gs.length (fun k=>mx (F9 (bU gs k)) (gi (Yn gs.length l t) k))
def tgL (cs:List Cd) (os:List ByteArray) (ks:List Ko) (gs:List Ch) (bs:List Ba) (d:List Dm) (t:Int):List Int:=yO cs os ks gs bs (nO gs) (qi gs d) (iK d t)
def ofL (cs:List Cd) (os:List ByteArray) (ks:List Ko) (gs:List Ch) (bs:List Ba) (l:List Le) (d:List Dm) (t:Int):List Int:=yO cs os ks gs bs (Ym gs l t) (tgL cs os ks gs bs d t) (iK d t)
theorem aa5 {l:List Ra}{i j:Int}{v:Ra}(h0:0≤i) (h1:i<(l.length:Int)) (hj:0≤j):oJ (l.set i.toNat v) j=if j=i then v else oJ l j:=by
 unfold oJ
 rw [List.getD_eq_getElem?_getD,List.getD_eq_getElem?_getD,List.getElem?_set]
 by_cases e:j=i
 ·subst e
  rw [if_pos rfl,if_pos rfl,if_pos (by omega)]
  rfl
 ·rw [if_neg (by omega),if_neg e]
theorem anF {a b:List Ra}(hl:a.length=b.length) (h:∀j:Int,0≤j→j<(b.length:Int)→oJ a j=oJ b j):a=b:=List.ext_getElem hl fun k h1 h2=>by
 have:=h (k:Int) (by omega) (by omega)
 rw [XZ (by simpa using h1),XZ (by simpa using h2)] at this
 simpa using this
def Oi (cs:List Cd) (os:List ByteArray) (ks:List Ko) (gs:List Ch) (bs:List Ba) (l:List Le) (d:List Dm) (t:Int) (od:List Int):List Int:=yO cs os ks gs bs (Ym gs l t) (yO cs os ks gs bs (nO gs) (qi gs d) od) od
def nwO (a t:Int):Option Le→Bool
 |none=>true
 |some x=>x.2.2.1 !=a ||decide (x.2.2.2.1≤t-6)
def nwB (gs:List Ch) (l:List Le) (t i a:Int):Bool:=!decide (a≤F9 (bU gs i))&&nwO a t (l.reverse.find? (fun x=>x.2.1==i))
def nxA (c:Ch) (r:Ra) (w:Int):Int:=nA c.2.2.1 c.2.2.2.1 c.2.2.2.2.1 c.2.2.2.2.2.1 (F9 c) r.1 r.2 w
def nxS (c:Ch) (r:Ra) (w:Int):Int:=nS c.2.2.1 c.2.2.2.1 c.2.2.2.2.1 c.2.2.2.2.2.1 (F9 c) r.1 r.2 w
def dcA (gs:List Ch) (rs:List Ra) (w:List Int) (k:Nat):List Int:=Au k (fun k=>nxA (bU gs k) (oJ rs k) (gi w k))
def dcR (gs:List Ch) (rs:List Ra) (w:List Int) (k:Nat):List Ra:=(List.range k).map (fun k:Nat=>(nxA (bU gs k) (oJ rs k) (gi w k),nxS (bU gs k) (oJ rs k) (gi w k)))
def dcL (gs:List Ch) (l:List Le) (t n:Int) (am:List Int):Nat→List Le
 |0=>[]
 |k+1=>dcL gs l t n am k++(if nwB gs l t k (gi am k)=true then [(n+(dcL gs l t n am k).length,(k:Int),gi am k,t,12)] else [])
theorem P9 {gs:List Ch}{rs:List Ra}{w:List Int}{k:Nat}:(dcR gs rs w k).length=k:=by simp [dcR]
theorem avo {gs:List Ch}{rs:List Ra}{w:List Int}{k:Nat}{j:Int}(h0:0≤j) (h1:j<(k:Int)):oJ (dcR gs rs w k) j=(nxA (bU gs j) (oJ rs j) (gi w j),nxS (bU gs j) (oJ rs j) (gi w j)):=by
 rw [XZ (by rw [P9];omega)]
 simp only [dcR,List.getElem_map,List.getElem_range]
 rw [Int.toNat_of_nonneg h0]
def okC (c:Ch) (r:Ra) (w:Int):Bool:=okB c.2.2.1 c.2.2.2.1 c.2.2.2.2.1 c.2.2.2.2.2.1 (F9 c) r.1 r.2 w
def dcK (gs:List Ch) (rs:List Ra) (w:List Int):Prop:=∀j,0≤j→j<(gs.length:Int)→okC (bU gs j) (oJ rs j) (gi w j)=true
theorem Gi {gs:List Ch}{l:List Le}{t n:Int}{am:List Int}:∀ {k:Nat},(dcL gs l t n am k).length≤k
 |0=>by simp [dcL]
 |k+1=>by
  have:=Gi (gs:=gs) (l:=l) (t:=t) (n:=n) (am:=am) (k:=k)
  rw [dcL,List.length_append]
  split
  ·simp only [List.length_cons,List.length_nil];omega
  ·simp only [List.length_nil];omega
section
variable (cs : List Cd) (os : List ByteArray) (ks : List Ko) (gs : List Ch) (bs : List Ba) (l : List Le) (rs : List Ra) (d : List Dm) (t n : Int)
def deA:List Int:=if Zc cs os ks gs bs l rs d t n=true then dcA gs rs (ofL cs os ks gs bs l d t) gs.length else []
def deR:List Ra:=if Zc cs os ks gs bs l rs d t n=true then dcR gs rs (ofL cs os ks gs bs l d t) gs.length else []
def deL:List Le:=if Zc cs os ks gs bs l rs d t n=true then dcL gs l t n (dcA gs rs (ofL cs os ks gs bs l d t) gs.length) gs.length else []
def deE:Int:=if Zc cs os ks gs bs l rs d t n=true then 0 else 1
end
section
variable {cs : List Cd} {os : List ByteArray} {ks : List Ko} {gs : List Ch} {bs : List Ba} {l : List Le} {rs : List Ra} {d : List Dm} {t n : Int}
structure Vd (cs:List Cd) (os:List ByteArray) (ks:List Ko) (gs:List Ch) (bs:List Ba) (l:List Le) (rs:List Ra) (d:List Dm) (t n:Int):Prop where
 site:iF cs os ks gs bs=true
 les:tY l=true
 rl:rs.length=gs.length
 dl:d.length=gs.length
 gl:gs.length≤16
 tb:0≤t∧t≤1000000
 nb:1≤n∧n≤999900
 co:below gs.length l=true
 ra:∀j:Int,0≤j→j<(gs.length:Int)→raC (bU gs j) (oJ rs j)=true
 dm:∀j:Int,0≤j→j<(gs.length:Int)→dmV (jw d j)=true
 ch:∀j:Int,0≤j→j<(gs.length:Int)→chW (bU gs j)=true
theorem aw7 (h:Zc cs os ks gs bs l rs d t n=true):Vd cs os ks gs bs l rs d t n:=by
 unfold Zc at h
 simp only [Bool.and_eq_true,decide_eq_true_eq,iP] at h
 obtain ⟨⟨h1,h2⟩,⟨h3,h4,h5,h6⟩,h7,h8⟩:=h
 have hj:∀j:Int,0≤j→j<(gs.length:Int)→raC (bU gs j) (oJ rs j)=true∧dmV (jw d j)=true:=fun j h0 hj=>by
  have:=iD.1 h8 j.toNat (by omega)
  rw [Int.toNat_of_nonneg h0,Bool.and_eq_true] at this
  exact this
 exact ⟨h1,h2,h3,h4,(jq.1 h1).1.2.2.2.2.1,h5,h6,h7,fun j h0 h1=>(hj j h0 h1).1,fun j h0 h1=>(hj j h0 h1).2,fun j h0 hj=>by
  have:=tH h1 h0 hj
  unfold Qb at this
  simp only [Bool.and_eq_true] at this
  exact this.2.2⟩
theorem X9 {c:Ch}(h:chW c=true):(1≤c.2.2.1∧c.2.2.1≤7)∧(1≤c.2.2.2.1∧c.2.2.2.1≤c.2.2.2.2.1)∧c.2.2.2.2.1≤80∧(1≤c.2.2.2.2.2.1∧c.2.2.2.2.2.1≤80)∧0≤F9 c∧F9 c≤c.2.2.2.2.1:=by
 unfold chW at h
 unfold F9
 simp only [Bool.and_eq_true,Bool.or_eq_true,iP,beq_iff_eq] at h
 omega
theorem aoJ (hv:tY l=true) {m:Nat}:∀a∈Yn m l t,0≤a∧a≤80:=by
 have key:∀(l:List Le) (o:List Int),(∀x∈l,leV x=true)→(∀a∈o,0≤a∧a≤80)→∀a∈l.foldl kpA o,0≤a∧a≤80:=fun l=>by
  induction l with
  |nil=>exact fun o _ h=>h
  | cons x l ih=>
   intro o hl ho
   rw [List.foldl_cons]
   refine ih _ (fun y hy=>hl y (by simp [hy])) fun a ha=>?_
   have hx:=aaE.1 (hl x (by simp))
   rcases List.mem_or_eq_of_mem_set ha with ha|rfl
   ·exact ho a ha
   ·have:0≤gi o x.2.1∧gi o x.2.1≤80:=by
     by_cases h:x.2.1.toNat<o.length
     ·rw [jy h];exact ho _ (List.getElem_mem _)
     ·rw [aij (by omega)];omega
    unfold mx
    split<;>omega
 refine key _ _ (fun x hx=>(Az hv).2 x (List.mem_filter.1 hx).1) fun a ha=>?_
 rw [List.eq_of_mem_replicate ha]
 omega
theorem aaK (hd:d.length=gs.length):l9 (iK d t) gs.length=true:=by
 unfold l9
 rw [Ak,hd,decide_eq_true rfl,Bool.true_and,Bool.and_eq_true,List.all_eq_true]
 refine ⟨fun x hx=>Ah.2 (by have:=Hw.1 hx;rw [hd] at this;exact this),H7.2 fun j hj hm=>?_⟩
 obtain ⟨k,hk,e⟩:=List.mem_iff_getElem.1 hm
 rw [List.length_take] at hk
 rw [List.getElem_take] at e
 have:=(List.pairwise_iff_getElem.1 (Hu (d:=d) (t:=t))) k j (by omega) hj (by omega)
 exact this e
theorem aqf {l:List Int}{a b:Int}(hz:a≤0∧0≤b) (h:∀x∈l,a≤x∧x≤b) {j:Int}:a≤gi l j∧gi l j≤b:=by
 by_cases hj:j.toNat<l.length
 ·rw [jy hj];exact h _ (List.getElem_mem _)
 ·rw [aij (by omega)];exact hz
structure Si (cs:List Cd) (os:List ByteArray) (ks:List Ko) (gs:List Ch) (bs:List Ba) (d:List Dm):Prop where
 site:iF cs os ks gs bs=true
 dl:d.length=gs.length
theorem Si.ch (h:Si cs os ks gs bs d) {j:Int}(h0:0≤j) (hj:j<(gs.length:Int)):chW (bU gs j)=true:=by
 have:=tH h.site h0 hj
 unfold Qb at this
 simp only [Bool.and_eq_true] at this
 exact this.2.2
theorem Vd.si (h:Vd cs os ks gs bs l rs d t n):Si cs os ks gs bs d:=⟨h.site,h.dl⟩
theorem avC (h:Si cs os ks gs bs d):∀a∈nO gs,0≤a∧a≤80:=fun a ha=>by
 obtain ⟨j,⟨h0,h1⟩,rfl⟩:=Iq ha
 have:=X9 (h.ch h0 h1)
 omega
theorem arj (h:Si cs os ks gs bs d):∀a∈qi gs d,0≤a∧a≤80:=fun a ha=>by
 obtain ⟨j,⟨h0,h1⟩,rfl⟩:=Iq ha
 have:=X9 (h.ch h0 h1)
 split<;>omega
theorem avG (h:Vd cs os ks gs bs l rs d t n):∀a∈Ym gs l t,0≤a∧a≤80:=fun a ha=>by
 obtain ⟨j,⟨h0,h1⟩,rfl⟩:=Iq ha
 have:=X9 (h.ch j h0 h1)
 have:=aqf (j:=j) ⟨Int.le_refl 0,by decide⟩ (aoJ h.les (m:=gs.length) (t:=t))
 unfold mx
 split<;>omega
theorem asC {al mo od:List Int}(hk:tK cs os ks gs bs al mo od=true):(yO cs os ks gs bs al mo od).length=gs.length∧∀j,0≤j→j<(gs.length:Int)→(0≤gi (yO cs os ks gs bs al mo od) j∧gi (yO cs os ks gs bs al mo od) j≤80)∧gi (yO cs os ks gs bs al mo od) j≤gi mo j:=by
 have H:=ao7 hk
 rw [asB hk]
 refine ⟨Uz,fun j h0 h1=>?_⟩
 obtain ⟨_,_,_,e4,e5⟩:=avE H (ahq H) h0 h1
 have h3:=(axk H h0 h1 ((ahq H).2 j h0 h1).1 ((ahq H).2 j h0 h1).2).2 (ahp H h0 h1)
 rw [vz h0 h1] at e4 e5⊢
 exact ⟨⟨e4,e5⟩,h3⟩
theorem ZW {al mo od:List Int}(hk:tK cs os ks gs bs al mo od=true):(yO cs os ks gs bs al mo od).length=gs.length∧∀a∈yO cs os ks gs bs al mo od,0≤a∧a≤80:=by
 obtain ⟨h1,h2⟩:=asC hk
 refine ⟨h1,fun a ha=>?_⟩
 obtain ⟨j,hj,rfl⟩:=aun ha
 rw [h1] at hj
 exact (h2 j hj.1 hj.2).1
theorem ao2 (h:Si cs os ks gs bs d):tK cs os ks gs bs (nO gs) (qi gs d) (iK d t)=true:=
 jS.2 ⟨h.site,iL,iL,List.all_eq_true.2 fun a ha=>oV.2 (avC h a ha),List.all_eq_true.2 fun a ha=>oV.2 (arj h a ha),aaK h.dl⟩
theorem ao3 (h:Si cs os ks gs bs d):(tgL cs os ks gs bs d t).length=gs.length∧∀a∈tgL cs os ks gs bs d t,0≤a∧a≤80:=by
 exact ZW (ao2 (t:=t) h)
theorem apA (h:Vd cs os ks gs bs l rs d t n):tK cs os ks gs bs (Ym gs l t) (tgL cs os ks gs bs d t) (iK d t)=true:=
 jS.2 ⟨h.site,iL,(ao3 h.si).1,List.all_eq_true.2 fun a ha=>oV.2 (avG h a ha),List.all_eq_true.2 fun a ha=>oV.2 ((ao3 h.si).2 a ha),aaK h.dl⟩
theorem apB (h:Vd cs os ks gs bs l rs d t n):(ofL cs os ks gs bs l d t).length=gs.length∧∀a∈ofL cs os ks gs bs l d t,0≤a∧a≤80:=by
 exact ZW (apA h)
theorem aya (h:Vd cs os ks gs bs l rs d t n) {j:Int}:0≤gi (ofL cs os ks gs bs l d t) j∧gi (ofL cs os ks gs bs l d t) j≤80:=aqf ⟨Int.le_refl 0,by decide⟩ (apB h).2
theorem avm (h:Vd cs os ks gs bs l rs d t n):dcK gs rs (ofL cs os ks gs bs l d t):=fun j j0 j1=>by
 have hr:=h.ra j j0 j1
 have hb:=aya h (j:=j)
 unfold raC at hr
 unfold okC okB
 rw [hr,decide_eq_true hb.1,decide_eq_true hb.2]
 rfl
theorem aoI (h:Vd cs os ks gs bs l rs d t n):Kz l gs.length t=true:=by
 have:=h.gl
 have:=h.tb
 unfold Kz
 rw [h.les,iP.2 ⟨by omega,by omega⟩,iP.2 ⟨by omega,by omega⟩,h.co]
 rfl
end
end Go.Proofs.YtlihnbimgclogaaGreatDoor
namespace Go.Proofs.YtlihnbimgclogaaGreatDoor
open Go.Sx
structure qg where
 l:List Le
 qO:Int
 tick:Int
 e:Int
 m:List Le
 k:Int
 i:Int
def aBs (s:qg):List LV:=[.xl rG s.l,.v (.int .i64 s.qO),.v (.int .i64 s.tick),.v (.slice none 0 0),.v (.int .i64 s.e),.xl rG s.m,.v (.int .i64 s.k),.v (.int .i64 s.i)]
def aAE (_:qg):List aS:=[]
noncomputable def Cf:Code:=((ay (Tryz.f66.body.getD .skip))[0]?).getD .skip
def ZL (s:qg):T (Rd qg):=
 .br (decide (s.i<s.k)) (.req (0≤s.i∧s.i<(List.length s.m:Int)) (.br (decide ((qB s.m s.i).2.1≥s.qO)) (.ok (.stop (.ret) {s with e:=(1:Int)})) (.ok (.next {s with i:=(IntKind.i64.wrap (s.i+1))})))) (.ok (.stop (.exit 0) s))
abbrev aqR (s:qg):=(ZL s).rd s
def adC (s:qg):Prop:=s.i=0∧s.k=(List.length s.m:Int)∧s.k≤1000
def Nr (s:qg):Prop:=(0≤s.i∧s.i≤s.k)∧s.k=(List.length s.m:Int)∧s.k≤1000∧∀x∈s.m.take s.i.toNat,x.2.1<s.qO
def O5 (s:qg):Nat:=(s.k-s.i).toNat
def aj0 (x:Ex) (_ s':qg):Prop:=(x=.exit 0∧below s'.qO s'.m=true)∨(x=.ret∧s'.e=1∧below s'.qO s'.m=false)
theorem azA:∀s,adC s→Nr s:=by
 intro s h
 obtain ⟨h0,h1,h2⟩:=h
 exact ⟨by omega,h1,h2,by rw [h0];intro x hx;cases hx⟩
theorem avI (s:qg) (hI:Nr s):bY (fun s'=>Nr s'∧O5 s'<O5 s) (fun x s'=>aj0 x s s') (aqR s):=by
 unfold aqR ZL
 dsimp only [T.rd,T.rl]
 obtain ⟨⟨h0,h1⟩,h2,h3,h4⟩:=hI
 refine ai (fun c1=>?_) (fun c1=>?_)
 ·have c1:s.i<s.k:=by simpa using c1
  refine ai (fun c2=>?_) (fun c2=>?_)
  ·refine .inr ⟨rfl,rfl,?_⟩
   unfold below
   rw [List.all_eq_false]
   exact ⟨qB s.m s.i,PU h0 (by simp only;omega),by simpa using c2⟩
  ·rw [aF (x:=s.i+1) (by omega) (by omega)]
   refine ⟨⟨⟨by simp only;omega,by simp only;omega⟩,h2,h3,fun x hx=>?_⟩,by simp only [O5];omega⟩
   rw [(IU h0 (by simp only;omega)).2,List.mem_append,List.mem_singleton] at hx
   rcases hx with hx|rfl
   ·exact h4 x hx
   ·simpa using c2
 ·have c1:s.k≤s.i:=by simpa using c1
  refine .inl ⟨rfl,?_⟩
  rw [List.take_of_length_le (by omega)] at h4
  unfold below
  rw [List.all_eq_true]
  exact fun x hx=>decide_eq_true (h4 x hx)
def Fq:dn qg:=⟨0,48,[0,1,2,6,7,26,27,28],[],aBs,aAE,fun v _=>⟨bf rG (v.getD 0 .junk),gI (v.getD 1 .junk),gI (v.getD 2 .junk),gI (v.getD 4 .junk),bf rG (v.getD 5 .junk),gI (v.getD 6 .junk),gI (v.getD 7 .junk)⟩,ZL,fun s r=> {r with l:=s.l,qO:=s.qO,tick:=s.tick,m:=s.m,k:=s.k},fun s=>s,fun _ s=>s,[.ret,.exit 0],adC,Nr,O5⟩
abbrev aag:=Fq.run
abbrev abQ:=Fq.lU
abbrev awD:=Fq.q
theorem atw (s:qg) (hI:Nr s):(ZL s).all (fun _=>True):=by
 refine ⟨fun c1=>⟨?_,fun _=>trivial,fun _=>trivial⟩,fun _=>trivial⟩
 ·(obtain ⟨⟨h0,h1⟩,h2,h3,h4⟩:=hI;simp only [decide_eq_true_eq] at c1;omega)
noncomputable def AV:Specs:=bn [(62,Jy),(108,UG),(109,YJ)]
theorem Eo:∀g S,AV g=some S→Valid Tryz.prog aT g S:=aX (l:=[(62,Jy),(108,UG),(109,YJ)]) ⟨aeM,aoY,arM,trivial⟩
noncomputable def aaP:Hand:=inl Tryz.prog aT AV (jo Tryz.prog aT (AV) 20 2) 9
theorem ahF:cO Tryz.prog aT aaP:=bJ Eo (dw Eo) 9
theorem agU:Fq.Ok:=⟨fun s=>by kernel_rfl,fun s=>by kernel_rfl,fun s=>rfl,fun s t r=>rfl,fun s=>rfl,fun s=>by kernel_rfl⟩
theorem af6:Fq.Pf (aj0):=⟨azA,fun _ _=>rfl,avI,atw⟩
theorem alF:bG Tryz.prog aT (AN 0) (.loop Cf) Fq.lp:=dn.snd agU af6 (bI (Γ:=AV) (K:=aaP) (L:=aB) Eo ahF Cf (fun b hb=>by rw [show ay Cf=[] by kernel_rfl] at hb;cases hb)) (fun s=>by kernel_rfl)
theorem aoL (s:qg) (hE:adC s):∃s',Nr s'∧aj0 (abQ s) s' (aag s):=dn.fin agU af6 s hE
noncomputable def afl:Array Tmp×Code×Code:=((kz (Tryz.f66.body.getD .skip))[0]?).getD (#[],.skip,.skip)
noncomputable def axR:Array Tmp:=afl.1
noncomputable def ax3:Code:=afl.2.1
noncomputable def axY:Code:=afl.2.2
structure lN where
 m:List Le
 k:Int
 i:Int
 o:List Int
 q:List Le
 t:Int
 st:LS
def aBr (s:lN):List LV:=[.vK 5,.own 4 0,.xl rG s.m,.v (.int .i64 s.k),.v (.int .i64 s.i)]
noncomputable def aAD (s:lN):List aS:=[⟨[],3,.vec (.int .i64) s.o,false⟩,⟨[.os 0 1 0 (List.length s.o)],35,.cl,false⟩,⟨[.fn 110 [.own 1 0]],160,.cl,false⟩,⟨[.xl rG s.q],29,.cl,false⟩,⟨[.v (.int .i64 s.t)],3,.cl,false⟩,⟨[.junk,.junk,.junk,.junk,.junk,.junk,.junk,.junk,.junk,.junk,.junk,.own 2 0,.junk,.junk,.junk,.junk,.junk,.junk,.junk,.junk,.junk,.junk,.junk,.junk,.junk,.junk,.junk,.junk,.junk,.junk,.junk,.junk,.junk,.junk,.junk,.junk,.junk,.junk,.junk,.junk,.junk,.junk,.junk,.junk,.junk,.junk,.junk,.junk],0,.lG axR ax3 axY s.st,false⟩]
noncomputable def Uu:Code:=((ay (Tryz.f137.body.getD .skip))[0]?).getD .skip
def Rk (s:lN):T (Rd lN):=
 .br (decide (s.i<s.k)) (.req (0≤s.i∧s.i<(List.length s.m:Int)) (.br (decide ((qB s.m s.i).2.2.2.1>s.t)) (.rl s.o (.ok (.stop (.exit 0) s))) (.req ((0≤(qB s.m s.i).2.2.2.1∧(qB s.m s.i).2.2.2.1≤1000000)∧0≤(qB s.m s.i).2.2.2.2∧(qB s.m s.i).2.2.2.2≤1000000) (.br (decide ((ad6 (qB s.m s.i))≤s.t)) (.rl s.o (.ok (.next {s with i:=(IntKind.i64.wrap (s.i+1))}))) (.req (0≤(qB s.m s.i).2.1∧(qB s.m s.i).2.1<((List.length s.o:Nat):Int)) (.req ((qB s.m s.i).2.1.toNat<List.length s.o) (.req (0≤(qB s.m s.i).2.1∧(qB s.m s.i).2.1<((List.length s.o:Nat):Int)) (.req ((qB s.m s.i).2.1.toNat<List.length s.o) (.req (0=0∧(List.length s.o)=List.length (s.o.set (qB s.m s.i).2.1.toNat (if (s.o.getD (qB s.m s.i).2.1.toNat (Ty.dflt (.int .i64)))<(qB s.m s.i).2.2.1 then (qB s.m s.i).2.2.1 else (s.o.getD (qB s.m s.i).2.1.toNat (Ty.dflt (.int .i64)))))) (.ok (.next {s with i:=(IntKind.i64.wrap (s.i+1)),o:=(s.o.set (qB s.m s.i).2.1.toNat (if (s.o.getD (qB s.m s.i).2.1.toNat (Ty.dflt (.int .i64)))<(qB s.m s.i).2.2.1 then (qB s.m s.i).2.2.1 else (s.o.getD (qB s.m s.i).2.1.toNat (Ty.dflt (.int .i64)))))}))))))))))) (.rl s.o (.ok (.stop (.exit 0) s)))
abbrev abx (s:lN):=(Rk s).rd s
def adB (s:lN):Prop:=s.st=.ready∧s.i=0∧s.k=(List.length s.m:Int)∧s.k≤1000∧(∀x∈s.m,leV x=true∧x.2.1<(s.o.length:Int))∧s.m.Pairwise (fun a b=>a.1<b.1∧a.2.2.2.1≤b.2.2.2.1)
def U3 (s:lN):Prop:=s.st=.ready∧(0≤s.i∧s.i≤s.k)∧s.k=(List.length s.m:Int)∧s.k≤1000∧(∀x∈s.m,leV x=true∧x.2.1<(s.o.length:Int))∧s.m.Pairwise (fun a b=>a.1<b.1∧a.2.2.2.1≤b.2.2.2.1)
def Ij (s:lN):Nat:=(s.k-s.i).toNat
def aq6 (x:Ex) (_ _:lN):Prop:=x=.exit 0
theorem azz:∀s,adB s→U3 s:=by
 intro s h
 obtain ⟨h0,h1,h2⟩:=h
 exact ⟨h0,by omega,h2⟩
theorem avH (s:lN) (hI:U3 s):bY (fun s'=>U3 s'∧Ij s'<Ij s) (fun x s'=>aq6 x s s') (abx s):=by
 unfold abx Rk
 dsimp only [T.rd,T.rl]
 obtain ⟨hs,⟨h0,h1⟩,h2,h3,h4,h5⟩:=hI
 refine ai (fun c1=>?_) (fun c1=>rfl)
 have c1:s.i<s.k:=by simpa using c1
 rw [aF (x:=s.i+1) (by omega) (by omega)]
 refine ai (fun c2=>rfl) (fun c2=>ai (fun c3=>?_) (fun c3=>?_))
 ·exact ⟨⟨hs,⟨by simp only;omega,by simp only;omega⟩,h2,h3,h4,h5⟩,by simp only [Ij];omega⟩
 ·exact ⟨⟨hs,⟨by simp only;omega,by simp only;omega⟩,h2,h3,fun x hx=>by simp only [List.length_set];exact h4 x hx,h5⟩,by simp only [Ij];omega⟩
noncomputable def J4:dn lN:=⟨6,27,[0,2,6,7,8],[],aBr,aAD,fun v b=>⟨bf rG (v.getD 2 .junk),gI (v.getD 3 .junk),gI (v.getD 4 .junk),jm (.int .i64) (aV b 0),bf rG (bC (aV b 3) 0),gI (bC (aV b 4) 0),.ready⟩,Rk,fun s r=> {r with m:=s.m,k:=s.k,q:=s.q,t:=s.t,st:=s.st},fun s=> {s with st:=.ready},fun x s=> {s with st:=(match x with| .exit 0=> .ready|_=> .ready)},[.exit 0],adB,U3,Ij⟩
noncomputable abbrev x9:=J4.run
noncomputable abbrev aof:=J4.lU
abbrev awC:=J4.q
theorem atv (s:lN) (hI:U3 s):(Rk s).all (fun _=>True):=by
 refine ⟨fun c1=>⟨?_,fun c2=>⟨⟨rfl,rfl⟩,trivial⟩,fun c2=>⟨?_,fun c3=>⟨⟨rfl,rfl⟩,trivial⟩,fun c3=>⟨?_,?_,?_,?_,?_,trivial⟩⟩⟩,fun c1=>⟨⟨rfl,rfl⟩,trivial⟩⟩
 all_goals ((obtain ⟨hs,⟨h0,h1⟩,h2,h3,h4,h5⟩:=hI;simp only [decide_eq_true_eq] at c1;have hv:=(h4 _ (PU h0 (show s.i<s.m.length by omega))).2;have hl:=aaE.1 (h4 _ (PU h0 (show s.i<s.m.length by omega))).1;first|omega|exact ⟨rfl,by simp⟩))
theorem agT:J4.Ok:=⟨fun s=>by kernel_rfl,fun s=>by kernel_rfl,fun s=>rfl,fun s t r=>rfl,fun s=>rfl,fun s=>by kernel_rfl⟩
theorem af5:J4.Pf (aq6):=⟨azz,fun s h=>by
 obtain ⟨m,k,i,o,q,t,st⟩:=s
 have e:st=.ready:=h.1
 subst e
 rfl,avH,atv⟩
theorem alE:bG Tryz.prog aT (AN 6) (.loop Uu) J4.lp:=dn.snd agT af5 (aZ (Γ:=AV) (K:=aaP) (L:=(mP Tryz.prog aT AV aaP 20 2)) Eo ahF Uu (fun b _=>cu Eo ahF 20 2 b)) (fun s=>by kernel_rfl)
theorem aoK (s:lN) (hE:adB s):(fun (x:Ex) (s':lN) (v:List Int)=>x=.exit 0∧s'.o=v) (aof s) (x9 s) ((fun s:lN=>((s.m.drop s.i.toNat).filter (UD s.t)).foldl kpA s.o) s):=by
 exact dn.rC agT af5 (fun s:lN=>((s.m.drop s.i.toNat).filter (UD s.t)).foldl kpA s.o) (fun x s' v=>x=.exit 0∧s'.o=v) (fun s hI=>by
  show bY _ _ (abx s)
  unfold abx Rk
  dsimp only [T.rd,T.rl]
  obtain ⟨hs,⟨h0,h1⟩,h2,h3,h4,h5⟩:=hI
  refine ai (fun c1=>?_) (fun c1=>?_)
  ·have c1:s.i<s.k:=by simpa using c1
   have e:=(IU h0 (show s.i<(List.length s.m:Int) by omega)).1
   rw [aF (x:=s.i+1) (by omega) (by omega)]
   refine ai (fun c2=>?_) (fun c2=>ai (fun c3=>?_) (fun c3=>?_))
   ·refine ⟨rfl,?_⟩
    have c2:(qB s.m s.i).2.2.2.1>s.t:=by simpa using c2
    have hp:(s.m.drop s.i.toNat).Pairwise (fun a b=>a.1<b.1∧a.2.2.2.1≤b.2.2.2.1):=List.Pairwise.sublist (List.drop_sublist _ _) h5
    rw [e,List.pairwise_cons] at hp
    rw [List.filter_eq_nil_iff.2]
    ·rfl
    ·rw [e]
     intro x hx
     unfold UD
     rw [decide_eq_false,Bool.false_and]
     ·decide
     ·rcases List.mem_cons.1 hx with rfl|hx
      ·omega
      ·have:=(hp.1 x hx).2
       omega
   ·show List.foldl _ _ _=List.foldl _ _ _
    have c3:ad6 (qB s.m s.i)≤s.t:=by simpa using c3
    have hb:¬UD s.t (qB s.m s.i)=true:=by
     unfold UD
     rw [decide_eq_false (p:=ad6 _>_) (by omega),Bool.and_false]
     decide
    simp only
    rw [e,List.filter_cons,if_neg hb]
   ·show List.foldl _ _ _=List.foldl _ _ _
    have c2:(qB s.m s.i).2.2.2.1≤s.t:=by simpa using c2
    have c3:s.t<ad6 (qB s.m s.i):=by simpa using c3
    have hb:UD s.t (qB s.m s.i)=true:=by
     unfold UD
     rw [decide_eq_true c2,decide_eq_true c3]
     rfl
    simp only
    rw [e,List.filter_cons,if_pos hb,List.foldl_cons]
    rfl
  ·have c1:s.k≤s.i:=by simpa using c1
   refine ⟨rfl,?_⟩
   rw [List.drop_eq_nil_of_le (by omega)]
   rfl) s hE
def ac7:List LV→T LV
 | [.xl (.pair (.int .i64) (.pair (.int .i64) (.pair (.int .i64) (.pair (.int .i64) (.int .i64))))) l,.v (.int .i64 n),.v (.int .i64 t)]=> .ok (.jg [.xl (.int .i64) (oZ l n t),.v (.int .i64 (UC l n t))])
 |_=> .no
noncomputable def Y2:List LV→T LV:=jR Tryz.prog Tryz.f66.params.toList ac7
noncomputable def apW:Hand:=inl Tryz.prog aT AV (dG 137 6 1 (J4.lp) (jo Tryz.prog aT (AV) 20 2)) 9
theorem ayD:cO Tryz.prog aT apW:=bJ Eo (aP Tryz.func137 rfl (by kernel_rfl) alE (dw Eo)) 9
theorem ane (l:List Le) (n t:Int):eX Tryz.prog aT (AV) apW (fun i=>if i=4 then Fq.lp else aB i) Tryz.f66 [.xl rG l,.v (.int .i64 n),.v (.int .i64 t)]=.br ((!(tY l)) ||((!(inB n (0:Int) (16:Int))) ||(!(inB t (0:Int) (1100000:Int))))) (.ok (.jg [.xl (.int .i64) ([]:List Int),.v (.int .i64 1)])) (.req (awD (⟨l,n,t,(0:Int),l,(List.length l:Int),(0:Int)⟩:qg)) (.br (lH (abQ (⟨l,n,t,(0:Int),l,(List.length l:Int),(0:Int)⟩:qg)) (.ret)) (.ok (.jg [.xl (.int .i64) ([]:List Int),.v (.int .i64 (aag (⟨l,n,t,(0:Int),l,(List.length l:Int),(0:Int)⟩:qg)).e)])) (.req (0≤n∧n≤n∧8*n≤2^48∧n<2^63) (.req (0=0∧n.toNat=List.length (List.replicate n.toNat (0:Int))) (.req (awC (⟨l,(List.length l:Int),(0:Int),(List.replicate n.toNat (0:Int)),l,t,.ready⟩:lN)) (.req (0+(List.length (x9 (⟨l,(List.length l:Int),(0:Int),(List.replicate n.toNat (0:Int)),l,t,.ready⟩:lN)).o)≤List.length (x9 (⟨l,(List.length l:Int),(0:Int),(List.replicate n.toNat (0:Int)),l,t,.ready⟩:lN)).o) (.ok (.jg [.xl (.int .i64) (((x9 (⟨l,(List.length l:Int),(0:Int),(List.replicate n.toNat (0:Int)),l,t,.ready⟩:lN)).o.drop 0).take (List.length (x9 (⟨l,(List.length l:Int),(0:Int),(List.replicate n.toNat (0:Int)),l,t,.ready⟩:lN)).o)),.v (.int .i64 0)])))))))):=by kernel_rfl
theorem ar5:Valid Tryz.prog aT 66 Y2:=aJ Tryz.func66 rfl Eo ayD (L:=(fun i=>if i=4 then Fq.lp else aB i)) (fun b hb=>by
 rw [show ay _=[Cf] by kernel_rfl] at hb
 simp only [List.mem_cons,List.not_mem_nil,or_false] at hb
 subst hb
 exact alF) (fun args lv h=>by
 unfold ac7 at h
 split at h
 ·simp only [canL,canX]
  rw [ane]
  rename_i l n t
  obtain rfl:=h
  have bad:Kz l n t=false→LV.jg [.xl (.int .i64) ([]:List Int),.v (.int .i64 1)]=LV.jg [.xl (.int .i64) (oZ l n t),.v (.int .i64 (UC l n t))]:=fun c=>by
   unfold oZ UC
   rw [c]
   rfl
  refine ⟨fun c=>bad ?_,fun c=>?_⟩
  ·unfold Kz
   cases e1:tY l<;>cases e2:inB n 0 16<;>cases e3:inB t 0 1100000<;>simp_all
  have c:(tY l&&(inB n 0 16&&inB t 0 1100000))=true:=by cases e1:tY l<;>cases e2:inB n 0 16<;>cases e3:inB t 0 1100000<;>simp_all
  have c':=c
  rw [Bool.and_eq_true,Bool.and_eq_true,iP,iP] at c'
  obtain ⟨hv,hn,ht⟩:=c'
  have hl:=Az hv
  have hE:adC ⟨l,n,t,0,l,(List.length l:Int),0⟩:=⟨rfl,rfl,by simp only;omega⟩
  refine ⟨⟨hE,rfl,rfl⟩,?_⟩
  obtain ⟨_,_,hq⟩:=aoL _ hE
  rcases hq with ⟨q1,q2⟩ |⟨q1,q2,q3⟩<;>rw [q1]
  ·refine ⟨fun h=>(by cases h),fun _=>?_⟩
   have q2:below n l=true:=q2
   have hE2:adB ⟨l,(List.length l:Int),0,List.replicate n.toNat 0,l,t,.ready⟩:=⟨rfl,rfl,rfl,by simp only;omega,fun x hx=>⟨hl.2 x hx,by
    have:=of_decide_eq_true (List.all_eq_true.1 q2 x hx)
    simp only [List.length_replicate]
    omega⟩,adW hv⟩
   obtain ⟨_,q4⟩:=aoK _ hE2
   have q4:(x9 ⟨l,(List.length l:Int),0,List.replicate n.toNat 0,l,t,.ready⟩).o=Yn n.toNat l t:=q4
   refine ⟨by omega,⟨rfl,by simp⟩,⟨hE2,rfl,rfl⟩,by omega,?_⟩
   show LV.jg [LV.xl _ _,_]=_
   rw [List.drop_zero,List.take_length,q4]
   unfold oZ UC Kz
   rw [c,q2]
   rfl
  ·have q3:below n l=false:=q3
   rw [q2]
   exact ⟨fun _=>bad (by unfold Kz;rw [q3,Bool.and_false]),fun h=>by cases h⟩
 ·cases h)
end Go.Proofs.YtlihnbimgclogaaGreatDoor
namespace Go.Proofs.YtlihnbimgclogaaGreatDoor
open Go.Sx
def acI:List LV→T LV
 | [.v (.agg ⟨[.string _,.int .i64 _,.int .i64 _,.int .i64 mi,.int .i64 ma,.int .i64 st,.int .i64 _,.int .i64 _]⟩)]=> .ok (.v (.int .i64 (Dy mi ma st)))
 |_=> .no
noncomputable def YG:List LV→T LV:=jR Tryz.prog Tryz.f28.params.toList acI
noncomputable def auV:Specs:=bn []
theorem ay3:∀g S,auV g=some S→Valid Tryz.prog aT g S:=aX (l:=[]) trivial
theorem amN (nm:ByteArray) (at_ ph mi ma st fb ow:Int):eX Tryz.prog aT (auV) iU aB Tryz.f28 [.v (.agg #[.string nm,.int .i64 at_,.int .i64 ph,.int .i64 mi,.int .i64 ma,.int .i64 st,.int .i64 fb,.int .i64 ow])]=.br ((decide (mi<1)) ||((decide (mi>ma)) ||((decide (ma>80)) ||((decide (st<1)) ||(decide (st>80)))))) (.ok (.v (.int .i64 0))) (.req (st≠0) (.ok (.v (.int .i64 (IntKind.i64.wrap ((IntKind.i64.wrap ((IntKind.i64.wrap (ma-mi)).tdiv st))+2)))))):=by kernel_rfl
theorem arJ:Valid Tryz.prog aT 28 YG:=aJ Tryz.func28 rfl ay3 aC (bF (by kernel_rfl)) (fun args lv h=>by
 unfold acI at h
 split at h
 ·simp only [canL,canX]
  rw [amN]
  rename_i mi ma st _ _
  obtain rfl:=h
  refine ⟨fun c=>congrArg (fun z=>LV.v (.int .i64 z)) ?_,fun c=>⟨?_,congrArg (fun z=>LV.v (.int .i64 z)) ?_⟩⟩
  ·have:ni mi ma st=false:=by
    rw [Bool.eq_false_iff];intro h;have:=gm.1 h;simp at c;omega
   rw [Ti this]
  ·simp at c;omega
  ·have hh:ni mi ma st=true:=gm.2 (by simp at c;omega)
   obtain ⟨h1,h2,h3,h4,h5⟩:=gm.1 hh
   have:=DV (x:=ma-mi) (st:=st) (by omega) (by omega)
   rw [aF (x:=ma-mi) (by omega) (by omega),Int.tdiv_eq_ediv_of_nonneg (by omega),aF (x:=(ma-mi) / st) (by omega) (by omega),aF (by omega) (by omega)]
   simp [Dy,hh]
 ·cases h)
def ac6:List LV→T LV
 | [.v (.agg ⟨[.string _,.int .i64 _,.int .i64 _,.int .i64 mi,.int .i64 _,.int .i64 st,.int .i64 _,.int .i64 _]⟩),.v (.int .i64 k)]=> .req ((1≤mi∧mi≤80∧1≤st∧st≤80)∧0≤k∧k≤1000) (.ok (.v (.int .i64 (CZ mi st k))))
 |_=> .no
noncomputable def qV:List LV→T LV:=jR Tryz.prog Tryz.f61.params.toList ac6
theorem anc (nm:ByteArray) (at_ ph mi ma st fb ow k:Int):eX Tryz.prog aT (auV) iU aB Tryz.f61 [.v (.agg #[.string nm,.int .i64 at_,.int .i64 ph,.int .i64 mi,.int .i64 ma,.int .i64 st,.int .i64 fb,.int .i64 ow]),.v (.int .i64 k)]=.br (k==0) (.ok (.v (.int .i64 0))) (.ok (.v (.int .i64 (IntKind.i64.wrap (mi+(IntKind.i64.wrap ((IntKind.i64.wrap (k-1))*st))))))):=by kernel_rfl
theorem Gx:Valid Tryz.prog aT 61 qV:=aJ Tryz.func61 rfl ay3 aC (bF (by kernel_rfl)) (fun args lv h=>by
 unfold ac6 at h
 split at h
 ·simp only [canL,canX]
  rw [anc]
  rename_i mi _ st _ _ k
  obtain ⟨⟨⟨h1,h2,h3,h4⟩,h5,h6⟩,rfl⟩:=h
  refine ⟨fun c=>congrArg (fun z=>LV.v (.int .i64 z)) ?_,fun c=>congrArg (fun z=>LV.v (.int .i64 z)) ?_⟩
  ·have c:k=0:=by simpa using c
   simp [CZ,c]
  ·have c:k≠0:=by simpa using c
   have:=aum (a:=k-1) (b:=st) (by omega) (by omega) (by omega) (by omega)
   rw [aF (x:=k-1) (by omega) (by omega),aF (x:=(k-1)*st) (by omega) (by omega),aF (by omega) (by omega)]
   simp [CZ,c]
 ·cases h)
def acL:List LV→T LV
 | [.v (.agg ⟨[.string _,.int .i64 _,.int .i64 _,.int .i64 mi,.int .i64 ma,.int .i64 st,.int .i64 _,.int .i64 _]⟩),.v (.int .i64 a)]=> .req (a≤9223372036854775807) (.ok (.v (.int .i64 (Tm mi ma st a))))
 |_=> .no
noncomputable def qQ:List LV→T LV:=jR Tryz.prog Tryz.f96.params.toList acL
noncomputable def ay6:Specs:=bn [(28,YG)]
theorem aBY:∀g S,ay6 g=some S→Valid Tryz.prog aT g S:=aX (l:=[(28,YG)]) ⟨arJ,trivial⟩
theorem amQ (nm:ByteArray) (at_ ph mi ma st fb ow a:Int):eX Tryz.prog aT (ay6) iU aB Tryz.f96 [.v (.agg #[.string nm,.int .i64 at_,.int .i64 ph,.int .i64 mi,.int .i64 ma,.int .i64 st,.int .i64 fb,.int .i64 ow]),.v (.int .i64 a)]=.br (((Dy mi ma st)==0) ||(decide (a<0))) (.ok (.v (.int .i64 (-1)))) (.br (decide (a<mi)) (.ok (.v (.int .i64 0))) (.req (st≠0) (.ok (.v (.int .i64 (if (IntKind.i64.wrap ((IntKind.i64.wrap ((IntKind.i64.wrap (a-mi)).tdiv st))+1))<(IntKind.i64.wrap ((Dy mi ma st)-1)) then IntKind.i64.wrap ((IntKind.i64.wrap ((IntKind.i64.wrap (a-mi)).tdiv st))+1) else IntKind.i64.wrap ((Dy mi ma st)-1))))))):=by kernel_rfl
theorem Gu:Valid Tryz.prog aT 96 qQ:=aJ Tryz.func96 rfl aBY aC (bF (by kernel_rfl)) (fun args lv h=>by
 unfold acL at h
 split at h
 ·simp only [canL,canX]
  rw [amQ]
  rename_i mi ma st _ _ a
  obtain ⟨ha,rfl⟩:=h
  have hb:=aho (mi:=mi) (ma:=ma) (st:=st)
  refine ⟨fun c=>congrArg (fun z=>LV.v (.int .i64 z)) ?_,fun c=>⟨fun c2=>congrArg (fun z=>LV.v (.int .i64 z)) ?_,fun c2=>?_⟩⟩
  ·have c:ni mi ma st=false∨a<0:=by
    simp at c
    rcases c with c|c
    ·left
     cases e:ni mi ma st with
     |false=>rfl
     |true=>have:=Pm e;omega
    ·exact .inr c
   simp only [Tm,if_pos c]
  all_goals
   simp at c c2
   have hh:ni mi ma st=true:=by
    cases e:ni mi ma st with
    |true=>rfl
    |false=>exact absurd (Ti e) c.1
   have hn:¬(ni mi ma st=false∨a<0):=by simp [hh];omega
   have:=gm.1 hh
  ·simp only [Tm,if_neg hn,if_pos c2]
  ·have:=DV (x:=a-mi) (st:=st) (by omega) (by omega)
   refine ⟨by omega,congrArg (fun z=>LV.v (.int .i64 z)) ?_⟩
   rw [aF (x:=a-mi) (by omega) (by omega),Int.tdiv_eq_ediv_of_nonneg (by omega),aF (x:=(a-mi) / st) (by omega) (by omega),aF (x:=(a-mi) / st+1) (by omega) (by omega),aF (x:=Dy mi ma st-1) (by omega) (by omega)]
   simp only [Tm,if_neg hn,if_neg (show ¬a<mi by omega)]
   split<;>omega
 ·cases h)
end Go.Proofs.YtlihnbimgclogaaGreatDoor
namespace Go.Proofs.YtlihnbimgclogaaGreatDoor
open Go.Sx
def LZ:List LV→T LV
 | [.v (.string w)]=> .ok (.v (.bool (isIn ace w)))
 |_=> .no
noncomputable def xI:List LV→T LV:=jR Tryz.prog Tryz.f165.params.toList LZ
noncomputable def XU:Specs:=bn []
theorem ad3:∀g S,XU g=some S→Valid Tryz.prog aT g S:=aX (l:=[]) trivial
theorem adR (w:ByteArray):eX Tryz.prog aT (XU) iU aB Tryz.f165 [.v (.string w)]=.br (w.toList==(ByteArray.mk #[108,105,109,105,116]).toList) (.ok (.v (.bool true))) (.br (w.toList==(ByteArray.mk #[110,101,117,116,114,97,108]).toList) (.ok (.v (.bool true))) (.br (w.toList==(ByteArray.mk #[102,117,115,101]).toList) (.ok (.v (.bool true))) (.br (w.toList==(ByteArray.mk #[116,104,101,114,109,97,108]).toList) (.ok (.v (.bool true))) (.br (w.toList==(ByteArray.mk #[102,114,111,109]).toList) (.ok (.v (.bool true))) (.br (w.toList==(ByteArray.mk #[97,116]).toList) (.ok (.v (.bool true))) (.br (w.toList==(ByteArray.mk #[112,104,97,115,101,115]).toList) (.ok (.v (.bool true))) (.br (w.toList==(ByteArray.mk #[97,109,112,115]).toList) (.ok (.v (.bool true))) (.br (w.toList==(ByteArray.mk #[102,97,108,108,98,97,99,107]).toList) (.ok (.v (.bool true))) (.br (w.toList==(ByteArray.mk #[111,119,110,101,114]).toList) (.ok (.v (.bool true))) (.br (w.toList==(ByteArray.mk #[99,97,114,100]).toList) (.ok (.v (.bool true))) (.br (w.toList==(ByteArray.mk #[114,97,110,107]).toList) (.ok (.v (.bool true))) (.br (w.toList==(ByteArray.mk #[99,104,97,114,103,101,114]).toList) (.ok (.v (.bool true))) (.ok (.v (.bool false))))))))))))))):=by kernel_rfl
theorem QF:Valid Tryz.prog aT 165 xI:=aJ Tryz.func165 rfl ad3 aC (bF (by kernel_rfl)) (fun args lv h=>by
 unfold LZ at h
 split at h
 ·simp only [canL,canX]
  rw [adR]
  obtain rfl:=h
  simp only [GK]
  unfold isIn ace
  simp only [List.any_cons,List.any_nil]
  refine ⟨fun c0=>by simp [c0,T.all],fun c0=>?_⟩
  rw [c0,Bool.false_or]
  refine ⟨fun c1=>by simp [c1,T.all],fun c1=>?_⟩
  rw [c1,Bool.false_or]
  refine ⟨fun c2=>by simp [c2,T.all],fun c2=>?_⟩
  rw [c2,Bool.false_or]
  refine ⟨fun c3=>by simp [c3,T.all],fun c3=>?_⟩
  rw [c3,Bool.false_or]
  refine ⟨fun c4=>by simp [c4,T.all],fun c4=>?_⟩
  rw [c4,Bool.false_or]
  refine ⟨fun c5=>by simp [c5,T.all],fun c5=>?_⟩
  rw [c5,Bool.false_or]
  refine ⟨fun c6=>by simp [c6,T.all],fun c6=>?_⟩
  rw [c6,Bool.false_or]
  refine ⟨fun c7=>by simp [c7,T.all],fun c7=>?_⟩
  rw [c7,Bool.false_or]
  refine ⟨fun c8=>by simp [c8,T.all],fun c8=>?_⟩
  rw [c8,Bool.false_or]
  refine ⟨fun c9=>by simp [c9,T.all],fun c9=>?_⟩
  rw [c9,Bool.false_or]
  refine ⟨fun c10=>by simp [c10,T.all],fun c10=>?_⟩
  rw [c10,Bool.false_or]
  refine ⟨fun c11=>by simp [c11,T.all],fun c11=>?_⟩
  rw [c11,Bool.false_or]
  refine ⟨fun c12=>by simp [c12,T.all],fun c12=>?_⟩
  rw [c12,Bool.false_or]
  rfl
 ·cases h)
def UN:List LV→T LV
 | [.v (.string w)]=> .ok (.v (.bool (isIn Cj w)))
 |_=> .no
noncomputable def CP:List LV→T LV:=jR Tryz.prog Tryz.f166.params.toList UN
theorem aha (w:ByteArray):eX Tryz.prog aT (XU) iU aB Tryz.f166 [.v (.string w)]=.br (w.toList==(ByteArray.mk #[115,116,97,114,116]).toList) (.ok (.v (.bool true))) (.br (w.toList==(ByteArray.mk #[101,110,101,114,103,121]).toList) (.ok (.v (.bool true))) (.br (w.toList==(ByteArray.mk #[116,105,109,101]).toList) (.ok (.v (.bool true))) (.br (w.toList==(ByteArray.mk #[105,100,108,101]).toList) (.ok (.v (.bool true))) (.br (w.toList==(ByteArray.mk #[99,97,112]).toList) (.ok (.v (.bool true))) (.br (w.toList==(ByteArray.mk #[116,97,120]).toList) (.ok (.v (.bool true))) (.ok (.v (.bool false)))))))):=by kernel_rfl
theorem Zf:Valid Tryz.prog aT 166 CP:=aJ Tryz.func166 rfl ad3 aC (bF (by kernel_rfl)) (fun args lv h=>by
 unfold UN at h
 split at h
 ·simp only [canL,canX]
  rw [aha]
  obtain rfl:=h
  simp only [GK]
  unfold isIn Cj
  simp only [List.any_cons,List.any_nil]
  refine ⟨fun c0=>by simp [c0,T.all],fun c0=>?_⟩
  rw [c0,Bool.false_or]
  refine ⟨fun c1=>by simp [c1,T.all],fun c1=>?_⟩
  rw [c1,Bool.false_or]
  refine ⟨fun c2=>by simp [c2,T.all],fun c2=>?_⟩
  rw [c2,Bool.false_or]
  refine ⟨fun c3=>by simp [c3,T.all],fun c3=>?_⟩
  rw [c3,Bool.false_or]
  refine ⟨fun c4=>by simp [c4,T.all],fun c4=>?_⟩
  rw [c4,Bool.false_or]
  refine ⟨fun c5=>by simp [c5,T.all],fun c5=>?_⟩
  rw [c5,Bool.false_or]
  rfl
 ·cases h)
def UL:List LV→T LV
 | [.v (.string w)]=> .ok (.v (.bool (isIn words w)))
 |_=> .no
noncomputable def CO:List LV→T LV:=jR Tryz.prog Tryz.f169.params.toList UL
theorem ag8 (w:ByteArray):eX Tryz.prog aT (XU) iU aB Tryz.f169 [.v (.string w)]=.br (w.toList==(ByteArray.mk #[111,110]).toList) (.ok (.v (.bool true))) (.br (w.toList==(ByteArray.mk #[119,111,114,107]).toList) (.ok (.v (.bool true))) (.br (w.toList==(ByteArray.mk #[115,97,116,117,114,100,97,121]).toList) (.ok (.v (.bool true))) (.br (w.toList==(ByteArray.mk #[115,117,110,100,97,121]).toList) (.ok (.v (.bool true))) (.br (w.toList==(ByteArray.mk #[98,101,116,119,101,101,110]).toList) (.ok (.v (.bool true))) (.br (w.toList==(ByteArray.mk #[112,101,114]).toList) (.ok (.v (.bool true))) (.br (w.toList==(ByteArray.mk #[102,114,101,101]).toList) (.ok (.v (.bool true))) (.ok (.v (.bool false))))))))):=by kernel_rfl
theorem Ze:Valid Tryz.prog aT 169 CO:=aJ Tryz.func169 rfl ad3 aC (bF (by kernel_rfl)) (fun args lv h=>by
 unfold UL at h
 split at h
 ·simp only [canL,canX]
  rw [ag8]
  obtain rfl:=h
  simp only [GK]
  unfold isIn words
  simp only [List.any_cons,List.any_nil]
  refine ⟨fun c0=>by simp [c0,T.all],fun c0=>?_⟩
  rw [c0,Bool.false_or]
  refine ⟨fun c1=>by simp [c1,T.all],fun c1=>?_⟩
  rw [c1,Bool.false_or]
  refine ⟨fun c2=>by simp [c2,T.all],fun c2=>?_⟩
  rw [c2,Bool.false_or]
  refine ⟨fun c3=>by simp [c3,T.all],fun c3=>?_⟩
  rw [c3,Bool.false_or]
  refine ⟨fun c4=>by simp [c4,T.all],fun c4=>?_⟩
  rw [c4,Bool.false_or]
  refine ⟨fun c5=>by simp [c5,T.all],fun c5=>?_⟩
  rw [c5,Bool.false_or]
  refine ⟨fun c6=>by simp [c6,T.all],fun c6=>?_⟩
  rw [c6,Bool.false_or]
  rfl
 ·cases h)
def acP:List LV→T LV
 | [.v (.string w)]=> .ok (.v (.int .i64 (adX 1 kinds w)))
 |_=> .no
noncomputable def YL:List LV→T LV:=jR Tryz.prog Tryz.f168.params.toList acP
theorem amU (w:ByteArray):eX Tryz.prog aT (XU) iU aB Tryz.f168 [.v (.string w)]=.br (w.toList==(ByteArray.mk #[102,101,101,100,101,114]).toList) (.ok (.v (.int .i64 1))) (.br (w.toList==(ByteArray.mk #[99,97,98,108,101]).toList) (.ok (.v (.int .i64 2))) (.br (w.toList==(ByteArray.mk #[111,119,110,101,114]).toList) (.ok (.v (.int .i64 3))) (.br (w.toList==(ByteArray.mk #[99,111,110,116,114,97,99,116]).toList) (.ok (.v (.int .i64 4))) (.br (w.toList==(ByteArray.mk #[99,104,97,114,103,101,114]).toList) (.ok (.v (.int .i64 5))) (.br (w.toList==(ByteArray.mk #[98,97,121]).toList) (.ok (.v (.int .i64 6))) (.br (w.toList==(ByteArray.mk #[116,97,114,105,102,102]).toList) (.ok (.v (.int .i64 7))) (.ok (.v (.int .i64 0))))))))):=by kernel_rfl
theorem arO:Valid Tryz.prog aT 168 YL:=aJ Tryz.func168 rfl ad3 aC (bF (by kernel_rfl)) (fun args lv h=>by
 unfold acP at h
 split at h
 ·simp only [canL,canX]
  rw [amU]
  obtain rfl:=h
  simp only [GK]
  simp only [adX,kinds]
  refine ⟨fun c0=>by rw [if_pos c0];rfl,fun c0=>?_⟩
  rw [if_neg (by simp [c0])]
  refine ⟨fun c1=>by rw [if_pos c1];rfl,fun c1=>?_⟩
  rw [if_neg (by simp [c1])]
  refine ⟨fun c2=>by rw [if_pos c2];rfl,fun c2=>?_⟩
  rw [if_neg (by simp [c2])]
  refine ⟨fun c3=>by rw [if_pos c3];rfl,fun c3=>?_⟩
  rw [if_neg (by simp [c3])]
  refine ⟨fun c4=>by rw [if_pos c4];rfl,fun c4=>?_⟩
  rw [if_neg (by simp [c4])]
  refine ⟨fun c5=>by rw [if_pos c5];rfl,fun c5=>?_⟩
  rw [if_neg (by simp [c5])]
  refine ⟨fun c6=>by rw [if_pos c6];rfl,fun c6=>?_⟩
  rw [if_neg (by simp [c6])]
  rfl
 ·cases h)
def UM:List LV→T LV
 | [.v (.string w)]=> .ok (.v (.bool (auz w)))
 |_=> .no
noncomputable def Qm:List LV→T LV:=jR Tryz.prog Tryz.f164.params.toList UM
noncomputable def ay5:Specs:=bn [(165,xI),(166,CP),(168,YL),(169,CO)]
theorem aBX:∀g S,ay5 g=some S→Valid Tryz.prog aT g S:=aX (l:=[(165,xI),(166,CP),(168,YL),(169,CO)]) ⟨QF,Zf,arO,Ze,trivial⟩
theorem ag9 (w:ByteArray):eX Tryz.prog aT (ay5) iU aB Tryz.f164 [.v (.string w)]=.ok (.v (.bool (((adX 1 kinds w) !=0) ||((isIn ace w) ||((isIn Cj w) ||(isIn words w)))))):=by kernel_rfl
theorem akD:Valid Tryz.prog aT 164 Qm:=aJ Tryz.func164 rfl aBX aC (bF (by kernel_rfl)) (fun args lv h=>by
 unfold UM at h
 split at h
 ·simp only [canL,canX]
  rw [ag9]
  obtain rfl:=h
  show LV.v (.bool _)=_
  rw [Tt 1 kinds _ (by decide)]
  rfl
 ·cases h)
structure xN where
 text:ByteArray
 r:Bool
 i:Int
def aCu (s:xN):List LV:=[.v (.string s.text),.v (.bool s.r),.v (.int .i64 s.i)]
def aCh (_:xN):List aS:=[]
noncomputable def Gm:Code:=((ay (Tryz.f163.body.getD .skip))[0]?).getD .skip
def akL (s:xN):T (Rd xN):=
 .br (decide (s.i<(s.text.size:Int))) (.req (0≤s.i∧s.i<(s.text.size:Int)) (.br (if decide ((FD s.text s.i)≥97) then !(decide ((FD s.text s.i)≤122))&&(if decide ((FD s.text s.i)≥48) then !(decide ((FD s.text s.i)≤57))&&(!((FD s.text s.i)==95)) else !((FD s.text s.i)==95)) else if decide ((FD s.text s.i)≥48) then !(decide ((FD s.text s.i)≤57))&&(!((FD s.text s.i)==95)) else !((FD s.text s.i)==95)) (.ok (.stop (.ret) {s with r:=false})) (.ok (.next {s with i:=(IntKind.i64.wrap (s.i+1))})))) (.ok (.stop (.exit 0) s))
abbrev azb (s:xN):=(akL s).rd s
def KA (s:xN) (j:Int):Bool:=decide (j<1) ||(chB (FD s.text j))
def aoU (s:xN):Prop:=s.i=1∧1≤(s.text.size:Int)∧(s.text.size:Int)≤1000∧True
def aej (s:xN):Prop:=1≤s.i∧s.i≤(s.text.size:Int)∧(s.text.size:Int)≤1000∧(True)∧∀j:Nat,(j:Int)<s.i→KA s j=true
def aaz (s:xN):Nat:=((s.text.size:Int)-s.i).toNat
def avN (x:Ex) (_ s':xN):Prop:=(x=.exit 0∧∀j:Nat,(j:Int)<(s'.text.size:Int)→KA s' j=true)∨(x=.ret∧s'.r=false∧∃j:Nat,(j:Int)<(s'.text.size:Int)∧KA s' j=false)
theorem aBU:∀s,aoU s→aej s:=by
 intro s h
 obtain ⟨h0,h1,h2,h3⟩:=h
 exact ⟨by omega,by omega,h2,h3,fun j hj=>by unfold KA;rw [decide_eq_true (by omega)];rfl⟩
theorem ayN (s:xN) (hI:aej s):bY (fun s'=>aej s'∧aaz s'<aaz s) (fun x s'=>avN x s s') (azb s):=by
 unfold azb akL
 dsimp only [T.rd,T.rl]
 obtain ⟨h0,h1,h2,h3,h4⟩:=hI
 refine ai (fun c1=>ai (fun c2=>?_) (fun c2=>?_)) (fun c1=>?_)
 ·have c1:s.i<(s.text.size:Int):=by simpa using c1
  refine .inr ⟨rfl,rfl,s.i.toNat,by simp only;omega,?_⟩
  rw [Int.toNat_of_nonneg (by omega)]
  have hg:KA s s.i=false:=by unfold KA;(simp only [show decide (s.i<1)=false from decide_eq_false (by omega),Bool.false_or];(simp only [chB,chA];revert c2;generalize FD s.text s.i=b;intro c2;by_cases h1:b≥97<;>by_cases h2:b≤122<;>by_cases h3:b≥48<;>by_cases h4:b≤57<;>simp_all))
  exact hg
 ·have c1:s.i<(s.text.size:Int):=by simpa using c1
  have hg:KA s s.i=true:=by unfold KA;(simp only [show decide (s.i<1)=false from decide_eq_false (by omega),Bool.false_or];(simp only [chB,chA];revert c2;generalize FD s.text s.i=b;intro c2;by_cases h1:b≥97<;>by_cases h2:b≤122<;>by_cases h3:b≥48<;>by_cases h4:b≤57<;>simp_all))
  rw [aF (x:=s.i+1) (by omega) (by omega)]
  refine ⟨⟨by simp only;omega,by simp only;omega,h2,h3,fun j hj=>?_⟩,by simp only [aaz];omega⟩
  by_cases hji:(j:Int)<s.i
  ·exact h4 j hji
  ·have:(j:Int)=s.i:=by simp only at hj;omega
   rw [this];exact hg
 ·have c1:(s.text.size:Int)≤s.i:=by simpa using c1
  exact .inl ⟨rfl,fun j hj=>h4 j (by omega)⟩
def Vp:dn xN:=⟨0,51,[0,2,3],[],aCu,aCh,fun v _=>⟨gSr (v.getD 0 .junk),J7 (v.getD 1 .junk),gI (v.getD 2 .junk)⟩,akL,fun s r=> {r with text:=s.text},fun s=>s,fun _ s=>s,[.ret,.exit 0],aoU,aej,aaz⟩
abbrev N7:=Vp.run
abbrev aiG:=Vp.lU
abbrev azP:=Vp.q
theorem axN (s:xN) (hI:aej s):(akL s).all (fun _=>True):=by
 refine ⟨fun c1=>⟨?_,fun _=>trivial,fun _=>trivial⟩,fun _=>trivial⟩
 ·(obtain ⟨h0,h1,h2,h3,h4⟩:=hI;simp at c1;omega)
theorem apx:Vp.Ok:=⟨fun s=>by kernel_rfl,fun s=>by kernel_rfl,fun s=>rfl,fun s t r=>rfl,fun s=>rfl,fun s=>by kernel_rfl⟩
theorem apj:Vp.Pf (avN):=⟨aBU,fun _ _=>rfl,ayN,axN⟩
theorem ast:bG Tryz.prog aT (AN 0) (.loop Gm) Vp.lp:=dn.snd apx apj (bI (Γ:=XU) (K:=iU) (L:=aB) ad3 aC Gm (fun b hb=>by rw [show ay Gm=[] by kernel_rfl] at hb;cases hb)) (fun s=>by kernel_rfl)
theorem auN (s:xN) (hE:aoU s):∃s',aej s'∧avN (aiG s) s' (N7 s):=dn.fin apx apj s hE
def UR:List LV→T LV
 | [.v (.string w)]=> .ok (.v (.bool (gwB w)))
 |_=> .no
noncomputable def Qo:List LV→T LV:=jR Tryz.prog Tryz.f163.params.toList UR
theorem ahd (w:ByteArray):eX Tryz.prog aT (XU) iU (fun i=>if i=4 then Vp.lp else aB i) Tryz.f163 [.v (.string w)]=.br (decide ((w.size:Int)<1)) (.ok (.v (.bool false))) (.br (decide ((w.size:Int)>12)) (.ok (.v (.bool false))) (.req (0≤(0:Int)∧(0:Int)<(w.size:Int)) (.br (decide ((FD w (0:Int))<97)) (.ok (.v (.bool false))) (.req (0≤(0:Int)∧(0:Int)<(w.size:Int)) (.br (decide ((FD w (0:Int))>122)) (.ok (.v (.bool false))) (.req (azP (⟨w,false,(1:Int)⟩:xN)) (.br (lH (aiG (⟨w,false,(1:Int)⟩:xN)) (.ret)) (.ok (.v (.bool (N7 (⟨w,false,(1:Int)⟩:xN)).r))) (.ok (.v (.bool true)))))))))):=by kernel_rfl
theorem akF:Valid Tryz.prog aT 163 Qo:=aJ Tryz.func163 rfl ad3 aC (L:=(fun i=>if i=4 then Vp.lp else aB i)) (fun b hb=>by
 rw [show ay _=[Gm] by kernel_rfl] at hb
 simp only [List.mem_cons,List.not_mem_nil,or_false] at hb
 subst hb
 exact ast) (fun args lv h=>by
 unfold UR at h
 split at h
 ·simp only [canL,canX]
  rw [ahd]
  rename_i w
  obtain rfl:=h
  have bad:¬(((1≤w.size∧w.size≤12)∧(97≤FD w 0∧FD w 0≤122)))→LV.v (.bool false)=LV.v (.bool (gwB w)):=fun hn=>congrArg (fun z=>LV.v (.bool z)) (by
   rw [eq_comm,Bool.eq_false_iff];intro h
   simp only [gwB,chA,Bool.and_eq_true,decide_eq_true_eq] at h
   exact hn ⟨h.1,by omega,by omega⟩)
  refine ⟨fun c=>bad (by simp at c;omega),fun c=>⟨fun c2=>bad (by simp at c2;omega),fun c2=>⟨by simp at c;omega,fun c3=>bad (by simp at c3;omega),fun c3=>⟨by simp at c;omega,fun c4=>bad (by simp at c4;omega),fun c4=>?_⟩⟩⟩⟩
  simp only [decide_eq_false_iff_not] at c c2 c3 c4
  have hE:aoU ⟨w,false,1⟩:=⟨rfl,by simp only;omega,by simp only;omega,trivial⟩
  have key:gwB w=(List.range w.size).all fun i=>i==0 ||chB (FD w i):=by
   simp only [gwB,chA]
   rw [decide_eq_true (by omega),decide_eq_true (by omega),decide_eq_true (by omega)]
   rfl
  obtain ⟨s',_,hq⟩:=auN _ hE
  refine ⟨⟨hE,rfl,rfl⟩,?_⟩
  rw [key]
  rcases hq with ⟨h1,h2⟩ |⟨h1,h2,j,h3,h4⟩
  ·rw [h1]
   refine ⟨fun h=>(by cases h),fun _=>congrArg (fun z=>LV.v (.bool z)) ?_⟩
   rw [eq_comm,List.all_eq_true]
   intro i hi
   have:=h2 i (by show (i:Int)<(w.size:Int);have:=List.mem_range.1 hi;omega)
   simp only [KA] at this
   rw [show (N7 ⟨w,false,1⟩).text=w from rfl] at this
   rw [Bool.or_eq_true] at this
   rcases this with h|h
   ·have:i=0:=by simp at h;omega
    simp [this]
   ·rw [h];simp
  ·rw [h1,h2]
   refine ⟨fun _=>congrArg (fun z=>LV.v (.bool z)) ?_,fun h=>by cases h⟩
   rw [eq_comm,Bool.eq_false_iff]
   intro hx
   rw [List.all_eq_true] at hx
   have h3:(j:Int)<(w.size:Int):=h3
   have:=hx j (List.mem_range.2 (by omega))
   simp only [KA] at h4
   rw [show (N7 ⟨w,false,1⟩).text=w from rfl] at h4
   rw [Bool.or_eq_false_iff] at h4
   have h5:=h4.1
   simp at h5
   rw [h4.2] at this
   simp at this
   omega
 ·cases h)
def UU:List LV→T LV
 | [.v (.string w)]=> .ok (.v (.bool (nameB w)))
 |_=> .no
noncomputable def Qp:List LV→T LV:=jR Tryz.prog Tryz.f159.params.toList UU
noncomputable def ay4:Specs:=bn [(163,Qo),(164,Qm)]
theorem aBW:∀g S,ay4 g=some S→Valid Tryz.prog aT g S:=aX (l:=[(163,Qo),(164,Qm)]) ⟨akF,akD,trivial⟩
theorem ahe (w:ByteArray):eX Tryz.prog aT (ay4) iU aB Tryz.f159 [.v (.string w)]=.ok (.v (.bool ((gwB w)&&(!(auz w))))):=by kernel_rfl
theorem akG:Valid Tryz.prog aT 159 Qp:=aJ Tryz.func159 rfl aBW aC (bF (by kernel_rfl)) (fun args lv h=>by
 unfold UU at h
 split at h
 ·simp only [canL,canX]
  rw [ahe]
  exact h
 ·cases h)
def acT:List LV→T LV
 | [.v (.string w)]=> .ok (.v (.bool (nameB w)))
 |_=> .no
noncomputable def YO:List LV→T LV:=jR Tryz.prog Tryz.f99.params.toList acT
noncomputable def anE:Specs:=bn [(159,Qp),(165,xI),(166,CP),(169,CO)]
theorem auT:∀g S,anE g=some S→Valid Tryz.prog aT g S:=aX (l:=[(159,Qp),(165,xI),(166,CP),(169,CO)]) ⟨akG,QF,Zf,Ze,trivial⟩
noncomputable def ayM:Hand:=inl Tryz.prog aT anE (jo Tryz.prog aT (anE) 20 2) 9
theorem aBT:cO Tryz.prog aT ayM:=bJ auT (dw auT) 9
theorem amY (w:ByteArray):eX Tryz.prog aT (anE) ayM aB Tryz.f99 [.v (.string w)]=.br (((1:Int) !=1) ||((!(ByteArray.empty.toList==(ByteArray.mk #[]).toList)) ||((0:Int) !=0))) (.ok (.v (.bool false))) (.br (((2:Int) !=2) ||((decide ((3:Int)<1)) ||((decide ((3:Int)>7)) ||(!(nameB w))))) (.br (!false) (.ok (.v (.bool false))) (.ok (.v (.bool true)))) (.br (!true) (.ok (.v (.bool false))) (.ok (.v (.bool true))))):=by kernel_rfl
theorem arR:Valid Tryz.prog aT 99 YO:=aJ Tryz.func99 rfl auT aBT (bF (by kernel_rfl)) (fun args lv h=>by
 unfold acT at h
 split at h
 ·simp only [canL,canX]
  rw [amY]
  rename_i w
  obtain rfl:=h
  refine ⟨fun c=>?_,fun _=>?_⟩
  ·exfalso
   rw [GK] at c
   revert c
   decide
  ·cases nameB w<;>simp [T.all]
 ·cases h)
end Go.Proofs.YtlihnbimgclogaaGreatDoor
namespace Go.Proofs.YtlihnbimgclogaaGreatDoor
open Go.Sx
def UQ:List LV→T LV
 | [.v (.agg ⟨[.int .i64 a,.int .i64 b]⟩),.v (.int .i64 n)]=> .ok (.v (.bool (inB n a b)))
 |_=> .no
noncomputable def vJ:List LV→T LV:=jR Tryz.prog Tryz.f127.params.toList UQ
noncomputable def anD:Specs:=bn []
theorem auS:∀g S,anD g=some S→Valid Tryz.prog aT g S:=aX (l:=[]) trivial
theorem ahc (a b n:Int):eX Tryz.prog aT (anD) iU aB Tryz.f127 [.v (.agg #[.int .i64 a,.int .i64 b]),.v (.int .i64 n)]=.ok (.v (.bool ((decide (n≥a))&&(decide (n≤b))))):=by kernel_rfl
theorem NE:Valid Tryz.prog aT 127 vJ:=aJ Tryz.func127 rfl auS aC (bF (by kernel_rfl)) (fun args lv h=>by
 unfold UQ at h
 split at h
 ·simp only [canL,canX]
  rw [ahc]
  exact h
 ·cases h)
def acU:List LV→T LV
 | [.v (.agg ⟨[.int .i64 am,.int .i64 mo,.int .i64 _,.int .i64 _,.int .i64 _]⟩)]=> .ok (.v (.bool (decide (mo>am))))
 |_=> .no
noncomputable def YP:List LV→T LV:=jR Tryz.prog Tryz.f150.params.toList acU
theorem amZ (am mo ga lo de:Int):eX Tryz.prog aT (anD) iU aB Tryz.f150 [.v (.agg #[.int .i64 am,.int .i64 mo,.int .i64 ga,.int .i64 lo,.int .i64 de])]=.ok (.v (.bool (decide (mo>am)))):=by kernel_rfl
theorem arS:Valid Tryz.prog aT 150 YP:=aJ Tryz.func150 rfl auS aC (bF (by kernel_rfl)) (fun args lv h=>by
 unfold acU at h
 split at h
 ·simp only [canL,canX]
  rw [amZ]
  exact h
 ·cases h)
def acV:List LV→T LV
 | [.v (.agg ⟨[.string _,.int .i64 _,.int .i64 _,.int .i64 mi,.int .i64 ma,.int .i64 _,.int .i64 fb,.int .i64 _]⟩)]=> .ok (.v (.bool (decide (mi≤ma)&&((fb==0) ||inB fb mi ma))))
 |_=> .no
noncomputable def YQ:List LV→T LV:=jR Tryz.prog Tryz.f151.params.toList acV
theorem am0 (nm:ByteArray) (at_ ph mi ma st fb ow:Int):eX Tryz.prog aT (anD) iU aB Tryz.f151 [.v (.agg #[.string nm,.int .i64 at_,.int .i64 ph,.int .i64 mi,.int .i64 ma,.int .i64 st,.int .i64 fb,.int .i64 ow])]=.ok (.v (.bool ((decide (mi≤ma))&&((fb==0) ||((decide (fb≥mi))&&(decide (fb≤ma))))))):=by kernel_rfl
theorem arT:Valid Tryz.prog aT 151 YQ:=aJ Tryz.func151 rfl auS aC (bF (by kernel_rfl)) (fun args lv h=>by
 unfold acV at h
 split at h
 ·simp only [canL,canX]
  rw [am0]
  exact h
 ·cases h)
def aco:List LV→T LV
 | [.v (.agg ⟨[.string nm,.int .i64 QH,.int .i64 li,.int .i64 ne,.int .i64 ra,.int .i64 he,.int .i64 am,.int .i64 mo,.int .i64 ga,.int .i64 lo,.int .i64 de]⟩),.v (.int .i64 i)]=> .req (0≤i) (.ok (.v (.bool (Vx i (nm,QH,li,ne,(ra,he),am,mo,ga,lo,de)))))
 |_=> .no
noncomputable def Yv:List LV→T LV:=jR Tryz.prog Tryz.f126.params.toList aco
noncomputable def aqt:Specs:=bn [(127,vJ),(150,YP)]
theorem ay2:∀g S,aqt g=some S→Valid Tryz.prog aT g S:=aX (l:=[(127,vJ),(150,YP)]) ⟨NE,arS,trivial⟩
theorem amr (nm:ByteArray) (QH li ne ra he am mo ga lo de i:Int):eX Tryz.prog aT (aqt) iU aB Tryz.f126 [.v (.agg #[.string nm,.int .i64 QH,.int .i64 li,.int .i64 ne,.int .i64 ra,.int .i64 he,.int .i64 am,.int .i64 mo,.int .i64 ga,.int .i64 lo,.int .i64 de]),.v (.int .i64 i)]=.br (if i==0 then (QH !=(-1)) ||((decide (i>0))&&((decide (QH<0)) ||(decide (QH≥i)))) else (decide (i>0))&&((decide (QH<0)) ||(decide (QH≥i)))) (.ok (.v (.bool false))) (.br ((!(inB li (1:Int) (1000:Int))) ||(!(inB ne (1:Int) (1000:Int)))) (.ok (.v (.bool false))) (.br ((!((ra==0)&&(he==0)))&&(!(inB ra (1:Int) (1000:Int)) ||(!(inB he (0:Int) (1000000:Int))))) (.ok (.v (.bool false))) (.br ((am==0)&&((mo==0)&&((ga==0)&&((lo==0)&&(de==0))))) (.ok (.v (.bool true))) (.ok (.v (.bool ((inB am (0:Int) (200000:Int))&&((inB mo (0:Int) (200000:Int))&&((inB ga (0:Int) (1000:Int))&&((inB lo (0:Int) (1000:Int))&&((inB de (1:Int) (1000000:Int))&&(decide (mo>am))))))))))))):=by kernel_rfl
theorem arx:Valid Tryz.prog aT 126 Yv:=aJ Tryz.func126 rfl ay2 aC (bF (by kernel_rfl)) (fun args lv h=>by
 unfold aco at h
 split at h
 ·simp only [canL,canX]
  rw [amr]
  obtain ⟨hi,h⟩:=h
  exact avu (K:=fun z=>LV.v (.bool z)=lv) hi h
 ·cases h)
def acp:List LV→T LV
 | [.agg [.xl (.pair .str (.pair (.int .i64) (.pair (.int .i64) (.pair (.int .i64) (.pair (.pair (.int .i64) (.int .i64)) (.pair (.int .i64) (.pair (.int .i64) (.pair (.int .i64) (.pair (.int .i64) (.int .i64)))))))))) cs,.xl (.str) os,.xl (.pair .str (.pair (.int .i64) (.pair (.int .i64) (.int .i64)))) _,.xl (.pair .str (.pair (.int .i64) (.pair (.int .i64) (.pair (.int .i64) (.pair (.int .i64) (.pair (.int .i64) (.pair (.int .i64) (.int .i64)))))))) _,.xl (.pair .str (.int .i64)) _],.v (.agg ⟨[.string nm,.int .i64 at_,.int .i64 ph,.int .i64 mi,.int .i64 ma,.int .i64 st,.int .i64 fb,.int .i64 ow]⟩)]=> .req ((List.length cs:Int)≤1000∧(List.length os:Int)≤1000) (.ok (.v (.bool (Qb cs.length os.length (nm,at_,ph,mi,ma,st,fb,ow)))))
 |_=> .no
noncomputable def Yw:List LV→T LV:=jR Tryz.prog Tryz.f128.params.toList acp
noncomputable def aqs:Specs:=bn [(127,vJ),(151,YQ)]
theorem ay1:∀g S,aqs g=some S→Valid Tryz.prog aT g S:=aX (l:=[(127,vJ),(151,YQ)]) ⟨NE,arT,trivial⟩
theorem ams (cs:List Cd) (os:List ByteArray) (ks:List Ko) (gs:List Ch) (bs:List Ba) (nm:ByteArray) (at_ ph mi ma st fb ow:Int):eX Tryz.prog aT (aqs) iU aB Tryz.f128 [.agg [.xl iJ cs,.xl .str os,.xl iQ ks,.xl gU gs,.xl iR bs],.v (.agg #[.string nm,.int .i64 at_,.int .i64 ph,.int .i64 mi,.int .i64 ma,.int .i64 st,.int .i64 fb,.int .i64 ow])]=.ok (.v (.bool ((inB at_ (0:Int) (IntKind.i64.wrap ((List.length cs:Int)-1)))&&((inB ow (0:Int) (IntKind.i64.wrap ((List.length os:Int)-1)))&&((inB ph (1:Int) (7:Int))&&((inB mi (1:Int) (80:Int))&&((inB ma (1:Int) (80:Int))&&((inB st (1:Int) (80:Int))&&((inB fb (0:Int) (80:Int))&&(decide (mi≤ma)&&((fb==0) ||inB fb mi ma))))))))))):=by kernel_rfl
theorem arz:Valid Tryz.prog aT 128 Yw:=aJ Tryz.func128 rfl ay1 aC (bF (by kernel_rfl)) (fun args lv h=>by
 unfold acp at h
 split at h
 ·simp only [canL,canX]
  rw [ams]
  rename_i cs os _ _ _ _ at_ ph mi ma st fb ow
  obtain ⟨⟨h1,h2⟩,rfl⟩:=h
  refine congrArg (fun z=>LV.v (.bool z)) ?_
  rw [aF (x:=(List.length cs:Int)-1) (by omega) (by omega),aF (x:=(List.length os:Int)-1) (by omega) (by omega)]
  unfold Qb chW
  rw [Bool.eq_iff_iff]
  simp only [Bool.and_eq_true,Bool.or_eq_true,iP,decide_eq_true_eq,beq_iff_eq]
  omega
 ·cases h)
end Go.Proofs.YtlihnbimgclogaaGreatDoor
namespace Go.Proofs.YtlihnbimgclogaaGreatDoor
open Go.Sx
structure jv where
 l:List Cd
 n:Int
 i:Int
 aH:List Cd
 aY:List ByteArray
 aQ:List Ko
 aI:List Ch
 dA:List Ba
 out:List ByteArray
def aA3 (s:jv):List LV:=[.own 0 0,.os 1 1 0 (List.length s.out),.xl iJ s.l,.v (.int .i64 s.n),.v (.int .i64 s.i)]
def aAg (s:jv):List aS:=[⟨[.xl iJ s.aH,.xl .str s.aY,.xl iQ s.aQ,.xl gU s.aI,.xl iR s.dA],28,.cl,false⟩,⟨[],9,.vec .str s.out,false⟩]
noncomputable def BL:Code:=((ay (Tryz.f98.body.getD .skip))[0]?).getD .skip
def QZ (s:jv):T (Rd jv):=
 .br (decide (s.i<s.n)) (.req (0≤s.i∧s.i<(List.length s.l:Int)) (.req (0+(List.length s.out)=List.length s.out∧((List.length s.out+List.length ([(iw s.l s.i).1]):Nat):Int)*16≤2^47∧((List.length s.out+List.length ([(iw s.l s.i).1]):Nat):Int)<2^62) (.req (0=0∧(List.length s.out+List.length ([(iw s.l s.i).1]))=List.length (s.out++([(iw s.l s.i).1]))) (.ok (.next {s with i:=(IntKind.i64.wrap (s.i+1)),out:=(s.out++([(iw s.l s.i).1]))}))))) (.rl s.out (.ok (.stop (.exit 0) s)))
abbrev abn (s:jv):=(QZ s).rd s
def Vh (s:jv):Prop:=s.i=0∧s.n=(s.l.length:Int)∧s.n≤1000∧(s.out.length:Int)≤10000
def MO (s:jv):Prop:=0≤s.i∧s.i≤s.n∧s.n=(s.l.length:Int)∧s.n≤1000∧(s.out.length:Int)≤10000+s.i
def OH (s:jv):Nat:=(s.n-s.i).toNat
def ajJ (x:Ex) (_ s':jv):Prop:=x=.exit 0∧s'.i=s'.n
theorem ayh:∀s,Vh s→MO s:=by
 intro s h
 obtain ⟨h0,h1,h2,h3⟩:=h
 exact ⟨by omega,by omega,h1,h2,by omega⟩
theorem atW (s:jv) (hI:MO s):bY (fun s'=>MO s'∧OH s'<OH s) (fun x s'=>ajJ x s s') (abn s):=by
 unfold abn QZ
 dsimp only [T.rd,T.rl]
 obtain ⟨h0,h1,h2,h3,h4⟩:=hI
 refine ai (fun c1=>?_) (fun c1=>?_)
 ·have c1:s.i<s.n:=by simpa using c1
  rw [aF (x:=s.i+1) (by omega) (by omega)]
  exact ⟨⟨by simp only;omega,by simp only;omega,h2,h3,by simp only [List.length_append,List.length_cons,List.length_nil];omega⟩,by simp only [OH];omega⟩
 ·have c1:s.n≤s.i:=by simpa using c1
  exact ⟨rfl,by omega⟩
def EW:dn jv:=⟨0,80,[1,3,15,16,17],[.nl 3 9 .str],aA3,aAg,fun v b=>⟨bf iJ (v.getD 2 .junk),gI (v.getD 3 .junk),gI (v.getD 4 .junk),bf iJ (bC (aV b 0) 0),bf .str (bC (aV b 0) 1),bf iQ (bC (aV b 0) 2),bf gU (bC (aV b 0) 3),bf iR (bC (aV b 0) 4),jm .str (aV b 1)⟩,QZ,fun s r=> {r with l:=s.l,n:=s.n,aH:=s.aH,aY:=s.aY,aQ:=s.aQ,aI:=s.aI,dA:=s.dA},fun s=>s,fun _ s=>s,[.exit 0],Vh,MO,OH⟩
abbrev iC:=EW.run
abbrev an5:=EW.lU
abbrev awf:=EW.q
theorem as5 (s:jv) (hI:MO s):(QZ s).all (fun _=>True):=by
 refine ⟨fun c1=>⟨?_,?_,?_,trivial⟩,fun c1=>⟨⟨rfl,rfl⟩,trivial⟩⟩
 all_goals ((obtain ⟨h0,h1,h2,h3,h4⟩:=hI;(try simp only [decide_eq_true_eq] at c1);first|omega|(refine ⟨by omega,?_,?_⟩<;>simp only [List.length_cons,List.length_nil]<;>omega) |(simp only [List.length_append,List.length_cons,List.length_nil];omega) |exact ⟨rfl,by simp⟩ |exact ⟨rfl,rfl⟩))
noncomputable def IQ:Specs:=bn []
theorem Lu:∀g S,IQ g=some S→Valid Tryz.prog aT g S:=aX (l:=[]) trivial
theorem WW:EW.Ok:=⟨fun s=>by kernel_rfl,fun s=>by kernel_rfl,fun s=>rfl,fun s t r=>rfl,fun s=>rfl,fun s=>by kernel_rfl⟩
theorem Wu:EW.Pf (ajJ):=⟨ayh,fun _ _=>rfl,atW,as5⟩
theorem alh:bG Tryz.prog aT (AN 0) (.loop BL) EW.lp:=dn.snd WW Wu (bI (Γ:=IQ) (K:=iU) (L:=aB) Lu aC BL (fun b hb=>by rw [show ay BL=[] by kernel_rfl] at hb;cases hb)) (fun s=>by kernel_rfl)
theorem aml (s:jv) (hE:Vh s):∃s',MO s'∧ajJ (an5 s) s' (iC s):=dn.fin WW Wu s hE
theorem amk (s:jv) (hE:Vh s):(iC s).out=s.out++s.l.map (·.1):=by
 have hk:=dn.vP WW Wu (fun s=>s.out++(s.l.drop s.i.toNat).map (·.1)) (fun s hI=>by
  obtain ⟨h0,h1,h2,h3,h4⟩:=hI
  show bY _ _ (abn s)
  unfold abn QZ
  dsimp only [T.rd,T.rl]
  refine ai (fun c1=>?_) (fun c1=>?_)
  ·have c1:s.i<s.n:=by simpa using c1
   rw [aF (x:=s.i+1) (by omega) (by omega)]
   show _++_=_++_
   simp only
   rw [(aiy h0 (show s.i<s.l.length by omega)).1]
   simp
  ·rfl) s hE
 obtain ⟨s',hI,q1,q2⟩:=aml s hE
 have q3:(iC s).i=(iC s).n:=q2
 have hn:(iC s).n=(s.l.length:Int):=hE.2.1
 have hl:(iC s).l=s.l:=rfl
 rw [q3,hn,hl,List.drop_eq_nil_of_le (by omega),hE.1] at hk
 simpa using hk
structure jV where
 l:List ByteArray
 n:Int
 i:Int
 aH:List Cd
 aY:List ByteArray
 aQ:List Ko
 aI:List Ch
 dA:List Ba
 out:List ByteArray
def aA2 (s:jV):List LV:=[.own 0 0,.os 1 1 0 (List.length s.out),.xl .str s.l,.v (.int .i64 s.n),.v (.int .i64 s.i)]
def aAf (s:jV):List aS:=[⟨[.xl iJ s.aH,.xl .str s.aY,.xl iQ s.aQ,.xl gU s.aI,.xl iR s.dA],28,.cl,false⟩,⟨[],9,.vec .str s.out,false⟩]
noncomputable def BJ:Code:=((ay (Tryz.f98.body.getD .skip))[1]?).getD .skip
def QY (s:jV):T (Rd jV):=
 .br (decide (s.i<s.n)) (.req (0≤s.i∧s.i<(List.length s.l:Int)) (.req (0+(List.length s.out)=List.length s.out∧((List.length s.out+List.length ([(gS s.l s.i)]):Nat):Int)*16≤2^47∧((List.length s.out+List.length ([(gS s.l s.i)]):Nat):Int)<2^62) (.req (0=0∧(List.length s.out+List.length ([(gS s.l s.i)]))=List.length (s.out++([(gS s.l s.i)]))) (.ok (.next {s with i:=(IntKind.i64.wrap (s.i+1)),out:=(s.out++([(gS s.l s.i)]))}))))) (.rl s.out (.ok (.stop (.exit 2) s)))
abbrev abm (s:jV):=(QY s).rd s
def Vg (s:jV):Prop:=s.i=0∧s.n=(s.l.length:Int)∧s.n≤1000∧(s.out.length:Int)≤10000
def MN (s:jV):Prop:=0≤s.i∧s.i≤s.n∧s.n=(s.l.length:Int)∧s.n≤1000∧(s.out.length:Int)≤10000+s.i
def OG (s:jV):Nat:=(s.n-s.i).toNat
def ajI (x:Ex) (_ s':jV):Prop:=x=.exit 2∧s'.i=s'.n
theorem ayg:∀s,Vg s→MN s:=by
 intro s h
 obtain ⟨h0,h1,h2,h3⟩:=h
 exact ⟨by omega,by omega,h1,h2,by omega⟩
theorem atV (s:jV) (hI:MN s):bY (fun s'=>MN s'∧OG s'<OG s) (fun x s'=>ajI x s s') (abm s):=by
 unfold abm QY
 dsimp only [T.rd,T.rl]
 obtain ⟨h0,h1,h2,h3,h4⟩:=hI
 refine ai (fun c1=>?_) (fun c1=>?_)
 ·have c1:s.i<s.n:=by simpa using c1
  rw [aF (x:=s.i+1) (by omega) (by omega)]
  exact ⟨⟨by simp only;omega,by simp only;omega,h2,h3,by simp only [List.length_append,List.length_cons,List.length_nil];omega⟩,by simp only [OG];omega⟩
 ·have c1:s.n≤s.i:=by simpa using c1
  exact ⟨rfl,by omega⟩
def EU:dn jV:=⟨0,80,[1,3,28,29,30],[],aA2,aAf,fun v b=>⟨bf .str (v.getD 2 .junk),gI (v.getD 3 .junk),gI (v.getD 4 .junk),bf iJ (bC (aV b 0) 0),bf .str (bC (aV b 0) 1),bf iQ (bC (aV b 0) 2),bf gU (bC (aV b 0) 3),bf iR (bC (aV b 0) 4),jm .str (aV b 1)⟩,QY,fun s r=> {r with l:=s.l,n:=s.n,aH:=s.aH,aY:=s.aY,aQ:=s.aQ,aI:=s.aI,dA:=s.dA},fun s=>s,fun _ s=>s,[.exit 2],Vg,MN,OG⟩
abbrev iW:=EU.run
abbrev an4:=EU.lU
abbrev awe:=EU.q
theorem as4 (s:jV) (hI:MN s):(QY s).all (fun _=>True):=by
 refine ⟨fun c1=>⟨?_,?_,?_,trivial⟩,fun c1=>⟨⟨rfl,rfl⟩,trivial⟩⟩
 all_goals ((obtain ⟨h0,h1,h2,h3,h4⟩:=hI;(try simp only [decide_eq_true_eq] at c1);first|omega|(refine ⟨by omega,?_,?_⟩<;>simp only [List.length_cons,List.length_nil]<;>omega) |(simp only [List.length_append,List.length_cons,List.length_nil];omega) |exact ⟨rfl,by simp⟩ |exact ⟨rfl,rfl⟩))
theorem WV:EU.Ok:=⟨fun s=>by kernel_rfl,fun s=>by kernel_rfl,fun s=>rfl,fun s t r=>rfl,fun s=>rfl,fun s=>by kernel_rfl⟩
theorem Ws:EU.Pf (ajI):=⟨ayg,fun _ _=>rfl,atV,as4⟩
theorem alg:bG Tryz.prog aT (AN 0) (.loop BJ) EU.lp:=dn.snd WV Ws (bI (Γ:=IQ) (K:=iU) (L:=aB) Lu aC BJ (fun b hb=>by rw [show ay BJ=[] by kernel_rfl] at hb;cases hb)) (fun s=>by kernel_rfl)
theorem amj (s:jV) (hE:Vg s):∃s',MN s'∧ajI (an4 s) s' (iW s):=dn.fin WV Ws s hE
theorem ami (s:jV) (hE:Vg s):(iW s).out=s.out++s.l:=by
 have hk:=dn.vP WV Ws (fun s=>s.out++(s.l.drop s.i.toNat)) (fun s hI=>by
  obtain ⟨h0,h1,h2,h3,h4⟩:=hI
  show bY _ _ (abm s)
  unfold abm QY
  dsimp only [T.rd,T.rl]
  refine ai (fun c1=>?_) (fun c1=>?_)
  ·have c1:s.i<s.n:=by simpa using c1
   rw [aF (x:=s.i+1) (by omega) (by omega)]
   show _++_=_++_
   simp only
   rw [(aa4 h0 (show s.i<s.l.length by omega)).1]
   simp
  ·rfl) s hE
 obtain ⟨s',hI,q1,q2⟩:=amj s hE
 have q3:(iW s).i=(iW s).n:=q2
 have hn:(iW s).n=(s.l.length:Int):=hE.2.1
 have hl:(iW s).l=s.l:=rfl
 rw [q3,hn,hl,List.drop_eq_nil_of_le (by omega),hE.1] at hk
 simpa using hk
structure kH where
 l:List Ko
 n:Int
 i:Int
 aH:List Cd
 aY:List ByteArray
 aQ:List Ko
 aI:List Ch
 dA:List Ba
 out:List ByteArray
def aA1 (s:kH):List LV:=[.own 0 0,.os 1 1 0 (List.length s.out),.xl iQ s.l,.v (.int .i64 s.n),.v (.int .i64 s.i)]
def aAe (s:kH):List aS:=[⟨[.xl iJ s.aH,.xl .str s.aY,.xl iQ s.aQ,.xl gU s.aI,.xl iR s.dA],28,.cl,false⟩,⟨[],9,.vec .str s.out,false⟩]
noncomputable def BI:Code:=((ay (Tryz.f98.body.getD .skip))[2]?).getD .skip
def QX (s:kH):T (Rd kH):=
 .br (decide (s.i<s.n)) (.req (0≤s.i∧s.i<(List.length s.l:Int)) (.req (0+(List.length s.out)=List.length s.out∧((List.length s.out+List.length ([(Kv s.l s.i).1]):Nat):Int)*16≤2^47∧((List.length s.out+List.length ([(Kv s.l s.i).1]):Nat):Int)<2^62) (.req (0=0∧(List.length s.out+List.length ([(Kv s.l s.i).1]))=List.length (s.out++([(Kv s.l s.i).1]))) (.ok (.next {s with i:=(IntKind.i64.wrap (s.i+1)),out:=(s.out++([(Kv s.l s.i).1]))}))))) (.rl s.out (.ok (.stop (.exit 4) s)))
abbrev abl (s:kH):=(QX s).rd s
def Vf (s:kH):Prop:=s.i=0∧s.n=(s.l.length:Int)∧s.n≤1000∧(s.out.length:Int)≤10000
def ML (s:kH):Prop:=0≤s.i∧s.i≤s.n∧s.n=(s.l.length:Int)∧s.n≤1000∧(s.out.length:Int)≤10000+s.i
def OE (s:kH):Nat:=(s.n-s.i).toNat
def ajH (x:Ex) (_ s':kH):Prop:=x=.exit 4∧s'.i=s'.n
theorem ayf:∀s,Vf s→ML s:=by
 intro s h
 obtain ⟨h0,h1,h2,h3⟩:=h
 exact ⟨by omega,by omega,h1,h2,by omega⟩
theorem atU (s:kH) (hI:ML s):bY (fun s'=>ML s'∧OE s'<OE s) (fun x s'=>ajH x s s') (abl s):=by
 unfold abl QX
 dsimp only [T.rd,T.rl]
 obtain ⟨h0,h1,h2,h3,h4⟩:=hI
 refine ai (fun c1=>?_) (fun c1=>?_)
 ·have c1:s.i<s.n:=by simpa using c1
  rw [aF (x:=s.i+1) (by omega) (by omega)]
  exact ⟨⟨by simp only;omega,by simp only;omega,h2,h3,by simp only [List.length_append,List.length_cons,List.length_nil];omega⟩,by simp only [OE];omega⟩
 ·have c1:s.n≤s.i:=by simpa using c1
  exact ⟨rfl,by omega⟩
def ET:dn kH:=⟨0,80,[1,3,41,42,43],[],aA1,aAe,fun v b=>⟨bf iQ (v.getD 2 .junk),gI (v.getD 3 .junk),gI (v.getD 4 .junk),bf iJ (bC (aV b 0) 0),bf .str (bC (aV b 0) 1),bf iQ (bC (aV b 0) 2),bf gU (bC (aV b 0) 3),bf iR (bC (aV b 0) 4),jm .str (aV b 1)⟩,QX,fun s r=> {r with l:=s.l,n:=s.n,aH:=s.aH,aY:=s.aY,aQ:=s.aQ,aI:=s.aI,dA:=s.dA},fun s=>s,fun _ s=>s,[.exit 4],Vf,ML,OE⟩
abbrev jC:=ET.run
abbrev an3:=ET.lU
abbrev awd:=ET.q
theorem as3 (s:kH) (hI:ML s):(QX s).all (fun _=>True):=by
 refine ⟨fun c1=>⟨?_,?_,?_,trivial⟩,fun c1=>⟨⟨rfl,rfl⟩,trivial⟩⟩
 all_goals ((obtain ⟨h0,h1,h2,h3,h4⟩:=hI;(try simp only [decide_eq_true_eq] at c1);first|omega|(refine ⟨by omega,?_,?_⟩<;>simp only [List.length_cons,List.length_nil]<;>omega) |(simp only [List.length_append,List.length_cons,List.length_nil];omega) |exact ⟨rfl,by simp⟩ |exact ⟨rfl,rfl⟩))
theorem WU:ET.Ok:=⟨fun s=>by kernel_rfl,fun s=>by kernel_rfl,fun s=>rfl,fun s t r=>rfl,fun s=>rfl,fun s=>by kernel_rfl⟩
theorem Wq:ET.Pf (ajH):=⟨ayf,fun _ _=>rfl,atU,as3⟩
theorem alf:bG Tryz.prog aT (AN 0) (.loop BI) ET.lp:=dn.snd WU Wq (bI (Γ:=IQ) (K:=iU) (L:=aB) Lu aC BI (fun b hb=>by rw [show ay BI=[] by kernel_rfl] at hb;cases hb)) (fun s=>by kernel_rfl)
theorem amh (s:kH) (hE:Vf s):∃s',ML s'∧ajH (an3 s) s' (jC s):=dn.fin WU Wq s hE
theorem amg (s:kH) (hE:Vf s):(jC s).out=s.out++s.l.map (·.1):=by
 have hk:=dn.vP WU Wq (fun s=>s.out++(s.l.drop s.i.toNat).map (·.1)) (fun s hI=>by
  obtain ⟨h0,h1,h2,h3,h4⟩:=hI
  show bY _ _ (abl s)
  unfold abl QX
  dsimp only [T.rd,T.rl]
  refine ai (fun c1=>?_) (fun c1=>?_)
  ·have c1:s.i<s.n:=by simpa using c1
   rw [aF (x:=s.i+1) (by omega) (by omega)]
   show _++_=_++_
   simp only
   rw [(TL h0 (show s.i<s.l.length by omega)).1]
   simp
  ·rfl) s hE
 obtain ⟨s',hI,q1,q2⟩:=amh s hE
 have q3:(jC s).i=(jC s).n:=q2
 have hn:(jC s).n=(s.l.length:Int):=hE.2.1
 have hl:(jC s).l=s.l:=rfl
 rw [q3,hn,hl,List.drop_eq_nil_of_le (by omega),hE.1] at hk
 simpa using hk
structure lK where
 l:List Ch
 n:Int
 i:Int
 aH:List Cd
 aY:List ByteArray
 aQ:List Ko
 aI:List Ch
 dA:List Ba
 out:List ByteArray
def aA0 (s:lK):List LV:=[.own 0 0,.os 1 1 0 (List.length s.out),.xl gU s.l,.v (.int .i64 s.n),.v (.int .i64 s.i)]
def aAd (s:lK):List aS:=[⟨[.xl iJ s.aH,.xl .str s.aY,.xl iQ s.aQ,.xl gU s.aI,.xl iR s.dA],28,.cl,false⟩,⟨[],9,.vec .str s.out,false⟩]
noncomputable def BH:Code:=((ay (Tryz.f98.body.getD .skip))[3]?).getD .skip
def QW (s:lK):T (Rd lK):=
 .br (decide (s.i<s.n)) (.req (0≤s.i∧s.i<(List.length s.l:Int)) (.req (0+(List.length s.out)=List.length s.out∧((List.length s.out+List.length ([(bU s.l s.i).1]):Nat):Int)*16≤2^47∧((List.length s.out+List.length ([(bU s.l s.i).1]):Nat):Int)<2^62) (.req (0=0∧(List.length s.out+List.length ([(bU s.l s.i).1]))=List.length (s.out++([(bU s.l s.i).1]))) (.ok (.next {s with i:=(IntKind.i64.wrap (s.i+1)),out:=(s.out++([(bU s.l s.i).1]))}))))) (.rl s.out (.ok (.stop (.exit 6) s)))
abbrev abk (s:lK):=(QW s).rd s
def Ve (s:lK):Prop:=s.i=0∧s.n=(s.l.length:Int)∧s.n≤1000∧(s.out.length:Int)≤10000
def MK (s:lK):Prop:=0≤s.i∧s.i≤s.n∧s.n=(s.l.length:Int)∧s.n≤1000∧(s.out.length:Int)≤10000+s.i
def OD (s:lK):Nat:=(s.n-s.i).toNat
def ajG (x:Ex) (_ s':lK):Prop:=x=.exit 6∧s'.i=s'.n
theorem aye:∀s,Ve s→MK s:=by
 intro s h
 obtain ⟨h0,h1,h2,h3⟩:=h
 exact ⟨by omega,by omega,h1,h2,by omega⟩
theorem atT (s:lK) (hI:MK s):bY (fun s'=>MK s'∧OD s'<OD s) (fun x s'=>ajG x s s') (abk s):=by
 unfold abk QW
 dsimp only [T.rd,T.rl]
 obtain ⟨h0,h1,h2,h3,h4⟩:=hI
 refine ai (fun c1=>?_) (fun c1=>?_)
 ·have c1:s.i<s.n:=by simpa using c1
  rw [aF (x:=s.i+1) (by omega) (by omega)]
  exact ⟨⟨by simp only;omega,by simp only;omega,h2,h3,by simp only [List.length_append,List.length_cons,List.length_nil];omega⟩,by simp only [OD];omega⟩
 ·have c1:s.n≤s.i:=by simpa using c1
  exact ⟨rfl,by omega⟩
def ES:dn lK:=⟨0,80,[1,3,54,55,56],[],aA0,aAd,fun v b=>⟨bf gU (v.getD 2 .junk),gI (v.getD 3 .junk),gI (v.getD 4 .junk),bf iJ (bC (aV b 0) 0),bf .str (bC (aV b 0) 1),bf iQ (bC (aV b 0) 2),bf gU (bC (aV b 0) 3),bf iR (bC (aV b 0) 4),jm .str (aV b 1)⟩,QW,fun s r=> {r with l:=s.l,n:=s.n,aH:=s.aH,aY:=s.aY,aQ:=s.aQ,aI:=s.aI,dA:=s.dA},fun s=>s,fun _ s=>s,[.exit 6],Ve,MK,OD⟩
abbrev kM:=ES.run
abbrev an2:=ES.lU
abbrev awc:=ES.q
theorem as2 (s:lK) (hI:MK s):(QW s).all (fun _=>True):=by
 refine ⟨fun c1=>⟨?_,?_,?_,trivial⟩,fun c1=>⟨⟨rfl,rfl⟩,trivial⟩⟩
 all_goals ((obtain ⟨h0,h1,h2,h3,h4⟩:=hI;(try simp only [decide_eq_true_eq] at c1);first|omega|(refine ⟨by omega,?_,?_⟩<;>simp only [List.length_cons,List.length_nil]<;>omega) |(simp only [List.length_append,List.length_cons,List.length_nil];omega) |exact ⟨rfl,by simp⟩ |exact ⟨rfl,rfl⟩))
theorem WT:ES.Ok:=⟨fun s=>by kernel_rfl,fun s=>by kernel_rfl,fun s=>rfl,fun s t r=>rfl,fun s=>rfl,fun s=>by kernel_rfl⟩
theorem Wp:ES.Pf (ajG):=⟨aye,fun _ _=>rfl,atT,as2⟩
theorem ale:bG Tryz.prog aT (AN 0) (.loop BH) ES.lp:=dn.snd WT Wp (bI (Γ:=IQ) (K:=iU) (L:=aB) Lu aC BH (fun b hb=>by rw [show ay BH=[] by kernel_rfl] at hb;cases hb)) (fun s=>by kernel_rfl)
theorem amf (s:lK) (hE:Ve s):∃s',MK s'∧ajG (an2 s) s' (kM s):=dn.fin WT Wp s hE
theorem ame (s:lK) (hE:Ve s):(kM s).out=s.out++s.l.map (·.1):=by
 have hk:=dn.vP WT Wp (fun s=>s.out++(s.l.drop s.i.toNat).map (·.1)) (fun s hI=>by
  obtain ⟨h0,h1,h2,h3,h4⟩:=hI
  show bY _ _ (abk s)
  unfold abk QW
  dsimp only [T.rd,T.rl]
  refine ai (fun c1=>?_) (fun c1=>?_)
  ·have c1:s.i<s.n:=by simpa using c1
   rw [aF (x:=s.i+1) (by omega) (by omega)]
   show _++_=_++_
   simp only
   rw [(aix h0 (show s.i<s.l.length by omega)).1]
   simp
  ·rfl) s hE
 obtain ⟨s',hI,q1,q2⟩:=amf s hE
 have q3:(kM s).i=(kM s).n:=q2
 have hn:(kM s).n=(s.l.length:Int):=hE.2.1
 have hl:(kM s).l=s.l:=rfl
 rw [q3,hn,hl,List.drop_eq_nil_of_le (by omega),hE.1] at hk
 simpa using hk
structure nG where
 l:List Ba
 n:Int
 i:Int
 out:List ByteArray
def aAZ (s:nG):List LV:=[.os 0 1 0 (List.length s.out),.xl iR s.l,.v (.int .i64 s.n),.v (.int .i64 s.i)]
def aAc (s:nG):List aS:=[⟨[],9,.vec .str s.out,false⟩]
noncomputable def BG:Code:=((ay (Tryz.f98.body.getD .skip))[4]?).getD .skip
def QV (s:nG):T (Rd nG):=
 .br (decide (s.i<s.n)) (.req (0≤s.i∧s.i<(List.length s.l:Int)) (.req (0+(List.length s.out)=List.length s.out∧((List.length s.out+List.length ([(X0 s.l s.i).1]):Nat):Int)*16≤2^47∧((List.length s.out+List.length ([(X0 s.l s.i).1]):Nat):Int)<2^62) (.req (0=0∧(List.length s.out+List.length ([(X0 s.l s.i).1]))=List.length (s.out++([(X0 s.l s.i).1]))) (.ok (.next {s with i:=(IntKind.i64.wrap (s.i+1)),out:=(s.out++([(X0 s.l s.i).1]))}))))) (.rl s.out (.ok (.stop (.exit 8) s)))
abbrev abj (s:nG):=(QV s).rd s
def Vb (s:nG):Prop:=s.i=0∧s.n=(s.l.length:Int)∧s.n≤1000∧(s.out.length:Int)≤10000
def MJ (s:nG):Prop:=0≤s.i∧s.i≤s.n∧s.n=(s.l.length:Int)∧s.n≤1000∧(s.out.length:Int)≤10000+s.i
def OC (s:nG):Nat:=(s.n-s.i).toNat
def ajF (x:Ex) (_ s':nG):Prop:=x=.exit 8∧s'.i=s'.n
theorem ayd:∀s,Vb s→MJ s:=by
 intro s h
 obtain ⟨h0,h1,h2,h3⟩:=h
 exact ⟨by omega,by omega,h1,h2,by omega⟩
theorem atS (s:nG) (hI:MJ s):bY (fun s'=>MJ s'∧OC s'<OC s) (fun x s'=>ajF x s s') (abj s):=by
 unfold abj QV
 dsimp only [T.rd,T.rl]
 obtain ⟨h0,h1,h2,h3,h4⟩:=hI
 refine ai (fun c1=>?_) (fun c1=>?_)
 ·have c1:s.i<s.n:=by simpa using c1
  rw [aF (x:=s.i+1) (by omega) (by omega)]
  exact ⟨⟨by simp only;omega,by simp only;omega,h2,h3,by simp only [List.length_append,List.length_cons,List.length_nil];omega⟩,by simp only [OC];omega⟩
 ·have c1:s.n≤s.i:=by simpa using c1
  exact ⟨rfl,by omega⟩
def ER:dn nG:=⟨0,80,[3,67,68,69],[],aAZ,aAc,fun v b=>⟨bf iR (v.getD 1 .junk),gI (v.getD 2 .junk),gI (v.getD 3 .junk),jm .str (aV b 0)⟩,QV,fun s r=> {r with l:=s.l,n:=s.n},fun s=>s,fun _ s=>s,[.exit 8],Vb,MJ,OC⟩
abbrev mY:=ER.run
abbrev an1:=ER.lU
abbrev av9:=ER.q
theorem as1 (s:nG) (hI:MJ s):(QV s).all (fun _=>True):=by
 refine ⟨fun c1=>⟨?_,?_,?_,trivial⟩,fun c1=>⟨⟨rfl,rfl⟩,trivial⟩⟩
 all_goals ((obtain ⟨h0,h1,h2,h3,h4⟩:=hI;(try simp only [decide_eq_true_eq] at c1);first|omega|(refine ⟨by omega,?_,?_⟩<;>simp only [List.length_cons,List.length_nil]<;>omega) |(simp only [List.length_append,List.length_cons,List.length_nil];omega) |exact ⟨rfl,by simp⟩ |exact ⟨rfl,rfl⟩))
theorem WS:ER.Ok:=⟨fun s=>by kernel_rfl,fun s=>by kernel_rfl,fun s=>rfl,fun s t r=>rfl,fun s=>rfl,fun s=>by kernel_rfl⟩
theorem Wn:ER.Pf (ajF):=⟨ayd,fun _ _=>rfl,atS,as1⟩
theorem ald:bG Tryz.prog aT (AN 0) (.loop BG) ER.lp:=dn.snd WS Wn (bI (Γ:=IQ) (K:=iU) (L:=aB) Lu aC BG (fun b hb=>by rw [show ay BG=[] by kernel_rfl] at hb;cases hb)) (fun s=>by kernel_rfl)
theorem amd (s:nG) (hE:Vb s):∃s',MJ s'∧ajF (an1 s) s' (mY s):=dn.fin WS Wn s hE
theorem amc (s:nG) (hE:Vb s):(mY s).out=s.out++s.l.map (·.1):=by
 have hk:=dn.vP WS Wn (fun s=>s.out++(s.l.drop s.i.toNat).map (·.1)) (fun s hI=>by
  obtain ⟨h0,h1,h2,h3,h4⟩:=hI
  show bY _ _ (abj s)
  unfold abj QV
  dsimp only [T.rd,T.rl]
  refine ai (fun c1=>?_) (fun c1=>?_)
  ·have c1:s.i<s.n:=by simpa using c1
   rw [aF (x:=s.i+1) (by omega) (by omega)]
   show _++_=_++_
   simp only
   rw [(aiz h0 (show s.i<s.l.length by omega)).1]
   simp
  ·rfl) s hE
 obtain ⟨s',hI,q1,q2⟩:=amd s hE
 have q3:(mY s).i=(mY s).n:=q2
 have hn:(mY s).n=(s.l.length:Int):=hE.2.1
 have hl:(mY s).l=s.l:=rfl
 rw [q3,hn,hl,List.drop_eq_nil_of_le (by omega),hE.1] at hk
 simpa using hk
def acF:List LV→T LV
 | [.agg [.xl (.pair .str (.pair (.int .i64) (.pair (.int .i64) (.pair (.int .i64) (.pair (.pair (.int .i64) (.int .i64)) (.pair (.int .i64) (.pair (.int .i64) (.pair (.int .i64) (.pair (.int .i64) (.int .i64)))))))))) cs,.xl (.str) os,.xl (.pair .str (.pair (.int .i64) (.pair (.int .i64) (.int .i64)))) ks,.xl (.pair .str (.pair (.int .i64) (.pair (.int .i64) (.pair (.int .i64) (.pair (.int .i64) (.pair (.int .i64) (.pair (.int .i64) (.int .i64)))))))) gs,.xl (.pair .str (.int .i64)) bs]]=> .req ((List.length cs:Int)≤1000∧(List.length os:Int)≤1000∧(List.length ks:Int)≤1000∧(List.length gs:Int)≤1000∧(List.length bs:Int)≤1000) (.ok (.xl .str (pX cs os ks gs bs)))
 |_=> .no
noncomputable def YD:List LV→T LV:=jR Tryz.prog Tryz.f98.params.toList acF
theorem amJ (cs:List Cd) (os:List ByteArray) (ks:List Ko) (gs:List Ch) (bs:List Ba):eX Tryz.prog aT (IQ) iU (fun i=>if i=3 then EW.lp else if i=8 then EU.lp else if i=13 then ET.lp else if i=18 then ES.lp else if i=23 then ER.lp else aB i) Tryz.f98 [.agg [.xl iJ cs,.xl .str os,.xl iQ ks,.xl gU gs,.xl iR bs]]=.req (0=0∧0=List.length ([]:List ByteArray)) (.req (awf (⟨cs,(List.length cs:Int),(0:Int),cs,os,ks,gs,bs,([]:List ByteArray)⟩:jv)) (.rl (iC (⟨cs,(List.length cs:Int),(0:Int),cs,os,ks,gs,bs,([]:List ByteArray)⟩:jv)).out (.req (awe (⟨os,(List.length os:Int),(0:Int),cs,os,ks,gs,bs,(iC (⟨cs,(List.length cs:Int),(0:Int),cs,os,ks,gs,bs,([]:List ByteArray)⟩:jv)).out⟩:jV)) (.rl (iW (⟨os,(List.length os:Int),(0:Int),cs,os,ks,gs,bs,(iC (⟨cs,(List.length cs:Int),(0:Int),cs,os,ks,gs,bs,([]:List ByteArray)⟩:jv)).out⟩:jV)).out (.req (awd (⟨ks,(List.length ks:Int),(0:Int),cs,os,ks,gs,bs,(iW (⟨os,(List.length os:Int),(0:Int),cs,os,ks,gs,bs,(iC (⟨cs,(List.length cs:Int),(0:Int),cs,os,ks,gs,bs,([]:List ByteArray)⟩:jv)).out⟩:jV)).out⟩:kH)) (.rl (jC (⟨ks,(List.length ks:Int),(0:Int),cs,os,ks,gs,bs,(iW (⟨os,(List.length os:Int),(0:Int),cs,os,ks,gs,bs,(iC (⟨cs,(List.length cs:Int),(0:Int),cs,os,ks,gs,bs,([]:List ByteArray)⟩:jv)).out⟩:jV)).out⟩:kH)).out (.req (awc (⟨gs,(List.length gs:Int),(0:Int),cs,os,ks,gs,bs,(jC (⟨ks,(List.length ks:Int),(0:Int),cs,os,ks,gs,bs,(iW (⟨os,(List.length os:Int),(0:Int),cs,os,ks,gs,bs,(iC (⟨cs,(List.length cs:Int),(0:Int),cs,os,ks,gs,bs,([]:List ByteArray)⟩:jv)).out⟩:jV)).out⟩:kH)).out⟩:lK)) (.rl (kM (⟨gs,(List.length gs:Int),(0:Int),cs,os,ks,gs,bs,(jC (⟨ks,(List.length ks:Int),(0:Int),cs,os,ks,gs,bs,(iW (⟨os,(List.length os:Int),(0:Int),cs,os,ks,gs,bs,(iC (⟨cs,(List.length cs:Int),(0:Int),cs,os,ks,gs,bs,([]:List ByteArray)⟩:jv)).out⟩:jV)).out⟩:kH)).out⟩:lK)).out (.req (av9 (⟨bs,(List.length bs:Int),(0:Int),(kM (⟨gs,(List.length gs:Int),(0:Int),cs,os,ks,gs,bs,(jC (⟨ks,(List.length ks:Int),(0:Int),cs,os,ks,gs,bs,(iW (⟨os,(List.length os:Int),(0:Int),cs,os,ks,gs,bs,(iC (⟨cs,(List.length cs:Int),(0:Int),cs,os,ks,gs,bs,([]:List ByteArray)⟩:jv)).out⟩:jV)).out⟩:kH)).out⟩:lK)).out⟩:nG)) (.req (0+(List.length (mY (⟨bs,(List.length bs:Int),(0:Int),(kM (⟨gs,(List.length gs:Int),(0:Int),cs,os,ks,gs,bs,(jC (⟨ks,(List.length ks:Int),(0:Int),cs,os,ks,gs,bs,(iW (⟨os,(List.length os:Int),(0:Int),cs,os,ks,gs,bs,(iC (⟨cs,(List.length cs:Int),(0:Int),cs,os,ks,gs,bs,([]:List ByteArray)⟩:jv)).out⟩:jV)).out⟩:kH)).out⟩:lK)).out⟩:nG)).out)≤List.length (mY (⟨bs,(List.length bs:Int),(0:Int),(kM (⟨gs,(List.length gs:Int),(0:Int),cs,os,ks,gs,bs,(jC (⟨ks,(List.length ks:Int),(0:Int),cs,os,ks,gs,bs,(iW (⟨os,(List.length os:Int),(0:Int),cs,os,ks,gs,bs,(iC (⟨cs,(List.length cs:Int),(0:Int),cs,os,ks,gs,bs,([]:List ByteArray)⟩:jv)).out⟩:jV)).out⟩:kH)).out⟩:lK)).out⟩:nG)).out) (.ok (.xl .str (((mY (⟨bs,(List.length bs:Int),(0:Int),(kM (⟨gs,(List.length gs:Int),(0:Int),cs,os,ks,gs,bs,(jC (⟨ks,(List.length ks:Int),(0:Int),cs,os,ks,gs,bs,(iW (⟨os,(List.length os:Int),(0:Int),cs,os,ks,gs,bs,(iC (⟨cs,(List.length cs:Int),(0:Int),cs,os,ks,gs,bs,([]:List ByteArray)⟩:jv)).out⟩:jV)).out⟩:kH)).out⟩:lK)).out⟩:nG)).out.drop 0).take (List.length (mY (⟨bs,(List.length bs:Int),(0:Int),(kM (⟨gs,(List.length gs:Int),(0:Int),cs,os,ks,gs,bs,(jC (⟨ks,(List.length ks:Int),(0:Int),cs,os,ks,gs,bs,(iW (⟨os,(List.length os:Int),(0:Int),cs,os,ks,gs,bs,(iC (⟨cs,(List.length cs:Int),(0:Int),cs,os,ks,gs,bs,([]:List ByteArray)⟩:jv)).out⟩:jV)).out⟩:kH)).out⟩:lK)).out⟩:nG)).out)))))))))))))):=by kernel_rfl
theorem arG:Valid Tryz.prog aT 98 YD:=aJ Tryz.func98 rfl Lu aC (L:=(fun i=>if i=3 then EW.lp else if i=8 then EU.lp else if i=13 then ET.lp else if i=18 then ES.lp else if i=23 then ER.lp else aB i)) (fun b hb=>by
 rw [show ay _=[BL,BJ,BI,BH,BG] by kernel_rfl] at hb
 simp only [List.mem_cons,List.not_mem_nil,or_false] at hb
 rcases hb with rfl|rfl|rfl|rfl|rfl
 ·exact alh
 ·exact alg
 ·exact alf
 ·exact ale
 ·exact ald) (fun args lv h=>by
 unfold acF at h
 split at h
 ·simp only [canL,canX]
  rw [amJ]
  rename_i cs os ks gs bs
  obtain ⟨⟨hc,ho,hk,hg,hb⟩,rfl⟩:=h
  have hE0:Vh ⟨cs,(List.length cs:Int),(0:Int),cs,os,ks,gs,bs,([]:List ByteArray)⟩:=⟨rfl,rfl,hc,by simp only;decide⟩
  have o0:=amk _ hE0
  refine ⟨⟨rfl,rfl⟩,⟨hE0,rfl,rfl⟩,?_⟩
  generalize (iC ⟨cs,(List.length cs:Int),(0:Int),cs,os,ks,gs,bs,([]:List ByteArray)⟩).out=r0 at*
  have o0:r0=([]:List ByteArray)++cs.map (·.1):=o0
  have l0:(List.length r0:Int)≤1000:=by rw [o0];simp only [List.length_append,List.length_map,List.length_nil];omega
  have hE1:Vg ⟨os,(List.length os:Int),(0:Int),cs,os,ks,gs,bs,r0⟩:=⟨rfl,rfl,ho,by simp only;omega⟩
  have o1:=ami _ hE1
  refine ⟨⟨rfl,rfl⟩,⟨hE1,rfl,rfl⟩,?_⟩
  generalize (iW ⟨os,(List.length os:Int),(0:Int),cs,os,ks,gs,bs,r0⟩).out=r1 at*
  have o1:r1=r0++os:=o1
  have l1:(List.length r1:Int)≤2000:=by rw [o1];simp only [List.length_append];omega
  have hE2:Vf ⟨ks,(List.length ks:Int),(0:Int),cs,os,ks,gs,bs,r1⟩:=⟨rfl,rfl,hk,by simp only;omega⟩
  have o2:=amg _ hE2
  refine ⟨⟨rfl,rfl⟩,⟨hE2,rfl,rfl⟩,?_⟩
  generalize (jC ⟨ks,(List.length ks:Int),(0:Int),cs,os,ks,gs,bs,r1⟩).out=r2 at*
  have o2:r2=r1++ks.map (·.1):=o2
  have l2:(List.length r2:Int)≤3000:=by rw [o2];simp only [List.length_append,List.length_map];omega
  have hE3:Ve ⟨gs,(List.length gs:Int),(0:Int),cs,os,ks,gs,bs,r2⟩:=⟨rfl,rfl,hg,by simp only;omega⟩
  have o3:=ame _ hE3
  refine ⟨⟨rfl,rfl⟩,⟨hE3,rfl,rfl⟩,?_⟩
  generalize (kM ⟨gs,(List.length gs:Int),(0:Int),cs,os,ks,gs,bs,r2⟩).out=r3 at*
  have o3:r3=r2++gs.map (·.1):=o3
  have l3:(List.length r3:Int)≤4000:=by rw [o3];simp only [List.length_append,List.length_map];omega
  have hE4:Vb ⟨bs,(List.length bs:Int),(0:Int),r3⟩:=⟨rfl,rfl,hb,by simp only;omega⟩
  have o4:=amc _ hE4
  refine ⟨⟨rfl,rfl⟩,⟨hE4,rfl,rfl⟩,?_⟩
  generalize (mY ⟨bs,(List.length bs:Int),(0:Int),r3⟩).out=r4 at*
  have o4:r4=r3++bs.map (·.1):=o4
  have l4:(List.length r4:Int)≤5000:=by rw [o4];simp only [List.length_append,List.length_map];omega
  refine ⟨by omega,?_⟩
  show LV.xl _ _=_
  rw [List.drop_zero,List.take_of_length_le (by omega),o4,o3,o2,o1,o0,List.nil_append]
  rfl
 ·cases h)
end Go.Proofs.YtlihnbimgclogaaGreatDoor
namespace Go.Proofs.YtlihnbimgclogaaGreatDoor
open Go.Sx
structure jA where
 r:Bool
 l:List Cd
 n:Int
 i:Int
 aH:List Cd
 aY:List ByteArray
 aQ:List Ko
 aI:List Ch
 dA:List Ba
def aAI (s:jA):List LV:=[.own 0 0,.v (.bool s.r),.xl iJ s.l,.v (.int .i64 s.n),.v (.int .i64 s.i)]
def azV (s:jA):List aS:=[⟨[.xl iJ s.aH,.xl .str s.aY,.xl iQ s.aQ,.xl gU s.aI,.xl iR s.dA],28,.cl,false⟩]
noncomputable def Bz:Code:=((ay (Tryz.f100.body.getD .skip))[0]?).getD .skip
def Zo (s:jA):T (Rd jA):=
 .br (decide (s.i<s.n)) (.req (0≤s.i∧s.i<(List.length s.l:Int)) (.req (0≤s.i) (.br (!(Vx s.i (iw s.l s.i))) (.ok (.stop (.ret) {s with r:=false})) (.ok (.next {s with i:=(IntKind.i64.wrap (s.i+1))}))))) (.ok (.stop (.exit 0) s))
abbrev aqx (s:jA):=(Zo s).rd s
def JE (s:jA) (j:Int):Bool:=Vx j (iw s.l j)
def akg (s:jA):Prop:=s.i=0∧0≤s.n∧s.n≤1000∧s.n=(s.l.length:Int)
def Me (s:jA):Prop:=0≤s.i∧s.i≤s.n∧s.n≤1000∧(s.n=(s.l.length:Int))∧∀j:Nat,(j:Int)<s.i→JE s j=true
def Oq (s:jA):Nat:=(s.n-s.i).toNat
def ajw (x:Ex) (_ s':jA):Prop:=(x=.exit 0∧∀j:Nat,(j:Int)<s'.n→JE s' j=true)∨(x=.ret∧s'.r=false∧∃j:Nat,(j:Int)<s'.n∧JE s' j=false)
theorem aw6:∀s,akg s→Me s:=by
 intro s h
 obtain ⟨h0,h1,h2,h3⟩:=h
 exact ⟨by omega,by omega,h2,h3,fun j hj=>by omega⟩
theorem arq (s:jA) (hI:Me s):bY (fun s'=>Me s'∧Oq s'<Oq s) (fun x s'=>ajw x s s') (aqx s):=by
 unfold aqx Zo
 dsimp only [T.rd,T.rl]
 obtain ⟨h0,h1,h2,h3,h4⟩:=hI
 refine ai (fun c1=>ai (fun c2=>?_) (fun c2=>?_)) (fun c1=>?_)
 ·have c1:s.i<s.n:=by simpa using c1
  refine .inr ⟨rfl,rfl,s.i.toNat,by simp only;omega,?_⟩
  rw [Int.toNat_of_nonneg (by omega)]
  have hg:JE s s.i=false:=by unfold JE;(first|(have c2:(!(Vx s.i (iw s.l s.i)))=false:=c2;simpa using c2) |(have c2:(!(Vx s.i (iw s.l s.i)))=true:=c2;simpa using c2))
  exact hg
 ·have c1:s.i<s.n:=by simpa using c1
  have hg:JE s s.i=true:=by unfold JE;(first|(have c2:(!(Vx s.i (iw s.l s.i)))=false:=c2;simpa using c2) |(have c2:(!(Vx s.i (iw s.l s.i)))=true:=c2;simpa using c2))
  rw [aF (x:=s.i+1) (by omega) (by omega)]
  refine ⟨⟨by simp only;omega,by simp only;omega,h2,h3,fun j hj=>?_⟩,by simp only [Oq];omega⟩
  by_cases hji:(j:Int)<s.i
  ·exact h4 j hji
  ·have:(j:Int)=s.i:=by simp only at hj;omega
   rw [this];exact hg
 ·have c1:s.n≤s.i:=by simpa using c1
  exact .inl ⟨rfl,fun j hj=>h4 j (by omega)⟩
def EM:dn jA:=⟨0,95,[1,2,13,14,15],[],aAI,azV,fun v b=>⟨J7 (v.getD 1 .junk),bf iJ (v.getD 2 .junk),gI (v.getD 3 .junk),gI (v.getD 4 .junk),bf iJ (bC (aV b 0) 0),bf .str (bC (aV b 0) 1),bf iQ (bC (aV b 0) 2),bf gU (bC (aV b 0) 3),bf iR (bC (aV b 0) 4)⟩,Zo,fun s r=> {r with l:=s.l,n:=s.n,aH:=s.aH,aY:=s.aY,aQ:=s.aQ,aI:=s.aI,dA:=s.dA},fun s=>s,fun _ s=>s,[.ret,.exit 0],akg,Me,Oq⟩
abbrev mX:=EM.run
abbrev abB:=EM.lU
abbrev avU:=EM.q
theorem asI (s:jA) (hI:Me s):(Zo s).all (fun _=>True):=by
 refine ⟨fun c1=>⟨?_,?_,fun _=>trivial,fun _=>trivial⟩,fun _=>trivial⟩
 all_goals ((obtain ⟨h0,h1,h2,h3,h4⟩:=hI;simp at c1;omega))
noncomputable def LG:Specs:=bn [(126,Yv),(127,vJ),(128,Yw)]
theorem TD:∀g S,LG g=some S→Valid Tryz.prog aT g S:=aX (l:=[(126,Yv),(127,vJ),(128,Yw)]) ⟨arx,NE,arz,trivial⟩
theorem agt:EM.Ok:=⟨fun s=>by kernel_rfl,fun s=>by kernel_rfl,fun s=>rfl,fun s t r=>rfl,fun s=>rfl,fun s=>by kernel_rfl⟩
theorem afD:EM.Pf (ajw):=⟨aw6,fun _ _=>rfl,arq,asI⟩
theorem ak0:bG Tryz.prog aT (AN 0) (.loop Bz) EM.lp:=dn.snd agt afD (bI (Γ:=LG) (K:=iU) (L:=aB) TD aC Bz (fun b hb=>by rw [show ay Bz=[] by kernel_rfl] at hb;cases hb)) (fun s=>by kernel_rfl)
theorem akz (s:jA) (hE:akg s):∃s',Me s'∧ajw (abB s) s' (mX s):=dn.fin agt afD s hE
structure kF where
 r:Bool
 l:List Ko
 n:Int
 i:Int
 aH:List Cd
 aY:List ByteArray
 aQ:List Ko
 aI:List Ch
 dA:List Ba
 cards:List Int
def aAH (s:kF):List LV:=[.own 0 0,.v (.bool s.r),.om 1,.xl iQ s.l,.v (.int .i64 s.n),.v (.int .i64 s.i)]
def azU (s:kF):List aS:=[⟨[.xl iJ s.aH,.xl .str s.aY,.xl iQ s.aQ,.xl gU s.aI,.xl iR s.dA],28,.cl,false⟩,⟨[],183,.st (.int .i64) s.cards,false⟩]
noncomputable def Bv:Code:=((ay (Tryz.f100.body.getD .skip))[1]?).getD .skip
def Zn (s:kF):T (Rd kF):=
 .br (decide (s.i<s.n)) (.req (0≤s.i∧s.i<(List.length s.l:Int)) (.br ((!(inB (Kv s.l s.i).2.1 (0:Int) (IntKind.i64.wrap ((List.length s.aY:Int)-1)))) ||((!(inB (Kv s.l s.i).2.2.1 (1:Int) (9:Int))) ||((!(inB (Kv s.l s.i).2.2.2 (1:Int) (1000000:Int))) ||(List.contains s.cards (Kv s.l s.i).2.2.2)))) (.ok (.stop (.ret) {s with r:=false})) (.req (List.contains s.cards (Kv s.l s.i).2.2.2=false) (.ok (.next {s with i:=(IntKind.i64.wrap (s.i+1)),cards:=(s.cards++[(Kv s.l s.i).2.2.2])}))))) (.ok (.stop (.exit 2) s))
abbrev aqw (s:kF):=(Zn s).rd s
def JD (s:kF) (j:Int):Bool:=koV s.aY.length (Kv s.l j)&&!(((s.l.take j.toNat).map (·.2.2.2)).contains (Kv s.l j).2.2.2)
def akf (s:kF):Prop:=s.i=0∧s.cards=[]∧s.n=(s.l.length:Int)∧s.n≤1000∧(s.aY.length:Int)≤1000
def Md (s:kF):Prop:=0≤s.i∧s.i≤s.n∧s.n=(s.l.length:Int)∧s.n≤1000∧((s.aY.length:Int)≤1000)∧s.cards=(s.l.take s.i.toNat).map (·.2.2.2)∧∀j:Nat,(j:Int)<s.i→JD s j=true
def Oo (s:kF):Nat:=(s.n-s.i).toNat
def ajv (x:Ex) (_ s':kF):Prop:=(x=.exit 2∧∀j:Nat,(j:Int)<s'.n→JD s' j=true)∨(x=.ret∧s'.r=false∧∃j:Nat,(j:Int)<s'.n∧JD s' j=false)
theorem aw5:∀s,akf s→Md s:=by
 intro s h
 obtain ⟨h0,h1,h2,h3,h4⟩:=h
 exact ⟨by omega,by omega,h2,h3,h4,by rw [h0,h1];rfl,fun j hj=>by omega⟩
theorem arp (s:kF) (hI:Md s):bY (fun s'=>Md s'∧Oo s'<Oo s) (fun x s'=>ajv x s s') (aqw s):=by
 unfold aqw Zn
 dsimp only [T.rd,T.rl]
 obtain ⟨h0,h1,h2,h3,h4,h5,h6⟩:=hI
 refine ai (fun c1=>ai (fun c2=>?_) (fun c2=>?_)) (fun c1=>?_)
 ·have c1:s.i<s.n:=by simpa using c1
  refine .inr ⟨rfl,rfl,s.i.toNat,by simp only;omega,?_⟩
  rw [Int.toNat_of_nonneg h0]
  have hg:JD s s.i=false:=by
   unfold JD
   (rw [aF (by omega) (by omega),h5] at c2;unfold koV;revert c2;generalize inB (Kv s.l s.i).2.1 _ _=a;generalize inB (Kv s.l s.i).2.2.1 _ _=b;generalize inB (Kv s.l s.i).2.2.2 _ _=c;generalize List.contains (α:=Int) _ _=d;cases a<;>cases b<;>cases c<;>cases d<;>simp)
  exact hg
 ·have c1:s.i<s.n:=by simpa using c1
  have hg:JD s s.i=true:=by
   unfold JD
   (rw [aF (by omega) (by omega),h5] at c2;unfold koV;revert c2;generalize inB (Kv s.l s.i).2.1 _ _=a;generalize inB (Kv s.l s.i).2.2.1 _ _=b;generalize inB (Kv s.l s.i).2.2.2 _ _=c;generalize List.contains (α:=Int) _ _=d;cases a<;>cases b<;>cases c<;>cases d<;>simp)
  rw [aF (x:=s.i+1) (by omega) (by omega)]
  refine ⟨⟨by simp only;omega,by simp only;omega,h2,h3,h4,?_,fun j hj=>?_⟩,by simp only [Oo];omega⟩
  ·simp only
   rw [(TL h0 (show s.i<s.l.length by omega)).2,h5]
   try rw [List.map_append]
   try rfl
  ·by_cases hji:(j:Int)<s.i
   ·exact h6 j hji
   ·have:(j:Int)=s.i:=by simp only at hj;omega
    rw [this];exact hg
 ·have c1:s.n≤s.i:=by simpa using c1
  exact .inl ⟨rfl,fun j hj=>h6 j (by omega)⟩
def EL:dn kF:=⟨0,95,[1,2,5,27,28,29],[],aAH,azU,fun v b=>⟨J7 (v.getD 1 .junk),bf iQ (v.getD 3 .junk),gI (v.getD 4 .junk),gI (v.getD 5 .junk),bf iJ (bC (aV b 0) 0),bf .str (bC (aV b 0) 1),bf iQ (bC (aV b 0) 2),bf gU (bC (aV b 0) 3),bf iR (bC (aV b 0) 4),gSe (.int .i64) (aV b 1)⟩,Zn,fun s r=> {r with l:=s.l,n:=s.n,aH:=s.aH,aY:=s.aY,aQ:=s.aQ,aI:=s.aI,dA:=s.dA},fun s=>s,fun _ s=>s,[.ret,.exit 2],akf,Md,Oo⟩
abbrev rH:=EL.run
abbrev abA:=EL.lU
abbrev avT:=EL.q
theorem asH (s:kF) (hI:Md s):(Zn s).all (fun _=>True):=by
 refine ⟨fun c1=>⟨?_,fun _=>trivial,fun c2=>⟨?_,trivial⟩⟩,fun _=>trivial⟩
 all_goals ((obtain ⟨h0,h1,h2,h3,h4,h5,h6⟩:=hI;first|(simp at c1;omega) |(simp only [Bool.or_eq_false_iff] at c2;exact c2.2.2.2)))
theorem ags:EL.Ok:=⟨fun s=>by kernel_rfl,fun s=>by kernel_rfl,fun s=>rfl,fun s t r=>rfl,fun s=>rfl,fun s=>by kernel_rfl⟩
theorem afC:EL.Pf (ajv):=⟨aw5,fun _ _=>rfl,arp,asH⟩
theorem akZ:bG Tryz.prog aT (AN 0) (.loop Bv) EL.lp:=dn.snd ags afC (bI (Γ:=LG) (K:=iU) (L:=aB) TD aC Bv (fun b hb=>by rw [show ay Bv=[] by kernel_rfl] at hb;cases hb)) (fun s=>by kernel_rfl)
theorem aky (s:kF) (hE:akf s):∃s',Md s'∧ajv (abA s) s' (rH s):=dn.fin ags afC s hE
structure mg where
 r:Bool
 l:List Ch
 n:Int
 i:Int
 aH:List Cd
 aY:List ByteArray
 aQ:List Ko
 aI:List Ch
 dA:List Ba
def aAG (s:mg):List LV:=[.own 0 0,.v (.bool s.r),.xl gU s.l,.v (.int .i64 s.n),.v (.int .i64 s.i)]
def azT (s:mg):List aS:=[⟨[.xl iJ s.aH,.xl .str s.aY,.xl iQ s.aQ,.xl gU s.aI,.xl iR s.dA],28,.cl,false⟩]
noncomputable def Bq:Code:=((ay (Tryz.f100.body.getD .skip))[2]?).getD .skip
def Zm (s:mg):T (Rd mg):=
 .br (decide (s.i<s.n)) (.req (0≤s.i∧s.i<(List.length s.l:Int)) (.req ((List.length s.aH:Int)≤1000∧(List.length s.aY:Int)≤1000) (.br (!(Qb s.aH.length s.aY.length (bU s.l s.i))) (.ok (.stop (.ret) {s with r:=false})) (.ok (.next {s with i:=(IntKind.i64.wrap (s.i+1))}))))) (.ok (.stop (.exit 4) s))
abbrev aqv (s:mg):=(Zm s).rd s
def JC (s:mg) (j:Int):Bool:=Qb s.aH.length s.aY.length (bU s.l j)
def ake (s:mg):Prop:=s.i=0∧0≤s.n∧s.n≤1000∧s.n=(s.l.length:Int)∧(s.aH.length:Int)≤1000∧(s.aY.length:Int)≤1000
def Mc (s:mg):Prop:=0≤s.i∧s.i≤s.n∧s.n≤1000∧(s.n=(s.l.length:Int)∧(s.aH.length:Int)≤1000∧(s.aY.length:Int)≤1000)∧∀j:Nat,(j:Int)<s.i→JC s j=true
def Om (s:mg):Nat:=(s.n-s.i).toNat
def aju (x:Ex) (_ s':mg):Prop:=(x=.exit 4∧∀j:Nat,(j:Int)<s'.n→JC s' j=true)∨(x=.ret∧s'.r=false∧∃j:Nat,(j:Int)<s'.n∧JC s' j=false)
theorem aw4:∀s,ake s→Mc s:=by
 intro s h
 obtain ⟨h0,h1,h2,h3⟩:=h
 exact ⟨by omega,by omega,h2,h3,fun j hj=>by omega⟩
theorem aro (s:mg) (hI:Mc s):bY (fun s'=>Mc s'∧Om s'<Om s) (fun x s'=>aju x s s') (aqv s):=by
 unfold aqv Zm
 dsimp only [T.rd,T.rl]
 obtain ⟨h0,h1,h2,h3,h4⟩:=hI
 refine ai (fun c1=>ai (fun c2=>?_) (fun c2=>?_)) (fun c1=>?_)
 ·have c1:s.i<s.n:=by simpa using c1
  refine .inr ⟨rfl,rfl,s.i.toNat,by simp only;omega,?_⟩
  rw [Int.toNat_of_nonneg (by omega)]
  have hg:JC s s.i=false:=by unfold JC;(first|(have c2:(!(Qb s.aH.length s.aY.length (bU s.l s.i)))=false:=c2;simpa using c2) |(have c2:(!(Qb s.aH.length s.aY.length (bU s.l s.i)))=true:=c2;simpa using c2))
  exact hg
 ·have c1:s.i<s.n:=by simpa using c1
  have hg:JC s s.i=true:=by unfold JC;(first|(have c2:(!(Qb s.aH.length s.aY.length (bU s.l s.i)))=false:=c2;simpa using c2) |(have c2:(!(Qb s.aH.length s.aY.length (bU s.l s.i)))=true:=c2;simpa using c2))
  rw [aF (x:=s.i+1) (by omega) (by omega)]
  refine ⟨⟨by simp only;omega,by simp only;omega,h2,h3,fun j hj=>?_⟩,by simp only [Om];omega⟩
  by_cases hji:(j:Int)<s.i
  ·exact h4 j hji
  ·have:(j:Int)=s.i:=by simp only at hj;omega
   rw [this];exact hg
 ·have c1:s.n≤s.i:=by simpa using c1
  exact .inl ⟨rfl,fun j hj=>h4 j (by omega)⟩
def EK:dn mg:=⟨0,95,[1,2,67,68,69],[],aAG,azT,fun v b=>⟨J7 (v.getD 1 .junk),bf gU (v.getD 2 .junk),gI (v.getD 3 .junk),gI (v.getD 4 .junk),bf iJ (bC (aV b 0) 0),bf .str (bC (aV b 0) 1),bf iQ (bC (aV b 0) 2),bf gU (bC (aV b 0) 3),bf iR (bC (aV b 0) 4)⟩,Zm,fun s r=> {r with l:=s.l,n:=s.n,aH:=s.aH,aY:=s.aY,aQ:=s.aQ,aI:=s.aI,dA:=s.dA},fun s=>s,fun _ s=>s,[.ret,.exit 4],ake,Mc,Om⟩
abbrev Ac:=EK.run
abbrev abz:=EK.lU
abbrev avS:=EK.q
theorem asG (s:mg) (hI:Mc s):(Zm s).all (fun _=>True):=by
 refine ⟨fun c1=>⟨?_,?_,fun _=>trivial,fun _=>trivial⟩,fun _=>trivial⟩
 all_goals ((obtain ⟨h0,h1,h2,h3,h4⟩:=hI;simp at c1;first|omega|exact h3.2))
theorem agr:EK.Ok:=⟨fun s=>by kernel_rfl,fun s=>by kernel_rfl,fun s=>rfl,fun s t r=>rfl,fun s=>rfl,fun s=>by kernel_rfl⟩
theorem afB:EK.Pf (aju):=⟨aw4,fun _ _=>rfl,aro,asG⟩
theorem akY:bG Tryz.prog aT (AN 0) (.loop Bq) EK.lp:=dn.snd agr afB (bI (Γ:=LG) (K:=iU) (L:=aB) TD aC Bq (fun b hb=>by rw [show ay Bq=[] by kernel_rfl] at hb;cases hb)) (fun s=>by kernel_rfl)
theorem akx (s:mg) (hE:ake s):∃s',Mc s'∧aju (abz s) s' (Ac s):=dn.fin agr afB s hE
structure o5 where
 r:Bool
 l:List Ba
 n:Int
 i:Int
 aH:List Cd
 aY:List ByteArray
 aQ:List Ko
 aI:List Ch
 dA:List Ba
def aAF (s:o5):List LV:=[.own 0 0,.v (.bool s.r),.xl iR s.l,.v (.int .i64 s.n),.v (.int .i64 s.i)]
def azS (s:o5):List aS:=[⟨[.xl iJ s.aH,.xl .str s.aY,.xl iQ s.aQ,.xl gU s.aI,.xl iR s.dA],28,.cl,false⟩]
noncomputable def Bo:Code:=((ay (Tryz.f100.body.getD .skip))[3]?).getD .skip
def Zl (s:o5):T (Rd o5):=
 .br (decide (s.i<s.n)) (.req (0≤s.i∧s.i<(List.length s.l:Int)) (.br (!(inB (X0 s.l s.i).2 (0:Int) (IntKind.i64.wrap ((List.length s.aI:Int)-1)))) (.ok (.stop (.ret) {s with r:=false})) (.ok (.next {s with i:=(IntKind.i64.wrap (s.i+1))})))) (.ok (.stop (.exit 6) s))
abbrev aqu (s:o5):=(Zl s).rd s
def JB (s:o5) (j:Int):Bool:=inB (X0 s.l j).2 0 (IntKind.i64.wrap ((List.length s.aI:Int)-1))
def akd (s:o5):Prop:=s.i=0∧0≤s.n∧s.n≤1000∧s.n=(s.l.length:Int)
def L9 (s:o5):Prop:=0≤s.i∧s.i≤s.n∧s.n≤1000∧(s.n=(s.l.length:Int))∧∀j:Nat,(j:Int)<s.i→JB s j=true
def Ol (s:o5):Nat:=(s.n-s.i).toNat
def ajt (x:Ex) (_ s':o5):Prop:=(x=.exit 6∧∀j:Nat,(j:Int)<s'.n→JB s' j=true)∨(x=.ret∧s'.r=false∧∃j:Nat,(j:Int)<s'.n∧JB s' j=false)
theorem aw3:∀s,akd s→L9 s:=by
 intro s h
 obtain ⟨h0,h1,h2,h3⟩:=h
 exact ⟨by omega,by omega,h2,h3,fun j hj=>by omega⟩
theorem arn (s:o5) (hI:L9 s):bY (fun s'=>L9 s'∧Ol s'<Ol s) (fun x s'=>ajt x s s') (aqu s):=by
 unfold aqu Zl
 dsimp only [T.rd,T.rl]
 obtain ⟨h0,h1,h2,h3,h4⟩:=hI
 refine ai (fun c1=>ai (fun c2=>?_) (fun c2=>?_)) (fun c1=>?_)
 ·have c1:s.i<s.n:=by simpa using c1
  refine .inr ⟨rfl,rfl,s.i.toNat,by simp only;omega,?_⟩
  rw [Int.toNat_of_nonneg (by omega)]
  have hg:JB s s.i=false:=by unfold JB;(first|(have c2:(!(inB (X0 s.l s.i).2 0 (IntKind.i64.wrap ((List.length s.aI:Int)-1))))=false:=c2;simpa using c2) |(have c2:(!(inB (X0 s.l s.i).2 0 (IntKind.i64.wrap ((List.length s.aI:Int)-1))))=true:=c2;simpa using c2))
  exact hg
 ·have c1:s.i<s.n:=by simpa using c1
  have hg:JB s s.i=true:=by unfold JB;(first|(have c2:(!(inB (X0 s.l s.i).2 0 (IntKind.i64.wrap ((List.length s.aI:Int)-1))))=false:=c2;simpa using c2) |(have c2:(!(inB (X0 s.l s.i).2 0 (IntKind.i64.wrap ((List.length s.aI:Int)-1))))=true:=c2;simpa using c2))
  rw [aF (x:=s.i+1) (by omega) (by omega)]
  refine ⟨⟨by simp only;omega,by simp only;omega,h2,h3,fun j hj=>?_⟩,by simp only [Ol];omega⟩
  by_cases hji:(j:Int)<s.i
  ·exact h4 j hji
  ·have:(j:Int)=s.i:=by simp only at hj;omega
   rw [this];exact hg
 ·have c1:s.n≤s.i:=by simpa using c1
  exact .inl ⟨rfl,fun j hj=>h4 j (by omega)⟩
def EJ:dn o5:=⟨0,95,[1,2,79,80,81],[],aAF,azS,fun v b=>⟨J7 (v.getD 1 .junk),bf iR (v.getD 2 .junk),gI (v.getD 3 .junk),gI (v.getD 4 .junk),bf iJ (bC (aV b 0) 0),bf .str (bC (aV b 0) 1),bf iQ (bC (aV b 0) 2),bf gU (bC (aV b 0) 3),bf iR (bC (aV b 0) 4)⟩,Zl,fun s r=> {r with l:=s.l,n:=s.n,aH:=s.aH,aY:=s.aY,aQ:=s.aQ,aI:=s.aI,dA:=s.dA},fun s=>s,fun _ s=>s,[.ret,.exit 6],akd,L9,Ol⟩
abbrev ZY:=EJ.run
abbrev aby:=EJ.lU
abbrev avR:=EJ.q
theorem asF (s:o5) (hI:L9 s):(Zl s).all (fun _=>True):=by
 refine ⟨fun c1=>⟨?_,fun _=>trivial,fun _=>trivial⟩,fun _=>trivial⟩
 ·(obtain ⟨h0,h1,h2,h3,h4⟩:=hI;simp at c1;omega)
theorem agq:EJ.Ok:=⟨fun s=>by kernel_rfl,fun s=>by kernel_rfl,fun s=>rfl,fun s t r=>rfl,fun s=>rfl,fun s=>by kernel_rfl⟩
theorem afA:EJ.Pf (ajt):=⟨aw3,fun _ _=>rfl,arn,asF⟩
theorem akX:bG Tryz.prog aT (AN 0) (.loop Bo) EJ.lp:=dn.snd agq afA (bI (Γ:=LG) (K:=iU) (L:=aB) TD aC Bo (fun b hb=>by rw [show ay Bo=[] by kernel_rfl] at hb;cases hb)) (fun s=>by kernel_rfl)
theorem akw (s:o5) (hE:akd s):∃s',L9 s'∧ajt (aby s) s' (ZY s):=dn.fin agq afA s hE
def acn:List LV→T LV
 | [.agg [.xl (.pair .str (.pair (.int .i64) (.pair (.int .i64) (.pair (.int .i64) (.pair (.pair (.int .i64) (.int .i64)) (.pair (.int .i64) (.pair (.int .i64) (.pair (.int .i64) (.pair (.int .i64) (.int .i64)))))))))) cs,.xl (.str) os,.xl (.pair .str (.pair (.int .i64) (.pair (.int .i64) (.int .i64)))) ks,.xl (.pair .str (.pair (.int .i64) (.pair (.int .i64) (.pair (.int .i64) (.pair (.int .i64) (.pair (.int .i64) (.pair (.int .i64) (.int .i64)))))))) gs,.xl (.pair .str (.int .i64)) bs]]=> .req ((List.length cs:Int)≤1000∧(List.length os:Int)≤1000∧(List.length ks:Int)≤1000∧(List.length gs:Int)≤1000∧(List.length bs:Int)≤1000) (.ok (.v (.bool (vpB cs os ks gs bs))))
 |_=> .no
noncomputable def Yu:List LV→T LV:=jR Tryz.prog Tryz.f100.params.toList acn
theorem amq (cs:List Cd) (os:List ByteArray) (ks:List Ko) (gs:List Ch) (bs:List Ba):eX Tryz.prog aT (LG) iU (fun i=>if i=2 then EM.lp else if i=9 then EL.lp else if i=16 then EK.lp else if i=22 then EJ.lp else aB i) Tryz.f100 [.agg [.xl iJ cs,.xl .str os,.xl iQ ks,.xl gU gs,.xl iR bs]]=.req (avU (⟨false,cs,(List.length cs:Int),(0:Int),cs,os,ks,gs,bs⟩:jA)) (.br (lH (abB (⟨false,cs,(List.length cs:Int),(0:Int),cs,os,ks,gs,bs⟩:jA)) (.ret)) (.ok (.v (.bool (mX (⟨false,cs,(List.length cs:Int),(0:Int),cs,os,ks,gs,bs⟩:jA)).r))) (.req (avT (⟨(mX (⟨false,cs,(List.length cs:Int),(0:Int),cs,os,ks,gs,bs⟩:jA)).r,ks,(List.length ks:Int),(0:Int),cs,os,ks,gs,bs,([]:List Int)⟩:kF)) (.br (lH (abA (⟨(mX (⟨false,cs,(List.length cs:Int),(0:Int),cs,os,ks,gs,bs⟩:jA)).r,ks,(List.length ks:Int),(0:Int),cs,os,ks,gs,bs,([]:List Int)⟩:kF)) (.ret)) (.ok (.v (.bool (rH (⟨(mX (⟨false,cs,(List.length cs:Int),(0:Int),cs,os,ks,gs,bs⟩:jA)).r,ks,(List.length ks:Int),(0:Int),cs,os,ks,gs,bs,([]:List Int)⟩:kF)).r))) (.req (avS (⟨(rH (⟨(mX (⟨false,cs,(List.length cs:Int),(0:Int),cs,os,ks,gs,bs⟩:jA)).r,ks,(List.length ks:Int),(0:Int),cs,os,ks,gs,bs,([]:List Int)⟩:kF)).r,gs,(List.length gs:Int),(0:Int),cs,os,ks,gs,bs⟩:mg)) (.br (lH (abz (⟨(rH (⟨(mX (⟨false,cs,(List.length cs:Int),(0:Int),cs,os,ks,gs,bs⟩:jA)).r,ks,(List.length ks:Int),(0:Int),cs,os,ks,gs,bs,([]:List Int)⟩:kF)).r,gs,(List.length gs:Int),(0:Int),cs,os,ks,gs,bs⟩:mg)) (.ret)) (.ok (.v (.bool (Ac (⟨(rH (⟨(mX (⟨false,cs,(List.length cs:Int),(0:Int),cs,os,ks,gs,bs⟩:jA)).r,ks,(List.length ks:Int),(0:Int),cs,os,ks,gs,bs,([]:List Int)⟩:kF)).r,gs,(List.length gs:Int),(0:Int),cs,os,ks,gs,bs⟩:mg)).r))) (.req (avR (⟨(Ac (⟨(rH (⟨(mX (⟨false,cs,(List.length cs:Int),(0:Int),cs,os,ks,gs,bs⟩:jA)).r,ks,(List.length ks:Int),(0:Int),cs,os,ks,gs,bs,([]:List Int)⟩:kF)).r,gs,(List.length gs:Int),(0:Int),cs,os,ks,gs,bs⟩:mg)).r,bs,(List.length bs:Int),(0:Int),cs,os,ks,gs,bs⟩:o5)) (.br (lH (aby (⟨(Ac (⟨(rH (⟨(mX (⟨false,cs,(List.length cs:Int),(0:Int),cs,os,ks,gs,bs⟩:jA)).r,ks,(List.length ks:Int),(0:Int),cs,os,ks,gs,bs,([]:List Int)⟩:kF)).r,gs,(List.length gs:Int),(0:Int),cs,os,ks,gs,bs⟩:mg)).r,bs,(List.length bs:Int),(0:Int),cs,os,ks,gs,bs⟩:o5)) (.ret)) (.ok (.v (.bool (ZY (⟨(Ac (⟨(rH (⟨(mX (⟨false,cs,(List.length cs:Int),(0:Int),cs,os,ks,gs,bs⟩:jA)).r,ks,(List.length ks:Int),(0:Int),cs,os,ks,gs,bs,([]:List Int)⟩:kF)).r,gs,(List.length gs:Int),(0:Int),cs,os,ks,gs,bs⟩:mg)).r,bs,(List.length bs:Int),(0:Int),cs,os,ks,gs,bs⟩:o5)).r))) (.ok (.v (.bool true)))))))))):=by kernel_rfl
theorem arw:Valid Tryz.prog aT 100 Yu:=aJ Tryz.func100 rfl TD aC (L:=(fun i=>if i=2 then EM.lp else if i=9 then EL.lp else if i=16 then EK.lp else if i=22 then EJ.lp else aB i)) (fun b hb=>by
 rw [show ay _=[Bz,Bv,Bq,Bo] by kernel_rfl] at hb
 simp only [List.mem_cons,List.not_mem_nil,or_false] at hb
 rcases hb with rfl|rfl|rfl|rfl
 ·exact ak0
 ·exact akZ
 ·exact akY
 ·exact akX) (fun args lv h=>by
 unfold acn at h
 split at h
 ·simp only [canL,canX]
  rw [amq]
  rename_i cs os ks gs bs
  obtain ⟨⟨hc,ho,hk,hg,hb⟩,rfl⟩:=h
  refine CB ⟨⟨rfl,by simp only;omega,hc,rfl⟩,rfl,rfl⟩ (fun hE0=>?_)
  obtain ⟨s',_,hq⟩:=akz _ hE0.1
  rcases hq with ⟨q1,q2⟩ |⟨q1,q2,j,q3,q4⟩
  rotate_left
  ·rw [q1,q2]
   refine ⟨fun _=>congrArg (fun z=>LV.v (.bool z)) ?_,fun h=>by cases h⟩
   unfold vpB
   rw [Hf (f:=fun j=>Vx j (iw cs j)) j q3 q4]
   rfl
  rw [q1]
  refine ⟨fun h=>(by cases h),fun _=>?_⟩
  have g0:Kq cs.length (fun j=>Vx j (iw cs j))=true:=iD.2 q2
  refine CB ⟨⟨rfl,rfl,rfl,hk,ho⟩,rfl,rfl⟩ (fun hE1=>?_)
  obtain ⟨s',_,hq⟩:=aky _ hE1.1
  rcases hq with ⟨q1,q2⟩ |⟨q1,q2,j,q3,q4⟩
  rotate_left
  ·rw [q1,q2]
   refine ⟨fun _=>congrArg (fun z=>LV.v (.bool z)) ?_,fun h=>by cases h⟩
   unfold vpB
   have hn:(ks.all (koV os.length)&&once (ks.map (·.2.2.2)))=false:=by
    rw [Bool.eq_false_iff];intro hx
    have:=(tZ (d:=(emp,0,0,0))).2 hx j q3
    exact Bool.noConfusion (this.symm.trans q4)
   rw [g0,Bool.true_and,←Bool.and_assoc,hn]
   rfl
  rw [q1]
  refine ⟨fun h=>(by cases h),fun _=>?_⟩
  have g1:(ks.all (koV os.length)&&once (ks.map (·.2.2.2)))=true:=(tZ (d:=(emp,0,0,0))).1 q2
  refine CB ⟨⟨rfl,by simp only;omega,hg,rfl,hc,ho⟩,rfl,rfl⟩ (fun hE2=>?_)
  obtain ⟨s',_,hq⟩:=akx _ hE2.1
  rcases hq with ⟨q1,q2⟩ |⟨q1,q2,j,q3,q4⟩
  rotate_left
  ·rw [q1,q2]
   refine ⟨fun _=>congrArg (fun z=>LV.v (.bool z)) ?_,fun h=>by cases h⟩
   unfold vpB
   have hn:gs.all (Qb cs.length os.length)=false:=by
    rw [Bool.eq_false_iff];intro hx
    have:=(qE (d:=(emp,0,0,0,0,0,0,0))).2 hx j q3
    exact Bool.noConfusion (this.symm.trans q4)
   rw [g0,Bool.true_and,←Bool.and_assoc,g1,hn]
   rfl
  rw [q1]
  refine ⟨fun h=>(by cases h),fun _=>?_⟩
  have g2:gs.all (Qb cs.length os.length)=true:=(qE (d:=(emp,0,0,0,0,0,0,0))).1 q2
  have hw:=aF (x:=(List.length gs:Int)-1) (by omega) (by omega)
  refine CB ⟨⟨rfl,by simp only;omega,hb,rfl⟩,rfl,rfl⟩ (fun hE3=>?_)
  obtain ⟨s',_,hq⟩:=akw _ hE3.1
  rcases hq with ⟨q1,q2⟩ |⟨q1,q2,j,q3,q4⟩
  rotate_left
  ·rw [q1,q2]
   refine ⟨fun _=>congrArg (fun z=>LV.v (.bool z)) ?_,fun h=>by cases h⟩
   unfold vpB
   have hn:bs.all (fun b=>inB b.2 0 ((gs.length:Int)-1))=false:=by
    rw [Bool.eq_false_iff];intro hx
    have:=(qE (d:=(emp,0))).2 hx j q3
    have q4:inB (X0 bs j).2 0 (IntKind.i64.wrap ((List.length gs:Int)-1))=false:=q4
    rw [hw] at q4
    exact Bool.noConfusion (this.symm.trans q4)
   rw [g0,Bool.true_and,←Bool.and_assoc,g1,g2,hn]
   rfl
  rw [q1]
  refine ⟨fun h=>(by cases h),fun _=>?_⟩
  have g3:bs.all (fun b=>inB b.2 0 ((gs.length:Int)-1))=true:=(qE (d:=(emp,0))).1 (fun j hj=>by
   have:inB (X0 bs j).2 0 (IntKind.i64.wrap ((List.length gs:Int)-1))=true:=q2 j hj
   rw [hw] at this
   exact this)
  refine congrArg (fun z=>LV.v (.bool z)) ?_
  unfold vpB
  rw [g0,Bool.true_and,←Bool.and_assoc,g1,g2,g3]
  rfl
 ·cases h)
end Go.Proofs.YtlihnbimgclogaaGreatDoor
namespace Go.Proofs.YtlihnbimgclogaaGreatDoor
open Go.Sx
structure xM where
 r:Bool
 l:List ByteArray
 n:Int
 i:Int
 aH:List Cd
 aY:List ByteArray
 aQ:List Ko
 aI:List Ch
 dA:List Ba
 seen:List ByteArray
def aCr (s:xM):List LV:=[.own 0 0,.v (.bool s.r),.om 1,.xl .str s.l,.v (.int .i64 s.n),.v (.int .i64 s.i)]
def aCe (s:xM):List aS:=[⟨[.xl iJ s.aH,.xl .str s.aY,.xl iQ s.aQ,.xl gU s.aI,.xl iR s.dA],28,.cl,false⟩,⟨[],149,.st .str s.seen,false⟩]
noncomputable def Gl:Code:=((ay (Tryz.f53.body.getD .skip))[0]?).getD .skip
def akJ (s:xM):T (Rd xM):=
 .br (decide (s.i<s.n)) (.req (0≤s.i∧s.i<(List.length s.l:Int)) (.br ((!(nameB (gS s.l s.i))) ||(List.contains s.seen (gS s.l s.i))) (.ok (.stop (.ret) {s with r:=false})) (.req (List.contains s.seen (gS s.l s.i)=false) (.ok (.next {s with i:=(IntKind.i64.wrap (s.i+1)),seen:=(s.seen++[(gS s.l s.i)])}))))) (.ok (.stop (.exit 0) s))
abbrev ay9 (s:xM):=(akJ s).rd s
def Y6 (s:xM) (j:Int):Bool:=nameB (gS s.l j)&&!(((s.l.take j.toNat).map id).contains (gS s.l j))
def avV (s:xM):Prop:=s.i=0∧s.seen=[]∧s.n=(s.l.length:Int)∧s.n≤1000∧True
def aeg (s:xM):Prop:=0≤s.i∧s.i≤s.n∧s.n=(s.l.length:Int)∧s.n≤1000∧(True)∧s.seen=(s.l.take s.i.toNat).map id∧∀j:Nat,(j:Int)<s.i→Y6 s j=true
def aaw (s:xM):Nat:=(s.n-s.i).toNat
def avK (x:Ex) (_ s':xM):Prop:=(x=.exit 0∧∀j:Nat,(j:Int)<s'.n→Y6 s' j=true)∨(x=.ret∧s'.r=false∧∃j:Nat,(j:Int)<s'.n∧Y6 s' j=false)
theorem aBI:∀s,avV s→aeg s:=by
 intro s h
 obtain ⟨h0,h1,h2,h3,h4⟩:=h
 exact ⟨by omega,by omega,h2,h3,h4,by rw [h0,h1];rfl,fun j hj=>by omega⟩
theorem axn (s:xM) (hI:aeg s):bY (fun s'=>aeg s'∧aaw s'<aaw s) (fun x s'=>avK x s s') (ay9 s):=by
 unfold ay9 akJ
 dsimp only [T.rd,T.rl]
 obtain ⟨h0,h1,h2,h3,h4,h5,h6⟩:=hI
 refine ai (fun c1=>ai (fun c2=>?_) (fun c2=>?_)) (fun c1=>?_)
 ·have c1:s.i<s.n:=by simpa using c1
  refine .inr ⟨rfl,rfl,s.i.toNat,by simp only;omega,?_⟩
  rw [Int.toNat_of_nonneg h0]
  have hg:Y6 s s.i=false:=by
   unfold Y6
   (rw [h5] at c2;revert c2;generalize nameB _=a;generalize List.contains (α:=ByteArray) _ _=d;cases a<;>cases d<;>simp)
  exact hg
 ·have c1:s.i<s.n:=by simpa using c1
  have hg:Y6 s s.i=true:=by
   unfold Y6
   (rw [h5] at c2;revert c2;generalize nameB _=a;generalize List.contains (α:=ByteArray) _ _=d;cases a<;>cases d<;>simp)
  rw [aF (x:=s.i+1) (by omega) (by omega)]
  refine ⟨⟨by simp only;omega,by simp only;omega,h2,h3,h4,?_,fun j hj=>?_⟩,by simp only [aaw];omega⟩
  ·simp only
   rw [(aa4 h0 (show s.i<s.l.length by omega)).2,h5]
   try rw [List.map_append]
   try rfl
  ·by_cases hji:(j:Int)<s.i
   ·exact h6 j hji
   ·have:(j:Int)=s.i:=by simp only at hj;omega
    rw [this];exact hg
 ·have c1:s.n≤s.i:=by simpa using c1
  exact .inl ⟨rfl,fun j hj=>h6 j (by omega)⟩
def Vm:dn xM:=⟨0,61,[1,2,3,42,43,44],[],aCr,aCe,fun v b=>⟨J7 (v.getD 1 .junk),bf .str (v.getD 3 .junk),gI (v.getD 4 .junk),gI (v.getD 5 .junk),bf iJ (bC (aV b 0) 0),bf .str (bC (aV b 0) 1),bf iQ (bC (aV b 0) 2),bf gU (bC (aV b 0) 3),bf iR (bC (aV b 0) 4),gSe .str (aV b 1)⟩,akJ,fun s r=> {r with l:=s.l,n:=s.n,aH:=s.aH,aY:=s.aY,aQ:=s.aQ,aI:=s.aI,dA:=s.dA},fun s=>s,fun _ s=>s,[.ret,.exit 0],avV,aeg,aaw⟩
abbrev afg:=Vm.run
abbrev aiF:=Vm.lU
abbrev azN:=Vm.q
theorem axK (s:xM) (hI:aeg s):(akJ s).all (fun _=>True):=by
 refine ⟨fun c1=>⟨?_,fun _=>trivial,fun c2=>⟨?_,trivial⟩⟩,fun _=>trivial⟩
 all_goals ((obtain ⟨h0,h1,h2,h3,h4,h5,h6⟩:=hI;first|(simp at c1;omega) |(simp only [Bool.or_eq_false_iff] at c2;exact c2.2)))
noncomputable def aiu:Specs:=bn [(98,YD),(99,YO),(100,Yu)]
theorem aqe:∀g S,aiu g=some S→Valid Tryz.prog aT g S:=aX (l:=[(98,YD),(99,YO),(100,Yu)]) ⟨arG,arR,arw,trivial⟩
theorem apv:Vm.Ok:=⟨fun s=>by kernel_rfl,fun s=>by kernel_rfl,fun s=>rfl,fun s t r=>rfl,fun s=>rfl,fun s=>by kernel_rfl⟩
theorem apg:Vm.Pf (avK):=⟨aBI,fun _ _=>rfl,axn,axK⟩
theorem asq:bG Tryz.prog aT (AN 0) (.loop Gl) Vm.lp:=dn.snd apv apg (bI (Γ:=aiu) (K:=iU) (L:=aB) aqe aC Gl (fun b hb=>by rw [show ay Gl=[] by kernel_rfl] at hb;cases hb)) (fun s=>by kernel_rfl)
theorem asb (s:xM) (hE:avV s):∃s',aeg s'∧avK (aiF s) s' (afg s):=dn.fin apv apg s hE
def acr:List LV→T LV
 | [.agg [.xl (.pair .str (.pair (.int .i64) (.pair (.int .i64) (.pair (.int .i64) (.pair (.pair (.int .i64) (.int .i64)) (.pair (.int .i64) (.pair (.int .i64) (.pair (.int .i64) (.pair (.int .i64) (.int .i64)))))))))) cs,.xl (.str) os,.xl (.pair .str (.pair (.int .i64) (.pair (.int .i64) (.int .i64)))) ks,.xl (.pair .str (.pair (.int .i64) (.pair (.int .i64) (.pair (.int .i64) (.pair (.int .i64) (.pair (.int .i64) (.pair (.int .i64) (.int .i64)))))))) gs,.xl (.pair .str (.int .i64)) bs]]=> .ok (.v (.bool (iF cs os ks gs bs)))
 |_=> .no
noncomputable def Js:List LV→T LV:=jR Tryz.prog Tryz.f53.params.toList acr
theorem amu (cs:List Cd) (os:List ByteArray) (ks:List Ko) (gs:List Ch) (bs:List Ba):eX Tryz.prog aT (aiu) iU (fun i=>if i=5 then Vm.lp else aB i) Tryz.f53 [.agg [.xl iJ cs,.xl .str os,.xl iQ ks,.xl gU gs,.xl iR bs]]=.br ((decide ((List.length cs:Int)<1)) ||((decide ((List.length cs:Int)>16)) ||((decide ((List.length os:Int)>8)) ||((decide ((List.length ks:Int)>32)) ||((decide ((List.length gs:Int)>16)) ||(decide ((List.length bs:Int)>24))))))) (.ok (.v (.bool false))) (.req ((List.length cs:Int)≤1000∧(List.length os:Int)≤1000∧(List.length ks:Int)≤1000∧(List.length gs:Int)≤1000∧(List.length bs:Int)≤1000) (.req (azN (⟨false,(pX cs os ks gs bs),(List.length (pX cs os ks gs bs):Int),(0:Int),cs,os,ks,gs,bs,([]:List ByteArray)⟩:xM)) (.br (lH (aiF (⟨false,(pX cs os ks gs bs),(List.length (pX cs os ks gs bs):Int),(0:Int),cs,os,ks,gs,bs,([]:List ByteArray)⟩:xM)) (.ret)) (.ok (.v (.bool (afg (⟨false,(pX cs os ks gs bs),(List.length (pX cs os ks gs bs):Int),(0:Int),cs,os,ks,gs,bs,([]:List ByteArray)⟩:xM)).r))) (.req ((List.length cs:Int)≤1000∧(List.length os:Int)≤1000∧(List.length ks:Int)≤1000∧(List.length gs:Int)≤1000∧(List.length bs:Int)≤1000) (.ok (.v (.bool (vpB cs os ks gs bs)))))))):=by kernel_rfl
theorem aeH:Valid Tryz.prog aT 53 Js:=aJ Tryz.func53 rfl aqe aC (L:=(fun i=>if i=5 then Vm.lp else aB i)) (fun b hb=>by
 rw [show ay _=[Gl] by kernel_rfl] at hb
 simp only [List.mem_cons,List.not_mem_nil,or_false] at hb
 subst hb
 exact asq) (fun args lv h=>by
 unfold acr at h
 split at h
 ·simp only [canL,canX]
  rw [amu]
  rename_i cs os ks gs bs
  obtain rfl:=h
  refine ⟨fun c=>congrArg (fun z=>LV.v (.bool z)) ?_,fun c=>?_⟩
  ·rw [eq_comm,Bool.eq_false_iff]
   intro hx
   unfold iF at hx
   rw [Bool.and_eq_true,decide_eq_true_eq] at hx
   simp only [Bool.or_eq_true,decide_eq_true_eq] at c
   omega
  have hd:1≤cs.length∧cs.length≤16∧os.length≤8∧ks.length≤32∧gs.length≤16∧bs.length≤24:=by
   simp only [Bool.or_eq_false_iff,decide_eq_false_iff_not] at c
   omega
  have hs:iF cs os ks gs bs=(((pX cs os ks gs bs).all nameB&&once (pX cs os ks gs bs))&&vpB cs os ks gs bs):=by
   unfold iF
   rw [decide_eq_true hd,Bool.true_and,Bool.and_assoc]
  have hl:((pX cs os ks gs bs).length:Int)≤1000:=by
   unfold pX
   simp only [List.length_append,List.length_map]
   omega
  rw [hs]
  have hr:(List.length cs:Int)≤1000∧(List.length os:Int)≤1000∧(List.length ks:Int)≤1000∧(List.length gs:Int)≤1000∧(List.length bs:Int)≤1000:=by omega
  refine ⟨hr,?_⟩
  generalize pX cs os ks gs bs=l at*
  refine CB ⟨⟨rfl,rfl,rfl,hl,trivial⟩,rfl,rfl⟩ (fun hE=>?_)
  obtain ⟨s',_,hq⟩:=asb _ hE.1
  rcases hq with ⟨q1,q2⟩ |⟨q1,q2,j,q3,q4⟩
  ·rw [q1]
   have hk:=(tZ (d:=emp) (p:=nameB) (k:=id)).1 q2
   rw [List.map_id] at hk
   refine ⟨fun h=>(by cases h),fun _=>⟨hr,?_⟩⟩
   rw [hk,Bool.true_and]
   rfl
  ·rw [q1,q2]
   refine ⟨fun _=>congrArg (fun z=>LV.v (.bool z)) ?_,fun h=>by cases h⟩
   have hn:(l.all nameB&&once l)=false:=by
    rw [Bool.eq_false_iff];intro hx
    have:=(tZ (d:=emp) (p:=nameB) (k:=id)).2 (by rw [List.map_id];exact hx) j q3
    exact Bool.noConfusion (this.symm.trans q4)
   rw [hn]
   rfl
 ·cases h)
end Go.Proofs.YtlihnbimgclogaaGreatDoor
namespace Go.Proofs.YtlihnbimgclogaaGreatDoor
open Go.Sx
def acB:List LV→T LV
 | [.agg [.xl (.pair .str (.pair (.int .i64) (.pair (.int .i64) (.pair (.int .i64) (.pair (.pair (.int .i64) (.int .i64)) (.pair (.int .i64) (.pair (.int .i64) (.pair (.int .i64) (.pair (.int .i64) (.int .i64)))))))))) cs,.xl (.str) os,.xl (.pair .str (.pair (.int .i64) (.pair (.int .i64) (.int .i64)))) ks,.xl (.pair .str (.pair (.int .i64) (.pair (.int .i64) (.pair (.int .i64) (.pair (.int .i64) (.pair (.int .i64) (.pair (.int .i64) (.int .i64)))))))) gs,.xl (.pair .str (.int .i64)) bs],.v (.int .i64 c)]=> .ok (.fn 129 [.xq 1 (fun j=>([.v (.int .i64 c)]:List LV).getD j .junk),.xq 5 (fun j=>([.xl iJ cs,.xl .str os,.xl iQ ks,.xl gU gs,.xl iR bs]:List LV).getD j .junk)])
 |_=> .no
noncomputable def YA:List LV→T LV:=jR Tryz.prog Tryz.f104.params.toList acB
noncomputable def A7:Specs:=bn []
theorem Eu:∀g S,A7 g=some S→Valid Tryz.prog aT g S:=aX (l:=[]) trivial
noncomputable def aaS:Hand:=inl Tryz.prog aT A7 (jo Tryz.prog aT (A7) 20 2) 9
theorem ahI:cO Tryz.prog aT aaS:=bJ Eu (dw Eu) 9
theorem amF (cs:List Cd) (os:List ByteArray) (ks:List Ko) (gs:List Ch) (bs:List Ba) (c:Int):eX Tryz.prog aT (A7) aaS aB Tryz.f104 [.agg [.xl iJ cs,.xl .str os,.xl iQ ks,.xl gU gs,.xl iR bs],.v (.int .i64 c)]=.ok (.fn 129 [.xq 1 (fun j=>([.v (.int .i64 c)]:List LV).getD j .junk),.xq 5 (fun j=>([.xl iJ cs,.xl .str os,.xl iQ ks,.xl gU gs,.xl iR bs]:List LV).getD j .junk)]):=by kernel_rfl
theorem arD:Valid Tryz.prog aT 104 YA:=aJ Tryz.func104 rfl Eu ahI (bF (by kernel_rfl)) (fun args lv h=>by
 unfold acB at h
 split at h
 ·simp only [canL,canX]
  rw [amF]
  exact h
 ·cases h)
noncomputable def afn:Array Tmp×Code×Code:=((kz (Tryz.f103.body.getD .skip))[0]?).getD (#[],.skip,.skip)
noncomputable def axT:Array Tmp:=afn.1
noncomputable def ax5:Code:=afn.2.1
noncomputable def ax0:Code:=afn.2.2
structure pY where
 cs:List Cd
 os:List ByteArray
 ks:List Ko
 gs:List Ch
 bs:List Ba
 c:Int
 b0:Int
 b1:Bool
 st:LS
def aAU (s:pY):List LV:=[.vK 2,.xq 5 (fun j=>([.xl iJ s.cs,.xl .str s.os,.xl iQ s.ks,.xl gU s.gs,.xl iR s.bs]:List LV).getD j .junk),.v (.int .i64 s.c)]
noncomputable def az7 (s:pY):List aS:=[⟨[.v (.int .i64 s.b0)],3,.cl,false⟩,⟨[.v (.bool s.b1)],4,.cl,false⟩,⟨[.junk,.junk,.junk,.own 0 0,.own 1 0,.v (.tuple #[]),.junk,.v (.tuple #[]),.v (.tuple #[]),.v (.tuple #[]),.v (.tuple #[])],0,.lG axT ax5 ax0 s.st,false⟩]
noncomputable def Uj:Code:=((ay (Tryz.f129.body.getD .skip))[0]?).getD .skip
def KL (s:pY):T (Rd pY):=
 .br (decide (s.c≥0)) (.br (s.c==s.b0) (.ok (.stop (.ret) {s with b1:=true,st:=(.done (.ret))})) (.req (0≤s.c∧s.c<(List.length s.cs:Int)) (.ok (.next {s with c:=(iw s.cs s.c).2.1})))) (.ok (.stop (.exit 0) s))
abbrev LJ (s:pY):=(KL s).rd s
def akk (s:pY):Prop:=s.st=.ready∧upB s.cs=true∧s.c<(s.cs.length:Int)∧s.b1=false
def UZ (s:pY):Prop:=s.st=.ready∧upB s.cs=true∧s.c<(s.cs.length:Int)
def Oz (s:pY):Nat:=(s.c+1).toNat
def aq1 (x:Ex) (s s':pY):Prop:=(x=.ret∧s'.b1=true∧Vt s.cs s.b0 s.c=true)∨(x=.exit 0∧Vt s.cs s.b0 s.c=false)
theorem ax6:∀s,akk s→UZ s:=by
 intro s h
 obtain ⟨h0,h1,h2,h3⟩:=h
 exact ⟨h0,h1,h2⟩
theorem afv (s:pY) (hI:UZ s):bY (fun s'=>UZ s'∧Oz s'<Oz s) (fun x s'=>aq1 x s s') (LJ s):=by
 unfold LJ KL
 dsimp only [T.rd,T.rl]
 obtain ⟨h0,h1,h2⟩:=hI
 have hp:=agn (o:=s.b0) h1 h2
 refine ai (fun c1=>ai (fun c2=>?_) (fun c2=>?_)) (fun c1=>?_)
 ·have c1:0≤s.c:=by simpa using c1
  exact .inl ⟨rfl,rfl,by rw [hp,if_pos c1,c2];rfl⟩
 ·have c1:0≤s.c:=by simpa using c1
  have:=VE h1 c1 h2
  exact ⟨⟨h0,h1,by simp only;omega⟩,by simp only [Oz];omega⟩
 ·have c1:¬(0≤s.c):=by simpa using c1
  exact .inr ⟨rfl,by rw [hp,if_neg c1]⟩
noncomputable def JV:dn pY:=⟨3,18,[0,2,4],[],aAU,az7,fun v b=>⟨bf iJ (nN (v.getD 1 .junk) 0),bf .str (nN (v.getD 1 .junk) 1),bf iQ (nN (v.getD 1 .junk) 2),bf gU (nN (v.getD 1 .junk) 3),bf iR (nN (v.getD 1 .junk) 4),gI (v.getD 2 .junk),gI (bC (aV b 0) 0),J7 (bC (aV b 1) 0),.ready⟩,KL,fun s r=> {r with cs:=s.cs,os:=s.os,ks:=s.ks,gs:=s.gs,bs:=s.bs,b0:=s.b0},fun s=> {s with st:=.ready},fun x s=> {s with st:=(match x with| .ret=>(.done (.ret)) | .exit 0=> .ready|_=> .ready)},[.ret,.exit 0],akk,UZ,Oz⟩
noncomputable abbrev NZ:=JV.run
noncomputable abbrev PZ:=JV.lU
abbrev av6:=JV.q
theorem asV (s:pY) (hI:UZ s):(KL s).all (fun _=>True):=by
 refine ⟨fun c1=>⟨fun _=>trivial,fun c2=>⟨?_,trivial⟩⟩,fun _=>trivial⟩
 ·(obtain ⟨h0,h1,h2⟩:=hI;simp at c1 h2;exact ⟨c1,h2⟩)
theorem WO:JV.Ok:=⟨fun s=>by kernel_rfl,fun s=>by kernel_rfl,fun s=>rfl,fun s t r=>rfl,fun s=>rfl,fun s=>by kernel_rfl⟩
theorem Wi:JV.Pf (aq1):=⟨ax6,fun s h=>by
 obtain ⟨cs,os,ks,gs,bs,c,b0,b1,st⟩:=s
 have e:st=.ready:=h.1
 subst e
 rfl,afv,asV⟩
theorem ala:bG Tryz.prog aT (AN 3) (.loop Uj) JV.lp:=dn.snd WO Wi (aZ (Γ:=A7) (K:=aaS) (L:=(mP Tryz.prog aT A7 aaS 20 2)) Eu ahI Uj (fun b _=>cu Eu ahI 20 2 b)) (fun s=>by kernel_rfl)
theorem atE (s:pY) (hE:akk s):(PZ s=.ret∧(NZ s).b1=true∧Vt s.cs s.b0 s.c=true)∨(PZ s=.exit 0∧Vt s.cs s.b0 s.c=false):=by
 have hk:=dn.vP WO Wi (fun s=>Vt s.cs s.b0 s.c) (fun s hI=>by
  obtain ⟨h0,h1,h2⟩:=hI
  have hp:=agn (o:=s.b0) h1 h2
  show bY _ _ (LJ s)
  unfold LJ KL
  dsimp only [T.rd,T.rl]
  refine ai (fun c1=>ai (fun c2=>rfl) (fun c2=>?_)) (fun c1=>rfl)
  have c1:0≤s.c:=by simpa using c1
  show Vt _ _ _=Vt _ _ _
  rw [hp,if_pos c1,c2,Bool.false_or]) s hE
 have hk:Vt s.cs s.b0 (NZ s).c=Vt s.cs s.b0 s.c:=hk
 obtain ⟨s',hI,hf⟩:=dn.end_ WO Wi s hE
 have hq:=yG (afv s' hI) hf
 have hc:=yG (Pn:=fun _=>True) (Ps:=fun _ r=>r.cs=s'.cs∧r.b0=s'.b0∧r.c=s'.c) (r:=LJ s') (by
   unfold LJ KL
   dsimp only [T.rd,T.rl]
   exact ai (fun _=>ai (fun _=>⟨rfl,rfl,rfl⟩) (fun _=>trivial)) (fun _=>⟨rfl,rfl,rfl⟩)) hf
 obtain ⟨hc1,hc3,hc2⟩:=hc
 have e1:s.cs=s'.cs:=hc1
 have e2:s.b0=s'.b0:=hc3
 rw [←hk,hc2,e1,e2]
 exact hq
def ajo:List LV→T LV
 | [.fn 129 [.xq 1 q0,.xq 5 q1],.v (.int .i64 o)]=>(match ([q0 0]:List LV) with
  | [.v (.int .i64 c)]=>(match ([q1 0,q1 1,q1 2,q1 3,q1 4]:List LV) with
  | [.xl (.pair .str (.pair (.int .i64) (.pair (.int .i64) (.pair (.int .i64) (.pair (.pair (.int .i64) (.int .i64)) (.pair (.int .i64) (.pair (.int .i64) (.pair (.int .i64) (.pair (.int .i64) (.int .i64)))))))))) cs,.xl (.str) _,.xl (.pair .str (.pair (.int .i64) (.pair (.int .i64) (.int .i64)))) _,.xl (.pair .str (.pair (.int .i64) (.pair (.int .i64) (.pair (.int .i64) (.pair (.int .i64) (.pair (.int .i64) (.pair (.int .i64) (.int .i64)))))))) _,.xl (.pair .str (.int .i64)) _]=> .req (upB cs=true∧c<(List.length cs:Int)) (.ok (.v (.bool (Vt cs o c))))
  |_=> .no)
  |_=> .no)
 |_=> .no
noncomputable def ajb:List LV→T LV:=jR Tryz.prog Tryz.f103.params.toList ajo
noncomputable def ap4:Hand:=inl Tryz.prog aT A7 (dG 129 3 1 (JV.lp) (jo Tryz.prog aT (A7) 20 2)) 9
theorem ayL:cO Tryz.prog aT ap4:=bJ Eu (aP Tryz.func129 rfl (by kernel_rfl) ala (dw Eu)) 9
theorem aue (c:Int) (cs:List Cd) (os:List ByteArray) (ks:List Ko) (gs:List Ch) (bs:List Ba) (o:Int):eX Tryz.prog aT (A7) ap4 aB Tryz.f103 [.fn 129 [.xq 1 (fun j=>([.v (.int .i64 c)]:List LV).getD j .junk),.xq 5 (fun j=>([.xl iJ cs,.xl .str os,.xl iQ ks,.xl gU gs,.xl iR bs]:List LV).getD j .junk)],.v (.int .i64 o)]=.req (av6 (⟨cs,os,ks,gs,bs,c,o,false,.ready⟩:pY)) (.br (lH (PZ (⟨cs,os,ks,gs,bs,c,o,false,.ready⟩:pY)) (.ret)) (.ok (.v (.bool (NZ (⟨cs,os,ks,gs,bs,c,o,false,.ready⟩:pY)).b1))) (.ok (.v (.bool false)))):=by kernel_rfl
theorem axf:Valid Tryz.prog aT 103 ajb:=aJ Tryz.func103 rfl Eu ayL (bF (by kernel_rfl)) (fun args lv h=>by
 unfold ajo at h
 split at h
 ·split at h
  case h_2=>cases h
  rename_i heq0
  split at h
  case h_2=>cases h
  rename_i heq1
  simp only [canL,canX]
  rw [pI (n:=1) heq0]
  simp only [canL,canX]
  rw [pI (n:=5) heq1]
  simp only [canL,canX]
  rw [aue]
  obtain ⟨⟨hu,hc⟩,rfl⟩:=h
  refine CB ⟨⟨rfl,hu,hc,rfl⟩,rfl,rfl⟩ (fun hE=>?_)
  rcases atE _ hE.1 with ⟨h1,h2,h3⟩ |⟨h1,h2⟩
  ·rw [h1,h2]
   exact ⟨fun _=>congrArg (fun z=>LV.v (.bool z)) h3.symm,fun h=>by cases h⟩
  ·rw [h1]
   exact ⟨fun h=>(by cases h),fun _=>congrArg (fun z=>LV.v (.bool z)) h2.symm⟩
 ·cases h)
end Go.Proofs.YtlihnbimgclogaaGreatDoor
namespace Go.Proofs.YtlihnbimgclogaaGreatDoor
open Go.Sx
structure wC where
 l:List Ch
 n:Int
 i:Int
 bV:List Cd
 jr:List ByteArray
 gu:List Ko
 gX:List Ch
 nD:List Ba
 b1:Int
 out:List Int
def aCw (s:wC):List LV:=[.fn 102 [.own 0 0,.own 1 0],.os 2 1 0 (List.length s.out),.xl gU s.l,.v (.int .i64 s.n),.v (.int .i64 s.i)]
def aCj (s:wC):List aS:=[⟨[.xl iJ s.bV,.xl .str s.jr,.xl iQ s.gu,.xl gU s.gX,.xl iR s.nD],28,.cl,false⟩,⟨[.v (.int .i64 s.b1)],3,.cl,false⟩,⟨[],3,.vec (.int .i64) s.out,false⟩]
noncomputable def Gn:Code:=((ay (Tryz.f55.body.getD .skip))[0]?).getD .skip
def akN (s:wC):T (Rd wC):=
 .br (decide (s.i<s.n)) (.req (0≤s.i∧s.i<(List.length s.l:Int)) (.req (upB s.bV=true∧(bU s.l s.i).2.1<(List.length s.bV:Int)) (.br (Vt s.bV s.b1 (bU s.l s.i).2.1) (.req (0+(List.length s.out)=List.length s.out∧((List.length s.out+List.length ([s.i]):Nat):Int)*8≤2^47∧((List.length s.out+List.length ([s.i]):Nat):Int)<2^62) (.req (0=0∧(List.length s.out+List.length ([s.i]))=List.length (s.out++([s.i]))) (.ok (.next {s with i:=(IntKind.i64.wrap (s.i+1)),out:=(s.out++([s.i]))})))) (.rl s.out (.ok (.next {s with i:=(IntKind.i64.wrap (s.i+1))})))))) (.rl s.out (.ok (.stop (.exit 0) s)))
abbrev azd (s:wC):=(akN s).rd s
def aoV (s:wC):Prop:=s.i=0∧s.out=[]∧s.n=(s.l.length:Int)∧s.n≤1000∧upB s.bV=true∧atB s.bV s.l=true
def ael (s:wC):Prop:=(0≤s.i∧s.i≤s.n)∧s.out=uq s.bV s.l s.b1 s.i.toNat∧s.n=(s.l.length:Int)∧s.n≤1000∧upB s.bV=true∧atB s.bV s.l=true
def S9 (s:wC):Nat:=(s.n-s.i).toNat
def avP (x:Ex) (_ s':wC):Prop:=x=.exit 0∧s'.out=uq s'.bV s'.l s'.b1 s'.l.length
theorem aB2:∀s,aoV s→ael s:=by
 intro s h
 obtain ⟨h0,h1,h2,h3,h4,h5⟩:=h
 exact ⟨⟨by omega,by omega⟩,by rw [h0,h1];rfl,h2,h3,h4,h5⟩
theorem azu (s:wC) (hI:ael s):bY (fun s'=>ael s'∧S9 s'<S9 s) (fun x s'=>avP x s s') (azd s):=by
 unfold azd akN
 dsimp only [T.rd,T.rl]
 obtain ⟨⟨h0,h1⟩,h2,h3,h4,h5,h6⟩:=hI
 refine ai (fun c1=>?_) (fun c1=>?_)
 ·have c1:s.i<s.n:=by simpa using c1
  have hs:=ad9 (cs:=s.bV) (gs:=s.l) (o:=s.b1) (k:=s.i.toNat)
  rw [show s.i.toNat+1=(s.i+1).toNat by omega,Int.toNat_of_nonneg h0] at hs
  rw [aF (x:=s.i+1) (by omega) (by omega)]
  refine ai (fun c2=>?_) (fun c2=>?_)
  ·refine ⟨⟨⟨by simp only;omega,by simp only;omega⟩,?_,h3,h4,h5,h6⟩,by simp only [S9];omega⟩
   simp only
   rw [hs,if_pos c2,h2]
  ·refine ⟨⟨⟨by simp only;omega,by simp only;omega⟩,?_,h3,h4,h5,h6⟩,by simp only [S9];omega⟩
   simp only
   rw [hs,if_neg (by rw [c2];simp),h2,List.append_nil]
 ·have c1:s.n≤s.i:=by simpa using c1
  exact ⟨rfl,by rw [h2,show s.i.toNat=s.l.length by omega]⟩
def Vq:dn wC:=⟨0,42,[6,7,26,27,28],[.nl 7 3 (.int .i64)],aCw,aCj,fun v b=>⟨bf gU (v.getD 2 .junk),gI (v.getD 3 .junk),gI (v.getD 4 .junk),bf iJ (bC (aV b 0) 0),bf .str (bC (aV b 0) 1),bf iQ (bC (aV b 0) 2),bf gU (bC (aV b 0) 3),bf iR (bC (aV b 0) 4),gI (bC (aV b 1) 0),jm (.int .i64) (aV b 2)⟩,akN,fun s r=> {r with l:=s.l,n:=s.n,bV:=s.bV,jr:=s.jr,gu:=s.gu,gX:=s.gX,nD:=s.nD,b1:=s.b1},fun s=>s,fun _ s=>s,[.exit 0],aoV,ael,S9⟩
abbrev Dl:=Vq.run
abbrev au9:=Vq.lU
abbrev azR:=Vq.q
theorem axP (s:wC) (hI:ael s):(akN s).all (fun _=>True):=by
 refine ⟨fun c1=>⟨?_,?_,fun c2=>⟨?_,?_,trivial⟩,fun c2=>⟨⟨rfl,rfl⟩,trivial⟩⟩,fun c1=>⟨⟨rfl,rfl⟩,trivial⟩⟩
 all_goals ((obtain ⟨⟨h0,h1⟩,h2,h3,h4,h5,h6⟩:=hI;have hol:s.out.length≤s.i.toNat:=(by rw [h2];exact Jj);(try simp only [decide_eq_true_eq] at c1);first|omega|exact ⟨h5,avD h6 h0 (by omega)⟩ |(refine ⟨by omega,?_,?_⟩<;>simp only [List.length_cons,List.length_nil]<;>omega) |exact ⟨rfl,by simp⟩ |exact ⟨rfl,rfl⟩))
noncomputable def TJ:Specs:=bn [(53,Js),(103,ajb),(104,YA)]
theorem aaX:∀g S,TJ g=some S→Valid Tryz.prog aT g S:=aX (l:=[(53,Js),(103,ajb),(104,YA)]) ⟨aeH,axf,arD,trivial⟩
noncomputable def ah2:Hand:=inl Tryz.prog aT TJ (jo Tryz.prog aT (TJ) 20 2) 9
theorem apU:cO Tryz.prog aT ah2:=bJ aaX (dw aaX) 9
theorem apz:Vq.Ok:=⟨fun s=>by kernel_rfl,fun s=>by kernel_rfl,fun s=>rfl,fun s t r=>rfl,fun s=>rfl,fun s=>by kernel_rfl⟩
theorem apl:Vq.Pf (avP):=⟨aB2,fun _ _=>rfl,azu,axP⟩
theorem asv:bG Tryz.prog aT (AN 0) (.loop Gn) Vq.lp:=dn.snd apz apl (bI (Γ:=TJ) (K:=ah2) (L:=aB) aaX apU Gn (fun b hb=>by rw [show ay Gn=[] by kernel_rfl] at hb;cases hb)) (fun s=>by kernel_rfl)
theorem avx (s:wC) (hE:aoV s):∃s',ael s'∧avP (au9 s) s' (Dl s):=dn.fin apz apl s hE
def UW:List LV→T LV
 | [.agg [.xl (.pair .str (.pair (.int .i64) (.pair (.int .i64) (.pair (.int .i64) (.pair (.pair (.int .i64) (.int .i64)) (.pair (.int .i64) (.pair (.int .i64) (.pair (.int .i64) (.pair (.int .i64) (.int .i64)))))))))) cs,.xl (.str) os,.xl (.pair .str (.pair (.int .i64) (.pair (.int .i64) (.int .i64)))) ks,.xl (.pair .str (.pair (.int .i64) (.pair (.int .i64) (.pair (.int .i64) (.pair (.int .i64) (.pair (.int .i64) (.pair (.int .i64) (.int .i64)))))))) gs,.xl (.pair .str (.int .i64)) bs],.v (.int .i64 o)]=> .ok (.jg [.xl (.int .i64) (dD cs os ks gs bs o),.v (.int .i64 (avA cs os ks gs bs o))])
 |_=> .no
noncomputable def Qq:List LV→T LV:=jR Tryz.prog Tryz.f55.params.toList UW
theorem ahf (cs:List Cd) (os:List ByteArray) (ks:List Ko) (gs:List Ch) (bs:List Ba) (o:Int):eX Tryz.prog aT (TJ) ah2 (fun i=>if i=6 then Vq.lp else aB i) Tryz.f55 [.agg [.xl iJ cs,.xl .str os,.xl iQ ks,.xl gU gs,.xl iR bs],.v (.int .i64 o)]=.br ((!(iF cs os ks gs bs)) ||((decide (o<0)) ||(decide (o≥(List.length cs:Int))))) (.ok (.jg [.xl (.int .i64) ([]:List Int),.v (.int .i64 1)])) (.req (0=0∧0=List.length ([]:List Int)) (.req (azR (⟨gs,(List.length gs:Int),(0:Int),cs,os,ks,gs,bs,o,([]:List Int)⟩:wC)) (.req (0+(List.length (Dl (⟨gs,(List.length gs:Int),(0:Int),cs,os,ks,gs,bs,o,([]:List Int)⟩:wC)).out)≤List.length (Dl (⟨gs,(List.length gs:Int),(0:Int),cs,os,ks,gs,bs,o,([]:List Int)⟩:wC)).out) (.ok (.jg [.xl (.int .i64) (((Dl (⟨gs,(List.length gs:Int),(0:Int),cs,os,ks,gs,bs,o,([]:List Int)⟩:wC)).out.drop 0).take (List.length (Dl (⟨gs,(List.length gs:Int),(0:Int),cs,os,ks,gs,bs,o,([]:List Int)⟩:wC)).out)),.v (.int .i64 0)]))))):=by kernel_rfl
theorem akH:Valid Tryz.prog aT 55 Qq:=aJ Tryz.func55 rfl aaX apU (L:=(fun i=>if i=6 then Vq.lp else aB i)) (fun b hb=>by
 rw [show ay _=[Gn] by kernel_rfl] at hb
 simp only [List.mem_cons,List.not_mem_nil,or_false] at hb
 subst hb
 exact asv) (fun args lv h=>by
 unfold UW at h
 split at h
 ·simp only [canL,canX]
  rw [ahf]
  rename_i cs os ks gs bs o
  obtain rfl:=h
  refine ⟨fun c=>?_,fun c=>?_⟩
  ·have hn:¬(iF cs os ks gs bs=true∧0≤o∧o<(cs.length:Int)):=by
    rintro ⟨h1,h2,h3⟩
    rw [h1] at c
    simp at c
    omega
   show LV.jg _=_
   unfold dD avA
   rw [if_neg hn,if_neg hn]
  ·simp only [Bool.or_eq_false_iff,Bool.not_eq_false',decide_eq_false_iff_not] at c
   have hp:iF cs os ks gs bs=true∧0≤o∧o<(cs.length:Int):=⟨c.1,by omega,by omega⟩
   have hl:=(jq.1 c.1).1
   have hE:aoV ⟨gs,(List.length gs:Int),(0:Int),cs,os,ks,gs,bs,o,([]:List Int)⟩:=⟨rfl,rfl,rfl,by simp only;omega,ae5 c.1,ae6 c.1⟩
   obtain ⟨s',_,q1,q2⟩:=avx _ hE
   have q2:(Dl ⟨gs,(List.length gs:Int),(0:Int),cs,os,ks,gs,bs,o,([]:List Int)⟩).out=uq cs gs o gs.length:=q2
   refine ⟨⟨rfl,rfl⟩,⟨hE,rfl,rfl⟩,by omega,?_⟩
   show LV.jg [LV.xl _ _,_]=_
   rw [List.drop_zero,List.take_length,q2]
   unfold dD avA
   rw [if_pos hp,if_pos hp]
 ·cases h)
end Go.Proofs.YtlihnbimgclogaaGreatDoor
namespace Go.Proofs.YtlihnbimgclogaaGreatDoor
open Go.Sx
def ac2:List LV→T LV
 | [.v (.agg ⟨[.int .i64 am,.int .i64 mo,.int .i64 ga,.int .i64 lo,.int .i64 de]⟩)]=> .ok (.v (.bool (Vy (am,mo,ga,lo,de))))
 |_=> .no
noncomputable def YX:List LV→T LV:=jR Tryz.prog Tryz.f130.params.toList ac2
noncomputable def LD:Specs:=bn []
theorem TB:∀g S,LD g=some S→Valid Tryz.prog aT g S:=aX (l:=[]) trivial
noncomputable def ap3:Hand:=inl Tryz.prog aT LD (jo Tryz.prog aT (LD) 20 2) 9
theorem ayK:cO Tryz.prog aT ap3:=bJ TB (dw TB) 9
theorem am8 (am mo ga lo de:Int):eX Tryz.prog aT (LD) ap3 aB Tryz.f130 [.v (.agg #[.int .i64 am,.int .i64 mo,.int .i64 ga,.int .i64 lo,.int .i64 de])]=.br ((am==0)&&((mo==0)&&((ga==0)&&((lo==0)&&(de==0))))) (.ok (.v (.bool true))) (.br ((decide (am≥0))&&(decide (am≤200000))) (.br (decide (mo>am)) (.br (decide (mo≤200000)) (.br ((decide (ga≥0))&&(decide (ga≤1000))) (.br ((decide (lo≥0))&&(decide (lo≤1000))) (.ok (.v (.bool ((decide (de≥1))&&(decide (de≤1000000)))))) (.ok (.v (.bool false)))) (.ok (.v (.bool false)))) (.ok (.v (.bool false)))) (.ok (.v (.bool false)))) (.ok (.v (.bool false)))):=by kernel_rfl
theorem ar0:Valid Tryz.prog aT 130 YX:=aJ Tryz.func130 rfl TB ayK (bF (by kernel_rfl)) (fun args lv h=>by
 unfold ac2 at h
 split at h
 ·simp only [canL,canX]
  rw [am8]
  rename_i am mo ga lo de
  obtain rfl:=h
  unfold Vy cbZ
  simp only
  refine ⟨fun c=>by rw [c];rfl,fun c=>?_⟩
  rw [c,Bool.false_or]
  unfold inB
  refine ⟨fun c1=>⟨fun c2=>⟨fun c3=>⟨fun c4=>⟨fun c5=>?_,fun c5=>?_⟩,fun c4=>?_⟩,fun c3=>?_⟩,fun c2=>?_⟩,fun c1=>?_⟩
  all_goals refine congrArg (fun z=>LV.v (.bool z)) ?_
  all_goals
   rw [Bool.eq_iff_iff]
   simp only [Bool.and_eq_true,Bool.and_eq_false_iff,decide_eq_true_eq,decide_eq_false_iff_not,Bool.false_eq_true] at*
   constructor<;>intro hz<;>first|exact hz.elim|(exfalso;omega) |omega
 ·cases h)
def acj:List LV→T LV
 | [.xq 6 q0]=>(match ([q0 0,q0 1,q0 2,q0 3,q0 4,q0 5]:List LV) with
  | [.v (.int .i64 _),.v (.int .i64 _),.v (.int .i64 _),.v (.int .i64 lo),.v (.int .i64 de),.v (.int .i64 _)]=> .ok (.v (.int .i64 (if de<lo then de else lo)))
  |_=> .no)
 |_=> .no
noncomputable def Yr:List LV→T LV:=jR Tryz.prog Tryz.f132.params.toList acj
theorem amn (am mo ga lo de now:Int):eX Tryz.prog aT (LD) iU aB Tryz.f132 [.xq 6 (fun j=>([.v (.int .i64 am),.v (.int .i64 mo),.v (.int .i64 ga),.v (.int .i64 lo),.v (.int .i64 de),.v (.int .i64 now)]:List LV).getD j .junk)]=.ok (.v (.int .i64 (if de<lo then de else lo))):=by kernel_rfl
theorem aru:Valid Tryz.prog aT 132 Yr:=aJ Tryz.func132 rfl TB aC (bF (by kernel_rfl)) (fun args lv h=>by
 unfold acj at h
 split at h
 ·split at h
  case h_2=>cases h
  rename_i heq0
  simp only [canL,canX]
  rw [pI (n:=6) heq0]
  simp only [canL,canX]
  rw [amn]
  exact h
 ·cases h)
def aci:List LV→T LV
 | [.xq 6 q0]=>(match ([q0 0,q0 1,q0 2,q0 3,q0 4,q0 5]:List LV) with
  | [.v (.int .i64 am),.v (.int .i64 mo),.v (.int .i64 ga),.v (.int .i64 lo),.v (.int .i64 de),.v (.int .i64 _)]=> .ok (.v (.bool (cbZ (am,mo,ga,lo,de))))
  |_=> .no)
 |_=> .no
noncomputable def Yq:List LV→T LV:=jR Tryz.prog Tryz.f131.params.toList aci
theorem amm (am mo ga lo de now:Int):eX Tryz.prog aT (LD) iU aB Tryz.f131 [.xq 6 (fun j=>([.v (.int .i64 am),.v (.int .i64 mo),.v (.int .i64 ga),.v (.int .i64 lo),.v (.int .i64 de),.v (.int .i64 now)]:List LV).getD j .junk)]=.ok (.v (.bool ((am==0)&&((mo==0)&&((ga==0)&&((lo==0)&&(de==0))))))):=by kernel_rfl
theorem ars:Valid Tryz.prog aT 131 Yq:=aJ Tryz.func131 rfl TB aC (bF (by kernel_rfl)) (fun args lv h=>by
 unfold aci at h
 split at h
 ·split at h
  case h_2=>cases h
  rename_i heq0
  simp only [canL,canX]
  rw [pI (n:=6) heq0]
  simp only [canL,canX]
  rw [amm]
  exact h
 ·cases h)
structure zL where
 low:Int
 high:Int
 zH:Int
 Qg:Int
 Qi:Int
 Qh:Int
 Yi:Int
 Jm:Int
 b11:Int
 b12:Int
 b13:Int
 b14:Int
 Yh:Int
 b3:Int
def aCv (s:zL):List LV:=[.v (.int .i64 s.low),.v (.int .i64 s.high),.fn 134 [.own 2 0,.own 3 0]]
def aCi (s:zL):List aS:=[⟨[.v (.int .i64 s.zH),.v (.int .i64 s.Qg),.v (.int .i64 s.Qi),.v (.int .i64 s.Qh),.v (.int .i64 s.Yi)],103,.cl,false⟩,⟨[.v (.int .i64 s.Jm),.v (.int .i64 s.b11),.v (.int .i64 s.b12),.v (.int .i64 s.b13),.v (.int .i64 s.b14),.v (.int .i64 s.Yh)],190,.cl,false⟩,⟨[.own 1 0],188,.cl,false⟩,⟨[.v (.int .i64 s.b3)],3,.cl,false⟩]
noncomputable def acd:Code:=((ay (Tryz.f133.body.getD .skip))[0]?).getD .skip
def akM (s:zL):T (Rd zL):=
 .br (decide (s.low<s.high)) (.req ((2:Int)≠0) (.br (decide ((IntKind.i64.wrap ((IntKind.i64.wrap (s.b12*(IntKind.i64.wrap (s.low+(IntKind.i64.wrap ((IntKind.i64.wrap ((IntKind.i64.wrap (s.high-s.low))+1)).tdiv 2))))))*(IntKind.i64.wrap (s.low+(IntKind.i64.wrap ((IntKind.i64.wrap ((IntKind.i64.wrap (s.high-s.low))+1)).tdiv 2))))))≤s.b3)) (.ok (.next {s with low:=(IntKind.i64.wrap (s.low+(IntKind.i64.wrap ((IntKind.i64.wrap ((IntKind.i64.wrap (s.high-s.low))+1)).tdiv 2))))})) (.ok (.next {s with high:=(IntKind.i64.wrap ((IntKind.i64.wrap (s.low+(IntKind.i64.wrap ((IntKind.i64.wrap ((IntKind.i64.wrap (s.high-s.low))+1)).tdiv 2))))-1))})))) (.ok (.stop (.exit 0) s))
abbrev azc (s:zL):=(akM s).rd s
def awo (s:zL):Prop:=s.low=0∧s.high=1000∧(0≤s.b12∧s.b12≤1000)∧0≤s.b3
def aek (s:zL):Prop:=(0≤s.low∧s.low≤s.high∧s.high≤1000)∧s.b12*s.low*s.low≤s.b3∧(∀a:Int,s.high<a→a≤1000→¬s.b12*a*a≤s.b3)∧(0≤s.b12∧s.b12≤1000)∧0≤s.b3
def SY (s:zL):Nat:=(s.high-s.low).toNat
def avO (x:Ex) (_ s':zL):Prop:=x=.exit 0∧s'.low=prm s'.b12 s'.b3
theorem aBV:∀s,awo s→aek s:=by
 intro s h
 obtain ⟨h0,h1,h2,h3⟩:=h
 exact ⟨by omega,by rw [h0];simpa using h3,fun a h h2=>by omega,h2,h3⟩
theorem ayP (s:zL) (hI:aek s):bY (fun s'=>aek s'∧SY s'<SY s) (fun x s'=>avO x s s') (azc s):=by
 unfold azc akM
 dsimp only [T.rd,T.rl]
 obtain ⟨⟨h0,h1,h2⟩,h3,h4,⟨h5,h6⟩,h7⟩:=hI
 have em:s.low<s.high→IntKind.i64.wrap (s.low+IntKind.i64.wrap ((IntKind.i64.wrap (IntKind.i64.wrap (s.high-s.low)+1)).tdiv 2))=s.low+(s.high-s.low+1) / 2:=fun c=>by
  rw [aF (x:=s.high-s.low) (by omega) (by omega),aF (x:=s.high-s.low+1) (by omega) (by omega),Int.tdiv_eq_ediv_of_nonneg (by omega),aF (x:=(s.high-s.low+1) / 2) (by omega) (by omega),aF (by omega) (by omega)]
 refine ai (fun c1=>?_) (fun c1=>?_)
 ·have c1:s.low<s.high:=by simpa using c1
  rw [em c1]
  have hm1:s.low<s.low+(s.high-s.low+1) / 2:=by omega
  have hm2:s.low+(s.high-s.low+1) / 2≤s.high:=by omega
  generalize s.low+(s.high-s.low+1) / 2=m at hm1 hm2⊢
  obtain ⟨⟨b1,b2⟩,b3,b4⟩:=axv h5 h6 (m:=m) (by omega) (by omega)
  rw [aF (x:=s.b12*m) (by omega) (by omega),aF (x:=s.b12*m*m) (by omega) (by omega),aF (x:=m-1) (by omega) (by omega)]
  refine ai (fun c2=>?_) (fun c2=>?_)
  ·have c2:s.b12*m*m≤s.b3:=by simpa using c2
   exact ⟨⟨⟨by simp only;omega,by simp only;omega,h2⟩,c2,h4,⟨h5,h6⟩,h7⟩,by simp only [SY];omega⟩
  ·have c2:¬s.b12*m*m≤s.b3:=by simpa using c2
   refine ⟨⟨⟨h0,by simp only;omega,by simp only;omega⟩,h3,fun a ha hk=>?_,⟨h5,h6⟩,h7⟩,by simp only [SY];omega⟩
   have:=akW h5 (a:=m) (b:=a) (by omega) (by simp only at ha;omega)
   simp only
   omega
 ·have c1:s.high≤s.low:=by simpa using c1
  refine ⟨rfl,(aak (k:=1000) h0 (by omega) (.inr h3) (fun a ha hk=>h4 a (by omega) (by omega))).symm⟩
def Za:dn zL:=⟨4,25,[0,1,2],[],aCv,aCi,fun v b=>⟨gI (v.getD 0 .junk),gI (v.getD 1 .junk),gI (bC (aV b 0) 0),gI (bC (aV b 0) 1),gI (bC (aV b 0) 2),gI (bC (aV b 0) 3),gI (bC (aV b 0) 4),gI (bC (aV b 1) 0),gI (bC (aV b 1) 1),gI (bC (aV b 1) 2),gI (bC (aV b 1) 3),gI (bC (aV b 1) 4),gI (bC (aV b 1) 5),gI (bC (aV b 3) 0)⟩,akM,fun s r=> {r with zH:=s.zH,Qg:=s.Qg,Qi:=s.Qi,Qh:=s.Qh,Yi:=s.Yi,Jm:=s.Jm,b11:=s.b11,b12:=s.b12,b13:=s.b13,b14:=s.b14,Yh:=s.Yh,b3:=s.b3},fun s=>s,fun _ s=>s,[.exit 0],awo,aek,SY⟩
abbrev afh:=Za.run
abbrev au8:=Za.lU
abbrev azQ:=Za.q
noncomputable def EC:Specs:=bn [(130,YX),(131,Yq),(132,Yr)]
theorem IK:∀g S,EC g=some S→Valid Tryz.prog aT g S:=aX (l:=[(130,YX),(131,Yq),(132,Yr)]) ⟨ar0,ars,aru,trivial⟩
noncomputable def ah1:Hand:=inl Tryz.prog aT EC (jo Tryz.prog aT (EC) 20 2) 9
theorem apT:cO Tryz.prog aT ah1:=bJ IK (dw IK) 9
theorem axO (s:zL) (_:aek s):(akM s).all (fun _=>True):=by
 refine ⟨fun c1=>⟨?_,fun _=>trivial,fun _=>trivial⟩,fun _=>trivial⟩
 ·(first|decide|omega)
theorem apy:Za.Ok:=⟨fun s=>by kernel_rfl,fun s=>by kernel_rfl,fun s=>rfl,fun s t r=>rfl,fun s=>rfl,fun s=>by kernel_rfl⟩
theorem apk:Za.Pf (avO):=⟨aBV,fun _ _=>rfl,ayP,axO⟩
theorem asu:bG Tryz.prog aT (AN 4) (.loop acd) Za.lp:=dn.snd apy apk (aZ (Γ:=EC) (K:=ah1) (L:=(mP Tryz.prog aT EC ah1 20 2)) IK apT acd (fun b _=>cu IK apT 20 2 b)) (fun s=>by kernel_rfl)
theorem auR (s:zL) (hE:awo s):∃s',aek s'∧avO (au8 s) s' (afh s):=dn.fin apy apk s hE
def acA:List LV→T LV
 | [.v (.agg ⟨[.int .i64 am,.int .i64 mo,.int .i64 ga,.int .i64 lo,.int .i64 de]⟩)]=> .ok (.v (.tuple #[.int .i64 (pmA (am,mo,ga,lo,de)),.int .i64 (pmE (am,mo,ga,lo,de))]))
 |_=> .no
noncomputable def Yz:List LV→T LV:=jR Tryz.prog Tryz.f105.params.toList acA
noncomputable def ap2:Hand:=inl Tryz.prog aT EC (dG 133 4 1 (Za.lp) (jo Tryz.prog aT (EC) 20 2)) 9
theorem ayJ:cO Tryz.prog aT ap2:=bJ IK (aP Tryz.func133 rfl (by kernel_rfl) asu (dw IK)) 9
theorem amD (am mo ga lo de:Int):eX Tryz.prog aT (EC) ap2 aB Tryz.f105 [.v (.agg #[.int .i64 am,.int .i64 mo,.int .i64 ga,.int .i64 lo,.int .i64 de])]=.br (!(Vy (am,mo,ga,lo,de))) (.ok (.v (.tuple #[.int .i64 0,.int .i64 1]))) (.br (cbZ (am,mo,ga,lo,de)) (.ok (.v (.tuple #[.int .i64 1000,.int .i64 0]))) (.req (azQ (⟨(0:Int),(1000:Int),am,mo,ga,lo,de,am,mo,ga,lo,de,(0:Int),(IntKind.i64.wrap ((if de<lo then de else lo)*(IntKind.i64.wrap (mo-am))))⟩:zL)) (.ok (.v (.tuple #[.int .i64 (afh (⟨(0:Int),(1000:Int),am,mo,ga,lo,de,am,mo,ga,lo,de,(0:Int),(IntKind.i64.wrap ((if de<lo then de else lo)*(IntKind.i64.wrap (mo-am))))⟩:zL)).low,.int .i64 0]))))):=by kernel_rfl
theorem arC:Valid Tryz.prog aT 105 Yz:=aJ Tryz.func105 rfl IK ayJ (bF (by kernel_rfl)) (fun args lv h=>by
 unfold acA at h
 split at h
 ·simp only [canL,canX]
  rw [amD]
  rename_i am mo ga lo de
  obtain rfl:=h
  refine ⟨fun c=>?_,fun c=>⟨fun c2=>?_,fun c2=>?_⟩⟩
  ·have c:Vy (am,mo,ga,lo,de)=false:=by simpa using c
   simp [T.all,pmA,pmE,c]
  ·have c:Vy (am,mo,ga,lo,de)=true:=by simpa using c
   simp [T.all,pmA,pmE,c,c2]
  ·have c:Vy (am,mo,ga,lo,de)=true:=by simpa using c
   obtain ⟨⟨h1,h2,h3⟩,⟨h4,h5⟩,⟨h6,h7⟩,h8,h9⟩:=avv c c2
   simp only at h1 h2 h3 h4 h5 h6 h7 h8 h9
   have hm:0≤(if de<lo then de else lo)∧(if de<lo then de else lo)≤1000:=by split<;>omega
   have e:pmA (am,mo,ga,lo,de)=prm ga ((if de<lo then de else lo)*(mo-am)):=by
    unfold pmA
    rw [if_pos c,if_neg (by rw [c2];simp)]
   have e2:pmE (am,mo,ga,lo,de)=0:=by
    unfold pmE
    rw [if_pos c]
   rw [e,e2,aF (x:=mo-am) (by omega) (by omega)]
   generalize (if de<lo then de else lo)=mn at hm⊢
   have a1:0≤mn*(mo-am):=Int.mul_nonneg hm.1 (by omega)
   have a2:mn*(mo-am)≤1000*(mo-am):=Int.mul_le_mul_of_nonneg_right hm.2 (by omega)
   rw [aF (x:=mn*(mo-am)) (by omega) (by omega)]
   refine CB ⟨⟨rfl,rfl,⟨h4,h5⟩,a1⟩,rfl,rfl⟩ (fun hE=>?_)
   obtain ⟨s',_,q1,q2⟩:=auR _ hE.1
   show LV.v (.tuple #[.int .i64 _,_])=_
   rw [q2]
   rfl
 ·cases h)
end Go.Proofs.YtlihnbimgclogaaGreatDoor
namespace Go.Proofs.YtlihnbimgclogaaGreatDoor
open Go.Sx
structure nH where
 first:Int
 l:List Int
 n:Int
 i:Int
def aA7 (s:nH):List LV:=[.v (.int .i64 s.first),.xl (.int .i64) s.l,.v (.int .i64 s.n),.v (.int .i64 s.i)]
def aAk (_:nH):List aS:=[]
noncomputable def BO:Code:=((ay (Tryz.f106.body.getD .skip))[0]?).getD .skip
def Q5 (s:nH):T (Rd nH):=
 .br (decide (s.i<s.n)) (.req (0≤s.i∧s.i<(List.length s.l:Int)) (.ok (.next {s with first:=(if (gi s.l s.i)<s.first then (gi s.l s.i) else s.first),i:=(IntKind.i64.wrap (s.i+1))}))) (.ok (.stop (.exit 0) s))
abbrev abo (s:nH):=(Q5 s).rd s
def ado (s:nH):Prop:=s.i=0∧s.n=(s.l.length:Int)∧s.n≤1000
def MS (s:nH):Prop:=0≤s.i∧s.i≤s.n∧s.n=(s.l.length:Int)∧s.n≤1000
def OJ (s:nH):Nat:=(s.n-s.i).toNat
def ajN (x:Ex) (_ s':nH):Prop:=x=.exit 0∧s'.i=s'.n
theorem ayo:∀s,ado s→MS s:=by
 intro s h
 obtain ⟨h0,h1,h2⟩:=h
 exact ⟨by omega,by omega,h1,h2⟩
theorem aus (s:nH) (hI:MS s):bY (fun s'=>MS s'∧OJ s'<OJ s) (fun x s'=>ajN x s s') (abo s):=by
 unfold abo Q5
 dsimp only [T.rd,T.rl]
 obtain ⟨h0,h1,h2,h3⟩:=hI
 refine ai (fun c1=>?_) (fun c1=>?_)
 ·have c1:s.i<s.n:=by simpa using c1
  rw [aF (x:=s.i+1) (by omega) (by omega)]
  exact ⟨⟨by simp only;omega,by simp only;omega,h2,h3⟩,by simp only [OJ];omega⟩
 ·have c1:s.n≤s.i:=by simpa using c1
  exact ⟨rfl,by omega⟩
def EZ:dn nH:=⟨0,18,[0,7,8,9],[],aA7,aAk,fun v _=>⟨gI (v.getD 0 .junk),bf (.int .i64) (v.getD 1 .junk),gI (v.getD 2 .junk),gI (v.getD 3 .junk)⟩,Q5,fun s r=> {r with l:=s.l,n:=s.n},fun s=>s,fun _ s=>s,[.exit 0],ado,MS,OJ⟩
abbrev Ad:=EZ.run
abbrev an7:=EZ.lU
abbrev awj:=EZ.q
theorem as9 (s:nH) (hI:MS s):(Q5 s).all (fun _=>True):=by
 refine ⟨fun c1=>⟨?_,trivial⟩,fun _=>trivial⟩
 ·(obtain ⟨h0,h1,h2,h3⟩:=hI;simp at c1;omega)
noncomputable def aa3:Specs:=bn []
theorem aib:∀g S,aa3 g=some S→Valid Tryz.prog aT g S:=aX (l:=[]) trivial
theorem WX:EZ.Ok:=⟨fun s=>by kernel_rfl,fun s=>by kernel_rfl,fun s=>rfl,fun s t r=>rfl,fun s=>rfl,fun s=>by kernel_rfl⟩
theorem Wv:EZ.Pf (ajN):=⟨ayo,fun _ _=>rfl,aus,as9⟩
theorem alm:bG Tryz.prog aT (AN 0) (.loop BO) EZ.lp:=dn.snd WX Wv (bI (Γ:=aa3) (K:=iU) (L:=aB) aib aC BO (fun b hb=>by rw [show ay BO=[] by kernel_rfl] at hb;cases hb)) (fun s=>by kernel_rfl)
theorem ano (s:nH) (hE:ado s):∃s',MS s'∧ajN (an7 s) s' (Ad s):=dn.fin WX Wv s hE
theorem ahr (s:nH) (hE:ado s):(fun s:nH=>Xm s.first (s.l.drop s.i.toNat)) (Ad s)=(fun s:nH=>Xm s.first (s.l.drop s.i.toNat)) s:=by
 exact dn.vP WX Wv (fun s:nH=>Xm s.first (s.l.drop s.i.toNat)) (fun s hI=>by
  show bY _ _ (abo s)
  unfold abo Q5
  dsimp only [T.rd,T.rl]
  obtain ⟨h0,h1,h2,h3⟩:=hI
  refine ai (fun c1=>?_) (fun c1=>rfl)
  have c1:s.i<s.n:=by simpa using c1
  rw [aF (x:=s.i+1) (by omega) (by omega)]
  show Xm _ _=Xm _ _
  rw [(gi_step h0 (show s.i<s.l.length by omega)).1]
  rfl) s hE
def acO:List LV→T LV
 | [.v (.int .i64 f),.xl (.int .i64) l]=> .req ((List.length l:Int)≤1000) (.ok (.v (.int .i64 (Xm f l))))
 |_=> .no
noncomputable def YK:List LV→T LV:=jR Tryz.prog Tryz.f106.params.toList acO
theorem amT (f:Int) (l:List Int):eX Tryz.prog aT (aa3) iU (fun i=>if i=2 then EZ.lp else aB i) Tryz.f106 [.v (.int .i64 f),.xl (.int .i64) l]=.req (awj (⟨f,l,(List.length l:Int),(0:Int)⟩:nH)) (.ok (.v (.int .i64 (Ad (⟨f,l,(List.length l:Int),(0:Int)⟩:nH)).first))):=by kernel_rfl
theorem arN:Valid Tryz.prog aT 106 YK:=aJ Tryz.func106 rfl aib aC (L:=(fun i=>if i=2 then EZ.lp else aB i)) (fun b hb=>by
 rw [show ay _=[BO] by kernel_rfl] at hb
 simp only [List.mem_cons,List.not_mem_nil,or_false] at hb
 subst hb
 exact alm) (fun args lv h=>by
 unfold acO at h
 split at h
 ·simp only [canL,canX]
  rw [amT]
  rename_i f l
  obtain ⟨hl,rfl⟩:=h
  refine CB ⟨⟨rfl,rfl,hl⟩,rfl,rfl⟩ (fun hE=>?_)
  obtain ⟨s',_,q1,q2⟩:=ano _ hE.1
  have q3:=ahr _ hE.1
  simp only at q3
  rw [q2] at q3
  have e:(Ad ⟨f,l,(List.length l:Int),(0:Int)⟩).n=(List.length l:Int):=rfl
  have e2:(Ad ⟨f,l,(List.length l:Int),(0:Int)⟩).l=l:=rfl
  rw [e,e2,List.drop_eq_nil_of_le (by omega)] at q3
  exact congrArg (fun z=>LV.v (.int .i64 z)) q3
 ·cases h)
def acK:List LV→T LV
 | [.v (.agg ⟨[.string nm,.int .i64 QH,.int .i64 li,.int .i64 ne,.int .i64 ra,.int .i64 he,.int .i64 am,.int .i64 mo,.int .i64 ga,.int .i64 lo,.int .i64 de]⟩)]=> .ok (.v (.int .i64 (eU (nm,QH,li,ne,(ra,he),am,mo,ga,lo,de))))
 |_=> .no
noncomputable def YH:List LV→T LV:=jR Tryz.prog Tryz.f58.params.toList acK
noncomputable def aqr:Specs:=bn [(105,Yz),(106,YK)]
theorem ay0:∀g S,aqr g=some S→Valid Tryz.prog aT g S:=aX (l:=[(105,Yz),(106,YK)]) ⟨arC,arN,trivial⟩
theorem amP (nm:ByteArray) (QH li ne ra he am mo ga lo de:Int):eX Tryz.prog aT (aqr) iU aB Tryz.f58 [.v (.agg #[.string nm,.int .i64 QH,.int .i64 li,.int .i64 ne,.int .i64 ra,.int .i64 he,.int .i64 am,.int .i64 mo,.int .i64 ga,.int .i64 lo,.int .i64 de])]=.br ((pmE (am,mo,ga,lo,de)) !=0) (.br (ra==0) (.req ((List.length ([ne,(0:Int)]):Int)≤1000) (.ok (.v (.int .i64 (Xm li ([ne,(0:Int)])))))) (.req ((List.length ([ne,(0:Int),ra]):Int)≤1000) (.ok (.v (.int .i64 (Xm li ([ne,(0:Int),ra]))))))) (.br (ra==0) (.req ((List.length ([ne,(pmA (am,mo,ga,lo,de))]):Int)≤1000) (.ok (.v (.int .i64 (Xm li ([ne,(pmA (am,mo,ga,lo,de))])))))) (.req ((List.length ([ne,(pmA (am,mo,ga,lo,de)),ra]):Int)≤1000) (.ok (.v (.int .i64 (Xm li ([ne,(pmA (am,mo,ga,lo,de)),ra]))))))):=by kernel_rfl
theorem arK:Valid Tryz.prog aT 58 YH:=aJ Tryz.func58 rfl ay0 aC (bF (by kernel_rfl)) (fun args lv h=>by
 unfold acK at h
 split at h
 ·simp only [canL,canX]
  rw [amP]
  rename_i nm QH li ne ra he am mo ga lo de
  obtain rfl:=h
  unfold eU
  simp only
  refine ⟨fun c=>?_,fun c=>?_⟩
  ·have e:pmA (am,mo,ga,lo,de)=0:=by
    rw [alV] at c
    have c:Vy (am,mo,ga,lo,de)=false:=by simpa using c
    unfold pmA
    rw [c]
    rfl
   rw [e]
   refine ⟨fun c2=>⟨by simp,?_⟩,fun c2=>⟨by simp,?_⟩⟩
   ·rw [if_pos (by simpa using c2)];rfl
   ·rw [if_neg (by simpa using c2)];rfl
  ·refine ⟨fun c2=>⟨by simp,?_⟩,fun c2=>⟨by simp,?_⟩⟩
   ·rw [if_pos (by simpa using c2)];rfl
   ·rw [if_neg (by simpa using c2)];rfl
 ·cases h)
def acv:List LV→T LV
 | [.v (.int .i64 k),.xq 5 q0,.xq 2 q1]=>(match ([q0 0,q0 1,q0 2,q0 3,q0 4]:List LV) with
  | [.xl (.pair .str (.pair (.int .i64) (.pair (.int .i64) (.pair (.int .i64) (.pair (.pair (.int .i64) (.int .i64)) (.pair (.int .i64) (.pair (.int .i64) (.pair (.int .i64) (.pair (.int .i64) (.int .i64)))))))))) _,.xl (.str) _,.xl (.pair .str (.pair (.int .i64) (.pair (.int .i64) (.int .i64)))) _,.xl (.pair .str (.pair (.int .i64) (.pair (.int .i64) (.pair (.int .i64) (.pair (.int .i64) (.pair (.int .i64) (.pair (.int .i64) (.int .i64)))))))) gs,.xl (.pair .str (.int .i64)) _]=>(match ([q1 0,q1 1]:List LV) with
  | [.v (.int .i64 _),.v (.int .i64 p)]=> .req ((0≤k∧k<(List.length gs:Int))∧0≤p) (.ok (.v (.bool (usA (bU gs k).2.2.1 p))))
  |_=> .no)
  |_=> .no)
 |_=> .no
noncomputable def Ju:List LV→T LV:=jR Tryz.prog Tryz.f57.params.toList acv
theorem amx (k:Int) (cs:List Cd) (os:List ByteArray) (ks:List Ko) (gs:List Ch) (bs:List Ba) (c p:Int):eX Tryz.prog aT (aa3) iU aB Tryz.f57 [.v (.int .i64 k),.xq 5 (fun j=>([.xl iJ cs,.xl .str os,.xl iQ ks,.xl gU gs,.xl iR bs]:List LV).getD j .junk),.xq 2 (fun j=>([.v (.int .i64 c),.v (.int .i64 p)]:List LV).getD j .junk)]=.req (0≤k∧k<(List.length gs:Int)) (.req (0≤p) (.ok (.v (.bool ((azv .i64 (bU gs k).2.2.1 (IntKind.i64.wrap ((1:Int)*2^(min p.toNat 64)))) !=0))))):=by kernel_rfl
theorem aeJ:Valid Tryz.prog aT 57 Ju:=aJ Tryz.func57 rfl aib aC (bF (by kernel_rfl)) (fun args lv h=>by
 unfold acv at h
 split at h
 ·split at h
  case h_2=>cases h
  rename_i heq0
  split at h
  case h_2=>cases h
  rename_i heq1
  simp only [canL,canX]
  rw [pI (n:=5) heq0]
  simp only [canL,canX]
  rw [pI (n:=2) heq1]
  simp only [canL,canX]
  rw [amx]
  obtain ⟨⟨h1,h2⟩,h3⟩:=h
  exact ⟨h1,h2,h3⟩
 ·cases h)
structure kK where
 cs:List Cd
 os:List ByteArray
 ks:List Ko
 gs:List Ch
 bs:List Ba
 c:Int
 p:Int
 l:List Int
 n:Int
 i:Int
 out:List Int
def aBq (s:kK):List LV:=[.fn 57 [.xq 5 (fun j=>([.xl iJ s.cs,.xl .str s.os,.xl iQ s.ks,.xl gU s.gs,.xl iR s.bs]:List LV).getD j .junk),.xq 2 (fun j=>([.v (.int .i64 s.c),.v (.int .i64 s.p)]:List LV).getD j .junk)],.os 0 1 0 (List.length s.out),.xl (.int .i64) s.l,.v (.int .i64 s.n),.v (.int .i64 s.i)]
def aAC (s:kK):List aS:=[⟨[],3,.vec (.int .i64) s.out,false⟩]
noncomputable def Ce:Code:=((ay (Tryz.f56.body.getD .skip))[0]?).getD .skip
def Rj (s:kK):T (Rd kK):=
 .br (decide (s.i<s.n)) (.req (0≤s.i∧s.i<(List.length s.l:Int)) (.req ((0≤(gi s.l s.i)∧(gi s.l s.i)<(List.length s.gs:Int))∧0≤s.p) (.br (usA (bU s.gs (gi s.l s.i)).2.2.1 s.p) (.req (0+(List.length s.out)=List.length s.out∧((List.length s.out+List.length ([(gi s.l s.i)]):Nat):Int)*8≤2^47∧((List.length s.out+List.length ([(gi s.l s.i)]):Nat):Int)<2^62) (.req (0=0∧(List.length s.out+List.length ([(gi s.l s.i)]))=List.length (s.out++([(gi s.l s.i)]))) (.ok (.next {s with i:=(IntKind.i64.wrap (s.i+1)),out:=(s.out++([(gi s.l s.i)]))})))) (.rl s.out (.ok (.next {s with i:=(IntKind.i64.wrap (s.i+1))})))))) (.rl s.out (.ok (.stop (.exit 0) s)))
abbrev abw (s:kK):=(Rj s).rd s
def Vl (s:kK):Prop:=s.i=0∧s.out=[]∧s.n=(s.l.length:Int)∧s.n≤1000∧0≤s.p∧∀k∈s.l,0≤k∧k<(s.gs.length:Int)
def Nq (s:kK):Prop:=(0≤s.i∧s.i≤s.n)∧(s.out.length:Int)≤s.i∧s.n=(s.l.length:Int)∧s.n≤1000∧0≤s.p∧∀k∈s.l,0≤k∧k<(s.gs.length:Int)
def Ii (s:kK):Nat:=(s.n-s.i).toNat
def ajZ (x:Ex) (_ s':kK):Prop:=x=.exit 0∧s'.i=s'.n
theorem azr:∀s,Vl s→Nq s:=by
 intro s h
 obtain ⟨h0,h1,h2,h3,h4,h5⟩:=h
 exact ⟨by omega,by rw [h1];simp;omega,h2,h3,h4,h5⟩
theorem avt (s:kK) (hI:Nq s):bY (fun s'=>Nq s'∧Ii s'<Ii s) (fun x s'=>ajZ x s s') (abw s):=by
 unfold abw Rj
 dsimp only [T.rd,T.rl]
 obtain ⟨⟨h0,h1⟩,h2,h3,h4,h5,h6⟩:=hI
 refine ai (fun c1=>?_) (fun c1=>?_)
 ·have c1:s.i<s.n:=by simpa using c1
  rw [aF (x:=s.i+1) (by omega) (by omega)]
  refine ai (fun c2=>?_) (fun c2=>?_)
  ·exact ⟨⟨⟨by simp only;omega,by simp only;omega⟩,by simp only [List.length_append,List.length_cons,List.length_nil];omega,h3,h4,h5,h6⟩,by simp only [Ii];omega⟩
  ·exact ⟨⟨⟨by simp only;omega,by simp only;omega⟩,by simp only;omega,h3,h4,h5,h6⟩,by simp only [Ii];omega⟩
 ·have c1:s.n≤s.i:=by simpa using c1
  exact ⟨rfl,by omega⟩
def Fp:dn kK:=⟨0,23,[1,5,8,9,10],[.nl 5 3 (.int .i64)],aBq,aAC,fun v b=>⟨bf iJ (nN (gFn (v.getD 0 .junk) 0) 0),bf .str (nN (gFn (v.getD 0 .junk) 0) 1),bf iQ (nN (gFn (v.getD 0 .junk) 0) 2),bf gU (nN (gFn (v.getD 0 .junk) 0) 3),bf iR (nN (gFn (v.getD 0 .junk) 0) 4),gI (nN (gFn (v.getD 0 .junk) 1) 0),gI (nN (gFn (v.getD 0 .junk) 1) 1),bf (.int .i64) (v.getD 2 .junk),gI (v.getD 3 .junk),gI (v.getD 4 .junk),jm (.int .i64) (aV b 0)⟩,Rj,fun s r=> {r with cs:=s.cs,os:=s.os,ks:=s.ks,gs:=s.gs,bs:=s.bs,c:=s.c,p:=s.p,l:=s.l,n:=s.n},fun s=>s,fun _ s=>s,[.exit 0],Vl,Nq,Ii⟩
abbrev qx:=Fp.run
abbrev aoe:=Fp.lU
abbrev awz:=Fp.q
theorem atu (s:kK) (hI:Nq s):(Rj s).all (fun _=>True):=by
 refine ⟨fun c1=>⟨?_,?_,fun c2=>⟨?_,?_,trivial⟩,fun c2=>⟨⟨rfl,rfl⟩,trivial⟩⟩,fun c1=>⟨⟨rfl,rfl⟩,trivial⟩⟩
 all_goals ((obtain ⟨⟨h0,h1⟩,h2,h3,h4,h5,h6⟩:=hI;(try simp only [decide_eq_true_eq] at c1);first|omega|(refine ⟨h6 _ ?_,h5⟩;rw [jy (by omega)];exact List.getElem_mem _) |(refine ⟨by omega,?_,?_⟩<;>simp only [List.length_cons,List.length_nil]<;>omega) |exact ⟨rfl,by simp⟩ |exact ⟨rfl,rfl⟩))
noncomputable def ait:Specs:=bn [(57,Ju)]
theorem aqd:∀g S,ait g=some S→Valid Tryz.prog aT g S:=aX (l:=[(57,Ju)]) ⟨aeJ,trivial⟩
theorem Xa:Fp.Ok:=⟨fun s=>by kernel_rfl,fun s=>by kernel_rfl,fun s=>rfl,fun s t r=>rfl,fun s=>rfl,fun s=>by kernel_rfl⟩
theorem WB:Fp.Pf (ajZ):=⟨azr,fun _ _=>rfl,avt,atu⟩
theorem alD:bG Tryz.prog aT (AN 0) (.loop Ce) Fp.lp:=dn.snd Xa WB (bI (Γ:=ait) (K:=iU) (L:=aB) aqd aC Ce (fun b hb=>by rw [show ay Ce=[] by kernel_rfl] at hb;cases hb)) (fun s=>by kernel_rfl)
theorem aoA (s:kK) (hE:Vl s):∃s',Nq s'∧ajZ (aoe s) s' (qx s):=dn.fin Xa WB s hE
theorem aiP (s:kK) (hE:Vl s):(fun s:kK=>s.out++iI s.gs s.p (s.l.drop s.i.toNat)) (qx s)=(fun s:kK=>s.out++iI s.gs s.p (s.l.drop s.i.toNat)) s:=by
 exact dn.vP Xa WB (fun s:kK=>s.out++iI s.gs s.p (s.l.drop s.i.toNat)) (fun s hI=>by
  show bY _ _ (abw s)
  unfold abw Rj
  dsimp only [T.rd,T.rl]
  obtain ⟨⟨h0,h1⟩,h2,h3,h4,h5,h6⟩:=hI
  refine ai (fun c1=>?_) (fun c1=>rfl)
  have c1:s.i<s.n:=by simpa using c1
  rw [aF (x:=s.i+1) (by omega) (by omega)]
  refine ai (fun c2=>?_) (fun c2=>?_)
  ·show _++iI _ _ _=_++iI _ _ _
   rw [(gi_step h0 (show s.i<s.l.length by omega)).1]
   simp [iI,c2]
  ·show _++iI _ _ _=_++iI _ _ _
   rw [(gi_step h0 (show s.i<s.l.length by omega)).1]
   simp [iI,c2]) s hE
theorem aoz (s:kK) (hE:Vl s):(qx s).out=iI s.gs s.p s.l:=by
 obtain ⟨s',_,q1,q2⟩:=aoA s hE
 have q3:=aiP s hE
 obtain ⟨h0,h1,h2,h3⟩:=hE
 simp only at q3
 rw [q2,show (qx s).n=s.n from rfl,show (qx s).l=s.l from rfl,List.drop_eq_nil_of_le (by omega),h0,h1] at q3
 simpa [iI] using q3
def ac5:List LV→T LV
 | [.xl (.int .i64) l,.fn 57 [.xq 5 q0,.xq 2 q1]]=>(match ([q0 0,q0 1,q0 2,q0 3,q0 4]:List LV) with
  | [.xl (.pair .str (.pair (.int .i64) (.pair (.int .i64) (.pair (.int .i64) (.pair (.pair (.int .i64) (.int .i64)) (.pair (.int .i64) (.pair (.int .i64) (.pair (.int .i64) (.pair (.int .i64) (.int .i64)))))))))) _,.xl (.str) _,.xl (.pair .str (.pair (.int .i64) (.pair (.int .i64) (.int .i64)))) _,.xl (.pair .str (.pair (.int .i64) (.pair (.int .i64) (.pair (.int .i64) (.pair (.int .i64) (.pair (.int .i64) (.pair (.int .i64) (.int .i64)))))))) gs,.xl (.pair .str (.int .i64)) _]=>(match ([q1 0,q1 1]:List LV) with
  | [.v (.int .i64 _),.v (.int .i64 p)]=> .req (Ua gs p l) (.ok (.xl (.int .i64) (iI gs p l)))
  |_=> .no)
  |_=> .no)
 |_=> .no
noncomputable def Y1:List LV→T LV:=jR Tryz.prog Tryz.f56.params.toList ac5
theorem anb (l:List Int) (cs:List Cd) (os:List ByteArray) (ks:List Ko) (gs:List Ch) (bs:List Ba) (c p:Int):eX Tryz.prog aT (ait) iU (fun i=>if i=3 then Fp.lp else aB i) Tryz.f56 [.xl (.int .i64) l,.fn 57 [.xq 5 (fun j=>([.xl iJ cs,.xl .str os,.xl iQ ks,.xl gU gs,.xl iR bs]:List LV).getD j .junk),.xq 2 (fun j=>([.v (.int .i64 c),.v (.int .i64 p)]:List LV).getD j .junk)]]=.req (0=0∧0=List.length ([]:List Int)) (.req (awz (⟨cs,os,ks,gs,bs,c,p,l,(List.length l:Int),(0:Int),([]:List Int)⟩:kK)) (.req (0+(List.length (qx (⟨cs,os,ks,gs,bs,c,p,l,(List.length l:Int),(0:Int),([]:List Int)⟩:kK)).out)≤List.length (qx (⟨cs,os,ks,gs,bs,c,p,l,(List.length l:Int),(0:Int),([]:List Int)⟩:kK)).out) (.ok (.xl (.int .i64) (((qx (⟨cs,os,ks,gs,bs,c,p,l,(List.length l:Int),(0:Int),([]:List Int)⟩:kK)).out.drop 0).take (List.length (qx (⟨cs,os,ks,gs,bs,c,p,l,(List.length l:Int),(0:Int),([]:List Int)⟩:kK)).out)))))):=by kernel_rfl
theorem ar4:Valid Tryz.prog aT 56 Y1:=aJ Tryz.func56 rfl aqd aC (L:=(fun i=>if i=3 then Fp.lp else aB i)) (fun b hb=>by
 rw [show ay _=[Ce] by kernel_rfl] at hb
 simp only [List.mem_cons,List.not_mem_nil,or_false] at hb
 subst hb
 exact alD) (fun args lv h=>by
 unfold ac5 at h
 split at h
 ·split at h
  case h_2=>cases h
  rename_i heq0
  split at h
  case h_2=>cases h
  rename_i heq1
  simp only [canL,canX]
  rw [pI (n:=5) heq0]
  simp only [canL,canX]
  rw [pI (n:=2) heq1]
  simp only [canL,canX]
  rw [anb]
  obtain ⟨⟨hp,hl,hm⟩,rfl⟩:=h
  refine ⟨⟨rfl,rfl⟩,CB ⟨⟨rfl,rfl,rfl,by simp only;omega,hp,hm⟩,rfl,rfl⟩ (fun hE=>⟨by omega,?_⟩)⟩
  show LV.xl _ _=_
  rw [List.drop_zero,List.take_length,aoz _ hE.1]
 ·cases h)
end Go.Proofs.YtlihnbimgclogaaGreatDoor
namespace Go.Proofs.YtlihnbimgclogaaGreatDoor
open Go.Sx
noncomputable def afm:Array Tmp×Code×Code:=((kz (Tryz.f24.body.getD .skip))[0]?).getD (#[],.skip,.skip)
noncomputable def axS:Array Tmp:=afm.1
noncomputable def ax4:Code:=afm.2.1
noncomputable def axZ:Code:=afm.2.2
structure wB where
 n:Int
 c:Int
 af:List Cd
 aG:List ByteArray
 au:List Ko
 ah:List Ch
 aW:List Ba
 below:List Int
 dh:List Cd
 fF:List ByteArray
 dF:List Ko
 dM:List Ch
 jd:List Ba
 rows:List Rw
 st:LS
def aCs (s:wB):List LV:=[.vK 4,.v (.int .i64 s.n),.v (.int .i64 s.c)]
noncomputable def aCf (s:wB):List aS:=[⟨[.xl iJ s.af,.xl .str s.aG,.xl iQ s.au,.xl gU s.ah,.xl iR s.aW],28,.cl,true⟩,⟨[.os 5 2 0 (List.length s.rows)],49,.cl,false⟩,⟨[.xl (.int .i64) s.below],35,.cl,false⟩,⟨[.xl iJ s.dh,.xl .str s.fF,.xl iQ s.dF,.xl gU s.dM,.xl iR s.jd],28,.cl,false⟩,⟨[.junk,.own 0 0,.junk,.junk,.own 1 0,.own 2 0,.v (.tuple #[]),.v (.tuple #[]),.junk,.junk,.junk,.junk,.junk,.v (.tuple #[]),.v (.tuple #[]),.v (.tuple #[]),.v (.tuple #[]),.v (.tuple #[]),.v (.tuple #[]),.v (.tuple #[]),.v (.tuple #[]),.v (.tuple #[]),.v (.tuple #[]),.junk,.v (.tuple #[]),.v (.tuple #[]),.v (.tuple #[]),.v (.tuple #[]),.v (.tuple #[]),.v (.tuple #[]),.v (.tuple #[]),.v (.tuple #[]),.v (.tuple #[]),.v (.tuple #[]),.v (.tuple #[]),.v (.tuple #[]),.v (.tuple #[]),.v (.tuple #[]),.v (.tuple #[]),.v (.tuple #[]),.v (.tuple #[]),.v (.tuple #[]),.junk],0,.lG axS ax4 axZ s.st,false⟩,⟨[],107,.vec FI s.rows,false⟩]
noncomputable def ab8:Code:=((ay (Tryz.f101.body.getD .skip))[0]?).getD .skip
set_option maxHeartbeats 4000000 in
def akK (s:wB):T (Rd wB):=
 .br (decide (s.c<s.n)) (.req (Ua s.ah (0:Int) (dD s.af s.aG s.au s.ah s.aW s.c)) (.br (decide ((List.length (iI s.ah (0:Int) (dD s.af s.aG s.au s.ah s.aW s.c)):Int)>0)) (.req (0≤s.c∧s.c<(List.length s.af:Int)) (.req (0+(List.length s.rows)=List.length s.rows∧((List.length s.rows+List.length ([((eU (iw s.af s.c)),iI s.ah (0:Int) (dD s.af s.aG s.au s.ah s.aW s.c))]):Nat):Int)*32≤2^47∧((List.length s.rows+List.length ([((eU (iw s.af s.c)),iI s.ah (0:Int) (dD s.af s.aG s.au s.ah s.aW s.c))]):Nat):Int)<2^62) (.req (Ua s.ah (1:Int) (dD s.af s.aG s.au s.ah s.aW s.c)) (.br (decide ((List.length (iI s.ah (1:Int) (dD s.af s.aG s.au s.ah s.aW s.c)):Int)>0)) (.req (0≤s.c∧s.c<(List.length s.af:Int)) (.req (0+(List.length s.rows+List.length ([((eU (iw s.af s.c)),iI s.ah (0:Int) (dD s.af s.aG s.au s.ah s.aW s.c))]))=List.length (s.rows++([((eU (iw s.af s.c)),iI s.ah (0:Int) (dD s.af s.aG s.au s.ah s.aW s.c))]))∧((List.length s.rows+List.length ([((eU (iw s.af s.c)),iI s.ah (0:Int) (dD s.af s.aG s.au s.ah s.aW s.c))])+List.length ([((eU (iw s.af s.c)),iI s.ah (1:Int) (dD s.af s.aG s.au s.ah s.aW s.c))]):Nat):Int)*32≤2^47∧((List.length s.rows+List.length ([((eU (iw s.af s.c)),iI s.ah (0:Int) (dD s.af s.aG s.au s.ah s.aW s.c))])+List.length ([((eU (iw s.af s.c)),iI s.ah (1:Int) (dD s.af s.aG s.au s.ah s.aW s.c))]):Nat):Int)<2^62) (.req (Ua s.ah (2:Int) (dD s.af s.aG s.au s.ah s.aW s.c)) (.br (decide ((List.length (iI s.ah (2:Int) (dD s.af s.aG s.au s.ah s.aW s.c)):Int)>0)) (.req (0≤s.c∧s.c<(List.length s.af:Int)) (.req (0+(List.length s.rows+List.length ([((eU (iw s.af s.c)),iI s.ah (0:Int) (dD s.af s.aG s.au s.ah s.aW s.c))])+List.length ([((eU (iw s.af s.c)),iI s.ah (1:Int) (dD s.af s.aG s.au s.ah s.aW s.c))]))=List.length ((s.rows++([((eU (iw s.af s.c)),iI s.ah (0:Int) (dD s.af s.aG s.au s.ah s.aW s.c))]))++([((eU (iw s.af s.c)),iI s.ah (1:Int) (dD s.af s.aG s.au s.ah s.aW s.c))]))∧((List.length s.rows+List.length ([((eU (iw s.af s.c)),iI s.ah (0:Int) (dD s.af s.aG s.au s.ah s.aW s.c))])+List.length ([((eU (iw s.af s.c)),iI s.ah (1:Int) (dD s.af s.aG s.au s.ah s.aW s.c))])+List.length ([((eU (iw s.af s.c)),iI s.ah (2:Int) (dD s.af s.aG s.au s.ah s.aW s.c))]):Nat):Int)*32≤2^47∧((List.length s.rows+List.length ([((eU (iw s.af s.c)),iI s.ah (0:Int) (dD s.af s.aG s.au s.ah s.aW s.c))])+List.length ([((eU (iw s.af s.c)),iI s.ah (1:Int) (dD s.af s.aG s.au s.ah s.aW s.c))])+List.length ([((eU (iw s.af s.c)),iI s.ah (2:Int) (dD s.af s.aG s.au s.ah s.aW s.c))]):Nat):Int)<2^62) (.req (0=0∧(List.length s.rows+List.length ([((eU (iw s.af s.c)),iI s.ah (0:Int) (dD s.af s.aG s.au s.ah s.aW s.c))])+List.length ([((eU (iw s.af s.c)),iI s.ah (1:Int) (dD s.af s.aG s.au s.ah s.aW s.c))])+List.length ([((eU (iw s.af s.c)),iI s.ah (2:Int) (dD s.af s.aG s.au s.ah s.aW s.c))]))=List.length (((s.rows++([((eU (iw s.af s.c)),iI s.ah (0:Int) (dD s.af s.aG s.au s.ah s.aW s.c))]))++([((eU (iw s.af s.c)),iI s.ah (1:Int) (dD s.af s.aG s.au s.ah s.aW s.c))]))++([((eU (iw s.af s.c)),iI s.ah (2:Int) (dD s.af s.aG s.au s.ah s.aW s.c))]))) (.ok (.next {s with c:=(IntKind.i64.wrap (s.c+1)),below:=(dD s.af s.aG s.au s.ah s.aW s.c),rows:=(((s.rows++([((eU (iw s.af s.c)),iI s.ah (0:Int) (dD s.af s.aG s.au s.ah s.aW s.c))]))++([((eU (iw s.af s.c)),iI s.ah (1:Int) (dD s.af s.aG s.au s.ah s.aW s.c))]))++([((eU (iw s.af s.c)),iI s.ah (2:Int) (dD s.af s.aG s.au s.ah s.aW s.c))]))}))))) (.req (0=0∧(List.length s.rows+List.length ([((eU (iw s.af s.c)),iI s.ah (0:Int) (dD s.af s.aG s.au s.ah s.aW s.c))])+List.length ([((eU (iw s.af s.c)),iI s.ah (1:Int) (dD s.af s.aG s.au s.ah s.aW s.c))]))=List.length ((s.rows++([((eU (iw s.af s.c)),iI s.ah (0:Int) (dD s.af s.aG s.au s.ah s.aW s.c))]))++([((eU (iw s.af s.c)),iI s.ah (1:Int) (dD s.af s.aG s.au s.ah s.aW s.c))]))) (.ok (.next {s with c:=(IntKind.i64.wrap (s.c+1)),below:=(dD s.af s.aG s.au s.ah s.aW s.c),rows:=((s.rows++([((eU (iw s.af s.c)),iI s.ah (0:Int) (dD s.af s.aG s.au s.ah s.aW s.c))]))++([((eU (iw s.af s.c)),iI s.ah (1:Int) (dD s.af s.aG s.au s.ah s.aW s.c))]))}))))))) (.req (Ua s.ah (2:Int) (dD s.af s.aG s.au s.ah s.aW s.c)) (.br (decide ((List.length (iI s.ah (2:Int) (dD s.af s.aG s.au s.ah s.aW s.c)):Int)>0)) (.req (0≤s.c∧s.c<(List.length s.af:Int)) (.req (0+(List.length s.rows+List.length ([((eU (iw s.af s.c)),iI s.ah (0:Int) (dD s.af s.aG s.au s.ah s.aW s.c))]))=List.length (s.rows++([((eU (iw s.af s.c)),iI s.ah (0:Int) (dD s.af s.aG s.au s.ah s.aW s.c))]))∧((List.length s.rows+List.length ([((eU (iw s.af s.c)),iI s.ah (0:Int) (dD s.af s.aG s.au s.ah s.aW s.c))])+List.length ([((eU (iw s.af s.c)),iI s.ah (2:Int) (dD s.af s.aG s.au s.ah s.aW s.c))]):Nat):Int)*32≤2^47∧((List.length s.rows+List.length ([((eU (iw s.af s.c)),iI s.ah (0:Int) (dD s.af s.aG s.au s.ah s.aW s.c))])+List.length ([((eU (iw s.af s.c)),iI s.ah (2:Int) (dD s.af s.aG s.au s.ah s.aW s.c))]):Nat):Int)<2^62) (.req (0=0∧(List.length s.rows+List.length ([((eU (iw s.af s.c)),iI s.ah (0:Int) (dD s.af s.aG s.au s.ah s.aW s.c))])+List.length ([((eU (iw s.af s.c)),iI s.ah (2:Int) (dD s.af s.aG s.au s.ah s.aW s.c))]))=List.length ((s.rows++([((eU (iw s.af s.c)),iI s.ah (0:Int) (dD s.af s.aG s.au s.ah s.aW s.c))]))++([((eU (iw s.af s.c)),iI s.ah (2:Int) (dD s.af s.aG s.au s.ah s.aW s.c))]))) (.ok (.next {s with c:=(IntKind.i64.wrap (s.c+1)),below:=(dD s.af s.aG s.au s.ah s.aW s.c),rows:=((s.rows++([((eU (iw s.af s.c)),iI s.ah (0:Int) (dD s.af s.aG s.au s.ah s.aW s.c))]))++([((eU (iw s.af s.c)),iI s.ah (2:Int) (dD s.af s.aG s.au s.ah s.aW s.c))]))}))))) (.req (0=0∧(List.length s.rows+List.length ([((eU (iw s.af s.c)),iI s.ah (0:Int) (dD s.af s.aG s.au s.ah s.aW s.c))]))=List.length (s.rows++([((eU (iw s.af s.c)),iI s.ah (0:Int) (dD s.af s.aG s.au s.ah s.aW s.c))]))) (.ok (.next {s with c:=(IntKind.i64.wrap (s.c+1)),below:=(dD s.af s.aG s.au s.ah s.aW s.c),rows:=(s.rows++([((eU (iw s.af s.c)),iI s.ah (0:Int) (dD s.af s.aG s.au s.ah s.aW s.c))]))}))))))))) (.req (Ua s.ah (1:Int) (dD s.af s.aG s.au s.ah s.aW s.c)) (.br (decide ((List.length (iI s.ah (1:Int) (dD s.af s.aG s.au s.ah s.aW s.c)):Int)>0)) (.req (0≤s.c∧s.c<(List.length s.af:Int)) (.req (0+(List.length s.rows)=List.length s.rows∧((List.length s.rows+List.length ([((eU (iw s.af s.c)),iI s.ah (1:Int) (dD s.af s.aG s.au s.ah s.aW s.c))]):Nat):Int)*32≤2^47∧((List.length s.rows+List.length ([((eU (iw s.af s.c)),iI s.ah (1:Int) (dD s.af s.aG s.au s.ah s.aW s.c))]):Nat):Int)<2^62) (.req (Ua s.ah (2:Int) (dD s.af s.aG s.au s.ah s.aW s.c)) (.br (decide ((List.length (iI s.ah (2:Int) (dD s.af s.aG s.au s.ah s.aW s.c)):Int)>0)) (.req (0≤s.c∧s.c<(List.length s.af:Int)) (.req (0+(List.length s.rows+List.length ([((eU (iw s.af s.c)),iI s.ah (1:Int) (dD s.af s.aG s.au s.ah s.aW s.c))]))=List.length (s.rows++([((eU (iw s.af s.c)),iI s.ah (1:Int) (dD s.af s.aG s.au s.ah s.aW s.c))]))∧((List.length s.rows+List.length ([((eU (iw s.af s.c)),iI s.ah (1:Int) (dD s.af s.aG s.au s.ah s.aW s.c))])+List.length ([((eU (iw s.af s.c)),iI s.ah (2:Int) (dD s.af s.aG s.au s.ah s.aW s.c))]):Nat):Int)*32≤2^47∧((List.length s.rows+List.length ([((eU (iw s.af s.c)),iI s.ah (1:Int) (dD s.af s.aG s.au s.ah s.aW s.c))])+List.length ([((eU (iw s.af s.c)),iI s.ah (2:Int) (dD s.af s.aG s.au s.ah s.aW s.c))]):Nat):Int)<2^62) (.req (0=0∧(List.length s.rows+List.length ([((eU (iw s.af s.c)),iI s.ah (1:Int) (dD s.af s.aG s.au s.ah s.aW s.c))])+List.length ([((eU (iw s.af s.c)),iI s.ah (2:Int) (dD s.af s.aG s.au s.ah s.aW s.c))]))=List.length ((s.rows++([((eU (iw s.af s.c)),iI s.ah (1:Int) (dD s.af s.aG s.au s.ah s.aW s.c))]))++([((eU (iw s.af s.c)),iI s.ah (2:Int) (dD s.af s.aG s.au s.ah s.aW s.c))]))) (.ok (.next {s with c:=(IntKind.i64.wrap (s.c+1)),below:=(dD s.af s.aG s.au s.ah s.aW s.c),rows:=((s.rows++([((eU (iw s.af s.c)),iI s.ah (1:Int) (dD s.af s.aG s.au s.ah s.aW s.c))]))++([((eU (iw s.af s.c)),iI s.ah (2:Int) (dD s.af s.aG s.au s.ah s.aW s.c))]))}))))) (.req (0=0∧(List.length s.rows+List.length ([((eU (iw s.af s.c)),iI s.ah (1:Int) (dD s.af s.aG s.au s.ah s.aW s.c))]))=List.length (s.rows++([((eU (iw s.af s.c)),iI s.ah (1:Int) (dD s.af s.aG s.au s.ah s.aW s.c))]))) (.ok (.next {s with c:=(IntKind.i64.wrap (s.c+1)),below:=(dD s.af s.aG s.au s.ah s.aW s.c),rows:=(s.rows++([((eU (iw s.af s.c)),iI s.ah (1:Int) (dD s.af s.aG s.au s.ah s.aW s.c))]))}))))))) (.req (Ua s.ah (2:Int) (dD s.af s.aG s.au s.ah s.aW s.c)) (.br (decide ((List.length (iI s.ah (2:Int) (dD s.af s.aG s.au s.ah s.aW s.c)):Int)>0)) (.req (0≤s.c∧s.c<(List.length s.af:Int)) (.req (0+(List.length s.rows)=List.length s.rows∧((List.length s.rows+List.length ([((eU (iw s.af s.c)),iI s.ah (2:Int) (dD s.af s.aG s.au s.ah s.aW s.c))]):Nat):Int)*32≤2^47∧((List.length s.rows+List.length ([((eU (iw s.af s.c)),iI s.ah (2:Int) (dD s.af s.aG s.au s.ah s.aW s.c))]):Nat):Int)<2^62) (.req (0=0∧(List.length s.rows+List.length ([((eU (iw s.af s.c)),iI s.ah (2:Int) (dD s.af s.aG s.au s.ah s.aW s.c))]))=List.length (s.rows++([((eU (iw s.af s.c)),iI s.ah (2:Int) (dD s.af s.aG s.au s.ah s.aW s.c))]))) (.ok (.next {s with c:=(IntKind.i64.wrap (s.c+1)),below:=(dD s.af s.aG s.au s.ah s.aW s.c),rows:=(s.rows++([((eU (iw s.af s.c)),iI s.ah (2:Int) (dD s.af s.aG s.au s.ah s.aW s.c))]))}))))) (.rl s.rows (.ok (.next {s with c:=(IntKind.i64.wrap (s.c+1)),below:=(dD s.af s.aG s.au s.ah s.aW s.c)}))))))))) (.rl s.rows (.ok (.stop (.exit 0) s)))
abbrev aza (s:wB):=(akK s).rd s
def aoS (s:wB):Prop:=s.st=.ready∧s.c=0∧s.rows=[]∧iF s.af s.aG s.au s.ah s.aW=true∧s.n=(s.af.length:Int)
def aeh (s:wB):Prop:=s.st=.ready∧(0≤s.c∧s.c≤s.n)∧s.rows=lm s.af s.ah s.c.toNat∧iF s.af s.aG s.au s.ah s.aW=true∧s.n=(s.af.length:Int)
def aax (s:wB):Nat:=(s.n-s.c).toNat
def avL (x:Ex) (_ s':wB):Prop:=x=.exit 0∧s'.rows=lm s'.af s'.ah s'.af.length
theorem aBJ:∀s,aoS s→aeh s:=by
 intro s h
 obtain ⟨h0,h1,h2,h3,h4⟩:=h
 exact ⟨h0,by omega,by rw [h1,h2];rfl,h3,h4⟩
theorem axB (s:wB) (hI:aeh s):bY (fun s'=>aeh s'∧aax s'<aax s) (fun x s'=>avL x s s') (aza s):=by
 unfold aza akK
 dsimp only [T.rd,T.rl]
 obtain ⟨h0,⟨h1,h2⟩,h3,h4,h5⟩:=hI
 refine ai (fun c1=>?_) (fun c1=>?_)
 rotate_left
 ·have c1:s.n≤s.c:=by simpa using c1
  exact ⟨rfl,by rw [h3,show s.c.toNat=s.af.length by omega]⟩
 have c1:s.c<s.n:=by simpa using c1
 have hl:=(jq.1 h4).1
 rw [aF (x:=s.c+1) (by omega) (by omega)]
 have eb:dD s.af s.aG s.au s.ah s.aW s.c=uq s.af s.ah s.c s.ah.length:=by
  unfold dD
  rw [if_pos ⟨h4,h1,by omega⟩]
 rw [eb]
 have fin:∀r:List Rw,r=lm s.af s.ah s.c.toNat++(rowP s.af s.ah s.c 0++rowP s.af s.ah s.c 1++rowP s.af s.ah s.c 2)→r=lm s.af s.ah (s.c+1).toNat:=fun r hr=>by
  rw [hr,show (s.c+1).toNat=s.c.toNat+1 by omega,lm,Int.toNat_of_nonneg h1]
  rfl
 refine ai (fun c2=>?_) (fun c2=>?_)<;>refine ai (fun c3=>?_) (fun c3=>?_)<;>refine ai (fun c4=>?_) (fun c4=>?_)
 all_goals
  refine ⟨⟨h0,⟨by simp only;omega,by simp only;omega⟩,?_,h4,h5⟩,by simp only [aax];omega⟩
  simp only [decide_eq_true_eq,decide_eq_false_iff_not] at c2 c3 c4
  refine fin _ ?_
  simp only [h3,rowP]
  first|rw [if_pos (by omega)] |rw [if_neg (by omega)]
  first|rw [if_pos (by omega)] |rw [if_neg (by omega)]
  first|rw [if_pos (by omega)] |rw [if_neg (by omega)]
  simp only [List.append_assoc,List.nil_append,List.append_nil]
noncomputable def Y9:dn wB:=⟨5,22,[0,7,8],[.nc 1 0 107 FI,.pc 2 0 (.int .i64),.pk 0],aCs,aCf,fun v b=>⟨gI (v.getD 1 .junk),gI (v.getD 2 .junk),bf iJ (bC (aV b 0) 0),bf .str (bC (aV b 0) 1),bf iQ (bC (aV b 0) 2),bf gU (bC (aV b 0) 3),bf iR (bC (aV b 0) 4),bf (.int .i64) (bC (aV b 2) 0),bf iJ (bC (aV b 3) 0),bf .str (bC (aV b 3) 1),bf iQ (bC (aV b 3) 2),bf gU (bC (aV b 3) 3),bf iR (bC (aV b 3) 4),jm FI (aV b 5),.ready⟩,akK,fun s r=> {r with n:=s.n,af:=s.af,aG:=s.aG,au:=s.au,ah:=s.ah,aW:=s.aW,dh:=s.dh,fF:=s.fF,dF:=s.dF,dM:=s.dM,jd:=s.jd,st:=s.st},fun s=> {s with st:=.ready},fun x s=> {s with st:=(match x with| .exit 0=> .ready|_=> .ready)},[.exit 0],aoS,aeh,aax⟩
noncomputable abbrev Dk:=Y9.run
noncomputable abbrev au6:=Y9.lU
abbrev azO:=Y9.q
noncomputable def Ez:Specs:=bn [(53,Js),(55,Qq),(56,Y1),(57,Ju),(58,YH)]
theorem IJ:∀g S,Ez g=some S→Valid Tryz.prog aT g S:=aX (l:=[(53,Js),(55,Qq),(56,Y1),(57,Ju),(58,YH)]) ⟨aeH,akH,ar4,aeJ,arK,trivial⟩
noncomputable def ah0:Hand:=inl Tryz.prog aT Ez (jo Tryz.prog aT (Ez) 20 2) 9
theorem apS:cO Tryz.prog aT ah0:=bJ IJ (dw IJ) 9
theorem axL (s:wB) (hI:aeh s):(akK s).all (fun _=>True):=by
 refine ⟨fun c1=>⟨?_,fun c2=>⟨?_,?_,?_,fun c3=>⟨?_,?_,?_,fun c4=>⟨?_,?_,?_,trivial⟩,fun c4=>⟨?_,trivial⟩⟩,fun c3=>⟨?_,fun c5=>⟨?_,?_,?_,trivial⟩,fun c5=>⟨?_,trivial⟩⟩⟩,fun c2=>⟨?_,fun c6=>⟨?_,?_,?_,fun c7=>⟨?_,?_,?_,trivial⟩,fun c7=>⟨?_,trivial⟩⟩,fun c6=>⟨?_,fun c8=>⟨?_,?_,?_,trivial⟩,fun c8=>⟨⟨rfl,rfl⟩,trivial⟩⟩⟩⟩,fun c1=>⟨⟨rfl,rfl⟩,trivial⟩⟩
 all_goals ((obtain ⟨h0,⟨h1,h2⟩,h3,h4,h5⟩:=hI;have hl:=(jq.1 h4).1;(try simp only [decide_eq_true_eq] at c1);have hr:s.rows.length≤3*s.c.toNat:=(by rw [h3];exact Af);have eb:dD s.af s.aG s.au s.ah s.aW s.c=uq s.af s.ah s.c s.ah.length:=(by unfold dD;rw [if_pos ⟨h4,h1,by omega⟩]);first|omega|((try simp only);rw [eb];refine ⟨by decide,Nat.le_trans Jj (by omega),fun k hk=>Uw hk⟩) |(refine ⟨by omega,?_,?_⟩<;>simp only [List.length_cons,List.length_nil]<;>omega) |(simp only [List.length_append,List.length_cons,List.length_nil];omega) |exact ⟨rfl,by simp⟩ |exact ⟨rfl,rfl⟩))
theorem apw:Y9.Ok:=⟨fun s=>by kernel_rfl,fun s=>by kernel_rfl,fun s=>rfl,fun s t r=>rfl,fun s=>rfl,fun s=>by kernel_rfl⟩
theorem aph:Y9.Pf (avL):=⟨aBJ,fun s h=>by
 obtain ⟨n,c,af,aG,au,ah,aW,below,dh,fF,dF,dM,jd,rows,st⟩:=s
 have e:st=.ready:=h.1
 subst e
 rfl,axB,axL⟩
theorem asr:bG Tryz.prog aT (AN 5) (.loop ab8) Y9.lp:=dn.snd apw aph (aZ (Γ:=Ez) (K:=ah0) (L:=(mP Tryz.prog aT Ez ah0 20 2)) IJ apS ab8 (fun b _=>cu IJ apS 20 2 b)) (fun s=>by kernel_rfl)
theorem asD (s:wB) (hE:aoS s):∃s',aeh s'∧avL (au6 s) s' (Dk s):=dn.fin apw aph s hE
def acw:List LV→T LV
 | [.agg [.xl (.pair .str (.pair (.int .i64) (.pair (.int .i64) (.pair (.int .i64) (.pair (.pair (.int .i64) (.int .i64)) (.pair (.int .i64) (.pair (.int .i64) (.pair (.int .i64) (.pair (.int .i64) (.int .i64)))))))))) cs,.xl (.str) os,.xl (.pair .str (.pair (.int .i64) (.pair (.int .i64) (.int .i64)))) ks,.xl (.pair .str (.pair (.int .i64) (.pair (.int .i64) (.pair (.int .i64) (.pair (.int .i64) (.pair (.int .i64) (.pair (.int .i64) (.int .i64)))))))) gs,.xl (.pair .str (.int .i64)) bs]]=> .ok (.jg [.xl FI (iY cs os ks gs bs),.v (.int .i64 (N8 cs os ks gs bs))])
 |_=> .no
noncomputable def oC:List LV→T LV:=jR Tryz.prog Tryz.f24.params.toList acw
noncomputable def ap1:Hand:=inl Tryz.prog aT Ez (dG 101 5 1 (Y9.lp) (jo Tryz.prog aT (Ez) 20 2)) 9
theorem ayI:cO Tryz.prog aT ap1:=bJ IJ (aP Tryz.func101 rfl (by kernel_rfl) asr (dw IJ)) 9
theorem amy (cs:List Cd) (os:List ByteArray) (ks:List Ko) (gs:List Ch) (bs:List Ba):eX Tryz.prog aT (Ez) ap1 aB Tryz.f24 [.agg [.xl iJ cs,.xl .str os,.xl iQ ks,.xl gU gs,.xl iR bs]]=.br (!(iF cs os ks gs bs)) (.ok (.jg [.xl FI ([]:List Rw),.v (.int .i64 1)])) (.req (0=0∧0=List.length ([]:List Rw)) (.req (azO (⟨(List.length cs:Int),(0:Int),cs,os,ks,gs,bs,([]:List Int),cs,os,ks,gs,bs,([]:List Rw),.ready⟩:wB)) (.req (0+(List.length (Dk (⟨(List.length cs:Int),(0:Int),cs,os,ks,gs,bs,([]:List Int),cs,os,ks,gs,bs,([]:List Rw),.ready⟩:wB)).rows)≤List.length (Dk (⟨(List.length cs:Int),(0:Int),cs,os,ks,gs,bs,([]:List Int),cs,os,ks,gs,bs,([]:List Rw),.ready⟩:wB)).rows) (.ok (.jg [.xl FI (((Dk (⟨(List.length cs:Int),(0:Int),cs,os,ks,gs,bs,([]:List Int),cs,os,ks,gs,bs,([]:List Rw),.ready⟩:wB)).rows.drop 0).take (List.length (Dk (⟨(List.length cs:Int),(0:Int),cs,os,ks,gs,bs,([]:List Int),cs,os,ks,gs,bs,([]:List Rw),.ready⟩:wB)).rows)),.v (.int .i64 0)]))))):=by kernel_rfl
theorem C9:Valid Tryz.prog aT 24 oC:=aJ Tryz.func24 rfl IJ ayI (bF (by kernel_rfl)) (fun args lv h=>by
 unfold acw at h
 split at h
 ·simp only [canL,canX]
  rw [amy]
  rename_i cs os ks gs bs
  obtain rfl:=h
  refine ⟨fun c=>?_,fun c=>?_⟩
  ·have c:iF cs os ks gs bs=false:=by simpa using c
   show LV.jg _=_
   unfold iY N8
   rw [c]
   rfl
  ·have c:iF cs os ks gs bs=true:=by simpa using c
   have hE:aoS ⟨(List.length cs:Int),(0:Int),cs,os,ks,gs,bs,([]:List Int),cs,os,ks,gs,bs,([]:List (Int×(List Int))),.ready⟩:=⟨rfl,rfl,rfl,c,rfl⟩
   obtain ⟨s',_,q1,q2⟩:=asD _ hE
   have q2:(Dk ⟨(List.length cs:Int),(0:Int),cs,os,ks,gs,bs,([]:List Int),cs,os,ks,gs,bs,([]:List (Int×(List Int))),.ready⟩).rows=lm cs gs cs.length:=q2
   refine ⟨⟨rfl,rfl⟩,⟨hE,rfl,rfl⟩,by omega,?_⟩
   show LV.jg [LV.xl _ _,_]=_
   rw [List.drop_zero,List.take_length,q2]
   unfold iY N8
   rw [if_pos c,if_pos c]
 ·cases h)
end Go.Proofs.YtlihnbimgclogaaGreatDoor
namespace Go.Proofs.YtlihnbimgclogaaGreatDoor
open Go.Sx
def L6:List LV→T LV
 | [.v (.int .i64 n),.v (.int .i64 a),.v (.int .i64 b)]=> .ok (.v (.bool (inB n a b)))
 |_=> .no
noncomputable def xJ:List LV→T LV:=jR Tryz.prog Tryz.f140.params.toList L6
noncomputable def AX:Specs:=bn []
theorem Ep:∀g S,AX g=some S→Valid Tryz.prog aT g S:=aX (l:=[]) trivial
theorem adS (n a b:Int):eX Tryz.prog aT (AX) iU aB Tryz.f140 [.v (.int .i64 n),.v (.int .i64 a),.v (.int .i64 b)]=.ok (.v (.bool ((decide (n≥a))&&(decide (n≤b))))):=by kernel_rfl
theorem QG:Valid Tryz.prog aT 140 xJ:=aJ Tryz.func140 rfl Ep aC (bF (by kernel_rfl)) (fun args lv h=>by
 unfold L6 at h
 split at h
 ·simp only [canL,canX]
  rw [adS]
  exact h
 ·cases h)
def ajg:List LV→T LV
 | [.v (.agg ⟨[.string _,.int .i64 _,.int .i64 ph,.int .i64 mn,.int .i64 mx,.int .i64 st,.int .i64 fb,.int .i64 _]⟩)]=> .ok (.v (.bool (chR ph mn mx st fb)))
 |_=> .no
noncomputable def ai5:List LV→T LV:=jR Tryz.prog Tryz.f139.params.toList ajg
noncomputable def aqn:Specs:=bn [(140,xJ)]
theorem ayX:∀g S,aqn g=some S→Valid Tryz.prog aT g S:=aX (l:=[(140,xJ)]) ⟨QG,trivial⟩
theorem atY (nm:ByteArray) (at_ ph mn mx st fb ow:Int):eX Tryz.prog aT (aqn) iU aB Tryz.f139 [.v (.agg #[.string nm,.int .i64 at_,.int .i64 ph,.int .i64 mn,.int .i64 mx,.int .i64 st,.int .i64 fb,.int .i64 ow])]=.ok (.v (.bool ((inB ph (1:Int) (7:Int))&&((inB mn (1:Int) (80:Int))&&((inB mx (1:Int) (80:Int))&&((inB st (1:Int) (80:Int))&&((decide (mn≤mx))&&((fb==0) ||(inB fb mn mx))))))))):=by kernel_rfl
theorem aw9:Valid Tryz.prog aT 139 ai5:=aJ Tryz.func139 rfl ayX aC (bF (by kernel_rfl)) (fun args lv h=>by
 unfold ajg at h
 split at h
 ·simp only [canL,canX]
  rw [atY]
  exact h
 ·cases h)
def UI:List LV→T LV
 | []=> .ok (.v (.agg #[.int .i64 0,.int .i64 0,.int .i64 0,.bool false]))
 |_=> .no
noncomputable def CJ:List LV→T LV:=jR Tryz.prog Tryz.f114.params.toList UI
theorem ag5  :eX Tryz.prog aT (AX) iU aB Tryz.f114 []=.ok (.v (.agg #[.int .i64 0,.int .i64 0,.int .i64 0,.bool false])):=by kernel_rfl
theorem Zd:Valid Tryz.prog aT 114 CJ:=aJ Tryz.func114 rfl Ep aC (bF (by kernel_rfl)) (fun args lv h=>by
 unfold UI at h
 split at h
 ·simp only [canL]
  rw [ag5]
  exact h
 ·cases h)
def ajs:List LV→T LV
 | [.v (.agg ⟨[.string _,.int .i64 _,.int .i64 ph,.int .i64 mn,.int .i64 mx,.int .i64 st,.int .i64 fb,.int .i64 _]⟩),.v (.agg ⟨[.int .i64 0,.int .i64 0,.int .i64 0,.bool false]⟩)]=> .ok (.v (.bool (chR ph mn mx st fb)))
 |_=> .no
noncomputable def ajd:List LV→T LV:=jR Tryz.prog Tryz.f113.params.toList ajs
noncomputable def aqm:Specs:=bn [(114,CJ),(139,ai5),(140,xJ)]
theorem ayW:∀g S,aqm g=some S→Valid Tryz.prog aT g S:=aX (l:=[(114,CJ),(139,ai5),(140,xJ)]) ⟨Zd,aw9,QG,trivial⟩
theorem aui (nm:ByteArray) (at_ ph mn mx st fb ow:Int):eX Tryz.prog aT (aqm) iU aB Tryz.f113 [.v (.agg #[.string nm,.int .i64 at_,.int .i64 ph,.int .i64 mn,.int .i64 mx,.int .i64 st,.int .i64 fb,.int .i64 ow]),.v (.agg #[.int .i64 0,.int .i64 0,.int .i64 0,.bool false])]=.br (!(chR ph mn mx st fb)) (.ok (.v (.bool false))) (.br (((0:Int)==0)&&(((0:Int)==0)&&(((0:Int)==0)&&(false==false)))) (.ok (.v (.bool true))) (.ok (.v (.bool ((inB (0:Int) (0:Int) (5:Int))&&((inB (0:Int) (0:Int) (1000000:Int))&&((inB (0:Int) (0:Int) mx)&&(if (0:Int) !=0 then (!false) ||((0:Int)==5) else ((0:Int)==0)&&((!false) ||((0:Int)==5)))))))))):=by kernel_rfl
theorem axh:Valid Tryz.prog aT 113 ajd:=aJ Tryz.func113 rfl ayW aC (bF (by kernel_rfl)) (fun args lv h=>by
 unfold ajs at h
 split at h
 ·simp only [canL,canX]
  rw [aui]
  obtain rfl:=h
  refine ⟨fun hb=>?_,fun hb=>⟨fun _=>?_,fun hf=>absurd hf (by decide)⟩⟩
  ·show LV.v (.bool false)=_
   rw [show chR _ _ _ _ _=false by simpa using hb]
  ·show LV.v (.bool true)=_
   rw [show chR _ _ _ _ _=true by simpa using hb]
 ·cases h)
def acz:List LV→T LV
 | [.v (.agg ⟨[.string _,.int .i64 _,.int .i64 _,.int .i64 mn,.int .i64 mx,.int .i64 st,.int .i64 _,.int .i64 _]⟩),.v (.int .i64 am)]=> .req (chP mn mx st) (.ok (.v (.int .i64 (yQ mn mx st am))))
 |_=> .no
noncomputable def Jv:List LV→T LV:=jR Tryz.prog Tryz.f73.params.toList acz
theorem amB (nm:ByteArray) (at_ ph mn mx st fb ow am:Int):eX Tryz.prog aT (AX) iU aB Tryz.f73 [.v (.agg #[.string nm,.int .i64 at_,.int .i64 ph,.int .i64 mn,.int .i64 mx,.int .i64 st,.int .i64 fb,.int .i64 ow]),.v (.int .i64 am)]=.br (decide (am<mn)) (.ok (.v (.int .i64 0))) (.req (st≠0) (.ok (.v (.int .i64 (IntKind.i64.wrap ((if mx<am then mx else am)-((IntKind.i64.wrap ((if mx<am then mx else am)-mn)).tmod st))))))):=by kernel_rfl
theorem aeK:Valid Tryz.prog aT 73 Jv:=aJ Tryz.func73 rfl Ep aC (bF (by kernel_rfl)) (fun args lv h=>by
 unfold acz at h
 split at h
 ·simp only [canL,canX]
  rw [amB]
  obtain ⟨hc,rfl⟩:=h
  refine ⟨fun hb=>?_,fun hb=>⟨by unfold chP at hc;omega,?_⟩⟩
  ·exact congrArg (fun z=>LV.v (.int .i64 z)) (avz (by simpa using hb))
  ·exact congrArg (fun z=>LV.v (.int .i64 z)) (avy hc (by simpa using hb))
 ·cases h)
def ajh:List LV→T LV
 | [.v (.agg ⟨[.string _,.int .i64 _,.int .i64 ph,.int .i64 mn,.int .i64 mx,.int .i64 st,.int .i64 fb,.int .i64 _]⟩),.v (.agg ⟨[.int .i64 a,.int .i64 si]⟩)]=> .ok (.v (.bool (Vr ph mn mx st fb a si)))
 |_=> .no
noncomputable def UF:List LV→T LV:=jR Tryz.prog Tryz.f69.params.toList ajh
noncomputable def aql:Specs:=bn [(73,Jv),(113,ajd),(114,CJ)]
theorem ayV:∀g S,aql g=some S→Valid Tryz.prog aT g S:=aX (l:=[(73,Jv),(113,ajd),(114,CJ)]) ⟨aeK,axh,Zd,trivial⟩
theorem at1 (nm:ByteArray) (at_ ph mn mx st fb ow a si:Int):eX Tryz.prog aT (aql) iU aB Tryz.f69 [.v (.agg #[.string nm,.int .i64 at_,.int .i64 ph,.int .i64 mn,.int .i64 mx,.int .i64 st,.int .i64 fb,.int .i64 ow]),.v (.agg #[.int .i64 a,.int .i64 si])]=.br ((!(chR ph mn mx st fb)) ||((decide (si<0)) ||((decide (si>1000000)) ||(decide (a<0))))) (.ok (.v (.bool false))) (.req (chP mn mx st) (.ok (.v (.bool ((yQ mn mx st a)==a))))):=by kernel_rfl
theorem aoX:Valid Tryz.prog aT 69 UF:=aJ Tryz.func69 rfl ayV aC (bF (by kernel_rfl)) (fun args lv h=>by
 unfold ajh at h
 split at h
 ·simp only [canL,canX]
  rw [at1]
  obtain rfl:=h
  refine ⟨fun hb=>?_,fun hb=>⟨?_,?_⟩⟩
  ·exact congrArg (fun z=>LV.v (.bool z)) (aBM hb)
  ·exact (ax1 hb).1
  ·exact congrArg (fun z=>LV.v (.bool z)) (ax1 hb).2
 ·cases h)
def UO:List LV→T LV
 | [.v (.bool b)]=> .ok (.v (.int .i64 (if b then (1:Int) else 0)))
 |_=> .no
noncomputable def Qn:List LV→T LV:=jR Tryz.prog Tryz.f78.params.toList UO
theorem ahb (b:Bool):eX Tryz.prog aT (AX) iU aB Tryz.f78 [.v (.bool b)]=.br b (.ok (.v (.int .i64 1))) (.ok (.v (.int .i64 0))):=by kernel_rfl
theorem akE:Valid Tryz.prog aT 78 Qn:=aJ Tryz.func78 rfl Ep aC (bF (by kernel_rfl)) (fun args lv h=>by
 unfold UO at h
 split at h
 ·simp only [canL,canX]
  rw [ahb]
  rename_i b
  obtain rfl:=h
  cases b
  ·exact ⟨fun hb=>(by cases hb),fun _=>rfl⟩
  ·exact ⟨fun _=>rfl,fun hb=>(by cases hb)⟩
 ·cases h)
def ajl:List LV→T LV
 | [.xq 8 q0]=>(match ([q0 0,q0 1,q0 2,q0 3,q0 4,q0 5,q0 6,q0 7]:List LV) with
  | [.v (.string _),.v (.int .i64 _),.v (.int .i64 _),.v (.int .i64 mn),.v (.int .i64 _),.v (.int .i64 _),.v (.int .i64 _),.v (.int .i64 _)]=> .ok (.v (.agg #[.int .i64 mn,.int .i64 0]))
  |_=> .no)
 |_=> .no
noncomputable def ai9:List LV→T LV:=jR Tryz.prog Tryz.f74.params.toList ajl
theorem aub (nm:ByteArray) (at_ ph mn mx st fb ow:Int):eX Tryz.prog aT (AX) iU aB Tryz.f74 [.xq 8 (fun j=>([.v (.string nm),.v (.int .i64 at_),.v (.int .i64 ph),.v (.int .i64 mn),.v (.int .i64 mx),.v (.int .i64 st),.v (.int .i64 fb),.v (.int .i64 ow)]:List LV).getD j .junk)]=.ok (.v (.agg #[.int .i64 mn,.int .i64 0])):=by kernel_rfl
theorem axd:Valid Tryz.prog aT 74 ai9:=aJ Tryz.func74 rfl Ep aC (bF (by kernel_rfl)) (fun args lv h=>by
 unfold ajl at h
 split at h
 ·split at h
  case h_2=>cases h
  rename_i heq0
  simp only [canL,canX]
  rw [pI (n:=8) heq0]
  simp only [canL,canX]
  rw [aub]
  exact h
 ·cases h)
def ajk:List LV→T LV
 | [.xq 1 q0]=>(match ([q0 0]:List LV) with
  | [.v (.int .i64 lo)]=> .ok (.v (.agg #[.int .i64 0,.int .i64 lo]))
  |_=> .no)
 |_=> .no
noncomputable def ai8:List LV→T LV:=jR Tryz.prog Tryz.f75.params.toList ajk
theorem aua (lo:Int):eX Tryz.prog aT (AX) iU aB Tryz.f75 [.xq 1 (fun j=>([.v (.int .i64 lo)]:List LV).getD j .junk)]=.ok (.v (.agg #[.int .i64 0,.int .i64 lo])):=by kernel_rfl
theorem axc:Valid Tryz.prog aT 75 ai8:=aJ Tryz.func75 rfl Ep aC (bF (by kernel_rfl)) (fun args lv h=>by
 unfold ajk at h
 split at h
 ·split at h
  case h_2=>cases h
  rename_i heq0
  simp only [canL,canX]
  rw [pI (n:=1) heq0]
  simp only [canL,canX]
  rw [aua]
  exact h
 ·cases h)
def ajj:List LV→T LV
 | []=> .ok (.v (.agg #[.int .i64 0,.int .i64 0]))
 |_=> .no
noncomputable def ai7:List LV→T LV:=jR Tryz.prog Tryz.f76.params.toList ajj
theorem at7  :eX Tryz.prog aT (AX) iU aB Tryz.f76 []=.ok (.v (.agg #[.int .i64 0,.int .i64 0])):=by kernel_rfl
theorem axb:Valid Tryz.prog aT 76 ai7:=aJ Tryz.func76 rfl Ep aC (bF (by kernel_rfl)) (fun args lv h=>by
 unfold ajj at h
 split at h
 ·simp only [canL]
  rw [at7]
  exact h
 ·cases h)
def aji:List LV→T LV
 | [.xq 1 q0,.xq 2 q1,.xq 8 q2,.xq 1 q3]=>(match ([q0 0]:List LV) with
  | [.v (.int .i64 lv)]=>(match ([q1 0,q1 1]:List LV) with
  | [.v (.int .i64 a),.v (.int .i64 _)]=>(match ([q2 0,q2 1,q2 2,q2 3,q2 4,q2 5,q2 6,q2 7]:List LV) with
  | [.v (.string _),.v (.int .i64 _),.v (.int .i64 _),.v (.int .i64 _),.v (.int .i64 _),.v (.int .i64 st),.v (.int .i64 _),.v (.int .i64 _)]=>(match ([q3 0]:List LV) with
  | [.v (.int .i64 lo)]=> .ok (.v (.agg #[.int .i64 (if IntKind.i64.wrap (a+st)<lv then IntKind.i64.wrap (a+st) else lv),.int .i64 lo]))
  |_=> .no)
  |_=> .no)
  |_=> .no)
  |_=> .no)
 |_=> .no
noncomputable def ai6:List LV→T LV:=jR Tryz.prog Tryz.f77.params.toList aji
theorem at6 (lv a si:Int) (nm:ByteArray) (at_ ph mn mx st fb ow lo:Int):eX Tryz.prog aT (AX) iU aB Tryz.f77 [.xq 1 (fun j=>([.v (.int .i64 lv)]:List LV).getD j .junk),.xq 2 (fun j=>([.v (.int .i64 a),.v (.int .i64 si)]:List LV).getD j .junk),.xq 8 (fun j=>([.v (.string nm),.v (.int .i64 at_),.v (.int .i64 ph),.v (.int .i64 mn),.v (.int .i64 mx),.v (.int .i64 st),.v (.int .i64 fb),.v (.int .i64 ow)]:List LV).getD j .junk),.xq 1 (fun j=>([.v (.int .i64 lo)]:List LV).getD j .junk)]=.ok (.v (.agg #[.int .i64 (if (IntKind.i64.wrap (a+st))<lv then IntKind.i64.wrap (a+st) else lv),.int .i64 lo])):=by kernel_rfl
theorem axa:Valid Tryz.prog aT 77 ai6:=aJ Tryz.func77 rfl Ep aC (bF (by kernel_rfl)) (fun args lv h=>by
 unfold aji at h
 split at h
 ·split at h
  case h_2=>cases h
  rename_i heq0
  split at h
  case h_2=>cases h
  rename_i heq1
  split at h
  case h_2=>cases h
  rename_i heq2
  split at h
  case h_2=>cases h
  rename_i heq3
  simp only [canL,canX]
  rw [pI (n:=1) heq0]
  simp only [canL,canX]
  rw [pI (n:=2) heq1]
  simp only [canL,canX]
  rw [pI (n:=8) heq2]
  simp only [canL,canX]
  rw [pI (n:=1) heq3]
  simp only [canL,canX]
  rw [at6]
  exact h
 ·cases h)
theorem auM {a l si:Int}:XO ((if (a !=0) then (1:Int) else 0).toNat*4+((if (l !=0) then (1:Int) else 0).toNat*2+((if (decide (si≥5)) then (1:Int) else 0).toNat*1+0)))=if a=0 then (if l=0 then 1 else if 5≤si then 0 else 1) else if l=0 then 2 else 3:=by
 by_cases c1:a=0<;>by_cases c2:l=0<;>by_cases c3:5≤si<;>simp [c1,c2,c3,XO]
def acG:List LV→T LV
 | [.v (.agg ⟨[.string _,.int .i64 _,.int .i64 ph,.int .i64 mn,.int .i64 mx,.int .i64 st,.int .i64 fb,.int .i64 _]⟩),.v (.agg ⟨[.int .i64 a,.int .i64 si]⟩),.v (.int .i64 want)]=> .ok (.v (.tuple #[.agg #[.int .i64 (nA ph mn mx st fb a si want),.int .i64 (nS ph mn mx st fb a si want)],.int .i64 (nE ph mn mx st fb a si want)]))
 |_=> .no
noncomputable def YE:List LV→T LV:=jR Tryz.prog Tryz.f37.params.toList acG
noncomputable def aqk:Specs:=bn [(69,UF),(73,Jv),(74,ai9),(75,ai8),(76,ai7),(77,ai6),(78,Qn)]
theorem ayU:∀g S,aqk g=some S→Valid Tryz.prog aT g S:=aX (l:=[(69,UF),(73,Jv),(74,ai9),(75,ai8),(76,ai7),(77,ai6),(78,Qn)]) ⟨aoX,aeK,axd,axc,axb,axa,akE,trivial⟩
theorem amK (nm:ByteArray) (at_ ph mn mx st fb ow a si want:Int):eX Tryz.prog aT (aqk) iU aB Tryz.f37 [.v (.agg #[.string nm,.int .i64 at_,.int .i64 ph,.int .i64 mn,.int .i64 mx,.int .i64 st,.int .i64 fb,.int .i64 ow]),.v (.agg #[.int .i64 a,.int .i64 si]),.v (.int .i64 want)]=.br ((!(Vr ph mn mx st fb a si)) ||((decide (want<0)) ||(decide (want>80)))) (.ok (.v (.tuple #[.agg #[.int .i64 0,.int .i64 0],.int .i64 1]))) (.req (chP mn mx st) (.req (0≤(if (a !=0) then (1:Int) else 0)∧(if (a !=0) then (1:Int) else 0)<(2:Int)) (.req (0≤(if ((yQ mn mx st want) !=0) then (1:Int) else 0)∧(if ((yQ mn mx st want) !=0) then (1:Int) else 0)<(2:Int)) (.req (0≤(if (decide (si≥5)) then (1:Int) else 0)∧(if (decide (si≥5)) then (1:Int) else 0)<(2:Int)) (.br ((XO ((if (a !=0) then (1:Int) else 0).toNat*4+((if ((yQ mn mx st want) !=0) then (1:Int) else 0).toNat*2+((if (decide (si≥5)) then (1:Int) else 0).toNat*1+0))))==0) (.ok (.v (.tuple #[.agg #[.int .i64 mn,.int .i64 0],.int .i64 0]))) (.br ((XO ((if (a !=0) then (1:Int) else 0).toNat*4+((if ((yQ mn mx st want) !=0) then (1:Int) else 0).toNat*2+((if (decide (si≥5)) then (1:Int) else 0).toNat*1+0))))==1) (.ok (.v (.tuple #[.agg #[.int .i64 0,.int .i64 (if (1000000:Int)<(IntKind.i64.wrap (si+1)) then 1000000 else IntKind.i64.wrap (si+1))],.int .i64 0]))) (.br ((XO ((if (a !=0) then (1:Int) else 0).toNat*4+((if ((yQ mn mx st want) !=0) then (1:Int) else 0).toNat*2+((if (decide (si≥5)) then (1:Int) else 0).toNat*1+0))))==2) (.ok (.v (.tuple #[.agg #[.int .i64 0,.int .i64 0],.int .i64 0]))) (.br ((XO ((if (a !=0) then (1:Int) else 0).toNat*4+((if ((yQ mn mx st want) !=0) then (1:Int) else 0).toNat*2+((if (decide (si≥5)) then (1:Int) else 0).toNat*1+0))))==3) (.ok (.v (.tuple #[.agg #[.int .i64 (if IntKind.i64.wrap (a+st)<(yQ mn mx st want) then IntKind.i64.wrap (a+st) else (yQ mn mx st want)),.int .i64 (if (1000000:Int)<(IntKind.i64.wrap (si+1)) then 1000000 else IntKind.i64.wrap (si+1))],.int .i64 0]))) (.no))))))))):=by kernel_rfl
theorem arH:Valid Tryz.prog aT 37 YE:=aJ Tryz.func37 rfl ayU aC (bF (by kernel_rfl)) (fun args lv h=>by
 unfold acG at h
 split at h
 ·simp only [canL,canX]
  rw [amK]
  rename_i nm at_ ph mn mx st fb ow a si want
  obtain rfl:=h
  by_cases hk:okB ph mn mx st fb a si want=true
  ·obtain ⟨k1,k2,k3,k4,k5⟩:=al3 hk
   have w1:IntKind.i64.wrap (si+1)=si+1:=aF (by omega) (by omega)
   have w2:IntKind.i64.wrap (a+st)=a+st:=aF (by omega) (by omega)
   have i0:∀b:Bool,0≤(if b=true then (1:Int) else 0)∧(if b=true then (1:Int) else 0)<2:=fun b=>by cases b<;>simp
   simp only [T.all,nA,nS,nE,k1,w1,w2,hk,aaG,if_true,auM,i0,true_and]
   by_cases c1:a=0<;>by_cases c2:yQ mn mx st want=0<;>by_cases c3:5≤si<;>simp [c1,c2,c3,k2]
  ·have hn:(!Vr ph mn mx st fb a si ||(decide (want<0) ||decide (want>80)))=true:=al4 hk
   simp only [T.all,nA,nS,nE,hk,hn]
   simp
 ·cases h)
end Go.Proofs.YtlihnbimgclogaaGreatDoor
namespace Go.Proofs.YtlihnbimgclogaaGreatDoor
open Go.Sx
def ajr:List LV→T LV
 | [.v (.int .i64 n),.v (.int .i64 a),.v (.int .i64 b)]=> .ok (.v (.bool (inB n a b)))
 |_=> .no
noncomputable def UH:List LV→T LV:=jR Tryz.prog Tryz.f68.params.toList ajr
noncomputable def aqh:Specs:=bn []
theorem ayR:∀g S,aqh g=some S→Valid Tryz.prog aT g S:=aX (l:=[]) trivial
theorem auh (n a b:Int):eX Tryz.prog aT (aqh) iU aB Tryz.f68 [.v (.int .i64 n),.v (.int .i64 a),.v (.int .i64 b)]=.ok (.v (.bool ((decide (n≥a))&&(decide (n≤b))))):=by kernel_rfl
theorem aoZ:Valid Tryz.prog aT 68 UH:=aJ Tryz.func68 rfl ayR aC (bF (by kernel_rfl)) (fun args lv h=>by
 unfold ajr at h
 split at h
 ·simp only [canL,canX]
  rw [auh]
  exact h
 ·cases h)
def ajf:List LV→T LV
 | [.v (.agg ⟨[.bool wa,.int .i64 ow,.int .i64 le,.int .i64 ra]⟩)]=> .ok (.v (.bool (dmV (wa,ow,le,ra))))
 |_=> .no
noncomputable def ai4:List LV→T LV:=jR Tryz.prog Tryz.f70.params.toList ajf
noncomputable def aqg:Specs:=bn [(68,UH)]
theorem ayQ:∀g S,aqg g=some S→Valid Tryz.prog aT g S:=aX (l:=[(68,UH)]) ⟨aoZ,trivial⟩
theorem atX (wa:Bool) (ow le ra:Int):eX Tryz.prog aT (aqg) iU aB Tryz.f70 [.v (.agg #[.bool wa,.int .i64 ow,.int .i64 le,.int .i64 ra])]=.ok (.v (.bool ((inB ow (0:Int) (1000000000:Int))&&((inB le (0:Int) (1000000:Int))&&(inB ra (1:Int) (9:Int)))))):=by kernel_rfl
theorem aw8:Valid Tryz.prog aT 70 ai4:=aJ Tryz.func70 rfl ayQ aC (bF (by kernel_rfl)) (fun args lv h=>by
 unfold ajf at h
 split at h
 ·simp only [canL,canX]
  rw [atX]
  exact h
 ·cases h)
structure mD where
 cs:List Cd
 os:List ByteArray
 ks:List Ko
 gs:List Ch
 bs:List Ba
 l:List Le
 d:List Dm
 t:Int
 od:List Int
 aft:List Ra
 r:Bool
 n:Int
 m:List Le
 k:Int
 i:Int
def aBi (s:mD):List LV:=[.xq 9 (fun j=>([.xl iJ s.cs,.xl .str s.os,.xl iQ s.ks,.xl gU s.gs,.xl iR s.bs,.xl rG s.l,.xl jc s.d,.v (.int .i64 s.t),.xl (.int .i64) s.od]:List LV).getD j .junk),.xl VH s.aft,.v (.bool s.r),.v (.int .i64 s.n),.xl rG s.m,.v (.int .i64 s.k),.v (.int .i64 s.i)]
def aAu (_:mD):List aS:=[]
noncomputable def BU:Code:=((ay (Tryz.f35.body.getD .skip))[0]?).getD .skip
def ZF (s:mD):T (Rd mD):=
 .br (decide (s.i<s.k)) (.req (0≤s.i∧s.i<(List.length s.m:Int)) (.br (decide ((qB s.m s.i).2.1≥s.n)) (.ok (.stop (.ret) {s with r:=false})) (.ok (.next {s with i:=(IntKind.i64.wrap (s.i+1))})))) (.ok (.stop (.exit 0) s))
abbrev aqM (s:mD):=(ZF s).rd s
def JJ (s:mD) (j:Int):Bool:=decide ((qB s.m j).2.1<s.n)
def adu (s:mD):Prop:=s.i=0∧0≤s.k∧s.k≤1000∧s.k=(s.m.length:Int)
def Nh (s:mD):Prop:=0≤s.i∧s.i≤s.k∧s.k≤1000∧(s.k=(s.m.length:Int))∧∀j:Nat,(j:Int)<s.i→JJ s j=true
def OY (s:mD):Nat:=(s.k-s.i).toNat
def ajU (x:Ex) (_ s':mD):Prop:=(x=.exit 0∧∀j:Nat,(j:Int)<s'.k→JJ s' j=true)∨(x=.ret∧s'.r=false∧∃j:Nat,(j:Int)<s'.k∧JJ s' j=false)
theorem azh:∀s,adu s→Nh s:=by
 intro s h
 obtain ⟨h0,h1,h2,h3⟩:=h
 exact ⟨by omega,by omega,h2,h3,fun j hj=>by omega⟩
theorem ave (s:mD) (hI:Nh s):bY (fun s'=>Nh s'∧OY s'<OY s) (fun x s'=>ajU x s s') (aqM s):=by
 unfold aqM ZF
 dsimp only [T.rd,T.rl]
 obtain ⟨h0,h1,h2,h3,h4⟩:=hI
 refine ai (fun c1=>ai (fun c2=>?_) (fun c2=>?_)) (fun c1=>?_)
 ·have c1:s.i<s.k:=by simpa using c1
  refine .inr ⟨rfl,rfl,s.i.toNat,by simp only;omega,?_⟩
  rw [Int.toNat_of_nonneg (by omega)]
  have hg:JJ s s.i=false:=by unfold JJ;(simp only [decide_eq_true_eq,decide_eq_false_iff_not] at c2⊢;omega)
  exact hg
 ·have c1:s.i<s.k:=by simpa using c1
  have hg:JJ s s.i=true:=by unfold JJ;(simp only [decide_eq_true_eq,decide_eq_false_iff_not] at c2⊢;omega)
  rw [aF (x:=s.i+1) (by omega) (by omega)]
  refine ⟨⟨by simp only;omega,by simp only;omega,h2,h3,fun j hj=>?_⟩,by simp only [OY];omega⟩
  by_cases hji:(j:Int)<s.i
  ·exact h4 j hji
  ·have:(j:Int)=s.i:=by simp only at hj;omega
   rw [this];exact hg
 ·have c1:s.k≤s.i:=by simpa using c1
  exact .inl ⟨rfl,fun j hj=>h4 j (by omega)⟩
def Fb:dn mD:=⟨0,108,[0,1,6,9,67,68,69],[],aBi,aAu,fun v _=>⟨bf iJ (nN (v.getD 0 .junk) 0),bf .str (nN (v.getD 0 .junk) 1),bf iQ (nN (v.getD 0 .junk) 2),bf gU (nN (v.getD 0 .junk) 3),bf iR (nN (v.getD 0 .junk) 4),bf rG (nN (v.getD 0 .junk) 5),bf jc (nN (v.getD 0 .junk) 6),gI (nN (v.getD 0 .junk) 7),bf (.int .i64) (nN (v.getD 0 .junk) 8),bf VH (v.getD 1 .junk),J7 (v.getD 2 .junk),gI (v.getD 3 .junk),bf rG (v.getD 4 .junk),gI (v.getD 5 .junk),gI (v.getD 6 .junk)⟩,ZF,fun s r=> {r with cs:=s.cs,os:=s.os,ks:=s.ks,gs:=s.gs,bs:=s.bs,l:=s.l,d:=s.d,t:=s.t,od:=s.od,aft:=s.aft,n:=s.n,m:=s.m,k:=s.k},fun s=>s,fun _ s=>s,[.ret,.exit 0],adu,Nh,OY⟩
abbrev xY:=Fb.run
abbrev abN:=Fb.lU
abbrev awr:=Fb.q
theorem atj (s:mD) (hI:Nh s):(ZF s).all (fun _=>True):=by
 refine ⟨fun c1=>⟨?_,fun _=>trivial,fun _=>trivial⟩,fun _=>trivial⟩
 ·(obtain ⟨h0,h1,h2,h3,h4⟩:=hI;simp at c1;omega)
noncomputable def aaZ:Specs:=bn [(24,oC),(62,Jy),(68,UH),(69,UF),(70,ai4)]
theorem ah7:∀g S,aaZ g=some S→Valid Tryz.prog aT g S:=aX (l:=[(24,oC),(62,Jy),(68,UH),(69,UF),(70,ai4)]) ⟨C9,aeM,aoZ,aoX,aw8,trivial⟩
theorem agM:Fb.Ok:=⟨fun s=>by kernel_rfl,fun s=>by kernel_rfl,fun s=>rfl,fun s t r=>rfl,fun s=>rfl,fun s=>by kernel_rfl⟩
theorem afW:Fb.Pf (ajU):=⟨azh,fun _ _=>rfl,ave,atj⟩
theorem als:bG Tryz.prog aT (AN 0) (.loop BU) Fb.lp:=dn.snd agM afW (bI (Γ:=aaZ) (K:=iU) (L:=aB) ah7 aC BU (fun b hb=>by rw [show ay BU=[] by kernel_rfl] at hb;cases hb)) (fun s=>by kernel_rfl)
theorem aol (s:mD) (hE:adu s):∃s',Nh s'∧ajU (abN s) s' (xY s):=dn.fin agM afW s hE
structure pq where
 cs:List Cd
 os:List ByteArray
 ks:List Ko
 gs:List Ch
 bs:List Ba
 l:List Le
 d:List Dm
 t:Int
 od:List Int
 rs:List Ra
 r:Bool
 m:List Ch
 k:Int
 i:Int
def aBh (s:pq):List LV:=[.xq 9 (fun j=>([.xl iJ s.cs,.xl .str s.os,.xl iQ s.ks,.xl gU s.gs,.xl iR s.bs,.xl rG s.l,.xl jc s.d,.v (.int .i64 s.t),.xl (.int .i64) s.od]:List LV).getD j .junk),.xl VH s.rs,.v (.bool s.r),.xl gU s.m,.v (.int .i64 s.k),.v (.int .i64 s.i)]
def aAt (_:pq):List aS:=[]
noncomputable def BR:Code:=((ay (Tryz.f35.body.getD .skip))[1]?).getD .skip
def ZE (s:pq):T (Rd pq):=
 .br (decide (s.i<s.k)) (.req (0≤s.i∧s.i<(List.length s.m:Int)) (.req (0≤s.i∧s.i<(List.length s.rs:Int)) (.br (!(Vr (bU s.m s.i).2.2.1 (bU s.m s.i).2.2.2.1 (bU s.m s.i).2.2.2.2.1 (bU s.m s.i).2.2.2.2.2.1 (bU s.m s.i).2.2.2.2.2.2.1 (oJ s.rs s.i).1 (oJ s.rs s.i).2)) (.ok (.stop (.ret) {s with r:=false})) (.req (0≤s.i∧s.i<(List.length s.d:Int)) (.br (!(dmV (jw s.d s.i))) (.ok (.stop (.ret) {s with r:=false})) (.ok (.next {s with i:=(IntKind.i64.wrap (s.i+1))}))))))) (.ok (.stop (.exit 2) s))
abbrev aqL (s:pq):=(ZE s).rd s
def CW (s:pq) (j:Int):Bool:=raC (bU s.m j) (oJ s.rs j)&&dmV (jw s.d j)
def adt (s:pq):Prop:=s.i=0∧0≤s.k∧s.k≤1000∧s.k=(s.m.length:Int)∧s.rs.length=s.m.length∧s.d.length=s.m.length
def Nc (s:pq):Prop:=0≤s.i∧s.i≤s.k∧s.k≤1000∧(s.k=(s.m.length:Int)∧s.rs.length=s.m.length∧s.d.length=s.m.length)∧∀j:Nat,(j:Int)<s.i→CW s j=true
def OX (s:pq):Nat:=(s.k-s.i).toNat
def ajT (x:Ex) (_ s':pq):Prop:=(x=.exit 2∧∀j:Nat,(j:Int)<s'.k→CW s' j=true)∨(x=.ret∧s'.r=false∧∃j:Nat,(j:Int)<s'.k∧CW s' j=false)
theorem azg:∀s,adt s→Nc s:=by
 intro s h
 obtain ⟨h0,h1,h2,h3⟩:=h
 exact ⟨by omega,by omega,h2,h3,fun j hj=>by omega⟩
theorem avd (s:pq) (hI:Nc s):bY (fun s'=>Nc s'∧OX s'<OX s) (fun x s'=>ajT x s s') (aqL s):=by
 unfold aqL ZE
 dsimp only [T.rd,T.rl]
 obtain ⟨h0,h1,h2,h3,h4⟩:=hI
 refine ai (fun c1=>ai (fun c2=>?_) (fun c2=>ai (fun c3=>?_) (fun c3=>?_))) (fun c1=>?_)
 ·have c1:s.i<s.k:=by simpa using c1
  refine .inr ⟨rfl,rfl,s.i.toNat,by simp only;omega,?_⟩
  rw [Int.toNat_of_nonneg (by omega)]
  have hg:CW s s.i=false:=by unfold CW;(unfold raC F9;simp_all)
  exact hg
 ·have c1:s.i<s.k:=by simpa using c1
  refine .inr ⟨rfl,rfl,s.i.toNat,by simp only;omega,?_⟩
  rw [Int.toNat_of_nonneg (by omega)]
  have hg:CW s s.i=false:=by unfold CW;(unfold raC F9;simp_all)
  exact hg
 ·have c1:s.i<s.k:=by simpa using c1
  have hg:CW s s.i=true:=by unfold CW;(unfold raC F9;simp_all)
  rw [aF (x:=s.i+1) (by omega) (by omega)]
  refine ⟨⟨by simp only;omega,by simp only;omega,h2,h3,fun j hj=>?_⟩,by simp only [OX];omega⟩
  by_cases hji:(j:Int)<s.i
  ·exact h4 j hji
  ·have:(j:Int)=s.i:=by simp only at hj;omega
   rw [this];exact hg
 ·have c1:s.k≤s.i:=by simpa using c1
  exact .inl ⟨rfl,fun j hj=>h4 j (by omega)⟩
def Fa:dn pq:=⟨0,108,[0,1,6,82,83,84],[],aBh,aAt,fun v _=>⟨bf iJ (nN (v.getD 0 .junk) 0),bf .str (nN (v.getD 0 .junk) 1),bf iQ (nN (v.getD 0 .junk) 2),bf gU (nN (v.getD 0 .junk) 3),bf iR (nN (v.getD 0 .junk) 4),bf rG (nN (v.getD 0 .junk) 5),bf jc (nN (v.getD 0 .junk) 6),gI (nN (v.getD 0 .junk) 7),bf (.int .i64) (nN (v.getD 0 .junk) 8),bf VH (v.getD 1 .junk),J7 (v.getD 2 .junk),bf gU (v.getD 3 .junk),gI (v.getD 4 .junk),gI (v.getD 5 .junk)⟩,ZE,fun s r=> {r with cs:=s.cs,os:=s.os,ks:=s.ks,gs:=s.gs,bs:=s.bs,l:=s.l,d:=s.d,t:=s.t,od:=s.od,rs:=s.rs,m:=s.m,k:=s.k},fun s=>s,fun _ s=>s,[.ret,.exit 2],adt,Nc,OX⟩
abbrev aad:=Fa.run
abbrev abM:=Fa.lU
abbrev awq:=Fa.q
theorem ati (s:pq) (hI:Nc s):(ZE s).all (fun _=>True):=by
 refine ⟨fun c1=>⟨?_,?_,fun _=>trivial,fun c2=>⟨?_,fun _=>trivial,fun _=>trivial⟩⟩,fun _=>trivial⟩
 all_goals ((obtain ⟨h0,h1,h2,h3,h4⟩:=hI;obtain ⟨h3,h5,h6⟩:=h3;simp at c1;omega))
theorem agL:Fa.Ok:=⟨fun s=>by kernel_rfl,fun s=>by kernel_rfl,fun s=>rfl,fun s t r=>rfl,fun s=>rfl,fun s=>by kernel_rfl⟩
theorem afV:Fa.Pf (ajT):=⟨azg,fun _ _=>rfl,avd,ati⟩
theorem alr:bG Tryz.prog aT (AN 0) (.loop BR) Fa.lp:=dn.snd agL afV (bI (Γ:=aaZ) (K:=iU) (L:=aB) ah7 aC BR (fun b hb=>by rw [show ay BR=[] by kernel_rfl] at hb;cases hb)) (fun s=>by kernel_rfl)
theorem aok (s:pq) (hE:adt s):∃s',Nc s'∧ajT (abM s) s' (aad s):=dn.fin agL afV s hE
def acW:List LV→T LV
 | [.xq 9 q0,.xl (.pair (.int .i64) (.int .i64)) rs,.v (.int .i64 n)]=>(match ([q0 0,q0 1,q0 2,q0 3,q0 4,q0 5,q0 6,q0 7,q0 8]:List LV) with
  | [.xl (.pair .str (.pair (.int .i64) (.pair (.int .i64) (.pair (.int .i64) (.pair (.pair (.int .i64) (.int .i64)) (.pair (.int .i64) (.pair (.int .i64) (.pair (.int .i64) (.pair (.int .i64) (.int .i64)))))))))) cs,.xl (.str) os,.xl (.pair .str (.pair (.int .i64) (.pair (.int .i64) (.int .i64)))) ks,.xl (.pair .str (.pair (.int .i64) (.pair (.int .i64) (.pair (.int .i64) (.pair (.int .i64) (.pair (.int .i64) (.pair (.int .i64) (.int .i64)))))))) gs,.xl (.pair .str (.int .i64)) bs,.xl (.pair (.int .i64) (.pair (.int .i64) (.pair (.int .i64) (.pair (.int .i64) (.int .i64))))) l,.xl (.pair .bool (.pair (.int .i64) (.pair (.int .i64) (.int .i64)))) d,.v (.int .i64 t),.xl (.int .i64) _]=> .ok (.v (.bool (Zc cs os ks gs bs l rs d t n)))
  |_=> .no)
 |_=> .no
noncomputable def YR:List LV→T LV:=jR Tryz.prog Tryz.f35.params.toList acW
theorem am1 (cs:List Cd) (os:List ByteArray) (ks:List Ko) (gs:List Ch) (bs:List Ba) (l:List Le) (d:List Dm) (t:Int) (od:List Int) (rs:List Ra) (n:Int):eX Tryz.prog aT (aaZ) iU (fun i=>if i=8 then Fb.lp else if i=14 then Fa.lp else aB i) Tryz.f35 [.xq 9 (fun j=>([.xl iJ cs,.xl .str os,.xl iQ ks,.xl gU gs,.xl iR bs,.xl rG l,.xl jc d,.v (.int .i64 t),.xl (.int .i64) od]:List LV).getD j .junk),.xl VH rs,.v (.int .i64 n)]=.br (((N8 cs os ks gs bs) !=0) ||(!(tY l))) (.ok (.v (.bool false))) (.br (((List.length rs:Int) !=(List.length gs:Int)) ||(((List.length d:Int) !=(List.length gs:Int)) ||((!(inB t (0:Int) (1000000:Int))) ||(!(inB n (1:Int) (999900:Int)))))) (.ok (.v (.bool false))) (.req (awr (⟨cs,os,ks,gs,bs,l,d,t,od,rs,false,(List.length gs:Int),l,(List.length l:Int),(0:Int)⟩:mD)) (.br (lH (abN (⟨cs,os,ks,gs,bs,l,d,t,od,rs,false,(List.length gs:Int),l,(List.length l:Int),(0:Int)⟩:mD)) (.ret)) (.ok (.v (.bool (xY (⟨cs,os,ks,gs,bs,l,d,t,od,rs,false,(List.length gs:Int),l,(List.length l:Int),(0:Int)⟩:mD)).r))) (.req (awq (⟨cs,os,ks,gs,bs,l,d,t,od,rs,(xY (⟨cs,os,ks,gs,bs,l,d,t,od,rs,false,(List.length gs:Int),l,(List.length l:Int),(0:Int)⟩:mD)).r,gs,(List.length gs:Int),(0:Int)⟩:pq)) (.br (lH (abM (⟨cs,os,ks,gs,bs,l,d,t,od,rs,(xY (⟨cs,os,ks,gs,bs,l,d,t,od,rs,false,(List.length gs:Int),l,(List.length l:Int),(0:Int)⟩:mD)).r,gs,(List.length gs:Int),(0:Int)⟩:pq)) (.ret)) (.ok (.v (.bool (aad (⟨cs,os,ks,gs,bs,l,d,t,od,rs,(xY (⟨cs,os,ks,gs,bs,l,d,t,od,rs,false,(List.length gs:Int),l,(List.length l:Int),(0:Int)⟩:mD)).r,gs,(List.length gs:Int),(0:Int)⟩:pq)).r))) (.ok (.v (.bool true)))))))):=by kernel_rfl
theorem arU:Valid Tryz.prog aT 35 YR:=aJ Tryz.func35 rfl ah7 aC (L:=(fun i=>if i=8 then Fb.lp else if i=14 then Fa.lp else aB i)) (fun b hb=>by
 rw [show ay _=[BU,BR] by kernel_rfl] at hb
 simp only [List.mem_cons,List.not_mem_nil,or_false] at hb
 rcases hb with rfl|rfl
 ·exact als
 ·exact alr) (fun args lv h=>by
 unfold acW at h
 split at h
 ·split at h
  case h_2=>cases h
  rename_i heq0
  simp only [canL,canX]
  rw [pI (n:=9) heq0]
  simp only [canL,canX]
  rw [am1]
  rename_i rs n _ cs os ks gs bs l d t od
  obtain rfl:=h
  have e0:((N8 cs os ks gs bs !=0) || !tY l)=!(iF cs os ks gs bs&&tY l):=by
   unfold N8
   cases iF cs os ks gs bs<;>cases tY l<;>rfl
  have e1:(((List.length rs:Int) !=(List.length gs:Int)) ||(((List.length d:Int) !=(List.length gs:Int)) ||(!inB t 0 1000000 || !inB n 1 999900)))=!(decide (rs.length=gs.length)&&(decide (d.length=gs.length)&&(inB t 0 1000000&&inB n 1 999900))):=by
   rw [neN,neN,Bool.not_and,Bool.not_and,Bool.not_and]
  rw [e0,e1]
  have bad:Zc cs os ks gs bs l rs d t n=false→LV.v (.bool false)=LV.v (.bool (Zc cs os ks gs bs l rs d t n)):=fun h=>by rw [h]
  refine ⟨fun c=>bad (by unfold Zc;rw [ntW c];rfl),fun c=>⟨fun c2=>bad (by unfold Zc;rw [ntW c2,Bool.false_and,Bool.and_false]),fun c2=>?_⟩⟩
  have c:=nfW c
  have c2:=nfW c2
  have c':=c
  have c2':=c2
  simp only [Bool.and_eq_true,decide_eq_true_eq] at c' c2'
  have hl:=Az c'.2
  have hg:=(jq.1 c'.1).1.2.2.2.2.1
  have hE:adu ⟨cs,os,ks,gs,bs,l,d,t,od,rs,false,(List.length gs:Int),l,(List.length l:Int),0⟩:=⟨rfl,by simp only;omega,by simp only;omega,rfl⟩
  have ev:Zc cs os ks gs bs l rs d t n=(below gs.length l&&Kq gs.length (fun j=>raC (bU gs j) (oJ rs j)&&dmV (jw d j))):=by
   unfold Zc
   rw [c,c2,Bool.true_and,Bool.true_and]
  refine ⟨⟨hE,rfl,rfl⟩,?_⟩
  obtain ⟨_,_,hq⟩:=aol _ hE
  have eb:below gs.length l=Kq l.length (fun j=>decide ((qB l j).2.1<(gs.length:Int))):=by
   rw [Bool.eq_iff_iff,iD]
   exact (qE (d:=(0,0,0,0,0)) (p:=fun x:Le=>decide (x.2.1<(gs.length:Int)))).symm
  rcases hq with ⟨q1,q2⟩ |⟨q1,q2,j,q3,q4⟩<;>rw [q1]
  rotate_left
  ·rw [q2]
   exact ⟨fun _=>bad (by rw [ev,eb,Hf (f:=fun j=>decide ((qB l j).2.1<(gs.length:Int))) j q3 q4];rfl),fun h=>by cases h⟩
  refine ⟨fun h=>(by cases h),fun _=>?_⟩
  have g0:below gs.length l=true:=by rw [eb];exact iD.2 q2
  have hE2:adt ⟨cs,os,ks,gs,bs,l,d,t,od,rs,(xY ⟨cs,os,ks,gs,bs,l,d,t,od,rs,false,(List.length gs:Int),l,(List.length l:Int),0⟩).r,gs,(List.length gs:Int),0⟩:=⟨rfl,by simp only;omega,by simp only;omega,rfl,c2'.1,c2'.2.1⟩
  refine ⟨⟨hE2,rfl,rfl⟩,?_⟩
  obtain ⟨_,_,hq⟩:=aok _ hE2
  rcases hq with ⟨q5,q6⟩ |⟨q5,q6,j,q7,q8⟩<;>rw [q5]
  ·exact ⟨fun h=>(by cases h),fun _=>by rw [ev,g0,(iD (f:=fun j=>raC (bU gs j) (oJ rs j)&&dmV (jw d j))).2 q6];rfl⟩
  ·rw [q6]
   exact ⟨fun _=>bad (by rw [ev,Hf (f:=fun j=>raC (bU gs j) (oJ rs j)&&dmV (jw d j)) j q7 q8,Bool.and_false]),fun h=>by cases h⟩
 ·cases h)
end Go.Proofs.YtlihnbimgclogaaGreatDoor
namespace Go.Proofs.YtlihnbimgclogaaGreatDoor
open Go.Sx
structure o8 where
 n:Int
 r:Bool
 l:List Int
 m:Int
 k:Int
 seen:List Bool
def aA9 (s:o8):List LV:=[.v (.int .i64 s.n),.v (.bool s.r),.os 0 1 0 (List.length s.seen),.xl (.int .i64) s.l,.v (.int .i64 s.m),.v (.int .i64 s.k)]
def aAm (s:o8):List aS:=[⟨[],4,.vec .bool s.seen,false⟩]
noncomputable def BQ:Code:=((ay (Tryz.f94.body.getD .skip))[0]?).getD .skip
def ZA (s:o8):T (Rd o8):=
 .br (decide (s.k<s.m)) (.req (0≤s.k∧s.k<(List.length s.l:Int)) (.br (decide ((gi s.l s.k)<0)) (.rl s.seen (.ok (.stop (.ret) {s with r:=false}))) (.br (decide ((gi s.l s.k)≥s.n)) (.rl s.seen (.ok (.stop (.ret) {s with r:=false}))) (.req (0≤(gi s.l s.k)∧(gi s.l s.k)<((List.length s.seen:Nat):Int)) (.req ((gi s.l s.k).toNat<List.length s.seen) (.br (s.seen.getD (gi s.l s.k).toNat (Ty.dflt .bool)) (.rl s.seen (.ok (.stop (.ret) {s with r:=false}))) (.req (0≤(gi s.l s.k)∧(gi s.l s.k)<((List.length s.seen:Nat):Int)) (.req ((gi s.l s.k).toNat<List.length s.seen) (.req (0=0∧(List.length s.seen)=List.length (s.seen.set (gi s.l s.k).toNat true)) (.ok (.next {s with k:=(IntKind.i64.wrap (s.k+1)),seen:=(s.seen.set (gi s.l s.k).toNat true)}))))))))))) (.rl s.seen (.ok (.stop (.exit 0) s)))
abbrev aqI (s:o8):=(ZA s).rd s
def CV (s:o8) (j:Int):Bool:=SC s.n (gi s.l j)&&!(((s.l.take j.toNat).map id).contains (id (gi s.l j)))
def akm (s:o8):Prop:=s.k=0∧s.seen=List.replicate s.seen.length false∧s.m=(s.l.length:Int)∧s.m≤1000∧s.n=(s.seen.length:Int)
def MW (s:o8):Prop:=(0≤s.k∧s.k≤s.m)∧(∀j:Nat,j<s.seen.length→s.seen.getD j false=(s.l.take s.k.toNat).contains (j:Int))∧(∀j:Nat,(j:Int)<s.k→CV s j=true)∧s.m=(s.l.length:Int)∧s.m≤1000∧s.n=(s.seen.length:Int)
def OM (s:o8):Nat:=(s.m-s.k).toNat
def adb (x:Ex) (_ s':o8):Prop:=(x=.exit 0∧∀j:Nat,(j:Int)<s'.m→CV s' j=true)∨(x=.ret∧s'.r=false∧∃j:Nat,(j:Int)<s'.m∧CV s' j=false)
theorem ayu:∀s,akm s→MW s:=by
 intro s h
 obtain ⟨h0,h1,h2,h3,h4⟩:=h
 refine ⟨by omega,fun j hj=>?_,fun j hj=>by omega,h2,h3,h4⟩
 rw [h1,h0]
 simp [List.getD,List.getElem?_replicate]
 split<;>rfl
theorem auB (s:o8) (hI:MW s):bY (fun s'=>MW s'∧OM s'<OM s) (fun x s'=>adb x s s') (aqI s):=by
 unfold aqI ZA
 dsimp only [T.rd,T.rl]
 obtain ⟨⟨h0,h1⟩,h2,h3,h4,h5,h6⟩:=hI
 refine ai (fun c1=>?_) (fun c1=>?_)
 rotate_left
 ·have c1:s.m≤s.k:=by simpa using c1
  exact .inl ⟨rfl,fun j hj=>h3 j (by omega)⟩
 have c1:s.k<s.m:=by simpa using c1
 have bad:CV s s.k=false→adb .ret s {s with r:=false}:=fun hg=> .inr ⟨rfl,rfl,s.k.toNat,by simp only;omega,by rw [Int.toNat_of_nonneg h0];exact hg⟩
 refine ai (fun c2=>bad ?_) (fun c2=>ai (fun c3=>bad ?_) (fun c3=>ai (fun c4=>bad ?_) (fun c4=>?_)))
 ·unfold CV SC
  simp only [decide_eq_true_eq] at c2
  rw [decide_eq_false (by omega)]
  rfl
 ·unfold CV SC
  simp only [decide_eq_true_eq] at c3
  rw [decide_eq_false (p:=gi s.l s.k<s.n) (by omega),Bool.and_false]
  rfl
 all_goals
  have c2:0≤gi s.l s.k:=by simpa using c2
  have c3:gi s.l s.k<s.n:=by simpa using c3
  have e:=h2 (gi s.l s.k).toNat (by omega)
  rw [Int.toNat_of_nonneg c2] at e
 ·have c4:s.seen.getD (gi s.l s.k).toNat false=true:=c4
  unfold CV
  rw [List.map_id,id,←e,c4]
  simp
 ·have c4:s.seen.getD (gi s.l s.k).toNat false=false:=c4
  have hg:CV s s.k=true:=by
   unfold CV
   rw [List.map_id,id,←e,c4,Ah.2 ⟨c2,c3⟩]
   rfl
  rw [aF (x:=s.k+1) (by omega) (by omega)]
  refine ⟨⟨⟨by simp only;omega,by simp only;omega⟩,fun j hj=>?_,fun j hj=>?_,h4,h5,by simp only [List.length_set];exact h6⟩,by simp only [OM];omega⟩
  ·simp only [List.length_set] at hj
   simp only
   rw [(gi_step h0 (show s.k<s.l.length by omega)).2,List.contains_append,←h2 j hj]
   by_cases hj2:(gi s.l s.k).toNat=j
   ·subst hj2
    rw [Int.toNat_of_nonneg c2]
    simp [List.getD,hj]
   ·have:¬(j:Int)=gi s.l s.k:=by omega
    simp [List.getD,List.getElem?_set_ne hj2,this]
  ·by_cases hji:(j:Int)<s.k
   ·exact h3 j hji
   ·have:(j:Int)=s.k:=by simp only at hj;omega
    rw [this];exact hg
def E8:dn o8:=⟨0,37,[1,4,5,14,15,16],[],aA9,aAm,fun v b=>⟨gI (v.getD 0 .junk),J7 (v.getD 1 .junk),bf (.int .i64) (v.getD 3 .junk),gI (v.getD 4 .junk),gI (v.getD 5 .junk),jm .bool (aV b 0)⟩,ZA,fun s r=> {r with n:=s.n,l:=s.l,m:=s.m},fun s=>s,fun _ s=>s,[.ret,.exit 0],akm,MW,OM⟩
abbrev aac:=E8.run
abbrev abK:=E8.lU
abbrev awl:=E8.q
theorem atb (s:o8) (hI:MW s):(ZA s).all (fun _=>True):=by
 refine ⟨fun c1=>⟨?_,fun c2=>⟨⟨rfl,rfl⟩,trivial⟩,fun c2=>⟨fun c3=>⟨⟨rfl,rfl⟩,trivial⟩,fun c3=>⟨?_,?_,fun c4=>⟨⟨rfl,rfl⟩,trivial⟩,fun c4=>⟨?_,?_,?_,trivial⟩⟩⟩⟩,fun c1=>⟨⟨rfl,rfl⟩,trivial⟩⟩
 iterate 5 · (obtain ⟨⟨h0,h1⟩,h2,h3,h4,h5,h6⟩:=hI;simp only [decide_eq_true_eq,decide_eq_false_iff_not] at*;omega)
 ·exact ⟨rfl,by simp⟩
noncomputable def ais:Specs:=bn []
theorem aqc:∀g S,ais g=some S→Valid Tryz.prog aT g S:=aX (l:=[]) trivial
theorem agG:E8.Ok:=⟨fun s=>by kernel_rfl,fun s=>by kernel_rfl,fun s=>rfl,fun s t r=>rfl,fun s=>rfl,fun s=>by kernel_rfl⟩
theorem afQ:E8.Pf (adb):=⟨ayu,fun _ _=>rfl,auB,atb⟩
theorem alo:bG Tryz.prog aT (AN 0) (.loop BQ) E8.lp:=dn.snd agG afQ (bI (Γ:=ais) (K:=iU) (L:=aB) aqc aC BQ (fun b hb=>by rw [show ay BQ=[] by kernel_rfl] at hb;cases hb)) (fun s=>by kernel_rfl)
theorem anx (s:o8) (hE:akm s):∃s',MW s'∧adb (abK s) s' (aac s):=dn.fin agG afQ s hE
def acR:List LV→T LV
 | [.xl (.int .i64) l,.v (.int .i64 n)]=> .req (n≤1000) (.ok (.v (.bool (l9 l n))))
 |_=> .no
noncomputable def qR:List LV→T LV:=jR Tryz.prog Tryz.f94.params.toList acR
theorem amW (l:List Int) (n:Int):eX Tryz.prog aT (ais) iU (fun i=>if i=5 then E8.lp else aB i) Tryz.f94 [.xl (.int .i64) l,.v (.int .i64 n)]=.br ((List.length l:Int) !=n) (.ok (.v (.bool false))) (.req (0≤n∧n≤n∧1*n≤2^48∧n<2^63) (.req (0=0∧n.toNat=List.length (List.replicate n.toNat false)) (.req (awl (⟨n,false,l,(List.length l:Int),(0:Int),(List.replicate n.toNat false)⟩:o8)) (.br (lH (abK (⟨n,false,l,(List.length l:Int),(0:Int),(List.replicate n.toNat false)⟩:o8)) (.ret)) (.ok (.v (.bool (aac (⟨n,false,l,(List.length l:Int),(0:Int),(List.replicate n.toNat false)⟩:o8)).r))) (.ok (.v (.bool true))))))):=by kernel_rfl
theorem Gv:Valid Tryz.prog aT 94 qR:=aJ Tryz.func94 rfl aqc aC (L:=(fun i=>if i=5 then E8.lp else aB i)) (fun b hb=>by
 rw [show ay _=[BQ] by kernel_rfl] at hb
 simp only [List.mem_cons,List.not_mem_nil,or_false] at hb
 subst hb
 exact alo) (fun args lv h=>by
 unfold acR at h
 split at h
 ·simp only [canL,canX]
  rw [amW]
  rename_i l n
  obtain ⟨hl,rfl⟩:=h
  refine ⟨fun c=>congrArg (fun z=>LV.v (.bool z)) ?_,fun c=>?_⟩
  ·have c:¬(List.length l:Int)=n:=by simpa using c
   unfold l9
   rw [decide_eq_false c]
   rfl
  ·have c:(List.length l:Int)=n:=by simpa using c
   unfold l9
   rw [decide_eq_true c,Bool.true_and]
   refine ⟨by omega,⟨rfl,by simp⟩,CB ⟨⟨rfl,by simp,rfl,by simp only;omega,by simp only [List.length_replicate];omega⟩,rfl,rfl⟩ (fun hE=>?_)⟩
   obtain ⟨s',_,hq⟩:=anx _ hE.1
   rcases hq with ⟨q1,q2⟩ |⟨q1,q2,j,q3,q4⟩
   ·rw [q1]
    have hk:=(tZ (d:=(0:Int)) (p:=SC n) (k:=id)).1 q2
    rw [List.map_id] at hk
    rw [hk]
    exact ⟨fun h=>(by cases h),fun _=>rfl⟩
   ·rw [q1,q2]
    refine ⟨fun _=>congrArg (fun z=>LV.v (.bool z)) ?_,fun h=>by cases h⟩
    rw [eq_comm,Bool.eq_false_iff]
    intro hx
    have:=(tZ (d:=(0:Int)) (p:=SC n) (k:=id)).2 (by rw [List.map_id];exact hx) j q3
    exact Bool.noConfusion (this.symm.trans q4)
 ·cases h)
end Go.Proofs.YtlihnbimgclogaaGreatDoor
namespace Go.Proofs.YtlihnbimgclogaaGreatDoor
open Go.Sx
structure jZ where
 r:Bool
 l:List Int
 n:Int
 i:Int
 bV:List Cd
 jr:List ByteArray
 gu:List Ko
 gX:List Ch
 nD:List Ba
def aBf (s:jZ):List LV:=[.fn 92 [],.v (.bool s.r),.xl (.int .i64) s.l,.v (.int .i64 s.n),.v (.int .i64 s.i)]
def aAr (s:jZ):List aS:=[⟨[.xl iJ s.bV,.xl .str s.jr,.xl iQ s.gu,.xl gU s.gX,.xl iR s.nD],28,.cl,false⟩]
noncomputable def Uo:Code:=((ay (Tryz.f93.body.getD .skip))[0]?).getD .skip
def ZB (s:jZ):T (Rd jZ):=
 .br (decide (s.i<s.n)) (.req (0≤s.i∧s.i<(List.length s.l:Int)) (.br (!((decide ((gi s.l s.i)≥0))&&(decide ((gi s.l s.i)≤80)))) (.ok (.stop (.ret) {s with r:=false})) (.ok (.next {s with i:=(IntKind.i64.wrap (s.i+1))})))) (.ok (.stop (.exit 0) s))
abbrev aqJ (s:jZ):=(ZB s).rd s
def JH (s:jZ) (j:Int):Bool:=vH (gi s.l j)
def ads (s:jZ):Prop:=s.i=0∧0≤s.n∧s.n≤1000∧s.n=(s.l.length:Int)
def Na (s:jZ):Prop:=0≤s.i∧s.i≤s.n∧s.n≤1000∧(s.n=(s.l.length:Int))∧∀j:Nat,(j:Int)<s.i→JH s j=true
def OV (s:jZ):Nat:=(s.n-s.i).toNat
def ajR (x:Ex) (_ s':jZ):Prop:=(x=.exit 0∧∀j:Nat,(j:Int)<s'.n→JH s' j=true)∨(x=.ret∧s'.r=false∧∃j:Nat,(j:Int)<s'.n∧JH s' j=false)
theorem aze:∀s,ads s→Na s:=by
 intro s h
 obtain ⟨h0,h1,h2,h3⟩:=h
 exact ⟨by omega,by omega,h2,h3,fun j hj=>by omega⟩
theorem avb (s:jZ) (hI:Na s):bY (fun s'=>Na s'∧OV s'<OV s) (fun x s'=>ajR x s s') (aqJ s):=by
 unfold aqJ ZB
 dsimp only [T.rd,T.rl]
 obtain ⟨h0,h1,h2,h3,h4⟩:=hI
 refine ai (fun c1=>ai (fun c2=>?_) (fun c2=>?_)) (fun c1=>?_)
 ·have c1:s.i<s.n:=by simpa using c1
  refine .inr ⟨rfl,rfl,s.i.toNat,by simp only;omega,?_⟩
  rw [Int.toNat_of_nonneg (by omega)]
  have hg:JH s s.i=false:=by unfold JH;(first|(have c2:(!(vH (gi s.l s.i)))=false:=c2;simpa using c2) |(have c2:(!(vH (gi s.l s.i)))=true:=c2;simpa using c2))
  exact hg
 ·have c1:s.i<s.n:=by simpa using c1
  have hg:JH s s.i=true:=by unfold JH;(first|(have c2:(!(vH (gi s.l s.i)))=false:=c2;simpa using c2) |(have c2:(!(vH (gi s.l s.i)))=true:=c2;simpa using c2))
  rw [aF (x:=s.i+1) (by omega) (by omega)]
  refine ⟨⟨by simp only;omega,by simp only;omega,h2,h3,fun j hj=>?_⟩,by simp only [OV];omega⟩
  by_cases hji:(j:Int)<s.i
  ·exact h4 j hji
  ·have:(j:Int)=s.i:=by simp only at hj;omega
   rw [this];exact hg
 ·have c1:s.n≤s.i:=by simpa using c1
  exact .inl ⟨rfl,fun j hj=>h4 j (by omega)⟩
def vU:dn jZ:=⟨1,18,[1,4,7,8,9],[],aBf,aAr,fun v b=>⟨J7 (v.getD 1 .junk),bf (.int .i64) (v.getD 2 .junk),gI (v.getD 3 .junk),gI (v.getD 4 .junk),bf iJ (bC (aV b 0) 0),bf .str (bC (aV b 0) 1),bf iQ (bC (aV b 0) 2),bf gU (bC (aV b 0) 3),bf iR (bC (aV b 0) 4)⟩,ZB,fun s r=> {r with l:=s.l,n:=s.n,bV:=s.bV,jr:=s.jr,gu:=s.gu,gX:=s.gX,nD:=s.nD},fun s=>s,fun _ s=>s,[.ret,.exit 0],ads,Na,OV⟩
abbrev uS:=vU.run
abbrev yB:=vU.lU
abbrev Y8:=vU.q
noncomputable def yT:Specs:=bn [(24,oC),(61,qV),(94,qR),(96,qQ)]
theorem AQ:∀g S,yT g=some S→Valid Tryz.prog aT g S:=aX (l:=[(24,oC),(61,qV),(94,qR),(96,qQ)]) ⟨C9,Gx,Gv,Gu,trivial⟩
noncomputable def ahZ:Hand:=inl Tryz.prog aT yT (jo Tryz.prog aT (yT) 20 2) 9
theorem apR:cO Tryz.prog aT ahZ:=bJ AQ (dw AQ) 9
theorem atg (s:jZ) (hI:Na s):(ZB s).all (fun _=>True):=by
 refine ⟨fun c1=>⟨?_,fun _=>trivial,fun _=>trivial⟩,fun _=>trivial⟩
 ·(obtain ⟨h0,h1,h2,h3,h4⟩:=hI;simp at c1;omega)
theorem agJ:vU.Ok:=⟨fun s=>by kernel_rfl,fun s=>by kernel_rfl,fun s=>rfl,fun s t r=>rfl,fun s=>rfl,fun s=>by kernel_rfl⟩
theorem afT:vU.Pf (ajR):=⟨aze,fun _ _=>rfl,avb,atg⟩
theorem xQ:bG Tryz.prog aT (AN 1) (.loop Uo) vU.lp:=dn.snd agJ afT (aZ (Γ:=yT) (K:=ahZ) (L:=(mP Tryz.prog aT yT ahZ 20 2)) AQ apR Uo (fun b _=>cu AQ apR 20 2 b)) (fun s=>by kernel_rfl)
theorem aoi (s:jZ) (hE:ads s):∃s',Na s'∧ajR (yB s) s' (uS s):=dn.fin agJ afT s hE
theorem abR (s:jZ) (hE:ads s):(yB s=.exit 0∧s.l.all vH=true)∨(yB s=.ret∧(uS s).r=false∧s.l.all vH=false):=by
 obtain ⟨s',hI,hq⟩:=aoi s hE
 obtain ⟨h0,h1,h2,h3⟩:=hE
 have el:(uS s).l=s.l:=rfl
 have en:(uS s).n=s.n:=rfl
 rcases hq with ⟨q1,q2⟩ |⟨q1,q2,j,q3,q4⟩
 ·refine .inl ⟨q1,(qE (d:=(0:Int))).1 fun j hj=>?_⟩
  have:=q2 j (by rw [en];omega)
  exact this
 ·refine .inr ⟨q1,q2,?_⟩
  rw [Bool.eq_false_iff]
  intro hx
  have:=(qE (d:=(0:Int))).2 hx j (by rw [en] at q3;omega)
  exact Bool.noConfusion (this.symm.trans q4)
structure iT where
 alive:List Int
 i:Int
 rows:List Rw
 rn:Int
 ri:Int
 l:List Int
 n:Int
 k:Int
 dh:List Cd
 fF:List ByteArray
 dF:List Ko
 dM:List Ch
 jd:List Ba
 y9:List Cd
 y7:List ByteArray
 y8:List Ko
 fJ:List Ch
 zf:List Ba
 bP:List Rw
 bg:List Int
 jO:List Int
 jM:List Int
 jL:List Int
 jK:List Int
 jJ:List Int
 jI:List Int
 jH:List Int
 jG:List Int
 jF:List Int
 jE:List Int
 eP:List Int
 eG:List Int
 eu:List Int
 dZ:List Int
 dY:List Int
 dX:List Int
 sums:List Int
 levels:List Int
def aAY (s:iT):List LV:=[.xl (.int .i64) s.alive,.own 1 0,.v (.int .i64 s.i),.xl FI s.rows,.v (.int .i64 s.rn),.v (.int .i64 s.ri),.xl (.int .i64) s.l,.v (.int .i64 s.n),.v (.int .i64 s.k)]
def aAb (s:iT):List aS:=[⟨[.xl iJ s.dh,.xl .str s.fF,.xl iQ s.dF,.xl gU s.dM,.xl iR s.jd],28,.cl,false⟩,⟨[.xl iJ s.y9,.xl .str s.y7,.xl iQ s.y8,.xl gU s.fJ,.xl iR s.zf,.xl FI s.bP,.os 2 1 0 (List.length s.jO),.os 3 1 0 (List.length s.jM),.os 4 1 0 (List.length s.jL),.os 5 1 0 (List.length s.jK),.os 6 1 0 (List.length s.jJ),.os 7 1 0 (List.length s.jI),.os 8 1 0 (List.length s.jH),.os 9 1 0 (List.length s.jG),.os 10 1 0 (List.length s.jF),.os 11 1 0 (List.length s.jE),.os 12 1 0 (List.length s.eP),.os 13 1 0 (List.length s.eG),.os 14 1 0 (List.length s.eu),.os 15 1 0 (List.length s.dZ),.os 16 1 0 (List.length s.dY),.os 17 1 0 (List.length s.dX),.os 18 1 0 (List.length s.sums),.xl (.int .i64) s.bg,.os 19 1 0 (List.length s.levels)],148,.cl,false⟩,⟨[],3,.vec (.int .i64) s.jO,false⟩,⟨[],3,.vec (.int .i64) s.jM,false⟩,⟨[],3,.vec (.int .i64) s.jL,false⟩,⟨[],3,.vec (.int .i64) s.jK,false⟩,⟨[],3,.vec (.int .i64) s.jJ,false⟩,⟨[],3,.vec (.int .i64) s.jI,false⟩,⟨[],3,.vec (.int .i64) s.jH,false⟩,⟨[],3,.vec (.int .i64) s.jG,false⟩,⟨[],3,.vec (.int .i64) s.jF,false⟩,⟨[],3,.vec (.int .i64) s.jE,false⟩,⟨[],3,.vec (.int .i64) s.eP,false⟩,⟨[],3,.vec (.int .i64) s.eG,false⟩,⟨[],3,.vec (.int .i64) s.eu,false⟩,⟨[],3,.vec (.int .i64) s.dZ,false⟩,⟨[],3,.vec (.int .i64) s.dY,false⟩,⟨[],3,.vec (.int .i64) s.dX,false⟩,⟨[],3,.vec (.int .i64) s.sums,false⟩,⟨[],3,.vec (.int .i64) s.levels,false⟩]
noncomputable def Jg:Code:=((ay (((ay (Tryz.f95.body.getD .skip))[0]?).getD .skip))[0]?).getD .skip
set_option maxHeartbeats 4000000 in
def QU (s:iT):T (Rd iT):=
 .br (decide (s.k<s.n)) (.req (0≤s.k∧s.k<(List.length s.l:Int)) (.req (0≤(gi s.l s.k)∧(gi s.l s.k)<(16:Int)) (.br ((gi s.l s.k)==0) (.req (0+(List.length s.jO)=List.length s.jO∧((List.length s.jO+List.length ([s.i]):Nat):Int)*8≤2^47∧((List.length s.jO+List.length ([s.i]):Nat):Int)<2^62) (.req (0≤s.i∧s.i<((List.length s.sums:Nat):Int)) (.req (0≤(0:Int)∧0<(List.length s.alive:Int)) (.req (s.i.toNat<List.length s.sums) (.req (0≤s.i∧s.i<((List.length s.sums:Nat):Int)) (.req (s.i.toNat<List.length s.sums) (.req (0=0∧(List.length s.jO+List.length ([s.i]))=List.length (s.jO++([s.i]))) (.rl s.jM (.rl s.jL (.rl s.jK (.rl s.jJ (.rl s.jI (.rl s.jH (.rl s.jG (.rl s.jF (.rl s.jE (.rl s.eP (.rl s.eG (.rl s.eu (.rl s.dZ (.rl s.dY (.rl s.dX (.req (0=0∧(List.length s.sums)=List.length (s.sums.set s.i.toNat (IntKind.i64.wrap ((s.sums.getD s.i.toNat (Ty.dflt (.int .i64)))+(gi s.alive (0:Int)))))) (.rl s.levels (.ok (.next {s with k:=(IntKind.i64.wrap (s.k+1)),jO:=(s.jO++([s.i])),sums:=(s.sums.set s.i.toNat (IntKind.i64.wrap ((s.sums.getD s.i.toNat (Ty.dflt (.int .i64)))+(gi s.alive (0:Int)))))})))))))))))))))))))))))))) (.br ((gi s.l s.k)==1) (.req (0+(List.length s.jM)=List.length s.jM∧((List.length s.jM+List.length ([s.i]):Nat):Int)*8≤2^47∧((List.length s.jM+List.length ([s.i]):Nat):Int)<2^62) (.req (0≤s.i∧s.i<((List.length s.sums:Nat):Int)) (.req (0≤(1:Int)∧1<(List.length s.alive:Int)) (.req (s.i.toNat<List.length s.sums) (.req (0≤s.i∧s.i<((List.length s.sums:Nat):Int)) (.req (s.i.toNat<List.length s.sums) (.rl s.jO (.req (0=0∧(List.length s.jM+List.length ([s.i]))=List.length (s.jM++([s.i]))) (.rl s.jL (.rl s.jK (.rl s.jJ (.rl s.jI (.rl s.jH (.rl s.jG (.rl s.jF (.rl s.jE (.rl s.eP (.rl s.eG (.rl s.eu (.rl s.dZ (.rl s.dY (.rl s.dX (.req (0=0∧(List.length s.sums)=List.length (s.sums.set s.i.toNat (IntKind.i64.wrap ((s.sums.getD s.i.toNat (Ty.dflt (.int .i64)))+(gi s.alive (1:Int)))))) (.rl s.levels (.ok (.next {s with k:=(IntKind.i64.wrap (s.k+1)),jM:=(s.jM++([s.i])),sums:=(s.sums.set s.i.toNat (IntKind.i64.wrap ((s.sums.getD s.i.toNat (Ty.dflt (.int .i64)))+(gi s.alive (1:Int)))))})))))))))))))))))))))))))) (.br ((gi s.l s.k)==2) (.req (0+(List.length s.jL)=List.length s.jL∧((List.length s.jL+List.length ([s.i]):Nat):Int)*8≤2^47∧((List.length s.jL+List.length ([s.i]):Nat):Int)<2^62) (.req (0≤s.i∧s.i<((List.length s.sums:Nat):Int)) (.req (0≤(2:Int)∧2<(List.length s.alive:Int)) (.req (s.i.toNat<List.length s.sums) (.req (0≤s.i∧s.i<((List.length s.sums:Nat):Int)) (.req (s.i.toNat<List.length s.sums) (.rl s.jO (.rl s.jM (.req (0=0∧(List.length s.jL+List.length ([s.i]))=List.length (s.jL++([s.i]))) (.rl s.jK (.rl s.jJ (.rl s.jI (.rl s.jH (.rl s.jG (.rl s.jF (.rl s.jE (.rl s.eP (.rl s.eG (.rl s.eu (.rl s.dZ (.rl s.dY (.rl s.dX (.req (0=0∧(List.length s.sums)=List.length (s.sums.set s.i.toNat (IntKind.i64.wrap ((s.sums.getD s.i.toNat (Ty.dflt (.int .i64)))+(gi s.alive (2:Int)))))) (.rl s.levels (.ok (.next {s with k:=(IntKind.i64.wrap (s.k+1)),jL:=(s.jL++([s.i])),sums:=(s.sums.set s.i.toNat (IntKind.i64.wrap ((s.sums.getD s.i.toNat (Ty.dflt (.int .i64)))+(gi s.alive (2:Int)))))})))))))))))))))))))))))))) (.br ((gi s.l s.k)==3) (.req (0+(List.length s.jK)=List.length s.jK∧((List.length s.jK+List.length ([s.i]):Nat):Int)*8≤2^47∧((List.length s.jK+List.length ([s.i]):Nat):Int)<2^62) (.req (0≤s.i∧s.i<((List.length s.sums:Nat):Int)) (.req (0≤(3:Int)∧3<(List.length s.alive:Int)) (.req (s.i.toNat<List.length s.sums) (.req (0≤s.i∧s.i<((List.length s.sums:Nat):Int)) (.req (s.i.toNat<List.length s.sums) (.rl s.jO (.rl s.jM (.rl s.jL (.req (0=0∧(List.length s.jK+List.length ([s.i]))=List.length (s.jK++([s.i]))) (.rl s.jJ (.rl s.jI (.rl s.jH (.rl s.jG (.rl s.jF (.rl s.jE (.rl s.eP (.rl s.eG (.rl s.eu (.rl s.dZ (.rl s.dY (.rl s.dX (.req (0=0∧(List.length s.sums)=List.length (s.sums.set s.i.toNat (IntKind.i64.wrap ((s.sums.getD s.i.toNat (Ty.dflt (.int .i64)))+(gi s.alive (3:Int)))))) (.rl s.levels (.ok (.next {s with k:=(IntKind.i64.wrap (s.k+1)),jK:=(s.jK++([s.i])),sums:=(s.sums.set s.i.toNat (IntKind.i64.wrap ((s.sums.getD s.i.toNat (Ty.dflt (.int .i64)))+(gi s.alive (3:Int)))))})))))))))))))))))))))))))) (.br ((gi s.l s.k)==4) (.req (0+(List.length s.jJ)=List.length s.jJ∧((List.length s.jJ+List.length ([s.i]):Nat):Int)*8≤2^47∧((List.length s.jJ+List.length ([s.i]):Nat):Int)<2^62) (.req (0≤s.i∧s.i<((List.length s.sums:Nat):Int)) (.req (0≤(4:Int)∧4<(List.length s.alive:Int)) (.req (s.i.toNat<List.length s.sums) (.req (0≤s.i∧s.i<((List.length s.sums:Nat):Int)) (.req (s.i.toNat<List.length s.sums) (.rl s.jO (.rl s.jM (.rl s.jL (.rl s.jK (.req (0=0∧(List.length s.jJ+List.length ([s.i]))=List.length (s.jJ++([s.i]))) (.rl s.jI (.rl s.jH (.rl s.jG (.rl s.jF (.rl s.jE (.rl s.eP (.rl s.eG (.rl s.eu (.rl s.dZ (.rl s.dY (.rl s.dX (.req (0=0∧(List.length s.sums)=List.length (s.sums.set s.i.toNat (IntKind.i64.wrap ((s.sums.getD s.i.toNat (Ty.dflt (.int .i64)))+(gi s.alive (4:Int)))))) (.rl s.levels (.ok (.next {s with k:=(IntKind.i64.wrap (s.k+1)),jJ:=(s.jJ++([s.i])),sums:=(s.sums.set s.i.toNat (IntKind.i64.wrap ((s.sums.getD s.i.toNat (Ty.dflt (.int .i64)))+(gi s.alive (4:Int)))))})))))))))))))))))))))))))) (.br ((gi s.l s.k)==5) (.req (0+(List.length s.jI)=List.length s.jI∧((List.length s.jI+List.length ([s.i]):Nat):Int)*8≤2^47∧((List.length s.jI+List.length ([s.i]):Nat):Int)<2^62) (.req (0≤s.i∧s.i<((List.length s.sums:Nat):Int)) (.req (0≤(5:Int)∧5<(List.length s.alive:Int)) (.req (s.i.toNat<List.length s.sums) (.req (0≤s.i∧s.i<((List.length s.sums:Nat):Int)) (.req (s.i.toNat<List.length s.sums) (.rl s.jO (.rl s.jM (.rl s.jL (.rl s.jK (.rl s.jJ (.req (0=0∧(List.length s.jI+List.length ([s.i]))=List.length (s.jI++([s.i]))) (.rl s.jH (.rl s.jG (.rl s.jF (.rl s.jE (.rl s.eP (.rl s.eG (.rl s.eu (.rl s.dZ (.rl s.dY (.rl s.dX (.req (0=0∧(List.length s.sums)=List.length (s.sums.set s.i.toNat (IntKind.i64.wrap ((s.sums.getD s.i.toNat (Ty.dflt (.int .i64)))+(gi s.alive (5:Int)))))) (.rl s.levels (.ok (.next {s with k:=(IntKind.i64.wrap (s.k+1)),jI:=(s.jI++([s.i])),sums:=(s.sums.set s.i.toNat (IntKind.i64.wrap ((s.sums.getD s.i.toNat (Ty.dflt (.int .i64)))+(gi s.alive (5:Int)))))})))))))))))))))))))))))))) (.br ((gi s.l s.k)==6) (.req (0+(List.length s.jH)=List.length s.jH∧((List.length s.jH+List.length ([s.i]):Nat):Int)*8≤2^47∧((List.length s.jH+List.length ([s.i]):Nat):Int)<2^62) (.req (0≤s.i∧s.i<((List.length s.sums:Nat):Int)) (.req (0≤(6:Int)∧6<(List.length s.alive:Int)) (.req (s.i.toNat<List.length s.sums) (.req (0≤s.i∧s.i<((List.length s.sums:Nat):Int)) (.req (s.i.toNat<List.length s.sums) (.rl s.jO (.rl s.jM (.rl s.jL (.rl s.jK (.rl s.jJ (.rl s.jI (.req (0=0∧(List.length s.jH+List.length ([s.i]))=List.length (s.jH++([s.i]))) (.rl s.jG (.rl s.jF (.rl s.jE (.rl s.eP (.rl s.eG (.rl s.eu (.rl s.dZ (.rl s.dY (.rl s.dX (.req (0=0∧(List.length s.sums)=List.length (s.sums.set s.i.toNat (IntKind.i64.wrap ((s.sums.getD s.i.toNat (Ty.dflt (.int .i64)))+(gi s.alive (6:Int)))))) (.rl s.levels (.ok (.next {s with k:=(IntKind.i64.wrap (s.k+1)),jH:=(s.jH++([s.i])),sums:=(s.sums.set s.i.toNat (IntKind.i64.wrap ((s.sums.getD s.i.toNat (Ty.dflt (.int .i64)))+(gi s.alive (6:Int)))))})))))))))))))))))))))))))) (.br ((gi s.l s.k)==7) (.req (0+(List.length s.jG)=List.length s.jG∧((List.length s.jG+List.length ([s.i]):Nat):Int)*8≤2^47∧((List.length s.jG+List.length ([s.i]):Nat):Int)<2^62) (.req (0≤s.i∧s.i<((List.length s.sums:Nat):Int)) (.req (0≤(7:Int)∧7<(List.length s.alive:Int)) (.req (s.i.toNat<List.length s.sums) (.req (0≤s.i∧s.i<((List.length s.sums:Nat):Int)) (.req (s.i.toNat<List.length s.sums) (.rl s.jO (.rl s.jM (.rl s.jL (.rl s.jK (.rl s.jJ (.rl s.jI (.rl s.jH (.req (0=0∧(List.length s.jG+List.length ([s.i]))=List.length (s.jG++([s.i]))) (.rl s.jF (.rl s.jE (.rl s.eP (.rl s.eG (.rl s.eu (.rl s.dZ (.rl s.dY (.rl s.dX (.req (0=0∧(List.length s.sums)=List.length (s.sums.set s.i.toNat (IntKind.i64.wrap ((s.sums.getD s.i.toNat (Ty.dflt (.int .i64)))+(gi s.alive (7:Int)))))) (.rl s.levels (.ok (.next {s with k:=(IntKind.i64.wrap (s.k+1)),jG:=(s.jG++([s.i])),sums:=(s.sums.set s.i.toNat (IntKind.i64.wrap ((s.sums.getD s.i.toNat (Ty.dflt (.int .i64)))+(gi s.alive (7:Int)))))})))))))))))))))))))))))))) (.br ((gi s.l s.k)==8) (.req (0+(List.length s.jF)=List.length s.jF∧((List.length s.jF+List.length ([s.i]):Nat):Int)*8≤2^47∧((List.length s.jF+List.length ([s.i]):Nat):Int)<2^62) (.req (0≤s.i∧s.i<((List.length s.sums:Nat):Int)) (.req (0≤(8:Int)∧8<(List.length s.alive:Int)) (.req (s.i.toNat<List.length s.sums) (.req (0≤s.i∧s.i<((List.length s.sums:Nat):Int)) (.req (s.i.toNat<List.length s.sums) (.rl s.jO (.rl s.jM (.rl s.jL (.rl s.jK (.rl s.jJ (.rl s.jI (.rl s.jH (.rl s.jG (.req (0=0∧(List.length s.jF+List.length ([s.i]))=List.length (s.jF++([s.i]))) (.rl s.jE (.rl s.eP (.rl s.eG (.rl s.eu (.rl s.dZ (.rl s.dY (.rl s.dX (.req (0=0∧(List.length s.sums)=List.length (s.sums.set s.i.toNat (IntKind.i64.wrap ((s.sums.getD s.i.toNat (Ty.dflt (.int .i64)))+(gi s.alive (8:Int)))))) (.rl s.levels (.ok (.next {s with k:=(IntKind.i64.wrap (s.k+1)),jF:=(s.jF++([s.i])),sums:=(s.sums.set s.i.toNat (IntKind.i64.wrap ((s.sums.getD s.i.toNat (Ty.dflt (.int .i64)))+(gi s.alive (8:Int)))))})))))))))))))))))))))))))) (.br ((gi s.l s.k)==9) (.req (0+(List.length s.jE)=List.length s.jE∧((List.length s.jE+List.length ([s.i]):Nat):Int)*8≤2^47∧((List.length s.jE+List.length ([s.i]):Nat):Int)<2^62) (.req (0≤s.i∧s.i<((List.length s.sums:Nat):Int)) (.req (0≤(9:Int)∧9<(List.length s.alive:Int)) (.req (s.i.toNat<List.length s.sums) (.req (0≤s.i∧s.i<((List.length s.sums:Nat):Int)) (.req (s.i.toNat<List.length s.sums) (.rl s.jO (.rl s.jM (.rl s.jL (.rl s.jK (.rl s.jJ (.rl s.jI (.rl s.jH (.rl s.jG (.rl s.jF (.req (0=0∧(List.length s.jE+List.length ([s.i]))=List.length (s.jE++([s.i]))) (.rl s.eP (.rl s.eG (.rl s.eu (.rl s.dZ (.rl s.dY (.rl s.dX (.req (0=0∧(List.length s.sums)=List.length (s.sums.set s.i.toNat (IntKind.i64.wrap ((s.sums.getD s.i.toNat (Ty.dflt (.int .i64)))+(gi s.alive (9:Int)))))) (.rl s.levels (.ok (.next {s with k:=(IntKind.i64.wrap (s.k+1)),jE:=(s.jE++([s.i])),sums:=(s.sums.set s.i.toNat (IntKind.i64.wrap ((s.sums.getD s.i.toNat (Ty.dflt (.int .i64)))+(gi s.alive (9:Int)))))})))))))))))))))))))))))))) (.br ((gi s.l s.k)==10) (.req (0+(List.length s.eP)=List.length s.eP∧((List.length s.eP+List.length ([s.i]):Nat):Int)*8≤2^47∧((List.length s.eP+List.length ([s.i]):Nat):Int)<2^62) (.req (0≤s.i∧s.i<((List.length s.sums:Nat):Int)) (.req (0≤(10:Int)∧10<(List.length s.alive:Int)) (.req (s.i.toNat<List.length s.sums) (.req (0≤s.i∧s.i<((List.length s.sums:Nat):Int)) (.req (s.i.toNat<List.length s.sums) (.rl s.jO (.rl s.jM (.rl s.jL (.rl s.jK (.rl s.jJ (.rl s.jI (.rl s.jH (.rl s.jG (.rl s.jF (.rl s.jE (.req (0=0∧(List.length s.eP+List.length ([s.i]))=List.length (s.eP++([s.i]))) (.rl s.eG (.rl s.eu (.rl s.dZ (.rl s.dY (.rl s.dX (.req (0=0∧(List.length s.sums)=List.length (s.sums.set s.i.toNat (IntKind.i64.wrap ((s.sums.getD s.i.toNat (Ty.dflt (.int .i64)))+(gi s.alive (10:Int)))))) (.rl s.levels (.ok (.next {s with k:=(IntKind.i64.wrap (s.k+1)),eP:=(s.eP++([s.i])),sums:=(s.sums.set s.i.toNat (IntKind.i64.wrap ((s.sums.getD s.i.toNat (Ty.dflt (.int .i64)))+(gi s.alive (10:Int)))))})))))))))))))))))))))))))) (.br ((gi s.l s.k)==11) (.req (0+(List.length s.eG)=List.length s.eG∧((List.length s.eG+List.length ([s.i]):Nat):Int)*8≤2^47∧((List.length s.eG+List.length ([s.i]):Nat):Int)<2^62) (.req (0≤s.i∧s.i<((List.length s.sums:Nat):Int)) (.req (0≤(11:Int)∧11<(List.length s.alive:Int)) (.req (s.i.toNat<List.length s.sums) (.req (0≤s.i∧s.i<((List.length s.sums:Nat):Int)) (.req (s.i.toNat<List.length s.sums) (.rl s.jO (.rl s.jM (.rl s.jL (.rl s.jK (.rl s.jJ (.rl s.jI (.rl s.jH (.rl s.jG (.rl s.jF (.rl s.jE (.rl s.eP (.req (0=0∧(List.length s.eG+List.length ([s.i]))=List.length (s.eG++([s.i]))) (.rl s.eu (.rl s.dZ (.rl s.dY (.rl s.dX (.req (0=0∧(List.length s.sums)=List.length (s.sums.set s.i.toNat (IntKind.i64.wrap ((s.sums.getD s.i.toNat (Ty.dflt (.int .i64)))+(gi s.alive (11:Int)))))) (.rl s.levels (.ok (.next {s with k:=(IntKind.i64.wrap (s.k+1)),eG:=(s.eG++([s.i])),sums:=(s.sums.set s.i.toNat (IntKind.i64.wrap ((s.sums.getD s.i.toNat (Ty.dflt (.int .i64)))+(gi s.alive (11:Int)))))})))))))))))))))))))))))))) (.br ((gi s.l s.k)==12) (.req (0+(List.length s.eu)=List.length s.eu∧((List.length s.eu+List.length ([s.i]):Nat):Int)*8≤2^47∧((List.length s.eu+List.length ([s.i]):Nat):Int)<2^62) (.req (0≤s.i∧s.i<((List.length s.sums:Nat):Int)) (.req (0≤(12:Int)∧12<(List.length s.alive:Int)) (.req (s.i.toNat<List.length s.sums) (.req (0≤s.i∧s.i<((List.length s.sums:Nat):Int)) (.req (s.i.toNat<List.length s.sums) (.rl s.jO (.rl s.jM (.rl s.jL (.rl s.jK (.rl s.jJ (.rl s.jI (.rl s.jH (.rl s.jG (.rl s.jF (.rl s.jE (.rl s.eP (.rl s.eG (.req (0=0∧(List.length s.eu+List.length ([s.i]))=List.length (s.eu++([s.i]))) (.rl s.dZ (.rl s.dY (.rl s.dX (.req (0=0∧(List.length s.sums)=List.length (s.sums.set s.i.toNat (IntKind.i64.wrap ((s.sums.getD s.i.toNat (Ty.dflt (.int .i64)))+(gi s.alive (12:Int)))))) (.rl s.levels (.ok (.next {s with k:=(IntKind.i64.wrap (s.k+1)),eu:=(s.eu++([s.i])),sums:=(s.sums.set s.i.toNat (IntKind.i64.wrap ((s.sums.getD s.i.toNat (Ty.dflt (.int .i64)))+(gi s.alive (12:Int)))))})))))))))))))))))))))))))) (.br ((gi s.l s.k)==13) (.req (0+(List.length s.dZ)=List.length s.dZ∧((List.length s.dZ+List.length ([s.i]):Nat):Int)*8≤2^47∧((List.length s.dZ+List.length ([s.i]):Nat):Int)<2^62) (.req (0≤s.i∧s.i<((List.length s.sums:Nat):Int)) (.req (0≤(13:Int)∧13<(List.length s.alive:Int)) (.req (s.i.toNat<List.length s.sums) (.req (0≤s.i∧s.i<((List.length s.sums:Nat):Int)) (.req (s.i.toNat<List.length s.sums) (.rl s.jO (.rl s.jM (.rl s.jL (.rl s.jK (.rl s.jJ (.rl s.jI (.rl s.jH (.rl s.jG (.rl s.jF (.rl s.jE (.rl s.eP (.rl s.eG (.rl s.eu (.req (0=0∧(List.length s.dZ+List.length ([s.i]))=List.length (s.dZ++([s.i]))) (.rl s.dY (.rl s.dX (.req (0=0∧(List.length s.sums)=List.length (s.sums.set s.i.toNat (IntKind.i64.wrap ((s.sums.getD s.i.toNat (Ty.dflt (.int .i64)))+(gi s.alive (13:Int)))))) (.rl s.levels (.ok (.next {s with k:=(IntKind.i64.wrap (s.k+1)),dZ:=(s.dZ++([s.i])),sums:=(s.sums.set s.i.toNat (IntKind.i64.wrap ((s.sums.getD s.i.toNat (Ty.dflt (.int .i64)))+(gi s.alive (13:Int)))))})))))))))))))))))))))))))) (.br ((gi s.l s.k)==14) (.req (0+(List.length s.dY)=List.length s.dY∧((List.length s.dY+List.length ([s.i]):Nat):Int)*8≤2^47∧((List.length s.dY+List.length ([s.i]):Nat):Int)<2^62) (.req (0≤s.i∧s.i<((List.length s.sums:Nat):Int)) (.req (0≤(14:Int)∧14<(List.length s.alive:Int)) (.req (s.i.toNat<List.length s.sums) (.req (0≤s.i∧s.i<((List.length s.sums:Nat):Int)) (.req (s.i.toNat<List.length s.sums) (.rl s.jO (.rl s.jM (.rl s.jL (.rl s.jK (.rl s.jJ (.rl s.jI (.rl s.jH (.rl s.jG (.rl s.jF (.rl s.jE (.rl s.eP (.rl s.eG (.rl s.eu (.rl s.dZ (.req (0=0∧(List.length s.dY+List.length ([s.i]))=List.length (s.dY++([s.i]))) (.rl s.dX (.req (0=0∧(List.length s.sums)=List.length (s.sums.set s.i.toNat (IntKind.i64.wrap ((s.sums.getD s.i.toNat (Ty.dflt (.int .i64)))+(gi s.alive (14:Int)))))) (.rl s.levels (.ok (.next {s with k:=(IntKind.i64.wrap (s.k+1)),dY:=(s.dY++([s.i])),sums:=(s.sums.set s.i.toNat (IntKind.i64.wrap ((s.sums.getD s.i.toNat (Ty.dflt (.int .i64)))+(gi s.alive (14:Int)))))})))))))))))))))))))))))))) (.req (0+(List.length s.dX)=List.length s.dX∧((List.length s.dX+List.length ([s.i]):Nat):Int)*8≤2^47∧((List.length s.dX+List.length ([s.i]):Nat):Int)<2^62) (.req (0≤s.i∧s.i<((List.length s.sums:Nat):Int)) (.req (0≤(15:Int)∧15<(List.length s.alive:Int)) (.req (s.i.toNat<List.length s.sums) (.req (0≤s.i∧s.i<((List.length s.sums:Nat):Int)) (.req (s.i.toNat<List.length s.sums) (.rl s.jO (.rl s.jM (.rl s.jL (.rl s.jK (.rl s.jJ (.rl s.jI (.rl s.jH (.rl s.jG (.rl s.jF (.rl s.jE (.rl s.eP (.rl s.eG (.rl s.eu (.rl s.dZ (.rl s.dY (.req (0=0∧(List.length s.dX+List.length ([s.i]))=List.length (s.dX++([s.i]))) (.req (0=0∧(List.length s.sums)=List.length (s.sums.set s.i.toNat (IntKind.i64.wrap ((s.sums.getD s.i.toNat (Ty.dflt (.int .i64)))+(gi s.alive (15:Int)))))) (.rl s.levels (.ok (.next {s with k:=(IntKind.i64.wrap (s.k+1)),dX:=(s.dX++([s.i])),sums:=(s.sums.set s.i.toNat (IntKind.i64.wrap ((s.sums.getD s.i.toNat (Ty.dflt (.int .i64)))+(gi s.alive (15:Int)))))}))))))))))))))))))))))))))))))))))))))))))) (.rl s.jO (.rl s.jM (.rl s.jL (.rl s.jK (.rl s.jJ (.rl s.jI (.rl s.jH (.rl s.jG (.rl s.jF (.rl s.jE (.rl s.eP (.rl s.eG (.rl s.eu (.rl s.dZ (.rl s.dY (.rl s.dX (.rl s.sums (.rl s.levels (.ok (.stop (.exit 2) s))))))))))))))))))))
abbrev abh (s:iT):=(QU s).rd s
def fQ (s:iT):List (List Int):=[s.jO,s.jM,s.jL,s.jK,s.jJ,s.jI,s.jH,s.jG,s.jF,s.jE,s.eP,s.eG,s.eu,s.dZ,s.dY,s.dX]
def Va (s:iT):Prop:=s.k=0∧(∀o∈fQ s,(o.length:Int)≤1000000)∧(0≤gi s.sums s.i∧gi s.sums s.i≤1000)∧s.n=(s.l.length:Int)∧s.n≤1000∧(∀m∈s.l,0≤m∧m<16∧m<(s.alive.length:Int))∧(∀a∈s.alive,0≤a∧a≤80)∧(0≤s.i∧s.i<(s.sums.length:Int))
def vT (s:iT):Prop:=(0≤s.k∧s.k≤s.n)∧(∀o∈fQ s,(o.length:Int)≤1000000+s.k)∧(0≤gi s.sums s.i∧gi s.sums s.i≤1000+80*s.k)∧s.n=(s.l.length:Int)∧s.n≤1000∧(∀m∈s.l,0≤m∧m<16∧m<(s.alive.length:Int))∧(∀a∈s.alive,0≤a∧a≤80)∧(0≤s.i∧s.i<(s.sums.length:Int))
def wW (s:iT):Nat:=(s.n-s.k).toNat
def ajE (x:Ex) (_ s':iT):Prop:=x=.exit 2∧s'.k=s'.n
theorem ayc:∀s,Va s→vT s:=by
 intro s h
 obtain ⟨h0,h1,h2,h3⟩:=h
 exact ⟨by have:=h3.1;omega,fun o ho=>by have:=h1 o ho;omega,by omega,h3⟩
theorem gV (s:iT) (hI:vT s) (c1:s.k<s.n):0≤gi s.l s.k∧gi s.l s.k<16∧gi s.l s.k<(s.alive.length:Int):=by
 obtain ⟨⟨h0,h1⟩,h2,h3,h4,h5,h6,h7,h8⟩:=hI
 exact h6 _ (by rw [jy (by omega)];exact List.getElem_mem _)
theorem ag1 (s s':iT) (j:Nat) (hI:vT s) (c1:s.k<s.n) (em:gi s.l s.k=(j:Int)) (hO:fQ s'=(fQ s).modify j (·++[s.i])) (hs:s'.sums=s.sums.set s.i.toNat (IntKind.i64.wrap (s.sums.getD s.i.toNat 0+gi s.alive (j:Int)))) (hk:s'.k=IntKind.i64.wrap (s.k+1)) (hn:s'.n=s.n) (hl:s'.l=s.l) (ha:s'.alive=s.alive) (hi:s'.i=s.i):
  (vT s'∧wW s'<wW s)∧(fun s:iT=>(vW s.i (fQ s) (s.l.drop s.k.toNat),s.sums.set s.i.toNat (s.sums.getD s.i.toNat 0+smA s.alive (s.l.drop s.k.toNat)))) s'=(fun s:iT=>(vW s.i (fQ s) (s.l.drop s.k.toNat),s.sums.set s.i.toNat (s.sums.getD s.i.toNat 0+smA s.alive (s.l.drop s.k.toNat)))) s:=by
 have hm:=gV s hI c1
 obtain ⟨⟨h0,h1⟩,h2,⟨h3,h3'⟩,h4,h5,h6,h7,h8⟩:=hI
 rw [aF (x:=s.k+1) (by omega) (by omega)] at hk
 have hav:=h7 (gi s.alive (j:Int)) (by rw [jy (by omega)];exact List.getElem_mem _)
 have hgi:gi s.sums s.i=s.sums.getD s.i.toNat 0:=rfl
 rw [aF (x:=s.sums.getD s.i.toNat 0+gi s.alive (j:Int)) (by omega) (by omega)] at hs
 have hs2:gi s'.sums s'.i=s.sums.getD s.i.toNat 0+gi s.alive (j:Int):=by
  rw [hi,hs]
  show List.getD _ _ _=_
  simp [List.getD,show s.i.toNat<s.sums.length by omega]
 refine ⟨⟨⟨⟨by omega,by omega⟩,fun o ho=>?_,⟨by rw [hs2];omega,by rw [hs2];omega⟩,by rw [hn,hl];exact h4,by omega,by rw [hl,ha];exact h6,by rw [ha];exact h7,⟨by rw [hi];omega,by rw [hi,hs,List.length_set];omega⟩⟩,by simp only [wW];omega⟩,?_⟩
 ·rw [hO] at ho
  obtain ⟨k,hk2,rfl⟩:=List.mem_iff_getElem.1 ho
  rw [List.length_modify] at hk2
  have:=h2 (fQ s)[k] (List.getElem_mem _)
  rw [List.getElem_modify]
  split
  ·simp only [List.length_append,List.length_cons,List.length_nil];omega
  ·omega
 ·simp only
  rw [hO,hs,hl,ha,hi,hk,(gi_step h0 (show s.k<s.l.length by omega)).1,yg,Sj,em,Int.toNat_natCast,Sr (by omega)]
theorem jl (s s':iT) (j:Nat) (hI:vT s) (c1:s.k<s.n) (em:gi s.l s.k=(j:Int)) (hO:fQ s'=(fQ s).modify j (·++[s.i])) (hs:s'.sums=s.sums.set s.i.toNat (IntKind.i64.wrap (s.sums.getD s.i.toNat 0+gi s.alive (j:Int)))) (hk:s'.k=IntKind.i64.wrap (s.k+1)) (hn:s'.n=s.n) (hl:s'.l=s.l) (ha:s'.alive=s.alive) (hi:s'.i=s.i):bY (fun s'=>vT s'∧wW s'<wW s) (fun x s'=>ajE x s s') (.next s'):=(ag1 s s' j hI c1 em hO hs hk hn hl ha hi).1
theorem jk (s s':iT) (j:Nat) (hI:vT s) (c1:s.k<s.n) (em:gi s.l s.k=(j:Int)) (hO:fQ s'=(fQ s).modify j (·++[s.i])) (hs:s'.sums=s.sums.set s.i.toNat (IntKind.i64.wrap (s.sums.getD s.i.toNat 0+gi s.alive (j:Int)))) (hk:s'.k=IntKind.i64.wrap (s.k+1)) (hn:s'.n=s.n) (hl:s'.l=s.l) (ha:s'.alive=s.alive) (hi:s'.i=s.i):bY (fun s'=>(fun s:iT=>(vW s.i (fQ s) (s.l.drop s.k.toNat),s.sums.set s.i.toNat (s.sums.getD s.i.toNat 0+smA s.alive (s.l.drop s.k.toNat)))) s'=(fun s:iT=>(vW s.i (fQ s) (s.l.drop s.k.toNat),s.sums.set s.i.toNat (s.sums.getD s.i.toNat 0+smA s.alive (s.l.drop s.k.toNat)))) s) (fun _ s'=>(fun s:iT=>(vW s.i (fQ s) (s.l.drop s.k.toNat),s.sums.set s.i.toNat (s.sums.getD s.i.toNat 0+smA s.alive (s.l.drop s.k.toNat)))) s'=(fun s:iT=>(vW s.i (fQ s) (s.l.drop s.k.toNat),s.sums.set s.i.toNat (s.sums.getD s.i.toNat 0+smA s.alive (s.l.drop s.k.toNat)))) s) (.next s'):=(ag1 s s' j hI c1 em hO hs hk hn hl ha hi).2
theorem ag3 (s : iT) (hI:vT s):bY (fun s'=>vT s'∧wW s'<wW s) (fun x s'=>ajE x s s') (abh s):=by
 unfold abh QU
 dsimp only [T.rd,T.rl]
 refine ai (fun c1=>?_) (fun c1=>?_)
 ·refine ai (fun c2=>?_) (fun c2=>?_)
  ·have em:gi s.l s.k=0:=by simpa using c2
   exact jl s _ 0 hI (by simpa using c1) em rfl rfl rfl rfl rfl rfl rfl
  ·refine ai (fun c3=>?_) (fun c3=>?_)
   ·have em:gi s.l s.k=1:=by simpa using c3
    exact jl s _ 1 hI (by simpa using c1) em rfl rfl rfl rfl rfl rfl rfl
   ·refine ai (fun c4=>?_) (fun c4=>?_)
    ·have em:gi s.l s.k=2:=by simpa using c4
     exact jl s _ 2 hI (by simpa using c1) em rfl rfl rfl rfl rfl rfl rfl
    ·refine ai (fun c5=>?_) (fun c5=>?_)
     ·have em:gi s.l s.k=3:=by simpa using c5
      exact jl s _ 3 hI (by simpa using c1) em rfl rfl rfl rfl rfl rfl rfl
     ·refine ai (fun c6=>?_) (fun c6=>?_)
      ·have em:gi s.l s.k=4:=by simpa using c6
       exact jl s _ 4 hI (by simpa using c1) em rfl rfl rfl rfl rfl rfl rfl
      ·refine ai (fun c7=>?_) (fun c7=>?_)
       ·have em:gi s.l s.k=5:=by simpa using c7
        exact jl s _ 5 hI (by simpa using c1) em rfl rfl rfl rfl rfl rfl rfl
       ·refine ai (fun c8=>?_) (fun c8=>?_)
        ·have em:gi s.l s.k=6:=by simpa using c8
         exact jl s _ 6 hI (by simpa using c1) em rfl rfl rfl rfl rfl rfl rfl
        ·refine ai (fun c9=>?_) (fun c9=>?_)
         ·have em:gi s.l s.k=7:=by simpa using c9
          exact jl s _ 7 hI (by simpa using c1) em rfl rfl rfl rfl rfl rfl rfl
         ·refine ai (fun c10=>?_) (fun c10=>?_)
          ·have em:gi s.l s.k=8:=by simpa using c10
           exact jl s _ 8 hI (by simpa using c1) em rfl rfl rfl rfl rfl rfl rfl
          ·refine ai (fun c11=>?_) (fun c11=>?_)
           ·have em:gi s.l s.k=9:=by simpa using c11
            exact jl s _ 9 hI (by simpa using c1) em rfl rfl rfl rfl rfl rfl rfl
           ·refine ai (fun c12=>?_) (fun c12=>?_)
            ·have em:gi s.l s.k=10:=by simpa using c12
             exact jl s _ 10 hI (by simpa using c1) em rfl rfl rfl rfl rfl rfl rfl
            ·refine ai (fun c13=>?_) (fun c13=>?_)
             ·have em:gi s.l s.k=11:=by simpa using c13
              exact jl s _ 11 hI (by simpa using c1) em rfl rfl rfl rfl rfl rfl rfl
             ·refine ai (fun c14=>?_) (fun c14=>?_)
              ·have em:gi s.l s.k=12:=by simpa using c14
               exact jl s _ 12 hI (by simpa using c1) em rfl rfl rfl rfl rfl rfl rfl
              ·refine ai (fun c15=>?_) (fun c15=>?_)
               ·have em:gi s.l s.k=13:=by simpa using c15
                exact jl s _ 13 hI (by simpa using c1) em rfl rfl rfl rfl rfl rfl rfl
               ·refine ai (fun c16=>?_) (fun c16=>?_)
                ·have em:gi s.l s.k=14:=by simpa using c16
                 exact jl s _ 14 hI (by simpa using c1) em rfl rfl rfl rfl rfl rfl rfl
                ·have em:gi s.l s.k=15:=by
                  have hm:=gV s hI (by simpa using c1)
                  simp only [beq_eq_false_iff_ne,ne_eq] at c2 c3 c4 c5 c6 c7 c8 c9 c10 c11 c12 c13 c14 c15 c16
                  omega
                 exact jl s _ 15 hI (by simpa using c1) em rfl rfl rfl rfl rfl rfl rfl
 ·have c1:s.n≤s.k:=by simpa using c1
  have h0:=hI.1
  exact ⟨rfl,by omega⟩
def Nw:dn iT:=⟨1,67,[2,7,8,23,24,25,31,32,33],[.ns 7 6 3 (.int .i64),.ns 7 7 3 (.int .i64),.ns 7 8 3 (.int .i64),.ns 7 9 3 (.int .i64),.ns 7 10 3 (.int .i64),.ns 7 11 3 (.int .i64),.ns 7 12 3 (.int .i64),.ns 7 13 3 (.int .i64),.ns 7 14 3 (.int .i64),.ns 7 15 3 (.int .i64),.ns 7 16 3 (.int .i64),.ns 7 17 3 (.int .i64),.ns 7 18 3 (.int .i64),.ns 7 19 3 (.int .i64),.ns 7 20 3 (.int .i64),.ns 7 21 3 (.int .i64)],aAY,aAb,fun v b=>⟨bf (.int .i64) (v.getD 0 .junk),gI (v.getD 2 .junk),bf FI (v.getD 3 .junk),gI (v.getD 4 .junk),gI (v.getD 5 .junk),bf (.int .i64) (v.getD 6 .junk),gI (v.getD 7 .junk),gI (v.getD 8 .junk),bf iJ (bC (aV b 0) 0),bf .str (bC (aV b 0) 1),bf iQ (bC (aV b 0) 2),bf gU (bC (aV b 0) 3),bf iR (bC (aV b 0) 4),bf iJ (bC (aV b 1) 0),bf .str (bC (aV b 1) 1),bf iQ (bC (aV b 1) 2),bf gU (bC (aV b 1) 3),bf iR (bC (aV b 1) 4),bf FI (bC (aV b 1) 5),bf (.int .i64) (bC (aV b 1) 23),jm (.int .i64) (aV b 2),jm (.int .i64) (aV b 3),jm (.int .i64) (aV b 4),jm (.int .i64) (aV b 5),jm (.int .i64) (aV b 6),jm (.int .i64) (aV b 7),jm (.int .i64) (aV b 8),jm (.int .i64) (aV b 9),jm (.int .i64) (aV b 10),jm (.int .i64) (aV b 11),jm (.int .i64) (aV b 12),jm (.int .i64) (aV b 13),jm (.int .i64) (aV b 14),jm (.int .i64) (aV b 15),jm (.int .i64) (aV b 16),jm (.int .i64) (aV b 17),jm (.int .i64) (aV b 18),jm (.int .i64) (aV b 19)⟩,QU,fun s r=> {r with alive:=s.alive,i:=s.i,rows:=s.rows,rn:=s.rn,ri:=s.ri,l:=s.l,n:=s.n,dh:=s.dh,fF:=s.fF,dF:=s.dF,dM:=s.dM,jd:=s.jd,y9:=s.y9,y7:=s.y7,y8:=s.y8,fJ:=s.fJ,zf:=s.zf,bP:=s.bP,bg:=s.bg,levels:=s.levels},fun s=>s,fun _ s=>s,[.exit 2],Va,vT,wW⟩
abbrev bM:=Nw.run
abbrev av8:=Nw.q
noncomputable def aaR:Hand:=inl Tryz.prog aT yT (dG 93 1 2 (vU.lp) (jo Tryz.prog aT (yT) 20 2)) 9
theorem ahH:cO Tryz.prog aT aaR:=bJ AQ (aP Tryz.func93 rfl (by kernel_rfl) xQ (dw AQ)) 9
set_option maxRecDepth 100000 in
set_option maxHeartbeats 4000000 in
theorem asZ (s:iT) (hI:vT s):(QU s).all (fun _=>True):=by
 refine ⟨fun c1=>⟨?_,?_,fun c2=>⟨?_,?_,?_,?_,?_,?_,?_,⟨rfl,rfl⟩,⟨rfl,rfl⟩,⟨rfl,rfl⟩,⟨rfl,rfl⟩,⟨rfl,rfl⟩,⟨rfl,rfl⟩,⟨rfl,rfl⟩,⟨rfl,rfl⟩,⟨rfl,rfl⟩,⟨rfl,rfl⟩,⟨rfl,rfl⟩,⟨rfl,rfl⟩,⟨rfl,rfl⟩,⟨rfl,rfl⟩,⟨rfl,rfl⟩,?_,⟨rfl,rfl⟩,trivial⟩,fun c2=>⟨fun c3=>⟨?_,?_,?_,?_,?_,?_,⟨rfl,rfl⟩,?_,⟨rfl,rfl⟩,⟨rfl,rfl⟩,⟨rfl,rfl⟩,⟨rfl,rfl⟩,⟨rfl,rfl⟩,⟨rfl,rfl⟩,⟨rfl,rfl⟩,⟨rfl,rfl⟩,⟨rfl,rfl⟩,⟨rfl,rfl⟩,⟨rfl,rfl⟩,⟨rfl,rfl⟩,⟨rfl,rfl⟩,⟨rfl,rfl⟩,?_,⟨rfl,rfl⟩,trivial⟩,fun c3=>⟨fun c4=>⟨?_,?_,?_,?_,?_,?_,⟨rfl,rfl⟩,⟨rfl,rfl⟩,?_,⟨rfl,rfl⟩,⟨rfl,rfl⟩,⟨rfl,rfl⟩,⟨rfl,rfl⟩,⟨rfl,rfl⟩,⟨rfl,rfl⟩,⟨rfl,rfl⟩,⟨rfl,rfl⟩,⟨rfl,rfl⟩,⟨rfl,rfl⟩,⟨rfl,rfl⟩,⟨rfl,rfl⟩,⟨rfl,rfl⟩,?_,⟨rfl,rfl⟩,trivial⟩,fun c4=>⟨fun c5=>⟨?_,?_,?_,?_,?_,?_,⟨rfl,rfl⟩,⟨rfl,rfl⟩,⟨rfl,rfl⟩,?_,⟨rfl,rfl⟩,⟨rfl,rfl⟩,⟨rfl,rfl⟩,⟨rfl,rfl⟩,⟨rfl,rfl⟩,⟨rfl,rfl⟩,⟨rfl,rfl⟩,⟨rfl,rfl⟩,⟨rfl,rfl⟩,⟨rfl,rfl⟩,⟨rfl,rfl⟩,⟨rfl,rfl⟩,?_,⟨rfl,rfl⟩,trivial⟩,fun c5=>⟨fun c6=>⟨?_,?_,?_,?_,?_,?_,⟨rfl,rfl⟩,⟨rfl,rfl⟩,⟨rfl,rfl⟩,⟨rfl,rfl⟩,?_,⟨rfl,rfl⟩,⟨rfl,rfl⟩,⟨rfl,rfl⟩,⟨rfl,rfl⟩,⟨rfl,rfl⟩,⟨rfl,rfl⟩,⟨rfl,rfl⟩,⟨rfl,rfl⟩,⟨rfl,rfl⟩,⟨rfl,rfl⟩,⟨rfl,rfl⟩,?_,⟨rfl,rfl⟩,trivial⟩,fun c6=>⟨fun c7=>⟨?_,?_,?_,?_,?_,?_,⟨rfl,rfl⟩,⟨rfl,rfl⟩,⟨rfl,rfl⟩,⟨rfl,rfl⟩,⟨rfl,rfl⟩,?_,⟨rfl,rfl⟩,⟨rfl,rfl⟩,⟨rfl,rfl⟩,⟨rfl,rfl⟩,⟨rfl,rfl⟩,⟨rfl,rfl⟩,⟨rfl,rfl⟩,⟨rfl,rfl⟩,⟨rfl,rfl⟩,⟨rfl,rfl⟩,?_,⟨rfl,rfl⟩,trivial⟩,fun c7=>⟨fun c8=>⟨?_,?_,?_,?_,?_,?_,⟨rfl,rfl⟩,⟨rfl,rfl⟩,⟨rfl,rfl⟩,⟨rfl,rfl⟩,⟨rfl,rfl⟩,⟨rfl,rfl⟩,?_,⟨rfl,rfl⟩,⟨rfl,rfl⟩,⟨rfl,rfl⟩,⟨rfl,rfl⟩,⟨rfl,rfl⟩,⟨rfl,rfl⟩,⟨rfl,rfl⟩,⟨rfl,rfl⟩,⟨rfl,rfl⟩,?_,⟨rfl,rfl⟩,trivial⟩,fun c8=>⟨fun c9=>⟨?_,?_,?_,?_,?_,?_,⟨rfl,rfl⟩,⟨rfl,rfl⟩,⟨rfl,rfl⟩,⟨rfl,rfl⟩,⟨rfl,rfl⟩,⟨rfl,rfl⟩,⟨rfl,rfl⟩,?_,⟨rfl,rfl⟩,⟨rfl,rfl⟩,⟨rfl,rfl⟩,⟨rfl,rfl⟩,⟨rfl,rfl⟩,⟨rfl,rfl⟩,⟨rfl,rfl⟩,⟨rfl,rfl⟩,?_,⟨rfl,rfl⟩,trivial⟩,fun c9=>⟨fun c10=>⟨?_,?_,?_,?_,?_,?_,⟨rfl,rfl⟩,⟨rfl,rfl⟩,⟨rfl,rfl⟩,⟨rfl,rfl⟩,⟨rfl,rfl⟩,⟨rfl,rfl⟩,⟨rfl,rfl⟩,⟨rfl,rfl⟩,?_,⟨rfl,rfl⟩,⟨rfl,rfl⟩,⟨rfl,rfl⟩,⟨rfl,rfl⟩,⟨rfl,rfl⟩,⟨rfl,rfl⟩,⟨rfl,rfl⟩,?_,⟨rfl,rfl⟩,trivial⟩,fun c10=>⟨fun c11=>⟨?_,?_,?_,?_,?_,?_,⟨rfl,rfl⟩,⟨rfl,rfl⟩,⟨rfl,rfl⟩,⟨rfl,rfl⟩,⟨rfl,rfl⟩,⟨rfl,rfl⟩,⟨rfl,rfl⟩,⟨rfl,rfl⟩,⟨rfl,rfl⟩,?_,⟨rfl,rfl⟩,⟨rfl,rfl⟩,⟨rfl,rfl⟩,⟨rfl,rfl⟩,⟨rfl,rfl⟩,⟨rfl,rfl⟩,?_,⟨rfl,rfl⟩,trivial⟩,fun c11=>⟨fun c12=>⟨?_,?_,?_,?_,?_,?_,⟨rfl,rfl⟩,⟨rfl,rfl⟩,⟨rfl,rfl⟩,⟨rfl,rfl⟩,⟨rfl,rfl⟩,⟨rfl,rfl⟩,⟨rfl,rfl⟩,⟨rfl,rfl⟩,⟨rfl,rfl⟩,⟨rfl,rfl⟩,?_,⟨rfl,rfl⟩,⟨rfl,rfl⟩,⟨rfl,rfl⟩,⟨rfl,rfl⟩,⟨rfl,rfl⟩,?_,⟨rfl,rfl⟩,trivial⟩,fun c12=>⟨fun c13=>⟨?_,?_,?_,?_,?_,?_,⟨rfl,rfl⟩,⟨rfl,rfl⟩,⟨rfl,rfl⟩,⟨rfl,rfl⟩,⟨rfl,rfl⟩,⟨rfl,rfl⟩,⟨rfl,rfl⟩,⟨rfl,rfl⟩,⟨rfl,rfl⟩,⟨rfl,rfl⟩,⟨rfl,rfl⟩,?_,⟨rfl,rfl⟩,⟨rfl,rfl⟩,⟨rfl,rfl⟩,⟨rfl,rfl⟩,?_,⟨rfl,rfl⟩,trivial⟩,fun c13=>⟨fun c14=>⟨?_,?_,?_,?_,?_,?_,⟨rfl,rfl⟩,⟨rfl,rfl⟩,⟨rfl,rfl⟩,⟨rfl,rfl⟩,⟨rfl,rfl⟩,⟨rfl,rfl⟩,⟨rfl,rfl⟩,⟨rfl,rfl⟩,⟨rfl,rfl⟩,⟨rfl,rfl⟩,⟨rfl,rfl⟩,⟨rfl,rfl⟩,?_,⟨rfl,rfl⟩,⟨rfl,rfl⟩,⟨rfl,rfl⟩,?_,⟨rfl,rfl⟩,trivial⟩,fun c14=>⟨fun c15=>⟨?_,?_,?_,?_,?_,?_,⟨rfl,rfl⟩,⟨rfl,rfl⟩,⟨rfl,rfl⟩,⟨rfl,rfl⟩,⟨rfl,rfl⟩,⟨rfl,rfl⟩,⟨rfl,rfl⟩,⟨rfl,rfl⟩,⟨rfl,rfl⟩,⟨rfl,rfl⟩,⟨rfl,rfl⟩,⟨rfl,rfl⟩,⟨rfl,rfl⟩,?_,⟨rfl,rfl⟩,⟨rfl,rfl⟩,?_,⟨rfl,rfl⟩,trivial⟩,fun c15=>⟨fun c16=>⟨?_,?_,?_,?_,?_,?_,⟨rfl,rfl⟩,⟨rfl,rfl⟩,⟨rfl,rfl⟩,⟨rfl,rfl⟩,⟨rfl,rfl⟩,⟨rfl,rfl⟩,⟨rfl,rfl⟩,⟨rfl,rfl⟩,⟨rfl,rfl⟩,⟨rfl,rfl⟩,⟨rfl,rfl⟩,⟨rfl,rfl⟩,⟨rfl,rfl⟩,⟨rfl,rfl⟩,?_,⟨rfl,rfl⟩,?_,⟨rfl,rfl⟩,trivial⟩,fun c16=>⟨?_,?_,?_,?_,?_,?_,⟨rfl,rfl⟩,⟨rfl,rfl⟩,⟨rfl,rfl⟩,⟨rfl,rfl⟩,⟨rfl,rfl⟩,⟨rfl,rfl⟩,⟨rfl,rfl⟩,⟨rfl,rfl⟩,⟨rfl,rfl⟩,⟨rfl,rfl⟩,⟨rfl,rfl⟩,⟨rfl,rfl⟩,⟨rfl,rfl⟩,⟨rfl,rfl⟩,⟨rfl,rfl⟩,?_,?_,⟨rfl,rfl⟩,trivial⟩⟩⟩⟩⟩⟩⟩⟩⟩⟩⟩⟩⟩⟩⟩⟩,fun c1=>⟨⟨rfl,rfl⟩,⟨rfl,rfl⟩,⟨rfl,rfl⟩,⟨rfl,rfl⟩,⟨rfl,rfl⟩,⟨rfl,rfl⟩,⟨rfl,rfl⟩,⟨rfl,rfl⟩,⟨rfl,rfl⟩,⟨rfl,rfl⟩,⟨rfl,rfl⟩,⟨rfl,rfl⟩,⟨rfl,rfl⟩,⟨rfl,rfl⟩,⟨rfl,rfl⟩,⟨rfl,rfl⟩,⟨rfl,rfl⟩,⟨rfl,rfl⟩,trivial⟩⟩
 ·(obtain ⟨h0,h2,h3,h4,h5,h6,h7,h8⟩:=hI;simp only [decide_eq_true_eq] at c1;omega)
 ·exact ⟨(gV s hI (by simpa using c1)).1,(gV s hI (by simpa using c1)).2.1⟩
 ·(have:=hI.2.1 s.jO (by simp [fQ]);have:=hI.1;have:=hI.2.2.2.1;have:=hI.2.2.2.2.1;simp only [List.length_cons,List.length_nil];omega)
 ·(obtain ⟨h0,h2,h3,h4,h5,h6,h7,h8⟩:=hI;simp only [decide_eq_true_eq] at c1;omega)
 ·(have em:=eq_of_beq c2;have hm:=gV s hI (by simpa using c1);omega)
 iterate 3 · (obtain ⟨h0,h2,h3,h4,h5,h6,h7,h8⟩:=hI;simp only [decide_eq_true_eq] at c1;omega)
 iterate 2 · exact ⟨rfl,by simp⟩
 ·(have:=hI.2.1 s.jM (by simp [fQ]);have:=hI.1;have:=hI.2.2.2.1;have:=hI.2.2.2.2.1;simp only [List.length_cons,List.length_nil];omega)
 ·(obtain ⟨h0,h2,h3,h4,h5,h6,h7,h8⟩:=hI;simp only [decide_eq_true_eq] at c1;omega)
 ·(have em:=eq_of_beq c3;have hm:=gV s hI (by simpa using c1);omega)
 iterate 3 · (obtain ⟨h0,h2,h3,h4,h5,h6,h7,h8⟩:=hI;simp only [decide_eq_true_eq] at c1;omega)
 iterate 2 · exact ⟨rfl,by simp⟩
 ·(have:=hI.2.1 s.jL (by simp [fQ]);have:=hI.1;have:=hI.2.2.2.1;have:=hI.2.2.2.2.1;simp only [List.length_cons,List.length_nil];omega)
 ·(obtain ⟨h0,h2,h3,h4,h5,h6,h7,h8⟩:=hI;simp only [decide_eq_true_eq] at c1;omega)
 ·(have em:=eq_of_beq c4;have hm:=gV s hI (by simpa using c1);omega)
 iterate 3 · (obtain ⟨h0,h2,h3,h4,h5,h6,h7,h8⟩:=hI;simp only [decide_eq_true_eq] at c1;omega)
 iterate 2 · exact ⟨rfl,by simp⟩
 ·(have:=hI.2.1 s.jK (by simp [fQ]);have:=hI.1;have:=hI.2.2.2.1;have:=hI.2.2.2.2.1;simp only [List.length_cons,List.length_nil];omega)
 ·(obtain ⟨h0,h2,h3,h4,h5,h6,h7,h8⟩:=hI;simp only [decide_eq_true_eq] at c1;omega)
 ·(have em:=eq_of_beq c5;have hm:=gV s hI (by simpa using c1);omega)
 iterate 3 · (obtain ⟨h0,h2,h3,h4,h5,h6,h7,h8⟩:=hI;simp only [decide_eq_true_eq] at c1;omega)
 iterate 2 · exact ⟨rfl,by simp⟩
 ·(have:=hI.2.1 s.jJ (by simp [fQ]);have:=hI.1;have:=hI.2.2.2.1;have:=hI.2.2.2.2.1;simp only [List.length_cons,List.length_nil];omega)
 ·(obtain ⟨h0,h2,h3,h4,h5,h6,h7,h8⟩:=hI;simp only [decide_eq_true_eq] at c1;omega)
 ·(have em:=eq_of_beq c6;have hm:=gV s hI (by simpa using c1);omega)
 iterate 3 · (obtain ⟨h0,h2,h3,h4,h5,h6,h7,h8⟩:=hI;simp only [decide_eq_true_eq] at c1;omega)
 iterate 2 · exact ⟨rfl,by simp⟩
 ·(have:=hI.2.1 s.jI (by simp [fQ]);have:=hI.1;have:=hI.2.2.2.1;have:=hI.2.2.2.2.1;simp only [List.length_cons,List.length_nil];omega)
 ·(obtain ⟨h0,h2,h3,h4,h5,h6,h7,h8⟩:=hI;simp only [decide_eq_true_eq] at c1;omega)
 ·(have em:=eq_of_beq c7;have hm:=gV s hI (by simpa using c1);omega)
 iterate 3 · (obtain ⟨h0,h2,h3,h4,h5,h6,h7,h8⟩:=hI;simp only [decide_eq_true_eq] at c1;omega)
 iterate 2 · exact ⟨rfl,by simp⟩
 ·(have:=hI.2.1 s.jH (by simp [fQ]);have:=hI.1;have:=hI.2.2.2.1;have:=hI.2.2.2.2.1;simp only [List.length_cons,List.length_nil];omega)
 ·(obtain ⟨h0,h2,h3,h4,h5,h6,h7,h8⟩:=hI;simp only [decide_eq_true_eq] at c1;omega)
 ·(have em:=eq_of_beq c8;have hm:=gV s hI (by simpa using c1);omega)
 iterate 3 · (obtain ⟨h0,h2,h3,h4,h5,h6,h7,h8⟩:=hI;simp only [decide_eq_true_eq] at c1;omega)
 iterate 2 · exact ⟨rfl,by simp⟩
 ·(have:=hI.2.1 s.jG (by simp [fQ]);have:=hI.1;have:=hI.2.2.2.1;have:=hI.2.2.2.2.1;simp only [List.length_cons,List.length_nil];omega)
 ·(obtain ⟨h0,h2,h3,h4,h5,h6,h7,h8⟩:=hI;simp only [decide_eq_true_eq] at c1;omega)
 ·(have em:=eq_of_beq c9;have hm:=gV s hI (by simpa using c1);omega)
 iterate 3 · (obtain ⟨h0,h2,h3,h4,h5,h6,h7,h8⟩:=hI;simp only [decide_eq_true_eq] at c1;omega)
 iterate 2 · exact ⟨rfl,by simp⟩
 ·(have:=hI.2.1 s.jF (by simp [fQ]);have:=hI.1;have:=hI.2.2.2.1;have:=hI.2.2.2.2.1;simp only [List.length_cons,List.length_nil];omega)
 ·(obtain ⟨h0,h2,h3,h4,h5,h6,h7,h8⟩:=hI;simp only [decide_eq_true_eq] at c1;omega)
 ·(have em:=eq_of_beq c10;have hm:=gV s hI (by simpa using c1);omega)
 iterate 3 · (obtain ⟨h0,h2,h3,h4,h5,h6,h7,h8⟩:=hI;simp only [decide_eq_true_eq] at c1;omega)
 iterate 2 · exact ⟨rfl,by simp⟩
 ·(have:=hI.2.1 s.jE (by simp [fQ]);have:=hI.1;have:=hI.2.2.2.1;have:=hI.2.2.2.2.1;simp only [List.length_cons,List.length_nil];omega)
 ·(obtain ⟨h0,h2,h3,h4,h5,h6,h7,h8⟩:=hI;simp only [decide_eq_true_eq] at c1;omega)
 ·(have em:=eq_of_beq c11;have hm:=gV s hI (by simpa using c1);omega)
 iterate 3 · (obtain ⟨h0,h2,h3,h4,h5,h6,h7,h8⟩:=hI;simp only [decide_eq_true_eq] at c1;omega)
 iterate 2 · exact ⟨rfl,by simp⟩
 ·(have:=hI.2.1 s.eP (by simp [fQ]);have:=hI.1;have:=hI.2.2.2.1;have:=hI.2.2.2.2.1;simp only [List.length_cons,List.length_nil];omega)
 ·(obtain ⟨h0,h2,h3,h4,h5,h6,h7,h8⟩:=hI;simp only [decide_eq_true_eq] at c1;omega)
 ·(have em:=eq_of_beq c12;have hm:=gV s hI (by simpa using c1);omega)
 iterate 3 · (obtain ⟨h0,h2,h3,h4,h5,h6,h7,h8⟩:=hI;simp only [decide_eq_true_eq] at c1;omega)
 iterate 2 · exact ⟨rfl,by simp⟩
 ·(have:=hI.2.1 s.eG (by simp [fQ]);have:=hI.1;have:=hI.2.2.2.1;have:=hI.2.2.2.2.1;simp only [List.length_cons,List.length_nil];omega)
 ·(obtain ⟨h0,h2,h3,h4,h5,h6,h7,h8⟩:=hI;simp only [decide_eq_true_eq] at c1;omega)
 ·(have em:=eq_of_beq c13;have hm:=gV s hI (by simpa using c1);omega)
 iterate 3 · (obtain ⟨h0,h2,h3,h4,h5,h6,h7,h8⟩:=hI;simp only [decide_eq_true_eq] at c1;omega)
 iterate 2 · exact ⟨rfl,by simp⟩
 ·(have:=hI.2.1 s.eu (by simp [fQ]);have:=hI.1;have:=hI.2.2.2.1;have:=hI.2.2.2.2.1;simp only [List.length_cons,List.length_nil];omega)
 ·(obtain ⟨h0,h2,h3,h4,h5,h6,h7,h8⟩:=hI;simp only [decide_eq_true_eq] at c1;omega)
 ·(have em:=eq_of_beq c14;have hm:=gV s hI (by simpa using c1);omega)
 iterate 3 · (obtain ⟨h0,h2,h3,h4,h5,h6,h7,h8⟩:=hI;simp only [decide_eq_true_eq] at c1;omega)
 iterate 2 · exact ⟨rfl,by simp⟩
 ·(have:=hI.2.1 s.dZ (by simp [fQ]);have:=hI.1;have:=hI.2.2.2.1;have:=hI.2.2.2.2.1;simp only [List.length_cons,List.length_nil];omega)
 ·(obtain ⟨h0,h2,h3,h4,h5,h6,h7,h8⟩:=hI;simp only [decide_eq_true_eq] at c1;omega)
 ·(have em:=eq_of_beq c15;have hm:=gV s hI (by simpa using c1);omega)
 iterate 3 · (obtain ⟨h0,h2,h3,h4,h5,h6,h7,h8⟩:=hI;simp only [decide_eq_true_eq] at c1;omega)
 iterate 2 · exact ⟨rfl,by simp⟩
 ·(have:=hI.2.1 s.dY (by simp [fQ]);have:=hI.1;have:=hI.2.2.2.1;have:=hI.2.2.2.2.1;simp only [List.length_cons,List.length_nil];omega)
 ·(obtain ⟨h0,h2,h3,h4,h5,h6,h7,h8⟩:=hI;simp only [decide_eq_true_eq] at c1;omega)
 ·(have em:=eq_of_beq c16;have hm:=gV s hI (by simpa using c1);omega)
 iterate 3 · (obtain ⟨h0,h2,h3,h4,h5,h6,h7,h8⟩:=hI;simp only [decide_eq_true_eq] at c1;omega)
 iterate 2 · exact ⟨rfl,by simp⟩
 ·(have:=hI.2.1 s.dX (by simp [fQ]);have:=hI.1;have:=hI.2.2.2.1;have:=hI.2.2.2.2.1;simp only [List.length_cons,List.length_nil];omega)
 ·(obtain ⟨h0,h2,h3,h4,h5,h6,h7,h8⟩:=hI;simp only [decide_eq_true_eq] at c1;omega)
 ·(have hm:=gV s hI (by simpa using c1);simp only [beq_eq_false_iff_ne,ne_eq] at c2 c3 c4 c5 c6 c7 c8 c9 c10 c11 c12 c13 c14 c15 c16;omega)
 iterate 3 · (obtain ⟨h0,h2,h3,h4,h5,h6,h7,h8⟩:=hI;simp only [decide_eq_true_eq] at c1;omega)
 iterate 2 · exact ⟨rfl,by simp⟩
theorem WR:Nw.Ok:=⟨fun s=>by kernel_rfl,fun s=>by kernel_rfl,fun s=>rfl,fun s t r=>rfl,fun s=>rfl,fun s=>by kernel_rfl⟩
theorem Wl:Nw.Pf (ajE):=⟨ayc,fun _ _=>rfl,ag3,asZ⟩
set_option maxRecDepth 100000 in
set_option maxHeartbeats 4000000 in
theorem alc:bG Tryz.prog aT (AN 1) (.loop Jg) Nw.lp:=dn.snd WR Wl (aZ (Γ:=yT) (K:=aaR) (L:=(mP Tryz.prog aT yT aaR 20 2)) AQ ahH Jg (fun b _=>cu AQ ahH 20 2 b)) (fun s=>by kernel_rfl)
theorem ag2 (s : iT) (hE:Va s):(fun s:iT=>(vW s.i (fQ s) (s.l.drop s.k.toNat),s.sums.set s.i.toNat (s.sums.getD s.i.toNat 0+smA s.alive (s.l.drop s.k.toNat)))) (bM s)=(fun s:iT=>(vW s.i (fQ s) (s.l.drop s.k.toNat),s.sums.set s.i.toNat (s.sums.getD s.i.toNat 0+smA s.alive (s.l.drop s.k.toNat)))) s:=by
 exact dn.vP WR Wl (fun s:iT=>(vW s.i (fQ s) (s.l.drop s.k.toNat),s.sums.set s.i.toNat (s.sums.getD s.i.toNat 0+smA s.alive (s.l.drop s.k.toNat)))) (fun s hI=>by
  show bY _ _ (abh s)
  unfold abh QU
  dsimp only [T.rd,T.rl]
  refine ai (fun c1=>?_) (fun c1=>?_)
  ·refine ai (fun c2=>?_) (fun c2=>?_)
   ·have em:gi s.l s.k=0:=by simpa using c2
    exact jk s _ 0 hI (by simpa using c1) em rfl rfl rfl rfl rfl rfl rfl
   ·refine ai (fun c3=>?_) (fun c3=>?_)
    ·have em:gi s.l s.k=1:=by simpa using c3
     exact jk s _ 1 hI (by simpa using c1) em rfl rfl rfl rfl rfl rfl rfl
    ·refine ai (fun c4=>?_) (fun c4=>?_)
     ·have em:gi s.l s.k=2:=by simpa using c4
      exact jk s _ 2 hI (by simpa using c1) em rfl rfl rfl rfl rfl rfl rfl
     ·refine ai (fun c5=>?_) (fun c5=>?_)
      ·have em:gi s.l s.k=3:=by simpa using c5
       exact jk s _ 3 hI (by simpa using c1) em rfl rfl rfl rfl rfl rfl rfl
      ·refine ai (fun c6=>?_) (fun c6=>?_)
       ·have em:gi s.l s.k=4:=by simpa using c6
        exact jk s _ 4 hI (by simpa using c1) em rfl rfl rfl rfl rfl rfl rfl
       ·refine ai (fun c7=>?_) (fun c7=>?_)
        ·have em:gi s.l s.k=5:=by simpa using c7
         exact jk s _ 5 hI (by simpa using c1) em rfl rfl rfl rfl rfl rfl rfl
        ·refine ai (fun c8=>?_) (fun c8=>?_)
         ·have em:gi s.l s.k=6:=by simpa using c8
          exact jk s _ 6 hI (by simpa using c1) em rfl rfl rfl rfl rfl rfl rfl
         ·refine ai (fun c9=>?_) (fun c9=>?_)
          ·have em:gi s.l s.k=7:=by simpa using c9
           exact jk s _ 7 hI (by simpa using c1) em rfl rfl rfl rfl rfl rfl rfl
          ·refine ai (fun c10=>?_) (fun c10=>?_)
           ·have em:gi s.l s.k=8:=by simpa using c10
            exact jk s _ 8 hI (by simpa using c1) em rfl rfl rfl rfl rfl rfl rfl
           ·refine ai (fun c11=>?_) (fun c11=>?_)
            ·have em:gi s.l s.k=9:=by simpa using c11
             exact jk s _ 9 hI (by simpa using c1) em rfl rfl rfl rfl rfl rfl rfl
            ·refine ai (fun c12=>?_) (fun c12=>?_)
             ·have em:gi s.l s.k=10:=by simpa using c12
              exact jk s _ 10 hI (by simpa using c1) em rfl rfl rfl rfl rfl rfl rfl
             ·refine ai (fun c13=>?_) (fun c13=>?_)
              ·have em:gi s.l s.k=11:=by simpa using c13
               exact jk s _ 11 hI (by simpa using c1) em rfl rfl rfl rfl rfl rfl rfl
              ·refine ai (fun c14=>?_) (fun c14=>?_)
               ·have em:gi s.l s.k=12:=by simpa using c14
                exact jk s _ 12 hI (by simpa using c1) em rfl rfl rfl rfl rfl rfl rfl
               ·refine ai (fun c15=>?_) (fun c15=>?_)
                ·have em:gi s.l s.k=13:=by simpa using c15
                 exact jk s _ 13 hI (by simpa using c1) em rfl rfl rfl rfl rfl rfl rfl
                ·refine ai (fun c16=>?_) (fun c16=>?_)
                 ·have em:gi s.l s.k=14:=by simpa using c16
                  exact jk s _ 14 hI (by simpa using c1) em rfl rfl rfl rfl rfl rfl rfl
                 ·have em:gi s.l s.k=15:=by
                   have hm:=gV s hI (by simpa using c1)
                   simp only [beq_eq_false_iff_ne,ne_eq] at c2 c3 c4 c5 c6 c7 c8 c9 c10 c11 c12 c13 c14 c15 c16
                   omega
                  exact jk s _ 15 hI (by simpa using c1) em rfl rfl rfl rfl rfl rfl rfl
  ·rfl) s hE
theorem amb (s:iT) (hE:Va s):fQ (bM s)=vW s.i (fQ s) s.l∧(bM s).sums=s.sums.set s.i.toNat (s.sums.getD s.i.toNat 0+smA s.alive s.l):=by
 have q3:=ag2 s hE
 obtain ⟨hI2,hf⟩:=dn.inv WR Wl (fun s=>by kernel_rfl) s hE
 have hI2:vT (bM s):=hI2
 have hq:=yG (ag3 _ hI2) hf
 have q2:(bM s).k=(bM s).n:=hq.2
 obtain ⟨h0,h1,h2,h3,h4,h5,h6,h7⟩:=hE
 obtain ⟨g0,g1,g2,g3,g4,g5,g6,g7⟩:=hI2
 have el:(bM s).l=s.l:=rfl
 have en:(bM s).n=s.n:=rfl
 have ei:(bM s).i=s.i:=rfl
 have ea:(bM s).alive=s.alive:=rfl
 simp only at q3
 rw [q2,en,el,ei,ea,List.drop_eq_nil_of_le (by omega),h0,show (0:Int).toNat=0 from rfl,List.drop_zero] at q3
 have e1:=congrArg Prod.fst q3
 have e2:=congrArg Prod.snd q3
 simp only at e1 e2
 refine ⟨e1,?_⟩
 rw [←e2]
 exact (afd (by rw [ei] at g7;omega)).symm
structure iH where
 alive:List Int
 rows:List Rw
 rn:Int
 ri:Int
 dh:List Cd
 fF:List ByteArray
 dF:List Ko
 dM:List Ch
 jd:List Ba
 y9:List Cd
 y7:List ByteArray
 y8:List Ko
 fJ:List Ch
 zf:List Ba
 bP:List Rw
 bg:List Int
 jO:List Int
 jM:List Int
 jL:List Int
 jK:List Int
 jJ:List Int
 jI:List Int
 jH:List Int
 jG:List Int
 jF:List Int
 jE:List Int
 eP:List Int
 eG:List Int
 eu:List Int
 dZ:List Int
 dY:List Int
 dX:List Int
 sums:List Int
 levels:List Int
def aAX (s:iH):List LV:=[.xl (.int .i64) s.alive,.own 1 0,.xl FI s.rows,.v (.int .i64 s.rn),.v (.int .i64 s.ri)]
def aAa (s:iH):List aS:=[⟨[.xl iJ s.dh,.xl .str s.fF,.xl iQ s.dF,.xl gU s.dM,.xl iR s.jd],28,.cl,false⟩,⟨[.xl iJ s.y9,.xl .str s.y7,.xl iQ s.y8,.xl gU s.fJ,.xl iR s.zf,.xl FI s.bP,.os 2 1 0 (List.length s.jO),.os 3 1 0 (List.length s.jM),.os 4 1 0 (List.length s.jL),.os 5 1 0 (List.length s.jK),.os 6 1 0 (List.length s.jJ),.os 7 1 0 (List.length s.jI),.os 8 1 0 (List.length s.jH),.os 9 1 0 (List.length s.jG),.os 10 1 0 (List.length s.jF),.os 11 1 0 (List.length s.jE),.os 12 1 0 (List.length s.eP),.os 13 1 0 (List.length s.eG),.os 14 1 0 (List.length s.eu),.os 15 1 0 (List.length s.dZ),.os 16 1 0 (List.length s.dY),.os 17 1 0 (List.length s.dX),.os 18 1 0 (List.length s.sums),.xl (.int .i64) s.bg,.os 19 1 0 (List.length s.levels)],148,.cl,false⟩,⟨[],3,.vec (.int .i64) s.jO,false⟩,⟨[],3,.vec (.int .i64) s.jM,false⟩,⟨[],3,.vec (.int .i64) s.jL,false⟩,⟨[],3,.vec (.int .i64) s.jK,false⟩,⟨[],3,.vec (.int .i64) s.jJ,false⟩,⟨[],3,.vec (.int .i64) s.jI,false⟩,⟨[],3,.vec (.int .i64) s.jH,false⟩,⟨[],3,.vec (.int .i64) s.jG,false⟩,⟨[],3,.vec (.int .i64) s.jF,false⟩,⟨[],3,.vec (.int .i64) s.jE,false⟩,⟨[],3,.vec (.int .i64) s.eP,false⟩,⟨[],3,.vec (.int .i64) s.eG,false⟩,⟨[],3,.vec (.int .i64) s.eu,false⟩,⟨[],3,.vec (.int .i64) s.dZ,false⟩,⟨[],3,.vec (.int .i64) s.dY,false⟩,⟨[],3,.vec (.int .i64) s.dX,false⟩,⟨[],3,.vec (.int .i64) s.sums,false⟩,⟨[],3,.vec (.int .i64) s.levels,false⟩]
noncomputable def Uk:Code:=((ay (Tryz.f95.body.getD .skip))[0]?).getD .skip
def bZ (s:iH):iT:=(⟨s.alive,s.ri,s.rows,s.rn,s.ri,(rY s.rows s.ri).2,(List.length (rY s.rows s.ri).2:Int),(0:Int),s.dh,s.fF,s.dF,s.dM,s.jd,s.y9,s.y7,s.y8,s.fJ,s.zf,s.bP,s.bg,s.jO,s.jM,s.jL,s.jK,s.jJ,s.jI,s.jH,s.jG,s.jF,s.jE,s.eP,s.eG,s.eu,s.dZ,s.dY,s.dX,s.sums,s.levels⟩:iT)
def QT (s:iH):T (Rd iH):=
 .br (decide (s.ri<s.rn)) (.req (0≤s.ri∧s.ri<(List.length s.rows:Int)) (.rl s.jO (.rl s.jM (.rl s.jL (.rl s.jK (.rl s.jJ (.rl s.jI (.rl s.jH (.rl s.jG (.rl s.jF (.rl s.jE (.rl s.eP (.rl s.eG (.rl s.eu (.rl s.dZ (.rl s.dY (.rl s.dX (.rl s.sums (.rl s.levels (.req (av8 (bZ s)) (.rl (bM (bZ s)).jO (.rl (bM (bZ s)).jM (.rl (bM (bZ s)).jL (.rl (bM (bZ s)).jK (.rl (bM (bZ s)).jJ (.rl (bM (bZ s)).jI (.rl (bM (bZ s)).jH (.rl (bM (bZ s)).jG (.rl (bM (bZ s)).jF (.rl (bM (bZ s)).jE (.rl (bM (bZ s)).eP (.rl (bM (bZ s)).eG (.rl (bM (bZ s)).eu (.rl (bM (bZ s)).dZ (.rl (bM (bZ s)).dY (.rl (bM (bZ s)).dX (.rl (bM (bZ s)).sums (.rl s.levels (.ok (.next {s with ri:=(IntKind.i64.wrap (s.ri+1)),jO:=(bM (bZ s)).jO,jM:=(bM (bZ s)).jM,jL:=(bM (bZ s)).jL,jK:=(bM (bZ s)).jK,jJ:=(bM (bZ s)).jJ,jI:=(bM (bZ s)).jI,jH:=(bM (bZ s)).jH,jG:=(bM (bZ s)).jG,jF:=(bM (bZ s)).jF,jE:=(bM (bZ s)).jE,eP:=(bM (bZ s)).eP,eG:=(bM (bZ s)).eG,eu:=(bM (bZ s)).eu,dZ:=(bM (bZ s)).dZ,dY:=(bM (bZ s)).dY,dX:=(bM (bZ s)).dX,sums:=(bM (bZ s)).sums})))))))))))))))))))))))))))))))))))))))) (.rl s.jO (.rl s.jM (.rl s.jL (.rl s.jK (.rl s.jJ (.rl s.jI (.rl s.jH (.rl s.jG (.rl s.jF (.rl s.jE (.rl s.eP (.rl s.eG (.rl s.eu (.rl s.dZ (.rl s.dY (.rl s.dX (.rl s.sums (.rl s.levels (.ok (.stop (.exit 0) s))))))))))))))))))))
abbrev abg (s:iH):=(QT s).rd s
def lJ (s:iH):List (List Int):=[s.jO,s.jM,s.jL,s.jK,s.jJ,s.jI,s.jH,s.jG,s.jF,s.jE,s.eP,s.eG,s.eu,s.dZ,s.dY,s.dX]
def Nu (s:iH):Prop:=s.ri=0∧(∀o∈lJ s,o=[])∧s.sums=List.replicate s.rows.length 0∧s.rn=(s.rows.length:Int)∧s.rn≤1000∧(∀r∈s.rows,(r.2.length:Int)≤1000∧∀m∈r.2,0≤m∧m<16∧m<(s.alive.length:Int))∧(∀a∈s.alive,0≤a∧a≤80)∧s.sums.length=s.rows.length
def vS (s:iH):Prop:=(0≤s.ri∧s.ri≤s.rn)∧(∀o∈lJ s,(o.length:Int)≤1000*s.ri)∧(∀k:Nat,s.ri≤(k:Int)→s.sums.getD k 0=0)∧s.rn=(s.rows.length:Int)∧s.rn≤1000∧(∀r∈s.rows,(r.2.length:Int)≤1000∧∀m∈r.2,0≤m∧m<16∧m<(s.alive.length:Int))∧(∀a∈s.alive,0≤a∧a≤80)∧s.sums.length=s.rows.length
def wV (s:iH):Nat:=(s.rn-s.ri).toNat
end Go.Proofs.YtlihnbimgclogaaGreatDoor
