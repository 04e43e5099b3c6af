/- ControlWishes returns true for all arguments: who does not want gets nothing, and if the greatest levels of all that want are permitted, the targets are these. Conditions: none; the table ramp.happens holds what its text says. -/
import Derived.Test.YtlihnbimgclogaaGreatDoorQe4
namespace Go.Proofs.YtlihnbimgclogaaGreatDoor
open Go.Sx
theorem VB:Valid Tryz.prog aS 52 y5:=aH Tryz.func52 rfl aiG aAG (L:=(fun i=>if i=11 then JS.lp else if i=21 then Ew.lp else aC i)) (fun b hb=>by
 rw [show aB _=[Jb,Az] by kernel_rfl] at hb
 simp only [List.mem_cons,List.not_mem_nil,or_false] at hb
 rcases hb with rfl|rfl
 ·exact alU
 ·exact alT) (fun args lv h=>by
 unfold acf at h
 split at h
 ·simp only [canL,canX]
  rw [anU]
  rename_i cs os ks gs bs al mo od
  obtain rfl:=h
  have err:rU cs os ks gs bs al mo od=false→LV.iD [.xl (.int .i64) ([]:List Int),.v (.int .i64 1)]=LV.iD [.xl (.int .i64) (xR cs os ks gs bs al mo od),.v (.int .i64 (shE cs os ks gs bs al mo od))]:=fun h=>by
   unfold xR shE
   rw [h]
   rfl
  have no_:∀ {p:Prop},¬p→(rU cs os ks gs bs al mo od=true→p)→rU cs os ks gs bs al mo od=false:=fun h1 h2=>by
   rw [Bool.eq_false_iff];exact fun h=>h1 (h2 h)
  refine ⟨fun c=>err (no_ (p:=fM cs os ks gs bs=true) (fun h=>?_) (fun h=>(iO.1 h).1)),fun c=>?_⟩
  ·unfold FH at c
   rw [h] at c
   simp at c
  have hv:fM cs os ks gs bs=true:=by
   cases e:fM cs os ks gs bs with
   |true=>rfl
   |false=>unfold FH at c;rw [e] at c;simp at c
  have hl:=(fP.1 hv).1
  refine ⟨fun c2=>err (no_ (p:=al.length=gs.length) (by simp at c2;omega) (fun h=>(iO.1 h).2.1)),fun c2=>?_⟩
  refine ⟨fun c3=>err (no_ (p:=mo.length=gs.length) (by simp at c3;omega) (fun h=>(iO.1 h).2.2.1)),fun c3=>?_⟩
  have c2:al.length=gs.length:=by simp at c2;omega
  have c3:mo.length=gs.length:=by simp at c3;omega
  refine mQ ⟨⟨rfl,by simp only;omega,by simp only;omega,rfl⟩,rfl,rfl⟩ (fun hE1=>?_)
  rcases abN _ hE1.1 with ⟨q1,q2⟩ |⟨q1,q2,q3⟩
  rotate_left
  ·rw [q1,q2]
   refine ⟨fun _=>⟨fun _=>err (no_ (p:=al.all uI=true) (by have q3:al.all uI=false:=q3;rw [q3];simp) (fun h=>(iO.1 h).2.2.2.1)),fun h=>by cases h⟩,fun h=>by cases h⟩
  rw [q1]
  refine ⟨fun h=>(by cases h),fun _=>⟨fun h=>(by cases h),fun _=>?_⟩⟩
  have q2:al.all uI=true:=q2
  refine mQ ⟨⟨rfl,by simp only;omega,by simp only;omega,rfl⟩,rfl,rfl⟩ (fun hE2=>?_)
  rcases abN _ hE2.1 with ⟨p1,p2⟩ |⟨p1,p2,p3⟩
  rotate_left
  ·rw [p1,p2]
   refine ⟨fun _=>⟨fun _=>err (no_ (p:=mo.all uI=true) (by have p3:mo.all uI=false:=p3;rw [p3];simp) (fun h=>(iO.1 h).2.2.2.2.1)),fun h=>by cases h⟩,fun h=>by cases h⟩
  rw [p1]
  refine ⟨fun h=>(by cases h),fun _=>⟨fun h=>(by cases h),fun _=>?_⟩⟩
  have p2:mo.all uI=true:=p2
  refine ⟨by omega,fun c4=>err (no_ (p:=mG od (gs.length:Int)=true) (by simp at c4;rw [c4];simp) (fun h=>(iO.1 h).2.2.2.2.2)),fun c4=>?_⟩
  have c4:mG od (gs.length:Int)=true:=by simpa using c4
  have hok:rU cs os ks gs bs al mo od=true:=iO.2 ⟨hv,c2,c3,q2,p2,c4⟩
  obtain ⟨hT,hS⟩:=az9 hok
  have er:gQ cs os ks gs bs=jB cs gs cs.length:=by unfold gQ;rw [if_pos hv]
  have hrl:=vK (cs:=cs) (gs:=gs) (k:=cs.length)
  have hod:od.length=gs.length:=by
   unfold mG at c4
   simp only [Bool.and_eq_true,decide_eq_true_eq] at c4
   omega
  have hrn:(List.length (gQ cs os ks gs bs):Int)≤1000:=by rw [er];omega
  refine ⟨by omega,by omega,⟨rfl,rfl⟩,⟨rfl,rfl⟩,⟨rfl,rfl⟩,⟨rfl,rfl⟩,⟨rfl,rfl⟩,⟨rfl,rfl⟩,⟨rfl,rfl⟩,⟨rfl,rfl⟩,⟨rfl,rfl⟩,⟨rfl,rfl⟩,⟨rfl,rfl⟩,⟨rfl,rfl⟩,⟨rfl,rfl⟩,⟨rfl,rfl⟩,⟨rfl,rfl⟩,⟨rfl,rfl⟩,⟨rfl,by simp⟩,⟨rfl,by simp⟩,?_⟩
  have hN:NI (ay cs os ks gs bs al mo od):=by
   refine ⟨rfl,fun o ho=>?_,rfl,rfl,hrn,fun r hr=>?_,hT.al,by show List.length (List.replicate _ _)=List.length (gQ cs os ks gs bs);simp⟩
   ·simpa [kK,ay] using ho
   ·have hr:r∈jB cs gs cs.length:=by rw [←er];exact hr
    obtain ⟨m1,m2,m3,m4⟩:=row_mem hr
    refine ⟨by omega,fun m hm=>?_⟩
    have:=m2 m hm
    show 0≤m∧m<16∧m<(al.length:Int)
    omega
  obtain ⟨nr1,nr2⟩:=anv _ hN
  have nr1:kK (ax (ay cs os ks gs bs al mo od))=OL (jB cs gs cs.length):=by rw [nr1,←er];rfl
  have nr2:(ax (ay cs os ks gs bs al mo od)).sums=SM al (jB cs gs cs.length):=by rw [nr2,←er];rfl
  refine ⟨⟨hN,rfl,rfl⟩,by omega,by omega,by omega,by omega,by omega,by omega,by omega,by omega,by omega,by omega,by omega,by omega,by omega,by omega,by omega,by omega,⟨rfl,rfl⟩,⟨rfl,rfl⟩,?_⟩
  have eO:tC (eY cs os ks gs bs al mo od)=kK (ax (ay cs os ks gs bs al mo od)):=by
   unfold tC kK eY
   simp only [List.drop_zero,List.take_length]
  have hSh:adm (eY cs os ks gs bs al mo od):=by
   refine ⟨rfl,by show (od.length:Int)≤1000;omega,rfl,?_,?_⟩
   ·show OkT (tC (eY cs os ks gs bs al mo od)) (gQ cs os ks gs bs) gs al mo od
    rw [eO,nr1,er]
    exact hT
   ·show OkS (gQ cs os ks gs bs) od (ax (ay cs os ks gs bs al mo od)).sums _
    rw [nr2,er]
    exact hS
  have sr:=amO _ hSh
  have sr:(iJ (eY cs os ks gs bs al mo od)).levels=shV (jB cs gs cs.length) gs al mo od:=by
   rw [sr]
   show shl (tC (eY cs os ks gs bs al mo od)) (gQ cs os ks gs bs) gs al mo od 81 1 (ax (ay cs os ks gs bs al mo od)).sums _=_
   rw [eO,nr1,nr2,er]
   rfl
  obtain ⟨sl,sb⟩:=afe hT 81 1 _ _ (by omega) (by omega) hS
  refine ⟨⟨hSh,rfl,rfl⟩,by omega,⟨rfl,by simp⟩,⟨rfl,rfl⟩,⟨rfl,rfl⟩,?_⟩
  have hX:adl (fK cs os ks gs bs al mo od):=by
   refine ⟨rfl,rfl,⟨rfl,by show (gs.length:Int)≤1000;omega,?_⟩,fun k h0 h1=>?_,?_⟩
   ·show (iJ (eY cs os ks gs bs al mo od)).levels.length=gs.length
    rw [sr]
    exact sl.trans (by rw [List.length_replicate];exact c2)
   ·have:=sK hv h0 h1
    unfold Gi chW at this
    simp only [Bool.and_eq_true,eU] at this
    show kC (aW gs k).2.2.2.1 (aW gs k).2.2.2.2.1 (aW gs k).2.2.2.2.2.1=true
    exact dV.2 (by omega)
   ·show ∀k:Nat,0≤(iJ (eY cs os ks gs bs al mo od)).levels.getD k 0∧(iJ (eY cs os ks gs bs al mo od)).levels.getD k 0≤80
    rw [sr]
    exact sb
  refine ⟨⟨hX,rfl,rfl⟩,by omega,?_⟩
  obtain ⟨s',_,_,x2⟩:=amN _ hX
  have x2:(gY (fK cs os ks gs bs al mo od)).out=kZ gs (iJ (eY cs os ks gs bs al mo od)).levels:=x2
  show LV.iD [LV.xl _ _,_]=_
  rw [List.drop_zero,List.take_length,x2,sr]
  unfold xR shE
  rw [if_pos hok,if_pos hok]
 ·cases h)
end Go.Proofs.YtlihnbimgclogaaGreatDoor
namespace Go.Proofs.YtlihnbimgclogaaGreatDoor
open Go.Sx
structure nN where
 m:List Ch
 k:Int
 i:Int
 out:List Int
def aDN (s:nN):List LV:=[.os 0 1 0 (List.length s.out),.xl dM s.m,.v (.int .i64 s.k),.v (.int .i64 s.i)]
def aCM (s:nN):List aU:=[⟨[],3,.vec (.int .i64) s.out,false⟩]
noncomputable def BO:Code:=((aB (Tryz.f72.body.getD .skip))[0]?).getD .skip
def ZB (s:nN):T (Rd nN):=
 .br (decide (s.i<s.k)) (.req (0≤s.i∧s.i<(List.length s.m:Int)) (.req (0≤s.i∧s.i<((List.length s.out:Nat):Int)) (.req (s.i.toNat<List.length s.out) (.req (0=0∧(List.length s.out)=List.length (s.out.set s.i.toNat (aW s.m s.i).2.2.2.2.2.2.1)) (.ok (.next {s with i:=(IntKind.i64.wrap (s.i+1)),out:=(s.out.set s.i.toNat (aW s.m s.i).2.2.2.2.2.2.1)})))))) (.rl s.out (.ok (.stop (.exit 0) s)))
abbrev asq (s:nN):=(ZB s).rd s
def adG (s:nN):Prop:=s.i=0∧s.k=(List.length s.m:Int)∧s.k≤1000∧s.out.length=s.m.length∧(∀j,0≤j→j<s.k→gi s.out j=0)∧True
def NC (s:nN):Prop:=(0≤s.i∧s.i≤s.k)∧s.k=(List.length s.m:Int)∧s.k≤1000∧s.out.length=s.m.length∧(∀j,0≤j→j<s.k→gi s.out j=if j<s.i then Af (aW s.m j) else 0)∧True
def PE (s:nN):Nat:=(s.k-s.i).toNat
def akK (x:Ex) (_ s':nN):Prop:=x=.exit 0∧s'.out=qc s'.m.length (fun j=>Af (aW s'.m j))
theorem aBv:∀s,adG s→NC s:=by
 intro s h
 obtain ⟨h0,h2,h3,h4,h5,h6⟩:=h
 exact ⟨by omega,h2,h3,h4,fun j j0 j1=>by rw [h5 j j0 j1,if_neg (by omega)],h6⟩
theorem axk (s:nN) (hI:NC s):bJ (fun s'=>NC s'∧PE s'<PE s) (fun x s'=>akK x s s') (asq s):=by
 unfold asq ZB
 dsimp only [T.rd,T.rl]
 obtain ⟨⟨h0,h1⟩,h2,h3,h4,h5,h6⟩:=hI
 refine au (fun c1=>?_) (fun c1=>?_)
 ·have c1:s.i<s.k:=by simpa using c1
  rw [aK (x:=s.i+1) (by omega) (by omega)]
  refine ⟨⟨⟨by simp only;omega,by simp only;omega⟩,h2,h3,by simp only [List.length_set];exact h4,fun j j0 j1=>?_,h6⟩,by simp only [PE];omega⟩
  simp only
  have hi:=h5 s.i h0 c1
  rw [if_neg (show ¬s.i<s.i by omega)] at hi
  rw [mJ h0 (by rw [h4];omega) j0]
  by_cases e:j=s.i
  ·subst e
   rw [if_pos rfl,if_pos (show s.i<s.i+1 by omega)]
   rfl
  ·rw [if_neg e,h5 j j0 j1]
   by_cases q:j<s.i
   ·rw [if_pos q,if_pos (show j<s.i+1 by omega)]
   ·rw [if_neg q,if_neg (show ¬j<s.i+1 by omega)]
 ·have c1:s.k≤s.i:=by simpa using c1
  refine ⟨rfl,?_⟩
  refine yN (by rw [dN];exact h4) fun j j0 j1=>?_
  rw [dN] at j1
  rw [kT j0 j1,h5 j j0 (by omega),if_pos (show j<s.i by omega)]
def Fv:bK nN:=⟨0,31,[3,17,18,19],[],aDN,aCM,fun v b=>⟨aQ dM (v.getD 1 .junk),gI (v.getD 2 .junk),gI (v.getD 3 .junk),iT (.int .i64) (aO b 0)⟩,ZB,fun s r=> {r with m:=s.m,k:=s.k},fun s=>s,fun _ s=>s,[.exit 0],adG,NC,PE⟩
abbrev wY:=Fv.run
abbrev apG:=Fv.jG
abbrev ayC:=Fv.q
theorem avi (s:nN) (hI:NC s):(ZB s).all (fun _=>True):=by
 refine ⟨fun c1=>⟨?_,?_,?_,?_,trivial⟩,fun c1=>⟨⟨rfl,rfl⟩,trivial⟩⟩
 all_goals ((obtain ⟨⟨h0,h1⟩,h2,h3,h4,h5,h6⟩:=hI;(try simp only [decide_eq_true_eq] at c1);first|omega|exact ⟨rfl,by simp⟩ |(omega)))
noncomputable def aiR:Specs:=bf []
theorem arj:∀g S,aiR g=some S→Valid Tryz.prog aS g S:=aT (l:=[]) trivial
theorem ahu:Fv.Ok:=⟨fun s=>by kernel_rfl,fun s=>by kernel_rfl,fun s=>rfl,fun s t r=>rfl,fun s=>rfl,fun s=>by kernel_rfl⟩
theorem agr:Fv.Pf (akK):=⟨aBv,fun _ _=>rfl,axk,avi⟩
theorem amH:bn Tryz.prog aS (AN 0) (.loop BO) Fv.lp:=bK.snd ahu agr (aP (Γ:=aiR) (K:=dY) (L:=aC) arj aF BO (fun b hb=>by rw [show aB BO=[] by kernel_rfl] at hb;cases hb)) (fun s=>by kernel_rfl)
theorem apX (s:nN) (hE:adG s):∃s',NC s'∧akK (apG s) s' (wY s):=bK.fin ahu agr s hE
def ac1:List LV→T LV
 | [.xq 9 q0]=>(match ([q0 0,q0 1,q0 2,q0 3,q0 4,q0 5,q0 6,q0 7,q0 8]:List LV) with
  | [.xl (.pair .str (.pair (.int .i64) (.pair (.int .i64) (.pair (.int .i64) (.pair (.pair (.int .i64) (.int .i64)) (.pair (.int .i64) (.pair (.int .i64) (.pair (.int .i64) (.pair (.int .i64) (.int .i64)))))))))) _,.xl (.str) _,.xl (.pair .str (.pair (.int .i64) (.pair (.int .i64) (.int .i64)))) _,.xl (.pair .str (.pair (.int .i64) (.pair (.int .i64) (.pair (.int .i64) (.pair (.int .i64) (.pair (.int .i64) (.pair (.int .i64) (.int .i64)))))))) gs,.xl (.pair .str (.int .i64)) _,.xl (.pair (.int .i64) (.pair (.int .i64) (.pair (.int .i64) (.pair (.int .i64) (.int .i64))))) _,.xl (.pair .bool (.pair (.int .i64) (.pair (.int .i64) (.int .i64)))) _,.v (.int .i64 _),.xl (.int .i64) _]=> .req ((List.length gs:Int)≤1000) (.ok (.xl (.int .i64) (jC gs)))
  |_=> .no)
 |_=> .no
noncomputable def YA:List LV→T LV:=gJ Tryz.prog Tryz.f72.params.toList ac1
theorem aoB (cs:List Cd) (os:List ByteArray) (ks:List Ko) (gs:List Ch) (bs:List Ba) (l:List Le) (d:List Dm) (t:Int) (od:List Int):bT Tryz.prog aS (aiR) dY (fun i=>if i=3 then Fv.lp else aC i) Tryz.f72 [.xq 9 (fun j=>([.xl dU cs,.xl .str os,.xl dW ks,.xl dM gs,.xl dX bs,.xl nC l,.xl pU d,.v (.int .i64 t),.xl (.int .i64) od]:List LV).getD j .junk)]=.req (0≤(List.length gs:Int)∧(List.length gs:Int)≤(List.length gs:Int)∧8*(List.length gs:Int)≤2^48∧(List.length gs:Int)<2^63) (.req (0=0∧(List.length gs:Int).toNat=List.length (List.replicate (List.length gs:Int).toNat (0:Int))) (.req (ayC (⟨gs,(List.length gs:Int),(0:Int),(List.replicate (List.length gs:Int).toNat (0:Int))⟩:nN)) (.req (0+(List.length (wY (⟨gs,(List.length gs:Int),(0:Int),(List.replicate (List.length gs:Int).toNat (0:Int))⟩:nN)).out)≤List.length (wY (⟨gs,(List.length gs:Int),(0:Int),(List.replicate (List.length gs:Int).toNat (0:Int))⟩:nN)).out) (.ok (.xl (.int .i64) (((wY (⟨gs,(List.length gs:Int),(0:Int),(List.replicate (List.length gs:Int).toNat (0:Int))⟩:nN)).out.drop 0).take (List.length (wY (⟨gs,(List.length gs:Int),(0:Int),(List.replicate (List.length gs:Int).toNat (0:Int))⟩:nN)).out))))))):=by kernel_rfl
theorem atG:Valid Tryz.prog aS 72 YA:=aH Tryz.func72 rfl arj aF (L:=(fun i=>if i=3 then Fv.lp else aC i)) (fun b hb=>by
 rw [show aB _=[BO] by kernel_rfl] at hb
 simp only [List.mem_cons,List.not_mem_nil,or_false] at hb
 subst hb
 exact amH) (fun args lv h=>by
 unfold ac1 at h
 split at h
 ·split at h
  case h_2=>cases h
  rename_i heq0
  simp only [canL,canX]
  rw [o9 (n:=9) heq0]
  simp only [canL,canX]
  rw [aoB]
  rename_i cs os ks gs bs l d t od
  obtain ⟨hn,rfl⟩:=h
  have hE:adG ⟨gs,(List.length gs:Int),0,List.replicate (List.length gs:Int).toNat 0⟩:=⟨rfl,rfl,hn,by simp,fun j _ _=>rZ,trivial⟩
  obtain ⟨_,_,q1,q2⟩:=apX _ hE
  have q2:(wY ⟨gs,(List.length gs:Int),0,List.replicate (List.length gs:Int).toNat 0⟩).out=jC gs:=q2
  refine ⟨by omega,⟨rfl,by simp⟩,⟨hE,rfl,rfl⟩,by omega,?_⟩
  show LV.xl _ _=_
  rw [List.drop_zero,List.take_length,q2]
 ·cases h)
structure lM where
 cs:List Cd
 os:List ByteArray
 ks:List Ko
 gs:List Ch
 bs:List Ba
 l:List Le
 d:List Dm
 t:Int
 od:List Int
 m:List Ch
 k:Int
 i:Int
 wanted:List Int
def aDI (s:lM):List LV:=[.xq 9 (fun j=>([.xl dU s.cs,.xl .str s.os,.xl dW s.ks,.xl dM s.gs,.xl dX s.bs,.xl nC s.l,.xl pU s.d,.v (.int .i64 s.t),.xl (.int .i64) s.od]:List LV).getD j .junk),.os 0 1 0 (List.length s.wanted),.xl dM s.m,.v (.int .i64 s.k),.v (.int .i64 s.i)]
def aCH (s:lM):List aU:=[⟨[],3,.vec (.int .i64) s.wanted,false⟩]
noncomputable def BL:Code:=((aB (Tryz.f71.body.getD .skip))[0]?).getD .skip
def Zx (s:lM):T (Rd lM):=
 .br (decide (s.i<s.k)) (.req (0≤s.i∧s.i<(List.length s.m:Int)) (.req (0≤s.i∧s.i<(List.length s.d:Int)) (.br (lV s.d s.i).1 (.req (0≤s.i∧s.i<((List.length s.wanted:Nat):Int)) (.req (s.i.toNat<List.length s.wanted) (.req (0=0∧(List.length s.wanted)=List.length (s.wanted.set s.i.toNat (aW s.m s.i).2.2.2.2.1)) (.ok (.next {s with i:=(IntKind.i64.wrap (s.i+1)),wanted:=(s.wanted.set s.i.toNat (aW s.m s.i).2.2.2.2.1)}))))) (.rl s.wanted (.ok (.next {s with i:=(IntKind.i64.wrap (s.i+1))})))))) (.rl s.wanted (.ok (.stop (.exit 0) s)))
abbrev asl (s:lM):=(Zx s).rd s
def adC (s:lM):Prop:=s.i=0∧s.k=(List.length s.m:Int)∧s.k≤1000∧s.wanted.length=s.m.length∧(∀j,0≤j→j<s.k→gi s.wanted j=0)∧s.d.length=s.m.length
def Nw (s:lM):Prop:=(0≤s.i∧s.i≤s.k)∧s.k=(List.length s.m:Int)∧s.k≤1000∧s.wanted.length=s.m.length∧(∀j,0≤j→j<s.k→gi s.wanted j=if j<s.i then if (lV s.d j).1=true then (aW s.m j).2.2.2.2.1 else 0 else 0)∧s.d.length=s.m.length
def Ia (s:lM):Nat:=(s.k-s.i).toNat
def akH (x:Ex) (_ s':lM):Prop:=x=.exit 0∧s'.wanted=qc s'.m.length (fun j=>if (lV s'.d j).1=true then (aW s'.m j).2.2.2.2.1 else 0)
theorem aBo:∀s,adC s→Nw s:=by
 intro s h
 obtain ⟨h0,h2,h3,h4,h5,h6⟩:=h
 exact ⟨by omega,h2,h3,h4,fun j j0 j1=>by rw [h5 j j0 j1,if_neg (by omega)],h6⟩
theorem aw8 (s:lM) (hI:Nw s):bJ (fun s'=>Nw s'∧Ia s'<Ia s) (fun x s'=>akH x s s') (asl s):=by
 unfold asl Zx
 dsimp only [T.rd,T.rl]
 obtain ⟨⟨h0,h1⟩,h2,h3,h4,h5,h6⟩:=hI
 refine au (fun c1=>?_) (fun c1=>?_)
 ·refine au (fun c2=>?_) (fun c2=>?_)
  ·have c1:s.i<s.k:=by simpa using c1
   rw [aK (x:=s.i+1) (by omega) (by omega)]
   refine ⟨⟨⟨by simp only;omega,by simp only;omega⟩,h2,h3,by simp only [List.length_set];exact h4,fun j j0 j1=>?_,h6⟩,by simp only [Ia];omega⟩
   simp only
   have hi:=h5 s.i h0 c1
   rw [if_neg (show ¬s.i<s.i by omega)] at hi
   rw [mJ h0 (by rw [h4];omega) j0]
   by_cases e:j=s.i
   ·subst e
    rw [if_pos rfl,if_pos (show s.i<s.i+1 by omega)]
    first|(rw [if_pos (by simpa using c2)]) |(rw [if_neg (by simpa using c2)])
   ·rw [if_neg e,h5 j j0 j1]
    by_cases q:j<s.i
    ·rw [if_pos q,if_pos (show j<s.i+1 by omega)]
    ·rw [if_neg q,if_neg (show ¬j<s.i+1 by omega)]
  ·have c1:s.i<s.k:=by simpa using c1
   rw [aK (x:=s.i+1) (by omega) (by omega)]
   refine ⟨⟨⟨by simp only;omega,by simp only;omega⟩,h2,h3,h4,fun j j0 j1=>?_,h6⟩,by simp only [Ia];omega⟩
   simp only
   have hi:=h5 s.i h0 c1
   rw [if_neg (show ¬s.i<s.i by omega)] at hi
   rw [h5 j j0 j1]
   by_cases e:j=s.i
   ·subst e
    rw [if_neg (show ¬s.i<s.i by omega),if_pos (show s.i<s.i+1 by omega)]
    first|(rw [if_pos (by simpa using c2)]) |(rw [if_neg (by simpa using c2)])
   ·by_cases q:j<s.i
    ·rw [if_pos q,if_pos (show j<s.i+1 by omega)]
    ·rw [if_neg q,if_neg (show ¬j<s.i+1 by omega)]
 ·have c1:s.k≤s.i:=by simpa using c1
  refine ⟨rfl,?_⟩
  refine yN (by rw [dN];exact h4) fun j j0 j1=>?_
  rw [dN] at j1
  rw [kT j0 j1,h5 j j0 (by omega),if_pos (show j<s.i by omega)]
def Fj:bK lM:=⟨0,53,[0,4,18,19,20],[],aDI,aCH,fun v b=>⟨aQ dU (nD (v.getD 0 .junk) 0),aQ .str (nD (v.getD 0 .junk) 1),aQ dW (nD (v.getD 0 .junk) 2),aQ dM (nD (v.getD 0 .junk) 3),aQ dX (nD (v.getD 0 .junk) 4),aQ nC (nD (v.getD 0 .junk) 5),aQ pU (nD (v.getD 0 .junk) 6),gI (nD (v.getD 0 .junk) 7),aQ (.int .i64) (nD (v.getD 0 .junk) 8),aQ dM (v.getD 2 .junk),gI (v.getD 3 .junk),gI (v.getD 4 .junk),iT (.int .i64) (aO b 0)⟩,Zx,fun s r=> {r with cs:=s.cs,os:=s.os,ks:=s.ks,gs:=s.gs,bs:=s.bs,l:=s.l,d:=s.d,t:=s.t,od:=s.od,m:=s.m,k:=s.k},fun s=>s,fun _ s=>s,[.exit 0],adC,Nw,Ia⟩
abbrev qX:=Fj.run
abbrev apD:=Fj.jG
abbrev ayx:=Fj.q
theorem avd (s:lM) (hI:Nw s):(Zx s).all (fun _=>True):=by
 refine ⟨fun c1=>⟨?_,?_,fun c2=>⟨?_,?_,?_,trivial⟩,fun c2=>⟨⟨rfl,rfl⟩,trivial⟩⟩,fun c1=>⟨⟨rfl,rfl⟩,trivial⟩⟩
 all_goals ((obtain ⟨⟨h0,h1⟩,h2,h3,h4,h5,h6⟩:=hI;(try simp only [decide_eq_true_eq] at c1);first|omega|exact ⟨rfl,by simp⟩ |(omega)))
noncomputable def aiQ:Specs:=bf [(52,y5),(72,YA)]
theorem ari:∀g S,aiQ g=some S→Valid Tryz.prog aS g S:=aT (l:=[(52,y5),(72,YA)]) ⟨VB,atG,trivial⟩
theorem ahq:Fj.Ok:=⟨fun s=>by kernel_rfl,fun s=>by kernel_rfl,fun s=>rfl,fun s t r=>rfl,fun s=>rfl,fun s=>by kernel_rfl⟩
theorem agm:Fj.Pf (akH):=⟨aBo,fun _ _=>rfl,aw8,avd⟩
theorem amz:bn Tryz.prog aS (AN 0) (.loop BL) Fj.lp:=bK.snd ahq agm (aP (Γ:=aiQ) (K:=dY) (L:=aC) ari aF BL (fun b hb=>by rw [show aB BL=[] by kernel_rfl] at hb;cases hb)) (fun s=>by kernel_rfl)
theorem apQ (s:lM) (hE:adC s):∃s',Nw s'∧akH (apD s) s' (qX s):=bK.fin ahq agm s hE
def acX:List LV→T LV
 | [.xq 9 q0]=>(match ([q0 0,q0 1,q0 2,q0 3,q0 4,q0 5,q0 6,q0 7,q0 8]:List LV) with
  | [.xl (.pair .str (.pair (.int .i64) (.pair (.int .i64) (.pair (.int .i64) (.pair (.pair (.int .i64) (.int .i64)) (.pair (.int .i64) (.pair (.int .i64) (.pair (.int .i64) (.pair (.int .i64) (.int .i64)))))))))) cs,.xl (.str) os,.xl (.pair .str (.pair (.int .i64) (.pair (.int .i64) (.int .i64)))) ks,.xl (.pair .str (.pair (.int .i64) (.pair (.int .i64) (.pair (.int .i64) (.pair (.int .i64) (.pair (.int .i64) (.pair (.int .i64) (.int .i64)))))))) gs,.xl (.pair .str (.int .i64)) bs,.xl (.pair (.int .i64) (.pair (.int .i64) (.pair (.int .i64) (.pair (.int .i64) (.int .i64))))) _,.xl (.pair .bool (.pair (.int .i64) (.pair (.int .i64) (.int .i64)))) d,.v (.int .i64 _),.xl (.int .i64) od]=> .req ((List.length gs:Int)≤1000∧d.length=gs.length) (.ok (.iD [.xl (.int .i64) (xR cs os ks gs bs (jC gs) (lS gs d) od),.v (.int .i64 (shE cs os ks gs bs (jC gs) (lS gs d) od))]))
  |_=> .no)
 |_=> .no
noncomputable def Yx:List LV→T LV:=gJ Tryz.prog Tryz.f71.params.toList acX
theorem aox (cs:List Cd) (os:List ByteArray) (ks:List Ko) (gs:List Ch) (bs:List Ba) (l:List Le) (d:List Dm) (t:Int) (od:List Int):bT Tryz.prog aS (aiQ) dY (fun i=>if i=3 then Fj.lp else aC i) Tryz.f71 [.xq 9 (fun j=>([.xl dU cs,.xl .str os,.xl dW ks,.xl dM gs,.xl dX bs,.xl nC l,.xl pU d,.v (.int .i64 t),.xl (.int .i64) od]:List LV).getD j .junk)]=.req (0≤(List.length gs:Int)∧(List.length gs:Int)≤(List.length gs:Int)∧8*(List.length gs:Int)≤2^48∧(List.length gs:Int)<2^63) (.req (0=0∧(List.length gs:Int).toNat=List.length (List.replicate (List.length gs:Int).toNat (0:Int))) (.req (ayx (⟨cs,os,ks,gs,bs,l,d,t,od,gs,(List.length gs:Int),(0:Int),(List.replicate (List.length gs:Int).toNat (0:Int))⟩:lM)) (.req ((List.length gs:Int)≤1000) (.req (0+(List.length (qX (⟨cs,os,ks,gs,bs,l,d,t,od,gs,(List.length gs:Int),(0:Int),(List.replicate (List.length gs:Int).toNat (0:Int))⟩:lM)).wanted)≤List.length (qX (⟨cs,os,ks,gs,bs,l,d,t,od,gs,(List.length gs:Int),(0:Int),(List.replicate (List.length gs:Int).toNat (0:Int))⟩:lM)).wanted) (.ok (.iD [.xl (.int .i64) (xR cs os ks gs bs (jC gs) (((qX (⟨cs,os,ks,gs,bs,l,d,t,od,gs,(List.length gs:Int),(0:Int),(List.replicate (List.length gs:Int).toNat (0:Int))⟩:lM)).wanted.drop 0).take (List.length (qX (⟨cs,os,ks,gs,bs,l,d,t,od,gs,(List.length gs:Int),(0:Int),(List.replicate (List.length gs:Int).toNat (0:Int))⟩:lM)).wanted)) od),.v (.int .i64 (shE cs os ks gs bs (jC gs) (((qX (⟨cs,os,ks,gs,bs,l,d,t,od,gs,(List.length gs:Int),(0:Int),(List.replicate (List.length gs:Int).toNat (0:Int))⟩:lM)).wanted.drop 0).take (List.length (qX (⟨cs,os,ks,gs,bs,l,d,t,od,gs,(List.length gs:Int),(0:Int),(List.replicate (List.length gs:Int).toNat (0:Int))⟩:lM)).wanted)) od))])))))):=by kernel_rfl
theorem atD:Valid Tryz.prog aS 71 Yx:=aH Tryz.func71 rfl ari aF (L:=(fun i=>if i=3 then Fj.lp else aC i)) (fun b hb=>by
 rw [show aB _=[BL] by kernel_rfl] at hb
 simp only [List.mem_cons,List.not_mem_nil,or_false] at hb
 subst hb
 exact amz) (fun args lv h=>by
 unfold acX at h
 split at h
 ·split at h
  case h_2=>cases h
  rename_i heq0
  simp only [canL,canX]
  rw [o9 (n:=9) heq0]
  simp only [canL,canX]
  rw [aox]
  rename_i cs os ks gs bs l d t od
  obtain ⟨⟨hn,hd⟩,rfl⟩:=h
  have hE:adC ⟨cs,os,ks,gs,bs,l,d,t,od,gs,(List.length gs:Int),0,List.replicate (List.length gs:Int).toNat 0⟩:=⟨rfl,rfl,hn,by simp,fun j _ _=>rZ,hd⟩
  obtain ⟨_,_,q1,q2⟩:=apQ _ hE
  have q2:(qX ⟨cs,os,ks,gs,bs,l,d,t,od,gs,(List.length gs:Int),0,List.replicate (List.length gs:Int).toNat 0⟩).wanted=lS gs d:=q2
  refine ⟨by omega,⟨rfl,by simp⟩,⟨hE,rfl,rfl⟩,hn,by omega,?_⟩
  show LV.iD [LV.xl _ _,_]=_
  rw [List.drop_zero,List.take_length,q2]
 ·cases h)
structure ku where
 m:List Ch
 k:Int
 i:Int
 out:List Int
def aDL (s:ku):List LV:=[.os 0 1 0 (List.length s.out),.xl dM s.m,.v (.int .i64 s.k),.v (.int .i64 s.i)]
def aCK (s:ku):List aU:=[⟨[],3,.vec (.int .i64) s.out,false⟩]
noncomputable def Uo:Code:=((aB (Tryz.f72.body.getD .skip))[0]?).getD .skip
def Zz (s:ku):T (Rd ku):=
 .br (decide (s.i<s.k)) (.req (0≤s.i∧s.i<(List.length s.m:Int)) (.req (0≤s.i∧s.i<((List.length s.out:Nat):Int)) (.req (s.i.toNat<List.length s.out) (.req (0=0∧(List.length s.out)=List.length (s.out.set s.i.toNat (aW s.m s.i).2.2.2.2.2.2.1)) (.ok (.next {s with i:=(IntKind.i64.wrap (s.i+1)),out:=(s.out.set s.i.toNat (aW s.m s.i).2.2.2.2.2.2.1)})))))) (.rl s.out (.ok (.stop (.exit 0) s)))
abbrev aso (s:ku):=(Zz s).rd s
def adF (s:ku):Prop:=s.i=0∧s.k=(List.length s.m:Int)∧s.k≤1000∧s.out.length=s.m.length∧(∀j,0≤j→j<s.k→gi s.out j=0)∧True
def Nz (s:ku):Prop:=(0≤s.i∧s.i≤s.k)∧s.k=(List.length s.m:Int)∧s.k≤1000∧s.out.length=s.m.length∧(∀j,0≤j→j<s.k→gi s.out j=if j<s.i then Af (aW s.m j) else 0)∧True
def PD (s:ku):Nat:=(s.k-s.i).toNat
def akJ (x:Ex) (_ s':ku):Prop:=x=.exit 0∧s'.out=qc s'.m.length (fun j=>Af (aW s'.m j))
theorem aBr:∀s,adF s→Nz s:=by
 intro s h
 obtain ⟨h0,h2,h3,h4,h5,h6⟩:=h
 exact ⟨by omega,h2,h3,h4,fun j j0 j1=>by rw [h5 j j0 j1,if_neg (by omega)],h6⟩
theorem axb (s:ku) (hI:Nz s):bJ (fun s'=>Nz s'∧PD s'<PD s) (fun x s'=>akJ x s s') (aso s):=by
 unfold aso Zz
 dsimp only [T.rd,T.rl]
 obtain ⟨⟨h0,h1⟩,h2,h3,h4,h5,h6⟩:=hI
 refine au (fun c1=>?_) (fun c1=>?_)
 ·have c1:s.i<s.k:=by simpa using c1
  rw [aK (x:=s.i+1) (by omega) (by omega)]
  refine ⟨⟨⟨by simp only;omega,by simp only;omega⟩,h2,h3,by simp only [List.length_set];exact h4,fun j j0 j1=>?_,h6⟩,by simp only [PD];omega⟩
  simp only
  have hi:=h5 s.i h0 c1
  rw [if_neg (show ¬s.i<s.i by omega)] at hi
  rw [mJ h0 (by rw [h4];omega) j0]
  by_cases e:j=s.i
  ·subst e
   rw [if_pos rfl,if_pos (show s.i<s.i+1 by omega)]
   rfl
  ·rw [if_neg e,h5 j j0 j1]
   by_cases q:j<s.i
   ·rw [if_pos q,if_pos (show j<s.i+1 by omega)]
   ·rw [if_neg q,if_neg (show ¬j<s.i+1 by omega)]
 ·have c1:s.k≤s.i:=by simpa using c1
  refine ⟨rfl,?_⟩
  refine yN (by rw [dN];exact h4) fun j j0 j1=>?_
  rw [dN] at j1
  rw [kT j0 j1,h5 j j0 (by omega),if_pos (show j<s.i by omega)]
def J3:bK ku:=⟨0,31,[3,17,18,19],[],aDL,aCK,fun v b=>⟨aQ dM (v.getD 1 .junk),gI (v.getD 2 .junk),gI (v.getD 3 .junk),iT (.int .i64) (aO b 0)⟩,Zz,fun s r=> {r with m:=s.m,k:=s.k},fun s=>s,fun _ s=>s,[.exit 0],adF,Nz,PD⟩
abbrev kR:=J3.run
abbrev apF:=J3.jG
abbrev ayA:=J3.q
noncomputable def zX:Specs:=bf [(52,y5),(66,YF),(71,Yx)]
theorem DY:∀g S,zX g=some S→Valid Tryz.prog aS g S:=aT (l:=[(52,y5),(66,YF),(71,Yx)]) ⟨VB,atL,atD,trivial⟩
noncomputable def ait:Hand:=inl Tryz.prog aS zX (lX Tryz.prog aS (zX) 20 2) 9
theorem aqT:dL Tryz.prog aS ait:=bQ DY (dQ DY) 9
theorem avg (s:ku) (hI:Nz s):(Zz s).all (fun _=>True):=by
 refine ⟨fun c1=>⟨?_,?_,?_,?_,trivial⟩,fun c1=>⟨⟨rfl,rfl⟩,trivial⟩⟩
 all_goals ((obtain ⟨⟨h0,h1⟩,h2,h3,h4,h5,h6⟩:=hI;(try simp only [decide_eq_true_eq] at c1);first|omega|exact ⟨rfl,by simp⟩ |(omega)))
theorem aht:J3.Ok:=⟨fun s=>by kernel_rfl,fun s=>by kernel_rfl,fun s=>rfl,fun s t r=>rfl,fun s=>rfl,fun s=>by kernel_rfl⟩
theorem agq:J3.Pf (akJ):=⟨aBr,fun _ _=>rfl,axb,avg⟩
theorem amF:bn Tryz.prog aS (AN 0) (.loop Uo) J3.lp:=bK.snd aht agq (bF (Γ:=zX) (K:=ait) (L:=(tN Tryz.prog aS zX ait 20 2)) DY aqT Uo (fun b _=>dR DY aqT 20 2 b)) (fun s=>by kernel_rfl)
theorem apT (s:ku) (hE:adF s):∃s',Nz s'∧akJ (apF s) s' (kR s):=bK.fin aht agq s hE
structure lN where
 cs:List Cd
 os:List ByteArray
 ks:List Ko
 gs:List Ch
 bs:List Ba
 l:List Le
 d:List Dm
 t:Int
 od:List Int
 targets:List Int
 m:List Int
 k:Int
 i:Int
 alive:List Int
def aDJ (s:lN):List LV:=[.xq 9 (fun j=>([.xl dU s.cs,.xl .str s.os,.xl dW s.ks,.xl dM s.gs,.xl dX s.bs,.xl nC s.l,.xl pU s.d,.v (.int .i64 s.t),.xl (.int .i64) s.od]:List LV).getD j .junk),.xl (.int .i64) s.targets,.os 0 1 0 (List.length s.alive),.xl (.int .i64) s.m,.v (.int .i64 s.k),.v (.int .i64 s.i)]
def aCI (s:lN):List aU:=[⟨[],3,.vec (.int .i64) s.alive,false⟩]
noncomputable def BM:Code:=((aB (Tryz.f36.body.getD .skip))[0]?).getD .skip
def Zy (s:lN):T (Rd lN):=
 .br (decide (s.i<s.k)) (.req (0≤s.i∧s.i<(List.length s.m:Int)) (.req (0≤s.i∧s.i<((List.length s.alive:Nat):Int)) (.req (s.i.toNat<List.length s.alive) (.req (0≤s.i∧s.i<((List.length s.alive:Nat):Int)) (.req (s.i.toNat<List.length s.alive) (.req (0=0∧(List.length s.alive)=List.length (s.alive.set s.i.toNat (if (s.alive.getD s.i.toNat (Ty.dflt (.int .i64)))<(gi s.m s.i) then (gi s.m s.i) else (s.alive.getD s.i.toNat (Ty.dflt (.int .i64)))))) (.ok (.next {s with i:=(IntKind.i64.wrap (s.i+1)),alive:=(s.alive.set s.i.toNat (if (s.alive.getD s.i.toNat (Ty.dflt (.int .i64)))<(gi s.m s.i) then (gi s.m s.i) else (s.alive.getD s.i.toNat (Ty.dflt (.int .i64)))))})))))))) (.rl s.alive (.ok (.stop (.exit 0) s)))
abbrev asn (s:lN):=(Zy s).rd s
def adD (s:lN):Prop:=s.i=0∧s.k=(List.length s.m:Int)∧s.k≤1000∧s.alive.length=s.m.length∧(∀j,0≤j→j<s.k→gi s.alive j=Af (aW s.gs j))∧True
def Ny (s:lN):Prop:=(0≤s.i∧s.i≤s.k)∧s.k=(List.length s.m:Int)∧s.k≤1000∧s.alive.length=s.m.length∧(∀j,0≤j→j<s.k→gi s.alive j=if j<s.i then mx (Af (aW s.gs j)) (gi s.m j) else Af (aW s.gs j))∧True
def Py (s:lN):Nat:=(s.k-s.i).toNat
def akI (x:Ex) (_ s':lN):Prop:=x=.exit 0∧s'.alive=qc s'.m.length (fun j=>mx (Af (aW s'.gs j)) (gi s'.m j))
theorem aBp:∀s,adD s→Ny s:=by
 intro s h
 obtain ⟨h0,h2,h3,h4,h5,h6⟩:=h
 exact ⟨by omega,h2,h3,h4,fun j j0 j1=>by rw [h5 j j0 j1,if_neg (by omega)],h6⟩
theorem aw9 (s:lN) (hI:Ny s):bJ (fun s'=>Ny s'∧Py s'<Py s) (fun x s'=>akI x s s') (asn s):=by
 unfold asn Zy
 dsimp only [T.rd,T.rl]
 obtain ⟨⟨h0,h1⟩,h2,h3,h4,h5,h6⟩:=hI
 refine au (fun c1=>?_) (fun c1=>?_)
 ·have c1:s.i<s.k:=by simpa using c1
  rw [aK (x:=s.i+1) (by omega) (by omega)]
  refine ⟨⟨⟨by simp only;omega,by simp only;omega⟩,h2,h3,by simp only [List.length_set];exact h4,fun j j0 j1=>?_,h6⟩,by simp only [Py];omega⟩
  simp only
  have hi:=h5 s.i h0 c1
  rw [if_neg (show ¬s.i<s.i by omega)] at hi
  rw [mJ h0 (by rw [h4];omega) j0]
  by_cases e:j=s.i
  ·subst e
   rw [if_pos rfl,if_pos (show s.i<s.i+1 by omega)]
   show mx (gi s.alive s.i) (gi s.m s.i)=_
   rw [hi]
  ·rw [if_neg e,h5 j j0 j1]
   by_cases q:j<s.i
   ·rw [if_pos q,if_pos (show j<s.i+1 by omega)]
   ·rw [if_neg q,if_neg (show ¬j<s.i+1 by omega)]
 ·have c1:s.k≤s.i:=by simpa using c1
  refine ⟨rfl,?_⟩
  refine yN (by rw [dN];exact h4) fun j j0 j1=>?_
  rw [dN] at j1
  rw [kT j0 j1,h5 j j0 (by omega),if_pos (show j<s.i by omega)]
def Fp:bK lN:=⟨0,71,[0,4,7,41,42,43],[],aDJ,aCI,fun v b=>⟨aQ dU (nD (v.getD 0 .junk) 0),aQ .str (nD (v.getD 0 .junk) 1),aQ dW (nD (v.getD 0 .junk) 2),aQ dM (nD (v.getD 0 .junk) 3),aQ dX (nD (v.getD 0 .junk) 4),aQ nC (nD (v.getD 0 .junk) 5),aQ pU (nD (v.getD 0 .junk) 6),gI (nD (v.getD 0 .junk) 7),aQ (.int .i64) (nD (v.getD 0 .junk) 8),aQ (.int .i64) (v.getD 1 .junk),aQ (.int .i64) (v.getD 3 .junk),gI (v.getD 4 .junk),gI (v.getD 5 .junk),iT (.int .i64) (aO b 0)⟩,Zy,fun s r=> {r with cs:=s.cs,os:=s.os,ks:=s.ks,gs:=s.gs,bs:=s.bs,l:=s.l,d:=s.d,t:=s.t,od:=s.od,targets:=s.targets,m:=s.m,k:=s.k},fun s=>s,fun _ s=>s,[.exit 0],adD,Ny,Py⟩
abbrev qY:=Fp.run
abbrev apE:=Fp.jG
abbrev ayy:=Fp.q
theorem ave (s:lN) (hI:Ny s):(Zy s).all (fun _=>True):=by
 refine ⟨fun c1=>⟨?_,?_,?_,?_,?_,?_,trivial⟩,fun c1=>⟨⟨rfl,rfl⟩,trivial⟩⟩
 all_goals ((obtain ⟨⟨h0,h1⟩,h2,h3,h4,h5,h6⟩:=hI;(try simp only [decide_eq_true_eq] at c1);first|omega|exact ⟨rfl,by simp⟩ |(omega)))
noncomputable def ais:Hand:=inl Tryz.prog aS zX (kD 72 0 3 (J3.lp) (lX Tryz.prog aS (zX) 20 2)) 9
theorem aqS:dL Tryz.prog aS ais:=bQ DY (dK Tryz.func72 rfl (by kernel_rfl) amF (dQ DY)) 9
theorem ahr:Fp.Ok:=⟨fun s=>by kernel_rfl,fun s=>by kernel_rfl,fun s=>rfl,fun s t r=>rfl,fun s=>rfl,fun s=>by kernel_rfl⟩
theorem agn:Fp.Pf (akI):=⟨aBp,fun _ _=>rfl,aw9,ave⟩
theorem amB:bn Tryz.prog aS (AN 0) (.loop BM) Fp.lp:=bK.snd ahr agn (aP (Γ:=zX) (K:=ais) (L:=aC) DY aqS BM (fun b hb=>by rw [show aB BM=[] by kernel_rfl] at hb;cases hb)) (fun s=>by kernel_rfl)
theorem apR (s:lN) (hE:adD s):∃s',Ny s'∧akI (apE s) s' (qY s):=bK.fin ahr agn s hE
def acY:List LV→T LV
 | [.xq 9 q0]=>(match ([q0 0,q0 1,q0 2,q0 3,q0 4,q0 5,q0 6,q0 7,q0 8]:List LV) with
  | [.xl (.pair .str (.pair (.int .i64) (.pair (.int .i64) (.pair (.int .i64) (.pair (.pair (.int .i64) (.int .i64)) (.pair (.int .i64) (.pair (.int .i64) (.pair (.int .i64) (.pair (.int .i64) (.int .i64)))))))))) cs,.xl (.str) os,.xl (.pair .str (.pair (.int .i64) (.pair (.int .i64) (.int .i64)))) ks,.xl (.pair .str (.pair (.int .i64) (.pair (.int .i64) (.pair (.int .i64) (.pair (.int .i64) (.pair (.int .i64) (.pair (.int .i64) (.int .i64)))))))) gs,.xl (.pair .str (.int .i64)) bs,.xl (.pair (.int .i64) (.pair (.int .i64) (.pair (.int .i64) (.pair (.int .i64) (.int .i64))))) l,.xl (.pair .bool (.pair (.int .i64) (.pair (.int .i64) (.int .i64)))) d,.v (.int .i64 t),.xl (.int .i64) od]=> .req (d.length=gs.length∧rU cs os ks gs bs (jC gs) (lS gs d) od=true∧Kw l (List.length gs:Int) t=true∧rU cs os ks gs bs (XP gs l t) (xR cs os ks gs bs (jC gs) (lS gs d) od) od=true) (.ok (.iD [.xl (.int .i64) (Om cs os ks gs bs l d t od),.v (.int .i64 0)]))
  |_=> .no)
 |_=> .no
noncomputable def Yy:List LV→T LV:=gJ Tryz.prog Tryz.f36.params.toList acY
theorem aoy (cs:List Cd) (os:List ByteArray) (ks:List Ko) (gs:List Ch) (bs:List Ba) (l:List Le) (d:List Dm) (t:Int) (od:List Int):bT Tryz.prog aS (zX) ais (fun i=>if i=9 then Fp.lp else aC i) Tryz.f36 [.xq 9 (fun j=>([.xl dU cs,.xl .str os,.xl dW ks,.xl dM gs,.xl dX bs,.xl nC l,.xl pU d,.v (.int .i64 t),.xl (.int .i64) od]:List LV).getD j .junk)]=.req ((List.length gs:Int)≤1000∧d.length=gs.length) (.br ((shE cs os ks gs bs (jC gs) (lS gs d) od) !=0) (.ok (.iD [.xl (.int .i64) ([]:List Int),.v (.int .i64 (shE cs os ks gs bs (jC gs) (lS gs d) od))])) (.br ((Uw l (List.length gs:Int) t) !=0) (.ok (.iD [.xl (.int .i64) ([]:List Int),.v (.int .i64 (Uw l (List.length gs:Int) t))])) (.req (0≤(List.length gs:Int)∧(List.length gs:Int)≤(List.length gs:Int)∧8*(List.length gs:Int)≤2^48∧(List.length gs:Int)<2^63) (.req (0=0∧(List.length gs:Int).toNat=List.length (List.replicate (List.length gs:Int).toNat (0:Int))) (.req (ayA (⟨gs,(List.length gs:Int),(0:Int),(List.replicate (List.length gs:Int).toNat (0:Int))⟩:ku)) (.rl (kR (⟨gs,(List.length gs:Int),(0:Int),(List.replicate (List.length gs:Int).toNat (0:Int))⟩:ku)).out (.req (ayy (⟨cs,os,ks,gs,bs,l,d,t,od,(xR cs os ks gs bs (jC gs) (lS gs d) od),(oL l (List.length gs:Int) t),(List.length (oL l (List.length gs:Int) t):Int),(0:Int),(kR (⟨gs,(List.length gs:Int),(0:Int),(List.replicate (List.length gs:Int).toNat (0:Int))⟩:ku)).out⟩:lN)) (.req (0+(List.length (qY (⟨cs,os,ks,gs,bs,l,d,t,od,(xR cs os ks gs bs (jC gs) (lS gs d) od),(oL l (List.length gs:Int) t),(List.length (oL l (List.length gs:Int) t):Int),(0:Int),(kR (⟨gs,(List.length gs:Int),(0:Int),(List.replicate (List.length gs:Int).toNat (0:Int))⟩:ku)).out⟩:lN)).alive)≤List.length (qY (⟨cs,os,ks,gs,bs,l,d,t,od,(xR cs os ks gs bs (jC gs) (lS gs d) od),(oL l (List.length gs:Int) t),(List.length (oL l (List.length gs:Int) t):Int),(0:Int),(kR (⟨gs,(List.length gs:Int),(0:Int),(List.replicate (List.length gs:Int).toNat (0:Int))⟩:ku)).out⟩:lN)).alive) (.ok (.iD [.xl (.int .i64) (xR cs os ks gs bs (((qY (⟨cs,os,ks,gs,bs,l,d,t,od,(xR cs os ks gs bs (jC gs) (lS gs d) od),(oL l (List.length gs:Int) t),(List.length (oL l (List.length gs:Int) t):Int),(0:Int),(kR (⟨gs,(List.length gs:Int),(0:Int),(List.replicate (List.length gs:Int).toNat (0:Int))⟩:ku)).out⟩:lN)).alive.drop 0).take (List.length (qY (⟨cs,os,ks,gs,bs,l,d,t,od,(xR cs os ks gs bs (jC gs) (lS gs d) od),(oL l (List.length gs:Int) t),(List.length (oL l (List.length gs:Int) t):Int),(0:Int),(kR (⟨gs,(List.length gs:Int),(0:Int),(List.replicate (List.length gs:Int).toNat (0:Int))⟩:ku)).out⟩:lN)).alive)) (xR cs os ks gs bs (jC gs) (lS gs d) od) od),.v (.int .i64 (shE cs os ks gs bs (((qY (⟨cs,os,ks,gs,bs,l,d,t,od,(xR cs os ks gs bs (jC gs) (lS gs d) od),(oL l (List.length gs:Int) t),(List.length (oL l (List.length gs:Int) t):Int),(0:Int),(kR (⟨gs,(List.length gs:Int),(0:Int),(List.replicate (List.length gs:Int).toNat (0:Int))⟩:ku)).out⟩:lN)).alive.drop 0).take (List.length (qY (⟨cs,os,ks,gs,bs,l,d,t,od,(xR cs os ks gs bs (jC gs) (lS gs d) od),(oL l (List.length gs:Int) t),(List.length (oL l (List.length gs:Int) t):Int),(0:Int),(kR (⟨gs,(List.length gs:Int),(0:Int),(List.replicate (List.length gs:Int).toNat (0:Int))⟩:ku)).out⟩:lN)).alive)) (xR cs os ks gs bs (jC gs) (lS gs d) od) od))])))))))))):=by kernel_rfl
theorem atE:Valid Tryz.prog aS 36 Yy:=aH Tryz.func36 rfl DY aqS (L:=(fun i=>if i=9 then Fp.lp else aC i)) (fun b hb=>by
 rw [show aB _=[BM] by kernel_rfl] at hb
 simp only [List.mem_cons,List.not_mem_nil,or_false] at hb
 subst hb
 exact amB) (fun args lv h=>by
 unfold acY at h
 split at h
 ·split at h
  case h_2=>cases h
  rename_i heq0
  simp only [canL,canX]
  rw [o9 (n:=9) heq0]
  simp only [canL,canX]
  rw [aoy]
  rename_i cs os ks gs bs l d t od
  obtain ⟨⟨hd,hk,hv,hk2⟩,rfl⟩:=h
  have gl:=(fP.1 (iO.1 hk).1).1.2.2.2.2.1
  have ea:oL l (List.length gs:Int) t=XQ gs.length l t:=by unfold oL;rw [if_pos hv,Int.toNat_natCast]
  rw [afi hk,show Uw l (List.length gs:Int) t=0 by unfold Uw;rw [if_pos hv]]
  refine ⟨⟨by omega,hd⟩,fun c=>absurd c (by decide),fun _=>⟨fun c=>absurd c (by decide),fun _=>?_⟩⟩
  have hE:adF ⟨gs,(List.length gs:Int),0,List.replicate (List.length gs:Int).toNat 0⟩:=⟨rfl,rfl,by simp only;omega,by simp,fun j _ _=>rZ,trivial⟩
  obtain ⟨_,_,q1,q2⟩:=apT _ hE
  have q2:(kR ⟨gs,(List.length gs:Int),0,List.replicate (List.length gs:Int).toNat 0⟩).out=jC gs:=q2
  have hE2:adD ⟨cs,os,ks,gs,bs,l,d,t,od,xR cs os ks gs bs (jC gs) (lS gs d) od,oL l (List.length gs:Int) t,(List.length (oL l (List.length gs:Int) t):Int),0,(kR ⟨gs,(List.length gs:Int),0,List.replicate (List.length gs:Int).toNat 0⟩).out⟩:=⟨rfl,rfl,by simp only;rw [ea,BZ];omega,by simp only;rw [q2,ea,BZ];exact dN,fun j j0 j1=>by
   simp only at j1⊢
   rw [ea,BZ] at j1
   rw [q2]
   exact kT j0 j1,trivial⟩
  obtain ⟨_,_,q3,q4⟩:=apR _ hE2
  have q4:(qY ⟨cs,os,ks,gs,bs,l,d,t,od,xR cs os ks gs bs (jC gs) (lS gs d) od,oL l (List.length gs:Int) t,(List.length (oL l (List.length gs:Int) t):Int),0,(kR ⟨gs,(List.length gs:Int),0,List.replicate (List.length gs:Int).toNat 0⟩).out⟩).alive=XP gs l t:=q4.trans (by
   show qc (oL l (List.length gs:Int) t).length (fun j=>mx (Af (aW gs j)) (gi (oL l (List.length gs:Int) t) j))=_
   rw [ea,BZ]
   rfl)
  refine ⟨by omega,⟨rfl,by simp⟩,⟨hE,rfl,rfl⟩,⟨rfl,rfl⟩,⟨hE2,rfl,rfl⟩,by omega,?_⟩
  show LV.iD [LV.xl _ _,_]=_
  rw [List.drop_zero,List.take_length,q4,afi hk2]
  rfl
 ·cases h)
end Go.Proofs.YtlihnbimgclogaaGreatDoor
namespace Go.Proofs.YtlihnbimgclogaaGreatDoor
open Go.Sx
noncomputable def afr:Array Tmp×Code×Code:=((jI (Tryz.f38.body.getD .skip))[0]?).getD (#[],.skip,.skip)
noncomputable def azH:Array Tmp:=afr.1
noncomputable def az1:Code:=afr.2.1
noncomputable def azW:Code:=afr.2.2
structure mZ where
 i:Int
 cs:List Cd
 os:List ByteArray
 ks:List Ko
 gs:List Ch
 bs:List Ba
 l:List Le
 d:List Dm
 t:Int
 od:List Int
 c:Int
 a:Int
 r:Bool
 m:List Le
 st:LS
def aDK (s:mZ):List LV:=[.uN 5,.own 4 0,.v (.int .i64 s.i)]
noncomputable def aCJ (s:mZ):List aU:=[⟨[.xq 9 (fun j=>([.xl dU s.cs,.xl .str s.os,.xl dW s.ks,.xl dM s.gs,.xl dX s.bs,.xl nC s.l,.xl pU s.d,.v (.int .i64 s.t),.xl (.int .i64) s.od]:List LV).getD j .junk)],73,.cl,false⟩,⟨[.v (.int .i64 s.c)],3,.cl,false⟩,⟨[.v (.int .i64 s.a)],3,.cl,false⟩,⟨[.v (.bool s.r)],4,.cl,false⟩,⟨[.xl nC s.m],29,.cl,false⟩,⟨[.junk,.junk,.junk,.own 0 0,.own 1 0,.own 2 0,.own 3 0,.junk,.v (.tuple #[]),.junk,.junk,.junk,.junk,.junk,.junk,.junk,.junk,.junk,.junk,.junk,.junk,.junk,.junk,.junk,.junk,.junk,.v (.tuple #[]),.v (.tuple #[]),.v (.tuple #[]),.v (.tuple #[]),.v (.tuple #[]),.v (.tuple #[]),.v (.tuple #[]),.v (.tuple #[]),.v (.tuple #[]),.v (.tuple #[]),.v (.tuple #[]),.v (.tuple #[]),.v (.tuple #[]),.v (.tuple #[]),.v (.tuple #[]),.v (.tuple #[]),.v (.tuple #[]),.v (.tuple #[]),.v (.tuple #[])],0,.kG azH az1 azW s.st,false⟩]
noncomputable def Un:Code:=((aB (Tryz.f115.body.getD .skip))[0]?).getD .skip
def RJ (s:mZ):T (Rd mZ):=
 .br (decide (s.i≥0)) (.req (0≤s.i∧s.i<(List.length s.m:Int)) (.br ((iH s.m s.i).2.1==s.c) (.ok (.stop (.ret) {s with r:=(((iH s.m s.i).2.2.1 !=s.a) ||(decide ((iH s.m s.i).2.2.2.1≤(IntKind.i64.wrap (s.t-6))))),st:=(.done (.ret))})) (.ok (.next {s with i:=(IntKind.i64.wrap (s.i-1))})))) (.ok (.stop (.exit 0) s))
abbrev abl (s:mZ):=(RJ s).rd s
def adE (s:mZ):Prop:=s.st=.ready∧s.i=(List.length s.m:Int)-1∧(List.length s.m:Int)≤1000∧0≤s.t∧s.t≤1000000
def U4 (s:mZ):Prop:=s.st=.ready∧(-1≤s.i∧s.i<(List.length s.m:Int))∧(List.length s.m:Int)≤1000∧0≤s.t∧s.t≤1000000
def Pz (s:mZ):Nat:=(s.i+1).toNat
def asK (_:Ex) (_ _:mZ):Prop:=True
theorem aBq:∀s,adE s→U4 s:=by
 intro s h
 obtain ⟨h0,h1,h2⟩:=h
 exact ⟨h0,by omega,h2⟩
theorem axa (s:mZ) (hI:U4 s):bJ (fun s'=>U4 s'∧Pz s'<Pz s) (fun x s'=>asK x s s') (abl s):=by
 unfold abl RJ
 dsimp only [T.rd,T.rl]
 obtain ⟨hs,⟨h0,h1⟩,h2⟩:=hI
 refine au (fun c1=>au (fun c2=>trivial) (fun c2=>?_)) (fun c1=>trivial)
 have c1:0≤s.i:=by simpa using c1
 rw [aK (x:=s.i-1) (by omega) (by omega)]
 exact ⟨⟨hs,⟨by simp only;omega,by simp only;omega⟩,h2⟩,by simp only [Pz];omega⟩
noncomputable def JZ:bK mZ:=⟨6,19,[0,1,3],[],aDK,aCJ,fun v b=>⟨gI (v.getD 2 .junk),aQ dU (nD (aX (aO b 0) 0) 0),aQ .str (nD (aX (aO b 0) 0) 1),aQ dW (nD (aX (aO b 0) 0) 2),aQ dM (nD (aX (aO b 0) 0) 3),aQ dX (nD (aX (aO b 0) 0) 4),aQ nC (nD (aX (aO b 0) 0) 5),aQ pU (nD (aX (aO b 0) 0) 6),gI (nD (aX (aO b 0) 0) 7),aQ (.int .i64) (nD (aX (aO b 0) 0) 8),gI (aX (aO b 1) 0),gI (aX (aO b 2) 0),uT (aX (aO b 3) 0),aQ nC (aX (aO b 4) 0),.ready⟩,RJ,fun s r=> {r with cs:=s.cs,os:=s.os,ks:=s.ks,gs:=s.gs,bs:=s.bs,l:=s.l,d:=s.d,t:=s.t,od:=s.od,c:=s.c,a:=s.a,m:=s.m},fun s=> {s with st:=.ready},fun x s=> {s with st:=(match x with| .ret=>(.done (.ret)) | .exit 0=> .ready|_=> .ready)},[.ret,.exit 0],adE,U4,Pz⟩
noncomputable abbrev Z9:=JZ.run
noncomputable abbrev abK:=JZ.jG
abbrev ayz:=JZ.q
noncomputable def D8:Specs:=bf []
theorem IC:∀g S,D8 g=some S→Valid Tryz.prog aS g S:=aT (l:=[]) trivial
noncomputable def air:Hand:=inl Tryz.prog aS D8 (lX Tryz.prog aS (D8) 20 2) 9
theorem aqR:dL Tryz.prog aS air:=bQ IC (dQ IC) 9
theorem avf (s:mZ) (hI:U4 s):(RJ s).all (fun _=>True):=by
 refine ⟨fun c1=>⟨?_,fun _=>trivial,fun _=>trivial⟩,fun _=>trivial⟩
 ·(obtain ⟨hs,⟨h0,h1⟩,h2⟩:=hI;simp only [decide_eq_true_eq] at c1;omega)
theorem ahs:JZ.Ok:=⟨fun s=>by kernel_rfl,fun s=>by kernel_rfl,fun s=>rfl,fun s t r=>rfl,fun s=>rfl,fun s=>by kernel_rfl⟩
theorem agp:JZ.Pf (asK):=⟨aBq,fun s h=>by
 obtain ⟨i,cs,os,ks,gs,bs,l,d,t,od,c,a,r,m,st⟩:=s
 have e:st=.ready:=h.1
 subst e
 rfl,axa,avf⟩
theorem amD:bn Tryz.prog aS (AN 6) (.loop Un) JZ.lp:=bK.snd ahs agp (bF (Γ:=D8) (K:=air) (L:=(tN Tryz.prog aS D8 air 20 2)) IC aqR Un (fun b _=>dR IC aqR 20 2 b)) (fun s=>by kernel_rfl)
theorem apS (s:mZ) (hE:adE s):(fun (x:Ex) (s':mZ) (v:Bool)=>(x=.ret∧s'.r=v)∨(x=.exit 0∧v=true)) (abK s) (Z9 s) ((fun s:mZ=>nwO s.a s.t ((s.m.take (s.i+1).toNat).reverse.find? (fun x=>x.2.1==s.c))) s):=by
 exact bK.wu ahs agp (fun s:mZ=>nwO s.a s.t ((s.m.take (s.i+1).toNat).reverse.find? (fun x=>x.2.1==s.c))) (fun x s' v=>(x=.ret∧s'.r=v)∨(x=.exit 0∧v=true)) (fun s hI=>by
  show bJ _ _ (abl s)
  unfold abl RJ
  dsimp only [T.rd,T.rl]
  obtain ⟨hs,⟨h0,h1⟩,h2⟩:=hI
  refine au (fun c1=>?_) (fun c1=>?_)
  ·have c1:0≤s.i:=by simpa using c1
   have e:=(IU c1 (show s.i<(List.length s.m:Int) by omega)).2
   refine au (fun c2=> .inl ⟨rfl,?_⟩) (fun c2=>?_)
   ·rw [e,List.reverse_append]
    show _=nwO s.a s.t (List.find? _ (iH s.m s.i::_))
    rw [List.find?_cons_of_pos (by exact c2)]
    simp only [nwO]
    rw [aK (x:=s.t-6) (by omega) (by omega)]
   ·show nwO _ _ _=nwO _ _ _
    simp only
    rw [aK (x:=s.i-1) (by omega) (by omega),e,List.reverse_append]
    show _=nwO s.a s.t (List.find? _ (iH s.m s.i::_))
    rw [List.find?_cons_of_neg (by rw [c2];decide),show (s.i-1+1).toNat=s.i.toNat by omega]
    rfl
  ·have c1:s.i<0:=by simpa using c1
   refine .inr ⟨rfl,?_⟩
   rw [show (s.i+1).toNat=0 by omega]
   rfl) s hE
def acZ:List LV→T LV
 | [.xq 9 q0,.v (.int .i64 i),.v (.int .i64 a)]=>(match ([q0 0,q0 1,q0 2,q0 3,q0 4,q0 5,q0 6,q0 7,q0 8]:List LV) with
  | [.xl (.pair .str (.pair (.int .i64) (.pair (.int .i64) (.pair (.int .i64) (.pair (.pair (.int .i64) (.int .i64)) (.pair (.int .i64) (.pair (.int .i64) (.pair (.int .i64) (.pair (.int .i64) (.int .i64)))))))))) _,.xl (.str) _,.xl (.pair .str (.pair (.int .i64) (.pair (.int .i64) (.int .i64)))) _,.xl (.pair .str (.pair (.int .i64) (.pair (.int .i64) (.pair (.int .i64) (.pair (.int .i64) (.pair (.int .i64) (.pair (.int .i64) (.int .i64)))))))) gs,.xl (.pair .str (.int .i64)) _,.xl (.pair (.int .i64) (.pair (.int .i64) (.pair (.int .i64) (.pair (.int .i64) (.int .i64))))) l,.xl (.pair .bool (.pair (.int .i64) (.pair (.int .i64) (.int .i64)))) _,.v (.int .i64 t),.xl (.int .i64) _]=> .req ((0≤i∧i<(List.length gs:Int))∧(List.length l:Int)≤1000∧0≤t∧t≤1000000) (.ok (.v (.bool (nwB gs l t i a))))
  |_=> .no)
 |_=> .no
noncomputable def Yz:List LV→T LV:=gJ Tryz.prog Tryz.f38.params.toList acZ
noncomputable def aq3:Hand:=inl Tryz.prog aS D8 (kD 115 6 1 (JZ.lp) (lX Tryz.prog aS (D8) 20 2)) 9
theorem aAC:dL Tryz.prog aS aq3:=bQ IC (dK Tryz.func115 rfl (by kernel_rfl) amD (dQ IC)) 9
theorem aoz (cs:List Cd) (os:List ByteArray) (ks:List Ko) (gs:List Ch) (bs:List Ba) (l:List Le) (d:List Dm) (t:Int) (od:List Int) (i a:Int):bT Tryz.prog aS (D8) aq3 aC Tryz.f38 [.xq 9 (fun j=>([.xl dU cs,.xl .str os,.xl dW ks,.xl dM gs,.xl dX bs,.xl nC l,.xl pU d,.v (.int .i64 t),.xl (.int .i64) od]:List LV).getD j .junk),.v (.int .i64 i),.v (.int .i64 a)]=.req (0≤i∧i<(List.length gs:Int)) (.br (decide (a≤(aW gs i).2.2.2.2.2.2.1)) (.ok (.v (.bool false))) (.req (ayz (⟨(IntKind.i64.wrap ((List.length l:Int)-1)),cs,os,ks,gs,bs,l,d,t,od,i,a,false,l,.ready⟩:mZ)) (.br (iw (abK (⟨(IntKind.i64.wrap ((List.length l:Int)-1)),cs,os,ks,gs,bs,l,d,t,od,i,a,false,l,.ready⟩:mZ)) (.ret)) (.ok (.v (.bool (Z9 (⟨(IntKind.i64.wrap ((List.length l:Int)-1)),cs,os,ks,gs,bs,l,d,t,od,i,a,false,l,.ready⟩:mZ)).r))) (.ok (.v (.bool true)))))):=by kernel_rfl
theorem atF:Valid Tryz.prog aS 38 Yz:=aH Tryz.func38 rfl IC aAC (aY (by kernel_rfl)) (fun args lv h=>by
 unfold acZ at h
 split at h
 ·split at h
  case h_2=>cases h
  rename_i heq0
  simp only [canL,canX]
  rw [o9 (n:=9) heq0]
  simp only [canL,canX]
  rw [aoz]
  rename_i i a _ cs os ks gs bs l d t od
  obtain ⟨⟨hi,hl,ht⟩,rfl⟩:=h
  refine ⟨hi,fun c=>congrArg (fun z=>LV.v (.bool z)) ?_,fun c=>?_⟩
  ·have c:a≤Af (aW gs i):=of_decide_eq_true c
   unfold nwB
   rw [decide_eq_true c]
   rfl
  have c:¬a≤Af (aW gs i):=of_decide_eq_false c
  have hE:adE ⟨IntKind.i64.wrap ((List.length l:Int)-1),cs,os,ks,gs,bs,l,d,t,od,i,a,false,l,.ready⟩:=⟨rfl,by show IntKind.i64.wrap ((List.length l:Int)-1)=_;rw [aK (by omega) (by omega)],hl,ht⟩
  have ev:nwB gs l t i a=nwO a t ((l.take (IntKind.i64.wrap ((List.length l:Int)-1)+1).toNat).reverse.find? (fun x=>x.2.1==i)):=by
   unfold nwB
   rw [decide_eq_false c,aK (x:=(List.length l:Int)-1) (by omega) (by omega),show ((List.length l:Int)-1+1).toNat=l.length by omega,List.take_length]
   rfl
  refine ⟨⟨hE,rfl,rfl⟩,?_⟩
  rcases apS _ hE with ⟨q1,q2⟩ |⟨q1,q2⟩<;>rw [q1]
  ·exact ⟨fun _=>congrArg (fun z=>LV.v (.bool z)) (q2.trans ev.symm),fun h=>by cases h⟩
  ·exact ⟨fun h=>(by cases h),fun _=>congrArg (fun z=>LV.v (.bool z)) (q2.symm.trans ev.symm)⟩
 ·cases h)
end Go.Proofs.YtlihnbimgclogaaGreatDoor
namespace Go.Proofs.YtlihnbimgclogaaGreatDoor
open Go.Sx
def UH:List LV→T LV
 | [.v (.int .i64 _)]=> .ok (.v (.bool false))
 |_=> .no
noncomputable def Qy:List LV→T LV:=gJ Tryz.prog Tryz.f85.params.toList UH
noncomputable def TG:Specs:=bf []
theorem aaM:∀g S,TG g=some S→Valid Tryz.prog aS g S:=aT (l:=[]) trivial
theorem ahO (x:Int):bT Tryz.prog aS (TG) dY aC Tryz.f85 [.v (.int .i64 x)]=.ok (.v (.bool (x !=x))):=by kernel_rfl
theorem alr:Valid Tryz.prog aS 85 Qy:=aH Tryz.func85 rfl aaM aF (aY (by kernel_rfl)) (fun args lv h=>by
 unfold UH at h
 split at h
 ·simp only [canL,canX]
  rw [ahO]
  obtain rfl:=h
  exact congrArg (fun z=>LV.v (.bool z)) (by simp)
 ·cases h)
def ac3:List LV→T LV
 | [.v (.int .i64 x),.v (.int .i64 y)]=> .ok (.v (.int .i64 (cm x y)))
 |_=> .no
noncomputable def YC:List LV→T LV:=gJ Tryz.prog Tryz.f47.params.toList ac3
noncomputable def arH:Specs:=bf [(85,Qy)]
theorem aAZ:∀g S,arH g=some S→Valid Tryz.prog aS g S:=aT (l:=[(85,Qy)]) ⟨alr,trivial⟩
theorem aoD (x y:Int):bT Tryz.prog aS (arH) dY aC Tryz.f47 [.v (.int .i64 x),.v (.int .i64 y)]=.br false (.br false (.ok (.v (.int .i64 0))) (.ok (.v (.int .i64 (-1))))) (.br false (.ok (.v (.int .i64 1))) (.br (decide (x<y)) (.ok (.v (.int .i64 (-1)))) (.br (decide (x>y)) (.ok (.v (.int .i64 1))) (.ok (.v (.int .i64 0)))))):=by kernel_rfl
theorem atI:Valid Tryz.prog aS 47 YC:=aH Tryz.func47 rfl aAZ aF (aY (by kernel_rfl)) (fun args lv h=>by
 unfold ac3 at h
 split at h
 ·simp only [canL,canX]
  rw [aoD]
  obtain rfl:=h
  unfold cm
  refine ⟨fun h=>(by cases h),fun _=>⟨fun h=>(by cases h),fun _=>⟨fun c=>?_,fun c=>⟨fun c2=>?_,fun c2=>?_⟩⟩⟩⟩<;>refine congrArg (fun z=>LV.v (.int .i64 z)) ?_
  ·rw [if_pos (by simpa using c)]
  ·rw [if_neg (by simpa using c),if_pos (by simpa using c2)]
  ·rw [if_neg (by simpa using c),if_neg (by simpa using c2)]
 ·cases h)
structure ng where
 r:Int
 z:Int
 l:List Int
 n:Int
 i:Int
def aDO (s:ng):List LV:=[.v (.int .i64 s.r),.v (.int .i64 s.z),.xl (.int .i64) s.l,.v (.int .i64 s.n),.v (.int .i64 s.i)]
def aCN (_:ng):List aU:=[]
noncomputable def BP:Code:=((aB (Tryz.f46.body.getD .skip))[0]?).getD .skip
def RN (s:ng):T (Rd ng):=
 .br (decide (s.i<s.n)) (.req (0≤s.i∧s.i<(List.length s.l:Int)) (.br ((gi s.l s.i) !=s.z) (.ok (.stop (.ret) {s with r:=(gi s.l s.i)})) (.ok (.next {s with i:=(IntKind.i64.wrap (s.i+1))})))) (.ok (.stop (.exit 0) s))
abbrev abm (s:ng):=(RN s).rd s
def adH (s:ng):Prop:=s.i=0∧s.n=(List.length s.l:Int)∧s.n≤1000∧s.z=0
def U5 (s:ng):Prop:=(0≤s.i∧s.i≤s.n)∧s.n=(List.length s.l:Int)∧s.n≤1000∧s.z=0
def PG (s:ng):Nat:=(s.n-s.i).toNat
def asL (_:Ex) (_ _:ng):Prop:=True
theorem aBw:∀s,adH s→U5 s:=by
 intro s h
 obtain ⟨h0,h2,h3,h4⟩:=h
 exact ⟨by omega,h2,h3,h4⟩
theorem axl (s:ng) (hI:U5 s):bJ (fun s'=>U5 s'∧PG s'<PG s) (fun x s'=>asL x s s') (abm s):=by
 unfold abm RN
 dsimp only [T.rd,T.rl]
 obtain ⟨⟨h0,h1⟩,h2,h3,h4⟩:=hI
 refine au (fun c1=>?_) (fun c1=>?_)
 ·refine au (fun c2=>?_) (fun c2=>?_)
  ·exact trivial
  ·have c1:s.i<s.n:=by simpa using c1
   rw [aK (x:=s.i+1) (by omega) (by omega)]
   exact ⟨⟨⟨by simp only;omega,by simp only;omega⟩,h2,h3,h4⟩,by simp only [PG];omega⟩
 ·exact trivial
def Fz:bK ng:=⟨0,18,[2,3,6,7,8],[],aDO,aCN,fun v _=>⟨gI (v.getD 0 .junk),gI (v.getD 1 .junk),aQ (.int .i64) (v.getD 2 .junk),gI (v.getD 3 .junk),gI (v.getD 4 .junk)⟩,RN,fun s r=> {r with z:=s.z,l:=s.l,n:=s.n},fun s=>s,fun _ s=>s,[.ret,.exit 0],adH,U5,PG⟩
abbrev aac:=Fz.run
abbrev abL:=Fz.jG
abbrev ayD:=Fz.q
theorem avj (s:ng) (hI:U5 s):(RN s).all (fun _=>True):=by
 refine ⟨fun c1=>⟨?_,fun _=>trivial,fun _=>trivial⟩,fun _=>trivial⟩
 ·(obtain ⟨⟨h0,h1⟩,h2,h3⟩:=hI;simp only [decide_eq_true_eq] at c1;omega)
theorem ahv:Fz.Ok:=⟨fun s=>by kernel_rfl,fun s=>by kernel_rfl,fun s=>rfl,fun s t r=>rfl,fun s=>rfl,fun s=>by kernel_rfl⟩
theorem ags:Fz.Pf (asL):=⟨aBw,fun _ _=>rfl,axl,avj⟩
theorem amI:bn Tryz.prog aS (AN 0) (.loop BP) Fz.lp:=bK.snd ahv ags (aP (Γ:=TG) (K:=dY) (L:=aC) aaM aF BP (fun b hb=>by rw [show aB BP=[] by kernel_rfl] at hb;cases hb)) (fun s=>by kernel_rfl)
theorem apY (s:ng) (hE:adH s):(fun (x:Ex) (s':ng) (v:Int)=>(x=.ret∧s'.r=v)∨(x=.exit 0∧s'.z=v)) (abL s) (aac s) ((fun s:ng=>orI (s.l.drop s.i.toNat)) s):=by
 exact bK.wu ahv ags (fun s:ng=>orI (s.l.drop s.i.toNat)) (fun x s' v=>(x=.ret∧s'.r=v)∨(x=.exit 0∧s'.z=v)) (fun s hI=>by
  show bJ _ _ (abm s)
  unfold abm RN
  dsimp only [T.rd,T.rl]
  obtain ⟨⟨h0,h1⟩,h2,h3,h4⟩:=hI
  refine au (fun c1=>?_) (fun c1=>?_)
  ·have c1:s.i<s.n:=by simpa using c1
   have e:s.l.drop s.i.toNat=gi s.l s.i::s.l.drop (s.i+1).toNat:=(gi_step h0 (show s.i<(List.length s.l:Int) by omega)).1
   rw [aK (x:=s.i+1) (by omega) (by omega)]
   refine au (fun c2=>?_) (fun c2=>?_)
   ·refine .inl ⟨rfl,?_⟩
    simp only
    rw [e,orI,if_pos (by rw [h4] at c2;exact c2)]
   ·show orI _=orI _
    simp only
    rw [e,orI,if_neg (by rw [h4] at c2;rw [c2];simp)]
  ·have c1:s.n≤s.i:=by simpa using c1
   refine .inr ⟨rfl,?_⟩
   rw [List.drop_eq_nil_of_le (by omega),h4]
   rfl) s hE
def ac4:List LV→T LV
 | [.xl (.int .i64) l]=> .req ((List.length l:Int)≤1000) (.ok (.v (.int .i64 (orI l))))
 |_=> .no
noncomputable def YD:List LV→T LV:=gJ Tryz.prog Tryz.f46.params.toList ac4
theorem aoE (l:List Int):bT Tryz.prog aS (TG) dY (fun i=>if i=3 then Fz.lp else aC i) Tryz.f46 [.xl (.int .i64) l]=.req (ayD (⟨(0:Int),(0:Int),l,(List.length l:Int),(0:Int)⟩:ng)) (.br (iw (abL (⟨(0:Int),(0:Int),l,(List.length l:Int),(0:Int)⟩:ng)) (.ret)) (.ok (.v (.int .i64 (aac (⟨(0:Int),(0:Int),l,(List.length l:Int),(0:Int)⟩:ng)).r))) (.ok (.v (.int .i64 (0:Int))))):=by kernel_rfl
theorem atJ:Valid Tryz.prog aS 46 YD:=aH Tryz.func46 rfl aaM aF (L:=(fun i=>if i=3 then Fz.lp else aC i)) (fun b hb=>by
 rw [show aB _=[BP] by kernel_rfl] at hb
 simp only [List.mem_cons,List.not_mem_nil,or_false] at hb
 subst hb
 exact amI) (fun args lv h=>by
 unfold ac4 at h
 split at h
 ·simp only [canL,canX]
  rw [aoE]
  rename_i l
  obtain ⟨hl,rfl⟩:=h
  have hE:adH ⟨0,0,l,(List.length l:Int),0⟩:=⟨rfl,rfl,hl,rfl⟩
  refine ⟨⟨hE,rfl,rfl⟩,?_⟩
  rcases apY _ hE with ⟨q1,q2⟩ |⟨q1,q2⟩<;>rw [q1]
  ·exact ⟨fun _=>congrArg (fun z=>LV.v (.int .i64 z)) q2,fun h=>by cases h⟩
  ·exact ⟨fun h=>(by cases h),fun _=>congrArg (fun z=>LV.v (.int .i64 z)) q2⟩
 ·cases h)
def ace:List LV→T LV
 | [.v (.int .i64 i),.xq 1 q0,.xq 1 q1]=>(match ([q0 0]:List LV) with
  | [.xl (.pair .bool (.pair (.int .i64) (.pair (.int .i64) (.int .i64)))) d]=>(match ([q1 0]:List LV) with
  | [.v (.int .i64 t)]=> .req (xP d t∧0≤i∧i<(List.length d:Int)) (.ok (.v (.int .i64 (slk d t i))))
  |_=> .no)
  |_=> .no)
 |_=> .no
noncomputable def yZ:List LV→T LV:=gJ Tryz.prog Tryz.f43.params.toList ace
theorem anT (i:Int) (d:List Dm) (t:Int):bT Tryz.prog aS (TG) dY aC Tryz.f43 [.v (.int .i64 i),.xq 1 (fun j=>([.xl pU d]:List LV).getD j .junk),.xq 1 (fun j=>([.v (.int .i64 t)]:List LV).getD j .junk)]=.req (0≤i∧i<(List.length d:Int)) (.req (0≤i∧i<(List.length d:Int)) (.ok (.v (.int .i64 (IntKind.i64.wrap ((IntKind.i64.wrap ((lV d i).2.2.1-t))-(lV d i).2.1)))))):=by kernel_rfl
theorem VA:Valid Tryz.prog aS 43 yZ:=aH Tryz.func43 rfl aaM aF (aY (by kernel_rfl)) (fun args lv h=>by
 unfold ace at h
 split at h
 ·split at h
  case h_2=>cases h
  rename_i heq0
  split at h
  case h_2=>cases h
  rename_i heq1
  simp only [canL,canX]
  rw [o9 (n:=1) heq0]
  simp only [canL,canX]
  rw [o9 (n:=1) heq1]
  simp only [canL,canX]
  rw [anT]
  rename_i i _ _ _ d _ t
  obtain ⟨⟨hw,hi⟩,rfl⟩:=h
  have b:=asT hw hi.1 hi.2
  have ht:=hw.2
  refine ⟨hi,hi,congrArg (fun z=>LV.v (.int .i64 z)) ?_⟩
  unfold slk
  rw [aK (x:=(lV d i).2.2.1-t) (by omega) (by omega),aK (by omega) (by omega)]
 ·cases h)
def aj3:List LV→T LV
 | [.v (.int .i64 a),.v (.int .i64 b),.xq 1 q0,.xq 1 q1]=>(match ([q0 0]:List LV) with
  | [.xl (.pair .bool (.pair (.int .i64) (.pair (.int .i64) (.int .i64)))) d]=>(match ([q1 0]:List LV) with
  | [.fn 43 [.xq 1 q2,.xq 1 q3]]=>(match ([q2 0]:List LV) with
  | [.xl (.pair .bool (.pair (.int .i64) (.pair (.int .i64) (.int .i64)))) e]=>(match ([q3 0]:List LV) with
  | [.v (.int .i64 t)]=> .req (d=e∧xP d t∧(0≤a∧a<(List.length d:Int))∧0≤b∧b<(List.length d:Int)) (.ok (.v (.int .i64 (cmD d t a b))))
  |_=> .no)
  |_=> .no)
  |_=> .no)
  |_=> .no)
 |_=> .no
noncomputable def UB:List LV→T LV:=gJ Tryz.prog Tryz.f45.params.toList aj3
noncomputable def arG:Specs:=bf [(43,yZ),(46,YD),(47,YC)]
theorem aAY:∀g S,arG g=some S→Valid Tryz.prog aS g S:=aT (l:=[(43,yZ),(46,YD),(47,YC)]) ⟨VA,atJ,atI,trivial⟩
theorem awe (a b:Int) (d e:List Dm) (t:Int):bT Tryz.prog aS (arG) dY aC Tryz.f45 [.v (.int .i64 a),.v (.int .i64 b),.xq 1 (fun j=>([.xl pU d]:List LV).getD j .junk),.xq 1 (fun j=>([.fn 43 [.xq 1 (fun j=>([.xl pU e]:List LV).getD j .junk),.xq 1 (fun j=>([.v (.int .i64 t)]:List LV).getD j .junk)]]:List LV).getD j .junk)]=.req (0≤a∧a<(List.length d:Int)) (.req (0≤b∧b<(List.length d:Int)) (.req (xP e t∧0≤a∧a<(List.length e:Int)) (.req (xP e t∧0≤b∧b<(List.length e:Int)) (.req ((List.length ([(cm (lV d a).2.2.2 (lV d b).2.2.2),(cm (slk e t a) (slk e t b)),(cm a b)]):Int)≤1000) (.ok (.v (.int .i64 (orI ([(cm (lV d a).2.2.2 (lV d b).2.2.2),(cm (slk e t a) (slk e t b)),(cm a b)]))))))))):=by kernel_rfl
theorem aqr:Valid Tryz.prog aS 45 UB:=aH Tryz.func45 rfl aAY aF (aY (by kernel_rfl)) (fun args lv h=>by
 unfold aj3 at h
 split at h
 ·split at h
  case h_2=>cases h
  rename_i heq0
  split at h
  case h_2=>cases h
  rename_i heq1
  split at h
  case h_2=>cases h
  rename_i heq2
  split at h
  case h_2=>cases h
  rename_i heq3
  simp only [canL,canX]
  rw [o9 (n:=1) heq0]
  simp only [canL,canX]
  rw [o9 (n:=1) heq1]
  simp only [canL,canX]
  rw [o9 (n:=1) heq2]
  simp only [canL,canX]
  rw [o9 (n:=1) heq3]
  simp only [canL,canX]
  rw [awe]
  rename_i a b _ d _ _ _ _ e _ t
  obtain ⟨⟨rfl,hw,ha,hb⟩,rfl⟩:=h
  exact ⟨ha,hb,⟨hw,ha⟩,⟨hw,hb⟩,by simp,rfl⟩
 ·cases h)
structure qK where
 n:Int
 i:Int
 d:List Dm
 tick:Int
 out:List Int
def aDm (s:qK):List LV:=[.own 0 0,.own 1 0,.os 2 1 0 (List.length s.out),.v (.int .i64 s.n),.v (.int .i64 s.i)]
def aCl (s:qK):List aU:=[⟨[.xl pU s.d],31,.cl,false⟩,⟨[.v (.int .i64 s.tick)],3,.cl,false⟩,⟨[],3,.vec (.int .i64) s.out,false⟩]
noncomputable def Bh:Code:=((aB (Tryz.f19.body.getD .skip))[0]?).getD .skip
def Zl (s:qK):T (Rd qK):=
 .br (decide (s.i<s.n)) (.req (0≤s.i∧s.i<((List.length s.out:Nat):Int)) (.req (s.i.toNat<List.length s.out) (.req (0=0∧(List.length s.out)=List.length (s.out.set s.i.toNat s.i)) (.ok (.next {s with i:=(IntKind.i64.wrap (s.i+1)),out:=(s.out.set s.i.toNat s.i)}))))) (.rl s.out (.ok (.stop (.exit 0) s)))
abbrev ar7 (s:qK):=(Zl s).rd s
def adq (s:qK):Prop:=s.i=0∧s.out=List.replicate s.d.length 0∧s.n=(List.length s.d:Int)∧s.n≤1000∧s.out.length=s.d.length
def MS (s:qK):Prop:=(0≤s.i∧s.i≤s.n)∧s.out=yI s.i.toNat++List.replicate (s.d.length-s.i.toNat) 0∧s.n=(List.length s.d:Int)∧s.n≤1000∧s.out.length=s.d.length
def O0 (s:qK):Nat:=(s.n-s.i).toNat
def akq (x:Ex) (_ s':qK):Prop:=x=.exit 0∧s'.out=yI s'.d.length
theorem aAa:∀s,adq s→MS s:=by
 intro s h
 obtain ⟨h0,h1,h2⟩:=h
 exact ⟨by omega,by rw [h0,h1];rfl,h2⟩
theorem avM (s:qK) (hI:MS s):bJ (fun s'=>MS s'∧O0 s'<O0 s) (fun x s'=>akq x s s') (ar7 s):=by
 unfold ar7 Zl
 dsimp only [T.rd,T.rl]
 obtain ⟨⟨h0,h1⟩,h2,h3,h4,h5⟩:=hI
 refine au (fun c1=>?_) (fun c1=>?_)
 ·have c1:s.i<s.n:=by simpa using c1
  rw [aK (x:=s.i+1) (by omega) (by omega)]
  have e:s.d.length-s.i.toNat=(s.d.length-(s.i+1).toNat)+1:=by omega
  refine ⟨⟨⟨by simp only;omega,by simp only;omega⟩,?_,h3,h4,by simp only [List.length_set];exact h5⟩,by simp only [O0];omega⟩
  simp only
  have hs:=ZM (xs:=yI s.i.toNat) (r:=s.d.length-(s.i+1).toNat) (v:=s.i)
  rw [ql] at hs
  rw [h2,e,hs,show (s.i+1).toNat=s.i.toNat+1 by omega,adP,Int.toNat_of_nonneg h0]
 ·have c1:s.n≤s.i:=by simpa using c1
  refine ⟨rfl,?_⟩
  rw [h2,show s.i.toNat=s.d.length by omega]
  simp
def ES:bK qK:=⟨0,26,[2,3,5,12,13],[],aDm,aCl,fun v b=>⟨gI (v.getD 3 .junk),gI (v.getD 4 .junk),aQ pU (aX (aO b 0) 0),gI (aX (aO b 1) 0),iT (.int .i64) (aO b 2)⟩,Zl,fun s r=> {r with n:=s.n,d:=s.d,tick:=s.tick},fun s=>s,fun _ s=>s,[.exit 0],adq,MS,O0⟩
abbrev jS:=ES.run
abbrev apr:=ES.jG
abbrev ayd:=ES.q
theorem auR (s:qK) (hI:MS s):(Zl s).all (fun _=>True):=by
 refine ⟨fun c1=>⟨?_,?_,?_,trivial⟩,fun c1=>⟨⟨rfl,rfl⟩,trivial⟩⟩
 all_goals ((obtain ⟨⟨h0,h1⟩,h2,h3,h4,h5⟩:=hI;simp only [decide_eq_true_eq] at c1;first|omega|exact ⟨rfl,by simp⟩))
noncomputable def vZ:Specs:=bf [(43,yZ),(45,UB)]
theorem yj:∀g S,vZ g=some S→Valid Tryz.prog aS g S:=aT (l:=[(43,yZ),(45,UB)]) ⟨VA,aqr,trivial⟩
noncomputable def Tz:Hand:=inl Tryz.prog aS vZ (lX Tryz.prog aS (vZ) 20 2) 9
theorem aaE:dL Tryz.prog aS Tz:=bQ yj (dQ yj) 9
theorem ahc:ES.Ok:=⟨fun s=>by kernel_rfl,fun s=>by kernel_rfl,fun s=>rfl,fun s t r=>rfl,fun s=>rfl,fun s=>by kernel_rfl⟩
theorem af6:ES.Pf (akq):=⟨aAa,fun _ _=>rfl,avM,auR⟩
theorem amf:bn Tryz.prog aS (AN 0) (.loop Bh) ES.lp:=bK.snd ahc af6 (aP (Γ:=vZ) (K:=Tz) (L:=aC) yj aaE Bh (fun b hb=>by rw [show aB Bh=[] by kernel_rfl] at hb;cases hb)) (fun s=>by kernel_rfl)
theorem ant (s:qK) (hE:adq s):∃s',MS s'∧akq (apr s) s' (jS s):=bK.fin ahc af6 s hE
structure mX where
 a:Int
 b:Int
 i:Int
 j:Int
 b0:List Dm
 b1:Int
 data:List Int
def aDz (s:mX):List LV:=[.os 2 1 0 (List.length s.data),.v (.int .i64 s.a),.v (.int .i64 s.b),.fn 45 [.own 0 0,.own 3 0],.v (.int .i64 s.i),.v (.int .i64 s.j)]
def aCy (s:mX):List aU:=[⟨[.xl pU s.b0],31,.cl,false⟩,⟨[.v (.int .i64 s.b1)],3,.cl,false⟩,⟨[],3,.vec (.int .i64) s.data,false⟩,⟨[.fn 43 [.own 0 0,.own 1 0]],84,.cl,false⟩]
noncomputable def Je:Code:=((aB (((aB (Tryz.f120.body.getD .skip))[0]?).getD .skip))[0]?).getD .skip
def RG (s:mX):T (Rd mX):=
 .br (decide (s.j>s.a)) (.req (0≤s.j∧s.j<((List.length s.data:Nat):Int)) (.req (s.j.toNat<List.length s.data) (.req (0≤(IntKind.i64.wrap (s.j-1))∧(IntKind.i64.wrap (s.j-1))<((List.length s.data:Nat):Int)) (.req ((IntKind.i64.wrap (s.j-1)).toNat<List.length s.data) (.req (s.b0=s.b0∧xP s.b0 s.b1∧(0≤(s.data.getD s.j.toNat (Ty.dflt (.int .i64)))∧(s.data.getD s.j.toNat (Ty.dflt (.int .i64)))<(List.length s.b0:Int))∧0≤(s.data.getD (IntKind.i64.wrap (s.j-1)).toNat (Ty.dflt (.int .i64)))∧(s.data.getD (IntKind.i64.wrap (s.j-1)).toNat (Ty.dflt (.int .i64)))<(List.length s.b0:Int)) (.br (decide ((cmD s.b0 s.b1 (s.data.getD s.j.toNat (Ty.dflt (.int .i64))) (s.data.getD (IntKind.i64.wrap (s.j-1)).toNat (Ty.dflt (.int .i64))))<0)) (.req (0≤(IntKind.i64.wrap (s.j-1))∧(IntKind.i64.wrap (s.j-1))<((List.length s.data:Nat):Int)) (.req (0≤s.j∧s.j<((List.length s.data:Nat):Int)) (.req ((IntKind.i64.wrap (s.j-1)).toNat<List.length s.data) (.req (s.j.toNat<List.length s.data) (.req (0≤s.j∧s.j<((List.length s.data:Nat):Int)) (.req (s.j.toNat<List.length s.data) (.req (0≤(IntKind.i64.wrap (s.j-1))∧(IntKind.i64.wrap (s.j-1))<((List.length s.data:Nat):Int)) (.req ((IntKind.i64.wrap (s.j-1)).toNat<List.length (s.data.set s.j.toNat (s.data.getD (IntKind.i64.wrap (s.j-1)).toNat (Ty.dflt (.int .i64))))) (.req (0=0∧(List.length s.data)=List.length ((s.data.set s.j.toNat (s.data.getD (IntKind.i64.wrap (s.j-1)).toNat (Ty.dflt (.int .i64)))).set (IntKind.i64.wrap (s.j-1)).toNat (s.data.getD s.j.toNat (Ty.dflt (.int .i64))))) (.ok (.next {s with j:=(IntKind.i64.wrap (s.j-1)),data:=((s.data.set s.j.toNat (s.data.getD (IntKind.i64.wrap (s.j-1)).toNat (Ty.dflt (.int .i64)))).set (IntKind.i64.wrap (s.j-1)).toNat (s.data.getD s.j.toNat (Ty.dflt (.int .i64))))}))))))))))) (.rl s.data (.ok (.stop (.exit 2) s))))))))) (.rl s.data (.ok (.stop (.exit 2) s)))
abbrev abh (s:mX):=(RG s).rd s
def adv (s:mX):Prop:=s.a=0∧(0≤s.j∧s.j<(List.length s.data:Int))∧(s.data.length=s.b0.length∧(List.length s.data:Int)≤1000)∧(∀x∈s.data,0≤x∧x<(List.length s.b0:Int))∧xP s.b0 s.b1
def U2 (s:mX):Prop:=s.a=0∧(0≤s.j∧s.j<(List.length s.data:Int))∧(s.data.length=s.b0.length∧(List.length s.data:Int)≤1000)∧(∀x∈s.data,0≤x∧x<(List.length s.b0:Int))∧xP s.b0 s.b1
def O9 (s:mX):Nat:=s.j.toNat
def asH (x:Ex) (_ _:mX):Prop:=x=.exit 2
theorem aAw:∀s,adv s→U2 s:=by
 exact fun s h=>h
theorem awv (s:mX) (hI:U2 s):bJ (fun s'=>U2 s'∧O9 s'<O9 s) (fun x s'=>asH x s s') (abh s):=by
 unfold abh RG
 dsimp only [T.rd,T.rl]
 obtain ⟨h0,⟨h1,h2⟩,⟨h3,h3'⟩,h4,h5⟩:=hI
 refine au (fun c1=>?_) (fun c1=>rfl)
 have c1:s.a<s.j:=by simpa using c1
 rw [aK (x:=s.j-1) (by omega) (by omega)]
 refine au (fun c2=>?_) (fun c2=>rfl)
 have g0:=fun (k:Nat) (hk:k<s.data.length)=>h4 (s.data.getD k 0) (by simp [List.getD,hk])
 have hm:∀x∈(s.data.set s.j.toNat (s.data.getD (s.j-1).toNat 0)).set (s.j-1).toNat (s.data.getD s.j.toNat 0),0≤x∧x<(List.length s.b0:Int):=fun x hx=>by
  rcases List.mem_or_eq_of_mem_set hx with hx|e
  ·rcases List.mem_or_eq_of_mem_set hx with hx|e
   ·exact h4 x hx
   ·rw [e];exact g0 _ (by omega)
  ·rw [e];exact g0 _ (by omega)
 exact ⟨⟨h0,⟨by simp only;omega,by simp only [List.length_set];omega⟩,⟨by simp only [List.length_set];exact h3,by simp only [List.length_set];exact h3'⟩,hm,h5⟩,by simp only [O9];omega⟩
def JY:bK mX:=⟨4,53,[0,1,2,3,8,9],[],aDz,aCy,fun v b=>⟨gI (v.getD 1 .junk),gI (v.getD 2 .junk),gI (v.getD 4 .junk),gI (v.getD 5 .junk),aQ pU (aX (aO b 0) 0),gI (aX (aO b 1) 0),iT (.int .i64) (aO b 2)⟩,RG,fun s r=> {r with a:=s.a,b:=s.b,i:=s.i,b0:=s.b0,b1:=s.b1},fun s=>s,fun _ s=>s,[.exit 2],adv,U2,O9⟩
abbrev zD:=JY.run
abbrev apB:=JY.jG
abbrev ayp:=JY.q
theorem au4 (s:mX) (hI:U2 s):(RG s).all (fun _=>True):=by
 refine ⟨fun c1=>⟨?_,?_,?_,?_,?_,fun c2=>⟨?_,?_,?_,?_,?_,?_,?_,?_,?_,trivial⟩,fun c2=>⟨⟨rfl,rfl⟩,trivial⟩⟩,fun c1=>⟨⟨rfl,rfl⟩,trivial⟩⟩
 all_goals ((obtain ⟨h0,⟨h1,h2⟩,⟨h3,h3'⟩,h4,h5⟩:=hI;simp only [decide_eq_true_eq,gt_iff_lt] at c1;(try rw [aK (x:=s.j-1) (by omega) (by omega)]);have g0:∀k:Nat,k<s.data.length→0≤s.data.getD k (Ty.dflt (.int .i64))∧s.data.getD k (Ty.dflt (.int .i64))<(List.length s.b0:Int):=(fun k hk=>h4 _ (by simp [List.getD,hk]));first|omega|exact ⟨rfl,h5,g0 _ (by omega),g0 _ (by omega)⟩ |(simp only [List.length_set];omega) |exact ⟨rfl,by simp⟩))
theorem ahh:JY.Ok:=⟨fun s=>by kernel_rfl,fun s=>by kernel_rfl,fun s=>rfl,fun s t r=>rfl,fun s=>rfl,fun s=>by kernel_rfl⟩
theorem agb:JY.Pf (asH):=⟨aAw,fun _ _=>rfl,awv,au4⟩
theorem ams:bn Tryz.prog aS (AN 4) (.loop Je) JY.lp:=bK.snd ahh agb (bF (Γ:=vZ) (K:=Tz) (L:=(tN Tryz.prog aS vZ Tz 20 2)) yj aaE Je (fun b _=>dR yj aaE 20 2 b)) (fun s=>by kernel_rfl)
theorem aax (s:mX) (hE:adv s):(fun (x:Ex) (s':mX) (v:List Int)=>x=.exit 2∧s'.data=v) (apB s) (zD s) ((fun s:mX=>bub (ltD s.b0 s.b1) s.j.toNat s.data) s):=by
 exact bK.wu ahh agb (fun s:mX=>bub (ltD s.b0 s.b1) s.j.toNat s.data) (fun x s' v=>x=.exit 2∧s'.data=v) (fun s hI=>by
  show bJ _ _ (abh s)
  unfold abh RG
  dsimp only [T.rd,T.rl]
  obtain ⟨h0,⟨h1,h2⟩,⟨h3,h3'⟩,h4,h5⟩:=hI
  refine au (fun c1=>?_) (fun c1=>?_)
  ·have c1:s.a<s.j:=by simpa using c1
   rw [aK (x:=s.j-1) (by omega) (by omega)]
   have e:s.j.toNat=(s.j-1).toNat+1:=by omega
   refine au (fun c2=>?_) (fun c2=>?_)
   ·show bub _ _ _=bub _ _ _
    simp only
    rw [e,bub,if_pos (by unfold ltD;rw [e] at c2;exact c2)]
    rfl
   ·refine ⟨rfl,?_⟩
    rw [e] at c2
    rw [e,bub,if_neg (fun hh=>absurd ((show true=_ from hh.symm).trans c2) (by decide))]
  ·have c1:s.j≤s.a:=by simpa using c1
   refine ⟨rfl,?_⟩
   rw [show s.j.toNat=0 by omega]
   rfl) s hE
structure jZ where
 a:Int
 b:Int
 i:Int
 b0:List Dm
 b1:Int
 data:List Int
def aDA (s:jZ):List LV:=[.os 2 1 0 (List.length s.data),.v (.int .i64 s.a),.v (.int .i64 s.b),.fn 45 [.own 0 0,.own 3 0],.v (.int .i64 s.i)]
def aCz (s:jZ):List aU:=[⟨[.xl pU s.b0],31,.cl,false⟩,⟨[.v (.int .i64 s.b1)],3,.cl,false⟩,⟨[],3,.vec (.int .i64) s.data,false⟩,⟨[.fn 43 [.own 0 0,.own 1 0]],84,.cl,false⟩]
noncomputable def Uk:Code:=((aB (Tryz.f120.body.getD .skip))[0]?).getD .skip
def RH (s:jZ):T (Rd jZ):=
 .br (decide (s.i<s.b)) (.rl s.data (.req (ayp (⟨s.a,s.b,s.i,s.i,s.b0,s.b1,s.data⟩:mX)) (.rl (zD (⟨s.a,s.b,s.i,s.i,s.b0,s.b1,s.data⟩:mX)).data (.ok (.next {s with i:=(IntKind.i64.wrap (s.i+1)),data:=(zD (⟨s.a,s.b,s.i,s.i,s.b0,s.b1,s.data⟩:mX)).data}))))) (.rl s.data (.ok (.stop (.exit 0) s)))
abbrev abj (s:jZ):=(RH s).rd s
def adw (s:jZ):Prop:=s.i=1∧(s.a=0∧s.b=(List.length s.data:Int))∧(s.data.length=s.b0.length∧(List.length s.data:Int)≤1000)∧(∀x∈s.data,0≤x∧x<(List.length s.b0:Int))∧xP s.b0 s.b1
def Nl (s:jZ):Prop:=1≤s.i∧(s.a=0∧s.b=(List.length s.data:Int))∧(s.data.length=s.b0.length∧(List.length s.data:Int)≤1000)∧(∀x∈s.data,0≤x∧x<(List.length s.b0:Int))∧xP s.b0 s.b1
def Pg (s:jZ):Nat:=(s.b-s.i).toNat
def asI (x:Ex) (_ _:jZ):Prop:=x=.exit 0
theorem aAx:∀s,adw s→Nl s:=by
 intro s h
 obtain ⟨h0,h1⟩:=h
 exact ⟨by omega,h1⟩
theorem Xe (s:jZ) (hI:Nl s) (c1:s.i<s.b):adv ⟨s.a,s.b,s.i,s.i,s.b0,s.b1,s.data⟩:=by
 obtain ⟨h0,⟨h1,h2⟩,h3⟩:=hI
 exact ⟨h1,⟨by simp only;omega,by simp only;omega⟩,h3⟩
theorem aww (s:jZ) (hI:Nl s):bJ (fun s'=>Nl s'∧Pg s'<Pg s) (fun x s'=>asI x s s') (abj s):=by
 unfold abj RH
 dsimp only [T.rd,T.rl]
 have hin:=fun c1=>Xe s hI c1
 obtain ⟨h0,⟨h1,h2⟩,⟨h3,h3'⟩,h4,h5⟩:=hI
 refine au (fun c1=>?_) (fun c1=>rfl)
 have c1:s.i<s.b:=by simpa using c1
 obtain ⟨q1,q2⟩:=aax _ (hin c1)
 have q2:(zD ⟨s.a,s.b,s.i,s.i,s.b0,s.b1,s.data⟩).data=bub (ltD s.b0 s.b1) s.i.toNat s.data:=q2
 have hp:=ajq (lt:=ltD s.b0 s.b1) (j:=s.i.toNat) (l:=s.data) (by omega)
 rw [aK (x:=s.i+1) (by omega) (by omega),q2]
 exact ⟨⟨by simp only;omega,⟨h1,by simp only [hp.length_eq];exact h2⟩,⟨by simp only [hp.length_eq];exact h3,by simp only [hp.length_eq];exact h3'⟩,fun x hx=>h4 x (hp.subset hx),h5⟩,by simp only [Pg];omega⟩
def CG:bK jZ:=⟨4,53,[0,1,2,3,8],[],aDA,aCz,fun v b=>⟨gI (v.getD 1 .junk),gI (v.getD 2 .junk),gI (v.getD 4 .junk),aQ pU (aX (aO b 0) 0),gI (aX (aO b 1) 0),iT (.int .i64) (aO b 2)⟩,RH,fun s r=> {r with a:=s.a,b:=s.b,b0:=s.b0,b1:=s.b1},fun s=>s,fun _ s=>s,[.exit 0],adw,Nl,Pg⟩
abbrev pW:=CG.run
abbrev apC:=CG.jG
abbrev ala:=CG.q
theorem au5 (s:jZ) (hI:Nl s):(RH s).all (fun _=>True):=by
 refine ⟨fun c1=>⟨⟨rfl,rfl⟩,?_,⟨rfl,rfl⟩,trivial⟩,fun c1=>⟨⟨rfl,rfl⟩,trivial⟩⟩
 ·exact ⟨Xe s hI (by simpa using c1),rfl,rfl⟩
theorem ahi:CG.Ok:=⟨fun s=>by kernel_rfl,fun s=>by kernel_rfl,fun s=>rfl,fun s t r=>rfl,fun s=>rfl,fun s=>by kernel_rfl⟩
theorem agc:CG.Pf (asI):=⟨aAx,fun _ _=>rfl,aww,au5⟩
theorem N8:bn Tryz.prog aS (AN 4) (.loop Uk) CG.lp:=bK.snd ahi agc (bF (Γ:=vZ) (K:=Tz) (L:=(aer (fun i=>if i=4 then JY.lp else aC i))) yj aaE Uk (fun b hb=>by
 rw [show aB _=[Je] by kernel_rfl] at hb
 simp only [List.mem_cons,List.not_mem_nil,or_false] at hb
 subst hb
 exact ams)) (fun s=>by kernel_rfl)
theorem aoW (s:jZ) (hE:adw s):(fun (x:Ex) (s':jZ) (v:List Int)=>x=.exit 0∧s'.data=v) (apC s) (pW s) ((fun s:jZ=>uP (ltD s.b0 s.b1) s.data s.i.toNat) s):=by
 exact bK.wu ahi agc (fun s:jZ=>uP (ltD s.b0 s.b1) s.data s.i.toNat) (fun x s' v=>x=.exit 0∧s'.data=v) (fun s hI=>by
  show bJ _ _ (abj s)
  unfold abj RH
  dsimp only [T.rd,T.rl]
  have hin:=fun c1=>Xe s hI c1
  obtain ⟨h0,⟨h1,h2⟩,⟨h3,h3'⟩,h4,h5⟩:=hI
  refine au (fun c1=>?_) (fun c1=>?_)
  ·have c1:s.i<s.b:=by simpa using c1
   obtain ⟨q1,q2⟩:=aax _ (hin c1)
   have q2:(zD ⟨s.a,s.b,s.i,s.i,s.b0,s.b1,s.data⟩).data=bub (ltD s.b0 s.b1) s.i.toNat s.data:=q2
   rw [aK (x:=s.i+1) (by omega) (by omega)]
   show uP _ _ _=uP _ _ _
   simp only
   rw [q2,show (s.i+1).toNat=s.i.toNat+1 by omega,VR (by omega)]
  ·have c1:s.b≤s.i:=by simpa using c1
   exact ⟨rfl,(adR (by omega)).symm⟩) s hE
structure nI where
 n:Int
 dh:Int
 a:Int
 b:Int
 b0:List Dm
 b1:Int
 data:List Int
def aCZ (s:nI):List LV:=[.os 2 1 0 (List.length s.data),.v (.int .i64 s.n),.fn 45 [.own 0 0,.own 3 0],.v (.int .i64 s.dh),.v (.int .i64 s.a),.v (.int .i64 s.b)]
def aBY (s:nI):List aU:=[⟨[.xl pU s.b0],31,.cl,false⟩,⟨[.v (.int .i64 s.b1)],3,.cl,false⟩,⟨[],3,.vec (.int .i64) s.data,false⟩,⟨[.fn 43 [.own 0 0,.own 1 0]],84,.cl,false⟩]
noncomputable def Ug:Code:=((aB (Tryz.f84.body.getD .skip))[0]?).getD .skip
def QZ (s:nI):T (Rd nI):=
 .br (decide (s.b≤s.n)) (.rl s.data (.req (ala (⟨s.a,s.b,(IntKind.i64.wrap (s.a+1)),s.b0,s.b1,s.data⟩:jZ)) (.req (0=0∧(List.length s.data)=List.length (pW (⟨s.a,s.b,(IntKind.i64.wrap (s.a+1)),s.b0,s.b1,s.data⟩:jZ)).data) (.ok (.next {s with a:=s.b,b:=(IntKind.i64.wrap (s.b+s.dh)),data:=(pW (⟨s.a,s.b,(IntKind.i64.wrap (s.a+1)),s.b0,s.b1,s.data⟩:jZ)).data}))))) (.rl s.data (.ok (.stop (.exit 0) s)))
abbrev aaY (s:nI):=(QZ s).rd s
def adk (s:nI):Prop:=s.b=20∧s.n<20
def MC (s:nI):Prop:=s.b=20∧s.n<20
def WM (_:nI):Nat:=0
def asy (x:Ex) (_ _:nI):Prop:=x=.exit 0
theorem azk:∀s,adk s→MC s:=by
 exact fun s h=>h
theorem atV (s:nI) (hI:MC s):bJ (fun s'=>MC s'∧WM s'<WM s) (fun x s'=>asy x s s') (aaY s):=by
 unfold aaY QZ
 dsimp only [T.rd,T.rl]
 obtain ⟨h0,h1⟩:=hI
 refine au (fun c1=>absurd (show s.b≤s.n by simpa using c1) (by omega)) (fun c1=>rfl)
def Eu:bK nI:=⟨4,63,[0,1,2,6,7,8],[],aCZ,aBY,fun v b=>⟨gI (v.getD 1 .junk),gI (v.getD 3 .junk),gI (v.getD 4 .junk),gI (v.getD 5 .junk),aQ pU (aX (aO b 0) 0),gI (aX (aO b 1) 0),iT (.int .i64) (aO b 2)⟩,QZ,fun s r=> {r with n:=s.n,dh:=s.dh,b0:=s.b0,b1:=s.b1},fun s=>s,fun _ s=>s,[.exit 0],adk,MC,WM⟩
abbrev iZ:=Eu.run
abbrev apd:=Eu.jG
abbrev axR:=Eu.q
noncomputable def aiv:Hand:=inl Tryz.prog aS vZ (kD 120 4 1 (CG.lp) (lX Tryz.prog aS (vZ) 20 2)) 9
theorem aqV:dL Tryz.prog aS aiv:=bQ yj (dK Tryz.func120 rfl (by kernel_rfl) N8 (dQ yj)) 9
theorem aut (s:nI) (hI:MC s):(QZ s).all (fun _=>True):=by
 refine ⟨fun c1=>⟨⟨rfl,rfl⟩,?_,?_,trivial⟩,fun c1=>⟨⟨rfl,rfl⟩,trivial⟩⟩
 all_goals ((simp only [decide_eq_true_eq] at c1;exact absurd c1 (by have:=hI;unfold MC at this;omega)))
theorem agQ:Eu.Ok:=⟨fun s=>by kernel_rfl,fun s=>by kernel_rfl,fun s=>rfl,fun s t r=>rfl,fun s=>rfl,fun s=>by kernel_rfl⟩
theorem afI:Eu.Pf (asy):=⟨azk,fun _ _=>rfl,atV,aut⟩
theorem ZH:bn Tryz.prog aS (AN 4) (.loop Ug) Eu.lp:=bK.snd agQ afI (bF (Γ:=vZ) (K:=aiv) (L:=(tN Tryz.prog aS vZ aiv 20 2)) yj aqV Ug (fun b _=>dR yj aqV 20 2 b)) (fun s=>by kernel_rfl)
theorem alI (s:nI) (hE:adk s):(fun (x:Ex) (s':nI) (v:List Int×Int)=>x=.exit 0∧(s'.data,s'.a)=v) (apd s) (iZ s) ((fun s:nI=>(s.data,s.a)) s):=by
 exact bK.wu agQ afI (fun s:nI=>(s.data,s.a)) (fun x s' v=>x=.exit 0∧(s'.data,s'.a)=v) (fun s hI=>by
  show bJ _ _ (aaY s)
  unfold aaY QZ
  dsimp only [T.rd,T.rl]
  obtain ⟨h0,h1⟩:=hI
  exact au (fun c1=>absurd (show s.b≤s.n by simpa using c1) (by omega)) (fun c1=>⟨rfl,rfl⟩)) s hE
def X0:List LV→T LV:=fun _=> .req False (.ok (.v undef))
theorem as5:Valid Tryz.prog aS 121 X0:=by
 intro _ _ _ _ _ _ _ _ _ h
 exact h.1.elim
structure rP where
 n:Int
 dh:Int
 a:Int
 b:Int
 b0:List Dm
 b1:Int
 data:List Int
def aCX (s:rP):List LV:=[.os 2 1 0 (List.length s.data),.v (.int .i64 s.n),.fn 45 [.own 0 0,.own 3 0],.v (.int .i64 s.dh),.v (.int .i64 s.a),.v (.int .i64 s.b)]
def aBW (s:rP):List aU:=[⟨[.xl pU s.b0],31,.cl,false⟩,⟨[.v (.int .i64 s.b1)],3,.cl,false⟩,⟨[],3,.vec (.int .i64) s.data,false⟩,⟨[.fn 43 [.own 0 0,.own 1 0]],84,.cl,false⟩]
noncomputable def Ja:Code:=((aB (((aB (Tryz.f84.body.getD .skip))[1]?).getD .skip))[0]?).getD .skip
def Y6 (s:rP):T (Rd rP):=
 .br (decide (s.b≤s.n)) (.req (0+(List.length s.data)≤List.length s.data) (.req False (.rl s.data (.ok (.next {s with a:=s.b,b:=(IntKind.i64.wrap (s.b+(IntKind.i64.wrap (2*s.dh))))}))))) (.rl s.data (.ok (.stop (.exit 4) s)))
abbrev arR (s:rP):=(Y6 s).rd s
def asN (_:rP):Prop:=False
def UU (_:rP):Prop:=False
def WJ (_:rP):Nat:=0
def asw (_:Ex) (_ _:rP):Prop:=True
theorem azi:∀s,asN s→UU s:=by
 exact fun s h=>h
theorem atT (s:rP) (hI:UU s):bJ (fun s'=>UU s'∧WJ s'<WJ s) (fun x s'=>asw x s s') (arR s):=by
 unfold arR Y6
 dsimp only [T.rd,T.rl]
 exact hI.elim
def NJ:bK rP:=⟨4,63,[0,1,2,6,7,8],[],aCX,aBW,fun v b=>⟨gI (v.getD 1 .junk),gI (v.getD 3 .junk),gI (v.getD 4 .junk),gI (v.getD 5 .junk),aQ pU (aX (aO b 0) 0),gI (aX (aO b 1) 0),iT (.int .i64) (aO b 2)⟩,Y6,fun s r=> {r with n:=s.n,dh:=s.dh,b0:=s.b0,b1:=s.b1,data:=s.data},fun s=>s,fun _ s=>s,[.exit 4],asN,UU,WJ⟩
abbrev amY:=NJ.run
abbrev axP:=NJ.q
noncomputable def zZ:Specs:=bf [(43,yZ),(45,UB),(121,X0)]
theorem D5:∀g S,zZ g=some S→Valid Tryz.prog aS g S:=aT (l:=[(43,yZ),(45,UB),(121,X0)]) ⟨VA,aqr,as5,trivial⟩
noncomputable def aaG:Hand:=inl Tryz.prog aS zZ (kD 84 4 2 (Eu.lp) (kD 120 4 1 (CG.lp) (lX Tryz.prog aS (zZ) 20 2))) 9
theorem aio:dL Tryz.prog aS aaG:=bQ D5 (dK Tryz.func84 rfl (by kernel_rfl) ZH (dK Tryz.func120 rfl (by kernel_rfl) N8 (dQ D5))) 9
theorem aur (s:rP) (hI:UU s):(Y6 s).all (fun _=>True):=by
 refine ⟨fun c1=>⟨?_,?_,⟨rfl,rfl⟩,trivial⟩,fun c1=>⟨⟨rfl,rfl⟩,trivial⟩⟩
 all_goals (exact hI.elim)
theorem avK:NJ.Ok:=⟨fun s=>by kernel_rfl,fun s=>by kernel_rfl,fun s=>rfl,fun s t r=>rfl,fun s=>rfl,fun s=>by kernel_rfl⟩
theorem avF:NJ.Pf (asw):=⟨azi,fun _ _=>rfl,atT,aur⟩
theorem alR:bn Tryz.prog aS (AN 4) (.loop Ja) NJ.lp:=bK.snd avK avF (bF (Γ:=zZ) (K:=aaG) (L:=(tN Tryz.prog aS zZ aaG 20 2)) D5 aio Ja (fun b _=>dR D5 aio 20 2 b)) (fun s=>by kernel_rfl)
structure rQ where
 n:Int
 dh:Int
 b0:List Dm
 b1:Int
 data:List Int
def aCY (s:rQ):List LV:=[.os 2 1 0 (List.length s.data),.v (.int .i64 s.n),.fn 45 [.own 0 0,.own 3 0],.v (.int .i64 s.dh)]
def aBX (s:rQ):List aU:=[⟨[.xl pU s.b0],31,.cl,false⟩,⟨[.v (.int .i64 s.b1)],3,.cl,false⟩,⟨[],3,.vec (.int .i64) s.data,false⟩,⟨[.fn 43 [.own 0 0,.own 1 0]],84,.cl,false⟩]
noncomputable def Uf:Code:=((aB (Tryz.f84.body.getD .skip))[1]?).getD .skip
def Y7 (s:rQ):T (Rd rQ):=
 .br (decide (s.dh<s.n)) (.rl s.data (.req (axP (⟨s.n,s.dh,(0:Int),(IntKind.i64.wrap (2*s.dh)),s.b0,s.b1,s.data⟩:rP)) (.br (decide ((IntKind.i64.wrap ((amY (⟨s.n,s.dh,(0:Int),(IntKind.i64.wrap (2*s.dh)),s.b0,s.b1,s.data⟩:rP)).a+s.dh))<s.n)) (.req (0+(List.length s.data)≤List.length s.data) (.req False (.rl s.data (.ok (.next {s with dh:=(IntKind.i64.wrap (s.dh*2))}))))) (.rl s.data (.ok (.next {s with dh:=(IntKind.i64.wrap (s.dh*2))})))))) (.rl s.data (.ok (.stop (.exit 2) s)))
abbrev arS (s:rQ):=(Y7 s).rd s
def akT (s:rQ):Prop:=s.dh=20∧s.n<20
def MB (s:rQ):Prop:=s.dh=20∧s.n<20
def WL (_:rQ):Nat:=0
def asx (x:Ex) (_ _:rQ):Prop:=x=.exit 2
theorem azj:∀s,akT s→MB s:=by
 exact fun s h=>h
theorem atU (s:rQ) (hI:MB s):bJ (fun s'=>MB s'∧WL s'<WL s) (fun x s'=>asx x s s') (arS s):=by
 unfold arS Y7
 dsimp only [T.rd,T.rl]
 obtain ⟨h0,h1⟩:=hI
 refine au (fun c1=>absurd (show s.dh<s.n by simpa using c1) (by omega)) (fun c1=>rfl)
def Vm:bK rQ:=⟨4,63,[0,1,2,6],[],aCY,aBX,fun v b=>⟨gI (v.getD 1 .junk),gI (v.getD 3 .junk),aQ pU (aX (aO b 0) 0),gI (aX (aO b 1) 0),iT (.int .i64) (aO b 2)⟩,Y7,fun s r=> {r with n:=s.n,b0:=s.b0,b1:=s.b1,data:=s.data},fun s=>s,fun _ s=>s,[.exit 2],akT,MB,WL⟩
abbrev axQ:=Vm.q
theorem aus (s:rQ) (hI:MB s):(Y7 s).all (fun _=>True):=by
 refine ⟨fun c1=>⟨⟨rfl,rfl⟩,?_,fun c2=>⟨?_,?_,⟨rfl,rfl⟩,trivial⟩,fun c2=>⟨⟨rfl,rfl⟩,trivial⟩⟩,fun c1=>⟨⟨rfl,rfl⟩,trivial⟩⟩
 all_goals ((simp only [decide_eq_true_eq] at c1;exact absurd c1 (by have:=hI;unfold MB at this;omega)))
theorem avL:Vm.Ok:=⟨fun s=>by kernel_rfl,fun s=>by kernel_rfl,fun s=>rfl,fun s t r=>rfl,fun s=>rfl,fun s=>by kernel_rfl⟩
theorem avG:Vm.Pf (asx):=⟨azj,fun _ _=>rfl,atU,aus⟩
theorem alS:bn Tryz.prog aS (AN 4) (.loop Uf) Vm.lp:=bK.snd avL avG (bF (Γ:=zZ) (K:=aaG) (L:=(aer (fun i=>if i=9 then NJ.lp else aC i))) D5 aio Uf (fun b hb=>by
 rw [show aB _=[Ja] by kernel_rfl] at hb
 simp only [List.mem_cons,List.not_mem_nil,or_false] at hb
 subst hb
 exact alR)) (fun s=>by kernel_rfl)
def acE:List LV→T LV
 | [.xl (.pair .bool (.pair (.int .i64) (.pair (.int .i64) (.int .i64)))) d,.v (.int .i64 t)]=> .req (xP d t∧d.length≤19) (.ok (.xl (.int .i64) (jF d t)))
 |_=> .no
noncomputable def y7:List LV→T LV:=gJ Tryz.prog Tryz.f19.params.toList acE
def ig (d:List Dm) (t:Int):qK:=(⟨(((List.length d:Int).toNat:Nat):Int),(0:Int),d,t,(List.replicate (List.length d:Int).toNat (0:Int))⟩:qK)
def gu (d:List Dm) (t:Int):nI:=(⟨((List.length (jS (ig d t)).out:Nat):Int),(20:Int),(0:Int),(20:Int),d,t,(jS (ig d t)).out⟩:nI)
def oC (d:List Dm) (t:Int):jZ:=(⟨(iZ (gu d t)).a,((List.length (jS (ig d t)).out:Nat):Int),(IntKind.i64.wrap ((iZ (gu d t)).a+1)),d,t,(iZ (gu d t)).data⟩:jZ)
def RV (d:List Dm) (t:Int):rQ:=(⟨((List.length (jS (ig d t)).out:Nat):Int),(20:Int),d,t,(pW (oC d t)).data⟩:rQ)
noncomputable def aq6:Hand:=inl Tryz.prog aS zZ (kD 84 4 7 (Vm.lp) (kD 84 4 2 (Eu.lp) (kD 120 4 1 (CG.lp) (lX Tryz.prog aS (zZ) 20 2)))) 9
theorem aAF:dL Tryz.prog aS aq6:=bQ D5 (dK Tryz.func84 rfl (by kernel_rfl) alS (dK Tryz.func84 rfl (by kernel_rfl) ZH (dK Tryz.func120 rfl (by kernel_rfl) N8 (dQ D5)))) 9
theorem aoe (d:List Dm) (t:Int):bT Tryz.prog aS (zZ) aq6 (fun i=>if i=3 then ES.lp else aC i) Tryz.f19 [.xl pU d,.v (.int .i64 t)]=.req (0≤(List.length d:Int)∧(List.length d:Int)≤(List.length d:Int)∧8*(List.length d:Int)≤2^48∧(List.length d:Int)<2^63) (.req (0=0∧(List.length d:Int).toNat=List.length (List.replicate (List.length d:Int).toNat (0:Int))) (.req (ayd (ig d t)) (.rl (jS (ig d t)).out (.req (axR (gu d t)) (.rl (iZ (gu d t)).data (.req (ala (oC d t)) (.req (0=0∧(List.length (iZ (gu d t)).data)=List.length (pW (oC d t)).data) (.req (axQ (RV d t)) (.req (0+(List.length (jS (ig d t)).out)≤List.length (pW (oC d t)).data) (.ok (.xl (.int .i64) (((pW (oC d t)).data.drop 0).take (List.length (jS (ig d t)).out))))))))))))):=by kernel_rfl
theorem VD:Valid Tryz.prog aS 19 y7:=aH Tryz.func19 rfl D5 aAF (L:=(fun i=>if i=3 then ES.lp else aC i)) (fun b hb=>by
 rw [show aB _=[Bh] by kernel_rfl] at hb
 simp only [List.mem_cons,List.not_mem_nil,or_false] at hb
 subst hb
 exact amf) (fun args lv h=>by
 unfold acE at h
 split at h
 ·simp only [canL,canX]
  rw [aoe]
  rename_i d t
  obtain ⟨⟨hw,hd⟩,rfl⟩:=h
  have hE:adq (ig d t):=⟨rfl,by show List.replicate (List.length d:Int).toNat (0:Int)=List.replicate d.length 0;rw [Int.toNat_natCast],by show (((List.length d:Int).toNat:Nat):Int)=(List.length d:Int);omega,by show (((List.length d:Int).toNat:Nat):Int)≤1000;omega,by show (List.replicate _ (0:Int)).length=d.length;rw [List.length_replicate];omega⟩
  obtain ⟨_,_,_,q1⟩:=ant _ hE
  have q1:(jS (ig d t)).out=yI d.length:=q1
  have hl:(jS (ig d t)).out.length=d.length:=by rw [q1,ql]
  have hE2:adk (gu d t):=⟨rfl,by show ((List.length (jS (ig d t)).out:Nat):Int)<20;omega⟩
  obtain ⟨_,q2⟩:=alI _ hE2
  have q2a:(iZ (gu d t)).data=yI d.length:=(congrArg Prod.fst q2).trans q1
  have q2b:(iZ (gu d t)).a=0:=congrArg Prod.snd q2
  have hE3:adw (oC d t):=⟨by show IntKind.i64.wrap ((iZ (gu d t)).a+1)=1;rw [q2b];rfl,⟨q2b,by show ((List.length (jS (ig d t)).out:Nat):Int)=(List.length (iZ (gu d t)).data:Int);rw [q2a,hl,ql]⟩,⟨by show (iZ (gu d t)).data.length=d.length;rw [q2a,ql],by show (List.length (iZ (gu d t)).data:Int)≤1000;rw [q2a,ql];omega⟩,fun x hx=>SC.1 (by have hx:x∈(iZ (gu d t)).data:=hx;rw [q2a] at hx;exact hx),hw⟩
  obtain ⟨_,q3⟩:=aoW _ hE3
  have q3:(pW (oC d t)).data=jF d t:=q3.trans (by
   show uP (ltD d t) (iZ (gu d t)).data (IntKind.i64.wrap ((iZ (gu d t)).a+1)).toNat=_
   rw [q2b,q2a]
   exact adQ)
  have hl3:(pW (oC d t)).data.length=d.length:=by rw [q3,SS]
  have hE4:akT (RV d t):=⟨rfl,by show ((List.length (jS (ig d t)).out:Nat):Int)<20;omega⟩
  refine ⟨⟨by omega,by omega,by omega,by omega⟩,⟨rfl,by simp⟩,⟨hE,rfl,rfl⟩,⟨rfl,rfl⟩,⟨hE2,rfl,rfl⟩,⟨rfl,rfl⟩,⟨hE3,rfl,rfl⟩,⟨rfl,by rw [q2a,ql,hl3]⟩,⟨hE4,rfl,rfl⟩,by omega,?_⟩
  show LV.xl _ _=_
  rw [List.drop_zero,hl,←hl3,List.take_length,q3]
 ·cases h)
end Go.Proofs.YtlihnbimgclogaaGreatDoor
namespace Go.Proofs.YtlihnbimgclogaaGreatDoor
def isL (mn mx st a:Int):Bool:=a==0 ||(decide (mn≤a)&&(decide (a≤mx)&&((a-mn) %st==0)))
theorem uw {mn mx st a:Int}:isL mn mx st a=true↔a=0∨(mn≤a∧a≤mx∧(a-mn) %st=0):=by simp [isL]
theorem zM {mn mx st a:Int}(hc:uV mn mx st):isL mn mx st (lD mn mx st a)=true:=by
 unfold uV at hc
 rw [uw]
 unfold lD
 split
 ·exact .inl rfl
 ·right
  have e1:=uH (x:=min a mx-mn) (s:=st) (by omega) (by omega)
  refine ⟨by omega,by omega,?_⟩
  have h:=Int.mul_ediv_add_emod (min a mx-mn) st
  rw [show min a mx-(min a mx-mn) %st-mn=st*((min a mx-mn) / st) by omega]
  exact Int.mul_emod_right _ _
theorem Ik {mn mx st a:Int}(hc:uV mn mx st) (ha:0≤a):lD mn mx st a≤a:=by
 have hc':=hc
 unfold uV at hc'
 have:=qw (a:=a) hc'.1 hc'.2.1 hc'.2.2.1 hc'.2.2.2.1
 by_cases h:a<mn
 ·omega
 ·omega
theorem aoJ {x y s:Int}(hs:1≤s) (hy:y%s=0) (h:y≤x):y≤x-x%s:=by
 have h1:=Int.mul_ediv_add_emod x s
 have h2:=Int.mul_ediv_add_emod y s
 have h3:=Int.emod_lt_of_pos x (b:=s) (by omega)
 by_cases hq:y / s≤x / s
 ·have:=Int.mul_le_mul_of_nonneg_left hq (show 0≤s by omega)
  omega
 ·have:=Int.mul_le_mul_of_nonneg_left (show x / s+1≤y / s by omega) (show 0≤s by omega)
  rw [Int.mul_add,Int.mul_one] at this
  omega
theorem mF {mn mx st a L:Int}(hc:uV mn mx st) (hL:isL mn mx st L=true) (h:L≤a):L≤lD mn mx st a:=by
 have hc':=hc
 unfold uV at hc'
 rw [uw] at hL
 rcases hL with rfl|⟨h1,h2,h3⟩
 ·exact (qw (a:=a) hc'.1 hc'.2.1 hc'.2.2.1 hc'.2.2.2.1).1
 ·unfold lD
  rw [if_neg (by omega)]
  have:=aoJ (x:=min a mx-mn) (y:=L-mn) (s:=st) (by omega) h3 (by omega)
  omega
theorem Tm {mn mx st a:Int}(hc:uV mn mx st) (h:isL mn mx st a=true) (ha:0≤a):lD mn mx st a=a:=by
 have h1:=Ik hc ha
 have h2:=mF hc h (Int.le_refl a)
 omega
theorem SY {ph mn mx st fb a s want:Int}(h:okB ph mn mx st fb a s want=true):uV mn mx st∧0≤s∧s≤1000000∧0≤want∧want≤80∧0≤a∧a≤80∧isL mn mx st a=true∧a≤mx∧(a≠0→mn≤a):=by
 have h':=h
 simp only [okB,J8,Bool.and_eq_true,decide_eq_true_eq,beq_iff_eq] at h'
 obtain ⟨⟨_,_,_,_,h5⟩,_⟩:=h'
 obtain ⟨_,h2,h3,h4,h6,h7,_⟩:=aaj h
 have hl:isL mn mx st a=true:=by rw [←h5];exact zM h2
 have hl':=uw.1 hl
 have h2':=h2
 unfold uV at h2'
 exact ⟨h2,h3.1,h3.2,h4.1,h4.2,h6,h7,hl,by omega,by omega⟩
theorem aAl {ph mn mx st fb a s want:Int}(h:okB ph mn mx st fb a s want=true):nE ph mn mx st fb a s want=0:=by rw [nE,if_pos h]
theorem aqO {ph mn mx st fb a s want:Int}(h:okB ph mn mx st fb a s want=true):nA ph mn mx st fb a s want=if a=0 then (if lD mn mx st want≠0∧5≤s then mn else 0) else if lD mn mx st want=0 then 0 else min (lD mn mx st want) (a+st):=by rw [nA,if_pos h]
theorem aAk {ph mn mx st fb a s want:Int}(h:okB ph mn mx st fb a s want=true):nS ph mn mx st fb a s want=if a=0 then (if lD mn mx st want≠0∧5≤s then 0 else min (s+1) 1000000) else if lD mn mx st want=0 then 0 else min (s+1) 1000000:=by rw [nS,if_pos h]
theorem aif {mn mx st:Int}(hc:uV mn mx st):isL mn mx st mn=true:=by
 unfold uV at hc
 rw [uw];right;exact ⟨by omega,by omega,by simp⟩
theorem aoX {mn mx st a:Int}(ha:isL mn mx st a=true) (h0:a≠0) (h1:a+st≤mx) (hs:1≤st):isL mn mx st (a+st)=true:=by
 rw [uw] at ha⊢
 rcases ha with h|⟨h2,h3,h4⟩
 ·exact absurd h h0
 ·right
  exact ⟨by omega,h1,by rw [show a+st-mn=(a-mn)+st by omega,Int.add_emod_right];exact h4⟩
theorem Tn {mn mx st a b:Int}(hc:uV mn mx st) (h0:0≤a) (h:a≤b):lD mn mx st a≤lD mn mx st b:=by
 have h1:=Ik hc h0
 exact mF hc (zM (a:=a) hc) (by omega)
theorem ad7 {mn mx st a:Int}(hc:uV mn mx st):lD mn mx st a≤mx:=by
 have h:=uw.1 (zM (a:=a) hc)
 unfold uV at hc
 omega
theorem anf {mn mx st a want:Int}(hc:uV mn mx st) (ha:isL mn mx st a=true) (h0:a≠0) (ha0:0≤a) (hw:0≤want):(if lD mn mx st want=0 then 0 else min (lD mn mx st want) (a+st))=lD mn mx st (min want (a+st)):=by
 have hc':=hc
 unfold uV at hc'
 have hla:=uw.1 ha
 by_cases h1:want≤a+st
 ·rw [show min want (a+st)=want by omega]
  have:=Ik hc hw
  split<;>omega
 ·rw [show min want (a+st)=a+st by omega]
  have hge:a≤lD mn mx st want:=mF hc ha (by omega)
  rw [if_neg (by omega)]
  by_cases h2:a+st≤mx
  ·have hl:=aoX ha h0 h2 (by omega)
   rw [Tm hc hl (by omega)]
   have:=mF hc hl (show a+st≤want by omega)
   omega
  ·have m1:=ad7 (a:=want) hc
   have g1:=mF hc (zM (a:=want) hc) (show lD mn mx st want≤a+st by omega)
   have g2:=Tn hc (show 0≤a+st by omega) (show a+st≤want by omega)
   omega
theorem anL {ph mn mx st fb a s want most:Int}(hk:okB ph mn mx st fb a s want=true) (hm:most=if a=0 then mn else a+st):
  isL mn mx st (nA ph mn mx st fb a s want)=true∧nA ph mn mx st fb a s want≤want∧nA ph mn mx st fb a s want≤most∧(nA ph mn mx st fb a s want=lD mn mx st (min want most)∨(a=0∧s<5∧nA ph mn mx st fb a s want=0))∧(a≠0∨5≤s∨nA ph mn mx st fb a s want=0):=by
 obtain ⟨hc,h1,h2,h3,h4,h5,h6,h7,h8,h9⟩:=SY hk
 have hc':=hc
 unfold uV at hc'
 rw [aqO hk]
 have lw:=Ik hc h3
 by_cases h0:a=0
 ·rw [if_pos h0] at hm⊢
  by_cases hh:lD mn mx st want≠0∧5≤s
  ·rw [if_pos hh]
   have hw:mn≤want:=by
    apply Classical.byContradiction
    intro hn
    exact hh.1 (by rw [lD,if_pos (by omega)])
   refine ⟨aif hc,hw,by omega,.inl ?_,.inr (.inl hh.2)⟩
   rw [hm,show min want mn=mn by omega,Tm hc (aif hc) (by omega)]
  ·rw [if_neg hh]
   refine ⟨by simp [isL],h3,by omega,?_,.inr (.inr rfl)⟩
   by_cases hs:s<5
   ·exact .inr ⟨h0,hs,rfl⟩
   ·left
    have h10:lD mn mx st want=0:=by
     apply Classical.byContradiction
     intro hn
     exact hh ⟨hn,by omega⟩
    have:=Tn hc (show 0≤min want most by omega) (show min want most≤want by omega)
    have:=(qw (a:=min want most) hc'.1 hc'.2.1 hc'.2.2.1 hc'.2.2.2.1).1
    omega
 ·rw [if_neg h0] at hm⊢
  rw [anf hc h7 h0 h5 h3]
  have:=Ik hc (show 0≤min want (a+st) by omega)
  exact ⟨zM hc,by omega,by omega,.inl (by rw [hm]),.inl h0⟩
theorem WG {ph mn mx st fb a s want:Int}(hk:okB ph mn mx st fb a s want=true):
  0≤nA ph mn mx st fb a s want∧(0≤nS ph mn mx st fb a s want∧nS ph mn mx st fb a s want≤1000000∧nS ph mn mx st fb a s want≤s+1)∧(a=0→nA ph mn mx st fb a s want≠0→5≤s)∧(a≠0→nA ph mn mx st fb a s want=0→nS ph mn mx st fb a s want=0)∧
  (¬((nA ph mn mx st fb a s want=0)↔(a=0))→nS ph mn mx st fb a s want=0)∧(((nA ph mn mx st fb a s want=0)↔(a=0))→nS ph mn mx st fb a s want=min (s+1) 1000000):=by
 obtain ⟨hc,h1,h2,h3,h4,h5,h6,h7,h8,h9⟩:=SY hk
 have hc':=hc
 unfold uV at hc'
 have hb:=(qw (a:=want) hc'.1 hc'.2.1 hc'.2.2.1 hc'.2.2.2.1).1
 rw [aqO hk,aAk hk]
 by_cases h0:a=0
 ·simp only [if_pos h0]
  by_cases hh:lD mn mx st want≠0∧5≤s
  ·simp only [if_pos hh];exact ⟨by omega,⟨by omega,by omega,by omega⟩,fun _ _=>by omega,fun _ _=>by omega,fun _=>trivial,fun h=>absurd (h.2 h0) (by omega)⟩
  ·simp only [if_neg hh];exact ⟨by omega,⟨by omega,by omega,by omega⟩,fun _ _=>by omega,fun _ _=>by omega,fun h=>absurd ⟨fun _=>h0,fun _=>trivial⟩ h,fun _=>trivial⟩
 ·simp only [if_neg h0]
  by_cases hh:lD mn mx st want=0
  ·simp only [if_pos hh];exact ⟨by omega,⟨by omega,by omega,by omega⟩,fun _ _=>by omega,fun _ _=>by omega,fun _=>trivial,fun h=>absurd (h.1 trivial) h0⟩
  ·simp only [if_neg hh];exact ⟨by omega,⟨by omega,by omega,by omega⟩,fun _ _=>by omega,fun _ _=>by omega,fun h=>absurd ⟨fun e=>by omega,fun e=>absurd e h0⟩ h,fun _=>trivial⟩
end Go.Proofs.YtlihnbimgclogaaGreatDoor
namespace Go.Proofs.YtlihnbimgclogaaGreatDoor
open Go.Sx
structure kN where
 rs:List Ra
 tick:Int
 n:Int
 t15:Int
 offers:List Int
 m:List Ch
 k:Int
 i:Int
 XC:List Cd
 c1:List ByteArray
 c2:List Ko
 c3:List Ch
 c4:List Ba
 jv:List Le
 Dx:List Dm
 uJ:Int
 Qo:List Int
 dP:List Int
 next:List Ra
 cO:List Le
def aDM (s:kN):List LV:=[.xl GI s.rs,.v (.int .i64 s.tick),.v (.int .i64 s.n),.v (.slice none 0 0),.v (.slice none 0 0),.v (.slice none 0 0),.v (.int .i64 s.t15),.own 0 0,.xl (.int .i64) s.offers,.os 1 1 0 (List.length s.dP),.os 2 2 0 (List.length s.next),.os 3 5 0 (List.length s.cO),.xl dM s.m,.v (.int .i64 s.k),.v (.int .i64 s.i)]
def aCL (s:kN):List aU:=[⟨[.xl dU s.XC,.xl .str s.c1,.xl dW s.c2,.xl dM s.c3,.xl dX s.c4,.xl nC s.jv,.xl pU s.Dx,.v (.int .i64 s.uJ),.xl (.int .i64) s.Qo],75,.cl,true⟩,⟨[],3,.vec (.int .i64) s.dP,false⟩,⟨[],53,.vec GI s.next,false⟩,⟨[],63,.vec nC s.cO,false⟩]
noncomputable def BN:Code:=((aB (Tryz.f14.body.getD .skip))[0]?).getD .skip
def NU (s:kN) (e:Int) (w:Bool) (x:Int) (y:Int):T (Rd kN):=
 .br (decide (s.i<s.k)) (.req (0≤s.i∧s.i<(List.length s.m:Int)) (.req (0≤s.i∧s.i<(List.length s.rs:Int)) (.req (0≤s.i∧s.i<(List.length s.offers:Int)) (.br (e !=0) (.rl s.dP (.rl s.next (.rl s.cO (.ok (.stop (.ret) {s with t15:=(1:Int)}))))) (.req (0≤s.i∧s.i<((List.length s.dP:Nat):Int)) (.req (s.i.toNat<List.length s.dP) (.req (0≤s.i∧s.i<((List.length s.next:Nat):Int)) (.req (s.i.toNat<List.length s.next) (.req ((0≤s.i∧s.i<(List.length s.c3:Int))∧(List.length s.jv:Int)≤1000∧0≤s.uJ∧s.uJ≤1000000) (.br w (.req (0+(List.length s.cO)=List.length s.cO∧((List.length s.cO+List.length ([(s.n,(s.i,(x,(s.tick,(12:Int)))))]):Nat):Int)*40≤2^47∧((List.length s.cO+List.length ([(s.n,(s.i,(x,(s.tick,(12:Int)))))]):Nat):Int)<2^62) (.req (0=0∧(List.length s.dP)=List.length (s.dP.set s.i.toNat x)) (.req (0=0∧(List.length s.next)=List.length (s.next.set s.i.toNat (x,y))) (.req (0=0∧(List.length s.cO+List.length ([(s.n,(s.i,(x,(s.tick,(12:Int)))))]))=List.length (s.cO++([(s.n,(s.i,(x,(s.tick,(12:Int)))))]))) (.ok (.next {s with n:=(IntKind.i64.wrap (s.n+1)),i:=(IntKind.i64.wrap (s.i+1)),dP:=(s.dP.set s.i.toNat x),next:=(s.next.set s.i.toNat (x,y)),cO:=(s.cO++([(s.n,(s.i,(x,(s.tick,(12:Int)))))]))})))))) (.req (0=0∧(List.length s.dP)=List.length (s.dP.set s.i.toNat x)) (.req (0=0∧(List.length s.next)=List.length (s.next.set s.i.toNat (x,y))) (.rl s.cO (.ok (.next {s with i:=(IntKind.i64.wrap (s.i+1)),dP:=(s.dP.set s.i.toNat x),next:=(s.next.set s.i.toNat (x,y))}))))))))))))))) (.rl s.dP (.rl s.next (.rl s.cO (.ok (.stop (.exit 0) s)))))
abbrev ZA (s:kN):=NU s (nE (aW s.m s.i).2.2.1 (aW s.m s.i).2.2.2.1 (aW s.m s.i).2.2.2.2.1 (aW s.m s.i).2.2.2.2.2.1 (aW s.m s.i).2.2.2.2.2.2.1 (lU s.rs s.i).1 (lU s.rs s.i).2 (gi s.offers s.i)) (nwB s.c3 s.jv s.uJ s.i (nA (aW s.m s.i).2.2.1 (aW s.m s.i).2.2.2.1 (aW s.m s.i).2.2.2.2.1 (aW s.m s.i).2.2.2.2.2.1 (aW s.m s.i).2.2.2.2.2.2.1 (lU s.rs s.i).1 (lU s.rs s.i).2 (gi s.offers s.i))) (nA (aW s.m s.i).2.2.1 (aW s.m s.i).2.2.2.1 (aW s.m s.i).2.2.2.2.1 (aW s.m s.i).2.2.2.2.2.1 (aW s.m s.i).2.2.2.2.2.2.1 (lU s.rs s.i).1 (lU s.rs s.i).2 (gi s.offers s.i)) (nS (aW s.m s.i).2.2.1 (aW s.m s.i).2.2.2.1 (aW s.m s.i).2.2.2.2.1 (aW s.m s.i).2.2.2.2.2.1 (aW s.m s.i).2.2.2.2.2.2.1 (lU s.rs s.i).1 (lU s.rs s.i).2 (gi s.offers s.i))
abbrev aja (s:kN):=(ZA s).rd s
def Vj (s:kN):Prop:=s.i=0∧s.cO=[]∧(s.k=(List.length s.m:Int)∧s.k≤16)∧(s.c3=s.m∧s.uJ=s.tick)∧((List.length s.jv:Int)≤1000∧0≤s.tick∧s.tick≤1000000)∧(s.rs.length=s.m.length∧s.offers.length=s.m.length∧s.dP.length=s.m.length∧s.next.length=s.m.length)∧dcK s.m s.rs s.offers∧1≤s.n-(List.length s.cO:Int)∧s.n-(List.length s.cO:Int)≤999900
def Ej (s:kN):Prop:=(0≤s.i∧s.i≤s.k)∧(∀j,0≤j→j<s.i→gi s.dP j=nxA (aW s.m j) (lU s.rs j) (gi s.offers j)∧lU s.next j=(nxA (aW s.m j) (lU s.rs j) (gi s.offers j),nxS (aW s.m j) (lU s.rs j) (gi s.offers j)))∧s.cO=dcL s.m s.jv s.tick (s.n-(List.length s.cO:Int)) (QR s.m s.rs s.offers s.m.length) s.i.toNat∧(s.k=(List.length s.m:Int)∧s.k≤16)∧(s.c3=s.m∧s.uJ=s.tick)∧((List.length s.jv:Int)≤1000∧0≤s.tick∧s.tick≤1000000)∧(s.rs.length=s.m.length∧s.offers.length=s.m.length∧s.dP.length=s.m.length∧s.next.length=s.m.length)∧dcK s.m s.rs s.offers∧1≤s.n-(List.length s.cO:Int)∧s.n-(List.length s.cO:Int)≤999900
def yL (s:kN):Nat:=(s.k-s.i).toNat
def adg (x:Ex) (_ s':kN):Prop:=x=.exit 0∧s'.dP=QR s'.m s'.rs s'.offers s'.m.length∧s'.next=dcR s'.m s'.rs s'.offers s'.m.length∧s'.cO=dcL s'.m s'.jv s'.tick (s'.n-(List.length s'.cO:Int)) (QR s'.m s'.rs s'.offers s'.m.length) s'.m.length
theorem aBu:∀s,Vj s→Ej s:=by
 intro s h
 obtain ⟨h0,h1,h2⟩:=h
 exact ⟨by omega,fun j j0 j1=>by omega,by rw [h0,h1];rfl,h2⟩
theorem apW (s:kN) (hI:Ej s) (e:Int) (w:Bool) (x:Int) (y:Int) (he:nE (aW s.m s.i).2.2.1 (aW s.m s.i).2.2.2.1 (aW s.m s.i).2.2.2.2.1 (aW s.m s.i).2.2.2.2.2.1 (aW s.m s.i).2.2.2.2.2.2.1 (lU s.rs s.i).1 (lU s.rs s.i).2 (gi s.offers s.i)=e) (hw:nwB s.c3 s.jv s.uJ s.i (nA (aW s.m s.i).2.2.1 (aW s.m s.i).2.2.2.1 (aW s.m s.i).2.2.2.2.1 (aW s.m s.i).2.2.2.2.2.1 (aW s.m s.i).2.2.2.2.2.2.1 (lU s.rs s.i).1 (lU s.rs s.i).2 (gi s.offers s.i))=w) (hx:nA (aW s.m s.i).2.2.1 (aW s.m s.i).2.2.2.1 (aW s.m s.i).2.2.2.2.1 (aW s.m s.i).2.2.2.2.2.1 (aW s.m s.i).2.2.2.2.2.2.1 (lU s.rs s.i).1 (lU s.rs s.i).2 (gi s.offers s.i)=x) (hy:nS (aW s.m s.i).2.2.1 (aW s.m s.i).2.2.2.1 (aW s.m s.i).2.2.2.2.1 (aW s.m s.i).2.2.2.2.2.1 (aW s.m s.i).2.2.2.2.2.2.1 (lU s.rs s.i).1 (lU s.rs s.i).2 (gi s.offers s.i)=y):bJ (fun s'=>Ej s'∧yL s'<yL s) (fun x s'=>adg x s s') ((NU s e w x y).rd s):=by
 unfold NU
 dsimp only [T.rd,T.rl]
 obtain ⟨⟨h0,h1⟩,hA,hL,⟨h2,h3⟩,⟨h4,h5⟩,h6,⟨h7,h8,h9,h10⟩,hk,h11⟩:=hI
 have hll:s.cO.length≤s.i.toNat:=(by rw [hL];exact xJ)
 refine au (fun c1=>?_) (fun c1=>?_)
 ·refine au (fun c2=>?_) (fun c2=>?_)
  ·have c1:s.i<s.k:=by simpa using c1
   have hm:s.i<(s.m.length:Int):=by omega
   exact absurd (he.symm.trans (aAl (hk s.i h0 hm))) (by simpa using c2)
  ·refine au (fun c3=>?_) (fun c3=>?_)
   ·have c1:s.i<s.k:=by simpa using c1
    have hm:s.i<(s.m.length:Int):=by omega
    have hx':nxA (aW s.m s.i) (lU s.rs s.i) (gi s.offers s.i)=x:=hx
    have hy':nxS (aW s.m s.i) (lU s.rs s.i) (gi s.offers s.i)=y:=hy
    have hA':∀j,0≤j→j<s.i+1→gi (s.dP.set s.i.toNat x) j=nxA (aW s.m j) (lU s.rs j) (gi s.offers j)∧lU (s.next.set s.i.toNat (x,y)) j=(nxA (aW s.m j) (lU s.rs j) (gi s.offers j),nxS (aW s.m j) (lU s.rs j) (gi s.offers j)):=fun j j0 j1=>by
     rw [mJ h0 (by omega) j0,aaV h0 (by omega) j0]
     by_cases e:j=s.i
     ·subst e
      rw [if_pos rfl,if_pos rfl,hx',hy']
      exact ⟨rfl,rfl⟩
     ·rw [if_neg e,if_neg e]
      exact hA j j0 (by omega)
    have hs:s.i.toNat+1=(s.i+1).toNat:=by omega
    have hg:gi (QR s.m s.rs s.offers s.m.length) (s.i.toNat:Nat)=x:=by rw [Int.toNat_of_nonneg h0,QR,kT h0 hm,hx']
    have hw':nwB s.m s.jv s.tick (s.i.toNat:Nat) x=w:=by rw [Int.toNat_of_nonneg h0,←hw,h4,h5];rw [←hx]
    rw [aK (x:=s.i+1) (by omega) (by omega),aK (x:=s.n+1) (by omega) (by omega)]
    have hn:s.n+1-((List.length (s.cO++[(s.n,s.i,x,s.tick,12)]):Nat):Int)=s.n-(List.length s.cO:Int):=by
     rw [List.length_append]
     show s.n+1-((s.cO.length+1:Nat):Int)=_
     omega
    refine ⟨⟨⟨by simp only;omega,by simp only;omega⟩,hA',?_,⟨h2,h3⟩,⟨h4,h5⟩,h6,⟨h7,h8,by simp only [List.length_set];exact h9,by simp only [List.length_set];exact h10⟩,hk,by simp only;rw [hn];exact h11⟩,by simp only [yL];omega⟩
    simp only
    rw [hn,←hs,dcL,←hL,hg,hw',c3,if_pos rfl,Int.toNat_of_nonneg h0,show s.n-(List.length s.cO:Int)+(List.length s.cO:Int)=s.n by omega]
   ·have c1:s.i<s.k:=by simpa using c1
    have hm:s.i<(s.m.length:Int):=by omega
    have hx':nxA (aW s.m s.i) (lU s.rs s.i) (gi s.offers s.i)=x:=hx
    have hy':nxS (aW s.m s.i) (lU s.rs s.i) (gi s.offers s.i)=y:=hy
    have hA':∀j,0≤j→j<s.i+1→gi (s.dP.set s.i.toNat x) j=nxA (aW s.m j) (lU s.rs j) (gi s.offers j)∧lU (s.next.set s.i.toNat (x,y)) j=(nxA (aW s.m j) (lU s.rs j) (gi s.offers j),nxS (aW s.m j) (lU s.rs j) (gi s.offers j)):=fun j j0 j1=>by
     rw [mJ h0 (by omega) j0,aaV h0 (by omega) j0]
     by_cases e:j=s.i
     ·subst e
      rw [if_pos rfl,if_pos rfl,hx',hy']
      exact ⟨rfl,rfl⟩
     ·rw [if_neg e,if_neg e]
      exact hA j j0 (by omega)
    have hs:s.i.toNat+1=(s.i+1).toNat:=by omega
    have hg:gi (QR s.m s.rs s.offers s.m.length) (s.i.toNat:Nat)=x:=by rw [Int.toNat_of_nonneg h0,QR,kT h0 hm,hx']
    have hw':nwB s.m s.jv s.tick (s.i.toNat:Nat) x=w:=by rw [Int.toNat_of_nonneg h0,←hw,h4,h5];rw [←hx]
    rw [aK (x:=s.i+1) (by omega) (by omega)]
    refine ⟨⟨⟨by simp only;omega,by simp only;omega⟩,hA',?_,⟨h2,h3⟩,⟨h4,h5⟩,h6,⟨h7,h8,by simp only [List.length_set];exact h9,by simp only [List.length_set];exact h10⟩,hk,h11⟩,by simp only [yL];omega⟩
    simp only
    rw [←hs,dcL,←hL,hg,hw',c3,if_neg (by decide),List.append_nil]
 ·have c1:s.k≤s.i:=by simpa using c1
  have hi:s.i.toNat=s.m.length:=by omega
  refine ⟨rfl,yN (by rw [h9];exact dN.symm) fun j j0 j1=>?_,ao3 (by rw [h10,Ql]) fun j j0 j1=>?_,by have hL':=hL;rw [hi] at hL';exact hL'⟩
  ·rw [QR,dN] at j1
   rw [QR,kT j0 j1]
   exact (hA j j0 (by omega)).1
  ·rw [Ql] at j1
   rw [axh j0 j1]
   exact (hA j j0 (by omega)).2
theorem axg (s:kN) (hI:Ej s):bJ (fun s'=>Ej s'∧yL s'<yL s) (fun x s'=>adg x s s') (aja s):=apW s hI _ _ _ _ rfl rfl rfl rfl
def Fq:bK kN:=⟨0,108,[2,4,5,12,13,14,15,16,17,19,20,21,57,58,59],[.nl 21 63 nC],aDM,aCL,fun v b=>⟨aQ GI (v.getD 0 .junk),gI (v.getD 1 .junk),gI (v.getD 2 .junk),gI (v.getD 6 .junk),aQ (.int .i64) (v.getD 8 .junk),aQ dM (v.getD 12 .junk),gI (v.getD 13 .junk),gI (v.getD 14 .junk),aQ dU (aX (aO b 0) 0),aQ .str (aX (aO b 0) 1),aQ dW (aX (aO b 0) 2),aQ dM (aX (aO b 0) 3),aQ dX (aX (aO b 0) 4),aQ nC (aX (aO b 0) 5),aQ pU (aX (aO b 0) 6),gI (aX (aO b 0) 7),aQ (.int .i64) (aX (aO b 0) 8),iT (.int .i64) (aO b 1),iT GI (aO b 2),iT nC (aO b 3)⟩,ZA,fun s r=> {r with rs:=s.rs,tick:=s.tick,offers:=s.offers,m:=s.m,k:=s.k,XC:=s.XC,c1:=s.c1,c2:=s.c2,c3:=s.c3,c4:=s.c4,jv:=s.jv,Dx:=s.Dx,uJ:=s.uJ,Qo:=s.Qo},fun s=>s,fun _ s=>s,[.ret,.exit 0],Vj,Ej,yL⟩
abbrev gq:=Fq.run
abbrev Qi:=Fq.jG
abbrev ayB:=Fq.q
theorem avh (s:kN) (hI:Ej s):(ZA s).all (fun _=>True):=by
 refine ⟨fun c1=>⟨?_,?_,?_,fun c2=>⟨⟨rfl,rfl⟩,⟨rfl,rfl⟩,⟨rfl,rfl⟩,trivial⟩,fun c2=>⟨?_,?_,?_,?_,?_,fun c3=>⟨?_,?_,?_,?_,trivial⟩,fun c3=>⟨?_,?_,⟨rfl,rfl⟩,trivial⟩⟩⟩,fun c1=>⟨⟨rfl,rfl⟩,⟨rfl,rfl⟩,⟨rfl,rfl⟩,trivial⟩⟩
 all_goals ((obtain ⟨⟨h0,h1⟩,hA,hL,⟨h2,h3⟩,⟨h4,h5⟩,h6,⟨h7,h8,h9,h10⟩,hk,h11⟩:=hI;have hll:s.cO.length≤s.i.toNat:=(by rw [hL];exact xJ);(try simp only [decide_eq_true_eq] at c1);have hl3:s.c3.length=s.m.length:=congrArg List.length h4;first|omega|exact ⟨rfl,by simp⟩ |(refine ⟨by omega,?_,?_⟩<;>simp only [List.length_cons,List.length_nil]<;>omega)))
noncomputable def aiP:Specs:=bf [(19,y7),(35,Yw),(36,Yy),(37,Yj),(38,Yz)]
theorem arh:∀g S,aiP g=some S→Valid Tryz.prog aS g S:=aT (l:=[(19,y7),(35,Yw),(36,Yy),(37,Yj),(38,Yz)]) ⟨VD,atC,atE,ato,atF,trivial⟩
theorem WC:Fq.Ok:=⟨fun s=>by kernel_rfl,fun s=>by kernel_rfl,fun s=>rfl,fun s t r=>rfl,fun s=>rfl,fun s=>by kernel_rfl⟩
theorem V7:Fq.Pf (adg):=⟨aBu,fun _ _=>rfl,axg,avh⟩
theorem amG:bn Tryz.prog aS (AN 0) (.loop BN) Fq.lp:=bK.snd WC V7 (aP (Γ:=aiP) (K:=dY) (L:=aC) arh aF BN (fun b hb=>by rw [show aB BN=[] by kernel_rfl] at hb;cases hb)) (fun s=>by kernel_rfl)
theorem apV (s:kN) (hE:Vj s):∃s',Ej s'∧adg (Qi s) s' (gq s):=bK.fin WC V7 s hE
theorem apU (s:kN) (hE:Vj s):(fun (_:Ex) (s':kN) (v:Int)=>s'.n-(List.length s'.cO:Int)=v) (Qi s) (gq s) ((fun s:kN=>s.n-(List.length s.cO:Int)) s):=by
 exact bK.wu WC V7 (fun s:kN=>s.n-(List.length s.cO:Int)) (fun x s' v=>s'.n-(List.length s'.cO:Int)=v) (fun s hI=>by
  show bJ _ _ (aja s)
  unfold aja ZA NU
  dsimp only [T.rd,T.rl]
  obtain ⟨⟨h0,h1⟩,hA,hL,⟨h2,h3⟩,⟨h4,h5⟩,h6,⟨h7,h8,h9,h10⟩,hk,h11⟩:=hI
  have hll:s.cO.length≤s.i.toNat:=(by rw [hL];exact xJ)
  refine au (fun c1=>?_) (fun c1=>?_)
  ·refine au (fun c2=>?_) (fun c2=>?_)
   ·rfl
   ·refine au (fun c3=>?_) (fun c3=>?_)
    ·have c1:s.i<s.k:=by simpa using c1
     rw [aK (x:=s.n+1) (by omega) (by omega)]
     show s.n+1-((List.length (s.cO++[_]):Nat):Int)=s.n-(List.length s.cO:Int)
     rw [List.length_append]
     show s.n+1-((s.cO.length+1:Nat):Int)=_
     omega
    ·rfl
  ·rfl) s hE
def ac0:List LV→T LV
 | [.agg [.xl (.pair .str (.pair (.int .i64) (.pair (.int .i64) (.pair (.int .i64) (.pair (.pair (.int .i64) (.int .i64)) (.pair (.int .i64) (.pair (.int .i64) (.pair (.int .i64) (.pair (.int .i64) (.int .i64)))))))))) cs,.xl (.str) os,.xl (.pair .str (.pair (.int .i64) (.pair (.int .i64) (.int .i64)))) ks,.xl (.pair .str (.pair (.int .i64) (.pair (.int .i64) (.pair (.int .i64) (.pair (.int .i64) (.pair (.int .i64) (.pair (.int .i64) (.int .i64)))))))) gs,.xl (.pair .str (.int .i64)) bs],.xl (.pair (.int .i64) (.pair (.int .i64) (.pair (.int .i64) (.pair (.int .i64) (.int .i64))))) l,.xl (.pair (.int .i64) (.int .i64)) rs,.xl (.pair .bool (.pair (.int .i64) (.pair (.int .i64) (.int .i64)))) d,.v (.int .i64 t),.v (.int .i64 n)]=> .req (xP d t∧d.length≤19) (.ok (.iD [.xl (.int .i64) (uU cs os ks gs bs l rs d t n),.xl GI (deR cs os ks gs bs l rs d t n),.xl nC (qO cs os ks gs bs l rs d t n),.v (.int .i64 (deE cs os ks gs bs l rs d t n))]))
 |_=> .no
noncomputable def Jv:List LV→T LV:=gJ Tryz.prog Tryz.f14.params.toList ac0
def dZ (cs:List Cd) (os:List ByteArray) (ks:List Ko) (gs:List Ch) (bs:List Ba) (l:List Le) (rs:List Ra) (d:List Dm) (t n:Int):kN:=(⟨rs,t,n,(0:Int),(Om cs os ks gs bs l d t (jF d t)),gs,(List.length gs:Int),(0:Int),cs,os,ks,gs,bs,l,d,t,(jF d t),(List.replicate (List.length (Om cs os ks gs bs l d t (jF d t)):Int).toNat (0:Int)),(List.replicate (List.length (Om cs os ks gs bs l d t (jF d t)):Int).toNat ((0:Int),(0:Int))),([]:List Le)⟩:kN)
theorem aoA (cs:List Cd) (os:List ByteArray) (ks:List Ko) (gs:List Ch) (bs:List Ba) (l:List Le) (rs:List Ra) (d:List Dm) (t n:Int):bT Tryz.prog aS (aiP) dY (fun i=>if i=11 then Fq.lp else aC i) Tryz.f14 [.agg [.xl dU cs,.xl .str os,.xl dW ks,.xl dM gs,.xl dX bs],.xl nC l,.xl GI rs,.xl pU d,.v (.int .i64 t),.v (.int .i64 n)]=.req (xP d t∧d.length≤19) (.br (!(Gu cs os ks gs bs l rs d t n)) (.ok (.iD [.xl (.int .i64) ([]:List Int),.xl GI ([]:List Ra),.xl nC ([]:List Le),.v (.int .i64 1)])) (.req (d.length=gs.length∧rU cs os ks gs bs (jC gs) (lS gs d) (jF d t)=true∧Kw l (List.length gs:Int) t=true∧rU cs os ks gs bs (XP gs l t) (xR cs os ks gs bs (jC gs) (lS gs d) (jF d t)) (jF d t)=true) (.br ((0:Int) !=0) (.ok (.iD [.xl (.int .i64) ([]:List Int),.xl GI ([]:List Ra),.xl nC ([]:List Le),.v (.int .i64 1)])) (.req (0≤(List.length (Om cs os ks gs bs l d t (jF d t)):Int)∧(List.length (Om cs os ks gs bs l d t (jF d t)):Int)≤(List.length (Om cs os ks gs bs l d t (jF d t)):Int)∧8*(List.length (Om cs os ks gs bs l d t (jF d t)):Int)≤2^48∧(List.length (Om cs os ks gs bs l d t (jF d t)):Int)<2^63) (.req (0≤(List.length (Om cs os ks gs bs l d t (jF d t)):Int)∧(List.length (Om cs os ks gs bs l d t (jF d t)):Int)≤(List.length (Om cs os ks gs bs l d t (jF d t)):Int)∧16*(List.length (Om cs os ks gs bs l d t (jF d t)):Int)≤2^48∧(List.length (Om cs os ks gs bs l d t (jF d t)):Int)<2^63) (.req (0=0∧(List.length (Om cs os ks gs bs l d t (jF d t)):Int).toNat=List.length (List.replicate (List.length (Om cs os ks gs bs l d t (jF d t)):Int).toNat (0:Int))) (.req (0=0∧(List.length (Om cs os ks gs bs l d t (jF d t)):Int).toNat=List.length (List.replicate (List.length (Om cs os ks gs bs l d t (jF d t)):Int).toNat ((0:Int),(0:Int)))) (.req (0=0∧0=List.length ([]:List Le)) (.req (ayB (dZ cs os ks gs bs l rs d t n)) (.br (iw (Qi (dZ cs os ks gs bs l rs d t n)) (.ret)) (.ok (.iD [.xl (.int .i64) ([]:List Int),.xl GI ([]:List Ra),.xl nC ([]:List Le),.v (.int .i64 (gq (dZ cs os ks gs bs l rs d t n)).t15)])) (.req (0+(List.length (gq (dZ cs os ks gs bs l rs d t n)).dP)≤List.length (gq (dZ cs os ks gs bs l rs d t n)).dP) (.req (0+(List.length (gq (dZ cs os ks gs bs l rs d t n)).next)≤List.length (gq (dZ cs os ks gs bs l rs d t n)).next) (.req (0+(List.length (gq (dZ cs os ks gs bs l rs d t n)).cO)≤List.length (gq (dZ cs os ks gs bs l rs d t n)).cO) (.ok (.iD [.xl (.int .i64) (((gq (dZ cs os ks gs bs l rs d t n)).dP.drop 0).take (List.length (gq (dZ cs os ks gs bs l rs d t n)).dP)),.xl GI (((gq (dZ cs os ks gs bs l rs d t n)).next.drop 0).take (List.length (gq (dZ cs os ks gs bs l rs d t n)).next)),.xl nC (((gq (dZ cs os ks gs bs l rs d t n)).cO.drop 0).take (List.length (gq (dZ cs os ks gs bs l rs d t n)).cO)),.v (.int .i64 0)]))))))))))))))):=by kernel_rfl
theorem ae2:Valid Tryz.prog aS 14 Jv:=aH Tryz.func14 rfl arh aF (L:=(fun i=>if i=11 then Fq.lp else aC i)) (fun b hb=>by
 rw [show aB _=[BN] by kernel_rfl] at hb
 simp only [List.mem_cons,List.not_mem_nil,or_false] at hb
 subst hb
 exact amG) (fun args lv h=>by
 unfold ac0 at h
 split at h
 ·simp only [canL,canX]
  rw [aoA]
  rename_i cs os ks gs bs l rs d t n
  obtain ⟨hw,rfl⟩:=h
  refine ⟨hw,fun c=>?_,fun c=>?_⟩
  ·unfold uU deR qO deE
   rw [ntW c]
   rfl
  have c:=Ot c
  have V:=aqn c
  have ol:(Om cs os ks gs bs l d t (jF d t)).length=gs.length:=(aqM V).1
  have hE:Vj (dZ cs os ks gs bs l rs d t n):=⟨rfl,rfl,⟨rfl,by have:=V.gl;show (gs.length:Int)≤16;omega⟩,⟨rfl,rfl⟩,⟨by have:=(zO V.les).1;show (l.length:Int)≤1000;omega,V.tb⟩,⟨V.rl,ol,by show (List.replicate _ (0:Int)).length=gs.length;rw [List.length_replicate];omega,by show (List.replicate _ ((0:Int),(0:Int))).length=gs.length;rw [List.length_replicate];omega⟩,ajl V,by have:=V.nb;show 1≤n-(0:Int);omega,by have:=V.nb;show n-(0:Int)≤999900;omega⟩
  obtain ⟨_,_,q1,q2,q3,q4⟩:=apV _ hE
  have hn:=apU _ hE
  have hn:(gq (dZ cs os ks gs bs l rs d t n)).n-((gq (dZ cs os ks gs bs l rs d t n)).cO.length:Int)=n:=hn.trans (Int.sub_zero n)
  have q2:(gq (dZ cs os ks gs bs l rs d t n)).dP=uU cs os ks gs bs l rs d t n:=q2.trans (by unfold uU;rw [if_pos c];rfl)
  have q3:(gq (dZ cs os ks gs bs l rs d t n)).next=deR cs os ks gs bs l rs d t n:=q3.trans (by unfold deR;rw [if_pos c];rfl)
  rw [hn] at q4
  have q4:(gq (dZ cs os ks gs bs l rs d t n)).cO=qO cs os ks gs bs l rs d t n:=q4.trans (by unfold qO;rw [if_pos c];rfl)
  have gl:=V.gl
  refine ⟨⟨V.dl,DL V.si,ap9 V,ahz V⟩,fun c2=>absurd c2 (by decide),fun _=>?_⟩
  refine ⟨by rw [ol];omega,by rw [ol];omega,⟨rfl,by simp⟩,⟨rfl,by simp⟩,⟨rfl,rfl⟩,⟨hE,rfl,rfl⟩,?_⟩
  rw [q1]
  refine ⟨fun h=>(by cases h),fun _=>⟨by omega,by omega,by omega,?_⟩⟩
  show LV.iD [LV.xl _ _,LV.xl _ _,LV.xl _ _,_]=_
  rw [List.drop_zero,List.take_length,List.drop_zero,List.take_length,List.drop_zero,List.take_length,q2,q3,q4]
  unfold deE
  rw [if_pos c]
 ·cases h)
end Go.Proofs.YtlihnbimgclogaaGreatDoor
namespace Go.Proofs.YtlihnbimgclogaaGreatDoor
open Go.Sx
structure lI where
 al:List Int
 am:List Int
 sum:Int
 none:Bool
 i:Int
 cap:Int
 ms:List Int
def aC8 (s:lI):List LV:=[.xl (.int .i64) s.al,.xl (.int .i64) s.am,.own 0 0,.v (.int .i64 s.sum),.v (.bool s.none),.v (.int .i64 s.i)]
def aB7 (s:lI):List aU:=[⟨[.v (.int .i64 s.cap),.xl (.int .i64) s.ms],107,.cl,false⟩]
noncomputable def AQ:Code:=((aB (Tryz.f59.body.getD .skip))[0]?).getD .skip
def Q8 (s:lI):T (Rd lI):=
 .br (decide (s.i<(List.length s.ms:Int))) (.req (0≤s.i∧s.i<(List.length s.ms:Int)) (.req (0≤(gi s.ms s.i)∧(gi s.ms s.i)<(List.length s.al:Int)) (.req (0≤(gi s.ms s.i)∧(gi s.ms s.i)<(List.length s.am:Int)) (.br s.none (.req (0≤(gi s.ms s.i)∧(gi s.ms s.i)<(List.length s.am:Int)) (.ok (.next {s with sum:=(IntKind.i64.wrap (s.sum+(if (gi s.al (gi s.ms s.i))<(gi s.am (gi s.ms s.i)) then (gi s.am (gi s.ms s.i)) else (gi s.al (gi s.ms s.i))))),none:=((gi s.am (gi s.ms s.i))==0),i:=(IntKind.i64.wrap (s.i+1))}))) (.ok (.next {s with sum:=(IntKind.i64.wrap (s.sum+(if (gi s.al (gi s.ms s.i))<(gi s.am (gi s.ms s.i)) then (gi s.am (gi s.ms s.i)) else (gi s.al (gi s.ms s.i))))),none:=false,i:=(IntKind.i64.wrap (s.i+1))})))))) (.ok (.stop (.exit 0) s))
abbrev aa1 (s:lI):=(Q8 s).rd s
def akY (s:lI):Prop:=s.i=0∧s.sum=0∧GU s.al s.am (s.cap,s.ms)
def MK (s:lI):Prop:=(0≤s.i∧s.i≤(List.length s.ms:Int))∧(0≤s.sum∧s.sum≤1000000*s.i)∧GU s.al s.am (s.cap,s.ms)
def OI (s:lI):Nat:=((List.length s.ms:Int)-s.i).toNat
def asA (_:Ex) (_ _:lI):Prop:=True
theorem azy:∀s,akY s→MK s:=by
 intro s h
 obtain ⟨h0,h1,h2⟩:=h
 exact ⟨by omega,by omega,h2⟩
theorem aqx (s:lI) (hI:MK s) (c1:s.i<(List.length s.ms:Int)):0≤mx (gi s.al (gi s.ms s.i)) (gi s.am (gi s.ms s.i))∧mx (gi s.al (gi s.ms s.i)) (gi s.am (gi s.ms s.i))≤1000000:=by
 obtain ⟨h0,h2,h3,h4,h5,h6⟩:=hI
 have hm:=h4 (gi s.ms s.i) (kX (by omega) c1)
 exact aAm (h5 _ (kX hm.1 hm.2.1)) (h6 _ (kX hm.1 hm.2.2))
theorem auk (s:lI) (hI:MK s):bJ (fun s'=>MK s'∧OI s'<OI s) (fun x s'=>asA x s s') (aa1 s):=by
 unfold aa1 Q8
 dsimp only [T.rd,T.rl]
 have hm:=fun c1=>aqx s hI c1
 obtain ⟨⟨h0,h1⟩,⟨h2,h3⟩,h4⟩:=hI
 have hl:=h4.1
 simp only at hl
 refine au (fun c1=>?_) (fun c1=>trivial)
 have c1:s.i<(List.length s.ms:Int):=by simpa using c1
 obtain ⟨m1,m2⟩:=hm c1
 have e:(if (gi s.al (gi s.ms s.i))<(gi s.am (gi s.ms s.i)) then (gi s.am (gi s.ms s.i)) else (gi s.al (gi s.ms s.i)))=mx (gi s.al (gi s.ms s.i)) (gi s.am (gi s.ms s.i)):=rfl
 rw [e,aK (x:=s.i+1) (by omega) (by omega),aK (x:=s.sum+mx (gi s.al (gi s.ms s.i)) (gi s.am (gi s.ms s.i))) (by omega) (by omega)]
 refine au (fun c2=>?_) (fun c2=>?_)
 all_goals exact ⟨⟨⟨by simp only;omega,by simp only;omega⟩,⟨by simp only;omega,by simp only;omega⟩,h4⟩,by simp only [OI];omega⟩
def EF:bK lI:=⟨0,49,[1,2,3,7,8,9],[],aC8,aB7,fun v b=>⟨aQ (.int .i64) (v.getD 0 .junk),aQ (.int .i64) (v.getD 1 .junk),gI (v.getD 3 .junk),uT (v.getD 4 .junk),gI (v.getD 5 .junk),gI (aX (aO b 0) 0),aQ (.int .i64) (aX (aO b 0) 1)⟩,Q8,fun s r=> {r with al:=s.al,am:=s.am,cap:=s.cap,ms:=s.ms},fun s=>s,fun _ s=>s,[.exit 0],akY,MK,OI⟩
abbrev Oa:=EF.run
abbrev apg:=EF.jG
abbrev axY:=EF.q
theorem auD (s:lI) (hI:MK s):(Q8 s).all (fun _=>True):=by
 refine ⟨fun c1=>⟨?_,?_,?_,fun c2=>⟨?_,trivial⟩,fun _=>trivial⟩,fun _=>trivial⟩
 all_goals ((obtain ⟨h0,h2,h3,h4,h5⟩:=hI;simp only [decide_eq_true_eq] at c1;have hm:=h4 (gi s.ms s.i) (kX (by omega) c1);omega))
noncomputable def TI:Specs:=bf []
theorem aaN:∀g S,TI g=some S→Valid Tryz.prog aS g S:=aT (l:=[]) trivial
theorem agZ:EF.Ok:=⟨fun s=>by kernel_rfl,fun s=>by kernel_rfl,fun s=>rfl,fun s t r=>rfl,fun s=>rfl,fun s=>by kernel_rfl⟩
theorem afR:EF.Pf (asA):=⟨azy,fun _ _=>rfl,auk,auD⟩
theorem al1:bn Tryz.prog aS (AN 0) (.loop AQ) EF.lp:=bK.snd agZ afR (aP (Γ:=TI) (K:=dY) (L:=aC) aaN aF AQ (fun b hb=>by rw [show aB AQ=[] by kernel_rfl] at hb;cases hb)) (fun s=>by kernel_rfl)
theorem am1 (s:lI) (hE:akY s):(fun (x:Ex) (s':lI) (v:Int×Bool)=>x=.exit 0∧(s'.sum,s'.none)=v) (apg s) (Oa s) ((fun s:lI=>(s.sum+RZ s.al s.am (s.ms.drop s.i.toNat),s.none&&(s.ms.drop s.i.toNat).all (fun m=>gi s.am m==0))) s):=by
 exact bK.wu agZ afR (fun s:lI=>(s.sum+RZ s.al s.am (s.ms.drop s.i.toNat),s.none&&(s.ms.drop s.i.toNat).all (fun m=>gi s.am m==0))) (fun x s' v=>x=.exit 0∧(s'.sum,s'.none)=v) (fun s hI=>by
  show bJ _ _ (aa1 s)
  unfold aa1 Q8
  dsimp only [T.rd,T.rl]
  have hm:=fun c1=>aqx s hI c1
  obtain ⟨⟨h0,h1⟩,⟨h2,h3⟩,h4⟩:=hI
  have hl:=h4.1
  simp only at hl
  refine au (fun c1=>?_) (fun c1=>?_)
  ·have c1:s.i<(List.length s.ms:Int):=by simpa using c1
   obtain ⟨m1,m2⟩:=hm c1
   have e:(if (gi s.al (gi s.ms s.i))<(gi s.am (gi s.ms s.i)) then (gi s.am (gi s.ms s.i)) else (gi s.al (gi s.ms s.i)))=mx (gi s.al (gi s.ms s.i)) (gi s.am (gi s.ms s.i)):=rfl
   rw [e,aK (x:=s.i+1) (by omega) (by omega),aK (x:=s.sum+mx (gi s.al (gi s.ms s.i)) (gi s.am (gi s.ms s.i))) (by omega) (by omega)]
   refine au (fun c2=>?_) (fun c2=>?_)
   ·show (_,_)=(_,_)
    simp only
    rw [(gi_step h0 c1).1,oD,List.all_cons,c2,Bool.true_and]
    simp only [Prod.mk.injEq,and_true]
    omega
   ·show (_,_)=(_,_)
    simp only
    rw [(gi_step h0 c1).1,oD,List.all_cons,c2]
    simp only [Bool.false_and,Prod.mk.injEq,and_true]
    omega
  ·have c1:(List.length s.ms:Int)≤s.i:=by simpa using c1
   refine ⟨rfl,?_⟩
   rw [List.drop_eq_nil_of_le (by omega)]
   simp [RZ]) s hE
def ach:List LV→T LV
 | [.agg [.v (.int .i64 cap),.xl (.int .i64) ms],.xl (.int .i64) al,.xl (.int .i64) am]=> .req (GU al am (cap,ms)) (.ok (.v (.bool (rowB al am (cap,ms)))))
 |_=> .no
noncomputable def X4:List LV→T LV:=gJ Tryz.prog Tryz.f59.params.toList ach
theorem anW (cap:Int) (ms al am:List Int):bT Tryz.prog aS (TI) dY (fun i=>if i=4 then EF.lp else aC i) Tryz.f59 [.agg [.v (.int .i64 cap),.xl (.int .i64) ms],.xl (.int .i64) al,.xl (.int .i64) am]=.req (axY (⟨al,am,(0:Int),true,(0:Int),cap,ms⟩:lI)) (.ok (.v (.bool ((Oa (⟨al,am,(0:Int),true,(0:Int),cap,ms⟩:lI)).none ||(decide ((Oa (⟨al,am,(0:Int),true,(0:Int),cap,ms⟩:lI)).sum≤cap)))))):=by kernel_rfl
theorem as7:Valid Tryz.prog aS 59 X4:=aH Tryz.func59 rfl aaN aF (L:=(fun i=>if i=4 then EF.lp else aC i)) (fun b hb=>by
 rw [show aB _=[AQ] by kernel_rfl] at hb
 simp only [List.mem_cons,List.not_mem_nil,or_false] at hb
 subst hb
 exact al1) (fun args lv h=>by
 unfold ach at h
 split at h
 ·simp only [canL,canX]
  rw [anW]
  rename_i cap ms al am
  obtain ⟨hr,rfl⟩:=h
  refine mQ ⟨⟨rfl,rfl,hr⟩,rfl,rfl⟩ (fun hE=>?_)
  obtain ⟨q1,q2⟩:=am1 _ hE.1
  have e1:=congrArg Prod.fst q2
  have e2:=congrArg Prod.snd q2
  simp only at e1 e2
  rw [e1,e2]
  simp only [Int.toNat_zero,List.drop_zero,Int.zero_add,Bool.true_and]
  exact rfl
 ·cases h)
structure oP where
 rows:List Rw
 al:List Int
 am:List Int
 r:Bool
 i:Int
def aC9 (s:oP):List LV:=[.xl CQ s.rows,.xl (.int .i64) s.al,.xl (.int .i64) s.am,.v (.bool s.r),.v (.int .i64 s.i)]
def aB8 (_:oP):List aU:=[]
noncomputable def AU:Code:=((aB (Tryz.f25.body.getD .skip))[0]?).getD .skip
def Ze (s:oP):T (Rd oP):=
 .br (decide (s.i<(List.length s.rows:Int))) (.req (0≤s.i∧s.i<(List.length s.rows:Int)) (.req (GU s.al s.am (o7 s.rows s.i)) (.br (!(rowB s.al s.am (o7 s.rows s.i))) (.ok (.stop (.ret) {s with r:=false})) (.ok (.next {s with i:=(IntKind.i64.wrap (s.i+1))}))))) (.ok (.stop (.exit 0) s))
abbrev arZ (s:oP):=(Ze s).rd s
def JJ (s:oP) (j:Int):Bool:=rowB s.al s.am (o7 s.rows j)
def akZ (s:oP):Prop:=s.i=0∧0≤(List.length s.rows:Int)∧(List.length s.rows:Int)≤1000∧∀r∈s.rows,GU s.al s.am r
def ML (s:oP):Prop:=0≤s.i∧s.i≤(List.length s.rows:Int)∧(List.length s.rows:Int)≤1000∧(∀r∈s.rows,GU s.al s.am r)∧∀j:Nat,(j:Int)<s.i→JJ s j=true
def OJ (s:oP):Nat:=((List.length s.rows:Int)-s.i).toNat
def akk (x:Ex) (_ s':oP):Prop:=(x=.exit 0∧∀j:Nat,(j:Int)<(List.length s'.rows:Int)→JJ s' j=true)∨(x=.ret∧s'.r=false∧∃j:Nat,(j:Int)<(List.length s'.rows:Int)∧JJ s' j=false)
theorem azG:∀s,akZ s→ML s:=by
 intro s h
 obtain ⟨h0,h1,h2,h3⟩:=h
 exact ⟨by omega,by omega,h2,h3,fun j hj=>by omega⟩
theorem avn (s:oP) (hI:ML s):bJ (fun s'=>ML s'∧OJ s'<OJ s) (fun x s'=>akk x s s') (arZ s):=by
 unfold arZ Ze
 dsimp only [T.rd,T.rl]
 obtain ⟨h0,h1,h2,h3,h4⟩:=hI
 refine au (fun c1=>au (fun c2=>?_) (fun c2=>?_)) (fun c1=>?_)
 ·have c1:s.i<(List.length s.rows:Int):=by simpa using c1
  refine .inr ⟨rfl,rfl,s.i.toNat,by simp only;omega,?_⟩
  rw [Int.toNat_of_nonneg (by omega)]
  have hg:JJ s s.i=false:=by unfold JJ;(first|(have c2:(!(rowB s.al s.am (o7 s.rows s.i)))=false:=c2;simpa using c2) |(have c2:(!(rowB s.al s.am (o7 s.rows s.i)))=true:=c2;simpa using c2))
  exact hg
 ·have c1:s.i<(List.length s.rows:Int):=by simpa using c1
  have hg:JJ s s.i=true:=by unfold JJ;(first|(have c2:(!(rowB s.al s.am (o7 s.rows s.i)))=false:=c2;simpa using c2) |(have c2:(!(rowB s.al s.am (o7 s.rows s.i)))=true:=c2;simpa using c2))
  rw [aK (x:=s.i+1) (by omega) (by omega)]
  refine ⟨⟨by simp only;omega,by simp only;omega,h2,h3,fun j hj=>?_⟩,by simp only [OJ];omega⟩
  by_cases hji:(j:Int)<s.i
  ·exact h4 j hji
  ·have:(j:Int)=s.i:=by simp only at hj;omega
   rw [this];exact hg
 ·have c1:(List.length s.rows:Int)≤s.i:=by simpa using c1
  exact .inl ⟨rfl,fun j hj=>h4 j (by omega)⟩
def EG:bK oP:=⟨0,22,[0,1,2,6,7],[],aC9,aB8,fun v _=>⟨aQ CQ (v.getD 0 .junk),aQ (.int .i64) (v.getD 1 .junk),aQ (.int .i64) (v.getD 2 .junk),uT (v.getD 3 .junk),gI (v.getD 4 .junk)⟩,Ze,fun s r=> {r with rows:=s.rows,al:=s.al,am:=s.am},fun s=>s,fun _ s=>s,[.ret,.exit 0],akZ,ML,OJ⟩
abbrev ZR:=EG.run
abbrev aby:=EG.jG
abbrev axZ:=EG.q
theorem auE (s:oP) (hI:ML s):(Ze s).all (fun _=>True):=by
 refine ⟨fun c1=>⟨?_,?_,fun _=>trivial,fun _=>trivial⟩,fun _=>trivial⟩
 all_goals ((obtain ⟨h0,h1,h2,h3,h4⟩:=hI;simp only [decide_eq_true_eq] at c1;first|omega|exact h3 _ (by rw [yO (by omega)];exact List.getElem_mem _)))
noncomputable def aiV:Specs:=bf [(59,X4)]
theorem aro:∀g S,aiV g=some S→Valid Tryz.prog aS g S:=aT (l:=[(59,X4)]) ⟨as7,trivial⟩
theorem ag0:EG.Ok:=⟨fun s=>by kernel_rfl,fun s=>by kernel_rfl,fun s=>rfl,fun s t r=>rfl,fun s=>rfl,fun s=>by kernel_rfl⟩
theorem afS:EG.Pf (akk):=⟨azG,fun _ _=>rfl,avn,auE⟩
theorem al2:bn Tryz.prog aS (AN 0) (.loop AU) EG.lp:=bK.snd ag0 afS (aP (Γ:=aiV) (K:=dY) (L:=aC) aro aF AU (fun b hb=>by rw [show aB AU=[] by kernel_rfl] at hb;cases hb)) (fun s=>by kernel_rfl)
theorem am4 (s:oP) (hE:akZ s):∃s',ML s'∧akk (aby s) s' (ZR s):=bK.fin ag0 afS s hE
def UE:List LV→T LV
 | [.xl (.pair (.int .i64) (.sl (.int .i64))) rows,.xl (.int .i64) al,.xl (.int .i64) am]=> .req ((List.length rows:Int)≤1000∧∀r∈rows,GU al am r) (.ok (.v (.bool (yc rows al am))))
 |_=> .no
noncomputable def Qw:List LV→T LV:=gJ Tryz.prog Tryz.f25.params.toList UE
theorem ahL (rows:List Rw) (al am:List Int):bT Tryz.prog aS (aiV) dY (fun i=>if i=2 then EG.lp else aC i) Tryz.f25 [.xl CQ rows,.xl (.int .i64) al,.xl (.int .i64) am]=.req (axZ (⟨rows,al,am,false,(0:Int)⟩:oP)) (.br (iw (aby (⟨rows,al,am,false,(0:Int)⟩:oP)) (.ret)) (.ok (.v (.bool (ZR (⟨rows,al,am,false,(0:Int)⟩:oP)).r))) (.ok (.v (.bool true)))):=by kernel_rfl
theorem alp:Valid Tryz.prog aS 25 Qw:=aH Tryz.func25 rfl aro aF (L:=(fun i=>if i=2 then EG.lp else aC i)) (fun b hb=>by
 rw [show aB _=[AU] by kernel_rfl] at hb
 simp only [List.mem_cons,List.not_mem_nil,or_false] at hb
 subst hb
 exact al2) (fun args lv h=>by
 unfold UE at h
 split at h
 ·simp only [canL,canX]
  rw [ahL]
  rename_i rows al am
  obtain ⟨⟨hl,hr⟩,rfl⟩:=h
  refine mQ ⟨⟨rfl,Int.natCast_nonneg _,hl,hr⟩,rfl,rfl⟩ (fun hE=>?_)
  obtain ⟨s',_,hq⟩:=am4 _ hE.1
  unfold yc
  rcases hq with ⟨q1,q2⟩ |⟨q1,q2,j,q3,q4⟩
  ·have e:rows.all (rowB al am)=true:=(iM (d:=((0,[]):Rw))).1 fun j hj=>q2 j hj
   rw [q1,e]
   exact ⟨fun h=>(by cases h),fun _=>rfl⟩
  ·have e:rows.all (rowB al am)=false:=by
    rw [Bool.eq_false_iff]
    intro hx
    have:=(iM (d:=((0,[]):Rw))).2 hx j q3
    exact Bool.noConfusion (this.symm.trans q4)
   rw [q1,q2,e]
   exact ⟨fun _=>rfl,fun h=>by cases h⟩
 ·cases h)
structure jP where
 a:List Int
 b:List Int
 r:Bool
 i:Int
def ayJ (s:jP):List LV:=[.xl (.int .i64) s.a,.xl (.int .i64) s.b,.v (.bool s.r),.v (.int .i64 s.i)]
def ayI (_:jP):List aU:=[]
noncomputable def xN:Code:=((aB (Tryz.f16.body.getD .skip))[0]?).getD .skip
def NV (s:jP):T (Rd jP):=
 .br (decide (s.i<(List.length s.a:Int))) (.req (0≤s.i∧s.i<(List.length s.a:Int)) (.req (0≤s.i∧s.i<(List.length s.b:Int)) (.br ((gi s.a s.i) !=(gi s.b s.i)) (.ok (.stop (.ret) {s with r:=false})) (.ok (.next {s with i:=(IntKind.i64.wrap (s.i+1))}))))) (.ok (.stop (.exit 0) s))
abbrev ai9 (s:jP):=(NV s).rd s
def zf (s:jP) (j:Int):Bool:=gi s.a j==gi s.b j
def YL (s:jP):Prop:=s.i=0∧0≤(List.length s.a:Int)∧(List.length s.a:Int)≤1000∧s.a.length=s.b.length
def DK (s:jP):Prop:=0≤s.i∧s.i≤(List.length s.a:Int)∧(List.length s.a:Int)≤1000∧(s.a.length=s.b.length)∧∀j:Nat,(j:Int)<s.i→zf s j=true
def FZ (s:jP):Nat:=((List.length s.a:Int)-s.i).toNat
def YG (x:Ex) (_ s':jP):Prop:=(x=.exit 0∧∀j:Nat,(j:Int)<(List.length s'.a:Int)→zf s' j=true)∨(x=.ret∧s'.r=false∧∃j:Nat,(j:Int)<(List.length s'.a:Int)∧zf s' j=false)
theorem avw:∀s,YL s→DK s:=by
 intro s h
 obtain ⟨h0,h1,h2,h3⟩:=h
 exact ⟨by omega,by omega,h2,h3,fun j hj=>by omega⟩
theorem ang (s:jP) (hI:DK s):bJ (fun s'=>DK s'∧FZ s'<FZ s) (fun x s'=>YG x s s') (ai9 s):=by
 unfold ai9 NV
 dsimp only [T.rd,T.rl]
 obtain ⟨h0,h1,h2,h3,h4⟩:=hI
 refine au (fun c1=>au (fun c2=>?_) (fun c2=>?_)) (fun c1=>?_)
 ·have c1:s.i<(List.length s.a:Int):=by simpa using c1
  refine .inr ⟨rfl,rfl,s.i.toNat,by simp only;omega,?_⟩
  rw [Int.toNat_of_nonneg (by omega)]
  have hg:zf s s.i=false:=by unfold zf;(simpa using c2)
  exact hg
 ·have c1:s.i<(List.length s.a:Int):=by simpa using c1
  have hg:zf s s.i=true:=by unfold zf;(simpa using c2)
  rw [aK (x:=s.i+1) (by omega) (by omega)]
  refine ⟨⟨by simp only;omega,by simp only;omega,h2,h3,fun j hj=>?_⟩,by simp only [FZ];omega⟩
  by_cases hji:(j:Int)<s.i
  ·exact h4 j hji
  ·have:(j:Int)=s.i:=by simp only at hj;omega
   rw [this];exact hg
 ·have c1:(List.length s.a:Int)≤s.i:=by simpa using c1
  exact .inl ⟨rfl,fun j hj=>h4 j (by omega)⟩
def wM:bK jP:=⟨0,26,[0,1,4,5],[],ayJ,ayI,fun v _=>⟨aQ (.int .i64) (v.getD 0 .junk),aQ (.int .i64) (v.getD 1 .junk),uT (v.getD 2 .junk),gI (v.getD 3 .junk)⟩,NV,fun s r=> {r with a:=s.a,b:=s.b},fun s=>s,fun _ s=>s,[.ret,.exit 0],YL,DK,FZ⟩
abbrev Sz:=wM.run
abbrev TW:=wM.jG
abbrev aqi:=wM.q
theorem am3 (s:jP) (hI:DK s):(NV s).all (fun _=>True):=by
 refine ⟨fun c1=>⟨?_,?_,fun _=>trivial,fun _=>trivial⟩,fun _=>trivial⟩
 all_goals ((obtain ⟨h0,h1,h2,h3,h4⟩:=hI;simp at c1;omega))
theorem aai:wM.Ok:=⟨fun s=>by kernel_rfl,fun s=>by kernel_rfl,fun s=>rfl,fun s t r=>rfl,fun s=>rfl,fun s=>by kernel_rfl⟩
theorem aah:wM.Pf (YG):=⟨avw,fun _ _=>rfl,ang,am3⟩
theorem ae7:bn Tryz.prog aS (AN 0) (.loop xN) wM.lp:=bK.snd aai aah (aP (Γ:=TI) (K:=dY) (L:=aC) aaN aF xN (fun b hb=>by rw [show aB xN=[] by kernel_rfl] at hb;cases hb)) (fun s=>by kernel_rfl)
theorem afx (s:jP) (hE:YL s):∃s',DK s'∧YG (TW s) s' (Sz s):=bK.fin aai aah s hE
def UG:List LV→T LV
 | [.xl (.int .i64) a,.xl (.int .i64) b]=> .req ((List.length a:Int)≤1000) (.ok (.v (.bool (a==b))))
 |_=> .no
noncomputable def Cc:List LV→T LV:=gJ Tryz.prog Tryz.f16.params.toList UG
theorem ahN (a b:List Int):bT Tryz.prog aS (TI) dY (fun i=>if i=4 then wM.lp else aC i) Tryz.f16 [.xl (.int .i64) a,.xl (.int .i64) b]=.br ((List.length a:Int) !=(List.length b:Int)) (.ok (.v (.bool false))) (.req (aqi (⟨a,b,false,(0:Int)⟩:jP)) (.br (iw (TW (⟨a,b,false,(0:Int)⟩:jP)) (.ret)) (.ok (.v (.bool (Sz (⟨a,b,false,(0:Int)⟩:jP)).r))) (.ok (.v (.bool true))))):=by kernel_rfl
theorem YR:Valid Tryz.prog aS 16 Cc:=aH Tryz.func16 rfl aaN aF (L:=(fun i=>if i=4 then wM.lp else aC i)) (fun b hb=>by
 rw [show aB _=[xN] by kernel_rfl] at hb
 simp only [List.mem_cons,List.not_mem_nil,or_false] at hb
 subst hb
 exact ae7) (fun args lv h=>by
 unfold UG at h
 split at h
 ·simp only [canL,canX]
  rw [ahN]
  rename_i a b
  obtain ⟨hl,rfl⟩:=h
  refine ⟨fun c=>congrArg (fun z=>LV.v (.bool z)) ?_,fun c=>?_⟩
  ·have c:¬a.length=b.length:=by simp at c;omega
   rw [eq_comm,beq_eq_false_iff_ne]
   exact fun e=>c (by rw [e])
  ·have c:a.length=b.length:=by simp at c;omega
   refine mQ ⟨⟨rfl,Int.natCast_nonneg _,hl,c⟩,rfl,rfl⟩ (fun hE=>?_)
   obtain ⟨s',_,hq⟩:=afx _ hE.1
   rcases hq with ⟨q1,q2⟩ |⟨q1,q2,j,q3,q4⟩
   ·have e:(a==b)=true:=by
     rw [beq_iff_eq]
     refine List.ext_getElem c fun j h1 h2=>?_
     have:(gi a j==gi b j)=true:=q2 j (by show (j:Int)<(a.length:Int);omega)
     rw [nH (by simpa using h1),nH (by simpa using h2)] at this
     simpa using this
    rw [q1,e]
    exact ⟨fun h=>(by cases h),fun _=>rfl⟩
   ·have e:(a==b)=false:=by
     rw [beq_eq_false_iff_ne]
     rintro rfl
     have q4:(gi a j==gi a j)=false:=q4
     simp at q4
    rw [q1,q2,e]
    exact ⟨fun _=>rfl,fun h=>by cases h⟩
 ·cases h)
end Go.Proofs.YtlihnbimgclogaaGreatDoor
namespace Go.Proofs.YtlihnbimgclogaaGreatDoor
open Go.Sx
structure nM where
 l:List ByteArray
 k:Int
 i:Int
 bI:Value
 iP:Value
 fG:Value
 fZ:Value
 mP:Value
 ah:List Cd
 aA:List ByteArray
 aj:Value
 aJ:Value
 gs:List Ch
def aDl (s:nM):List LV:=[.own 0 0,.own 1 0,.xl .str s.l,.v (.int .i64 s.k),.v (.int .i64 s.i)]
def aCk (s:nM):List aU:=[⟨[.v (s.bI),.v (s.iP),.v (s.fG),.v (s.fZ),.v (s.mP)],28,.cl,false⟩,⟨[.xl dU s.ah,.xl .str s.aA,.v (s.aj),.os 2 8 0 (List.length s.gs),.v (s.aJ)],28,.cl,false⟩,⟨[],58,.vec dM s.gs,false⟩]
noncomputable def Bg:Code:=((aB (Tryz.f33.body.getD .skip))[0]?).getD .skip
def Zk (s:nM):T (Rd nM):=
 .br (decide (s.i<s.k)) (.req (0≤s.i∧s.i<(List.length s.l:Int)) (.req (0+(List.length s.gs)=List.length s.gs∧((List.length s.gs+List.length ([((gS s.l s.i),((0:Int),((1:Int),((6:Int),((10:Int),((1:Int),((0:Int),(0:Int))))))))]):Nat):Int)*72≤2^47∧((List.length s.gs+List.length ([((gS s.l s.i),((0:Int),((1:Int),((6:Int),((10:Int),((1:Int),((0:Int),(0:Int))))))))]):Nat):Int)<2^62) (.req (0=0∧(List.length s.gs+List.length ([((gS s.l s.i),((0:Int),((1:Int),((6:Int),((10:Int),((1:Int),((0:Int),(0:Int))))))))]))=List.length (s.gs++([((gS s.l s.i),((0:Int),((1:Int),((6:Int),((10:Int),((1:Int),((0:Int),(0:Int))))))))]))) (.ok (.next {s with i:=(IntKind.i64.wrap (s.i+1)),gs:=(s.gs++([((gS s.l s.i),((0:Int),((1:Int),((6:Int),((10:Int),((1:Int),((0:Int),(0:Int))))))))]))}))))) (.rl s.gs (.ok (.stop (.exit 0) s)))
abbrev ar6 (s:nM):=(Zk s).rd s
def pkG:List Ch:=[(ByteArray.mk #[120],0,1,6,10,1,0,0),(ByteArray.mk #[121],0,1,6,10,1,0,0)]
def pkC (n:Int):List Cd:=[(ByteArray.mk #[102],-1,n,100,(0,0),0,0,0,0,0)]
def pkS:List ByteArray:=[ByteArray.mk #[120],ByteArray.mk #[121]]
def adp (s:nM):Prop:=s.i=0∧s.gs=[]∧s.l=pkS∧s.k=2
def MR (s:nM):Prop:=(0≤s.i∧s.i≤2)∧s.gs=pkG.take s.i.toNat∧s.l=pkS∧s.k=2
def OZ (s:nM):Nat:=(2-s.i).toNat
def akp (x:Ex) (_ s':nM):Prop:=x=.exit 0∧s'.gs=pkG
theorem az8:∀s,adp s→MR s:=by
 intro s h
 obtain ⟨h0,h1,h2⟩:=h
 exact ⟨by omega,by rw [h0,h1];rfl,h2⟩
theorem avE (s:nM) (hI:MR s):bJ (fun s'=>MR s'∧OZ s'<OZ s) (fun x s'=>akp x s s') (ar6 s):=by
 unfold ar6 Zk
 dsimp only [T.rd,T.rl]
 obtain ⟨⟨h0,h1⟩,h2,h3,h4⟩:=hI
 refine au (fun c1=>?_) (fun c1=>?_)
 ·have c1:s.i<2:=by simpa [h4] using c1
  rw [aK (x:=s.i+1) (by omega) (by omega)]
  refine ⟨⟨⟨by simp only;omega,by simp only;omega⟩,?_,h3,h4⟩,by simp only [OZ];omega⟩
  simp only
  rw [h2,h3]
  rcases (by omega:s.i=0∨s.i=1) with e|e<;>rw [e]<;>rfl
 ·have c1:2≤s.i:=by simpa [h4] using c1
  refine ⟨rfl,?_⟩
  rw [h2,show s.i.toNat=2 by omega]
  rfl
def ER:bK nM:=⟨0,27,[2,3,12,13,14],[.nc 1 3 58 dM],aDl,aCk,fun v b=>⟨aQ .str (v.getD 2 .junk),gI (v.getD 3 .junk),gI (v.getD 4 .junk),gAn (aX (aO b 0) 0),gAn (aX (aO b 0) 1),gAn (aX (aO b 0) 2),gAn (aX (aO b 0) 3),gAn (aX (aO b 0) 4),aQ dU (aX (aO b 1) 0),aQ .str (aX (aO b 1) 1),gAn (aX (aO b 1) 2),gAn (aX (aO b 1) 4),iT dM (aO b 2)⟩,Zk,fun s r=> {r with l:=s.l,k:=s.k,bI:=s.bI,iP:=s.iP,fG:=s.fG,fZ:=s.fZ,mP:=s.mP,ah:=s.ah,aA:=s.aA,aj:=s.aj,aJ:=s.aJ},fun s=>s,fun _ s=>s,[.exit 0],adp,MR,OZ⟩
abbrev wU:=ER.run
abbrev apq:=ER.jG
abbrev ayc:=ER.q
theorem auQ (s:nM) (hI:MR s):(Zk s).all (fun _=>True):=by
 refine ⟨fun c1=>⟨?_,?_,?_,trivial⟩,fun c1=>⟨⟨rfl,rfl⟩,trivial⟩⟩
 all_goals ((obtain ⟨⟨h0,h1⟩,h2,h3,h4⟩:=hI;simp only [decide_eq_true_eq] at c1;have hl:s.l.length=2:=(by rw [h3];rfl);have hg:s.gs.length≤2:=(by rw [h2,List.length_take];show min _ 2≤2;omega);first|omega|(refine ⟨by omega,?_,?_⟩<;>simp only [List.length_cons,List.length_nil]<;>omega) |exact ⟨rfl,by simp⟩))
noncomputable def Xp:Specs:=bf []
theorem aiL:∀g S,Xp g=some S→Valid Tryz.prog aS g S:=aT (l:=[]) trivial
theorem ahb:ER.Ok:=⟨fun s=>by kernel_rfl,fun s=>by kernel_rfl,fun s=>rfl,fun s t r=>rfl,fun s=>rfl,fun s=>by kernel_rfl⟩
theorem af5:ER.Pf (akp):=⟨az8,fun _ _=>rfl,avE,auQ⟩
theorem ame:bn Tryz.prog aS (AN 0) (.loop Bg) ER.lp:=bK.snd ahb af5 (aP (Γ:=Xp) (K:=dY) (L:=aC) aiL aF Bg (fun b hb=>by rw [show aB Bg=[] by kernel_rfl] at hb;cases hb)) (fun s=>by kernel_rfl)
theorem anl (s:nM) (hE:adp s):∃s',MR s'∧akp (apq s) s' (wU s):=bK.fin ahb af5 s hE
def acD:List LV→T LV
 | [.v (.int .i64 n)]=> .ok (.agg [.xl dU (pkC n),.xl .str ([(ByteArray.mk #[111])]),.xl dW ([]:List Ko),.xl dM pkG,.xl dX ([]:List Ba)])
 |_=> .no
noncomputable def Yh:List LV→T LV:=gJ Tryz.prog Tryz.f33.params.toList acD
theorem aod (n:Int):bT Tryz.prog aS (Xp) dY (fun i=>if i=3 then ER.lp else aC i) Tryz.f33 [.v (.int .i64 n)]=.req (0=0∧0=List.length ([]:List Ch)) (.req (ayc (⟨([(ByteArray.mk #[120]),(ByteArray.mk #[121])]),(List.length ([(ByteArray.mk #[120]),(ByteArray.mk #[121])]):Int),(0:Int),(.slice none 0 0),(.slice none 0 0),(.slice none 0 0),(.slice none 0 0),(.slice none 0 0),([((ByteArray.mk #[102]),((-1:Int),(n,((100:Int),(((0:Int),(0:Int)),((0:Int),((0:Int),((0:Int),((0:Int),(0:Int))))))))))]),([(ByteArray.mk #[111])]),(.slice none 0 0),(.slice none 0 0),([]:List Ch)⟩:nM)) (.req (0+(List.length (wU (⟨([(ByteArray.mk #[120]),(ByteArray.mk #[121])]),(List.length ([(ByteArray.mk #[120]),(ByteArray.mk #[121])]):Int),(0:Int),(.slice none 0 0),(.slice none 0 0),(.slice none 0 0),(.slice none 0 0),(.slice none 0 0),([((ByteArray.mk #[102]),((-1:Int),(n,((100:Int),(((0:Int),(0:Int)),((0:Int),((0:Int),((0:Int),((0:Int),(0:Int))))))))))]),([(ByteArray.mk #[111])]),(.slice none 0 0),(.slice none 0 0),([]:List Ch)⟩:nM)).gs)≤List.length (wU (⟨([(ByteArray.mk #[120]),(ByteArray.mk #[121])]),(List.length ([(ByteArray.mk #[120]),(ByteArray.mk #[121])]):Int),(0:Int),(.slice none 0 0),(.slice none 0 0),(.slice none 0 0),(.slice none 0 0),(.slice none 0 0),([((ByteArray.mk #[102]),((-1:Int),(n,((100:Int),(((0:Int),(0:Int)),((0:Int),((0:Int),((0:Int),((0:Int),(0:Int))))))))))]),([(ByteArray.mk #[111])]),(.slice none 0 0),(.slice none 0 0),([]:List Ch)⟩:nM)).gs) (.ok (.agg [.xl dU ([((ByteArray.mk #[102]),((-1:Int),(n,((100:Int),(((0:Int),(0:Int)),((0:Int),((0:Int),((0:Int),((0:Int),(0:Int))))))))))]),.xl .str ([(ByteArray.mk #[111])]),.xl dW ([]:List Ko),.xl dM (((wU (⟨([(ByteArray.mk #[120]),(ByteArray.mk #[121])]),(List.length ([(ByteArray.mk #[120]),(ByteArray.mk #[121])]):Int),(0:Int),(.slice none 0 0),(.slice none 0 0),(.slice none 0 0),(.slice none 0 0),(.slice none 0 0),([((ByteArray.mk #[102]),((-1:Int),(n,((100:Int),(((0:Int),(0:Int)),((0:Int),((0:Int),((0:Int),((0:Int),(0:Int))))))))))]),([(ByteArray.mk #[111])]),(.slice none 0 0),(.slice none 0 0),([]:List Ch)⟩:nM)).gs.drop 0).take (List.length (wU (⟨([(ByteArray.mk #[120]),(ByteArray.mk #[121])]),(List.length ([(ByteArray.mk #[120]),(ByteArray.mk #[121])]):Int),(0:Int),(.slice none 0 0),(.slice none 0 0),(.slice none 0 0),(.slice none 0 0),(.slice none 0 0),([((ByteArray.mk #[102]),((-1:Int),(n,((100:Int),(((0:Int),(0:Int)),((0:Int),((0:Int),((0:Int),((0:Int),(0:Int))))))))))]),([(ByteArray.mk #[111])]),(.slice none 0 0),(.slice none 0 0),([]:List Ch)⟩:nM)).gs)),.xl dX ([]:List Ba)])))):=by kernel_rfl
theorem atm:Valid Tryz.prog aS 33 Yh:=aH Tryz.func33 rfl aiL aF (L:=(fun i=>if i=3 then ER.lp else aC i)) (fun b hb=>by
 rw [show aB _=[Bg] by kernel_rfl] at hb
 simp only [List.mem_cons,List.not_mem_nil,or_false] at hb
 subst hb
 exact ame) (fun args lv h=>by
 unfold acD at h
 split at h
 ·simp only [canL,canX]
  rw [aod]
  rename_i n
  obtain rfl:=h
  have hE:adp ⟨([(ByteArray.mk #[120]),(ByteArray.mk #[121])]),(List.length ([(ByteArray.mk #[120]),(ByteArray.mk #[121])]):Int),0,.slice none 0 0,.slice none 0 0,.slice none 0 0,.slice none 0 0,.slice none 0 0,[((ByteArray.mk #[102]),-1,n,100,(0,0),0,0,0,0,0)],[(ByteArray.mk #[111])],.slice none 0 0,.slice none 0 0,[]⟩:=⟨rfl,rfl,rfl,rfl⟩
  obtain ⟨_,_,q1,q2⟩:=anl _ hE
  have q2:(wU ⟨([(ByteArray.mk #[120]),(ByteArray.mk #[121])]),(List.length ([(ByteArray.mk #[120]),(ByteArray.mk #[121])]):Int),0,.slice none 0 0,.slice none 0 0,.slice none 0 0,.slice none 0 0,.slice none 0 0,[((ByteArray.mk #[102]),-1,n,100,(0,0),0,0,0,0,0)],[(ByteArray.mk #[111])],.slice none 0 0,.slice none 0 0,[]⟩).gs=pkG:=q2
  refine ⟨⟨rfl,rfl⟩,⟨hE,rfl,rfl⟩,by omega,?_⟩
  rw [List.drop_zero,List.take_length,q2]
  rfl
 ·cases h)
def acS:List LV→T LV
 | []=> .ok (.v (.bool true))
 |_=> .no
noncomputable def Yr:List LV→T LV:=gJ Tryz.prog Tryz.f11.params.toList acS
noncomputable def ai1:Specs:=bf [(14,Jv),(16,Cc),(19,y7),(33,Yh)]
theorem awN:∀g S,ai1 g=some S→Valid Tryz.prog aS g S:=aT (l:=[(14,Jv),(16,Cc),(19,y7),(33,Yh)]) ⟨ae2,YR,VD,atm,trivial⟩
theorem aos:(bT Tryz.prog aS (ai1) dY aC Tryz.f11 []).red=.req (xP ([(true,((0:Int),((0:Int),(2:Int)))),(true,((0:Int),((50:Int),(1:Int))))]) (40:Int)∧([(true,((0:Int),((0:Int),(2:Int)))),(true,((0:Int),((50:Int),(1:Int))))]).length≤19) (.req (xP ([(true,((0:Int),((0:Int),(2:Int)))),(true,((0:Int),((50:Int),(1:Int))))]) (40:Int)∧([(true,((0:Int),((0:Int),(2:Int)))),(true,((0:Int),((50:Int),(1:Int))))]).length≤19) (.req (0≤(0:Int)∧(0:Int)≤(1:Int)∧(1:Int)≤(List.length ([((0:Int),(9:Int)),((0:Int),(9:Int))]):Int)) (.req (xP ([(true,((0:Int),((0:Int),(2:Int)))),(true,((0:Int),((50:Int),(1:Int))))]) (40:Int)∧([(true,((0:Int),((0:Int),(2:Int)))),(true,((0:Int),((50:Int),(1:Int))))]).length≤19) (.req ((List.length (uU (pkC (10:Int)) ([(ByteArray.mk #[111])]) ([]:List Ko) pkG ([]:List Ba) ([]:List Le) ([((0:Int),(9:Int)),((0:Int),(9:Int))]) ([(true,((0:Int),((0:Int),(2:Int)))),(true,((0:Int),((50:Int),(1:Int))))]) (40:Int) (7:Int)):Int)≤1000) (.req (0≤(1:Int)∧1<(List.length (deR (pkC (10:Int)) ([(ByteArray.mk #[111])]) ([]:List Ko) pkG ([]:List Ba) ([]:List Le) ([((0:Int),(9:Int)),((0:Int),(9:Int))]) ([(true,((0:Int),((0:Int),(2:Int)))),(true,((0:Int),((50:Int),(1:Int))))]) (40:Int) (7:Int)):Int)) (.req (0≤(0:Int)∧0<(List.length (deR (pkC (10:Int)) ([(ByteArray.mk #[111])]) ([]:List Ko) pkG ([]:List Ba) ([]:List Le) ([((0:Int),(9:Int)),((0:Int),(9:Int))]) ([(true,((0:Int),((0:Int),(2:Int)))),(true,((0:Int),((50:Int),(1:Int))))]) (40:Int) (7:Int)):Int)) (.req (0≤(0:Int)∧0<(List.length (qO (pkC (10:Int)) ([(ByteArray.mk #[111])]) ([]:List Ko) pkG ([]:List Ba) ([]:List Le) ([((0:Int),(9:Int)),((0:Int),(9:Int))]) ([(true,((0:Int),((0:Int),(2:Int)))),(true,((0:Int),((50:Int),(1:Int))))]) (40:Int) (7:Int)):Int)) (.req ((List.length (uU (pkC (20:Int)) ([(ByteArray.mk #[111])]) ([]:List Ko) pkG ([]:List Ba) ([((3:Int),((1:Int),((20:Int),((30:Int),(12:Int)))))]) ([((0:Int),(9:Int)),((0:Int),(9:Int))]) ([(true,((0:Int),((0:Int),(2:Int)))),(true,((0:Int),((50:Int),(1:Int))))]) (40:Int) (7:Int)):Int)≤1000) (.req (xP ([(true,((0:Int),((0:Int),(2:Int)))),(true,((0:Int),((50:Int),(1:Int))))]) (40:Int)∧([(true,((0:Int),((0:Int),(2:Int)))),(true,((0:Int),((50:Int),(1:Int))))]).length≤19) (.req ((List.length (jF ([(true,((0:Int),((0:Int),(2:Int)))),(true,((0:Int),((50:Int),(1:Int))))]) (40:Int)):Int)≤1000) (.ok (.v (.bool true))))))))))))):=by kernel_rfl
theorem atx:Valid Tryz.prog aS 11 Yr:=aH Tryz.func11 rfl awN aF (aY (by kernel_rfl)) (fun args lv h=>by
 unfold acS at h
 split at h
 ·simp only [canL]
  refine @T.Gq _ _ _ ?_
  rw [aos]
  exact ⟨(by first|decide+kernel|(unfold xP;decide+kernel)),(by first|decide+kernel|(unfold xP;decide+kernel)),(by first|decide+kernel|(unfold xP;decide+kernel)),(by first|decide+kernel|(unfold xP;decide+kernel)),(by first|decide+kernel|(unfold xP;decide+kernel)),(by first|decide+kernel|(unfold xP;decide+kernel)),(by first|decide+kernel|(unfold xP;decide+kernel)),(by first|decide+kernel|(unfold xP;decide+kernel)),(by first|decide+kernel|(unfold xP;decide+kernel)),(by first|decide+kernel|(unfold xP;decide+kernel)),(by first|decide+kernel|(unfold xP;decide+kernel)),h⟩
 ·cases h)
end Go.Proofs.YtlihnbimgclogaaGreatDoor
namespace Go.Proofs.YtlihnbimgclogaaGreatDoor
open Go.Sx
structure iY where
 d:List Dm
 tick:Int
 m:List Ch
 k:Int
 i:Int
 ah:List Cd
 aA:List ByteArray
 aj:List Ko
 ai:List Ch
 aJ:List Ba
 base:List Int
 most:List Int
def aDv (s:iY):List LV:=[.xl pU s.d,.v (.int .i64 s.tick),.own 0 0,.os 1 1 0 (List.length s.base),.os 2 1 0 (List.length s.most),.xl dM s.m,.v (.int .i64 s.k),.v (.int .i64 s.i)]
def aCu (s:iY):List aU:=[⟨[.xl dU s.ah,.xl .str s.aA,.xl dW s.aj,.xl dM s.ai,.xl dX s.aJ],28,.cl,false⟩,⟨[],3,.vec (.int .i64) s.base,false⟩,⟨[],3,.vec (.int .i64) s.most,false⟩]
noncomputable def BA:Code:=((aB (Tryz.f23.body.getD .skip))[0]?).getD .skip
def Zn (s:iY):T (Rd iY):=
 .br (decide (s.i<s.k)) (.req (0≤s.i∧s.i<(List.length s.m:Int)) (.req (0+(List.length s.base)=List.length s.base∧((List.length s.base+List.length ([(aW s.m s.i).2.2.2.2.2.2.1]):Nat):Int)*8≤2^47∧((List.length s.base+List.length ([(aW s.m s.i).2.2.2.2.2.2.1]):Nat):Int)<2^62) (.req (0+(List.length s.most)=List.length s.most∧((List.length s.most+List.length ([(0:Int)]):Nat):Int)*8≤2^47∧((List.length s.most+List.length ([(0:Int)]):Nat):Int)<2^62) (.req (0≤s.i∧s.i<(List.length s.d:Int)) (.br (lV s.d s.i).1 (.req (0≤s.i∧s.i<((List.length s.most+List.length ([(0:Int)]):Nat):Int)) (.req (s.i.toNat<List.length (s.most++([(0:Int)]))) (.req (0=0∧(List.length s.base+List.length ([(aW s.m s.i).2.2.2.2.2.2.1]))=List.length (s.base++([(aW s.m s.i).2.2.2.2.2.2.1]))) (.req (0=0∧(List.length s.most+List.length ([(0:Int)]))=List.length ((s.most++([(0:Int)])).set s.i.toNat (aW s.m s.i).2.2.2.2.1)) (.ok (.next {s with i:=(IntKind.i64.wrap (s.i+1)),base:=(s.base++([(aW s.m s.i).2.2.2.2.2.2.1])),most:=((s.most++([(0:Int)])).set s.i.toNat (aW s.m s.i).2.2.2.2.1)})))))) (.req (0=0∧(List.length s.base+List.length ([(aW s.m s.i).2.2.2.2.2.2.1]))=List.length (s.base++([(aW s.m s.i).2.2.2.2.2.2.1]))) (.req (0=0∧(List.length s.most+List.length ([(0:Int)]))=List.length (s.most++([(0:Int)]))) (.ok (.next {s with i:=(IntKind.i64.wrap (s.i+1)),base:=(s.base++([(aW s.m s.i).2.2.2.2.2.2.1])),most:=(s.most++([(0:Int)]))}))))))))) (.rl s.base (.rl s.most (.ok (.stop (.exit 0) s))))
abbrev ar9 (s:iY):=(Zn s).rd s
def ads (s:iY):Prop:=s.i=0∧s.base=[]∧s.most=[]∧s.k=(List.length s.m:Int)∧s.k≤1000∧s.d.length=s.m.length
def Nc (s:iY):Prop:=(0≤s.i∧s.i≤s.k)∧s.base=qc s.i.toNat (fun j=>Af (aW s.m j))∧s.most=qc s.i.toNat (fun j=>if (lV s.d j).1=true then (aW s.m j).2.2.2.2.1 else 0)∧s.k=(List.length s.m:Int)∧s.k≤1000∧s.d.length=s.m.length
def H8 (s:iY):Nat:=(s.k-s.i).toNat
def aky (x:Ex) (_ s':iY):Prop:=x=.exit 0∧s'.base=qc s'.m.length (fun j=>Af (aW s'.m j))∧s'.most=qc s'.m.length (fun j=>if (lV s'.d j).1=true then (aW s'.m j).2.2.2.2.1 else 0)
theorem aAo:∀s,ads s→Nc s:=by
 intro s h
 obtain ⟨h0,hb,hm,h2⟩:=h
 exact ⟨by omega,by rw [h0,hb];rfl,by rw [h0,hm];rfl,h2⟩
theorem awn (s:iY) (hI:Nc s):bJ (fun s'=>Nc s'∧H8 s'<H8 s) (fun x s'=>aky x s s') (ar9 s):=by
 unfold ar9 Zn
 dsimp only [T.rd,T.rl]
 obtain ⟨⟨h0,h1⟩,hb,hm,h2,h3,h4⟩:=hI
 have hbl:s.base.length=s.i.toNat:=(by rw [hb,dN])
 have hml:s.most.length=s.i.toNat:=(by rw [hm,dN])
 refine au (fun c1=>?_) (fun c1=>?_)
 ·refine au (fun c2=>?_) (fun c2=>?_)
  ·have c1:s.i<s.k:=by simpa using c1
   rw [aK (x:=s.i+1) (by omega) (by omega)]
   have hs:s.i.toNat+1=(s.i+1).toNat:=by omega
   refine ⟨⟨⟨by simp only;omega,by simp only;omega⟩,by simp only;rw [←hs,nU,←hb,Int.toNat_of_nonneg h0];rfl,?_,h2,h3,h4⟩,by simp only [H8];omega⟩
   simp only
   rw [←hs,nU,←hm,Int.toNat_of_nonneg h0,if_pos (show (lV s.d s.i).1=true from c2),List.set_append_right _ _ (by omega),show s.i.toNat-s.most.length=0 by omega]
   rfl
  ·have c1:s.i<s.k:=by simpa using c1
   rw [aK (x:=s.i+1) (by omega) (by omega)]
   have hs:s.i.toNat+1=(s.i+1).toNat:=by omega
   refine ⟨⟨⟨by simp only;omega,by simp only;omega⟩,by simp only;rw [←hs,nU,←hb,Int.toNat_of_nonneg h0];rfl,?_,h2,h3,h4⟩,by simp only [H8];omega⟩
   simp only
   rw [←hs,nU,←hm,Int.toNat_of_nonneg h0,if_neg (show ¬(lV s.d s.i).1=true by rw [c2];decide)]
 ·have c1:s.k≤s.i:=by simpa using c1
  have hi:s.i.toNat=s.m.length:=by omega
  exact ⟨rfl,by rw [←hi];exact hb,by rw [←hi];exact hm⟩
def E5:bK iY:=⟨0,48,[1,2,3,8,9,13,14,15],[.nl 8 3 (.int .i64),.nl 9 3 (.int .i64)],aDv,aCu,fun v b=>⟨aQ pU (v.getD 0 .junk),gI (v.getD 1 .junk),aQ dM (v.getD 5 .junk),gI (v.getD 6 .junk),gI (v.getD 7 .junk),aQ dU (aX (aO b 0) 0),aQ .str (aX (aO b 0) 1),aQ dW (aX (aO b 0) 2),aQ dM (aX (aO b 0) 3),aQ dX (aX (aO b 0) 4),iT (.int .i64) (aO b 1),iT (.int .i64) (aO b 2)⟩,Zn,fun s r=> {r with d:=s.d,tick:=s.tick,m:=s.m,k:=s.k,ah:=s.ah,aA:=s.aA,aj:=s.aj,ai:=s.ai,aJ:=s.aJ},fun s=>s,fun _ s=>s,[.exit 0],ads,Nc,H8⟩
abbrev jb:=E5.run
abbrev apy:=E5.jG
abbrev ayl:=E5.q
theorem au0 (s:iY) (hI:Nc s):(Zn s).all (fun _=>True):=by
 refine ⟨fun c1=>⟨?_,?_,?_,?_,fun c2=>⟨?_,?_,?_,?_,trivial⟩,fun c2=>⟨?_,?_,trivial⟩⟩,fun c1=>⟨⟨rfl,rfl⟩,⟨rfl,rfl⟩,trivial⟩⟩
 all_goals ((obtain ⟨⟨h0,h1⟩,hb,hm,h2,h3,h4⟩:=hI;have hbl:s.base.length=s.i.toNat:=(by rw [hb,dN]);have hml:s.most.length=s.i.toNat:=(by rw [hm,dN]);(try simp only [decide_eq_true_eq] at c1);first|omega|(refine ⟨by omega,?_,?_⟩<;>simp only [List.length_cons,List.length_nil]<;>omega) |(simp only [List.length_append,List.length_cons,List.length_nil];omega) |(refine ⟨by omega,?_⟩;simp only [List.length_cons,List.length_nil];omega) |exact ⟨rfl,by simp⟩))
noncomputable def Xo:Specs:=bf [(19,y7),(52,y5)]
theorem aiK:∀g S,Xo g=some S→Valid Tryz.prog aS g S:=aT (l:=[(19,y7),(52,y5)]) ⟨VD,VB,trivial⟩
theorem ahe:E5.Ok:=⟨fun s=>by kernel_rfl,fun s=>by kernel_rfl,fun s=>rfl,fun s t r=>rfl,fun s=>rfl,fun s=>by kernel_rfl⟩
theorem af8:E5.Pf (aky):=⟨aAo,fun _ _=>rfl,awn,au0⟩
theorem amn:bn Tryz.prog aS (AN 0) (.loop BA) E5.lp:=bK.snd ahe af8 (aP (Γ:=Xo) (K:=dY) (L:=aC) aiK aF BA (fun b hb=>by rw [show aB BA=[] by kernel_rfl] at hb;cases hb)) (fun s=>by kernel_rfl)
theorem aoN (s:iY) (hE:ads s):∃s',Nc s'∧aky (apy s) s' (jb s):=bK.fin ahe af8 s hE
def acJ:List LV→T LV
 | [.agg [.xl (.pair .str (.pair (.int .i64) (.pair (.int .i64) (.pair (.int .i64) (.pair (.pair (.int .i64) (.int .i64)) (.pair (.int .i64) (.pair (.int .i64) (.pair (.int .i64) (.pair (.int .i64) (.int .i64)))))))))) cs,.xl (.str) os,.xl (.pair .str (.pair (.int .i64) (.pair (.int .i64) (.int .i64)))) ks,.xl (.pair .str (.pair (.int .i64) (.pair (.int .i64) (.pair (.int .i64) (.pair (.int .i64) (.pair (.int .i64) (.pair (.int .i64) (.int .i64)))))))) gs,.xl (.pair .str (.int .i64)) bs],.xl (.pair .bool (.pair (.int .i64) (.pair (.int .i64) (.int .i64)))) d,.v (.int .i64 t)]=> .req (Si cs os ks gs bs d∧xP d t∧d.length≤19) (.ok (.iD [.xl (.int .i64) (qQ cs os ks gs bs d t),.v (.int .i64 0)]))
 |_=> .no
noncomputable def Yk:List LV→T LV:=gJ Tryz.prog Tryz.f23.params.toList acJ
theorem aoj (cs:List Cd) (os:List ByteArray) (ks:List Ko) (gs:List Ch) (bs:List Ba) (d:List Dm) (t:Int):bT Tryz.prog aS (Xo) dY (fun i=>if i=3 then E5.lp else aC i) Tryz.f23 [.agg [.xl dU cs,.xl .str os,.xl dW ks,.xl dM gs,.xl dX bs],.xl pU d,.v (.int .i64 t)]=.req (0=0∧0=List.length ([]:List Int)) (.req (0=0∧0=List.length ([]:List Int)) (.req (ayl (⟨d,t,gs,(List.length gs:Int),(0:Int),cs,os,ks,gs,bs,([]:List Int),([]:List Int)⟩:iY)) (.req (xP d t∧d.length≤19) (.req (0+(List.length (jb (⟨d,t,gs,(List.length gs:Int),(0:Int),cs,os,ks,gs,bs,([]:List Int),([]:List Int)⟩:iY)).base)≤List.length (jb (⟨d,t,gs,(List.length gs:Int),(0:Int),cs,os,ks,gs,bs,([]:List Int),([]:List Int)⟩:iY)).base) (.req (0+(List.length (jb (⟨d,t,gs,(List.length gs:Int),(0:Int),cs,os,ks,gs,bs,([]:List Int),([]:List Int)⟩:iY)).most)≤List.length (jb (⟨d,t,gs,(List.length gs:Int),(0:Int),cs,os,ks,gs,bs,([]:List Int),([]:List Int)⟩:iY)).most) (.ok (.iD [.xl (.int .i64) (xR cs os ks gs bs (((jb (⟨d,t,gs,(List.length gs:Int),(0:Int),cs,os,ks,gs,bs,([]:List Int),([]:List Int)⟩:iY)).base.drop 0).take (List.length (jb (⟨d,t,gs,(List.length gs:Int),(0:Int),cs,os,ks,gs,bs,([]:List Int),([]:List Int)⟩:iY)).base)) (((jb (⟨d,t,gs,(List.length gs:Int),(0:Int),cs,os,ks,gs,bs,([]:List Int),([]:List Int)⟩:iY)).most.drop 0).take (List.length (jb (⟨d,t,gs,(List.length gs:Int),(0:Int),cs,os,ks,gs,bs,([]:List Int),([]:List Int)⟩:iY)).most)) (jF d t)),.v (.int .i64 (shE cs os ks gs bs (((jb (⟨d,t,gs,(List.length gs:Int),(0:Int),cs,os,ks,gs,bs,([]:List Int),([]:List Int)⟩:iY)).base.drop 0).take (List.length (jb (⟨d,t,gs,(List.length gs:Int),(0:Int),cs,os,ks,gs,bs,([]:List Int),([]:List Int)⟩:iY)).base)) (((jb (⟨d,t,gs,(List.length gs:Int),(0:Int),cs,os,ks,gs,bs,([]:List Int),([]:List Int)⟩:iY)).most.drop 0).take (List.length (jb (⟨d,t,gs,(List.length gs:Int),(0:Int),cs,os,ks,gs,bs,([]:List Int),([]:List Int)⟩:iY)).most)) (jF d t)))]))))))):=by kernel_rfl
theorem atp:Valid Tryz.prog aS 23 Yk:=aH Tryz.func23 rfl aiK aF (L:=(fun i=>if i=3 then E5.lp else aC i)) (fun b hb=>by
 rw [show aB _=[BA] by kernel_rfl] at hb
 simp only [List.mem_cons,List.not_mem_nil,or_false] at hb
 subst hb
 exact amn) (fun args lv h=>by
 unfold acJ at h
 split at h
 ·simp only [canL,canX]
  rw [aoj]
  rename_i cs os ks gs bs d t
  obtain ⟨⟨hs,hw⟩,rfl⟩:=h
  have hE:ads ⟨d,t,gs,(List.length gs:Int),0,cs,os,ks,gs,bs,[],[]⟩:=⟨rfl,rfl,rfl,rfl,by have:=hs.dl;show (gs.length:Int)≤1000;omega,hs.dl⟩
  obtain ⟨_,_,q1,q2,q3⟩:=aoN _ hE
  have q2:(jb ⟨d,t,gs,(List.length gs:Int),0,cs,os,ks,gs,bs,[],[]⟩).base=jC gs:=q2
  have q3:(jb ⟨d,t,gs,(List.length gs:Int),0,cs,os,ks,gs,bs,[],[]⟩).most=lS gs d:=q3
  refine ⟨⟨rfl,rfl⟩,⟨rfl,rfl⟩,⟨hE,rfl,rfl⟩,hw,by omega,by omega,?_⟩
  rw [List.drop_zero,List.take_length,List.drop_zero,List.take_length,q2,q3,afi (DL hs)]
  rfl
 ·cases h)
end Go.Proofs.YtlihnbimgclogaaGreatDoor
namespace Go.Proofs.YtlihnbimgclogaaGreatDoor
open Go.Sx
structure nK where
 i:Int
 ah:List Cd
 aA:List ByteArray
 aj:List Ko
 ai:List Ch
 aJ:List Ba
 out:List Int
def aDh (s:nK):List LV:=[.own 0 0,.os 1 1 0 (List.length s.out),.v (.int .i64 s.i)]
def aCg (s:nK):List aU:=[⟨[.xl dU s.ah,.xl .str s.aA,.xl dW s.aj,.xl dM s.ai,.xl dX s.aJ],28,.cl,false⟩,⟨[],3,.vec (.int .i64) s.out,false⟩]
noncomputable def Bd:Code:=((aB (Tryz.f29.body.getD .skip))[0]?).getD .skip
def Zh (s:nK):T (Rd nK):=
 .br (decide (s.i<(List.length s.ai:Int))) (.req (0≤s.i∧s.i<(List.length s.ai:Int)) (.req (0+(List.length s.out)=List.length s.out∧((List.length s.out+List.length ([(aW s.ai s.i).2.2.2.2.2.2.1]):Nat):Int)*8≤2^47∧((List.length s.out+List.length ([(aW s.ai s.i).2.2.2.2.2.2.1]):Nat):Int)<2^62) (.req (0=0∧(List.length s.out+List.length ([(aW s.ai s.i).2.2.2.2.2.2.1]))=List.length (s.out++([(aW s.ai s.i).2.2.2.2.2.2.1]))) (.ok (.next {s with i:=(IntKind.i64.wrap (s.i+1)),out:=(s.out++([(aW s.ai s.i).2.2.2.2.2.2.1]))}))))) (.rl s.out (.ok (.stop (.exit 0) s)))
abbrev ar2 (s:nK):=(Zh s).rd s
def adn (s:nK):Prop:=s.i=0∧s.out=[]∧(List.length s.ai:Int)≤1000
def MP (s:nK):Prop:=(0≤s.i∧s.i≤(List.length s.ai:Int))∧s.out=qc s.i.toNat (fun j=>Af (aW s.ai j))∧(List.length s.ai:Int)≤1000
def OX (s:nK):Nat:=((List.length s.ai:Int)-s.i).toNat
def akm (x:Ex) (_ s':nK):Prop:=x=.exit 0∧s'.out=jC s'.ai
theorem azV:∀s,adn s→MP s:=by
 intro s h
 obtain ⟨h0,h1,h2⟩:=h
 exact ⟨by omega,by rw [h0,h1];rfl,h2⟩
theorem avz (s:nK) (hI:MP s):bJ (fun s'=>MP s'∧OX s'<OX s) (fun x s'=>akm x s s') (ar2 s):=by
 unfold ar2 Zh
 dsimp only [T.rd,T.rl]
 obtain ⟨⟨h0,h1⟩,hb,h2⟩:=hI
 refine au (fun c1=>?_) (fun c1=>?_)
 ·have c1:s.i<(List.length s.ai:Int):=by simpa using c1
  rw [aK (x:=s.i+1) (by omega) (by omega)]
  refine ⟨⟨⟨by simp only;omega,by simp only;omega⟩,?_,h2⟩,by simp only [OX];omega⟩
  simp only
  rw [show (s.i+1).toNat=s.i.toNat+1 by omega,nU,←hb,Int.toNat_of_nonneg h0]
  rfl
 ·have c1:(List.length s.ai:Int)≤s.i:=by simpa using c1
  refine ⟨rfl,?_⟩
  rw [hb,show s.i.toNat=s.ai.length by omega]
  rfl
def EO:bK nK:=⟨0,22,[1,3,4],[.nl 3 3 (.int .i64)],aDh,aCg,fun v b=>⟨gI (v.getD 2 .junk),aQ dU (aX (aO b 0) 0),aQ .str (aX (aO b 0) 1),aQ dW (aX (aO b 0) 2),aQ dM (aX (aO b 0) 3),aQ dX (aX (aO b 0) 4),iT (.int .i64) (aO b 1)⟩,Zh,fun s r=> {r with ah:=s.ah,aA:=s.aA,aj:=s.aj,ai:=s.ai,aJ:=s.aJ},fun s=>s,fun _ s=>s,[.exit 0],adn,MP,OX⟩
abbrev wS:=EO.run
abbrev apn:=EO.jG
abbrev ax8:=EO.q
theorem auM (s:nK) (hI:MP s):(Zh s).all (fun _=>True):=by
 refine ⟨fun c1=>⟨?_,?_,?_,trivial⟩,fun c1=>⟨⟨rfl,rfl⟩,trivial⟩⟩
 all_goals ((obtain ⟨⟨h0,h1⟩,hb,h2⟩:=hI;have hbl:s.out.length=s.i.toNat:=(by rw [hb,dN]);simp only [decide_eq_true_eq] at c1;first|omega|(refine ⟨by omega,?_,?_⟩<;>simp only [List.length_cons,List.length_nil]<;>omega) |exact ⟨rfl,by simp⟩))
noncomputable def Xn:Specs:=bf []
theorem aiJ:∀g S,Xn g=some S→Valid Tryz.prog aS g S:=aT (l:=[]) trivial
theorem ag8:EO.Ok:=⟨fun s=>by kernel_rfl,fun s=>by kernel_rfl,fun s=>rfl,fun s t r=>rfl,fun s=>rfl,fun s=>by kernel_rfl⟩
theorem af0:EO.Pf (akm):=⟨azV,fun _ _=>rfl,avz,auM⟩
theorem ama:bn Tryz.prog aS (AN 0) (.loop Bd) EO.lp:=bK.snd ag8 af0 (aP (Γ:=Xn) (K:=dY) (L:=aC) aiJ aF Bd (fun b hb=>by rw [show aB Bd=[] by kernel_rfl] at hb;cases hb)) (fun s=>by kernel_rfl)
theorem anh (s:nK) (hE:adn s):∃s',MP s'∧akm (apn s) s' (wS s):=bK.fin ag8 af0 s hE
def acy:List LV→T LV
 | [.agg [.xl (.pair .str (.pair (.int .i64) (.pair (.int .i64) (.pair (.int .i64) (.pair (.pair (.int .i64) (.int .i64)) (.pair (.int .i64) (.pair (.int .i64) (.pair (.int .i64) (.pair (.int .i64) (.int .i64)))))))))) _,.xl (.str) _,.xl (.pair .str (.pair (.int .i64) (.pair (.int .i64) (.int .i64)))) _,.xl (.pair .str (.pair (.int .i64) (.pair (.int .i64) (.pair (.int .i64) (.pair (.int .i64) (.pair (.int .i64) (.pair (.int .i64) (.int .i64)))))))) gs,.xl (.pair .str (.int .i64)) _]]=> .req ((List.length gs:Int)≤1000) (.ok (.xl (.int .i64) (jC gs)))
 |_=> .no
noncomputable def Yc:List LV→T LV:=gJ Tryz.prog Tryz.f29.params.toList acy
theorem an8 (cs:List Cd) (os:List ByteArray) (ks:List Ko) (gs:List Ch) (bs:List Ba):bT Tryz.prog aS (Xn) dY (fun i=>if i=3 then EO.lp else aC i) Tryz.f29 [.agg [.xl dU cs,.xl .str os,.xl dW ks,.xl dM gs,.xl dX bs]]=.req (0=0∧0=List.length ([]:List Int)) (.req (ax8 (⟨(0:Int),cs,os,ks,gs,bs,([]:List Int)⟩:nK)) (.req (0+(List.length (wS (⟨(0:Int),cs,os,ks,gs,bs,([]:List Int)⟩:nK)).out)≤List.length (wS (⟨(0:Int),cs,os,ks,gs,bs,([]:List Int)⟩:nK)).out) (.ok (.xl (.int .i64) (((wS (⟨(0:Int),cs,os,ks,gs,bs,([]:List Int)⟩:nK)).out.drop 0).take (List.length (wS (⟨(0:Int),cs,os,ks,gs,bs,([]:List Int)⟩:nK)).out)))))):=by kernel_rfl
theorem atf:Valid Tryz.prog aS 29 Yc:=aH Tryz.func29 rfl aiJ aF (L:=(fun i=>if i=3 then EO.lp else aC i)) (fun b hb=>by
 rw [show aB _=[Bd] by kernel_rfl] at hb
 simp only [List.mem_cons,List.not_mem_nil,or_false] at hb
 subst hb
 exact ama) (fun args lv h=>by
 unfold acy at h
 split at h
 ·simp only [canL,canX]
  rw [an8]
  rename_i cs os ks gs bs
  obtain ⟨hn,rfl⟩:=h
  have hE:adn ⟨0,cs,os,ks,gs,bs,[]⟩:=⟨rfl,rfl,hn⟩
  obtain ⟨_,_,q1,q2⟩:=anh _ hE
  have q2:(wS ⟨0,cs,os,ks,gs,bs,[]⟩).out=jC gs:=q2
  refine ⟨⟨rfl,rfl⟩,⟨hE,rfl,rfl⟩,by omega,?_⟩
  show LV.xl _ _=_
  rw [List.drop_zero,List.take_length,q2]
 ·cases h)
end Go.Proofs.YtlihnbimgclogaaGreatDoor
namespace Go.Proofs.YtlihnbimgclogaaGreatDoor
open Go.Sx
section
variable {P : List Int → Bool} {tp : Int → Int}
end
end Go.Proofs.YtlihnbimgclogaaGreatDoor
namespace Go.Proofs.YtlihnbimgclogaaGreatDoor
open Go.Sx
section
variable {cs : List Cd} {os : List ByteArray} {ks : List Ko} {gs : List Ch} {bs : List Ba} {l : List Le} {rs : List Ra} {d : List Dm} {t n : Int}
theorem axj {w:List Int}{k:Nat}{j:Int}(h0:0≤j) (h1:j<(k:Int)):gi (QR gs rs w k) j=nxA (aW gs j) (lU rs j) (gi w j):=kT h0 h1
theorem aBt (V:Vd cs os ks gs bs l rs d t n) {j:Int}(j0:0≤j) (j1:j<(gs.length:Int)):0≤gi (QR gs rs (S9 cs os ks gs bs l d t) gs.length) j∧gi (QR gs rs (S9 cs os ks gs bs l d t) gs.length) j≤gi (S9 cs os ks gs bs l d t) j∧gi (S9 cs os ks gs bs l d t) j≤gi (qQ cs os ks gs bs d t) j:=by
 have hk:=ajl V j j0 j1
 rw [axj j0 j1]
 exact ⟨(WG hk).1,(anL hk rfl).2.1,((VL (ahz V)).2 j j0 j1).2⟩
theorem aBb (h:(!apa cs os ks gs bs l rs d)=false):(l.length:Int)≤1000:=by
 have h:=Ot h
 unfold apa at h
 simp only [Bool.and_eq_true,decide_eq_true_eq] at h
 omega
theorem axc (c:Gu cs os ks gs bs l rs d t n=true):uU cs os ks gs bs l rs d t n=QR gs rs (S9 cs os ks gs bs l d t) gs.length∧deR cs os ks gs bs l rs d t n=dcR gs rs (S9 cs os ks gs bs l d t) gs.length∧qO cs os ks gs bs l rs d t n=dcL gs l t n (QR gs rs (S9 cs os ks gs bs l d t) gs.length) gs.length∧deE cs os ks gs bs l rs d t n=0:=by
 unfold uU deR qO deE
 rw [if_pos c,if_pos c,if_pos c,if_pos c]
 exact ⟨rfl,rfl,rfl,rfl⟩
def I9 (gs:List Ch) (d:List Dm):List Int:=qc gs.length (fun k=>if (lV d k).1=true then uX gs k (pI (aW gs k).2.2.2.1 (aW gs k).2.2.2.2.1 (aW gs k).2.2.2.2.2.1-1) else 0)
theorem aqm (V:Vd cs os ks gs bs l rs d t n) {j:Int}(j0:0≤j) (j1:j<(gs.length:Int)) (h:(lV d j).1=false):gi (QR gs rs (S9 cs os ks gs bs l d t) gs.length) j=0:=by
 have h1:=aBt V j0 j1
 have h2:=((VL (DL (t:=t) V.si)).2 j j0 j1).2
 have e:gi (lS gs d) j=0:=by
  unfold lS
  rw [kT j0 j1,h,if_neg (by decide)]
 unfold qQ at h1
 omega
theorem abP {am:List Int}{x:Le}:∀ {k:Nat},x∈dcL gs l t n am k→∃(j:Nat) (m:Nat),j<k∧m≤j∧x=(n+(m:Int),(j:Int),gi am j,t,12)∧nwB gs l t j (gi am j)=true
 |0,h=>by cases h
 | k+1,h=>by
  rw [dcL,List.mem_append] at h
  rcases h with h|h
  ·obtain ⟨j,m,h1,h2,h3⟩:=abP h
   exact ⟨j,m,by omega,h2,h3⟩
  ·split at h
   ·rename_i hn
    rw [List.mem_singleton] at h
    exact ⟨k,_,by omega,xJ,h,hn⟩
   ·cases h
theorem avO {i a:Int}(h:nwB gs l t i a=true):Af (aW gs i)<a:=by
 unfold nwB at h
 rw [Bool.and_eq_true] at h
 have h1:=h.1
 simp only [Bool.not_eq_true',decide_eq_false_iff_not] at h1
 omega
theorem atN (h:Si cs os ks gs bs d) {j:Int}(j0:0≤j) (j1:j<(gs.length:Int)):tpO gs (lS gs d) j=if (lV d j).1=true then pI (aW gs j).2.2.2.1 (aW gs j).2.2.2.2.1 (aW gs j).2.2.2.2.2.1-1 else 0:=by
 have hc:=Dw (h.ch j0 j1)
 have hh:kC (aW gs j).2.2.2.1 (aW gs j).2.2.2.2.1 (aW gs j).2.2.2.2.2.1=true:=dV.2 (by omega)
 unfold tpO xW lS QN
 rw [kT j0 j1,hh]
 split
 ·rw [if_neg (by simp;omega),if_neg (by omega)]
  unfold pI
  rw [if_pos hh]
  omega
 ·rw [if_neg (by simp),if_pos (by omega)]
theorem ajr (h:Si cs os ks gs bs d):I9 gs d=kZ gs (NT gs (lS gs d)):=yN (by unfold I9;rw [dN,qF]) fun j j0 j1=>by
 rw [qF] at j1
 unfold I9
 rw [kT j0 j1,mM j0 j1,FQ j0 j1,atN h j0 j1]
 split
 ·rfl
 ·rw [ab1]
theorem axr (h:Si cs os ks gs bs d) (hp:yc (jB cs gs cs.length) (jC gs) (I9 gs d)=true):qQ cs os ks gs bs d t=I9 gs d:=by
 rw [ajr h] at hp⊢
 unfold qQ
 rw [afh (DL h),alC (ZK (DL h)) hp]
theorem axs (h:Si cs os ks gs bs d):YH gs (I9 gs d):=by
 have hk:=DL (t:=0) h
 have H:=ZK hk
 rw [ajr h]
 exact axy H (atO H)
theorem ap6 (h:Si cs os ks gs bs d) {x:List Int}(hx:YH gs x):∀r∈jB cs gs cs.length,GU (jC gs) x r:=fun r hr=>by
 have hm:=row_mem hr
 have hg:=(fP.1 h.site).1.2.2.2.2.1
 refine ⟨by have:=hm.2.2.1;omega,fun m hmm=>?_,fun a ha=>?_,hx.2⟩
 ·have:=hm.2.1 m hmm
  rw [hx.1]
  unfold jC
  rw [dN]
  omega
 ·have:=ajs h a ha
  omega
end
end Go.Proofs.YtlihnbimgclogaaGreatDoor
namespace Go.Proofs.YtlihnbimgclogaaGreatDoor
open Go.Sx
end Go.Proofs.YtlihnbimgclogaaGreatDoor
namespace Go.Proofs.YtlihnbimgclogaaGreatDoor
open Go.Sx
structure gG where
 d:List Dm
 q:Bool
 vF:Bool
 a:List Int
 m:List Le
 z:List Int
 gs:List Ch
 k:Int
 i:Int
 ah:List Cd
 aA:List ByteArray
 aj:List Ko
 ai:List Ch
 aJ:List Ba
 best:List Int
def aCS (s:gG):List LV:=[.xl pU s.d,.own 0 0,.v (.bool s.q),.v (.bool s.vF),.xl (.int .i64) s.a,.xl nC s.m,.xl (.int .i64) s.z,.os 1 1 0 (List.length s.best),.xl dM s.gs,.v (.int .i64 s.k),.v (.int .i64 s.i)]
def aBR (s:gG):List aU:=[⟨[.xl dU s.ah,.xl .str s.aA,.xl dW s.aj,.xl dM s.ai,.xl dX s.aJ],28,.cl,false⟩,⟨[],3,.vec (.int .i64) s.best,false⟩]
noncomputable def Ap:Code:=((aB (Tryz.f7.body.getD .skip))[0]?).getD .skip
def Y1 (s:gG):T (Rd gG):=
 .br (decide (s.i<s.k)) (.req (0≤s.i∧s.i<(List.length s.gs:Int)) (.req (0≤s.i∧s.i<(List.length s.d:Int)) (.br (lV s.d s.i).1 (.req (0+(List.length s.best)=List.length s.best∧((List.length s.best+List.length ([(Qv (aW s.gs s.i).2.2.2.1 (aW s.gs s.i).2.2.2.2.1 (aW s.gs s.i).2.2.2.2.2.1 (IntKind.i64.wrap ((pI (aW s.gs s.i).2.2.2.1 (aW s.gs s.i).2.2.2.2.1 (aW s.gs s.i).2.2.2.2.2.1)-1)))]):Nat):Int)*8≤2^47∧((List.length s.best+List.length ([(Qv (aW s.gs s.i).2.2.2.1 (aW s.gs s.i).2.2.2.2.1 (aW s.gs s.i).2.2.2.2.2.1 (IntKind.i64.wrap ((pI (aW s.gs s.i).2.2.2.1 (aW s.gs s.i).2.2.2.2.1 (aW s.gs s.i).2.2.2.2.2.1)-1)))]):Nat):Int)<2^62) (.req (0≤s.i∧s.i<(List.length s.d:Int)) (.br (!(lV s.d s.i).1) (.req (0≤s.i∧s.i<(List.length s.a:Int)) (.br ((gi s.a s.i) !=0) (.req (0=0∧(List.length s.best+List.length ([(Qv (aW s.gs s.i).2.2.2.1 (aW s.gs s.i).2.2.2.2.1 (aW s.gs s.i).2.2.2.2.2.1 (IntKind.i64.wrap ((pI (aW s.gs s.i).2.2.2.1 (aW s.gs s.i).2.2.2.2.1 (aW s.gs s.i).2.2.2.2.2.1)-1)))]))=List.length (s.best++([(Qv (aW s.gs s.i).2.2.2.1 (aW s.gs s.i).2.2.2.2.1 (aW s.gs s.i).2.2.2.2.2.1 (IntKind.i64.wrap ((pI (aW s.gs s.i).2.2.2.1 (aW s.gs s.i).2.2.2.2.1 (aW s.gs s.i).2.2.2.2.2.1)-1)))]))) (.ok (.stop (.ret) {s with q:=false,best:=(s.best++([(Qv (aW s.gs s.i).2.2.2.1 (aW s.gs s.i).2.2.2.2.1 (aW s.gs s.i).2.2.2.2.2.1 (IntKind.i64.wrap ((pI (aW s.gs s.i).2.2.2.1 (aW s.gs s.i).2.2.2.2.1 (aW s.gs s.i).2.2.2.2.2.1)-1)))]))}))) (.req (0=0∧(List.length s.best+List.length ([(Qv (aW s.gs s.i).2.2.2.1 (aW s.gs s.i).2.2.2.2.1 (aW s.gs s.i).2.2.2.2.2.1 (IntKind.i64.wrap ((pI (aW s.gs s.i).2.2.2.1 (aW s.gs s.i).2.2.2.2.1 (aW s.gs s.i).2.2.2.2.2.1)-1)))]))=List.length (s.best++([(Qv (aW s.gs s.i).2.2.2.1 (aW s.gs s.i).2.2.2.2.1 (aW s.gs s.i).2.2.2.2.2.1 (IntKind.i64.wrap ((pI (aW s.gs s.i).2.2.2.1 (aW s.gs s.i).2.2.2.2.1 (aW s.gs s.i).2.2.2.2.2.1)-1)))]))) (.ok (.next {s with i:=(IntKind.i64.wrap (s.i+1)),best:=(s.best++([(Qv (aW s.gs s.i).2.2.2.1 (aW s.gs s.i).2.2.2.2.1 (aW s.gs s.i).2.2.2.2.2.1 (IntKind.i64.wrap ((pI (aW s.gs s.i).2.2.2.1 (aW s.gs s.i).2.2.2.2.1 (aW s.gs s.i).2.2.2.2.2.1)-1)))]))}))))) (.req (0=0∧(List.length s.best+List.length ([(Qv (aW s.gs s.i).2.2.2.1 (aW s.gs s.i).2.2.2.2.1 (aW s.gs s.i).2.2.2.2.2.1 (IntKind.i64.wrap ((pI (aW s.gs s.i).2.2.2.1 (aW s.gs s.i).2.2.2.2.1 (aW s.gs s.i).2.2.2.2.2.1)-1)))]))=List.length (s.best++([(Qv (aW s.gs s.i).2.2.2.1 (aW s.gs s.i).2.2.2.2.1 (aW s.gs s.i).2.2.2.2.2.1 (IntKind.i64.wrap ((pI (aW s.gs s.i).2.2.2.1 (aW s.gs s.i).2.2.2.2.1 (aW s.gs s.i).2.2.2.2.2.1)-1)))]))) (.ok (.next {s with i:=(IntKind.i64.wrap (s.i+1)),best:=(s.best++([(Qv (aW s.gs s.i).2.2.2.1 (aW s.gs s.i).2.2.2.2.1 (aW s.gs s.i).2.2.2.2.2.1 (IntKind.i64.wrap ((pI (aW s.gs s.i).2.2.2.1 (aW s.gs s.i).2.2.2.2.1 (aW s.gs s.i).2.2.2.2.2.1)-1)))]))})))))) (.req (0+(List.length s.best)=List.length s.best∧((List.length s.best+List.length ([(0:Int)]):Nat):Int)*8≤2^47∧((List.length s.best+List.length ([(0:Int)]):Nat):Int)<2^62) (.req (0≤s.i∧s.i<(List.length s.d:Int)) (.br (!(lV s.d s.i).1) (.req (0≤s.i∧s.i<(List.length s.a:Int)) (.br ((gi s.a s.i) !=0) (.req (0=0∧(List.length s.best+List.length ([(0:Int)]))=List.length (s.best++([(0:Int)]))) (.ok (.stop (.ret) {s with q:=false,best:=(s.best++([(0:Int)]))}))) (.req (0=0∧(List.length s.best+List.length ([(0:Int)]))=List.length (s.best++([(0:Int)]))) (.ok (.next {s with i:=(IntKind.i64.wrap (s.i+1)),best:=(s.best++([(0:Int)]))}))))) (.req (0=0∧(List.length s.best+List.length ([(0:Int)]))=List.length (s.best++([(0:Int)]))) (.ok (.next {s with i:=(IntKind.i64.wrap (s.i+1)),best:=(s.best++([(0:Int)]))}))))))))) (.rl s.best (.ok (.stop (.exit 0) s)))
abbrev arM (s:gG):=(Y1 s).rd s
def adi (s:gG):Prop:=s.i=0∧s.best=[]∧s.k=(List.length s.gs:Int)∧s.k≤1000∧(s.d.length=s.gs.length∧s.a.length=s.gs.length)∧∀j,0≤j→j<s.k→Qv (aW s.gs j).2.2.2.1 (aW s.gs j).2.2.2.2.1 (aW s.gs j).2.2.2.2.2.1 (IntKind.i64.wrap ((pI (aW s.gs j).2.2.2.1 (aW s.gs j).2.2.2.2.1 (aW s.gs j).2.2.2.2.2.1)-1))=uX s.gs j (pI (aW s.gs j).2.2.2.1 (aW s.gs j).2.2.2.2.1 (aW s.gs j).2.2.2.2.2.1-1)∧((lV s.d j).1=false→gi s.a j=0)
def L8 (s:gG):Prop:=(0≤s.i∧s.i≤s.k)∧s.best=qc s.i.toNat (fun j=>if (lV s.d j).1=true then uX s.gs j (pI (aW s.gs j).2.2.2.1 (aW s.gs j).2.2.2.2.1 (aW s.gs j).2.2.2.2.2.1-1) else 0)∧s.k=(List.length s.gs:Int)∧s.k≤1000∧(s.d.length=s.gs.length∧s.a.length=s.gs.length)∧∀j,0≤j→j<s.k→Qv (aW s.gs j).2.2.2.1 (aW s.gs j).2.2.2.2.1 (aW s.gs j).2.2.2.2.2.1 (IntKind.i64.wrap ((pI (aW s.gs j).2.2.2.1 (aW s.gs j).2.2.2.2.1 (aW s.gs j).2.2.2.2.2.1)-1))=uX s.gs j (pI (aW s.gs j).2.2.2.1 (aW s.gs j).2.2.2.2.1 (aW s.gs j).2.2.2.2.2.1-1)∧((lV s.d j).1=false→gi s.a j=0)
def Hz (s:gG):Nat:=(s.k-s.i).toNat
def aj9 (x:Ex) (_ s':gG):Prop:=x=.exit 0∧s'.best=I9 s'.gs s'.d
theorem ayU:∀s,adi s→L8 s:=by
 intro s h
 obtain ⟨h0,hb,h2⟩:=h
 exact ⟨by omega,by rw [h0,hb];rfl,h2⟩
theorem asQ (s:gG) (hI:L8 s):bJ (fun s'=>L8 s'∧Hz s'<Hz s) (fun x s'=>aj9 x s s') (arM s):=by
 unfold arM Y1
 dsimp only [T.rd,T.rl]
 obtain ⟨⟨h0,h1⟩,hb,h2,h3,⟨h4,h5⟩,h6⟩:=hI
 have hbl:s.best.length=s.i.toNat:=(by rw [hb];exact dN)
 refine au (fun c1=>?_) (fun c1=>?_)
 ·refine au (fun c2=>?_) (fun c2=>?_)
  ·refine au (fun c3=>?_) (fun c3=>?_)
   ·refine au (fun c4=>?_) (fun c4=>?_)
    ·have c1:s.i<s.k:=by simpa using c1
     obtain ⟨f1,f2⟩:=h6 s.i h0 c1
     rw [c2] at c3
     cases c3
    ·have c1:s.i<s.k:=by simpa using c1
     obtain ⟨f1,f2⟩:=h6 s.i h0 c1
     rw [c2] at c3
     cases c3
   ·have c1:s.i<s.k:=by simpa using c1
    obtain ⟨f1,f2⟩:=h6 s.i h0 c1
    rw [aK (x:=s.i+1) (by omega) (by omega)]
    refine ⟨⟨⟨by simp only;omega,by simp only;omega⟩,?_,h2,h3,⟨h4,h5⟩,h6⟩,by simp only [Hz];omega⟩
    simp only
    rw [show (s.i+1).toNat=s.i.toNat+1 by omega,nU,←hb,Int.toNat_of_nonneg h0,if_pos c2,f1]
  ·refine au (fun c3=>?_) (fun c3=>?_)
   ·refine au (fun c4=>?_) (fun c4=>?_)
    ·have c1:s.i<s.k:=by simpa using c1
     obtain ⟨f1,f2⟩:=h6 s.i h0 c1
     rw [f2 c2] at c4
     cases c4
    ·have c1:s.i<s.k:=by simpa using c1
     obtain ⟨f1,f2⟩:=h6 s.i h0 c1
     rw [aK (x:=s.i+1) (by omega) (by omega)]
     refine ⟨⟨⟨by simp only;omega,by simp only;omega⟩,?_,h2,h3,⟨h4,h5⟩,h6⟩,by simp only [Hz];omega⟩
     simp only
     rw [show (s.i+1).toNat=s.i.toNat+1 by omega,nU,←hb,Int.toNat_of_nonneg h0,if_neg (by rw [c2];decide)]
   ·have c1:s.i<s.k:=by simpa using c1
    obtain ⟨f1,f2⟩:=h6 s.i h0 c1
    rw [c2] at c3
    cases c3
 ·have c1:s.k≤s.i:=by simpa using c1
  refine ⟨rfl,?_⟩
  rw [hb,show s.i.toNat=s.gs.length by omega]
  rfl
def En:bK gG:=⟨0,174,[3,6,12,13,14,16,18,20,87,88,89],[.nl 20 3 (.int .i64)],aCS,aBR,fun v b=>⟨aQ pU (v.getD 0 .junk),uT (v.getD 2 .junk),uT (v.getD 3 .junk),aQ (.int .i64) (v.getD 4 .junk),aQ nC (v.getD 5 .junk),aQ (.int .i64) (v.getD 6 .junk),aQ dM (v.getD 8 .junk),gI (v.getD 9 .junk),gI (v.getD 10 .junk),aQ dU (aX (aO b 0) 0),aQ .str (aX (aO b 0) 1),aQ dW (aX (aO b 0) 2),aQ dM (aX (aO b 0) 3),aQ dX (aX (aO b 0) 4),iT (.int .i64) (aO b 1)⟩,Y1,fun s r=> {r with d:=s.d,vF:=s.vF,a:=s.a,m:=s.m,z:=s.z,gs:=s.gs,k:=s.k,ah:=s.ah,aA:=s.aA,aj:=s.aj,ai:=s.ai,aJ:=s.aJ},fun s=>s,fun _ s=>s,[.ret,.exit 0],adi,L8,Hz⟩
abbrev fA:=En.run
abbrev Qg:=En.jG
abbrev axJ:=En.q
theorem aum (s:gG) (hI:L8 s):(Y1 s).all (fun _=>True):=by
 refine ⟨fun c1=>⟨?_,?_,fun c2=>⟨?_,?_,fun c3=>⟨?_,fun c4=>⟨?_,trivial⟩,fun c4=>⟨?_,trivial⟩⟩,fun c3=>⟨?_,trivial⟩⟩,fun c2=>⟨?_,?_,fun c5=>⟨?_,fun c6=>⟨?_,trivial⟩,fun c6=>⟨?_,trivial⟩⟩,fun c5=>⟨?_,trivial⟩⟩⟩,fun c1=>⟨⟨rfl,rfl⟩,trivial⟩⟩
 all_goals ((obtain ⟨⟨h0,h1⟩,hb,h2,h3,⟨h4,h5⟩,h6⟩:=hI;have hbl:s.best.length=s.i.toNat:=(by rw [hb];exact dN);(try simp only [decide_eq_true_eq] at c1);first|omega|(refine ⟨by omega,?_,?_⟩<;>simp only [List.length_cons,List.length_nil]<;>omega) |exact ⟨rfl,by simp⟩))
noncomputable def P7:Specs:=bf [(11,Yr),(12,Yb),(14,Jv),(16,Cc),(22,Ya),(23,Yk),(24,lg),(25,Qw),(27,QE),(28,y8),(29,Yc)]
theorem Xi:∀g S,P7 g=some S→Valid Tryz.prog aS g S:=aT (l:=[(11,Yr),(12,Yb),(14,Jv),(16,Cc),(22,Ya),(23,Yk),(24,lg),(25,Qw),(27,QE),(28,y8),(29,Yc)]) ⟨atx,ate,ae2,YR,atd,atp,yC,alp,alA,VE,atf,trivial⟩
theorem agL:En.Ok:=⟨fun s=>by kernel_rfl,fun s=>by kernel_rfl,fun s=>rfl,fun s t r=>rfl,fun s=>rfl,fun s=>by kernel_rfl⟩
theorem afD:En.Pf (aj9):=⟨ayU,fun _ _=>rfl,asQ,aum⟩
theorem alM:bn Tryz.prog aS (AN 0) (.loop Ap) En.lp:=bK.snd agL afD (aP (Γ:=P7) (K:=dY) (L:=aC) Xi aF Ap (fun b hb=>by rw [show aB Ap=[] by kernel_rfl] at hb;cases hb)) (fun s=>by kernel_rfl)
theorem alh (s:gG) (hE:adi s):∃s',L8 s'∧aj9 (Qg s) s' (fA s):=bK.fin agL afD s hE
structure pJ where
 d:List Dm
 q:Bool
 vF:Bool
 z:List Int
 m:List Le
 k:Int
 i:Int
 ah:List Cd
 aA:List ByteArray
 aj:List Ko
 ai:List Ch
 aJ:List Ba
 best:List Int
def aCR (s:pJ):List LV:=[.xl pU s.d,.own 0 0,.v (.bool s.q),.v (.bool s.vF),.xl (.int .i64) s.z,.os 1 1 0 (List.length s.best),.xl nC s.m,.v (.int .i64 s.k),.v (.int .i64 s.i)]
def aBQ (s:pJ):List aU:=[⟨[.xl dU s.ah,.xl .str s.aA,.xl dW s.aj,.xl dM s.ai,.xl dX s.aJ],28,.cl,false⟩,⟨[],3,.vec (.int .i64) s.best,false⟩]
noncomputable def Am:Code:=((aB (Tryz.f7.body.getD .skip))[1]?).getD .skip
def Y0 (s:pJ):T (Rd pJ):=
 .br (decide (s.i<s.k)) (.req (0≤s.i∧s.i<(List.length s.m:Int)) (.br (decide ((iH s.m s.i).2.1<0)) (.rl s.best (.ok (.stop (.ret) {s with q:=false}))) (.br (decide ((iH s.m s.i).2.1≥(List.length s.d:Int))) (.rl s.best (.ok (.stop (.ret) {s with q:=false}))) (.req (0≤(iH s.m s.i).2.1∧(iH s.m s.i).2.1<(List.length s.d:Int)) (.br (!(lV s.d (iH s.m s.i).2.1).1) (.rl s.best (.ok (.stop (.ret) {s with q:=false}))) (.rl s.best (.ok (.next {s with i:=(IntKind.i64.wrap (s.i+1))})))))))) (.rl s.best (.ok (.stop (.exit 2) s)))
abbrev arL (s:pJ):=(Y0 s).rd s
def adh (s:pJ):Prop:=s.i=0∧s.k=(List.length s.m:Int)∧s.k≤1000∧∀j,0≤j→j<s.k→(0≤(iH s.m j).2.1∧(iH s.m j).2.1<(List.length s.d:Int))∧(lV s.d (iH s.m j).2.1).1=true
def L6 (s:pJ):Prop:=(0≤s.i∧s.i≤s.k)∧s.k=(List.length s.m:Int)∧s.k≤1000∧∀j,0≤j→j<s.k→(0≤(iH s.m j).2.1∧(iH s.m j).2.1<(List.length s.d:Int))∧(lV s.d (iH s.m j).2.1).1=true
def Ou (s:pJ):Nat:=(s.k-s.i).toNat
def aj8 (x:Ex) (_ _:pJ):Prop:=x=.exit 2
theorem ayT:∀s,adh s→L6 s:=by
 intro s h
 obtain ⟨h0,h2,h3,h4⟩:=h
 exact ⟨by omega,h2,h3,h4⟩
theorem asP (s:pJ) (hI:L6 s):bJ (fun s'=>L6 s'∧Ou s'<Ou s) (fun x s'=>aj8 x s s') (arL s):=by
 unfold arL Y0
 dsimp only [T.rd,T.rl]
 obtain ⟨⟨h0,h1⟩,h2,h3,h4⟩:=hI
 refine au (fun c1=>?_) (fun c1=>?_)
 ·refine au (fun c2=>?_) (fun c2=>?_)
  ·have c1:s.i<s.k:=by simpa using c1
   obtain ⟨f1,f2⟩:=h4 s.i h0 c1
   have e1:decide ((iH s.m s.i).2.1<0)=false:=decide_eq_false (by omega)
   have e2:decide ((iH s.m s.i).2.1≥(List.length s.d:Int))=false:=decide_eq_false (by omega)
   have e3:(!(lV s.d (iH s.m s.i).2.1).1)=false:=by rw [f2];rfl
   first|exact absurd (e1.symm.trans c2) (by decide) |exact absurd (e2.symm.trans c2) (by decide) |exact absurd (e3.symm.trans c2) (by decide)
  ·refine au (fun c3=>?_) (fun c3=>?_)
   ·have c1:s.i<s.k:=by simpa using c1
    obtain ⟨f1,f2⟩:=h4 s.i h0 c1
    have e1:decide ((iH s.m s.i).2.1<0)=false:=decide_eq_false (by omega)
    have e2:decide ((iH s.m s.i).2.1≥(List.length s.d:Int))=false:=decide_eq_false (by omega)
    have e3:(!(lV s.d (iH s.m s.i).2.1).1)=false:=by rw [f2];rfl
    first|exact absurd (e1.symm.trans c3) (by decide) |exact absurd (e2.symm.trans c3) (by decide) |exact absurd (e3.symm.trans c3) (by decide)
   ·refine au (fun c4=>?_) (fun c4=>?_)
    ·have c1:s.i<s.k:=by simpa using c1
     obtain ⟨f1,f2⟩:=h4 s.i h0 c1
     have e1:decide ((iH s.m s.i).2.1<0)=false:=decide_eq_false (by omega)
     have e2:decide ((iH s.m s.i).2.1≥(List.length s.d:Int))=false:=decide_eq_false (by omega)
     have e3:(!(lV s.d (iH s.m s.i).2.1).1)=false:=by rw [f2];rfl
     first|exact absurd (e1.symm.trans c4) (by decide) |exact absurd (e2.symm.trans c4) (by decide) |exact absurd (e3.symm.trans c4) (by decide)
    ·have c1:s.i<s.k:=by simpa using c1
     rw [aK (x:=s.i+1) (by omega) (by omega)]
     exact ⟨⟨⟨by simp only;omega,by simp only;omega⟩,h2,h3,h4⟩,by simp only [Ou];omega⟩
 ·exact rfl
def Em:bK pJ:=⟨0,174,[3,6,12,13,18,20,125,126,127],[],aCR,aBQ,fun v b=>⟨aQ pU (v.getD 0 .junk),uT (v.getD 2 .junk),uT (v.getD 3 .junk),aQ (.int .i64) (v.getD 4 .junk),aQ nC (v.getD 6 .junk),gI (v.getD 7 .junk),gI (v.getD 8 .junk),aQ dU (aX (aO b 0) 0),aQ .str (aX (aO b 0) 1),aQ dW (aX (aO b 0) 2),aQ dM (aX (aO b 0) 3),aQ dX (aX (aO b 0) 4),iT (.int .i64) (aO b 1)⟩,Y0,fun s r=> {r with d:=s.d,vF:=s.vF,z:=s.z,m:=s.m,k:=s.k,ah:=s.ah,aA:=s.aA,aj:=s.aj,ai:=s.ai,aJ:=s.aJ,best:=s.best},fun s=>s,fun _ s=>s,[.ret,.exit 2],adh,L6,Ou⟩
abbrev ZN:=Em.run
abbrev Qe:=Em.jG
abbrev axI:=Em.q
theorem aul (s:pJ) (hI:L6 s):(Y0 s).all (fun _=>True):=by
 refine ⟨fun c1=>⟨?_,fun c2=>⟨⟨rfl,rfl⟩,trivial⟩,fun c2=>⟨fun c3=>⟨⟨rfl,rfl⟩,trivial⟩,fun c3=>⟨?_,fun c4=>⟨⟨rfl,rfl⟩,trivial⟩,fun c4=>⟨⟨rfl,rfl⟩,trivial⟩⟩⟩⟩,fun c1=>⟨⟨rfl,rfl⟩,trivial⟩⟩
 all_goals ((obtain ⟨⟨h0,h1⟩,h2,h3,h4⟩:=hI;simp only [decide_eq_true_eq] at c1;(have:=(h4 s.i h0 c1).1;first|omega|exact ⟨rfl,rfl⟩)))
theorem agK:Em.Ok:=⟨fun s=>by kernel_rfl,fun s=>by kernel_rfl,fun s=>rfl,fun s t r=>rfl,fun s=>rfl,fun s=>by kernel_rfl⟩
theorem afC:Em.Pf (aj8):=⟨ayT,fun _ _=>rfl,asP,aul⟩
theorem alL:bn Tryz.prog aS (AN 0) (.loop Am) Em.lp:=bK.snd agK afC (aP (Γ:=P7) (K:=dY) (L:=aC) Xi aF Am (fun b hb=>by rw [show aB Am=[] by kernel_rfl] at hb;cases hb)) (fun s=>by kernel_rfl)
theorem alg (s:pJ) (hE:adh s):∃s',L6 s'∧aj8 (Qe s) s' (ZN s):=bK.fin agK afC s hE
def asv:List LV→T LV
 | [.agg [.xl (.pair .str (.pair (.int .i64) (.pair (.int .i64) (.pair (.int .i64) (.pair (.pair (.int .i64) (.int .i64)) (.pair (.int .i64) (.pair (.int .i64) (.pair (.int .i64) (.pair (.int .i64) (.int .i64)))))))))) cs,.xl (.str) os,.xl (.pair .str (.pair (.int .i64) (.pair (.int .i64) (.int .i64)))) ks,.xl (.pair .str (.pair (.int .i64) (.pair (.int .i64) (.pair (.int .i64) (.pair (.int .i64) (.pair (.int .i64) (.pair (.int .i64) (.int .i64)))))))) gs,.xl (.pair .str (.int .i64)) bs],.xl (.pair (.int .i64) (.pair (.int .i64) (.pair (.int .i64) (.pair (.int .i64) (.int .i64))))) _,.xl (.pair (.int .i64) (.int .i64)) _,.xl (.pair .bool (.pair (.int .i64) (.pair (.int .i64) (.int .i64)))) _,.v (.int .i64 _),.v (.int .i64 _)]=> .req (nmR (gB cs os ks gs bs)) (.ok (.v (.bool true)))
 |_=> .no
noncomputable def aBG:List LV→T LV:=gJ Tryz.prog Tryz.f7.params.toList asv
theorem aAj (cs:List Cd) (os:List ByteArray) (ks:List Ko) (gs:List Ch) (bs:List Ba) (l:List Le) (rs:List Ra) (d:List Dm) (t n:Int):bT Tryz.prog aS (P7) dY (fun i=>if i=10 then En.lp else if i=20 then Em.lp else aC i) Tryz.f7 [.agg [.xl dU cs,.xl .str os,.xl dW ks,.xl dM gs,.xl dX bs],.xl nC l,.xl GI rs,.xl pU d,.v (.int .i64 t),.v (.int .i64 n)]=.br (!(apa cs os ks gs bs l rs d)) (.ok (.v (.bool true))) (.req (nmR (gB cs os ks gs bs)∧(List.length l:Int)≤1000) (.br (!(Gu cs os ks gs bs l rs d t n)) (.ok (.v (.bool true))) (.req (xP d t∧d.length≤19) (.req (Si cs os ks gs bs d∧xP d t∧d.length≤19) (.br (((deE cs os ks gs bs l rs d t n) !=0) ||(((0:Int) !=0) ||(((List.length (uU cs os ks gs bs l rs d t n):Int) !=(List.length gs:Int)) ||((List.length (qQ cs os ks gs bs d t):Int) !=(List.length (uU cs os ks gs bs l rs d t n):Int))))) (.ok (.v (.bool false))) (.req (0=0∧0=List.length ([]:List Int)) (.req (axJ (⟨d,false,true,(uU cs os ks gs bs l rs d t n),(qO cs os ks gs bs l rs d t n),(qQ cs os ks gs bs d t),gs,(List.length gs:Int),(0:Int),cs,os,ks,gs,bs,([]:List Int)⟩:gG)) (.br (iw (Qg (⟨d,false,true,(uU cs os ks gs bs l rs d t n),(qO cs os ks gs bs l rs d t n),(qQ cs os ks gs bs d t),gs,(List.length gs:Int),(0:Int),cs,os,ks,gs,bs,([]:List Int)⟩:gG)) (.ret)) (.ok (.v (.bool (fA (⟨d,false,true,(uU cs os ks gs bs l rs d t n),(qO cs os ks gs bs l rs d t n),(qQ cs os ks gs bs d t),gs,(List.length gs:Int),(0:Int),cs,os,ks,gs,bs,([]:List Int)⟩:gG)).q))) (.rl (fA (⟨d,false,true,(uU cs os ks gs bs l rs d t n),(qO cs os ks gs bs l rs d t n),(qQ cs os ks gs bs d t),gs,(List.length gs:Int),(0:Int),cs,os,ks,gs,bs,([]:List Int)⟩:gG)).best (.req (axI (⟨d,(fA (⟨d,false,true,(uU cs os ks gs bs l rs d t n),(qO cs os ks gs bs l rs d t n),(qQ cs os ks gs bs d t),gs,(List.length gs:Int),(0:Int),cs,os,ks,gs,bs,([]:List Int)⟩:gG)).q,true,(qQ cs os ks gs bs d t),(qO cs os ks gs bs l rs d t n),(List.length (qO cs os ks gs bs l rs d t n):Int),(0:Int),cs,os,ks,gs,bs,(fA (⟨d,false,true,(uU cs os ks gs bs l rs d t n),(qO cs os ks gs bs l rs d t n),(qQ cs os ks gs bs d t),gs,(List.length gs:Int),(0:Int),cs,os,ks,gs,bs,([]:List Int)⟩:gG)).best⟩:pJ)) (.br (iw (Qe (⟨d,(fA (⟨d,false,true,(uU cs os ks gs bs l rs d t n),(qO cs os ks gs bs l rs d t n),(qQ cs os ks gs bs d t),gs,(List.length gs:Int),(0:Int),cs,os,ks,gs,bs,([]:List Int)⟩:gG)).q,true,(qQ cs os ks gs bs d t),(qO cs os ks gs bs l rs d t n),(List.length (qO cs os ks gs bs l rs d t n):Int),(0:Int),cs,os,ks,gs,bs,(fA (⟨d,false,true,(uU cs os ks gs bs l rs d t n),(qO cs os ks gs bs l rs d t n),(qQ cs os ks gs bs d t),gs,(List.length gs:Int),(0:Int),cs,os,ks,gs,bs,([]:List Int)⟩:gG)).best⟩:pJ)) (.ret)) (.ok (.v (.bool (ZN (⟨d,(fA (⟨d,false,true,(uU cs os ks gs bs l rs d t n),(qO cs os ks gs bs l rs d t n),(qQ cs os ks gs bs d t),gs,(List.length gs:Int),(0:Int),cs,os,ks,gs,bs,([]:List Int)⟩:gG)).q,true,(qQ cs os ks gs bs d t),(qO cs os ks gs bs l rs d t n),(List.length (qO cs os ks gs bs l rs d t n):Int),(0:Int),cs,os,ks,gs,bs,(fA (⟨d,false,true,(uU cs os ks gs bs l rs d t n),(qO cs os ks gs bs l rs d t n),(qQ cs os ks gs bs d t),gs,(List.length gs:Int),(0:Int),cs,os,ks,gs,bs,([]:List Int)⟩:gG)).best⟩:pJ)).q))) (.br true (.br ((FH cs os ks gs bs)==0) (.req ((List.length gs:Int)≤1000) (.req (0+(List.length (fA (⟨d,false,true,(uU cs os ks gs bs l rs d t n),(qO cs os ks gs bs l rs d t n),(qQ cs os ks gs bs d t),gs,(List.length gs:Int),(0:Int),cs,os,ks,gs,bs,([]:List Int)⟩:gG)).best)≤List.length (fA (⟨d,false,true,(uU cs os ks gs bs l rs d t n),(qO cs os ks gs bs l rs d t n),(qQ cs os ks gs bs d t),gs,(List.length gs:Int),(0:Int),cs,os,ks,gs,bs,([]:List Int)⟩:gG)).best) (.req ((List.length (gQ cs os ks gs bs):Int)≤1000∧∀r∈(gQ cs os ks gs bs),GU (jC gs) (((fA (⟨d,false,true,(uU cs os ks gs bs l rs d t n),(qO cs os ks gs bs l rs d t n),(qQ cs os ks gs bs d t),gs,(List.length gs:Int),(0:Int),cs,os,ks,gs,bs,([]:List Int)⟩:gG)).best.drop 0).take (List.length (fA (⟨d,false,true,(uU cs os ks gs bs l rs d t n),(qO cs os ks gs bs l rs d t n),(qQ cs os ks gs bs d t),gs,(List.length gs:Int),(0:Int),cs,os,ks,gs,bs,([]:List Int)⟩:gG)).best)) r) (.br (!(yc (gQ cs os ks gs bs) (jC gs) (((fA (⟨d,false,true,(uU cs os ks gs bs l rs d t n),(qO cs os ks gs bs l rs d t n),(qQ cs os ks gs bs d t),gs,(List.length gs:Int),(0:Int),cs,os,ks,gs,bs,([]:List Int)⟩:gG)).best.drop 0).take (List.length (fA (⟨d,false,true,(uU cs os ks gs bs l rs d t n),(qO cs os ks gs bs l rs d t n),(qQ cs os ks gs bs d t),gs,(List.length gs:Int),(0:Int),cs,os,ks,gs,bs,([]:List Int)⟩:gG)).best)))) (.ok (.v (.bool true))) (.req (0+(List.length (fA (⟨d,false,true,(uU cs os ks gs bs l rs d t n),(qO cs os ks gs bs l rs d t n),(qQ cs os ks gs bs d t),gs,(List.length gs:Int),(0:Int),cs,os,ks,gs,bs,([]:List Int)⟩:gG)).best)≤List.length (fA (⟨d,false,true,(uU cs os ks gs bs l rs d t n),(qO cs os ks gs bs l rs d t n),(qQ cs os ks gs bs d t),gs,(List.length gs:Int),(0:Int),cs,os,ks,gs,bs,([]:List Int)⟩:gG)).best) (.req ((List.length (qQ cs os ks gs bs d t):Int)≤1000) (.ok (.v (.bool ((qQ cs os ks gs bs d t)==(((fA (⟨d,false,true,(uU cs os ks gs bs l rs d t n),(qO cs os ks gs bs l rs d t n),(qQ cs os ks gs bs d t),gs,(List.length gs:Int),(0:Int),cs,os,ks,gs,bs,([]:List Int)⟩:gG)).best.drop 0).take (List.length (fA (⟨d,false,true,(uU cs os ks gs bs l rs d t n),(qO cs os ks gs bs l rs d t n),(qQ cs os ks gs bs d t),gs,(List.length gs:Int),(0:Int),cs,os,ks,gs,bs,([]:List Int)⟩:gG)).best)))))))))))) (.ok (.v (.bool false)))) (.ok (.v (.bool false))))))))))))))):=by kernel_rfl
theorem aD0:Valid Tryz.prog aS 7 aBG:=aH Tryz.func7 rfl Xi aF (L:=(fun i=>if i=10 then En.lp else if i=20 then Em.lp else aC i)) (fun b hb=>by
 rw [show aB _=[Ap,Am] by kernel_rfl] at hb
 simp only [List.mem_cons,List.not_mem_nil,or_false] at hb
 rcases hb with rfl|rfl
 ·exact alM
 ·exact alL) (fun args lv h=>by
 unfold asv at h
 split at h
 ·simp only [canL,canX]
  rw [aAj]
  rename_i cs os ks gs bs l rs d t n
  obtain ⟨hn,rfl⟩:=h
  refine ⟨fun c=>rfl,fun c=>⟨⟨hn,aBb c⟩,fun c2=>rfl,fun c2=>?_⟩⟩
  have c2:=Ot c2
  have V:=aqn c2
  have hw:=ayV V
  obtain ⟨ea,er,el,ee⟩:=axc c2
  have gl:=V.gl
  obtain ⟨r1,r2,r3⟩:=avo (DL (t:=t) V.si)
  have tl:=(ae4 (t:=t) V.si).1
  have al:(uU cs os ks gs bs l rs d t n).length=gs.length:=by rw [ea];exact dN
  refine ⟨hw,⟨V.si,hw⟩,fun c3=>absurd c3 (by rw [ee,al,tl];simp),fun _=>⟨⟨rfl,rfl⟩,?_⟩⟩
  have hE:adi ⟨d,false,true,uU cs os ks gs bs l rs d t n,qO cs os ks gs bs l rs d t n,qQ cs os ks gs bs d t,gs,(List.length gs:Int),0,cs,os,ks,gs,bs,[]⟩:=⟨rfl,rfl,rfl,by simp only;omega,⟨V.dl,al⟩,fun j j0 j1=>⟨by
   have hc:=Dw (V.ch j j0 j1)
   have hh:kC (aW gs j).2.2.2.1 (aW gs j).2.2.2.2.1 (aW gs j).2.2.2.2.2.1=true:=dV.2 (by omega)
   have hp:=F5 hh
   have hq:=PW (mi:=(aW gs j).2.2.2.1) (ma:=(aW gs j).2.2.2.2.1) (st:=(aW gs j).2.2.2.2.2.1)
   simp only
   rw [aK (by omega) (by omega)]
   exact (ajx (by omega) (by omega)).1,fun hf=>by simp only;rw [ea];exact aqm V j0 j1 hf⟩⟩
  obtain ⟨_,_,q1,q2⟩:=alh _ hE
  have q2:(fA ⟨d,false,true,uU cs os ks gs bs l rs d t n,qO cs os ks gs bs l rs d t n,qQ cs os ks gs bs d t,gs,(List.length gs:Int),0,cs,os,ks,gs,bs,[]⟩).best=I9 gs d:=q2
  refine ⟨⟨hE,rfl,rfl⟩,fun c4=>(by rw [show Qg ⟨d,false,true,uU cs os ks gs bs l rs d t n,qO cs os ks gs bs l rs d t n,qQ cs os ks gs bs d t,gs,(List.length gs:Int),0,cs,os,ks,gs,bs,[]⟩=_ from q1] at c4;cases c4),fun _=>⟨⟨rfl,rfl⟩,?_⟩⟩
  have hE2:adh ⟨d,(fA ⟨d,false,true,uU cs os ks gs bs l rs d t n,qO cs os ks gs bs l rs d t n,qQ cs os ks gs bs d t,gs,(List.length gs:Int),0,cs,os,ks,gs,bs,[]⟩).q,true,qQ cs os ks gs bs d t,qO cs os ks gs bs l rs d t n,(List.length (qO cs os ks gs bs l rs d t n):Int),0,cs,os,ks,gs,bs,(fA ⟨d,false,true,uU cs os ks gs bs l rs d t n,qO cs os ks gs bs l rs d t n,qQ cs os ks gs bs d t,gs,(List.length gs:Int),0,cs,os,ks,gs,bs,[]⟩).best⟩:=⟨rfl,rfl,by
   have:=xJ (gs:=gs) (l:=l) (t:=t) (n:=n) (am:=QR gs rs (S9 cs os ks gs bs l d t) gs.length) (k:=gs.length)
   simp only
   rw [el]
   omega,fun j j0 j1=>by
   have j1:j<((qO cs os ks gs bs l rs d t n).length:Int):=j1
   have hm:=F9 j0 j1
   rw [el] at hm
   obtain ⟨i,m,i1,i2,i3,i4⟩:=abP hm
   have hf:=avO i4
   have hc:=Dw (V.ch (i:Int) (by omega) (by omega))
   rw [←el] at i3
   simp only
   rw [i3]
   refine ⟨by simp only;rw [V.dl];omega,?_⟩
   simp only
   cases hq:(lV d (i:Int)).1 with
   |true=>rfl
   |false=>have:=aqm V (by omega) (by omega) hq;omega⟩
  obtain ⟨_,_,q3⟩:=alg _ hE2
  refine ⟨⟨hE2,rfl,rfl⟩,fun c5=>(by rw [show Qe ⟨d,(fA ⟨d,false,true,uU cs os ks gs bs l rs d t n,qO cs os ks gs bs l rs d t n,qQ cs os ks gs bs d t,gs,(List.length gs:Int),0,cs,os,ks,gs,bs,[]⟩).q,true,qQ cs os ks gs bs d t,qO cs os ks gs bs l rs d t n,(List.length (qO cs os ks gs bs l rs d t n):Int),0,cs,os,ks,gs,bs,(fA ⟨d,false,true,uU cs os ks gs bs l rs d t n,qO cs os ks gs bs l rs d t n,qQ cs os ks gs bs d t,gs,(List.length gs:Int),0,cs,os,ks,gs,bs,[]⟩).best⟩=_ from q3] at c5;cases c5),fun _=>⟨fun _=>?_,fun h=>by cases h⟩⟩
  rw [r2,q2]
  have ed:((I9 gs d).drop 0).take (I9 gs d).length=I9 gs d:=by rw [List.drop_zero,List.take_length]
  rw [ed,r1]
  refine ⟨fun _=>⟨by omega,by omega,⟨by omega,ap6 V.si (axs V.si)⟩,fun c6=>rfl,fun c6=>⟨by omega,by rw [tl];omega,?_⟩⟩,fun h=>absurd h (by decide)⟩
  rw [axr V.si (Ot c6),beq_self_eq_true]
  rfl
 ·cases h)
end Go.Proofs.YtlihnbimgclogaaGreatDoor
namespace Go.Sx
open Go Go.RowKit Go.Proofs.YtlihnbimgclogaaGreatDoor
def Vz:(t:Ty)→t.D→Prop
 | .int k,n=>(Lit.int k n).wf=true
 | .bool,_=>True
 | .str,s=>s.size≤maxLen
 | .sl e,l=>List.length l≤maxLen∧∀d,d∈l→Vz e d
 | .pair a b,d=>Vz a d.1∧Vz b d.2
def Dh (P:Program):Nat→List Field→Bool
 |_,[]=>true
 |o,f::fs=>decide (f.offset=o)&&Dh P (o+P.cellsOf f.type) fs
def GL (P:Program):Nat→TypeId→Bool
 |0,_=>false
 |m+1,t=>match P.underlying t with
  |some (.int _) |some .bool|some .string=>decide (P.cellsOf t=1)
  |some (.struct fs)=>Dh P 0 fs.toList&&decide (P.cellsOf t=((fs.toList.map (·.type)).map P.cellsOf).sum)&&fs.toList.all (fun f=>GL P m f.type)
  |some (.array n e)=>decide (P.cellsOf t=((List.replicate n e).map P.cellsOf).sum)&&GL P m e
  |some (.slice e)=>decide (P.cellsOf t=1)&&decide (1≤P.cellsOf e)&&(xQ P m e).any (fun ty=>ty.n==P.cellsOf e)&&GL P m e
  |_=>false
variable {H : Type} {enc : TypeId × Value → H} {P : Program} {w : World} {base : Nat} {spare : Nat → Bool} {held : Bool} {β : Nat → Loc}
def Good (enc:TypeId×Value→H) (P:Program) (w:World) (base:Nat) (spare:Nat→Bool) (held:Bool) (t:TypeId) (cs:List Value):Prop:=∃n x,DataW.trod enc P w base spare held n t cs=some x
theorem RL.append' {Z:Nat→Prop}:∀ {l1 l2:List LV}{y1 y2:List Value},RL β Z w l1 y1→RL β Z w l2 y2→RL β Z w (l1++l2) (y1++y2)
 | [],l2,y1,y2,h1,h2=>by simp only [RL] at h1;subst h1;exact h2
 |x::xs,l2,y1,y2,h1,h2=>by
  simp only [RL,List.cons_append] at h1⊢
  obtain ⟨y,zs,rfl,h3,h4⟩:=h1
  exact ⟨y,zs++y2,rfl,h3,RL.append' h4 h2⟩
theorem Xv {Z:Nat→Prop}:∀(t:Ty) (d:t.D) (cs:List Value) (b o:Nat),RL β Z w (fE t d) cs→(∀(j:Nat) v,cs[j]? =some v→w.cell? ⟨b,o+j,none⟩=some v)→RD Z w t d b o
 | .int k,d,cs,b,o,h,hc=>by
  simp only [fE,RL,R] at h
  obtain ⟨y,zs,rfl,rfl,_⟩:=h
  simp only [RD];exact hc 0 _ rfl
 | .bool,d,cs,b,o,h,hc=>by
  simp only [fE,RL,R] at h
  obtain ⟨y,zs,rfl,rfl,_⟩:=h
  simp only [RD];exact hc 0 _ rfl
 | .str,d,cs,b,o,h,hc=>by
  simp only [fE,RL,R] at h
  obtain ⟨y,zs,rfl,rfl,_⟩:=h
  simp only [RD];exact hc 0 _ rfl
 | .sl e,d,cs,b,o,h,hc=>by
  simp only [fE,RL,R] at h
  obtain ⟨y,zs,rfl,⟨a,cap,rfl,h2,h3⟩,_⟩:=h
  simp only [RD];exact ⟨a,cap,hc 0 _ rfl,h2,h3⟩
 | .pair p q,d,cs,b,o,h,hc=>by
  simp only [fE] at h
  have hl:=RL.length h
  simp only [List.length_append,bY] at hl
  have h1:=h.take_drop 0 p.n
  have h2:RL β Z w ((fE p d.1++fE q d.2).drop p.n) (cs.drop p.n):=by
   refine RL.cu (by simp [hl,bY]) fun i z hz=>?_
   rw [List.getElem?_drop] at hz⊢
   exact RL.get _ _ h hz
  have t1:((fE p d.1++fE q d.2).drop 0).take p.n=fE p d.1:=by
   rw [List.drop_zero,List.take_append_of_le_length (by rw [bY];exact Nat.le_refl _),List.take_of_length_le (by rw [bY];exact Nat.le_refl _)]
  have t2:(fE p d.1++fE q d.2).drop p.n=fE q d.2:=by
   rw [List.drop_append_of_le_length (by rw [bY];exact Nat.le_refl _),List.drop_eq_nil_of_le (by rw [bY];exact Nat.le_refl _),List.nil_append]
  rw [t1,List.drop_zero] at h1
  rw [t2] at h2
  simp only [RD]
  refine ⟨Xv p d.1 _ b o h1 (fun j v hv=>?_),Xv q d.2 _ b (o+p.n) h2 (fun j v hv=>?_)⟩
  ·rw [List.getElem?_take] at hv
   split at hv
   ·exact hc j v hv
   ·cases hv
  ·rw [List.getElem?_drop] at hv
   have:=hc (p.n+j) v hv
   rwa [←Nat.add_assoc] at this
theorem Ho {Z:Nat→Prop}{r:TypeId→Option Ty}{sz:TypeId→Nat}{Gd:TypeId→List Value→Prop}:∀(ts:List TypeId) (ty:Ty) (cs:List Value),VG r ts=some ty→
  (∀t∈ts,∀ty c,r t=some ty→Gd t c→∃d:ty.D,RL β Z w (fE ty d) c∧Vz ty d)→cs.length=(ts.map sz).sum→(∀pre t post,ts=pre++t::post→Gd t ((cs.drop (pre.map sz).sum).take (sz t)))→∃d:ty.D,RL β Z w (fE ty d) cs∧Vz ty d
 | [],ty,cs,h,_,_,_=>by simp [VG] at h
 | [t],ty,cs,h,ih,hl,hg=>by
  simp only [VG] at h
  have:=ih t (by simp) ty _ h (hg [] t [] rfl)
  have e:(cs.drop (List.map sz []).sum).take (sz t)=cs:=by
   simp at hl⊢
   exact List.take_of_length_le (by omega)
  rw [e] at this
  exact this
 | t::u::ts,ty,cs,h,ih,hl,hg=>by
  simp only [VG] at h
  split at h
  ·rename_i a b ha hb
   simp only [Option.some.injEq] at h
   subst h
   obtain ⟨d1,a1,a2⟩:=ih t (by simp) a _ ha (hg [] t (u::ts) rfl)
   obtain ⟨d2,b1,b2⟩:=Ho (sz:=sz) (Gd:=Gd) (u::ts) b (cs.drop (sz t)) hb (fun t' ht=>ih t' (by simp at ht⊢;exact .inr ht)) (by simp at hl⊢;omega) (fun pre t' post e=>by
    have:=hg (t::pre) t' post (by rw [e];rfl)
    rw [List.drop_drop]
    simpa using this)
   refine ⟨(d1,d2),?_,by simp only [Vz];exact ⟨a2,b2⟩⟩
   have:=RL.append' a1 b1
   simp only [fE]
   simpa using this
  ·cases h
theorem Ol:∀(fs:List Field) (o:Nat),Dh P o fs=true→∀pre f post,fs=pre++f::post→f.offset=o+((pre.map (·.type)).map P.cellsOf).sum
 | [],o,_,pre,f,post,e=>by cases pre<;>cases e
 |g::fs,o,h,[],f,post,e=>by
  simp only [Dh,Bool.and_eq_true,decide_eq_true_eq] at h
  simp only [List.nil_append,List.cons.injEq] at e
  rw [←e.1];simpa using h.1
 |g::fs,o,h,p::pre,f,post,e=>by
  simp only [Dh,Bool.and_eq_true,decide_eq_true_eq] at h
  simp only [List.cons_append,List.cons.injEq] at e
  have:=Ol fs _ h.2 pre f post e.2
  rw [this,←e.1];simp;omega
theorem FX {Z:Nat→Prop}(hZ:∀b,b<w.heap.size→Z b):∀(m:Nat) (t:TypeId) (ty:Ty),GL P m t=true→xQ P m t=some ty→∀cs,Good enc P w base spare held t cs→∃d:ty.D,RL β Z w (fE ty d) cs∧Vz ty d
 |0,t,_,h,_,_,_=>by cases h
 | m + 1,t,ty,h,hty,cs,⟨n,x,hx⟩=>by
  simp only [GL] at h
  simp only [xQ] at hty
  split at h
  ·rename_i k hu
   obtain ⟨z,rfl,_,hw⟩:=DataW.trod_int hu hx
   simp only [hu,Option.some.injEq] at hty
   subst hty
   exact ⟨z,by simp [fE,RL,R],hw⟩
  ·rename_i hu
   obtain ⟨z,rfl,_⟩:=DataW.trod_bool hu hx
   simp only [hu,Option.some.injEq] at hty
   subst hty
   exact ⟨z,by simp [fE,RL,R],trivial⟩
  ·rename_i hu
   obtain ⟨z,rfl,_,hs⟩:=DataW.trod_string hu hx
   simp only [hu,Option.some.injEq] at hty
   subst hty
   exact ⟨z,by simp [fE,RL,R],hs⟩
  ·rename_i fs hu
   simp only [Bool.and_eq_true,decide_eq_true_eq,List.all_eq_true] at h
   obtain ⟨⟨h1,h2⟩,h3⟩:=h
   obtain ⟨xs,n',_,_,hl,hxl,hf⟩:=DataW.trod_struct hu hx
   simp only [hu] at hty
   refine Ho (Gd:=Good enc P w base spare held) (sz:=P.cellsOf) (fs.toList.map (·.type)) ty cs hty (fun t' ht ty' c hty' hc=>?_) (by rw [hl,h2]) (fun pre t' post e=>?_)
   ·obtain ⟨f,hf1,rfl⟩:=List.mem_map.1 ht
    exact FX hZ m f.type ty' (h3 f hf1) hty' c hc
   ·obtain ⟨fpre,frest,e1,e2,e3⟩:=List.map_eq_append_iff.1 e
    obtain ⟨f,fpost,rfl,e4,e5⟩:=List.map_eq_cons_iff.1 e3
    have ho:=Ol fs.toList 0 h1 fpre f fpost e1
    have hi:fs[fpre.length]? =some f:=by
     have:fs.toList[fpre.length]? =some f:=by rw [e1];simp
     simpa using this
    have hg:=hf _ f hi
    have hlt:fpre.length<fs.size:=(Array.getElem?_eq_some_iff.1 hi).1
    rw [ho,Nat.zero_add] at hg
    refine ⟨n',xs[fpre.length]'(by omega),?_⟩
    rw [←e2,←e4,hg,List.getElem?_eq_getElem]
  ·rename_i n0 e hu
   simp only [Bool.and_eq_true,decide_eq_true_eq] at h
   obtain ⟨h2,h3⟩:=h
   obtain ⟨xs,n',_,_,hl,hxl,hf⟩:=DataW.trod_array hu hx
   simp only [hu] at hty
   refine Ho (Gd:=Good enc P w base spare held) (sz:=P.cellsOf) (List.replicate n0 e) ty cs hty (fun t' ht ty' c hty' hc=>?_) (by rw [hl,h2]) (fun pre t' post e'=>?_)
   ·rw [(List.mem_replicate.1 ht).2] at hc hty'
    exact FX hZ m e ty' h3 hty' c hc
   ·obtain ⟨c1,c2,c3⟩:=List.replicate_eq_append_iff.1 e'
    have ht':t'=e:=by
     have:t'∈List.replicate n0 e:=by rw [e'];simp
     exact (List.mem_replicate.1 this).2
    have hlen:pre.length<n0:=by
     have:=congrArg List.length e'
     simp at this;omega
    have hg:=hf pre.length hlen
    refine ⟨n',xs[pre.length]'(by omega),?_⟩
    have hs:(pre.map P.cellsOf).sum=pre.length*P.cellsOf e:=by rw [c2];simp
    rw [hs,ht',hg,List.getElem?_eq_getElem]
  ·rename_i e hu
   simp only [Bool.and_eq_true,decide_eq_true_eq] at h
   obtain ⟨⟨⟨h1,h2⟩,h4⟩,h3⟩:=h
   simp only [hu,Option.map_eq_some_iff] at hty
   obtain ⟨te,hte,rfl⟩:=hty
   rw [hte] at h4
   simp only [Option.any_some,beq_iff_eq] at h4
   rcases DataW.trod_slice hu hx with ⟨rfl,_⟩ |⟨a,len,cap,elems,rest,n',_,rfl,_,hb,hlc,hm,hlen,hel,_,_⟩
   ·refine ⟨([]:List te.D),?_,Nat.zero_le _,fun d hd=>by cases hd⟩
    simp only [fE,RL,R]
    exact ⟨_,[],rfl,⟨none,0,rfl,Nat.le_refl _,fun h=>absurd h (Nat.lt_irrefl 0)⟩,rfl⟩
   ·have each:∀i,∃d:te.D,i<len→∃c,w.cells? base (a.add (i*P.cellsOf e)) (P.cellsOf e)=some c∧RL β Z w (fE te d) c∧Vz te d:=fun i=>by
     by_cases hi:i<len
     ·have he:=hel i hi
      rw [List.getElem?_eq_getElem (by omega)] at he
      obtain ⟨c,hc,ht⟩:=Option.bind_eq_some_iff.1 he
      obtain ⟨d,l1,l2⟩:=FX hZ m e te h3 hte c ⟨n',_,ht⟩
      exact ⟨d,fun _=>⟨c,hc,l1,l2⟩⟩
     ·exact ⟨te.dflt,fun h=>absurd h hi⟩
    have ⟨g,hg⟩:=Classical.axiomOfChoice each
    have hlg:List.length ((List.range len).map g)=len:=by simp
    refine ⟨(List.range len).map g,?_,by rw [hlg];omega,fun d hd=>?_⟩
    ·simp only [fE,RL,R]
     refine ⟨_,[],rfl,⟨some a,cap,by rw [hlg],by rw [hlg];omega,fun hn=>?_⟩,rfl⟩
     rw [hlg] at hn
     obtain ⟨c0,hc0,hr0,_⟩:=hg 0 hn
     obtain ⟨_,hcl0,hat0⟩:=World.cells?_some hc0
     have hcell0:∃z,w.cell? ((a.add (0*P.cellsOf e)).add 0)=some z:=by
      rw [hat0 0 (by omega)];exact ⟨_,List.getElem?_eq_getElem (by omega)⟩
     obtain ⟨z0,hz0⟩:=hcell0
     obtain ⟨b,off,spot⟩:=a
     have hsp:spot=none:=by
      cases spot with
      |none=>rfl
      |some q=>
       unfold World.cell? at hz0
       split at hz0
       ·simp [Addr.add] at hz0
       ·cases hz0
     subst hsp
     have hbl:b<w.heap.size:=by
      simp only [addr_add] at hz0
      unfold World.cell? at hz0
      split at hz0
      ·rename_i hh;exact (Array.getElem?_eq_some_iff.1 hh).1
      ·cases hz0
     refine ⟨b,off,rfl,hZ b hbl,fun i d hd=>?_⟩
     have hi:i<len:=by
      have:=(List.getElem?_eq_some_iff.1 hd).1
      rwa [hlg] at this
     have hdd:d=g i:=by
      rw [List.getElem?_map,List.getElem?_range hi] at hd
      simpa using hd.symm
     subst hdd
     obtain ⟨c,hc,hr,_⟩:=hg i hi
     obtain ⟨_,hcl,hat⟩:=World.cells?_some hc
     refine Xv te (g i) c b _ hr (fun j v hv=>?_)
     have hj:j<P.cellsOf e:=by
      have:=(List.getElem?_eq_some_iff.1 hv).1
      omega
     have:=hat j hj
     rw [hv] at this
     rw [h4]
     simpa [addr_add,Nat.add_assoc] using this
    ·obtain ⟨i,hi,rfl⟩:=List.mem_map.1 hd
     obtain ⟨_,_,_,hw⟩:=hg i (by simpa using hi)
     exact hw
  ·cases h
def QK (P:Program) (m:Nat) (t:TypeId) (l:List LV):Prop:=∃(ty:Ty) (d:ty.D),xQ P m t=some ty∧l=fE ty d∧Vz ty d
theorem CU {P:Program}{m:Nat}{t:TypeId}{l:List LV}{ty:Ty}(ht:xQ P m t=some ty) (h:QK P m t l):∃d:ty.D,l=fE ty d∧Vz ty d:=by
 obtain ⟨ty',d,h1,h2,h3⟩:=h
 obtain rfl:=Option.some.inj (ht.symm.trans h1)
 exact ⟨d,h2,h3⟩
theorem agG {Z:Nat→Prop}(hZ:∀b,b<w.heap.size→Z b) (m:Nat) (t:TypeId) (hs:GL P m t=true) (ht:(xQ P m t).isSome=true) (cs:List Value) (hg:Good enc P w base spare held t cs):∃l,RL β Z w l cs∧dn 0 l∧QK P m t l:=by
 obtain ⟨ty,hty⟩:=Option.isSome_iff_exists.1 ht
 obtain ⟨d,h1,h2⟩:=FX (β:=β) hZ m t ty hs hty cs hg
 exact ⟨fE ty d,h1,oq 0 ty d,ty,d,hty,rfl,h2⟩
end Go.Sx
namespace Go.Sx
open Go Go.RowKit Go.Proofs.YtlihnbimgclogaaGreatDoor Go.ChangeShapes Go.WideShapes
variable {H : Type} {enc : TypeId × Value → H} {P : Program} {β : Nat → Loc} {Z : Nat → Prop}
theorem xZ (hl:laidOutB P=true) {W W':World}(hb:Below W.heap.size W W'):∀(ts:List TypeId) (vs:List Value) (ds:List (DataW H)) (ps:List MemPlace),ts.all (fun t=>P.readableRec t&&decide (t<P.types.size))=true→
  DataW.TrodAll enc P W 0 (fun _=>true) true ts vs ds ps→(∀x∈ps,x.block<W.heap.size)→DataW.TrodAll enc P W' 0 (fun b=>decide (b<W.heap.size)) true ts vs ds ps
 | [],vs,ds,ps,_,h,_=>by
  cases vs<;>cases ds<;>first|exact h|exact h.elim
 | t::ts,vs,ds,ps,hr,h,hlt=>by
  cases vs with
  |nil=>cases ds<;>exact h.elim
  | cons v vs=>
   cases ds with
   |nil=>exact h.elim
   |cons d ds=>
    obtain ⟨p,q,h1,h2,rfl⟩:=h
    simp only [List.all_cons,Bool.and_eq_true,decide_eq_true_eq] at hr
    refine ⟨p,q,Below.trod hl hr.1.1 hr.1.2 h1 hb (fun x hx=>hlt x (by simp [hx])),?_,rfl⟩
    exact xZ hl hb ts vs ds q (by simpa using hr.2) h2 (fun x hx=>hlt x (by simp [hx]))
theorem aib {fn:Func}{s:ChangeSpec}{tb:TypeId}{apart:Bool}{W W':World}{args:Array Value}{ds gs:List (DataW H)}{before:List MemPlace}
  (hl:laidOutB P=true) (hr:fn.params.toList.all (fun t=>P.readableRec t&&decide (t<P.types.size))=true) (hres:fn.resultTypes=#[tb]) (hb:P.underlying tb=some .bool) (hvars:s.vars=[])
  (hfn:(s.fn H ds).results=[.lit (.bool true)]∧(s.fn H ds).args=ds∧(s.fn H ds).vars=[])
  (hW:DataW.Whole enc P fn.params.toList s.vars apart W args.toList ds gs before) (hB:Below W.heap.size W W'):s.post enc P fn apart true false false W args (.bool true) W':=by
 have hW':=hW
 obtain ⟨p,q,hA,hV,rfl,hfz,hnd⟩:=hW
 have hg:gs=[]∧q=[]:=by
  rw [hvars] at hV
  cases gs with
  |nil=>exact ⟨rfl,hV⟩
  |cons g r=>exact hV.elim
 obtain ⟨rfl,rfl⟩:=hg
 have hlt:∀x∈p,x.block<W.heap.size:=fun x hx=>hW'.lt x (by simp [hx])
 refine ⟨ds,[],p++[],[],p,[],hW',?_,?_,?_,hB.frame _,fun h=>by cases h⟩
 ·rw [List.append_nil,hfn.1,hres]
  exact trodAll_mk1 (shut_bool hb true)
 ·rw [List.append_nil,hfn.2.1]
  exact xZ hl hB _ _ _ _ hr hA hlt
 ·rw [List.append_nil,hfn.2.2,hvars]
  rfl
def pLV (P:Program) (t:TypeId) (l:List LV):LV:=
 match P.underlying t with
 |some (.struct _)=>rE l
 |some (.array _ _)=> .junk
 |_=>match l with
  | [x]=>x
  |_=> .junk
theorem cell_of {w:World}{b0:Nat}{r:Reach}{m:Nat}{t:TypeId}(hs:GL P m t=true) {v:Value}(hv:Value.okWide P w r b0 t v) (h1:∀fs,P.underlying t=some (.struct fs)→False) (h2:∀n e,P.underlying t=some (.array n e)→False):v.cells.toList=[v]:=by
 cases m with
 |zero=>cases hs
 | succ m=>
  simp only [GL] at hs
  split at hs
  ·rename_i k hu
   obtain ⟨n,rfl⟩:=okWide_int hu hv
   rfl
  ·rename_i hu
   obtain ⟨n,rfl⟩:=okWide_bool hu hv
   rfl
  ·rename_i hu
   obtain ⟨n,rfl⟩:=okWide_string hu hv
   rfl
  ·rename_i fs hu
   exact (h1 fs hu).elim
  ·rename_i n e hu
   exact (h2 n e hu).elim
  ·rename_i e hu
   obtain ⟨a,l,c,rfl⟩:=okWide_slice hu hv
   rfl
  ·cases hs
theorem Wj {w:World}{base b0:Nat}{spare:Nat→Bool}{held:Bool}{r:Reach}(hZ:∀b,b<w.heap.size→Z b) {m:Nat}{t:TypeId}(hs:GL P m t=true) (ht:(xQ P m t).isSome=true) {v:Value}{d:DataW H}{p:List MemPlace}(hv:Value.okWide P w r b0 t v) (h:DataW.Trod enc P w base spare held t v d p):
  ∃l,okV 0 (pLV P t l)∧R β Z w (pLV P t l) v∧QK P m t l:=by
 obtain ⟨fuel,hf⟩:=h
 obtain ⟨l,h1,h2,h3⟩:=agG (β:=β) hZ m t hs ht v.cells.toList ⟨fuel,_,hf⟩
 refine ⟨l,?_,?_,h3⟩
 ·unfold pLV
  split
  ·exact oI h2
  ·trivial
  ·split
   ·exact h2.1
   ·trivial
 ·unfold pLV
  split
  ·rename_i fs hu
   obtain ⟨cs,rfl,_⟩:=okWide_struct hu hv
   exact rD h1
  ·simp only [R]
  ·split
   ·rename_i x
    simp only [RL] at h1
    obtain ⟨y,zs,e1,e2,rfl⟩:=h1
    have hc:=cell_of hs hv (by assumption) (by assumption)
    have:v=y:=by rw [hc] at e1;simpa using e1
    rw [this];exact e2
   ·simp only [R]
def V9 (P:Program):List TypeId→List (List LV)→List LV
 |t::ts,l::ls=>pLV P t l::V9 P ts ls
 |_,_=>[]
def GR (P:Program) (m:Nat):List TypeId→List (List LV)→Prop
 | [],ls=>ls=[]
 |t::ts,ls=>∃l r,ls=l::r∧QK P m t l∧GR P m ts r
theorem DT {w:World}{base b0:Nat}{spare:Nat→Bool}{held:Bool}{r:Reach}(hZ:∀b,b<w.heap.size→Z b) {m:Nat}:∀(ts:List TypeId) (vs:List Value) (ds:List (DataW H)) (ps:List MemPlace),ts.all (fun t=>GL P m t&&(xQ P m t).isSome)=true→
  (∀(j:Nat) t v,ts[j]? =some t→vs[j]? =some v→Value.okWide P w r b0 t v)→DataW.TrodAll enc P w base spare held ts vs ds ps→∃ls,dn 0 (V9 P ts ls)∧RL β Z w (V9 P ts ls) vs∧GR P m ts ls
 | [],vs,ds,ps,_,_,h=>by
  cases vs with
  |nil=>exact ⟨[],trivial,by simp [V9,RL],rfl⟩
  |cons _ _=>cases ds<;>exact h.elim
 | t::ts,vs,ds,ps,hs,hv,h=>by
  cases vs with
  |nil=>cases ds<;>exact h.elim
  | cons v vs=>
   cases ds with
   |nil=>exact h.elim
   |cons d ds=>
    obtain ⟨p,q,h1,h2,rfl⟩:=h
    simp only [List.all_cons,Bool.and_eq_true] at hs
    obtain ⟨l,a1,a2,a3⟩:=Wj (β:=β) hZ hs.1.1 hs.1.2 (hv 0 t v rfl rfl) h1
    obtain ⟨ls,b1,b2,b3⟩:=DT hZ ts vs ds q hs.2 (fun j t' v' e1 e2=>hv (j+1) t' v' (by simpa using e1) (by simpa using e2)) h2
    exact ⟨l::ls,⟨a1,b1⟩,⟨v,vs,rfl,a2,b2⟩,l,ls,rfl,a3,b3⟩
theorem P5 {G:bW}{f:FuncId}{fn:Func}{S:List LV→T LV}{s:ChangeSpec}{tb:TypeId}{apart:Bool}{m:Nat}{W:World}{base:Nat}{args:Array Value}{ds gs:List (DataW H)}{before:List MemPlace}
  (hv:Valid P G f S) (hl:laidOutB P=true) (hr:fn.params.toList.all (fun t=>P.readableRec t&&decide (t<P.types.size))=true) (hres:fn.resultTypes=#[tb]) (hb:P.underlying tb=some .bool) (hvars:s.vars=[])
  (hfn:(s.fn H ds).results=[.lit (.bool true)]∧(s.fn H ds).args=ds∧(s.fn H ds).vars=[]) (hs:fn.params.toList.all (fun t=>GL P m t&&(xQ P m t).isSome)=true)
  (hS:∀ls,GR P m fn.params.toList ls→(S (V9 P fn.params.toList ls)).all (fun x=>x=.v (.bool true)))
  (hg:U7 G (fun b=>b<W.heap.size) W)
  (hval:∀(j:Nat) t v,fn.params[j]? =some t→args[j]? =some v→Value.okWide P W .any base t v)
  (hW:DataW.Whole enc P fn.params.toList s.vars apart W args.toList ds gs before):
  Calls P f args W fun e W'=>∃v,e=.returned v∧s.post enc P fn apart true false false W args v W':=by
 have hA:∃p,DataW.TrodAll enc P W 0 (fun _=>true) true fn.params.toList args.toList ds p:=by
  obtain ⟨p,q,hA,_⟩:=hW
  exact ⟨p,hA⟩
 obtain ⟨p,hA⟩:=hA
 obtain ⟨ls,h1,h2,h3⟩:=DT (β:=β0) (Z:=fun b=>b<W.heap.size) (fun _ h=>h) fn.params.toList args.toList ds p hs (fun j t v e1 e2=>hval j t v (by simpa using e1) (by simpa using e2)) hA
 refine (hv _ args W _ _ (fun _ h=>h) hg h1 h2 (hS ls h3)).mono fun e W' ⟨hB,v,he,_,hR⟩=>⟨v,he,?_⟩
 simp only [R] at hR
 rw [hR]
 exact aib hl hr hres hb hvars hfn hW hB
end Go.Sx
namespace Go.Sx
open Go Go.RowKit Go.Proofs.YtlihnbimgclogaaGreatDoor
variable {H : Type} {enc : TypeId × Value → H} {P : Program} {w : World} {base : Nat} {spare : Nat → Bool} {held : Bool}
def Ef {H:Type}:Nat→DataW H→List Value
 |0,_=>[]
 |_+1,.lit (.int k n)=>[.int k n]
 |_+1,.lit (.bool b)=>[.bool b]
 |m+1,.agg l=>l.flatMap (Ef m)
 |_,_=>[]
def G9 (P:Program):Nat→TypeId→Bool
 |0,_=>false
 |m+1,t=>match P.underlying t with
  |some (.int _) |some .bool=>true
  |some (.struct fs)=>Dh P 0 fs.toList&&decide (P.cellsOf t=((fs.toList.map (·.type)).map P.cellsOf).sum)&&fs.toList.all (fun f=>G9 P m f.type)
  |some (.array n e)=>decide (P.cellsOf t=((List.replicate n e).map P.cellsOf).sum)&&G9 P m e
  |_=>false
theorem IZ {sz:TypeId→Nat}{g:DataW H→List Value}{Tr:TypeId→List Value→DataW H→Prop}:∀(ts:List TypeId) (cs:List Value) (ds:List (DataW H)),
  (∀t∈ts,∀c d,Tr t c d→g d=c)→ds.length=ts.length→cs.length=(ts.map sz).sum→(∀pre t post,ts=pre++t::post→∃d,ds[pre.length]? =some d∧Tr t ((cs.drop (pre.map sz).sum).take (sz t)) d)→ds.flatMap g=cs
 | [],cs,ds,_,h0,hl,_=>by
  have:cs=[]:=by simpa using hl
  have h2:ds=[]:=by simpa using h0
  rw [this,h2];rfl
 |t::ts,cs,[],_,h0,_,_=>by simp at h0
 | t::ts,cs,d::ds,ih,h0,hl,hg=>by
  obtain ⟨d',e1,e2⟩:=hg [] t ts rfl
  simp at e1
  subst e1
  have r:=IZ (sz:=sz) (g:=g) (Tr:=Tr) ts (cs.drop (sz t)) ds (fun t' ht=>ih t' (by simp [ht])) (by simpa using h0) (by simp at hl⊢;omega) (fun pre t' post e=>by
   obtain ⟨q,q1,q2⟩:=hg (t::pre) t' post (by rw [e];rfl)
   refine ⟨q,by simpa using q1,?_⟩
   rw [List.drop_drop]
   simpa using q2)
  rw [List.flatMap_cons,r,ih t (by simp) _ _ e2]
  simp
theorem Qb:∀(m:Nat) (t:TypeId),G9 P m t=true→∀(n:Nat) (cs:List Value) (x:DataW H×List MemPlace),DataW.trod enc P w base spare held n t cs=some x→Ef m x.1=cs
 |0,t,h,_,_,_,_=>by cases h
 | m +1,t,h,n,cs,x,hx=>by
  simp only [G9] at h
  split at h
  ·rename_i k hu
   obtain ⟨z,rfl,rfl,hw⟩:=DataW.trod_int hu hx
   rfl
  ·rename_i hu
   obtain ⟨z,rfl,rfl⟩:=DataW.trod_bool hu hx
   rfl
  ·rename_i fs hu
   simp only [Bool.and_eq_true,decide_eq_true_eq,List.all_eq_true] at h
   obtain ⟨⟨h1,h2⟩,h3⟩:=h
   obtain ⟨xs,n',_,rfl,hl,hxl,hf⟩:=DataW.trod_struct hu hx
   simp only [Ef]
   refine IZ (sz:=P.cellsOf) (Tr:=fun t c d=>∃y,DataW.trod enc P w base spare held n' t c=some y∧y.1=d) (fs.toList.map (·.type)) cs _ (fun t' ht c d hc=>?_) (by simp [hxl]) (by rw [hl,h2]) (fun pre t' post e=>?_)
   ·obtain ⟨f,hf1,rfl⟩:=List.mem_map.1 ht
    obtain ⟨y,hy,rfl⟩:=hc
    exact Qb m f.type (h3 f hf1) n' c y hy
   ·obtain ⟨fpre,frest,e1,e2,e3⟩:=List.map_eq_append_iff.1 e
    obtain ⟨f,fpost,rfl,e4,e5⟩:=List.map_eq_cons_iff.1 e3
    have ho:=Ol fs.toList 0 h1 fpre f fpost e1
    have hi:fs[fpre.length]? =some f:=by
     have:fs.toList[fpre.length]? =some f:=by rw [e1];simp
     simpa using this
    have hg:=hf _ f hi
    have hlt:fpre.length<fs.size:=(Array.getElem?_eq_some_iff.1 hi).1
    rw [ho,Nat.zero_add] at hg
    refine ⟨(xs[fpre.length]'(by omega)).1,?_,xs[fpre.length]'(by omega),?_,rfl⟩
    ·rw [←e2,List.length_map,List.getElem?_map,List.getElem?_eq_getElem (by omega)];rfl
    ·rw [←e2,←e4,hg,List.getElem?_eq_getElem]
  ·rename_i n0 e hu
   simp only [Bool.and_eq_true,decide_eq_true_eq] at h
   obtain ⟨h2,h3⟩:=h
   obtain ⟨xs,n',_,rfl,hl,hxl,hf⟩:=DataW.trod_array hu hx
   simp only [Ef]
   refine IZ (sz:=P.cellsOf) (Tr:=fun t c d=>∃y,DataW.trod enc P w base spare held n' t c=some y∧y.1=d) (List.replicate n0 e) cs _ (fun t' ht c d hc=>?_) (by simp [hxl]) (by rw [hl,h2]) (fun pre t' post e'=>?_)
   ·rw [(List.mem_replicate.1 ht).2] at hc
    obtain ⟨y,hy,rfl⟩:=hc
    exact Qb m e h3 n' c y hy
   ·obtain ⟨c1,c2,c3⟩:=List.replicate_eq_append_iff.1 e'
    have ht':t'=e:=by
     have:t'∈List.replicate n0 e:=by rw [e'];simp
     exact (List.mem_replicate.1 this).2
    have hlen:pre.length<n0:=by
     have:=congrArg List.length e'
     simp at this;omega
    have hg:=hf pre.length hlen
    have hs:(pre.map P.cellsOf).sum=pre.length*P.cellsOf e:=by rw [c2];simp
    refine ⟨(xs[pre.length]'(by omega)).1,?_,xs[pre.length]'(by omega),?_,rfl⟩
    ·rw [List.getElem?_map,List.getElem?_eq_getElem (by omega)];rfl
    ·rw [hs,ht',hg,List.getElem?_eq_getElem]
  ·cases h
theorem Kt {W:World}{name:String}{d:DataW Unit}{rest:List (String×DataW Unit)}{g:Nat}{t:TypeId}{m:Nat}(hg:P.globalNamed name=some g) (hty:(P.globals[g]?).map (·.type)=some t) (hp:G9 P m t=true)
  (h:laidMet P ((name,d)::rest) W):(∀i,W.cell? ⟨g,i,none⟩=(Ef m d)[i]?)∧((Ef m d)≠ []→g<W.heap.size):=by
 obtain ⟨ps,⟨g',t',cs,fuel,p,q,hg',ht',hvar,hd,_,_⟩,_⟩:=h
 obtain rfl:=Option.some.inj (hg.symm.trans hg')
 obtain rfl:=Option.some.inj (hty.symm.trans ht')
 have hf:=Qb m t hp fuel _ _ hd
 simp only at hf
 have hcell:∀i,W.cell? ⟨g,i,none⟩=(Ef m d)[i]? :=fun i=>by
  rw [World.var?_cell hg hvar i,hf];simp
 refine ⟨hcell,fun hne=>?_⟩
 have h0:=hcell 0
 cases hh:(Ef m d)[0]? with
 |none=>exact absurd (List.getElem?_eq_none_iff.1 hh) (by have:=List.length_pos_iff.2 hne;omega)
 |some z=>
  rw [hh] at h0
  unfold World.cell? at h0
  split at h0
  ·rename_i hb;exact (Array.getElem?_eq_some_iff.1 hb).1
  ·cases h0
end Go.Sx
namespace Go.Proofs.YtlihnbimgclogaaGreatDoor
open Go.Sx Go.ChangeShapes Go.WideShapes Go.ChangeAt Go.RowKit
theorem own:ownKnob Tryz.prog.godebug=none:=by kernel_rfl
theorem laidOut:laidOutB Tryz.prog=true:=by kernel_rfl
theorem aEm:Tryz.prog.globalNamed "chargepark/ramp.happens"=some 0:=by kernel_rfl
theorem aA9:(Tryz.prog.globals[0]?).map (·.type)=some 130:=by kernel_rfl
theorem aiN {W:World}(h:laidMetH Tryz.prog [("chargepark/ramp.happens",Rows.laid_chargepark_ramp_happens)] W):U7 aS (fun b=>b<W.heap.size) W:=by
 obtain ⟨h1,h2⟩:=Kt (m:=4) aEm aA9 (by kernel_rfl) (show laidMet Tryz.prog [("chargepark/ramp.happens",Rows.laid_chargepark_ramp_happens)] W from h)
 intro g n f hg
 unfold aS at hg
 split at hg
 ·simp only [Option.some.injEq,Prod.mk.injEq] at hg
  obtain ⟨rfl,rfl⟩:=hg
  refine ⟨h2 (by decide),fun j hj=>?_⟩
  rw [h1 j]
  match j,hj with
  |0,_=>rfl
  |1,_=>rfl
  |2,_=>rfl
  |3,_=>rfl
  |4,_=>rfl
  |5,_=>rfl
  |6,_=>rfl
  |7,_=>rfl
 ·cases hg
theorem LH {H:Type}{enc:TypeId×Value→H}{P:Program}{w:World}{base:Nat}{spare:Nat→Bool}{held:Bool}:∀ {ts:List TypeId}{vs:List Value}{ds:List (DataW H)}{ps:List MemPlace},DataW.TrodAll enc P w base spare held ts vs ds ps→ds.length=ts.length
 | [],[],[],_,_=>rfl
 | [],_::_,_,_,h=>by cases h
 | [],[],_::_,_,h=>by cases h
 |_::_,[],_,_,h=>by cases h
 |_::_,_::_,[],_,h=>by cases h
 |_::_,_::_,_::_,_,h=>by
  obtain ⟨_,_,_,h2,_⟩:=h
  simp [LH h2]
noncomputable def laidWorld (os:Os):World:=
 { World.holding Tryz.prog os ⟨#[],#[],[]⟩ with heap:=(World.holding Tryz.prog os ⟨#[],#[],[]⟩).heap.modify 0 fun
   | .cells _ t frozen=> .cells #[.int .i64 1,.int .i64 1,.int .i64 1,.int .i64 0,.int .i64 2,.int .i64 2,.int .i64 3,.int .i64 3] t frozen
   |o=>o}
theorem ali {cs:List Cd}{os:List ByteArray}{ks:List Ko}{gs:List Ch}{bs:List Ba}(h1:Vz (.sl dU) cs) (h2:Vz (.sl .str) os) (h3:Vz (.sl dW) ks) (h4:Vz (.sl dM) gs) (h5:Vz (.sl dX) bs):nmR (gB cs os ks gs bs):=by
 intro w hw
 have key:∀n:Nat,n≤maxLen→(n:Int)≤9223372036854775807:=fun n h=>by
  unfold maxLen at h
  omega
 refine key _ ?_
 unfold gB at hw
 simp only [List.mem_append,List.mem_map] at hw
 rcases hw with (((⟨x,hx,rfl⟩ |hx) |⟨x,hx,rfl⟩) |⟨x,hx,rfl⟩) |⟨x,hx,rfl⟩
 ·exact (h1.2 x hx).1
 ·exact h2.2 w hx
 ·exact (h3.2 x hx).1
 ·exact (h4.2 x hx).1
 ·exact (h5.2 x hx).1
end Go.Proofs.YtlihnbimgclogaaGreatDoor
namespace Go.Proofs.YtlihnbimgclogaaGreatDoor
open Go.Sx Go.ChangeShapes Go.WideShapes Go.ChangeAt Go.RowKit
namespace ControlWishes
set_option maxRecDepth 100000 in
theorem opened (ls:List (List LV)) (h:GR Tryz.prog 8 Tryz.f7.params.toList ls):(aBG (V9 Tryz.prog Tryz.f7.params.toList ls)).all (fun x=>x=.v (.bool true)):=by
 rw [Tryz.params7] at h⊢
 simp only [GR] at h
 obtain ⟨l0,_,rfl,h0,l1,_,rfl,h1,l2,_,rfl,h2,l3,_,rfl,h3,l4,_,rfl,h4,l5,_,rfl,h5,rfl⟩:=h
 obtain ⟨d0,rfl,w0⟩:=CU (ty:=(.pair (.sl dU) (.pair (.sl .str) (.pair (.sl dW) (.pair (.sl dM) (.sl dX)))))) (by kernel_rfl) h0
 obtain ⟨d1,rfl,w1⟩:=CU (ty:=(.sl nC)) (by kernel_rfl) h1
 obtain ⟨d2,rfl,w2⟩:=CU (ty:=(.sl GI)) (by kernel_rfl) h2
 obtain ⟨d3,rfl,w3⟩:=CU (ty:=(.sl pU)) (by kernel_rfl) h3
 obtain ⟨d4,rfl,w4⟩:=CU (ty:=(.int .i64)) (by kernel_rfl) h4
 obtain ⟨d5,rfl,w5⟩:=CU (ty:=(.int .i64)) (by kernel_rfl) h5
 simp only [V9,pLV,Tryz.underlying31,Tryz.underlying29,Tryz.underlying30,Tryz.underlying28,Tryz.underlying3]
 refine aew (t':=T.req (nmR (gB d0.1 d0.2.1 d0.2.2.1 d0.2.2.2.1 d0.2.2.2.2)) (T.ok (LV.v (Value.bool true)))) (by kernel_rfl) ?_
 exact ⟨(ali w0.1 w0.2.1 w0.2.2.1 w0.2.2.2.1 w0.2.2.2.2),rfl⟩
set_option maxRecDepth 100000 in
theorem contract (H:Type) (enc:TypeId×Value→H) (W:World) (base:Nat) (args:Array Value) (ds gs:List (DataW H)) (before:List MemPlace)
  (hval:∀(j:Nat) t v,Tryz.f7.params[j]? =some t→args[j]? =some v→Value.okWide Tryz.prog W .any base t v)
  (hW:DataW.Whole enc Tryz.prog Tryz.f7.params.toList Rows.controlWishesSpec.vars false W args.toList ds gs before) (hL:laidMetH Tryz.prog Rows.controlWishesRow.laid W):
  Calls Tryz.prog 7 args W fun e W'=>∃v,e=.returned v∧Rows.controlWishesSpec.post enc Tryz.prog Tryz.f7 false true false false W args v W':=by
 refine P5 (m:=8) (tb:=4) aD0 laidOut (by kernel_rfl) (by kernel_rfl) Tryz.underlying4 rfl ?_ (by kernel_rfl) opened (aiN hL) hval hW
 obtain ⟨p,q,hA,_⟩:=hW
 have hl:=LH hA
 rw [Tryz.params7] at hl
 match ds,hl with
 | [_,_,_,_,_,_],_=>exact ⟨rfl,rfl,rfl⟩
theorem laid_met (os:Os):laidMet Tryz.prog Rows.controlWishesRow.laid ((laidWorld os).forCall (fun _ _=>0) ⟨#[],#[.agg #[.slice none 0 0,.slice none 0 0,.slice none 0 0,.slice none 0 0,.slice none 0 0],.slice none 0 0,.slice none 0 0,.slice none 0 0,.int .i64 0,.int .i64 0],[]⟩).memory:=
 laidMet_of_run' 8 (by kernel_rfl) (by kernel_rfl)
theorem reads (os:Os) {H:Type}(enc:TypeId×Value→H):∃places,DataW.whole enc Tryz.prog ((laidWorld os).forCall (fun _ _=>0) ⟨#[],#[.agg #[.slice none 0 0,.slice none 0 0,.slice none 0 0,.slice none 0 0,.slice none 0 0],.slice none 0 0,.slice none 0 0,.slice none 0 0,.int .i64 0,.int .i64 0],[]⟩).memory Tryz.f7.params.toList Rows.controlWishesSpec.vars false #[.agg #[.slice none 0 0,.slice none 0 0,.slice none 0 0,.slice none 0 0,.slice none 0 0],.slice none 0 0,.slice none 0 0,.slice none 0 0,.int .i64 0,.int .i64 0].toList 8=some ([.agg [.nil,.nil,.nil,.nil,.nil],.nil,.nil,.nil,.lit (.int .i64 0),.lit (.int .i64 0)],[],places):=
 ⟨[],by kernel_rfl⟩
set_option maxRecDepth 100000 in
theorem lifted (os:Os) (started:os.Started) (H:Type) (enc:TypeId×Value→H) (F:Stop.Interp):
  ReturnsInHanded {} Tryz.checked os 7 .any ((OpenSpec.ofChange Rows.controlWishesSpec).preRow enc Tryz.prog Tryz.f7 Rows.controlWishesRow.domain false Rows.controlWishesRow.laid) (((OpenSpec.ofChange Rows.controlWishesSpec).at F).post enc Tryz.prog Tryz.f7 false true false false):=by
 obtain ⟨places,hx⟩:=reads os enc
 refine returnsInHanded_of_row (C:=Tryz.checked) (s:=OpenSpec.ofChange Rows.controlWishesSpec) own started (by kernel_rfl) Tryz.func7
  (witness_row_at (enc:=enc) (C:=Tryz.checked) false (laidWorld os) #[.agg #[.slice none 0 0,.slice none 0 0,.slice none 0 0,.slice none 0 0,.slice none 0 0],.slice none 0 0,.slice none 0 0,.slice none 0 0,.int .i64 0,.int .i64 0] rfl (by kernel_rfl) (by kernel_rfl) (by kernel_rfl)
   (OpenSpec.preRow_of_cond 8 hx (by kernel_rfl) (fun k hk=>by cases hk) (by kernel_rfl) (laid_met os))) ?_
 intro W base args ds gs before hval hW _ _ _ hL _ _
 exact contract H enc W base args ds gs before hval hW hL
theorem said:Rows.ControlWishesSaid:=
 OpenClaim.holds_of_cond 7 Tryz.f7 rfl rfl rfl rfl rfl rfl rfl ⟨rfl,rfl,rfl,rfl,rfl⟩ rfl rfl rfl rfl rfl (by kernel_rfl) Tryz.func7 (by kernel_rfl)
  (of_decide_eq_true (by kernel_rfl)) (by unfold Func.isWrapper;first|(rw [if_pos (by decide+kernel)];kernel_rfl) |(rw [if_neg (by decide+kernel)];exact ⟨rfl,rfl⟩))
  (fun os started H enc _ F=>by rw [OpenClaim.pre_eq_preRow];exact lifted os started H enc F)
theorem plain (f:FuncId) (fn:Func) (hf:Tryz.pinned.checked.prog.funcNamed "chargepark/chargeparklaw25.ControlWishes"=some f) (hfn:Tryz.pinned.checked.prog.funcs[f]? =some fn):
  false=Tryz.pinned.checked.prog.looks []∧∀(j:Nat) t,fn.params[j]? =some t→Tryz.pinned.checked.prog.wantsStandIn t=false:=by
 obtain rfl:f=7:=Option.some.inj ((show Tryz.prog.funcNamed "chargepark/chargeparklaw25.ControlWishes"=some 7 by kernel_rfl).symm.trans hf) |>.symm
 obtain rfl:fn=Tryz.f7:=(Option.some.inj (Tryz.func7.symm.trans hfn)).symm
 refine ⟨by kernel_rfl,fun j t ht=>?_⟩
 have h:Tryz.f7.params.toList.all (fun t=>!Tryz.prog.wantsStandIn t)=true:=by kernel_rfl
 have:=List.all_eq_true.1 h t (by simpa using Array.mem_of_getElem? ht)
 show Tryz.prog.wantsStandIn t=false
 simpa using this
theorem card:Rows.ControlWishesCardSaid:=
 Claim7.holds_tied_plain_at .later [] _ _ _ _ said (fun _ h=>by cases h) (by kernel_rfl) (fun _ h=>by cases h) controlWishes_row_tie rfl ⟨rfl,rfl⟩ (by kernel_rfl) rfl plain (by kernel_rfl)
end ControlWishes
theorem controlWishes_card:Rows.ControlWishesCardSaid:=ControlWishes.card
end Go.Proofs.YtlihnbimgclogaaGreatDoor
