/- Helpers for ParkMeters. Conditions: none. -/
import Derived.Test.YtgmhhjldohjpmaaGreatDoorQm4
set_option linter.defProp false
set_option linter.unusedVariables false
set_option linter.unusedSimpArgs false
noncomputable section
namespace Go.Sx
open Go Go.RowKit Go.Proofs.YtgmhhjldohjpmaaGreatDoor
variable {P : Program} {G : Av} {Γ : Specs} {K : Hand} {L : LA} {Z0 : Gz} {w0 : World}
def aef {L:QI}{cs:Uq}(hΓ:∀g S,Γ g=some S->Valid P G g S) (hK:F5 P G K) (c:Code) (hl:∀b∈B6 c,GI P G (AN 0) (.loop b) (L b)):GI P G (AN 0) c (XB P G Γ K L cs c):=by
 induction c with
 | seq c1 c2 ih1 ih2=>
  intro r w0 Z0 Z β F H a w ds Q x F' H' hA hr hD hW hF h hQ;obtain ⟨⟨y,F1,H1⟩,h1,h2⟩:=T.Ay h;obtain ⟨hr1,hr2⟩:=pS (show r=none\/(Hf c1&&Hf c2)=true from hr);refine wpIn_seq (ih1 (λb hb=>hl b SX) r w0 Z0 Z β F H a w ds _ y F1 H1 hA hr1 hD hW hF h1 λds' Z' β' a' w' e0 e1 e2=>?_)
  cases y with
  | normal=>
   simp only at h2;split at h2
   ·rename_i live us hcs
    obtain ⟨v,h3,h4⟩:=T.Ay h2;split at h4
    ·rename_i hlow
     obtain ⟨_,_,Z2,β2,e3,e4⟩:=bJ hA e1 e2 h3 hlow;exact ih2 (λb hb=>hl b SX) r w0 Z0 Z2 β2 _ _ a' w' ds' Q x F' H' hA hr2 e0 e3 e4 h4 hQ
    ·cases h4
   ·exact ih2 (λb hb=>hl b SX) r w0 Z0 Z' β' F1 H1 a' w' ds' Q x F' H' hA hr2 e0 e1 e2 h2 hQ
  |exit m=>
   obtain ⟨rfl,rfl,rfl⟩:=h2;exact hQ ds' Z' β' a' w' e0 e1 e2
  |ret=>
   obtain ⟨rfl,rfl,rfl⟩:=h2;exact hQ ds' Z' β' a' w' e0 e1 e2
 |_=>exact GC hΓ hK _ hl
def fh (P:Program) (G:Av) (Γ:Specs) (K:Hand) (L:LA) (cs:Uq) (fn:Func) (args:List LV):T LV:=
 (match fn.body with
 |some c=>aAt P fn (XB P G Γ K (Li L) cs c) args
 |none=> .no).bind λx=> .ok (canX (upR P fn.resultTypes.toList x))
def aCN {f:FuncId}{fn:Func}{c:Code}{S:List LV->T LV}{cs:Uq}(hfn:P.funcs[f]? =some fn) (hc:fn.body=some c) (hΓ:∀g S,Γ g=some S->Valid P G g S) (hK:F5 P G K)
  (hL:∀b∈B6 c,Sound P G (.loop b) (L (GL b))) (hS:∀args lv,(S args).all (λx=>x=lv)->(fh P G Γ K L cs fn (canL args)).all (λx=>x=lv)):Valid P G f (Jj P fn.params.toList S):=
 aDd (aCO hfn hc (aef (L:=Li L) (cs:=cs) hΓ hK c hL)) (λargs lv h=>by have:=hS args lv h;unfold fh at this;simpa only [hc] using this)
def T.aAf {α:Type}:T α->T α
 | .br b t e=> .br b t.red e.red
 | .req p t=> .req p (T.aAf t)
 |t=>t
def T.aF8 {α:Type}{K:α->Prop}:∀ {t:T α},t.aAf.all K->t.all K
 | .ok _,h=>h
 | .br _ _ _,h=>⟨λhb=>T.WO (h.1 hb),λhb=>T.WO (h.2 hb)⟩
 | .req _ _,h=>⟨h.1,T.aF8 h.2⟩
 | .no,h=>h
end Go.Sx
namespace Go.Proofs.YtgmhhjldohjpmaaGreatDoor
set_option maxRecDepth 100000
set_option maxHeartbeats 4000000
open Go.Proofs.Tryz
open Go.Sx
def aRx:List LV->T LV
 | [.v (.agg ⟨[.int .i64 x1,.int .i64 x2,.int .i64 x3,.int .i64 x4,.int .i64 x5]⟩)]=> .ok (.xl (.int .u8) (Ar (x1,x2,x3,x4,x5)))
 |_=> .no
def W7:=bN f156 0
def L7:List Bd:=[]
def anw:Sound prog AT (.loop W7) (Iz prog AT L7 Fh 20 2 W7):=Sf (gk L7) kN.h 20 2 W7
def awK (x1 x2 x3 x4 x5:Int):letI a:=(((((((((((((List.replicate (0:Int).toNat (0:Int))++([IntKind.u8.wrap (x1.fdiv (2^(24)))]))++([IntKind.u8.wrap (x1.fdiv (2^(16)))]))++([IntKind.u8.wrap (x1.fdiv (2^(8)))]))++([IntKind.u8.wrap (x1.fdiv (2^(0)))]))++([IntKind.u8.wrap (x2.fdiv (2^(0)))]))++([IntKind.u8.wrap (x3.fdiv (2^(0)))]))++([IntKind.u8.wrap (x4.fdiv (2^(24)))]))++([IntKind.u8.wrap (x4.fdiv (2^(16)))]))++([IntKind.u8.wrap (x4.fdiv (2^(8)))]))++([IntKind.u8.wrap (x4.fdiv (2^(0)))]))++([IntKind.u8.wrap (x5.fdiv (2^(8)))]))++([IntKind.u8.wrap (x5.fdiv (2^(0)))]));(Bc prog AT L7 kN (λi=>if i=4 then (Iz prog AT L7 Fh 20 2 W7) else Af i) f156 [.v (.agg #[x1,x2,x3,x4,x5])]).red=.req (0<=(0:Int)/\(0:Int)<=(12:Int)/\1*(12:Int)<=2^48/\(12:Int)<2^63) (.req (0<=(24:Int)) (.ra 0 0 1 1 (.req (0<=(16:Int)) (.ra 1 1 2 1 (.req (0<=(8:Int)) (.ra 2 2 3 1 (.req (0<=(0:Int)) (.ra 3 3 4 1 (.req (0<=(0:Int)) (.ra 4 4 5 1 (.req (0<=(0:Int)) (.ra 5 5 6 1 (.req (0<=(24:Int)) (.ra 6 6 7 1 (.req (0<=(16:Int)) (.ra 7 7 8 1 (.req (0<=(8:Int)) (.ra 8 8 9 1 (.req (0<=(0:Int)) (.ra 9 9 10 1 (.req (0<=(8:Int)) (.ra 10 10 11 1 (.req (0<=(0:Int)) (.ra 11 11 12 1 (.req (0+12<=List.length a) (.ok (.xl (.int .u8) ((a.drop 0).take 12)))))))))))))))))))))))))))):=AZ
def aah:=vm (S:=aRx) func156 L7 kN (L:=(λi=>if i=4 then (Iz prog AT L7 Fh 20 2 W7) else Af i)) (λb hb=>by
 rw [show B6 _=[W7] by kernel_rfl] at hb
 simp only [B1,Bv,Bw] at hb;subst hb;exact anw) (λargs lv h=>by
 refine ⟨?_⟩;unfold aRx at h;split at h
 ·simp only [canL,canX]
  refine @T.WO _ _ _ ?_;rw [awK];obtain rfl:=h
  iterate 25 refine ⟨Aa,?_⟩
  refine ⟨At _,?_⟩;simp only [T.all,Int.pow_zero,Int.fdiv_one];rfl
 ·cases h)
def Ki (d:List Int):Le:=if d.length=12 then G3 d else (0,0,0,0,0)
def aRv:List LV->T LV
 | [.xl (.int .u8) d]=> .req (BE d) (.tu #[.agg #[(Ki d).1,(Ki d).2.1,(Ki d).2.2.1,(Ki d).2.2.2.1,(Ki d).2.2.2.2],decide (d.length=12)])
 |_=> .no
def W6:=bN f85 0
def anv:Sound prog AT (.loop W6) (Iz prog AT L7 Fh 20 2 W6):=Sf (gk L7) kN.h 20 2 W6
def awJ (d:List Int):letI a:=(d.length:Int);letI b:=A9 (0*2^8);(Bc prog AT L7 kN (λi=>if i=6 then (Iz prog AT L7 Fh 20 2 W6) else Af i) f85 [.xl (.int .u8) d]).aAf=.br (a !=12) (.tu #[.agg #[(0:Int),(0:Int),(0:Int),(0:Int),(0:Int)],false]) (.req (0<=(0:Int)/\0<a) (.req (0<=(1:Int)/\1<a) (.req (0<=(2:Int)/\2<a) (.req (0<=(3:Int)/\3<a) (.req (0<=(4:Int)/\4<a) (.req (0<=(5:Int)/\5<a) (.req (0<=(6:Int)/\6<a) (.req (0<=(7:Int)/\7<a) (.req (0<=(8:Int)/\8<a) (.req (0<=(9:Int)/\9<a) (.req (0<=(10:Int)/\10<a) (.req (0<=(11:Int)/\11<a) (.tu #[.agg #[DO .i64 (A9 ((DO .i64 (A9 ((DO .i64 (A9 ((DO .i64 b (A9 (gi d (0:Int))))*2^8)) (A9 (gi d (1:Int))))*2^8)) (A9 (gi d (2:Int))))*2^8)) (A9 (gi d (3:Int))),DO .i64 b (A9 (gi d (4:Int))),DO .i64 b (A9 (gi d (5:Int))),DO .i64 (A9 ((DO .i64 (A9 ((DO .i64 (A9 ((DO .i64 b (A9 (gi d (6:Int))))*2^8)) (A9 (gi d (7:Int))))*2^8)) (A9 (gi d (8:Int))))*2^8)) (A9 (gi d (9:Int))),DO .i64 (A9 ((DO .i64 b (A9 (gi d (10:Int))))*2^8)) (A9 (gi d (11:Int)))],true]))))))))))))):=AZ
def o8 {a b:Int}(h0:0<=a) (h1:a<1099511627776) (hb:0<=b/\b<=255):DO .i64 (A9 (a*2^8)) (A9 b)=a*256+b:=by
 rw [AI (x:=a*2^8),AI (x:=b)];obtain ⟨a,rfl⟩:=PX h0;obtain ⟨b,rfl⟩:=PX hb.1
 have e:∀n:Nat,n<4611686018427387904->(BitVec.ofInt (IntKind.bits .i64) (n:Int)).toNat=n:=λn hn=>by
  show (BitVec.ofInt 64 (n:Int)).toNat=n
  rw [wQ];omega
 unfold DO;rw [show (a:Int)*2^8=((a*2^8:Nat):Int) by omega,BitVec.toNat_or,e _ A0,e _ A0,cd A0]
 show A9 _=_
 rw [AI];omega
def zE {w:Int}(hw:0<=w/\w<=255):DO .i64 (A9 (0*2^8)) (A9 w)=w:=by
 rw [o8 A0 A0 hw];omega
def abw {z w:Int}(hz:0<=z/\z<=255) (hw:0<=w/\w<=255):DO .i64 (A9 (DO .i64 (A9 (0*2^8)) (A9 z)*2^8)) (A9 w)=z*256+w:=by
 rw [zE hz,o8 A0 A0 hw]
def ace {x y z w:Int}(hx:0<=x/\x<=255) (hy:0<=y/\y<=255) (hz:0<=z/\z<=255) (hw:0<=w/\w<=255):
  DO .i64 (A9 (DO .i64 (A9 (DO .i64 (A9 (DO .i64 (A9 (0*2^8)) (A9 x)*2^8)) (A9 y)*2^8)) (A9 z)*2^8)) (A9 w)=x*16777216+y*65536+z*256+w:=by
 rw [abw hx hy,o8 A0 A0 hz,o8 A0 A0 hw];omega
def ahi:=vm (S:=aRv) func85 L7 kN (L:=(λi=>if i=6 then (Iz prog AT L7 Fh 20 2 W6) else Af i)) (λb hb=>by
 rw [show B6 _=[W6] by kernel_rfl] at hb
 simp only [B1,Bv,Bw] at hb;subst hb;exact anv) (λargs lv h=>by
 refine ⟨?_⟩;unfold aRv at h;split at h
 ·simp only [canL,canX]
  refine @T.aF8 _ _ _ ?_;rw [awJ];rename_i d;obtain ⟨hb,rfl⟩:=h;refine ⟨λc=>?_,λc=>?_⟩
  ·have hl:¬d.length=12:=VU
   unfold Ki;rw [AD hl,I1 hl];rfl
  have hl:d.length=12:=VU
  iterate 12 refine ⟨⟨Aa,A0⟩,?_⟩
  have b:=λi=>yr hb i
  unfold Ki;rw [AE hl,Cs hl,ace (b 0) (b 1) (b 2) (b 3),zE (b 4),zE (b 5),ace (b 6) (b 7) (b 8) (b 9),abw (b 10) (b 11)];rfl
 ·cases h)
def aRk:List LV->T LV
 | [.agg [.v (.int .i64 se),.xl (.int .u8) fl]]=> .req (BE fl) (.ok (.AM [.xl (.sl (.int .u8)) (El se fl),Bl se fl]))
 |_=> .no
def ayA:List Bd:=[cy]
def ahz:=vo (S:=aRk) func84 ayA kN (λargs lv h=>by
 unfold aRk at h;split at h
 ·rename_i se fl
  refine Aj (.req (BE fl) (.br ((Bl se fl) !=0) (.ok (.AM [.xl (.sl (.int .u8)) ([]:List (List Int)),(Bl se fl)])) (.ok (.AM [.xl (.sl (.int .u8)) (El se fl),(0:Int)])))) ?_;obtain ⟨h0,rfl⟩:=h;refine ⟨h0,λc=>?_,λc=>?_⟩
  ·have c:Bl se fl≠0:=FN
   unfold El;rw [AD c];rfl
  ·have c:Bl se fl=0:=FN
   rw [c];rfl
 ·cases h)
def abE {b:List Int}:∀(n f:Nat),(H8 b n f).1.length<=n
 |0,_=>At _
 | n+1,f=>by
  simp only [H8];split
  ·split
   ·have:=abE (b:=b) n (f+7+Fq b f)
    simp only [BX];omega
   ·exact Kr _
  ·exact Kr _
def aQ8 {b:List Int}(h:BE b):∀(n f:Nat),∀d∈(H8 b n f).1,BE d
 |0,_,d,hd=>VX
 | n+1,f,d,hd=>by
  simp only [H8] at hd;split at hd
  ·split at hd
   ·rcases B1.1 hd with rfl|hd
    ·exact λx hx=>h x (Pa (V1 hx))
    ·exact aQ8 h n _ d hd
   ·cases hd
  ·cases hd
def axf {se:Int}{fl:List Int}(h:BE fl) (hl:fl.length<=4096):(El se fl).length<=4096/\∀d∈El se fl,BE d:=by
 unfold El;split
 ·have ha:=bL fl (Ak fl)
  refine ⟨?_,aQ8 (λx hx=>?_) _ _⟩
  ·have:=abE (b:=BY fl (Ak fl)) (BY fl (Ak fl)).length 5
   unfold Ef;omega
  ·unfold BY at hx
   split at hx
   ·exact h x (V1 hx)
   ·exact h x (Pa (V1 hx))
 ·exact ⟨AJ,λ_ h=>Ah⟩
def fp {l:List (List Int)}(h:∀d∈l,BE d) {i:Int}(h0:0<=i) (h1:i<(l.length:Int)):BE (gx (e:=.sl (.int .u8)) l i):=by
 rw [show gx (e:=.sl (.int .u8)) l i=l[i.toNat]' A0 from MO A0];exact h _ (FK _)
structure NT where
 e:Int
 l:List (List Int)
 (n i:Int)
 out:List Le
def aEm:=bN f60 0
def TT (s:NT):T (Rd NT):=
 .br (decide (s.i<s.n)) (.ix s.i (s.l.length) (.req (BE (gx (e:=.sl (.int .u8)) s.l s.i)) (.br (!(decide ((gx (e:=.sl (.int .u8)) s.l s.i).length=12))) (.rl s.out (.so (.ret) {s with e:=(9:Int)})) (.rb (s.out.length) (List.length ([Ki (gx (e:=.sl (.int .u8)) s.l s.i)])) 40 (.re (s.out.length+List.length ([Ki (gx (e:=.sl (.int .u8)) s.l s.i)])) (s.out++([Ki (gx (e:=.sl (.int .u8)) s.l s.i)])) (.nx {s with i:=A9 (s.i+1),out:=s.out++([Ki (gx (e:=.sl (.int .u8)) s.l s.i)])})))))) (.rl s.out (.so (.exit 0) s))
def gA (s:NT):Prop:=s.i=0/\s.n<=5000/\s.n=(s.l.length:Int)/\(∀d∈s.l,BE d)/\(s.out.length:Int)<=s.i
def gM (s:NT):Prop:=0<=s.i/\s.i<=s.n/\s.n<=5000/\s.n=(s.l.length:Int)/\(∀d∈s.l,BE d)/\(s.out.length:Int)<=s.i
def rX (s:NT):Nat:=(s.n-s.i).toNat
def acH (x:Ex) (s s':NT):Prop:=True
def ahg:∀s,gA s->gM s:=by
 exact Zf
def atC:Da gM rX acH TT:=by
 intro s hI;unfold TT;dsimp only [T.rd,T.rl,T.rv];obtain ⟨h0,h1,h2,h3,h4,h5⟩:=hI;refine AG (λc1=>AG (λc2=>trivial) (λc2=>?_)) (λc1=>trivial)
 ·have c1:s.i<s.n:=AO
  have hb:=fp h4 h0 A0
  rw [AI (x:=s.i+1)];exact ⟨⟨AP,AP,h2,h3,h4,Zp⟩,by simp only [rX];omega⟩
def R7:AS NT:=⟨0,50,[2,3,6,28,29,30],[.nl 6 114 AX],λs=>[.v (.slice none 0 0),s.e,.os 0 5 0 (s.out.length),.xl (.sl (.int .u8)) s.l,s.n,s.i],λs=>[bV 114 AX s.out],λv b=>⟨AK v 1,Az (.sl (.int .u8)) v 3,AK v 4,AK v 5,Ab AX b 0⟩,TT,λs r=> {r with l:=s.l,n:=s.n},λs=>s,λ_ s=>s,[.ret,.exit 0],gA,gM,rX⟩
abbrev mE:=R7.run
abbrev o6:=R7.Am
def avr:Rq gM TT:=by
 intro s hI;refine ⟨λc1=>⟨?_,?_,λc2=>⟨A8,trivial⟩,λc2=>⟨?_,?_,trivial⟩⟩,λc1=>⟨A8,trivial⟩⟩
 all_goals ((obtain ⟨h0,h1,h2,h3,h4,h5⟩:=hI;have c1:s.i<s.n:=AO;have hb:=fp h4 h0 A0;(first|exact hb|omega|(simp only [BX,Bh];omega) |(simp only [B0,BX,Bh,E9]))))
def aQS:List Bd:=[ahz,ahi,Wg]
def aOt:R7.Ok:={}
def aOT:R7.Pf (acH):=⟨ahg,λs h=>rfl,atC,avr⟩
def ana:SA 0 aEm R7:=s1 aOt aOT aQS kN
def ao6:Rs gA o6 mE (λs:NT=>(s.out++(s.l.drop s.i.toNat).map G3,ldB (s.l.drop s.i.toNat))) (λx s' (v:List Le×Bool)=>(x=.ret/\s'.e=9/\v.2=false)\/(x=.exit 0/\v=(s'.out,true))):=DL aOt aOT (λs hI=>by
  show CM _ _ ((TT s).rd s)
  unfold TT;dsimp only [T.rd,T.rl];obtain ⟨h0,h1,h2,h3,h4,h5⟩:=hI;refine AG (λc1=>AG (λc2=>?_) (λc2=>?_)) (λc1=>?_)
  ·have c1:s.i<s.n:=AO
   have hb:=fp h4 h0 A0
   refine .inl ⟨rfl,rfl,?_⟩
   have c2:¬(gx (e:=.sl (.int .u8)) s.l s.i).length=12:=D8
   simp only [WN h0 (show s.i<(s.l.length:Int) by omega),ldB,IT,wG,Bq]
   exact .inl c2
  ·have c1:s.i<s.n:=AO
   have hb:=fp h4 h0 A0
   have c2:(gx (e:=.sl (.int .u8)) s.l s.i).length=12:=D8
   have hz:Ki (gx (e:=.sl (.int .u8)) s.l s.i)=G3 (gx (e:=.sl (.int .u8)) s.l s.i):=AE c2
   rw [AI (x:=s.i+1),hz]
   show (_++[_]++_,_)=(_++_,_)
   rw [WN h0 A0];simp only [E8,CZ,I5,Di,ldB,IT,c2,O8,Dj]
  ·have c1:s.n<=s.i:=AO
   refine .inr ⟨rfl,?_⟩;rw [EJ A0]
   simp [ldB])
def aSA:List LV->T LV
 | [.agg [.v (.int .i64 se),.xl (.int .u8) fl]]=> .req (BE fl) (.ok (.AM [BJ se fl,CS se fl]))
 |_=> .no
def Pj (se:Int) (fl:List Int):NT:=(⟨0,El se fl,(List.length (El se fl):Int),0,([]:List Le)⟩:NT)
def vC:=vm (S:=aSA) func60 aQS kN (L:=(λi=>if i=8 then R7.lp else Af i)) (λb hb=>by
 rw [show B6 _=[aEm] by kernel_rfl] at hb
 simp only [B1,Bv,Bw] at hb;subst hb;exact ana) (λargs lv h=>by
 unfold aSA at h;split at h
 ·rename_i se fl
  refine Aj (letI a:=mE (Pj se fl);letI b:=(a.out.drop 0).take (List.length a.out);.br ((se !=512) ||((fl.length:Int) !=2048)) (.ok (.AM [.xl AX ([]:List Le),(1:Int)])) (.req (BE fl) (.br ((Bl se fl) !=0) (.ok (.AM [.xl AX ([]:List Le),(Bl se fl)])) (.r0 Le (.req (R7.q (Pj se fl)) (.br (Bo (o6 (Pj se fl)) (.ret)) (.ok (.AM [.xl AX ([]:List Le),a.e])) (.rz a.out (.br (!(BG b)) (.ok (.AM [.xl AX ([]:List Le),(9:Int)])) (.rz a.out (.ok (.AM [b,(0:Int)]))))))))))) ?_;obtain ⟨hb,rfl⟩:=h
  have bad:∀e:Int,e≠0->CS se fl=e->LV.AM [.xl AX ([]:List Le),.v (.int .i64 e)]=LV.AM [.xl AX (BJ se fl),.v (.int .i64 (CS se fl))]:=λe h0 h1=>by unfold BJ;rw [h1,AD h0]
  refine ⟨λc1=>bad 1 Aa (by unfold CS;exact AE c1),λc1=>⟨hb,λc2=>?_,λc2=>?_⟩⟩
  all_goals have h0:¬((!(se==512) || !((fl.length:Int)==2048))=true):=(by intro h;rw [show ((se !=512) ||((fl.length:Int) !=2048))=true from h] at c1;cases c1)
  ·have c2:Bl se fl≠0:=D8
   exact bad _ c2 (by unfold CS;rw [AD h0,AE c2])
  have hk:Bl se fl=0:=D8
  have hl:fl.length=2048:=by simp at h0;omega
  have hR:El se fl=(Ef fl).1:=AE hk
  obtain ⟨n1,n2⟩:=axf (se:=se) hb A0
  have hV:gA (Pj se fl):=⟨rfl,by show (List.length (El se fl):Int)<=5000;omega,rfl,n2,xk⟩
  have q:(o6 (Pj se fl)=.ret/\(mE (Pj se fl)).e=9/\ldB (El se fl)=false)\/(o6 (Pj se fl)=.exit 0/\((El se fl).map G3,ldB (El se fl))=((mE (Pj se fl)).out,true)):=ao6 _ hV
  have hk':¬Bl se fl≠0:=λh=>h hk
  refine ⟨A8,⟨hV,rfl,rfl⟩,λc3=>?_,λc3=>?_⟩
  ·rcases q with ⟨_,q2,q3⟩ |⟨q1,_⟩
   ·rw [q2]
    exact bad 9 Aa (by unfold CS;rw [AD h0,AD hk',<-hR,AD (by rw [q3];decide)])
   ·rw [WL c3] at q1;cases q1
  rcases q with ⟨q1,_⟩ |⟨_,q2⟩
  ·rw [q1] at c3;simp [Bo] at c3
  simp only [Aq] at q2;rw [<-q2.1,CJ,Dv];refine ⟨A0,λc4=>?_,λc4=>⟨A0,?_⟩⟩
  ·exact bad 9 Aa (by unfold CS;rw [AD h0,AD hk',<-hR,AE q2.2,AD yL])
  ·have hE:CS se fl=0:=by unfold CS;rw [AD h0,AD hk',<-hR,AE q2.2,AE yL]
   unfold BJ;rw [hE,AE rfl,hR];rfl
 ·cases h)
def yc {se:Int}{fl:List Int}(h:CS se fl=0):BG (BJ se fl)=true:=by
 unfold BJ;rw [AE h];unfold CS at h;split at h
 ·cases h
 ·split at h
  ·rename_i h1;exact absurd h h1
  ·split at h
   ·split at h
    ·assumption
    ·cases h
   ·cases h
def aRy:List LV->T LV
 | [.agg [.v (.int .i64 se),.xl (.int .u8) fl]]=> .req (BE fl) (.tu #[nwA se fl,Jn se fl])
 |_=> .no
def ay9:List Bd:=[vC]
def ahj:=vo (S:=aRy) func62 ay9 kN (λargs lv h=>by
 unfold aRy at h;split at h
 ·rename_i se fl
  refine Aj (letI b:=(List.length (BJ se fl):Int);letI c:=An (BJ se fl) (A9 (b-1));.req (BE fl) (.br ((CS se fl) !=0) (.tu #[(0:Int),(CS se fl)]) (.br (b==0) (.tu #[(1:Int),(0:Int)]) (.ix (A9 (b-1)) (List.length (BJ se fl)) (.br (c.1==1000000) (.tu #[(0:Int),(10:Int)]) (.tu #[(A9 (c.1+1)),(0:Int)])))))) ?_;obtain ⟨hb,rfl⟩:=h
  have fin:∀a e:Int,a=nwA se fl->e=Jn se fl->LV.v (.tuple #[.int .i64 a,.int .i64 e])=LV.v (.tuple #[.int .i64 (nwA se fl),.int .i64 (Jn se fl)]):=λa e h1 h2=>yH
  refine ⟨hb,λc1=>?_,λc1=>⟨λc2=>?_,λc2=>?_⟩⟩
  ·have c1:CS se fl≠0:=AO
   refine fin _ _ ?_ ?_<;>simp [nwA,Jn,c1]
  all_goals have c1:CS se fl=0:=AO
  ·have c2:(BJ se fl).length=0:=by simp at c2;simp [c2]
   refine fin _ _ ?_ ?_<;>simp [nwA,Jn,c1,c2]
  ·have c2:¬(BJ se fl).length=0:=by simp at c2;simp [c2]
   have hv:=Ib (yc c1)
   have hw:A9 ((List.length (BJ se fl):Int)-1)=(List.length (BJ se fl):Int)-1:=AI
   have hn:=Q1.1 (hv.2 _ (OT (l:=BJ se fl) (i:=(List.length (BJ se fl):Int)-1) A0 A0))
   rw [hw];refine ⟨⟨A0,A0⟩,λc3=>?_,λc3=>?_⟩
   ·refine fin _ _ ?_ ?_<;>simp at c3<;>simp [nwA,Jn,c1,c2,c3]
   ·rw [AI]
    refine fin _ _ ?_ ?_<;>simp at c3<;>simp [nwA,Jn,c1,c2,c3]
 ·cases h)
def aIk:List LV->T LV
 | [.v (.int .i64 n),.v (.int .i64 a),.v (.int .i64 b)]=> .ok (inB n a b)
 |_=> .no
def akG:List Bd:=[]
def aIp:=vo (S:=aIk) func109 akG kN (λargs lv h=>by
 unfold aIk at h;split at h
 ·rename_i n a b
  refine Aj (.ok (.v (.bool ((decide (n>=a))&&(decide (n<=b)))))) ?_;exact h
 ·cases h)
def aSo:List LV->T LV
 | [.v (.agg ⟨[.int .i64 k,.int .i64 ph,.int .i64 mx,.int .i64 nd,.int .i64 dl]⟩)]=> .ok (Fs (k,ph,mx,nd,dl))
 |_=> .no
def yu:List Bd:=[aIp]
def aaV:=vo (S:=aSo) func82 yu kN (λargs lv h=>by
 unfold aSo at h;split at h
 ·rename_i k ph mx nd dl
  refine Aj (.ok (.v (.bool ((inB k (0:Int) (4:Int))&&((inB ph (1:Int) (7:Int))&&((inB mx (1:Int) (80:Int))&&((inB nd (0:Int) (1000000000:Int))&&((inB dl (0:Int) (20:Int))&&((k !=3) ||(decide (dl>=1))))))))))) ?_;exact h
 ·cases h)
structure Lj where
 r:Bool
 l:List Int
 (n i:Int)
def aIG:=bN f108 0
def ko (s:Lj):T (Rd Lj):=
 .br (decide (s.i<s.n)) (.ix s.i (s.l.length) (.br (!(inB (gi s.l s.i) (0:Int) (80:Int))) (.so (.ret) {s with r:=false}) (.nx {s with i:=A9 (s.i+1)}))) (.so (.exit 0) s)
def Ro (s:Lj) (j:Int):Bool:=inB (gi s.l j) 0 80
def lf (s:Lj):Prop:=s.i=0/\0<=s.n/\s.n<=1000/\s.n=(s.l.length:Int)
def af (s:Lj):Prop:=0<=s.i/\s.i<=s.n/\s.n<=1000/\(s.n=(s.l.length:Int))/\∀j:Nat,(j:Int)<s.i->Ro s j=true
def yh (s:Lj):Nat:=(s.n-s.i).toNat
def vq (x:Ex) (s s':Lj):Prop:=(x=.exit 0/\∀j:Nat,(j:Int)<s'.n->Ro s' j=true)\/(x=.ret/\s'.r=false/\∃j:Nat,(j:Int)<s'.n/\Ro s' j=false)
def alm:∀s,lf s->af s:=by
 exact Kt
def ahf:Da af yh vq ko:=by
 intro s hI;unfold ko;dsimp only [T.rd,T.rl,T.rv];obtain ⟨h0,h1,h2,h3,h4⟩:=hI;refine AG (λc1=>AG (λc2=>?_) (λc2=>?_)) (λc1=>?_)
 ·have c1:s.i<s.n:=AO
  refine .inr ⟨rfl,rfl,s.i.toNat,AP,?_⟩;rw [BQ A0]
  have hg:Ro s s.i=false:=by unfold Ro;simp_all
  exact hg
 ·have c1:s.i<s.n:=AO
  have hg:Ro s s.i=true:=by unfold Ro;simp_all
  rw [AI (x:=s.i+1)];refine ⟨⟨AP,AP,h2,h3,λj hj=>?_⟩,by simp only [yh];omega⟩
  exact aLr
 ·exact SJ
def Rp:AS Lj:=⟨0,32,[2,22,23,24],[],λs=>[s.r,.xl A7 s.l,s.n,s.i],λ_=>[],λv b=>⟨Eb v 0,Az A7 v 1,AK v 2,AK v 3⟩,ko,λs r=> {r with l:=s.l,n:=s.n},λs=>s,λ_ s=>s,[.ret,.exit 0],lf,af,yh⟩
abbrev aJ8:=Rp.run
abbrev aQI:=Rp.Am
def aiH:Rq af ko:=by
 exact SP
def abk:Rp.Ok:={}
def abT:Rp.Pf (vq):=⟨alm,λs h=>rfl,ahf,aiH⟩
def auU:SA 0 aIG Rp:=s1 abk abT yu kN
def atW:Fi lf af vq aQI aJ8:=AS.fin abk abT
def aRz:List LV->T LV
 | [.agg [.xl (.int .i64) pil,.v (.int .i64 tk),.v (.int .i64 got)]]=> .ok (IN (pil,tk,got))
 |_=> .no
def ahk:=vm (S:=aRz) func108 yu kN (L:=(λi=>if i=4 then Rp.lp else Af i)) (λb hb=>by
 rw [show B6 _=[aIG] by kernel_rfl] at hb
 simp only [B1,Bv,Bw] at hb;subst hb;exact auU) (λargs lv h=>by
 unfold aRz at h;split at h
 ·rename_i pil tk got
  refine Aj (letI a:=(pil.length:Int);.br ((decide (a>21)) ||((!(inB tk (0:Int) (1000000:Int))) ||(!(inB got (0:Int) (2000000000:Int))))) (.ok false) (.req (Rp.q (⟨false,pil,a,0⟩:Lj)) (.br (Bo (aQI (⟨false,pil,a,0⟩:Lj)) (.ret)) (.ok (aJ8 (⟨false,pil,a,0⟩:Lj)).r) (.ok true)))) ?_;obtain rfl:=h;refine ⟨λc1=>Ax (λz=>LV.v (.bool z)) ?_,λc1=>?_⟩
  ·rw [SO,Hz]
   intro hm
   have:=cA.1 hm
   simp [inB] at c1
   simp only at this;omega
  ·have hE:lf ⟨false,pil,(pil.length:Int),0⟩:=by simp [inB] at c1;exact ⟨rfl,AP,AP,rfl⟩
   obtain ⟨s',hI,hq⟩:=atW _ hE
   have hm:IN (pil,tk,got)=pil.all (λp=>inB p 0 80):=by
    simp [inB] at c1
    have h21:pil.length<=21:=A0
    simp [IN,inB,h21,c1]
   rw [hm,aQp];refine ⟨⟨hE,rfl,rfl⟩,?_⟩;rcases hq with ⟨q1,q2⟩ |⟨q1,q2,j,q3,q4⟩<;>rw [q1]
   ·rw [show Dc pil.length (λj=>inB (gi pil j) 0 80)=true from EB.2 q2]
    exact ⟨λh=>Ah,λ_=>rfl⟩
   ·rw [q2,show Dc pil.length (λj=>inB (gi pil j) 0 80)=false from Q3 j q3 q4]
    exact ⟨λ_=>rfl,λh=>Ah⟩
 ·cases h)
structure Nf where
 p:PK
 ev:EW
def Tt (s:Nf):List LV:=[.own 16 0]
def YE (s:Nf):List AB:=kF s.p s.ev Dd
structure Y5 where
 res:Int
 p:PK
 ev:EW
def ac1 (s:Y5):LV:=.v (.int .i64 s.res)
def acg (s:Y5):List AB:=kB 4 0 0 0 8 9 10 11 12 13 14 15 s.p s.ev Dd
def fD (s:Nf):T Y5:=letI b:=(s.p.gs.length:Int);letI c:=s.p.fl.drop 0;letI d:=s.p.fl.length;letI e:=(List.replicate b.toNat ((0:Int),(0:Int)));letI f:=s.p.ls.drop 0;letI g:=s.p.ls.length;letI h:=s.p.ra.drop 0;letI i:=s.p.ra.length;letI a:=c.take d;letI j:=DN (BJ s.p.se a) s.p.tk;.br s.p.up (.rz s.p.ls (.rz s.p.fl (.rz s.p.ra (.rl s.p.cs (.pb s.p (.ok (⟨6,{s.p with ls:=f.take g,fl:=c.take d,ra:=h.take i},s.ev⟩))))))) (.rz s.p.fl (.req (BE a) (.br ((CS s.p.se a) !=0) (.rz s.p.ls (.rz s.p.fl (.rz s.p.ra (.rl s.p.cs (.pb s.p (.ok (⟨CS s.p.se a,{s.p with ls:=f.take g,fl:=c.take d,ra:=h.take i},s.ev⟩))))))) (.br (j !=0) (.rz s.p.ls (.rz s.p.fl (.rz s.p.ra (.rl s.p.cs (.pb s.p (.ok (⟨j,{s.p with ls:=f.take g,fl:=c.take d,ra:=h.take i},s.ev⟩))))))) (.rz s.p.fl (.req (BE a) (.br ((Jn s.p.se a) !=0) (.rz s.p.ls (.rz s.p.fl (.rz s.p.ra (.rl s.p.cs (.pb s.p (.ok (⟨Jn s.p.se a,{s.p with ls:=f.take g,fl:=c.take d,ra:=h.take i},s.ev⟩))))))) (.rm 16 b (.rz s.p.fl (.req (0+b.toNat<=List.length e) (.rl s.p.cs (.pb s.p (.ok (⟨0,{s.p with up:=true,ls:=Bj (BJ s.p.se a) s.p.tk,fl:=c.take d,ra:=(e.drop 0).take b.toNat,nx:=nwA s.p.se a},s.ev⟩))))))))))))))
def aAG (s:Nf):Prop:=BE s.p.fl/\s.p.gs.length<=1000
def Qf (s:Nf):Y5:=⟨PK.GN s.p,J7 (PK.GN s.p) (PK.XJ s.p) s.p,s.ev⟩
def aA2:Cw Nf Y5:=⟨Tt,YE,λv b=>⟨rF b,rG b⟩,aAG,[0,1,3],[.pc 16 7 AX,.kb 5,.pc 16 9 (.int .u8),.kb 6,.pc 16 10 BD,.kb 7],ac1,acg,Qf⟩
abbrev agj (s:Nf):Prop:=aAG s/\Tt s=Tt s/\YE s=YE s
def dH:List Bd:=[vC,cz,ahj]
def aSv:DI:=CQ 58 18 2 (KE.lp) (CQ 19 0 9 (GS.lp) (Dp prog AT (dH) 20 2))
def anM:ED prog AT aSv:=DB func58 rfl AZ K3 (DB func19 rfl AZ Ck (HW (gk dH)))
def axq (s:Nf):((EO prog AT dH aSv Fh).k 26 (Tt s) (YE s)).bind (λq=>G2 (YE s).length [0] [.pc 16 7 AX,.kb 5,.pc 16 9 (.int .u8),.kb 6,.pc 16 10 BD,.kb 7] .normal (q.1::Tt s) q.2)=(fD s).mp (λs2=>⟨.normal,(Tt s).length+1,[ac1 s2],acg s2,true⟩):=AZ
def av5 (s:Nf) (hE:aAG s):(fD s).all (λq=>q=Qf s):=by
 obtain ⟨h1,h2⟩:=hE;unfold fD;simp only [Sw];refine ⟨λc=>?_,λc=>?_⟩
 ·have he:s.p.GN=6:=by unfold PK.GN;rw [AE c]
  repeat (refine ⟨Fw,?_⟩)
  show _=_
  unfold Qf;rw [JO M0];rw [he]
 have hu:¬s.p.up=true:=aG
 repeat (refine ⟨Fw,?_⟩)
 refine ⟨λc1=>?_,λc1=>?_⟩
 ·have c1:CS s.p.se s.p.fl≠0:=DT.1 c1
  have he:s.p.GN=CS s.p.se s.p.fl:=by unfold PK.GN;rw [AD hu,AE c1]
  repeat (refine ⟨Fw,?_⟩)
  show _=_
  unfold Qf;rw [JO yC];rw [he]
 have c1:¬CS s.p.se s.p.fl≠0:=λh=>aNU
 refine ⟨λc2=>?_,λc2=>?_⟩
 ·have c2:DN (BJ s.p.se s.p.fl) s.p.tk≠0:=DT.1 c2
  have he:s.p.GN=DN (BJ s.p.se s.p.fl) s.p.tk:=by unfold PK.GN;rw [AD hu,AD c1,AE c2]
  repeat (refine ⟨Fw,?_⟩)
  show _=_
  unfold Qf;rw [JO yC];rw [he]
 have c2:¬DN (BJ s.p.se s.p.fl) s.p.tk≠0:=λh=>by rw [DT.2 h] at c2;cases c2
 repeat (refine ⟨Fw,?_⟩)
 refine ⟨λc3=>?_,λc3=>?_⟩
 ·have c3:Jn s.p.se s.p.fl≠0:=DT.1 c3
  have he:s.p.GN=Jn s.p.se s.p.fl:=by unfold PK.GN;rw [AD hu,AD c1,AD c2]
  repeat (refine ⟨Fw,?_⟩)
  show _=_
  unfold Qf;rw [JO yC];rw [he]
 have c3:Jn s.p.se s.p.fl=0:=jI λh=>by rw [DT.2 h] at c3;cases c3
 have he:s.p.GN=0:=by unfold PK.GN;rw [AD hu,AD c1,AD c2,c3]
 rw [show (List.replicate (s.p.gs.length:Int).toNat ((0:Int),(0:Int))).drop 0=List.replicate s.p.gs.length (0,0) by rw [Bs];rfl,Bs,D3 (by rw [CR];exact At _)]
 repeat (refine ⟨Fw,?_⟩)
 show _=_
 unfold Qf;rw [L5 he];rw [he];rfl
def azW:DU prog AT 26 aA2.m:=Cw.sound (D:=aA2) (t:=fD) (gk dH) anM Po axq (λs hE=>⟨av5 s hE⟩)
def Rh (c:Ca):Int:=if Fs c=true then 0 else 1
def aIe:List LV->T LV
 | [.v (.agg ⟨[.int .i64 x1,.int .i64 x2,.int .i64 x3,.int .i64 x4,.int .i64 x5]⟩)]=> .ok (.AM [.agg [.xl A7 ([]:List Int),(0:Int),(0:Int)],Rh (x1,x2,x3,x4,x5)])
 |_=> .no
def ayf:List Bd:=[aaV]
def auF:=vo (S:=aIe) func54 ayf kN (λargs lv h=>by
 unfold aIe at h;split at h
 ·rename_i x1 x2 x3 x4 x5
  refine Aj (.br (!(Fs (x1,x2,x3,x4,x5))) (.ok (.AM [.agg [.xl A7 ([]:List Int),(0:Int),(0:Int)],(1:Int)])) (.ok (.AM [.agg [.xl A7 ([]:List Int),(0:Int),(0:Int)],(0:Int)]))) ?_;obtain rfl:=h;unfold Rh;refine ⟨λc=>?_,λc=>?_⟩
  ·rw [AD FN]
   rfl
  ·rw [AE FN]
   rfl
 ·cases h)
structure KM where
 (i k0 k1 k2:Int)
 p:PK
 ev:EW
def UT (s:KM):List LV:=[.own 16 0,s.i,.v (.agg #[s.k0,s.k1,s.k2])]
def Z9 (s:KM):List AB:=kF s.p s.ev Dd++[Bg,Bg]
structure Xj where
 res:Int
 p:PK
 ev:EW
def ac9 (s:Xj):LV:=.v (.int .i64 s.res)
def acr (s:Xj):List AB:=kF s.p s.ev Dd++[Bg,Bg]
def vW (s:KM):T Xj:=letI c:=s.p.st.getD s.i.toNat (Ty.dflt Bu);letI d:=s.p.st.length;letI a:=sE (AH s.p.gs s.i) c s.k0 s.k1 s.k2;letI b:=sN (AH s.p.gs s.i) c s.k0 s.k1 s.k2;.ix s.i (s.p.gs.length) (.ik s.i d (.br (a==0) (.ik s.i d (.pa s.p (.re d (s.p.st.set s.i.toNat b) (.rl s.p.ca (.rl s.p.mi (.rl s.p.me (.rl s.p.dm (.rl s.p.lk (.rl s.p.dr (.rl s.p.tg (.ok (⟨a,{s.p with st:=s.p.st.set s.i.toNat b},s.ev⟩)))))))))))) (.pc s.p (.ok (⟨a,s.p,s.ev⟩)))))
def aAO (s:KM):Prop:=0<=s.i/\s.i<(s.p.gs.length:Int)/\s.p.st.length=s.p.gs.length
def fT (s:KM):Xj:=⟨sE (AH s.p.gs s.i) (BP s.p.st s.i) s.k0 s.k1 s.k2,{s.p with st:=Ce s.p.gs s.p.st s.i s.k0 s.k1 s.k2},s.ev⟩
def aAS:Cw KM Xj:=⟨UT,Z9,λv b=>⟨AK v 1,gI (E6 (v.getD 2 .junk) 0),gI (E6 (v.getD 2 .junk) 1),gI (E6 (v.getD 2 .junk) 2),rF b,rG b⟩,aAO,[0,1,3,17,18],[],ac9,acr,fT⟩
abbrev du (s:KM):Prop:=aAO s/\UT s=UT s/\Z9 s=Z9 s
def dG:List Bd:=[Qi]
def aa3:DI:=CQ 58 18 2 (KE.lp) (CQ 19 0 9 (GS.lp) (Dp prog AT (dG) 20 2))
def anU:ED prog AT aa3:=DB func58 rfl Bt K3 (DB func19 rfl Bt Ck (HW (gk dG)))
def ay0 (s:KM):((EO prog AT dG aa3 Fh).k 57 (UT s) (Z9 s)).bind (λq=>G2 (Z9 s).length [0] [] .normal (q.1::UT s) q.2)=(vW s).mp (λs2=>⟨.normal,(UT s).length+1,[ac9 s2],acr s2,true⟩):=AZ
def avE (s:KM) (hE:aAO s):(vW s).all (λq=>q=fT s):=by
 obtain ⟨h0,h1,h2⟩:=hE;refine ⟨A0,A0,A0,λc=>?_,λc=>?_⟩
 ·have c:=eq_of_beq c
  have hg:Ce s.p.gs s.p.st s.i s.k0 s.k1 s.k2=_:=AE c
  repeat (refine ⟨AA,?_⟩)
  unfold fT;rw [hg];rfl
 ·have c:=Bq.1 c
  have hg:Ce s.p.gs s.p.st s.i s.k0 s.k1 s.k2=s.p.st:=AD c
  repeat (refine ⟨AJ,?_⟩)
  unfold fT;rw [hg];rfl
def az7:DU prog AT 57 aAS.m:=Cw.sound (D:=aAS) (t:=vW) (gk dG) anU Po ay0 (λs hE=>⟨avE s hE⟩)
structure Ng where
 p:PK
 ev:EW
def Tu (s:Ng):List LV:=[.own 16 0]
def YF (s:Ng):List AB:=kF s.p s.ev Dd
structure Y6 where
 res:Int
 p:PK
 ev:EW
def ac2 (s:Y6):LV:=.v (.int .i64 s.res)
def ach (s:Y6):List AB:=kF s.p s.ev Dd
def fE (s:Ng):T Y6:=letI c:=(s.p.mi.set s.ev.en.toNat (([]:List Int),((0:Int),(0:Int))));letI f:=(Ce s.p.gs s.p.st s.ev.en (1:Int) (0:Int) (0:Int));letI g:=(s.ev.c1,(s.ev.c2,(s.ev.c3,(s.ev.c4,s.ev.c5))));letI i:=(s.ev.d1,(s.ev.d2,(s.ev.d3,s.ev.d4)));letI j:=s.p.ca.length;letI a:=s.p.ca.set s.ev.en.toNat g;letI b:=s.p.dm.set s.ev.en.toNat i;letI d:=(Ce s.p.gs f s.ev.en (3:Int) (0:Int) (0:Int));letI e:=(Ce s.p.gs d s.ev.en (4:Int) (1:Int) (0:Int));letI h:=(Ce s.p.gs e s.ev.en (5:Int) (0:Int) (0:Int));.br (!(inB s.ev.en (0:Int) (A9 ((s.p.gs.length:Int)-1)))) (.pc s.p (.ok (⟨1,s.p,s.ev⟩))) (.br ((Rh (s.ev.c1,s.ev.c2,s.ev.c3,s.ev.c4,s.ev.c5)) !=0) (.pc s.p (.ok (⟨1,s.p,s.ev⟩))) (.br (!((inB s.ev.d2 (0:Int) (1000000000:Int))&&((inB s.ev.d3 (0:Int) (1000000:Int))&&(inB s.ev.d4 (1:Int) (9:Int))))) (.pc s.p (.ok (⟨1,s.p,s.ev⟩))) (.ik s.ev.en j (.br ((s.p.ca.getD s.ev.en.toNat (Ty.dflt AX)).2.2.1 !=0) (.pc s.p (.ok (⟨6,s.p,s.ev⟩))) (.ik s.ev.en (s.p.st.length) (.br ((s.p.st.getD s.ev.en.toNat (Ty.dflt Bu)).1 !=0) (.pc s.p (.ok (⟨6,s.p,s.ev⟩))) (.ik s.ev.en j (.ik s.ev.en (s.p.mi.length) (.ik s.ev.en (s.p.dm.length) (.pa s.p (.rl s.p.st (.re j a (.re (s.p.mi.length) c (.rl s.p.me (.re (s.p.dm.length) b (.rl s.p.lk (.rl s.p.dr (.rl s.p.tg (.req (du (⟨s.ev.en,1,0,0,{s.p with ca:=s.p.ca.set s.ev.en.toNat g,mi:=s.p.mi.set s.ev.en.toNat (([]:List Int),((0:Int),(0:Int))),dm:=s.p.dm.set s.ev.en.toNat i},s.ev⟩:KM)) (.pa s.p (.rl f (.rl a (.rl c (.rl s.p.me (.rl b (.rl s.p.lk (.rl s.p.dr (.rl s.p.tg (.req (du (⟨s.ev.en,3,0,0,{s.p with st:=f,ca:=a,mi:=c,dm:=b},s.ev⟩:KM)) (.pa s.p (.rl d (.rl a (.rl c (.rl s.p.me (.rl b (.rl s.p.lk (.rl s.p.dr (.rl s.p.tg (.req (du (⟨s.ev.en,4,1,0,{s.p with st:=d,ca:=a,mi:=c,dm:=b},s.ev⟩:KM)) (.pa s.p (.rl e (.rl a (.rl c (.rl s.p.me (.rl b (.rl s.p.lk (.rl s.p.dr (.rl s.p.tg (.req (du (⟨s.ev.en,5,0,0,{s.p with st:=e,ca:=a,mi:=c,dm:=b},s.ev⟩:KM)) (.pa s.p (.rl h (.rl a (.rl c (.rl s.p.me (.rl b (.rl s.p.lk (.rl s.p.dr (.rl s.p.tg (.ok (⟨0,{s.p with st:=h,ca:=a,mi:=c,dm:=b},s.ev⟩))))))))))))))))))))))))))))))))))))))))))))))))))))))))))))
def aOM {c:Ca}:Rh c=0↔Fs c=true:=by
 unfold Rh
 grind
def aAH (s:Ng):Prop:=s.p.st.length=s.p.gs.length/\s.p.gs.length<=1000/\s.p.ca.length=s.p.gs.length/\s.p.mi.length=s.p.gs.length/\s.p.dm.length=s.p.gs.length
def Qa (s:Ng):Y6:=⟨PK.Gn s.p s.ev.en (EW.c s.ev) (EW.d s.ev),J7 (PK.Gn s.p s.ev.en (EW.c s.ev) (EW.d s.ev)) (PK.Ot s.p s.ev.en (EW.c s.ev) (EW.d s.ev)) s.p,s.ev⟩
def aA3:Cw Ng Y6:=⟨Tu,YF,λv b=>⟨rF b,rG b⟩,aAH,[0,1,3],[],ac2,ach,Qa⟩
abbrev agk (s:Ng):Prop:=aAH s/\Tu s=Tu s/\YF s=YF s
def WV:List Bd:=[TS,auF]
def aQc:As:=Hu WV (la 2 func58 K3 (la 9 func19 Ck (l0 WV))) [⟨57,aAS.m,az7⟩]
def aSw:DI:=CQ 58 18 2 (KE.lp) (CQ 19 0 9 (GS.lp) (Dp prog AT WV 20 2))
def anN:ED prog AT aSw:=DB func58 rfl Bt K3 (DB func19 rfl Bt Ck (HW (gk WV)))
def axr (s:Ng):((EO prog AT WV aSw aQc).k 22 (Tu s) (YF s)).bind (λq=>G2 (YF s).length [0] [] .normal (q.1::Tu s) q.2)=(fE s).mp (λs2=>⟨.normal,(Tu s).length+1,[ac2 s2],ach s2,true⟩):=AZ
def av6 (s:Ng) (hE:aAH s):(fE s).all (λq=>q=Qa s):=by
 obtain ⟨h1,h2,h3,h4,h5⟩:=hE;unfold fE;rw [nt h2];refine ⟨λc=>?_,λc=>?_⟩
 ·have c:s.p.isC s.ev.en=false:=Pe
  have he:s.p.Gn s.ev.en s.ev.c s.ev.d=1:=AE c
  repeat (refine ⟨Fw,?_⟩)
  show _=_
  unfold Qa;rw [JO M0];rw [he]
 have c:s.p.isC s.ev.en=true:=Pe
 have ci:=CU.1 c
 have ci2:s.ev.en<(s.p.gs.length:Int):=A0
 have hc:¬s.p.isC s.ev.en=false:=aG
 have bad:(!Fs s.ev.c || !Gj s.ev.d)=true->s.p.Gn s.ev.en s.ev.c s.ev.d=1:=λh=>by unfold PK.Gn;rw [AD hc,AE h]
 refine ⟨λc1=>?_,λc1=>⟨λc2=>?_,λc2=>?_⟩⟩
 ·have c1:¬Rh s.ev.c=0:=DT.1 c1
  have c1:Fs s.ev.c=false:=by rw [aOM] at c1;simpa using c1
  have he:=bad (by rw [c1];rfl)
  repeat (refine ⟨Fw,?_⟩)
  show _=_
  unfold Qa;rw [JO M0];rw [he]
 ·have c2:(!Gj s.ev.d)=true:=c2
  have he:=bad (by rw [c2,SG])
  repeat (refine ⟨Fw,?_⟩)
  show _=_
  unfold Qa;rw [JO M0];rw [he]
 have c1:Fs s.ev.c=true:=aOM.1 (jI λh=>by rw [show (Rh (s.ev.c1,s.ev.c2,s.ev.c3,s.ev.c4,s.ev.c5) !=0)=true from DT.2 h] at c1;cases c1)
 have c2:(!Gj s.ev.d)=false:=c2
 have hb:¬(!Fs s.ev.c || !Gj s.ev.d)=true:=by rw [c1,c2];decide
 have six:((BS s.p.ca s.ev.en).2.2.1 !=0 ||(BP s.p.st s.ev.en).1 !=0)=true->s.p.Gn s.ev.en s.ev.c s.ev.d=6:=λh=>by unfold PK.Gn;rw [AD hc,AD hb,AE h]
 repeat (refine ⟨Fw,?_⟩)
 refine ⟨λc3=>?_,λc3=>?_⟩
 ·have c3:((BS s.p.ca s.ev.en).2.2.1 !=0)=true:=c3
  have he:=six (by rw [c3];rfl)
  repeat (refine ⟨Fw,?_⟩)
  show _=_
  unfold Qa;rw [JO M0];rw [he]
 repeat (refine ⟨Fw,?_⟩)
 refine ⟨λc4=>?_,λc4=>?_⟩
 ·have c4:((BP s.p.st s.ev.en).1 !=0)=true:=c4
  have he:=six (by rw [c4,SG])
  repeat (refine ⟨Fw,?_⟩)
  show _=_
  unfold Qa;rw [JO M0];rw [he]
 have c3:((BS s.p.ca s.ev.en).2.2.1 !=0)=false:=c3
 have c4:((BP s.p.st s.ev.en).1 !=0)=false:=c4
 have he:s.p.Gn s.ev.en s.ev.c s.ev.d=0:=by unfold PK.Gn;rw [AD hc,AD hb,c3,c4];rfl
 have hg:∀(l:List St) (k n m:Int),l.length=s.p.gs.length->(Ce s.p.gs l s.ev.en k n m).length=s.p.gs.length:=λl k n m h=>by rw [L2];exact h
 repeat (refine ⟨Fw,?_⟩)
 refine ⟨⟨⟨ci.1,ci2,h1⟩,rfl,rfl⟩,?_⟩
 repeat (refine ⟨Fw,?_⟩)
 refine ⟨⟨⟨ci.1,ci2,hg _ _ _ _ h1⟩,rfl,rfl⟩,?_⟩
 repeat (refine ⟨Fw,?_⟩)
 refine ⟨⟨⟨ci.1,ci2,hg _ _ _ _ (hg _ _ _ _ h1)⟩,rfl,rfl⟩,?_⟩
 repeat (refine ⟨Fw,?_⟩)
 refine ⟨⟨⟨ci.1,ci2,hg _ _ _ _ (hg _ _ _ _ (hg _ _ _ _ h1))⟩,rfl,rfl⟩,?_⟩
 repeat (refine ⟨AJ,?_⟩)
 show _=_
 unfold Qa;rw [L5 he];rw [he];rfl
def azX:DU prog AT 22 aA3.m:=Cw.sound (D:=aA3) (t:=fE) (gk WV) anN aQc.h axr (λs hE=>⟨av6 s hE⟩)
structure PA where
 (n i:Int)
 p:PK
 ev:EW
 BW:List ByteArray
 C0:List Ko
 BH:List Ch
 C1:List Ba
 o:List Cd
def vi (s:PA):T (Rd PA):=letI b:=s.o.getD s.i.toNat (Ty.dflt Ao);letI a:=(s.o.set s.i.toNat (b.1,(b.2.1,((s.p.tg.getD s.i.toNat (Ty.dflt A7)),b.2.2.2))));.br (decide (s.i<s.n)) (.ik s.i (s.p.tg.length) (.ik s.i (s.o.length) (.rl s.p.tg (.pc s.p (.re (s.o.length) a (.nx {s with i:=A9 (s.i+1),o:=a})))))) (.rl s.p.tg (.pc s.p (.rl s.o (.so (.exit 0) s))))
def iF (s:PA):Prop:=s.i=0/\s.n=(s.p.tg.length:Int)/\s.p.tg.length=s.p.cs.length/\s.n<=1000/\s.o=GU s.p.cs s.p.tg s.i.toNat
def Yy (s:PA):Prop:=(0<=s.i/\s.i<=s.n)/\s.n=(s.p.tg.length:Int)/\s.p.tg.length=s.p.cs.length/\s.n<=1000/\s.o=GU s.p.cs s.p.tg s.i.toNat
def tY (s:PA):Nat:=(s.n-s.i).toNat
def zb (x:Ex) (s s':PA):Prop:=x=.exit 0/\s'.o=GU s'.p.cs s'.p.tg s'.p.tg.length
def alK:∀s,iF s->Yy s:=by
 exact aL7
def azR:Da Yy tY zb vi:=by
 intro s hI;obtain ⟨⟨h0,h1⟩,h2,h3,h4,h5⟩:=hI
 have hl:s.o.length=s.p.cs.length:=kK
 refine AG (λc1=>?_) (λc1=>?_)
 ·have c1:s.i<s.n:=AA
  rw [AI (x:=s.i+1)];refine ⟨⟨⟨AA,AA⟩,h2,h3,h4,?_⟩,by simp only [tY];omega⟩
  exact aKG
 ·have c1:s.n<=s.i:=AA
  refine ⟨rfl,?_⟩
  grind
def UD:AS PA:=⟨17,34,[2,3,19,20,21],[],λs=>[.own 17 0,.own 18 0,.os 15 1 0 (s.p.tg.length),s.n,s.i],λs=>kF s.p s.ev Dd++[⟨[.v (.slice none 0 0),.v (.slice none 0 0),.v (.slice none 0 0),.v (.slice none 0 0),.v (.slice none 0 0)],28,.cl,false⟩,⟨[.os 19 11 0 (s.o.length),s.BW,s.C0,s.BH,s.C1],28,.cl,false⟩,bV 74 Ao s.o],λv b=>⟨AK v 3,AK v 4,rF b,rG b,AF .str b 18 1,AF B8 b 18 2,AF Au b 18 3,AF B9 b 18 4,Ab Ao b 19⟩,vi,λs r=> {s with i:=r.i,o:=r.o},λs=>s,λ_ s=>s,[.exit 0],iF,Yy,tY⟩
abbrev bX:=UD.run
abbrev arG:=UD.Am
def Of:List Bd:=[cv,TS]
def ayx:As:=kI Of (la 2 func58 K3 (la 9 func19 Ck (l0 Of)))
def awt:Rq Yy vi:=by
 intro s hI;refine ⟨λc1=>⟨?_,?_,?_,?_,A8,A8,A8,A8,A8,A8,A8,A8,A8,A8,A8,A8,A8,?_,trivial⟩,λc1=>⟨A8,A8,A8,A8,A8,A8,A8,A8,A8,A8,A8,A8,A8,A8,trivial⟩⟩
 all_goals ((obtain ⟨⟨h0,h1⟩,h2,h3,h4,h5⟩:=hI;have hl:s.o.length=s.p.cs.length:=kK;(try simp only [AY] at c1);first|omega|exact ⟨rfl,rfl⟩ |exact ⟨rfl,AJ⟩))
def aPV:UD.Ok:={}
def aP6:UD.Pf (zb):=⟨alK,λs h=>rfl,azR,awt⟩
def aFw:=s2 (b:=bN f63 0) aPV aP6 Of ayx
def asj:Fi iF Yy zb arG bX:=AS.fin aPV aP6
structure MX where
 p:PK
 ev:EW
def UQ (s:MX):List LV:=[.own 16 0]
def YJ (s:MX):List AB:=kF s.p s.ev Dd
def Sc (s:MX):PA:=(⟨((s.p.tg.length:Nat):Int),0,{s.p with tg:=s.p.tg.set s.ev.en.toNat s.ev.em},s.ev,s.p.os,s.p.ks,s.p.gs,s.p.bs,B7 ((s.p.cs.drop 0).take (s.p.cs.length)) (List.replicate ((s.p.cs.length:Nat):Int).toNat (ByteArray.empty,((0:Int),((0:Int),((0:Int),(((0:Int),(0:Int)),((0:Int),((0:Int),((0:Int),((0:Int),(0:Int)))))))))))⟩:PA)
structure YA where
 res:Int
 p:PK
 ev:EW
def ac6 (s:YA):LV:=.v (.int .i64 s.res)
def acn (s:YA):List AB:=kF s.p s.ev Dd
def dy (s:MX):T YA:=letI a:=s.p.tg.set s.ev.en.toNat s.ev.em;letI b:=(ByteArray.empty,((0:Int),((0:Int),((0:Int),(((0:Int),(0:Int)),((0:Int),((0:Int),((0:Int),((0:Int),(0:Int))))))))));letI c:=((s.p.cs.length:Nat):Int);letI d:=((bX (Sc s)).o.drop 0).take (List.length (bX (Sc s)).o);letI e:=(s.p.cs.drop 0).take (s.p.cs.length);letI f:=s.p.tg.length;.br (!(inB s.ev.en (0:Int) (A9 (c-1)))) (.pc s.p (.ok (⟨1,s.p,s.ev⟩))) (.ik s.ev.en (s.p.cs.length) (.br (!(inB s.ev.em (1:Int) (s.p.cs.getD s.ev.en.toNat (Ty.dflt Ao)).2.2.1)) (.pc s.p (.ok (⟨1,s.p,s.ev⟩))) (.ik s.ev.en f (.rm 96 c (.rz s.p.cs (.rc c b (List.length e) (.re f a (.pa s.p (.rl s.p.st (.rl s.p.ca (.rl s.p.mi (.rl s.p.me (.rl s.p.dm (.rl s.p.lk (.rl s.p.dr (.re f a (.re c.toNat (B7 e (List.replicate c.toNat b)) (.req (UD.q (Sc s)) (.rz (bX (Sc s)).o (.req (BF d s.p.os s.p.ks s.p.gs s.p.bs=true) (.br (!IL d s.p.gs (C4 s.p.gs)) (.pa s.p (.rl s.p.st (.rl s.p.ca (.rl s.p.mi (.rl s.p.me (.rl s.p.dm (.rl s.p.lk (.rl s.p.dr (.rl a (.ok (⟨13,{s.p with tg:=a},s.ev⟩))))))))))) (.pa s.p (.rl s.p.st (.rl s.p.ca (.rl s.p.mi (.rl s.p.me (.rl s.p.dm (.rl s.p.lk (.rl s.p.dr (.rl a (.ok (⟨0,{s.p with tg:=a},s.ev⟩))))))))))))))))))))))))))))))))
def VP.der {p:PK}(h:VP p) {n m:Int}(hn:inB n 0 ((p.cs.length:Int)-1)=true) (hm:inB m 1 (Ag p.cs n).2.2.1=true):BF (p.LY n m).JC p.os p.ks p.gs p.bs=true/\(p.LY n m).tg.length=p.cs.length:=by
 have hn:=CU.1 hn
 have hm:=CU.1 hm
 have hl:(p.LY n m).tg.length=p.cs.length:=by show (p.tg.set n.toNat m).length=_;rw [Br];exact h.Hq
 have hk:=tt h.site (k:=n.toNat) A0
 rw [BQ hn.1] at hk;refine ⟨aDT h.site (λk hk2=>?_) _ A0,hl⟩
 show 1<=gi (p.tg.set n.toNat m) k/\gi (p.tg.set n.toNat m) k<=1000
 rw [K7 hn.1 (by have:=h.Hq;omega) A0]
 split
 ·omega
 ·exact h.tg1 k hk2
def aAL (s:MX):Prop:=VP s.p
def Td (s:MX):YA:=⟨PK.Iw s.p s.ev.en s.ev.em,{s.p with tg:=if PK.Iw s.p s.ev.en s.ev.em=1 then s.p.tg else s.p.tg.set s.ev.en.toNat s.ev.em},s.ev⟩
def aAQ:Cw MX YA:=⟨UQ,YJ,λv b=>⟨rF b,rG b⟩,aAL,[0,1,3],[],ac6,acn,Td⟩
abbrev agp (s:MX):Prop:=aAL s/\UQ s=UQ s/\YJ s=YJ s
def aQb:As:=kI Of (la 4 func63 aFw (la 2 func58 K3 (la 9 func19 Ck (l0 Of))))
def aa0:DI:=CQ 63 17 4 (UD.lp) (CQ 58 18 2 (KE.lp) (CQ 19 0 9 (GS.lp) (Dp prog AT Of 20 2)))
def anR:ED prog AT aa0:=DB func63 rfl Bt aFw (DB func58 rfl Bt K3 (DB func19 rfl Bt Ck (HW (gk Of))))
def axv (s:MX):((EO prog AT Of aa0 aQb).k 28 (UQ s) (YJ s)).bind (λq=>G2 (YJ s).length [0] [] .normal (q.1::UQ s) q.2)=(dy s).mp (λs2=>⟨.normal,(UQ s).length+1,[ac6 s2],acn s2,true⟩):=AZ
def avA (s:MX) (hE:aAL s):(dy s).all (λq=>q=Td s):=by
 have hs:=D9.1 hE.site
 have ht:=hE.Hq
 have hw:A9 (((s.p.cs.length:Nat):Int)-1)=(s.p.cs.length:Int)-1:=AI
 unfold dy;rw [hw];simp only [Sw,Q7]
 have one:(!inB s.ev.en 0 ((s.p.cs.length:Int)-1) || !inB s.ev.em 1 (Ag s.p.cs s.ev.en).2.2.1)=true->s.p.Iw s.ev.en s.ev.em=1:=λh=>AE h
 refine ⟨λc=>?_,λc=>?_⟩
 ·have he:=one (by rw [c];rfl)
  repeat (refine ⟨AJ,?_⟩)
  show _=_
  unfold Td;rw [AE he,he]
 have cn:inB s.ev.en 0 ((s.p.cs.length:Int)-1)=true:=FN
 have ci:=CU.1 cn
 have hcd:s.p.cs.getD s.ev.en.toNat (Ty.dflt Ao)=Ag s.p.cs s.ev.en:=by
  rw [Cx,DF A0]
  have:=cM (cs:=s.p.cs) (k:=s.ev.en.toNat) A0
  rw [BQ ci.1] at this;rw [this];rfl
 rw [hcd]
 repeat (refine ⟨by first|omega|exact ⟨rfl,rfl⟩ |exact ⟨rfl,AJ⟩ |(refine ⟨?_,?_⟩<;>(simp;done)) |(rw [CR];omega),?_⟩)
 refine ⟨λc2=>?_,λc2=>?_⟩
 ·have he:=one (by rw [c2,SG])
  repeat (refine ⟨AJ,?_⟩)
  show _=_
  unfold Td;rw [AE he,he]
 have cm:inB s.ev.em 1 (Ag s.p.cs s.ev.en).2.2.1=true:=D8
 obtain ⟨k1,k2⟩:=hE.der cn cm
 have ho:(Sc s).o=s.p.cs:=by
  show B7 ((s.p.cs.drop 0).take _) _=_
  rw [Sw];exact Q7
 have hV:iF (Sc s):=⟨rfl,by show (s.p.tg.length:Int)=((s.p.tg.set s.ev.en.toNat s.ev.em).length:Int);rw [Br],k2,aMl,ho⟩
 obtain ⟨_,_,_,q2⟩:=asj _ hV
 have q2:(bX (Sc s)).o=(s.p.LY s.ev.en s.ev.em).JC:=q2
 have nb:¬(!inB s.ev.en 0 ((s.p.cs.length:Int)-1) || !inB s.ev.em 1 (Ag s.p.cs s.ev.en).2.2.1)=true:=by rw [cn,cm];decide
 rw [q2]
 repeat (refine ⟨AA,?_⟩)
 refine ⟨⟨hV,rfl,rfl⟩,?_⟩
 repeat (refine ⟨A0,?_⟩)
 refine ⟨λc3=>?_,λc3=>?_⟩
 ·have c3:IL (s.p.LY s.ev.en s.ev.em).JC s.p.gs (C4 s.p.gs)=false:=My
  have he:s.p.Iw s.ev.en s.ev.em=13:=by unfold PK.Iw;rw [AD nb,AE c3]
  repeat (refine ⟨AJ,?_⟩)
  show _=_
  unfold Td;rw [AD M0,he]
 ·have c3:¬IL (s.p.LY s.ev.en s.ev.em).JC s.p.gs (C4 s.p.gs)=false:=My
  have he:s.p.Iw s.ev.en s.ev.em=0:=by unfold PK.Iw;rw [AD nb,AD c3]
  repeat (refine ⟨AJ,?_⟩)
  show _=_
  unfold Td;rw [AD M0,he]
def azc:DU prog AT 28 aAQ.m:=Cw.sound (D:=aAQ) (t:=dy) (gk Of) anR aQb.h axv (λs hE=>⟨avA s hE⟩)
def aRp:List LV->T LV
 | [.xl (.pair (.int .i64) (.pair (.int .i64) (.pair (.int .i64) (.pair (.int .i64) (.int .i64))))) l,.v (.agg ⟨[.int .i64 nu,.int .i64 co,.int .i64 am,.int .i64 fr,.int .i64 tk]⟩)]=> .ok (.AM [JW l (nu,co,am,fr,tk),FB l (nu,co,am,fr,tk)])
 |_=> .no
def akN:List Bd:=[Wg,aIx,aam]
def aaI:=vo (S:=aRp) func103 akN kN (λargs lv h=>by
 unfold aRp at h;split at h
 ·rename_i l nu co am fr tk
  refine Aj (letI a:=(List.replicate (0:Int).toNat ((0:Int),((0:Int),((0:Int),((0:Int),(0:Int))))));letI b:=(nu,(co,(am,(fr,tk))));letI d:=(l.length:Int);letI g:=A9 (d+1);letI i:=(a++l)++([b]);letI f:=((i.drop 0).take ((0:Int).toNat+l.length+List.length ([b])));.br ((!(BG l)) ||(!(D7 (nu,co,am,fr,tk)))) (.ok (.AM [.xl AX ([]:List Le),(1:Int)])) (.br (decide (d>0)) (.ix (A9 (d-1)) (l.length) (.br (!(Jd (An l (A9 (d-1))) (nu,co,am,fr,tk))) (.ok (.AM [.xl AX ([]:List Le),(12:Int)])) (.br (d==64) (.ok (.AM [.xl AX ([]:List Le),(10:Int)])) (.req (0<=(0:Int)/\(0:Int)<=g/\40*g<=2^48/\g<2^63) (.ra (0:Int).toNat (List.length a) ((0:Int).toNat+l.length) 40 (.ra ((0:Int).toNat+l.length) (List.length (a++l)) ((0:Int).toNat+l.length+List.length ([b])) 40 (.req (0+((0:Int).toNat+l.length+List.length ([b]))<=List.length i) (.ok (.AM [f,(0:Int)]))))))))) (.br (d==64) (.ok (.AM [.xl AX ([]:List Le),(10:Int)])) (.req (0<=(0:Int)/\(0:Int)<=g/\40*g<=2^48/\g<2^63) (.ra (0:Int).toNat (List.length a) ((0:Int).toNat+l.length) 40 (.ra ((0:Int).toNat+l.length) (List.length (a++l)) ((0:Int).toNat+l.length+List.length ([b])) 40 (.req (0+((0:Int).toNat+l.length+List.length ([b]))<=List.length i) (.ok (.AM [f,(0:Int)]))))))))) ?_;obtain rfl:=h
  have bad:∀e:Int,e≠0->FB l (nu,co,am,fr,tk)=e->LV.AM [.xl AX ([]:List Le),.v (.int .i64 e)]=LV.AM [.xl AX (JW l (nu,co,am,fr,tk)),.v (.int .i64 (FB l (nu,co,am,fr,tk)))]:=λe h0 h1=>by
   unfold JW;rw [h1,AD h0]
  refine ⟨λc=>bad 1 Aa ?_,λc=>?_⟩
  ·unfold FB
   rw [AD aMP]
  have hk:(BG l&&D7 (nu,co,am,fr,tk))=true:=aMP
  have hl:l.length<=64:=by rw [AU] at hk;exact (Ib hk.1).1
  have w1:A9 ((l.length:Int)+1)=(l.length:Int)+1:=AI
  have fin:(decide (l.length>0)&&!Jd (An l ((l.length:Int)-1)) (nu,co,am,fr,tk))=false->l.length≠64->LV.AM [.xl AX ((l++[(nu,co,am,fr,tk)]).take (0+l.length+1)),.v (.int .i64 0)]=LV.AM [.xl AX (JW l (nu,co,am,fr,tk)),.v (.int .i64 (FB l (nu,co,am,fr,tk)))]:=λh1 h2=>by
   have e:FB l (nu,co,am,fr,tk)=0:=by unfold FB;rw [AE hk,AD (by rw [h1];simp),AD h2]
   unfold JW;rw [e,AE rfl,D3 AJ]
  have rq:(0<=(0:Int)/\(0:Int)<=A9 ((l.length:Int)+1)/\40*A9 ((l.length:Int)+1)<=2^48/\A9 ((l.length:Int)+1)<2^63):=by rw [w1];omega
  refine ⟨λc2=>?_,λc2=>?_⟩
  ·have c2:0<l.length:=by have:=De c2;omega
   have w2:A9 ((l.length:Int)-1)=(l.length:Int)-1:=AI
   rw [w2];refine ⟨A0,λc3=>bad 12 Aa ?_,λc3=>⟨λc4=>bad 10 Aa ?_,λc4=>⟨rq,⟨rfl,Cn,Cn⟩,⟨AJ,Cn,Cn⟩,AJ,?_⟩⟩⟩
   ·unfold FB
    rw [AE hk,AE (by rw [c3,Cs c2];rfl)]
   ·unfold FB
    rw [AE hk,AD (by rw [c3];simp),AE xw]
   ·exact fin (by rw [c3,S7]) xw
  ·have c2:¬l.length>0:=by have:=JF c2;omega
   refine ⟨λc4=>bad 10 Aa ?_,λc4=>⟨rq,⟨rfl,Cn,Cn⟩,⟨AJ,Cn,Cn⟩,AJ,?_⟩⟩
   ·simp at c4;omega
   ·exact fin (by rw [I1 c2,O5]) A0
 ·cases h)
structure Nc where
 (l0 left l:List Le)
 (n i agQ aft atN atM ao0:Int)
 o:List (List Int)
def aEQ:=bN f157 0
def ub (s:Nc):T (Rd Nc):=letI a:=An s.l s.i;.br (decide (s.i<s.n)) (.ix s.i (s.l.length) (.rb (s.o.length) (List.length ([Ar a])) 24 (.re (s.o.length+List.length ([Ar a])) (s.o++([Ar a])) (.nx {s with i:=A9 (s.i+1),o:=s.o++([Ar a])})))) (.rl s.o (.so (.exit 0) s))
def iq (s:Nc):Prop:=s.i=0/\s.n<=1000/\s.n=(s.l.length:Int)/\(s.o.length:Int)<=s.i
def gU (s:Nc):Prop:=0<=s.i/\s.i<=s.n/\s.n<=1000/\s.n=(s.l.length:Int)/\(s.o.length:Int)<=s.i
def rK (s:Nc):Nat:=(s.n-s.i).toNat
def acy (x:Ex) (s s':Nc):Prop:=True
def ais:∀s,iq s->gU s:=by
 exact Zf
def axH:Da gU rK acy ub:=by
 intro s hI;obtain ⟨h0,h1,h2,h3,h4⟩:=hI;refine AG (λc1=>?_) (λc1=>trivial)
 have c1:s.i<s.n:=AA
 rw [AI (x:=s.i+1)];exact ⟨⟨AA,AA,h2,h3,AA⟩,by simp only [rK];omega⟩
def RH:AS Nc:=⟨0,71,[0,4,8,10,11,25,26,27],[.ns 10 0 34 (.sl (.int .u8))],λs=>[s.l0,.own 0 0,s.left,.own 1 0,.fn 195 [.own 1 0],s.l,s.n,s.i],λs=>[⟨[s.agQ,s.aft,s.atN,s.atM,s.ao0],114,.cl,false⟩,⟨[.os 2 1 0 (s.o.length)],185,.cl,false⟩,⟨[],34,.vec (.sl (.int .u8)) s.o,false⟩],λv b=>⟨Az AX v 0,Az AX v 2,Az AX v 5,AK v 6,AK v 7,Ae b 0 0,Ae b 0 1,Ae b 0 2,Ae b 0 3,Ae b 0 4,Ab (.sl (.int .u8)) b 2⟩,ub,λs r=> {s with i:=r.i,o:=r.o},λs=>s,λ_ s=>s,[.exit 0],iq,gU,rK⟩
abbrev m8:=RH.run
abbrev aGt:=RH.Am
def avf:Rq gU ub:=by
 intro s hI;refine ⟨λc1=>⟨?_,?_,?_,trivial⟩,λc1=>⟨A8,trivial⟩⟩
 all_goals ((obtain ⟨h0,h1,h2,h3,h4⟩:=hI;simp only [AY] at c1;(first|omega|(simp only [BX,Bh];omega) |(simp only [B0,BX,Bh,E9]))))
def dM:List Bd:=[cz,aah]
def aQg:As:=kI dM (l0 dM)
def aPo:RH.Ok:={}
def aOB:RH.Pf (acy):=⟨ais,λs h=>rfl,axH,avf⟩
def aoP:SA 0 aEQ RH:=s1 aPo aOB dM aQg
def aqP:Rs iq aGt m8 (λs:Nc=>s.o++(s.l.drop s.i.toNat).map Ar) (λx s' (v:List (List Int))=>x=.exit 0/\s'.o=v):=DL aPo aOB (λs hI=>by
  obtain ⟨h0,h1,h2,h3,h4⟩:=hI;refine AG (λc1=>?_) (λc1=>?_)
  ·have c1:s.i<s.n:=AA
   rw [AI (x:=s.i+1)]
   show _++[_]++_=_++_
   rw [(W4 h0 A0).1]
   grind
  ·have c1:s.n<=s.i:=AA
   refine ⟨rfl,?_⟩;rw [EJ A0]
   simp)
def IH (l:List Le) (x:Le) (t:Int):List (List Int):=if DN l t=0 then Ht l x t else []
def aSB:List LV->T LV
 | [.xl (.pair (.int .i64) (.pair (.int .i64) (.pair (.int .i64) (.pair (.int .i64) (.int .i64))))) l,.v (.agg ⟨[.int .i64 x1,.int .i64 x2,.int .i64 x3,.int .i64 x4,.int .i64 x5]⟩),.v (.int .i64 t)]=> .ok (.AM [.xl (.sl (.int .u8)) (IH l (x1,x2,x3,x4,x5) t),DN l t])
 |_=> .no
def Vb (l:List Le) (x1 x2 x3 x4 x5 t:Int):Nc:=(⟨l,Bj l t,Bj l t,(List.length (Bj l t):Int),0,x1,x2,x3,x4,x5,([]:List (List Int))⟩:Nc)
def aGX {l:List Le}{t:Int}(h:DN l t=0):l.length<=64/\(Bj l t).length<=l.length:=by
 unfold DN at h;split at h
 ·rename_i c
  refine ⟨(Ib (by unfold Nw at c;rw [AU] at c;exact c.1)).1,?_⟩
  unfold Bj
  grind
 ·cases h
def ahl:=vm (S:=aSB) func157 dM aQg (L:=(λi=>if i=7 then RH.lp else Af i)) (λb hb=>by
 rw [show B6 _=[aEQ] by kernel_rfl] at hb
 simp only [B1,Bv,Bw] at hb;subst hb;exact aoP) (λargs lv h=>by
 unfold aSB at h;split at h
 ·rename_i l x1 x2 x3 x4 x5 t
  refine Aj (letI a:=m8 (Vb l x1 x2 x3 x4 x5 t);letI e:=(x1,x2,x3,x4,x5);letI f:=List.length a.o+List.length ([Ar e]);letI j:=(A9 ((l.length:Int)-1));letI k:=(List.length (Bj l t):Int);letI m:=List.length a.o;letI n:=a.o++([Ar e]);letI d:=An l j;letI g:=(a.o++([Ar d]))++([Ar e]);letI p:=List.length a.o+List.length ([Ar d]);letI r:=List.length (a.o++([Ar d]));letI b:=List.length a.o+List.length ([Ar d])+List.length ([Ar e]);.br ((DN l t) !=0) (.ok (.AM [.xl (.sl (.int .u8)) ([]:List (List Int)),(DN l t)])) (.r0 (List Int) (.req (RH.q (Vb l x1 x2 x3 x4 x5 t)) (.br (decide ((l.length:Int)>0)) (.br (k==0) (.ix j (l.length) (.rb m (List.length ([Ar d])) 24 (.ra p r b 24 (.req (0+b<=List.length g) (.ok (.AM [.xl (.sl (.int .u8)) ((g.drop 0).take b),(0:Int)])))))) (.ix (A9 (k-1)) (List.length (Bj l t)) (.ix j (l.length) (.br ((An (Bj l t) (A9 (k-1))).1 !=d.1) (.ix j (l.length) (.rb m (List.length ([Ar d])) 24 (.ra p r b 24 (.req (0+b<=List.length g) (.ok (.AM [.xl (.sl (.int .u8)) ((g.drop 0).take b),(0:Int)])))))) (.rb m (List.length ([Ar e])) 24 (.req (0+f<=List.length n) (.ok (.AM [.xl (.sl (.int .u8)) ((n.drop 0).take f),(0:Int)])))))))) (.rb m (List.length ([Ar e])) 24 (.req (0+f<=List.length n) (.ok (.AM [.xl (.sl (.int .u8)) ((n.drop 0).take f),(0:Int)])))))))) ?_;obtain rfl:=h;refine ⟨λc=>?_,λc=>?_⟩
  ·have c:DN l t≠0:=FN
   unfold IH;rw [AD c];rfl
  have hE:DN l t=0:=FN
  obtain ⟨k1,k2⟩:=aGX hE
  have hV:iq (Vb l x1 x2 x3 x4 x5 t):=⟨rfl,by show ((Bj l t).length:Int)<=1000;omega,rfl,xk⟩
  have q:aGt (Vb l x1 x2 x3 x4 x5 t)=.exit 0/\(m8 (Vb l x1 x2 x3 x4 x5 t)).o=(Bj l t).map Ar:=aqP _ hV
  have hR:IH l (x1,x2,x3,x4,x5) t=Ht l (x1,x2,x3,x4,x5) t:=AE hE
  have w1:=λ_:0<l.length=>AI (x:=(l.length:Int)-1)
  have w2:=λ_:0<(Bj l t).length=>AI (x:=((Bj l t).length:Int)-1)
  have hL:(m8 (Vb l x1 x2 x3 x4 x5 t)).o.length=(Bj l t).length:=by rw [q.2,Fv]
  rw [hE,hR];unfold Ht;refine ⟨A8,⟨hV,rfl,rfl⟩,λc1=>⟨λc2=>?_,λc2=>?_⟩,λc1=>?_⟩
  ·have c1:0<l.length:=AO
   have c2:(Bj l t).length=0:=D8
   rw [w1 c1,AE ⟨c1,.inl c2⟩];refine ⟨A0,⟨EK _,?_,?_⟩,⟨?_,?_,?_⟩,?_,?_⟩
   all_goals first|(simp only [B0,BX,Bh,hL];omega) |(rw [q.2,CJ,D3 k9];simp only [CZ,Di];rfl)
  ·have c1:0<l.length:=AO
   have c2:0<(Bj l t).length:=by simp at c2;exact Ms.2 c2
   rw [w1 c1,w2 c2];refine ⟨A0,A0,λc3=>?_,λc3=>?_⟩
   ·rw [AE ⟨c1,.inr My⟩]
    refine ⟨A0,⟨EK _,?_,?_⟩,⟨?_,?_,?_⟩,?_,?_⟩
    all_goals first|(simp only [B0,BX,Bh,hL];omega) |(rw [q.2,CJ,D3 k9];simp only [CZ,Di];rfl)
   ·rw [AD (by intro h;rcases h.2 with h|h;omega;simp at c3;exact h c3)]
    refine ⟨⟨EK _,?_,?_⟩,?_,?_⟩
    all_goals first|(simp only [B0,BX,Bh,hL];omega) |(rw [q.2,CJ,D3 k9];simp only [CZ,Di];rfl)
  ·have c1:¬0<l.length:=AO
   rw [AD (λh=>c1 h.1)]
   refine ⟨⟨EK _,?_,?_⟩,?_,?_⟩
   all_goals first|(simp only [B0,BX,Bh,hL];omega) |(rw [q.2,CJ,D3 k9];simp only [CZ,Di];rfl)
 ·cases h)
def dP:List Bd:=[]
def aRr:List LV->T LV:=λl=>Bc prog AT (dP) kN Af f223 (canL l)
def aaK:=vo (S:=aRr) func223 dP kN (λargs lv h=>by
 refine ⟨?_⟩;unfold aRr at h
 assumption)
def aRK:List LV->T LV:=λl=>Bc prog AT (dP) kN Af f228 (canL l)
def aaL:=vo (S:=aRK) func228 dP kN (λargs lv h=>by
 refine ⟨?_⟩;unfold aRK at h
 assumption)
def nP {l:List Int}{n:Nat}(h:l.length=n):B7 l (List.replicate n (0:Int))=l:=by
 unfold B7;rw [jV (by rw [CR];omega),FJ]
def mY {l:List Int}{n:Nat}(h:l.length=n):((B7 ((l.drop 0).take n) (List.replicate n (0:Int))).drop 0).take n=l:=by
 rw [CJ,CJ,D3 (l:=l) A0,nP h,D3 A0]
def Wd {l:List Int}{n:Nat}(h:l.length=n):(l.drop 0).take n=l:=by
 rw [CJ,D3 A0]
def vQ:Array Tmp×Code×Code:=((Ia (f224.body.getD .skip))[0]?).getD (#[],.skip,.skip)
def aaG:Array Tmp:=vQ.1
def abP:Code:=vQ.2.1
def abN:Code:=vQ.2.2
structure Lb where
 (n i HU:Int)
 (HV b1:List Int)
 mw:Int
 GF:List Int
 (b3 b4 HS:Int)
 b9:List Fl
 b10:List Int
 st:LS
def Ka (s:Lb):List Int:=(s.b10.set (A9 (s.b3+s.i)).toNat (Bn .u8 (s.b10.getD (A9 (s.b3+s.i)).toNat (Ty.dflt (.int .u8))) (gi s.b1 s.i)))
def lpC (s:Lb):List Int:=((B7 (((Ka s).drop 0).take (s.b10.length)) (List.replicate ((s.b10.length:Nat):Int).toNat (0:Int))).drop 0)
def kz (s:Lb):T (Rd Lb):=letI a:=((s.b10.length:Nat):Int);letI b:=(s.HS,(lpC s).take a.toNat);letI c:=s.b10.length;letI d:=((Ka s).drop 0).take c;.br (decide (s.i<s.n)) (.ik (A9 (s.b3+s.i)) c (.ix s.i (s.b1.length) (.ik (A9 (s.b3+s.i)) c (.rm 1 a (.req (0+c<=List.length (Ka s)) (.rc a (0:Int) (List.length d) (.req (0+a.toNat<=List.length (B7 d (List.replicate a.toNat (0:Int)))) (.rb (s.b9.length) (List.length ([b])) 32 (.re (s.b9.length+List.length ([b])) (s.b9++([b])) (.re c (Ka s) (.nx {s with i:=A9 (s.i+1),b9:=s.b9++([b]),b10:=Ka s}))))))))))) (.rl s.b9 (.rl s.b10 (.so (.exit 0) s)))
def lq (s:Lb):Prop:=s.st=.ready/\s.i=0/\(s.n=(s.b1.length:Int)/\0<=s.n/\0<=s.b3/\s.b3+s.n<=(s.GF.length:Int)/\s.GF.length<=4096)/\s.b10=DZ s.GF s.b3 s.b1 0/\s.b9=[(s.HS,DZ s.GF s.b3 s.b1 0)]
def aX (s:Lb):Prop:=s.st=.ready/\(0<=s.i/\s.i<=s.n)/\(s.n=(s.b1.length:Int)/\0<=s.n/\0<=s.b3/\s.b3+s.n<=(s.GF.length:Int)/\s.GF.length<=4096)/\s.b10=DZ s.GF s.b3 s.b1 s.i.toNat/\s.b9=(List.range (s.i.toNat+1)).map (λk:Nat=>(s.HS,DZ s.GF s.b3 s.b1 k))
def yn (s:Lb):Nat:=(s.n-s.i).toNat
def vz (x:Ex) (s s':Lb):Prop:=x=.exit 0/\s'.b9=Dg s'.HS s'.GF s'.b3 s'.b1
def alU:∀s,lq s->aX s:=by
 exact aKh
def ajN:Da aX yn vz kz:=by
 intro s hI;unfold kz;dsimp only [T.rd,T.rl,T.rv];refine AG (λc1=>?_) (λc1=>?_)
 ·obtain ⟨ht,⟨h0,h1⟩,⟨hn,hn0,ha,hl,h4⟩,hb,ho⟩:=hI
  have hbl:s.b10.length=s.GF.length:=aNG
  have c1:s.i<s.n:=AO
  have wa:A9 (s.b3+s.i)=s.b3+s.i:=AI
  have hB:Ka s=DZ s.GF s.b3 s.b1 (s.i.toNat+1):=aMR
  have hBl:(Ka s).length=s.GF.length:=aNH
  have hC:(lpC s).take ((s.b10.length:Nat):Int).toNat=Ka s:=aN1
  rw [AI (x:=s.i+1)]
  have et:(s.i+1).toNat=s.i.toNat+1:=A0
  refine ⟨⟨ht,⟨AP,AP⟩,⟨hn,hn0,ha,hl,h4⟩,?_,?_⟩,by simp only [yn];omega⟩
  ·simp only [et]
   exact hB
  ·simp only [et]
   rw [OA,I2,<-ho,E8,Ks,<-hB,<-hC]
 ·obtain ⟨ht,⟨h0,h1⟩,⟨hn,hn0,ha,hl,h4⟩,hb,ho⟩:=hI
  have c1:s.n<=s.i:=AO
  refine ⟨rfl,?_⟩;rw [ho]
  have e:s.i.toNat=s.b1.length:=A0
  rw [e];rfl
def aU:AS Lb:=⟨8,41,[0,3,4,6,15,16],[],λs=>[.CN 7,.own 5 0,.own 3 0,.own 8 0,s.n,s.i],λs=>[⟨[s.HU,.xl (.int .u8) s.HV],36,.cl,false⟩,⟨[.xl (.int .u8) s.b1],34,.cl,false⟩,⟨[s.mw,.xl (.int .u8) s.GF],36,.cl,false⟩,⟨[s.b3],3,.cl,false⟩,⟨[s.b4],3,.cl,false⟩,⟨[.fn 223 [.own 1 0]],330,.cl,false⟩,⟨[.os 9 2 0 (s.b9.length)],214,.cl,false⟩,⟨[.junk,.junk,.junk,.own 6 0,.v (.tuple #[]),.junk,.v (.tuple #[]),.v (.tuple #[]),.v (.tuple #[]),.v (.tuple #[]),.v (.tuple #[]),.junk],0,.Cc aaG abP abN s.st,false⟩,⟨[s.HS,.os 10 1 0 (s.b10.length)],36,.cl,false⟩,bV 36 Bf s.b9,bV 5 (.int .u8) s.b10],λv b=>⟨AK v 4,AK v 5,Ae b 0 0,AF (.int .u8) b 0 1,AF (.int .u8) b 1 0,Ae b 2 0,AF (.int .u8) b 2 1,Ae b 3 0,Ae b 4 0,Ae b 8 0,Ab Bf b 9,Ab (.int .u8) b 10,.ready⟩,kz,λs r=> {r with n:=s.n,HU:=s.HU,HV:=s.HV,b1:=s.b1,mw:=s.mw,GF:=s.GF,b3:=s.b3,b4:=s.b4,HS:=s.HS,st:=s.st},λs=> {s with st:=.ready},λx s=> {s with st:=(match x with| .exit 0=> .ready|_=> .ready)},[.exit 0],lq,aX,yn⟩
abbrev cg:=aU.run
abbrev azl:=aU.Am
def uM:List Bd:=[XF,aaK]
def ayO:As:=kI uM (l0 uM)
def aiO:Rq aX kz:=by
 intro s hI;refine ⟨λc1=>⟨?_,?_,?_,?_,?_,?_,?_,?_,?_,?_,?_,?_,trivial⟩,λc1=>⟨A8,A8,trivial⟩⟩
 all_goals ((obtain ⟨ht,⟨h0,h1⟩,⟨hn,hn0,ha,hl,h4⟩,hb,ho⟩:=hI;have hbl:s.b10.length=s.GF.length:=aNG;have c1:s.i<s.n:=AO;have wa:A9 (s.b3+s.i)=s.b3+s.i:=AI;have hB:Ka s=DZ s.GF s.b3 s.b1 (s.i.toNat+1):=aMR;have hBl:(Ka s).length=s.GF.length:=aNH;have hC:(lpC s).take ((s.b10.length:Nat):Int).toNat=Ka s:=aN1;(first|omega|exact ⟨rfl,AJ⟩ |(rw [wa];omega) |(rw [hC];simp only [B0,BX,Bh,ho,Fv,S9,E9];omega) |(rw [hBl];omega) |(rw [Bs,CR,Wd A0];omega) |(rw [Bs,Wd A0,nP A0];omega))))
def ab1:aU.Ok:={}
def abY:aU.Pf (vz):=⟨alU,λs h=>by
 obtain ⟨n,i,HU,HV,b1,mw,GF,b3,b4,HS,b9,b10,st⟩:=s
 have e:st=.ready:=h.1
 subst e;rfl,ajN,aiO⟩
def qn:=s2 (b:=bN f230 0) ab1 abY uM ayO
def axd:Fi lq aX vz azl cg:=AS.fin ab1 abY
structure Lc where
 (n i HU:Int)
 HV:List Int
 Vv:Int
 FO:List Int
 (b2 b3 HS:Int)
 b8:List Fl
 b9:List Int
 st:LS
def leB (s:Lc):List Int:=(s.b9.set (A9 (s.b2+s.i)).toNat (255:Int))
def leC (s:Lc):List Int:=((B7 (((leB s).drop 0).take (s.b9.length)) (List.replicate ((s.b9.length:Nat):Int).toNat (0:Int))).drop 0)
def l8 (s:Lc):T (Rd Lc):=letI a:=((s.b9.length:Nat):Int);letI b:=(s.HS,(leC s).take a.toNat);letI c:=s.b9.length;letI d:=((leB s).drop 0).take c;.br (decide (s.i<s.n)) (.ik (A9 (s.b2+s.i)) c (.ik (A9 (s.b2+s.i)) c (.rm 1 a (.req (0+c<=List.length (leB s)) (.rc a (0:Int) (List.length d) (.req (0+a.toNat<=List.length (B7 d (List.replicate a.toNat (0:Int)))) (.rb (s.b8.length) (List.length ([b])) 32 (.re (s.b8.length+List.length ([b])) (s.b8++([b])) (.re c (leB s) (.nx {s with i:=A9 (s.i+1),b8:=s.b8++([b]),b9:=leB s})))))))))) (.rl s.b8 (.rl s.b9 (.so (.exit 0) s)))
def lu (s:Lc):Prop:=s.st=.ready/\s.i=0/\(s.n=s.n/\0<=s.n/\0<=s.b2/\s.b2+s.n<=(s.FO.length:Int)/\s.FO.length<=4096)/\s.b9=Ee s.FO s.b2 0/\s.b8=[(s.HS,Ee s.FO s.b2 0)]
def aY (s:Lc):Prop:=s.st=.ready/\(0<=s.i/\s.i<=s.n)/\(s.n=s.n/\0<=s.n/\0<=s.b2/\s.b2+s.n<=(s.FO.length:Int)/\s.FO.length<=4096)/\s.b9=Ee s.FO s.b2 s.i.toNat/\s.b8=(List.range (s.i.toNat+1)).map (λk:Nat=>(s.HS,Ee s.FO s.b2 k))
def yp (s:Lc):Nat:=(s.n-s.i).toNat
def w6 (x:Ex) (s s':Lc):Prop:=x=.exit 0/\s'.b8=(List.range (s'.n.toNat+1)).map (λk:Nat=>(s'.HS,Ee s'.FO s'.b2 k))
def alW:∀s,lu s->aY s:=by
 exact aKh
def aiq:Da aY yp w6 l8:=by
 intro s hI;unfold l8;dsimp only [T.rd,T.rl,T.rv];refine AG (λc1=>?_) (λc1=>?_)
 ·obtain ⟨ht,⟨h0,h1⟩,⟨hn,hn0,ha,hl,h4⟩,hb,ho⟩:=hI
  have hbl:s.b9.length=s.FO.length:=aN8
  have c1:s.i<s.n:=AO
  have wa:A9 (s.b2+s.i)=s.b2+s.i:=AI
  have hB:leB s=Ee s.FO s.b2 (s.i.toNat+1):=aMI
  have hBl:(leB s).length=s.FO.length:=aN9
  have hC:(leC s).take ((s.b9.length:Nat):Int).toNat=leB s:=aN2
  rw [AI (x:=s.i+1)]
  have et:(s.i+1).toNat=s.i.toNat+1:=A0
  refine ⟨⟨ht,⟨AP,AP⟩,⟨hn,hn0,ha,hl,h4⟩,?_,?_⟩,by simp only [yp];omega⟩
  ·simp only [et]
   exact hB
  ·simp only [et]
   rw [OA,I2,<-ho,E8,Ks,<-hB,<-hC]
 ·obtain ⟨ht,⟨h0,h1⟩,⟨hn,hn0,ha,hl,h4⟩,hb,ho⟩:=hI
  have c1:s.n<=s.i:=AO
  refine ⟨rfl,?_⟩;rw [ho]
  have e:s.i.toNat=s.n.toNat:=A0
  rw [e]
def aV:AS Lc:=⟨7,41,[0,3,4,6,15,16],[],λs=>[.CN 6,.own 4 0,.own 2 0,.own 7 0,s.n,s.i],λs=>[⟨[s.HU,.xl (.int .u8) s.HV],36,.cl,false⟩,⟨[s.Vv,.xl (.int .u8) s.FO],36,.cl,false⟩,⟨[s.b2],3,.cl,false⟩,⟨[s.b3],3,.cl,false⟩,⟨[.fn 228 []],330,.cl,false⟩,⟨[.os 8 2 0 (s.b8.length)],214,.cl,false⟩,⟨[.junk,.junk,.junk,.own 5 0,.v (.tuple #[]),.junk,.v (.tuple #[]),.v (.tuple #[]),.v (.tuple #[]),.v (.tuple #[]),.v (.tuple #[]),.junk],0,.Cc aaG abP abN s.st,false⟩,⟨[s.HS,.os 9 1 0 (s.b9.length)],36,.cl,false⟩,bV 36 Bf s.b8,bV 5 (.int .u8) s.b9],λv b=>⟨AK v 4,AK v 5,Ae b 0 0,AF (.int .u8) b 0 1,Ae b 1 0,AF (.int .u8) b 1 1,Ae b 2 0,Ae b 3 0,Ae b 7 0,Ab Bf b 8,Ab (.int .u8) b 9,.ready⟩,l8,λs r=> {r with n:=s.n,HU:=s.HU,HV:=s.HV,Vv:=s.Vv,FO:=s.FO,b2:=s.b2,b3:=s.b3,HS:=s.HS,st:=s.st},λs=> {s with st:=.ready},λx s=> {s with st:=(match x with| .exit 0=> .ready|_=> .ready)},[.exit 0],lu,aY,yp⟩
abbrev Wj:=aV.run
abbrev azm:=aV.Am
def uL:List Bd:=[XF,aaL]
def ayN:As:=kI uL (la 3 func230 qn (l0 uL))
def aiQ:Rq aY l8:=by
 intro s hI;refine ⟨λc1=>⟨?_,?_,?_,?_,?_,?_,?_,?_,?_,?_,?_,trivial⟩,λc1=>⟨A8,A8,trivial⟩⟩
 all_goals ((obtain ⟨ht,⟨h0,h1⟩,⟨hn,hn0,ha,hl,h4⟩,hb,ho⟩:=hI;have hbl:s.b9.length=s.FO.length:=aN8;have c1:s.i<s.n:=AO;have wa:A9 (s.b2+s.i)=s.b2+s.i:=AI;have hB:leB s=Ee s.FO s.b2 (s.i.toNat+1):=aMI;have hBl:(leB s).length=s.FO.length:=aN9;have hC:(leC s).take ((s.b9.length:Nat):Int).toNat=leB s:=aN2;(first|omega|exact ⟨rfl,AJ⟩ |(rw [wa];omega) |(rw [hC];simp only [B0,BX,Bh,ho,Fv,S9,E9];omega) |(rw [hBl];omega) |(rw [Bs,CR,Wd A0];omega) |(rw [Bs,Wd A0,nP A0];omega))))
def ab3:aV.Ok:={}
def abb:aV.Pf (w6):=⟨alW,λs h=>by
 obtain ⟨n,i,HU,HV,Vv,FO,b2,b3,HS,b8,b9,st⟩:=s
 have e:st=.ready:=h.1
 subst e;rfl,aiq,aiQ⟩
def aJF:=s2 (b:=bN f230 0) ab3 abb uL ayN
def axh:Fi lu aY w6 azm Wj:=AS.fin ab3 abb
def Ub (se:Int) (fl:List Int) (a:Int) (d:List Int):List Fl:=if En se fl a d=0 then Dg se fl a d else []
def Ds (se:Int) (fl:List Int) (s:Int):List Fl:=if Hw se fl s=0 then Kf se fl s else []
def aRT:List LV->T LV
 | [.agg [.v (.int .i64 se),.xl (.int .u8) fl],.v (.int .i64 at_),.xl (.int .u8) d]=> .req (d.length<=1000000) (.ok (.AM [.xl Bf (Ub se fl at_ d),En se fl at_ d]))
 |_=> .no
def adn (se:Int) (fl:List Int) (at_:Int) (d:List Int):Lb:=(⟨(d.length:Int),0,se,fl,d,se,fl,at_,(d.length:Int),se,[(se,((B7 (((B7 fl (List.replicate (fl.length:Int).toNat (0:Int))).drop 0).take (fl.length:Int).toNat) (List.replicate (((fl.length:Int).toNat:Nat):Int).toNat (0:Int))).drop 0).take (((fl.length:Int).toNat:Nat):Int).toNat)],B7 fl (List.replicate (fl.length:Int).toNat (0:Int)),.ready⟩:Lb)
def uK:List Bd:=[XF,aaK]
def ayM:As:=kI uK (la 3 func230 aJF (la 3 func230 qn (l0 uK)))
def ahr:=vo (S:=aRT) func217 uK ayM (λargs lv h=>by
 unfold aRT at h;split at h
 ·rename_i se fl at_ d
  refine Aj (letI b:=(fl.length:Int);letI c:=(B7 fl (List.replicate b.toNat (0:Int)));letI e:=((b.toNat:Nat):Int);letI g:=adn se fl at_ d;letI i:=(c.drop 0).take b.toNat;letI a:=(B7 i (List.replicate e.toNat (0:Int)));letI f:=(se,(a.drop 0).take e.toNat);.br ((!(HB se fl)) ||(decide (at_<0))) (.ok (.AM [.xl Bf ([]:List Fl),(1:Int)])) (.br (decide (at_>(A9 (b-(d.length:Int))))) (.ok (.AM [.xl Bf ([]:List Fl),(3:Int)])) (.rm 1 b (.rc b (0:Int) (fl.length) (.rm 1 e (.req (0+b.toNat<=List.length c) (.rc e (0:Int) (List.length i) (.req (0+e.toNat<=List.length a) (.req ((List.length ([f]):Int)*32<=2^47/\(List.length ([f]):Int)<2^62) (.rl ([f]) (.re b.toNat c (.req (aU.q g) (.rz (cg g).b9 (.ok (.AM [.xl Bf (((cg g).b9.drop 0).take (List.length (cg g).b9)),(0:Int)]))))))))))))))) ?_;obtain ⟨hd,rfl⟩:=h;refine ⟨λc1=>?_,λc1=>⟨λc2=>?_,λc2=>?_⟩⟩
  ·have hE:En se fl at_ d=1:=by unfold En;rw [AE c1]
   unfold Ub;rw [hE];rfl
  all_goals have c1':HB se fl=true/\0<=at_:=by simp at c1;omega
  all_goals have hv:=NB.1 c1'.1
  all_goals rw [AI (x:=(fl.length:Int)-(d.length:Int))] at c2
  ·have hE:En se fl at_ d=3:=by unfold En;rw [AD aD,AE (De c2)]
   unfold Ub;rw [hE];rfl
  have c2:at_<=(fl.length:Int)-(d.length:Int):=D8
  have hE:En se fl at_ d=0:=by unfold En;rw [AD aD,AD A0]
  have z1:B7 fl (List.replicate (fl.length:Int).toNat (0:Int))=fl:=aNf
  have z2:((B7 (((B7 fl (List.replicate (fl.length:Int).toNat (0:Int))).drop 0).take (fl.length:Int).toNat) (List.replicate (((fl.length:Int).toNat:Nat):Int).toNat (0:Int))).drop 0).take (((fl.length:Int).toNat:Nat):Int).toNat=fl:=by
   rw [z1,Bs,Bs];exact mY rfl
  have z5:B7 (((B7 fl (List.replicate (fl.length:Int).toNat (0:Int))).drop 0).take (fl.length:Int).toNat) (List.replicate (((fl.length:Int).toNat:Nat):Int).toNat (0:Int))=fl:=by
   grind
  have z6:((B7 fl (List.replicate (fl.length:Int).toNat (0:Int))).drop 0).take (fl.length:Int).toNat=fl:=by
   rw [z1,Bs,Wd rfl]
  have hL:lq (adn se fl at_ d):=⟨rfl,rfl,⟨rfl,by show (0:Int)<=(d.length:Int);omega,c1'.2,by show at_+(d.length:Int)<=(fl.length:Int);omega,hv.2.2.2.1⟩,z1,aMa⟩
  obtain ⟨s',_,q1,q2⟩:=axd _ hL;refine ⟨?_,?_,?_,?_,?_,?_,?_,A8,?_,⟨hL,rfl,rfl⟩,A0,?_⟩
  iterate 8 · (first|omega|(rw [z6,CR];omega) |(rw [CR];omega) |(rw [z5];omega) |(rw [z1];omega) |(simp only [BX,Bh];decide))
  unfold Ub;rw [AE hE,hE,CJ,D3 (At _),q2];rfl
 ·cases h)
def aRN:List LV->T LV
 | [.agg [.v (.int .i64 se),.xl (.int .u8) fl],.v (.int .i64 sc)]=> .ok (.AM [.xl Bf (Ds se fl sc),Hw se fl sc])
 |_=> .no
def mV (se:Int) (fl:List Int) (sc:Int):Lc:=(⟨se,0,se,fl,se,fl,A9 (sc*se),se,se,[(se,((B7 (((B7 fl (List.replicate (fl.length:Int).toNat (0:Int))).drop 0).take (fl.length:Int).toNat) (List.replicate (((fl.length:Int).toNat:Nat):Int).toNat (0:Int))).drop 0).take (((fl.length:Int).toNat:Nat):Int).toNat)],B7 fl (List.replicate (fl.length:Int).toNat (0:Int)),.ready⟩:Lc)
def uJ:List Bd:=[XF,aaL]
def ayK:As:=kI uJ (la 3 func230 aJF (la 3 func230 qn (l0 uJ)))
def aaM:=vo (S:=aRN) func221 uJ ayK (λargs lv h=>by
 unfold aRN at h;split at h
 ·rename_i se fl sc
  refine Aj (letI b:=(fl.length:Int);letI c:=(B7 fl (List.replicate b.toNat (0:Int)));letI d:=((b.toNat:Nat):Int);letI f:=mV se fl sc;letI g:=(c.drop 0).take b.toNat;letI a:=(B7 g (List.replicate d.toNat (0:Int)));letI e:=(se,(a.drop 0).take d.toNat);.br (!(HB se fl)) (.ok (.AM [.xl Bf ([]:List Fl),(1:Int)])) (.br (decide (sc<0)) (.ok (.AM [.xl Bf ([]:List Fl),(1:Int)])) (.req (se≠0) (.br (decide (sc>=(A9 (b.tdiv se)))) (.ok (.AM [.xl Bf ([]:List Fl),(1:Int)])) (.rm 1 b (.rc b (0:Int) (fl.length) (.rm 1 d (.req (0+b.toNat<=List.length c) (.rc d (0:Int) (List.length g) (.req (0+d.toNat<=List.length a) (.req ((List.length ([e]):Int)*32<=2^47/\(List.length ([e]):Int)<2^62) (.rl ([e]) (.re b.toNat c (.req (aV.q f) (.rz (Wj f).b8 (.ok (.AM [.xl Bf (((Wj f).b8.drop 0).take (List.length (Wj f).b8)),(0:Int)]))))))))))))))))) ?_;obtain rfl:=h
  have bad:Hw se fl sc=1->LV.AM [.xl Bf ([]:List Fl),.v (.int .i64 1)]=LV.AM [.xl Bf (Ds se fl sc),.v (.int .i64 (Hw se fl sc))]:=λhE=>by unfold Ds;rw [hE];rfl
  refine ⟨λc1=>bad ?_,λc1=>⟨λc2=>bad ?_,λc2=>⟨?_,λc3=>bad ?_,λc3=>?_⟩⟩⟩
  ·unfold Hw;rw [AE (by rw [c1];rfl)]
  ·unfold Hw;rw [AE (by rw [c2,Bool.true_or,SG])]
  all_goals have hv:=NB.1 AO
  ·omega
  all_goals have hd:0<=(fl.length:Int).tdiv se/\(fl.length:Int).tdiv se<=(fl.length:Int):=(by rw [HM A0];exact ⟨SB A0 A0,V3 _ A0⟩)
  all_goals (rw [AI (x:=(fl.length:Int).tdiv se)] at c3)
  ·unfold Hw;rw [AE (by rw [c3,SG,SG])]
  have hE:Hw se fl sc=0:=by unfold Hw;rw [AD (by rw [c1,c2,c3];decide)]
  have c2:0<=sc:=D8
  have c3:sc<(fl.length:Int).tdiv se:=My
  have hm:sc*se+se<=(fl.length:Int):=by
   have h1:(sc+1)*se<=(fl.length:Int).tdiv se*se:=S5 A0 A0
   have h2:(fl.length:Int).tdiv se*se<=(fl.length:Int):=by
    rw [HM A0];exact Int.ediv_mul_le _ A0
   have h3:(sc+1)*se=sc*se+se:=by rw [Int.add_mul,ZS]
   omega
  have hn:0<=sc*se:=I4 c2 A0
  have wm:A9 (sc*se)=sc*se:=AI
  have z1:B7 fl (List.replicate (fl.length:Int).toNat (0:Int))=fl:=aNf
  have z2:((B7 (((B7 fl (List.replicate (fl.length:Int).toNat (0:Int))).drop 0).take (fl.length:Int).toNat) (List.replicate (((fl.length:Int).toNat:Nat):Int).toNat (0:Int))).drop 0).take (((fl.length:Int).toNat:Nat):Int).toNat=fl:=by
   rw [z1,Bs,Bs];exact mY rfl
  have z5:B7 (((B7 fl (List.replicate (fl.length:Int).toNat (0:Int))).drop 0).take (fl.length:Int).toNat) (List.replicate (((fl.length:Int).toNat:Nat):Int).toNat (0:Int))=fl:=by
   grind
  have z6:((B7 fl (List.replicate (fl.length:Int).toNat (0:Int))).drop 0).take (fl.length:Int).toNat=fl:=by
   rw [z1,Bs,Wd rfl]
  have hL:lu (mV se fl sc):=⟨rfl,rfl,⟨rfl,by show (0:Int)<=se;omega,by show 0<=A9 (sc*se);omega,by show A9 (sc*se)+se<=(fl.length:Int);omega,hv.2.2.2.1⟩,z1,aMa⟩
  obtain ⟨s',_,q1,q2⟩:=axh _ hL
  have q2:(Wj (mV se fl sc)).b8=(List.range (se.toNat+1)).map (λk:Nat=>(se,Ee fl (A9 (sc*se)) k)):=q2
  rw [wm] at q2
  have q2:(Wj (mV se fl sc)).b8=Kf se fl sc:=q2
  refine ⟨?_,?_,?_,?_,?_,?_,?_,A8,?_,⟨hL,rfl,rfl⟩,A0,?_⟩
  iterate 8 · (first|omega|(rw [z6,CR];omega) |(rw [CR];omega) |(rw [z5];omega) |(rw [z1];omega) |(simp only [BX,Bh];decide))
  unfold Ds;rw [AE hE,hE,CJ,D3 (At _),q2];rfl
 ·cases h)
def as9:List LV->T LV:=λ_=> .no
def cC:VV 1000214 as9:=by
 exact xN
def BN (al:List Fl):Fl:=G4 al ((al.length:Int)-1)
def J4 (al:List Fl) (er a:Int) (d:List Int):Int:=if En (BN al).1 (BN al).2 a d=0 then er else En (BN al).1 (BN al).2 a d
def Kl (al:List Fl) (a:Int) (d:List Int):List Fl:=if En (BN al).1 (BN al).2 a d=0 then al++(Dg (BN al).1 (BN al).2 a d).drop 1 else al
def aQv:Uq:=λi=>if i=10 then some ([9,10,11],[]) else if i=11 then some ([9,10,11],[]) else none
structure GR where
 at_:Int
 d:List Int
 er:Int
 al:List Fl
def UG (s:GR):List LV:=[.own 0 0,s.at_,.xl (.int .u8) s.d]
def Yg (s:GR):List AB:=[⟨[.os 1 2 0 (s.al.length),s.er],324,.cl,false⟩,bV 36 Bf s.al]
structure Y2 where
 er:Int
 al:List Fl
def aby (s:Y2):LV:=.v (.tuple #[])
def adH (s:Y2):List AB:=[⟨[.os 2 2 0 (s.al.length),s.er],324,.cl,false⟩,⟨[],36,.dead,false⟩,bV 36 Bf s.al]
def aAd (s:GR):Int:=(A9 (((s.al.length:Nat):Int)-1))
def Vp (s:GR):Fl:=(s.al.getD (aAd s).toNat (Ty.dflt Bf))
def eV (s:GR):T Y2:=letI c:=En (Vp s).1 (Vp s).2 s.at_ s.d;letI e:=Ub (Vp s).1 (Vp s).2 s.at_ s.d;letI b:=(List.length e:Int);letI a:=((e.drop (1:Int).toNat).take (b.toNat-(1:Int).toNat));.ik (aAd s) (s.al.length) (.req (s.d.length<=1000000) (.br (!(c==(0:Int))) (.rl s.al (.ok (⟨c,s.al⟩))) (.req (0<=(1:Int)/\(1:Int)<=b/\b<=b) (.rb (s.al.length) (List.length a) 32 (.re (s.al.length+List.length a) (s.al++a) (.ok (⟨s.er,s.al++a⟩)))))))
def aAB (s:GR):Prop:=s.al≠ []/\s.al.length<=4000000/\s.d.length<=5000
def yU (s:GR):Y2:=⟨J4 s.al s.er s.at_ s.d,Kl s.al s.at_ s.d⟩
def U8:Cw GR Y2:=⟨UG,Yg,λv b=>⟨AK v 1,Az (.int .u8) v 2,Ae b 0 1,Ab Bf b 1⟩,aAB,[],[.ms 1 0],aby,adH,yU⟩
abbrev dt (s:GR):Prop:=aAB s/\UG s=UG s/\Yg s=Yg s
def WY:List Bd:=[ahr,fJ,cC]
def aQi:As:=kI WY (l0 WY)
def aSs:DI:=Dp prog AT WY 20 2
def anJ:ED prog AT aSs:=HW (gk WY)
def awN (s:GR):((EO prog AT WY aSs aQi).k 193 (UG s) (Yg s)).bind (λq=>G2 (Yg s).length [0] [.ms 1 0] .normal (q.1::UG s) q.2)=(eV s).mp (λs2=>⟨.normal,(UG s).length+1,[aby s2],adH s2,true⟩):=AZ
def av2 (s:GR) (hE:aAB s):(eV s).all (λq=>q=yU s):=by
 obtain ⟨h0,h1,h2⟩:=hE
 have hp:=Ms.2 h0
 have w:aAd s=(s.al.length:Int)-1:=AI
 have hY:Vp s=BN s.al:=by unfold Vp BN G4;rw [w];rfl
 unfold eV yU J4 Kl;rw [w,hY];refine ⟨A0,A0,A0,λc1=>?_,λc1=>?_⟩
 ·have c1:¬En (BN s.al).1 (BN s.al).2 s.at_ s.d=0:=AO
  rw [AD c1,AD c1];exact ⟨A8,rfl⟩
 ·have c1:En (BN s.al).1 (BN s.al).2 s.at_ s.d=0:=AO
  have hR:Ub (BN s.al).1 (BN s.al).2 s.at_ s.d=Dg (BN s.al).1 (BN s.al).2 s.at_ s.d:=AE c1
  have hl:(Dg (BN s.al).1 (BN s.al).2 s.at_ s.d).length=s.d.length+1:=by unfold Dg;simp
  rw [AE c1,AE c1,hR,hl];rw [D3 yF];refine ⟨A0,by simp only [DE,hl,E9];omega,by simp only [B0,E9],rfl⟩
def dC:DU prog AT 193 U8.m:=Cw.sound (D:=U8) (t:=eV) (gk WY) anJ aQi.h awN (λs hE=>⟨av2 s hE⟩)
def JB:Int->List (List Int)->Bool
 |_,[]=>true
 |left,d::ds=>if (decide ((d.length:Int)>65535) ||decide (7+(d.length:Int)>left))=true then false else JB (left-(7+(d.length:Int))) ds
def aQ2:∀(ds:List (List Int)) (left:Int),0<=left->JB left ds=(decide ((((ds.map (λd=>7+d.length)).sum:Nat):Int)<=left)&&ds.all (λd=>decide (d.length<=65535)))
 | [],left,h=>by simp [JB,h]
 | d::ds,left,h=>by
  simp only [JB,E8,List.sum_cons,IT];split
  ·rename_i hc
   rw [Eq.comm,Hz];intro hh;simp only [Cr,AU,AY] at hc hh;omega
  ·rename_i hc
   simp only [Cr,AY,not_or] at hc;rw [aQ2 ds _ A0,I0];simp only [AU,AY];exact ⟨λ⟨a,b⟩=>⟨A0,A0,b⟩,λ⟨a,b,c⟩=>⟨A0,c⟩⟩
structure Lg where
 r:Bool
 left:Int
 l:List (List Int)
 (n i:Int)
def aIN:=bN f196 0
def Uh (s:Lg):T (Rd Lg):=
 .br (decide (s.i<s.n)) (.ix s.i (s.l.length) (.br ((decide ((List.length (gx (e:=.sl (.int .u8)) s.l s.i):Int)>65535)) ||(decide ((A9 (7+(List.length (gx (e:=.sl (.int .u8)) s.l s.i):Int)))>s.left))) (.so (.ret) {s with r:=false}) (.nx {s with left:=A9 (s.left-(A9 (7+(List.length (gx (e:=.sl (.int .u8)) s.l s.i):Int)))),i:=A9 (s.i+1)}))) (.so (.exit 0) s)
def m6 (s:Lg):Prop:=s.i=0/\s.n<=5000/\s.n=(s.l.length:Int)/\Ho s.l/\0<=s.left/\s.left<=100000
def lZ (s:Lg):Prop:=0<=s.i/\s.i<=s.n/\s.n<=5000/\s.n=(s.l.length:Int)/\Ho s.l/\0<=s.left/\s.left<=100000
def yd (s:Lg):Nat:=(s.n-s.i).toNat
def aJo (x:Ex) (s s':Lg):Prop:=True
def ali:∀s,m6 s->lZ s:=by
 exact Zf
def ak1:Da lZ yd aJo Uh:=by
 intro s hI;unfold Uh;dsimp only [T.rd,T.rl,T.rv];obtain ⟨h0,h1,h2,h3,h4,h5,h6⟩:=hI;refine AG (λc1=>AG (λc2=>trivial) (λc2=>?_)) (λc1=>trivial)
 ·have c1:s.i<s.n:=AO
  have hk:=Wp h4 h0 A0
  have w:A9 (7+(List.length (gx (e:=.sl (.int .u8)) s.l s.i):Int))=7+(List.length (gx (e:=.sl (.int .u8)) s.l s.i):Int):=AI
  rw [w] at c2;simp only [Eu,Cl] at c2;rw [w,AI (x:=s.i+1),AI (x:=s.left-(7+(List.length (gx (e:=.sl (.int .u8)) s.l s.i):Int)))];exact ⟨⟨AP,AP,h2,h3,h4,AP,AP⟩,by simp only [yd];omega⟩
def S2:AS Lg:=⟨0,32,[4,5,10,11,12],[],λs=>[s.r,s.left,.xl (.sl (.int .u8)) s.l,s.n,s.i],λ_=>[],λv b=>⟨Eb v 0,AK v 1,Az (.sl (.int .u8)) v 2,AK v 3,AK v 4⟩,Uh,λs r=> {r with l:=s.l,n:=s.n},λs=>s,λ_ s=>s,[.ret,.exit 0],m6,lZ,yd⟩
abbrev aJC:=S2.run
abbrev aR6:=S2.Am
def aiU:Rq lZ Uh:=by
 intro s hI;refine ⟨λc1=>⟨?_,λ_=>trivial,λ_=>trivial⟩,λ_=>trivial⟩
 ·exact aL6
def aQT:List Bd:=[cC]
def ab7:S2.Ok:={}
def abg:S2.Pf (aJo):=⟨ali,λs h=>rfl,ak1,aiU⟩
def aue:SA 0 aIN S2:=s1 ab7 abg aQT kN
def azg:Rs m6 aR6 aJC (λs:Lg=>JB s.left (s.l.drop s.i.toNat)) (λx s' (v:Bool)=>(x=.ret/\s'.r=false/\v=false)\/(x=.exit 0/\v=true)):=DL ab7 abg (λs hI=>by
  show CM _ _ ((Uh s).rd s)
  unfold Uh;dsimp only [T.rd,T.rl];obtain ⟨h0,h1,h2,h3,h4,h5,h6⟩:=hI;refine AG (λc1=>AG (λc2=>?_) (λc2=>?_)) (λc1=>?_)
  ·have c1:s.i<s.n:=AO
   have hk:=Wp h4 h0 A0
   have w:A9 (7+(List.length (gx (e:=.sl (.int .u8)) s.l s.i):Int))=7+(List.length (gx (e:=.sl (.int .u8)) s.l s.i):Int):=AI
   rw [w] at c2;refine .inl ⟨rfl,rfl,?_⟩;rw [WN h0 A0,JB,AE c2]
  ·have c1:s.i<s.n:=AO
   have hk:=Wp h4 h0 A0
   have w:A9 (7+(List.length (gx (e:=.sl (.int .u8)) s.l s.i):Int))=7+(List.length (gx (e:=.sl (.int .u8)) s.l s.i):Int):=AI
   rw [w] at c2
   have c2':=c2
   simp only [Eu,Cl] at c2';rw [w,AI (x:=s.i+1),AI (x:=s.left-(7+(List.length (gx (e:=.sl (.int .u8)) s.l s.i):Int)))]
   show JB _ _=JB _ _
   rw [WN h0 A0,JB,AD Mz]
  ·have c1:s.n<=s.i:=AO
   refine .inr ⟨rfl,?_⟩;rw [EJ A0];rfl)
def aRq:List LV->T LV
 | [.xl (.sl (.int .u8)) ds,.v (.int .i64 sz)]=> .req ((ds.length<=5000/\Ho ds)/\5<=sz/\sz<=100000) (.ok (JB (sz-5) ds))
 |_=> .no
def aaJ:=vm (S:=aRq) func196 aQT kN (L:=(λi=>if i=3 then S2.lp else Af i)) (λb hb=>by
 rw [show B6 _=[aIN] by kernel_rfl] at hb
 simp only [B1,Bv,Bw] at hb;subst hb;exact aue) (λargs lv h=>by
 unfold aRq at h;split at h
 ·rename_i ds sz
  refine Aj (letI a:=(ds.length:Int);.req (S2.q (⟨false,(A9 (sz-5)),ds,a,0⟩:Lg)) (.br (Bo (aR6 (⟨false,(A9 (sz-5)),ds,a,0⟩:Lg)) (.ret)) (.ok (aJC (⟨false,(A9 (sz-5)),ds,a,0⟩:Lg)).r) (.ok true))) ?_;obtain ⟨⟨⟨h0,h1⟩,h2,h3⟩,rfl⟩:=h;rw [AI (x:=sz-5)]
  have hE:m6 ⟨false,sz-5,ds,(ds.length:Int),0⟩:=⟨rfl,aMZ,rfl,h1,by show 0<=sz-5;omega,by show sz-5<=100000;omega⟩
  have q:=azg _ hE
  refine ⟨⟨hE,rfl,rfl⟩,?_⟩
  have e:JB (sz-5) (ds.drop (0:Int).toNat)=JB (sz-5) ds:=rfl
  rw [<-e];rcases q with ⟨q1,q2,q3⟩ |⟨q1,q2⟩<;>rw [q1]
  ·refine ⟨λ_=>?_,λhc=>by cases hc⟩
   rw [q2];exact Ax (λz=>LV.v (.bool z)) q3.symm
  ·exact ⟨λhc=>(by cases hc),λ_=>Ax (λz=>LV.v (.bool z)) q2.symm⟩
 ·cases h)
structure Nk where
 n:Int
def UU (s:Nk):List LV:=[.v (.int .u32 s.n)]
def ZA (s:Nk):List AB:=[]
structure Xk where
 l:List Int
def acA (s:Xk):LV:=.os 0 1 0 (s.l.length)
def acu (s:Xk):List AB:=[bV 5 (.int .u8) s.l]
def vX (s:Nk):T Xk:=letI a:=IntKind.u8.wrap (s.n.fdiv (2^24));letI b:=IntKind.u8.wrap (s.n.fdiv (2^16));letI c:=IntKind.u8.wrap (s.n.fdiv (2^8));.re 4 [a,b,c,IntKind.u8.wrap s.n] (.ok (⟨[a,b,c,IntKind.u8.wrap s.n]⟩))
def zz (s:Nk):Prop:=True
def abQ (s:Nk):Xk:=⟨Cu s.n⟩
def UB:Cw Nk Xk:=⟨UU,ZA,λv b=>⟨AK v 0⟩,zz,[],[],acA,acu,abQ⟩
abbrev ai1 (s:Nk):Prop:=zz s/\UU s=UU s/\ZA s=ZA s
def dO:List Bd:=[aIv]
def aa4:DI:=Dp prog AT (dO) 20 2
def anV:ED prog AT aa4:=HW (gk dO)
def ay1 (s:Nk):((EO prog AT dO aa4 Fh).k 199 (UU s) (ZA s)).bind (λq=>G2 (ZA s).length [0] [] .normal (q.1::UU s) q.2)=(vX s).mp (λs2=>⟨.normal,(UU s).length+1,[acA s2],acu s2,true⟩):=AZ
def avF (s:Nk) (hE:zz s):(vX s).all (λq=>q=abQ s):=by
 exact ⟨A8,rfl⟩
def asn:DU prog AT 199 UB.m:=Cw.sound (D:=UB) (t:=vX) (gk dO) anV Po ay1 (λs hE=>⟨avF s hE⟩)
def tn:DU prog AT 199 (QB λa=>UB.m a []):=aDs asn
def afQ (m:List Fl) (z:Fl):BN (m++[z])=z:=by
 unfold BN G4
 simp
def pj {f:Nat->Fl}{n:Nat}(h:1<=n) (al:List Fl):BN (al++((List.range (n+1)).map f).drop 1)=f n:=by
 rw [OA,I2,E8,Ks,wF AA,<-CZ];exact afQ _ _
def qF {se:Int}{a b:List Int}(h:a.length=b.length):HB se a=HB se b:=by unfold HB;rw [h]
def ain {se:Int}{fl:List Int}(h:FG se fl=true) {i:Int}(h0:0<=i) (h1:i<(fl.length:Int).tdiv se):0<=i*se/\(i+1)*se=i*se+se/\i*se+se<=(fl.length:Int):=by
 obtain ⟨hf,h2,h3,h4,h5⟩:=MC.1 h
 have hm:=(NB.1 hf).2.2.2.2
 have e:=wK (fl.length:Int) se
 have h6:(i+1)*se=i*se+se:=AA
 have h7:(i+1)*se<=(fl.length:Int).tdiv se*se:=S5 A0 A0
 rw [Int.mul_comm] at e;exact ⟨I4 h0 A0,h6,A0⟩
structure NW where
 r:Bool
 l:List Int
 (n i qT aB7:Int)
 afa:List (List Int)
 tw:Int
 pM:Bool
 (er se:Int)
 fl:List Int
 al:List Fl
def uq (s:NW):T (Rd NW):=
 .br (decide (s.i<s.n)) (.ix s.i (s.l.length) (.br ((gi s.l s.i) !=255) (.rl s.al (.so (.ret) {s with r:=true})) (.rl s.al (.nx {s with i:=A9 (s.i+1)})))) (.rl s.al (.so (.exit 0) s))
def gF (s:NW):Prop:=s.i=0/\s.n<=4096/\s.n=(s.l.length:Int)
def gP (s:NW):Prop:=0<=s.i/\s.i<=s.n/\s.n<=4096/\s.n=(s.l.length:Int)
def rj (s:NW):Nat:=(s.n-s.i).toNat
def abp (x:Ex) (s s':NW):Prop:=True
def aip:∀s,gF s->gP s:=by
 exact jw
def auJ:Da gP rj abp uq:=by
 intro s hI;obtain ⟨h0,h1,h2,h3⟩:=hI;refine AG (λc1=>AG (λc2=>trivial) (λc2=>?_)) (λc1=>trivial)
 have c1:s.i<s.n:=AA
 rw [AI (x:=s.i+1)];exact ⟨⟨AA,AA,h2,h3⟩,by simp only [rj];omega⟩
def YX:AS NW:=⟨4,26,[3,17,18,19],[],λs=>[s.r,.xl (.int .u8) s.l,s.n,s.i],λs=>[⟨[s.qT,.v (.int .u32 s.aB7),.xl (.sl (.int .u8)) s.afa,s.tw,s.pM],247,.cl,false⟩,⟨[.os 3 2 0 (s.al.length),s.er],324,.cl,false⟩,⟨[s.se,.xl (.int .u8) s.fl],36,.cl,false⟩,bV 36 Bf s.al],λv b=>⟨Eb v 0,Az (.int .u8) v 1,AK v 2,AK v 3,Ae b 0 0,Ae b 0 1,AF (.sl (.int .u8)) b 0 2,Ae b 0 3,Kg b 0 4,Ae b 1 1,Ae b 2 0,AF (.int .u8) b 2 1,Ab Bf b 3⟩,uq,λs r=> {s with r:=r.r,i:=r.i},λs=>s,λ_ s=>s,[.ret,.exit 0],gF,gP,rj⟩
abbrev pX:=YX.run
abbrev o9:=YX.Am
def WX:List Bd:=[cy,vF,aaJ,fJ,aaM,cC]
def ayJ:As:=Hu WX (l0 WX) [⟨193,U8.m,dC⟩,⟨199,QB λa=>UB.m a [],tn⟩]
def avz:Rq gP uq:=by
 exact aKv
def aOy:YX.Ok:={}
def aOY:YX.Pf (abp):=⟨aip,λs h=>rfl,auJ,avz⟩
def pT:=s2 (b:=bN f197 0) aOy aOY WX ayJ
def aoI:Rs gF o9 pX (λs:NW=>(s.l.drop s.i.toNat).all (λb=>b==255)) (λx s' (v:Bool)=>(x=.ret/\s'.r=true/\v=false)\/(x=.exit 0/\v=true)):=DL aOy aOY (λs hI=>by
  obtain ⟨h0,h1,h2,h3⟩:=hI;refine AG (λc1=>AG (λc2=>?_) (λc2=>?_)) (λc1=>?_)
  ·have c1:s.i<s.n:=AA
   refine .inl ⟨rfl,rfl,?_⟩
   have:(gi s.l s.i==255)=false:=AA
   rw [(gi_step h0 A0).1,IT,this];rfl
  ·have c1:s.i<s.n:=AA
   have:(gi s.l s.i==255)=true:=AA
   rw [AI (x:=s.i+1)]
   show List.all _ _=List.all _ _
   rw [(gi_step h0 A0).1,IT,this,Dj]
  ·have c1:s.n<=s.i:=AA
   refine .inr ⟨rfl,?_⟩;rw [EJ A0];rfl)
structure GZ where
 keep:List (List Int)
 (half other Df i Wq Vh:Int)
 mv:List (List Int)
 UO:Int
 Il:Bool
 (er se:Int)
 fl:List Int
 al:List Fl
def aIJ:=bN f158 0
def IZ (s:GZ):NW:=(⟨false,(s.fl.drop (A9 (s.i*s.se)).toNat).take ((A9 ((A9 (s.i+1))*s.se)).toNat-(A9 (s.i*s.se)).toNat),(List.length ((s.fl.drop (A9 (s.i*s.se)).toNat).take ((A9 ((A9 (s.i+1))*s.se)).toNat-(A9 (s.i*s.se)).toNat)):Int),0,s.Wq,s.Vh,s.mv,s.UO,s.Il,s.er,s.se,s.fl,s.al⟩:NW)
def G5 (s:GZ):Int:=(A9 ((A9 (s.other+1))*s.Df))
def reI (s:GZ):Int:=(A9 (((s.al.length:Nat):Int)-1))
def Be (s:GZ):Fl:=(s.al.getD (reI s).toNat (Ty.dflt Bf))
def Ug (s:GZ):T (Rd GZ):=
 .br (decide (s.i<(G5 s))) (.req (0<=(A9 (s.i*s.se))/\(A9 (s.i*s.se))<=(A9 ((A9 (s.i+1))*s.se))/\(A9 ((A9 (s.i+1))*s.se))<=(s.fl.length:Int)) (.rl s.al (.req (YX.q (IZ s)) (.br (Bo (o9 (IZ s)) (.ret)) (.br (pX (IZ s)).r (.ik (reI s) (s.al.length) (.br (!((Hw (Be s).1 (Be s).2 s.i)==(0:Int))) (.rl s.al (.nx {s with i:=A9 (s.i+1),er:=Hw (Be s).1 (Be s).2 s.i})) (.req (0<=(1:Int)/\(1:Int)<=(List.length (Ds (Be s).1 (Be s).2 s.i):Int)/\(List.length (Ds (Be s).1 (Be s).2 s.i):Int)<=(List.length (Ds (Be s).1 (Be s).2 s.i):Int)) (.rb (s.al.length) (List.length (((Ds (Be s).1 (Be s).2 s.i).drop (1:Int).toNat).take ((List.length (Ds (Be s).1 (Be s).2 s.i):Int).toNat-(1:Int).toNat))) 32 (.re (s.al.length+List.length (((Ds (Be s).1 (Be s).2 s.i).drop (1:Int).toNat).take ((List.length (Ds (Be s).1 (Be s).2 s.i):Int).toNat-(1:Int).toNat))) (s.al++(((Ds (Be s).1 (Be s).2 s.i).drop (1:Int).toNat).take ((List.length (Ds (Be s).1 (Be s).2 s.i):Int).toNat-(1:Int).toNat))) (.nx {s with i:=A9 (s.i+1),al:=s.al++(((Ds (Be s).1 (Be s).2 s.i).drop (1:Int).toNat).take ((List.length (Ds (Be s).1 (Be s).2 s.i):Int).toNat-(1:Int).toNat))})))))) (.rl s.al (.nx {s with i:=A9 (s.i+1)}))) (.br false (.ik (reI s) (s.al.length) (.br (!((Hw (Be s).1 (Be s).2 s.i)==(0:Int))) (.rl s.al (.nx {s with i:=A9 (s.i+1),er:=Hw (Be s).1 (Be s).2 s.i})) (.req (0<=(1:Int)/\(1:Int)<=(List.length (Ds (Be s).1 (Be s).2 s.i):Int)/\(List.length (Ds (Be s).1 (Be s).2 s.i):Int)<=(List.length (Ds (Be s).1 (Be s).2 s.i):Int)) (.rb (s.al.length) (List.length (((Ds (Be s).1 (Be s).2 s.i).drop (1:Int).toNat).take ((List.length (Ds (Be s).1 (Be s).2 s.i):Int).toNat-(1:Int).toNat))) 32 (.re (s.al.length+List.length (((Ds (Be s).1 (Be s).2 s.i).drop (1:Int).toNat).take ((List.length (Ds (Be s).1 (Be s).2 s.i):Int).toNat-(1:Int).toNat))) (s.al++(((Ds (Be s).1 (Be s).2 s.i).drop (1:Int).toNat).take ((List.length (Ds (Be s).1 (Be s).2 s.i):Int).toNat-(1:Int).toNat))) (.nx {s with i:=A9 (s.i+1),al:=s.al++(((Ds (Be s).1 (Be s).2 s.i).drop (1:Int).toNat).take ((List.length (Ds (Be s).1 (Be s).2 s.i):Int).toNat-(1:Int).toNat))})))))) (.rl s.al (.nx {s with i:=A9 (s.i+1)}))))))) (.rl s.al (.so (.exit 0) s))
def KR (s:GZ):Prop:=FG s.se s.fl=true/\(s.other=0\/s.other=1)/\s.Df*2=(s.fl.length:Int).tdiv s.se
def ae (s:GZ):Prop:=s.i=s.other*s.Df/\KR s/\s.er=0/\s.al.length=1/\(BN s.al).1=s.se/\(BN s.al).2.length=s.fl.length
def Mm (s:GZ):Prop:=(s.other*s.Df<=s.i/\s.i<=(s.other+1)*s.Df)/\KR s/\s.er=0/\(s.al≠ []/\(s.al.length:Int)<=1+600*s.i)/\(BN s.al).1=s.se/\(BN s.al).2.length=s.fl.length
def XW (s:GZ):Nat:=(G5 s-s.i).toNat
def vw (x:Ex) (s s':GZ):Prop:=x=.exit 0/\s'.er=0/\(s'.al≠ []/\(s'.al.length:Int)<=3000000)/\(BN s'.al).1=s'.se/\(BN s'.al).2.length=s'.fl.length
def am3:∀s,ae s->Mm s:=by
 rintro s ⟨h0,⟨h1,h2,h3⟩,h4,h5,h6,h7⟩
 have hj:=MC.1 h1
 have hs0:0<=s.Df:=by have:0<=(s.fl.length:Int).tdiv s.se:=(by rw [HM A0];exact SB A0 A0);omega
 have hz0:(s.other+1)*s.Df=s.other*s.Df+s.Df:=AA
 have ho:0<=s.other*s.Df:=AA
 exact ⟨⟨A0,A0⟩,⟨h1,h2,h3⟩,h4,⟨AA,A0⟩,h6,h7⟩
def Ur (s:GZ) (hI:Mm s) (c1:decide (s.i<G5 s)=true):reI s=(s.al.length:Int)-1/\Be s=BN s.al/\A9 (s.i*s.se)=s.i*s.se/\A9 (A9 (s.i+1)*s.se)=s.i*s.se+s.se/\A9 (s.i+1)=s.i+1/\
  Hw (BN s.al).1 (BN s.al).2 s.i=0/\Ds (BN s.al).1 (BN s.al).2 s.i=Kf (BN s.al).1 (BN s.al).2 s.i/\(Kf (BN s.al).1 (BN s.al).2 s.i).length=s.se.toNat+1/\0<=s.i*s.se/\s.i*s.se+s.se<=(s.fl.length:Int)/\1<=s.se/\s.se<=512/\s.i<G5 s/\0<=s.i/\s.i<=4096/\s.fl.length<=4096/\G5 s=(s.other+1)*s.Df:=by
 obtain ⟨h0,⟨h1,h2,h3⟩,h4,h5,h6,h7⟩:=hI
 have hj:=MC.1 h1
 have hf:=NB.1 hj.1
 have hq:(s.fl.length:Int).tdiv s.se<=(s.fl.length:Int):=aMy
 have hp:=Ms.2 h5.1
 have hz0:(s.other+1)*s.Df=s.other*s.Df+s.Df:=by rw [Int.add_mul,ZS]
 have ho:s.other*s.Df=0\/s.other*s.Df=s.Df:=by rcases h2 with e|e<;>rw [e]<;>simp
 have hz:G5 s=s.other*s.Df+s.Df:=by unfold G5;rw [AI (x:=s.other+1),hz0];exact AI
 have c1:s.i<G5 s:=De c1
 have hi:reI s=(s.al.length:Int)-1:=AI
 have hk:=ain h1 (i:=s.i) A0 A0
 have hfl:HB s.se (BN s.al).2=true:=by rw [qF h7];exact hj.1
 have hE:Hw (BN s.al).1 (BN s.al).2 s.i=0:=by unfold Hw;rw [h6,hfl,h7,AD AA]
 refine ⟨hi,by unfold Be BN G4;rw [hi];rfl,AI,by rw [AI (x:=s.i+1),hk.2.1];exact AI,AI,hE,AE hE,by unfold Kf;rw [h6];simp,A0,A0,A0,A0,c1,A0,A0,A0,A0⟩
def abL (s:GZ) (hI:Mm s) (c1:decide (s.i<G5 s)=true):gF (IZ s):=by
 obtain ⟨hi,hy,w1,w2,wi,hE,hR,hl,n1,n2,n3,n4,n5,n6,n7,n8,n9⟩:=Ur s hI c1;refine ⟨rfl,?_,rfl⟩
 show ((List.length (List.take _ (List.drop _ s.fl)):Nat):Int)<=4096
 simp only [G9,DE];omega
def am1 (s:GZ) (hI:Mm s):(s.al.length:Int)<=3000000:=by
 obtain ⟨h0,⟨h1,h2,h3⟩,h4,h5,h6,h7⟩:=hI
 have hj:=MC.1 h1
 have hq:(s.fl.length:Int).tdiv s.se<=(s.fl.length:Int):=aMy
 have hz0:(s.other+1)*s.Df=s.other*s.Df+s.Df:=AA
 have ho:s.other*s.Df=0\/s.other*s.Df=s.Df:=AA
 omega
def aJM (s:GZ) (hI:Mm s) (c1:decide (s.i<G5 s)=true):BN (s.al++(Kf (BN s.al).1 (BN s.al).2 s.i).drop 1)=(s.se,Ee (BN s.al).2 (s.i*s.se) s.se.toNat):=by
 obtain ⟨hi,hy,w1,w2,wi,hE,hR,hl,n1,n2,n3,n4,n5,n6,n7,n8,n9⟩:=Ur s hI c1;rw [hI.2.2.2.2.1];exact pj (f:=λk=>(s.se,Ee (BN s.al).2 (s.i*s.se) k)) (n:=s.se.toNat) A0 s.al
def aiA:Da Mm XW vw Ug:=by
 intro s hI;unfold Ug;dsimp only [T.rd,T.rl,T.rv];refine AG (λc1=>?_) (λc1=>⟨rfl,hI.2.2.1,⟨hI.2.2.2.1.1,am1 s hI⟩,hI.2.2.2.2.1,hI.2.2.2.2.2⟩)
 have hL:=aJM s hI c1
 obtain ⟨hi,hy,w1,w2,wi,hE,hR,hl,n1,n2,n3,n4,n5,n6,n7,n8,n9⟩:=Ur s hI c1;obtain ⟨h0,hK,h4,h5,h6,h7⟩:=hI
 have st:∀al:List Fl,al≠ []->(al.length:Int)<=601+600*s.i->(BN al).1=s.se->(BN al).2.length=s.fl.length->Mm {s with i:=s.i+1,al:=al}/\XW {s with i:=s.i+1,al:=al}<XW s:=λal a1 a2 a3 a4=>
  ⟨⟨⟨AP,AP⟩,hK,h4,⟨a1,AP⟩,a3,a4⟩,by simp only [XW];show (G5 s-(s.i+1)).toNat<_;omega⟩
 rw [wi];refine AG (λc2=>AG (λc3=>AG (λc4=>?_) (λc4=>?_)) (λc3=>?_)) (λc2=>?_)
 ·grind
 ·rw [hy,hR,D3 yF]
  refine st _ (by simp [h5.1]) AA ?_ ?_
  ·grind
  ·show (BN (s.al++List.drop 1 _)).2.length=_;rw [hL,bY];exact h7
 all_goals exact st s.al h5.1 A0 h6 h7
def PN:AS GZ:=⟨0,97,[1,6,8,9,10,11,12,13],[],λs=>[.xl (.sl (.int .u8)) s.keep,.own 0 0,s.half,.own 1 0,s.other,.fn 197 [.own 2 0],s.Df,s.i],λs=>[⟨[s.Wq,.v (.int .u32 s.Vh),.xl (.sl (.int .u8)) s.mv,s.UO,s.Il],247,.cl,false⟩,⟨[.os 3 2 0 (s.al.length),s.er],324,.cl,false⟩,⟨[s.se,.xl (.int .u8) s.fl],36,.cl,false⟩,bV 36 Bf s.al],λv b=>⟨Az (.sl (.int .u8)) v 0,AK v 2,AK v 4,AK v 6,AK v 7,Ae b 0 0,Ae b 0 1,AF (.sl (.int .u8)) b 0 2,Ae b 0 3,Kg b 0 4,Ae b 1 1,Ae b 2 0,AF (.int .u8) b 2 1,Ab Bf b 3⟩,Ug,λs r=> {r with keep:=s.keep,half:=s.half,other:=s.other,Df:=s.Df,Wq:=s.Wq,Vh:=s.Vh,mv:=s.mv,UO:=s.UO,Il:=s.Il,se:=s.se,fl:=s.fl},λs=>s,λ_ s=>s,[.exit 0],ae,Mm,XW⟩
abbrev Ej:=PN.run
abbrev aR3:=PN.Am
def aiM:Rq Mm Ug:=by
 intro s hI;refine ⟨λc1=>⟨?_,A8,?_,λc2=>⟨λc3=>⟨?_,?_,λc4=>⟨A8,trivial⟩,λc4=>⟨?_,?_,?_,trivial⟩⟩,λc3=>⟨A8,trivial⟩⟩,λc2=>⟨λc5=>⟨?_,?_,λc6=>⟨A8,trivial⟩,λc6=>⟨?_,?_,?_,trivial⟩⟩,λc5=>⟨A8,trivial⟩⟩⟩,λc1=>⟨A8,trivial⟩⟩
 ·(have hI':=hI.2.2.2.1;have hp:=Ms.2 hI'.1;obtain ⟨hi,hy,w1,w2,wi,hE,hR,hl,n1,n2,n3,n4,n5,n6,n7,n8,n9⟩:=Ur s hI c1;(first|(rw [w1,w2];omega) |(rw [hi];omega) |(rw [hy,hR,hl];omega) |(rw [hy,hR,D3 AJ,DE,hl];omega) |(simp only [B0,E9])))
 ·exact ⟨abL s hI c1,rfl,rfl⟩
 iterate 10 · (have hI':=hI.2.2.2.1;have hp:=Ms.2 hI'.1;obtain ⟨hi,hy,w1,w2,wi,hE,hR,hl,n1,n2,n3,n4,n5,n6,n7,n8,n9⟩:=Ur s hI c1;(first|(rw [w1,w2];omega) |(rw [hi];omega) |(rw [hy,hR,hl];omega) |(rw [hy,hR,D3 AJ,DE,hl];omega) |(simp only [B0,E9])))
def az6:As:=Hu WX (la 2 func197 pT (l0 WX)) [⟨193,U8.m,dC⟩,⟨199,QB λa=>UB.m a [],tn⟩]
def yZ:PN.Ok:={}
def yT:PN.Pf (vw):=⟨am3,λs h=>rfl,aiA,aiM⟩
def auY:SA 0 aIJ PN:=s1 yZ yT WX az6
def ax6:Fi ae Mm vw aR3 Ej:=AS.fin yZ yT
def ax5:Rs ae aR3 Ej (λs:GZ=>FV s.se s.fl s.i (G5 s-s.i).toNat (s.al,(BN s.al).2)) (λx s' (v:List Fl×List Int)=>x=.exit 0/\(s'.al,(BN s'.al).2)=v):=DL yZ yT (λs hI=>by
  show CM _ _ ((Ug s).rd s)
  unfold Ug;dsimp only [T.rd,T.rl];refine AG (λc1=>?_) (λc1=>?_)
  ·have hL:=aJM s hI c1
   have q:(o9 (IZ s)=.ret/\(pX (IZ s)).r=true/\(((IZ s)).l.drop ((IZ s)).i.toNat).all (λb=>b==255)=false)\/(o9 (IZ s)=.exit 0/\(((IZ s)).l.drop ((IZ s)).i.toNat).all (λb=>b==255)=true):=aoI _ (abL s hI c1)
   obtain ⟨hi,hy,w1,w2,wi,hE,hR,hl,n1,n2,n3,n4,n5,n6,n7,n8,n9⟩:=Ur s hI c1
   have e:((IZ s)).l.drop ((IZ s)).i.toNat=(s.fl.drop (s.i*s.se).toNat).take s.se.toNat:=by
    show List.drop 0 (List.take _ (List.drop _ s.fl))=_
    grind
   have hw:isW s.se s.fl s.i=!((((IZ s)).l.drop ((IZ s)).i.toNat).all (λb=>b==255)):=by unfold isW;rw [e]
   have hn:(G5 s-s.i).toNat=(G5 s-(s.i+1)).toNat+1:=A0
   have h6:=hI.2.2.2.2.1
   rw [hn,wi];simp only [FV];refine AG (λc2=>AG (λc3=>AG (λc4=>?_) (λc4=>?_)) (λc3=>?_)) (λc2=>?_)
   ·grind
   ·rcases q with ⟨_,_,q3⟩ |⟨q1,_⟩
    ·rw [hy,hR,D3 AJ,hw,q3]
     show FV s.se s.fl (s.i+1) (G5 s-(s.i+1)).toNat (s.al++List.drop 1 _,(BN (s.al++List.drop 1 _)).2)=_
     rw [hL,h6];rfl
    ·rw [WL c2] at q1;cases q1
   ·rcases q with ⟨_,q2,_⟩ |⟨q1,_⟩
    ·rw [q2] at c3;cases c3
    ·rw [WL c2] at q1;cases q1
   ·rcases q with ⟨q1,_,_⟩ |⟨_,q2⟩
    ·rw [q1] at c2;simp [Bo] at c2
    ·rw [hw,q2]
     rfl
  ·have c1:G5 s<=s.i:=AO
   rw [show (G5 s-s.i).toNat=0 by omega]
   exact ⟨rfl,rfl⟩)
structure Mk where
 (half other:Int)
 l:List (List Int)
 (n i er:Int)
 bytes:List Int
 al:List Fl
def aIK:=bN f158 1
def aAZ (s:Mk):T (Rd Mk):=
 .br (decide (s.i<s.n)) (.ix s.i (s.l.length) (.req (List.length (gx (e:=.sl (.int .u8)) s.l s.i)<=70000) (.rb (s.bytes.length) (List.length (Bb (gx (e:=.sl (.int .u8)) s.l s.i))) 1 (.re (s.bytes.length+List.length (Bb (gx (e:=.sl (.int .u8)) s.l s.i))) (s.bytes++(Bb (gx (e:=.sl (.int .u8)) s.l s.i))) (.rl s.al (.nx {s with i:=A9 (s.i+1),bytes:=s.bytes++(Bb (gx (e:=.sl (.int .u8)) s.l s.i))})))))) (.rl s.bytes (.rl s.al (.so (.exit 2) s)))
def ln (s:Mk):Prop:=s.i=0/\s.n<=5000/\s.n=(s.l.length:Int)/\Ho s.l/\(s.bytes.length:Int)<=4+70100*s.i
def lP (s:Mk):Prop:=0<=s.i/\s.i<=s.n/\s.n<=5000/\s.n=(s.l.length:Int)/\Ho s.l/\(s.bytes.length:Int)<=4+70100*s.i
def ym (s:Mk):Nat:=(s.n-s.i).toNat
def aJt (x:Ex) (s s':Mk):Prop:=True
def am4:∀s,ln s->lP s:=by
 exact Zf
def ajU:Da lP ym aJt aAZ:=by
 intro s hI;obtain ⟨h0,h1,h2,h3,h4,h5⟩:=hI;refine AG (λc1=>?_) (λc1=>trivial)
 ·have c1:s.i<s.n:=AA
  have hk:=Wp h4 h0 A0
  have hp:=M5 (gx (e:=.sl (.int .u8)) s.l s.i)
  rw [AI (x:=s.i+1)];exact ⟨⟨AA,AA,h2,h3,h4,AA⟩,by simp only [ym];omega⟩
def PO:AS Mk:=⟨0,97,[8,9,10,14,69,70,71],[],λs=>[s.half,.own 0 0,s.other,.os 1 1 0 (s.bytes.length),.xl (.sl (.int .u8)) s.l,s.n,s.i],λs=>[⟨[.os 2 2 0 (s.al.length),s.er],324,.cl,false⟩,bV 5 (.int .u8) s.bytes,bV 36 Bf s.al],λv b=>⟨AK v 0,AK v 2,Az (.sl (.int .u8)) v 4,AK v 5,AK v 6,Ae b 0 1,Ab (.int .u8) b 1,Ab Bf b 2⟩,aAZ,λs r=> {s with i:=r.i,bytes:=r.bytes},λs=>s,λ_ s=>s,[.exit 2],ln,lP,ym⟩
abbrev NH:=PO.run
abbrev azk:=PO.Am
def aiN:Rq lP aAZ:=by
 intro s hI;refine ⟨λc1=>⟨?_,?_,?_,?_,A8,trivial⟩,λc1=>⟨A8,A8,trivial⟩⟩
 all_goals ((obtain ⟨h0,h1,h2,h3,h4,h5⟩:=hI;have c1:s.i<s.n:=AA;have hk:=Wp h4 h0 A0;have hp:=M5 (gx (e:=.sl (.int .u8)) s.l s.i);(first|omega|(simp only [CJ,B0];omega) |simp only [CJ,B0,E9])))
def X6:List Bd:=[cy,vF,aaJ,fJ,aaM,cC]
def tC:As:=Hu X6 (la 2 func197 pT (l0 X6)) [⟨193,U8.m,dC⟩,⟨199,QB λa=>UB.m a [],tn⟩]
def aaz:PO.Ok:={}
def abX:PO.Pf (aJt):=⟨am4,λs h=>rfl,ajU,aiN⟩
def auZ:SA 0 aIK PO:=s1 aaz abX X6 tC
def ax7:Rs ln azk NH (λs:Mk=>s.bytes++BI (s.l.drop s.i.toNat)) (λx s' (v:List Int)=>x=.exit 2/\s'.bytes=v):=DL aaz abX (λs hI=>by
  obtain ⟨h0,h1,h2,h3,h4,h5⟩:=hI;refine AG (λc1=>?_) (λc1=>?_)
  ·have c1:s.i<s.n:=AA
   rw [AI (x:=s.i+1)]
   show _++_++_=_++_
   rw [WN h0 A0];simp only [BI,je,CZ,CJ]
  ·have c1:s.n<=s.i:=AA
   refine ⟨rfl,?_⟩;rw [EJ A0]
   simp [BI])
def aQt:Uq:=λi=>if i=21 then some ([8,9,10,14],[.pb 14 (.int .u8)]) else if i=22 then some ([8,9,10],[]) else none
def aSg:List LV->T LV
 | [.agg [.v (.int .i64 se),.xl (.int .u8) fl],.xl (.sl (.int .u8)) ds]=> .req (BE fl/\ds.length<=5000/\Ho ds) (.ok (.AM [.xl Bf (Fo se fl ds),Fp se fl ds]))
 |_=> .no
def aio {se:Int}{fl:List Int}(h:FG se fl=true):letI a:=((fl.length / 2:Nat):Int);a.tdiv se*2=(fl.length:Int).tdiv se/\0<=a.tdiv se/\a.tdiv se<=2048:=by
 obtain ⟨hf,h2,h3,h4,h5⟩:=MC.1 h
 have e:=wK (fl.length:Int) se
 rw [(NB.1 hf).2.2.2.2,Int.add_zero] at e
 have e2:=wK ((fl.length:Int).tdiv se) 2
 have e3:((fl.length / 2:Nat):Int)=se*((fl.length:Int).tdiv se).tdiv 2:=by
  have:se*(fl.length:Int).tdiv se=2*(se*((fl.length:Int).tdiv se).tdiv 2):=AA
  omega
 have e4:((fl.length / 2:Nat):Int).tdiv se=((fl.length:Int).tdiv se).tdiv 2:=by rw [e3];exact Int.mul_tdiv_cancel_left _ A0
 have hq:0<=((fl.length / 2:Nat):Int).tdiv se/\((fl.length / 2:Nat):Int).tdiv se<=((fl.length / 2:Nat):Int):=by
  rw [HM A0];exact ⟨SB A0 A0,V3 _ A0⟩
 omega
def awH (l:List Int):0<=Gb l/\Gb l<4294967296:=by
 unfold Gb nm4 DO;rw [Sj];omega
def aQs (fl:List Int):Ak fl=0\/Ak fl=1:=aMY
def F4 (se:Int) (fl:List Int) (ds:List (List Int)):GZ:=(⟨ds,A9 ((fl.length:Int).tdiv 2),A9 (1-(EP se fl)),A9 ((A9 ((fl.length:Int).tdiv 2)).tdiv se),A9 ((A9 (1-(EP se fl)))*(A9 ((A9 ((fl.length:Int).tdiv 2)).tdiv se))),EP se fl,ID se fl,El se fl,Gu se fl,KU se fl,0,se,fl,[(se,((([]:List Int)++fl).drop 0).take (0+fl.length))]⟩:GZ)
def M9 (se:Int) (fl:List Int) (ds:List (List Int)):Mk:=(⟨A9 ((fl.length:Int).tdiv 2),A9 (1-(EP se fl)),ds,(ds.length:Int),0,(Ej (F4 se fl ds)).er,Cu (IntKind.u32.wrap ((ID se fl)+1)),(Ej (F4 se fl ds)).al⟩:Mk)
def agd (se:Int) (fl:List Int) (ds:List (List Int)):GR:=(⟨A9 ((A9 ((A9 (1-(EP se fl)))*(A9 ((fl.length:Int).tdiv 2))))+1),((NH (M9 se fl ds)).bytes.drop 0).take (List.length (NH (M9 se fl ds)).bytes),(Ej (F4 se fl ds)).er,(Ej (F4 se fl ds)).al⟩:GR)
def agc (se:Int) (fl:List Int) (ds:List (List Int)):GR:=(⟨A9 ((A9 (1-(EP se fl)))*(A9 ((fl.length:Int).tdiv 2))),[(80:Int)],J4 (Ej (F4 se fl ds)).al (Ej (F4 se fl ds)).er (A9 ((A9 ((A9 (1-(EP se fl)))*(A9 ((fl.length:Int).tdiv 2))))+1)) (((NH (M9 se fl ds)).bytes.drop 0).take (List.length (NH (M9 se fl ds)).bytes)),Kl (Ej (F4 se fl ds)).al (A9 ((A9 ((A9 (1-(EP se fl)))*(A9 ((fl.length:Int).tdiv 2))))+1)) (((NH (M9 se fl ds)).bytes.drop 0).take (List.length (NH (M9 se fl ds)).bytes))⟩:GR)
def rwX (se:Int) (fl:List Int) (ds:List (List Int)):Int:=(A9 ((A9 (1-(EP se fl)))*(A9 ((fl.length:Int).tdiv 2))))
def rwY (se:Int) (fl:List Int) (ds:List (List Int)):List Int:=(((NH (M9 se fl ds)).bytes.drop 0).take (List.length (NH (M9 se fl ds)).bytes))
def Mn (se:Int) (fl:List Int) (ds:List (List Int)):List Fl:=(Kl (Ej (F4 se fl ds)).al (A9 ((rwX se fl ds)+1)) (rwY se fl ds))
def rwW (se:Int) (fl:List Int) (ds:List (List Int)):Int:=(J4 (Ej (F4 se fl ds)).al (Ej (F4 se fl ds)).er (A9 ((rwX se fl ds)+1)) (rwY se fl ds))
def rwA (se:Int) (fl:List Int) (ds:List (List Int)):List Fl:=(Kl (Mn se fl ds) (rwX se fl ds) ([(80:Int)]))
def awO (se:Int) (fl:List Int) (ds:List (List Int)):letI b:=(A9 ((fl.length:Int).tdiv 2));letI c:=F4 se fl ds;letI d:=IntKind.u32.wrap ((ID se fl)+1);letI e:=rwA se fl ds;letI f:=Mn se fl ds;letI a:=(J4 f (rwW se fl ds) (rwX se fl ds) ([(80:Int)]));fh prog AT (X6) tC (λi=>if i=11 then PN.lp else if i=17 then PO.lp else Af i) aQt f158 [.agg [se,.xl (.int .u8) fl],.xl (.sl (.int .u8)) ds]=.req (BE fl) (.br ((Bl se fl) !=0) (.ok (.AM [.xl Bf ([]:List Fl),Bl se fl])) (.req ((2:Int)≠0) (.req ((ds.length<=5000/\Ho ds)/\5<=b/\b<=100000) (.br ((!(JB (b-5) ds)) ||((ID se fl)==4294967295)) (.ok (.AM [.xl Bf ([]:List Fl),(10:Int)])) (.ra 0 (List.length ([]:List Int)) (0+fl.length) 1 (.req (0+(0+fl.length)<=List.length (([]:List Int)++fl)) (.rv (.v (.int .i64 (EP se fl))) (.req (se≠0) (.re 1 [(se,((([]:List Int)++fl).drop 0).take (0+fl.length))] (.req (PN.q c) (.req (ai1 (⟨d⟩:Nk)) (.rl (Cu d) (.rl (Ej c).al (.req (PO.q (M9 se fl ds)) (.rz (NH (M9 se fl ds)).bytes (.rl (Ej c).al (.rl (Ej c).al (.req (dt (agd se fl ds)) (.rl f (.rl f (.req (dt (agc se fl ds)) (.br (!(a==(0:Int))) (.ok (.AM [.xl Bf ([]:List Fl),a])) (.rz e (.ok (.AM [.xl Bf ((e.drop 0).take (List.length e)),(0:Int)]))))))))))))))))))))))))):=AZ
def aak:VV 158 (uS f158 aSg):=aCN (cs:=aQt) func158 rfl (gk X6) tC.h (L:=(λi=>if i=11 then PN.lp else if i=17 then PO.lp else Af i)) (λb hb=>by
 rw [show B6 _=[aIJ,aIK] by kernel_rfl] at hb
 simp only [B1,Bv,Bw] at hb;rcases hb with rfl|rfl
 ·exact auY
 ·exact auZ) (λargs lv h=>by
 unfold aSg at h;split at h
 ·simp only [canL,canX]
  rw [awO];rename_i se fl ds;obtain ⟨⟨hb,hn,hk⟩,rfl⟩:=h
  have bad:∀e:Int,e≠0->Fp se fl ds=e->LV.AM [.xl Bf ([]:List Fl),.v (.int .i64 e)]=LV.AM [.xl Bf (Fo se fl ds),.v (.int .i64 (Fp se fl ds))]:=λe h0 h1=>by unfold Fo;rw [h1,AD h0]
  refine ⟨hb,λc1=>?_,λc1=>?_⟩
  ·have c1:Bl se fl≠0:=AO
   exact bad _ c1 (by unfold Fp;rw [AE c1])
  have hE:Bl se fl=0:=AO
  have hj:FG se fl=true:=by
   cases e:FG se fl
   ·unfold Bl at hE;rw [AE e] at hE;cases hE
   ·rfl
  have hq:=MC.1 hj
  have hh:A9 ((fl.length:Int).tdiv 2)=((fl.length / 2:Nat):Int):=by
   exact aLi
  have hA:EP se fl=Ak fl:=aNg
  have hG:ID se fl=Iv fl (Ak fl):=by unfold ID;rw [AE hE]
  have hc:=aQs fl
  have w0:A9 (1-Ak fl)=1-Ak fl:=AI
  have hF:JB (((fl.length / 2:Nat):Int)-5) ds=Kc fl ds:=by
   rw [aQ2 _ _ A0];unfold Kc
   congr 1
   rw [decide_eq_decide];omega
  refine ⟨Aa,⟨⟨hn,hk⟩,by rw [hh];omega,by rw [hh];omega⟩,λc2=>?_,λc2=>?_⟩<;>rw [hh,hF,hG] at c2
  ·exact bad 10 Aa (by unfold Fp;rw [AD yM,AE c2])
  have hR:Fp se fl ds=0:=by unfold Fp;rw [AD yM,AD Mz]
  simp only [Eu,Hy,Bq,ne_eq] at c2
  have hsum:5+(BI ds).length<=fl.length / 2:=by
   have:=c2.1
   unfold Kc at this;simp only [AU,AY] at this;rw [og];exact this.1
  obtain ⟨k1,k2,k3⟩:=aio hj
  have hm:∀x:Int,0<=x->x<=2048->A9 ((1-Ak fl)*x)=(1-Ak fl)*x/\0<=(1-Ak fl)*x/\(1-Ak fl)*x<=x:=λx x0 x1=>by
   have:(1-Ak fl)*x=0\/(1-Ak fl)*x=x:=aMp
   exact ⟨AI,A0,A0⟩
  have hst:F4 se fl ds=⟨ds,((fl.length / 2:Nat):Int),1-Ak fl,((fl.length / 2:Nat):Int).tdiv se,(1-Ak fl)*((fl.length / 2:Nat):Int).tdiv se,Ak fl,ID se fl,El se fl,Gu se fl,KU se fl,0,se,fl,[(se,fl)]⟩:=by
   unfold F4;rw [hh,hA,w0,AI (x:=((fl.length / 2:Nat):Int).tdiv se),(hm _ k2 k3).1,Di,CJ,EK,Dv]
  have hE0:ae (F4 se fl ds):=by rw [hst];exact ⟨rfl,⟨hj,by show 1-Ak fl=0\/1-Ak fl=1;omega,k1⟩,rfl,rfl,rfl,rfl⟩
  obtain ⟨_,_,q1,q2,q3,q4,q5⟩:=ax6 _ hE0
  have q6:((Ej (F4 se fl ds)).al,(BN (Ej (F4 se fl ds)).al).2)=Ge se fl:=by
   have:=(ax5 _ hE0).2
   rw [this,hst];unfold Ge
   have hz:G5 ⟨ds,((fl.length / 2:Nat):Int),1-Ak fl,((fl.length / 2:Nat):Int).tdiv se,(1-Ak fl)*((fl.length / 2:Nat):Int).tdiv se,Ak fl,ID se fl,El se fl,Gu se fl,KU se fl,0,se,fl,[(se,fl)]⟩=(1-Ak fl)*((fl.length / 2:Nat):Int).tdiv se+((fl.length / 2:Nat):Int).tdiv se:=by
    have:=hm _ k2 k3
    show A9 (A9 (1-Ak fl+1)*((fl.length / 2:Nat):Int).tdiv se)=_
    rw [AI (x:=1-Ak fl+1),Int.add_mul,ZS];exact AI
   show FV se fl _ (G5 _-(1-Ak fl)*((fl.length / 2:Nat):Int).tdiv se).toNat _=_
   rw [hz]
   congr 1
   omega
  have r1:(Ej (F4 se fl ds)).se=se/\(Ej (F4 se fl ds)).fl=fl:=by rw [hst];exact ⟨rfl,rfl⟩
  rw [r1.1] at q4;rw [r1.2] at q5
  have q7:(BN (Ej (F4 se fl ds)).al).2=(Ge se fl).2:=Ax Prod.snd q6
  have hl:BN (Ej (F4 se fl ds)).al=(se,(Ge se fl).2):=Prod.ext q4 q7
  have ha:(Ej (F4 se fl ds)).al=(Ge se fl).1:=Ax Prod.fst q6
  have hEb:ln (M9 se fl ds):=⟨rfl,aMZ,rfl,hk,by show ((4:Nat):Int)<=4+70100*0;decide⟩
  have hY:rwY se fl ds=Ed fl ds:=by
   have q:=(ax7 _ hEb).2
   have hg:=awH (((BY fl (Ak fl)).drop 1).take 4)
   have hw:IntKind.u32.wrap (ID se fl+1)=Iv fl (Ak fl)+1:=by
    have:=c2.2
    rw [hG,Sj];unfold Iv at*;omega
   unfold rwY Ed;rw [CJ,Dv,q,<-hw];rfl
  have hX:rwX se fl ds=Gf fl:=by unfold rwX Gf;rw [hA,w0,hh];exact (hm _ A0 A0).1
  obtain ⟨_,o1,o2⟩:=hm ((fl.length / 2:Nat):Int) A0 A0
  have oO:Gf fl=(1-Ak fl)*((fl.length / 2:Nat):Int):=rfl
  have hX1:A9 (rwX se fl ds+1)=Gf fl+1:=by rw [hX];exact AI
  have hBl:(Ed fl ds).length=4+(BI ds).length:=by unfold Ed;rw [B0];rfl
  rw [hl] at q5
  have q5:(Ge se fl).2.length=fl.length:=q5
  have hv:∀b:List Int,b.length=fl.length->HB se b=true:=λb e=>by rw [qF e];exact hq.1
  have p1:En se (Ge se fl).2 (Gf fl+1) (Ed fl ds)=0:=by
   unfold En
   grind
  have hV:Mn se fl ds=(Ge se fl).1++(Dg se (Ge se fl).2 (Gf fl+1) (Ed fl ds)).drop 1:=by
   unfold Mn Kl;rw [hX1,hY,hl,AE p1,ha]
  have hW:rwW se fl ds=0:=by unfold rwW J4;rw [hX1,hY,hl,AE p1];exact q2
  have hlV:BN (Mn se fl ds)=(se,Kb se fl ds):=by
   rw [hV];unfold Dg;exact pj (f:=λk=>(se,DZ (Ge se fl).2 (Gf fl+1) (Ed fl ds) k)) (n:=(Ed fl ds).length) A0 _
  have p2:En se (Kb se fl ds) (Gf fl) [80]=0:=by
   have:(Kb se fl ds).length=fl.length:=by unfold Kb;rw [Sq];exact q5
   unfold En
   grind
  have hAA:rwA se fl ds=Fo se fl ds:=by
   unfold rwA Kl Fo;rw [hX,hlV,AE p2,AE hR,hV,CZ]
  have hz:J4 (Mn se fl ds) (rwW se fl ds) (rwX se fl ds) [80]=0:=by unfold J4;rw [hX,hlV,AE p2];exact hW
  have hVl:(Mn se fl ds).length<=3100000:=by
   have:=q3.2
   rw [hV,<-ha,B0,DE];unfold Dg;rw [Fv,S9,hBl];omega
  refine ⟨⟨Aa,A0,A0⟩,AJ,rfl,A0,AJ,⟨hE0,rfl,rfl⟩,⟨trivial,rfl,rfl⟩,A8,A8,⟨hEb,rfl,rfl⟩,A0,A8,A8,⟨⟨q3.1,by show (Ej (F4 se fl ds)).al.length<=4000000;omega,by show (rwY se fl ds).length<=5000;rw [hY,hBl];omega⟩,rfl,rfl⟩,A8,A8,⟨⟨?_,by show (Mn se fl ds).length<=4000000;omega,by show 1<=5000;decide⟩,rfl,rfl⟩,λc=>?_,λ_=>⟨A0,?_⟩⟩
  ·show Mn se fl ds≠ []
   intro hn
   have:BN (Mn se fl ds)=BN []:=by rw [hn]
   rw [hlV] at this
   have:=Ax Prod.fst this
   have:se=0:=this
   omega
  ·rw [hz] at c;cases c
  ·rw [CJ,Dv,hAA,hR]
   rfl
 ·cases h)
def aSq:List LV->T LV
 | [.agg [.v (.int .i64 se),.xl (.int .u8) fl],.xl (.int .u8) d]=> .req (BE fl/\d.length<=70000/\(Bl se fl=0->Lo fl=true)) (.ok (.AM [.xl Bf (HE se fl d),Em se fl d]))
 |_=> .no
def aOJ (se:Int) (fl:List Int) (a:Int) (d:List Int):[(se,fl)]++(Dg se fl a d).drop 1=Dg se fl a d:=by
 unfold Dg;rw [List.range_succ_eq_map];rfl
def axg {fl:List Int}(h:10<=fl.length):(Ef fl).2.1<=fl.length / 2:=by
 have:=bL fl (Ak fl)
 have:=tG (b:=BY fl (Ak fl)) (n:=(BY fl (Ak fl)).length) (f:=5) A0
 unfold Ef;omega
def aga (se:Int) (fl d:List Int):GR:=(⟨A9 ((A9 ((A9 ((EP se fl)*(A9 ((fl.length:Int).tdiv 2))))+(Gu se fl)))+1),((Bb d).drop (1:Int).toNat).take ((List.length (Bb d):Int).toNat-(1:Int).toNat),0,[(se,((([]:List Int)++fl).drop 0).take (0+fl.length))]⟩:GR)
def agZ (se:Int) (fl d:List Int):GR:=letI a:=(A9 ((A9 ((EP se fl)*(A9 ((fl.length:Int).tdiv 2))))+(Gu se fl)));letI b:=(((Bb d).drop (1:Int).toNat).take ((List.length (Bb d):Int).toNat-(1:Int).toNat));letI c:=(se,((([]:List Int)++fl).drop 0).take (0+fl.length));(⟨a,((Bb d).drop (0:Int).toNat).take ((1:Int).toNat-(0:Int).toNat),J4 ([c]) (0:Int) (A9 (a+1)) b,Kl ([c]) (A9 (a+1)) b⟩:GR)
def axP (se:Int) (fl d:List Int):Int:=(A9 ((A9 ((EP se fl)*(A9 ((fl.length:Int).tdiv 2))))+(Gu se fl)))
def axY (se:Int) (fl d:List Int):List Int:=(((Bb d).drop (1:Int).toNat).take ((List.length (Bb d):Int).toNat-(1:Int).toNat))
def axZ (se:Int) (fl d:List Int):List Int:=(((Bb d).drop (0:Int).toNat).take ((1:Int).toNat-(0:Int).toNat))
def axQ (se:Int) (fl d:List Int):List Fl:=([(se,((([]:List Int)++fl).drop 0).take (0+fl.length))])
def Lq (se:Int) (fl d:List Int):List Fl:=(Kl (axQ se fl d) (A9 ((axP se fl d)+1)) (axY se fl d))
def axW (se:Int) (fl d:List Int):Int:=(J4 (axQ se fl d) (0:Int) (A9 ((axP se fl d)+1)) (axY se fl d))
def axA (se:Int) (fl d:List Int):List Fl:=(Kl (Lq se fl d) (axP se fl d) (axZ se fl d))
def dN:List Bd:=[cy,aak,vF,fJ,cC]
def aQh:As:=Hu dN (la 2 func197 pT (l0 dN)) [⟨193,U8.m,dC⟩]
def ay6 (se:Int) (fl d:List Int):letI a:=(List.length (Bb d):Int);letI b:=J4 (Lq se fl d) (axW se fl d) (axP se fl d) (axZ se fl d);letI c:=axA se fl d;fh prog AT (dN) aQh Af aQv f155 [.agg [se,.xl (.int .u8) fl],.xl (.int .u8) d]=.req (BE fl) (.br ((Bl se fl) !=0) (.ok (.AM [.xl Bf ([]:List Fl),Bl se fl])) (.req ((2:Int)≠0) (.br ((decide ((d.length:Int)>65535)) ||(decide ((A9 (7+(d.length:Int)))>(A9 ((A9 ((fl.length:Int).tdiv 2))-(Gu se fl)))))) (.ok (.AM [.xl Bf ([]:List Fl),(10:Int)])) (.br (!(KU se fl)) (.no /-append to xl -/) (.ra 0 (List.length ([]:List Int)) (0+fl.length) 1 (.req (0+(0+fl.length)<=List.length (([]:List Int)++fl)) (.rv (.v (.int .i64 (EP se fl))) (.rv (.v (.int .i64 (Gu se fl))) (.req (d.length<=70000) (.re 1 (axQ se fl d) (.req (0<=(1:Int)/\(1:Int)<=a/\a<=a) (.rl (axQ se fl d) (.req (dt (aga se fl d)) (.rl (Lq se fl d) (.req (0<=(0:Int)/\(0:Int)<=(1:Int)/\(1:Int)<=a) (.rl (Lq se fl d) (.req (dt (agZ se fl d)) (.br (!(b==(0:Int))) (.ok (.AM [.xl Bf ([]:List Fl),b])) (.rz c (.ok (.AM [.xl Bf ((c.drop 0).take (List.length c)),(0:Int)]))))))))))))))))))))):=AZ
def ahV:VV 155 (uS f155 aSq):=aCN (cs:=aQv) func155 rfl (gk dN) aQh.h (p0 AZ) (λargs lv h=>by
 unfold aSq at h;split at h
 ·simp only [canL,canX]
  rw [ay6];rename_i se fl d;obtain ⟨⟨hb,hd,hcl⟩,rfl⟩:=h;refine ⟨hb,λc1=>?_,λc1=>?_⟩
  ·have c1:Bl se fl≠0:=AO
   unfold HE Em;rw [AE c1,AE c1];rfl
  have hE:Bl se fl=0:=AO
  have hj:FG se fl=true:=by
   cases e:FG se fl
   ·unfold Bl at hE;rw [AE e] at hE;cases hE
   ·rfl
  have hq:=MC.1 hj
  have hh:A9 ((fl.length:Int).tdiv 2)=((fl.length / 2:Nat):Int):=by
   exact aLi
  have hA:EP se fl=Ak fl:=aNg
  have hN:Gu se fl=((Ef fl).2.1:Int):=by unfold Gu;rw [AE hE]
  have hC:KU se fl=true:=by unfold KU;rw [AE hE];exact hcl hE
  have hl:=axg (fl:=fl) A0
  have hc:=aQs fl
  have hF:((decide ((d.length:Int)>65535)) ||(decide ((A9 (7+(d.length:Int)))>(A9 ((A9 ((fl.length:Int).tdiv 2))-(Gu se fl))))))=Lr se fl d:=by
   rw [hh,hN,AI (x:=7+(d.length:Int)),AI (x:=((fl.length / 2:Nat):Int)-((Ef fl).2.1:Int))];unfold Lr;rw [I0];simp only [Cr,AY];omega
  have e0:¬Bl se fl≠0:=yM
  refine ⟨Aa,λc2=>?_,λc2=>⟨λc3=>?_,λc3=>?_⟩⟩<;>rw [hF] at c2
  ·unfold HE Em
   rw [AD e0,AD e0,AE c2,AE c2];rfl
  ·rw [hC] at c3;cases c3
  have hR:HE se fl d=Gc se fl d:=by unfold HE;rw [AD e0,AD Mz,AE (hcl hE)]
  have hZ0:Em se fl d=0:=by unfold Em;rw [AD e0,AD Mz,AE (hcl hE)]
  unfold Lr at c2;simp only [Eu,Cl] at c2
  have hm:Ak fl*((fl.length / 2:Nat):Int)=0\/Ak fl*((fl.length / 2:Nat):Int)=((fl.length / 2:Nat):Int):=aMp
  have hP:axP se fl d=G7 fl:=by
   unfold axP G7;rw [hh,hA,hN,AI (x:=Ak fl*((fl.length / 2:Nat):Int))];exact AI
  have oP:G7 fl=Ak fl*((fl.length / 2:Nat):Int)+((Ef fl).2.1:Int):=rfl
  have hP1:A9 (axP se fl d+1)=G7 fl+1:=by rw [hP];exact AI
  have hpl:=M5 d
  have hY:axY se fl d=(Bb d).drop 1:=by unfold axY;exact D3 kY
  have hZ:axZ se fl d=[80]:=rfl
  have hQ:axQ se fl d=[(se,fl)]:=by unfold axQ;rw [Di,CJ,EK,Dv]
  have hYl:((Bb d).drop 1).length=6+d.length:=kY
  have hL0:BN [(se,fl)]=(se,fl):=rfl
  have p1:En se fl (G7 fl+1) ((Bb d).drop 1)=0:=by
   unfold En;rw [hq.1,AD aN3,AD (by rw [hYl];omega)]
  have hV:Lq se fl d=Dg se fl (G7 fl+1) ((Bb d).drop 1):=by
   unfold Lq Kl;rw [hP1,hY,hQ,hL0,AE p1,aOJ]
  have hW:axW se fl d=0:=by unfold axW J4;rw [hP1,hY,hQ,hL0,AE p1]
  have hlV:BN (Lq se fl d)=(se,apB fl d):=by
   rw [hV,<-aOJ];exact pj (f:=λk=>(se,DZ fl (G7 fl+1) ((Bb d).drop 1) k)) (n:=((Bb d).drop 1).length) A0 _
  have hBl:(apB fl d).length=fl.length:=Sq _ _ _ _
  have p2:En se (apB fl d) (G7 fl) [80]=0:=by
   unfold En;rw [qF hBl,hq.1,AD aN3,AD (by rw [hBl];show ¬G7 fl>(fl.length:Int)-((1:Nat):Int);omega)]
  have hAA:axA se fl d=Gc se fl d:=by
   unfold axA Kl Gc;rw [hP,hZ,hlV,AE p2,hV]
  have hz:J4 (Lq se fl d) (axW se fl d) (axP se fl d) (axZ se fl d)=0:=by unfold J4;rw [hP,hZ,hlV,AE p2];exact hW
  have hVl:(Lq se fl d).length=7+d.length:=by rw [hV];unfold Dg;rw [Fv,S9,hYl];omega
  refine ⟨⟨Aa,A0,A0⟩,AJ,rfl,rfl,hd,by rw [hQ];exact A8,⟨A0,A0,A0⟩,A8,⟨⟨by show axQ se fl d≠ [];rw [hQ];simp,by show (axQ se fl d).length<=4000000;rw [hQ];show 1<=4000000;decide,by show (axY se fl d).length<=5000;rw [hY,hYl];omega⟩,rfl,rfl⟩,A8,⟨A0,A0,A0⟩,A8,⟨⟨by show Lq se fl d≠ [];intro hn;rw [hn] at hVl;simp at hVl;omega,by show (Lq se fl d).length<=4000000;omega,by show 1<=5000;decide⟩,rfl,rfl⟩,λc=>?_,λ_=>⟨A0,?_⟩⟩
  ·rw [hz] at c;cases c
  ·rw [CJ,Dv,hAA,hR,hZ0]
   rfl
 ·cases h)
def aRw:List LV->T LV
 | [.agg [.v (.int .i64 se),.xl (.int .u8) fl],.v (.agg ⟨[.int .i64 x1,.int .i64 x2,.int .i64 x3,.int .i64 x4,.int .i64 x5]⟩),.v (.int .i64 t)]=> .req (BE fl/\(Bl se fl=0->Lo fl=true)) (.ok (.AM [.xl Bf (Cf se fl (x1,x2,x3,x4,x5) t),EG se fl (x1,x2,x3,x4,x5) t]))
 |_=> .no
def ayh:List Bd:=[vC,Wg,ahV,aah,ahl,aak]
def amc {x:Le}:BG [x]=D7 x:=by
 unfold BG;rw [I0,AU,EB];refine ⟨λh=>?_,λh=>⟨rfl,λk hk=>?_⟩⟩
 ·have:=h.2 0 AJ
  unfold GW at this;rw [AU] at this;exact this.1
 ·have:k=0:=by simp only [BX,Bh] at hk;omega
  subst this;unfold GW;rw [AU];exact ⟨h,rfl⟩
def abI {l:List Le}{x:Le}{t:Int}(h:DN l t=0):(IH l x t).length<=5000/\Ho (IH l x t):=by
 have hk:=aGX h
 unfold IH;rw [AE h];unfold Ht;refine ⟨?_,λd hd=>?_⟩
 ·simp only [B0,Fv,BX,Bh]
  split<;>simp<;>omega
 ·rcases Bp.1 hd with hd|hd
  ·obtain ⟨y,_,rfl⟩:=Eg.1 hd;rw [K4];omega
  ·rcases Bp.1 hd with hd|hd
   ·split at hd
    ·rw [Kp.1 hd,K4];omega
    ·cases hd
   ·rw [Kp.1 hd,K4];omega
def aag:=vo (S:=aRw) func104 ayh kN (λargs lv h=>by
 unfold aRw at h;split at h
 ·rename_i se fl x1 x2 x3 x4 x5 t
  refine Aj (letI d:=(Ar (x1,x2,x3,x4,x5));letI g:=BJ se fl;letI i:=BE fl/\List.length d<=70000/\(Bl se fl=0->Lo fl=true);letI k:=Em se fl d;letI b:=(IH g (x1,x2,x3,x4,x5) t);letI f:=(A9 ((List.length g:Int)-1));letI j:=BE fl/\List.length b<=5000/\Ho b;.req (BE fl) (.br ((CS se fl) !=0) (.ok (.AM [.xl Bf ([]:List Fl),(CS se fl)])) (.br (!(BG ([(x1,(x2,(x3,(x4,x5))))]))) (.ok (.AM [.xl Bf ([]:List Fl),(1:Int)])) (.br (decide (t<0)) (.ok (.AM [.xl Bf ([]:List Fl),(1:Int)])) (.br (decide (t>1100000)) (.ok (.AM [.xl Bf ([]:List Fl),(1:Int)])) (.br (decide ((List.length g:Int)>0)) (.ix f (List.length g) (.br (decide (x1<=(An g f).1)) (.ok (.AM [.xl Bf ([]:List Fl),(12:Int)])) (.ix f (List.length g) (.br (decide (x4<(An g f).2.2.2.1)) (.ok (.AM [.xl Bf ([]:List Fl),(12:Int)])) (.req i (.br (k !=10) (.ok (.AM [.xl Bf (HE se fl d),k])) (.br ((DN g t) !=0) (.ok (.AM [.xl Bf ([]:List Fl),(DN g t)])) (.req j (.ok (.AM [.xl Bf (Fo se fl b),(Fp se fl b)])))))))))) (.req i (.br (k !=10) (.ok (.AM [.xl Bf (HE se fl d),k])) (.br ((DN g t) !=0) (.ok (.AM [.xl Bf ([]:List Fl),(DN g t)])) (.req j (.ok (.AM [.xl Bf (Fo se fl b),(Fp se fl b)])))))))))))) ?_;obtain ⟨⟨hb,hcl⟩,rfl⟩:=h
  have fin:∀ {a:List Fl} {e:Int},Cf se fl (x1,x2,x3,x4,x5) t=a/\EG se fl (x1,x2,x3,x4,x5) t=e->LV.AM [.xl Bf a,.v (.int .i64 e)]=LV.AM [.xl Bf (Cf se fl (x1,x2,x3,x4,x5) t),.v (.int .i64 (EG se fl (x1,x2,x3,x4,x5) t))]:=λh=>by rw [h.1,h.2]
  refine ⟨hb,λc1=>fin ?_,λc1=>?_⟩
  ·have c1:CS se fl≠0:=AO
   unfold Cf EG;rw [AE c1,AE c1];exact ⟨rfl,rfl⟩
  have c1:¬CS se fl≠0:=AO
  rw [amc]
  have bad:(!D7 (x1,x2,x3,x4,x5) || !inB t 0 1100000)=true->Cf se fl (x1,x2,x3,x4,x5) t=[]/\EG se fl (x1,x2,x3,x4,x5) t=1:=λh=>by
   unfold Cf EG;rw [AD c1,AD c1,AE h,AE h];exact ⟨rfl,rfl⟩
  refine ⟨λc2=>fin (bad (by rw [c2];rfl)),λc2=>⟨λc3=>fin (bad ?_),λc3=>⟨λc4=>fin (bad ?_),λc4=>?_⟩⟩⟩
  iterate 2
   ·rw [Cr]
    refine .inr ?_
    have e:inB t 0 1100000=false:=by
     cases e:inB t 0 1100000
     ·rfl
     ·have:=CU.1 e
      simp only [AY,Cl] at c3
      try simp only [AY] at c4
      omega
    rw [e];rfl
  have ht:inB t 0 1100000=true:=CU.2 (by simp only [Cl] at c3 c4;omega)
  have hx:D7 (x1,x2,x3,x4,x5)=true:=D8
  have hv:=yc (Decidable.not_not.1 c1)
  have hE:DN (BJ se fl) t=0:=by unfold DN Nw;rw [hv,ht];rfl
  have hb':¬((!D7 (x1,x2,x3,x4,x5) || !inB t 0 1100000)=true):=by rw [hx,ht];decide
  have hl:=(Ib hv).1
  have w:=λc5:0<(BJ se fl).length=>AI (x:=((BJ se fl).length:Int)-1)
  have hO:0<(BJ se fl).length->Gy (BJ se fl) (x1,x2,x3,x4,x5)=(decide (x1<=(An (BJ se fl) (((BJ se fl).length:Int)-1)).1) ||decide (x4<(An (BJ se fl) (((BJ se fl).length:Int)-1)).2.2.2.1)):=λc5=>by
   unfold Gy;rw [show decide ((BJ se fl).length>0)=true from Cs c5];rfl
  have old:Gy (BJ se fl) (x1,x2,x3,x4,x5)=true->Cf se fl (x1,x2,x3,x4,x5) t=[]/\EG se fl (x1,x2,x3,x4,x5) t=12:=λh=>by
   unfold Cf EG;rw [AD c1,AD c1,AD hb',AD hb',AE h,AE h];exact ⟨rfl,rfl⟩
  refine ⟨λc5=>?_,λc5=>?_⟩
  ·have c5:0<(BJ se fl).length:=by simpa using c5
   have hO:=hO c5
   rw [w c5];refine ⟨A0,λc6=>fin (old (by rw [hO,c6];rfl)),λc6=>⟨A0,λc7=>fin (old (by rw [hO,c7,SG])),λc7=>?_⟩⟩
   have hO:Gy (BJ se fl) (x1,x2,x3,x4,x5)=false:=by rw [hO,c6,c7];rfl
   have hk:IH (BJ se fl) (x1,x2,x3,x4,x5) t=Ht (BJ se fl) (x1,x2,x3,x4,x5) t:=AE hE
   have hk':=hk▸abI (x:=(x1,x2,x3,x4,x5)) hE
   rw [hk,hE]
   have hO:¬(Gy (BJ se fl) (x1,x2,x3,x4,x5)=true):=by rw [hO];decide
   refine ⟨⟨hb,by rw [K4];decide,hcl⟩,λc=>fin ?_,λc=>⟨λc'=>(by cases c'),λ_=>⟨⟨hb,hk'⟩,fin ?_⟩⟩⟩<;>unfold Cf EG<;>rw [AD c1,AD c1,AD hb',AD hb',AD hO,AD hO]
   ·have c:Em se fl (Ar (x1,x2,x3,x4,x5))≠10:=FN
    rw [AE c,AE c];exact ⟨rfl,rfl⟩
   ·have c:¬Em se fl (Ar (x1,x2,x3,x4,x5))≠10:=FN
    rw [AD c,AD c];exact ⟨rfl,rfl⟩
  ·have hO:Gy (BJ se fl) (x1,x2,x3,x4,x5)=false:=by unfold Gy;rw [show decide ((BJ se fl).length>0)=false by simpa using c5];rfl
   have hk:IH (BJ se fl) (x1,x2,x3,x4,x5) t=Ht (BJ se fl) (x1,x2,x3,x4,x5) t:=AE hE
   have hk':=hk▸abI (x:=(x1,x2,x3,x4,x5)) hE
   rw [hk,hE]
   have hO:¬(Gy (BJ se fl) (x1,x2,x3,x4,x5)=true):=by rw [hO];decide
   refine ⟨⟨hb,by rw [K4];decide,hcl⟩,λc=>fin ?_,λc=>⟨λc'=>(by cases c'),λ_=>⟨⟨hb,hk'⟩,fin ?_⟩⟩⟩<;>unfold Cf EG<;>rw [AD c1,AD c1,AD hb',AD hb',AD hO,AD hO]
   ·have c:Em se fl (Ar (x1,x2,x3,x4,x5))≠10:=FN
    rw [AE c,AE c];exact ⟨rfl,rfl⟩
   ·have c:¬Em se fl (Ar (x1,x2,x3,x4,x5))≠10:=FN
    rw [AD c,AD c];exact ⟨rfl,rfl⟩
 ·cases h)
def ai5 {fl:List Int}{g:Int}{vl:List Le}{k:Nat}{O:List Int}{x:Le}{t:Int}{w:Int}(h:JI fl w g (vl.map Ar) k O) (hv:BG vl=true) (hx:FB vl x=0) (ht:inB t 0 1100000=true) (hk:19<=k):
  EG 512 fl x t=0/\(∃fl',G4 (Cf 512 fl x t) (((Cf 512 fl x t).length:Int)-1)=(512,fl')/\JI fl' w g ((vl++[x]).map Ar) (k-19) O)/\BG (vl++[x])=true:=by
 obtain ⟨h1,h2⟩:=abG h hv
 have hl:=K4 x
 have hx':=hx
 unfold FB at hx'
 have hlx:D7 x=true:=by
  cases e:D7 x
  ·rw [hv,e] at hx';simp at hx'
  ·rfl
 rw [hv,hlx] at hx'
 have ho:Gy vl x=false:=by
  by_cases hg:vl.length>0
  ·have hf:Jd (An vl ((vl.length:Int)-1)) x=true:=by
    cases e:Jd (An vl ((vl.length:Int)-1)) x
    ·simp [e,hg] at hx'
    ·rfl
   unfold Jd at hf;unfold Gy;simp only [AU,AY] at hf
   simp;intro _;omega
  ·unfold Gy;simp;intro h;omega
 have hfull:=h.full (d:=Ar x) A0 A0
 have hap:Em 512 fl (Ar x)=0:=by
  unfold Em;rw [h.Uc,hfull,h.cl];rfl
 have har:HE 512 fl (Ar x)=Gc 512 fl (Ar x):=by
  unfold HE;rw [h.Uc,hfull,h.cl];rfl
 have hE:EG 512 fl x t=0:=by
  unfold EG;rw [h1,h2,hap,hlx,ht,ho];rfl
 have hL:Cf 512 fl x t=Gc 512 fl (Ar x):=by
  unfold Cf;rw [h1,h2,hap,hlx,ht,ho,har];rfl
 refine ⟨hE,⟨DZ (apB fl (Ar x)) (G7 fl) [80] 1,?_,?_⟩,?_⟩
 ·rw [hL]
  have hne:Gc 512 fl (Ar x)≠ []:=by
   exact aLD
  have:=aEE 512 fl (Ar x) (0,[])
  rw [V6,wY] at this;unfold G4;rw [Cx]
  have hp:=Ms.2 hne
  rw [show (((Gc 512 fl (Ar x)).length:Int)-1).toNat=(Gc 512 fl (Ar x)).length-1 by omega]
  exact this
 ·have:=h.app (qx x) A0 (by rw [hl];omega)
  rw [I2];exact this
 ·have hg:=(aQL (x:=x) hv).1
  unfold grS JW at hg;rw [AE hx,AE hx] at hg;exact hg
structure QV where
 p:PK
 vl:List Le
 ok:Bool
def Ui (t:Int) (s:SN×List Le×Bool) (x:Le):SN×List Le×Bool:=
 if FB s.1.ls x=0 then (if FB s.2.1 x=0/\inB t 0 1100000=true/\19*(s.2.1.length+1)<=1019 then (⟨JW s.1.ls x,0,[],x.1+1,s.1.lk++[fj t x]⟩,s.2.1++[x],s.2.2) else (s.1,s.2.1,false)) else s
def Ow (t:Int) (xs:List Le) (s:SN×List Le×Bool):Nat->SN×List Le×Bool
 |0=>s
 |k+1=>Ui t (Ow t xs s k) (An xs k)
def RV (se:Int) (fl:List Int) (vl:List Le):Prop:=se=512/\BG vl=true/\∃k O,JI fl 0 0 (vl.map Ar) k O/\k+19*vl.length=1019
def RN (s:SN) (q:SN×List Le×Bool):Prop:=q.1={s with se:=0,fl:=[]}/\RV s.se s.fl q.2.1
def aon {t:Int}{s:SN×List Le×Bool}{x:Le}(h:(Ui t s x).2.2=true):s.2.2=true:=by
 unfold Ui at h;split at h
 ·split at h
  ·exact h
  ·cases h
 ·exact h
def anf {t:Int}{s:SN}{q:SN×List Le×Bool}{x:Le}(h:RN s q) (hq:(Ui t q x).2.2=true):RN (Gt t s x) (Ui t q x):=by
 obtain ⟨h1,h2,h3,k,O,h4,h5⟩:=h
 have hls:q.1.ls=s.ls:=by rw [h1]
 have hlk:q.1.lk=s.lk:=by rw [h1]
 unfold Ui at hq|-;unfold Gt;rw [hls] at hq|-
 by_cases hg:FB s.ls x=0
 ·rw [AE hg] at hq|-
  by_cases hc:FB q.2.1 x=0/\inB t 0 1100000=true/\19*(q.2.1.length+1)<=1019
  ·rw [AE hc] at hq|-
   obtain ⟨c1,c2,c3⟩:=hc;obtain ⟨e1,⟨fl',e2,e3⟩,e4⟩:=ai5 (t:=t) h4 h3 c1 c2 A0;rw [h2] at*;rw [AE ⟨hg,e1⟩,e2];refine ⟨by simp only [hlk],rfl,e4,k-19,O,e3,?_⟩
   simp only [B0,BX,Bh];omega
  ·rw [AD hc] at hq
   cases hq
 ·rw [AD hg,AD (λhh=>hg hh.1)]
  exact ⟨h1,h2,h3,k,O,h4,h5⟩
def aDj {t:Int}{xs:List Le}{s:SN}{q:SN×List Le×Bool}(h:RN s q):∀n,(Ow t xs q n).2.2=true->RN (Jb t xs s n) (Ow t xs q n)
 |0,_=>h
 |n+1,hq=>anf (aDj h n (aon hq)) hq
namespace QV
variable (q : QV)
def sn:SN×List Le×Bool:=Ow q.p.tk q.p.dL (q.p.II,q.vl,q.ok) q.p.dL.length
def dec:QV:=if q.p.up=false then q else if q.p.dE≠0 then {q with p:={q.p with ls:=Hv q.p.ls q.p.tk}} else ⟨{q.p with ra:=q.p.dR,ls:=q.sn.1.ls,nx:=q.sn.1.nx,lk:=q.sn.1.lk},q.sn.2.1,q.sn.2.2⟩
def bef:QV:={q.dec with p:=q.dec.p.Mj.aP}
def tick:QV:={q.bef with p:=q.bef.p.FX.J1.endP}
def HY:List Int:=q.bef.p.dw.dw
end QV
def RP (p:PK) (q:QV):Prop:=q.p={p with se:=0,fl:=[]}/\RV p.se p.fl q.vl
def ar7 {p:PK}{q:QV}(h:RP p q) (hq:q.dec.ok=true):RP p.AV q.dec:=by
 obtain ⟨qp,vl,ok⟩:=q;obtain ⟨h1,h2⟩:=h;simp only at h1 h2;subst h1
 have eq:QV.dec ⟨{p with se:=0,fl:=[]},vl,ok⟩=if p.up=false then ⟨{p with se:=0,fl:=[]},vl,ok⟩ else if p.dE≠0 then ⟨{p with se:=0,fl:=[],ls:=Hv p.ls p.tk},vl,ok⟩ else
  ⟨{p with se:=0,fl:=[],ra:=p.dR,ls:=(Ow p.tk p.dL ({p.II with se:=0,fl:=[]},vl,ok) p.dL.length).1.ls,nx:=(Ow p.tk p.dL ({p.II with se:=0,fl:=[]},vl,ok) p.dL.length).1.nx,lk:=(Ow p.tk p.dL ({p.II with se:=0,fl:=[]},vl,ok) p.dL.length).1.lk},
   (Ow p.tk p.dL ({p.II with se:=0,fl:=[]},vl,ok) p.dL.length).2.1,(Ow p.tk p.dL ({p.II with se:=0,fl:=[]},vl,ok) p.dL.length).2.2⟩:=rfl
 rw [eq] at hq|-
 clear eq
 unfold PK.AV
 by_cases hu:p.up=false
 ·rw [AE hu,AE hu]
  exact ⟨rfl,h2⟩
 ·rw [AD hu] at hq
  rw [AD hu,AD hu]
  by_cases hd:p.dE≠0
  ·rw [AE hd,AE hd]
   exact ⟨rfl,h2⟩
  ·rw [AD hd] at hq
   rw [AD hd,AD hd]
   have hs:RN p.II ({p.II with se:=0,fl:=[]},vl,ok):=⟨rfl,h2⟩
   obtain ⟨k1,k2⟩:=aDj hs p.dL.length hq;refine ⟨?_,k2⟩;rw [k1];rfl
def agO {p:PK}{q:QV}(h:RP p q) (hq:q.tick.ok=true):RP p.FQ q.tick/\p.HY=q.HY:=by
 obtain ⟨h1,h2⟩:=ar7 h hq;refine ⟨⟨?_,h2⟩,?_⟩
 ·show q.dec.p.Mj.aP.FX.J1.endP=_
  rw [h1];rfl
 ·show _=q.dec.p.Mj.aP.dw.dw
  rw [h1];rfl
def aRB {pre mid post:List Int}:∀k,k<=mid.length->Ee (pre++(mid++post)) (pre.length:Int) k=pre++(List.replicate k 255++(mid.drop k++post))
 |0,_=>by simp [Ee]
 |k+1,hk=>by
  simp only [Ee];rw [aRB k A0]
  have e1:(pre.length:Int)+(k:Int)=((pre.length+k:Nat):Int):=A0
  have hd:mid.drop k=mid[k]::mid.drop (k+1):=SD A0
  rw [e1,Bs,Uy _ _ A0,ZK,Uy _ _ AJ,CR,jQ,hd];simp only [I5,List.set_cons_zero];rw [jW,CZ];rfl
def arS {pre mid post:List Int}{n:Nat}(h:mid.length=n):Ee (pre++(mid++post)) (pre.length:Int) n=pre++(List.replicate n 255++post):=by
 rw [aRB n A0,jV A0];rfl
def agr {l:List Int}{n:Nat}(hl:l.length=n) (h:l.all (λb=>b==255)=true):l=List.replicate n 255:=by
 rw [List.eq_replicate_iff];exact ⟨hl,λb hb=>by have:=BL.1 h b hb;simpa using this⟩
def aR9 {pre mid post f0:List Int}{s:Int}{a:List Fl}{n:Nat}(hm:mid.length=512) (hs:s*512=(pre.length:Int)) (hf:(f0.drop pre.length).take 512=mid):
  ∃a',FV 512 f0 s (n+1) (a,pre++(mid++post))=FV 512 f0 (s+1) n (a',pre++(List.replicate 512 255++post)):=by
 have hw:isW 512 f0 s=!mid.all (λb=>b==255):=by
  unfold isW;rw [hs,Bs]
  show (!((f0.drop pre.length).take 512).all _)=_
  rw [hf]
 have e:FV 512 f0 s (n+1) (a,pre++(mid++post))=FV 512 f0 (s+1) n (if isW 512 f0 s=true then (a++(Kf 512 (pre++(mid++post)) s).drop 1,Ee (pre++(mid++post)) (s*512) 512) else (a,pre++(mid++post))):=rfl
 rw [e];split
 ·rw [hs,arS hm]
  exact ⟨_,rfl⟩
 ·rename_i hn
  rw [hw] at hn
  have:mid.all (λb=>b==255)=true:=by simpa using hn
  have h2:=agr hm this
  rw [<-h2];exact ⟨a,rfl⟩
def ank {O:List Int}(h:O.length=1024):∃M1 M2,O=M1++M2/\M1.length=512/\M2.length=512:=⟨O.take 512,O.drop 512,(ZN _ _).symm,by rw [G9];omega,kY⟩
def aGK {pre post M1 M2 f0:List Int}{s:Int}{a:List Fl}(h1:M1.length=512) (h2:M2.length=512) (hs:s*512=(pre.length:Int)) (hf:f0=pre++(M1++(M2++post))):
  (FV 512 f0 s 2 (a,f0)).2=pre++(List.replicate 1024 255++post):=by
 have f1:(f0.drop pre.length).take 512=M1:=by rw [hf,List.drop_left,wu h1]
 have f2:(f0.drop (pre++List.replicate 512 255).length).take 512=M2:=by
  rw [hf,B0,CR,<-CZ,wv (by rw [B0,h1]),wu h2]
 have e0:FV 512 f0 s 2 (a,f0)=FV 512 f0 s 2 (a,pre++(M1++(M2++post))):=by rw [<-hf]
 rw [e0];obtain ⟨a1,e1⟩:=aR9 (a:=a) (n:=1) (post:=M2++post) h1 hs f1;rw [e1]
 have e2:pre++(List.replicate 512 255++(M2++post))=(pre++List.replicate 512 255)++(M2++post):=(CZ _ _ _).symm
 rw [e2];obtain ⟨a2,e3⟩:=aR9 (a:=a1) (n:=0) (s:=s+1) (post:=post) h2 (by rw [B0,CR];omega) f2
 rw [e3]
 show (pre++List.replicate 512 255)++(List.replicate 512 255++post)=_
 rw [CZ,<-CZ (List.replicate 512 255),jJ]
def aAV (A O:List Int):J0 0 A O=A++O:=AE rfl
def aAU (A O:List Int):J0 1 A O=O++A:=AD Aa
def aha (A O:List Int):J0 (1-0) A O=O++A:=AD Aa
def ahZ (A O:List Int):J0 (1-1) A O=A++O:=AE rfl
namespace JI
variable {fl : List Int} {w g : Int} {ds : List (List Int)} {k : Nat} {O : List Int}
def ers (h:JI fl w g ds k O):(Ge 512 fl).2=J0 w (DQ g ds k) (List.replicate 1024 255):=by
 obtain ⟨M1,M2,e,h1,h2⟩:=ank h.lo;unfold Ge;rw [h.half,h.cur.1]
 have e2:((((1024:Nat):Int).tdiv 512).toNat)=2:=Aa
 have e3:(((1024:Nat):Int).tdiv 512)=2:=Aa
 rw [e2,e3]
 have he:=h.eq
 rcases h.hw with rfl|rfl
 ·have:=aGK (pre:=DQ g ds k) (post:=[]) (M1:=M1) (M2:=M2) (f0:=fl) (s:=(1-0)*2) (a:=[(512,fl)]) h1 h2 (by rw [h.la];rfl) (by rw [he,e,aAV];simp only [CZ,Di,FJ,I5])
  rw [this,aAV];exact VF
 ·have:=aGK (pre:=[]) (post:=DQ g ds k) (M1:=M1) (M2:=M2) (f0:=fl) (s:=(1-1)*2) (a:=[(512,fl)]) h1 h2 Aa (by rw [he,e,aAU];simp only [CZ,Di,FJ,I5])
  rw [this,aAU];exact VF
def rew (h:JI fl w g ds k O) {ds':List (List Int)}(hg:g+1<4294967296) (hd:∀d∈ds',BE d/\d.length<=65535) (hf:5+(BI ds').length<=1024):
  JI (DZ (Kb 512 fl ds') (Gf fl) [80] 1) (1-w) (g+1) ds' (1024-(5+(BI ds').length)) (DQ g ds k):=by
 have hO:Gf fl=(1-w)*1024:=by unfold Gf;rw [h.half,h.cur.1];rfl
 have hB:Ed fl ds'=Cu (g+1)++BI ds':=by unfold Ed;rw [h.cur.1,h.gen]
 have hBl:(Ed fl ds').length=4+(BI ds').length:=by rw [hB,B0];rfl
 have hBb:BE (Ed fl ds'):=by rw [hB,K2];exact ⟨W5 _,pt (λd hd'=>(hd d hd').1)⟩
 have hj:DQ (g+1) ds' (1024-(5+(BI ds').length))=80::(Ed fl ds'++List.replicate (1024-(5+(BI ds').length)) 255):=by rw [hB];unfold DQ;simp
 have h255:List.replicate 1024 (255:Int)=255::(List.replicate (Ed fl ds').length 255++List.replicate (1024-(5+(BI ds').length)) 255):=by
  rw [jJ,<-V2,hBl]
  congr 1
  omega
 have key:∀pre post:List Int,(pre.length:Int)=(1-w)*1024->(Ge 512 fl).2=pre++(List.replicate 1024 255++post)->DZ (Kb 512 fl ds') (Gf fl) [80] 1=pre++(DQ (g+1) ds' (1024-(5+(BI ds').length))++post):=by
  intro pre post hp he
  have e1:Kb 512 fl ds'=pre++(255::(Ed fl ds'++(List.replicate (1024-(5+(BI ds').length)) 255++post))):=by
   unfold Kb;rw [he,hO,<-hp,h255]
   have:=nj (pre:=pre++[255]) (post:=List.replicate (1024-(5+(BI ds').length)) 255++post) (d:=Ed fl ds') hBb
   have e9:(((pre++[255]:List Int)).length:Int)=(pre.length:Int)+1:=AJ
   rw [e9] at this
   have e0:pre++(255::(List.replicate (Ed fl ds').length 255++List.replicate (1024-(5+(BI ds').length)) 255)++post)=pre++[255]++(List.replicate (Ed fl ds').length 255++(List.replicate (1024-(5+(BI ds').length)) 255++post)):=by simp only [CZ,Di,FJ,I5]
   rw [e0,this];exact VF
  rw [e1,hO,<-hp]
  have:=nj (pre:=pre) (post:=Ed fl ds'++(List.replicate (1024-(5+(BI ds').length)) 255++post)) (d:=[80]) aNT
  refine Eq.trans this ?_;rw [hj];exact VF
 refine ⟨?_,by rw [OR];omega,h.la,h.bja,by rcases h.hw with rfl|rfl<;>decide,by have:=h.hg;omega,λ_=>?_,hd⟩
 ·rcases h.hw with rfl|rfl
  ·refine (key (DQ g ds k) [] (by rw [h.la];rfl) (by rw [h.ers,aAV];simp only [CZ,Di,FJ,I5])).trans ?_
   rw [aha];exact VF
  ·refine (key [] (DQ g ds k) Aa (by rw [h.ers,aAU];simp only [CZ,Di,FJ,I5])).trans ?_
   rw [ahZ];exact VF
 ·rw [aH4 h.hg];omega
def alv (h:JI fl w g ds k O) {ds':List (List Int)}(hg:g+1<4294967296):Fp 512 fl ds'=if Kc fl ds'=true then 0 else 10:=by
 unfold Fp;rw [h.Uc,AD Aa,h.cur.1,h.gen]
 have:(g==4294967295)=false:=by rw [Bq];omega
 rw [this];cases Kc fl ds'<;>rfl
end JI
def agX {se:Int}{fl:List Int}{ds:List (List Int)}(h:Fp se fl ds=0) (y:Fl):(Fo se fl ds).getLastD y=(se,DZ (Kb se fl ds) (Gf fl) [80] 1):=by
 unfold Fo;rw [AE h]
 have e:(Dg se (Kb se fl ds) (Gf fl) [80]).drop 1=[(se,DZ (Kb se fl ds) (Gf fl) [80] 1)]:=by
  unfold Dg;rw [show List.range (([80]:List Int).length+1)=[0,1] from rfl];rfl
 rw [e,V6]
 simp
def auL {se:Int}{fl:List Int}{ds:List (List Int)}(h:Fp se fl ds=0):Fo se fl ds≠ []:=by
 unfold Fo;rw [AE h];intro hh
 have:=Ax List.length hh
 simp [Dg] at this
def aDr {l:List Fl}{y:Fl}(h:l≠ []):G4 l ((l.length:Int)-1)=l.getLastD y:=by
 have hp:=Ms.2 h
 unfold G4;rw [V6,wY,Cx,show ((l.length:Int)-1).toNat=l.length-1 by omega,DF A0]
 rfl
structure VI (se:Int) (fl:List Int) (vl:List Le) (g:Int):Prop where
 se:se=512
 lv:BG vl=true
 ji:∃w k O,JI fl w g (vl.map Ar) k O
 g:g<=(vl.map (·.1)).getLastD 0
def VI.ld {se:Int}{fl:List Int}{vl:List Le}{g:Int}(h:VI se fl vl g):CS se fl=0/\BJ se fl=vl:=by
 obtain ⟨w,k,O,hj⟩:=h.ji
 have:=abG hj h.lv
 rw [h.se];exact this
def amS {l:List Le}(h:l.length>0):(l.map (·.1)).getLastD 0=(An l ((l.length:Int)-1)).1:=by
 have e:((l.length:Int)-1).toNat=l.length-1:=A0
 unfold An;rw [V6,List.getLast?_map,wY,Cx,e,DF A0];rfl
def kpV (l:List Le) (x:Le) (t:Int):List Le:=Bj l t++((if l.length>0/\((Bj l t).length=0\/(An (Bj l t) (((Bj l t).length:Int)-1)).1≠(An l ((l.length:Int)-1)).1) then [An l ((l.length:Int)-1)] else [])++[x])
def aPy {l:List Le}{x:Le}{t:Int}:Ht l x t=(kpV l x t).map Ar:=by
 unfold Ht kpV;rw [I2,I2];split<;>rfl
def atQ {l:List Le}{x:Le}(h:Gy l x=false) (hv:BG l=true):letI a:=(An l ((l.length:Int)-1));l.length>0->a.1<x.1/\a.2.2.2.1<=x.2.2.2.1:=by
 intro hl;unfold Gy at h;rw [Cs hl] at h
 simp at h
 omega
def afp {l:List Le}(h:l.length>0):l=l.dropLast++[An l ((l.length:Int)-1)]:=by
 have hne:l≠ []:=Ms.1 h
 have:An l ((l.length:Int)-1)=l.getLast hne:=by
  rw [Oh A0,List.getLast_eq_getElem]
  congr 1
  omega
 rw [this];exact (List.dropLast_concat_getLast hne).symm
def an0 (m:List Le) (z:Le):An (m++[z]) (((m++[z]).length:Int)-1)=z:=by
 unfold An
 have:(((m++[z]).length:Int)-1).toNat=m.length:=AJ
 rw [this]
 simp
def asR {se:Int}{fl d:List Int}:Gc se fl d≠ []:=by
 unfold Gc Dg;rw [OA]
 simp
def aqR {l:List Le}{x:Le}{t:Int}:(kpV l x t).Sublist (l++[x]):=by
 unfold kpV;rw [<-CZ];refine List.Sublist.append ?_ (List.Sublist.refl _)
 have hs:(Bj l t).Sublist l:=by
  unfold Bj;split
  ·exact List.filter_sublist
  ·exact List.nil_sublist _
 split
 ·rename_i hc
  obtain ⟨h1,h2⟩:=hc
  have hl:=afp h1
  generalize hz:An l ((l.length:Int)-1)=z at*
  have he:(Bj l t).Sublist l.dropLast:=by
   unfold Bj at h2|-;split
   ·rename_i ho
    rw [AE ho] at h2;rw [hl,V4] at h2
    have hf:l.filter (Mg t)=l.dropLast.filter (Mg t)++[z].filter (Mg t):=by
     conv=>lhs;rw [hl,V4]
    rw [hf];cases hb:Mg t z
    ·simp only [Kn,hb,List.filter_nil]
     simp
    ·exfalso
     have e1:[z].filter (Mg t)=[z]:=ke
     rw [e1] at h2;rcases h2 with h2|h2
     ·simp at h2
     ·apply h2
      rw [an0]
   ·exact List.nil_sublist _
  conv=>rhs;rw [hl]
  exact List.Sublist.append he (List.Sublist.refl _)
 ·rw [FJ];exact hs
def pq {vl:List Le}:(BI (vl.map Ar)).length=19*vl.length:=by
 induction vl with
 |nil=>rfl
 |cons x vl ih=>
  have e:BI ((x::vl).map Ar)=Bb (Ar x)++BI (vl.map Ar):=rfl
  rw [e,B0,M5,K4,ih,BX];omega
def anp (ds:List (List Int)):(ds.map (λd=>7+d.length)).sum=(BI ds).length:=(og ds).symm
def VI.len {se:Int}{fl:List Int}{vl:List Le}{g:Int}(h:VI se fl vl g):vl.length<=53:=by
 obtain ⟨w,k,O,hj⟩:=h.ji
 have:=hj.la
 rw [OR,pq] at this;omega
def ai3 {se:Int}{fl:List Int}{vl:List Le}{g:Int}{x:Le}{t:Int}(h:VI se fl vl g) (hE:EG se fl x t=0):
  ∃vl' g',VI (G4 (Cf se fl x t) (((Cf se fl x t).length:Int)-1)).1 (G4 (Cf se fl x t) (((Cf se fl x t).length:Int)-1)).2 vl' g'/\(vl'=vl++[x]\/vl'=kpV vl x t)/\BG (vl++[x])=true/\(vl.length>0->(An vl ((vl.length:Int)-1)).1<x.1):=by
 obtain ⟨h1,h2⟩:=h.ld
 have hlen:=h.len
 obtain ⟨w,k,O,hj⟩:=h.ji
 have hse:=h.se
 subst hse
 have hla:=hj.la
 rw [OR,pq] at hla;unfold EG at hE
 have hL:Cf 512 fl x t=if CS 512 fl≠0 then [] else if (!D7 x || !inB t 0 1100000)=true then [] else if Gy (BJ 512 fl) x=true then [] else
  if Em 512 fl (Ar x)≠10 then HE 512 fl (Ar x) else Fo 512 fl (Ht (BJ 512 fl) x t):=rfl
 rw [AD A0] at hE hL
 by_cases c1:(!D7 x || !inB t 0 1100000)=true
 ·rw [AE c1] at hE;cases hE
 rw [AD c1] at hE hL
 have hx:D7 x=true:=by
  simp only [Cr,D4,not_or,ZW] at c1;exact c1.1
 by_cases c2:Gy (BJ 512 fl) x=true
 ·rw [AE c2] at hE;cases hE
 rw [AD c2] at hE hL;rw [h2] at c2 hE hL
 have ho:=atQ D8 h.lv
 have hsn:BG (vl++[x])=true:=aD6 h.lv hx A0 (by
  by_cases hz:vl.length=0
  ·exact .inl hz
  ·right
   obtain ⟨o1,o2⟩:=ho A0;unfold Jd;rw [Cs (p:=x.1>_) o1,Cs (p:=x.2.2.2.1>=_) o2];rfl)
 have hg:g<x.1:=by
  by_cases hz:vl.length>0
  ·have:=h.g
   rw [amS hz] at this
   have:=(ho hz).1
   omega
  ·have e:vl=[]:=Lw.1 A0
   have:=h.g
   rw [e] at this
   have h0:g<=0:=this
   have:=(Q1.1 hx).1.1
   omega
 have hlx:=(Q1.1 hx).1.2
 by_cases c3:Lr 512 fl (Ar x)=true
 ·have hap:Em 512 fl (Ar x)=10:=by
   unfold Em;rw [hj.Uc,c3];rfl
  rw [hap,AD Aa] at hE hL
  have hr:Fp 512 fl (Ht vl x t)=0:=hE
  rw [hL]
  have hf:Kc fl (Ht vl x t)=true:=by
   have:=hj.alv (ds':=Ht vl x t) A0
   rw [hr] at this
   by_cases hq:Kc fl (Ht vl x t)=true
   ·exact hq
   ·rw [AD hq] at this;cases this
  rw [aDr (y:=(0,[])) (auL hr),agX hr];unfold Kc at hf;rw [AU,hj.half,anp] at hf
  have hfit:=De hf.1
  refine ⟨kpV vl x t,g+1,⟨rfl,aE9 hsn aqR,⟨1-w,1024-(5+(BI (Ht vl x t)).length),DQ g (vl.map Ar) k,?_⟩,?_⟩,.inr rfl,hsn,λhz=>(ho hz).1⟩
  ·rw [<-aPy]
   exact hj.rew A0 (λd hd=>by rw [aPy] at hd;obtain ⟨y,_,rfl⟩:=Eg.1 hd;exact ⟨qx y,by rw [K4];omega⟩) hfit
  ·have:((kpV vl x t).map (·.1)).getLastD 0=x.1:=by
    unfold kpV;rw [<-CZ,I2,V6]
    simp
   rw [this];omega
 ·have hap:Em 512 fl (Ar x)=0:=by
   unfold Em;exact aLG
  have har:HE 512 fl (Ar x)=Gc 512 fl (Ar x):=by
   unfold HE;exact aLG
  rw [hap,AE Aa,har] at hL;rw [hL,aDr (y:=(0,[])) asR,aEE]
  have hk:19<=k:=by
   unfold Lr at c3;rw [hj.half,hj.lk,K4,pq] at c3
   simp at c3
   omega
  refine ⟨vl++[x],g,⟨rfl,hsn,⟨w,k-(7+(Ar x).length),O,?_⟩,?_⟩,.inl rfl,hsn,λhz=>(ho hz).1⟩
  ·have:=hj.app (qx x) (by rw [K4];omega) (by rw [K4];exact hk)
   rw [I2,E8,Ks];simp only;exact this
  ·rw [I2,V6]
   simp
   omega
def Er (se:Int) (n:Nat) (y:Fl):Prop:=y.1=se/\y.2.length=n/\BE y.2
def cr {se:Int}{fl:List Int}{a:Int}{d:List Int}{n:Nat}(h:Er se n (se,fl)):∀y∈Dg se fl a d,Er se n y:=by
 intro y hy;obtain ⟨k,_,rfl⟩:=Eg.1 hy;exact ⟨rfl,(Sq _ _ _ _).trans h.2.1,qv h.2.2 _ _ _⟩
def azs {se:Int}{fl:List Int}{s:Int}{n:Nat}(h:Er se n (se,fl)):∀y∈Kf se fl s,Er se n y:=by
 intro y hy;obtain ⟨k,_,rfl⟩:=Eg.1 hy;exact ⟨rfl,(bY _ _ _).trans h.2.1,aRA h.2.2 _ _⟩
def qB {se:Int}{f0:List Int}{n:Nat}:∀(m:Nat) (s:Int) (a:List Fl×List Int),(∀y∈a.1,Er se n y)->Er se n (se,a.2)->(∀y∈(FV se f0 s m a).1,Er se n y)/\Er se n (se,(FV se f0 s m a).2)
 |0,_,_,h1,h2=>⟨h1,h2⟩
 | m+1,s,a,h1,h2=>by
  unfold FV;split
  ·refine qB m (s+1) _ (λy hy=>?_) ⟨rfl,(bY _ _ _).trans h2.2.1,aRA h2.2.2 _ _⟩
   rcases Bp.1 hy with hy|hy
   ·exact h1 y hy
   ·exact azs h2 y (Pa hy)
  ·exact qB m (s+1) a h1 h2
def ahL {se:Int}{fl d:List Int}{n:Nat}(h:Er se n (se,fl)):∀y∈Gc se fl d,Er se n y:=by
 intro y hy;rcases Bp.1 hy with hy|hy
 ·exact cr h y hy
 ·exact cr ⟨rfl,(Sq _ _ _ _).trans h.2.1,qv h.2.2 _ _ _⟩ y (Pa hy)
def aJ7 {se:Int}{fl:List Int}{ds:List (List Int)}{n:Nat}(h:Er se n (se,fl)):∀y∈Fo se fl ds,Er se n y:=by
 intro y hy;unfold Fo at hy;split at hy
 ·obtain ⟨k1,k2⟩:=qB (se:=se) (f0:=fl) (n:=n) (((fl.length / 2:Nat):Int).tdiv se).toNat ((1-Ak fl)*((fl.length / 2:Nat):Int).tdiv se) ([(se,fl)],fl) (λy hy=>by simp only [Kp] at hy;subst hy;exact h) h
  rcases Bp.1 hy with hy|hy
  ·exact k1 y hy
  ·rcases Bp.1 hy with hy|hy
   ·exact cr k2 y (Pa hy)
   ·exact cr ⟨rfl,(Sq _ _ _ _).trans k2.2.1,qv k2.2.2 _ _ _⟩ y (Pa hy)
 ·cases hy
def qL {se:Int}{f0:List Int}:∀(m:Nat) (s:Int) (a:List Fl×List Int),a.1≠ []->(FV se f0 s m a).1≠ []
 |0,_,_,h=>h
 |m+1,s,a,h=>by
  unfold FV;split
  ·exact qL m _ _ kf
  ·exact qL m _ _ h
def aJ6 {se:Int}{fl:List Int}{ds:List (List Int)}(h:Fp se fl ds=0):Fo se fl ds≠ []:=by
 unfold Fo;rw [AE h]
 have:=qL (se:=se) (f0:=fl) (((fl.length / 2:Nat):Int).tdiv se).toNat ((1-Ak fl)*((fl.length / 2:Nat):Int).tdiv se) ([(se,fl)],fl) AJ
 intro hh;rw [List.append_eq_nil_iff] at hh;exact this hh.1
def ahK {se:Int}{fl d:List Int}:Gc se fl d≠ []:=by
 unfold Gc Dg;rw [OA]
 simp
def aaf {se:Int}{fl:List Int}{x:Le}{t:Int}{n:Nat}(h:Er se n (se,fl)):(∀y∈Cf se fl x t,Er se n y)/\(EG se fl x t=0->Cf se fl x t≠ []):=by
 have ha:(∀y∈HE se fl (Ar x),Er se n y)/\(Em se fl (Ar x)=0->HE se fl (Ar x)≠ []):=by
  unfold HE Em
  by_cases h1:Bl se fl≠0
  ·exact aLI
  ·rw [AD h1,AD h1]
   by_cases h2:Lr se fl (Ar x)=true
   ·rw [AE h2,AE h2];exact ⟨λy hy=>(by cases hy),λhh=>(by cases hh)⟩
   ·rw [AD h2,AD h2]
    by_cases h3:Lo fl=true
    ·rw [AE h3,AE h3];exact ⟨ahL h,λ_=>ahK⟩
    ·rw [AD h3,AD h3];exact ⟨aJ7 h,aJ6⟩
 unfold Cf EG
 by_cases h1:CS se fl≠0
 ·exact aLI
 ·rw [AD h1,AD h1]
  split
  ·exact aM8
  ·split
   ·exact aM8
   ·split
    ·exact ha
    ·exact ⟨aJ7 h,aJ6⟩
structure SnI (s:SN) (n:Nat):Prop where
 fl:Er 512 2048 (s.se,s.fl)
 ls:s.ls.length<=64
 lk:s.lk.length<=n
def an3 {l:List Le}{x:Le}(h:FB l x=0):(JW l x).length<=64:=by
 unfold JW;rw [AE h];unfold FB at h;split at h
 ·rename_i hv
  rw [AU] at hv
  have:=(Ib hv.1).1
  split at h
  ·cases h
  ·split at h
   ·cases h
   ·simp;omega
 ·cases h
def auh {t:Int}{s:SN}{x:Le}{n:Nat}(h:SnI s n):SnI (Gt t s x) (n+1):=by
 unfold Gt;split
 ·rename_i hc
  have hs:Er s.se 2048 (s.se,s.fl):=⟨rfl,h.fl.2.1,h.fl.2.2⟩
  obtain ⟨k1,k2⟩:=aaf (x:=x) (t:=t) hs
  have hne:=Ms.2 (k2 hc.2)
  have hm:G4 (Cf s.se s.fl x t) (((Cf s.se s.fl x t).length:Int)-1)∈Cf s.se s.fl x t:=by
   unfold G4;rw [MO A0];exact FK _
  obtain ⟨m1,m2,m3⟩:=k1 _ hm;exact ⟨⟨m1.trans h.fl.1,m2,m3⟩,an3 hc.1,by have:=h.lk;simp;omega⟩
 ·exact ⟨h.fl,h.ls,by have:=h.lk;omega⟩
def aJH {t:Int}{xs:List Le}{s:SN}{n:Nat}(h:SnI s n):∀k,SnI (Jb t xs s k) (n+k)
 |0=>h
 |k+1=>auh (aJH h k)
structure RQ (p:PK):Prop where
 fl:Er 512 2048 (p.se,p.fl)
 ls:p.ls.length<=64
 lk:(p.lk.length:Int)<=16*p.tk
 ra:p.ra.length<=16
 dm:∀x∈p.dm,Gj x=true
 mi:∀m∈p.mi,m.1.length<=21
def aDx {l:List Le}{t:Int}:(Bj l t).length<=l.length:=by
 unfold Bj;split
 ·exact ZO _ _
 ·simp
def arN {l:List Le}{t:Int}:(Hv l t).length<=l.length:=by
 unfold Hv;split
 ·exact aDx
 ·exact At _
def aQr {p:PK}:p.dL.length<=p.gs.length:=by
 unfold PK.dL deL;split
 ·exact aBY
 ·simp
def azT {p:PK}:p.dR.length<=p.gs.length:=by
 unfold PK.dR deR;split
 ·exact jL cS
 ·simp
def aRI {p:PK}(h:RQ p) (hg:p.gs.length<=16):Er 512 2048 (p.AV.se,p.AV.fl)/\p.AV.ls.length<=64/\(p.AV.lk.length:Int)<=16*p.tk+16/\p.AV.ra.length<=16:=by
 have hl:=h.lk
 have he:(Hv p.ls p.tk).length<=64:=G8 arN h.ls
 unfold PK.AV;split
 ·exact ⟨h.fl,h.ls,A0,h.ra⟩
 ·split
  ·exact ⟨h.fl,he,AP,h.ra⟩
  ·have hs:SnI p.II p.lk.length:=⟨h.fl,he,At _⟩
   have h1:=aJH (t:=p.tk) (xs:=p.dL) hs p.dL.length
   have hd:=aQr (p:=p)
   exact ⟨h1.fl,h1.ls,by have:=h1.lk;show ((Jb p.tk p.dL p.II p.dL.length).lk.length:Int)<=_;omega,G8 azT hg⟩
def mem_set {α:Type}{l:List α}{i:Nat}{x y:α}(h:y∈l.set i x):y∈l\/y=x:=SC h
def ar1 (c:Ca) (m:Mi) (p al:Int):(IQ c m p al).1.length<=21\/m.1.length>21:=by
 unfold IQ;split
 ·rename_i hB
  have:=(cA.1 (cR.1 hB).2.1).1
  refine .inl ?_;simp only [dwP,DE,B0,BX,Bh];omega
 ·exact .inl AJ
def aRC {gs:List Ch}{ca:List Ca}{s:DW}(h:∀m∈s.mi,m.1.length<=21):∀k,∀m∈(Dh gs ca s k).mi,m.1.length<=21
 |0=>h
 | k + 1=>by
  have ih:=aRC (gs:=gs) (ca:=ca) h k
  unfold Dh Fc;split
  ·exact ih
  ·split
   ·intro m hm
    rcases mem_set hm with hm|rfl
    ·exact ih m hm
    ·rcases ar1 (BS ca k) (BC (Dh gs ca s k).mi k) (AH gs k).2.2.1 (Bi (AH gs k) (BP (Dh gs ca s k).st k)) with e|e
     ·exact e
     ·exfalso
      have:(BC (Dh gs ca s k).mi k).1.length<=21:=by
       unfold BC;rw [Cx];cases hx:(Dh gs ca s k).mi[(k:Int).toNat]? with
       |none=>simp
       |some y=>exact ih y (PZ hx)
      omega
   ·exact ih
def aqO {se:Int}{fl:List Int}:(BJ se fl).length<=64:=by
 unfold BJ;split
 ·rename_i h
  unfold CS at h;split at h
  ·cases h
  ·split at h
   ·rename_i h1;exact absurd h h1
   ·split at h
    ·split at h
     ·rename_i h3;exact (Ib h3).1
     ·cases h
    ·cases h
 ·simp
def RQ.tick {p:PK}(h:RQ p) (hv:VP p):RQ p.FQ:=by
 have hg:=(D9.1 hv.site).1.2.2.2.2.1
 obtain ⟨h1,h2,h3,h4⟩:=aRI h hg;obtain ⟨e1,e2,e3,e4,e5,e6,e7,e8,e9,e10,e11,e12,e13,e14⟩:=Sg p;refine ⟨h1,h2,?_,h4,?_,?_⟩
 ·show ((p.AV.lk.filter _).length:Int)<=16*(p.AV.tk+1)
  have:=ZO (λl:Lk=>decide (l.1>p.AV.tk)) p.AV.lk
  rw [e6] at this|-;omega
 ·show ∀x∈p.AV.dm,_
  rw [e12];exact h.dm
 ·refine aRC ?_ _
  show ∀m∈p.AV.mi,_
  rw [e10];exact h.mi
def RQ.step {p:PK}(h:RQ p) (hv:VP p) {e:EV}(he:BR p e=0):RQ (B4 p e):=by
 have hg:=(D9.1 hv.site).1.2.2.2.2.1
 unfold B4;rw [AD A0];unfold BR at he;rw [AD (by rw [W2.2 hv];decide)] at he
 split
 ·exact h.tick hv
 rename_i h1;rw [AD h1] at he;split
 ·rename_i h2
  rw [AE h2] at he
  have hd:Gj e.d=true:=by
   unfold PK.Gn at he;split at he
   ·cases he
   ·split at he
    ·cases he
    ·rename_i hb
     simpa using (by simpa using hb:Fs e.c=true/\Gj e.d=true).2
  refine {h with dm:=λx hx=>?_,mi:=λm hm=>?_}
  ·rcases mem_set hx with hx|rfl
   ·exact h.dm x hx
   ·exact hd
  ·exact aMC
 rename_i h2;rw [AD h2] at he;split
 ·refine {h with dm:=λx hx=>?_,mi:=λm hm=>?_}
  ·rcases mem_set hx with hx|rfl
   ·exact h.dm x hx
   ·decide
  ·exact aMC
 rename_i h3;rw [AD h3] at he;split
 ·have:=ZO (λl:Lk=>l.2.2.1 !=e.en) p.lk
  exact {h with lk:=by show ((p.lk.filter _).length:Int)<=16*p.tk;have:=h.lk;omega}
 rename_i h4;rw [AD h4] at he;split
 ·exact {h with ls:=by simp [PK.Qj]}
 rename_i h5;rw [AD h5] at he;split
 ·exact {h with ls:=G8 aDx aqO,ra:=by simp [PK.XJ];omega}
 rename_i h6;rw [AD h6] at he;split
 ·exact {h with}
 ·exact {h with}
def aQC {cs:List Cd}{os:List ByteArray}{ks:List Ko}{gs:List Ch}{bs:List Ba}{dr:List Int}(h:E5 cs os ks gs bs dr=0):VP (newP cs os ks gs bs dr)/\RQ (newP cs os ks gs bs dr):=by
 unfold newP;rw [AD A0];unfold E5 at h;split at h
 ·cases h
 rename_i h1;simp only [not_or,ZW,ne_eq,Decidable.not_not] at h1;split at h
 ·cases h
 rename_i h2;simp only [ZW] at h2
 have hb:BE ET:=by
  unfold ET DQ;rw [K2,K2,K2,Pu];exact ⟨⟨⟨Aa,W5 _⟩,pt (λd hd=>VX),cU _⟩,cU _⟩
 have hl:ET.length=2048:=aNO
 refine ⟨⟨h1.1,AJ,AJ,AJ,AJ,by simp [Ek],AJ,h1.2,AJ,λk hk=>?_,h2,λl hl=>by cases hl⟩,⟨⟨rfl,hl,hb⟩,AJ,AJ,by simp;exact (D9.1 h1.1).1.2.2.2.2.1,λx hx=>?_,λm hm=>?_⟩⟩
 ·simp only [Fv] at hk
  have e:gi (cs.map (λc=>c.2.2.1)) (k:Int)=(Ag cs k).2.2.1:=by
   unfold gi Ag
   simp [hk]
  simp only [e];exact ⟨(tt h1.1 hk).1,Gl _⟩
 ·obtain ⟨_,rfl⟩:=Pb.1 hx;decide
 ·obtain ⟨_,rfl⟩:=Pb.1 hm;simp
def aDy {se:Int}{f0:List Int}:∀(n:Nat) (s:Int) (a:List Fl×List Int),(FV se f0 s n a).1.length<=a.1.length+n*se.toNat
 |0,s,a=>by simp [FV]
 | n+1,s,a=>by
  unfold FV
  have h:=aDy (se:=se) (f0:=f0) n (s+1) (if isW se f0 s=true then (a.1++(Kf se a.2 s).drop 1,Ee a.2 (s*se) se.toNat) else a)
  rw [Nat.succ_mul];split at h
  ·rename_i c
   rw [AE c]
   have e:((Kf se a.2 s).drop 1).length=se.toNat:=by unfold Kf;rw [DE,Fv,S9];omega
   simp only [B0] at h;rw [e] at h;omega
  ·rename_i c
   rw [AD c];omega
def po (se:Int) (fl:List Int) (a:Int) (d:List Int):((Dg se fl a d).drop 1).length=d.length:=by
 unfold Dg;rw [DE,Fv,S9];omega
def aGD {fl:List Int}{ds:List (List Int)}(hl:fl.length=2048) (hE:Fp 512 fl ds=0):(Fo 512 fl ds).length<=5000:=by
 have hF:Kc fl ds=true:=by
  unfold Fp at hE;split at hE
  ·rename_i h;exact absurd hE h
  ·split at hE
   ·cases hE
   ·rename_i h
    cases e:Kc fl ds
    ·rw [e] at h;exact absurd rfl h
    ·rfl
 have hb:(Ed fl ds).length<=1100:=by
  unfold Kc at hF;rw [AU,AY] at hF;unfold Ed;rw [B0,og]
  have:(Cu (Iv fl (Ak fl)+1)).length=4:=rfl
  omega
 have he:(Ge 512 fl).1.length<=1025:=by
  unfold Ge;refine G8 (aDy _ _ _) ?_;rw [hl]
  show 1+(((2048 / 2:Nat):Int).tdiv 512).toNat*(512:Int).toNat<=1025
  decide
 unfold Fo;rw [AE hE,B0,B0,po,po];simp only [BX,Bh];omega
def ao1 {se:Int}{fl:List Int}{x:Le}{t:Int}(h:Er 512 2048 (se,fl)) (hE:EG se fl x t=0):(Cf se fl x t).length<=5000:=by
 have hs:se=512:=h.1
 subst hs
 have hl:fl.length=2048:=h.2.1
 unfold EG at hE;unfold Cf;split at hE
 ·rename_i h1;exact absurd hE h1
 rename_i h1;rw [AD h1];split at hE
 ·cases hE
 rename_i h2;rw [AD h2];split at hE
 ·cases hE
 rename_i h3;rw [AD h3];split at hE
 ·rename_i h4
  rw [AE h4];unfold Em at hE;unfold HE;split at hE
  ·rename_i h5;exact absurd hE h5
  rename_i h5;rw [AD h5];split at hE
  ·cases hE
  rename_i h6;rw [AD h6];split at hE
  ·rename_i h7
   rw [AE h7];unfold Gc;rw [B0,po];unfold Dg;rw [Fv,S9,DE,M5,K4]
   decide
  ·rename_i h7
   rw [AD h7];exact aGD hl hE
 ·rename_i h4
  rw [AD h4];exact aGD hl hE
def VK (se:Int) (fl:List Int):Prop:=Er 512 2048 (se,fl)/\∃vl g,VI se fl vl g
def VK.cl {se:Int}{fl:List Int}(h:VK se fl):Lo fl=true:=by
 obtain ⟨_,vl,g,hv⟩:=h;obtain ⟨w,k,O,hj⟩:=hv.ji;exact hj.cl
def VK.st {se:Int}{fl:List Int}{x:Le}{t:Int}(h:VK se fl) (hE:EG se fl x t=0):letI b:=Cf se fl x t;letI a:=(G4 b ((b.length:Int)-1));0<b.length/\VK a.1 a.2:=by
 obtain ⟨hf,vl,g,hv⟩:=h;obtain ⟨vl',g',h1,_⟩:=ai3 hv hE
 have hn:=(aaf (x:=x) (t:=t) (show Er se 2048 (se,fl) from ⟨rfl,hf.2.1,hf.2.2⟩))
 have hp:0<(Cf se fl x t).length:=Ms.2 (hn.2 hE)
 refine ⟨hp,?_,vl',g',h1⟩
 have hm:G4 (Cf se fl x t) (((Cf se fl x t).length:Int)-1)∈Cf se fl x t:=by
  unfold G4;rw [Cx,DF A0];exact FK _
 have hq:=hn.1 _ hm
 exact ⟨by rw [hq.1];exact hf.1,hq.2.1,hq.2.2⟩
def AQ {α:Type}(l:List α):List α:=(l.drop 0).take l.length
def FP {α:Type}(l:List α):AQ l=l:=Sw l
def cpC (l:List Cd):List Cd:=B7 (AQ l) (List.replicate (l.length:Int).toNat (ByteArray.empty,((0:Int),((0:Int),((0:Int),(((0:Int),(0:Int)),((0:Int),((0:Int),((0:Int),((0:Int),(0:Int)))))))))))
def Wz (l:List Cd):cpC l=l:=by
 unfold cpC;rw [FP];exact Q7
structure PB where
 (n i:Int)
 p:PK
 ev:EW
 BW:List ByteArray
 C0:List Ko
 BH:List Ch
 C1:List Ba
 o:List Cd
def eR (s:PB):T (Rd PB):=letI b:=s.o.getD s.i.toNat (Ty.dflt Ao);letI a:=(s.o.set s.i.toNat (b.1,(b.2.1,((s.p.tg.getD s.i.toNat (Ty.dflt A7)),b.2.2.2))));.br (decide (s.i<s.n)) (.ik s.i (s.p.tg.length) (.ik s.i (s.o.length) (.rl s.p.tg (.rl s.p.cs (.rl s.p.fl (.rl s.p.ra (.pb s.p (.re (s.o.length) a (.nx {s with i:=A9 (s.i+1),o:=a}))))))))) (.rl s.p.tg (.rl s.p.cs (.rl s.p.fl (.rl s.p.ra (.pb s.p (.rl s.o (.so (.exit 0) s)))))))
def iG (s:PB):Prop:=s.i=0/\s.n=(s.p.tg.length:Int)/\s.p.tg.length=s.p.cs.length/\s.n<=1000/\s.o=GU s.p.cs s.p.tg s.i.toNat
def Yz (s:PB):Prop:=(0<=s.i/\s.i<=s.n)/\s.n=(s.p.tg.length:Int)/\s.p.tg.length=s.p.cs.length/\s.n<=1000/\s.o=GU s.p.cs s.p.tg s.i.toNat
def tZ (s:PB):Nat:=(s.n-s.i).toNat
def zc (x:Ex) (s s':PB):Prop:=x=.exit 0/\s'.o=GU s'.p.cs s'.p.tg s'.p.tg.length
def alL:∀s,iG s->Yz s:=by
 exact aL7
def azS:Da Yz tZ zc eR:=by
 intro s hI;unfold eR;dsimp only [T.rd,T.rl,T.rv];obtain ⟨⟨h0,h1⟩,h2,h3,h4,h5⟩:=hI
 have hl:s.o.length=s.p.cs.length:=kK
 refine AG (λc1=>?_) (λc1=>?_)
 ·have c1:s.i<s.n:=AO
  rw [AI (x:=s.i+1)];refine ⟨⟨⟨AP,AP⟩,h2,h3,h4,?_⟩,by simp only [tZ];omega⟩
  show s.o.set s.i.toNat _=GU s.p.cs s.p.tg (s.i+1).toNat
  exact aKG
 ·have c1:s.n<=s.i:=AO
  refine ⟨rfl,?_⟩;rw [h5,show s.i.toNat=s.p.tg.length by omega]
def UE:AS PB:=⟨18,34,[2,3,19,20,21],[],λs=>[.own 18 0,.own 19 0,.os 15 1 0 (s.p.tg.length),s.n,s.i],λs=>kB 4 0 6 7 8 9 10 11 12 13 14 15 s.p s.ev Dd++[Bg,⟨[.v (.slice none 0 0),.v (.slice none 0 0),.v (.slice none 0 0),.v (.slice none 0 0),.v (.slice none 0 0)],28,.cl,false⟩,⟨[.os 20 11 0 (s.o.length),s.BW,s.C0,s.BH,s.C1],28,.cl,false⟩,bV 74 Ao s.o],λv b=>⟨AK v 3,AK v 4,rB b 16 4 0 6 7 8 9 10 11 12 13 14 15,rG b,AF .str b 19 1,AF B8 b 19 2,AF Au b 19 3,AF B9 b 19 4,Ab Ao b 20⟩,eR,λs r=> {s with i:=r.i,o:=r.o},λs=>s,λ_ s=>s,[.exit 0],iG,Yz,tZ⟩
abbrev pe:=UE.run
abbrev arH:=UE.Am
def Oe:List Bd:=[]
def ayw:As:=kI Oe (la 9 func19 Ck (l0 Oe))
def awu:Rq Yz eR:=by
 intro s hI;refine ⟨λc1=>⟨?_,?_,?_,?_,A8,A8,A8,A8,A8,A8,A8,A8,A8,A8,A8,A8,?_,trivial⟩,λc1=>⟨A8,A8,A8,A8,A8,A8,A8,A8,A8,A8,A8,A8,A8,trivial⟩⟩
 all_goals ((obtain ⟨⟨h0,h1⟩,h2,h3,h4,h5⟩:=hI;have hl:s.o.length=s.p.cs.length:=kK;(try simp only [AY] at c1);first|omega|exact ⟨rfl,rfl⟩ |exact ⟨rfl,AJ⟩))
def aPW:UE.Ok:={}
def aP7:UE.Pf (zc):=⟨alL,λs h=>rfl,azS,awu⟩
def aFx:=s2 (b:=bN f63 0) aPW aP7 Oe ayw
def asl:Fi iG Yz zc arH pe:=AS.fin aPW aP7
structure LJ where
 p:PK
 ev:EW
def UX (s:LJ):List LV:=[.own 16 0]
def ZC (s:LJ):List AB:=kB 4 0 6 7 8 9 10 11 12 13 14 15 s.p s.ev Dd++[Bg]
def nK (s:LJ):PB:=(⟨((s.p.tg.length:Nat):Int),0,s.p,s.ev,s.p.os,s.p.ks,s.p.gs,s.p.bs,cpC s.p.cs⟩:PB)
structure Xm where
 so:List ByteArray
 sk:List Ko
 sg:List Ch
 sb:List Ba
 p:PK
 ev:EW
 o:List Cd
def acC (s:Xm):LV:=.agg [.os 18 11 0 (s.o.length),s.so,s.sk,s.sg,s.sb]
def acw (s:Xm):List AB:=kB 4 0 6 7 8 9 10 11 12 13 14 15 s.p s.ev Dd++[Bg,bV 74 Ao s.o]
def fY (s:LJ):T Xm:=letI a:=((s.p.cs.length:Nat):Int);.rm 96 a (.rz s.p.cs (.rc a (ByteArray.empty,((0:Int),((0:Int),((0:Int),(((0:Int),(0:Int)),((0:Int),((0:Int),((0:Int),((0:Int),(0:Int)))))))))) (List.length (AQ s.p.cs)) (.rl s.p.tg (.rl s.p.cs (.rl s.p.fl (.rl s.p.ra (.pb s.p (.re a.toNat (cpC s.p.cs) (.req (UE.q (nK s)) (.rl s.p.cs (.rl s.p.fl (.rl s.p.ra (.pb s.p (.ok (⟨s.p.os,s.p.ks,s.p.gs,s.p.bs,s.p,s.ev,(pe (nK s)).o⟩)))))))))))))))
def iL (s:LJ):Prop:=s.p.tg.length=s.p.cs.length/\s.p.tg.length<=1000
def abS (s:LJ):Xm:=⟨s.p.os,s.p.ks,s.p.gs,s.p.bs,s.p,s.ev,GU s.p.cs s.p.tg (s.p.tg.length)⟩
def iR:Cw LJ Xm:=⟨UX,ZC,λv b=>⟨rB b 16 4 0 6 7 8 9 10 11 12 13 14 15,rG b⟩,iL,[0,1,3,5,17],[],acC,acw,abS⟩
abbrev ai2 (s:LJ):Prop:=iL s/\UX s=UX s/\ZC s=ZC s
def aQa:As:=kI Oe (la 4 func63 aFx (la 9 func19 Ck (l0 Oe)))
def aa6:DI:=CQ 63 18 4 (UE.lp) (CQ 19 0 9 (GS.lp) (Dp prog AT Oe 20 2))
def anX:ED prog AT aa6:=DB func63 rfl AZ aFx (DB func19 rfl AZ Ck (HW (gk Oe)))
def ay5 (s:LJ):((EO prog AT Oe aa6 aQa).k 63 (UX s) (ZC s)).bind (λq=>G2 (ZC s).length [0] [] .normal (q.1::UX s) q.2)=(fY s).mp (λs2=>⟨.normal,(UX s).length+1,[acC s2],acw s2,true⟩):=AZ
def auS (s:LJ) (hE:iL s):(fY s).all (λq=>q=abS s):=by
 obtain ⟨ht,hn⟩:=hE
 have hA:iG (nK s):=⟨rfl,rfl,ht,aMl,Wz _⟩
 obtain ⟨_,_,_,q2⟩:=asl _ hA
 have q2:(pe (nK s)).o=s.p.JC:=q2
 unfold fY;simp only [FP,Wz,q2]
 repeat (refine ⟨Cm,?_⟩)
 refine ⟨⟨hA,rfl,rfl⟩,?_⟩
 repeat (refine ⟨Cm,?_⟩)
 rfl
def aQu:DU prog AT 63 iR.m:=Cw.sound (D:=iR) (t:=fY) (gk Oe) anX aQa.h ay5 (λs hE=>⟨auS s hE⟩)
structure Nm where
 xs:List Le
 (n i:Int)
 p:PK
 ev:EW
def Th (s:Nm):T (Rd Nm):=letI c:=An s.xs s.i;letI e:=A9 (s.i+1);letI a:=((A9 (s.p.tk+((A9 ((A9 (7*s.p.tk))+(A9 (3*c.2.1)))).tmod 5))),c);letI b:=Cf s.p.se s.p.fl c s.p.tk;letI d:=(A9 ((List.length b:Int)-1));.br (decide (s.i<s.n)) (.ix s.i (s.xs.length) (.br ((FB s.p.ls c) !=0) (.rl s.p.cs (.rl s.p.st (.rl s.p.ca (.rl s.p.mi (.rl s.p.me (.rl s.p.lk (.rl s.p.dr (.rl s.p.tg (.nx {s with i:=e}))))))))) (.req (BE s.p.fl/\(Bl s.p.se s.p.fl=0->Lo s.p.fl=true)) (.br ((EG s.p.se s.p.fl c s.p.tk) !=0) (.rl s.p.cs (.rl s.p.st (.rl s.p.ca (.rl s.p.mi (.rl s.p.me (.rl s.p.lk (.rl s.p.dr (.rl s.p.tg (.nx {s with i:=e}))))))))) (.ix d (List.length b) (.req ((5:Int)≠0) (.rb (s.p.lk.length) (List.length ([a])) 48 (.rl s.p.cs (.rl s.p.st (.rl s.p.ca (.rl s.p.mi (.rl s.p.me (.re (s.p.lk.length+List.length ([a])) (s.p.lk++([a])) (.rl s.p.dr (.rl s.p.tg (.nx {s with i:=e,p.ls:=JW s.p.ls c,p.se:=(G4 b d).1,p.fl:=(G4 b d).2,p.nx:=A9 (c.1+1),p.lk:=s.p.lk++([a])})))))))))))))))) (.rl s.p.cs (.rl s.p.st (.rl s.p.ca (.rl s.p.mi (.rl s.p.me (.rl s.p.lk (.rl s.p.dr (.rl s.p.tg (.so (.exit 0) s)))))))))
def LK (p:PK) (xs:List Le):PK:=letI a:=(xs.foldl (Gt p.tk) ⟨p.ls,p.se,p.fl,p.nx,p.lk⟩);{p with ls:=a.ls,se:=a.se,fl:=a.fl,nx:=a.nx,lk:=a.lk}
def DH {a b:Int}(h:(a !=b)=false):a=b:=by simpa using h
def oE {p:PK}{x:Le}(h:VK p.se p.fl) (hE:EG p.se p.fl x p.tk=0):letI a:=Cf p.se p.fl x p.tk;A9 ((a.length:Int)-1)=(a.length:Int)-1/\0<a.length:=by
 have h1:=ao1 h.1 hE
 have h2:=(h.st hE).1
 exact ⟨AI,h2⟩
def ai4 {se:Int}{fl:List Int}{x:Le}{t:Int}(h:EG se fl x t=0):0<=x.1/\x.1<=1000000:=by
 unfold EG at h;split at h
 ·rename_i h1;exact absurd h h1
 ·split at h
  ·cases h
  ·rename_i h1
   have:D7 x=true:=by
    cases e:D7 x
    ·rw [e] at h1;exact absurd rfl h1
    ·rfl
   have:=Q1.1 this
   omega
def ayI {l:List Le}{i:Int}(h0:0<=i) (h:i<l.length):An l i∈l:=OT h0 h
def azL {t c:Int}(ht:0<=t/\t<=1000000) (hc:0<=c/\c<=100):A9 (t+(A9 (A9 (7*t)+A9 (3*c))).tmod 5)=t+(7*t+3*c).tmod 5:=by
 rw [AI (x:=7*t),AI (x:=3*c),AI (x:=7*t+3*c)]
 have:=Int.tmod_nonneg 5 (show 0<=7*t+3*c by omega)
 have:=Int.tmod_lt_of_pos (7*t+3*c) (show (0:Int)<5 by decide)
 exact AI
def hU (s:Nm):Prop:=s.i=0/\s.n=(s.xs.length:Int)/\s.n<=16/\(∀x∈s.xs,0<=x.2.1/\x.2.1<=100)/\(0<=s.p.tk/\s.p.tk<=1000000)/\VK s.p.se s.p.fl/\(s.p.lk.length:Int)<=17000000+s.i
def gZ (s:Nm):Prop:=(0<=s.i/\s.i<=s.n)/\s.n=(s.xs.length:Int)/\s.n<=16/\(∀x∈s.xs,0<=x.2.1/\x.2.1<=100)/\(0<=s.p.tk/\s.p.tk<=1000000)/\VK s.p.se s.p.fl/\(s.p.lk.length:Int)<=17000000+s.i
def dZ (s:Nm):Nat:=(s.n-s.i).toNat
def ad5 (x:Ex) (s s':Nm):Prop:=True
def alA:∀s,hU s->gZ s:=by
 exact aM3
def azG:Da gZ dZ ad5 Th:=by
 intro s hI;unfold Th;dsimp only [T.rd,T.rl,T.rv];obtain ⟨⟨h0,h1⟩,h2,h3,h4,h5,h6,h7⟩:=hI;refine AG (λc1=>AG (λc2=>?_) (λc2=>AG (λc3=>?_) (λc3=>?_))) (λc1=>trivial)
 all_goals have c1:s.i<s.n:=AO
 all_goals rw [AI (x:=s.i+1)]
 iterate 2
  ·exact ⟨⟨⟨AP,AP⟩,h2,h3,h4,h5,h6,AP⟩,by simp only [dZ];omega⟩
 ·rw [(oE h6 (DH c3)).1]
  exact ⟨⟨⟨AP,AP⟩,h2,h3,h4,h5,(h6.st (DH c3)).2,Zp⟩,by simp only [dZ];omega⟩
def UC:AS Nm:=⟨18,85,[0,75,76,77],[.pc 16 7 AX,.kb 5,.pc 16 9 (.int .u8),.kb 6,.pc 16 10 BD,.kb 7,.pc 16 16 BO,.kb 12,.ms 0 17],λs=>[.own 16 0,s.xs,s.n,s.i],λs=>[Bg,Bg,zB,Bg,bV 74 Ao s.p.cs,Bg,Bg,Bg,bV 85 Bu s.p.st,bV 55 AX s.p.ca,bV 53 By s.p.mi,bV 51 D6 s.p.me,Bg,⟨[],127,.dead,false⟩,bV 3 A7 s.p.dr,bV 3 A7 s.p.tg,⟨[.os 4 11 0 (s.p.cs.length),.xl .str s.p.os,.xl B8 s.p.ks,.xl Au s.p.gs,.xl B9 s.p.bs,.v (.int .i64 s.p.tk),.v (.bool s.p.up),.xl AX s.p.ls,.v (.int .i64 s.p.se),.xl (.int .u8) s.p.fl,.xl BD s.p.ra,.v (.int .i64 s.p.nx),.os 8 4 0 (s.p.st.length),.os 9 5 0 (s.p.ca.length),.os 10 3 0 (s.p.mi.length),.os 11 3 0 (s.p.me.length),.xl BO s.p.dm,.os 18 6 0 (s.p.lk.length),.os 14 1 0 (s.p.dr.length),.os 15 1 0 (s.p.tg.length),.v (.int .i64 s.ev.ek),.v (.int .i64 s.ev.en),.v (.int .i64 s.ev.em),.v (.int .i64 s.ev.c1),.v (.int .i64 s.ev.c2),.v (.int .i64 s.ev.c3),.v (.int .i64 s.ev.c4),.v (.int .i64 s.ev.c5),.v (.bool s.ev.d1),.v (.int .i64 s.ev.d2),.v (.int .i64 s.ev.d3),.v (.int .i64 s.ev.d4),.v (.slice none 0 0)],99,.cl,false⟩,Bg,bV 127 Cp s.p.lk],λv b=>⟨Az AX v 1,AK v 2,AK v 3,rB b 16 4 0 0 0 8 9 10 11 0 18 14 15,rG b⟩,Th,λs r=> {s with i:=r.i,p.ls:=r.p.ls,p.se:=r.p.se,p.fl:=r.p.fl,p.nx:=r.p.nx,p.lk:=r.p.lk},λs=>s,λ_ s=>s,[.exit 0],hU,gZ,dZ⟩
abbrev aB3:=UC.run
abbrev ar9:=UC.Am
def uC:List Bd:=[cz,aJ0,aaI,aag]
def ayv:As:=Hu uC (la 9 func19 Ck (l0 uC)) [⟨63,iR.m,aQu⟩]
def avL:Rq gZ Th:=by
 intro s hI;refine ⟨λc1=>⟨?_,λc2=>⟨A8,A8,A8,A8,A8,A8,A8,A8,trivial⟩,λc2=>⟨?_,λc3=>⟨A8,A8,A8,A8,A8,A8,A8,A8,trivial⟩,λc3=>⟨?_,?_,?_,A8,A8,A8,A8,A8,?_,A8,A8,trivial⟩⟩⟩,λc1=>⟨A8,A8,A8,A8,A8,A8,A8,A8,trivial⟩⟩
 all_goals ((obtain ⟨⟨h0,h1⟩,h2,h3,h4,h5,h6,h7⟩:=hI;simp only [AY] at c1;first|omega|exact ⟨rfl,rfl⟩ |exact ⟨h6.1.2.2,λ_=>h6.cl⟩ |(simp only [BX,Bh,B0];omega) |(simp only [B0,BX,Bh,E9];done) |(rw [(oE h6 (DH c3)).1];have:=(oE h6 (DH c3)).2;omega)))
def aPP:UC.Ok:={}
def aNq:UC.Pf (ad5):=⟨alA,λs h=>rfl,azG,avL⟩
def aFv:=s2 (b:=bN f47 0) aPP aNq uC ayv
def ar0:Rs hU ar9 aB3 (λs:Nm=>LK s.p (s.xs.drop s.i.toNat)) (λx s' (v:PK)=>x=.exit 0/\s'.p=v):=DL aPP aNq (λs hI=>by
  show CM _ _ ((Th s).rd s)
  unfold Th;dsimp only [T.rd,T.rl];obtain ⟨⟨h0,h1⟩,h2,h3,h4,h5,h6,h7⟩:=hI;refine AG (λc1=>?_) (λc1=>?_)
  ·have c1:s.i<s.n:=AO
   have e:=(W4 h0 (show s.i<(s.xs.length:Int) by omega)).1
   rw [AI (x:=s.i+1),e];refine AG (λc2=>?_) (λc2=>AG (λc3=>?_) (λc3=>?_))
   ·show LK s.p _=LK s.p _
    unfold LK;rw [Jp,show Gt s.p.tk ⟨s.p.ls,s.p.se,s.p.fl,s.p.nx,s.p.lk⟩ (An s.xs s.i)=⟨s.p.ls,s.p.se,s.p.fl,s.p.nx,s.p.lk⟩ from AD (λh=>DT.1 c2 h.1)]
   ·show LK s.p _=LK s.p _
    unfold LK;rw [Jp,show Gt s.p.tk ⟨s.p.ls,s.p.se,s.p.fl,s.p.nx,s.p.lk⟩ (An s.xs s.i)=⟨s.p.ls,s.p.se,s.p.fl,s.p.nx,s.p.lk⟩ from AD (λh=>DT.1 c3 h.2)]
   ·have hx:=h4 _ (ayI h0 (show s.i<(s.xs.length:Int) by omega))
    have hn:=ai4 (DH c3)
    rw [(oE h6 (DH c3)).1,azL h5 hx,AI (x:=(An s.xs s.i).1+1)]
    show LK _ _=LK s.p _
    conv=>rhs;unfold LK
    rw [Jp,show Gt s.p.tk ⟨s.p.ls,s.p.se,s.p.fl,s.p.nx,s.p.lk⟩ (An s.xs s.i)=_ from AE ⟨DH c2,DH c3⟩];rfl
  ·have c1:s.n<=s.i:=AO
   refine ⟨rfl,?_⟩;rw [EJ A0];rfl)
def aRL:List LV->T LV
 | [.xl (.pair (.int .i64) (.pair (.int .i64) (.pair (.int .i64) (.pair (.int .i64) (.int .i64))))) l,.v (.int .i64 t)]=> .req (DN l t=0) (.ok (.AM [Bj l t,.ki .i64 0]))
 |_=> .no
def acE:=uS f61 aRL
def ahS:VV 61 acE:=λargs vals w Z lv h1 h2 h3 h4 h=>by
 have key:∃l t,lv=.AM [.xl AX (Bj l t),.ki .i64 0]/\(th args).all (λx=>x=.AM [.xl AX (Bj l t),.v (.int .i64 0)]):=by
  unfold acE uS Jj aRL at h;split at h
  ·rename_i l t e
   obtain ⟨g1,g2⟩:=h;refine ⟨l,t,g2.symm,?_⟩;unfold th uS Jj;rw [e]
   show LV.AM [.xl AX _,.v (.int .i64 (DN _ _))]=_
   rw [g1]
  ·cases h
 obtain ⟨l,t,rfl,hk⟩:=key;refine (cz args vals w Z _ h1 h2 h3 h4 hk).mono λe w' ⟨hb,v,he,ho,hr⟩=>⟨hb,v,he,?_,?_⟩
 ·simp only [okV,AR] at ho|-
  exact ⟨trivial,trivial,trivial⟩
 ·simp only [R,RL] at hr|-
  exact hr
structure LD where
 p:PK
 ev:EW
def UR (s:LD):List LV:=[.own 16 0]
def Z7 (s:LD):List AB:=kF s.p s.ev Dd++[Bg]
def aDh (s:LD):LJ:=(⟨{s.p with ls:=Bj (AQ s.p.ls) s.p.tk},s.ev⟩:LJ)
def mB (s:LD):Nm:=letI b:=Bj (AQ s.p.ls) s.p.tk;letI c:=AQ (GU s.p.cs s.p.tg (s.p.tg.length));letI a:=deL c s.p.os s.p.ks s.p.gs s.p.bs b (AQ s.p.ra) (AQ s.p.dm) s.p.tk s.p.nx;(⟨a,(List.length a:Int),0,{s.p with ls:=b,fl:=AQ s.p.fl,ra:=deR c s.p.os s.p.ks s.p.gs s.p.bs b (AQ s.p.ra) (AQ s.p.dm) s.p.tk s.p.nx,dm:=AQ s.p.dm},s.ev⟩:Nm)
structure YB where
 p:PK
 ev:EW
def ac7 (s:YB):LV:=.v (.tuple #[])
def aco (s:YB):List AB:=kT s.p s.ev Dd++[Bg]
def dz (s:LD):T YB:=letI a:=GU s.p.cs s.p.tg (s.p.tg.length);letI b:=Bj (AQ s.p.ls) s.p.tk;letI c:=aB3 (mB s);letI d:=AQ s.p.dm;.br (!s.p.up) (.rz s.p.ls (.rz s.p.fl (.rz s.p.ra (.rz s.p.dm (.rz s.p.lk (.pd s.p (.ok (⟨{s.p with ls:=AQ s.p.ls,fl:=AQ s.p.fl,ra:=AQ s.p.ra,dm:=AQ s.p.dm,lk:=AQ s.p.lk},s.ev⟩)))))))) (.rz s.p.ls (.req (DN (AQ s.p.ls) s.p.tk=0) (.rl s.p.cs (.rl s.p.fl (.rl s.p.ra (.pb s.p (.req (ai2 (aDh s)) (.rv (.xl AX b) (.rv (.os 7 2 0 (s.p.ra.length)) (.rv (.os 12 4 0 (s.p.dm.length)) (.rv (.v (.int .i64 s.p.tk)) (.rv (.v (.int .i64 s.p.nx)) (.rz a (.rz s.p.ra (.rz s.p.dm (.req (IJ d s.p.tk/\d.length<=19) (.br ((deE (AQ a) s.p.os s.p.ks s.p.gs s.p.bs b (AQ s.p.ra) d s.p.tk s.p.nx) !=0) (.rz s.p.fl (.rz s.p.ra (.rz s.p.dm (.rz s.p.lk (.pd s.p (.ok (⟨{s.p with ls:=b,fl:=AQ s.p.fl,ra:=AQ s.p.ra,dm:=AQ s.p.dm,lk:=AQ s.p.lk},s.ev⟩))))))) (.rz s.p.fl (.rz s.p.dm (.rl s.p.cs (.rl s.p.st (.rl s.p.ca (.rl s.p.mi (.rl s.p.me (.rl s.p.lk (.rl s.p.dr (.rl s.p.tg (.req (UC.q (mB s)) (.rz c.p.lk (.pd s.p (.ok (⟨{s.p with ls:=c.p.ls,se:=c.p.se,fl:=c.p.fl,ra:=deR (AQ a) s.p.os s.p.ks s.p.gs s.p.bs b (AQ s.p.ra) d s.p.tk s.p.nx,nx:=c.p.nx,dm:=d,lk:=AQ c.p.lk},s.ev⟩))))))))))))))))))))))))))))))))
def aDA {t:Int}{xs:List Le}{s:SN}:∀k,k<=xs.length->Jb t xs s k=(xs.take k).foldl (Gt t) s
 |0,_=>rfl
 |k+1,h=>by
  rw [Jb,aDA k A0,ZQ A0,List.foldl_append];rw [show An xs (k:Int)=xs[k]' A0 from Oh A0];rfl
def agf {p:PK}:p.sn1=p.dL.foldl (Gt p.tk) p.II:=by
 unfold PK.sn1;rw [aDA _ (At _),Dv]
def amv {l:List Le}{t:Int}(h:BG l=true) (ht:0<=t/\t<=1000000):DN l t=0:=by
 have e:Nw l t=true:=by unfold Nw;rw [h,CU.2 A0];rfl
 exact AE e
def RQ.wd {p:PK}(h:RQ p) (hv:VP p):IJ p.dm p.tk/\p.dm.length<=19:=by
 have hg:=(D9.1 hv.site).1
 have ht:=hv.tk
 refine ⟨⟨λx hx=>?_,A0,A0⟩,by rw [hv.dm];omega⟩
 have:=h.dm x hx
 unfold Gj at this;simp only [AU,CU] at this;omega
def aAM (s:LD):Prop:=(VP s.p/\RQ s.p)/\VK s.p.se s.p.fl/\BG s.p.ls=true
def XU (s:LD):YB:=⟨PK.AV s.p,s.ev⟩
def Oz:Cw LD YB:=⟨UR,Z7,λv b=>⟨rF b,rG b⟩,aAM,[0,1,3,17],[.pc 16 7 AX,.kb 5,.pc 16 9 (.int .u8),.kb 6,.pc 16 10 BD,.kb 7,.pc 16 16 BO,.kb 12,.pc 16 17 Cp,.kb 13],ac7,aco,XU⟩
abbrev agq (s:LD):Prop:=aAM s/\UR s=UR s/\Z7 s=Z7 s
def WU:List Bd:=[ahS,aJ0,aaI,aag]
def aQZ:As:=Hu WU (la 9 func47 aFv (la 9 func19 Ck (l0 WU))) [⟨63,iR.m,aQu⟩]
def aa1:DI:=CQ 47 18 9 (UC.lp) (CQ 19 0 9 (GS.lp) (Dp prog AT WU 20 2))
def anS:ED prog AT aa1:=DB func47 rfl AZ aFv (DB func19 rfl AZ Ck (HW (gk WU)))
def axw (s:LD):((EO prog AT WU aa1 aQZ).k 47 (UR s) (Z7 s)).bind (λq=>G2 (Z7 s).length [0] [.pc 16 7 AX,.kb 5,.pc 16 9 (.int .u8),.kb 6,.pc 16 10 BD,.kb 7,.pc 16 16 BO,.kb 12,.pc 16 17 Cp,.kb 13] .normal (q.1::UR s) q.2)=(dz s).mp (λs2=>⟨.normal,(UR s).length+1,[ac7 s2],aco s2,true⟩):=AZ
def avC (s:LD) (hE:aAM s):(dz s).all (λq=>q=XU s):=by
 obtain ⟨⟨hV,hR⟩,hK,hls⟩:=hE
 have hs:=D9.1 hV.site
 have ht:=hV.Hq
 have hwd:=hR.wd hV
 have htk:=hV.tk
 have hx:DN s.p.ls s.p.tk=0:=amv hls htk
 have hxs:Hv s.p.ls s.p.tk=Bj s.p.ls s.p.tk:=AE hx
 have hA:iL (aDh s):=⟨ht,by show s.p.tg.length<=1000;omega⟩
 have q2:GU s.p.cs s.p.tg s.p.tg.length=s.p.JC:=rfl
 have e1:deE s.p.JC s.p.os s.p.ks s.p.gs s.p.bs (Bj s.p.ls s.p.tk) s.p.ra s.p.dm s.p.tk s.p.nx=s.p.dE:=by unfold PK.dE;rw [hxs]
 have e2:deR s.p.JC s.p.os s.p.ks s.p.gs s.p.bs (Bj s.p.ls s.p.tk) s.p.ra s.p.dm s.p.tk s.p.nx=s.p.dR:=by unfold PK.dR;rw [hxs]
 have e3:deL s.p.JC s.p.os s.p.ks s.p.gs s.p.bs (Bj s.p.ls s.p.tk) s.p.ra s.p.dm s.p.tk s.p.nx=s.p.dL:=by unfold PK.dL;rw [hxs]
 have hst:mB s=⟨s.p.dL,(s.p.dL.length:Int),0,{s.p with ls:=Bj s.p.ls s.p.tk,ra:=s.p.dR},s.ev⟩:=by
  unfold mB;simp only [FP,q2,e2,e3]
 have hB:hU ⟨s.p.dL,(s.p.dL.length:Int),0,{s.p with ls:=Bj s.p.ls s.p.tk,ra:=s.p.dR},s.ev⟩:=by
  refine ⟨rfl,rfl,?_,λx hx=>?_,htk,hK,?_⟩
  ·have:=aQr (p:=s.p);show (s.p.dL.length:Int)<=16;omega
  ·have:=acd (p:=s.p) x hx;omega
  ·have:=hR.lk;show (s.p.lk.length:Int)<=17000000+0;omega
 have q3:=(ar0 _ hB).2
 have q3:(aB3 ⟨s.p.dL,(s.p.dL.length:Int),0,{s.p with ls:=Bj s.p.ls s.p.tk,ra:=s.p.dR},s.ev⟩).p=LK {s.p with ls:=Bj s.p.ls s.p.tk,ra:=s.p.dR} s.p.dL:=q3
 unfold dz;simp only [FP,Wz,q2,e1,e2,hst,q3];refine ⟨λc=>?_,λc=>?_⟩
 ·have c:s.p.up=false:=FN
  repeat (refine ⟨Cm,?_⟩)
  show _=_
  unfold XU;rw [show PK.AV s.p=s.p from AE c]
 have hu:¬s.p.up=false:=by intro h;rw [h] at c;cases c
 refine ⟨A0,hx,?_⟩
 repeat (refine ⟨Cm,?_⟩)
 refine ⟨⟨hA,rfl,rfl⟩,rfl,rfl,rfl,rfl,rfl,?_⟩
 repeat (refine ⟨Cm,?_⟩)
 refine ⟨λc1=>?_,λc1=>?_⟩
 ·have c1:s.p.dE≠0:=DT.1 c1
  repeat (refine ⟨Cm,?_⟩)
  show _=_
  unfold XU;rw [show PK.AV s.p={s.p with ls:=Hv s.p.ls s.p.tk} by unfold PK.AV;rw [AD hu,AE c1],hxs]
 ·have c1:¬s.p.dE≠0:=λh=>aNU
  repeat (refine ⟨Cm,?_⟩)
  refine ⟨⟨hB,rfl,rfl⟩,?_⟩
  repeat (refine ⟨Cm,?_⟩)
  show _=_
  unfold XU;rw [show PK.AV s.p=_ by unfold PK.AV;rw [AD hu,AD c1],agf]
  unfold LK PK.II;rw [hxs]
def TD:DU prog AT 47 Oz.m:=Cw.sound (D:=Oz) (t:=dz) (gk WU) anS aQZ.h axw (λs hE=>⟨avC s hE⟩)
def Eo {α:Type}(f:Nat->α->α):Nat->α->Nat->α
 |_,s,0=>s
 |i,s,n+1=>Eo f (i+1) (f i s) n
def aH7 {α:Type}{f:Nat->α->α}:∀ {n i:Nat}{s:α},Eo f i s (n+1)=f (i+n) (Eo f i s n)
 |0,_,_=>rfl
 |n+1,i,s=>by
  rw [Eo,aH7 (n:=n) (i:=i+1),show i+1+n=i+(n+1) by omega]
  rfl
def X0 {α:Type}{f:Nat->α->α}{F:Nat->α}(h:∀k,F (k+1)=f k (F k)):∀n,Eo f 0 (F 0) n=F n
 |0=>rfl
 |n+1=>by rw [aH7,X0 h n,h,EK]
def M6 {α:Type}{f:Nat->α->α}{s:α}{i n:Int}(h0:0<=i) (h:i<n):Eo f i.toNat s (n-i).toNat=Eo f (i+1).toNat (f i.toNat s) (n-(i+1)).toNat:=by
 rw [show (n-i).toNat=(n-(i+1)).toNat+1 by omega,Eo,show (i+1).toNat=i.toNat+1 by omega]
def nG {α:Type}{f:Nat->α->α}{s:α}{i n:Int}(h:n<=i):Eo f i.toNat s (n-i).toNat=s:=by
 rw [show (n-i).toNat=0 by omega]
 rfl
def aH6 {α:Type}{f:Nat->List α->List α}(h:∀k s,(f k s).length=s.length):∀ {n i:Nat}{s:List α},(Eo f i s n).length=s.length
 |0,_,_=>rfl
 |n+1,i,s=>(aH6 h (n:=n) (i:=i+1)).trans (h i s)
def tk1 (gs:List Ch) (i:Int) (_:Nat) (st:List St):List St:=Ce gs st i 8 0 0
def atp {gs:List Ch}{st:List St}{i:Int}:∀n,Eo (tk1 gs i) 0 st n=Re gs st i n:=X0 (F:=Re gs st i) λ_=>rfl
def cnt1 (gs:List Ch) (dr:List Int) (t:Int) (k:Nat) (st:List St):List St:=if Kk t (gi dr k)=0/\Kk (t+1) (gi dr k)=0 then Re gs st k (H7 (t+1) (gi dr k)-H7 t (gi dr k)).toNat else st
def azC {gs:List Ch}{dr:List Int}{t:Int}{st:List St}:∀n,Eo (cnt1 gs dr t) 0 st n=Rt gs dr t st n:=X0 (F:=Rt gs dr t st) λ_=>rfl
def al4 {gs:List Ch}{ca:List Ca}{s:DW}:∀n,Eo (λk d=>Fc gs ca d (k:Int)) 0 s n=Dh gs ca s n:=X0 (F:=Dh gs ca s) λ_=>rfl
def ZF (gs:List Ch) (tg am:List Int) (k:Nat) (cs:List Cd):List Cd:=if gi tg k>=(Ag cs k).2.2.1 then cs else
  if (decide (am.length=gs.length)&&IL (cs.set k (Jh (Ag cs k) (gi tg k))) gs am)=true then cs.set k (Jh (Ag cs k) (gi tg k)) else cs
def agY {gs:List Ch}{tg am:List Int}{cs:List Cd}:∀n,Eo (ZF gs tg am) 0 cs n=FD gs tg am cs n:=X0 (F:=FD gs tg am cs) λ_=>rfl
def aRH {c:Ca}{m:Mi}{p al:Int}:0<=Ea c m p al/\Ea c m p al<=7:=by
 unfold Ea;split
 ·rename_i hB
  obtain ⟨hc,_,h1,h2,_⟩:=cR.1 hB
  have hc':=WD.1 hc
  unfold Gx;split
  ·omega
  ·exact aBP ⟨A0,A0⟩ ⟨h1,h2⟩
 ·omega
def aad {c:Ca}{m:Mi}{p al:Int}:IntKind.u64.wrap (Ea c m p al)=Ea c m p al:=by
 have:=aRH (c:=c) (m:=m) (p:=p) (al:=al)
 exact aMB
variable {gs : List Ch} {ca : List Ca} {st : List St} {mi : List Mi} {me : List Me} {dw : List Int} {i : Int}
def al6 (h:(BS ca i).2.2.1=0):Fc gs ca ⟨st,mi,me,dw⟩ i=⟨st,mi,me,dw⟩:=AE h
def al5 (h:¬(BS ca i).2.2.1=0) (h2:¬J8 (BS ca i) (BC mi i) (AH gs i).2.2.1 (Bi (AH gs i) (BP st i))=0):Fc gs ca ⟨st,mi,me,dw⟩ i=⟨st,mi,me,dw⟩:=by
 unfold Fc;rw [AD h];exact AD h2
def UM (h:¬(BS ca i).2.2.1=0) (h2:J8 (BS ca i) (BC mi i) (AH gs i).2.2.1 (Bi (AH gs i) (BP st i))=0):
  Fc gs ca ⟨st,mi,me,dw⟩ i=⟨if FF (BS ca i) (BC mi i) (AH gs i).2.2.1 (Bi (AH gs i) (BP st i))>Bi (AH gs i) (BP st i) then Ce gs st i 6 2 0 else st,mi.set i.toNat (IQ (BS ca i) (BC mi i) (AH gs i).2.2.1 (Bi (AH gs i) (BP st i))),
   if EY (Ac me i) (FF (BS ca i) (BC mi i) (AH gs i).2.2.1 (Bi (AH gs i) (BP st i))) (cnt (Ea (BS ca i) (BC mi i) (AH gs i).2.2.1 (Bi (AH gs i) (BP st i))))=0 then me.set i.toNat (Fk (Ac me i) (FF (BS ca i) (BC mi i) (AH gs i).2.2.1 (Bi (AH gs i) (BP st i))) (cnt (Ea (BS ca i) (BC mi i) (AH gs i).2.2.1 (Bi (AH gs i) (BP st i))))) else me,dw.set i.toNat (FF (BS ca i) (BC mi i) (AH gs i).2.2.1 (Bi (AH gs i) (BP st i)))⟩:=by
 unfold Fc;rw [AD h];exact AE h2
def aaA (t d:Int):0<=H7 t d/\H7 t d<=2000000:=by
 unfold H7;split
 ·rename_i h
  simp only [AU,CU] at h
  have h1:0<=t*(1000000+d):=I4 A0 A0
  have h2:t*(1000000+d)<=1000000*2000000:=Int.mul_le_mul A0 A0 A0 A0
  generalize t*(1000000+d)=x at*;omega
 ·omega
end Go.Proofs.YtgmhhjldohjpmaaGreatDoor
namespace Go.Proofs.YtgmhhjldohjpmaaGreatDoor
set_option maxRecDepth 100000
set_option maxHeartbeats 4000000
open Go.Proofs.Tryz
open Go.Sx
def aHN:List LV->T LV
 | [.v (.int .i64 r),.v (.int .i64 m)]=> .req ((0<=r/\r<=2000000)/\0<=m/\m<=3000000) (.ok (.v (.int .i64 (m*r / 1000000))))
 |_=> .no
def akE:List Bd:=[]
def au4:=vo (S:=aHN) func106 akE kN (λargs lv h=>by
 unfold aHN at h;split at h
 ·rename_i r m
  refine Aj (.req ((1000000:Int)≠0) (.ok (A9 ((A9 (m*r)).tdiv 1000000)))) ?_;obtain ⟨⟨⟨h1,h2⟩,h3,h4⟩,rfl⟩:=h
  have hm:0<=m*r/\m*r<=6000000000000:=⟨I4 h3 h1,PW (PT h2 h3) A0⟩
  refine ⟨A0,Ax (λz=>LV.v (.int .i64 z)) ?_⟩
  rw [AI (x:=m*r),HM hm.1];exact AI
 ·cases h)
def aSf:List LV->T LV
 | [.v (.int .i64 t),.v (.int .i64 d)]=> .tu #[H7 t d,Kk t d]
 |_=> .no
def ayH:List Bd:=[aIz,au4]
def XD:=vo (S:=aSf) func76 ayH kN (λargs lv h=>by
 unfold aSf at h;split at h
 ·rename_i t d
  refine Aj (letI a:=A9 (1000000+d);.br ((!(inB t 0 1000000)) ||((decide (d<(-200))) ||(decide (d>200)))) (.tu #[(0:Int),(1:Int)]) (.req ((0<=a/\a<=2000000)/\0<=t/\t<=3000000) (.tu #[.int .i64 (t*a / 1000000),(0:Int)]))) ?_;obtain rfl:=h;unfold H7 Kk;refine ⟨λc=>?_,λc=>?_⟩
  ·have:(inB t 0 1000000&&inB d (-200) 200)=false:=by
    cases ht:inB t 0 1000000
    ·rfl
    ·simp [ht] at c;simp [inB];omega
   rw [this];rfl
  ·have hh:inB t 0 1000000=true/\-200<=d/\d<=200:=by
    cases ht:inB t 0 1000000
    ·simp [ht] at c
    ·simp [ht] at c;exact ⟨rfl,A0,A0⟩
   have:(inB t 0 1000000&&inB d (-200) 200)=true:=by rw [hh.1];simp [inB];omega
   have ht:=CU.1 hh.1
   rw [this,AI (x:=1000000+d)];exact ⟨⟨⟨A0,A0⟩,A0,A0⟩,rfl⟩
 ·cases h)
def aI3:List LV->T LV
 | [.v (.int .u64 n)]=> .req (0<=n/\n<=7) (.ok (cnt n))
 |_=> .no
def aml:Bc prog AT (DA []) (inl prog AT (DA []) (Dp prog AT (DA []) 20 2) 9) Af f80 [.v (.int .u64 0)]=.ok (cnt 0):=AZ
def amk:Bc prog AT (DA []) (inl prog AT (DA []) (Dp prog AT (DA []) 20 2) 9) Af f80 [.v (.int .u64 1)]=.ok (cnt 1):=AZ
def amh:Bc prog AT (DA []) (inl prog AT (DA []) (Dp prog AT (DA []) 20 2) 9) Af f80 [.v (.int .u64 2)]=.ok (cnt 2):=AZ
def amg:Bc prog AT (DA []) (inl prog AT (DA []) (Dp prog AT (DA []) 20 2) 9) Af f80 [.v (.int .u64 3)]=.ok (cnt 3):=AZ
def amf:Bc prog AT (DA []) (inl prog AT (DA []) (Dp prog AT (DA []) 20 2) 9) Af f80 [.v (.int .u64 4)]=.ok (cnt 4):=AZ
def amd:Bc prog AT (DA []) (inl prog AT (DA []) (Dp prog AT (DA []) 20 2) 9) Af f80 [.v (.int .u64 5)]=.ok (cnt 5):=AZ
def amQ:Bc prog AT (DA []) (inl prog AT (DA []) (Dp prog AT (DA []) 20 2) 9) Af f80 [.v (.int .u64 6)]=.ok (cnt 6):=AZ
def amP:Bc prog AT (DA []) (inl prog AT (DA []) (Dp prog AT (DA []) 20 2) 9) Af f80 [.v (.int .u64 7)]=.ok (cnt 7):=AZ
def apT {n:Int}(h1:0<=n) (h2:n<=7):Bc prog AT (DA []) (inl prog AT (DA []) (Dp prog AT (DA []) 20 2) 9) Af f80 [.v (.int .u64 n)]=.ok (cnt n):=by
 rcases eight h1 h2 with e|e|e|e|e|e|e|e
 ·rw [e];exact aml
 ·rw [e];exact amk
 ·rw [e];exact amh
 ·rw [e];exact amg
 ·rw [e];exact amf
 ·rw [e];exact amd
 ·rw [e];exact amQ
 ·rw [e];exact amP
def Wf:VV 80 (uS f80 aI3):=mm func80 rfl (nM (l:=[]) trivial) (aBb (nM (l:=[]) trivial) (HW (nM (l:=[]) trivial)) 9) (p0 Bt) (λargs lv h=>by
 unfold aI3 at h;split at h
 ·rename_i n
  simp only [canL,canX];rw [apT h.1.1 h.1.2];exact h.2
 ·cases h)
def NS:List Bd:=[]
def asE:List LV->T LV:=λl=>Bc prog AT NS kN Af f160 (canL l)
def atb:=vo (S:=asE) func160 NS kN (λargs lv h=>by
 refine ⟨?_⟩
 assumption)
def asF:List LV->T LV:=λl=>Bc prog AT NS kN Af f202 (canL l)
def ate:=vo (S:=asF) func202 NS kN (λargs lv h=>by
 refine ⟨?_⟩
 assumption)
def ah3:List LV->T LV:=λl=>Bc prog AT NS kN Af f200 (canL l)
def aaR:=vo (S:=ah3) func200 NS kN (λargs lv h=>by
 refine ⟨?_⟩
 assumption)
def acN:List Bd:=[ate]
def ah2:List LV->T LV:=λl=>Bc prog AT (acN) kN Af f201 (canL l)
def aaQ:=vo (S:=ah2) func201 acN kN (λargs lv h=>by
 refine ⟨?_⟩
 assumption)
def ah1:List LV->T LV:=λl=>Bc prog AT NS kN Af f203 (canL l)
def aaP:=vo (S:=ah1) func203 NS kN (λargs lv h=>by
 refine ⟨?_⟩
 assumption)
def ah0:List LV->T LV:=λl=>Bc prog AT NS kN Af f204 (canL l)
def aaO:=vo (S:=ah0) func204 NS kN (λargs lv h=>by
 refine ⟨?_⟩
 assumption)
def acM:List Bd:=[aaR,aaQ,aaP,aaO]
def asD:List LV->T LV:=λl=>Bc prog AT (acM) kN Af f161 (canL l)
def auB:=vo (S:=asD) func161 acM kN (λargs lv h=>by
 refine ⟨?_⟩
 assumption)
def aIj:List LV->T LV
 | [.xq 8 q0,.v (.int .i64 p2),.v (.int .i64 al)]=>(match ([q0 0,q0 1,q0 2,q0 3,q0 4,q0 5,q0 6,q0 7]:List LV) with
  | [.v (.int .i64 k),.v (.int .i64 ph),.v (.int .i64 mx),.v (.int .i64 nd),.v (.int .i64 dl),.xl (.int .i64) pil,.v (.int .i64 tk),.v (.int .i64 got)]=> .req (Fs (k,ph,mx,nd,dl)=true/\IN (pil,tk,got)=true/\1<=p2/\p2<=7/\0<=al) (.tu #[FH (k,ph,mx,nd,dl) (pil,tk,got) p2 al,Gx (k,ph,mx,nd,dl) (pil,tk,got) p2 al])
  |_=> .no)
 |_=> .no
def acL:List Bd:=[atb,auB,aaR,aaQ,aaP,aaO]
def aql (k ph mx nd dl:Int) (pil:List Int) (tk got p2 al:Int):letI a:=Bn .i64 ph p2;letI c:=A9 (0-a);letI d:=(A9 ((pil.length:Int)-dl));letI b:=gi pil d;Bc prog AT (acL) kN Af f110 [xQ 8 [k,ph,mx,nd,dl,.xl A7 pil,tk,got],p2,al]=.br (((if k==2 then Bn .i64 a c else Bn .i64 ph p2)==0) ||(decide (got>=nd))) (.tu #[(0:Int),(0:Int)]) (.br (k==(0:Int)) (.br ((if al<mx then al else mx)==0) (.tu #[(0:Int),(0:Int)]) (.tu #[.int .i64 (if al<mx then al else mx),.int .i64 (if k==2 then Bn .i64 a c else Bn .i64 ph p2)])) (.br (k==(2:Int)) (.br ((if al<mx then al else mx)==0) (.tu #[(0:Int),(0:Int)]) (.tu #[.int .i64 (if al<mx then al else mx),.int .i64 (if k==2 then Bn .i64 a c else Bn .i64 ph p2)])) (.br (k==(1:Int)) (.br (dl==0) (.br ((if al<mx then al else mx)==0) (.tu #[(0:Int),(0:Int)]) (.tu #[.int .i64 (if al<mx then al else mx),.int .i64 (if k==2 then Bn .i64 a c else Bn .i64 ph p2)])) (.br (decide (d>=0)) (.ix d (pil.length) (.br ((if (if b<al then b else al)<mx then if b<al then b else al else mx)==0) (.tu #[(0:Int),(0:Int)]) (.tu #[.int .i64 (if (if b<al then b else al)<mx then if b<al then b else al else mx),.int .i64 (if k==2 then Bn .i64 a c else Bn .i64 ph p2)]))) (.br ((if (if (0:Int)<al then 0 else al)<mx then if (0:Int)<al then 0 else al else mx)==0) (.tu #[(0:Int),(0:Int)]) (.tu #[.int .i64 (if (if (0:Int)<al then 0 else al)<mx then if (0:Int)<al then 0 else al else mx),.int .i64 (if k==2 then Bn .i64 a c else Bn .i64 ph p2)])))) (.br (k==(3:Int)) (.req (dl≠0) (.req ((2:Int)≠0) (.br (((A9 (tk.tdiv dl)).tmod 2)==1) (.br ((if (0:Int)<mx then 0 else mx)==0) (.tu #[(0:Int),(0:Int)]) (.tu #[.int .i64 (if (0:Int)<mx then 0 else mx),.int .i64 (if k==2 then Bn .i64 a c else Bn .i64 ph p2)])) (.br ((if al<mx then al else mx)==0) (.tu #[(0:Int),(0:Int)]) (.tu #[.int .i64 (if al<mx then al else mx),.int .i64 (if k==2 then Bn .i64 a c else Bn .i64 ph p2)]))))) (.br (k==(4:Int)) (.br (al==0) (.br ((if (0:Int)<mx then 0 else mx)==0) (.tu #[(0:Int),(0:Int)]) (.tu #[.int .i64 (if (0:Int)<mx then 0 else mx),.int .i64 (if k==2 then Bn .i64 a c else Bn .i64 ph p2)])) (.br ((if mx<mx then mx else mx)==0) (.tu #[(0:Int),(0:Int)]) (.tu #[.int .i64 (if mx<mx then mx else mx),.int .i64 (if k==2 then Bn .i64 a c else Bn .i64 ph p2)]))) (.no /-call of v -/)))))):=AZ
def atd := vo (S:=aIj) func110 acL kN (λargs lv h=>by
 refine ⟨?_⟩;unfold aIj at h;split at h
 ·split at h
  case h_2=>cases h
  rename_i heq0;simp only [canL,canX];rw [Dn (n:=8) heq0];simp only [canL,canX];rw [aql];rename_i p2 al _ k ph mx nd dl pil tk got;obtain ⟨⟨hc,hm,hp1,hp2,hal⟩,rfl⟩:=h
  have hc:=WD.1 hc
  have hm:=cA.1 hm
  simp only at hc hm
  have hl:=aCi (a:=ph) (b:=p2) ⟨A0,A0⟩ ⟨A0,A0⟩
  have e0:(if (k==2)=true then Bn .i64 (Bn .i64 ph p2) (A9 (0-Bn .i64 ph p2)) else Bn .i64 ph p2)=KS k ph p2:=by
   have hw:A9 (0-Bn .i64 ph p2)=-land ph p2:=by
    have:Bn .i64 ph p2=land ph p2:=rfl
    rw [this,AI];omega
   rw [hw];unfold KS land;simp only [Cj]
  have ew:A9 ((pil.length:Int)-dl)=(pil.length:Int)-dl:=AI
  have et:A9 (tk.tdiv dl)=tk.tdiv dl:=by
   rw [HM A0]
   have h1:0<=tk / dl:=SB A0 A0
   have h2:tk / dl<=tk:=V3 _ A0
   exact AI
  have hz:(KS k ph p2=0\/nd<=got)->FH (k,ph,mx,nd,dl) (pil,tk,got) p2 al=0:=λh=>by unfold FH;rw [AE h]
  have hn:¬(KS k ph p2=0\/nd<=got)->FH (k,ph,mx,nd,dl) (pil,tk,got) p2 al=min mx (Hc (k,ph,mx,nd,dl) (pil,tk,got) al):=λh=>by unfold FH;rw [AD h]
  have w0:k≠1->k≠3->k≠4->Hc (k,ph,mx,nd,dl) (pil,tk,got) al=al:=λh1 h2 h3=>by simp [Hc,h1,h2,h3]
  have w1a:k=1->dl=0->Hc (k,ph,mx,nd,dl) (pil,tk,got) al=al:=λh1 h2=>aB
  have w1b:k=1->dl≠0->0<=(pil.length:Int)-dl->Hc (k,ph,mx,nd,dl) (pil,tk,got) al=min al (gi pil ((pil.length:Int)-dl)):=λh1 h2 h3=>by
   simp only [Hc,h1,h2,Bm,FL,aS,Lv];rw [AE h3];rfl
  have w1c:k=1->dl≠0->(pil.length:Int)-dl<0->Hc (k,ph,mx,nd,dl) (pil,tk,got) al=min al 0:=λh1 h2 h3=>by
   simp only [Hc,h1,h2,Bm,FL,aS,Lv];rw [AD A0]
  have w3a:k=3->(tk.tdiv dl).tmod 2=1->Hc (k,ph,mx,nd,dl) (pil,tk,got) al=0:=λh1 h2=>aB
  have w3b:k=3->¬(tk.tdiv dl).tmod 2=1->Hc (k,ph,mx,nd,dl) (pil,tk,got) al=al:=λh1 h2=>aB
  have w4a:k=4->al=0->Hc (k,ph,mx,nd,dl) (pil,tk,got) al=0:=λh1 h2=>aB
  have w4b:k=4->al≠0->Hc (k,ph,mx,nd,dl) (pil,tk,got) al=mx:=λh1 h2=>aB
  have ho1:FH (k,ph,mx,nd,dl) (pil,tk,got) p2 al=0->Gx (k,ph,mx,nd,dl) (pil,tk,got) p2 al=0:=λh=>by unfold Gx;rw [AE h]
  have ho2:FH (k,ph,mx,nd,dl) (pil,tk,got) p2 al≠0->Gx (k,ph,mx,nd,dl) (pil,tk,got) p2 al=KS k ph p2:=λh=>by unfold Gx;rw [AD h]
  have fin:∀a o:Int,a=FH (k,ph,mx,nd,dl) (pil,tk,got) p2 al->o=Gx (k,ph,mx,nd,dl) (pil,tk,got) p2 al->LV.v (.tuple #[.int .i64 a,.int .i64 o])=LV.v (.tuple #[.int .i64 (FH (k,ph,mx,nd,dl) (pil,tk,got) p2 al),.int .i64 (Gx (k,ph,mx,nd,dl) (pil,tk,got) p2 al)]):=λa o h1 h2=>yH
  simp only [e0,ew,et]
  clear e0 ew hl et
  generalize FH (k,ph,mx,nd,dl) (pil,tk,got) p2 al=qA at*;generalize Gx (k,ph,mx,nd,dl) (pil,tk,got) p2 al=qO at*;generalize Hc (k,ph,mx,nd,dl) (pil,tk,got) al=qw at*;generalize KS k ph p2=qc at*;generalize gi pil ((pil.length:Int)-dl)=qg at*;refine ⟨λc1=>?_,λc1=>?_⟩
  ·simp only [Cj,Bq,ne_eq,Cr,Eu,AY,Cl,Lv,PS] at*
   refine fin _ _ ?_ ?_<;>(clear fin w0 w1a w1b w1c w3a w3b w4a w4b;omega)
  ·refine ⟨λc2=>?_,λc2=>?_⟩
   ·refine ⟨λc3=>?_,λc3=>?_⟩
    ·exact jo
    ·exact jo
   ·refine ⟨λc3=>?_,λc3=>?_⟩
    ·refine ⟨λc4=>?_,λc4=>?_⟩
     ·exact jo
     ·exact jo
    ·refine ⟨λc4=>?_,λc4=>?_⟩
     ·refine ⟨λc5=>?_,λc5=>?_⟩
      ·refine ⟨λc6=>?_,λc6=>?_⟩
       ·exact jn
       ·exact jn
      ·refine ⟨λc6=>?_,λc6=>?_⟩
       ·refine ⟨?_,?_⟩
        ·simp only [Cj,Bq,ne_eq,Cr,Eu,AY,Cl,Lv,PS] at*
         (first|decide|(clear fin w0 w3a w3b w4a w4b;omega))
        ·exact aMD
       ·exact aMD
     ·refine ⟨λc5=>?_,λc5=>?_⟩
      ·refine ⟨?_,?_⟩
       ·exact aKS
       ·refine ⟨?_,?_⟩
        ·exact aKS
        ·refine ⟨λc6=>?_,λc6=>?_⟩
         ·exact aME
         ·exact aME
      ·refine ⟨λc6=>?_,λc6=>?_⟩
       ·refine ⟨λc7=>?_,λc7=>?_⟩
        ·exact aMF
        ·exact aMF
       ·exfalso
        simp only [Cj,Bq,ne_eq,Cr,Eu,AY,Cl,Lv,PS] at*
        clear fin hz hn ho1 ho2 w0 w1a w1b w1c w3a w3b w4a w4b
        omega
 ·cases h)
def aId:List LV->T LV
 | [.xq 8 q0,.v (.int .i64 al),.v (.int .i64 am),.v (.int .i64 on)]=>(match ([q0 0,q0 1,q0 2,q0 3,q0 4,q0 5,q0 6,q0 7]:List LV) with
  | [.v (.int .i64 k),.v (.int .i64 ph),.v (.int .i64 mx),.v (.int .i64 nd),.v (.int .i64 dl),.xl (.int .i64) pil,.v (.int .i64 tk),.v (.int .i64 got)]=> .req (IN (pil,tk,got)=true/\0<=am/\am<=80/\0<=on/\on<=7) (.ok (.agg [.xl A7 (dwP pil al),.v (.int .i64 (tk+1)),.v (.int .i64 (got+2300*am*cnt on))]))
  |_=> .no)
 |_=> .no
def acK:List Bd:=[Wf]
def aqj (k ph mx nd dl:Int) (pil:List Int) (tk got al am on:Int):letI a:=(A9 ((((0:Int).toNat+pil.length+List.length ([al]):Nat):Int)-21));letI b:=(List.replicate (0:Int).toNat (0:Int));letI c:=IntKind.u64.wrap on;letI d:=(A9 ((pil.length:Int)+1));letI e:=(b++pil)++([al]);letI f:=A9 (got+(A9 ((A9 (2300*am))*(cnt c))));Bc prog AT (acK) kN Af f111 [xQ 8 [k,ph,mx,nd,dl,.xl A7 pil,tk,got],al,am,on]=.req (0<=(0:Int)/\(0:Int)<=d/\8*d<=2^48/\d<2^63) (.ra (0:Int).toNat (List.length b) ((0:Int).toNat+pil.length) 8 (.ra ((0:Int).toNat+pil.length) (List.length (b++pil)) ((0:Int).toNat+pil.length+List.length ([al])) 8 (.br (decide ((((0:Int).toNat+pil.length+List.length ([al]):Nat):Int)>21)) (.req (0<=a/\a<=(((0:Int).toNat+pil.length+List.length ([al]):Nat):Int)/\(((0:Int).toNat+pil.length+List.length ([al]):Nat):Int)<=(((0:Int).toNat+pil.length+List.length ([al]):Nat):Int)) (.req (0<=c/\c<=7) (.req ((0+a.toNat)+((((0:Int).toNat+pil.length+List.length ([al]):Nat):Int).toNat-a.toNat)<=List.length e) (.ok (.agg [.xl A7 ((e.drop (0+a.toNat)).take ((((0:Int).toNat+pil.length+List.length ([al]):Nat):Int).toNat-a.toNat)),A9 (tk+1),f]))))) (.req (0<=c/\c<=7) (.req (0+((0:Int).toNat+pil.length+List.length ([al]))<=List.length e) (.ok (.agg [.xl A7 ((e.drop 0).take ((0:Int).toNat+pil.length+List.length ([al]))),A9 (tk+1),f]))))))):=AZ
def auE :=vo (S:=aId) func111 acK kN (λargs lv h=>by
 refine ⟨?_⟩;unfold aId at h;split at h
 ·split at h
  case h_2=>cases h
  rename_i heq0;simp only [canL,canX];rw [Dn (n:=8) heq0];simp only [canL,canX];rw [aqj];rename_i al am on _ k ph mx nd dl pil tk got;obtain ⟨⟨hm,ha1,ha2,ho1,ho2⟩,rfl⟩:=h
  have hm:=cA.1 hm
  simp only at hm
  have hu:IntKind.u64.wrap on=on:=by simp [IntKind.wrap,IntKind.bits,IntKind.signed];omega
  have ht:A9 (tk+1)=tk+1:=AI
  have hcn:0<=cnt on/\cnt on<=3:=by unfold cnt;omega
  have hg:A9 (got+A9 (A9 (2300*am)*cnt on))=got+2300*am*cnt on:=by
   rw [AI (x:=2300*am)]
   have:cnt on=0\/cnt on=1\/cnt on=2\/cnt on=3:=A0
   rcases this with e|e|e|e<;>rw [e,AI (x:=2300*am*_),AI]
  have h0:(0:Int).toNat=0:=rfl
  have hw1:A9 ((pil.length:Int)+1)=(pil.length:Int)+1:=AI
  have hw2:A9 (((pil.length+1:Nat):Int)-21)=(pil.length:Int)-20:=by rw [AI];omega
  have fin:∀(p:List Int),p=dwP pil al->LV.agg [.xl A7 p,.v (.int .i64 (tk+1)),.v (.int .i64 (got+2300*am*cnt on))]=LV.agg [.xl A7 (dwP pil al),.v (.int .i64 (tk+1)),.v (.int .i64 (got+2300*am*cnt on))]:=λp h=>Va
  simp only [h0,List.replicate_zero,Di,B0,BX,Bh,EK,hu,ht,hg,hw1,hw2];refine ⟨?_,?_⟩
  ·(try simp only [AY,Cl] at c1);first|omega|(simp;done) |(simp;omega)
  ·refine ⟨?_,?_⟩
   ·(try simp only [AY,Cl] at c1);first|omega|(simp;done) |(simp;omega)
   ·refine ⟨?_,?_⟩
    ·(try simp only [AY,Cl] at c1);first|omega|(simp;done) |(simp;omega)
    ·refine ⟨λc1=>?_,λc1=>?_⟩
     ·refine ⟨?_,?_⟩
      ·(try simp only [AY,Cl] at c1);first|omega|(simp;done) |(simp;omega)
      ·refine ⟨?_,?_⟩
       ·(try simp only [AY,Cl] at c1);first|omega|(simp;done) |(simp;omega)
       ·refine ⟨?_,?_⟩
        ·(try simp only [AY,Cl] at c1);first|omega|(simp;done) |(simp;omega)
        ·refine fin _ ?_
         unfold dwP;simp only [AY,Cl] at c1;rw [show ((pil.length:Int)-20).toNat=pil.length-20 by omega]
         exact D3 (by rw [DE,B0];simp only [BX,Bh];omega)
     ·refine ⟨?_,?_⟩
      ·omega
      ·refine ⟨?_,?_⟩
       ·omega
       ·refine fin _ ?_
        unfold dwP;simp only [AY,Cl] at c1;rw [show pil.length-20=0 by omega]
        grind
 ·cases h)
def aRP:List LV->T LV
 | [.v (.agg ⟨[.int .i64 k,.int .i64 ph,.int .i64 mx,.int .i64 nd,.int .i64 dl]⟩),.agg [.xl (.int .i64) pil,.v (.int .i64 tk),.v (.int .i64 got)],.v (.int .i64 p2),.v (.int .i64 al)]=> .ok (.AM [FF (k,ph,mx,nd,dl) (pil,tk,got) p2 al,Ea (k,ph,mx,nd,dl) (pil,tk,got) p2 al,.agg [.xl A7 (IQ (k,ph,mx,nd,dl) (pil,tk,got) p2 al).1,(IQ (k,ph,mx,nd,dl) (pil,tk,got) p2 al).2.1,(IQ (k,ph,mx,nd,dl) (pil,tk,got) p2 al).2.2],J8 (k,ph,mx,nd,dl) (pil,tk,got) p2 al])
 |_=> .no
def akF:List Bd:=[aaV,ahk,aIp,atd,auE]
def XG:=vo (S:=aRP) func78 akF kN (λargs lv h=>by
 unfold aRP at h;split at h
 ·rename_i k ph mx nd dl pil tk got p2 al
  refine Aj (letI a:=(k,ph,mx,nd,dl);letI b:=(pil,tk,got);letI c:=FH a b p2 al;letI d:=Gx a b p2 al;.br ((!(Fs a)) ||((!(IN b)) ||((!(inB p2 (1:Int) (7:Int))) ||((!(inB al (0:Int) (80:Int))) ||(tk==1000000))))) (.ok (.AM [(0:Int),(0:Int),.agg [.xl A7 ([]:List Int),(0:Int),(0:Int)],(1:Int)])) (.req (Fs a=true/\IN b=true/\1<=p2/\p2<=7/\0<=al) (.req (IN b=true/\0<=c/\c<=80/\0<=d/\d<=7) (.ok (.AM [c,d,.agg [.xl A7 (dwP pil al),.v (.int .i64 (tk+1)),.v (.int .i64 (got+2300*c*cnt d))],(0:Int)]))))) ?_;obtain rfl:=h
  have e:((!(Fs (k,ph,mx,nd,dl))) ||((!(IN (pil,tk,got))) ||((!(inB p2 (1:Int) (7:Int))) ||((!(inB al (0:Int) (80:Int))) ||(tk==1000000)))))=!(dwB (k,ph,mx,nd,dl) (pil,tk,got) p2 al):=by simp [dwB,bne]
  rw [e];unfold FF Ea IQ J8;refine ⟨λc1=>?_,λc1=>?_⟩
  ·have hB:dwB (k,ph,mx,nd,dl) (pil,tk,got) p2 al=false:=AO
   rw [hB];rfl
  ·have hB:dwB (k,ph,mx,nd,dl) (pil,tk,got) p2 al=true:=AA
   rw [hB];obtain ⟨hc,hm,h1,h2,h3,h4,h5⟩:=cR.1 hB;obtain ⟨b1,b2,b3,b4⟩:=aDO hc hm ⟨h1,h2⟩ ⟨h3,h4⟩;exact ⟨⟨hc,hm,h1,h2,h3⟩,⟨hm,b1,by have:=WD.1 hc;omega,b3,b4⟩,rfl⟩
 ·cases h)
structure Nq where
 xs:List Lk
 (n i:Int)
 p:PK
 ev:EW
 left:List Lk
def To (s:Nq):T (Rd Nq):=letI b:=F9 s.xs s.i;letI c:=s.left++([b]);letI d:=s.left.length+List.length ([b]);letI e:=A9 (s.i+1);letI f:=s.p.st.length;letI g:=s.p.st.getD b.2.2.1.toNat (Ty.dflt Bu);letI h:=List.length ([b]);letI j:=s.left.length;letI a:=(s.p.st.set b.2.2.1.toNat (sN (AH s.p.gs b.2.2.1) g (7:Int) b.2.2.2.1 b.2.2.2.2.2));.br (decide (s.i<s.n)) (.ix s.i (s.xs.length) (.br (decide (b.1>s.p.tk)) (.br true (.rb j h 48 (.re d c (.pd s.p (.nx {s with i:=e,left:=c})))) (.rl s.left (.pd s.p (.nx {s with i:=e})))) (.ix b.2.2.1 (s.p.gs.length) (.ik b.2.2.1 f (.br ((sE (AH s.p.gs b.2.2.1) g (7:Int) b.2.2.2.1 b.2.2.2.2.2)==0) (.ik b.2.2.1 f (.br false (.rb j h 48 (.re d c (.rl s.p.cs (.re f a (.rl s.p.ca (.rl s.p.mi (.rl s.p.me (.rl s.p.dr (.rl s.p.tg (.nx {s with i:=e,p.st:=a,left:=c})))))))))) (.rl s.left (.rl s.p.cs (.re f a (.rl s.p.ca (.rl s.p.mi (.rl s.p.me (.rl s.p.dr (.rl s.p.tg (.nx {s with i:=e,p.st:=a}))))))))))) (.br false (.rb j h 48 (.re d c (.pd s.p (.nx {s with i:=e,left:=c})))) (.rl s.left (.pd s.p (.nx {s with i:=e}))))))))) (.rl s.left (.pd s.p (.so (.exit 0) s)))
def arr1 (gs:List Ch) (t:Int) (st:List St) (l:Lk):List St:=if l.1>t then st else Ce gs st l.2.2.1 7 l.2.2.2.1 l.2.2.2.2.2
def aQV {l:List Lk}{i:Int}(h0:0<=i) (h:i<l.length):F9 l i∈l/\l.drop i.toNat=F9 l i::l.drop (i+1).toNat:=by
 have e:F9 l i=l[i.toNat]' A0:=by unfold F9;rw [Cx,DF A0];rfl
 rw [e];exact ⟨FK _,by rw [SD A0,show (i+1).toNat=i.toNat+1 by omega]⟩
def aDU {gs:List Ch}{lk:List Lk}{t:Int}{st:List St}:∀k,k<=lk.length->PM gs lk t st k=(lk.take k).foldl (arr1 gs t) st
 |0,_=>rfl
 |k+1,h=>by
  have e:F9 lk (k:Int)=lk[k]' A0:=by unfold F9;rw [Bs,Cx,DF A0];rfl
  rw [PM,aDU k A0,ZQ A0,List.foldl_append,<-e];rfl
def iM (s:Nq):Prop:=s.i=0/\s.n=(s.xs.length:Int)/\s.n<=20000000/\(s.left.length:Int)<=s.i/\(∀l∈s.xs,0<=l.2.2.1/\l.2.2.1<(s.p.gs.length:Int))/\s.p.st.length=s.p.gs.length
def gp (s:Nq):Prop:=0<=s.i/\s.i<=s.n/\s.n=(s.xs.length:Int)/\s.n<=20000000/\(s.left.length:Int)<=s.i/\(∀l∈s.xs,0<=l.2.2.1/\l.2.2.1<(s.p.gs.length:Int))/\s.p.st.length=s.p.gs.length
def pA (s:Nq):Nat:=(s.n-s.i).toNat
def adD (x:Ex) (s s':Nq):Prop:=True
def akx:∀s,iM s->gp s:=by
 rintro s ⟨h0,h2,h3,h4⟩
 exact xM
def ahI:Da gp pA adD To:=by
 intro s hI;unfold To;dsimp only [T.rd,T.rl,T.rv];obtain ⟨h0,h1,h2,h3,h4,h5,h6⟩:=hI;refine AG (λc1=>AG (λc2=>?_) (λc2=>AG (λc3=>?_) (λc3=>?_))) (λc1=>trivial)
 all_goals have c1:s.i<s.n:=AO
 all_goals rw [AI (x:=s.i+1)]
 ·exact AG (λ_=>⟨⟨AP,AP,h2,h3,Zp,h5,h6⟩,xf⟩) (λc=>Gm)
 ·exact AG (λc=>Gm) (λ_=>⟨⟨AP,AP,h2,h3,AP,h5,aND⟩,xf⟩)
 ·exact AG (λc=>Gm) (λ_=>⟨⟨AP,AP,h2,h3,AP,h5,h6⟩,xf⟩)
def Rb:AS Nq:=⟨19,30,[0,1,4,11,12,13],[.nl 4 127 Cp],λs=>[.own 16 0,.fn 75 [.own 18 0],.os 19 6 0 (s.left.length),s.xs,s.n,s.i],λs=>kT s.p s.ev Dd++[Bg,⟨[.own 16 0],95,.cl,false⟩,bV 127 Cp s.left],λv b=>⟨Az Cp v 3,AK v 4,AK v 5,rT b,rG b,Ab Cp b 19⟩,To,λs r=> {s with i:=r.i,p.st:=r.p.st,left:=r.left},λs=>s,λ_ s=>s,[.exit 0],iM,gp,pA⟩
abbrev Jz:=Rb.run
abbrev arL:=Rb.Am
def uB:List Bd:=[Wh,cw,XD,XH,XG,XE,Wf,Wi,Qi]
def ayu:As:=Hu uB (la 9 func19 Ck (l0 uB)) [⟨47,Oz.m,TD⟩]
def ax1:Rq gp To:=by
 intro s hI;refine ⟨λc1=>⟨?_,λc2=>⟨λc3=>⟨?_,?_,A8,A8,A8,A8,A8,A8,A8,trivial⟩,λc3=>⟨A8,A8,A8,A8,A8,A8,A8,A8,trivial⟩⟩,λc2=>⟨?_,?_,?_,λc4=>⟨?_,?_,λc5=>⟨?_,?_,A8,?_,A8,A8,A8,A8,A8,trivial⟩,λc5=>⟨A8,A8,?_,A8,A8,A8,A8,A8,trivial⟩⟩,λc4=>⟨λc6=>⟨?_,?_,A8,A8,A8,A8,A8,A8,A8,trivial⟩,λc6=>⟨A8,A8,A8,A8,A8,A8,A8,A8,trivial⟩⟩⟩⟩,λc1=>⟨A8,A8,A8,A8,A8,A8,A8,A8,trivial⟩⟩
 all_goals ((obtain ⟨h0,h1,h2,h3,h4,h5,h6⟩:=hI;simp only [AY] at c1;have hm:=h5 _ (aQV h0 (show s.i<(s.xs.length:Int) by omega)).1;first|omega|exact ⟨rfl,AJ⟩ |(simp only [BX,Bh,B0];omega) |(simp only [B0,BX,Bh,E9];done)))
def aPc:Rb.Ok:={}
def aPD:Rb.Pf (adD):=⟨akx,λs h=>rfl,ahI,ax1⟩
def L0:=s2 (b:=bN f58 0) aPc aPD uB ayu
def asQ:Rs iM arL Jz (λs:Nq=>((s.xs.drop s.i.toNat).foldl (arr1 s.p.gs s.p.tk) s.p.st,s.left++(s.xs.drop s.i.toNat).filter (λl=>decide (l.1>s.p.tk)))) (λx s' (v:List St×List Lk)=>x=.exit 0/\(s'.p.st,s'.left)=v):=DL aPc aPD (λs hI=>by
  show CM _ _ ((To s).rd s)
  unfold To;dsimp only [T.rd,T.rl];obtain ⟨h0,h1,h2,h3,h4,h5,h6⟩:=hI;refine AG (λc1=>?_) (λc1=>?_)
  ·have c1:s.i<s.n:=AO
   have e:=(aQV h0 (show s.i<(s.xs.length:Int) by omega)).2
   rw [AI (x:=s.i+1),e];refine AG (λc2=>?_) (λc2=>AG (λc3=>?_) (λc3=>?_))
   ·refine AG (λ_=>?_) (λc=>Gm)
    have c2':(F9 s.xs s.i).1>s.p.tk:=De c2
    show (_,_)=(_,_)
    rw [Jp,Kn,AE c2,show arr1 s.p.gs s.p.tk s.p.st (F9 s.xs s.i)=s.p.st from AE c2',CZ];rfl
   ·refine AG (λc=>Gm) (λ_=>?_)
    have c2':¬(F9 s.xs s.i).1>s.p.tk:=JF c2
    show (_,_)=(_,_)
    rw [Jp,Kn,AD Mz,show arr1 s.p.gs s.p.tk s.p.st (F9 s.xs s.i)=_ from (AD c2').trans (AE (eq_of_beq c3))];rfl
   ·refine AG (λc=>Gm) (λ_=>?_)
    have c2':¬(F9 s.xs s.i).1>s.p.tk:=JF c2
    show (_,_)=(_,_)
    rw [Jp,Kn,AD Mz,show arr1 s.p.gs s.p.tk s.p.st (F9 s.xs s.i)=_ from (AD c2').trans (AD (Bq.1 c3))]
  ·have c1:s.n<=s.i:=AO
   refine ⟨rfl,?_⟩;rw [EJ A0]
   simp)
structure No where
 (i on oi m k:Int)
 p:PK
 ev:EW
def aEe:=lN (bN f49 0) 0
def Tk (s:No):T (Rd No):=letI b:=s.p.st.getD s.i.toNat (Ty.dflt Bu);letI c:=s.p.st.length;letI a:=(s.p.st.set s.i.toNat (sN (AH s.p.gs s.i) b (8:Int) (0:Int) (0:Int)));.br (decide (s.k<s.m)) (.ix s.i (s.p.gs.length) (.ik s.i c (.br ((sE (AH s.p.gs s.i) b (8:Int) (0:Int) (0:Int))==0) (.ik s.i c (.rl s.p.dr (.rl s.p.cs (.re c a (.rl s.p.ca (.rl s.p.mi (.rl s.p.me (.rl s.p.dr (.rl s.p.tg (.nx {s with k:=A9 (s.k+1),p.st:=a})))))))))) (.rl s.p.dr (.pd s.p (.nx {s with k:=A9 (s.k+1)})))))) (.rl s.p.dr (.pd s.p (.so (.exit 2) s)))
def YU (s:No):Prop:=s.k=0/\(0<=s.i/\s.i<(s.p.gs.length:Int))/\s.p.st.length=s.p.gs.length/\s.m<=4000000
def gj (s:No):Prop:=0<=s.k/\(0<=s.i/\s.i<(s.p.gs.length:Int))/\s.p.st.length=s.p.gs.length/\s.m<=4000000
def dd (s:No):Nat:=(s.m-s.k).toNat
def adA (x:Ex) (s s':No):Prop:=True
def ako:∀s,YU s->gj s:=by
 rintro s ⟨h0,h2⟩
 exact ⟨A0,h2⟩
def azE:Da gj dd adA Tk:=by
 intro s hI;unfold Tk;dsimp only [T.rd,T.rl,T.rv];obtain ⟨h0,h1,h2,h3⟩:=hI;refine AG (λc1=>AG (λc2=>?_) (λc2=>?_)) (λc1=>trivial)
 all_goals have c1:s.k<s.m:=AO
 all_goals rw [AI (x:=s.k+1)]
 ·exact ⟨⟨AP,h1,aNI,h3⟩,by simp only [dd];omega⟩
 ·exact ⟨⟨AP,h1,h2,h3⟩,by simp only [dd];omega⟩
def RY:AS No:=⟨20,57,[0,2,12,13,14,48,49],[],λs=>[.own 16 0,s.i,.os 14 1 0 (s.p.dr.length),s.on,s.oi,s.m,s.k],λs=>kT s.p s.ev Dd++[Bg,Bg,Bg],λv b=>⟨AK v 1,AK v 3,AK v 4,AK v 5,AK v 6,rT b,rG b⟩,Tk,λs r=> {s with k:=r.k,p.st:=r.p.st},λs=>s,λ_ s=>s,[.exit 2],YU,gj,dd⟩
abbrev WI:=RY.run
abbrev arJ:=RY.Am
def X4:List Bd:=[Wh,cw,XD,XH,XG,XE,Wf,Wi,Qi]
def tA:As:=Hu X4 (la 2 func58 L0 (la 9 func19 Ck (l0 X4))) [⟨47,Oz.m,TD⟩]
def awx:Rq gj Tk:=by
 intro s hI;refine ⟨λc1=>⟨?_,?_,?_,λc2=>⟨?_,?_,A8,A8,?_,A8,A8,A8,A8,A8,trivial⟩,λc2=>⟨A8,A8,A8,A8,A8,A8,A8,A8,trivial⟩⟩,λc1=>⟨A8,A8,A8,A8,A8,A8,A8,A8,trivial⟩⟩
 all_goals ((obtain ⟨h0,h1,h2,h3⟩:=hI;first|omega|exact ⟨rfl,AJ⟩))
def aPZ:RY.Ok:={}
def aPA:RY.Pf (adA):=⟨ako,λs h=>rfl,azE,awx⟩
def aog:SA 20 aEe RY:=s2 aPZ aPA X4 tA
def aGO:Rs YU arJ WI (λs:No=>Eo (tk1 s.p.gs s.i) s.k.toNat s.p.st (s.m-s.k).toNat) (λx s' (v:List St)=>x=.exit 2/\s'.p.st=v):=DL aPZ aPA (λs hI=>by
  show CM _ _ ((Tk s).rd s)
  unfold Tk;dsimp only [T.rd,T.rl];obtain ⟨h0,h1,h2,h3⟩:=hI;refine AG (λc1=>?_) (λc1=>?_)
  ·have c1:s.k<s.m:=AO
   rw [AI (x:=s.k+1),M6 h0 c1];refine AG (λc2=>?_) (λc2=>?_)
   ·rw [show tk1 s.p.gs s.i s.k.toNat s.p.st=_ from AE (eq_of_beq c2)]
    rfl
   ·rw [show tk1 s.p.gs s.i s.k.toNat s.p.st=_ from AD (Bq.1 c2)]
    rfl
  ·have c1:s.m<=s.k:=AO
   exact ⟨rfl,(nG c1).symm⟩)
structure LI where
 (n i:Int)
 p:PK
 ev:EW
def aEd:=bN f49 0
def N6 (s:LI):No:=letI a:=s.p.dr.getD s.i.toNat (Ty.dflt A7);(⟨s.i,s.n,s.i,A9 ((H7 (A9 (s.p.tk+1)) a)-(H7 s.p.tk a)),0,s.p,s.ev⟩:No)
def Tj (s:LI):T (Rd LI):=letI a:=s.p.dr.getD s.i.toNat (Ty.dflt A7);.br (decide (s.i<s.n)) (.ik s.i (s.p.dr.length) (.br (((Kk s.p.tk a) !=0) ||((Kk (A9 (s.p.tk+1)) a) !=0)) (.rl s.p.dr (.pd s.p (.nx {s with i:=A9 (s.i+1)}))) (.rl s.p.dr (.pd s.p (.req (RY.q (N6 s)) (.rl s.p.dr (.rl s.p.cs (.rl (WI (N6 s)).p.st (.rl s.p.ca (.rl s.p.mi (.rl s.p.me (.rl s.p.dr (.rl s.p.tg (.nx {s with i:=A9 (s.i+1),p.st:=(WI (N6 s)).p.st})))))))))))))) (.rl s.p.dr (.pd s.p (.so (.exit 0) s)))
def iI (s:LI):Prop:=s.i=0/\s.n=(s.p.dr.length:Int)/\s.p.dr.length=s.p.gs.length/\s.n<=1000/\s.p.st.length=s.p.gs.length/\(0<=s.p.tk/\s.p.tk<=1000000)
def Z3 (s:LI):Prop:=0<=s.i/\s.i<=s.n/\s.n=(s.p.dr.length:Int)/\s.p.dr.length=s.p.gs.length/\s.n<=1000/\s.p.st.length=s.p.gs.length/\(0<=s.p.tk/\s.p.tk<=1000000)
def dc (s:LI):Nat:=(s.n-s.i).toNat
def ad9 (x:Ex) (s s':LI):Prop:=True
def alN:∀s,iI s->Z3 s:=by
 exact jr
def tq {s:LI}(hI:Z3 s) (c1:s.i<s.n):YU (N6 s)/\((Kk s.p.tk (gi s.p.dr s.i.toNat)=0/\Kk (s.p.tk+1) (gi s.p.dr s.i.toNat)=0)->(WI (N6 s)).p.st=cnt1 s.p.gs s.p.dr s.p.tk s.i.toNat s.p.st):=by
 obtain ⟨h0,h1,h2,h3,h4,h6,h7⟩:=hI
 have hg2:((s.i.toNat:Nat):Int)=s.i:=BQ h0
 have hg:s.p.dr.getD s.i.toNat (Ty.dflt A7)=gi s.p.dr s.i:=rfl
 have b1:=aaA s.p.tk (gi s.p.dr s.i)
 have b2:=aaA (s.p.tk+1) (gi s.p.dr s.i)
 have hm:(N6 s).m=H7 (s.p.tk+1) (gi s.p.dr s.i)-H7 s.p.tk (gi s.p.dr s.i):=by
  show A9 (H7 (A9 (s.p.tk+1)) _-H7 s.p.tk _)=_
  rw [hg,AI (x:=s.p.tk+1),AI (x:=H7 (s.p.tk+1) _-H7 s.p.tk _)]
 have hE:YU (N6 s):=⟨rfl,⟨h0,by show s.i<(s.p.gs.length:Int);omega⟩,h6,by rw [hm];omega⟩
 refine ⟨hE,λhc=>?_⟩
 have q:(WI (N6 s)).p.st=Eo (tk1 s.p.gs s.i) 0 s.p.st ((N6 s).m-0).toNat:=(aGO _ hE).2
 rw [q,hm,O6,atp];unfold cnt1;rw [hg2] at hc|-;rw [AE hc]
def azD:Da Z3 dc ad9 Tj:=by
 intro s hI;unfold Tj;dsimp only [T.rd,T.rl,T.rv];obtain ⟨h0,h1,h2,h3,h4,h6,h7⟩:=id hI;refine AG (λc1=>AG (λc2=>?_) (λc2=>?_)) (λc1=>trivial)
 all_goals have c1:s.i<s.n:=AO
 all_goals rw [AI (x:=s.i+1)]
 ·exact ⟨⟨AP,AP,h2,h3,h4,h6,h7⟩,by simp only [dc];omega⟩
 ·have hl:(WI (N6 s)).p.st.length=s.p.gs.length:=by
   rw [(aGO _ (tq hI c1).1).2];exact (aH6 λ_ _=>L2).trans h6
  exact ⟨⟨AP,AP,h2,h3,h4,hl,h7⟩,by simp only [dc];omega⟩
def QX:AS LI:=⟨20,57,[0,12,13,14],[.pc 16 17 Cp,.kb 18,.kb 19],λs=>[.own 16 0,.os 14 1 0 (s.p.dr.length),s.n,s.i],λs=>kT s.p s.ev Dd++[Bg,Bg,Bg],λv b=>⟨AK v 2,AK v 3,rT b,rG b⟩,Tj,λs r=> {s with i:=r.i,p.st:=r.p.st},λs=>s,λ_ s=>s,[.exit 0],iI,Z3,dc⟩
abbrev ni:=QX.run
abbrev arI:=QX.Am
def aww:Rq Z3 Tj:=by
 intro s hI;refine ⟨λc1=>⟨?_,?_,λc2=>⟨A8,A8,A8,A8,A8,A8,A8,A8,trivial⟩,λc2=>⟨A8,A8,A8,A8,A8,A8,A8,A8,?_,A8,A8,A8,A8,A8,A8,A8,A8,trivial⟩⟩,λc1=>⟨A8,A8,A8,A8,A8,A8,A8,A8,trivial⟩⟩
 all_goals ((obtain ⟨h0,h1,h2,h3,h4,h6,h7⟩:=id hI;simp only [AY] at c1;first|omega|exact ⟨(tq hI c1).1,rfl,rfl⟩))
def aPY:QX.Ok:={}
def aP9:QX.Pf (ad9):=⟨alN,λs h=>rfl,azD,aww⟩
def MA:SA 20 aEd QX:=AS.snd aPY aP9 (GC (Γ:=X4) (K:=tA) (L:=(Li (λi=>if i=7 then RY.lp else Af i))) (gk X4) tA.h aEd (λb hb=>by
 rw [show B6 _=[aEe] by kernel_rfl] at hb
 simp only [B1,Bv,Bw] at hb;subst hb;exact aog)) (λs=>AZ)
def asu:Rs iI arI ni (λs:LI=>Eo (cnt1 s.p.gs s.p.dr s.p.tk) s.i.toNat s.p.st (s.n-s.i).toNat) (λx s' (v:List St)=>x=.exit 0/\s'.p.st=v):=DL aPY aP9 (λs hI=>by
  show CM _ _ ((Tj s).rd s)
  unfold Tj;dsimp only [T.rd,T.rl];obtain ⟨h0,h1,h2,h3,h4,h6,h7⟩:=id hI;refine AG (λc1=>?_) (λc1=>?_)
  ·have c1:s.i<s.n:=AO
   have hg2:((s.i.toNat:Nat):Int)=s.i:=BQ h0
   have hg:s.p.dr.getD s.i.toNat (Ty.dflt A7)=gi s.p.dr s.i.toNat:=by rw [hg2];rfl
   rw [AI (x:=s.i+1),AI (x:=s.p.tk+1),hg,M6 h0 c1];refine AG (λc2=>?_) (λc2=>?_)
   ·rw [show cnt1 s.p.gs s.p.dr s.p.tk s.i.toNat s.p.st=s.p.st from AD λh=>by rw [h.1,h.2] at c2;cases c2]
    rfl
   ·have c2:Kk s.p.tk (gi s.p.dr s.i.toNat)=0/\Kk (s.p.tk+1) (gi s.p.dr s.i.toNat)=0:=D8
    rw [<-(tq hI c1).2 c2];rfl
  ·have c1:s.n<=s.i:=AO
   exact ⟨rfl,(nG c1).symm⟩)
structure LG where
 gl:List Ch
 (n i:Int)
 p:PK
 ev:EW
 dw:List Int
def dB (s:LG) (e:Int) (o:Int) (ce:Int) (a:Int) (al:Int) (se:Int) (sn:St) (m:Mi) (cn:Me):T (Rd LG):=letI b:=s.p.mi.set s.i.toNat m;letI c:=s.dw.set s.i.toNat a;letI d:=s.p.me.set s.i.toNat cn;letI f:=s.p.mi.length;letI g:=s.p.st.length;letI h:=A9 (s.i+1);letI j:=s.p.st.set s.i.toNat sn;letI k:=s.dw.length;letI l:=s.p.me.length;.br (decide (s.i<s.n)) (.ix s.i (s.gl.length) (.ik s.i (s.p.ca.length) (.br (!((s.p.ca.getD s.i.toNat (Ty.dflt AX)).2.2.1 !=0)) (.pd s.p (.rl s.dw (.nx {s with i:=h}))) (.ik s.i g (.ik s.i (s.p.ca.length) (.ik s.i f (.br (e !=0) (.pd s.p (.rl s.dw (.nx {s with i:=h}))) (.ik s.i k (.ik s.i f (.ik s.i l (.req (0<=(IntKind.u64.wrap o)/\(IntKind.u64.wrap o)<=7) (.br (ce==0) (.ik s.i l (.br (decide (a>al)) (.ix s.i (s.p.gs.length) (.ik s.i g (.br (se==0) (.ik s.i g (.rl s.p.cs (.re g j (.rl s.p.ca (.re f b (.re l d (.rl s.p.dr (.rl s.p.tg (.re k c (.nx {s with i:=h,p.st:=j,p.mi:=b,p.me:=d,dw:=c})))))))))) (.rl s.p.cs (.rl s.p.st (.rl s.p.ca (.re f b (.re l d (.rl s.p.dr (.rl s.p.tg (.re k c (.nx {s with i:=h,p.mi:=b,p.me:=d,dw:=c})))))))))))) (.rl s.p.cs (.rl s.p.st (.rl s.p.ca (.re f b (.re l d (.rl s.p.dr (.rl s.p.tg (.re k c (.nx {s with i:=h,p.mi:=b,p.me:=d,dw:=c}))))))))))) (.br (decide (a>al)) (.ix s.i (s.p.gs.length) (.ik s.i g (.br (se==0) (.ik s.i g (.rl s.p.cs (.re g j (.rl s.p.ca (.re f b (.rl s.p.me (.rl s.p.dr (.rl s.p.tg (.re k c (.nx {s with i:=h,p.st:=j,p.mi:=b,dw:=c})))))))))) (.rl s.p.cs (.rl s.p.st (.rl s.p.ca (.re f b (.rl s.p.me (.rl s.p.dr (.rl s.p.tg (.re k c (.nx {s with i:=h,p.mi:=b,dw:=c})))))))))))) (.rl s.p.cs (.rl s.p.st (.rl s.p.ca (.re f b (.rl s.p.me (.rl s.p.dr (.rl s.p.tg (.re k c (.nx {s with i:=h,p.mi:=b,dw:=c})))))))))))))))))))))) (.pd s.p (.rl s.dw (.so (.exit 0) s)))
abbrev XI (s:LG):=letI b:=s.p.ca.getD s.i.toNat (Ty.dflt AX);letI c:=s.p.mi.getD s.i.toNat (Ty.dflt By);letI d:=AH s.gl s.i;letI e:=s.p.st.getD s.i.toNat (Ty.dflt Bu);letI g:=s.p.me.getD s.i.toNat (Ty.dflt D6);letI a:=Bi d e;letI f:=cnt (IntKind.u64.wrap (Ea b c d.2.2.1 a));letI h:=FF b c d.2.2.1 a;dB s (J8 b c d.2.2.1 a) (Ea b c d.2.2.1 a) (EY g h f) h a (sE (AH s.p.gs s.i) e (6:Int) (2:Int) (0:Int)) (sN (AH s.p.gs s.i) e (6:Int) (2:Int) (0:Int)) (IQ b c d.2.2.1 a) (Fk g h f)
def j4 (s:LG):Prop:=s.i=0/\s.n=(s.p.gs.length:Int)/\s.n<=1000/\s.gl=s.p.gs/\(s.p.st.length=s.p.gs.length/\s.p.ca.length=s.p.gs.length/\s.p.mi.length=s.p.gs.length/\s.p.me.length=s.p.gs.length/\s.dw.length=s.p.gs.length)
def U3 (s:LG):Prop:=0<=s.i/\s.i<=s.n/\s.n=(s.p.gs.length:Int)/\s.n<=1000/\s.gl=s.p.gs/\(s.p.st.length=s.p.gs.length/\s.p.ca.length=s.p.gs.length/\s.p.mi.length=s.p.gs.length/\s.p.me.length=s.p.gs.length/\s.dw.length=s.p.gs.length)
def aw (s:LG):Nat:=(s.n-s.i).toNat
def zU (x:Ex) (s s':LG):Prop:=True
def al3:∀s,j4 s->U3 s:=by
 exact jr
def arW (s:LG) (hI:U3 s) (e:Int) (o:Int) (ce:Int) (a:Int) (al:Int) (se:Int) (sn:St) (m:Mi) (cn:Me) (he:J8 (s.p.ca.getD s.i.toNat (Ty.dflt AX)) (s.p.mi.getD s.i.toNat (Ty.dflt By)) (AH s.gl s.i).2.2.1 (Bi (AH s.gl s.i) (s.p.st.getD s.i.toNat (Ty.dflt Bu)))=e) (ho:Ea (s.p.ca.getD s.i.toNat (Ty.dflt AX)) (s.p.mi.getD s.i.toNat (Ty.dflt By)) (AH s.gl s.i).2.2.1 (Bi (AH s.gl s.i) (s.p.st.getD s.i.toNat (Ty.dflt Bu)))=o) (hce:EY (s.p.me.getD s.i.toNat (Ty.dflt D6)) (FF (s.p.ca.getD s.i.toNat (Ty.dflt AX)) (s.p.mi.getD s.i.toNat (Ty.dflt By)) (AH s.gl s.i).2.2.1 (Bi (AH s.gl s.i) (s.p.st.getD s.i.toNat (Ty.dflt Bu)))) (cnt (IntKind.u64.wrap (Ea (s.p.ca.getD s.i.toNat (Ty.dflt AX)) (s.p.mi.getD s.i.toNat (Ty.dflt By)) (AH s.gl s.i).2.2.1 (Bi (AH s.gl s.i) (s.p.st.getD s.i.toNat (Ty.dflt Bu))))))=ce) (ha:FF (s.p.ca.getD s.i.toNat (Ty.dflt AX)) (s.p.mi.getD s.i.toNat (Ty.dflt By)) (AH s.gl s.i).2.2.1 (Bi (AH s.gl s.i) (s.p.st.getD s.i.toNat (Ty.dflt Bu)))=a) (hal:Bi (AH s.gl s.i) (s.p.st.getD s.i.toNat (Ty.dflt Bu))=al) (hse:sE (AH s.p.gs s.i) (s.p.st.getD s.i.toNat (Ty.dflt Bu)) (6:Int) (2:Int) (0:Int)=se) (hsn:sN (AH s.p.gs s.i) (s.p.st.getD s.i.toNat (Ty.dflt Bu)) (6:Int) (2:Int) (0:Int)=sn) (hm:IQ (s.p.ca.getD s.i.toNat (Ty.dflt AX)) (s.p.mi.getD s.i.toNat (Ty.dflt By)) (AH s.gl s.i).2.2.1 (Bi (AH s.gl s.i) (s.p.st.getD s.i.toNat (Ty.dflt Bu)))=m) (hcn:Fk (s.p.me.getD s.i.toNat (Ty.dflt D6)) (FF (s.p.ca.getD s.i.toNat (Ty.dflt AX)) (s.p.mi.getD s.i.toNat (Ty.dflt By)) (AH s.gl s.i).2.2.1 (Bi (AH s.gl s.i) (s.p.st.getD s.i.toNat (Ty.dflt Bu)))) (cnt (IntKind.u64.wrap (Ea (s.p.ca.getD s.i.toNat (Ty.dflt AX)) (s.p.mi.getD s.i.toNat (Ty.dflt By)) (AH s.gl s.i).2.2.1 (Bi (AH s.gl s.i) (s.p.st.getD s.i.toNat (Ty.dflt Bu))))))=cn):CM (λs'=>U3 s'/\aw s'<aw s) (λx s'=>zU x s s') ((dB s e o ce a al se sn m cn).rd s):=by
 unfold dB;dsimp only [T.rd,T.rl,T.rv];obtain ⟨h0,h1,h2,h3,hg,l1,l2,l3,l4,l5⟩:=hI;refine AG (λc1=>?_) (λc1=>?_)
 ·refine AG (λc2=>?_) (λc2=>?_)
  ·exact Zg
  ·refine AG (λc3=>?_) (λc3=>?_)
   ·exact Zg
   ·refine AG (λc4=>?_) (λc4=>?_)
    ·exact aLa
    ·exact aLa
 ·trivial
def azt:Da U3 aw zU XI:=λs hI=>arW s hI _ _ _ _ _ _ _ _ _ rfl rfl rfl rfl rfl rfl rfl rfl rfl
def RT:AS LG:=⟨20,124,[0,27,28,29],[],λs=>[.own 16 0,s.gl,s.n,s.i],λs=>kT s.p s.ev (.os 20 1 0 (s.dw.length))++[Bg,Bg,Bg,bV 3 A7 s.dw],λv b=>⟨Az Au v 1,AK v 2,AK v 3,rT b,rG b,Ab A7 b 20⟩,XI,λs r=> {s with i:=r.i,p.st:=r.p.st,p.mi:=r.p.mi,p.me:=r.p.me,dw:=r.dw},λs=>s,λ_ s=>s,[.exit 0],j4,U3,aw⟩
abbrev JJ:=RT.run
abbrev as7:=RT.Am
def uA:List Bd:=[Wh,cw,XD,XH,XG,XE,Wf,Wi,Qi]
def ayt:As:=Hu uA (la 1 func49 MA (la 2 func58 L0 (la 9 func19 Ck (l0 uA)))) [⟨47,Oz.m,TD⟩]
def avH:Rq U3 XI:=by
 intro s hI;refine ⟨λc1=>⟨?_,?_,?_,λc2=>⟨A8,A8,A8,A8,A8,A8,A8,A8,trivial⟩,λc2=>⟨?_,?_,?_,?_,?_,?_,λc3=>⟨A8,A8,A8,A8,A8,A8,A8,A8,trivial⟩,λc3=>⟨?_,?_,?_,?_,?_,?_,?_,λc4=>⟨?_,?_,λc5=>⟨?_,?_,?_,λc6=>⟨?_,?_,A8,?_,A8,?_,?_,A8,A8,?_,trivial⟩,λc6=>⟨A8,A8,A8,?_,?_,A8,A8,?_,trivial⟩⟩,λc5=>⟨A8,A8,A8,?_,?_,A8,A8,?_,trivial⟩⟩,λc4=>⟨λc7=>⟨?_,?_,?_,λc8=>⟨?_,?_,A8,?_,A8,?_,A8,A8,A8,?_,trivial⟩,λc8=>⟨A8,A8,A8,?_,A8,A8,A8,?_,trivial⟩⟩,λc7=>⟨A8,A8,A8,?_,A8,A8,A8,?_,trivial⟩⟩⟩⟩⟩,λc1=>⟨A8,A8,A8,A8,A8,A8,A8,A8,trivial⟩⟩
 all_goals ((obtain ⟨h0,h1,h2,h3,hg,l1,l2,l3,l4,l5⟩:=hI;simp only [AY] at c1;first|(rw [hg];omega) |omega|exact ⟨rfl,AJ⟩ |(rw [aad];exact aRH)))
def aPL:RT.Ok:={}
def aNm:RT.Pf (zU):=⟨al3,λs h=>rfl,azt,avH⟩
def NA:=s2 (b:=bN f50 0) aPL aNm uA ayt
def arV:Rs j4 as7 JJ (λs:LG=>Eo (λk d=>Fc s.p.gs s.p.ca d (k:Int)) s.i.toNat ⟨s.p.st,s.p.mi,s.p.me,s.dw⟩ (s.n-s.i).toNat) (λx s' (v:DW)=>x=.exit 0/\(⟨s'.p.st,s'.p.mi,s'.p.me,s'.dw⟩:DW)=v):=DL aPL aNm (λs hI=>by
  show CM _ _ ((XI s).rd s)
  unfold XI dB;dsimp only [T.rd,T.rl];obtain ⟨h0,h1,h2,h3,hg,l1,l2,l3,l4,l5⟩:=hI
  have hi:((s.i.toNat:Nat):Int)=s.i:=BQ h0
  rw [hg];simp only [aad];refine AG (λc1=>?_) (λc1=>?_)
  ·refine AG (λc2=>?_) (λc2=>?_)
   ·have c1:s.i<s.n:=AO
    rw [AI (x:=s.i+1),M6 h0 c1,hi]
    have c2:(BS s.p.ca s.i).2.2.1=0:=DH ((D4 _).mp c2)
    rw [al6 c2];rfl
   ·refine AG (λc3=>?_) (λc3=>?_)
    ·have c1:s.i<s.n:=AO
     rw [AI (x:=s.i+1),M6 h0 c1,hi]
     have c2:¬(BS s.p.ca s.i).2.2.1=0:=DT.1 ((Hy _).mp c2)
     have c3:=DT.1 c3
     rw [al5 c2 c3];rfl
    ·refine AG (λc4=>?_) (λc4=>?_)
     ·refine AG (λc5=>?_) (λc5=>?_)
      ·refine AG (λc6=>?_) (λc6=>?_)
       ·have c1:s.i<s.n:=AO
        rw [AI (x:=s.i+1),M6 h0 c1,hi]
        have c2:¬(BS s.p.ca s.i).2.2.1=0:=DT.1 ((Hy _).mp c2)
        have c3:J8 (BS s.p.ca s.i) (BC s.p.mi s.i) (AH s.p.gs s.i).2.2.1 (Bi (AH s.p.gs s.i) (BP s.p.st s.i))=0:=DH c3
        rw [UM c2 c3];rw [AE (show EY (Ac s.p.me s.i) (FF (BS s.p.ca s.i) (BC s.p.mi s.i) (AH s.p.gs s.i).2.2.1 (Bi (AH s.p.gs s.i) (BP s.p.st s.i))) (cnt (Ea (BS s.p.ca s.i) (BC s.p.mi s.i) (AH s.p.gs s.i).2.2.1 (Bi (AH s.p.gs s.i) (BP s.p.st s.i))))=0 from eq_of_beq c4)];exact aKl
       ·have c1:s.i<s.n:=AO
        rw [AI (x:=s.i+1),M6 h0 c1,hi]
        have c2:¬(BS s.p.ca s.i).2.2.1=0:=DT.1 ((Hy _).mp c2)
        have c3:J8 (BS s.p.ca s.i) (BC s.p.mi s.i) (AH s.p.gs s.i).2.2.1 (Bi (AH s.p.gs s.i) (BP s.p.st s.i))=0:=DH c3
        rw [UM c2 c3];rw [AE (show EY (Ac s.p.me s.i) (FF (BS s.p.ca s.i) (BC s.p.mi s.i) (AH s.p.gs s.i).2.2.1 (Bi (AH s.p.gs s.i) (BP s.p.st s.i))) (cnt (Ea (BS s.p.ca s.i) (BC s.p.mi s.i) (AH s.p.gs s.i).2.2.1 (Bi (AH s.p.gs s.i) (BP s.p.st s.i))))=0 from eq_of_beq c4)];exact aKm
      ·have c1:s.i<s.n:=AO
       rw [AI (x:=s.i+1),M6 h0 c1,hi]
       have c2:¬(BS s.p.ca s.i).2.2.1=0:=DT.1 ((Hy _).mp c2)
       have c3:J8 (BS s.p.ca s.i) (BC s.p.mi s.i) (AH s.p.gs s.i).2.2.1 (Bi (AH s.p.gs s.i) (BP s.p.st s.i))=0:=DH c3
       rw [UM c2 c3];rw [AE (show EY (Ac s.p.me s.i) (FF (BS s.p.ca s.i) (BC s.p.mi s.i) (AH s.p.gs s.i).2.2.1 (Bi (AH s.p.gs s.i) (BP s.p.st s.i))) (cnt (Ea (BS s.p.ca s.i) (BC s.p.mi s.i) (AH s.p.gs s.i).2.2.1 (Bi (AH s.p.gs s.i) (BP s.p.st s.i))))=0 from eq_of_beq c4)];exact aKz
     ·refine AG (λc5=>?_) (λc5=>?_)
      ·refine AG (λc6=>?_) (λc6=>?_)
       ·have c1:s.i<s.n:=AO
        rw [AI (x:=s.i+1),M6 h0 c1,hi]
        have c2:¬(BS s.p.ca s.i).2.2.1=0:=DT.1 ((Hy _).mp c2)
        have c3:J8 (BS s.p.ca s.i) (BC s.p.mi s.i) (AH s.p.gs s.i).2.2.1 (Bi (AH s.p.gs s.i) (BP s.p.st s.i))=0:=DH c3
        rw [UM c2 c3];rw [AD (show ¬EY (Ac s.p.me s.i) (FF (BS s.p.ca s.i) (BC s.p.mi s.i) (AH s.p.gs s.i).2.2.1 (Bi (AH s.p.gs s.i) (BP s.p.st s.i))) (cnt (Ea (BS s.p.ca s.i) (BC s.p.mi s.i) (AH s.p.gs s.i).2.2.1 (Bi (AH s.p.gs s.i) (BP s.p.st s.i))))=0 from Bq.1 c4)];exact aKl
       ·have c1:s.i<s.n:=AO
        rw [AI (x:=s.i+1),M6 h0 c1,hi]
        have c2:¬(BS s.p.ca s.i).2.2.1=0:=DT.1 ((Hy _).mp c2)
        have c3:J8 (BS s.p.ca s.i) (BC s.p.mi s.i) (AH s.p.gs s.i).2.2.1 (Bi (AH s.p.gs s.i) (BP s.p.st s.i))=0:=DH c3
        rw [UM c2 c3];rw [AD (show ¬EY (Ac s.p.me s.i) (FF (BS s.p.ca s.i) (BC s.p.mi s.i) (AH s.p.gs s.i).2.2.1 (Bi (AH s.p.gs s.i) (BP s.p.st s.i))) (cnt (Ea (BS s.p.ca s.i) (BC s.p.mi s.i) (AH s.p.gs s.i).2.2.1 (Bi (AH s.p.gs s.i) (BP s.p.st s.i))))=0 from Bq.1 c4)];exact aKm
      ·have c1:s.i<s.n:=AO
       rw [AI (x:=s.i+1),M6 h0 c1,hi]
       have c2:¬(BS s.p.ca s.i).2.2.1=0:=DT.1 ((Hy _).mp c2)
       have c3:=DH c3
       rw [UM c2 c3];rw [AD (show ¬EY (Ac s.p.me s.i) (FF (BS s.p.ca s.i) (BC s.p.mi s.i) (AH s.p.gs s.i).2.2.1 (Bi (AH s.p.gs s.i) (BP s.p.st s.i))) (cnt (Ea (BS s.p.ca s.i) (BC s.p.mi s.i) (AH s.p.gs s.i).2.2.1 (Bi (AH s.p.gs s.i) (BP s.p.st s.i))))=0 from Bq.1 c4)];exact aKz
  ·have c1:s.n<=s.i:=AO
   exact ⟨rfl,(nG c1).symm⟩)
structure MR where
 m:List Ch
 (k i:Int)
 p:PK
 ev:EW
 (dw out:List Int)
def akm (s:MR):List LV:=[.os 21 1 0 (s.out.length),s.m,s.k,s.i]
def akj (s:MR):List AB:=kB 4 0 0 0 0 0 0 0 0 0 0 15 s.p s.ev (.os 20 1 0 (s.dw.length))++[Bg,Bg,Bg,bV 3 A7 s.dw,bV 3 A7 s.out]
def anC:=bN f34 0
def ur (s:MR):T (Rd MR):=letI a:=s.out.set s.i.toNat (AH s.m s.i).2.2.2.2.2.2.1;.br (decide (s.i<s.k)) (.ix s.i (s.m.length) (.ik s.i (s.out.length) (.re (s.out.length) a (.rl s.p.cs (.rl s.p.tg (.rl s.dw (.nx {s with i:=A9 (s.i+1),out:=a}))))))) (.rl s.out (.rl s.p.cs (.rl s.p.tg (.rl s.dw (.so (.exit 0) s)))))
def gG (s:MR):Prop:=s.i=0/\s.k=(s.m.length:Int)/\s.k<=1000/\s.out.length=s.m.length/\(∀j,0<=j->j<s.k->gi s.out j=0)/\True
def Xv (s:MR):Prop:=(0<=s.i/\s.i<=s.k)/\s.k=(s.m.length:Int)/\s.k<=1000/\s.out.length=s.m.length/\(∀j,0<=j->j<s.k->gi s.out j=if j<s.i then Cq (AH s.m j) else 0)/\True
def rk (s:MR):Nat:=(s.k-s.i).toNat
def zl (x:Ex) (s s':MR):Prop:=x=.exit 0/\s'.out=Gv s'.m.length (λj=>Cq (AH s'.m j))
def aiF:∀s,gG s->Xv s:=by
 exact VE
def auO:Da Xv rk zl ur:=by
 intro s hI;obtain ⟨⟨h0,h1⟩,h2,h3,h4,h5,h6⟩:=hI;refine AG (λc1=>?_) (λc1=>?_)
 ·have c1:s.i<s.k:=AO
  rw [AI (x:=s.i+1)];refine ⟨⟨⟨AA,AA⟩,h2,h3,AA,λj j0 j1=>?_,h6⟩,by simp only [rk];omega⟩
  simp only;rw [K7 h0 A0 j0];exact wj
 ·exact jy
def QL:AS MR:=⟨21,25,[3,11,12,13],[.pc 16 12 Bu,.kb 8,.pc 16 13 AX,.kb 9,.pc 16 14 By,.kb 10,.pc 16 15 D6,.kb 11,.pc 16 18 A7,.kb 14],akm,akj,λv b=>⟨Az Au v 1,AK v 2,AK v 3,rB b 16 4 0 0 0 0 0 0 0 0 0 0 15,rG b,Ab A7 b 20,Ab A7 b 21⟩,ur,λs r=> {s with i:=r.i,out:=r.out},λs=>s,λ_ s=>s,[.exit 0],gG,Xv,rk⟩
abbrev oL:=QL.run
abbrev arZ:=QL.Am
def Od:List Bd:=[Wh,XD,XH,XG,XE,Wf,Wi,Qi]
def ays:As:=Hu Od (la 2 func50 NA (la 1 func49 MA (la 2 func58 L0 (la 9 func19 Ck (l0 Od))))) [⟨47,Oz.m,TD⟩]
def aw1:Rq Xv ur:=by
 intro s hI;refine ⟨λc1=>⟨?_,?_,?_,?_,A8,A8,A8,trivial⟩,λc1=>⟨A8,A8,A8,A8,trivial⟩⟩
 all_goals ((obtain ⟨⟨h0,h1⟩,h2,h3,h4,h5,h6⟩:=hI;(try simp only [AY] at c1);first|omega|exact ⟨rfl,AJ⟩ |(omega)))
def aP0:QL.Ok:={}
def aOa:QL.Pf (zl):=⟨aiF,λs h=>rfl,auO,aw1⟩
def OW:SA 21 anC QL:=s2 aP0 aOa Od ays
def aoL:Fi gG Xv zl arZ oL:=AS.fin aP0 aOa
structure MS where
 m:List Int
 (k i:Int)
 p:PK
 ev:EW
 (dw Cz:List Int)
def akn (s:MS):List LV:=[.own 16 0,.os 21 1 0 (s.Cz.length),.xl A7 s.m,s.k,s.i]
def akk (s:MS):List AB:=kB 4 0 0 0 0 0 0 0 0 0 0 15 s.p s.ev (.os 20 1 0 (s.dw.length))++[Bg,Bg,Bg,bV 3 A7 s.dw,bV 3 A7 s.Cz]
def anD:=bN f51 0
def uu (s:MS):T (Rd MS):=letI b:=s.Cz.getD s.i.toNat (Ty.dflt A7);letI c:=s.Cz.length;letI a:=s.Cz.set s.i.toNat (if b<(gi s.m s.i) then (gi s.m s.i) else b);.br (decide (s.i<s.k)) (.ix s.i (s.m.length) (.ik s.i c (.ik s.i c (.re c a (.rl s.p.cs (.rl s.p.tg (.rl s.dw (.nx {s with i:=A9 (s.i+1),Cz:=a})))))))) (.rl s.Cz (.rl s.p.cs (.rl s.p.tg (.rl s.dw (.so (.exit 0) s)))))
def gH (s:MS):Prop:=s.i=0/\s.k=(s.m.length:Int)/\s.k<=1000/\s.Cz.length=s.m.length/\(∀j,0<=j->j<s.k->gi s.Cz j=Cq (AH s.p.gs j))/\True
def Xw (s:MS):Prop:=(0<=s.i/\s.i<=s.k)/\s.k=(s.m.length:Int)/\s.k<=1000/\s.Cz.length=s.m.length/\(∀j,0<=j->j<s.k->gi s.Cz j=if j<s.i then mx (Cq (AH s.p.gs j)) (gi s.m j) else Cq (AH s.p.gs j))/\True
def rp (s:MS):Nat:=(s.k-s.i).toNat
def zm (x:Ex) (s s':MS):Prop:=x=.exit 0/\s'.Cz=Gv s'.m.length (λj=>mx (Cq (AH s'.p.gs j)) (gi s'.m j))
def aiG:∀s,gH s->Xw s:=by
 exact VE
def auP:Da Xw rp zm uu:=by
 intro s hI;obtain ⟨⟨h0,h1⟩,h2,h3,h4,h5,h6⟩:=hI;refine AG (λc1=>?_) (λc1=>?_)
 ·have c1:s.i<s.k:=AO
  rw [AI (x:=s.i+1)];refine ⟨⟨⟨AA,AA⟩,h2,h3,AA,λj j0 j1=>?_,h6⟩,by simp only [rp];omega⟩
  simp only
  have hi:=h5 s.i h0 c1
  rw [AD (show ¬s.i<s.i by omega)] at hi
  rw [K7 h0 aE j0]
  by_cases e:j=s.i
  ·subst e
   rw [AE rfl,AE (show s.i<s.i+1 by omega)]
   show mx (gi s.Cz s.i) (gi s.m s.i)=_
   rw [hi]
  ·exact xP
 ·exact jy
def QM:AS MS:=⟨21,125,[0,2,51,52,53],[],akn,akk,λv b=>⟨Az A7 v 2,AK v 3,AK v 4,rB b 16 4 0 0 0 0 0 0 0 0 0 0 15,rG b,Ab A7 b 20,Ab A7 b 21⟩,uu,λs r=> {s with i:=r.i,Cz:=r.Cz},λs=>s,λ_ s=>s,[.exit 0],gH,Xw,rp⟩
abbrev oM:=QM.run
abbrev arb:=QM.Am
def ayr:As:=Hu Od (la 3 func34 OW (la 2 func50 NA (la 1 func49 MA (la 2 func58 L0 (la 9 func19 Ck (l0 Od)))))) [⟨47,Oz.m,TD⟩]
def aw2:Rq Xw uu:=by
 intro s hI;refine ⟨λc1=>⟨?_,?_,?_,?_,?_,?_,A8,A8,A8,trivial⟩,λc1=>⟨A8,A8,A8,A8,trivial⟩⟩
 all_goals ((obtain ⟨⟨h0,h1⟩,h2,h3,h4,h5,h6⟩:=hI;(try simp only [AY] at c1);first|omega|exact ⟨rfl,AJ⟩ |(omega)))
def aP1:QM.Ok:={}
def aNt:QM.Pf (zm):=⟨aiG,λs h=>rfl,auP,aw2⟩
def Q2:SA 21 anD QM:=s2 aP1 aNt Od ayr
def aoM:Fi gH Xw zm arb oM:=AS.fin aP1 aNt
def awX {gs:List Ch}{am:List Int}{b:Bool}:((JA gs am==0)&&!(decide (am.length=gs.length)&&!b))=(decide (am.length=gs.length)&&b):=by
 unfold JA
 grind
def cdS (cs:List Cd) (tg:List Int) (i:Int):List Cd:=letI a:=(cpC cs).getD i.toNat (Ty.dflt Ao);(cpC cs).set i.toNat (a.1,(a.2.1,((tg.getD i.toNat (Ty.dflt A7)),a.2.2.2)))
def dD {cs:List Cd}{tg:List Int}{i:Int}(h0:0<=i) (h:i<(cs.length:Int)):cdS cs tg i=cs.set i.toNat (Jh (Ag cs i.toNat) (gi tg i.toNat)):=by
 have e1:cs.getD i.toNat (Ty.dflt Ao)=Ag cs (i.toNat:Int):=by
  rw [Cx,DF A0];rw [show Ag cs (i.toNat:Int)=cs[i.toNat]' A0 from cM A0];rfl
 unfold cdS;rw [Wz,e1,BQ h0];rfl
structure Is where
 am:List Int
 (n i:Int)
 p:PK
 ev:EW
 dw:List Int
def akl (s:Is):List LV:=[.own 16 0,.xl A7 s.am,.os 15 1 0 (s.p.tg.length),s.n,s.i]
def aki (s:Is):List AB:=[Bg,Bg,zB,Bg,⟨[],74,.dead,false⟩,Bg,Bg,Bg,Bg,Bg,Bg,Bg,Bg,Bg,Bg,bV 3 A7 s.p.tg,⟨[.os 21 11 0 (s.p.cs.length),.xl .str s.p.os,.xl B8 s.p.ks,.xl Au s.p.gs,.xl B9 s.p.bs,.v (.int .i64 s.p.tk),.v (.bool s.p.up),.xl AX s.p.ls,.v (.int .i64 s.p.se),.xl (.int .u8) s.p.fl,.xl BD s.p.ra,.v (.int .i64 s.p.nx),.xl Bu s.p.st,.xl AX s.p.ca,.xl By s.p.mi,.xl D6 s.p.me,.xl BO s.p.dm,.xl Cp s.p.lk,.xl A7 s.p.dr,.os 15 1 0 (s.p.tg.length),.v (.int .i64 s.ev.ek),.v (.int .i64 s.ev.en),.v (.int .i64 s.ev.em),.v (.int .i64 s.ev.c1),.v (.int .i64 s.ev.c2),.v (.int .i64 s.ev.c3),.v (.int .i64 s.ev.c4),.v (.int .i64 s.ev.c5),.v (.bool s.ev.d1),.v (.int .i64 s.ev.d2),.v (.int .i64 s.ev.d3),.v (.int .i64 s.ev.d4),.os 20 1 0 (s.dw.length)],99,.cl,false⟩,Bg,Bg,Bg,bV 3 A7 s.dw,bV 74 Ao s.p.cs]
def anB:=bN f51 1
def eW (s:Is):T (Rd Is):=letI a:=((s.p.cs.length:Nat):Int);letI b:=cdS s.p.cs s.p.tg s.i;letI c:=(b.drop 0).take a.toNat;letI d:=A9 (s.i+1);.br (decide (s.i<s.n)) (.ik s.i (s.p.tg.length) (.ik s.i (s.p.cs.length) (.br (decide ((s.p.tg.getD s.i.toNat (Ty.dflt A7))>=(s.p.cs.getD s.i.toNat (Ty.dflt Ao)).2.2.1)) (.rl s.p.tg (.rl s.p.cs (.rl s.p.tg (.rl s.dw (.nx {s with i:=d}))))) (.rm 96 a (.rz s.p.cs (.rc a (ByteArray.empty,((0:Int),((0:Int),((0:Int),(((0:Int),(0:Int)),((0:Int),((0:Int),((0:Int),((0:Int),(0:Int)))))))))) (List.length (AQ s.p.cs)) (.ix s.i a.toNat (.req (s.i.toNat<List.length (cpC s.p.cs)) (.req (0+a.toNat<=List.length b) (.req (BF c s.p.os s.p.ks s.p.gs s.p.bs=true/\(s.am.length=s.p.gs.length->∀k:Nat,k<s.am.length->0<=gi s.am k/\gi s.am k<=80)) (.br (((JA s.p.gs s.am)==0)&&(!(decide (s.am.length=s.p.gs.length)&&!IL c s.p.gs s.am))) (.rl s.p.tg (.re a.toNat b (.rl s.p.tg (.rl s.dw (.nx {s with i:=d,p.cs:=b}))))) (.rl s.p.tg (.rl s.p.cs (.rl s.p.tg (.rl s.dw (.nx {s with i:=d})))))))))))))))) (.rl s.p.tg (.rl s.p.cs (.rl s.p.tg (.rl s.dw (.so (.exit 2) s)))))
def YK (s:Is):Prop:=s.i=0/\s.n=(s.p.tg.length:Int)/\s.p.tg.length=s.p.cs.length/\BF s.p.cs s.p.os s.p.ks s.p.gs s.p.bs=true/\(∀k:Nat,k<s.p.cs.length->1<=gi s.p.tg k/\gi s.p.tg k<=1000)/\(s.am.length=s.p.gs.length->∀k:Nat,k<s.am.length->0<=gi s.am k/\gi s.am k<=80)
def Xu (s:Is):Prop:=0<=s.i/\s.i<=s.n/\s.n=(s.p.tg.length:Int)/\s.p.tg.length=s.p.cs.length/\BF s.p.cs s.p.os s.p.ks s.p.gs s.p.bs=true/\(∀k:Nat,k<s.p.cs.length->1<=gi s.p.tg k/\gi s.p.tg k<=1000)/\(s.am.length=s.p.gs.length->∀k:Nat,k<s.am.length->0<=gi s.am k/\gi s.am k<=80)
def cY (s:Is):Nat:=(s.n-s.i).toNat
def abq (x:Ex) (s s':Is):Prop:=True
def aiE:∀s,YK s->Xu s:=by
 exact jr
def qu {s:Is}(hI:Xu s) (c1:s.i<s.n):letI a:=Jh (Ag s.p.cs s.i.toNat) (gi s.p.tg s.i.toNat);((cdS s.p.cs s.p.tg s.i).drop 0).take ((s.p.cs.length:Nat):Int).toNat=s.p.cs.set s.i.toNat a/\BF (s.p.cs.set s.i.toNat a) s.p.os s.p.ks s.p.gs s.p.bs=true:=by
 obtain ⟨h0,h1,h2,h3,h4,h5,h6⟩:=hI;rw [dD h0 A0];exact ⟨by rw [CJ];exact D3 AJ,mf h4 A0 (h5 _ A0)⟩
def auN:Da Xu cY abq eW:=by
 intro s hI;unfold eW;obtain ⟨h0,h1,h2,h3,h4,h5,h6⟩:=hI
 have hs:=D9.1 h4
 refine AG (λc1=>AG (λc2=>?_) (λc2=>AG (λc3=>?_) (λc3=>?_))) (λc1=>trivial)
 all_goals have c1:s.i<s.n:=AO
 all_goals rw [AI (x:=s.i+1)]
 ·exact aLf
 ·rw [dD h0 A0]
  exact ⟨⟨AP,AP,h2,AA,mf h4 A0 (h5 _ A0),AA,h6⟩,by simp only [cY];omega⟩
 ·exact aLf
def Ox:AS Is:=⟨21,125,[0,2,72,73,74],[.pc 16 12 Bu,.kb 8,.pc 16 13 AX,.kb 9,.pc 16 14 By,.kb 10,.pc 16 15 D6,.kb 11,.pc 16 18 A7,.kb 14,.pb 2 A7,.ms 0 0],akl,aki,λv b=>⟨Az A7 v 1,AK v 3,AK v 4,rB b 16 21 0 0 0 0 0 0 0 0 0 0 15,rG b,Ab A7 b 20⟩,eW,λs r=> {s with i:=r.i,p.cs:=r.p.cs},λs=>s,λ_ s=>s,[.exit 2],YK,Xu,cY⟩
abbrev Sy:=Ox.run
abbrev aqJ:=Ox.Am
def ayq:As:=Hu Od (la 6 func51 Q2 (la 3 func34 OW (la 2 func50 NA (la 1 func49 MA (la 2 func58 L0 (la 9 func19 Ck (l0 Od))))))) [⟨47,Oz.m,TD⟩]
def aw0:Rq Xu eW:=by
 intro s hI;refine ⟨λc1=>⟨?_,?_,?_,?_,λc2=>⟨A8,A8,A8,A8,trivial⟩,λc2=>⟨?_,?_,?_,?_,?_,?_,?_,λc3=>⟨A8,?_,A8,A8,trivial⟩,λc3=>⟨A8,A8,A8,A8,trivial⟩⟩⟩,λc1=>⟨A8,A8,A8,A8,trivial⟩⟩
 all_goals ((obtain ⟨h0,h1,h2,h3,h4,h5,h6⟩:=id hI;have hs:=D9.1 h4;simp only [AY] at c1;first|exact ⟨by rw [(qu hI c1).1];exact (qu hI c1).2,h6⟩ |((try rw [Wz]);(try rw [FP]);(try rw [dD h0 A0]);first|omega|exact ⟨rfl,AJ⟩ |(simp;done))))
def aOz:Ox.Ok:={}
def aOZ:Ox.Pf (abq):=⟨aiE,λs h=>rfl,auN,aw0⟩
def T7:SA 21 anB Ox:=s2 aOz aOZ Od ayq
def afk:Rs YK aqJ Sy (λs:Is=>Eo (ZF s.p.gs s.p.tg s.am) s.i.toNat s.p.cs (s.n-s.i).toNat) (λx s' (v:List Cd)=>x=.exit 2/\s'.p.cs=v):=DL aOz aOZ (λs hI=>by
  obtain ⟨h0,h1,h2,h3,h4,h5,h6⟩:=id hI
  have hs:=D9.1 h4
  refine AG (λc1=>?_) (λc1=>?_)
  ·have c1:s.i<s.n:=AA
   have hg:s.p.tg.getD s.i.toNat (Ty.dflt A7)=gi s.p.tg s.i.toNat:=Bt
   have hc:(s.p.cs.getD s.i.toNat (Ty.dflt Ao))=Ag s.p.cs s.i.toNat:=Bt
   rw [AI (x:=s.i+1),M6 h0 c1,hg,hc,(qu hI c1).1,dD h0 A0,awX];refine AG (λc2=>?_) (λc2=>?_)
   ·rw [show ZF s.p.gs s.p.tg s.am s.i.toNat s.p.cs=s.p.cs from AE (De c2)]
    rfl
   refine AG (λc3=>?_) (λc3=>?_)
   ·rw [show ZF s.p.gs s.p.tg s.am s.i.toNat s.p.cs=_ from (AD (JF c2)).trans (AE c3)]
    rfl
   ·rw [show ZF s.p.gs s.p.tg s.am s.i.toNat s.p.cs=_ from (AD (JF c2)).trans (AD AA)]
    rfl
  ·have c1:s.n<=s.i:=AA
   exact ⟨rfl,(nG c1).symm⟩)
structure HZ where
 p:PK
 ev:EW
def Ts (s:HZ):List LV:=[.own 16 0]
def YD (s:HZ):List AB:=kF s.p s.ev Dd
def JN (s:HZ):Nq:=(⟨(PK.AV s.p).lk,(List.length (PK.AV s.p).lk:Int),0,PK.AV s.p,s.ev,([]:List Lk)⟩:Nq)
def Sn (s:HZ):LI:=(⟨((List.length (PK.AV s.p).dr:Nat):Int),0,{(PK.AV s.p) with st:=(Jz (JN s)).p.st,lk:=AQ (Jz (JN s)).left},s.ev⟩:LI)
def HG (s:HZ):LG:=letI a:=(List.length (PK.AV s.p).gs:Int);(⟨(PK.AV s.p).gs,a,0,{(PK.AV s.p) with st:=(ni (Sn s)).p.st,lk:=AQ (Jz (JN s)).left},s.ev,List.replicate a.toNat (0:Int)⟩:LG)
def bb (s:HZ):MR:=letI a:=PK.AV s.p;letI b:=JJ (HG s);(⟨a.gs,(List.length a.gs:Int),0,{a with st:=AQ b.p.st,ca:=AQ a.ca,mi:=AQ b.p.mi,me:=AQ b.p.me,lk:=AQ (Jz (JN s)).left,dr:=AQ a.dr},s.ev,b.dw,List.replicate (List.length a.gs:Int).toNat (0:Int)⟩:MR)
def Sm (s:HZ):MS:=letI b:=PK.AV s.p;letI c:=JJ (HG s);letI a:=(Gp b.ls (List.length b.gs:Int) (A9 (b.tk+1)));(⟨a,(List.length a:Int),0,{b with st:=AQ c.p.st,ca:=AQ b.ca,mi:=AQ c.p.mi,me:=AQ c.p.me,lk:=AQ (Jz (JN s)).left,dr:=AQ b.dr},s.ev,c.dw,(oL (bb s)).out⟩:MS)
def Sl (s:HZ):Is:=letI a:=PK.AV s.p;letI b:=JJ (HG s);(⟨AQ (oM (Sm s)).Cz,((List.length a.tg:Nat):Int),0,{a with st:=AQ b.p.st,ca:=AQ a.ca,mi:=AQ b.p.mi,me:=AQ b.p.me,lk:=AQ (Jz (JN s)).left,dr:=AQ a.dr},s.ev,b.dw⟩:Is)
def Sk (s:HZ):Is:=letI a:=PK.AV s.p;letI b:=JJ (HG s);(⟨([]:List Int),((List.length a.tg:Nat):Int),0,{a with st:=AQ b.p.st,ca:=AQ a.ca,mi:=AQ b.p.mi,me:=AQ b.p.me,lk:=AQ (Jz (JN s)).left,dr:=AQ a.dr},s.ev,b.dw⟩:Is)
structure Y4 where
 res:Int
 p:PK
 ev:EW
 dw:List Int
def ac0 (s:Y4):LV:=.v (.int .i64 s.res)
def acf (s:Y4):List AB:=kB 0 0 0 0 0 0 0 0 0 0 0 0 s.p s.ev (.xl A7 s.dw)
def fC (s:HZ):T Y4:=letI a:=PK.AV s.p;letI b:=JJ (HG s);letI c:=(List.length a.gs:Int);letI d:=AQ (Jz (JN s)).left;letI e:=A9 (a.tk+1);letI f:=(List.replicate c.toNat (0:Int));.br (s.p.tk==1000000) (.rz s.p.cs (.rz s.p.ls (.rz s.p.fl (.rz s.p.ra (.rz s.p.st (.rz s.p.ca (.rz s.p.mi (.rz s.p.me (.rz s.p.dm (.rz s.p.lk (.rz s.p.dr (.rz s.p.tg (.ok (⟨15,⟨AQ s.p.cs,s.p.os,s.p.ks,s.p.gs,s.p.bs,s.p.tk,s.p.up,AQ s.p.ls,s.p.se,AQ s.p.fl,AQ s.p.ra,s.p.nx,AQ s.p.st,AQ s.p.ca,AQ s.p.mi,AQ s.p.me,AQ s.p.dm,AQ s.p.lk,AQ s.p.dr,AQ s.p.tg⟩,s.ev,([]:List Int)⟩)))))))))))))) (.pc s.p (.req (agq (⟨s.p,s.ev⟩:LD)) (.r0 Lk (.pd a (.req (Rb.q (JN s)) (.rz (Jz (JN s)).left (.rl a.dr (.rl a.cs (.rl (Jz (JN s)).p.st (.rl a.ca (.rl a.mi (.rl a.me (.rl a.dr (.rl a.tg (.req (QX.q (Sn s)) (.rm 8 c (.rl a.cs (.rl (ni (Sn s)).p.st (.rl a.ca (.rl a.mi (.rl a.me (.rl a.dr (.rl a.tg (.re c.toNat f (.req (RT.q (HG s)) (.br (! a.up) (.rz a.cs (.rz b.p.st (.rz a.ca (.rz b.p.mi (.rz b.p.me (.rz a.dr (.rz a.tg (.rz b.dw (.ok (⟨0,{a with cs:=AQ a.cs,tk:=e,st:=AQ b.p.st,ca:=AQ a.ca,mi:=AQ b.p.mi,me:=AQ b.p.me,lk:=d,dr:=AQ a.dr,tg:=AQ a.tg},s.ev,AQ b.dw⟩)))))))))) (.br ((KV a.ls c e)==0) (.rm 8 c (.rz b.p.st (.rz a.ca (.rz b.p.mi (.rz b.p.me (.rz a.dr (.re c.toNat f (.rl a.cs (.rl a.tg (.rl b.dw (.req (QL.q (bb s)) (.rl (oL (bb s)).out (.rl a.cs (.rl a.tg (.rl b.dw (.req (QM.q (Sm s)) (.rz (oM (Sm s)).Cz (.rl a.tg (.rl a.cs (.rl a.tg (.rl b.dw (.req (Ox.q (Sl s)) (.rz (Sy (Sl s)).p.cs (.rz a.tg (.rz b.dw (.ok (⟨0,{a with cs:=AQ (Sy (Sl s)).p.cs,tk:=e,st:=AQ b.p.st,ca:=AQ a.ca,mi:=AQ b.p.mi,me:=AQ b.p.me,lk:=d,dr:=AQ a.dr,tg:=AQ a.tg},s.ev,AQ b.dw⟩))))))))))))))))))))))))))) (.rz b.p.st (.rz a.ca (.rz b.p.mi (.rz b.p.me (.rz a.dr (.rl a.tg (.rl a.cs (.rl a.tg (.rl b.dw (.req (Ox.q (Sk s)) (.rz (Sy (Sk s)).p.cs (.rz a.tg (.rz b.dw (.ok (⟨0,{a with cs:=AQ (Sy (Sk s)).p.cs,tk:=e,st:=AQ b.p.st,ca:=AQ a.ca,mi:=AQ b.p.mi,me:=AQ b.p.me,lk:=d,dr:=AQ a.dr,tg:=AQ a.tg},s.ev,AQ b.dw⟩))))))))))))))))))))))))))))))))))))))))))
def aAF (s:HZ):Prop:=(VP s.p/\RQ s.p)/\VK s.p.se s.p.fl/\BG s.p.ls=true
def Tc (s:HZ):Y4:=⟨PK.Iq s.p,J7 (PK.Iq s.p) (PK.FQ s.p) s.p,s.ev,if PK.Iq s.p=0 then PK.HY s.p else []⟩
def aA1:Cw HZ Y4:=⟨Ts,YD,λv b=>⟨rF b,rG b⟩,aAF,[0,1,3],[.pc 16 0 Ao,.kb 4,.pc 16 7 AX,.kb 5,.pc 16 9 (.int .u8),.kb 6,.pc 16 10 BD,.kb 7,.pc 16 12 Bu,.kb 8,.pc 16 13 AX,.kb 9,.pc 16 14 By,.kb 10,.pc 16 15 D6,.kb 11,.pc 16 16 BO,.kb 12,.pc 16 17 Cp,.kb 13,.pc 16 18 A7,.kb 14,.pc 16 19 A7,.kb 15,.pc 16 32 A7],ac0,acf,Tc⟩
abbrev agi (s:HZ):Prop:=aAF s/\Ts s=Ts s/\YD s=YD s
def WT:List Bd:=[Wh,XD,XH,XG,XE,Wf,Wi,Qi]
def aQY:As:=Hu WT (la 11 func51 T7 (la 6 func51 Q2 (la 3 func34 OW (la 2 func50 NA (la 1 func49 MA (la 2 func58 L0 (la 9 func19 Ck (l0 WT)))))))) [⟨47,Oz.m,TD⟩]
def aSu:DI:=CQ 51 21 11 (Ox.lp) (CQ 51 21 6 (QM.lp) (CQ 34 21 3 (QL.lp) (CQ 50 20 2 (RT.lp) (CQ 49 20 1 (QX.lp) (CQ 58 19 2 (Rb.lp) (CQ 19 0 9 (GS.lp) (Dp prog AT WT 20 2)))))))
def anL:ED prog AT aSu:=DB func51 rfl Bt T7 (DB func51 rfl Bt Q2 (DB func34 rfl Bt OW (DB func50 rfl Bt NA (DB func49 rfl Bt MA (DB func58 rfl Bt L0 (DB func19 rfl Bt Ck (HW (gk WT))))))))
def axp (s:HZ):((EO prog AT WT aSu aQY).k 21 (Ts s) (YD s)).bind (λq=>G2 (YD s).length [0] [.pc 16 0 Ao,.kb 4,.pc 16 7 AX,.kb 5,.pc 16 9 (.int .u8),.kb 6,.pc 16 10 BD,.kb 7,.pc 16 12 Bu,.kb 8,.pc 16 13 AX,.kb 9,.pc 16 14 By,.kb 10,.pc 16 15 D6,.kb 11,.pc 16 16 BO,.kb 12,.pc 16 17 Cp,.kb 13,.pc 16 18 A7,.kb 14,.pc 16 19 A7,.kb 15,.pc 16 32 A7] .normal (q.1::Ts s) q.2)=(fC s).mp (λs2=>⟨.normal,(Ts s).length+1,[ac0 s2],acf s2,true⟩):=AZ
def av4 (s:HZ) (hE:aAF s):(fC s).all (λq=>q=Tc s):=by
 obtain ⟨⟨hV,hR⟩,hK,hls⟩:=id hE
 have hq:=hV.dec
 have hs:=D9.1 hq.site
 have hs0:=D9.1 hV.site
 have htk:s.p.AV.tk=s.p.tk:=(Sg s.p).2.2.2.2.2.1
 have hd:=aRI hR A0
 have hp:=hV.tk
 have A1:iM (JN s):=⟨rfl,rfl,by show (s.p.AV.lk.length:Int)<=20000000;omega,xk,hq.lk,hq.st⟩
 have q1:=(asQ _ A1).2
 have r1:(Jz (JN s)).p.st=s.p.AV.Mj.st:=by
  refine (Prod.mk.inj q1).1.trans ?_
  show (s.p.AV.lk.drop 0).foldl _ _=PM _ _ _ _ _
  rw [aDU _ (At _),Dv];rfl
 have r2:(Jz (JN s)).left=s.p.AV.Mj.lk:=(Prod.mk.inj q1).2
 have h2:Sn s=⟨(s.p.AV.dr.length:Int),0,s.p.AV.Mj,s.ev⟩:=by
  unfold Sn;rw [r1,FP,r2];rfl
 have A2:iI (Sn s):=by
  rw [h2];exact ⟨rfl,rfl,hq.dr,by show (s.p.AV.dr.length:Int)<=1000;rw [hq.dr];omega,hq.arr.st,by show 0<=s.p.AV.tk/\s.p.AV.tk<=1000000;rw [htk];exact hp⟩
 have r3:(ni (Sn s)).p.st=s.p.B2.st:=by
  refine (asu _ A2).2.trans ?_;rw [h2]
  show Eo (cnt1 s.p.AV.gs s.p.AV.dr s.p.AV.tk) 0 s.p.AV.Mj.st ((s.p.AV.dr.length:Int)-0).toNat=_
  rw [O6,Bs,azC];rfl
 have h3:HG s=⟨s.p.B2.gs,(s.p.B2.gs.length:Int),0,s.p.B2,s.ev,List.replicate s.p.B2.gs.length 0⟩:=by
  unfold HG;rw [r3,FP,r2,Bs];rfl
 have hb:VP s.p.B2:=hq.arr.cnt
 have A3:j4 (HG s):=by
  rw [h3];exact ⟨rfl,rfl,xb,rfl,hb.st,hb.ca,hb.mi,hb.me,CR⟩
 have q4:=(arV _ A3).2
 have q4:(⟨(JJ (HG s)).p.st,(JJ (HG s)).p.mi,(JJ (HG s)).p.me,(JJ (HG s)).dw⟩:DW)=s.p.B2.dw:=by
  refine q4.trans ?_;rw [h3]
  show Eo (λk d=>Fc s.p.B2.gs s.p.B2.ca d (k:Int)) 0 _ ((s.p.B2.gs.length:Int)-0).toNat=_
  rw [O6,Bs,al4];rfl
 have r4:(JJ (HG s)).p.st=s.p.B2.dw.st:=Ax DW.st q4
 have r5:(JJ (HG s)).p.mi=s.p.B2.dw.mi:=Ax DW.mi q4
 have r6:(JJ (HG s)).p.me=s.p.B2.dw.me:=Ax DW.me q4
 have r7:(JJ (HG s)).dw=s.p.B2.dw.dw:=Ax DW.dw q4
 have hw:A9 (s.p.AV.tk+1)=s.p.AV.tk+1:=AI
 have hdr:VP s.p.B2.FX:=hb.drw
 unfold fC;simp only [FP,r2,r3,r4,r5,r6,r7,hw];refine ⟨λc=>?_,λc=>?_⟩
 ·have e:s.p.Iq=15:=AE (eq_of_beq c)
  repeat (refine ⟨Cm,?_⟩)
  show _=_
  unfold Tc;rw [e,JO Aa,AD Aa]
 have e:s.p.Iq=0:=AD (Bq.1 c)
 repeat (refine ⟨Cm,?_⟩)
 refine ⟨⟨hE,rfl,rfl⟩,?_⟩
 repeat (refine ⟨Cm,?_⟩)
 refine ⟨⟨A1,rfl,rfl⟩,?_⟩
 repeat (refine ⟨Cm,?_⟩)
 refine ⟨⟨A2,rfl,rfl⟩,?_⟩
 repeat (refine ⟨Cm,?_⟩)
 refine ⟨⟨A3,rfl,rfl⟩,λc2=>?_,λc2=>?_⟩
 ·have c2:s.p.B2.FX.up=false:=(D4 _).mp c2
  repeat (refine ⟨Cm,?_⟩)
  show _=_
  unfold Tc;rw [e,L5 rfl,AE rfl];unfold PK.FQ PK.J1;rw [AE c2];rfl
 have hu:¬s.p.B2.FX.up=false:=by intro h;rw [show s.p.AV.up=false from h] at c2;cases c2
 have R:∀ {am cs},s.p.B2.FX.rsA=am->FD s.p.B2.FX.gs s.p.B2.FX.tg am s.p.B2.FX.cs s.p.B2.FX.tg.length=cs->s.p.FQ={s.p.AV with cs:=cs,tk:=s.p.AV.tk+1,st:=s.p.B2.dw.st,mi:=s.p.B2.dw.mi,me:=s.p.B2.dw.me,lk:=s.p.AV.Mj.lk}:=λh1 h2=>by
  unfold PK.FQ PK.J1;rw [AD hu,h1,h2];rfl
 refine ⟨λc3=>?_,λc3=>?_⟩
 ·have c3:KV s.p.AV.ls s.p.AV.gs.length (s.p.AV.tk+1)=0:=eq_of_beq c3
  have cO:LR s.p.AV.ls s.p.AV.gs.length (s.p.AV.tk+1)=true:=by
   unfold KV at c3;split at c3
   ·assumption
   ·cases c3
  have cL:Gp s.p.AV.ls s.p.AV.gs.length (s.p.AV.tk+1)=LU s.p.AV.gs.length s.p.AV.ls (s.p.AV.tk+1):=by
   unfold Gp;rw [AE cO,Bs]
  have hl:BG s.p.AV.ls=true:=by
   unfold LR at cO;simp only [AU] at cO;exact cO.1.1
  have hsA:s.p.B2.FX.rsA=Hg s.p.AV.gs s.p.AV.ls (s.p.AV.tk+1):=AE c3
  have A4:gG (bb s):=⟨rfl,rfl,xb,by show (List.replicate (s.p.AV.gs.length:Int).toNat (0:Int)).length=_;rw [CR,Bs];rfl,λj _ _=>NI,trivial⟩
  obtain ⟨_,_,_,q5⟩:=aoL _ A4
  have q5:(oL (bb s)).out=C4 s.p.AV.gs:=q5
  have hlen:(LU s.p.AV.gs.length s.p.AV.ls (s.p.AV.tk+1)).length=s.p.AV.gs.length:=bn
  have h6:Sm s=⟨LU s.p.AV.gs.length s.p.AV.ls (s.p.AV.tk+1),(s.p.AV.gs.length:Int),0,s.p.B2.FX,s.ev,s.p.B2.dw.dw,C4 s.p.AV.gs⟩:=by
   unfold Sm;simp only [FP,r2,r4,r5,r6,r7,hw,q5,cL,hlen];rfl
  have A5:gH (Sm s):=by
   rw [h6];refine ⟨rfl,by show (s.p.AV.gs.length:Int)=_;rw [hlen],xb,by show (C4 s.p.AV.gs).length=_;rw [hlen];exact Jt,λj j0 j1=>(show gi (C4 s.p.AV.gs) j=Cq (AH s.p.AV.gs j) from SZ j0 j1),trivial⟩
  obtain ⟨_,_,_,q6⟩:=aoM _ A5
  have q6:(oM (Sm s)).Cz=Hg s.p.AV.gs s.p.AV.ls (s.p.AV.tk+1):=by
   refine q6.trans ?_;rw [h6]
   show Gv (LU s.p.AV.gs.length s.p.AV.ls (s.p.AV.tk+1)).length _=_
   rw [hlen];rfl
  have h7:Sl s=⟨Hg s.p.AV.gs s.p.AV.ls (s.p.AV.tk+1),(s.p.AV.tg.length:Int),0,s.p.B2.FX,s.ev,s.p.B2.dw.dw⟩:=by
   unfold Sl;simp only [FP,r2,r4,r5,r6,r7,q6];rfl
  have A6:YK (Sl s):=by
   rw [h7];exact ⟨rfl,rfl,hq.Hq,hq.site,hq.tg1,λ_ k hk=>an5 hq.site hl A0 (by have:(Hg s.p.AV.gs s.p.AV.ls (s.p.AV.tk+1)).length=s.p.AV.gs.length:=Jt;have hk:k<(Hg s.p.AV.gs s.p.AV.ls (s.p.AV.tk+1)).length:=hk;omega)⟩
  have q7:(Sy (Sl s)).p.cs=FD s.p.AV.gs s.p.AV.tg (Hg s.p.AV.gs s.p.AV.ls (s.p.AV.tk+1)) s.p.AV.cs s.p.AV.tg.length:=by
   exact aLZ
  repeat (refine ⟨Cm,?_⟩)
  refine ⟨⟨A4,rfl,rfl⟩,?_⟩
  repeat (refine ⟨Cm,?_⟩)
  refine ⟨⟨A5,rfl,rfl⟩,?_⟩
  repeat (refine ⟨Cm,?_⟩)
  refine ⟨⟨A6,rfl,rfl⟩,?_⟩
  repeat (refine ⟨Cm,?_⟩)
  show _=_
  unfold Tc;rw [e,L5 rfl,AE rfl,R hsA q7.symm];rfl
 ·have c3:¬KV s.p.AV.ls s.p.AV.gs.length (s.p.AV.tk+1)=0:=Bq.1 c3
  have hsA:s.p.B2.FX.rsA=[]:=AD c3
  have h7:Sk s=⟨[],(s.p.AV.tg.length:Int),0,s.p.B2.FX,s.ev,s.p.B2.dw.dw⟩:=by
   unfold Sk;simp only [FP,r2,r4,r5,r6,r7];rfl
  have A6:YK (Sk s):=by
   rw [h7];exact ⟨rfl,rfl,hq.Hq,hq.site,hq.tg1,λ_ k hk=>by cases hk⟩
  have q7:(Sy (Sk s)).p.cs=FD s.p.AV.gs s.p.AV.tg [] s.p.AV.cs s.p.AV.tg.length:=by
   exact aLZ
  repeat (refine ⟨Cm,?_⟩)
  refine ⟨⟨A6,rfl,rfl⟩,?_⟩
  repeat (refine ⟨Cm,?_⟩)
  show _=_
  unfold Tc;rw [e,L5 rfl,AE rfl,R hsA q7.symm];rfl
def azV:DU prog AT 21 aA1.m:=Cw.sound (D:=aA1) (t:=fC) (gk WT) anL aQY.h axp (λs hE=>⟨av4 s hE⟩)
def JP (p:PK):Prop:=(VP p/\RQ p)/\VK p.se p.fl/\BG p.ls=true
variable {p : PK} {ev : EW}
def m9 {e:EV}(h:BR p e≠0):B4 p e=PK0/\CW p e=[]:=⟨AE h,AE h⟩
def aAc (hv:E4 p=true) (h:ev.ek=1):BR p ev.ev=p.Iq/\(p.Iq=0->B4 p ev.ev=p.FQ/\CW p ev.ev=p.HY):=by
 simp [BR,B4,CW,hv,EW.ev,h]
 exact λh0=>⟨λh1=>absurd h0 h1,λh1=>absurd h0 h1⟩
def aJU (hv:E4 p=true) (h:ev.ek=2):BR p ev.ev=p.Gn ev.en ev.c ev.d/\(p.Gn ev.en ev.c ev.d=0->B4 p ev.ev=p.Ot ev.en ev.c ev.d/\CW p ev.ev=[]):=by
 exact SL
def aJT (hv:E4 p=true) (h:ev.ek=3):BR p ev.ev=p.KN ev.en/\(p.KN ev.en=0->B4 p ev.ev=p.Qd ev.en/\CW p ev.ev=[]):=by
 exact SL
def aJS (hv:E4 p=true) (h:ev.ek=4):BR p ev.ev=p.NR ev.en/\(p.NR ev.en=0->B4 p ev.ev=p.fi ev.en/\CW p ev.ev=[]):=by
 exact SL
def aJR (hv:E4 p=true) (h:ev.ek=5):BR p ev.ev=p.MM/\(p.MM=0->B4 p ev.ev=p.Qj/\CW p ev.ev=[]):=by
 exact SL
def aJQ (hv:E4 p=true) (h:ev.ek=6):BR p ev.ev=p.GN/\(p.GN=0->B4 p ev.ev=p.XJ/\CW p ev.ev=[]):=by
 exact SL
def aJP (hv:E4 p=true) (h:ev.ek=7):BR p ev.ev=p.Ov ev.en/\(p.Ov ev.en=0->B4 p ev.ev=p.aae ev.en/\CW p ev.ev=[]):=by
 exact SL
def aJO (hv:E4 p=true) (h:ev.ek=8):BR p ev.ev=p.Iw ev.en ev.em/\(p.Iw ev.en ev.em=0->B4 p ev.ev=p.LY ev.en ev.em/\CW p ev.ev=[]):=by
 exact SL
def aJN (hv:E4 p=true) (h:ev.ek≠1/\ev.ek≠2/\ev.ek≠3/\ev.ek≠4/\ev.ek≠5/\ev.ek≠6/\ev.ek≠7/\ev.ek≠8):BR p ev.ev=9:=by
 obtain ⟨h1,h2,h3,h4,h5,h6,h7,h8⟩:=h
 simp [BR,hv,EW.ev,h1,h2,h3,h4,h5,h6,h7,h8]
def JP.lb (h:JP p):LB p:=by
 obtain ⟨⟨hV,hR⟩,hK,_⟩:=h
 have hs:=D9.1 hV.site
 have hf:=hR.fl.2.1
 have hl:=hR.ls
 have hk:=hR.lk
 have hr:=hR.ra
 have ht:=hV.tk
 have h1:=hV.st
 have h2:=hV.ca
 have h3:=hV.mi
 have h4:=hV.me
 have h5:=hV.dm
 have h6:=hV.dr
 have h7:=hV.Hq
 have hf:p.fl.length=2048:=hf
 refine ⟨?_,?_,?_,?_,?_,?_,?_,?_,?_,?_,?_,?_,λm hm=>G8 (hR.mi m hm) Aa⟩<;>omega
end Go.Proofs.YtgmhhjldohjpmaaGreatDoor
namespace Go.Proofs.YtgmhhjldohjpmaaGreatDoor
set_option maxRecDepth 100000
set_option maxHeartbeats 4000000
open Go.Proofs.Tryz
open Go.Sx
def aHS:List LV->T LV
 | [x_p,x_ev]=>(match Mf x_p with
  |some p=>(match lO x_ev with
  |some ev=> .req (JP p) (.ok (.AM [B4 p (EW.ev ev),.xl A7 (CW p (EW.ev ev)),BR p (EW.ev ev)]))
  |none=> .no)
  |none=> .no)
 |_=> .no
def tkO (p:PK) (ev:EW):PK:=J7 (PK.Iq p) (PK.FQ p) (p)
def ada (p:PK) (ev:EW):PK:=J7 (PK.Gn p ev.en (EW.c ev) (EW.d ev)) (PK.Ot p ev.en (EW.c ev) (EW.d ev)) (p)
def adb (p:PK) (ev:EW):PK:=J7 (PK.KN p ev.en) (PK.Qd p ev.en) (p)
def adX (p:PK) (ev:EW):PK:=J7 (PK.NR p ev.en) (PK.fi p ev.en) (p)
def adY (p:PK) (ev:EW):PK:=J7 (PK.MM p) (PK.Qj p) (p)
def adh (p:PK) (ev:EW):PK:=J7 (PK.GN p) (PK.XJ p) (p)
def KZ (e:Int):LV:=.AM [.agg [.xl Ao ([]:List Cd),.xl .str ([]:List ByteArray),.xl B8 ([]:List Ko),.xl Au ([]:List Ch),.xl B9 ([]:List Ba),.v (.int .i64 0),.v (.bool false),.xl AX ([]:List Le),.v (.int .i64 0),.xl (.int .u8) ([]:List Int),.xl BD ([]:List Ra),.v (.int .i64 0),.xl Bu ([]:List St),.xl AX ([]:List Le),.xl By ([]:List Mi),.xl D6 ([]:List Me),.xl BO ([]:List Dm),.xl Cp ([]:List Lk),.xl A7 ([]:List Int),.xl A7 ([]:List Int)],.xl A7 ([]:List Int),.v (.int .i64 e)]
def dF:List Bd:=[ahq]
def aQX:As:=Hu dF (la 11 func51 T7 (la 6 func51 Q2 (la 3 func34 OW (la 2 func50 NA (la 1 func49 MA (la 2 func58 L0 (la 9 func19 Ck (l0 dF)))))))) [⟨19,QB λa=>iQ.m a [],az8⟩,⟨21,aA1.m,azV⟩,⟨22,aA3.m,azX⟩,⟨23,aA5.m,azZ⟩,⟨24,aA4.m,azY⟩,⟨25,aAP.m,azb⟩,⟨26,aA2.m,azW⟩,⟨27,aA0.m,azU⟩,⟨28,aAQ.m,azc⟩]
def apO (p:PK) (ev:EW):letI a:=ada p ev;letI b:=adb p ev;letI e:=adX p ev;letI f:=adY p ev;letI g:=adh p ev;letI h:=(azx (⟨p⟩:MF));letI i:=p.me.length;letI j:=p.dm.length;letI k:=p.lk.length;letI l:=p.dr.length;letI m:=p.tg.length;letI n:=PK.Gn p ev.en (EW.c ev) (EW.d ev);Bc prog AT (dF) aQX Af f11 [p,ev]=.req (p.lk.length<=100000000) (.br (!(E4 p)) (.ok (KZ 1)) (.br (ev.ek==(1:Int)) (.req h (.rv (ev) (.pa p (.rl p.st (.rl p.ca (.rl p.mi (.re i p.me (.re j p.dm (.re k p.lk (.re l p.dr (.re m p.tg (.req (agi (⟨p,ev⟩:HZ)) (.br ((PK.Iq p) !=0) (.ok (KZ (PK.Iq p))) (.ok (.AM [tkO p ev,.xl A7 (if PK.Iq (p)=0 then PK.HY p else []),(0:Int)]))))))))))))))) (.br (ev.ek==(2:Int)) (.req h (.rv (ev) (.pa p (.rl p.st (.rl p.ca (.rl p.mi (.re i p.me (.re j p.dm (.re k p.lk (.re l p.dr (.re m p.tg (.req (agk (⟨p,ev⟩:Ng)) (.br (n !=0) (.ok (KZ n)) (.rz a.cs (.rz a.ls (.rz a.fl (.rz a.ra (.rz a.st (.rz a.ca (.rz a.mi (.rz a.me (.rz a.dm (.rz a.lk (.rz a.dr (.rz a.tg (.ok (.AM [.agg [AQ a.cs,a.os,a.ks,a.gs,a.bs,a.tk,a.up,AQ a.ls,a.se,.xl (.int .u8) (AQ a.fl),AQ a.ra,a.nx,AQ a.st,AQ a.ca,AQ a.mi,AQ a.me,AQ a.dm,AQ a.lk,.xl A7 (AQ a.dr),.xl A7 (AQ a.tg)],.xl A7 ([]:List Int),(0:Int)]))))))))))))))))))))))))))) (.br (ev.ek==(3:Int)) (.req h (.rv (ev) (.pa p (.rl p.st (.rl p.ca (.rl p.mi (.re i p.me (.re j p.dm (.re k p.lk (.re l p.dr (.re m p.tg (.req (agm (⟨p,ev⟩:Ni)) (.br ((PK.KN p ev.en) !=0) (.ok (KZ (PK.KN p ev.en))) (.rz b.cs (.rz b.ls (.rz b.fl (.rz b.ra (.rz b.st (.rz b.ca (.rz b.mi (.rz b.me (.rz b.dm (.rz b.lk (.rz b.dr (.rz b.tg (.ok (.AM [.agg [AQ b.cs,b.os,b.ks,b.gs,b.bs,b.tk,b.up,AQ b.ls,b.se,.xl (.int .u8) (AQ b.fl),AQ b.ra,b.nx,AQ b.st,AQ b.ca,AQ b.mi,AQ b.me,AQ b.dm,AQ b.lk,.xl A7 (AQ b.dr),.xl A7 (AQ b.tg)],.xl A7 ([]:List Int),(0:Int)]))))))))))))))))))))))))))) (.br (ev.ek==(4:Int)) (.req h (.rv (ev) (.pa p (.rl p.st (.rl p.ca (.rl p.mi (.re i p.me (.re j p.dm (.re k p.lk (.re l p.dr (.re m p.tg (.req (agl (⟨p,ev⟩:Nh)) (.br ((PK.NR p ev.en) !=0) (.ok (KZ (PK.NR p ev.en))) (.rz e.cs (.rz e.ls (.rz e.fl (.rz e.ra (.rz e.st (.rz e.ca (.rz e.mi (.rz e.me (.rz e.dm (.rz e.dr (.rz e.tg (.ok (.AM [.agg [AQ e.cs,e.os,e.ks,e.gs,e.bs,e.tk,e.up,AQ e.ls,e.se,.xl (.int .u8) (AQ e.fl),AQ e.ra,e.nx,AQ e.st,AQ e.ca,AQ e.mi,AQ e.me,AQ e.dm,e.lk,.xl A7 (AQ e.dr),.xl A7 (AQ e.tg)],.xl A7 ([]:List Int),(0:Int)])))))))))))))))))))))))))) (.br (ev.ek==(5:Int)) (.req h (.rv (ev) (.pa p (.rl p.st (.rl p.ca (.rl p.mi (.re i p.me (.re j p.dm (.re k p.lk (.re l p.dr (.re m p.tg (.req (agn (⟨p,ev⟩:Nj)) (.br ((PK.MM p) !=0) (.ok (KZ (PK.MM p))) (.rz f.cs (.rz f.fl (.rz f.ra (.rz f.st (.rz f.ca (.rz f.mi (.rz f.me (.rz f.dm (.rz f.lk (.rz f.dr (.rz f.tg (.ok (.AM [.agg [AQ f.cs,f.os,f.ks,f.gs,f.bs,f.tk,f.up,f.ls,f.se,.xl (.int .u8) (AQ f.fl),AQ f.ra,f.nx,AQ f.st,AQ f.ca,AQ f.mi,AQ f.me,AQ f.dm,AQ f.lk,.xl A7 (AQ f.dr),.xl A7 (AQ f.tg)],.xl A7 ([]:List Int),(0:Int)])))))))))))))))))))))))))) (.br (ev.ek==(6:Int)) (.req h (.rv (ev) (.pa p (.rl p.st (.rl p.ca (.rl p.mi (.re i p.me (.re j p.dm (.re k p.lk (.re l p.dr (.re m p.tg (.req (agj (⟨p,ev⟩:Nf)) (.br ((PK.GN p) !=0) (.ok (KZ (PK.GN p))) (.rz g.cs (.rz g.st (.rz g.ca (.rz g.mi (.rz g.me (.rz g.dm (.rz g.lk (.rz g.dr (.rz g.tg (.ok (.AM [.agg [AQ g.cs,g.os,g.ks,g.gs,g.bs,g.tk,g.up,g.ls,g.se,.xl (.int .u8) g.fl,g.ra,g.nx,AQ g.st,AQ g.ca,AQ g.mi,AQ g.me,AQ g.dm,AQ g.lk,.xl A7 (AQ g.dr),.xl A7 (AQ g.tg)],.xl A7 ([]:List Int),(0:Int)])))))))))))))))))))))))) (.br (ev.ek==(7:Int)) (.req h (.rv (ev) (.pa p (.rl p.st (.rl p.ca (.rl p.mi (.re i p.me (.re j p.dm (.re k p.lk (.re l p.dr (.re m p.tg (.req (agh (⟨p,ev⟩:Nd)) (.br ((PK.Ov p ev.en) !=0) (.ok (KZ (PK.Ov p ev.en))) (.rz p.cs (.rz p.ls (.rz p.fl (.rz p.ra (.rz (if PK.isC p ev.en=true then Ce p.gs p.st ev.en 6 1 0 else p.st) (.rz p.ca (.rz p.mi (.rz p.me (.rz p.dm (.rz p.lk (.rz p.dr (.rz p.tg (.ok (.AM [.agg [AQ p.cs,p.os,p.ks,p.gs,p.bs,p.tk,p.up,AQ p.ls,p.se,.xl (.int .u8) (AQ p.fl),AQ p.ra,p.nx,AQ (if PK.isC p ev.en=true then Ce p.gs p.st ev.en 6 1 0 else p.st),AQ p.ca,AQ p.mi,AQ p.me,AQ p.dm,AQ p.lk,.xl A7 (AQ p.dr),.xl A7 (AQ p.tg)],.xl A7 ([]:List Int),(0:Int)]))))))))))))))))))))))))))) (.br (ev.ek==(8:Int)) (.req h (.rv (ev) (.pa p (.rl p.st (.rl p.ca (.rl p.mi (.re i p.me (.re j p.dm (.re k p.lk (.re l p.dr (.re m p.tg (.req (agp (⟨p,ev⟩:MX)) (.br ((PK.Iw p ev.en ev.em) !=0) (.ok (KZ (PK.Iw p ev.en ev.em))) (.rz p.cs (.rz p.ls (.rz p.fl (.rz p.ra (.rz p.st (.rz p.ca (.rz p.mi (.rz p.me (.rz p.dm (.rz p.lk (.rz p.dr (.rz (if PK.Iw p ev.en ev.em=1 then p.tg else p.tg.set ev.en.toNat ev.em) (.ok (.AM [.agg [AQ p.cs,p.os,p.ks,p.gs,p.bs,p.tk,p.up,AQ p.ls,p.se,.xl (.int .u8) (AQ p.fl),AQ p.ra,p.nx,AQ p.st,AQ p.ca,AQ p.mi,AQ p.me,AQ p.dm,AQ p.lk,.xl A7 (AQ p.dr),.xl A7 (AQ (if PK.Iw p ev.en ev.em=1 then p.tg else p.tg.set ev.en.toNat ev.em))],.xl A7 ([]:List Int),(0:Int)]))))))))))))))))))))))))))) (.ok (KZ 9))))))))))):=AZ
def Wt:=vo (S:=aHS) func11 dF aQX (λargs lv h=>by
 refine ⟨?_⟩;unfold aHS at h;split at h
 ·split at h
  case h_2=>cases h
  rename_i p hp;obtain rfl:=WJ hp;split at h
  case h_2=>cases h
  rename_i ev hev;obtain rfl:=arP hev;simp only [canL,canX];rw [apO];obtain ⟨hJ,rfl⟩:=h;obtain ⟨⟨hV,hR⟩,hK,hl⟩:=id hJ
  have hv:=W2.2 hV
  have hs:=D9.1 hV.site
  have hlb:=hJ.lb
  have D:gz ⟨p⟩:=hlb
  have hlk:=hlb.lk
  refine ⟨A0,λc=>?_,λ_=>?_⟩
  ·rw [hv] at c
   cases c
  refine ⟨λc1=>?_,λc1=>?_⟩
  ·have c1:ev.ek=1:=eq_of_beq c1
   obtain ⟨s1,s2⟩:=aAc hv c1;refine ⟨⟨D,rfl,rfl⟩,rfl,?_⟩
   repeat (refine ⟨Cm,?_⟩)
   refine ⟨⟨hJ,rfl,rfl⟩,λc=>?_,λc=>?_⟩
   ·exact Pc
   ·have c:=DH c
    repeat (refine ⟨Bt,?_⟩)
    show _=_
    rw [(s2 c).1,(s2 c).2,s1,c];simp only [FP];rw [show tkO p ev=_ from L5 c,AE trivial]
  refine ⟨λc1=>?_,λc2=>?_⟩
  ·have c1:ev.ek=2:=eq_of_beq c1
   obtain ⟨s1,s2⟩:=aJU hv c1;refine ⟨⟨D,rfl,rfl⟩,rfl,?_⟩
   repeat (refine ⟨Cm,?_⟩)
   refine ⟨⟨⟨hV.st,Zq,hV.ca,hV.mi,hV.dm⟩,rfl,rfl⟩,λc=>?_,λc=>?_⟩
   ·exact Pc
   ·have c:=DH c
    repeat (refine ⟨Cm,?_⟩)
    show _=_
    rw [(s2 c).1,(s2 c).2,s1,c];simp only [FP];rw [show ada p ev=_ from L5 c]
  refine ⟨λc1=>?_,λc3=>?_⟩
  ·have c1:ev.ek=3:=eq_of_beq c1
   obtain ⟨s1,s2⟩:=aJT hv c1;refine ⟨⟨D,rfl,rfl⟩,rfl,?_⟩
   repeat (refine ⟨Cm,?_⟩)
   refine ⟨⟨⟨hV.st,Zq,hV.ca,hV.mi,hV.dm⟩,rfl,rfl⟩,λc=>?_,λc=>?_⟩
   ·exact Pc
   ·have c:=DH c
    repeat (refine ⟨Cm,?_⟩)
    show _=_
    rw [(s2 c).1,(s2 c).2,s1,c];simp only [FP];rw [show adb p ev=_ from L5 c]
  refine ⟨λc1=>?_,λc4=>?_⟩
  ·have c1:ev.ek=4:=eq_of_beq c1
   obtain ⟨s1,s2⟩:=aJS hv c1;refine ⟨⟨D,rfl,rfl⟩,rfl,?_⟩
   repeat (refine ⟨Cm,?_⟩)
   refine ⟨⟨⟨Zq,hlk⟩,rfl,rfl⟩,λc=>?_,λc=>?_⟩
   ·exact Pc
   ·have c:=DH c
    repeat (refine ⟨Cm,?_⟩)
    show _=_
    rw [(s2 c).1,(s2 c).2,s1,c];simp only [FP];rw [show adX p ev=_ from L5 c]
  refine ⟨λc1=>?_,λc5=>?_⟩
  ·have c1:ev.ek=5:=eq_of_beq c1
   obtain ⟨s1,s2⟩:=aJR hv c1;refine ⟨⟨D,rfl,rfl⟩,rfl,?_⟩
   repeat (refine ⟨Cm,?_⟩)
   refine ⟨⟨trivial,rfl,rfl⟩,λc=>?_,λc=>?_⟩
   ·exact Pc
   ·have c:=DH c
    repeat (refine ⟨Cm,?_⟩)
    show _=_
    rw [(s2 c).1,(s2 c).2,s1,c];simp only [FP];rw [show adY p ev=_ from L5 c]
  refine ⟨λc1=>?_,λc6=>?_⟩
  ·have c1:ev.ek=6:=eq_of_beq c1
   obtain ⟨s1,s2⟩:=aJQ hv c1;refine ⟨⟨D,rfl,rfl⟩,rfl,?_⟩
   repeat (refine ⟨Cm,?_⟩)
   refine ⟨⟨⟨hR.fl.2.2,Zq⟩,rfl,rfl⟩,λc=>?_,λc=>?_⟩
   ·exact Pc
   ·have c:=DH c
    repeat (refine ⟨Cm,?_⟩)
    show _=_
    rw [(s2 c).1,(s2 c).2,s1,c];simp only [FP];rw [show adh p ev=_ from L5 c]
  refine ⟨λc1=>?_,λc7=>?_⟩
  ·have c1:ev.ek=7:=eq_of_beq c1
   obtain ⟨s1,s2⟩:=aJP hv c1;refine ⟨⟨D,rfl,rfl⟩,rfl,?_⟩
   repeat (refine ⟨Cm,?_⟩)
   refine ⟨⟨⟨hV.st,Zq⟩,rfl,rfl⟩,λc=>?_,λc=>?_⟩
   ·exact Pc
   ·have c:=DH c
    have hc:p.isC ev.en=true:=by
     cases e:p.isC ev.en
     ·unfold PK.Ov at c
      rw [AE e] at c;cases c
     ·rfl
    repeat (refine ⟨Cm,?_⟩)
    show _=_
    rw [(s2 c).1,(s2 c).2,s1,c];simp only [FP];rw [AE hc];rfl
  refine ⟨λc1=>?_,λc8=>?_⟩
  ·have c1:ev.ek=8:=eq_of_beq c1
   obtain ⟨s1,s2⟩:=aJO hv c1;refine ⟨⟨D,rfl,rfl⟩,rfl,?_⟩
   repeat (refine ⟨Cm,?_⟩)
   refine ⟨⟨hV,rfl,rfl⟩,λc=>?_,λc=>?_⟩
   ·exact Pc
   ·have c:=DH c
    repeat (refine ⟨Cm,?_⟩)
    show _=_
    rw [(s2 c).1,(s2 c).2,s1,c];simp only [FP];rw [AD Aa];rfl
  have e:=aJN (ev:=ev) hv ⟨Bq.1 c1,Bq.1 c2,Bq.1 c3,Bq.1 c4,Bq.1 c5,Bq.1 c6,Bq.1 c7,Bq.1 c8⟩
  show KZ _=_
  rw [(m9 (by rw [e];decide)).1,(m9 (by rw [e];decide)).2,e]
  rfl
 ·cases h)
structure Nl where
 (k0 k i HU:Int)
 HV:Value
 Vv:Int
 FO:Value
 amu:Int
 o:List Int
def Tg (s:Nl):T (Rd Nl):=letI a:=(s.o.set s.i.toNat (255:Int));.br (decide (s.i<s.k)) (.ik s.i (s.o.length) (.re (s.o.length) a (.nx {s with i:=A9 (s.i+1),o:=a}))) (.rl s.o (.so (.exit 0) s))
def iy (s:Nl):Prop:=s.i=0/\s.k=(s.o.length:Int)/\s.k<=4096
def gY (s:Nl):Prop:=0<=s.i/\s.i<=s.k/\s.o.take s.i.toNat=List.replicate s.i.toNat 255/\s.k=(s.o.length:Int)/\s.k<=4096
def tM (s:Nl):Nat:=(s.k-s.i).toNat
def ad4 (x:Ex) (s s':Nl):Prop:=True
def ajz:∀s,iy s->gY s:=by
 rintro s ⟨h0,h2,h3⟩
 exact ⟨A0,A0,by rw [h0];rfl,h2,h3⟩
def azf:Da gY tM ad4 Tg:=by
 intro s hI;unfold Tg;dsimp only [T.rd,T.rl,T.rv];obtain ⟨h0,h1,hq,h2,h3⟩:=hI;refine AG (λc1=>?_) (λc1=>trivial)
 have c1:s.i<s.k:=AO
 rw [AI (x:=s.i+1)];refine ⟨⟨AP,AP,?_,aNI,h3⟩,by simp only [tM];omega⟩
 show (s.o.set s.i.toNat 255).take (s.i+1).toNat=_
 rw [show (s.i+1).toNat=s.i.toNat+1 by omega,ZQ (by rw [Br];omega),List.take_set_of_le (At _),hq,List.getElem_set_self,jW]
def Yb:AS Nl:=⟨1,43,[4,5,6,33,34],[],λs=>[.own 1 0,s.k0,.own 2 0,s.k,s.i],λs=>[⟨[s.HU,.v (s.HV)],36,.cl,false⟩,⟨[s.Vv,.v (s.FO)],36,.cl,false⟩,⟨[s.amu,.os 3 1 0 (s.o.length)],36,.cl,false⟩,bV 5 (.int .u8) s.o],λv b=>⟨AK v 1,AK v 3,AK v 4,Ae b 0 0,Gi (B3 (CP b 0) 1),Ae b 1 0,Gi (B3 (CP b 1) 1),Ae b 2 0,Ab (.int .u8) b 3⟩,Tg,λs r=> {s with i:=r.i,o:=r.o},λs=>s,λ_ s=>s,[.exit 0],iy,gY,tM⟩
abbrev OK:=Yb.run
abbrev aGv:=Yb.Am
def WW:List Bd:=[vI]
def az5:As:=kI WW (l0 WW)
def avl:Rq gY Tg:=by
 intro s hI;refine ⟨λc1=>⟨?_,?_,?_,trivial⟩,λc1=>⟨A8,trivial⟩⟩
 all_goals ((obtain ⟨h0,h1,hq,h2,h3⟩:=hI;(try simp only [AY] at c1);first|omega|exact ⟨rfl,AJ⟩))
def aPu:Yb.Ok:={}
def aOH:Yb.Pf (ad4):=⟨ajz,λs h=>rfl,azf,avl⟩
def aoU:=s2 (b:=bN f71 0) aPu aOH WW az5
def aqB:Rs iy aGv OK (λs:Nl=>List.replicate s.k.toNat 255) (λx s' (v:List Int)=>x=.exit 0/\s'.o=v):=DL aPu aOH (λs hI=>by
  show CM _ _ ((Tg s).rd s)
  unfold Tg;dsimp only [T.rd,T.rl];obtain ⟨h0,h1,hq,h2,h3⟩:=hI;refine AG (λc1=>rfl) (λc1=>⟨rfl,?_⟩)
  have c1:s.k<=s.i:=AO
  rw [show s.i.toNat=s.k.toNat by omega,D3 A0] at hq
  exact hq)
def aRm:List LV->T LV
 | [.v (.int .i64 a),.v (.int .i64 b)]=> .req (a=512/\b=4) (.ok (.AM [.agg [(512:Int),.xl (.int .u8) ET],(0:Int)]))
 |_=> .no
def JM (a b:Int):Nl:=(⟨0,(((A9 (a*b)).toNat:Nat):Int),0,0,.slice none 0 0,0,.slice none 0 0,a,List.replicate (A9 (a*b)).toNat (0:Int)⟩:Nl)
def az3:As:=kI WW (la 5 func71 aoU (l0 WW))
def aqX:ET.length=2048:=aNO
def aqY:B7 [80,0,0,0,0] (List.replicate (Int.toNat 2048) 255)=ET:=by
 have h4:Cu 0=[0,0,0,0]:=Aa
 have hp:BI []=[]:=rfl
 unfold B7 ET DQ;rw [h4,hp,List.drop_replicate,Di,CZ,jJ]
 congr 1
def ai0:=vo (S:=aRm) func35 WW az3 (λargs lv h=>by
 unfold aRm at h;split at h
 ·rename_i a b
  refine Aj (letI d:=OK (JM a b);letI e:=(FG (0:Int) ([]:List Int));letI f:=A9 (a*b);letI g:=(B7 ([(80:Int),(0:Int),(0:Int),(0:Int),(0:Int)]) d.o);letI i:=List.length d.o;.br (decide (a<1)) (.br (((1:Int) !=0) ||(! e)) (.ok (.AM [.agg [(0:Int),.xl (.int .u8) ([]:List Int)],(1:Int)])) (.no /-copy to v -/)) (.br (decide (a>512)) (.br (((1:Int) !=0) ||(! e)) (.ok (.AM [.agg [(0:Int),.xl (.int .u8) ([]:List Int)],(1:Int)])) (.no /-copy to v -/)) (.br (decide (b<1)) (.br (((1:Int) !=0) ||(! e)) (.ok (.AM [.agg [(0:Int),.xl (.int .u8) ([]:List Int)],(1:Int)])) (.no /-copy to v -/)) (.req (a≠0) (.br (decide (b>(A9 ((4096:Int).tdiv a)))) (.br (((1:Int) !=0) ||(! e)) (.ok (.AM [.agg [(0:Int),.xl (.int .u8) ([]:List Int)],(1:Int)])) (.no /-copy to v -/)) (.req (0<=f/\f<=f/\1*f<=2^48/\f<2^63) (.req (0=0/\f.toNat=List.length (List.replicate f.toNat (0:Int))) (.req (Yb.q (JM a b)) (.br ((0:Int) !=0) (.ok (.AM [.agg [(0:Int),.xl (.int .u8) ([]:List Int)],(1:Int)])) (.req (0+i<=List.length d.o) (.br (!(FG a ((d.o.drop 0).take i))) (.ok (.AM [.agg [(0:Int),.xl (.int .u8) ([]:List Int)],(1:Int)])) (.req (List.length d.o=List.length d.o/\List.length ([(80:Int),(0:Int),(0:Int),(0:Int),(0:Int)])<=List.length d.o) (.req (0+i<=List.length g) (.ok (.AM [.agg [a,.xl (.int .u8) ((g.drop 0).take i)],(0:Int)]))))))))))))))) ?_;obtain ⟨⟨rfl,rfl⟩,rfl⟩:=h
  have hw:A9 (512*4)=2048:=Aa
  have hk:(JM 512 4).k=2048:=by show ((A9 (512*4)).toNat:Int)=2048;rw [hw];rfl
  have hl:(JM 512 4).o.length=2048:=by show (List.replicate (A9 (512*4)).toNat (0:Int)).length=2048;rw [hw,CR];rfl
  have hV:iy (JM 512 4):=⟨rfl,by rw [hk,hl];rfl,by rw [hk];decide⟩
  have q:aGv (JM 512 4)=.exit 0/\(OK (JM 512 4)).o=List.replicate (JM 512 4).k.toNat 255:=aqB _ hV
  rw [hk] at q
  have hL:(OK (JM 512 4)).o.length=2048:=by rw [q.2,CR];rfl
  have hT:(((OK (JM 512 4)).o).drop 0).take (OK (JM 512 4)).o.length=(OK (JM 512 4)).o:=by rw [CJ,Dv]
  have hJ:FG 512 (OK (JM 512 4)).o=true:=MC.2 ⟨NB.2 (by rw [hL];decide),by rw [hL];decide,A0,A0,Aa⟩
  have hC:B7 [80,0,0,0,0] (OK (JM 512 4)).o=ET:=by rw [q.2];exact aqY
  rw [hw,hT,hJ,hC,hL]
  have hj:=aqX
  refine ⟨λc=>Gm,λ_=>⟨λc=>Gm,λ_=>⟨λc=>Gm,λ_=>⟨Aa,λc=>Gm,λ_=>⟨Aa,by rw [CR];decide,⟨hV,rfl,rfl⟩,λc=>Gm,λ_=>⟨Aa,λc=>Gm,λ_=>⟨⟨rfl,Aa⟩,by rw [hj];decide,?_⟩⟩⟩⟩⟩⟩⟩
  rw [CJ,<-hj,Dv];rfl
 ·cases h)
def aSC:List LV->T LV
 | []=> .ok (.AM [.agg [(512:Int),.xl (.int .u8) ET],(0:Int)])
 |_=> .no
def aQR:List Bd:=[ai0]
def awL  :Bc prog AT (aQR) kN Af f17 []=.req ((512:Int)=512/\(4:Int)=4) (.ok (.AM [.agg [(512:Int),.xl (.int .u8) ET],(0:Int)])):=AZ
def vD:=vo (S:=aSC) func17 aQR kN (λargs lv h=>by
 refine ⟨?_⟩;unfold aSC at h;split at h
 ·simp only [canL]
  rw [awL];obtain rfl:=h;exact ⟨A8,rfl⟩
 ·cases h)
structure P8 where
 azH:List Int
 e:Int
 l:List Int
 (m i:Int)
 B5:List Cd
 BW:List ByteArray
 C0:List Ko
 BH:List Ch
 C1:List Ba
def aF3:=bN f8 0
def v8 (s:P8):T (Rd P8):=
 .br (decide (s.i<s.m)) (.ix s.i (s.l.length) (.br (!(inB (gi s.l s.i) (-200) 200)) (.so (.ret) {s with e:=(1:Int)}) (.nx {s with i:=A9 (s.i+1)}))) (.so (.exit 0) s)
def ia (s:P8):Prop:=(s.i=0/\s.m=(s.l.length:Int))/\s.m<=1000/\s.e=0
def Xc (s:P8):Prop:=(0<=s.i/\s.m=(s.l.length:Int))/\s.m<=1000/\s.e=0/\∀j:Nat,(j:Int)<s.i->inB (gi s.l j) (-200) 200=true
def sI (s:P8):Nat:=(s.m-s.i).toNat
def zx (x:Ex) (s s':P8):Prop:=(x=.exit 0/\s'.e=0/\s'.l.all (λx=>inB x (-200) 200)=true)\/(x=.ret/\s'.e=1/\s'.l.all (λx=>inB x (-200) 200)=false)
def aj3:∀s,ia s->Xc s:=by
 rintro s ⟨⟨h0,h1⟩,h2,h3⟩
 exact ⟨⟨A0,h1⟩,h2,h3,λj hj=>A0⟩
def awk:Da Xc sI zx v8:=by
 intro s hI;obtain ⟨⟨h0,h1⟩,h2,h3,h4⟩:=hI
 have key:s.l.all (λx=>inB x (-200) 200)=Dc s.l.length (λk=>inB (gi s.l k) (-200) 200):=(oe (f:=λx=>inB x (-200) 200)).symm
 refine AG (λc1=>AG (λc2=>?_) (λc2=>?_)) (λc1=>?_)
 ·have c1:s.i<s.m:=AO
  refine .inr ⟨rfl,rfl,?_⟩;rw [key];exact Q3 s.i.toNat A0 AA
 ·have c1:s.i<s.m:=AA
  have c2:=(Hy _).mp c2
  rw [AI (x:=s.i+1)];refine ⟨⟨⟨AA,h1⟩,h2,h3,λj hj=>?_⟩,by simp only [sI];omega⟩
  by_cases e:(j:Int)<s.i
  ·exact h4 j e
  ·rw [show (j:Int)=s.i by grind]
   exact c2
 ·have c1:s.m<=s.i:=AA
  exact .inl ⟨rfl,h3,by rw [key];exact EB.2 λj hj=>h4 j A0⟩
def Qt:AS P8:=⟨0,105,[1,2,4,5,27,28,29],[],λs=>[.xl A7 s.azH,.own 0 0,.own 1 0,s.e,.xl A7 s.l,s.m,s.i],λs=>[⟨[s.B5,s.BW,s.C0,s.BH,s.C1],28,.cl,false⟩,zB],λv b=>⟨Az A7 v 0,AK v 3,Az A7 v 4,AK v 5,AK v 6,AF Ao b 0 0,AF .str b 0 1,AF B8 b 0 2,AF Au b 0 3,AF B9 b 0 4⟩,v8,λs r=> {s with e:=r.e,i:=r.i},λs=>s,λ_ s=>s,[.ret,.exit 0],ia,Xc,sI⟩
abbrev WH:=Qt.run
abbrev nX:=Qt.Am
def avQ:Rq Xc v8:=by
 exact aKZ
def X3:List Bd:=[Oi,fI,cv,vD,WE]
def sv:As:=kI X3 (la 11 func51 T7 (la 6 func51 Q2 (la 3 func34 OW (la 2 func50 NA (la 1 func49 MA (la 2 func58 L0 (la 9 func19 Ck (l0 X3))))))))
def aPi:Qt.Ok:={}
def aO5:Qt.Pf (zx):=⟨aj3,λs h=>rfl,awk,avQ⟩
def ap5:SA 0 aF3 Qt:=s1 aPi aO5 X3 sv
def apf:Fi ia Xc zx nX WH:=AS.fin aPi aO5
structure P7 where
 (e n i:Int)
 B5:List Cd
 BW:List ByteArray
 C0:List Ko
 BH:List Ch
 C1:List Ba
 sQ:List Cd
 p1:List ByteArray
 p2:List Ko
 p3:List Ch
 p4:List Ba
 (p9 Sp:List Int)
 ra:List Ra
 st:List St
 ca:List Le
 mi:List Mi
 me:List Me
 dm:List Dm
def aF0:=bN f8 1
def v7 (s:P7):T (Rd P7):=letI a:=(false,((0:Int),((0:Int),(9:Int))));letI b:=((A9 (s.i+1)),((0:Int),false));letI c:=(s.st++([((0:Int),((0:Int),((0:Int),false)))]));.br (decide (s.i<s.n)) (.rb (s.st.length) (List.length ([((0:Int),((0:Int),((0:Int),false)))])) 32 (.rb (s.me.length) (List.length ([b])) 24 (.rb (s.dm.length) (List.length ([a])) 32 (.rl s.ra (.re (s.st.length+List.length ([((0:Int),((0:Int),((0:Int),false)))])) c (.rl s.ca (.rl s.mi (.re (s.me.length+List.length ([b])) (s.me++([b])) (.re (s.dm.length+List.length ([a])) (s.dm++([a])) (.nx {s with i:=A9 (s.i+1),st:=c,me:=s.me++([b]),dm:=s.dm++([a])})))))))))) (.rl s.ra (.rl s.st (.rl s.ca (.rl s.mi (.rl s.me (.rl s.dm (.so (.exit 2) s)))))))
def iZ (s:P7):Prop:=s.i=0/\(s.n<=1000/\0<=s.n)/\s.st=[]/\s.me=[]/\s.dm=[]
def Xb (s:P7):Prop:=(0<=s.i/\s.i<=s.n)/\(s.n<=1000/\0<=s.n)/\s.st=List.replicate s.i.toNat (0,0,0,false)/\s.me=(Ek s.i.toNat).map (λk=>(k+1,0,false))/\s.dm=List.replicate s.i.toNat (false,0,0,9)
def sH (s:P7):Nat:=(s.n-s.i).toNat
def zw (x:Ex) (s s':P7):Prop:=x=.exit 2/\s'.st=List.replicate s'.n.toNat (0,0,0,false)/\s'.me=(Ek s'.n.toNat).map (λk=>(k+1,0,false))/\s'.dm=List.replicate s'.n.toNat (false,0,0,9)
def aj2:∀s,iZ s->Xb s:=by
 rintro s ⟨h0,h1,h2,h3,h4⟩
 refine ⟨A0,h1,?_,?_,?_⟩
 ·simp_all
 ·rw [h3,h0];rfl
 ·simp_all
def awj:Da Xb sH zw v7:=by
 intro s hI;obtain ⟨⟨h0,h1⟩,h2,h3,h4,h5⟩:=hI;refine AG (λc1=>?_) (λc1=>?_)
 ·have c1:s.i<s.n:=AA
  rw [AI (x:=s.i+1)]
  have e:(s.i+1).toNat=s.i.toNat+1:=A0
  refine ⟨⟨⟨AA,AA⟩,h2,?_,?_,?_⟩,by simp only [sH];omega⟩
  ·show s.st++[_]=List.replicate (s.i+1).toNat _
   rw [e,h3,jW]
  ·show s.me++[_]=(Ek (s.i+1).toNat).map _
   rw [e,h4,aDF,I2,BQ h0];rfl
  ·show s.dm++[_]=List.replicate (s.i+1).toNat _
   rw [e,h5,jW]
 ·have c1:s.n<=s.i:=AA
  have e:s.i=s.n:=A0
  rw [e] at h3 h4 h5;exact ⟨rfl,h3,h4,h5⟩
def Qs:AS P7:=⟨0,105,[2,4,5,11,63,64],[.ns 11 12 85 Bu,.ns 11 15 51 D6,.ns 11 16 66 BO],λs=>[.own 0 0,.own 1 0,s.e,.own 2 0,s.n,s.i],λs=>[⟨[s.B5,s.BW,s.C0,s.BH,s.C1],28,.cl,false⟩,zB,⟨[s.sQ,s.p1,s.p2,s.p3,s.p4,(0:Int),true,.v (.slice none 0 0),(512:Int),.xl (.int .u8) s.p9,.os 3 2 0 (s.ra.length),(1:Int),.os 4 4 0 (s.st.length),.os 5 5 0 (s.ca.length),.os 6 3 0 (s.mi.length),.os 7 3 0 (s.me.length),.os 8 4 0 (s.dm.length),.v (.slice none 0 0),.xl A7 s.Sp,.v (.slice none 0 0)],47,.cl,false⟩,bV 118 BD s.ra,bV 85 Bu s.st,bV 55 AX s.ca,bV 53 By s.mi,bV 51 D6 s.me,bV 66 BO s.dm],λv b=>⟨AK v 2,AK v 4,AK v 5,AF Ao b 0 0,AF .str b 0 1,AF B8 b 0 2,AF Au b 0 3,AF B9 b 0 4,AF Ao b 2 0,AF .str b 2 1,AF B8 b 2 2,AF Au b 2 3,AF B9 b 2 4,AF (.int .u8) b 2 9,AF A7 b 2 18,Ab BD b 3,Ab Bu b 4,Ab AX b 5,Ab By b 6,Ab D6 b 7,Ab BO b 8⟩,v7,λs r=> {s with i:=r.i,st:=r.st,me:=r.me,dm:=r.dm},λs=>s,λ_ s=>s,[.exit 2],iZ,Xb,sH⟩
abbrev Mx:=Qs.run
abbrev arj:=Qs.Am
def avP:Rq Xb v7:=by
 intro s hI;refine ⟨λc1=>⟨?_,?_,?_,A8,?_,A8,A8,?_,?_,trivial⟩,λc1=>⟨A8,A8,A8,A8,A8,A8,trivial⟩⟩
 all_goals ((obtain ⟨⟨h0,h1⟩,h2,h3,h4,h5⟩:=hI;have l1:s.st.length=s.i.toNat:=AA;have l2:s.me.length=s.i.toNat:=(by rw [h4];simp [OP]);have l3:s.dm.length=s.i.toNat:=AA;simp only [AY] at c1;first|(simp only [BX,Bh];omega) |(simp only [B0,BX,Bh,E9];done) |exact ⟨rfl,AJ⟩))
def aPh:Qs.Ok:={}
def aO4:Qs.Pf (zw):=⟨aj2,λs h=>rfl,awj,avP⟩
def ap4:SA 0 aF0 Qs:=s1 aPh aO4 X3 sv
def ape:Fi iZ Xb zw arj Mx:=AS.fin aPh aO4
structure P6 where
 e:Int
 l:List Cd
 (n i:Int)
 sQ:List Cd
 p1:List ByteArray
 p2:List Ko
 p3:List Ch
 p4:List Ba
 (p9 Sp:List Int)
 ra:List Ra
 st:List St
 ca:List Le
 mi:List Mi
 me:List Me
 dm:List Dm
 tg:List Int
def aEz:=bN f8 2
def v5 (s:P6):T (Rd P6):=letI a:=Ag s.l s.i;.br (decide (s.i<s.n)) (.ix s.i (s.l.length) (.rb (s.tg.length) (List.length ([a.2.2.1])) 8 (.rl s.ra (.rl s.st (.rl s.ca (.rl s.mi (.rl s.me (.rl s.dm (.re (s.tg.length+List.length ([a.2.2.1])) (s.tg++([a.2.2.1])) (.nx {s with i:=A9 (s.i+1),tg:=s.tg++([a.2.2.1])})))))))))) (.rl s.ra (.rl s.st (.rl s.ca (.rl s.mi (.rl s.me (.rl s.dm (.rl s.tg (.so (.exit 4) s))))))))
def iY (s:P6):Prop:=s.i=0/\(s.n=(s.l.length:Int)/\s.n<=1000)/\s.tg=[]
def Xa (s:P6):Prop:=(0<=s.i/\s.i<=s.n)/\(s.n=(s.l.length:Int)/\s.n<=1000)/\s.tg=(s.l.take s.i.toNat).map (λc=>c.2.2.1)
def sG (s:P6):Nat:=(s.n-s.i).toNat
def zv (x:Ex) (s s':P6):Prop:=x=.exit 4/\s'.tg=s'.l.map (λc=>c.2.2.1)
def aj1:∀s,iY s->Xa s:=by
 rintro s ⟨h0,h1,h2⟩
 exact ⟨A0,h1,HR⟩
def awi:Da Xa sG zv v5:=by
 intro s hI;obtain ⟨⟨h0,h1⟩,⟨h2,h3⟩,h4⟩:=hI;refine AG (λc1=>?_) (λc1=>?_)
 ·have c1:s.i<s.n:=AA
  rw [AI (x:=s.i+1)]
  have e:(s.i+1).toNat=s.i.toNat+1:=A0
  refine ⟨⟨⟨AA,AA⟩,⟨h2,h3⟩,?_⟩,by simp only [sG];omega⟩
  show s.tg++[_]=(s.l.take (s.i+1).toNat).map _
  have e2:Ag s.l s.i=s.l[s.i.toNat]' A0:=by
   have:=cM (cs:=s.l) (k:=s.i.toNat) A0
   exact this
  rw [e,h4,ZQ A0,I2,e2];rfl
 ·have c1:s.n<=s.i:=AA
  refine ⟨rfl,?_⟩;rw [h4,D3 A0]
def Qr:AS P6:=⟨0,105,[4,5,11,89,90,91],[.ns 11 19 3 A7],λs=>[.own 0 0,s.e,.own 1 0,s.l,s.n,s.i],λs=>[zB,⟨[s.sQ,s.p1,s.p2,s.p3,s.p4,(0:Int),true,.v (.slice none 0 0),(512:Int),.xl (.int .u8) s.p9,.os 2 2 0 (s.ra.length),(1:Int),.os 3 4 0 (s.st.length),.os 4 5 0 (s.ca.length),.os 5 3 0 (s.mi.length),.os 6 3 0 (s.me.length),.os 7 4 0 (s.dm.length),.v (.slice none 0 0),.xl A7 s.Sp,.os 8 1 0 (s.tg.length)],47,.cl,false⟩,bV 118 BD s.ra,bV 85 Bu s.st,bV 55 AX s.ca,bV 53 By s.mi,bV 51 D6 s.me,bV 66 BO s.dm,bV 3 A7 s.tg],λv b=>⟨AK v 1,Az Ao v 3,AK v 4,AK v 5,AF Ao b 1 0,AF .str b 1 1,AF B8 b 1 2,AF Au b 1 3,AF B9 b 1 4,AF (.int .u8) b 1 9,AF A7 b 1 18,Ab BD b 2,Ab Bu b 3,Ab AX b 4,Ab By b 5,Ab D6 b 6,Ab BO b 7,Ab A7 b 8⟩,v5,λs r=> {s with i:=r.i,tg:=r.tg},λs=>s,λ_ s=>s,[.exit 4],iY,Xa,sG⟩
abbrev an:=Qr.run
abbrev ari:=Qr.Am
def awF:Rq Xa v5:=by
 intro s hI;refine ⟨λc1=>⟨?_,?_,A8,A8,A8,A8,A8,A8,?_,trivial⟩,λc1=>⟨A8,A8,A8,A8,A8,A8,A8,trivial⟩⟩
 all_goals ((obtain ⟨⟨h0,h1⟩,⟨h2,h3⟩,h4⟩:=hI;have l1:s.tg.length=s.i.toNat:=AA;simp only [AY] at c1;first|omega|(simp only [BX,Bh];omega) |(simp only [B0,BX,Bh,E9];done)))
def aOj:Qr.Ok:={}
def aO3:Qr.Pf (zv):=⟨aj1,λs h=>rfl,awi,awF⟩
def ap2:SA 0 aEz Qr:=s1 aOj aO3 X3 sv
def apd:Fi iY Xa zv ari an:=AS.fin aOj aO3
structure Na where
 (n i:Int)
 qS:List Cd
 b11:List ByteArray
 b12:List Ko
 b13:List Ch
 b14:List Ba
 (b19 aC5:List Int)
 b2:List Ra
 b3:List St
 b4:List Le
 b5:List Mi
 b6:List Me
 b7:List Dm
 b8:List Int
 p1:List ByteArray
 p2:List Ko
 p3:List Ch
 p4:List Ba
 Sp:List Int
 Ul:List Cd
 lT:List Le
 lS:List Int
 lR:List Ra
 b15:List St
 b16:List Le
 o:List Mi
def uz (s:Na):T (Rd Na):=letI a:=s.o.getD s.i.toNat (Ty.dflt By);.br (decide (s.i<s.n)) (.ik s.i (s.o.length) (.req (List.length a.1<=100000000) (.ik s.i (s.o.length) (.rl s.b2 (.rl s.b3 (.rl s.b4 (.rl s.b5 (.rl s.b6 (.rl s.b7 (.rl s.b8 (.rl s.Ul (.rl s.lT (.rl s.lS (.rl s.lR (.rl s.b15 (.rl s.b16 (.re (s.o.length) (s.o.set s.i.toNat a) (.rl s.b6 (.rl s.b7 (.rl s.b8 (.nx {s with i:=A9 (s.i+1),o:=s.o.set s.i.toNat a}))))))))))))))))))))) (.rl s.b2 (.rl s.b3 (.rl s.b4 (.rl s.b5 (.rl s.b6 (.rl s.b7 (.rl s.b8 (.rl s.Ul (.rl s.lT (.rl s.lS (.rl s.lR (.rl s.b15 (.rl s.b16 (.rl s.o (.rl s.b6 (.rl s.b7 (.rl s.b8 (.so (.exit 0) s))))))))))))))))))
def iX (s:Na):Prop:=s.i=0/\s.n=(s.o.length:Int)/\s.n<=1000/\∀m∈s.o,m.1.length<=1000
def gR (s:Na):Prop:=0<=s.i/\s.i<=s.n/\s.n=(s.o.length:Int)/\s.n<=1000/\∀m∈s.o,m.1.length<=1000
def sF (s:Na):Nat:=(s.n-s.i).toNat
def abt (x:Ex) (s s':Na):Prop:=True
def aj0:∀s,iX s->gR s:=by
 exact aLx
def awh:Da gR sF abt uz:=by
 intro s hI;obtain ⟨h0,h1,h2,h3,h4⟩:=hI;refine AG (λc1=>?_) (λc1=>trivial)
 ·have c1:s.i<s.n:=AA
  have e:=set_self (l:=s.o) (i:=s.i.toNat) (d:=Ty.dflt By) A0
  rw [AI (x:=s.i+1),e];exact ⟨⟨AA,AA,h2,h3,h4⟩,by simp only [sF];omega⟩
def U9:AS Na:=⟨9,82,[1,2,44,45],[],λs=>[.own 9 0,.own 10 0,s.n,s.i],λs=>[zB,⟨[s.qS,s.b11,s.b12,s.b13,s.b14,(0:Int),true,.v (.slice none 0 0),(512:Int),.xl (.int .u8) s.b19,.os 2 2 0 (s.b2.length),(1:Int),.os 3 4 0 (s.b3.length),.os 4 5 0 (s.b4.length),.os 5 3 0 (s.b5.length),.os 6 3 0 (s.b6.length),.os 7 4 0 (s.b7.length),.v (.slice none 0 0),.xl A7 s.aC5,.os 8 1 0 (s.b8.length)],47,.cl,false⟩,bV 118 BD s.b2,bV 85 Bu s.b3,bV 55 AX s.b4,bV 53 By s.b5,bV 51 D6 s.b6,bV 66 BO s.b7,bV 3 A7 s.b8,⟨[.os 11 11 0 (s.Ul.length),s.p1,s.p2,s.p3,s.p4,(0:Int),true,.os 12 5 0 (s.lT.length),(512:Int),.os 13 1 0 (s.lS.length),.os 14 2 0 (s.lR.length),(1:Int),.os 15 4 0 (s.b15.length),.os 16 5 0 (s.b16.length),.os 17 3 0 (s.o.length),.os 6 3 0 (s.b6.length),.os 7 4 0 (s.b7.length),.v (.slice none 0 0),.xl A7 s.Sp,.os 8 1 0 (s.b8.length)],47,.cl,false⟩,zB,bV 74 Ao s.Ul,bV 114 AX s.lT,bV 5 (.int .u8) s.lS,bV 118 BD s.lR,bV 85 Bu s.b15,bV 55 AX s.b16,bV 53 By s.o],λv b=>⟨AK v 2,AK v 3,AF Ao b 1 0,AF .str b 1 1,AF B8 b 1 2,AF Au b 1 3,AF B9 b 1 4,AF (.int .u8) b 1 9,AF A7 b 1 18,Ab BD b 2,Ab Bu b 3,Ab AX b 4,Ab By b 5,Ab D6 b 6,Ab BO b 7,Ab A7 b 8,AF .str b 9 1,AF B8 b 9 2,AF Au b 9 3,AF B9 b 9 4,AF A7 b 9 18,Ab Ao b 11,Ab AX b 12,Ab (.int .u8) b 13,Ab BD b 14,Ab Bu b 15,Ab AX b 16,Ab By b 17⟩,uz,λs r=> {s with i:=r.i,o:=r.o},λs=>s,λ_ s=>s,[.exit 0],iX,gR,sF⟩
abbrev ng:=U9.run
abbrev arh:=U9.Am
def u9:List Bd:=[Oi,fI,cv,vD,WE,aaN]
def ayp:As:=kI u9 (la 11 func51 T7 (la 6 func51 Q2 (la 3 func34 OW (la 2 func50 NA (la 1 func49 MA (la 2 func58 L0 (la 9 func19 Ck (l0 u9))))))))
def awE:Rq gR uz:=by
 intro s hI;refine ⟨λc1=>⟨?_,?_,?_,?_,?_,A8,A8,A8,A8,A8,A8,A8,A8,A8,A8,A8,A8,A8,?_,A8,A8,A8,trivial⟩,λc1=>⟨A8,A8,A8,A8,A8,A8,A8,A8,A8,A8,A8,A8,A8,A8,A8,A8,A8,trivial⟩⟩
 all_goals ((obtain ⟨h0,h1,h2,h3,h4⟩:=hI;(try simp only [AY] at c1);first|omega|exact ⟨rfl,AJ⟩ |exact ⟨rfl,rfl⟩ |exact G8 (h4 _ (getD_mem A0)) Aa))
def aOi:U9.Ok:={}
def aO2:U9.Pf (abt):=⟨aj0,λs h=>rfl,awh,awE⟩
def aFt:=s2 (b:=bN f19 0) aOi aO2 u9 ayp
def apc:Rs iX arh ng (λs:Na=>s.o) (λx s' (v:List Mi)=>x=.exit 0/\s'.o=v):=DL aOi aO2 (λs hI=>by
  obtain ⟨h0,h1,h2,h3,h4⟩:=hI;refine AG (λc1=>?_) (λc1=>⟨rfl,rfl⟩)
  have c1:s.i<s.n:=AA
  have e:=set_self (l:=s.o) (i:=s.i.toNat) (d:=Ty.dflt By) A0
  rw [e];exact rfl)
def aRd:List LV->T LV
 | .agg a::r=>s5 a λcs os ks gs bs=>(match r with
  | [.xl (.int .i64) dr]=> .req (dr.length<=1000) (.ok (.AM [newP cs os ks gs bs dr,E5 cs os ks gs bs dr]))
  |_=> .no)
 |_=> .no
def Ff {α:Type}(d:α) (l:List α):List α:=B7 (AQ l) (List.replicate (l.length:Int).toNat d)
def aQw {α:Type}(d:α) (l:List α):Ff d l=l:=by
 unfold Ff;rw [FP];exact Q7
def cpX {α:Type}(d:α) (l:List α):List α:=B7 l (List.replicate (l.length:Int).toNat d)
def az9 {α:Type}(d:α) (l:List α):cpX d l=l:=Q7
def cpN {α:Type}(d:α):List α:=B7 [] (List.replicate (0:Int).toNat d)
def azA {α:Type}(d:α):cpN d=[]:=rfl
def EC {α:Type}(gs:List Ch) (d:α):List α:=List.replicate (gs.length:Int).toNat d
def oY {α:Type}(gs:List Ch) (d:α):EC gs d=List.replicate gs.length d:=by
 unfold EC
 grind
def zNV (e:Int):LV:=.AM [.agg [.xl Ao ([]:List Cd),.xl .str ([]:List ByteArray),.xl B8 ([]:List Ko),.xl Au ([]:List Ch),.xl B9 ([]:List Ba),.v (.int .i64 0),.v (.bool false),.xl AX ([]:List Le),.v (.int .i64 0),.xl (.int .u8) ([]:List Int),.xl BD ([]:List Ra),.v (.int .i64 0),.xl Bu ([]:List St),.xl AX ([]:List Le),.xl By ([]:List Mi),.xl D6 ([]:List Me),.xl BO ([]:List Dm),.xl Cp ([]:List Lk),.xl A7 ([]:List Int),.xl A7 ([]:List Int)],.v (.int .i64 e)]
def lV:Cd:=(ByteArray.empty,((0:Int),((0:Int),((0:Int),(((0:Int),(0:Int)),((0:Int),((0:Int),((0:Int),((0:Int),(0:Int))))))))))
def JS:Le:=((0:Int),((0:Int),((0:Int),((0:Int),(0:Int)))))
def NN:Ra:=((0:Int),(0:Int))
def aa7:St:=((0:Int),((0:Int),((0:Int),false)))
def aJx:Me:=((0:Int),((0:Int),false))
def aJz:Dm:=(false,((0:Int),((0:Int),(0:Int))))
def KC:Mi:=(([]:List Int),((0:Int),(0:Int)))
def PH:Int:=(0:Int)
def aJy:Lk:=((0:Int),((0:Int),((0:Int),((0:Int),((0:Int),(0:Int))))))
def Pm (cs:List Cd) (os:List ByteArray) (ks:List Ko) (gs:List Ch) (bs:List Ba) (dr:List Int):P8:=(⟨dr,0,dr,(dr.length:Int),0,cs,os,ks,gs,bs⟩:P8)
def Lu (cs:List Cd) (os:List ByteArray) (ks:List Ko) (gs:List Ch) (bs:List Ba) (dr:List Int):P7:=(⟨(WH (Pm cs os ks gs bs dr)).e,(gs.length:Int),0,cs,os,ks,gs,bs,cs,os,ks,gs,bs,ET,dr,EC gs NN,([]:List St),EC gs JS,EC gs KC,([]:List Me),([]:List Dm)⟩:P7)
def Vc (cs:List Cd) (os:List ByteArray) (ks:List Ko) (gs:List Ch) (bs:List Ba) (dr:List Int):P6:=letI a:=Mx (Lu cs os ks gs bs dr);(⟨(WH (Pm cs os ks gs bs dr)).e,cs,(cs.length:Int),0,cs,os,ks,gs,bs,ET,dr,EC gs NN,a.st,EC gs JS,EC gs KC,a.me,a.dm,([]:List Int)⟩:P6)
def mK (cs:List Cd) (os:List ByteArray) (ks:List Ko) (gs:List Ch) (bs:List Ba) (dr:List Int):Na:=letI a:=Mx (Lu cs os ks gs bs dr);(⟨((((List.length (EC gs KC):Nat):Int).toNat:Nat):Int),0,cs,os,ks,gs,bs,ET,dr,EC gs NN,a.st,EC gs JS,EC gs KC,a.me,a.dm,(an (Vc cs os ks gs bs dr)).tg,os,ks,gs,bs,dr,cpX lV cs,cpN JS,cpX PH ET,Ff NN (EC gs NN),Ff aa7 a.st,Ff JS (EC gs JS),Ff KC (EC gs KC)⟩:Na)
def u7:List Bd:=[Oi,fI,cv,vD,WE]
def ayo:As:=kI u7 (la 9 func19 aFt (la 11 func51 T7 (la 6 func51 Q2 (la 3 func34 OW (la 2 func50 NA (la 1 func49 MA (la 2 func58 L0 (la 9 func19 Ck (l0 u7)))))))))
def fH:=vm (S:=aRd) func8 u7 ayo (L:=(λi=>if i=4 then Qt.lp else if i=17 then Qs.lp else if i=24 then Qr.lp else Af i)) (λb hb=>by
 rw [show B6 _=[aF3,aF0,aEz] by kernel_rfl] at hb
 simp only [B1,Bv,Bw] at hb;rcases hb with rfl|rfl|rfl
 ·exact ap5
 ·exact ap4
 ·exact ap2) (λargs lv h=>by
 unfold aRd at h;split at h
 case h_2=>cases h
 replace h:=I8 h
 obtain ⟨cs,os,ks,gs,bs,rfl,h⟩:=h;split at h
 ·rename_i dr
  refine Aj (letI a:=Mx (Lu cs os ks gs bs dr);letI b:=an (Vc cs os ks gs bs dr);letI d:=EC gs NN;letI f:=EC gs JS;letI g:=(gs.length:Int);letI j:=((List.length a.me:Nat):Int);letI l:=((List.length a.dm:Nat):Int);letI n:=((List.length b.tg:Nat):Int);letI p:=EC gs KC;letI r:=(dr.length:Int);letI s:=((List.length a.st:Nat):Int);letI t:=((List.length d:Nat):Int);letI u:=((List.length f:Nat):Int);letI v:=((List.length p:Nat):Int);letI w:=Pm cs os ks gs bs dr;letI y:=mK cs os ks gs bs dr;letI z:=(cs.length:Int);letI A:=(ET.length:Int);letI B:=(List.length ([]:List Le));letI C:=Ff aa7 a.st;.br ((!(BF cs os ks gs bs)) ||(r !=g)) (.ok (zNV 1)) (.req (Qt.q w) (.br (Bo (nX w) (.ret)) (.ok (.AM [.agg [.xl Ao ([]:List Cd),.xl .str ([]:List ByteArray),.xl B8 ([]:List Ko),.xl Au ([]:List Ch),.xl B9 ([]:List Ba),(0:Int),false,.xl AX ([]:List Le),(0:Int),.xl (.int .u8) ([]:List Int),.xl BD ([]:List Ra),(0:Int),.xl Bu ([]:List St),.xl AX ([]:List Le),.xl By ([]:List Mi),.xl D6 ([]:List Me),.xl BO ([]:List Dm),.xl Cp ([]:List Lk),.xl A7 ([]:List Int),.xl A7 ([]:List Int)],(WH w).e])) (.req (BF cs os ks gs bs=true) (.br (!IL cs gs (C4 gs)) (.ok (zNV 13)) (.br ((0:Int) !=0) (.ok (zNV 0)) (.rm 16 g (.rm 40 g (.rm 40 g (.re g.toNat d (.r0 St (.re g.toNat f (.re g.toNat p (.r0 Me (.r0 Dm (.req (Qs.q (Lu cs os ks gs bs dr)) (.rl d (.rl a.st (.rl f (.rl p (.rl a.me (.rl a.dm (.r0 Int (.req (Qr.q (Vc cs os ks gs bs dr)) (.rm 96 z (.rc z (ByteArray.empty,((0:Int),((0:Int),((0:Int),(((0:Int),(0:Int)),((0:Int),((0:Int),((0:Int),((0:Int),(0:Int)))))))))) (cs.length) (.rm 40 (0:Int) (.rc (0:Int) ((0:Int),((0:Int),((0:Int),((0:Int),(0:Int))))) B (.rm 1 A (.rc A (0:Int) (ET.length) (.rm 16 t (.rz d (.rc t ((0:Int),(0:Int)) (List.length (AQ d)) (.rm 32 s (.rz a.st (.rc s ((0:Int),((0:Int),((0:Int),false))) (List.length (AQ a.st)) (.rm 40 u (.rz f (.rc u ((0:Int),((0:Int),((0:Int),((0:Int),(0:Int))))) (List.length (AQ f)) (.rm 40 v (.rz p (.rc v (([]:List Int),((0:Int),(0:Int))) (List.length (AQ p)) (.rl d (.rl a.st (.rl f (.rl p (.rl a.me (.rl a.dm (.rl b.tg (.re z.toNat (cpX lV cs) (.re (0:Int).toNat (cpN JS) (.re A.toNat (cpX PH ET) (.re t.toNat (Ff NN d) (.re s.toNat C (.re u.toNat (Ff JS f) (.re v.toNat (Ff KC p) (.rl a.me (.rl a.dm (.rl b.tg (.req (U9.q y) (.rm 24 j (.rz a.me (.rc j ((0:Int),((0:Int),false)) (List.length (AQ a.me)) (.rm 32 l (.rz a.dm (.rc l (false,((0:Int),((0:Int),(0:Int)))) (List.length (AQ a.dm)) (.rm 48 (0:Int) (.rc (0:Int) ((0:Int),((0:Int),((0:Int),((0:Int),((0:Int),(0:Int)))))) B (.rm 8 r (.rc r (0:Int) (dr.length) (.rm 8 n (.rz b.tg (.rc n (0:Int) (List.length (AQ b.tg)) (.rz (cpX lV cs) (.rz (cpN JS) (.rz (cpX PH ET) (.rz (Ff NN d) (.rz C (.rz (Ff JS f) (.rz (ng y).o (.req (0+j.toNat<=List.length (Ff aJx a.me)) (.req (0+l.toNat<=List.length (Ff aJz a.dm)) (.req (0+(0:Int).toNat<=List.length (cpN aJy)) (.req (0+r.toNat<=List.length (cpX PH dr)) (.req (0+n.toNat<=List.length (Ff PH b.tg)) (.ok (.AM [.agg [(AQ (cpX lV cs)),os,ks,gs,bs,(0:Int),true,(AQ (cpN JS)),(512:Int),.xl (.int .u8) (AQ (cpX PH ET)),(AQ (Ff NN d)),(1:Int),(AQ C),(AQ (Ff JS f)),(AQ (ng y).o),(((Ff aJx a.me).drop 0).take j.toNat),(((Ff aJz a.dm).drop 0).take l.toNat),(((cpN aJy).drop 0).take (0:Int).toNat),.xl A7 (((cpX PH dr).drop 0).take r.toNat),.xl A7 (((Ff PH b.tg).drop 0).take n.toNat)],(0:Int)]))))))))))))))))))))))))))))))))))))))))))))))))))))))))))))))))))))))))))))))))))))))) ?_;obtain ⟨hn,rfl⟩:=h
  have A1:ia (Pm cs os ks gs bs dr):=⟨⟨rfl,rfl⟩,by show (dr.length:Int)<=1000;omega,rfl⟩
  obtain ⟨_,_,q1⟩:=apf _ A1
  have q1:(nX (Pm cs os ks gs bs dr)=.exit 0/\(WH (Pm cs os ks gs bs dr)).e=0/\dr.all (λx=>inB x (-200) 200)=true)\/(nX (Pm cs os ks gs bs dr)=.ret/\(WH (Pm cs os ks gs bs dr)).e=1/\dr.all (λx=>inB x (-200) 200)=false):=q1
  have bad:∀ {e:Int},E5 cs os ks gs bs dr=e->e≠0->newP cs os ks gs bs dr=PK0:=λh1 h2=>AE (by rw [h1];exact h2)
  have hb:((!BF cs os ks gs bs) ||((dr.length:Int) !=(gs.length:Int)))=true↔(BF cs os ks gs bs=false\/dr.length≠gs.length):=by simp [Int.natCast_inj]
  refine ⟨λc=>?_,λc=>⟨⟨A1,rfl,rfl⟩,λc2=>?_,λc2=>?_⟩⟩
  ·have he:E5 cs os ks gs bs dr=1:=AE (hb.1 c)
   show zNV 1=_
   exact xU
  all_goals have hc:¬(BF cs os ks gs bs=false\/dr.length≠gs.length):=λh=>(by rw [hb.2 h] at c;cases c)
  ·rcases q1 with ⟨x1,_⟩ |⟨x1,x2,x3⟩
   ·rw [x1] at c2
    cases c2
   ·have he:E5 cs os ks gs bs dr=1:=(AD hc).trans (AE x3)
    rw [x2]
    show zNV 1=_
    exact xU
  rcases q1 with ⟨x1,x2,x3⟩ |⟨x1,x2,x3⟩
  rotate_left
  ·rw [x1] at c2
   cases c2
  have hs:BF cs os ks gs bs=true:=by
   cases e:BF cs os ks gs bs
   ·exact absurd (.inl e) hc
   ·rfl
  have hd:dr.length=gs.length:=jI λh=>hc (.inr h)
  have hg:=D9.1 hs
  refine ⟨hs,λc3=>?_,λc3=>⟨λc4=>(by cases c4),λ_=>?_⟩⟩
  ·have he:E5 cs os ks gs bs dr=13:=(AD hc).trans ((AD (by rw [x3];decide)).trans (AE ((D4 _).mp c3)))
   show zNV 13=_
   exact xU
  have he:E5 cs os ks gs bs dr=0:=(AD hc).trans ((AD (by rw [x3];decide)).trans (AD (by rw [(Hy _).mp c3];decide)))
  have hp:newP cs os ks gs bs dr=_:=AD M0
  have A2:iZ (Lu cs os ks gs bs dr):=⟨rfl,⟨xa,V5 _⟩,rfl,rfl,rfl⟩
  obtain ⟨_,_,_,y1,y2,y3⟩:=ape _ A2
  have y1:(Mx (Lu cs os ks gs bs dr)).st=List.replicate gs.length (0,0,0,false):=y1
  have y2:(Mx (Lu cs os ks gs bs dr)).me=(Ek gs.length).map (λk=>(k+1,0,false)):=y2
  have y3:(Mx (Lu cs os ks gs bs dr)).dm=List.replicate gs.length (false,0,0,9):=y3
  have A3:iY (Vc cs os ks gs bs dr):=⟨rfl,⟨rfl,aMX⟩,rfl⟩
  obtain ⟨_,_,_,y4⟩:=apd _ A3
  have y4:(an (Vc cs os ks gs bs dr)).tg=cs.map (λc=>c.2.2.1):=y4
  have hj:ET.length=2048:=rfl
  have l1:(EC gs NN).length=gs.length:=yS
  have l2:(EC gs JS).length=gs.length:=yS
  have l3:(EC gs KC).length=gs.length:=yS
  have l4:(Mx (Lu cs os ks gs bs dr)).st.length=gs.length:=by rw [y1,CR]
  have l5:(Mx (Lu cs os ks gs bs dr)).me.length=gs.length:=by rw [y2,Fv,OP]
  have l6:(Mx (Lu cs os ks gs bs dr)).dm.length=gs.length:=by rw [y3,CR]
  have l7:(an (Vc cs os ks gs bs dr)).tg.length=cs.length:=by rw [y4,Fv]
  have ho:(mK cs os ks gs bs dr).o=EC gs KC:=aQw _ _
  have A4:iX (mK cs os ks gs bs dr):=⟨rfl,by rw [ho];show (((((EC gs KC).length:Nat):Int).toNat:Nat):Int)=_;rw [Bs],by show (((((EC gs KC).length:Nat):Int).toNat:Nat):Int)<=1000;rw [Bs,l3];omega,by
   rw [ho,oY];intro m hm;rw [(Pb.1 hm).2]
   decide⟩
  have y5:(ng (mK cs os ks gs bs dr)).o=EC gs KC:=(apc _ A4).2.trans ho
  simp only [aQw,az9,azA,FP,y5,l1,l2,l3]
  repeat (refine ⟨k6,?_⟩)
  refine ⟨⟨A2,rfl,rfl⟩,?_⟩
  repeat (refine ⟨k6,?_⟩)
  refine ⟨⟨A3,rfl,rfl⟩,?_⟩
  repeat (refine ⟨k6,?_⟩)
  refine ⟨⟨A4,rfl,rfl⟩,?_⟩
  repeat (refine ⟨k6,?_⟩)
  show _=_
  rw [hp,he,y1,y2,y3,y4];simp only [oY,Bs,CJ,Dv];rfl
 ·cases h)
def EU:EV:=⟨1,0,0,(0,0,0,0,0),(false,0,0,0)⟩
def D2:Nat->PK->Int->PK×Int×Bool
 |0,p,l=>(p,l,true)
 |n+1,p,l=>if BR p EU=0/\(CW p EU).length=(B4 p EU).ca.length then D2 n (B4 p EU) (if (CW p EU).length>0 then gi (CW p EU) 0 else l) else (p,l,false)
def aAX (a:QV×Int):Option (QV×Int):=
 if (E4 a.1.p&&(!(a.1.p.tk==1000000)&&(a.1.tick.ok&&(a.1.HY.length==a.1.tick.p.ca.length&&decide (a.1.HY.length>0)))))=true then some (a.1.tick,gi a.1.HY 0) else none
def E7:Nat->QV×Int->Option (QV×Int)
 |0,a=>some a
 |n+1,a=>(aAX a).bind (E7 n)
def anm {m n:Nat}:∀ {a:QV×Int},E7 (m+n) a=(E7 m a).bind (E7 n):=by
 induction m with
 |zero=>intro a;rw [EK];rfl
 |succ m ih=>
  intro a;rw [Nat.succ_add];simp only [E7];cases aAX a with
  |none=>rfl
  |some b=>exact ih
def M8 {m n:Nat}{a b c:QV×Int}(h1:E7 m a=some b) (h2:E7 n b=some c):E7 (m+n) a=some c:=by rw [anm,h1];exact h2
def pw {p:PK}{q:QV}(h:RP p q):E4 q.p=E4 p:=by rw [h.1];rfl
def oF {n:Nat}:∀ {p:PK}{q:QV}{l:Int}{b:QV×Int},RP p q->E7 n (q,l)=some b->∃p',D2 n p l=(p',b.2,true)/\RP p' b.1:=by
 induction n with
 |zero=>
  intro p q l b h hq;simp only [E7,Ad] at hq;subst hq;exact ⟨p,rfl,h⟩
 | succ n ih=>
  intro p q l b h hq;simp only [E7] at hq;unfold aAX at hq;split at hq
  ·rename_i hc
   simp only [AU,Cj,D4,Bq,AY] at hc;obtain ⟨c1,c2,c3,c4,c5⟩:=hc;obtain ⟨h1,h2⟩:=agO h c3
   have ek:q.p.tk=p.tk:=by rw [h.1]
   have e1:BR p EU=0:=by
    unfold BR;rw [<-pw h,c1,AD Aa,AE (show EU.ek=1 from rfl)];unfold PK.Iq;omega
   have e2:B4 p EU=p.FQ:=xe
   have e3:CW p EU=p.HY:=aNh
   have e4:q.tick.p.ca.length=p.FQ.ca.length:=by rw [h1.1]
   obtain ⟨p',k1,k2⟩:=ih h1 hq;refine ⟨p',?_,k2⟩;simp only [D2]
   grind
  ·cases hq
def bC (n:Int):List Cd:=[(ByteArray.mk #[102],-1,n,32,(0,0),0,0,0,0,0)]
def bG:List Ch:=[(ByteArray.mk #[112],0,1,6,32,1,6,0)]
def bO:List ByteArray:=[ByteArray.mk #[111]]
def bA:Ca:=(0,1,20,1000000000,0)
def bD:Dm:=(true,0,500,1)
def bQ (tk:Int) (up:Bool) (ls:List Le) (ra:List Ra) (nx:Int) (st:List St) (ca:List Ca) (mi:List Mi) (me:List Me) (dm:List Dm) (lk:List Lk) (vl:List Le):QV:=
 ⟨⟨bC 32,bO,[],bG,[],tk,up,ls,0,[],ra,nx,st,ca,mi,me,dm,lk,[0],[32]⟩,vl,true⟩
def hqa:QV:=bQ 0 true [] [(0,0)] 1 [(0,0,0,false)] [(0,0,0,0,0)] [([],0,0)] [(1,0,false)] [(false,0,0,9)] [] []
def hqb:QV:=bQ 1 true [] [(0,1)] 1 [(0,0,0,false)] [(0,0,0,0,0)] [([],0,0)] [(1,0,false)] [(false,0,0,9)] [] []
def aib:E7 1 (hqa,0)=some (hqb,0):=Bt
def hqc:QV:=bQ 1 true [] [(0,1)] 1 [(4,0,0,false)] [(0,1,20,1000000000,0)] [([],0,0)] [(1,0,false)] [(true,0,500,1)] [] []
def hqd:QV:=bQ 2 true [] [(0,2)] 1 [(4,0,0,false)] [(0,1,20,1000000000,0)] [([6],1,13800)] [(1,13800,false)] [(true,0,500,1)] [] []
def aia:E7 1 (hqc,0)=some (hqd,6):=Bt
def aJm:QV:=bQ 8 true [(1,0,7,6,12),(2,0,8,7,12)] [(8,2)] 3 [(4,0,0,false)] [(0,1,20,1000000000,0)] [([6,6,6,6,6,6,6],7,96600)] [(1,96600,false)] [(true,0,500,1)] [(8,(1,0,7,6,12)),(11,(2,0,8,7,12))] [(1,0,7,6,12),(2,0,8,7,12)]
def auu:E7 6 (hqd,0)=some (aJm,6):=Bt
def aJl:QV:=bQ 14 true [(1,0,7,6,12),(2,0,8,7,12),(3,0,9,8,12),(4,0,10,9,12),(5,0,11,10,12),(6,0,12,11,12),(7,0,13,12,12),(8,0,14,13,12)] [(14,8)] 9 [(4,12,11,false)] [(0,1,20,1000000000,0)] [([6,6,6,6,6,6,6,7,9,11,8,10,12],13,227700)] [(1,227700,false)] [(true,0,500,1)] [(16,(7,0,13,12,12)),(14,(8,0,14,13,12))] [(1,0,7,6,12),(2,0,8,7,12),(3,0,9,8,12),(4,0,10,9,12),(5,0,11,10,12),(6,0,12,11,12),(7,0,13,12,12),(8,0,14,13,12)]
def aut:E7 6 (aJm,6)=some (aJl,12):=Bt
def aJk:QV:=bQ 20 true [(1,0,7,6,12),(2,0,8,7,12),(3,0,9,8,12),(4,0,10,9,12),(5,0,11,10,12),(6,0,12,11,12),(7,0,13,12,12),(8,0,14,13,12),(9,0,15,14,12),(10,0,16,15,12),(11,0,17,16,12),(12,0,18,17,12),(13,0,19,18,12),(14,0,20,19,12)] [(20,14)] 15 [(4,19,11,false)] [(0,1,20,1000000000,0)] [([6,6,6,6,6,6,6,7,9,11,8,10,12,14,16,13,15,17,19],19,443900)] [(1,443900,false)] [(true,0,500,1)] [(21,(12,0,18,17,12)),(22,(14,0,20,19,12))] [(1,0,7,6,12),(2,0,8,7,12),(3,0,9,8,12),(4,0,10,9,12),(5,0,11,10,12),(6,0,12,11,12),(7,0,13,12,12),(8,0,14,13,12),(9,0,15,14,12),(10,0,16,15,12),(11,0,17,16,12),(12,0,18,17,12),(13,0,19,18,12),(14,0,20,19,12)]
def aus:E7 6 (aJl,12)=some (aJk,19):=AZ
def aJj:QV:=bQ 26 true [(1,0,7,6,12),(2,0,8,7,12),(3,0,9,8,12),(4,0,10,9,12),(5,0,11,10,12),(6,0,12,11,12),(7,0,13,12,12),(8,0,14,13,12),(9,0,15,14,12),(10,0,16,15,12),(11,0,17,16,12),(12,0,18,17,12),(13,0,19,18,12),(14,0,20,19,12),(15,0,21,20,12),(16,0,22,21,12),(17,0,23,22,12),(18,0,24,23,12),(19,0,25,24,12),(20,0,26,25,12)] [(26,20)] 21 [(4,26,11,false)] [(0,1,20,1000000000,0)] [([6,6,6,7,9,11,8,10,12,14,16,13,15,17,19,21,18,20,22,24,26],25,715300)] [(1,715300,false)] [(true,0,500,1)] [(26,(17,0,23,22,12)),(27,(19,0,25,24,12))] [(1,0,7,6,12),(2,0,8,7,12),(3,0,9,8,12),(4,0,10,9,12),(5,0,11,10,12),(6,0,12,11,12),(7,0,13,12,12),(8,0,14,13,12),(9,0,15,14,12),(10,0,16,15,12),(11,0,17,16,12),(12,0,18,17,12),(13,0,19,18,12),(14,0,20,19,12),(15,0,21,20,12),(16,0,22,21,12),(17,0,23,22,12),(18,0,24,23,12),(19,0,25,24,12),(20,0,26,25,12)]
def aur:E7 6 (aJk,19)=some (aJj,20):=AZ
def aJi:QV:=bQ 32 true [(4,0,10,9,12),(5,0,11,10,12),(6,0,12,11,12),(7,0,13,12,12),(8,0,14,13,12),(9,0,15,14,12),(10,0,16,15,12),(11,0,17,16,12),(12,0,18,17,12),(13,0,19,18,12),(14,0,20,19,12),(15,0,21,20,12),(16,0,22,21,12),(17,0,23,22,12),(18,0,24,23,12),(19,0,25,24,12),(20,0,26,25,12),(21,0,27,26,12),(22,0,28,27,12),(23,0,29,28,12),(24,0,30,29,12),(25,0,31,30,12),(26,0,32,31,12)] [(32,26)] 27 [(4,28,11,false)] [(0,1,20,1000000000,0)] [([8,10,12,14,16,13,15,17,19,21,18,20,22,24,26,23,25,27,29,31,28],31,991300)] [(1,991300,false)] [(true,0,500,1)] [(32,(24,0,30,29,12)),(33,(26,0,32,31,12))] [(1,0,7,6,12),(2,0,8,7,12),(3,0,9,8,12),(4,0,10,9,12),(5,0,11,10,12),(6,0,12,11,12),(7,0,13,12,12),(8,0,14,13,12),(9,0,15,14,12),(10,0,16,15,12),(11,0,17,16,12),(12,0,18,17,12),(13,0,19,18,12),(14,0,20,19,12),(15,0,21,20,12),(16,0,22,21,12),(17,0,23,22,12),(18,0,24,23,12),(19,0,25,24,12),(20,0,26,25,12),(21,0,27,26,12),(22,0,28,27,12),(23,0,29,28,12),(24,0,30,29,12),(25,0,31,30,12),(26,0,32,31,12)]
def auq:E7 6 (aJj,20)=some (aJi,20):=AZ
def aJh:QV:=bQ 38 true [(10,0,16,15,12),(11,0,17,16,12),(12,0,18,17,12),(13,0,19,18,12),(14,0,20,19,12),(15,0,21,20,12),(16,0,22,21,12),(17,0,23,22,12),(18,0,24,23,12),(19,0,25,24,12),(20,0,26,25,12),(21,0,27,26,12),(22,0,28,27,12),(23,0,29,28,12),(24,0,30,29,12),(25,0,31,30,12),(26,0,32,31,12),(27,0,32,37,12)] [(32,32)] 28 [(4,32,7,false)] [(0,1,20,1000000000,0)] [([15,17,19,21,18,20,22,24,26,23,25,27,29,31,28,30,32,32,32,32,32],37,1267300)] [(1,1267300,false)] [(true,0,500,1)] [(41,(27,0,32,37,12))] [(1,0,7,6,12),(2,0,8,7,12),(3,0,9,8,12),(4,0,10,9,12),(5,0,11,10,12),(6,0,12,11,12),(7,0,13,12,12),(8,0,14,13,12),(9,0,15,14,12),(10,0,16,15,12),(11,0,17,16,12),(12,0,18,17,12),(13,0,19,18,12),(14,0,20,19,12),(15,0,21,20,12),(16,0,22,21,12),(17,0,23,22,12),(18,0,24,23,12),(19,0,25,24,12),(20,0,26,25,12),(21,0,27,26,12),(22,0,28,27,12),(23,0,29,28,12),(24,0,30,29,12),(25,0,31,30,12),(26,0,32,31,12),(27,0,32,37,12)]
def aup:E7 6 (aJi,20)=some (aJh,20):=AZ
def aJg:QV:=bQ 44 true [(16,0,22,21,12),(17,0,23,22,12),(18,0,24,23,12),(19,0,25,24,12),(20,0,26,25,12),(21,0,27,26,12),(22,0,28,27,12),(23,0,29,28,12),(24,0,30,29,12),(25,0,31,30,12),(26,0,32,31,12),(27,0,32,37,12),(28,0,32,43,12)] [(32,38)] 29 [(4,32,9,false)] [(0,1,20,1000000000,0)] [([22,24,26,23,25,27,29,31,28,30,32,32,32,32,32,32,32,32,32,32,32],43,1543300)] [(1,1543300,false)] [(true,0,500,1)] [(44,(28,0,32,43,12))] [(1,0,7,6,12),(2,0,8,7,12),(3,0,9,8,12),(4,0,10,9,12),(5,0,11,10,12),(6,0,12,11,12),(7,0,13,12,12),(8,0,14,13,12),(9,0,15,14,12),(10,0,16,15,12),(11,0,17,16,12),(12,0,18,17,12),(13,0,19,18,12),(14,0,20,19,12),(15,0,21,20,12),(16,0,22,21,12),(17,0,23,22,12),(18,0,24,23,12),(19,0,25,24,12),(20,0,26,25,12),(21,0,27,26,12),(22,0,28,27,12),(23,0,29,28,12),(24,0,30,29,12),(25,0,31,30,12),(26,0,32,31,12),(27,0,32,37,12),(28,0,32,43,12)]
def auo:E7 6 (aJh,20)=some (aJg,20):=AZ
def aJf:QV:=bQ 50 true [(22,0,28,27,12),(23,0,29,28,12),(24,0,30,29,12),(25,0,31,30,12),(26,0,32,31,12),(27,0,32,37,12),(28,0,32,43,12),(29,0,32,49,12)] [(32,44)] 30 [(4,32,6,false)] [(0,1,20,1000000000,0)] [([29,31,28,30,32,32,32,32,32,32,32,32,32,32,32,32,32,32,32,32,32],49,1819300)] [(1,1819300,false)] [(true,0,500,1)] [(52,(29,0,32,49,12))] [(1,0,7,6,12),(2,0,8,7,12),(3,0,9,8,12),(4,0,10,9,12),(5,0,11,10,12),(6,0,12,11,12),(7,0,13,12,12),(8,0,14,13,12),(9,0,15,14,12),(10,0,16,15,12),(11,0,17,16,12),(12,0,18,17,12),(13,0,19,18,12),(14,0,20,19,12),(15,0,21,20,12),(16,0,22,21,12),(17,0,23,22,12),(18,0,24,23,12),(19,0,25,24,12),(20,0,26,25,12),(21,0,27,26,12),(22,0,28,27,12),(23,0,29,28,12),(24,0,30,29,12),(25,0,31,30,12),(26,0,32,31,12),(27,0,32,37,12),(28,0,32,43,12),(29,0,32,49,12)]
def atZ:E7 6 (aJg,20)=some (aJf,20):=Bt
def aJe:QV:=bQ 56 true [(27,0,32,37,12),(28,0,32,43,12),(29,0,32,49,12),(30,0,32,55,12)] [(32,50)] 31 [(4,32,11,false)] [(0,1,20,1000000000,0)] [([32,32,32,32,32,32,32,32,32,32,32,32,32,32,32,32,32,32,32,32,32],55,2095300)] [(1,2095300,false)] [(true,0,500,1)] [] [(1,0,7,6,12),(2,0,8,7,12),(3,0,9,8,12),(4,0,10,9,12),(5,0,11,10,12),(6,0,12,11,12),(7,0,13,12,12),(8,0,14,13,12),(9,0,15,14,12),(10,0,16,15,12),(11,0,17,16,12),(12,0,18,17,12),(13,0,19,18,12),(14,0,20,19,12),(15,0,21,20,12),(16,0,22,21,12),(17,0,23,22,12),(18,0,24,23,12),(19,0,25,24,12),(20,0,26,25,12),(21,0,27,26,12),(22,0,28,27,12),(23,0,29,28,12),(24,0,30,29,12),(25,0,31,30,12),(26,0,32,31,12),(27,0,32,37,12),(28,0,32,43,12),(29,0,32,49,12),(30,0,32,55,12)]
def atY:E7 6 (aJf,20)=some (aJe,20):=Bt
def ala:QV:=bQ 62 true [(28,0,32,43,12),(29,0,32,49,12),(30,0,32,55,12),(31,0,32,61,12)] [(32,56)] 32 [(4,32,5,false)] [(0,1,20,1000000000,0)] [([32,32,32,32,32,32,32,32,32,32,32,32,32,32,32,32,32,32,32,32,32],61,2371300)] [(1,2371300,false)] [(true,0,500,1)] [(63,(31,0,32,61,12))] [(1,0,7,6,12),(2,0,8,7,12),(3,0,9,8,12),(4,0,10,9,12),(5,0,11,10,12),(6,0,12,11,12),(7,0,13,12,12),(8,0,14,13,12),(9,0,15,14,12),(10,0,16,15,12),(11,0,17,16,12),(12,0,18,17,12),(13,0,19,18,12),(14,0,20,19,12),(15,0,21,20,12),(16,0,22,21,12),(17,0,23,22,12),(18,0,24,23,12),(19,0,25,24,12),(20,0,26,25,12),(21,0,27,26,12),(22,0,28,27,12),(23,0,29,28,12),(24,0,30,29,12),(25,0,31,30,12),(26,0,32,31,12),(27,0,32,37,12),(28,0,32,43,12),(29,0,32,49,12),(30,0,32,55,12),(31,0,32,61,12)]
def atX:E7 6 (aJe,20)=some (ala,20):=Bt
def hqe:QV:=bQ 62 false [] [(32,56)] 32 [(4,32,5,false)] [(0,1,20,1000000000,0)] [([32,32,32,32,32,32,32,32,32,32,32,32,32,32,32,32,32,32,32,32,32],61,2371300)] [(1,2371300,false)] [(true,0,500,1)] [(63,(31,0,32,61,12))] [(1,0,7,6,12),(2,0,8,7,12),(3,0,9,8,12),(4,0,10,9,12),(5,0,11,10,12),(6,0,12,11,12),(7,0,13,12,12),(8,0,14,13,12),(9,0,15,14,12),(10,0,16,15,12),(11,0,17,16,12),(12,0,18,17,12),(13,0,19,18,12),(14,0,20,19,12),(15,0,21,20,12),(16,0,22,21,12),(17,0,23,22,12),(18,0,24,23,12),(19,0,25,24,12),(20,0,26,25,12),(21,0,27,26,12),(22,0,28,27,12),(23,0,29,28,12),(24,0,30,29,12),(25,0,31,30,12),(26,0,32,31,12),(27,0,32,37,12),(28,0,32,43,12),(29,0,32,49,12),(30,0,32,55,12),(31,0,32,61,12)]
def aJd:QV:=bQ 70 false [] [(32,56)] 32 [(4,32,5,false)] [(0,1,20,1000000000,0)] [([32,32,32,32,32,32,32,32,32,32,32,32,32,32,32,32,32,32,32,32,32],69,2739300)] [(1,2739300,false)] [(true,0,500,1)] [] [(1,0,7,6,12),(2,0,8,7,12),(3,0,9,8,12),(4,0,10,9,12),(5,0,11,10,12),(6,0,12,11,12),(7,0,13,12,12),(8,0,14,13,12),(9,0,15,14,12),(10,0,16,15,12),(11,0,17,16,12),(12,0,18,17,12),(13,0,19,18,12),(14,0,20,19,12),(15,0,21,20,12),(16,0,22,21,12),(17,0,23,22,12),(18,0,24,23,12),(19,0,25,24,12),(20,0,26,25,12),(21,0,27,26,12),(22,0,28,27,12),(23,0,29,28,12),(24,0,30,29,12),(25,0,31,30,12),(26,0,32,31,12),(27,0,32,37,12),(28,0,32,43,12),(29,0,32,49,12),(30,0,32,55,12),(31,0,32,61,12)]
def att:E7 8 (hqe,0)=some (aJd,20):=Bt
end Go.Proofs.YtgmhhjldohjpmaaGreatDoor
end
