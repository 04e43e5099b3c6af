/- Helpers for TopDoubledMessages:. Conditions: none. -/
import Derived.Test.YtepoohnehmfflaaGreatDoorRows
import Derived.WalkKit
import Derived.WalkSpells
import Derived.WalkLawsBesides
import Derived.Deep.QuietTactic
import Derived.BigQuiet
import Derived.Deep.RegionHeld3
import Derived.Deep.DrawnRows
import Derived.Deep.DeepCutAuto
import Derived.RangeFuncLeaves
import Derived.RangeFuncRecord
import Derived.OrdersIn
import Derived.LoopNIn
import Derived.Deep.Upon
import Derived.Laws.MakeOwn
import Derived.LoopN
import Derived.Test.YtepoohnehmfflaaGreatDoorProg
import Derived.Stop.Asserts
import Derived.Lib.IfaceEq
import Derived.RowKitTokens
import Derived.OpenShut
import Derived.ChangeShapes
import Derived.WideShapes
import Derived.Carry
import Derived.ChangeOld
import Derived.FnData
import Derived.Test.YtepoohnehmfflaaGreatDoorCards
import Derived.Test.YtepoohnehmfflaaGreatDoorTie
import Derived.ProofKit
import Derived.Deep.DeepHandedRow
import Derived.Lib.LaidTab
set_option linter.defProp false
set_option linter.unusedVariables false
set_option linter.unusedSimpArgs false
noncomputable section
open List renaming length→M,length→aa,replicate→au,range→av
open Bool renaming true→U,true→ae,false→X,false→af
open Go.Value renaming int→ah
open Option renaming some→ai,none→ak
open Go.IntKind renaming i64→J,i64→aj,u8→ax,u32→ay
open True renaming intro→an
open Decidable renaming decide→aq
open ByteArray renaming mk→aw
open Go.Region renaming ready→az,wanted→aA
open Go.Instr renaming findNow→aB
namespace Go
structure qT(α:Type)
instance{α:Type}:CoeSort (qT α) Type:=⟨λ_=>α⟩
def Y:qT Int:=⟨⟩
def aC:qT (List Int):=⟨⟩
def aD:qT (Nat):=⟨⟩
def aF:qT (List ByteArray):=⟨⟩
def aI:qT (List Nat):=⟨⟩
def aJ:qT (List (List Int)):=⟨⟩
def aK:qT (Array Oper):=⟨⟩
def aN:qT (Bool):=⟨⟩
def aP:qT (World):=⟨⟩
def aQ:qT (Program):=⟨⟩
def aT:qT (TypeId):=⟨⟩
def aU:qT (Oper):=⟨⟩
def aV:qT (List Value):=⟨⟩
def aW:qT (Value):=⟨⟩
def aX:qT (Array Bool):=⟨⟩
def aY:qT (Array Value):=⟨⟩
def bf:qT (Act):=⟨⟩
def bh:qT (FuncId):=⟨⟩
def bn:qT (Option Nat):=⟨⟩
def bp:qT (List Bool):=⟨⟩
def bu:qT (List TypeId):=⟨⟩
def bw:qT (List Oper):=⟨⟩
def bA:qT (ByteArray):=⟨⟩
def bB:qT (Option Tmp):=⟨⟩
def bC:qT (Code):=⟨⟩
def aVq:qT (Operand):=⟨⟩
def aVr:qT (List Deferred):=⟨⟩
def aVt:qT (List (Int×Int)):=⟨⟩
def aVu:qT (Array Operand):=⟨⟩
def aVv:qT (IntKind):=⟨⟩
def aVw:qT (Func):=⟨⟩
def aVy:qT (Option Value):=⟨⟩
def aVz:qT (List MemPlace):=⟨⟩
def aVA:qT (Array TypeId):=⟨⟩
def aVB:qT (Exit):=⟨⟩
def aVE:qT (Array (Nat×Value)):=⟨⟩
def aVF:qT (Array Tmp):=⟨⟩
def aVI:qT (List MapEntry):=⟨⟩
def aVJ:qT (Region.Mode):=⟨⟩
def aVL:qT (List (String×DataW Unit)):=⟨⟩
def aVM:qT (Option (Nat×Nat)):=⟨⟩
def aVO:qT (Result Next):=⟨⟩
def aVP:qT (List (Int×(List Int))):=⟨⟩
def aVQ:qT (String):=⟨⟩
def aVR:qT (List ResultVar):=⟨⟩
def aVT:qT (List Field):=⟨⟩
abbrev Aa:=@decide_eq_true_eq
abbrev AV:=@Bool.and_eq_true
abbrev AD:=@if_pos
abbrev Ah:=@Option.some.injEq
abbrev AE:=@if_neg
abbrev Cf:=@List.length_replicate
abbrev B8:=@List.length_append
abbrev DB:=@decide_eq_false_iff_not
abbrev Ay:=@Prod.mk.injEq
abbrev CV:=@beq_eq_false_iff_ne
abbrev Ar:=@Nat.le_refl
abbrev BH:=@List.all_eq_true
abbrev C5:=@List.length_set
abbrev BY:=@List.length_cons
abbrev B9:=@List.mem_cons
abbrev Bh:=@List.length_nil
abbrev C0:=@Int.toNat_natCast
abbrev DK:=@List.getD_eq_getElem?_getD
abbrev BZ:=@List.mem_append
abbrev CS:=@Int.toNat_of_nonneg
abbrev Cc:=@Bool.or_eq_true
abbrev Ct:=@of_decide_eq_true
abbrev Dg:=@List.getElem?_eq_getElem
abbrev Bx:=@List.not_mem_nil
abbrev HF:=@Bool.or_eq_false_iff
abbrev Cg:=@Go.run_underlying
abbrev DS:=@List.take_of_length_le
abbrev EF:=@List.getElem?_eq_some_iff
abbrev Co:=@List.append_assoc
abbrev Ei:=@List.drop_eq_nil_of_le
abbrev Dh:=@List.getElem?_map
abbrev Ce:=@List.mem_filter
abbrev CT:=@List.drop_zero
abbrev B0:=@congrArg
abbrev D6:=@Bool.not_eq_true'
abbrev Gc:=@List.getElem?_append_right
abbrev Cb:=@decide_eq_true
abbrev Cy:=@beq_iff_eq
abbrev Hl:=@List.getElem?_append_left
abbrev Ho:=@Array.getElem?_eq_some_iff
abbrev IN:=@Int.tdiv_eq_ediv_of_nonneg
abbrev FL:=@List.length_drop
abbrev D5:=@Bool.false_or
abbrev FM:=@List.getElem?_drop
abbrev EE:=@Option.some.inj
abbrev EG:=@List.nil_append
abbrev Fk:=@List.getElem_mem
abbrev Ej:=@List.take_length
abbrev HJ:=@List.mem_singleton
abbrev MG:=@Int.mul_le_mul_of_nonneg_right
abbrev Hr:=@List.mem_iff_getElem
abbrev Cz:=@Int.le_refl
abbrev Hs:=@Bool.false_eq_true
abbrev GH:=@List.length_map
abbrev By:=@or_false
abbrev ER:=@List.map_cons
abbrev ES:=@Bool.true_and
abbrev EH:=@bne_iff_ne
abbrev F4:=@List.mem_map
abbrev Bo:=@if_true
abbrev IQ:=@Bool.not_eq_false'
abbrev IS:=@Bool.eq_false_iff
abbrev F5:=@Nat.zero_add
abbrev Ge:=@List.append_nil
abbrev IT:=@List.getElem?_set
abbrev Jo:=@List.map_congr_left
abbrev MH:=@List.length_eq_zero_iff
abbrev MI:=@Go.World.putObj_heap_other
abbrev KM:=@of_decide_eq_false
abbrev Ht:=@List.cons.injEq
abbrev Iw:=@Bool.eq_iff_iff
abbrev IP:=@decide_eq_false
abbrev QH:=@Int.mul_le_mul_of_nonneg_left
abbrev ME:=@List.length_take
abbrev HG:=@List.map_map
abbrev Hp:=@Nat.add_assoc
abbrev Jn:=@Option.map_some
abbrev LQ:=@List.getElem?_take
abbrev OX:=@List.mem_or_eq_of_mem_set
abbrev xY:=@Array.toArray_toList
abbrev Zd:=@Function.comp_def
abbrev QI:=@Int.fdiv_eq_ediv_of_nonneg
abbrev QJ:=@Array.getElem?_eq_getElem
abbrev QK:=@Int.not_le
abbrev N6:=@Array.toList_map
abbrev KJ:=@List.cons_append
abbrev MF:=@ge_iff_le
abbrev Iu:=@List.mem_range
abbrev N7:=@Nat.mul_le_mul_right
abbrev GG:=@Nat.add_mul
abbrev N8:=@List.mem_cons_of_mem
abbrev Iv:=@Int.mul_nonneg
abbrev HI:=@Int.le_trans
abbrev Dw:=@true_and
abbrev Hq:=@Nat.le_trans
abbrev KK:=@List.map_append
abbrev KL:=@List.foldl_cons
abbrev LP:=@List.filter_cons
abbrev QF:=@Int.eq_ofNat_of_zero_le
abbrev It:=@List.all_cons
abbrev OV:=@List.mem_of_getElem?
abbrev Ez:=@Go.mem_ready
abbrev SY:=@List.drop_eq_getElem_cons
abbrev OW:=@List.length_pos_iff
abbrev QG:=@List.mem_of_mem_erase
abbrev Zc:=@List.take_succ_eq_append_getElem
abbrev FN:=@if_false
abbrev QN:=@List.mem_of_mem_drop
abbrev MJ:=@List.nodup_cons
abbrev OZ:=@Option.bind_some
abbrev Sc:=@List.getElem?_eq_none
abbrev Oa:=@beq_self_eq_true
abbrev Ob:=@List.any_eq_true
abbrev V9:=@List.getElem?_replicate
abbrev LR:=@List.map_nil
abbrev Sd:=@Bool.not_eq_false
abbrev mS:=@Int.tmod_eq_emod_of_nonneg
abbrev Se:=@Bool.or_eq_true_iff
abbrev Zm:=@Option.isNone_iff_eq_none
abbrev Zn:=@List.getElem?_toArray
abbrev VA:=@List.length_filter_le
abbrev mT:=@List.eq_nil_iff_forall_not_mem
abbrev Sf:=@List.mem_filterMap
abbrev Sg:=@List.mem_replicate
abbrev Sh:=@Int.natCast_nonneg
abbrev Zo:=@Option.isSome_iff_exists
abbrev VB:=@List.erase_cons_tail
abbrev VC:=@List.mem_of_mem_take
abbrev Sj:=@List.length_range
abbrev mU:=@Array.getD_eq_getD_getElem?
abbrev VD:=@Int.ediv_le_self
abbrev QO:=@Bool.false_and
abbrev Zp:=@List.contains_iff_mem
abbrev xa:=@Bool.and_eq_false_iff
abbrev mI:=@List.isEmpty_eq_false_iff
abbrev mJ:=@List.pairwise_iff_getElem
abbrev mK:=@Decidable.byContradiction
abbrev mL:=@List.getLastD_eq_getLast?
abbrev SZ:=@List.range_succ
abbrev Sa:=@Int.ediv_nonneg
abbrev N9:=@Nat.zero_le
abbrev mM:=@Go.Result.andThen_ok
abbrev Zh:=@List.getElem?_set_ne
abbrev OY:=@Bool.or_true
abbrev QL:=@Int.sub_zero
abbrev V7:=@Decidable.not_not
abbrev xb:=@List.replicate_append_replicate
abbrev Zi:=@List.replicate_succ
abbrev mN:=@List.getElem?_cons_succ
abbrev Sb:=@Bool.and_false
abbrev QM:=@Nat.lt_or_ge
abbrev Zj:=@Nat.lt_of_lt_of_le
abbrev Zk:=@List.filter_append
abbrev mO:=@Int.mul_ediv_add_emod
abbrev mP:=@List.set_append_right
abbrev xc:=@Array.getElem?_append_left
abbrev V8:=@Bool.and_assoc
abbrev mQ:=@List.replicate_succ'
abbrev Zl:=@List.isEmpty_iff
abbrev aoZ:=@Array.mem_append
abbrev Ze:=@List.ext_getElem
abbrev Zf:=@Nat.lt_succ_self
abbrev xZ:=@Array.mapM_eq_mapM_toList
abbrev mE:=@Array.getElem?_push
abbrev mF:=@Array.toList_append
abbrev aLy:=@List.getElem?_take_of_lt
abbrev Zg:=@Go.Oper.apart_spec
abbrev mG:=@List.pairwise_cons
abbrev mH:=@List.length_modify
abbrev ml:=@List.getElem_range
abbrev xr:=@Classical.axiomOfChoice
abbrev Sm:=@Nat.one_mul
abbrev xt:=@Nat.add_sub_cancel_left
abbrev VF:=@Go.callsIn_wide
abbrev VG:=@Nat.ne_of_lt
abbrev xu:=@Array.getElem?_eq_none
abbrev mm:=@Go.Sem.run_bind
abbrev xv:=@List.Perm.append_right
abbrev mq:=@List.flatMap_cons
abbrev xw:=@List.singleton_append
abbrev xx:=@Go.run_typeAssert_lacksB
abbrev xy:=@Int.mul_tdiv_add_tmod
abbrev mr:=@Option.getD_some
abbrev mv:=@List.nodup_range
abbrev Zv:=@List.any_cons
abbrev Od:=@and_true
abbrev aM1:=@List.eq_nil_of_length_eq_zero
abbrev VH:=@List.map_id
abbrev aM2:=@List.drop_append_of_le_length
abbrev mw:=@List.foldr_cons
abbrev aM3:=@List.replicate_eq_append_iff
abbrev xz:=@Array.length_toList
abbrev y6:=@List.getElem?_range
abbrev y7:=@List.filter_sublist
abbrev y8:=@Nat.add_comm
abbrev Zr:=@Nat.add_zero
abbrev xf:=@Go.Sem.run_pure
abbrev VE:=@Nat.not_lt
abbrev xg:=@Int.emod_lt_of_pos
abbrev Oc:=@Ne.symm
abbrev Zs:=@Go.getD_set_ne
abbrev xh:=@Go.run_storeCells_at
abbrev xi:=@List.nodup_append
abbrev xj:=@List.filter_congr
abbrev xk:=@List.Pairwise.map
abbrev xm:=@List.reverse_perm
abbrev Zt:=@Int.one_mul
abbrev mX:=@Bool.and_true
abbrev aoa:=@List.mem_toArray
abbrev xn:=@List.getElem_map
abbrev xo:=@Int.ediv_le_ediv
abbrev mY:=@Nat.le_of_eq
abbrev mZ:=@Nat.zero_mul
abbrev mf:=@Go.execOp_congr
abbrev aM0:=@Int.not_lt
abbrev mg:=@List.any_nil
abbrev mh:=@Nat.sub_self
abbrev xp:=@Array.size_push
abbrev mj:=@Int.add_mul
abbrev Sl:=@eq_comm
variable {p:Prop}
def Zu(h:p:=by
 have c1:s.i<s.n:=AY
 rw [AJ (x:=s.i+1)];exact ⟨⟨AZ,AZ,h2,h3,hg,(by first|exact l1|(simp only [C5];exact l1)),l2,(by first|exact l3|(simp only [C5];exact l3)),(by first|exact l4|(simp only [C5];exact l4)),(by first|exact l5|(simp only [C5];exact l5))⟩,by simp only [dM];omega⟩):=h
def Zq(h:p:=by
 intro s hI;refine ⟨λc1=>⟨?_,?_,?_,an⟩,λc1=>⟨A9,an⟩⟩
 all_goals ((obtain ⟨h0,h1,h2,h3,h4⟩:=hI;(try simp only [Aa] at c1);first|omega|(refine ⟨A0,?_,?_⟩<;>simp only [BY,Bh]<;>omega) |(simp only [B8,BY,Bh];omega) |exact ⟨rfl,AI⟩ |exact ⟨rfl,rfl⟩))):=h
def aLz(h:p:=by
 have c1:s.k<s.m:=AY
 have c2:=Qs hI c2
 have hp:s.levels.getD (gi s.l s.k).toNat 0=s.level-1/\s.level<=Fb s.B6 (gi s.l s.k) (gi s.most<|gi s.l s.k):=by
  refine ⟨c2,?_⟩
  have h6:=hI.2.2.1
  simp only [DB] at c3;rw [<-h6] at c3;unfold Fb;omega
 have hE:=WS hI c1 c2
 rcases dc _ hE with ⟨q1,q2⟩ |⟨q1,q2,q3⟩
 ·rw [q1] at c4
  cases c4
 ·rw [q2] at c5
  cases c5):=h
def LU(h:p:=by
 by_cases hji:(j:Y)<s.i
 ·exact h4 j hji
 ·have:(j:Y)=s.i:=A8
  rw [this];exact hg):=h
def KN(h:p:=by
 rintro s ⟨h0,h1,h2,h3⟩
 exact ⟨A0,A0,h2,h3,λj hj=>A0⟩):=h
def xd(h:p:=by
 refine ⟨rfl,?_⟩;refine adW (by rw [IU];exact h4) λj j0 j1=>?_
 rw [IU] at j1;rw [NO j0 j1,h5 j j0 A0,AD (show j<s.i by omega)]):=h
def xe(h:p:=by
 refine ⟨hW.mask d1 d2 d3,λb hb=>?_⟩
 rcases hb with hb|⟨k,bk,hk1,hk2,hk3,rfl⟩
 ·exact d1.block b (hW.Bc b hb)<|hW.pY hb
 ·have hkt:k∉tr:=by simpa using hk3
  rw [aDO] at hk1;cases hH:H2[k]? with
  |none=>simp [hH] at hk1
  |some b0=>
   simp only [hH,Jn,Ah,F5] at hk1;rw [AE<|by simpa using hkt] at hk1
   subst hk1;exact d1.block _ (hW.lt hH hk2)<|hW.adb hH hk2 hkt):=h
def Sk(h:p:=by
 intro s hI;refine ⟨λc1=>⟨?_,λ_=>trivial,λ_=>trivial⟩,λ_=>trivial⟩
 ·(obtain ⟨h0,h1,h2,h3,h4⟩:=hI;simp at c1;omega)):=h
def mV(h:p:=by
 have hG':(GN (EX H d) l).all (λ_=>True):=aOa
 clear hG
 simp only [C4,R,okV,owns] at*;obtain ⟨ys,h1,h2⟩:=h;exact ⟨ys,h1,TI h2 hk hS λx y hm hx hk' hr=>Mc hW clo d x y (Oo hG' _ hm) hx hk' hr⟩):=h
def QP(h:p:=by
 have c:=EH.1 c
 show LN _=_
 rw [(pH (by rw [s1];exact c)).1,(pH (by rw [s1];exact c)).2,s1]
 rfl):=h
def mW(h:p:=by
 simp only [Cy,CV,ne_eq,Cc,HF,Aa,DB,MF,QK] at*;refine fin _ _ ?_ ?_<;>(clear fin w0 w3a w3b w4a w4b;omega)):=h
def aMQ(h:p:=by
 have hrun:(execOp a.eval o).run P w=.ok .skip w':=KO
 rw [hrun,<-h2];refine ⟨Z,β,e2,?_,?_,an,A0,λ_ _=>rfl,λk k1 k2=>A0,by simp only [P0,Ec,ho];exact e6⟩
 ·rw [e3];exact hF.mono (Ar _) (λ_ _=>rfl) (λ_ h=>h) e4
 ·simp only [R]):=h
def Zx(h:p:=by exact .inl ⟨rfl,λj hj=>h4 j A0⟩):=h
def So(h:p:=by
 rintro s ⟨h0,h2,h3,h4,h5,h6⟩
 exact ⟨A0,h2,h3,h4,λj j0 j1=>A8,h6⟩):=h
def yF(h:p:=by
 intro s hI;refine ⟨λc1=>⟨?_,?_,?_,?_,an⟩,λc1=>⟨A9,an⟩⟩
 all_goals ((obtain ⟨⟨h0,h1⟩,h2,h3,h4,h5,h6⟩:=hI;(try simp only [Aa] at c1);first|omega|exact ⟨rfl,AI⟩ |(omega)))):=h
def nC(h:p:=by
 by_cases e:j=s.i
 ·subst e
  rw [AD rfl,AD (show s.i<s.i+1 by omega)]
  rfl
 ·rw [AE e,h5 j j0 j1]
  by_cases q:j<s.i
  ·omega
  ·omega):=h
def yG(h:p:=by
 have e1:=λw=>run_sizeOf hsz w
 have e2:=λw=>pN hz w
 have n1:¬(len*m>2^24):=A0
 have n2:¬(len*m=0):=A0
 simp only [Instr.buildSlice,mm,Cg hu,mM,e1,AE n1,AE n2,e2,xf,f1,newRow];rfl):=h
def aMR(h:p:=by
 have hrun:(execOp a.eval o).run P w=.ok (.value<|.map<|ai w.heap.size) (w.alloc<|.map #[] 0):=by simp [execOp,ho,Instr.makeMap]
 rw [hrun,<-h1,<-h2];refine ⟨Z,β',b3,hF.mono AI b1 (λ_ h=>h) λb hz=>EI b4<|hW.Bc b hz,?_,?_,AI,b1,λk k1 k2=>?_,NJ b4⟩
 ·simp only [R,b2]
 ·simp [okV]
 ·have:k=M H:=by simp at k2;omega
  rw [this,b2];exact .inl<|Ar _):=h
def nD(h:p:=by
 simp only [Cy,CV,ne_eq,Cc,HF,Aa,DB,MF,QK] at*;refine fin _ _ ?_ ?_<;>(clear fin w1a w1b w1c w3a w3b w4a w4b;omega)):=h
def aMS(h:p:=by
 simp only [Cy,CV,ne_eq,Cc,HF,Aa,DB,MF,QK] at*;refine fin _ _ ?_ ?_<;>(clear fin w0 w1a w1b w1c w4a w4b;omega)):=h
def aMT(h:p:=by
 simp only [Cy,CV,ne_eq,Cc,HF,Aa,DB,MF,QK] at*;refine fin _ _ ?_ ?_<;>(clear fin w0 w1a w1b w1c w3a w3b;omega)):=h
def NB(h:p:=by obtain ⟨h1,h2⟩:=same h;exact gen h1 h2):=h
def VJ(h:p:=by
 simp only [renV,R] at*;rw [(h.at<|ho k Iy).1];exact hr):=h
def Sp(h:p:=by exact ⟨False,.junk,GL,λH K=>by simp [T.all]⟩):=h
def Zy(h:p:=by
 split at h
 ·simp only [T.all,Ay] at h
  rw [<-h.2];exact EvL.app _ _
 ·cases h):=h
def nF(h:p:=by
 simp only [renV,R,owns,okV] at*;obtain ⟨ys,h1,h2⟩:=hr;exact ⟨ys,h1,ren_RL h l _ ho hok h2⟩):=h
def yH(h:p:=by
 intro s hI;refine ⟨λc1=>⟨?_,?_,λ_=>trivial,λ_=>trivial⟩,λ_=>trivial⟩
 all_goals ((obtain ⟨h0,h1,h2,h3,h4⟩:=hI;simp at c1;omega))):=h
def Sq(h:p:=by
 have c1:s.n<=s.i:=A8
 exact ⟨rfl,A0⟩):=h
def Zz(h:p:=by exact val h2 (v:=z) KO e2 e3):=h
def bF(h:p:=by
 rintro s ⟨h0,h1,h2,h3⟩
 exact ⟨A0,A0,h1,h2,A0⟩):=h
def nG(h:p:=by
 simp only [R,okV] at*;obtain ⟨ys,h1,h2⟩:=h;exact ⟨ys,h1,RL.mono hβ hZ hw l _ hk h2⟩):=h
def aMU(h:p:=by
 split at h
 ·simp only [owns,HJ] at hk
  split at h
  ·rename_i hb
   split at h
   ·grind
   ·cases h
  ·cases h
 ·simp [owns] at hk
 ·simp only [owns,HJ] at hk
  subst hk;split at h
  ·rename_i hb;exact ⟨⟨_,hb,hr.1⟩,.inr ⟨_,_,_,rfl⟩⟩
  ·cases h
 ·cases h):=h
def aMV(h:p:=by
 unfold Tk
 (rw [AJ,h5] at c2;unfold koV;revert c2;generalize inB (OO s.l s.i).2.1 _ _=a;generalize inB (OO s.l s.i).2.2.1 _ _=b;generalize inB (OO s.l s.i).2.2.2 _ _=c;generalize List.contains (α:=Int) _ _=d;cases a<;>cases b<;>cases c<;>cases d<;>simp)):=h
def yI(h:p:=by
 split at h
 ·split at h
  ·rename_i hg
   rw [AD hg];rw [T.all_bind] at h|-;exact T.BR (λq hq=>hh _ _ hq) h
  ·cases h
 ·cases h):=h
def bG(h:p:=by
 rename_i ho;rcases h with h|h
 ·simp [En,ho] at h
 ·simp [HP,ho] at h):=h
def bH(h:p:=by
 rename_i ho;rcases h with h|h
 ·simp [Ky,ho] at h
 ·simp [HP,ho] at h):=h
def nH(h:p:=by
 refine ⟨c2,?_⟩
 have h6:=hI.2.2.1
 simp only [DB] at c3;rw [<-h6] at c3;unfold Fb;omega):=h
def aMC(h:p:=by
 have hh':w'.heap[r]? =ai (.map es clock):=aPG
 have hget:(getObj r).run P w'=.ok (.map es clock) w':=nW
 have hz0:=λw=>pN hz w
 simp [Instr.lookup,Cg hu,hy,hget,pJ hku,Instr.findKey,Cg hku,hzq,q1,hz0]):=h
def my(h:p:=by
 simp only [R,owns,okV] at*;obtain ⟨ys,h1,h2⟩:=h;exact ⟨ys,h1,RL.Kz l _ hj hk h2⟩):=h
def aMD(h:p:=by
 rw [hrun,<-h1,<-h2];refine ⟨Z,β',b3,hF.mono AI b1 (λ_ h=>h) b4,?_,?_,AI,b1,λk k1 k2=>?_,NJ<|(Below.refl _ _).alloc (Ar _) _⟩
 ·simp only [R,b2]
 ·simp [okV]
 ·have:k=M H:=by simp at k2;omega
  rw [this,b2];exact .inl<|Ar _):=h
def aME(h:p:=by
 have:=e1 w' λb hb=>(hD w' hw').2 b (by
  rcases hb with hb|⟨k,e4,e5⟩
  ·exact .inl hb
  ·obtain ⟨bk,l1,l2⟩:=hlv k e4
   refine .inr ⟨k,bk,l1,l2,?_,e5⟩;unfold tR at hap;simp only [ho,e4] at hap
   simpa using hap)
 simp [execOp,ho,this]):=h
def mz(h:p:=by rw [FO<|hl x F6]):=h
def Zw(h:p:=by
 rintro s ⟨h0,h1,h2,h3⟩
 exact ⟨A0,A0,h1,h2,h3⟩):=h
def aMF(h:p:=by
 rw [show (s.i+1).toNat=s.i.toNat+1 by omega,Dz,<-h5]
 have e1:s.o.getD s.i.toNat (Ty.dflt Ae)=Ad s.o (s.i.toNat:Y):=by
  rw [DK,Dg A0];rw [show Ad s.o (s.i.toNat:Y)=s.o[s.i.toNat]' A0 from Qv A0];rfl
 rw [e1];rfl):=h
def NA(h:p:=by rename_i ho;simp [isSp,ho] at hsp):=h
def Sn(h:p:=by
 have c1:s.n<=s.i:=AY
 exact Zx):=h
def yA(h:p:=by
 have:=ae7 (P:=P) (G:=G) (Γ:=λ_=>ak) (F:=F) (y:=y) h
 unfold pux at this;unfold hpx;simp only [ho] at this|-;exact this):=h
def aMG(h:p:=by
 obtain ⟨_,⟨h2,h3,h4,h5⟩,_⟩:=hI
 have c2:((s.levels.getD (gi s.l s.k).toNat 0) !=(AA<|s.level-1))=true:=c2
 rw [AJ (x:=s.level-1)] at c2
 have c2:¬s.levels.getD (gi s.l s.k).toNat 0=s.level-1:=ET
 exact c2 h.1):=h
def yB(h:p:=by
 have:=Uq (β:=β) (Z:=Z) (w:=w)<|(av<|len*m).map λi=>z.cells[i%z.cells.size]!
 simpa [HG,Zd] using this):=h
def nB(h:p:=by
 simp only [R] at*;obtain ⟨ys,h1,h2⟩:=hh;exact ⟨ys,h1,RL.shut h o' l _ h2⟩):=h
def aMH(h:p:=by
 simp only [R];refine ⟨_,rfl,?_⟩;simp only [N6];refine RL.CW AI λi x hx=>?_
 rw [Dh] at hx|-;cases hq:first.toList[i]? with
 |none=>simp [hq] at hx
 |some q=>simp [hq] at hx;subst hx;exact ⟨a.eval q,AI,(ev q).1⟩):=h
def aMI(h:p:=by
 have hh':w'.heap[r]? =ai (.map es clock):=aPG
 have hget:(getObj r).run P w'=.ok (.map es clock) w':=nW
 simp [Instr.lookup,Cg hu,hy,hget,pJ hku,Instr.findKey,Cg hku,hzq,q1]):=h
def aMJ(h:p:=by
 simp only [R];refine ⟨_,rfl,?_⟩;simp only [N6];refine RL.CW AI λi x hx=>?_
 rw [Dh] at hx|-;cases hq:cap.toList[i]? with
 |none=>simp [hq] at hx
 |some q=>simp [hq] at hx;subst hx;exact ⟨a.eval q,AI,(ev q).1⟩):=h
def aMK(h:p:=by
 rw [AD (show Fc (Be s.p.ca s.i) (CE s.p.mi s.i) (AG s.p.gs s.i).2.2.1 (Bj (AG s.p.gs s.i)<|BL s.p.st s.i)>Bj (AG s.p.gs s.i) (BL s.p.st s.i) from Ct c5)];rw [show CU s.p.gs s.p.st s.i 6 2 0=_ from AD<|eq_of_beq c6];rfl):=h
def aML(h:p:=by
 rw [AD (show Fc (Be s.p.ca s.i) (CE s.p.mi s.i) (AG s.p.gs s.i).2.2.1 (Bj (AG s.p.gs s.i)<|BL s.p.st s.i)>Bj (AG s.p.gs s.i) (BL s.p.st s.i) from Ct c5)];rw [show CU s.p.gs s.p.st s.i 6 2 0=_ from AE<|CV.1 c6];rfl):=h
def Oe(h:p:=by exact Jr us F H Z β F1 H1 hW hF h):=h
def yC(h:p:=by
 simp only [Br] at hx;cases j with
 |zero=>simp at hx;subst hx;exact ⟨_,h,Jp⟩
 |succ j=>simp at hx):=h
def aMM(h:p:=by
 rename_i f l hl;simp only [T.all,Ay] at h;rw [hl] at hx
 have hx1:=hx.1
 simp only [R] at hx1;obtain ⟨ys,e1,_⟩:=hx1;refine val h.2.symm (v:=a.eval x) KO ?_ ?_<;>rw [<-h.1]
 ·exact hx.1
 ·exact hx.2):=h
def aMN(h:p:=by
 rename_i f l hl;simp only [T.all,Ay] at h;rw [hl] at hx
 have hx1:=hx.1
 simp only [R] at hx1;obtain ⟨ys,e1,_⟩:=hx1;refine val (v:=a.eval x) (λw' _=>KO) ?_ ?_<;>rw [<-h.1]
 ·exact hx.1
 ·exact hx.2):=h
def aMO(h:p:=by
 obtain ⟨a,cap,h1,h2,h3⟩:=h;refine ⟨a,cap,by rw [<-h1];exact hb 0 cC,h2,λhn=>?_⟩
 obtain ⟨b',o',h4,h5,h6⟩:=h3 hn;exact ⟨b',o',h4,hZ _ h5,λi d hd=>RD.mono hZ hw e d b' _ h5<|h6 i d hd⟩):=h
def yD(h:p:=by
 obtain ⟨_,⟨cs,f2,f3⟩,_⟩:=ru hW hb hcl;refine ⟨cs,f2,?_⟩
 have:=RL.length f3
 simpa using this):=h
def aMP(h:p:=by
 rename_i t m i x ho;obtain ⟨H1,h1,h2⟩:=T.B4 h;simp only [T.all,Ay] at h2;obtain ⟨h2,h3⟩:=h2;subst h3;obtain ⟨w',e1,e2,e3,e4,e6⟩:=aeC hW h1 (ev m).1 (ev i).1 (ev x).1 (ev x).2;exact aMQ):=h
def yE(h:p:=by
 show MD _ _ _=MD _ _ _
 rw [Iw];unfold MD;simp only [Cy,CV,ne_eq] at*;simp only [AV,Cc,Aa];omega):=h
def aM4(h:p:=by
 rw [hrun];refine ⟨Z,β',e4,hF.mono A0 e3 (λ_ h=>h) λb hz=>EI e2<|hW.Bc b hz,e5,e6,A0,e3,λk k1 k2=>?_,NJ e2⟩
 have:k=M H:=A0
 rw [this,e8];exact .inl<|Ar _):=h
def aM5(h:p:=by
 refine RL.CW AI λi x hx=>?_
 rw [N6,Dh];cases hq:args.toList[i]? with
 |none=>simp [hq] at hx
 |some q=>simp [hq] at hx;subst hx;exact ⟨a.eval q,AI,P4 (hF.eval hW.Ci q).1⟩):=h
def aM6(h:p:=by
 simp only [T.all,Ay] at h;rw [hl] at hx
 have hx1:=hx.1
 simp only [R] at hx1;refine val h.2.symm (v:=a.eval x) (by simp [execOp,ho,hx1]) ?_ ?_<;>rw [<-h.1]
 ·exact hx.1
 ·exact hx.2):=h
def QQ(h:p:=by
 simp [Bk,BA,DI,hv,EW.ev,h]
 grind):=h
def aM7(h:p:=by
 simp only [T.all,Ay] at h;rw [hl] at hx
 have hx1:=hx.1
 simp only [R] at hx1;refine val (v:=a.eval x) (λw' _=>by simp [execOp,ho,hx1]) ?_ ?_<;>rw [<-h.1]
 ·exact hx.1
 ·exact hx.2):=h
def aM8(h:p:=by
 (try simp only [T.all] at hu)
 (try simp only [T.all])
 rw [step _ _ _ _ _ hy g2,e1,e2];refine ⟨h.1,T.BR (λq hq=>?_) hu⟩
 (try simp only at hq)
 (try simp only)
 rw [Lb a2];exact hq):=h
def y9(h:p:=by
 rw [hg] at hq;simp only [Hs,FN] at hq;rw [hq];exact .inr ⟨rfl,rfl,rfl,rfl,rfl,rfl,rfl⟩):=h
def aM9(h:p:=by
 intro s hI;refine ⟨λc1=>⟨?_,λc2=>⟨A9,an⟩,λc2=>⟨A9,an⟩⟩,λc1=>⟨A9,an⟩⟩
 ·(obtain ⟨h0,h1,h2,h3⟩:=hI;simp only [Aa] at c1;omega)):=h
def aMA(h:p:=by
 refine AT.CW λi x hx=>?_
 rw [Dh] at hx;cases hq:(vs.map (·.2))[i]? with
 |none=>simp [hq] at hx
 |some q=>simp [hq] at hx;subst hx;exact Qf H hH 6 _<|AT.get i q hoka hq):=h
def aMB(h:p:=by
 rw [J7 h0 A0 j0,afm h0 A0 j0]
 by_cases e:j=s.i
 ·subst e
  rw [AD rfl,AD rfl,hx',hy'];exact ⟨rfl,rfl⟩
 ·rw [AE e,AE e]
  exact hA j j0 A0):=h
def aMv(h:p:=by
 rw [AE (show ¬Fc (Be s.p.ca s.i) (CE s.p.mi s.i) (AG s.p.gs s.i).2.2.1 (Bj (AG s.p.gs s.i)<|BL s.p.st s.i)>Bj (AG s.p.gs s.i) (BL s.p.st s.i) from KM c5)];rfl):=h
def nL(h:p:=by
 rintro s ⟨h0,h1,h2⟩
 exact ⟨A0,A0,h1,h2⟩):=h
def aMw(h:p:=by
 have c1:s.i<s.k:=AY
 refine .inr ⟨rfl,rfl,s.i.toNat,AZ,?_⟩
 have hg:Wk s s.i=false:=aP7
 exact hg):=h
def aMx(h:p:=by (have hx:=Qu s hI AY;obtain ⟨w1,w2⟩:=ic hI<|Qs hI c2;have hh:=IX.1<|hI.2.2.2.1.has _ hx.1;have hb:=hI.2.1;(first|rw [w2] |rw [w1]);omega)):=h
def bI(h:p:=by
 rw [q3,hn,hl,Ei A0,hE.1] at hk
 grind):=h
def aMy(h:p:=by
 simp only [okV];refine AT.CW λi x hx=>?_
 rw [Dh] at hx;cases hq:first.toList[i]? with
 |none=>simp [hq] at hx
 |some q=>simp [hq] at hx;subst hx;exact (ev q).2):=h
def aMz(h:p:=by
 refine ⟨hc.rw,?_,hc.near,hc.len,hc.old,hc.new,hc.KE⟩;exact hF1'.mono (Ar _) (λ_ _=>rfl) (λ_ h=>h) λb hz=>hc.near.block b (hW.Bc b hz)<|hW.pY hz):=h
def aN0(h:p:=by
 simp only [okV];refine AT.CW λi x hx=>?_
 rw [Dh] at hx;cases hq:cap.toList[i]? with
 |none=>simp [hq] at hx
 |some q=>simp [hq] at hx;subst hx;exact (ev q).2):=h
def aN1(h:p:=by
 split at h
 ·split at h
  ·split at h
   ·simp only at h
    split at h
    ·rename_i hb;exact ⟨_,hb,an⟩
    ·cases h
   ·cases h
  ·cases h
 ·cases h):=h
def nM(h:p:=by exact val (v:=z) (λw' _=>KO) e2 e3):=h
def aN2(h:p:=by
 have c1:s.t11<3:=AY
 rw [AJ (x:=s.t11+1)];exact ⟨⟨ht,⟨AZ,AZ⟩,h1,h2⟩,by simp only [gE];omega⟩):=h
def aN3(h:p:=by
 rename_i x ho;simp only [T.all,Ay] at h;refine val h.2.symm (v:=a.eval x) (by simp [execOp,ho]) ?_ ?_<;>rw [<-h.1]
 ·exact (ev x).1
 ·exact (ev x).2):=h
def aN4(h:p:=by
 intro s hI;refine ⟨λc1=>⟨?_,λ_=>trivial,λ_=>trivial⟩,λ_=>trivial⟩
 ·(obtain ⟨⟨h0,h1⟩,h2,h3,h4⟩:=hI;simp only [Aa] at c1;omega)):=h
def aN5(h:p:=by
 rename_i x ho;simp only [T.all,Ay] at h;refine val (v:=a.eval x) (λw' _=>by simp [execOp,ho]) ?_ ?_<;>rw [<-h.1]
 ·exact (ev x).1
 ·exact (ev x).2):=h
def bJ(h:p:=by
 show (w.heap.push _)[w.heap.size]? =_
 simp):=h
def Dx(h:p:=by simp only [R]):=h
def aN6(h:p:=by
 refine AT.CW λi x hx=>?_
 cases hq:args.toList[i]? with
 |none=>simp [hq] at hx
 |some q=>simp [hq] at hx;subst hx;exact TH (hF.eval hW.Ci q).2):=h
def yP(h:p:=by
 simp only [Ty.n] at hj
 have:j=0:=A0
 subst this;exact ⟨_,h,rfl⟩):=h
def aN7(h:p:=by
 unfold R2;split
 ·rename_i op t x z _ ho
  simp only [e x F6,e z F6]
 ·rfl):=h
def yQ(h:p:=by
 unfold MD;simp only [Cy,CV,ne_eq] at*;simp only [xa,HF,DB];omega):=h
def aN8(h:p:=by
 refine .inr ⟨q1,q2,?_⟩;rw [IS];intro hx
 have:=(Ql (d:=(0:Y))).2 hx j A0
 exact Bool.noConfusion<|this.symm.trans q4):=h
def aN9(h:p:=by rw [aeB<|FO<|hl q.2 aNx]):=h
def bK(h:p:=by
 have c1:s.k<=s.i:=A8
 exact xd):=h
def aNA(h:p:=by
 rw [e8.block k A0 λhm=>?_]
 ·exact hc.near.block k hk hn
 ·rcases hc.touch hst hm with h|h
  ·omega
  ·exact hn h):=h
def yR(h:p:=by rw [c];show (M p.lk:Y)<=M p.lk+16*(p.tk-p.tk);omega):=h
def nN(h:p:=by
 have c1:s.m<=s.i:=AY
 exact Zx):=h
def nJ(h:p:=by (have hx:=Qu s hI AY;omega)):=h
def yK(h:p:=by
 obtain ⟨y,zs,rfl,rfl,_⟩:=h;simp only [RD];exact hc 0 _ rfl):=h
def aMd(h:p:=by
 rename_i t m i x ho;unfold Ax at h;simp only [ho] at h;obtain ⟨H1,h1,h2⟩:=T.B4 h;obtain ⟨_,rfl⟩:=h2;exact afj h1):=h
def aMe(h:p:=by
 have:(j:Y)=s.i:=nV
 rw [this];exact hg):=h
def yL(h:p:=by
 rw [q1,q2,P1 j q3 q4];exact ⟨λ_=>rfl,λc=>EU⟩):=h
def aMf(h:p:=by
 have:Cj (r::rs) (x-i)=Cj rs (x-(i+1)):=by
  unfold Cj;rw [show (x-i).toNat=(x-(i+1)).toNat+1 by omega]
  simp
 grind):=h
def aMg(h:p:=by
 split
 ·rename_i cs _
  exact ⟨True,.own k 0,⟨cs,t,.cl,X⟩,λH K=>aPP⟩
 ·exact Sp):=h
def aMh(h:p:=by
 go_enter func216,Tryz.ntmps216
 go_wp2
 refine wp_loop_rounds 1 ?_;rw [rounds_succ]
 go_wp2
 go_ret
 exact ⟨rfl,rfl⟩):=h
def yM(h:p:=by simp only [Ah] at hx;subst hx;simp only [R] at h1;rw [h1]):=h
def aMi(h:p:=by
 have c1:s.i<s.n:=A8
 rw [AJ (x:=s.i+1)];exact ⟨⟨A8,A8,h2,h3⟩,by simp only [wh];omega⟩):=h
def aMj(h:p:=by
 simp only [Cy,CV,ne_eq,Cc,HF,Aa,DB,MF,QK] at*
 (first|decide|(clear fin w0 w1a w1b w1c w4a w4b;omega))):=h
def aMk(h:p:=by
 split
 ·exact ⟨go _<|dI h hdd _,pass _<|dI h hdd _⟩
 ·exact ⟨pass _<|dI h hdd _,go _<|dI h hdd _⟩):=h
def aMl(h:p:=by
 rename_i x ho;unfold Ax at hs;simp only [ho,T.all,Ay] at hs;exact other _ hs.1.symm hs.2.symm λj hj=>Sy hj):=h
def aMm(h:p:=by
 split at hx
 ·obtain ⟨rfl,_,hx⟩:=hx;exact ⟨_,_,hx⟩
 ·obtain ⟨_,ad,hx,_⟩:=hx;exact ⟨_,_,hx⟩):=h
def nK(h:p:=by rw [c] at f g x|-;exact ⟨f,g,x,h.kp⟩):=h
def aMn(h:p:=by
 split at hx
 ·rename_i hk;subst hk;simp only [Ah] at hx;subst hx;simp only [R] at h1;rw [h1]
 ·cases hx):=h
def aMo(h:p:=by exact qm s _ hI AY aPC rfl rfl rfl rfl rfl rfl rfl rfl rfl rfl):=h
def aMp(h:p:=by exact ql s _ hI AY aPC rfl rfl rfl rfl rfl rfl rfl rfl rfl rfl):=h
def aMq(h:p:=by
 split
 ·rename_i zs hz
  simp only [R]
  have:=aQO hz h
  rw [<-this]
 ·simp only [R];exact ⟨ys,rfl,aFu h⟩):=h
def aMr(h:p:=by
 refine (afk _ A6).2.trans ?_;rw [h7]
 show FE _ 0 _ ((M s.p.AK.tg:Y)-0).toNat=_
 rw [QL,C0,aos];rfl):=h
def aMs(h:p:=by
 refine AH (λc5=>?_) λc5=>?_
 ·refine AH (λc6=>?_) (λc6=>?_)
  ·exact Zu
  ·exact Zu
 ·exact Zu):=h
def NC(h:p:=by exact gen<|same h):=h
def aMt(h:p:=by
 rename_i x ho;refine ⟨True,AM G F x,ak,λH K=>?_⟩
 unfold IB Ax;rw [h1,h2]
 simp [ho,T.all,putAt]):=h
def yN(h:p:=by
 rw [AE e,h5 j j0 j1]
 by_cases q:j<s.i
 ·omega
 ·omega):=h
def yO(h:p:=by
 rintro s ⟨h0,h2⟩
 exact ⟨A0,A0,h2⟩):=h
def aMu(h:p:=by
 rintro s ⟨h0,h1,h2,h3,h4⟩
 exact ⟨A0,A0,h2,h3,h4,GI,λj hj=>A0⟩):=h
def aMW(h:p:=by
 have:=Tg n<|(av<|len*m).map λi=>z.cells[i%z.cells.size]!
 simpa [HG,Zd] using this):=h
def aMX(h:p:=by
 rw [KP];exact hF.mono (Ar _) (λ_ _=>rfl) (λ_ h=> .inl<|.inl h) λb hz=>EI hbw<|hW.Bc b hz):=h
def yJ(h:p:=by
 simp only [AV,Cy] at hcalm
 simpa using hcalm.1.1.2):=h
def aMY(h:p:=by
 unfold IE;split
 ·rename_i hc
  split
  ·rw [J7 h.1 h.2 hj]
   split
   ·grind
   ·omega
  ·omega
 ·omega):=h
def aMZ(h:p:=by exact ⟨⟨AZ,AZ,h2,h3,h4,h5,h6⟩,by simp only [gD];omega⟩):=h
def aMa(h:p:=by
 simp only [C4];exact R.mono (n:=M H) (λ_ _=>rfl) (λ_ h=> .inl h) (λ_ _=>rfl) _ _ hk h):=h
def aMb(h:p:=by
 obtain ⟨_,_,h6,_⟩:=hI;simp only [Aa] at c3;rw [<-h6] at c3
 have:=h.2
 unfold Fb at this;omega):=h
def nI(h:p:=by exact .inr<|.inr<|.inr<|.inr rfl):=h
def VL(h:p:=by exact ⟨rfl,A0⟩):=h
def aMc(h:p:=by
 rintro s ⟨ht,h0,h1,h2,h3⟩
 exact ⟨ht,⟨A0,A0⟩,h1,A8,A8⟩):=h
def nP(h:p:=by
 unfold hpx;simp only [ho];exact mz):=h
def aNd(h:p:=by
 rw [IN A0,show (M fl:Y) / 2=((M fl / 2:aD):Y) by omega]
 exact AJ):=h
def aNe(h:p:=by
 have h1:(0:Y)<=(x:Y)/\(x:Y)<=(y:Y):=A0
 simp [Instr.sliceBound,asIntOf,h1]):=h
def Sr(h:p:=by
 simp only [ho];rw [e]):=h
def aNf(h:p:=by
 rename_i x ho;unfold Ax;simp only [ho];rw [FO<|hl x F6];rfl):=h
def aNg(h:p:=by exact R.mono (n:=0) (λ_ hk=>absurd hk A0) (λ_ h=>h) (λ_ _=>rfl) _ _ hk hr):=h
def aNh(h:p:=by
 subst h;exact EvL.set hb ⟨λhc=>ym,λ_ _ _=>trivial,λh=>h⟩):=h
def aNi(h:p:=by
 have c1:s.n<=s.i:=AY
 exact .inl ⟨rfl,λj hj=>h6 j A0⟩):=h
def yY(h:p:=by
 rintro s ⟨h0,h1⟩
 exact ⟨A0,h1⟩):=h
def aNj(h:p:=by
 rcases hz with hz|⟨k,bk,_,h2,h3,rfl⟩
 ·exact hW.Bc b hz
 ·exact hW.lt h2 h3):=h
def aNk(h:p:=by
 simp only [canX,R] at h|-;obtain ⟨ys,h1,h2⟩:=h;exact ⟨ys,h1,canL_R h2⟩):=h
def aNl(h:p:=by
 rw [hj.Ut,hj.cl]
 have:apF 512 fl (B2 x)=false:=NF
 rw [this];rfl):=h
def QR(h:p:=by simpa using this):=h
def yZ(h:p:=by exact ⟨Z2,β2,c1,c2,by rw [c3];simp⟩):=h
def aNm(h:p:=by
 rw [KP];exact hF.mono (Ar _) (λ_ _=>rfl) (λ_ h=> .inl h) λ_ _=>rfl):=h
def aNn(h:p:=by exact main _ es clock _ _ hr g1 g2 g3 hl b2.2 h<|.inr ⟨k,rfl,rfl⟩):=h
def aNo(h:p:=by
 (try simp only [T.all] at hv)
 (try simp only [T.all])
 rw [Lb a2];exact hv):=h
def aNp(h:p:=by
 simp only [R,Value.func.injEq,Fn.yield.injEq] at this;exact this.1.symm):=h
def ND(h:p:=by
 unfold mx;omega):=h
def aNq(h:p:=by
 split
 ·omega
 ·have:=qh (x:=a-mi) (st:=st) A0 A0
  omega):=h
def aNr(h:p:=by exact EvL.set hb ⟨λhc=>ym,λ_ _ h=>h,λh=>h⟩):=h
def aNs(h:p:=by
 unfold G4 chW at this;simp only [AV,BO] at this;exact IX.2 A0):=h
def ya(h:p:=by exact ⟨A0,A0,h2,h3,h4⟩):=h
def aNt(h:p:=by
 rw [AD q2,Hl DC,Gc DC]
 congr 1
 simp
 omega):=h
def aNu(h:p:=by
 have:=IX.1 h
 have:=qh (x:=ma-mi) (st:=st) A0 A0
 omega):=h
def aNv(h:p:=by
 obtain ⟨h1,h2⟩:=pj b fs (k+1) i h;refine ⟨A0,?_⟩
 grind):=h
def yT(h:p:=by rw [<-h];exact WE<|by simpa using f2):=h
def nO(h:p:=by
 split at h
 ·grind
 ·cases h):=h
def aNK(h:p:=by
 split at h
 ·rename_i hkk
  simp only [R,okV] at hr hk
  grind
 ·cases h):=h
def aNL(h:p:=by
 rcases q2 with e2|e2<;>rw [e2] at hy
 ·exact hy
 ·exact aFv.subset hy):=h
def aNM(h:p:=by
 rw [AD q1];simp only [Zn,Co];rw [Hl DC,aLy q1]
 simp):=h
def aNN(h:p:=by
 rintro s ⟨h0,h1,h2⟩
 exact ⟨A0,nk,h2⟩):=h
def aNO(h:p:=by
 obtain ⟨j,⟨h0,h1⟩,rfl⟩:=aEw ha
 have:=gL<|h.ch h0 h1
 omega):=h
def yU(h:p:=by
 have e1:=e1 w λ_ _=>rfl
 exact Zz):=h
def aNP(h:p:=by
 rw [hv] at s2;rw [ada hg hd s2,AE AI];exact passOk F hF h):=h
def aNQ(h:p:=by
 have:fs.toList[M fpre]? =ai f:=by rw [e1];simp
 exact QR):=h
def aNR(h:p:=by (obtain ⟨h0,h1,h2,h3,h4⟩:=hI;simp only [Aa] at c1;omega)):=h
def aNS(h:p:=by
 rintro s ⟨h0,h2,h3,h4,h5⟩
 exact ⟨A0,h2,h3,h4,h5⟩):=h
def aNT(h:p:=by
 have:es=[]:=GI
 subst this;exact .inr ⟨rfl,h.symm⟩):=h
def aNU(h:p:=by exact ext q g n.toNat A0 hle A0 hr hk h.symm):=h
def aNV(h:p:=by
 obtain ⟨x,h1,h2⟩:=T.B4 h;simp only [T.all,Ay] at h2
 grind):=h
def yV(h:p:=by rw [hl];simpa only [okV] using hk):=h
def aNW(h:p:=by exact val (v:=z) (λw' _=>aPO) f2 f3):=h
def bL(h:p:=by
 split
 ·grind
 ·grind):=h
def yW(h:p:=by
 split at h
 ·cases h;rfl
 ·cases h):=h
def aNX(h:p:=by
 rintro s ⟨h0,h2,h3⟩
 exact ⟨A0,A0,h2,h3⟩):=h
def aNY(h:p:=by
 have:=h.2
 unfold Jb at this;split at this
 ·assumption
 ·omega):=h
def aNZ(h:p:=by
 have:es=[]:=GI
 subst this;exact .inr ⟨rfl,rfl⟩):=h
def yX(h:p:=by rename_i hc;exact absurd hc hcap):=h
def aNa(h:p:=by
 have hG':=hG
 simp only [GX,EX,hb,T.all] at hG';exact hG'.1):=h
def aNb(h:p:=by
 simp only [T.all,Ay] at h;rw [<-h.2.2];exact EvL.app _ _):=h
def aNc(h:p:=by exact ⟨sf hI AY<|Qs hI c2,rfl,rfl⟩):=h
def aNB(h:p:=by
 unfold hpx;simp only [ho];rw [pW (λcs b e=>A8) h]):=h
def aNC(h:p:=by
 rintro s ⟨h0,h2,h3,h4⟩
 exact ⟨A0,h2,h3,h4⟩):=h
def aND(h:p:=by
 unfold aA;simp only [yielded,hd,OZ,hv]
 grind):=h
def aNE(h:p:=by rename_i x ho;rw [e x F6]):=h
def aNF(h:p:=by rw [AE hs];exact ⟨λh=>h.elim,λh=>absurd h.1 hs⟩):=h
def aNG(h:p:=by
 unfold PK.isC at hh;simp only [ne_eq,Sd,BO] at hh;omega):=h
def aNH(h:p:=by exact val h2 (v:=z) aPO f2 f3):=h
def aNI(h:p:=by
 refine AH (λc6=>?_) λc6=>?_
 ·exact aLz
 ·exact aLz):=h
def aNJ(h:p:=by
 rw [LQ] at hv;split at hv
 ·exact hc j v hv
 ·cases hv):=h
def yS(h:p:=by exact .inr ⟨i',.inl h1,h2⟩):=h
def aO3(h:p:=by
 simp [IntKind.wrap,IntKind.bits,IntKind.signed]
 omega):=h
def aO4(h:p:=by
 rcases mem_set hm with hm|rfl
 ·exact h.mi m hm
 ·simp):=h
def aO5(h:p:=by
 refine ⟨λc7=>?_,λc7=>?_⟩
 ·exact mW
 ·exact mW):=h
def aO6(h:p:=by
 refine ⟨λc7=>?_,λc7=>?_⟩
 ·exact aMS
 ·exact aMS):=h
def aO7(h:p:=by
 refine ⟨λc8=>?_,λc8=>?_⟩
 ·exact aMT
 ·exact aMT):=h
def aO8(h:p:=by exact T.BR (λz hz=>by simp only [T.all];rw [hz]) h):=h
def yc(h:p:=by
 obtain ⟨h1,h2⟩:=ae6 h
 grind):=h
def aO9(h:p:=by
 refine AH (λc6=>?_) λc6=>?_
 ·cases c5
 ·cases c5):=h
def aOA(h:p:=by
 rw [B8]
 show s.n+1-((M s.Cu+1:aD):Y)=_
 omega):=h
def yd(h:p:=by
 rw [bad he Ac,he];rfl):=h
def aOB(h:p:=by
 by_cases hji:(j:Y)<s.i
 ·exact h6 j hji
 ·exact aMe):=h
def A0(h:p:=by omega):=h
def A8(h:p:=by grind):=h
def Di(h:p:=by first|omega|exact ⟨rfl,rfl⟩ |exact ⟨rfl,by simp⟩ |exact ⟨by simp,by simp⟩ |(rw [Cf];omega)):=h
def AZ(h:p:=by simp only;omega):=h
def AY(h:p:=by simpa using c1):=h
def AI(h:p:=by simp):=h
def AX(h:p:=by kernel_rfl):=h
def aOC(h:p:=by unfold Tp;(obtain ⟨e0,e1,e2,e3,e4⟩:=h3;have hb:=e3 (gi s.l s.i).toNat;have c2:=c2;rw [AJ (x:=s.sums.getD (gi s.l s.i).toNat (Ty.dflt A7)+s.more) (by show _<=s.sums.getD (gi s.l s.i).toNat 0+s.more;omega) (by show s.sums.getD (gi s.l s.i).toNat 0+s.more<=_;omega)] at c2;unfold L0;first|(have c3:(!(aq<|s.sums.getD (gi s.l s.i).toNat 0+s.more<=(Cj s.BI<|gi s.l s.i).1))=true:=c2;simpa using c3) |(have c3:(!(aq<|s.sums.getD (gi s.l s.i).toNat 0+s.more<=(Cj s.BI<|gi s.l s.i).1))=false:=c2;simpa using c3))):=h
def MK(h:p:=by first|omega|exact ⟨rfl,rfl⟩ |exact ⟨rfl,by simp⟩ |(rw [Cf];omega)):=h
def Ac(h:p:=by decide):=h
def nU(h:p:=by first|omega|exact ⟨rfl,rfl⟩ |exact ⟨rfl,by rw [C0];first|exact l1.symm|exact l2.symm|exact l3.symm⟩ |exact ⟨rfl,by simp⟩ |exact ⟨by simp,by simp⟩ |(rw [Cf];omega)):=h
def As(h:p:=by cases h):=h
def F6(h:p:=by rw [ho];simp [Op.operands]):=h
def aOD(h:p:=by unfold ON;(simp only [show aq (s.i<1)=X from IP<|by omega,D5];(simp only [chB,chA];revert c2;generalize JW s.text s.i=b;intro c2;by_cases h1:b>=97<;>by_cases h2:b<=122<;>by_cases h3:b>=48<;>by_cases h4:b<=57<;>simp_all))):=h
def VR(h:p:=by simp [execOp,ho,resolve,invoke,builtin,Builtin.len_,ha,ht,Cg hu,e1,goInt]):=h
def VN(h:p:=by simp only [renV,okV];have:=(aDQ 0<|ho k<|by simp [owns]).2.2;omega):=h
def aNy(h:p:=by unfold Ti;(first|(have c2:(!(inB (OU s.l s.i).2 0<|AA<|(M s.BQ:Y)-1))=false:=c2;simpa using c2) |(have c2:(!(inB (OU s.l s.i).2 0<|AA<|(M s.BQ:Y)-1))=true:=c2;simpa using c2))):=h
def bP(h:p:=by rw [ho];simp only [Op.operands,Call.operands,aoZ];exact .inr<|by grind):=h
def aNz(h:p:=by unfold Tj;(first|(have c2:(!(G4 (M s.BF) (M s.Bf)<|AG s.l s.i))=false:=c2;simpa using c2) |(have c2:(!(G4 (M s.BF) (M s.Bf)<|AG s.l s.i))=true:=c2;simpa using c2))):=h
def ET(h:p:=by simpa using c2):=h
def VO(h:p:=by simp only [RD] at*;rw [<-h];exact hb 0<|by simp [Ty.n]):=h
def DC(h:p:=by simp;omega):=h
def Iy(h:p:=by simp [owns]):=h
def bQ(h:p:=by simp only [C4,okV] at*;exact aDY h λx hx=>Qf H hH d x hx):=h
def bR(h:p:=by unfold Fv;rw [hw D (hW.Cr D hD).1];exact (hW.Cr D hD).2):=h
def aO0(h:p:=by unfold Tl;(first|(have c2:(!(IC s.i<|Ad s.l s.i))=false:=c2;simpa using c2) |(have c2:(!(IC s.i<|Ad s.l s.i))=true:=c2;simpa using c2))):=h
def Su(h:p:=by have:=hW.lt hj lj;simp only at e;omega):=h
def aO1(h:p:=by unfold To;(first|(have c2:(!(I5<|gi s.l s.i))=false:=c2;simpa using c2) |(have c2:(!(I5<|gi s.l s.i))=true:=c2;simpa using c2))):=h
def bS(h:p:=by simp only [renV,okV,owns] at*;exact ren_okL l ho hk):=h
def VQ(h:p:=by simp [aB,Instr.sameNow,hk.1,hb]):=h
def KO(h:p:=by simp [execOp,ho,e1]):=h
def bT(h:p:=by simp only [okV,noOwn] at*;exact noOwnL_ok l h hk):=h
def bU(h:p:=by simp only [owns,okV] at*;exact okL_owns l hk j h):=h
def bW(h:p:=by simp only [owns,okV] at*;exact okL_lower l hk h):=h
def Of(h:p:=by rw [w7] at c3;exact Ct c3):=h
def azz(h:p:=by rw [C0];first|exact l1.symm|exact l2.symm|exact l3.symm):=h
def nT(h:p:=by simp [execOp,ho,e1,e2,eqGuard,binOp,Op.shift,aM0.2 h0]):=h
def QS(h:p:=by rw [<-xY (xs:=args),hargs]):=h
def QT(h:p:=by unfold PK.isC;simpa using c):=h
def bX(h:p:=by simp only [R,okV] at*;rw [hβ k hk];exact h):=h
def aO2(h:p:=by show _<=s.sums.getD (gi s.l s.i).toNat 0+s.more;omega):=h
def aNw(h:p:=by show s.sums.getD (gi s.l s.i).toNat 0+s.more<=_;omega):=h
def nQ(h:p:=by simp only [R] at*;rw [hj k<|by simp [owns]];exact h):=h
def Ss(h:p:=by simp only [aDN,aDM,aDL];exact h3):=h
def bM(h:p:=by have:=hW.Bc _ hz;simp only at this;omega):=h
def VM(h:p:=by simp [owns] at h;subst h;exact hk):=h
def nR(h:p:=by simp [execOp,ho,e1,e2,eqGuard,binOp,Op.intDiv,h0]):=h
def Ix(h:p:=by simpa using c):=h
def aNx(h:p:=by rw [ho];simp only [Op.operands];first|exact F4.2 ⟨q,hq,rfl⟩ |(simp;exact ⟨q.1,by grind⟩)):=h
def Jp(h:p:=by simp only [R]):=h
def yb(h:p:=by rw [ho];simp only [Op.operands,aoa,F4];exact ⟨q,hq,rfl⟩):=h
def EU(h:p:=by cases c):=h
def bZ(h:p:=by unfold HT;simp only [ME,FL];omega):=h
def aOU(h:p:=by simp only [R,b2];exact ⟨by omega,⟨w.heap.size,0,ak⟩,by simp,λ_=>by simp⟩):=h
def GI(h:p:=by simp_all):=h
def nh(h:p:=by simp only [okV] at*;exact AT.mono h l hk):=h
def QU(h:p:=by simp only [aDU];omega):=h
def ML(h:p:=by rw [he];decide):=h
def aOV(h:p:=by unfold Tn;(obtain ⟨_,g1,g2⟩:=h3;rw [AJ (x:=s.n-1)] at c2;simpa using c2)):=h
def VW(h:p:=by simp only [okV] at*;omega):=h
def NF(h:p:=by simpa using c3):=h
def cA(h:p:=by show M p.gs<=1000;omega):=h
def VX(h:p:=by simpa only [R] using hh):=h
def ni(h:p:=by simp only [B8,GH,BY,Bh];omega):=h
def cB(h:p:=by rw [<-e1,<-e2];exact hc.rf):=h
def aOW(h:p:=by unfold L1;cases e1:B1 l<;>cases e2:inB t 0 1100000<;>simp_all):=h
def cC(h:p:=by simp [Ty.n]):=h
def nj(h:p:=by unfold Ax;simp only [ho,hm,ht]):=h
def VY(h:p:=by rw [AV,BO,BO];omega):=h
def yk(h:p:=by show (M s.p.AK.gs:Y)<=1000;omega):=h
def aOX(h:p:=by simp [execOp,ho,e1,e2,Instr.index,asIntOf,Cg hu,h0,JW,hg]):=h
def cD(h:p:=by simp [aA,hg]):=h
def VZ(h:p:=by simp [World.setRow]):=h
def aOY(h:p:=by have:=hb j;(try simp only []);split<;>(try split)<;>omega):=h
def yl(h:p:=by simp only [RD] at*;rw [QY hb];exact h):=h
def MM(h:p:=by simp [okV]):=h
def aOZ(h:p:=by show ((M (MS<|Lg d t).out:aD):Y)<20;omega):=h
def aOI(h:p:=by simp only [IF,T.lv,Keeps];exact ⟨h.1,h.2,an⟩):=h
def aOJ(h:p:=by unfold LO;rw [wa];simp only [Dn];rw [CS h0,<-hb];rfl):=h
def bY(h:p:=by rw [<-e2];exact hc.rw):=h
def yh(h:p:=by simp only [RD] at*;exact pI h o' hh):=h
def nW(h:p:=by simp [getObj,Sem.run,hh']):=h
def aOK(h:p:=by unfold leB;rw [wa];simp only [Ew];rw [CS h0,<-hb]):=h
def LW(h:p:=by cases hb):=h
def VT(h:p:=by simp [owns] at h):=h
def aOL(h:p:=by have:=hf 0;simp at this;simp [List.getD,<-this]):=h
def aOM(h:p:=by simp [IntKind.wrap,IntKind.bits,IntKind.signed]):=h
def nX(h:p:=by simp only [R];rw [hv,e]):=h
def aON(h:p:=by simp only [R] at*;rw [h,hj k<|by simp [owns]]):=h
def nY(h:p:=by simpa only [DP] using h):=h
def nZ(h:p:=by simpa only [GU] using h):=h
def aOO(h:p:=by unfold Uu;(simp only [inB];simp at c2|-;omega)):=h
def aOP(h:p:=by have:=hf<|j+1;simpa [Hp,y8 1 j] using this):=h
def aOQ(h:p:=by have:=ho<|j+1;simpa [Hp,y8 1 j] using this):=h
def aOR(h:p:=by unfold AB.owns;rw [hbk];exact BZ.2<|.inr hj):=h
def yi(h:p:=by rw [qf<|by omega];exact Fk _):=h
def aOS(h:p:=by simp [Array.getD,show 0<1+vals.size by omega]):=h
def VU(h:p:=by simp at c;omega):=h
def aOT(h:p:=by unfold Tq;(simp only [Aa,DB] at c2|-;omega)):=h
def na(h:p:=by simp only [Ty.n];omega):=h
def nf(h:p:=by simpa [NV,ho] using ht):=h
def ng(h:p:=by rw [hv.Es];exact Ar _):=h
def yj(h:p:=by simp only [Act.eval];exact hv):=h
def aOE(h:p:=by unfold G3;rw [AD hp,AE (by rw [q3];simp)]):=h
def Sv(h:p:=by simp [BD,hb]):=h
def nV(h:p:=by simp only at hj;omega):=h
def VS(h:p:=by rw [c2];decide):=h
def ye(h:p:=by show ((0:aD):Y)<=0;decide):=h
def aOF(h:p:=by rw [IN<|by omega];exact VD _<|by omega):=h
def yf(h:p:=by simpa using BH.1 htr0 k hk):=h
def yg(h:p:=by rw [Dh,Dg<|by omega];rfl):=h
def aOG(h:p:=by rw [ho];simp [Op.operands,Call.operands]):=h
def aOH(h:p:=by simp only [Hc];rw [AE λhh=>by omega]):=h
def NG(h:p:=by cases hk):=h
def aOu(h:p:=by show p.AK.tk+1=_;rw [(IV p).2.2.2.2.2.1]):=h
def aOv(h:p:=by unfold lpC;rw [C0];exact pn<|by omega):=h
def aOw(h:p:=by unfold leC;rw [C0];exact pn<|by omega):=h
def aOx(h:p:=by simp [execOp,ho,Instr.makeFunc,hfirst]):=h
def aOy(h:p:=by simp only [R] at hr|-;rw [Qg];exact hr):=h
def aOz(h:p:=by unfold G3;rw [AD hp,AD q2,<-r1,<-w1]):=h
def nr(h:p:=by rw [W2.2 hv];decide):=h
def cG(h:p:=by simp [Gy,h1,h2]):=h
def aP0(h:p:=by rw [cell_of_block hc];simpa using h1):=h
def aP1(h:p:=by simp [execOp,ho,e1,Instr.extract,e6]):=h
def aP2(h:p:=by simp [execOp,ho,Instr.makeFunc,hcap]):=h
def yu(h:p:=by simp [aA,hgd]):=h
def aP3(h:p:=by rw [aFx];exact λx hx=>h x<|by grind):=h
def Vc(h:p:=by rw [<-e];rfl):=h
def nt(h:p:=by have:=Ct c1;omega):=h
def nz(h:p:=by rw [h5];exact NP _):=h
def aP4(h:p:=by show (M s.p.tg:Y)<=1000;omega):=h
def aP5(h:p:=by unfold Ib at hz;simpa [hi] using hz):=h
def cH(h:p:=by simpa using he):=h
def aP6(h:p:=by have:=RL.length hr;simpa using this):=h
def cI(h:p:=by rw [c1];decide):=h
def yv(h:p:=by rw [<-hops];exact hcalm):=h
def yw(h:p:=by unfold GO;rw [AD hc.1]):=h
def o5(h:p:=by simp [noOwn] at h):=h
def aP7(h:p:=by unfold Wk;(unfold raC CY;simp_all)):=h
def aOg(h:p:=by rcases hc with e|e<;>rw [e]<;>simp):=h
def aOh(h:p:=by unfold Th;(try simp only []);omega):=h
def aOi(h:p:=by unfold Tm;(unfold tmB;rw [c2];rfl)):=h
def aOj(h:p:=by simp [stepG,stepG.exec,Frame.atR]):=h
def cE(h:p:=by rw [Gq];omega):=h
def cF(h:p:=by rw [h4];omega):=h
def np(h:p:=by simp at c3;omega):=h
def aOk(h:p:=by show (M gs:Y)<=1000;omega):=h
def aOl(h:p:=by show (M cs:Y)<=1000;omega):=h
def aOm(h:p:=by unfold Aw;(repeat' split)<;>simp):=h
def aOn(h:p:=by show (M ds:Y)<=5000;omega):=h
def aOo(h:p:=by rw [AE<|by decide] at hu;omega):=h
def Og(h:p:=by cases e):=h
def aOp(h:p:=by show [(se,_)]=[(se,fl)];rw [z2]):=h
def aOq(h:p:=by simpa only [GX,EX,hb] using hG):=h
def Vb(h:p:=by simp [Zd]):=h
def aOr(h:p:=by have:=okV_owns _ r3 k hk;omega):=h
def aOs(h:p:=by rw [Ig<|by omega];exact Fk _):=h
def yo(h:p:=by simp only [qo];omega):=h
def yp(h:p:=by simp only [eX];omega):=h
def aOt(h:p:=by rw [aFw];exact hc y<|by grind):=h
def yq(h:p:=by simpa [Vy] using ht):=h
def yr(h:p:=by simp [List.getD,hj]):=h
def yt(h:p:=by rw [KT];exact Ar _):=h
def nq(h:p:=by simpa using hl):=h
def Sw(h:p:=by cases hx):=h
def nk(h:p:=by rw [h0,h1];rfl):=h
def aOa(h:p:=by simpa only [GX,EX] using hG):=h
def aOb(h:p:=by simp [setObj,Sem.run,w',g1]):=h
def ym(h:p:=by simp [AB.E0] at hc):=h
def Va(h:p:=by simp [ho]):=h
def aOc(h:p:=by rw [hls];exact (Ho.1 ho).1):=h
def aOd(h:p:=by intro x hx;simp at hx;omega):=h
def aOe(h:p:=by rw [CS h0,FD,NO h0 hm,hx']):=h
def yn(h:p:=by rw [he];assumption):=h
def aOf(h:p:=by rw [EH.2 h] at c1;cases c1):=h
def aPQ(h:p:=by simp only [DB] at c1;omega):=h
def aPR(h:p:=by rw [hsz];exact hW.Bc b' hz):=h
def aPS(h:p:=by simpa using (hW.gh p hp).2):=h
def aPT(h:p:=by simp [execOp,ho,e1,asBool]):=h
def aPU(h:p:=by simp only [R] at*;exact h3):=h
def aPV(h:p:=by unfold D1.a Fc;rw [AD hB]):=h
def zQ(h:p:=by cases x<;>exact h):=h
def zR(h:p:=by simp only [Bb,g2]):=h
def cK(h:p:=by simp at hl):=h
def aPW(h:p:=by simpa only [okV] using hk):=h
def aPX(h:p:=by simp only [DN,T.all] at h):=h
def aPY(h:p:=by simp only [C5];exact h10):=h
def zS(h:p:=by simp only [C4,R]):=h
def aPZ(h:p:=by simp [getObj,Sem.run,g1]):=h
def zT(h:p:=by rw [h5];exact e1):=h
def Vf(h:p:=by cases hd):=h
def zU(h:p:=by rw [TD,TD];omega):=h
def zW(h:p:=by simp at c4;omega):=h
def aPa(h:p:=by rw [h2,B8,adY,Cf];omega):=h
def zX(h:p:=by rw [hL];exact aDx):=h
def aPb(h:p:=by simp only [C5];exact h9):=h
def aPc(h:p:=by rw [hb];exact T3 _ _ _ _):=h
def aPd(h:p:=by rw [hB];exact T3 _ _ _ _):=h
def zY(h:p:=by rw [h.up];decide):=h
def aPe(h:p:=by simpa using (ho 0).symm):=h
def aPf(h:p:=by simpa only [RL] using h):=h
def aPD(h:p:=by have:=(q2 hm).2.1;omega):=h
def aPE(h:p:=by rw [AD hh] at he;omega):=h
def aPF(h:p:=by rw [AV,BO,BO,e6];omega):=h
def aPG(h:p:=by rw [hw' r hzr];exact hh):=h
def cJ(h:p:=by simp [RL]):=h
def z9(h:p:=by simpa using hwt):=h
def zA(h:p:=by simp [c0,T.all]):=h
def zD(h:p:=by simp [c1,T.all]):=h
def zF(h:p:=by simp [c2,T.all]):=h
def zH(h:p:=by simp [c3,T.all]):=h
def zI(h:p:=by simp [c4,T.all]):=h
def zJ(h:p:=by simp [c5,T.all]):=h
def aPH(h:p:=by rw [<-xY (xs:=ty),ht]):=h
def aPI(h:p:=by simpa [Ow,ho] using hm):=h
def aPJ(h:p:=by simpa [ownsL] using hj):=h
def aPK(h:p:=by rw [hg];simpa using c5):=h
def aPL(h:p:=by rw [hb];exact du _ _ _):=h
def aPM(h:p:=by rw [hB];exact du _ _ _):=h
def aPN(h:p:=by rw [<-hL.len];exact ho):=h
def aPO(h:p:=by simp [execOp,ho,e1,f1]):=h
def zK(h:p:=by simpa using hx):=h
def Ve(h:p:=by rw [b2]):=h
def zL(h:p:=by simp [Mz] at h):=h
def zM(h:p:=by simpa using hj):=h
def aPP(h:p:=by simp only [T.all,Dw]):=h
def zO(h:p:=by simpa using hk):=h
def aP8(h:p:=by simp [H7] at h1;omega):=h
def yx(h:p:=by simpa using c4):=h
def yy(h:p:=by rw [FL];omega):=h
def aP9(h:p:=by rw [C0];exact qY rfl):=h
def aPA(h:p:=by unfold Eo;rw [AD hE]):=h
def yz(h:p:=by rw [hE];decide):=h
def z7(h:p:=by rw [hk];decide):=h
def aPB(h:p:=by rw [mS ha.2.1];omega):=h
def z8(h:p:=by simp [Br,RL,R]):=h
def aPC(h:p:=by unfold G3;rw [AE hn]):=h
def o6(h:p:=by rw [hl,h2]):=h
def zZ(h:p:=by rw [KT];omega):=h
def za(h:p:=by simpa using e):=h
def zc(h:p:=by rw [c];decide):=h
def zd(h:p:=by rw [h];decide):=h
def Vg(h:p:=by rw [h]):=h
def o7(h:p:=by simp [w']):=h
def LY(h:p:=by rfl):=h
def ze(h:p:=by rw [<-hrec]):=h
def zf(h:p:=by rw [qy,Cf]):=h
def o9(h:p:=by simp [h]):=h
def oA(h:p:=by cases hi):=h
def oC(h:p:=by cases hp):=h
def zg(h:p:=by simp at hk):=h
def zh(h:p:=by rw [h1,h2]):=h
end Go
namespace Go.Proofs.YtepoohnehmfflaaGreatDoor
abbrev _root_.Go.AA:Int→Int:=Go.IntKind.i64.wrap
theorem _root_.Go.A9 {α β:Sort _}{a:α}{b:β}:a=a∧b=b:=⟨rfl,rfl⟩
set_option maxRecDepth 100000
set_option maxHeartbeats 4000000
open Go.Proofs.Tryz
open Go.RowKit
structure More where
 g:Array Obj
 d:aD
instance:Inhabited More:=⟨⟨#[],0⟩⟩
open Go Go.RowKit
section
variable {P : Program} {ops : Array Oper} {md : Region.Mode} {G : Type} {D : World -> Prop} {C : G -> World -> Prop} {sp : Nat -> Bool}
def qa (P:aQ) (w:aP) (v:aW):aVO->Prop
 | .ok (.value u) w'=>w'=w/\u=v
 | .ok .skip w'=>w'=w/\v=undef
 | .ok (.enter f args) w'=>w'=w/\Calls P f args w (λe w''=>e=.returned v/\Below w.heap.size w w'')
 |_=>False
def Nh (P:aQ) (o:aU) (a:bf) (w:aP) (v:aW):Prop:=qa P w v<|(execOp a.eval o).run P w
def calm (P:aQ) (o:aU) (a:bf) (D:aP->Prop) (next:bf->Prop):Prop:=∃v,(∀w,D w->Nh P o a w v)/\next (a.put o.dst v)
def Dj (P:aQ) (R:aW->aP->Prop):aVO->Prop
 | .ok (.value v) w'=>R v w'
 | .ok .skip w'=>R undef w'
 | .ok (.enter f args) w'=>Calls P f args w' λe w''=>∃v,e=.returned v/\R v w''
 | .ok (.round l f tmps assign body) w'=>RoundIn Fence.wide 0 P l f tmps assign body w' λe w''=>∃v,e=.returned v/\R v w''
 |_=>False
abbrev Df (r:bn):Fence:={Fence.wide with round:=r}
def semAt_eq {o:aU}{r:bn}{ρ:aVq->aW}(h:∀c,o.op≠ .defer c):o.semAt r ρ=execOp ρ o:=by
 unfold Oper.semAt;split
 ·rename_i c hc
  grind
 ·rfl
def aDn {o:aU}{ρ:aVq->aW}{w:aP}{c:Call}(h:o.op=.defer c):(∃d w',(execOp ρ o).run P w=.ok (.defer d) w')\/(∃x w',(execOp ρ o).run P w=.halt x w'):=by
 unfold execOp;cases hr:(resolve ρ c o.type).run P w with
 |ok d w'=>left;exact ⟨d,w',GI⟩
 |halt x w'=>right;exact ⟨x,w',GI⟩
def Uj (P:aQ) (o:aU) (a:bf) (C:G->aP->Prop) (g:G) (K:bf->G->Prop):Prop:=
 ∀w,C g w->Dj P (λv w'=>∃g',C g' w'/\K (a.put o.dst v) g') ((execOp a.eval o).run P w)
def E7 (P:aQ) (ops:aK) (D:aP->Prop) (C:G->aP->Prop) (sp:aD->aN) (i:aD) (K:bf->G->Prop) (a:bf) (g:G):Prop:=
 match ops[i]? with
 |none=>K a g
 |some o=>if aA o (yielded ops a.tmps) then (if sp i then Uj P o a C g K else calm P o a D λa'=>K a' g) else K (a.put o.dst undef) g
def qD {o:aU}{a:bf}{K K':bf->Prop}(h:∀a,K a->K' a) (hh:calm P o a D K):calm P o a D K':=
 let ⟨v,h1,h2⟩:=hh
 ⟨v,h1,h _ h2⟩
def KS {R R':aW->aP->Prop}(h:∀v w,R v w->R' v w) {r:aVO}(hh:Dj P R r):Dj P R' r:=by
 cases r with
 |ok n w'=>
  cases n<;>simp only [Dj] at hh|-
  case value u=>exact h _ _ hh
  case skip=>exact h _ _ hh
  case enter f args=>exact hh.mono λe w'' ⟨v,he,hr⟩=>⟨v,he,h _ _ hr⟩
  case round l f tmps assign body=>exact hh.mono λe w'' ⟨v,he,hr⟩=>⟨v,he,h _ _ hr⟩
 |halt x w'=>simp only [Dj] at hh
def aF9 {o:aU}{a:bf}{g:G}{K K':bf->G->Prop}(h:∀a g,K a g->K' a g) (hh:Uj P o a C g K):Uj P o a C g K':=
 λw hw=>KS (λ_ _ ⟨g',hc,hk⟩=>⟨g',hc,h _ _ hk⟩)<|hh w hw
def aHA {i:aD}{a:bf}{g:G}{K K':bf->G->Prop}(h:∀a g,K a g->K' a g) (hh:E7 P ops D C sp i K a g):E7 P ops D C sp i K' a g:=by
 unfold E7 at*;split
 ·grind
 ·rename_i o ho
  simp only [ho] at hh;split
  ·rename_i hw
   simp only [hw,Bo] at hh;split
   ·rename_i hs;simp only [hs,Bo] at hh;exact aF9 h hh
   ·rename_i hs;simp only [hs] at hh;exact qD (λa=>h a g) hh
  ·grind
def Kj (P:aQ) (md:aVJ) (ops:aK) (D:aP->Prop) (C:G->aP->Prop) (sp:aD->aN) (Q:bf->G->Prop):aD->aX->bf->G->Prop
 |0,listed,a,g=>az md ops listed=[]/\Q a g
 |fuel+1,listed,a,g=>
  (az md ops listed=[]->Q a g)/\
  ∀i∈az md ops listed,E7 P ops D C sp i (Kj P md ops D C sp Q fuel<|listed.setIfInBounds i U) a g
def aEQ {r:bn}{m l:aD}{f:bh}{tmps:aY}{assign body:bC}{w:aP}{R:Ending->aP->Prop}(h:RoundIn Fence.wide 0 P l f tmps assign body w R):RoundIn (Df r) m P l f tmps assign body w R:=
 ⟨an,λc cs _=>h.2 c cs<|room_wide _⟩
def aes {o:aU}{a:bf}{K:bf->Prop}{K':bf->aP->Prop}{Q':aVB->bf->aP->Prop}{w:aP}(hw:D w)
  (h:∀a w',Below w.heap.size w w'->K a->K' a w') (hh:calm P o a D K) (r:bn) (m:aD):o.wpIn (Df r) m P a w K' Q':=by
 obtain ⟨v,h1,h2⟩:=hh
 have h3:=h1 w hw
 unfold Nh at h3
 have hnd:∀c,o.op≠ .defer c:=λc hc=>by
  rcases aDn (P:=P) (ρ:=a.eval) (w:=w) hc with ⟨d,w',e⟩ |⟨d,w',e⟩<;>rw [e] at h3<;>simp only [qa] at h3
 refine ⟨λ_ _=>trivial,?_⟩
 rw [semAt_eq hnd];generalize (execOp a.eval o).run P w=r at*;cases r with
 | ok n w'=>
  cases n<;>simp only [qa] at h3<;>simp only [Oper.uponIn]
  case value u=>
   obtain ⟨e1,e2⟩:=h3;rw [e1,e2];exact h _ _ (Below.refl _ _) h2
  case skip=>
   obtain ⟨e1,e2⟩:=h3;rw [e1,<-e2];exact h _ _ (Below.refl _ _) h2
  case enter f args=>
   obtain ⟨e1,hc⟩:=h3;rw [e1];exact ⟨λh=>As,VF.2<|hc.mono λe w'' ⟨he,hw''⟩=>A8⟩
 |halt x w'=>simp only [qa] at h3
def ag8 {o:aU}{a:bf}{g:G}{K:bf->G->Prop}{K':bf->aP->Prop}{Q':aVB->bf->aP->Prop}{w:aP}(hw:C g w)
  (h:∀a g w',C g w'->K a g->K' a w') (hh:Uj P o a C g K) (r:bn) (m:aD):o.wpIn (Df r) m P a w K' Q':=by
 have h3:=hh w hw
 have hnd:∀c,o.op≠ .defer c:=λc hc=>by
  rcases aDn (P:=P) (ρ:=a.eval) (w:=w) hc with ⟨d,w',e⟩ |⟨d,w',e⟩<;>rw [e] at h3<;>simp only [Dj] at h3
 refine ⟨λ_ _=>trivial,?_⟩
 rw [semAt_eq hnd];generalize (execOp a.eval o).run P w=r at*;cases r with
 | ok n w'=>
  cases n<;>simp only [Dj] at h3<;>simp only [Oper.uponIn]
  case value u=>obtain ⟨g',h1,h2⟩:=h3;exact h _ _ _ h1 h2
  case skip=>obtain ⟨g',h1,h2⟩:=h3;exact h _ _ _ h1 h2
  case enter f args=>
   exact ⟨λh=>As,VF.2<|h3.mono λe w'' ⟨v,he,g',h1,h2⟩=>A8⟩
  case round l f tmps assign body=>
   exact ⟨λh=>As,aEQ<|h3.mono λe w'' ⟨v,he,g',h1,h2⟩=>A8⟩
 |halt x w'=>simp only [Dj] at h3
def aeX (hD:∀g w,C g w->D w) (hkeep:∀g w w',C g w->Below w.heap.size w w'->C g w') {i:aD}{a:bf}{g:G}{K:bf->G->Prop}{K':bf->aP->Prop}{Q':aVB->bf->aP->Prop}{w:aP}(hC:C g w)
  (h:∀a g w',C g w'->K a g->K' a w') (hh:E7 P ops D C sp i K a g) (r:bn) (m:aD):wpOpIn (Df r) m P ops Q' i K' a w:=by
 unfold E7 at hh;unfold wpOpIn;split
 ·grind
 ·rename_i o ho
  simp only [ho] at hh;split
  ·rename_i hw
   simp only [hw,Bo] at hh
   by_cases hs:sp i=U
   ·simp only [hs,Bo] at hh;exact ag8 hC h hh r m
   ·simp only [hs] at hh;exact aes (hD _ _ hC) (λa w' hb hk=>h a g w' (hkeep _ _ _ hC hb) hk) hh r m
  ·rename_i hw;simp only [hw] at hh;exact ⟨λ_ _=>trivial,h _ _ _ hC hh⟩
def pZ (hD:∀g w,C g w->D w) (hkeep:∀g w w',C g w->Below w.heap.size w w'->C g w') {Q:bf->G->Prop}{Q':aVB->bf->aP->Prop}(hQ:∀a g w,C g w->Q a g->Q' .normal a w) (r:bn) (m:aD):
  ∀(fuel:aD) (listed:aX) (a:bf) (g:G) (w:aP),C g w->Kj P md ops D C sp Q fuel listed a g->wpAnyIn (Df r) m P md ops Q' fuel listed a w
 |0,_,_,_,_,hw,h=>⟨h.1,hQ _ _ _ hw h.2⟩
 |fuel+1,_,_,_,_,hw,h=>⟨λh0=>hQ _ _ _ hw<|h.1 h0,λi hi=>aeX hD hkeep hw (λa' g' w' hw'=>pZ hD hkeep hQ r m fuel _ a' g' w' hw') (h.2 i hi) r m⟩
def Ll (P:aQ) (ops:aK) (D:aP->Prop) (o:aU) (v:aW) (a:bf):Prop:=
 (aA o (yielded ops a.tmps)=U/\∀w,D w->Nh P o a w v)\/
 (aA o (yielded ops a.tmps)=X/\v=undef)
def Ll.E7 {i:aD}{o:aU}{v:aW}{a:bf}{g:G}(hi:ops[i]? =ai o) (hs:sp i=X) (hy:Ll P ops D o v a) {K:bf->G->Prop}(h:K (a.put o.dst v) g):E7 P ops D C sp i K a g:=by
 unfold Go.Proofs.YtepoohnehmfflaaGreatDoor.E7;simp only [hi];rcases hy with ⟨hw,hv⟩ |⟨hw,rfl⟩
 ·simp only [hw,Bo,hs,Hs,FN];exact ⟨v,hv,h⟩
 ·grind
def Ll.of_same {o:aU}{v:aW}{a a':bf}(hy:Ll P ops D o v a) (he:execOp a'.eval o=execOp a.eval o)
  (hw:aA o (yielded ops a'.tmps)=aA o (yielded ops a.tmps)):Ll P ops D o v a':=by
 unfold Ll Nh at*
 rwa [he,hw]
def adZ {i:aD}{o:aU}{a:bf}{g:G}{K:bf->G->Prop}(hi:ops[i]? =ai o) (hs:sp i=X) (h:E7 P ops D C sp i K a g):∃v,Ll P ops D o v a/\K (a.put o.dst v) g:=by
 unfold E7 at h;simp only [hi] at h
 by_cases hw:aA o (yielded ops a.tmps)=U
 ·simp only [hw,Bo,hs,Hs,FN] at h
  obtain ⟨v,h1,h2⟩:=h;exact ⟨v,.inl ⟨hw,h1⟩,h2⟩
 ·simp only [hw] at h
  exact ⟨undef,.inr ⟨A8,rfl⟩,h⟩
def aul {j:aD}{oi oj:aU}{v:aW}(hj:ops[j]? =ai oj) (hap:oi.apart ops oj=U)
  (hsi:∀cs b,oi.op≠ .select cs b) (hsj:∀cs b,oj.op≠ .select cs b) {K:bf->G->Prop} {a:bf} {g:G}
  (hy:Ll P ops D oi v a) (h:E7 P ops D C sp j K (a.put oi.dst v) g):
  E7 P ops D C sp j (λa' g'=>Ll P ops D oi v a'/\K (a'.put oi.dst v) g') a g:=by
 obtain ⟨h1,h2,h3⟩:=Zg hap
 have keep:∀(a:bf),Ll P ops D oi v a->∀u,Ll P ops D oi v (a.put oj.dst u):=λa hy u=>
  hy.of_same (execOp_put oi hsi a oj.dst u h3) (wanted_put oi a oj.dst u h3)
 unfold E7 at*;simp only [hj] at*;rw [wanted_put oj a oi.dst v h1] at h;split
 ·rename_i hw
  simp only [hw,Bo] at h;split
  ·rename_i hs
   simp only [hs,Bo] at h;intro w hw'
   have:=h w hw'
   rw [execOp_put oj hsj a oi.dst v h1] at this;refine KS (λu w'' ⟨g',hc,hk⟩=>⟨g',hc,keep a hy u,?_⟩) this
   rw [<-Act.put_comm a v u h2];exact hk
  ·rename_i hs
   simp only [hs] at h;obtain ⟨u,hu,hn⟩:=h;refine ⟨u,λw hw'=>?_,keep a hy u,by rw [<-Act.put_comm a v u h2];exact hn⟩
   have:=hu w hw'
   unfold Nh at*
   rwa [execOp_put oj hsj a oi.dst v h1] at this
 ·rename_i hw
  simp only [hw] at h;exact ⟨keep a hy _,by rw [<-Act.put_comm a v undef h2];exact h⟩
def adx {Q:bf->G->Prop}{i:aD}{oi:aU}{v:aW}(hi:ops[i]? =ai oi) (hs:sp i=X) (hsel:∀(j:aD) (o:aU) cs b,ops[j]? =ai o->o.op≠ .select cs b):
  ∀(fuel:aD) (listed:aX) (a:bf) (g:G),
   (∀j oj,ops[j]? =ai oj->j≠i->listed.getD j U=X->(∀e∈oj.after,Region.binds md e=U->e.on≠i)->oi.apart ops oj=U)->
   i∈az md ops listed->Ll P ops D oi v a->
   Kj P md ops D C sp Q fuel (listed.setIfInBounds i U) (a.put oi.dst v) g->Kj P md ops D C sp Q (fuel+1) listed a g:=by
 intro fuel
 induction fuel with
 | zero=>
  intro listed a g _ hr hy H;refine ⟨λh=>A8,λj hj=>?_⟩
  by_cases hji:j=i
  ·subst hji;exact hy.E7 hi hs H
  ·have:=ready_mono hj hji
   rw [H.1] at this;cases this
 | succ fuel ih=>
  intro listed a g hfree hr hy H;refine ⟨λh=>A8,λj hj=>?_⟩
  by_cases hji:j=i
  ·subst hji;exact hy.E7 hi hs H
  ·have h1:=H.2 j (ready_mono hj hji)
   obtain ⟨hjun,oj,hoj,hall⟩:=Ez.1 hj
   have hnot:∀e∈oj.after,Region.binds md e=U->e.on≠i:=λe he hb heq=>by
    have h1:=hall e he hb
    have h0:=(Ez.1 hr).1
    rcases QM i listed.size with h'|h'
    ·grind
    ·grind
   have h2:=aul hoj (hfree j oj hoj hji hjun hnot) (λcs b=>hsel i oi cs b hi) (λcs b=>hsel j oj cs b hoj) hy h1
   have hfree':∀k ok,ops[k]? =ai ok->k≠i->(listed.setIfInBounds j U).getD k U=X->
     (∀e∈ok.after,Region.binds md e=U->e.on≠i)->oi.apart ops ok=true:=λk ok hk hki hun hno=>by
    refine hfree k ok hk hki ?_ hno
    by_cases hjk:j=k
    ·grind
    ·simp_all
   refine aHA (λa' g' h3=>ih (listed.setIfInBounds j U) a' g' hfree' (ready_mono hr<|Oc hji) h3.1 ?_) h2
   rw [Array.setIfInBounds_comm _ _ hji];exact h3.2
def I9 (P:aQ) (ops:aK) (D:aP->Prop) (K:bf->Prop):bp->bw->bf->Prop
 |f::fs,o::os,a=>if f then I9 P ops D K fs os a else if aA o (yielded ops a.tmps) then calm P o a D (I9 P ops D K fs os) else I9 P ops D K fs os (a.put o.dst undef)
 |_,_,a=>K a
def H0 (P:aQ) (ops:aK) (C:G->aP->Prop) (Q:bf->G->Prop):bp->bw->bf->G->Prop
 |f::fs,o::os,a,g=>if f then (if aA o (yielded ops a.tmps) then Uj P o a C g (H0 P ops C Q fs os) else H0 P ops C Q fs os (a.put o.dst undef) g) else H0 P ops C Q fs os a g
 |_,_,a,g=>Q a g
def JQ (md:aVJ) (ops:aK) (flags:bp):aI->aX->Bool
 | [],listed=>(az md ops listed).isEmpty
 |i::is,listed=>(if flags.getD i X then az md ops listed==[i] else (az md ops listed).contains i&&Region.free md ops listed i)&&JQ md ops flags is (listed.setIfInBounds i U)
def idxs (b:aN):bp->aD->List Nat
 | [],_=>[]
 |f::fs,k=>if f=b then k::idxs b fs (k+1) else idxs b fs (k+1)
def jr (ops:aK) (flags:bp):aN:=letI a:=idxs X flags 0++idxs U flags 0;Region.noSelect ops&&M flags==ops.size&&M a==ops.size&&JQ .any ops flags a (Array.replicate ops.size X)
def aDZ {flags:bp}{Q:bf->G->Prop}(hs:Region.noSelect ops=U):∀(is:aI) (listed:aX) (a:bf) (g:G),
  JQ md ops flags is listed=U->(is.foldr (λi K=>E7 P ops D C (λi=>flags.getD i X) i K) Q) a g->Kj P md ops D C (λi=>flags.getD i X) Q (M is) listed a g
 | [],_,_,_,hB,h=>⟨by simpa [JQ] using hB,h⟩
 | i::is,listed,a,g,hB,h=>by
  simp only [JQ,AV] at hB;obtain ⟨h1,h2⟩:=hB;simp only [mw] at h
  by_cases hf:flags.getD i X=U
  ·simp only [hf,Bo,Cy] at h1
   refine ⟨λh0=>A8,λj hj=>?_⟩
   rw [h1] at hj;obtain rfl:=HJ.1 hj;exact aHA (λa' g' hk=>aDZ hs is _ a' g' h2 hk) h
  ·rw [AE hf,AV] at h1
   obtain ⟨hr,hfr⟩:=h1
   have hr':i∈az md ops listed:=A8
   obtain ⟨_,oi,hoi,_⟩:=Ez.1 hr';obtain ⟨v,hy,hK⟩:=adZ hoi A8 h;exact adx hoi A8 (Region.noSelect_spec hs) (M is) listed a g (Region.free_spec hoi hfr) hr' hy<|aDZ hs is _ _ _ h2 hK
def aDm {flags:bp}{Q:bf->G->Prop}:∀(fs:bp) (os:bw) (k:aD),(∀j,fs[j]? =flags[k+j]?)->(∀j,os[j]? =ops[k+j]?)->M fs=M os->
  ∀(a:bf) (g:G),I9 P ops D (λa=>Q a g) fs os a->((idxs X fs k).foldr (λi K=>E7 P ops D C (λi=>flags.getD i X) i K) Q) a g
 | [],[],_,_,_,_,_,_,h=>h
 | f::fs,o::os,k,hf,ho,hl,a,g,h=>by
  have ho0:ops[k]? =ai o:=aPe
  have hf0:flags.getD k X=f:=aOL
  have ih:=aDm (Q:=Q) (flags:=flags) fs os (k+1) (λj=>aOP) (λj=>aOQ) A8
  cases f with
  |true=>simp only [idxs,I9,Bool.true_eq_false,Bo,FN] at h|-;exact ih a g h
  |false=>
   simp only [idxs,I9,Bo,Hs,FN] at h|-;simp only [mw];unfold E7;simp only [ho0,hf0,Hs,FN];split
   ·rename_i hw;simp only [hw,Bo] at h;exact qD (λa' hk=>ih a' g hk) h
   ·rename_i hw;simp only [hw] at h;exact ih _ _ h
 | [],_::_,_,_,_,hl,_,_,_=>A8
 |_::_,[],_,_,_,hl,_,_,_=>A8
def aDz {flags:bp}{Q:bf->G->Prop}:∀(fs:bp) (os:bw) (k:aD),(∀j,fs[j]? =flags[k+j]?)->(∀j,os[j]? =ops[k+j]?)->M fs=M os->
  ∀(a:bf) (g:G),H0 P ops C Q fs os a g->((idxs U fs k).foldr (λi K=>E7 P ops D C (λi=>flags.getD i X) i K) Q) a g
 | [],[],_,_,_,_,_,_,h=>h
 | f::fs,o::os,k,hf,ho,hl,a,g,h=>by
  have ho0:ops[k]? =ai o:=aPe
  have hf0:flags.getD k X=f:=aOL
  have ih:=aDz (Q:=Q) (flags:=flags) fs os (k+1) (λj=>aOP) (λj=>aOQ) A8
  cases f with
  |false=>simp only [idxs,H0,Hs,FN] at h|-;exact ih a g h
  |true=>
   simp only [idxs,H0,Bo] at h|-;simp only [mw];unfold E7;simp only [ho0,hf0,Bo];split
   ·rename_i hw;simp only [hw,Bo] at h;exact aF9 (λa' g' hk=>ih a' g' hk) h
   ·rename_i hw;simp only [hw] at h;exact ih _ _ h
 | [],_::_,_,_,_,hl,_,_,_=>A8
 |_::_,[],_,_,_,hl,_,_,_=>A8
def aeW {r:bn}{m:aD}{Q:aVB->bf->aP->Prop}{a:bf}{w:aP}{l:bw}(flags:bp) (g:G)
  (hB:jr l.toArray flags=U) (hD:∀g w,C g w->D w) (hkeep:∀g w w',C g w->Below w.heap.size w w'->C g w') (hC:C g {w with drawn:=w.drawn+1})
  (h:I9 P l.toArray D (λa1=>H0 P l.toArray C (λa' g'=>∀w',C g' w'->Q .normal a' w') flags l a1 g) flags l a):wpAnyIn (Df r) m P .any l.toArray Q l.toArray.size (Array.replicate l.toArray.size X) a {w with drawn:=w.drawn+1}:=by
 simp only [jr,AV,Cy] at hB;obtain ⟨⟨⟨h1,h2⟩,h3⟩,h4⟩:=hB;refine pZ (D:=D) (C:=C) (sp:=λi=>flags.getD i X) hD hkeep (Q:=λa' g'=>∀w',C g' w'->Q .normal a' w') (λ_ _ w' hw' h=>h w' hw') r m _ _ _ g _ hC ?_
 have h5:=aDZ (P:=P) (D:=D) (C:=C) (Q:=λa' g'=>∀w',C g' w'->Q .normal a' w') h1 _ _ a g h4
 rw [h3] at h5;refine h5 ?_;rw [List.foldr_append];refine aDm flags l 0 AI AI A8 a g ?_;refine (?_:∀(fs:bp) (os:bw) (a:bf),I9 P l.toArray D (λa1=>H0 P l.toArray C (λa' g'=>∀w',C g' w'->Q .normal a' w') flags l a1 g) fs os a->I9 P l.toArray D (λa=>(List.foldr (λi K=>E7 P l.toArray D C (λi=>flags.getD i X) i K) (λa' g'=>∀w',C g' w'->Q .normal a' w')<|idxs U flags 0) a g) fs os a) flags l a h
 intro fs
 induction fs with
 |nil=>intro os a hh;cases os<;>exact aDz flags l 0 AI AI A8 _ _ hh
 | cons f fs ih=>
  intro os a hh;cases os with
  |nil=>exact aDz flags l 0 AI AI A8 _ _ hh
  | cons o os=>
   simp only [I9] at hh|-;split
   ·grind
   ·rename_i hf
    simp only [hf,Hs,FN] at hh;split
    ·rename_i hw;simp only [hw,Bo] at hh;exact qD (λa' hk=>ih _ _ hk) hh
    ·grind
def aoe {D:aP->Prop}{K:bf->Prop}{a:bf}(h:K a):I9 P ops D K [] [] a:=by simpa [I9] using h
def aod {C:G->aP->Prop}{Q:bf->G->Prop}{a:bf}{g:G}(h:Q a g):H0 P ops C Q [] [] a g:=by simpa [H0] using h
def oQ (md:aVJ) (ops:aK):aI->aX->Bool
 | [],_=>U
 |i::is,listed=>((az md ops listed).contains i&&Region.free md ops listed i)&&oQ md ops is (listed.setIfInBounds i U)
def Qt:aI->aX->Array Bool
 | [],l=>l
 |i::is,l=>Qt is<|l.setIfInBounds i U
def ady {flags:bp}{Q:bf->G->Prop}(hs:Region.noSelect ops=U) (m:aD):∀(is:aI) (listed:aX) (a:bf) (g:G),(∀i∈is,flags.getD i X=X)->
  oQ md ops is listed=U->(is.foldr (λi K=>E7 P ops D C (λi=>flags.getD i X) i K) λa g=>Kj P md ops D C (λi=>flags.getD i X) Q m (Qt is listed) a g) a g->Kj P md ops D C (λi=>flags.getD i X) Q (M is+m) listed a g
 | [],_,_,_,_,_,h=>by rw [Bh,F5];exact h
 |i::is,listed,a,g,hf,hB,h=>by
  simp only [oQ,AV] at hB;obtain ⟨⟨hr,hfr⟩,h2⟩:=hB;simp only [mw,Qt] at h
  have hfi:=hf i AI
  have hr':i∈az md ops listed:=A8
  obtain ⟨_,oi,hoi,_⟩:=Ez.1 hr';obtain ⟨v,hy,hK⟩:=adZ hoi hfi h
  have:=adx hoi hfi (Region.noSelect_spec hs) (M is+m) listed a g (Region.free_spec hoi hfr) hr' hy<|ady hs m is _ _ _ (λj hj=>hf j A8) h2 hK
  grind
def pj (b:aN):∀(fs:bp) (k i:aD),i∈idxs b fs k->k<=i/\fs[i-k]? =ai b
 | [],_,_,h=>by simp [idxs] at h
 | f::fs,k,i,h=>by
  simp only [idxs] at h;split at h
  ·rename_i hf
   rcases B9.1 h with rfl|h
   ·grind
   ·exact aNv
  ·exact aNv
def Td (ops:aK) (flags:bp):aN:=
 Region.noSelect ops&&M flags==ops.size&&M (idxs X flags 0)+M (idxs U flags 0)==ops.size&&oQ .any ops (idxs X flags 0) (Array.replicate ops.size X)
def adw {r:bn}{m:aD}{Q:aVB->bf->aP->Prop}{a:bf}{w:aP}{l:bw}(flags:bp) (g:G)
  (hB:Td l.toArray flags=U) (hD:∀g w,C g w->D w) (hkeep:∀g w w',C g w->Below w.heap.size w w'->C g w') (hC:C g {w with drawn:=w.drawn+1})
  (h:I9 P l.toArray D (λa1=>Kj P .any l.toArray D C (λi=>flags.getD i X) (λa' g'=>∀w',C g' w'->Q .normal a' w') (M<|idxs U flags 0) (Qt (idxs X flags 0)<|Array.replicate l.toArray.size X) a1 g) flags l a):wpAnyIn (Df r) m P .any l.toArray Q l.toArray.size (Array.replicate l.toArray.size X) a {w with drawn:=w.drawn+1}:=by
 simp only [Td,AV,Cy] at hB;obtain ⟨⟨⟨h1,h2⟩,h3⟩,h4⟩:=hB;refine pZ (D:=D) (C:=C) (sp:=λi=>flags.getD i X) hD hkeep (Q:=λa' g'=>∀w',C g' w'->Q .normal a' w') (λ_ _ w' hw' h=>h w' hw') r m _ _ _ g _ hC ?_
 have h5:=ady (P:=P) (D:=D) (C:=C) (flags:=flags) (Q:=λa' g'=>∀w',C g' w'->Q .normal a' w') h1 (M<|idxs U flags 0) (idxs X flags 0) _ a g (λi hi=>by
  obtain ⟨_,h⟩:=pj X flags 0 i hi;simp only [Nat.sub_zero] at h
  simp [List.getD,h]) h4
 rw [h3] at h5;refine h5 ?_;exact aDm flags l 0 AI AI A8 a g h
def Ui (md:aVJ) (ops:aK):aD->aI->List Nat
 |0,l=>l
 |k+1,l=>l++Ui md ops k (l.flatMap λi=>match ops[i]? with
  |some o=>(o.after.toList.filter<|Region.binds md).map (·.on)
  |none=>[])
def lastB (md:aVJ) (ops:aK) (o:aU):aN:=
 o.guard.isNone&&o.after.toList.all (λe=>aq<|e.on<ops.size)&&
 (av ops.size).all (λi=>(match ops[i]? with
  |some p=>p.after.toList.all (λe=>aq<|e.on<i)&&(match p.guard with|none=>U|some (j,_)=>aq<|j<ops.size)
  |none=>U))&&
 (let l:=Ui md ops ops.size<|(o.after.toList.filter<|Region.binds md).map (·.on);(av ops.size).all λi=>l.contains i)
def Closed (md:aVJ) (ops:aK) (listed:aX):Prop:=
 ∀(i:aD) (o:aU),ops[i]? =ai o->listed.getD i X=U->∀e∈o.after,Region.binds md e=U->listed.getD e.on X=U
def Closed.back {listed:aX}(hc:Closed md ops listed):∀(k:aD) (l:aI),(∀i∈l,listed.getD i X=U)->∀i∈Ui md ops k l,listed.getD i X=U
 |0,_,h=>h
 | k+1,l,h=>λi hi=>by
  simp only [Ui,BZ] at hi;rcases hi with hi|hi
  ·exact h i hi
  ·refine Closed.back hc k _ (λj hj=>?_) i hi
   obtain ⟨i',h1,h2⟩:=List.mem_flatMap.1 hj;split at h2
   ·rename_i o ho
    obtain ⟨e,h3,rfl⟩:=F4.1 h2;obtain ⟨h4,h5⟩:=Ce.1 h3;exact hc i' o ho (h i' h1) e A8 h5
   ·cases h2
def Closed.put {listed:aX}(hc:Closed md ops listed) {i:aD}(hi:i∈az md ops listed):Closed md ops (listed.setIfInBounds i U):=λj o hj hl e he hb=>by
 by_cases hij:i=j
 ·subst hij
  obtain ⟨_,o',ho',h2⟩:=Ez.1 hi;obtain rfl:o'=o:=EE<|ho'.symm.trans hj;exact getD_set_true<|h2 e he hb
 ·rw [Zs X hij] at hl
  exact getD_set_true<|hc j o hj hl e he hb
def Vz {l:aX}{i:aD}(d b:aN) (h:i<l.size):(l.push b).getD i d=l.getD i d:=by
 simp [mE,VG h]
def aFV {l:aX}(b d:aN):(l.push b).getD l.size d=b:=AI
def set_push {l:aX}{i:aD}(b:aN) (h:i<l.size):(l.push b).setIfInBounds i U=(l.setIfInBounds i U).push b:=by
 apply Array.ext_getElem?
 intro j
 by_cases hij:i=j
 ·subst hij
  grind
 ·grind
def fg {l:aX}{i:aD}(h:i<l.size):l.getD i U=l.getD i false:=o9
def afX {o:aU}(hl:lastB md ops o=U) {listed:aX}(hs:listed.size=ops.size) (hr:az md ops listed=[]):∀i,i<ops.size->listed.getD i X=true:=by
 intro i
 induction i using Nat.strongRecOn with
 | _ i ih=>
  intro hi
  by_cases hL:listed.getD i X=U
  ·exact hL
  exfalso;simp only [lastB,AV,BH,Iu] at hl
  have:i∈az md ops listed:=Ez.2 ⟨A8,_,QJ hi,λe he hb=>by
   have h3:e.on<i:=A8
   exact ih e.on h3 A0⟩
  rw [hr] at this;cases this
def Xd (F:Fence) (m:aD) (P:aQ) (ops:aK) (Q:aVB->bf->aP->Prop) (n:aD):aVB->bf->aP->Prop
 | .normal,a,w=>wpOpIn F m P ops Q n (Q .normal) a w
 |e,a,w=>Q e a w
def aeo {F:Fence}{m n:aD}{ops:aK}{Q:aVB->bf->aP->Prop}{o:aU}{a:bf}{K:bf->aP->Prop}{r:aVO}(h:o.uponIn F m P a K (Xd F m P ops Q n) r):o.uponIn F m P a K Q r:=by
 cases r with
 |ok x w'=>cases x<;>exact h
 |halt x w'=>cases x<;>exact h
def aeJ {o:aU}{tmps:aY}{j:aD}(h:j<ops.size):yielded (ops.push o) tmps j=yielded ops tmps j:=by
 simp [yielded,mE,VG h]
def asM {F:Fence}{m:aD}{Q:aVB->bf->aP->Prop}{o:aU}(hl:lastB md ops o=U) {i:aD}(hi:i<ops.size) {K:bf->aP->Prop}{a:bf}{w:aP}{n:aD}
  (h:wpOpIn F m P ops (Xd F m P (ops.push o) Q n) i K a w):wpOpIn F m P (ops.push o) Q i K a w:=by
 unfold wpOpIn at*;simp only [mE,VG hi,FN,QJ hi] at h|-;simp only [lastB,AV,BH,Iu] at hl
 have h1:=hl.1.2 i hi
 simp only [QJ hi,AV] at h1
 have hw:aA ops[i] (yielded (ops.push o) a.tmps)=aA ops[i] (yielded ops a.tmps):=by
  unfold aA
  have h2:=h1.2
  split
  ·rfl
  ·rename_i j want hg
   simp only [hg,Aa] at h2;rw [aeJ h2]
 rw [hw];split
 ·rename_i hw'
  rw [AD hw'] at h;exact ⟨h.1,aeo h.2⟩
 ·rename_i hw'
  rw [AE hw'] at h;exact h
def aDk {o:aU}(hl:lastB md ops o=U) {listed:aX}(hs:listed.size=ops.size) {b:aN}{i:aD}(hi:i<ops.size) (h:i∈az md (ops.push o) (listed.push b)):i∈az md ops listed:=by
 obtain ⟨h1,o',ho',h2⟩:=Ez.1 h;rw [Vz _ _<|hs▸hi] at h1;simp only [mE,VG hi,FN,QJ hi] at ho';obtain rfl:=EE ho';refine Ez.2 ⟨h1,_,QJ hi,λe he hb=>?_⟩
 simp only [lastB,AV,BH,Iu] at hl
 have h4:e.on<i:=A8
 have h5:=h2 e he hb
 rwa [Vz _ _ A0] at h5
def Qh {listed:aX}{i:aD}(h:i∈az md ops listed):i<ops.size:=by
 obtain ⟨_,o,ho,_⟩:=Ez.1 h
 grind
def afA {o:aU}(hl:lastB md ops o=U) {listed:aX}(hs:listed.size=ops.size) (hr:az md ops listed=[]):az md (ops.push o) (listed.push U)=[]:=by
 refine mT.2 λi hi=>?_
 have h1:=Qh hi
 rw [xp] at h1;rcases QM i ops.size with h2|h2
 ·have:=aDk hl hs h2 hi
  rw [hr] at this;cases this
 ·obtain rfl:i=ops.size:=A0
  have h3:=(Ez.1 hi).1
  rw [<-hs,aFV] at h3;cases h3
def afR {o:aU}(hl:lastB md ops o=U) {listed:aX}(hs:listed.size=ops.size) (ha:∀i,i<ops.size->listed.getD i X=U):ops.size∈az md (ops.push o) (listed.push X):=by
 refine Ez.2 ⟨by rw [<-hs,aFV],o,AI,λe he _=>?_⟩
 simp only [lastB,AV,BH] at hl
 have h1:e.on<ops.size:=A8
 rw [Vz _ _ A0]
 grind
def apx {o:aU}(hl:lastB md ops o=U) {listed:aX}(hs:listed.size=ops.size) (hc:Closed md ops listed) (h:ops.size∈az md (ops.push o) (listed.push X)):az md ops listed=[]:=by
 obtain ⟨_,o',ho',h2⟩:=Ez.1 h;simp only [lastB,AV,BH] at hl
 have h0:∀i∈Ui md ops ops.size ((o.after.toList.filter<|Region.binds md).map (·.on)),listed.getD i X=true:=hc.back _ _ λi hi=>by
  obtain ⟨e,h3,rfl⟩:=F4.1 hi;obtain ⟨h4,h5⟩:=Ce.1 h3
  have h6:e.on<ops.size:=A8
  have h7:=h2 e A8 h5
  rwa [Vz _ _ A0] at h7
 refine mT.2 λi hi=>?_
 have h1:=Qh hi
 have h3:=hl.2 i A8
 have h4:=h0 i A8
 have h5:=(Ez.1 hi).1
 rw [fg A0,h4] at h5;cases h5
def aev {F:Fence}{m:aD}{Q:aVB->bf->aP->Prop}{o:aU}(hl:lastB md ops o=U):∀(fuel:aD) (listed:aX) (a:bf) (w:aP),listed.size=ops.size->Closed md ops listed->
  wpAnyIn F m P md ops (Xd F m P (ops.push o) Q ops.size) fuel listed a w->wpAnyIn F m P md (ops.push o) Q (fuel+1) (listed.push X) a w:=by
 have hend:∀(fuel:aD) (listed:aX) (a:bf) (w:aP),listed.size=ops.size->az md ops listed=[]->wpOpIn F m P (ops.push o) Q ops.size (Q .normal) a w->
   wpOpIn F m P (ops.push o) Q ops.size (wpAnyIn F m P md (ops.push o) Q fuel<|(listed.push X).setIfInBounds ops.size U) a w:=λfuel listed a w hs hr h=>by
  have he:(listed.push X).setIfInBounds ops.size U=listed.push true:=by
   apply Array.ext_getElem?
   intro j
   by_cases hij:listed.size=j
   ·grind
   ·grind
  rw [he];refine wpOpIn_mono (λa w h=>?_) h
  have h0:=afA hl hs hr
  cases fuel with
  |zero=>exact ⟨h0,h⟩
  |succ fuel=>exact ⟨λ_=>h,λi hi=>A8⟩
 have hdead:∀(listed:aX),listed.size=ops.size->Closed md ops listed->az md (ops.push o) (listed.push X)≠ []:=λlisted hs _ h=>by
  by_cases hr:az md ops listed=[]
  ·have:=afR hl hs (afX hl hs hr)
   rw [h] at this;cases this
  ·obtain ⟨i,hi⟩:=List.exists_mem_of_ne_nil _ hr
   have hlt:=Qh hi
   obtain ⟨h1,o',ho',h2⟩:=Ez.1 hi
   have:i∈az md (ops.push o) (listed.push X):=Ez.2 ⟨by rw [Vz _ _ A0];exact h1,o',A8,λe he hb=>by
    have h3:=h2 e he hb
    rw [Vz]
    ·exact h3
    ·rcases QM e.on listed.size with h'|h'
     ·exact h'
     ·simp [xu h'] at h3⟩
   rw [h] at this;cases this
 intro fuel
 induction fuel with
 | zero=>
  intro listed a w hs hc h;refine ⟨λh0=>absurd h0<|hdead listed hs hc,λi hi=>?_⟩
  have h1:=Qh hi
  rw [xp] at h1;rcases QM i ops.size with h2|h2
  ·have:=aDk hl hs h2 hi
   rw [h.1] at this;cases this
  ·obtain rfl:i=ops.size:=A0
   exact hend 0 listed a w hs h.1 h.2
 | succ fuel ih=>
  intro listed a w hs hc h;refine ⟨λh0=>absurd h0<|hdead listed hs hc,λi hi=>?_⟩
  have h1:=Qh hi
  rw [xp] at h1;rcases QM i ops.size with h2|h2
  ·have hr:=aDk hl hs h2 hi
   refine asM hl h2<|wpOpIn_mono (λa w hk=>?_)<|h.2 i hr
   rw [set_push _ A0];exact ih _ a w A8 (hc.put hr) hk
  ·obtain rfl:i=ops.size:=A0
   have hr:=apx hl hs hc hi
   exact hend (fuel+1) listed a w hs hr<|h.1 hr
def aeA {F:Fence}{m id:aD}{Q:aVB->bf->aP->Prop}{o:aU}{a:bf}{w:aP}(hm:P.follows .mixedOrders=U) (hl:lastB .any ops o=U)
  (h:wpAnyIn F m P .any ops (Xd F m P (ops.push o) Q ops.size) ops.size (Array.replicate ops.size X) a {w with drawn:=w.drawn+1}):(Code.region id (ops.push o) U).wpIn F m P Q a w:=by
 refine wpIn_region_any hm ?_
 have h1:=aev hl ops.size (Array.replicate ops.size X) a _ AI (λi o' ho' hL=>by
  have:=(Ho.1 ho').1
  simp [this] at hL) h
 grind
end
structure DZ (tr:aI) (w w':aP):Prop where
 os:w'.os=w.os
 tape:w'.tape=w.tape
 output:w'.output=w.output
 size:w.heap.size<=w'.heap.size
 block:∀k,k<w.heap.size->k∉tr->w'.heap[k]? =w.heap[k]?
def aew {tr:aI}{w w1 w2:aP}(h:DZ tr w w1) (hb:Below w1.heap.size w1 w2):DZ tr w w2:=
 ⟨hb.os.trans h.os,hb.tape.trans h.tape,hb.output.trans h.output,Hq h.size hb.size,λk hk hn=>(hb.block k<|Zj hk h.size).trans<|h.block k hk hn⟩
def DZ.refl (tr:aI) (w:aP):DZ tr w w:=⟨rfl,rfl,rfl,Ar _,λ_ _ _=>rfl⟩
end Go.Proofs.YtepoohnehmfflaaGreatDoor
namespace Go.Sx
open Go.Proofs.YtepoohnehmfflaaGreatDoor
open Go Go.RowKit
inductive Ty where
 |int (k:IntKind)
 |bool
 |str
 |sl (e:Ty)
 |pair (a b:Ty)
abbrev A7:Ty:=.int .i64
abbrev Ty.D:Ty->Type
 | .int _=>Int
 | .bool=>Bool
 | .str=>ByteArray
 | .sl e=>List e.D
 | .pair a b=>a.D×b.D
def Ty.n:Ty->Nat
 | .pair a b=>a.n+b.n
 |_=>1
def Ty.dflt:(t:Ty)->t.D
 | .int _=>(0:Y)
 | .bool=>X
 | .str=>ByteArray.empty
 | .sl _=>[]
 | .pair a b=>(a.dflt,b.dflt)
abbrev gx {e:Ty}(l:List e.D) (n:Y):e.D:=l.getD n.toNat e.dflt
def RD (Z:aD->Prop) (w:aP):(t:Ty)->t.D->aD->aD->Prop
 | .int k,n,b,o=>w.cell? ⟨b,o,ak⟩=ai (ah k n)
 | .bool,x,b,o=>w.cell? ⟨b,o,ak⟩=ai (.bool x)
 | .str,s,b,o=>w.cell? ⟨b,o,ak⟩=ai (.string s)
 | .sl e,l,b,o=>∃a cap,w.cell? ⟨b,o,ak⟩=ai (.slice a (M l) cap)/\M l<=cap/\(0<M l->∃b' o',a=ai ⟨b',o',ak⟩/\Z b'/\∀(i:aD) (d:e.D),l[i]? =ai d->RD Z w e d b' (o'+i*e.n))
 | .pair x y,d,b,o=>RD Z w x d.1 b o/\RD Z w y d.2 b (o+x.n)
def QY {w w':aP}{b o:aD}(h:w'.heap[b]? =w.heap[b]?):w'.cell? ⟨b,o,ak⟩=w.cell? ⟨b,o,ak⟩:=World.cell?_of_block (w:=w) (w':=w') h
def RD.keep {Z Z':aD->Prop}{w w':aP}(hZ:∀b,Z b->Z' b) (hw:∀b,Z b->w'.heap[b]? =w.heap[b]?):
  ∀(t:Ty) (d:t.D) (b o:aD),w'.heap[b]? =w.heap[b]? ->RD Z w t d b o->RD Z' w' t d b o
 | .int _,_,b,o,hb,h=>yl
 | .bool,_,b,o,hb,h=>yl
 | .str,_,b,o,hb,h=>yl
 | .sl e,l,b,o,hb,h=>by
  obtain ⟨a,cap,h1,h2,h3⟩:=h;refine ⟨a,cap,by rw [QY hb];exact h1,h2,λhn=>?_⟩
  obtain ⟨b',o',h4,h5,h6⟩:=h3 hn;exact ⟨b',o',h4,hZ _ h5,λi d hd=>RD.keep hZ hw e d b' _ (hw b' h5)<|h6 i d hd⟩
 | .pair x y,d,b,o,hb,h=>by
  exact ⟨RD.keep hZ hw x d.1 b o hb h.1,RD.keep hZ hw y d.2 b _ hb h.2⟩
def RD.mono {Z Z':aD->Prop}{w w':aP}(hZ:∀b,Z b->Z' b) (hw:∀b,Z b->w'.heap[b]? =w.heap[b]?) (t:Ty) (d:t.D) (b o:aD) (hz:Z b) (h:RD Z w t d b o):RD Z' w' t d b o:=RD.keep hZ hw t d b o (hw b hz) h
structure Loc where
 (b o:aD)
 cap:bn
def aVs:qT (Loc):=⟨⟩
instance:Inhabited Loc:=⟨⟨0,0,ak⟩⟩
inductive LV where
 |v (x:Value)
 |bl (b:Bool)
 |ki (k:IntKind) (n:Int)
 |own (k off:Nat)
 |agg (l:List LV)
 |AQ (l:List LV)
 |fn (f:FuncId) (cap:List LV)
 |fb (f:FuncId) (fs:List LV)
 |xq (n:Nat) (f:Nat->LV)
 |xl (e:Ty) (l:List e.D)
 |os (k es off n:Nat)
 |op (k es i j:Nat)
 |om (k:Nat)
 |mp (kd:IntKind) (ks:List Int) (vs:List LV)
 |oc (k es off n c:Nat)
 |CQ (k:Nat)
 |junk
def aE:qT (List LV):=⟨⟩
def bq:qT (List<|Nat×LV):=⟨⟩
def aVN:qT (Option LV):=⟨⟩
def aVS:qT (List<|List LV):=⟨⟩
mutual
def R (β:aD->aVs) (Z:aD->Prop) (w:aP):LV->aW->Prop
 | .v x,y=>y=x
 | .bl b,y=>y=.bool b
 | .ki k n,y=>y=ah k n
 | .own k off,y=>y=.pointer (ai ⟨(β k).b,off,ak⟩)
 | .agg l,y=>∃ys,y=.agg ys/\RL β Z w l ys.toList
 | .AQ l,y=>∃ys,y=.tuple ys/\RL β Z w l ys.toList
 | .fn f cap,y=>∃ys,y=.func (.func f) #[] ys/\RL β Z w cap ys.toList
 | .fb f cap,y=>∃ys,y=.func (.func f) ys #[]/\RL β Z w cap ys.toList
 | .xq n f,y=>∃b off,y=.pointer (ai ⟨b,off,ak⟩)/\Z b/\∀j,j<n->∃z,w.cell? ⟨b,off+j,ak⟩=ai z/\R β Z w (f j) z
 | .xl e l,y=>∃a cap,y=.slice a (M l) cap/\M l<=cap/\(0<M l->∃b off,a=ai ⟨b,off,ak⟩/\Z b/\∀(i:aD) (d:e.D),l[i]? =ai d->RD Z w e d b (off+i*e.n))
 | .os k es off n,y=>match (β k).cap with
  |none=>n=0/\off=0/\y=.slice ak 0 0
  |some c=>off+n<=c/\∃a,y=.slice (ai a) n (c-off)/\(0<c-off->a=⟨(β k).b,(β k).o+off*es,ak⟩)
 | .op k es i j,y=>(β k).cap≠ak/\y=.pointer (ai ⟨(β k).b,(β k).o+i*es+j,ak⟩)
 | .om k,y=>y=.map (ai (β k).b)
 | .mp kd ks vs,y=>∃r es clock,y=.map (ai r)/\Z r/\w.heap[r]? =ai (.map es clock)/\es.toList.map (·.key)=ks.map (.int kd)/\RL β Z w vs (es.toList.map (·.val))
 | .oc k es off n c,y=>off+n<=c/\∃a,y=.slice (ai a) n (c-off)/\(0<c-off->a=⟨(β k).b,off*es,ak⟩)
 | .CQ k,y=>y=.func (.yield (β k).b) #[] #[]
 | .junk,_=>True
def RL (β:aD->aVs) (Z:aD->Prop) (w:aP):aE->aV->Prop
 | [],ys=>ys=[]
 |x::xs,ys=>∃y zs,ys=y::zs/\R β Z w x y/\RL β Z w xs zs
end
/-Which own blocks a value names:all below n. -/
mutual
def okV (n:aD):LV->Prop
 | .v _=>True
 | .bl _=>True
 | .ki _ _=>True
 | .own k _=>k<n
 | .agg l=>AT n l
 | .AQ l=>AT n l
 | .fn _ cap=>AT n cap
 | .fb _ cap=>AT n cap
 | .xq _ f=>∀j,okV 0 (f j)
 | .xl _ _=>True
 | .os k _ _ _=>k<n
 | .op k _ _ _=>k<n
 | .om k=>k<n
 | .mp _ _ vs=>AT n vs
 | .oc k _ _ _ _=>k<n
 | .CQ k=>k<n
 | .junk=>True
def AT (n:aD):aE->Prop
 | []=>True
 |x::xs=>okV n x/\AT n xs
end
mutual
def okV.mono {n m:aD}(h:n<=m):∀(x:LV),okV n x->okV m x
 | .v _,_=>trivial
 | .bl _,_=>trivial
 | .ki _ _,_=>trivial
 | .own k _,hk=>VW
 | .agg l,hk=>nh
 | .AQ l,hk=>nh
 | .fn _ l,hk=>nh
 | .fb _ l,hk=>nh
 | .xq _ f,hk=>by simp only [okV] at*;exact hk
 | .xl _ _,_=>trivial
 | .os k _ _ _,hk=>VW
 | .op k _ _ _,hk=>VW
 | .om k,hk=>VW
 | .mp _ _ vs,hk=>by simp only [okV] at*;exact AT.mono h vs hk
 | .oc k _ _ _ _,hk=>VW
 | .CQ k,hk=>VW
 | .junk,_=>trivial
def AT.mono {n m:aD}(h:n<=m):∀(x:aE),AT n x->AT m x
 | [],_=>trivial
 |x::xs,hk=>by simp only [AT] at*;exact ⟨okV.mono h x hk.1,AT.mono h xs hk.2⟩
end
mutual
def R.mono {β β':aD->aVs}{Z Z':aD->Prop}{w w':aP}{n:aD}(hβ:∀k,k<n->β' k=β k) (hZ:∀b,Z b->Z' b) (hw:∀b,Z b->w'.heap[b]? =w.heap[b]?):
  ∀(x:LV) (y:aW),okV n x->R β Z w x y->R β' Z' w' x y
 | .v _,_,_,h=>h
 | .bl _,_,_,h=>h
 | .ki _ _,_,_,h=>h
 | .own k off,y,hk,h=>by simp only [R,okV] at*;rw [h,hβ k hk]
 | .agg l,y,hk,h=>by
  exact nG
 | .AQ l,y,hk,h=>by
  exact nG
 | .fn f l,y,hk,h=>by
  exact nG
 | .fb f l,y,hk,h=>by
  exact nG
 | .xq n f,y,hk,h=>by
  simp only [R,okV] at*;obtain ⟨b,off,h1,hz,h2⟩:=h;refine ⟨b,off,h1,hZ b hz,λj hj=>?_⟩
  obtain ⟨z,h3,h4⟩:=h2 j hj;exact ⟨z,by rw [QY (hw b hz)];exact h3,R.mono hβ hZ hw (f j) z (okV.mono (N9 _) _ (hk j)) h4⟩
 | .xl e l,y,hk,h=>by
  simp only [R] at*;obtain ⟨a,cap,h1,h2,h3⟩:=h;refine ⟨a,cap,h1,h2,λhn=>?_⟩
  obtain ⟨b,off,h4,h5,h6⟩:=h3 hn;exact ⟨b,off,h4,hZ b h5,λi d hd=>RD.mono hZ hw e d b _ h5 (h6 i d hd)⟩
 | .os k es off n,y,hk,h=>bX
 | .op k es i j,y,hk,h=>bX
 | .om k,y,hk,h=>bX
 | .mp kd ks vs,y,hk,h=>by
  simp only [R,okV] at*;obtain ⟨r,es,clock,h1,h2,h3,h4,h5⟩:=h;exact ⟨r,es,clock,h1,hZ r h2,by rw [hw r h2];exact h3,h4,RL.mono hβ hZ hw vs _ hk h5⟩
 | .oc k es off n c,y,hk,h=>bX
 | .CQ k,y,hk,h=>bX
 | .junk,_,_,_=>Jp
def RL.mono {β β':aD->aVs}{Z Z':aD->Prop}{w w':aP}{n:aD}(hβ:∀k,k<n->β' k=β k) (hZ:∀b,Z b->Z' b) (hw:∀b,Z b->w'.heap[b]? =w.heap[b]?):
  ∀(x:aE) (y:aV),AT n x->RL β Z w x y->RL β' Z' w' x y
 | [],_,_,h=>aPf
 |x::xs,ys,hk,h=>by
  simp only [RL,AT] at*;obtain ⟨y,zs,h1,h2,h3⟩:=h;exact ⟨y,zs,h1,R.mono hβ hZ hw x y hk.1 h2,RL.mono hβ hZ hw xs zs hk.2 h3⟩
end
def Br:(t:Ty)->t.D->List LV
 | .int k,n=>[.v<|ah k n]
 | .bool,b=>[.v<|.bool b]
 | .str,s=>[.v<|.string s]
 | .sl e,l=>[.xl e l]
 | .pair a b,d=>Br a d.1++Br b d.2
def KT:∀(t:Ty) (d:t.D),M (Br t d)=t.n
 | .int _,_=>rfl
 | .bool,_=>rfl
 | .str,_=>rfl
 | .sl _,_=>rfl
 | .pair a b,d=>by simp only [Br,B8,Ty.n,KT a d.1,KT b d.2]
def NZ (n:aD):∀(t:Ty) (d:t.D),AT n (Br t d)
 | .int _,_=>⟨an,an⟩
 | .bool,_=>⟨an,an⟩
 | .str,_=>⟨an,an⟩
 | .sl _,_=>⟨an,an⟩
 | .pair a b,d=>by
  have app:∀(l1 l2:aE),AT n l1->AT n l2->AT n (l1++l2):=by
   intro l1
   induction l1 with
   |nil=>intro l2 _ h;exact h
   |cons x xs ih=>intro l2 h1 h2;exact ⟨h1.1,ih l2 h1.2 h2⟩
  simp only [Br];exact app _ _ (NZ n a d.1)<|NZ n b d.2
def Wv {β:aD->aVs}{Z:aD->Prop}{w:aP}:∀(t:Ty) (d:t.D) (b o:aD),RD Z w t d b o->∀(j:aD) (x:LV),(Br t d)[j]? =ai x->∃z,w.cell? ⟨b,o+j,ak⟩=ai z/\R β Z w x z
 | .int k,n,b,o,h,j,x,hx=>by
  exact yC
 | .bool,n,b,o,h,j,x,hx=>by
  exact yC
 | .str,n,b,o,h,j,x,hx=>by
  exact yC
 | .sl e,l,b,o,h,j,x,hx=>by
  simp only [Br] at hx;cases j with
  |zero=>
   simp at hx;subst hx
   simp only [RD] at h;obtain ⟨a,cap,h1,h2,h3⟩:=h;exact ⟨_,h1,by simp only [R];exact ⟨a,cap,rfl,h2,h3⟩⟩
  |succ j=>simp at hx
 | .pair p q,d,b,o,h,j,x,hx=>by
  simp only [Br] at hx;simp only [RD] at h
  by_cases hj:j<p.n
  ·rw [Hl (by rw [KT];exact hj)] at hx
   exact Wv p d.1 b o h.1 j x hx
  ·rw [Gc zZ,KT] at hx
   obtain ⟨z,h1,h2⟩:=Wv q d.2 b (o+p.n) h.2 (j-p.n) x hx;exact ⟨z,by rw [show o+j=o+p.n+(j-p.n) by omega];exact h1,h2⟩
def RL.length {β:aD->aVs}{Z:aD->Prop}{w:aP}:∀ {l:aE}{ys:aV},RL β Z w l ys->M ys=M l
 | [],ys,h=>by simp only [RL] at h;simp [h]
 |x::xs,ys,h=>by
  simp only [RL] at h;obtain ⟨y,zs,rfl,_,h3⟩:=h
  simp [RL.length h3]
def RL.get {β:aD->aVs}{Z:aD->Prop}{w:aP}:∀ {l:aE}{ys:aV}(i:aD) (x:LV),RL β Z w l ys->l[i]? =ai x->∃y,ys[i]? =ai y/\R β Z w x y
 | [],ys,i,x,_,hx=>by simp at hx
 |x0::xs,ys,i,x,h,hx=>by
  simp only [RL] at h;obtain ⟨y,zs,rfl,h2,h3⟩:=h;cases i with
  |zero=>simp at hx;subst hx;exact ⟨y,AI,h2⟩
  |succ i=>simp at hx;obtain ⟨y',h4,h5⟩:=RL.get i x h3 hx;exact ⟨y',by simpa using h4,h5⟩
def AT.get {n:aD}:∀ {l:aE}(i:aD) (x:LV),AT n l->l[i]? =ai x->okV n x
 | [],i,x,_,hx=>by simp at hx
 |x0::xs,i,x,h,hx=>by
  simp only [AT] at h;cases i with
  |zero=>simp at hx;subst hx;exact h.1
  |succ i=>simp at hx;exact AT.get i x h.2 hx
def RL.CW {β:aD->aVs}{Z:aD->Prop}{w:aP}:∀ {l:aE}{ys:aV},M ys=M l->(∀(i:aD) (x:LV),l[i]? =ai x->∃y,ys[i]? =ai y/\R β Z w x y)->RL β Z w l ys
 | [],ys,hl,_=>by simp only [RL];exact MH.1 hl
 |x::xs,[],hl,_=>cK
 |x::xs,y::ys,hl,h=>by
  simp only [RL];refine ⟨y,ys,rfl,?_,RL.CW nq λi x' hx=>?_⟩
  ·obtain ⟨y',h1,h2⟩:=h 0 x AI;simp at h1;subst h1;exact h2
  ·obtain ⟨y',h1,h2⟩:=h (i+1) x' zK;exact ⟨y',by simpa using h1,h2⟩
def AT.CW {n:aD}:∀ {l:aE},(∀(i:aD) (x:LV),l[i]? =ai x->okV n x)->AT n l
 | [],_=>trivial
 |x::xs,h=>by simp only [AT];exact ⟨h 0 x AI,AT.CW λi x' hx=>h (i+1) x' zK⟩
inductive T (α:Type) where
 |ok (x:α)
 |br (b:Bool) (t e:T α)
 |req (p:Prop) (t:T α)
 |no
def T.rv {β:Type}(x:LV) (t:T β):T β:=.req (x=x) t
def T.rl {α β:Type}(l:List α) (t:T β):T β:=.req (0=0/\M l=M l) t
def T.bind {α β:Type}(k:α->T β):T α->T β
 | .ok x=>k x
 | .br b t e=> .br b (t.bind k) (e.bind k)
 | .req p t=> .req p (t.bind k)
 | .no=> .no
def T.all {α:Type}(K:α->Prop):T α->Prop
 | .ok x=>K x
 | .br b t e=>(b=U->t.all K)/\(b=X->e.all K)
 | .req p t=>p/\t.all K
 | .no=>False
def T.all_bind {α β:Type}{k:α->T β}{K:β->Prop}:∀ {t:T α},(t.bind k).all K↔t.all (λx=>(k x).all K)
 | .ok _=>Iff.rfl
 | .br b t e=>by simp only [T.bind,T.all];rw [T.all_bind,T.all_bind]
 | .req p t=>by simp only [T.bind,T.all];rw [T.all_bind]
 | .no=>Iff.rfl
def T.BR {α:Type}{K K':α->Prop}(h:∀x,K x->K' x):∀ {t:T α},t.all K->t.all K'
 | .ok _,hh=>h _ hh
 | .br b t e,hh=>⟨λhb=>T.BR h<|hh.1 hb,λhb=>T.BR h<|hh.2 hb⟩
 | .req p t,hh=>⟨hh.1,T.BR h hh.2⟩
 | .no,hh=>hh
def JA {α:Type}(P:aQ):Sem α->Option α
 | .pure a=>ai a
 | .program k=>JA P (k P)
 | .mark _ k=>JA P k
 |_=>ak
def dO {α:Type}{P:aQ}(w:aP):∀ {s:Sem α}{a:α},JA P s=ai a->s.run P w=.ok a w
 | .pure _,_,h=>by simp only [JA,Ah] at h;subst h;rfl
 | .program k,_,h=>by simp only [JA] at h;exact dO w (s:=k P) h
 | .mark _ k,_,h=>by simp only [JA] at h;exact dO w (s:=k) h
 | .load ..,_,h| .store ..,_,h| .new ..,_,h| .shape ..,_,h| .freeze ..,_,h| .frozen ..,_,h| .getObj ..,_,h| .setObj ..,_,h| .choose ..,_,h| .sys ..,_,h| .halt ..,_,h=>by simp [JA] at h
inductive Ex where
 |normal
 |exit (n:Nat)
 |ret
def aVU:qT (List Ex):=⟨⟩
inductive LS where
 |ready
 |busy
 |done (x:Ex)
inductive BK where
 |cl
 |vec (e:Ty) (l:List e.D)
 |mp (kd:IntKind) (ks:List Int) (vs:List LV)
 |Cn (ps:Array Tmp) (asg body:Code) (st:LS)
 |st (e:Ty) (l:List e.D)
 |dead
structure AB where
 c:aE
 t:aT
 k:BK
 p:aN
def aH:qT (List AB):=⟨⟩
def aVD:qT (Option AB):=⟨⟩
def AB.E0 (b:AB):aN:=
 match b.k with
 | .cl=>U
 |_=>X
abbrev B5:=Nat->Option (Nat×(Nat->aW))
abbrev Specs:=FuncId->Option (List LV->T LV)
def aVp:qT (Specs):=⟨⟩
def pl:LV->Option Value
 | .v x=>ai x
 | .bl b=>ai (.bool b)
 | .ki k n=>ai (ah k n)
 | .fn f []=>ai (.func (.func f) #[] #[])
 |_=>ak
def B2:aE->Option (List Value)
 | []=>ai []
 |x::xs=>match pl x,B2 xs with
  |some y,ai ys=>ai (y::ys)
  |_,_=>ak
def norm:LV->LV
 | .bl b=> .v (.bool b)
 | .ki k n=> .v (ah k n)
 |x=>x
def K2 (l:aE):LV:=match B2 l with|some ys=> .v (.agg ys.toArray) |none=> .agg<|l.map norm
def RB (l:aE):LV:=match B2 l with|some ys=> .v (.tuple ys.toArray) |none=> .AQ<|l.map norm
def K7:aW->Bool
 | .agg _=>X
 | .tuple _=>X
 |_=>U
def X5:LV->Bool
 | .v x=>K7 x
 | .agg _=>X
 | .AQ _=>X
 | .junk=>X
 |_=>U
def CP:LV->Option (List LV)
 | .v x=>if x.cells.toList.all K7 then ai (x.cells.toList.map .v) else ak
 | .agg l=>if l.all X5 then ai l else ak
 | .AQ _=>ak
 | .junk=>ak
 |x=>ai [x]
def HK (P:aQ) (t:aT):bn:=(P.info? t).map (·.size)
def Ib (P:aQ) (t:aT):aVy:=(P.info? t).bind (·.zero)
def SJ (P:aQ) (t:aT):Option Bool:=(P.underlying t).map fun| .struct _=>U| .array _ _=>U|_=>X
def AM (G:B5) (F:aE):aVq->LV
 | .tmp t=>F.getD t .junk
 | .const x=>match x with| .bool b=> .bl b| ah k n=> .ki k n|y=> .v y
 | .global g=>match G g with|some (n,f)=> .xq n (λj=> .v<|f j) |none=> .junk
 | .func f=> .fn f []
def setAt (l:aE) (off:aD) (cs:aE):aE:=l.take off++cs++l.drop (off+M cs)
def xB (k:aVv):LV->Option Int
 | .v (.int k' n)=>if k'=k then ai n else ak
 | .ki k' n=>if k'=k then ai n else ak
 |_=>ak
def xC:LV->Option Bool
 | .v (.bool b)=>ai b
 | .bl b=>ai b
 |_=>ak
def xA:LV->Option ByteArray
 | .v (.string s)=>ai s
 |_=>ak
def K8:(a b:Ty)->Option (PLift<|a=b)
 | .int k,.int k'=>if h:k=k' then ai ⟨Vg⟩ else ak
 | .bool,.bool=>ai ⟨rfl⟩
 | .str,.str=>ai ⟨rfl⟩
 | .sl x,.sl y=>match K8 x y with
  |some ⟨h⟩=>ai ⟨Vg⟩
  |none=>ak
 | .pair x y,.pair x' y'=>match K8 x x',K8 y y' with
  |some ⟨h⟩,ai ⟨h'⟩=>ai ⟨by rw [h,h']⟩
  |_,_=>ak
 |_,_=>ak
def Kr {a b:Ty}(h:a=b) (l:List a.D):List b.D:=h▸l
def N1 (e:Ty):LV->Option (List e.D)
 | .xl e' l=>match K8 e' e with
  |some ⟨h⟩=>ai (Kr h l)
  |none=>ak
 | .v (.slice ak 0 0)=>ai []
 |_=>ak
def hd1 {α:Type}(f:LV->Option α):aE->Option α
 | [x]=>f x
 |_=>ak
def KA:(t:Ty)->aE->Option t.D
 | .int k,l=>hd1 (xB k) l
 | .bool,l=>hd1 xC l
 | .str,l=>hd1 xA l
 | .sl e,l=>hd1 (N1 e) l
 | .pair a b,l=>match KA a (l.take a.n),KA b (l.drop a.n) with
  |some x,ai y=>ai (x,y)
  |_,_=>ak
def FU (P:aQ) (H:aH) (t:aT) (x:LV):T LV:=
 match SJ P t,HK P t with
 | some U,ai n=>
  match x with
  | .own k off=>match H[k]? with
   |some b=>if b.E0=U/\off+n<=M b.c then .ok (K2<|(b.c.drop off).take n) else .no
   |none=> .no
  | .xq m f=>if n<=m then .ok (K2<|(av n).map f) else .no
  | .op k es i j=>match H[k]? with
   |some ⟨_,_,.vec e l,_⟩=>if e.n=es/\j+n<=es then .req (i<M l) (.ok<|K2<|((Br e<|l.getD i e.dflt).drop j).take n) else .no
   |_=> .no
  |_=> .no
 | some X,_=>
  match x with
  | .own k off=>match H[k]? with
   |some b=>if b.E0=U then (match b.c[off]? with
    |some y=> .ok y
    |none=> .no) else .no
   |none=> .no
  | .xq m f=>if 0<m then .ok (f 0) else .no
  | .op k es i j=>match H[k]? with
   |some ⟨_,_,.vec e l,_⟩=>if e.n=es then .req (i<M l) (match (Br e<|l.getD i e.dflt)[j]? with
    |some y=> .ok y
    |none=> .no) else .no
   |_=> .no
  |_=> .no
 |_,_=> .no
def TX (P:aQ) (H:aH) (t:aT) (x y:LV):T (List AB):=
 match HK P t,CP y with
 | some n,ai cs=>match x with
  | .own k off=>match H[k]? with
   |some b=>if b.E0=U/\b.p=X/\M cs=n/\off+n<=M b.c then .ok (H.set k ⟨setAt b.c off cs,b.t,b.k,b.p⟩) else .no
   |none=> .no
  | .op k es i j=>match H[k]? with
   |some ⟨_,bt,.vec e l,X⟩=>if e.n=es/\M cs=n/\j+n<=es then .req (i<M l) (match KA e (setAt (Br e<|l.getD i e.dflt) j cs) with
    |some d=> .ok (H.set k ⟨[],bt,.vec e<|l.set i d,X⟩)
    |none=> .no) else .no
   |_=> .no
  |_=> .no
 |_,_=> .no
def Wu (P:aQ) (s:aT) (x:LV) (i:aD):T LV:=
 match P.underlying s with
 | some (.struct fs)=>match fs[i]? with
  | some f=>match HK P f.type with
   |some (m+1)=>match x with
    | .own k off=> .ok (.own k<|off+f.offset)
    | .op k es i j=> .ok (.op k es i<|j+f.offset)
    | .xq n g=>if f.offset+(m+1)<=n then .ok (.xq (n-f.offset) λj=>g<|f.offset+j) else .no
    |_=> .no
   |_=> .no
  |none=> .no
 |_=> .no
def wv (P:aQ) (t:aT) (l:aE) (i:aD):T LV:=
 match P.underlying t with
 | some (.struct fs)=>match fs[i]? with
  | some f=>match SJ P f.type,HK P f.type with
   |some U,ai n=>if f.offset+n<=M l then .ok (K2<|(l.drop f.offset).take n) else .no
   |some X,_=>match l[f.offset]? with
    |some y=> .ok y
    |none=> .no
   |_,_=> .no
  |none=> .no
 |_=> .no
def xG:LV->Option (List LV)
 | .agg l=>ai l
 | .v (.agg ys)=>ai (ys.toList.map .v)
 |_=>ak
def wk (P:aQ) (t:aT) (l:aE) (i:LV):T LV:=
 match P.underlying t,i with
 |some (.array len e),.ki _ j=>match SJ P e,HK P e,l[j.toNat]? with
  |some X,ai 1,ai y=>if 0<=j/\j<(len:Y) then .ok y else .no
  |_,_,_=> .no
 |_,_=> .no
def chain (n:Y) (g:aD->LV):aD->aD->T LV
 |0,_=> .no
 |m+1,j=> .br (n==(j:Y)) (.ok<|g j)<|chain n g m<|j+1
def Uv:LV->Bool
 | .ki _ _=>U
 |_=>X
def addN:aD->aD->Nat
 |0,n=>n
 |m+1,n=>m+1+n
def aw9:∀(m n:aD),addN m n=m+n
 |0,n=>by simp [addN]
 |m+1,n=>rfl
def Tb (P:aQ) (t:aT) (x:LV) (c:aN) (i:LV):T LV:=
 match pl i with
 | some (.int _ n)=>match P.underlying t with
  | some (.array len e)=>match HK P e with
   |some (m+1)=>match x with
    | .op k es i j=>if c then (if 0<=n/\n<len then .ok (.op k es i<|j+n.toNat*(m+1)) else .no) else chain n (λq=> .op k es i<|j+q*(m+1)) len 0
    | .own k off=>if c then (if 0<=n/\n<len then .ok (.own k<|off+n.toNat*(m+1)) else .no) else chain n (λj=> .own k<|off+j*(m+1)) len 0
    | .xq q g=>if len*(m+1)<=q then (if c then (if 0<=n/\n<len then .ok (.xq (m+1) λj=>g<|n.toNat*(m+1)+j) else .no) else if len=3 then chain n (λi=> .xq (m+1) λj=>g<|i*(m+1)+j) len 0 else .req (0<=n/\n<(len:Y)) (.ok<|.xq (m+1) λj=>g<|n.toNat*(m+1)+j)) else .no
    |_=> .no
   |_=> .no
  |some (.slice e)=>match HK P e,x with
   |some (m+1),.xl e' l=>if e'.n=m+1 then .req (0<=n/\n<(M l:Y)) (.ok<|.xq (m+1) λj=>(Br e'<|gx l n).getD j .junk) else .no
   |some (m+1),.os k es off len=>if es=m+1 then .req (0<=n/\n<(len:Y)) (.ok<|.op k es (addN off n.toNat) 0) else .no
   |some (m+1),.oc k es off len cp=>if es=m+1 then (if c then (if 0<=n/\n<(len:Y) then .ok (.own k<|(off+n.toNat)*(m+1)) else .no) else chain n (λj=> .own k<|(off+j)*(m+1)) len 0) else .no
   |_,_=> .no
  |_=> .no
 |_=> .no
def Kp (place:aD->aVM) (cells:aE):bq->Option (List LV)
 | []=>ai cells
 |(i,x)::rest=>match place i,CP x with
  |some (off,size),ai cs=>if M cs=size/\off+size<=M cells then Kp place (setAt cells off cs) rest else ak
  |_,_=>ak
def aQN (P:aQ) (t:aT):Option (Nat->Option (Nat×Nat)):=
 match P.underlying t with
 |some (.struct fields)=>(fields.toList.mapM λf=>(P.info? f.type).map λi=>(f.offset,i.size)).map λps=>λi=>ps.toArray[i]?
 |some (.array _ e)=>(P.info? e).map λie=>λi=>ai (i*ie.size,ie.size)
 |_=>ak
def Ni (P:aQ) (t:aT) (parts:bq):T LV:=
 match Ib P t,aQN P t with
 |some z,ai pf=>match Kp pf (z.cells.toList.map .v) parts with
  |some cs=> .ok (if parts.any (λq=>Uv q.2) then .agg cs else K2 cs)
  |none=> .no
 |_,_=> .no
def I4 (G:B5) (F:aE):aVq->LV
 | .const x=>norm (AM G F<|.const x)
 |o=>AM G F o
def C4 (H:aH):aD->LV->LV
 |0,_=> .junk
 |d+1,.own k off=>match H[k]? with
  |some b=>if b.E0 then .xq (M b.c-off) (λj=>C4 H d<|b.c.getD (off+j) .junk) else .junk
  |none=> .junk
 |_+1,.os k es off n=>match H[k]? with
  |some ⟨_,_,.vec e l,_⟩=>if e.n=es then .xl e ((l.drop off).take n) else .junk
  |_=> .junk
 |_+1,.op k es i j=>match H[k]? with
  |some ⟨_,_,.vec e l,_⟩=>if e.n=es then .xq (es-j) (λq=>(Br e<|l.getD i e.dflt).getD (j+q) .junk) else .junk
  |_=> .junk
 |d+1,.om k=>match H[k]? with
  |some ⟨_,_,.mp kd ks vs,_⟩=> .mp kd ks (vs.map<|C4 H d)
  |_=> .junk
 |_+1,.v x=> .v x
 |_+1,.bl x=> .v (.bool x)
 |_+1,.ki k n=> .v (ah k n)
 |d+1,.agg l=> .agg (l.map<|C4 H d)
 |d+1,.AQ l=> .AQ (l.map<|C4 H d)
 |d+1,.fn f l=> .fn f (l.map<|C4 H d)
 |d+1,.fb f l=> .fb f (l.map<|C4 H d)
 |_+1,.xq n f=> .xq n f
 |_+1,.xl e l=> .xl e l
 |d+1,.mp kd ks vs=> .mp kd ks (vs.map<|C4 H d)
 |_+1,.oc ..=> .junk
 |_+1,.CQ _=> .junk
 |_+1,.junk=> .junk
def GN {α:Type}(g:α->T Unit):List α->T Unit
 | []=> .ok ()
 |x::xs=>(g x).bind λ_=>GN g xs
def EX (H:aH):aD->LV->T Unit
 |0,_=> .ok ()
 |d+1,.own k _=>match H[k]? with
  |some b=>GN (EX H d) b.c
  |none=> .ok ()
 |_+1,.os k _ off n=>match H[k]? with
  |some ⟨_,_,.vec _ l,_⟩=> .req (off+n<=M l) (.ok ())
  |_=> .ok ()
 |_+1,.op k _ i _=>match H[k]? with
  |some ⟨_,_,.vec _ l,_⟩=> .req (i<M l) (.ok ())
  |_=> .ok ()
 |d+1,.om k=>match H[k]? with
  |some ⟨_,_,.mp _ _ vs,_⟩=>GN (EX H d) vs
  |_=> .ok ()
 |d+1,.agg l=>GN (EX H d) l
 |d+1,.AQ l=>GN (EX H d) l
 |d+1,.fn _ l=>GN (EX H d) l
 |d+1,.fb _ l=>GN (EX H d) l
 |d+1,.mp _ _ l=>GN (EX H d) l
 |_+1,_=> .ok ()
mutual
def noOwn:LV->Bool
 | .own _ _=>X
 | .os ..=>X
 | .op ..=>X
 | .om _=>X
 | .oc ..=>X
 | .CQ _=>X
 | .agg l=>noOwnL l
 | .AQ l=>noOwnL l
 | .fn _ l=>noOwnL l
 | .fb _ l=>noOwnL l
 | .mp _ _ l=>noOwnL l
 |_=>U
def noOwnL:aE->Bool
 | []=>U
 |x::xs=>noOwn x&&noOwnL xs
end
/-Which own blocks a value names. -/
mutual
def owns:LV->List Nat
 | .own k _=>[k]
 | .os k _ _ _=>[k]
 | .op k _ _ _=>[k]
 | .om k=>[k]
 | .oc k _ _ _ _=>[k]
 | .CQ k=>[k]
 | .agg l=>ownsL l
 | .AQ l=>ownsL l
 | .fn _ l=>ownsL l
 | .fb _ l=>ownsL l
 | .mp _ _ l=>ownsL l
 |_=>[]
def ownsL:aE->List Nat
 | []=>[]
 |x::xs=>owns x++ownsL xs
end
def AB.owns (b:AB):aI:=ownsL b.c++(match b.k with| .mp _ _ vs=>ownsL vs|_=>[])
def reach (H:aH):aD->aI->aI->List Nat
 |0,_,acc=>acc
 |_+1,[],acc=>acc
 |d+1,k::ks,acc=>if acc.contains k then reach H d ks acc else reach H d (ks++(match H[k]? with|some b=>b.owns|none=>[])) (acc++[k])
def Kd (H:aH) (ks:aI) (l:aE):aN:=
 (ownsL l).all ks.contains&&ks.all (λk=>match H[k]? with|some b=>b.owns.all ks.contains|none=>X)
def Fs (ks:aI):aD->aH->List AB
 |_,[]=>[]
 |k,b::bs=>(if ks.contains k then ⟨b.c,b.t,b.k,U⟩ else b)::Fs ks (k+1) bs
def SC (x:LV):aN:=(pl x).isSome
def Qw:T LV->T LV
 | .ok x=>if SC x then .ok x else .no
 | .br b t e=> .br b (Qw t) (Qw e)
 | .req p t=> .req p (Qw t)
 | .no=> .no
def jh (c a b:LV):T LV:=
 match c with
 | .bl U=> .ok a
 | .bl X=> .ok b
 | .v (.bool g)=>match norm a,norm b with
  | .v (ah k n),.v (.int k' m)=>if k=k' then .ok (.v<|ah k (if g then n else m)) else .no
  | .v (.bool p),.v (.bool q)=> .ok (.v<|.bool (if g then p else q))
  |_,_=> .br g (.ok a) (.ok b)
 |_=> .no
def Vi:bp->Bool
 | []=>U
 | [p]=>p
 |p::ps=>p&&Vi ps
mutual
def eqV (P:aQ):aD->aT->aW->aW->Option Bool
 |0,_,_,_=>ak
 |d+1,t,x,y=>match P.underlying t,x,y with
  |some (.int _),ah k a,.int k' b=>if k=k' then ai (a==b) else ak
  |some .bool,.bool a,.bool b=>ai (a==b)
  |some .string,.string a,.string b=>ai (a==b)
  |some (.struct fs),.agg xs,.agg ys=>if P.stoodInHeld t then ak else (eqFs P d xs ys fs.toList).map Vi
  |_,_,_=>ak
def eqFs (P:aQ):aD->aY->aY->aVT->Option (List Bool)
 |_,_,_,[]=>ai []
 |0,_,_,_::_=>ak
 | d+1,xs,ys,f::fs=>if f.name= "_" then ak else match JA P (part f.type xs f.offset),JA P (part f.type ys f.offset) with
  |some a,ai b=>match eqV P d f.type a b,eqFs P d xs ys fs with
   |some p,ai ps=>ai (p::ps)
   |_,_=>ak
  |_,_=>ak
end
def aT5:BinOp->Option Bool
 | .eql=>ai X
 | .neq=>ai U
 |_=>ak
def R2 (P:aQ) (o:Op) (e:aVq->aW):Option (Option Value):=
 match o with
 | .binOp op t x y _=>match aT5 op with
  | some neg=>match e x,e y with
   | .agg xs,.agg ys=>ai (match JA P (eqGuard op t x y (.agg xs)<|.agg ys),eqV P 100 t (.agg xs) (.agg ys) with
    |some _,ai b=>ai (.bool (match neg with|true=>!b|false=>b))
    |_,_=>ak)
   |_,_=>ak
  |none=>ak
 |_=>ak
def OS (P:aQ) (o:aU) (e:aVq->aW):aVy:=
 match R2 P o.op e with
 |some r=>r
 |none=>match JA P (execOp e o) with
  |some (.value y)=>ai y
  |_=>ak
def cX:LV->Bool
 | .ki _ _=>U
 | .bl _=>U
 | .v (.slice ak _ _)=>U
 |_=>X
def kn:aW->LV
 | ah k n=> .ki k n
 | .bool b=> .bl b
 |y=> .v y
def Dl (P:aQ) (G:B5) (F:aE) (o:aU):T LV:=
 if o.op.operands.toList.all (λx=>SC<|AM G F x) then
  match OS P o (λx=>(pl<|AM G F x).getD undef) with
  |some y=> .ok (if o.op.operands.toList.all (λx=>cX<|AM G F x) then kn y else .v y)
  |none=> .no
 else .no
def V4 (r:aT->Option Ty):bu->Option Ty
 | []=>ak
 | [t]=>r t
 |t::ts=>match r t,V4 r ts with
  |some a,ai b=>ai (.pair a b)
  |_,_=>ak
def Ii (P:aQ):aD->aT->Option Ty
 |0,_=>ak
 |m+1,t=>match P.underlying t with
  |some (.int k)=>ai (.int k)
  |some .bool=>ai .bool
  |some .string=>ai .str
  |some (.struct fs)=>V4 (Ii P m) (fs.toList.map (·.type))
  |some (.array n e)=>V4 (Ii P m) (au n e)
  |some (.slice e)=>(Ii P m e).map .sl
  |_=>ak
def cY (e:Ty):aD->aE->Option (List e.D)
 |0,_=>ai []
 |n+1,cs=>match KA e (cs.take e.n),cY e n (cs.drop e.n) with
  |some d,ai r=>ai (d::r)
  |_,_=>ak
def L6 (P:aQ) (t:aT) (len:aD) (parts:bq):T LV:=
 match P.underlying t with
 |some (.slice e)=>match Ii P 8 e,HK P e,Ib P e with
  | some ty,ai m,ai z=>if ty.n=m/\z.cells.size=m/\0<len*m/\len*m<=2^24 then
    (match Kp (λi=>ai (i*m,m)) ((av<|len*m).map λi=> .v<|z.cells[i%z.cells.size]!) parts with
    |some cs=>match cY ty len cs with
     |some l=> .ok (.xl ty l)
     |none=> .no
    |none=> .no) else .no
  |_,_,_=> .no
 |_=> .no
def WW (P:aQ) (t:aT):aN:=
 match P.underlying t with
 |some (.slice e)=>(Ii P 8 e).isSome
 |_=>X
def oU (P:aQ) (H:aH) (t:aT) (len:aD) (parts:bq):T (LV×List AB):=
 match P.underlying t with
 |some (.slice e)=>match HK P e,Ib P e with
  | some m,ai z=>if z.cells.size=m/\0<len*m/\len*m<=2^24 then
    (match Kp (λi=>ai (i*m,m)) ((av<|len*m).map λi=> .v<|z.cells[i%z.cells.size]!) parts with
    |some cs=> .ok (.oc (M H) m 0 len len,H++[⟨cs,e,.cl,X⟩])
    |none=> .no) else .no
  |_,_=> .no
 |_=> .no
def oT (P:aQ) (H:aH) (t:aT) (len:aD) (parts:bq):T (LV×List AB):=
 if Kd H (reach H 64 (ownsL<|parts.map (·.2)) []) (parts.map (·.2)) then
  ((GN (EX H 6)<|parts.map (·.2)).bind λ_=>L6 P t len<|parts.map λq=>(q.1,C4 H 6 q.2)).bind λy=> .ok (y,Fs (reach H 64 (ownsL<|parts.map (·.2)) []) 0 H)
 else .no
def FT (H:aH) (e:Ty):LV->T (List e.D)
 | .os k es off n=>match H[k]? with
  |some ⟨_,_,.vec e' l,_⟩=>if e'.n=es then (match K8 e' e with
   |some ⟨h⟩=> .req (off+n<=M l) (.ok<|Kr h<|(l.drop off).take n)
   |none=> .no) else .no
  |_=> .no
 |x=>match N1 e x with
  |some l=> .ok l
  |none=> .no
def aTV (P:aQ) (t:aT):bn:=(P.info? t).map (·.bytes)
def Pc (P:aQ) (t:aT):Option (TypeId×Ty×Nat×Nat):=
 match P.underlying t with
 |some (.slice e)=>match Ii P 8 e,HK P e,aTV P e with
  |some ty,ai m,ai FH=>if ty.n=m/\0<m then ai (e,ty,m,FH) else ak
  |_,_,_=>ak
 |_=>ak
def cV (P:aQ) (H:aH) (t:aT) (len:aD) (parts:bq):T (LV×List AB):=
 if Kd H (reach H 64 (ownsL<|parts.map (·.2)) []) (parts.map (·.2)) then
  ((GN (EX H 6)<|parts.map (·.2)).bind λ_=>L6 P t len<|parts.map λq=>(q.1,C4 H 6 q.2)).bind λy=>match P.underlying t,y with
   |some (.slice e),.xl ty l=> .ok (.os (M H) ty.n 0 len,Fs (reach H 64 (ownsL<|parts.map (·.2)) []) 0 H++[⟨[],e,.vec ty l,X⟩])
   |_,_=> .no
 else .no
def aQi (Γ:aVp) (t:aT):aN:=(Γ<|1000000+t).isSome
def U0 (P:aQ) (H:aH) (t:aT) (n c:LV):T (LV×List AB):=
 match Pc P t,pl n,pl c with
 | some (e,ty,m,FH),ai (ah J n),ai (ah J c)=>match Ib P e with
  |some z=>match KA ty (z.cells.toList.map .v) with
   |some d=>if z.cells.size=m then .req (0<=n/\n<=c/\FH*c<=2^48/\c<2^63) (.ok (.os (M H) m 0 n.toNat,H++[⟨[],e,.vec ty<|au n.toNat d,X⟩])) else .no
   |none=> .no
  |none=> .no
 |_,_,_=> .no
def Ww (P:aQ) (H:aH) (t:aT):T (LV×List AB):=
 match Pc P t with
 |some (e,ty,m,_)=> .ok (.os (M H) m 0 0,H++[⟨[],e,.vec ty [],X⟩])
 |none=> .no
def Lj (P:aQ) (H:aH) (t tx:aT) (x y:LV):T (LV×List AB):=
 match Pc P t with
 | some (e,ty,m,FH)=>match P.underlying tx,Ib P e with
  | some (.slice _),ai z=>if z.cells.size=m then (FT H ty y).bind (λq=>match x with
    | .v (.slice ak 0 0)=> .req ((M q:Y)*FH<=2^47/\(M q:Y)<2^62) (.ok (.os (M H) m 0<|M q,H++[⟨[],e,.vec ty q,X⟩]))
    | .os k es off n=>match H[k]? with
     |some ⟨_,bt,.vec e' l,X⟩=>match K8 e' ty with
      | some ⟨h⟩=>if es=m/\bt=e then .req (off+n=M l/\((n+M q:aD):Y)*FH<=2^47/\((n+M q:aD):Y)<2^62)
        (.ok (.os (M H) m 0<|n+M q,H.set k ⟨[],e,.dead,X⟩++[⟨[],e,.vec ty<|Kr h (l.drop off)++q,X⟩])) else .no
      |none=> .no
     |_=> .no
    |_=> .no) else .no
  |_,_=> .no
 |none=> .no
def BG {α:Type}(q l:List α):List α:=q++l.drop (M q)
def Xs (P:aQ) (H:aH) (t tx:aT) (x y:LV):T (LV×List AB):=
 match Pc P t,P.underlying tx with
 | some (_,ty,m,_),ai (.slice _)=>match x with
  | .os k es 0 n=>match H[k]? with
   |some ⟨c,bt,.vec e' l,X⟩=>match K8 e' ty with
    |some ⟨h⟩=>if es=m then (FT H ty y).bind λq=> .req (n=M l/\M q<=n) (.ok (.v<|ah J (M q:Y),H.set k ⟨c,bt,.vec ty<|BG q<|Kr h l,X⟩)) else .no
    |none=> .no
   |_=> .no
  |_=> .no
 |_,_=> .no
def uT (P:aQ) (t:aT) (x:LV) (lo hi:aVN):T LV:=
 match P.underlying t with
 | some (.slice e)=>match HK P e with
  | some (m+1)=>
   let b (o:aVN) (d:Y):Option Int:=match o with
    |none=>ai d
    |some y=>match pl y with
     |some (.int _ n)=>ai n
     |_=>ak
   match x with
   | .xl ty l=>match b lo 0,b hi (M l:Y) with
    |some i,ai j=>if ty.n=m+1 then .req (0<=i/\i<=j/\j<=(M l:Y)) (.ok<|.xl ty<|(l.drop i.toNat).take<|j.toNat-i.toNat) else .no
    |_,_=> .no
   | .os k es off n=>match b lo 0,b hi (n:Y) with
    |some i,ai j=>if es=m+1 then .req (0<=i/\i<=j/\j<=(n:Y)) (.ok<|.os k es (off+i.toNat)<|j.toNat-i.toNat) else .no
    |_,_=> .no
   |_=> .no
  |_=> .no
 |_=> .no
def sd (P:aQ) (t:aT) (x:LV) (lo:aVN) (hi mx:LV):T LV:=
 match P.underlying t with
 | some (.slice e)=>match HK P e with
  | some (m+1)=>match x with
   | .xl ty l=>match (match lo with|none=>ai 0|some y=>match pl y with|some (.int _ n)=>ai n|_=>none:Option Int),pl hi,pl mx with
    |some i,ai (.int _ j),ai (.int _ q)=>if ty.n=m+1 then .req (0<=i/\i<=j/\j<=(M l:Y)/\q=j) (.ok<|.xl ty<|(l.drop i.toNat).take<|j.toNat-i.toNat) else .no
    |_,_,_=> .no
   |_=> .no
  |_=> .no
 |_=> .no
def dq (kd:aVv) (n:Y) (z:aW):aC->aE->T LV
 |k::ks,v::vs=> .br (n==k) (.ok v) (dq kd n z ks vs)
 |_,_=> .ok<|.v z
def wo:(e:Ty)->e.D->Value
 | .int k,n=> ah k n
 | .str,s=> .string s
 | .bool,b=> .bool b
 | .sl _,_=>undef
 | .pair _ _,_=>undef
def Mz:(e:Ty)->aW->Option e.D
 | .int k,v=>match v with
  | .int k' n=>if k'=k then ai n else ak
  |_=>ak
 | .str,v=>match v with
  | .string s=>ai s
  |_=>ak
 |_,_=>ak
def oV:(e:Ty)->e.D->List e.D->Bool
 | .int _,x,l=>List.contains (α:=Int) l x
 | .str,x,l=>List.contains (α:=ByteArray) l x
 |_,_,_=>X
def cN (P:aQ) (t:aT):Option Ty:=
 match P.underlying t with
 |some (.map kt et)=>match P.underlying et,P.underlying kt,Ib P et with
  |some .bool,ai (.int k),ai (.bool X)=>ai (.int k)
  |some .bool,ai .string,ai (.bool X)=>ai .str
  |_,_,_=>ak
 |_=>ak
def ac8 (P:aQ) (t:aT) (e:Ty) (l:List e.D) (i:LV):T LV:=
 match cN P t,pl i with
 |some e',ai v=>match K8 e' e,Mz e v with
  |some _,ai d=> .ok (.v<|.bool<|oV e d l)
  |_,_=> .no
 |_,_=> .no
def U1 (P:aQ) (H:aH) (t:aT) (x i:LV):T LV:=
 match P.underlying t with
 | some (.map kt et)=>match P.underlying kt,Ib P et,pl i with
  | some (.int kd),ai z,ai (.int kd' n)=>if kd'=kd/\K7 z=U then (match x with
   | .mp kd2 ks vs=>if kd2=kd/\M ks=M vs then dq kd n z ks vs else .no
   | .om k=>match H[k]? with
    |some ⟨_,_,.mp kd2 ks vs,_⟩=>if kd2=kd/\M ks=M vs then dq kd n z ks vs else .no
    |_=> .no
   |_=> .no) else .no
  |_,_,_=> .no
 |_=> .no
def dW (kd:aVv) (n:Y) (z:aW):aC->aE->T LV
 |k::ks,v::vs=> .br (n==k) (.ok<|.AQ [norm v,.bl U]) (dW kd n z ks vs)
 |_,_=> .ok<|.AQ [.v z,.bl X]
def XT (P:aQ) (H:aH) (t:aT) (x i:LV):T LV:=
 match P.underlying t with
 | some (.map kt et)=>match P.underlying kt,Ib P et,pl i with
  | some (.int kd),ai z,ai (.int kd' n)=>if kd'=kd/\K7 z=U then (match x with
   | .mp kd2 ks vs=>if kd2=kd/\M ks=M vs then dW kd n z ks vs else .no
   | .om k=>match H[k]? with
    |some ⟨_,_,.mp kd2 ks vs,_⟩=>if kd2=kd/\M ks=M vs then dW kd n z ks vs else .no
    |_=> .no
   |_=> .no) else .no
  |_,_,_=> .no
 |_=> .no
def Xg (P:aQ) (H:aH) (t:aT) (x i:LV):T LV:=
 match x with
 | .om k=>match H[k]? with
  |some ⟨_,_,.st e l,_⟩=>ac8 P t e l i
  |_=>U1 P H t x i
 |_=>U1 P H t x i
def Uw (P:aQ) (H:aH) (t:aT) (x i y:LV):T (List AB):=
 match P.underlying t with
 | some (.map kt _)=>match P.underlying kt,pl i,x with
  |some (.int kd),ai (.int kd' n),.om k=>match H[k]? with
   |some ⟨_,bt,.mp kd2 ks vs,X⟩=>if kd'=kd/\kd2=kd/\M ks=M vs/\ks.contains n=X then .ok (H.set k ⟨[],bt,.mp kd (ks++[n])<|vs++[y],X⟩) else .no
   |_=> .no
  |_,_,_=> .no
 |_=> .no
def insL (P:aQ) (H:aH) (t:aT) (x i y:LV):T (List AB):=
 match x with
 | .om k=>match H[k]? with
  | some ⟨_,bt,.st e l,X⟩=>match cN P t,pl i,y with
   |some e',ai v,.bl U=>match K8 e' e,Mz e v with
    |some _,ai d=> .req (oV e d l=X) (.ok<|H.set k ⟨[],bt,.st e<|l++[d],X⟩)
    |_,_=> .no
   |_,_,_=> .no
  |_=>Uw P H t x i y
 |_=>Uw P H t x i y
def kindOf (P:aQ) (t:aT):Option IntKind:=
 match P.underlying t with
 |some (.map kt _)=>match P.underlying kt with
  |some (.int kd)=>ai kd
  |_=>ak
 |_=>ak
def Lh (P:aQ):aD->aT->Bool
 |0,_=>X
 |m+1,t=>match P.underlying t with
  |some (.int _) |some .bool|some .string=>U
  |some (.struct fs)=>fs.toList.all (λf=>Lh P m f.type)
  |some (.array _ e)=>Lh P m e
  |some (.tuple ts)=>ts.toList.all (Lh P m)
  |_=>X
def JW (s:bA) (n:Y):Y:=(((s[n.toNat]?).getD 0).toNat:Y)
def Lq (P:aQ) (Γ:aVp) (H:aH) (o:aU) (g:bh) (l:aE):T (LV×List AB):=
 match P.funcs[g]? with
 | some fn=>if fn.body.isSome&&!(fn.name== "runtime.NumGoroutine") then
   match Γ g with
   |some S=>
    if noOwnL l then (S l).bind λy=> .ok (y,H)
    else if Lh P 8 o.type then ((GN (EX H 6) l).bind λ_=>Qw<|S<|l.map<|C4 H 6).bind λy=> .ok (y,H)
    else if Kd H (reach H 64 (ownsL l) []) l then ((GN (EX H 6) l).bind λ_=>S<|l.map<|C4 H 6).bind λy=> .ok (y,Fs (reach H 64 (ownsL l) []) 0 H) else .no
   |none=> .no
  else .no
 |none=> .no
def jZ (P:aQ) (x:LV) (name:aVQ):Option (FuncId×Value):=
 match pl x with
 |some (.iface t v)=>JA P (method (P.types.size+Made.depth) t v name)
 |_=>ak
def Ax (P:aQ) (G:B5) (Γ:aVp) (F:aE) (H:aH) (o:aU):T (LV×List AB):=
 match o.op with
 | .select _ _=> .no
 | .move x=> .ok (AM G F x,H)
 | .assign x=> .ok (AM G F x,H)
 | .pick c a b=>(jh (AM G F c) (AM G F a)<|AM G F b).bind λy=> .ok (y,H)
 | .alloc t=>match Ib P t with
  |some z=>match CP (.v z) with
   |some cs=> .ok (.own (M H) 0,H++[⟨cs,t,.cl,X⟩])
   |none=> .no
  |none=> .no
 | .box t x=>match CP (AM G F x) with
  |some cs=> .ok (.own (M H) 0,H++[⟨cs,t,.cl,X⟩])
  |none=> .no
 | .load t x=>(FU P H t<|AM G F x).bind λy=> .ok (y,H)
 | .store t x y=>(TX P H t (AM G F x)<|AM G F y).bind λH'=> .ok (.v undef,H')
 | .fieldAddr s x i=>(Wu P s (AM G F x) i).bind λy=> .ok (y,H)
 | .indexAddr t x i=>(Tb P t (AM G F x) (Uv<|AM G F i)<|AM G F i).bind λy=> .ok (y,H)
 | .build t parts=>(Ni P t<|parts.toList.map λq=>(q.1,I4 G F q.2)).bind λy=> .ok (y,H)
 | .buildSlice t len parts=>if len=0 then (if parts.toList.isEmpty then Ww P H t else .no) else if WW P t then (if aQi Γ t then cV P H t len (parts.toList.map λq=>(q.1,AM G F q.2)) else if noOwnL ((parts.toList.map λq=>(q.1,AM G F q.2)).map (·.2)) then (L6 P t len<|parts.toList.map λq=>(q.1,AM G F q.2)).bind λy=> .ok (y,H) else oT P H t len (parts.toList.map λq=>(q.1,AM G F q.2))) else oU P H t len (parts.toList.map λq=>(q.1,AM G F q.2))
 | .makeSlice t n c=>U0 P H t (AM G F n) (AM G F c)
 | .slice t x lo hi ak=>match AM G F x with
  | .v _=>(Dl P G F o).bind λy=> .ok (y,H)
  |_=>(uT P t (AM G F x) (lo.map<|AM G F)<|hi.map<|AM G F).bind λy=> .ok (y,H)
 | .slice t x lo (ai hi) (ai mx)=>match AM G F x with
  | .v _=>(Dl P G F o).bind λy=> .ok (y,H)
  |_=>(sd P t (AM G F x) (lo.map<|AM G F) (AM G F hi)<|AM G F mx).bind λy=> .ok (y,H)
 | .makeMap t ak=>match cN P t with
  |some e=> .ok (.om<|M H,H++[⟨[],t,.st e [],X⟩])
  |none=>match kindOf P t with
   |some kd=> .ok (.om<|M H,H++[⟨[],t,.mp kd [] [],X⟩])
   |none=> .no
 | .insert t m i x=>(insL P H t (AM G F m) (AM G F i)<|AM G F x).bind λH'=> .ok (.v undef,H')
 | .mapUpdate t m i x=>(insL P H t (AM G F m) (AM G F i)<|AM G F x).bind λH'=> .ok (.v undef,H')
 | .lookup t x i X=>(Xg P H t (AM G F x)<|AM G F i).bind λy=> .ok (y,H)
 | .lookup t x i U=>match AM G F x with
  | .v _=>(Dl P G F o).bind λy=> .ok (y,H)
  |_=>(XT P H t (AM G F x)<|AM G F i).bind λy=> .ok (y,H)
 | .extract x i=>match AM G F x with
  | .AQ l=>match l[i]? with
   |some y=> .ok (y,H)
   |none=> .no
  |_=>(Dl P G F o).bind λy=> .ok (y,H)
 | .field t x i=>match AM G F x with
  | .agg l=>(wv P t l i).bind λy=> .ok (y,H)
  |_=>(Dl P G F o).bind λy=> .ok (y,H)
 | .makeFunc (.func f) first cap=>if first.toList.isEmpty then .ok (.fn f<|cap.toList.map<|AM G F,H) else if cap.toList.isEmpty then .ok (.fb f<|first.toList.map<|AM G F,H) else .no
 | .nilCheck x=>match AM G F x with
  | .own k off=> .ok (.own k off,H)
  | .op k es i j=> .ok (.op k es i j,H)
  | .xq n f=> .ok (.xq n f,H)
  | .fn f l=> .ok (.fn f l,H)
  | .fb f l=> .ok (.fb f l,H)
  |_=>(Dl P G F o).bind λy=> .ok (y,H)
 | .binOp .quo t x y _=>match pl (AM G F x),pl (AM G F y) with
  |some (ah k n),ai (.int k' m)=>if k=k' then .req (m≠0) (.ok (.v<|ah k<|k.wrap<|n.tdiv m,H)) else .no
  |_,_=> .no
 | .binOp .rem t x y _=>match pl (AM G F x),pl (AM G F y) with
  |some (ah k n),ai (.int k' m)=>if k=k' then .req (m≠0) (.ok (.v<|ah k<|n.tmod m,H)) else .no
  |_,_=> .no
 | .binOp .shl t x y _=>if Uv (AM G F y) then (Dl P G F o).bind λy=> .ok (y,H) else match pl (AM G F x),pl (AM G F y) with
  |some (ah k n),ai (.int _ m)=> .req (0<=m) (.ok (.v<|ah k<|k.wrap<|n*2^(min m.toNat k.bits),H))
  |_,_=> .no
 | .binOp .shr t x y _=>if Uv (AM G F y) then (Dl P G F o).bind λy=> .ok (y,H) else match pl (AM G F x),pl (AM G F y) with
  |some (ah k n),ai (.int _ m)=> .req (0<=m) (.ok (.v<|ah k<|n.fdiv<|2^(min m.toNat k.bits),H))
  |_,_=> .no
 | .index t x i=>match xG (AM G F x) with
  |some l=>(wk P t l<|AM G F i).bind λy=> .ok (y,H)
  |none=>match P.underlying t,pl<|AM G F x,pl (AM G F i) with
   |some .string,ai (.string s),ai (.int _ n)=> .req (0<=n/\n<(s.size:Y)) (.ok (.v<|ah ax<|JW s n,H))
   |_,_,_=> .no
 | .call {callee:=.value f,args,..}=>match AM G F f with
  | .fn g cap=>Lq P Γ H o g (args.toList.map (λx=>norm<|AM G F x)++cap)
  | .fb g fs=>Lq P Γ H o g (fs++args.toList.map (λx=>norm<|AM G F x))
  |_=> .no
 | .call {callee:=.invoke r name,args,..}=>match jZ P (AM G F r) name with
  |some (g,rv)=>Lq P Γ H o g (.v rv::args.toList.map (λx=>norm<|AM G F x))
  |none=> .no
 | .call {callee:=.builtin .append,args,argTypes}=>match args.toList.map (AM G F),argTypes.toList with
  | [x,y],[t,tx]=>Lj P H t tx x y
  |_,_=> .no
 | .call {callee:=.builtin .copy,args,argTypes}=>match args.toList.map (AM G F),argTypes.toList with
  | [x,y],[t,tx]=>Xs P H t tx x y
  |_,_=> .no
 | .call {callee:=.builtin .len,args,argTypes}=>match args.toList.map (AM G F),(argTypes[0]?).bind P.underlying with
  | [.os _ _ _ n],ai (.slice _)=> .ok (.v<|ah J n,H)
  | [.xl _ l],ai (.slice _)=> .ok (.v<|ah J (M l:Y),H)
  | [.oc _ _ _ n _],ai (.slice _)=> .ok (.ki J n,H)
  |_,_=>(Dl P G F o).bind λy=> .ok (y,H)
 |_=>(Dl P G F o).bind λy=> .ok (y,H)
def At (F:aE):bB->LV->List LV
 |some d,x=>F.set d x
 |none,_=>F
structure Hand where
 k:bh->aE->aH->T (LV×List AB)
 y:aD->aE->aH->T (LV×List AB)
def aVG:qT (Hand):=⟨⟩
def EN:aVG:=⟨λ_ _ _=> .no,λ_ _ _=> .no⟩
def zo (G:B5) (F:aE) (o:aU):Option (Nat×List LV):=
 match o.op with
 | .call {callee:=.value f,args,..}=>match AM G F f with
  | .CQ k=>ai (k,args.toList.map λx=>norm<|AM G F x)
  |_=>ak
 |_=>ak
def callOf (G:B5) (F:aE) (o:aU):Option (FuncId×List LV):=
 match o.op with
 | .call {callee:=.value f,args,..}=>match AM G F f with
  | .fn g cap=>ai (g,args.toList.map (λx=>norm<|AM G F x)++cap)
  | .fb g fs=>ai (g,fs++args.toList.map (λx=>norm<|AM G F x))
  | .v (.func (.func g) ⟨[]⟩ ⟨[]⟩)=>ai (g,args.toList.map λx=>norm<|AM G F x)
  |_=>ak
 |_=>ak
def KF (P:aQ) (G:B5) (Γ:aVp) (K:aVG) (F:aE) (H:aH) (o:aU):T (LV×List AB):=
 match callOf G F o with
 | some (g,l)=>match Γ g with
  |some _=>Ax P G Γ F H o
  |none=>match P.funcs[g]? with
   |some fn=>if fn.body.isSome&&!(fn.name== "runtime.NumGoroutine") then K.k g l H else .no
   |none=> .no
 |none=>match zo G F o with
  |some (k,l)=>K.y k l H
  |none=>Ax P G Γ F H o
def iu (ty:Ty):aE->Option (List<|List ty.D)
 | []=>ai []
 | x::xs=>match x with
  | .xl e l=>match K8 e ty,iu ty xs with
   |some ⟨h⟩,ai r=>ai (Kr h l::r)
   |_,_=>ak
  |_=>ak
def wj (P:aQ) (G:B5) (F:aE) (H:aH) (o o2:aU):Option (Int×Nat×LV):=
 if o.guard.isNone&&o2.guard.isNone then
  match o.op,o.dst,o2.op with
  | .indexAddr t x i,ai d,.load t2 (.tmp d2)=>
   if d2 =d/\d<M F/\SJ P t2=ai X then
    match P.underlying t,AM G F x,AM G F i with
    | some (.array len e),.own k off,.v (.int _ n)=>
     if HK P e=ai 1 then
      match H[k]? with
      | some b=>
       if b.E0=U/\off+len<=M b.c then
        match (b.c.drop off).take len with
        | .xl ty l::rest=>match iu ty (.xl ty l::rest) with
         |some ls=>ai (n,len,.xl ty<|ls.getD n.toNat [])
         |none=>ak
        |_=>ak
       else ak
      |none=>ak
     else ak
    |_,_,_=>ak
   else ak
  |_,_,_=>ak
 else ak
def Ij (P:aQ) (G:B5) (Γ:aVp) (K:aVG) (ops:aK):bw->aE->aH->T (List LV×List AB)
 | [],F,H=> .ok (F,H)
 | o::os,F,H=>
  let go (F:aE):T (List LV×List AB):=(KF P G Γ K F H o).bind λq=>Ij P G Γ K ops os (At F o.dst q.1) q.2
  let pass (F:aE):T (List LV×List AB):=Ij P G Γ K ops os (At F o.dst<|.v undef) H
  match o.guard with
  | none=>match os with
   | []=>go F
   |o2::os2=>match wj P G F H o o2 with
    |some (n,len,y)=> .req (0<=n/\n<(len:Y)) (Ij P G Γ K ops os2 (At (At F o.dst .junk) o2.dst y) H)
    |none=>go F
  | some (j,want)=>match (ops[j]?).bind (·.dst) with
   |some d=>match F.getD d .junk with
    | .bl b=>if b=want then go F else pass F
    | .v (.bool g)=>if want then .br g (go<|F.set d<|.bl U) (pass<|F.set d<|.bl X) else .br g (pass<|F.set d<|.bl U) (go<|F.set d<|.bl X)
    | .v (.tuple _)=>pass F
    |_=> .no
   |none=> .no
def nki:LV->LV
 | .ki k n=> .v (ah k n)
 |x=>x
def TO (b:aN):LV->LV->LV
 | .v (ah k n),.v (.int k' m)=>if k=k' then .v (ah k (if b then n else m)) else .junk
 | .bl U,.bl X=> .v (.bool b)
 | .bl X,.bl U=> .v (.bool !b)
 | .bl U,.bl U=> .bl U
 | .bl X,.bl X=> .bl X
 | .v (.bool p),.bl X=> .v (.bool<|b&&p)
 | .v (.bool p),.bl U=> .v (.bool (!b ||p))
 | .bl U,.v (.bool q)=> .v (.bool (b ||q))
 | .bl X,.v (.bool q)=> .v (.bool<|!b&&q)
 | .v (.bool p),.v (.bool q)=> .v (.bool (if b then p else q))
 |_,_=> .junk
def XS (b:aN) (x y:LV):LV:=TO b (nki x)<|nki y
def Ow (P:aQ) (o:aU):aN:=
 match o.op with
 | .alloc _| .box ..| .store ..| .makeSlice ..| .makeMap ..| .insert ..| .mapUpdate ..=>X
 | .buildSlice ..=>X
 | .call {callee:=.builtin .append,..}=>X
 | .call {callee:=.builtin .copy,..}=>X
 | .call {callee:=.value _,..}=>Lh P 8 o.type
 | .call {callee:=.invoke ..,..}=>Lh P 8 o.type
 |_=>U
def SD (P:aQ) (Γ:aVp) (o:aU):aN:=
 Ow P o&&(match o.op with
 | .call {callee:=.value (.func g),..}=>(Γ g).isSome
 | .call {callee:=.value _,..}=>X
 |_=>U)
def FY (ops:bw):aI:=ops.filterMap (·.dst)
def Ta (ds:aI) (b:aN) (F F1 F2:aE):aE:=(av<|M F).map λi=>if ds.contains i then XS b (F1.getD i .junk) (F2.getD i .junk) else F.getD i .junk
def fnX:LV->LV->Bool
 | .fn ..,.fn ..=>U
 | .fn ..,.v _=>U
 | .v _,.fn ..=>U
 |_,_=>X
def fnD (ds:aI) (F1 F2:aE):aN:=ds.any λd=>fnX (F1.getD d .junk)<|F2.getD d .junk
def Kh (ds:aI) (F:aE) (H:aH):T (List LV×List AB)->T (List LV×List AB)
 | .ok x=> .ok x
 | .no=> .no
 | .req p t=> .req p (Kh ds F H t)
 | .br b t e=>match Kh ds F H t,Kh ds F H e with
  | .ok x,.ok y=>if fnD ds x.1 y.1 then .br b (.ok x) (.ok y) else .ok (Ta ds b F x.1 y.1,H)
  |t',e'=> .br b t' e'
def aDI (P:aQ) (G:B5) (Γ:aVp) (K:aVG) (ops:aK) (F:aE) (H:aH):T (List LV×List AB):=
 if ops.toList.all (SD P Γ) then Kh (FY ops.toList) F H (Ij P G Γ K ops ops.toList F H) else Ij P G Γ K ops ops.toList F H
def isSp (P:aQ) (o:aU):aN:=
 match o.op with
 | .alloc _| .box ..| .store ..| .buildSlice ..| .makeSlice ..| .makeMap ..| .insert ..| .mapUpdate ..=>U
 | .call {callee:=.builtin .append,..}=>U
 | .call {callee:=.builtin .copy,..}=>U
 | .call {callee:=.value _,..}=>!Lh P 8 o.type
 | .call {callee:=.invoke ..,..}=>!Lh P 8 o.type
 |_=>X
def fD (sp:aU->aN):bp->bw->List Bool
 |fs,[]=>fs
 |fs,o::os=>fD sp (fs++[sp o ||o.after.toList.any (λe=>Region.binds .any e&&fs.getD e.on X)]) os
def amr (o:aU):aN:=
 match o.op with
 | .assign _=>U
 |_=>X
def MX (H:aH) (ops:bw) (F:aE):aD->aD->List Nat
 |0,_=>[]
 | d+1,t=>match ops.find? (λo=>o.dst==ai t&&!amr o) with
  | some o=>match o.op with
   | .fieldAddr _ (.tmp y) _=>MX H ops F d y
   | .indexAddr _ (.tmp y) _=>MX H ops F d y
   | .move (.tmp y)=>MX H ops F d y
   | .nilCheck (.tmp y)=>MX H ops F d y
   | .load _ (.tmp y)=>(MX H ops F d y).flatMap λk=>match H[k]? with
    |some b=>ownsL b.c
    |none=>[]
   |_=>[]
  |none=>match F.getD t .junk with
   | .own k _=>[k]
   | .op k _ _ _=>[k]
   | .os k _ _ _=>[k]
   | .om k=>[k]
   |_=>[]
def tracked (H:aH) (ops:bw) (F:aE):aI:=ops.flatMap λo=>match o.op with
 | .store _ (.tmp x) _=>MX H ops F 12 x
 | .insert _ (.tmp x) _ _=>MX H ops F 12 x
 | .mapUpdate _ (.tmp x) _ _=>MX H ops F 12 x
 | .call {callee:=.builtin .append,args,..}=>match args.toList with
  |(.tmp x)::_=>MX H ops F 12 x
  |_=>[]
 | .call {callee:=.builtin .copy,args,..}=>match args.toList with
  |(.tmp x)::_=>MX H ops F 12 x
  |_=>[]
 |_=>[]
def aoW (H:aH) (ops:bw) (F:aE) (tr:aI) (o:aU):aN:=
 match o.op with
 | .load _ (.tmp x)=>(MX H ops F 12 x).any tr.contains
 |_=>X
def Pz (b:AB):AB:=
 match b.k with
 | .cl=>⟨au (M b.c) .junk,b.t,.cl,b.p⟩
 |_=>⟨[],b.t,.dead,X⟩
def El (tr:aI):aD->aH->List AB
 |_,[]=>[]
 |k,b::bs=>(if tr.contains k then Pz b else b)::El tr (k+1) bs
def X6 (o:aU):aN:=
 match o.op with
 | .call {callee:=.value _,..}=>U
 | .call {callee:=.invoke ..,..}=>U
 |_=>X
def tR (G:B5) (F:aE) (tr:aI) (o:aU):aN:=
 match o.op with
 | .load _ x=>match AM G F x with
  | .own k _=>!tr.contains k
  | .op k _ _ _=>!tr.contains k
  |_=>U
 | .lookup _ x _ _=>match AM G F x with
  | .om k=>!tr.contains k
  |_=>U
 |_=>U
def aLn (t:T<|LV×List AB):T LV:=t.bind λq=> .ok q.1
def Xm (P:aQ) (G:B5) (Γ:aVp) (tr:aI) (F:aE) (Hm:aH) (o:aU):T LV:=
 if isSp P o || !tR G F tr o then .no
 else if X6 o then Qw (aLn<|Ax P G Γ F Hm o)
 else aLn (Ax P G Γ F Hm o)
def IF (P:aQ) (G:B5) (Γ:aVp) (ops:aK) (tr:aI) (H Hm:aH):bp->bw->aE->T (List LV×List AB)
 | f::fs,o::os,F=>
  if f then IF P G Γ ops tr H Hm fs os F else
  let go (F:aE):T (List LV×List AB):=(Xm P G Γ tr F Hm o).bind λy=>IF P G Γ ops tr H Hm fs os<|At F o.dst y
  let pass (F:aE):T (List LV×List AB):=IF P G Γ ops tr H Hm fs os<|At F o.dst<|.v undef
  match o.guard with
  |none=>go F
  | some (j,want)=>match (ops[j]?).bind (·.dst) with
   |some d=>match F.getD d .junk with
    | .bl b=>if b=want then go F else pass F
    | .v (.bool g)=>if want then .br g (go<|F.set d<|.bl U) (pass<|F.set d<|.bl X) else .br g (pass<|F.set d<|.bl U) (go<|F.set d<|.bl X)
    | .v (.tuple _)=>pass F
    |_=> .no
   |none=> .no
 |_,_,F=> .ok (F,H)
def Ec (G:B5) (F:aE) (o:aU):aI:=
 match o.op with
 | .store _ x _=>owns (AM G F x)
 | .insert _ x _ _=>owns (AM G F x)
 | .mapUpdate _ x _ _=>owns (AM G F x)
 | .call {callee:=.builtin .append,args,..}=>match args.toList.map (AM G F) with
  |x::_=>owns x
  | []=>[]
 | .call {callee:=.builtin .copy,args,..}=>match args.toList.map (AM G F) with
  |x::_=>owns x
  | []=>[]
 |_=>[]
def C3 (G:B5) (F:aE) (tr:aI) (n0:aD) (o:aU):aN:=(Ec G F o).all λk=>tr.contains k ||aq (n0<=k)
def p2x (P:aQ) (G:B5) (Γ:aVp) (ops:aK) (tr:aI) (n0:aD):bp->bw->aE->aH->T (List LV×List AB)
 | f ::fs,o::os,F,H=>
  if f then
   let go (F:aE):T (List LV×List AB):=if C3 G F tr n0 o then (Ax P G Γ F H o).bind λq=>p2x P G Γ ops tr n0 fs os (At F o.dst q.1) q.2 else .no
   let pass (F:aE):T (List LV×List AB):=p2x P G Γ ops tr n0 fs os (At F o.dst<|.v undef) H
   match o.guard with
   |none=>go F
   | some (j,want)=>match (ops[j]?).bind (·.dst) with
    |some d=>match F.getD d .junk with
     | .bl b=>if b=want then go F else pass F
     | .v (.bool g)=>if want then .br g (go<|F.set d<|.bl U) (pass<|F.set d<|.bl X) else .br g (pass<|F.set d<|.bl U) (go<|F.set d<|.bl X)
     | .v (.tuple _)=>pass F
     |_=> .no
    |none=> .no
  else p2x P G Γ ops tr n0 fs os F H
 |_,_,F,H=> .ok (F,H)
def HP (o:aU):aN:=
 match o.op with
 | .buildSlice ..=>U
 | .call {callee:=.value _,..}=>U
 |_=>X
def En (o:aU):aN:=
 match o.op with
 | .alloc _=>U
 | .box ..=>U
 | .makeSlice ..=>U
 | .buildSlice _ len parts=>(len==0)&&parts.toList.isEmpty
 |_=>X
def Ky (o:aU):aN:=
 match o.op with
 | .alloc _=>U
 | .box ..=>U
 | .load ..=>U
 |_=>X
def Hd (P:aQ) (G:B5) (Γ:aVp) (F:aE) (o:aU):T LV:=
 match o.op with
 | .buildSlice t len parts=>if aQi Γ t then .no else if noOwnL ((parts.toList.map λq=>(q.1,AM G F q.2)).map (·.2)) then L6 P t len (parts.toList.map λq=>(q.1,AM G F q.2)) else .no
 | .call {callee:=.value f,args,..}=>match AM G F f with
  | .fn g cap=>match P.funcs[g]? with
   | some fn=>if fn.body.isSome&&!(fn.name== "runtime.NumGoroutine") then
     match Γ g with
     |some S=>if noOwnL (args.toList.map (λx=>norm<|AM G F x)++cap) then S (args.toList.map (λx=>norm<|AM G F x)++cap) else .no
     |none=> .no
    else .no
   |none=> .no
  |_=> .no
 |_=> .no
def aaO (o:aU):aI:=(o.after.toList.filter<|Region.binds .any).map (·.on)
def xX:List (List Nat)->bw->List (List Nat)
 |acc,[]=>acc
 |acc,o::os=>xX (acc++[(aaO o++(aaO o).flatMap (λk=>acc.getD k [])).eraseDups]) os
def abE (A:List<|List Nat) (n i:aD):aN:=(av n).all λj=>j==i ||(A.getD i []).contains j ||(A.getD j []).contains i
def aoY (o:aU):aN:=
 match o.op with
 | .buildSlice _ len _=>len==0
 |_=>X
def FF (ops:aK) (i:aD) (o:aU):aN:=(HP o&&!aoY o)&&!abE (xX [] ops.toList) ops.size i
def G9 (P:aQ) (G:B5) (Γ:aVp) (ops:aK) (i:aD) (F:aE) (H:aH) (o:aU):T (LV×List AB):=
 if FF ops i o then (Hd P G Γ F o).bind λy=> .ok (y,H) else Ax P G Γ F H o
def Fg (P:aQ) (G:B5) (Γ:aVp) (ops:aK) (tr:aI) (n0:aD):aI->aE->aH->T (List LV×List AB)
 | [],F,H=> .ok (F,H)
 |i::is,F,H=>match ops[i]? with
  |some o=>if o.guard.isNone&&C3 G F tr n0 o then (G9 P G Γ ops i F H o).bind λq=>Fg P G Γ ops tr n0 is (At F o.dst q.1) q.2 else .no
  |none=> .no
def Il (o:aU):aN:=
 match o.op with
 | .move _=>U
 | .assign _=>U
 | .indexAddr ..=>U
 | .fieldAddr ..=>U
 | .build ..=>U
 | .extract ..=>U
 | .call {callee:=.builtin .max,..}=>U
 | .call {callee:=.builtin .min,..}=>U
 | .binOp op _ _ _ _=>(match op with
  | .add=>U
  | .sub=>U
  | .mul=>U
  |_=>X)
 |_=>X
def GS (o:aU):aN:=
 match o.op with
 | .load ..=>U
 |_=>X
def jS (o:aU):aN:=
 match o.op with
 | .store ..=>U
 | .alloc _=>U
 | .box ..=>U
 |_=>X
def M4 (o:aU):aN:=
 match o.op with
 | .call {callee:=.builtin .append,..}=>U
 |_=>X
def RA (ops:aK) (i j:aD):aN:=
 match ops[i]?,ops[j]? with
 |some x,ai y=>x.guard.isNone&&y.guard.isNone&&((Ky x&&FF ops j y) ||(FF ops i x&&Ky y) ||(FF ops i x&&FF ops j y) ||((Il x ||GS x)&&(Il y ||GS y)) ||(Il x&&jS y) ||(jS x&&Il y) ||(FF ops i x&&M4 y) ||(M4 x&&FF ops j y))&&x.apart ops y
 |_,_=>X
def Fw (i:aD):aI->List Nat
 | []=>[]
 |j::js=>if j=i then [] else j::Fw i js
def Ly (ops:aK):aD->aI->aX->Bool
 |0,R,listed=>R.isEmpty&&(az .any ops listed).isEmpty
 |n+1,R,listed=>!(az .any ops listed).isEmpty&&(az .any ops listed).all λi=>R.contains i&&(Fw i R).all (λj=>RA ops i j)&&Ly ops n (R.erase i) (listed.setIfInBounds i U)
def preB (ops:aK) (i p:aD):aN:=
 match ops[i]? with
 |some o=>o.after.toList.any λe=>Region.binds .any e&&e.on==p
 |none=>X
def jg (ops:aK) (R:aI):aD->aD->aD->Bool
 |0,i,j=>preB ops i j
 |n+1,i,j=>preB ops i j ||R.any λp=>preB ops i p&&jg ops R n p j
def gn (ops:aK) (R0:aI):aI->Bool
 | []=>U
 |j::R=>R.all (λi=>RA ops i j ||jg ops R0 4 i j)&&gn ops R0 R
def ab7 (ops:aK) (R:aI) (listed:aX):aN:=R.all λi=>
 match ops[i]? with
 |some o=>o.after.toList.all λe=>!Region.binds .any e ||(listed.getD e.on X ||(Fw i R).contains e.on)
 |none=>X
def og:aI->Bool
 | []=>U
 |x::l=>!l.contains x&&og l
def oN (ops:aK) (R:aI) (listed:aX):aN:=
 og R&&(listed.size==ops.size&&((av ops.size).all (λi=>R.contains i==!listed.getD i U)&&(R.all (λi=>aq<|i<ops.size)&&(gn ops R R&&ab7 ops R listed))))
def Wt (ops:aK) (flags:bp):aN:=letI a:=Qt (idxs X flags 0)<|Array.replicate ops.size X;letI b:=idxs U flags 0;Td ops flags&&(oN ops b a ||Ly ops (M b) b a)
def GL:AB:=⟨[],0,.dead,X⟩
def JN (P:aQ) (G:B5) (F:aE) (H:aH) (k:aD) (o:aU):T (LV×List AB):=
 match o.op with
 | .alloc t=>match Ib P t with
  |some z=>match CP (.v z) with
   |some cs=> .ok (.own k 0,H.set k ⟨cs,t,.cl,X⟩)
   |none=> .no
  |none=> .no
 | .box t x=>match CP (AM G F x) with
  |some cs=> .ok (.own k 0,H.set k ⟨cs,t,.cl,X⟩)
  |none=> .no
 | .makeSlice t n c=>match Pc P t,pl<|AM G F n,pl (AM G F c) with
  | some (e,ty,m,FH),ai (ah J n),ai (ah J c)=>match Ib P e with
   |some z=>match KA ty (z.cells.toList.map .v) with
    |some d=>if z.cells.size=m then .req (0<=n/\n<=c/\FH*c<=2^48/\c<2^63) (.ok (.os k m 0 n.toNat,H.set k ⟨[],e,.vec ty<|au n.toNat d,X⟩)) else .no
    |none=> .no
   |none=> .no
  |_,_,_=> .no
 | .buildSlice t len parts=>if len=0 then (if parts.toList.isEmpty then (match Pc P t with
  |some (e,ty,m,_)=> .ok (.os k m 0 0,H.set k ⟨[],e,.vec ty [],X⟩)
  |none=> .no) else .no) else .no
 |_=> .no
def ao8 (ops:aK) (t:Tmp):bn:=(av ops.size).find? λi=>match ops[i]? with
 |some o=>o.dst==ai t
 |none=>X
def apD (ops:aK) (o:aU):bn:=
 match o.op with
 | .call {callee:=.builtin .append,args,..}=>(match args.toList with
  | .tmp t::_=>ao8 ops t
  |_=>ak)
 |_=>ak
def apK (d n0:aD):aE->Bool
 | [.os k _ _ _,.xl _ _]=>k==n0+d
 |_=>X
def LI (G:B5) (ops:aK) (n0:aD) (F:aE) (H:aH) (o:aU):aN:=
 match o.op with
 | .call {callee:=.builtin .append,args,..}=>(match apD ops o with
  |some d=>aq (n0+ops.size<=M H)&&apK d n0 (args.toList.map<|AM G F)
  |none=>X)
 |_=>X
def Q7 (o:aU):aN:=
 match o.op with
 | .store ..=>U
 | .move _=>U
 | .assign _=>U
 | .build ..=>U
 |_=>X
def IB (P:aQ) (G:B5) (Γ:aVp) (ops:aK) (n0 i:aD) (F:aE) (H:aH) (o:aU):T (LV×List AB):=
 if En o then JN P G F H (n0+i) o else if Q7 o then Ax P G Γ F H o else if LI G ops n0 F H o then Ax P G Γ F H o else .no
def G6 (P:aQ) (G:B5) (Γ:aVp) (ops:aK) (tr:aI) (n0:aD):aI->aE->aH->T (List LV×List AB)
 | [],F,H=> .ok (F,H)
 |i::is,F,H=>match ops[i]? with
  |some o=>if o.guard.isNone&&C3 G F tr n0 o then (IB P G Γ ops n0 i F H o).bind λq=>G6 P G Γ ops tr n0 is (At F o.dst q.1) q.2 else .no
  |none=> .no
def JR (o:aU):aN:=
 match o.op with
 | .move _=>U
 | .assign _=>U
 | .build ..=>U
 |_=>X
def jq (ops:aK) (i j:aD):aN:=
 match ops[i]?,ops[j]? with
 |some x,ai y=>!(i==j)&&x.guard.isNone&&y.guard.isNone&&(((En x ||JR x)&&(En y ||JR y)) ||((En x ||JR x)&&(M4 y&&!(apD ops y==ai i))) ||((M4 x&&!(apD ops x==ai j))&&(En y ||JR y)))&&x.apart ops y
 |_,_=>X
def cU (ops:aK):aD->aI->aX->Bool
 |0,R,listed=>R.isEmpty&&(az .any ops listed).isEmpty
 |n+1,R,listed=>!(az .any ops listed).isEmpty&&(az .any ops listed).all λi=>R.contains i&&(Fw i R).all (λj=>jq ops i j)&&cU ops n (R.erase i) (listed.setIfInBounds i U)
def P7:aI->Bool
 | []=>U
 |k::ks=>!ks.contains k&&P7 ks
def alx (ops:aK) (flags:bp):aN:=letI a:=idxs U flags 0;Td ops flags&&P7 a&&a.all (λi=>aq<|i<ops.size)&&cU ops (M a) a (Qt (idxs X flags 0)<|Array.replicate ops.size X)
def pux (P:aQ) (G:B5) (Γ:aVp) (F:aE) (o:aU):T LV:=
 match o.op with
 | .move x=> .ok (AM G F x)
 | .assign x=> .ok (AM G F x)
 | .pick c a b=>jh (AM G F c) (AM G F a) (AM G F b)
 | .load t x=>(match AM G F x with
  | .xq m f=>FU P [] t (.xq m f)
  |_=> .no)
 | .fieldAddr s x i=>Wu P s (AM G F x) i
 | .indexAddr t x i=>Tb P t (AM G F x) (Uv<|AM G F i) (AM G F i)
 | .build t parts=>Ni P t (parts.toList.map λq=>(q.1,I4 G F q.2))
 | .buildSlice ..=>Hd P G Γ F o
 | .call {callee:=.value _,..}=>Hd P G Γ F o
 | .unOp ..=>Dl P G F o
 | .binOp op _ _ _ _=>(match op with
  | .quo=> .no
  | .rem=> .no
  | .shl=> .no
  | .shr=> .no
  |_=>Dl P G F o)
 |_=> .no
def Nu (G:B5) (F:aE) (o:aU):aN:=
 match o.op with
 | .load _ x=>(match AM G F x with
  | .own _ _=>U
  |_=>X)
 |_=>U
def isLt (P:aQ) (o:aU):aN:=
 match o.op with
 | .buildSlice t len _=>aq (len≠0)&&WW P t
 |_=>X
def mkZ (zb:aN) (P:aQ) (ops:aK) (i:aD) (o:aU):aN:=zb&&(isLt P o&&!abE (xX [] ops.toList) ops.size i)
def KI (zb:aN) (P:aQ) (G:B5) (Γ:aVp) (ops:aK) (i:aD) (F:aE) (H:aH) (o:aU):T (LV×List AB):=if Nu G F o then (if mkZ zb P ops i o then (Hd P G Γ F o).bind λy=> .ok (y,H) else Ax P G Γ F H o) else .no
def HA (zb:aN) (P:aQ) (G:B5) (Γ:aVp) (ops:aK) (tr:aI) (n0:aD):aI->aE->aH->T (List LV×List AB)
 | [],F,H=> .ok (F,H)
 |i::is,F,H=>match ops[i]? with
  |some o=>if o.guard.isNone&&C3 G F tr n0 o then (KI zb P G Γ ops i F H o).bind λq=>HA zb P G Γ ops tr n0 is (At F o.dst q.1) q.2 else .no
  |none=> .no
def LA (P:aQ) (o:aU):aN:=
 match o.op with
 | .call {callee:=.builtin .append,..}=>U
 | .buildSlice t len _=>aq (len=0) ||WW P t
 |_=>X
def jo (zb:aN) (P:aQ) (ops:aK) (i j:aD):aN:=
 match ops[i]?,ops[j]? with
 |some x,ai y=>x.guard.isNone&&y.guard.isNone&&(((GS x&&LA P y)&&!mkZ zb P ops j y) ||(mkZ zb P ops i x&&(LA P y ||GS y)) ||((LA P x ||GS x)&&mkZ zb P ops j y))&&x.apart ops y
 |_,_=>X
def V2 (zb:aN) (P:aQ) (ops:aK):aD->aI->aX->Bool
 |0,R,listed=>R.isEmpty&&(az .any ops listed).isEmpty
 |n+1,R,listed=>!(az .any ops listed).isEmpty&&(az .any ops listed).all λi=>R.contains i&&(Fw i R).all (λj=>jo zb P ops i j)&&V2 zb P ops n (R.erase i) (listed.setIfInBounds i U)
def aIm (ops:aK) (i:aD):aI->List Nat
 | []=>[i]
 |j::js=>if preB ops j i then i::j::js else j::aIm ops i js
def RC (ops:aK):aI->List Nat
 | []=>[]
 |i::is=>if (ops[i]?).any GS then aIm ops i (RC ops is) else i::RC ops is
def zfl (P:aQ) (ops:aK) (flags:bp):aN:=!V2 X P ops (M<|idxs U flags 0) (RC ops<|idxs U flags 0) (Qt (idxs X flags 0)<|Array.replicate ops.size X)
def iQ (P:aQ) (ops:aK) (flags:bp):aN:=letI a:=idxs U flags 0;Td ops flags&&((RC ops a).all (λi=>flags.getD i X)&&V2 (zfl P ops flags) P ops (M a) (RC ops a) (Qt (idxs X flags 0)<|Array.replicate ops.size X))
def jm (P:aQ) (G:B5) (Γ:aVp) (ops:aK) (F:aE) (H:aH):T (List LV×List AB):=
 let tr:=tracked H ops.toList F
 let flags:=fD (λo=>isSp P o ||aoW H ops.toList F tr o) [] ops.toList
 if jr ops flags&&P.follows .mixedOrders&&tr.all (λk=>aq<|k<M H) then
  (Kh (FY ops.toList) F H<|IF P G Γ ops tr H (El tr 0 H) flags ops.toList F).bind λq=>p2x P G Γ ops tr (M H) flags ops.toList q.1 H
 else if (Wt ops flags ||iQ P ops flags)&&P.follows .mixedOrders&&tr.all (λk=>aq<|k<M H) then
  (Kh (FY ops.toList) F H<|IF P G Γ ops tr H (El tr 0 H) flags ops.toList F).bind λq=>if Wt ops flags then Fg P G Γ ops tr (M H) (idxs U flags 0) q.1 H else HA (zfl P ops flags) P G Γ ops tr (M H) (RC ops<|idxs U flags 0) q.1 H
 else if alx ops flags&&P.follows .mixedOrders&&tr.all (λk=>aq<|k<M H) then
  (Kh (FY ops.toList) F H<|IF P G Γ ops tr H (El tr 0 H) flags ops.toList F).bind λq=>G6 P G Γ ops tr (M H) (idxs U flags 0) q.1<|H++au ops.size GL
 else .no
def aIL (ops:bw) (s:aD):aD:=
 match ops.find? (λo=>o.dst==ai s) with
 |some o=>match o.op with
  | .move (.tmp y)=>y
  |_=>s
 |none=>s
def isApp (o:aU):aN:=
 match o.op with
 | .call {callee:=.builtin .append,..}=>U
 |_=>X
def sU (P:aQ) (ops:bw) (F:aE):Option (Nat×IntKind×Int×Nat):=
 if ops.any isApp then
  ops.findSome? λo=>match o.op with
   | .indexAddr t _ (.tmp s)=>match P.underlying t with
    |some (.array len e)=>match P.underlying e,F.getD (aIL ops s) .junk with
     |some (.slice _),.v (ah k n)=>ai (aIL ops s,k,n,len)
     |_,_=>ak
    |_=>ak
   |_=>ak
 else ak
def splitN {α:Type}(f:aD->T α) (n:Y):aD->aD->T α
 |0,_=> .no
 |1,j=>f j
 |m+2,j=> .br (n==(j:Y)) (f j)<|splitN f n (m+1)<|j+1
def Xp (P:aQ) (G:B5) (Γ:aVp) (ops:aK) (F:aE) (H:aH):T (List LV×List AB):=
 match sU P ops.toList F with
 |some (s,k,n,len)=> .req (0<=n/\n<(len:Y)) (splitN (λj=>jm P G Γ ops (F.set s<|.ki k j) H) n len 0)
 |none=>jm P G Γ ops F H
def qM (G:B5) (Γ:aVp) (ops:aK):Option Oper:=
 match ops.back? with
 | some o=>match callOf G [] o with
  |some (g,_)=>match Γ g with
   |some _=>ak
   |none=>if lastB .any ops.pop o then ai o else ak
  |none=>ak
 |none=>ak
def jn (P:aQ) (G:B5) (Γ:aVp) (K:aVG) (ops:aK) (F:aE) (H:aH):T (List LV×List AB):=
 match qM G Γ ops with
 |some o=>(Xp P G Γ ops.pop F H).bind λq=>(KF P G Γ K q.1 q.2 o).bind λq2=> .ok (At q.1 o.dst q2.1,q2.2)
 |none=>Xp P G Γ ops F H
def hwx (P:aQ) (G:B5) (Γ:aVp) (F:aE) (H:aH) (o:aU):T LV:=
 match o.op with
 | .call _=>Hd P G Γ F o
 | .move x=> .ok (AM G F x)
 | .assign x=> .ok (AM G F x)
 | .load t x=>FU P H t (AM G F x)
 | .fieldAddr s x i=>Wu P s (AM G F x) i
 | .nilCheck x=>match AM G F x with
  | .own k off=> .ok (.own k off)
  | .op k es i j=> .ok (.op k es i j)
  | .xq n f=> .ok (.xq n f)
  |_=> .no
 | .binOp op _ _ _ _=>match op with
  | .add=>Dl P G F o
  | .sub=>Dl P G F o
  | .mul=>Dl P G F o
  |_=> .no
 |_=> .no
def aPl (G:B5) (Γ:aVp) (ops:aK):bn:=(av ops.size).find? λi=>
 match ops[i]? with
 |some o=>(match callOf G [] o with
  |some (g,_)=>(Γ g).isNone
  |none=>X)
 |none=>X
def OQ (ops:aK) (i:aD):aI:=
 match ops[i]? with
 |some o=>(o.after.toList.filter<|Region.binds .any).map (·.on)
 |none=>[]
def Gu (ops:aK) (i:aD):aI:=Ui .any ops ops.size<|OQ ops i
def G1 (ops:aK) (i:aD):bB:=(ops[i]?).bind (·.dst)
def NV (ops:aK) (i:aD):List Tmp:=
 match ops[i]? with
 |some o=>o.looksAt ops
 |none=>[]
def Py (ops:aK) (w:aD):aI:=(av ops.size).filter λi=>!(i==w)&&!(Gu ops i).contains w
def allA (ops:aK) (w i:aD):aN:=(Py ops w).all λj=>(Gu ops i).contains j
def R4 (ops:aK) (w:aD):aI:=(av ops.size).filter λi=>!(i==w)&&((Gu ops i).contains w&&!allA ops w i)
def K0 (ops:aK) (w:aD):aI:=(av ops.size).filter λi=>!(i==w)&&((Gu ops i).contains w&&allA ops w i)
def jj (ops:aK) (w:aD):aI:=Py ops w++([w]++R4 ops w)
def acB (ops:aK) (i j:aD):aN:=
 match G1 ops j with
 |some d=>(i==j || !(G1 ops i==ai d))&&(!(NV ops i).contains d ||(!(i==j)&&aq (j<i)&&(Gu ops i).contains j))
 |none=>X
def aSd (ops:aK) (i j:aD):aN:=
 match G1 ops j with
 |some d=>!(NV ops i).contains d
 |none=>X
def okW (ops:aK) (w n:aD):aN:=
 let AW:=jj ops w
 AW.all (λi=>(match ops[i]? with|some o=>o.guard.isNone|none=>X)&&(match G1 ops i with|some d=>aq (d<n) |none=>X)&&
  (OQ ops i).all (λp=>aq (p<i)&&AW.contains p)&&AW.all (λj=>acB ops i j))&&
 ((K0 ops w).all (λb=>AW.all λi=>(Gu ops b).contains i)&&(Py ops w++[w]).all λi=>([w]++R4 ops w).all λj=>aSd ops i j)
def goW (P:aQ) (G:B5) (Γ:aVp) (ops:aK) (H:aH):aI->aE->T (List LV)
 | [],F=> .ok F
 |i::is,F=>match ops[i]? with
  |some o=>(hwx P G Γ F H o).bind λy=>goW P G Γ ops H is (At F o.dst y)
  |none=> .no
def cb (P:aQ) (G:B5) (Γ:aVp) (ops:aK) (H:aH) (F:aE):aI->T Unit
 | []=> .ok ()
 | i::is=>match ops[i]? with
  |some o=>(match o.op with
   | .load _ _=>(hwx P G Γ F H o).bind λy=> .req (y=(match o.dst with|some d=>F.getD d .junk|none=> .junk)) (cb P G Γ ops H F is)
   |_=>cb P G Γ ops H F is)
  |none=> .no
def Kb (ops:aK) (w:aD):aX:=((av ops.size).map λi=>(jj ops w).contains i).toArray
def ab8 (ops:aK):aD->aX->List Nat
 |0,_=>[]
 |n+1,l=>match az .any ops l with
  | []=>[]
  |i::_=>i::ab8 ops n (l.setIfInBounds i U)
def JQ (ops:aK) (w:aD):aI:=ab8 ops (M<|K0 ops w)<|Kb ops w
def aBt (P:aQ) (G:B5) (Γ:aVp) (K:aVG) (ops:aK) (w:aD) (F:aE) (H:aH):T (List LV×List AB):=
 if okW ops w (M F)&&P.follows .mixedOrders&&(M (JQ ops w)==M (K0 ops w))&&(oN ops (JQ ops w) (Kb ops w) ||Ly ops (M<|JQ ops w) (JQ ops w) (Kb ops w)) then
  match ops[w]? with
  |some o=>(goW P G Γ ops H (Py ops w) F).bind λF1=>(KF P G Γ K F1 H o).bind λq=>(cb P G Γ ops q.2 F1<|(Py ops w).filter λi=>!(Gu ops w).contains i).bind λ_=>(goW P G Γ ops q.2 (R4 ops w)<|At F1 o.dst q.1).bind λF3=>Fg P G Γ ops [] (M q.2) (JQ ops w) F3 q.2
  |none=> .no
 else .no
def aBs (P:aQ) (G:B5) (Γ:aVp) (K:aVG) (ops:aK) (F:aE) (H:aH):T (List LV×List AB):=
 match qM G Γ ops with
 |some _=>jn P G Γ K ops F H
 |none=>match aPl G Γ ops with
  |some w=>aBt P G Γ K ops w F H
  |none=>jn P G Γ K ops F H
def Gs:bC->Nat
 | .region id _ _=>id
 | .seq a _=>Gs a
 | .block _ b=>Gs b
 | .loop b=>Gs b
 | .cond _ a _=>Gs a
 |_=>0
abbrev Lr:=Nat->aE->aH->T (Ex×List LV×List AB)
abbrev Pg:=Code->aE->aH->T (Ex×List LV×List AB)
def M0 (L:Lr):Pg:=λb=>L<|Gs b
def wM:aVD->Option Ex
 |some ⟨_,_,.Cn _ _ _ .ready,X⟩=>ai .normal
 |some ⟨_,_,.Cn _ _ _ (.done x),X⟩=>match x with
  | .normal=>ak
  |x=>ai x
 |_=>ak
def aDC:aVq->List Nat
 | .tmp t=>[t]
 |_=>[]
def Gx:bC->List Nat
 | .region _ ops _=>ops.toList.flatMap λo=>o.op.operands.toList.flatMap aDC
 | .seq a b=>Gx a++Gx b
 | .cond c a b=>aDC c++Gx a++Gx b
 | .block _ b=>Gx b
 | .loop b=>Gx b
 | .rangeFunc f _ a b=>aDC f++Gx a++Gx b
 | .scope b=>Gx b
 |_=>[]
def PM (us:aI) (F:aE):aE:=(av<|M F).map λi=>if us.contains i then F.getD i .junk else .junk
def DN (P:aQ) (G:B5) (Γ:aVp) (K:aVG) (L:Pg):bC->aE->aH->T (Ex×List LV×List AB)
 | .skip,F,H=> .ok (.normal,F,H)
 | .ret,F,H=> .ok (.ret,F,H)
 | .exit n,F,H=> .ok (.exit n,F,H)
 | .region _ ops d,F,H=>(if d then aBs P G Γ K ops F H else aDI P G Γ K ops F H).bind λq=> .ok (.normal,q.1,q.2)
 | .seq a b,F,H=>(DN P G Γ K L a F H).bind λq=>match q.1 with
  | .normal=>DN P G Γ K L b q.2.1 q.2.2
  |x=> .ok (x,q.2)
 | .cond c a b,F,H=>match c with
  | .tmp d=>match F.getD d .junk with
   | .bl U=>DN P G Γ K L a F H
   | .bl X=>DN P G Γ K L b F H
   | .v (.bool g)=> .br g (DN P G Γ K L a (F.set d<|.bl U) H) (DN P G Γ K L b (F.set d<|.bl X) H)
   |_=> .no
  | .const (.bool U)=>DN P G Γ K L a F H
  | .const (.bool X)=>DN P G Γ K L b F H
  |_=> .no
 | .block id a,F,H=>(DN P G Γ K L a F H).bind λq=>match q.1 with
  | .exit n=>if n=id then .ok (.normal,q.2) else .ok (.exit n,q.2)
  |x=> .ok (x,q.2)
 | .loop a,F,H=>L a F H
 | .scope a,F,H=>DN P G Γ K L a F H
 | .label _,F,H=> .ok (.normal,F,H)
 | .rangeFunc f ps asg body,F,H=>match AM G F f with
  | .fn g cap=>match P.funcs[g]? with
   | some fn=>if fn.body.isSome&&!(fn.name== "runtime.NumGoroutine") then
     (K.k g (.CQ H.length::cap)<|H++[⟨PM (Gx asg++Gx body) F,0,.Cn ps asg body .ready,X⟩]).bind λq=>match wM q.2[H.length]? with
      |some x=> .ok (x,F,q.2.set H.length ⟨[],0,.dead,X⟩)
      |none=> .no
    else .no
   |none=> .no
  |_=> .no
 |_,_,_=> .no
def S9 (P:aQ) (fn:aVw) (F:aE) (H:aH):aVR->T (List LV)
 | []=> .ok []
 | .tmp t::rs=>(S9 P fn F H rs).bind λl=> .ok (norm (F.getD t .junk)::l)
 | .cell a t::rs=>(FU P H t<|F.getD a .junk).bind λy=>(S9 P fn F H rs).bind λl=> .ok (y::l)
def one (l:aE):LV:=match l with| [x]=>x|l=>RB l
def wz (P:aQ) (fn:aVw) (t:aE->aH->T (Ex×List LV×List AB)) (args:aE):T LV:=
 (t (args++au (fn.ntmps-M args) (.v undef)) []).bind λq=>match q.1 with
  | .exit _=> .no
  |_=>(S9 P fn q.2.1 q.2.2 fn.results.toList).bind λl=>if noOwn (one l) then .ok (one l) else (EX q.2.2 8<|one l).bind λ_=> .ok<|C4 q.2.2 8<|one l
def wu (P:aQ) (G:B5) (Γ:aVp) (K:aVG) (L:Lr) (fn:aVw) (args:aE):T LV:=
 match fn.body with
 |some c=>wz P fn (DN P G Γ K (M0 L) c) args
 |none=> .no
def DU:List (FuncId×(List LV->T LV))->Specs
 | [],_=>ak
 |p::ps,g=>if g=p.1 then ai p.2 else DU ps g
def Ap:Lr:=λ_ _ _=> .no
def fZ:Pg:=λ_ _ _=> .no
def I6:bC->Bool
 | .seq a b=>I6 a&&I6 b
 | .cond _ a b=>I6 a&&I6 b
 | .block _ b=>I6 b
 | .loop b=>I6 b
 | .rangeFunc ..=>X
 | .scope b=>I6 b
 |_=>U
def tZ (t:aE->aH->T (Ex×List LV×List AB)):aD->aE->aH->T (Ex×List LV×List AB)
 |0,_,_=> .no
 |m+1,F,H=>(t F H).bind λq=>match q.1 with
  | .normal=>tZ t m q.2.1 q.2.2
  |x=> .ok (x,q.2)
def Fx (P:aQ) (G:B5) (Γ:aVp) (K:aVG) (m:aD):aD->Pg
 |0=>fZ
 |d+1=>λb=>tZ (DN P G Γ K (Fx P G Γ K m d) b) m
def Xh (F:aE):List Tmp->aE->List LV
 |t::ts,x::xs=>Xh (F.set t x) ts xs
 |_,_=>F
abbrev DV:=Hand->bh->aD->Pg
def Em (P:aQ) (G:B5) (Γ:aVp) (LL:DV) (K:aVG):aVG:=
 ⟨λg args H=>match P.funcs[g]? with
  | some fn=>match fn.body with
   |some c=>(DN P G Γ K (LL K g<|M H) c (args++au (fn.ntmps-M args) (.v undef)) H).bind λq=>match q.1 with
    | .exit _=> .no
    |_=>(S9 P fn q.2.1 q.2.2 fn.results.toList).bind λl=> .ok (one l,q.2.2)
   |none=> .no
  |none=> .no,
  λk args H=>match H[k]? with
  | some ⟨F,t,.Cn ps asg body .ready,X⟩=>if M args=ps.size/\I6 asg=U/\I6 body=U then
    (DN P G Γ K fZ asg (Xh F ps.toList args) H).bind λ(q:Ex×List LV×List AB)=>match q.1 with
     | .normal=>(match q.2.2[k]? with
      | some ⟨F1,_,.Cn ps1 asg1 body1 .ready,X⟩=>(DN P G Γ K (Fx P G Γ K 20 2) body q.2.1<|q.2.2.set k ⟨F1,t,.Cn ps1 asg1 body1 .busy,X⟩).bind λ(r:Ex×List LV×List AB)=>match r.2.2[k]? with
       |some ⟨F2,_,.Cn ps2 asg2 body2 .busy,X⟩=>(match r.1 with
        | .normal=> .ok (.bl U,r.2.2.set k ⟨F2,t,.Cn ps2 asg2 body2 .ready,X⟩)
        |x=> .ok (.bl X,r.2.2.set k ⟨F2,t,.Cn ps2 asg2 body2<|.done x,X⟩))
       |_=> .no
      |_=> .no)
     |_=> .no
   else .no
  |_=> .no⟩
def inl (P:aQ) (G:B5) (Γ:aVp) (LL:DV):aD->Hand
 |0=>EN
 |d+1=>Em P G Γ LL<|inl P G Γ LL d
abbrev Does:=FuncId->Option (List LV->aH->T (LV×List AB))
def Ux (P:aQ) (G:B5) (Γ:aVp) (LL:DV) (C:Does):aD->Hand
 |0=>EN
 |d+1=>⟨λg args H=>match C g with
  |some m=>m args H
  |none=>(Em P G Γ LL<|Ux P G Γ LL C d).k g args H,(Em P G Γ LL<|Ux P G Γ LL C d).y⟩
structure Gz where
 z:aD->Prop
 gh:List (LV×Value)
 Cr:aI
variable {P : Program} {G : B5} {Γ : Specs} {β : Nat -> Loc} {Z : Nat -> Prop} {Z0 : Gz} {w w0 : World} {F : List LV} {H : List AB} {a : Act} {ds : List Deferred}
def Cm {x:LV}{y z:aW}(h:pl x=ai y) (hr:R β Z w x z):z=y:=by
 cases x with
 |v q=>simp only [pl,Ah] at h;simp only [R] at hr;rw [hr,h]
 |bl b=>simp only [pl,Ah] at h;simp only [R] at hr;rw [hr,h]
 |ki k n=>simp only [pl,Ah] at h;simp only [R] at hr;rw [hr,h]
 | fn f l=>
  cases l with
  |nil=>
   simp only [pl,Ah] at h;simp only [R,RL] at hr;obtain ⟨ys,h1,h2⟩:=hr
   have:ys=#[]:=A8
   grind
  |cons _ _=>simp [pl] at h
 |_=>simp [pl] at h
def aLq {x:LV}{y:aW}(h:pl x=ai y):R β Z w x y:=by
 cases x with
 |v q=>simp only [pl,Ah] at h;simp only [R];exact h.symm
 |bl b=>simp only [pl,Ah] at h;simp only [R];exact h.symm
 |ki k n=>simp only [pl,Ah] at h;simp only [R];exact h.symm
 |fn f l=>
  cases l with
  |nil=>simp only [pl,Ah] at h;simp only [R,RL];exact ⟨#[],h.symm,rfl⟩
  |cons _ _=>simp [pl] at h
 |_=>simp [pl] at h
def aQO:∀ {l:aE}{ys zs:aV},B2 l=ai ys->RL β Z w l zs->zs=ys
 | [],ys,zs,h,hr=>by simp only [B2,Ah] at h;simp only [RL] at hr;rw [hr,h]
 | x::xs,ys,zs,h,hr=>by
  simp only [B2] at h;split at h
  ·rename_i y ys' h1 h2
   simp only [Ah] at h;obtain ⟨y',zs',e1,e2,e3⟩:=hr;rw [e1,Cm h1 e2,aQO h2 e3,h]
  ·cases h
def P4 {x:LV}{y:aW}(h:R β Z w x y):R β Z w (norm x) y:=zQ
def TH {n:aD}{x:LV}(h:okV n x):okV n (norm x):=zQ
def aFu:∀ {l:aE}{ys:aV},RL β Z w l ys->RL β Z w (l.map norm) ys
 | [],_,h=>A8
 |x::xs,ys,h=>by
  obtain ⟨y,zs,h1,h2,h3⟩:=h;exact ⟨y,zs,h1,P4 h2,aFu h3⟩
def rK {n:aD}:∀ {l:aE},AT n l->AT n (l.map norm)
 | [],_=>trivial
 |x::xs,h=>by
  exact ⟨TH h.1,rK h.2⟩
def WE {l:aE}{ys:aY}(h:RL β Z w l ys.toList):R β Z w (K2 l) (.agg ys):=by
 unfold K2;exact aMq
def tJ {l:aE}{ys:aY}(h:RL β Z w l ys.toList):R β Z w (RB l) (.tuple ys):=by
 unfold RB;exact aMq
def Qi {n:aD}{l:aE}(h:AT n l):okV n (K2 l):=by
 unfold K2;split
 ·trivial
 ·simpa only [okV] using rK h
def qq {n:aD}{l:aE}(h:AT n l):okV n (RB l):=by
 unfold RB;split
 ·trivial
 ·simpa only [okV] using rK h
def Tg (n:aD):∀(l:aV),AT n (l.map .v)
 | []=>trivial
 |_::xs=>⟨an,Tg n xs⟩
def Uq:∀(l:aV),RL β Z w (l.map .v) l
 | []=>cJ
 |x::xs=>by simp only [ER,RL,R];exact ⟨x,xs,rfl,rfl,Uq xs⟩
def aEz {x:LV}{y:aW}(h:X5 x=U) (hr:R β Z w x y):K7 y=true:=by
 cases x with
 |v q=>simp only [R] at hr;rw [hr];exact h
 |bl b=>simp only [R] at hr;rw [hr];rfl
 |ki k n=>simp only [R] at hr;rw [hr];rfl
 |own k off=>simp only [R] at hr;rw [hr];rfl
 |fn f l=>simp only [R] at hr;obtain ⟨ys,h1,_⟩:=hr;rw [h1];rfl
 |fb f l=>simp only [R] at hr;obtain ⟨ys,h1,_⟩:=hr;rw [h1];rfl
 |xq n f=>simp only [R] at hr;obtain ⟨b,off,h1,_⟩:=hr;rw [h1];rfl
 |os k es off n=>
  simp only [R] at hr;split at hr
  ·rw [hr.2.2];rfl
  ·obtain ⟨_,a,h1,_⟩:=hr;rw [h1];rfl
 |op k es i j=>simp only [R] at hr;rw [hr.2];rfl
 |om k=>simp only [R] at hr;rw [hr];rfl
 |mp kd ks vs=>simp only [R] at hr;obtain ⟨r,es,c,h1,_⟩:=hr;rw [h1];rfl
 |oc k es off n c=>simp only [R] at hr;obtain ⟨_,a,h1,_⟩:=hr;rw [h1];rfl
 |CQ k=>simp only [R] at hr;rw [hr];rfl
 |xl e l=>simp only [R] at hr;obtain ⟨b,off,h1,_⟩:=hr;rw [h1];rfl
 |agg l=>simp [X5] at h
 |AQ l=>simp [X5] at h
 |junk=>simp [X5] at h
def afx {y:aW}(h:K7 y=U):y.cells=#[y]:=by cases y<;>first|rfl|(simp [K7] at h)
def qZ {x:LV}{y:aW}{cs:aE}(h:CP x=ai cs) (hr:R β Z w x y):RL β Z w cs y.cells.toList/\(∀z∈y.cells.toList,K7 z=U):=by
 have single:∀x:LV,X5 x=U->R β Z w x y->RL β Z w [x] y.cells.toList/\(∀z∈y.cells.toList,K7 z=U):=λx hx hr=>by
  have h1:=aEz hx hr
  rw [afx h1];refine ⟨?_,?_⟩
  ·simp only [RL];exact ⟨y,[],rfl,hr,rfl⟩
  ·intro z hz
   grind
 cases x with
 | v q=>
  simp only [CP] at h;split at h
  ·rename_i ha
   simp only [Ah] at h;subst h hr;exact ⟨Uq _,λz hz=>BH.1 ha z hz⟩
  ·cases h
 | agg l=>
  simp only [CP] at h;split at h
  ·rename_i ha
   simp only [Ah] at h;obtain ⟨ys,h1,h2⟩:=hr;subst h h1;refine ⟨h2,λz hz=>?_⟩
   obtain ⟨i,hi,hz'⟩:=Hr.1 hz
   have hlen:=RL.length h2
   have hl:l[i]? =ai (l[i]'(by simp only [Value.cells] at hi;omega)):=Dg _
   obtain ⟨y',e1,e2⟩:=RL.get i _ h2 hl
   have:y'=z:=by
    simp only [Value.cells] at hi hz'
    grind
   rw [<-this];exact aEz (BH.1 ha _<|Fk _) e2
  ·cases h
 |bl b=>simp only [CP,Ah] at h;subst h;exact single _ rfl hr
 |ki k n=>simp only [CP,Ah] at h;subst h;exact single _ rfl hr
 |own k off=>simp only [CP,Ah] at h;subst h;exact single _ rfl hr
 |fn f l=>simp only [CP,Ah] at h;subst h;exact single _ rfl hr
 |fb f l=>simp only [CP,Ah] at h;subst h;exact single _ rfl hr
 |xq n f=>simp only [CP,Ah] at h;subst h;exact single _ rfl hr
 |os k es off n=>simp only [CP,Ah] at h;subst h;exact single _ rfl hr
 |op k es i j=>simp only [CP,Ah] at h;subst h;exact single _ rfl hr
 |om k=>simp only [CP,Ah] at h;subst h;exact single _ rfl hr
 |mp kd ks vs=>simp only [CP,Ah] at h;subst h;exact single _ rfl hr
 |oc k es off n c=>simp only [CP,Ah] at h;subst h;exact single _ rfl hr
 |CQ k=>simp only [CP,Ah] at h;subst h;exact single _ rfl hr
 |xl e l=>simp only [CP,Ah] at h;subst h;exact single _ rfl hr
 |AQ l=>simp [CP] at h
 |junk=>simp [CP] at h
def qC {n:aD}{x:LV}{cs:aE}(h:CP x=ai cs) (hr:okV n x):AT n cs:=by
 cases x with
 |v q=>
  simp only [CP] at h;split at h
  ·simp only [Ah] at h;subst h;exact Tg _ _
  ·cases h
 |agg l=>
  simp only [CP] at h;split at h
  ·simp only [Ah] at h;subst h;simpa only [okV] using hr
  ·cases h
 |bl b=>simp only [CP,Ah] at h;subst h;exact ⟨hr,an⟩
 |ki k n=>simp only [CP,Ah] at h;subst h;exact ⟨hr,an⟩
 |own k off=>simp only [CP,Ah] at h;subst h;exact ⟨hr,an⟩
 |fn f l=>simp only [CP,Ah] at h;subst h;exact ⟨hr,an⟩
 |fb f l=>simp only [CP,Ah] at h;subst h;exact ⟨hr,an⟩
 |xq n f=>simp only [CP,Ah] at h;subst h;exact ⟨hr,an⟩
 |os k es off n=>simp only [CP,Ah] at h;subst h;exact ⟨hr,an⟩
 |op k es i j=>simp only [CP,Ah] at h;subst h;exact ⟨hr,an⟩
 |om k=>simp only [CP,Ah] at h;subst h;exact ⟨hr,an⟩
 |mp kd ks vs=>simp only [CP,Ah] at h;subst h;exact ⟨hr,an⟩
 |oc k es off n c=>simp only [CP,Ah] at h;subst h;exact ⟨hr,an⟩
 |CQ k=>simp only [CP,Ah] at h;subst h;exact ⟨hr,an⟩
 |xl e l=>simp only [CP,Ah] at h;subst h;exact ⟨an,an⟩
 |AQ l=>simp [CP] at h
 |junk=>simp [CP] at h
def QC (G:B5) (Z:aD->Prop) (w:aP):Prop:=∀g n f,G g=ai (n,f)->Z g/\∀j,j<n->w.cell? ⟨g,j,ak⟩=ai (f j)
def okB (n:aD) (b:AB):Prop:=AT n b.c/\(match b.k with| .mp _ _ vs=>AT n vs|_=>True)
def live (β:aD->aVs) (k:aD) (b:AB):Prop:=
 match b.k with
 | .cl=>True
 | .vec _ _=>(β k).cap≠ak
 | .mp ..=>True
 | .Cn ..=>True
 | .st ..=>True
 | .dead=>False
def aTd:Ex->Option Code
 | .normal=>ak
 | .exit n=>ai (.exit n)
 | .ret=>ai .ret
def LsR:LS->Loop->Prop
 | .ready,r=>r.state=.ready/\r.pending=ak
 | .busy,r=>r.state=.busy
 | .done x,r=>r.state=.done/\r.pending=aTd x
def Bb (β:aD->aVs) (Z:aD->Prop) (w:aP) (k:aD) (b:AB):Prop:=
 match b.k with
 | .cl=>∃cs,w.heap[(β k).b]? =ai (.cells cs b.t (0,0))/\RL β Z w b.c cs.toList
 | .vec e l=>match (β k).cap with
  |none=>l=[]
  |some c=>∃cs,w.heap[(β k).b]? =ai (.cells cs b.t (0,0))/\(β k).o+c*e.n<=cs.size/\M l<=c/\∀(i:aD) (d:e.D),l[i]? =ai d->RD Z w e d (β k).b ((β k).o+i*e.n)
 | .mp kd ks vs=>∃es clock,w.heap[(β k).b]? =ai (.map es clock)/\es.toList.map (·.key)=ks.map (.int kd)/\RL β Z w vs (es.toList.map (·.val))
 | .Cn ps asg body st=>∃r:Loop,w.heap[(β k).b]? =ai (.loop r)/\r.params=ps/\r.assign=asg/\r.body=body/\LsR st r/\RL β Z w b.c r.tmps.toList
 | .st e l=>∃es clock,w.heap[(β k).b]? =ai (.map es clock)/\es.toList.map (·.key)=List.map (wo e) l/\∀x,x∈es.toList->x.val=.bool U
 | .dead=>True
abbrev Gr (D:aD):Deferred:={target:=.collected D,args:=#[]}
def Fv (w:aP) (D:aD):Prop:=w.heap[D]? =ai (.deferred<|ai [])
structure RW (G:B5) (w0:aP) (Z0:Gz) (Z:aD->Prop) (β:aD->aVs) (H:aH) (w:aP):Prop where
 below:Below w0.heap.size w0 w
 Bc:∀b,Z b->b<w.heap.size
 Ep:∀b,Z b->Z0.z b\/w0.heap.size<=b
 Cp:∀k b,H[k]? =ai b->live β k b->b.p=X->¬Z (β k).b
 GR:∀k b,H[k]? =ai b->live β k b->b.p=U->Z (β k).b
 low:∀k b,H[k]? =ai b->live β k b->w0.heap.size<=(β k).b
 inj:∀i j bi bj,H[i]? =ai bi->H[j]? =ai bj->live β i bi->live β j bj->bi.p=X->(β i).b=(β j).b->i=j
 blk:∀k b,H[k]? =ai b->Bb β Z w k b/\okB (M H) b
 Ci:QC G Z w
 gh:∀p,p∈Z0.gh->R β Z w p.1 p.2/\okV (M H) p.1
 Cr:∀D,D∈Z0.Cr->Z D/\Fv w D
structure RF (ds:aVr) (β:aD->aVs) (Z:aD->Prop) (w:aP) (n:aD) (F:aE) (a:bf):Prop where
 size:a.tmps.size=M F
 get:∀t x,F[t]? =ai x->R β Z w x (a.tmps.getD t undef)/\okV n x
 defers:a.defers=ds/\∀d,d∈ds->∃D,d=Gr D/\Z D/\Fv w D
def RF.eval (hF:RF ds β Z w (M H) F a) (hg:QC G Z w) (x:aVq):R β Z w (AM G F x) (a.eval x)/\okV (M H) (AM G F x):=by
 cases x with
 |tmp t=>
  simp only [AM,Act.eval];cases h:F[t]? with
  |none=>simp [List.getD,h,R,okV]
  |some y=>simp only [List.getD,h,mr];exact hF.get t y h
 |const x=>
  simp only [AM,Act.eval];cases x<;>simp [R,okV]
 | global g=>
  simp only [AM,Act.eval];split
  ·rename_i n f h
   obtain ⟨h1,h2⟩:=hg g n f h;simp only [R,okV]
   grind
  ·simp [R,okV]
 |func f=>simp only [AM,Act.eval,R,RL,okV,AT];exact ⟨⟨#[],rfl,rfl⟩,an⟩
def T.pick {α:Type}{K:α->Prop}:∀ {t:T α},t.all K->∃x,K x/\t.all (λy=>y=x)
 | .ok x,h=>⟨x,h,rfl⟩
 | .br b t e,h=>by
  cases b with
  |true=>obtain ⟨x,h1,h2⟩:=T.pick<|h.1 rfl;exact ⟨x,h1,λ_=>h2,λhb=>LW⟩
  |false=>obtain ⟨x,h1,h2⟩:=T.pick<|h.2 rfl;exact ⟨x,h1,λhb=>LW,λ_=>h2⟩
 | .req p t,h=>by obtain ⟨x,h1,h2⟩:=T.pick h.2;exact ⟨x,h1,h.1,h2⟩
 | .no,h=>As
def cell_of_block {b:aD}{cs:aY}{t:aT}(h:w.heap[b]? =ai (.cells cs t (0,0))) (o:aD):w.cell? ⟨b,o,ak⟩=cs[o]? :=by
 simp [World.cell?,h]
def ae5 {b:aD}{cs:aY}{t:aT}(h:w.heap[b]? =ai (.cells cs t (0,0))) (o:aD):w.frozen? ⟨b,o,ak⟩=false:=by
 simp [World.frozen?,h]
def addr_add (b o i:aD):Addr.add ⟨b,o,ak⟩ i=⟨b,o+i,ak⟩:=by
 unfold Addr.add;split
 ·grind
 ·rfl
def di {t:aT}{b:aN}(h:SJ P t=ai b) (w:aP):(isAgg t).run P w=.ok b w:=by
 unfold SJ at h;cases hu:P.underlying t with
 |none=>simp [hu] at h
 |some d=>
  unfold isAgg;simp only [mm,Cg hu,mM];cases d<;>simp_all
def run_sizeOf {t:aT}{n:aD}(h:HK P t=ai n) (w:aP):(sizeOf t).run P w=.ok n w:=by
 unfold HK at h;cases hu:P.info? t with
 |none=>simp [hu] at h
 |some d=>
  simp only [hu,Jn,Ah] at h
  simp [sizeOf,typeInfo,hu,h]
def pN {t:aT}{z:aW}(h:Ib P t=ai z) (w:aP):(zeroValue t).run P w=.ok z w:=by
 unfold Ib at h;cases hu:P.info? t with
 |none=>simp [hu] at h
 |some d=>
  simp only [hu,OZ] at h
  simp [zeroValue,typeInfo,hu,h]
def RL.take_drop {l:aE}{ys:aV}(h:RL β Z w l ys) (off n:aD):RL β Z w ((l.drop off).take n) ((ys.drop off).take n):=by
 have hl:=RL.length h
 refine RL.CW A8 λi x hx=>?_
 rw [LQ] at hx|-;split at hx
 ·rename_i hi
  rw [AD hi];rw [FM] at hx|-;exact RL.get _ _ h hx
 ·cases hx
def AT.take_drop {n:aD}{l:aE}(h:AT n l) (off m:aD):AT n ((l.drop off).take m):=by
 refine AT.CW λi x hx=>?_
 rw [LQ] at hx;split at hx
 ·rw [FM] at hx;exact AT.get _ _ h hx
 ·cases hx
def RF.mono {β':aD->aVs}{Z':aD->Prop}{w':aP}{n m:aD}(hF:RF ds β Z w n F a) (hn:n<=m) (hβ:∀k,k<n->β' k=β k) (hZ:∀b,Z b->Z' b)
  (hw:∀b,Z b->w'.heap[b]? =w.heap[b]?):RF ds β' Z' w' m F a:=
 ⟨hF.size,λt x hx=>⟨R.mono hβ hZ hw x _ (hF.get t x hx).2 (hF.get t x hx).1,okV.mono hn x (hF.get t x hx).2⟩,hF.defers.1,λd hd=>by
  obtain ⟨D,h1,h2,h3⟩:=hF.defers.2 d hd;exact ⟨D,h1,hZ D h2,by unfold Fv;rw [hw D h2];exact h3⟩⟩
def okB.mono {n m:aD}(h:n<=m) {b:AB}(hb:okB n b):okB m b:=by
 refine ⟨AT.mono h _ hb.1,?_⟩
 have:=hb.2
 split
 ·rename_i hk;rw [hk] at this;exact AT.mono h _ this
 ·trivial
def Ka {β':aD->aVs}{k:aD}{b:AB}(h:β' k=β k):live β' k b=live β k b:=by
 unfold live;rw [h]
def Bb.keep {β':aD->aVs}{Z':aD->Prop}{w':aP}{n k:aD}{b:AB}(hβ:∀k,k<n->β' k=β k) (hZ:∀b,Z b->Z' b) (hw:∀b,Z b->w'.heap[b]? =w.heap[b]?) (hk:β' k=β k)
  (hb:live β k b->w'.heap[(β k).b]? =w.heap[(β k).b]?) (hok:okB n b) (h:Bb β Z w k b):Bb β' Z' w' k b:=by
 unfold Bb at*;unfold live at hb;unfold okB at hok;rw [hk];split at h
 ·rename_i hbk
  obtain ⟨cs,h1,h2⟩:=h;exact ⟨cs,A8,RL.mono hβ hZ hw _ _ hok.1 h2⟩
 ·rename_i e l hbk
  simp only [hbk] at hb|-;split at h
  ·rename_i hc
   grind
  ·rename_i c hc
   have hb':=hb (by rw [hc];simp)
   obtain ⟨cs,h1,h2,h3,h4⟩:=h;exact ⟨cs,A8,h2,h3,λi d hd=>RD.keep hZ hw e d _ _ hb'<|h4 i d hd⟩
 ·rename_i kd ks vs hbk
  simp only [hbk] at hb hok|-;obtain ⟨es,clock,h1,h2,h3⟩:=h;exact ⟨es,clock,A8,h2,RL.mono hβ hZ hw _ _ hok.2 h3⟩
 ·rename_i ps asg body st hbk
  obtain ⟨r,h1,h2,h3,h4,h5,h6⟩:=h;exact ⟨r,A8,h2,h3,h4,h5,RL.mono hβ hZ hw _ _ hok.1 h6⟩
 ·rename_i e l hbk
  grind
 ·rename_i hbk
  grind
def RW.lt (hW:RW G w0 Z0 Z β H w) {k:aD}{b:AB}(hk:H[k]? =ai b) (hl:live β k b):(β k).b<w.heap.size:=by
 have h:=(hW.blk k b hk).1
 unfold Bb at h;unfold live at hl;split at h
 ·obtain ⟨cs,h1,_⟩:=h
  grind
 ·rename_i hbk
  split at h
  ·grind
  ·obtain ⟨cs,h1,_⟩:=h
   grind
 ·obtain ⟨es,clock,h1,_⟩:=h
  grind
 ·obtain ⟨r,h1,_⟩:=h
  grind
 ·obtain ⟨es,clock,h1,_⟩:=h
  grind
 ·rename_i hbk
  grind
def EI {w w':aP}(hb:Below w.heap.size w w') {b:aD}(h:b<w.heap.size):w'.heap[b]? =w.heap[b]? :=hb.block b h
def QC.mono {Z':aD->Prop}{w':aP}(h:QC G Z w) (hZ:∀b,Z b->Z' b) (hw:∀b,Z b->w'.heap[b]? =w.heap[b]?):QC G Z' w':=λg n f hg=>by
 obtain ⟨h1,h2⟩:=h g n f hg;exact ⟨hZ _ h1,λj hj=>by rw [QY<|hw g h1];exact h2 j hj⟩
def RW.call {w':aP}(hW:RW G w0 Z0 Z β H w) (hb:Below w.heap.size w w'):RW G w0 Z0 (λb=>Z b\/(w.heap.size<=b/\b<w'.heap.size)) β H w':=by
 have hs:=hb.size
 have h0:=hW.below.size
 have hw:∀b,Z b->w'.heap[b]? =w.heap[b]? :=λb hz=>EI hb<|hW.Bc b hz
 refine ⟨hW.below.trans<|hb.mono h0,λb hz=>?_,λb hz=>?_,λk b hk hl hp hz=>?_,λk b hk hl hp=> .inl<|hW.GR k b hk hl hp,hW.low,hW.inj,λk b hk=>?_,hW.Ci.mono (λ_ h=> .inl h) hw,λp hp=>⟨R.mono (n:=M H) (λ_ _=>rfl) (λ_ h=> .inl h) hw _ _ (hW.gh p hp).2 (hW.gh p hp).1,(hW.gh p hp).2⟩,λD hD=>⟨.inl (hW.Cr D hD).1,bR⟩⟩
 ·rcases hz with hz|hz
  ·have:=hW.Bc b hz;omega
  ·exact hz.2
 ·rcases hz with hz|hz
  ·exact hW.Ep b hz
  ·omega
 ·rcases hz with hz|hz
  ·exact hW.Cp k b hk hl hp hz
  ·have:=hW.lt hk hl;omega
 ·obtain ⟨h1,h2⟩:=hW.blk k b hk
  exact ⟨h1.keep (λ_ _=>rfl) (λ_ h=> .inl h) hw rfl (λhl=>EI hb<|hW.lt hk hl) h2,h2⟩
def RW.same {w':aP}(hW:RW G w0 Z0 Z β H w) (hb:Below w.heap.size w w'):RW G w0 Z0 Z β H w':=by
 have hs:=hb.size
 have h0:=hW.below.size
 have hw:∀b,Z b->w'.heap[b]? =w.heap[b]? :=λb hz=>EI hb<|hW.Bc b hz
 refine ⟨hW.below.trans<|hb.mono h0,λb hz=>?_,hW.Ep,hW.Cp,hW.GR,hW.low,hW.inj,λk b hk=>?_,hW.Ci.mono (λ_ h=>h) hw,λp hp=>⟨R.mono (n:=M H) (λ_ _=>rfl) (λ_ h=>h) hw _ _ (hW.gh p hp).2 (hW.gh p hp).1,(hW.gh p hp).2⟩,λD hD=>⟨(hW.Cr D hD).1,bR⟩⟩
 ·have:=hW.Bc b hz;omega
 ·obtain ⟨h1,h2⟩:=hW.blk k b hk
  exact ⟨h1.keep (λ_ _=>rfl) (λ_ h=>h) hw rfl (λhl=>EI hb<|hW.lt hk hl) h2,h2⟩
def RW.Ks {ℓ:aVs}{nb:AB}(hW:RW G w0 Z0 Z β H w) (hp:nb.p=X) (hok:okB (M H+1) nb)
  (hf:live (λ_=>ℓ) 0 nb->¬Z ℓ.b/\w0.heap.size<=ℓ.b/\∀j bj,H[j]? =ai bj->live β j bj->(β j).b≠ℓ.b)
  (hB:∀β':aD->aVs,(∀k,k<M H->β' k=β k)->β' (M H)=ℓ->Bb β' Z w (M H) nb):
  ∃β',(∀k,k<M H->β' k=β k)/\β' (M H)=ℓ/\RW G w0 Z0 Z β' (H++[nb]) w:=by
 let β':aD->aVs:=λk=>if k=M H then ℓ else β k
 have hb':∀k,k<M H->β' k=β k:=λk hk=>A8
 have hbn:β' (M H)=ℓ:=by simp [β']
 have hlive:live β' (M H) nb=live (λ_=>ℓ) 0 nb:=by unfold live;rw [hbn]
 have old:∀k b,(H++[nb])[k]? =ai b->(k<M H/\H[k]? =ai b/\β' k=β k)\/(k=M H/\b=nb):=λk b h=>by
  by_cases hk:k<M H
  ·grind
  ·have hkl:k=M H:=A8
   subst hkl
   simp at h
   exact .inr ⟨rfl,h.symm⟩
 refine ⟨β',hb',hbn,hW.below,hW.Bc,hW.Ep,λk b hk hl hp'=>?_,λk b hk hl hp'=>?_,λk b hk hl=>?_,λi j bi bj hi hj li lj hpi e=>?_,λk b hk=>?_,hW.Ci,λp hp=>⟨R.mono hb' (λ_ h=>h) (λ_ _=>rfl) _ _ (hW.gh p hp).2 (hW.gh p hp).1,okV.mono AI _ (hW.gh p hp).2⟩,hW.Cr⟩
 ·rcases old k b hk with ⟨h1,h2,h3⟩ |⟨rfl,rfl⟩
  ·rw [h3];rw [Ka h3] at hl;exact hW.Cp k b h2 hl hp'
  ·grind
 ·rcases old k b hk with ⟨h1,h2,h3⟩ |⟨rfl,rfl⟩
  ·rw [h3];rw [Ka h3] at hl;exact hW.GR k b h2 hl hp'
  ·rw [hp] at hp';cases hp'
 ·rcases old k b hk with ⟨h1,h2,h3⟩ |⟨rfl,rfl⟩
  ·rw [h3];rw [Ka h3] at hl;exact hW.low k b h2 hl
  ·grind
 ·rcases old i bi hi with ⟨h1,h2,h3⟩ |⟨rfl,rfl⟩
  ·rw [Ka h3] at li
   rcases old j bj hj with ⟨g1,g2,g3⟩ |⟨rfl,rfl⟩
   ·rw [Ka g3] at lj;rw [h3,g3] at e;exact hW.inj i j bi bj h2 g2 li lj hpi e
   ·grind
  ·rw [hlive] at li
   rcases old j bj hj with ⟨g1,g2,g3⟩ |⟨rfl,rfl⟩
   ·rw [Ka g3] at lj;rw [hbn,g3] at e;exact absurd e.symm<|(hf li).2.2 j bj g2 lj
   ·rfl
 ·have hlen:M (H++[nb])=M H+1:=AI
  rw [hlen];rcases old k b hk with ⟨h1,h2,h3⟩ |⟨rfl,rfl⟩
  ·obtain ⟨g1,g2⟩:=hW.blk k b h2
   exact ⟨g1.keep hb' (λ_ h=>h) (λ_ _=>rfl) h3 (λ_=>rfl) g2,g2.mono A0⟩
  ·grind
def RW.set {w':aP}{k:aD}{b nb:AB}(hW:RW G w0 Z0 Z β H w) (hk:H[k]? =ai b) (hl:live β k b) (hp:b.p=X) (hnp:nb.p=X) (hok:okB (M H) nb)
  (hsz:w'.heap.size=w.heap.size) (hos:w'.os=w.os/\w'.tape=w.tape/\w'.output=w.output) (hne:∀j,j≠(β k).b->w'.heap[j]? =w.heap[j]?) (hB:Bb β Z w' k nb):RW G w0 Z0 Z β (H.set k nb) w':=by
 have hw:∀b',Z b'->w'.heap[b']? =w.heap[b']? :=λb' hz=>hne b' λe=>hW.Cp k b hk hl hp<|e▸hz
 have old:∀i bi,(H.set k nb)[i]? =ai bi->(i=k/\bi=nb)\/(i≠k/\H[i]? =ai bi):=λi bi h=>by
  rw [IT] at h;split at h
  ·rename_i e
   grind
  ·grind
 refine ⟨?_,λb' hz=>aPR,hW.Ep,λi bi hi li pi=>?_,λi bi hi li pi=>?_,λi bi hi li=>?_,λi j bi bj hi hj li lj pi e=>?_,λi bi hi=>?_,hW.Ci.mono (λ_ h=>h) hw,λp hp=>⟨R.mono (n:=M H) (λ_ _=>rfl) (λ_ h=>h) hw _ _ (hW.gh p hp).2 (hW.gh p hp).1,aPS⟩,λD hD=>⟨(hW.Cr D hD).1,bR⟩⟩
 ·refine hW.below.trans ⟨hos.1,hos.2.1,hos.2.2,mY hsz.symm,λi hi=>hne i ?_⟩
  have:=hW.low k b hk hl
  omega
 ·rcases old i bi hi with ⟨rfl,rfl⟩ |⟨h1,h2⟩
  ·exact hW.Cp _ b hk hl hp
  ·exact hW.Cp i bi h2 li pi
 ·rcases old i bi hi with ⟨rfl,rfl⟩ |⟨h1,h2⟩
  ·grind
  ·exact hW.GR i bi h2 li pi
 ·rcases old i bi hi with ⟨rfl,rfl⟩ |⟨h1,h2⟩
  ·exact hW.low _ b hk hl
  ·exact hW.low i bi h2 li
 ·rcases old i bi hi with ⟨rfl,rfl⟩ |⟨h1,h2⟩
  ·rcases old j bj hj with ⟨rfl,rfl⟩ |⟨g1,g2⟩
   ·rfl
   ·exact hW.inj _ j b bj hk g2 hl lj hp e
  ·rcases old j bj hj with ⟨rfl,rfl⟩ |⟨g1,g2⟩
   ·exact hW.inj i _ bi b h2 hk li hl pi e
   ·exact hW.inj i j bi bj h2 g2 li lj pi e
 ·rw [C5]
  rcases old i bi hi with ⟨rfl,rfl⟩ |⟨h1,h2⟩
  ·grind
  ·obtain ⟨g1,g2⟩:=hW.blk i bi h2
   refine ⟨g1.keep (λ_ _=>rfl) (λ_ h=>h) hw rfl (λli=>hne _ λe=>?_) g2,g2⟩
   exact h1 (hW.inj k i b bi hk h2 hl li hp e.symm).symm
def RW.alloc {cs:aE}{vs:aY}{t:aT}(hW:RW G w0 Z0 Z β H w) (hr:RL β Z w cs vs.toList) (hk:AT (M H) cs):
  ∃β',(∀k,k<M H->β' k=β k)/\(β'<|M H).b=w.heap.size/\RW G w0 Z0 Z β' (H++[⟨cs,t,.cl,X⟩]) (w.alloc<|.cells vs t)/\(∀b,Z b->(w.alloc<|.cells vs t).heap[b]? =w.heap[b]?):=by
 have hbw:Below w.heap.size w (w.alloc<|.cells vs t):=(Below.refl _ _).alloc (Ar _) _
 have hw:∀b,Z b->(w.alloc<|.cells vs t).heap[b]? =w.heap[b]? :=λb hz=>EI hbw<|hW.Bc b hz
 obtain ⟨β',h1,h2,h3⟩:=(hW.same hbw).Ks (ℓ:=⟨w.heap.size,0,ak⟩) (nb:=⟨cs,t,.cl,X⟩) rfl ⟨AT.mono A0 _ hk,an⟩ (λ_=>⟨λhz=>bM,hW.below.size,λj bj hj lj e=>Su⟩) (λβ' h1 h2=>by
  simp only [Bb,h2];refine ⟨vs,?_,RL.mono h1 (λ_ h=>h) hw _ _ hk hr⟩
  show (w.heap.push _)[w.heap.size]? =_
  simp)
 grind
def Dd (β:aD->aVs) (H:aH) (ks:aI):aI:=(ks.filter λk=>@decide (∃b,H[k]? =ai b/\live β k b/\b.p=X)<|Classical.propDecidable _).map λk=>(β k).b
def eh {ks:aI}{x:aD}:x∈Dd β H ks↔∃k b,k∈ks/\H[k]? =ai b/\live β k b/\b.p=X/\x=(β k).b:=by
 unfold Dd;simp only [F4,Ce]
 constructor
 ·rintro ⟨k,⟨h1,h2⟩,h3⟩
  grind
 ·rintro ⟨k,b,h1,h2,h3,h4,h5⟩
  grind
def TQ {k:aD}{b:AB}(hb:H[k]? =ai b) (hl:live β k b) (hp:b.p=X):(β k).b∈Dd β H [k]:=eh.2 ⟨k,b,AI,hb,hl,hp,rfl⟩
end Go.Sx
namespace Go.Sx
open Go.Proofs.YtepoohnehmfflaaGreatDoor
open Go Go.RowKit
variable {P : Program} {G : B5} {Γ : Specs} {β : Nat -> Loc} {Z : Nat -> Prop} {Z0 : Gz} {w w0 : World} {F : List LV} {H : List AB} {a : Act}
def RD.cells {Z Z':aD->Prop}{w w':aP}(hZ:∀b,Z b->Z' b) (hw:∀b,Z b->w'.heap[b]? =w.heap[b]?):
  ∀(t:Ty) (d:t.D) (b o:aD),(∀j,j<t.n->w'.cell? ⟨b,o+j,ak⟩=w.cell? ⟨b,o+j,ak⟩)->RD Z w t d b o->RD Z' w' t d b o
 | .int _,_,b,o,hb,h=>VO
 | .bool,_,b,o,hb,h=>VO
 | .str,_,b,o,hb,h=>VO
 | .sl e,l,b,o,hb,h=>by
  exact aMO
 | .pair x y,d,b,o,hb,h=>by
  refine ⟨RD.cells hZ hw x d.1 b o (λj hj=>hb j na) h.1,RD.cells hZ hw y d.2 b _ (λj hj=>?_) h.2⟩
  have:=hb (x.n+j) na
  grind
def getD_lt {l:aE}{j:aD}(h:j<M l):l[j]? =ai (l.getD j .junk):=A8
def fh {n:aD}{l:aE}(h:AT n l) (j:aD):okV n (l.getD j .junk):=by
 cases hq:l[j]? with
 |none=>simp [List.getD,hq,okV]
 |some q=>simp only [List.getD,hq,mr];exact AT.get _ _ h hq
def getD_at {e:Ty}{l:List e.D}{i:aD}(h:i<M l):l[i]? =ai (l.getD i e.dflt):=A8
def rX {b off n:aD}{L:aE}(hL:M L=n) (hc:∀q,q<n->∃z,w.cell? ⟨b,off+q,ak⟩=ai z/\R β Z w (L.getD q .junk) z):
  ∃zs:aV,M zs=n/\RL β Z w L zs/\∀w':aP,w'.heap[b]? =w.heap[b]? ->(loadCells ⟨b,off,ak⟩ n).run P w'=.ok zs.toArray w':=by
 have hch:∀j,∃z,j<n->w.cell? ⟨b,off+j,ak⟩=ai z/\R β Z w (L.getD j .junk) z:=λj=>by
  by_cases hj:j<n
  ·grind
  ·exact ⟨undef,λh=>absurd h hj⟩
 obtain ⟨g,hg⟩:=xr hch;refine ⟨(av n).map g,AI,RL.CW A8 λi x hx=>?_,λw' hw'=>?_⟩
 ·have hi:i<n:=A8
  refine ⟨g i,A8,?_⟩
  grind
 ·have hld:=run_loadCells (P:=P) w' ⟨b,off,ak⟩ n g (λj hj=>by rw [addr_add,QY (w:=w) (w':=w') hw'];exact (hg j hj).1)
  grind
def pU {t:aT}{x lv:LV}{y:aW}(hW:RW G w0 Z0 Z β H w) (h:(FU P H t x).all λz=>z=lv) (hr:R β Z w x y) (hk:okV (M H) x):
  ∃z,(∀w',(∀b,(Z b\/∃k,k∈owns x/\b=(β k).b)->w'.heap[b]? =w.heap[b]?)->(Instr.loadAt t y).run P w'=.ok z w')/\R β Z w lv z/\okV (M H) lv:=by
 have ownCl:∀(k:aD) (b:AB),H[k]? =ai b->b.E0=U->∃cs,w.heap[(β k).b]? =ai (.cells cs b.t (0,0))/\RL β Z w b.c cs.toList/\AT (M H) b.c:=λk b hb hc=>by
  obtain ⟨h1,h2⟩:=hW.blk k b hb;unfold Bb at h1;unfold AB.E0 at hc;split at hc
  ·rename_i hk'
   simp only [hk'] at h1;obtain ⟨cs,h3,h4⟩:=h1;exact ⟨cs,h3,h4,h2.1⟩
  ·cases hc
 have vecAt:∀(k es i:aD) (c:aE) (t:aT) (e:Ty) (l:List e.D) (p:aN),H[k]? =ai ⟨c,t,.vec e l,p⟩->(β k).cap≠ak->e.n=es->i<M l->∀q,q<es->∃z,w.cell? ⟨(β k).b,(β k).o+i*es+q,ak⟩=ai z/\R β Z w ((Br e<|l.getD i e.dflt).getD q .junk) z:=λk es i c t e l p hb hcap hes hi q hq=>by
  have h1:=(hW.blk k _ hb).1
  simp only [Bb] at h1;split at h1
  ·exact yX
  ·obtain ⟨cs,_,_,_,h4⟩:=h1
   have h5:=h4 i _<|getD_at hi
   subst hes;exact Wv e _ _ _ h5 q _<|getD_lt (by rw [KT];exact hq)
 unfold FU at h;split at h
 ·rename_i n hag hsz
  have e1:=λw=>di hag w
  have e2:=λw=>run_sizeOf hsz w
  split at h
  ·rename_i k off
   split at h
   ·rename_i b hb
    split at h
    ·rename_i hle
     simp only [T.all] at h;obtain ⟨cs,hc,hrl,hok⟩:=ownCl k b hb hle.1;simp only [R] at hr
     have hlen:=RL.length hrl
     have hn:M ((b.c.drop off).take n)=n:=DC
     obtain ⟨zs,f1,f2,f3⟩:=rX (P:=P) (β:=β) (Z:=Z) (w:=w) (b:=(β k).b) (off:=off) (L:=(b.c.drop off).take n) hn (λq hq=>by
      have hlt:off+q<M b.c:=A0
      obtain ⟨z,h1,h2⟩:=RL.get _ _ hrl<|Dg hlt;refine ⟨z,aP0,?_⟩
      have:((b.c.drop off).take n).getD q .junk=b.c[off+q]:=by
       grind
      rw [this];exact h2)
     refine ⟨.agg zs.toArray,λw' hw'=>?_,?_,?_⟩
     ·have:=f3 w' (hw' (β k).b<|.inr ⟨k,Iy,rfl⟩)
      simp [Instr.loadAt,Instr.sureAddr,hr,loadVar,e1,e2,this]
     ·exact yT
     ·rw [<-h];exact Qi<|hok.take_drop off n
    ·cases h
   ·cases h
  ·rename_i m f
   split at h
   ·rename_i hle
    simp only [T.all] at h;simp only [R] at hr;obtain ⟨b,off,e3,hz,e4⟩:=hr;simp only [okV] at hk
    obtain ⟨zs,f1,f2,f3⟩:=rX (P:=P) (β:=β) (Z:=Z) (w:=w) (b:=b) (off:=off) (L:=(av n).map f) (n:=n) AI (λq hq=>by
     obtain ⟨z,h1,h2⟩:=e4 q A0;exact ⟨z,h1,by simpa [List.getD,hq] using h2⟩)
    refine ⟨.agg zs.toArray,λw' hw'=>?_,?_,?_⟩
    ·have:=f3 w' (hw' b<|.inl hz)
     simp [Instr.loadAt,Instr.sureAddr,e3,loadVar,e1,e2,this]
    ·exact yT
    ·rw [<-h]
     refine Qi<|AT.CW λi x hx=>?_
     have hi:i<n:=by have:=(EF.1 hx).1;simpa using this
     have:x=f i:=by simpa [hi] using hx.symm
     rw [this];exact okV.mono (N9 _) _<|hk i
   ·cases h
  ·rename_i k es i j
   split at h
   ·rename_i c t' e l p hb
    split at h
    ·rename_i hle
     simp only [T.all] at h;obtain ⟨hi,h⟩:=h;simp only [R] at hr
     have hva:=vecAt k es i c t' e l p hb hr.1 hle.1 hi
     have hlen:M (Br e<|l.getD i e.dflt)=es:=by rw [KT];exact hle.1
     obtain ⟨zs,f1,f2,f3⟩:=rX (P:=P) (β:=β) (Z:=Z) (w:=w) (b:=(β k).b) (off:=(β k).o+i*es+j) (L:=((Br e<|l.getD i e.dflt).drop j).take n) (n:=n) (by rw [ME,FL,hlen];omega) (λq hq=>by
      obtain ⟨z,h1,h2⟩:=hva (j+q) A0;refine ⟨z,by rw [Hp _ j q];exact h1,?_⟩
      have:(((Br e<|l.getD i e.dflt).drop j).take n).getD q .junk=(Br e<|l.getD i e.dflt).getD (j+q) .junk:=by
       generalize Br e (l.getD i e.dflt)=L
       grind
      rw [this];exact h2)
     refine ⟨.agg zs.toArray,λw' hw'=>?_,?_,?_⟩
     ·have:=f3 w' (hw' (β k).b<|.inr ⟨k,Iy,rfl⟩)
      simp [Instr.loadAt,Instr.sureAddr,hr.2,loadVar,e1,e2,this]
     ·exact yT
     ·rw [<-h];exact Qi<|(NZ _ e _).take_drop j n
    ·cases h
   ·cases h
  ·cases h
 ·rename_i _ hag
  have e1:=λw=>di hag w
  split at h
  ·rename_i k off
   split at h
   ·rename_i b hb
    split at h
    ·rename_i hcl
     split at h
     ·rename_i z hz
      simp only [T.all] at h;obtain ⟨cs,hc,hrl,hok⟩:=ownCl k b hb hcl;simp only [R] at hr;obtain ⟨q,h1,h2⟩:=RL.get _ _ hrl hz;refine ⟨q,λw' hw'=>?_,?_,?_⟩
      ·have:w'.cell? ⟨(β k).b,off,ak⟩=ai q:=by rw [cell_of_block (by rw [hw' (β k).b<|.inr ⟨k,Iy,rfl⟩];exact hc)];simpa using h1
       simp [Instr.loadAt,Instr.sureAddr,hr,loadVar,e1,this]
      ·rw [<-h];exact h2
      ·rw [<-h];exact AT.get _ _ hok hz
     ·cases h
    ·cases h
   ·cases h
  ·rename_i m f
   split at h
   ·rename_i hm
    simp only [T.all] at h;simp only [R] at hr;obtain ⟨b,off,e3,hz,e4⟩:=hr;obtain ⟨z,h1,h2⟩:=e4 0 hm;refine ⟨z,λw' hw'=>?_,?_,?_⟩
    ·have:w'.cell? ⟨b,off,ak⟩=ai z:=by rw [QY (w:=w) (w':=w')<|hw' b<|.inl hz];simpa using h1
     simp [Instr.loadAt,Instr.sureAddr,e3,loadVar,e1,this]
    ·rw [<-h];exact h2
    ·rw [<-h];simp only [okV] at hk;exact okV.mono (N9 _) _<|hk 0
   ·cases h
  ·rename_i k es i j
   split at h
   ·rename_i c t' e l p hb
    split at h
    ·rename_i hes
     simp only [T.all] at h;obtain ⟨hi,h⟩:=h;split at h
     ·rename_i q hq
      simp only [T.all] at h;simp only [R] at hr
      have hj:j<es:=by
       have:=(EF.1 hq).1
       rw [KT] at this;omega
      obtain ⟨z,h1,h2⟩:=vecAt k es i c t' e l p hb hr.1 hes hi j hj
      have hqq:(Br e<|l.getD i e.dflt).getD j .junk=q:=EE<|(getD_lt (EF.1 hq).1).symm.trans hq
      rw [hqq] at h2;refine ⟨z,λw' hw'=>?_,?_,?_⟩
      ·have:w'.cell? ⟨(β k).b,(β k).o+i*es+j,ak⟩=ai z:=by rw [QY (w:=w) (w':=w')<|hw' (β k).b<|.inr ⟨k,Iy,rfl⟩];exact h1
       simp [Instr.loadAt,Instr.sureAddr,hr.2,loadVar,e1,this]
      ·rw [<-h];exact h2
      ·rw [<-h];exact AT.get _ _ (NZ _ e _) hq
     ·cases h
    ·cases h
   ·cases h
  ·cases h
 ·cases h
end Go.Sx
namespace Go.Sx
open Go.Proofs.YtepoohnehmfflaaGreatDoor
open Go Go.RowKit
variable {P : Program} {G : B5} {Γ : Specs} {β : Nat -> Loc} {Z : Nat -> Prop} {Z0 : Gz} {w w0 : World} {F : List LV} {H : List AB} {a : Act}
def rI {z:aW}(h:K7 z=U):z.oneCell'=true:=by cases z<;>first|rfl|(simp [K7] at h)
def aDV (w:aP) (g:aD) (cs:aY) (k:aD) (h:k≠g):(w.setRow g cs).heap[k]? =w.heap[k]? :=by
 simp only [World.setRow,Array.getElem?_modify]
 grind
def RL.app:∀ {a b:aE}{c d:aV},RL β Z w a c->RL β Z w b d->RL β Z w (a++b) (c++d)
 | [],_,_,_,h,h'=>by simp only [RL] at h;subst h;simpa using h'
 |x::xs,_,_,d,h,h'=>by
  obtain ⟨y,zs,rfl,h3,h4⟩:=h;exact ⟨y,zs++d,rfl,h3,RL.app h4 h'⟩
def RL.drop {l:aE}{ys:aV}(h:RL β Z w l ys) (n:aD):RL β Z w (l.drop n) (ys.drop n):=by
 refine RL.CW (by simp [RL.length h]) λi z hz=>?_
 rw [FM] at hz|-;exact RL.get _ _ h hz
def RL.take {l:aE}{ys:aV}(h:RL β Z w l ys) (n:aD):RL β Z w (l.take n) (ys.take n):=by simpa using h.take_drop 0 n
def RL.setAt {l cs:aE}{ys zs:aV}(h1:RL β Z w l ys) (h2:RL β Z w cs zs) (off:aD):RL β Z w (setAt l off cs) (ys.take off++zs++ys.drop (off+M zs)):=by
 have e2:=RL.length h2
 rw [e2];exact RL.app (RL.app (h1.take off) h2)<|h1.drop _
def AT.append {n:aD}:∀ {a b:aE},AT n a->AT n b->AT n (a++b)
 | [],_,_,h=>h
 |_::_,_,h,h'=>⟨h.1,AT.append h.2 h'⟩
def AT.drop {n:aD}{l:aE}(h:AT n l) (m:aD):AT n (l.drop m):=by
 refine AT.CW λi x hx=>?_
 rw [FM] at hx;exact AT.get _ _ h hx
def AT.setAt {n:aD}{l cs:aE}(h1:AT n l) (h2:AT n cs) (off:aD):AT n (setAt l off cs):=by
 refine AT.append (AT.append ?_ h2)<|h1.drop _
 have:=h1.take_drop 0 off;simpa using this
def qQ {α:Type}{f:LV->Option α}{l:aE}{d:α}(h:hd1 f l=ai d):∃x,l=[x]/\f x=ai d:=by
 unfold hd1 at h;exact nO
def avh {a b:Ty}(h:a=b) (l:List a.D) {y:aW}:R β Z w (.xl b<|Kr h l) y↔R β Z w (.xl a l) y:=by subst h;rfl
def wX {e:Ty}{x:LV}{l:List e.D}{y:aW}(h:N1 e x=ai l) (hr:R β Z w x y):R β Z w (.xl e l) y:=by
 unfold N1 at h;split at h
 ·split at h
  ·rename_i q h'
   simp only [Ah] at h;subst h;exact (avh q _).2 hr
  ·cases h
 ·simp only [Ah] at h
  simp only [R] at hr|-
  grind
 ·cases h
def wZ {Z':aD->Prop}{w':aP}(hZ:∀b,Z b->Z' b) (hw:∀b,Z b->w'.heap[b]? =w.heap[b]?):∀(t:Ty) (cs:aE) (d:t.D) (ys:aV),KA t cs=ai d->RL β Z w cs ys->∀(b o:aD),(∀(j:aD) v,ys[j]? =ai v->w'.cell? ⟨b,o+j,ak⟩=ai v)->RD Z' w' t d b o:=by
 have one:∀ {l:aE} {ys:aV} {x:LV},l=[x]->RL β Z w l ys->∀ {b o:aD},(∀(j:aD) v,ys[j]? =ai v->w'.cell? ⟨b,o+j,ak⟩=ai v)->∃y,R β Z w x y/\w'.cell? ⟨b,o,ak⟩=ai y:=by
  intro l ys x hl hr b o hc;subst hl;simp only [RL] at hr;obtain ⟨y,zs,rfl,h1,_⟩:=hr;exact ⟨y,h1,hc 0 y rfl⟩
 intro t
 induction t with
 | int k=>
  intro cs d ys h hr b o hc;obtain ⟨x,hl,hx⟩:=qQ h;obtain ⟨y,h1,h2⟩:=one hl hr hc;simp only [RD];rw [h2];unfold xB at hx;split at hx
  ·exact aMn
  ·exact aMn
  ·cases hx
 |bool=>
  intro cs d ys h hr b o hc;obtain ⟨x,hl,hx⟩:=qQ h;obtain ⟨y,h1,h2⟩:=one hl hr hc;simp only [RD];rw [h2];unfold xC at hx;split at hx
  ·exact yM
  ·exact yM
  ·cases hx
 |str=>
  intro cs d ys h hr b o hc;obtain ⟨x,hl,hx⟩:=qQ h;obtain ⟨y,h1,h2⟩:=one hl hr hc;simp only [RD];rw [h2];unfold xA at hx;split at hx
  ·exact yM
  ·cases hx
 |sl e _=>
  intro cs d ys h hr b o hc;obtain ⟨x,hl,hx⟩:=qQ h;obtain ⟨y,h1,h2⟩:=one hl hr hc
  have h3:=wX hx h1
  simp only [R] at h3;obtain ⟨a,cap,g1,g2,g3⟩:=h3;simp only [RD];refine ⟨a,cap,by rw [h2,g1],g2,λhn=>?_⟩
  obtain ⟨b',o',g4,g5,g6⟩:=g3 hn;exact ⟨b',o',g4,hZ _ g5,λi d hd=>RD.mono hZ hw e d b' _ g5<|g6 i d hd⟩
 | pair p q ihp ihq=>
  intro cs d ys h hr b o hc;simp only [KA] at h;split at h
  ·rename_i x y hx hy
   simp only [Ah] at h;subst h;simp only [RD];refine ⟨ihp _ x _ hx (hr.take p.n) b o λj v hv=>?_,ihq _ y _ hy (hr.drop p.n) b (o+p.n) λj v hv=>?_⟩
   ·exact aNJ
   ·rw [FM] at hv
    grind
  ·cases h
def aeN {t:aT} {x q:LV} {y z:aW} {H':aH} (hW:RW G w0 Z0 Z β H w) (h:(TX P H t x q).all λr=>r=H') (hr:R β Z w x y) (hq:R β Z w q z) (hqk:okV (M H) q):
  ∃w',(Instr.storeAt t y z).run P w=.ok () w'/\RW G w0 Z0 Z β H' w'/\M H'=M H/\(∀b,Z b->w'.heap[b]? =w.heap[b]?)/\DZ (Dd β H<|owns x) w w':=by
 unfold TX at h;split at h
 ·rename_i n cs hsz hcs
  have e2:=λw=>run_sizeOf hsz w
  obtain ⟨c1,c2⟩:=qZ hcs hq
  have c3:=qC hcs hqk
  have hlen2:=RL.length c1
  split at h
  ·rename_i k off
   split at h
   ·rename_i b hb
    split at h
    ·rename_i hle
     obtain ⟨hcl,hbp,hl1,hl2⟩:=hle;simp only [T.all] at h
     have hbk:b.k=.cl:=by
      unfold AB.E0 at hcl;split at hcl
      ·assumption
      ·cases hcl
     have hlive:live β k b:=by unfold live;rw [hbk];trivial
     obtain ⟨h1,h2⟩:=hW.blk k b hb;unfold Bb at h1;simp only [hbk] at h1;obtain ⟨cur,hc,hrl⟩:=h1
     have hlen:=RL.length hrl
     simp only [R] at hr
     have hst:=xh P (β k).b off b.t z.cells.toList 0 cur w hc (by simp at hlen;omega) λv hv=>rI<|c2 v hv
     have e3:z.cells.size=n:=by simp at hlen2;omega
     have hne:∀j,j≠(β k).b->(w.setRow (β k).b (cur.toList.take (off+0)++z.cells.toList++cur.toList.drop (off+0+M z.cells.toList)).toArray).heap[j]? =w.heap[j]? :=λj hj=>aDV w _ _ _ hj
     refine ⟨w.setRow (β k).b (cur.toList.take (off+0)++z.cells.toList++cur.toList.drop (off+0+M z.cells.toList)).toArray,by simp [Instr.storeAt,Instr.sureAddr,hr,storeVar,e2,e3,hst],?_,by rw [<-h];simp,λb' hz=>hne b' λe=>hW.Cp k b hb hlive hbp<|e▸hz,⟨rfl,rfl,rfl,VZ,λi _ hi=>hne i λe=>hi<|e▸TQ hb hlive hbp⟩⟩
     rw [<-h];refine hW.set hb hlive hbp hbp ⟨AT.setAt h2.1 c3 off,by simp only [hbk]⟩ VZ ⟨rfl,rfl,rfl⟩ hne ?_
     unfold Bb;simp only [hbk];refine ⟨_,setRow_heap w (β k).b cur _ b.t _ hc,?_⟩;refine RL.mono (n:=M H) (λ_ _=>rfl) (λ_ h=>h) (λb' hz=>hne b' λe=>hW.Cp k b hb hlive hbp<|e▸hz) _ _ (AT.setAt h2.1 c3 off) ?_
     have:=RL.setAt (β:=β) (Z:=Z) (w:=w) hrl c1 off
     exact QR
    ·cases h
   ·cases h
  ·rename_i k es i j
   split at h
   ·rename_i c0 bt e l hb
    split at h
    ·rename_i hle
     obtain ⟨hes,hl1,hl2⟩:=hle;simp only [T.all] at h;obtain ⟨hi,h⟩:=h;split at h
     ·rename_i d hd
      simp only [T.all] at h;simp only [R] at hr;obtain ⟨hcap,hy⟩:=hr
      have hlive:live β k ⟨c0,bt,.vec e l,X⟩:=hcap
      obtain ⟨h1,h2⟩:=hW.blk k _ hb;simp only [Bb] at h1;split at h1
      ·exact yX
      ·rename_i c hc
       obtain ⟨cur,g1,g2,g3,g4⟩:=h1;subst hes
       have hmul:i*e.n+e.n<=c*e.n:=by
        have:=N7 e.n (show i+1<=c by omega)
        rwa [GG,Sm] at this
       have e3:z.cells.size=n:=by simp at hlen2;omega
       have hzl:M z.cells.toList=n:=by simpa using e3
       have hst:=xh P (β k).b ((β k).o+i*e.n+j) bt z.cells.toList 0 cur w g1 (by rw [hzl];omega) λv hv=>rI<|c2 v hv
       simp only [Zr] at hst;generalize hnew:(cur.toList.take ((β k).o+i*e.n+j)++z.cells.toList++cur.toList.drop ((β k).o+i*e.n+j+M z.cells.toList)).toArray=new at hst
       have hnget:∀p,new[p]? =if p<(β k).o+i*e.n+j then cur[p]? else if p<(β k).o+i*e.n+j+n then z.cells.toList[p-((β k).o+i*e.n+j)]? else cur[p]? :=λp=>by
        rw [<-hnew]
        by_cases q1:p<(β k).o+i*e.n+j
        ·exact aNM
        ·rw [AE q1]
         simp only [Zn]
         by_cases q2:p<(β k).o+i*e.n+j+n
         ·exact aNt
         ·rw [AE q2,Gc DC,FM]
          have:(β k).o+i*e.n+j+M z.cells.toList+(p-M (cur.toList.take ((β k).o+i*e.n+j)++z.cells.toList))=p:=by
           simp
           omega
          rw [this]
          simp
       have hnsz:new.size=cur.size:=by
        rw [<-hnew]
        simp
        omega
       have hne:∀q,q≠(β k).b->(w.setRow (β k).b new).heap[q]? =w.heap[q]? :=λq hq=>aDV w _ _ _ hq
       have hZw:∀b',Z b'->(w.setRow (β k).b new).heap[b']? =w.heap[b']? :=λb' hz=>hne b' λe=>hW.Cp k _ hb hlive rfl<|e▸hz
       have hblk:=setRow_heap w (β k).b cur new bt _ g1
       refine ⟨w.setRow (β k).b new,by simp [Instr.storeAt,Instr.sureAddr,hy,storeVar,e2,e3,hst],?_,by rw [<-h];simp,hZw,⟨rfl,rfl,rfl,VZ,λq _ hq=>hne q λe=>hq<|e▸TQ hb hlive rfl⟩⟩
       rw [<-h];refine hW.set hb hlive rfl rfl ⟨an,an⟩ VZ ⟨rfl,rfl,rfl⟩ hne ?_;simp only [Bb,hc];refine ⟨new,hblk,A0,by rw [C5];exact g3,λi' d' hd'=>?_⟩
       by_cases hii:i'=i
       ·subst hii
        have hdd:d'=d:=by
         rw [List.getElem?_set_self<|by exact hi] at hd'
         simpa using hd'.symm
        subst hdd
        have hcells:∃ys,RL β Z w (Br e<|l.getD i' e.dflt) ys/\∀p,ys[p]? =if p<e.n then cur[(β k).o+i'*e.n+p]? else none:=by
         have hrd:=g4 i' _<|getD_at hi
         refine ⟨((cur.toList.drop<|(β k).o+i'*e.n).take e.n),RL.CW ?_ λp x hx=>?_,λp=>?_⟩
         ·rw [KT];simp;omega
         ·obtain ⟨v,q1,q2⟩:=Wv (β:=β) e _ _ _ hrd p x hx
          have hp:p<e.n:=by have:=(EF.1 hx).1;rwa [KT] at this
          refine ⟨v,?_,q2⟩;rw [cell_of_block g1] at q1;rw [LQ,AD hp,FM]
          simpa using q1
         ·rw [LQ,FM]
          simp
        obtain ⟨ys,y1,y2⟩:=hcells
        have hset:=RL.setAt y1 c1 j
        refine wZ (λ_ h=>h) hZw e _ d' _ hd hset _ _ λp v hv=>?_
        rw [cell_of_block hblk,hnget]
        have hyl:M ys=e.n:=by have:=RL.length y1;rw [KT] at this;exact this
        by_cases p1:p<j
        ·rw [AD A0]
         rw [Co,Hl DC,aLy p1,y2] at hv;rw [AD A0] at hv;exact hv
        ·by_cases p2:p<j+n
         ·rw [AE A0,AD A0]
          rw [Hl DC,Gc DC] at hv;rw [<-hv]
          congr 1
          simp
          omega
         ·rw [AE A0,AE A0]
          rw [Gc DC,FM,y2] at hv;split at hv
          ·rw [<-hv]
           congr 1
           simp
           omega
          ·cases hv
       ·rw [Zh<|Oc hii] at hd'
        refine RD.cells (λ_ h=>h) hZw e d' _ _ (λp hp=>?_)<|g4 i' d' hd'
        rw [cell_of_block hblk,cell_of_block g1,hnget]
        have hsep:i'*e.n+e.n<=i*e.n\/i*e.n+e.n<=i'*e.n:=by
         rcases QM i' i with hlt|hge
         ·left
          have:=N7 e.n (show i'+1<=i by omega)
          rwa [GG,Sm] at this
         ·right
          have:=N7 e.n (show i+1<=i' by omega)
          rwa [GG,Sm] at this
        split
        ·rfl
        ·rw [AE A0]
     ·cases h
    ·cases h
   ·cases h
  ·cases h
 ·cases h
end Go.Sx
namespace Go.Sx
open Go.Proofs.YtepoohnehmfflaaGreatDoor
open Go Go.RowKit
variable {P : Program} {G : B5} {Γ : Specs} {β : Nat -> Loc} {Z : Nat -> Prop} {Z0 : Gz} {w w0 : World} {F : List LV} {H : List AB} {a : Act}
def RD.move {Z Z':aD->Prop}{w w':aP}(hZ:∀b,Z b->Z' b) (hw:∀b,Z b->w'.heap[b]? =w.heap[b]?):
  ∀(t:Ty) (d:t.D) (b o b' o':aD),(∀j,j<t.n->w'.cell? ⟨b',o'+j,ak⟩=w.cell? ⟨b,o+j,ak⟩)->RD Z w t d b o->RD Z' w' t d b' o'
 | .int _,_,b,o,b',o',hb,h=>VO
 | .bool,_,b,o,b',o',hb,h=>VO
 | .str,_,b,o,b',o',hb,h=>VO
 | .sl e,l,b,o,b',o',hb,h=>by
  exact aMO
 | .pair x y,d,b,o,b',o',hb,h=>by
  refine ⟨RD.move hZ hw x d.1 b o b' o' (λj hj=>hb j na) h.1,RD.move hZ hw y d.2 b _ b' _ (λj hj=>?_) h.2⟩
  have:=hb (x.n+j) na
  grind
def RD.one {Z:aD->Prop}{w:aP}:∀(t:Ty) (d:t.D) (b o:aD),RD Z w t d b o->∀j,j<t.n->∃v,w.cell? ⟨b,o+j,ak⟩=ai v/\K7 v=U
 | .int _,_,b,o,h,j,hj=>by
  exact yP
 | .bool,_,b,o,h,j,hj=>by
  exact yP
 | .str,_,b,o,h,j,hj=>by
  exact yP
 | .sl e,_,b,o,h,j,hj=>by
  simp only [Ty.n] at hj
  have:j=0:=A0
  subst this;obtain ⟨a,cap,h1,_⟩:=h;exact ⟨_,h1,rfl⟩
 | .pair x y,d,b,o,h,j,hj=>by
  simp only [Ty.n] at hj
  by_cases hx:j<x.n
  ·exact RD.one x d.1 b o h.1 j hx
  ·obtain ⟨v,h1,h2⟩:=RD.one y d.2 b (o+x.n) h.2 (j-x.n) A0
   grind
def Ty.n_pos:∀t:Ty,0<t.n
 | .int _=>cC
 | .bool=>cC
 | .str=>cC
 | .sl _=>cC
 | .pair a b=>by have:=Ty.n_pos a;simp only [Ty.n];omega
def aFd {e:Ty}{l:List e.D}{b o:aD}(h:∀(i:aD) (d:e.D),l[i]? =ai d->RD Z w e d b (o+i*e.n)):
  ∃vs:aV,M vs=M l*e.n/\(∀j,j<M l*e.n->w.cell? ⟨b,o+j,ak⟩=vs[j]?)/\(∀u∈vs,K7 u=U):=by
 have hp:=e.n_pos
 have hch:∀j,∃v,j<M l*e.n->w.cell? ⟨b,o+j,ak⟩=ai v/\K7 v=true:=λj=>by
  by_cases hj:j<M l*e.n
  ·have hi:=Nat.div_lt_of_lt_mul (by rw [Nat.mul_comm];exact hj)
   have hd:=h (j / e.n) _<|getD_at hi
   obtain ⟨v,h1,h2⟩:=RD.one e _ _ _ hd (j%e.n)<|Nat.mod_lt _ hp;refine ⟨v,λ_=>⟨?_,h2⟩⟩
   have:=Nat.div_add_mod j e.n
   grind
  ·exact ⟨undef,λh=>absurd h hj⟩
 obtain ⟨g,hg⟩:=xr hch;refine ⟨(av<|M l*e.n).map g,AI,λj hj=>?_,λu hu=>?_⟩
 ·grind
 ·obtain ⟨j,hj,rfl⟩:=F4.1 hu
  grind
def aGR {Z':aD->Prop}{w':aP}(hZ:∀b,Z b->Z' b) (hw:∀b,Z b->w'.heap[b]? =w.heap[b]?) {e:Ty}{l:List e.D}{b o b' o':aD}(h:∀(i:aD) (d:e.D),l[i]? =ai d->RD Z w e d b (o+i*e.n)) {vs:aV}
  (hv:∀j,j<M l*e.n->w.cell? ⟨b,o+j,ak⟩=vs[j]?) (hc:∀j,j<M l*e.n->w'.cell? ⟨b',o'+j,ak⟩=vs[j]?):∀(i:aD) (d:e.D),l[i]? =ai d->RD Z' w' e d b' (o'+i*e.n):=λi d hd=>by
 have hi:=(EF.1 hd).1
 refine RD.move hZ hw e d b (o+i*e.n) b' (o'+i*e.n) (λj hj=>?_)<|h i d hd
 have hlt:i*e.n+j<M l*e.n:=by
  have:=N7 e.n (show i+1<=M l by omega)
  rw [GG,Sm] at this;omega
 grind
def arW {e:Ty}{x:LV}{q:List e.D}{y:aW}(hW:RW G w0 Z0 Z β H w) (h:(FT H e x).all λz=>z=q) (hr:R β Z w x y):
  ∃a c,y=.slice a (M q) c/\(0<M q->∃b o,a=ai ⟨b,o,ak⟩/\∀(i:aD) (d:e.D),q[i]? =ai d->RD Z w e d b (o+i*e.n)):=by
 have gen:∀x,N1 e x=ai q->R β Z w x y->∃a c,y=.slice a (M q) c/\(0<M q->∃b o,a=ai ⟨b,o,ak⟩/\∀(i:aD) (d:e.D),q[i]? =ai d->RD Z w e d b (o+i*e.n)):=λx hx hr=>by
  have h1:=wX hx hr
  obtain ⟨a,c,h1,_,h3⟩:=h1;refine ⟨a,c,h1,λhn=>?_⟩
  grind
 have hdx:∀ {x:LV},(match N1 e x with|some l=>(T.ok l:T<|List e.D) |none=> .no).all (λz=>z=q)->N1 e x=ai q:=λ{x} h=>by
  split at h
  ·rename_i hd;simp only [T.all] at h;rw [hd,h]
  ·cases h
 cases x with
 | os k es off n=>
  simp only [FT] at h;split at h
  ·rename_i c0 bt e' l pp hb
   split at h
   ·rename_i hes
    split at h
    ·rename_i he _
     subst he;simp only [T.all,Kr] at h;obtain ⟨hle,h⟩:=h;subst h
     have hlen:M ((l.drop off).take n)=n:=A8
     rw [hlen];simp only [R] at hr;split at hr
     ·obtain ⟨rfl,_,hy⟩:=hr
      grind
     ·rename_i c hc
      obtain ⟨h1,a,h2,h3⟩:=hr;refine ⟨ai a,c-off,h2,λhn=>?_⟩
      have h4:=(hW.blk k _ hb).1
      simp only [Bb,hc] at h4;obtain ⟨cs,g1,g2,g3,g4⟩:=h4;refine ⟨_,_,by rw [h3 A0],λi d hd=>?_⟩
      rw [LQ] at hd;split at hd
      ·rw [FM] at hd
       have:=g4 (off+i) d hd
       rw [<-hes];rw [GG,<-Hp] at this;exact this
      ·cases hd
    ·cases h
   ·cases h
  ·cases h
 |v x=>simp only [FT] at h;exact gen _ (hdx h) hr
 |bl x=>simp only [FT] at h;exact gen _ (hdx h) hr
 |ki k n=>simp only [FT] at h;exact gen _ (hdx h) hr
 |own k off=>simp only [FT] at h;exact gen _ (hdx h) hr
 |agg l=>simp only [FT] at h;exact gen _ (hdx h) hr
 |AQ l=>simp only [FT] at h;exact gen _ (hdx h) hr
 |fn f l=>simp only [FT] at h;exact gen _ (hdx h) hr
 |fb f l=>simp only [FT] at h;exact gen _ (hdx h) hr
 |xq n f=>simp only [FT] at h;exact gen _ (hdx h) hr
 |xl e l=>simp only [FT] at h;exact gen _ (hdx h) hr
 |op k es i j=>simp only [FT] at h;exact gen _ (hdx h) hr
 |om k=>simp only [FT] at h;exact gen _ (hdx h) hr
 |mp kd ks vs=>simp only [FT] at h;exact gen _ (hdx h) hr
 |oc k es off n c=>simp only [FT] at h;exact gen _ (hdx h) hr
 |CQ k=>simp only [FT] at h;exact gen _ (hdx h) hr
 |junk=>simp only [FT] at h;exact gen _ (hdx h) hr
def pg {t e:aT}{ty:Ty}{m FH:aD}(h:Pc P t=ai (e,ty,m,FH)):P.underlying t=ai (.slice e)/\ty.n=m/\∃i,P.info? e=ai i/\i.size=m/\i.bytes=FH:=by
 unfold Pc at h;split at h
 ·rename_i e' hu
  split at h
  ·rename_i ty' m' b' h1 h2 h3
   split at h
   ·rename_i hm
    simp only [Ah,Ay] at h;obtain ⟨rfl,rfl,rfl,rfl⟩:=h;refine ⟨hu,hm.1,?_⟩;unfold HK at h2;unfold aTV at h3;cases hi:P.info? e' with
    |none=>simp [hi] at h2
    |some i=>simp [hi] at h2 h3;exact ⟨i,rfl,h2,h3⟩
   ·cases h
  ·cases h
 ·cases h
def aFW {e:Ty}{x:LV}{q:List e.D}{y:aW}{tx e':aT}(hk:P.underlying tx=ai (.slice e')) (hW:RW G w0 Z0 Z β H w) (h:(FT H e x).all λz=>z=q) (hr:R β Z w x y):
  ∃news:aV,Src P e.n tx y (M q) news w/\∀(Z':aD->Prop) (w':aP) (b' o':aD),(∀b,Z b->Z' b)->(∀b,Z b->w'.heap[b]? =w.heap[b]?)->(∀j,j<M news->w'.cell? ⟨b',o'+j,ak⟩=news[j]?)->∀(i:aD) (d:e.D),q[i]? =ai d->RD Z' w' e d b' (o'+i*e.n):=by
 obtain ⟨a,c,h1,h2⟩:=arW hW h hr
 by_cases hn:0<M q
 ·obtain ⟨b,o,h3,h4⟩:=h2 hn
  obtain ⟨vs,v1,v2,v3⟩:=aFd h4;refine ⟨vs,?_,λZ' w' b' o' hZ hw hc=>aGR hZ hw h4 v2 λj hj=>hc j A0⟩
  rw [h1,h3]
  exact Src.ofSlice w hk ⟨b,o,ak⟩ _ c vs v1 (λj u hu=>by
   have hj:j<M q*e.n:=A8
   rw [addr_add,v2 j hj,hu]) λu hu=>rI<|v3 u hu
 ·have hq:q=[]:=MH.1 A0
  subst hq;refine ⟨[],?_,λZ' w' b' o' hZ hw hc i d hd=>A8⟩
  rw [h1];cases a with
  |none=>exact Src.ofNil w hk c
  |some a=>exact Src.ofSlice w hk a 0 c [] AI (λj u hu=>A8) λu hu=>by cases hu
def aoj {ty:Ty}{z:aW}{d:ty.D}(hd:KA ty (z.cells.toList.map .v)=ai d) {w':aP}{b o:aD}(hc:∀(j:aD) v,z.cells.toList[j]? =ai v->w'.cell? ⟨b,o+j,ak⟩=ai v):RD Z w' ty d b o:=
 wZ (Z:=Z) (w:=w') (β:=λ_=>default) (λ_ h=>h) (λ_ _=>rfl) ty _ d _ hd (Uq _) b o hc
def aec {t:aT} {n c lv:LV} {vn vc:aW} {H':aH} (hW:RW G w0 Z0 Z β H w) (h:(U0 P H t n c).all λq=>q=(lv,H')) (hn:R β Z w n vn) (hc:R β Z w c vc):
  ∃w' v,(Instr.makeSlice t vn vc).run P w=.ok v w'/\Below w.heap.size w w'/\∃β',(∀k,k<M H->β' k=β k)/\RW G w0 Z0 Z β' H' w'/\R β' Z w' lv v/\okV (M H') lv/\M H'=M H+1/\(β'<|M H).b=w.heap.size:=by
 unfold U0 at h;split at h
 ·rename_i e ty m FH n' c' he hn' hc'
  obtain ⟨hu,htn,i,hi,him,hib⟩:=pg he;split at h
  ·rename_i z hz
   split at h
   ·rename_i d hd
    split at h
    ·rename_i hzs
     simp only [T.all] at h;obtain ⟨⟨h0,h1,h2,h3⟩,h4⟩:=h;obtain ⟨rfl,rfl⟩:=h4
     have hzi:i.zero=ai z:=aP5
     have hrun:=run_make (P:=P) w t e i z hu hi hzi J J n' c' h0 h1 (by rw [hib];simpa using h2) A0
     rw [Cm hn' hn,Cm hc' hc]
     have hbw:Below w.heap.size w (w.alloc<|.cells (madeCells z.cells<|c'.toNat*i.size) e):=(Below.refl _ _).alloc (Ar _) _
     have hblk:(w.alloc<|.cells (madeCells z.cells<|c'.toNat*i.size) e).heap[w.heap.size]? =ai (.cells (madeCells z.cells<|c'.toNat*i.size) e (0,0)):=by
      exact bJ
     obtain ⟨β',b1,b2,b3⟩:=(hW.same hbw).Ks (ℓ:=⟨w.heap.size,0,ai c'.toNat⟩) (nb:=⟨[],e,.vec ty<|au n'.toNat d,X⟩) rfl ⟨an,an⟩
      (λ_=>⟨λhz=>bM,hW.below.size,λj bj hj lj e=>Su⟩) (λβ' g1 g2=>by
       simp only [Bb,g2];refine ⟨_,hblk,by simp [madeCells,htn,him],DC,λj d' hd'=>?_⟩
       have hj:j<n'.toNat:=A8
       have hdd:d'=d:=A8
       subst hdd;refine aoj hd λp v hv=>?_
       have hp:p<m:=A8
       rw [cell_of_block hblk]
       have hlt:0+j*ty.n+p<c'.toNat*i.size:=by
        have:=N7 m (show j+1<=c'.toNat by omega)
        rw [GG,Sm] at this;rw [htn,him];omega
       rw [madeCells]
       have hv':z.cells[p]? =ai v:=by simpa using hv
       rw [htn,F5] at hlt|-;simp only [Array.getElem?_map,Array.getElem?_range];rw [AD hlt];simp only [Jn,hzs,Nat.mul_comm j m,Nat.mul_add_mod,Nat.mod_eq_of_lt hp];rw [getElem!_def,hv'])
     exact ⟨_,_,hrun,hbw,β',b1,b3,by simp only [R,b2];exact ⟨DC,⟨w.heap.size,0,ak⟩,AI,λ_=>AI⟩,MM,AI,Ve⟩
    ·cases h
   ·cases h
  ·cases h
 ·cases h
def aeP {t:aT}{lv:LV}{H':aH}(hW:RW G w0 Z0 Z β H w) (h:(Ww P H t).all λq=>q=(lv,H')):
  ∃w' v,(Instr.buildSlice t 0 #[]).run P w=.ok v w'/\Below w.heap.size w w'/\∃β',(∀k,k<M H->β' k=β k)/\RW G w0 Z0 Z β' H' w'/\R β' Z w' lv v/\okV (M H') lv/\M H'=M H+1/\(β'<|M H).b=w.heap.size:=by
 unfold Ww at h;split at h
 ·rename_i e ty m FH he
  obtain ⟨hu,htn,i,hi,him,hib⟩:=pg he;obtain ⟨rfl,rfl⟩:=h
  have hbw:Below w.heap.size w (w.alloc<|.cells #[] e):=(Below.refl _ _).alloc (Ar _) _
  have hblk:(w.alloc<|.cells #[] e).heap[w.heap.size]? =ai (.cells #[] e (0,0)):=by
   exact bJ
  obtain ⟨β',b1,b2,b3⟩:=(hW.same hbw).Ks (ℓ:=⟨w.heap.size,0,ai 0⟩) (nb:=⟨[],e,.vec ty [],X⟩) rfl ⟨an,an⟩
   (λ_=>⟨λhz=>bM,hW.below.size,λj bj hj lj e=>Su⟩) (λβ' g1 g2=>by
    simp only [Bb,g2];exact ⟨_,hblk,AI,AI,λj d hd=>A8⟩)
  have hsz:HK P e=ai m:=by unfold HK;simp [hi,him]
  refine ⟨_,.slice (ai ⟨w.heap.size,0,ak⟩) 0 0,?_,hbw,β',b1,b3,by simp only [R,b2];exact ⟨AI,⟨w.heap.size,0,ak⟩,rfl,λh=>A8⟩,MM,AI,Ve⟩
  have e1:=λw=>run_sizeOf hsz w
  have n1:¬(0>2^24):=Ac
  have ha:∀f:aD->aW,(Array.range 0).map f=#[]:=λf=>AI
  simp only [Instr.buildSlice,mm,Cg hu,mM,e1,mZ,xf,newRow,AE n1,Bo,ha];rfl
 ·cases h
def RW.kill (hW:RW G w0 Z0 Z β H w) (k:aD) (e:aT):RW G w0 Z0 Z β (H.set k ⟨[],e,.dead,X⟩) w:=by
 have old:∀i bi,(H.set k ⟨[],e,.dead,X⟩)[i]? =ai bi->(¬live β i bi/\Bb β Z w i bi/\okB (M H) bi)\/H[i]? =ai bi:=λi bi h=>by
  rw [IT] at h;split at h
  ·rename_i e'
   split at h
   ·simp only [Ah] at h;subst h;exact .inl ⟨λh=>h,an,an,an⟩
   ·cases h
  ·exact .inr h
 refine ⟨hW.below,hW.Bc,hW.Ep,λi bi hi li pi=>?_,λi bi hi li pi=>?_,λi bi hi li=>?_,λi j bi bj hi hj li lj pi e=>?_,λi bi hi=>?_,hW.Ci,λp hp=>⟨(hW.gh p hp).1,aPS⟩,hW.Cr⟩
 ·rcases old i bi hi with h|h
  ·grind
  ·exact hW.Cp i bi h li pi
 ·rcases old i bi hi with h|h
  ·grind
  ·exact hW.GR i bi h li pi
 ·rcases old i bi hi with h|h
  ·grind
  ·exact hW.low i bi h li
 ·rcases old i bi hi with h|h
  ·grind
  ·rcases old j bj hj with h'|h'
   ·grind
   ·exact hW.inj i j bi bj h h' li lj pi e
 ·rw [C5]
  rcases old i bi hi with h|h
  ·grind
  ·exact hW.blk i bi h
def RW.loose {w':aP}{B:aD}(hW:RW G w0 Z0 Z β H w) (hB:w0.heap.size<=B) (hBZ:¬Z B) (hBo:∀j bj,H[j]? =ai bj->live β j bj->(β j).b≠B)
  (hsz:w'.heap.size=w.heap.size) (hos:w'.os=w.os/\w'.tape=w.tape/\w'.output=w.output) (hne:∀j,j≠B->w'.heap[j]? =w.heap[j]?):RW G w0 Z0 Z β H w':=by
 have hw:∀b',Z b'->w'.heap[b']? =w.heap[b']? :=λb' hz=>hne b' λe=>hBZ<|e▸hz
 refine ⟨?_,λb' hz=>aPR,hW.Ep,hW.Cp,hW.GR,hW.low,hW.inj,λi bi hi=>?_,hW.Ci.mono (λ_ h=>h) hw,λp hp=>⟨R.mono (n:=M H) (λ_ _=>rfl) (λ_ h=>h) hw _ _ (hW.gh p hp).2 (hW.gh p hp).1,(hW.gh p hp).2⟩,λD hD=>⟨(hW.Cr D hD).1,bR⟩⟩
 ·exact hW.below.trans ⟨hos.1,hos.2.1,hos.2.2,mY hsz.symm,λi hi=>hne i A0⟩
 ·obtain ⟨g1,g2⟩:=hW.blk i bi hi
  exact ⟨g1.keep (λ_ _=>rfl) (λ_ h=>h) hw rfl (λli=>hne _<|hBo i bi hi li) g2,g2⟩
def ae9 (z:aY) (n:aD):(Builtin.zeroCells z n).size=n*z.size:=by simp [Builtin.zeroCells]
def Back (Z:aD->Prop) (w:aP) (e:Ty) (l:List e.D) (vs:aV):Prop:=
 ∀(Z':aD->Prop) (w':aP) (b' o':aD),(∀b,Z b->Z' b)->(∀b,Z b->w'.heap[b]? =w.heap[b]?)->(∀j,j<M vs->w'.cell? ⟨b',o'+j,ak⟩=vs[j]?)->∀(i:aD) (d:e.D),l[i]? =ai d->RD Z' w' e d b' (o'+i*e.n)
def aF3 (hW:RW G w0 Z0 Z β H w) {t tx ty' e:aT}{i:TypeInfo}{z:aW}(hu:P.underlying t=ai (.slice e)) (hi:P.info? e=ai i) (hz:i.zero=ai z) {ty:Ty}(hts:i.size=ty.n) (hzs:z.cells.size=ty.n)
  {base:Option Addr} {sCap:aD} {olds:aV} {lo q:List ty.D} (hold:(Builtin.firstCells i.size (M lo)<|.slice base (M lo) sCap).run P w.drew=.ok olds.toArray w.drew) (hol:M olds=M lo*ty.n)
  (ob:Back Z w ty lo olds) {y:aW} {news:aV} (hs:Src P ty.n tx y (M q) news w) (nb:Back Z w ty q news) (hg:sCap<M lo+M q)
  (h63:((M lo+M q:aD):Y)<2^62) (hby:((M lo+M q:aD):Y)*i.bytes<=2^47):
  ∃w' v,(Builtin.append_ #[t,tx] ty' #[.slice base (M lo) sCap,y]).run P w=.ok v w'/\Below w.heap.size w w'/\∃β',(∀k,k<M H->β' k=β k)/\RW G w0 Z0 Z β' (H++[⟨[],e,.vec ty<|lo++q,X⟩]) w'/\
   R β' Z w' (.os (M H) ty.n 0<|M lo+M q) v/\(β'<|M H).b=w.heap.size:=by
 have hnl:=hs.newsLen
 have hrun:=run_append_grow_src (P:=P) w t tx ty' e i z hu hi hz base (M lo) sCap olds hold y (M q) news (by rw [hts];exact hs) hg A0<|growslice_fits hg (by
  omega)
 have hcap:=grownCap_ge w (M lo+M q) sCap e
 generalize grownCap w (M lo+M q) sCap e=cap at hrun hcap;generalize hcs:((olds++news).toArray++Builtin.zeroCells z.cells (cap-(M lo+M q)))=cs at hrun
 have hbw:Below w.heap.size w (w.drew.alloc<|.cells cs e):=⟨rfl,rfl,rfl,by simp [World.alloc],λk hk=>heap_alloc_old w.drew _ hk⟩
 have hblk:(w.drew.alloc<|.cells cs e).heap[w.heap.size]? =ai (.cells cs e (0,0)):=heap_alloc_new w.drew _
 have hw:∀b,Z b->(w.drew.alloc<|.cells cs e).heap[b]? =w.heap[b]? :=λb hz=>EI hbw<|hW.Bc b hz
 have hc1:∀j,j<M olds->cs[j]? =olds[j]? :=λj hj=>by
  rw [<-hcs,xc DC];simp only [Zn]
  grind
 have hc2:∀j,j<M news->cs[M olds+j]? =news[j]? :=λj hj=>by
  rw [<-hcs,xc DC];simp only [Zn];rw [Gc A0]
  congr 1
  omega
 obtain ⟨β',b1,b2,b3⟩:=(hW.same hbw).Ks (ℓ:=⟨w.heap.size,0,ai cap⟩) (nb:=⟨[],e,.vec ty<|lo++q,X⟩) rfl ⟨an,an⟩
  (λ_=>⟨λhz=>A8,hW.below.size,λj bj hj lj e=>Su⟩) (λβ' g1 g2=>by
   simp only [Bb,g2];refine ⟨cs,hblk,?_,by rw [B8];omega,λj d hd=>?_⟩
   ·rw [<-hcs]
    have h1:cap*ty.n=(M lo+M q)*ty.n+(cap-(M lo+M q))*ty.n:=by
     rw [<-GG];congr 1;omega
    simp only [Array.size_append,ae9,hzs,List.size_toArray,B8,hol,hnl];rw [h1,GG];omega
   ·by_cases hj:j<M lo
    ·rw [Hl hj] at hd
     exact ob Z _ w.heap.size 0 (λ_ h=>h) hw (λp hp=>by rw [cell_of_block hblk,F5,hc1 p hp]) j d hd
    ·rw [Gc A0] at hd
     have:=nb Z _ w.heap.size (0+M olds) (λ_ h=>h) hw (λp hp=>by rw [cell_of_block hblk,F5,hc2 p hp]) _ d hd
     rw [hol,F5,<-GG] at this;rw [show M lo+(j-M lo)=j by omega] at this
     rw [F5];exact this)
 exact ⟨_,_,hrun,hbw,β',b1,b3,aOU,Ve⟩
def size_setCells (b:aD):∀(vs:aV) (o:aD) (w:aP),(w.setCells b o vs).heap.size=w.heap.size
 | [],_,_=>rfl
 |v::r,o,w=>by rw [World.setCells,size_setCells b r];simp
def adf (b:aD):∀(vs:aV) (o:aD) (w:aP),(w.setCells b o vs).tape=w.tape
 | [],_,_=>rfl
 |v::r,o,w=>by rw [World.setCells,adf b r];rfl
def ae8 (w:aP) (g o:aD) (vs:aV) {i:aD}(hne:i≠g):(w.setCells g o vs).heap[i]? =w.heap[i]? :=by
 by_cases hi:i<w.heap.size
 ·exact World.heap_setCells_other w g o vs hi hne
 ·rw [xu (by rw [size_setCells];omega),xu A0]
def adX (b:aD) (t:aT):∀(vs:aV) (o:aD) (w:aP) (cs:aY),w.heap[b]? =ai (.cells cs t (0,0))->∃cs',(w.setCells b o vs).heap[b]? =ai (.cells cs' t (0,0))/\cs'.size=cs.size
 | [],_,w,cs,h=>⟨cs,h,rfl⟩
 | v::r,o,w,cs,h=>by
  have h1:(w.setCell ⟨b,o,ak⟩ v).heap[b]? =ai (.cells (cs.setIfInBounds o v) t (0,0)):=by
   simp [World.setCell,Array.getElem?_modify,h]
  obtain ⟨cs',h2,h3⟩:=adX b t r (o+1) _ _ h1;exact ⟨cs',h2,A8⟩
def af6 (hW:RW G w0 Z0 Z β H w) {t tx ty' e:aT}{i:TypeInfo}(hu:P.underlying t=ai (.slice e)) (hkx:∃e',P.underlying tx=ai (.slice e')) (hi:P.info? e=ai i) {ty:Ty}(him:i.size=ty.n)
  {B O c:aD} {ad:Addr} {lo q:List ty.D} {cs:aY} (g1:w.heap[B]? =ai (.cells cs e (0,0))) (g2:O+c*ty.n<=cs.size) (had:0<c->ad=⟨B,O,ak⟩)
  (hB0:w0.heap.size<=B) (hBZ:¬Z B) (hBo:∀j bj,H[j]? =ai bj->live β j bj->(β j).b≠B)
  (olde:∀(j:aD) (d:ty.D),lo[j]? =ai d->RD Z w ty d B (O+j*ty.n)) {y:aW} {news:aV} (hs:Src P ty.n tx y (M q) news w) (nb:Back Z w ty q news) (hroom:M lo+M q<=c):
  ∃w' v,(Builtin.append_ #[t,tx] ty' #[.slice (ai ad) (M lo) c,y]).run P w=.ok v w'/\(w'.os=w.os/\w'.tape=w.tape/\w'.output=w.output/\w'.heap.size=w.heap.size)/\(∀j,j≠B->w'.heap[j]? =w.heap[j]?)/\
   ∃β',(∀k,k<M H->β' k=β k)/\RW G w0 Z0 Z β' (H++[⟨[],e,.vec ty<|lo++q,X⟩]) w'/\R β' Z w' (.os (M H) ty.n 0<|M lo+M q) v/\(β'<|M H).b=B:=by
 have hnl:=hs.newsLen
 have hmr:M lo*ty.n+M q*ty.n<=c*ty.n:=by rw [<-GG];exact N7 _ hroom
 have hrun:(Builtin.append_ #[t,tx] ty' #[.slice (ai ad) (M lo) c,y]).run P w=.ok (.slice (ai ad) (M lo+M q) c) (w.setCells B (O+M lo*ty.n) news):=by
  by_cases hc0:0<c
  ·rw [had hc0]
   have:=run_append_room_src (P:=P) w t tx ty' e i hu hi B O (M lo) c y (M q) news (by rw [him];exact hs) hroom (λj hj=>by
    rw [cell_of_block g1,him]
    have:O+M lo*ty.n+j<cs.size:=A0
    simp [this]) λj hj=>ae5 g1 _
   rw [him] at this;exact this
  ·have hn0:M lo=0:=A0
   have hq0:M q=0:=A0
   have hnn:news=[]:=MH.1 (by rw [hnl,hq0];simp)
   have hl:=hs.len
   have hc:=hs.cells
   rw [hq0] at hl hc;subst hnn;rw [hq0,hn0];obtain ⟨e',hk⟩:=hkx
   simp [Builtin.append_,Cg hu,Cg hk,sizeOf,typeInfo,hi,hl,him,hc,World.setCells,storeCells]
 have hne:∀j,j≠B->(w.setCells B (O+M lo*ty.n) news).heap[j]? =w.heap[j]? :=λj hj=>ae8 w _ _ _ hj
 have hZw:∀b',Z b'->(w.setCells B (O+M lo*ty.n) news).heap[b']? =w.heap[b']? :=λb' hz=>hne b' λe=>hBZ<|e▸hz
 have hin:=World.cell?_setCells_in B news (O+M lo*ty.n) w (λj hj=>by
  rw [cell_of_block g1]
  have:O+M lo*ty.n+j<cs.size:=A0
  simp [this])
 have hout:=λj (hj:j<O+M lo*ty.n)=>World.cell?_setCells_out B news (O+M lo*ty.n) w ⟨B,j,ak⟩ λ_ _=> .inl hj
 obtain ⟨cs',q1,q2⟩:=adX B e news (O+M lo*ty.n) w cs g1
 have hos:=World.os_setCells w B (O+M lo*ty.n) news
 have hot:=World.output_setCells w B (O+M lo*ty.n) news
 have htp:=adf B news (O+M lo*ty.n) w
 have hsz:=size_setCells B news (O+M lo*ty.n) w
 generalize w.setCells B (O+M lo*ty.n) news=w' at hrun hne hZw hin hout q1 hos hot htp hsz
 have hW2:=hW.loose hB0 hBZ hBo hsz ⟨hos,htp,hot⟩ hne
 obtain ⟨β',b1,b2,b3⟩:=hW2.Ks (ℓ:=⟨B,O,ai c⟩) (nb:=⟨[],e,.vec ty<|lo++q,X⟩) rfl ⟨an,an⟩ (λ_=>⟨hBZ,hB0,hBo⟩) (λβ' f1 f2=>by
  simp only [Bb,f2];refine ⟨cs',q1,A0,by rw [B8];exact hroom,λj d hd=>?_⟩
  by_cases hj:j<M lo
  ·rw [Hl hj] at hd
   refine RD.move (λ_ h=>h) hZw ty d _ _ _ _ (λp hp=>?_)<|olde j d hd
   have:=N7 ty.n (show j+1<=M lo by omega)
   rw [GG,Sm] at this;exact hout _ A0
  ·rw [Gc A0] at hd
   have:=nb Z w' B (O+M lo*ty.n) (λ_ h=>h) hZw (λp hp=>by rw [hin p hp,Dg hp]) _ d hd
   rw [Hp O,<-GG,show M lo+(j-M lo)=j by omega] at this
   exact this)
 refine ⟨w',_,hrun,⟨hos,htp,hot,hsz⟩,hne,β',b1,b3,?_,Ve⟩;simp only [R,b2]
 grind
def T.B4 {α γ:Type}{t:T α}{k:α->T γ}{y:γ}(h:(t.bind k).all λz=>z=y):∃x,t.all (λz=>z=x)/\(k x).all (λz=>z=y):=by
 rw [T.all_bind] at h;obtain ⟨x,h1,h2⟩:=T.pick h
 grind
def aeI {t tx ty':aT} {x y lv:LV} {vx vy:aW} {H':aH} (hW:RW G w0 Z0 Z β H w) (h:(Lj P H t tx x y).all λq=>q=(lv,H')) (hx:R β Z w x vx) (hy:R β Z w y vy):
  ∃w' v,(Builtin.append_ #[t,tx] ty' #[vx,vy]).run P w=.ok v w'/\DZ (Dd β H<|owns x) w w'/\(∀b,Z b->w'.heap[b]? =w.heap[b]?)/\∃β',(∀k,k<M H->β' k=β k)/\RW G w0 Z0 Z β' H' w'/\R β' Z w' lv v/\okV (M H') lv/\
   (M H')=M H+1/\(w.heap.size<=(β'<|M H).b\/(β'<|M H).b∈Dd β H (owns x)):=by
 unfold Lj at h;split at h
 ·rename_i e ty m FH he
  obtain ⟨hu,htn,i,hi,him,hib⟩:=pg he;split at h
  ·rename_i e2 z hkx hz
   have hzi:i.zero=ai z:=aP5
   split at h
   ·rename_i hzs
    obtain ⟨q,hq,hnew⟩:=T.B4 h
    clear h
    have h:=hnew
    clear hnew
    ·obtain ⟨news,hs,nb⟩:=aFW hkx hW hq hy
     have hnl:=hs.newsLen
     subst htn
     have nil:∀(H1:aH),RW G w0 Z0 Z β H1 w->(M q:Y)*FH<=2^47->(M q:Y)<2^62->
       ∃w' v,(Builtin.append_ #[t,tx] ty' #[.slice ak 0 0,vy]).run P w=.ok v w'/\Below w.heap.size w w'/\∃β',(∀k,k<M H1->β' k=β k)/\RW G w0 Z0 Z β' (H1++[⟨[],e,.vec ty q,X⟩]) w'/\R β' Z w' (.os (M H1) ty.n 0<|M q) v/\(β'<|M H1).b=w.heap.size:=λH1 hW1 hby h62=>by
      by_cases hq0:0<M q
      ·have:=aF3 (P:=P) (ty':=ty') hW1 hu hi hzi him hzs (base:=ak) (sCap:=0) (olds:=[]) (lo:=[]) (q:=q) (by simpa using run_firstCells_none (P:=P) w.drew i.size 0 0 0) AI (λ_ _ _ _ _ _ _ i d hd=>by simp at hd) hs nb (by simpa using hq0) (by simpa using h62) (by rw [hib];simpa using hby)
       exact QR
      ·have hqn:q=[]:=MH.1 A0
       subst hqn
       have hn0:news=[]:=MH.1<|by simpa using hnl
       subst hn0;obtain ⟨β',b1,b2,b3⟩:=hW1.Ks (ℓ:=⟨w.heap.size,0,ak⟩) (nb:=⟨[],e,.vec ty [],X⟩) rfl ⟨an,an⟩ (λhl=>absurd rfl hl) λβ' g1 g2=>zR
       refine ⟨w,.slice ak 0 0,?_,Below.refl _ _,β',b1,b3,by simp [R,b2],Ve⟩
       have hl:=hs.len
       have hc:=hs.cells
       simp only [Bh] at hl hc
       simp [Builtin.append_,Cg hu,Cg hkx,sizeOf,typeInfo,hi,hl,him,hc]
     split at h
     ·simp only [T.all] at h
      obtain ⟨⟨h1,h2⟩,h3⟩:=h;simp only [Ay] at h3;obtain ⟨rfl,rfl⟩:=h3;simp only [R] at hx;subst hx;obtain ⟨w',v,r1,r2,β',r3,r4,r5,r6⟩:=nil H hW h1 h2;exact ⟨w',v,r1,⟨r2.os,r2.tape,r2.output,r2.size,λk hk _=>r2.block k hk⟩,λb hz=>EI r2<|hW.Bc b hz,β',r3,r4,r5,MM,AI,.inl A0⟩
     ·rename_i k es off n
      split at h
      ·rename_i c0 bt e' l hb
       split at h
       ·rename_i hee _
        have hee':=hee.symm
        subst hee';split at h
        ·rename_i hes
         obtain ⟨rfl,rfl⟩:=hes;simp only [T.all] at h;obtain ⟨⟨hlen,hby,h62⟩,h3⟩:=h;simp only [Ay,Kr] at h3;obtain ⟨rfl,rfl⟩:=h3
         have hkl:k<M H:=(EF.1 hb).1
         have hW1:=hW.kill k bt
         have hblk:=(hW.blk k _ hb).1
         simp only [R] at hx;split at hx
         ·rename_i hcap
          obtain ⟨rfl,rfl,rfl⟩:=hx;simp only [Bb,hcap] at hblk;subst hblk;obtain ⟨w',v,r1,r2,β',r3,r4,r5,r6⟩:=nil _ hW1 (by simpa using hby)<|by simpa using h62
          simp only [C5] at r3 r5 r6;exact ⟨w',v,r1,⟨r2.os,r2.tape,r2.output,r2.size,λk hk _=>r2.block k hk⟩,λb hz=>EI r2<|hW.Bc b hz,β',r3,by simpa using r4,by simpa using r5,MM,AI,.inl A0⟩
         ·rename_i c hcap
          obtain ⟨hoc,ad,hvx,had⟩:=hx;subst hvx;simp only [Bb,hcap] at hblk;obtain ⟨cs,g1,g2,g3,g4⟩:=hblk
          have hlive:live β k ⟨c0,bt,.vec ty l,X⟩:=by simp [live,hcap]
          have hB0:=hW.low k _ hb hlive
          have hBZ:=hW.Cp k _ hb hlive rfl
          have hBo:∀j bj,(H.set k ⟨[],bt,.dead,X⟩)[j]? =ai bj->live β j bj->(β j).b≠(β k).b:=λj bj hj lj e=>by
           rw [IT] at hj;split at hj
           ·first
            | (split at hj
               ·simp only [Ah] at hj;subst hj;exact lj
               ·cases hj)
            |(simp only [Ah] at hj;subst hj;exact lj)
           ·rename_i hne
            exact hne<|hW.inj k j _ bj hb hj hlive lj rfl e.symm
          have olde:∀(j:aD) (d:ty.D),(l.drop off)[j]? =ai d->RD Z w ty d (β k).b ((β k).o+off*ty.n+j*ty.n):=λj d hd=>by
           rw [FM] at hd
           have:=g4 (off+j) d hd
           rwa [GG,<-Hp] at this
          have hln:M (l.drop off)=n:=DC
          have hmul:off*ty.n+(c-off)*ty.n=c*ty.n:=by rw [<-GG];congr 1;omega
          by_cases hroom:n+M q<=c-off
          ·--in place
           have hr:=af6 (P:=P) (ty':=ty') hW1 hu ⟨_,hkx⟩ hi him (B:=(β k).b) (O:=(β k).o+off*ty.n) (c:=c-off) (ad:=ad) (lo:=l.drop off) (q:=q) g1 A0 had hB0 hBZ hBo olde hs nb (by rw [hln];exact hroom)
           rw [hln] at hr;obtain ⟨w',v,r1,⟨r2,r3,r4,r5⟩,r6,β',r7,r8,r9,r10⟩:=hr;simp only [C5] at r7 r9 r10;exact ⟨w',v,r1,⟨r2,r3,r4,A0,λj _ hj=>r6 j λe=>hj<|e▸TQ hb hlive rfl⟩,λb' hz=>r6 b' λe=>hBZ<|e▸hz,β',r7,r8,r9,MM,AI,.inr (by rw [r10];exact TQ hb hlive rfl)⟩
          ·--a new row
           obtain ⟨olds,o1,o2,o3⟩:=aFd olde
           have hold:(Builtin.firstCells i.size n<|.slice (ai ad) n<|c-off).run P w.drew=.ok olds.toArray w.drew:=by
            by_cases hc0:0<c-off
            ·rw [had hc0,him]
             refine run_firstCells_some (P:=P) w.drew ty.n n _ n (c-off) olds (by rw [o1,hln]) λj v hv=>?_
             have hj:j<M (l.drop off)*ty.n:=by have:=(EF.1 hv).1;omega
             rw [addr_add]
             have:=o2 j hj
             rw [hv] at this;exact this
            ·have hn0:n=0:=A0
             have:olds=[]:=MH.1 (by rw [o1,hln,hn0];simp)
             rw [this,hn0]
             simp [Builtin.firstCells,loadCells,loadCellsFrom]
           have hgr:=aF3 (P:=P) (ty':=ty') hW1 hu hi hzi him hzs (base:=ai ad) (sCap:=c-off) (olds:=olds) (lo:=l.drop off) (q:=q) (by rw [hln];exact hold) o1 (λZ' w' b' o' hZ hw hc=>aGR hZ hw olde o2 λj hj=>hc j A0) hs nb (by rw [hln];omega) (by rw [hln];exact h62) (by rw [hln,hib];exact hby)
           rw [hln] at hgr;obtain ⟨w',v,r1,r2,β',r3,r4,r5,r6⟩:=hgr;simp only [C5] at r3 r5 r6;exact ⟨w',v,r1,⟨r2.os,r2.tape,r2.output,r2.size,λk hk _=>r2.block k hk⟩,λb hz=>EI r2<|hW.Bc b hz,β',r3,r4,r5,MM,AI,.inl A0⟩
        ·cases h
       ·cases h
      ·cases h
     ·cases h
   ·cases h
  ·cases h
 ·cases h
def aem {t tx ty':aT} {x y lv:LV} {vx vy:aW} {H':aH} (hW:RW G w0 Z0 Z β H w) (h:(Xs P H t tx x y).all λq=>q=(lv,H')) (hx:R β Z w x vx) (hy:R β Z w y vy):
  ∃w' v,(Builtin.copy_ #[t,tx] ty' #[vx,vy]).run P w=.ok v w'/\RW G w0 Z0 Z β H' w'/\R β Z w' lv v/\okV (M H') lv/\M H'=M H/\(∀b,Z b->w'.heap[b]? =w.heap[b]?)/\DZ (Dd β H<|owns x) w w':=by
 unfold Xs at h;split at h
 ·rename_i e ty m FH e2 he hkx
  obtain ⟨hu,htn,i,hi,him,hib⟩:=pg he;subst htn;split at h
  ·rename_i k es n
   split at h
   ·rename_i c0 bt e' l hb
    split at h
    ·rename_i hee _
     have hee':=hee.symm
     subst hee';split at h
     ·rename_i hes
      subst hes;obtain ⟨q,hq,h⟩:=T.B4 h;obtain ⟨news,hs,nb⟩:=aFW hkx hW hq hy
      have hnl:=hs.newsLen
      simp only [T.all] at h;obtain ⟨⟨hn,hql⟩,h3⟩:=h;simp only [Ay,Kr] at h3;obtain ⟨rfl,rfl⟩:=h3
      have hkl:k<M H:=(EF.1 hb).1
      obtain ⟨hblk,hbo⟩:=hW.blk k _ hb
      have hcells:=hs.cells
      have hlen:=hs.len
      have same:M q=0->H.set k ⟨c0,bt,.vec ty<|BG q l,X⟩=H:=λh0=>by
       have hq0:q=[]:=MH.1 h0
       subst hq0
       have e:H=H.set k ⟨c0,bt,.vec ty l,X⟩:=by
        apply List.ext_getElem? λj=>?_
        rw [IT];split
        ·rename_i hj;subst hj;exact hb
        ·rfl
       simp only [BG,EG,Bh,CT];exact e.symm
      have nothing:∀(a:Option Addr) (cc:aD),vx=.slice a n cc->M q=0->∃w' v,(Builtin.copy_ #[t,tx] ty' #[vx,vy]).run P w=.ok v w'/\RW G w0 Z0 Z β (H.set k ⟨c0,bt,.vec ty<|BG q l,X⟩) w'/\R β Z w' (.v<|ah J (M q:Y)) v/\okV (M<|H.set k ⟨c0,bt,.vec ty<|BG q l,X⟩) (.v<|ah J (M q:Y))/\M (H.set k ⟨c0,bt,.vec ty<|BG q l,X⟩)=M H/\(∀b,Z b->w'.heap[b]? =w.heap[b]?)/\DZ (Dd β H<|owns<|.os k ty.n 0 n) w w':=λa cc hv h0=>by
       have hnn:news=[]:=MH.1<|by rw [hnl,h0,mZ]
       rw [same h0];subst hnn;rw [h0] at hcells hlen;refine ⟨w,ah J 0,?_,hW,by rw [h0];simp only [R];rfl,an,rfl,λ_ _=>rfl,DZ.refl _ _⟩
       rw [hv];cases a<;>simp [Builtin.copy_,Cg hu,hlen,sizeOf,typeInfo,hi,him,hcells,storeCells,goInt]
      simp only [R] at hx;split at hx
      ·rename_i hcap
       obtain ⟨hn0,_,hv⟩:=hx;exact nothing ak 0 (by rw [hv,hn0]) A0
      ·rename_i c hcap
       obtain ⟨hoc,ad,hvx,had⟩:=hx
       by_cases hq0:M q=0
       ·exact nothing _ _ hvx hq0
       ·have hlive:live β k ⟨c0,bt,.vec ty l,X⟩:=by unfold live;rw [hcap];simp
        simp only [Bb,hcap] at hblk;obtain ⟨cur,g1,g2,g3,g4⟩:=hblk
        have hm:=N7 ty.n (show M q<=c by omega)
        have hst:=xh P (β k).b (β k).o bt news 0 cur w g1 (by rw [hnl];omega) hs.one
        simp only [Zr] at hst;generalize hnew:(cur.toList.take (β k).o++news++cur.toList.drop ((β k).o+M news)).toArray=new at hst
        have hnget:∀p,new[p]? =if p<(β k).o then cur[p]? else if p<(β k).o+M news then news[p-(β k).o]? else cur[p]? :=λp=>by
         rw [<-hnew]
         have hsz':(β k).o<=cur.size:=A0
         by_cases q1:p<(β k).o
         ·exact aNM
         ·rw [AE q1]
          simp only [Zn]
          by_cases q2:p<(β k).o+M news
          ·exact aNt
          ·rw [AE q2,Gc DC,FM]
           have:(β k).o+M news+(p-M (cur.toList.take (β k).o++news))=p:=by
            simp
            omega
           rw [this]
           simp
        have hnsz:new.size=cur.size:=by
         rw [<-hnew]
         simp
         omega
        have hne:∀q,q≠(β k).b->(w.setRow (β k).b new).heap[q]? =w.heap[q]? :=λq hq=>aDV w _ _ _ hq
        have hZw:∀b',Z b'->(w.setRow (β k).b new).heap[b']? =w.heap[b']? :=λb' hz=>hne b' λe=>hW.Cp k _ hb hlive rfl<|e▸hz
        have hb2:=setRow_heap w (β k).b cur new bt _ g1
        have had:=had A0
        rw [mZ,Zr] at had;refine ⟨w.setRow (β k).b new,ah J (M q:Y),?_,?_,Jp,an,AI,hZw,⟨rfl,rfl,rfl,VZ,λq _ hq=>hne q λe=>hq<|e▸TQ hb hlive rfl⟩⟩
        ·rw [hvx,had]
         simp [Builtin.copy_,Cg hu,hlen,sizeOf,typeInfo,hi,him,Nat.min_eq_left hql,hcells,hst,goInt]
        ·refine hW.set hb hlive rfl rfl ⟨hbo.1,an⟩ VZ ⟨rfl,rfl,rfl⟩ hne ?_
         simp only [Bb,hcap];refine ⟨new,hb2,A0,by simp only [BG,B8,FL];omega,λi' d' hd'=>?_⟩
         unfold BG at hd'
         by_cases hii:i'<M q
         ·rw [Hl hii] at hd'
          refine nb Z (w.setRow (β k).b new) (β k).b (β k).o (λ_ h=>h) hZw (λp hp=>?_) i' d' hd'
          rw [cell_of_block hb2,hnget,AE A0,AD A0,xt]
         ·rw [Gc A0,FM,Nat.add_sub_cancel' A0] at hd'
          refine RD.move (λ_ h=>h) hZw ty d' _ _ _ _ (λp hp=>?_)<|g4 i' d' hd'
          have:=N7 ty.n (show M q<=i' by omega)
          rw [cell_of_block hb2,cell_of_block g1,hnget,AE A0,AE A0]
     ·cases h
    ·cases h
   ·cases h
  ·cases h
 ·cases h
end Go.Sx
namespace Go.Sx
open Go.Proofs.YtepoohnehmfflaaGreatDoor
open Go Go.RowKit
variable {P : Program} {G : B5} {Γ : Specs} {β : Nat -> Loc} {Z : Nat -> Prop} {Z0 : Gz} {w w0 : World} {F : List LV} {H : List AB} {a : Act}
def aDY {n m:aD}{g:LV->LV}{l:aE}(h:AT n l) (hg:∀x,okV n x->okV m (g x)):AT m (l.map g):=by
 refine AT.CW λi x hx=>?_
 cases hl:l[i]? with
 |none=>simp [hl] at hx
 |some q=>simp [hl] at hx;subst hx;exact hg q<|AT.get _ _ h hl
def aE3 {k:aD}{x:LV}:∀ {l:aE}{i:aD},l[i]? =ai x->k∈owns x->k∈ownsL l
 | [],i,h,_=>A8
 |y::ys,0,h,hk=>by simp at h;subst h;simp only [ownsL,BZ];exact .inl hk
 |y::ys,i+1,h,hk=>by simp at h;simp only [ownsL,BZ];exact .inr<|aE3 (l:=ys) h hk
def TI {S:aD->Prop}{Z':aD->Prop}{g:LV->LV}{n:aD}{l:aE}{ys:aV}(h:RL β Z w l ys) (hk:AT n l) (hS:∀k,k∈ownsL l->S k) (hg:∀x y,x∈l->(∀k,k∈owns x->S k)->okV n x->R β Z w x y->R β Z' w (g x) y):RL β Z' w (l.map g) ys:=by
 refine RL.CW (by simp [RL.length h]) λi x hx=>?_
 cases hl:l[i]? with
 |none=>simp [hl] at hx
 |some q=>
  simp [hl] at hx;subst hx
  obtain ⟨y,h1,h2⟩:=RL.get _ _ h hl;exact ⟨y,h1,hg q y (OV hl) (λk hkk=>hS k<|aE3 hl hkk) (AT.get _ _ hk hl) h2⟩
def GX (H:aH) (d:aD) (x:LV):Prop:=(EX H d x).all λ_=>True
def Oo {α:Type}{g:α->T Unit}:∀ {l:List α},(GN g l).all (λ_=>True)->∀x,x∈l->(g x).all (λ_=>True)
 | [],_,x,hx=>Sw
 | y::ys,h,x,hx=>by
  simp only [GN] at h;rw [T.all_bind] at h;rcases B9.1 hx with rfl|hx
  ·exact T.BR (λ_ _=>trivial) h
  ·obtain ⟨_,h1,_⟩:=T.pick h
   exact Oo h1 x hx
def aqD (e:Ty) (d:e.D) (j:aD):okV 0 ((Br e d).getD j .junk):=fh (NZ 0 e d) j
def Qf (H:aH) (hH:∀(k:aD) (b:AB),H[k]? =ai b->okB (M H) b):∀(d:aD) (x:LV),okV (M H) x->okV 0 (C4 H d x)
 |0,x,_=>by cases x<;>trivial
 | d+1,.own k off,_=>by
  simp only [C4];split
  ·rename_i b hb
   split
   ·simp only [okV]
    exact λj=>Qf H hH d _<|fh (hH k b hb).1 _
   ·trivial
  ·trivial
 | d+1,.os k es off n,_=>by
  simp only [C4];split
  ·split
   ·trivial
   ·trivial
  ·trivial
 | d+1,.op k es i j,_=>by
  simp only [C4];split
  ·split
   ·simp only [okV];exact λq=>aqD _ _ _
   ·trivial
  ·trivial
 | d+1,.om k,_=>by
  simp only [C4];split
  ·rename_i hb
   exact aDY (hH k _ hb).2 λx hx=>Qf H hH d x hx
  ·trivial
 |d+1,.v x,_=>trivial
 |d+1,.bl x,_=>trivial
 |d+1,.ki _ _,_=>trivial
 |d+1,.agg l,h=>bQ
 |d+1,.AQ l,h=>bQ
 |d+1,.fn f l,h=>bQ
 |d+1,.fb f l,h=>bQ
 |d+1,.xq n f,h=>by simpa only [C4,okV] using h
 |d+1,.xl e l,h=>trivial
 |d+1,.mp kd ks vs,h=>bQ
 |d+1,.oc ..,_=>trivial
 |d+1,.CQ k,_=>trivial
 |d+1,.junk,_=>trivial
def ZP (Z:aD->Prop) (β:aD->aVs) (H:aH) (S:aD->Prop):aD->Prop:=λb=>Z b\/∃k bk,S k/\H[k]? =ai bk/\live β k bk/\b=(β k).b
def ru (hW:RW G w0 Z0 Z β H w) {k:aD}{b:AB}(hb:H[k]? =ai b) (hc:b.E0=U):live β k b/\(∃cs,w.heap[(β k).b]? =ai (.cells cs b.t (0,0))/\RL β Z w b.c cs.toList)/\AT (M H) b.c:=by
 obtain ⟨h1,h2⟩:=hW.blk k b hb;unfold Bb at h1;unfold AB.E0 at hc;split at hc
 ·rename_i hk'
  simp only [hk'] at h1;exact ⟨by unfold live;rw [hk'];trivial,h1,h2.1⟩
 ·cases hc
def Mc {S:aD->Prop}(hW:RW G w0 Z0 Z β H w) (clo:∀k b,S k->H[k]? =ai b->∀j,j∈b.owns->S j):∀(d:aD) (x:LV) (y:aW),GX H d x->(∀k,k∈owns x->S k)->okV (M H) x->R β Z w x y->R β (ZP Z β H S) w (C4 H d x) y
 |0,x,_,_,_,_,_=>by cases x<;>simp only [C4,R]
 | d+1,.own k off,y,hG,hS,hk,h=>by
  simp only [C4];split
  ·rename_i b hb
   split
   ·rename_i hcl
    obtain ⟨hl,⟨cs,hc,hrl⟩,hok⟩:=ru hW hb hcl
    have hSk:S k:=hS k Iy
    simp only [R,okV] at*;refine ⟨(β k).b,off,h,.inr ⟨k,b,hSk,hb,hl,rfl⟩,λj hj=>?_⟩
    have hl':off+j<M b.c:=A0
    have hq:=getD_lt hl'
    obtain ⟨z,h1,h2⟩:=RL.get _ _ hrl hq;refine ⟨z,aP0,?_⟩
    have hG':(GN (EX H d) b.c).all (λ_=>True):=aOq
    exact Mc hW clo d _ z (Oo hG' _<|OV hq) (λj hj=>clo k b hSk hb j (by unfold AB.owns;exact BZ.2<|.inl<|aE3 hq hj)) (fh hok _) h2
   ·exact Dx
  ·exact Dx
 | d +1,.os k es off n,y,hG,hS,hk,h=>by
  simp only [C4];split
  ·rename_i c0 bt e l pp hb
   split
   ·rename_i hes
    have hle:off+n<=M l:=by
     exact aNa
    have hSk:S k:=hS k Iy
    have hlen:M ((l.drop off).take n)=n:=DC
    simp only [R] at h|-;rw [hlen];split at h
    ·obtain ⟨rfl,_,hy⟩:=h
     exact ⟨ak,0,hy,A0,λh=>absurd h A0⟩
    ·rename_i c hc
     obtain ⟨h1,a,h2,h3⟩:=h;refine ⟨ai a,c-off,h2,A0,λhn=>?_⟩
     have h4:=(hW.blk k _ hb).1
     simp only [Bb,hc] at h4;obtain ⟨cs,g1,g2,g3,g4⟩:=h4;refine ⟨_,_,by rw [h3 A0],.inr ⟨k,_,hSk,hb,by simp [live,hc],rfl⟩,λi d hd=>?_⟩
     rw [LQ] at hd;split at hd
     ·rw [FM] at hd
      have:=g4 (off+i) d hd
      rw [<-hes];rw [GG,<-Hp] at this;exact RD.keep (λ_ h=> .inl h) (λ_ _=>rfl) e d _ _ rfl this
     ·cases hd
   ·exact Dx
  ·exact Dx
 | d +1,.op k es i j,y,hG,hS,hk,h=>by
  simp only [C4];split
  ·rename_i c0 bt e l pp hb
   split
   ·rename_i hes
    have hle:i<M l:=by
     exact aNa
    have hSk:S k:=hS k Iy
    simp only [R] at h|-;obtain ⟨hcap,hy⟩:=h
    have h4:=(hW.blk k _ hb).1
    simp only [Bb] at h4;split at h4
    ·exact yX
    ·rename_i c hc
     obtain ⟨cs,g1,g2,g3,g4⟩:=h4;refine ⟨_,_,hy,.inr ⟨k,_,hSk,hb,by simp [live,hc],rfl⟩,λq hq=>?_⟩
     have hjq:j+q<M (Br e<|l.getD i e.dflt):=zZ
     have hrd:=RD.keep (Z':=ZP Z β H S) (λ_ h=> .inl h) (λ_ _=>rfl) e _ _ _ rfl<|g4 i _<|getD_at hle
     obtain ⟨z,z1,z2⟩:=Wv (β:=β) e _ _ _ hrd (j+q) _<|getD_lt hjq
     grind
   ·exact Dx
  ·exact Dx
 | d+1,.om k,y,hG,hS,hk,h=>by
  simp only [C4];split
  ·rename_i c0 bt kd ks vs pp hb
   have hSk:S k:=hS k Iy
   obtain ⟨h4,h5⟩:=hW.blk k _ hb;simp only [Bb] at h4;obtain ⟨es,clock,g1,g2,g3⟩:=h4;simp only [R] at h|-;refine ⟨_,es,clock,h,.inr ⟨k,_,hSk,hb,an,rfl⟩,g1,g2,?_⟩
   have hG':(GN (EX H d) vs).all (λ_=>True):=aOq
   exact TI (S:=S) g3 h5.2 (λj hj=>clo k _ hSk hb j (by unfold AB.owns;exact BZ.2<|.inr hj)) λx y hm hx hk' hr=>Mc hW clo d x y (Oo hG' _ hm) hx hk' hr
  ·exact Dx
 |d+1,.v x,_,_,_,_,h=>h
 |d+1,.bl x,_,_,_,_,h=>h
 |d+1,.ki _ _,_,_,_,_,h=>h
 |d+1,.agg l,y,hG,hS,hk,h=>by
  exact mV
 |d+1,.AQ l,y,hG,hS,hk,h=>by
  exact mV
 |d+1,.fn f l,y,hG,hS,hk,h=>by
  exact mV
 |d+1,.fb f l,y,hG,hS,hk,h=>by
  exact mV
 |d+1,.mp kd ks vs,y,hG,hS,hk,h=>by
  have hG':(GN (EX H d) vs).all (λ_=>True):=aOa
  clear hG
  simp only [C4,R,okV,owns] at*;obtain ⟨r,es,clock,h1,h2,h3,h4,h5⟩:=h;exact ⟨r,es,clock,h1,.inl h2,h3,h4,TI h5 hk hS λx y hm hx hk' hr=>Mc hW clo d x y (Oo hG' _ hm) hx hk' hr⟩
 |d+1,.xq n f,y,_,_,hk,h=>by
  exact aMa
 |d+1,.xl e l,y,_,_,hk,h=>by
  exact aMa
 |d+1,.oc ..,_,_,_,_,_=>zS
 |d+1,.CQ k,_,_,_,_,_=>zS
 |d+1,.junk,_,_,_,_,_=>zS
def dj (ks:aI):∀(H:aH) (s k:aD),(Fs ks s H)[k]? =(H[k]?).map λb=>if ks.contains (s+k) then ⟨b.c,b.t,b.k,U⟩ else b
 | [],_,_=>by simp [Fs]
 |b::bs,s,0=>by simp [Fs]
 |b::bs,s,k+1=>by
  simp only [Fs,mN];rw [dj ks bs (s+1) k,show s+1+k=s+(k+1) by omega]
def KP (ks:aI):∀(H:aH) (s:aD),M (Fs ks s H)=M H
 | [],_=>rfl
 |b::bs,s=>by simp [Fs,KP ks bs]
def RW.pub (hW:RW G w0 Z0 Z β H w) (ks:aI):RW G w0 Z0 (ZP Z β H λk=>k∈ks) β (Fs ks 0 H) w:=by
 have old:∀k b,(Fs ks 0 H)[k]? =ai b->∃b0,H[k]? =ai b0/\live β k b=live β k b0/\b.k=b0.k/\b.t=b0.t/\b.c=b0.c/\((k∈ks/\b.p=U)\/(k∉ks/\b.p=b0.p)):=λk b h=>by
  rw [dj] at h;cases hb:H[k]? with
  |none=>simp [hb] at h
  | some b0=>
   simp only [hb,Jn,Ah,F5] at h;refine ⟨b0,rfl,?_⟩;split at h
   ·rename_i hc
    subst h;exact ⟨rfl,rfl,rfl,rfl,.inl ⟨A8,rfl⟩⟩
   ·rename_i hc
    subst h
    grind
 have hZ:∀b,Z b->ZP Z β H (λk=>k∈ks) b:=λ_ h=> .inl h
 refine ⟨hW.below,λb hz=>?_,λb hz=>?_,λk b hk hl hp hz=>?_,λk b hk hl hp=>?_,λk b hk hl=>?_,λi j bi bj hi hj li lj pi e=>?_,λk b hk=>?_,hW.Ci.mono hZ λ_ _=>rfl,λp hp=>⟨R.mono (n:=M H) (λ_ _=>rfl) hZ (λ_ _=>rfl) _ _ (hW.gh p hp).2 (hW.gh p hp).1,by rw [KP];exact (hW.gh p hp).2⟩,λD hD=>⟨.inl (hW.Cr D hD).1,(hW.Cr D hD).2⟩⟩
 ·exact aNj
 ·rcases hz with hz|⟨k,bk,_,h2,h3,rfl⟩
  ·exact hW.Ep b hz
  ·exact .inr<|hW.low k bk h2 h3
 ·obtain ⟨b0,h1,h2,h3,h4,h5,h6⟩:=old k b hk
  rcases h6 with ⟨_,h6⟩ |⟨h6,h7⟩
  ·grind
  ·rcases hz with hz|⟨j,bj,g1,g2,g3,g4⟩
   ·exact hW.Cp k b0 h1 (h2▸hl) (h7▸hp) hz
   ·exact h6<|(hW.inj k j b0 bj h1 g2 (h2▸hl) g3 (h7▸hp) g4)▸g1
 ·obtain ⟨b0,h1,h2,h3,h4,h5,h6⟩:=old k b hk
  rcases h6 with ⟨h6,_⟩ |⟨h6,h7⟩
  ·exact .inr ⟨k,b0,h6,h1,h2▸hl,rfl⟩
  ·exact .inl<|hW.GR k b0 h1 (h2▸hl)<|h7▸hp
 ·obtain ⟨b0,h1,h2,_⟩:=old k b hk
  exact hW.low k b0 h1<|h2▸hl
 ·obtain ⟨b0,h1,h2,h3,h4,h5,h6⟩:=old i bi hi
  obtain ⟨c0,g1,g2,_⟩:=old j bj hj;rcases h6 with ⟨_,h6⟩ |⟨h6,h7⟩
  ·grind
  ·exact hW.inj i j b0 c0 h1 g1 (h2▸li) (g2▸lj) (h7▸pi) e
 ·obtain ⟨b0,h1,h2,h3,h4,h5,h6⟩:=old k b hk
  obtain ⟨q1,q2⟩:=hW.blk k b0 h1
  have q3:=q1.keep (β':=β) (Z':=ZP Z β H λk=>k∈ks) (w':=w) (n:=M H) (λ_ _=>rfl) hZ (λ_ _=>rfl) rfl (λ_=>rfl) q2
  rw [KP];refine ⟨?_,?_⟩
  ·unfold Bb at q3|-
   rwa [h3,h4,h5]
  ·unfold okB at q2|-
   rwa [h3,h5]
def Sz {ks:aI}{l:aE}(h:Kd H ks l=U):(∀k,k∈ownsL l->k∈ks)/\(∀k b,k∈ks->H[k]? =ai b->∀j,j∈b.owns->j∈ks):=by
 unfold Kd at h;refine ⟨λk hk=>A8,λk b hk hb j hj=>?_⟩
 grind
end Go.Sx
namespace Go.Sx
open Go.Proofs.YtepoohnehmfflaaGreatDoor
open Go Go.RowKit
variable {P : Program} {G : B5} {Γ : Specs} {β : Nat -> Loc} {Z : Nat -> Prop} {Z0 : Gz} {w w0 : World} {F : List LV} {H : List AB} {a : Act}
def RO (β:aD->aVs) (Z:aD->Prop) (w:aP):aVN->aVy->Prop
 |none,ak=>True
 |some x,ai y=>R β Z w x y
 |_,_=>False
def aDp {lo hi:aVy}{len cap i j:aD}(hij:i<=j) (hlc:j<=cap) (hlo:match lo with|none=>i=0|some v=>∃k,v=ah k i) (hhi:match hi with|none=>j=len|some v=>∃k,v=ah k j) (w':aP):
  (Instr.sliceBounds U len cap lo hi ak).run P w'=.ok (i,j,cap) w':=by
 have bd:∀(k:aVv) (x y:aD) (c:BoundsCode),x<=y->(Instr.sliceBound (ah k x) y c).run P w'=.ok x w':=λk x y c hxy=>by
  exact aNe
 cases lo with
 |none=>
  subst hlo;cases hi with
  |none=>simp only at hhi;subst hhi;simp [Instr.sliceBounds]
  |some v=>simp only at hhi;obtain ⟨k,rfl⟩:=hhi;simp [Instr.sliceBounds,bd k j cap _ hlc]
 |some u=>
  obtain ⟨k',rfl⟩:=hlo;cases hi with
  |none=>simp only at hhi;subst hhi;simp [Instr.sliceBounds,bd k' i j _ hij]
  |some v=>simp only at hhi;obtain ⟨k,rfl⟩:=hhi;simp [Instr.sliceBounds,bd k j cap _ hlc,bd k' i j _ hij]
def ae0 {t:aT} {x lv:LV} {y:aW} {lo hi:aVN} {vlo vhi:aVy} {N:aD} (h:(uT P t x lo hi).all λz=>z=lv) (hr:R β Z w x y) (hlo:RO β Z w lo vlo) (hhi:RO β Z w hi vhi) (hk:okV N x):
  ∃v,(∀w',(Instr.sliceAt t y vlo vhi ak).run P w'=.ok v w')/\R β Z w lv v/\okV N lv:=by
 unfold uT at h;split at h
 ·rename_i e hu
  split at h
  ·rename_i m hsz
   have e2:=λw=>run_sizeOf hsz w
   have bnd:∀(o:aVN) (v:aVy) (d n:Y),RO β Z w o v->(match o with|none=>ai d|some y=>match pl y with|some (.int _ n)=>ai n|_=>ak)=ai n->(match v with|none=>n=d|some v=>∃k,v=ah k n):=λo v d n ho hn=>by
    cases o with
    |none=>
     cases v with
     |none=>simp only at hn|-;exact (EE hn).symm
     |some v=>cases ho
    | some x=>
     cases v with
     |none=>cases ho
     | some v=>
      simp only [RO] at ho;simp only at hn|-;split at hn
      ·rename_i k n' hp
       simp only [Ah] at hn;subst hn;exact ⟨k,Cm hp ho⟩
      ·cases hn
   have nn:∀(v:aVy) (d n:Y),0<=n->0<=d->(match v with|none=>n=d|some v=>∃k,v=ah k n)->(match v with|none=>n.toNat=d.toNat|some v=>∃k,v=ah k (n.toNat:Y)):=λv d n hn hd hv=>by
    cases v with
    |none=>simp only at hv|-;rw [hv]
    |some v=>simp only at hv|-;rw [CS hn];exact hv
   simp only at h;split at h
   ·rename_i ty l
    split at h
    ·rename_i i j hi1 hi2
     split at h
     ·rename_i htn
      simp only [T.all] at h;obtain ⟨⟨h0,h1,h2⟩,h3⟩:=h;subst h3;simp only [R] at hr;obtain ⟨ad,cap,g1,g2,g3⟩:=hr
      have b1:=nn vlo 0 i h0 A0<|bnd lo vlo 0 i hlo hi1
      have b2:=nn vhi _ j A0 A0<|bnd hi vhi _ j hhi hi2
      simp only [C0,Int.toNat_zero] at b1 b2;refine ⟨_,λw'=>by simp [Instr.sliceAt,Instr.slice,Cg hu,g1,aDp (P:=P) (len:=M l) (cap:=cap) (i:=i.toNat) (j:=j.toNat) A0 A0 b1 b2 w',e2];rfl,?_,an⟩
      have hlen:M ((l.drop i.toNat).take<|j.toNat-i.toNat)=j.toNat-i.toNat:=DC
      simp only [R];rw [hlen];refine ⟨_,_,rfl,A0,λhn=>?_⟩
      obtain ⟨b,off,g4,g5,g6⟩:=g3 A0;rw [AE A0,g4];simp only [Jn,addr_add];refine ⟨b,_,rfl,g5,λp d hd=>?_⟩
      rw [LQ] at hd;split at hd
      ·rw [FM] at hd
       have:=g6 (i.toNat+p) d hd
       rw [GG,<-Hp,htn] at this;rw [htn];exact this
      ·cases hd
     ·cases h
    ·cases h
   ·rename_i k es off n
    split at h
    ·rename_i i j hi1 hi2
     split at h
     ·rename_i hes
      simp only [T.all] at h;obtain ⟨⟨h0,h1,h2⟩,h3⟩:=h;subst h3
      have b1:=nn vlo 0 i h0 A0<|bnd lo vlo 0 i hlo hi1
      have b2:=nn vhi _ j A0 A0<|bnd hi vhi _ j hhi hi2
      simp only [R] at hr;split at hr
      ·rename_i hcap
       obtain ⟨rfl,rfl,rfl⟩:=hr
       have hi0:i.toNat=0:=A0
       have hj0:j.toNat=0:=A0
       refine ⟨.slice ak 0 0,λw'=>by simp [Instr.sliceAt,Instr.slice,Cg hu,aDp (P:=P) (len:=0) (cap:=0) (i:=i.toNat) (j:=j.toNat) A0 A0 b1 b2 w',e2,hi0,hj0],by simp [R,hcap,hi0,hj0],hk⟩
      ·rename_i c hcap
       obtain ⟨g1,ad,g2,g3⟩:=hr;subst g2;refine ⟨_,λw'=>by simp [Instr.sliceAt,Instr.slice,Cg hu,aDp (P:=P) (len:=n) (cap:=c-off) (i:=i.toNat) (j:=j.toNat) A0 A0 b1 b2 w',e2];rfl,?_,hk⟩
       simp only [R,hcap];refine ⟨A0,if c-off=i.toNat then ad else ad.add (i.toNat*(m+1)),?_,λhn=>?_⟩
       ·rw [show c-(off+i.toNat)=c-off-i.toNat by omega]
        split<;>rfl
       ·rw [AE A0,g3 A0,addr_add,hes,GG,Hp]
     ·cases h
    ·cases h
   ·cases h
  ·cases h
 ·cases h
def aeh {lo:aVy}{kh km:aVv}{len cap i j:aD}(hij:i<=j) (hlc:j<=cap) (hlo:match lo with|none=>i=0|some v=>∃k,v=ah k i) (w':aP):
  (Instr.sliceBounds U len cap lo (ai<|ah kh j)<|ai<|ah km j).run P w'=.ok (i,j,j) w':=by
 have bd:∀(k:aVv) (x y:aD) (c:BoundsCode),x<=y->(Instr.sliceBound (ah k x) y c).run P w'=.ok x w':=λk x y c hxy=>by
  exact aNe
 cases lo with
 |none=>simp only at hlo;subst hlo;simp [Instr.sliceBounds,bd km j cap _ hlc,bd kh j j _<|Ar j]
 |some u=>
  obtain ⟨k',rfl⟩:=hlo
  simp [Instr.sliceBounds,bd km j cap _ hlc,bd kh j j _<|Ar j,bd k' i j _ hij]
def adg {t:aT} {x lv hi mx:LV} {y vhi vmx:aW} {lo:aVN} {vlo:aVy} {N:aD} (h:(sd P t x lo hi mx).all λz=>z=lv) (hr:R β Z w x y) (hlo:RO β Z w lo vlo) (hhi:R β Z w hi vhi) (hmx:R β Z w mx vmx):
  ∃v,(∀w',(Instr.sliceAt t y vlo (ai vhi)<|ai vmx).run P w'=.ok v w')/\R β Z w lv v/\okV N lv:=by
 unfold sd at h;split at h
 ·rename_i e hu
  split at h
  ·rename_i m hsz
   have e2:=λw=>run_sizeOf hsz w
   split at h
   ·rename_i ty l
    split at h
    ·rename_i i kj j kq q hi1 hi2 hi3
     have v2:=Cm hi2 hhi
     have v3:=Cm hi3 hmx
     subst v2;subst v3;split at h
     ·rename_i htn
      obtain ⟨⟨h0,h1,h2,rfl⟩,h3⟩:=h;subst h3;obtain ⟨ad,cap,g1,g2,g3⟩:=hr
      have b1:(match (generalizing:=false) vlo with|none=>i.toNat=0|some v=>∃k,v=ah k (i.toNat:Y)):=by
       cases lo with
       |none=>
        cases vlo with
        |none=>simp only [Ah] at hi1;subst hi1;rfl
        |some v=>cases hlo
       | some u=>
        cases vlo with
        |none=>cases hlo
        | some v=>
         simp only at hi1|-;split at hi1
         ·rename_i k n' hp
          simp only [Ah] at hi1;subst hi1;exact ⟨k,by rw [CS h0];exact Cm hp hlo⟩
         ·cases hi1
      have hj:q=((q.toNat:aD):Y):=(CS A0).symm
      have hb:=λw'=>aeh (P:=P) (lo:=vlo) (kh:=kj) (km:=kq) (len:=M l) (cap:=cap) (i:=i.toNat) (j:=q.toNat) A0 A0 b1 w'
      rw [<-hj] at hb;refine ⟨_,λw'=>by simp [Instr.sliceAt,Instr.slice,Cg hu,g1,hb w',e2];rfl,?_,an⟩
      have hlen:M ((l.drop i.toNat).take<|q.toNat-i.toNat)=q.toNat-i.toNat:=DC
      simp only [R];rw [hlen];refine ⟨_,_,rfl,A0,λhn=>?_⟩
      obtain ⟨b,off,g4,g5,g6⟩:=g3 A0;rw [AE A0,g4];simp only [Jn,addr_add];refine ⟨b,_,rfl,g5,λp d hd=>?_⟩
      rw [LQ] at hd;split at hd
      ·rw [FM] at hd
       have:=g6 (i.toNat+p) d hd
       grind
      ·cases hd
     ·cases h
    ·cases h
   ·cases h
  ·cases h
 ·cases h
def aEu {kd:aVv}{n:Y}{z:aW}{lv:LV}:∀(ks:aC) (vs:aE) (es:aVI) (s:aD),(dq kd n z ks vs).all (λr=>r=lv)->M ks=M vs->es.map (·.key)=ks.map (.int kd)->RL β Z w vs (es.map (·.val))->
  (∃s' v,aB (.int kd) (ah kd n) es s=ai (ai (s',v))/\R β Z w lv v/\∃i:aD,vs[i]? =ai lv)\/(aB (.int kd) (ah kd n) es s=ai ak/\lv=.v z)
 | [],[],es,s,h,_,hk,hr=>by
  exact aNT
 | [],_::_,_,_,_,hl,_,_=>A8
 |_::_,[],_,_,_,hl,_,_=>A8
 | k::ks,v::vs,es,s,h,hl,hk,hr=>by
  cases es with
  |nil=>simp at hk
  | cons e es=>
   simp only [ER,Ht] at hk;obtain ⟨y,zs,h1,h2,h3⟩:=hr;obtain ⟨rfl,rfl⟩:=h1;cases hb:(n==k) with
   |true=>
    have:=h.1 hb
    subst this;exact .inl ⟨s,e.val,VQ,h2,0,rfl⟩
   |false=>
    have hf:aB (.int kd) (ah kd n) (e::es) s=aB (.int kd) (ah kd n) es (s+1):=VQ
    rw [hf];rcases aEu ks vs es (s+1) (h.2 hb) A8 hk.2 h3 with ⟨s',v',q1,q2,i,q3⟩ |q
    ·exact .inl ⟨s',v',q1,q2,i+1,A8⟩
    ·exact .inr q
def pJ {kt:aT}{kd:aVv}(hu:P.underlying kt=ai (.int kd)) (e:aN) (v:aW) (w':aP):(Instr.checkKey e 10000 kt v).run P w'=.ok () w':=by
 unfold Instr.checkKey
 simp [Cg hu]
def aEI {t:aT}{x q lv:LV}{y z:aW}(hW:RW G w0 Z0 Z β H w) (h:(U1 P H t x q).all λr=>r=lv) (hr:R β Z w x y) (hq:R β Z w q z) (hk:okV (M H) x):
  ∃v,(∀w',(∀b,(Z b\/∃k,x=.om k/\b=(β k).b)->w'.heap[b]? =w.heap[b]?)->(Instr.lookup t y z X).run P w'=.ok v w')/\R β Z w lv v/\okV (M H) lv:=by
 unfold U1 at h;split at h
 ·rename_i kt et hu
  split at h
  ·rename_i kd z0 kd' n hku hz hp
   split at h
   ·rename_i hkd
    obtain ⟨rfl,hz1⟩:=hkd
    have hzq:=Cm hp hq
    have main:∀(r:aD) (es:Array MapEntry) (clock:aD) (ks:aC) (vs:aE),y=.map (ai r)->w.heap[r]? =ai (.map es clock)->es.toList.map (·.key)=ks.map (.int kd')->RL β Z w vs (es.toList.map (·.val))->M ks=M vs->AT (M H) vs->(dq kd' n z0 ks vs).all (λr=>r=lv)->(Z r\/∃k,x=.om k/\r=(β k).b)->
      ∃v,(∀w',(∀b,(Z b\/∃k,x=.om k/\b=(β k).b)->w'.heap[b]? =w.heap[b]?)->(Instr.lookup t y z X).run P w'=.ok v w')/\R β Z w lv v/\okV (M H) lv:=λr es clock ks vs hy hh hkk hvv hl hok hch hzr=>by
     rcases aEu ks vs es.toList 0 hch hl hkk hvv with ⟨s',v',q1,q2,i,q3⟩ |⟨q1,q2⟩
     ·refine ⟨v',λw' hw'=>?_,q2,AT.get i _ hok q3⟩
      exact aMI
     ·refine ⟨z0,λw' hw'=>?_,by rw [q2];simp [R],by rw [q2];trivial⟩
      exact aMC
    split at h
    ·exact aNK
    ·rename_i k
     split at h
     ·rename_i hb
      split at h
      ·rename_i hkk
       obtain ⟨rfl,hl⟩:=hkk;obtain ⟨b1,b2⟩:=hW.blk k _ hb;obtain ⟨es,clock,g1,g2,g3⟩:=b1;exact aNn
      ·cases h
     ·cases h
    ·cases h
   ·cases h
  ·cases h
 ·cases h
def aEL {kd:aVv}{n:Y}{z:aW}{lv:LV}:∀(ks:aC) (vs:aE) (es:aVI) (s:aD),(dW kd n z ks vs).all (λr=>r=lv)->M ks=M vs->es.map (·.key)=ks.map (.int kd)->RL β Z w vs (es.map (·.val))->
  (∃s' v u,aB (.int kd) (ah kd n) es s=ai (ai (s',v))/\R β Z w u v/\lv=.AQ [norm u,.bl U]/\∃i:aD,vs[i]? =ai u)\/(aB (.int kd) (ah kd n) es s=ai ak/\lv=.AQ [.v z,.bl X])
 | [],[],es,s,h,_,hk,hr=>by
  exact aNT
 | [],_::_,_,_,_,hl,_,_=>A8
 |_::_,[],_,_,_,hl,_,_=>A8
 | k::ks,v::vs,es,s,h,hl,hk,hr=>by
  cases es with
  |nil=>simp at hk
  | cons e es=>
   simp only [ER,Ht] at hk;obtain ⟨y,zs,h1,h2,h3⟩:=hr;obtain ⟨rfl,rfl⟩:=h1;cases hb:(n==k) with
   |true=>
    have:=h.1 hb
    subst this;exact .inl ⟨s,e.val,v,VQ,h2,rfl,0,rfl⟩
   |false=>
    have hf:aB (.int kd) (ah kd n) (e::es) s=aB (.int kd) (ah kd n) es (s+1):=VQ
    rw [hf];rcases aEL ks vs es (s+1) (h.2 hb) A8 hk.2 h3 with ⟨s',v',u',q1,q2,q4,i,q3⟩ |q
    ·exact .inl ⟨s',v',u',q1,q2,q4,i+1,A8⟩
    ·exact .inr q
def adv {t:aT}{x q lv:LV}{y z:aW}(hW:RW G w0 Z0 Z β H w) (h:(XT P H t x q).all λr=>r=lv) (hr:R β Z w x y) (hq:R β Z w q z) (hk:okV (M H) x):
  ∃v,(∀w',(∀b,(Z b\/∃k,x=.om k/\b=(β k).b)->w'.heap[b]? =w.heap[b]?)->(Instr.lookup t y z U).run P w'=.ok v w')/\R β Z w lv v/\okV (M H) lv:=by
 unfold XT at h;split at h
 ·rename_i kt et hu
  split at h
  ·rename_i kd z0 kd' n hku hz hp
   split at h
   ·rename_i hkd
    obtain ⟨rfl,hz1⟩:=hkd
    have hzq:=Cm hp hq
    have main:∀(r:aD) (es:Array MapEntry) (clock:aD) (ks:aC) (vs:aE),y=.map (ai r)->w.heap[r]? =ai (.map es clock)->es.toList.map (·.key)=ks.map (.int kd')->RL β Z w vs (es.toList.map (·.val))->M ks=M vs->AT (M H) vs->(dW kd' n z0 ks vs).all (λr=>r=lv)->(Z r\/∃k,x=.om k/\r=(β k).b)->
      ∃v,(∀w',(∀b,(Z b\/∃k,x=.om k/\b=(β k).b)->w'.heap[b]? =w.heap[b]?)->(Instr.lookup t y z U).run P w'=.ok v w')/\R β Z w lv v/\okV (M H) lv:=λr es clock ks vs hy hh hkk hvv hl hok hch hzr=>by
     rcases aEL ks vs es.toList 0 hch hl hkk hvv with ⟨s',v',u,q1,q2,q4,i,q3⟩ |⟨q1,q2⟩
     ·refine ⟨.tuple #[v',.bool U],λw' hw'=>?_,by rw [q4];exact ⟨_,rfl,v',[.bool U],rfl,P4 q2,_,[],rfl,rfl,rfl⟩,by rw [q4];exact ⟨TH<|AT.get i _ hok q3,an,an⟩⟩
      exact aMI
     ·refine ⟨.tuple #[z0,.bool X],λw' hw'=>?_,by rw [q2];exact ⟨_,rfl,z0,[.bool X],rfl,rfl,_,[],rfl,rfl,rfl⟩,by rw [q2];exact ⟨an,an,an⟩⟩
      exact aMC
    split at h
    ·exact aNK
    ·rename_i k
     split at h
     ·rename_i hb
      split at h
      ·rename_i hkk
       obtain ⟨rfl,hl⟩:=hkk;obtain ⟨b1,b2⟩:=hW.blk k _ hb;simp only [Bb] at b1;obtain ⟨es,clock,g1,g2,g3⟩:=b1;simp only [R] at hr;exact aNn
      ·cases h
     ·cases h
    ·cases h
   ·cases h
  ·cases h
 ·cases h
def aFG {kd:aVv}{n:Y}:∀(ks:aC) (es:aVI) (s:aD),ks.contains n=X->es.map (·.key)=ks.map (.int kd)->aB (.int kd) (ah kd n) es s=ai ak
 | [],es,s,_,hk=>by
  have:es=[]:=GI
  subst this;rfl
 | k::ks,es,s,hc,hk=>by
  cases es with
  |nil=>simp at hk
  |cons e es=>
   simp only [ER,Ht] at hk;simp only [List.contains_cons,HF] at hc
   have hf:aB (.int kd) (ah kd n) (e::es) s=aB (.int kd) (ah kd n) es (s+1):=by simp [aB,Instr.sameNow,hk.1,hc.1]
   rw [hf];exact aFG ks es (s+1) hc.2 hk.2
def aF1 {t:aT}{x q r:LV}{y z u:aW}{H':aH}(hW:RW G w0 Z0 Z β H w) (h:(Uw P H t x q r).all λr=>r=H') (hr:R β Z w x y) (hq:R β Z w q z) (hu:R β Z w r u) (hrk:okV (M H) r):
  ∃w',(Instr.mapUpdate t y z u).run P w=.ok () w'/\RW G w0 Z0 Z β H' w'/\M H'=M H/\(∀b,Z b->w'.heap[b]? =w.heap[b]?)/\DZ (Dd β H<|owns x) w w':=by
 unfold Uw at h;split at h
 ·rename_i kt et hut
  split at h
  ·rename_i kd kd' n k hku hp
   split at h
   ·rename_i c0 bt kd2 ks vs hb
    split at h
    ·rename_i hle
     obtain ⟨rfl,rfl,hl,hnc⟩:=hle;subst h;obtain ⟨b1,b2⟩:=hW.blk k _ hb;obtain ⟨es,clock,g1,g2,g3⟩:=b1;simp only [R] at hr
     have hzq:=Cm hp hq
     have hlt:=(Ho.1 g1).1
     have hget:(getObj (β k).b).run P w=.ok (.map es clock) w:=aPZ
     let w':aP:={w with heap:=w.heap.setIfInBounds (β k).b<|.map (es.push {key:=z,val:=u,born:=clock})<|clock+1}
     have hset:(setObj (β k).b<|.map (es.push {key:=z,val:=u,born:=clock})<|clock+1).run P w=.ok () w':=aOb
     have hfn:=aFG ks es.toList 0 hnc g2
     have hlive:=trivial
     have hne:∀j,j≠(β k).b->w'.heap[j]? =w.heap[j]? :=λj hj=>A8
     have hZw:∀b',Z b'->w'.heap[b']? =w.heap[b']? :=λb' hz=>hne b' λe=>hW.Cp k _ hb hlive rfl<|e▸hz
     refine ⟨w',?_,?_,AI,hZw,⟨rfl,rfl,rfl,o7,λj _ hj=>hne j λe=>hj<|e▸TQ hb hlive rfl⟩⟩
     ·rw [hzq] at hset
      simp [Instr.mapUpdate,Cg hut,hr,hget,pJ hku,Instr.findKey,Cg hku,hzq,hfn,hset]
     ·refine hW.set hb hlive rfl rfl ⟨an,AT.append b2.2 ⟨hrk,an⟩⟩ o7 ⟨rfl,rfl,rfl⟩ hne ?_
      refine ⟨es.push {key:=z,val:=u,born:=clock},clock+1,by simp [w',hlt],by simp [g2,hzq],?_⟩
      have h1:RL β Z w (vs++[r]) (es.toList.map (·.val)++[u]):=g3.app (by simp only [RL];exact ⟨u,[],rfl,hu,rfl⟩)
      have hok1:AT (M H) [r]:=⟨hrk,an⟩
      have h2:=RL.mono (n:=M H) (β':=β) (Z':=Z) (λ_ _=>rfl) (λ_ h=>h) hZw _ _ (AT.append b2.2 hok1) h1
      grind
    ·cases h
   ·cases h
  ·cases h
 ·cases h
def aT0:∀ {e:Ty}{v:aW}{d:e.D},Mz e v=ai d->v=wo e d
 | .int k,v,d,h=>by
  simp only [Mz] at h;split at h
  ·split at h
   ·rename_i hk;simp only [Ah] at h;subst h hk;rfl
   ·cases h
  ·cases h
 | .str,v,d,h=>by
  simp only [Mz] at h;split at h
  ·simp only [Ah] at h;subst h;rfl
  ·cases h
 | .bool,_,_,h=>zL
 | .sl _,_,_,h=>zL
 | .pair _ _,_,_,h=>zL
def oR:Ty->TypeDesc
 | .int k=> .int k
 |_=> .string
def aHG {k:aVv}{d:Y}:∀(l:aC) (es:aVI) (s:aD),es.map (·.key)=l.map (.int k)->(∀x,x∈es->x.val=.bool U)->
  (l.contains d=U/\∃s',aB (.int k) (ah k d) es s=ai (ai (s',.bool U)))\/(l.contains d=X/\aB (.int k) (ah k d) es s=ai ak)
 | [],es,s,hk,_=>by
  exact aNZ
 | x::l,es,s,hk,hv=>by
  cases es with
  |nil=>simp at hk
  | cons e es=>
   simp only [ER,Ht] at hk;cases hb:(d==x) with
   |true=>
    refine .inl ⟨A8,s,?_⟩
    have hv1:=hv e AI
    simp [aB,Instr.sameNow,hk.1,hb,hv1]
   |false=>
    have hf:aB (.int k) (ah k d) (e::es) s=aB (.int k) (ah k d) es (s+1):=VQ
    rw [hf]
    have hc:(x::l).contains d=l.contains d:=A8
    rw [hc];exact aHG l es (s+1) hk.2 λy hy=>hv y A8
def aHF {d:bA}:∀(l:aF) (es:aVI) (s:aD),es.map (·.key)=l.map .string->(∀x,x∈es->x.val=.bool U)->
  (l.contains d=U/\∃s',aB .string (.string d) es s=ai (ai (s',.bool U)))\/(l.contains d=X/\aB .string (.string d) es s=ai ak)
 | [],es,s,hk,_=>by
  exact aNZ
 | x::l,es,s,hk,hv=>by
  cases es with
  |nil=>simp at hk
  | cons e es=>
   simp only [ER,Ht] at hk;cases hb:(d==x) with
   |true=>
    refine .inl ⟨A8,s,?_⟩
    have hv1:=hv e AI
    simp [aB,Instr.sameNow,hk.1,hb,hv1]
   |false=>
    have hf:aB .string (.string d) (e::es) s=aB .string (.string d) es (s+1):=VQ
    rw [hf]
    have hc:(x::l).contains d=l.contains d:=A8
    rw [hc];exact aHF l es (s+1) hk.2 λy hy=>hv y A8
def aK7 {e:Ty}{v:aW}{d:e.D}(hd:Mz e v=ai d) (l:List e.D) (es:aVI) (s:aD) (hk:es.map (·.key)=List.map (wo e) l) (hv:∀x,x∈es->x.val=.bool U):
  (oV e d l=U/\∃s',aB (oR e) v es s=ai (ai (s',.bool U)))\/(oV e d l=X/\aB (oR e) v es s=ai ak):=by
 have hvv:=aT0 hd
 subst hvv;cases e with
 |int k=>exact aHG l es s hk hv
 |str=>exact aHF l es s hk hv
 |bool=>simp [Mz] at hd
 |sl _=>simp [Mz] at hd
 |pair _ _=>simp [Mz] at hd
def aFZ {t:aT}{e:Ty}(h:cN P t=ai e):∃kt et,P.underlying t=ai (.map kt et)/\P.underlying et=ai .bool/\P.underlying kt=ai (oR e)/\(∀(b:aN) (v:aW) (w':aP),(Instr.checkKey b 10000 kt v).run P w'=.ok () w')/\Ib P et=ai (.bool X):=by
 unfold cN at h;split at h
 ·rename_i kt et hu
  split at h
  ·rename_i k h1 h2 h3
   simp only [Ah] at h;subst h;exact ⟨kt,et,hu,h1,h2,λb v w'=>pJ h2 b v w',h3⟩
  ·rename_i h1 h2 h3
   simp only [Ah] at h;subst h;exact ⟨kt,et,hu,h1,h2,λb v w'=>by unfold Instr.checkKey;simp [Cg h2],h3⟩
  ·cases h
 ·cases h
def aEJ {t:aT}{x q lv:LV}{y z:aW}(hW:RW G w0 Z0 Z β H w) (h:(Xg P H t x q).all λr=>r=lv) (hr:R β Z w x y) (hq:R β Z w q z) (hk:okV (M H) x):
  ∃v,(∀w',(∀b,(Z b\/∃k,x=.om k/\b=(β k).b)->w'.heap[b]? =w.heap[b]?)->(Instr.lookup t y z X).run P w'=.ok v w')/\R β Z w lv v/\okV (M H) lv:=by
 unfold Xg at h;split at h
 ·rename_i k
  split at h
  ·rename_i c0 bt e l pp hb
   unfold ac8 at h;split at h
   ·rename_i e' v hs hp
    split at h
    ·rename_i he d _ hd
     obtain ⟨he⟩:=he;subst he;subst h;obtain ⟨kt,et,u1,u2,u3,u4,u5⟩:=aFZ hs;obtain ⟨b1,b2⟩:=hW.blk k _ hb;obtain ⟨es,clock,g1,g2,g3⟩:=b1;simp only [R] at hr
     have hzq:=Cm hp hq
     rcases aK7 hd l es.toList 0 g2 g3 with ⟨m1,s',m2⟩ |⟨m1,m2⟩
     ·refine ⟨.bool U,λw' hw'=>?_,by simp only [R,m1],an⟩
      have hh':w'.heap[(β k).b]? =ai (.map es clock):=A8
      have hget:(getObj (β k).b).run P w'=.ok (.map es clock) w':=nW
      simp [Instr.lookup,Cg u1,hr,hget,u4,Instr.findKey,Cg u3,hzq,m2]
     ·refine ⟨.bool X,λw' hw'=>?_,by simp only [R,m1],an⟩
      have hh':w'.heap[(β k).b]? =ai (.map es clock):=A8
      have hget:(getObj (β k).b).run P w'=.ok (.map es clock) w':=nW
      have hz0:=λw=>pN u5 w
      simp [Instr.lookup,Cg u1,hr,hget,u4,Instr.findKey,Cg u3,hzq,m2,hz0]
    ·cases h
   ·cases h
  ·exact aEI hW h hr hq hk
 ·exact aEI hW h hr hq hk
def aeC {t:aT}{x q r:LV}{y z u:aW}{H':aH}(hW:RW G w0 Z0 Z β H w) (h:(insL P H t x q r).all λr=>r=H') (hr:R β Z w x y) (hq:R β Z w q z) (hu:R β Z w r u) (hrk:okV (M H) r):
  ∃w',(Instr.mapUpdate t y z u).run P w=.ok () w'/\RW G w0 Z0 Z β H' w'/\M H'=M H/\(∀b,Z b->w'.heap[b]? =w.heap[b]?)/\DZ (Dd β H<|owns x) w w':=by
 unfold insL at h;split at h
 ·rename_i k
  split at h
  ·rename_i c0 bt e l hb
   split at h
   ·rename_i e' v hs hp
    split at h
    ·rename_i he d _ hd
     obtain ⟨he⟩:=he;subst he;obtain ⟨hnm,h⟩:=h;subst h;obtain ⟨kt,et,u1,u2,u3,u4,u5⟩:=aFZ hs;obtain ⟨b1,b2⟩:=hW.blk k _ hb;obtain ⟨es,clock,g1,g2,g3⟩:=b1;simp only [R] at hr hu
     have hzq:=Cm hp hq
     have hlt:=(Ho.1 g1).1
     have hget:(getObj (β k).b).run P w=.ok (.map es clock) w:=aPZ
     let w':aP:={w with heap:=w.heap.setIfInBounds (β k).b<|.map (es.push {key:=z,val:=u,born:=clock})<|clock+1}
     have hset:(setObj (β k).b<|.map (es.push {key:=z,val:=u,born:=clock})<|clock+1).run P w=.ok () w':=aOb
     have hfn:aB (oR e') v es.toList 0=ai none:=by
      rcases aK7 hd l es.toList 0 g2 g3 with ⟨m1,_⟩ |⟨_,m2⟩
      ·grind
      ·exact m2
     have hlive:=trivial
     have hne:∀j,j≠(β k).b->w'.heap[j]? =w.heap[j]? :=λj hj=>A8
     have hZw:∀b',Z b'->w'.heap[b']? =w.heap[b']? :=λb' hz=>hne b' λe=>hW.Cp k _ hb hlive rfl<|e▸hz
     refine ⟨w',?_,?_,AI,hZw,⟨rfl,rfl,rfl,o7,λj _ hj=>hne j λe=>hj<|e▸TQ hb hlive rfl⟩⟩
     ·rw [hzq] at hset
      simp [Instr.mapUpdate,Cg u1,hr,hget,u4,Instr.findKey,Cg u3,hzq,hfn,hset]
     ·refine hW.set hb hlive rfl rfl ⟨an,an⟩ o7 ⟨rfl,rfl,rfl⟩ hne ?_
      refine ⟨es.push {key:=z,val:=u,born:=clock},clock+1,by simp [w',hlt],?_,λx hx=>?_⟩
      ·rw [Array.toList_push,KK,KK,g2]
       simp [hzq,aT0 hd]
      ·rw [Array.toList_push,BZ] at hx
       rcases hx with hx|hx
       ·exact g3 x hx
       ·grind
    ·cases h
   ·cases h
  ·exact aF1 hW h hr hq hu hrk
 ·exact aF1 hW h hr hq hu hrk
def RW.agI {kd:aVv}{t:aT}(hW:RW G w0 Z0 Z β H w):
  ∃β',(∀k,k<M H->β' k=β k)/\(β'<|M H).b=w.heap.size/\RW G w0 Z0 Z β' (H++[⟨[],t,.mp kd [] [],X⟩]) (w.alloc<|.map #[] 0)/\Below w.heap.size w (w.alloc<|.map #[] 0):=by
 have hbw:Below w.heap.size w (w.alloc<|.map #[] 0):=(Below.refl _ _).alloc (Ar _) _
 obtain ⟨β',h1,h2,h3⟩:=(hW.same hbw).Ks (ℓ:=⟨w.heap.size,0,ak⟩) (nb:=⟨[],t,.mp kd [] [],X⟩) rfl ⟨an,an⟩ (λ_=>⟨λhz=>bM,hW.below.size,λj bj hj lj e=>Su⟩) (λβ' h1 h2=>by
  simp only [Bb,h2];refine ⟨#[],0,?_,AI,cJ⟩
  show (w.heap.push _)[w.heap.size]? =_
  simp)
 grind
def RW.ah7 {e:Ty}{t:aT}(hW:RW G w0 Z0 Z β H w):
  ∃β',(∀k,k<M H->β' k=β k)/\(β'<|M H).b=w.heap.size/\RW G w0 Z0 Z β' (H++[⟨[],t,.st e [],X⟩]) (w.alloc<|.map #[] 0)/\Below w.heap.size w (w.alloc<|.map #[] 0):=by
 have hbw:Below w.heap.size w (w.alloc<|.map #[] 0):=(Below.refl _ _).alloc (Ar _) _
 obtain ⟨β',h1,h2,h3⟩:=(hW.same hbw).Ks (ℓ:=⟨w.heap.size,0,ak⟩) (nb:=⟨[],t,.st e [],X⟩) rfl ⟨an,an⟩ (λ_=>⟨λhz=>bM,hW.below.size,λj bj hj lj e=>Su⟩) (λβ' h1 h2=>by
  simp only [Bb,h2];refine ⟨#[],0,?_,AI,AI⟩
  show (w.heap.push _)[w.heap.size]? =_
  simp)
 grind
end Go.Sx
namespace Go.Sx
open Go Go.RowKit Go.Proofs.YtepoohnehmfflaaGreatDoor
variable {P : Program} {G : B5} {Γ : Specs} {β : Nat -> Loc} {Z : Nat -> Prop} {Z0 : Gz} {w w0 : World} {F : List LV} {H : List AB} {a : Act} {ds : List Deferred}
abbrev β0:aD->aVs:=λ_=>⟨0,0,ak⟩
def Valid (P:aQ) (G:B5) (f:bh) (S:aE->T LV):Prop:=
 ∀(args:aE) (vals:aY) (w:aP) (Z:aD->Prop) (lv:LV),(∀b,Z b->b<w.heap.size)->QC G Z w->AT 0 args->RL β0 Z w args vals.toList->(S args).all (λx=>x=lv)->
  Calls P f vals w λe w'=>Below w.heap.size w w'/\∃v,e=.returned v/\okV 0 lv/\R β0 (λb=>Z b\/(w.heap.size<=b/\b<w'.heap.size)) w' lv v
mutual
def noOwn_ok {n:aD}:∀(x:LV),noOwn x=U->okV n x->okV 0 x
 | .v _,_,_=>trivial
 | .bl _,_,_=>trivial
 | .ki _ _,_,_=>trivial
 | .own _ _,h,_=>o5
 | .agg l,h,hk=>bT
 | .AQ l,h,hk=>bT
 | .fn _ l,h,hk=>bT
 | .fb _ l,h,hk=>bT
 | .xq _ _,_,hk=>aPW
 | .os ..,h,_=>o5
 | .op ..,h,_=>o5
 | .om _,h,_=>o5
 | .mp _ _ l,h,hk=>bT
 | .xl _ _,_,_=>trivial
 | .junk,_,_=>trivial
def noOwnL_ok {n:aD}:∀(x:aE),noOwnL x=U->AT n x->AT 0 x
 | [],_,_=>trivial
 |x::xs,h,hk=>by
  simp only [AT,noOwnL,AV] at*;exact ⟨noOwn_ok x h.1 hk.1,noOwnL_ok xs h.2 hk.2⟩
end
def aET {t:T LV}{lv:LV}(h:(Qw t).all λx=>x=lv):t.all (λx=>x=lv)/\SC lv=true:=by
 induction t with
 |ok x=>
  simp only [Qw] at h;split at h
  ·rename_i hp;simp only [T.all] at h|-;subst h;exact ⟨rfl,hp⟩
  ·cases h
 |br b t e iht ihe=>
  cases b with
  |true=>obtain ⟨h1,h2⟩:=iht<|h.1 rfl;exact ⟨⟨λ_=>h1,λhb=>LW⟩,h2⟩
  |false=>obtain ⟨h1,h2⟩:=ihe<|h.2 rfl;exact ⟨⟨λhb=>LW,λ_=>h1⟩,h2⟩
 |req p t ih=>
  obtain ⟨h1,h2⟩:=ih h.2;exact ⟨⟨h.1,h1⟩,h2⟩
 |no=>cases h
def P0 (G:B5) (F:aE) (β:aD->aVs) (H:aH) (o:aU):aI:=Dd β H<|Ec G F o
def Post (ds:aVr) (G:B5) (w0:aP) (Z0:Gz) (F:aE) (a:bf) (β:aD->aVs) (H:aH) (w:aP) (o:aU) (lv:LV) (H':aH) (v:aW) (w':aP):Prop:=
 ∃Z' β',RW G w0 Z0 Z' β' H' w'/\RF ds β' Z' w' (M H') F a/\R β' Z' w' lv v/\okV (M H') lv/\
  (M H)<=M H'/\(∀k,k<M H->β' k=β k)/\(∀k,M H<=k->k<M H'->w.heap.size<=(β' k).b\/(β' k).b∈P0 G F β H o)/\DZ (P0 G F β H o) w w'
def NJ {tr:aI}{w w':aP}(h:Below w.heap.size w w'):DZ tr w w':=⟨h.os,h.tape,h.output,h.size,λk hk _=>h.block k hk⟩
def aER {o:aU}{lv:LV}{v:aW}(hW:RW G w0 Z0 Z β H w) (hF:RF ds β Z w (M H) F a) (hrun:(execOp a.eval o).run P w=.ok (.value v) w) (hr:R β Z w lv v) (hk:okV (M H) lv):
  Dj P (Post ds G w0 Z0 F a β H w o lv H) ((execOp a.eval o).run P w):=by
 rw [hrun];exact ⟨Z,β,hW,hF,hr,hk,Ar _,λ_ _=>rfl,λk h1 h2=>A0,DZ.refl _ _⟩
def aDh {α:Type}{s:Sem α}{x:α}(h:JA P s=ai x):∀w',s.run P w'=.ok x w':=λw'=>dO w' h
mutual
def eqV_run:∀(d:aD) (t:aT) (x y:aW) (b:aN),eqV P d t x y=ai b->∀(e:aD) (w:aP),(Go.Op.equalIn (d+e) t x y).run P w=.ok b w
 |0,_,_,_,_,h=>by simp [eqV] at h
 | d+1,t,x,y,b,h=>λe w=>by
  rw [Nat.add_right_comm];simp only [eqV] at h;split at h
  ·rename_i k0 k a k' c hu
   split at h
   ·rename_i hk
    subst hk;simp only [Ah] at h;subst h;exact run_equalIn_int w _ t k k0 a c hu
   ·cases h
  ·rename_i a c hu
   simp only [Ah] at h;subst h;exact run_equalIn_bool w _ t a c hu
  ·rename_i a c hu
   simp only [Ah] at h;subst h;rw [run_equalIn_string w _ t a c hu,beq_toListBytes]
  ·rename_i fs xs ys hu
   split at h
   ·cases h
   ·rename_i hs
    have hf:P.fieldsOf t=fs:=by simp [Program.fieldsOf,hu]
    rw [run_equalIn_struct w _ t xs ys (by rw [hf];exact hu) (by simpa using hs),hf]
    simp only [Option.map_eq_some_iff] at h;obtain ⟨l,h1,h2⟩:=h;rw [<-h2];exact eqFs_run d xs ys fs.toList l h1 e w
  ·cases h
def eqFs_run:∀(d:aD) (xs ys:aY) (fs:aVT) (l:bp),eqFs P d xs ys fs=ai l->∀(e:aD) (w:aP),(Go.Op.eqFields (d+e) xs ys fs).run P w=.ok (Vi l) w
 |d,xs,ys,[],l,h=>λe w=>by
  have:l=[]:=by cases d<;>simpa [eqFs] using h.symm
  subst this
  simp [Go.Op.eqFields,Vi]
 |0,xs,ys,f::fs,l,h=>by simp [eqFs] at h
 | d +1,xs,ys,f::fs,l,h=>λe w=>by
  simp only [eqFs] at h;split at h
  ·cases h
  ·rename_i hn
   split at h
   ·rename_i x y hx hy
    split at h
    ·rename_i p ps hp hps
     simp only [Ah] at h;subst h
     have e1:=aDh hx w
     have e2:=aDh hy w
     have e3:=eqV_run d f.type x y p hp (1+e) w
     have e4:=eqFs_run d xs ys fs ps hps (1+e) w
     rw [<-Hp] at e3 e4;simp only [Go.Op.eqFields,hn,ne_eq,not_false_eq_true,Bo,mm,e1,e2,e3,mM,Sem.run_ite,xf,e4];cases p with
     |false=>cases ps<;>simp [Vi]
     |true=>cases ps<;>simp [Vi]
    ·cases h
   ·cases h
end
def afo {o:aU}{e:aVq->aW}{y:aW}(h:R2 P o.op e=ai (ai y)) (w:aP):(execOp e o).run P w=.ok (.value y) w:=by
 unfold R2 at h;split at h
 ·rename_i op t x z t' ho
  split at h
  ·rename_i neg hneg
   split at h
   ·rename_i xs ys hx hy
    split at h
    ·rename_i g1 b g2 g3
     have e1:=aDh g2 w
     have e2:=eqV_run 100 t _ _ b g3 9900 w
     simp only [Ah] at h;unfold aT5 at hneg;split at hneg
     ·simp only [Ah] at hneg
      subst hneg h
      simp [execOp,ho,hx,hy,e1,run_eql_struct,e2]
     ·simp only [Ah] at hneg
      subst hneg h
      simp [execOp,ho,hx,hy,e1,run_neq_struct,e2]
     ·cases hneg
    ·cases h
   ·cases h
  ·cases h
 ·cases h
def aGG {o:aU}{e:aVq->aW}{y:aW}(h:OS P o e=ai y) (w:aP):(execOp e o).run P w=.ok (.value y) w:=by
 unfold OS at h;split at h
 ·rename_i r hr
  subst h;exact afo hr w
 ·split at h
  ·rename_i z hz
   simp only [Ah] at h;subst h;exact dO w hz
  ·cases h
def aLh (y:aW):R β Z w (kn y) y:=by cases y<;>simp only [kn,R]
def abQ {n:aD}(y:aW):okV n (kn y):=by cases y<;>trivial
def afD {o:aU}{lv:LV}(hsel:∀cs b,o.op≠ .select cs b) (hW:RW G w0 Z0 Z β H w) (hF:RF ds β Z w (M H) F a) (h:(Dl P G F o).all λx=>x=lv):
  Dj P (Post ds G w0 Z0 F a β H w o lv H) ((execOp a.eval o).run P w):=by
 unfold Dl at h;split at h
 ·rename_i hpl
  split at h
  ·rename_i y hy
   have hcong:execOp a.eval o=execOp (λx=>(pl<|AM G F x).getD undef) o:=mf o hsel λx hx=>by
    have h1:=BH.1 hpl x A8
    obtain ⟨z,hz⟩:=Zo.1 h1;rw [hz];exact Cm hz (hF.eval hW.Ci x).1
   refine aER hW hF (v:=y) ?_ ?_ ?_
   ·rw [hcong];exact aGG hy w
   ·rw [<-h]
    split
    ·exact aLh y
    ·exact Dx
   ·rw [<-h]
    split
    ·exact abQ y
    ·trivial
  ·cases h
 ·cases h
def aEE {c x y lv:LV}{vc vx vy:aW}{n:aD}(h:(jh c x y).all λz=>z=lv) (hc:R β Z w c vc) (hx:R β Z w x vx) (hy:R β Z w y vy) (kx:okV n x) (ky:okV n y):
  ∃g,vc=.bool g/\R β Z w lv (if g then vx else vy)/\okV n lv:=by
 unfold jh at h;split at h
 ·simp only [T.all] at h;subst h;exact ⟨U,hc,hx,kx⟩
 ·simp only [T.all] at h;subst h;exact ⟨X,hc,hy,ky⟩
 ·rename_i g
  refine ⟨g,hc,?_⟩
  have hx':=P4 hx
  have hy':=P4 hy
  split at h
  ·rename_i h1 h2
   split at h
   ·rename_i hk;simp only [T.all] at h;subst h hk;rw [h1] at hx';rw [h2] at hy';simp only [R] at hx' hy'|-;subst hx' hy';exact ⟨A8,an⟩
   ·cases h
  ·rename_i h1 h2
   simp only [T.all] at h;subst h;rw [h1] at hx';rw [h2] at hy';simp only [R] at hx' hy'|-;subst hx' hy';exact ⟨A8,an⟩
  ·simp only [T.all] at h
   cases g with
   |true=>have:=h.1 rfl;subst this;exact ⟨hx,kx⟩
   |false=>have:=h.2 rfl;subst this;exact ⟨hy,ky⟩
 ·cases h
def aEt {t:aT}{l:aE}{lv:LV}{ys:aY}{i n:aD}(h:(wv P t l i).all λz=>z=lv) (hr:RL β Z w l ys.toList) (hk:AT n l):
  ∃z,(∀w',(Instr.field t (.agg ys) i).run P w'=.ok z w')/\R β Z w lv z/\okV n lv:=by
 unfold wv at h;split at h
 ·rename_i fs hu
  split at h
  ·rename_i f hf
   split at h
   ·rename_i m ha hs
    split at h
    ·simp only [T.all] at h
     subst h;refine ⟨.agg<|ys.extract f.offset<|f.offset+m,λw'=>?_,WE ?_,Qi<|hk.take_drop _ _⟩
     ·simp [Instr.field,Cg hu,hf,asAgg,part,di ha,run_sizeOf hs]
     ·have:=hr.take_drop f.offset m
      simp_all
    ·cases h
   ·rename_i ha
    split at h
    ·rename_i y hy
     subst h;obtain ⟨z,e4,e5⟩:=RL.get _ _ hr hy
     have e6:ys[f.offset]? =ai z:=A8
     refine ⟨z,λw'=>?_,e5,AT.get _ _ hk hy⟩
     simp [Instr.field,Cg hu,hf,asAgg,part,di ha,e6]
    ·cases h
   ·cases h
  ·cases h
 ·cases h
def ae2 {s:aT}{x lv:LV}{y:aW}{i n:aD}(h:(Wu P s x i).all λz=>z=lv) (hr:R β Z w x y) (hk:okV n x):
  ∃z,(∀w',(Instr.fieldAt s y i).run P w'=.ok z w')/\R β Z w lv z/\okV n lv:=by
 unfold Wu at h;split at h
 ·rename_i fs hu
  split at h
  ·rename_i f hf
   split at h
   ·rename_i m hsz
    have e1:=λw=>run_sizeOf hsz w
    split at h
    ·rename_i k off
     simp only [R] at hr;refine ⟨.pointer<|ai ⟨(β k).b,off+f.offset,ak⟩,λw'=>?_,?_,?_⟩
     ·simp [Instr.fieldAt,Cg hu,hf,Instr.sureAddr,hr,fieldPlace,e1,addr_add]
     ·rw [<-h];simp only [R]
     ·rw [<-h];simpa only [okV] using hk
    ·rename_i k es i' j
     obtain ⟨hcap,hr⟩:=hr;refine ⟨.pointer<|ai ⟨(β k).b,(β k).o+i'*es+(j+f.offset),ak⟩,λw'=>?_,?_,?_⟩
     ·simp [Instr.fieldAt,Cg hu,hf,Instr.sureAddr,hr,fieldPlace,e1,addr_add,Hp]
     ·rw [<-h];simp only [R];exact ⟨hcap,an⟩
     ·rw [<-h];simpa only [okV] using hk
    ·rename_i q g
     split at h
     ·rename_i hle
      obtain ⟨b,off,h1,h2,h3⟩:=hr;refine ⟨.pointer<|ai ⟨b,off+f.offset,ak⟩,λw'=>?_,?_,?_⟩
      ·simp [Instr.fieldAt,Cg hu,hf,Instr.sureAddr,h1,fieldPlace,e1,addr_add]
      ·rw [<-h]
       refine ⟨b,off+f.offset,rfl,h2,λj hj=>?_⟩
       have:=h3 (f.offset+j) A0
       grind
      ·rw [<-h];simp only [okV] at hk|-;exact λj=>hk _
     ·cases h
    ·cases h
   ·cases h
  ·cases h
 ·cases h
def dQ {n:Y}{g:aD->LV}{lv:LV}:∀(m j:aD),(chain n g m j).all (λz=>z=lv)->∃i,j<=i/\i<j+m/\n=(i:Y)/\lv=g i
 |0,j,h=>As
 | m+1,j,h=>by
  simp only [chain,T.all] at h
  by_cases hn:n=(j:Y)
  ·grind
  ·obtain ⟨i,h1,h2,h3,h4⟩:=dQ m (j+1) (h.2 A8)
   grind
def aF5 {x:LV}{y:aW}{l:aE}{n:aD}(h:xG x=ai l) (hr:R β Z w x y) (hk:okV n x):∃ys:aY,y=.agg ys/\RL β Z w l ys.toList/\AT n l:=by
 unfold xG at h;split at h
 ·obtain rfl:=EE h
  obtain ⟨ys,e1,e2⟩:=hr;exact ⟨ys,e1,e2,hk⟩
 ·rename_i ys
  obtain rfl:=EE h;exact ⟨ys,hr,Uq _,Tg _ _⟩
 ·cases h
def aF2 {t:aT}{l:aE}{q lv:LV}{ys:aY}{z:aW}{n:aD}(h:(wk P t l q).all λr=>r=lv) (hr:RL β Z w l ys.toList) (hk:AT n l) (hq:R β Z w q z):
  ∃v,(∀w',(Instr.index t (.agg ys) z).run P w'=.ok v w')/\R β Z w lv v/\okV n lv:=by
 unfold wk at h;split at h
 ·rename_i len e k j hu
  split at h
  ·rename_i y ha hs hy
   split at h
   ·rename_i hb
    subst h;simp only [R] at hq;obtain ⟨v,e4,e5⟩:=RL.get _ _ hr hy
    have e6:ys[j.toNat]? =ai v:=A8
    refine ⟨v,λw'=>?_,e5,AT.get _ _ hk hy⟩
    simp [Instr.index,hq,asIntOf,Cg hu,hb.1,hb.2,part,di ha,run_sizeOf hs,e6]
   ·cases h
  ·cases h
 ·cases h
def aDb {t:aT} {x q lv:LV} {y z:aW} {c:aN} {N:aD} (h:(Tb P t x c q).all λr=>r=lv) (hr:R β Z w x y) (hq:R β Z w q z) (hk:okV N x):
  ∃v,(∀w',(Instr.indexAt t y z).run P w'=.ok v w')/\R β Z w lv v/\okV N lv:=by
 unfold Tb at h;simp only [aw9] at h;split at h
 ·rename_i kd n hpl
  have hz:=Cm hpl hq
  split at h
  ·rename_i len e hu
   split at h
   ·rename_i m hsz
    have e1:=λw=>run_sizeOf hsz w
    have fin:∀(b off i:aD),i<len->n=(i:Y)->y=.pointer (ai ⟨b,off,ak⟩)->∀w',(Instr.indexAt t y z).run P w'=.ok (.pointer<|ai ⟨b,off+i*(m+1),ak⟩) w':=λb off i hi hn hy w'=>by
     have h0:(0:Y)<=n:=A0
     have h1:n<(len:Y):=A0
     have h2:n.toNat=i:=A0
     simp [Instr.indexAt,hz,asIntOf,Cg hu,hy,Instr.sureAddr,h0,h1,e1,addr_add,h2]
    have own:∀(k off i:aD),i<len->n=(i:Y)->R β Z w (.own k off) y->okV N (.own k off)->lv=.own k (off+i*(m+1))->∃v,(∀w',(Instr.indexAt t y z).run P w'=.ok v w')/\R β Z w lv v/\okV N lv:=λk off i hi hn hr hk hl=>by
     simp only [R] at hr;refine ⟨_,fin _ _ i hi hn hr,?_,?_⟩
     ·rw [hl];simp only [R]
     ·exact yV
    have opp:∀(k es i' j i:aD),i<len->n=(i:Y)->R β Z w (.op k es i' j) y->okV N (.op k es i' j)->lv=.op k es i' (j+i*(m+1))->∃v,(∀w',(Instr.indexAt t y z).run P w'=.ok v w')/\R β Z w lv v/\okV N lv:=λk es i' j i hi hn hr hk hl=>by
     simp only [R] at hr;refine ⟨_,fin _ _ i hi hn hr.2,?_,?_⟩
     ·rw [hl];simp only [R,Hp];exact ⟨hr.1,an⟩
     ·exact yV
    have ext:∀(q:aD) (g:aD->LV) (i:aD),i<len->len*(m+1)<=q->n=(i:Y)->R β Z w (.xq q g) y->okV N (.xq q g)->lv=.xq (m+1) (λj=>g<|i*(m+1)+j)->∃v,(∀w',(Instr.indexAt t y z).run P w'=.ok v w')/\R β Z w lv v/\okV N lv:=λq g i hi hle hn hr hk hl=>by
     simp only [R] at hr;obtain ⟨b,off,h1,h2,h3⟩:=hr;refine ⟨_,fin _ _ i hi hn h1,?_,?_⟩
     ·rw [hl]
      simp only [R];refine ⟨b,_,rfl,h2,λj hj=>?_⟩
      have hm:i*(m+1)+(m+1)<=len*(m+1):=by
       have:=N7 (m+1) (show i+1<=len by omega)
       rwa [GG,Sm] at this
      have:=h3 (i*(m+1)+j) A0
      rwa [<-Hp] at this
     ·rw [hl];simp only [okV] at hk|-;exact λj=>hk _
    split at h
    ·rename_i k es i' j
     split at h
     ·split at h
      ·rename_i hb
       simp only [T.all] at h;exact opp k es i' j n.toNat A0 A0 hr hk h.symm
      ·cases h
     ·obtain ⟨i,_,h2,h3,h4⟩:=dQ _ _ h
      exact opp k es i' j i A0 h3 hr hk h4
    ·rename_i k off
     split at h
     ·split at h
      ·rename_i hb
       simp only [T.all] at h;exact own k off n.toNat A0 A0 hr hk h.symm
      ·cases h
     ·obtain ⟨i,_,h2,h3,h4⟩:=dQ _ _ h
      exact own k off i A0 h3 hr hk h4
    ·rename_i q g
     split at h
     ·rename_i hle
      split at h
      ·split at h
       ·rename_i hb
        simp only [T.all] at h;exact aNU
       ·cases h
      ·split at h
       ·obtain ⟨i,_,h2,h3,h4⟩:=dQ _ _ h
        exact ext q g i A0 hle h3 hr hk h4
       ·simp only [T.all] at h
        obtain ⟨⟨b1,b2⟩,h⟩:=h;exact aNU
     ·cases h
    ·cases h
   ·cases h
  ·rename_i e hu
   split at h
   ·rename_i m e' l hsz
    split at h
    ·rename_i hes
     simp only [T.all] at h;obtain ⟨⟨h0,h1⟩,h2⟩:=h;simp only [R] at hr;obtain ⟨ad,cap,g1,gc,g2⟩:=hr;obtain ⟨b,off,g3,g4,g5⟩:=g2 A0
     have e1:=λw=>run_sizeOf hsz w
     have hlt:n.toNat<M l:=A0
     have hgx:l[n.toNat]? =ai (gx l n):=A8
     have g6:=g5 n.toNat _ hgx
     refine ⟨.pointer<|ai ⟨b,off+n.toNat*(m+1),ak⟩,λw'=>?_,?_,?_⟩
     ·simp [Instr.indexAt,hz,asIntOf,Cg hu,g1,g3,h0,h1,e1,addr_add]
     ·rw [<-h2]
      simp only [R];refine ⟨b,_,rfl,g4,λj hj=>?_⟩
      rw [hes] at g6
      have hjl:j<M (Br e'<|gx l n):=zZ
      exact Wv e' _ b _ g6 j _<|getD_lt hjl
     ·rw [<-h2]
      simp only [okV];exact λj=>fh (NZ 0 e' _) j
    ·cases h
   ·rename_i m k es off len hsz
    split at h
    ·rename_i hes
     simp only [T.all] at h;obtain ⟨⟨h0,h1⟩,h2⟩:=h
     have e1:=λw=>run_sizeOf hsz w
     simp only [R] at hr;split at hr
     ·obtain ⟨rfl,_,_⟩:=hr
      exact absurd h1 DC
     ·rename_i c hcap
      obtain ⟨g1,ad,g2,g3⟩:=hr
      have g3:=g3 A0
      refine ⟨.pointer<|ai ⟨(β k).b,(β k).o+(off+n.toNat)*es+0,ak⟩,λw'=>?_,?_,?_⟩
      ·simp [Instr.indexAt,hz,asIntOf,Cg hu,g2,g3,h0,h1,e1,addr_add,hes,GG,Hp]
      ·rw [<-h2];simp only [R];exact ⟨by rw [hcap];simp,an⟩
      ·rw [<-h2];simpa only [okV] using hk
    ·cases h
   ·rename_i m k es off len cp hsz
    split at h
    ·rename_i hes
     have e1:=λw=>run_sizeOf hsz w
     have own:∀(i:aD),i<len->n=(i:Y)->lv=.own k ((off+i)*(m+1))->∃v,(∀w',(Instr.indexAt t y z).run P w'=.ok v w')/\R β Z w lv v/\okV N lv:=λi hi hn hl=>by
      simp only [R] at hr;obtain ⟨g1,ad,g2,g3⟩:=hr
      have g3:=g3 A0
      have h0:(0:Y)<=n:=A0
      have h1:n<(len:Y):=A0
      have h2:n.toNat=i:=A0
      refine ⟨.pointer<|ai ⟨(β k).b,(off+i)*(m+1),ak⟩,λw'=>?_,?_,?_⟩
      ·simp [Instr.indexAt,hz,asIntOf,Cg hu,g2,g3,h0,h1,e1,addr_add,hes,GG,h2]
      ·rw [hl];simp only [R]
      ·exact yV
     split at h
     ·split at h
      ·rename_i hb
       simp only [T.all] at h;exact own n.toNat A0 A0 h.symm
      ·cases h
     ·obtain ⟨i,_,h2,h3,h4⟩:=dQ _ _ h
      exact own i A0 h3 h4
    ·cases h
   ·cases h
  ·cases h
 ·cases h
def aHE (off:aD):∀(l:aV) (s:aD) (zs:aY) (i:aD),off+s+M l<=zs.size->
  ((l.zipIdx s).foldl (λ(cs:aY) p=>cs.setIfInBounds (off+p.2) p.1) zs).size=zs.size/\
  ((l.zipIdx s).foldl (λ(cs:aY) p=>cs.setIfInBounds (off+p.2) p.1) zs)[i]? =if off+s<=i/\i<off+s+M l then l[i-(off+s)]? else zs[i]?
 | [],s,zs,i,_=>by simp;intro h1 h2;omega
 | x::xs,s,zs,i,h=>by
  simp only [List.zipIdx_cons,KL];obtain ⟨h1,h2⟩:=aHE off xs (s+1) (zs.setIfInBounds (off+s) x) i A8;refine ⟨A8,?_⟩;rw [h2];simp only [BY] at h|-
  by_cases hi:i=off+s
  ·subst hi
   rw [AE A0,AD A0,Array.getElem?_setIfInBounds,AD rfl,AD A0]
   simp
  ·by_cases hr:off+(s+1)<=i/\i<off+(s+1)+M xs
   ·rw [AD hr,AD A0]
    grind
   ·rw [AE hr,AE A0]
    grind
def afa (off:aD) (vs zs:aY) (h:off+vs.size<=zs.size):
  (vs.zipIdx.foldl (λ(cs:aY) (p:Value×Nat)=>cs.setIfInBounds (off+p.2) p.1) zs).toList=zs.toList.take off++vs.toList++zs.toList.drop (off+M vs.toList):=by
 have e:vs.zipIdx.foldl (λ(cs:aY) (p:Value×Nat)=>cs.setIfInBounds (off+p.2) p.1) zs=(vs.toList.zipIdx 0).foldl (λ(cs:aY) p=>cs.setIfInBounds (off+p.2) p.1) zs:=by
  rw [<-Array.foldl_toList];simp
 rw [e]
 apply List.ext_getElem?
 intro i
 have:=(aHE off vs.toList 0 zs i A8).2
 rw [Array.getElem?_toList,this];simp only [Zr,xz]
 by_cases h1:i<off
 ·grind
 ·by_cases h2:i<off+vs.size
  ·rw [AD A0,Co,Gc A8,Hl A8]
   grind
  ·rw [AE A0,Gc A8,FM]
   simp
   congr 1
   omega
def dP {place:aD->aVM}{n:aD}:∀(pl:bq) (pv:List<|Nat×Value) (cells cs:aE) (zs:aY),Kp place cells pl=ai cs->pv.map (·.1)=pl.map (·.1)->
  RL β Z w (pl.map (·.2)) (pv.map (·.2))->AT n (pl.map (·.2))->RL β Z w cells zs.toList->AT n cells->∃zs',Instr.fill place zs pv=ai zs'/\RL β Z w cs zs'.toList/\AT n cs
 | [],pv,cells,cs,zs,h,hp,hr,_,hc,hok=>by
  simp only [Kp,Ah] at h;subst h
  have:pv=[]:=GI
  subst this;exact ⟨zs,rfl,hc,hok⟩
 | (i,x)::rest,pv,cells,cs,zs,h,hp,hr,hk,hc,hok=>by
  cases pv with
  |nil=>simp at hp
  | cons q qs=>
   obtain ⟨i',v⟩:=q;simp only [ER,Ht] at hp;obtain ⟨rfl,hp'⟩:=hp;obtain ⟨y,ys,e1,e2,e3⟩:=hr;obtain ⟨rfl,rfl⟩:=e1;simp only [Kp] at h;split at h
   ·rename_i off size c hpl hcl
    split at h
    ·rename_i hle
     obtain ⟨c1,c2⟩:=qZ hcl e2
     have c3:=qC hcl hk.1
     have l1:=RL.length c1
     have l2:=RL.length hc
     have hle2:off+v.cells.size<=zs.size:=A8
     have hset:=afa off v.cells zs hle2
     have hrl:=RL.setAt hc c1 off
     rw [<-hset] at hrl;obtain ⟨zs',f1,f2,f3⟩:=dP rest qs _ cs _ h hp' e3 hk.2 hrl<|AT.setAt hok c3 off;refine ⟨zs',?_,f2,f3⟩;simp only [Instr.fill,hpl]
     grind
    ·cases h
   ·cases h
def ae3 {t:aT}{pl:bq}{pv:aVE}{lv:LV}{n:aD}(h:(Ni P t pl).all λz=>z=lv) (hp:pv.toList.map (·.1)=pl.map (·.1)) (hr:RL β Z w (pl.map (·.2))<|pv.toList.map (·.2)) (hk:AT n<|pl.map (·.2)):
  ∃v,(∀w',(Instr.build t pv).run P w'=.ok v w')/\R β Z w lv v/\okV n lv:=by
 unfold Ni at h;split at h
 ·rename_i z pf hz hpf
  split at h
  ·rename_i cs hcs
   obtain ⟨zs',f1,f2,f3⟩:=dP (β:=β) (Z:=Z) (w:=w) (n:=n) pl pv.toList _ cs z.cells hcs hp hr hk (Uq _)<|Tg _ _;refine ⟨.agg zs',λw'=>run_build w' t pv zs' ?_,?_,?_⟩
   ·unfold Ib at hz
    unfold aQN at hpf;unfold Program.built;cases hi:P.info? t with
    |none=>simp [hi] at hz
    | some it=>
     simp only [hi,OZ] at hz;split at hpf
     ·rename_i fields hu
      cases hm:fields.toList.mapM (λf=>(P.info? f.type).map λi=>(f.offset,i.size)) with
      |none=>simp [hm] at hpf
      |some ps=>
       simp only [hm,Jn,Ah] at hpf;simp only [hu,hz,hm];rw [<-hpf] at f1;exact f1
     ·rename_i e hu
      cases hm:P.info? e with
      |none=>simp [hm] at hpf
      |some ie=>
       simp only [hm,Jn,Ah] at hpf;simp only [hu,hz,hm];rw [<-hpf] at f1;exact f1
     ·cases hpf
   ·rw [<-h]
    split
    ·simp only [R];exact ⟨zs',rfl,f2⟩
    ·exact WE f2
   ·rw [<-h]
    split
    ·exact f3
    ·exact Qi f3
  ·cases h
 ·cases h
def fO {x:aVq}{y:aW}{n:aD}(h:R β Z w (AM G F x) y/\okV n (AM G F x)):R β Z w (I4 G F x) y/\okV n (I4 G F x):=by
 cases x with
 |const v=>exact ⟨P4 h.1,TH h.2⟩
 |tmp t=>exact h
 |global g=>exact h
 |func f=>exact h
def wY (e:Ty):∀(n:aD) (cs:aE) (l:List e.D) (ys:aV),cY e n cs=ai l->RL β Z w cs ys->M l=n/\∀(Z':aD->Prop) (w':aP) (b o:aD),(∀b,Z b->Z' b)->(∀b,Z b->w'.heap[b]? =w.heap[b]?)->(∀(j:aD) v,ys[j]? =ai v->w'.cell? ⟨b,o+j,ak⟩=ai v)->∀(i:aD) (d:e.D),l[i]? =ai d->RD Z' w' e d b (o+i*e.n)
 |0,cs,l,ys,h,hr=>by
  simp only [cY,Ah] at h
  grind
 | n +1,cs,l,ys,h,hr=>by
  simp only [cY] at h;split at h
  ·rename_i d r hd hr'
   simp only [Ah] at h;subst h
   have h1:RL β Z w (cs.take e.n) (ys.take e.n):=by simpa using hr.take_drop 0 e.n
   have h2:RL β Z w (cs.drop e.n) (ys.drop e.n):=by
    refine RL.CW (by simp [RL.length hr]) λi z hz=>?_
    rw [FM] at hz|-;exact RL.get _ _ hr hz
   obtain ⟨k1,k2⟩:=wY e n _ r _ hr' h2;refine ⟨A8,λZ' w' b o hZ hw hc i d' hd'=>?_⟩
   cases i with
   |zero=>
    simp at hd'
    subst hd';rw [mZ,Zr];refine wZ hZ hw e _ d _ hd h1 b o λj v hv=>?_
    rw [LQ] at hv;split at hv
    ·grind
    ·cases hv
   | succ i=>
    have:=k2 Z' w' b (o+e.n) hZ hw (λj v hv=>by
     rw [FM] at hv
     have:=hc (e.n+j) v hv
     rwa [<-Hp] at this) i d' hd'
    grind
  ·cases h
def aEx {t:aT}{len:aD}{pl:bq}{pv:aVE}{lv:LV}{n:aD}(h:(L6 P t len pl).all λz=>z=lv) (hp:pv.toList.map (·.1)=pl.map (·.1)) (hr:RL β Z w (pl.map (·.2))<|pv.toList.map (·.2)) (hk:AT n<|pl.map (·.2)):
  ∃elem cells,(∀w',(Instr.buildSlice t len pv).run P w'=.ok (.slice (ai ⟨w'.heap.size,0,ak⟩) len len) (w'.alloc<|.cells cells elem))/\
   (∀(β':aD->aVs) (Z':aD->Prop) (w':aP) (b:aD),(∀b,Z b->Z' b)->(∀b,Z b->w'.heap[b]? =w.heap[b]?)->(∀(j:aD) v,cells.toList[j]? =ai v->w'.cell? ⟨b,0+j,ak⟩=ai v)->Z' b->R β' Z' w' lv (.slice (ai ⟨b,0,ak⟩) len len))/\okV n lv:=by
 unfold L6 at h;split at h
 ·rename_i e hu
  split at h
  ·rename_i ty m z hty hsz hz
   split at h
   ·rename_i hcond
    split at h
    ·rename_i cs hcs
     split at h
     ·rename_i l hl
      have hz0:RL β Z w ((av<|len*m).map λi=>LV.v<|z.cells[i%z.cells.size]!) ((Array.range<|len*m).map λi=>z.cells[i%z.cells.size]!).toList:=by
       exact yB
      have hok0:AT n ((av<|len*m).map λi=>LV.v<|z.cells[i%z.cells.size]!):=by
       exact aMW
      obtain ⟨zs',f1,f2,f3⟩:=dP (β:=β) (Z:=Z) (w:=w) (n:=n) pl pv.toList _ cs _ hcs hp hr hk hz0 hok0;obtain ⟨k1,k2⟩:=wY ty len cs l _ hl f2;refine ⟨e,zs',λw'=>?_,λβ' Z' w' b hZ hw hc hzb=>?_,by rw [<-h];trivial⟩
      ·exact yG
      ·rw [<-h]
       refine ⟨_,len,by rw [k1],A0,λ_=>⟨b,0,rfl,hzb,λi d hd=>?_⟩⟩
       exact k2 Z' w' b 0 hZ hw hc i d hd
     ·cases h
    ·cases h
   ·cases h
  ·cases h
 ·cases h
def aFH {place:aD->aVM}:∀ {pl:bq}{cells cs:aE},Kp place cells pl=ai cs->M cs=M cells
 | [],cells,cs,h=>by
  simp only [Kp,Ah] at h;rw [h]
 | (i,x)::rest,cells,cs,h=>by
  simp only [Kp] at h;split at h
  ·split at h
   ·rename_i off size c _ _ hcond
    rw [aFH h];simp only [setAt,B8,ME,FL];omega
   ·cases h
  ·cases h
def apZ {t e:aT}{ty:Ty}{l:List ty.D}{len:aD}{pl:bq}{pv:aVE}{n:aD}(hu:P.underlying t=ai (.slice e)) (h:(L6 P t len pl).all λz=>z=.xl ty l) (hp:pv.toList.map (·.1)=pl.map (·.1)) (hr:RL β Z w (pl.map (·.2))<|pv.toList.map (·.2)) (hk:AT n<|pl.map (·.2)):
  ∃cells:aY,(∀w',(Instr.buildSlice t len pv).run P w'=.ok (.slice (ai ⟨w'.heap.size,0,ak⟩) len len) (w'.alloc<|.cells cells e))/\M l=len/\cells.size=len*ty.n/\
   (∀(w':aP) (b:aD),(∀b,Z b->w'.heap[b]? =w.heap[b]?)->(∀(j:aD) v,cells.toList[j]? =ai v->w'.cell? ⟨b,0+j,ak⟩=ai v)->∀(i:aD) (d:ty.D),l[i]? =ai d->RD Z w' ty d b (0+i*ty.n)):=by
 unfold L6 at h;rw [hu] at h;simp only at h;split at h
 ·rename_i ty0 m z hty hsz hz
  split at h
  ·rename_i hcond
   split at h
   ·rename_i cs hcs
    split at h
    ·rename_i l0 hl
     simp only [T.all,LV.xl.injEq] at h;obtain ⟨rfl,h⟩:=h;obtain rfl:=eq_of_heq h
     have hz0:RL β Z w ((av<|len*m).map λi=>LV.v<|z.cells[i%z.cells.size]!) ((Array.range<|len*m).map λi=>z.cells[i%z.cells.size]!).toList:=by
      exact yB
     have hok0:AT n ((av<|len*m).map λi=>LV.v<|z.cells[i%z.cells.size]!):=by
      exact aMW
     obtain ⟨zs',f1,f2,f3⟩:=dP (β:=β) (Z:=Z) (w:=w) (n:=n) pl pv.toList _ cs _ hcs hp hr hk hz0 hok0;obtain ⟨k1,k2⟩:=wY ty0 len cs l0 _ hl f2
     have hcl:=aFH hcs
     have hsz2:zs'.size=len*m:=by
      have:=RL.length f2
      grind
     refine ⟨zs',λw'=>?_,k1,A8,λw' b hw hc i d hd=>k2 Z w' b 0 (λ_ h=>h) hw hc i d hd⟩
     exact yG
    ·cases h
   ·cases h
  ·cases h
 ·cases h
def afN {t:aT}{len:aD}{vs:bq}{pv:aVE}{lv:LV}{H':aH}(hW:RW G w0 Z0 Z β H w) (h:(cV P H t len vs).all λq=>q=(lv,H')) (hp:pv.toList.map (·.1)=vs.map (·.1))
  (hargs:RL β Z w (vs.map (·.2))<|pv.toList.map (·.2)) (hoka:AT (M H)<|vs.map (·.2)):
  ∃w' v Z' β',(Instr.buildSlice t len pv).run P w=.ok v w'/\Below w.heap.size w w'/\(∀b,Z b->Z' b)/\(∀k,k<M H->β' k=β k)/\RW G w0 Z0 Z' β' H' w'/\R β' Z' w' lv v/\okV (M H') lv/\M H'=M H+1/\(β'<|M H).b=w.heap.size:=by
 unfold cV at h;split at h
 ·rename_i hcl
  obtain ⟨y,h1,h2⟩:=T.B4 h;obtain ⟨_,hg,h1⟩:=T.B4 h1;split at h2
  ·rename_i e ty l hu _
   obtain ⟨rfl,rfl⟩:=h2
   have hG:=T.BR (K':=λ_=>True) (λ_ _=>trivial) hg
   obtain ⟨c1,c2⟩:=Sz hcl
   have hP:=hW.pub<|reach H 64 (ownsL<|vs.map (·.2)) []
   have hH:=λk b hb=>(hW.blk k b hb).2
   have hr0:RL β (ZP Z β H λk=>k∈reach H 64 (ownsL<|vs.map (·.2)) []) w ((vs.map (·.2)).map<|C4 H 6) (pv.toList.map (·.2)):=
    TI (S:=λk=>k∈reach H 64 (ownsL<|vs.map (·.2)) []) hargs hoka c1 (λx y hm hs hx hr=>Mc hW c2 6 x y (Oo hG x hm) hs hx hr)
   have hok0:AT 0 ((vs.map (·.2)).map<|C4 H 6):=by
    exact aMA
   have emap:(vs.map λq=>(q.1,C4 H 6 q.2)).map (·.2)=(vs.map (·.2)).map (C4 H 6):=AI
   obtain ⟨cells,e1,e2,e3,e4⟩:=apZ (β:=β) (Z:=ZP Z β H λk=>k∈reach H 64 (ownsL<|vs.map (·.2)) []) (w:=w) (n:=0) (pv:=pv) hu h1 GI (by rw [emap];exact hr0) (by rw [emap];exact hok0)
   have hbw:Below w.heap.size w (w.alloc<|.cells cells e):=(Below.refl _ _).alloc (Ar _) _
   have hblk:(w.alloc<|.cells cells e).heap[w.heap.size]? =ai (.cells cells e (0,0)):=by
    exact bJ
   obtain ⟨β',b1,b2,b3⟩:=(hP.same hbw).Ks (ℓ:=⟨w.heap.size,0,ai len⟩) (nb:=⟨[],e,.vec ty l,X⟩) rfl ⟨an,an⟩
    (λ_=>⟨λhz=>by have:=hP.Bc _ hz;simp only at this;omega,hW.below.size,λj bj hj lj e=>by have:=hP.lt hj lj;simp only at e;omega⟩) (λβ' g1 g2=>by
     simp only [Bb,g2];refine ⟨cells,hblk,A0,A0,λj d' hd'=>?_⟩
     exact e4 _ w.heap.size (λb hz=>EI hbw<|hP.Bc b hz) (λj v hv=>by
      simpa using hv) j d' hd')
   simp only [KP] at b1 b2 b3;exact ⟨_,_,_,β',e1 w,hbw,λ_ h=> .inl h,b1,b3,aOU,by simp [okV,KP],by simp [KP],Ve⟩
  ·cases h2
 ·cases h
def afP {t:aT}{len:aD}{pl:bq}{pv:aVE}{lv:LV}{H':aH}(hW:RW G w0 Z0 Z β H w) (h:(oU P H t len pl).all λq=>q=(lv,H')) (hp:pv.toList.map (·.1)=pl.map (·.1)) (hr:RL β Z w (pl.map (·.2))<|pv.toList.map (·.2)) (hk:AT (M H)<|pl.map (·.2)):
  ∃w' v,(Instr.buildSlice t len pv).run P w=.ok v w'/\Below w.heap.size w w'/\∃β',(∀k,k<M H->β' k=β k)/\RW G w0 Z0 Z β' H' w'/\R β' Z w' lv v/\okV (M H') lv/\M H'=M H+1/\(β'<|M H).b=w.heap.size:=by
 unfold oU at h;split at h
 ·rename_i e hu
  split at h
  ·rename_i m z hsz hz
   split at h
   ·rename_i hc
    split at h
    ·rename_i cs hcs
     obtain ⟨rfl,rfl⟩:=h
     have hz0:RL β Z w ((av<|len*m).map λi=>LV.v<|z.cells[i%z.cells.size]!) ((Array.range<|len*m).map λi=>z.cells[i%z.cells.size]!).toList:=by
      exact yB
     have hok0:AT (M H) ((av<|len*m).map λi=>LV.v<|z.cells[i%z.cells.size]!):=by
      have:=Tg (M H)<|(av<|len*m).map λi=>z.cells[i%z.cells.size]!
      simpa [HG,Zd] using this
     obtain ⟨zs',f1,f2,f3⟩:=dP (β:=β) (Z:=Z) (w:=w) (n:=M H) pl pv.toList _ cs _ hcs hp hr hk hz0 hok0;obtain ⟨β',b1,b2,b3,b4⟩:=hW.alloc (t:=e) f2 f3
     have hbw:Below w.heap.size w (w.alloc<|.cells zs' e):=(Below.refl _ _).alloc (Ar _) _
     refine ⟨w.alloc<|.cells zs' e,.slice (ai ⟨w.heap.size,0,ak⟩) len len,?_,hbw,β',b1,b3,?_,MM,AI,b2⟩
     ·exact yG
     ·simp only [R,b2]
      grind
    ·cases h
   ·cases h
  ·cases h
 ·cases h
def TF {o:aU}{g:bh}{l:aE}{lv:LV}{H':aH}(h:(Lq P Γ H o g l).all λq=>q=(lv,H')):∃fn S,P.funcs[g]? =ai fn/\¬fn.body=ak/\¬fn.name= "runtime.NumGoroutine"/\Γ g=ai S/\
  (if noOwnL l then (S l).bind λy=>(T.ok (y,H):T<|LV×List AB)
      else if Lh P 8 o.type then ((GN (EX H 6) l).bind λ_=>Qw<|S<|l.map<|C4 H 6).bind λy=> .ok (y,H)
      else if Kd H (reach H 64 (ownsL l) []) l then ((GN (EX H 6) l).bind λ_=>S<|l.map<|C4 H 6).bind λy=> .ok (y,Fs (reach H 64 (ownsL l) []) 0 H) else .no).all (λq=>q=(lv,H')):=by
 unfold Lq at h;split at h
 ·rename_i fn hfn
  split at h
  ·rename_i hb
   split at h
   ·rename_i S hS
    grind
   ·cases h
  ·cases h
 ·cases h
def aFk {o:aU}{lv:LV}(hΓ:∀g S,Γ g=ai S->Valid P G g S) (hW:RW G w0 Z0 Z β H w) (hF:RF ds β Z w (M H) F a) {g:bh}{vals:aY}(hrun:(execOp a.eval o).run P w=.ok (.enter g vals) w)
  {H':aH} {l:aE} (hargs:RL β Z w l vals.toList) (hoka:AT (M H) l) (h:(Lq P Γ H o g l).all λq=>q=(lv,H')):
  Dj P (Post ds G w0 Z0 F a β H w o lv H') ((execOp a.eval o).run P w):=by
 obtain ⟨fn,S,_,_,_,hS,h⟩:=TF h;rw [hrun]
 have hval:=hΓ g S hS
 have hH:=λk b hb=>(hW.blk k b hb).2
 split at h
 ·rename_i hno
  obtain ⟨y,h1,h2⟩:=T.B4 h;simp only [T.all,Ay] at h2;obtain ⟨rfl,rfl⟩:=h2
  have hok0:=noOwnL_ok _ hno hoka
  have hr0:RL β0 Z w l (vals).toList:=RL.mono (n:=0) (λ_ hk=>absurd hk A0) (λ_ h=>h) (λ_ _=>rfl) _ _ hok0 hargs
  refine (hval _ _ w Z y hW.Bc hW.Ci hok0 hr0 h1).mono λe w' ⟨hbw,v,he,hk,hr⟩=>⟨v,he,?_⟩
  refine ⟨_,β,hW.call hbw,hF.mono (Ar _) (λ_ _=>rfl) (λ_ h=> .inl h) λb hz=>EI hbw<|hW.Bc b hz,?_,okV.mono (N9 _) _ hk,Ar _,λ_ _=>rfl,λk h1 h2=>A0,NJ hbw⟩
  exact aNg
 ·have hok0:=aDY hoka (λx hx=>Qf H hH 6 x hx)
  split at h
  ·obtain ⟨y,h1,h2⟩:=T.B4 h
   simp only [T.all,Ay] at h2;obtain ⟨rfl,rfl⟩:=h2;obtain ⟨_,hg,h1⟩:=T.B4 h1
   have hG:=T.BR (K':=λ_=>True) (λ_ _=>trivial) hg
   obtain ⟨h1,h2⟩:=aET h1
   have hr0:RL β0 (ZP Z β H λ_=>True) w (l.map<|C4 H 6) (vals).toList:=
    RL.mono (n:=0) (λ_ hk=>absurd hk A0) (λ_ h=>h) (λ_ _=>rfl) _ _ hok0 (TI (S:=λ_=>True) hargs hoka (λ_ _=>trivial) λx y hm hs hx hr=>Mc hW (λ_ _ _ _ _ _=>trivial) 6 x y (Oo hG x hm) hs hx hr)
   have hzo:∀b,ZP Z β H (λ_=>True) b->b<w.heap.size:=λb hz=>by
    exact aNj
   refine (hval _ _ w _ y hzo (hW.Ci.mono (λ_ h=> .inl h) λ_ _=>rfl) hok0 hr0 h1).mono λe w' ⟨hbw,v,he,hk,hr⟩=>⟨v,he,?_⟩
   refine ⟨Z,β,hW.same hbw,hF.mono (Ar _) (λ_ _=>rfl) (λ_ h=>h) λb hz=>EI hbw<|hW.Bc b hz,?_,okV.mono (N9 _) _ hk,Ar _,λ_ _=>rfl,λk h1 h2=>A0,NJ hbw⟩
   obtain ⟨x,hx⟩:=Zo.1 h2;rw [Cm hx hr];exact aLq hx
  ·split at h
   ·rename_i hcl
    obtain ⟨y,h1,h2⟩:=T.B4 h;simp only [T.all,Ay] at h2;obtain ⟨rfl,rfl⟩:=h2;obtain ⟨_,hg,h1⟩:=T.B4 h1
    have hG:=T.BR (K':=λ_=>True) (λ_ _=>trivial) hg
    obtain ⟨c1,c2⟩:=Sz hcl
    have hP:=hW.pub<|reach H 64 (ownsL l) []
    have hr0:RL β0 (ZP Z β H λk=>k∈reach H 64 (ownsL l) []) w (l.map<|C4 H 6) (vals).toList:=
     RL.mono (n:=0) (λ_ hk=>absurd hk A0) (λ_ h=>h) (λ_ _=>rfl) _ _ hok0 (TI (S:=λk=>k∈reach H 64 (ownsL l) []) hargs hoka c1 λx y hm hs hx hr=>Mc hW c2 6 x y (Oo hG x hm) hs hx hr)
    refine (hval _ _ w _ y hP.Bc hP.Ci hok0 hr0 h1).mono λe w' ⟨hbw,v,he,hk,hr⟩=>⟨v,he,?_⟩
    refine ⟨_,β,hP.call hbw,?_,?_,okV.mono (N9 _) _ hk,by rw [KP];exact Ar _,λ_ _=>rfl,λk h1 h2=>by rw [KP] at h2;omega,NJ hbw⟩
    ·exact aMX
    ·exact aNg
   ·cases h
def aDw {f:aVq}{args:aVu}{ty:aVA}{o:aU}(ho:o.op=.call {callee:=.value f,args,argTypes:=ty}) {g:bh}{ys:aY}(hy:a.eval f=.func (.func g) #[] ys) {fn:aVw}(hfn:P.funcs[g]? =ai fn) (hb:¬fn.body=ak) (hb3:¬fn.name= "runtime.NumGoroutine") (w:aP):
  (execOp a.eval o).run P w=.ok (.enter g<|args.map a.eval++ys) w:=by
 unfold execOp;simp only [ho]
 simp [resolve,Deferred.ofValue,hy,invoke,callFunc,hfn,hb3,hb]
def aEU {f:aVq}{args:aVu}{ty:aVA}{o:aU}(ho:o.op=.call {callee:=.value f,args,argTypes:=ty}) {g:bh}{ys:aY}(hy:a.eval f=.func (.func g) ys #[]) {fn:aVw}(hfn:P.funcs[g]? =ai fn) (hb:¬fn.body=ak) (hb3:¬fn.name= "runtime.NumGoroutine") (w:aP):
  (execOp a.eval o).run P w=.ok (.enter g<|ys++args.map a.eval) w:=by
 unfold execOp;simp only [ho]
 simp [resolve,Deferred.ofValue,hy,invoke,callFunc,hfn,hb3,hb]
def su (G:B5) (F:aE) (f:aVq) (args:aVu) (g:bh) (l:aE):Prop:=
 (∃cap,AM G F f=.fn g cap/\l=args.toList.map (λx=>norm<|AM G F x)++cap)\/(∃fs,AM G F f=.fb g fs/\l=fs++args.toList.map (λx=>norm<|AM G F x))\/(AM G F f=.v (.func (.func g) #[] #[])/\l=args.toList.map (λx=>norm<|AM G F x))
def aEb {f:aVq}{args:aVu}{ty:aVA}{o:aU}(ho:o.op=.call {callee:=.value f,args,argTypes:=ty}) (hW:RW G w0 Z0 Z β H w) (hF:RF ds β Z w H.length F a) {g:bh}{l:aE}
  (hf:su G F f args g l) {fn:aVw} (hfn:P.funcs[g]? =ai fn) (hb:¬fn.body=ak) (hb3:¬fn.name= "runtime.NumGoroutine"):
  ∃vals:aY,(execOp a.eval o).run P w=.ok (.enter g vals) w/\RL β Z w l vals.toList/\AT H.length l:=by
 have hfr:=hF.eval hW.Ci f
 have ha:RL β Z w (args.toList.map λx=>norm<|AM G F x) (args.map a.eval).toList:=by
  exact aM5
 have hk:AT H.length (args.toList.map λx=>norm<|AM G F x):=by
  exact aN6
 rcases hf with ⟨cap,hf,rfl⟩ |⟨fs,hf,rfl⟩ |⟨hf,rfl⟩
 ·rw [hf] at hfr
  obtain ⟨⟨ys,hy,hyr⟩,hcap⟩:=hfr;exact ⟨_,aDw ho hy hfn hb hb3 w,by rw [mF];exact RL.app ha hyr,AT.append hk hcap⟩
 ·rw [hf] at hfr
  obtain ⟨⟨ys,hy,hyr⟩,hcap⟩:=hfr;exact ⟨_,aEU ho hy hfn hb hb3 w,by rw [mF];exact RL.app hyr ha,AT.append hcap hk⟩
 ·rw [hf] at hfr
  have hy:=hfr.1
  exact ⟨_,aDw ho hy hfn hb hb3 w,A8,hk⟩
def aF0 {r:aVq}{name:aVQ}{args:aVu}{ty:aVA}{o:aU}(ho:o.op=.call {callee:=.invoke r name,args,argTypes:=ty}) {t:aT}{v rv:aW}{g:bh}(hy:a.eval r=.iface t v) (hm:JA P (method (P.types.size+Made.depth) t v name)=ai (g,rv)) {fn:aVw}(hfn:P.funcs[g]? =ai fn) (hb:¬fn.body=ak) (hb3:¬fn.name= "runtime.NumGoroutine") (w:aP):
  (execOp a.eval o).run P w=.ok (.enter g<|#[rv]++args.map a.eval) w:=by
 unfold execOp;simp only [ho]
 have hr:=dO w hm
 have h0:(#[Value.iface t v]++args.map a.eval)[0]? =ai (.iface t v):=A8
 have hx:(args.map a.eval).extract 0 args.size=args.map a.eval:=by
  grind
 simp [resolve,hy,invoke,callMethod,hr,callFunc,hfn,hb3,hb,h0,hx]
def aIp {x:LV}{name:aVQ}{g:bh}{rv z:aW}(h:jZ P x name=ai (g,rv)) (hr:R β Z w x z):∃t v,z=.iface t v/\JA P (method (P.types.size+Made.depth) t v name)=ai (g,rv):=by
 unfold jZ at h;split at h
 ·rename_i t v hp
  exact ⟨t,v,Cm hp hr,h⟩
 ·cases h
def aEq {f:aVq}{args:aVu}{ty:aVA}{o:aU}{lv:LV}(ho:o.op=.call {callee:=.value f,args,argTypes:=ty}) (hΓ:∀g S,Γ g=ai S->Valid P G g S)
  (hW:RW G w0 Z0 Z β H w) (hF:RF ds β Z w (M H) F a) {g:bh} {l:aE} (hf:su G F f args g l)
  {H':aH} (h:(Lq P Γ H o g l).all λq=>q=(lv,H')):
  Dj P (Post ds G w0 Z0 F a β H w o lv H') ((execOp a.eval o).run P w):=by
 obtain ⟨fn,S,h1,h2,h3,_⟩:=TF h;obtain ⟨vals,q1,q2,q3⟩:=aEb ho hW hF hf h1 h2 h3;exact aFk hΓ hW hF q1 q2 q3 h
def afC {r:aVq}{name:aVQ}{args:aVu}{ty:aVA}{o:aU}{lv:LV}(ho:o.op=.call {callee:=.invoke r name,args,argTypes:=ty}) (hΓ:∀g S,Γ g=ai S->Valid P G g S)
  (hW:RW G w0 Z0 Z β H w) (hF:RF ds β Z w (M H) F a) {g:bh} {rv:aW} (hf:jZ P (AM G F r) name=ai (g,rv))
  {H':aH} (h:(Lq P Γ H o g (.v rv::args.toList.map (λx=>norm<|AM G F x))).all λq=>q=(lv,H')):
  Dj P (Post ds G w0 Z0 F a β H w o lv H') ((execOp a.eval o).run P w):=by
 obtain ⟨t,v,hy,hm⟩:=aIp hf (hF.eval hW.Ci r).1
 have hargs:RL β Z w (.v rv::args.toList.map (λx=>norm<|AM G F x)) (#[rv]++args.map a.eval).toList:=by
  rw [mF,N6];simp only [KJ,EG,RL];refine ⟨rv,_,rfl,Jp,RL.CW AI λi x hx=>?_⟩
  rw [Dh] at hx|-;cases hq:args.toList[i]? with
  |none=>simp [hq] at hx
  |some q=>simp [hq] at hx;subst hx;exact ⟨a.eval q,AI,P4 (hF.eval hW.Ci q).1⟩
 have hoka:AT (M H) (.v rv::args.toList.map (λx=>norm<|AM G F x)):=by
  refine ⟨an,AT.CW λi x hx=>?_⟩
  cases hq:args.toList[i]? with
  |none=>simp [hq] at hx
  |some q=>simp [hq] at hx;subst hx;exact TH (hF.eval hW.Ci q).2
 obtain ⟨fn,S,h1,h2,h3,_⟩:=TF h;exact aFk hΓ hW hF (aF0 ho hy hm h1 h2 h3 w) hargs hoka h
structure FR (P:aQ) (G:B5) (K:aVG):Prop where
 k:∀(w0:aP) (Z0:Gz) (Z:aD->Prop) (β:aD->aVs) (H:aH) (w:aP) (g:bh) (args:aE) (vals:aY) (lv:LV) (H':aH),RW G w0 Z0 Z β H w->RL β Z w args vals.toList->AT (M H) args->(K.k g args H).all (λq=>q=(lv,H'))->
  Calls P g vals w λe w'=>∃v,e=.returned v/\∃Z' β',RW G w0 Z0 Z' β' H' w'/\R β' Z' w' lv v/\okV H'.length lv
 y :∀(w0:aP) (Z0:Gz) (Z:aD->Prop) (β:aD->aVs) (H:aH) (w:aP) (k:aD) (args:aE) (vals:aY) (lv:LV) (H':aH),RW G w0 Z0 Z β H w->RL β Z w args vals.toList->AT (M H) args->(K.y k args H).all (λq=>q=(lv,H'))->
  ∃r:Loop,w.heap[(β k).b]? =ai (.loop r)/\vals.size=r.params.size/\RoundIn Fence.wide 0 P (β k).b r.fn ((r.params.zip vals).foldl (λt (p,v)=>t.setIfInBounds p v) r.tmps) r.assign r.body w
   λe w'=>∃v,e=.returned v/\∃Z' β',RW G w0 Z0 Z' β' H' w'/\R β' Z' w' lv v/\okV H'.length lv
def Qa:FR P G EN:=⟨λ_ _ _ _ _ _ _ _ _ _ _ _ _ _ h=>As,λ_ _ _ _ _ _ _ _ _ _ _ _ _ _ h=>As⟩
end Go.Sx
end
