/- Helpers for ParkLimits. Conditions: none. -/
import Derived.Test.YtjdlmobanmhohaaGreatDoorRows
import Derived.WalkKit
import Derived.WalkSpells
import Derived.WalkLawsBesides
import Derived.Deep.QuietTactic
import Derived.BigQuiet
import Derived.Deep.RegionHeld3
import Derived.Deep.DrawnRows
import Derived.Deep.DeepCutAuto
import Derived.RangeFuncLeaves
import Derived.RangeFuncRecord
import Derived.OrdersIn
import Derived.LoopNIn
import Derived.Deep.Upon
import Derived.Laws.MakeOwn
import Derived.LoopN
import Derived.Test.YtjdlmobanmhohaaGreatDoorProg
import Derived.Stop.Asserts
import Derived.Lib.IfaceEq
import Derived.RowKitTokens
import Derived.OpenShut
import Derived.ChangeShapes
import Derived.WideShapes
import Derived.Carry
import Derived.ChangeOld
import Derived.FnData
import Derived.Test.YtjdlmobanmhohaaGreatDoorCards
import Derived.Test.YtjdlmobanmhohaaGreatDoorTie
import Derived.ProofKit
import Derived.Deep.DeepHandedRow
import Derived.Lib.LaidTab
set_option linter.defProp false
set_option linter.unusedVariables false
set_option linter.unusedSimpArgs false
noncomputable section
open List renaming length→M,length→aa,replicate→aq,range→au
open Bool renaming true→U,true→ae,false→X,false→af
open Go.Value renaming int→ag
open Option renaming some→ah,none→aj
open Go.IntKind renaming i64→J,i64→ai,u8→aw,u32→ax
open True renaming intro→ak
open Decidable renaming decide→an
open ByteArray renaming mk→av
open Go.Region renaming ready→ay,wanted→az
open Go.Instr renaming findNow→aA
namespace Go
structure qT(α:Type)
instance{α:Type}:CoeSort (qT α) Type:=⟨λ_=>α⟩
def Y:qT Int:=⟨⟩
def aVw:qT (List Int):=⟨⟩
def aVx:qT (Nat):=⟨⟩
def aVz:qT (List ByteArray):=⟨⟩
def aVC:qT (List Nat):=⟨⟩
def aVD:qT (List (List Int)):=⟨⟩
def aVE:qT (Array Oper):=⟨⟩
def aVH:qT (Bool):=⟨⟩
def aVJ:qT (World):=⟨⟩
def aVM:qT (Program):=⟨⟩
def aVN:qT (TypeId):=⟨⟩
def aVO:qT (List Value):=⟨⟩
def aVP:qT (Oper):=⟨⟩
def aVQ:qT (Value):=⟨⟩
def aVR:qT (Array Bool):=⟨⟩
def aVS:qT (Array Value):=⟨⟩
def aVX:qT (Act):=⟨⟩
def aVY:qT (FuncId):=⟨⟩
def aVZ:qT (Option Nat):=⟨⟩
def aV1:qT (List Bool):=⟨⟩
def aV4:qT (List TypeId):=⟨⟩
def aV5:qT (List Oper):=⟨⟩
def aV6:qT (ByteArray):=⟨⟩
def aV7:qT (Code):=⟨⟩
def aV9:qT (Option Tmp):=⟨⟩
def aWc:qT (Operand):=⟨⟩
def aWd:qT (List Deferred):=⟨⟩
def aWg:qT (Array Operand):=⟨⟩
def aWh:qT (IntKind):=⟨⟩
def aWi:qT (Func):=⟨⟩
def aWk:qT (Option Value):=⟨⟩
def aWl:qT (List MemPlace):=⟨⟩
def aWo:qT (Array TypeId):=⟨⟩
def aWp:qT (Exit):=⟨⟩
def aWs:qT (Array (Nat×Value)):=⟨⟩
def aWt:qT (Array Tmp):=⟨⟩
def aWu:qT (List MapEntry):=⟨⟩
def aWv:qT (Region.Mode):=⟨⟩
def aWw:qT (List (String×DataW Unit)):=⟨⟩
def aWx:qT (Option (Nat×Nat)):=⟨⟩
def aWA:qT (Result Next):=⟨⟩
def aWB:qT (List (Int×(List Int))):=⟨⟩
def aWC:qT (String):=⟨⟩
def aWD:qT (List ResultVar):=⟨⟩
def aWF:qT (List Field):=⟨⟩
abbrev Ab:=@decide_eq_true_eq
abbrev AX:=@Bool.and_eq_true
abbrev AD:=@if_pos
abbrev AE:=@if_neg
abbrev Ah:=@Option.some.injEq
abbrev Ci:=@List.length_replicate
abbrev BI:=@List.length_append
abbrev DI:=@decide_eq_false_iff_not
abbrev Az:=@Prod.mk.injEq
abbrev CT:=@beq_eq_false_iff_ne
abbrev Aq:=@Nat.le_refl
abbrev BH:=@List.all_eq_true
abbrev C4:=@List.length_set
abbrev Bk:=@List.length_cons
abbrev BB:=@List.mem_cons
abbrev DA:=@List.getD_eq_getElem?_getD
abbrev C0:=@Int.toNat_natCast
abbrev CO:=@Int.toNat_of_nonneg
abbrev Bv:=@List.length_nil
abbrev BZ:=@List.mem_append
abbrev Cf:=@Bool.or_eq_true
abbrev Dh:=@List.getElem?_eq_getElem
abbrev Bx:=@List.not_mem_nil
abbrev DH:=@of_decide_eq_true
abbrev Ge:=@Bool.or_eq_false_iff
abbrev Ck:=@Go.run_underlying
abbrev EC:=@List.getElem?_eq_some_iff
abbrev Di:=@List.take_of_length_le
abbrev Cx:=@List.append_assoc
abbrev Dj:=@List.getElem?_map
abbrev Ew:=@List.drop_eq_nil_of_le
abbrev Cg:=@List.mem_filter
abbrev DB:=@Bool.not_eq_true'
abbrev CX:=@List.drop_zero
abbrev B2:=@congrArg
abbrev CY:=@decide_eq_true
abbrev Gc:=@List.getElem?_append_right
abbrev Cz:=@beq_iff_eq
abbrev Ho:=@List.getElem?_append_left
abbrev Hp:=@Array.getElem?_eq_some_iff
abbrev IL:=@Int.tdiv_eq_ediv_of_nonneg
abbrev FN:=@List.length_drop
abbrev D5:=@Bool.false_or
abbrev FO:=@List.getElem?_drop
abbrev Cj:=@Int.le_refl
abbrev ED:=@Option.some.inj
abbrev Lh:=@Int.mul_le_mul_of_nonneg_right
abbrev Eg:=@List.take_length
abbrev ES:=@List.nil_append
abbrev HJ:=@List.mem_singleton
abbrev Gf:=@List.getElem_mem
abbrev Hs:=@List.mem_iff_getElem
abbrev GG:=@List.length_map
abbrev By:=@or_false
abbrev IN:=@Bool.false_eq_true
abbrev ET:=@List.map_cons
abbrev EU:=@Bool.true_and
abbrev F4:=@List.mem_map
abbrev Bp:=@if_true
abbrev Eh:=@Nat.zero_add
abbrev IP:=@Bool.not_eq_false'
abbrev IQ:=@Bool.eq_false_iff
abbrev F5:=@bne_iff_ne
abbrev Gg:=@List.append_nil
abbrev IS:=@List.getElem?_set
abbrev Jl:=@List.map_congr_left
abbrev MV:=@List.length_eq_zero_iff
abbrev MW:=@Go.World.putObj_heap_other
abbrev KJ:=@of_decide_eq_false
abbrev Ht:=@List.cons.injEq
abbrev Iw:=@Bool.eq_iff_iff
abbrev IM:=@decide_eq_false
abbrev QI:=@Int.mul_le_mul_of_nonneg_left
abbrev MT:=@List.length_take
abbrev HI:=@List.map_map
abbrev Fm:=@Int.le_trans
abbrev Hq:=@Nat.add_assoc
abbrev Jk:=@Option.map_some
abbrev Lg:=@List.getElem?_take
abbrev Om:=@List.mem_or_eq_of_mem_set
abbrev xN:=@Array.toArray_toList
abbrev Zi:=@Function.comp_def
abbrev QJ:=@Int.fdiv_eq_ediv_of_nonneg
abbrev QK:=@Array.getElem?_eq_getElem
abbrev QL:=@Int.not_le
abbrev NS:=@Array.toList_map
abbrev KG:=@List.cons_append
abbrev MU:=@ge_iff_le
abbrev Iu:=@List.mem_range
abbrev NT:=@Nat.mul_le_mul_right
abbrev GF:=@Nat.add_mul
abbrev NU:=@List.mem_cons_of_mem
abbrev Iv:=@Int.mul_nonneg
abbrev Hr:=@Nat.le_trans
abbrev KH:=@List.map_append
abbrev KI:=@List.foldl_cons
abbrev QM:=@List.getElem?_replicate
abbrev QG:=@Int.eq_ofNat_of_zero_le
abbrev It:=@List.all_cons
abbrev Oj:=@List.mem_of_getElem?
abbrev Ey:=@Go.mem_ready
abbrev Sq:=@List.drop_eq_getElem_cons
abbrev Ol:=@List.length_pos_iff
abbrev QH:=@List.mem_of_mem_erase
abbrev Ez:=@true_and
abbrev Zh:=@List.take_succ_eq_append_getElem
abbrev FP:=@if_false
abbrev QP:=@List.mem_of_mem_drop
abbrev MX:=@List.nodup_cons
abbrev On:=@Option.bind_some
abbrev NW:=@List.filter_cons
abbrev QQ:=@Bool.not_eq_false
abbrev Sw:=@List.getElem?_eq_none
abbrev Oo:=@beq_self_eq_true
abbrev Oq:=@List.any_eq_true
abbrev Li:=@List.map_nil
abbrev Sy:=@Bool.or_eq_true_iff
abbrev Zs:=@Option.isNone_iff_eq_none
abbrev Zt:=@List.getElem?_toArray
abbrev m7:=@List.eq_nil_iff_forall_not_mem
abbrev Sz:=@List.mem_filterMap
abbrev T0:=@List.mem_replicate
abbrev T1:=@Int.natCast_nonneg
abbrev Zu:=@Option.isSome_iff_exists
abbrev VZ:=@List.erase_cons_tail
abbrev Va:=@List.mem_of_mem_take
abbrev T2:=@List.length_range
abbrev m8:=@Array.getD_eq_getD_getElem?
abbrev Vb:=@Int.ediv_le_self
abbrev QR:=@Bool.false_and
abbrev Zv:=@List.contains_iff_mem
abbrev xV:=@Bool.and_eq_false_iff
abbrev m9:=@List.isEmpty_eq_false_iff
abbrev lh:=@List.pairwise_iff_getElem
abbrev ln:=@Decidable.byContradiction
abbrev lq:=@List.getLastD_eq_getLast?
abbrev Ss:=@List.range_succ
abbrev Su:=@Int.ediv_nonneg
abbrev NV:=@Nat.zero_le
abbrev lr:=@Go.Result.andThen_ok
abbrev Zm:=@List.getElem?_set_ne
abbrev QN:=@Int.sub_zero
abbrev xP:=@List.replicate_append_replicate
abbrev Zn:=@List.replicate_succ
abbrev lu:=@List.getElem?_cons_succ
abbrev Sv:=@Bool.and_false
abbrev xR:=@List.eq_nil_of_length_eq_zero
abbrev QO:=@Nat.lt_or_ge
abbrev Zo:=@Nat.lt_of_lt_of_le
abbrev Zp:=@List.filter_append
abbrev lz:=@Int.mul_ediv_add_emod
abbrev m5:=@List.set_append_right
abbrev Zq:=@Decidable.not_not
abbrev xS:=@Array.getElem?_append_left
abbrev VY:=@Bool.and_assoc
abbrev xU:=@Int.tmod_eq_emod_of_nonneg
abbrev m6:=@List.replicate_succ'
abbrev Zr:=@List.isEmpty_iff
abbrev ao7:=@Array.mem_append
abbrev Zj:=@List.ext_getElem
abbrev Zk:=@Nat.lt_succ_self
abbrev Sr:=@Bool.or_true
abbrev xO:=@Array.mapM_eq_mapM_toList
abbrev lY:=@Array.getElem?_push
abbrev lZ:=@Array.toList_append
abbrev aLq:=@List.getElem?_take_of_lt
abbrev Zl:=@Go.Oper.apart_spec
abbrev lf:=@List.pairwise_cons
abbrev lg:=@List.length_modify
abbrev mI:=@List.getElem_range
abbrev xi:=@Classical.axiomOfChoice
abbrev T5:=@Nat.one_mul
abbrev xj:=@Nat.add_sub_cancel_left
abbrev Ve:=@Go.callsIn_wide
abbrev Vf:=@Nat.ne_of_lt
abbrev xk:=@Array.getElem?_eq_none
abbrev mJ:=@Go.Sem.run_bind
abbrev xm:=@List.Perm.append_right
abbrev mK:=@List.flatMap_cons
abbrev xn:=@List.singleton_append
abbrev xo:=@List.length_filter_le
abbrev xp:=@Go.run_typeAssert_lacksB
abbrev xr:=@Int.mul_tdiv_add_tmod
abbrev mL:=@Option.getD_some
abbrev mM:=@List.nodup_range
abbrev aD:=@List.any_cons
abbrev Ov:=@and_true
abbrev Vg:=@List.map_id
abbrev aLt:=@List.drop_append_of_le_length
abbrev mN:=@List.foldr_cons
abbrev aLu:=@List.replicate_eq_append_iff
abbrev xt:=@Array.length_toList
abbrev xu:=@List.getElem?_range
abbrev xv:=@List.filter_sublist
abbrev xw:=@Nat.add_comm
abbrev Zw:=@Nat.add_zero
abbrev xY:=@Go.Sem.run_pure
abbrev xZ:=@Int.not_lt
abbrev Vc:=@Nat.not_lt
abbrev Ou:=@Ne.symm
abbrev Zx:=@Go.getD_set_ne
abbrev xa:=@Go.run_storeCells_at
abbrev xb:=@List.nodup_append
abbrev xc:=@List.filter_congr
abbrev xd:=@List.Pairwise.map
abbrev xe:=@List.reverse_perm
abbrev Zy:=@Int.add_mul
abbrev Zz:=@Int.one_mul
abbrev mC:=@Bool.and_true
abbrev ao8:=@List.mem_toArray
abbrev xf:=@List.getElem_map
abbrev xg:=@Int.ediv_le_ediv
abbrev mD:=@Nat.le_of_eq
abbrev mE:=@Nat.zero_mul
abbrev mF:=@Go.execOp_congr
abbrev mG:=@List.any_nil
abbrev mH:=@Nat.sub_self
abbrev xh:=@Array.size_push
abbrev T4:=@eq_comm
variable {p:Prop}
def aB(h:p:=by
 have c1:s.i<s.n:=AY
 rw [AJ (x:=s.i+1)];exact ⟨⟨Ac,Ac,h2,h3,hg,(by first|exact l1|(simp only [C4];exact l1)),l2,(by first|exact l3|(simp only [C4];exact l3)),(by first|exact l4|(simp only [C4];exact l4)),(by first|exact l5|(simp only [C4];exact l5))⟩,by simp only [cY];omega⟩):=h
def aC(h:p:=by
 intro s hI;refine ⟨λc1=>⟨?_,?_,?_,ak⟩,λc1=>⟨A9,ak⟩⟩
 all_goals ((obtain ⟨h0,h1,h2,h3,h4⟩:=hI;(try simp only [Ab] at c1);first|omega|(refine ⟨A0,?_,?_⟩<;>simp only [Bk,Bv]<;>omega) |(simp only [BI,Bk,Bv];omega) |exact ⟨rfl,AI⟩ |exact ⟨rfl,rfl⟩))):=h
def aLr(h:p:=by
 have c1:s.k<s.m:=AY
 have c2:=Qv hI c2
 have hp:s.levels.getD (gi s.l s.k).toNat 0=s.level-1/\s.level<=Fe s.B4 (gi s.l s.k) (gi s.most<|gi s.l s.k):=by
  refine ⟨c2,?_⟩
  have h6:=hI.2.2.1
  simp only [DI] at c3;rw [<-h6] at c3;unfold Fe;omega
 have hE:=Wc hI c1 c2
 rcases cq _ hE with ⟨q1,q2⟩ |⟨q1,q2,q3⟩
 ·rw [q1] at c4
  cases c4
 ·rw [q2] at c5
  cases c5):=h
def Lj(h:p:=by
 by_cases hji:(j:Y)<s.i
 ·exact h4 j hji
 ·have:(j:Y)=s.i:=A8
  rw [this];exact hg):=h
def KK(h:p:=by
 rintro s ⟨h0,h1,h2,h3⟩
 exact ⟨A0,A0,h2,h3,λj hj=>A0⟩):=h
def xW(h:p:=by
 refine ⟨rfl,?_⟩;refine acw (by rw [IT];exact h4) λj j0 j1=>?_
 rw [IT] at j1;rw [P4 j0 j1,h5 j j0 A0,AD (show j<s.i by omega)]):=h
def xX(h:p:=by
 refine ⟨hW.mask d1 d2 d3,λb hb=>?_⟩
 rcases hb with hb|⟨k,bk,hk1,hk2,hk3,rfl⟩
 ·exact d1.block b (hW.Bf b hb)<|hW.pI hb
 ·have hkt:k∉tr:=by simpa using hk3
  rw [aDI] at hk1;cases hH:H2[k]? with
  |none=>simp [hH] at hk1
  |some b0=>
   simp only [hH,Jk,Ah,Eh] at hk1;rw [AE<|by simpa using hkt] at hk1
   subst hk1;exact d1.block _ (hW.lt hH hk2)<|hW.ad9 hH hk2 hkt):=h
def T3(h:p:=by
 intro s hI;refine ⟨λc1=>⟨?_,λ_=>trivial,λ_=>trivial⟩,λ_=>trivial⟩
 ·(obtain ⟨h0,h1,h2,h3,h4⟩:=hI;simp at c1;omega)):=h
def mA(h:p:=by
 have hG':(GN (EY H d) l).all (λ_=>True):=aOR
 clear hG
 simp only [C3,R,okV,owns] at*;obtain ⟨ys,h1,h2⟩:=h;exact ⟨ys,h1,Td h2 hk hS λx y hm hx hk' hr=>Mv hW clo d x y (P5 hG' _ hm) hx hk' hr⟩):=h
def QS(h:p:=by
 have c:=F5.1 c
 show LJ _=_
 rw [(oq (by rw [s1];exact c)).1,(oq (by rw [s1];exact c)).2,s1]
 rfl):=h
def mB(h:p:=by
 simp only [Cz,CT,ne_eq,Cf,Ge,Ab,DI,MU,QL] at*;refine fin _ _ ?_ ?_<;>(clear fin w0 w3a w3b w4a w4b;omega)):=h
def aLs(h:p:=by
 have hrun:(execOp a.eval o).run P w=.ok .skip w':=KL
 rw [hrun,<-h2];refine ⟨Z,β,e2,?_,?_,ak,A0,λ_ _=>rfl,λk k1 k2=>A0,by simp only [PD,Er,ho];exact e6⟩
 ·rw [e3];exact hF.mono (Aq _) (λ_ _=>rfl) (λ_ h=>h) e4
 ·simp only [R]):=h
def aF(h:p:=by exact .inl ⟨rfl,λj hj=>h4 j A0⟩):=h
def T7(h:p:=by
 rintro s ⟨h0,h2,h3,h4,h5,h6⟩
 exact ⟨A0,h2,h3,h4,λj j0 j1=>A8,h6⟩):=h
def y9(h:p:=by
 intro s hI;refine ⟨λc1=>⟨?_,?_,?_,?_,ak⟩,λc1=>⟨A9,ak⟩⟩
 all_goals ((obtain ⟨⟨h0,h1⟩,h2,h3,h4,h5,h6⟩:=hI;(try simp only [Ab] at c1);first|omega|exact ⟨rfl,AI⟩ |(omega)))):=h
def mS(h:p:=by
 by_cases e:j=s.i
 ·subst e
  rw [AD rfl,AD (show s.i<s.i+1 by omega)]
  rfl
 ·rw [AE e,h5 j j0 j1]
  by_cases q:j<s.i
  ·omega
  ·omega):=h
def yA(h:p:=by
 have e1:=λw=>run_sizeOf hsz w
 have e2:=λw=>oz hz w
 have n1:¬(len*m>2^24):=A0
 have n2:¬(len*m=0):=A0
 simp only [Instr.buildSlice,mJ,Ck hu,lr,e1,AE n1,AE n2,e2,xY,f1,newRow];rfl):=h
def aMH(h:p:=by
 have hrun:(execOp a.eval o).run P w=.ok (.value<|.map<|ah w.heap.size) (w.alloc<|.map #[] 0):=by simp [execOp,ho,Instr.makeMap]
 rw [hrun,<-h1,<-h2];refine ⟨Z,β',b3,hF.mono AI b1 (λ_ h=>h) λb hz=>EE b4<|hW.Bf b hz,?_,?_,AI,b1,λk k1 k2=>?_,Nc b4⟩
 ·simp only [R,b2]
 ·simp [okV]
 ·have:k=M H:=by simp at k2;omega
  rw [this,b2];exact .inl<|Aq _):=h
def mT(h:p:=by
 simp only [Cz,CT,ne_eq,Cf,Ge,Ab,DI,MU,QL] at*;refine fin _ _ ?_ ?_<;>(clear fin w1a w1b w1c w3a w3b w4a w4b;omega)):=h
def aMI(h:p:=by
 simp only [Cz,CT,ne_eq,Cf,Ge,Ab,DI,MU,QL] at*;refine fin _ _ ?_ ?_<;>(clear fin w0 w1a w1b w1c w4a w4b;omega)):=h
def aMJ(h:p:=by
 simp only [Cz,CT,ne_eq,Cf,Ge,Ab,DI,MU,QL] at*;refine fin _ _ ?_ ?_<;>(clear fin w0 w1a w1b w1c w3a w3b;omega)):=h
def NY(h:p:=by obtain ⟨h1,h2⟩:=same h;exact gen h1 h2):=h
def Vh(h:p:=by
 simp only [renV,R] at*;rw [(h.at<|ho k Iy).1];exact hr):=h
def T8(h:p:=by exact ⟨False,.junk,GJ,λH K=>by simp [T.all]⟩):=h
def aG(h:p:=by
 split at h
 ·simp only [T.all,Az] at h
  rw [<-h.2];exact EvL.app _ _
 ·cases h):=h
def mU(h:p:=by
 simp only [renV,R,owns,okV] at*;obtain ⟨ys,h1,h2⟩:=hr;exact ⟨ys,h1,ren_RL h l _ ho hok h2⟩):=h
def yB(h:p:=by
 intro s hI;refine ⟨λc1=>⟨?_,?_,λ_=>trivial,λ_=>trivial⟩,λ_=>trivial⟩
 all_goals ((obtain ⟨h0,h1,h2,h3,h4⟩:=hI;simp at c1;omega))):=h
def T9(h:p:=by
 have c1:s.n<=s.i:=A8
 exact ⟨rfl,A0⟩):=h
def aH(h:p:=by exact val h2 (v:=z) KL e2 e3):=h
def aI(h:p:=by
 rintro s ⟨h0,h1,h2,h3⟩
 exact ⟨A0,A0,h1,h2,A0⟩):=h
def mV(h:p:=by
 simp only [R,okV] at*;obtain ⟨ys,h1,h2⟩:=h;exact ⟨ys,h1,RL.mono hβ hZ hw l _ hk h2⟩):=h
def aMK(h:p:=by
 split at h
 ·simp only [owns,HJ] at hk
  split at h
  ·rename_i hb
   split at h
   ·grind
   ·cases h
  ·cases h
 ·simp [owns] at hk
 ·simp only [owns,HJ] at hk
  subst hk;split at h
  ·rename_i hb;exact ⟨⟨_,hb,hr.1⟩,.inr ⟨_,_,_,rfl⟩⟩
  ·cases h
 ·cases h):=h
def aML(h:p:=by
 unfold U9
 (rw [AJ,h5] at c2;unfold koV;revert c2;generalize inB (Ob s.l s.i).2.1 _ _=a;generalize inB (Ob s.l s.i).2.2.1 _ _=b;generalize inB (Ob s.l s.i).2.2.2 _ _=c;generalize List.contains (α:=Int) _ _=d;cases a<;>cases b<;>cases c<;>cases d<;>simp)):=h
def yC(h:p:=by
 split at h
 ·split at h
  ·rename_i hg
   rw [AD hg];rw [T.all_bind] at h|-;exact T.Bb (λq hq=>hh _ _ hq) h
  ·cases h
 ·cases h):=h
def aJ(h:p:=by
 rename_i ho;rcases h with h|h
 ·simp [En,ho] at h
 ·simp [Ie,ho] at h):=h
def aK(h:p:=by
 rename_i ho;rcases h with h|h
 ·simp [NI,ho] at h
 ·simp [Ie,ho] at h):=h
def mW(h:p:=by
 refine ⟨c2,?_⟩
 have h6:=hI.2.2.1
 simp only [DI] at c3;rw [<-h6] at c3;unfold Fe;omega):=h
def aMM(h:p:=by
 have hh':w'.heap[r]? =ah (.map es clock):=aPA
 have hget:(getObj r).run P w'=.ok (.map es clock) w':=nB
 have hz0:=λw=>oz hz w
 simp [Instr.lookup,Ck hu,hy,hget,ot hku,Instr.findKey,Ck hku,hzq,q1,hz0]):=h
def mO(h:p:=by
 simp only [R,owns,okV] at*;obtain ⟨ys,h1,h2⟩:=h;exact ⟨ys,h1,RL.Kx l _ hj hk h2⟩):=h
def aM3(h:p:=by
 rw [hrun,<-h1,<-h2];refine ⟨Z,β',b3,hF.mono AI b1 (λ_ h=>h) b4,?_,?_,AI,b1,λk k1 k2=>?_,Nc<|(Below.refl _ _).alloc (Aq _) _⟩
 ·simp only [R,b2]
 ·simp [okV]
 ·have:k=M H:=by simp at k2;omega
  rw [this,b2];exact .inl<|Aq _):=h
def aM4(h:p:=by
 have:=e1 w' λb hb=>(hD w' hw').2 b (by
  rcases hb with hb|⟨k,e4,e5⟩
  ·exact .inl hb
  ·obtain ⟨bk,l1,l2⟩:=hlv k e4
   refine .inr ⟨k,bk,l1,l2,?_,e5⟩;unfold tC at hap;simp only [ho,e4] at hap
   simpa using hap)
 simp [execOp,ho,this]):=h
def mP(h:p:=by rw [Fo<|hl x FQ]):=h
def aE(h:p:=by
 rintro s ⟨h0,h1,h2,h3⟩
 exact ⟨A0,A0,h1,h2,h3⟩):=h
def aM5(h:p:=by
 rw [show (s.i+1).toNat=s.i.toNat+1 by omega,E0,<-h5]
 have e1:s.o.getD s.i.toNat (Ty.dflt Af)=Ae s.o (s.i.toNat:Y):=by
  rw [DA,Dh A0];rw [show Ae s.o (s.i.toNat:Y)=s.o[s.i.toNat]' A0 from Qw A0];rfl
 rw [e1];rfl):=h
def NX(h:p:=by rename_i ho;simp [isSp,ho] at hsp):=h
def T6(h:p:=by
 have c1:s.n<=s.i:=AY
 exact aF):=h
def xy(h:p:=by
 have:=adh (P:=P) (G:=G) (Γ:=λ_=>aj) (F:=F) (y:=y) h
 unfold pux at this;unfold hpx;simp only [ho] at this|-;exact this):=h
def aM6(h:p:=by
 obtain ⟨_,⟨h2,h3,h4,h5⟩,_⟩:=hI
 have c2:((s.levels.getD (gi s.l s.k).toNat 0) !=(AA<|s.level-1))=true:=c2
 rw [AJ (x:=s.level-1)] at c2
 have c2:¬s.levels.getD (gi s.l s.k).toNat 0=s.level-1:=EX
 exact c2 h.1):=h
def xz(h:p:=by
 have:=V7 (β:=β) (Z:=Z) (w:=w)<|(au<|len*m).map λi=>z.cells[i%z.cells.size]!
 simpa [HI,Zi] using this):=h
def mQ(h:p:=by
 simp only [R] at*;obtain ⟨ys,h1,h2⟩:=hh;exact ⟨ys,h1,RL.shut h o' l _ h2⟩):=h
def aM7(h:p:=by
 simp only [R];refine ⟨_,rfl,?_⟩;simp only [NS];refine RL.CZ AI λi x hx=>?_
 rw [Dj] at hx|-;cases hq:first.toList[i]? with
 |none=>simp [hq] at hx
 |some q=>simp [hq] at hx;subst hx;exact ⟨a.eval q,AI,(ev q).1⟩):=h
def aM8(h:p:=by
 have hh':w'.heap[r]? =ah (.map es clock):=aPA
 have hget:(getObj r).run P w'=.ok (.map es clock) w':=nB
 simp [Instr.lookup,Ck hu,hy,hget,ot hku,Instr.findKey,Ck hku,hzq,q1]):=h
def aM9(h:p:=by
 simp only [R];refine ⟨_,rfl,?_⟩;simp only [NS];refine RL.CZ AI λi x hx=>?_
 rw [Dj] at hx|-;cases hq:cap.toList[i]? with
 |none=>simp [hq] at hx
 |some q=>simp [hq] at hx;subst hx;exact ⟨a.eval q,AI,(ev q).1⟩):=h
def aMA(h:p:=by
 rw [AD (show Ff (Bg s.p.ca s.i) (CD s.p.mi s.i) (AF s.p.gs s.i).2.2.1 (Be (AF s.p.gs s.i)<|BF s.p.st s.i)>Be (AF s.p.gs s.i) (BF s.p.st s.i) from DH c5)];rw [show CW s.p.gs s.p.st s.i 6 2 0=_ from AD<|eq_of_beq c6];rfl):=h
def aMB(h:p:=by
 rw [AD (show Ff (Bg s.p.ca s.i) (CD s.p.mi s.i) (AF s.p.gs s.i).2.2.1 (Be (AF s.p.gs s.i)<|BF s.p.st s.i)>Be (AF s.p.gs s.i) (BF s.p.st s.i) from DH c5)];rw [show CW s.p.gs s.p.st s.i 6 2 0=_ from AE<|CT.1 c6];rfl):=h
def Ow(h:p:=by exact Jo us F H Z β F1 H1 hW hF h):=h
def y6(h:p:=by
 simp only [Br] at hx;cases j with
 |zero=>simp at hx;subst hx;exact ⟨_,h,Jm⟩
 |succ j=>simp at hx):=h
def aMC(h:p:=by
 rename_i f l hl;simp only [T.all,Az] at h;rw [hl] at hx
 have hx1:=hx.1
 simp only [R] at hx1;obtain ⟨ys,e1,_⟩:=hx1;refine val h.2.symm (v:=a.eval x) KL ?_ ?_<;>rw [<-h.1]
 ·exact hx.1
 ·exact hx.2):=h
def aMD(h:p:=by
 rename_i f l hl;simp only [T.all,Az] at h;rw [hl] at hx
 have hx1:=hx.1
 simp only [R] at hx1;obtain ⟨ys,e1,_⟩:=hx1;refine val (v:=a.eval x) (λw' _=>KL) ?_ ?_<;>rw [<-h.1]
 ·exact hx.1
 ·exact hx.2):=h
def aME(h:p:=by
 obtain ⟨a,cap,h1,h2,h3⟩:=h;refine ⟨a,cap,by rw [<-h1];exact hb 0 bF,h2,λhn=>?_⟩
 obtain ⟨b',o',h4,h5,h6⟩:=h3 hn;exact ⟨b',o',h4,hZ _ h5,λi d hd=>RD.mono hZ hw e d b' _ h5<|h6 i d hd⟩):=h
def aMF(h:p:=by
 have h0:=qF hs (k:=k) A0
 have e1:gi (Bt p.gs) k=CV (AF p.gs k):=P4 A0 A0
 have e2:gi (GP (M p.gs) [] p.tk) k=0:=Kd
 rw [Tb A0 A0,e1,e2];rw [e1] at h0;unfold mx;split<;>omega):=h
def y7(h:p:=by
 obtain ⟨_,⟨cs,f2,f3⟩,_⟩:=qy hW hb hcl;refine ⟨cs,f2,?_⟩
 have:=RL.length f3
 simpa using this):=h
def aMG(h:p:=by
 rename_i t m i x ho;obtain ⟨H1,h1,h2⟩:=T.B5 h;simp only [T.all,Az] at h2;obtain ⟨h2,h3⟩:=h2;subst h3;obtain ⟨w',e1,e2,e3,e4,e6⟩:=adg hW h1 (ev m).1 (ev i).1 (ev x).1 (ev x).2;exact aLs):=h
def y8(h:p:=by
 show MN _ _ _=MN _ _ _
 rw [Iw];unfold MN;simp only [Cz,CT,ne_eq] at*;simp only [AX,Cf,Ab];omega):=h
def aLv(h:p:=by
 rw [hrun];refine ⟨Z,β',e4,hF.mono A0 e3 (λ_ h=>h) λb hz=>EE e2<|hW.Bf b hz,e5,e6,A0,e3,λk k1 k2=>?_,Nc e2⟩
 have:k=M H:=A0
 rw [this,e8];exact .inl<|Aq _):=h
def aLw(h:p:=by
 refine RL.CZ AI λi x hx=>?_
 rw [NS,Dj];cases hq:args.toList[i]? with
 |none=>simp [hq] at hx
 |some q=>simp [hq] at hx;subst hx;exact ⟨a.eval q,AI,PH (hF.eval hW.Cl q).1⟩):=h
def aLx(h:p:=by
 simp only [T.all,Az] at h;rw [hl] at hx
 have hx1:=hx.1
 simp only [R] at hx1;refine val h.2.symm (v:=a.eval x) (by simp [execOp,ho,hx1]) ?_ ?_<;>rw [<-h.1]
 ·exact hx.1
 ·exact hx.2):=h
def QT(h:p:=by
 simp [BO,BM,CU,hv,EW.ev,h]
 grind):=h
def aLy(h:p:=by
 simp only [T.all,Az] at h;rw [hl] at hx
 have hx1:=hx.1
 simp only [R] at hx1;refine val (v:=a.eval x) (λw' _=>by simp [execOp,ho,hx1]) ?_ ?_<;>rw [<-h.1]
 ·exact hx.1
 ·exact hx.2):=h
def xx(h:p:=by
 rw [hg] at hq;simp only [IN,FP] at hq;rw [hq];exact .inr ⟨rfl,rfl,rfl,rfl,rfl,rfl,rfl⟩):=h
def aLz(h:p:=by
 intro s hI;refine ⟨λc1=>⟨?_,λc2=>⟨A9,ak⟩,λc2=>⟨A9,ak⟩⟩,λc1=>⟨A9,ak⟩⟩
 ·(obtain ⟨h0,h1,h2,h3⟩:=hI;simp only [Ab] at c1;omega)):=h
def aM0(h:p:=by
 refine AT.CZ λi x hx=>?_
 rw [Dj] at hx;cases hq:(vs.map (·.2))[i]? with
 |none=>simp [hq] at hx
 |some q=>simp [hq] at hx;subst hx;exact Qh H hH 6 _<|AT.get i q hoka hq):=h
def aM1(h:p:=by
 rw [JE h0 A0 j0,afJ h0 A0 j0]
 by_cases e:j=s.i
 ·subst e
  rw [AD rfl,AD rfl,hx',hy'];exact ⟨rfl,rfl⟩
 ·rw [AE e,AE e]
  exact hA j j0 A0):=h
def aM2(h:p:=by
 rw [AE (show ¬Ff (Bg s.p.ca s.i) (CD s.p.mi s.i) (AF s.p.gs s.i).2.2.1 (Be (AF s.p.gs s.i)<|BF s.p.st s.i)>Be (AF s.p.gs s.i) (BF s.p.st s.i) from KJ c5)];rfl):=h
def mf(h:p:=by
 rintro s ⟨h0,h1,h2⟩
 exact ⟨A0,A0,h1,h2⟩):=h
def aMm(h:p:=by
 have c1:s.i<s.k:=AY
 refine .inr ⟨rfl,rfl,s.i.toNat,Ac,?_⟩
 have hg:X6 s s.i=false:=aOT
 exact hg):=h
def aMn(h:p:=by (have hx:=Qy s hI AY;obtain ⟨w1,w2⟩:=iI hI<|Qv hI c2;have hh:=IU.1<|hI.2.2.2.1.has _ hx.1;have hb:=hI.2.1;(first|rw [w2] |rw [w1]);omega)):=h
def aL(h:p:=by
 rw [q3,hn,hl,Ew A0,hE.1] at hk
 grind):=h
def aMo(h:p:=by
 simp only [okV];refine AT.CZ λi x hx=>?_
 rw [Dj] at hx;cases hq:first.toList[i]? with
 |none=>simp [hq] at hx
 |some q=>simp [hq] at hx;subst hx;exact (ev q).2):=h
def aMp(h:p:=by
 refine ⟨hc.rw,?_,hc.near,hc.len,hc.old,hc.new,hc.KA⟩;exact hF1'.mono (Aq _) (λ_ _=>rfl) (λ_ h=>h) λb hz=>hc.near.block b (hW.Bf b hz)<|hW.pI hz):=h
def aMq(h:p:=by
 simp only [okV];refine AT.CZ λi x hx=>?_
 rw [Dj] at hx;cases hq:cap.toList[i]? with
 |none=>simp [hq] at hx
 |some q=>simp [hq] at hx;subst hx;exact (ev q).2):=h
def aMr(h:p:=by
 split at h
 ·split at h
  ·split at h
   ·simp only at h
    split at h
    ·rename_i hb;exact ⟨_,hb,ak⟩
    ·cases h
   ·cases h
  ·cases h
 ·cases h):=h
def mg(h:p:=by exact val (v:=z) (λw' _=>KL) e2 e3):=h
def aMs(h:p:=by
 have c1:s.t11<3:=AY
 rw [AJ (x:=s.t11+1)];exact ⟨⟨ht,⟨Ac,Ac⟩,h1,h2⟩,by simp only [ff];omega⟩):=h
def aMt(h:p:=by
 generalize B8 (p.tk+1) (gi p.dr j)=x at*;generalize B8 p.tk (gi p.dr j)=y at*;generalize B8 (T+4) (gi p.dr j)=z at*
 clear this s1
 split<;>split<;>omega):=h
def aMu(h:p:=by
 rename_i x ho;simp only [T.all,Az] at h;refine val h.2.symm (v:=a.eval x) (by simp [execOp,ho]) ?_ ?_<;>rw [<-h.1]
 ·exact (ev x).1
 ·exact (ev x).2):=h
def aMv(h:p:=by
 intro s hI;refine ⟨λc1=>⟨?_,λ_=>trivial,λ_=>trivial⟩,λ_=>trivial⟩
 ·(obtain ⟨⟨h0,h1⟩,h2,h3,h4⟩:=hI;simp only [Ab] at c1;omega)):=h
def aMw(h:p:=by
 rename_i x ho;simp only [T.all,Az] at h;refine val (v:=a.eval x) (λw' _=>by simp [execOp,ho]) ?_ ?_<;>rw [<-h.1]
 ·exact (ev x).1
 ·exact (ev x).2):=h
def aM(h:p:=by
 show (w.heap.push _)[w.heap.size]? =_
 simp):=h
def Dz(h:p:=by simp only [R]):=h
def aMx(h:p:=by
 refine AT.CZ λi x hx=>?_
 cases hq:args.toList[i]? with
 |none=>simp [hq] at hx
 |some q=>simp [hq] at hx;subst hx;exact Tc (hF.eval hW.Cl q).2):=h
def yJ(h:p:=by
 simp only [Ty.n] at hj
 have:j=0:=A0
 subst this;exact ⟨_,h,rfl⟩):=h
def aMy(h:p:=by
 unfold R5;split
 ·rename_i op t x z _ ho
  simp only [e x FQ,e z FQ]
 ·rfl):=h
def yK(h:p:=by
 unfold MN;simp only [Cz,CT,ne_eq] at*;simp only [xV,Ge,DI];omega):=h
def aMz(h:p:=by
 refine .inr ⟨q1,q2,?_⟩;rw [IQ];intro hx
 have:=(Qp (d:=(0:Y))).2 hx j A0
 exact Bool.noConfusion<|this.symm.trans q4):=h
def aN0(h:p:=by rw [adk<|Fo<|hl q.2 aNp]):=h
def aN(h:p:=by
 have c1:s.k<=s.i:=A8
 exact xW):=h
def aN1(h:p:=by
 rw [e8.block k A0 λhm=>?_]
 ·exact hc.near.block k hk hn
 ·rcases hc.touch hst hm with h|h
  ·omega
  ·exact hn h):=h
def mh(h:p:=by
 have c1:s.m<=s.i:=AY
 exact aF):=h
def mj(h:p:=by (have hx:=Qy s hI AY;omega)):=h
def mY(h:p:=by
 rintro s ⟨h0,h1⟩
 exact ⟨A0,h1⟩):=h
def yE(h:p:=by
 obtain ⟨y,zs,rfl,rfl,_⟩:=h;simp only [RD];exact hc 0 _ rfl):=h
def aMU(h:p:=by
 rename_i t m i x ho;unfold Ax at h;simp only [ho] at h;obtain ⟨H1,h1,h2⟩:=T.B5 h;obtain ⟨_,rfl⟩:=h2;exact afI h1):=h
def aMV(h:p:=by
 have:(j:Y)=s.i:=mz
 rw [this];exact hg):=h
def yF(h:p:=by
 rw [q1,q2,PA j q3 q4];exact ⟨λ_=>rfl,λc=>F6⟩):=h
def aMW(h:p:=by
 have:Cm (r::rs) (x-i)=Cm rs (x-(i+1)):=by
  unfold Cm;rw [show (x-i).toNat=(x-(i+1)).toNat+1 by omega]
  simp
 grind):=h
def aMX(h:p:=by
 split
 ·rename_i cs _
  exact ⟨True,.own k 0,⟨cs,t,.cl,X⟩,λH K=>aOz⟩
 ·exact T8):=h
def aMY(h:p:=by
 go_enter func223,Tryz.ntmps223
 go_wp2
 refine wp_loop_rounds 1 ?_;rw [rounds_succ]
 go_wp2
 go_ret
 exact ⟨rfl,rfl⟩):=h
def yG(h:p:=by simp only [Ah] at hx;subst hx;simp only [R] at h1;rw [h1]):=h
def aMZ(h:p:=by
 have c1:s.i<s.n:=A8
 rw [AJ (x:=s.i+1)];exact ⟨⟨A8,A8,h2,h3⟩,by simp only [wS];omega⟩):=h
def aMa(h:p:=by
 simp only [Cz,CT,ne_eq,Cf,Ge,Ab,DI,MU,QL] at*
 (first|decide|(clear fin w0 w1a w1b w1c w4a w4b;omega))):=h
def aMb(h:p:=by
 split
 ·exact ⟨go _<|cQ h hdd _,pass _<|cQ h hdd _⟩
 ·exact ⟨pass _<|cQ h hdd _,go _<|cQ h hdd _⟩):=h
def aMc(h:p:=by
 rename_i x ho;unfold Ax at hs;simp only [ho,T.all,Az] at hs;exact other _ hs.1.symm hs.2.symm λj hj=>TF hj):=h
def aMd(h:p:=by
 split at hx
 ·obtain ⟨rfl,_,hx⟩:=hx;exact ⟨_,_,hx⟩
 ·obtain ⟨_,ad,hx,_⟩:=hx;exact ⟨_,_,hx⟩):=h
def mZ(h:p:=by rw [c] at f g x|-;exact ⟨f,g,x,h.kp⟩):=h
def aMe(h:p:=by
 split at hx
 ·rename_i hk;subst hk;simp only [Ah] at hx;subst hx;simp only [R] at h1;rw [h1]
 ·cases hx):=h
def aMf(h:p:=by exact qT s _ hI AY aPY rfl rfl rfl rfl rfl rfl rfl rfl rfl rfl):=h
def aMg(h:p:=by exact qS s _ hI AY aPY rfl rfl rfl rfl rfl rfl rfl rfl rfl rfl):=h
def aMh(h:p:=by
 split
 ·rename_i zs hz
  simp only [R]
  have:=aQF hz h
  rw [<-this]
 ·simp only [R];exact ⟨ys,rfl,aFd h⟩):=h
def aMi(h:p:=by
 refine (afH _ A6).2.trans ?_;rw [h7]
 show FE _ 0 _ ((M s.p.AK.tg:Y)-0).toNat=_
 rw [QN,C0,aoJ];rfl):=h
def aMj(h:p:=by
 refine AH (λc5=>?_) λc5=>?_
 ·refine AH (λc6=>?_) (λc6=>?_)
  ·exact aB
  ·exact aB
 ·exact aB):=h
def NZ(h:p:=by exact gen<|same h):=h
def aMk(h:p:=by
 rename_i x ho;refine ⟨True,AM G F x,aj,λH K=>?_⟩
 unfold ID Ax;rw [h1,h2]
 simp [ho,T.all,putAt]):=h
def yH(h:p:=by
 rw [AE e,h5 j j0 j1]
 by_cases q:j<s.i
 ·omega
 ·omega):=h
def yI(h:p:=by
 rintro s ⟨h0,h2⟩
 exact ⟨A0,A0,h2⟩):=h
def aMl(h:p:=by
 rintro s ⟨h0,h1,h2,h3,h4⟩
 exact ⟨A0,A0,h2,h3,h4,GH,λj hj=>A0⟩):=h
def aMN(h:p:=by
 have:=U2 n<|(au<|len*m).map λi=>z.cells[i%z.cells.size]!
 simpa [HI,Zi] using this):=h
def aMO(h:p:=by
 rw [KN];exact hF.mono (Aq _) (λ_ _=>rfl) (λ_ h=> .inl<|.inl h) λb hz=>EE hbw<|hW.Bf b hz):=h
def yD(h:p:=by
 simp only [AX,Cz] at hcalm
 simpa using hcalm.1.1.2):=h
def aMP(h:p:=by
 unfold IB;split
 ·rename_i hc
  split
  ·rw [JE h.1 h.2 hj]
   split
   ·grind
   ·omega
  ·omega
 ·omega):=h
def aMQ(h:p:=by exact ⟨⟨Ac,Ac,h2,h3,h4,h5,h6⟩,by simp only [fg];omega⟩):=h
def aMR(h:p:=by
 simp only [C3];exact R.mono (n:=M H) (λ_ _=>rfl) (λ_ h=> .inl h) (λ_ _=>rfl) _ _ hk h):=h
def aMS(h:p:=by
 obtain ⟨_,_,h6,_⟩:=hI;simp only [Ab] at c3;rw [<-h6] at c3
 have:=h.2
 unfold Fe at this;omega):=h
def mX(h:p:=by exact .inr<|.inr<|.inr<|.inr rfl):=h
def Vi(h:p:=by exact ⟨rfl,A0⟩):=h
def aMT(h:p:=by
 rintro s ⟨ht,h0,h1,h2,h3⟩
 exact ⟨ht,⟨A0,A0⟩,h1,A8,A8⟩):=h
def mm(h:p:=by
 unfold hpx;simp only [ho];exact mP):=h
def aNU(h:p:=by
 rw [IL A0,show (M fl:Y) / 2=((M fl / 2:aVx):Y) by omega]
 exact AJ):=h
def aNV(h:p:=by
 have h1:(0:Y)<=(x:Y)/\(x:Y)<=(y:Y):=A0
 simp [Instr.sliceBound,asIntOf,h1]):=h
def aNW(h:p:=by
 unfold HZ;rw [AD,AD]
 ·exact ⟨rfl,rfl⟩
 ·rw [AX,BS,BS];omega
 ·rw [AX,BS,BS];omega):=h
def TA(h:p:=by
 simp only [ho];rw [e]):=h
def aNX(h:p:=by
 rename_i x ho;unfold Ax;simp only [ho];rw [Fo<|hl x FQ];rfl):=h
def aNY(h:p:=by exact R.mono (n:=0) (λ_ hk=>absurd hk A0) (λ_ h=>h) (λ_ _=>rfl) _ _ hk hr):=h
def aNZ(h:p:=by
 subst h;exact EvL.set hb ⟨λhc=>zD,λ_ _ _=>trivial,λh=>h⟩):=h
def aNa(h:p:=by
 have c1:s.n<=s.i:=AY
 exact .inl ⟨rfl,λj hj=>h6 j A0⟩):=h
def aNb(h:p:=by
 rcases hz with hz|⟨k,bk,_,h2,h3,rfl⟩
 ·exact hW.Bf b hz
 ·exact hW.lt h2 h3):=h
def aNc(h:p:=by
 simp only [canX,R] at h|-;obtain ⟨ys,h1,h2⟩:=h;exact ⟨ys,h1,canL_R h2⟩):=h
def aNd(h:p:=by
 rw [hj.VA,hj.cl]
 have:MS 512 fl (B1 x)=false:=MZ
 rw [this];rfl):=h
def yR(h:p:=by
 rcases BB.1 hi with e|e
 ·grind
 ·exact e):=h
def QU(h:p:=by simpa using this):=h
def yS(h:p:=by exact ⟨Z2,β2,c1,c2,by rw [c3];simp⟩):=h
def aNe(h:p:=by
 rw [KN];exact hF.mono (Aq _) (λ_ _=>rfl) (λ_ h=> .inl h) λ_ _=>rfl):=h
def aNf(h:p:=by exact main _ es clock _ _ hr g1 g2 g3 hl b2.2 h<|.inr ⟨k,rfl,rfl⟩):=h
def aNg(h:p:=by
 simp only [R,Value.func.injEq,Fn.yield.injEq] at this;exact this.1.symm):=h
def aNh(h:p:=by
 split
 ·omega
 ·have:=qR (x:=a-mi) (st:=st) A0 A0
  omega):=h
def aNi(h:p:=by exact EvL.set hb ⟨λhc=>zD,λ_ _ h=>h,λh=>h⟩):=h
def yT(h:p:=by exact ⟨A0,A0,h2,h3,h4⟩):=h
def aNj(h:p:=by
 rw [AD q2,Ho DJ,Gc DJ]
 congr 1
 simp
 omega):=h
def aNk(h:p:=by
 have:=IU.1 h
 have:=qR (x:=ma-mi) (st:=st) A0 A0
 omega):=h
def aNl(h:p:=by
 unfold G4 MQ at this;simp only [AX,BS] at this;exact IU.2 A0):=h
def yU(h:p:=by
 intro _ _ _ _ _ _ _ _ _ h;exact h.elim):=h
def aNm(h:p:=by
 obtain ⟨h1,h2⟩:=pO b fs (k+1) i h;refine ⟨A0,?_⟩
 grind):=h
def yM(h:p:=by rw [<-h];exact WT<|by simpa using f2):=h
def ml(h:p:=by
 split at h
 ·grind
 ·cases h):=h
def aNB(h:p:=by
 split at h
 ·rename_i hkk
  simp only [R,okV] at hr hk
  grind
 ·cases h):=h
def aNC(h:p:=by
 rcases q2 with e2|e2<;>rw [e2] at hy
 ·exact hy
 ·exact aFa.subset hy):=h
def aND(h:p:=by
 rw [AD q1];simp only [Zt,Cx];rw [Ho DJ,aLq q1]
 simp):=h
def aNE(h:p:=by
 rintro s ⟨h0,h1,h2⟩
 exact ⟨A0,yv,h2⟩):=h
def aNF(h:p:=by
 obtain ⟨j,⟨h0,h1⟩,rfl⟩:=aEU ha
 have:=fh<|h.ch h0 h1
 omega):=h
def yN(h:p:=by
 have e1:=e1 w λ_ _=>rfl
 exact aH):=h
def aNG(h:p:=by
 rw [hv] at s2;rw [acu hg hd s2,AE AI];exact passOk F hF h):=h
def aNH(h:p:=by
 have:fs.toList[M fpre]? =ah f:=by rw [e1];simp
 exact QU):=h
def aNI(h:p:=by (obtain ⟨h0,h1,h2,h3,h4⟩:=hI;simp only [Ab] at c1;omega)):=h
def aNJ(h:p:=by
 rintro s ⟨h0,h2,h3,h4,h5⟩
 exact ⟨A0,h2,h3,h4,h5⟩):=h
def aNK(h:p:=by
 have:es=[]:=GH
 subst this;exact .inr ⟨rfl,h.symm⟩):=h
def aNL(h:p:=by exact ext q g n.toNat A0 hle A0 hr hk h.symm):=h
def aNM(h:p:=by
 obtain ⟨x,h1,h2⟩:=T.B5 h;simp only [T.all,Az] at h2
 grind):=h
def yO(h:p:=by rw [hl];simpa only [okV] using hk):=h
def aNN(h:p:=by exact val (v:=z) (λw' _=>aOy) f2 f3):=h
def aO(h:p:=by
 split
 ·grind
 ·grind):=h
def aNO(h:p:=by
 have:=h.2
 unfold JY at this;split at this
 ·assumption
 ·omega):=h
def yP(h:p:=by
 split at h
 ·cases h;rfl
 ·cases h):=h
def aNP(h:p:=by
 rintro s ⟨h0,h2,h3⟩
 exact ⟨A0,A0,h2,h3⟩):=h
def aNQ(h:p:=by
 have:es=[]:=GH
 subst this;exact .inr ⟨rfl,rfl⟩):=h
def yQ(h:p:=by rename_i hc;exact absurd hc hcap):=h
def aNR(h:p:=by
 have hG':=hG
 simp only [GX,EY,hb,T.all] at hG';exact hG'.1):=h
def aNS(h:p:=by
 simp only [T.all,Az] at h;rw [<-h.2.2];exact EvL.app _ _):=h
def aNT(h:p:=by exact ⟨rp hI AY<|Qv hI c2,rfl,rfl⟩):=h
def aN2(h:p:=by
 unfold hpx;simp only [ho];rw [pG (λcs b e=>A8) h]):=h
def aN3(h:p:=by
 rintro s ⟨h0,h2,h3,h4⟩
 exact ⟨A0,h2,h3,h4⟩):=h
def aN4(h:p:=by
 unfold az;simp only [yielded,hd,On,hv]
 grind):=h
def aN5(h:p:=by rename_i x ho;rw [e x FQ]):=h
def aN6(h:p:=by rw [AE hs];exact ⟨λh=>h.elim,λh=>absurd h.1 hs⟩):=h
def aN7(h:p:=by
 unfold PK.isC at hh;simp only [ne_eq,QQ,BS] at hh;omega):=h
def aN8(h:p:=by exact val h2 (v:=z) aOy f2 f3):=h
def aN9(h:p:=by
 refine AH (λc6=>?_) λc6=>?_
 ·exact aLr
 ·exact aLr):=h
def aNA(h:p:=by
 rw [Lg] at hv;split at hv
 ·exact hc j v hv
 ·cases hv):=h
def yL(h:p:=by exact .inr ⟨i',.inl h1,h2⟩):=h
def aNu(h:p:=by
 simp [IntKind.wrap,IntKind.bits,IntKind.signed]
 omega):=h
def mw(h:p:=by
 unfold mx;split<;>omega):=h
def aNv(h:p:=by
 rcases mem_set hm with hm|rfl
 ·exact h.mi m hm
 ·simp):=h
def aNw(h:p:=by
 refine ⟨λc7=>?_,λc7=>?_⟩
 ·exact mB
 ·exact mB):=h
def aNx(h:p:=by
 refine ⟨λc7=>?_,λc7=>?_⟩
 ·exact aMI
 ·exact aMI):=h
def aNy(h:p:=by
 refine ⟨λc8=>?_,λc8=>?_⟩
 ·exact aMJ
 ·exact aMJ):=h
def aNz(h:p:=by exact T.Bb (λz hz=>by simp only [T.all];rw [hz]) h):=h
def yV(h:p:=by
 obtain ⟨h1,h2⟩:=adb h
 grind):=h
def aO0(h:p:=by
 refine AH (λc6=>?_) λc6=>?_
 ·cases c5
 ·cases c5):=h
def aO1(h:p:=by
 rw [BI]
 show s.n+1-((M s.D2+1:aVx):Y)=_
 omega):=h
def yW(h:p:=by
 rw [bad he Aa,he];rfl):=h
def aO2(h:p:=by
 by_cases hji:(j:Y)<s.i
 ·exact h6 j hji
 ·exact aMV):=h
def A0(h:p:=by omega):=h
def A8(h:p:=by grind):=h
def Dk(h:p:=by first|omega|exact ⟨rfl,rfl⟩ |exact ⟨rfl,by simp⟩ |exact ⟨by simp,by simp⟩ |(rw [Ci];omega)):=h
def AY(h:p:=by simpa using c1):=h
def Ac(h:p:=by simp only;omega):=h
def AU(h:p:=by kernel_rfl):=h
def AI(h:p:=by simp):=h
def aO3(h:p:=by unfold U5;(obtain ⟨e0,e1,e2,e3,e4⟩:=h3;have hb:=e3 (gi s.l s.i).toNat;have c2:=c2;rw [AJ (x:=s.sums.getD (gi s.l s.i).toNat (Ty.dflt A7)+s.more) (by show _<=s.sums.getD (gi s.l s.i).toNat 0+s.more;omega) (by show s.sums.getD (gi s.l s.i).toNat 0+s.more<=_;omega)] at c2;unfold Ky;first|(have c3:(!(an<|s.sums.getD (gi s.l s.i).toNat 0+s.more<=(Cm s.BJ<|gi s.l s.i).1))=true:=c2;simpa using c3) |(have c3:(!(an<|s.sums.getD (gi s.l s.i).toNat 0+s.more<=(Cm s.BJ<|gi s.l s.i).1))=false:=c2;simpa using c3))):=h
def Aa(h:p:=by decide):=h
def MY(h:p:=by first|omega|exact ⟨rfl,rfl⟩ |exact ⟨rfl,by simp⟩ |(rw [Ci];omega)):=h
def my(h:p:=by first|omega|exact ⟨rfl,rfl⟩ |exact ⟨rfl,by rw [C0];first|exact l1.symm|exact l2.symm|exact l3.symm⟩ |exact ⟨rfl,by simp⟩ |exact ⟨by simp,by simp⟩ |(rw [Ci];omega)):=h
def Ar(h:p:=by cases h):=h
def FQ(h:p:=by rw [ho];simp [Op.operands]):=h
def aO4(h:p:=by unfold Oa;(simp only [show an (s.i<1)=X from IM<|by omega,D5];(simp only [chB,chA];revert c2;generalize JW s.text s.i=b;intro c2;by_cases h1:b>=97<;>by_cases h2:b<=122<;>by_cases h3:b>=48<;>by_cases h4:b<=57<;>simp_all))):=h
def Vk(h:p:=by simp [execOp,ho,resolve,invoke,builtin,Builtin.len_,ha,ht,Ck hu,e1,goInt]):=h
def Vl(h:p:=by simp only [renV,okV];have:=(aDM 0<|ho k<|by simp [owns]).2.2;omega):=h
def aNq(h:p:=by unfold U7;(first|(have c2:(!(inB (Oh s.l s.i).2 0<|AA<|(M s.BQ:Y)-1))=false:=c2;simpa using c2) |(have c2:(!(inB (Oh s.l s.i).2 0<|AA<|(M s.BQ:Y)-1))=true:=c2;simpa using c2))):=h
def aQ(h:p:=by rw [ho];simp only [Op.operands,Call.operands,ao7];exact .inr<|by grind):=h
def aNr(h:p:=by unfold U8;(first|(have c2:(!(G4 (M s.BD) (M s.Bh)<|AF s.l s.i))=false:=c2;simpa using c2) |(have c2:(!(G4 (M s.BD) (M s.Bh)<|AF s.l s.i))=true:=c2;simpa using c2))):=h
def EX(h:p:=by simpa using c2):=h
def Vm(h:p:=by simp only [RD] at*;rw [<-h];exact hb 0<|by simp [Ty.n]):=h
def DJ(h:p:=by simp;omega):=h
def Iy(h:p:=by simp [owns]):=h
def aR(h:p:=by simp only [C3,okV] at*;exact aDa h λx hx=>Qh H hH d x hx):=h
def aS(h:p:=by unfold Fw;rw [hw D (hW.Cv D hD).1];exact (hW.Cv D hD).2):=h
def aNs(h:p:=by unfold UA;(first|(have c2:(!(I9 s.i<|Ae s.l s.i))=false:=c2;simpa using c2) |(have c2:(!(I9 s.i<|Ae s.l s.i))=true:=c2;simpa using c2))):=h
def TC(h:p:=by have:=hW.lt hj lj;simp only at e;omega):=h
def aNt(h:p:=by unfold U4;(first|(have c2:(!(I4<|gi s.l s.i))=false:=c2;simpa using c2) |(have c2:(!(I4<|gi s.l s.i))=true:=c2;simpa using c2))):=h
def aT(h:p:=by simp only [renV,okV,owns] at*;exact ren_okL l ho hk):=h
def Vn(h:p:=by simp [aA,Instr.sameNow,hk.1,hb]):=h
def KL(h:p:=by simp [execOp,ho,e1]):=h
def aU(h:p:=by simp only [okV,noOwn] at*;exact noOwnL_ok l h hk):=h
def aV(h:p:=by simp only [owns,okV] at*;exact okL_owns l hk j h):=h
def aW(h:p:=by simp only [owns,okV] at*;exact okL_lower l hk h):=h
def Ox(h:p:=by rw [w7] at c3;exact DH c3):=h
def azz(h:p:=by rw [C0];first|exact l1.symm|exact l2.symm|exact l3.symm):=h
def mv(h:p:=by simp [execOp,ho,e1,e2,eqGuard,binOp,Op.shift,xZ.2 h0]):=h
def QW(h:p:=by rw [<-xN (xs:=args),hargs]):=h
def QX(h:p:=by unfold PK.isC;simpa using c):=h
def aX(h:p:=by simp only [R,okV] at*;rw [hβ k hk];exact h):=h
def aNn(h:p:=by show _<=s.sums.getD (gi s.l s.i).toNat 0+s.more;omega):=h
def aNo(h:p:=by show s.sums.getD (gi s.l s.i).toNat 0+s.more<=_;omega):=h
def mq(h:p:=by simp only [R] at*;rw [hj k<|by simp [owns]];exact h):=h
def TB(h:p:=by simp only [aDH,aDG,aDF];exact h3):=h
def aP(h:p:=by have:=hW.Bf _ hz;simp only at this;omega):=h
def Vj(h:p:=by simp [owns] at h;subst h;exact hk):=h
def mr(h:p:=by simp [execOp,ho,e1,e2,eqGuard,binOp,Op.intDiv,h0]):=h
def Ix(h:p:=by simpa using c):=h
def aNp(h:p:=by rw [ho];simp only [Op.operands];first|exact F4.2 ⟨q,hq,rfl⟩ |(simp;exact ⟨q.1,by grind⟩)):=h
def Jm(h:p:=by simp only [R]):=h
def yd(h:p:=by rw [ho];simp only [Op.operands,ao8,F4];exact ⟨q,hq,rfl⟩):=h
def aZ(h:p:=by unfold HR;simp only [MT,FN];omega):=h
def aOL(h:p:=by simp only [R,b2];exact ⟨by omega,⟨w.heap.size,0,aj⟩,by simp,λ_=>by simp⟩):=h
def F6(h:p:=by cases c):=h
def GH(h:p:=by simp_all):=h
def nJ(h:p:=by simp only [okV] at*;exact AT.mono h l hk):=h
def QY(h:p:=by rw [AX,BS,BS];omega):=h
def QZ(h:p:=by simp only [aDK];omega):=h
def MZ(h:p:=by simpa using c3):=h
def Ma(h:p:=by rw [he];decide):=h
def aOM(h:p:=by unfold U3;(obtain ⟨_,g1,g2⟩:=h3;rw [AJ (x:=s.n-1)] at c2;simpa using c2)):=h
def Vq(h:p:=by simp only [okV] at*;omega):=h
def bB(h:p:=by show M p.gs<=1000;omega):=h
def Vr(h:p:=by simpa only [R] using hh):=h
def nK(h:p:=by simp only [BI,GG,Bk,Bv];omega):=h
def bE(h:p:=by rw [<-e1,<-e2];exact hc.rf):=h
def aON(h:p:=by unfold Kz;cases e1:B0 l<;>cases e2:inB t 0 1100000<;>simp_all):=h
def bF(h:p:=by simp [Ty.n]):=h
def nL(h:p:=by unfold Ax;simp only [ho,hm,ht]):=h
def ye(h:p:=by show (M s.p.AK.gs:Y)<=1000;omega):=h
def aOO(h:p:=by simp [execOp,ho,e1,e2,Instr.index,asIntOf,Ck hu,h0,JW,hg]):=h
def bH(h:p:=by simp [az,hg]):=h
def Vt(h:p:=by simp [World.setRow]):=h
def aOP(h:p:=by have:=hb j;(try simp only []);split<;>(try split)<;>omega):=h
def yf(h:p:=by simp only [RD] at*;rw [Qd hb];exact h):=h
def Mb(h:p:=by simp [okV]):=h
def aO8(h:p:=by show ((M (Mk<|Lq d t).out:aVx):Y)<20;omega):=h
def aO9(h:p:=by simp only [IC,T.lv,Keeps];exact ⟨h.1,h.2,ak⟩):=h
def aOA(h:p:=by unfold LK;rw [wa];simp only [Ds];rw [CO h0,<-hb];rfl):=h
def aY(h:p:=by rw [<-e2];exact hc.rw):=h
def yb(h:p:=by simp only [RD] at*;exact ox h o' hh):=h
def nB(h:p:=by simp [getObj,Sem.run,hh']):=h
def aOB(h:p:=by unfold leB;rw [wa];simp only [Es];rw [CO h0,<-hb]):=h
def Ll(h:p:=by cases hb):=h
def Vo(h:p:=by simp [owns] at h):=h
def aOC(h:p:=by have:=hf 0;simp at this;simp [List.getD,<-this]):=h
def aOD(h:p:=by simp [IntKind.wrap,IntKind.bits,IntKind.signed]):=h
def nC(h:p:=by simp only [R];rw [hv,e]):=h
def aOE(h:p:=by simp only [R] at*;rw [h,hj k<|by simp [owns]]):=h
def nD(h:p:=by simpa only [DR] using h):=h
def nF(h:p:=by simpa only [GS] using h):=h
def aOF(h:p:=by unfold VB;(simp only [inB];simp at c2|-;omega)):=h
def aOG(h:p:=by have:=hf<|j+1;simpa [Hq,xw 1 j] using this):=h
def aOH(h:p:=by have:=ho<|j+1;simpa [Hq,xw 1 j] using this):=h
def aOI(h:p:=by unfold AB.owns;rw [hbk];exact BZ.2<|.inr hj):=h
def yc(h:p:=by rw [qQ<|by omega];exact Gf _):=h
def aOJ(h:p:=by simp [Array.getD,show 0<1+vals.size by omega]):=h
def Vp(h:p:=by simp at c;omega):=h
def aOK(h:p:=by unfold U6;(simp only [Ab,DI] at c2|-;omega)):=h
def nG(h:p:=by simp only [Ty.n];omega):=h
def nH(h:p:=by simpa [Nq,ho] using ht):=h
def nI(h:p:=by rw [hv.Ep];exact Aq _):=h
def yX(h:p:=by simp only [Act.eval];exact hv):=h
def aO5(h:p:=by unfold G3;rw [AD hp,AE (by rw [q3];simp)]):=h
def TD(h:p:=by simp [BE,hb]):=h
def mz(h:p:=by simp only at hj;omega):=h
def yY(h:p:=by show ((0:aVx):Y)<=0;decide):=h
def aO6(h:p:=by rw [IL<|by omega];exact Vb _<|by omega):=h
def yZ(h:p:=by simpa using BH.1 htr0 k hk):=h
def ya(h:p:=by rw [Dj,Dh<|by omega];rfl):=h
def aO7(h:p:=by rw [ho];simp [Op.operands,Call.operands]):=h
def Na(h:p:=by cases hk):=h
def aOg(h:p:=by simp only [Ha];rw [AE λhh=>by omega]):=h
def aOh(h:p:=by show p.AK.tk+1=_;rw [(J0 p).2.2.2.2.2.1]):=h
def yp(h:p:=by unfold PK.AK;rw [AD h.up]):=h
def aOi(h:p:=by unfold lpC;rw [C0];exact pW<|by omega):=h
def aOj(h:p:=by unfold leC;rw [C0];exact pW<|by omega):=h
def aOk(h:p:=by show (0:Y)<=(AF gs j).2.2.2.2.1;omega):=h
def aOl(h:p:=by simp [execOp,ho,Instr.makeFunc,hfirst]):=h
def aOm(h:p:=by simp only [R] at hr|-;rw [Qq];exact hr):=h
def nR(h:p:=by rw [W9.2 hv];decide):=h
def aOn(h:p:=by unfold G3;rw [AD hp,AD q2,<-r1,<-w1]):=h
def bL(h:p:=by simp [H4,h1,h2]):=h
def aOo(h:p:=by rw [cell_of_block hc];simpa using h1):=h
def aOp(h:p:=by simp [execOp,ho,e1,Instr.extract,e6]):=h
def aOq(h:p:=by simp [execOp,ho,Instr.makeFunc,hcap]):=h
def yq(h:p:=by simp [az,hgd]):=h
def aOr(h:p:=by rw [aFc];exact λx hx=>h x<|by grind):=h
def aOs(h:p:=by refine hl.2.2.2.trans ?_;rw [Ci,f4]):=h
def Vv(h:p:=by rw [<-e];rfl):=h
def nT(h:p:=by have:=DH c1;omega):=h
def nU(h:p:=by rw [h5];exact Ng _):=h
def aOt(h:p:=by show (M s.p.tg:Y)<=1000;omega):=h
def aOu(h:p:=by unfold Ic at hz;simpa [hi] using hz):=h
def bM(h:p:=by simpa using he):=h
def aOv(h:p:=by have:=RL.length hr;simpa using this):=h
def bP(h:p:=by rw [c1];decide):=h
def bR(h:p:=by rw [c2];decide):=h
def ym(h:p:=by rw [<-hops];exact hcalm):=h
def yn(h:p:=by unfold GM;rw [AD hc.1]):=h
def nO(h:p:=by simp [noOwn] at h):=h
def aOS(h:p:=by unfold U1;(try simp only []);omega):=h
def aOT(h:p:=by unfold X6;(unfold raC CV;simp_all)):=h
def aOU(h:p:=by rcases hc with e|e<;>rw [e]<;>simp):=h
def aOV(h:p:=by simp [stepG,stepG.exec,Frame.atR]):=h
def aOW(h:p:=by unfold UB;(unfold KB;rw [c2];rfl)):=h
def bI(h:p:=by rw [Gu];omega):=h
def bJ(h:p:=by rw [h4];omega):=h
def bK(h:p:=by rw [c];decide):=h
def Qa(h:p:=by cases hx):=h
def nP(h:p:=by rw [f4];exact hi):=h
def nQ(h:p:=by simp at c3;omega):=h
def aOX(h:p:=by show (M gs:Y)<=1000;omega):=h
def aOY(h:p:=by show (M cs:Y)<=1000;omega):=h
def aOZ(h:p:=by unfold Av;(repeat' split)<;>simp):=h
def aOa(h:p:=by show (M ds:Y)<=5000;omega):=h
def aOb(h:p:=by rw [AE<|by decide] at hu;omega):=h
def Oy(h:p:=by cases e):=h
def yo(h:p:=by unfold BM;rw [e1];rfl):=h
def aOc(h:p:=by show [(se,_)]=[(se,fl)];rw [z2]):=h
def aOd(h:p:=by simpa only [GX,EY,hb] using hG):=h
def Vu(h:p:=by simp [Zi]):=h
def aOe(h:p:=by have:=okV_owns _ r3 k hk;omega):=h
def aOf(h:p:=by rw [Ia<|by omega];exact Gf _):=h
def yg(h:p:=by simp only [qh];omega):=h
def yh(h:p:=by rw [hu] at c;cases c):=h
def aOQ(h:p:=by rw [aFb];exact hc y<|by grind):=h
def yi(h:p:=by simpa [W8] using ht):=h
def yj(h:p:=by simp [List.getD,hj]):=h
def yk(h:p:=by rw [hv.dr];exact j1):=h
def yl(h:p:=by rw [KM];exact Aq _):=h
def nM(h:p:=by simpa using hl):=h
def nN(h:p:=by simpa using hj):=h
def aOR(h:p:=by simpa only [GX,EY] using hG):=h
def aPH(h:p:=by simp [setObj,Sem.run,w',g1]):=h
def zD(h:p:=by simp [AB.E4] at hc):=h
def Vy(h:p:=by simp [ho]):=h
def aPI(h:p:=by rw [hls];exact (Hp.1 ho).1):=h
def aPJ(h:p:=by intro x hx;simp at hx;omega):=h
def aPK(h:p:=by rw [CO h0,FH,P4 h0 hm,hx']):=h
def zE(h:p:=by rw [he];assumption):=h
def aPL(h:p:=by rw [F5.2 h] at c1;cases c1):=h
def aPM(h:p:=by rw [hsz];exact hW.Bf b' hz):=h
def aPN(h:p:=by simpa using (hW.gh p hp).2):=h
def aPO(h:p:=by simp [execOp,ho,e1,asBool]):=h
def aPP(h:p:=by simp only [R] at*;exact h3):=h
def aPQ(h:p:=by unfold D1.a Ff;rw [AD hB]):=h
def nV(h:p:=by rw [h];decide):=h
def zF(h:p:=by cases x<;>exact h):=h
def zG(h:p:=by simp only [Bc,g2]):=h
def bU(h:p:=by simp at hl):=h
def aPR(h:p:=by simpa only [okV] using hk):=h
def aPS(h:p:=by simp only [DP,T.all] at h):=h
def aPT(h:p:=by simp only [C4];exact h10):=h
def zH(h:p:=by simp only [C3,R]):=h
def aPU(h:p:=by simp [getObj,Sem.run,g1]):=h
def zI(h:p:=by rw [h5];exact e1):=h
def Vz(h:p:=by cases hd):=h
def zJ(h:p:=by rw [TP,TP];omega):=h
def zK(h:p:=by simp at c4;omega):=h
def aP1(h:p:=by rw [h2,BI,acz,Ci];omega):=h
def yw(h:p:=by rw [hL];exact aDz):=h
def aP2(h:p:=by simp only [C4];exact h9):=h
def aP3(h:p:=by rw [hb];exact TY _ _ _ _):=h
def aP4(h:p:=by rw [hB];exact TY _ _ _ _):=h
def yx(h:p:=by rw [h.up];decide):=h
def aP5(h:p:=by simpa using (ho 0).symm):=h
def aP6(h:p:=by simpa only [RL] using h):=h
def aP7(h:p:=by have:=(q2 hm).2.1;omega):=h
def aP8(h:p:=by rw [AD hh] at he;omega):=h
def aP9(h:p:=by rw [AX,BS,BS,e6];omega):=h
def aPA(h:p:=by rw [hw' r hzr];exact hh):=h
def bT(h:p:=by simp [RL]):=h
def yy(h:p:=by simpa using hwt):=h
def yz(h:p:=by simp [c0,T.all]):=h
def z7(h:p:=by simp [c1,T.all]):=h
def z8(h:p:=by simp [c2,T.all]):=h
def z9(h:p:=by simp [c3,T.all]):=h
def zA(h:p:=by simp [c4,T.all]):=h
def zC(h:p:=by simp [c5,T.all]):=h
def aPB(h:p:=by rw [<-xN (xs:=ty),ht]):=h
def aPC(h:p:=by simpa [P9,ho] using hm):=h
def aPD(h:p:=by simpa [ownsL] using hj):=h
def aPE(h:p:=by rw [<-hL.len];exact ho):=h
def aPF(h:p:=by rw [hg];simpa using c5):=h
def aPG(h:p:=by rw [hb];exact dC _ _ _):=h
def aOw(h:p:=by rw [hB];exact dC _ _ _):=h
def aOx(h:p:=by simp only;rw [h.1];rfl):=h
def aOy(h:p:=by simp [execOp,ho,e1,f1]):=h
def yr(h:p:=by simpa using hx):=h
def Vx(h:p:=by rw [b2]):=h
def yt(h:p:=by simp [NJ] at h):=h
def aOz(h:p:=by simp only [T.all,Ez]):=h
def yu(h:p:=by simpa using hk):=h
def aP0(h:p:=by simp [HG] at h1;omega):=h
def yv(h:p:=by rw [h0,h1];rfl):=h
def zL(h:p:=by simpa using c4):=h
def zM(h:p:=by rw [FN];omega):=h
def aPV(h:p:=by rw [C0];exact qB rfl):=h
def aPW(h:p:=by unfold Em;rw [AD hE]):=h
def zN(h:p:=by rw [hE];decide):=h
def aPX(h:p:=by unfold CU;rw [e1];rfl):=h
def zO(h:p:=by simp [Br,RL,R]):=h
def aPY(h:p:=by unfold G3;rw [AE hn]):=h
def nW(h:p:=by rw [hl,h2]):=h
def zP(h:p:=by rw [KM];omega):=h
def zQ(h:p:=by simpa using e):=h
def W0(h:p:=by rw [h]):=h
def nX(h:p:=by simp [w']):=h
def Mc(h:p:=by rfl):=h
def zR(h:p:=by rw [<-hrec]):=h
def zS(h:p:=by rw [qZ,Ci]):=h
def nY(h:p:=by simp [h]):=h
def nZ(h:p:=by cases hi):=h
def na(h:p:=by cases hp):=h
def zT(h:p:=by simp at hk):=h
def zU(h:p:=by rw [e];rfl):=h
def zV(h:p:=by rw [h1,h2]):=h
end Go
namespace Go.Proofs.YtjdlmobanmhohaaGreatDoor
abbrev _root_.Go.AA:Int→Int:=Go.IntKind.i64.wrap
theorem _root_.Go.A9 {α β:Sort _}{a:α}{b:β}:a=a∧b=b:=⟨rfl,rfl⟩
set_option maxRecDepth 100000
set_option maxHeartbeats 4000000
open Go.Proofs.Tryz
open Go.RowKit
structure More where
 g:Array Obj
 d:aVx
instance:Inhabited More:=⟨⟨#[],0⟩⟩
open Go Go.RowKit
section
variable {P : Program} {ops : Array Oper} {md : Region.Mode} {G : Type} {D : World -> Prop} {C : G -> World -> Prop} {sp : Nat -> Bool}
def qD (P:aVM) (w:aVJ) (v:aVQ):aWA->Prop
 | .ok (.value u) w'=>w'=w/\u=v
 | .ok .skip w'=>w'=w/\v=undef
 | .ok (.enter f args) w'=>w'=w/\Calls P f args w (λe w''=>e=.returned v/\Below w.heap.size w w'')
 |_=>False
def Ny (P:aVM) (o:aVP) (a:aVX) (w:aVJ) (v:aVQ):Prop:=qD P w v<|(execOp a.eval o).run P w
def calm (P:aVM) (o:aVP) (a:aVX) (D:aVJ->Prop) (next:aVX->Prop):Prop:=∃v,(∀w,D w->Ny P o a w v)/\next (a.put o.dst v)
def Dn (P:aVM) (R:aVQ->aVJ->Prop):aWA->Prop
 | .ok (.value v) w'=>R v w'
 | .ok .skip w'=>R undef w'
 | .ok (.enter f args) w'=>Calls P f args w' λe w''=>∃v,e=.returned v/\R v w''
 | .ok (.round l f tmps assign body) w'=>RoundIn Fence.wide 0 P l f tmps assign body w' λe w''=>∃v,e=.returned v/\R v w''
 |_=>False
abbrev Dg (r:aVZ):Fence:={Fence.wide with round:=r}
def semAt_eq {o:aVP}{r:aVZ}{ρ:aWc->aVQ}(h:∀c,o.op≠ .defer c):o.semAt r ρ=execOp ρ o:=by
 unfold Oper.semAt;split
 ·rename_i c hc
  grind
 ·rfl
def aDt {o:aVP}{ρ:aWc->aVQ}{w:aVJ}{c:Call}(h:o.op=.defer c):(∃d w',(execOp ρ o).run P w=.ok (.defer d) w')\/(∃x w',(execOp ρ o).run P w=.halt x w'):=by
 unfold execOp;cases hr:(resolve ρ c o.type).run P w with
 |ok d w'=>left;exact ⟨d,w',GH⟩
 |halt x w'=>right;exact ⟨x,w',GH⟩
def Ua (P:aVM) (o:aVP) (a:aVX) (C:G->aVJ->Prop) (g:G) (K:aVX->G->Prop):Prop:=
 ∀w,C g w->Dn P (λv w'=>∃g',C g' w'/\K (a.put o.dst v) g') ((execOp a.eval o).run P w)
def E8 (P:aVM) (ops:aVE) (D:aVJ->Prop) (C:G->aVJ->Prop) (sp:aVx->aVH) (i:aVx) (K:aVX->G->Prop) (a:aVX) (g:G):Prop:=
 match ops[i]? with
 |none=>K a g
 |some o=>if az o (yielded ops a.tmps) then (if sp i then Ua P o a C g K else calm P o a D λa'=>K a' g) else K (a.put o.dst undef) g
def pY {o:aVP}{a:aVX}{K K':aVX->Prop}(h:∀a,K a->K' a) (hh:calm P o a D K):calm P o a D K':=
 let ⟨v,h1,h2⟩:=hh
 ⟨v,h1,h _ h2⟩
def KP {R R':aVQ->aVJ->Prop}(h:∀v w,R v w->R' v w) {r:aWA}(hh:Dn P R r):Dn P R' r:=by
 cases r with
 |ok n w'=>
  cases n<;>simp only [Dn] at hh|-
  case value u=>exact h _ _ hh
  case skip=>exact h _ _ hh
  case enter f args=>exact hh.mono λe w'' ⟨v,he,hr⟩=>⟨v,he,h _ _ hr⟩
  case round l f tmps assign body=>exact hh.mono λe w'' ⟨v,he,hr⟩=>⟨v,he,h _ _ hr⟩
 |halt x w'=>simp only [Dn] at hh
def aEl {o:aVP}{a:aVX}{g:G}{K K':aVX->G->Prop}(h:∀a g,K a g->K' a g) (hh:Ua P o a C g K):Ua P o a C g K':=
 λw hw=>KP (λ_ _ ⟨g',hc,hk⟩=>⟨g',hc,h _ _ hk⟩)<|hh w hw
def aGd {i:aVx}{a:aVX}{g:G}{K K':aVX->G->Prop}(h:∀a g,K a g->K' a g) (hh:E8 P ops D C sp i K a g):E8 P ops D C sp i K' a g:=by
 unfold E8 at*;split
 ·grind
 ·rename_i o ho
  simp only [ho] at hh;split
  ·rename_i hw
   simp only [hw,Bp] at hh;split
   ·rename_i hs;simp only [hs,Bp] at hh;exact aEl h hh
   ·rename_i hs;simp only [hs] at hh;exact pY (λa=>h a g) hh
  ·grind
def Ke (P:aVM) (md:aWv) (ops:aVE) (D:aVJ->Prop) (C:G->aVJ->Prop) (sp:aVx->aVH) (Q:aVX->G->Prop):aVx->aVR->aVX->G->Prop
 |0,listed,a,g=>ay md ops listed=[]/\Q a g
 |fuel+1,listed,a,g=>
  (ay md ops listed=[]->Q a g)/\
  ∀i∈ay md ops listed,E8 P ops D C sp i (Ke P md ops D C sp Q fuel<|listed.setIfInBounds i U) a g
def aEc {r:aVZ}{m l:aVx}{f:aVY}{tmps:aVS}{assign body:aV7}{w:aVJ}{R:Ending->aVJ->Prop}(h:RoundIn Fence.wide 0 P l f tmps assign body w R):RoundIn (Dg r) m P l f tmps assign body w R:=
 ⟨ak,λc cs _=>h.2 c cs<|room_wide _⟩
def aeP {o:aVP}{a:aVX}{K:aVX->Prop}{K':aVX->aVJ->Prop}{Q':aWp->aVX->aVJ->Prop}{w:aVJ}(hw:D w)
  (h:∀a w',Below w.heap.size w w'->K a->K' a w') (hh:calm P o a D K) (r:aVZ) (m:aVx):o.wpIn (Dg r) m P a w K' Q':=by
 obtain ⟨v,h1,h2⟩:=hh
 have h3:=h1 w hw
 unfold Ny at h3
 have hnd:∀c,o.op≠ .defer c:=λc hc=>by
  rcases aDt (P:=P) (ρ:=a.eval) (w:=w) hc with ⟨d,w',e⟩ |⟨d,w',e⟩<;>rw [e] at h3<;>simp only [qD] at h3
 refine ⟨λ_ _=>trivial,?_⟩
 rw [semAt_eq hnd];generalize (execOp a.eval o).run P w=r at*;cases r with
 | ok n w'=>
  cases n<;>simp only [qD] at h3<;>simp only [Oper.uponIn]
  case value u=>
   obtain ⟨e1,e2⟩:=h3;rw [e1,e2];exact h _ _ (Below.refl _ _) h2
  case skip=>
   obtain ⟨e1,e2⟩:=h3;rw [e1,<-e2];exact h _ _ (Below.refl _ _) h2
  case enter f args=>
   obtain ⟨e1,hc⟩:=h3;rw [e1];exact ⟨λh=>Ar,Ve.2<|hc.mono λe w'' ⟨he,hw''⟩=>A8⟩
 |halt x w'=>simp only [qD] at h3
def afT {o:aVP}{a:aVX}{g:G}{K:aVX->G->Prop}{K':aVX->aVJ->Prop}{Q':aWp->aVX->aVJ->Prop}{w:aVJ}(hw:C g w)
  (h:∀a g w',C g w'->K a g->K' a w') (hh:Ua P o a C g K) (r:aVZ) (m:aVx):o.wpIn (Dg r) m P a w K' Q':=by
 have h3:=hh w hw
 have hnd:∀c,o.op≠ .defer c:=λc hc=>by
  rcases aDt (P:=P) (ρ:=a.eval) (w:=w) hc with ⟨d,w',e⟩ |⟨d,w',e⟩<;>rw [e] at h3<;>simp only [Dn] at h3
 refine ⟨λ_ _=>trivial,?_⟩
 rw [semAt_eq hnd];generalize (execOp a.eval o).run P w=r at*;cases r with
 | ok n w'=>
  cases n<;>simp only [Dn] at h3<;>simp only [Oper.uponIn]
  case value u=>obtain ⟨g',h1,h2⟩:=h3;exact h _ _ _ h1 h2
  case skip=>obtain ⟨g',h1,h2⟩:=h3;exact h _ _ _ h1 h2
  case enter f args=>
   exact ⟨λh=>Ar,Ve.2<|h3.mono λe w'' ⟨v,he,g',h1,h2⟩=>A8⟩
  case round l f tmps assign body=>
   exact ⟨λh=>Ar,aEc<|h3.mono λe w'' ⟨v,he,g',h1,h2⟩=>A8⟩
 |halt x w'=>simp only [Dn] at h3
def ae5 (hD:∀g w,C g w->D w) (hkeep:∀g w w',C g w->Below w.heap.size w w'->C g w') {i:aVx}{a:aVX}{g:G}{K:aVX->G->Prop}{K':aVX->aVJ->Prop}{Q':aWp->aVX->aVJ->Prop}{w:aVJ}(hC:C g w)
  (h:∀a g w',C g w'->K a g->K' a w') (hh:E8 P ops D C sp i K a g) (r:aVZ) (m:aVx):wpOpIn (Dg r) m P ops Q' i K' a w:=by
 unfold E8 at hh;unfold wpOpIn;split
 ·grind
 ·rename_i o ho
  simp only [ho] at hh;split
  ·rename_i hw
   simp only [hw,Bp] at hh
   by_cases hs:sp i=U
   ·simp only [hs,Bp] at hh;exact afT hC h hh r m
   ·simp only [hs] at hh;exact aeP (hD _ _ hC) (λa w' hb hk=>h a g w' (hkeep _ _ _ hC hb) hk) hh r m
  ·rename_i hw;simp only [hw] at hh;exact ⟨λ_ _=>trivial,h _ _ _ hC hh⟩
def pK (hD:∀g w,C g w->D w) (hkeep:∀g w w',C g w->Below w.heap.size w w'->C g w') {Q:aVX->G->Prop}{Q':aWp->aVX->aVJ->Prop}(hQ:∀a g w,C g w->Q a g->Q' .normal a w) (r:aVZ) (m:aVx):
  ∀(fuel:aVx) (listed:aVR) (a:aVX) (g:G) (w:aVJ),C g w->Ke P md ops D C sp Q fuel listed a g->wpAnyIn (Dg r) m P md ops Q' fuel listed a w
 |0,_,_,_,_,hw,h=>⟨h.1,hQ _ _ _ hw h.2⟩
 |fuel+1,_,_,_,_,hw,h=>⟨λh0=>hQ _ _ _ hw<|h.1 h0,λi hi=>ae5 hD hkeep hw (λa' g' w' hw'=>pK hD hkeep hQ r m fuel _ a' g' w' hw') (h.2 i hi) r m⟩
def Lv (P:aVM) (ops:aVE) (D:aVJ->Prop) (o:aVP) (v:aVQ) (a:aVX):Prop:=
 (az o (yielded ops a.tmps)=U/\∀w,D w->Ny P o a w v)\/
 (az o (yielded ops a.tmps)=X/\v=undef)
def Lv.E8 {i:aVx}{o:aVP}{v:aVQ}{a:aVX}{g:G}(hi:ops[i]? =ah o) (hs:sp i=X) (hy:Lv P ops D o v a) {K:aVX->G->Prop}(h:K (a.put o.dst v) g):E8 P ops D C sp i K a g:=by
 unfold Go.Proofs.YtjdlmobanmhohaaGreatDoor.E8;simp only [hi];rcases hy with ⟨hw,hv⟩ |⟨hw,rfl⟩
 ·simp only [hw,Bp,hs,IN,FP];exact ⟨v,hv,h⟩
 ·grind
def Lv.of_same {o:aVP}{v:aVQ}{a a':aVX}(hy:Lv P ops D o v a) (he:execOp a'.eval o=execOp a.eval o)
  (hw:az o (yielded ops a'.tmps)=az o (yielded ops a.tmps)):Lv P ops D o v a':=by
 unfold Lv Ny at*
 rwa [he,hw]
def acr {i:aVx}{o:aVP}{a:aVX}{g:G}{K:aVX->G->Prop}(hi:ops[i]? =ah o) (hs:sp i=X) (h:E8 P ops D C sp i K a g):∃v,Lv P ops D o v a/\K (a.put o.dst v) g:=by
 unfold E8 at h;simp only [hi] at h
 by_cases hw:az o (yielded ops a.tmps)=U
 ·simp only [hw,Bp,hs,IN,FP] at h
  obtain ⟨v,h1,h2⟩:=h;exact ⟨v,.inl ⟨hw,h1⟩,h2⟩
 ·simp only [hw] at h
  exact ⟨undef,.inr ⟨A8,rfl⟩,h⟩
def atp {j:aVx}{oi oj:aVP}{v:aVQ}(hj:ops[j]? =ah oj) (hap:oi.apart ops oj=U)
  (hsi:∀cs b,oi.op≠ .select cs b) (hsj:∀cs b,oj.op≠ .select cs b) {K:aVX->G->Prop} {a:aVX} {g:G}
  (hy:Lv P ops D oi v a) (h:E8 P ops D C sp j K (a.put oi.dst v) g):
  E8 P ops D C sp j (λa' g'=>Lv P ops D oi v a'/\K (a'.put oi.dst v) g') a g:=by
 obtain ⟨h1,h2,h3⟩:=Zl hap
 have keep:∀(a:aVX),Lv P ops D oi v a->∀u,Lv P ops D oi v (a.put oj.dst u):=λa hy u=>
  hy.of_same (execOp_put oi hsi a oj.dst u h3) (wanted_put oi a oj.dst u h3)
 unfold E8 at*;simp only [hj] at*;rw [wanted_put oj a oi.dst v h1] at h;split
 ·rename_i hw
  simp only [hw,Bp] at h;split
  ·rename_i hs
   simp only [hs,Bp] at h;intro w hw'
   have:=h w hw'
   rw [execOp_put oj hsj a oi.dst v h1] at this;refine KP (λu w'' ⟨g',hc,hk⟩=>⟨g',hc,keep a hy u,?_⟩) this
   rw [<-Act.put_comm a v u h2];exact hk
  ·rename_i hs
   simp only [hs] at h;obtain ⟨u,hu,hn⟩:=h;refine ⟨u,λw hw'=>?_,keep a hy u,by rw [<-Act.put_comm a v u h2];exact hn⟩
   have:=hu w hw'
   unfold Ny at*
   rwa [execOp_put oj hsj a oi.dst v h1] at this
 ·rename_i hw
  simp only [hw] at h;exact ⟨keep a hy _,by rw [<-Act.put_comm a v undef h2];exact h⟩
def adB {Q:aVX->G->Prop}{i:aVx}{oi:aVP}{v:aVQ}(hi:ops[i]? =ah oi) (hs:sp i=X) (hsel:∀(j:aVx) (o:aVP) cs b,ops[j]? =ah o->o.op≠ .select cs b):
  ∀(fuel:aVx) (listed:aVR) (a:aVX) (g:G),
   (∀j oj,ops[j]? =ah oj->j≠i->listed.getD j U=X->(∀e∈oj.after,Region.binds md e=U->e.on≠i)->oi.apart ops oj=U)->
   i∈ay md ops listed->Lv P ops D oi v a->
   Ke P md ops D C sp Q fuel (listed.setIfInBounds i U) (a.put oi.dst v) g->Ke P md ops D C sp Q (fuel+1) listed a g:=by
 intro fuel
 induction fuel with
 | zero=>
  intro listed a g _ hr hy H;refine ⟨λh=>A8,λj hj=>?_⟩
  by_cases hji:j=i
  ·subst hji;exact hy.E8 hi hs H
  ·have:=ready_mono hj hji
   rw [H.1] at this;cases this
 | succ fuel ih=>
  intro listed a g hfree hr hy H;refine ⟨λh=>A8,λj hj=>?_⟩
  by_cases hji:j=i
  ·subst hji;exact hy.E8 hi hs H
  ·have h1:=H.2 j (ready_mono hj hji)
   obtain ⟨hjun,oj,hoj,hall⟩:=Ey.1 hj
   have hnot:∀e∈oj.after,Region.binds md e=U->e.on≠i:=λe he hb heq=>by
    have h1:=hall e he hb
    have h0:=(Ey.1 hr).1
    rcases QO i listed.size with h'|h'
    ·grind
    ·grind
   have h2:=atp hoj (hfree j oj hoj hji hjun hnot) (λcs b=>hsel i oi cs b hi) (λcs b=>hsel j oj cs b hoj) hy h1
   have hfree':∀k ok,ops[k]? =ah ok->k≠i->(listed.setIfInBounds j U).getD k U=X->
     (∀e∈ok.after,Region.binds md e=U->e.on≠i)->oi.apart ops ok=true:=λk ok hk hki hun hno=>by
    refine hfree k ok hk hki ?_ hno
    by_cases hjk:j=k
    ·grind
    ·simp_all
   refine aGd (λa' g' h3=>ih (listed.setIfInBounds j U) a' g' hfree' (ready_mono hr<|Ou hji) h3.1 ?_) h2
   rw [Array.setIfInBounds_comm _ _ hji];exact h3.2
def I5 (P:aVM) (ops:aVE) (D:aVJ->Prop) (K:aVX->Prop):aV1->aV5->aVX->Prop
 |f::fs,o::os,a=>if f then I5 P ops D K fs os a else if az o (yielded ops a.tmps) then calm P o a D (I5 P ops D K fs os) else I5 P ops D K fs os (a.put o.dst undef)
 |_,_,a=>K a
def H6 (P:aVM) (ops:aVE) (C:G->aVJ->Prop) (Q:aVX->G->Prop):aV1->aV5->aVX->G->Prop
 |f::fs,o::os,a,g=>if f then (if az o (yielded ops a.tmps) then Ua P o a C g (H6 P ops C Q fs os) else H6 P ops C Q fs os (a.put o.dst undef) g) else H6 P ops C Q fs os a g
 |_,_,a,g=>Q a g
def JO (md:aWv) (ops:aVE) (flags:aV1):aVC->aVR->Bool
 | [],listed=>(ay md ops listed).isEmpty
 |i::is,listed=>(if flags.getD i X then ay md ops listed==[i] else (ay md ops listed).contains i&&Region.free md ops listed i)&&JO md ops flags is (listed.setIfInBounds i U)
def idxs (b:aVH):aV1->aVx->List Nat
 | [],_=>[]
 |f::fs,k=>if f=b then k::idxs b fs (k+1) else idxs b fs (k+1)
def jL (ops:aVE) (flags:aV1):aVH:=letI a:=idxs X flags 0++idxs U flags 0;Region.noSelect ops&&M flags==ops.size&&M a==ops.size&&JO .any ops flags a (Array.replicate ops.size X)
def aDd {flags:aV1}{Q:aVX->G->Prop}(hs:Region.noSelect ops=U):∀(is:aVC) (listed:aVR) (a:aVX) (g:G),
  JO md ops flags is listed=U->(is.foldr (λi K=>E8 P ops D C (λi=>flags.getD i X) i K) Q) a g->Ke P md ops D C (λi=>flags.getD i X) Q (M is) listed a g
 | [],_,_,_,hB,h=>⟨by simpa [JO] using hB,h⟩
 | i::is,listed,a,g,hB,h=>by
  simp only [JO,AX] at hB;obtain ⟨h1,h2⟩:=hB;simp only [mN] at h
  by_cases hf:flags.getD i X=U
  ·simp only [hf,Bp,Cz] at h1
   refine ⟨λh0=>A8,λj hj=>?_⟩
   rw [h1] at hj;obtain rfl:=HJ.1 hj;exact aGd (λa' g' hk=>aDd hs is _ a' g' h2 hk) h
  ·rw [AE hf,AX] at h1
   obtain ⟨hr,hfr⟩:=h1
   have hr':i∈ay md ops listed:=A8
   obtain ⟨_,oi,hoi,_⟩:=Ey.1 hr';obtain ⟨v,hy,hK⟩:=acr hoi A8 h;exact adB hoi A8 (Region.noSelect_spec hs) (M is) listed a g (Region.free_spec hoi hfr) hr' hy<|aDd hs is _ _ _ h2 hK
def aDs {flags:aV1}{Q:aVX->G->Prop}:∀(fs:aV1) (os:aV5) (k:aVx),(∀j,fs[j]? =flags[k+j]?)->(∀j,os[j]? =ops[k+j]?)->M fs=M os->
  ∀(a:aVX) (g:G),I5 P ops D (λa=>Q a g) fs os a->((idxs X fs k).foldr (λi K=>E8 P ops D C (λi=>flags.getD i X) i K) Q) a g
 | [],[],_,_,_,_,_,_,h=>h
 | f::fs,o::os,k,hf,ho,hl,a,g,h=>by
  have ho0:ops[k]? =ah o:=aP5
  have hf0:flags.getD k X=f:=aOC
  have ih:=aDs (Q:=Q) (flags:=flags) fs os (k+1) (λj=>aOG) (λj=>aOH) A8
  cases f with
  |true=>simp only [idxs,I5,Bool.true_eq_false,Bp,FP] at h|-;exact ih a g h
  |false=>
   simp only [idxs,I5,Bp,IN,FP] at h|-;simp only [mN];unfold E8;simp only [ho0,hf0,IN,FP];split
   ·rename_i hw;simp only [hw,Bp] at h;exact pY (λa' hk=>ih a' g hk) h
   ·rename_i hw;simp only [hw] at h;exact ih _ _ h
 | [],_::_,_,_,_,hl,_,_,_=>A8
 |_::_,[],_,_,_,hl,_,_,_=>A8
def aE0 {flags:aV1}{Q:aVX->G->Prop}:∀(fs:aV1) (os:aV5) (k:aVx),(∀j,fs[j]? =flags[k+j]?)->(∀j,os[j]? =ops[k+j]?)->M fs=M os->
  ∀(a:aVX) (g:G),H6 P ops C Q fs os a g->((idxs U fs k).foldr (λi K=>E8 P ops D C (λi=>flags.getD i X) i K) Q) a g
 | [],[],_,_,_,_,_,_,h=>h
 | f::fs,o::os,k,hf,ho,hl,a,g,h=>by
  have ho0:ops[k]? =ah o:=aP5
  have hf0:flags.getD k X=f:=aOC
  have ih:=aE0 (Q:=Q) (flags:=flags) fs os (k+1) (λj=>aOG) (λj=>aOH) A8
  cases f with
  |false=>simp only [idxs,H6,IN,FP] at h|-;exact ih a g h
  |true=>
   simp only [idxs,H6,Bp] at h|-;simp only [mN];unfold E8;simp only [ho0,hf0,Bp];split
   ·rename_i hw;simp only [hw,Bp] at h;exact aEl (λa' g' hk=>ih a' g' hk) h
   ·rename_i hw;simp only [hw] at h;exact ih _ _ h
 | [],_::_,_,_,_,hl,_,_,_=>A8
 |_::_,[],_,_,_,hl,_,_,_=>A8
def ae4 {r:aVZ}{m:aVx}{Q:aWp->aVX->aVJ->Prop}{a:aVX}{w:aVJ}{l:aV5}(flags:aV1) (g:G)
  (hB:jL l.toArray flags=U) (hD:∀g w,C g w->D w) (hkeep:∀g w w',C g w->Below w.heap.size w w'->C g w') (hC:C g {w with drawn:=w.drawn+1})
  (h:I5 P l.toArray D (λa1=>H6 P l.toArray C (λa' g'=>∀w',C g' w'->Q .normal a' w') flags l a1 g) flags l a):wpAnyIn (Dg r) m P .any l.toArray Q l.toArray.size (Array.replicate l.toArray.size X) a {w with drawn:=w.drawn+1}:=by
 simp only [jL,AX,Cz] at hB;obtain ⟨⟨⟨h1,h2⟩,h3⟩,h4⟩:=hB;refine pK (D:=D) (C:=C) (sp:=λi=>flags.getD i X) hD hkeep (Q:=λa' g'=>∀w',C g' w'->Q .normal a' w') (λ_ _ w' hw' h=>h w' hw') r m _ _ _ g _ hC ?_
 have h5:=aDd (P:=P) (D:=D) (C:=C) (Q:=λa' g'=>∀w',C g' w'->Q .normal a' w') h1 _ _ a g h4
 rw [h3] at h5;refine h5 ?_;rw [List.foldr_append];refine aDs flags l 0 AI AI A8 a g ?_;refine (?_:∀(fs:aV1) (os:aV5) (a:aVX),I5 P l.toArray D (λa1=>H6 P l.toArray C (λa' g'=>∀w',C g' w'->Q .normal a' w') flags l a1 g) fs os a->I5 P l.toArray D (λa=>(List.foldr (λi K=>E8 P l.toArray D C (λi=>flags.getD i X) i K) (λa' g'=>∀w',C g' w'->Q .normal a' w')<|idxs U flags 0) a g) fs os a) flags l a h
 intro fs
 induction fs with
 |nil=>intro os a hh;cases os<;>exact aE0 flags l 0 AI AI A8 _ _ hh
 | cons f fs ih=>
  intro os a hh;cases os with
  |nil=>exact aE0 flags l 0 AI AI A8 _ _ hh
  | cons o os=>
   simp only [I5] at hh|-;split
   ·grind
   ·rename_i hf
    simp only [hf,IN,FP] at hh;split
    ·rename_i hw;simp only [hw,Bp] at hh;exact pY (λa' hk=>ih _ _ hk) hh
    ·grind
def afb {D:aVJ->Prop}{K:aVX->Prop}{a:aVX}(h:K a):I5 P ops D K [] [] a:=by simpa [I5] using h
def aff {C:G->aVJ->Prop}{Q:aVX->G->Prop}{a:aVX}{g:G}(h:Q a g):H6 P ops C Q [] [] a g:=by simpa [H6] using h
def nz (md:aWv) (ops:aVE):aVC->aVR->Bool
 | [],_=>U
 |i::is,listed=>((ay md ops listed).contains i&&Region.free md ops listed i)&&nz md ops is (listed.setIfInBounds i U)
def Tp:aVC->aVR->Array Bool
 | [],l=>l
 |i::is,l=>Tp is<|l.setIfInBounds i U
def adC {flags:aV1}{Q:aVX->G->Prop}(hs:Region.noSelect ops=U) (m:aVx):∀(is:aVC) (listed:aVR) (a:aVX) (g:G),(∀i∈is,flags.getD i X=X)->
  nz md ops is listed=U->(is.foldr (λi K=>E8 P ops D C (λi=>flags.getD i X) i K) λa g=>Ke P md ops D C (λi=>flags.getD i X) Q m (Tp is listed) a g) a g->Ke P md ops D C (λi=>flags.getD i X) Q (M is+m) listed a g
 | [],_,_,_,_,_,h=>by rw [Bv,Eh];exact h
 |i::is,listed,a,g,hf,hB,h=>by
  simp only [nz,AX] at hB;obtain ⟨⟨hr,hfr⟩,h2⟩:=hB;simp only [mN,Tp] at h
  have hfi:=hf i AI
  have hr':i∈ay md ops listed:=A8
  obtain ⟨_,oi,hoi,_⟩:=Ey.1 hr';obtain ⟨v,hy,hK⟩:=acr hoi hfi h
  have:=adB hoi hfi (Region.noSelect_spec hs) (M is+m) listed a g (Region.free_spec hoi hfr) hr' hy<|adC hs m is _ _ _ (λj hj=>hf j A8) h2 hK
  grind
def pO (b:aVH):∀(fs:aV1) (k i:aVx),i∈idxs b fs k->k<=i/\fs[i-k]? =ah b
 | [],_,_,h=>by simp [idxs] at h
 | f::fs,k,i,h=>by
  simp only [idxs] at h;split at h
  ·rename_i hf
   rcases BB.1 h with rfl|h
   ·grind
   ·exact aNm
  ·exact aNm
def U0 (ops:aVE) (flags:aV1):aVH:=
 Region.noSelect ops&&M flags==ops.size&&M (idxs X flags 0)+M (idxs U flags 0)==ops.size&&nz .any ops (idxs X flags 0) (Array.replicate ops.size X)
def adA {r:aVZ}{m:aVx}{Q:aWp->aVX->aVJ->Prop}{a:aVX}{w:aVJ}{l:aV5}(flags:aV1) (g:G)
  (hB:U0 l.toArray flags=U) (hD:∀g w,C g w->D w) (hkeep:∀g w w',C g w->Below w.heap.size w w'->C g w') (hC:C g {w with drawn:=w.drawn+1})
  (h:I5 P l.toArray D (λa1=>Ke P .any l.toArray D C (λi=>flags.getD i X) (λa' g'=>∀w',C g' w'->Q .normal a' w') (M<|idxs U flags 0) (Tp (idxs X flags 0)<|Array.replicate l.toArray.size X) a1 g) flags l a):wpAnyIn (Dg r) m P .any l.toArray Q l.toArray.size (Array.replicate l.toArray.size X) a {w with drawn:=w.drawn+1}:=by
 simp only [U0,AX,Cz] at hB;obtain ⟨⟨⟨h1,h2⟩,h3⟩,h4⟩:=hB;refine pK (D:=D) (C:=C) (sp:=λi=>flags.getD i X) hD hkeep (Q:=λa' g'=>∀w',C g' w'->Q .normal a' w') (λ_ _ w' hw' h=>h w' hw') r m _ _ _ g _ hC ?_
 have h5:=adC (P:=P) (D:=D) (C:=C) (flags:=flags) (Q:=λa' g'=>∀w',C g' w'->Q .normal a' w') h1 (M<|idxs U flags 0) (idxs X flags 0) _ a g (λi hi=>by
  obtain ⟨_,h⟩:=pO X flags 0 i hi;simp only [Nat.sub_zero] at h
  simp [List.getD,h]) h4
 rw [h3] at h5;refine h5 ?_;exact aDs flags l 0 AI AI A8 a g h
def UZ (md:aWv) (ops:aVE):aVx->aVC->List Nat
 |0,l=>l
 |k+1,l=>l++UZ md ops k (l.flatMap λi=>match ops[i]? with
  |some o=>(o.after.toList.filter<|Region.binds md).map (·.on)
  |none=>[])
def lastB (md:aWv) (ops:aVE) (o:aVP):aVH:=
 o.guard.isNone&&o.after.toList.all (λe=>an<|e.on<ops.size)&&
 (au ops.size).all (λi=>(match ops[i]? with
  |some p=>p.after.toList.all (λe=>an<|e.on<i)&&(match p.guard with|none=>U|some (j,_)=>an<|j<ops.size)
  |none=>U))&&
 (let l:=UZ md ops ops.size<|(o.after.toList.filter<|Region.binds md).map (·.on);(au ops.size).all λi=>l.contains i)
def Closed (md:aWv) (ops:aVE) (listed:aVR):Prop:=
 ∀(i:aVx) (o:aVP),ops[i]? =ah o->listed.getD i X=U->∀e∈o.after,Region.binds md e=U->listed.getD e.on X=U
def Closed.back {listed:aVR}(hc:Closed md ops listed):∀(k:aVx) (l:aVC),(∀i∈l,listed.getD i X=U)->∀i∈UZ md ops k l,listed.getD i X=U
 |0,_,h=>h
 | k+1,l,h=>λi hi=>by
  simp only [UZ,BZ] at hi;rcases hi with hi|hi
  ·exact h i hi
  ·refine Closed.back hc k _ (λj hj=>?_) i hi
   obtain ⟨i',h1,h2⟩:=List.mem_flatMap.1 hj;split at h2
   ·rename_i o ho
    obtain ⟨e,h3,rfl⟩:=F4.1 h2;obtain ⟨h4,h5⟩:=Cg.1 h3;exact hc i' o ho (h i' h1) e A8 h5
   ·cases h2
def Closed.put {listed:aVR}(hc:Closed md ops listed) {i:aVx}(hi:i∈ay md ops listed):Closed md ops (listed.setIfInBounds i U):=λj o hj hl e he hb=>by
 by_cases hij:i=j
 ·subst hij
  obtain ⟨_,o',ho',h2⟩:=Ey.1 hi;obtain rfl:o'=o:=ED<|ho'.symm.trans hj;exact getD_set_true<|h2 e he hb
 ·rw [Zx X hij] at hl
  exact getD_set_true<|hc j o hj hl e he hb
def W6 {l:aVR}{i:aVx}(d b:aVH) (h:i<l.size):(l.push b).getD i d=l.getD i d:=by
 simp [lY,Vf h]
def aFU {l:aVR}(b d:aVH):(l.push b).getD l.size d=b:=AI
def set_push {l:aVR}{i:aVx}(b:aVH) (h:i<l.size):(l.push b).setIfInBounds i U=(l.setIfInBounds i U).push b:=by
 apply Array.ext_getElem?
 intro j
 by_cases hij:i=j
 ·subst hij
  grind
 ·grind
def fN {l:aVR}{i:aVx}(h:i<l.size):l.getD i U=l.getD i false:=nY
def afB {o:aVP}(hl:lastB md ops o=U) {listed:aVR}(hs:listed.size=ops.size) (hr:ay md ops listed=[]):∀i,i<ops.size->listed.getD i X=true:=by
 intro i
 induction i using Nat.strongRecOn with
 | _ i ih=>
  intro hi
  by_cases hL:listed.getD i X=U
  ·exact hL
  exfalso;simp only [lastB,AX,BH,Iu] at hl
  have:i∈ay md ops listed:=Ey.2 ⟨A8,_,QK hi,λe he hb=>by
   have h3:e.on<i:=A8
   exact ih e.on h3 A0⟩
  rw [hr] at this;cases this
def Xj (F:Fence) (m:aVx) (P:aVM) (ops:aVE) (Q:aWp->aVX->aVJ->Prop) (n:aVx):aWp->aVX->aVJ->Prop
 | .normal,a,w=>wpOpIn F m P ops Q n (Q .normal) a w
 |e,a,w=>Q e a w
def aeS {F:Fence}{m n:aVx}{ops:aVE}{Q:aWp->aVX->aVJ->Prop}{o:aVP}{a:aVX}{K:aVX->aVJ->Prop}{r:aWA}(h:o.uponIn F m P a K (Xj F m P ops Q n) r):o.uponIn F m P a K Q r:=by
 cases r with
 |ok x w'=>cases x<;>exact h
 |halt x w'=>cases x<;>exact h
def adx {o:aVP}{tmps:aVS}{j:aVx}(h:j<ops.size):yielded (ops.push o) tmps j=yielded ops tmps j:=by
 simp [yielded,lY,Vf h]
def ar0 {F:Fence}{m:aVx}{Q:aWp->aVX->aVJ->Prop}{o:aVP}(hl:lastB md ops o=U) {i:aVx}(hi:i<ops.size) {K:aVX->aVJ->Prop}{a:aVX}{w:aVJ}{n:aVx}
  (h:wpOpIn F m P ops (Xj F m P (ops.push o) Q n) i K a w):wpOpIn F m P (ops.push o) Q i K a w:=by
 unfold wpOpIn at*;simp only [lY,Vf hi,FP,QK hi] at h|-;simp only [lastB,AX,BH,Iu] at hl
 have h1:=hl.1.2 i hi
 simp only [QK hi,AX] at h1
 have hw:az ops[i] (yielded (ops.push o) a.tmps)=az ops[i] (yielded ops a.tmps):=by
  unfold az
  have h2:=h1.2
  split
  ·rfl
  ·rename_i j want hg
   simp only [hg,Ab] at h2;rw [adx h2]
 rw [hw];split
 ·rename_i hw'
  rw [AD hw'] at h;exact ⟨h.1,aeS h.2⟩
 ·rename_i hw'
  rw [AE hw'] at h;exact h
def aDp {o:aVP}(hl:lastB md ops o=U) {listed:aVR}(hs:listed.size=ops.size) {b:aVH}{i:aVx}(hi:i<ops.size) (h:i∈ay md (ops.push o) (listed.push b)):i∈ay md ops listed:=by
 obtain ⟨h1,o',ho',h2⟩:=Ey.1 h;rw [W6 _ _<|hs▸hi] at h1;simp only [lY,Vf hi,FP,QK hi] at ho';obtain rfl:=ED ho';refine Ey.2 ⟨h1,_,QK hi,λe he hb=>?_⟩
 simp only [lastB,AX,BH,Iu] at hl
 have h4:e.on<i:=A8
 have h5:=h2 e he hb
 rwa [W6 _ _ A0] at h5
def Qi {listed:aVR}{i:aVx}(h:i∈ay md ops listed):i<ops.size:=by
 obtain ⟨_,o,ho,_⟩:=Ey.1 h
 grind
def aed {o:aVP}(hl:lastB md ops o=U) {listed:aVR}(hs:listed.size=ops.size) (hr:ay md ops listed=[]):ay md (ops.push o) (listed.push U)=[]:=by
 refine m7.2 λi hi=>?_
 have h1:=Qi hi
 rw [xh] at h1;rcases QO i ops.size with h2|h2
 ·have:=aDp hl hs h2 hi
  rw [hr] at this;cases this
 ·obtain rfl:i=ops.size:=A0
  have h3:=(Ey.1 hi).1
  rw [<-hs,aFU] at h3;cases h3
def aex {o:aVP}(hl:lastB md ops o=U) {listed:aVR}(hs:listed.size=ops.size) (ha:∀i,i<ops.size->listed.getD i X=U):ops.size∈ay md (ops.push o) (listed.push X):=by
 refine Ey.2 ⟨by rw [<-hs,aFU],o,AI,λe he _=>?_⟩
 simp only [lastB,AX,BH] at hl
 have h1:e.on<ops.size:=A8
 rw [W6 _ _ A0]
 grind
def aov {o:aVP}(hl:lastB md ops o=U) {listed:aVR}(hs:listed.size=ops.size) (hc:Closed md ops listed) (h:ops.size∈ay md (ops.push o) (listed.push X)):ay md ops listed=[]:=by
 obtain ⟨_,o',ho',h2⟩:=Ey.1 h;simp only [lastB,AX,BH] at hl
 have h0:∀i∈UZ md ops ops.size ((o.after.toList.filter<|Region.binds md).map (·.on)),listed.getD i X=true:=hc.back _ _ λi hi=>by
  obtain ⟨e,h3,rfl⟩:=F4.1 hi;obtain ⟨h4,h5⟩:=Cg.1 h3
  have h6:e.on<ops.size:=A8
  have h7:=h2 e A8 h5
  rwa [W6 _ _ A0] at h7
 refine m7.2 λi hi=>?_
 have h1:=Qi hi
 have h3:=hl.2 i A8
 have h4:=h0 i A8
 have h5:=(Ey.1 hi).1
 rw [fN A0,h4] at h5;cases h5
def aeR {F:Fence}{m:aVx}{Q:aWp->aVX->aVJ->Prop}{o:aVP}(hl:lastB md ops o=U):∀(fuel:aVx) (listed:aVR) (a:aVX) (w:aVJ),listed.size=ops.size->Closed md ops listed->
  wpAnyIn F m P md ops (Xj F m P (ops.push o) Q ops.size) fuel listed a w->wpAnyIn F m P md (ops.push o) Q (fuel+1) (listed.push X) a w:=by
 have hend:∀(fuel:aVx) (listed:aVR) (a:aVX) (w:aVJ),listed.size=ops.size->ay md ops listed=[]->wpOpIn F m P (ops.push o) Q ops.size (Q .normal) a w->
   wpOpIn F m P (ops.push o) Q ops.size (wpAnyIn F m P md (ops.push o) Q fuel<|(listed.push X).setIfInBounds ops.size U) a w:=λfuel listed a w hs hr h=>by
  have he:(listed.push X).setIfInBounds ops.size U=listed.push true:=by
   apply Array.ext_getElem?
   intro j
   by_cases hij:listed.size=j
   ·grind
   ·grind
  rw [he];refine wpOpIn_mono (λa w h=>?_) h
  have h0:=aed hl hs hr
  cases fuel with
  |zero=>exact ⟨h0,h⟩
  |succ fuel=>exact ⟨λ_=>h,λi hi=>A8⟩
 have hdead:∀(listed:aVR),listed.size=ops.size->Closed md ops listed->ay md (ops.push o) (listed.push X)≠ []:=λlisted hs _ h=>by
  by_cases hr:ay md ops listed=[]
  ·have:=aex hl hs (afB hl hs hr)
   rw [h] at this;cases this
  ·obtain ⟨i,hi⟩:=List.exists_mem_of_ne_nil _ hr
   have hlt:=Qi hi
   obtain ⟨h1,o',ho',h2⟩:=Ey.1 hi
   have:i∈ay md (ops.push o) (listed.push X):=Ey.2 ⟨by rw [W6 _ _ A0];exact h1,o',A8,λe he hb=>by
    have h3:=h2 e he hb
    rw [W6]
    ·exact h3
    ·rcases QO e.on listed.size with h'|h'
     ·exact h'
     ·simp [xk h'] at h3⟩
   rw [h] at this;cases this
 intro fuel
 induction fuel with
 | zero=>
  intro listed a w hs hc h;refine ⟨λh0=>absurd h0<|hdead listed hs hc,λi hi=>?_⟩
  have h1:=Qi hi
  rw [xh] at h1;rcases QO i ops.size with h2|h2
  ·have:=aDp hl hs h2 hi
   rw [h.1] at this;cases this
  ·obtain rfl:i=ops.size:=A0
   exact hend 0 listed a w hs h.1 h.2
 | succ fuel ih=>
  intro listed a w hs hc h;refine ⟨λh0=>absurd h0<|hdead listed hs hc,λi hi=>?_⟩
  have h1:=Qi hi
  rw [xh] at h1;rcases QO i ops.size with h2|h2
  ·have hr:=aDp hl hs h2 hi
   refine ar0 hl h2<|wpOpIn_mono (λa w hk=>?_)<|h.2 i hr
   rw [set_push _ A0];exact ih _ a w A8 (hc.put hr) hk
  ·obtain rfl:i=ops.size:=A0
   have hr:=aov hl hs hc hi
   exact hend (fuel+1) listed a w hs hr<|h.1 hr
def adf {F:Fence}{m id:aVx}{Q:aWp->aVX->aVJ->Prop}{o:aVP}{a:aVX}{w:aVJ}(hm:P.follows .mixedOrders=U) (hl:lastB .any ops o=U)
  (h:wpAnyIn F m P .any ops (Xj F m P (ops.push o) Q ops.size) ops.size (Array.replicate ops.size X) a {w with drawn:=w.drawn+1}):(Code.region id (ops.push o) U).wpIn F m P Q a w:=by
 refine wpIn_region_any hm ?_
 have h1:=aeR hl ops.size (Array.replicate ops.size X) a _ AI (λi o' ho' hL=>by
  have:=(Hp.1 ho').1
  simp [this] at hL) h
 grind
end
structure DX (tr:aVC) (w w':aVJ):Prop where
 os:w'.os=w.os
 tape:w'.tape=w.tape
 output:w'.output=w.output
 size:w.heap.size<=w'.heap.size
 block:∀k,k<w.heap.size->k∉tr->w'.heap[k]? =w.heap[k]?
def aeh {tr:aVC}{w w1 w2:aVJ}(h:DX tr w w1) (hb:Below w1.heap.size w1 w2):DX tr w w2:=
 ⟨hb.os.trans h.os,hb.tape.trans h.tape,hb.output.trans h.output,Hr h.size hb.size,λk hk hn=>(hb.block k<|Zo hk h.size).trans<|h.block k hk hn⟩
def DX.refl (tr:aVC) (w:aVJ):DX tr w w:=⟨rfl,rfl,rfl,Aq _,λ_ _ _=>rfl⟩
end Go.Proofs.YtjdlmobanmhohaaGreatDoor
namespace Go.Sx
open Go.Proofs.YtjdlmobanmhohaaGreatDoor
open Go Go.RowKit
inductive Ty where
 |int (k:IntKind)
 |bool
 |str
 |sl (e:Ty)
 |pair (a b:Ty)
abbrev A7:Ty:=.int .i64
abbrev Ty.D:Ty->Type
 | .int _=>Int
 | .bool=>Bool
 | .str=>ByteArray
 | .sl e=>List e.D
 | .pair a b=>a.D×b.D
def Ty.n:Ty->Nat
 | .pair a b=>a.n+b.n
 |_=>1
def Ty.dflt:(t:Ty)->t.D
 | .int _=>(0:Y)
 | .bool=>X
 | .str=>ByteArray.empty
 | .sl _=>[]
 | .pair a b=>(a.dflt,b.dflt)
abbrev gx {e:Ty}(l:List e.D) (n:Y):e.D:=l.getD n.toNat e.dflt
def RD (Z:aVx->Prop) (w:aVJ):(t:Ty)->t.D->aVx->aVx->Prop
 | .int k,n,b,o=>w.cell? ⟨b,o,aj⟩=ah (ag k n)
 | .bool,x,b,o=>w.cell? ⟨b,o,aj⟩=ah (.bool x)
 | .str,s,b,o=>w.cell? ⟨b,o,aj⟩=ah (.string s)
 | .sl e,l,b,o=>∃a cap,w.cell? ⟨b,o,aj⟩=ah (.slice a (M l) cap)/\M l<=cap/\(0<M l->∃b' o',a=ah ⟨b',o',aj⟩/\Z b'/\∀(i:aVx) (d:e.D),l[i]? =ah d->RD Z w e d b' (o'+i*e.n))
 | .pair x y,d,b,o=>RD Z w x d.1 b o/\RD Z w y d.2 b (o+x.n)
def Qd {w w':aVJ}{b o:aVx}(h:w'.heap[b]? =w.heap[b]?):w'.cell? ⟨b,o,aj⟩=w.cell? ⟨b,o,aj⟩:=World.cell?_of_block (w:=w) (w':=w') h
def RD.keep {Z Z':aVx->Prop}{w w':aVJ}(hZ:∀b,Z b->Z' b) (hw:∀b,Z b->w'.heap[b]? =w.heap[b]?):
  ∀(t:Ty) (d:t.D) (b o:aVx),w'.heap[b]? =w.heap[b]? ->RD Z w t d b o->RD Z' w' t d b o
 | .int _,_,b,o,hb,h=>yf
 | .bool,_,b,o,hb,h=>yf
 | .str,_,b,o,hb,h=>yf
 | .sl e,l,b,o,hb,h=>by
  obtain ⟨a,cap,h1,h2,h3⟩:=h;refine ⟨a,cap,by rw [Qd hb];exact h1,h2,λhn=>?_⟩
  obtain ⟨b',o',h4,h5,h6⟩:=h3 hn;exact ⟨b',o',h4,hZ _ h5,λi d hd=>RD.keep hZ hw e d b' _ (hw b' h5)<|h6 i d hd⟩
 | .pair x y,d,b,o,hb,h=>by
  exact ⟨RD.keep hZ hw x d.1 b o hb h.1,RD.keep hZ hw y d.2 b _ hb h.2⟩
def RD.mono {Z Z':aVx->Prop}{w w':aVJ}(hZ:∀b,Z b->Z' b) (hw:∀b,Z b->w'.heap[b]? =w.heap[b]?) (t:Ty) (d:t.D) (b o:aVx) (hz:Z b) (h:RD Z w t d b o):RD Z' w' t d b o:=RD.keep hZ hw t d b o (hw b hz) h
structure Loc where
 (b o:aVx)
 cap:aVZ
def aWe:qT (Loc):=⟨⟩
instance:Inhabited Loc:=⟨⟨0,0,aj⟩⟩
inductive LV where
 |v (x:Value)
 |bl (b:Bool)
 |ki (k:IntKind) (n:Int)
 |own (k off:Nat)
 |agg (l:List LV)
 |AO (l:List LV)
 |fn (f:FuncId) (cap:List LV)
 |fb (f:FuncId) (fs:List LV)
 |xq (n:Nat) (f:Nat->LV)
 |xl (e:Ty) (l:List e.D)
 |os (k es off n:Nat)
 |op (k es i j:Nat)
 |om (k:Nat)
 |mp (kd:IntKind) (ks:List Int) (vs:List LV)
 |oc (k es off n c:Nat)
 |CS (k:Nat)
 |junk
def aVy:qT (List LV):=⟨⟩
def aV2:qT (List<|Nat×LV):=⟨⟩
def aWy:qT (Option LV):=⟨⟩
def aWE:qT (List<|List LV):=⟨⟩
mutual
def R (β:aVx->aWe) (Z:aVx->Prop) (w:aVJ):LV->aVQ->Prop
 | .v x,y=>y=x
 | .bl b,y=>y=.bool b
 | .ki k n,y=>y=ag k n
 | .own k off,y=>y=.pointer (ah ⟨(β k).b,off,aj⟩)
 | .agg l,y=>∃ys,y=.agg ys/\RL β Z w l ys.toList
 | .AO l,y=>∃ys,y=.tuple ys/\RL β Z w l ys.toList
 | .fn f cap,y=>∃ys,y=.func (.func f) #[] ys/\RL β Z w cap ys.toList
 | .fb f cap,y=>∃ys,y=.func (.func f) ys #[]/\RL β Z w cap ys.toList
 | .xq n f,y=>∃b off,y=.pointer (ah ⟨b,off,aj⟩)/\Z b/\∀j,j<n->∃z,w.cell? ⟨b,off+j,aj⟩=ah z/\R β Z w (f j) z
 | .xl e l,y=>∃a cap,y=.slice a (M l) cap/\M l<=cap/\(0<M l->∃b off,a=ah ⟨b,off,aj⟩/\Z b/\∀(i:aVx) (d:e.D),l[i]? =ah d->RD Z w e d b (off+i*e.n))
 | .os k es off n,y=>match (β k).cap with
  |none=>n=0/\off=0/\y=.slice aj 0 0
  |some c=>off+n<=c/\∃a,y=.slice (ah a) n (c-off)/\(0<c-off->a=⟨(β k).b,(β k).o+off*es,aj⟩)
 | .op k es i j,y=>(β k).cap≠aj/\y=.pointer (ah ⟨(β k).b,(β k).o+i*es+j,aj⟩)
 | .om k,y=>y=.map (ah (β k).b)
 | .mp kd ks vs,y=>∃r es clock,y=.map (ah r)/\Z r/\w.heap[r]? =ah (.map es clock)/\es.toList.map (·.key)=ks.map (.int kd)/\RL β Z w vs (es.toList.map (·.val))
 | .oc k es off n c,y=>off+n<=c/\∃a,y=.slice (ah a) n (c-off)/\(0<c-off->a=⟨(β k).b,off*es,aj⟩)
 | .CS k,y=>y=.func (.yield (β k).b) #[] #[]
 | .junk,_=>True
def RL (β:aVx->aWe) (Z:aVx->Prop) (w:aVJ):aVy->aVO->Prop
 | [],ys=>ys=[]
 |x::xs,ys=>∃y zs,ys=y::zs/\R β Z w x y/\RL β Z w xs zs
end
/-Which own blocks a value names:all below n. -/
mutual
def okV (n:aVx):LV->Prop
 | .v _=>True
 | .bl _=>True
 | .ki _ _=>True
 | .own k _=>k<n
 | .agg l=>AT n l
 | .AO l=>AT n l
 | .fn _ cap=>AT n cap
 | .fb _ cap=>AT n cap
 | .xq _ f=>∀j,okV 0 (f j)
 | .xl _ _=>True
 | .os k _ _ _=>k<n
 | .op k _ _ _=>k<n
 | .om k=>k<n
 | .mp _ _ vs=>AT n vs
 | .oc k _ _ _ _=>k<n
 | .CS k=>k<n
 | .junk=>True
def AT (n:aVx):aVy->Prop
 | []=>True
 |x::xs=>okV n x/\AT n xs
end
mutual
def okV.mono {n m:aVx}(h:n<=m):∀(x:LV),okV n x->okV m x
 | .v _,_=>trivial
 | .bl _,_=>trivial
 | .ki _ _,_=>trivial
 | .own k _,hk=>Vq
 | .agg l,hk=>nJ
 | .AO l,hk=>nJ
 | .fn _ l,hk=>nJ
 | .fb _ l,hk=>nJ
 | .xq _ f,hk=>by simp only [okV] at*;exact hk
 | .xl _ _,_=>trivial
 | .os k _ _ _,hk=>Vq
 | .op k _ _ _,hk=>Vq
 | .om k,hk=>Vq
 | .mp _ _ vs,hk=>by simp only [okV] at*;exact AT.mono h vs hk
 | .oc k _ _ _ _,hk=>Vq
 | .CS k,hk=>Vq
 | .junk,_=>trivial
def AT.mono {n m:aVx}(h:n<=m):∀(x:aVy),AT n x->AT m x
 | [],_=>trivial
 |x::xs,hk=>by simp only [AT] at*;exact ⟨okV.mono h x hk.1,AT.mono h xs hk.2⟩
end
mutual
def R.mono {β β':aVx->aWe}{Z Z':aVx->Prop}{w w':aVJ}{n:aVx}(hβ:∀k,k<n->β' k=β k) (hZ:∀b,Z b->Z' b) (hw:∀b,Z b->w'.heap[b]? =w.heap[b]?):
  ∀(x:LV) (y:aVQ),okV n x->R β Z w x y->R β' Z' w' x y
 | .v _,_,_,h=>h
 | .bl _,_,_,h=>h
 | .ki _ _,_,_,h=>h
 | .own k off,y,hk,h=>by simp only [R,okV] at*;rw [h,hβ k hk]
 | .agg l,y,hk,h=>by
  exact mV
 | .AO l,y,hk,h=>by
  exact mV
 | .fn f l,y,hk,h=>by
  exact mV
 | .fb f l,y,hk,h=>by
  exact mV
 | .xq n f,y,hk,h=>by
  simp only [R,okV] at*;obtain ⟨b,off,h1,hz,h2⟩:=h;refine ⟨b,off,h1,hZ b hz,λj hj=>?_⟩
  obtain ⟨z,h3,h4⟩:=h2 j hj;exact ⟨z,by rw [Qd (hw b hz)];exact h3,R.mono hβ hZ hw (f j) z (okV.mono (NV _) _ (hk j)) h4⟩
 | .xl e l,y,hk,h=>by
  simp only [R] at*;obtain ⟨a,cap,h1,h2,h3⟩:=h;refine ⟨a,cap,h1,h2,λhn=>?_⟩
  obtain ⟨b,off,h4,h5,h6⟩:=h3 hn;exact ⟨b,off,h4,hZ b h5,λi d hd=>RD.mono hZ hw e d b _ h5 (h6 i d hd)⟩
 | .os k es off n,y,hk,h=>aX
 | .op k es i j,y,hk,h=>aX
 | .om k,y,hk,h=>aX
 | .mp kd ks vs,y,hk,h=>by
  simp only [R,okV] at*;obtain ⟨r,es,clock,h1,h2,h3,h4,h5⟩:=h;exact ⟨r,es,clock,h1,hZ r h2,by rw [hw r h2];exact h3,h4,RL.mono hβ hZ hw vs _ hk h5⟩
 | .oc k es off n c,y,hk,h=>aX
 | .CS k,y,hk,h=>aX
 | .junk,_,_,_=>Jm
def RL.mono {β β':aVx->aWe}{Z Z':aVx->Prop}{w w':aVJ}{n:aVx}(hβ:∀k,k<n->β' k=β k) (hZ:∀b,Z b->Z' b) (hw:∀b,Z b->w'.heap[b]? =w.heap[b]?):
  ∀(x:aVy) (y:aVO),AT n x->RL β Z w x y->RL β' Z' w' x y
 | [],_,_,h=>aP6
 |x::xs,ys,hk,h=>by
  simp only [RL,AT] at*;obtain ⟨y,zs,h1,h2,h3⟩:=h;exact ⟨y,zs,h1,R.mono hβ hZ hw x y hk.1 h2,RL.mono hβ hZ hw xs zs hk.2 h3⟩
end
def Br:(t:Ty)->t.D->List LV
 | .int k,n=>[.v<|ag k n]
 | .bool,b=>[.v<|.bool b]
 | .str,s=>[.v<|.string s]
 | .sl e,l=>[.xl e l]
 | .pair a b,d=>Br a d.1++Br b d.2
def KM:∀(t:Ty) (d:t.D),M (Br t d)=t.n
 | .int _,_=>rfl
 | .bool,_=>rfl
 | .str,_=>rfl
 | .sl _,_=>rfl
 | .pair a b,d=>by simp only [Br,BI,Ty.n,KM a d.1,KM b d.2]
def No (n:aVx):∀(t:Ty) (d:t.D),AT n (Br t d)
 | .int _,_=>⟨ak,ak⟩
 | .bool,_=>⟨ak,ak⟩
 | .str,_=>⟨ak,ak⟩
 | .sl _,_=>⟨ak,ak⟩
 | .pair a b,d=>by
  have app:∀(l1 l2:aVy),AT n l1->AT n l2->AT n (l1++l2):=by
   intro l1
   induction l1 with
   |nil=>intro l2 _ h;exact h
   |cons x xs ih=>intro l2 h1 h2;exact ⟨h1.1,ih l2 h1.2 h2⟩
  simp only [Br];exact app _ _ (No n a d.1)<|No n b d.2
def XE {β:aVx->aWe}{Z:aVx->Prop}{w:aVJ}:∀(t:Ty) (d:t.D) (b o:aVx),RD Z w t d b o->∀(j:aVx) (x:LV),(Br t d)[j]? =ah x->∃z,w.cell? ⟨b,o+j,aj⟩=ah z/\R β Z w x z
 | .int k,n,b,o,h,j,x,hx=>by
  exact y6
 | .bool,n,b,o,h,j,x,hx=>by
  exact y6
 | .str,n,b,o,h,j,x,hx=>by
  exact y6
 | .sl e,l,b,o,h,j,x,hx=>by
  simp only [Br] at hx;cases j with
  |zero=>
   simp at hx;subst hx
   simp only [RD] at h;obtain ⟨a,cap,h1,h2,h3⟩:=h;exact ⟨_,h1,by simp only [R];exact ⟨a,cap,rfl,h2,h3⟩⟩
  |succ j=>simp at hx
 | .pair p q,d,b,o,h,j,x,hx=>by
  simp only [Br] at hx;simp only [RD] at h
  by_cases hj:j<p.n
  ·rw [Ho (by rw [KM];exact hj)] at hx
   exact XE p d.1 b o h.1 j x hx
  ·rw [Gc zP,KM] at hx
   obtain ⟨z,h1,h2⟩:=XE q d.2 b (o+p.n) h.2 (j-p.n) x hx;exact ⟨z,by rw [show o+j=o+p.n+(j-p.n) by omega];exact h1,h2⟩
def RL.length {β:aVx->aWe}{Z:aVx->Prop}{w:aVJ}:∀ {l:aVy}{ys:aVO},RL β Z w l ys->M ys=M l
 | [],ys,h=>by simp only [RL] at h;simp [h]
 |x::xs,ys,h=>by
  simp only [RL] at h;obtain ⟨y,zs,rfl,_,h3⟩:=h
  simp [RL.length h3]
def RL.get {β:aVx->aWe}{Z:aVx->Prop}{w:aVJ}:∀ {l:aVy}{ys:aVO}(i:aVx) (x:LV),RL β Z w l ys->l[i]? =ah x->∃y,ys[i]? =ah y/\R β Z w x y
 | [],ys,i,x,_,hx=>by simp at hx
 |x0::xs,ys,i,x,h,hx=>by
  simp only [RL] at h;obtain ⟨y,zs,rfl,h2,h3⟩:=h;cases i with
  |zero=>simp at hx;subst hx;exact ⟨y,AI,h2⟩
  |succ i=>simp at hx;obtain ⟨y',h4,h5⟩:=RL.get i x h3 hx;exact ⟨y',by simpa using h4,h5⟩
def AT.get {n:aVx}:∀ {l:aVy}(i:aVx) (x:LV),AT n l->l[i]? =ah x->okV n x
 | [],i,x,_,hx=>by simp at hx
 |x0::xs,i,x,h,hx=>by
  simp only [AT] at h;cases i with
  |zero=>simp at hx;subst hx;exact h.1
  |succ i=>simp at hx;exact AT.get i x h.2 hx
def RL.CZ {β:aVx->aWe}{Z:aVx->Prop}{w:aVJ}:∀ {l:aVy}{ys:aVO},M ys=M l->(∀(i:aVx) (x:LV),l[i]? =ah x->∃y,ys[i]? =ah y/\R β Z w x y)->RL β Z w l ys
 | [],ys,hl,_=>by simp only [RL];exact MV.1 hl
 |x::xs,[],hl,_=>bU
 |x::xs,y::ys,hl,h=>by
  simp only [RL];refine ⟨y,ys,rfl,?_,RL.CZ nM λi x' hx=>?_⟩
  ·obtain ⟨y',h1,h2⟩:=h 0 x AI;simp at h1;subst h1;exact h2
  ·obtain ⟨y',h1,h2⟩:=h (i+1) x' yr;exact ⟨y',by simpa using h1,h2⟩
def AT.CZ {n:aVx}:∀ {l:aVy},(∀(i:aVx) (x:LV),l[i]? =ah x->okV n x)->AT n l
 | [],_=>trivial
 |x::xs,h=>by simp only [AT];exact ⟨h 0 x AI,AT.CZ λi x' hx=>h (i+1) x' yr⟩
inductive T (α:Type) where
 |ok (x:α)
 |br (b:Bool) (t e:T α)
 |req (p:Prop) (t:T α)
 |no
def T.rv {β:Type}(x:LV) (t:T β):T β:=.req (x=x) t
def T.rl {α β:Type}(l:List α) (t:T β):T β:=.req (0=0/\M l=M l) t
def T.bind {α β:Type}(k:α->T β):T α->T β
 | .ok x=>k x
 | .br b t e=> .br b (t.bind k) (e.bind k)
 | .req p t=> .req p (t.bind k)
 | .no=> .no
def T.all {α:Type}(K:α->Prop):T α->Prop
 | .ok x=>K x
 | .br b t e=>(b=U->t.all K)/\(b=X->e.all K)
 | .req p t=>p/\t.all K
 | .no=>False
def T.all_bind {α β:Type}{k:α->T β}{K:β->Prop}:∀ {t:T α},(t.bind k).all K↔t.all (λx=>(k x).all K)
 | .ok _=>Iff.rfl
 | .br b t e=>by simp only [T.bind,T.all];rw [T.all_bind,T.all_bind]
 | .req p t=>by simp only [T.bind,T.all];rw [T.all_bind]
 | .no=>Iff.rfl
def T.Bb {α:Type}{K K':α->Prop}(h:∀x,K x->K' x):∀ {t:T α},t.all K->t.all K'
 | .ok _,hh=>h _ hh
 | .br b t e,hh=>⟨λhb=>T.Bb h<|hh.1 hb,λhb=>T.Bb h<|hh.2 hb⟩
 | .req p t,hh=>⟨hh.1,T.Bb h hh.2⟩
 | .no,hh=>hh
def J9 {α:Type}(P:aVM):Sem α->Option α
 | .pure a=>ah a
 | .program k=>J9 P (k P)
 | .mark _ k=>J9 P k
 |_=>aj
def cV {α:Type}{P:aVM}(w:aVJ):∀ {s:Sem α}{a:α},J9 P s=ah a->s.run P w=.ok a w
 | .pure _,_,h=>by simp only [J9,Ah] at h;subst h;rfl
 | .program k,_,h=>by simp only [J9] at h;exact cV w (s:=k P) h
 | .mark _ k,_,h=>by simp only [J9] at h;exact cV w (s:=k) h
 | .load ..,_,h| .store ..,_,h| .new ..,_,h| .shape ..,_,h| .freeze ..,_,h| .frozen ..,_,h| .getObj ..,_,h| .setObj ..,_,h| .choose ..,_,h| .sys ..,_,h| .halt ..,_,h=>by simp [J9] at h
inductive Ex where
 |normal
 |exit (n:Nat)
 |ret
def aWG:qT (List Ex):=⟨⟩
inductive LS where
 |ready
 |busy
 |done (x:Ex)
inductive BK where
 |cl
 |vec (e:Ty) (l:List e.D)
 |mp (kd:IntKind) (ks:List Int) (vs:List LV)
 |Cr (ps:Array Tmp) (asg body:Code) (st:LS)
 |st (e:Ty) (l:List e.D)
 |dead
structure AB where
 c:aVy
 t:aVN
 k:BK
 p:aVH
def aVB:qT (List AB):=⟨⟩
def aWr:qT (Option AB):=⟨⟩
def AB.E4 (b:AB):aVH:=
 match b.k with
 | .cl=>U
 |_=>X
abbrev B3:=Nat->Option (Nat×(Nat->aVQ))
abbrev Specs:=FuncId->Option (List LV->T LV)
def aWb:qT (Specs):=⟨⟩
def pl:LV->Option Value
 | .v x=>ah x
 | .bl b=>ah (.bool b)
 | .ki k n=>ah (ag k n)
 | .fn f []=>ah (.func (.func f) #[] #[])
 |_=>aj
def B1:aVy->Option (List Value)
 | []=>ah []
 |x::xs=>match pl x,B1 xs with
  |some y,ah ys=>ah (y::ys)
  |_,_=>aj
def norm:LV->LV
 | .bl b=> .v (.bool b)
 | .ki k n=> .v (ag k n)
 |x=>x
def Jz (l:aVy):LV:=match B1 l with|some ys=> .v (.agg ys.toArray) |none=> .agg<|l.map norm
def RY (l:aVy):LV:=match B1 l with|some ys=> .v (.tuple ys.toArray) |none=> .AO<|l.map norm
def K7:aVQ->Bool
 | .agg _=>X
 | .tuple _=>X
 |_=>U
def Wz:LV->Bool
 | .v x=>K7 x
 | .agg _=>X
 | .AO _=>X
 | .junk=>X
 |_=>U
def CQ:LV->Option (List LV)
 | .v x=>if x.cells.toList.all K7 then ah (x.cells.toList.map .v) else aj
 | .agg l=>if l.all Wz then ah l else aj
 | .AO _=>aj
 | .junk=>aj
 |x=>ah [x]
def HM (P:aVM) (t:aVN):aVZ:=(P.info? t).map (·.size)
def Ic (P:aVM) (t:aVN):aWk:=(P.info? t).bind (·.zero)
def SZ (P:aVM) (t:aVN):Option Bool:=(P.underlying t).map fun| .struct _=>U| .array _ _=>U|_=>X
def AM (G:B3) (F:aVy):aWc->LV
 | .tmp t=>F.getD t .junk
 | .const x=>match x with| .bool b=> .bl b| ag k n=> .ki k n|y=> .v y
 | .global g=>match G g with|some (n,f)=> .xq n (λj=> .v<|f j) |none=> .junk
 | .func f=> .fn f []
def setAt (l:aVy) (off:aVx) (cs:aVy):aVy:=l.take off++cs++l.drop (off+M cs)
def x6 (k:aWh):LV->Option Int
 | .v (.int k' n)=>if k'=k then ah n else aj
 | .ki k' n=>if k'=k then ah n else aj
 |_=>aj
def x7:LV->Option Bool
 | .v (.bool b)=>ah b
 | .bl b=>ah b
 |_=>aj
def wz:LV->Option ByteArray
 | .v (.string s)=>ah s
 |_=>aj
def K0:(a b:Ty)->Option (PLift<|a=b)
 | .int k,.int k'=>if h:k=k' then ah ⟨W0⟩ else aj
 | .bool,.bool=>ah ⟨rfl⟩
 | .str,.str=>ah ⟨rfl⟩
 | .sl x,.sl y=>match K0 x y with
  |some ⟨h⟩=>ah ⟨W0⟩
  |none=>aj
 | .pair x y,.pair x' y'=>match K0 x x',K0 y y' with
  |some ⟨h⟩,ah ⟨h'⟩=>ah ⟨by rw [h,h']⟩
  |_,_=>aj
 |_,_=>aj
def Ks {a b:Ty}(h:a=b) (l:List a.D):List b.D:=h▸l
def NL (e:Ty):LV->Option (List e.D)
 | .xl e' l=>match K0 e' e with
  |some ⟨h⟩=>ah (Ks h l)
  |none=>aj
 | .v (.slice aj 0 0)=>ah []
 |_=>aj
def hd1 {α:Type}(f:LV->Option α):aVy->Option α
 | [x]=>f x
 |_=>aj
def K4:(t:Ty)->aVy->Option t.D
 | .int k,l=>hd1 (x6 k) l
 | .bool,l=>hd1 x7 l
 | .str,l=>hd1 wz l
 | .sl e,l=>hd1 (NL e) l
 | .pair a b,l=>match K4 a (l.take a.n),K4 b (l.drop a.n) with
  |some x,ah y=>ah (x,y)
  |_,_=>aj
def FW (P:aVM) (H:aVB) (t:aVN) (x:LV):T LV:=
 match SZ P t,HM P t with
 | some U,ah n=>
  match x with
  | .own k off=>match H[k]? with
   |some b=>if b.E4=U/\off+n<=M b.c then .ok (Jz<|(b.c.drop off).take n) else .no
   |none=> .no
  | .xq m f=>if n<=m then .ok (Jz<|(au n).map f) else .no
  | .op k es i j=>match H[k]? with
   |some ⟨_,_,.vec e l,_⟩=>if e.n=es/\j+n<=es then .req (i<M l) (.ok<|Jz<|((Br e<|l.getD i e.dflt).drop j).take n) else .no
   |_=> .no
  |_=> .no
 | some X,_=>
  match x with
  | .own k off=>match H[k]? with
   |some b=>if b.E4=U then (match b.c[off]? with
    |some y=> .ok y
    |none=> .no) else .no
   |none=> .no
  | .xq m f=>if 0<m then .ok (f 0) else .no
  | .op k es i j=>match H[k]? with
   |some ⟨_,_,.vec e l,_⟩=>if e.n=es then .req (i<M l) (match (Br e<|l.getD i e.dflt)[j]? with
    |some y=> .ok y
    |none=> .no) else .no
   |_=> .no
  |_=> .no
 |_,_=> .no
def Tt (P:aVM) (H:aVB) (t:aVN) (x y:LV):T (List AB):=
 match HM P t,CQ y with
 | some n,ah cs=>match x with
  | .own k off=>match H[k]? with
   |some b=>if b.E4=U/\b.p=X/\M cs=n/\off+n<=M b.c then .ok (H.set k ⟨setAt b.c off cs,b.t,b.k,b.p⟩) else .no
   |none=> .no
  | .op k es i j=>match H[k]? with
   |some ⟨_,bt,.vec e l,X⟩=>if e.n=es/\M cs=n/\j+n<=es then .req (i<M l) (match K4 e (setAt (Br e<|l.getD i e.dflt) j cs) with
    |some d=> .ok (H.set k ⟨[],bt,.vec e<|l.set i d,X⟩)
    |none=> .no) else .no
   |_=> .no
  |_=> .no
 |_,_=> .no
def XD (P:aVM) (s:aVN) (x:LV) (i:aVx):T LV:=
 match P.underlying s with
 | some (.struct fs)=>match fs[i]? with
  | some f=>match HM P f.type with
   |some (m+1)=>match x with
    | .own k off=> .ok (.own k<|off+f.offset)
    | .op k es i j=> .ok (.op k es i<|j+f.offset)
    | .xq n g=>if f.offset+(m+1)<=n then .ok (.xq (n-f.offset) λj=>g<|f.offset+j) else .no
    |_=> .no
   |_=> .no
  |none=> .no
 |_=> .no
def wh (P:aVM) (t:aVN) (l:aVy) (i:aVx):T LV:=
 match P.underlying t with
 | some (.struct fs)=>match fs[i]? with
  | some f=>match SZ P f.type,HM P f.type with
   |some U,ah n=>if f.offset+n<=M l then .ok (Jz<|(l.drop f.offset).take n) else .no
   |some X,_=>match l[f.offset]? with
    |some y=> .ok y
    |none=> .no
   |_,_=> .no
  |none=> .no
 |_=> .no
def xC:LV->Option (List LV)
 | .agg l=>ah l
 | .v (.agg ys)=>ah (ys.toList.map .v)
 |_=>aj
def wY (P:aVM) (t:aVN) (l:aVy) (i:LV):T LV:=
 match P.underlying t,i with
 |some (.array len e),.ki _ j=>match SZ P e,HM P e,l[j.toNat]? with
  |some X,ah 1,ah y=>if 0<=j/\j<(len:Y) then .ok y else .no
  |_,_,_=> .no
 |_,_=> .no
def chain (n:Y) (g:aVx->LV):aVx->aVx->T LV
 |0,_=> .no
 |m+1,j=> .br (n==(j:Y)) (.ok<|g j)<|chain n g m<|j+1
def VN:LV->Bool
 | .ki _ _=>U
 |_=>X
def addN:aVx->aVx->Nat
 |0,n=>n
 |m+1,n=>m+1+n
def avQ:∀(m n:aVx),addN m n=m+n
 |0,n=>by simp [addN]
 |m+1,n=>rfl
def Tx (P:aVM) (t:aVN) (x:LV) (c:aVH) (i:LV):T LV:=
 match pl i with
 | some (.int _ n)=>match P.underlying t with
  | some (.array len e)=>match HM P e with
   |some (m+1)=>match x with
    | .op k es i j=>if c then (if 0<=n/\n<len then .ok (.op k es i<|j+n.toNat*(m+1)) else .no) else chain n (λq=> .op k es i<|j+q*(m+1)) len 0
    | .own k off=>if c then (if 0<=n/\n<len then .ok (.own k<|off+n.toNat*(m+1)) else .no) else chain n (λj=> .own k<|off+j*(m+1)) len 0
    | .xq q g=>if len*(m+1)<=q then (if c then (if 0<=n/\n<len then .ok (.xq (m+1) λj=>g<|n.toNat*(m+1)+j) else .no) else if len=3 then chain n (λi=> .xq (m+1) λj=>g<|i*(m+1)+j) len 0 else .req (0<=n/\n<(len:Y)) (.ok<|.xq (m+1) λj=>g<|n.toNat*(m+1)+j)) else .no
    |_=> .no
   |_=> .no
  |some (.slice e)=>match HM P e,x with
   |some (m+1),.xl e' l=>if e'.n=m+1 then .req (0<=n/\n<(M l:Y)) (.ok<|.xq (m+1) λj=>(Br e'<|gx l n).getD j .junk) else .no
   |some (m+1),.os k es off len=>if es=m+1 then .req (0<=n/\n<(len:Y)) (.ok<|.op k es (addN off n.toNat) 0) else .no
   |some (m+1),.oc k es off len cp=>if es=m+1 then (if c then (if 0<=n/\n<(len:Y) then .ok (.own k<|(off+n.toNat)*(m+1)) else .no) else chain n (λj=> .own k<|(off+j)*(m+1)) len 0) else .no
   |_,_=> .no
  |_=> .no
 |_=> .no
def Kq (place:aVx->aWx) (cells:aVy):aV2->Option (List LV)
 | []=>ah cells
 |(i,x)::rest=>match place i,CQ x with
  |some (off,size),ah cs=>if M cs=size/\off+size<=M cells then Kq place (setAt cells off cs) rest else aj
  |_,_=>aj
def aQE (P:aVM) (t:aVN):Option (Nat->Option (Nat×Nat)):=
 match P.underlying t with
 |some (.struct fields)=>(fields.toList.mapM λf=>(P.info? f.type).map λi=>(f.offset,i.size)).map λps=>λi=>ps.toArray[i]?
 |some (.array _ e)=>(P.info? e).map λie=>λi=>ah (i*ie.size,ie.size)
 |_=>aj
def Nz (P:aVM) (t:aVN) (parts:aV2):T LV:=
 match Ic P t,aQE P t with
 |some z,ah pf=>match Kq pf (z.cells.toList.map .v) parts with
  |some cs=> .ok (if parts.any (λq=>VN q.2) then .agg cs else Jz cs)
  |none=> .no
 |_,_=> .no
def I1 (G:B3) (F:aVy):aWc->LV
 | .const x=>norm (AM G F<|.const x)
 |o=>AM G F o
def C3 (H:aVB):aVx->LV->LV
 |0,_=> .junk
 |d+1,.own k off=>match H[k]? with
  |some b=>if b.E4 then .xq (M b.c-off) (λj=>C3 H d<|b.c.getD (off+j) .junk) else .junk
  |none=> .junk
 |_+1,.os k es off n=>match H[k]? with
  |some ⟨_,_,.vec e l,_⟩=>if e.n=es then .xl e ((l.drop off).take n) else .junk
  |_=> .junk
 |_+1,.op k es i j=>match H[k]? with
  |some ⟨_,_,.vec e l,_⟩=>if e.n=es then .xq (es-j) (λq=>(Br e<|l.getD i e.dflt).getD (j+q) .junk) else .junk
  |_=> .junk
 |d+1,.om k=>match H[k]? with
  |some ⟨_,_,.mp kd ks vs,_⟩=> .mp kd ks (vs.map<|C3 H d)
  |_=> .junk
 |_+1,.v x=> .v x
 |_+1,.bl x=> .v (.bool x)
 |_+1,.ki k n=> .v (ag k n)
 |d+1,.agg l=> .agg (l.map<|C3 H d)
 |d+1,.AO l=> .AO (l.map<|C3 H d)
 |d+1,.fn f l=> .fn f (l.map<|C3 H d)
 |d+1,.fb f l=> .fb f (l.map<|C3 H d)
 |_+1,.xq n f=> .xq n f
 |_+1,.xl e l=> .xl e l
 |d+1,.mp kd ks vs=> .mp kd ks (vs.map<|C3 H d)
 |_+1,.oc ..=> .junk
 |_+1,.CS _=> .junk
 |_+1,.junk=> .junk
def GN {α:Type}(g:α->T Unit):List α->T Unit
 | []=> .ok ()
 |x::xs=>(g x).bind λ_=>GN g xs
def EY (H:aVB):aVx->LV->T Unit
 |0,_=> .ok ()
 |d+1,.own k _=>match H[k]? with
  |some b=>GN (EY H d) b.c
  |none=> .ok ()
 |_+1,.os k _ off n=>match H[k]? with
  |some ⟨_,_,.vec _ l,_⟩=> .req (off+n<=M l) (.ok ())
  |_=> .ok ()
 |_+1,.op k _ i _=>match H[k]? with
  |some ⟨_,_,.vec _ l,_⟩=> .req (i<M l) (.ok ())
  |_=> .ok ()
 |d+1,.om k=>match H[k]? with
  |some ⟨_,_,.mp _ _ vs,_⟩=>GN (EY H d) vs
  |_=> .ok ()
 |d+1,.agg l=>GN (EY H d) l
 |d+1,.AO l=>GN (EY H d) l
 |d+1,.fn _ l=>GN (EY H d) l
 |d+1,.fb _ l=>GN (EY H d) l
 |d+1,.mp _ _ l=>GN (EY H d) l
 |_+1,_=> .ok ()
mutual
def noOwn:LV->Bool
 | .own _ _=>X
 | .os ..=>X
 | .op ..=>X
 | .om _=>X
 | .oc ..=>X
 | .CS _=>X
 | .agg l=>noOwnL l
 | .AO l=>noOwnL l
 | .fn _ l=>noOwnL l
 | .fb _ l=>noOwnL l
 | .mp _ _ l=>noOwnL l
 |_=>U
def noOwnL:aVy->Bool
 | []=>U
 |x::xs=>noOwn x&&noOwnL xs
end
/-Which own blocks a value names. -/
mutual
def owns:LV->List Nat
 | .own k _=>[k]
 | .os k _ _ _=>[k]
 | .op k _ _ _=>[k]
 | .om k=>[k]
 | .oc k _ _ _ _=>[k]
 | .CS k=>[k]
 | .agg l=>ownsL l
 | .AO l=>ownsL l
 | .fn _ l=>ownsL l
 | .fb _ l=>ownsL l
 | .mp _ _ l=>ownsL l
 |_=>[]
def ownsL:aVy->List Nat
 | []=>[]
 |x::xs=>owns x++ownsL xs
end
def AB.owns (b:AB):aVC:=ownsL b.c++(match b.k with| .mp _ _ vs=>ownsL vs|_=>[])
def reach (H:aVB):aVx->aVC->aVC->List Nat
 |0,_,acc=>acc
 |_+1,[],acc=>acc
 |d+1,k::ks,acc=>if acc.contains k then reach H d ks acc else reach H d (ks++(match H[k]? with|some b=>b.owns|none=>[])) (acc++[k])
def KZ (H:aVB) (ks:aVC) (l:aVy):aVH:=
 (ownsL l).all ks.contains&&ks.all (λk=>match H[k]? with|some b=>b.owns.all ks.contains|none=>X)
def Ft (ks:aVC):aVx->aVB->List AB
 |_,[]=>[]
 |k,b::bs=>(if ks.contains k then ⟨b.c,b.t,b.k,U⟩ else b)::Ft ks (k+1) bs
def SY (x:LV):aVH:=(pl x).isSome
def Qz:T LV->T LV
 | .ok x=>if SY x then .ok x else .no
 | .br b t e=> .br b (Qz t) (Qz e)
 | .req p t=> .req p (Qz t)
 | .no=> .no
def j6 (c a b:LV):T LV:=
 match c with
 | .bl U=> .ok a
 | .bl X=> .ok b
 | .v (.bool g)=>match norm a,norm b with
  | .v (ag k n),.v (.int k' m)=>if k=k' then .ok (.v<|ag k (if g then n else m)) else .no
  | .v (.bool p),.v (.bool q)=> .ok (.v<|.bool (if g then p else q))
  |_,_=> .br g (.ok a) (.ok b)
 |_=> .no
def VW:aV1->Bool
 | []=>U
 | [p]=>p
 |p::ps=>p&&VW ps
mutual
def eqV (P:aVM):aVx->aVN->aVQ->aVQ->Option Bool
 |0,_,_,_=>aj
 |d+1,t,x,y=>match P.underlying t,x,y with
  |some (.int _),ag k a,.int k' b=>if k=k' then ah (a==b) else aj
  |some .bool,.bool a,.bool b=>ah (a==b)
  |some .string,.string a,.string b=>ah (a==b)
  |some (.struct fs),.agg xs,.agg ys=>if P.stoodInHeld t then aj else (eqFs P d xs ys fs.toList).map VW
  |_,_,_=>aj
def eqFs (P:aVM):aVx->aVS->aVS->aWF->Option (List Bool)
 |_,_,_,[]=>ah []
 |0,_,_,_::_=>aj
 | d+1,xs,ys,f::fs=>if f.name= "_" then aj else match J9 P (part f.type xs f.offset),J9 P (part f.type ys f.offset) with
  |some a,ah b=>match eqV P d f.type a b,eqFs P d xs ys fs with
   |some p,ah ps=>ah (p::ps)
   |_,_=>aj
  |_,_=>aj
end
def aT1:BinOp->Option Bool
 | .eql=>ah X
 | .neq=>ah U
 |_=>aj
def R5 (P:aVM) (o:Op) (e:aWc->aVQ):Option (Option Value):=
 match o with
 | .binOp op t x y _=>match aT1 op with
  | some neg=>match e x,e y with
   | .agg xs,.agg ys=>ah (match J9 P (eqGuard op t x y (.agg xs)<|.agg ys),eqV P 100 t (.agg xs) (.agg ys) with
    |some _,ah b=>ah (.bool (match neg with|true=>!b|false=>b))
    |_,_=>aj)
   |_,_=>aj
  |none=>aj
 |_=>aj
def Oe (P:aVM) (o:aVP) (e:aWc->aVQ):aWk:=
 match R5 P o.op e with
 |some r=>r
 |none=>match J9 P (execOp e o) with
  |some (.value y)=>ah y
  |_=>aj
def bh:LV->Bool
 | .ki _ _=>U
 | .bl _=>U
 | .v (.slice aj _ _)=>U
 |_=>X
def kn:aVQ->LV
 | ag k n=> .ki k n
 | .bool b=> .bl b
 |y=> .v y
def Dq (P:aVM) (G:B3) (F:aVy) (o:aVP):T LV:=
 if o.op.operands.toList.all (λx=>SY<|AM G F x) then
  match Oe P o (λx=>(pl<|AM G F x).getD undef) with
  |some y=> .ok (if o.op.operands.toList.all (λx=>bh<|AM G F x) then kn y else .v y)
  |none=> .no
 else .no
def VC (r:aVN->Option Ty):aV4->Option Ty
 | []=>aj
 | [t]=>r t
 |t::ts=>match r t,VC r ts with
  |some a,ah b=>ah (.pair a b)
  |_,_=>aj
def Ih (P:aVM):aVx->aVN->Option Ty
 |0,_=>aj
 |m+1,t=>match P.underlying t with
  |some (.int k)=>ah (.int k)
  |some .bool=>ah .bool
  |some .string=>ah .str
  |some (.struct fs)=>VC (Ih P m) (fs.toList.map (·.type))
  |some (.array n e)=>VC (Ih P m) (aq n e)
  |some (.slice e)=>(Ih P m e).map .sl
  |_=>aj
def bp (e:Ty):aVx->aVy->Option (List e.D)
 |0,_=>ah []
 |n+1,cs=>match K4 e (cs.take e.n),bp e n (cs.drop e.n) with
  |some d,ah r=>ah (d::r)
  |_,_=>aj
def LC (P:aVM) (t:aVN) (len:aVx) (parts:aV2):T LV:=
 match P.underlying t with
 |some (.slice e)=>match Ih P 8 e,HM P e,Ic P e with
  | some ty,ah m,ah z=>if ty.n=m/\z.cells.size=m/\0<len*m/\len*m<=2^24 then
    (match Kq (λi=>ah (i*m,m)) ((au<|len*m).map λi=> .v<|z.cells[i%z.cells.size]!) parts with
    |some cs=>match bp ty len cs with
     |some l=> .ok (.xl ty l)
     |none=> .no
    |none=> .no) else .no
  |_,_,_=> .no
 |_=> .no
def dZ (P:aVM) (t:aVN):aVH:=
 match P.underlying t with
 |some (.slice e)=>(Ih P 8 e).isSome
 |_=>X
def o9 (P:aVM) (H:aVB) (t:aVN) (len:aVx) (parts:aV2):T (LV×List AB):=
 match P.underlying t with
 |some (.slice e)=>match HM P e,Ic P e with
  | some m,ah z=>if z.cells.size=m/\0<len*m/\len*m<=2^24 then
    (match Kq (λi=>ah (i*m,m)) ((au<|len*m).map λi=> .v<|z.cells[i%z.cells.size]!) parts with
    |some cs=> .ok (.oc (M H) m 0 len len,H++[⟨cs,e,.cl,X⟩])
    |none=> .no) else .no
  |_,_=> .no
 |_=> .no
def o7 (P:aVM) (H:aVB) (t:aVN) (len:aVx) (parts:aV2):T (LV×List AB):=
 if KZ H (reach H 64 (ownsL<|parts.map (·.2)) []) (parts.map (·.2)) then
  ((GN (EY H 6)<|parts.map (·.2)).bind λ_=>LC P t len<|parts.map λq=>(q.1,C3 H 6 q.2)).bind λy=> .ok (y,Ft (reach H 64 (ownsL<|parts.map (·.2)) []) 0 H)
 else .no
def FV (H:aVB) (e:Ty):LV->T (List e.D)
 | .os k es off n=>match H[k]? with
  |some ⟨_,_,.vec e' l,_⟩=>if e'.n=es then (match K0 e' e with
   |some ⟨h⟩=> .req (off+n<=M l) (.ok<|Ks h<|(l.drop off).take n)
   |none=> .no) else .no
  |_=> .no
 |x=>match NL e x with
  |some l=> .ok l
  |none=> .no
def aT4 (P:aVM) (t:aVN):aVZ:=(P.info? t).map (·.bytes)
def Pc (P:aVM) (t:aVN):Option (TypeId×Ty×Nat×Nat):=
 match P.underlying t with
 |some (.slice e)=>match Ih P 8 e,HM P e,aT4 P e with
  |some ty,ah m,ah FK=>if ty.n=m/\0<m then ah (e,ty,m,FK) else aj
  |_,_,_=>aj
 |_=>aj
def bg (P:aVM) (H:aVB) (t:aVN) (len:aVx) (parts:aV2):T (LV×List AB):=
 if KZ H (reach H 64 (ownsL<|parts.map (·.2)) []) (parts.map (·.2)) then
  ((GN (EY H 6)<|parts.map (·.2)).bind λ_=>LC P t len<|parts.map λq=>(q.1,C3 H 6 q.2)).bind λy=>match P.underlying t,y with
   |some (.slice e),.xl ty l=> .ok (.os (M H) ty.n 0 len,Ft (reach H 64 (ownsL<|parts.map (·.2)) []) 0 H++[⟨[],e,.vec ty l,X⟩])
   |_,_=> .no
 else .no
def aQW (Γ:aWb) (t:aVN):aVH:=(Γ<|1000000+t).isSome
def UD (P:aVM) (H:aVB) (t:aVN) (n c:LV):T (LV×List AB):=
 match Pc P t,pl n,pl c with
 | some (e,ty,m,FK),ah (ag J n),ah (ag J c)=>match Ic P e with
  |some z=>match K4 ty (z.cells.toList.map .v) with
   |some d=>if z.cells.size=m then .req (0<=n/\n<=c/\FK*c<=2^48/\c<2^63) (.ok (.os (M H) m 0 n.toNat,H++[⟨[],e,.vec ty<|aq n.toNat d,X⟩])) else .no
   |none=> .no
  |none=> .no
 |_,_,_=> .no
def XF (P:aVM) (H:aVB) (t:aVN):T (LV×List AB):=
 match Pc P t with
 |some (e,ty,m,_)=> .ok (.os (M H) m 0 0,H++[⟨[],e,.vec ty [],X⟩])
 |none=> .no
def Lu (P:aVM) (H:aVB) (t tx:aVN) (x y:LV):T (LV×List AB):=
 match Pc P t with
 | some (e,ty,m,FK)=>match P.underlying tx,Ic P e with
  | some (.slice _),ah z=>if z.cells.size=m then (FV H ty y).bind (λq=>match x with
    | .v (.slice aj 0 0)=> .req ((M q:Y)*FK<=2^47/\(M q:Y)<2^62) (.ok (.os (M H) m 0<|M q,H++[⟨[],e,.vec ty q,X⟩]))
    | .os k es off n=>match H[k]? with
     |some ⟨_,bt,.vec e' l,X⟩=>match K0 e' ty with
      | some ⟨h⟩=>if es=m/\bt=e then .req (off+n=M l/\((n+M q:aVx):Y)*FK<=2^47/\((n+M q:aVx):Y)<2^62)
        (.ok (.os (M H) m 0<|n+M q,H.set k ⟨[],e,.dead,X⟩++[⟨[],e,.vec ty<|Ks h (l.drop off)++q,X⟩])) else .no
      |none=> .no
     |_=> .no
    |_=> .no) else .no
  |_,_=> .no
 |none=> .no
def BG {α:Type}(q l:List α):List α:=q++l.drop (M q)
def Xy (P:aVM) (H:aVB) (t tx:aVN) (x y:LV):T (LV×List AB):=
 match Pc P t,P.underlying tx with
 | some (_,ty,m,_),ah (.slice _)=>match x with
  | .os k es 0 n=>match H[k]? with
   |some ⟨c,bt,.vec e' l,X⟩=>match K0 e' ty with
    |some ⟨h⟩=>if es=m then (FV H ty y).bind λq=> .req (n=M l/\M q<=n) (.ok (.v<|ag J (M q:Y),H.set k ⟨c,bt,.vec ty<|BG q<|Ks h l,X⟩)) else .no
    |none=> .no
   |_=> .no
  |_=> .no
 |_,_=> .no
def u6 (P:aVM) (t:aVN) (x:LV) (lo hi:aWy):T LV:=
 match P.underlying t with
 | some (.slice e)=>match HM P e with
  | some (m+1)=>
   let b (o:aWy) (d:Y):Option Int:=match o with
    |none=>ah d
    |some y=>match pl y with
     |some (.int _ n)=>ah n
     |_=>aj
   match x with
   | .xl ty l=>match b lo 0,b hi (M l:Y) with
    |some i,ah j=>if ty.n=m+1 then .req (0<=i/\i<=j/\j<=(M l:Y)) (.ok<|.xl ty<|(l.drop i.toNat).take<|j.toNat-i.toNat) else .no
    |_,_=> .no
   | .os k es off n=>match b lo 0,b hi (n:Y) with
    |some i,ah j=>if es=m+1 then .req (0<=i/\i<=j/\j<=(n:Y)) (.ok<|.os k es (off+i.toNat)<|j.toNat-i.toNat) else .no
    |_,_=> .no
   |_=> .no
  |_=> .no
 |_=> .no
def rk (P:aVM) (t:aVN) (x:LV) (lo:aWy) (hi mx:LV):T LV:=
 match P.underlying t with
 | some (.slice e)=>match HM P e with
  | some (m+1)=>match x with
   | .xl ty l=>match (match lo with|none=>ah 0|some y=>match pl y with|some (.int _ n)=>ah n|_=>none:Option Int),pl hi,pl mx with
    |some i,ah (.int _ j),ah (.int _ q)=>if ty.n=m+1 then .req (0<=i/\i<=j/\j<=(M l:Y)/\q=j) (.ok<|.xl ty<|(l.drop i.toNat).take<|j.toNat-i.toNat) else .no
    |_,_,_=> .no
   |_=> .no
  |_=> .no
 |_=> .no
def cz (kd:aWh) (n:Y) (z:aVQ):aVw->aVy->T LV
 |k::ks,v::vs=> .br (n==k) (.ok v) (cz kd n z ks vs)
 |_,_=> .ok<|.v z
def wb:(e:Ty)->e.D->Value
 | .int k,n=> ag k n
 | .str,s=> .string s
 | .bool,b=> .bool b
 | .sl _,_=>undef
 | .pair _ _,_=>undef
def NJ:(e:Ty)->aVQ->Option e.D
 | .int k,v=>match v with
  | .int k' n=>if k'=k then ah n else aj
  |_=>aj
 | .str,v=>match v with
  | .string s=>ah s
  |_=>aj
 |_,_=>aj
def o6:(e:Ty)->e.D->List e.D->Bool
 | .int _,x,l=>List.contains (α:=Int) l x
 | .str,x,l=>List.contains (α:=ByteArray) l x
 |_,_,_=>X
def bW (P:aVM) (t:aVN):Option Ty:=
 match P.underlying t with
 |some (.map kt et)=>match P.underlying et,P.underlying kt,Ic P et with
  |some .bool,ah (.int k),ah (.bool X)=>ah (.int k)
  |some .bool,ah .string,ah (.bool X)=>ah .str
  |_,_,_=>aj
 |_=>aj
def abP (P:aVM) (t:aVN) (e:Ty) (l:List e.D) (i:LV):T LV:=
 match bW P t,pl i with
 |some e',ah v=>match K0 e' e,NJ e v with
  |some _,ah d=> .ok (.v<|.bool<|o6 e d l)
  |_,_=> .no
 |_,_=> .no
def UE (P:aVM) (H:aVB) (t:aVN) (x i:LV):T LV:=
 match P.underlying t with
 | some (.map kt et)=>match P.underlying kt,Ic P et,pl i with
  | some (.int kd),ah z,ah (.int kd' n)=>if kd'=kd/\K7 z=U then (match x with
   | .mp kd2 ks vs=>if kd2=kd/\M ks=M vs then cz kd n z ks vs else .no
   | .om k=>match H[k]? with
    |some ⟨_,_,.mp kd2 ks vs,_⟩=>if kd2=kd/\M ks=M vs then cz kd n z ks vs else .no
    |_=> .no
   |_=> .no) else .no
  |_,_,_=> .no
 |_=> .no
def cg (kd:aWh) (n:Y) (z:aVQ):aVw->aVy->T LV
 |k::ks,v::vs=> .br (n==k) (.ok<|.AO [norm v,.bl U]) (cg kd n z ks vs)
 |_,_=> .ok<|.AO [.v z,.bl X]
def XW (P:aVM) (H:aVB) (t:aVN) (x i:LV):T LV:=
 match P.underlying t with
 | some (.map kt et)=>match P.underlying kt,Ic P et,pl i with
  | some (.int kd),ah z,ah (.int kd' n)=>if kd'=kd/\K7 z=U then (match x with
   | .mp kd2 ks vs=>if kd2=kd/\M ks=M vs then cg kd n z ks vs else .no
   | .om k=>match H[k]? with
    |some ⟨_,_,.mp kd2 ks vs,_⟩=>if kd2=kd/\M ks=M vs then cg kd n z ks vs else .no
    |_=> .no
   |_=> .no) else .no
  |_,_,_=> .no
 |_=> .no
def Xm (P:aVM) (H:aVB) (t:aVN) (x i:LV):T LV:=
 match x with
 | .om k=>match H[k]? with
  |some ⟨_,_,.st e l,_⟩=>abP P t e l i
  |_=>UE P H t x i
 |_=>UE P H t x i
def VQ (P:aVM) (H:aVB) (t:aVN) (x i y:LV):T (List AB):=
 match P.underlying t with
 | some (.map kt _)=>match P.underlying kt,pl i,x with
  |some (.int kd),ah (.int kd' n),.om k=>match H[k]? with
   |some ⟨_,bt,.mp kd2 ks vs,X⟩=>if kd'=kd/\kd2=kd/\M ks=M vs/\ks.contains n=X then .ok (H.set k ⟨[],bt,.mp kd (ks++[n])<|vs++[y],X⟩) else .no
   |_=> .no
  |_,_,_=> .no
 |_=> .no
def insL (P:aVM) (H:aVB) (t:aVN) (x i y:LV):T (List AB):=
 match x with
 | .om k=>match H[k]? with
  | some ⟨_,bt,.st e l,X⟩=>match bW P t,pl i,y with
   |some e',ah v,.bl U=>match K0 e' e,NJ e v with
    |some _,ah d=> .req (o6 e d l=X) (.ok<|H.set k ⟨[],bt,.st e<|l++[d],X⟩)
    |_,_=> .no
   |_,_,_=> .no
  |_=>VQ P H t x i y
 |_=>VQ P H t x i y
def kindOf (P:aVM) (t:aVN):Option IntKind:=
 match P.underlying t with
 |some (.map kt _)=>match P.underlying kt with
  |some (.int kd)=>ah kd
  |_=>aj
 |_=>aj
def Ls (P:aVM):aVx->aVN->Bool
 |0,_=>X
 |m+1,t=>match P.underlying t with
  |some (.int _) |some .bool|some .string=>U
  |some (.struct fs)=>fs.toList.all (λf=>Ls P m f.type)
  |some (.array _ e)=>Ls P m e
  |some (.tuple ts)=>ts.toList.all (Ls P m)
  |_=>X
def JW (s:aV6) (n:Y):Y:=(((s[n.toNat]?).getD 0).toNat:Y)
def M0 (P:aVM) (Γ:aWb) (H:aVB) (o:aVP) (g:aVY) (l:aVy):T (LV×List AB):=
 match P.funcs[g]? with
 | some fn=>if fn.body.isSome&&!(fn.name== "runtime.NumGoroutine") then
   match Γ g with
   |some S=>
    if noOwnL l then (S l).bind λy=> .ok (y,H)
    else if Ls P 8 o.type then ((GN (EY H 6) l).bind λ_=>Qz<|S<|l.map<|C3 H 6).bind λy=> .ok (y,H)
    else if KZ H (reach H 64 (ownsL l) []) l then ((GN (EY H 6) l).bind λ_=>S<|l.map<|C3 H 6).bind λy=> .ok (y,Ft (reach H 64 (ownsL l) []) 0 H) else .no
   |none=> .no
  else .no
 |none=> .no
def jF (P:aVM) (x:LV) (name:aWC):Option (FuncId×Value):=
 match pl x with
 |some (.iface t v)=>J9 P (method (P.types.size+Made.depth) t v name)
 |_=>aj
def Ax (P:aVM) (G:B3) (Γ:aWb) (F:aVy) (H:aVB) (o:aVP):T (LV×List AB):=
 match o.op with
 | .select _ _=> .no
 | .move x=> .ok (AM G F x,H)
 | .assign x=> .ok (AM G F x,H)
 | .pick c a b=>(j6 (AM G F c) (AM G F a)<|AM G F b).bind λy=> .ok (y,H)
 | .alloc t=>match Ic P t with
  |some z=>match CQ (.v z) with
   |some cs=> .ok (.own (M H) 0,H++[⟨cs,t,.cl,X⟩])
   |none=> .no
  |none=> .no
 | .box t x=>match CQ (AM G F x) with
  |some cs=> .ok (.own (M H) 0,H++[⟨cs,t,.cl,X⟩])
  |none=> .no
 | .load t x=>(FW P H t<|AM G F x).bind λy=> .ok (y,H)
 | .store t x y=>(Tt P H t (AM G F x)<|AM G F y).bind λH'=> .ok (.v undef,H')
 | .fieldAddr s x i=>(XD P s (AM G F x) i).bind λy=> .ok (y,H)
 | .indexAddr t x i=>(Tx P t (AM G F x) (VN<|AM G F i)<|AM G F i).bind λy=> .ok (y,H)
 | .build t parts=>(Nz P t<|parts.toList.map λq=>(q.1,I1 G F q.2)).bind λy=> .ok (y,H)
 | .buildSlice t len parts=>if len=0 then (if parts.toList.isEmpty then XF P H t else .no) else if dZ P t then (if aQW Γ t then bg P H t len (parts.toList.map λq=>(q.1,AM G F q.2)) else if noOwnL ((parts.toList.map λq=>(q.1,AM G F q.2)).map (·.2)) then (LC P t len<|parts.toList.map λq=>(q.1,AM G F q.2)).bind λy=> .ok (y,H) else o7 P H t len (parts.toList.map λq=>(q.1,AM G F q.2))) else o9 P H t len (parts.toList.map λq=>(q.1,AM G F q.2))
 | .makeSlice t n c=>UD P H t (AM G F n) (AM G F c)
 | .slice t x lo hi aj=>match AM G F x with
  | .v _=>(Dq P G F o).bind λy=> .ok (y,H)
  |_=>(u6 P t (AM G F x) (lo.map<|AM G F)<|hi.map<|AM G F).bind λy=> .ok (y,H)
 | .slice t x lo (ah hi) (ah mx)=>match AM G F x with
  | .v _=>(Dq P G F o).bind λy=> .ok (y,H)
  |_=>(rk P t (AM G F x) (lo.map<|AM G F) (AM G F hi)<|AM G F mx).bind λy=> .ok (y,H)
 | .makeMap t aj=>match bW P t with
  |some e=> .ok (.om<|M H,H++[⟨[],t,.st e [],X⟩])
  |none=>match kindOf P t with
   |some kd=> .ok (.om<|M H,H++[⟨[],t,.mp kd [] [],X⟩])
   |none=> .no
 | .insert t m i x=>(insL P H t (AM G F m) (AM G F i)<|AM G F x).bind λH'=> .ok (.v undef,H')
 | .mapUpdate t m i x=>(insL P H t (AM G F m) (AM G F i)<|AM G F x).bind λH'=> .ok (.v undef,H')
 | .lookup t x i X=>(Xm P H t (AM G F x)<|AM G F i).bind λy=> .ok (y,H)
 | .lookup t x i U=>match AM G F x with
  | .v _=>(Dq P G F o).bind λy=> .ok (y,H)
  |_=>(XW P H t (AM G F x)<|AM G F i).bind λy=> .ok (y,H)
 | .extract x i=>match AM G F x with
  | .AO l=>match l[i]? with
   |some y=> .ok (y,H)
   |none=> .no
  |_=>(Dq P G F o).bind λy=> .ok (y,H)
 | .field t x i=>match AM G F x with
  | .agg l=>(wh P t l i).bind λy=> .ok (y,H)
  |_=>(Dq P G F o).bind λy=> .ok (y,H)
 | .makeFunc (.func f) first cap=>if first.toList.isEmpty then .ok (.fn f<|cap.toList.map<|AM G F,H) else if cap.toList.isEmpty then .ok (.fb f<|first.toList.map<|AM G F,H) else .no
 | .nilCheck x=>match AM G F x with
  | .own k off=> .ok (.own k off,H)
  | .op k es i j=> .ok (.op k es i j,H)
  | .xq n f=> .ok (.xq n f,H)
  | .fn f l=> .ok (.fn f l,H)
  | .fb f l=> .ok (.fb f l,H)
  |_=>(Dq P G F o).bind λy=> .ok (y,H)
 | .binOp .quo t x y _=>match pl (AM G F x),pl (AM G F y) with
  |some (ag k n),ah (.int k' m)=>if k=k' then .req (m≠0) (.ok (.v<|ag k<|k.wrap<|n.tdiv m,H)) else .no
  |_,_=> .no
 | .binOp .rem t x y _=>match pl (AM G F x),pl (AM G F y) with
  |some (ag k n),ah (.int k' m)=>if k=k' then .req (m≠0) (.ok (.v<|ag k<|n.tmod m,H)) else .no
  |_,_=> .no
 | .binOp .shl t x y _=>if VN (AM G F y) then (Dq P G F o).bind λy=> .ok (y,H) else match pl (AM G F x),pl (AM G F y) with
  |some (ag k n),ah (.int _ m)=> .req (0<=m) (.ok (.v<|ag k<|k.wrap<|n*2^(min m.toNat k.bits),H))
  |_,_=> .no
 | .binOp .shr t x y _=>if VN (AM G F y) then (Dq P G F o).bind λy=> .ok (y,H) else match pl (AM G F x),pl (AM G F y) with
  |some (ag k n),ah (.int _ m)=> .req (0<=m) (.ok (.v<|ag k<|n.fdiv<|2^(min m.toNat k.bits),H))
  |_,_=> .no
 | .index t x i=>match xC (AM G F x) with
  |some l=>(wY P t l<|AM G F i).bind λy=> .ok (y,H)
  |none=>match P.underlying t,pl<|AM G F x,pl (AM G F i) with
   |some .string,ah (.string s),ah (.int _ n)=> .req (0<=n/\n<(s.size:Y)) (.ok (.v<|ag aw<|JW s n,H))
   |_,_,_=> .no
 | .call {callee:=.value f,args,..}=>match AM G F f with
  | .fn g cap=>M0 P Γ H o g (args.toList.map (λx=>norm<|AM G F x)++cap)
  | .fb g fs=>M0 P Γ H o g (fs++args.toList.map (λx=>norm<|AM G F x))
  |_=> .no
 | .call {callee:=.invoke r name,args,..}=>match jF P (AM G F r) name with
  |some (g,rv)=>M0 P Γ H o g (.v rv::args.toList.map (λx=>norm<|AM G F x))
  |none=> .no
 | .call {callee:=.builtin .append,args,argTypes}=>match args.toList.map (AM G F),argTypes.toList with
  | [x,y],[t,tx]=>Lu P H t tx x y
  |_,_=> .no
 | .call {callee:=.builtin .copy,args,argTypes}=>match args.toList.map (AM G F),argTypes.toList with
  | [x,y],[t,tx]=>Xy P H t tx x y
  |_,_=> .no
 | .call {callee:=.builtin .len,args,argTypes}=>match args.toList.map (AM G F),(argTypes[0]?).bind P.underlying with
  | [.os _ _ _ n],ah (.slice _)=> .ok (.v<|ag J n,H)
  | [.xl _ l],ah (.slice _)=> .ok (.v<|ag J (M l:Y),H)
  | [.oc _ _ _ n _],ah (.slice _)=> .ok (.ki J n,H)
  |_,_=>(Dq P G F o).bind λy=> .ok (y,H)
 |_=>(Dq P G F o).bind λy=> .ok (y,H)
def Aw (F:aVy):aV9->LV->List LV
 |some d,x=>F.set d x
 |none,_=>F
structure Hand where
 k:aVY->aVy->aVB->T (LV×List AB)
 y:aVx->aVy->aVB->T (LV×List AB)
def aWq:qT (Hand):=⟨⟩
def GB:aWq:=⟨λ_ _ _=> .no,λ_ _ _=> .no⟩
def wW (G:B3) (F:aVy) (o:aVP):Option (Nat×List LV):=
 match o.op with
 | .call {callee:=.value f,args,..}=>match AM G F f with
  | .CS k=>ah (k,args.toList.map λx=>norm<|AM G F x)
  |_=>aj
 |_=>aj
def callOf (G:B3) (F:aVy) (o:aVP):Option (FuncId×List LV):=
 match o.op with
 | .call {callee:=.value f,args,..}=>match AM G F f with
  | .fn g cap=>ah (g,args.toList.map (λx=>norm<|AM G F x)++cap)
  | .fb g fs=>ah (g,fs++args.toList.map (λx=>norm<|AM G F x))
  | .v (.func (.func g) ⟨[]⟩ ⟨[]⟩)=>ah (g,args.toList.map λx=>norm<|AM G F x)
  |_=>aj
 |_=>aj
def KC (P:aVM) (G:B3) (Γ:aWb) (K:aWq) (F:aVy) (H:aVB) (o:aVP):T (LV×List AB):=
 match callOf G F o with
 | some (g,l)=>match Γ g with
  |some _=>Ax P G Γ F H o
  |none=>match P.funcs[g]? with
   |some fn=>if fn.body.isSome&&!(fn.name== "runtime.NumGoroutine") then K.k g l H else .no
   |none=> .no
 |none=>match wW G F o with
  |some (k,l)=>K.y k l H
  |none=>Ax P G Γ F H o
def il (ty:Ty):aVy->Option (List<|List ty.D)
 | []=>ah []
 | x::xs=>match x with
  | .xl e l=>match K0 e ty,il ty xs with
   |some ⟨h⟩,ah r=>ah (Ks h l::r)
   |_,_=>aj
  |_=>aj
def wX (P:aVM) (G:B3) (F:aVy) (H:aVB) (o o2:aVP):Option (Int×Nat×LV):=
 if o.guard.isNone&&o2.guard.isNone then
  match o.op,o.dst,o2.op with
  | .indexAddr t x i,ah d,.load t2 (.tmp d2)=>
   if d2 =d/\d<M F/\SZ P t2=ah X then
    match P.underlying t,AM G F x,AM G F i with
    | some (.array len e),.own k off,.v (.int _ n)=>
     if HM P e=ah 1 then
      match H[k]? with
      | some b=>
       if b.E4=U/\off+len<=M b.c then
        match (b.c.drop off).take len with
        | .xl ty l::rest=>match il ty (.xl ty l::rest) with
         |some ls=>ah (n,len,.xl ty<|ls.getD n.toNat [])
         |none=>aj
        |_=>aj
       else aj
      |none=>aj
     else aj
    |_,_,_=>aj
   else aj
  |_,_,_=>aj
 else aj
def Ii (P:aVM) (G:B3) (Γ:aWb) (K:aWq) (ops:aVE):aV5->aVy->aVB->T (List LV×List AB)
 | [],F,H=> .ok (F,H)
 | o::os,F,H=>
  let go (F:aVy):T (List LV×List AB):=(KC P G Γ K F H o).bind λq=>Ii P G Γ K ops os (Aw F o.dst q.1) q.2
  let pass (F:aVy):T (List LV×List AB):=Ii P G Γ K ops os (Aw F o.dst<|.v undef) H
  match o.guard with
  | none=>match os with
   | []=>go F
   |o2::os2=>match wX P G F H o o2 with
    |some (n,len,y)=> .req (0<=n/\n<(len:Y)) (Ii P G Γ K ops os2 (Aw (Aw F o.dst .junk) o2.dst y) H)
    |none=>go F
  | some (j,want)=>match (ops[j]?).bind (·.dst) with
   |some d=>match F.getD d .junk with
    | .bl b=>if b=want then go F else pass F
    | .v (.bool g)=>if want then .br g (go<|F.set d<|.bl U) (pass<|F.set d<|.bl X) else .br g (pass<|F.set d<|.bl U) (go<|F.set d<|.bl X)
    | .v (.tuple _)=>pass F
    |_=> .no
   |none=> .no
def nki:LV->LV
 | .ki k n=> .v (ag k n)
 |x=>x
def Tf (b:aVH):LV->LV->LV
 | .v (ag k n),.v (.int k' m)=>if k=k' then .v (ag k (if b then n else m)) else .junk
 | .bl U,.bl X=> .v (.bool b)
 | .bl X,.bl U=> .v (.bool !b)
 | .bl U,.bl U=> .bl U
 | .bl X,.bl X=> .bl X
 | .v (.bool p),.bl X=> .v (.bool<|b&&p)
 | .v (.bool p),.bl U=> .v (.bool (!b ||p))
 | .bl U,.v (.bool q)=> .v (.bool (b ||q))
 | .bl X,.v (.bool q)=> .v (.bool<|!b&&q)
 | .v (.bool p),.v (.bool q)=> .v (.bool (if b then p else q))
 |_,_=> .junk
def XV (b:aVH) (x y:LV):LV:=Tf b (nki x)<|nki y
def P9 (P:aVM) (o:aVP):aVH:=
 match o.op with
 | .alloc _| .box ..| .store ..| .makeSlice ..| .makeMap ..| .insert ..| .mapUpdate ..=>X
 | .buildSlice ..=>X
 | .call {callee:=.builtin .append,..}=>X
 | .call {callee:=.builtin .copy,..}=>X
 | .call {callee:=.value _,..}=>Ls P 8 o.type
 | .call {callee:=.invoke ..,..}=>Ls P 8 o.type
 |_=>U
def SX (P:aVM) (Γ:aWb) (o:aVP):aVH:=
 P9 P o&&(match o.op with
 | .call {callee:=.value (.func g),..}=>(Γ g).isSome
 | .call {callee:=.value _,..}=>X
 |_=>U)
def Fa (ops:aV5):aVC:=ops.filterMap (·.dst)
def Tw (ds:aVC) (b:aVH) (F F1 F2:aVy):aVy:=(au<|M F).map λi=>if ds.contains i then XV b (F1.getD i .junk) (F2.getD i .junk) else F.getD i .junk
def fnX:LV->LV->Bool
 | .fn ..,.fn ..=>U
 | .fn ..,.v _=>U
 | .v _,.fn ..=>U
 |_,_=>X
def fnD (ds:aVC) (F1 F2:aVy):aVH:=ds.any λd=>fnX (F1.getD d .junk)<|F2.getD d .junk
def Kh (ds:aVC) (F:aVy) (H:aVB):T (List LV×List AB)->T (List LV×List AB)
 | .ok x=> .ok x
 | .no=> .no
 | .req p t=> .req p (Kh ds F H t)
 | .br b t e=>match Kh ds F H t,Kh ds F H e with
  | .ok x,.ok y=>if fnD ds x.1 y.1 then .br b (.ok x) (.ok y) else .ok (Tw ds b F x.1 y.1,H)
  |t',e'=> .br b t' e'
def aDC (P:aVM) (G:B3) (Γ:aWb) (K:aWq) (ops:aVE) (F:aVy) (H:aVB):T (List LV×List AB):=
 if ops.toList.all (SX P Γ) then Kh (Fa ops.toList) F H (Ii P G Γ K ops ops.toList F H) else Ii P G Γ K ops ops.toList F H
def isSp (P:aVM) (o:aVP):aVH:=
 match o.op with
 | .alloc _| .box ..| .store ..| .buildSlice ..| .makeSlice ..| .makeMap ..| .insert ..| .mapUpdate ..=>U
 | .call {callee:=.builtin .append,..}=>U
 | .call {callee:=.builtin .copy,..}=>U
 | .call {callee:=.value _,..}=>!Ls P 8 o.type
 | .call {callee:=.invoke ..,..}=>!Ls P 8 o.type
 |_=>X
def dh (sp:aVP->aVH):aV1->aV5->List Bool
 |fs,[]=>fs
 |fs,o::os=>dh sp (fs++[sp o ||o.after.toList.any (λe=>Region.binds .any e&&fs.getD e.on X)]) os
def alM (o:aVP):aVH:=
 match o.op with
 | .assign _=>U
 |_=>X
def Mm (H:aVB) (ops:aV5) (F:aVy):aVx->aVx->List Nat
 |0,_=>[]
 | d+1,t=>match ops.find? (λo=>o.dst==ah t&&!alM o) with
  | some o=>match o.op with
   | .fieldAddr _ (.tmp y) _=>Mm H ops F d y
   | .indexAddr _ (.tmp y) _=>Mm H ops F d y
   | .move (.tmp y)=>Mm H ops F d y
   | .nilCheck (.tmp y)=>Mm H ops F d y
   | .load _ (.tmp y)=>(Mm H ops F d y).flatMap λk=>match H[k]? with
    |some b=>ownsL b.c
    |none=>[]
   |_=>[]
  |none=>match F.getD t .junk with
   | .own k _=>[k]
   | .op k _ _ _=>[k]
   | .os k _ _ _=>[k]
   | .om k=>[k]
   |_=>[]
def tracked (H:aVB) (ops:aV5) (F:aVy):aVC:=ops.flatMap λo=>match o.op with
 | .store _ (.tmp x) _=>Mm H ops F 12 x
 | .insert _ (.tmp x) _ _=>Mm H ops F 12 x
 | .mapUpdate _ (.tmp x) _ _=>Mm H ops F 12 x
 | .call {callee:=.builtin .append,args,..}=>match args.toList with
  |(.tmp x)::_=>Mm H ops F 12 x
  |_=>[]
 | .call {callee:=.builtin .copy,args,..}=>match args.toList with
  |(.tmp x)::_=>Mm H ops F 12 x
  |_=>[]
 |_=>[]
def ao3 (H:aVB) (ops:aV5) (F:aVy) (tr:aVC) (o:aVP):aVH:=
 match o.op with
 | .load _ (.tmp x)=>(Mm H ops F 12 x).any tr.contains
 |_=>X
def RA (b:AB):AB:=
 match b.k with
 | .cl=>⟨aq (M b.c) .junk,b.t,.cl,b.p⟩
 |_=>⟨[],b.t,.dead,X⟩
def Ej (tr:aVC):aVx->aVB->List AB
 |_,[]=>[]
 |k,b::bs=>(if tr.contains k then RA b else b)::Ej tr (k+1) bs
def X0 (o:aVP):aVH:=
 match o.op with
 | .call {callee:=.value _,..}=>U
 | .call {callee:=.invoke ..,..}=>U
 |_=>X
def tC (G:B3) (F:aVy) (tr:aVC) (o:aVP):aVH:=
 match o.op with
 | .load _ x=>match AM G F x with
  | .own k _=>!tr.contains k
  | .op k _ _ _=>!tr.contains k
  |_=>U
 | .lookup _ x _ _=>match AM G F x with
  | .om k=>!tr.contains k
  |_=>U
 |_=>U
def aLd (t:T<|LV×List AB):T LV:=t.bind λq=> .ok q.1
def Xt (P:aVM) (G:B3) (Γ:aWb) (tr:aVC) (F:aVy) (Hm:aVB) (o:aVP):T LV:=
 if isSp P o || !tC G F tr o then .no
 else if X0 o then Qz (aLd<|Ax P G Γ F Hm o)
 else aLd (Ax P G Γ F Hm o)
def IC (P:aVM) (G:B3) (Γ:aWb) (ops:aVE) (tr:aVC) (H Hm:aVB):aV1->aV5->aVy->T (List LV×List AB)
 | f::fs,o::os,F=>
  if f then IC P G Γ ops tr H Hm fs os F else
  let go (F:aVy):T (List LV×List AB):=(Xt P G Γ tr F Hm o).bind λy=>IC P G Γ ops tr H Hm fs os<|Aw F o.dst y
  let pass (F:aVy):T (List LV×List AB):=IC P G Γ ops tr H Hm fs os<|Aw F o.dst<|.v undef
  match o.guard with
  |none=>go F
  | some (j,want)=>match (ops[j]?).bind (·.dst) with
   |some d=>match F.getD d .junk with
    | .bl b=>if b=want then go F else pass F
    | .v (.bool g)=>if want then .br g (go<|F.set d<|.bl U) (pass<|F.set d<|.bl X) else .br g (pass<|F.set d<|.bl U) (go<|F.set d<|.bl X)
    | .v (.tuple _)=>pass F
    |_=> .no
   |none=> .no
 |_,_,F=> .ok (F,H)
def Er (G:B3) (F:aVy) (o:aVP):aVC:=
 match o.op with
 | .store _ x _=>owns (AM G F x)
 | .insert _ x _ _=>owns (AM G F x)
 | .mapUpdate _ x _ _=>owns (AM G F x)
 | .call {callee:=.builtin .append,args,..}=>match args.toList.map (AM G F) with
  |x::_=>owns x
  | []=>[]
 | .call {callee:=.builtin .copy,args,..}=>match args.toList.map (AM G F) with
  |x::_=>owns x
  | []=>[]
 |_=>[]
def CP (G:B3) (F:aVy) (tr:aVC) (n0:aVx) (o:aVP):aVH:=(Er G F o).all λk=>tr.contains k ||an (n0<=k)
def p2x (P:aVM) (G:B3) (Γ:aWb) (ops:aVE) (tr:aVC) (n0:aVx):aV1->aV5->aVy->aVB->T (List LV×List AB)
 | f ::fs,o::os,F,H=>
  if f then
   let go (F:aVy):T (List LV×List AB):=if CP G F tr n0 o then (Ax P G Γ F H o).bind λq=>p2x P G Γ ops tr n0 fs os (Aw F o.dst q.1) q.2 else .no
   let pass (F:aVy):T (List LV×List AB):=p2x P G Γ ops tr n0 fs os (Aw F o.dst<|.v undef) H
   match o.guard with
   |none=>go F
   | some (j,want)=>match (ops[j]?).bind (·.dst) with
    |some d=>match F.getD d .junk with
     | .bl b=>if b=want then go F else pass F
     | .v (.bool g)=>if want then .br g (go<|F.set d<|.bl U) (pass<|F.set d<|.bl X) else .br g (pass<|F.set d<|.bl U) (go<|F.set d<|.bl X)
     | .v (.tuple _)=>pass F
     |_=> .no
    |none=> .no
  else p2x P G Γ ops tr n0 fs os F H
 |_,_,F,H=> .ok (F,H)
def Ie (o:aVP):aVH:=
 match o.op with
 | .buildSlice ..=>U
 | .call {callee:=.value _,..}=>U
 |_=>X
def En (o:aVP):aVH:=
 match o.op with
 | .alloc _=>U
 | .box ..=>U
 | .makeSlice ..=>U
 | .buildSlice _ len parts=>(len==0)&&parts.toList.isEmpty
 |_=>X
def NI (o:aVP):aVH:=
 match o.op with
 | .alloc _=>U
 | .box ..=>U
 | .load ..=>U
 |_=>X
def Ip (P:aVM) (G:B3) (Γ:aWb) (F:aVy) (o:aVP):T LV:=
 match o.op with
 | .buildSlice t len parts=>if aQW Γ t then .no else if noOwnL ((parts.toList.map λq=>(q.1,AM G F q.2)).map (·.2)) then LC P t len (parts.toList.map λq=>(q.1,AM G F q.2)) else .no
 | .call {callee:=.value f,args,..}=>match AM G F f with
  | .fn g cap=>match P.funcs[g]? with
   | some fn=>if fn.body.isSome&&!(fn.name== "runtime.NumGoroutine") then
     match Γ g with
     |some S=>if noOwnL (args.toList.map (λx=>norm<|AM G F x)++cap) then S (args.toList.map (λx=>norm<|AM G F x)++cap) else .no
     |none=> .no
    else .no
   |none=> .no
  |_=> .no
 |_=> .no
def aVq (o:aVP):aVC:=(o.after.toList.filter<|Region.binds .any).map (·.on)
def aLf:List (List Nat)->aV5->List (List Nat)
 |acc,[]=>acc
 |acc,o::os=>aLf (acc++[(aVq o++(aVq o).flatMap (λk=>acc.getD k [])).eraseDups]) os
def ajF (A:List<|List Nat) (n i:aVx):aVH:=(au n).all λj=>j==i ||(A.getD i []).contains j ||(A.getD j []).contains i
def FJ (ops:aVE) (i:aVx) (o:aVP):aVH:=Ie o&&!ajF (aLf [] ops.toList) ops.size i
def GD (P:aVM) (G:B3) (Γ:aWb) (ops:aVE) (i:aVx) (F:aVy) (H:aVB) (o:aVP):T (LV×List AB):=
 if FJ ops i o then (Ip P G Γ F o).bind λy=> .ok (y,H) else Ax P G Γ F H o
def Fg (P:aVM) (G:B3) (Γ:aWb) (ops:aVE) (tr:aVC) (n0:aVx):aVC->aVy->aVB->T (List LV×List AB)
 | [],F,H=> .ok (F,H)
 |i::is,F,H=>match ops[i]? with
  |some o=>if o.guard.isNone&&CP G F tr n0 o then (GD P G Γ ops i F H o).bind λq=>Fg P G Γ ops tr n0 is (Aw F o.dst q.1) q.2 else .no
  |none=> .no
def JQ (o:aVP):aVH:=
 match o.op with
 | .move _=>U
 | .assign _=>U
 | .indexAddr ..=>U
 | .fieldAddr ..=>U
 | .build ..=>U
 | .extract ..=>U
 | .call {callee:=.builtin .max,..}=>U
 | .call {callee:=.builtin .min,..}=>U
 | .binOp op _ _ _ _=>(match op with
  | .add=>U
  | .sub=>U
  | .mul=>U
  |_=>X)
 |_=>X
def K8 (o:aVP):aVH:=
 match o.op with
 | .load ..=>U
 |_=>X
def jQ (o:aVP):aVH:=
 match o.op with
 | .store ..=>U
 | .alloc _=>U
 | .box ..=>U
 |_=>X
def MC (o:aVP):aVH:=
 match o.op with
 | .call {callee:=.builtin .append,..}=>U
 |_=>X
def Ri (ops:aVE) (i j:aVx):aVH:=
 match ops[i]?,ops[j]? with
 |some x,ah y=>x.guard.isNone&&y.guard.isNone&&((NI x&&FJ ops j y) ||(FJ ops i x&&NI y) ||(FJ ops i x&&FJ ops j y) ||((JQ x ||K8 x)&&(JQ y ||K8 y)) ||(JQ x&&jQ y) ||(jQ x&&JQ y) ||(FJ ops i x&&MC y) ||(MC x&&FJ ops j y))&&x.apart ops y
 |_,_=>X
def G1 (i:aVx):aVC->List Nat
 | []=>[]
 |j::js=>if j=i then [] else j::G1 i js
def MD (ops:aVE):aVx->aVC->aVR->Bool
 |0,R,listed=>R.isEmpty&&(ay .any ops listed).isEmpty
 |n+1,R,listed=>!(ay .any ops listed).isEmpty&&(ay .any ops listed).all λi=>R.contains i&&(G1 i R).all (λj=>Ri ops i j)&&MD ops n (R.erase i) (listed.setIfInBounds i U)
def preB (ops:aVE) (i p:aVx):aVH:=
 match ops[i]? with
 |some o=>o.after.toList.any λe=>Region.binds .any e&&e.on==p
 |none=>X
def j5 (ops:aVE) (R:aVC):aVx->aVx->aVx->Bool
 |0,i,j=>preB ops i j
 |n+1,i,j=>preB ops i j ||R.any λp=>preB ops i p&&j5 ops R n p j
def fk (ops:aVE) (R0:aVC):aVC->Bool
 | []=>U
 |j::R=>R.all (λi=>Ri ops i j ||j5 ops R0 4 i j)&&fk ops R0 R
def aaX (ops:aVE) (R:aVC) (listed:aVR):aVH:=R.all λi=>
 match ops[i]? with
 |some o=>o.after.toList.all λe=>!Region.binds .any e ||(listed.getD e.on X ||(G1 i R).contains e.on)
 |none=>X
def oK:aVC->Bool
 | []=>U
 |x::l=>!l.contains x&&oK l
def nt (ops:aVE) (R:aVC) (listed:aVR):aVH:=
 oK R&&(listed.size==ops.size&&((au ops.size).all (λi=>R.contains i==!listed.getD i U)&&(R.all (λi=>an<|i<ops.size)&&(fk ops R R&&aaX ops R listed))))
def XC (ops:aVE) (flags:aV1):aVH:=letI a:=Tp (idxs X flags 0)<|Array.replicate ops.size X;letI b:=idxs U flags 0;U0 ops flags&&(nt ops b a ||MD ops (M b) b a)
def GJ:AB:=⟨[],0,.dead,X⟩
def JV (P:aVM) (G:B3) (F:aVy) (H:aVB) (k:aVx) (o:aVP):T (LV×List AB):=
 match o.op with
 | .alloc t=>match Ic P t with
  |some z=>match CQ (.v z) with
   |some cs=> .ok (.own k 0,H.set k ⟨cs,t,.cl,X⟩)
   |none=> .no
  |none=> .no
 | .box t x=>match CQ (AM G F x) with
  |some cs=> .ok (.own k 0,H.set k ⟨cs,t,.cl,X⟩)
  |none=> .no
 | .makeSlice t n c=>match Pc P t,pl<|AM G F n,pl (AM G F c) with
  | some (e,ty,m,FK),ah (ag J n),ah (ag J c)=>match Ic P e with
   |some z=>match K4 ty (z.cells.toList.map .v) with
    |some d=>if z.cells.size=m then .req (0<=n/\n<=c/\FK*c<=2^48/\c<2^63) (.ok (.os k m 0 n.toNat,H.set k ⟨[],e,.vec ty<|aq n.toNat d,X⟩)) else .no
    |none=> .no
   |none=> .no
  |_,_,_=> .no
 | .buildSlice t len parts=>if len=0 then (if parts.toList.isEmpty then (match Pc P t with
  |some (e,ty,m,_)=> .ok (.os k m 0 0,H.set k ⟨[],e,.vec ty [],X⟩)
  |none=> .no) else .no) else .no
 |_=> .no
def anf (ops:aVE) (t:Tmp):aVZ:=(au ops.size).find? λi=>match ops[i]? with
 |some o=>o.dst==ah t
 |none=>X
def apD (ops:aVE) (o:aVP):aVZ:=
 match o.op with
 | .call {callee:=.builtin .append,args,..}=>(match args.toList with
  | .tmp t::_=>anf ops t
  |_=>aj)
 |_=>aj
def apK (d n0:aVx):aVy->Bool
 | [.os k _ _ _,.xl _ _]=>k==n0+d
 |_=>X
def L6 (G:B3) (ops:aVE) (n0:aVx) (F:aVy) (H:aVB) (o:aVP):aVH:=
 match o.op with
 | .call {callee:=.builtin .append,args,..}=>(match apD ops o with
  |some d=>an (n0+ops.size<=M H)&&apK d n0 (args.toList.map<|AM G F)
  |none=>X)
 |_=>X
def QA (o:aVP):aVH:=
 match o.op with
 | .store ..=>U
 | .move _=>U
 | .assign _=>U
 | .build ..=>U
 |_=>X
def ID (P:aVM) (G:B3) (Γ:aWb) (ops:aVE) (n0 i:aVx) (F:aVy) (H:aVB) (o:aVP):T (LV×List AB):=
 if En o then JV P G F H (n0+i) o else if QA o then Ax P G Γ F H o else if L6 G ops n0 F H o then Ax P G Γ F H o else .no
def GA (P:aVM) (G:B3) (Γ:aWb) (ops:aVE) (tr:aVC) (n0:aVx):aVC->aVy->aVB->T (List LV×List AB)
 | [],F,H=> .ok (F,H)
 |i::is,F,H=>match ops[i]? with
  |some o=>if o.guard.isNone&&CP G F tr n0 o then (ID P G Γ ops n0 i F H o).bind λq=>GA P G Γ ops tr n0 is (Aw F o.dst q.1) q.2 else .no
  |none=> .no
def JR (o:aVP):aVH:=
 match o.op with
 | .move _=>U
 | .assign _=>U
 | .build ..=>U
 |_=>X
def jK (ops:aVE) (i j:aVx):aVH:=
 match ops[i]?,ops[j]? with
 |some x,ah y=>!(i==j)&&x.guard.isNone&&y.guard.isNone&&(((En x ||JR x)&&(En y ||JR y)) ||((En x ||JR x)&&(MC y&&!(apD ops y==ah i))) ||((MC x&&!(apD ops x==ah j))&&(En y ||JR y)))&&x.apart ops y
 |_,_=>X
def bf (ops:aVE):aVx->aVC->aVR->Bool
 |0,R,listed=>R.isEmpty&&(ay .any ops listed).isEmpty
 |n+1,R,listed=>!(ay .any ops listed).isEmpty&&(ay .any ops listed).all λi=>R.contains i&&(G1 i R).all (λj=>jK ops i j)&&bf ops n (R.erase i) (listed.setIfInBounds i U)
def PI:aVC->Bool
 | []=>U
 |k::ks=>!ks.contains k&&PI ks
def alx (ops:aVE) (flags:aV1):aVH:=letI a:=idxs U flags 0;U0 ops flags&&PI a&&a.all (λi=>an<|i<ops.size)&&bf ops (M a) a (Tp (idxs X flags 0)<|Array.replicate ops.size X)
def pux (P:aVM) (G:B3) (Γ:aWb) (F:aVy) (o:aVP):T LV:=
 match o.op with
 | .move x=> .ok (AM G F x)
 | .assign x=> .ok (AM G F x)
 | .pick c a b=>j6 (AM G F c) (AM G F a) (AM G F b)
 | .load t x=>(match AM G F x with
  | .xq m f=>FW P [] t (.xq m f)
  |_=> .no)
 | .fieldAddr s x i=>XD P s (AM G F x) i
 | .indexAddr t x i=>Tx P t (AM G F x) (VN<|AM G F i) (AM G F i)
 | .build t parts=>Nz P t (parts.toList.map λq=>(q.1,I1 G F q.2))
 | .buildSlice ..=>Ip P G Γ F o
 | .call {callee:=.value _,..}=>Ip P G Γ F o
 | .unOp ..=>Dq P G F o
 | .binOp op _ _ _ _=>(match op with
  | .quo=> .no
  | .rem=> .no
  | .shl=> .no
  | .shr=> .no
  |_=>Dq P G F o)
 |_=> .no
def aAy (G:B3) (F:aVy) (o:aVP):aVH:=
 match o.op with
 | .load _ x=>(match AM G F x with
  | .own _ _=>U
  |_=>X)
 |_=>U
def spz (P:aVM) (G:B3) (Γ:aWb) (F:aVy) (H:aVB) (o:aVP):T (LV×List AB):=if aAy G F o then Ax P G Γ F H o else .no
def HB (P:aVM) (G:B3) (Γ:aWb) (ops:aVE) (tr:aVC) (n0:aVx):aVC->aVy->aVB->T (List LV×List AB)
 | [],F,H=> .ok (F,H)
 |i::is,F,H=>match ops[i]? with
  |some o=>if o.guard.isNone&&CP G F tr n0 o then (spz P G Γ F H o).bind λq=>HB P G Γ ops tr n0 is (Aw F o.dst q.1) q.2 else .no
  |none=> .no
def VO (P:aVM) (o:aVP):aVH:=
 match o.op with
 | .call {callee:=.builtin .append,..}=>U
 | .buildSlice t len _=>an (len=0) ||dZ P t
 |_=>X
def jJ (P:aVM) (ops:aVE) (i j:aVx):aVH:=
 match ops[i]?,ops[j]? with
 |some x,ah y=>x.guard.isNone&&y.guard.isNone&&(K8 x&&VO P y)&&x.apart ops y
 |_,_=>X
def bc (P:aVM) (ops:aVE):aVx->aVC->aVR->Bool
 |0,R,listed=>R.isEmpty&&(ay .any ops listed).isEmpty
 |n+1,R,listed=>!(ay .any ops listed).isEmpty&&(ay .any ops listed).all λi=>R.contains i&&(G1 i R).all (λj=>jJ P ops i j)&&bc P ops n (R.erase i) (listed.setIfInBounds i U)
def aJa (ops:aVE) (i:aVx):aVC->List Nat
 | []=>[i]
 |j::js=>if preB ops j i then i::j::js else j::aJa ops i js
def Ul (ops:aVE):aVC->List Nat
 | []=>[]
 |i::is=>if (ops[i]?).any K8 then aJa ops i (Ul ops is) else i::Ul ops is
def gJ (P:aVM) (ops:aVE) (flags:aV1):aVH:=letI a:=idxs U flags 0;U0 ops flags&&((Ul ops a).all (λi=>flags.getD i X)&&bc P ops (M a) (Ul ops a) (Tp (idxs X flags 0)<|Array.replicate ops.size X))
def jM (P:aVM) (G:B3) (Γ:aWb) (ops:aVE) (F:aVy) (H:aVB):T (List LV×List AB):=
 let tr:=tracked H ops.toList F
 let flags:=dh (λo=>isSp P o ||ao3 H ops.toList F tr o) [] ops.toList
 if jL ops flags&&P.follows .mixedOrders&&tr.all (λk=>an<|k<M H) then
  (Kh (Fa ops.toList) F H<|IC P G Γ ops tr H (Ej tr 0 H) flags ops.toList F).bind λq=>p2x P G Γ ops tr (M H) flags ops.toList q.1 H
 else if (XC ops flags ||gJ P ops flags)&&P.follows .mixedOrders&&tr.all (λk=>an<|k<M H) then
  (Kh (Fa ops.toList) F H<|IC P G Γ ops tr H (Ej tr 0 H) flags ops.toList F).bind λq=>if XC ops flags then Fg P G Γ ops tr (M H) (idxs U flags 0) q.1 H else HB P G Γ ops tr (M H) (Ul ops<|idxs U flags 0) q.1 H
 else if alx ops flags&&P.follows .mixedOrders&&tr.all (λk=>an<|k<M H) then
  (Kh (Fa ops.toList) F H<|IC P G Γ ops tr H (Ej tr 0 H) flags ops.toList F).bind λq=>GA P G Γ ops tr (M H) (idxs U flags 0) q.1<|H++aq ops.size GJ
 else .no
def aHY (ops:aV5) (s:aVx):aVx:=
 match ops.find? (λo=>o.dst==ah s) with
 |some o=>match o.op with
  | .move (.tmp y)=>y
  |_=>s
 |none=>s
def isApp (o:aVP):aVH:=
 match o.op with
 | .call {callee:=.builtin .append,..}=>U
 |_=>X
def rX (P:aVM) (ops:aV5) (F:aVy):Option (Nat×IntKind×Int×Nat):=
 if ops.any isApp then
  ops.findSome? λo=>match o.op with
   | .indexAddr t _ (.tmp s)=>match P.underlying t with
    |some (.array len e)=>match P.underlying e,F.getD (aHY ops s) .junk with
     |some (.slice _),.v (ag k n)=>ah (aHY ops s,k,n,len)
     |_,_=>aj
    |_=>aj
   |_=>aj
 else aj
def splitN {α:Type}(f:aVx->T α) (n:Y):aVx->aVx->T α
 |0,_=> .no
 |1,j=>f j
 |m+2,j=> .br (n==(j:Y)) (f j)<|splitN f n (m+1)<|j+1
def Xx (P:aVM) (G:B3) (Γ:aWb) (ops:aVE) (F:aVy) (H:aVB):T (List LV×List AB):=
 match rX P ops.toList F with
 |some (s,k,n,len)=> .req (0<=n/\n<(len:Y)) (splitN (λj=>jM P G Γ ops (F.set s<|.ki k j) H) n len 0)
 |none=>jM P G Γ ops F H
def qL (G:B3) (Γ:aWb) (ops:aVE):Option Oper:=
 match ops.back? with
 | some o=>match callOf G [] o with
  |some (g,_)=>match Γ g with
   |some _=>aj
   |none=>if lastB .any ops.pop o then ah o else aj
  |none=>aj
 |none=>aj
def jO (P:aVM) (G:B3) (Γ:aWb) (K:aWq) (ops:aVE) (F:aVy) (H:aVB):T (List LV×List AB):=
 match qL G Γ ops with
 |some o=>(Xx P G Γ ops.pop F H).bind λq=>(KC P G Γ K q.1 q.2 o).bind λq2=> .ok (Aw q.1 o.dst q2.1,q2.2)
 |none=>Xx P G Γ ops F H
def hwx (P:aVM) (G:B3) (Γ:aWb) (F:aVy) (H:aVB) (o:aVP):T LV:=
 match o.op with
 | .call _=>Ip P G Γ F o
 | .move x=> .ok (AM G F x)
 | .assign x=> .ok (AM G F x)
 | .load t x=>FW P H t (AM G F x)
 | .fieldAddr s x i=>XD P s (AM G F x) i
 | .nilCheck x=>match AM G F x with
  | .own k off=> .ok (.own k off)
  | .op k es i j=> .ok (.op k es i j)
  | .xq n f=> .ok (.xq n f)
  |_=> .no
 | .binOp op _ _ _ _=>match op with
  | .add=>Dq P G F o
  | .sub=>Dq P G F o
  | .mul=>Dq P G F o
  |_=> .no
 |_=> .no
def aL8 (G:B3) (Γ:aWb) (ops:aVE):aVZ:=(au ops.size).find? λi=>
 match ops[i]? with
 |some o=>(match callOf G [] o with
  |some (g,_)=>(Γ g).isNone
  |none=>X)
 |none=>X
def Of (ops:aVE) (i:aVx):aVC:=
 match ops[i]? with
 |some o=>(o.after.toList.filter<|Region.binds .any).map (·.on)
 |none=>[]
def Gw (ops:aVE) (i:aVx):aVC:=UZ .any ops ops.size<|Of ops i
def Fy (ops:aVE) (i:aVx):aV9:=(ops[i]?).bind (·.dst)
def Nq (ops:aVE) (i:aVx):List Tmp:=
 match ops[i]? with
 |some o=>o.looksAt ops
 |none=>[]
def R9 (ops:aVE) (w:aVx):aVC:=(au ops.size).filter λi=>!(i==w)&&!(Gw ops i).contains w
def allA (ops:aVE) (w i:aVx):aVH:=(R9 ops w).all λj=>(Gw ops i).contains j
def Rb (ops:aVE) (w:aVx):aVC:=(au ops.size).filter λi=>!(i==w)&&((Gw ops i).contains w&&!allA ops w i)
def Jy (ops:aVE) (w:aVx):aVC:=(au ops.size).filter λi=>!(i==w)&&((Gw ops i).contains w&&allA ops w i)
def j7 (ops:aVE) (w:aVx):aVC:=R9 ops w++([w]++Rb ops w)
def abS (ops:aVE) (i j:aVx):aVH:=
 match Fy ops j with
 |some d=>(i==j || !(Fy ops i==ah d))&&(!(Nq ops i).contains d ||(!(i==j)&&an (j<i)&&(Gw ops i).contains j))
 |none=>X
def aSU (ops:aVE) (i j:aVx):aVH:=
 match Fy ops j with
 |some d=>!(Nq ops i).contains d
 |none=>X
def okW (ops:aVE) (w n:aVx):aVH:=
 let AW:=j7 ops w
 AW.all (λi=>(match ops[i]? with|some o=>o.guard.isNone|none=>X)&&(match Fy ops i with|some d=>an (d<n) |none=>X)&&
  (Of ops i).all (λp=>an (p<i)&&AW.contains p)&&AW.all (λj=>abS ops i j))&&
 ((Jy ops w).all (λb=>AW.all λi=>(Gw ops b).contains i)&&(R9 ops w++[w]).all λi=>([w]++Rb ops w).all λj=>aSU ops i j)
def goW (P:aVM) (G:B3) (Γ:aWb) (ops:aVE) (H:aVB):aVC->aVy->T (List LV)
 | [],F=> .ok F
 |i::is,F=>match ops[i]? with
  |some o=>(hwx P G Γ F H o).bind λy=>goW P G Γ ops H is (Aw F o.dst y)
  |none=> .no
def bn (P:aVM) (G:B3) (Γ:aWb) (ops:aVE) (H:aVB) (F:aVy):aVC->T Unit
 | []=> .ok ()
 | i::is=>match ops[i]? with
  |some o=>(match o.op with
   | .load _ _=>(hwx P G Γ F H o).bind λy=> .req (y=(match o.dst with|some d=>F.getD d .junk|none=> .junk)) (bn P G Γ ops H F is)
   |_=>bn P G Γ ops H F is)
  |none=> .no
def KX (ops:aVE) (w:aVx):aVR:=((au ops.size).map λi=>(j7 ops w).contains i).toArray
def aaY (ops:aVE):aVx->aVR->List Nat
 |0,_=>[]
 |n+1,l=>match ay .any ops l with
  | []=>[]
  |i::_=>i::aaY ops n (l.setIfInBounds i U)
def JO (ops:aVE) (w:aVx):aVC:=aaY ops (M<|Jy ops w)<|KX ops w
def aBY (P:aVM) (G:B3) (Γ:aWb) (K:aWq) (ops:aVE) (w:aVx) (F:aVy) (H:aVB):T (List LV×List AB):=
 if okW ops w (M F)&&P.follows .mixedOrders&&(M (JO ops w)==M (Jy ops w))&&(nt ops (JO ops w) (KX ops w) ||MD ops (M<|JO ops w) (JO ops w) (KX ops w)) then
  match ops[w]? with
  |some o=>(goW P G Γ ops H (R9 ops w) F).bind λF1=>(KC P G Γ K F1 H o).bind λq=>(bn P G Γ ops q.2 F1<|(R9 ops w).filter λi=>!(Gw ops w).contains i).bind λ_=>(goW P G Γ ops q.2 (Rb ops w)<|Aw F1 o.dst q.1).bind λF3=>Fg P G Γ ops [] (M q.2) (JO ops w) F3 q.2
  |none=> .no
 else .no
def aBX (P:aVM) (G:B3) (Γ:aWb) (K:aWq) (ops:aVE) (F:aVy) (H:aVB):T (List LV×List AB):=
 match qL G Γ ops with
 |some _=>jO P G Γ K ops F H
 |none=>match aL8 G Γ ops with
  |some w=>aBY P G Γ K ops w F H
  |none=>jO P G Γ K ops F H
def Gt:aV7->Nat
 | .region id _ _=>id
 | .seq a _=>Gt a
 | .block _ b=>Gt b
 | .loop b=>Gt b
 | .cond _ a _=>Gt a
 |_=>0
abbrev M3:=Nat->aVy->aVB->T (Ex×List LV×List AB)
abbrev RK:=Code->aVy->aVB->T (Ex×List LV×List AB)
def MM (L:M3):RK:=λb=>L<|Gt b
def vp:aWr->Option Ex
 |some ⟨_,_,.Cr _ _ _ .ready,X⟩=>ah .normal
 |some ⟨_,_,.Cr _ _ _ (.done x),X⟩=>match x with
  | .normal=>aj
  |x=>ah x
 |_=>aj
def aCz:aWc->List Nat
 | .tmp t=>[t]
 |_=>[]
def Gx:aV7->List Nat
 | .region _ ops _=>ops.toList.flatMap λo=>o.op.operands.toList.flatMap aCz
 | .seq a b=>Gx a++Gx b
 | .cond c a b=>aCz c++Gx a++Gx b
 | .block _ b=>Gx b
 | .loop b=>Gx b
 | .rangeFunc f _ a b=>aCz f++Gx a++Gx b
 | .scope b=>Gx b
 |_=>[]
def Pg (us:aVC) (F:aVy):aVy:=(au<|M F).map λi=>if us.contains i then F.getD i .junk else .junk
def DP (P:aVM) (G:B3) (Γ:aWb) (K:aWq) (L:RK):aV7->aVy->aVB->T (Ex×List LV×List AB)
 | .skip,F,H=> .ok (.normal,F,H)
 | .ret,F,H=> .ok (.ret,F,H)
 | .exit n,F,H=> .ok (.exit n,F,H)
 | .region _ ops d,F,H=>(if d then aBX P G Γ K ops F H else aDC P G Γ K ops F H).bind λq=> .ok (.normal,q.1,q.2)
 | .seq a b,F,H=>(DP P G Γ K L a F H).bind λq=>match q.1 with
  | .normal=>DP P G Γ K L b q.2.1 q.2.2
  |x=> .ok (x,q.2)
 | .cond c a b,F,H=>match c with
  | .tmp d=>match F.getD d .junk with
   | .bl U=>DP P G Γ K L a F H
   | .bl X=>DP P G Γ K L b F H
   | .v (.bool g)=> .br g (DP P G Γ K L a (F.set d<|.bl U) H) (DP P G Γ K L b (F.set d<|.bl X) H)
   |_=> .no
  | .const (.bool U)=>DP P G Γ K L a F H
  | .const (.bool X)=>DP P G Γ K L b F H
  |_=> .no
 | .block id a,F,H=>(DP P G Γ K L a F H).bind λq=>match q.1 with
  | .exit n=>if n=id then .ok (.normal,q.2) else .ok (.exit n,q.2)
  |x=> .ok (x,q.2)
 | .loop a,F,H=>L a F H
 | .scope a,F,H=>DP P G Γ K L a F H
 | .label _,F,H=> .ok (.normal,F,H)
 | .rangeFunc f ps asg body,F,H=>match AM G F f with
  | .fn g cap=>match P.funcs[g]? with
   | some fn=>if fn.body.isSome&&!(fn.name== "runtime.NumGoroutine") then
     (K.k g (.CS H.length::cap)<|H++[⟨Pg (Gx asg++Gx body) F,0,.Cr ps asg body .ready,X⟩]).bind λq=>match vp q.2[H.length]? with
      |some x=> .ok (x,F,q.2.set H.length ⟨[],0,.dead,X⟩)
      |none=> .no
    else .no
   |none=> .no
  |_=> .no
 |_,_,_=> .no
def SV (P:aVM) (fn:aWi) (F:aVy) (H:aVB):aWD->T (List LV)
 | []=> .ok []
 | .tmp t::rs=>(SV P fn F H rs).bind λl=> .ok (norm (F.getD t .junk)::l)
 | .cell a t::rs=>(FW P H t<|F.getD a .junk).bind λy=>(SV P fn F H rs).bind λl=> .ok (y::l)
def one (l:aVy):LV:=match l with| [x]=>x|l=>RY l
def wo (P:aVM) (fn:aWi) (t:aVy->aVB->T (Ex×List LV×List AB)) (args:aVy):T LV:=
 (t (args++aq (fn.ntmps-M args) (.v undef)) []).bind λq=>match q.1 with
  | .exit _=> .no
  |_=>(SV P fn q.2.1 q.2.2 fn.results.toList).bind λl=>if noOwn (one l) then .ok (one l) else (EY q.2.2 8<|one l).bind λ_=> .ok<|C3 q.2.2 8<|one l
def wg (P:aVM) (G:B3) (Γ:aWb) (K:aWq) (L:M3) (fn:aWi) (args:aVy):T LV:=
 match fn.body with
 |some c=>wo P fn (DP P G Γ K (MM L) c) args
 |none=> .no
def DN:List (FuncId×(List LV->T LV))->Specs
 | [],_=>aj
 |p::ps,g=>if g=p.1 then ah p.2 else DN ps g
def Al:M3:=λ_ _ _=> .no
def fI:RK:=λ_ _ _=> .no
def I6:aV7->Bool
 | .seq a b=>I6 a&&I6 b
 | .cond _ a b=>I6 a&&I6 b
 | .block _ b=>I6 b
 | .loop b=>I6 b
 | .rangeFunc ..=>X
 | .scope b=>I6 b
 |_=>U
def tE (t:aVy->aVB->T (Ex×List LV×List AB)):aVx->aVy->aVB->T (Ex×List LV×List AB)
 |0,_,_=> .no
 |m+1,F,H=>(t F H).bind λq=>match q.1 with
  | .normal=>tE t m q.2.1 q.2.2
  |x=> .ok (x,q.2)
def JM (P:aVM) (G:B3) (Γ:aWb) (K:aWq) (m:aVx):aVx->RK
 |0=>fI
 |d+1=>λb=>tE (DP P G Γ K (JM P G Γ K m d) b) m
def Xo (F:aVy):List Tmp->aVy->List LV
 |t::ts,x::xs=>Xo (F.set t x) ts xs
 |_,_=>F
abbrev DU:=Hand->aVY->aVx->RK
def El (P:aVM) (G:B3) (Γ:aWb) (LL:DU) (K:aWq):aWq:=
 ⟨λg args H=>match P.funcs[g]? with
  | some fn=>match fn.body with
   |some c=>(DP P G Γ K (LL K g<|M H) c (args++aq (fn.ntmps-M args) (.v undef)) H).bind λq=>match q.1 with
    | .exit _=> .no
    |_=>(SV P fn q.2.1 q.2.2 fn.results.toList).bind λl=> .ok (one l,q.2.2)
   |none=> .no
  |none=> .no,
  λk args H=>match H[k]? with
  | some ⟨F,t,.Cr ps asg body .ready,X⟩=>if M args=ps.size/\I6 asg=U/\I6 body=U then
    (DP P G Γ K fI asg (Xo F ps.toList args) H).bind λ(q:Ex×List LV×List AB)=>match q.1 with
     | .normal=>(match q.2.2[k]? with
      | some ⟨F1,_,.Cr ps1 asg1 body1 .ready,X⟩=>(DP P G Γ K (JM P G Γ K 20 2) body q.2.1<|q.2.2.set k ⟨F1,t,.Cr ps1 asg1 body1 .busy,X⟩).bind λ(r:Ex×List LV×List AB)=>match r.2.2[k]? with
       |some ⟨F2,_,.Cr ps2 asg2 body2 .busy,X⟩=>(match r.1 with
        | .normal=> .ok (.bl U,r.2.2.set k ⟨F2,t,.Cr ps2 asg2 body2 .ready,X⟩)
        |x=> .ok (.bl X,r.2.2.set k ⟨F2,t,.Cr ps2 asg2 body2<|.done x,X⟩))
       |_=> .no
      |_=> .no)
     |_=> .no
   else .no
  |_=> .no⟩
def inl (P:aVM) (G:B3) (Γ:aWb) (LL:DU):aVx->Hand
 |0=>GB
 |d+1=>El P G Γ LL<|inl P G Γ LL d
abbrev Does:=FuncId->Option (List LV->aVB->T (LV×List AB))
def VR (P:aVM) (G:B3) (Γ:aWb) (LL:DU) (C:Does):aVx->Hand
 |0=>GB
 |d+1=>⟨λg args H=>match C g with
  |some m=>m args H
  |none=>(El P G Γ LL<|VR P G Γ LL C d).k g args H,(El P G Γ LL<|VR P G Γ LL C d).y⟩
structure Gz where
 z:aVx->Prop
 gh:List (LV×Value)
 Cv:aVC
variable {P : Program} {G : B3} {Γ : Specs} {β : Nat -> Loc} {Z : Nat -> Prop} {Z0 : Gz} {w w0 : World} {F : List LV} {H : List AB} {a : Act} {ds : List Deferred}
def Cq {x:LV}{y z:aVQ}(h:pl x=ah y) (hr:R β Z w x z):z=y:=by
 cases x with
 |v q=>simp only [pl,Ah] at h;simp only [R] at hr;rw [hr,h]
 |bl b=>simp only [pl,Ah] at h;simp only [R] at hr;rw [hr,h]
 |ki k n=>simp only [pl,Ah] at h;simp only [R] at hr;rw [hr,h]
 | fn f l=>
  cases l with
  |nil=>
   simp only [pl,Ah] at h;simp only [R,RL] at hr;obtain ⟨ys,h1,h2⟩:=hr
   have:ys=#[]:=A8
   grind
  |cons _ _=>simp [pl] at h
 |_=>simp [pl] at h
def aLi {x:LV}{y:aVQ}(h:pl x=ah y):R β Z w x y:=by
 cases x with
 |v q=>simp only [pl,Ah] at h;simp only [R];exact h.symm
 |bl b=>simp only [pl,Ah] at h;simp only [R];exact h.symm
 |ki k n=>simp only [pl,Ah] at h;simp only [R];exact h.symm
 |fn f l=>
  cases l with
  |nil=>simp only [pl,Ah] at h;simp only [R,RL];exact ⟨#[],h.symm,rfl⟩
  |cons _ _=>simp [pl] at h
 |_=>simp [pl] at h
def aQF:∀ {l:aVy}{ys zs:aVO},B1 l=ah ys->RL β Z w l zs->zs=ys
 | [],ys,zs,h,hr=>by simp only [B1,Ah] at h;simp only [RL] at hr;rw [hr,h]
 | x::xs,ys,zs,h,hr=>by
  simp only [B1] at h;split at h
  ·rename_i y ys' h1 h2
   simp only [Ah] at h;obtain ⟨y',zs',e1,e2,e3⟩:=hr;rw [e1,Cq h1 e2,aQF h2 e3,h]
  ·cases h
def PH {x:LV}{y:aVQ}(h:R β Z w x y):R β Z w (norm x) y:=zF
def Tc {n:aVx}{x:LV}(h:okV n x):okV n (norm x):=zF
def aFd:∀ {l:aVy}{ys:aVO},RL β Z w l ys->RL β Z w (l.map norm) ys
 | [],_,h=>A8
 |x::xs,ys,h=>by
  obtain ⟨y,zs,h1,h2,h3⟩:=h;exact ⟨y,zs,h1,PH h2,aFd h3⟩
def qu {n:aVx}:∀ {l:aVy},AT n l->AT n (l.map norm)
 | [],_=>trivial
 |x::xs,h=>by
  exact ⟨Tc h.1,qu h.2⟩
def WT {l:aVy}{ys:aVS}(h:RL β Z w l ys.toList):R β Z w (Jz l) (.agg ys):=by
 unfold Jz;exact aMh
def sT {l:aVy}{ys:aVS}(h:RL β Z w l ys.toList):R β Z w (RY l) (.tuple ys):=by
 unfold RY;exact aMh
def Qk {n:aVx}{l:aVy}(h:AT n l):okV n (Jz l):=by
 unfold Jz;split
 ·trivial
 ·simpa only [okV] using qu h
def qi {n:aVx}{l:aVy}(h:AT n l):okV n (RY l):=by
 unfold RY;split
 ·trivial
 ·simpa only [okV] using qu h
def U2 (n:aVx):∀(l:aVO),AT n (l.map .v)
 | []=>trivial
 |_::xs=>⟨ak,U2 n xs⟩
def V7:∀(l:aVO),RL β Z w (l.map .v) l
 | []=>bT
 |x::xs=>by simp only [ET,RL,R];exact ⟨x,xs,rfl,rfl,V7 xs⟩
def aEX {x:LV}{y:aVQ}(h:Wz x=U) (hr:R β Z w x y):K7 y=true:=by
 cases x with
 |v q=>simp only [R] at hr;rw [hr];exact h
 |bl b=>simp only [R] at hr;rw [hr];rfl
 |ki k n=>simp only [R] at hr;rw [hr];rfl
 |own k off=>simp only [R] at hr;rw [hr];rfl
 |fn f l=>simp only [R] at hr;obtain ⟨ys,h1,_⟩:=hr;rw [h1];rfl
 |fb f l=>simp only [R] at hr;obtain ⟨ys,h1,_⟩:=hr;rw [h1];rfl
 |xq n f=>simp only [R] at hr;obtain ⟨b,off,h1,_⟩:=hr;rw [h1];rfl
 |os k es off n=>
  simp only [R] at hr;split at hr
  ·rw [hr.2.2];rfl
  ·obtain ⟨_,a,h1,_⟩:=hr;rw [h1];rfl
 |op k es i j=>simp only [R] at hr;rw [hr.2];rfl
 |om k=>simp only [R] at hr;rw [hr];rfl
 |mp kd ks vs=>simp only [R] at hr;obtain ⟨r,es,c,h1,_⟩:=hr;rw [h1];rfl
 |oc k es off n c=>simp only [R] at hr;obtain ⟨_,a,h1,_⟩:=hr;rw [h1];rfl
 |CS k=>simp only [R] at hr;rw [hr];rfl
 |xl e l=>simp only [R] at hr;obtain ⟨b,off,h1,_⟩:=hr;rw [h1];rfl
 |agg l=>simp [Wz] at h
 |AO l=>simp [Wz] at h
 |junk=>simp [Wz] at h
def afM {y:aVQ}(h:K7 y=U):y.cells=#[y]:=by cases y<;>first|rfl|(simp [K7] at h)
def qC {x:LV}{y:aVQ}{cs:aVy}(h:CQ x=ah cs) (hr:R β Z w x y):RL β Z w cs y.cells.toList/\(∀z∈y.cells.toList,K7 z=U):=by
 have single:∀x:LV,Wz x=U->R β Z w x y->RL β Z w [x] y.cells.toList/\(∀z∈y.cells.toList,K7 z=U):=λx hx hr=>by
  have h1:=aEX hx hr
  rw [afM h1];refine ⟨?_,?_⟩
  ·simp only [RL];exact ⟨y,[],rfl,hr,rfl⟩
  ·intro z hz
   grind
 cases x with
 | v q=>
  simp only [CQ] at h;split at h
  ·rename_i ha
   simp only [Ah] at h;subst h hr;exact ⟨V7 _,λz hz=>BH.1 ha z hz⟩
  ·cases h
 | agg l=>
  simp only [CQ] at h;split at h
  ·rename_i ha
   simp only [Ah] at h;obtain ⟨ys,h1,h2⟩:=hr;subst h h1;refine ⟨h2,λz hz=>?_⟩
   obtain ⟨i,hi,hz'⟩:=Hs.1 hz
   have hlen:=RL.length h2
   have hl:l[i]? =ah (l[i]'(by simp only [Value.cells] at hi;omega)):=Dh _
   obtain ⟨y',e1,e2⟩:=RL.get i _ h2 hl
   have:y'=z:=by
    simp only [Value.cells] at hi hz'
    grind
   rw [<-this];exact aEX (BH.1 ha _<|Gf _) e2
  ·cases h
 |bl b=>simp only [CQ,Ah] at h;subst h;exact single _ rfl hr
 |ki k n=>simp only [CQ,Ah] at h;subst h;exact single _ rfl hr
 |own k off=>simp only [CQ,Ah] at h;subst h;exact single _ rfl hr
 |fn f l=>simp only [CQ,Ah] at h;subst h;exact single _ rfl hr
 |fb f l=>simp only [CQ,Ah] at h;subst h;exact single _ rfl hr
 |xq n f=>simp only [CQ,Ah] at h;subst h;exact single _ rfl hr
 |os k es off n=>simp only [CQ,Ah] at h;subst h;exact single _ rfl hr
 |op k es i j=>simp only [CQ,Ah] at h;subst h;exact single _ rfl hr
 |om k=>simp only [CQ,Ah] at h;subst h;exact single _ rfl hr
 |mp kd ks vs=>simp only [CQ,Ah] at h;subst h;exact single _ rfl hr
 |oc k es off n c=>simp only [CQ,Ah] at h;subst h;exact single _ rfl hr
 |CS k=>simp only [CQ,Ah] at h;subst h;exact single _ rfl hr
 |xl e l=>simp only [CQ,Ah] at h;subst h;exact single _ rfl hr
 |AO l=>simp [CQ] at h
 |junk=>simp [CQ] at h
def pX {n:aVx}{x:LV}{cs:aVy}(h:CQ x=ah cs) (hr:okV n x):AT n cs:=by
 cases x with
 |v q=>
  simp only [CQ] at h;split at h
  ·simp only [Ah] at h;subst h;exact U2 _ _
  ·cases h
 |agg l=>
  simp only [CQ] at h;split at h
  ·simp only [Ah] at h;subst h;simpa only [okV] using hr
  ·cases h
 |bl b=>simp only [CQ,Ah] at h;subst h;exact ⟨hr,ak⟩
 |ki k n=>simp only [CQ,Ah] at h;subst h;exact ⟨hr,ak⟩
 |own k off=>simp only [CQ,Ah] at h;subst h;exact ⟨hr,ak⟩
 |fn f l=>simp only [CQ,Ah] at h;subst h;exact ⟨hr,ak⟩
 |fb f l=>simp only [CQ,Ah] at h;subst h;exact ⟨hr,ak⟩
 |xq n f=>simp only [CQ,Ah] at h;subst h;exact ⟨hr,ak⟩
 |os k es off n=>simp only [CQ,Ah] at h;subst h;exact ⟨hr,ak⟩
 |op k es i j=>simp only [CQ,Ah] at h;subst h;exact ⟨hr,ak⟩
 |om k=>simp only [CQ,Ah] at h;subst h;exact ⟨hr,ak⟩
 |mp kd ks vs=>simp only [CQ,Ah] at h;subst h;exact ⟨hr,ak⟩
 |oc k es off n c=>simp only [CQ,Ah] at h;subst h;exact ⟨hr,ak⟩
 |CS k=>simp only [CQ,Ah] at h;subst h;exact ⟨hr,ak⟩
 |xl e l=>simp only [CQ,Ah] at h;subst h;exact ⟨ak,ak⟩
 |AO l=>simp [CQ] at h
 |junk=>simp [CQ] at h
def QD (G:B3) (Z:aVx->Prop) (w:aVJ):Prop:=∀g n f,G g=ah (n,f)->Z g/\∀j,j<n->w.cell? ⟨g,j,aj⟩=ah (f j)
def okB (n:aVx) (b:AB):Prop:=AT n b.c/\(match b.k with| .mp _ _ vs=>AT n vs|_=>True)
def live (β:aVx->aWe) (k:aVx) (b:AB):Prop:=
 match b.k with
 | .cl=>True
 | .vec _ _=>(β k).cap≠aj
 | .mp ..=>True
 | .Cr ..=>True
 | .st ..=>True
 | .dead=>False
def aTV:Ex->Option Code
 | .normal=>aj
 | .exit n=>ah (.exit n)
 | .ret=>ah .ret
def LsR:LS->Loop->Prop
 | .ready,r=>r.state=.ready/\r.pending=aj
 | .busy,r=>r.state=.busy
 | .done x,r=>r.state=.done/\r.pending=aTV x
def Bc (β:aVx->aWe) (Z:aVx->Prop) (w:aVJ) (k:aVx) (b:AB):Prop:=
 match b.k with
 | .cl=>∃cs,w.heap[(β k).b]? =ah (.cells cs b.t (0,0))/\RL β Z w b.c cs.toList
 | .vec e l=>match (β k).cap with
  |none=>l=[]
  |some c=>∃cs,w.heap[(β k).b]? =ah (.cells cs b.t (0,0))/\(β k).o+c*e.n<=cs.size/\M l<=c/\∀(i:aVx) (d:e.D),l[i]? =ah d->RD Z w e d (β k).b ((β k).o+i*e.n)
 | .mp kd ks vs=>∃es clock,w.heap[(β k).b]? =ah (.map es clock)/\es.toList.map (·.key)=ks.map (.int kd)/\RL β Z w vs (es.toList.map (·.val))
 | .Cr ps asg body st=>∃r:Loop,w.heap[(β k).b]? =ah (.loop r)/\r.params=ps/\r.assign=asg/\r.body=body/\LsR st r/\RL β Z w b.c r.tmps.toList
 | .st e l=>∃es clock,w.heap[(β k).b]? =ah (.map es clock)/\es.toList.map (·.key)=List.map (wb e) l/\∀x,x∈es.toList->x.val=.bool U
 | .dead=>True
abbrev Gs (D:aVx):Deferred:={target:=.collected D,args:=#[]}
def Fw (w:aVJ) (D:aVx):Prop:=w.heap[D]? =ah (.deferred<|ah [])
structure RW (G:B3) (w0:aVJ) (Z0:Gz) (Z:aVx->Prop) (β:aVx->aWe) (H:aVB) (w:aVJ):Prop where
 below:Below w0.heap.size w0 w
 Bf:∀b,Z b->b<w.heap.size
 Eo:∀b,Z b->Z0.z b\/w0.heap.size<=b
 Ct:∀k b,H[k]? =ah b->live β k b->b.p=X->¬Z (β k).b
 GQ:∀k b,H[k]? =ah b->live β k b->b.p=U->Z (β k).b
 low:∀k b,H[k]? =ah b->live β k b->w0.heap.size<=(β k).b
 inj:∀i j bi bj,H[i]? =ah bi->H[j]? =ah bj->live β i bi->live β j bj->bi.p=X->(β i).b=(β j).b->i=j
 blk:∀k b,H[k]? =ah b->Bc β Z w k b/\okB (M H) b
 Cl:QD G Z w
 gh:∀p,p∈Z0.gh->R β Z w p.1 p.2/\okV (M H) p.1
 Cv:∀D,D∈Z0.Cv->Z D/\Fw w D
structure RF (ds:aWd) (β:aVx->aWe) (Z:aVx->Prop) (w:aVJ) (n:aVx) (F:aVy) (a:aVX):Prop where
 size:a.tmps.size=M F
 get:∀t x,F[t]? =ah x->R β Z w x (a.tmps.getD t undef)/\okV n x
 defers:a.defers=ds/\∀d,d∈ds->∃D,d=Gs D/\Z D/\Fw w D
def RF.eval (hF:RF ds β Z w (M H) F a) (hg:QD G Z w) (x:aWc):R β Z w (AM G F x) (a.eval x)/\okV (M H) (AM G F x):=by
 cases x with
 |tmp t=>
  simp only [AM,Act.eval];cases h:F[t]? with
  |none=>simp [List.getD,h,R,okV]
  |some y=>simp only [List.getD,h,mL];exact hF.get t y h
 |const x=>
  simp only [AM,Act.eval];cases x<;>simp [R,okV]
 | global g=>
  simp only [AM,Act.eval];split
  ·rename_i n f h
   obtain ⟨h1,h2⟩:=hg g n f h;simp only [R,okV]
   grind
  ·simp [R,okV]
 |func f=>simp only [AM,Act.eval,R,RL,okV,AT];exact ⟨⟨#[],rfl,rfl⟩,ak⟩
def T.pick {α:Type}{K:α->Prop}:∀ {t:T α},t.all K->∃x,K x/\t.all (λy=>y=x)
 | .ok x,h=>⟨x,h,rfl⟩
 | .br b t e,h=>by
  cases b with
  |true=>obtain ⟨x,h1,h2⟩:=T.pick<|h.1 rfl;exact ⟨x,h1,λ_=>h2,λhb=>Ll⟩
  |false=>obtain ⟨x,h1,h2⟩:=T.pick<|h.2 rfl;exact ⟨x,h1,λhb=>Ll,λ_=>h2⟩
 | .req p t,h=>by obtain ⟨x,h1,h2⟩:=T.pick h.2;exact ⟨x,h1,h.1,h2⟩
 | .no,h=>Ar
def cell_of_block {b:aVx}{cs:aVS}{t:aVN}(h:w.heap[b]? =ah (.cells cs t (0,0))) (o:aVx):w.cell? ⟨b,o,aj⟩=cs[o]? :=by
 simp [World.cell?,h]
def ada {b:aVx}{cs:aVS}{t:aVN}(h:w.heap[b]? =ah (.cells cs t (0,0))) (o:aVx):w.frozen? ⟨b,o,aj⟩=false:=by
 simp [World.frozen?,h]
def addr_add (b o i:aVx):Addr.add ⟨b,o,aj⟩ i=⟨b,o+i,aj⟩:=by
 unfold Addr.add;split
 ·grind
 ·rfl
def cw {t:aVN}{b:aVH}(h:SZ P t=ah b) (w:aVJ):(isAgg t).run P w=.ok b w:=by
 unfold SZ at h;cases hu:P.underlying t with
 |none=>simp [hu] at h
 |some d=>
  unfold isAgg;simp only [mJ,Ck hu,lr];cases d<;>simp_all
def run_sizeOf {t:aVN}{n:aVx}(h:HM P t=ah n) (w:aVJ):(sizeOf t).run P w=.ok n w:=by
 unfold HM at h;cases hu:P.info? t with
 |none=>simp [hu] at h
 |some d=>
  simp only [hu,Jk,Ah] at h
  simp [sizeOf,typeInfo,hu,h]
def oz {t:aVN}{z:aVQ}(h:Ic P t=ah z) (w:aVJ):(zeroValue t).run P w=.ok z w:=by
 unfold Ic at h;cases hu:P.info? t with
 |none=>simp [hu] at h
 |some d=>
  simp only [hu,On] at h
  simp [zeroValue,typeInfo,hu,h]
def RL.take_drop {l:aVy}{ys:aVO}(h:RL β Z w l ys) (off n:aVx):RL β Z w ((l.drop off).take n) ((ys.drop off).take n):=by
 have hl:=RL.length h
 refine RL.CZ A8 λi x hx=>?_
 rw [Lg] at hx|-;split at hx
 ·rename_i hi
  rw [AD hi];rw [FO] at hx|-;exact RL.get _ _ h hx
 ·cases hx
def AT.take_drop {n:aVx}{l:aVy}(h:AT n l) (off m:aVx):AT n ((l.drop off).take m):=by
 refine AT.CZ λi x hx=>?_
 rw [Lg] at hx;split at hx
 ·rw [FO] at hx;exact AT.get _ _ h hx
 ·cases hx
def RF.mono {β':aVx->aWe}{Z':aVx->Prop}{w':aVJ}{n m:aVx}(hF:RF ds β Z w n F a) (hn:n<=m) (hβ:∀k,k<n->β' k=β k) (hZ:∀b,Z b->Z' b)
  (hw:∀b,Z b->w'.heap[b]? =w.heap[b]?):RF ds β' Z' w' m F a:=
 ⟨hF.size,λt x hx=>⟨R.mono hβ hZ hw x _ (hF.get t x hx).2 (hF.get t x hx).1,okV.mono hn x (hF.get t x hx).2⟩,hF.defers.1,λd hd=>by
  obtain ⟨D,h1,h2,h3⟩:=hF.defers.2 d hd;exact ⟨D,h1,hZ D h2,by unfold Fw;rw [hw D h2];exact h3⟩⟩
def okB.mono {n m:aVx}(h:n<=m) {b:AB}(hb:okB n b):okB m b:=by
 refine ⟨AT.mono h _ hb.1,?_⟩
 have:=hb.2
 split
 ·rename_i hk;rw [hk] at this;exact AT.mono h _ this
 ·trivial
def KW {β':aVx->aWe}{k:aVx}{b:AB}(h:β' k=β k):live β' k b=live β k b:=by
 unfold live;rw [h]
def Bc.keep {β':aVx->aWe}{Z':aVx->Prop}{w':aVJ}{n k:aVx}{b:AB}(hβ:∀k,k<n->β' k=β k) (hZ:∀b,Z b->Z' b) (hw:∀b,Z b->w'.heap[b]? =w.heap[b]?) (hk:β' k=β k)
  (hb:live β k b->w'.heap[(β k).b]? =w.heap[(β k).b]?) (hok:okB n b) (h:Bc β Z w k b):Bc β' Z' w' k b:=by
 unfold Bc at*;unfold live at hb;unfold okB at hok;rw [hk];split at h
 ·rename_i hbk
  obtain ⟨cs,h1,h2⟩:=h;exact ⟨cs,A8,RL.mono hβ hZ hw _ _ hok.1 h2⟩
 ·rename_i e l hbk
  simp only [hbk] at hb|-;split at h
  ·rename_i hc
   grind
  ·rename_i c hc
   have hb':=hb (by rw [hc];simp)
   obtain ⟨cs,h1,h2,h3,h4⟩:=h;exact ⟨cs,A8,h2,h3,λi d hd=>RD.keep hZ hw e d _ _ hb'<|h4 i d hd⟩
 ·rename_i kd ks vs hbk
  simp only [hbk] at hb hok|-;obtain ⟨es,clock,h1,h2,h3⟩:=h;exact ⟨es,clock,A8,h2,RL.mono hβ hZ hw _ _ hok.2 h3⟩
 ·rename_i ps asg body st hbk
  obtain ⟨r,h1,h2,h3,h4,h5,h6⟩:=h;exact ⟨r,A8,h2,h3,h4,h5,RL.mono hβ hZ hw _ _ hok.1 h6⟩
 ·rename_i e l hbk
  grind
 ·rename_i hbk
  grind
def RW.lt (hW:RW G w0 Z0 Z β H w) {k:aVx}{b:AB}(hk:H[k]? =ah b) (hl:live β k b):(β k).b<w.heap.size:=by
 have h:=(hW.blk k b hk).1
 unfold Bc at h;unfold live at hl;split at h
 ·obtain ⟨cs,h1,_⟩:=h
  grind
 ·rename_i hbk
  split at h
  ·grind
  ·obtain ⟨cs,h1,_⟩:=h
   grind
 ·obtain ⟨es,clock,h1,_⟩:=h
  grind
 ·obtain ⟨r,h1,_⟩:=h
  grind
 ·obtain ⟨es,clock,h1,_⟩:=h
  grind
 ·rename_i hbk
  grind
def EE {w w':aVJ}(hb:Below w.heap.size w w') {b:aVx}(h:b<w.heap.size):w'.heap[b]? =w.heap[b]? :=hb.block b h
def QD.mono {Z':aVx->Prop}{w':aVJ}(h:QD G Z w) (hZ:∀b,Z b->Z' b) (hw:∀b,Z b->w'.heap[b]? =w.heap[b]?):QD G Z' w':=λg n f hg=>by
 obtain ⟨h1,h2⟩:=h g n f hg;exact ⟨hZ _ h1,λj hj=>by rw [Qd<|hw g h1];exact h2 j hj⟩
def RW.call {w':aVJ}(hW:RW G w0 Z0 Z β H w) (hb:Below w.heap.size w w'):RW G w0 Z0 (λb=>Z b\/(w.heap.size<=b/\b<w'.heap.size)) β H w':=by
 have hs:=hb.size
 have h0:=hW.below.size
 have hw:∀b,Z b->w'.heap[b]? =w.heap[b]? :=λb hz=>EE hb<|hW.Bf b hz
 refine ⟨hW.below.trans<|hb.mono h0,λb hz=>?_,λb hz=>?_,λk b hk hl hp hz=>?_,λk b hk hl hp=> .inl<|hW.GQ k b hk hl hp,hW.low,hW.inj,λk b hk=>?_,hW.Cl.mono (λ_ h=> .inl h) hw,λp hp=>⟨R.mono (n:=M H) (λ_ _=>rfl) (λ_ h=> .inl h) hw _ _ (hW.gh p hp).2 (hW.gh p hp).1,(hW.gh p hp).2⟩,λD hD=>⟨.inl (hW.Cv D hD).1,aS⟩⟩
 ·rcases hz with hz|hz
  ·have:=hW.Bf b hz;omega
  ·exact hz.2
 ·rcases hz with hz|hz
  ·exact hW.Eo b hz
  ·omega
 ·rcases hz with hz|hz
  ·exact hW.Ct k b hk hl hp hz
  ·have:=hW.lt hk hl;omega
 ·obtain ⟨h1,h2⟩:=hW.blk k b hk
  exact ⟨h1.keep (λ_ _=>rfl) (λ_ h=> .inl h) hw rfl (λhl=>EE hb<|hW.lt hk hl) h2,h2⟩
def RW.same {w':aVJ}(hW:RW G w0 Z0 Z β H w) (hb:Below w.heap.size w w'):RW G w0 Z0 Z β H w':=by
 have hs:=hb.size
 have h0:=hW.below.size
 have hw:∀b,Z b->w'.heap[b]? =w.heap[b]? :=λb hz=>EE hb<|hW.Bf b hz
 refine ⟨hW.below.trans<|hb.mono h0,λb hz=>?_,hW.Eo,hW.Ct,hW.GQ,hW.low,hW.inj,λk b hk=>?_,hW.Cl.mono (λ_ h=>h) hw,λp hp=>⟨R.mono (n:=M H) (λ_ _=>rfl) (λ_ h=>h) hw _ _ (hW.gh p hp).2 (hW.gh p hp).1,(hW.gh p hp).2⟩,λD hD=>⟨(hW.Cv D hD).1,aS⟩⟩
 ·have:=hW.Bf b hz;omega
 ·obtain ⟨h1,h2⟩:=hW.blk k b hk
  exact ⟨h1.keep (λ_ _=>rfl) (λ_ h=>h) hw rfl (λhl=>EE hb<|hW.lt hk hl) h2,h2⟩
def RW.Km {ℓ:aWe}{nb:AB}(hW:RW G w0 Z0 Z β H w) (hp:nb.p=X) (hok:okB (M H+1) nb)
  (hf:live (λ_=>ℓ) 0 nb->¬Z ℓ.b/\w0.heap.size<=ℓ.b/\∀j bj,H[j]? =ah bj->live β j bj->(β j).b≠ℓ.b)
  (hB:∀β':aVx->aWe,(∀k,k<M H->β' k=β k)->β' (M H)=ℓ->Bc β' Z w (M H) nb):
  ∃β',(∀k,k<M H->β' k=β k)/\β' (M H)=ℓ/\RW G w0 Z0 Z β' (H++[nb]) w:=by
 let β':aVx->aWe:=λk=>if k=M H then ℓ else β k
 have hb':∀k,k<M H->β' k=β k:=λk hk=>A8
 have hbn:β' (M H)=ℓ:=by simp [β']
 have hlive:live β' (M H) nb=live (λ_=>ℓ) 0 nb:=by unfold live;rw [hbn]
 have old:∀k b,(H++[nb])[k]? =ah b->(k<M H/\H[k]? =ah b/\β' k=β k)\/(k=M H/\b=nb):=λk b h=>by
  by_cases hk:k<M H
  ·grind
  ·have hkl:k=M H:=A8
   subst hkl
   simp at h
   exact .inr ⟨rfl,h.symm⟩
 refine ⟨β',hb',hbn,hW.below,hW.Bf,hW.Eo,λk b hk hl hp'=>?_,λk b hk hl hp'=>?_,λk b hk hl=>?_,λi j bi bj hi hj li lj hpi e=>?_,λk b hk=>?_,hW.Cl,λp hp=>⟨R.mono hb' (λ_ h=>h) (λ_ _=>rfl) _ _ (hW.gh p hp).2 (hW.gh p hp).1,okV.mono AI _ (hW.gh p hp).2⟩,hW.Cv⟩
 ·rcases old k b hk with ⟨h1,h2,h3⟩ |⟨rfl,rfl⟩
  ·rw [h3];rw [KW h3] at hl;exact hW.Ct k b h2 hl hp'
  ·grind
 ·rcases old k b hk with ⟨h1,h2,h3⟩ |⟨rfl,rfl⟩
  ·rw [h3];rw [KW h3] at hl;exact hW.GQ k b h2 hl hp'
  ·rw [hp] at hp';cases hp'
 ·rcases old k b hk with ⟨h1,h2,h3⟩ |⟨rfl,rfl⟩
  ·rw [h3];rw [KW h3] at hl;exact hW.low k b h2 hl
  ·grind
 ·rcases old i bi hi with ⟨h1,h2,h3⟩ |⟨rfl,rfl⟩
  ·rw [KW h3] at li
   rcases old j bj hj with ⟨g1,g2,g3⟩ |⟨rfl,rfl⟩
   ·rw [KW g3] at lj;rw [h3,g3] at e;exact hW.inj i j bi bj h2 g2 li lj hpi e
   ·grind
  ·rw [hlive] at li
   rcases old j bj hj with ⟨g1,g2,g3⟩ |⟨rfl,rfl⟩
   ·rw [KW g3] at lj;rw [hbn,g3] at e;exact absurd e.symm<|(hf li).2.2 j bj g2 lj
   ·rfl
 ·have hlen:M (H++[nb])=M H+1:=AI
  rw [hlen];rcases old k b hk with ⟨h1,h2,h3⟩ |⟨rfl,rfl⟩
  ·obtain ⟨g1,g2⟩:=hW.blk k b h2
   exact ⟨g1.keep hb' (λ_ h=>h) (λ_ _=>rfl) h3 (λ_=>rfl) g2,g2.mono A0⟩
  ·grind
def RW.set {w':aVJ}{k:aVx}{b nb:AB}(hW:RW G w0 Z0 Z β H w) (hk:H[k]? =ah b) (hl:live β k b) (hp:b.p=X) (hnp:nb.p=X) (hok:okB (M H) nb)
  (hsz:w'.heap.size=w.heap.size) (hos:w'.os=w.os/\w'.tape=w.tape/\w'.output=w.output) (hne:∀j,j≠(β k).b->w'.heap[j]? =w.heap[j]?) (hB:Bc β Z w' k nb):RW G w0 Z0 Z β (H.set k nb) w':=by
 have hw:∀b',Z b'->w'.heap[b']? =w.heap[b']? :=λb' hz=>hne b' λe=>hW.Ct k b hk hl hp<|e▸hz
 have old:∀i bi,(H.set k nb)[i]? =ah bi->(i=k/\bi=nb)\/(i≠k/\H[i]? =ah bi):=λi bi h=>by
  rw [IS] at h;split at h
  ·rename_i e
   grind
  ·grind
 refine ⟨?_,λb' hz=>aPM,hW.Eo,λi bi hi li pi=>?_,λi bi hi li pi=>?_,λi bi hi li=>?_,λi j bi bj hi hj li lj pi e=>?_,λi bi hi=>?_,hW.Cl.mono (λ_ h=>h) hw,λp hp=>⟨R.mono (n:=M H) (λ_ _=>rfl) (λ_ h=>h) hw _ _ (hW.gh p hp).2 (hW.gh p hp).1,aPN⟩,λD hD=>⟨(hW.Cv D hD).1,aS⟩⟩
 ·refine hW.below.trans ⟨hos.1,hos.2.1,hos.2.2,mD hsz.symm,λi hi=>hne i ?_⟩
  have:=hW.low k b hk hl
  omega
 ·rcases old i bi hi with ⟨rfl,rfl⟩ |⟨h1,h2⟩
  ·exact hW.Ct _ b hk hl hp
  ·exact hW.Ct i bi h2 li pi
 ·rcases old i bi hi with ⟨rfl,rfl⟩ |⟨h1,h2⟩
  ·grind
  ·exact hW.GQ i bi h2 li pi
 ·rcases old i bi hi with ⟨rfl,rfl⟩ |⟨h1,h2⟩
  ·exact hW.low _ b hk hl
  ·exact hW.low i bi h2 li
 ·rcases old i bi hi with ⟨rfl,rfl⟩ |⟨h1,h2⟩
  ·rcases old j bj hj with ⟨rfl,rfl⟩ |⟨g1,g2⟩
   ·rfl
   ·exact hW.inj _ j b bj hk g2 hl lj hp e
  ·rcases old j bj hj with ⟨rfl,rfl⟩ |⟨g1,g2⟩
   ·exact hW.inj i _ bi b h2 hk li hl pi e
   ·exact hW.inj i j bi bj h2 g2 li lj pi e
 ·rw [C4]
  rcases old i bi hi with ⟨rfl,rfl⟩ |⟨h1,h2⟩
  ·grind
  ·obtain ⟨g1,g2⟩:=hW.blk i bi h2
   refine ⟨g1.keep (λ_ _=>rfl) (λ_ h=>h) hw rfl (λli=>hne _ λe=>?_) g2,g2⟩
   exact h1 (hW.inj k i b bi hk h2 hl li hp e.symm).symm
def RW.alloc {cs:aVy}{vs:aVS}{t:aVN}(hW:RW G w0 Z0 Z β H w) (hr:RL β Z w cs vs.toList) (hk:AT (M H) cs):
  ∃β',(∀k,k<M H->β' k=β k)/\(β'<|M H).b=w.heap.size/\RW G w0 Z0 Z β' (H++[⟨cs,t,.cl,X⟩]) (w.alloc<|.cells vs t)/\(∀b,Z b->(w.alloc<|.cells vs t).heap[b]? =w.heap[b]?):=by
 have hbw:Below w.heap.size w (w.alloc<|.cells vs t):=(Below.refl _ _).alloc (Aq _) _
 have hw:∀b,Z b->(w.alloc<|.cells vs t).heap[b]? =w.heap[b]? :=λb hz=>EE hbw<|hW.Bf b hz
 obtain ⟨β',h1,h2,h3⟩:=(hW.same hbw).Km (ℓ:=⟨w.heap.size,0,aj⟩) (nb:=⟨cs,t,.cl,X⟩) rfl ⟨AT.mono A0 _ hk,ak⟩ (λ_=>⟨λhz=>aP,hW.below.size,λj bj hj lj e=>TC⟩) (λβ' h1 h2=>by
  simp only [Bc,h2];refine ⟨vs,?_,RL.mono h1 (λ_ h=>h) hw _ _ hk hr⟩
  show (w.heap.push _)[w.heap.size]? =_
  simp)
 grind
def Dd (β:aVx->aWe) (H:aVB) (ks:aVC):aVC:=(ks.filter λk=>@decide (∃b,H[k]? =ah b/\live β k b/\b.p=X)<|Classical.propDecidable _).map λk=>(β k).b
def dt {ks:aVC}{x:aVx}:x∈Dd β H ks↔∃k b,k∈ks/\H[k]? =ah b/\live β k b/\b.p=X/\x=(β k).b:=by
 unfold Dd;simp only [F4,Cg]
 constructor
 ·rintro ⟨k,⟨h1,h2⟩,h3⟩
  grind
 ·rintro ⟨k,b,h1,h2,h3,h4,h5⟩
  grind
def Th {k:aVx}{b:AB}(hb:H[k]? =ah b) (hl:live β k b) (hp:b.p=X):(β k).b∈Dd β H [k]:=dt.2 ⟨k,b,AI,hb,hl,hp,rfl⟩
end Go.Sx
namespace Go.Sx
open Go.Proofs.YtjdlmobanmhohaaGreatDoor
open Go Go.RowKit
variable {P : Program} {G : B3} {Γ : Specs} {β : Nat -> Loc} {Z : Nat -> Prop} {Z0 : Gz} {w w0 : World} {F : List LV} {H : List AB} {a : Act}
def RD.cells {Z Z':aVx->Prop}{w w':aVJ}(hZ:∀b,Z b->Z' b) (hw:∀b,Z b->w'.heap[b]? =w.heap[b]?):
  ∀(t:Ty) (d:t.D) (b o:aVx),(∀j,j<t.n->w'.cell? ⟨b,o+j,aj⟩=w.cell? ⟨b,o+j,aj⟩)->RD Z w t d b o->RD Z' w' t d b o
 | .int _,_,b,o,hb,h=>Vm
 | .bool,_,b,o,hb,h=>Vm
 | .str,_,b,o,hb,h=>Vm
 | .sl e,l,b,o,hb,h=>by
  exact aME
 | .pair x y,d,b,o,hb,h=>by
  refine ⟨RD.cells hZ hw x d.1 b o (λj hj=>hb j nG) h.1,RD.cells hZ hw y d.2 b _ (λj hj=>?_) h.2⟩
  have:=hb (x.n+j) nG
  grind
def getD_lt {l:aVy}{j:aVx}(h:j<M l):l[j]? =ah (l.getD j .junk):=A8
def fO {n:aVx}{l:aVy}(h:AT n l) (j:aVx):okV n (l.getD j .junk):=by
 cases hq:l[j]? with
 |none=>simp [List.getD,hq,okV]
 |some q=>simp only [List.getD,hq,mL];exact AT.get _ _ h hq
def getD_at {e:Ty}{l:List e.D}{i:aVx}(h:i<M l):l[i]? =ah (l.getD i e.dflt):=A8
def qj {b off n:aVx}{L:aVy}(hL:M L=n) (hc:∀q,q<n->∃z,w.cell? ⟨b,off+q,aj⟩=ah z/\R β Z w (L.getD q .junk) z):
  ∃zs:aVO,M zs=n/\RL β Z w L zs/\∀w':aVJ,w'.heap[b]? =w.heap[b]? ->(loadCells ⟨b,off,aj⟩ n).run P w'=.ok zs.toArray w':=by
 have hch:∀j,∃z,j<n->w.cell? ⟨b,off+j,aj⟩=ah z/\R β Z w (L.getD j .junk) z:=λj=>by
  by_cases hj:j<n
  ·grind
  ·exact ⟨undef,λh=>absurd h hj⟩
 obtain ⟨g,hg⟩:=xi hch;refine ⟨(au n).map g,AI,RL.CZ A8 λi x hx=>?_,λw' hw'=>?_⟩
 ·have hi:i<n:=A8
  refine ⟨g i,A8,?_⟩
  grind
 ·have hld:=run_loadCells (P:=P) w' ⟨b,off,aj⟩ n g (λj hj=>by rw [addr_add,Qd (w:=w) (w':=w') hw'];exact (hg j hj).1)
  grind
def pF {t:aVN}{x lv:LV}{y:aVQ}(hW:RW G w0 Z0 Z β H w) (h:(FW P H t x).all λz=>z=lv) (hr:R β Z w x y) (hk:okV (M H) x):
  ∃z,(∀w',(∀b,(Z b\/∃k,k∈owns x/\b=(β k).b)->w'.heap[b]? =w.heap[b]?)->(Instr.loadAt t y).run P w'=.ok z w')/\R β Z w lv z/\okV (M H) lv:=by
 have ownCl:∀(k:aVx) (b:AB),H[k]? =ah b->b.E4=U->∃cs,w.heap[(β k).b]? =ah (.cells cs b.t (0,0))/\RL β Z w b.c cs.toList/\AT (M H) b.c:=λk b hb hc=>by
  obtain ⟨h1,h2⟩:=hW.blk k b hb;unfold Bc at h1;unfold AB.E4 at hc;split at hc
  ·rename_i hk'
   simp only [hk'] at h1;obtain ⟨cs,h3,h4⟩:=h1;exact ⟨cs,h3,h4,h2.1⟩
  ·cases hc
 have vecAt:∀(k es i:aVx) (c:aVy) (t:aVN) (e:Ty) (l:List e.D) (p:aVH),H[k]? =ah ⟨c,t,.vec e l,p⟩->(β k).cap≠aj->e.n=es->i<M l->∀q,q<es->∃z,w.cell? ⟨(β k).b,(β k).o+i*es+q,aj⟩=ah z/\R β Z w ((Br e<|l.getD i e.dflt).getD q .junk) z:=λk es i c t e l p hb hcap hes hi q hq=>by
  have h1:=(hW.blk k _ hb).1
  simp only [Bc] at h1;split at h1
  ·exact yQ
  ·obtain ⟨cs,_,_,_,h4⟩:=h1
   have h5:=h4 i _<|getD_at hi
   subst hes;exact XE e _ _ _ h5 q _<|getD_lt (by rw [KM];exact hq)
 unfold FW at h;split at h
 ·rename_i n hag hsz
  have e1:=λw=>cw hag w
  have e2:=λw=>run_sizeOf hsz w
  split at h
  ·rename_i k off
   split at h
   ·rename_i b hb
    split at h
    ·rename_i hle
     simp only [T.all] at h;obtain ⟨cs,hc,hrl,hok⟩:=ownCl k b hb hle.1;simp only [R] at hr
     have hlen:=RL.length hrl
     have hn:M ((b.c.drop off).take n)=n:=DJ
     obtain ⟨zs,f1,f2,f3⟩:=qj (P:=P) (β:=β) (Z:=Z) (w:=w) (b:=(β k).b) (off:=off) (L:=(b.c.drop off).take n) hn (λq hq=>by
      have hlt:off+q<M b.c:=A0
      obtain ⟨z,h1,h2⟩:=RL.get _ _ hrl<|Dh hlt;refine ⟨z,aOo,?_⟩
      have:((b.c.drop off).take n).getD q .junk=b.c[off+q]:=by
       grind
      rw [this];exact h2)
     refine ⟨.agg zs.toArray,λw' hw'=>?_,?_,?_⟩
     ·have:=f3 w' (hw' (β k).b<|.inr ⟨k,Iy,rfl⟩)
      simp [Instr.loadAt,Instr.sureAddr,hr,loadVar,e1,e2,this]
     ·exact yM
     ·rw [<-h];exact Qk<|hok.take_drop off n
    ·cases h
   ·cases h
  ·rename_i m f
   split at h
   ·rename_i hle
    simp only [T.all] at h;simp only [R] at hr;obtain ⟨b,off,e3,hz,e4⟩:=hr;simp only [okV] at hk
    obtain ⟨zs,f1,f2,f3⟩:=qj (P:=P) (β:=β) (Z:=Z) (w:=w) (b:=b) (off:=off) (L:=(au n).map f) (n:=n) AI (λq hq=>by
     obtain ⟨z,h1,h2⟩:=e4 q A0;exact ⟨z,h1,by simpa [List.getD,hq] using h2⟩)
    refine ⟨.agg zs.toArray,λw' hw'=>?_,?_,?_⟩
    ·have:=f3 w' (hw' b<|.inl hz)
     simp [Instr.loadAt,Instr.sureAddr,e3,loadVar,e1,e2,this]
    ·exact yM
    ·rw [<-h]
     refine Qk<|AT.CZ λi x hx=>?_
     have hi:i<n:=by have:=(EC.1 hx).1;simpa using this
     have:x=f i:=by simpa [hi] using hx.symm
     rw [this];exact okV.mono (NV _) _<|hk i
   ·cases h
  ·rename_i k es i j
   split at h
   ·rename_i c t' e l p hb
    split at h
    ·rename_i hle
     simp only [T.all] at h;obtain ⟨hi,h⟩:=h;simp only [R] at hr
     have hva:=vecAt k es i c t' e l p hb hr.1 hle.1 hi
     have hlen:M (Br e<|l.getD i e.dflt)=es:=by rw [KM];exact hle.1
     obtain ⟨zs,f1,f2,f3⟩:=qj (P:=P) (β:=β) (Z:=Z) (w:=w) (b:=(β k).b) (off:=(β k).o+i*es+j) (L:=((Br e<|l.getD i e.dflt).drop j).take n) (n:=n) (by rw [MT,FN,hlen];omega) (λq hq=>by
      obtain ⟨z,h1,h2⟩:=hva (j+q) A0;refine ⟨z,by rw [Hq _ j q];exact h1,?_⟩
      have:(((Br e<|l.getD i e.dflt).drop j).take n).getD q .junk=(Br e<|l.getD i e.dflt).getD (j+q) .junk:=by
       generalize Br e (l.getD i e.dflt)=L
       grind
      rw [this];exact h2)
     refine ⟨.agg zs.toArray,λw' hw'=>?_,?_,?_⟩
     ·have:=f3 w' (hw' (β k).b<|.inr ⟨k,Iy,rfl⟩)
      simp [Instr.loadAt,Instr.sureAddr,hr.2,loadVar,e1,e2,this]
     ·exact yM
     ·rw [<-h];exact Qk<|(No _ e _).take_drop j n
    ·cases h
   ·cases h
  ·cases h
 ·rename_i _ hag
  have e1:=λw=>cw hag w
  split at h
  ·rename_i k off
   split at h
   ·rename_i b hb
    split at h
    ·rename_i hcl
     split at h
     ·rename_i z hz
      simp only [T.all] at h;obtain ⟨cs,hc,hrl,hok⟩:=ownCl k b hb hcl;simp only [R] at hr;obtain ⟨q,h1,h2⟩:=RL.get _ _ hrl hz;refine ⟨q,λw' hw'=>?_,?_,?_⟩
      ·have:w'.cell? ⟨(β k).b,off,aj⟩=ah q:=by rw [cell_of_block (by rw [hw' (β k).b<|.inr ⟨k,Iy,rfl⟩];exact hc)];simpa using h1
       simp [Instr.loadAt,Instr.sureAddr,hr,loadVar,e1,this]
      ·rw [<-h];exact h2
      ·rw [<-h];exact AT.get _ _ hok hz
     ·cases h
    ·cases h
   ·cases h
  ·rename_i m f
   split at h
   ·rename_i hm
    simp only [T.all] at h;simp only [R] at hr;obtain ⟨b,off,e3,hz,e4⟩:=hr;obtain ⟨z,h1,h2⟩:=e4 0 hm;refine ⟨z,λw' hw'=>?_,?_,?_⟩
    ·have:w'.cell? ⟨b,off,aj⟩=ah z:=by rw [Qd (w:=w) (w':=w')<|hw' b<|.inl hz];simpa using h1
     simp [Instr.loadAt,Instr.sureAddr,e3,loadVar,e1,this]
    ·rw [<-h];exact h2
    ·rw [<-h];simp only [okV] at hk;exact okV.mono (NV _) _<|hk 0
   ·cases h
  ·rename_i k es i j
   split at h
   ·rename_i c t' e l p hb
    split at h
    ·rename_i hes
     simp only [T.all] at h;obtain ⟨hi,h⟩:=h;split at h
     ·rename_i q hq
      simp only [T.all] at h;simp only [R] at hr
      have hj:j<es:=by
       have:=(EC.1 hq).1
       rw [KM] at this;omega
      obtain ⟨z,h1,h2⟩:=vecAt k es i c t' e l p hb hr.1 hes hi j hj
      have hqq:(Br e<|l.getD i e.dflt).getD j .junk=q:=ED<|(getD_lt (EC.1 hq).1).symm.trans hq
      rw [hqq] at h2;refine ⟨z,λw' hw'=>?_,?_,?_⟩
      ·have:w'.cell? ⟨(β k).b,(β k).o+i*es+j,aj⟩=ah z:=by rw [Qd (w:=w) (w':=w')<|hw' (β k).b<|.inr ⟨k,Iy,rfl⟩];exact h1
       simp [Instr.loadAt,Instr.sureAddr,hr.2,loadVar,e1,this]
      ·rw [<-h];exact h2
      ·rw [<-h];exact AT.get _ _ (No _ e _) hq
     ·cases h
    ·cases h
   ·cases h
  ·cases h
 ·cases h
end Go.Sx
namespace Go.Sx
open Go.Proofs.YtjdlmobanmhohaaGreatDoor
open Go Go.RowKit
variable {P : Program} {G : B3} {Γ : Specs} {β : Nat -> Loc} {Z : Nat -> Prop} {Z0 : Gz} {w w0 : World} {F : List LV} {H : List AB} {a : Act}
def qq {z:aVQ}(h:K7 z=U):z.oneCell'=true:=by cases z<;>first|rfl|(simp [K7] at h)
def aDe (w:aVJ) (g:aVx) (cs:aVS) (k:aVx) (h:k≠g):(w.setRow g cs).heap[k]? =w.heap[k]? :=by
 simp only [World.setRow,Array.getElem?_modify]
 grind
def RL.app:∀ {a b:aVy}{c d:aVO},RL β Z w a c->RL β Z w b d->RL β Z w (a++b) (c++d)
 | [],_,_,_,h,h'=>by simp only [RL] at h;subst h;simpa using h'
 |x::xs,_,_,d,h,h'=>by
  obtain ⟨y,zs,rfl,h3,h4⟩:=h;exact ⟨y,zs++d,rfl,h3,RL.app h4 h'⟩
def RL.drop {l:aVy}{ys:aVO}(h:RL β Z w l ys) (n:aVx):RL β Z w (l.drop n) (ys.drop n):=by
 refine RL.CZ (by simp [RL.length h]) λi z hz=>?_
 rw [FO] at hz|-;exact RL.get _ _ h hz
def RL.take {l:aVy}{ys:aVO}(h:RL β Z w l ys) (n:aVx):RL β Z w (l.take n) (ys.take n):=by simpa using h.take_drop 0 n
def RL.setAt {l cs:aVy}{ys zs:aVO}(h1:RL β Z w l ys) (h2:RL β Z w cs zs) (off:aVx):RL β Z w (setAt l off cs) (ys.take off++zs++ys.drop (off+M zs)):=by
 have e2:=RL.length h2
 rw [e2];exact RL.app (RL.app (h1.take off) h2)<|h1.drop _
def AT.append {n:aVx}:∀ {a b:aVy},AT n a->AT n b->AT n (a++b)
 | [],_,_,h=>h
 |_::_,_,h,h'=>⟨h.1,AT.append h.2 h'⟩
def AT.drop {n:aVx}{l:aVy}(h:AT n l) (m:aVx):AT n (l.drop m):=by
 refine AT.CZ λi x hx=>?_
 rw [FO] at hx;exact AT.get _ _ h hx
def AT.setAt {n:aVx}{l cs:aVy}(h1:AT n l) (h2:AT n cs) (off:aVx):AT n (setAt l off cs):=by
 refine AT.append (AT.append ?_ h2)<|h1.drop _
 have:=h1.take_drop 0 off;simpa using this
def qP {α:Type}{f:LV->Option α}{l:aVy}{d:α}(h:hd1 f l=ah d):∃x,l=[x]/\f x=ah d:=by
 unfold hd1 at h;exact ml
def auF {a b:Ty}(h:a=b) (l:List a.D) {y:aVQ}:R β Z w (.xl b<|Ks h l) y↔R β Z w (.xl a l) y:=by subst h;rfl
def wN {e:Ty}{x:LV}{l:List e.D}{y:aVQ}(h:NL e x=ah l) (hr:R β Z w x y):R β Z w (.xl e l) y:=by
 unfold NL at h;split at h
 ·split at h
  ·rename_i q h'
   simp only [Ah] at h;subst h;exact (auF q _).2 hr
  ·cases h
 ·simp only [Ah] at h
  simp only [R] at hr|-
  grind
 ·cases h
def wP {Z':aVx->Prop}{w':aVJ}(hZ:∀b,Z b->Z' b) (hw:∀b,Z b->w'.heap[b]? =w.heap[b]?):∀(t:Ty) (cs:aVy) (d:t.D) (ys:aVO),K4 t cs=ah d->RL β Z w cs ys->∀(b o:aVx),(∀(j:aVx) v,ys[j]? =ah v->w'.cell? ⟨b,o+j,aj⟩=ah v)->RD Z' w' t d b o:=by
 have one:∀ {l:aVy} {ys:aVO} {x:LV},l=[x]->RL β Z w l ys->∀ {b o:aVx},(∀(j:aVx) v,ys[j]? =ah v->w'.cell? ⟨b,o+j,aj⟩=ah v)->∃y,R β Z w x y/\w'.cell? ⟨b,o,aj⟩=ah y:=by
  intro l ys x hl hr b o hc;subst hl;simp only [RL] at hr;obtain ⟨y,zs,rfl,h1,_⟩:=hr;exact ⟨y,h1,hc 0 y rfl⟩
 intro t
 induction t with
 | int k=>
  intro cs d ys h hr b o hc;obtain ⟨x,hl,hx⟩:=qP h;obtain ⟨y,h1,h2⟩:=one hl hr hc;simp only [RD];rw [h2];unfold x6 at hx;split at hx
  ·exact aMe
  ·exact aMe
  ·cases hx
 |bool=>
  intro cs d ys h hr b o hc;obtain ⟨x,hl,hx⟩:=qP h;obtain ⟨y,h1,h2⟩:=one hl hr hc;simp only [RD];rw [h2];unfold x7 at hx;split at hx
  ·exact yG
  ·exact yG
  ·cases hx
 |str=>
  intro cs d ys h hr b o hc;obtain ⟨x,hl,hx⟩:=qP h;obtain ⟨y,h1,h2⟩:=one hl hr hc;simp only [RD];rw [h2];unfold wz at hx;split at hx
  ·exact yG
  ·cases hx
 |sl e _=>
  intro cs d ys h hr b o hc;obtain ⟨x,hl,hx⟩:=qP h;obtain ⟨y,h1,h2⟩:=one hl hr hc
  have h3:=wN hx h1
  simp only [R] at h3;obtain ⟨a,cap,g1,g2,g3⟩:=h3;simp only [RD];refine ⟨a,cap,by rw [h2,g1],g2,λhn=>?_⟩
  obtain ⟨b',o',g4,g5,g6⟩:=g3 hn;exact ⟨b',o',g4,hZ _ g5,λi d hd=>RD.mono hZ hw e d b' _ g5<|g6 i d hd⟩
 | pair p q ihp ihq=>
  intro cs d ys h hr b o hc;simp only [K4] at h;split at h
  ·rename_i x y hx hy
   simp only [Ah] at h;subst h;simp only [RD];refine ⟨ihp _ x _ hx (hr.take p.n) b o λj v hv=>?_,ihq _ y _ hy (hr.drop p.n) b (o+p.n) λj v hv=>?_⟩
   ·exact aNA
   ·rw [FO] at hv
    grind
  ·cases h
def adu {t:aVN} {x q:LV} {y z:aVQ} {H':aVB} (hW:RW G w0 Z0 Z β H w) (h:(Tt P H t x q).all λr=>r=H') (hr:R β Z w x y) (hq:R β Z w q z) (hqk:okV (M H) q):
  ∃w',(Instr.storeAt t y z).run P w=.ok () w'/\RW G w0 Z0 Z β H' w'/\M H'=M H/\(∀b,Z b->w'.heap[b]? =w.heap[b]?)/\DX (Dd β H<|owns x) w w':=by
 unfold Tt at h;split at h
 ·rename_i n cs hsz hcs
  have e2:=λw=>run_sizeOf hsz w
  obtain ⟨c1,c2⟩:=qC hcs hq
  have c3:=pX hcs hqk
  have hlen2:=RL.length c1
  split at h
  ·rename_i k off
   split at h
   ·rename_i b hb
    split at h
    ·rename_i hle
     obtain ⟨hcl,hbp,hl1,hl2⟩:=hle;simp only [T.all] at h
     have hbk:b.k=.cl:=by
      unfold AB.E4 at hcl;split at hcl
      ·assumption
      ·cases hcl
     have hlive:live β k b:=by unfold live;rw [hbk];trivial
     obtain ⟨h1,h2⟩:=hW.blk k b hb;unfold Bc at h1;simp only [hbk] at h1;obtain ⟨cur,hc,hrl⟩:=h1
     have hlen:=RL.length hrl
     simp only [R] at hr
     have hst:=xa P (β k).b off b.t z.cells.toList 0 cur w hc (by simp at hlen;omega) λv hv=>qq<|c2 v hv
     have e3:z.cells.size=n:=by simp at hlen2;omega
     have hne:∀j,j≠(β k).b->(w.setRow (β k).b (cur.toList.take (off+0)++z.cells.toList++cur.toList.drop (off+0+M z.cells.toList)).toArray).heap[j]? =w.heap[j]? :=λj hj=>aDe w _ _ _ hj
     refine ⟨w.setRow (β k).b (cur.toList.take (off+0)++z.cells.toList++cur.toList.drop (off+0+M z.cells.toList)).toArray,by simp [Instr.storeAt,Instr.sureAddr,hr,storeVar,e2,e3,hst],?_,by rw [<-h];simp,λb' hz=>hne b' λe=>hW.Ct k b hb hlive hbp<|e▸hz,⟨rfl,rfl,rfl,Vt,λi _ hi=>hne i λe=>hi<|e▸Th hb hlive hbp⟩⟩
     rw [<-h];refine hW.set hb hlive hbp hbp ⟨AT.setAt h2.1 c3 off,by simp only [hbk]⟩ Vt ⟨rfl,rfl,rfl⟩ hne ?_
     unfold Bc;simp only [hbk];refine ⟨_,setRow_heap w (β k).b cur _ b.t _ hc,?_⟩;refine RL.mono (n:=M H) (λ_ _=>rfl) (λ_ h=>h) (λb' hz=>hne b' λe=>hW.Ct k b hb hlive hbp<|e▸hz) _ _ (AT.setAt h2.1 c3 off) ?_
     have:=RL.setAt (β:=β) (Z:=Z) (w:=w) hrl c1 off
     exact QU
    ·cases h
   ·cases h
  ·rename_i k es i j
   split at h
   ·rename_i c0 bt e l hb
    split at h
    ·rename_i hle
     obtain ⟨hes,hl1,hl2⟩:=hle;simp only [T.all] at h;obtain ⟨hi,h⟩:=h;split at h
     ·rename_i d hd
      simp only [T.all] at h;simp only [R] at hr;obtain ⟨hcap,hy⟩:=hr
      have hlive:live β k ⟨c0,bt,.vec e l,X⟩:=hcap
      obtain ⟨h1,h2⟩:=hW.blk k _ hb;simp only [Bc] at h1;split at h1
      ·exact yQ
      ·rename_i c hc
       obtain ⟨cur,g1,g2,g3,g4⟩:=h1;subst hes
       have hmul:i*e.n+e.n<=c*e.n:=by
        have:=NT e.n (show i+1<=c by omega)
        rwa [GF,T5] at this
       have e3:z.cells.size=n:=by simp at hlen2;omega
       have hzl:M z.cells.toList=n:=by simpa using e3
       have hst:=xa P (β k).b ((β k).o+i*e.n+j) bt z.cells.toList 0 cur w g1 (by rw [hzl];omega) λv hv=>qq<|c2 v hv
       simp only [Zw] at hst;generalize hnew:(cur.toList.take ((β k).o+i*e.n+j)++z.cells.toList++cur.toList.drop ((β k).o+i*e.n+j+M z.cells.toList)).toArray=new at hst
       have hnget:∀p,new[p]? =if p<(β k).o+i*e.n+j then cur[p]? else if p<(β k).o+i*e.n+j+n then z.cells.toList[p-((β k).o+i*e.n+j)]? else cur[p]? :=λp=>by
        rw [<-hnew]
        by_cases q1:p<(β k).o+i*e.n+j
        ·exact aND
        ·rw [AE q1]
         simp only [Zt]
         by_cases q2:p<(β k).o+i*e.n+j+n
         ·exact aNj
         ·rw [AE q2,Gc DJ,FO]
          have:(β k).o+i*e.n+j+M z.cells.toList+(p-M (cur.toList.take ((β k).o+i*e.n+j)++z.cells.toList))=p:=by
           simp
           omega
          rw [this]
          simp
       have hnsz:new.size=cur.size:=by
        rw [<-hnew]
        simp
        omega
       have hne:∀q,q≠(β k).b->(w.setRow (β k).b new).heap[q]? =w.heap[q]? :=λq hq=>aDe w _ _ _ hq
       have hZw:∀b',Z b'->(w.setRow (β k).b new).heap[b']? =w.heap[b']? :=λb' hz=>hne b' λe=>hW.Ct k _ hb hlive rfl<|e▸hz
       have hblk:=setRow_heap w (β k).b cur new bt _ g1
       refine ⟨w.setRow (β k).b new,by simp [Instr.storeAt,Instr.sureAddr,hy,storeVar,e2,e3,hst],?_,by rw [<-h];simp,hZw,⟨rfl,rfl,rfl,Vt,λq _ hq=>hne q λe=>hq<|e▸Th hb hlive rfl⟩⟩
       rw [<-h];refine hW.set hb hlive rfl rfl ⟨ak,ak⟩ Vt ⟨rfl,rfl,rfl⟩ hne ?_;simp only [Bc,hc];refine ⟨new,hblk,A0,by rw [C4];exact g3,λi' d' hd'=>?_⟩
       by_cases hii:i'=i
       ·subst hii
        have hdd:d'=d:=by
         rw [List.getElem?_set_self<|by exact hi] at hd'
         simpa using hd'.symm
        subst hdd
        have hcells:∃ys,RL β Z w (Br e<|l.getD i' e.dflt) ys/\∀p,ys[p]? =if p<e.n then cur[(β k).o+i'*e.n+p]? else none:=by
         have hrd:=g4 i' _<|getD_at hi
         refine ⟨((cur.toList.drop<|(β k).o+i'*e.n).take e.n),RL.CZ ?_ λp x hx=>?_,λp=>?_⟩
         ·rw [KM];simp;omega
         ·obtain ⟨v,q1,q2⟩:=XE (β:=β) e _ _ _ hrd p x hx
          have hp:p<e.n:=by have:=(EC.1 hx).1;rwa [KM] at this
          refine ⟨v,?_,q2⟩;rw [cell_of_block g1] at q1;rw [Lg,AD hp,FO]
          simpa using q1
         ·rw [Lg,FO]
          simp
        obtain ⟨ys,y1,y2⟩:=hcells
        have hset:=RL.setAt y1 c1 j
        refine wP (λ_ h=>h) hZw e _ d' _ hd hset _ _ λp v hv=>?_
        rw [cell_of_block hblk,hnget]
        have hyl:M ys=e.n:=by have:=RL.length y1;rw [KM] at this;exact this
        by_cases p1:p<j
        ·rw [AD A0]
         rw [Cx,Ho DJ,aLq p1,y2] at hv;rw [AD A0] at hv;exact hv
        ·by_cases p2:p<j+n
         ·rw [AE A0,AD A0]
          rw [Ho DJ,Gc DJ] at hv;rw [<-hv]
          congr 1
          simp
          omega
         ·rw [AE A0,AE A0]
          rw [Gc DJ,FO,y2] at hv;split at hv
          ·rw [<-hv]
           congr 1
           simp
           omega
          ·cases hv
       ·rw [Zm<|Ou hii] at hd'
        refine RD.cells (λ_ h=>h) hZw e d' _ _ (λp hp=>?_)<|g4 i' d' hd'
        rw [cell_of_block hblk,cell_of_block g1,hnget]
        have hsep:i'*e.n+e.n<=i*e.n\/i*e.n+e.n<=i'*e.n:=by
         rcases QO i' i with hlt|hge
         ·left
          have:=NT e.n (show i'+1<=i by omega)
          rwa [GF,T5] at this
         ·right
          have:=NT e.n (show i+1<=i' by omega)
          rwa [GF,T5] at this
        split
        ·rfl
        ·rw [AE A0]
     ·cases h
    ·cases h
   ·cases h
  ·cases h
 ·cases h
end Go.Sx
namespace Go.Sx
open Go.Proofs.YtjdlmobanmhohaaGreatDoor
open Go Go.RowKit
variable {P : Program} {G : B3} {Γ : Specs} {β : Nat -> Loc} {Z : Nat -> Prop} {Z0 : Gz} {w w0 : World} {F : List LV} {H : List AB} {a : Act}
def RD.move {Z Z':aVx->Prop}{w w':aVJ}(hZ:∀b,Z b->Z' b) (hw:∀b,Z b->w'.heap[b]? =w.heap[b]?):
  ∀(t:Ty) (d:t.D) (b o b' o':aVx),(∀j,j<t.n->w'.cell? ⟨b',o'+j,aj⟩=w.cell? ⟨b,o+j,aj⟩)->RD Z w t d b o->RD Z' w' t d b' o'
 | .int _,_,b,o,b',o',hb,h=>Vm
 | .bool,_,b,o,b',o',hb,h=>Vm
 | .str,_,b,o,b',o',hb,h=>Vm
 | .sl e,l,b,o,b',o',hb,h=>by
  exact aME
 | .pair x y,d,b,o,b',o',hb,h=>by
  refine ⟨RD.move hZ hw x d.1 b o b' o' (λj hj=>hb j nG) h.1,RD.move hZ hw y d.2 b _ b' _ (λj hj=>?_) h.2⟩
  have:=hb (x.n+j) nG
  grind
def RD.one {Z:aVx->Prop}{w:aVJ}:∀(t:Ty) (d:t.D) (b o:aVx),RD Z w t d b o->∀j,j<t.n->∃v,w.cell? ⟨b,o+j,aj⟩=ah v/\K7 v=U
 | .int _,_,b,o,h,j,hj=>by
  exact yJ
 | .bool,_,b,o,h,j,hj=>by
  exact yJ
 | .str,_,b,o,h,j,hj=>by
  exact yJ
 | .sl e,_,b,o,h,j,hj=>by
  simp only [Ty.n] at hj
  have:j=0:=A0
  subst this;obtain ⟨a,cap,h1,_⟩:=h;exact ⟨_,h1,rfl⟩
 | .pair x y,d,b,o,h,j,hj=>by
  simp only [Ty.n] at hj
  by_cases hx:j<x.n
  ·exact RD.one x d.1 b o h.1 j hx
  ·obtain ⟨v,h1,h2⟩:=RD.one y d.2 b (o+x.n) h.2 (j-x.n) A0
   grind
def Ty.n_pos:∀t:Ty,0<t.n
 | .int _=>bF
 | .bool=>bF
 | .str=>bF
 | .sl _=>bF
 | .pair a b=>by have:=Ty.n_pos a;simp only [Ty.n];omega
def aEw {e:Ty}{l:List e.D}{b o:aVx}(h:∀(i:aVx) (d:e.D),l[i]? =ah d->RD Z w e d b (o+i*e.n)):
  ∃vs:aVO,M vs=M l*e.n/\(∀j,j<M l*e.n->w.cell? ⟨b,o+j,aj⟩=vs[j]?)/\(∀u∈vs,K7 u=U):=by
 have hp:=e.n_pos
 have hch:∀j,∃v,j<M l*e.n->w.cell? ⟨b,o+j,aj⟩=ah v/\K7 v=true:=λj=>by
  by_cases hj:j<M l*e.n
  ·have hi:=Nat.div_lt_of_lt_mul (by rw [Nat.mul_comm];exact hj)
   have hd:=h (j / e.n) _<|getD_at hi
   obtain ⟨v,h1,h2⟩:=RD.one e _ _ _ hd (j%e.n)<|Nat.mod_lt _ hp;refine ⟨v,λ_=>⟨?_,h2⟩⟩
   have:=Nat.div_add_mod j e.n
   grind
  ·exact ⟨undef,λh=>absurd h hj⟩
 obtain ⟨g,hg⟩:=xi hch;refine ⟨(au<|M l*e.n).map g,AI,λj hj=>?_,λu hu=>?_⟩
 ·grind
 ·obtain ⟨j,hj,rfl⟩:=F4.1 hu
  grind
def aGB {Z':aVx->Prop}{w':aVJ}(hZ:∀b,Z b->Z' b) (hw:∀b,Z b->w'.heap[b]? =w.heap[b]?) {e:Ty}{l:List e.D}{b o b' o':aVx}(h:∀(i:aVx) (d:e.D),l[i]? =ah d->RD Z w e d b (o+i*e.n)) {vs:aVO}
  (hv:∀j,j<M l*e.n->w.cell? ⟨b,o+j,aj⟩=vs[j]?) (hc:∀j,j<M l*e.n->w'.cell? ⟨b',o'+j,aj⟩=vs[j]?):∀(i:aVx) (d:e.D),l[i]? =ah d->RD Z' w' e d b' (o'+i*e.n):=λi d hd=>by
 have hi:=(EC.1 hd).1
 refine RD.move hZ hw e d b (o+i*e.n) b' (o'+i*e.n) (λj hj=>?_)<|h i d hd
 have hlt:i*e.n+j<M l*e.n:=by
  have:=NT e.n (show i+1<=M l by omega)
  rw [GF,T5] at this;omega
 grind
def aqi {e:Ty}{x:LV}{q:List e.D}{y:aVQ}(hW:RW G w0 Z0 Z β H w) (h:(FV H e x).all λz=>z=q) (hr:R β Z w x y):
  ∃a c,y=.slice a (M q) c/\(0<M q->∃b o,a=ah ⟨b,o,aj⟩/\∀(i:aVx) (d:e.D),q[i]? =ah d->RD Z w e d b (o+i*e.n)):=by
 have gen:∀x,NL e x=ah q->R β Z w x y->∃a c,y=.slice a (M q) c/\(0<M q->∃b o,a=ah ⟨b,o,aj⟩/\∀(i:aVx) (d:e.D),q[i]? =ah d->RD Z w e d b (o+i*e.n)):=λx hx hr=>by
  have h1:=wN hx hr
  obtain ⟨a,c,h1,_,h3⟩:=h1;refine ⟨a,c,h1,λhn=>?_⟩
  grind
 have hdx:∀ {x:LV},(match NL e x with|some l=>(T.ok l:T<|List e.D) |none=> .no).all (λz=>z=q)->NL e x=ah q:=λ{x} h=>by
  split at h
  ·rename_i hd;simp only [T.all] at h;rw [hd,h]
  ·cases h
 cases x with
 | os k es off n=>
  simp only [FV] at h;split at h
  ·rename_i c0 bt e' l pp hb
   split at h
   ·rename_i hes
    split at h
    ·rename_i he _
     subst he;simp only [T.all,Ks] at h;obtain ⟨hle,h⟩:=h;subst h
     have hlen:M ((l.drop off).take n)=n:=A8
     rw [hlen];simp only [R] at hr;split at hr
     ·obtain ⟨rfl,_,hy⟩:=hr
      grind
     ·rename_i c hc
      obtain ⟨h1,a,h2,h3⟩:=hr;refine ⟨ah a,c-off,h2,λhn=>?_⟩
      have h4:=(hW.blk k _ hb).1
      simp only [Bc,hc] at h4;obtain ⟨cs,g1,g2,g3,g4⟩:=h4;refine ⟨_,_,by rw [h3 A0],λi d hd=>?_⟩
      rw [Lg] at hd;split at hd
      ·rw [FO] at hd
       have:=g4 (off+i) d hd
       rw [<-hes];rw [GF,<-Hq] at this;exact this
      ·cases hd
    ·cases h
   ·cases h
  ·cases h
 |v x=>simp only [FV] at h;exact gen _ (hdx h) hr
 |bl x=>simp only [FV] at h;exact gen _ (hdx h) hr
 |ki k n=>simp only [FV] at h;exact gen _ (hdx h) hr
 |own k off=>simp only [FV] at h;exact gen _ (hdx h) hr
 |agg l=>simp only [FV] at h;exact gen _ (hdx h) hr
 |AO l=>simp only [FV] at h;exact gen _ (hdx h) hr
 |fn f l=>simp only [FV] at h;exact gen _ (hdx h) hr
 |fb f l=>simp only [FV] at h;exact gen _ (hdx h) hr
 |xq n f=>simp only [FV] at h;exact gen _ (hdx h) hr
 |xl e l=>simp only [FV] at h;exact gen _ (hdx h) hr
 |op k es i j=>simp only [FV] at h;exact gen _ (hdx h) hr
 |om k=>simp only [FV] at h;exact gen _ (hdx h) hr
 |mp kd ks vs=>simp only [FV] at h;exact gen _ (hdx h) hr
 |oc k es off n c=>simp only [FV] at h;exact gen _ (hdx h) hr
 |CS k=>simp only [FV] at h;exact gen _ (hdx h) hr
 |junk=>simp only [FV] at h;exact gen _ (hdx h) hr
def pJ {t e:aVN}{ty:Ty}{m FK:aVx}(h:Pc P t=ah (e,ty,m,FK)):P.underlying t=ah (.slice e)/\ty.n=m/\∃i,P.info? e=ah i/\i.size=m/\i.bytes=FK:=by
 unfold Pc at h;split at h
 ·rename_i e' hu
  split at h
  ·rename_i ty' m' b' h1 h2 h3
   split at h
   ·rename_i hm
    simp only [Ah,Az] at h;obtain ⟨rfl,rfl,rfl,rfl⟩:=h;refine ⟨hu,hm.1,?_⟩;unfold HM at h2;unfold aT4 at h3;cases hi:P.info? e' with
    |none=>simp [hi] at h2
    |some i=>simp [hi] at h2 h3;exact ⟨i,rfl,h2,h3⟩
   ·cases h
  ·cases h
 ·cases h
def aFC {e:Ty}{x:LV}{q:List e.D}{y:aVQ}{tx e':aVN}(hk:P.underlying tx=ah (.slice e')) (hW:RW G w0 Z0 Z β H w) (h:(FV H e x).all λz=>z=q) (hr:R β Z w x y):
  ∃news:aVO,Src P e.n tx y (M q) news w/\∀(Z':aVx->Prop) (w':aVJ) (b' o':aVx),(∀b,Z b->Z' b)->(∀b,Z b->w'.heap[b]? =w.heap[b]?)->(∀j,j<M news->w'.cell? ⟨b',o'+j,aj⟩=news[j]?)->∀(i:aVx) (d:e.D),q[i]? =ah d->RD Z' w' e d b' (o'+i*e.n):=by
 obtain ⟨a,c,h1,h2⟩:=aqi hW h hr
 by_cases hn:0<M q
 ·obtain ⟨b,o,h3,h4⟩:=h2 hn
  obtain ⟨vs,v1,v2,v3⟩:=aEw h4;refine ⟨vs,?_,λZ' w' b' o' hZ hw hc=>aGB hZ hw h4 v2 λj hj=>hc j A0⟩
  rw [h1,h3]
  exact Src.ofSlice w hk ⟨b,o,aj⟩ _ c vs v1 (λj u hu=>by
   have hj:j<M q*e.n:=A8
   rw [addr_add,v2 j hj,hu]) λu hu=>qq<|v3 u hu
 ·have hq:q=[]:=MV.1 A0
  subst hq;refine ⟨[],?_,λZ' w' b' o' hZ hw hc i d hd=>A8⟩
  rw [h1];cases a with
  |none=>exact Src.ofNil w hk c
  |some a=>exact Src.ofSlice w hk a 0 c [] AI (λj u hu=>A8) λu hu=>by cases hu
def afr {ty:Ty}{z:aVQ}{d:ty.D}(hd:K4 ty (z.cells.toList.map .v)=ah d) {w':aVJ}{b o:aVx}(hc:∀(j:aVx) v,z.cells.toList[j]? =ah v->w'.cell? ⟨b,o+j,aj⟩=ah v):RD Z w' ty d b o:=
 wP (Z:=Z) (w:=w') (β:=λ_=>default) (λ_ h=>h) (λ_ _=>rfl) ty _ d _ hd (V7 _) b o hc
def aeA {t:aVN} {n c lv:LV} {vn vc:aVQ} {H':aVB} (hW:RW G w0 Z0 Z β H w) (h:(UD P H t n c).all λq=>q=(lv,H')) (hn:R β Z w n vn) (hc:R β Z w c vc):
  ∃w' v,(Instr.makeSlice t vn vc).run P w=.ok v w'/\Below w.heap.size w w'/\∃β',(∀k,k<M H->β' k=β k)/\RW G w0 Z0 Z β' H' w'/\R β' Z w' lv v/\okV (M H') lv/\M H'=M H+1/\(β'<|M H).b=w.heap.size:=by
 unfold UD at h;split at h
 ·rename_i e ty m FK n' c' he hn' hc'
  obtain ⟨hu,htn,i,hi,him,hib⟩:=pJ he;split at h
  ·rename_i z hz
   split at h
   ·rename_i d hd
    split at h
    ·rename_i hzs
     simp only [T.all] at h;obtain ⟨⟨h0,h1,h2,h3⟩,h4⟩:=h;obtain ⟨rfl,rfl⟩:=h4
     have hzi:i.zero=ah z:=aOu
     have hrun:=run_make (P:=P) w t e i z hu hi hzi J J n' c' h0 h1 (by rw [hib];simpa using h2) A0
     rw [Cq hn' hn,Cq hc' hc]
     have hbw:Below w.heap.size w (w.alloc<|.cells (madeCells z.cells<|c'.toNat*i.size) e):=(Below.refl _ _).alloc (Aq _) _
     have hblk:(w.alloc<|.cells (madeCells z.cells<|c'.toNat*i.size) e).heap[w.heap.size]? =ah (.cells (madeCells z.cells<|c'.toNat*i.size) e (0,0)):=by
      exact aM
     obtain ⟨β',b1,b2,b3⟩:=(hW.same hbw).Km (ℓ:=⟨w.heap.size,0,ah c'.toNat⟩) (nb:=⟨[],e,.vec ty<|aq n'.toNat d,X⟩) rfl ⟨ak,ak⟩
      (λ_=>⟨λhz=>aP,hW.below.size,λj bj hj lj e=>TC⟩) (λβ' g1 g2=>by
       simp only [Bc,g2];refine ⟨_,hblk,by simp [madeCells,htn,him],DJ,λj d' hd'=>?_⟩
       have hj:j<n'.toNat:=A8
       have hdd:d'=d:=A8
       subst hdd;refine afr hd λp v hv=>?_
       have hp:p<m:=A8
       rw [cell_of_block hblk]
       have hlt:0+j*ty.n+p<c'.toNat*i.size:=by
        have:=NT m (show j+1<=c'.toNat by omega)
        rw [GF,T5] at this;rw [htn,him];omega
       rw [madeCells]
       have hv':z.cells[p]? =ah v:=by simpa using hv
       rw [htn,Eh] at hlt|-;simp only [Array.getElem?_map,Array.getElem?_range];rw [AD hlt];simp only [Jk,hzs,Nat.mul_comm j m,Nat.mul_add_mod,Nat.mod_eq_of_lt hp];rw [getElem!_def,hv'])
     exact ⟨_,_,hrun,hbw,β',b1,b3,by simp only [R,b2];exact ⟨DJ,⟨w.heap.size,0,aj⟩,AI,λ_=>AI⟩,Mb,AI,Vx⟩
    ·cases h
   ·cases h
  ·cases h
 ·cases h
def ae6 {t:aVN}{lv:LV}{H':aVB}(hW:RW G w0 Z0 Z β H w) (h:(XF P H t).all λq=>q=(lv,H')):
  ∃w' v,(Instr.buildSlice t 0 #[]).run P w=.ok v w'/\Below w.heap.size w w'/\∃β',(∀k,k<M H->β' k=β k)/\RW G w0 Z0 Z β' H' w'/\R β' Z w' lv v/\okV (M H') lv/\M H'=M H+1/\(β'<|M H).b=w.heap.size:=by
 unfold XF at h;split at h
 ·rename_i e ty m FK he
  obtain ⟨hu,htn,i,hi,him,hib⟩:=pJ he;obtain ⟨rfl,rfl⟩:=h
  have hbw:Below w.heap.size w (w.alloc<|.cells #[] e):=(Below.refl _ _).alloc (Aq _) _
  have hblk:(w.alloc<|.cells #[] e).heap[w.heap.size]? =ah (.cells #[] e (0,0)):=by
   exact aM
  obtain ⟨β',b1,b2,b3⟩:=(hW.same hbw).Km (ℓ:=⟨w.heap.size,0,ah 0⟩) (nb:=⟨[],e,.vec ty [],X⟩) rfl ⟨ak,ak⟩
   (λ_=>⟨λhz=>aP,hW.below.size,λj bj hj lj e=>TC⟩) (λβ' g1 g2=>by
    simp only [Bc,g2];exact ⟨_,hblk,AI,AI,λj d hd=>A8⟩)
  have hsz:HM P e=ah m:=by unfold HM;simp [hi,him]
  refine ⟨_,.slice (ah ⟨w.heap.size,0,aj⟩) 0 0,?_,hbw,β',b1,b3,by simp only [R,b2];exact ⟨AI,⟨w.heap.size,0,aj⟩,rfl,λh=>A8⟩,Mb,AI,Vx⟩
  have e1:=λw=>run_sizeOf hsz w
  have n1:¬(0>2^24):=Aa
  have ha:∀f:aVx->aVQ,(Array.range 0).map f=#[]:=λf=>AI
  simp only [Instr.buildSlice,mJ,Ck hu,lr,e1,mE,xY,newRow,AE n1,Bp,ha];rfl
 ·cases h
def RW.kill (hW:RW G w0 Z0 Z β H w) (k:aVx) (e:aVN):RW G w0 Z0 Z β (H.set k ⟨[],e,.dead,X⟩) w:=by
 have old:∀i bi,(H.set k ⟨[],e,.dead,X⟩)[i]? =ah bi->(¬live β i bi/\Bc β Z w i bi/\okB (M H) bi)\/H[i]? =ah bi:=λi bi h=>by
  rw [IS] at h;split at h
  ·rename_i e'
   split at h
   ·simp only [Ah] at h;subst h;exact .inl ⟨λh=>h,ak,ak,ak⟩
   ·cases h
  ·exact .inr h
 refine ⟨hW.below,hW.Bf,hW.Eo,λi bi hi li pi=>?_,λi bi hi li pi=>?_,λi bi hi li=>?_,λi j bi bj hi hj li lj pi e=>?_,λi bi hi=>?_,hW.Cl,λp hp=>⟨(hW.gh p hp).1,aPN⟩,hW.Cv⟩
 ·rcases old i bi hi with h|h
  ·grind
  ·exact hW.Ct i bi h li pi
 ·rcases old i bi hi with h|h
  ·grind
  ·exact hW.GQ i bi h li pi
 ·rcases old i bi hi with h|h
  ·grind
  ·exact hW.low i bi h li
 ·rcases old i bi hi with h|h
  ·grind
  ·rcases old j bj hj with h'|h'
   ·grind
   ·exact hW.inj i j bi bj h h' li lj pi e
 ·rw [C4]
  rcases old i bi hi with h|h
  ·grind
  ·exact hW.blk i bi h
def RW.loose {w':aVJ}{B:aVx}(hW:RW G w0 Z0 Z β H w) (hB:w0.heap.size<=B) (hBZ:¬Z B) (hBo:∀j bj,H[j]? =ah bj->live β j bj->(β j).b≠B)
  (hsz:w'.heap.size=w.heap.size) (hos:w'.os=w.os/\w'.tape=w.tape/\w'.output=w.output) (hne:∀j,j≠B->w'.heap[j]? =w.heap[j]?):RW G w0 Z0 Z β H w':=by
 have hw:∀b',Z b'->w'.heap[b']? =w.heap[b']? :=λb' hz=>hne b' λe=>hBZ<|e▸hz
 refine ⟨?_,λb' hz=>aPM,hW.Eo,hW.Ct,hW.GQ,hW.low,hW.inj,λi bi hi=>?_,hW.Cl.mono (λ_ h=>h) hw,λp hp=>⟨R.mono (n:=M H) (λ_ _=>rfl) (λ_ h=>h) hw _ _ (hW.gh p hp).2 (hW.gh p hp).1,(hW.gh p hp).2⟩,λD hD=>⟨(hW.Cv D hD).1,aS⟩⟩
 ·exact hW.below.trans ⟨hos.1,hos.2.1,hos.2.2,mD hsz.symm,λi hi=>hne i A0⟩
 ·obtain ⟨g1,g2⟩:=hW.blk i bi hi
  exact ⟨g1.keep (λ_ _=>rfl) (λ_ h=>h) hw rfl (λli=>hne _<|hBo i bi hi li) g2,g2⟩
def ade (z:aVS) (n:aVx):(Builtin.zeroCells z n).size=n*z.size:=by simp [Builtin.zeroCells]
def Back (Z:aVx->Prop) (w:aVJ) (e:Ty) (l:List e.D) (vs:aVO):Prop:=
 ∀(Z':aVx->Prop) (w':aVJ) (b' o':aVx),(∀b,Z b->Z' b)->(∀b,Z b->w'.heap[b]? =w.heap[b]?)->(∀j,j<M vs->w'.cell? ⟨b',o'+j,aj⟩=vs[j]?)->∀(i:aVx) (d:e.D),l[i]? =ah d->RD Z' w' e d b' (o'+i*e.n)
def aEb (hW:RW G w0 Z0 Z β H w) {t tx ty' e:aVN}{i:TypeInfo}{z:aVQ}(hu:P.underlying t=ah (.slice e)) (hi:P.info? e=ah i) (hz:i.zero=ah z) {ty:Ty}(hts:i.size=ty.n) (hzs:z.cells.size=ty.n)
  {base:Option Addr} {sCap:aVx} {olds:aVO} {lo q:List ty.D} (hold:(Builtin.firstCells i.size (M lo)<|.slice base (M lo) sCap).run P w.drew=.ok olds.toArray w.drew) (hol:M olds=M lo*ty.n)
  (ob:Back Z w ty lo olds) {y:aVQ} {news:aVO} (hs:Src P ty.n tx y (M q) news w) (nb:Back Z w ty q news) (hg:sCap<M lo+M q)
  (h63:((M lo+M q:aVx):Y)<2^62) (hby:((M lo+M q:aVx):Y)*i.bytes<=2^47):
  ∃w' v,(Builtin.append_ #[t,tx] ty' #[.slice base (M lo) sCap,y]).run P w=.ok v w'/\Below w.heap.size w w'/\∃β',(∀k,k<M H->β' k=β k)/\RW G w0 Z0 Z β' (H++[⟨[],e,.vec ty<|lo++q,X⟩]) w'/\
   R β' Z w' (.os (M H) ty.n 0<|M lo+M q) v/\(β'<|M H).b=w.heap.size:=by
 have hnl:=hs.newsLen
 have hrun:=run_append_grow_src (P:=P) w t tx ty' e i z hu hi hz base (M lo) sCap olds hold y (M q) news (by rw [hts];exact hs) hg A0<|growslice_fits hg (by
  omega)
 have hcap:=grownCap_ge w (M lo+M q) sCap e
 generalize grownCap w (M lo+M q) sCap e=cap at hrun hcap;generalize hcs:((olds++news).toArray++Builtin.zeroCells z.cells (cap-(M lo+M q)))=cs at hrun
 have hbw:Below w.heap.size w (w.drew.alloc<|.cells cs e):=⟨rfl,rfl,rfl,by simp [World.alloc],λk hk=>heap_alloc_old w.drew _ hk⟩
 have hblk:(w.drew.alloc<|.cells cs e).heap[w.heap.size]? =ah (.cells cs e (0,0)):=heap_alloc_new w.drew _
 have hw:∀b,Z b->(w.drew.alloc<|.cells cs e).heap[b]? =w.heap[b]? :=λb hz=>EE hbw<|hW.Bf b hz
 have hc1:∀j,j<M olds->cs[j]? =olds[j]? :=λj hj=>by
  rw [<-hcs,xS DJ];simp only [Zt]
  grind
 have hc2:∀j,j<M news->cs[M olds+j]? =news[j]? :=λj hj=>by
  rw [<-hcs,xS DJ];simp only [Zt];rw [Gc A0]
  congr 1
  omega
 obtain ⟨β',b1,b2,b3⟩:=(hW.same hbw).Km (ℓ:=⟨w.heap.size,0,ah cap⟩) (nb:=⟨[],e,.vec ty<|lo++q,X⟩) rfl ⟨ak,ak⟩
  (λ_=>⟨λhz=>A8,hW.below.size,λj bj hj lj e=>TC⟩) (λβ' g1 g2=>by
   simp only [Bc,g2];refine ⟨cs,hblk,?_,by rw [BI];omega,λj d hd=>?_⟩
   ·rw [<-hcs]
    have h1:cap*ty.n=(M lo+M q)*ty.n+(cap-(M lo+M q))*ty.n:=by
     rw [<-GF];congr 1;omega
    simp only [Array.size_append,ade,hzs,List.size_toArray,BI,hol,hnl];rw [h1,GF];omega
   ·by_cases hj:j<M lo
    ·rw [Ho hj] at hd
     exact ob Z _ w.heap.size 0 (λ_ h=>h) hw (λp hp=>by rw [cell_of_block hblk,Eh,hc1 p hp]) j d hd
    ·rw [Gc A0] at hd
     have:=nb Z _ w.heap.size (0+M olds) (λ_ h=>h) hw (λp hp=>by rw [cell_of_block hblk,Eh,hc2 p hp]) _ d hd
     rw [hol,Eh,<-GF] at this;rw [show M lo+(j-M lo)=j by omega] at this
     rw [Eh];exact this)
 exact ⟨_,_,hrun,hbw,β',b1,b3,aOL,Vx⟩
def size_setCells (b:aVx):∀(vs:aVO) (o:aVx) (w:aVJ),(w.setCells b o vs).heap.size=w.heap.size
 | [],_,_=>rfl
 |v::r,o,w=>by rw [World.setCells,size_setCells b r];simp
def ad5 (b:aVx):∀(vs:aVO) (o:aVx) (w:aVJ),(w.setCells b o vs).tape=w.tape
 | [],_,_=>rfl
 |v::r,o,w=>by rw [World.setCells,ad5 b r];rfl
def adi (w:aVJ) (g o:aVx) (vs:aVO) {i:aVx}(hne:i≠g):(w.setCells g o vs).heap[i]? =w.heap[i]? :=by
 by_cases hi:i<w.heap.size
 ·exact World.heap_setCells_other w g o vs hi hne
 ·rw [xk (by rw [size_setCells];omega),xk A0]
def acy (b:aVx) (t:aVN):∀(vs:aVO) (o:aVx) (w:aVJ) (cs:aVS),w.heap[b]? =ah (.cells cs t (0,0))->∃cs',(w.setCells b o vs).heap[b]? =ah (.cells cs' t (0,0))/\cs'.size=cs.size
 | [],_,w,cs,h=>⟨cs,h,rfl⟩
 | v::r,o,w,cs,h=>by
  have h1:(w.setCell ⟨b,o,aj⟩ v).heap[b]? =ah (.cells (cs.setIfInBounds o v) t (0,0)):=by
   simp [World.setCell,Array.getElem?_modify,h]
  obtain ⟨cs',h2,h3⟩:=acy b t r (o+1) _ _ h1;exact ⟨cs',h2,A8⟩
def aea (hW:RW G w0 Z0 Z β H w) {t tx ty' e:aVN}{i:TypeInfo}(hu:P.underlying t=ah (.slice e)) (hkx:∃e',P.underlying tx=ah (.slice e')) (hi:P.info? e=ah i) {ty:Ty}(him:i.size=ty.n)
  {B O c:aVx} {ad:Addr} {lo q:List ty.D} {cs:aVS} (g1:w.heap[B]? =ah (.cells cs e (0,0))) (g2:O+c*ty.n<=cs.size) (had:0<c->ad=⟨B,O,aj⟩)
  (hB0:w0.heap.size<=B) (hBZ:¬Z B) (hBo:∀j bj,H[j]? =ah bj->live β j bj->(β j).b≠B)
  (olde:∀(j:aVx) (d:ty.D),lo[j]? =ah d->RD Z w ty d B (O+j*ty.n)) {y:aVQ} {news:aVO} (hs:Src P ty.n tx y (M q) news w) (nb:Back Z w ty q news) (hroom:M lo+M q<=c):
  ∃w' v,(Builtin.append_ #[t,tx] ty' #[.slice (ah ad) (M lo) c,y]).run P w=.ok v w'/\(w'.os=w.os/\w'.tape=w.tape/\w'.output=w.output/\w'.heap.size=w.heap.size)/\(∀j,j≠B->w'.heap[j]? =w.heap[j]?)/\
   ∃β',(∀k,k<M H->β' k=β k)/\RW G w0 Z0 Z β' (H++[⟨[],e,.vec ty<|lo++q,X⟩]) w'/\R β' Z w' (.os (M H) ty.n 0<|M lo+M q) v/\(β'<|M H).b=B:=by
 have hnl:=hs.newsLen
 have hmr:M lo*ty.n+M q*ty.n<=c*ty.n:=by rw [<-GF];exact NT _ hroom
 have hrun:(Builtin.append_ #[t,tx] ty' #[.slice (ah ad) (M lo) c,y]).run P w=.ok (.slice (ah ad) (M lo+M q) c) (w.setCells B (O+M lo*ty.n) news):=by
  by_cases hc0:0<c
  ·rw [had hc0]
   have:=run_append_room_src (P:=P) w t tx ty' e i hu hi B O (M lo) c y (M q) news (by rw [him];exact hs) hroom (λj hj=>by
    rw [cell_of_block g1,him]
    have:O+M lo*ty.n+j<cs.size:=A0
    simp [this]) λj hj=>ada g1 _
   rw [him] at this;exact this
  ·have hn0:M lo=0:=A0
   have hq0:M q=0:=A0
   have hnn:news=[]:=MV.1 (by rw [hnl,hq0];simp)
   have hl:=hs.len
   have hc:=hs.cells
   rw [hq0] at hl hc;subst hnn;rw [hq0,hn0];obtain ⟨e',hk⟩:=hkx
   simp [Builtin.append_,Ck hu,Ck hk,sizeOf,typeInfo,hi,hl,him,hc,World.setCells,storeCells]
 have hne:∀j,j≠B->(w.setCells B (O+M lo*ty.n) news).heap[j]? =w.heap[j]? :=λj hj=>adi w _ _ _ hj
 have hZw:∀b',Z b'->(w.setCells B (O+M lo*ty.n) news).heap[b']? =w.heap[b']? :=λb' hz=>hne b' λe=>hBZ<|e▸hz
 have hin:=World.cell?_setCells_in B news (O+M lo*ty.n) w (λj hj=>by
  rw [cell_of_block g1]
  have:O+M lo*ty.n+j<cs.size:=A0
  simp [this])
 have hout:=λj (hj:j<O+M lo*ty.n)=>World.cell?_setCells_out B news (O+M lo*ty.n) w ⟨B,j,aj⟩ λ_ _=> .inl hj
 obtain ⟨cs',q1,q2⟩:=acy B e news (O+M lo*ty.n) w cs g1
 have hos:=World.os_setCells w B (O+M lo*ty.n) news
 have hot:=World.output_setCells w B (O+M lo*ty.n) news
 have htp:=ad5 B news (O+M lo*ty.n) w
 have hsz:=size_setCells B news (O+M lo*ty.n) w
 generalize w.setCells B (O+M lo*ty.n) news=w' at hrun hne hZw hin hout q1 hos hot htp hsz
 have hW2:=hW.loose hB0 hBZ hBo hsz ⟨hos,htp,hot⟩ hne
 obtain ⟨β',b1,b2,b3⟩:=hW2.Km (ℓ:=⟨B,O,ah c⟩) (nb:=⟨[],e,.vec ty<|lo++q,X⟩) rfl ⟨ak,ak⟩ (λ_=>⟨hBZ,hB0,hBo⟩) (λβ' f1 f2=>by
  simp only [Bc,f2];refine ⟨cs',q1,A0,by rw [BI];exact hroom,λj d hd=>?_⟩
  by_cases hj:j<M lo
  ·rw [Ho hj] at hd
   refine RD.move (λ_ h=>h) hZw ty d _ _ _ _ (λp hp=>?_)<|olde j d hd
   have:=NT ty.n (show j+1<=M lo by omega)
   rw [GF,T5] at this;exact hout _ A0
  ·rw [Gc A0] at hd
   have:=nb Z w' B (O+M lo*ty.n) (λ_ h=>h) hZw (λp hp=>by rw [hin p hp,Dh hp]) _ d hd
   rw [Hq O,<-GF,show M lo+(j-M lo)=j by omega] at this
   exact this)
 refine ⟨w',_,hrun,⟨hos,htp,hot,hsz⟩,hne,β',b1,b3,?_,Vx⟩;simp only [R,b2]
 grind
def T.B5 {α γ:Type}{t:T α}{k:α->T γ}{y:γ}(h:(t.bind k).all λz=>z=y):∃x,t.all (λz=>z=x)/\(k x).all (λz=>z=y):=by
 rw [T.all_bind] at h;obtain ⟨x,h1,h2⟩:=T.pick h
 grind
def ads {t tx ty':aVN} {x y lv:LV} {vx vy:aVQ} {H':aVB} (hW:RW G w0 Z0 Z β H w) (h:(Lu P H t tx x y).all λq=>q=(lv,H')) (hx:R β Z w x vx) (hy:R β Z w y vy):
  ∃w' v,(Builtin.append_ #[t,tx] ty' #[vx,vy]).run P w=.ok v w'/\DX (Dd β H<|owns x) w w'/\(∀b,Z b->w'.heap[b]? =w.heap[b]?)/\∃β',(∀k,k<M H->β' k=β k)/\RW G w0 Z0 Z β' H' w'/\R β' Z w' lv v/\okV (M H') lv/\
   (M H')=M H+1/\(w.heap.size<=(β'<|M H).b\/(β'<|M H).b∈Dd β H (owns x)):=by
 unfold Lu at h;split at h
 ·rename_i e ty m FK he
  obtain ⟨hu,htn,i,hi,him,hib⟩:=pJ he;split at h
  ·rename_i e2 z hkx hz
   have hzi:i.zero=ah z:=aOu
   split at h
   ·rename_i hzs
    obtain ⟨q,hq,hnew⟩:=T.B5 h
    clear h
    have h:=hnew
    clear hnew
    ·obtain ⟨news,hs,nb⟩:=aFC hkx hW hq hy
     have hnl:=hs.newsLen
     subst htn
     have nil:∀(H1:aVB),RW G w0 Z0 Z β H1 w->(M q:Y)*FK<=2^47->(M q:Y)<2^62->
       ∃w' v,(Builtin.append_ #[t,tx] ty' #[.slice aj 0 0,vy]).run P w=.ok v w'/\Below w.heap.size w w'/\∃β',(∀k,k<M H1->β' k=β k)/\RW G w0 Z0 Z β' (H1++[⟨[],e,.vec ty q,X⟩]) w'/\R β' Z w' (.os (M H1) ty.n 0<|M q) v/\(β'<|M H1).b=w.heap.size:=λH1 hW1 hby h62=>by
      by_cases hq0:0<M q
      ·have:=aEb (P:=P) (ty':=ty') hW1 hu hi hzi him hzs (base:=aj) (sCap:=0) (olds:=[]) (lo:=[]) (q:=q) (by simpa using run_firstCells_none (P:=P) w.drew i.size 0 0 0) AI (λ_ _ _ _ _ _ _ i d hd=>by simp at hd) hs nb (by simpa using hq0) (by simpa using h62) (by rw [hib];simpa using hby)
       exact QU
      ·have hqn:q=[]:=MV.1 A0
       subst hqn
       have hn0:news=[]:=MV.1<|by simpa using hnl
       subst hn0;obtain ⟨β',b1,b2,b3⟩:=hW1.Km (ℓ:=⟨w.heap.size,0,aj⟩) (nb:=⟨[],e,.vec ty [],X⟩) rfl ⟨ak,ak⟩ (λhl=>absurd rfl hl) λβ' g1 g2=>zG
       refine ⟨w,.slice aj 0 0,?_,Below.refl _ _,β',b1,b3,by simp [R,b2],Vx⟩
       have hl:=hs.len
       have hc:=hs.cells
       simp only [Bv] at hl hc
       simp [Builtin.append_,Ck hu,Ck hkx,sizeOf,typeInfo,hi,hl,him,hc]
     split at h
     ·simp only [T.all] at h
      obtain ⟨⟨h1,h2⟩,h3⟩:=h;simp only [Az] at h3;obtain ⟨rfl,rfl⟩:=h3;simp only [R] at hx;subst hx;obtain ⟨w',v,r1,r2,β',r3,r4,r5,r6⟩:=nil H hW h1 h2;exact ⟨w',v,r1,⟨r2.os,r2.tape,r2.output,r2.size,λk hk _=>r2.block k hk⟩,λb hz=>EE r2<|hW.Bf b hz,β',r3,r4,r5,Mb,AI,.inl A0⟩
     ·rename_i k es off n
      split at h
      ·rename_i c0 bt e' l hb
       split at h
       ·rename_i hee _
        have hee':=hee.symm
        subst hee';split at h
        ·rename_i hes
         obtain ⟨rfl,rfl⟩:=hes;simp only [T.all] at h;obtain ⟨⟨hlen,hby,h62⟩,h3⟩:=h;simp only [Az,Ks] at h3;obtain ⟨rfl,rfl⟩:=h3
         have hkl:k<M H:=(EC.1 hb).1
         have hW1:=hW.kill k bt
         have hblk:=(hW.blk k _ hb).1
         simp only [R] at hx;split at hx
         ·rename_i hcap
          obtain ⟨rfl,rfl,rfl⟩:=hx;simp only [Bc,hcap] at hblk;subst hblk;obtain ⟨w',v,r1,r2,β',r3,r4,r5,r6⟩:=nil _ hW1 (by simpa using hby)<|by simpa using h62
          simp only [C4] at r3 r5 r6;exact ⟨w',v,r1,⟨r2.os,r2.tape,r2.output,r2.size,λk hk _=>r2.block k hk⟩,λb hz=>EE r2<|hW.Bf b hz,β',r3,by simpa using r4,by simpa using r5,Mb,AI,.inl A0⟩
         ·rename_i c hcap
          obtain ⟨hoc,ad,hvx,had⟩:=hx;subst hvx;simp only [Bc,hcap] at hblk;obtain ⟨cs,g1,g2,g3,g4⟩:=hblk
          have hlive:live β k ⟨c0,bt,.vec ty l,X⟩:=by simp [live,hcap]
          have hB0:=hW.low k _ hb hlive
          have hBZ:=hW.Ct k _ hb hlive rfl
          have hBo:∀j bj,(H.set k ⟨[],bt,.dead,X⟩)[j]? =ah bj->live β j bj->(β j).b≠(β k).b:=λj bj hj lj e=>by
           rw [IS] at hj;split at hj
           ·first
            | (split at hj
               ·simp only [Ah] at hj;subst hj;exact lj
               ·cases hj)
            |(simp only [Ah] at hj;subst hj;exact lj)
           ·rename_i hne
            exact hne<|hW.inj k j _ bj hb hj hlive lj rfl e.symm
          have olde:∀(j:aVx) (d:ty.D),(l.drop off)[j]? =ah d->RD Z w ty d (β k).b ((β k).o+off*ty.n+j*ty.n):=λj d hd=>by
           rw [FO] at hd
           have:=g4 (off+j) d hd
           rwa [GF,<-Hq] at this
          have hln:M (l.drop off)=n:=DJ
          have hmul:off*ty.n+(c-off)*ty.n=c*ty.n:=by rw [<-GF];congr 1;omega
          by_cases hroom:n+M q<=c-off
          ·--in place
           have hr:=aea (P:=P) (ty':=ty') hW1 hu ⟨_,hkx⟩ hi him (B:=(β k).b) (O:=(β k).o+off*ty.n) (c:=c-off) (ad:=ad) (lo:=l.drop off) (q:=q) g1 A0 had hB0 hBZ hBo olde hs nb (by rw [hln];exact hroom)
           rw [hln] at hr;obtain ⟨w',v,r1,⟨r2,r3,r4,r5⟩,r6,β',r7,r8,r9,r10⟩:=hr;simp only [C4] at r7 r9 r10;exact ⟨w',v,r1,⟨r2,r3,r4,A0,λj _ hj=>r6 j λe=>hj<|e▸Th hb hlive rfl⟩,λb' hz=>r6 b' λe=>hBZ<|e▸hz,β',r7,r8,r9,Mb,AI,.inr (by rw [r10];exact Th hb hlive rfl)⟩
          ·--a new row
           obtain ⟨olds,o1,o2,o3⟩:=aEw olde
           have hold:(Builtin.firstCells i.size n<|.slice (ah ad) n<|c-off).run P w.drew=.ok olds.toArray w.drew:=by
            by_cases hc0:0<c-off
            ·rw [had hc0,him]
             refine run_firstCells_some (P:=P) w.drew ty.n n _ n (c-off) olds (by rw [o1,hln]) λj v hv=>?_
             have hj:j<M (l.drop off)*ty.n:=by have:=(EC.1 hv).1;omega
             rw [addr_add]
             have:=o2 j hj
             rw [hv] at this;exact this
            ·have hn0:n=0:=A0
             have:olds=[]:=MV.1 (by rw [o1,hln,hn0];simp)
             rw [this,hn0]
             simp [Builtin.firstCells,loadCells,loadCellsFrom]
           have hgr:=aEb (P:=P) (ty':=ty') hW1 hu hi hzi him hzs (base:=ah ad) (sCap:=c-off) (olds:=olds) (lo:=l.drop off) (q:=q) (by rw [hln];exact hold) o1 (λZ' w' b' o' hZ hw hc=>aGB hZ hw olde o2 λj hj=>hc j A0) hs nb (by rw [hln];omega) (by rw [hln];exact h62) (by rw [hln,hib];exact hby)
           rw [hln] at hgr;obtain ⟨w',v,r1,r2,β',r3,r4,r5,r6⟩:=hgr;simp only [C4] at r3 r5 r6;exact ⟨w',v,r1,⟨r2.os,r2.tape,r2.output,r2.size,λk hk _=>r2.block k hk⟩,λb hz=>EE r2<|hW.Bf b hz,β',r3,r4,r5,Mb,AI,.inl A0⟩
        ·cases h
       ·cases h
      ·cases h
     ·cases h
   ·cases h
  ·cases h
 ·cases h
def aeN {t tx ty':aVN} {x y lv:LV} {vx vy:aVQ} {H':aVB} (hW:RW G w0 Z0 Z β H w) (h:(Xy P H t tx x y).all λq=>q=(lv,H')) (hx:R β Z w x vx) (hy:R β Z w y vy):
  ∃w' v,(Builtin.copy_ #[t,tx] ty' #[vx,vy]).run P w=.ok v w'/\RW G w0 Z0 Z β H' w'/\R β Z w' lv v/\okV (M H') lv/\M H'=M H/\(∀b,Z b->w'.heap[b]? =w.heap[b]?)/\DX (Dd β H<|owns x) w w':=by
 unfold Xy at h;split at h
 ·rename_i e ty m FK e2 he hkx
  obtain ⟨hu,htn,i,hi,him,hib⟩:=pJ he;subst htn;split at h
  ·rename_i k es n
   split at h
   ·rename_i c0 bt e' l hb
    split at h
    ·rename_i hee _
     have hee':=hee.symm
     subst hee';split at h
     ·rename_i hes
      subst hes;obtain ⟨q,hq,h⟩:=T.B5 h;obtain ⟨news,hs,nb⟩:=aFC hkx hW hq hy
      have hnl:=hs.newsLen
      simp only [T.all] at h;obtain ⟨⟨hn,hql⟩,h3⟩:=h;simp only [Az,Ks] at h3;obtain ⟨rfl,rfl⟩:=h3
      have hkl:k<M H:=(EC.1 hb).1
      obtain ⟨hblk,hbo⟩:=hW.blk k _ hb
      have hcells:=hs.cells
      have hlen:=hs.len
      have same:M q=0->H.set k ⟨c0,bt,.vec ty<|BG q l,X⟩=H:=λh0=>by
       have hq0:q=[]:=MV.1 h0
       subst hq0
       have e:H=H.set k ⟨c0,bt,.vec ty l,X⟩:=by
        apply List.ext_getElem? λj=>?_
        rw [IS];split
        ·rename_i hj;subst hj;exact hb
        ·rfl
       simp only [BG,ES,Bv,CX];exact e.symm
      have nothing:∀(a:Option Addr) (cc:aVx),vx=.slice a n cc->M q=0->∃w' v,(Builtin.copy_ #[t,tx] ty' #[vx,vy]).run P w=.ok v w'/\RW G w0 Z0 Z β (H.set k ⟨c0,bt,.vec ty<|BG q l,X⟩) w'/\R β Z w' (.v<|ag J (M q:Y)) v/\okV (M<|H.set k ⟨c0,bt,.vec ty<|BG q l,X⟩) (.v<|ag J (M q:Y))/\M (H.set k ⟨c0,bt,.vec ty<|BG q l,X⟩)=M H/\(∀b,Z b->w'.heap[b]? =w.heap[b]?)/\DX (Dd β H<|owns<|.os k ty.n 0 n) w w':=λa cc hv h0=>by
       have hnn:news=[]:=MV.1<|by rw [hnl,h0,mE]
       rw [same h0];subst hnn;rw [h0] at hcells hlen;refine ⟨w,ag J 0,?_,hW,by rw [h0];simp only [R];rfl,ak,rfl,λ_ _=>rfl,DX.refl _ _⟩
       rw [hv];cases a<;>simp [Builtin.copy_,Ck hu,hlen,sizeOf,typeInfo,hi,him,hcells,storeCells,goInt]
      simp only [R] at hx;split at hx
      ·rename_i hcap
       obtain ⟨hn0,_,hv⟩:=hx;exact nothing aj 0 (by rw [hv,hn0]) A0
      ·rename_i c hcap
       obtain ⟨hoc,ad,hvx,had⟩:=hx
       by_cases hq0:M q=0
       ·exact nothing _ _ hvx hq0
       ·have hlive:live β k ⟨c0,bt,.vec ty l,X⟩:=by unfold live;rw [hcap];simp
        simp only [Bc,hcap] at hblk;obtain ⟨cur,g1,g2,g3,g4⟩:=hblk
        have hm:=NT ty.n (show M q<=c by omega)
        have hst:=xa P (β k).b (β k).o bt news 0 cur w g1 (by rw [hnl];omega) hs.one
        simp only [Zw] at hst;generalize hnew:(cur.toList.take (β k).o++news++cur.toList.drop ((β k).o+M news)).toArray=new at hst
        have hnget:∀p,new[p]? =if p<(β k).o then cur[p]? else if p<(β k).o+M news then news[p-(β k).o]? else cur[p]? :=λp=>by
         rw [<-hnew]
         have hsz':(β k).o<=cur.size:=A0
         by_cases q1:p<(β k).o
         ·exact aND
         ·rw [AE q1]
          simp only [Zt]
          by_cases q2:p<(β k).o+M news
          ·exact aNj
          ·rw [AE q2,Gc DJ,FO]
           have:(β k).o+M news+(p-M (cur.toList.take (β k).o++news))=p:=by
            simp
            omega
           rw [this]
           simp
        have hnsz:new.size=cur.size:=by
         rw [<-hnew]
         simp
         omega
        have hne:∀q,q≠(β k).b->(w.setRow (β k).b new).heap[q]? =w.heap[q]? :=λq hq=>aDe w _ _ _ hq
        have hZw:∀b',Z b'->(w.setRow (β k).b new).heap[b']? =w.heap[b']? :=λb' hz=>hne b' λe=>hW.Ct k _ hb hlive rfl<|e▸hz
        have hb2:=setRow_heap w (β k).b cur new bt _ g1
        have had:=had A0
        rw [mE,Zw] at had;refine ⟨w.setRow (β k).b new,ag J (M q:Y),?_,?_,Jm,ak,AI,hZw,⟨rfl,rfl,rfl,Vt,λq _ hq=>hne q λe=>hq<|e▸Th hb hlive rfl⟩⟩
        ·rw [hvx,had]
         simp [Builtin.copy_,Ck hu,hlen,sizeOf,typeInfo,hi,him,Nat.min_eq_left hql,hcells,hst,goInt]
        ·refine hW.set hb hlive rfl rfl ⟨hbo.1,ak⟩ Vt ⟨rfl,rfl,rfl⟩ hne ?_
         simp only [Bc,hcap];refine ⟨new,hb2,A0,by simp only [BG,BI,FN];omega,λi' d' hd'=>?_⟩
         unfold BG at hd'
         by_cases hii:i'<M q
         ·rw [Ho hii] at hd'
          refine nb Z (w.setRow (β k).b new) (β k).b (β k).o (λ_ h=>h) hZw (λp hp=>?_) i' d' hd'
          rw [cell_of_block hb2,hnget,AE A0,AD A0,xj]
         ·rw [Gc A0,FO,Nat.add_sub_cancel' A0] at hd'
          refine RD.move (λ_ h=>h) hZw ty d' _ _ _ _ (λp hp=>?_)<|g4 i' d' hd'
          have:=NT ty.n (show M q<=i' by omega)
          rw [cell_of_block hb2,cell_of_block g1,hnget,AE A0,AE A0]
     ·cases h
    ·cases h
   ·cases h
  ·cases h
 ·cases h
end Go.Sx
namespace Go.Sx
open Go.Proofs.YtjdlmobanmhohaaGreatDoor
open Go Go.RowKit
variable {P : Program} {G : B3} {Γ : Specs} {β : Nat -> Loc} {Z : Nat -> Prop} {Z0 : Gz} {w w0 : World} {F : List LV} {H : List AB} {a : Act}
def aDa {n m:aVx}{g:LV->LV}{l:aVy}(h:AT n l) (hg:∀x,okV n x->okV m (g x)):AT m (l.map g):=by
 refine AT.CZ λi x hx=>?_
 cases hl:l[i]? with
 |none=>simp [hl] at hx
 |some q=>simp [hl] at hx;subst hx;exact hg q<|AT.get _ _ h hl
def aE1 {k:aVx}{x:LV}:∀ {l:aVy}{i:aVx},l[i]? =ah x->k∈owns x->k∈ownsL l
 | [],i,h,_=>A8
 |y::ys,0,h,hk=>by simp at h;subst h;simp only [ownsL,BZ];exact .inl hk
 |y::ys,i+1,h,hk=>by simp at h;simp only [ownsL,BZ];exact .inr<|aE1 (l:=ys) h hk
def Td {S:aVx->Prop}{Z':aVx->Prop}{g:LV->LV}{n:aVx}{l:aVy}{ys:aVO}(h:RL β Z w l ys) (hk:AT n l) (hS:∀k,k∈ownsL l->S k) (hg:∀x y,x∈l->(∀k,k∈owns x->S k)->okV n x->R β Z w x y->R β Z' w (g x) y):RL β Z' w (l.map g) ys:=by
 refine RL.CZ (by simp [RL.length h]) λi x hx=>?_
 cases hl:l[i]? with
 |none=>simp [hl] at hx
 |some q=>
  simp [hl] at hx;subst hx
  obtain ⟨y,h1,h2⟩:=RL.get _ _ h hl;exact ⟨y,h1,hg q y (Oj hl) (λk hkk=>hS k<|aE1 hl hkk) (AT.get _ _ hk hl) h2⟩
def GX (H:aVB) (d:aVx) (x:LV):Prop:=(EY H d x).all λ_=>True
def P5 {α:Type}{g:α->T Unit}:∀ {l:List α},(GN g l).all (λ_=>True)->∀x,x∈l->(g x).all (λ_=>True)
 | [],_,x,hx=>Qa
 | y::ys,h,x,hx=>by
  simp only [GN] at h;rw [T.all_bind] at h;rcases BB.1 hx with rfl|hx
  ·exact T.Bb (λ_ _=>trivial) h
  ·obtain ⟨_,h1,_⟩:=T.pick h
   exact P5 h1 x hx
def ap4 (e:Ty) (d:e.D) (j:aVx):okV 0 ((Br e d).getD j .junk):=fO (No 0 e d) j
def Qh (H:aVB) (hH:∀(k:aVx) (b:AB),H[k]? =ah b->okB (M H) b):∀(d:aVx) (x:LV),okV (M H) x->okV 0 (C3 H d x)
 |0,x,_=>by cases x<;>trivial
 | d+1,.own k off,_=>by
  simp only [C3];split
  ·rename_i b hb
   split
   ·simp only [okV]
    exact λj=>Qh H hH d _<|fO (hH k b hb).1 _
   ·trivial
  ·trivial
 | d+1,.os k es off n,_=>by
  simp only [C3];split
  ·split
   ·trivial
   ·trivial
  ·trivial
 | d+1,.op k es i j,_=>by
  simp only [C3];split
  ·split
   ·simp only [okV];exact λq=>ap4 _ _ _
   ·trivial
  ·trivial
 | d+1,.om k,_=>by
  simp only [C3];split
  ·rename_i hb
   exact aDa (hH k _ hb).2 λx hx=>Qh H hH d x hx
  ·trivial
 |d+1,.v x,_=>trivial
 |d+1,.bl x,_=>trivial
 |d+1,.ki _ _,_=>trivial
 |d+1,.agg l,h=>aR
 |d+1,.AO l,h=>aR
 |d+1,.fn f l,h=>aR
 |d+1,.fb f l,h=>aR
 |d+1,.xq n f,h=>by simpa only [C3,okV] using h
 |d+1,.xl e l,h=>trivial
 |d+1,.mp kd ks vs,h=>aR
 |d+1,.oc ..,_=>trivial
 |d+1,.CS k,_=>trivial
 |d+1,.junk,_=>trivial
def ZP (Z:aVx->Prop) (β:aVx->aWe) (H:aVB) (S:aVx->Prop):aVx->Prop:=λb=>Z b\/∃k bk,S k/\H[k]? =ah bk/\live β k bk/\b=(β k).b
def qy (hW:RW G w0 Z0 Z β H w) {k:aVx}{b:AB}(hb:H[k]? =ah b) (hc:b.E4=U):live β k b/\(∃cs,w.heap[(β k).b]? =ah (.cells cs b.t (0,0))/\RL β Z w b.c cs.toList)/\AT (M H) b.c:=by
 obtain ⟨h1,h2⟩:=hW.blk k b hb;unfold Bc at h1;unfold AB.E4 at hc;split at hc
 ·rename_i hk'
  simp only [hk'] at h1;exact ⟨by unfold live;rw [hk'];trivial,h1,h2.1⟩
 ·cases hc
def Mv {S:aVx->Prop}(hW:RW G w0 Z0 Z β H w) (clo:∀k b,S k->H[k]? =ah b->∀j,j∈b.owns->S j):∀(d:aVx) (x:LV) (y:aVQ),GX H d x->(∀k,k∈owns x->S k)->okV (M H) x->R β Z w x y->R β (ZP Z β H S) w (C3 H d x) y
 |0,x,_,_,_,_,_=>by cases x<;>simp only [C3,R]
 | d+1,.own k off,y,hG,hS,hk,h=>by
  simp only [C3];split
  ·rename_i b hb
   split
   ·rename_i hcl
    obtain ⟨hl,⟨cs,hc,hrl⟩,hok⟩:=qy hW hb hcl
    have hSk:S k:=hS k Iy
    simp only [R,okV] at*;refine ⟨(β k).b,off,h,.inr ⟨k,b,hSk,hb,hl,rfl⟩,λj hj=>?_⟩
    have hl':off+j<M b.c:=A0
    have hq:=getD_lt hl'
    obtain ⟨z,h1,h2⟩:=RL.get _ _ hrl hq;refine ⟨z,aOo,?_⟩
    have hG':(GN (EY H d) b.c).all (λ_=>True):=aOd
    exact Mv hW clo d _ z (P5 hG' _<|Oj hq) (λj hj=>clo k b hSk hb j (by unfold AB.owns;exact BZ.2<|.inl<|aE1 hq hj)) (fO hok _) h2
   ·exact Dz
  ·exact Dz
 | d +1,.os k es off n,y,hG,hS,hk,h=>by
  simp only [C3];split
  ·rename_i c0 bt e l pp hb
   split
   ·rename_i hes
    have hle:off+n<=M l:=by
     exact aNR
    have hSk:S k:=hS k Iy
    have hlen:M ((l.drop off).take n)=n:=DJ
    simp only [R] at h|-;rw [hlen];split at h
    ·obtain ⟨rfl,_,hy⟩:=h
     exact ⟨aj,0,hy,A0,λh=>absurd h A0⟩
    ·rename_i c hc
     obtain ⟨h1,a,h2,h3⟩:=h;refine ⟨ah a,c-off,h2,A0,λhn=>?_⟩
     have h4:=(hW.blk k _ hb).1
     simp only [Bc,hc] at h4;obtain ⟨cs,g1,g2,g3,g4⟩:=h4;refine ⟨_,_,by rw [h3 A0],.inr ⟨k,_,hSk,hb,by simp [live,hc],rfl⟩,λi d hd=>?_⟩
     rw [Lg] at hd;split at hd
     ·rw [FO] at hd
      have:=g4 (off+i) d hd
      rw [<-hes];rw [GF,<-Hq] at this;exact RD.keep (λ_ h=> .inl h) (λ_ _=>rfl) e d _ _ rfl this
     ·cases hd
   ·exact Dz
  ·exact Dz
 | d +1,.op k es i j,y,hG,hS,hk,h=>by
  simp only [C3];split
  ·rename_i c0 bt e l pp hb
   split
   ·rename_i hes
    have hle:i<M l:=by
     exact aNR
    have hSk:S k:=hS k Iy
    simp only [R] at h|-;obtain ⟨hcap,hy⟩:=h
    have h4:=(hW.blk k _ hb).1
    simp only [Bc] at h4;split at h4
    ·exact yQ
    ·rename_i c hc
     obtain ⟨cs,g1,g2,g3,g4⟩:=h4;refine ⟨_,_,hy,.inr ⟨k,_,hSk,hb,by simp [live,hc],rfl⟩,λq hq=>?_⟩
     have hjq:j+q<M (Br e<|l.getD i e.dflt):=zP
     have hrd:=RD.keep (Z':=ZP Z β H S) (λ_ h=> .inl h) (λ_ _=>rfl) e _ _ _ rfl<|g4 i _<|getD_at hle
     obtain ⟨z,z1,z2⟩:=XE (β:=β) e _ _ _ hrd (j+q) _<|getD_lt hjq
     grind
   ·exact Dz
  ·exact Dz
 | d+1,.om k,y,hG,hS,hk,h=>by
  simp only [C3];split
  ·rename_i c0 bt kd ks vs pp hb
   have hSk:S k:=hS k Iy
   obtain ⟨h4,h5⟩:=hW.blk k _ hb;simp only [Bc] at h4;obtain ⟨es,clock,g1,g2,g3⟩:=h4;simp only [R] at h|-;refine ⟨_,es,clock,h,.inr ⟨k,_,hSk,hb,ak,rfl⟩,g1,g2,?_⟩
   have hG':(GN (EY H d) vs).all (λ_=>True):=aOd
   exact Td (S:=S) g3 h5.2 (λj hj=>clo k _ hSk hb j (by unfold AB.owns;exact BZ.2<|.inr hj)) λx y hm hx hk' hr=>Mv hW clo d x y (P5 hG' _ hm) hx hk' hr
  ·exact Dz
 |d+1,.v x,_,_,_,_,h=>h
 |d+1,.bl x,_,_,_,_,h=>h
 |d+1,.ki _ _,_,_,_,_,h=>h
 |d+1,.agg l,y,hG,hS,hk,h=>by
  exact mA
 |d+1,.AO l,y,hG,hS,hk,h=>by
  exact mA
 |d+1,.fn f l,y,hG,hS,hk,h=>by
  exact mA
 |d+1,.fb f l,y,hG,hS,hk,h=>by
  exact mA
 |d+1,.mp kd ks vs,y,hG,hS,hk,h=>by
  have hG':(GN (EY H d) vs).all (λ_=>True):=aOR
  clear hG
  simp only [C3,R,okV,owns] at*;obtain ⟨r,es,clock,h1,h2,h3,h4,h5⟩:=h;exact ⟨r,es,clock,h1,.inl h2,h3,h4,Td h5 hk hS λx y hm hx hk' hr=>Mv hW clo d x y (P5 hG' _ hm) hx hk' hr⟩
 |d+1,.xq n f,y,_,_,hk,h=>by
  exact aMR
 |d+1,.xl e l,y,_,_,hk,h=>by
  exact aMR
 |d+1,.oc ..,_,_,_,_,_=>zH
 |d+1,.CS k,_,_,_,_,_=>zH
 |d+1,.junk,_,_,_,_,_=>zH
def cx (ks:aVC):∀(H:aVB) (s k:aVx),(Ft ks s H)[k]? =(H[k]?).map λb=>if ks.contains (s+k) then ⟨b.c,b.t,b.k,U⟩ else b
 | [],_,_=>by simp [Ft]
 |b::bs,s,0=>by simp [Ft]
 |b::bs,s,k+1=>by
  simp only [Ft,lu];rw [cx ks bs (s+1) k,show s+1+k=s+(k+1) by omega]
def KN (ks:aVC):∀(H:aVB) (s:aVx),M (Ft ks s H)=M H
 | [],_=>rfl
 |b::bs,s=>by simp [Ft,KN ks bs]
def RW.pub (hW:RW G w0 Z0 Z β H w) (ks:aVC):RW G w0 Z0 (ZP Z β H λk=>k∈ks) β (Ft ks 0 H) w:=by
 have old:∀k b,(Ft ks 0 H)[k]? =ah b->∃b0,H[k]? =ah b0/\live β k b=live β k b0/\b.k=b0.k/\b.t=b0.t/\b.c=b0.c/\((k∈ks/\b.p=U)\/(k∉ks/\b.p=b0.p)):=λk b h=>by
  rw [cx] at h;cases hb:H[k]? with
  |none=>simp [hb] at h
  | some b0=>
   simp only [hb,Jk,Ah,Eh] at h;refine ⟨b0,rfl,?_⟩;split at h
   ·rename_i hc
    subst h;exact ⟨rfl,rfl,rfl,rfl,.inl ⟨A8,rfl⟩⟩
   ·rename_i hc
    subst h
    grind
 have hZ:∀b,Z b->ZP Z β H (λk=>k∈ks) b:=λ_ h=> .inl h
 refine ⟨hW.below,λb hz=>?_,λb hz=>?_,λk b hk hl hp hz=>?_,λk b hk hl hp=>?_,λk b hk hl=>?_,λi j bi bj hi hj li lj pi e=>?_,λk b hk=>?_,hW.Cl.mono hZ λ_ _=>rfl,λp hp=>⟨R.mono (n:=M H) (λ_ _=>rfl) hZ (λ_ _=>rfl) _ _ (hW.gh p hp).2 (hW.gh p hp).1,by rw [KN];exact (hW.gh p hp).2⟩,λD hD=>⟨.inl (hW.Cv D hD).1,(hW.Cv D hD).2⟩⟩
 ·exact aNb
 ·rcases hz with hz|⟨k,bk,_,h2,h3,rfl⟩
  ·exact hW.Eo b hz
  ·exact .inr<|hW.low k bk h2 h3
 ·obtain ⟨b0,h1,h2,h3,h4,h5,h6⟩:=old k b hk
  rcases h6 with ⟨_,h6⟩ |⟨h6,h7⟩
  ·grind
  ·rcases hz with hz|⟨j,bj,g1,g2,g3,g4⟩
   ·exact hW.Ct k b0 h1 (h2▸hl) (h7▸hp) hz
   ·exact h6<|(hW.inj k j b0 bj h1 g2 (h2▸hl) g3 (h7▸hp) g4)▸g1
 ·obtain ⟨b0,h1,h2,h3,h4,h5,h6⟩:=old k b hk
  rcases h6 with ⟨h6,_⟩ |⟨h6,h7⟩
  ·exact .inr ⟨k,b0,h6,h1,h2▸hl,rfl⟩
  ·exact .inl<|hW.GQ k b0 h1 (h2▸hl)<|h7▸hp
 ·obtain ⟨b0,h1,h2,_⟩:=old k b hk
  exact hW.low k b0 h1<|h2▸hl
 ·obtain ⟨b0,h1,h2,h3,h4,h5,h6⟩:=old i bi hi
  obtain ⟨c0,g1,g2,_⟩:=old j bj hj;rcases h6 with ⟨_,h6⟩ |⟨h6,h7⟩
  ·grind
  ·exact hW.inj i j b0 c0 h1 g1 (h2▸li) (g2▸lj) (h7▸pi) e
 ·obtain ⟨b0,h1,h2,h3,h4,h5,h6⟩:=old k b hk
  obtain ⟨q1,q2⟩:=hW.blk k b0 h1
  have q3:=q1.keep (β':=β) (Z':=ZP Z β H λk=>k∈ks) (w':=w) (n:=M H) (λ_ _=>rfl) hZ (λ_ _=>rfl) rfl (λ_=>rfl) q2
  rw [KN];refine ⟨?_,?_⟩
  ·unfold Bc at q3|-
   rwa [h3,h4,h5]
  ·unfold okB at q2|-
   rwa [h3,h5]
def TE {ks:aVC}{l:aVy}(h:KZ H ks l=U):(∀k,k∈ownsL l->k∈ks)/\(∀k b,k∈ks->H[k]? =ah b->∀j,j∈b.owns->j∈ks):=by
 unfold KZ at h;refine ⟨λk hk=>A8,λk b hk hb j hj=>?_⟩
 grind
end Go.Sx
namespace Go.Sx
open Go.Proofs.YtjdlmobanmhohaaGreatDoor
open Go Go.RowKit
variable {P : Program} {G : B3} {Γ : Specs} {β : Nat -> Loc} {Z : Nat -> Prop} {Z0 : Gz} {w w0 : World} {F : List LV} {H : List AB} {a : Act}
def RO (β:aVx->aWe) (Z:aVx->Prop) (w:aVJ):aWy->aWk->Prop
 |none,aj=>True
 |some x,ah y=>R β Z w x y
 |_,_=>False
def aDy {lo hi:aWk}{len cap i j:aVx}(hij:i<=j) (hlc:j<=cap) (hlo:match lo with|none=>i=0|some v=>∃k,v=ag k i) (hhi:match hi with|none=>j=len|some v=>∃k,v=ag k j) (w':aVJ):
  (Instr.sliceBounds U len cap lo hi aj).run P w'=.ok (i,j,cap) w':=by
 have bd:∀(k:aWh) (x y:aVx) (c:BoundsCode),x<=y->(Instr.sliceBound (ag k x) y c).run P w'=.ok x w':=λk x y c hxy=>by
  exact aNV
 cases lo with
 |none=>
  subst hlo;cases hi with
  |none=>simp only at hhi;subst hhi;simp [Instr.sliceBounds]
  |some v=>simp only at hhi;obtain ⟨k,rfl⟩:=hhi;simp [Instr.sliceBounds,bd k j cap _ hlc]
 |some u=>
  obtain ⟨k',rfl⟩:=hlo;cases hi with
  |none=>simp only at hhi;subst hhi;simp [Instr.sliceBounds,bd k' i j _ hij]
  |some v=>simp only at hhi;obtain ⟨k,rfl⟩:=hhi;simp [Instr.sliceBounds,bd k j cap _ hlc,bd k' i j _ hij]
def adF {t:aVN} {x lv:LV} {y:aVQ} {lo hi:aWy} {vlo vhi:aWk} {N:aVx} (h:(u6 P t x lo hi).all λz=>z=lv) (hr:R β Z w x y) (hlo:RO β Z w lo vlo) (hhi:RO β Z w hi vhi) (hk:okV N x):
  ∃v,(∀w',(Instr.sliceAt t y vlo vhi aj).run P w'=.ok v w')/\R β Z w lv v/\okV N lv:=by
 unfold u6 at h;split at h
 ·rename_i e hu
  split at h
  ·rename_i m hsz
   have e2:=λw=>run_sizeOf hsz w
   have bnd:∀(o:aWy) (v:aWk) (d n:Y),RO β Z w o v->(match o with|none=>ah d|some y=>match pl y with|some (.int _ n)=>ah n|_=>aj)=ah n->(match v with|none=>n=d|some v=>∃k,v=ag k n):=λo v d n ho hn=>by
    cases o with
    |none=>
     cases v with
     |none=>simp only at hn|-;exact (ED hn).symm
     |some v=>cases ho
    | some x=>
     cases v with
     |none=>cases ho
     | some v=>
      simp only [RO] at ho;simp only at hn|-;split at hn
      ·rename_i k n' hp
       simp only [Ah] at hn;subst hn;exact ⟨k,Cq hp ho⟩
      ·cases hn
   have nn:∀(v:aWk) (d n:Y),0<=n->0<=d->(match v with|none=>n=d|some v=>∃k,v=ag k n)->(match v with|none=>n.toNat=d.toNat|some v=>∃k,v=ag k (n.toNat:Y)):=λv d n hn hd hv=>by
    cases v with
    |none=>simp only at hv|-;rw [hv]
    |some v=>simp only at hv|-;rw [CO hn];exact hv
   simp only at h;split at h
   ·rename_i ty l
    split at h
    ·rename_i i j hi1 hi2
     split at h
     ·rename_i htn
      simp only [T.all] at h;obtain ⟨⟨h0,h1,h2⟩,h3⟩:=h;subst h3;simp only [R] at hr;obtain ⟨ad,cap,g1,g2,g3⟩:=hr
      have b1:=nn vlo 0 i h0 A0<|bnd lo vlo 0 i hlo hi1
      have b2:=nn vhi _ j A0 A0<|bnd hi vhi _ j hhi hi2
      simp only [C0,Int.toNat_zero] at b1 b2;refine ⟨_,λw'=>by simp [Instr.sliceAt,Instr.slice,Ck hu,g1,aDy (P:=P) (len:=M l) (cap:=cap) (i:=i.toNat) (j:=j.toNat) A0 A0 b1 b2 w',e2];rfl,?_,ak⟩
      have hlen:M ((l.drop i.toNat).take<|j.toNat-i.toNat)=j.toNat-i.toNat:=DJ
      simp only [R];rw [hlen];refine ⟨_,_,rfl,A0,λhn=>?_⟩
      obtain ⟨b,off,g4,g5,g6⟩:=g3 A0;rw [AE A0,g4];simp only [Jk,addr_add];refine ⟨b,_,rfl,g5,λp d hd=>?_⟩
      rw [Lg] at hd;split at hd
      ·rw [FO] at hd
       have:=g6 (i.toNat+p) d hd
       rw [GF,<-Hq,htn] at this;rw [htn];exact this
      ·cases hd
     ·cases h
    ·cases h
   ·rename_i k es off n
    split at h
    ·rename_i i j hi1 hi2
     split at h
     ·rename_i hes
      simp only [T.all] at h;obtain ⟨⟨h0,h1,h2⟩,h3⟩:=h;subst h3
      have b1:=nn vlo 0 i h0 A0<|bnd lo vlo 0 i hlo hi1
      have b2:=nn vhi _ j A0 A0<|bnd hi vhi _ j hhi hi2
      simp only [R] at hr;split at hr
      ·rename_i hcap
       obtain ⟨rfl,rfl,rfl⟩:=hr
       have hi0:i.toNat=0:=A0
       have hj0:j.toNat=0:=A0
       refine ⟨.slice aj 0 0,λw'=>by simp [Instr.sliceAt,Instr.slice,Ck hu,aDy (P:=P) (len:=0) (cap:=0) (i:=i.toNat) (j:=j.toNat) A0 A0 b1 b2 w',e2,hi0,hj0],by simp [R,hcap,hi0,hj0],hk⟩
      ·rename_i c hcap
       obtain ⟨g1,ad,g2,g3⟩:=hr;subst g2;refine ⟨_,λw'=>by simp [Instr.sliceAt,Instr.slice,Ck hu,aDy (P:=P) (len:=n) (cap:=c-off) (i:=i.toNat) (j:=j.toNat) A0 A0 b1 b2 w',e2];rfl,?_,hk⟩
       simp only [R,hcap];refine ⟨A0,if c-off=i.toNat then ad else ad.add (i.toNat*(m+1)),?_,λhn=>?_⟩
       ·rw [show c-(off+i.toNat)=c-off-i.toNat by omega]
        split<;>rfl
       ·rw [AE A0,g3 A0,addr_add,hes,GF,Hq]
     ·cases h
    ·cases h
   ·cases h
  ·cases h
 ·cases h
def aeI {lo:aWk}{kh km:aWh}{len cap i j:aVx}(hij:i<=j) (hlc:j<=cap) (hlo:match lo with|none=>i=0|some v=>∃k,v=ag k i) (w':aVJ):
  (Instr.sliceBounds U len cap lo (ah<|ag kh j)<|ah<|ag km j).run P w'=.ok (i,j,j) w':=by
 have bd:∀(k:aWh) (x y:aVx) (c:BoundsCode),x<=y->(Instr.sliceBound (ag k x) y c).run P w'=.ok x w':=λk x y c hxy=>by
  exact aNV
 cases lo with
 |none=>simp only at hlo;subst hlo;simp [Instr.sliceBounds,bd km j cap _ hlc,bd kh j j _<|Aq j]
 |some u=>
  obtain ⟨k',rfl⟩:=hlo
  simp [Instr.sliceBounds,bd km j cap _ hlc,bd kh j j _<|Aq j,bd k' i j _ hij]
def ad6 {t:aVN} {x lv hi mx:LV} {y vhi vmx:aVQ} {lo:aWy} {vlo:aWk} {N:aVx} (h:(rk P t x lo hi mx).all λz=>z=lv) (hr:R β Z w x y) (hlo:RO β Z w lo vlo) (hhi:R β Z w hi vhi) (hmx:R β Z w mx vmx):
  ∃v,(∀w',(Instr.sliceAt t y vlo (ah vhi)<|ah vmx).run P w'=.ok v w')/\R β Z w lv v/\okV N lv:=by
 unfold rk at h;split at h
 ·rename_i e hu
  split at h
  ·rename_i m hsz
   have e2:=λw=>run_sizeOf hsz w
   split at h
   ·rename_i ty l
    split at h
    ·rename_i i kj j kq q hi1 hi2 hi3
     have v2:=Cq hi2 hhi
     have v3:=Cq hi3 hmx
     subst v2;subst v3;split at h
     ·rename_i htn
      obtain ⟨⟨h0,h1,h2,rfl⟩,h3⟩:=h;subst h3;obtain ⟨ad,cap,g1,g2,g3⟩:=hr
      have b1:(match (generalizing:=false) vlo with|none=>i.toNat=0|some v=>∃k,v=ag k (i.toNat:Y)):=by
       cases lo with
       |none=>
        cases vlo with
        |none=>simp only [Ah] at hi1;subst hi1;rfl
        |some v=>cases hlo
       | some u=>
        cases vlo with
        |none=>cases hlo
        | some v=>
         simp only at hi1|-;split at hi1
         ·rename_i k n' hp
          simp only [Ah] at hi1;subst hi1;exact ⟨k,by rw [CO h0];exact Cq hp hlo⟩
         ·cases hi1
      have hj:q=((q.toNat:aVx):Y):=(CO A0).symm
      have hb:=λw'=>aeI (P:=P) (lo:=vlo) (kh:=kj) (km:=kq) (len:=M l) (cap:=cap) (i:=i.toNat) (j:=q.toNat) A0 A0 b1 w'
      rw [<-hj] at hb;refine ⟨_,λw'=>by simp [Instr.sliceAt,Instr.slice,Ck hu,g1,hb w',e2];rfl,?_,ak⟩
      have hlen:M ((l.drop i.toNat).take<|q.toNat-i.toNat)=q.toNat-i.toNat:=DJ
      simp only [R];rw [hlen];refine ⟨_,_,rfl,A0,λhn=>?_⟩
      obtain ⟨b,off,g4,g5,g6⟩:=g3 A0;rw [AE A0,g4];simp only [Jk,addr_add];refine ⟨b,_,rfl,g5,λp d hd=>?_⟩
      rw [Lg] at hd;split at hd
      ·rw [FO] at hd
       have:=g6 (i.toNat+p) d hd
       grind
      ·cases hd
     ·cases h
    ·cases h
   ·cases h
  ·cases h
 ·cases h
def aEo {kd:aWh}{n:Y}{z:aVQ}{lv:LV}:∀(ks:aVw) (vs:aVy) (es:aWu) (s:aVx),(cz kd n z ks vs).all (λr=>r=lv)->M ks=M vs->es.map (·.key)=ks.map (.int kd)->RL β Z w vs (es.map (·.val))->
  (∃s' v,aA (.int kd) (ag kd n) es s=ah (ah (s',v))/\R β Z w lv v/\∃i:aVx,vs[i]? =ah lv)\/(aA (.int kd) (ag kd n) es s=ah aj/\lv=.v z)
 | [],[],es,s,h,_,hk,hr=>by
  exact aNK
 | [],_::_,_,_,_,hl,_,_=>A8
 |_::_,[],_,_,_,hl,_,_=>A8
 | k::ks,v::vs,es,s,h,hl,hk,hr=>by
  cases es with
  |nil=>simp at hk
  | cons e es=>
   simp only [ET,Ht] at hk;obtain ⟨y,zs,h1,h2,h3⟩:=hr;obtain ⟨rfl,rfl⟩:=h1;cases hb:(n==k) with
   |true=>
    have:=h.1 hb
    subst this;exact .inl ⟨s,e.val,Vn,h2,0,rfl⟩
   |false=>
    have hf:aA (.int kd) (ag kd n) (e::es) s=aA (.int kd) (ag kd n) es (s+1):=Vn
    rw [hf];rcases aEo ks vs es (s+1) (h.2 hb) A8 hk.2 h3 with ⟨s',v',q1,q2,i,q3⟩ |q
    ·exact .inl ⟨s',v',q1,q2,i+1,A8⟩
    ·exact .inr q
def ot {kt:aVN}{kd:aWh}(hu:P.underlying kt=ah (.int kd)) (e:aVH) (v:aVQ) (w':aVJ):(Instr.checkKey e 10000 kt v).run P w'=.ok () w':=by
 unfold Instr.checkKey
 simp [Ck hu]
def adT {t:aVN}{x q lv:LV}{y z:aVQ}(hW:RW G w0 Z0 Z β H w) (h:(UE P H t x q).all λr=>r=lv) (hr:R β Z w x y) (hq:R β Z w q z) (hk:okV (M H) x):
  ∃v,(∀w',(∀b,(Z b\/∃k,x=.om k/\b=(β k).b)->w'.heap[b]? =w.heap[b]?)->(Instr.lookup t y z X).run P w'=.ok v w')/\R β Z w lv v/\okV (M H) lv:=by
 unfold UE at h;split at h
 ·rename_i kt et hu
  split at h
  ·rename_i kd z0 kd' n hku hz hp
   split at h
   ·rename_i hkd
    obtain ⟨rfl,hz1⟩:=hkd
    have hzq:=Cq hp hq
    have main:∀(r:aVx) (es:Array MapEntry) (clock:aVx) (ks:aVw) (vs:aVy),y=.map (ah r)->w.heap[r]? =ah (.map es clock)->es.toList.map (·.key)=ks.map (.int kd')->RL β Z w vs (es.toList.map (·.val))->M ks=M vs->AT (M H) vs->(cz kd' n z0 ks vs).all (λr=>r=lv)->(Z r\/∃k,x=.om k/\r=(β k).b)->
      ∃v,(∀w',(∀b,(Z b\/∃k,x=.om k/\b=(β k).b)->w'.heap[b]? =w.heap[b]?)->(Instr.lookup t y z X).run P w'=.ok v w')/\R β Z w lv v/\okV (M H) lv:=λr es clock ks vs hy hh hkk hvv hl hok hch hzr=>by
     rcases aEo ks vs es.toList 0 hch hl hkk hvv with ⟨s',v',q1,q2,i,q3⟩ |⟨q1,q2⟩
     ·refine ⟨v',λw' hw'=>?_,q2,AT.get i _ hok q3⟩
      exact aM8
     ·refine ⟨z0,λw' hw'=>?_,by rw [q2];simp [R],by rw [q2];trivial⟩
      exact aMM
    split at h
    ·exact aNB
    ·rename_i k
     split at h
     ·rename_i hb
      split at h
      ·rename_i hkk
       obtain ⟨rfl,hl⟩:=hkk;obtain ⟨b1,b2⟩:=hW.blk k _ hb;obtain ⟨es,clock,g1,g2,g3⟩:=b1;exact aNf
      ·cases h
     ·cases h
    ·cases h
   ·cases h
  ·cases h
 ·cases h
def adW {kd:aWh}{n:Y}{z:aVQ}{lv:LV}:∀(ks:aVw) (vs:aVy) (es:aWu) (s:aVx),(cg kd n z ks vs).all (λr=>r=lv)->M ks=M vs->es.map (·.key)=ks.map (.int kd)->RL β Z w vs (es.map (·.val))->
  (∃s' v u,aA (.int kd) (ag kd n) es s=ah (ah (s',v))/\R β Z w u v/\lv=.AO [norm u,.bl U]/\∃i:aVx,vs[i]? =ah u)\/(aA (.int kd) (ag kd n) es s=ah aj/\lv=.AO [.v z,.bl X])
 | [],[],es,s,h,_,hk,hr=>by
  exact aNK
 | [],_::_,_,_,_,hl,_,_=>A8
 |_::_,[],_,_,_,hl,_,_=>A8
 | k::ks,v::vs,es,s,h,hl,hk,hr=>by
  cases es with
  |nil=>simp at hk
  | cons e es=>
   simp only [ET,Ht] at hk;obtain ⟨y,zs,h1,h2,h3⟩:=hr;obtain ⟨rfl,rfl⟩:=h1;cases hb:(n==k) with
   |true=>
    have:=h.1 hb
    subst this;exact .inl ⟨s,e.val,v,Vn,h2,rfl,0,rfl⟩
   |false=>
    have hf:aA (.int kd) (ag kd n) (e::es) s=aA (.int kd) (ag kd n) es (s+1):=Vn
    rw [hf];rcases adW ks vs es (s+1) (h.2 hb) A8 hk.2 h3 with ⟨s',v',u',q1,q2,q4,i,q3⟩ |q
    ·exact .inl ⟨s',v',u',q1,q2,q4,i+1,A8⟩
    ·exact .inr q
def adN {t:aVN}{x q lv:LV}{y z:aVQ}(hW:RW G w0 Z0 Z β H w) (h:(XW P H t x q).all λr=>r=lv) (hr:R β Z w x y) (hq:R β Z w q z) (hk:okV (M H) x):
  ∃v,(∀w',(∀b,(Z b\/∃k,x=.om k/\b=(β k).b)->w'.heap[b]? =w.heap[b]?)->(Instr.lookup t y z U).run P w'=.ok v w')/\R β Z w lv v/\okV (M H) lv:=by
 unfold XW at h;split at h
 ·rename_i kt et hu
  split at h
  ·rename_i kd z0 kd' n hku hz hp
   split at h
   ·rename_i hkd
    obtain ⟨rfl,hz1⟩:=hkd
    have hzq:=Cq hp hq
    have main:∀(r:aVx) (es:Array MapEntry) (clock:aVx) (ks:aVw) (vs:aVy),y=.map (ah r)->w.heap[r]? =ah (.map es clock)->es.toList.map (·.key)=ks.map (.int kd')->RL β Z w vs (es.toList.map (·.val))->M ks=M vs->AT (M H) vs->(cg kd' n z0 ks vs).all (λr=>r=lv)->(Z r\/∃k,x=.om k/\r=(β k).b)->
      ∃v,(∀w',(∀b,(Z b\/∃k,x=.om k/\b=(β k).b)->w'.heap[b]? =w.heap[b]?)->(Instr.lookup t y z U).run P w'=.ok v w')/\R β Z w lv v/\okV (M H) lv:=λr es clock ks vs hy hh hkk hvv hl hok hch hzr=>by
     rcases adW ks vs es.toList 0 hch hl hkk hvv with ⟨s',v',u,q1,q2,q4,i,q3⟩ |⟨q1,q2⟩
     ·refine ⟨.tuple #[v',.bool U],λw' hw'=>?_,by rw [q4];exact ⟨_,rfl,v',[.bool U],rfl,PH q2,_,[],rfl,rfl,rfl⟩,by rw [q4];exact ⟨Tc<|AT.get i _ hok q3,ak,ak⟩⟩
      exact aM8
     ·refine ⟨.tuple #[z0,.bool X],λw' hw'=>?_,by rw [q2];exact ⟨_,rfl,z0,[.bool X],rfl,rfl,_,[],rfl,rfl,rfl⟩,by rw [q2];exact ⟨ak,ak,ak⟩⟩
      exact aMM
    split at h
    ·exact aNB
    ·rename_i k
     split at h
     ·rename_i hb
      split at h
      ·rename_i hkk
       obtain ⟨rfl,hl⟩:=hkk;obtain ⟨b1,b2⟩:=hW.blk k _ hb;simp only [Bc] at b1;obtain ⟨es,clock,g1,g2,g3⟩:=b1;simp only [R] at hr;exact aNf
      ·cases h
     ·cases h
    ·cases h
   ·cases h
  ·cases h
 ·cases h
def aFV {kd:aWh}{n:Y}:∀(ks:aVw) (es:aWu) (s:aVx),ks.contains n=X->es.map (·.key)=ks.map (.int kd)->aA (.int kd) (ag kd n) es s=ah aj
 | [],es,s,_,hk=>by
  have:es=[]:=GH
  subst this;rfl
 | k::ks,es,s,hc,hk=>by
  cases es with
  |nil=>simp at hk
  |cons e es=>
   simp only [ET,Ht] at hk;simp only [List.contains_cons,Ge] at hc
   have hf:aA (.int kd) (ag kd n) (e::es) s=aA (.int kd) (ag kd n) es (s+1):=by simp [aA,Instr.sameNow,hk.1,hc.1]
   rw [hf];exact aFV ks es (s+1) hc.2 hk.2
def aEZ {t:aVN}{x q r:LV}{y z u:aVQ}{H':aVB}(hW:RW G w0 Z0 Z β H w) (h:(VQ P H t x q r).all λr=>r=H') (hr:R β Z w x y) (hq:R β Z w q z) (hu:R β Z w r u) (hrk:okV (M H) r):
  ∃w',(Instr.mapUpdate t y z u).run P w=.ok () w'/\RW G w0 Z0 Z β H' w'/\M H'=M H/\(∀b,Z b->w'.heap[b]? =w.heap[b]?)/\DX (Dd β H<|owns x) w w':=by
 unfold VQ at h;split at h
 ·rename_i kt et hut
  split at h
  ·rename_i kd kd' n k hku hp
   split at h
   ·rename_i c0 bt kd2 ks vs hb
    split at h
    ·rename_i hle
     obtain ⟨rfl,rfl,hl,hnc⟩:=hle;subst h;obtain ⟨b1,b2⟩:=hW.blk k _ hb;obtain ⟨es,clock,g1,g2,g3⟩:=b1;simp only [R] at hr
     have hzq:=Cq hp hq
     have hlt:=(Hp.1 g1).1
     have hget:(getObj (β k).b).run P w=.ok (.map es clock) w:=aPU
     let w':aVJ:={w with heap:=w.heap.setIfInBounds (β k).b<|.map (es.push {key:=z,val:=u,born:=clock})<|clock+1}
     have hset:(setObj (β k).b<|.map (es.push {key:=z,val:=u,born:=clock})<|clock+1).run P w=.ok () w':=aPH
     have hfn:=aFV ks es.toList 0 hnc g2
     have hlive:=trivial
     have hne:∀j,j≠(β k).b->w'.heap[j]? =w.heap[j]? :=λj hj=>A8
     have hZw:∀b',Z b'->w'.heap[b']? =w.heap[b']? :=λb' hz=>hne b' λe=>hW.Ct k _ hb hlive rfl<|e▸hz
     refine ⟨w',?_,?_,AI,hZw,⟨rfl,rfl,rfl,nX,λj _ hj=>hne j λe=>hj<|e▸Th hb hlive rfl⟩⟩
     ·rw [hzq] at hset
      simp [Instr.mapUpdate,Ck hut,hr,hget,ot hku,Instr.findKey,Ck hku,hzq,hfn,hset]
     ·refine hW.set hb hlive rfl rfl ⟨ak,AT.append b2.2 ⟨hrk,ak⟩⟩ nX ⟨rfl,rfl,rfl⟩ hne ?_
      refine ⟨es.push {key:=z,val:=u,born:=clock},clock+1,by simp [w',hlt],by simp [g2,hzq],?_⟩
      have h1:RL β Z w (vs++[r]) (es.toList.map (·.val)++[u]):=g3.app (by simp only [RL];exact ⟨u,[],rfl,hu,rfl⟩)
      have hok1:AT (M H) [r]:=⟨hrk,ak⟩
      have h2:=RL.mono (n:=M H) (β':=β) (Z':=Z) (λ_ _=>rfl) (λ_ h=>h) hZw _ _ (AT.append b2.2 hok1) h1
      grind
    ·cases h
   ·cases h
  ·cases h
 ·cases h
def aSx:∀ {e:Ty}{v:aVQ}{d:e.D},NJ e v=ah d->v=wb e d
 | .int k,v,d,h=>by
  simp only [NJ] at h;split at h
  ·split at h
   ·rename_i hk;simp only [Ah] at h;subst h hk;rfl
   ·cases h
  ·cases h
 | .str,v,d,h=>by
  simp only [NJ] at h;split at h
  ·simp only [Ah] at h;subst h;rfl
  ·cases h
 | .bool,_,_,h=>yt
 | .sl _,_,_,h=>yt
 | .pair _ _,_,_,h=>yt
def o5:Ty->TypeDesc
 | .int k=> .int k
 |_=> .string
def aGj {k:aWh}{d:Y}:∀(l:aVw) (es:aWu) (s:aVx),es.map (·.key)=l.map (.int k)->(∀x,x∈es->x.val=.bool U)->
  (l.contains d=U/\∃s',aA (.int k) (ag k d) es s=ah (ah (s',.bool U)))\/(l.contains d=X/\aA (.int k) (ag k d) es s=ah aj)
 | [],es,s,hk,_=>by
  exact aNQ
 | x::l,es,s,hk,hv=>by
  cases es with
  |nil=>simp at hk
  | cons e es=>
   simp only [ET,Ht] at hk;cases hb:(d==x) with
   |true=>
    refine .inl ⟨A8,s,?_⟩
    have hv1:=hv e AI
    simp [aA,Instr.sameNow,hk.1,hb,hv1]
   |false=>
    have hf:aA (.int k) (ag k d) (e::es) s=aA (.int k) (ag k d) es (s+1):=Vn
    rw [hf]
    have hc:(x::l).contains d=l.contains d:=A8
    rw [hc];exact aGj l es (s+1) hk.2 λy hy=>hv y A8
def aGi {d:aV6}:∀(l:aVz) (es:aWu) (s:aVx),es.map (·.key)=l.map .string->(∀x,x∈es->x.val=.bool U)->
  (l.contains d=U/\∃s',aA .string (.string d) es s=ah (ah (s',.bool U)))\/(l.contains d=X/\aA .string (.string d) es s=ah aj)
 | [],es,s,hk,_=>by
  exact aNQ
 | x::l,es,s,hk,hv=>by
  cases es with
  |nil=>simp at hk
  | cons e es=>
   simp only [ET,Ht] at hk;cases hb:(d==x) with
   |true=>
    refine .inl ⟨A8,s,?_⟩
    have hv1:=hv e AI
    simp [aA,Instr.sameNow,hk.1,hb,hv1]
   |false=>
    have hf:aA .string (.string d) (e::es) s=aA .string (.string d) es (s+1):=Vn
    rw [hf]
    have hc:(x::l).contains d=l.contains d:=A8
    rw [hc];exact aGi l es (s+1) hk.2 λy hy=>hv y A8
def aJg {e:Ty}{v:aVQ}{d:e.D}(hd:NJ e v=ah d) (l:List e.D) (es:aWu) (s:aVx) (hk:es.map (·.key)=List.map (wb e) l) (hv:∀x,x∈es->x.val=.bool U):
  (o6 e d l=U/\∃s',aA (o5 e) v es s=ah (ah (s',.bool U)))\/(o6 e d l=X/\aA (o5 e) v es s=ah aj):=by
 have hvv:=aSx hd
 subst hvv;cases e with
 |int k=>exact aGj l es s hk hv
 |str=>exact aGi l es s hk hv
 |bool=>simp [NJ] at hd
 |sl _=>simp [NJ] at hd
 |pair _ _=>simp [NJ] at hd
def aEu {t:aVN}{e:Ty}(h:bW P t=ah e):∃kt et,P.underlying t=ah (.map kt et)/\P.underlying et=ah .bool/\P.underlying kt=ah (o5 e)/\(∀(b:aVH) (v:aVQ) (w':aVJ),(Instr.checkKey b 10000 kt v).run P w'=.ok () w')/\Ic P et=ah (.bool X):=by
 unfold bW at h;split at h
 ·rename_i kt et hu
  split at h
  ·rename_i k h1 h2 h3
   simp only [Ah] at h;subst h;exact ⟨kt,et,hu,h1,h2,λb v w'=>ot h2 b v w',h3⟩
  ·rename_i h1 h2 h3
   simp only [Ah] at h;subst h;exact ⟨kt,et,hu,h1,h2,λb v w'=>by unfold Instr.checkKey;simp [Ck h2],h3⟩
  ·cases h
 ·cases h
def adU {t:aVN}{x q lv:LV}{y z:aVQ}(hW:RW G w0 Z0 Z β H w) (h:(Xm P H t x q).all λr=>r=lv) (hr:R β Z w x y) (hq:R β Z w q z) (hk:okV (M H) x):
  ∃v,(∀w',(∀b,(Z b\/∃k,x=.om k/\b=(β k).b)->w'.heap[b]? =w.heap[b]?)->(Instr.lookup t y z X).run P w'=.ok v w')/\R β Z w lv v/\okV (M H) lv:=by
 unfold Xm at h;split at h
 ·rename_i k
  split at h
  ·rename_i c0 bt e l pp hb
   unfold abP at h;split at h
   ·rename_i e' v hs hp
    split at h
    ·rename_i he d _ hd
     obtain ⟨he⟩:=he;subst he;subst h;obtain ⟨kt,et,u1,u2,u3,u4,u5⟩:=aEu hs;obtain ⟨b1,b2⟩:=hW.blk k _ hb;obtain ⟨es,clock,g1,g2,g3⟩:=b1;simp only [R] at hr
     have hzq:=Cq hp hq
     rcases aJg hd l es.toList 0 g2 g3 with ⟨m1,s',m2⟩ |⟨m1,m2⟩
     ·refine ⟨.bool U,λw' hw'=>?_,by simp only [R,m1],ak⟩
      have hh':w'.heap[(β k).b]? =ah (.map es clock):=A8
      have hget:(getObj (β k).b).run P w'=.ok (.map es clock) w':=nB
      simp [Instr.lookup,Ck u1,hr,hget,u4,Instr.findKey,Ck u3,hzq,m2]
     ·refine ⟨.bool X,λw' hw'=>?_,by simp only [R,m1],ak⟩
      have hh':w'.heap[(β k).b]? =ah (.map es clock):=A8
      have hget:(getObj (β k).b).run P w'=.ok (.map es clock) w':=nB
      have hz0:=λw=>oz u5 w
      simp [Instr.lookup,Ck u1,hr,hget,u4,Instr.findKey,Ck u3,hzq,m2,hz0]
    ·cases h
   ·cases h
  ·exact adT hW h hr hq hk
 ·exact adT hW h hr hq hk
def adg {t:aVN}{x q r:LV}{y z u:aVQ}{H':aVB}(hW:RW G w0 Z0 Z β H w) (h:(insL P H t x q r).all λr=>r=H') (hr:R β Z w x y) (hq:R β Z w q z) (hu:R β Z w r u) (hrk:okV (M H) r):
  ∃w',(Instr.mapUpdate t y z u).run P w=.ok () w'/\RW G w0 Z0 Z β H' w'/\M H'=M H/\(∀b,Z b->w'.heap[b]? =w.heap[b]?)/\DX (Dd β H<|owns x) w w':=by
 unfold insL at h;split at h
 ·rename_i k
  split at h
  ·rename_i c0 bt e l hb
   split at h
   ·rename_i e' v hs hp
    split at h
    ·rename_i he d _ hd
     obtain ⟨he⟩:=he;subst he;obtain ⟨hnm,h⟩:=h;subst h;obtain ⟨kt,et,u1,u2,u3,u4,u5⟩:=aEu hs;obtain ⟨b1,b2⟩:=hW.blk k _ hb;obtain ⟨es,clock,g1,g2,g3⟩:=b1;simp only [R] at hr hu
     have hzq:=Cq hp hq
     have hlt:=(Hp.1 g1).1
     have hget:(getObj (β k).b).run P w=.ok (.map es clock) w:=aPU
     let w':aVJ:={w with heap:=w.heap.setIfInBounds (β k).b<|.map (es.push {key:=z,val:=u,born:=clock})<|clock+1}
     have hset:(setObj (β k).b<|.map (es.push {key:=z,val:=u,born:=clock})<|clock+1).run P w=.ok () w':=aPH
     have hfn:aA (o5 e') v es.toList 0=ah none:=by
      rcases aJg hd l es.toList 0 g2 g3 with ⟨m1,_⟩ |⟨_,m2⟩
      ·grind
      ·exact m2
     have hlive:=trivial
     have hne:∀j,j≠(β k).b->w'.heap[j]? =w.heap[j]? :=λj hj=>A8
     have hZw:∀b',Z b'->w'.heap[b']? =w.heap[b']? :=λb' hz=>hne b' λe=>hW.Ct k _ hb hlive rfl<|e▸hz
     refine ⟨w',?_,?_,AI,hZw,⟨rfl,rfl,rfl,nX,λj _ hj=>hne j λe=>hj<|e▸Th hb hlive rfl⟩⟩
     ·rw [hzq] at hset
      simp [Instr.mapUpdate,Ck u1,hr,hget,u4,Instr.findKey,Ck u3,hzq,hfn,hset]
     ·refine hW.set hb hlive rfl rfl ⟨ak,ak⟩ nX ⟨rfl,rfl,rfl⟩ hne ?_
      refine ⟨es.push {key:=z,val:=u,born:=clock},clock+1,by simp [w',hlt],?_,λx hx=>?_⟩
      ·rw [Array.toList_push,KH,KH,g2]
       simp [hzq,aSx hd]
      ·rw [Array.toList_push,BZ] at hx
       rcases hx with hx|hx
       ·exact g3 x hx
       ·grind
    ·cases h
   ·cases h
  ·exact aEZ hW h hr hq hu hrk
 ·exact aEZ hW h hr hq hu hrk
def RW.agW {kd:aWh}{t:aVN}(hW:RW G w0 Z0 Z β H w):
  ∃β',(∀k,k<M H->β' k=β k)/\(β'<|M H).b=w.heap.size/\RW G w0 Z0 Z β' (H++[⟨[],t,.mp kd [] [],X⟩]) (w.alloc<|.map #[] 0)/\Below w.heap.size w (w.alloc<|.map #[] 0):=by
 have hbw:Below w.heap.size w (w.alloc<|.map #[] 0):=(Below.refl _ _).alloc (Aq _) _
 obtain ⟨β',h1,h2,h3⟩:=(hW.same hbw).Km (ℓ:=⟨w.heap.size,0,aj⟩) (nb:=⟨[],t,.mp kd [] [],X⟩) rfl ⟨ak,ak⟩ (λ_=>⟨λhz=>aP,hW.below.size,λj bj hj lj e=>TC⟩) (λβ' h1 h2=>by
  simp only [Bc,h2];refine ⟨#[],0,?_,AI,bT⟩
  show (w.heap.push _)[w.heap.size]? =_
  simp)
 grind
def RW.agV {e:Ty}{t:aVN}(hW:RW G w0 Z0 Z β H w):
  ∃β',(∀k,k<M H->β' k=β k)/\(β'<|M H).b=w.heap.size/\RW G w0 Z0 Z β' (H++[⟨[],t,.st e [],X⟩]) (w.alloc<|.map #[] 0)/\Below w.heap.size w (w.alloc<|.map #[] 0):=by
 have hbw:Below w.heap.size w (w.alloc<|.map #[] 0):=(Below.refl _ _).alloc (Aq _) _
 obtain ⟨β',h1,h2,h3⟩:=(hW.same hbw).Km (ℓ:=⟨w.heap.size,0,aj⟩) (nb:=⟨[],t,.st e [],X⟩) rfl ⟨ak,ak⟩ (λ_=>⟨λhz=>aP,hW.below.size,λj bj hj lj e=>TC⟩) (λβ' h1 h2=>by
  simp only [Bc,h2];refine ⟨#[],0,?_,AI,AI⟩
  show (w.heap.push _)[w.heap.size]? =_
  simp)
 grind
end Go.Sx
namespace Go.Sx
open Go Go.RowKit Go.Proofs.YtjdlmobanmhohaaGreatDoor
variable {P : Program} {G : B3} {Γ : Specs} {β : Nat -> Loc} {Z : Nat -> Prop} {Z0 : Gz} {w w0 : World} {F : List LV} {H : List AB} {a : Act} {ds : List Deferred}
abbrev β0:aVx->aWe:=λ_=>⟨0,0,aj⟩
def Valid (P:aVM) (G:B3) (f:aVY) (S:aVy->T LV):Prop:=
 ∀(args:aVy) (vals:aVS) (w:aVJ) (Z:aVx->Prop) (lv:LV),(∀b,Z b->b<w.heap.size)->QD G Z w->AT 0 args->RL β0 Z w args vals.toList->(S args).all (λx=>x=lv)->
  Calls P f vals w λe w'=>Below w.heap.size w w'/\∃v,e=.returned v/\okV 0 lv/\R β0 (λb=>Z b\/(w.heap.size<=b/\b<w'.heap.size)) w' lv v
mutual
def noOwn_ok {n:aVx}:∀(x:LV),noOwn x=U->okV n x->okV 0 x
 | .v _,_,_=>trivial
 | .bl _,_,_=>trivial
 | .ki _ _,_,_=>trivial
 | .own _ _,h,_=>nO
 | .agg l,h,hk=>aU
 | .AO l,h,hk=>aU
 | .fn _ l,h,hk=>aU
 | .fb _ l,h,hk=>aU
 | .xq _ _,_,hk=>aPR
 | .os ..,h,_=>nO
 | .op ..,h,_=>nO
 | .om _,h,_=>nO
 | .mp _ _ l,h,hk=>aU
 | .xl _ _,_,_=>trivial
 | .junk,_,_=>trivial
def noOwnL_ok {n:aVx}:∀(x:aVy),noOwnL x=U->AT n x->AT 0 x
 | [],_,_=>trivial
 |x::xs,h,hk=>by
  simp only [AT,noOwnL,AX] at*;exact ⟨noOwn_ok x h.1 hk.1,noOwnL_ok xs h.2 hk.2⟩
end
def aEf {t:T LV}{lv:LV}(h:(Qz t).all λx=>x=lv):t.all (λx=>x=lv)/\SY lv=true:=by
 induction t with
 |ok x=>
  simp only [Qz] at h;split at h
  ·rename_i hp;simp only [T.all] at h|-;subst h;exact ⟨rfl,hp⟩
  ·cases h
 |br b t e iht ihe=>
  cases b with
  |true=>obtain ⟨h1,h2⟩:=iht<|h.1 rfl;exact ⟨⟨λ_=>h1,λhb=>Ll⟩,h2⟩
  |false=>obtain ⟨h1,h2⟩:=ihe<|h.2 rfl;exact ⟨⟨λhb=>Ll,λ_=>h1⟩,h2⟩
 |req p t ih=>
  obtain ⟨h1,h2⟩:=ih h.2;exact ⟨⟨h.1,h1⟩,h2⟩
 |no=>cases h
def PD (G:B3) (F:aVy) (β:aVx->aWe) (H:aVB) (o:aVP):aVC:=Dd β H<|Er G F o
def Post (ds:aWd) (G:B3) (w0:aVJ) (Z0:Gz) (F:aVy) (a:aVX) (β:aVx->aWe) (H:aVB) (w:aVJ) (o:aVP) (lv:LV) (H':aVB) (v:aVQ) (w':aVJ):Prop:=
 ∃Z' β',RW G w0 Z0 Z' β' H' w'/\RF ds β' Z' w' (M H') F a/\R β' Z' w' lv v/\okV (M H') lv/\
  (M H)<=M H'/\(∀k,k<M H->β' k=β k)/\(∀k,M H<=k->k<M H'->w.heap.size<=(β' k).b\/(β' k).b∈PD G F β H o)/\DX (PD G F β H o) w w'
def Nc {tr:aVC}{w w':aVJ}(h:Below w.heap.size w w'):DX tr w w':=⟨h.os,h.tape,h.output,h.size,λk hk _=>h.block k hk⟩
def aEd {o:aVP}{lv:LV}{v:aVQ}(hW:RW G w0 Z0 Z β H w) (hF:RF ds β Z w (M H) F a) (hrun:(execOp a.eval o).run P w=.ok (.value v) w) (hr:R β Z w lv v) (hk:okV (M H) lv):
  Dn P (Post ds G w0 Z0 F a β H w o lv H) ((execOp a.eval o).run P w):=by
 rw [hrun];exact ⟨Z,β,hW,hF,hr,hk,Aq _,λ_ _=>rfl,λk h1 h2=>A0,DX.refl _ _⟩
def aDl {α:Type}{s:Sem α}{x:α}(h:J9 P s=ah x):∀w',s.run P w'=.ok x w':=λw'=>cV w' h
mutual
def eqV_run:∀(d:aVx) (t:aVN) (x y:aVQ) (b:aVH),eqV P d t x y=ah b->∀(e:aVx) (w:aVJ),(Go.Op.equalIn (d+e) t x y).run P w=.ok b w
 |0,_,_,_,_,h=>by simp [eqV] at h
 | d+1,t,x,y,b,h=>λe w=>by
  rw [Nat.add_right_comm];simp only [eqV] at h;split at h
  ·rename_i k0 k a k' c hu
   split at h
   ·rename_i hk
    subst hk;simp only [Ah] at h;subst h;exact run_equalIn_int w _ t k k0 a c hu
   ·cases h
  ·rename_i a c hu
   simp only [Ah] at h;subst h;exact run_equalIn_bool w _ t a c hu
  ·rename_i a c hu
   simp only [Ah] at h;subst h;rw [run_equalIn_string w _ t a c hu,beq_toListBytes]
  ·rename_i fs xs ys hu
   split at h
   ·cases h
   ·rename_i hs
    have hf:P.fieldsOf t=fs:=by simp [Program.fieldsOf,hu]
    rw [run_equalIn_struct w _ t xs ys (by rw [hf];exact hu) (by simpa using hs),hf]
    simp only [Option.map_eq_some_iff] at h;obtain ⟨l,h1,h2⟩:=h;rw [<-h2];exact eqFs_run d xs ys fs.toList l h1 e w
  ·cases h
def eqFs_run:∀(d:aVx) (xs ys:aVS) (fs:aWF) (l:aV1),eqFs P d xs ys fs=ah l->∀(e:aVx) (w:aVJ),(Go.Op.eqFields (d+e) xs ys fs).run P w=.ok (VW l) w
 |d,xs,ys,[],l,h=>λe w=>by
  have:l=[]:=by cases d<;>simpa [eqFs] using h.symm
  subst this
  simp [Go.Op.eqFields,VW]
 |0,xs,ys,f::fs,l,h=>by simp [eqFs] at h
 | d +1,xs,ys,f::fs,l,h=>λe w=>by
  simp only [eqFs] at h;split at h
  ·cases h
  ·rename_i hn
   split at h
   ·rename_i x y hx hy
    split at h
    ·rename_i p ps hp hps
     simp only [Ah] at h;subst h
     have e1:=aDl hx w
     have e2:=aDl hy w
     have e3:=eqV_run d f.type x y p hp (1+e) w
     have e4:=eqFs_run d xs ys fs ps hps (1+e) w
     rw [<-Hq] at e3 e4;simp only [Go.Op.eqFields,hn,ne_eq,not_false_eq_true,Bp,mJ,e1,e2,e3,lr,Sem.run_ite,xY,e4];cases p with
     |false=>cases ps<;>simp [VW]
     |true=>cases ps<;>simp [VW]
    ·cases h
   ·cases h
end
def afm {o:aVP}{e:aWc->aVQ}{y:aVQ}(h:R5 P o.op e=ah (ah y)) (w:aVJ):(execOp e o).run P w=.ok (.value y) w:=by
 unfold R5 at h;split at h
 ·rename_i op t x z t' ho
  split at h
  ·rename_i neg hneg
   split at h
   ·rename_i xs ys hx hy
    split at h
    ·rename_i g1 b g2 g3
     have e1:=aDl g2 w
     have e2:=eqV_run 100 t _ _ b g3 9900 w
     simp only [Ah] at h;unfold aT1 at hneg;split at hneg
     ·simp only [Ah] at hneg
      subst hneg h
      simp [execOp,ho,hx,hy,e1,run_eql_struct,e2]
     ·simp only [Ah] at hneg
      subst hneg h
      simp [execOp,ho,hx,hy,e1,run_neq_struct,e2]
     ·cases hneg
    ·cases h
   ·cases h
  ·cases h
 ·cases h
def aFn {o:aVP}{e:aWc->aVQ}{y:aVQ}(h:Oe P o e=ah y) (w:aVJ):(execOp e o).run P w=.ok (.value y) w:=by
 unfold Oe at h;split at h
 ·rename_i r hr
  subst h;exact afm hr w
 ·split at h
  ·rename_i z hz
   simp only [Ah] at h;subst h;exact cV w hz
  ·cases h
def aLU (y:aVQ):R β Z w (kn y) y:=by cases y<;>simp only [kn,R]
def aal {n:aVx}(y:aVQ):okV n (kn y):=by cases y<;>trivial
def aej {o:aVP}{lv:LV}(hsel:∀cs b,o.op≠ .select cs b) (hW:RW G w0 Z0 Z β H w) (hF:RF ds β Z w (M H) F a) (h:(Dq P G F o).all λx=>x=lv):
  Dn P (Post ds G w0 Z0 F a β H w o lv H) ((execOp a.eval o).run P w):=by
 unfold Dq at h;split at h
 ·rename_i hpl
  split at h
  ·rename_i y hy
   have hcong:execOp a.eval o=execOp (λx=>(pl<|AM G F x).getD undef) o:=mF o hsel λx hx=>by
    have h1:=BH.1 hpl x A8
    obtain ⟨z,hz⟩:=Zu.1 h1;rw [hz];exact Cq hz (hF.eval hW.Cl x).1
   refine aEd hW hF (v:=y) ?_ ?_ ?_
   ·rw [hcong];exact aFn hy w
   ·rw [<-h]
    split
    ·exact aLU y
    ·exact Dz
   ·rw [<-h]
    split
    ·exact aal y
    ·trivial
  ·cases h
 ·cases h
def adZ {c x y lv:LV}{vc vx vy:aVQ}{n:aVx}(h:(j6 c x y).all λz=>z=lv) (hc:R β Z w c vc) (hx:R β Z w x vx) (hy:R β Z w y vy) (kx:okV n x) (ky:okV n y):
  ∃g,vc=.bool g/\R β Z w lv (if g then vx else vy)/\okV n lv:=by
 unfold j6 at h;split at h
 ·simp only [T.all] at h;subst h;exact ⟨U,hc,hx,kx⟩
 ·simp only [T.all] at h;subst h;exact ⟨X,hc,hy,ky⟩
 ·rename_i g
  refine ⟨g,hc,?_⟩
  have hx':=PH hx
  have hy':=PH hy
  split at h
  ·rename_i h1 h2
   split at h
   ·rename_i hk;simp only [T.all] at h;subst h hk;rw [h1] at hx';rw [h2] at hy';simp only [R] at hx' hy'|-;subst hx' hy';exact ⟨A8,ak⟩
   ·cases h
  ·rename_i h1 h2
   simp only [T.all] at h;subst h;rw [h1] at hx';rw [h2] at hy';simp only [R] at hx' hy'|-;subst hx' hy';exact ⟨A8,ak⟩
  ·simp only [T.all] at h
   cases g with
   |true=>have:=h.1 rfl;subst this;exact ⟨hx,kx⟩
   |false=>have:=h.2 rfl;subst this;exact ⟨hy,ky⟩
 ·cases h
def aEn {t:aVN}{l:aVy}{lv:LV}{ys:aVS}{i n:aVx}(h:(wh P t l i).all λz=>z=lv) (hr:RL β Z w l ys.toList) (hk:AT n l):
  ∃z,(∀w',(Instr.field t (.agg ys) i).run P w'=.ok z w')/\R β Z w lv z/\okV n lv:=by
 unfold wh at h;split at h
 ·rename_i fs hu
  split at h
  ·rename_i f hf
   split at h
   ·rename_i m ha hs
    split at h
    ·simp only [T.all] at h
     subst h;refine ⟨.agg<|ys.extract f.offset<|f.offset+m,λw'=>?_,WT ?_,Qk<|hk.take_drop _ _⟩
     ·simp [Instr.field,Ck hu,hf,asAgg,part,cw ha,run_sizeOf hs]
     ·have:=hr.take_drop f.offset m
      simp_all
    ·cases h
   ·rename_i ha
    split at h
    ·rename_i y hy
     subst h;obtain ⟨z,e4,e5⟩:=RL.get _ _ hr hy
     have e6:ys[f.offset]? =ah z:=A8
     refine ⟨z,λw'=>?_,e5,AT.get _ _ hk hy⟩
     simp [Instr.field,Ck hu,hf,asAgg,part,cw ha,e6]
    ·cases h
   ·cases h
  ·cases h
 ·cases h
def adI {s:aVN}{x lv:LV}{y:aVQ}{i n:aVx}(h:(XD P s x i).all λz=>z=lv) (hr:R β Z w x y) (hk:okV n x):
  ∃z,(∀w',(Instr.fieldAt s y i).run P w'=.ok z w')/\R β Z w lv z/\okV n lv:=by
 unfold XD at h;split at h
 ·rename_i fs hu
  split at h
  ·rename_i f hf
   split at h
   ·rename_i m hsz
    have e1:=λw=>run_sizeOf hsz w
    split at h
    ·rename_i k off
     simp only [R] at hr;refine ⟨.pointer<|ah ⟨(β k).b,off+f.offset,aj⟩,λw'=>?_,?_,?_⟩
     ·simp [Instr.fieldAt,Ck hu,hf,Instr.sureAddr,hr,fieldPlace,e1,addr_add]
     ·rw [<-h];simp only [R]
     ·rw [<-h];simpa only [okV] using hk
    ·rename_i k es i' j
     obtain ⟨hcap,hr⟩:=hr;refine ⟨.pointer<|ah ⟨(β k).b,(β k).o+i'*es+(j+f.offset),aj⟩,λw'=>?_,?_,?_⟩
     ·simp [Instr.fieldAt,Ck hu,hf,Instr.sureAddr,hr,fieldPlace,e1,addr_add,Hq]
     ·rw [<-h];simp only [R];exact ⟨hcap,ak⟩
     ·rw [<-h];simpa only [okV] using hk
    ·rename_i q g
     split at h
     ·rename_i hle
      obtain ⟨b,off,h1,h2,h3⟩:=hr;refine ⟨.pointer<|ah ⟨b,off+f.offset,aj⟩,λw'=>?_,?_,?_⟩
      ·simp [Instr.fieldAt,Ck hu,hf,Instr.sureAddr,h1,fieldPlace,e1,addr_add]
      ·rw [<-h]
       refine ⟨b,off+f.offset,rfl,h2,λj hj=>?_⟩
       have:=h3 (f.offset+j) A0
       grind
      ·rw [<-h];simp only [okV] at hk|-;exact λj=>hk _
     ·cases h
    ·cases h
   ·cases h
  ·cases h
 ·cases h
def cX {n:Y}{g:aVx->LV}{lv:LV}:∀(m j:aVx),(chain n g m j).all (λz=>z=lv)->∃i,j<=i/\i<j+m/\n=(i:Y)/\lv=g i
 |0,j,h=>Ar
 | m+1,j,h=>by
  simp only [chain,T.all] at h
  by_cases hn:n=(j:Y)
  ·grind
  ·obtain ⟨i,h1,h2,h3,h4⟩:=cX m (j+1) (h.2 A8)
   grind
def aEj {x:LV}{y:aVQ}{l:aVy}{n:aVx}(h:xC x=ah l) (hr:R β Z w x y) (hk:okV n x):∃ys:aVS,y=.agg ys/\RL β Z w l ys.toList/\AT n l:=by
 unfold xC at h;split at h
 ·obtain rfl:=ED h
  obtain ⟨ys,e1,e2⟩:=hr;exact ⟨ys,e1,e2,hk⟩
 ·rename_i ys
  obtain rfl:=ED h;exact ⟨ys,hr,V7 _,U2 _ _⟩
 ·cases h
def aEa {t:aVN}{l:aVy}{q lv:LV}{ys:aVS}{z:aVQ}{n:aVx}(h:(wY P t l q).all λr=>r=lv) (hr:RL β Z w l ys.toList) (hk:AT n l) (hq:R β Z w q z):
  ∃v,(∀w',(Instr.index t (.agg ys) z).run P w'=.ok v w')/\R β Z w lv v/\okV n lv:=by
 unfold wY at h;split at h
 ·rename_i len e k j hu
  split at h
  ·rename_i y ha hs hy
   split at h
   ·rename_i hb
    subst h;simp only [R] at hq;obtain ⟨v,e4,e5⟩:=RL.get _ _ hr hy
    have e6:ys[j.toNat]? =ah v:=A8
    refine ⟨v,λw'=>?_,e5,AT.get _ _ hk hy⟩
    simp [Instr.index,hq,asIntOf,Ck hu,hb.1,hb.2,part,cw ha,run_sizeOf hs,e6]
   ·cases h
  ·cases h
 ·cases h
def aDb {t:aVN} {x q lv:LV} {y z:aVQ} {c:aVH} {N:aVx} (h:(Tx P t x c q).all λr=>r=lv) (hr:R β Z w x y) (hq:R β Z w q z) (hk:okV N x):
  ∃v,(∀w',(Instr.indexAt t y z).run P w'=.ok v w')/\R β Z w lv v/\okV N lv:=by
 unfold Tx at h;simp only [avQ] at h;split at h
 ·rename_i kd n hpl
  have hz:=Cq hpl hq
  split at h
  ·rename_i len e hu
   split at h
   ·rename_i m hsz
    have e1:=λw=>run_sizeOf hsz w
    have fin:∀(b off i:aVx),i<len->n=(i:Y)->y=.pointer (ah ⟨b,off,aj⟩)->∀w',(Instr.indexAt t y z).run P w'=.ok (.pointer<|ah ⟨b,off+i*(m+1),aj⟩) w':=λb off i hi hn hy w'=>by
     have h0:(0:Y)<=n:=A0
     have h1:n<(len:Y):=A0
     have h2:n.toNat=i:=A0
     simp [Instr.indexAt,hz,asIntOf,Ck hu,hy,Instr.sureAddr,h0,h1,e1,addr_add,h2]
    have own:∀(k off i:aVx),i<len->n=(i:Y)->R β Z w (.own k off) y->okV N (.own k off)->lv=.own k (off+i*(m+1))->∃v,(∀w',(Instr.indexAt t y z).run P w'=.ok v w')/\R β Z w lv v/\okV N lv:=λk off i hi hn hr hk hl=>by
     simp only [R] at hr;refine ⟨_,fin _ _ i hi hn hr,?_,?_⟩
     ·rw [hl];simp only [R]
     ·exact yO
    have opp:∀(k es i' j i:aVx),i<len->n=(i:Y)->R β Z w (.op k es i' j) y->okV N (.op k es i' j)->lv=.op k es i' (j+i*(m+1))->∃v,(∀w',(Instr.indexAt t y z).run P w'=.ok v w')/\R β Z w lv v/\okV N lv:=λk es i' j i hi hn hr hk hl=>by
     simp only [R] at hr;refine ⟨_,fin _ _ i hi hn hr.2,?_,?_⟩
     ·rw [hl];simp only [R,Hq];exact ⟨hr.1,ak⟩
     ·exact yO
    have ext:∀(q:aVx) (g:aVx->LV) (i:aVx),i<len->len*(m+1)<=q->n=(i:Y)->R β Z w (.xq q g) y->okV N (.xq q g)->lv=.xq (m+1) (λj=>g<|i*(m+1)+j)->∃v,(∀w',(Instr.indexAt t y z).run P w'=.ok v w')/\R β Z w lv v/\okV N lv:=λq g i hi hle hn hr hk hl=>by
     simp only [R] at hr;obtain ⟨b,off,h1,h2,h3⟩:=hr;refine ⟨_,fin _ _ i hi hn h1,?_,?_⟩
     ·rw [hl]
      simp only [R];refine ⟨b,_,rfl,h2,λj hj=>?_⟩
      have hm:i*(m+1)+(m+1)<=len*(m+1):=by
       have:=NT (m+1) (show i+1<=len by omega)
       rwa [GF,T5] at this
      have:=h3 (i*(m+1)+j) A0
      rwa [<-Hq] at this
     ·rw [hl];simp only [okV] at hk|-;exact λj=>hk _
    split at h
    ·rename_i k es i' j
     split at h
     ·split at h
      ·rename_i hb
       simp only [T.all] at h;exact opp k es i' j n.toNat A0 A0 hr hk h.symm
      ·cases h
     ·obtain ⟨i,_,h2,h3,h4⟩:=cX _ _ h
      exact opp k es i' j i A0 h3 hr hk h4
    ·rename_i k off
     split at h
     ·split at h
      ·rename_i hb
       simp only [T.all] at h;exact own k off n.toNat A0 A0 hr hk h.symm
      ·cases h
     ·obtain ⟨i,_,h2,h3,h4⟩:=cX _ _ h
      exact own k off i A0 h3 hr hk h4
    ·rename_i q g
     split at h
     ·rename_i hle
      split at h
      ·split at h
       ·rename_i hb
        simp only [T.all] at h;exact aNL
       ·cases h
      ·split at h
       ·obtain ⟨i,_,h2,h3,h4⟩:=cX _ _ h
        exact ext q g i A0 hle h3 hr hk h4
       ·simp only [T.all] at h
        obtain ⟨⟨b1,b2⟩,h⟩:=h;exact aNL
     ·cases h
    ·cases h
   ·cases h
  ·rename_i e hu
   split at h
   ·rename_i m e' l hsz
    split at h
    ·rename_i hes
     simp only [T.all] at h;obtain ⟨⟨h0,h1⟩,h2⟩:=h;simp only [R] at hr;obtain ⟨ad,cap,g1,gc,g2⟩:=hr;obtain ⟨b,off,g3,g4,g5⟩:=g2 A0
     have e1:=λw=>run_sizeOf hsz w
     have hlt:n.toNat<M l:=A0
     have hgx:l[n.toNat]? =ah (gx l n):=A8
     have g6:=g5 n.toNat _ hgx
     refine ⟨.pointer<|ah ⟨b,off+n.toNat*(m+1),aj⟩,λw'=>?_,?_,?_⟩
     ·simp [Instr.indexAt,hz,asIntOf,Ck hu,g1,g3,h0,h1,e1,addr_add]
     ·rw [<-h2]
      simp only [R];refine ⟨b,_,rfl,g4,λj hj=>?_⟩
      rw [hes] at g6
      have hjl:j<M (Br e'<|gx l n):=zP
      exact XE e' _ b _ g6 j _<|getD_lt hjl
     ·rw [<-h2]
      simp only [okV];exact λj=>fO (No 0 e' _) j
    ·cases h
   ·rename_i m k es off len hsz
    split at h
    ·rename_i hes
     simp only [T.all] at h;obtain ⟨⟨h0,h1⟩,h2⟩:=h
     have e1:=λw=>run_sizeOf hsz w
     simp only [R] at hr;split at hr
     ·obtain ⟨rfl,_,_⟩:=hr
      exact absurd h1 DJ
     ·rename_i c hcap
      obtain ⟨g1,ad,g2,g3⟩:=hr
      have g3:=g3 A0
      refine ⟨.pointer<|ah ⟨(β k).b,(β k).o+(off+n.toNat)*es+0,aj⟩,λw'=>?_,?_,?_⟩
      ·simp [Instr.indexAt,hz,asIntOf,Ck hu,g2,g3,h0,h1,e1,addr_add,hes,GF,Hq]
      ·rw [<-h2];simp only [R];exact ⟨by rw [hcap];simp,ak⟩
      ·rw [<-h2];simpa only [okV] using hk
    ·cases h
   ·rename_i m k es off len cp hsz
    split at h
    ·rename_i hes
     have e1:=λw=>run_sizeOf hsz w
     have own:∀(i:aVx),i<len->n=(i:Y)->lv=.own k ((off+i)*(m+1))->∃v,(∀w',(Instr.indexAt t y z).run P w'=.ok v w')/\R β Z w lv v/\okV N lv:=λi hi hn hl=>by
      simp only [R] at hr;obtain ⟨g1,ad,g2,g3⟩:=hr
      have g3:=g3 A0
      have h0:(0:Y)<=n:=A0
      have h1:n<(len:Y):=A0
      have h2:n.toNat=i:=A0
      refine ⟨.pointer<|ah ⟨(β k).b,(off+i)*(m+1),aj⟩,λw'=>?_,?_,?_⟩
      ·simp [Instr.indexAt,hz,asIntOf,Ck hu,g2,g3,h0,h1,e1,addr_add,hes,GF,h2]
      ·rw [hl];simp only [R]
      ·exact yO
     split at h
     ·split at h
      ·rename_i hb
       simp only [T.all] at h;exact own n.toNat A0 A0 h.symm
      ·cases h
     ·obtain ⟨i,_,h2,h3,h4⟩:=cX _ _ h
      exact own i A0 h3 h4
    ·cases h
   ·cases h
  ·cases h
 ·cases h
def aGh (off:aVx):∀(l:aVO) (s:aVx) (zs:aVS) (i:aVx),off+s+M l<=zs.size->
  ((l.zipIdx s).foldl (λ(cs:aVS) p=>cs.setIfInBounds (off+p.2) p.1) zs).size=zs.size/\
  ((l.zipIdx s).foldl (λ(cs:aVS) p=>cs.setIfInBounds (off+p.2) p.1) zs)[i]? =if off+s<=i/\i<off+s+M l then l[i-(off+s)]? else zs[i]?
 | [],s,zs,i,_=>by simp;intro h1 h2;omega
 | x::xs,s,zs,i,h=>by
  simp only [List.zipIdx_cons,KI];obtain ⟨h1,h2⟩:=aGh off xs (s+1) (zs.setIfInBounds (off+s) x) i A8;refine ⟨A8,?_⟩;rw [h2];simp only [Bk] at h|-
  by_cases hi:i=off+s
  ·subst hi
   rw [AE A0,AD A0,Array.getElem?_setIfInBounds,AD rfl,AD A0]
   simp
  ·by_cases hr:off+(s+1)<=i/\i<off+(s+1)+M xs
   ·rw [AD hr,AD A0]
    grind
   ·rw [AE hr,AE A0]
    grind
def afE (off:aVx) (vs zs:aVS) (h:off+vs.size<=zs.size):
  (vs.zipIdx.foldl (λ(cs:aVS) (p:Value×Nat)=>cs.setIfInBounds (off+p.2) p.1) zs).toList=zs.toList.take off++vs.toList++zs.toList.drop (off+M vs.toList):=by
 have e:vs.zipIdx.foldl (λ(cs:aVS) (p:Value×Nat)=>cs.setIfInBounds (off+p.2) p.1) zs=(vs.toList.zipIdx 0).foldl (λ(cs:aVS) p=>cs.setIfInBounds (off+p.2) p.1) zs:=by
  rw [<-Array.foldl_toList];simp
 rw [e]
 apply List.ext_getElem?
 intro i
 have:=(aGh off vs.toList 0 zs i A8).2
 rw [Array.getElem?_toList,this];simp only [Zw,xt]
 by_cases h1:i<off
 ·grind
 ·by_cases h2:i<off+vs.size
  ·rw [AD A0,Cx,Gc A8,Ho A8]
   grind
  ·rw [AE A0,Gc A8,FO]
   simp
   congr 1
   omega
def cW {place:aVx->aWx}{n:aVx}:∀(pl:aV2) (pv:List<|Nat×Value) (cells cs:aVy) (zs:aVS),Kq place cells pl=ah cs->pv.map (·.1)=pl.map (·.1)->
  RL β Z w (pl.map (·.2)) (pv.map (·.2))->AT n (pl.map (·.2))->RL β Z w cells zs.toList->AT n cells->∃zs',Instr.fill place zs pv=ah zs'/\RL β Z w cs zs'.toList/\AT n cs
 | [],pv,cells,cs,zs,h,hp,hr,_,hc,hok=>by
  simp only [Kq,Ah] at h;subst h
  have:pv=[]:=GH
  subst this;exact ⟨zs,rfl,hc,hok⟩
 | (i,x)::rest,pv,cells,cs,zs,h,hp,hr,hk,hc,hok=>by
  cases pv with
  |nil=>simp at hp
  | cons q qs=>
   obtain ⟨i',v⟩:=q;simp only [ET,Ht] at hp;obtain ⟨rfl,hp'⟩:=hp;obtain ⟨y,ys,e1,e2,e3⟩:=hr;obtain ⟨rfl,rfl⟩:=e1;simp only [Kq] at h;split at h
   ·rename_i off size c hpl hcl
    split at h
    ·rename_i hle
     obtain ⟨c1,c2⟩:=qC hcl e2
     have c3:=pX hcl hk.1
     have l1:=RL.length c1
     have l2:=RL.length hc
     have hle2:off+v.cells.size<=zs.size:=A8
     have hset:=afE off v.cells zs hle2
     have hrl:=RL.setAt hc c1 off
     rw [<-hset] at hrl;obtain ⟨zs',f1,f2,f3⟩:=cW rest qs _ cs _ h hp' e3 hk.2 hrl<|AT.setAt hok c3 off;refine ⟨zs',?_,f2,f3⟩;simp only [Instr.fill,hpl]
     grind
    ·cases h
   ·cases h
def adJ {t:aVN}{pl:aV2}{pv:aWs}{lv:LV}{n:aVx}(h:(Nz P t pl).all λz=>z=lv) (hp:pv.toList.map (·.1)=pl.map (·.1)) (hr:RL β Z w (pl.map (·.2))<|pv.toList.map (·.2)) (hk:AT n<|pl.map (·.2)):
  ∃v,(∀w',(Instr.build t pv).run P w'=.ok v w')/\R β Z w lv v/\okV n lv:=by
 unfold Nz at h;split at h
 ·rename_i z pf hz hpf
  split at h
  ·rename_i cs hcs
   obtain ⟨zs',f1,f2,f3⟩:=cW (β:=β) (Z:=Z) (w:=w) (n:=n) pl pv.toList _ cs z.cells hcs hp hr hk (V7 _)<|U2 _ _;refine ⟨.agg zs',λw'=>run_build w' t pv zs' ?_,?_,?_⟩
   ·unfold Ic at hz
    unfold aQE at hpf;unfold Program.built;cases hi:P.info? t with
    |none=>simp [hi] at hz
    | some it=>
     simp only [hi,On] at hz;split at hpf
     ·rename_i fields hu
      cases hm:fields.toList.mapM (λf=>(P.info? f.type).map λi=>(f.offset,i.size)) with
      |none=>simp [hm] at hpf
      |some ps=>
       simp only [hm,Jk,Ah] at hpf;simp only [hu,hz,hm];rw [<-hpf] at f1;exact f1
     ·rename_i e hu
      cases hm:P.info? e with
      |none=>simp [hm] at hpf
      |some ie=>
       simp only [hm,Jk,Ah] at hpf;simp only [hu,hz,hm];rw [<-hpf] at f1;exact f1
     ·cases hpf
   ·rw [<-h]
    split
    ·simp only [R];exact ⟨zs',rfl,f2⟩
    ·exact WT f2
   ·rw [<-h]
    split
    ·exact f3
    ·exact Qk f3
  ·cases h
 ·cases h
def fc {x:aWc}{y:aVQ}{n:aVx}(h:R β Z w (AM G F x) y/\okV n (AM G F x)):R β Z w (I1 G F x) y/\okV n (I1 G F x):=by
 cases x with
 |const v=>exact ⟨PH h.1,Tc h.2⟩
 |tmp t=>exact h
 |global g=>exact h
 |func f=>exact h
def wO (e:Ty):∀(n:aVx) (cs:aVy) (l:List e.D) (ys:aVO),bp e n cs=ah l->RL β Z w cs ys->M l=n/\∀(Z':aVx->Prop) (w':aVJ) (b o:aVx),(∀b,Z b->Z' b)->(∀b,Z b->w'.heap[b]? =w.heap[b]?)->(∀(j:aVx) v,ys[j]? =ah v->w'.cell? ⟨b,o+j,aj⟩=ah v)->∀(i:aVx) (d:e.D),l[i]? =ah d->RD Z' w' e d b (o+i*e.n)
 |0,cs,l,ys,h,hr=>by
  simp only [bp,Ah] at h
  grind
 | n +1,cs,l,ys,h,hr=>by
  simp only [bp] at h;split at h
  ·rename_i d r hd hr'
   simp only [Ah] at h;subst h
   have h1:RL β Z w (cs.take e.n) (ys.take e.n):=by simpa using hr.take_drop 0 e.n
   have h2:RL β Z w (cs.drop e.n) (ys.drop e.n):=by
    refine RL.CZ (by simp [RL.length hr]) λi z hz=>?_
    rw [FO] at hz|-;exact RL.get _ _ hr hz
   obtain ⟨k1,k2⟩:=wO e n _ r _ hr' h2;refine ⟨A8,λZ' w' b o hZ hw hc i d' hd'=>?_⟩
   cases i with
   |zero=>
    simp at hd'
    subst hd';rw [mE,Zw];refine wP hZ hw e _ d _ hd h1 b o λj v hv=>?_
    rw [Lg] at hv;split at hv
    ·grind
    ·cases hv
   | succ i=>
    have:=k2 Z' w' b (o+e.n) hZ hw (λj v hv=>by
     rw [FO] at hv
     have:=hc (e.n+j) v hv
     rwa [<-Hq] at this) i d' hd'
    grind
  ·cases h
def aEV {t:aVN}{len:aVx}{pl:aV2}{pv:aWs}{lv:LV}{n:aVx}(h:(LC P t len pl).all λz=>z=lv) (hp:pv.toList.map (·.1)=pl.map (·.1)) (hr:RL β Z w (pl.map (·.2))<|pv.toList.map (·.2)) (hk:AT n<|pl.map (·.2)):
  ∃elem cells,(∀w',(Instr.buildSlice t len pv).run P w'=.ok (.slice (ah ⟨w'.heap.size,0,aj⟩) len len) (w'.alloc<|.cells cells elem))/\
   (∀(β':aVx->aWe) (Z':aVx->Prop) (w':aVJ) (b:aVx),(∀b,Z b->Z' b)->(∀b,Z b->w'.heap[b]? =w.heap[b]?)->(∀(j:aVx) v,cells.toList[j]? =ah v->w'.cell? ⟨b,0+j,aj⟩=ah v)->Z' b->R β' Z' w' lv (.slice (ah ⟨b,0,aj⟩) len len))/\okV n lv:=by
 unfold LC at h;split at h
 ·rename_i e hu
  split at h
  ·rename_i ty m z hty hsz hz
   split at h
   ·rename_i hcond
    split at h
    ·rename_i cs hcs
     split at h
     ·rename_i l hl
      have hz0:RL β Z w ((au<|len*m).map λi=>LV.v<|z.cells[i%z.cells.size]!) ((Array.range<|len*m).map λi=>z.cells[i%z.cells.size]!).toList:=by
       exact xz
      have hok0:AT n ((au<|len*m).map λi=>LV.v<|z.cells[i%z.cells.size]!):=by
       exact aMN
      obtain ⟨zs',f1,f2,f3⟩:=cW (β:=β) (Z:=Z) (w:=w) (n:=n) pl pv.toList _ cs _ hcs hp hr hk hz0 hok0;obtain ⟨k1,k2⟩:=wO ty len cs l _ hl f2;refine ⟨e,zs',λw'=>?_,λβ' Z' w' b hZ hw hc hzb=>?_,by rw [<-h];trivial⟩
      ·exact yA
      ·rw [<-h]
       refine ⟨_,len,by rw [k1],A0,λ_=>⟨b,0,rfl,hzb,λi d hd=>?_⟩⟩
       exact k2 Z' w' b 0 hZ hw hc i d hd
     ·cases h
    ·cases h
   ·cases h
  ·cases h
 ·cases h
def aFW {place:aVx->aWx}:∀ {pl:aV2}{cells cs:aVy},Kq place cells pl=ah cs->M cs=M cells
 | [],cells,cs,h=>by
  simp only [Kq,Ah] at h;rw [h]
 | (i,x)::rest,cells,cs,h=>by
  simp only [Kq] at h;split at h
  ·split at h
   ·rename_i off size c _ _ hcond
    rw [aFW h];simp only [setAt,BI,MT,FN];omega
   ·cases h
  ·cases h
def aoq {t e:aVN}{ty:Ty}{l:List ty.D}{len:aVx}{pl:aV2}{pv:aWs}{n:aVx}(hu:P.underlying t=ah (.slice e)) (h:(LC P t len pl).all λz=>z=.xl ty l) (hp:pv.toList.map (·.1)=pl.map (·.1)) (hr:RL β Z w (pl.map (·.2))<|pv.toList.map (·.2)) (hk:AT n<|pl.map (·.2)):
  ∃cells:aVS,(∀w',(Instr.buildSlice t len pv).run P w'=.ok (.slice (ah ⟨w'.heap.size,0,aj⟩) len len) (w'.alloc<|.cells cells e))/\M l=len/\cells.size=len*ty.n/\
   (∀(w':aVJ) (b:aVx),(∀b,Z b->w'.heap[b]? =w.heap[b]?)->(∀(j:aVx) v,cells.toList[j]? =ah v->w'.cell? ⟨b,0+j,aj⟩=ah v)->∀(i:aVx) (d:ty.D),l[i]? =ah d->RD Z w' ty d b (0+i*ty.n)):=by
 unfold LC at h;rw [hu] at h;simp only at h;split at h
 ·rename_i ty0 m z hty hsz hz
  split at h
  ·rename_i hcond
   split at h
   ·rename_i cs hcs
    split at h
    ·rename_i l0 hl
     simp only [T.all,LV.xl.injEq] at h;obtain ⟨rfl,h⟩:=h;obtain rfl:=eq_of_heq h
     have hz0:RL β Z w ((au<|len*m).map λi=>LV.v<|z.cells[i%z.cells.size]!) ((Array.range<|len*m).map λi=>z.cells[i%z.cells.size]!).toList:=by
      exact xz
     have hok0:AT n ((au<|len*m).map λi=>LV.v<|z.cells[i%z.cells.size]!):=by
      exact aMN
     obtain ⟨zs',f1,f2,f3⟩:=cW (β:=β) (Z:=Z) (w:=w) (n:=n) pl pv.toList _ cs _ hcs hp hr hk hz0 hok0;obtain ⟨k1,k2⟩:=wO ty0 len cs l0 _ hl f2
     have hcl:=aFW hcs
     have hsz2:zs'.size=len*m:=by
      have:=RL.length f2
      grind
     refine ⟨zs',λw'=>?_,k1,A8,λw' b hw hc i d hd=>k2 Z w' b 0 (λ_ h=>h) hw hc i d hd⟩
     exact yA
    ·cases h
   ·cases h
  ·cases h
 ·cases h
def aes {t:aVN}{len:aVx}{vs:aV2}{pv:aWs}{lv:LV}{H':aVB}(hW:RW G w0 Z0 Z β H w) (h:(bg P H t len vs).all λq=>q=(lv,H')) (hp:pv.toList.map (·.1)=vs.map (·.1))
  (hargs:RL β Z w (vs.map (·.2))<|pv.toList.map (·.2)) (hoka:AT (M H)<|vs.map (·.2)):
  ∃w' v Z' β',(Instr.buildSlice t len pv).run P w=.ok v w'/\Below w.heap.size w w'/\(∀b,Z b->Z' b)/\(∀k,k<M H->β' k=β k)/\RW G w0 Z0 Z' β' H' w'/\R β' Z' w' lv v/\okV (M H') lv/\M H'=M H+1/\(β'<|M H).b=w.heap.size:=by
 unfold bg at h;split at h
 ·rename_i hcl
  obtain ⟨y,h1,h2⟩:=T.B5 h;obtain ⟨_,hg,h1⟩:=T.B5 h1;split at h2
  ·rename_i e ty l hu _
   obtain ⟨rfl,rfl⟩:=h2
   have hG:=T.Bb (K':=λ_=>True) (λ_ _=>trivial) hg
   obtain ⟨c1,c2⟩:=TE hcl
   have hP:=hW.pub<|reach H 64 (ownsL<|vs.map (·.2)) []
   have hH:=λk b hb=>(hW.blk k b hb).2
   have hr0:RL β (ZP Z β H λk=>k∈reach H 64 (ownsL<|vs.map (·.2)) []) w ((vs.map (·.2)).map<|C3 H 6) (pv.toList.map (·.2)):=
    Td (S:=λk=>k∈reach H 64 (ownsL<|vs.map (·.2)) []) hargs hoka c1 (λx y hm hs hx hr=>Mv hW c2 6 x y (P5 hG x hm) hs hx hr)
   have hok0:AT 0 ((vs.map (·.2)).map<|C3 H 6):=by
    exact aM0
   have emap:(vs.map λq=>(q.1,C3 H 6 q.2)).map (·.2)=(vs.map (·.2)).map (C3 H 6):=AI
   obtain ⟨cells,e1,e2,e3,e4⟩:=aoq (β:=β) (Z:=ZP Z β H λk=>k∈reach H 64 (ownsL<|vs.map (·.2)) []) (w:=w) (n:=0) (pv:=pv) hu h1 GH (by rw [emap];exact hr0) (by rw [emap];exact hok0)
   have hbw:Below w.heap.size w (w.alloc<|.cells cells e):=(Below.refl _ _).alloc (Aq _) _
   have hblk:(w.alloc<|.cells cells e).heap[w.heap.size]? =ah (.cells cells e (0,0)):=by
    exact aM
   obtain ⟨β',b1,b2,b3⟩:=(hP.same hbw).Km (ℓ:=⟨w.heap.size,0,ah len⟩) (nb:=⟨[],e,.vec ty l,X⟩) rfl ⟨ak,ak⟩
    (λ_=>⟨λhz=>by have:=hP.Bf _ hz;simp only at this;omega,hW.below.size,λj bj hj lj e=>by have:=hP.lt hj lj;simp only at e;omega⟩) (λβ' g1 g2=>by
     simp only [Bc,g2];refine ⟨cells,hblk,A0,A0,λj d' hd'=>?_⟩
     exact e4 _ w.heap.size (λb hz=>EE hbw<|hP.Bf b hz) (λj v hv=>by
      simpa using hv) j d' hd')
   simp only [KN] at b1 b2 b3;exact ⟨_,_,_,β',e1 w,hbw,λ_ h=> .inl h,b1,b3,aOL,by simp [okV,KN],by simp [KN],Vx⟩
  ·cases h2
 ·cases h
def aev {t:aVN}{len:aVx}{pl:aV2}{pv:aWs}{lv:LV}{H':aVB}(hW:RW G w0 Z0 Z β H w) (h:(o9 P H t len pl).all λq=>q=(lv,H')) (hp:pv.toList.map (·.1)=pl.map (·.1)) (hr:RL β Z w (pl.map (·.2))<|pv.toList.map (·.2)) (hk:AT (M H)<|pl.map (·.2)):
  ∃w' v,(Instr.buildSlice t len pv).run P w=.ok v w'/\Below w.heap.size w w'/\∃β',(∀k,k<M H->β' k=β k)/\RW G w0 Z0 Z β' H' w'/\R β' Z w' lv v/\okV (M H') lv/\M H'=M H+1/\(β'<|M H).b=w.heap.size:=by
 unfold o9 at h;split at h
 ·rename_i e hu
  split at h
  ·rename_i m z hsz hz
   split at h
   ·rename_i hc
    split at h
    ·rename_i cs hcs
     obtain ⟨rfl,rfl⟩:=h
     have hz0:RL β Z w ((au<|len*m).map λi=>LV.v<|z.cells[i%z.cells.size]!) ((Array.range<|len*m).map λi=>z.cells[i%z.cells.size]!).toList:=by
      exact xz
     have hok0:AT (M H) ((au<|len*m).map λi=>LV.v<|z.cells[i%z.cells.size]!):=by
      have:=U2 (M H)<|(au<|len*m).map λi=>z.cells[i%z.cells.size]!
      simpa [HI,Zi] using this
     obtain ⟨zs',f1,f2,f3⟩:=cW (β:=β) (Z:=Z) (w:=w) (n:=M H) pl pv.toList _ cs _ hcs hp hr hk hz0 hok0;obtain ⟨β',b1,b2,b3,b4⟩:=hW.alloc (t:=e) f2 f3
     have hbw:Below w.heap.size w (w.alloc<|.cells zs' e):=(Below.refl _ _).alloc (Aq _) _
     refine ⟨w.alloc<|.cells zs' e,.slice (ah ⟨w.heap.size,0,aj⟩) len len,?_,hbw,β',b1,b3,?_,Mb,AI,b2⟩
     ·exact yA
     ·simp only [R,b2]
      grind
    ·cases h
   ·cases h
  ·cases h
 ·cases h
def Ta {o:aVP}{g:aVY}{l:aVy}{lv:LV}{H':aVB}(h:(M0 P Γ H o g l).all λq=>q=(lv,H')):∃fn S,P.funcs[g]? =ah fn/\¬fn.body=aj/\¬fn.name= "runtime.NumGoroutine"/\Γ g=ah S/\
  (if noOwnL l then (S l).bind λy=>(T.ok (y,H):T<|LV×List AB)
      else if Ls P 8 o.type then ((GN (EY H 6) l).bind λ_=>Qz<|S<|l.map<|C3 H 6).bind λy=> .ok (y,H)
      else if KZ H (reach H 64 (ownsL l) []) l then ((GN (EY H 6) l).bind λ_=>S<|l.map<|C3 H 6).bind λy=> .ok (y,Ft (reach H 64 (ownsL l) []) 0 H) else .no).all (λq=>q=(lv,H')):=by
 unfold M0 at h;split at h
 ·rename_i fn hfn
  split at h
  ·rename_i hb
   split at h
   ·rename_i S hS
    grind
   ·cases h
  ·cases h
 ·cases h
def aFF {o:aVP}{lv:LV}(hΓ:∀g S,Γ g=ah S->Valid P G g S) (hW:RW G w0 Z0 Z β H w) (hF:RF ds β Z w (M H) F a) {g:aVY}{vals:aVS}(hrun:(execOp a.eval o).run P w=.ok (.enter g vals) w)
  {H':aVB} {l:aVy} (hargs:RL β Z w l vals.toList) (hoka:AT (M H) l) (h:(M0 P Γ H o g l).all λq=>q=(lv,H')):
  Dn P (Post ds G w0 Z0 F a β H w o lv H') ((execOp a.eval o).run P w):=by
 obtain ⟨fn,S,_,_,_,hS,h⟩:=Ta h;rw [hrun]
 have hval:=hΓ g S hS
 have hH:=λk b hb=>(hW.blk k b hb).2
 split at h
 ·rename_i hno
  obtain ⟨y,h1,h2⟩:=T.B5 h;simp only [T.all,Az] at h2;obtain ⟨rfl,rfl⟩:=h2
  have hok0:=noOwnL_ok _ hno hoka
  have hr0:RL β0 Z w l (vals).toList:=RL.mono (n:=0) (λ_ hk=>absurd hk A0) (λ_ h=>h) (λ_ _=>rfl) _ _ hok0 hargs
  refine (hval _ _ w Z y hW.Bf hW.Cl hok0 hr0 h1).mono λe w' ⟨hbw,v,he,hk,hr⟩=>⟨v,he,?_⟩
  refine ⟨_,β,hW.call hbw,hF.mono (Aq _) (λ_ _=>rfl) (λ_ h=> .inl h) λb hz=>EE hbw<|hW.Bf b hz,?_,okV.mono (NV _) _ hk,Aq _,λ_ _=>rfl,λk h1 h2=>A0,Nc hbw⟩
  exact aNY
 ·have hok0:=aDa hoka (λx hx=>Qh H hH 6 x hx)
  split at h
  ·obtain ⟨y,h1,h2⟩:=T.B5 h
   simp only [T.all,Az] at h2;obtain ⟨rfl,rfl⟩:=h2;obtain ⟨_,hg,h1⟩:=T.B5 h1
   have hG:=T.Bb (K':=λ_=>True) (λ_ _=>trivial) hg
   obtain ⟨h1,h2⟩:=aEf h1
   have hr0:RL β0 (ZP Z β H λ_=>True) w (l.map<|C3 H 6) (vals).toList:=
    RL.mono (n:=0) (λ_ hk=>absurd hk A0) (λ_ h=>h) (λ_ _=>rfl) _ _ hok0 (Td (S:=λ_=>True) hargs hoka (λ_ _=>trivial) λx y hm hs hx hr=>Mv hW (λ_ _ _ _ _ _=>trivial) 6 x y (P5 hG x hm) hs hx hr)
   have hzo:∀b,ZP Z β H (λ_=>True) b->b<w.heap.size:=λb hz=>by
    exact aNb
   refine (hval _ _ w _ y hzo (hW.Cl.mono (λ_ h=> .inl h) λ_ _=>rfl) hok0 hr0 h1).mono λe w' ⟨hbw,v,he,hk,hr⟩=>⟨v,he,?_⟩
   refine ⟨Z,β,hW.same hbw,hF.mono (Aq _) (λ_ _=>rfl) (λ_ h=>h) λb hz=>EE hbw<|hW.Bf b hz,?_,okV.mono (NV _) _ hk,Aq _,λ_ _=>rfl,λk h1 h2=>A0,Nc hbw⟩
   obtain ⟨x,hx⟩:=Zu.1 h2;rw [Cq hx hr];exact aLi hx
  ·split at h
   ·rename_i hcl
    obtain ⟨y,h1,h2⟩:=T.B5 h;simp only [T.all,Az] at h2;obtain ⟨rfl,rfl⟩:=h2;obtain ⟨_,hg,h1⟩:=T.B5 h1
    have hG:=T.Bb (K':=λ_=>True) (λ_ _=>trivial) hg
    obtain ⟨c1,c2⟩:=TE hcl
    have hP:=hW.pub<|reach H 64 (ownsL l) []
    have hr0:RL β0 (ZP Z β H λk=>k∈reach H 64 (ownsL l) []) w (l.map<|C3 H 6) (vals).toList:=
     RL.mono (n:=0) (λ_ hk=>absurd hk A0) (λ_ h=>h) (λ_ _=>rfl) _ _ hok0 (Td (S:=λk=>k∈reach H 64 (ownsL l) []) hargs hoka c1 λx y hm hs hx hr=>Mv hW c2 6 x y (P5 hG x hm) hs hx hr)
    refine (hval _ _ w _ y hP.Bf hP.Cl hok0 hr0 h1).mono λe w' ⟨hbw,v,he,hk,hr⟩=>⟨v,he,?_⟩
    refine ⟨_,β,hP.call hbw,?_,?_,okV.mono (NV _) _ hk,by rw [KN];exact Aq _,λ_ _=>rfl,λk h1 h2=>by rw [KN] at h2;omega,Nc hbw⟩
    ·exact aMO
    ·exact aNY
   ·cases h
def aEA {f:aWc}{args:aWg}{ty:aWo}{o:aVP}(ho:o.op=.call {callee:=.value f,args,argTypes:=ty}) {g:aVY}{ys:aVS}(hy:a.eval f=.func (.func g) #[] ys) {fn:aWi}(hfn:P.funcs[g]? =ah fn) (hb:¬fn.body=aj) (hb3:¬fn.name= "runtime.NumGoroutine") (w:aVJ):
  (execOp a.eval o).run P w=.ok (.enter g<|args.map a.eval++ys) w:=by
 unfold execOp;simp only [ho]
 simp [resolve,Deferred.ofValue,hy,invoke,callFunc,hfn,hb3,hb]
def aEL {f:aWc}{args:aWg}{ty:aWo}{o:aVP}(ho:o.op=.call {callee:=.value f,args,argTypes:=ty}) {g:aVY}{ys:aVS}(hy:a.eval f=.func (.func g) ys #[]) {fn:aWi}(hfn:P.funcs[g]? =ah fn) (hb:¬fn.body=aj) (hb3:¬fn.name= "runtime.NumGoroutine") (w:aVJ):
  (execOp a.eval o).run P w=.ok (.enter g<|ys++args.map a.eval) w:=by
 unfold execOp;simp only [ho]
 simp [resolve,Deferred.ofValue,hy,invoke,callFunc,hfn,hb3,hb]
def su (G:B3) (F:aVy) (f:aWc) (args:aWg) (g:aVY) (l:aVy):Prop:=
 (∃cap,AM G F f=.fn g cap/\l=args.toList.map (λx=>norm<|AM G F x)++cap)\/(∃fs,AM G F f=.fb g fs/\l=fs++args.toList.map (λx=>norm<|AM G F x))\/(AM G F f=.v (.func (.func g) #[] #[])/\l=args.toList.map (λx=>norm<|AM G F x))
def aEq {f:aWc}{args:aWg}{ty:aWo}{o:aVP}(ho:o.op=.call {callee:=.value f,args,argTypes:=ty}) (hW:RW G w0 Z0 Z β H w) (hF:RF ds β Z w H.length F a) {g:aVY}{l:aVy}
  (hf:su G F f args g l) {fn:aWi} (hfn:P.funcs[g]? =ah fn) (hb:¬fn.body=aj) (hb3:¬fn.name= "runtime.NumGoroutine"):
  ∃vals:aVS,(execOp a.eval o).run P w=.ok (.enter g vals) w/\RL β Z w l vals.toList/\AT H.length l:=by
 have hfr:=hF.eval hW.Cl f
 have ha:RL β Z w (args.toList.map λx=>norm<|AM G F x) (args.map a.eval).toList:=by
  exact aLw
 have hk:AT H.length (args.toList.map λx=>norm<|AM G F x):=by
  exact aMx
 rcases hf with ⟨cap,hf,rfl⟩ |⟨fs,hf,rfl⟩ |⟨hf,rfl⟩
 ·rw [hf] at hfr
  obtain ⟨⟨ys,hy,hyr⟩,hcap⟩:=hfr;exact ⟨_,aEA ho hy hfn hb hb3 w,by rw [lZ];exact RL.app ha hyr,AT.append hk hcap⟩
 ·rw [hf] at hfr
  obtain ⟨⟨ys,hy,hyr⟩,hcap⟩:=hfr;exact ⟨_,aEL ho hy hfn hb hb3 w,by rw [lZ];exact RL.app hyr ha,AT.append hcap hk⟩
 ·rw [hf] at hfr
  have hy:=hfr.1
  exact ⟨_,aEA ho hy hfn hb hb3 w,A8,hk⟩
def aEY {r:aWc}{name:aWC}{args:aWg}{ty:aWo}{o:aVP}(ho:o.op=.call {callee:=.invoke r name,args,argTypes:=ty}) {t:aVN}{v rv:aVQ}{g:aVY}(hy:a.eval r=.iface t v) (hm:J9 P (method (P.types.size+Made.depth) t v name)=ah (g,rv)) {fn:aWi}(hfn:P.funcs[g]? =ah fn) (hb:¬fn.body=aj) (hb3:¬fn.name= "runtime.NumGoroutine") (w:aVJ):
  (execOp a.eval o).run P w=.ok (.enter g<|#[rv]++args.map a.eval) w:=by
 unfold execOp;simp only [ho]
 have hr:=cV w hm
 have h0:(#[Value.iface t v]++args.map a.eval)[0]? =ah (.iface t v):=A8
 have hx:(args.map a.eval).extract 0 args.size=args.map a.eval:=by
  grind
 simp [resolve,hy,invoke,callMethod,hr,callFunc,hfn,hb3,hb,h0,hx]
def aIG {x:LV}{name:aWC}{g:aVY}{rv z:aVQ}(h:jF P x name=ah (g,rv)) (hr:R β Z w x z):∃t v,z=.iface t v/\J9 P (method (P.types.size+Made.depth) t v name)=ah (g,rv):=by
 unfold jF at h;split at h
 ·rename_i t v hp
  exact ⟨t,v,Cq hp hr,h⟩
 ·cases h
def aEr {f:aWc}{args:aWg}{ty:aWo}{o:aVP}{lv:LV}(ho:o.op=.call {callee:=.value f,args,argTypes:=ty}) (hΓ:∀g S,Γ g=ah S->Valid P G g S)
  (hW:RW G w0 Z0 Z β H w) (hF:RF ds β Z w (M H) F a) {g:aVY} {l:aVy} (hf:su G F f args g l)
  {H':aVB} (h:(M0 P Γ H o g l).all λq=>q=(lv,H')):
  Dn P (Post ds G w0 Z0 F a β H w o lv H') ((execOp a.eval o).run P w):=by
 obtain ⟨fn,S,h1,h2,h3,_⟩:=Ta h;obtain ⟨vals,q1,q2,q3⟩:=aEq ho hW hF hf h1 h2 h3;exact aFF hΓ hW hF q1 q2 q3 h
end Go.Sx
end
